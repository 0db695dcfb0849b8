/- What the functions that the law reaches compute, by the engine; written by program. -/
import Derived.Test.YtbidkfbcmhioiaaDoorFn1
set_option linter.unusedVariables false
set_option maxRecDepth 100000
open Go Go.Eng Go.Proofs
namespace Go.Eng.N
/-! ### f28: plenum/plenumref39.Without -/
noncomputable def f28_p12b0 (s8 : ByteArray) (n9 : Int) (s10 : ByteArray) (n11 : Int) (n12 : Int) (es13 : List (List PC)) (full14 : Bool) (s15 : ByteArray) (n16 : Int) (n17 : Int) (s18 : ByteArray) (n19 : Int) (n20 : Int) (i21 : Nat) (n22 : Nat) (es23 : List (List PC)) (N0 : Int → Nat → Nat → (List (List PC)) → Prop) (k0 : Nat → Nat → (List (List PC)) → Prop) : Prop := bB (decide (n9 < ((es13.length : Nat) : Int))) ((0 ≤ n9 ∧ n9 < ((es13.length : Nat) : Int)) ∧ oS (ext (List.getD es13 (Int.toNat n9) []) 0 1) fun s24 => bB (!(s24.toList == s8.toList)) ((0 ≤ n9 ∧ n9 < ((es13.length : Nat) : Int)) ∧ cS (ext (List.getD es13 (Int.toNat n9) []) 0 5) fun s26 r25 => cI .i64 r25 fun n28 r27 => cI .i64 r27 fun n30 r29 => cI .i64 r29 fun n32 r31 => cI .i64 r31 fun n34 r33 => nilC r33 <| (i21 + n22) = es23.length ∧ (n22 + 1) * 48 ≤ 2 ^ 46 ∧ (n22 + 1) ≤ 2 ^ 46 ∧ N0 (w64 (n9 + 1)) 0 (n22 + 1) (List.drop i21 es23 ++ [[pS s26, pI n28, pI n30, pI n32, pI n34]])) (N0 (w64 (n9 + 1)) i21 n22 es23)) (k0 i21 n22 es23)
noncomputable def f28_p12 (s8 : ByteArray) (s10 : ByteArray) (n11 : Int) (n12 : Int) (es13 : List (List PC)) (full14 : Bool) (s15 : ByteArray) (n16 : Int) (n17 : Int) (s18 : ByteArray) (n19 : Int) (n20 : Int) (k0 : Nat → Nat → (List (List PC)) → Prop) : Int × Nat × Nat × (List (List PC)) → Prop := LoopP fun x N => f28_p12b0 s8 x.1 s10 n11 n12 es13 full14 s15 n16 n17 s18 n19 n20 x.2.1 x.2.2.1 x.2.2.2 (fun n9 i21 n22 es23 => N (n9, i21, n22, es23)) k0
noncomputable def f28_p38b0 (n69 : Int) (n70 : Int) (n71 : Int) (s72 : ByteArray) (n73 : Int) (n74 : Int) (es75 : List (List PC)) (full76 : Bool) (s77 : ByteArray) (n78 : Int) (n79 : Int) (s80 : ByteArray) (n81 : Int) (n82 : Int) (i83 : Nat) (n84 : Nat) (es85 : List (List PC)) (N0 : Int → Prop) (k0 : Int → ByteArray → Int → Int → Prop) (k1 : Unit → Prop) : Prop := bB (decide (n71 ≤ 4)) (f60 s72 n73 n74 es75 full76 n69 n70 n71 (fun b86 => bB b86 (f60 s80 n81 n82 (List.take n84 (List.drop i83 es85)) false n69 n70 n71 (fun b87 => bB (!b87) (k0 10 (⟨#[]⟩ : ByteArray) 0 0) (N0 (w64 (2 * n71))))) (N0 (w64 (2 * n71))))) (k1 ())
noncomputable def f28_p38 (n69 : Int) (n70 : Int) (s72 : ByteArray) (n73 : Int) (n74 : Int) (es75 : List (List PC)) (full76 : Bool) (s77 : ByteArray) (n78 : Int) (n79 : Int) (s80 : ByteArray) (n81 : Int) (n82 : Int) (i83 : Nat) (n84 : Nat) (es85 : List (List PC)) (k0 : Int → ByteArray → Int → Int → Prop) (k1 : Unit → Prop) : Int → Prop := LoopP fun x N => f28_p38b0 n69 n70 x s72 n73 n74 es75 full76 s77 n78 n79 s80 n81 n82 i83 n84 es85 (fun n71 => N n71) k0 k1
noncomputable def f28_p32b0 (n53 : Int) (n54 : Int) (s55 : ByteArray) (n56 : Int) (n57 : Int) (es58 : List (List PC)) (full59 : Bool) (s60 : ByteArray) (n61 : Int) (n62 : Int) (s63 : ByteArray) (n64 : Int) (n65 : Int) (i66 : Nat) (n67 : Nat) (es68 : List (List PC)) (N0 : Int → Prop) (k0 : Int → ByteArray → Int → Int → Prop) (k1 : Unit → Prop) : Prop := bB (decide (n54 < 1440)) (f28_p38 n53 n54 s55 n56 n57 es58 full59 s60 n61 n62 s63 n64 n65 i66 n67 es68 (fun n88 s89 n90 n91 => k0 n88 s89 n90 n91) (fun (_ : Unit) => N0 (w64 (n54 + 1))) 1) (k1 ())
noncomputable def f28_p32 (n53 : Int) (s55 : ByteArray) (n56 : Int) (n57 : Int) (es58 : List (List PC)) (full59 : Bool) (s60 : ByteArray) (n61 : Int) (n62 : Int) (s63 : ByteArray) (n64 : Int) (n65 : Int) (i66 : Nat) (n67 : Nat) (es68 : List (List PC)) (k0 : Int → ByteArray → Int → Int → Prop) (k1 : Unit → Prop) : Int → Prop := LoopP fun x N => f28_p32b0 n53 x s55 n56 n57 es58 full59 s60 n61 n62 s63 n64 n65 i66 n67 es68 (fun n54 => N n54) k0 k1
noncomputable def f28_p26b0 (n38 : Int) (s39 : ByteArray) (n40 : Int) (n41 : Int) (es42 : List (List PC)) (full43 : Bool) (s44 : ByteArray) (n45 : Int) (n46 : Int) (s47 : ByteArray) (n48 : Int) (n49 : Int) (i50 : Nat) (n51 : Nat) (es52 : List (List PC)) (N0 : Int → Prop) (k0 : Int → ByteArray → Int → Int → Prop) (k1 : Unit → Prop) : Prop := bB (decide (n38 < 7)) (f28_p32 n38 s39 n40 n41 es42 full43 s44 n45 n46 s47 n48 n49 i50 n51 es52 (fun n92 s93 n94 n95 => k0 n92 s93 n94 n95) (fun (_ : Unit) => N0 (w64 (n38 + 1))) 0) (k1 ())
noncomputable def f28_p26 (s39 : ByteArray) (n40 : Int) (n41 : Int) (es42 : List (List PC)) (full43 : Bool) (s44 : ByteArray) (n45 : Int) (n46 : Int) (s47 : ByteArray) (n48 : Int) (n49 : Int) (i50 : Nat) (n51 : Nat) (es52 : List (List PC)) (k0 : Int → ByteArray → Int → Int → Prop) (k1 : Unit → Prop) : Int → Prop := LoopP fun x N => f28_p26b0 x s39 n40 n41 es42 full43 s44 n45 n46 s47 n48 n49 i50 n51 es52 (fun n38 => N n38) k0 k1
noncomputable def f28_d (s1 : ByteArray) (n2 : Int) (n3 : Int) (es4 : List (List PC)) (full5 : Bool) (s6 : ByteArray) (k0 : ByteArray → Int → Int → (List (List PC)) → Bool → Int → Prop) : Prop := f17 s1 n2 n3 es4 full5 (fun n7 => bB (n7 != 0) (k0 (⟨#[]⟩ : ByteArray) 0 0 [] true n7) (f28_p12 s6 s1 n2 n3 es4 full5 (⟨#[]⟩ : ByteArray) 0 0 s1 n2 n3 (fun i35 n36 es37 => bB (((n36 : Nat) : Int) == ((es4.length : Nat) : Int)) (k0 (⟨#[]⟩ : ByteArray) 0 0 [] true 3) (f28_p26 s1 n2 n3 es4 full5 (⟨#[]⟩ : ByteArray) 0 0 s1 n2 n3 i35 n36 es37 (fun n96 s97 n98 n99 => k0 s97 n98 n99 [] true n96) (fun (_ : Unit) => k0 s1 n2 n3 (List.take n36 (List.drop i35 es37)) false 0) 0)) (0, 0, 0, [])))
structure f28 (s1 : ByteArray) (n2 : Int) (n3 : Int) (es4 : List (List PC)) (full5 : Bool) (s6 : ByteArray) (k0 : ByteArray → Int → Int → (List (List PC)) → Bool → Int → Prop) : Prop where
  run : f28_d s1 n2 n3 es4 full5 s6 k0
noncomputable def f28_p12L : Told := fun s K => match s with
  | ⟨tm, hp⟩ => getS [.skip 1, .v (.one (.str)), .v (.one (.ptr 0 0 0)), .skip 1, .v (.one (.ptr 1 0 0)), .skip 2, .v (.one (.ptr 2 0 0)), .v (.one (.int .i64)), .skip 76] [.box [.str, .int .i64, .int .i64, .sl 5], .box [.str, .int .i64, .int .i64, .nil 5], .box [.str, .int .i64, .int .i64, .ref 3], .vec 5 true] tm hp fun (xx : (Unit × (ByteArray × (Unit × (Unit × (Unit × (Unit × (Unit × (Int × (Unit × Unit)))))))))) (yy : ((ByteArray × (Int × (Int × ((List (List PC) × Bool) × Unit)))) × ((ByteArray × (Int × (Int × (Unit × Unit)))) × ((ByteArray × (Int × (Int × ((Nat × Nat) × Unit)))) × ((List (List PC)) × Unit))))) => f28_p12 xx.2.1 yy.1.1 yy.1.2.1 yy.1.2.2.1 yy.1.2.2.2.1.1 yy.1.2.2.2.1.2 yy.2.1.1 yy.2.1.2.1 yy.2.1.2.2.1 yy.2.2.1.1 yy.2.2.1.2.1 yy.2.2.1.2.2.1 (fun i0_0 n0_1 es0_2 => K (.exit 0) ⟨mkS 85 [(2, .w (.one (.ptr 0 0 0))), (4, .w (.one (.ptr 1 0 0))), (7, .w (.one (.ptr 2 0 0)))], [.box [.p (pS yy.1.1), .p (pI yy.1.2.1), .p (pI yy.1.2.2.1), .p (.sl 5 yy.1.2.2.2.1.1 yy.1.2.2.2.1.2)], .box [.p (pS yy.2.1.1), .p (pI yy.2.1.2.1), .p (pI yy.2.1.2.2.1), .p (.sl 5 [] true)], .box [.p (pS yy.2.2.1.1), .p (pI yy.2.2.1.2.1), .p (pI yy.2.2.1.2.2.1), .ref 3 i0_0 n0_1], .vec 5 es0_2 true]⟩) (xx.2.2.2.2.2.2.2.1, yy.2.2.1.2.2.2.1.1, yy.2.2.1.2.2.2.1.2, yy.2.2.2.1)
noncomputable def f28_p38L : Told := fun s K => match s with
  | ⟨tm, hp⟩ => getS [.skip 2, .v (.one (.ptr 0 0 0)), .skip 1, .v (.one (.ptr 1 0 0)), .skip 2, .v (.one (.ptr 2 0 0)), .skip 1, .v (.one (.int .i64)), .v (.one (.int .i64)), .v (.one (.int .i64)), .skip 73] [.box [.str, .int .i64, .int .i64, .sl 5], .box [.str, .int .i64, .int .i64, .nil 5], .box [.str, .int .i64, .int .i64, .ref 3], .vec 5 true] tm hp fun (xx : (Unit × (Unit × (Unit × (Unit × (Unit × (Unit × (Unit × (Int × (Int × (Int × (Unit × Unit)))))))))))) (yy : ((ByteArray × (Int × (Int × ((List (List PC) × Bool) × Unit)))) × ((ByteArray × (Int × (Int × (Unit × Unit)))) × ((ByteArray × (Int × (Int × ((Nat × Nat) × Unit)))) × ((List (List PC)) × Unit))))) => f28_p38 xx.2.2.2.2.2.2.2.1 xx.2.2.2.2.2.2.2.2.1 yy.1.1 yy.1.2.1 yy.1.2.2.1 yy.1.2.2.2.1.1 yy.1.2.2.2.1.2 yy.2.1.1 yy.2.1.2.1 yy.2.1.2.2.1 yy.2.2.1.1 yy.2.2.1.2.1 yy.2.2.1.2.2.1 yy.2.2.1.2.2.2.1.1 yy.2.2.1.2.2.2.1.2 yy.2.2.2.1 (fun n0_3 s0_4 n0_5 n0_6 => K .ret ⟨mkS 85 [(4, .w (.one (.ptr 0 0 0))), (5, I n0_3)], [.box [.p (pS s0_4), .p (pI n0_5), .p (pI n0_6), .p (.sl 5 [] true)]]⟩) (fun (_ : Unit) => K (.exit 6) ⟨mkS 85 [(2, .w (.one (.ptr 0 0 0))), (4, .w (.one (.ptr 1 0 0))), (7, .w (.one (.ptr 2 0 0))), (9, I xx.2.2.2.2.2.2.2.1), (10, I xx.2.2.2.2.2.2.2.2.1)], [.box [.p (pS yy.1.1), .p (pI yy.1.2.1), .p (pI yy.1.2.2.1), .p (.sl 5 yy.1.2.2.2.1.1 yy.1.2.2.2.1.2)], .box [.p (pS yy.2.1.1), .p (pI yy.2.1.2.1), .p (pI yy.2.1.2.2.1), .p (.sl 5 [] true)], .box [.p (pS yy.2.2.1.1), .p (pI yy.2.2.1.2.1), .p (pI yy.2.2.1.2.2.1), .ref 3 yy.2.2.1.2.2.2.1.1 yy.2.2.1.2.2.2.1.2], .vec 5 yy.2.2.2.1 true]⟩) xx.2.2.2.2.2.2.2.2.2.1
noncomputable def f28_p32L : Told := fun s K => match s with
  | ⟨tm, hp⟩ => getS [.skip 2, .v (.one (.ptr 0 0 0)), .skip 1, .v (.one (.ptr 1 0 0)), .skip 2, .v (.one (.ptr 2 0 0)), .skip 1, .v (.one (.int .i64)), .v (.one (.int .i64)), .skip 74] [.box [.str, .int .i64, .int .i64, .sl 5], .box [.str, .int .i64, .int .i64, .nil 5], .box [.str, .int .i64, .int .i64, .ref 3], .vec 5 true] tm hp fun (xx : (Unit × (Unit × (Unit × (Unit × (Unit × (Unit × (Unit × (Int × (Int × (Unit × Unit))))))))))) (yy : ((ByteArray × (Int × (Int × ((List (List PC) × Bool) × Unit)))) × ((ByteArray × (Int × (Int × (Unit × Unit)))) × ((ByteArray × (Int × (Int × ((Nat × Nat) × Unit)))) × ((List (List PC)) × Unit))))) => f28_p32 xx.2.2.2.2.2.2.2.1 yy.1.1 yy.1.2.1 yy.1.2.2.1 yy.1.2.2.2.1.1 yy.1.2.2.2.1.2 yy.2.1.1 yy.2.1.2.1 yy.2.1.2.2.1 yy.2.2.1.1 yy.2.2.1.2.1 yy.2.2.1.2.2.1 yy.2.2.1.2.2.2.1.1 yy.2.2.1.2.2.2.1.2 yy.2.2.2.1 (fun n0_7 s0_8 n0_9 n0_10 => K .ret ⟨mkS 85 [(4, .w (.one (.ptr 0 0 0))), (5, I n0_7)], [.box [.p (pS s0_8), .p (pI n0_9), .p (pI n0_10), .p (.sl 5 [] true)]]⟩) (fun (_ : Unit) => K (.exit 4) ⟨mkS 85 [(2, .w (.one (.ptr 0 0 0))), (4, .w (.one (.ptr 1 0 0))), (7, .w (.one (.ptr 2 0 0))), (9, I xx.2.2.2.2.2.2.2.1)], [.box [.p (pS yy.1.1), .p (pI yy.1.2.1), .p (pI yy.1.2.2.1), .p (.sl 5 yy.1.2.2.2.1.1 yy.1.2.2.2.1.2)], .box [.p (pS yy.2.1.1), .p (pI yy.2.1.2.1), .p (pI yy.2.1.2.2.1), .p (.sl 5 [] true)], .box [.p (pS yy.2.2.1.1), .p (pI yy.2.2.1.2.1), .p (pI yy.2.2.1.2.2.1), .ref 3 yy.2.2.1.2.2.2.1.1 yy.2.2.1.2.2.2.1.2], .vec 5 yy.2.2.2.1 true]⟩) xx.2.2.2.2.2.2.2.2.1
noncomputable def f28_p26L : Told := fun s K => match s with
  | ⟨tm, hp⟩ => getS [.skip 2, .v (.one (.ptr 0 0 0)), .skip 1, .v (.one (.ptr 1 0 0)), .skip 2, .v (.one (.ptr 2 0 0)), .skip 1, .v (.one (.int .i64)), .skip 75] [.box [.str, .int .i64, .int .i64, .sl 5], .box [.str, .int .i64, .int .i64, .nil 5], .box [.str, .int .i64, .int .i64, .ref 3], .vec 5 true] tm hp fun (xx : (Unit × (Unit × (Unit × (Unit × (Unit × (Unit × (Unit × (Int × (Unit × Unit)))))))))) (yy : ((ByteArray × (Int × (Int × ((List (List PC) × Bool) × Unit)))) × ((ByteArray × (Int × (Int × (Unit × Unit)))) × ((ByteArray × (Int × (Int × ((Nat × Nat) × Unit)))) × ((List (List PC)) × Unit))))) => f28_p26 yy.1.1 yy.1.2.1 yy.1.2.2.1 yy.1.2.2.2.1.1 yy.1.2.2.2.1.2 yy.2.1.1 yy.2.1.2.1 yy.2.1.2.2.1 yy.2.2.1.1 yy.2.2.1.2.1 yy.2.2.1.2.2.1 yy.2.2.1.2.2.2.1.1 yy.2.2.1.2.2.2.1.2 yy.2.2.2.1 (fun n0_11 s0_12 n0_13 n0_14 => K .ret ⟨mkS 85 [(4, .w (.one (.ptr 0 0 0))), (5, I n0_11)], [.box [.p (pS s0_12), .p (pI n0_13), .p (pI n0_14), .p (.sl 5 [] true)]]⟩) (fun (_ : Unit) => K (.exit 2) ⟨mkS 85 [(4, .w (.one (.ptr 0 0 0))), (7, .w (.one (.ptr 1 0 0)))], [.box [.p (pS yy.2.1.1), .p (pI yy.2.1.2.1), .p (pI yy.2.1.2.2.1), .p (.sl 5 [] true)], .box [.p (pS yy.2.2.1.1), .p (pI yy.2.2.1.2.1), .p (pI yy.2.2.1.2.2.1), .ref 2 yy.2.2.1.2.2.2.1.1 yy.2.2.1.2.2.2.1.2], .vec 5 yy.2.2.2.1 true]⟩) xx.2.2.2.2.2.2.2.1
noncomputable def f28_tab : List (Nat × Told) := [(12, f28_p12L), (38, f28_p38L), (32, f28_p32L), (26, f28_p26L)]
noncomputable def f28_call : FuncId → List TV → List Entry → (TV → List Entry → Prop) → Prop := addCall 60 f60_G (addCall 17 f17_G (noCalls))
noncomputable def f28_C : Ctx := { ty := tyOf tab, glob := glob, byRef := byRef, keep := fun k i => lookN [] (lookN [] ([(12, [(0, [1, 2, 4, 7, 8]), (2, [4, 5]), (3, [2, 4, 7])]), (38, [(0, [2, 4, 7, 9, 10, 11]), (2, [4, 5]), (5, [4, 7]), (6, [2, 4, 7, 9]), (7, [2, 4, 7, 9]), (8, [2, 4, 7, 9, 10]), (9, [2, 4, 7, 9, 10])]), (32, [(0, [2, 4, 7, 9, 10]), (2, [4, 5]), (5, [4, 7]), (6, [2, 4, 7, 9]), (7, [2, 4, 7, 9])]), (26, [(0, [2, 4, 7, 9]), (2, [4, 5]), (5, [4, 7])])] : List (Nat × List (Nat × List Nat))) k) i, late := lookN [] ([] : List (Nat × List Nat)), nref := lookN [] ([] : List (Nat × List Nat)), nbox := lookN [] ([(12, [(2, 3)])] : List (Nat × List (Nat × Nat))), take := [], rnil := false, m := 0, fz := true, loops := lookL f28_tab, call := f28_call }
noncomputable def f28_p12_mk (s8 : ByteArray) (s10 : ByteArray) (n11 : Int) (n12 : Int) (es13 : List (List PC)) (full14 : Bool) (s15 : ByteArray) (n16 : Int) (n17 : Int) (s18 : ByteArray) (n19 : Int) (n20 : Int) (x : Int × Nat × Nat × (List (List PC))) : St := ⟨mkS 85 [(1, S s8), (2, .w (.one (.ptr 0 0 0))), (4, .w (.one (.ptr 1 0 0))), (7, .w (.one (.ptr 2 0 0))), (8, I x.1)], [.box [.p (pS s10), .p (pI n11), .p (pI n12), .p (.sl 5 es13 full14)], .box [.p (pS s15), .p (pI n16), .p (pI n17), .p (.sl 5 [] true)], .box [.p (pS s18), .p (pI n19), .p (pI n20), .ref 3 x.2.1 x.2.2.1], .vec 5 x.2.2.2 true]⟩
set_option maxRecDepth 100000 in
theorem f28_p12e0 (s_37 : ByteArray) (n_38 : Int) (s_39 : ByteArray) (n_40 : Int) (n_41 : Int) (es_42 : List (List PC)) (full_43 : Bool) (s_44 : ByteArray) (n_45 : Int) (n_46 : Int) (s_47 : ByteArray) (n_48 : Int) (n_49 : Int) (i_50 : Nat) (n_51 : Nat) (es_52 : List (List PC)) (N : St → Prop) (K : TExit → St → Prop) : (f28_p12b0 s_37 n_38 s_39 n_40 n_41 es_42 full_43 s_44 n_45 n_46 s_47 n_48 n_49 i_50 n_51 es_52 (fun z1 z13 z14 z15 => N (f28_p12_mk s_37 s_39 n_40 n_41 es_42 full_43 s_44 n_45 n_46 s_47 n_48 n_49 (z1, z13, z14, z15))) (fun i0_53 n0_54 es0_55 => K (.exit 0) ⟨mkS 85 [(2, .w (.one (.ptr 0 0 0))), (4, .w (.one (.ptr 1 0 0))), (7, .w (.one (.ptr 2 0 0)))], [.box [.p (pS s_39), .p (pI n_40), .p (pI n_41), .p (.sl 5 es_42 full_43)], .box [.p (pS s_44), .p (pI n_45), .p (pI n_46), .p (.sl 5 [] true)], .box [.p (pS s_47), .p (pI n_48), .p (pI n_49), .ref 3 i0_53 n0_54], .vec 5 es0_55 true]⟩)) = execT f28_C (nthC (bodies (bodyOf Tryd.f28)) 0) (f28_p12_mk s_37 s_39 n_40 n_41 es_42 full_43 s_44 n_45 n_46 s_47 n_48 n_49 (n_38, i_50, n_51, es_52)) (loopK N (normK f28_C 12) fun e s => K e (normOut f28_C 12 e s)) := by kernel_rfl
noncomputable def f28_p38_mk (n69 : Int) (n70 : Int) (s72 : ByteArray) (n73 : Int) (n74 : Int) (es75 : List (List PC)) (full76 : Bool) (s77 : ByteArray) (n78 : Int) (n79 : Int) (s80 : ByteArray) (n81 : Int) (n82 : Int) (i83 : Nat) (n84 : Nat) (es85 : List (List PC)) (x : Int) : St := ⟨mkS 85 [(2, .w (.one (.ptr 0 0 0))), (4, .w (.one (.ptr 1 0 0))), (7, .w (.one (.ptr 2 0 0))), (9, I n69), (10, I n70), (11, I x)], [.box [.p (pS s72), .p (pI n73), .p (pI n74), .p (.sl 5 es75 full76)], .box [.p (pS s77), .p (pI n78), .p (pI n79), .p (.sl 5 [] true)], .box [.p (pS s80), .p (pI n81), .p (pI n82), .ref 3 i83 n84], .vec 5 es85 true]⟩
set_option maxRecDepth 100000 in
theorem f28_p38e0 (n_73 : Int) (n_74 : Int) (n_75 : Int) (s_76 : ByteArray) (n_77 : Int) (n_78 : Int) (es_79 : List (List PC)) (full_80 : Bool) (s_81 : ByteArray) (n_82 : Int) (n_83 : Int) (s_84 : ByteArray) (n_85 : Int) (n_86 : Int) (i_87 : Nat) (n_88 : Nat) (es_89 : List (List PC)) (N : St → Prop) (K : TExit → St → Prop) : (f28_p38b0 n_73 n_74 n_75 s_76 n_77 n_78 es_79 full_80 s_81 n_82 n_83 s_84 n_85 n_86 i_87 n_88 es_89 (fun z2 => N (f28_p38_mk n_73 n_74 s_76 n_77 n_78 es_79 full_80 s_81 n_82 n_83 s_84 n_85 n_86 i_87 n_88 es_89 z2)) (fun n0_90 s0_91 n0_92 n0_93 => K .ret ⟨mkS 85 [(4, .w (.one (.ptr 0 0 0))), (5, I n0_90)], [.box [.p (pS s0_91), .p (pI n0_92), .p (pI n0_93), .p (.sl 5 [] true)]]⟩) (fun (_ : Unit) => K (.exit 6) ⟨mkS 85 [(2, .w (.one (.ptr 0 0 0))), (4, .w (.one (.ptr 1 0 0))), (7, .w (.one (.ptr 2 0 0))), (9, I n_73), (10, I n_74)], [.box [.p (pS s_76), .p (pI n_77), .p (pI n_78), .p (.sl 5 es_79 full_80)], .box [.p (pS s_81), .p (pI n_82), .p (pI n_83), .p (.sl 5 [] true)], .box [.p (pS s_84), .p (pI n_85), .p (pI n_86), .ref 3 i_87 n_88], .vec 5 es_89 true]⟩)) = execT f28_C (nthC (bodies (bodyOf Tryd.f28)) 3) (f28_p38_mk n_73 n_74 s_76 n_77 n_78 es_79 full_80 s_81 n_82 n_83 s_84 n_85 n_86 i_87 n_88 es_89 n_75) (loopK N (normK f28_C 38) fun e s => K e (normOut f28_C 38 e s)) := by kernel_rfl
noncomputable def f28_p32_mk (n53 : Int) (s55 : ByteArray) (n56 : Int) (n57 : Int) (es58 : List (List PC)) (full59 : Bool) (s60 : ByteArray) (n61 : Int) (n62 : Int) (s63 : ByteArray) (n64 : Int) (n65 : Int) (i66 : Nat) (n67 : Nat) (es68 : List (List PC)) (x : Int) : St := ⟨mkS 85 [(2, .w (.one (.ptr 0 0 0))), (4, .w (.one (.ptr 1 0 0))), (7, .w (.one (.ptr 2 0 0))), (9, I n53), (10, I x)], [.box [.p (pS s55), .p (pI n56), .p (pI n57), .p (.sl 5 es58 full59)], .box [.p (pS s60), .p (pI n61), .p (pI n62), .p (.sl 5 [] true)], .box [.p (pS s63), .p (pI n64), .p (pI n65), .ref 3 i66 n67], .vec 5 es68 true]⟩
set_option maxRecDepth 100000 in
theorem f28_p32e0 (n_110 : Int) (n_111 : Int) (s_112 : ByteArray) (n_113 : Int) (n_114 : Int) (es_115 : List (List PC)) (full_116 : Bool) (s_117 : ByteArray) (n_118 : Int) (n_119 : Int) (s_120 : ByteArray) (n_121 : Int) (n_122 : Int) (i_123 : Nat) (n_124 : Nat) (es_125 : List (List PC)) (N : St → Prop) (K : TExit → St → Prop) : (f28_p32b0 n_110 n_111 s_112 n_113 n_114 es_115 full_116 s_117 n_118 n_119 s_120 n_121 n_122 i_123 n_124 es_125 (fun z1 => N (f28_p32_mk n_110 s_112 n_113 n_114 es_115 full_116 s_117 n_118 n_119 s_120 n_121 n_122 i_123 n_124 es_125 z1)) (fun n0_126 s0_127 n0_128 n0_129 => K .ret ⟨mkS 85 [(4, .w (.one (.ptr 0 0 0))), (5, I n0_126)], [.box [.p (pS s0_127), .p (pI n0_128), .p (pI n0_129), .p (.sl 5 [] true)]]⟩) (fun (_ : Unit) => K (.exit 4) ⟨mkS 85 [(2, .w (.one (.ptr 0 0 0))), (4, .w (.one (.ptr 1 0 0))), (7, .w (.one (.ptr 2 0 0))), (9, I n_110)], [.box [.p (pS s_112), .p (pI n_113), .p (pI n_114), .p (.sl 5 es_115 full_116)], .box [.p (pS s_117), .p (pI n_118), .p (pI n_119), .p (.sl 5 [] true)], .box [.p (pS s_120), .p (pI n_121), .p (pI n_122), .ref 3 i_123 n_124], .vec 5 es_125 true]⟩)) = execT f28_C (nthC (bodies (bodyOf Tryd.f28)) 2) (f28_p32_mk n_110 s_112 n_113 n_114 es_115 full_116 s_117 n_118 n_119 s_120 n_121 n_122 i_123 n_124 es_125 n_111) (loopK N (normK f28_C 32) fun e s => K e (normOut f28_C 32 e s)) := by kernel_rfl
noncomputable def f28_p26_mk (s39 : ByteArray) (n40 : Int) (n41 : Int) (es42 : List (List PC)) (full43 : Bool) (s44 : ByteArray) (n45 : Int) (n46 : Int) (s47 : ByteArray) (n48 : Int) (n49 : Int) (i50 : Nat) (n51 : Nat) (es52 : List (List PC)) (x : Int) : St := ⟨mkS 85 [(2, .w (.one (.ptr 0 0 0))), (4, .w (.one (.ptr 1 0 0))), (7, .w (.one (.ptr 2 0 0))), (9, I x)], [.box [.p (pS s39), .p (pI n40), .p (pI n41), .p (.sl 5 es42 full43)], .box [.p (pS s44), .p (pI n45), .p (pI n46), .p (.sl 5 [] true)], .box [.p (pS s47), .p (pI n48), .p (pI n49), .ref 3 i50 n51], .vec 5 es52 true]⟩
set_option maxRecDepth 100000 in
theorem f28_p26e0 (n_145 : Int) (s_146 : ByteArray) (n_147 : Int) (n_148 : Int) (es_149 : List (List PC)) (full_150 : Bool) (s_151 : ByteArray) (n_152 : Int) (n_153 : Int) (s_154 : ByteArray) (n_155 : Int) (n_156 : Int) (i_157 : Nat) (n_158 : Nat) (es_159 : List (List PC)) (N : St → Prop) (K : TExit → St → Prop) : (f28_p26b0 n_145 s_146 n_147 n_148 es_149 full_150 s_151 n_152 n_153 s_154 n_155 n_156 i_157 n_158 es_159 (fun z0 => N (f28_p26_mk s_146 n_147 n_148 es_149 full_150 s_151 n_152 n_153 s_154 n_155 n_156 i_157 n_158 es_159 z0)) (fun n0_160 s0_161 n0_162 n0_163 => K .ret ⟨mkS 85 [(4, .w (.one (.ptr 0 0 0))), (5, I n0_160)], [.box [.p (pS s0_161), .p (pI n0_162), .p (pI n0_163), .p (.sl 5 [] true)]]⟩) (fun (_ : Unit) => K (.exit 2) ⟨mkS 85 [(4, .w (.one (.ptr 0 0 0))), (7, .w (.one (.ptr 1 0 0)))], [.box [.p (pS s_151), .p (pI n_152), .p (pI n_153), .p (.sl 5 [] true)], .box [.p (pS s_154), .p (pI n_155), .p (pI n_156), .ref 2 i_157 n_158], .vec 5 es_159 true]⟩)) = execT f28_C (nthC (bodies (bodyOf Tryd.f28)) 1) (f28_p26_mk s_146 n_147 n_148 es_149 full_150 s_151 n_152 n_153 s_154 n_155 n_156 i_157 n_158 es_159 n_145) (loopK N (normK f28_C 26) fun e s => K e (normOut f28_C 26 e s)) := by kernel_rfl
set_option maxHeartbeats 4000000 in
theorem f28_p12_ok : LoopOk f28_C (nthC (bodies (bodyOf Tryd.f28)) 0) := by
  refine LoopOk.of f28_p12L (by kernel_rfl) fun σ K h => ?_
  have hk : loopKey (nthC (bodies (bodyOf Tryd.f28)) 0) = 12 := by kernel_rfl
  rw [hk] at h ⊢
  generalize hs : normK f28_C 12 σ = s at h
  obtain ⟨tm, hp⟩ := s
  unfold f28_p12L at h
  dsimp only at h
  obtain ⟨xx, yy, rfl, rfl, h⟩ := getS_elim h
  refine iter_of (f28_p12_mk xx.2.1 yy.1.1 yy.1.2.1 yy.1.2.2.1 yy.1.2.2.2.1.1 yy.1.2.2.2.1.2 yy.2.1.1 yy.2.1.2.1 yy.2.1.2.2.1 yy.2.2.1.1 yy.2.2.1.2.1 yy.2.2.1.2.2.1) (fun x N h => ?_) rounds _ σ (hs.trans (by kernel_rfl)) (LoopP.run h)
  obtain ⟨y0, y1, y2, y3⟩ := x
  rw [← f28_p12e0 xx.2.1 y0 yy.1.1 yy.1.2.1 yy.1.2.2.1 yy.1.2.2.2.1.1 yy.1.2.2.2.1.2 yy.2.1.1 yy.2.1.2.1 yy.2.1.2.2.1 yy.2.2.1.1 yy.2.2.1.2.1 yy.2.2.1.2.2.1 y1 y2 y3 N K]
  exact h
set_option maxHeartbeats 4000000 in
theorem f28_p38_ok : LoopOk f28_C (nthC (bodies (bodyOf Tryd.f28)) 3) := by
  refine LoopOk.of f28_p38L (by kernel_rfl) fun σ K h => ?_
  have hk : loopKey (nthC (bodies (bodyOf Tryd.f28)) 3) = 38 := by kernel_rfl
  rw [hk] at h ⊢
  generalize hs : normK f28_C 38 σ = s at h
  obtain ⟨tm, hp⟩ := s
  unfold f28_p38L at h
  dsimp only at h
  obtain ⟨xx, yy, rfl, rfl, h⟩ := getS_elim h
  refine iter_of (f28_p38_mk xx.2.2.2.2.2.2.2.1 xx.2.2.2.2.2.2.2.2.1 yy.1.1 yy.1.2.1 yy.1.2.2.1 yy.1.2.2.2.1.1 yy.1.2.2.2.1.2 yy.2.1.1 yy.2.1.2.1 yy.2.1.2.2.1 yy.2.2.1.1 yy.2.2.1.2.1 yy.2.2.1.2.2.1 yy.2.2.1.2.2.2.1.1 yy.2.2.1.2.2.2.1.2 yy.2.2.2.1) (fun x N h => ?_) rounds _ σ (hs.trans (by kernel_rfl)) (LoopP.run h)
  rw [← f28_p38e0 xx.2.2.2.2.2.2.2.1 xx.2.2.2.2.2.2.2.2.1 x yy.1.1 yy.1.2.1 yy.1.2.2.1 yy.1.2.2.2.1.1 yy.1.2.2.2.1.2 yy.2.1.1 yy.2.1.2.1 yy.2.1.2.2.1 yy.2.2.1.1 yy.2.2.1.2.1 yy.2.2.1.2.2.1 yy.2.2.1.2.2.2.1.1 yy.2.2.1.2.2.2.1.2 yy.2.2.2.1 N K]
  exact h
set_option maxHeartbeats 4000000 in
theorem f28_p32_ok : LoopOk f28_C (nthC (bodies (bodyOf Tryd.f28)) 2) := by
  refine LoopOk.of f28_p32L (by kernel_rfl) fun σ K h => ?_
  have hk : loopKey (nthC (bodies (bodyOf Tryd.f28)) 2) = 32 := by kernel_rfl
  rw [hk] at h ⊢
  generalize hs : normK f28_C 32 σ = s at h
  obtain ⟨tm, hp⟩ := s
  unfold f28_p32L at h
  dsimp only at h
  obtain ⟨xx, yy, rfl, rfl, h⟩ := getS_elim h
  refine iter_of (f28_p32_mk xx.2.2.2.2.2.2.2.1 yy.1.1 yy.1.2.1 yy.1.2.2.1 yy.1.2.2.2.1.1 yy.1.2.2.2.1.2 yy.2.1.1 yy.2.1.2.1 yy.2.1.2.2.1 yy.2.2.1.1 yy.2.2.1.2.1 yy.2.2.1.2.2.1 yy.2.2.1.2.2.2.1.1 yy.2.2.1.2.2.2.1.2 yy.2.2.2.1) (fun x N h => ?_) rounds _ σ (hs.trans (by kernel_rfl)) (LoopP.run h)
  rw [← f28_p32e0 xx.2.2.2.2.2.2.2.1 x yy.1.1 yy.1.2.1 yy.1.2.2.1 yy.1.2.2.2.1.1 yy.1.2.2.2.1.2 yy.2.1.1 yy.2.1.2.1 yy.2.1.2.2.1 yy.2.2.1.1 yy.2.2.1.2.1 yy.2.2.1.2.2.1 yy.2.2.1.2.2.2.1.1 yy.2.2.1.2.2.2.1.2 yy.2.2.2.1 N K]
  exact h
set_option maxHeartbeats 4000000 in
theorem f28_p26_ok : LoopOk f28_C (nthC (bodies (bodyOf Tryd.f28)) 1) := by
  refine LoopOk.of f28_p26L (by kernel_rfl) fun σ K h => ?_
  have hk : loopKey (nthC (bodies (bodyOf Tryd.f28)) 1) = 26 := by kernel_rfl
  rw [hk] at h ⊢
  generalize hs : normK f28_C 26 σ = s at h
  obtain ⟨tm, hp⟩ := s
  unfold f28_p26L at h
  dsimp only at h
  obtain ⟨xx, yy, rfl, rfl, h⟩ := getS_elim h
  refine iter_of (f28_p26_mk yy.1.1 yy.1.2.1 yy.1.2.2.1 yy.1.2.2.2.1.1 yy.1.2.2.2.1.2 yy.2.1.1 yy.2.1.2.1 yy.2.1.2.2.1 yy.2.2.1.1 yy.2.2.1.2.1 yy.2.2.1.2.2.1 yy.2.2.1.2.2.2.1.1 yy.2.2.1.2.2.2.1.2 yy.2.2.2.1) (fun x N h => ?_) rounds _ σ (hs.trans (by kernel_rfl)) (LoopP.run h)
  rw [← f28_p26e0 x yy.1.1 yy.1.2.1 yy.1.2.2.1 yy.1.2.2.2.1.1 yy.1.2.2.2.1.2 yy.2.1.1 yy.2.1.2.1 yy.2.1.2.2.1 yy.2.2.1.1 yy.2.2.1.2.1 yy.2.2.1.2.2.1 yy.2.2.1.2.2.2.1.1 yy.2.2.1.2.2.2.1.2 yy.2.2.2.1 N K]
  exact h
noncomputable def f28_G0 : List TV → List Entry → (TV → List Entry → Prop) → Prop := fun tm hp K => getS [.v (.pagg [.str, .int .i64, .int .i64, .sl 5]), .v (.one (.str))] [] tm hp fun (xx : ((ByteArray × (Int × (Int × ((List (List PC) × Bool) × Unit)))) × (ByteArray × Unit))) (yy : Unit) => f28 xx.1.1 xx.1.2.1 xx.1.2.2.1 xx.1.2.2.2.1.1 xx.1.2.2.2.1.2 xx.2.1 (fun s0_15 n0_16 n0_17 es0_18 full0_19 n0_20 => K (.tup [.pagg [pS s0_15, pI n0_16, pI n0_17, .sl 5 es0_18 full0_19], .one (.p (pI n0_20))]) [])
set_option maxRecDepth 100000 in
theorem f28_eq (s_164 : ByteArray) (n_165 : Int) (n_166 : Int) (es_167 : List (List PC)) (full_168 : Bool) (s_169 : ByteArray) (K : TV → List Entry → Prop) : (f28_d s_164 n_165 n_166 es_167 full_168 s_169 (fun s0_15 n0_16 n0_17 es0_18 full0_19 n0_20 => K (.tup [.pagg [pS s0_15, pI n0_16, pI n0_17, .sl 5 es0_18 full0_19], .one (.p (pI n0_20))]) [])) = funcT f28_C Tryd.f28 [.w (.pagg [pS s_164, pI n_165, pI n_166, .sl 5 es_167 full_168]), S s_169] [] K := by kernel_rfl
set_option maxHeartbeats 4000000 in
theorem f28_ok0 : FnOk Tryd.prog glob 28 f28_G0 := by
  refine FnOk.of_text (C := f28_C) tab_ok.ok (Known.add f60_G_ok (Known.add f17_G_ok (Known.none))) follows_ok (fn := Tryd.f28) (by kernel_rfl) (by kernel_rfl) (by kernel_rfl) (fun c hc => ?_) fun tm hp K h => ?_
  · have e : c = bodyOf Tryd.f28 := Option.some.inj (hc.symm.trans (by kernel_rfl))
    subst e
    exact ⟨LoopsOk.of [nthC (bodies (bodyOf Tryd.f28)) 0, nthC (bodies (bodyOf Tryd.f28)) 1, nthC (bodies (bodyOf Tryd.f28)) 2, nthC (bodies (bodyOf Tryd.f28)) 3] (by kernel_rfl) ⟨f28_p12_ok, f28_p26_ok, f28_p32_ok, f28_p38_ok, trivial⟩, TailsOk.of (tab := f28_tab) rfl [] (by kernel_rfl) trivial⟩
  · unfold f28_G0 at h
    obtain ⟨xx, yy, rfl, rfl, h⟩ := getS_elim h
    have e := (f28_eq xx.1.1 xx.1.2.1 xx.1.2.2.1 xx.1.2.2.2.1.1 xx.1.2.2.2.1.2 xx.2.1 K).trans (show _ = funcT f28_C Tryd.f28 (mkR _ xx) (mkE _ yy) K by kernel_rfl)
    rw [← e]
    exact h.run
noncomputable abbrev f28_G := f28_G0
theorem f28_G_ok : FnOk Tryd.prog glob 28 f28_G := f28_ok0
end Go.Eng.N
set_option linter.unusedVariables false
set_option maxRecDepth 100000
open Go Go.Eng Go.Proofs
namespace Go.Eng.N
/-! ### f29: plenum/plenumref39.Equal -/
noncomputable def f29_p8b0 (n21 : Int) (s22 : ByteArray) (n23 : Int) (n24 : Int) (es25 : List (List PC)) (full26 : Bool) (s27 : ByteArray) (n28 : Int) (n29 : Int) (es30 : List (List PC)) (full31 : Bool) (N0 : Int → Prop) (k0 : Bool → Prop) (k1 : Unit → Prop) : Prop := bB (decide (n21 < ((es25.length : Nat) : Int))) ((0 ≤ n21 ∧ n21 < ((es25.length : Nat) : Int)) ∧ cS (ext (List.getD es25 (Int.toNat n21) []) 0 5) fun s33 r32 => cI .i64 r32 fun n35 r34 => cI .i64 r34 fun n37 r36 => cI .i64 r36 fun n39 r38 => cI .i64 r38 fun n41 r40 => nilC r40 <| (0 ≤ n21 ∧ n21 < ((es30.length : Nat) : Int)) ∧ cS (ext (List.getD es30 (Int.toNat n21) []) 0 5) fun s43 r42 => cI .i64 r42 fun n45 r44 => cI .i64 r44 fun n47 r46 => cI .i64 r46 fun n49 r48 => cI .i64 r48 fun n51 r50 => nilC r50 <| bB (!((s33 == s43) && ((n35 == n45) && ((n37 == n47) && ((n39 == n49) && ((n41 == n51) && true)))))) (k0 false) (N0 (w64 (n21 + 1)))) (k1 ())
noncomputable def f29_p8 (s22 : ByteArray) (n23 : Int) (n24 : Int) (es25 : List (List PC)) (full26 : Bool) (s27 : ByteArray) (n28 : Int) (n29 : Int) (es30 : List (List PC)) (full31 : Bool) (k0 : Bool → Prop) (k1 : Unit → Prop) : Int → Prop := LoopP fun x N => f29_p8b0 x s22 n23 n24 es25 full26 s27 n28 n29 es30 full31 (fun n21 => N n21) k0 k1
noncomputable def f29_p7 (s11 : ByteArray) (n12 : Int) (n13 : Int) (es14 : List (List PC)) (full15 : Bool) (s16 : ByteArray) (n17 : Int) (n18 : Int) (es19 : List (List PC)) (full20 : Bool) (k0 : Bool → Prop) : Prop := f29_p8 s11 n12 n13 es14 full15 s16 n17 n18 es19 full20 (fun b52 => k0 b52) (fun (_ : Unit) => k0 true) 0
noncomputable def f29_d (s1 : ByteArray) (n2 : Int) (n3 : Int) (es4 : List (List PC)) (full5 : Bool) (s6 : ByteArray) (n7 : Int) (n8 : Int) (es9 : List (List PC)) (full10 : Bool) (k0 : Bool → Prop) : Prop := bB (!(s1.toList == s6.toList)) (k0 false) (bB (n2 != n7) (k0 false) (bB (n3 != n8) (k0 false) (bB (((es4.length : Nat) : Int) != ((es9.length : Nat) : Int)) (k0 false) (f29_p7 s1 n2 n3 es4 full5 s6 n7 n8 es9 full10 (fun b53 => k0 b53)))))
structure f29 (s1 : ByteArray) (n2 : Int) (n3 : Int) (es4 : List (List PC)) (full5 : Bool) (s6 : ByteArray) (n7 : Int) (n8 : Int) (es9 : List (List PC)) (full10 : Bool) (k0 : Bool → Prop) : Prop where
  run : f29_d s1 n2 n3 es4 full5 s6 n7 n8 es9 full10 k0
noncomputable def f29_p8L : Told := fun s K => match s with
  | ⟨tm, hp⟩ => getS [.skip 2, .v (.one (.ptr 0 0 0)), .v (.one (.ptr 1 0 0)), .skip 1, .v (.one (.int .i64)), .skip 46] [.box [.str, .int .i64, .int .i64, .sl 5], .box [.str, .int .i64, .int .i64, .sl 5]] tm hp fun (xx : (Unit × (Unit × (Unit × (Unit × (Int × (Unit × Unit))))))) (yy : ((ByteArray × (Int × (Int × ((List (List PC) × Bool) × Unit)))) × ((ByteArray × (Int × (Int × ((List (List PC) × Bool) × Unit)))) × Unit))) => f29_p8 yy.1.1 yy.1.2.1 yy.1.2.2.1 yy.1.2.2.2.1.1 yy.1.2.2.2.1.2 yy.2.1.1 yy.2.1.2.1 yy.2.1.2.2.1 yy.2.1.2.2.2.1.1 yy.2.1.2.2.2.1.2 (fun b0_0 => K .ret ⟨mkS 52 [(4, B b0_0)], []⟩) (fun (_ : Unit) => K (.exit 0) ⟨mkS 52 [], []⟩) xx.2.2.2.2.1
noncomputable def f29_p7L : Told := fun s K => match s with
  | ⟨tm, hp⟩ => getS [.skip 2, .v (.one (.ptr 0 0 0)), .v (.one (.ptr 1 0 0)), .skip 48] [.box [.str, .int .i64, .int .i64, .sl 5], .box [.str, .int .i64, .int .i64, .sl 5]] tm hp fun (xx : (Unit × (Unit × (Unit × (Unit × Unit))))) (yy : ((ByteArray × (Int × (Int × ((List (List PC) × Bool) × Unit)))) × ((ByteArray × (Int × (Int × ((List (List PC) × Bool) × Unit)))) × Unit))) => f29_p7 yy.1.1 yy.1.2.1 yy.1.2.2.1 yy.1.2.2.2.1.1 yy.1.2.2.2.1.2 yy.2.1.1 yy.2.1.2.1 yy.2.1.2.2.1 yy.2.1.2.2.2.1.1 yy.2.1.2.2.2.1.2 (fun b0_1 => K .ret ⟨mkS 52 [(4, B b0_1)], []⟩)
noncomputable def f29_tab : List (Nat × Told) := [(8, f29_p8L), (7, f29_p7L)]
noncomputable def f29_call : FuncId → List TV → List Entry → (TV → List Entry → Prop) → Prop := noCalls
noncomputable def f29_C : Ctx := { ty := tyOf tab, glob := glob, byRef := byRef, keep := fun k i => lookN [] (lookN [] ([(8, [(0, [2, 3, 5]), (2, [4]), (3, [])]), (7, [(0, [2, 3]), (1, [4]), (2, [4])])] : List (Nat × List (Nat × List Nat))) k) i, late := lookN [] ([] : List (Nat × List Nat)), nref := lookN [] ([] : List (Nat × List Nat)), nbox := lookN [] ([] : List (Nat × List (Nat × Nat))), take := [], rnil := false, m := 0, fz := true, loops := lookL f29_tab, call := f29_call }
noncomputable def f29_p8_mk (s22 : ByteArray) (n23 : Int) (n24 : Int) (es25 : List (List PC)) (full26 : Bool) (s27 : ByteArray) (n28 : Int) (n29 : Int) (es30 : List (List PC)) (full31 : Bool) (x : Int) : St := ⟨mkS 52 [(2, .w (.one (.ptr 0 0 0))), (3, .w (.one (.ptr 1 0 0))), (5, I x)], [.box [.p (pS s22), .p (pI n23), .p (pI n24), .p (.sl 5 es25 full26)], .box [.p (pS s27), .p (pI n28), .p (pI n29), .p (.sl 5 es30 full31)]]⟩
set_option maxRecDepth 100000 in
theorem f29_p8e0 (n_14 : Int) (s_15 : ByteArray) (n_16 : Int) (n_17 : Int) (es_18 : List (List PC)) (full_19 : Bool) (s_20 : ByteArray) (n_21 : Int) (n_22 : Int) (es_23 : List (List PC)) (full_24 : Bool) (N : St → Prop) (K : TExit → St → Prop) : (f29_p8b0 n_14 s_15 n_16 n_17 es_18 full_19 s_20 n_21 n_22 es_23 full_24 (fun z0 => N (f29_p8_mk s_15 n_16 n_17 es_18 full_19 s_20 n_21 n_22 es_23 full_24 z0)) (fun b0_25 => K .ret ⟨mkS 52 [(4, B b0_25)], []⟩) (fun (_ : Unit) => K (.exit 0) ⟨mkS 52 [], []⟩)) = execT f29_C (nthC (bodies (bodyOf Tryd.f29)) 0) (f29_p8_mk s_15 n_16 n_17 es_18 full_19 s_20 n_21 n_22 es_23 full_24 n_14) (loopK N (normK f29_C 8) fun e s => K e (normOut f29_C 8 e s)) := by kernel_rfl
set_option maxRecDepth 100000 in
theorem f29_p7e0 (s_26 : ByteArray) (n_27 : Int) (n_28 : Int) (es_29 : List (List PC)) (full_30 : Bool) (s_31 : ByteArray) (n_32 : Int) (n_33 : Int) (es_34 : List (List PC)) (full_35 : Bool) (K : TExit → St → Prop) : (f29_p7 s_26 n_27 n_28 es_29 full_30 s_31 n_32 n_33 es_34 full_35 (fun b0_36 => K .ret ⟨mkS 52 [(4, B b0_36)], []⟩)) = execT f29_C (nthC (tails (bodyOf Tryd.f29)) 1) ⟨mkS 52 [(2, .w (.one (.ptr 0 0 0))), (3, .w (.one (.ptr 1 0 0)))], [.box [.p (pS s_26), .p (pI n_27), .p (pI n_28), .p (.sl 5 es_29 full_30)], .box [.p (pS s_31), .p (pI n_32), .p (pI n_33), .p (.sl 5 es_34 full_35)]]⟩ (fun e s => K e (normOut f29_C 7 e s)) := by kernel_rfl
set_option maxHeartbeats 4000000 in
theorem f29_p8_ok : LoopOk f29_C (nthC (bodies (bodyOf Tryd.f29)) 0) := by
  refine LoopOk.of f29_p8L (by kernel_rfl) fun σ K h => ?_
  have hk : loopKey (nthC (bodies (bodyOf Tryd.f29)) 0) = 8 := by kernel_rfl
  rw [hk] at h ⊢
  generalize hs : normK f29_C 8 σ = s at h
  obtain ⟨tm, hp⟩ := s
  unfold f29_p8L at h
  dsimp only at h
  obtain ⟨xx, yy, rfl, rfl, h⟩ := getS_elim h
  refine iter_of (f29_p8_mk yy.1.1 yy.1.2.1 yy.1.2.2.1 yy.1.2.2.2.1.1 yy.1.2.2.2.1.2 yy.2.1.1 yy.2.1.2.1 yy.2.1.2.2.1 yy.2.1.2.2.2.1.1 yy.2.1.2.2.2.1.2) (fun x N h => ?_) rounds _ σ (hs.trans (by kernel_rfl)) (LoopP.run h)
  rw [← f29_p8e0 x yy.1.1 yy.1.2.1 yy.1.2.2.1 yy.1.2.2.2.1.1 yy.1.2.2.2.1.2 yy.2.1.1 yy.2.1.2.1 yy.2.1.2.2.1 yy.2.1.2.2.2.1.1 yy.2.1.2.2.2.1.2 N K]
  exact h
set_option maxHeartbeats 4000000 in
theorem f29_p7_ok : TailOk f29_C (nthC (tails (bodyOf Tryd.f29)) 1) := by
  refine TailOk.of f29_p7L (by kernel_rfl) fun σ K h => ?_
  have hk : joinKey (nthC (tails (bodyOf Tryd.f29)) 1) = 7 := by kernel_rfl
  rw [hk] at h ⊢
  generalize hs : normK f29_C 7 σ = s at h
  obtain ⟨tm, hp⟩ := s
  unfold f29_p7L at h
  dsimp only at h
  obtain ⟨xx, yy, rfl, rfl, h⟩ := getS_elim h
  have q : normK f29_C 7 σ = (⟨mkS 52 [(2, .w (.one (.ptr 0 0 0))), (3, .w (.one (.ptr 1 0 0)))], [.box [.p (pS yy.1.1), .p (pI yy.1.2.1), .p (pI yy.1.2.2.1), .p (.sl 5 yy.1.2.2.2.1.1 yy.1.2.2.2.1.2)], .box [.p (pS yy.2.1.1), .p (pI yy.2.1.2.1), .p (pI yy.2.1.2.2.1), .p (.sl 5 yy.2.1.2.2.2.1.1 yy.2.1.2.2.2.1.2)]]⟩ : St) := hs.trans (by kernel_rfl)
  rw [← hs, q, ← f29_p7e0 yy.1.1 yy.1.2.1 yy.1.2.2.1 yy.1.2.2.2.1.1 yy.1.2.2.2.1.2 yy.2.1.1 yy.2.1.2.1 yy.2.1.2.2.1 yy.2.1.2.2.2.1.1 yy.2.1.2.2.2.1.2 K]
  exact h
noncomputable def f29_G0 : List TV → List Entry → (TV → List Entry → Prop) → Prop := fun tm hp K => getS [.v (.pagg [.str, .int .i64, .int .i64, .sl 5]), .v (.pagg [.str, .int .i64, .int .i64, .sl 5])] [] tm hp fun (xx : ((ByteArray × (Int × (Int × ((List (List PC) × Bool) × Unit)))) × ((ByteArray × (Int × (Int × ((List (List PC) × Bool) × Unit)))) × Unit))) (yy : Unit) => f29 xx.1.1 xx.1.2.1 xx.1.2.2.1 xx.1.2.2.2.1.1 xx.1.2.2.2.1.2 xx.2.1.1 xx.2.1.2.1 xx.2.1.2.2.1 xx.2.1.2.2.2.1.1 xx.2.1.2.2.2.1.2 (fun b0_2 => K (B b0_2) [])
set_option maxRecDepth 100000 in
theorem f29_eq (s_37 : ByteArray) (n_38 : Int) (n_39 : Int) (es_40 : List (List PC)) (full_41 : Bool) (s_42 : ByteArray) (n_43 : Int) (n_44 : Int) (es_45 : List (List PC)) (full_46 : Bool) (K : TV → List Entry → Prop) : (f29_d s_37 n_38 n_39 es_40 full_41 s_42 n_43 n_44 es_45 full_46 (fun b0_2 => K (B b0_2) [])) = funcT f29_C Tryd.f29 [.w (.pagg [pS s_37, pI n_38, pI n_39, .sl 5 es_40 full_41]), .w (.pagg [pS s_42, pI n_43, pI n_44, .sl 5 es_45 full_46])] [] K := by kernel_rfl
set_option maxHeartbeats 4000000 in
theorem f29_ok0 : FnOk Tryd.prog glob 29 f29_G0 := by
  refine FnOk.of_text (C := f29_C) tab_ok.ok (Known.none) follows_ok (fn := Tryd.f29) (by kernel_rfl) (by kernel_rfl) (by kernel_rfl) (fun c hc => ?_) fun tm hp K h => ?_
  · have e : c = bodyOf Tryd.f29 := Option.some.inj (hc.symm.trans (by kernel_rfl))
    subst e
    exact ⟨LoopsOk.of [nthC (bodies (bodyOf Tryd.f29)) 0] (by kernel_rfl) ⟨f29_p8_ok, trivial⟩, TailsOk.of (tab := f29_tab) rfl [nthC (tails (bodyOf Tryd.f29)) 1] (by kernel_rfl) ⟨f29_p7_ok, trivial⟩⟩
  · unfold f29_G0 at h
    obtain ⟨xx, yy, rfl, rfl, h⟩ := getS_elim h
    have e := (f29_eq xx.1.1 xx.1.2.1 xx.1.2.2.1 xx.1.2.2.2.1.1 xx.1.2.2.2.1.2 xx.2.1.1 xx.2.1.2.1 xx.2.1.2.2.1 xx.2.1.2.2.2.1.1 xx.2.1.2.2.2.1.2 K).trans (show _ = funcT f29_C Tryd.f29 (mkR _ xx) (mkE _ yy) K by kernel_rfl)
    rw [← e]
    exact h.run
noncomputable abbrev f29_G := f29_G0
theorem f29_G_ok : FnOk Tryd.prog glob 29 f29_G := f29_ok0
end Go.Eng.N
set_option linter.unusedVariables false
set_option maxRecDepth 100000
open Go Go.Eng Go.Proofs
namespace Go.Eng.N
/-! ### f13: plenum/plenumref39.Small -/
noncomputable def f13_p8b0 (n11 : Int) (s12 : ByteArray) (n13 : Int) (n14 : Int) (es15 : List (List PC)) (full16 : Bool) (N0 : Int → Prop) (k0 : Bool → Prop) (k1 : Unit → Prop) : Prop := bB (decide (n11 < ((es15.length : Nat) : Int))) ((0 ≤ n11 ∧ n11 < ((es15.length : Nat) : Int)) ∧ oS (ext (List.getD es15 (Int.toNat n11) []) 0 1) fun s17 => bB (decide (((s17.size : Nat) : Int) > 60)) (k0 false) (N0 (w64 (n11 + 1)))) (k1 ())
noncomputable def f13_p8 (s12 : ByteArray) (n13 : Int) (n14 : Int) (es15 : List (List PC)) (full16 : Bool) (k0 : Bool → Prop) (k1 : Unit → Prop) : Int → Prop := LoopP fun x N => f13_p8b0 x s12 n13 n14 es15 full16 (fun n11 => N n11) k0 k1
noncomputable def f13_p7 (s6 : ByteArray) (n7 : Int) (n8 : Int) (es9 : List (List PC)) (full10 : Bool) (k0 : Bool → Prop) : Prop := f13_p8 s6 n7 n8 es9 full10 (fun b18 => k0 b18) (fun (_ : Unit) => k0 true) 0
noncomputable def f13_d (s1 : ByteArray) (n2 : Int) (n3 : Int) (es4 : List (List PC)) (full5 : Bool) (k0 : Bool → Prop) : Prop := bB (decide (((es4.length : Nat) : Int) > 12)) (k0 false) (bB (decide (((s1.size : Nat) : Int) > 60)) (k0 false) (f13_p7 s1 n2 n3 es4 full5 (fun b19 => k0 b19)))
structure f13 (s1 : ByteArray) (n2 : Int) (n3 : Int) (es4 : List (List PC)) (full5 : Bool) (k0 : Bool → Prop) : Prop where
  run : f13_d s1 n2 n3 es4 full5 k0
noncomputable def f13_p8L : Told := fun s K => match s with
  | ⟨tm, hp⟩ => getS [.skip 1, .v (.one (.ptr 0 0 0)), .skip 1, .v (.one (.int .i64)), .skip 25] [.box [.str, .int .i64, .int .i64, .sl 5]] tm hp fun (xx : (Unit × (Unit × (Unit × (Int × (Unit × Unit)))))) (yy : ((ByteArray × (Int × (Int × ((List (List PC) × Bool) × Unit)))) × Unit)) => f13_p8 yy.1.1 yy.1.2.1 yy.1.2.2.1 yy.1.2.2.2.1.1 yy.1.2.2.2.1.2 (fun b0_0 => K .ret ⟨mkS 29 [(2, B b0_0)], []⟩) (fun (_ : Unit) => K (.exit 0) ⟨mkS 29 [], []⟩) xx.2.2.2.1
noncomputable def f13_p7L : Told := fun s K => match s with
  | ⟨tm, hp⟩ => getS [.skip 1, .v (.one (.ptr 0 0 0)), .skip 27] [.box [.str, .int .i64, .int .i64, .sl 5]] tm hp fun (xx : (Unit × (Unit × (Unit × Unit)))) (yy : ((ByteArray × (Int × (Int × ((List (List PC) × Bool) × Unit)))) × Unit)) => f13_p7 yy.1.1 yy.1.2.1 yy.1.2.2.1 yy.1.2.2.2.1.1 yy.1.2.2.2.1.2 (fun b0_1 => K .ret ⟨mkS 29 [(2, B b0_1)], []⟩)
noncomputable def f13_tab : List (Nat × Told) := [(8, f13_p8L), (7, f13_p7L)]
noncomputable def f13_call : FuncId → List TV → List Entry → (TV → List Entry → Prop) → Prop := noCalls
noncomputable def f13_C : Ctx := { ty := tyOf tab, glob := glob, byRef := byRef, keep := fun k i => lookN [] (lookN [] ([(8, [(0, [1, 3]), (2, [2]), (3, [])]), (7, [(0, [1]), (1, [2]), (2, [2])])] : List (Nat × List (Nat × List Nat))) k) i, late := lookN [] ([] : List (Nat × List Nat)), nref := lookN [] ([] : List (Nat × List Nat)), nbox := lookN [] ([] : List (Nat × List (Nat × Nat))), take := [], rnil := false, m := 0, fz := true, loops := lookL f13_tab, call := f13_call }
noncomputable def f13_p8_mk (s12 : ByteArray) (n13 : Int) (n14 : Int) (es15 : List (List PC)) (full16 : Bool) (x : Int) : St := ⟨mkS 29 [(1, .w (.one (.ptr 0 0 0))), (3, I x)], [.box [.p (pS s12), .p (pI n13), .p (pI n14), .p (.sl 5 es15 full16)]]⟩
set_option maxRecDepth 100000 in
theorem f13_p8e0 (n_9 : Int) (s_10 : ByteArray) (n_11 : Int) (n_12 : Int) (es_13 : List (List PC)) (full_14 : Bool) (N : St → Prop) (K : TExit → St → Prop) : (f13_p8b0 n_9 s_10 n_11 n_12 es_13 full_14 (fun z0 => N (f13_p8_mk s_10 n_11 n_12 es_13 full_14 z0)) (fun b0_15 => K .ret ⟨mkS 29 [(2, B b0_15)], []⟩) (fun (_ : Unit) => K (.exit 0) ⟨mkS 29 [], []⟩)) = execT f13_C (nthC (bodies (bodyOf Tryd.f13)) 0) (f13_p8_mk s_10 n_11 n_12 es_13 full_14 n_9) (loopK N (normK f13_C 8) fun e s => K e (normOut f13_C 8 e s)) := by kernel_rfl
set_option maxRecDepth 100000 in
theorem f13_p7e0 (s_16 : ByteArray) (n_17 : Int) (n_18 : Int) (es_19 : List (List PC)) (full_20 : Bool) (K : TExit → St → Prop) : (f13_p7 s_16 n_17 n_18 es_19 full_20 (fun b0_21 => K .ret ⟨mkS 29 [(2, B b0_21)], []⟩)) = execT f13_C (nthC (tails (bodyOf Tryd.f13)) 1) ⟨mkS 29 [(1, .w (.one (.ptr 0 0 0)))], [.box [.p (pS s_16), .p (pI n_17), .p (pI n_18), .p (.sl 5 es_19 full_20)]]⟩ (fun e s => K e (normOut f13_C 7 e s)) := by kernel_rfl
set_option maxHeartbeats 4000000 in
theorem f13_p8_ok : LoopOk f13_C (nthC (bodies (bodyOf Tryd.f13)) 0) := by
  refine LoopOk.of f13_p8L (by kernel_rfl) fun σ K h => ?_
  have hk : loopKey (nthC (bodies (bodyOf Tryd.f13)) 0) = 8 := by kernel_rfl
  rw [hk] at h ⊢
  generalize hs : normK f13_C 8 σ = s at h
  obtain ⟨tm, hp⟩ := s
  unfold f13_p8L at h
  dsimp only at h
  obtain ⟨xx, yy, rfl, rfl, h⟩ := getS_elim h
  refine iter_of (f13_p8_mk yy.1.1 yy.1.2.1 yy.1.2.2.1 yy.1.2.2.2.1.1 yy.1.2.2.2.1.2) (fun x N h => ?_) rounds _ σ (hs.trans (by kernel_rfl)) (LoopP.run h)
  rw [← f13_p8e0 x yy.1.1 yy.1.2.1 yy.1.2.2.1 yy.1.2.2.2.1.1 yy.1.2.2.2.1.2 N K]
  exact h
set_option maxHeartbeats 4000000 in
theorem f13_p7_ok : TailOk f13_C (nthC (tails (bodyOf Tryd.f13)) 1) := by
  refine TailOk.of f13_p7L (by kernel_rfl) fun σ K h => ?_
  have hk : joinKey (nthC (tails (bodyOf Tryd.f13)) 1) = 7 := by kernel_rfl
  rw [hk] at h ⊢
  generalize hs : normK f13_C 7 σ = s at h
  obtain ⟨tm, hp⟩ := s
  unfold f13_p7L at h
  dsimp only at h
  obtain ⟨xx, yy, rfl, rfl, h⟩ := getS_elim h
  have q : normK f13_C 7 σ = (⟨mkS 29 [(1, .w (.one (.ptr 0 0 0)))], [.box [.p (pS yy.1.1), .p (pI yy.1.2.1), .p (pI yy.1.2.2.1), .p (.sl 5 yy.1.2.2.2.1.1 yy.1.2.2.2.1.2)]]⟩ : St) := hs.trans (by kernel_rfl)
  rw [← hs, q, ← f13_p7e0 yy.1.1 yy.1.2.1 yy.1.2.2.1 yy.1.2.2.2.1.1 yy.1.2.2.2.1.2 K]
  exact h
noncomputable def f13_G0 : List TV → List Entry → (TV → List Entry → Prop) → Prop := fun tm hp K => getS [.v (.pagg [.str, .int .i64, .int .i64, .sl 5])] [] tm hp fun (xx : ((ByteArray × (Int × (Int × ((List (List PC) × Bool) × Unit)))) × Unit)) (yy : Unit) => f13 xx.1.1 xx.1.2.1 xx.1.2.2.1 xx.1.2.2.2.1.1 xx.1.2.2.2.1.2 (fun b0_2 => K (B b0_2) [])
set_option maxRecDepth 100000 in
theorem f13_eq (s_22 : ByteArray) (n_23 : Int) (n_24 : Int) (es_25 : List (List PC)) (full_26 : Bool) (K : TV → List Entry → Prop) : (f13_d s_22 n_23 n_24 es_25 full_26 (fun b0_2 => K (B b0_2) [])) = funcT f13_C Tryd.f13 [.w (.pagg [pS s_22, pI n_23, pI n_24, .sl 5 es_25 full_26])] [] K := by kernel_rfl
set_option maxHeartbeats 4000000 in
theorem f13_ok0 : FnOk Tryd.prog glob 13 f13_G0 := by
  refine FnOk.of_text (C := f13_C) tab_ok.ok (Known.none) follows_ok (fn := Tryd.f13) (by kernel_rfl) (by kernel_rfl) (by kernel_rfl) (fun c hc => ?_) fun tm hp K h => ?_
  · have e : c = bodyOf Tryd.f13 := Option.some.inj (hc.symm.trans (by kernel_rfl))
    subst e
    exact ⟨LoopsOk.of [nthC (bodies (bodyOf Tryd.f13)) 0] (by kernel_rfl) ⟨f13_p8_ok, trivial⟩, TailsOk.of (tab := f13_tab) rfl [nthC (tails (bodyOf Tryd.f13)) 1] (by kernel_rfl) ⟨f13_p7_ok, trivial⟩⟩
  · unfold f13_G0 at h
    obtain ⟨xx, yy, rfl, rfl, h⟩ := getS_elim h
    have e := (f13_eq xx.1.1 xx.1.2.1 xx.1.2.2.1 xx.1.2.2.2.1.1 xx.1.2.2.2.1.2 K).trans (show _ = funcT f13_C Tryd.f13 (mkR _ xx) (mkE _ yy) K by kernel_rfl)
    rw [← e]
    exact h.run
noncomputable abbrev f13_G := f13_G0
theorem f13_G_ok : FnOk Tryd.prog glob 13 f13_G := f13_ok0
end Go.Eng.N
set_option linter.unusedVariables false
set_option maxRecDepth 100000
open Go Go.Eng Go.Proofs
namespace Go.Eng.N
/-! ### f23: plenum/plenumlaw39.list -/
noncomputable def f23_p8b0 (es5 : List (List PC)) (full6 : Bool) (es7 : List (List PC)) (full8 : Bool) (n9 : Int) (N0 : Int → Prop) (k0 : Bool → Prop) (k1 : Unit → Prop) : Prop := bB (decide (n9 < ((es5.length : Nat) : Int))) ((0 ≤ n9 ∧ n9 < ((es5.length : Nat) : Int)) ∧ oS (ext (List.getD es5 (Int.toNat n9) []) 0 1) fun s10 => (0 ≤ n9 ∧ n9 < ((es7.length : Nat) : Int)) ∧ oS (ext (List.getD es7 (Int.toNat n9) []) 0 1) fun s11 => bB (!(s10.toList == s11.toList)) (k0 false) (N0 (w64 (n9 + 1)))) (k1 ())
noncomputable def f23_p8 (es5 : List (List PC)) (full6 : Bool) (es7 : List (List PC)) (full8 : Bool) (k0 : Bool → Prop) (k1 : Unit → Prop) : Int → Prop := LoopP fun x N => f23_p8b0 es5 full6 es7 full8 x (fun n9 => N n9) k0 k1
noncomputable def f23_d (es1 : List (List PC)) (full2 : Bool) (es3 : List (List PC)) (full4 : Bool) (k0 : Bool → Prop) : Prop := bB (((es1.length : Nat) : Int) != ((es3.length : Nat) : Int)) (k0 false) (f23_p8 es1 full2 es3 full4 (fun b12 => k0 b12) (fun (_ : Unit) => k0 true) 0)
structure f23 (es1 : List (List PC)) (full2 : Bool) (es3 : List (List PC)) (full4 : Bool) (k0 : Bool → Prop) : Prop where
  run : f23_d es1 full2 es3 full4 k0
noncomputable def f23_p8L : Told := fun s K => match s with
  | ⟨tm, hp⟩ => getS [.v (.one (.sl 1)), .v (.one (.sl 1)), .skip 3, .v (.one (.int .i64)), .skip 20] [] tm hp fun (xx : ((List (List PC) × Bool) × ((List (List PC) × Bool) × (Unit × (Int × (Unit × Unit)))))) (yy : Unit) => f23_p8 xx.1.1 xx.1.2 xx.2.1.1 xx.2.1.2 (fun b0_0 => K .ret ⟨mkS 26 [(4, B b0_0)], []⟩) (fun (_ : Unit) => K (.exit 0) ⟨mkS 26 [], []⟩) xx.2.2.2.1
noncomputable def f23_tab : List (Nat × Told) := [(8, f23_p8L)]
noncomputable def f23_call : FuncId → List TV → List Entry → (TV → List Entry → Prop) → Prop := noCalls
noncomputable def f23_C : Ctx := { ty := tyOf tab, glob := glob, byRef := byRef, keep := fun k i => lookN [] (lookN [] ([(8, [(0, [0, 1, 5]), (2, [4]), (3, [])])] : List (Nat × List (Nat × List Nat))) k) i, late := lookN [] ([] : List (Nat × List Nat)), nref := lookN [] ([] : List (Nat × List Nat)), nbox := lookN [] ([] : List (Nat × List (Nat × Nat))), take := [], rnil := false, m := 0, fz := true, loops := lookL f23_tab, call := f23_call }
noncomputable def f23_p8_mk (es5 : List (List PC)) (full6 : Bool) (es7 : List (List PC)) (full8 : Bool) (x : Int) : St := ⟨mkS 26 [(0, .w (.one (.p (.sl 1 es5 full6)))), (1, .w (.one (.p (.sl 1 es7 full8)))), (5, I x)], []⟩
set_option maxRecDepth 100000 in
theorem f23_p8e0 (es_7 : List (List PC)) (full_8 : Bool) (es_9 : List (List PC)) (full_10 : Bool) (n_11 : Int) (N : St → Prop) (K : TExit → St → Prop) : (f23_p8b0 es_7 full_8 es_9 full_10 n_11 (fun z4 => N (f23_p8_mk es_7 full_8 es_9 full_10 z4)) (fun b0_12 => K .ret ⟨mkS 26 [(4, B b0_12)], []⟩) (fun (_ : Unit) => K (.exit 0) ⟨mkS 26 [], []⟩)) = execT f23_C (nthC (bodies (bodyOf Tryd.f23)) 0) (f23_p8_mk es_7 full_8 es_9 full_10 n_11) (loopK N (normK f23_C 8) fun e s => K e (normOut f23_C 8 e s)) := by kernel_rfl
set_option maxHeartbeats 4000000 in
theorem f23_p8_ok : LoopOk f23_C (nthC (bodies (bodyOf Tryd.f23)) 0) := by
  refine LoopOk.of f23_p8L (by kernel_rfl) fun σ K h => ?_
  have hk : loopKey (nthC (bodies (bodyOf Tryd.f23)) 0) = 8 := by kernel_rfl
  rw [hk] at h ⊢
  generalize hs : normK f23_C 8 σ = s at h
  obtain ⟨tm, hp⟩ := s
  unfold f23_p8L at h
  dsimp only at h
  obtain ⟨xx, yy, rfl, rfl, h⟩ := getS_elim h
  refine iter_of (f23_p8_mk xx.1.1 xx.1.2 xx.2.1.1 xx.2.1.2) (fun x N h => ?_) rounds _ σ (hs.trans (by kernel_rfl)) (LoopP.run h)
  rw [← f23_p8e0 xx.1.1 xx.1.2 xx.2.1.1 xx.2.1.2 x N K]
  exact h
noncomputable def f23_G0 : List TV → List Entry → (TV → List Entry → Prop) → Prop := fun tm hp K => getS [.v (.one (.sl 1)), .v (.one (.sl 1))] [] tm hp fun (xx : ((List (List PC) × Bool) × ((List (List PC) × Bool) × Unit))) (yy : Unit) => f23 xx.1.1 xx.1.2 xx.2.1.1 xx.2.1.2 (fun b0_1 => K (B b0_1) [])
set_option maxRecDepth 100000 in
theorem f23_eq (es_13 : List (List PC)) (full_14 : Bool) (es_15 : List (List PC)) (full_16 : Bool) (K : TV → List Entry → Prop) : (f23_d es_13 full_14 es_15 full_16 (fun b0_1 => K (B b0_1) [])) = funcT f23_C Tryd.f23 [.w (.one (.p (.sl 1 es_13 full_14))), .w (.one (.p (.sl 1 es_15 full_16)))] [] K := by kernel_rfl
set_option maxHeartbeats 4000000 in
theorem f23_ok0 : FnOk Tryd.prog glob 23 f23_G0 := by
  refine FnOk.of_text (C := f23_C) tab_ok.ok (Known.none) follows_ok (fn := Tryd.f23) (by kernel_rfl) (by kernel_rfl) (by kernel_rfl) (fun c hc => ?_) fun tm hp K h => ?_
  · have e : c = bodyOf Tryd.f23 := Option.some.inj (hc.symm.trans (by kernel_rfl))
    subst e
    exact ⟨LoopsOk.of [nthC (bodies (bodyOf Tryd.f23)) 0] (by kernel_rfl) ⟨f23_p8_ok, trivial⟩, TailsOk.of (tab := f23_tab) rfl [] (by kernel_rfl) trivial⟩
  · unfold f23_G0 at h
    obtain ⟨xx, yy, rfl, rfl, h⟩ := getS_elim h
    have e := (f23_eq xx.1.1 xx.1.2 xx.2.1.1 xx.2.1.2 K).trans (show _ = funcT f23_C Tryd.f23 (mkR _ xx) (mkE _ yy) K by kernel_rfl)
    rw [← e]
    exact h.run
noncomputable abbrev f23_G := f23_G0
theorem f23_G_ok : FnOk Tryd.prog glob 23 f23_G := f23_ok0
end Go.Eng.N
set_option linter.unusedVariables false
set_option maxRecDepth 100000
open Go Go.Eng Go.Proofs
namespace Go.Eng.N
/-! ### f24: plenum/plenumlaw39.same -/
noncomputable def f24_p8b0 (es5 : List (List PC)) (full6 : Bool) (es7 : List (List PC)) (full8 : Bool) (n9 : Int) (N0 : Int → Prop) (k0 : Bool → Prop) (k1 : Unit → Prop) : Prop := bB (decide (n9 < ((es5.length : Nat) : Int))) ((0 ≤ n9 ∧ n9 < ((es5.length : Nat) : Int)) ∧ oS (ext (List.getD es5 (Int.toNat n9) []) 0 1) fun s10 => (0 ≤ n9 ∧ n9 < ((es7.length : Nat) : Int)) ∧ oS (ext (List.getD es7 (Int.toNat n9) []) 0 1) fun s11 => bB (!(s10.toList == s11.toList)) (k0 false) ((0 ≤ n9 ∧ n9 < ((es5.length : Nat) : Int)) ∧ cI .i64 (ext (List.getD es5 (Int.toNat n9) []) 1 7) fun n13 r12 => cS r12 fun s15 r14 => cI .i64 r14 fun n17 r16 => cI .i64 r16 fun n19 r18 => cI .i64 r18 fun n21 r20 => cI .i64 r20 fun n23 r22 => cI .i64 r22 fun n25 r24 => nilC r24 <| (0 ≤ n9 ∧ n9 < ((es7.length : Nat) : Int)) ∧ cI .i64 (ext (List.getD es7 (Int.toNat n9) []) 1 7) fun n27 r26 => cS r26 fun s29 r28 => cI .i64 r28 fun n31 r30 => cI .i64 r30 fun n33 r32 => cI .i64 r32 fun n35 r34 => cI .i64 r34 fun n37 r36 => cI .i64 r36 fun n39 r38 => nilC r38 <| bB (!((n13 == n27) && ((s15 == s29) && ((n17 == n31) && ((n19 == n33) && ((n21 == n35) && ((n23 == n37) && ((n25 == n39) && true)))))))) (k0 false) ((0 ≤ n9 ∧ n9 < ((es5.length : Nat) : Int)) ∧ oI .i64 (ext (List.getD es5 (Int.toNat n9) []) 8 1) fun n40 => (0 ≤ n9 ∧ n9 < ((es7.length : Nat) : Int)) ∧ oI .i64 (ext (List.getD es7 (Int.toNat n9) []) 8 1) fun n41 => bB (n40 != n41) (k0 false) ((0 ≤ n9 ∧ n9 < ((es5.length : Nat) : Int)) ∧ oB (ext (List.getD es5 (Int.toNat n9) []) 9 1) fun b42 => (0 ≤ n9 ∧ n9 < ((es7.length : Nat) : Int)) ∧ oB (ext (List.getD es7 (Int.toNat n9) []) 9 1) fun b43 => bB (!(b42 == b43)) (k0 false) (N0 (w64 (n9 + 1))))))) (k1 ())
noncomputable def f24_p8 (es5 : List (List PC)) (full6 : Bool) (es7 : List (List PC)) (full8 : Bool) (k0 : Bool → Prop) (k1 : Unit → Prop) : Int → Prop := LoopP fun x N => f24_p8b0 es5 full6 es7 full8 x (fun n9 => N n9) k0 k1
noncomputable def f24_d (es1 : List (List PC)) (full2 : Bool) (es3 : List (List PC)) (full4 : Bool) (k0 : Bool → Prop) : Prop := bB (((es1.length : Nat) : Int) != ((es3.length : Nat) : Int)) (k0 false) (f24_p8 es1 full2 es3 full4 (fun b44 => k0 b44) (fun (_ : Unit) => k0 true) 0)
structure f24 (es1 : List (List PC)) (full2 : Bool) (es3 : List (List PC)) (full4 : Bool) (k0 : Bool → Prop) : Prop where
  run : f24_d es1 full2 es3 full4 k0
noncomputable def f24_p8L : Told := fun s K => match s with
  | ⟨tm, hp⟩ => getS [.v (.one (.sl 10)), .v (.one (.sl 10)), .skip 3, .v (.one (.int .i64)), .skip 61] [] tm hp fun (xx : ((List (List PC) × Bool) × ((List (List PC) × Bool) × (Unit × (Int × (Unit × Unit)))))) (yy : Unit) => f24_p8 xx.1.1 xx.1.2 xx.2.1.1 xx.2.1.2 (fun b0_0 => K .ret ⟨mkS 67 [(4, B b0_0)], []⟩) (fun (_ : Unit) => K (.exit 0) ⟨mkS 67 [], []⟩) xx.2.2.2.1
noncomputable def f24_tab : List (Nat × Told) := [(8, f24_p8L)]
noncomputable def f24_call : FuncId → List TV → List Entry → (TV → List Entry → Prop) → Prop := noCalls
noncomputable def f24_C : Ctx := { ty := tyOf tab, glob := glob, byRef := byRef, keep := fun k i => lookN [] (lookN [] ([(8, [(0, [0, 1, 5]), (2, [4]), (3, [])])] : List (Nat × List (Nat × List Nat))) k) i, late := lookN [] ([] : List (Nat × List Nat)), nref := lookN [] ([] : List (Nat × List Nat)), nbox := lookN [] ([] : List (Nat × List (Nat × Nat))), take := [], rnil := false, m := 0, fz := true, loops := lookL f24_tab, call := f24_call }
noncomputable def f24_p8_mk (es5 : List (List PC)) (full6 : Bool) (es7 : List (List PC)) (full8 : Bool) (x : Int) : St := ⟨mkS 67 [(0, .w (.one (.p (.sl 10 es5 full6)))), (1, .w (.one (.p (.sl 10 es7 full8)))), (5, I x)], []⟩
set_option maxRecDepth 100000 in
theorem f24_p8e0 (es_7 : List (List PC)) (full_8 : Bool) (es_9 : List (List PC)) (full_10 : Bool) (n_11 : Int) (N : St → Prop) (K : TExit → St → Prop) : (f24_p8b0 es_7 full_8 es_9 full_10 n_11 (fun z4 => N (f24_p8_mk es_7 full_8 es_9 full_10 z4)) (fun b0_12 => K .ret ⟨mkS 67 [(4, B b0_12)], []⟩) (fun (_ : Unit) => K (.exit 0) ⟨mkS 67 [], []⟩)) = execT f24_C (nthC (bodies (bodyOf Tryd.f24)) 0) (f24_p8_mk es_7 full_8 es_9 full_10 n_11) (loopK N (normK f24_C 8) fun e s => K e (normOut f24_C 8 e s)) := by kernel_rfl
set_option maxHeartbeats 4000000 in
theorem f24_p8_ok : LoopOk f24_C (nthC (bodies (bodyOf Tryd.f24)) 0) := by
  refine LoopOk.of f24_p8L (by kernel_rfl) fun σ K h => ?_
  have hk : loopKey (nthC (bodies (bodyOf Tryd.f24)) 0) = 8 := by kernel_rfl
  rw [hk] at h ⊢
  generalize hs : normK f24_C 8 σ = s at h
  obtain ⟨tm, hp⟩ := s
  unfold f24_p8L at h
  dsimp only at h
  obtain ⟨xx, yy, rfl, rfl, h⟩ := getS_elim h
  refine iter_of (f24_p8_mk xx.1.1 xx.1.2 xx.2.1.1 xx.2.1.2) (fun x N h => ?_) rounds _ σ (hs.trans (by kernel_rfl)) (LoopP.run h)
  rw [← f24_p8e0 xx.1.1 xx.1.2 xx.2.1.1 xx.2.1.2 x N K]
  exact h
noncomputable def f24_G0 : List TV → List Entry → (TV → List Entry → Prop) → Prop := fun tm hp K => getS [.v (.one (.sl 10)), .v (.one (.sl 10))] [] tm hp fun (xx : ((List (List PC) × Bool) × ((List (List PC) × Bool) × Unit))) (yy : Unit) => f24 xx.1.1 xx.1.2 xx.2.1.1 xx.2.1.2 (fun b0_1 => K (B b0_1) [])
set_option maxRecDepth 100000 in
theorem f24_eq (es_13 : List (List PC)) (full_14 : Bool) (es_15 : List (List PC)) (full_16 : Bool) (K : TV → List Entry → Prop) : (f24_d es_13 full_14 es_15 full_16 (fun b0_1 => K (B b0_1) [])) = funcT f24_C Tryd.f24 [.w (.one (.p (.sl 10 es_13 full_14))), .w (.one (.p (.sl 10 es_15 full_16)))] [] K := by kernel_rfl
set_option maxHeartbeats 4000000 in
theorem f24_ok0 : FnOk Tryd.prog glob 24 f24_G0 := by
  refine FnOk.of_text (C := f24_C) tab_ok.ok (Known.none) follows_ok (fn := Tryd.f24) (by kernel_rfl) (by kernel_rfl) (by kernel_rfl) (fun c hc => ?_) fun tm hp K h => ?_
  · have e : c = bodyOf Tryd.f24 := Option.some.inj (hc.symm.trans (by kernel_rfl))
    subst e
    exact ⟨LoopsOk.of [nthC (bodies (bodyOf Tryd.f24)) 0] (by kernel_rfl) ⟨f24_p8_ok, trivial⟩, TailsOk.of (tab := f24_tab) rfl [] (by kernel_rfl) trivial⟩
  · unfold f24_G0 at h
    obtain ⟨xx, yy, rfl, rfl, h⟩ := getS_elim h
    have e := (f24_eq xx.1.1 xx.1.2 xx.2.1.1 xx.2.1.2 K).trans (show _ = funcT f24_C Tryd.f24 (mkR _ xx) (mkE _ yy) K by kernel_rfl)
    rw [← e]
    exact h.run
noncomputable abbrev f24_G := f24_G0
theorem f24_G_ok : FnOk Tryd.prog glob 24 f24_G := f24_ok0
end Go.Eng.N
set_option linter.unusedVariables false
set_option maxRecDepth 100000
open Go Go.Eng Go.Proofs
namespace Go.Eng.N
/-! ### f37: plenum/notify.Line$1 -/
noncomputable def f37_d (n1 : Int) (k0 : Int → ByteArray → Int → Int → Prop) : Prop := k0 4 (⟨#[]⟩ : ByteArray) n1 0
structure f37 (n1 : Int) (k0 : Int → ByteArray → Int → Int → Prop) : Prop where
  run : f37_d n1 k0
noncomputable def f37_tab : List (Nat × Told) := []
noncomputable def f37_call : FuncId → List TV → List Entry → (TV → List Entry → Prop) → Prop := noCalls
noncomputable def f37_C : Ctx := { ty := tyOf tab, glob := glob, byRef := byRef, keep := fun k i => lookN [] (lookN [] ([] : List (Nat × List (Nat × List Nat))) k) i, late := lookN [] ([] : List (Nat × List Nat)), nref := lookN [] ([] : List (Nat × List Nat)), nbox := lookN [] ([] : List (Nat × List (Nat × Nat))), take := [], rnil := false, m := 0, fz := true, loops := lookL f37_tab, call := f37_call }
noncomputable def f37_G0 : List TV → List Entry → (TV → List Entry → Prop) → Prop := fun tm hp K => getS [.v (.one (.int .i64))] [] tm hp fun (xx : (Int × Unit)) (yy : Unit) => f37 xx.1 (fun n0_0 s0_1 n0_2 n0_3 => K (.w (.pagg [pI n0_0, pS s0_1, pI n0_2, pI n0_3])) [])
set_option maxRecDepth 100000 in
theorem f37_eq (n_4 : Int) (K : TV → List Entry → Prop) : (f37_d n_4 (fun n0_0 s0_1 n0_2 n0_3 => K (.w (.pagg [pI n0_0, pS s0_1, pI n0_2, pI n0_3])) [])) = funcT f37_C Tryd.f37 [I n_4] [] K := by kernel_rfl
set_option maxHeartbeats 4000000 in
theorem f37_ok0 : FnOk Tryd.prog glob 37 f37_G0 := by
  refine FnOk.of_text (C := f37_C) tab_ok.ok (Known.none) follows_ok (fn := Tryd.f37) (by kernel_rfl) (by kernel_rfl) (by kernel_rfl) (fun c hc => ?_) fun tm hp K h => ?_
  · have e : c = bodyOf Tryd.f37 := Option.some.inj (hc.symm.trans (by kernel_rfl))
    subst e
    exact ⟨LoopsOk.of [] (by kernel_rfl) trivial, TailsOk.of (tab := f37_tab) rfl [] (by kernel_rfl) trivial⟩
  · unfold f37_G0 at h
    obtain ⟨xx, yy, rfl, rfl, h⟩ := getS_elim h
    have e := (f37_eq xx.1 K).trans (show _ = funcT f37_C Tryd.f37 (mkR _ xx) (mkE _ yy) K by kernel_rfl)
    rw [← e]
    exact h.run
noncomputable abbrev f37_G := f37_G0
theorem f37_G_ok : FnOk Tryd.prog glob 37 f37_G := f37_ok0
end Go.Eng.N
set_option linter.unusedVariables false
set_option maxRecDepth 100000
open Go Go.Eng Go.Proofs
namespace Go.Eng.N
/-! ### f38: plenum/notify.word -/
noncomputable def f38_d (s1 : ByteArray) (k0 : Int → ByteArray → Int → Int → Prop) : Prop := k0 1 s1 0 0
structure f38 (s1 : ByteArray) (k0 : Int → ByteArray → Int → Int → Prop) : Prop where
  run : f38_d s1 k0
noncomputable def f38_tab : List (Nat × Told) := []
noncomputable def f38_call : FuncId → List TV → List Entry → (TV → List Entry → Prop) → Prop := noCalls
noncomputable def f38_C : Ctx := { ty := tyOf tab, glob := glob, byRef := byRef, keep := fun k i => lookN [] (lookN [] ([] : List (Nat × List (Nat × List Nat))) k) i, late := lookN [] ([] : List (Nat × List Nat)), nref := lookN [] ([] : List (Nat × List Nat)), nbox := lookN [] ([] : List (Nat × List (Nat × Nat))), take := [], rnil := false, m := 0, fz := true, loops := lookL f38_tab, call := f38_call }
noncomputable def f38_G0 : List TV → List Entry → (TV → List Entry → Prop) → Prop := fun tm hp K => getS [.v (.one (.str))] [] tm hp fun (xx : (ByteArray × Unit)) (yy : Unit) => f38 xx.1 (fun n0_0 s0_1 n0_2 n0_3 => K (.w (.pagg [pI n0_0, pS s0_1, pI n0_2, pI n0_3])) [])
set_option maxRecDepth 100000 in
theorem f38_eq (s_4 : ByteArray) (K : TV → List Entry → Prop) : (f38_d s_4 (fun n0_0 s0_1 n0_2 n0_3 => K (.w (.pagg [pI n0_0, pS s0_1, pI n0_2, pI n0_3])) [])) = funcT f38_C Tryd.f38 [S s_4] [] K := by kernel_rfl
set_option maxHeartbeats 4000000 in
theorem f38_ok0 : FnOk Tryd.prog glob 38 f38_G0 := by
  refine FnOk.of_text (C := f38_C) tab_ok.ok (Known.none) follows_ok (fn := Tryd.f38) (by kernel_rfl) (by kernel_rfl) (by kernel_rfl) (fun c hc => ?_) fun tm hp K h => ?_
  · have e : c = bodyOf Tryd.f38 := Option.some.inj (hc.symm.trans (by kernel_rfl))
    subst e
    exact ⟨LoopsOk.of [] (by kernel_rfl) trivial, TailsOk.of (tab := f38_tab) rfl [] (by kernel_rfl) trivial⟩
  · unfold f38_G0 at h
    obtain ⟨xx, yy, rfl, rfl, h⟩ := getS_elim h
    have e := (f38_eq xx.1 K).trans (show _ = funcT f38_C Tryd.f38 (mkR _ xx) (mkE _ yy) K by kernel_rfl)
    rw [← e]
    exact h.run
noncomputable abbrev f38_G := f38_G0
theorem f38_G_ok : FnOk Tryd.prog glob 38 f38_G := f38_ok0
end Go.Eng.N
set_option linter.unusedVariables false
set_option maxRecDepth 100000
open Go Go.Eng Go.Proofs
namespace Go.Eng.N
/-! ### f39: plenum/notify.spell -/
noncomputable def f39_p4b0 (i7 : Nat) (n8 : Nat) (n9 : Int) (es10 : List (List PC)) (full11 : Bool) (n12 : Int) (n13 : Int) (es14 : List (List PC)) (N0 : Nat → Nat → Int → (List (List PC)) → Prop) (k0 : Nat → Nat → (List (List PC)) → Prop) : Prop := bB (decide (n13 < n12)) ((0 ≤ n13 ∧ n13 < ((es10.length : Nat) : Int)) ∧ oS (ext (List.getD es10 (Int.toNat n13) []) 0 1) fun s15 => 0 ≤ n13 ∧ bB ((IntKind.wrap .i64 (BitVec.toNat (BitVec.ofInt 64 (Int.fdiv n9 (2 ^ (min (Int.toNat n13) 64))) &&& BitVec.ofInt 64 1))) == 1) (f38 s15 (fun n16 s17 n18 n19 => (i7 + n8) = es14.length ∧ (n8 + 1) * 40 ≤ 2 ^ 46 ∧ (n8 + 1) ≤ 2 ^ 46 ∧ N0 0 (n8 + 1) (w64 (n13 + 1)) (List.drop i7 es14 ++ [[pI n16, pS s17, pI n18, pI n19]]))) (N0 i7 n8 (w64 (n13 + 1)) es14)) (k0 i7 n8 es14)
noncomputable def f39_p4 (n9 : Int) (es10 : List (List PC)) (full11 : Bool) (n12 : Int) (k0 : Nat → Nat → (List (List PC)) → Prop) : Nat × Nat × Int × (List (List PC)) → Prop := LoopP fun x N => f39_p4b0 x.1 x.2.1 n9 es10 full11 n12 x.2.2.1 x.2.2.2 (fun i7 n8 n13 es14 => N (i7, n8, n13, es14)) k0
noncomputable def f39_d (i1 : Nat) (n2 : Nat) (es3 : List (List PC)) (full4 : Bool) (n5 : Int) (es6 : List (List PC)) (k0 : Nat → Nat → (List (List PC)) → Prop) : Prop := f39_p4 n5 es3 full4 ((es3.length : Nat) : Int) (fun i20 n21 es22 => k0 i20 n21 es22) (0, n2, 0, (List.drop i1 es6))
structure f39 (i1 : Nat) (n2 : Nat) (es3 : List (List PC)) (full4 : Bool) (n5 : Int) (es6 : List (List PC)) (k0 : Nat → Nat → (List (List PC)) → Prop) : Prop where
  run : f39_d i1 n2 es3 full4 n5 es6 k0
noncomputable def f39_p4L : Told := fun s K => match s with
  | ⟨tm, hp⟩ => getS [.v (.one (.ref 1)), .skip 1, .v (.one (.int .i64)), .skip 6, .v (.one (.sl 1)), .v (.one (.int .i64)), .v (.one (.int .i64)), .skip 16] [.gone, .vec 4 true] tm hp fun (xx : ((Nat × Nat) × (Unit × (Int × (Unit × ((List (List PC) × Bool) × (Int × (Int × (Unit × Unit))))))))) (yy : (Unit × ((List (List PC)) × Unit))) => f39_p4 xx.2.2.1 xx.2.2.2.2.1.1 xx.2.2.2.2.1.2 xx.2.2.2.2.2.1 (fun i0_0 n0_1 es0_2 => K (.exit 0) ⟨mkS 28 [(0, .w (.one (.ref 1 i0_0 n0_1)))], [.gone, .vec 4 es0_2 true]⟩) (xx.1.1, xx.1.2, xx.2.2.2.2.2.2.1, yy.2.1)
noncomputable def f39_tab : List (Nat × Told) := [(4, f39_p4L)]
noncomputable def f39_call : FuncId → List TV → List Entry → (TV → List Entry → Prop) → Prop := addCall 38 f38_G (noCalls)
noncomputable def f39_C : Ctx := { ty := tyOf tab, glob := glob, byRef := byRef, keep := fun k i => lookN [] (lookN [] ([(4, [(0, [0, 2, 9, 10, 11]), (2, [6]), (3, [0])])] : List (Nat × List (Nat × List Nat))) k) i, late := lookN [] ([] : List (Nat × List Nat)), nref := lookN [] ([] : List (Nat × List Nat)), nbox := lookN [] ([] : List (Nat × List (Nat × Nat))), take := [0], rnil := true, m := 1, fz := false, loops := lookL f39_tab, call := f39_call }
noncomputable def f39_p4_mk (n9 : Int) (es10 : List (List PC)) (full11 : Bool) (n12 : Int) (x : Nat × Nat × Int × (List (List PC))) : St := ⟨mkS 28 [(0, .w (.one (.ref 1 x.1 x.2.1))), (2, I n9), (9, .w (.one (.p (.sl 1 es10 full11)))), (10, I n12), (11, I x.2.2.1)], [.gone, .vec 4 x.2.2.2 true]⟩
set_option maxRecDepth 100000 in
theorem f39_p4e0 (i_14 : Nat) (n_15 : Nat) (n_16 : Int) (es_17 : List (List PC)) (full_18 : Bool) (n_19 : Int) (n_20 : Int) (es_21 : List (List PC)) (N : St → Prop) (K : TExit → St → Prop) : (f39_p4b0 i_14 n_15 n_16 es_17 full_18 n_19 n_20 es_21 (fun z0 z1 z6 z7 => N (f39_p4_mk n_16 es_17 full_18 n_19 (z0, z1, z6, z7))) (fun i0_22 n0_23 es0_24 => K (.exit 0) ⟨mkS 28 [(0, .w (.one (.ref 1 i0_22 n0_23)))], [.gone, .vec 4 es0_24 true]⟩)) = execT f39_C (nthC (bodies (bodyOf Tryd.f39)) 0) (f39_p4_mk n_16 es_17 full_18 n_19 (i_14, n_15, n_20, es_21)) (loopK N (normK f39_C 4) fun e s => K e (normOut f39_C 4 e s)) := by kernel_rfl
set_option maxHeartbeats 4000000 in
theorem f39_p4_ok : LoopOk f39_C (nthC (bodies (bodyOf Tryd.f39)) 0) := by
  refine LoopOk.of f39_p4L (by kernel_rfl) fun σ K h => ?_
  have hk : loopKey (nthC (bodies (bodyOf Tryd.f39)) 0) = 4 := by kernel_rfl
  rw [hk] at h ⊢
  generalize hs : normK f39_C 4 σ = s at h
  obtain ⟨tm, hp⟩ := s
  unfold f39_p4L at h
  dsimp only at h
  obtain ⟨xx, yy, rfl, rfl, h⟩ := getS_elim h
  refine iter_of (f39_p4_mk xx.2.2.1 xx.2.2.2.2.1.1 xx.2.2.2.2.1.2 xx.2.2.2.2.2.1) (fun x N h => ?_) rounds _ σ (hs.trans (by kernel_rfl)) (LoopP.run h)
  obtain ⟨y0, y1, y2, y3⟩ := x
  rw [← f39_p4e0 y0 y1 xx.2.2.1 xx.2.2.2.2.1.1 xx.2.2.2.2.1.2 xx.2.2.2.2.2.1 y2 y3 N K]
  exact h
noncomputable def f39_G0 : List TV → List Entry → (TV → List Entry → Prop) → Prop := fun tm hp K => getS [.v (.one (.ref 0)), .v (.one (.sl 1)), .v (.one (.int .i64))] [.vec 4 true] tm hp fun (xx : ((Nat × Nat) × ((List (List PC) × Bool) × (Int × Unit)))) (yy : ((List (List PC)) × Unit)) => f39 xx.1.1 xx.1.2 xx.2.1.1 xx.2.1.2 xx.2.2.1 yy.1 (fun i0_3 n0_4 es0_5 => K (.w (.one (.ref 1 i0_3 n0_4))) [.gone, .vec 4 es0_5 true])
set_option maxRecDepth 100000 in
theorem f39_eq (i_25 : Nat) (n_26 : Nat) (es_27 : List (List PC)) (full_28 : Bool) (n_29 : Int) (es_30 : List (List PC)) (K : TV → List Entry → Prop) : (f39_d i_25 n_26 es_27 full_28 n_29 es_30 (fun i0_3 n0_4 es0_5 => K (.w (.one (.ref 1 i0_3 n0_4))) [.gone, .vec 4 es0_5 true])) = funcT f39_C Tryd.f39 [.w (.one (.ref 0 i_25 n_26)), .w (.one (.p (.sl 1 es_27 full_28))), I n_29] [.vec 4 es_30 true] K := by kernel_rfl
set_option maxHeartbeats 4000000 in
theorem f39_ok0 : FnOk Tryd.prog glob 39 f39_G0 := by
  refine FnOk.of_text (C := f39_C) tab_ok.ok (Known.add f38_G_ok (Known.none)) follows_ok (fn := Tryd.f39) (by kernel_rfl) (by kernel_rfl) (by kernel_rfl) (fun c hc => ?_) fun tm hp K h => ?_
  · have e : c = bodyOf Tryd.f39 := Option.some.inj (hc.symm.trans (by kernel_rfl))
    subst e
    exact ⟨LoopsOk.of [nthC (bodies (bodyOf Tryd.f39)) 0] (by kernel_rfl) ⟨f39_p4_ok, trivial⟩, TailsOk.of (tab := f39_tab) rfl [] (by kernel_rfl) trivial⟩
  · unfold f39_G0 at h
    obtain ⟨xx, yy, rfl, rfl, h⟩ := getS_elim h
    have e := (f39_eq xx.1.1 xx.1.2 xx.2.1.1 xx.2.1.2 xx.2.2.1 yy.1 K).trans (show _ = funcT f39_C Tryd.f39 (mkR _ xx) (mkE _ yy) K by kernel_rfl)
    rw [← e]
    exact h.run
noncomputable abbrev f39_G := f39_G0
theorem f39_G_ok : FnOk Tryd.prog glob 39 f39_G := f39_ok0
end Go.Eng.N
set_option linter.unusedVariables false
set_option maxRecDepth 100000
open Go Go.Eng Go.Proofs
namespace Go.Eng.N
/-! ### f14: plenum/notify.Line -/
noncomputable def f14_p18b0 (es38 : List (List PC)) (full39 : Bool) (n40 : Int) (n41 : Int) (b42 : Bool) (n43 : Int) (i44 : Nat) (n45 : Nat) (b46 : Bool) (i47 : Nat) (n48 : Nat) (n49 : Int) (es50 : List (List PC)) (es51 : List (List PC)) (N0 : Int → Nat → Nat → (List (List PC)) → Prop) (k0 : Nat → Nat → (List (List PC)) → Prop) : Prop := bB (decide (n41 < n40)) ((0 ≤ n41 ∧ n41 < ((es38.length : Nat) : Int)) ∧ cS (ext (List.getD es38 (Int.toNat n41) []) 0 5) fun s53 r52 => cI .i64 r52 fun n55 r54 => cI .i64 r54 fun n57 r56 => cI .i64 r56 fun n59 r58 => cI .i64 r58 fun n61 r60 => nilC r60 <| f38 (⟨#[114, 101, 99, 105, 112, 105, 101, 110, 116]⟩ : ByteArray) (fun n62 s63 n64 n65 => f38 s53 (fun n66 s67 n68 n69 => f38 (⟨#[100, 97, 121, 115]⟩ : ByteArray) (fun n70 s71 n72 n73 => f39 0 3 [[pS (⟨#[109, 111, 110]⟩ : ByteArray)], [pS (⟨#[116, 117, 101]⟩ : ByteArray)], [pS (⟨#[119, 101, 100]⟩ : ByteArray)], [pS (⟨#[116, 104, 117]⟩ : ByteArray)], [pS (⟨#[102, 114, 105]⟩ : ByteArray)], [pS (⟨#[115, 97, 116]⟩ : ByteArray)], [pS (⟨#[115, 117, 110]⟩ : ByteArray)]] false n55 [[pI n62, pS s63, pI n64, pI n65], [pI n66, pS s67, pI n68, pI n69], [pI n70, pS s71, pI n72, pI n73]] (fun i74 n75 es76 => f38 (⟨#[102, 114, 111, 109]⟩ : ByteArray) (fun n77 s78 n79 n80 => f37 n57 (fun n81 s82 n83 n84 => f38 (⟨#[116, 111]⟩ : ByteArray) (fun n85 s86 n87 n88 => f37 n59 (fun n89 s90 n91 n92 => f38 (⟨#[102, 111, 114]⟩ : ByteArray) (fun n93 s94 n95 n96 => (i74 + n75) = es76.length ∧ (n75 + 5) * 40 ≤ 2 ^ 46 ∧ (n75 + 5) ≤ 2 ^ 46 ∧ f39 0 (n75 + 5) [[pS (⟨#[97, 108, 97, 114, 109]⟩ : ByteArray)], [pS (⟨#[102, 97, 117, 108, 116]⟩ : ByteArray)], [pS (⟨#[110, 111, 114, 109, 97, 108]⟩ : ByteArray)]] false n61 (List.drop i74 es76 ++ [[pI n77, pS s78, pI n79, pI n80], [pI n81, pS s82, pI n83, pI n84], [pI n85, pS s86, pI n87, pI n88], [pI n89, pS s90, pI n91, pI n92], [pI n93, pS s94, pI n95, pI n96]]) (fun i97 n98 es99 => (i47 + n48) = es51.length ∧ (n48 + 1) * 64 ≤ 2 ^ 46 ∧ (n48 + 1) ≤ 2 ^ 46 ∧ N0 (w64 (n41 + 1)) 0 (n48 + 1) (List.drop i47 es51 ++ [[.sl 4 (List.take n98 (List.drop i97 es99)) false, pB false, .sl 4 [] true, pI 0]])))))))))))) (k0 i47 n48 es51)
noncomputable def f14_p18 (es38 : List (List PC)) (full39 : Bool) (n40 : Int) (b42 : Bool) (n43 : Int) (i44 : Nat) (n45 : Nat) (b46 : Bool) (n49 : Int) (es50 : List (List PC)) (k0 : Nat → Nat → (List (List PC)) → Prop) : Int × Nat × Nat × (List (List PC)) → Prop := LoopP fun x N => f14_p18b0 es38 full39 n40 x.1 b42 n43 i44 n45 b46 x.2.1 x.2.2.1 n49 es50 x.2.2.2 (fun n41 i47 n48 es51 => N (n41, i47, n48, es51)) k0
noncomputable def f14_p17 (s26 : ByteArray) (n27 : Int) (n28 : Int) (es29 : List (List PC)) (full30 : Bool) (b31 : Bool) (n32 : Int) (i33 : Nat) (n34 : Nat) (b35 : Bool) (n36 : Int) (es37 : List (List PC)) (k0 : Int → Nat → Nat → (List (List PC)) → Prop) : Prop := f14_p18 es29 full30 ((es29.length : Nat) : Int) b31 n32 i33 n34 b35 n36 es37 (fun i100 n101 es102 => k0 0 i100 n101 es102) (0, 0, 0, [])
noncomputable def f14_d (s1 : ByteArray) (n2 : Int) (n3 : Int) (es4 : List (List PC)) (full5 : Bool) (k0 : (List (List PC)) → Bool → Bool → (List (List PC)) → Bool → Int → Int → Prop) : Prop := f16 s1 n2 n3 es4 full5 (fun n6 => bB (n6 != 0) (k0 [] true false [] true 0 n6) ((f38 (⟨#[99, 108, 97, 115, 115]⟩ : ByteArray) (fun n7 s8 n9 n10 => (f38 s1 (fun n11 s12 n13 n14 => (f38 (⟨#[112, 114, 105, 111, 114, 105, 116, 121]⟩ : ByteArray) (fun n15 s16 n17 n18 => (bB (n3 != 0) (f38 (⟨#[97, 99, 107]⟩ : ByteArray) (fun n19 s20 n21 n22 => 4 = 4 ∧ 5 * 40 ≤ 2 ^ 46 ∧ 5 ≤ 2 ^ 46 ∧ f39 0 5 [[pS (⟨#[97, 108, 97, 114, 109]⟩ : ByteArray)], [pS (⟨#[102, 97, 117, 108, 116]⟩ : ByteArray)], [pS (⟨#[110, 111, 114, 109, 97, 108]⟩ : ByteArray)]] false n3 [[pI n7, pS s8, pI n9, pI n10], [pI n11, pS s12, pI n13, pI n14], [pI n15, pS s16, pI n17, pI n18], [pI 2, pS (⟨#[]⟩ : ByteArray), pI (w64 (1000 * n2)), pI 0], [pI n19, pS s20, pI n21, pI n22]] (fun i23 n24 es25 => f14_p17 s1 n2 n3 es4 full5 false 0 i23 n24 (decide (((es4.length : Nat) : Int) > 0)) 0 es25 (fun n103 i104 n105 es106 => k0 (List.take n24 (List.drop i23 es25)) false (decide (((es4.length : Nat) : Int) > 0)) (List.take n105 (List.drop i104 es106)) false 0 n103)))) (f14_p17 s1 n2 n3 es4 full5 false 0 0 4 (decide (((es4.length : Nat) : Int) > 0)) 0 [[pI n7, pS s8, pI n9, pI n10], [pI n11, pS s12, pI n13, pI n14], [pI n15, pS s16, pI n17, pI n18], [pI 2, pS (⟨#[]⟩ : ByteArray), pI (w64 (1000 * n2)), pI 0]] (fun n107 i108 n109 es110 => k0 (List.take 4 (List.drop 0 [[pI n7, pS s8, pI n9, pI n10], [pI n11, pS s12, pI n13, pI n14], [pI n15, pS s16, pI n17, pI n18], [pI 2, pS (⟨#[]⟩ : ByteArray), pI (w64 (1000 * n2)), pI 0]])) false (decide (((es4.length : Nat) : Int) > 0)) (List.take n109 (List.drop i108 es110)) false 0 n107))) ∧ (bB (n3 != 0) (f38 (⟨#[97, 99, 107]⟩ : ByteArray) (fun n111 s112 n113 n114 => 4 = 4 ∧ 5 * 40 ≤ 2 ^ 46 ∧ 5 ≤ 2 ^ 46 ∧ f39 0 5 [[pS (⟨#[97, 108, 97, 114, 109]⟩ : ByteArray)], [pS (⟨#[102, 97, 117, 108, 116]⟩ : ByteArray)], [pS (⟨#[110, 111, 114, 109, 97, 108]⟩ : ByteArray)]] false n3 [[pI n7, pS s8, pI n9, pI n10], [pI n11, pS s12, pI n13, pI n14], [pI n15, pS s16, pI n17, pI n18], [pI 2, pS (⟨#[]⟩ : ByteArray), pI (w64 (1000 * n2)), pI 0], [pI n111, pS s112, pI n113, pI n114]] (fun i115 n116 es117 => f14_p17 s1 n2 n3 es4 full5 false 0 i115 n116 (decide (((es4.length : Nat) : Int) > 0)) 0 es117 (fun n118 i119 n120 es121 => k0 (List.take n116 (List.drop i115 es117)) false (decide (((es4.length : Nat) : Int) > 0)) (List.take n120 (List.drop i119 es121)) false 0 n118)))) (f14_p17 s1 n2 n3 es4 full5 false 0 0 4 (decide (((es4.length : Nat) : Int) > 0)) 0 [[pI n7, pS s8, pI n9, pI n10], [pI n11, pS s12, pI n13, pI n14], [pI n15, pS s16, pI n17, pI n18], [pI 2, pS (⟨#[]⟩ : ByteArray), pI (w64 (1000 * n2)), pI 0]] (fun n122 i123 n124 es125 => k0 (List.take 4 (List.drop 0 [[pI n7, pS s8, pI n9, pI n10], [pI n11, pS s12, pI n13, pI n14], [pI n15, pS s16, pI n17, pI n18], [pI 2, pS (⟨#[]⟩ : ByteArray), pI (w64 (1000 * n2)), pI 0]])) false (decide (((es4.length : Nat) : Int) > 0)) (List.take n124 (List.drop i123 es125)) false 0 n122))))) ∧ (f38 (⟨#[112, 114, 105, 111, 114, 105, 116, 121]⟩ : ByteArray) (fun n126 s127 n128 n129 => bB (n3 != 0) (f38 (⟨#[97, 99, 107]⟩ : ByteArray) (fun n130 s131 n132 n133 => 4 = 4 ∧ 5 * 40 ≤ 2 ^ 46 ∧ 5 ≤ 2 ^ 46 ∧ f39 0 5 [[pS (⟨#[97, 108, 97, 114, 109]⟩ : ByteArray)], [pS (⟨#[102, 97, 117, 108, 116]⟩ : ByteArray)], [pS (⟨#[110, 111, 114, 109, 97, 108]⟩ : ByteArray)]] false n3 [[pI n7, pS s8, pI n9, pI n10], [pI n11, pS s12, pI n13, pI n14], [pI n126, pS s127, pI n128, pI n129], [pI 2, pS (⟨#[]⟩ : ByteArray), pI (w64 (1000 * n2)), pI 0], [pI n130, pS s131, pI n132, pI n133]] (fun i134 n135 es136 => f14_p17 s1 n2 n3 es4 full5 false 0 i134 n135 (decide (((es4.length : Nat) : Int) > 0)) 0 es136 (fun n137 i138 n139 es140 => k0 (List.take n135 (List.drop i134 es136)) false (decide (((es4.length : Nat) : Int) > 0)) (List.take n139 (List.drop i138 es140)) false 0 n137)))) (f14_p17 s1 n2 n3 es4 full5 false 0 0 4 (decide (((es4.length : Nat) : Int) > 0)) 0 [[pI n7, pS s8, pI n9, pI n10], [pI n11, pS s12, pI n13, pI n14], [pI n126, pS s127, pI n128, pI n129], [pI 2, pS (⟨#[]⟩ : ByteArray), pI (w64 (1000 * n2)), pI 0]] (fun n141 i142 n143 es144 => k0 (List.take 4 (List.drop 0 [[pI n7, pS s8, pI n9, pI n10], [pI n11, pS s12, pI n13, pI n14], [pI n126, pS s127, pI n128, pI n129], [pI 2, pS (⟨#[]⟩ : ByteArray), pI (w64 (1000 * n2)), pI 0]])) false (decide (((es4.length : Nat) : Int) > 0)) (List.take n143 (List.drop i142 es144)) false 0 n141)))))) ∧ (f38 s1 (fun n145 s146 n147 n148 => f38 (⟨#[112, 114, 105, 111, 114, 105, 116, 121]⟩ : ByteArray) (fun n149 s150 n151 n152 => bB (n3 != 0) (f38 (⟨#[97, 99, 107]⟩ : ByteArray) (fun n153 s154 n155 n156 => 4 = 4 ∧ 5 * 40 ≤ 2 ^ 46 ∧ 5 ≤ 2 ^ 46 ∧ f39 0 5 [[pS (⟨#[97, 108, 97, 114, 109]⟩ : ByteArray)], [pS (⟨#[102, 97, 117, 108, 116]⟩ : ByteArray)], [pS (⟨#[110, 111, 114, 109, 97, 108]⟩ : ByteArray)]] false n3 [[pI n7, pS s8, pI n9, pI n10], [pI n145, pS s146, pI n147, pI n148], [pI n149, pS s150, pI n151, pI n152], [pI 2, pS (⟨#[]⟩ : ByteArray), pI (w64 (1000 * n2)), pI 0], [pI n153, pS s154, pI n155, pI n156]] (fun i157 n158 es159 => f14_p17 s1 n2 n3 es4 full5 false 0 i157 n158 (decide (((es4.length : Nat) : Int) > 0)) 0 es159 (fun n160 i161 n162 es163 => k0 (List.take n158 (List.drop i157 es159)) false (decide (((es4.length : Nat) : Int) > 0)) (List.take n162 (List.drop i161 es163)) false 0 n160)))) (f14_p17 s1 n2 n3 es4 full5 false 0 0 4 (decide (((es4.length : Nat) : Int) > 0)) 0 [[pI n7, pS s8, pI n9, pI n10], [pI n145, pS s146, pI n147, pI n148], [pI n149, pS s150, pI n151, pI n152], [pI 2, pS (⟨#[]⟩ : ByteArray), pI (w64 (1000 * n2)), pI 0]] (fun n164 i165 n166 es167 => k0 (List.take 4 (List.drop 0 [[pI n7, pS s8, pI n9, pI n10], [pI n145, pS s146, pI n147, pI n148], [pI n149, pS s150, pI n151, pI n152], [pI 2, pS (⟨#[]⟩ : ByteArray), pI (w64 (1000 * n2)), pI 0]])) false (decide (((es4.length : Nat) : Int) > 0)) (List.take n166 (List.drop i165 es167)) false 0 n164))))))) ∧ (f38 (⟨#[99, 108, 97, 115, 115]⟩ : ByteArray) (fun n168 s169 n170 n171 => f38 s1 (fun n172 s173 n174 n175 => f38 (⟨#[112, 114, 105, 111, 114, 105, 116, 121]⟩ : ByteArray) (fun n176 s177 n178 n179 => bB (n3 != 0) (f38 (⟨#[97, 99, 107]⟩ : ByteArray) (fun n180 s181 n182 n183 => 4 = 4 ∧ 5 * 40 ≤ 2 ^ 46 ∧ 5 ≤ 2 ^ 46 ∧ f39 0 5 [[pS (⟨#[97, 108, 97, 114, 109]⟩ : ByteArray)], [pS (⟨#[102, 97, 117, 108, 116]⟩ : ByteArray)], [pS (⟨#[110, 111, 114, 109, 97, 108]⟩ : ByteArray)]] false n3 [[pI n168, pS s169, pI n170, pI n171], [pI n172, pS s173, pI n174, pI n175], [pI n176, pS s177, pI n178, pI n179], [pI 2, pS (⟨#[]⟩ : ByteArray), pI (w64 (1000 * n2)), pI 0], [pI n180, pS s181, pI n182, pI n183]] (fun i184 n185 es186 => f14_p17 s1 n2 n3 es4 full5 false 0 i184 n185 (decide (((es4.length : Nat) : Int) > 0)) 0 es186 (fun n187 i188 n189 es190 => k0 (List.take n185 (List.drop i184 es186)) false (decide (((es4.length : Nat) : Int) > 0)) (List.take n189 (List.drop i188 es190)) false 0 n187)))) (f14_p17 s1 n2 n3 es4 full5 false 0 0 4 (decide (((es4.length : Nat) : Int) > 0)) 0 [[pI n168, pS s169, pI n170, pI n171], [pI n172, pS s173, pI n174, pI n175], [pI n176, pS s177, pI n178, pI n179], [pI 2, pS (⟨#[]⟩ : ByteArray), pI (w64 (1000 * n2)), pI 0]] (fun n191 i192 n193 es194 => k0 (List.take 4 (List.drop 0 [[pI n168, pS s169, pI n170, pI n171], [pI n172, pS s173, pI n174, pI n175], [pI n176, pS s177, pI n178, pI n179], [pI 2, pS (⟨#[]⟩ : ByteArray), pI (w64 (1000 * n2)), pI 0]])) false (decide (((es4.length : Nat) : Int) > 0)) (List.take n193 (List.drop i192 es194)) false 0 n191))))))))
structure f14 (s1 : ByteArray) (n2 : Int) (n3 : Int) (es4 : List (List PC)) (full5 : Bool) (k0 : (List (List PC)) → Bool → Bool → (List (List PC)) → Bool → Int → Int → Prop) : Prop where
  run : f14_d s1 n2 n3 es4 full5 k0
noncomputable def f14_p18L : Told := fun s K => match s with
  | ⟨tm, hp⟩ => getS [.skip 2, .v (.one (.ptr 0 0 0)), .skip 2, .v (.one (.fn 37)), .v (.one (.ptr 1 0 0)), .skip 38, .v (.one (.sl 5)), .v (.one (.int .i64)), .v (.one (.int .i64)), .skip 40] [.box [.nil 4, .bool, .nil 4, .int .i64], .box [.ref 2, .bool, .ref 3, .int .i64], .vec 4 true, .vec 4 true] tm hp fun (xx : (Unit × (Unit × (Unit × (Unit × (Unit × (Unit × ((List (List PC) × Bool) × (Int × (Int × (Unit × Unit))))))))))) (yy : ((Unit × (Bool × (Unit × (Int × Unit)))) × (((Nat × Nat) × (Bool × ((Nat × Nat) × (Int × Unit)))) × ((List (List PC)) × ((List (List PC)) × Unit))))) => f14_p18 xx.2.2.2.2.2.2.1.1 xx.2.2.2.2.2.2.1.2 xx.2.2.2.2.2.2.2.1 yy.1.2.1 yy.1.2.2.2.1 yy.2.1.1.1 yy.2.1.1.2 yy.2.1.2.1 yy.2.1.2.2.2.1 yy.2.2.1 (fun i0_0 n0_1 es0_2 => K (.exit 0) ⟨mkS 88 [(2, .w (.one (.ptr 0 0 0))), (6, .w (.one (.ptr 1 0 0)))], [.box [.p (.sl 4 [] true), .p (pB yy.1.2.1), .p (.sl 4 [] true), .p (pI yy.1.2.2.2.1)], .box [.ref 2 yy.2.1.1.1 yy.2.1.1.2, .p (pB yy.2.1.2.1), .ref 3 i0_0 n0_1, .p (pI yy.2.1.2.2.2.1)], .vec 4 yy.2.2.1 true, .vec 4 es0_2 true]⟩) (xx.2.2.2.2.2.2.2.2.1, yy.2.1.2.2.1.1, yy.2.1.2.2.1.2, yy.2.2.2.1)
noncomputable def f14_p17L : Told := fun s K => match s with
  | ⟨tm, hp⟩ => getS [.skip 1, .v (.one (.ptr 0 0 0)), .v (.one (.ptr 1 0 0)), .skip 2, .v (.one (.fn 37)), .v (.one (.ptr 2 0 0)), .skip 81] [.box [.str, .int .i64, .int .i64, .sl 5], .box [.nil 4, .bool, .nil 4, .int .i64], .box [.ref 3, .bool, .nil 4, .int .i64], .vec 4 true] tm hp fun (xx : (Unit × (Unit × (Unit × (Unit × (Unit × (Unit × (Unit × Unit)))))))) (yy : ((ByteArray × (Int × (Int × ((List (List PC) × Bool) × Unit)))) × ((Unit × (Bool × (Unit × (Int × Unit)))) × (((Nat × Nat) × (Bool × (Unit × (Int × Unit)))) × ((List (List PC)) × Unit))))) => f14_p17 yy.1.1 yy.1.2.1 yy.1.2.2.1 yy.1.2.2.2.1.1 yy.1.2.2.2.1.2 yy.2.1.2.1 yy.2.1.2.2.2.1 yy.2.2.1.1.1 yy.2.2.1.1.2 yy.2.2.1.2.1 yy.2.2.1.2.2.2.1 yy.2.2.2.1 (fun n0_3 i0_4 n0_5 es0_6 => K .ret ⟨mkS 88 [(2, .w (.one (.ptr 0 0 0))), (3, I n0_3)], [.box [.ref 1 yy.2.2.1.1.1 yy.2.2.1.1.2, .p (pB yy.2.2.1.2.1), .ref 2 i0_4 n0_5, .p (pI yy.2.2.1.2.2.2.1)], .vec 4 yy.2.2.2.1 true, .vec 4 es0_6 true]⟩)
noncomputable def f14_tab : List (Nat × Told) := [(18, f14_p18L), (17, f14_p17L)]
noncomputable def f14_call : FuncId → List TV → List Entry → (TV → List Entry → Prop) → Prop := addCall 39 f39_G (addCall 38 f38_G (addCall 37 f37_G (addCall 16 f16_G (noCalls))))
noncomputable def f14_C : Ctx := { ty := tyOf tab, glob := glob, byRef := byRef, keep := fun k i => lookN [] (lookN [] ([(18, [(0, [2, 5, 6, 45, 46, 47]), (2, [2, 3]), (3, [2, 6])]), (17, [(0, [1, 2, 5, 6]), (1, [2, 3]), (2, [2, 3])])] : List (Nat × List (Nat × List Nat))) k) i, late := lookN [] ([] : List (Nat × List Nat)), nref := lookN [] ([] : List (Nat × List Nat)), nbox := lookN [] ([(18, [(1, 2)])] : List (Nat × List (Nat × Nat))), take := [], rnil := false, m := 0, fz := true, loops := lookL f14_tab, call := f14_call }
noncomputable def f14_p18_mk (es38 : List (List PC)) (full39 : Bool) (n40 : Int) (b42 : Bool) (n43 : Int) (i44 : Nat) (n45 : Nat) (b46 : Bool) (n49 : Int) (es50 : List (List PC)) (x : Int × Nat × Nat × (List (List PC))) : St := ⟨mkS 88 [(2, .w (.one (.ptr 0 0 0))), (5, .w (.one (.p (.c (.func (.func 37) #[] #[]))))), (6, .w (.one (.ptr 1 0 0))), (45, .w (.one (.p (.sl 5 es38 full39)))), (46, I n40), (47, I x.1)], [.box [.p (.sl 4 [] true), .p (pB b42), .p (.sl 4 [] true), .p (pI n43)], .box [.ref 2 i44 n45, .p (pB b46), .ref 3 x.2.1 x.2.2.1, .p (pI n49)], .vec 4 es50 true, .vec 4 x.2.2.2 true]⟩
set_option maxRecDepth 100000 in
theorem f14_p18e0 (es_28 : List (List PC)) (full_29 : Bool) (n_30 : Int) (n_31 : Int) (b_32 : Bool) (n_33 : Int) (i_34 : Nat) (n_35 : Nat) (b_36 : Bool) (i_37 : Nat) (n_38 : Nat) (n_39 : Int) (es_40 : List (List PC)) (es_41 : List (List PC)) (N : St → Prop) (K : TExit → St → Prop) : (f14_p18b0 es_28 full_29 n_30 n_31 b_32 n_33 i_34 n_35 b_36 i_37 n_38 n_39 es_40 es_41 (fun z3 z9 z10 z13 => N (f14_p18_mk es_28 full_29 n_30 b_32 n_33 i_34 n_35 b_36 n_39 es_40 (z3, z9, z10, z13))) (fun i0_42 n0_43 es0_44 => K (.exit 0) ⟨mkS 88 [(2, .w (.one (.ptr 0 0 0))), (6, .w (.one (.ptr 1 0 0)))], [.box [.p (.sl 4 [] true), .p (pB b_32), .p (.sl 4 [] true), .p (pI n_33)], .box [.ref 2 i_34 n_35, .p (pB b_36), .ref 3 i0_42 n0_43, .p (pI n_39)], .vec 4 es_40 true, .vec 4 es0_44 true]⟩)) = execT f14_C (nthC (bodies (bodyOf Tryd.f14)) 0) (f14_p18_mk es_28 full_29 n_30 b_32 n_33 i_34 n_35 b_36 n_39 es_40 (n_31, i_37, n_38, es_41)) (loopK N (normK f14_C 18) fun e s => K e (normOut f14_C 18 e s)) := by kernel_rfl
set_option maxRecDepth 100000 in
theorem f14_p17e0 (s_45 : ByteArray) (n_46 : Int) (n_47 : Int) (es_48 : List (List PC)) (full_49 : Bool) (b_50 : Bool) (n_51 : Int) (i_52 : Nat) (n_53 : Nat) (b_54 : Bool) (n_55 : Int) (es_56 : List (List PC)) (K : TExit → St → Prop) : (f14_p17 s_45 n_46 n_47 es_48 full_49 b_50 n_51 i_52 n_53 b_54 n_55 es_56 (fun n0_57 i0_58 n0_59 es0_60 => K .ret ⟨mkS 88 [(2, .w (.one (.ptr 0 0 0))), (3, I n0_57)], [.box [.ref 1 i_52 n_53, .p (pB b_54), .ref 2 i0_58 n0_59, .p (pI n_55)], .vec 4 es_56 true, .vec 4 es0_60 true]⟩)) = execT f14_C (nthC (tails (bodyOf Tryd.f14)) 7) ⟨mkS 88 [(1, .w (.one (.ptr 0 0 0))), (2, .w (.one (.ptr 1 0 0))), (5, .w (.one (.p (.c (.func (.func 37) #[] #[]))))), (6, .w (.one (.ptr 2 0 0)))], [.box [.p (pS s_45), .p (pI n_46), .p (pI n_47), .p (.sl 5 es_48 full_49)], .box [.p (.sl 4 [] true), .p (pB b_50), .p (.sl 4 [] true), .p (pI n_51)], .box [.ref 3 i_52 n_53, .p (pB b_54), .p (.sl 4 [] true), .p (pI n_55)], .vec 4 es_56 true]⟩ (fun e s => K e (normOut f14_C 17 e s)) := by kernel_rfl
set_option maxHeartbeats 4000000 in
theorem f14_p18_ok : LoopOk f14_C (nthC (bodies (bodyOf Tryd.f14)) 0) := by
  refine LoopOk.of f14_p18L (by kernel_rfl) fun σ K h => ?_
  have hk : loopKey (nthC (bodies (bodyOf Tryd.f14)) 0) = 18 := by kernel_rfl
  rw [hk] at h ⊢
  generalize hs : normK f14_C 18 σ = s at h
  obtain ⟨tm, hp⟩ := s
  unfold f14_p18L at h
  dsimp only at h
  obtain ⟨xx, yy, rfl, rfl, h⟩ := getS_elim h
  refine iter_of (f14_p18_mk xx.2.2.2.2.2.2.1.1 xx.2.2.2.2.2.2.1.2 xx.2.2.2.2.2.2.2.1 yy.1.2.1 yy.1.2.2.2.1 yy.2.1.1.1 yy.2.1.1.2 yy.2.1.2.1 yy.2.1.2.2.2.1 yy.2.2.1) (fun x N h => ?_) rounds _ σ (hs.trans (by kernel_rfl)) (LoopP.run h)
  obtain ⟨y0, y1, y2, y3⟩ := x
  rw [← f14_p18e0 xx.2.2.2.2.2.2.1.1 xx.2.2.2.2.2.2.1.2 xx.2.2.2.2.2.2.2.1 y0 yy.1.2.1 yy.1.2.2.2.1 yy.2.1.1.1 yy.2.1.1.2 yy.2.1.2.1 y1 y2 yy.2.1.2.2.2.1 yy.2.2.1 y3 N K]
  exact h
set_option maxHeartbeats 4000000 in
theorem f14_p17_ok : TailOk f14_C (nthC (tails (bodyOf Tryd.f14)) 7) := by
  refine TailOk.of f14_p17L (by kernel_rfl) fun σ K h => ?_
  have hk : joinKey (nthC (tails (bodyOf Tryd.f14)) 7) = 17 := by kernel_rfl
  rw [hk] at h ⊢
  generalize hs : normK f14_C 17 σ = s at h
  obtain ⟨tm, hp⟩ := s
  unfold f14_p17L at h
  dsimp only at h
  obtain ⟨xx, yy, rfl, rfl, h⟩ := getS_elim h
  have q : normK f14_C 17 σ = (⟨mkS 88 [(1, .w (.one (.ptr 0 0 0))), (2, .w (.one (.ptr 1 0 0))), (5, .w (.one (.p (.c (.func (.func 37) #[] #[]))))), (6, .w (.one (.ptr 2 0 0)))], [.box [.p (pS yy.1.1), .p (pI yy.1.2.1), .p (pI yy.1.2.2.1), .p (.sl 5 yy.1.2.2.2.1.1 yy.1.2.2.2.1.2)], .box [.p (.sl 4 [] true), .p (pB yy.2.1.2.1), .p (.sl 4 [] true), .p (pI yy.2.1.2.2.2.1)], .box [.ref 3 yy.2.2.1.1.1 yy.2.2.1.1.2, .p (pB yy.2.2.1.2.1), .p (.sl 4 [] true), .p (pI yy.2.2.1.2.2.2.1)], .vec 4 yy.2.2.2.1 true]⟩ : St) := hs.trans (by kernel_rfl)
  rw [← hs, q, ← f14_p17e0 yy.1.1 yy.1.2.1 yy.1.2.2.1 yy.1.2.2.2.1.1 yy.1.2.2.2.1.2 yy.2.1.2.1 yy.2.1.2.2.2.1 yy.2.2.1.1.1 yy.2.2.1.1.2 yy.2.2.1.2.1 yy.2.2.1.2.2.2.1 yy.2.2.2.1 K]
  exact h
noncomputable def f14_G0 : List TV → List Entry → (TV → List Entry → Prop) → Prop := fun tm hp K => getS [.v (.pagg [.str, .int .i64, .int .i64, .sl 5])] [] tm hp fun (xx : ((ByteArray × (Int × (Int × ((List (List PC) × Bool) × Unit)))) × Unit)) (yy : Unit) => f14 xx.1.1 xx.1.2.1 xx.1.2.2.1 xx.1.2.2.2.1.1 xx.1.2.2.2.1.2 (fun es0_7 full0_8 b0_9 es0_10 full0_11 n0_12 n0_13 => K (.tup [.pagg [.sl 4 es0_7 full0_8, pB b0_9, .sl 4 es0_10 full0_11, pI n0_12], .one (.p (pI n0_13))]) [])
set_option maxRecDepth 100000 in
theorem f14_eq (s_61 : ByteArray) (n_62 : Int) (n_63 : Int) (es_64 : List (List PC)) (full_65 : Bool) (K : TV → List Entry → Prop) : (f14_d s_61 n_62 n_63 es_64 full_65 (fun es0_7 full0_8 b0_9 es0_10 full0_11 n0_12 n0_13 => K (.tup [.pagg [.sl 4 es0_7 full0_8, pB b0_9, .sl 4 es0_10 full0_11, pI n0_12], .one (.p (pI n0_13))]) [])) = funcT f14_C Tryd.f14 [.w (.pagg [pS s_61, pI n_62, pI n_63, .sl 5 es_64 full_65])] [] K := by kernel_rfl
set_option maxHeartbeats 4000000 in
theorem f14_ok0 : FnOk Tryd.prog glob 14 f14_G0 := by
  refine FnOk.of_text (C := f14_C) tab_ok.ok (Known.add f39_G_ok (Known.add f38_G_ok (Known.add f37_G_ok (Known.add f16_G_ok (Known.none))))) follows_ok (fn := Tryd.f14) (by kernel_rfl) (by kernel_rfl) (by kernel_rfl) (fun c hc => ?_) fun tm hp K h => ?_
  · have e : c = bodyOf Tryd.f14 := Option.some.inj (hc.symm.trans (by kernel_rfl))
    subst e
    exact ⟨LoopsOk.of [nthC (bodies (bodyOf Tryd.f14)) 0] (by kernel_rfl) ⟨f14_p18_ok, trivial⟩, TailsOk.of (tab := f14_tab) rfl [nthC (tails (bodyOf Tryd.f14)) 7] (by kernel_rfl) ⟨f14_p17_ok, trivial⟩⟩
  · unfold f14_G0 at h
    obtain ⟨xx, yy, rfl, rfl, h⟩ := getS_elim h
    have e := (f14_eq xx.1.1 xx.1.2.1 xx.1.2.2.1 xx.1.2.2.2.1.1 xx.1.2.2.2.1.2 K).trans (show _ = funcT f14_C Tryd.f14 (mkR _ xx) (mkE _ yy) K by kernel_rfl)
    rw [← e]
    exact h.run
noncomputable abbrev f14_G := f14_G0
theorem f14_G_ok : FnOk Tryd.prog glob 14 f14_G := f14_ok0
end Go.Eng.N
set_option linter.unusedVariables false
set_option maxRecDepth 100000
open Go Go.Eng Go.Proofs
namespace Go.Eng.N
/-! ### f36: plenum/plenumlaw39.hvac -/
noncomputable def f36_d (k0 : ByteArray → Int → Int → (List (List PC)) → Bool → Prop) : Prop := k0 (⟨#[104, 118, 97, 99]⟩ : ByteArray) 20 3 [[pS (⟨#[100, 97, 121]⟩ : ByteArray), pI 31, pI 480, pI 1019, pI 7], [pS (⟨#[119, 97, 116, 99, 104]⟩ : ByteArray), pI 127, pI 0, pI 1439, pI 3]] false
structure f36 (k0 : ByteArray → Int → Int → (List (List PC)) → Bool → Prop) : Prop where
  run : f36_d k0
noncomputable def f36_tab : List (Nat × Told) := []
noncomputable def f36_call : FuncId → List TV → List Entry → (TV → List Entry → Prop) → Prop := noCalls
noncomputable def f36_C : Ctx := { ty := tyOf tab, glob := glob, byRef := byRef, keep := fun k i => lookN [] (lookN [] ([] : List (Nat × List (Nat × List Nat))) k) i, late := lookN [] ([] : List (Nat × List Nat)), nref := lookN [] ([] : List (Nat × List Nat)), nbox := lookN [] ([] : List (Nat × List (Nat × Nat))), take := [], rnil := false, m := 0, fz := true, loops := lookL f36_tab, call := f36_call }
noncomputable def f36_G0 : List TV → List Entry → (TV → List Entry → Prop) → Prop := fun tm hp K => getS [] [] tm hp fun (xx : Unit) (yy : Unit) => f36 (fun s0_0 n0_1 n0_2 es0_3 full0_4 => K (.w (.pagg [pS s0_0, pI n0_1, pI n0_2, .sl 5 es0_3 full0_4])) [])
set_option maxRecDepth 100000 in
theorem f36_eq (K : TV → List Entry → Prop) : (f36_d (fun s0_0 n0_1 n0_2 es0_3 full0_4 => K (.w (.pagg [pS s0_0, pI n0_1, pI n0_2, .sl 5 es0_3 full0_4])) [])) = funcT f36_C Tryd.f36 [] [] K := by kernel_rfl
set_option maxHeartbeats 4000000 in
theorem f36_ok0 : FnOk Tryd.prog glob 36 f36_G0 := by
  refine FnOk.of_text (C := f36_C) tab_ok.ok (Known.none) follows_ok (fn := Tryd.f36) (by kernel_rfl) (by kernel_rfl) (by kernel_rfl) (fun c hc => ?_) fun tm hp K h => ?_
  · have e : c = bodyOf Tryd.f36 := Option.some.inj (hc.symm.trans (by kernel_rfl))
    subst e
    exact ⟨LoopsOk.of [] (by kernel_rfl) trivial, TailsOk.of (tab := f36_tab) rfl [] (by kernel_rfl) trivial⟩
  · unfold f36_G0 at h
    obtain ⟨xx, yy, rfl, rfl, h⟩ := getS_elim h
    have e := (f36_eq K).trans (show _ = funcT f36_C Tryd.f36 (mkR _ xx) (mkE _ yy) K by kernel_rfl)
    rw [← e]
    exact h.run
noncomputable abbrev f36_G := f36_G0
theorem f36_G_ok : FnOk Tryd.prog glob 36 f36_G := f36_ok0
end Go.Eng.N
set_option linter.unusedVariables false
set_option maxRecDepth 100000
open Go Go.Eng Go.Proofs
namespace Go.Eng.N
/-! ### f12: plenum/plenumlaw39.awake -/
noncomputable def f12_d (k0 : Bool → Prop) : Prop := f36 (fun s1 n2 n3 es4 full5 => f19 s1 n2 n3 es4 full5 43200 1 (fun es6 full7 n8 => f19 s1 n2 n3 es4 full5 43200 0 (fun es9 full10 n11 => f19 s1 n2 n3 es4 full5 201600 3 (fun es12 full13 n14 => f21 s1 n2 n3 es4 full5 0 (⟨#[]⟩ : ByteArray) 43200 0 4 0 0 (fun es15 full16 n17 => f25 s1 n2 n3 es4 full5 0 (fun es18 full19 n20 => f25 s1 n2 n3 es4 full5 4 (fun es21 full22 n23 => f27 s1 n2 n3 es4 full5 (⟨#[100, 97, 121]⟩ : ByteArray) (fun s24 n25 n26 es27 full28 n29 => f14 s1 n2 n3 es4 full5 (fun es30 full31 b32 es33 full34 n35 n36 => bB (n8 == 0) (bB (((es6.length : Nat) : Int) == 1) ((0 ≤ (0 : Int) ∧ (0 : Int) < ((es6.length : Nat) : Int)) ∧ oS (ext (List.getD es6 0 []) 0 1) fun s37 => bB (s37.toList == (⟨#[119, 97, 116, 99, 104]⟩ : ByteArray).toList) (bB (n11 == 0) (bB (((es9.length : Nat) : Int) == 0) (bB (n14 == 0) (bB (((es12.length : Nat) : Int) == 2) ((0 ≤ (0 : Int) ∧ (0 : Int) < ((es12.length : Nat) : Int)) ∧ oS (ext (List.getD es12 0 []) 0 1) fun s38 => bB (s38.toList == (⟨#[100, 97, 121]⟩ : ByteArray).toList) (bB (n17 == 0) (bB (((es15.length : Nat) : Int) == 1) ((0 ≤ (0 : Int) ∧ (0 : Int) < ((es15.length : Nat) : Int)) ∧ oB (ext (List.getD es15 0 []) 9 1) fun b39 => bB b39 ((0 ≤ (0 : Int) ∧ (0 : Int) < ((es15.length : Nat) : Int)) ∧ oI .i64 (ext (List.getD es15 0 []) 8 1) fun n40 => bB (n40 == 20) (bB (n20 == 0) (bB (((es18.length : Nat) : Int) == 12) ((0 ≤ (1 : Int) ∧ (1 : Int) < ((es18.length : Nat) : Int)) ∧ cI .i64 (ext (List.getD es18 1 []) 0 3) fun n42 r41 => cI .i64 r41 fun n44 r43 => cI .i64 r43 fun n46 r45 => nilC r45 <| bB ((n42 == 1) && ((n44 == 1020) && ((n46 == 1439) && true))) (bB (n23 == 0) (bB (((es21.length : Nat) : Int) == 0) (bB (n29 == 10) (bB (n36 == 0) (bB (((es33.length : Nat) : Int) == 2) (f16 s1 n2 n3 es4 full5 (fun n47 => k0 (n47 == 0))) (k0 false)) (k0 false)) (k0 false)) (k0 false)) (k0 false)) (k0 false)) (k0 false)) (k0 false)) (k0 false)) (k0 false)) (k0 false)) (k0 false)) (k0 false)) (k0 false)) (k0 false)) (k0 false)) (k0 false)) (k0 false)) (k0 false)) (k0 false))))))))))
structure f12 (k0 : Bool → Prop) : Prop where
  run : f12_d k0
noncomputable def f12_tab : List (Nat × Told) := []
noncomputable def f12_call : FuncId → List TV → List Entry → (TV → List Entry → Prop) → Prop := addCall 36 f36_G (addCall 27 f27_G (addCall 25 f25_G (addCall 21 f21_G (addCall 19 f19_G (addCall 16 f16_G (addCall 14 f14_G (noCalls)))))))
noncomputable def f12_C : Ctx := { ty := tyOf tab, glob := glob, byRef := byRef, keep := fun k i => lookN [] (lookN [] ([] : List (Nat × List (Nat × List Nat))) k) i, late := lookN [] ([] : List (Nat × List Nat)), nref := lookN [] ([] : List (Nat × List Nat)), nbox := lookN [] ([] : List (Nat × List (Nat × Nat))), take := [], rnil := false, m := 0, fz := true, loops := lookL f12_tab, call := f12_call }
noncomputable def f12_G0 : List TV → List Entry → (TV → List Entry → Prop) → Prop := fun tm hp K => getS [] [] tm hp fun (xx : Unit) (yy : Unit) => f12 (fun b0_0 => K (B b0_0) [])
set_option maxRecDepth 100000 in
theorem f12_eq (K : TV → List Entry → Prop) : (f12_d (fun b0_0 => K (B b0_0) [])) = funcT f12_C Tryd.f12 [] [] K := by kernel_rfl
set_option maxHeartbeats 4000000 in
theorem f12_ok0 : FnOk Tryd.prog glob 12 f12_G0 := by
  refine FnOk.of_text (C := f12_C) tab_ok.ok (Known.add f36_G_ok (Known.add f27_G_ok (Known.add f25_G_ok (Known.add f21_G_ok (Known.add f19_G_ok (Known.add f16_G_ok (Known.add f14_G_ok (Known.none)))))))) follows_ok (fn := Tryd.f12) (by kernel_rfl) (by kernel_rfl) (by kernel_rfl) (fun c hc => ?_) fun tm hp K h => ?_
  · have e : c = bodyOf Tryd.f12 := Option.some.inj (hc.symm.trans (by kernel_rfl))
    subst e
    exact ⟨LoopsOk.of [] (by kernel_rfl) trivial, TailsOk.of (tab := f12_tab) rfl [] (by kernel_rfl) trivial⟩
  · unfold f12_G0 at h
    obtain ⟨xx, yy, rfl, rfl, h⟩ := getS_elim h
    have e := (f12_eq K).trans (show _ = funcT f12_C Tryd.f12 (mkR _ xx) (mkE _ yy) K by kernel_rfl)
    rw [← e]
    exact h.run
noncomputable abbrev f12_G := f12_G0
theorem f12_G_ok : FnOk Tryd.prog glob 12 f12_G := f12_ok0
end Go.Eng.N
set_option linter.unusedVariables false
set_option maxRecDepth 100000
open Go Go.Eng Go.Proofs
namespace Go.Eng.N
/-! ### f67: (*plenum/notify.reader).ok -/
noncomputable def f67_d (es1 : List (List PC)) (full2 : Bool) (b3 : Bool) (es4 : List (List PC)) (full5 : Bool) (n6 : Int) (n7 : Int) (n8 : Int) (n9 : Int) (n10 : Int) (k0 : Bool → (List (List PC)) → Bool → Bool → (List (List PC)) → Bool → Int → Int → Int → Int → Int → Prop) : Prop := k0 (n8 == 0) es1 full2 b3 es4 full5 n6 n7 n8 n9 n10
structure f67 (es1 : List (List PC)) (full2 : Bool) (b3 : Bool) (es4 : List (List PC)) (full5 : Bool) (n6 : Int) (n7 : Int) (n8 : Int) (n9 : Int) (n10 : Int) (k0 : Bool → (List (List PC)) → Bool → Bool → (List (List PC)) → Bool → Int → Int → Int → Int → Int → Prop) : Prop where
  run : f67_d es1 full2 b3 es4 full5 n6 n7 n8 n9 n10 k0
noncomputable def f67_tab : List (Nat × Told) := []
noncomputable def f67_call : FuncId → List TV → List Entry → (TV → List Entry → Prop) → Prop := noCalls
noncomputable def f67_C : Ctx := { ty := tyOf tab, glob := glob, byRef := byRef, keep := fun k i => lookN [] (lookN [] ([] : List (Nat × List (Nat × List Nat))) k) i, late := lookN [] ([] : List (Nat × List Nat)), nref := lookN [] ([] : List (Nat × List Nat)), nbox := lookN [] ([] : List (Nat × List (Nat × Nat))), take := [], rnil := false, m := 1, fz := true, loops := lookL f67_tab, call := f67_call }
noncomputable def f67_G0 : List TV → List Entry → (TV → List Entry → Prop) → Prop := fun tm hp K => getS [.v (.one (.ptr 0 0 0))] [.box [.sl 4, .bool, .sl 4, .int .i64, .int .i64, .int .i64, .int .i64, .int .i64]] tm hp fun (xx : (Unit × Unit)) (yy : (((List (List PC) × Bool) × (Bool × ((List (List PC) × Bool) × (Int × (Int × (Int × (Int × (Int × Unit)))))))) × Unit)) => f67 yy.1.1.1 yy.1.1.2 yy.1.2.1 yy.1.2.2.1.1 yy.1.2.2.1.2 yy.1.2.2.2.1 yy.1.2.2.2.2.1 yy.1.2.2.2.2.2.1 yy.1.2.2.2.2.2.2.1 yy.1.2.2.2.2.2.2.2.1 (fun b0_0 es0_1 full0_2 b0_3 es0_4 full0_5 n0_6 n0_7 n0_8 n0_9 n0_10 => K (B b0_0) [.box [.p (.sl 4 es0_1 full0_2), .p (pB b0_3), .p (.sl 4 es0_4 full0_5), .p (pI n0_6), .p (pI n0_7), .p (pI n0_8), .p (pI n0_9), .p (pI n0_10)]])
set_option maxRecDepth 100000 in
theorem f67_eq (es_11 : List (List PC)) (full_12 : Bool) (b_13 : Bool) (es_14 : List (List PC)) (full_15 : Bool) (n_16 : Int) (n_17 : Int) (n_18 : Int) (n_19 : Int) (n_20 : Int) (K : TV → List Entry → Prop) : (f67_d es_11 full_12 b_13 es_14 full_15 n_16 n_17 n_18 n_19 n_20 (fun b0_0 es0_1 full0_2 b0_3 es0_4 full0_5 n0_6 n0_7 n0_8 n0_9 n0_10 => K (B b0_0) [.box [.p (.sl 4 es0_1 full0_2), .p (pB b0_3), .p (.sl 4 es0_4 full0_5), .p (pI n0_6), .p (pI n0_7), .p (pI n0_8), .p (pI n0_9), .p (pI n0_10)]])) = funcT f67_C Tryd.f67 [.w (.one (.ptr 0 0 0))] [.box [.p (.sl 4 es_11 full_12), .p (pB b_13), .p (.sl 4 es_14 full_15), .p (pI n_16), .p (pI n_17), .p (pI n_18), .p (pI n_19), .p (pI n_20)]] K := by kernel_rfl
set_option maxHeartbeats 4000000 in
theorem f67_ok0 : FnOk Tryd.prog glob 67 f67_G0 := by
  refine FnOk.of_text (C := f67_C) tab_ok.ok (Known.none) follows_ok (fn := Tryd.f67) (by kernel_rfl) (by kernel_rfl) (by kernel_rfl) (fun c hc => ?_) fun tm hp K h => ?_
  · have e : c = bodyOf Tryd.f67 := Option.some.inj (hc.symm.trans (by kernel_rfl))
    subst e
    exact ⟨LoopsOk.of [] (by kernel_rfl) trivial, TailsOk.of (tab := f67_tab) rfl [] (by kernel_rfl) trivial⟩
  · unfold f67_G0 at h
    obtain ⟨xx, yy, rfl, rfl, h⟩ := getS_elim h
    have e := (f67_eq yy.1.1.1 yy.1.1.2 yy.1.2.1 yy.1.2.2.1.1 yy.1.2.2.1.2 yy.1.2.2.2.1 yy.1.2.2.2.2.1 yy.1.2.2.2.2.2.1 yy.1.2.2.2.2.2.2.1 yy.1.2.2.2.2.2.2.2.1 K).trans (show _ = funcT f67_C Tryd.f67 (mkR _ xx) (mkE _ yy) K by kernel_rfl)
    rw [← e]
    exact h.run
noncomputable abbrev f67_G := f67_G0
theorem f67_G_ok : FnOk Tryd.prog glob 67 f67_G := f67_ok0
end Go.Eng.N
set_option linter.unusedVariables false
set_option maxRecDepth 100000
open Go Go.Eng Go.Proofs
namespace Go.Eng.N
/-! ### f68: (*plenum/notify.reader).fail -/
noncomputable def f68_p11 (n25 : Int) (n26 : Int) (es27 : List (List PC)) (full28 : Bool) (b29 : Bool) (es30 : List (List PC)) (full31 : Bool) (n32 : Int) (n33 : Int) (n34 : Int) (n35 : Int) (n36 : Int) (k0 : Unit → Prop) : Prop := k0 ()
noncomputable def f68_d (n1 : Int) (n2 : Int) (es3 : List (List PC)) (full4 : Bool) (b5 : Bool) (es6 : List (List PC)) (full7 : Bool) (n8 : Int) (n9 : Int) (n10 : Int) (n11 : Int) (n12 : Int) (k0 : (List (List PC)) → Bool → Bool → (List (List PC)) → Bool → Int → Int → Int → Int → Int → Prop) : Prop := f67 es3 full4 b5 es6 full7 n8 n9 n10 n11 n12 (fun b13 es14 full15 b16 es17 full18 n19 n20 n21 n22 n23 => bB (!b13) (k0 es14 full15 b16 es17 full18 n19 n20 n21 n22 n23) (bB (decide (((es14.length : Nat) : Int) > 0)) ((0 ≤ (if (w64 (((es14.length : Nat) : Int) - 1)) < n2 then (w64 (((es14.length : Nat) : Int) - 1)) else n2) ∧ (if (w64 (((es14.length : Nat) : Int) - 1)) < n2 then (w64 (((es14.length : Nat) : Int) - 1)) else n2) < ((es14.length : Nat) : Int)) ∧ oI .i64 (ext (List.getD es14 (Int.toNat (if (w64 (((es14.length : Nat) : Int) - 1)) < n2 then (w64 (((es14.length : Nat) : Int) - 1)) else n2)) []) 3 1) fun n24 => f68_p11 n1 n24 es14 full15 b16 es17 full18 n19 n20 n21 n22 n23 (fun (_ : Unit) => k0 es14 full15 b16 es17 full18 n19 n20 n1 n19 n24)) (f68_p11 n1 1 es14 full15 b16 es17 full18 n19 n20 n21 n22 n23 (fun (_ : Unit) => k0 es14 full15 b16 es17 full18 n19 n20 n1 n19 1))))
structure f68 (n1 : Int) (n2 : Int) (es3 : List (List PC)) (full4 : Bool) (b5 : Bool) (es6 : List (List PC)) (full7 : Bool) (n8 : Int) (n9 : Int) (n10 : Int) (n11 : Int) (n12 : Int) (k0 : (List (List PC)) → Bool → Bool → (List (List PC)) → Bool → Int → Int → Int → Int → Int → Prop) : Prop where
  run : f68_d n1 n2 es3 full4 b5 es6 full7 n8 n9 n10 n11 n12 k0
noncomputable def f68_p11L : Told := fun s K => match s with
  | ⟨tm, hp⟩ => getS [.v (.one (.ptr 0 0 0)), .v (.one (.int .i64)), .skip 4, .v (.one (.int .i64)), .skip 35] [.box [.sl 4, .bool, .sl 4, .int .i64, .int .i64, .int .i64, .int .i64, .int .i64]] tm hp fun (xx : (Unit × (Int × (Unit × (Int × (Unit × Unit)))))) (yy : (((List (List PC) × Bool) × (Bool × ((List (List PC) × Bool) × (Int × (Int × (Int × (Int × (Int × Unit)))))))) × Unit)) => f68_p11 xx.2.1 xx.2.2.2.1 yy.1.1.1 yy.1.1.2 yy.1.2.1 yy.1.2.2.1.1 yy.1.2.2.1.2 yy.1.2.2.2.1 yy.1.2.2.2.2.1 yy.1.2.2.2.2.2.1 yy.1.2.2.2.2.2.2.1 yy.1.2.2.2.2.2.2.2.1 (fun (_ : Unit) => K .normal ⟨mkS 42 [], [.box [.p (.sl 4 yy.1.1.1 yy.1.1.2), .p (pB yy.1.2.1), .p (.sl 4 yy.1.2.2.1.1 yy.1.2.2.1.2), .p (pI yy.1.2.2.2.1), .p (pI yy.1.2.2.2.2.1), .p (pI xx.2.1), .p (pI yy.1.2.2.2.1), .p (pI xx.2.2.2.1)]]⟩)
noncomputable def f68_tab : List (Nat × Told) := [(11, f68_p11L)]
noncomputable def f68_call : FuncId → List TV → List Entry → (TV → List Entry → Prop) → Prop := addCall 67 f67_G (noCalls)
noncomputable def f68_C : Ctx := { ty := tyOf tab, glob := glob, byRef := byRef, keep := fun k i => lookN [] (lookN [] ([(11, [(0, [0, 1, 6]), (1, []), (2, [])])] : List (Nat × List (Nat × List Nat))) k) i, late := lookN [] ([] : List (Nat × List Nat)), nref := lookN [] ([] : List (Nat × List Nat)), nbox := lookN [] ([] : List (Nat × List (Nat × Nat))), take := [], rnil := false, m := 1, fz := true, loops := lookL f68_tab, call := f68_call }
set_option maxRecDepth 100000 in
theorem f68_p11e0 (n_10 : Int) (n_11 : Int) (es_12 : List (List PC)) (full_13 : Bool) (b_14 : Bool) (es_15 : List (List PC)) (full_16 : Bool) (n_17 : Int) (n_18 : Int) (n_19 : Int) (n_20 : Int) (n_21 : Int) (K : TExit → St → Prop) : (f68_p11 n_10 n_11 es_12 full_13 b_14 es_15 full_16 n_17 n_18 n_19 n_20 n_21 (fun (_ : Unit) => K .normal ⟨mkS 42 [], [.box [.p (.sl 4 es_12 full_13), .p (pB b_14), .p (.sl 4 es_15 full_16), .p (pI n_17), .p (pI n_18), .p (pI n_10), .p (pI n_17), .p (pI n_11)]]⟩)) = execT f68_C (nthC (tails (bodyOf Tryd.f68)) 3) ⟨mkS 42 [(0, .w (.one (.ptr 0 0 0))), (1, I n_10), (6, I n_11)], [.box [.p (.sl 4 es_12 full_13), .p (pB b_14), .p (.sl 4 es_15 full_16), .p (pI n_17), .p (pI n_18), .p (pI n_19), .p (pI n_20), .p (pI n_21)]]⟩ (fun e s => K e (normOut f68_C 11 e s)) := by kernel_rfl
set_option maxHeartbeats 4000000 in
theorem f68_p11_ok : TailOk f68_C (nthC (tails (bodyOf Tryd.f68)) 3) := by
  refine TailOk.of f68_p11L (by kernel_rfl) fun σ K h => ?_
  have hk : joinKey (nthC (tails (bodyOf Tryd.f68)) 3) = 11 := by kernel_rfl
  rw [hk] at h ⊢
  generalize hs : normK f68_C 11 σ = s at h
  obtain ⟨tm, hp⟩ := s
  unfold f68_p11L at h
  dsimp only at h
  obtain ⟨xx, yy, rfl, rfl, h⟩ := getS_elim h
  have q : normK f68_C 11 σ = (⟨mkS 42 [(0, .w (.one (.ptr 0 0 0))), (1, I xx.2.1), (6, I xx.2.2.2.1)], [.box [.p (.sl 4 yy.1.1.1 yy.1.1.2), .p (pB yy.1.2.1), .p (.sl 4 yy.1.2.2.1.1 yy.1.2.2.1.2), .p (pI yy.1.2.2.2.1), .p (pI yy.1.2.2.2.2.1), .p (pI yy.1.2.2.2.2.2.1), .p (pI yy.1.2.2.2.2.2.2.1), .p (pI yy.1.2.2.2.2.2.2.2.1)]]⟩ : St) := hs.trans (by kernel_rfl)
  rw [← hs, q, ← f68_p11e0 xx.2.1 xx.2.2.2.1 yy.1.1.1 yy.1.1.2 yy.1.2.1 yy.1.2.2.1.1 yy.1.2.2.1.2 yy.1.2.2.2.1 yy.1.2.2.2.2.1 yy.1.2.2.2.2.2.1 yy.1.2.2.2.2.2.2.1 yy.1.2.2.2.2.2.2.2.1 K]
  exact h
noncomputable def f68_G0 : List TV → List Entry → (TV → List Entry → Prop) → Prop := fun tm hp K => getS [.v (.one (.ptr 0 0 0)), .v (.one (.int .i64)), .v (.one (.int .i64))] [.box [.sl 4, .bool, .sl 4, .int .i64, .int .i64, .int .i64, .int .i64, .int .i64]] tm hp fun (xx : (Unit × (Int × (Int × Unit)))) (yy : (((List (List PC) × Bool) × (Bool × ((List (List PC) × Bool) × (Int × (Int × (Int × (Int × (Int × Unit)))))))) × Unit)) => f68 xx.2.1 xx.2.2.1 yy.1.1.1 yy.1.1.2 yy.1.2.1 yy.1.2.2.1.1 yy.1.2.2.1.2 yy.1.2.2.2.1 yy.1.2.2.2.2.1 yy.1.2.2.2.2.2.1 yy.1.2.2.2.2.2.2.1 yy.1.2.2.2.2.2.2.2.1 (fun es0_0 full0_1 b0_2 es0_3 full0_4 n0_5 n0_6 n0_7 n0_8 n0_9 => K undefT [.box [.p (.sl 4 es0_0 full0_1), .p (pB b0_2), .p (.sl 4 es0_3 full0_4), .p (pI n0_5), .p (pI n0_6), .p (pI n0_7), .p (pI n0_8), .p (pI n0_9)]])
set_option maxRecDepth 100000 in
theorem f68_eq (n_22 : Int) (n_23 : Int) (es_24 : List (List PC)) (full_25 : Bool) (b_26 : Bool) (es_27 : List (List PC)) (full_28 : Bool) (n_29 : Int) (n_30 : Int) (n_31 : Int) (n_32 : Int) (n_33 : Int) (K : TV → List Entry → Prop) : (f68_d n_22 n_23 es_24 full_25 b_26 es_27 full_28 n_29 n_30 n_31 n_32 n_33 (fun es0_0 full0_1 b0_2 es0_3 full0_4 n0_5 n0_6 n0_7 n0_8 n0_9 => K undefT [.box [.p (.sl 4 es0_0 full0_1), .p (pB b0_2), .p (.sl 4 es0_3 full0_4), .p (pI n0_5), .p (pI n0_6), .p (pI n0_7), .p (pI n0_8), .p (pI n0_9)]])) = funcT f68_C Tryd.f68 [.w (.one (.ptr 0 0 0)), I n_22, I n_23] [.box [.p (.sl 4 es_24 full_25), .p (pB b_26), .p (.sl 4 es_27 full_28), .p (pI n_29), .p (pI n_30), .p (pI n_31), .p (pI n_32), .p (pI n_33)]] K := by kernel_rfl
set_option maxHeartbeats 4000000 in
theorem f68_ok0 : FnOk Tryd.prog glob 68 f68_G0 := by
  refine FnOk.of_text (C := f68_C) tab_ok.ok (Known.add f67_G_ok (Known.none)) follows_ok (fn := Tryd.f68) (by kernel_rfl) (by kernel_rfl) (by kernel_rfl) (fun c hc => ?_) fun tm hp K h => ?_
  · have e : c = bodyOf Tryd.f68 := Option.some.inj (hc.symm.trans (by kernel_rfl))
    subst e
    exact ⟨LoopsOk.of [] (by kernel_rfl) trivial, TailsOk.of (tab := f68_tab) rfl [nthC (tails (bodyOf Tryd.f68)) 3] (by kernel_rfl) ⟨f68_p11_ok, trivial⟩⟩
  · unfold f68_G0 at h
    obtain ⟨xx, yy, rfl, rfl, h⟩ := getS_elim h
    have e := (f68_eq xx.2.1 xx.2.2.1 yy.1.1.1 yy.1.1.2 yy.1.2.1 yy.1.2.2.1.1 yy.1.2.2.1.2 yy.1.2.2.2.1 yy.1.2.2.2.2.1 yy.1.2.2.2.2.2.1 yy.1.2.2.2.2.2.2.1 yy.1.2.2.2.2.2.2.2.1 K).trans (show _ = funcT f68_C Tryd.f68 (mkR _ xx) (mkE _ yy) K by kernel_rfl)
    rw [← e]
    exact h.run
noncomputable abbrev f68_G := f68_G0
theorem f68_G_ok : FnOk Tryd.prog glob 68 f68_G := f68_ok0
end Go.Eng.N
set_option linter.unusedVariables false
set_option maxRecDepth 100000
open Go Go.Eng Go.Proofs
namespace Go.Eng.N
/-! ### f69: (*plenum/notify.reader).more -/
noncomputable def f69_d (es1 : List (List PC)) (full2 : Bool) (b3 : Bool) (es4 : List (List PC)) (full5 : Bool) (n6 : Int) (n7 : Int) (n8 : Int) (n9 : Int) (n10 : Int) (k0 : Bool → (List (List PC)) → Bool → Bool → (List (List PC)) → Bool → Int → Int → Int → Int → Int → Prop) : Prop := f67 es1 full2 b3 es4 full5 n6 n7 n8 n9 n10 (fun b11 es12 full13 b14 es15 full16 n17 n18 n19 n20 n21 => bB b11 (k0 (decide (n18 < ((es12.length : Nat) : Int))) es12 full13 b14 es15 full16 n17 n18 n19 n20 n21) (k0 false es12 full13 b14 es15 full16 n17 n18 n19 n20 n21))
structure f69 (es1 : List (List PC)) (full2 : Bool) (b3 : Bool) (es4 : List (List PC)) (full5 : Bool) (n6 : Int) (n7 : Int) (n8 : Int) (n9 : Int) (n10 : Int) (k0 : Bool → (List (List PC)) → Bool → Bool → (List (List PC)) → Bool → Int → Int → Int → Int → Int → Prop) : Prop where
  run : f69_d es1 full2 b3 es4 full5 n6 n7 n8 n9 n10 k0
noncomputable def f69_tab : List (Nat × Told) := []
noncomputable def f69_call : FuncId → List TV → List Entry → (TV → List Entry → Prop) → Prop := addCall 67 f67_G (noCalls)
noncomputable def f69_C : Ctx := { ty := tyOf tab, glob := glob, byRef := byRef, keep := fun k i => lookN [] (lookN [] ([] : List (Nat × List (Nat × List Nat))) k) i, late := lookN [] ([] : List (Nat × List Nat)), nref := lookN [] ([] : List (Nat × List Nat)), nbox := lookN [] ([] : List (Nat × List (Nat × Nat))), take := [], rnil := false, m := 1, fz := true, loops := lookL f69_tab, call := f69_call }
noncomputable def f69_G0 : List TV → List Entry → (TV → List Entry → Prop) → Prop := fun tm hp K => getS [.v (.one (.ptr 0 0 0))] [.box [.sl 4, .bool, .sl 4, .int .i64, .int .i64, .int .i64, .int .i64, .int .i64]] tm hp fun (xx : (Unit × Unit)) (yy : (((List (List PC) × Bool) × (Bool × ((List (List PC) × Bool) × (Int × (Int × (Int × (Int × (Int × Unit)))))))) × Unit)) => f69 yy.1.1.1 yy.1.1.2 yy.1.2.1 yy.1.2.2.1.1 yy.1.2.2.1.2 yy.1.2.2.2.1 yy.1.2.2.2.2.1 yy.1.2.2.2.2.2.1 yy.1.2.2.2.2.2.2.1 yy.1.2.2.2.2.2.2.2.1 (fun b0_0 es0_1 full0_2 b0_3 es0_4 full0_5 n0_6 n0_7 n0_8 n0_9 n0_10 => K (B b0_0) [.box [.p (.sl 4 es0_1 full0_2), .p (pB b0_3), .p (.sl 4 es0_4 full0_5), .p (pI n0_6), .p (pI n0_7), .p (pI n0_8), .p (pI n0_9), .p (pI n0_10)]])
set_option maxRecDepth 100000 in
theorem f69_eq (es_11 : List (List PC)) (full_12 : Bool) (b_13 : Bool) (es_14 : List (List PC)) (full_15 : Bool) (n_16 : Int) (n_17 : Int) (n_18 : Int) (n_19 : Int) (n_20 : Int) (K : TV → List Entry → Prop) : (f69_d es_11 full_12 b_13 es_14 full_15 n_16 n_17 n_18 n_19 n_20 (fun b0_0 es0_1 full0_2 b0_3 es0_4 full0_5 n0_6 n0_7 n0_8 n0_9 n0_10 => K (B b0_0) [.box [.p (.sl 4 es0_1 full0_2), .p (pB b0_3), .p (.sl 4 es0_4 full0_5), .p (pI n0_6), .p (pI n0_7), .p (pI n0_8), .p (pI n0_9), .p (pI n0_10)]])) = funcT f69_C Tryd.f69 [.w (.one (.ptr 0 0 0))] [.box [.p (.sl 4 es_11 full_12), .p (pB b_13), .p (.sl 4 es_14 full_15), .p (pI n_16), .p (pI n_17), .p (pI n_18), .p (pI n_19), .p (pI n_20)]] K := by kernel_rfl
set_option maxHeartbeats 4000000 in
theorem f69_ok0 : FnOk Tryd.prog glob 69 f69_G0 := by
  refine FnOk.of_text (C := f69_C) tab_ok.ok (Known.add f67_G_ok (Known.none)) follows_ok (fn := Tryd.f69) (by kernel_rfl) (by kernel_rfl) (by kernel_rfl) (fun c hc => ?_) fun tm hp K h => ?_
  · have e : c = bodyOf Tryd.f69 := Option.some.inj (hc.symm.trans (by kernel_rfl))
    subst e
    exact ⟨LoopsOk.of [] (by kernel_rfl) trivial, TailsOk.of (tab := f69_tab) rfl [] (by kernel_rfl) trivial⟩
  · unfold f69_G0 at h
    obtain ⟨xx, yy, rfl, rfl, h⟩ := getS_elim h
    have e := (f69_eq yy.1.1.1 yy.1.1.2 yy.1.2.1 yy.1.2.2.1.1 yy.1.2.2.1.2 yy.1.2.2.2.1 yy.1.2.2.2.2.1 yy.1.2.2.2.2.2.1 yy.1.2.2.2.2.2.2.1 yy.1.2.2.2.2.2.2.2.1 K).trans (show _ = funcT f69_C Tryd.f69 (mkR _ xx) (mkE _ yy) K by kernel_rfl)
    rw [← e]
    exact h.run
noncomputable abbrev f69_G := f69_G0
theorem f69_G_ok : FnOk Tryd.prog glob 69 f69_G := f69_ok0
end Go.Eng.N
set_option linter.unusedVariables false
set_option maxRecDepth 100000
open Go Go.Eng Go.Proofs
namespace Go.Eng.N
/-! ### f96: (*plenum/notify.reader).is -/
noncomputable def f96_d (n1 : Int) (s2 : ByteArray) (es3 : List (List PC)) (full4 : Bool) (b5 : Bool) (es6 : List (List PC)) (full7 : Bool) (n8 : Int) (n9 : Int) (n10 : Int) (n11 : Int) (n12 : Int) (k0 : Bool → (List (List PC)) → Bool → Bool → (List (List PC)) → Bool → Int → Int → Int → Int → Int → Prop) : Prop := f69 es3 full4 b5 es6 full7 n8 n9 n10 n11 n12 (fun b13 es14 full15 b16 es17 full18 n19 n20 n21 n22 n23 => bB b13 ((0 ≤ n20 ∧ n20 < ((es14.length : Nat) : Int)) ∧ oI .i64 (ext (List.getD es14 (Int.toNat n20) []) 0 1) fun n24 => bB (n24 == n1) (bB (s2.toList == (⟨#[]⟩ : ByteArray).toList) (k0 true es14 full15 b16 es17 full18 n19 n20 n21 n22 n23) ((0 ≤ n20 ∧ n20 < ((es14.length : Nat) : Int)) ∧ oS (ext (List.getD es14 (Int.toNat n20) []) 1 1) fun s25 => k0 (s25.toList == s2.toList) es14 full15 b16 es17 full18 n19 n20 n21 n22 n23)) (k0 false es14 full15 b16 es17 full18 n19 n20 n21 n22 n23)) (k0 false es14 full15 b16 es17 full18 n19 n20 n21 n22 n23))
structure f96 (n1 : Int) (s2 : ByteArray) (es3 : List (List PC)) (full4 : Bool) (b5 : Bool) (es6 : List (List PC)) (full7 : Bool) (n8 : Int) (n9 : Int) (n10 : Int) (n11 : Int) (n12 : Int) (k0 : Bool → (List (List PC)) → Bool → Bool → (List (List PC)) → Bool → Int → Int → Int → Int → Int → Prop) : Prop where
  run : f96_d n1 s2 es3 full4 b5 es6 full7 n8 n9 n10 n11 n12 k0
noncomputable def f96_tab : List (Nat × Told) := []
noncomputable def f96_call : FuncId → List TV → List Entry → (TV → List Entry → Prop) → Prop := addCall 69 f69_G (noCalls)
noncomputable def f96_C : Ctx := { ty := tyOf tab, glob := glob, byRef := byRef, keep := fun k i => lookN [] (lookN [] ([] : List (Nat × List (Nat × List Nat))) k) i, late := lookN [] ([] : List (Nat × List Nat)), nref := lookN [] ([] : List (Nat × List Nat)), nbox := lookN [] ([] : List (Nat × List (Nat × Nat))), take := [], rnil := false, m := 1, fz := true, loops := lookL f96_tab, call := f96_call }
noncomputable def f96_G0 : List TV → List Entry → (TV → List Entry → Prop) → Prop := fun tm hp K => getS [.v (.one (.ptr 0 0 0)), .v (.one (.int .i64)), .v (.one (.str))] [.box [.sl 4, .bool, .sl 4, .int .i64, .int .i64, .int .i64, .int .i64, .int .i64]] tm hp fun (xx : (Unit × (Int × (ByteArray × Unit)))) (yy : (((List (List PC) × Bool) × (Bool × ((List (List PC) × Bool) × (Int × (Int × (Int × (Int × (Int × Unit)))))))) × Unit)) => f96 xx.2.1 xx.2.2.1 yy.1.1.1 yy.1.1.2 yy.1.2.1 yy.1.2.2.1.1 yy.1.2.2.1.2 yy.1.2.2.2.1 yy.1.2.2.2.2.1 yy.1.2.2.2.2.2.1 yy.1.2.2.2.2.2.2.1 yy.1.2.2.2.2.2.2.2.1 (fun b0_0 es0_1 full0_2 b0_3 es0_4 full0_5 n0_6 n0_7 n0_8 n0_9 n0_10 => K (B b0_0) [.box [.p (.sl 4 es0_1 full0_2), .p (pB b0_3), .p (.sl 4 es0_4 full0_5), .p (pI n0_6), .p (pI n0_7), .p (pI n0_8), .p (pI n0_9), .p (pI n0_10)]])
set_option maxRecDepth 100000 in
theorem f96_eq (n_11 : Int) (s_12 : ByteArray) (es_13 : List (List PC)) (full_14 : Bool) (b_15 : Bool) (es_16 : List (List PC)) (full_17 : Bool) (n_18 : Int) (n_19 : Int) (n_20 : Int) (n_21 : Int) (n_22 : Int) (K : TV → List Entry → Prop) : (f96_d n_11 s_12 es_13 full_14 b_15 es_16 full_17 n_18 n_19 n_20 n_21 n_22 (fun b0_0 es0_1 full0_2 b0_3 es0_4 full0_5 n0_6 n0_7 n0_8 n0_9 n0_10 => K (B b0_0) [.box [.p (.sl 4 es0_1 full0_2), .p (pB b0_3), .p (.sl 4 es0_4 full0_5), .p (pI n0_6), .p (pI n0_7), .p (pI n0_8), .p (pI n0_9), .p (pI n0_10)]])) = funcT f96_C Tryd.f96 [.w (.one (.ptr 0 0 0)), I n_11, S s_12] [.box [.p (.sl 4 es_13 full_14), .p (pB b_15), .p (.sl 4 es_16 full_17), .p (pI n_18), .p (pI n_19), .p (pI n_20), .p (pI n_21), .p (pI n_22)]] K := by kernel_rfl
set_option maxHeartbeats 4000000 in
theorem f96_ok0 : FnOk Tryd.prog glob 96 f96_G0 := by
  refine FnOk.of_text (C := f96_C) tab_ok.ok (Known.add f69_G_ok (Known.none)) follows_ok (fn := Tryd.f96) (by kernel_rfl) (by kernel_rfl) (by kernel_rfl) (fun c hc => ?_) fun tm hp K h => ?_
  · have e : c = bodyOf Tryd.f96 := Option.some.inj (hc.symm.trans (by kernel_rfl))
    subst e
    exact ⟨LoopsOk.of [] (by kernel_rfl) trivial, TailsOk.of (tab := f96_tab) rfl [] (by kernel_rfl) trivial⟩
  · unfold f96_G0 at h
    obtain ⟨xx, yy, rfl, rfl, h⟩ := getS_elim h
    have e := (f96_eq xx.2.1 xx.2.2.1 yy.1.1.1 yy.1.1.2 yy.1.2.1 yy.1.2.2.1.1 yy.1.2.2.1.2 yy.1.2.2.2.1 yy.1.2.2.2.2.1 yy.1.2.2.2.2.2.1 yy.1.2.2.2.2.2.2.1 yy.1.2.2.2.2.2.2.2.1 K).trans (show _ = funcT f96_C Tryd.f96 (mkR _ xx) (mkE _ yy) K by kernel_rfl)
    rw [← e]
    exact h.run
noncomputable abbrev f96_G := f96_G0
theorem f96_G_ok : FnOk Tryd.prog glob 96 f96_G := f96_ok0
end Go.Eng.N
set_option linter.unusedVariables false
set_option maxRecDepth 100000
open Go Go.Eng Go.Proofs
namespace Go.Eng.N
/-! ### f65: (*plenum/notify.reader).take -/
noncomputable def f65_p7 (es45 : List (List PC)) (full46 : Bool) (b47 : Bool) (es48 : List (List PC)) (full49 : Bool) (n50 : Int) (n51 : Int) (n52 : Int) (n53 : Int) (n54 : Int) (n55 : Int) (s56 : ByteArray) (n57 : Int) (n58 : Int) (k0 : (List (List PC)) → Bool → Bool → (List (List PC)) → Bool → Int → Int → Int → Int → Int → Int → ByteArray → Int → Int → Prop) : Prop := f67 es45 full46 b47 es48 full49 n50 n51 n52 n53 n54 (fun b59 es60 full61 b62 es63 full64 n65 n66 n67 n68 n69 => bB (!b59) (k0 es60 full61 b62 es63 full64 n65 n66 n67 n68 n69 0 (⟨#[]⟩ : ByteArray) 0 0) ((0 ≤ (w64 ((w64 (n66 + 1)) - 1)) ∧ (w64 ((w64 (n66 + 1)) - 1)) < ((es60.length : Nat) : Int)) ∧ cI .i64 (ext (List.getD es60 (Int.toNat (w64 ((w64 (n66 + 1)) - 1))) []) 0 4) fun n71 r70 => cS r70 fun s73 r72 => cI .i64 r72 fun n75 r74 => cI .i64 r74 fun n77 r76 => nilC r76 <| k0 es60 full61 b62 es63 full64 n65 (w64 (n66 + 1)) n67 n68 n69 n71 s73 n75 n77))
noncomputable def f65_d (n1 : Int) (s2 : ByteArray) (es3 : List (List PC)) (full4 : Bool) (b5 : Bool) (es6 : List (List PC)) (full7 : Bool) (n8 : Int) (n9 : Int) (n10 : Int) (n11 : Int) (n12 : Int) (k0 : Int → ByteArray → Int → Int → (List (List PC)) → Bool → Bool → (List (List PC)) → Bool → Int → Int → Int → Int → Int → Prop) : Prop := f67 es3 full4 b5 es6 full7 n8 n9 n10 n11 n12 (fun b13 es14 full15 b16 es17 full18 n19 n20 n21 n22 n23 => bB b13 (f96 n1 s2 es14 full15 b16 es17 full18 n19 n20 n21 n22 n23 (fun b24 es25 full26 b27 es28 full29 n30 n31 n32 n33 n34 => bB (!b24) (f68 2 n31 es25 full26 b27 es28 full29 n30 n31 n32 n33 n34 (fun es35 full36 b37 es38 full39 n40 n41 n42 n43 n44 => f65_p7 es35 full36 b37 es38 full39 n40 n41 n42 n43 n44 0 (⟨#[]⟩ : ByteArray) 0 0 (fun es78 full79 b80 es81 full82 n83 n84 n85 n86 n87 n88 s89 n90 n91 => k0 n88 s89 n90 n91 es78 full79 b80 es81 full82 n83 n84 n85 n86 n87))) (f65_p7 es25 full26 b27 es28 full29 n30 n31 n32 n33 n34 0 (⟨#[]⟩ : ByteArray) 0 0 (fun es92 full93 b94 es95 full96 n97 n98 n99 n100 n101 n102 s103 n104 n105 => k0 n102 s103 n104 n105 es92 full93 b94 es95 full96 n97 n98 n99 n100 n101)))) (f65_p7 es14 full15 b16 es17 full18 n19 n20 n21 n22 n23 0 (⟨#[]⟩ : ByteArray) 0 0 (fun es106 full107 b108 es109 full110 n111 n112 n113 n114 n115 n116 s117 n118 n119 => k0 n116 s117 n118 n119 es106 full107 b108 es109 full110 n111 n112 n113 n114 n115)))
structure f65 (n1 : Int) (s2 : ByteArray) (es3 : List (List PC)) (full4 : Bool) (b5 : Bool) (es6 : List (List PC)) (full7 : Bool) (n8 : Int) (n9 : Int) (n10 : Int) (n11 : Int) (n12 : Int) (k0 : Int → ByteArray → Int → Int → (List (List PC)) → Bool → Bool → (List (List PC)) → Bool → Int → Int → Int → Int → Int → Prop) : Prop where
  run : f65_d n1 s2 es3 full4 b5 es6 full7 n8 n9 n10 n11 n12 k0
noncomputable def f65_p7L : Told := fun s K => match s with
  | ⟨tm, hp⟩ => getS [.v (.one (.ptr 0 0 0)), .skip 5, .v (.one (.ptr 1 0 0)), .skip 38] [.box [.sl 4, .bool, .sl 4, .int .i64, .int .i64, .int .i64, .int .i64, .int .i64], .box [.int .i64, .str, .int .i64, .int .i64]] tm hp fun (xx : (Unit × (Unit × (Unit × (Unit × Unit))))) (yy : (((List (List PC) × Bool) × (Bool × ((List (List PC) × Bool) × (Int × (Int × (Int × (Int × (Int × Unit)))))))) × ((Int × (ByteArray × (Int × (Int × Unit)))) × Unit))) => f65_p7 yy.1.1.1 yy.1.1.2 yy.1.2.1 yy.1.2.2.1.1 yy.1.2.2.1.2 yy.1.2.2.2.1 yy.1.2.2.2.2.1 yy.1.2.2.2.2.2.1 yy.1.2.2.2.2.2.2.1 yy.1.2.2.2.2.2.2.2.1 yy.2.1.1 yy.2.1.2.1 yy.2.1.2.2.1 yy.2.1.2.2.2.1 (fun es0_0 full0_1 b0_2 es0_3 full0_4 n0_5 n0_6 n0_7 n0_8 n0_9 n0_10 s0_11 n0_12 n0_13 => K .ret ⟨mkS 45 [(6, .w (.one (.ptr 1 0 0)))], [.box [.p (.sl 4 es0_0 full0_1), .p (pB b0_2), .p (.sl 4 es0_3 full0_4), .p (pI n0_5), .p (pI n0_6), .p (pI n0_7), .p (pI n0_8), .p (pI n0_9)], .box [.p (pI n0_10), .p (pS s0_11), .p (pI n0_12), .p (pI n0_13)]]⟩)
noncomputable def f65_tab : List (Nat × Told) := [(7, f65_p7L)]
noncomputable def f65_call : FuncId → List TV → List Entry → (TV → List Entry → Prop) → Prop := addCall 96 f96_G (addCall 68 f68_G (addCall 67 f67_G (noCalls)))
noncomputable def f65_C : Ctx := { ty := tyOf tab, glob := glob, byRef := byRef, keep := fun k i => lookN [] (lookN [] ([(7, [(0, [0, 6]), (1, [6]), (2, [6])])] : List (Nat × List (Nat × List Nat))) k) i, late := lookN [] ([] : List (Nat × List Nat)), nref := lookN [] ([] : List (Nat × List Nat)), nbox := lookN [] ([] : List (Nat × List (Nat × Nat))), take := [], rnil := false, m := 1, fz := true, loops := lookL f65_tab, call := f65_call }
set_option maxRecDepth 100000 in
theorem f65_p7e0 (es_28 : List (List PC)) (full_29 : Bool) (b_30 : Bool) (es_31 : List (List PC)) (full_32 : Bool) (n_33 : Int) (n_34 : Int) (n_35 : Int) (n_36 : Int) (n_37 : Int) (n_38 : Int) (s_39 : ByteArray) (n_40 : Int) (n_41 : Int) (K : TExit → St → Prop) : (f65_p7 es_28 full_29 b_30 es_31 full_32 n_33 n_34 n_35 n_36 n_37 n_38 s_39 n_40 n_41 (fun es0_42 full0_43 b0_44 es0_45 full0_46 n0_47 n0_48 n0_49 n0_50 n0_51 n0_52 s0_53 n0_54 n0_55 => K .ret ⟨mkS 45 [(6, .w (.one (.ptr 1 0 0)))], [.box [.p (.sl 4 es0_42 full0_43), .p (pB b0_44), .p (.sl 4 es0_45 full0_46), .p (pI n0_47), .p (pI n0_48), .p (pI n0_49), .p (pI n0_50), .p (pI n0_51)], .box [.p (pI n0_52), .p (pS s0_53), .p (pI n0_54), .p (pI n0_55)]]⟩)) = execT f65_C (nthC (tails (bodyOf Tryd.f65)) 1) ⟨mkS 45 [(0, .w (.one (.ptr 0 0 0))), (6, .w (.one (.ptr 1 0 0)))], [.box [.p (.sl 4 es_28 full_29), .p (pB b_30), .p (.sl 4 es_31 full_32), .p (pI n_33), .p (pI n_34), .p (pI n_35), .p (pI n_36), .p (pI n_37)], .box [.p (pI n_38), .p (pS s_39), .p (pI n_40), .p (pI n_41)]]⟩ (fun e s => K e (normOut f65_C 7 e s)) := by kernel_rfl
set_option maxHeartbeats 4000000 in
theorem f65_p7_ok : TailOk f65_C (nthC (tails (bodyOf Tryd.f65)) 1) := by
  refine TailOk.of f65_p7L (by kernel_rfl) fun σ K h => ?_
  have hk : joinKey (nthC (tails (bodyOf Tryd.f65)) 1) = 7 := by kernel_rfl
  rw [hk] at h ⊢
  generalize hs : normK f65_C 7 σ = s at h
  obtain ⟨tm, hp⟩ := s
  unfold f65_p7L at h
  dsimp only at h
  obtain ⟨xx, yy, rfl, rfl, h⟩ := getS_elim h
  have q : normK f65_C 7 σ = (⟨mkS 45 [(0, .w (.one (.ptr 0 0 0))), (6, .w (.one (.ptr 1 0 0)))], [.box [.p (.sl 4 yy.1.1.1 yy.1.1.2), .p (pB yy.1.2.1), .p (.sl 4 yy.1.2.2.1.1 yy.1.2.2.1.2), .p (pI yy.1.2.2.2.1), .p (pI yy.1.2.2.2.2.1), .p (pI yy.1.2.2.2.2.2.1), .p (pI yy.1.2.2.2.2.2.2.1), .p (pI yy.1.2.2.2.2.2.2.2.1)], .box [.p (pI yy.2.1.1), .p (pS yy.2.1.2.1), .p (pI yy.2.1.2.2.1), .p (pI yy.2.1.2.2.2.1)]]⟩ : St) := hs.trans (by kernel_rfl)
  rw [← hs, q, ← f65_p7e0 yy.1.1.1 yy.1.1.2 yy.1.2.1 yy.1.2.2.1.1 yy.1.2.2.1.2 yy.1.2.2.2.1 yy.1.2.2.2.2.1 yy.1.2.2.2.2.2.1 yy.1.2.2.2.2.2.2.1 yy.1.2.2.2.2.2.2.2.1 yy.2.1.1 yy.2.1.2.1 yy.2.1.2.2.1 yy.2.1.2.2.2.1 K]
  exact h
noncomputable def f65_G0 : List TV → List Entry → (TV → List Entry → Prop) → Prop := fun tm hp K => getS [.v (.one (.ptr 0 0 0)), .v (.one (.int .i64)), .v (.one (.str))] [.box [.sl 4, .bool, .sl 4, .int .i64, .int .i64, .int .i64, .int .i64, .int .i64]] tm hp fun (xx : (Unit × (Int × (ByteArray × Unit)))) (yy : (((List (List PC) × Bool) × (Bool × ((List (List PC) × Bool) × (Int × (Int × (Int × (Int × (Int × Unit)))))))) × Unit)) => f65 xx.2.1 xx.2.2.1 yy.1.1.1 yy.1.1.2 yy.1.2.1 yy.1.2.2.1.1 yy.1.2.2.1.2 yy.1.2.2.2.1 yy.1.2.2.2.2.1 yy.1.2.2.2.2.2.1 yy.1.2.2.2.2.2.2.1 yy.1.2.2.2.2.2.2.2.1 (fun n0_14 s0_15 n0_16 n0_17 es0_18 full0_19 b0_20 es0_21 full0_22 n0_23 n0_24 n0_25 n0_26 n0_27 => K (.w (.pagg [pI n0_14, pS s0_15, pI n0_16, pI n0_17])) [.box [.p (.sl 4 es0_18 full0_19), .p (pB b0_20), .p (.sl 4 es0_21 full0_22), .p (pI n0_23), .p (pI n0_24), .p (pI n0_25), .p (pI n0_26), .p (pI n0_27)]])
set_option maxRecDepth 100000 in
theorem f65_eq (n_56 : Int) (s_57 : ByteArray) (es_58 : List (List PC)) (full_59 : Bool) (b_60 : Bool) (es_61 : List (List PC)) (full_62 : Bool) (n_63 : Int) (n_64 : Int) (n_65 : Int) (n_66 : Int) (n_67 : Int) (K : TV → List Entry → Prop) : (f65_d n_56 s_57 es_58 full_59 b_60 es_61 full_62 n_63 n_64 n_65 n_66 n_67 (fun n0_14 s0_15 n0_16 n0_17 es0_18 full0_19 b0_20 es0_21 full0_22 n0_23 n0_24 n0_25 n0_26 n0_27 => K (.w (.pagg [pI n0_14, pS s0_15, pI n0_16, pI n0_17])) [.box [.p (.sl 4 es0_18 full0_19), .p (pB b0_20), .p (.sl 4 es0_21 full0_22), .p (pI n0_23), .p (pI n0_24), .p (pI n0_25), .p (pI n0_26), .p (pI n0_27)]])) = funcT f65_C Tryd.f65 [.w (.one (.ptr 0 0 0)), I n_56, S s_57] [.box [.p (.sl 4 es_58 full_59), .p (pB b_60), .p (.sl 4 es_61 full_62), .p (pI n_63), .p (pI n_64), .p (pI n_65), .p (pI n_66), .p (pI n_67)]] K := by kernel_rfl
set_option maxHeartbeats 4000000 in
theorem f65_ok0 : FnOk Tryd.prog glob 65 f65_G0 := by
  refine FnOk.of_text (C := f65_C) tab_ok.ok (Known.add f96_G_ok (Known.add f68_G_ok (Known.add f67_G_ok (Known.none)))) follows_ok (fn := Tryd.f65) (by kernel_rfl) (by kernel_rfl) (by kernel_rfl) (fun c hc => ?_) fun tm hp K h => ?_
  · have e : c = bodyOf Tryd.f65 := Option.some.inj (hc.symm.trans (by kernel_rfl))
    subst e
    exact ⟨LoopsOk.of [] (by kernel_rfl) trivial, TailsOk.of (tab := f65_tab) rfl [nthC (tails (bodyOf Tryd.f65)) 1] (by kernel_rfl) ⟨f65_p7_ok, trivial⟩⟩
  · unfold f65_G0 at h
    obtain ⟨xx, yy, rfl, rfl, h⟩ := getS_elim h
    have e := (f65_eq xx.2.1 xx.2.2.1 yy.1.1.1 yy.1.1.2 yy.1.2.1 yy.1.2.2.1.1 yy.1.2.2.1.2 yy.1.2.2.2.1 yy.1.2.2.2.2.1 yy.1.2.2.2.2.2.1 yy.1.2.2.2.2.2.2.1 yy.1.2.2.2.2.2.2.2.1 K).trans (show _ = funcT f65_C Tryd.f65 (mkR _ xx) (mkE _ yy) K by kernel_rfl)
    rw [← e]
    exact h.run
noncomputable abbrev f65_G := f65_G0
theorem f65_G_ok : FnOk Tryd.prog glob 65 f65_G := f65_ok0
end Go.Eng.N
set_option linter.unusedVariables false
set_option maxRecDepth 100000
open Go Go.Eng Go.Proofs
namespace Go.Eng.N
/-! ### f66: (*plenum/notify.reader).name -/
noncomputable def f66_d (es1 : List (List PC)) (full2 : Bool) (b3 : Bool) (es4 : List (List PC)) (full5 : Bool) (n6 : Int) (n7 : Int) (n8 : Int) (n9 : Int) (n10 : Int) (k0 : ByteArray → (List (List PC)) → Bool → Bool → (List (List PC)) → Bool → Int → Int → Int → Int → Int → Prop) : Prop := f65 1 (⟨#[]⟩ : ByteArray) es1 full2 b3 es4 full5 n6 n7 n8 n9 n10 (fun n11 s12 n13 n14 es15 full16 b17 es18 full19 n20 n21 n22 n23 n24 => f67 es15 full16 b17 es18 full19 n20 n21 n22 n23 n24 (fun b25 es26 full27 b28 es29 full30 n31 n32 n33 n34 n35 => bB b25 (f45 s12 (fun b36 => bB (!b36) (f68 4 (w64 (n32 - 1)) es26 full27 b28 es29 full30 n31 n32 n33 n34 n35 (fun es37 full38 b39 es40 full41 n42 n43 n44 n45 n46 => k0 s12 es37 full38 b39 es40 full41 n42 n43 n44 n45 n46)) (k0 s12 es26 full27 b28 es29 full30 n31 n32 n33 n34 n35))) (k0 s12 es26 full27 b28 es29 full30 n31 n32 n33 n34 n35)))
structure f66 (es1 : List (List PC)) (full2 : Bool) (b3 : Bool) (es4 : List (List PC)) (full5 : Bool) (n6 : Int) (n7 : Int) (n8 : Int) (n9 : Int) (n10 : Int) (k0 : ByteArray → (List (List PC)) → Bool → Bool → (List (List PC)) → Bool → Int → Int → Int → Int → Int → Prop) : Prop where
  run : f66_d es1 full2 b3 es4 full5 n6 n7 n8 n9 n10 k0
noncomputable def f66_tab : List (Nat × Told) := []
noncomputable def f66_call : FuncId → List TV → List Entry → (TV → List Entry → Prop) → Prop := addCall 68 f68_G (addCall 67 f67_G (addCall 65 f65_G (addCall 45 f45_G (noCalls))))
noncomputable def f66_C : Ctx := { ty := tyOf tab, glob := glob, byRef := byRef, keep := fun k i => lookN [] (lookN [] ([] : List (Nat × List (Nat × List Nat))) k) i, late := lookN [] ([] : List (Nat × List Nat)), nref := lookN [] ([] : List (Nat × List Nat)), nbox := lookN [] ([] : List (Nat × List (Nat × Nat))), take := [], rnil := false, m := 1, fz := true, loops := lookL f66_tab, call := f66_call }
noncomputable def f66_G0 : List TV → List Entry → (TV → List Entry → Prop) → Prop := fun tm hp K => getS [.v (.one (.ptr 0 0 0))] [.box [.sl 4, .bool, .sl 4, .int .i64, .int .i64, .int .i64, .int .i64, .int .i64]] tm hp fun (xx : (Unit × Unit)) (yy : (((List (List PC) × Bool) × (Bool × ((List (List PC) × Bool) × (Int × (Int × (Int × (Int × (Int × Unit)))))))) × Unit)) => f66 yy.1.1.1 yy.1.1.2 yy.1.2.1 yy.1.2.2.1.1 yy.1.2.2.1.2 yy.1.2.2.2.1 yy.1.2.2.2.2.1 yy.1.2.2.2.2.2.1 yy.1.2.2.2.2.2.2.1 yy.1.2.2.2.2.2.2.2.1 (fun s0_0 es0_1 full0_2 b0_3 es0_4 full0_5 n0_6 n0_7 n0_8 n0_9 n0_10 => K (S s0_0) [.box [.p (.sl 4 es0_1 full0_2), .p (pB b0_3), .p (.sl 4 es0_4 full0_5), .p (pI n0_6), .p (pI n0_7), .p (pI n0_8), .p (pI n0_9), .p (pI n0_10)]])
set_option maxRecDepth 100000 in
theorem f66_eq (es_11 : List (List PC)) (full_12 : Bool) (b_13 : Bool) (es_14 : List (List PC)) (full_15 : Bool) (n_16 : Int) (n_17 : Int) (n_18 : Int) (n_19 : Int) (n_20 : Int) (K : TV → List Entry → Prop) : (f66_d es_11 full_12 b_13 es_14 full_15 n_16 n_17 n_18 n_19 n_20 (fun s0_0 es0_1 full0_2 b0_3 es0_4 full0_5 n0_6 n0_7 n0_8 n0_9 n0_10 => K (S s0_0) [.box [.p (.sl 4 es0_1 full0_2), .p (pB b0_3), .p (.sl 4 es0_4 full0_5), .p (pI n0_6), .p (pI n0_7), .p (pI n0_8), .p (pI n0_9), .p (pI n0_10)]])) = funcT f66_C Tryd.f66 [.w (.one (.ptr 0 0 0))] [.box [.p (.sl 4 es_11 full_12), .p (pB b_13), .p (.sl 4 es_14 full_15), .p (pI n_16), .p (pI n_17), .p (pI n_18), .p (pI n_19), .p (pI n_20)]] K := by kernel_rfl
set_option maxHeartbeats 4000000 in
theorem f66_ok0 : FnOk Tryd.prog glob 66 f66_G0 := by
  refine FnOk.of_text (C := f66_C) tab_ok.ok (Known.add f68_G_ok (Known.add f67_G_ok (Known.add f65_G_ok (Known.add f45_G_ok (Known.none))))) follows_ok (fn := Tryd.f66) (by kernel_rfl) (by kernel_rfl) (by kernel_rfl) (fun c hc => ?_) fun tm hp K h => ?_
  · have e : c = bodyOf Tryd.f66 := Option.some.inj (hc.symm.trans (by kernel_rfl))
    subst e
    exact ⟨LoopsOk.of [] (by kernel_rfl) trivial, TailsOk.of (tab := f66_tab) rfl [] (by kernel_rfl) trivial⟩
  · unfold f66_G0 at h
    obtain ⟨xx, yy, rfl, rfl, h⟩ := getS_elim h
    have e := (f66_eq yy.1.1.1 yy.1.1.2 yy.1.2.1 yy.1.2.2.1.1 yy.1.2.2.1.2 yy.1.2.2.2.1 yy.1.2.2.2.2.1 yy.1.2.2.2.2.2.1 yy.1.2.2.2.2.2.2.1 yy.1.2.2.2.2.2.2.2.1 K).trans (show _ = funcT f66_C Tryd.f66 (mkR _ xx) (mkE _ yy) K by kernel_rfl)
    rw [← e]
    exact h.run
noncomputable abbrev f66_G := f66_G0
theorem f66_G_ok : FnOk Tryd.prog glob 66 f66_G := f66_ok0
end Go.Eng.N
set_option linter.unusedVariables false
set_option maxRecDepth 100000
open Go Go.Eng Go.Proofs
namespace Go.Eng.N
/-! ### f70: (*plenum/notify.reader).set -/
noncomputable def f70_p11 (es40 : List (List PC)) (full41 : Bool) (s42 : ByteArray) (n43 : Int) (es44 : List (List PC)) (full45 : Bool) (b46 : Bool) (es47 : List (List PC)) (full48 : Bool) (n49 : Int) (n50 : Int) (n51 : Int) (n52 : Int) (n53 : Int) (k0 : Int → Bool → (List (List PC)) → Bool → Bool → (List (List PC)) → Bool → Int → Int → Int → Int → Int → Prop) : Prop := f65 1 (⟨#[]⟩ : ByteArray) es44 full45 b46 es47 full48 n49 n50 n51 n52 n53 (fun n54 s55 n56 n57 es58 full59 b60 es61 full62 n63 n64 n65 n66 n67 => f97 es40 full41 s55 (fun n68 => f67 es58 full59 b60 es61 full62 n63 n64 n65 n66 n67 (fun b69 es70 full71 b72 es73 full74 n75 n76 n77 n78 n79 => bB (!b69) (k0 n43 false es70 full71 b72 es73 full74 n75 n76 n77 n78 n79) (bB (decide (n68 < 0)) (f68 2 (w64 (n76 - 1)) es70 full71 b72 es73 full74 n75 n76 n77 n78 n79 (fun es80 full81 b82 es83 full84 n85 n86 n87 n88 n89 => k0 n43 false es80 full81 b82 es83 full84 n85 n86 n87 n88 n89)) (0 ≤ n68 ∧ bB ((IntKind.wrap .i64 (BitVec.toNat (BitVec.ofInt 64 (Int.fdiv n43 (2 ^ (min (Int.toNat n68) 64))) &&& BitVec.ofInt 64 1))) == 1) (f68 5 (w64 (n76 - 1)) es70 full71 b72 es73 full74 n75 n76 n77 n78 n79 (fun es90 full91 b92 es93 full94 n95 n96 n97 n98 n99 => k0 n43 false es90 full91 b92 es93 full94 n95 n96 n97 n98 n99)) (0 ≤ n68 ∧ k0 (IntKind.wrap .i64 (BitVec.toNat (BitVec.ofInt 64 n43 ||| BitVec.ofInt 64 (IntKind.wrap .i64 (1 * 2 ^ (min (Int.toNat n68) 64)))))) false es70 full71 b72 es73 full74 n75 n76 n77 n78 n79))))))
noncomputable def f70_p6b0 (es14 : List (List PC)) (full15 : Bool) (s16 : ByteArray) (n17 : Int) (b18 : Bool) (es19 : List (List PC)) (full20 : Bool) (b21 : Bool) (es22 : List (List PC)) (full23 : Bool) (n24 : Int) (n25 : Int) (n26 : Int) (n27 : Int) (n28 : Int) (N0 : Int → Bool → (List (List PC)) → Bool → Bool → (List (List PC)) → Bool → Int → Int → Int → Int → Int → Prop) (k0 : Int → (List (List PC)) → Bool → Bool → (List (List PC)) → Bool → Int → Int → Int → Int → Int → Prop) : Prop := f67 es19 full20 b21 es22 full23 n24 n25 n26 n27 n28 (fun b29 es30 full31 b32 es33 full34 n35 n36 n37 n38 n39 => bB b29 (bB b18 (f70_p11 es14 full15 s16 n17 es30 full31 b32 es33 full34 n35 n36 n37 n38 n39 (fun n100 b101 es102 full103 b104 es105 full106 n107 n108 n109 n110 n111 => N0 n100 b101 es102 full103 b104 es105 full106 n107 n108 n109 n110 n111)) (f69 es30 full31 b32 es33 full34 n35 n36 n37 n38 n39 (fun b112 es113 full114 b115 es116 full117 n118 n119 n120 n121 n122 => bB b112 (bB (!(s16.toList == (⟨#[]⟩ : ByteArray).toList)) (f96 1 s16 es113 full114 b115 es116 full117 n118 n119 n120 n121 n122 (fun b123 es124 full125 b126 es127 full128 n129 n130 n131 n132 n133 => bB (!b123) (f70_p11 es14 full15 s16 n17 es124 full125 b126 es127 full128 n129 n130 n131 n132 n133 (fun n134 b135 es136 full137 b138 es139 full140 n141 n142 n143 n144 n145 => N0 n134 b135 es136 full137 b138 es139 full140 n141 n142 n143 n144 n145)) (k0 n17 es124 full125 b126 es127 full128 n129 n130 n131 n132 n133))) (f70_p11 es14 full15 s16 n17 es113 full114 b115 es116 full117 n118 n119 n120 n121 n122 (fun n146 b147 es148 full149 b150 es151 full152 n153 n154 n155 n156 n157 => N0 n146 b147 es148 full149 b150 es151 full152 n153 n154 n155 n156 n157))) (k0 n17 es113 full114 b115 es116 full117 n118 n119 n120 n121 n122)))) (k0 n17 es30 full31 b32 es33 full34 n35 n36 n37 n38 n39))
noncomputable def f70_p6 (es14 : List (List PC)) (full15 : Bool) (s16 : ByteArray) (k0 : Int → (List (List PC)) → Bool → Bool → (List (List PC)) → Bool → Int → Int → Int → Int → Int → Prop) : Int × Bool × (List (List PC)) × Bool × Bool × (List (List PC)) × Bool × Int × Int × Int × Int × Int → Prop := LoopP fun x N => f70_p6b0 es14 full15 s16 x.1 x.2.1 x.2.2.1 x.2.2.2.1 x.2.2.2.2.1 x.2.2.2.2.2.1 x.2.2.2.2.2.2.1 x.2.2.2.2.2.2.2.1 x.2.2.2.2.2.2.2.2.1 x.2.2.2.2.2.2.2.2.2.1 x.2.2.2.2.2.2.2.2.2.2.1 x.2.2.2.2.2.2.2.2.2.2.2 (fun n17 b18 es19 full20 b21 es22 full23 n24 n25 n26 n27 n28 => N (n17, b18, es19, full20, b21, es22, full23, n24, n25, n26, n27, n28)) k0
noncomputable def f70_d (es1 : List (List PC)) (full2 : Bool) (s3 : ByteArray) (es4 : List (List PC)) (full5 : Bool) (b6 : Bool) (es7 : List (List PC)) (full8 : Bool) (n9 : Int) (n10 : Int) (n11 : Int) (n12 : Int) (n13 : Int) (k0 : Int → (List (List PC)) → Bool → Bool → (List (List PC)) → Bool → Int → Int → Int → Int → Int → Prop) : Prop := f70_p6 es1 full2 s3 (fun n158 es159 full160 b161 es162 full163 n164 n165 n166 n167 n168 => k0 n158 es159 full160 b161 es162 full163 n164 n165 n166 n167 n168) (0, true, es4, full5, b6, es7, full8, n9, n10, n11, n12, n13)
structure f70 (es1 : List (List PC)) (full2 : Bool) (s3 : ByteArray) (es4 : List (List PC)) (full5 : Bool) (b6 : Bool) (es7 : List (List PC)) (full8 : Bool) (n9 : Int) (n10 : Int) (n11 : Int) (n12 : Int) (n13 : Int) (k0 : Int → (List (List PC)) → Bool → Bool → (List (List PC)) → Bool → Int → Int → Int → Int → Int → Prop) : Prop where
  run : f70_d es1 full2 s3 es4 full5 b6 es7 full8 n9 n10 n11 n12 n13 k0
noncomputable def f70_p11L : Told := fun s K => match s with
  | ⟨tm, hp⟩ => getS [.v (.one (.ptr 0 0 0)), .v (.one (.sl 1)), .v (.one (.str)), .skip 4, .v (.one (.int .i64)), .skip 60] [.box [.sl 4, .bool, .sl 4, .int .i64, .int .i64, .int .i64, .int .i64, .int .i64]] tm hp fun (xx : (Unit × ((List (List PC) × Bool) × (ByteArray × (Unit × (Int × (Unit × Unit))))))) (yy : (((List (List PC) × Bool) × (Bool × ((List (List PC) × Bool) × (Int × (Int × (Int × (Int × (Int × Unit)))))))) × Unit)) => f70_p11 xx.2.1.1 xx.2.1.2 xx.2.2.1 xx.2.2.2.2.1 yy.1.1.1 yy.1.1.2 yy.1.2.1 yy.1.2.2.1.1 yy.1.2.2.1.2 yy.1.2.2.2.1 yy.1.2.2.2.2.1 yy.1.2.2.2.2.2.1 yy.1.2.2.2.2.2.2.1 yy.1.2.2.2.2.2.2.2.1 (fun n0_0 b0_1 es0_2 full0_3 b0_4 es0_5 full0_6 n0_7 n0_8 n0_9 n0_10 n0_11 => K .normal ⟨mkS 68 [(0, .w (.one (.ptr 0 0 0))), (1, .w (.one (.p (.sl 1 xx.2.1.1 xx.2.1.2)))), (2, S xx.2.2.1), (7, I n0_0), (8, B b0_1)], [.box [.p (.sl 4 es0_2 full0_3), .p (pB b0_4), .p (.sl 4 es0_5 full0_6), .p (pI n0_7), .p (pI n0_8), .p (pI n0_9), .p (pI n0_10), .p (pI n0_11)]]⟩)
noncomputable def f70_p6L : Told := fun s K => match s with
  | ⟨tm, hp⟩ => getS [.v (.one (.ptr 0 0 0)), .v (.one (.sl 1)), .v (.one (.str)), .skip 4, .v (.one (.int .i64)), .v (.one (.bool)), .skip 59] [.box [.sl 4, .bool, .sl 4, .int .i64, .int .i64, .int .i64, .int .i64, .int .i64]] tm hp fun (xx : (Unit × ((List (List PC) × Bool) × (ByteArray × (Unit × (Int × (Bool × (Unit × Unit)))))))) (yy : (((List (List PC) × Bool) × (Bool × ((List (List PC) × Bool) × (Int × (Int × (Int × (Int × (Int × Unit)))))))) × Unit)) => f70_p6 xx.2.1.1 xx.2.1.2 xx.2.2.1 (fun n0_12 es0_13 full0_14 b0_15 es0_16 full0_17 n0_18 n0_19 n0_20 n0_21 n0_22 => K (.exit 0) ⟨mkS 68 [(7, I n0_12)], [.box [.p (.sl 4 es0_13 full0_14), .p (pB b0_15), .p (.sl 4 es0_16 full0_17), .p (pI n0_18), .p (pI n0_19), .p (pI n0_20), .p (pI n0_21), .p (pI n0_22)]]⟩) (xx.2.2.2.2.1, xx.2.2.2.2.2.1, yy.1.1.1, yy.1.1.2, yy.1.2.1, yy.1.2.2.1.1, yy.1.2.2.1.2, yy.1.2.2.2.1, yy.1.2.2.2.2.1, yy.1.2.2.2.2.2.1, yy.1.2.2.2.2.2.2.1, yy.1.2.2.2.2.2.2.2.1)
noncomputable def f70_tab : List (Nat × Told) := [(11, f70_p11L), (6, f70_p6L)]
noncomputable def f70_call : FuncId → List TV → List Entry → (TV → List Entry → Prop) → Prop := addCall 97 f97_G (addCall 96 f96_G (addCall 69 f69_G (addCall 68 f68_G (addCall 67 f67_G (addCall 65 f65_G (noCalls))))))
noncomputable def f70_C : Ctx := { ty := tyOf tab, glob := glob, byRef := byRef, keep := fun k i => lookN [] (lookN [] ([(11, [(0, [0, 1, 2, 7]), (1, [0, 1, 2, 7, 8]), (2, [6]), (3, [7])]), (6, [(0, [0, 1, 2, 7, 8]), (2, [6]), (3, [7])])] : List (Nat × List (Nat × List Nat))) k) i, late := lookN [] ([] : List (Nat × List Nat)), nref := lookN [] ([] : List (Nat × List Nat)), nbox := lookN [] ([] : List (Nat × List (Nat × Nat))), take := [], rnil := false, m := 1, fz := true, loops := lookL f70_tab, call := f70_call }
set_option maxRecDepth 100000 in
theorem f70_p11e0 (es_34 : List (List PC)) (full_35 : Bool) (s_36 : ByteArray) (n_37 : Int) (es_38 : List (List PC)) (full_39 : Bool) (b_40 : Bool) (es_41 : List (List PC)) (full_42 : Bool) (n_43 : Int) (n_44 : Int) (n_45 : Int) (n_46 : Int) (n_47 : Int) (K : TExit → St → Prop) : (f70_p11 es_34 full_35 s_36 n_37 es_38 full_39 b_40 es_41 full_42 n_43 n_44 n_45 n_46 n_47 (fun n0_48 b0_49 es0_50 full0_51 b0_52 es0_53 full0_54 n0_55 n0_56 n0_57 n0_58 n0_59 => K .normal ⟨mkS 68 [(0, .w (.one (.ptr 0 0 0))), (1, .w (.one (.p (.sl 1 es_34 full_35)))), (2, S s_36), (7, I n0_48), (8, B b0_49)], [.box [.p (.sl 4 es0_50 full0_51), .p (pB b0_52), .p (.sl 4 es0_53 full0_54), .p (pI n0_55), .p (pI n0_56), .p (pI n0_57), .p (pI n0_58), .p (pI n0_59)]]⟩)) = execT f70_C (nthC (tails (bodyOf Tryd.f70)) 4) ⟨mkS 68 [(0, .w (.one (.ptr 0 0 0))), (1, .w (.one (.p (.sl 1 es_34 full_35)))), (2, S s_36), (7, I n_37)], [.box [.p (.sl 4 es_38 full_39), .p (pB b_40), .p (.sl 4 es_41 full_42), .p (pI n_43), .p (pI n_44), .p (pI n_45), .p (pI n_46), .p (pI n_47)]]⟩ (fun e s => K e (normOut f70_C 11 e s)) := by kernel_rfl
noncomputable def f70_p6_mk (es14 : List (List PC)) (full15 : Bool) (s16 : ByteArray) (x : Int × Bool × (List (List PC)) × Bool × Bool × (List (List PC)) × Bool × Int × Int × Int × Int × Int) : St := ⟨mkS 68 [(0, .w (.one (.ptr 0 0 0))), (1, .w (.one (.p (.sl 1 es14 full15)))), (2, S s16), (7, I x.1), (8, B x.2.1)], [.box [.p (.sl 4 x.2.2.1 x.2.2.2.1), .p (pB x.2.2.2.2.1), .p (.sl 4 x.2.2.2.2.2.1 x.2.2.2.2.2.2.1), .p (pI x.2.2.2.2.2.2.2.1), .p (pI x.2.2.2.2.2.2.2.2.1), .p (pI x.2.2.2.2.2.2.2.2.2.1), .p (pI x.2.2.2.2.2.2.2.2.2.2.1), .p (pI x.2.2.2.2.2.2.2.2.2.2.2)]]⟩
set_option maxRecDepth 100000 in
theorem f70_p6e0 (es_75 : List (List PC)) (full_76 : Bool) (s_77 : ByteArray) (n_78 : Int) (b_79 : Bool) (es_80 : List (List PC)) (full_81 : Bool) (b_82 : Bool) (es_83 : List (List PC)) (full_84 : Bool) (n_85 : Int) (n_86 : Int) (n_87 : Int) (n_88 : Int) (n_89 : Int) (N : St → Prop) (K : TExit → St → Prop) : (f70_p6b0 es_75 full_76 s_77 n_78 b_79 es_80 full_81 b_82 es_83 full_84 n_85 n_86 n_87 n_88 n_89 (fun z3 z4 z5 z6 z7 z8 z9 z10 z11 z12 z13 z14 => N (f70_p6_mk es_75 full_76 s_77 (z3, z4, z5, z6, z7, z8, z9, z10, z11, z12, z13, z14))) (fun n0_90 es0_91 full0_92 b0_93 es0_94 full0_95 n0_96 n0_97 n0_98 n0_99 n0_100 => K (.exit 0) ⟨mkS 68 [(7, I n0_90)], [.box [.p (.sl 4 es0_91 full0_92), .p (pB b0_93), .p (.sl 4 es0_94 full0_95), .p (pI n0_96), .p (pI n0_97), .p (pI n0_98), .p (pI n0_99), .p (pI n0_100)]]⟩)) = execT f70_C (nthC (bodies (bodyOf Tryd.f70)) 0) (f70_p6_mk es_75 full_76 s_77 (n_78, b_79, es_80, full_81, b_82, es_83, full_84, n_85, n_86, n_87, n_88, n_89)) (loopK N (normK f70_C 6) fun e s => K e (normOut f70_C 6 e s)) := by kernel_rfl
set_option maxHeartbeats 4000000 in
theorem f70_p11_ok : TailOk f70_C (nthC (tails (bodyOf Tryd.f70)) 4) := by
  refine TailOk.of f70_p11L (by kernel_rfl) fun σ K h => ?_
  have hk : joinKey (nthC (tails (bodyOf Tryd.f70)) 4) = 11 := by kernel_rfl
  rw [hk] at h ⊢
  generalize hs : normK f70_C 11 σ = s at h
  obtain ⟨tm, hp⟩ := s
  unfold f70_p11L at h
  dsimp only at h
  obtain ⟨xx, yy, rfl, rfl, h⟩ := getS_elim h
  have q : normK f70_C 11 σ = (⟨mkS 68 [(0, .w (.one (.ptr 0 0 0))), (1, .w (.one (.p (.sl 1 xx.2.1.1 xx.2.1.2)))), (2, S xx.2.2.1), (7, I xx.2.2.2.2.1)], [.box [.p (.sl 4 yy.1.1.1 yy.1.1.2), .p (pB yy.1.2.1), .p (.sl 4 yy.1.2.2.1.1 yy.1.2.2.1.2), .p (pI yy.1.2.2.2.1), .p (pI yy.1.2.2.2.2.1), .p (pI yy.1.2.2.2.2.2.1), .p (pI yy.1.2.2.2.2.2.2.1), .p (pI yy.1.2.2.2.2.2.2.2.1)]]⟩ : St) := hs.trans (by kernel_rfl)
  rw [← hs, q, ← f70_p11e0 xx.2.1.1 xx.2.1.2 xx.2.2.1 xx.2.2.2.2.1 yy.1.1.1 yy.1.1.2 yy.1.2.1 yy.1.2.2.1.1 yy.1.2.2.1.2 yy.1.2.2.2.1 yy.1.2.2.2.2.1 yy.1.2.2.2.2.2.1 yy.1.2.2.2.2.2.2.1 yy.1.2.2.2.2.2.2.2.1 K]
  exact h
set_option maxHeartbeats 4000000 in
theorem f70_p6_ok : LoopOk f70_C (nthC (bodies (bodyOf Tryd.f70)) 0) := by
  refine LoopOk.of f70_p6L (by kernel_rfl) fun σ K h => ?_
  have hk : loopKey (nthC (bodies (bodyOf Tryd.f70)) 0) = 6 := by kernel_rfl
  rw [hk] at h ⊢
  generalize hs : normK f70_C 6 σ = s at h
  obtain ⟨tm, hp⟩ := s
  unfold f70_p6L at h
  dsimp only at h
  obtain ⟨xx, yy, rfl, rfl, h⟩ := getS_elim h
  refine iter_of (f70_p6_mk xx.2.1.1 xx.2.1.2 xx.2.2.1) (fun x N h => ?_) rounds _ σ (hs.trans (by kernel_rfl)) (LoopP.run h)
  obtain ⟨y0, y1, y2, y3, y4, y5, y6, y7, y8, y9, y10, y11⟩ := x
  rw [← f70_p6e0 xx.2.1.1 xx.2.1.2 xx.2.2.1 y0 y1 y2 y3 y4 y5 y6 y7 y8 y9 y10 y11 N K]
  exact h
noncomputable def f70_G0 : List TV → List Entry → (TV → List Entry → Prop) → Prop := fun tm hp K => getS [.v (.one (.ptr 0 0 0)), .v (.one (.sl 1)), .v (.one (.str))] [.box [.sl 4, .bool, .sl 4, .int .i64, .int .i64, .int .i64, .int .i64, .int .i64]] tm hp fun (xx : (Unit × ((List (List PC) × Bool) × (ByteArray × Unit)))) (yy : (((List (List PC) × Bool) × (Bool × ((List (List PC) × Bool) × (Int × (Int × (Int × (Int × (Int × Unit)))))))) × Unit)) => f70 xx.2.1.1 xx.2.1.2 xx.2.2.1 yy.1.1.1 yy.1.1.2 yy.1.2.1 yy.1.2.2.1.1 yy.1.2.2.1.2 yy.1.2.2.2.1 yy.1.2.2.2.2.1 yy.1.2.2.2.2.2.1 yy.1.2.2.2.2.2.2.1 yy.1.2.2.2.2.2.2.2.1 (fun n0_23 es0_24 full0_25 b0_26 es0_27 full0_28 n0_29 n0_30 n0_31 n0_32 n0_33 => K (I n0_23) [.box [.p (.sl 4 es0_24 full0_25), .p (pB b0_26), .p (.sl 4 es0_27 full0_28), .p (pI n0_29), .p (pI n0_30), .p (pI n0_31), .p (pI n0_32), .p (pI n0_33)]])
set_option maxRecDepth 100000 in
theorem f70_eq (es_101 : List (List PC)) (full_102 : Bool) (s_103 : ByteArray) (es_104 : List (List PC)) (full_105 : Bool) (b_106 : Bool) (es_107 : List (List PC)) (full_108 : Bool) (n_109 : Int) (n_110 : Int) (n_111 : Int) (n_112 : Int) (n_113 : Int) (K : TV → List Entry → Prop) : (f70_d es_101 full_102 s_103 es_104 full_105 b_106 es_107 full_108 n_109 n_110 n_111 n_112 n_113 (fun n0_23 es0_24 full0_25 b0_26 es0_27 full0_28 n0_29 n0_30 n0_31 n0_32 n0_33 => K (I n0_23) [.box [.p (.sl 4 es0_24 full0_25), .p (pB b0_26), .p (.sl 4 es0_27 full0_28), .p (pI n0_29), .p (pI n0_30), .p (pI n0_31), .p (pI n0_32), .p (pI n0_33)]])) = funcT f70_C Tryd.f70 [.w (.one (.ptr 0 0 0)), .w (.one (.p (.sl 1 es_101 full_102))), S s_103] [.box [.p (.sl 4 es_104 full_105), .p (pB b_106), .p (.sl 4 es_107 full_108), .p (pI n_109), .p (pI n_110), .p (pI n_111), .p (pI n_112), .p (pI n_113)]] K := by kernel_rfl
set_option maxHeartbeats 4000000 in
theorem f70_ok0 : FnOk Tryd.prog glob 70 f70_G0 := by
  refine FnOk.of_text (C := f70_C) tab_ok.ok (Known.add f97_G_ok (Known.add f96_G_ok (Known.add f69_G_ok (Known.add f68_G_ok (Known.add f67_G_ok (Known.add f65_G_ok (Known.none))))))) follows_ok (fn := Tryd.f70) (by kernel_rfl) (by kernel_rfl) (by kernel_rfl) (fun c hc => ?_) fun tm hp K h => ?_
  · have e : c = bodyOf Tryd.f70 := Option.some.inj (hc.symm.trans (by kernel_rfl))
    subst e
    exact ⟨LoopsOk.of [nthC (bodies (bodyOf Tryd.f70)) 0] (by kernel_rfl) ⟨f70_p6_ok, trivial⟩, TailsOk.of (tab := f70_tab) rfl [nthC (tails (bodyOf Tryd.f70)) 4] (by kernel_rfl) ⟨f70_p11_ok, trivial⟩⟩
  · unfold f70_G0 at h
    obtain ⟨xx, yy, rfl, rfl, h⟩ := getS_elim h
    have e := (f70_eq xx.2.1.1 xx.2.1.2 xx.2.2.1 yy.1.1.1 yy.1.1.2 yy.1.2.1 yy.1.2.2.1.1 yy.1.2.2.1.2 yy.1.2.2.2.1 yy.1.2.2.2.2.1 yy.1.2.2.2.2.2.1 yy.1.2.2.2.2.2.2.1 yy.1.2.2.2.2.2.2.2.1 K).trans (show _ = funcT f70_C Tryd.f70 (mkR _ xx) (mkE _ yy) K by kernel_rfl)
    rw [← e]
    exact h.run
noncomputable abbrev f70_G := f70_G0
theorem f70_G_ok : FnOk Tryd.prog glob 70 f70_G := f70_ok0
end Go.Eng.N
set_option linter.unusedVariables false
set_option maxRecDepth 100000
open Go Go.Eng Go.Proofs
namespace Go.Eng.N
/-! ### f40: plenum/plenumref11.W -/
noncomputable def f40_d (s1 : ByteArray) (k0 : Int → ByteArray → Int → Int → Prop) : Prop := k0 1 s1 0 0
structure f40 (s1 : ByteArray) (k0 : Int → ByteArray → Int → Int → Prop) : Prop where
  run : f40_d s1 k0
noncomputable def f40_tab : List (Nat × Told) := []
noncomputable def f40_call : FuncId → List TV → List Entry → (TV → List Entry → Prop) → Prop := noCalls
noncomputable def f40_C : Ctx := { ty := tyOf tab, glob := glob, byRef := byRef, keep := fun k i => lookN [] (lookN [] ([] : List (Nat × List (Nat × List Nat))) k) i, late := lookN [] ([] : List (Nat × List Nat)), nref := lookN [] ([] : List (Nat × List Nat)), nbox := lookN [] ([] : List (Nat × List (Nat × Nat))), take := [], rnil := false, m := 0, fz := true, loops := lookL f40_tab, call := f40_call }
noncomputable def f40_G0 : List TV → List Entry → (TV → List Entry → Prop) → Prop := fun tm hp K => getS [.v (.one (.str))] [] tm hp fun (xx : (ByteArray × Unit)) (yy : Unit) => f40 xx.1 (fun n0_0 s0_1 n0_2 n0_3 => K (.w (.pagg [pI n0_0, pS s0_1, pI n0_2, pI n0_3])) [])
set_option maxRecDepth 100000 in
theorem f40_eq (s_4 : ByteArray) (K : TV → List Entry → Prop) : (f40_d s_4 (fun n0_0 s0_1 n0_2 n0_3 => K (.w (.pagg [pI n0_0, pS s0_1, pI n0_2, pI n0_3])) [])) = funcT f40_C Tryd.f40 [S s_4] [] K := by kernel_rfl
set_option maxHeartbeats 4000000 in
theorem f40_ok0 : FnOk Tryd.prog glob 40 f40_G0 := by
  refine FnOk.of_text (C := f40_C) tab_ok.ok (Known.none) follows_ok (fn := Tryd.f40) (by kernel_rfl) (by kernel_rfl) (by kernel_rfl) (fun c hc => ?_) fun tm hp K h => ?_
  · have e : c = bodyOf Tryd.f40 := Option.some.inj (hc.symm.trans (by kernel_rfl))
    subst e
    exact ⟨LoopsOk.of [] (by kernel_rfl) trivial, TailsOk.of (tab := f40_tab) rfl [] (by kernel_rfl) trivial⟩
  · unfold f40_G0 at h
    obtain ⟨xx, yy, rfl, rfl, h⟩ := getS_elim h
    have e := (f40_eq xx.1 K).trans (show _ = funcT f40_C Tryd.f40 (mkR _ xx) (mkE _ yy) K by kernel_rfl)
    rw [← e]
    exact h.run
noncomputable abbrev f40_G := f40_G0
theorem f40_G_ok : FnOk Tryd.prog glob 40 f40_G := f40_ok0
end Go.Eng.N
set_option linter.unusedVariables false
set_option maxRecDepth 100000
open Go Go.Eng Go.Proofs
namespace Go.Eng.N
/-! ### f41: plenum/plenumref11.N -/
noncomputable def f41_d (n1 : Int) (k0 : Int → ByteArray → Int → Int → Prop) : Prop := k0 2 (⟨#[]⟩ : ByteArray) n1 0
structure f41 (n1 : Int) (k0 : Int → ByteArray → Int → Int → Prop) : Prop where
  run : f41_d n1 k0
noncomputable def f41_tab : List (Nat × Told) := []
noncomputable def f41_call : FuncId → List TV → List Entry → (TV → List Entry → Prop) → Prop := noCalls
noncomputable def f41_C : Ctx := { ty := tyOf tab, glob := glob, byRef := byRef, keep := fun k i => lookN [] (lookN [] ([] : List (Nat × List (Nat × List Nat))) k) i, late := lookN [] ([] : List (Nat × List Nat)), nref := lookN [] ([] : List (Nat × List Nat)), nbox := lookN [] ([] : List (Nat × List (Nat × Nat))), take := [], rnil := false, m := 0, fz := true, loops := lookL f41_tab, call := f41_call }
noncomputable def f41_G0 : List TV → List Entry → (TV → List Entry → Prop) → Prop := fun tm hp K => getS [.v (.one (.int .i64))] [] tm hp fun (xx : (Int × Unit)) (yy : Unit) => f41 xx.1 (fun n0_0 s0_1 n0_2 n0_3 => K (.w (.pagg [pI n0_0, pS s0_1, pI n0_2, pI n0_3])) [])
set_option maxRecDepth 100000 in
theorem f41_eq (n_4 : Int) (K : TV → List Entry → Prop) : (f41_d n_4 (fun n0_0 s0_1 n0_2 n0_3 => K (.w (.pagg [pI n0_0, pS s0_1, pI n0_2, pI n0_3])) [])) = funcT f41_C Tryd.f41 [I n_4] [] K := by kernel_rfl
set_option maxHeartbeats 4000000 in
theorem f41_ok0 : FnOk Tryd.prog glob 41 f41_G0 := by
  refine FnOk.of_text (C := f41_C) tab_ok.ok (Known.none) follows_ok (fn := Tryd.f41) (by kernel_rfl) (by kernel_rfl) (by kernel_rfl) (fun c hc => ?_) fun tm hp K h => ?_
  · have e : c = bodyOf Tryd.f41 := Option.some.inj (hc.symm.trans (by kernel_rfl))
    subst e
    exact ⟨LoopsOk.of [] (by kernel_rfl) trivial, TailsOk.of (tab := f41_tab) rfl [] (by kernel_rfl) trivial⟩
  · unfold f41_G0 at h
    obtain ⟨xx, yy, rfl, rfl, h⟩ := getS_elim h
    have e := (f41_eq xx.1 K).trans (show _ = funcT f41_C Tryd.f41 (mkR _ xx) (mkE _ yy) K by kernel_rfl)
    rw [← e]
    exact h.run
noncomputable abbrev f41_G := f41_G0
theorem f41_G_ok : FnOk Tryd.prog glob 41 f41_G := f41_ok0
end Go.Eng.N
set_option linter.unusedVariables false
set_option maxRecDepth 100000
open Go Go.Eng Go.Proofs
namespace Go.Eng.N
/-! ### f42: plenum/plenumref39.words -/
noncomputable def f42_p6b0 (n7 : Int) (es8 : List (List PC)) (full9 : Bool) (i10 : Nat) (n11 : Nat) (n12 : Int) (es13 : List (List PC)) (N0 : Nat → Nat → Int → (List (List PC)) → Prop) (k0 : Nat → Nat → (List (List PC)) → Prop) : Prop := bB (decide (n12 < ((es8.length : Nat) : Int))) (f84 n7 n12 (fun b14 => bB b14 ((0 ≤ n12 ∧ n12 < ((es8.length : Nat) : Int)) ∧ oS (ext (List.getD es8 (Int.toNat n12) []) 0 1) fun s15 => f40 s15 (fun n16 s17 n18 n19 => (i10 + n11) = es13.length ∧ (n11 + 1) * 40 ≤ 2 ^ 46 ∧ (n11 + 1) ≤ 2 ^ 46 ∧ N0 0 (n11 + 1) (w64 (n12 + 1)) (List.drop i10 es13 ++ [[pI n16, pS s17, pI n18, pI n19]]))) (N0 i10 n11 (w64 (n12 + 1)) es13))) (k0 i10 n11 es13)
noncomputable def f42_p6 (n7 : Int) (es8 : List (List PC)) (full9 : Bool) (k0 : Nat → Nat → (List (List PC)) → Prop) : Nat × Nat × Int × (List (List PC)) → Prop := LoopP fun x N => f42_p6b0 n7 es8 full9 x.1 x.2.1 x.2.2.1 x.2.2.2 (fun i10 n11 n12 es13 => N (i10, n11, n12, es13)) k0
noncomputable def f42_d (i1 : Nat) (n2 : Nat) (n3 : Int) (es4 : List (List PC)) (full5 : Bool) (es6 : List (List PC)) (k0 : Nat → Nat → (List (List PC)) → Prop) : Prop := f42_p6 n3 es4 full5 (fun i20 n21 es22 => k0 i20 n21 es22) (0, n2, 0, (List.drop i1 es6))
structure f42 (i1 : Nat) (n2 : Nat) (n3 : Int) (es4 : List (List PC)) (full5 : Bool) (es6 : List (List PC)) (k0 : Nat → Nat → (List (List PC)) → Prop) : Prop where
  run : f42_d i1 n2 n3 es4 full5 es6 k0
noncomputable def f42_p6L : Told := fun s K => match s with
  | ⟨tm, hp⟩ => getS [.skip 1, .v (.one (.int .i64)), .v (.one (.sl 1)), .skip 4, .v (.one (.ref 1)), .v (.one (.int .i64)), .skip 19] [.gone, .vec 4 true] tm hp fun (xx : (Unit × (Int × ((List (List PC) × Bool) × (Unit × ((Nat × Nat) × (Int × (Unit × Unit)))))))) (yy : (Unit × ((List (List PC)) × Unit))) => f42_p6 xx.2.1 xx.2.2.1.1 xx.2.2.1.2 (fun i0_0 n0_1 es0_2 => K (.exit 0) ⟨mkS 28 [(7, .w (.one (.ref 1 i0_0 n0_1)))], [.gone, .vec 4 es0_2 true]⟩) (xx.2.2.2.2.1.1, xx.2.2.2.2.1.2, xx.2.2.2.2.2.1, yy.2.1)
noncomputable def f42_tab : List (Nat × Told) := [(6, f42_p6L)]
noncomputable def f42_call : FuncId → List TV → List Entry → (TV → List Entry → Prop) → Prop := addCall 84 f84_G (addCall 40 f40_G (noCalls))
noncomputable def f42_C : Ctx := { ty := tyOf tab, glob := glob, byRef := byRef, keep := fun k i => lookN [] (lookN [] ([(6, [(0, [1, 2, 7, 8]), (2, [6]), (3, [7])])] : List (Nat × List (Nat × List Nat))) k) i, late := lookN [] ([] : List (Nat × List Nat)), nref := lookN [] ([] : List (Nat × List Nat)), nbox := lookN [] ([] : List (Nat × List (Nat × Nat))), take := [0], rnil := true, m := 1, fz := false, loops := lookL f42_tab, call := f42_call }
noncomputable def f42_p6_mk (n7 : Int) (es8 : List (List PC)) (full9 : Bool) (x : Nat × Nat × Int × (List (List PC))) : St := ⟨mkS 28 [(1, I n7), (2, .w (.one (.p (.sl 1 es8 full9)))), (7, .w (.one (.ref 1 x.1 x.2.1))), (8, I x.2.2.1)], [.gone, .vec 4 x.2.2.2 true]⟩
set_option maxRecDepth 100000 in
theorem f42_p6e0 (n_13 : Int) (es_14 : List (List PC)) (full_15 : Bool) (i_16 : Nat) (n_17 : Nat) (n_18 : Int) (es_19 : List (List PC)) (N : St → Prop) (K : TExit → St → Prop) : (f42_p6b0 n_13 es_14 full_15 i_16 n_17 n_18 es_19 (fun z3 z4 z5 z6 => N (f42_p6_mk n_13 es_14 full_15 (z3, z4, z5, z6))) (fun i0_20 n0_21 es0_22 => K (.exit 0) ⟨mkS 28 [(7, .w (.one (.ref 1 i0_20 n0_21)))], [.gone, .vec 4 es0_22 true]⟩)) = execT f42_C (nthC (bodies (bodyOf Tryd.f42)) 0) (f42_p6_mk n_13 es_14 full_15 (i_16, n_17, n_18, es_19)) (loopK N (normK f42_C 6) fun e s => K e (normOut f42_C 6 e s)) := by kernel_rfl
set_option maxHeartbeats 4000000 in
theorem f42_p6_ok : LoopOk f42_C (nthC (bodies (bodyOf Tryd.f42)) 0) := by
  refine LoopOk.of f42_p6L (by kernel_rfl) fun σ K h => ?_
  have hk : loopKey (nthC (bodies (bodyOf Tryd.f42)) 0) = 6 := by kernel_rfl
  rw [hk] at h ⊢
  generalize hs : normK f42_C 6 σ = s at h
  obtain ⟨tm, hp⟩ := s
  unfold f42_p6L at h
  dsimp only at h
  obtain ⟨xx, yy, rfl, rfl, h⟩ := getS_elim h
  refine iter_of (f42_p6_mk xx.2.1 xx.2.2.1.1 xx.2.2.1.2) (fun x N h => ?_) rounds _ σ (hs.trans (by kernel_rfl)) (LoopP.run h)
  obtain ⟨y0, y1, y2, y3⟩ := x
  rw [← f42_p6e0 xx.2.1 xx.2.2.1.1 xx.2.2.1.2 y0 y1 y2 y3 N K]
  exact h
noncomputable def f42_G0 : List TV → List Entry → (TV → List Entry → Prop) → Prop := fun tm hp K => getS [.v (.one (.ref 0)), .v (.one (.int .i64)), .v (.one (.sl 1))] [.vec 4 true] tm hp fun (xx : ((Nat × Nat) × (Int × ((List (List PC) × Bool) × Unit)))) (yy : ((List (List PC)) × Unit)) => f42 xx.1.1 xx.1.2 xx.2.1 xx.2.2.1.1 xx.2.2.1.2 yy.1 (fun i0_3 n0_4 es0_5 => K (.w (.one (.ref 1 i0_3 n0_4))) [.gone, .vec 4 es0_5 true])
set_option maxRecDepth 100000 in
theorem f42_eq (i_23 : Nat) (n_24 : Nat) (n_25 : Int) (es_26 : List (List PC)) (full_27 : Bool) (es_28 : List (List PC)) (K : TV → List Entry → Prop) : (f42_d i_23 n_24 n_25 es_26 full_27 es_28 (fun i0_3 n0_4 es0_5 => K (.w (.one (.ref 1 i0_3 n0_4))) [.gone, .vec 4 es0_5 true])) = funcT f42_C Tryd.f42 [.w (.one (.ref 0 i_23 n_24)), I n_25, .w (.one (.p (.sl 1 es_26 full_27)))] [.vec 4 es_28 true] K := by kernel_rfl
set_option maxHeartbeats 4000000 in
theorem f42_ok0 : FnOk Tryd.prog glob 42 f42_G0 := by
  refine FnOk.of_text (C := f42_C) tab_ok.ok (Known.add f84_G_ok (Known.add f40_G_ok (Known.none))) follows_ok (fn := Tryd.f42) (by kernel_rfl) (by kernel_rfl) (by kernel_rfl) (fun c hc => ?_) fun tm hp K h => ?_
  · have e : c = bodyOf Tryd.f42 := Option.some.inj (hc.symm.trans (by kernel_rfl))
    subst e
    exact ⟨LoopsOk.of [nthC (bodies (bodyOf Tryd.f42)) 0] (by kernel_rfl) ⟨f42_p6_ok, trivial⟩, TailsOk.of (tab := f42_tab) rfl [] (by kernel_rfl) trivial⟩
  · unfold f42_G0 at h
    obtain ⟨xx, yy, rfl, rfl, h⟩ := getS_elim h
    have e := (f42_eq xx.1.1 xx.1.2 xx.2.1 xx.2.2.1.1 xx.2.2.1.2 yy.1 K).trans (show _ = funcT f42_C Tryd.f42 (mkR _ xx) (mkE _ yy) K by kernel_rfl)
    rw [← e]
    exact h.run
noncomputable abbrev f42_G := f42_G0
theorem f42_G_ok : FnOk Tryd.prog glob 42 f42_G := f42_ok0
end Go.Eng.N
set_option linter.unusedVariables false
set_option maxRecDepth 100000
open Go Go.Eng Go.Proofs
namespace Go.Eng.N
/-! ### f43: plenum/plenumref39.kinds -/
noncomputable def f43_d (k0 : (List (List PC)) → Bool → Prop) : Prop := k0 [[pS (⟨#[97, 108, 97, 114, 109]⟩ : ByteArray)], [pS (⟨#[102, 97, 117, 108, 116]⟩ : ByteArray)], [pS (⟨#[110, 111, 114, 109, 97, 108]⟩ : ByteArray)]] false
structure f43 (k0 : (List (List PC)) → Bool → Prop) : Prop where
  run : f43_d k0
noncomputable def f43_tab : List (Nat × Told) := []
noncomputable def f43_call : FuncId → List TV → List Entry → (TV → List Entry → Prop) → Prop := noCalls
noncomputable def f43_C : Ctx := { ty := tyOf tab, glob := glob, byRef := byRef, keep := fun k i => lookN [] (lookN [] ([] : List (Nat × List (Nat × List Nat))) k) i, late := lookN [] ([] : List (Nat × List Nat)), nref := lookN [] ([] : List (Nat × List Nat)), nbox := lookN [] ([] : List (Nat × List (Nat × Nat))), take := [], rnil := false, m := 0, fz := true, loops := lookL f43_tab, call := f43_call }
noncomputable def f43_G0 : List TV → List Entry → (TV → List Entry → Prop) → Prop := fun tm hp K => getS [] [] tm hp fun (xx : Unit) (yy : Unit) => f43 (fun es0_0 full0_1 => K (.w (.one (.p (.sl 1 es0_0 full0_1)))) [])
set_option maxRecDepth 100000 in
theorem f43_eq (K : TV → List Entry → Prop) : (f43_d (fun es0_0 full0_1 => K (.w (.one (.p (.sl 1 es0_0 full0_1)))) [])) = funcT f43_C Tryd.f43 [] [] K := by kernel_rfl
set_option maxHeartbeats 4000000 in
theorem f43_ok0 : FnOk Tryd.prog glob 43 f43_G0 := by
  refine FnOk.of_text (C := f43_C) tab_ok.ok (Known.none) follows_ok (fn := Tryd.f43) (by kernel_rfl) (by kernel_rfl) (by kernel_rfl) (fun c hc => ?_) fun tm hp K h => ?_
  · have e : c = bodyOf Tryd.f43 := Option.some.inj (hc.symm.trans (by kernel_rfl))
    subst e
    exact ⟨LoopsOk.of [] (by kernel_rfl) trivial, TailsOk.of (tab := f43_tab) rfl [] (by kernel_rfl) trivial⟩
  · unfold f43_G0 at h
    obtain ⟨xx, yy, rfl, rfl, h⟩ := getS_elim h
    have e := (f43_eq K).trans (show _ = funcT f43_C Tryd.f43 (mkR _ xx) (mkE _ yy) K by kernel_rfl)
    rw [← e]
    exact h.run
noncomputable abbrev f43_G := f43_G0
theorem f43_G_ok : FnOk Tryd.prog glob 43 f43_G := f43_ok0
end Go.Eng.N
set_option linter.unusedVariables false
set_option maxRecDepth 100000
open Go Go.Eng Go.Proofs
namespace Go.Eng.N
/-! ### f44: plenum/plenumref39.days -/
noncomputable def f44_d (k0 : (List (List PC)) → Bool → Prop) : Prop := k0 [[pS (⟨#[109, 111, 110]⟩ : ByteArray)], [pS (⟨#[116, 117, 101]⟩ : ByteArray)], [pS (⟨#[119, 101, 100]⟩ : ByteArray)], [pS (⟨#[116, 104, 117]⟩ : ByteArray)], [pS (⟨#[102, 114, 105]⟩ : ByteArray)], [pS (⟨#[115, 97, 116]⟩ : ByteArray)], [pS (⟨#[115, 117, 110]⟩ : ByteArray)]] false
structure f44 (k0 : (List (List PC)) → Bool → Prop) : Prop where
  run : f44_d k0
noncomputable def f44_tab : List (Nat × Told) := []
noncomputable def f44_call : FuncId → List TV → List Entry → (TV → List Entry → Prop) → Prop := noCalls
noncomputable def f44_C : Ctx := { ty := tyOf tab, glob := glob, byRef := byRef, keep := fun k i => lookN [] (lookN [] ([] : List (Nat × List (Nat × List Nat))) k) i, late := lookN [] ([] : List (Nat × List Nat)), nref := lookN [] ([] : List (Nat × List Nat)), nbox := lookN [] ([] : List (Nat × List (Nat × Nat))), take := [], rnil := false, m := 0, fz := true, loops := lookL f44_tab, call := f44_call }
noncomputable def f44_G0 : List TV → List Entry → (TV → List Entry → Prop) → Prop := fun tm hp K => getS [] [] tm hp fun (xx : Unit) (yy : Unit) => f44 (fun es0_0 full0_1 => K (.w (.one (.p (.sl 1 es0_0 full0_1)))) [])
set_option maxRecDepth 100000 in
theorem f44_eq (K : TV → List Entry → Prop) : (f44_d (fun es0_0 full0_1 => K (.w (.one (.p (.sl 1 es0_0 full0_1)))) [])) = funcT f44_C Tryd.f44 [] [] K := by kernel_rfl
set_option maxHeartbeats 4000000 in
theorem f44_ok0 : FnOk Tryd.prog glob 44 f44_G0 := by
  refine FnOk.of_text (C := f44_C) tab_ok.ok (Known.none) follows_ok (fn := Tryd.f44) (by kernel_rfl) (by kernel_rfl) (by kernel_rfl) (fun c hc => ?_) fun tm hp K h => ?_
  · have e : c = bodyOf Tryd.f44 := Option.some.inj (hc.symm.trans (by kernel_rfl))
    subst e
    exact ⟨LoopsOk.of [] (by kernel_rfl) trivial, TailsOk.of (tab := f44_tab) rfl [] (by kernel_rfl) trivial⟩
  · unfold f44_G0 at h
    obtain ⟨xx, yy, rfl, rfl, h⟩ := getS_elim h
    have e := (f44_eq K).trans (show _ = funcT f44_C Tryd.f44 (mkR _ xx) (mkE _ yy) K by kernel_rfl)
    rw [← e]
    exact h.run
noncomputable abbrev f44_G := f44_G0
theorem f44_G_ok : FnOk Tryd.prog glob 44 f44_G := f44_ok0
end Go.Eng.N
set_option linter.unusedVariables false
set_option maxRecDepth 100000
open Go Go.Eng Go.Proofs
namespace Go.Eng.N
/-! ### f15: plenum/plenumref39.Line -/
noncomputable def f15_p16b0 (n44 : Int) (s45 : ByteArray) (n46 : Int) (n47 : Int) (es48 : List (List PC)) (full49 : Bool) (b50 : Bool) (n51 : Int) (i52 : Nat) (n53 : Nat) (b54 : Bool) (i55 : Nat) (n56 : Nat) (n57 : Int) (es58 : List (List PC)) (es59 : List (List PC)) (N0 : Int → Nat → Nat → (List (List PC)) → Prop) (k0 : Nat → Nat → (List (List PC)) → Prop) : Prop := bB (decide (n44 < ((es48.length : Nat) : Int))) ((0 ≤ n44 ∧ n44 < ((es48.length : Nat) : Int)) ∧ cS (ext (List.getD es48 (Int.toNat n44) []) 0 5) fun s61 r60 => cI .i64 r60 fun n63 r62 => cI .i64 r62 fun n65 r64 => cI .i64 r64 fun n67 r66 => cI .i64 r66 fun n69 r68 => nilC r68 <| f40 (⟨#[114, 101, 99, 105, 112, 105, 101, 110, 116]⟩ : ByteArray) (fun n70 s71 n72 n73 => f40 s61 (fun n74 s75 n76 n77 => f40 (⟨#[100, 97, 121, 115]⟩ : ByteArray) (fun n78 s79 n80 n81 => (f44 (fun es82 full83 => f42 0 3 n63 es82 full83 [[pI n70, pS s71, pI n72, pI n73], [pI n74, pS s75, pI n76, pI n77], [pI n78, pS s79, pI n80, pI n81]] (fun i84 n85 es86 => f40 (⟨#[102, 114, 111, 109]⟩ : ByteArray) (fun n87 s88 n89 n90 => f40 (⟨#[116, 111]⟩ : ByteArray) (fun n91 s92 n93 n94 => f40 (⟨#[102, 111, 114]⟩ : ByteArray) (fun n95 s96 n97 n98 => (i84 + n85) = es86.length ∧ (n85 + 5) * 40 ≤ 2 ^ 46 ∧ (n85 + 5) ≤ 2 ^ 46 ∧ f43 (fun es99 full100 => f42 0 (n85 + 5) n69 es99 full100 (List.drop i84 es86 ++ [[pI n87, pS s88, pI n89, pI n90], [pI 4, pS (⟨#[]⟩ : ByteArray), pI n65, pI 0], [pI n91, pS s92, pI n93, pI n94], [pI 4, pS (⟨#[]⟩ : ByteArray), pI n67, pI 0], [pI n95, pS s96, pI n97, pI n98]]) (fun i101 n102 es103 => (i55 + n56) = es59.length ∧ (n56 + 1) * 64 ≤ 2 ^ 46 ∧ (n56 + 1) ≤ 2 ^ 46 ∧ N0 (w64 (n44 + 1)) 0 (n56 + 1) (List.drop i55 es59 ++ [[.sl 4 (List.take n102 (List.drop i101 es103)) false, pB false, .sl 4 [] true, pI 0]]))))))))) ∧ (f44 (fun es104 full105 => f42 0 3 n63 es104 full105 [[pI n70, pS s71, pI n72, pI n73], [pI n74, pS s75, pI n76, pI n77], [pI n78, pS s79, pI n80, pI n81]] (fun i106 n107 es108 => f40 (⟨#[102, 114, 111, 109]⟩ : ByteArray) (fun n109 s110 n111 n112 => f40 (⟨#[116, 111]⟩ : ByteArray) (fun n113 s114 n115 n116 => f40 (⟨#[102, 111, 114]⟩ : ByteArray) (fun n117 s118 n119 n120 => (i106 + n107) = es108.length ∧ (n107 + 5) * 40 ≤ 2 ^ 46 ∧ (n107 + 5) ≤ 2 ^ 46 ∧ f43 (fun es121 full122 => f42 0 (n107 + 5) n69 es121 full122 (List.drop i106 es108 ++ [[pI n109, pS s110, pI n111, pI n112], [pI 4, pS (⟨#[]⟩ : ByteArray), pI n65, pI 0], [pI n113, pS s114, pI n115, pI n116], [pI 4, pS (⟨#[]⟩ : ByteArray), pI n67, pI 0], [pI n117, pS s118, pI n119, pI n120]]) (fun i123 n124 es125 => (i55 + n56) = es59.length ∧ (n56 + 1) * 64 ≤ 2 ^ 46 ∧ (n56 + 1) ≤ 2 ^ 46 ∧ N0 (w64 (n44 + 1)) 0 (n56 + 1) (List.drop i55 es59 ++ [[.sl 4 (List.take n124 (List.drop i123 es125)) false, pB false, .sl 4 [] true, pI 0]]))))))))))))) (k0 i55 n56 es59)
noncomputable def f15_p16 (s45 : ByteArray) (n46 : Int) (n47 : Int) (es48 : List (List PC)) (full49 : Bool) (b50 : Bool) (n51 : Int) (i52 : Nat) (n53 : Nat) (b54 : Bool) (n57 : Int) (es58 : List (List PC)) (k0 : Nat → Nat → (List (List PC)) → Prop) : Int × Nat × Nat × (List (List PC)) → Prop := LoopP fun x N => f15_p16b0 x.1 s45 n46 n47 es48 full49 b50 n51 i52 n53 b54 x.2.1 x.2.2.1 n57 es58 x.2.2.2 (fun n44 i55 n56 es59 => N (n44, i55, n56, es59)) k0
noncomputable def f15_p15 (s32 : ByteArray) (n33 : Int) (n34 : Int) (es35 : List (List PC)) (full36 : Bool) (b37 : Bool) (n38 : Int) (i39 : Nat) (n40 : Nat) (b41 : Bool) (n42 : Int) (es43 : List (List PC)) (k0 : Int → Nat → Nat → (List (List PC)) → Prop) : Prop := f15_p16 s32 n33 n34 es35 full36 b37 n38 i39 n40 b41 n42 es43 (fun i126 n127 es128 => k0 0 i126 n127 es128) (0, 0, 0, [])
noncomputable def f15_d (s1 : ByteArray) (n2 : Int) (n3 : Int) (es4 : List (List PC)) (full5 : Bool) (k0 : (List (List PC)) → Bool → Bool → (List (List PC)) → Bool → Int → Int → Prop) : Prop := f17 s1 n2 n3 es4 full5 (fun n6 => bB (n6 != 0) (k0 [] true false [] true 0 n6) ((f40 (⟨#[99, 108, 97, 115, 115]⟩ : ByteArray) (fun n7 s8 n9 n10 => (f40 s1 (fun n11 s12 n13 n14 => (f40 (⟨#[112, 114, 105, 111, 114, 105, 116, 121]⟩ : ByteArray) (fun n15 s16 n17 n18 => (f41 (w64 (1000 * n2)) (fun n19 s20 n21 n22 => (bB (decide (n3 > 0)) (f40 (⟨#[97, 99, 107]⟩ : ByteArray) (fun n23 s24 n25 n26 => 4 = 4 ∧ 5 * 40 ≤ 2 ^ 46 ∧ 5 ≤ 2 ^ 46 ∧ f43 (fun es27 full28 => f42 0 5 n3 es27 full28 [[pI n7, pS s8, pI n9, pI n10], [pI n11, pS s12, pI n13, pI n14], [pI n15, pS s16, pI n17, pI n18], [pI n19, pS s20, pI n21, pI n22], [pI n23, pS s24, pI n25, pI n26]] (fun i29 n30 es31 => f15_p15 s1 n2 n3 es4 full5 false 0 i29 n30 (decide (((es4.length : Nat) : Int) > 0)) 0 es31 (fun n129 i130 n131 es132 => k0 (List.take n30 (List.drop i29 es31)) false (decide (((es4.length : Nat) : Int) > 0)) (List.take n131 (List.drop i130 es132)) false 0 n129))))) (f15_p15 s1 n2 n3 es4 full5 false 0 0 4 (decide (((es4.length : Nat) : Int) > 0)) 0 [[pI n7, pS s8, pI n9, pI n10], [pI n11, pS s12, pI n13, pI n14], [pI n15, pS s16, pI n17, pI n18], [pI n19, pS s20, pI n21, pI n22]] (fun n133 i134 n135 es136 => k0 (List.take 4 (List.drop 0 [[pI n7, pS s8, pI n9, pI n10], [pI n11, pS s12, pI n13, pI n14], [pI n15, pS s16, pI n17, pI n18], [pI n19, pS s20, pI n21, pI n22]])) false (decide (((es4.length : Nat) : Int) > 0)) (List.take n135 (List.drop i134 es136)) false 0 n133))) ∧ (bB (decide (n3 > 0)) (f40 (⟨#[97, 99, 107]⟩ : ByteArray) (fun n137 s138 n139 n140 => 4 = 4 ∧ 5 * 40 ≤ 2 ^ 46 ∧ 5 ≤ 2 ^ 46 ∧ f43 (fun es141 full142 => f42 0 5 n3 es141 full142 [[pI n7, pS s8, pI n9, pI n10], [pI n11, pS s12, pI n13, pI n14], [pI n15, pS s16, pI n17, pI n18], [pI n19, pS s20, pI n21, pI n22], [pI n137, pS s138, pI n139, pI n140]] (fun i143 n144 es145 => f15_p15 s1 n2 n3 es4 full5 false 0 i143 n144 (decide (((es4.length : Nat) : Int) > 0)) 0 es145 (fun n146 i147 n148 es149 => k0 (List.take n144 (List.drop i143 es145)) false (decide (((es4.length : Nat) : Int) > 0)) (List.take n148 (List.drop i147 es149)) false 0 n146))))) (f15_p15 s1 n2 n3 es4 full5 false 0 0 4 (decide (((es4.length : Nat) : Int) > 0)) 0 [[pI n7, pS s8, pI n9, pI n10], [pI n11, pS s12, pI n13, pI n14], [pI n15, pS s16, pI n17, pI n18], [pI n19, pS s20, pI n21, pI n22]] (fun n150 i151 n152 es153 => k0 (List.take 4 (List.drop 0 [[pI n7, pS s8, pI n9, pI n10], [pI n11, pS s12, pI n13, pI n14], [pI n15, pS s16, pI n17, pI n18], [pI n19, pS s20, pI n21, pI n22]])) false (decide (((es4.length : Nat) : Int) > 0)) (List.take n152 (List.drop i151 es153)) false 0 n150))))) ∧ (f41 (w64 (1000 * n2)) (fun n154 s155 n156 n157 => bB (decide (n3 > 0)) (f40 (⟨#[97, 99, 107]⟩ : ByteArray) (fun n158 s159 n160 n161 => 4 = 4 ∧ 5 * 40 ≤ 2 ^ 46 ∧ 5 ≤ 2 ^ 46 ∧ f43 (fun es162 full163 => f42 0 5 n3 es162 full163 [[pI n7, pS s8, pI n9, pI n10], [pI n11, pS s12, pI n13, pI n14], [pI n15, pS s16, pI n17, pI n18], [pI n154, pS s155, pI n156, pI n157], [pI n158, pS s159, pI n160, pI n161]] (fun i164 n165 es166 => f15_p15 s1 n2 n3 es4 full5 false 0 i164 n165 (decide (((es4.length : Nat) : Int) > 0)) 0 es166 (fun n167 i168 n169 es170 => k0 (List.take n165 (List.drop i164 es166)) false (decide (((es4.length : Nat) : Int) > 0)) (List.take n169 (List.drop i168 es170)) false 0 n167))))) (f15_p15 s1 n2 n3 es4 full5 false 0 0 4 (decide (((es4.length : Nat) : Int) > 0)) 0 [[pI n7, pS s8, pI n9, pI n10], [pI n11, pS s12, pI n13, pI n14], [pI n15, pS s16, pI n17, pI n18], [pI n154, pS s155, pI n156, pI n157]] (fun n171 i172 n173 es174 => k0 (List.take 4 (List.drop 0 [[pI n7, pS s8, pI n9, pI n10], [pI n11, pS s12, pI n13, pI n14], [pI n15, pS s16, pI n17, pI n18], [pI n154, pS s155, pI n156, pI n157]])) false (decide (((es4.length : Nat) : Int) > 0)) (List.take n173 (List.drop i172 es174)) false 0 n171)))))) ∧ (f40 (⟨#[112, 114, 105, 111, 114, 105, 116, 121]⟩ : ByteArray) (fun n175 s176 n177 n178 => f41 (w64 (1000 * n2)) (fun n179 s180 n181 n182 => bB (decide (n3 > 0)) (f40 (⟨#[97, 99, 107]⟩ : ByteArray) (fun n183 s184 n185 n186 => 4 = 4 ∧ 5 * 40 ≤ 2 ^ 46 ∧ 5 ≤ 2 ^ 46 ∧ f43 (fun es187 full188 => f42 0 5 n3 es187 full188 [[pI n7, pS s8, pI n9, pI n10], [pI n11, pS s12, pI n13, pI n14], [pI n175, pS s176, pI n177, pI n178], [pI n179, pS s180, pI n181, pI n182], [pI n183, pS s184, pI n185, pI n186]] (fun i189 n190 es191 => f15_p15 s1 n2 n3 es4 full5 false 0 i189 n190 (decide (((es4.length : Nat) : Int) > 0)) 0 es191 (fun n192 i193 n194 es195 => k0 (List.take n190 (List.drop i189 es191)) false (decide (((es4.length : Nat) : Int) > 0)) (List.take n194 (List.drop i193 es195)) false 0 n192))))) (f15_p15 s1 n2 n3 es4 full5 false 0 0 4 (decide (((es4.length : Nat) : Int) > 0)) 0 [[pI n7, pS s8, pI n9, pI n10], [pI n11, pS s12, pI n13, pI n14], [pI n175, pS s176, pI n177, pI n178], [pI n179, pS s180, pI n181, pI n182]] (fun n196 i197 n198 es199 => k0 (List.take 4 (List.drop 0 [[pI n7, pS s8, pI n9, pI n10], [pI n11, pS s12, pI n13, pI n14], [pI n175, pS s176, pI n177, pI n178], [pI n179, pS s180, pI n181, pI n182]])) false (decide (((es4.length : Nat) : Int) > 0)) (List.take n198 (List.drop i197 es199)) false 0 n196))))))) ∧ (f40 s1 (fun n200 s201 n202 n203 => f40 (⟨#[112, 114, 105, 111, 114, 105, 116, 121]⟩ : ByteArray) (fun n204 s205 n206 n207 => f41 (w64 (1000 * n2)) (fun n208 s209 n210 n211 => bB (decide (n3 > 0)) (f40 (⟨#[97, 99, 107]⟩ : ByteArray) (fun n212 s213 n214 n215 => 4 = 4 ∧ 5 * 40 ≤ 2 ^ 46 ∧ 5 ≤ 2 ^ 46 ∧ f43 (fun es216 full217 => f42 0 5 n3 es216 full217 [[pI n7, pS s8, pI n9, pI n10], [pI n200, pS s201, pI n202, pI n203], [pI n204, pS s205, pI n206, pI n207], [pI n208, pS s209, pI n210, pI n211], [pI n212, pS s213, pI n214, pI n215]] (fun i218 n219 es220 => f15_p15 s1 n2 n3 es4 full5 false 0 i218 n219 (decide (((es4.length : Nat) : Int) > 0)) 0 es220 (fun n221 i222 n223 es224 => k0 (List.take n219 (List.drop i218 es220)) false (decide (((es4.length : Nat) : Int) > 0)) (List.take n223 (List.drop i222 es224)) false 0 n221))))) (f15_p15 s1 n2 n3 es4 full5 false 0 0 4 (decide (((es4.length : Nat) : Int) > 0)) 0 [[pI n7, pS s8, pI n9, pI n10], [pI n200, pS s201, pI n202, pI n203], [pI n204, pS s205, pI n206, pI n207], [pI n208, pS s209, pI n210, pI n211]] (fun n225 i226 n227 es228 => k0 (List.take 4 (List.drop 0 [[pI n7, pS s8, pI n9, pI n10], [pI n200, pS s201, pI n202, pI n203], [pI n204, pS s205, pI n206, pI n207], [pI n208, pS s209, pI n210, pI n211]])) false (decide (((es4.length : Nat) : Int) > 0)) (List.take n227 (List.drop i226 es228)) false 0 n225)))))))) ∧ (f40 (⟨#[99, 108, 97, 115, 115]⟩ : ByteArray) (fun n229 s230 n231 n232 => f40 s1 (fun n233 s234 n235 n236 => f40 (⟨#[112, 114, 105, 111, 114, 105, 116, 121]⟩ : ByteArray) (fun n237 s238 n239 n240 => f41 (w64 (1000 * n2)) (fun n241 s242 n243 n244 => bB (decide (n3 > 0)) (f40 (⟨#[97, 99, 107]⟩ : ByteArray) (fun n245 s246 n247 n248 => 4 = 4 ∧ 5 * 40 ≤ 2 ^ 46 ∧ 5 ≤ 2 ^ 46 ∧ f43 (fun es249 full250 => f42 0 5 n3 es249 full250 [[pI n229, pS s230, pI n231, pI n232], [pI n233, pS s234, pI n235, pI n236], [pI n237, pS s238, pI n239, pI n240], [pI n241, pS s242, pI n243, pI n244], [pI n245, pS s246, pI n247, pI n248]] (fun i251 n252 es253 => f15_p15 s1 n2 n3 es4 full5 false 0 i251 n252 (decide (((es4.length : Nat) : Int) > 0)) 0 es253 (fun n254 i255 n256 es257 => k0 (List.take n252 (List.drop i251 es253)) false (decide (((es4.length : Nat) : Int) > 0)) (List.take n256 (List.drop i255 es257)) false 0 n254))))) (f15_p15 s1 n2 n3 es4 full5 false 0 0 4 (decide (((es4.length : Nat) : Int) > 0)) 0 [[pI n229, pS s230, pI n231, pI n232], [pI n233, pS s234, pI n235, pI n236], [pI n237, pS s238, pI n239, pI n240], [pI n241, pS s242, pI n243, pI n244]] (fun n258 i259 n260 es261 => k0 (List.take 4 (List.drop 0 [[pI n229, pS s230, pI n231, pI n232], [pI n233, pS s234, pI n235, pI n236], [pI n237, pS s238, pI n239, pI n240], [pI n241, pS s242, pI n243, pI n244]])) false (decide (((es4.length : Nat) : Int) > 0)) (List.take n260 (List.drop i259 es261)) false 0 n258)))))))))
structure f15 (s1 : ByteArray) (n2 : Int) (n3 : Int) (es4 : List (List PC)) (full5 : Bool) (k0 : (List (List PC)) → Bool → Bool → (List (List PC)) → Bool → Int → Int → Prop) : Prop where
  run : f15_d s1 n2 n3 es4 full5 k0
noncomputable def f15_p16L : Told := fun s K => match s with
  | ⟨tm, hp⟩ => getS [.skip 1, .v (.one (.ptr 0 0 0)), .v (.one (.ptr 1 0 0)), .skip 2, .v (.one (.ptr 2 0 0)), .v (.one (.int .i64)), .skip 82] [.box [.str, .int .i64, .int .i64, .sl 5], .box [.nil 4, .bool, .nil 4, .int .i64], .box [.ref 3, .bool, .ref 4, .int .i64], .vec 4 true, .vec 4 true] tm hp fun (xx : (Unit × (Unit × (Unit × (Unit × (Unit × (Int × (Unit × Unit)))))))) (yy : ((ByteArray × (Int × (Int × ((List (List PC) × Bool) × Unit)))) × ((Unit × (Bool × (Unit × (Int × Unit)))) × (((Nat × Nat) × (Bool × ((Nat × Nat) × (Int × Unit)))) × ((List (List PC)) × ((List (List PC)) × Unit)))))) => f15_p16 yy.1.1 yy.1.2.1 yy.1.2.2.1 yy.1.2.2.2.1.1 yy.1.2.2.2.1.2 yy.2.1.2.1 yy.2.1.2.2.2.1 yy.2.2.1.1.1 yy.2.2.1.1.2 yy.2.2.1.2.1 yy.2.2.1.2.2.2.1 yy.2.2.2.1 (fun i0_0 n0_1 es0_2 => K (.exit 0) ⟨mkS 89 [(2, .w (.one (.ptr 0 0 0))), (5, .w (.one (.ptr 1 0 0)))], [.box [.p (.sl 4 [] true), .p (pB yy.2.1.2.1), .p (.sl 4 [] true), .p (pI yy.2.1.2.2.2.1)], .box [.ref 2 yy.2.2.1.1.1 yy.2.2.1.1.2, .p (pB yy.2.2.1.2.1), .ref 3 i0_0 n0_1, .p (pI yy.2.2.1.2.2.2.1)], .vec 4 yy.2.2.2.1 true, .vec 4 es0_2 true]⟩) (xx.2.2.2.2.2.1, yy.2.2.1.2.2.1.1, yy.2.2.1.2.2.1.2, yy.2.2.2.2.1)
noncomputable def f15_p15L : Told := fun s K => match s with
  | ⟨tm, hp⟩ => getS [.skip 1, .v (.one (.ptr 0 0 0)), .v (.one (.ptr 1 0 0)), .skip 2, .v (.one (.ptr 2 0 0)), .skip 83] [.box [.str, .int .i64, .int .i64, .sl 5], .box [.nil 4, .bool, .nil 4, .int .i64], .box [.ref 3, .bool, .nil 4, .int .i64], .vec 4 true] tm hp fun (xx : (Unit × (Unit × (Unit × (Unit × (Unit × (Unit × Unit))))))) (yy : ((ByteArray × (Int × (Int × ((List (List PC) × Bool) × Unit)))) × ((Unit × (Bool × (Unit × (Int × Unit)))) × (((Nat × Nat) × (Bool × (Unit × (Int × Unit)))) × ((List (List PC)) × Unit))))) => f15_p15 yy.1.1 yy.1.2.1 yy.1.2.2.1 yy.1.2.2.2.1.1 yy.1.2.2.2.1.2 yy.2.1.2.1 yy.2.1.2.2.2.1 yy.2.2.1.1.1 yy.2.2.1.1.2 yy.2.2.1.2.1 yy.2.2.1.2.2.2.1 yy.2.2.2.1 (fun n0_3 i0_4 n0_5 es0_6 => K .ret ⟨mkS 89 [(2, .w (.one (.ptr 0 0 0))), (3, I n0_3)], [.box [.ref 1 yy.2.2.1.1.1 yy.2.2.1.1.2, .p (pB yy.2.2.1.2.1), .ref 2 i0_4 n0_5, .p (pI yy.2.2.1.2.2.2.1)], .vec 4 yy.2.2.2.1 true, .vec 4 es0_6 true]⟩)
noncomputable def f15_tab : List (Nat × Told) := [(16, f15_p16L), (15, f15_p15L)]
noncomputable def f15_call : FuncId → List TV → List Entry → (TV → List Entry → Prop) → Prop := addCall 44 f44_G (addCall 43 f43_G (addCall 42 f42_G (addCall 41 f41_G (addCall 40 f40_G (addCall 17 f17_G (noCalls))))))
noncomputable def f15_C : Ctx := { ty := tyOf tab, glob := glob, byRef := byRef, keep := fun k i => lookN [] (lookN [] ([(16, [(0, [1, 2, 5, 6]), (2, [2, 3]), (3, [2, 5])]), (15, [(0, [1, 2, 5]), (1, [2, 3]), (2, [2, 3])])] : List (Nat × List (Nat × List Nat))) k) i, late := lookN [] ([] : List (Nat × List Nat)), nref := lookN [] ([] : List (Nat × List Nat)), nbox := lookN [] ([(16, [(2, 2)])] : List (Nat × List (Nat × Nat))), take := [], rnil := false, m := 0, fz := true, loops := lookL f15_tab, call := f15_call }
noncomputable def f15_p16_mk (s45 : ByteArray) (n46 : Int) (n47 : Int) (es48 : List (List PC)) (full49 : Bool) (b50 : Bool) (n51 : Int) (i52 : Nat) (n53 : Nat) (b54 : Bool) (n57 : Int) (es58 : List (List PC)) (x : Int × Nat × Nat × (List (List PC))) : St := ⟨mkS 89 [(1, .w (.one (.ptr 0 0 0))), (2, .w (.one (.ptr 1 0 0))), (5, .w (.one (.ptr 2 0 0))), (6, I x.1)], [.box [.p (pS s45), .p (pI n46), .p (pI n47), .p (.sl 5 es48 full49)], .box [.p (.sl 4 [] true), .p (pB b50), .p (.sl 4 [] true), .p (pI n51)], .box [.ref 3 i52 n53, .p (pB b54), .ref 4 x.2.1 x.2.2.1, .p (pI n57)], .vec 4 es58 true, .vec 4 x.2.2.2 true]⟩
set_option maxRecDepth 100000 in
theorem f15_p16e0 (n_30 : Int) (s_31 : ByteArray) (n_32 : Int) (n_33 : Int) (es_34 : List (List PC)) (full_35 : Bool) (b_36 : Bool) (n_37 : Int) (i_38 : Nat) (n_39 : Nat) (b_40 : Bool) (i_41 : Nat) (n_42 : Nat) (n_43 : Int) (es_44 : List (List PC)) (es_45 : List (List PC)) (N : St → Prop) (K : TExit → St → Prop) : (f15_p16b0 n_30 s_31 n_32 n_33 es_34 full_35 b_36 n_37 i_38 n_39 b_40 i_41 n_42 n_43 es_44 es_45 (fun z0 z11 z12 z15 => N (f15_p16_mk s_31 n_32 n_33 es_34 full_35 b_36 n_37 i_38 n_39 b_40 n_43 es_44 (z0, z11, z12, z15))) (fun i0_46 n0_47 es0_48 => K (.exit 0) ⟨mkS 89 [(2, .w (.one (.ptr 0 0 0))), (5, .w (.one (.ptr 1 0 0)))], [.box [.p (.sl 4 [] true), .p (pB b_36), .p (.sl 4 [] true), .p (pI n_37)], .box [.ref 2 i_38 n_39, .p (pB b_40), .ref 3 i0_46 n0_47, .p (pI n_43)], .vec 4 es_44 true, .vec 4 es0_48 true]⟩)) = execT f15_C (nthC (bodies (bodyOf Tryd.f15)) 0) (f15_p16_mk s_31 n_32 n_33 es_34 full_35 b_36 n_37 i_38 n_39 b_40 n_43 es_44 (n_30, i_41, n_42, es_45)) (loopK N (normK f15_C 16) fun e s => K e (normOut f15_C 16 e s)) := by kernel_rfl
set_option maxRecDepth 100000 in
theorem f15_p15e0 (s_49 : ByteArray) (n_50 : Int) (n_51 : Int) (es_52 : List (List PC)) (full_53 : Bool) (b_54 : Bool) (n_55 : Int) (i_56 : Nat) (n_57 : Nat) (b_58 : Bool) (n_59 : Int) (es_60 : List (List PC)) (K : TExit → St → Prop) : (f15_p15 s_49 n_50 n_51 es_52 full_53 b_54 n_55 i_56 n_57 b_58 n_59 es_60 (fun n0_61 i0_62 n0_63 es0_64 => K .ret ⟨mkS 89 [(2, .w (.one (.ptr 0 0 0))), (3, I n0_61)], [.box [.ref 1 i_56 n_57, .p (pB b_58), .ref 2 i0_62 n0_63, .p (pI n_59)], .vec 4 es_60 true, .vec 4 es0_64 true]⟩)) = execT f15_C (nthC (tails (bodyOf Tryd.f15)) 6) ⟨mkS 89 [(1, .w (.one (.ptr 0 0 0))), (2, .w (.one (.ptr 1 0 0))), (5, .w (.one (.ptr 2 0 0)))], [.box [.p (pS s_49), .p (pI n_50), .p (pI n_51), .p (.sl 5 es_52 full_53)], .box [.p (.sl 4 [] true), .p (pB b_54), .p (.sl 4 [] true), .p (pI n_55)], .box [.ref 3 i_56 n_57, .p (pB b_58), .p (.sl 4 [] true), .p (pI n_59)], .vec 4 es_60 true]⟩ (fun e s => K e (normOut f15_C 15 e s)) := by kernel_rfl
set_option maxHeartbeats 4000000 in
theorem f15_p16_ok : LoopOk f15_C (nthC (bodies (bodyOf Tryd.f15)) 0) := by
  refine LoopOk.of f15_p16L (by kernel_rfl) fun σ K h => ?_
  have hk : loopKey (nthC (bodies (bodyOf Tryd.f15)) 0) = 16 := by kernel_rfl
  rw [hk] at h ⊢
  generalize hs : normK f15_C 16 σ = s at h
  obtain ⟨tm, hp⟩ := s
  unfold f15_p16L at h
  dsimp only at h
  obtain ⟨xx, yy, rfl, rfl, h⟩ := getS_elim h
  refine iter_of (f15_p16_mk yy.1.1 yy.1.2.1 yy.1.2.2.1 yy.1.2.2.2.1.1 yy.1.2.2.2.1.2 yy.2.1.2.1 yy.2.1.2.2.2.1 yy.2.2.1.1.1 yy.2.2.1.1.2 yy.2.2.1.2.1 yy.2.2.1.2.2.2.1 yy.2.2.2.1) (fun x N h => ?_) rounds _ σ (hs.trans (by kernel_rfl)) (LoopP.run h)
  obtain ⟨y0, y1, y2, y3⟩ := x
  rw [← f15_p16e0 y0 yy.1.1 yy.1.2.1 yy.1.2.2.1 yy.1.2.2.2.1.1 yy.1.2.2.2.1.2 yy.2.1.2.1 yy.2.1.2.2.2.1 yy.2.2.1.1.1 yy.2.2.1.1.2 yy.2.2.1.2.1 y1 y2 yy.2.2.1.2.2.2.1 yy.2.2.2.1 y3 N K]
  exact h
set_option maxHeartbeats 4000000 in
theorem f15_p15_ok : TailOk f15_C (nthC (tails (bodyOf Tryd.f15)) 6) := by
  refine TailOk.of f15_p15L (by kernel_rfl) fun σ K h => ?_
  have hk : joinKey (nthC (tails (bodyOf Tryd.f15)) 6) = 15 := by kernel_rfl
  rw [hk] at h ⊢
  generalize hs : normK f15_C 15 σ = s at h
  obtain ⟨tm, hp⟩ := s
  unfold f15_p15L at h
  dsimp only at h
  obtain ⟨xx, yy, rfl, rfl, h⟩ := getS_elim h
  have q : normK f15_C 15 σ = (⟨mkS 89 [(1, .w (.one (.ptr 0 0 0))), (2, .w (.one (.ptr 1 0 0))), (5, .w (.one (.ptr 2 0 0)))], [.box [.p (pS yy.1.1), .p (pI yy.1.2.1), .p (pI yy.1.2.2.1), .p (.sl 5 yy.1.2.2.2.1.1 yy.1.2.2.2.1.2)], .box [.p (.sl 4 [] true), .p (pB yy.2.1.2.1), .p (.sl 4 [] true), .p (pI yy.2.1.2.2.2.1)], .box [.ref 3 yy.2.2.1.1.1 yy.2.2.1.1.2, .p (pB yy.2.2.1.2.1), .p (.sl 4 [] true), .p (pI yy.2.2.1.2.2.2.1)], .vec 4 yy.2.2.2.1 true]⟩ : St) := hs.trans (by kernel_rfl)
  rw [← hs, q, ← f15_p15e0 yy.1.1 yy.1.2.1 yy.1.2.2.1 yy.1.2.2.2.1.1 yy.1.2.2.2.1.2 yy.2.1.2.1 yy.2.1.2.2.2.1 yy.2.2.1.1.1 yy.2.2.1.1.2 yy.2.2.1.2.1 yy.2.2.1.2.2.2.1 yy.2.2.2.1 K]
  exact h
noncomputable def f15_G0 : List TV → List Entry → (TV → List Entry → Prop) → Prop := fun tm hp K => getS [.v (.pagg [.str, .int .i64, .int .i64, .sl 5])] [] tm hp fun (xx : ((ByteArray × (Int × (Int × ((List (List PC) × Bool) × Unit)))) × Unit)) (yy : Unit) => f15 xx.1.1 xx.1.2.1 xx.1.2.2.1 xx.1.2.2.2.1.1 xx.1.2.2.2.1.2 (fun es0_7 full0_8 b0_9 es0_10 full0_11 n0_12 n0_13 => K (.tup [.pagg [.sl 4 es0_7 full0_8, pB b0_9, .sl 4 es0_10 full0_11, pI n0_12], .one (.p (pI n0_13))]) [])
set_option maxRecDepth 100000 in
theorem f15_eq (s_65 : ByteArray) (n_66 : Int) (n_67 : Int) (es_68 : List (List PC)) (full_69 : Bool) (K : TV → List Entry → Prop) : (f15_d s_65 n_66 n_67 es_68 full_69 (fun es0_7 full0_8 b0_9 es0_10 full0_11 n0_12 n0_13 => K (.tup [.pagg [.sl 4 es0_7 full0_8, pB b0_9, .sl 4 es0_10 full0_11, pI n0_12], .one (.p (pI n0_13))]) [])) = funcT f15_C Tryd.f15 [.w (.pagg [pS s_65, pI n_66, pI n_67, .sl 5 es_68 full_69])] [] K := by kernel_rfl
set_option maxHeartbeats 4000000 in
theorem f15_ok0 : FnOk Tryd.prog glob 15 f15_G0 := by
  refine FnOk.of_text (C := f15_C) tab_ok.ok (Known.add f44_G_ok (Known.add f43_G_ok (Known.add f42_G_ok (Known.add f41_G_ok (Known.add f40_G_ok (Known.add f17_G_ok (Known.none))))))) follows_ok (fn := Tryd.f15) (by kernel_rfl) (by kernel_rfl) (by kernel_rfl) (fun c hc => ?_) fun tm hp K h => ?_
  · have e : c = bodyOf Tryd.f15 := Option.some.inj (hc.symm.trans (by kernel_rfl))
    subst e
    exact ⟨LoopsOk.of [nthC (bodies (bodyOf Tryd.f15)) 0] (by kernel_rfl) ⟨f15_p16_ok, trivial⟩, TailsOk.of (tab := f15_tab) rfl [nthC (tails (bodyOf Tryd.f15)) 6] (by kernel_rfl) ⟨f15_p15_ok, trivial⟩⟩
  · unfold f15_G0 at h
    obtain ⟨xx, yy, rfl, rfl, h⟩ := getS_elim h
    have e := (f15_eq xx.1.1 xx.1.2.1 xx.1.2.2.1 xx.1.2.2.2.1.1 xx.1.2.2.2.1.2 K).trans (show _ = funcT f15_C Tryd.f15 (mkR _ xx) (mkE _ yy) K by kernel_rfl)
    rw [← e]
    exact h.run
noncomputable abbrev f15_G := f15_G0
theorem f15_G_ok : FnOk Tryd.prog glob 15 f15_G := f15_ok0
end Go.Eng.N
set_option linter.unusedVariables false
set_option maxRecDepth 100000
open Go Go.Eng Go.Proofs
namespace Go.Eng.N
/-! ### f18: plenum/plenumref11.SameLine -/
noncomputable abbrev f18_T : Type := (List (List PC)) → Bool → Bool → (List (List PC)) → Bool → Int → (List (List PC)) → Bool → Bool → (List (List PC)) → Bool → Int → (Bool → Prop) → Prop
noncomputable def f18_p8b0 (R : f18_T) (n25 : Int) (es26 : List (List PC)) (full27 : Bool) (b28 : Bool) (es29 : List (List PC)) (full30 : Bool) (n31 : Int) (es32 : List (List PC)) (full33 : Bool) (b34 : Bool) (es35 : List (List PC)) (full36 : Bool) (n37 : Int) (N0 : Int → Prop) (k0 : Bool → Prop) (k1 : Unit → Prop) : Prop := bB (decide (n25 < ((es26.length : Nat) : Int))) ((0 ≤ n25 ∧ n25 < ((es26.length : Nat) : Int)) ∧ cI .i64 (ext (List.getD es26 (Int.toNat n25) []) 0 4) fun n39 r38 => cS r38 fun s41 r40 => cI .i64 r40 fun n43 r42 => cI .i64 r42 fun n45 r44 => nilC r44 <| (0 ≤ n25 ∧ n25 < ((es32.length : Nat) : Int)) ∧ cI .i64 (ext (List.getD es32 (Int.toNat n25) []) 0 4) fun n47 r46 => cS r46 fun s49 r48 => cI .i64 r48 fun n51 r50 => cI .i64 r50 fun n53 r52 => nilC r52 <| bB (!((n39 == n47) && ((s41 == s49) && ((n43 == n51) && ((n45 == n53) && true))))) (k0 false) (N0 (w64 (n25 + 1)))) (k1 ())
noncomputable def f18_p8 (R : f18_T) (es26 : List (List PC)) (full27 : Bool) (b28 : Bool) (es29 : List (List PC)) (full30 : Bool) (n31 : Int) (es32 : List (List PC)) (full33 : Bool) (b34 : Bool) (es35 : List (List PC)) (full36 : Bool) (n37 : Int) (k0 : Bool → Prop) (k1 : Unit → Prop) : Int → Prop := LoopP fun x N => (f18_p8b0 R) x es26 full27 b28 es29 full30 n31 es32 full33 b34 es35 full36 n37 (fun n25 => N n25) k0 k1
noncomputable def f18_p18b0 (R : f18_T) (n55 : Int) (es56 : List (List PC)) (full57 : Bool) (b58 : Bool) (es59 : List (List PC)) (full60 : Bool) (n61 : Int) (es62 : List (List PC)) (full63 : Bool) (b64 : Bool) (es65 : List (List PC)) (full66 : Bool) (n67 : Int) (N0 : Int → Prop) (k0 : Bool → Prop) (k1 : Unit → Prop) : Prop := bB (decide (n55 < ((es59.length : Nat) : Int))) ((0 ≤ n55 ∧ n55 < ((es59.length : Nat) : Int)) ∧ cL 4 (ext (List.getD es59 (Int.toNat n55) []) 0 4) fun es69 full70 r68 => cB r68 fun b72 r71 => cL 4 r71 fun es74 full75 r73 => cI .i64 r73 fun n77 r76 => nilC r76 <| (0 ≤ n55 ∧ n55 < ((es65.length : Nat) : Int)) ∧ cL 4 (ext (List.getD es65 (Int.toNat n55) []) 0 4) fun es79 full80 r78 => cB r78 fun b82 r81 => cL 4 r81 fun es84 full85 r83 => cI .i64 r83 fun n87 r86 => nilC r86 <| R es69 full70 b72 es74 full75 n77 es79 full80 b82 es84 full85 n87 (fun b88 => bB (!b88) (k0 false) (N0 (w64 (n55 + 1))))) (k1 ())
noncomputable def f18_p18 (R : f18_T) (es56 : List (List PC)) (full57 : Bool) (b58 : Bool) (es59 : List (List PC)) (full60 : Bool) (n61 : Int) (es62 : List (List PC)) (full63 : Bool) (b64 : Bool) (es65 : List (List PC)) (full66 : Bool) (n67 : Int) (k0 : Bool → Prop) (k1 : Unit → Prop) : Int → Prop := LoopP fun x N => (f18_p18b0 R) x es56 full57 b58 es59 full60 n61 es62 full63 b64 es65 full66 n67 (fun n55 => N n55) k0 k1
noncomputable def f18_p7 (R : f18_T) (es13 : List (List PC)) (full14 : Bool) (b15 : Bool) (es16 : List (List PC)) (full17 : Bool) (n18 : Int) (es19 : List (List PC)) (full20 : Bool) (b21 : Bool) (es22 : List (List PC)) (full23 : Bool) (n24 : Int) (k0 : Bool → Prop) : Prop := (f18_p8 R) es13 full14 b15 es16 full17 n18 es19 full20 b21 es22 full23 n24 (fun b54 => k0 b54) (fun (_ : Unit) => (f18_p18 R) es13 full14 b15 es16 full17 n18 es19 full20 b21 es22 full23 n24 (fun b89 => k0 b89) (fun (_ : Unit) => k0 true) 0) 0
noncomputable def f18_d (R : f18_T) (es1 : List (List PC)) (full2 : Bool) (b3 : Bool) (es4 : List (List PC)) (full5 : Bool) (n6 : Int) (es7 : List (List PC)) (full8 : Bool) (b9 : Bool) (es10 : List (List PC)) (full11 : Bool) (n12 : Int) (k0 : Bool → Prop) : Prop := bB (!(b3 == b9)) (k0 false) (bB (n6 != n12) (k0 false) (bB (((es1.length : Nat) : Int) != ((es7.length : Nat) : Int)) (k0 false) (bB (((es4.length : Nat) : Int) != ((es10.length : Nat) : Int)) (k0 false) ((f18_p7 R) es1 full2 b3 es4 full5 n6 es7 full8 b9 es10 full11 n12 (fun b90 => k0 b90)))))
noncomputable def f18_n : Nat → f18_T := fun n => Nat.rec (motive := fun _ => f18_T) (fun _ _ _ _ _ _ _ _ _ _ _ _ _ => False) (fun _ ih => f18_d ih) n
structure f18 (es1 : List (List PC)) (full2 : Bool) (b3 : Bool) (es4 : List (List PC)) (full5 : Bool) (n6 : Int) (es7 : List (List PC)) (full8 : Bool) (b9 : Bool) (es10 : List (List PC)) (full11 : Bool) (n12 : Int) (k0 : Bool → Prop) : Prop where
  run : ∃ n, f18_n n es1 full2 b3 es4 full5 n6 es7 full8 b9 es10 full11 n12 k0
noncomputable def f18_p8L (R : f18_T) : Told := fun s K => match s with
  | ⟨tm, hp⟩ => getS [.skip 2, .v (.one (.ptr 0 0 0)), .v (.one (.ptr 1 0 0)), .skip 1, .v (.one (.int .i64)), .skip 68] [.box [.sl 4, .bool, .sl 4, .int .i64], .box [.sl 4, .bool, .sl 4, .int .i64]] tm hp fun (xx : (Unit × (Unit × (Unit × (Unit × (Int × (Unit × Unit))))))) (yy : (((List (List PC) × Bool) × (Bool × ((List (List PC) × Bool) × (Int × Unit)))) × (((List (List PC) × Bool) × (Bool × ((List (List PC) × Bool) × (Int × Unit)))) × Unit))) => (f18_p8 R) yy.1.1.1 yy.1.1.2 yy.1.2.1 yy.1.2.2.1.1 yy.1.2.2.1.2 yy.1.2.2.2.1 yy.2.1.1.1 yy.2.1.1.2 yy.2.1.2.1 yy.2.1.2.2.1.1 yy.2.1.2.2.1.2 yy.2.1.2.2.2.1 (fun b0_0 => K .ret ⟨mkS 74 [(4, B b0_0)], []⟩) (fun (_ : Unit) => K (.exit 0) ⟨mkS 74 [(2, .w (.one (.ptr 0 0 0))), (3, .w (.one (.ptr 1 0 0)))], [.box [.p (.sl 4 yy.1.1.1 yy.1.1.2), .p (pB yy.1.2.1), .p (.sl 4 yy.1.2.2.1.1 yy.1.2.2.1.2), .p (pI yy.1.2.2.2.1)], .box [.p (.sl 4 yy.2.1.1.1 yy.2.1.1.2), .p (pB yy.2.1.2.1), .p (.sl 4 yy.2.1.2.2.1.1 yy.2.1.2.2.1.2), .p (pI yy.2.1.2.2.2.1)]]⟩) xx.2.2.2.2.1
noncomputable def f18_p18L (R : f18_T) : Told := fun s K => match s with
  | ⟨tm, hp⟩ => getS [.skip 2, .v (.one (.ptr 0 0 0)), .v (.one (.ptr 1 0 0)), .skip 2, .v (.one (.int .i64)), .skip 67] [.box [.sl 4, .bool, .sl 4, .int .i64], .box [.sl 4, .bool, .sl 4, .int .i64]] tm hp fun (xx : (Unit × (Unit × (Unit × (Unit × (Int × (Unit × Unit))))))) (yy : (((List (List PC) × Bool) × (Bool × ((List (List PC) × Bool) × (Int × Unit)))) × (((List (List PC) × Bool) × (Bool × ((List (List PC) × Bool) × (Int × Unit)))) × Unit))) => (f18_p18 R) yy.1.1.1 yy.1.1.2 yy.1.2.1 yy.1.2.2.1.1 yy.1.2.2.1.2 yy.1.2.2.2.1 yy.2.1.1.1 yy.2.1.1.2 yy.2.1.2.1 yy.2.1.2.2.1.1 yy.2.1.2.2.1.2 yy.2.1.2.2.2.1 (fun b0_1 => K .ret ⟨mkS 74 [(4, B b0_1)], []⟩) (fun (_ : Unit) => K (.exit 2) ⟨mkS 74 [], []⟩) xx.2.2.2.2.1
noncomputable def f18_p7L (R : f18_T) : Told := fun s K => match s with
  | ⟨tm, hp⟩ => getS [.skip 2, .v (.one (.ptr 0 0 0)), .v (.one (.ptr 1 0 0)), .skip 70] [.box [.sl 4, .bool, .sl 4, .int .i64], .box [.sl 4, .bool, .sl 4, .int .i64]] tm hp fun (xx : (Unit × (Unit × (Unit × (Unit × Unit))))) (yy : (((List (List PC) × Bool) × (Bool × ((List (List PC) × Bool) × (Int × Unit)))) × (((List (List PC) × Bool) × (Bool × ((List (List PC) × Bool) × (Int × Unit)))) × Unit))) => (f18_p7 R) yy.1.1.1 yy.1.1.2 yy.1.2.1 yy.1.2.2.1.1 yy.1.2.2.1.2 yy.1.2.2.2.1 yy.2.1.1.1 yy.2.1.1.2 yy.2.1.2.1 yy.2.1.2.2.1.1 yy.2.1.2.2.1.2 yy.2.1.2.2.2.1 (fun b0_2 => K .ret ⟨mkS 74 [(4, B b0_2)], []⟩)
noncomputable def f18_tab (R : f18_T) : List (Nat × Told) := [(8, (f18_p8L R)), (18, (f18_p18L R)), (7, (f18_p7L R))]
noncomputable def f18_GR (R : f18_T) : List TV → List Entry → (TV → List Entry → Prop) → Prop := fun tm hp K => getS [.v (.pagg [.sl 4, .bool, .sl 4, .int .i64]), .v (.pagg [.sl 4, .bool, .sl 4, .int .i64])] [] tm hp fun (xx : (((List (List PC) × Bool) × (Bool × ((List (List PC) × Bool) × (Int × Unit)))) × (((List (List PC) × Bool) × (Bool × ((List (List PC) × Bool) × (Int × Unit)))) × Unit))) (yy : Unit) => R xx.1.1.1 xx.1.1.2 xx.1.2.1 xx.1.2.2.1.1 xx.1.2.2.1.2 xx.1.2.2.2.1 xx.2.1.1.1 xx.2.1.1.2 xx.2.1.2.1 xx.2.1.2.2.1.1 xx.2.1.2.2.1.2 xx.2.1.2.2.2.1 (fun b0_3 => K (B b0_3) [])
noncomputable def f18_call (R : f18_T) : FuncId → List TV → List Entry → (TV → List Entry → Prop) → Prop := addCall 18 (f18_GR R) (noCalls)
noncomputable def f18_C (R : f18_T) : Ctx := { ty := tyOf tab, glob := glob, byRef := byRef, keep := fun k i => lookN [] (lookN [] ([(8, [(0, [2, 3, 5]), (2, [4]), (3, [2, 3])]), (18, [(0, [2, 3, 6]), (2, [4]), (5, [])]), (7, [(0, [2, 3]), (1, [4]), (2, [4])])] : List (Nat × List (Nat × List Nat))) k) i, late := lookN [] ([] : List (Nat × List Nat)), nref := lookN [] ([] : List (Nat × List Nat)), nbox := lookN [] ([] : List (Nat × List (Nat × Nat))), take := [], rnil := false, m := 0, fz := true, loops := lookL (f18_tab R), call := (f18_call R) }
noncomputable def f18_p8_mk (es26 : List (List PC)) (full27 : Bool) (b28 : Bool) (es29 : List (List PC)) (full30 : Bool) (n31 : Int) (es32 : List (List PC)) (full33 : Bool) (b34 : Bool) (es35 : List (List PC)) (full36 : Bool) (n37 : Int) (x : Int) : St := ⟨mkS 74 [(2, .w (.one (.ptr 0 0 0))), (3, .w (.one (.ptr 1 0 0))), (5, I x)], [.box [.p (.sl 4 es26 full27), .p (pB b28), .p (.sl 4 es29 full30), .p (pI n31)], .box [.p (.sl 4 es32 full33), .p (pB b34), .p (.sl 4 es35 full36), .p (pI n37)]]⟩
set_option maxRecDepth 100000 in
theorem f18_p8e0 (R : f18_T) (n_17 : Int) (es_18 : List (List PC)) (full_19 : Bool) (b_20 : Bool) (es_21 : List (List PC)) (full_22 : Bool) (n_23 : Int) (es_24 : List (List PC)) (full_25 : Bool) (b_26 : Bool) (es_27 : List (List PC)) (full_28 : Bool) (n_29 : Int) (N : St → Prop) (K : TExit → St → Prop) : ((f18_p8b0 R) n_17 es_18 full_19 b_20 es_21 full_22 n_23 es_24 full_25 b_26 es_27 full_28 n_29 (fun z0 => N (f18_p8_mk es_18 full_19 b_20 es_21 full_22 n_23 es_24 full_25 b_26 es_27 full_28 n_29 z0)) (fun b0_30 => K .ret ⟨mkS 74 [(4, B b0_30)], []⟩) (fun (_ : Unit) => K (.exit 0) ⟨mkS 74 [(2, .w (.one (.ptr 0 0 0))), (3, .w (.one (.ptr 1 0 0)))], [.box [.p (.sl 4 es_18 full_19), .p (pB b_20), .p (.sl 4 es_21 full_22), .p (pI n_23)], .box [.p (.sl 4 es_24 full_25), .p (pB b_26), .p (.sl 4 es_27 full_28), .p (pI n_29)]]⟩)) = execT (f18_C R) (nthC (bodies (bodyOf Tryd.f18)) 0) (f18_p8_mk es_18 full_19 b_20 es_21 full_22 n_23 es_24 full_25 b_26 es_27 full_28 n_29 n_17) (loopK N (normK (f18_C R) 8) fun e s => K e (normOut (f18_C R) 8 e s)) := by kernel_rfl
noncomputable def f18_p18_mk (es56 : List (List PC)) (full57 : Bool) (b58 : Bool) (es59 : List (List PC)) (full60 : Bool) (n61 : Int) (es62 : List (List PC)) (full63 : Bool) (b64 : Bool) (es65 : List (List PC)) (full66 : Bool) (n67 : Int) (x : Int) : St := ⟨mkS 74 [(2, .w (.one (.ptr 0 0 0))), (3, .w (.one (.ptr 1 0 0))), (6, I x)], [.box [.p (.sl 4 es56 full57), .p (pB b58), .p (.sl 4 es59 full60), .p (pI n61)], .box [.p (.sl 4 es62 full63), .p (pB b64), .p (.sl 4 es65 full66), .p (pI n67)]]⟩
set_option maxRecDepth 100000 in
theorem f18_p18e0 (R : f18_T) (n_44 : Int) (es_45 : List (List PC)) (full_46 : Bool) (b_47 : Bool) (es_48 : List (List PC)) (full_49 : Bool) (n_50 : Int) (es_51 : List (List PC)) (full_52 : Bool) (b_53 : Bool) (es_54 : List (List PC)) (full_55 : Bool) (n_56 : Int) (N : St → Prop) (K : TExit → St → Prop) : ((f18_p18b0 R) n_44 es_45 full_46 b_47 es_48 full_49 n_50 es_51 full_52 b_53 es_54 full_55 n_56 (fun z0 => N (f18_p18_mk es_45 full_46 b_47 es_48 full_49 n_50 es_51 full_52 b_53 es_54 full_55 n_56 z0)) (fun b0_57 => K .ret ⟨mkS 74 [(4, B b0_57)], []⟩) (fun (_ : Unit) => K (.exit 2) ⟨mkS 74 [], []⟩)) = execT (f18_C R) (nthC (bodies (bodyOf Tryd.f18)) 1) (f18_p18_mk es_45 full_46 b_47 es_48 full_49 n_50 es_51 full_52 b_53 es_54 full_55 n_56 n_44) (loopK N (normK (f18_C R) 18) fun e s => K e (normOut (f18_C R) 18 e s)) := by kernel_rfl
set_option maxRecDepth 100000 in
theorem f18_p7e0 (R : f18_T) (es_58 : List (List PC)) (full_59 : Bool) (b_60 : Bool) (es_61 : List (List PC)) (full_62 : Bool) (n_63 : Int) (es_64 : List (List PC)) (full_65 : Bool) (b_66 : Bool) (es_67 : List (List PC)) (full_68 : Bool) (n_69 : Int) (K : TExit → St → Prop) : ((f18_p7 R) es_58 full_59 b_60 es_61 full_62 n_63 es_64 full_65 b_66 es_67 full_68 n_69 (fun b0_70 => K .ret ⟨mkS 74 [(4, B b0_70)], []⟩)) = execT (f18_C R) (nthC (tails (bodyOf Tryd.f18)) 1) ⟨mkS 74 [(2, .w (.one (.ptr 0 0 0))), (3, .w (.one (.ptr 1 0 0)))], [.box [.p (.sl 4 es_58 full_59), .p (pB b_60), .p (.sl 4 es_61 full_62), .p (pI n_63)], .box [.p (.sl 4 es_64 full_65), .p (pB b_66), .p (.sl 4 es_67 full_68), .p (pI n_69)]]⟩ (fun e s => K e (normOut (f18_C R) 7 e s)) := by kernel_rfl
set_option maxHeartbeats 4000000 in
theorem f18_p8_ok (R : f18_T) : LoopOk (f18_C R) (nthC (bodies (bodyOf Tryd.f18)) 0) := by
  refine LoopOk.of (f18_p8L R) (by kernel_rfl) fun σ K h => ?_
  have hk : loopKey (nthC (bodies (bodyOf Tryd.f18)) 0) = 8 := by kernel_rfl
  rw [hk] at h ⊢
  generalize hs : normK (f18_C R) 8 σ = s at h
  obtain ⟨tm, hp⟩ := s
  unfold f18_p8L at h
  dsimp only at h
  obtain ⟨xx, yy, rfl, rfl, h⟩ := getS_elim h
  refine iter_of (f18_p8_mk yy.1.1.1 yy.1.1.2 yy.1.2.1 yy.1.2.2.1.1 yy.1.2.2.1.2 yy.1.2.2.2.1 yy.2.1.1.1 yy.2.1.1.2 yy.2.1.2.1 yy.2.1.2.2.1.1 yy.2.1.2.2.1.2 yy.2.1.2.2.2.1) (fun x N h => ?_) rounds _ σ (hs.trans (by kernel_rfl)) (LoopP.run h)
  rw [← (f18_p8e0 R) x yy.1.1.1 yy.1.1.2 yy.1.2.1 yy.1.2.2.1.1 yy.1.2.2.1.2 yy.1.2.2.2.1 yy.2.1.1.1 yy.2.1.1.2 yy.2.1.2.1 yy.2.1.2.2.1.1 yy.2.1.2.2.1.2 yy.2.1.2.2.2.1 N K]
  exact h
set_option maxHeartbeats 4000000 in
theorem f18_p18_ok (R : f18_T) : LoopOk (f18_C R) (nthC (bodies (bodyOf Tryd.f18)) 1) := by
  refine LoopOk.of (f18_p18L R) (by kernel_rfl) fun σ K h => ?_
  have hk : loopKey (nthC (bodies (bodyOf Tryd.f18)) 1) = 18 := by kernel_rfl
  rw [hk] at h ⊢
  generalize hs : normK (f18_C R) 18 σ = s at h
  obtain ⟨tm, hp⟩ := s
  unfold f18_p18L at h
  dsimp only at h
  obtain ⟨xx, yy, rfl, rfl, h⟩ := getS_elim h
  refine iter_of (f18_p18_mk yy.1.1.1 yy.1.1.2 yy.1.2.1 yy.1.2.2.1.1 yy.1.2.2.1.2 yy.1.2.2.2.1 yy.2.1.1.1 yy.2.1.1.2 yy.2.1.2.1 yy.2.1.2.2.1.1 yy.2.1.2.2.1.2 yy.2.1.2.2.2.1) (fun x N h => ?_) rounds _ σ (hs.trans (by kernel_rfl)) (LoopP.run h)
  rw [← (f18_p18e0 R) x yy.1.1.1 yy.1.1.2 yy.1.2.1 yy.1.2.2.1.1 yy.1.2.2.1.2 yy.1.2.2.2.1 yy.2.1.1.1 yy.2.1.1.2 yy.2.1.2.1 yy.2.1.2.2.1.1 yy.2.1.2.2.1.2 yy.2.1.2.2.2.1 N K]
  exact h
set_option maxHeartbeats 4000000 in
theorem f18_p7_ok (R : f18_T) : TailOk (f18_C R) (nthC (tails (bodyOf Tryd.f18)) 1) := by
  refine TailOk.of (f18_p7L R) (by kernel_rfl) fun σ K h => ?_
  have hk : joinKey (nthC (tails (bodyOf Tryd.f18)) 1) = 7 := by kernel_rfl
  rw [hk] at h ⊢
  generalize hs : normK (f18_C R) 7 σ = s at h
  obtain ⟨tm, hp⟩ := s
  unfold f18_p7L at h
  dsimp only at h
  obtain ⟨xx, yy, rfl, rfl, h⟩ := getS_elim h
  have q : normK (f18_C R) 7 σ = (⟨mkS 74 [(2, .w (.one (.ptr 0 0 0))), (3, .w (.one (.ptr 1 0 0)))], [.box [.p (.sl 4 yy.1.1.1 yy.1.1.2), .p (pB yy.1.2.1), .p (.sl 4 yy.1.2.2.1.1 yy.1.2.2.1.2), .p (pI yy.1.2.2.2.1)], .box [.p (.sl 4 yy.2.1.1.1 yy.2.1.1.2), .p (pB yy.2.1.2.1), .p (.sl 4 yy.2.1.2.2.1.1 yy.2.1.2.2.1.2), .p (pI yy.2.1.2.2.2.1)]]⟩ : St) := hs.trans (by kernel_rfl)
  rw [← hs, q, ← (f18_p7e0 R) yy.1.1.1 yy.1.1.2 yy.1.2.1 yy.1.2.2.1.1 yy.1.2.2.1.2 yy.1.2.2.2.1 yy.2.1.1.1 yy.2.1.1.2 yy.2.1.2.1 yy.2.1.2.2.1.1 yy.2.1.2.2.1.2 yy.2.1.2.2.2.1 K]
  exact h
noncomputable def f18_G0 : List TV → List Entry → (TV → List Entry → Prop) → Prop := fun tm hp K => getS [.v (.pagg [.sl 4, .bool, .sl 4, .int .i64]), .v (.pagg [.sl 4, .bool, .sl 4, .int .i64])] [] tm hp fun (xx : (((List (List PC) × Bool) × (Bool × ((List (List PC) × Bool) × (Int × Unit)))) × (((List (List PC) × Bool) × (Bool × ((List (List PC) × Bool) × (Int × Unit)))) × Unit))) (yy : Unit) => f18 xx.1.1.1 xx.1.1.2 xx.1.2.1 xx.1.2.2.1.1 xx.1.2.2.1.2 xx.1.2.2.2.1 xx.2.1.1.1 xx.2.1.1.2 xx.2.1.2.1 xx.2.1.2.2.1.1 xx.2.1.2.2.1.2 xx.2.1.2.2.2.1 (fun b0_3 => K (B b0_3) [])
set_option maxRecDepth 100000 in
theorem f18_eq (R : f18_T) (es_71 : List (List PC)) (full_72 : Bool) (b_73 : Bool) (es_74 : List (List PC)) (full_75 : Bool) (n_76 : Int) (es_77 : List (List PC)) (full_78 : Bool) (b_79 : Bool) (es_80 : List (List PC)) (full_81 : Bool) (n_82 : Int) (K : TV → List Entry → Prop) : ((f18_d R) es_71 full_72 b_73 es_74 full_75 n_76 es_77 full_78 b_79 es_80 full_81 n_82 (fun b0_3 => K (B b0_3) [])) = funcT (f18_C R) Tryd.f18 [.w (.pagg [.sl 4 es_71 full_72, pB b_73, .sl 4 es_74 full_75, pI n_76]), .w (.pagg [.sl 4 es_77 full_78, pB b_79, .sl 4 es_80 full_81, pI n_82])] [] K := by kernel_rfl
set_option maxHeartbeats 4000000 in
theorem f18_step (R : f18_T) (hR : FnOk Tryd.prog glob 18 (f18_GR R)) : FnOk Tryd.prog glob 18 (f18_GR (f18_d R)) := by
  refine FnOk.of_text (C := (f18_C R)) tab_ok.ok (Known.add hR (Known.none)) follows_ok (fn := Tryd.f18) (by kernel_rfl) (by kernel_rfl) (by kernel_rfl) (fun c hc => ?_) fun tm hp K h => ?_
  · have e : c = bodyOf Tryd.f18 := Option.some.inj (hc.symm.trans (by kernel_rfl))
    subst e
    exact ⟨LoopsOk.of [nthC (bodies (bodyOf Tryd.f18)) 0, nthC (bodies (bodyOf Tryd.f18)) 1] (by kernel_rfl) ⟨(f18_p8_ok R), (f18_p18_ok R), trivial⟩, TailsOk.of (tab := (f18_tab R)) rfl [nthC (tails (bodyOf Tryd.f18)) 1] (by kernel_rfl) ⟨(f18_p7_ok R), trivial⟩⟩
  · unfold f18_GR at h
    obtain ⟨xx, yy, rfl, rfl, h⟩ := getS_elim h
    have e := (f18_eq R xx.1.1.1 xx.1.1.2 xx.1.2.1 xx.1.2.2.1.1 xx.1.2.2.1.2 xx.1.2.2.2.1 xx.2.1.1.1 xx.2.1.1.2 xx.2.1.2.1 xx.2.1.2.2.1.1 xx.2.1.2.2.1.2 xx.2.1.2.2.2.1 K).trans (show _ = funcT (f18_C R) Tryd.f18 (mkR _ xx) (mkE _ yy) K by kernel_rfl)
    rw [← e]
    exact h
theorem f18_ok_n : ∀ n, FnOk Tryd.prog glob 18 (f18_GR (f18_n n))
  | 0 => fun tm hp K h => by
    unfold f18_GR at h
    obtain ⟨xx, yy, rfl, rfl, h⟩ := getS_elim h
    exact False.elim h
  | n + 1 => f18_step _ (f18_ok_n n)
theorem f18_ok0 : FnOk Tryd.prog glob 18 f18_G0 := fun tm hp K h => by
  unfold f18_G0 at h
  obtain ⟨xx, yy, rfl, rfl, h⟩ := getS_elim h
  obtain ⟨n, h⟩ := h.run
  have e : f18_GR (f18_n n) (mkR _ xx) (mkE _ yy) K = f18_n n xx.1.1.1 xx.1.1.2 xx.1.2.1 xx.1.2.2.1.1 xx.1.2.2.1.2 xx.1.2.2.2.1 xx.2.1.1.1 xx.2.1.1.2 xx.2.1.2.1 xx.2.1.2.2.1.1 xx.2.1.2.2.1.2 xx.2.1.2.2.2.1 (fun b0_3 => K (B b0_3) []) := by kernel_rfl
  refine f18_ok_n n _ _ _ ?_
  rw [e]
  exact h
noncomputable abbrev f18_G := f18_G0
theorem f18_G_ok : FnOk Tryd.prog glob 18 f18_G := f18_ok0
end Go.Eng.N
set_option linter.unusedVariables false
set_option maxRecDepth 100000
open Go Go.Eng Go.Proofs
namespace Go.Eng.N
/-! ### f3: plenum/plenumlaw39.NotifyChecks -/
noncomputable def f3_d (s1 : ByteArray) (n2 : Int) (n3 : Int) (es4 : List (List PC)) (full5 : Bool) (k0 : Bool → Prop) : Prop := f12 (fun b6 => bB (!b6) (k0 false) (f13 s1 n2 n3 es4 full5 (fun b7 => bB (!b7) (k0 true) (f14 s1 n2 n3 es4 full5 (fun es8 full9 b10 es11 full12 n13 n14 => f15 s1 n2 n3 es4 full5 (fun es15 full16 b17 es18 full19 n20 n21 => f16 s1 n2 n3 es4 full5 (fun n22 => f17 s1 n2 n3 es4 full5 (fun n23 => bB (n22 == n23) (bB (n14 == n21) (f18 es8 full9 b10 es11 full12 n13 es15 full16 b17 es18 full19 n20 (fun b24 => k0 b24)) (k0 false)) (k0 false)))))))))
structure f3 (s1 : ByteArray) (n2 : Int) (n3 : Int) (es4 : List (List PC)) (full5 : Bool) (k0 : Bool → Prop) : Prop where
  run : f3_d s1 n2 n3 es4 full5 k0
noncomputable def f3_tab : List (Nat × Told) := []
noncomputable def f3_call : FuncId → List TV → List Entry → (TV → List Entry → Prop) → Prop := addCall 18 f18_G (addCall 17 f17_G (addCall 16 f16_G (addCall 15 f15_G (addCall 14 f14_G (addCall 13 f13_G (addCall 12 f12_G (noCalls)))))))
noncomputable def f3_C : Ctx := { ty := tyOf tab, glob := glob, byRef := byRef, keep := fun k i => lookN [] (lookN [] ([] : List (Nat × List (Nat × List Nat))) k) i, late := lookN [] ([] : List (Nat × List Nat)), nref := lookN [] ([] : List (Nat × List Nat)), nbox := lookN [] ([] : List (Nat × List (Nat × Nat))), take := [], rnil := false, m := 0, fz := true, loops := lookL f3_tab, call := f3_call }
noncomputable def f3_G0 : List TV → List Entry → (TV → List Entry → Prop) → Prop := fun tm hp K => getS [.v (.pagg [.str, .int .i64, .int .i64, .sl 5])] [] tm hp fun (xx : ((ByteArray × (Int × (Int × ((List (List PC) × Bool) × Unit)))) × Unit)) (yy : Unit) => f3 xx.1.1 xx.1.2.1 xx.1.2.2.1 xx.1.2.2.2.1.1 xx.1.2.2.2.1.2 (fun b0_0 => K (B b0_0) [])
set_option maxRecDepth 100000 in
theorem f3_eq (s_1 : ByteArray) (n_2 : Int) (n_3 : Int) (es_4 : List (List PC)) (full_5 : Bool) (K : TV → List Entry → Prop) : (f3_d s_1 n_2 n_3 es_4 full_5 (fun b0_0 => K (B b0_0) [])) = funcT f3_C Tryd.f3 [.w (.pagg [pS s_1, pI n_2, pI n_3, .sl 5 es_4 full_5])] [] K := by kernel_rfl
set_option maxHeartbeats 4000000 in
theorem f3_ok0 : FnOk Tryd.prog glob 3 f3_G0 := by
  refine FnOk.of_text (C := f3_C) tab_ok.ok (Known.add f18_G_ok (Known.add f17_G_ok (Known.add f16_G_ok (Known.add f15_G_ok (Known.add f14_G_ok (Known.add f13_G_ok (Known.add f12_G_ok (Known.none)))))))) follows_ok (fn := Tryd.f3) (by kernel_rfl) (by kernel_rfl) (by kernel_rfl) (fun c hc => ?_) fun tm hp K h => ?_
  · have e : c = bodyOf Tryd.f3 := Option.some.inj (hc.symm.trans (by kernel_rfl))
    subst e
    exact ⟨LoopsOk.of [] (by kernel_rfl) trivial, TailsOk.of (tab := f3_tab) rfl [] (by kernel_rfl) trivial⟩
  · unfold f3_G0 at h
    obtain ⟨xx, yy, rfl, rfl, h⟩ := getS_elim h
    have e := (f3_eq xx.1.1 xx.1.2.1 xx.1.2.2.1 xx.1.2.2.2.1.1 xx.1.2.2.2.1.2 K).trans (show _ = funcT f3_C Tryd.f3 (mkR _ xx) (mkE _ yy) K by kernel_rfl)
    rw [← e]
    exact h.run
noncomputable abbrev f3_G := f3_G0
theorem f3_G_ok : FnOk Tryd.prog glob 3 f3_G := f3_ok0
end Go.Eng.N
set_option linter.unusedVariables false
set_option maxRecDepth 100000
open Go Go.Eng Go.Proofs
namespace Go.Eng.N
/-! ### f102: plenum/plenumref39.index -/
noncomputable def f102_p4b0 (es4 : List (List PC)) (full5 : Bool) (s6 : ByteArray) (n7 : Int) (N0 : Int → Prop) (k0 : Int → Prop) (k1 : Unit → Prop) : Prop := bB (decide (n7 < ((es4.length : Nat) : Int))) ((0 ≤ n7 ∧ n7 < ((es4.length : Nat) : Int)) ∧ oS (ext (List.getD es4 (Int.toNat n7) []) 0 1) fun s8 => bB (s8.toList == s6.toList) (k0 n7) (N0 (w64 (n7 + 1)))) (k1 ())
noncomputable def f102_p4 (es4 : List (List PC)) (full5 : Bool) (s6 : ByteArray) (k0 : Int → Prop) (k1 : Unit → Prop) : Int → Prop := LoopP fun x N => f102_p4b0 es4 full5 s6 x (fun n7 => N n7) k0 k1
noncomputable def f102_d (es1 : List (List PC)) (full2 : Bool) (s3 : ByteArray) (k0 : Int → Prop) : Prop := f102_p4 es1 full2 s3 (fun n9 => k0 n9) (fun (_ : Unit) => k0 (-1)) 0
structure f102 (es1 : List (List PC)) (full2 : Bool) (s3 : ByteArray) (k0 : Int → Prop) : Prop where
  run : f102_d es1 full2 s3 k0
noncomputable def f102_p4L : Told := fun s K => match s with
  | ⟨tm, hp⟩ => getS [.v (.one (.sl 1)), .v (.one (.str)), .skip 3, .v (.one (.int .i64)), .skip 13] [] tm hp fun (xx : ((List (List PC) × Bool) × (ByteArray × (Unit × (Int × (Unit × Unit)))))) (yy : Unit) => f102_p4 xx.1.1 xx.1.2 xx.2.1 (fun n0_0 => K .ret ⟨mkS 19 [(4, I n0_0)], []⟩) (fun (_ : Unit) => K (.exit 0) ⟨mkS 19 [], []⟩) xx.2.2.2.1
noncomputable def f102_tab : List (Nat × Told) := [(4, f102_p4L)]
noncomputable def f102_call : FuncId → List TV → List Entry → (TV → List Entry → Prop) → Prop := noCalls
noncomputable def f102_C : Ctx := { ty := tyOf tab, glob := glob, byRef := byRef, keep := fun k i => lookN [] (lookN [] ([(4, [(0, [0, 1, 5]), (2, [4]), (3, [])])] : List (Nat × List (Nat × List Nat))) k) i, late := lookN [] ([] : List (Nat × List Nat)), nref := lookN [] ([] : List (Nat × List Nat)), nbox := lookN [] ([] : List (Nat × List (Nat × Nat))), take := [], rnil := false, m := 0, fz := true, loops := lookL f102_tab, call := f102_call }
noncomputable def f102_p4_mk (es4 : List (List PC)) (full5 : Bool) (s6 : ByteArray) (x : Int) : St := ⟨mkS 19 [(0, .w (.one (.p (.sl 1 es4 full5)))), (1, S s6), (5, I x)], []⟩
set_option maxRecDepth 100000 in
theorem f102_p4e0 (es_6 : List (List PC)) (full_7 : Bool) (s_8 : ByteArray) (n_9 : Int) (N : St → Prop) (K : TExit → St → Prop) : (f102_p4b0 es_6 full_7 s_8 n_9 (fun z3 => N (f102_p4_mk es_6 full_7 s_8 z3)) (fun n0_10 => K .ret ⟨mkS 19 [(4, I n0_10)], []⟩) (fun (_ : Unit) => K (.exit 0) ⟨mkS 19 [], []⟩)) = execT f102_C (nthC (bodies (bodyOf Tryd.f102)) 0) (f102_p4_mk es_6 full_7 s_8 n_9) (loopK N (normK f102_C 4) fun e s => K e (normOut f102_C 4 e s)) := by kernel_rfl
set_option maxHeartbeats 4000000 in
theorem f102_p4_ok : LoopOk f102_C (nthC (bodies (bodyOf Tryd.f102)) 0) := by
  refine LoopOk.of f102_p4L (by kernel_rfl) fun σ K h => ?_
  have hk : loopKey (nthC (bodies (bodyOf Tryd.f102)) 0) = 4 := by kernel_rfl
  rw [hk] at h ⊢
  generalize hs : normK f102_C 4 σ = s at h
  obtain ⟨tm, hp⟩ := s
  unfold f102_p4L at h
  dsimp only at h
  obtain ⟨xx, yy, rfl, rfl, h⟩ := getS_elim h
  refine iter_of (f102_p4_mk xx.1.1 xx.1.2 xx.2.1) (fun x N h => ?_) rounds _ σ (hs.trans (by kernel_rfl)) (LoopP.run h)
  rw [← f102_p4e0 xx.1.1 xx.1.2 xx.2.1 x N K]
  exact h
noncomputable def f102_G0 : List TV → List Entry → (TV → List Entry → Prop) → Prop := fun tm hp K => getS [.v (.one (.sl 1)), .v (.one (.str))] [] tm hp fun (xx : ((List (List PC) × Bool) × (ByteArray × Unit))) (yy : Unit) => f102 xx.1.1 xx.1.2 xx.2.1 (fun n0_1 => K (I n0_1) [])
set_option maxRecDepth 100000 in
theorem f102_eq (es_11 : List (List PC)) (full_12 : Bool) (s_13 : ByteArray) (K : TV → List Entry → Prop) : (f102_d es_11 full_12 s_13 (fun n0_1 => K (I n0_1) [])) = funcT f102_C Tryd.f102 [.w (.one (.p (.sl 1 es_11 full_12))), S s_13] [] K := by kernel_rfl
set_option maxHeartbeats 4000000 in
theorem f102_ok0 : FnOk Tryd.prog glob 102 f102_G0 := by
  refine FnOk.of_text (C := f102_C) tab_ok.ok (Known.none) follows_ok (fn := Tryd.f102) (by kernel_rfl) (by kernel_rfl) (by kernel_rfl) (fun c hc => ?_) fun tm hp K h => ?_
  · have e : c = bodyOf Tryd.f102 := Option.some.inj (hc.symm.trans (by kernel_rfl))
    subst e
    exact ⟨LoopsOk.of [nthC (bodies (bodyOf Tryd.f102)) 0] (by kernel_rfl) ⟨f102_p4_ok, trivial⟩, TailsOk.of (tab := f102_tab) rfl [] (by kernel_rfl) trivial⟩
  · unfold f102_G0 at h
    obtain ⟨xx, yy, rfl, rfl, h⟩ := getS_elim h
    have e := (f102_eq xx.1.1 xx.1.2 xx.2.1 K).trans (show _ = funcT f102_C Tryd.f102 (mkR _ xx) (mkE _ yy) K by kernel_rfl)
    rw [← e]
    exact h.run
noncomputable abbrev f102_G := f102_G0
theorem f102_G_ok : FnOk Tryd.prog glob 102 f102_G := f102_ok0
end Go.Eng.N
set_option linter.unusedVariables false
set_option maxRecDepth 100000
open Go Go.Eng Go.Proofs
namespace Go.Eng.N
/-! ### f74: plenum/plenumref11.Bad -/
noncomputable def f74_d (n1 : Int) (es2 : List (List PC)) (full3 : Bool) (b4 : Bool) (es5 : List (List PC)) (full6 : Bool) (n7 : Int) (n8 : Int) (k0 : Int → Int → Int → Prop) : Prop := bB (decide (((es2.length : Nat) : Int) > 0)) (bB (decide (n8 ≥ ((es2.length : Nat) : Int))) ((0 ≤ (w64 (((es2.length : Nat) : Int) - 1)) ∧ (w64 (((es2.length : Nat) : Int) - 1)) < ((es2.length : Nat) : Int)) ∧ oI .i64 (ext (List.getD es2 (Int.toNat (w64 (((es2.length : Nat) : Int) - 1))) []) 3 1) fun n9 => k0 n1 n7 n9) ((0 ≤ n8 ∧ n8 < ((es2.length : Nat) : Int)) ∧ oI .i64 (ext (List.getD es2 (Int.toNat n8) []) 3 1) fun n10 => k0 n1 n7 n10)) (k0 n1 n7 1)
structure f74 (n1 : Int) (es2 : List (List PC)) (full3 : Bool) (b4 : Bool) (es5 : List (List PC)) (full6 : Bool) (n7 : Int) (n8 : Int) (k0 : Int → Int → Int → Prop) : Prop where
  run : f74_d n1 es2 full3 b4 es5 full6 n7 n8 k0
noncomputable def f74_tab : List (Nat × Told) := []
noncomputable def f74_call : FuncId → List TV → List Entry → (TV → List Entry → Prop) → Prop := noCalls
noncomputable def f74_C : Ctx := { ty := tyOf tab, glob := glob, byRef := byRef, keep := fun k i => lookN [] (lookN [] ([] : List (Nat × List (Nat × List Nat))) k) i, late := lookN [] ([] : List (Nat × List Nat)), nref := lookN [] ([] : List (Nat × List Nat)), nbox := lookN [] ([] : List (Nat × List (Nat × Nat))), take := [], rnil := false, m := 0, fz := true, loops := lookL f74_tab, call := f74_call }
noncomputable def f74_G0 : List TV → List Entry → (TV → List Entry → Prop) → Prop := fun tm hp K => getS [.v (.one (.int .i64)), .v (.pagg [.sl 4, .bool, .sl 4, .int .i64]), .v (.one (.int .i64))] [] tm hp fun (xx : (Int × (((List (List PC) × Bool) × (Bool × ((List (List PC) × Bool) × (Int × Unit)))) × (Int × Unit)))) (yy : Unit) => f74 xx.1 xx.2.1.1.1 xx.2.1.1.2 xx.2.1.2.1 xx.2.1.2.2.1.1 xx.2.1.2.2.1.2 xx.2.1.2.2.2.1 xx.2.2.1 (fun n0_0 n0_1 n0_2 => K (.w (.pagg [pI n0_0, pI n0_1, pI n0_2])) [])
set_option maxRecDepth 100000 in
theorem f74_eq (n_3 : Int) (es_4 : List (List PC)) (full_5 : Bool) (b_6 : Bool) (es_7 : List (List PC)) (full_8 : Bool) (n_9 : Int) (n_10 : Int) (K : TV → List Entry → Prop) : (f74_d n_3 es_4 full_5 b_6 es_7 full_8 n_9 n_10 (fun n0_0 n0_1 n0_2 => K (.w (.pagg [pI n0_0, pI n0_1, pI n0_2])) [])) = funcT f74_C Tryd.f74 [I n_3, .w (.pagg [.sl 4 es_4 full_5, pB b_6, .sl 4 es_7 full_8, pI n_9]), I n_10] [] K := by kernel_rfl
set_option maxHeartbeats 4000000 in
theorem f74_ok0 : FnOk Tryd.prog glob 74 f74_G0 := by
  refine FnOk.of_text (C := f74_C) tab_ok.ok (Known.none) follows_ok (fn := Tryd.f74) (by kernel_rfl) (by kernel_rfl) (by kernel_rfl) (fun c hc => ?_) fun tm hp K h => ?_
  · have e : c = bodyOf Tryd.f74 := Option.some.inj (hc.symm.trans (by kernel_rfl))
    subst e
    exact ⟨LoopsOk.of [] (by kernel_rfl) trivial, TailsOk.of (tab := f74_tab) rfl [] (by kernel_rfl) trivial⟩
  · unfold f74_G0 at h
    obtain ⟨xx, yy, rfl, rfl, h⟩ := getS_elim h
    have e := (f74_eq xx.1 xx.2.1.1.1 xx.2.1.1.2 xx.2.1.2.1 xx.2.1.2.2.1.1 xx.2.1.2.2.1.2 xx.2.1.2.2.2.1 xx.2.2.1 K).trans (show _ = funcT f74_C Tryd.f74 (mkR _ xx) (mkE _ yy) K by kernel_rfl)
    rw [← e]
    exact h.run
noncomputable abbrev f74_G := f74_G0
theorem f74_G_ok : FnOk Tryd.prog glob 74 f74_G := f74_ok0
end Go.Eng.N
set_option linter.unusedVariables false
set_option maxRecDepth 100000
open Go Go.Eng Go.Proofs
namespace Go.Eng.N
/-! ### f99: plenum/plenumref39.set -/
noncomputable def f99_p19 (n64 : Int) (es65 : List (List PC)) (full66 : Bool) (s67 : ByteArray) (n68 : Int) (es69 : List (List PC)) (full70 : Bool) (b71 : Bool) (es72 : List (List PC)) (full73 : Bool) (n74 : Int) (n75 : Int) (n76 : Int) (n77 : Int) (k0 : Int → Int → Int → Int → Int → Prop) (k1 : Int → Int → Prop) : Prop := (0 ≤ n64 ∧ n64 < ((es69.length : Nat) : Int)) ∧ oS (ext (List.getD es69 (Int.toNat n64) []) 1 1) fun s78 => f102 es65 full66 s78 (fun n79 => bB (decide (n79 < 0)) (f74 2 es69 full70 b71 es72 full73 n74 n64 (fun n80 n81 n82 => k0 0 0 n80 n81 n82)) (f84 n68 n79 (fun b83 => bB b83 (f74 5 es69 full70 b71 es72 full73 n74 n64 (fun n84 n85 n86 => k0 0 0 n84 n85 n86)) (0 ≤ (IntKind.wrap .u64 n79) ∧ k1 (w64 (n64 + 1)) (w64 (n68 + (IntKind.wrap .i64 (1 * 2 ^ (min (Int.toNat (IntKind.wrap .u64 n79)) 64)))))))))
noncomputable def f99_p15 (n48 : Int) (es49 : List (List PC)) (full50 : Bool) (s51 : ByteArray) (n52 : Int) (b53 : Bool) (es54 : List (List PC)) (full55 : Bool) (b56 : Bool) (es57 : List (List PC)) (full58 : Bool) (n59 : Int) (n60 : Int) (n61 : Int) (n62 : Int) (k0 : Int → Int → Int → Int → Int → Prop) (k1 : Int → Int → Prop) : Prop := bB (!b53) (bB (!(s51.toList == (⟨#[]⟩ : ByteArray).toList)) ((0 ≤ n48 ∧ n48 < ((es54.length : Nat) : Int)) ∧ oS (ext (List.getD es54 (Int.toNat n48) []) 1 1) fun s63 => bB (s63.toList == s51.toList) (k0 n52 n48 0 0 0) (f99_p19 n48 es49 full50 s51 n52 es54 full55 b56 es57 full58 n59 n60 n61 n62 (fun n87 n88 n89 n90 n91 => k0 n87 n88 n89 n90 n91) (fun n92 n93 => k1 n92 n93))) (f99_p19 n48 es49 full50 s51 n52 es54 full55 b56 es57 full58 n59 n60 n61 n62 (fun n94 n95 n96 n97 n98 => k0 n94 n95 n96 n97 n98) (fun n99 n100 => k1 n99 n100))) (f99_p19 n48 es49 full50 s51 n52 es54 full55 b56 es57 full58 n59 n60 n61 n62 (fun n101 n102 n103 n104 n105 => k0 n101 n102 n103 n104 n105) (fun n106 n107 => k1 n106 n107))
noncomputable def f99_p11 (n26 : Int) (es27 : List (List PC)) (full28 : Bool) (s29 : ByteArray) (n30 : Int) (b31 : Bool) (es32 : List (List PC)) (full33 : Bool) (b34 : Bool) (es35 : List (List PC)) (full36 : Bool) (n37 : Int) (n38 : Int) (n39 : Int) (n40 : Int) (k0 : Int → Int → Int → Int → Int → Prop) (k1 : Int → Int → Bool → Prop) : Prop := bB (decide (n26 ≥ ((es32.length : Nat) : Int))) (f74 2 es32 full33 b34 es35 full36 n37 n26 (fun n41 n42 n43 => k0 0 0 n41 n42 n43)) ((0 ≤ n26 ∧ n26 < ((es32.length : Nat) : Int)) ∧ oI .i64 (ext (List.getD es32 (Int.toNat n26) []) 0 1) fun n44 => bB (n44 != 1) (f74 2 es32 full33 b34 es35 full36 n37 n26 (fun n45 n46 n47 => k0 0 0 n45 n46 n47)) (f99_p15 n26 es27 full28 s29 n30 b31 es32 full33 b34 es35 full36 n37 n38 n39 n40 (fun n108 n109 n110 n111 n112 => k0 n108 n109 n110 n111 n112) (fun n113 n114 => k1 n113 n114 false)))
noncomputable def f99_p6b0 (n11 : Int) (es12 : List (List PC)) (full13 : Bool) (s14 : ByteArray) (n15 : Int) (b16 : Bool) (es17 : List (List PC)) (full18 : Bool) (b19 : Bool) (es20 : List (List PC)) (full21 : Bool) (n22 : Int) (n23 : Int) (n24 : Int) (n25 : Int) (N0 : Int → Int → Bool → Prop) (k0 : Int → Int → Int → Int → Int → Prop) (k1 : Int → Int → Prop) : Prop := bB b16 (f99_p11 n11 es12 full13 s14 n15 b16 es17 full18 b19 es20 full21 n22 n23 n24 n25 (fun n115 n116 n117 n118 n119 => k0 n115 n116 n117 n118 n119) (fun n120 n121 b122 => N0 n120 n121 b122)) (bB (decide (n11 < ((es17.length : Nat) : Int))) (f99_p11 n11 es12 full13 s14 n15 b16 es17 full18 b19 es20 full21 n22 n23 n24 n25 (fun n123 n124 n125 n126 n127 => k0 n123 n124 n125 n126 n127) (fun n128 n129 b130 => N0 n128 n129 b130)) (k1 n11 n15))
noncomputable def f99_p6 (es12 : List (List PC)) (full13 : Bool) (s14 : ByteArray) (es17 : List (List PC)) (full18 : Bool) (b19 : Bool) (es20 : List (List PC)) (full21 : Bool) (n22 : Int) (n23 : Int) (n24 : Int) (n25 : Int) (k0 : Int → Int → Int → Int → Int → Prop) (k1 : Int → Int → Prop) : Int × Int × Bool → Prop := LoopP fun x N => f99_p6b0 x.1 es12 full13 s14 x.2.1 x.2.2 es17 full18 b19 es20 full21 n22 n23 n24 n25 (fun n11 n15 b16 => N (n11, n15, b16)) k0 k1
noncomputable def f99_d (es1 : List (List PC)) (full2 : Bool) (b3 : Bool) (es4 : List (List PC)) (full5 : Bool) (n6 : Int) (n7 : Int) (es8 : List (List PC)) (full9 : Bool) (s10 : ByteArray) (k0 : Int → Int → Int → Int → Int → Prop) : Prop := f99_p6 es8 full9 s10 es1 full2 b3 es4 full5 n6 0 0 0 (fun n131 n132 n133 n134 n135 => k0 n131 n132 n133 n134 n135) (fun n136 n137 => bB (!(s10.toList == (⟨#[]⟩ : ByteArray).toList)) (f74 2 es1 full2 b3 es4 full5 n6 n136 (fun n138 n139 n140 => k0 0 0 n138 n139 n140)) (k0 n137 n136 0 0 0)) (n7, 0, true)
structure f99 (es1 : List (List PC)) (full2 : Bool) (b3 : Bool) (es4 : List (List PC)) (full5 : Bool) (n6 : Int) (n7 : Int) (es8 : List (List PC)) (full9 : Bool) (s10 : ByteArray) (k0 : Int → Int → Int → Int → Int → Prop) : Prop where
  run : f99_d es1 full2 b3 es4 full5 n6 n7 es8 full9 s10 k0
noncomputable def f99_p19L : Told := fun s K => match s with
  | ⟨tm, hp⟩ => getS [.skip 1, .v (.one (.int .i64)), .v (.one (.sl 1)), .v (.one (.str)), .v (.one (.ptr 0 0 0)), .skip 5, .v (.one (.ptr 1 0 0)), .v (.one (.int .i64)), .skip 80] [.box [.sl 4, .bool, .sl 4, .int .i64], .box [.int .i64, .int .i64, .int .i64]] tm hp fun (xx : (Unit × (Int × ((List (List PC) × Bool) × (ByteArray × (Unit × (Unit × (Unit × (Int × (Unit × Unit)))))))))) (yy : (((List (List PC) × Bool) × (Bool × ((List (List PC) × Bool) × (Int × Unit)))) × ((Int × (Int × (Int × Unit))) × Unit))) => f99_p19 xx.2.1 xx.2.2.1.1 xx.2.2.1.2 xx.2.2.2.1 xx.2.2.2.2.2.2.2.1 yy.1.1.1 yy.1.1.2 yy.1.2.1 yy.1.2.2.1.1 yy.1.2.2.1.2 yy.1.2.2.2.1 yy.2.1.1 yy.2.1.2.1 yy.2.1.2.2.1 (fun n0_0 n0_1 n0_2 n0_3 n0_4 => K .ret ⟨mkS 92 [(8, I n0_0), (9, I n0_1), (10, .w (.one (.ptr 0 0 0)))], [.box [.p (pI n0_2), .p (pI n0_3), .p (pI n0_4)]]⟩) (fun n1_5 n1_6 => K .normal ⟨mkS 92 [(1, I n1_5), (2, .w (.one (.p (.sl 1 xx.2.2.1.1 xx.2.2.1.2)))), (3, S xx.2.2.2.1), (4, .w (.one (.ptr 0 0 0))), (10, .w (.one (.ptr 1 0 0))), (11, I n1_6)], [.box [.p (.sl 4 yy.1.1.1 yy.1.1.2), .p (pB yy.1.2.1), .p (.sl 4 yy.1.2.2.1.1 yy.1.2.2.1.2), .p (pI yy.1.2.2.2.1)], .box [.p (pI yy.2.1.1), .p (pI yy.2.1.2.1), .p (pI yy.2.1.2.2.1)]]⟩)
noncomputable def f99_p15L : Told := fun s K => match s with
  | ⟨tm, hp⟩ => getS [.skip 1, .v (.one (.int .i64)), .v (.one (.sl 1)), .v (.one (.str)), .v (.one (.ptr 0 0 0)), .skip 5, .v (.one (.ptr 1 0 0)), .v (.one (.int .i64)), .v (.one (.bool)), .skip 79] [.box [.sl 4, .bool, .sl 4, .int .i64], .box [.int .i64, .int .i64, .int .i64]] tm hp fun (xx : (Unit × (Int × ((List (List PC) × Bool) × (ByteArray × (Unit × (Unit × (Unit × (Int × (Bool × (Unit × Unit))))))))))) (yy : (((List (List PC) × Bool) × (Bool × ((List (List PC) × Bool) × (Int × Unit)))) × ((Int × (Int × (Int × Unit))) × Unit))) => f99_p15 xx.2.1 xx.2.2.1.1 xx.2.2.1.2 xx.2.2.2.1 xx.2.2.2.2.2.2.2.1 xx.2.2.2.2.2.2.2.2.1 yy.1.1.1 yy.1.1.2 yy.1.2.1 yy.1.2.2.1.1 yy.1.2.2.1.2 yy.1.2.2.2.1 yy.2.1.1 yy.2.1.2.1 yy.2.1.2.2.1 (fun n0_7 n0_8 n0_9 n0_10 n0_11 => K .ret ⟨mkS 92 [(8, I n0_7), (9, I n0_8), (10, .w (.one (.ptr 0 0 0)))], [.box [.p (pI n0_9), .p (pI n0_10), .p (pI n0_11)]]⟩) (fun n1_12 n1_13 => K .normal ⟨mkS 92 [(1, I n1_12), (2, .w (.one (.p (.sl 1 xx.2.2.1.1 xx.2.2.1.2)))), (3, S xx.2.2.2.1), (4, .w (.one (.ptr 0 0 0))), (10, .w (.one (.ptr 1 0 0))), (11, I n1_13)], [.box [.p (.sl 4 yy.1.1.1 yy.1.1.2), .p (pB yy.1.2.1), .p (.sl 4 yy.1.2.2.1.1 yy.1.2.2.1.2), .p (pI yy.1.2.2.2.1)], .box [.p (pI yy.2.1.1), .p (pI yy.2.1.2.1), .p (pI yy.2.1.2.2.1)]]⟩)
noncomputable def f99_p11L : Told := fun s K => match s with
  | ⟨tm, hp⟩ => getS [.skip 1, .v (.one (.int .i64)), .v (.one (.sl 1)), .v (.one (.str)), .v (.one (.ptr 0 0 0)), .skip 5, .v (.one (.ptr 1 0 0)), .v (.one (.int .i64)), .v (.one (.bool)), .skip 79] [.box [.sl 4, .bool, .sl 4, .int .i64], .box [.int .i64, .int .i64, .int .i64]] tm hp fun (xx : (Unit × (Int × ((List (List PC) × Bool) × (ByteArray × (Unit × (Unit × (Unit × (Int × (Bool × (Unit × Unit))))))))))) (yy : (((List (List PC) × Bool) × (Bool × ((List (List PC) × Bool) × (Int × Unit)))) × ((Int × (Int × (Int × Unit))) × Unit))) => f99_p11 xx.2.1 xx.2.2.1.1 xx.2.2.1.2 xx.2.2.2.1 xx.2.2.2.2.2.2.2.1 xx.2.2.2.2.2.2.2.2.1 yy.1.1.1 yy.1.1.2 yy.1.2.1 yy.1.2.2.1.1 yy.1.2.2.1.2 yy.1.2.2.2.1 yy.2.1.1 yy.2.1.2.1 yy.2.1.2.2.1 (fun n0_14 n0_15 n0_16 n0_17 n0_18 => K .ret ⟨mkS 92 [(8, I n0_14), (9, I n0_15), (10, .w (.one (.ptr 0 0 0)))], [.box [.p (pI n0_16), .p (pI n0_17), .p (pI n0_18)]]⟩) (fun n1_19 n1_20 b1_21 => K .normal ⟨mkS 92 [(1, I n1_19), (2, .w (.one (.p (.sl 1 xx.2.2.1.1 xx.2.2.1.2)))), (3, S xx.2.2.2.1), (4, .w (.one (.ptr 0 0 0))), (10, .w (.one (.ptr 1 0 0))), (11, I n1_20), (12, B b1_21)], [.box [.p (.sl 4 yy.1.1.1 yy.1.1.2), .p (pB yy.1.2.1), .p (.sl 4 yy.1.2.2.1.1 yy.1.2.2.1.2), .p (pI yy.1.2.2.2.1)], .box [.p (pI yy.2.1.1), .p (pI yy.2.1.2.1), .p (pI yy.2.1.2.2.1)]]⟩)
noncomputable def f99_p6L : Told := fun s K => match s with
  | ⟨tm, hp⟩ => getS [.skip 1, .v (.one (.int .i64)), .v (.one (.sl 1)), .v (.one (.str)), .v (.one (.ptr 0 0 0)), .skip 5, .v (.one (.ptr 1 0 0)), .v (.one (.int .i64)), .v (.one (.bool)), .skip 79] [.box [.sl 4, .bool, .sl 4, .int .i64], .box [.int .i64, .int .i64, .int .i64]] tm hp fun (xx : (Unit × (Int × ((List (List PC) × Bool) × (ByteArray × (Unit × (Unit × (Unit × (Int × (Bool × (Unit × Unit))))))))))) (yy : (((List (List PC) × Bool) × (Bool × ((List (List PC) × Bool) × (Int × Unit)))) × ((Int × (Int × (Int × Unit))) × Unit))) => f99_p6 xx.2.2.1.1 xx.2.2.1.2 xx.2.2.2.1 yy.1.1.1 yy.1.1.2 yy.1.2.1 yy.1.2.2.1.1 yy.1.2.2.1.2 yy.1.2.2.2.1 yy.2.1.1 yy.2.1.2.1 yy.2.1.2.2.1 (fun n0_22 n0_23 n0_24 n0_25 n0_26 => K .ret ⟨mkS 92 [(8, I n0_22), (9, I n0_23), (10, .w (.one (.ptr 0 0 0)))], [.box [.p (pI n0_24), .p (pI n0_25), .p (pI n0_26)]]⟩) (fun n1_27 n1_28 => K (.exit 0) ⟨mkS 92 [(1, I n1_27), (3, S xx.2.2.2.1), (4, .w (.one (.ptr 0 0 0))), (10, .w (.one (.ptr 1 0 0))), (11, I n1_28)], [.box [.p (.sl 4 yy.1.1.1 yy.1.1.2), .p (pB yy.1.2.1), .p (.sl 4 yy.1.2.2.1.1 yy.1.2.2.1.2), .p (pI yy.1.2.2.2.1)], .box [.p (pI yy.2.1.1), .p (pI yy.2.1.2.1), .p (pI yy.2.1.2.2.1)]]⟩) (xx.2.1, xx.2.2.2.2.2.2.2.1, xx.2.2.2.2.2.2.2.2.1)
noncomputable def f99_tab : List (Nat × Told) := [(19, f99_p19L), (15, f99_p15L), (11, f99_p11L), (6, f99_p6L)]
noncomputable def f99_call : FuncId → List TV → List Entry → (TV → List Entry → Prop) → Prop := addCall 102 f102_G (addCall 84 f84_G (addCall 74 f74_G (noCalls)))
noncomputable def f99_C : Ctx := { ty := tyOf tab, glob := glob, byRef := byRef, keep := fun k i => lookN [] (lookN [] ([(19, [(0, [1, 2, 3, 4, 10, 11]), (1, [1, 2, 3, 4, 10, 11]), (2, [8, 9, 10]), (3, [1, 3, 4, 10, 11]), (4, [1, 2, 3, 4, 10, 11])]), (15, [(0, [1, 2, 3, 4, 10, 11, 12]), (1, [1, 2, 3, 4, 10, 11]), (2, [8, 9, 10]), (3, [1, 3, 4, 10, 11]), (4, [1, 2, 3, 4, 10, 11])]), (11, [(0, [1, 2, 3, 4, 10, 11, 12]), (1, [1, 2, 3, 4, 10, 11, 12]), (2, [8, 9, 10]), (3, [1, 3, 4, 10, 11])]), (6, [(0, [1, 2, 3, 4, 10, 11, 12]), (2, [8, 9, 10]), (3, [1, 3, 4, 10, 11])])] : List (Nat × List (Nat × List Nat))) k) i, late := lookN [] ([] : List (Nat × List Nat)), nref := lookN [] ([] : List (Nat × List Nat)), nbox := lookN [] ([] : List (Nat × List (Nat × Nat))), take := [], rnil := false, m := 0, fz := true, loops := lookL f99_tab, call := f99_call }
set_option maxRecDepth 100000 in
theorem f99_p19e0 (n_34 : Int) (es_35 : List (List PC)) (full_36 : Bool) (s_37 : ByteArray) (n_38 : Int) (es_39 : List (List PC)) (full_40 : Bool) (b_41 : Bool) (es_42 : List (List PC)) (full_43 : Bool) (n_44 : Int) (n_45 : Int) (n_46 : Int) (n_47 : Int) (K : TExit → St → Prop) : (f99_p19 n_34 es_35 full_36 s_37 n_38 es_39 full_40 b_41 es_42 full_43 n_44 n_45 n_46 n_47 (fun n0_48 n0_49 n0_50 n0_51 n0_52 => K .ret ⟨mkS 92 [(8, I n0_48), (9, I n0_49), (10, .w (.one (.ptr 0 0 0)))], [.box [.p (pI n0_50), .p (pI n0_51), .p (pI n0_52)]]⟩) (fun n1_53 n1_54 => K .normal ⟨mkS 92 [(1, I n1_53), (2, .w (.one (.p (.sl 1 es_35 full_36)))), (3, S s_37), (4, .w (.one (.ptr 0 0 0))), (10, .w (.one (.ptr 1 0 0))), (11, I n1_54)], [.box [.p (.sl 4 es_39 full_40), .p (pB b_41), .p (.sl 4 es_42 full_43), .p (pI n_44)], .box [.p (pI n_45), .p (pI n_46), .p (pI n_47)]]⟩)) = execT f99_C (nthC (tails (bodyOf Tryd.f99)) 10) ⟨mkS 92 [(1, I n_34), (2, .w (.one (.p (.sl 1 es_35 full_36)))), (3, S s_37), (4, .w (.one (.ptr 0 0 0))), (10, .w (.one (.ptr 1 0 0))), (11, I n_38)], [.box [.p (.sl 4 es_39 full_40), .p (pB b_41), .p (.sl 4 es_42 full_43), .p (pI n_44)], .box [.p (pI n_45), .p (pI n_46), .p (pI n_47)]]⟩ (fun e s => K e (normOut f99_C 19 e s)) := by kernel_rfl
set_option maxRecDepth 100000 in
theorem f99_p15e0 (n_55 : Int) (es_56 : List (List PC)) (full_57 : Bool) (s_58 : ByteArray) (n_59 : Int) (b_60 : Bool) (es_61 : List (List PC)) (full_62 : Bool) (b_63 : Bool) (es_64 : List (List PC)) (full_65 : Bool) (n_66 : Int) (n_67 : Int) (n_68 : Int) (n_69 : Int) (K : TExit → St → Prop) : (f99_p15 n_55 es_56 full_57 s_58 n_59 b_60 es_61 full_62 b_63 es_64 full_65 n_66 n_67 n_68 n_69 (fun n0_70 n0_71 n0_72 n0_73 n0_74 => K .ret ⟨mkS 92 [(8, I n0_70), (9, I n0_71), (10, .w (.one (.ptr 0 0 0)))], [.box [.p (pI n0_72), .p (pI n0_73), .p (pI n0_74)]]⟩) (fun n1_75 n1_76 => K .normal ⟨mkS 92 [(1, I n1_75), (2, .w (.one (.p (.sl 1 es_56 full_57)))), (3, S s_58), (4, .w (.one (.ptr 0 0 0))), (10, .w (.one (.ptr 1 0 0))), (11, I n1_76)], [.box [.p (.sl 4 es_61 full_62), .p (pB b_63), .p (.sl 4 es_64 full_65), .p (pI n_66)], .box [.p (pI n_67), .p (pI n_68), .p (pI n_69)]]⟩)) = execT f99_C (nthC (tails (bodyOf Tryd.f99)) 7) ⟨mkS 92 [(1, I n_55), (2, .w (.one (.p (.sl 1 es_56 full_57)))), (3, S s_58), (4, .w (.one (.ptr 0 0 0))), (10, .w (.one (.ptr 1 0 0))), (11, I n_59), (12, B b_60)], [.box [.p (.sl 4 es_61 full_62), .p (pB b_63), .p (.sl 4 es_64 full_65), .p (pI n_66)], .box [.p (pI n_67), .p (pI n_68), .p (pI n_69)]]⟩ (fun e s => K e (normOut f99_C 15 e s)) := by kernel_rfl
set_option maxRecDepth 100000 in
theorem f99_p11e0 (n_77 : Int) (es_78 : List (List PC)) (full_79 : Bool) (s_80 : ByteArray) (n_81 : Int) (b_82 : Bool) (es_83 : List (List PC)) (full_84 : Bool) (b_85 : Bool) (es_86 : List (List PC)) (full_87 : Bool) (n_88 : Int) (n_89 : Int) (n_90 : Int) (n_91 : Int) (K : TExit → St → Prop) : (f99_p11 n_77 es_78 full_79 s_80 n_81 b_82 es_83 full_84 b_85 es_86 full_87 n_88 n_89 n_90 n_91 (fun n0_92 n0_93 n0_94 n0_95 n0_96 => K .ret ⟨mkS 92 [(8, I n0_92), (9, I n0_93), (10, .w (.one (.ptr 0 0 0)))], [.box [.p (pI n0_94), .p (pI n0_95), .p (pI n0_96)]]⟩) (fun n1_97 n1_98 b1_99 => K .normal ⟨mkS 92 [(1, I n1_97), (2, .w (.one (.p (.sl 1 es_78 full_79)))), (3, S s_80), (4, .w (.one (.ptr 0 0 0))), (10, .w (.one (.ptr 1 0 0))), (11, I n1_98), (12, B b1_99)], [.box [.p (.sl 4 es_83 full_84), .p (pB b_85), .p (.sl 4 es_86 full_87), .p (pI n_88)], .box [.p (pI n_89), .p (pI n_90), .p (pI n_91)]]⟩)) = execT f99_C (nthC (tails (bodyOf Tryd.f99)) 4) ⟨mkS 92 [(1, I n_77), (2, .w (.one (.p (.sl 1 es_78 full_79)))), (3, S s_80), (4, .w (.one (.ptr 0 0 0))), (10, .w (.one (.ptr 1 0 0))), (11, I n_81), (12, B b_82)], [.box [.p (.sl 4 es_83 full_84), .p (pB b_85), .p (.sl 4 es_86 full_87), .p (pI n_88)], .box [.p (pI n_89), .p (pI n_90), .p (pI n_91)]]⟩ (fun e s => K e (normOut f99_C 11 e s)) := by kernel_rfl
noncomputable def f99_p6_mk (es12 : List (List PC)) (full13 : Bool) (s14 : ByteArray) (es17 : List (List PC)) (full18 : Bool) (b19 : Bool) (es20 : List (List PC)) (full21 : Bool) (n22 : Int) (n23 : Int) (n24 : Int) (n25 : Int) (x : Int × Int × Bool) : St := ⟨mkS 92 [(1, I x.1), (2, .w (.one (.p (.sl 1 es12 full13)))), (3, S s14), (4, .w (.one (.ptr 0 0 0))), (10, .w (.one (.ptr 1 0 0))), (11, I x.2.1), (12, B x.2.2)], [.box [.p (.sl 4 es17 full18), .p (pB b19), .p (.sl 4 es20 full21), .p (pI n22)], .box [.p (pI n23), .p (pI n24), .p (pI n25)]]⟩
set_option maxRecDepth 100000 in
theorem f99_p6e0 (n_115 : Int) (es_116 : List (List PC)) (full_117 : Bool) (s_118 : ByteArray) (n_119 : Int) (b_120 : Bool) (es_121 : List (List PC)) (full_122 : Bool) (b_123 : Bool) (es_124 : List (List PC)) (full_125 : Bool) (n_126 : Int) (n_127 : Int) (n_128 : Int) (n_129 : Int) (N : St → Prop) (K : TExit → St → Prop) : (f99_p6b0 n_115 es_116 full_117 s_118 n_119 b_120 es_121 full_122 b_123 es_124 full_125 n_126 n_127 n_128 n_129 (fun z0 z4 z5 => N (f99_p6_mk es_116 full_117 s_118 es_121 full_122 b_123 es_124 full_125 n_126 n_127 n_128 n_129 (z0, z4, z5))) (fun n0_130 n0_131 n0_132 n0_133 n0_134 => K .ret ⟨mkS 92 [(8, I n0_130), (9, I n0_131), (10, .w (.one (.ptr 0 0 0)))], [.box [.p (pI n0_132), .p (pI n0_133), .p (pI n0_134)]]⟩) (fun n1_135 n1_136 => K (.exit 0) ⟨mkS 92 [(1, I n1_135), (3, S s_118), (4, .w (.one (.ptr 0 0 0))), (10, .w (.one (.ptr 1 0 0))), (11, I n1_136)], [.box [.p (.sl 4 es_121 full_122), .p (pB b_123), .p (.sl 4 es_124 full_125), .p (pI n_126)], .box [.p (pI n_127), .p (pI n_128), .p (pI n_129)]]⟩)) = execT f99_C (nthC (bodies (bodyOf Tryd.f99)) 0) (f99_p6_mk es_116 full_117 s_118 es_121 full_122 b_123 es_124 full_125 n_126 n_127 n_128 n_129 (n_115, n_119, b_120)) (loopK N (normK f99_C 6) fun e s => K e (normOut f99_C 6 e s)) := by kernel_rfl
set_option maxHeartbeats 4000000 in
theorem f99_p19_ok : TailOk f99_C (nthC (tails (bodyOf Tryd.f99)) 10) := by
  refine TailOk.of f99_p19L (by kernel_rfl) fun σ K h => ?_
  have hk : joinKey (nthC (tails (bodyOf Tryd.f99)) 10) = 19 := by kernel_rfl
  rw [hk] at h ⊢
  generalize hs : normK f99_C 19 σ = s at h
  obtain ⟨tm, hp⟩ := s
  unfold f99_p19L at h
  dsimp only at h
  obtain ⟨xx, yy, rfl, rfl, h⟩ := getS_elim h
  have q : normK f99_C 19 σ = (⟨mkS 92 [(1, I xx.2.1), (2, .w (.one (.p (.sl 1 xx.2.2.1.1 xx.2.2.1.2)))), (3, S xx.2.2.2.1), (4, .w (.one (.ptr 0 0 0))), (10, .w (.one (.ptr 1 0 0))), (11, I xx.2.2.2.2.2.2.2.1)], [.box [.p (.sl 4 yy.1.1.1 yy.1.1.2), .p (pB yy.1.2.1), .p (.sl 4 yy.1.2.2.1.1 yy.1.2.2.1.2), .p (pI yy.1.2.2.2.1)], .box [.p (pI yy.2.1.1), .p (pI yy.2.1.2.1), .p (pI yy.2.1.2.2.1)]]⟩ : St) := hs.trans (by kernel_rfl)
  rw [← hs, q, ← f99_p19e0 xx.2.1 xx.2.2.1.1 xx.2.2.1.2 xx.2.2.2.1 xx.2.2.2.2.2.2.2.1 yy.1.1.1 yy.1.1.2 yy.1.2.1 yy.1.2.2.1.1 yy.1.2.2.1.2 yy.1.2.2.2.1 yy.2.1.1 yy.2.1.2.1 yy.2.1.2.2.1 K]
  exact h
set_option maxHeartbeats 4000000 in
theorem f99_p15_ok : TailOk f99_C (nthC (tails (bodyOf Tryd.f99)) 7) := by
  refine TailOk.of f99_p15L (by kernel_rfl) fun σ K h => ?_
  have hk : joinKey (nthC (tails (bodyOf Tryd.f99)) 7) = 15 := by kernel_rfl
  rw [hk] at h ⊢
  generalize hs : normK f99_C 15 σ = s at h
  obtain ⟨tm, hp⟩ := s
  unfold f99_p15L at h
  dsimp only at h
  obtain ⟨xx, yy, rfl, rfl, h⟩ := getS_elim h
  have q : normK f99_C 15 σ = (⟨mkS 92 [(1, I xx.2.1), (2, .w (.one (.p (.sl 1 xx.2.2.1.1 xx.2.2.1.2)))), (3, S xx.2.2.2.1), (4, .w (.one (.ptr 0 0 0))), (10, .w (.one (.ptr 1 0 0))), (11, I xx.2.2.2.2.2.2.2.1), (12, B xx.2.2.2.2.2.2.2.2.1)], [.box [.p (.sl 4 yy.1.1.1 yy.1.1.2), .p (pB yy.1.2.1), .p (.sl 4 yy.1.2.2.1.1 yy.1.2.2.1.2), .p (pI yy.1.2.2.2.1)], .box [.p (pI yy.2.1.1), .p (pI yy.2.1.2.1), .p (pI yy.2.1.2.2.1)]]⟩ : St) := hs.trans (by kernel_rfl)
  rw [← hs, q, ← f99_p15e0 xx.2.1 xx.2.2.1.1 xx.2.2.1.2 xx.2.2.2.1 xx.2.2.2.2.2.2.2.1 xx.2.2.2.2.2.2.2.2.1 yy.1.1.1 yy.1.1.2 yy.1.2.1 yy.1.2.2.1.1 yy.1.2.2.1.2 yy.1.2.2.2.1 yy.2.1.1 yy.2.1.2.1 yy.2.1.2.2.1 K]
  exact h
set_option maxHeartbeats 4000000 in
theorem f99_p11_ok : TailOk f99_C (nthC (tails (bodyOf Tryd.f99)) 4) := by
  refine TailOk.of f99_p11L (by kernel_rfl) fun σ K h => ?_
  have hk : joinKey (nthC (tails (bodyOf Tryd.f99)) 4) = 11 := by kernel_rfl
  rw [hk] at h ⊢
  generalize hs : normK f99_C 11 σ = s at h
  obtain ⟨tm, hp⟩ := s
  unfold f99_p11L at h
  dsimp only at h
  obtain ⟨xx, yy, rfl, rfl, h⟩ := getS_elim h
  have q : normK f99_C 11 σ = (⟨mkS 92 [(1, I xx.2.1), (2, .w (.one (.p (.sl 1 xx.2.2.1.1 xx.2.2.1.2)))), (3, S xx.2.2.2.1), (4, .w (.one (.ptr 0 0 0))), (10, .w (.one (.ptr 1 0 0))), (11, I xx.2.2.2.2.2.2.2.1), (12, B xx.2.2.2.2.2.2.2.2.1)], [.box [.p (.sl 4 yy.1.1.1 yy.1.1.2), .p (pB yy.1.2.1), .p (.sl 4 yy.1.2.2.1.1 yy.1.2.2.1.2), .p (pI yy.1.2.2.2.1)], .box [.p (pI yy.2.1.1), .p (pI yy.2.1.2.1), .p (pI yy.2.1.2.2.1)]]⟩ : St) := hs.trans (by kernel_rfl)
  rw [← hs, q, ← f99_p11e0 xx.2.1 xx.2.2.1.1 xx.2.2.1.2 xx.2.2.2.1 xx.2.2.2.2.2.2.2.1 xx.2.2.2.2.2.2.2.2.1 yy.1.1.1 yy.1.1.2 yy.1.2.1 yy.1.2.2.1.1 yy.1.2.2.1.2 yy.1.2.2.2.1 yy.2.1.1 yy.2.1.2.1 yy.2.1.2.2.1 K]
  exact h
set_option maxHeartbeats 4000000 in
theorem f99_p6_ok : LoopOk f99_C (nthC (bodies (bodyOf Tryd.f99)) 0) := by
  refine LoopOk.of f99_p6L (by kernel_rfl) fun σ K h => ?_
  have hk : loopKey (nthC (bodies (bodyOf Tryd.f99)) 0) = 6 := by kernel_rfl
  rw [hk] at h ⊢
  generalize hs : normK f99_C 6 σ = s at h
  obtain ⟨tm, hp⟩ := s
  unfold f99_p6L at h
  dsimp only at h
  obtain ⟨xx, yy, rfl, rfl, h⟩ := getS_elim h
  refine iter_of (f99_p6_mk xx.2.2.1.1 xx.2.2.1.2 xx.2.2.2.1 yy.1.1.1 yy.1.1.2 yy.1.2.1 yy.1.2.2.1.1 yy.1.2.2.1.2 yy.1.2.2.2.1 yy.2.1.1 yy.2.1.2.1 yy.2.1.2.2.1) (fun x N h => ?_) rounds _ σ (hs.trans (by kernel_rfl)) (LoopP.run h)
  obtain ⟨y0, y1, y2⟩ := x
  rw [← f99_p6e0 y0 xx.2.2.1.1 xx.2.2.1.2 xx.2.2.2.1 y1 y2 yy.1.1.1 yy.1.1.2 yy.1.2.1 yy.1.2.2.1.1 yy.1.2.2.1.2 yy.1.2.2.2.1 yy.2.1.1 yy.2.1.2.1 yy.2.1.2.2.1 N K]
  exact h
noncomputable def f99_G0 : List TV → List Entry → (TV → List Entry → Prop) → Prop := fun tm hp K => getS [.v (.pagg [.sl 4, .bool, .sl 4, .int .i64]), .v (.one (.int .i64)), .v (.one (.sl 1)), .v (.one (.str))] [] tm hp fun (xx : (((List (List PC) × Bool) × (Bool × ((List (List PC) × Bool) × (Int × Unit)))) × (Int × ((List (List PC) × Bool) × (ByteArray × Unit))))) (yy : Unit) => f99 xx.1.1.1 xx.1.1.2 xx.1.2.1 xx.1.2.2.1.1 xx.1.2.2.1.2 xx.1.2.2.2.1 xx.2.1 xx.2.2.1.1 xx.2.2.1.2 xx.2.2.2.1 (fun n0_29 n0_30 n0_31 n0_32 n0_33 => K (.tup [.one (.p (pI n0_29)), .one (.p (pI n0_30)), .pagg [pI n0_31, pI n0_32, pI n0_33]]) [])
set_option maxRecDepth 100000 in
theorem f99_eq (es_137 : List (List PC)) (full_138 : Bool) (b_139 : Bool) (es_140 : List (List PC)) (full_141 : Bool) (n_142 : Int) (n_143 : Int) (es_144 : List (List PC)) (full_145 : Bool) (s_146 : ByteArray) (K : TV → List Entry → Prop) : (f99_d es_137 full_138 b_139 es_140 full_141 n_142 n_143 es_144 full_145 s_146 (fun n0_29 n0_30 n0_31 n0_32 n0_33 => K (.tup [.one (.p (pI n0_29)), .one (.p (pI n0_30)), .pagg [pI n0_31, pI n0_32, pI n0_33]]) [])) = funcT f99_C Tryd.f99 [.w (.pagg [.sl 4 es_137 full_138, pB b_139, .sl 4 es_140 full_141, pI n_142]), I n_143, .w (.one (.p (.sl 1 es_144 full_145))), S s_146] [] K := by kernel_rfl
set_option maxHeartbeats 4000000 in
theorem f99_ok0 : FnOk Tryd.prog glob 99 f99_G0 := by
  refine FnOk.of_text (C := f99_C) tab_ok.ok (Known.add f102_G_ok (Known.add f84_G_ok (Known.add f74_G_ok (Known.none)))) follows_ok (fn := Tryd.f99) (by kernel_rfl) (by kernel_rfl) (by kernel_rfl) (fun c hc => ?_) fun tm hp K h => ?_
  · have e : c = bodyOf Tryd.f99 := Option.some.inj (hc.symm.trans (by kernel_rfl))
    subst e
    exact ⟨LoopsOk.of [nthC (bodies (bodyOf Tryd.f99)) 0] (by kernel_rfl) ⟨f99_p6_ok, trivial⟩, TailsOk.of (tab := f99_tab) rfl [nthC (tails (bodyOf Tryd.f99)) 4, nthC (tails (bodyOf Tryd.f99)) 7, nthC (tails (bodyOf Tryd.f99)) 10] (by kernel_rfl) ⟨f99_p11_ok, f99_p15_ok, f99_p19_ok, trivial⟩⟩
  · unfold f99_G0 at h
    obtain ⟨xx, yy, rfl, rfl, h⟩ := getS_elim h
    have e := (f99_eq xx.1.1.1 xx.1.1.2 xx.1.2.1 xx.1.2.2.1.1 xx.1.2.2.1.2 xx.1.2.2.2.1 xx.2.1 xx.2.2.1.1 xx.2.2.1.2 xx.2.2.2.1 K).trans (show _ = funcT f99_C Tryd.f99 (mkR _ xx) (mkE _ yy) K by kernel_rfl)
    rw [← e]
    exact h.run
noncomputable abbrev f99_G := f99_G0
theorem f99_G_ok : FnOk Tryd.prog glob 99 f99_G := f99_ok0
end Go.Eng.N
set_option linter.unusedVariables false
set_option maxRecDepth 100000
open Go Go.Eng Go.Proofs
namespace Go.Eng.N
/-! ### f73: plenum/plenumref39.expect -/
noncomputable def f73_p7 (n20 : Int) (s21 : ByteArray) (es22 : List (List PC)) (full23 : Bool) (b24 : Bool) (es25 : List (List PC)) (full26 : Bool) (n27 : Int) (n28 : Int) (n29 : Int) (n30 : Int) (k0 : Int → Int → Int → Prop) : Prop := bB (s21.toList == (⟨#[]⟩ : ByteArray).toList) ((0 ≤ n20 ∧ n20 < ((es22.length : Nat) : Int)) ∧ oS (ext (List.getD es22 (Int.toNat n20) []) 1 1) fun s31 => f50 s31 (fun b32 => bB (!b32) (f74 4 es22 full23 b24 es25 full26 n27 n20 (fun n33 n34 n35 => k0 n33 n34 n35)) (k0 0 0 0))) (k0 0 0 0)
noncomputable def f73_d (es1 : List (List PC)) (full2 : Bool) (b3 : Bool) (es4 : List (List PC)) (full5 : Bool) (n6 : Int) (n7 : Int) (s8 : ByteArray) (k0 : Int → Int → Int → Prop) : Prop := bB (decide (n7 ≥ ((es1.length : Nat) : Int))) (f74 2 es1 full2 b3 es4 full5 n6 n7 (fun n9 n10 n11 => k0 n9 n10 n11)) ((0 ≤ n7 ∧ n7 < ((es1.length : Nat) : Int)) ∧ oI .i64 (ext (List.getD es1 (Int.toNat n7) []) 0 1) fun n12 => bB (n12 != 1) (f74 2 es1 full2 b3 es4 full5 n6 n7 (fun n13 n14 n15 => k0 n13 n14 n15)) (bB (!(s8.toList == (⟨#[]⟩ : ByteArray).toList)) ((0 ≤ n7 ∧ n7 < ((es1.length : Nat) : Int)) ∧ oS (ext (List.getD es1 (Int.toNat n7) []) 1 1) fun s16 => bB (!(s16.toList == s8.toList)) (f74 2 es1 full2 b3 es4 full5 n6 n7 (fun n17 n18 n19 => k0 n17 n18 n19)) (f73_p7 n7 s8 es1 full2 b3 es4 full5 n6 0 0 0 (fun n36 n37 n38 => k0 n36 n37 n38))) (f73_p7 n7 s8 es1 full2 b3 es4 full5 n6 0 0 0 (fun n39 n40 n41 => k0 n39 n40 n41))))
structure f73 (es1 : List (List PC)) (full2 : Bool) (b3 : Bool) (es4 : List (List PC)) (full5 : Bool) (n6 : Int) (n7 : Int) (s8 : ByteArray) (k0 : Int → Int → Int → Prop) : Prop where
  run : f73_d es1 full2 b3 es4 full5 n6 n7 s8 k0
noncomputable def f73_p7L : Told := fun s K => match s with
  | ⟨tm, hp⟩ => getS [.skip 1, .v (.one (.int .i64)), .v (.one (.str)), .v (.one (.ptr 0 0 0)), .skip 2, .v (.one (.ptr 1 0 0)), .skip 47] [.box [.sl 4, .bool, .sl 4, .int .i64], .box [.int .i64, .int .i64, .int .i64]] tm hp fun (xx : (Unit × (Int × (ByteArray × (Unit × (Unit × (Unit × (Unit × Unit)))))))) (yy : (((List (List PC) × Bool) × (Bool × ((List (List PC) × Bool) × (Int × Unit)))) × ((Int × (Int × (Int × Unit))) × Unit))) => f73_p7 xx.2.1 xx.2.2.1 yy.1.1.1 yy.1.1.2 yy.1.2.1 yy.1.2.2.1.1 yy.1.2.2.1.2 yy.1.2.2.2.1 yy.2.1.1 yy.2.1.2.1 yy.2.1.2.2.1 (fun n0_0 n0_1 n0_2 => K .ret ⟨mkS 54 [(6, .w (.one (.ptr 0 0 0)))], [.box [.p (pI n0_0), .p (pI n0_1), .p (pI n0_2)]]⟩)
noncomputable def f73_tab : List (Nat × Told) := [(7, f73_p7L)]
noncomputable def f73_call : FuncId → List TV → List Entry → (TV → List Entry → Prop) → Prop := addCall 74 f74_G (addCall 50 f50_G (noCalls))
noncomputable def f73_C : Ctx := { ty := tyOf tab, glob := glob, byRef := byRef, keep := fun k i => lookN [] (lookN [] ([(7, [(0, [1, 2, 3, 6]), (1, [6]), (2, [6])])] : List (Nat × List (Nat × List Nat))) k) i, late := lookN [] ([] : List (Nat × List Nat)), nref := lookN [] ([] : List (Nat × List Nat)), nbox := lookN [] ([] : List (Nat × List (Nat × Nat))), take := [], rnil := false, m := 0, fz := true, loops := lookL f73_tab, call := f73_call }
set_option maxRecDepth 100000 in
theorem f73_p7e0 (n_6 : Int) (s_7 : ByteArray) (es_8 : List (List PC)) (full_9 : Bool) (b_10 : Bool) (es_11 : List (List PC)) (full_12 : Bool) (n_13 : Int) (n_14 : Int) (n_15 : Int) (n_16 : Int) (K : TExit → St → Prop) : (f73_p7 n_6 s_7 es_8 full_9 b_10 es_11 full_12 n_13 n_14 n_15 n_16 (fun n0_17 n0_18 n0_19 => K .ret ⟨mkS 54 [(6, .w (.one (.ptr 0 0 0)))], [.box [.p (pI n0_17), .p (pI n0_18), .p (pI n0_19)]]⟩)) = execT f73_C (nthC (tails (bodyOf Tryd.f73)) 1) ⟨mkS 54 [(1, I n_6), (2, S s_7), (3, .w (.one (.ptr 0 0 0))), (6, .w (.one (.ptr 1 0 0)))], [.box [.p (.sl 4 es_8 full_9), .p (pB b_10), .p (.sl 4 es_11 full_12), .p (pI n_13)], .box [.p (pI n_14), .p (pI n_15), .p (pI n_16)]]⟩ (fun e s => K e (normOut f73_C 7 e s)) := by kernel_rfl
set_option maxHeartbeats 4000000 in
theorem f73_p7_ok : TailOk f73_C (nthC (tails (bodyOf Tryd.f73)) 1) := by
  refine TailOk.of f73_p7L (by kernel_rfl) fun σ K h => ?_
  have hk : joinKey (nthC (tails (bodyOf Tryd.f73)) 1) = 7 := by kernel_rfl
  rw [hk] at h ⊢
  generalize hs : normK f73_C 7 σ = s at h
  obtain ⟨tm, hp⟩ := s
  unfold f73_p7L at h
  dsimp only at h
  obtain ⟨xx, yy, rfl, rfl, h⟩ := getS_elim h
  have q : normK f73_C 7 σ = (⟨mkS 54 [(1, I xx.2.1), (2, S xx.2.2.1), (3, .w (.one (.ptr 0 0 0))), (6, .w (.one (.ptr 1 0 0)))], [.box [.p (.sl 4 yy.1.1.1 yy.1.1.2), .p (pB yy.1.2.1), .p (.sl 4 yy.1.2.2.1.1 yy.1.2.2.1.2), .p (pI yy.1.2.2.2.1)], .box [.p (pI yy.2.1.1), .p (pI yy.2.1.2.1), .p (pI yy.2.1.2.2.1)]]⟩ : St) := hs.trans (by kernel_rfl)
  rw [← hs, q, ← f73_p7e0 xx.2.1 xx.2.2.1 yy.1.1.1 yy.1.1.2 yy.1.2.1 yy.1.2.2.1.1 yy.1.2.2.1.2 yy.1.2.2.2.1 yy.2.1.1 yy.2.1.2.1 yy.2.1.2.2.1 K]
  exact h
noncomputable def f73_G0 : List TV → List Entry → (TV → List Entry → Prop) → Prop := fun tm hp K => getS [.v (.pagg [.sl 4, .bool, .sl 4, .int .i64]), .v (.one (.int .i64)), .v (.one (.str))] [] tm hp fun (xx : (((List (List PC) × Bool) × (Bool × ((List (List PC) × Bool) × (Int × Unit)))) × (Int × (ByteArray × Unit)))) (yy : Unit) => f73 xx.1.1.1 xx.1.1.2 xx.1.2.1 xx.1.2.2.1.1 xx.1.2.2.1.2 xx.1.2.2.2.1 xx.2.1 xx.2.2.1 (fun n0_3 n0_4 n0_5 => K (.w (.pagg [pI n0_3, pI n0_4, pI n0_5])) [])
set_option maxRecDepth 100000 in
theorem f73_eq (es_20 : List (List PC)) (full_21 : Bool) (b_22 : Bool) (es_23 : List (List PC)) (full_24 : Bool) (n_25 : Int) (n_26 : Int) (s_27 : ByteArray) (K : TV → List Entry → Prop) : (f73_d es_20 full_21 b_22 es_23 full_24 n_25 n_26 s_27 (fun n0_3 n0_4 n0_5 => K (.w (.pagg [pI n0_3, pI n0_4, pI n0_5])) [])) = funcT f73_C Tryd.f73 [.w (.pagg [.sl 4 es_20 full_21, pB b_22, .sl 4 es_23 full_24, pI n_25]), I n_26, S s_27] [] K := by kernel_rfl
set_option maxHeartbeats 4000000 in
theorem f73_ok0 : FnOk Tryd.prog glob 73 f73_G0 := by
  refine FnOk.of_text (C := f73_C) tab_ok.ok (Known.add f74_G_ok (Known.add f50_G_ok (Known.none))) follows_ok (fn := Tryd.f73) (by kernel_rfl) (by kernel_rfl) (by kernel_rfl) (fun c hc => ?_) fun tm hp K h => ?_
  · have e : c = bodyOf Tryd.f73 := Option.some.inj (hc.symm.trans (by kernel_rfl))
    subst e
    exact ⟨LoopsOk.of [] (by kernel_rfl) trivial, TailsOk.of (tab := f73_tab) rfl [nthC (tails (bodyOf Tryd.f73)) 1] (by kernel_rfl) ⟨f73_p7_ok, trivial⟩⟩
  · unfold f73_G0 at h
    obtain ⟨xx, yy, rfl, rfl, h⟩ := getS_elim h
    have e := (f73_eq xx.1.1.1 xx.1.1.2 xx.1.2.1 xx.1.2.2.1.1 xx.1.2.2.1.2 xx.1.2.2.2.1 xx.2.1 xx.2.2.1 K).trans (show _ = funcT f73_C Tryd.f73 (mkR _ xx) (mkE _ yy) K by kernel_rfl)
    rw [← e]
    exact h.run
noncomputable abbrev f73_G := f73_G0
theorem f73_G_ok : FnOk Tryd.prog glob 73 f73_G := f73_ok0
end Go.Eng.N
set_option linter.unusedVariables false
set_option maxRecDepth 100000
open Go Go.Eng Go.Proofs
namespace Go.Eng.N
/-! ### f72: plenum/plenumref39.head -/
noncomputable def f72_p35 (n49 : Int) (es50 : List (List PC)) (full51 : Bool) (b52 : Bool) (es53 : List (List PC)) (full54 : Bool) (n55 : Int) (s56 : ByteArray) (n57 : Int) (n58 : Int) (n59 : Int) (n60 : Int) (n61 : Int) (s62 : ByteArray) (n63 : Int) (n64 : Int) (k0 : Int → Int → Int → Int → Int → Prop) : Prop := (1000 : Int) ≠ 0 ∧ bB (((es50.length : Nat) : Int) == 4) (k0 (w64 (Int.tdiv n49 1000)) n64 0 0 0) (f73 es50 full51 b52 es53 full54 n55 4 (⟨#[97, 99, 107]⟩ : ByteArray) (fun n65 n66 n67 => bB (n65 != 0) (k0 (w64 (Int.tdiv n49 1000)) n64 n65 n66 n67) ((f43 (fun es68 full69 => (f99 es50 full51 b52 es53 full54 n55 5 es68 full69 (⟨#[]⟩ : ByteArray) (fun n70 n71 n72 n73 n74 => k0 (w64 (Int.tdiv n49 1000)) n70 n72 n73 n74)) ∧ (f99 es50 full51 b52 es53 full54 n55 5 es68 full69 (⟨#[]⟩ : ByteArray) (fun n75 n76 n77 n78 n79 => k0 (w64 (Int.tdiv n49 1000)) n75 n77 n78 n79)))) ∧ (f43 (fun es80 full81 => f99 es50 full51 b52 es53 full54 n55 5 es80 full81 (⟨#[]⟩ : ByteArray) (fun n82 n83 n84 n85 n86 => k0 (w64 (Int.tdiv n49 1000)) n82 n84 n85 n86))))))
noncomputable def f72_p29 (es24 : List (List PC)) (full25 : Bool) (b26 : Bool) (es27 : List (List PC)) (full28 : Bool) (n29 : Int) (s30 : ByteArray) (n31 : Int) (n32 : Int) (n33 : Int) (n34 : Int) (n35 : Int) (s36 : ByteArray) (n37 : Int) (n38 : Int) (k0 : Int → Int → Int → Int → Int → Prop) : Prop := (0 ≤ (3 : Int) ∧ (3 : Int) < ((es24.length : Nat) : Int)) ∧ oI .i64 (ext (List.getD es24 3 []) 2 1) fun n39 => bB (decide (n39 < 0)) (f74 6 es24 full25 b26 es27 full28 n29 3 (fun n40 n41 n42 => k0 n37 n38 n40 n41 n42)) (bB (decide (n39 > 255000)) (f74 6 es24 full25 b26 es27 full28 n29 3 (fun n43 n44 n45 => k0 n37 n38 n43 n44 n45)) ((1000 : Int) ≠ 0 ∧ bB ((Int.tmod n39 1000) != 0) (f74 6 es24 full25 b26 es27 full28 n29 3 (fun n46 n47 n48 => k0 n37 n38 n46 n47 n48)) (f72_p35 n39 es24 full25 b26 es27 full28 n29 s30 n31 n32 n33 n34 n35 s36 n37 n38 (fun n87 n88 n89 n90 n91 => k0 n87 n88 n89 n90 n91))))
noncomputable def f72_d (es1 : List (List PC)) (full2 : Bool) (b3 : Bool) (es4 : List (List PC)) (full5 : Bool) (n6 : Int) (k0 : ByteArray → Int → Int → Int → Int → Int → Prop) : Prop := f73 es1 full2 b3 es4 full5 n6 0 (⟨#[99, 108, 97, 115, 115]⟩ : ByteArray) (fun n7 n8 n9 => bB (n7 != 0) (k0 (⟨#[]⟩ : ByteArray) 0 0 n7 n8 n9) (f73 es1 full2 b3 es4 full5 n6 1 (⟨#[]⟩ : ByteArray) (fun n10 n11 n12 => bB (n10 != 0) (k0 (⟨#[]⟩ : ByteArray) 0 0 n10 n11 n12) ((0 ≤ (1 : Int) ∧ (1 : Int) < ((es1.length : Nat) : Int)) ∧ oS (ext (List.getD es1 1 []) 1 1) fun s13 => f73 es1 full2 b3 es4 full5 n6 2 (⟨#[112, 114, 105, 111, 114, 105, 116, 121]⟩ : ByteArray) (fun n14 n15 n16 => bB (n14 != 0) (k0 s13 0 0 n14 n15 n16) (bB (decide (((es1.length : Nat) : Int) < 4)) (f74 2 es1 full2 b3 es4 full5 n6 3 (fun n17 n18 n19 => k0 s13 0 0 n17 n18 n19)) ((0 ≤ (3 : Int) ∧ (3 : Int) < ((es1.length : Nat) : Int)) ∧ oI .i64 (ext (List.getD es1 3 []) 0 1) fun n20 => bB (n20 != 2) (f74 2 es1 full2 b3 es4 full5 n6 3 (fun n21 n22 n23 => k0 s13 0 0 n21 n22 n23)) (f72_p29 es1 full2 b3 es4 full5 n6 (⟨#[]⟩ : ByteArray) 0 0 0 0 0 s13 0 0 (fun n92 n93 n94 n95 n96 => k0 s13 n92 n93 n94 n95 n96)))))))))
structure f72 (es1 : List (List PC)) (full2 : Bool) (b3 : Bool) (es4 : List (List PC)) (full5 : Bool) (n6 : Int) (k0 : ByteArray → Int → Int → Int → Int → Int → Prop) : Prop where
  run : f72_d es1 full2 b3 es4 full5 n6 k0
noncomputable def f72_p35L : Told := fun s K => match s with
  | ⟨tm, hp⟩ => getS [.skip 1, .v (.one (.ptr 0 0 0)), .v (.one (.ptr 1 0 0)), .v (.one (.ptr 2 0 0)), .v (.one (.ptr 3 0 0)), .skip 3, .v (.one (.int .i64)), .skip 93] [.box [.sl 4, .bool, .sl 4, .int .i64], .box [.str, .int .i64, .int .i64, .nil 5], .box [.int .i64, .int .i64, .int .i64], .box [.str, .int .i64, .int .i64, .nil 5]] tm hp fun (xx : (Unit × (Unit × (Unit × (Unit × (Unit × (Unit × (Int × (Unit × Unit))))))))) (yy : (((List (List PC) × Bool) × (Bool × ((List (List PC) × Bool) × (Int × Unit)))) × ((ByteArray × (Int × (Int × (Unit × Unit)))) × ((Int × (Int × (Int × Unit))) × ((ByteArray × (Int × (Int × (Unit × Unit)))) × Unit))))) => f72_p35 xx.2.2.2.2.2.2.1 yy.1.1.1 yy.1.1.2 yy.1.2.1 yy.1.2.2.1.1 yy.1.2.2.1.2 yy.1.2.2.2.1 yy.2.1.1 yy.2.1.2.1 yy.2.1.2.2.1 yy.2.2.1.1 yy.2.2.1.2.1 yy.2.2.1.2.2.1 yy.2.2.2.1.1 yy.2.2.2.1.2.1 yy.2.2.2.1.2.2.1 (fun n0_0 n0_1 n0_2 n0_3 n0_4 => K .ret ⟨mkS 102 [(2, .w (.one (.ptr 0 0 0))), (3, .w (.one (.ptr 1 0 0)))], [.box [.p (pS yy.2.2.2.1.1), .p (pI n0_0), .p (pI n0_1), .p (.sl 5 [] true)], .box [.p (pI n0_2), .p (pI n0_3), .p (pI n0_4)]]⟩)
noncomputable def f72_p29L : Told := fun s K => match s with
  | ⟨tm, hp⟩ => getS [.skip 1, .v (.one (.ptr 0 0 0)), .v (.one (.ptr 1 0 0)), .v (.one (.ptr 2 0 0)), .v (.one (.ptr 3 0 0)), .skip 97] [.box [.sl 4, .bool, .sl 4, .int .i64], .box [.str, .int .i64, .int .i64, .nil 5], .box [.int .i64, .int .i64, .int .i64], .box [.str, .int .i64, .int .i64, .nil 5]] tm hp fun (xx : (Unit × (Unit × (Unit × (Unit × (Unit × (Unit × Unit))))))) (yy : (((List (List PC) × Bool) × (Bool × ((List (List PC) × Bool) × (Int × Unit)))) × ((ByteArray × (Int × (Int × (Unit × Unit)))) × ((Int × (Int × (Int × Unit))) × ((ByteArray × (Int × (Int × (Unit × Unit)))) × Unit))))) => f72_p29 yy.1.1.1 yy.1.1.2 yy.1.2.1 yy.1.2.2.1.1 yy.1.2.2.1.2 yy.1.2.2.2.1 yy.2.1.1 yy.2.1.2.1 yy.2.1.2.2.1 yy.2.2.1.1 yy.2.2.1.2.1 yy.2.2.1.2.2.1 yy.2.2.2.1.1 yy.2.2.2.1.2.1 yy.2.2.2.1.2.2.1 (fun n0_5 n0_6 n0_7 n0_8 n0_9 => K .ret ⟨mkS 102 [(2, .w (.one (.ptr 0 0 0))), (3, .w (.one (.ptr 1 0 0)))], [.box [.p (pS yy.2.2.2.1.1), .p (pI n0_5), .p (pI n0_6), .p (.sl 5 [] true)], .box [.p (pI n0_7), .p (pI n0_8), .p (pI n0_9)]]⟩)
noncomputable def f72_tab : List (Nat × Told) := [(35, f72_p35L), (29, f72_p29L)]
noncomputable def f72_call : FuncId → List TV → List Entry → (TV → List Entry → Prop) → Prop := addCall 99 f99_G (addCall 74 f74_G (addCall 73 f73_G (addCall 43 f43_G (noCalls))))
noncomputable def f72_C : Ctx := { ty := tyOf tab, glob := glob, byRef := byRef, keep := fun k i => lookN [] (lookN [] ([(35, [(0, [1, 2, 3, 4, 8]), (1, [2, 3]), (2, [2, 3])]), (29, [(0, [1, 2, 3, 4]), (1, [2, 3]), (2, [2, 3])])] : List (Nat × List (Nat × List Nat))) k) i, late := lookN [] ([] : List (Nat × List Nat)), nref := lookN [] ([] : List (Nat × List Nat)), nbox := lookN [] ([] : List (Nat × List (Nat × Nat))), take := [], rnil := false, m := 0, fz := true, loops := lookL f72_tab, call := f72_call }
set_option maxRecDepth 100000 in
theorem f72_p35e0 (n_16 : Int) (es_17 : List (List PC)) (full_18 : Bool) (b_19 : Bool) (es_20 : List (List PC)) (full_21 : Bool) (n_22 : Int) (s_23 : ByteArray) (n_24 : Int) (n_25 : Int) (n_26 : Int) (n_27 : Int) (n_28 : Int) (s_29 : ByteArray) (n_30 : Int) (n_31 : Int) (K : TExit → St → Prop) : (f72_p35 n_16 es_17 full_18 b_19 es_20 full_21 n_22 s_23 n_24 n_25 n_26 n_27 n_28 s_29 n_30 n_31 (fun n0_32 n0_33 n0_34 n0_35 n0_36 => K .ret ⟨mkS 102 [(2, .w (.one (.ptr 0 0 0))), (3, .w (.one (.ptr 1 0 0)))], [.box [.p (pS s_29), .p (pI n0_32), .p (pI n0_33), .p (.sl 5 [] true)], .box [.p (pI n0_34), .p (pI n0_35), .p (pI n0_36)]]⟩)) = execT f72_C (nthC (tails (bodyOf Tryd.f72)) 19) ⟨mkS 102 [(1, .w (.one (.ptr 0 0 0))), (2, .w (.one (.ptr 1 0 0))), (3, .w (.one (.ptr 2 0 0))), (4, .w (.one (.ptr 3 0 0))), (8, I n_16)], [.box [.p (.sl 4 es_17 full_18), .p (pB b_19), .p (.sl 4 es_20 full_21), .p (pI n_22)], .box [.p (pS s_23), .p (pI n_24), .p (pI n_25), .p (.sl 5 [] true)], .box [.p (pI n_26), .p (pI n_27), .p (pI n_28)], .box [.p (pS s_29), .p (pI n_30), .p (pI n_31), .p (.sl 5 [] true)]]⟩ (fun e s => K e (normOut f72_C 35 e s)) := by kernel_rfl
set_option maxRecDepth 100000 in
theorem f72_p29e0 (es_37 : List (List PC)) (full_38 : Bool) (b_39 : Bool) (es_40 : List (List PC)) (full_41 : Bool) (n_42 : Int) (s_43 : ByteArray) (n_44 : Int) (n_45 : Int) (n_46 : Int) (n_47 : Int) (n_48 : Int) (s_49 : ByteArray) (n_50 : Int) (n_51 : Int) (K : TExit → St → Prop) : (f72_p29 es_37 full_38 b_39 es_40 full_41 n_42 s_43 n_44 n_45 n_46 n_47 n_48 s_49 n_50 n_51 (fun n0_52 n0_53 n0_54 n0_55 n0_56 => K .ret ⟨mkS 102 [(2, .w (.one (.ptr 0 0 0))), (3, .w (.one (.ptr 1 0 0)))], [.box [.p (pS s_49), .p (pI n0_52), .p (pI n0_53), .p (.sl 5 [] true)], .box [.p (pI n0_54), .p (pI n0_55), .p (pI n0_56)]]⟩)) = execT f72_C (nthC (tails (bodyOf Tryd.f72)) 15) ⟨mkS 102 [(1, .w (.one (.ptr 0 0 0))), (2, .w (.one (.ptr 1 0 0))), (3, .w (.one (.ptr 2 0 0))), (4, .w (.one (.ptr 3 0 0)))], [.box [.p (.sl 4 es_37 full_38), .p (pB b_39), .p (.sl 4 es_40 full_41), .p (pI n_42)], .box [.p (pS s_43), .p (pI n_44), .p (pI n_45), .p (.sl 5 [] true)], .box [.p (pI n_46), .p (pI n_47), .p (pI n_48)], .box [.p (pS s_49), .p (pI n_50), .p (pI n_51), .p (.sl 5 [] true)]]⟩ (fun e s => K e (normOut f72_C 29 e s)) := by kernel_rfl
set_option maxHeartbeats 4000000 in
theorem f72_p35_ok : TailOk f72_C (nthC (tails (bodyOf Tryd.f72)) 19) := by
  refine TailOk.of f72_p35L (by kernel_rfl) fun σ K h => ?_
  have hk : joinKey (nthC (tails (bodyOf Tryd.f72)) 19) = 35 := by kernel_rfl
  rw [hk] at h ⊢
  generalize hs : normK f72_C 35 σ = s at h
  obtain ⟨tm, hp⟩ := s
  unfold f72_p35L at h
  dsimp only at h
  obtain ⟨xx, yy, rfl, rfl, h⟩ := getS_elim h
  have q : normK f72_C 35 σ = (⟨mkS 102 [(1, .w (.one (.ptr 0 0 0))), (2, .w (.one (.ptr 1 0 0))), (3, .w (.one (.ptr 2 0 0))), (4, .w (.one (.ptr 3 0 0))), (8, I xx.2.2.2.2.2.2.1)], [.box [.p (.sl 4 yy.1.1.1 yy.1.1.2), .p (pB yy.1.2.1), .p (.sl 4 yy.1.2.2.1.1 yy.1.2.2.1.2), .p (pI yy.1.2.2.2.1)], .box [.p (pS yy.2.1.1), .p (pI yy.2.1.2.1), .p (pI yy.2.1.2.2.1), .p (.sl 5 [] true)], .box [.p (pI yy.2.2.1.1), .p (pI yy.2.2.1.2.1), .p (pI yy.2.2.1.2.2.1)], .box [.p (pS yy.2.2.2.1.1), .p (pI yy.2.2.2.1.2.1), .p (pI yy.2.2.2.1.2.2.1), .p (.sl 5 [] true)]]⟩ : St) := hs.trans (by kernel_rfl)
  rw [← hs, q, ← f72_p35e0 xx.2.2.2.2.2.2.1 yy.1.1.1 yy.1.1.2 yy.1.2.1 yy.1.2.2.1.1 yy.1.2.2.1.2 yy.1.2.2.2.1 yy.2.1.1 yy.2.1.2.1 yy.2.1.2.2.1 yy.2.2.1.1 yy.2.2.1.2.1 yy.2.2.1.2.2.1 yy.2.2.2.1.1 yy.2.2.2.1.2.1 yy.2.2.2.1.2.2.1 K]
  exact h
set_option maxHeartbeats 4000000 in
theorem f72_p29_ok : TailOk f72_C (nthC (tails (bodyOf Tryd.f72)) 15) := by
  refine TailOk.of f72_p29L (by kernel_rfl) fun σ K h => ?_
  have hk : joinKey (nthC (tails (bodyOf Tryd.f72)) 15) = 29 := by kernel_rfl
  rw [hk] at h ⊢
  generalize hs : normK f72_C 29 σ = s at h
  obtain ⟨tm, hp⟩ := s
  unfold f72_p29L at h
  dsimp only at h
  obtain ⟨xx, yy, rfl, rfl, h⟩ := getS_elim h
  have q : normK f72_C 29 σ = (⟨mkS 102 [(1, .w (.one (.ptr 0 0 0))), (2, .w (.one (.ptr 1 0 0))), (3, .w (.one (.ptr 2 0 0))), (4, .w (.one (.ptr 3 0 0)))], [.box [.p (.sl 4 yy.1.1.1 yy.1.1.2), .p (pB yy.1.2.1), .p (.sl 4 yy.1.2.2.1.1 yy.1.2.2.1.2), .p (pI yy.1.2.2.2.1)], .box [.p (pS yy.2.1.1), .p (pI yy.2.1.2.1), .p (pI yy.2.1.2.2.1), .p (.sl 5 [] true)], .box [.p (pI yy.2.2.1.1), .p (pI yy.2.2.1.2.1), .p (pI yy.2.2.1.2.2.1)], .box [.p (pS yy.2.2.2.1.1), .p (pI yy.2.2.2.1.2.1), .p (pI yy.2.2.2.1.2.2.1), .p (.sl 5 [] true)]]⟩ : St) := hs.trans (by kernel_rfl)
  rw [← hs, q, ← f72_p29e0 yy.1.1.1 yy.1.1.2 yy.1.2.1 yy.1.2.2.1.1 yy.1.2.2.1.2 yy.1.2.2.2.1 yy.2.1.1 yy.2.1.2.1 yy.2.1.2.2.1 yy.2.2.1.1 yy.2.2.1.2.1 yy.2.2.1.2.2.1 yy.2.2.2.1.1 yy.2.2.2.1.2.1 yy.2.2.2.1.2.2.1 K]
  exact h
noncomputable def f72_G0 : List TV → List Entry → (TV → List Entry → Prop) → Prop := fun tm hp K => getS [.v (.pagg [.sl 4, .bool, .sl 4, .int .i64])] [] tm hp fun (xx : (((List (List PC) × Bool) × (Bool × ((List (List PC) × Bool) × (Int × Unit)))) × Unit)) (yy : Unit) => f72 xx.1.1.1 xx.1.1.2 xx.1.2.1 xx.1.2.2.1.1 xx.1.2.2.1.2 xx.1.2.2.2.1 (fun s0_10 n0_11 n0_12 n0_13 n0_14 n0_15 => K (.tup [.pagg [pS s0_10, pI n0_11, pI n0_12, .sl 5 [] true], .pagg [pI n0_13, pI n0_14, pI n0_15]]) [])
set_option maxRecDepth 100000 in
theorem f72_eq (es_57 : List (List PC)) (full_58 : Bool) (b_59 : Bool) (es_60 : List (List PC)) (full_61 : Bool) (n_62 : Int) (K : TV → List Entry → Prop) : (f72_d es_57 full_58 b_59 es_60 full_61 n_62 (fun s0_10 n0_11 n0_12 n0_13 n0_14 n0_15 => K (.tup [.pagg [pS s0_10, pI n0_11, pI n0_12, .sl 5 [] true], .pagg [pI n0_13, pI n0_14, pI n0_15]]) [])) = funcT f72_C Tryd.f72 [.w (.pagg [.sl 4 es_57 full_58, pB b_59, .sl 4 es_60 full_61, pI n_62])] [] K := by kernel_rfl
set_option maxHeartbeats 4000000 in
theorem f72_ok0 : FnOk Tryd.prog glob 72 f72_G0 := by
  refine FnOk.of_text (C := f72_C) tab_ok.ok (Known.add f99_G_ok (Known.add f74_G_ok (Known.add f73_G_ok (Known.add f43_G_ok (Known.none))))) follows_ok (fn := Tryd.f72) (by kernel_rfl) (by kernel_rfl) (by kernel_rfl) (fun c hc => ?_) fun tm hp K h => ?_
  · have e : c = bodyOf Tryd.f72 := Option.some.inj (hc.symm.trans (by kernel_rfl))
    subst e
    exact ⟨LoopsOk.of [] (by kernel_rfl) trivial, TailsOk.of (tab := f72_tab) rfl [nthC (tails (bodyOf Tryd.f72)) 15, nthC (tails (bodyOf Tryd.f72)) 19] (by kernel_rfl) ⟨f72_p29_ok, f72_p35_ok, trivial⟩⟩
  · unfold f72_G0 at h
    obtain ⟨xx, yy, rfl, rfl, h⟩ := getS_elim h
    have e := (f72_eq xx.1.1.1 xx.1.1.2 xx.1.2.1 xx.1.2.2.1.1 xx.1.2.2.1.2 xx.1.2.2.2.1 K).trans (show _ = funcT f72_C Tryd.f72 (mkR _ xx) (mkE _ yy) K by kernel_rfl)
    rw [← e]
    exact h.run
noncomputable abbrev f72_G := f72_G0
theorem f72_G_ok : FnOk Tryd.prog glob 72 f72_G := f72_ok0
end Go.Eng.N
