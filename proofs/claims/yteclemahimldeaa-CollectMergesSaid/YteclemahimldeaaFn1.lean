/- What the functions that the law reaches compute, by the engine; written by program. -/
import Derived.Test.YteclemahimldeaaEng2
import Derived.Test.YteclemahimldeaaProg
import Derived.KernelRfl
set_option linter.unusedVariables false
open Go Go.Eng Go.Proofs
namespace Go.Eng.N
noncomputable def tab : List (TypeId × TI) := [(2, ⟨.int .i64, 1, 8, [pI 0], [.int .i64]⟩),
  (3, ⟨.int .i64, 1, 8, [pI 0], [.int .i64]⟩),
  (4, ⟨.bool, 1, 1, [pB false], [.bool]⟩),
  (22, ⟨.slice 27, 1, 24, [.sl 1 [] true], [.slice 1]⟩),
  (25, ⟨.ptr 58, 1, 8, [.c (.pointer none)], [.other]⟩),
  (27, ⟨.slice 42, 1, 24, [.sl 6 [] true], [.slice 6]⟩),
  (28, ⟨.int .i64, 1, 8, [pI 0], [.int .i64]⟩),
  (40, ⟨.struct [(0, 3), (1, 2)], 2, 16, [pI 0, pI 0], [.int .i64, .int .i64]⟩),
  (42, ⟨.struct [(0, 3), (1, 3), (2, 40), (4, 3), (5, 3)], 6, 48, [pI 0, pI 0, pI 0, pI 0, pI 0, pI 0], [.int .i64, .int .i64, .int .i64, .int .i64, .int .i64, .int .i64]⟩),
  (45, ⟨.int .u64, 1, 8, [.c (.int .u64 0)], [.int .u64]⟩),
  (58, ⟨.struct [(0, 27)], 1, 24, [.sl 6 [] true], [.slice 6]⟩)]
set_option maxRecDepth 100000 in
theorem tab_ok : TabOk Try.prog tab := ⟨mkTI_ok (by kernel_rfl), mkTI_ok (by kernel_rfl), mkTI_ok (by kernel_rfl), mkTI_ok (by kernel_rfl), mkTI_ok (by kernel_rfl), mkTI_ok (by kernel_rfl), mkTI_ok (by kernel_rfl), mkTI_ok (by kernel_rfl), mkTI_ok (by kernel_rfl), mkTI_ok (by kernel_rfl), mkTI_ok (by kernel_rfl), trivial⟩
noncomputable def glob : Nat → Option (List PC) := fun g => lookN none [] g
noncomputable def byRef : FuncId → Bool := fun g => List.elem g [12, 32, 35, 42, 43, 45, 48, 51, 52, 54, 55, 56, 57]
theorem follows_ok : Try.prog.follows .mixedOrders = true := by kernel_rfl
end Go.Eng.N
set_option linter.unusedVariables false
set_option maxRecDepth 100000
open Go Go.Eng Go.Proofs
namespace Go.Eng.N
/-! ### f12: plenum/collect.New -/
noncomputable def f12_d (k0 : Unit → Prop) : Prop := k0 ()
structure f12 (k0 : Unit → Prop) : Prop where
  run : f12_d k0
noncomputable def f12_tab : List (Nat × Told) := []
noncomputable def f12_call : FuncId → List TV → List Entry → (TV → List Entry → Prop) → Prop := noCalls
noncomputable def f12_C : Ctx := { ty := tyOf tab, glob := glob, byRef := byRef, keep := fun k i => lookN [] (lookN [] ([] : List (Nat × List (Nat × List Nat))) k) i, late := lookN [] ([] : List (Nat × List Nat)), nref := lookN [] ([] : List (Nat × List Nat)), nbox := lookN [] ([] : List (Nat × List (Nat × Nat))), take := [], rnil := true, m := 0, fz := false, loops := lookL f12_tab, call := f12_call }
noncomputable def f12_G0 : List TV → List Entry → (TV → List Entry → Prop) → Prop := fun tm hp K => getS [] [] tm hp fun (xx : Unit) (yy : Unit) => f12 (fun (_ : Unit) => K (.w (.one (.ptr 0 0 0))) [.box [.p (.sl 6 [] true)]])
set_option maxRecDepth 100000 in
theorem f12_eq (K : TV → List Entry → Prop) : (f12_d (fun (_ : Unit) => K (.w (.one (.ptr 0 0 0))) [.box [.p (.sl 6 [] true)]])) = funcT f12_C Try.f12 [] [] K := by kernel_rfl
set_option maxHeartbeats 4000000 in
theorem f12_ok0 : FnOk Try.prog glob 12 f12_G0 := by
  refine FnOk.of_text (C := f12_C) tab_ok.ok (Known.none) follows_ok (fn := Try.f12) (by kernel_rfl) (by kernel_rfl) (by kernel_rfl) (fun c hc => ?_) fun tm hp K h => ?_
  · have e : c = bodyOf Try.f12 := Option.some.inj (hc.symm.trans (by kernel_rfl))
    subst e
    exact ⟨LoopsOk.of [] (by kernel_rfl) trivial, TailsOk.of (tab := f12_tab) rfl [] (by kernel_rfl) trivial⟩
  · unfold f12_G0 at h
    obtain ⟨xx, yy, rfl, rfl, h⟩ := getS_elim h
    have e := (f12_eq K).trans (show _ = funcT f12_C Try.f12 (mkR _ xx) (mkE _ yy) K by kernel_rfl)
    rw [← e]
    exact h.run
noncomputable abbrev f12_G := f12_G0
theorem f12_G_ok : FnOk Try.prog glob 12 f12_G := f12_ok0
end Go.Eng.N
set_option linter.unusedVariables false
set_option maxRecDepth 100000
open Go Go.Eng Go.Proofs
namespace Go.Eng.N
/-! ### f15: (*plenum/collect.Collector).From -/
noncomputable def f15_d (k0 : Int → Prop) : Prop := k0 1
structure f15 (k0 : Int → Prop) : Prop where
  run : f15_d k0
noncomputable def f15_tab : List (Nat × Told) := []
noncomputable def f15_call : FuncId → List TV → List Entry → (TV → List Entry → Prop) → Prop := noCalls
noncomputable def f15_C : Ctx := { ty := tyOf tab, glob := glob, byRef := byRef, keep := fun k i => lookN [] (lookN [] ([] : List (Nat × List (Nat × List Nat))) k) i, late := lookN [] ([] : List (Nat × List Nat)), nref := lookN [] ([] : List (Nat × List Nat)), nbox := lookN [] ([] : List (Nat × List (Nat × Nat))), take := [], rnil := false, m := 1, fz := true, loops := lookL f15_tab, call := f15_call }
noncomputable def f15_G0 : List TV → List Entry → (TV → List Entry → Prop) → Prop := fun tm hp K => getS [.v (.one (.ptr 0 0 0))] [.box [.nil 6]] tm hp fun (xx : (Unit × Unit)) (yy : ((Unit × Unit) × Unit)) => f15 (fun n0_0 => K (I n0_0) [.box [.p (.sl 6 [] true)]])
set_option maxRecDepth 100000 in
theorem f15_eq (K : TV → List Entry → Prop) : (f15_d (fun n0_0 => K (I n0_0) [.box [.p (.sl 6 [] true)]])) = funcT f15_C Try.f15 [.w (.one (.ptr 0 0 0))] [.box [.p (.sl 6 [] true)]] K := by kernel_rfl
set_option maxHeartbeats 4000000 in
theorem f15_ok0 : FnOk Try.prog glob 15 f15_G0 := by
  refine FnOk.of_text (C := f15_C) tab_ok.ok (Known.none) follows_ok (fn := Try.f15) (by kernel_rfl) (by kernel_rfl) (by kernel_rfl) (fun c hc => ?_) fun tm hp K h => ?_
  · have e : c = bodyOf Try.f15 := Option.some.inj (hc.symm.trans (by kernel_rfl))
    subst e
    exact ⟨LoopsOk.of [] (by kernel_rfl) trivial, TailsOk.of (tab := f15_tab) rfl [] (by kernel_rfl) trivial⟩
  · unfold f15_G0 at h
    obtain ⟨xx, yy, rfl, rfl, h⟩ := getS_elim h
    have e := (f15_eq K).trans (show _ = funcT f15_C Try.f15 (mkR _ xx) (mkE _ yy) K by kernel_rfl)
    rw [← e]
    exact h.run
noncomputable abbrev f15_G := f15_G0
theorem f15_G_ok : FnOk Try.prog glob 15 f15_G := f15_ok0
end Go.Eng.N
set_option linter.unusedVariables false
set_option maxRecDepth 100000
open Go Go.Eng Go.Proofs
namespace Go.Eng.N
/-! ### f33: plenum/collect.least -/
noncomputable def f33_d (n1 : Int) (n2 : Int) (n3 : Int) (n4 : Int) (n5 : Int) (n6 : Int) (k0 : Int → Prop) : Prop := k0 (w64 ((w64 (n1 - (if (1 : Int) > n6 then 1 else n6))) + 1))
structure f33 (n1 : Int) (n2 : Int) (n3 : Int) (n4 : Int) (n5 : Int) (n6 : Int) (k0 : Int → Prop) : Prop where
  run : f33_d n1 n2 n3 n4 n5 n6 k0
noncomputable def f33_tab : List (Nat × Told) := []
noncomputable def f33_call : FuncId → List TV → List Entry → (TV → List Entry → Prop) → Prop := noCalls
noncomputable def f33_C : Ctx := { ty := tyOf tab, glob := glob, byRef := byRef, keep := fun k i => lookN [] (lookN [] ([] : List (Nat × List (Nat × List Nat))) k) i, late := lookN [] ([] : List (Nat × List Nat)), nref := lookN [] ([] : List (Nat × List Nat)), nbox := lookN [] ([] : List (Nat × List (Nat × Nat))), take := [], rnil := false, m := 0, fz := true, loops := lookL f33_tab, call := f33_call }
noncomputable def f33_G0 : List TV → List Entry → (TV → List Entry → Prop) → Prop := fun tm hp K => getS [.v (.pagg [.int .i64, .int .i64, .int .i64, .int .i64, .int .i64, .int .i64])] [] tm hp fun (xx : ((Int × (Int × (Int × (Int × (Int × (Int × Unit)))))) × Unit)) (yy : Unit) => f33 xx.1.1 xx.1.2.1 xx.1.2.2.1 xx.1.2.2.2.1 xx.1.2.2.2.2.1 xx.1.2.2.2.2.2.1 (fun n0_0 => K (I n0_0) [])
set_option maxRecDepth 100000 in
theorem f33_eq (n_1 : Int) (n_2 : Int) (n_3 : Int) (n_4 : Int) (n_5 : Int) (n_6 : Int) (K : TV → List Entry → Prop) : (f33_d n_1 n_2 n_3 n_4 n_5 n_6 (fun n0_0 => K (I n0_0) [])) = funcT f33_C Try.f33 [.w (.pagg [pI n_1, pI n_2, pI n_3, pI n_4, pI n_5, pI n_6])] [] K := by kernel_rfl
set_option maxHeartbeats 4000000 in
theorem f33_ok0 : FnOk Try.prog glob 33 f33_G0 := by
  refine FnOk.of_text (C := f33_C) tab_ok.ok (Known.none) follows_ok (fn := Try.f33) (by kernel_rfl) (by kernel_rfl) (by kernel_rfl) (fun c hc => ?_) fun tm hp K h => ?_
  · have e : c = bodyOf Try.f33 := Option.some.inj (hc.symm.trans (by kernel_rfl))
    subst e
    exact ⟨LoopsOk.of [] (by kernel_rfl) trivial, TailsOk.of (tab := f33_tab) rfl [] (by kernel_rfl) trivial⟩
  · unfold f33_G0 at h
    obtain ⟨xx, yy, rfl, rfl, h⟩ := getS_elim h
    have e := (f33_eq xx.1.1 xx.1.2.1 xx.1.2.2.1 xx.1.2.2.2.1 xx.1.2.2.2.2.1 xx.1.2.2.2.2.2.1 K).trans (show _ = funcT f33_C Try.f33 (mkR _ xx) (mkE _ yy) K by kernel_rfl)
    rw [← e]
    exact h.run
noncomputable abbrev f33_G := f33_G0
theorem f33_G_ok : FnOk Try.prog glob 33 f33_G := f33_ok0
end Go.Eng.N
set_option linter.unusedVariables false
set_option maxRecDepth 100000
open Go Go.Eng Go.Proofs
namespace Go.Eng.N
/-! ### f36: plenum/collect.late -/
noncomputable def f36_p6b0 (n3 : Int) (es4 : List (List PC)) (full5 : Bool) (n6 : Int) (n7 : Int) (N0 : Int → Int → Prop) (k0 : Int → Prop) (k1 : Unit → Prop) : Prop := bB (decide (n7 < n6)) ((0 ≤ n7 ∧ n7 < ((es4.length : Nat) : Int)) ∧ cI .i64 (ext (List.getD es4 (Int.toNat n7) []) 0 6) fun n9 r8 => cI .i64 r8 fun n11 r10 => cI .i64 r10 fun n13 r12 => cI .i64 r12 fun n15 r14 => cI .i64 r14 fun n17 r16 => cI .i64 r16 fun n19 r18 => nilC r18 <| bB (n19 != 0) (N0 n3 (w64 (n7 + 1))) (bB (decide (n11 < n3)) (k0 n7) (N0 n11 (w64 (n7 + 1))))) (k1 ())
noncomputable def f36_p6 (es4 : List (List PC)) (full5 : Bool) (n6 : Int) (k0 : Int → Prop) (k1 : Unit → Prop) : Int × Int → Prop := LoopP fun x N => f36_p6b0 x.1 es4 full5 n6 x.2 (fun n3 n7 => N (n3, n7)) k0 k1
noncomputable def f36_d (es1 : List (List PC)) (full2 : Bool) (k0 : Int → Prop) : Prop := f36_p6 es1 full2 ((es1.length : Nat) : Int) (fun n20 => k0 n20) (fun (_ : Unit) => k0 (-1)) (0, 0)
structure f36 (es1 : List (List PC)) (full2 : Bool) (k0 : Int → Prop) : Prop where
  run : f36_d es1 full2 k0
noncomputable def f36_p6L : Told := fun s K => match s with
  | ⟨tm, hp⟩ => getS [.skip 3, .v (.one (.int .i64)), .skip 2, .v (.one (.sl 6)), .v (.one (.int .i64)), .v (.one (.int .i64)), .skip 15] [] tm hp fun (xx : (Unit × (Int × (Unit × ((List (List PC) × Bool) × (Int × (Int × (Unit × Unit)))))))) (yy : Unit) => f36_p6 xx.2.2.2.1.1 xx.2.2.2.1.2 xx.2.2.2.2.1 (fun n0_0 => K .ret ⟨mkS 24 [(2, I n0_0)], []⟩) (fun (_ : Unit) => K (.exit 0) ⟨mkS 24 [], []⟩) (xx.2.1, xx.2.2.2.2.2.1)
noncomputable def f36_tab : List (Nat × Told) := [(6, f36_p6L)]
noncomputable def f36_call : FuncId → List TV → List Entry → (TV → List Entry → Prop) → Prop := noCalls
noncomputable def f36_C : Ctx := { ty := tyOf tab, glob := glob, byRef := byRef, keep := fun k i => lookN [] (lookN [] ([(6, [(0, [3, 6, 7, 8]), (2, [2]), (3, [])])] : List (Nat × List (Nat × List Nat))) k) i, late := lookN [] ([] : List (Nat × List Nat)), nref := lookN [] ([] : List (Nat × List Nat)), nbox := lookN [] ([] : List (Nat × List (Nat × Nat))), take := [], rnil := false, m := 0, fz := true, loops := lookL f36_tab, call := f36_call }
noncomputable def f36_p6_mk (es4 : List (List PC)) (full5 : Bool) (n6 : Int) (x : Int × Int) : St := ⟨mkS 24 [(3, I x.1), (6, .w (.one (.p (.sl 6 es4 full5)))), (7, I n6), (8, I x.2)], []⟩
set_option maxRecDepth 100000 in
theorem f36_p6e0 (n_7 : Int) (es_8 : List (List PC)) (full_9 : Bool) (n_10 : Int) (n_11 : Int) (N : St → Prop) (K : TExit → St → Prop) : (f36_p6b0 n_7 es_8 full_9 n_10 n_11 (fun z0 z4 => N (f36_p6_mk es_8 full_9 n_10 (z0, z4))) (fun n0_12 => K .ret ⟨mkS 24 [(2, I n0_12)], []⟩) (fun (_ : Unit) => K (.exit 0) ⟨mkS 24 [], []⟩)) = execT f36_C (nthC (bodies (bodyOf Try.f36)) 0) (f36_p6_mk es_8 full_9 n_10 (n_7, n_11)) (loopK N (normK f36_C 6) fun e s => K e (normOut f36_C 6 e s)) := by kernel_rfl
set_option maxHeartbeats 4000000 in
theorem f36_p6_ok : LoopOk f36_C (nthC (bodies (bodyOf Try.f36)) 0) := by
  refine LoopOk.of f36_p6L (by kernel_rfl) fun σ K h => ?_
  have hk : loopKey (nthC (bodies (bodyOf Try.f36)) 0) = 6 := by kernel_rfl
  rw [hk] at h ⊢
  generalize hs : normK f36_C 6 σ = s at h
  obtain ⟨tm, hp⟩ := s
  unfold f36_p6L at h
  dsimp only at h
  obtain ⟨xx, yy, rfl, rfl, h⟩ := getS_elim h
  refine iter_of (f36_p6_mk xx.2.2.2.1.1 xx.2.2.2.1.2 xx.2.2.2.2.1) (fun x N h => ?_) rounds _ σ (hs.trans (by kernel_rfl)) (LoopP.run h)
  obtain ⟨y0, y1⟩ := x
  rw [← f36_p6e0 y0 xx.2.2.2.1.1 xx.2.2.2.1.2 xx.2.2.2.2.1 y1 N K]
  exact h
noncomputable def f36_G0 : List TV → List Entry → (TV → List Entry → Prop) → Prop := fun tm hp K => getS [.v (.one (.sl 6))] [] tm hp fun (xx : ((List (List PC) × Bool) × Unit)) (yy : Unit) => f36 xx.1.1 xx.1.2 (fun n0_1 => K (I n0_1) [])
set_option maxRecDepth 100000 in
theorem f36_eq (es_13 : List (List PC)) (full_14 : Bool) (K : TV → List Entry → Prop) : (f36_d es_13 full_14 (fun n0_1 => K (I n0_1) [])) = funcT f36_C Try.f36 [.w (.one (.p (.sl 6 es_13 full_14)))] [] K := by kernel_rfl
set_option maxHeartbeats 4000000 in
theorem f36_ok0 : FnOk Try.prog glob 36 f36_G0 := by
  refine FnOk.of_text (C := f36_C) tab_ok.ok (Known.none) follows_ok (fn := Try.f36) (by kernel_rfl) (by kernel_rfl) (by kernel_rfl) (fun c hc => ?_) fun tm hp K h => ?_
  · have e : c = bodyOf Try.f36 := Option.some.inj (hc.symm.trans (by kernel_rfl))
    subst e
    exact ⟨LoopsOk.of [nthC (bodies (bodyOf Try.f36)) 0] (by kernel_rfl) ⟨f36_p6_ok, trivial⟩, TailsOk.of (tab := f36_tab) rfl [] (by kernel_rfl) trivial⟩
  · unfold f36_G0 at h
    obtain ⟨xx, yy, rfl, rfl, h⟩ := getS_elim h
    have e := (f36_eq xx.1.1 xx.1.2 K).trans (show _ = funcT f36_C Try.f36 (mkR _ xx) (mkE _ yy) K by kernel_rfl)
    rw [← e]
    exact h.run
noncomputable abbrev f36_G := f36_G0
theorem f36_G_ok : FnOk Try.prog glob 36 f36_G := f36_ok0
end Go.Eng.N
set_option linter.unusedVariables false
set_option maxRecDepth 100000
open Go Go.Eng Go.Proofs
namespace Go.Eng.N
/-! ### f21: plenum/collect.Check -/
noncomputable def f21_p4b0 (es3 : List (List PC)) (full4 : Bool) (es5 : List (List PC)) (full6 : Bool) (n7 : Int) (n8 : Int) (N0 : Int → Prop) (k0 : Int → Prop) (k1 : Unit → Prop) : Prop := bB (decide (n8 < n7)) ((0 ≤ n8 ∧ n8 < ((es5.length : Nat) : Int)) ∧ cI .i64 (ext (List.getD es5 (Int.toNat n8) []) 0 6) fun n10 r9 => cI .i64 r9 fun n12 r11 => cI .i64 r11 fun n14 r13 => cI .i64 r13 fun n16 r15 => cI .i64 r15 fun n18 r17 => cI .i64 r17 fun n20 r19 => nilC r19 <| bB (decide (n10 < 1)) (k0 6) (bB (decide (n10 > 1000000000)) (k0 6) (bB (decide (n20 < 0)) (k0 6) (bB (decide (n20 > n10)) (k0 6) (bB (decide (n12 < 0)) (k0 6) (bB (decide (n12 > 6311433599)) (k0 6) (N0 (w64 (n8 + 1))))))))) (k1 ())
noncomputable def f21_p4 (es3 : List (List PC)) (full4 : Bool) (es5 : List (List PC)) (full6 : Bool) (n7 : Int) (k0 : Int → Prop) (k1 : Unit → Prop) : Int → Prop := LoopP fun x N => f21_p4b0 es3 full4 es5 full6 n7 x (fun n8 => N n8) k0 k1
noncomputable def f21_p16b0 (es22 : List (List PC)) (full23 : Bool) (es24 : List (List PC)) (full25 : Bool) (n26 : Int) (n27 : Int) (N0 : Int → Prop) (k0 : Int → Prop) (k1 : Unit → Prop) : Prop := bB (decide (n27 < n26)) ((0 ≤ n27 ∧ n27 < ((es24.length : Nat) : Int)) ∧ cI .i64 (ext (List.getD es24 (Int.toNat n27) []) 0 6) fun n29 r28 => cI .i64 r28 fun n31 r30 => cI .i64 r30 fun n33 r32 => cI .i64 r32 fun n35 r34 => cI .i64 r34 fun n37 r36 => cI .i64 r36 fun n39 r38 => nilC r38 <| bB (!(n39 == 0)) (bB (n31 != 0) (k0 1) (bB (!((n33 == 0) && ((n35 == 0) && true))) (k0 1) (bB (n37 != 0) (k0 1) (bB (decide (n27 > 0)) ((0 ≤ (w64 (n27 - 1)) ∧ (w64 (n27 - 1)) < ((es22.length : Nat) : Int)) ∧ oI .i64 (ext (List.getD es22 (Int.toNat (w64 (n27 - 1))) []) 5 1) fun n40 => bB (n40 != 0) (k0 1) (N0 (w64 (n27 + 1)))) (N0 (w64 (n27 + 1))))))) (N0 (w64 (n27 + 1)))) (k1 ())
noncomputable def f21_p16 (es22 : List (List PC)) (full23 : Bool) (es24 : List (List PC)) (full25 : Bool) (n26 : Int) (k0 : Int → Prop) (k1 : Unit → Prop) : Int → Prop := LoopP fun x N => f21_p16b0 es22 full23 es24 full25 n26 x (fun n27 => N n27) k0 k1
noncomputable def f21_p30b0 (es42 : List (List PC)) (full43 : Bool) (n44 : Int) (N0 : Int → Prop) (k0 : Int → Prop) (k1 : Unit → Prop) : Prop := bB (decide (n44 < ((es42.length : Nat) : Int))) ((0 ≤ n44 ∧ n44 < ((es42.length : Nat) : Int)) ∧ cI .i64 (ext (List.getD es42 (Int.toNat n44) []) 0 6) fun n46 r45 => cI .i64 r45 fun n48 r47 => cI .i64 r47 fun n50 r49 => cI .i64 r49 fun n52 r51 => cI .i64 r51 fun n54 r53 => cI .i64 r53 fun n56 r55 => nilC r55 <| (0 ≤ (w64 (n44 - 1)) ∧ (w64 (n44 - 1)) < ((es42.length : Nat) : Int)) ∧ oI .i64 (ext (List.getD es42 (Int.toNat (w64 (n44 - 1))) []) 0 1) fun n57 => f33 n46 n48 n50 n52 n54 n56 (fun n58 => bB (n58 != (w64 (n57 + 1))) (k0 10) (N0 (w64 (n44 + 1))))) (k1 ())
noncomputable def f21_p30 (es42 : List (List PC)) (full43 : Bool) (k0 : Int → Prop) (k1 : Unit → Prop) : Int → Prop := LoopP fun x N => f21_p30b0 es42 full43 x (fun n44 => N n44) k0 k1
noncomputable def f21_d (es1 : List (List PC)) (full2 : Bool) (k0 : Int → Prop) : Prop := f21_p4 es1 full2 es1 full2 ((es1.length : Nat) : Int) (fun n21 => k0 n21) (fun (_ : Unit) => f21_p16 es1 full2 es1 full2 ((es1.length : Nat) : Int) (fun n41 => k0 n41) (fun (_ : Unit) => f21_p30 es1 full2 (fun n59 => k0 n59) (fun (_ : Unit) => f36 es1 full2 (fun n60 => bB (decide (n60 ≥ 0)) (k0 15) (k0 0))) 1) 0) 0
structure f21 (es1 : List (List PC)) (full2 : Bool) (k0 : Int → Prop) : Prop where
  run : f21_d es1 full2 k0
noncomputable def f21_p4L : Told := fun s K => match s with
  | ⟨tm, hp⟩ => getS [.v (.one (.sl 6)), .skip 8, .v (.one (.sl 6)), .v (.one (.int .i64)), .v (.one (.int .i64)), .skip 98] [] tm hp fun (xx : ((List (List PC) × Bool) × (Unit × ((List (List PC) × Bool) × (Int × (Int × (Unit × Unit))))))) (yy : Unit) => f21_p4 xx.1.1 xx.1.2 xx.2.2.1.1 xx.2.2.1.2 xx.2.2.2.1 (fun n0_0 => K .ret ⟨mkS 110 [(2, I n0_0)], []⟩) (fun (_ : Unit) => K (.exit 0) ⟨mkS 110 [(0, .w (.one (.p (.sl 6 xx.1.1 xx.1.2))))], []⟩) xx.2.2.2.2.1
noncomputable def f21_p16L : Told := fun s K => match s with
  | ⟨tm, hp⟩ => getS [.v (.one (.sl 6)), .skip 45, .v (.one (.sl 6)), .v (.one (.int .i64)), .v (.one (.int .i64)), .skip 61] [] tm hp fun (xx : ((List (List PC) × Bool) × (Unit × ((List (List PC) × Bool) × (Int × (Int × (Unit × Unit))))))) (yy : Unit) => f21_p16 xx.1.1 xx.1.2 xx.2.2.1.1 xx.2.2.1.2 xx.2.2.2.1 (fun n0_1 => K .ret ⟨mkS 110 [(2, I n0_1)], []⟩) (fun (_ : Unit) => K (.exit 2) ⟨mkS 110 [(0, .w (.one (.p (.sl 6 xx.1.1 xx.1.2))))], []⟩) xx.2.2.2.2.1
noncomputable def f21_p30L : Told := fun s K => match s with
  | ⟨tm, hp⟩ => getS [.v (.one (.sl 6)), .skip 7, .v (.one (.int .i64)), .skip 101] [] tm hp fun (xx : ((List (List PC) × Bool) × (Unit × (Int × (Unit × Unit))))) (yy : Unit) => f21_p30 xx.1.1 xx.1.2 (fun n0_2 => K .ret ⟨mkS 110 [(2, I n0_2)], []⟩) (fun (_ : Unit) => K (.exit 4) ⟨mkS 110 [(0, .w (.one (.p (.sl 6 xx.1.1 xx.1.2))))], []⟩) xx.2.2.1
noncomputable def f21_tab : List (Nat × Told) := [(4, f21_p4L), (16, f21_p16L), (30, f21_p30L)]
noncomputable def f21_call : FuncId → List TV → List Entry → (TV → List Entry → Prop) → Prop := addCall 36 f36_G (addCall 33 f33_G (noCalls))
noncomputable def f21_C : Ctx := { ty := tyOf tab, glob := glob, byRef := byRef, keep := fun k i => lookN [] (lookN [] ([(4, [(0, [0, 9, 10, 11]), (2, [2]), (3, [0])]), (16, [(0, [0, 46, 47, 48]), (2, [2]), (5, [0])]), (30, [(0, [0, 8]), (2, [2]), (7, [0])])] : List (Nat × List (Nat × List Nat))) k) i, late := lookN [] ([] : List (Nat × List Nat)), nref := lookN [] ([] : List (Nat × List Nat)), nbox := lookN [] ([] : List (Nat × List (Nat × Nat))), take := [], rnil := false, m := 0, fz := true, loops := lookL f21_tab, call := f21_call }
noncomputable def f21_p4_mk (es3 : List (List PC)) (full4 : Bool) (es5 : List (List PC)) (full6 : Bool) (n7 : Int) (x : Int) : St := ⟨mkS 110 [(0, .w (.one (.p (.sl 6 es3 full4)))), (9, .w (.one (.p (.sl 6 es5 full6)))), (10, I n7), (11, I x)], []⟩
set_option maxRecDepth 100000 in
theorem f21_p4e0 (es_10 : List (List PC)) (full_11 : Bool) (es_12 : List (List PC)) (full_13 : Bool) (n_14 : Int) (n_15 : Int) (N : St → Prop) (K : TExit → St → Prop) : (f21_p4b0 es_10 full_11 es_12 full_13 n_14 n_15 (fun z5 => N (f21_p4_mk es_10 full_11 es_12 full_13 n_14 z5)) (fun n0_16 => K .ret ⟨mkS 110 [(2, I n0_16)], []⟩) (fun (_ : Unit) => K (.exit 0) ⟨mkS 110 [(0, .w (.one (.p (.sl 6 es_10 full_11))))], []⟩)) = execT f21_C (nthC (bodies (bodyOf Try.f21)) 0) (f21_p4_mk es_10 full_11 es_12 full_13 n_14 n_15) (loopK N (normK f21_C 4) fun e s => K e (normOut f21_C 4 e s)) := by kernel_rfl
noncomputable def f21_p16_mk (es22 : List (List PC)) (full23 : Bool) (es24 : List (List PC)) (full25 : Bool) (n26 : Int) (x : Int) : St := ⟨mkS 110 [(0, .w (.one (.p (.sl 6 es22 full23)))), (46, .w (.one (.p (.sl 6 es24 full25)))), (47, I n26), (48, I x)], []⟩
set_option maxRecDepth 100000 in
theorem f21_p16e0 (es_23 : List (List PC)) (full_24 : Bool) (es_25 : List (List PC)) (full_26 : Bool) (n_27 : Int) (n_28 : Int) (N : St → Prop) (K : TExit → St → Prop) : (f21_p16b0 es_23 full_24 es_25 full_26 n_27 n_28 (fun z5 => N (f21_p16_mk es_23 full_24 es_25 full_26 n_27 z5)) (fun n0_29 => K .ret ⟨mkS 110 [(2, I n0_29)], []⟩) (fun (_ : Unit) => K (.exit 2) ⟨mkS 110 [(0, .w (.one (.p (.sl 6 es_23 full_24))))], []⟩)) = execT f21_C (nthC (bodies (bodyOf Try.f21)) 1) (f21_p16_mk es_23 full_24 es_25 full_26 n_27 n_28) (loopK N (normK f21_C 16) fun e s => K e (normOut f21_C 16 e s)) := by kernel_rfl
noncomputable def f21_p30_mk (es42 : List (List PC)) (full43 : Bool) (x : Int) : St := ⟨mkS 110 [(0, .w (.one (.p (.sl 6 es42 full43)))), (8, I x)], []⟩
set_option maxRecDepth 100000 in
theorem f21_p30e0 (es_33 : List (List PC)) (full_34 : Bool) (n_35 : Int) (N : St → Prop) (K : TExit → St → Prop) : (f21_p30b0 es_33 full_34 n_35 (fun z2 => N (f21_p30_mk es_33 full_34 z2)) (fun n0_36 => K .ret ⟨mkS 110 [(2, I n0_36)], []⟩) (fun (_ : Unit) => K (.exit 4) ⟨mkS 110 [(0, .w (.one (.p (.sl 6 es_33 full_34))))], []⟩)) = execT f21_C (nthC (bodies (bodyOf Try.f21)) 2) (f21_p30_mk es_33 full_34 n_35) (loopK N (normK f21_C 30) fun e s => K e (normOut f21_C 30 e s)) := by kernel_rfl
set_option maxHeartbeats 4000000 in
theorem f21_p4_ok : LoopOk f21_C (nthC (bodies (bodyOf Try.f21)) 0) := by
  refine LoopOk.of f21_p4L (by kernel_rfl) fun σ K h => ?_
  have hk : loopKey (nthC (bodies (bodyOf Try.f21)) 0) = 4 := by kernel_rfl
  rw [hk] at h ⊢
  generalize hs : normK f21_C 4 σ = s at h
  obtain ⟨tm, hp⟩ := s
  unfold f21_p4L at h
  dsimp only at h
  obtain ⟨xx, yy, rfl, rfl, h⟩ := getS_elim h
  refine iter_of (f21_p4_mk xx.1.1 xx.1.2 xx.2.2.1.1 xx.2.2.1.2 xx.2.2.2.1) (fun x N h => ?_) rounds _ σ (hs.trans (by kernel_rfl)) (LoopP.run h)
  rw [← f21_p4e0 xx.1.1 xx.1.2 xx.2.2.1.1 xx.2.2.1.2 xx.2.2.2.1 x N K]
  exact h
set_option maxHeartbeats 4000000 in
theorem f21_p16_ok : LoopOk f21_C (nthC (bodies (bodyOf Try.f21)) 1) := by
  refine LoopOk.of f21_p16L (by kernel_rfl) fun σ K h => ?_
  have hk : loopKey (nthC (bodies (bodyOf Try.f21)) 1) = 16 := by kernel_rfl
  rw [hk] at h ⊢
  generalize hs : normK f21_C 16 σ = s at h
  obtain ⟨tm, hp⟩ := s
  unfold f21_p16L at h
  dsimp only at h
  obtain ⟨xx, yy, rfl, rfl, h⟩ := getS_elim h
  refine iter_of (f21_p16_mk xx.1.1 xx.1.2 xx.2.2.1.1 xx.2.2.1.2 xx.2.2.2.1) (fun x N h => ?_) rounds _ σ (hs.trans (by kernel_rfl)) (LoopP.run h)
  rw [← f21_p16e0 xx.1.1 xx.1.2 xx.2.2.1.1 xx.2.2.1.2 xx.2.2.2.1 x N K]
  exact h
set_option maxHeartbeats 4000000 in
theorem f21_p30_ok : LoopOk f21_C (nthC (bodies (bodyOf Try.f21)) 2) := by
  refine LoopOk.of f21_p30L (by kernel_rfl) fun σ K h => ?_
  have hk : loopKey (nthC (bodies (bodyOf Try.f21)) 2) = 30 := by kernel_rfl
  rw [hk] at h ⊢
  generalize hs : normK f21_C 30 σ = s at h
  obtain ⟨tm, hp⟩ := s
  unfold f21_p30L at h
  dsimp only at h
  obtain ⟨xx, yy, rfl, rfl, h⟩ := getS_elim h
  refine iter_of (f21_p30_mk xx.1.1 xx.1.2) (fun x N h => ?_) rounds _ σ (hs.trans (by kernel_rfl)) (LoopP.run h)
  rw [← f21_p30e0 xx.1.1 xx.1.2 x N K]
  exact h
noncomputable def f21_G0 : List TV → List Entry → (TV → List Entry → Prop) → Prop := fun tm hp K => getS [.v (.one (.sl 6))] [] tm hp fun (xx : ((List (List PC) × Bool) × Unit)) (yy : Unit) => f21 xx.1.1 xx.1.2 (fun n0_3 => K (I n0_3) [])
set_option maxRecDepth 100000 in
theorem f21_eq (es_37 : List (List PC)) (full_38 : Bool) (K : TV → List Entry → Prop) : (f21_d es_37 full_38 (fun n0_3 => K (I n0_3) [])) = funcT f21_C Try.f21 [.w (.one (.p (.sl 6 es_37 full_38)))] [] K := by kernel_rfl
set_option maxHeartbeats 4000000 in
theorem f21_ok0 : FnOk Try.prog glob 21 f21_G0 := by
  refine FnOk.of_text (C := f21_C) tab_ok.ok (Known.add f36_G_ok (Known.add f33_G_ok (Known.none))) follows_ok (fn := Try.f21) (by kernel_rfl) (by kernel_rfl) (by kernel_rfl) (fun c hc => ?_) fun tm hp K h => ?_
  · have e : c = bodyOf Try.f21 := Option.some.inj (hc.symm.trans (by kernel_rfl))
    subst e
    exact ⟨LoopsOk.of [nthC (bodies (bodyOf Try.f21)) 0, nthC (bodies (bodyOf Try.f21)) 1, nthC (bodies (bodyOf Try.f21)) 2] (by kernel_rfl) ⟨f21_p4_ok, f21_p16_ok, f21_p30_ok, trivial⟩, TailsOk.of (tab := f21_tab) rfl [] (by kernel_rfl) trivial⟩
  · unfold f21_G0 at h
    obtain ⟨xx, yy, rfl, rfl, h⟩ := getS_elim h
    have e := (f21_eq xx.1.1 xx.1.2 K).trans (show _ = funcT f21_C Try.f21 (mkR _ xx) (mkE _ yy) K by kernel_rfl)
    rw [← e]
    exact h.run
noncomputable abbrev f21_G := f21_G0
theorem f21_G_ok : FnOk Try.prog glob 21 f21_G := f21_ok0
end Go.Eng.N
set_option linter.unusedVariables false
set_option maxRecDepth 100000
open Go Go.Eng Go.Proofs
namespace Go.Eng.N
/-! ### f32: slices.Clone(()plenum/api.Record,plenum/api.Record) -/
noncomputable def f32_d (es1 : List (List PC)) (full2 : Bool) (k0 : Nat → Nat → (List (List PC)) → Prop) : Prop := ((es1 = []) → k0 0 0 []) ∧ (0 ≤ 0 ∧ (0 + es1.length) * 48 ≤ 2 ^ 46 ∧ (0 + es1.length) ≤ 2 ^ 46 ∧ k0 0 (0 + es1.length) ([] ++ es1))
structure f32 (es1 : List (List PC)) (full2 : Bool) (k0 : Nat → Nat → (List (List PC)) → Prop) : Prop where
  run : f32_d es1 full2 k0
noncomputable def f32_tab : List (Nat × Told) := []
noncomputable def f32_call : FuncId → List TV → List Entry → (TV → List Entry → Prop) → Prop := noCalls
noncomputable def f32_C : Ctx := { ty := tyOf tab, glob := glob, byRef := byRef, keep := fun k i => lookN [] (lookN [] ([] : List (Nat × List (Nat × List Nat))) k) i, late := lookN [] ([] : List (Nat × List Nat)), nref := lookN [] ([] : List (Nat × List Nat)), nbox := lookN [] ([] : List (Nat × List (Nat × Nat))), take := [], rnil := true, m := 0, fz := false, loops := lookL f32_tab, call := f32_call }
noncomputable def f32_G0 : List TV → List Entry → (TV → List Entry → Prop) → Prop := fun tm hp K => getS [.v (.one (.sl 6))] [] tm hp fun (xx : ((List (List PC) × Bool) × Unit)) (yy : Unit) => f32 xx.1.1 xx.1.2 (fun i0_0 n0_1 es0_2 => K (.w (.one (.ref 0 i0_0 n0_1))) [.vec 6 es0_2 true])
set_option maxRecDepth 100000 in
theorem f32_eq (es_3 : List (List PC)) (full_4 : Bool) (K : TV → List Entry → Prop) : (f32_d es_3 full_4 (fun i0_0 n0_1 es0_2 => K (.w (.one (.ref 0 i0_0 n0_1))) [.vec 6 es0_2 true])) = funcT f32_C Try.f32 [.w (.one (.p (.sl 6 es_3 full_4)))] [] K := by kernel_rfl
set_option maxHeartbeats 4000000 in
theorem f32_ok0 : FnOk Try.prog glob 32 f32_G0 := by
  refine FnOk.of_text (C := f32_C) tab_ok.ok (Known.none) follows_ok (fn := Try.f32) (by kernel_rfl) (by kernel_rfl) (by kernel_rfl) (fun c hc => ?_) fun tm hp K h => ?_
  · have e : c = bodyOf Try.f32 := Option.some.inj (hc.symm.trans (by kernel_rfl))
    subst e
    exact ⟨LoopsOk.of [] (by kernel_rfl) trivial, TailsOk.of (tab := f32_tab) rfl [] (by kernel_rfl) trivial⟩
  · unfold f32_G0 at h
    obtain ⟨xx, yy, rfl, rfl, h⟩ := getS_elim h
    have e := (f32_eq xx.1.1 xx.1.2 K).trans (show _ = funcT f32_C Try.f32 (mkR _ xx) (mkE _ yy) K by kernel_rfl)
    rw [← e]
    exact h.run
noncomputable abbrev f32_G := f32_G0
theorem f32_G_ok : FnOk Try.prog glob 32 f32_G := f32_ok0
end Go.Eng.N
set_option linter.unusedVariables false
set_option maxRecDepth 100000
open Go Go.Eng Go.Proofs
namespace Go.Eng.N
/-! ### f34: plenum/collect.gap -/
noncomputable def f34_d (n1 : Int) (n2 : Int) (k0 : Int → Int → Int → Int → Int → Int → Prop) : Prop := k0 n2 0 0 0 0 (w64 ((w64 (n2 - n1)) + 1))
structure f34 (n1 : Int) (n2 : Int) (k0 : Int → Int → Int → Int → Int → Int → Prop) : Prop where
  run : f34_d n1 n2 k0
noncomputable def f34_tab : List (Nat × Told) := []
noncomputable def f34_call : FuncId → List TV → List Entry → (TV → List Entry → Prop) → Prop := noCalls
noncomputable def f34_C : Ctx := { ty := tyOf tab, glob := glob, byRef := byRef, keep := fun k i => lookN [] (lookN [] ([] : List (Nat × List (Nat × List Nat))) k) i, late := lookN [] ([] : List (Nat × List Nat)), nref := lookN [] ([] : List (Nat × List Nat)), nbox := lookN [] ([] : List (Nat × List (Nat × Nat))), take := [], rnil := false, m := 0, fz := true, loops := lookL f34_tab, call := f34_call }
noncomputable def f34_G0 : List TV → List Entry → (TV → List Entry → Prop) → Prop := fun tm hp K => getS [.v (.one (.int .i64)), .v (.one (.int .i64))] [] tm hp fun (xx : (Int × (Int × Unit))) (yy : Unit) => f34 xx.1 xx.2.1 (fun n0_0 n0_1 n0_2 n0_3 n0_4 n0_5 => K (.w (.pagg [pI n0_0, pI n0_1, pI n0_2, pI n0_3, pI n0_4, pI n0_5])) [])
set_option maxRecDepth 100000 in
theorem f34_eq (n_6 : Int) (n_7 : Int) (K : TV → List Entry → Prop) : (f34_d n_6 n_7 (fun n0_0 n0_1 n0_2 n0_3 n0_4 n0_5 => K (.w (.pagg [pI n0_0, pI n0_1, pI n0_2, pI n0_3, pI n0_4, pI n0_5])) [])) = funcT f34_C Try.f34 [I n_6, I n_7] [] K := by kernel_rfl
set_option maxHeartbeats 4000000 in
theorem f34_ok0 : FnOk Try.prog glob 34 f34_G0 := by
  refine FnOk.of_text (C := f34_C) tab_ok.ok (Known.none) follows_ok (fn := Try.f34) (by kernel_rfl) (by kernel_rfl) (by kernel_rfl) (fun c hc => ?_) fun tm hp K h => ?_
  · have e : c = bodyOf Try.f34 := Option.some.inj (hc.symm.trans (by kernel_rfl))
    subst e
    exact ⟨LoopsOk.of [] (by kernel_rfl) trivial, TailsOk.of (tab := f34_tab) rfl [] (by kernel_rfl) trivial⟩
  · unfold f34_G0 at h
    obtain ⟨xx, yy, rfl, rfl, h⟩ := getS_elim h
    have e := (f34_eq xx.1 xx.2.1 K).trans (show _ = funcT f34_C Try.f34 (mkR _ xx) (mkE _ yy) K by kernel_rfl)
    rw [← e]
    exact h.run
noncomputable abbrev f34_G := f34_G0
theorem f34_G_ok : FnOk Try.prog glob 34 f34_G := f34_ok0
end Go.Eng.N
set_option linter.unusedVariables false
set_option maxRecDepth 100000
open Go Go.Eng Go.Proofs
namespace Go.Eng.N
/-! ### f35: plenum/collect.put -/
noncomputable def f35_d (i1 : Nat) (n2 : Nat) (n3 : Int) (n4 : Int) (n5 : Int) (n6 : Int) (n7 : Int) (n8 : Int) (es9 : List (List PC)) (k0 : Nat → Nat → (List (List PC)) → Prop) : Prop := bB (decide (((n2 : Nat) : Int) > 0)) ((0 ≤ (w64 (((n2 : Nat) : Int) - 1)) ∧ (w64 (((n2 : Nat) : Int) - 1)) < ((n2 : Nat) : Int)) ∧ oI .i64 (ext (List.getD es9 (i1 + (Int.toNat (w64 (((n2 : Nat) : Int) - 1)))) []) 5 1) fun n10 => bB (decide (n10 > 0)) (bB (decide (n8 > 0)) ((0 ≤ (w64 (((n2 : Nat) : Int) - 1)) ∧ (w64 (((n2 : Nat) : Int) - 1)) < ((n2 : Nat) : Int)) ∧ oI .i64 (ext (List.getD es9 (i1 + (Int.toNat (w64 (((n2 : Nat) : Int) - 1)))) []) 5 1) fun n11 => (0 ≤ (0 : Int) ∧ (0 : Int) ≤ (w64 (((n2 : Nat) : Int) - 1)) ∧ (w64 (((n2 : Nat) : Int) - 1)) ≤ ((n2 : Nat) : Int)) ∧ ((i1 + 0) + ((Int.toNat (w64 (((n2 : Nat) : Int) - 1))) - 0)) ≤ es9.length ∧ (((Int.toNat (w64 (((n2 : Nat) : Int) - 1))) - 0) + 1) * 48 ≤ 2 ^ 46 ∧ (((Int.toNat (w64 (((n2 : Nat) : Int) - 1))) - 0) + 1) ≤ 2 ^ 46 ∧ k0 0 (((Int.toNat (w64 (((n2 : Nat) : Int) - 1))) - 0) + 1) ((List.take ((Int.toNat (w64 (((n2 : Nat) : Int) - 1))) - 0) (List.drop (i1 + 0) es9)) ++ [[pI n3, pI n4, pI n5, pI n6, pI n7, pI (w64 (n8 + n11))]])) ((i1 + n2) ≤ es9.length ∧ (n2 + 1) * 48 ≤ 2 ^ 46 ∧ (n2 + 1) ≤ 2 ^ 46 ∧ k0 0 (n2 + 1) ((List.take n2 (List.drop i1 es9)) ++ [[pI n3, pI n4, pI n5, pI n6, pI n7, pI n8]]))) ((i1 + n2) ≤ es9.length ∧ (n2 + 1) * 48 ≤ 2 ^ 46 ∧ (n2 + 1) ≤ 2 ^ 46 ∧ k0 0 (n2 + 1) ((List.take n2 (List.drop i1 es9)) ++ [[pI n3, pI n4, pI n5, pI n6, pI n7, pI n8]]))) ((i1 + n2) ≤ es9.length ∧ (n2 + 1) * 48 ≤ 2 ^ 46 ∧ (n2 + 1) ≤ 2 ^ 46 ∧ k0 0 (n2 + 1) ((List.take n2 (List.drop i1 es9)) ++ [[pI n3, pI n4, pI n5, pI n6, pI n7, pI n8]]))
structure f35 (i1 : Nat) (n2 : Nat) (n3 : Int) (n4 : Int) (n5 : Int) (n6 : Int) (n7 : Int) (n8 : Int) (es9 : List (List PC)) (k0 : Nat → Nat → (List (List PC)) → Prop) : Prop where
  run : f35_d i1 n2 n3 n4 n5 n6 n7 n8 es9 k0
noncomputable def f35_tab : List (Nat × Told) := []
noncomputable def f35_call : FuncId → List TV → List Entry → (TV → List Entry → Prop) → Prop := noCalls
noncomputable def f35_C : Ctx := { ty := tyOf tab, glob := glob, byRef := byRef, keep := fun k i => lookN [] (lookN [] ([] : List (Nat × List (Nat × List Nat))) k) i, late := lookN [] ([] : List (Nat × List Nat)), nref := lookN [] ([] : List (Nat × List Nat)), nbox := lookN [] ([] : List (Nat × List (Nat × Nat))), take := [], rnil := true, m := 1, fz := false, loops := lookL f35_tab, call := f35_call }
noncomputable def f35_G0 : List TV → List Entry → (TV → List Entry → Prop) → Prop := fun tm hp K => getS [.v (.one (.ref 0)), .v (.pagg [.int .i64, .int .i64, .int .i64, .int .i64, .int .i64, .int .i64])] [.vec 6 true] tm hp fun (xx : ((Nat × Nat) × ((Int × (Int × (Int × (Int × (Int × (Int × Unit)))))) × Unit))) (yy : ((List (List PC)) × Unit)) => f35 xx.1.1 xx.1.2 xx.2.1.1 xx.2.1.2.1 xx.2.1.2.2.1 xx.2.1.2.2.2.1 xx.2.1.2.2.2.2.1 xx.2.1.2.2.2.2.2.1 yy.1 (fun i0_0 n0_1 es0_2 => K (.w (.one (.ref 1 i0_0 n0_1))) [.gone, .vec 6 es0_2 true])
set_option maxRecDepth 100000 in
theorem f35_eq (i_3 : Nat) (n_4 : Nat) (n_5 : Int) (n_6 : Int) (n_7 : Int) (n_8 : Int) (n_9 : Int) (n_10 : Int) (es_11 : List (List PC)) (K : TV → List Entry → Prop) : (f35_d i_3 n_4 n_5 n_6 n_7 n_8 n_9 n_10 es_11 (fun i0_0 n0_1 es0_2 => K (.w (.one (.ref 1 i0_0 n0_1))) [.gone, .vec 6 es0_2 true])) = funcT f35_C Try.f35 [.w (.one (.ref 0 i_3 n_4)), .w (.pagg [pI n_5, pI n_6, pI n_7, pI n_8, pI n_9, pI n_10])] [.vec 6 es_11 true] K := by kernel_rfl
set_option maxHeartbeats 4000000 in
theorem f35_ok0 : FnOk Try.prog glob 35 f35_G0 := by
  refine FnOk.of_text (C := f35_C) tab_ok.ok (Known.none) follows_ok (fn := Try.f35) (by kernel_rfl) (by kernel_rfl) (by kernel_rfl) (fun c hc => ?_) fun tm hp K h => ?_
  · have e : c = bodyOf Try.f35 := Option.some.inj (hc.symm.trans (by kernel_rfl))
    subst e
    exact ⟨LoopsOk.of [] (by kernel_rfl) trivial, TailsOk.of (tab := f35_tab) rfl [] (by kernel_rfl) trivial⟩
  · unfold f35_G0 at h
    obtain ⟨xx, yy, rfl, rfl, h⟩ := getS_elim h
    have e := (f35_eq xx.1.1 xx.1.2 xx.2.1.1 xx.2.1.2.1 xx.2.1.2.2.1 xx.2.1.2.2.2.1 xx.2.1.2.2.2.2.1 xx.2.1.2.2.2.2.2.1 yy.1 K).trans (show _ = funcT f35_C Try.f35 (mkR _ xx) (mkE _ yy) K by kernel_rfl)
    rw [← e]
    exact h.run
noncomputable abbrev f35_G := f35_G0
theorem f35_G_ok : FnOk Try.prog glob 35 f35_G := f35_ok0
end Go.Eng.N
set_option linter.unusedVariables false
set_option maxRecDepth 100000
open Go Go.Eng Go.Proofs
namespace Go.Eng.N
/-! ### f13: (*plenum/collect.Collector).Take -/
noncomputable def f13_p31 (i62 : Nat) (n63 : Nat) (n64 : Int) (es65 : List (List PC)) (full66 : Bool) (n67 : Int) (n68 : Int) (es69 : List (List PC)) (n70 : Int) (n71 : Int) (n72 : Int) (n73 : Int) (n74 : Int) (n75 : Int) (k0 : Nat → Nat → Int → Int → (List (List PC)) → Prop) : Prop := bB (n75 == 0) (f35 i62 n63 n70 n71 n72 n73 n74 n75 es69 (fun i76 n77 es78 => k0 i76 n77 (w64 (n70 + 1)) (w64 (n64 + 1)) es78)) (f35 i62 n63 n70 n71 n72 n73 n74 n75 es69 (fun i79 n80 es81 => k0 i79 n80 (w64 (n70 + 1)) n64 es81))
noncomputable def f13_p27 (i36 : Nat) (n37 : Nat) (n38 : Int) (n39 : Int) (es40 : List (List PC)) (full41 : Bool) (n42 : Int) (n43 : Int) (es44 : List (List PC)) (n45 : Int) (n46 : Int) (n47 : Int) (n48 : Int) (n49 : Int) (n50 : Int) (k0 : Nat → Nat → Int → Int → (List (List PC)) → Prop) : Prop := f33 n45 n46 n47 n48 n49 n50 (fun n51 => bB (decide (n51 > n38)) (f33 n45 n46 n47 n48 n49 n50 (fun n52 => f34 n38 (w64 (n52 - 1)) (fun n53 n54 n55 n56 n57 n58 => f35 i36 n37 n53 n54 n55 n56 n57 n58 es44 (fun i59 n60 es61 => f13_p31 i59 n60 n39 es40 full41 n42 n43 es61 n45 n46 n47 n48 n49 n50 (fun i82 n83 n84 n85 es86 => k0 i82 n83 n84 n85 es86))))) (f13_p31 i36 n37 n39 es40 full41 n42 n43 es44 n45 n46 n47 n48 n49 n50 (fun i87 n88 n89 n90 es91 => k0 i87 n88 n89 n90 es91)))
noncomputable def f13_p16b0 (i8 : Nat) (n9 : Nat) (n10 : Int) (n11 : Int) (es12 : List (List PC)) (full13 : Bool) (n14 : Int) (n15 : Int) (es16 : List (List PC)) (N0 : Nat → Nat → Int → Int → Int → (List (List PC)) → Prop) (k0 : Nat → Nat → Int → (List (List PC)) → Prop) : Prop := bB (decide (n15 < n14)) ((0 ≤ n15 ∧ n15 < ((es12.length : Nat) : Int)) ∧ cI .i64 (ext (List.getD es12 (Int.toNat n15) []) 0 6) fun n18 r17 => cI .i64 r17 fun n20 r19 => cI .i64 r19 fun n22 r21 => cI .i64 r21 fun n24 r23 => cI .i64 r23 fun n26 r25 => cI .i64 r25 fun n28 r27 => nilC r27 <| bB (decide (n18 < n10)) (N0 i8 n9 n10 n11 (w64 (n15 + 1)) es16) (bB (decide (n28 > 0)) (f33 n18 n20 n22 n24 n26 n28 (fun n29 => bB (decide (n29 < n10)) (f34 n10 n18 (fun n30 n31 n32 n33 n34 n35 => f13_p27 i8 n9 n10 n11 es12 full13 n14 n15 es16 n30 n31 n32 n33 n34 n35 (fun i92 n93 n94 n95 es96 => N0 i92 n93 n94 n95 (w64 (n15 + 1)) es96))) (f13_p27 i8 n9 n10 n11 es12 full13 n14 n15 es16 n18 n20 n22 n24 n26 n28 (fun i97 n98 n99 n100 es101 => N0 i97 n98 n99 n100 (w64 (n15 + 1)) es101)))) (f13_p27 i8 n9 n10 n11 es12 full13 n14 n15 es16 n18 n20 n22 n24 n26 n28 (fun i102 n103 n104 n105 es106 => N0 i102 n103 n104 n105 (w64 (n15 + 1)) es106)))) (k0 i8 n9 n11 es16)
noncomputable def f13_p16 (es12 : List (List PC)) (full13 : Bool) (n14 : Int) (k0 : Nat → Nat → Int → (List (List PC)) → Prop) : Nat × Nat × Int × Int × Int × (List (List PC)) → Prop := LoopP fun x N => f13_p16b0 x.1 x.2.1 x.2.2.1 x.2.2.2.1 es12 full13 n14 x.2.2.2.2.1 x.2.2.2.2.2 (fun i8 n9 n10 n11 n15 es16 => N (i8, n9, n10, n11, n15, es16)) k0
noncomputable def f13_d (es1 : List (List PC)) (full2 : Bool) (k0 : Int → Int → Prop) (k1 : Int → Int → Nat → Nat → (List (List PC)) → Prop) : Prop := f21 es1 full2 (fun n3 => bB (n3 != 0) (k0 0 n3) (f32 [] true (fun i4 n5 es6 => f15 (fun n7 => f13_p16 es1 full2 ((es1.length : Nat) : Int) (fun i107 n108 n109 es110 => f36 (List.take n108 (List.drop i107 es110)) false (fun n111 => bB (decide (n111 ≥ 0)) (k0 0 15) (k1 n109 0 i107 n108 es110))) (i4, n5, n7, 0, 0, es6)))))
structure f13 (es1 : List (List PC)) (full2 : Bool) (k0 : Int → Int → Prop) (k1 : Int → Int → Nat → Nat → (List (List PC)) → Prop) : Prop where
  run : f13_d es1 full2 k0 k1
noncomputable def f13_p31L : Told := fun s K => match s with
  | ⟨tm, hp⟩ => getS [.v (.one (.ptr 0 0 0)), .skip 6, .v (.one (.ref 1)), .skip 1, .v (.one (.int .i64)), .skip 1, .v (.one (.ptr 2 0 0)), .skip 12, .v (.one (.sl 6)), .v (.one (.int .i64)), .v (.one (.int .i64)), .skip 51] [.box [.nil 6], .vec 6 true, .box [.int .i64, .int .i64, .int .i64, .int .i64, .int .i64, .int .i64]] tm hp fun (xx : (Unit × (Unit × ((Nat × Nat) × (Unit × (Int × (Unit × (Unit × (Unit × ((List (List PC) × Bool) × (Int × (Int × (Unit × Unit))))))))))))) (yy : ((Unit × Unit) × ((List (List PC)) × ((Int × (Int × (Int × (Int × (Int × (Int × Unit)))))) × Unit)))) => f13_p31 xx.2.2.1.1 xx.2.2.1.2 xx.2.2.2.2.1 xx.2.2.2.2.2.2.2.2.1.1 xx.2.2.2.2.2.2.2.2.1.2 xx.2.2.2.2.2.2.2.2.2.1 xx.2.2.2.2.2.2.2.2.2.2.1 yy.2.1 yy.2.2.1.1 yy.2.2.1.2.1 yy.2.2.1.2.2.1 yy.2.2.1.2.2.2.1 yy.2.2.1.2.2.2.2.1 yy.2.2.1.2.2.2.2.2.1 (fun i0_0 n0_1 n0_2 n0_3 es0_4 => K .normal ⟨mkS 78 [(0, .w (.one (.ptr 0 0 0))), (7, .w (.one (.ref 1 i0_0 n0_1))), (8, I n0_2), (9, I n0_3), (24, .w (.one (.p (.sl 6 xx.2.2.2.2.2.2.2.2.1.1 xx.2.2.2.2.2.2.2.2.1.2)))), (25, I xx.2.2.2.2.2.2.2.2.2.1), (26, I xx.2.2.2.2.2.2.2.2.2.2.1)], [.box [.p (.sl 6 [] true)], .vec 6 es0_4 true]⟩)
noncomputable def f13_p27L : Told := fun s K => match s with
  | ⟨tm, hp⟩ => getS [.v (.one (.ptr 0 0 0)), .skip 6, .v (.one (.ref 1)), .v (.one (.int .i64)), .v (.one (.int .i64)), .skip 1, .v (.one (.ptr 2 0 0)), .skip 12, .v (.one (.sl 6)), .v (.one (.int .i64)), .v (.one (.int .i64)), .skip 51] [.box [.nil 6], .vec 6 true, .box [.int .i64, .int .i64, .int .i64, .int .i64, .int .i64, .int .i64]] tm hp fun (xx : (Unit × (Unit × ((Nat × Nat) × (Int × (Int × (Unit × (Unit × (Unit × ((List (List PC) × Bool) × (Int × (Int × (Unit × Unit))))))))))))) (yy : ((Unit × Unit) × ((List (List PC)) × ((Int × (Int × (Int × (Int × (Int × (Int × Unit)))))) × Unit)))) => f13_p27 xx.2.2.1.1 xx.2.2.1.2 xx.2.2.2.1 xx.2.2.2.2.1 xx.2.2.2.2.2.2.2.2.1.1 xx.2.2.2.2.2.2.2.2.1.2 xx.2.2.2.2.2.2.2.2.2.1 xx.2.2.2.2.2.2.2.2.2.2.1 yy.2.1 yy.2.2.1.1 yy.2.2.1.2.1 yy.2.2.1.2.2.1 yy.2.2.1.2.2.2.1 yy.2.2.1.2.2.2.2.1 yy.2.2.1.2.2.2.2.2.1 (fun i0_5 n0_6 n0_7 n0_8 es0_9 => K .normal ⟨mkS 78 [(0, .w (.one (.ptr 0 0 0))), (7, .w (.one (.ref 1 i0_5 n0_6))), (8, I n0_7), (9, I n0_8), (24, .w (.one (.p (.sl 6 xx.2.2.2.2.2.2.2.2.1.1 xx.2.2.2.2.2.2.2.2.1.2)))), (25, I xx.2.2.2.2.2.2.2.2.2.1), (26, I xx.2.2.2.2.2.2.2.2.2.2.1)], [.box [.p (.sl 6 [] true)], .vec 6 es0_9 true]⟩)
noncomputable def f13_p16L : Told := fun s K => match s with
  | ⟨tm, hp⟩ => getS [.v (.one (.ptr 0 0 0)), .skip 6, .v (.one (.ref 1)), .v (.one (.int .i64)), .v (.one (.int .i64)), .skip 14, .v (.one (.sl 6)), .v (.one (.int .i64)), .v (.one (.int .i64)), .skip 51] [.box [.nil 6], .vec 6 true] tm hp fun (xx : (Unit × (Unit × ((Nat × Nat) × (Int × (Int × (Unit × ((List (List PC) × Bool) × (Int × (Int × (Unit × Unit))))))))))) (yy : ((Unit × Unit) × ((List (List PC)) × Unit))) => f13_p16 xx.2.2.2.2.2.2.1.1 xx.2.2.2.2.2.2.1.2 xx.2.2.2.2.2.2.2.1 (fun i0_10 n0_11 n0_12 es0_13 => K (.exit 0) ⟨mkS 78 [(0, .w (.one (.ptr 0 0 0))), (7, .w (.one (.ref 1 i0_10 n0_11))), (9, I n0_12)], [.box [.p (.sl 6 [] true)], .vec 6 es0_13 true]⟩) (xx.2.2.1.1, xx.2.2.1.2, xx.2.2.2.1, xx.2.2.2.2.1, xx.2.2.2.2.2.2.2.2.1, yy.2.1)
noncomputable def f13_tab : List (Nat × Told) := [(31, f13_p31L), (27, f13_p27L), (16, f13_p16L)]
noncomputable def f13_call : FuncId → List TV → List Entry → (TV → List Entry → Prop) → Prop := addCall 36 f36_G (addCall 35 f35_G (addCall 34 f34_G (addCall 33 f33_G (addCall 32 f32_G (addCall 21 f21_G (addCall 15 f15_G (noCalls)))))))
noncomputable def f13_C : Ctx := { ty := tyOf tab, glob := glob, byRef := byRef, keep := fun k i => lookN [] (lookN [] ([(31, [(0, [0, 7, 9, 11, 24, 25, 26]), (1, [0, 7, 8, 9, 24, 25, 26]), (2, [4, 5]), (3, [0, 7, 9]), (4, [0, 7, 8, 9, 24, 25, 26])]), (27, [(0, [0, 7, 8, 9, 11, 24, 25, 26]), (1, [0, 7, 8, 9, 24, 25, 26]), (2, [4, 5]), (3, [0, 7, 9]), (4, [0, 7, 8, 9, 24, 25, 26])]), (16, [(0, [0, 7, 8, 9, 24, 25, 26]), (2, [4, 5]), (3, [0, 7, 9])])] : List (Nat × List (Nat × List Nat))) k) i, late := lookN [] ([] : List (Nat × List Nat)), nref := lookN [] ([] : List (Nat × List Nat)), nbox := lookN [] ([] : List (Nat × List (Nat × Nat))), take := [], rnil := false, m := 1, fz := true, loops := lookL f13_tab, call := f13_call }
set_option maxRecDepth 100000 in
theorem f13_p31e0 (i_21 : Nat) (n_22 : Nat) (n_23 : Int) (es_24 : List (List PC)) (full_25 : Bool) (n_26 : Int) (n_27 : Int) (es_28 : List (List PC)) (n_29 : Int) (n_30 : Int) (n_31 : Int) (n_32 : Int) (n_33 : Int) (n_34 : Int) (K : TExit → St → Prop) : (f13_p31 i_21 n_22 n_23 es_24 full_25 n_26 n_27 es_28 n_29 n_30 n_31 n_32 n_33 n_34 (fun i0_35 n0_36 n0_37 n0_38 es0_39 => K .normal ⟨mkS 78 [(0, .w (.one (.ptr 0 0 0))), (7, .w (.one (.ref 1 i0_35 n0_36))), (8, I n0_37), (9, I n0_38), (24, .w (.one (.p (.sl 6 es_24 full_25)))), (25, I n_26), (26, I n_27)], [.box [.p (.sl 6 [] true)], .vec 6 es0_39 true]⟩)) = execT f13_C (nthC (tails (bodyOf Try.f13)) 18) ⟨mkS 78 [(0, .w (.one (.ptr 0 0 0))), (7, .w (.one (.ref 1 i_21 n_22))), (9, I n_23), (11, .w (.one (.ptr 2 0 0))), (24, .w (.one (.p (.sl 6 es_24 full_25)))), (25, I n_26), (26, I n_27)], [.box [.p (.sl 6 [] true)], .vec 6 es_28 true, .box [.p (pI n_29), .p (pI n_30), .p (pI n_31), .p (pI n_32), .p (pI n_33), .p (pI n_34)]]⟩ (fun e s => K e (normOut f13_C 31 e s)) := by kernel_rfl
set_option maxRecDepth 100000 in
theorem f13_p27e0 (i_40 : Nat) (n_41 : Nat) (n_42 : Int) (n_43 : Int) (es_44 : List (List PC)) (full_45 : Bool) (n_46 : Int) (n_47 : Int) (es_48 : List (List PC)) (n_49 : Int) (n_50 : Int) (n_51 : Int) (n_52 : Int) (n_53 : Int) (n_54 : Int) (K : TExit → St → Prop) : (f13_p27 i_40 n_41 n_42 n_43 es_44 full_45 n_46 n_47 es_48 n_49 n_50 n_51 n_52 n_53 n_54 (fun i0_55 n0_56 n0_57 n0_58 es0_59 => K .normal ⟨mkS 78 [(0, .w (.one (.ptr 0 0 0))), (7, .w (.one (.ref 1 i0_55 n0_56))), (8, I n0_57), (9, I n0_58), (24, .w (.one (.p (.sl 6 es_44 full_45)))), (25, I n_46), (26, I n_47)], [.box [.p (.sl 6 [] true)], .vec 6 es0_59 true]⟩)) = execT f13_C (nthC (tails (bodyOf Try.f13)) 16) ⟨mkS 78 [(0, .w (.one (.ptr 0 0 0))), (7, .w (.one (.ref 1 i_40 n_41))), (8, I n_42), (9, I n_43), (11, .w (.one (.ptr 2 0 0))), (24, .w (.one (.p (.sl 6 es_44 full_45)))), (25, I n_46), (26, I n_47)], [.box [.p (.sl 6 [] true)], .vec 6 es_48 true, .box [.p (pI n_49), .p (pI n_50), .p (pI n_51), .p (pI n_52), .p (pI n_53), .p (pI n_54)]]⟩ (fun e s => K e (normOut f13_C 27 e s)) := by kernel_rfl
noncomputable def f13_p16_mk (es12 : List (List PC)) (full13 : Bool) (n14 : Int) (x : Nat × Nat × Int × Int × Int × (List (List PC))) : St := ⟨mkS 78 [(0, .w (.one (.ptr 0 0 0))), (7, .w (.one (.ref 1 x.1 x.2.1))), (8, I x.2.2.1), (9, I x.2.2.2.1), (24, .w (.one (.p (.sl 6 es12 full13)))), (25, I n14), (26, I x.2.2.2.2.1)], [.box [.p (.sl 6 [] true)], .vec 6 x.2.2.2.2.2 true]⟩
set_option maxRecDepth 100000 in
theorem f13_p16e0 (i_69 : Nat) (n_70 : Nat) (n_71 : Int) (n_72 : Int) (es_73 : List (List PC)) (full_74 : Bool) (n_75 : Int) (n_76 : Int) (es_77 : List (List PC)) (N : St → Prop) (K : TExit → St → Prop) : (f13_p16b0 i_69 n_70 n_71 n_72 es_73 full_74 n_75 n_76 es_77 (fun z0 z1 z2 z3 z7 z8 => N (f13_p16_mk es_73 full_74 n_75 (z0, z1, z2, z3, z7, z8))) (fun i0_78 n0_79 n0_80 es0_81 => K (.exit 0) ⟨mkS 78 [(0, .w (.one (.ptr 0 0 0))), (7, .w (.one (.ref 1 i0_78 n0_79))), (9, I n0_80)], [.box [.p (.sl 6 [] true)], .vec 6 es0_81 true]⟩)) = execT f13_C (nthC (bodies (bodyOf Try.f13)) 0) (f13_p16_mk es_73 full_74 n_75 (i_69, n_70, n_71, n_72, n_76, es_77)) (loopK N (normK f13_C 16) fun e s => K e (normOut f13_C 16 e s)) := by kernel_rfl
set_option maxHeartbeats 4000000 in
theorem f13_p31_ok : TailOk f13_C (nthC (tails (bodyOf Try.f13)) 18) := by
  refine TailOk.of f13_p31L (by kernel_rfl) fun σ K h => ?_
  have hk : joinKey (nthC (tails (bodyOf Try.f13)) 18) = 31 := by kernel_rfl
  rw [hk] at h ⊢
  generalize hs : normK f13_C 31 σ = s at h
  obtain ⟨tm, hp⟩ := s
  unfold f13_p31L at h
  dsimp only at h
  obtain ⟨xx, yy, rfl, rfl, h⟩ := getS_elim h
  have q : normK f13_C 31 σ = (⟨mkS 78 [(0, .w (.one (.ptr 0 0 0))), (7, .w (.one (.ref 1 xx.2.2.1.1 xx.2.2.1.2))), (9, I xx.2.2.2.2.1), (11, .w (.one (.ptr 2 0 0))), (24, .w (.one (.p (.sl 6 xx.2.2.2.2.2.2.2.2.1.1 xx.2.2.2.2.2.2.2.2.1.2)))), (25, I xx.2.2.2.2.2.2.2.2.2.1), (26, I xx.2.2.2.2.2.2.2.2.2.2.1)], [.box [.p (.sl 6 [] true)], .vec 6 yy.2.1 true, .box [.p (pI yy.2.2.1.1), .p (pI yy.2.2.1.2.1), .p (pI yy.2.2.1.2.2.1), .p (pI yy.2.2.1.2.2.2.1), .p (pI yy.2.2.1.2.2.2.2.1), .p (pI yy.2.2.1.2.2.2.2.2.1)]]⟩ : St) := hs.trans (by kernel_rfl)
  rw [← hs, q, ← f13_p31e0 xx.2.2.1.1 xx.2.2.1.2 xx.2.2.2.2.1 xx.2.2.2.2.2.2.2.2.1.1 xx.2.2.2.2.2.2.2.2.1.2 xx.2.2.2.2.2.2.2.2.2.1 xx.2.2.2.2.2.2.2.2.2.2.1 yy.2.1 yy.2.2.1.1 yy.2.2.1.2.1 yy.2.2.1.2.2.1 yy.2.2.1.2.2.2.1 yy.2.2.1.2.2.2.2.1 yy.2.2.1.2.2.2.2.2.1 K]
  exact h
set_option maxHeartbeats 4000000 in
theorem f13_p27_ok : TailOk f13_C (nthC (tails (bodyOf Try.f13)) 16) := by
  refine TailOk.of f13_p27L (by kernel_rfl) fun σ K h => ?_
  have hk : joinKey (nthC (tails (bodyOf Try.f13)) 16) = 27 := by kernel_rfl
  rw [hk] at h ⊢
  generalize hs : normK f13_C 27 σ = s at h
  obtain ⟨tm, hp⟩ := s
  unfold f13_p27L at h
  dsimp only at h
  obtain ⟨xx, yy, rfl, rfl, h⟩ := getS_elim h
  have q : normK f13_C 27 σ = (⟨mkS 78 [(0, .w (.one (.ptr 0 0 0))), (7, .w (.one (.ref 1 xx.2.2.1.1 xx.2.2.1.2))), (8, I xx.2.2.2.1), (9, I xx.2.2.2.2.1), (11, .w (.one (.ptr 2 0 0))), (24, .w (.one (.p (.sl 6 xx.2.2.2.2.2.2.2.2.1.1 xx.2.2.2.2.2.2.2.2.1.2)))), (25, I xx.2.2.2.2.2.2.2.2.2.1), (26, I xx.2.2.2.2.2.2.2.2.2.2.1)], [.box [.p (.sl 6 [] true)], .vec 6 yy.2.1 true, .box [.p (pI yy.2.2.1.1), .p (pI yy.2.2.1.2.1), .p (pI yy.2.2.1.2.2.1), .p (pI yy.2.2.1.2.2.2.1), .p (pI yy.2.2.1.2.2.2.2.1), .p (pI yy.2.2.1.2.2.2.2.2.1)]]⟩ : St) := hs.trans (by kernel_rfl)
  rw [← hs, q, ← f13_p27e0 xx.2.2.1.1 xx.2.2.1.2 xx.2.2.2.1 xx.2.2.2.2.1 xx.2.2.2.2.2.2.2.2.1.1 xx.2.2.2.2.2.2.2.2.1.2 xx.2.2.2.2.2.2.2.2.2.1 xx.2.2.2.2.2.2.2.2.2.2.1 yy.2.1 yy.2.2.1.1 yy.2.2.1.2.1 yy.2.2.1.2.2.1 yy.2.2.1.2.2.2.1 yy.2.2.1.2.2.2.2.1 yy.2.2.1.2.2.2.2.2.1 K]
  exact h
set_option maxHeartbeats 4000000 in
theorem f13_p16_ok : LoopOk f13_C (nthC (bodies (bodyOf Try.f13)) 0) := by
  refine LoopOk.of f13_p16L (by kernel_rfl) fun σ K h => ?_
  have hk : loopKey (nthC (bodies (bodyOf Try.f13)) 0) = 16 := by kernel_rfl
  rw [hk] at h ⊢
  generalize hs : normK f13_C 16 σ = s at h
  obtain ⟨tm, hp⟩ := s
  unfold f13_p16L at h
  dsimp only at h
  obtain ⟨xx, yy, rfl, rfl, h⟩ := getS_elim h
  refine iter_of (f13_p16_mk xx.2.2.2.2.2.2.1.1 xx.2.2.2.2.2.2.1.2 xx.2.2.2.2.2.2.2.1) (fun x N h => ?_) rounds _ σ (hs.trans (by kernel_rfl)) (LoopP.run h)
  obtain ⟨y0, y1, y2, y3, y4, y5⟩ := x
  rw [← f13_p16e0 y0 y1 y2 y3 xx.2.2.2.2.2.2.1.1 xx.2.2.2.2.2.2.1.2 xx.2.2.2.2.2.2.2.1 y4 y5 N K]
  exact h
noncomputable def f13_G0 : List TV → List Entry → (TV → List Entry → Prop) → Prop := fun tm hp K => getS [.v (.one (.ptr 0 0 0)), .v (.one (.sl 6))] [.box [.nil 6]] tm hp fun (xx : (Unit × ((List (List PC) × Bool) × Unit))) (yy : ((Unit × Unit) × Unit)) => f13 xx.2.1.1 xx.2.1.2 (fun n0_14 n0_15 => K (.tup [.one (.p (pI n0_14)), .one (.p (pI n0_15))]) [.box [.p (.sl 6 [] true)]]) (fun n1_16 n1_17 i1_18 n1_19 es1_20 => K (.tup [.one (.p (pI n1_16)), .one (.p (pI n1_17))]) [.box [.ref 1 i1_18 n1_19], .vec 6 es1_20 true])
set_option maxRecDepth 100000 in
theorem f13_eq (es_82 : List (List PC)) (full_83 : Bool) (K : TV → List Entry → Prop) : (f13_d es_82 full_83 (fun n0_14 n0_15 => K (.tup [.one (.p (pI n0_14)), .one (.p (pI n0_15))]) [.box [.p (.sl 6 [] true)]]) (fun n1_16 n1_17 i1_18 n1_19 es1_20 => K (.tup [.one (.p (pI n1_16)), .one (.p (pI n1_17))]) [.box [.ref 1 i1_18 n1_19], .vec 6 es1_20 true])) = funcT f13_C Try.f13 [.w (.one (.ptr 0 0 0)), .w (.one (.p (.sl 6 es_82 full_83)))] [.box [.p (.sl 6 [] true)]] K := by kernel_rfl
set_option maxHeartbeats 4000000 in
theorem f13_ok0 : FnOk Try.prog glob 13 f13_G0 := by
  refine FnOk.of_text (C := f13_C) tab_ok.ok (Known.add f36_G_ok (Known.add f35_G_ok (Known.add f34_G_ok (Known.add f33_G_ok (Known.add f32_G_ok (Known.add f21_G_ok (Known.add f15_G_ok (Known.none)))))))) follows_ok (fn := Try.f13) (by kernel_rfl) (by kernel_rfl) (by kernel_rfl) (fun c hc => ?_) fun tm hp K h => ?_
  · have e : c = bodyOf Try.f13 := Option.some.inj (hc.symm.trans (by kernel_rfl))
    subst e
    exact ⟨LoopsOk.of [nthC (bodies (bodyOf Try.f13)) 0] (by kernel_rfl) ⟨f13_p16_ok, trivial⟩, TailsOk.of (tab := f13_tab) rfl [nthC (tails (bodyOf Try.f13)) 16, nthC (tails (bodyOf Try.f13)) 18] (by kernel_rfl) ⟨f13_p27_ok, f13_p31_ok, trivial⟩⟩
  · unfold f13_G0 at h
    obtain ⟨xx, yy, rfl, rfl, h⟩ := getS_elim h
    have e := (f13_eq xx.2.1.1 xx.2.1.2 K).trans (show _ = funcT f13_C Try.f13 (mkR _ xx) (mkE _ yy) K by kernel_rfl)
    rw [← e]
    exact h.run
noncomputable abbrev f13_G := f13_G0
theorem f13_G_ok : FnOk Try.prog glob 13 f13_G := f13_ok0
end Go.Eng.N
set_option linter.unusedVariables false
set_option maxRecDepth 100000
open Go Go.Eng Go.Proofs
namespace Go.Eng.N
/-! ### f15_1: (*plenum/collect.Collector).From -/
noncomputable def f15_1_d (i1 : Nat) (n2 : Nat) (es3 : List (List PC)) (k0 : Int → Nat → Nat → (List (List PC)) → Prop) : Prop := bB (((n2 : Nat) : Int) == 0) (k0 1 i1 n2 es3) ((0 ≤ (w64 (((n2 : Nat) : Int) - 1)) ∧ (w64 (((n2 : Nat) : Int) - 1)) < ((n2 : Nat) : Int)) ∧ oI .i64 (ext (List.getD es3 (i1 + (Int.toNat (w64 (((n2 : Nat) : Int) - 1)))) []) 0 1) fun n4 => k0 (w64 (n4 + 1)) i1 n2 es3)
structure f15_1 (i1 : Nat) (n2 : Nat) (es3 : List (List PC)) (k0 : Int → Nat → Nat → (List (List PC)) → Prop) : Prop where
  run : f15_1_d i1 n2 es3 k0
noncomputable def f15_1_tab : List (Nat × Told) := []
noncomputable def f15_1_call : FuncId → List TV → List Entry → (TV → List Entry → Prop) → Prop := noCalls
noncomputable def f15_1_C : Ctx := { ty := tyOf tab, glob := glob, byRef := byRef, keep := fun k i => lookN [] (lookN [] ([] : List (Nat × List (Nat × List Nat))) k) i, late := lookN [] ([] : List (Nat × List Nat)), nref := lookN [] ([] : List (Nat × List Nat)), nbox := lookN [] ([] : List (Nat × List (Nat × Nat))), take := [], rnil := false, m := 2, fz := true, loops := lookL f15_1_tab, call := f15_1_call }
noncomputable def f15_1_G0 : List TV → List Entry → (TV → List Entry → Prop) → Prop := fun tm hp K => getS [.v (.one (.ptr 0 0 0))] [.box [.ref 1], .vec 6 true] tm hp fun (xx : (Unit × Unit)) (yy : (((Nat × Nat) × Unit) × ((List (List PC)) × Unit))) => f15_1 yy.1.1.1 yy.1.1.2 yy.2.1 (fun n0_0 i0_1 n0_2 es0_3 => K (I n0_0) [.box [.ref 1 i0_1 n0_2], .vec 6 es0_3 true])
set_option maxRecDepth 100000 in
theorem f15_1_eq (i_4 : Nat) (n_5 : Nat) (es_6 : List (List PC)) (K : TV → List Entry → Prop) : (f15_1_d i_4 n_5 es_6 (fun n0_0 i0_1 n0_2 es0_3 => K (I n0_0) [.box [.ref 1 i0_1 n0_2], .vec 6 es0_3 true])) = funcT f15_1_C Try.f15 [.w (.one (.ptr 0 0 0))] [.box [.ref 1 i_4 n_5], .vec 6 es_6 true] K := by kernel_rfl
set_option maxHeartbeats 4000000 in
theorem f15_1_ok0 : FnOk Try.prog glob 15 f15_1_G0 := by
  refine FnOk.of_text (C := f15_1_C) tab_ok.ok (Known.none) follows_ok (fn := Try.f15) (by kernel_rfl) (by kernel_rfl) (by kernel_rfl) (fun c hc => ?_) fun tm hp K h => ?_
  · have e : c = bodyOf Try.f15 := Option.some.inj (hc.symm.trans (by kernel_rfl))
    subst e
    exact ⟨LoopsOk.of [] (by kernel_rfl) trivial, TailsOk.of (tab := f15_1_tab) rfl [] (by kernel_rfl) trivial⟩
  · unfold f15_1_G0 at h
    obtain ⟨xx, yy, rfl, rfl, h⟩ := getS_elim h
    have e := (f15_1_eq yy.1.1.1 yy.1.1.2 yy.2.1 K).trans (show _ = funcT f15_1_C Try.f15 (mkR _ xx) (mkE _ yy) K by kernel_rfl)
    rw [← e]
    exact h.run
noncomputable def f15_1_G : List TV → List Entry → (TV → List Entry → Prop) → Prop := fun args H K => bif isSig (sigOf args H) [200, 7, 20, 101, 22] then f15_1_G0 args H K else f15_G args H K
theorem f15_1_G_ok : FnOk Try.prog glob 15 f15_1_G := FnOk.or _ f15_1_ok0 f15_G_ok
end Go.Eng.N
set_option linter.unusedVariables false
set_option maxRecDepth 100000
open Go Go.Eng Go.Proofs
namespace Go.Eng.N
/-! ### f32_1: slices.Clone(()plenum/api.Record,plenum/api.Record) -/
noncomputable def f32_1_d (i1 : Nat) (n2 : Nat) (es3 : List (List PC)) (k0 : Nat → Nat → (List (List PC)) → (List (List PC)) → Prop) : Prop := ((n2 = 0) → k0 0 0 es3 []) ∧ (0 ≤ 0 ∧ (0 + (List.take n2 (List.drop i1 es3)).length) * 48 ≤ 2 ^ 46 ∧ (0 + (List.take n2 (List.drop i1 es3)).length) ≤ 2 ^ 46 ∧ k0 0 (0 + (List.take n2 (List.drop i1 es3)).length) es3 ([] ++ (List.take n2 (List.drop i1 es3))))
structure f32_1 (i1 : Nat) (n2 : Nat) (es3 : List (List PC)) (k0 : Nat → Nat → (List (List PC)) → (List (List PC)) → Prop) : Prop where
  run : f32_1_d i1 n2 es3 k0
noncomputable def f32_1_tab : List (Nat × Told) := []
noncomputable def f32_1_call : FuncId → List TV → List Entry → (TV → List Entry → Prop) → Prop := noCalls
noncomputable def f32_1_C : Ctx := { ty := tyOf tab, glob := glob, byRef := byRef, keep := fun k i => lookN [] (lookN [] ([] : List (Nat × List (Nat × List Nat))) k) i, late := lookN [] ([] : List (Nat × List Nat)), nref := lookN [] ([] : List (Nat × List Nat)), nbox := lookN [] ([] : List (Nat × List (Nat × Nat))), take := [], rnil := true, m := 1, fz := false, loops := lookL f32_1_tab, call := f32_1_call }
noncomputable def f32_1_G0 : List TV → List Entry → (TV → List Entry → Prop) → Prop := fun tm hp K => getS [.v (.one (.ref 0))] [.vec 6 true] tm hp fun (xx : ((Nat × Nat) × Unit)) (yy : ((List (List PC)) × Unit)) => f32_1 xx.1.1 xx.1.2 yy.1 (fun i0_0 n0_1 es0_2 es0_3 => K (.w (.one (.ref 1 i0_0 n0_1))) [.vec 6 es0_2 true, .vec 6 es0_3 true])
set_option maxRecDepth 100000 in
theorem f32_1_eq (i_4 : Nat) (n_5 : Nat) (es_6 : List (List PC)) (K : TV → List Entry → Prop) : (f32_1_d i_4 n_5 es_6 (fun i0_0 n0_1 es0_2 es0_3 => K (.w (.one (.ref 1 i0_0 n0_1))) [.vec 6 es0_2 true, .vec 6 es0_3 true])) = funcT f32_1_C Try.f32 [.w (.one (.ref 0 i_4 n_5))] [.vec 6 es_6 true] K := by kernel_rfl
set_option maxHeartbeats 4000000 in
theorem f32_1_ok0 : FnOk Try.prog glob 32 f32_1_G0 := by
  refine FnOk.of_text (C := f32_1_C) tab_ok.ok (Known.none) follows_ok (fn := Try.f32) (by kernel_rfl) (by kernel_rfl) (by kernel_rfl) (fun c hc => ?_) fun tm hp K h => ?_
  · have e : c = bodyOf Try.f32 := Option.some.inj (hc.symm.trans (by kernel_rfl))
    subst e
    exact ⟨LoopsOk.of [] (by kernel_rfl) trivial, TailsOk.of (tab := f32_1_tab) rfl [] (by kernel_rfl) trivial⟩
  · unfold f32_1_G0 at h
    obtain ⟨xx, yy, rfl, rfl, h⟩ := getS_elim h
    have e := (f32_1_eq xx.1.1 xx.1.2 yy.1 K).trans (show _ = funcT f32_1_C Try.f32 (mkR _ xx) (mkE _ yy) K by kernel_rfl)
    rw [← e]
    exact h.run
noncomputable def f32_1_G : List TV → List Entry → (TV → List Entry → Prop) → Prop := fun args H K => bif isSig (sigOf args H) [100, 7, 22] then f32_1_G0 args H K else f32_G args H K
theorem f32_1_G_ok : FnOk Try.prog glob 32 f32_1_G := FnOk.or _ f32_1_ok0 f32_G_ok
end Go.Eng.N
set_option linter.unusedVariables false
set_option maxRecDepth 100000
open Go Go.Eng Go.Proofs
namespace Go.Eng.N
/-! ### f13_1: (*plenum/collect.Collector).Take -/
noncomputable def f13_1_p31 (i75 : Nat) (n76 : Nat) (n77 : Int) (es78 : List (List PC)) (full79 : Bool) (n80 : Int) (n81 : Int) (i82 : Nat) (n83 : Nat) (es84 : List (List PC)) (es85 : List (List PC)) (n86 : Int) (n87 : Int) (n88 : Int) (n89 : Int) (n90 : Int) (n91 : Int) (k0 : Nat → Nat → Int → Int → (List (List PC)) → Prop) : Prop := bB (n91 == 0) (f35 i75 n76 n86 n87 n88 n89 n90 n91 es85 (fun i92 n93 es94 => k0 i92 n93 (w64 (n86 + 1)) (w64 (n77 + 1)) es94)) (f35 i75 n76 n86 n87 n88 n89 n90 n91 es85 (fun i95 n96 es97 => k0 i95 n96 (w64 (n86 + 1)) n77 es97))
noncomputable def f13_1_p27 (i46 : Nat) (n47 : Nat) (n48 : Int) (n49 : Int) (es50 : List (List PC)) (full51 : Bool) (n52 : Int) (n53 : Int) (i54 : Nat) (n55 : Nat) (es56 : List (List PC)) (es57 : List (List PC)) (n58 : Int) (n59 : Int) (n60 : Int) (n61 : Int) (n62 : Int) (n63 : Int) (k0 : Nat → Nat → Int → Int → (List (List PC)) → Prop) : Prop := f33 n58 n59 n60 n61 n62 n63 (fun n64 => bB (decide (n64 > n48)) (f33 n58 n59 n60 n61 n62 n63 (fun n65 => f34 n48 (w64 (n65 - 1)) (fun n66 n67 n68 n69 n70 n71 => f35 i46 n47 n66 n67 n68 n69 n70 n71 es57 (fun i72 n73 es74 => f13_1_p31 i72 n73 n49 es50 full51 n52 n53 i54 n55 es56 es74 n58 n59 n60 n61 n62 n63 (fun i98 n99 n100 n101 es102 => k0 i98 n99 n100 n101 es102))))) (f13_1_p31 i46 n47 n49 es50 full51 n52 n53 i54 n55 es56 es57 n58 n59 n60 n61 n62 n63 (fun i103 n104 n105 n106 es107 => k0 i103 n104 n105 n106 es107)))
noncomputable def f13_1_p16b0 (i15 : Nat) (n16 : Nat) (n17 : Int) (n18 : Int) (es19 : List (List PC)) (full20 : Bool) (n21 : Int) (n22 : Int) (i23 : Nat) (n24 : Nat) (es25 : List (List PC)) (es26 : List (List PC)) (N0 : Nat → Nat → Int → Int → Int → (List (List PC)) → Prop) (k0 : Nat → Nat → Int → (List (List PC)) → Prop) : Prop := bB (decide (n22 < n21)) ((0 ≤ n22 ∧ n22 < ((es19.length : Nat) : Int)) ∧ cI .i64 (ext (List.getD es19 (Int.toNat n22) []) 0 6) fun n28 r27 => cI .i64 r27 fun n30 r29 => cI .i64 r29 fun n32 r31 => cI .i64 r31 fun n34 r33 => cI .i64 r33 fun n36 r35 => cI .i64 r35 fun n38 r37 => nilC r37 <| bB (decide (n28 < n17)) (N0 i15 n16 n17 n18 (w64 (n22 + 1)) es26) (bB (decide (n38 > 0)) (f33 n28 n30 n32 n34 n36 n38 (fun n39 => bB (decide (n39 < n17)) (f34 n17 n28 (fun n40 n41 n42 n43 n44 n45 => f13_1_p27 i15 n16 n17 n18 es19 full20 n21 n22 i23 n24 es25 es26 n40 n41 n42 n43 n44 n45 (fun i108 n109 n110 n111 es112 => N0 i108 n109 n110 n111 (w64 (n22 + 1)) es112))) (f13_1_p27 i15 n16 n17 n18 es19 full20 n21 n22 i23 n24 es25 es26 n28 n30 n32 n34 n36 n38 (fun i113 n114 n115 n116 es117 => N0 i113 n114 n115 n116 (w64 (n22 + 1)) es117)))) (f13_1_p27 i15 n16 n17 n18 es19 full20 n21 n22 i23 n24 es25 es26 n28 n30 n32 n34 n36 n38 (fun i118 n119 n120 n121 es122 => N0 i118 n119 n120 n121 (w64 (n22 + 1)) es122)))) (k0 i15 n16 n18 es26)
noncomputable def f13_1_p16 (es19 : List (List PC)) (full20 : Bool) (n21 : Int) (i23 : Nat) (n24 : Nat) (es25 : List (List PC)) (k0 : Nat → Nat → Int → (List (List PC)) → Prop) : Nat × Nat × Int × Int × Int × (List (List PC)) → Prop := LoopP fun x N => f13_1_p16b0 x.1 x.2.1 x.2.2.1 x.2.2.2.1 es19 full20 n21 x.2.2.2.2.1 i23 n24 es25 x.2.2.2.2.2 (fun i15 n16 n17 n18 n22 es26 => N (i15, n16, n17, n18, n22, es26)) k0
noncomputable def f13_1_d (es1 : List (List PC)) (full2 : Bool) (i3 : Nat) (n4 : Nat) (es5 : List (List PC)) (k0 : Int → Int → Nat → Nat → (List (List PC)) → Prop) (k1 : Int → Int → Nat → Nat → (List (List PC)) → (List (List PC)) → Prop) : Prop := f21 es1 full2 (fun n6 => bB (n6 != 0) (k0 0 n6 i3 n4 es5) (f32_1 i3 n4 es5 (fun i7 n8 es9 es10 => f15_1 i3 n4 es9 (fun n11 i12 n13 es14 => f13_1_p16 es1 full2 ((es1.length : Nat) : Int) i12 n13 es14 (fun i123 n124 n125 es126 => f36 (List.take n124 (List.drop i123 es126)) false (fun n127 => bB (decide (n127 ≥ 0)) (k0 0 15 i12 n13 es14) (k1 n125 0 i123 n124 es14 es126))) (i7, n8, n11, 0, 0, es10)))))
structure f13_1 (es1 : List (List PC)) (full2 : Bool) (i3 : Nat) (n4 : Nat) (es5 : List (List PC)) (k0 : Int → Int → Nat → Nat → (List (List PC)) → Prop) (k1 : Int → Int → Nat → Nat → (List (List PC)) → (List (List PC)) → Prop) : Prop where
  run : f13_1_d es1 full2 i3 n4 es5 k0 k1
noncomputable def f13_1_p31L : Told := fun s K => match s with
  | ⟨tm, hp⟩ => getS [.v (.one (.ptr 0 0 0)), .skip 6, .v (.one (.ref 2)), .skip 1, .v (.one (.int .i64)), .skip 1, .v (.one (.ptr 3 0 0)), .skip 12, .v (.one (.sl 6)), .v (.one (.int .i64)), .v (.one (.int .i64)), .skip 51] [.box [.ref 1], .vec 6 true, .vec 6 true, .box [.int .i64, .int .i64, .int .i64, .int .i64, .int .i64, .int .i64]] tm hp fun (xx : (Unit × (Unit × ((Nat × Nat) × (Unit × (Int × (Unit × (Unit × (Unit × ((List (List PC) × Bool) × (Int × (Int × (Unit × Unit))))))))))))) (yy : (((Nat × Nat) × Unit) × ((List (List PC)) × ((List (List PC)) × ((Int × (Int × (Int × (Int × (Int × (Int × Unit)))))) × Unit))))) => f13_1_p31 xx.2.2.1.1 xx.2.2.1.2 xx.2.2.2.2.1 xx.2.2.2.2.2.2.2.2.1.1 xx.2.2.2.2.2.2.2.2.1.2 xx.2.2.2.2.2.2.2.2.2.1 xx.2.2.2.2.2.2.2.2.2.2.1 yy.1.1.1 yy.1.1.2 yy.2.1 yy.2.2.1 yy.2.2.2.1.1 yy.2.2.2.1.2.1 yy.2.2.2.1.2.2.1 yy.2.2.2.1.2.2.2.1 yy.2.2.2.1.2.2.2.2.1 yy.2.2.2.1.2.2.2.2.2.1 (fun i0_0 n0_1 n0_2 n0_3 es0_4 => K .normal ⟨mkS 78 [(0, .w (.one (.ptr 0 0 0))), (7, .w (.one (.ref 2 i0_0 n0_1))), (8, I n0_2), (9, I n0_3), (24, .w (.one (.p (.sl 6 xx.2.2.2.2.2.2.2.2.1.1 xx.2.2.2.2.2.2.2.2.1.2)))), (25, I xx.2.2.2.2.2.2.2.2.2.1), (26, I xx.2.2.2.2.2.2.2.2.2.2.1)], [.box [.ref 1 yy.1.1.1 yy.1.1.2], .vec 6 yy.2.1 true, .vec 6 es0_4 true]⟩)
noncomputable def f13_1_p27L : Told := fun s K => match s with
  | ⟨tm, hp⟩ => getS [.v (.one (.ptr 0 0 0)), .skip 6, .v (.one (.ref 2)), .v (.one (.int .i64)), .v (.one (.int .i64)), .skip 1, .v (.one (.ptr 3 0 0)), .skip 12, .v (.one (.sl 6)), .v (.one (.int .i64)), .v (.one (.int .i64)), .skip 51] [.box [.ref 1], .vec 6 true, .vec 6 true, .box [.int .i64, .int .i64, .int .i64, .int .i64, .int .i64, .int .i64]] tm hp fun (xx : (Unit × (Unit × ((Nat × Nat) × (Int × (Int × (Unit × (Unit × (Unit × ((List (List PC) × Bool) × (Int × (Int × (Unit × Unit))))))))))))) (yy : (((Nat × Nat) × Unit) × ((List (List PC)) × ((List (List PC)) × ((Int × (Int × (Int × (Int × (Int × (Int × Unit)))))) × Unit))))) => f13_1_p27 xx.2.2.1.1 xx.2.2.1.2 xx.2.2.2.1 xx.2.2.2.2.1 xx.2.2.2.2.2.2.2.2.1.1 xx.2.2.2.2.2.2.2.2.1.2 xx.2.2.2.2.2.2.2.2.2.1 xx.2.2.2.2.2.2.2.2.2.2.1 yy.1.1.1 yy.1.1.2 yy.2.1 yy.2.2.1 yy.2.2.2.1.1 yy.2.2.2.1.2.1 yy.2.2.2.1.2.2.1 yy.2.2.2.1.2.2.2.1 yy.2.2.2.1.2.2.2.2.1 yy.2.2.2.1.2.2.2.2.2.1 (fun i0_5 n0_6 n0_7 n0_8 es0_9 => K .normal ⟨mkS 78 [(0, .w (.one (.ptr 0 0 0))), (7, .w (.one (.ref 2 i0_5 n0_6))), (8, I n0_7), (9, I n0_8), (24, .w (.one (.p (.sl 6 xx.2.2.2.2.2.2.2.2.1.1 xx.2.2.2.2.2.2.2.2.1.2)))), (25, I xx.2.2.2.2.2.2.2.2.2.1), (26, I xx.2.2.2.2.2.2.2.2.2.2.1)], [.box [.ref 1 yy.1.1.1 yy.1.1.2], .vec 6 yy.2.1 true, .vec 6 es0_9 true]⟩)
noncomputable def f13_1_p16L : Told := fun s K => match s with
  | ⟨tm, hp⟩ => getS [.v (.one (.ptr 0 0 0)), .skip 6, .v (.one (.ref 2)), .v (.one (.int .i64)), .v (.one (.int .i64)), .skip 14, .v (.one (.sl 6)), .v (.one (.int .i64)), .v (.one (.int .i64)), .skip 51] [.box [.ref 1], .vec 6 true, .vec 6 true] tm hp fun (xx : (Unit × (Unit × ((Nat × Nat) × (Int × (Int × (Unit × ((List (List PC) × Bool) × (Int × (Int × (Unit × Unit))))))))))) (yy : (((Nat × Nat) × Unit) × ((List (List PC)) × ((List (List PC)) × Unit)))) => f13_1_p16 xx.2.2.2.2.2.2.1.1 xx.2.2.2.2.2.2.1.2 xx.2.2.2.2.2.2.2.1 yy.1.1.1 yy.1.1.2 yy.2.1 (fun i0_10 n0_11 n0_12 es0_13 => K (.exit 0) ⟨mkS 78 [(0, .w (.one (.ptr 0 0 0))), (7, .w (.one (.ref 2 i0_10 n0_11))), (9, I n0_12)], [.box [.ref 1 yy.1.1.1 yy.1.1.2], .vec 6 yy.2.1 true, .vec 6 es0_13 true]⟩) (xx.2.2.1.1, xx.2.2.1.2, xx.2.2.2.1, xx.2.2.2.2.1, xx.2.2.2.2.2.2.2.2.1, yy.2.2.1)
noncomputable def f13_1_tab : List (Nat × Told) := [(31, f13_1_p31L), (27, f13_1_p27L), (16, f13_1_p16L)]
noncomputable def f13_1_call : FuncId → List TV → List Entry → (TV → List Entry → Prop) → Prop := addCall 36 f36_G (addCall 35 f35_G (addCall 34 f34_G (addCall 33 f33_G (addCall 32 f32_1_G (addCall 21 f21_G (addCall 15 f15_1_G (noCalls)))))))
noncomputable def f13_1_C : Ctx := { ty := tyOf tab, glob := glob, byRef := byRef, keep := fun k i => lookN [] (lookN [] ([(31, [(0, [0, 7, 9, 11, 24, 25, 26]), (1, [0, 7, 8, 9, 24, 25, 26]), (2, [4, 5]), (3, [0, 7, 9]), (4, [0, 7, 8, 9, 24, 25, 26])]), (27, [(0, [0, 7, 8, 9, 11, 24, 25, 26]), (1, [0, 7, 8, 9, 24, 25, 26]), (2, [4, 5]), (3, [0, 7, 9]), (4, [0, 7, 8, 9, 24, 25, 26])]), (16, [(0, [0, 7, 8, 9, 24, 25, 26]), (2, [4, 5]), (3, [0, 7, 9])])] : List (Nat × List (Nat × List Nat))) k) i, late := lookN [] ([] : List (Nat × List Nat)), nref := lookN [] ([] : List (Nat × List Nat)), nbox := lookN [] ([] : List (Nat × List (Nat × Nat))), take := [], rnil := false, m := 2, fz := true, loops := lookL f13_1_tab, call := f13_1_call }
set_option maxRecDepth 100000 in
theorem f13_1_p31e0 (i_25 : Nat) (n_26 : Nat) (n_27 : Int) (es_28 : List (List PC)) (full_29 : Bool) (n_30 : Int) (n_31 : Int) (i_32 : Nat) (n_33 : Nat) (es_34 : List (List PC)) (es_35 : List (List PC)) (n_36 : Int) (n_37 : Int) (n_38 : Int) (n_39 : Int) (n_40 : Int) (n_41 : Int) (K : TExit → St → Prop) : (f13_1_p31 i_25 n_26 n_27 es_28 full_29 n_30 n_31 i_32 n_33 es_34 es_35 n_36 n_37 n_38 n_39 n_40 n_41 (fun i0_42 n0_43 n0_44 n0_45 es0_46 => K .normal ⟨mkS 78 [(0, .w (.one (.ptr 0 0 0))), (7, .w (.one (.ref 2 i0_42 n0_43))), (8, I n0_44), (9, I n0_45), (24, .w (.one (.p (.sl 6 es_28 full_29)))), (25, I n_30), (26, I n_31)], [.box [.ref 1 i_32 n_33], .vec 6 es_34 true, .vec 6 es0_46 true]⟩)) = execT f13_1_C (nthC (tails (bodyOf Try.f13)) 18) ⟨mkS 78 [(0, .w (.one (.ptr 0 0 0))), (7, .w (.one (.ref 2 i_25 n_26))), (9, I n_27), (11, .w (.one (.ptr 3 0 0))), (24, .w (.one (.p (.sl 6 es_28 full_29)))), (25, I n_30), (26, I n_31)], [.box [.ref 1 i_32 n_33], .vec 6 es_34 true, .vec 6 es_35 true, .box [.p (pI n_36), .p (pI n_37), .p (pI n_38), .p (pI n_39), .p (pI n_40), .p (pI n_41)]]⟩ (fun e s => K e (normOut f13_1_C 31 e s)) := by kernel_rfl
set_option maxRecDepth 100000 in
theorem f13_1_p27e0 (i_47 : Nat) (n_48 : Nat) (n_49 : Int) (n_50 : Int) (es_51 : List (List PC)) (full_52 : Bool) (n_53 : Int) (n_54 : Int) (i_55 : Nat) (n_56 : Nat) (es_57 : List (List PC)) (es_58 : List (List PC)) (n_59 : Int) (n_60 : Int) (n_61 : Int) (n_62 : Int) (n_63 : Int) (n_64 : Int) (K : TExit → St → Prop) : (f13_1_p27 i_47 n_48 n_49 n_50 es_51 full_52 n_53 n_54 i_55 n_56 es_57 es_58 n_59 n_60 n_61 n_62 n_63 n_64 (fun i0_65 n0_66 n0_67 n0_68 es0_69 => K .normal ⟨mkS 78 [(0, .w (.one (.ptr 0 0 0))), (7, .w (.one (.ref 2 i0_65 n0_66))), (8, I n0_67), (9, I n0_68), (24, .w (.one (.p (.sl 6 es_51 full_52)))), (25, I n_53), (26, I n_54)], [.box [.ref 1 i_55 n_56], .vec 6 es_57 true, .vec 6 es0_69 true]⟩)) = execT f13_1_C (nthC (tails (bodyOf Try.f13)) 16) ⟨mkS 78 [(0, .w (.one (.ptr 0 0 0))), (7, .w (.one (.ref 2 i_47 n_48))), (8, I n_49), (9, I n_50), (11, .w (.one (.ptr 3 0 0))), (24, .w (.one (.p (.sl 6 es_51 full_52)))), (25, I n_53), (26, I n_54)], [.box [.ref 1 i_55 n_56], .vec 6 es_57 true, .vec 6 es_58 true, .box [.p (pI n_59), .p (pI n_60), .p (pI n_61), .p (pI n_62), .p (pI n_63), .p (pI n_64)]]⟩ (fun e s => K e (normOut f13_1_C 27 e s)) := by kernel_rfl
noncomputable def f13_1_p16_mk (es19 : List (List PC)) (full20 : Bool) (n21 : Int) (i23 : Nat) (n24 : Nat) (es25 : List (List PC)) (x : Nat × Nat × Int × Int × Int × (List (List PC))) : St := ⟨mkS 78 [(0, .w (.one (.ptr 0 0 0))), (7, .w (.one (.ref 2 x.1 x.2.1))), (8, I x.2.2.1), (9, I x.2.2.2.1), (24, .w (.one (.p (.sl 6 es19 full20)))), (25, I n21), (26, I x.2.2.2.2.1)], [.box [.ref 1 i23 n24], .vec 6 es25 true, .vec 6 x.2.2.2.2.2 true]⟩
set_option maxRecDepth 100000 in
theorem f13_1_p16e0 (i_82 : Nat) (n_83 : Nat) (n_84 : Int) (n_85 : Int) (es_86 : List (List PC)) (full_87 : Bool) (n_88 : Int) (n_89 : Int) (i_90 : Nat) (n_91 : Nat) (es_92 : List (List PC)) (es_93 : List (List PC)) (N : St → Prop) (K : TExit → St → Prop) : (f13_1_p16b0 i_82 n_83 n_84 n_85 es_86 full_87 n_88 n_89 i_90 n_91 es_92 es_93 (fun z0 z1 z2 z3 z7 z11 => N (f13_1_p16_mk es_86 full_87 n_88 i_90 n_91 es_92 (z0, z1, z2, z3, z7, z11))) (fun i0_94 n0_95 n0_96 es0_97 => K (.exit 0) ⟨mkS 78 [(0, .w (.one (.ptr 0 0 0))), (7, .w (.one (.ref 2 i0_94 n0_95))), (9, I n0_96)], [.box [.ref 1 i_90 n_91], .vec 6 es_92 true, .vec 6 es0_97 true]⟩)) = execT f13_1_C (nthC (bodies (bodyOf Try.f13)) 0) (f13_1_p16_mk es_86 full_87 n_88 i_90 n_91 es_92 (i_82, n_83, n_84, n_85, n_89, es_93)) (loopK N (normK f13_1_C 16) fun e s => K e (normOut f13_1_C 16 e s)) := by kernel_rfl
set_option maxHeartbeats 4000000 in
theorem f13_1_p31_ok : TailOk f13_1_C (nthC (tails (bodyOf Try.f13)) 18) := by
  refine TailOk.of f13_1_p31L (by kernel_rfl) fun σ K h => ?_
  have hk : joinKey (nthC (tails (bodyOf Try.f13)) 18) = 31 := by kernel_rfl
  rw [hk] at h ⊢
  generalize hs : normK f13_1_C 31 σ = s at h
  obtain ⟨tm, hp⟩ := s
  unfold f13_1_p31L at h
  dsimp only at h
  obtain ⟨xx, yy, rfl, rfl, h⟩ := getS_elim h
  have q : normK f13_1_C 31 σ = (⟨mkS 78 [(0, .w (.one (.ptr 0 0 0))), (7, .w (.one (.ref 2 xx.2.2.1.1 xx.2.2.1.2))), (9, I xx.2.2.2.2.1), (11, .w (.one (.ptr 3 0 0))), (24, .w (.one (.p (.sl 6 xx.2.2.2.2.2.2.2.2.1.1 xx.2.2.2.2.2.2.2.2.1.2)))), (25, I xx.2.2.2.2.2.2.2.2.2.1), (26, I xx.2.2.2.2.2.2.2.2.2.2.1)], [.box [.ref 1 yy.1.1.1 yy.1.1.2], .vec 6 yy.2.1 true, .vec 6 yy.2.2.1 true, .box [.p (pI yy.2.2.2.1.1), .p (pI yy.2.2.2.1.2.1), .p (pI yy.2.2.2.1.2.2.1), .p (pI yy.2.2.2.1.2.2.2.1), .p (pI yy.2.2.2.1.2.2.2.2.1), .p (pI yy.2.2.2.1.2.2.2.2.2.1)]]⟩ : St) := hs.trans (by kernel_rfl)
  rw [← hs, q, ← f13_1_p31e0 xx.2.2.1.1 xx.2.2.1.2 xx.2.2.2.2.1 xx.2.2.2.2.2.2.2.2.1.1 xx.2.2.2.2.2.2.2.2.1.2 xx.2.2.2.2.2.2.2.2.2.1 xx.2.2.2.2.2.2.2.2.2.2.1 yy.1.1.1 yy.1.1.2 yy.2.1 yy.2.2.1 yy.2.2.2.1.1 yy.2.2.2.1.2.1 yy.2.2.2.1.2.2.1 yy.2.2.2.1.2.2.2.1 yy.2.2.2.1.2.2.2.2.1 yy.2.2.2.1.2.2.2.2.2.1 K]
  exact h
set_option maxHeartbeats 4000000 in
theorem f13_1_p27_ok : TailOk f13_1_C (nthC (tails (bodyOf Try.f13)) 16) := by
  refine TailOk.of f13_1_p27L (by kernel_rfl) fun σ K h => ?_
  have hk : joinKey (nthC (tails (bodyOf Try.f13)) 16) = 27 := by kernel_rfl
  rw [hk] at h ⊢
  generalize hs : normK f13_1_C 27 σ = s at h
  obtain ⟨tm, hp⟩ := s
  unfold f13_1_p27L at h
  dsimp only at h
  obtain ⟨xx, yy, rfl, rfl, h⟩ := getS_elim h
  have q : normK f13_1_C 27 σ = (⟨mkS 78 [(0, .w (.one (.ptr 0 0 0))), (7, .w (.one (.ref 2 xx.2.2.1.1 xx.2.2.1.2))), (8, I xx.2.2.2.1), (9, I xx.2.2.2.2.1), (11, .w (.one (.ptr 3 0 0))), (24, .w (.one (.p (.sl 6 xx.2.2.2.2.2.2.2.2.1.1 xx.2.2.2.2.2.2.2.2.1.2)))), (25, I xx.2.2.2.2.2.2.2.2.2.1), (26, I xx.2.2.2.2.2.2.2.2.2.2.1)], [.box [.ref 1 yy.1.1.1 yy.1.1.2], .vec 6 yy.2.1 true, .vec 6 yy.2.2.1 true, .box [.p (pI yy.2.2.2.1.1), .p (pI yy.2.2.2.1.2.1), .p (pI yy.2.2.2.1.2.2.1), .p (pI yy.2.2.2.1.2.2.2.1), .p (pI yy.2.2.2.1.2.2.2.2.1), .p (pI yy.2.2.2.1.2.2.2.2.2.1)]]⟩ : St) := hs.trans (by kernel_rfl)
  rw [← hs, q, ← f13_1_p27e0 xx.2.2.1.1 xx.2.2.1.2 xx.2.2.2.1 xx.2.2.2.2.1 xx.2.2.2.2.2.2.2.2.1.1 xx.2.2.2.2.2.2.2.2.1.2 xx.2.2.2.2.2.2.2.2.2.1 xx.2.2.2.2.2.2.2.2.2.2.1 yy.1.1.1 yy.1.1.2 yy.2.1 yy.2.2.1 yy.2.2.2.1.1 yy.2.2.2.1.2.1 yy.2.2.2.1.2.2.1 yy.2.2.2.1.2.2.2.1 yy.2.2.2.1.2.2.2.2.1 yy.2.2.2.1.2.2.2.2.2.1 K]
  exact h
set_option maxHeartbeats 4000000 in
theorem f13_1_p16_ok : LoopOk f13_1_C (nthC (bodies (bodyOf Try.f13)) 0) := by
  refine LoopOk.of f13_1_p16L (by kernel_rfl) fun σ K h => ?_
  have hk : loopKey (nthC (bodies (bodyOf Try.f13)) 0) = 16 := by kernel_rfl
  rw [hk] at h ⊢
  generalize hs : normK f13_1_C 16 σ = s at h
  obtain ⟨tm, hp⟩ := s
  unfold f13_1_p16L at h
  dsimp only at h
  obtain ⟨xx, yy, rfl, rfl, h⟩ := getS_elim h
  refine iter_of (f13_1_p16_mk xx.2.2.2.2.2.2.1.1 xx.2.2.2.2.2.2.1.2 xx.2.2.2.2.2.2.2.1 yy.1.1.1 yy.1.1.2 yy.2.1) (fun x N h => ?_) rounds _ σ (hs.trans (by kernel_rfl)) (LoopP.run h)
  obtain ⟨y0, y1, y2, y3, y4, y5⟩ := x
  rw [← f13_1_p16e0 y0 y1 y2 y3 xx.2.2.2.2.2.2.1.1 xx.2.2.2.2.2.2.1.2 xx.2.2.2.2.2.2.2.1 y4 yy.1.1.1 yy.1.1.2 yy.2.1 y5 N K]
  exact h
noncomputable def f13_1_G0 : List TV → List Entry → (TV → List Entry → Prop) → Prop := fun tm hp K => getS [.v (.one (.ptr 0 0 0)), .v (.one (.sl 6))] [.box [.ref 1], .vec 6 true] tm hp fun (xx : (Unit × ((List (List PC) × Bool) × Unit))) (yy : (((Nat × Nat) × Unit) × ((List (List PC)) × Unit))) => f13_1 xx.2.1.1 xx.2.1.2 yy.1.1.1 yy.1.1.2 yy.2.1 (fun n0_14 n0_15 i0_16 n0_17 es0_18 => K (.tup [.one (.p (pI n0_14)), .one (.p (pI n0_15))]) [.box [.ref 1 i0_16 n0_17], .vec 6 es0_18 true]) (fun n1_19 n1_20 i1_21 n1_22 es1_23 es1_24 => K (.tup [.one (.p (pI n1_19)), .one (.p (pI n1_20))]) [.box [.ref 2 i1_21 n1_22], .vec 6 es1_23 true, .vec 6 es1_24 true])
set_option maxRecDepth 100000 in
theorem f13_1_eq (es_98 : List (List PC)) (full_99 : Bool) (i_100 : Nat) (n_101 : Nat) (es_102 : List (List PC)) (K : TV → List Entry → Prop) : (f13_1_d es_98 full_99 i_100 n_101 es_102 (fun n0_14 n0_15 i0_16 n0_17 es0_18 => K (.tup [.one (.p (pI n0_14)), .one (.p (pI n0_15))]) [.box [.ref 1 i0_16 n0_17], .vec 6 es0_18 true]) (fun n1_19 n1_20 i1_21 n1_22 es1_23 es1_24 => K (.tup [.one (.p (pI n1_19)), .one (.p (pI n1_20))]) [.box [.ref 2 i1_21 n1_22], .vec 6 es1_23 true, .vec 6 es1_24 true])) = funcT f13_1_C Try.f13 [.w (.one (.ptr 0 0 0)), .w (.one (.p (.sl 6 es_98 full_99)))] [.box [.ref 1 i_100 n_101], .vec 6 es_102 true] K := by kernel_rfl
set_option maxHeartbeats 4000000 in
theorem f13_1_ok0 : FnOk Try.prog glob 13 f13_1_G0 := by
  refine FnOk.of_text (C := f13_1_C) tab_ok.ok (Known.add f36_G_ok (Known.add f35_G_ok (Known.add f34_G_ok (Known.add f33_G_ok (Known.add f32_1_G_ok (Known.add f21_G_ok (Known.add f15_1_G_ok (Known.none)))))))) follows_ok (fn := Try.f13) (by kernel_rfl) (by kernel_rfl) (by kernel_rfl) (fun c hc => ?_) fun tm hp K h => ?_
  · have e : c = bodyOf Try.f13 := Option.some.inj (hc.symm.trans (by kernel_rfl))
    subst e
    exact ⟨LoopsOk.of [nthC (bodies (bodyOf Try.f13)) 0] (by kernel_rfl) ⟨f13_1_p16_ok, trivial⟩, TailsOk.of (tab := f13_1_tab) rfl [nthC (tails (bodyOf Try.f13)) 16, nthC (tails (bodyOf Try.f13)) 18] (by kernel_rfl) ⟨f13_1_p27_ok, f13_1_p31_ok, trivial⟩⟩
  · unfold f13_1_G0 at h
    obtain ⟨xx, yy, rfl, rfl, h⟩ := getS_elim h
    have e := (f13_1_eq xx.2.1.1 xx.2.1.2 yy.1.1.1 yy.1.1.2 yy.2.1 K).trans (show _ = funcT f13_1_C Try.f13 (mkR _ xx) (mkE _ yy) K by kernel_rfl)
    rw [← e]
    exact h.run
noncomputable def f13_1_G : List TV → List Entry → (TV → List Entry → Prop) → Prop := fun args H K => bif isSig (sigOf args H) [200, 5, 7, 20, 101, 22] then f13_1_G0 args H K else f13_G args H K
theorem f13_1_G_ok : FnOk Try.prog glob 13 f13_1_G := FnOk.or _ f13_1_ok0 f13_G_ok
end Go.Eng.N
set_option linter.unusedVariables false
set_option maxRecDepth 100000
open Go Go.Eng Go.Proofs
namespace Go.Eng.N
/-! ### f17: (*plenum/collect.Collector).Lost -/
noncomputable def f17_p6b0 (n1 : Int) (n2 : Int) (n3 : Int) (N0 : Int → Int → Prop) (k0 : Int → Prop) : Prop := bB (decide (n3 < n2)) ((0 ≤ n3 ∧ n3 < 0) ∧ cI .i64 (ext (List.getD [] (Int.toNat n3) []) 0 6) fun n5 r4 => cI .i64 r4 fun n7 r6 => cI .i64 r6 fun n9 r8 => cI .i64 r8 fun n11 r10 => cI .i64 r10 fun n13 r12 => cI .i64 r12 fun n15 r14 => nilC r14 <| N0 (w64 (n1 + n15)) (w64 (n3 + 1))) (k0 n1)
noncomputable def f17_p6 (n2 : Int) (k0 : Int → Prop) : Int × Int → Prop := LoopP fun x N => f17_p6b0 x.1 n2 x.2 (fun n1 n3 => N (n1, n3)) k0
noncomputable def f17_d (k0 : Int → Prop) : Prop := f17_p6 0 (fun n16 => k0 n16) (0, 0)
structure f17 (k0 : Int → Prop) : Prop where
  run : f17_d k0
noncomputable def f17_p6L : Told := fun s K => match s with
  | ⟨tm, hp⟩ => getS [.skip 3, .v (.one (.int .i64)), .skip 5, .v (.one (.nil 6)), .v (.one (.int .i64)), .v (.one (.int .i64)), .skip 9] [.box [.nil 6]] tm hp fun (xx : (Unit × (Int × (Unit × (Unit × (Int × (Int × (Unit × Unit)))))))) (yy : ((Unit × Unit) × Unit)) => f17_p6 xx.2.2.2.2.1 (fun n0_0 => K (.exit 0) ⟨mkS 21 [(3, I n0_0)], [.box [.p (.sl 6 [] true)]]⟩) (xx.2.1, xx.2.2.2.2.2.1)
noncomputable def f17_tab : List (Nat × Told) := [(6, f17_p6L)]
noncomputable def f17_call : FuncId → List TV → List Entry → (TV → List Entry → Prop) → Prop := noCalls
noncomputable def f17_C : Ctx := { ty := tyOf tab, glob := glob, byRef := byRef, keep := fun k i => lookN [] (lookN [] ([(6, [(0, [3, 9, 10, 11]), (2, [2]), (3, [3])])] : List (Nat × List (Nat × List Nat))) k) i, late := lookN [] ([] : List (Nat × List Nat)), nref := lookN [] ([] : List (Nat × List Nat)), nbox := lookN [] ([] : List (Nat × List (Nat × Nat))), take := [], rnil := false, m := 1, fz := true, loops := lookL f17_tab, call := f17_call }
noncomputable def f17_p6_mk (n2 : Int) (x : Int × Int) : St := ⟨mkS 21 [(3, I x.1), (9, .w (.one (.p (.sl 6 [] true)))), (10, I n2), (11, I x.2)], [.box [.p (.sl 6 [] true)]]⟩
set_option maxRecDepth 100000 in
theorem f17_p6e0 (n_5 : Int) (n_6 : Int) (n_7 : Int) (N : St → Prop) (K : TExit → St → Prop) : (f17_p6b0 n_5 n_6 n_7 (fun z0 z2 => N (f17_p6_mk n_6 (z0, z2))) (fun n0_8 => K (.exit 0) ⟨mkS 21 [(3, I n0_8)], [.box [.p (.sl 6 [] true)]]⟩)) = execT f17_C (nthC (bodies (bodyOf Try.f17)) 0) (f17_p6_mk n_6 (n_5, n_7)) (loopK N (normK f17_C 6) fun e s => K e (normOut f17_C 6 e s)) := by kernel_rfl
set_option maxHeartbeats 4000000 in
theorem f17_p6_ok : LoopOk f17_C (nthC (bodies (bodyOf Try.f17)) 0) := by
  refine LoopOk.of f17_p6L (by kernel_rfl) fun σ K h => ?_
  have hk : loopKey (nthC (bodies (bodyOf Try.f17)) 0) = 6 := by kernel_rfl
  rw [hk] at h ⊢
  generalize hs : normK f17_C 6 σ = s at h
  obtain ⟨tm, hp⟩ := s
  unfold f17_p6L at h
  dsimp only at h
  obtain ⟨xx, yy, rfl, rfl, h⟩ := getS_elim h
  refine iter_of (f17_p6_mk xx.2.2.2.2.1) (fun x N h => ?_) rounds _ σ (hs.trans (by kernel_rfl)) (LoopP.run h)
  obtain ⟨y0, y1⟩ := x
  rw [← f17_p6e0 y0 xx.2.2.2.2.1 y1 N K]
  exact h
noncomputable def f17_G0 : List TV → List Entry → (TV → List Entry → Prop) → Prop := fun tm hp K => getS [.v (.one (.ptr 0 0 0))] [.box [.nil 6]] tm hp fun (xx : (Unit × Unit)) (yy : ((Unit × Unit) × Unit)) => f17 (fun n0_1 => K (I n0_1) [.box [.p (.sl 6 [] true)]])
set_option maxRecDepth 100000 in
theorem f17_eq (K : TV → List Entry → Prop) : (f17_d (fun n0_1 => K (I n0_1) [.box [.p (.sl 6 [] true)]])) = funcT f17_C Try.f17 [.w (.one (.ptr 0 0 0))] [.box [.p (.sl 6 [] true)]] K := by kernel_rfl
set_option maxHeartbeats 4000000 in
theorem f17_ok0 : FnOk Try.prog glob 17 f17_G0 := by
  refine FnOk.of_text (C := f17_C) tab_ok.ok (Known.none) follows_ok (fn := Try.f17) (by kernel_rfl) (by kernel_rfl) (by kernel_rfl) (fun c hc => ?_) fun tm hp K h => ?_
  · have e : c = bodyOf Try.f17 := Option.some.inj (hc.symm.trans (by kernel_rfl))
    subst e
    exact ⟨LoopsOk.of [nthC (bodies (bodyOf Try.f17)) 0] (by kernel_rfl) ⟨f17_p6_ok, trivial⟩, TailsOk.of (tab := f17_tab) rfl [] (by kernel_rfl) trivial⟩
  · unfold f17_G0 at h
    obtain ⟨xx, yy, rfl, rfl, h⟩ := getS_elim h
    have e := (f17_eq K).trans (show _ = funcT f17_C Try.f17 (mkR _ xx) (mkE _ yy) K by kernel_rfl)
    rw [← e]
    exact h.run
noncomputable abbrev f17_G := f17_G0
theorem f17_G_ok : FnOk Try.prog glob 17 f17_G := f17_ok0
end Go.Eng.N
set_option linter.unusedVariables false
set_option maxRecDepth 100000
open Go Go.Eng Go.Proofs
namespace Go.Eng.N
/-! ### f17_1: (*plenum/collect.Collector).Lost -/
noncomputable def f17_1_p6b0 (n4 : Int) (i5 : Nat) (n6 : Nat) (n7 : Int) (n8 : Int) (i9 : Nat) (n10 : Nat) (es11 : List (List PC)) (N0 : Int → Int → Prop) (k0 : Int → Prop) : Prop := bB (decide (n8 < n7)) ((0 ≤ n8 ∧ n8 < ((n6 : Nat) : Int)) ∧ cI .i64 (ext (List.getD es11 (i5 + (Int.toNat n8)) []) 0 6) fun n13 r12 => cI .i64 r12 fun n15 r14 => cI .i64 r14 fun n17 r16 => cI .i64 r16 fun n19 r18 => cI .i64 r18 fun n21 r20 => cI .i64 r20 fun n23 r22 => nilC r22 <| N0 (w64 (n4 + n23)) (w64 (n8 + 1))) (k0 n4)
noncomputable def f17_1_p6 (i5 : Nat) (n6 : Nat) (n7 : Int) (i9 : Nat) (n10 : Nat) (es11 : List (List PC)) (k0 : Int → Prop) : Int × Int → Prop := LoopP fun x N => f17_1_p6b0 x.1 i5 n6 n7 x.2 i9 n10 es11 (fun n4 n8 => N (n4, n8)) k0
noncomputable def f17_1_d (i1 : Nat) (n2 : Nat) (es3 : List (List PC)) (k0 : Int → Nat → Nat → (List (List PC)) → Prop) : Prop := f17_1_p6 i1 n2 ((n2 : Nat) : Int) i1 n2 es3 (fun n24 => k0 n24 i1 n2 es3) (0, 0)
structure f17_1 (i1 : Nat) (n2 : Nat) (es3 : List (List PC)) (k0 : Int → Nat → Nat → (List (List PC)) → Prop) : Prop where
  run : f17_1_d i1 n2 es3 k0
noncomputable def f17_1_p6L : Told := fun s K => match s with
  | ⟨tm, hp⟩ => getS [.skip 3, .v (.one (.int .i64)), .skip 5, .v (.one (.ref 1)), .v (.one (.int .i64)), .v (.one (.int .i64)), .skip 9] [.box [.ref 1], .vec 6 true] tm hp fun (xx : (Unit × (Int × (Unit × ((Nat × Nat) × (Int × (Int × (Unit × Unit)))))))) (yy : (((Nat × Nat) × Unit) × ((List (List PC)) × Unit))) => f17_1_p6 xx.2.2.2.1.1 xx.2.2.2.1.2 xx.2.2.2.2.1 yy.1.1.1 yy.1.1.2 yy.2.1 (fun n0_0 => K (.exit 0) ⟨mkS 21 [(3, I n0_0)], [.box [.ref 1 yy.1.1.1 yy.1.1.2], .vec 6 yy.2.1 true]⟩) (xx.2.1, xx.2.2.2.2.2.1)
noncomputable def f17_1_tab : List (Nat × Told) := [(6, f17_1_p6L)]
noncomputable def f17_1_call : FuncId → List TV → List Entry → (TV → List Entry → Prop) → Prop := noCalls
noncomputable def f17_1_C : Ctx := { ty := tyOf tab, glob := glob, byRef := byRef, keep := fun k i => lookN [] (lookN [] ([(6, [(0, [3, 9, 10, 11]), (2, [2]), (3, [3])])] : List (Nat × List (Nat × List Nat))) k) i, late := lookN [] ([] : List (Nat × List Nat)), nref := lookN [] ([] : List (Nat × List Nat)), nbox := lookN [] ([] : List (Nat × List (Nat × Nat))), take := [], rnil := false, m := 2, fz := true, loops := lookL f17_1_tab, call := f17_1_call }
noncomputable def f17_1_p6_mk (i5 : Nat) (n6 : Nat) (n7 : Int) (i9 : Nat) (n10 : Nat) (es11 : List (List PC)) (x : Int × Int) : St := ⟨mkS 21 [(3, I x.1), (9, .w (.one (.ref 1 i5 n6))), (10, I n7), (11, I x.2)], [.box [.ref 1 i9 n10], .vec 6 es11 true]⟩
set_option maxRecDepth 100000 in
theorem f17_1_p6e0 (n_13 : Int) (i_14 : Nat) (n_15 : Nat) (n_16 : Int) (n_17 : Int) (i_18 : Nat) (n_19 : Nat) (es_20 : List (List PC)) (N : St → Prop) (K : TExit → St → Prop) : (f17_1_p6b0 n_13 i_14 n_15 n_16 n_17 i_18 n_19 es_20 (fun z0 z4 => N (f17_1_p6_mk i_14 n_15 n_16 i_18 n_19 es_20 (z0, z4))) (fun n0_21 => K (.exit 0) ⟨mkS 21 [(3, I n0_21)], [.box [.ref 1 i_18 n_19], .vec 6 es_20 true]⟩)) = execT f17_1_C (nthC (bodies (bodyOf Try.f17)) 0) (f17_1_p6_mk i_14 n_15 n_16 i_18 n_19 es_20 (n_13, n_17)) (loopK N (normK f17_1_C 6) fun e s => K e (normOut f17_1_C 6 e s)) := by kernel_rfl
set_option maxHeartbeats 4000000 in
theorem f17_1_p6_ok : LoopOk f17_1_C (nthC (bodies (bodyOf Try.f17)) 0) := by
  refine LoopOk.of f17_1_p6L (by kernel_rfl) fun σ K h => ?_
  have hk : loopKey (nthC (bodies (bodyOf Try.f17)) 0) = 6 := by kernel_rfl
  rw [hk] at h ⊢
  generalize hs : normK f17_1_C 6 σ = s at h
  obtain ⟨tm, hp⟩ := s
  unfold f17_1_p6L at h
  dsimp only at h
  obtain ⟨xx, yy, rfl, rfl, h⟩ := getS_elim h
  refine iter_of (f17_1_p6_mk xx.2.2.2.1.1 xx.2.2.2.1.2 xx.2.2.2.2.1 yy.1.1.1 yy.1.1.2 yy.2.1) (fun x N h => ?_) rounds _ σ (hs.trans (by kernel_rfl)) (LoopP.run h)
  obtain ⟨y0, y1⟩ := x
  rw [← f17_1_p6e0 y0 xx.2.2.2.1.1 xx.2.2.2.1.2 xx.2.2.2.2.1 y1 yy.1.1.1 yy.1.1.2 yy.2.1 N K]
  exact h
noncomputable def f17_1_G0 : List TV → List Entry → (TV → List Entry → Prop) → Prop := fun tm hp K => getS [.v (.one (.ptr 0 0 0))] [.box [.ref 1], .vec 6 true] tm hp fun (xx : (Unit × Unit)) (yy : (((Nat × Nat) × Unit) × ((List (List PC)) × Unit))) => f17_1 yy.1.1.1 yy.1.1.2 yy.2.1 (fun n0_1 i0_2 n0_3 es0_4 => K (I n0_1) [.box [.ref 1 i0_2 n0_3], .vec 6 es0_4 true])
set_option maxRecDepth 100000 in
theorem f17_1_eq (i_22 : Nat) (n_23 : Nat) (es_24 : List (List PC)) (K : TV → List Entry → Prop) : (f17_1_d i_22 n_23 es_24 (fun n0_1 i0_2 n0_3 es0_4 => K (I n0_1) [.box [.ref 1 i0_2 n0_3], .vec 6 es0_4 true])) = funcT f17_1_C Try.f17 [.w (.one (.ptr 0 0 0))] [.box [.ref 1 i_22 n_23], .vec 6 es_24 true] K := by kernel_rfl
set_option maxHeartbeats 4000000 in
theorem f17_1_ok0 : FnOk Try.prog glob 17 f17_1_G0 := by
  refine FnOk.of_text (C := f17_1_C) tab_ok.ok (Known.none) follows_ok (fn := Try.f17) (by kernel_rfl) (by kernel_rfl) (by kernel_rfl) (fun c hc => ?_) fun tm hp K h => ?_
  · have e : c = bodyOf Try.f17 := Option.some.inj (hc.symm.trans (by kernel_rfl))
    subst e
    exact ⟨LoopsOk.of [nthC (bodies (bodyOf Try.f17)) 0] (by kernel_rfl) ⟨f17_1_p6_ok, trivial⟩, TailsOk.of (tab := f17_1_tab) rfl [] (by kernel_rfl) trivial⟩
  · unfold f17_1_G0 at h
    obtain ⟨xx, yy, rfl, rfl, h⟩ := getS_elim h
    have e := (f17_1_eq yy.1.1.1 yy.1.1.2 yy.2.1 K).trans (show _ = funcT f17_1_C Try.f17 (mkR _ xx) (mkE _ yy) K by kernel_rfl)
    rw [← e]
    exact h.run
noncomputable def f17_1_G : List TV → List Entry → (TV → List Entry → Prop) → Prop := fun args H K => bif isSig (sigOf args H) [200, 7, 20, 101, 22] then f17_1_G0 args H K else f17_G args H K
theorem f17_1_G_ok : FnOk Try.prog glob 17 f17_1_G := FnOk.or _ f17_1_ok0 f17_G_ok
end Go.Eng.N
set_option linter.unusedVariables false
set_option maxRecDepth 100000
open Go Go.Eng Go.Proofs
namespace Go.Eng.N
/-! ### f20: (*plenum/collect.Collector).Records -/
noncomputable def f20_d (k0 : (List (List PC)) → Bool → Prop) : Prop := f32 [] true (fun i1 n2 es3 => k0 (List.take n2 (List.drop i1 es3)) false)
structure f20 (k0 : (List (List PC)) → Bool → Prop) : Prop where
  run : f20_d k0
noncomputable def f20_tab : List (Nat × Told) := []
noncomputable def f20_call : FuncId → List TV → List Entry → (TV → List Entry → Prop) → Prop := addCall 32 f32_G (noCalls)
noncomputable def f20_C : Ctx := { ty := tyOf tab, glob := glob, byRef := byRef, keep := fun k i => lookN [] (lookN [] ([] : List (Nat × List (Nat × List Nat))) k) i, late := lookN [] ([] : List (Nat × List Nat)), nref := lookN [] ([] : List (Nat × List Nat)), nbox := lookN [] ([] : List (Nat × List (Nat × Nat))), take := [], rnil := false, m := 1, fz := true, loops := lookL f20_tab, call := f20_call }
noncomputable def f20_G0 : List TV → List Entry → (TV → List Entry → Prop) → Prop := fun tm hp K => getS [.v (.one (.ptr 0 0 0))] [.box [.nil 6]] tm hp fun (xx : (Unit × Unit)) (yy : ((Unit × Unit) × Unit)) => f20 (fun es0_0 full0_1 => K (.w (.one (.p (.sl 6 es0_0 full0_1)))) [.box [.p (.sl 6 [] true)]])
set_option maxRecDepth 100000 in
theorem f20_eq (K : TV → List Entry → Prop) : (f20_d (fun es0_0 full0_1 => K (.w (.one (.p (.sl 6 es0_0 full0_1)))) [.box [.p (.sl 6 [] true)]])) = funcT f20_C Try.f20 [.w (.one (.ptr 0 0 0))] [.box [.p (.sl 6 [] true)]] K := by kernel_rfl
set_option maxHeartbeats 4000000 in
theorem f20_ok0 : FnOk Try.prog glob 20 f20_G0 := by
  refine FnOk.of_text (C := f20_C) tab_ok.ok (Known.add f32_G_ok (Known.none)) follows_ok (fn := Try.f20) (by kernel_rfl) (by kernel_rfl) (by kernel_rfl) (fun c hc => ?_) fun tm hp K h => ?_
  · have e : c = bodyOf Try.f20 := Option.some.inj (hc.symm.trans (by kernel_rfl))
    subst e
    exact ⟨LoopsOk.of [] (by kernel_rfl) trivial, TailsOk.of (tab := f20_tab) rfl [] (by kernel_rfl) trivial⟩
  · unfold f20_G0 at h
    obtain ⟨xx, yy, rfl, rfl, h⟩ := getS_elim h
    have e := (f20_eq K).trans (show _ = funcT f20_C Try.f20 (mkR _ xx) (mkE _ yy) K by kernel_rfl)
    rw [← e]
    exact h.run
noncomputable abbrev f20_G := f20_G0
theorem f20_G_ok : FnOk Try.prog glob 20 f20_G := f20_ok0
end Go.Eng.N
set_option linter.unusedVariables false
set_option maxRecDepth 100000
open Go Go.Eng Go.Proofs
namespace Go.Eng.N
/-! ### f20_1: (*plenum/collect.Collector).Records -/
noncomputable def f20_1_d (i1 : Nat) (n2 : Nat) (es3 : List (List PC)) (k0 : (List (List PC)) → Bool → Nat → Nat → (List (List PC)) → Prop) : Prop := f32_1 i1 n2 es3 (fun i4 n5 es6 es7 => k0 (List.take n5 (List.drop i4 es7)) false i1 n2 es6)
structure f20_1 (i1 : Nat) (n2 : Nat) (es3 : List (List PC)) (k0 : (List (List PC)) → Bool → Nat → Nat → (List (List PC)) → Prop) : Prop where
  run : f20_1_d i1 n2 es3 k0
noncomputable def f20_1_tab : List (Nat × Told) := []
noncomputable def f20_1_call : FuncId → List TV → List Entry → (TV → List Entry → Prop) → Prop := addCall 32 f32_1_G (noCalls)
noncomputable def f20_1_C : Ctx := { ty := tyOf tab, glob := glob, byRef := byRef, keep := fun k i => lookN [] (lookN [] ([] : List (Nat × List (Nat × List Nat))) k) i, late := lookN [] ([] : List (Nat × List Nat)), nref := lookN [] ([] : List (Nat × List Nat)), nbox := lookN [] ([] : List (Nat × List (Nat × Nat))), take := [], rnil := false, m := 2, fz := true, loops := lookL f20_1_tab, call := f20_1_call }
noncomputable def f20_1_G0 : List TV → List Entry → (TV → List Entry → Prop) → Prop := fun tm hp K => getS [.v (.one (.ptr 0 0 0))] [.box [.ref 1], .vec 6 true] tm hp fun (xx : (Unit × Unit)) (yy : (((Nat × Nat) × Unit) × ((List (List PC)) × Unit))) => f20_1 yy.1.1.1 yy.1.1.2 yy.2.1 (fun es0_0 full0_1 i0_2 n0_3 es0_4 => K (.w (.one (.p (.sl 6 es0_0 full0_1)))) [.box [.ref 1 i0_2 n0_3], .vec 6 es0_4 true])
set_option maxRecDepth 100000 in
theorem f20_1_eq (i_5 : Nat) (n_6 : Nat) (es_7 : List (List PC)) (K : TV → List Entry → Prop) : (f20_1_d i_5 n_6 es_7 (fun es0_0 full0_1 i0_2 n0_3 es0_4 => K (.w (.one (.p (.sl 6 es0_0 full0_1)))) [.box [.ref 1 i0_2 n0_3], .vec 6 es0_4 true])) = funcT f20_1_C Try.f20 [.w (.one (.ptr 0 0 0))] [.box [.ref 1 i_5 n_6], .vec 6 es_7 true] K := by kernel_rfl
set_option maxHeartbeats 4000000 in
theorem f20_1_ok0 : FnOk Try.prog glob 20 f20_1_G0 := by
  refine FnOk.of_text (C := f20_1_C) tab_ok.ok (Known.add f32_1_G_ok (Known.none)) follows_ok (fn := Try.f20) (by kernel_rfl) (by kernel_rfl) (by kernel_rfl) (fun c hc => ?_) fun tm hp K h => ?_
  · have e : c = bodyOf Try.f20 := Option.some.inj (hc.symm.trans (by kernel_rfl))
    subst e
    exact ⟨LoopsOk.of [] (by kernel_rfl) trivial, TailsOk.of (tab := f20_1_tab) rfl [] (by kernel_rfl) trivial⟩
  · unfold f20_1_G0 at h
    obtain ⟨xx, yy, rfl, rfl, h⟩ := getS_elim h
    have e := (f20_1_eq yy.1.1.1 yy.1.1.2 yy.2.1 K).trans (show _ = funcT f20_1_C Try.f20 (mkR _ xx) (mkE _ yy) K by kernel_rfl)
    rw [← e]
    exact h.run
noncomputable def f20_1_G : List TV → List Entry → (TV → List Entry → Prop) → Prop := fun args H K => bif isSig (sigOf args H) [200, 7, 20, 101, 22] then f20_1_G0 args H K else f20_G args H K
theorem f20_1_G_ok : FnOk Try.prog glob 20 f20_1_G := FnOk.or _ f20_1_ok0 f20_G_ok
end Go.Eng.N
set_option linter.unusedVariables false
set_option maxRecDepth 100000
open Go Go.Eng Go.Proofs
namespace Go.Eng.N
/-! ### f23: plenum/plenumlaw42.plain -/
noncomputable def f23_p6b0 (n3 : Int) (i4 : Nat) (n5 : Nat) (n6 : Int) (es7 : List (List PC)) (N0 : Nat → Nat → Int → (List (List PC)) → Prop) (k0 : Nat → Nat → (List (List PC)) → Prop) : Prop := bB (decide (n6 ≤ n3)) ((i4 + n5) ≤ es7.length ∧ (n5 + 1) * 48 ≤ 2 ^ 46 ∧ (n5 + 1) ≤ 2 ^ 46 ∧ N0 0 (n5 + 1) (w64 (n6 + 1)) ((List.take n5 (List.drop i4 es7)) ++ [[pI n6, pI (w64 (10 * n6)), pI 1, pI n6, pI 0, pI 0]])) (k0 i4 n5 es7)
noncomputable def f23_p6 (n3 : Int) (k0 : Nat → Nat → (List (List PC)) → Prop) : Nat × Nat × Int × (List (List PC)) → Prop := LoopP fun x N => f23_p6b0 n3 x.1 x.2.1 x.2.2.1 x.2.2.2 (fun i4 n5 n6 es7 => N (i4, n5, n6, es7)) k0
noncomputable def f23_d (n1 : Int) (n2 : Int) (k0 : (List (List PC)) → Bool → Prop) : Prop := f23_p6 n2 (fun i8 n9 es10 => k0 (List.take n9 (List.drop i8 es10)) false) (0, 0, n1, [])
structure f23 (n1 : Int) (n2 : Int) (k0 : (List (List PC)) → Bool → Prop) : Prop where
  run : f23_d n1 n2 k0
noncomputable def f23_p6L : Told := fun s K => match s with
  | ⟨tm, hp⟩ => getS [.skip 1, .v (.one (.int .i64)), .skip 3, .v (.one (.ref 0)), .v (.one (.int .i64)), .skip 17] [.vec 6 true] tm hp fun (xx : (Unit × (Int × (Unit × ((Nat × Nat) × (Int × (Unit × Unit))))))) (yy : ((List (List PC)) × Unit)) => f23_p6 xx.2.1 (fun i0_0 n0_1 es0_2 => K (.exit 0) ⟨mkS 24 [(5, .w (.one (.ref 0 i0_0 n0_1)))], [.vec 6 es0_2 true]⟩) (xx.2.2.2.1.1, xx.2.2.2.1.2, xx.2.2.2.2.1, yy.1)
noncomputable def f23_tab : List (Nat × Told) := [(6, f23_p6L)]
noncomputable def f23_call : FuncId → List TV → List Entry → (TV → List Entry → Prop) → Prop := noCalls
noncomputable def f23_C : Ctx := { ty := tyOf tab, glob := glob, byRef := byRef, keep := fun k i => lookN [] (lookN [] ([(6, [(0, [1, 5, 6]), (2, [4]), (3, [5])])] : List (Nat × List (Nat × List Nat))) k) i, late := lookN [] ([] : List (Nat × List Nat)), nref := lookN [] ([] : List (Nat × List Nat)), nbox := lookN [] ([] : List (Nat × List (Nat × Nat))), take := [], rnil := false, m := 0, fz := true, loops := lookL f23_tab, call := f23_call }
noncomputable def f23_p6_mk (n3 : Int) (x : Nat × Nat × Int × (List (List PC))) : St := ⟨mkS 24 [(1, I n3), (5, .w (.one (.ref 0 x.1 x.2.1))), (6, I x.2.2.1)], [.vec 6 x.2.2.2 true]⟩
set_option maxRecDepth 100000 in
theorem f23_p6e0 (n_10 : Int) (i_11 : Nat) (n_12 : Nat) (n_13 : Int) (es_14 : List (List PC)) (N : St → Prop) (K : TExit → St → Prop) : (f23_p6b0 n_10 i_11 n_12 n_13 es_14 (fun z1 z2 z3 z4 => N (f23_p6_mk n_10 (z1, z2, z3, z4))) (fun i0_15 n0_16 es0_17 => K (.exit 0) ⟨mkS 24 [(5, .w (.one (.ref 0 i0_15 n0_16)))], [.vec 6 es0_17 true]⟩)) = execT f23_C (nthC (bodies (bodyOf Try.f23)) 0) (f23_p6_mk n_10 (i_11, n_12, n_13, es_14)) (loopK N (normK f23_C 6) fun e s => K e (normOut f23_C 6 e s)) := by kernel_rfl
set_option maxHeartbeats 4000000 in
theorem f23_p6_ok : LoopOk f23_C (nthC (bodies (bodyOf Try.f23)) 0) := by
  refine LoopOk.of f23_p6L (by kernel_rfl) fun σ K h => ?_
  have hk : loopKey (nthC (bodies (bodyOf Try.f23)) 0) = 6 := by kernel_rfl
  rw [hk] at h ⊢
  generalize hs : normK f23_C 6 σ = s at h
  obtain ⟨tm, hp⟩ := s
  unfold f23_p6L at h
  dsimp only at h
  obtain ⟨xx, yy, rfl, rfl, h⟩ := getS_elim h
  refine iter_of (f23_p6_mk xx.2.1) (fun x N h => ?_) rounds _ σ (hs.trans (by kernel_rfl)) (LoopP.run h)
  obtain ⟨y0, y1, y2, y3⟩ := x
  rw [← f23_p6e0 xx.2.1 y0 y1 y2 y3 N K]
  exact h
noncomputable def f23_G0 : List TV → List Entry → (TV → List Entry → Prop) → Prop := fun tm hp K => getS [.v (.one (.int .i64)), .v (.one (.int .i64))] [] tm hp fun (xx : (Int × (Int × Unit))) (yy : Unit) => f23 xx.1 xx.2.1 (fun es0_3 full0_4 => K (.w (.one (.p (.sl 6 es0_3 full0_4)))) [])
set_option maxRecDepth 100000 in
theorem f23_eq (n_18 : Int) (n_19 : Int) (K : TV → List Entry → Prop) : (f23_d n_18 n_19 (fun es0_3 full0_4 => K (.w (.one (.p (.sl 6 es0_3 full0_4)))) [])) = funcT f23_C Try.f23 [I n_18, I n_19] [] K := by kernel_rfl
set_option maxHeartbeats 4000000 in
theorem f23_ok0 : FnOk Try.prog glob 23 f23_G0 := by
  refine FnOk.of_text (C := f23_C) tab_ok.ok (Known.none) follows_ok (fn := Try.f23) (by kernel_rfl) (by kernel_rfl) (by kernel_rfl) (fun c hc => ?_) fun tm hp K h => ?_
  · have e : c = bodyOf Try.f23 := Option.some.inj (hc.symm.trans (by kernel_rfl))
    subst e
    exact ⟨LoopsOk.of [nthC (bodies (bodyOf Try.f23)) 0] (by kernel_rfl) ⟨f23_p6_ok, trivial⟩, TailsOk.of (tab := f23_tab) rfl [] (by kernel_rfl) trivial⟩
  · unfold f23_G0 at h
    obtain ⟨xx, yy, rfl, rfl, h⟩ := getS_elim h
    have e := (f23_eq xx.1 xx.2.1 K).trans (show _ = funcT f23_C Try.f23 (mkR _ xx) (mkE _ yy) K by kernel_rfl)
    rw [← e]
    exact h.run
noncomputable abbrev f23_G := f23_G0
theorem f23_G_ok : FnOk Try.prog glob 23 f23_G := f23_ok0
end Go.Eng.N
set_option linter.unusedVariables false
set_option maxRecDepth 100000
open Go Go.Eng Go.Proofs
namespace Go.Eng.N
/-! ### f27: plenum/collect.At -/
noncomputable def f27_p12b0 (es5 : List (List PC)) (full6 : Bool) (n7 : Int) (n8 : Int) (es9 : List (List PC)) (full10 : Bool) (n11 : Int) (n12 : Int) (n13 : Int) (n14 : Int) (N0 : Int → Int → Prop) (k0 : Int → Prop) : Prop := bB (decide (n12 < n11)) ((0 ≤ n12 ∧ n12 < ((es9.length : Nat) : Int)) ∧ cI .i64 (ext (List.getD es9 (Int.toNat n12) []) 0 6) fun n16 r15 => cI .i64 r15 fun n18 r17 => cI .i64 r17 fun n20 r19 => cI .i64 r19 fun n22 r21 => cI .i64 r21 fun n24 r23 => cI .i64 r23 fun n26 r25 => nilC r25 <| bB (n26 == 0) (bB (decide (n18 ≤ n7)) (N0 n12 (w64 (n12 + 1))) (N0 n8 (w64 (n12 + 1)))) (N0 n8 (w64 (n12 + 1)))) (k0 n8)
noncomputable def f27_p12 (es5 : List (List PC)) (full6 : Bool) (n7 : Int) (es9 : List (List PC)) (full10 : Bool) (n11 : Int) (n13 : Int) (n14 : Int) (k0 : Int → Prop) : Int × Int → Prop := LoopP fun x N => f27_p12b0 es5 full6 n7 x.1 es9 full10 n11 x.2 n13 n14 (fun n8 n12 => N (n8, n12)) k0
noncomputable def f27_d (es1 : List (List PC)) (full2 : Bool) (n3 : Int) (k0 : Int → Int → Int → Prop) : Prop := f21 es1 full2 (fun n4 => bB (n4 != 0) (k0 0 0 n4) (f27_p12 es1 full2 n3 es1 full2 ((es1.length : Nat) : Int) 0 0 (fun n27 => bB (decide (n27 < 0)) (k0 0 0 9) (bB (decide ((w64 (n27 + 1)) < ((es1.length : Nat) : Int))) ((0 ≤ (w64 (n27 + 1)) ∧ (w64 (n27 + 1)) < ((es1.length : Nat) : Int)) ∧ oI .i64 (ext (List.getD es1 (Int.toNat (w64 (n27 + 1))) []) 5 1) fun n28 => bB (decide (n28 > 0)) (k0 0 0 8) ((0 ≤ n27 ∧ n27 < ((es1.length : Nat) : Int)) ∧ cI .i64 (ext (List.getD es1 (Int.toNat n27) []) 2 2) fun n30 r29 => cI .i64 r29 fun n32 r31 => nilC r31 <| k0 n30 n32 0)) ((0 ≤ n27 ∧ n27 < ((es1.length : Nat) : Int)) ∧ cI .i64 (ext (List.getD es1 (Int.toNat n27) []) 2 2) fun n34 r33 => cI .i64 r33 fun n36 r35 => nilC r35 <| k0 n34 n36 0))) ((-1), 0)))
structure f27 (es1 : List (List PC)) (full2 : Bool) (n3 : Int) (k0 : Int → Int → Int → Prop) : Prop where
  run : f27_d es1 full2 n3 k0
noncomputable def f27_p12L : Told := fun s K => match s with
  | ⟨tm, hp⟩ => getS [.v (.one (.sl 6)), .v (.one (.int .i64)), .skip 2, .v (.one (.ptr 0 0 0)), .skip 2, .v (.one (.int .i64)), .skip 8, .v (.one (.sl 6)), .v (.one (.int .i64)), .v (.one (.int .i64)), .skip 40] [.box [.int .i64, .int .i64]] tm hp fun (xx : ((List (List PC) × Bool) × (Int × (Unit × (Unit × (Unit × (Int × (Unit × ((List (List PC) × Bool) × (Int × (Int × (Unit × Unit)))))))))))) (yy : ((Int × (Int × Unit)) × Unit)) => f27_p12 xx.1.1 xx.1.2 xx.2.1 xx.2.2.2.2.2.2.2.1.1 xx.2.2.2.2.2.2.2.1.2 xx.2.2.2.2.2.2.2.2.1 yy.1.1 yy.1.2.1 (fun n0_0 => K (.exit 0) ⟨mkS 59 [(0, .w (.one (.p (.sl 6 xx.1.1 xx.1.2)))), (4, .w (.one (.ptr 0 0 0))), (7, I n0_0)], [.box [.p (pI yy.1.1), .p (pI yy.1.2.1)]]⟩) (xx.2.2.2.2.2.1, xx.2.2.2.2.2.2.2.2.2.1)
noncomputable def f27_tab : List (Nat × Told) := [(12, f27_p12L)]
noncomputable def f27_call : FuncId → List TV → List Entry → (TV → List Entry → Prop) → Prop := addCall 21 f21_G (noCalls)
noncomputable def f27_C : Ctx := { ty := tyOf tab, glob := glob, byRef := byRef, keep := fun k i => lookN [] (lookN [] ([(12, [(0, [0, 1, 4, 7, 16, 17, 18]), (2, [4, 5]), (3, [0, 4, 7])])] : List (Nat × List (Nat × List Nat))) k) i, late := lookN [] ([] : List (Nat × List Nat)), nref := lookN [] ([] : List (Nat × List Nat)), nbox := lookN [] ([] : List (Nat × List (Nat × Nat))), take := [], rnil := false, m := 0, fz := true, loops := lookL f27_tab, call := f27_call }
noncomputable def f27_p12_mk (es5 : List (List PC)) (full6 : Bool) (n7 : Int) (es9 : List (List PC)) (full10 : Bool) (n11 : Int) (n13 : Int) (n14 : Int) (x : Int × Int) : St := ⟨mkS 59 [(0, .w (.one (.p (.sl 6 es5 full6)))), (1, I n7), (4, .w (.one (.ptr 0 0 0))), (7, I x.1), (16, .w (.one (.p (.sl 6 es9 full10)))), (17, I n11), (18, I x.2)], [.box [.p (pI n13), .p (pI n14)]]⟩
set_option maxRecDepth 100000 in
theorem f27_p12e0 (es_14 : List (List PC)) (full_15 : Bool) (n_16 : Int) (n_17 : Int) (es_18 : List (List PC)) (full_19 : Bool) (n_20 : Int) (n_21 : Int) (n_22 : Int) (n_23 : Int) (N : St → Prop) (K : TExit → St → Prop) : (f27_p12b0 es_14 full_15 n_16 n_17 es_18 full_19 n_20 n_21 n_22 n_23 (fun z3 z7 => N (f27_p12_mk es_14 full_15 n_16 es_18 full_19 n_20 n_22 n_23 (z3, z7))) (fun n0_24 => K (.exit 0) ⟨mkS 59 [(0, .w (.one (.p (.sl 6 es_14 full_15)))), (4, .w (.one (.ptr 0 0 0))), (7, I n0_24)], [.box [.p (pI n_22), .p (pI n_23)]]⟩)) = execT f27_C (nthC (bodies (bodyOf Try.f27)) 0) (f27_p12_mk es_14 full_15 n_16 es_18 full_19 n_20 n_22 n_23 (n_17, n_21)) (loopK N (normK f27_C 12) fun e s => K e (normOut f27_C 12 e s)) := by kernel_rfl
set_option maxHeartbeats 4000000 in
theorem f27_p12_ok : LoopOk f27_C (nthC (bodies (bodyOf Try.f27)) 0) := by
  refine LoopOk.of f27_p12L (by kernel_rfl) fun σ K h => ?_
  have hk : loopKey (nthC (bodies (bodyOf Try.f27)) 0) = 12 := by kernel_rfl
  rw [hk] at h ⊢
  generalize hs : normK f27_C 12 σ = s at h
  obtain ⟨tm, hp⟩ := s
  unfold f27_p12L at h
  dsimp only at h
  obtain ⟨xx, yy, rfl, rfl, h⟩ := getS_elim h
  refine iter_of (f27_p12_mk xx.1.1 xx.1.2 xx.2.1 xx.2.2.2.2.2.2.2.1.1 xx.2.2.2.2.2.2.2.1.2 xx.2.2.2.2.2.2.2.2.1 yy.1.1 yy.1.2.1) (fun x N h => ?_) rounds _ σ (hs.trans (by kernel_rfl)) (LoopP.run h)
  obtain ⟨y0, y1⟩ := x
  rw [← f27_p12e0 xx.1.1 xx.1.2 xx.2.1 y0 xx.2.2.2.2.2.2.2.1.1 xx.2.2.2.2.2.2.2.1.2 xx.2.2.2.2.2.2.2.2.1 y1 yy.1.1 yy.1.2.1 N K]
  exact h
noncomputable def f27_G0 : List TV → List Entry → (TV → List Entry → Prop) → Prop := fun tm hp K => getS [.v (.one (.sl 6)), .v (.one (.int .i64))] [] tm hp fun (xx : ((List (List PC) × Bool) × (Int × Unit))) (yy : Unit) => f27 xx.1.1 xx.1.2 xx.2.1 (fun n0_1 n0_2 n0_3 => K (.tup [.pagg [pI n0_1, pI n0_2], .one (.p (pI n0_3))]) [])
set_option maxRecDepth 100000 in
theorem f27_eq (es_25 : List (List PC)) (full_26 : Bool) (n_27 : Int) (K : TV → List Entry → Prop) : (f27_d es_25 full_26 n_27 (fun n0_1 n0_2 n0_3 => K (.tup [.pagg [pI n0_1, pI n0_2], .one (.p (pI n0_3))]) [])) = funcT f27_C Try.f27 [.w (.one (.p (.sl 6 es_25 full_26))), I n_27] [] K := by kernel_rfl
set_option maxHeartbeats 4000000 in
theorem f27_ok0 : FnOk Try.prog glob 27 f27_G0 := by
  refine FnOk.of_text (C := f27_C) tab_ok.ok (Known.add f21_G_ok (Known.none)) follows_ok (fn := Try.f27) (by kernel_rfl) (by kernel_rfl) (by kernel_rfl) (fun c hc => ?_) fun tm hp K h => ?_
  · have e : c = bodyOf Try.f27 := Option.some.inj (hc.symm.trans (by kernel_rfl))
    subst e
    exact ⟨LoopsOk.of [nthC (bodies (bodyOf Try.f27)) 0] (by kernel_rfl) ⟨f27_p12_ok, trivial⟩, TailsOk.of (tab := f27_tab) rfl [] (by kernel_rfl) trivial⟩
  · unfold f27_G0 at h
    obtain ⟨xx, yy, rfl, rfl, h⟩ := getS_elim h
    have e := (f27_eq xx.1.1 xx.1.2 xx.2.1 K).trans (show _ = funcT f27_C Try.f27 (mkR _ xx) (mkE _ yy) K by kernel_rfl)
    rw [← e]
    exact h.run
noncomputable abbrev f27_G := f27_G0
theorem f27_G_ok : FnOk Try.prog glob 27 f27_G := f27_ok0
end Go.Eng.N
set_option linter.unusedVariables false
set_option maxRecDepth 100000
open Go Go.Eng Go.Proofs
namespace Go.Eng.N
/-! ### f10: plenum/plenumlaw42.awake -/
noncomputable def f10_d (k0 : Bool → Prop) : Prop := f12 (fun (_ : Unit) => f23 1 3 (fun es1 full2 => f13 es1 full2 (fun n3 n4 => f23 2 5 (fun es5 full6 => f13 es5 full6 (fun n7 n8 => f23 9 10 (fun es9 full10 => f13 es9 full10 (fun n11 n12 => f20 (fun es13 full14 => f27 es13 full14 60 (fun n15 n16 n17 => bB (n4 == 0) (bB (n3 == 3) (bB (n8 == 0) (bB (n7 == 2) (bB (n12 == 0) (bB (((es13.length : Nat) : Int) == 8) ((0 ≤ (5 : Int) ∧ (5 : Int) < ((es13.length : Nat) : Int)) ∧ cI .i64 (ext (List.getD es13 5 []) 0 6) fun n19 r18 => cI .i64 r18 fun n21 r20 => cI .i64 r20 fun n23 r22 => cI .i64 r22 fun n25 r24 => cI .i64 r24 fun n27 r26 => cI .i64 r26 fun n29 r28 => nilC r28 <| bB ((n19 == 8) && ((n21 == 0) && ((n23 == 0) && ((n25 == 0) && ((n27 == 0) && ((n29 == 3) && true)))))) (f17 (fun n30 => bB (n30 == 3) (f15 (fun n31 => bB (n31 == 11) (k0 (n17 == 8)) (k0 false))) (k0 false))) (k0 false)) (k0 false)) (k0 false)) (k0 false)) (k0 false)) (k0 false)) (k0 false)))) (fun n32 n33 i34 n35 es36 => f20_1 i34 n35 es36 (fun es37 full38 i39 n40 es41 => f27 es37 full38 60 (fun n42 n43 n44 => bB (n4 == 0) (bB (n3 == 3) (bB (n8 == 0) (bB (n7 == 2) (bB (n33 == 0) (bB (((es37.length : Nat) : Int) == 8) ((0 ≤ (5 : Int) ∧ (5 : Int) < ((es37.length : Nat) : Int)) ∧ cI .i64 (ext (List.getD es37 5 []) 0 6) fun n46 r45 => cI .i64 r45 fun n48 r47 => cI .i64 r47 fun n50 r49 => cI .i64 r49 fun n52 r51 => cI .i64 r51 fun n54 r53 => cI .i64 r53 fun n56 r55 => nilC r55 <| bB ((n46 == 8) && ((n48 == 0) && ((n50 == 0) && ((n52 == 0) && ((n54 == 0) && ((n56 == 3) && true)))))) (f17_1 i39 n40 es41 (fun n57 i58 n59 es60 => bB (n57 == 3) (f15_1 i58 n59 es60 (fun n61 i62 n63 es64 => bB (n61 == 11) (k0 (n44 == 8)) (k0 false))) (k0 false))) (k0 false)) (k0 false)) (k0 false)) (k0 false)) (k0 false)) (k0 false)) (k0 false)))))) (fun n65 n66 i67 n68 es69 => f23 9 10 (fun es70 full71 => f13_1 es70 full71 i67 n68 es69 (fun n72 n73 i74 n75 es76 => f20_1 i74 n75 es76 (fun es77 full78 i79 n80 es81 => f27 es77 full78 60 (fun n82 n83 n84 => bB (n4 == 0) (bB (n3 == 3) (bB (n66 == 0) (bB (n65 == 2) (bB (n73 == 0) (bB (((es77.length : Nat) : Int) == 8) ((0 ≤ (5 : Int) ∧ (5 : Int) < ((es77.length : Nat) : Int)) ∧ cI .i64 (ext (List.getD es77 5 []) 0 6) fun n86 r85 => cI .i64 r85 fun n88 r87 => cI .i64 r87 fun n90 r89 => cI .i64 r89 fun n92 r91 => cI .i64 r91 fun n94 r93 => cI .i64 r93 fun n96 r95 => nilC r95 <| bB ((n86 == 8) && ((n88 == 0) && ((n90 == 0) && ((n92 == 0) && ((n94 == 0) && ((n96 == 3) && true)))))) (f17_1 i79 n80 es81 (fun n97 i98 n99 es100 => bB (n97 == 3) (f15_1 i98 n99 es100 (fun n101 i102 n103 es104 => bB (n101 == 11) (k0 (n84 == 8)) (k0 false))) (k0 false))) (k0 false)) (k0 false)) (k0 false)) (k0 false)) (k0 false)) (k0 false)) (k0 false)))) (fun n105 n106 i107 n108 es109 es110 => f20_1 i107 n108 es110 (fun es111 full112 i113 n114 es115 => f27 es111 full112 60 (fun n116 n117 n118 => bB (n4 == 0) (bB (n3 == 3) (bB (n66 == 0) (bB (n65 == 2) (bB (n106 == 0) (bB (((es111.length : Nat) : Int) == 8) ((0 ≤ (5 : Int) ∧ (5 : Int) < ((es111.length : Nat) : Int)) ∧ cI .i64 (ext (List.getD es111 5 []) 0 6) fun n120 r119 => cI .i64 r119 fun n122 r121 => cI .i64 r121 fun n124 r123 => cI .i64 r123 fun n126 r125 => cI .i64 r125 fun n128 r127 => cI .i64 r127 fun n130 r129 => nilC r129 <| bB ((n120 == 8) && ((n122 == 0) && ((n124 == 0) && ((n126 == 0) && ((n128 == 0) && ((n130 == 3) && true)))))) (f17_1 i113 n114 es115 (fun n131 i132 n133 es134 => bB (n131 == 3) (f15_1 i132 n133 es134 (fun n135 i136 n137 es138 => bB (n135 == 11) (k0 (n118 == 8)) (k0 false))) (k0 false))) (k0 false)) (k0 false)) (k0 false)) (k0 false)) (k0 false)) (k0 false)) (k0 false)))))))) (fun n139 n140 i141 n142 es143 => f23 2 5 (fun es144 full145 => f13_1 es144 full145 i141 n142 es143 (fun n146 n147 i148 n149 es150 => f23 9 10 (fun es151 full152 => f13_1 es151 full152 i148 n149 es150 (fun n153 n154 i155 n156 es157 => f20_1 i155 n156 es157 (fun es158 full159 i160 n161 es162 => f27 es158 full159 60 (fun n163 n164 n165 => bB (n140 == 0) (bB (n139 == 3) (bB (n147 == 0) (bB (n146 == 2) (bB (n154 == 0) (bB (((es158.length : Nat) : Int) == 8) ((0 ≤ (5 : Int) ∧ (5 : Int) < ((es158.length : Nat) : Int)) ∧ cI .i64 (ext (List.getD es158 5 []) 0 6) fun n167 r166 => cI .i64 r166 fun n169 r168 => cI .i64 r168 fun n171 r170 => cI .i64 r170 fun n173 r172 => cI .i64 r172 fun n175 r174 => cI .i64 r174 fun n177 r176 => nilC r176 <| bB ((n167 == 8) && ((n169 == 0) && ((n171 == 0) && ((n173 == 0) && ((n175 == 0) && ((n177 == 3) && true)))))) (f17_1 i160 n161 es162 (fun n178 i179 n180 es181 => bB (n178 == 3) (f15_1 i179 n180 es181 (fun n182 i183 n184 es185 => bB (n182 == 11) (k0 (n165 == 8)) (k0 false))) (k0 false))) (k0 false)) (k0 false)) (k0 false)) (k0 false)) (k0 false)) (k0 false)) (k0 false)))) (fun n186 n187 i188 n189 es190 es191 => f20_1 i188 n189 es191 (fun es192 full193 i194 n195 es196 => f27 es192 full193 60 (fun n197 n198 n199 => bB (n140 == 0) (bB (n139 == 3) (bB (n147 == 0) (bB (n146 == 2) (bB (n187 == 0) (bB (((es192.length : Nat) : Int) == 8) ((0 ≤ (5 : Int) ∧ (5 : Int) < ((es192.length : Nat) : Int)) ∧ cI .i64 (ext (List.getD es192 5 []) 0 6) fun n201 r200 => cI .i64 r200 fun n203 r202 => cI .i64 r202 fun n205 r204 => cI .i64 r204 fun n207 r206 => cI .i64 r206 fun n209 r208 => cI .i64 r208 fun n211 r210 => nilC r210 <| bB ((n201 == 8) && ((n203 == 0) && ((n205 == 0) && ((n207 == 0) && ((n209 == 0) && ((n211 == 3) && true)))))) (f17_1 i194 n195 es196 (fun n212 i213 n214 es215 => bB (n212 == 3) (f15_1 i213 n214 es215 (fun n216 i217 n218 es219 => bB (n216 == 11) (k0 (n199 == 8)) (k0 false))) (k0 false))) (k0 false)) (k0 false)) (k0 false)) (k0 false)) (k0 false)) (k0 false)) (k0 false)))))) (fun n220 n221 i222 n223 es224 es225 => f23 9 10 (fun es226 full227 => f13_1 es226 full227 i222 n223 es225 (fun n228 n229 i230 n231 es232 => f20_1 i230 n231 es232 (fun es233 full234 i235 n236 es237 => f27 es233 full234 60 (fun n238 n239 n240 => bB (n140 == 0) (bB (n139 == 3) (bB (n221 == 0) (bB (n220 == 2) (bB (n229 == 0) (bB (((es233.length : Nat) : Int) == 8) ((0 ≤ (5 : Int) ∧ (5 : Int) < ((es233.length : Nat) : Int)) ∧ cI .i64 (ext (List.getD es233 5 []) 0 6) fun n242 r241 => cI .i64 r241 fun n244 r243 => cI .i64 r243 fun n246 r245 => cI .i64 r245 fun n248 r247 => cI .i64 r247 fun n250 r249 => cI .i64 r249 fun n252 r251 => nilC r251 <| bB ((n242 == 8) && ((n244 == 0) && ((n246 == 0) && ((n248 == 0) && ((n250 == 0) && ((n252 == 3) && true)))))) (f17_1 i235 n236 es237 (fun n253 i254 n255 es256 => bB (n253 == 3) (f15_1 i254 n255 es256 (fun n257 i258 n259 es260 => bB (n257 == 11) (k0 (n240 == 8)) (k0 false))) (k0 false))) (k0 false)) (k0 false)) (k0 false)) (k0 false)) (k0 false)) (k0 false)) (k0 false)))) (fun n261 n262 i263 n264 es265 es266 => f20_1 i263 n264 es266 (fun es267 full268 i269 n270 es271 => f27 es267 full268 60 (fun n272 n273 n274 => bB (n140 == 0) (bB (n139 == 3) (bB (n221 == 0) (bB (n220 == 2) (bB (n262 == 0) (bB (((es267.length : Nat) : Int) == 8) ((0 ≤ (5 : Int) ∧ (5 : Int) < ((es267.length : Nat) : Int)) ∧ cI .i64 (ext (List.getD es267 5 []) 0 6) fun n276 r275 => cI .i64 r275 fun n278 r277 => cI .i64 r277 fun n280 r279 => cI .i64 r279 fun n282 r281 => cI .i64 r281 fun n284 r283 => cI .i64 r283 fun n286 r285 => nilC r285 <| bB ((n276 == 8) && ((n278 == 0) && ((n280 == 0) && ((n282 == 0) && ((n284 == 0) && ((n286 == 3) && true)))))) (f17_1 i269 n270 es271 (fun n287 i288 n289 es290 => bB (n287 == 3) (f15_1 i288 n289 es290 (fun n291 i292 n293 es294 => bB (n291 == 11) (k0 (n274 == 8)) (k0 false))) (k0 false))) (k0 false)) (k0 false)) (k0 false)) (k0 false)) (k0 false)) (k0 false)) (k0 false))))))))))
structure f10 (k0 : Bool → Prop) : Prop where
  run : f10_d k0
noncomputable def f10_tab : List (Nat × Told) := []
noncomputable def f10_call : FuncId → List TV → List Entry → (TV → List Entry → Prop) → Prop := addCall 27 f27_G (addCall 23 f23_G (addCall 20 f20_1_G (addCall 17 f17_1_G (addCall 15 f15_1_G (addCall 13 f13_1_G (addCall 12 f12_G (noCalls)))))))
noncomputable def f10_C : Ctx := { ty := tyOf tab, glob := glob, byRef := byRef, keep := fun k i => lookN [] (lookN [] ([] : List (Nat × List (Nat × List Nat))) k) i, late := lookN [] ([] : List (Nat × List Nat)), nref := lookN [] ([] : List (Nat × List Nat)), nbox := lookN [] ([] : List (Nat × List (Nat × Nat))), take := [], rnil := false, m := 0, fz := true, loops := lookL f10_tab, call := f10_call }
noncomputable def f10_G0 : List TV → List Entry → (TV → List Entry → Prop) → Prop := fun tm hp K => getS [] [] tm hp fun (xx : Unit) (yy : Unit) => f10 (fun b0_0 => K (B b0_0) [])
set_option maxRecDepth 100000 in
theorem f10_eq (K : TV → List Entry → Prop) : (f10_d (fun b0_0 => K (B b0_0) [])) = funcT f10_C Try.f10 [] [] K := by kernel_rfl
set_option maxHeartbeats 4000000 in
theorem f10_ok0 : FnOk Try.prog glob 10 f10_G0 := by
  refine FnOk.of_text (C := f10_C) tab_ok.ok (Known.add f27_G_ok (Known.add f23_G_ok (Known.add f20_1_G_ok (Known.add f17_1_G_ok (Known.add f15_1_G_ok (Known.add f13_1_G_ok (Known.add f12_G_ok (Known.none)))))))) follows_ok (fn := Try.f10) (by kernel_rfl) (by kernel_rfl) (by kernel_rfl) (fun c hc => ?_) fun tm hp K h => ?_
  · have e : c = bodyOf Try.f10 := Option.some.inj (hc.symm.trans (by kernel_rfl))
    subst e
    exact ⟨LoopsOk.of [] (by kernel_rfl) trivial, TailsOk.of (tab := f10_tab) rfl [] (by kernel_rfl) trivial⟩
  · unfold f10_G0 at h
    obtain ⟨xx, yy, rfl, rfl, h⟩ := getS_elim h
    have e := (f10_eq K).trans (show _ = funcT f10_C Try.f10 (mkR _ xx) (mkE _ yy) K by kernel_rfl)
    rw [← e]
    exact h.run
noncomputable abbrev f10_G := f10_G0
theorem f10_G_ok : FnOk Try.prog glob 10 f10_G := f10_ok0
end Go.Eng.N
set_option linter.unusedVariables false
set_option maxRecDepth 100000
open Go Go.Eng Go.Proofs
namespace Go.Eng.N
/-! ### f19: plenum/plenumref42.Same -/
noncomputable def f19_p8b0 (es5 : List (List PC)) (full6 : Bool) (es7 : List (List PC)) (full8 : Bool) (n9 : Int) (N0 : Int → Prop) (k0 : Bool → Prop) (k1 : Unit → Prop) : Prop := bB (decide (n9 < ((es5.length : Nat) : Int))) ((0 ≤ n9 ∧ n9 < ((es5.length : Nat) : Int)) ∧ cI .i64 (ext (List.getD es5 (Int.toNat n9) []) 0 6) fun n11 r10 => cI .i64 r10 fun n13 r12 => cI .i64 r12 fun n15 r14 => cI .i64 r14 fun n17 r16 => cI .i64 r16 fun n19 r18 => cI .i64 r18 fun n21 r20 => nilC r20 <| (0 ≤ n9 ∧ n9 < ((es7.length : Nat) : Int)) ∧ cI .i64 (ext (List.getD es7 (Int.toNat n9) []) 0 6) fun n23 r22 => cI .i64 r22 fun n25 r24 => cI .i64 r24 fun n27 r26 => cI .i64 r26 fun n29 r28 => cI .i64 r28 fun n31 r30 => cI .i64 r30 fun n33 r32 => nilC r32 <| bB (!((n11 == n23) && ((n13 == n25) && ((n15 == n27) && ((n17 == n29) && ((n19 == n31) && ((n21 == n33) && true))))))) (k0 false) (N0 (w64 (n9 + 1)))) (k1 ())
noncomputable def f19_p8 (es5 : List (List PC)) (full6 : Bool) (es7 : List (List PC)) (full8 : Bool) (k0 : Bool → Prop) (k1 : Unit → Prop) : Int → Prop := LoopP fun x N => f19_p8b0 es5 full6 es7 full8 x (fun n9 => N n9) k0 k1
noncomputable def f19_d (es1 : List (List PC)) (full2 : Bool) (es3 : List (List PC)) (full4 : Bool) (k0 : Bool → Prop) : Prop := bB (((es1.length : Nat) : Int) != ((es3.length : Nat) : Int)) (k0 false) (f19_p8 es1 full2 es3 full4 (fun b34 => k0 b34) (fun (_ : Unit) => k0 true) 0)
structure f19 (es1 : List (List PC)) (full2 : Bool) (es3 : List (List PC)) (full4 : Bool) (k0 : Bool → Prop) : Prop where
  run : f19_d es1 full2 es3 full4 k0
noncomputable def f19_p8L : Told := fun s K => match s with
  | ⟨tm, hp⟩ => getS [.v (.one (.sl 6)), .v (.one (.sl 6)), .skip 3, .v (.one (.int .i64)), .skip 20] [] tm hp fun (xx : ((List (List PC) × Bool) × ((List (List PC) × Bool) × (Unit × (Int × (Unit × Unit)))))) (yy : Unit) => f19_p8 xx.1.1 xx.1.2 xx.2.1.1 xx.2.1.2 (fun b0_0 => K .ret ⟨mkS 26 [(4, B b0_0)], []⟩) (fun (_ : Unit) => K (.exit 0) ⟨mkS 26 [], []⟩) xx.2.2.2.1
noncomputable def f19_tab : List (Nat × Told) := [(8, f19_p8L)]
noncomputable def f19_call : FuncId → List TV → List Entry → (TV → List Entry → Prop) → Prop := noCalls
noncomputable def f19_C : Ctx := { ty := tyOf tab, glob := glob, byRef := byRef, keep := fun k i => lookN [] (lookN [] ([(8, [(0, [0, 1, 5]), (2, [4]), (3, [])])] : List (Nat × List (Nat × List Nat))) k) i, late := lookN [] ([] : List (Nat × List Nat)), nref := lookN [] ([] : List (Nat × List Nat)), nbox := lookN [] ([] : List (Nat × List (Nat × Nat))), take := [], rnil := false, m := 0, fz := true, loops := lookL f19_tab, call := f19_call }
noncomputable def f19_p8_mk (es5 : List (List PC)) (full6 : Bool) (es7 : List (List PC)) (full8 : Bool) (x : Int) : St := ⟨mkS 26 [(0, .w (.one (.p (.sl 6 es5 full6)))), (1, .w (.one (.p (.sl 6 es7 full8)))), (5, I x)], []⟩
set_option maxRecDepth 100000 in
theorem f19_p8e0 (es_7 : List (List PC)) (full_8 : Bool) (es_9 : List (List PC)) (full_10 : Bool) (n_11 : Int) (N : St → Prop) (K : TExit → St → Prop) : (f19_p8b0 es_7 full_8 es_9 full_10 n_11 (fun z4 => N (f19_p8_mk es_7 full_8 es_9 full_10 z4)) (fun b0_12 => K .ret ⟨mkS 26 [(4, B b0_12)], []⟩) (fun (_ : Unit) => K (.exit 0) ⟨mkS 26 [], []⟩)) = execT f19_C (nthC (bodies (bodyOf Try.f19)) 0) (f19_p8_mk es_7 full_8 es_9 full_10 n_11) (loopK N (normK f19_C 8) fun e s => K e (normOut f19_C 8 e s)) := by kernel_rfl
set_option maxHeartbeats 4000000 in
theorem f19_p8_ok : LoopOk f19_C (nthC (bodies (bodyOf Try.f19)) 0) := by
  refine LoopOk.of f19_p8L (by kernel_rfl) fun σ K h => ?_
  have hk : loopKey (nthC (bodies (bodyOf Try.f19)) 0) = 8 := by kernel_rfl
  rw [hk] at h ⊢
  generalize hs : normK f19_C 8 σ = s at h
  obtain ⟨tm, hp⟩ := s
  unfold f19_p8L at h
  dsimp only at h
  obtain ⟨xx, yy, rfl, rfl, h⟩ := getS_elim h
  refine iter_of (f19_p8_mk xx.1.1 xx.1.2 xx.2.1.1 xx.2.1.2) (fun x N h => ?_) rounds _ σ (hs.trans (by kernel_rfl)) (LoopP.run h)
  rw [← f19_p8e0 xx.1.1 xx.1.2 xx.2.1.1 xx.2.1.2 x N K]
  exact h
noncomputable def f19_G0 : List TV → List Entry → (TV → List Entry → Prop) → Prop := fun tm hp K => getS [.v (.one (.sl 6)), .v (.one (.sl 6))] [] tm hp fun (xx : ((List (List PC) × Bool) × ((List (List PC) × Bool) × Unit))) (yy : Unit) => f19 xx.1.1 xx.1.2 xx.2.1.1 xx.2.1.2 (fun b0_1 => K (B b0_1) [])
set_option maxRecDepth 100000 in
theorem f19_eq (es_13 : List (List PC)) (full_14 : Bool) (es_15 : List (List PC)) (full_16 : Bool) (K : TV → List Entry → Prop) : (f19_d es_13 full_14 es_15 full_16 (fun b0_1 => K (B b0_1) [])) = funcT f19_C Try.f19 [.w (.one (.p (.sl 6 es_13 full_14))), .w (.one (.p (.sl 6 es_15 full_16)))] [] K := by kernel_rfl
set_option maxHeartbeats 4000000 in
theorem f19_ok0 : FnOk Try.prog glob 19 f19_G0 := by
  refine FnOk.of_text (C := f19_C) tab_ok.ok (Known.none) follows_ok (fn := Try.f19) (by kernel_rfl) (by kernel_rfl) (by kernel_rfl) (fun c hc => ?_) fun tm hp K h => ?_
  · have e : c = bodyOf Try.f19 := Option.some.inj (hc.symm.trans (by kernel_rfl))
    subst e
    exact ⟨LoopsOk.of [nthC (bodies (bodyOf Try.f19)) 0] (by kernel_rfl) ⟨f19_p8_ok, trivial⟩, TailsOk.of (tab := f19_tab) rfl [] (by kernel_rfl) trivial⟩
  · unfold f19_G0 at h
    obtain ⟨xx, yy, rfl, rfl, h⟩ := getS_elim h
    have e := (f19_eq xx.1.1 xx.1.2 xx.2.1.1 xx.2.1.2 K).trans (show _ = funcT f19_C Try.f19 (mkR _ xx) (mkE _ yy) K by kernel_rfl)
    rw [← e]
    exact h.run
noncomputable abbrev f19_G := f19_G0
theorem f19_G_ok : FnOk Try.prog glob 19 f19_G := f19_ok0
end Go.Eng.N
set_option linter.unusedVariables false
set_option maxRecDepth 100000
open Go Go.Eng Go.Proofs
namespace Go.Eng.N
/-! ### f24: plenum/plenumref42.Small -/
noncomputable def f24_p8b0 (es3 : List (List PC)) (full4 : Bool) (n5 : Int) (N0 : Int → Prop) (k0 : Bool → Prop) (k1 : Unit → Prop) : Prop := bB (decide (n5 < ((es3.length : Nat) : Int))) ((0 ≤ n5 ∧ n5 < ((es3.length : Nat) : Int)) ∧ oI .i64 (ext (List.getD es3 (Int.toNat n5) []) 0 1) fun n6 => bB (decide (n6 > 1000)) ((0 ≤ n5 ∧ n5 < ((es3.length : Nat) : Int)) ∧ oI .i64 (ext (List.getD es3 (Int.toNat n5) []) 0 1) fun n7 => bB (decide (n7 ≤ 1000000000)) (k0 false) (N0 (w64 (n5 + 1)))) (N0 (w64 (n5 + 1)))) (k1 ())
noncomputable def f24_p8 (es3 : List (List PC)) (full4 : Bool) (k0 : Bool → Prop) (k1 : Unit → Prop) : Int → Prop := LoopP fun x N => f24_p8b0 es3 full4 x (fun n5 => N n5) k0 k1
noncomputable def f24_d (es1 : List (List PC)) (full2 : Bool) (k0 : Bool → Prop) : Prop := bB (decide (((es1.length : Nat) : Int) > 40)) (k0 false) (f24_p8 es1 full2 (fun b8 => k0 b8) (fun (_ : Unit) => k0 true) 0)
structure f24 (es1 : List (List PC)) (full2 : Bool) (k0 : Bool → Prop) : Prop where
  run : f24_d es1 full2 k0
noncomputable def f24_p8L : Told := fun s K => match s with
  | ⟨tm, hp⟩ => getS [.v (.one (.sl 6)), .skip 2, .v (.one (.int .i64)), .skip 23] [] tm hp fun (xx : ((List (List PC) × Bool) × (Unit × (Int × (Unit × Unit))))) (yy : Unit) => f24_p8 xx.1.1 xx.1.2 (fun b0_0 => K .ret ⟨mkS 27 [(2, B b0_0)], []⟩) (fun (_ : Unit) => K (.exit 0) ⟨mkS 27 [], []⟩) xx.2.2.1
noncomputable def f24_tab : List (Nat × Told) := [(8, f24_p8L)]
noncomputable def f24_call : FuncId → List TV → List Entry → (TV → List Entry → Prop) → Prop := noCalls
noncomputable def f24_C : Ctx := { ty := tyOf tab, glob := glob, byRef := byRef, keep := fun k i => lookN [] (lookN [] ([(8, [(0, [0, 3]), (2, [2]), (3, [])])] : List (Nat × List (Nat × List Nat))) k) i, late := lookN [] ([] : List (Nat × List Nat)), nref := lookN [] ([] : List (Nat × List Nat)), nbox := lookN [] ([] : List (Nat × List (Nat × Nat))), take := [], rnil := false, m := 0, fz := true, loops := lookL f24_tab, call := f24_call }
noncomputable def f24_p8_mk (es3 : List (List PC)) (full4 : Bool) (x : Int) : St := ⟨mkS 27 [(0, .w (.one (.p (.sl 6 es3 full4)))), (3, I x)], []⟩
set_option maxRecDepth 100000 in
theorem f24_p8e0 (es_5 : List (List PC)) (full_6 : Bool) (n_7 : Int) (N : St → Prop) (K : TExit → St → Prop) : (f24_p8b0 es_5 full_6 n_7 (fun z2 => N (f24_p8_mk es_5 full_6 z2)) (fun b0_8 => K .ret ⟨mkS 27 [(2, B b0_8)], []⟩) (fun (_ : Unit) => K (.exit 0) ⟨mkS 27 [], []⟩)) = execT f24_C (nthC (bodies (bodyOf Try.f24)) 0) (f24_p8_mk es_5 full_6 n_7) (loopK N (normK f24_C 8) fun e s => K e (normOut f24_C 8 e s)) := by kernel_rfl
set_option maxHeartbeats 4000000 in
theorem f24_p8_ok : LoopOk f24_C (nthC (bodies (bodyOf Try.f24)) 0) := by
  refine LoopOk.of f24_p8L (by kernel_rfl) fun σ K h => ?_
  have hk : loopKey (nthC (bodies (bodyOf Try.f24)) 0) = 8 := by kernel_rfl
  rw [hk] at h ⊢
  generalize hs : normK f24_C 8 σ = s at h
  obtain ⟨tm, hp⟩ := s
  unfold f24_p8L at h
  dsimp only at h
  obtain ⟨xx, yy, rfl, rfl, h⟩ := getS_elim h
  refine iter_of (f24_p8_mk xx.1.1 xx.1.2) (fun x N h => ?_) rounds _ σ (hs.trans (by kernel_rfl)) (LoopP.run h)
  rw [← f24_p8e0 xx.1.1 xx.1.2 x N K]
  exact h
noncomputable def f24_G0 : List TV → List Entry → (TV → List Entry → Prop) → Prop := fun tm hp K => getS [.v (.one (.sl 6))] [] tm hp fun (xx : ((List (List PC) × Bool) × Unit)) (yy : Unit) => f24 xx.1.1 xx.1.2 (fun b0_1 => K (B b0_1) [])
set_option maxRecDepth 100000 in
theorem f24_eq (es_9 : List (List PC)) (full_10 : Bool) (K : TV → List Entry → Prop) : (f24_d es_9 full_10 (fun b0_1 => K (B b0_1) [])) = funcT f24_C Try.f24 [.w (.one (.p (.sl 6 es_9 full_10)))] [] K := by kernel_rfl
set_option maxHeartbeats 4000000 in
theorem f24_ok0 : FnOk Try.prog glob 24 f24_G0 := by
  refine FnOk.of_text (C := f24_C) tab_ok.ok (Known.none) follows_ok (fn := Try.f24) (by kernel_rfl) (by kernel_rfl) (by kernel_rfl) (fun c hc => ?_) fun tm hp K h => ?_
  · have e : c = bodyOf Try.f24 := Option.some.inj (hc.symm.trans (by kernel_rfl))
    subst e
    exact ⟨LoopsOk.of [nthC (bodies (bodyOf Try.f24)) 0] (by kernel_rfl) ⟨f24_p8_ok, trivial⟩, TailsOk.of (tab := f24_tab) rfl [] (by kernel_rfl) trivial⟩
  · unfold f24_G0 at h
    obtain ⟨xx, yy, rfl, rfl, h⟩ := getS_elim h
    have e := (f24_eq xx.1.1 xx.1.2 K).trans (show _ = funcT f24_C Try.f24 (mkR _ xx) (mkE _ yy) K by kernel_rfl)
    rw [← e]
    exact h.run
noncomputable abbrev f24_G := f24_G0
theorem f24_G_ok : FnOk Try.prog glob 24 f24_G := f24_ok0
end Go.Eng.N
set_option linter.unusedVariables false
set_option maxRecDepth 100000
open Go Go.Eng Go.Proofs
namespace Go.Eng.N
/-! ### f44: plenum/collect.Merge$1 -/
noncomputable def f44_d (n1 : Int) (n2 : Int) (n3 : Int) (n4 : Int) (n5 : Int) (n6 : Int) (k0 : Bool → Prop) : Prop := k0 (decide (n6 > 0))
structure f44 (n1 : Int) (n2 : Int) (n3 : Int) (n4 : Int) (n5 : Int) (n6 : Int) (k0 : Bool → Prop) : Prop where
  run : f44_d n1 n2 n3 n4 n5 n6 k0
noncomputable def f44_tab : List (Nat × Told) := []
noncomputable def f44_call : FuncId → List TV → List Entry → (TV → List Entry → Prop) → Prop := noCalls
noncomputable def f44_C : Ctx := { ty := tyOf tab, glob := glob, byRef := byRef, keep := fun k i => lookN [] (lookN [] ([] : List (Nat × List (Nat × List Nat))) k) i, late := lookN [] ([] : List (Nat × List Nat)), nref := lookN [] ([] : List (Nat × List Nat)), nbox := lookN [] ([] : List (Nat × List (Nat × Nat))), take := [], rnil := false, m := 0, fz := true, loops := lookL f44_tab, call := f44_call }
noncomputable def f44_G0 : List TV → List Entry → (TV → List Entry → Prop) → Prop := fun tm hp K => getS [.v (.pagg [.int .i64, .int .i64, .int .i64, .int .i64, .int .i64, .int .i64])] [] tm hp fun (xx : ((Int × (Int × (Int × (Int × (Int × (Int × Unit)))))) × Unit)) (yy : Unit) => f44 xx.1.1 xx.1.2.1 xx.1.2.2.1 xx.1.2.2.2.1 xx.1.2.2.2.2.1 xx.1.2.2.2.2.2.1 (fun b0_0 => K (B b0_0) [])
set_option maxRecDepth 100000 in
theorem f44_eq (n_1 : Int) (n_2 : Int) (n_3 : Int) (n_4 : Int) (n_5 : Int) (n_6 : Int) (K : TV → List Entry → Prop) : (f44_d n_1 n_2 n_3 n_4 n_5 n_6 (fun b0_0 => K (B b0_0) [])) = funcT f44_C Try.f44 [.w (.pagg [pI n_1, pI n_2, pI n_3, pI n_4, pI n_5, pI n_6])] [] K := by kernel_rfl
set_option maxHeartbeats 4000000 in
theorem f44_ok0 : FnOk Try.prog glob 44 f44_G0 := by
  refine FnOk.of_text (C := f44_C) tab_ok.ok (Known.none) follows_ok (fn := Try.f44) (by kernel_rfl) (by kernel_rfl) (by kernel_rfl) (fun c hc => ?_) fun tm hp K h => ?_
  · have e : c = bodyOf Try.f44 := Option.some.inj (hc.symm.trans (by kernel_rfl))
    subst e
    exact ⟨LoopsOk.of [] (by kernel_rfl) trivial, TailsOk.of (tab := f44_tab) rfl [] (by kernel_rfl) trivial⟩
  · unfold f44_G0 at h
    obtain ⟨xx, yy, rfl, rfl, h⟩ := getS_elim h
    have e := (f44_eq xx.1.1 xx.1.2.1 xx.1.2.2.1 xx.1.2.2.2.1 xx.1.2.2.2.2.1 xx.1.2.2.2.2.2.1 K).trans (show _ = funcT f44_C Try.f44 (mkR _ xx) (mkE _ yy) K by kernel_rfl)
    rw [← e]
    exact h.run
noncomputable abbrev f44_G := f44_G0
theorem f44_G_ok : FnOk Try.prog glob 44 f44_G := f44_ok0
end Go.Eng.N
set_option linter.unusedVariables false
set_option maxRecDepth 100000
open Go Go.Eng Go.Proofs
namespace Go.Eng.N
/-! ### f50: slices.IndexFunc(()plenum/api.Record,plenum/api.Record) -/
noncomputable def f50_p4b0 (es3 : List (List PC)) (full4 : Bool) (n5 : Int) (n6 : Int) (N0 : Int → Prop) (k0 : Int → Prop) (k1 : Unit → Prop) : Prop := bB (decide (n6 < n5)) ((0 ≤ n6 ∧ n6 < ((es3.length : Nat) : Int)) ∧ cI .i64 (ext (List.getD es3 (Int.toNat n6) []) 0 6) fun n8 r7 => cI .i64 r7 fun n10 r9 => cI .i64 r9 fun n12 r11 => cI .i64 r11 fun n14 r13 => cI .i64 r13 fun n16 r15 => cI .i64 r15 fun n18 r17 => nilC r17 <| f44 n8 n10 n12 n14 n16 n18 (fun b19 => bB b19 (k0 n6) (N0 (w64 (n6 + 1))))) (k1 ())
noncomputable def f50_p4 (es3 : List (List PC)) (full4 : Bool) (n5 : Int) (k0 : Int → Prop) (k1 : Unit → Prop) : Int → Prop := LoopP fun x N => f50_p4b0 es3 full4 n5 x (fun n6 => N n6) k0 k1
noncomputable def f50_d (es1 : List (List PC)) (full2 : Bool) (k0 : Int → Prop) : Prop := f50_p4 es1 full2 ((es1.length : Nat) : Int) (fun n20 => k0 n20) (fun (_ : Unit) => k0 (-1)) 0
structure f50 (es1 : List (List PC)) (full2 : Bool) (k0 : Int → Prop) : Prop where
  run : f50_d es1 full2 k0
noncomputable def f50_p4L : Told := fun s K => match s with
  | ⟨tm, hp⟩ => getS [.v (.one (.sl 6)), .v (.one (.fn 44)), .skip 5, .v (.one (.int .i64)), .v (.one (.int .i64)), .skip 10] [] tm hp fun (xx : ((List (List PC) × Bool) × (Unit × (Unit × (Int × (Int × (Unit × Unit))))))) (yy : Unit) => f50_p4 xx.1.1 xx.1.2 xx.2.2.2.1 (fun n0_0 => K .ret ⟨mkS 19 [(4, I n0_0)], []⟩) (fun (_ : Unit) => K (.exit 0) ⟨mkS 19 [], []⟩) xx.2.2.2.2.1
noncomputable def f50_tab : List (Nat × Told) := [(4, f50_p4L)]
noncomputable def f50_call : FuncId → List TV → List Entry → (TV → List Entry → Prop) → Prop := addCall 44 f44_G (noCalls)
noncomputable def f50_C : Ctx := { ty := tyOf tab, glob := glob, byRef := byRef, keep := fun k i => lookN [] (lookN [] ([(4, [(0, [0, 1, 7, 8]), (2, [4]), (3, [])])] : List (Nat × List (Nat × List Nat))) k) i, late := lookN [] ([] : List (Nat × List Nat)), nref := lookN [] ([] : List (Nat × List Nat)), nbox := lookN [] ([] : List (Nat × List (Nat × Nat))), take := [], rnil := false, m := 0, fz := true, loops := lookL f50_tab, call := f50_call }
noncomputable def f50_p4_mk (es3 : List (List PC)) (full4 : Bool) (n5 : Int) (x : Int) : St := ⟨mkS 19 [(0, .w (.one (.p (.sl 6 es3 full4)))), (1, .w (.one (.p (.c (.func (.func 44) #[] #[]))))), (7, I n5), (8, I x)], []⟩
set_option maxRecDepth 100000 in
theorem f50_p4e0 (es_6 : List (List PC)) (full_7 : Bool) (n_8 : Int) (n_9 : Int) (N : St → Prop) (K : TExit → St → Prop) : (f50_p4b0 es_6 full_7 n_8 n_9 (fun z3 => N (f50_p4_mk es_6 full_7 n_8 z3)) (fun n0_10 => K .ret ⟨mkS 19 [(4, I n0_10)], []⟩) (fun (_ : Unit) => K (.exit 0) ⟨mkS 19 [], []⟩)) = execT f50_C (nthC (bodies (bodyOf Try.f50)) 0) (f50_p4_mk es_6 full_7 n_8 n_9) (loopK N (normK f50_C 4) fun e s => K e (normOut f50_C 4 e s)) := by kernel_rfl
set_option maxHeartbeats 4000000 in
theorem f50_p4_ok : LoopOk f50_C (nthC (bodies (bodyOf Try.f50)) 0) := by
  refine LoopOk.of f50_p4L (by kernel_rfl) fun σ K h => ?_
  have hk : loopKey (nthC (bodies (bodyOf Try.f50)) 0) = 4 := by kernel_rfl
  rw [hk] at h ⊢
  generalize hs : normK f50_C 4 σ = s at h
  obtain ⟨tm, hp⟩ := s
  unfold f50_p4L at h
  dsimp only at h
  obtain ⟨xx, yy, rfl, rfl, h⟩ := getS_elim h
  refine iter_of (f50_p4_mk xx.1.1 xx.1.2 xx.2.2.2.1) (fun x N h => ?_) rounds _ σ (hs.trans (by kernel_rfl)) (LoopP.run h)
  rw [← f50_p4e0 xx.1.1 xx.1.2 xx.2.2.2.1 x N K]
  exact h
noncomputable def f50_G0 : List TV → List Entry → (TV → List Entry → Prop) → Prop := fun tm hp K => getS [.v (.one (.sl 6)), .v (.one (.fn 44))] [] tm hp fun (xx : ((List (List PC) × Bool) × (Unit × Unit))) (yy : Unit) => f50 xx.1.1 xx.1.2 (fun n0_1 => K (I n0_1) [])
set_option maxRecDepth 100000 in
theorem f50_eq (es_11 : List (List PC)) (full_12 : Bool) (K : TV → List Entry → Prop) : (f50_d es_11 full_12 (fun n0_1 => K (I n0_1) [])) = funcT f50_C Try.f50 [.w (.one (.p (.sl 6 es_11 full_12))), .w (.one (.p (.c (.func (.func 44) #[] #[]))))] [] K := by kernel_rfl
set_option maxHeartbeats 4000000 in
theorem f50_ok0 : FnOk Try.prog glob 50 f50_G0 := by
  refine FnOk.of_text (C := f50_C) tab_ok.ok (Known.add f44_G_ok (Known.none)) follows_ok (fn := Try.f50) (by kernel_rfl) (by kernel_rfl) (by kernel_rfl) (fun c hc => ?_) fun tm hp K h => ?_
  · have e : c = bodyOf Try.f50 := Option.some.inj (hc.symm.trans (by kernel_rfl))
    subst e
    exact ⟨LoopsOk.of [nthC (bodies (bodyOf Try.f50)) 0] (by kernel_rfl) ⟨f50_p4_ok, trivial⟩, TailsOk.of (tab := f50_tab) rfl [] (by kernel_rfl) trivial⟩
  · unfold f50_G0 at h
    obtain ⟨xx, yy, rfl, rfl, h⟩ := getS_elim h
    have e := (f50_eq xx.1.1 xx.1.2 K).trans (show _ = funcT f50_C Try.f50 (mkR _ xx) (mkE _ yy) K by kernel_rfl)
    rw [← e]
    exact h.run
noncomputable abbrev f50_G := f50_G0
theorem f50_G_ok : FnOk Try.prog glob 50 f50_G := f50_ok0
end Go.Eng.N
set_option linter.unusedVariables false
set_option maxRecDepth 100000
open Go Go.Eng Go.Proofs
namespace Go.Eng.N
/-! ### f42: slices.DeleteFunc(()plenum/api.Record,plenum/api.Record) -/
noncomputable def f42_p10b0 (i5 : Nat) (n6 : Nat) (n7 : Int) (n8 : Int) (es9 : List (List PC)) (N0 : Int → Int → (List (List PC)) → Prop) (k0 : Int → (List (List PC)) → Prop) : Prop := bB (decide (n8 < ((n6 : Nat) : Int))) ((0 ≤ n8 ∧ n8 < ((n6 : Nat) : Int)) ∧ cI .i64 (ext (List.getD es9 (i5 + (Int.toNat n8)) []) 0 6) fun n11 r10 => cI .i64 r10 fun n13 r12 => cI .i64 r12 fun n15 r14 => cI .i64 r14 fun n17 r16 => cI .i64 r16 fun n19 r18 => cI .i64 r18 fun n21 r20 => nilC r20 <| f44 n11 n13 n15 n17 n19 n21 (fun b22 => bB (!b22) ((0 ≤ n7 ∧ n7 < ((n6 : Nat) : Int)) ∧ (i5 + (Int.toNat n7)) < es9.length ∧ N0 (w64 (n7 + 1)) (w64 (n8 + 1)) (List.set es9 (i5 + (Int.toNat n7)) (splice (List.getD es9 (i5 + (Int.toNat n7)) []) 0 [pI n11, pI n13, pI n15, pI n17, pI n19, pI n21]))) (N0 n7 (w64 (n8 + 1)) es9))) (k0 n7 es9)
noncomputable def f42_p10 (i5 : Nat) (n6 : Nat) (k0 : Int → (List (List PC)) → Prop) : Int × Int × (List (List PC)) → Prop := LoopP fun x N => f42_p10b0 i5 n6 x.1 x.2.1 x.2.2 (fun n7 n8 es9 => N (n7, n8, es9)) k0
noncomputable def f42_d (i1 : Nat) (n2 : Nat) (es3 : List (List PC)) (k0 : Nat → Nat → (List (List PC)) → Prop) : Prop := f50 (List.take n2 (List.drop i1 es3)) false (fun n4 => bB (n4 == (-1)) (k0 i1 n2 es3) (f42_p10 i1 n2 (fun n23 es24 => (0 ≤ n23 ∧ n23 ≤ ((n2 : Nat) : Int) ∧ ((n2 : Nat) : Int) ≤ ((n2 : Nat) : Int)) ∧ ((i1 + (Int.toNat n23)) + ((Int.toNat ((n2 : Nat) : Int)) - (Int.toNat n23))) ≤ es24.length ∧ (0 ≤ (0 : Int) ∧ (0 : Int) ≤ n23 ∧ n23 ≤ ((n2 : Nat) : Int)) ∧ k0 (i1 + 0) ((Int.toNat n23) - 0) (splice es24 (i1 + (Int.toNat n23)) (List.replicate ((Int.toNat ((n2 : Nat) : Int)) - (Int.toNat n23)) [pI 0, pI 0, pI 0, pI 0, pI 0, pI 0]))) (n4, (w64 (n4 + 1)), es3)))
structure f42 (i1 : Nat) (n2 : Nat) (es3 : List (List PC)) (k0 : Nat → Nat → (List (List PC)) → Prop) : Prop where
  run : f42_d i1 n2 es3 k0
noncomputable def f42_p10L : Told := fun s K => match s with
  | ⟨tm, hp⟩ => getS [.v (.one (.ref 0)), .v (.one (.fn 44)), .skip 3, .v (.one (.int .i64)), .v (.one (.int .i64)), .skip 35] [.vec 6 true] tm hp fun (xx : ((Nat × Nat) × (Unit × (Unit × (Int × (Int × (Unit × Unit))))))) (yy : ((List (List PC)) × Unit)) => f42_p10 xx.1.1 xx.1.2 (fun n0_0 es0_1 => K (.exit 0) ⟨mkS 42 [(0, .w (.one (.ref 0 xx.1.1 xx.1.2))), (5, I n0_0)], [.vec 6 es0_1 true]⟩) (xx.2.2.2.1, xx.2.2.2.2.1, yy.1)
noncomputable def f42_tab : List (Nat × Told) := [(10, f42_p10L)]
noncomputable def f42_call : FuncId → List TV → List Entry → (TV → List Entry → Prop) → Prop := addCall 50 f50_G (addCall 44 f44_G (noCalls))
noncomputable def f42_C : Ctx := { ty := tyOf tab, glob := glob, byRef := byRef, keep := fun k i => lookN [] (lookN [] ([(10, [(0, [0, 1, 5, 6]), (2, [4]), (3, [0, 5])])] : List (Nat × List (Nat × List Nat))) k) i, late := lookN [] ([] : List (Nat × List Nat)), nref := lookN [] ([] : List (Nat × List Nat)), nbox := lookN [] ([] : List (Nat × List (Nat × Nat))), take := [], rnil := true, m := 1, fz := false, loops := lookL f42_tab, call := f42_call }
noncomputable def f42_p10_mk (i5 : Nat) (n6 : Nat) (x : Int × Int × (List (List PC))) : St := ⟨mkS 42 [(0, .w (.one (.ref 0 i5 n6))), (1, .w (.one (.p (.c (.func (.func 44) #[] #[]))))), (5, I x.1), (6, I x.2.1)], [.vec 6 x.2.2 true]⟩
set_option maxRecDepth 100000 in
theorem f42_p10e0 (i_10 : Nat) (n_11 : Nat) (n_12 : Int) (n_13 : Int) (es_14 : List (List PC)) (N : St → Prop) (K : TExit → St → Prop) : (f42_p10b0 i_10 n_11 n_12 n_13 es_14 (fun z2 z3 z4 => N (f42_p10_mk i_10 n_11 (z2, z3, z4))) (fun n0_15 es0_16 => K (.exit 0) ⟨mkS 42 [(0, .w (.one (.ref 0 i_10 n_11))), (5, I n0_15)], [.vec 6 es0_16 true]⟩)) = execT f42_C (nthC (bodies (bodyOf Try.f42)) 0) (f42_p10_mk i_10 n_11 (n_12, n_13, es_14)) (loopK N (normK f42_C 10) fun e s => K e (normOut f42_C 10 e s)) := by kernel_rfl
set_option maxHeartbeats 4000000 in
theorem f42_p10_ok : LoopOk f42_C (nthC (bodies (bodyOf Try.f42)) 0) := by
  refine LoopOk.of f42_p10L (by kernel_rfl) fun σ K h => ?_
  have hk : loopKey (nthC (bodies (bodyOf Try.f42)) 0) = 10 := by kernel_rfl
  rw [hk] at h ⊢
  generalize hs : normK f42_C 10 σ = s at h
  obtain ⟨tm, hp⟩ := s
  unfold f42_p10L at h
  dsimp only at h
  obtain ⟨xx, yy, rfl, rfl, h⟩ := getS_elim h
  refine iter_of (f42_p10_mk xx.1.1 xx.1.2) (fun x N h => ?_) rounds _ σ (hs.trans (by kernel_rfl)) (LoopP.run h)
  obtain ⟨y0, y1, y2⟩ := x
  rw [← f42_p10e0 xx.1.1 xx.1.2 y0 y1 y2 N K]
  exact h
noncomputable def f42_G0 : List TV → List Entry → (TV → List Entry → Prop) → Prop := fun tm hp K => getS [.v (.one (.ref 0)), .v (.one (.fn 44))] [.vec 6 true] tm hp fun (xx : ((Nat × Nat) × (Unit × Unit))) (yy : ((List (List PC)) × Unit)) => f42 xx.1.1 xx.1.2 yy.1 (fun i0_2 n0_3 es0_4 => K (.w (.one (.ref 0 i0_2 n0_3))) [.vec 6 es0_4 true])
set_option maxRecDepth 100000 in
theorem f42_eq (i_17 : Nat) (n_18 : Nat) (es_19 : List (List PC)) (K : TV → List Entry → Prop) : (f42_d i_17 n_18 es_19 (fun i0_2 n0_3 es0_4 => K (.w (.one (.ref 0 i0_2 n0_3))) [.vec 6 es0_4 true])) = funcT f42_C Try.f42 [.w (.one (.ref 0 i_17 n_18)), .w (.one (.p (.c (.func (.func 44) #[] #[]))))] [.vec 6 es_19 true] K := by kernel_rfl
set_option maxHeartbeats 4000000 in
theorem f42_ok0 : FnOk Try.prog glob 42 f42_G0 := by
  refine FnOk.of_text (C := f42_C) tab_ok.ok (Known.add f50_G_ok (Known.add f44_G_ok (Known.none))) follows_ok (fn := Try.f42) (by kernel_rfl) (by kernel_rfl) (by kernel_rfl) (fun c hc => ?_) fun tm hp K h => ?_
  · have e : c = bodyOf Try.f42 := Option.some.inj (hc.symm.trans (by kernel_rfl))
    subst e
    exact ⟨LoopsOk.of [nthC (bodies (bodyOf Try.f42)) 0] (by kernel_rfl) ⟨f42_p10_ok, trivial⟩, TailsOk.of (tab := f42_tab) rfl [] (by kernel_rfl) trivial⟩
  · unfold f42_G0 at h
    obtain ⟨xx, yy, rfl, rfl, h⟩ := getS_elim h
    have e := (f42_eq xx.1.1 xx.1.2 yy.1 K).trans (show _ = funcT f42_C Try.f42 (mkR _ xx) (mkE _ yy) K by kernel_rfl)
    rw [← e]
    exact h.run
noncomputable abbrev f42_G := f42_G0
theorem f42_G_ok : FnOk Try.prog glob 42 f42_G := f42_ok0
end Go.Eng.N
set_option linter.unusedVariables false
set_option maxRecDepth 100000
open Go Go.Eng Go.Proofs
namespace Go.Eng.N
/-! ### f51: slices.Grow(()plenum/api.Record,plenum/api.Record) -/
noncomputable def f51_p7 (n2 : Int) (k0 : Nat → Nat → (List (List PC)) → Prop) (k1 : Unit → Prop) : Prop := bB (decide ((w64 (n2 - 0)) > 0)) ((0 ≤ (0 : Int) ∧ (0 : Int) ≤ 0 ∧ (0 : Int) ≤ 0) ∧ (0 < (w64 (n2 - 0)) ∧ (w64 (n2 - 0)) * 48 ≤ 2 ^ 46 ∧ (w64 (n2 - 0)) ≤ 2 ^ 46) ∧ (0 ≤ (0 : Int) ∧ (0 : Int) ≤ 0 ∧ (0 : Int) ≤ (((Int.toNat (w64 (n2 - 0))) : Nat) : Int)) ∧ k0 0 0 (List.replicate (Int.toNat (w64 (n2 - 0))) [pI 0, pI 0, pI 0, pI 0, pI 0, pI 0])) (k1 ())
noncomputable def f51_d (n1 : Int) (k0 : Nat → Nat → (List (List PC)) → Prop) : Prop := bB (decide (n1 < 0)) (False) (f51_p7 n1 (fun i3 n4 es5 => k0 i3 n4 es5) (fun (_ : Unit) => k0 0 0 []))
structure f51 (n1 : Int) (k0 : Nat → Nat → (List (List PC)) → Prop) : Prop where
  run : f51_d n1 k0
noncomputable def f51_p7L : Told := fun s K => match s with
  | ⟨tm, hp⟩ => getS [.v (.one (.nil 6)), .v (.one (.int .i64)), .skip 25] [] tm hp fun (xx : (Unit × (Int × (Unit × Unit)))) (yy : Unit) => f51_p7 xx.2.1 (fun i0_0 n0_1 es0_2 => K .ret ⟨mkS 27 [(4, .w (.one (.ref 0 i0_0 n0_1)))], [.vec 6 es0_2 true]⟩) (fun (_ : Unit) => K .ret ⟨mkS 27 [(4, .w (.one (.p (.sl 6 [] true))))], []⟩)
noncomputable def f51_tab : List (Nat × Told) := [(7, f51_p7L)]
noncomputable def f51_call : FuncId → List TV → List Entry → (TV → List Entry → Prop) → Prop := noCalls
noncomputable def f51_C : Ctx := { ty := tyOf tab, glob := glob, byRef := byRef, keep := fun k i => lookN [] (lookN [] ([(7, [(0, [0, 1]), (1, [4]), (2, [4])])] : List (Nat × List (Nat × List Nat))) k) i, late := lookN [] ([] : List (Nat × List Nat)), nref := lookN [] ([] : List (Nat × List Nat)), nbox := lookN [] ([] : List (Nat × List (Nat × Nat))), take := [], rnil := true, m := 0, fz := false, loops := lookL f51_tab, call := f51_call }
set_option maxRecDepth 100000 in
theorem f51_p7e0 (n_6 : Int) (K : TExit → St → Prop) : (f51_p7 n_6 (fun i0_7 n0_8 es0_9 => K .ret ⟨mkS 27 [(4, .w (.one (.ref 0 i0_7 n0_8)))], [.vec 6 es0_9 true]⟩) (fun (_ : Unit) => K .ret ⟨mkS 27 [(4, .w (.one (.p (.sl 6 [] true))))], []⟩)) = execT f51_C (nthC (tails (bodyOf Try.f51)) 1) ⟨mkS 27 [(0, .w (.one (.p (.sl 6 [] true)))), (1, I n_6)], []⟩ (fun e s => K e (normOut f51_C 7 e s)) := by kernel_rfl
set_option maxHeartbeats 4000000 in
theorem f51_p7_ok : TailOk f51_C (nthC (tails (bodyOf Try.f51)) 1) := by
  refine TailOk.of f51_p7L (by kernel_rfl) fun σ K h => ?_
  have hk : joinKey (nthC (tails (bodyOf Try.f51)) 1) = 7 := by kernel_rfl
  rw [hk] at h ⊢
  generalize hs : normK f51_C 7 σ = s at h
  obtain ⟨tm, hp⟩ := s
  unfold f51_p7L at h
  dsimp only at h
  obtain ⟨xx, yy, rfl, rfl, h⟩ := getS_elim h
  have q : normK f51_C 7 σ = (⟨mkS 27 [(0, .w (.one (.p (.sl 6 [] true)))), (1, I xx.2.1)], []⟩ : St) := hs.trans (by kernel_rfl)
  rw [← hs, q, ← f51_p7e0 xx.2.1 K]
  exact h
noncomputable def f51_G0 : List TV → List Entry → (TV → List Entry → Prop) → Prop := fun tm hp K => getS [.v (.one (.nil 6)), .v (.one (.int .i64))] [] tm hp fun (xx : (Unit × (Int × Unit))) (yy : Unit) => f51 xx.2.1 (fun i0_3 n0_4 es0_5 => K (.w (.one (.ref 0 i0_3 n0_4))) [.vec 6 es0_5 true])
set_option maxRecDepth 100000 in
theorem f51_eq (n_10 : Int) (K : TV → List Entry → Prop) : (f51_d n_10 (fun i0_3 n0_4 es0_5 => K (.w (.one (.ref 0 i0_3 n0_4))) [.vec 6 es0_5 true])) = funcT f51_C Try.f51 [.w (.one (.p (.sl 6 [] true))), I n_10] [] K := by kernel_rfl
set_option maxHeartbeats 4000000 in
theorem f51_ok0 : FnOk Try.prog glob 51 f51_G0 := by
  refine FnOk.of_text (C := f51_C) tab_ok.ok (Known.none) follows_ok (fn := Try.f51) (by kernel_rfl) (by kernel_rfl) (by kernel_rfl) (fun c hc => ?_) fun tm hp K h => ?_
  · have e : c = bodyOf Try.f51 := Option.some.inj (hc.symm.trans (by kernel_rfl))
    subst e
    exact ⟨LoopsOk.of [] (by kernel_rfl) trivial, TailsOk.of (tab := f51_tab) rfl [nthC (tails (bodyOf Try.f51)) 1] (by kernel_rfl) ⟨f51_p7_ok, trivial⟩⟩
  · unfold f51_G0 at h
    obtain ⟨xx, yy, rfl, rfl, h⟩ := getS_elim h
    have e := (f51_eq xx.2.1 K).trans (show _ = funcT f51_C Try.f51 (mkR _ xx) (mkE _ yy) K by kernel_rfl)
    rw [← e]
    exact h.run
noncomputable abbrev f51_G := f51_G0
theorem f51_G_ok : FnOk Try.prog glob 51 f51_G := f51_ok0
end Go.Eng.N
set_option linter.unusedVariables false
set_option maxRecDepth 100000
open Go Go.Eng Go.Proofs
namespace Go.Eng.N
/-! ### f43: slices.Concat(()plenum/api.Record,plenum/api.Record) -/
noncomputable def f43_p6b0 (i4 : Nat) (n5 : Nat) (n6 : Int) (i7 : Nat) (n8 : Nat) (n9 : Int) (n10 : Int) (es11 : List (List PC)) (N0 : Int → Int → Prop) (k0 : Int → Prop) : Prop := bB (decide (n10 < n9)) ((0 ≤ n10 ∧ n10 < ((n8 : Nat) : Int)) ∧ oL 6 (ext (List.getD es11 (i7 + (Int.toNat n10)) []) 0 1) fun es12 full13 => bB (decide ((w64 (n6 + ((es12.length : Nat) : Int))) < 0)) (False) (N0 (w64 (n6 + ((es12.length : Nat) : Int))) (w64 (n10 + 1)))) (k0 n6)
noncomputable def f43_p6 (i4 : Nat) (n5 : Nat) (i7 : Nat) (n8 : Nat) (n9 : Int) (es11 : List (List PC)) (k0 : Int → Prop) : Int × Int → Prop := LoopP fun x N => f43_p6b0 i4 n5 x.1 i7 n8 n9 x.2 es11 (fun n6 n10 => N (n6, n10)) k0
noncomputable def f43_p22b0 (i18 : Nat) (n19 : Nat) (i20 : Nat) (n21 : Nat) (n22 : Int) (n23 : Int) (es24 : List (List PC)) (es25 : List (List PC)) (N0 : Nat → Nat → Int → (List (List PC)) → Prop) (k0 : Nat → Nat → (List (List PC)) → Prop) : Prop := bB (decide (n23 < n22)) ((0 ≤ n23 ∧ n23 < ((n21 : Nat) : Int)) ∧ oL 6 (ext (List.getD es24 (i20 + (Int.toNat n23)) []) 0 1) fun es26 full27 => (i18 + n19) ≤ es25.length ∧ (n19 + es26.length) * 48 ≤ 2 ^ 46 ∧ (n19 + es26.length) ≤ 2 ^ 46 ∧ N0 0 (n19 + es26.length) (w64 (n23 + 1)) ((List.take n19 (List.drop i18 es25)) ++ es26)) (k0 i18 n19 es25)
noncomputable def f43_p22 (i20 : Nat) (n21 : Nat) (n22 : Int) (es24 : List (List PC)) (k0 : Nat → Nat → (List (List PC)) → Prop) : Nat × Nat × Int × (List (List PC)) → Prop := LoopP fun x N => f43_p22b0 x.1 x.2.1 i20 n21 n22 x.2.2.1 es24 x.2.2.2 (fun i18 n19 n23 es25 => N (i18, n19, n23, es25)) k0
noncomputable def f43_d (i1 : Nat) (n2 : Nat) (es3 : List (List PC)) (k0 : Nat → Nat → (List (List PC)) → (List (List PC)) → Prop) : Prop := f43_p6 i1 n2 i1 n2 ((n2 : Nat) : Int) es3 (fun n14 => f51 n14 (fun i15 n16 es17 => f43_p22 i1 n2 ((n2 : Nat) : Int) es3 (fun i28 n29 es30 => k0 i28 n29 es3 es30) (i15, n16, 0, es17))) (0, 0)
structure f43 (i1 : Nat) (n2 : Nat) (es3 : List (List PC)) (k0 : Nat → Nat → (List (List PC)) → (List (List PC)) → Prop) : Prop where
  run : f43_d i1 n2 es3 k0
noncomputable def f43_p6L : Told := fun s K => match s with
  | ⟨tm, hp⟩ => getS [.v (.one (.ref 0)), .skip 2, .v (.one (.int .i64)), .skip 5, .v (.one (.ref 0)), .v (.one (.int .i64)), .v (.one (.int .i64)), .skip 24] [.vec 1 true] tm hp fun (xx : ((Nat × Nat) × (Unit × (Int × (Unit × ((Nat × Nat) × (Int × (Int × (Unit × Unit))))))))) (yy : ((List (List PC)) × Unit)) => f43_p6 xx.1.1 xx.1.2 xx.2.2.2.2.1.1 xx.2.2.2.2.1.2 xx.2.2.2.2.2.1 yy.1 (fun n0_0 => K (.exit 0) ⟨mkS 36 [(0, .w (.one (.ref 0 xx.1.1 xx.1.2))), (3, I n0_0)], [.vec 1 yy.1 true]⟩) (xx.2.2.1, xx.2.2.2.2.2.2.1)
noncomputable def f43_p22L : Told := fun s K => match s with
  | ⟨tm, hp⟩ => getS [.skip 6, .v (.one (.ref 1)), .skip 18, .v (.one (.ref 0)), .v (.one (.int .i64)), .v (.one (.int .i64)), .skip 8] [.vec 1 true, .vec 6 true] tm hp fun (xx : (Unit × ((Nat × Nat) × (Unit × ((Nat × Nat) × (Int × (Int × (Unit × Unit)))))))) (yy : ((List (List PC)) × ((List (List PC)) × Unit))) => f43_p22 xx.2.2.2.1.1 xx.2.2.2.1.2 xx.2.2.2.2.1 yy.1 (fun i0_1 n0_2 es0_3 => K (.exit 2) ⟨mkS 36 [(6, .w (.one (.ref 1 i0_1 n0_2)))], [.vec 1 yy.1 true, .vec 6 es0_3 true]⟩) (xx.2.1.1, xx.2.1.2, xx.2.2.2.2.2.1, yy.2.1)
noncomputable def f43_tab : List (Nat × Told) := [(6, f43_p6L), (22, f43_p22L)]
noncomputable def f43_call : FuncId → List TV → List Entry → (TV → List Entry → Prop) → Prop := addCall 51 f51_G (noCalls)
noncomputable def f43_C : Ctx := { ty := tyOf tab, glob := glob, byRef := byRef, keep := fun k i => lookN [] (lookN [] ([(6, [(0, [0, 3, 9, 10, 11]), (2, [2]), (3, [0, 3])]), (22, [(0, [6, 25, 26, 27]), (2, [2]), (5, [6])])] : List (Nat × List (Nat × List Nat))) k) i, late := lookN [] ([] : List (Nat × List Nat)), nref := lookN [] ([] : List (Nat × List Nat)), nbox := lookN [] ([] : List (Nat × List (Nat × Nat))), take := [], rnil := true, m := 1, fz := false, loops := lookL f43_tab, call := f43_call }
noncomputable def f43_p6_mk (i4 : Nat) (n5 : Nat) (i7 : Nat) (n8 : Nat) (n9 : Int) (es11 : List (List PC)) (x : Int × Int) : St := ⟨mkS 36 [(0, .w (.one (.ref 0 i4 n5))), (3, I x.1), (9, .w (.one (.ref 0 i7 n8))), (10, I n9), (11, I x.2)], [.vec 1 es11 true]⟩
set_option maxRecDepth 100000 in
theorem f43_p6e0 (i_16 : Nat) (n_17 : Nat) (n_18 : Int) (i_19 : Nat) (n_20 : Nat) (n_21 : Int) (n_22 : Int) (es_23 : List (List PC)) (N : St → Prop) (K : TExit → St → Prop) : (f43_p6b0 i_16 n_17 n_18 i_19 n_20 n_21 n_22 es_23 (fun z2 z6 => N (f43_p6_mk i_16 n_17 i_19 n_20 n_21 es_23 (z2, z6))) (fun n0_24 => K (.exit 0) ⟨mkS 36 [(0, .w (.one (.ref 0 i_16 n_17))), (3, I n0_24)], [.vec 1 es_23 true]⟩)) = execT f43_C (nthC (bodies (bodyOf Try.f43)) 0) (f43_p6_mk i_16 n_17 i_19 n_20 n_21 es_23 (n_18, n_22)) (loopK N (normK f43_C 6) fun e s => K e (normOut f43_C 6 e s)) := by kernel_rfl
noncomputable def f43_p22_mk (i20 : Nat) (n21 : Nat) (n22 : Int) (es24 : List (List PC)) (x : Nat × Nat × Int × (List (List PC))) : St := ⟨mkS 36 [(6, .w (.one (.ref 1 x.1 x.2.1))), (25, .w (.one (.ref 0 i20 n21))), (26, I n22), (27, I x.2.2.1)], [.vec 1 es24 true, .vec 6 x.2.2.2 true]⟩
set_option maxRecDepth 100000 in
theorem f43_p22e0 (i_33 : Nat) (n_34 : Nat) (i_35 : Nat) (n_36 : Nat) (n_37 : Int) (n_38 : Int) (es_39 : List (List PC)) (es_40 : List (List PC)) (N : St → Prop) (K : TExit → St → Prop) : (f43_p22b0 i_33 n_34 i_35 n_36 n_37 n_38 es_39 es_40 (fun z0 z1 z5 z7 => N (f43_p22_mk i_35 n_36 n_37 es_39 (z0, z1, z5, z7))) (fun i0_41 n0_42 es0_43 => K (.exit 2) ⟨mkS 36 [(6, .w (.one (.ref 1 i0_41 n0_42)))], [.vec 1 es_39 true, .vec 6 es0_43 true]⟩)) = execT f43_C (nthC (bodies (bodyOf Try.f43)) 1) (f43_p22_mk i_35 n_36 n_37 es_39 (i_33, n_34, n_38, es_40)) (loopK N (normK f43_C 22) fun e s => K e (normOut f43_C 22 e s)) := by kernel_rfl
set_option maxHeartbeats 4000000 in
theorem f43_p6_ok : LoopOk f43_C (nthC (bodies (bodyOf Try.f43)) 0) := by
  refine LoopOk.of f43_p6L (by kernel_rfl) fun σ K h => ?_
  have hk : loopKey (nthC (bodies (bodyOf Try.f43)) 0) = 6 := by kernel_rfl
  rw [hk] at h ⊢
  generalize hs : normK f43_C 6 σ = s at h
  obtain ⟨tm, hp⟩ := s
  unfold f43_p6L at h
  dsimp only at h
  obtain ⟨xx, yy, rfl, rfl, h⟩ := getS_elim h
  refine iter_of (f43_p6_mk xx.1.1 xx.1.2 xx.2.2.2.2.1.1 xx.2.2.2.2.1.2 xx.2.2.2.2.2.1 yy.1) (fun x N h => ?_) rounds _ σ (hs.trans (by kernel_rfl)) (LoopP.run h)
  obtain ⟨y0, y1⟩ := x
  rw [← f43_p6e0 xx.1.1 xx.1.2 y0 xx.2.2.2.2.1.1 xx.2.2.2.2.1.2 xx.2.2.2.2.2.1 y1 yy.1 N K]
  exact h
set_option maxHeartbeats 4000000 in
theorem f43_p22_ok : LoopOk f43_C (nthC (bodies (bodyOf Try.f43)) 1) := by
  refine LoopOk.of f43_p22L (by kernel_rfl) fun σ K h => ?_
  have hk : loopKey (nthC (bodies (bodyOf Try.f43)) 1) = 22 := by kernel_rfl
  rw [hk] at h ⊢
  generalize hs : normK f43_C 22 σ = s at h
  obtain ⟨tm, hp⟩ := s
  unfold f43_p22L at h
  dsimp only at h
  obtain ⟨xx, yy, rfl, rfl, h⟩ := getS_elim h
  refine iter_of (f43_p22_mk xx.2.2.2.1.1 xx.2.2.2.1.2 xx.2.2.2.2.1 yy.1) (fun x N h => ?_) rounds _ σ (hs.trans (by kernel_rfl)) (LoopP.run h)
  obtain ⟨y0, y1, y2, y3⟩ := x
  rw [← f43_p22e0 y0 y1 xx.2.2.2.1.1 xx.2.2.2.1.2 xx.2.2.2.2.1 y2 yy.1 y3 N K]
  exact h
noncomputable def f43_G0 : List TV → List Entry → (TV → List Entry → Prop) → Prop := fun tm hp K => getS [.v (.one (.ref 0))] [.vec 1 true] tm hp fun (xx : ((Nat × Nat) × Unit)) (yy : ((List (List PC)) × Unit)) => f43 xx.1.1 xx.1.2 yy.1 (fun i0_4 n0_5 es0_6 es0_7 => K (.w (.one (.ref 1 i0_4 n0_5))) [.vec 1 es0_6 true, .vec 6 es0_7 true])
set_option maxRecDepth 100000 in
theorem f43_eq (i_44 : Nat) (n_45 : Nat) (es_46 : List (List PC)) (K : TV → List Entry → Prop) : (f43_d i_44 n_45 es_46 (fun i0_4 n0_5 es0_6 es0_7 => K (.w (.one (.ref 1 i0_4 n0_5))) [.vec 1 es0_6 true, .vec 6 es0_7 true])) = funcT f43_C Try.f43 [.w (.one (.ref 0 i_44 n_45))] [.vec 1 es_46 true] K := by kernel_rfl
set_option maxHeartbeats 4000000 in
theorem f43_ok0 : FnOk Try.prog glob 43 f43_G0 := by
  refine FnOk.of_text (C := f43_C) tab_ok.ok (Known.add f51_G_ok (Known.none)) follows_ok (fn := Try.f43) (by kernel_rfl) (by kernel_rfl) (by kernel_rfl) (fun c hc => ?_) fun tm hp K h => ?_
  · have e : c = bodyOf Try.f43 := Option.some.inj (hc.symm.trans (by kernel_rfl))
    subst e
    exact ⟨LoopsOk.of [nthC (bodies (bodyOf Try.f43)) 0, nthC (bodies (bodyOf Try.f43)) 1] (by kernel_rfl) ⟨f43_p6_ok, f43_p22_ok, trivial⟩, TailsOk.of (tab := f43_tab) rfl [] (by kernel_rfl) trivial⟩
  · unfold f43_G0 at h
    obtain ⟨xx, yy, rfl, rfl, h⟩ := getS_elim h
    have e := (f43_eq xx.1.1 xx.1.2 yy.1 K).trans (show _ = funcT f43_C Try.f43 (mkR _ xx) (mkE _ yy) K by kernel_rfl)
    rw [← e]
    exact h.run
noncomputable abbrev f43_G := f43_G0
theorem f43_G_ok : FnOk Try.prog glob 43 f43_G := f43_ok0
end Go.Eng.N
set_option linter.unusedVariables false
set_option maxRecDepth 100000
open Go Go.Eng Go.Proofs
namespace Go.Eng.N
/-! ### f53: cmp.isNaN(int) -/
noncomputable def f53_d (n1 : Int) (k0 : Bool → Prop) : Prop := k0 (n1 != n1)
structure f53 (n1 : Int) (k0 : Bool → Prop) : Prop where
  run : f53_d n1 k0
noncomputable def f53_tab : List (Nat × Told) := []
noncomputable def f53_call : FuncId → List TV → List Entry → (TV → List Entry → Prop) → Prop := noCalls
noncomputable def f53_C : Ctx := { ty := tyOf tab, glob := glob, byRef := byRef, keep := fun k i => lookN [] (lookN [] ([] : List (Nat × List (Nat × List Nat))) k) i, late := lookN [] ([] : List (Nat × List Nat)), nref := lookN [] ([] : List (Nat × List Nat)), nbox := lookN [] ([] : List (Nat × List (Nat × Nat))), take := [], rnil := false, m := 0, fz := true, loops := lookL f53_tab, call := f53_call }
noncomputable def f53_G0 : List TV → List Entry → (TV → List Entry → Prop) → Prop := fun tm hp K => getS [.v (.one (.int .i64))] [] tm hp fun (xx : (Int × Unit)) (yy : Unit) => f53 xx.1 (fun b0_0 => K (B b0_0) [])
set_option maxRecDepth 100000 in
theorem f53_eq (n_1 : Int) (K : TV → List Entry → Prop) : (f53_d n_1 (fun b0_0 => K (B b0_0) [])) = funcT f53_C Try.f53 [I n_1] [] K := by kernel_rfl
set_option maxHeartbeats 4000000 in
theorem f53_ok0 : FnOk Try.prog glob 53 f53_G0 := by
  refine FnOk.of_text (C := f53_C) tab_ok.ok (Known.none) follows_ok (fn := Try.f53) (by kernel_rfl) (by kernel_rfl) (by kernel_rfl) (fun c hc => ?_) fun tm hp K h => ?_
  · have e : c = bodyOf Try.f53 := Option.some.inj (hc.symm.trans (by kernel_rfl))
    subst e
    exact ⟨LoopsOk.of [] (by kernel_rfl) trivial, TailsOk.of (tab := f53_tab) rfl [] (by kernel_rfl) trivial⟩
  · unfold f53_G0 at h
    obtain ⟨xx, yy, rfl, rfl, h⟩ := getS_elim h
    have e := (f53_eq xx.1 K).trans (show _ = funcT f53_C Try.f53 (mkR _ xx) (mkE _ yy) K by kernel_rfl)
    rw [← e]
    exact h.run
noncomputable abbrev f53_G := f53_G0
theorem f53_G_ok : FnOk Try.prog glob 53 f53_G := f53_ok0
end Go.Eng.N
set_option linter.unusedVariables false
set_option maxRecDepth 100000
open Go Go.Eng Go.Proofs
namespace Go.Eng.N
/-! ### f47: cmp.Compare(int) -/
noncomputable def f47_d (n1 : Int) (n2 : Int) (k0 : Int → Prop) : Prop := f53 n1 (fun b3 => f53 n2 (fun b4 => bB b3 (bB b4 (k0 0) (k0 (-1))) (bB b4 (k0 1) (bB (decide (n1 < n2)) (k0 (-1)) (bB (decide (n1 > n2)) (k0 1) (k0 0))))))
structure f47 (n1 : Int) (n2 : Int) (k0 : Int → Prop) : Prop where
  run : f47_d n1 n2 k0
noncomputable def f47_tab : List (Nat × Told) := []
noncomputable def f47_call : FuncId → List TV → List Entry → (TV → List Entry → Prop) → Prop := addCall 53 f53_G (noCalls)
noncomputable def f47_C : Ctx := { ty := tyOf tab, glob := glob, byRef := byRef, keep := fun k i => lookN [] (lookN [] ([] : List (Nat × List (Nat × List Nat))) k) i, late := lookN [] ([] : List (Nat × List Nat)), nref := lookN [] ([] : List (Nat × List Nat)), nbox := lookN [] ([] : List (Nat × List (Nat × Nat))), take := [], rnil := false, m := 0, fz := true, loops := lookL f47_tab, call := f47_call }
noncomputable def f47_G0 : List TV → List Entry → (TV → List Entry → Prop) → Prop := fun tm hp K => getS [.v (.one (.int .i64)), .v (.one (.int .i64))] [] tm hp fun (xx : (Int × (Int × Unit))) (yy : Unit) => f47 xx.1 xx.2.1 (fun n0_0 => K (I n0_0) [])
set_option maxRecDepth 100000 in
theorem f47_eq (n_1 : Int) (n_2 : Int) (K : TV → List Entry → Prop) : (f47_d n_1 n_2 (fun n0_0 => K (I n0_0) [])) = funcT f47_C Try.f47 [I n_1, I n_2] [] K := by kernel_rfl
set_option maxHeartbeats 4000000 in
theorem f47_ok0 : FnOk Try.prog glob 47 f47_G0 := by
  refine FnOk.of_text (C := f47_C) tab_ok.ok (Known.add f53_G_ok (Known.none)) follows_ok (fn := Try.f47) (by kernel_rfl) (by kernel_rfl) (by kernel_rfl) (fun c hc => ?_) fun tm hp K h => ?_
  · have e : c = bodyOf Try.f47 := Option.some.inj (hc.symm.trans (by kernel_rfl))
    subst e
    exact ⟨LoopsOk.of [] (by kernel_rfl) trivial, TailsOk.of (tab := f47_tab) rfl [] (by kernel_rfl) trivial⟩
  · unfold f47_G0 at h
    obtain ⟨xx, yy, rfl, rfl, h⟩ := getS_elim h
    have e := (f47_eq xx.1 xx.2.1 K).trans (show _ = funcT f47_C Try.f47 (mkR _ xx) (mkE _ yy) K by kernel_rfl)
    rw [← e]
    exact h.run
noncomputable abbrev f47_G := f47_G0
theorem f47_G_ok : FnOk Try.prog glob 47 f47_G := f47_ok0
end Go.Eng.N
set_option linter.unusedVariables false
set_option maxRecDepth 100000
open Go Go.Eng Go.Proofs
namespace Go.Eng.N
/-! ### f46: plenum/collect.Merge$2 -/
noncomputable def f46_d (n1 : Int) (n2 : Int) (n3 : Int) (n4 : Int) (n5 : Int) (n6 : Int) (n7 : Int) (n8 : Int) (n9 : Int) (n10 : Int) (n11 : Int) (n12 : Int) (k0 : Int → Prop) : Prop := f47 n1 n7 (fun n13 => k0 n13)
structure f46 (n1 : Int) (n2 : Int) (n3 : Int) (n4 : Int) (n5 : Int) (n6 : Int) (n7 : Int) (n8 : Int) (n9 : Int) (n10 : Int) (n11 : Int) (n12 : Int) (k0 : Int → Prop) : Prop where
  run : f46_d n1 n2 n3 n4 n5 n6 n7 n8 n9 n10 n11 n12 k0
noncomputable def f46_tab : List (Nat × Told) := []
noncomputable def f46_call : FuncId → List TV → List Entry → (TV → List Entry → Prop) → Prop := addCall 47 f47_G (noCalls)
noncomputable def f46_C : Ctx := { ty := tyOf tab, glob := glob, byRef := byRef, keep := fun k i => lookN [] (lookN [] ([] : List (Nat × List (Nat × List Nat))) k) i, late := lookN [] ([] : List (Nat × List Nat)), nref := lookN [] ([] : List (Nat × List Nat)), nbox := lookN [] ([] : List (Nat × List (Nat × Nat))), take := [], rnil := false, m := 0, fz := true, loops := lookL f46_tab, call := f46_call }
noncomputable def f46_G0 : List TV → List Entry → (TV → List Entry → Prop) → Prop := fun tm hp K => getS [.v (.pagg [.int .i64, .int .i64, .int .i64, .int .i64, .int .i64, .int .i64]), .v (.pagg [.int .i64, .int .i64, .int .i64, .int .i64, .int .i64, .int .i64])] [] tm hp fun (xx : ((Int × (Int × (Int × (Int × (Int × (Int × Unit)))))) × ((Int × (Int × (Int × (Int × (Int × (Int × Unit)))))) × Unit))) (yy : Unit) => f46 xx.1.1 xx.1.2.1 xx.1.2.2.1 xx.1.2.2.2.1 xx.1.2.2.2.2.1 xx.1.2.2.2.2.2.1 xx.2.1.1 xx.2.1.2.1 xx.2.1.2.2.1 xx.2.1.2.2.2.1 xx.2.1.2.2.2.2.1 xx.2.1.2.2.2.2.2.1 (fun n0_0 => K (I n0_0) [])
set_option maxRecDepth 100000 in
theorem f46_eq (n_1 : Int) (n_2 : Int) (n_3 : Int) (n_4 : Int) (n_5 : Int) (n_6 : Int) (n_7 : Int) (n_8 : Int) (n_9 : Int) (n_10 : Int) (n_11 : Int) (n_12 : Int) (K : TV → List Entry → Prop) : (f46_d n_1 n_2 n_3 n_4 n_5 n_6 n_7 n_8 n_9 n_10 n_11 n_12 (fun n0_0 => K (I n0_0) [])) = funcT f46_C Try.f46 [.w (.pagg [pI n_1, pI n_2, pI n_3, pI n_4, pI n_5, pI n_6]), .w (.pagg [pI n_7, pI n_8, pI n_9, pI n_10, pI n_11, pI n_12])] [] K := by kernel_rfl
set_option maxHeartbeats 4000000 in
theorem f46_ok0 : FnOk Try.prog glob 46 f46_G0 := by
  refine FnOk.of_text (C := f46_C) tab_ok.ok (Known.add f47_G_ok (Known.none)) follows_ok (fn := Try.f46) (by kernel_rfl) (by kernel_rfl) (by kernel_rfl) (fun c hc => ?_) fun tm hp K h => ?_
  · have e : c = bodyOf Try.f46 := Option.some.inj (hc.symm.trans (by kernel_rfl))
    subst e
    exact ⟨LoopsOk.of [] (by kernel_rfl) trivial, TailsOk.of (tab := f46_tab) rfl [] (by kernel_rfl) trivial⟩
  · unfold f46_G0 at h
    obtain ⟨xx, yy, rfl, rfl, h⟩ := getS_elim h
    have e := (f46_eq xx.1.1 xx.1.2.1 xx.1.2.2.1 xx.1.2.2.2.1 xx.1.2.2.2.2.1 xx.1.2.2.2.2.2.1 xx.2.1.1 xx.2.1.2.1 xx.2.1.2.2.1 xx.2.1.2.2.2.1 xx.2.1.2.2.2.2.1 xx.2.1.2.2.2.2.2.1 K).trans (show _ = funcT f46_C Try.f46 (mkR _ xx) (mkE _ yy) K by kernel_rfl)
    rw [← e]
    exact h.run
noncomputable abbrev f46_G := f46_G0
theorem f46_G_ok : FnOk Try.prog glob 46 f46_G := f46_ok0
end Go.Eng.N
set_option linter.unusedVariables false
set_option maxRecDepth 100000
open Go Go.Eng Go.Proofs
namespace Go.Eng.N
/-! ### f54: slices.insertionSortCmpFunc(plenum/api.Record) -/
noncomputable def f54_p13 (i44 : Nat) (n45 : Nat) (n46 : Int) (n47 : Int) (n48 : Int) (n49 : Int) (es50 : List (List PC)) (k0 : Int → (List (List PC)) → Prop) : Prop := (0 ≤ (w64 (n49 - 1)) ∧ (w64 (n49 - 1)) < ((n45 : Nat) : Int)) ∧ cI .i64 (ext (List.getD es50 (i44 + (Int.toNat (w64 (n49 - 1)))) []) 0 6) fun n52 r51 => cI .i64 r51 fun n54 r53 => cI .i64 r53 fun n56 r55 => cI .i64 r55 fun n58 r57 => cI .i64 r57 fun n60 r59 => cI .i64 r59 fun n62 r61 => nilC r61 <| (0 ≤ n49 ∧ n49 < ((n45 : Nat) : Int)) ∧ cI .i64 (ext (List.getD es50 (i44 + (Int.toNat n49)) []) 0 6) fun n64 r63 => cI .i64 r63 fun n66 r65 => cI .i64 r65 fun n68 r67 => cI .i64 r67 fun n70 r69 => cI .i64 r69 fun n72 r71 => cI .i64 r71 fun n74 r73 => nilC r73 <| (0 ≤ n49 ∧ n49 < ((n45 : Nat) : Int)) ∧ (i44 + (Int.toNat n49)) < es50.length ∧ (0 ≤ (w64 (n49 - 1)) ∧ (w64 (n49 - 1)) < ((n45 : Nat) : Int)) ∧ (i44 + (Int.toNat (w64 (n49 - 1)))) < (List.set es50 (i44 + (Int.toNat n49)) (splice (List.getD es50 (i44 + (Int.toNat n49)) []) 0 [pI n52, pI n54, pI n56, pI n58, pI n60, pI n62])).length ∧ k0 (w64 (n49 - 1)) (List.set (List.set es50 (i44 + (Int.toNat n49)) (splice (List.getD es50 (i44 + (Int.toNat n49)) []) 0 [pI n52, pI n54, pI n56, pI n58, pI n60, pI n62])) (i44 + (Int.toNat (w64 (n49 - 1)))) (splice (List.getD (List.set es50 (i44 + (Int.toNat n49)) (splice (List.getD es50 (i44 + (Int.toNat n49)) []) 0 [pI n52, pI n54, pI n56, pI n58, pI n60, pI n62])) (i44 + (Int.toNat (w64 (n49 - 1)))) []) 0 [pI n64, pI n66, pI n68, pI n70, pI n72, pI n74]))
noncomputable def f54_p8b0 (i12 : Nat) (n13 : Nat) (n14 : Int) (n15 : Int) (n16 : Int) (n17 : Int) (es18 : List (List PC)) (N0 : Int → (List (List PC)) → Prop) (k0 : (List (List PC)) → Prop) : Prop := bB (decide (n17 > n14)) ((0 ≤ n17 ∧ n17 < ((n13 : Nat) : Int)) ∧ cI .i64 (ext (List.getD es18 (i12 + (Int.toNat n17)) []) 0 6) fun n20 r19 => cI .i64 r19 fun n22 r21 => cI .i64 r21 fun n24 r23 => cI .i64 r23 fun n26 r25 => cI .i64 r25 fun n28 r27 => cI .i64 r27 fun n30 r29 => nilC r29 <| (0 ≤ (w64 (n17 - 1)) ∧ (w64 (n17 - 1)) < ((n13 : Nat) : Int)) ∧ cI .i64 (ext (List.getD es18 (i12 + (Int.toNat (w64 (n17 - 1)))) []) 0 6) fun n32 r31 => cI .i64 r31 fun n34 r33 => cI .i64 r33 fun n36 r35 => cI .i64 r35 fun n38 r37 => cI .i64 r37 fun n40 r39 => cI .i64 r39 fun n42 r41 => nilC r41 <| f46 n20 n22 n24 n26 n28 n30 n32 n34 n36 n38 n40 n42 (fun n43 => bB (decide (n43 < 0)) (f54_p13 i12 n13 n14 n15 n16 n17 es18 (fun n75 es76 => N0 n75 es76)) (k0 es18))) (k0 es18)
noncomputable def f54_p8 (i12 : Nat) (n13 : Nat) (n14 : Int) (n15 : Int) (n16 : Int) (k0 : (List (List PC)) → Prop) : Int × (List (List PC)) → Prop := LoopP fun x N => f54_p8b0 i12 n13 n14 n15 n16 x.1 x.2 (fun n17 es18 => N (n17, es18)) k0
noncomputable def f54_p2b0 (i6 : Nat) (n7 : Nat) (n8 : Int) (n9 : Int) (n10 : Int) (es11 : List (List PC)) (N0 : Int → (List (List PC)) → Prop) (k0 : (List (List PC)) → Prop) : Prop := bB (decide (n10 < n9)) (f54_p8 i6 n7 n8 n9 n10 (fun es77 => N0 (w64 (n10 + 1)) es77) (n10, es11)) (k0 es11)
noncomputable def f54_p2 (i6 : Nat) (n7 : Nat) (n8 : Int) (n9 : Int) (k0 : (List (List PC)) → Prop) : Int × (List (List PC)) → Prop := LoopP fun x N => f54_p2b0 i6 n7 n8 n9 x.1 x.2 (fun n10 es11 => N (n10, es11)) k0
noncomputable def f54_d (i1 : Nat) (n2 : Nat) (n3 : Int) (n4 : Int) (es5 : List (List PC)) (k0 : (List (List PC)) → Prop) : Prop := f54_p2 i1 n2 n3 n4 (fun es78 => k0 es78) ((w64 (n3 + 1)), es5)
structure f54 (i1 : Nat) (n2 : Nat) (n3 : Int) (n4 : Int) (es5 : List (List PC)) (k0 : (List (List PC)) → Prop) : Prop where
  run : f54_d i1 n2 n3 n4 es5 k0
noncomputable def f54_p13L : Told := fun s K => match s with
  | ⟨tm, hp⟩ => getS [.v (.one (.ref 0)), .v (.one (.int .i64)), .v (.one (.int .i64)), .v (.one (.fn 46)), .skip 4, .v (.one (.int .i64)), .v (.one (.int .i64)), .skip 43] [.vec 6 true] tm hp fun (xx : ((Nat × Nat) × (Int × (Int × (Unit × (Unit × (Int × (Int × (Unit × Unit))))))))) (yy : ((List (List PC)) × Unit)) => f54_p13 xx.1.1 xx.1.2 xx.2.1 xx.2.2.1 xx.2.2.2.2.2.1 xx.2.2.2.2.2.2.1 yy.1 (fun n0_0 es0_1 => K .normal ⟨mkS 53 [(0, .w (.one (.ref 0 xx.1.1 xx.1.2))), (1, I xx.2.1), (2, I xx.2.2.1), (3, .w (.one (.p (.c (.func (.func 46) #[] #[]))))), (8, I xx.2.2.2.2.2.1), (9, I n0_0)], [.vec 6 es0_1 true]⟩)
noncomputable def f54_p8L : Told := fun s K => match s with
  | ⟨tm, hp⟩ => getS [.v (.one (.ref 0)), .v (.one (.int .i64)), .v (.one (.int .i64)), .v (.one (.fn 46)), .skip 4, .v (.one (.int .i64)), .v (.one (.int .i64)), .skip 43] [.vec 6 true] tm hp fun (xx : ((Nat × Nat) × (Int × (Int × (Unit × (Unit × (Int × (Int × (Unit × Unit))))))))) (yy : ((List (List PC)) × Unit)) => f54_p8 xx.1.1 xx.1.2 xx.2.1 xx.2.2.1 xx.2.2.2.2.2.1 (fun es0_2 => K (.exit 2) ⟨mkS 53 [(0, .w (.one (.ref 0 xx.1.1 xx.1.2))), (1, I xx.2.1), (2, I xx.2.2.1), (3, .w (.one (.p (.c (.func (.func 46) #[] #[]))))), (8, I xx.2.2.2.2.2.1)], [.vec 6 es0_2 true]⟩) (xx.2.2.2.2.2.2.1, yy.1)
noncomputable def f54_p2L : Told := fun s K => match s with
  | ⟨tm, hp⟩ => getS [.v (.one (.ref 0)), .v (.one (.int .i64)), .v (.one (.int .i64)), .v (.one (.fn 46)), .skip 4, .v (.one (.int .i64)), .skip 44] [.vec 6 true] tm hp fun (xx : ((Nat × Nat) × (Int × (Int × (Unit × (Unit × (Int × (Unit × Unit)))))))) (yy : ((List (List PC)) × Unit)) => f54_p2 xx.1.1 xx.1.2 xx.2.1 xx.2.2.1 (fun es0_3 => K (.exit 0) ⟨mkS 53 [], [.vec 6 es0_3 true]⟩) (xx.2.2.2.2.2.1, yy.1)
noncomputable def f54_tab : List (Nat × Told) := [(13, f54_p13L), (8, f54_p8L), (2, f54_p2L)]
noncomputable def f54_call : FuncId → List TV → List Entry → (TV → List Entry → Prop) → Prop := addCall 46 f46_G (noCalls)
noncomputable def f54_C : Ctx := { ty := tyOf tab, glob := glob, byRef := byRef, keep := fun k i => lookN [] (lookN [] ([(13, [(0, [0, 1, 2, 3, 8, 9]), (1, [0, 1, 2, 3, 8, 9]), (2, []), (3, []), (4, [0, 1, 2, 3, 8]), (5, [0, 1, 2, 3, 8])]), (8, [(0, [0, 1, 2, 3, 8, 9]), (2, []), (3, []), (4, [0, 1, 2, 3, 8]), (5, [0, 1, 2, 3, 8])]), (2, [(0, [0, 1, 2, 3, 8]), (2, []), (3, [])])] : List (Nat × List (Nat × List Nat))) k) i, late := lookN [] ([] : List (Nat × List Nat)), nref := lookN [] ([] : List (Nat × List Nat)), nbox := lookN [] ([] : List (Nat × List (Nat × Nat))), take := [], rnil := true, m := 1, fz := false, loops := lookL f54_tab, call := f54_call }
set_option maxRecDepth 100000 in
theorem f54_p13e0 (i_5 : Nat) (n_6 : Nat) (n_7 : Int) (n_8 : Int) (n_9 : Int) (n_10 : Int) (es_11 : List (List PC)) (K : TExit → St → Prop) : (f54_p13 i_5 n_6 n_7 n_8 n_9 n_10 es_11 (fun n0_12 es0_13 => K .normal ⟨mkS 53 [(0, .w (.one (.ref 0 i_5 n_6))), (1, I n_7), (2, I n_8), (3, .w (.one (.p (.c (.func (.func 46) #[] #[]))))), (8, I n_9), (9, I n0_12)], [.vec 6 es0_13 true]⟩)) = execT f54_C (nthC (tails (bodyOf Try.f54)) 5) ⟨mkS 53 [(0, .w (.one (.ref 0 i_5 n_6))), (1, I n_7), (2, I n_8), (3, .w (.one (.p (.c (.func (.func 46) #[] #[]))))), (8, I n_9), (9, I n_10)], [.vec 6 es_11 true]⟩ (fun e s => K e (normOut f54_C 13 e s)) := by kernel_rfl
noncomputable def f54_p8_mk (i12 : Nat) (n13 : Nat) (n14 : Int) (n15 : Int) (n16 : Int) (x : Int × (List (List PC))) : St := ⟨mkS 53 [(0, .w (.one (.ref 0 i12 n13))), (1, I n14), (2, I n15), (3, .w (.one (.p (.c (.func (.func 46) #[] #[]))))), (8, I n16), (9, I x.1)], [.vec 6 x.2 true]⟩
set_option maxRecDepth 100000 in
theorem f54_p8e0 (i_21 : Nat) (n_22 : Nat) (n_23 : Int) (n_24 : Int) (n_25 : Int) (n_26 : Int) (es_27 : List (List PC)) (N : St → Prop) (K : TExit → St → Prop) : (f54_p8b0 i_21 n_22 n_23 n_24 n_25 n_26 es_27 (fun z5 z6 => N (f54_p8_mk i_21 n_22 n_23 n_24 n_25 (z5, z6))) (fun es0_28 => K (.exit 2) ⟨mkS 53 [(0, .w (.one (.ref 0 i_21 n_22))), (1, I n_23), (2, I n_24), (3, .w (.one (.p (.c (.func (.func 46) #[] #[]))))), (8, I n_25)], [.vec 6 es0_28 true]⟩)) = execT f54_C (nthC (bodies (bodyOf Try.f54)) 1) (f54_p8_mk i_21 n_22 n_23 n_24 n_25 (n_26, es_27)) (loopK N (normK f54_C 8) fun e s => K e (normOut f54_C 8 e s)) := by kernel_rfl
noncomputable def f54_p2_mk (i6 : Nat) (n7 : Nat) (n8 : Int) (n9 : Int) (x : Int × (List (List PC))) : St := ⟨mkS 53 [(0, .w (.one (.ref 0 i6 n7))), (1, I n8), (2, I n9), (3, .w (.one (.p (.c (.func (.func 46) #[] #[]))))), (8, I x.1)], [.vec 6 x.2 true]⟩
set_option maxRecDepth 100000 in
theorem f54_p2e0 (i_35 : Nat) (n_36 : Nat) (n_37 : Int) (n_38 : Int) (n_39 : Int) (es_40 : List (List PC)) (N : St → Prop) (K : TExit → St → Prop) : (f54_p2b0 i_35 n_36 n_37 n_38 n_39 es_40 (fun z4 z5 => N (f54_p2_mk i_35 n_36 n_37 n_38 (z4, z5))) (fun es0_41 => K (.exit 0) ⟨mkS 53 [], [.vec 6 es0_41 true]⟩)) = execT f54_C (nthC (bodies (bodyOf Try.f54)) 0) (f54_p2_mk i_35 n_36 n_37 n_38 (n_39, es_40)) (loopK N (normK f54_C 2) fun e s => K e (normOut f54_C 2 e s)) := by kernel_rfl
set_option maxHeartbeats 4000000 in
theorem f54_p13_ok : TailOk f54_C (nthC (tails (bodyOf Try.f54)) 5) := by
  refine TailOk.of f54_p13L (by kernel_rfl) fun σ K h => ?_
  have hk : joinKey (nthC (tails (bodyOf Try.f54)) 5) = 13 := by kernel_rfl
  rw [hk] at h ⊢
  generalize hs : normK f54_C 13 σ = s at h
  obtain ⟨tm, hp⟩ := s
  unfold f54_p13L at h
  dsimp only at h
  obtain ⟨xx, yy, rfl, rfl, h⟩ := getS_elim h
  have q : normK f54_C 13 σ = (⟨mkS 53 [(0, .w (.one (.ref 0 xx.1.1 xx.1.2))), (1, I xx.2.1), (2, I xx.2.2.1), (3, .w (.one (.p (.c (.func (.func 46) #[] #[]))))), (8, I xx.2.2.2.2.2.1), (9, I xx.2.2.2.2.2.2.1)], [.vec 6 yy.1 true]⟩ : St) := hs.trans (by kernel_rfl)
  rw [← hs, q, ← f54_p13e0 xx.1.1 xx.1.2 xx.2.1 xx.2.2.1 xx.2.2.2.2.2.1 xx.2.2.2.2.2.2.1 yy.1 K]
  exact h
set_option maxHeartbeats 4000000 in
theorem f54_p8_ok : LoopOk f54_C (nthC (bodies (bodyOf Try.f54)) 1) := by
  refine LoopOk.of f54_p8L (by kernel_rfl) fun σ K h => ?_
  have hk : loopKey (nthC (bodies (bodyOf Try.f54)) 1) = 8 := by kernel_rfl
  rw [hk] at h ⊢
  generalize hs : normK f54_C 8 σ = s at h
  obtain ⟨tm, hp⟩ := s
  unfold f54_p8L at h
  dsimp only at h
  obtain ⟨xx, yy, rfl, rfl, h⟩ := getS_elim h
  refine iter_of (f54_p8_mk xx.1.1 xx.1.2 xx.2.1 xx.2.2.1 xx.2.2.2.2.2.1) (fun x N h => ?_) rounds _ σ (hs.trans (by kernel_rfl)) (LoopP.run h)
  obtain ⟨y0, y1⟩ := x
  rw [← f54_p8e0 xx.1.1 xx.1.2 xx.2.1 xx.2.2.1 xx.2.2.2.2.2.1 y0 y1 N K]
  exact h
set_option maxHeartbeats 4000000 in
theorem f54_p2_ok : LoopOk f54_C (nthC (bodies (bodyOf Try.f54)) 0) := by
  refine LoopOk.of f54_p2L (by kernel_rfl) fun σ K h => ?_
  have hk : loopKey (nthC (bodies (bodyOf Try.f54)) 0) = 2 := by kernel_rfl
  rw [hk] at h ⊢
  generalize hs : normK f54_C 2 σ = s at h
  obtain ⟨tm, hp⟩ := s
  unfold f54_p2L at h
  dsimp only at h
  obtain ⟨xx, yy, rfl, rfl, h⟩ := getS_elim h
  refine iter_of (f54_p2_mk xx.1.1 xx.1.2 xx.2.1 xx.2.2.1) (fun x N h => ?_) rounds _ σ (hs.trans (by kernel_rfl)) (LoopP.run h)
  obtain ⟨y0, y1⟩ := x
  rw [← f54_p2e0 xx.1.1 xx.1.2 xx.2.1 xx.2.2.1 y0 y1 N K]
  exact h
noncomputable def f54_G0 : List TV → List Entry → (TV → List Entry → Prop) → Prop := fun tm hp K => getS [.v (.one (.ref 0)), .v (.one (.int .i64)), .v (.one (.int .i64)), .v (.one (.fn 46))] [.vec 6 true] tm hp fun (xx : ((Nat × Nat) × (Int × (Int × (Unit × Unit))))) (yy : ((List (List PC)) × Unit)) => f54 xx.1.1 xx.1.2 xx.2.1 xx.2.2.1 yy.1 (fun es0_4 => K undefT [.vec 6 es0_4 true])
set_option maxRecDepth 100000 in
theorem f54_eq (i_42 : Nat) (n_43 : Nat) (n_44 : Int) (n_45 : Int) (es_46 : List (List PC)) (K : TV → List Entry → Prop) : (f54_d i_42 n_43 n_44 n_45 es_46 (fun es0_4 => K undefT [.vec 6 es0_4 true])) = funcT f54_C Try.f54 [.w (.one (.ref 0 i_42 n_43)), I n_44, I n_45, .w (.one (.p (.c (.func (.func 46) #[] #[]))))] [.vec 6 es_46 true] K := by kernel_rfl
set_option maxHeartbeats 4000000 in
theorem f54_ok0 : FnOk Try.prog glob 54 f54_G0 := by
  refine FnOk.of_text (C := f54_C) tab_ok.ok (Known.add f46_G_ok (Known.none)) follows_ok (fn := Try.f54) (by kernel_rfl) (by kernel_rfl) (by kernel_rfl) (fun c hc => ?_) fun tm hp K h => ?_
  · have e : c = bodyOf Try.f54 := Option.some.inj (hc.symm.trans (by kernel_rfl))
    subst e
    exact ⟨LoopsOk.of [nthC (bodies (bodyOf Try.f54)) 0, nthC (bodies (bodyOf Try.f54)) 1] (by kernel_rfl) ⟨f54_p2_ok, f54_p8_ok, trivial⟩, TailsOk.of (tab := f54_tab) rfl [nthC (tails (bodyOf Try.f54)) 5] (by kernel_rfl) ⟨f54_p13_ok, trivial⟩⟩
  · unfold f54_G0 at h
    obtain ⟨xx, yy, rfl, rfl, h⟩ := getS_elim h
    have e := (f54_eq xx.1.1 xx.1.2 xx.2.1 xx.2.2.1 yy.1 K).trans (show _ = funcT f54_C Try.f54 (mkR _ xx) (mkE _ yy) K by kernel_rfl)
    rw [← e]
    exact h.run
noncomputable abbrev f54_G := f54_G0
theorem f54_G_ok : FnOk Try.prog glob 54 f54_G := f54_ok0
end Go.Eng.N
set_option linter.unusedVariables false
set_option maxRecDepth 100000
open Go Go.Eng Go.Proofs
namespace Go.Eng.N
/-! ### f57: slices.swapRangeCmpFunc(plenum/api.Record) -/
noncomputable def f57_p2b0 (i7 : Nat) (n8 : Nat) (n9 : Int) (n10 : Int) (n11 : Int) (n12 : Int) (es13 : List (List PC)) (N0 : Int → (List (List PC)) → Prop) (k0 : (List (List PC)) → Prop) : Prop := bB (decide (n12 < n11)) ((0 ≤ (w64 (n10 + n12)) ∧ (w64 (n10 + n12)) < ((n8 : Nat) : Int)) ∧ cI .i64 (ext (List.getD es13 (i7 + (Int.toNat (w64 (n10 + n12)))) []) 0 6) fun n15 r14 => cI .i64 r14 fun n17 r16 => cI .i64 r16 fun n19 r18 => cI .i64 r18 fun n21 r20 => cI .i64 r20 fun n23 r22 => cI .i64 r22 fun n25 r24 => nilC r24 <| (0 ≤ (w64 (n9 + n12)) ∧ (w64 (n9 + n12)) < ((n8 : Nat) : Int)) ∧ cI .i64 (ext (List.getD es13 (i7 + (Int.toNat (w64 (n9 + n12)))) []) 0 6) fun n27 r26 => cI .i64 r26 fun n29 r28 => cI .i64 r28 fun n31 r30 => cI .i64 r30 fun n33 r32 => cI .i64 r32 fun n35 r34 => cI .i64 r34 fun n37 r36 => nilC r36 <| (0 ≤ (w64 (n9 + n12)) ∧ (w64 (n9 + n12)) < ((n8 : Nat) : Int)) ∧ (i7 + (Int.toNat (w64 (n9 + n12)))) < es13.length ∧ (0 ≤ (w64 (n10 + n12)) ∧ (w64 (n10 + n12)) < ((n8 : Nat) : Int)) ∧ (i7 + (Int.toNat (w64 (n10 + n12)))) < (List.set es13 (i7 + (Int.toNat (w64 (n9 + n12)))) (splice (List.getD es13 (i7 + (Int.toNat (w64 (n9 + n12)))) []) 0 [pI n15, pI n17, pI n19, pI n21, pI n23, pI n25])).length ∧ N0 (w64 (n12 + 1)) (List.set (List.set es13 (i7 + (Int.toNat (w64 (n9 + n12)))) (splice (List.getD es13 (i7 + (Int.toNat (w64 (n9 + n12)))) []) 0 [pI n15, pI n17, pI n19, pI n21, pI n23, pI n25])) (i7 + (Int.toNat (w64 (n10 + n12)))) (splice (List.getD (List.set es13 (i7 + (Int.toNat (w64 (n9 + n12)))) (splice (List.getD es13 (i7 + (Int.toNat (w64 (n9 + n12)))) []) 0 [pI n15, pI n17, pI n19, pI n21, pI n23, pI n25])) (i7 + (Int.toNat (w64 (n10 + n12)))) []) 0 [pI n27, pI n29, pI n31, pI n33, pI n35, pI n37]))) (k0 es13)
noncomputable def f57_p2 (i7 : Nat) (n8 : Nat) (n9 : Int) (n10 : Int) (n11 : Int) (k0 : (List (List PC)) → Prop) : Int × (List (List PC)) → Prop := LoopP fun x N => f57_p2b0 i7 n8 n9 n10 n11 x.1 x.2 (fun n12 es13 => N (n12, es13)) k0
noncomputable def f57_d (i1 : Nat) (n2 : Nat) (n3 : Int) (n4 : Int) (n5 : Int) (es6 : List (List PC)) (k0 : (List (List PC)) → Prop) : Prop := f57_p2 i1 n2 n3 n4 n5 (fun es38 => k0 es38) (0, es6)
structure f57 (i1 : Nat) (n2 : Nat) (n3 : Int) (n4 : Int) (n5 : Int) (es6 : List (List PC)) (k0 : (List (List PC)) → Prop) : Prop where
  run : f57_d i1 n2 n3 n4 n5 es6 k0
noncomputable def f57_p2L : Told := fun s K => match s with
  | ⟨tm, hp⟩ => getS [.v (.one (.ref 0)), .v (.one (.int .i64)), .v (.one (.int .i64)), .v (.one (.int .i64)), .skip 6, .v (.one (.int .i64)), .skip 27] [.vec 6 true] tm hp fun (xx : ((Nat × Nat) × (Int × (Int × (Int × (Unit × (Int × (Unit × Unit)))))))) (yy : ((List (List PC)) × Unit)) => f57_p2 xx.1.1 xx.1.2 xx.2.1 xx.2.2.1 xx.2.2.2.1 (fun es0_0 => K (.exit 0) ⟨mkS 38 [], [.vec 6 es0_0 true]⟩) (xx.2.2.2.2.2.1, yy.1)
noncomputable def f57_tab : List (Nat × Told) := [(2, f57_p2L)]
noncomputable def f57_call : FuncId → List TV → List Entry → (TV → List Entry → Prop) → Prop := noCalls
noncomputable def f57_C : Ctx := { ty := tyOf tab, glob := glob, byRef := byRef, keep := fun k i => lookN [] (lookN [] ([(2, [(0, [0, 1, 2, 3, 10]), (2, []), (3, [])])] : List (Nat × List (Nat × List Nat))) k) i, late := lookN [] ([] : List (Nat × List Nat)), nref := lookN [] ([] : List (Nat × List Nat)), nbox := lookN [] ([] : List (Nat × List (Nat × Nat))), take := [], rnil := true, m := 1, fz := false, loops := lookL f57_tab, call := f57_call }
noncomputable def f57_p2_mk (i7 : Nat) (n8 : Nat) (n9 : Int) (n10 : Int) (n11 : Int) (x : Int × (List (List PC))) : St := ⟨mkS 38 [(0, .w (.one (.ref 0 i7 n8))), (1, I n9), (2, I n10), (3, I n11), (10, I x.1)], [.vec 6 x.2 true]⟩
set_option maxRecDepth 100000 in
theorem f57_p2e0 (i_9 : Nat) (n_10 : Nat) (n_11 : Int) (n_12 : Int) (n_13 : Int) (n_14 : Int) (es_15 : List (List PC)) (N : St → Prop) (K : TExit → St → Prop) : (f57_p2b0 i_9 n_10 n_11 n_12 n_13 n_14 es_15 (fun z5 z6 => N (f57_p2_mk i_9 n_10 n_11 n_12 n_13 (z5, z6))) (fun es0_16 => K (.exit 0) ⟨mkS 38 [], [.vec 6 es0_16 true]⟩)) = execT f57_C (nthC (bodies (bodyOf Try.f57)) 0) (f57_p2_mk i_9 n_10 n_11 n_12 n_13 (n_14, es_15)) (loopK N (normK f57_C 2) fun e s => K e (normOut f57_C 2 e s)) := by kernel_rfl
set_option maxHeartbeats 4000000 in
theorem f57_p2_ok : LoopOk f57_C (nthC (bodies (bodyOf Try.f57)) 0) := by
  refine LoopOk.of f57_p2L (by kernel_rfl) fun σ K h => ?_
  have hk : loopKey (nthC (bodies (bodyOf Try.f57)) 0) = 2 := by kernel_rfl
  rw [hk] at h ⊢
  generalize hs : normK f57_C 2 σ = s at h
  obtain ⟨tm, hp⟩ := s
  unfold f57_p2L at h
  dsimp only at h
  obtain ⟨xx, yy, rfl, rfl, h⟩ := getS_elim h
  refine iter_of (f57_p2_mk xx.1.1 xx.1.2 xx.2.1 xx.2.2.1 xx.2.2.2.1) (fun x N h => ?_) rounds _ σ (hs.trans (by kernel_rfl)) (LoopP.run h)
  obtain ⟨y0, y1⟩ := x
  rw [← f57_p2e0 xx.1.1 xx.1.2 xx.2.1 xx.2.2.1 xx.2.2.2.1 y0 y1 N K]
  exact h
noncomputable def f57_G0 : List TV → List Entry → (TV → List Entry → Prop) → Prop := fun tm hp K => getS [.v (.one (.ref 0)), .v (.one (.int .i64)), .v (.one (.int .i64)), .v (.one (.int .i64)), .v (.one (.fn 46))] [.vec 6 true] tm hp fun (xx : ((Nat × Nat) × (Int × (Int × (Int × (Unit × Unit)))))) (yy : ((List (List PC)) × Unit)) => f57 xx.1.1 xx.1.2 xx.2.1 xx.2.2.1 xx.2.2.2.1 yy.1 (fun es0_1 => K undefT [.vec 6 es0_1 true])
set_option maxRecDepth 100000 in
theorem f57_eq (i_17 : Nat) (n_18 : Nat) (n_19 : Int) (n_20 : Int) (n_21 : Int) (es_22 : List (List PC)) (K : TV → List Entry → Prop) : (f57_d i_17 n_18 n_19 n_20 n_21 es_22 (fun es0_1 => K undefT [.vec 6 es0_1 true])) = funcT f57_C Try.f57 [.w (.one (.ref 0 i_17 n_18)), I n_19, I n_20, I n_21, .w (.one (.p (.c (.func (.func 46) #[] #[]))))] [.vec 6 es_22 true] K := by kernel_rfl
set_option maxHeartbeats 4000000 in
theorem f57_ok0 : FnOk Try.prog glob 57 f57_G0 := by
  refine FnOk.of_text (C := f57_C) tab_ok.ok (Known.none) follows_ok (fn := Try.f57) (by kernel_rfl) (by kernel_rfl) (by kernel_rfl) (fun c hc => ?_) fun tm hp K h => ?_
  · have e : c = bodyOf Try.f57 := Option.some.inj (hc.symm.trans (by kernel_rfl))
    subst e
    exact ⟨LoopsOk.of [nthC (bodies (bodyOf Try.f57)) 0] (by kernel_rfl) ⟨f57_p2_ok, trivial⟩, TailsOk.of (tab := f57_tab) rfl [] (by kernel_rfl) trivial⟩
  · unfold f57_G0 at h
    obtain ⟨xx, yy, rfl, rfl, h⟩ := getS_elim h
    have e := (f57_eq xx.1.1 xx.1.2 xx.2.1 xx.2.2.1 xx.2.2.2.1 yy.1 K).trans (show _ = funcT f57_C Try.f57 (mkR _ xx) (mkE _ yy) K by kernel_rfl)
    rw [← e]
    exact h.run
noncomputable abbrev f57_G := f57_G0
theorem f57_G_ok : FnOk Try.prog glob 57 f57_G := f57_ok0
end Go.Eng.N
set_option linter.unusedVariables false
set_option maxRecDepth 100000
open Go Go.Eng Go.Proofs
namespace Go.Eng.N
/-! ### f56: slices.rotateCmpFunc(plenum/api.Record) -/
noncomputable def f56_p4b0 (i7 : Nat) (n8 : Nat) (n9 : Int) (n10 : Int) (n11 : Int) (es12 : List (List PC)) (N0 : Int → Int → (List (List PC)) → Prop) (k0 : Int → (List (List PC)) → Prop) : Prop := bB (n10 != n11) (bB (decide (n10 > n11)) (f57 i7 n8 (w64 (n9 - n10)) n9 n11 es12 (fun es13 => N0 (w64 (n10 - n11)) n11 es13)) (f57 i7 n8 (w64 (n9 - n10)) (w64 ((w64 (n9 + n11)) - n10)) n10 es12 (fun es14 => N0 n10 (w64 (n11 - n10)) es14))) (k0 n10 es12)
noncomputable def f56_p4 (i7 : Nat) (n8 : Nat) (n9 : Int) (k0 : Int → (List (List PC)) → Prop) : Int × Int × (List (List PC)) → Prop := LoopP fun x N => f56_p4b0 i7 n8 n9 x.1 x.2.1 x.2.2 (fun n10 n11 es12 => N (n10, n11, es12)) k0
noncomputable def f56_d (i1 : Nat) (n2 : Nat) (n3 : Int) (n4 : Int) (n5 : Int) (es6 : List (List PC)) (k0 : (List (List PC)) → Prop) : Prop := f56_p4 i1 n2 n4 (fun n15 es16 => f57 i1 n2 (w64 (n4 - n15)) n4 n15 es16 (fun es17 => k0 es17)) ((w64 (n4 - n3)), (w64 (n5 - n4)), es6)
structure f56 (i1 : Nat) (n2 : Nat) (n3 : Int) (n4 : Int) (n5 : Int) (es6 : List (List PC)) (k0 : (List (List PC)) → Prop) : Prop where
  run : f56_d i1 n2 n3 n4 n5 es6 k0
noncomputable def f56_p4L : Told := fun s K => match s with
  | ⟨tm, hp⟩ => getS [.v (.one (.ref 0)), .skip 1, .v (.one (.int .i64)), .skip 1, .v (.one (.fn 46)), .skip 5, .v (.one (.int .i64)), .v (.one (.int .i64)), .skip 46] [.vec 6 true] tm hp fun (xx : ((Nat × Nat) × (Unit × (Int × (Unit × (Unit × (Unit × (Int × (Int × (Unit × Unit)))))))))) (yy : ((List (List PC)) × Unit)) => f56_p4 xx.1.1 xx.1.2 xx.2.2.1 (fun n0_0 es0_1 => K (.exit 0) ⟨mkS 58 [(0, .w (.one (.ref 0 xx.1.1 xx.1.2))), (2, I xx.2.2.1), (4, .w (.one (.p (.c (.func (.func 46) #[] #[]))))), (10, I n0_0)], [.vec 6 es0_1 true]⟩) (xx.2.2.2.2.2.2.1, xx.2.2.2.2.2.2.2.1, yy.1)
noncomputable def f56_tab : List (Nat × Told) := [(4, f56_p4L)]
noncomputable def f56_call : FuncId → List TV → List Entry → (TV → List Entry → Prop) → Prop := addCall 57 f57_G (noCalls)
noncomputable def f56_C : Ctx := { ty := tyOf tab, glob := glob, byRef := byRef, keep := fun k i => lookN [] (lookN [] ([(4, [(0, [0, 2, 4, 10, 11]), (2, []), (3, [0, 2, 4, 10])])] : List (Nat × List (Nat × List Nat))) k) i, late := lookN [] ([] : List (Nat × List Nat)), nref := lookN [] ([] : List (Nat × List Nat)), nbox := lookN [] ([] : List (Nat × List (Nat × Nat))), take := [], rnil := true, m := 1, fz := false, loops := lookL f56_tab, call := f56_call }
noncomputable def f56_p4_mk (i7 : Nat) (n8 : Nat) (n9 : Int) (x : Int × Int × (List (List PC))) : St := ⟨mkS 58 [(0, .w (.one (.ref 0 i7 n8))), (2, I n9), (4, .w (.one (.p (.c (.func (.func 46) #[] #[]))))), (10, I x.1), (11, I x.2.1)], [.vec 6 x.2.2 true]⟩
set_option maxRecDepth 100000 in
theorem f56_p4e0 (i_9 : Nat) (n_10 : Nat) (n_11 : Int) (n_12 : Int) (n_13 : Int) (es_14 : List (List PC)) (N : St → Prop) (K : TExit → St → Prop) : (f56_p4b0 i_9 n_10 n_11 n_12 n_13 es_14 (fun z3 z4 z5 => N (f56_p4_mk i_9 n_10 n_11 (z3, z4, z5))) (fun n0_15 es0_16 => K (.exit 0) ⟨mkS 58 [(0, .w (.one (.ref 0 i_9 n_10))), (2, I n_11), (4, .w (.one (.p (.c (.func (.func 46) #[] #[]))))), (10, I n0_15)], [.vec 6 es0_16 true]⟩)) = execT f56_C (nthC (bodies (bodyOf Try.f56)) 0) (f56_p4_mk i_9 n_10 n_11 (n_12, n_13, es_14)) (loopK N (normK f56_C 4) fun e s => K e (normOut f56_C 4 e s)) := by kernel_rfl
set_option maxHeartbeats 4000000 in
theorem f56_p4_ok : LoopOk f56_C (nthC (bodies (bodyOf Try.f56)) 0) := by
  refine LoopOk.of f56_p4L (by kernel_rfl) fun σ K h => ?_
  have hk : loopKey (nthC (bodies (bodyOf Try.f56)) 0) = 4 := by kernel_rfl
  rw [hk] at h ⊢
  generalize hs : normK f56_C 4 σ = s at h
  obtain ⟨tm, hp⟩ := s
  unfold f56_p4L at h
  dsimp only at h
  obtain ⟨xx, yy, rfl, rfl, h⟩ := getS_elim h
  refine iter_of (f56_p4_mk xx.1.1 xx.1.2 xx.2.2.1) (fun x N h => ?_) rounds _ σ (hs.trans (by kernel_rfl)) (LoopP.run h)
  obtain ⟨y0, y1, y2⟩ := x
  rw [← f56_p4e0 xx.1.1 xx.1.2 xx.2.2.1 y0 y1 y2 N K]
  exact h
noncomputable def f56_G0 : List TV → List Entry → (TV → List Entry → Prop) → Prop := fun tm hp K => getS [.v (.one (.ref 0)), .v (.one (.int .i64)), .v (.one (.int .i64)), .v (.one (.int .i64)), .v (.one (.fn 46))] [.vec 6 true] tm hp fun (xx : ((Nat × Nat) × (Int × (Int × (Int × (Unit × Unit)))))) (yy : ((List (List PC)) × Unit)) => f56 xx.1.1 xx.1.2 xx.2.1 xx.2.2.1 xx.2.2.2.1 yy.1 (fun es0_2 => K undefT [.vec 6 es0_2 true])
set_option maxRecDepth 100000 in
theorem f56_eq (i_17 : Nat) (n_18 : Nat) (n_19 : Int) (n_20 : Int) (n_21 : Int) (es_22 : List (List PC)) (K : TV → List Entry → Prop) : (f56_d i_17 n_18 n_19 n_20 n_21 es_22 (fun es0_2 => K undefT [.vec 6 es0_2 true])) = funcT f56_C Try.f56 [.w (.one (.ref 0 i_17 n_18)), I n_19, I n_20, I n_21, .w (.one (.p (.c (.func (.func 46) #[] #[]))))] [.vec 6 es_22 true] K := by kernel_rfl
set_option maxHeartbeats 4000000 in
theorem f56_ok0 : FnOk Try.prog glob 56 f56_G0 := by
  refine FnOk.of_text (C := f56_C) tab_ok.ok (Known.add f57_G_ok (Known.none)) follows_ok (fn := Try.f56) (by kernel_rfl) (by kernel_rfl) (by kernel_rfl) (fun c hc => ?_) fun tm hp K h => ?_
  · have e : c = bodyOf Try.f56 := Option.some.inj (hc.symm.trans (by kernel_rfl))
    subst e
    exact ⟨LoopsOk.of [nthC (bodies (bodyOf Try.f56)) 0] (by kernel_rfl) ⟨f56_p4_ok, trivial⟩, TailsOk.of (tab := f56_tab) rfl [] (by kernel_rfl) trivial⟩
  · unfold f56_G0 at h
    obtain ⟨xx, yy, rfl, rfl, h⟩ := getS_elim h
    have e := (f56_eq xx.1.1 xx.1.2 xx.2.1 xx.2.2.1 xx.2.2.2.1 yy.1 K).trans (show _ = funcT f56_C Try.f56 (mkR _ xx) (mkE _ yy) K by kernel_rfl)
    rw [← e]
    exact h.run
noncomputable abbrev f56_G := f56_G0
theorem f56_G_ok : FnOk Try.prog glob 56 f56_G := f56_ok0
end Go.Eng.N
set_option linter.unusedVariables false
set_option maxRecDepth 100000
open Go Go.Eng Go.Proofs
namespace Go.Eng.N
/-! ### f55: slices.symMergeCmpFunc(plenum/api.Record) -/
noncomputable abbrev f55_T : Type := Nat → Nat → Int → Int → Int → (List (List PC)) → ((List (List PC)) → Prop) → Prop
noncomputable def f55_p6b0 (R : f55_T) (i7 : Nat) (n8 : Nat) (n9 : Int) (n10 : Int) (n11 : Int) (es12 : List (List PC)) (N0 : Int → Int → Prop) (k0 : Int → Prop) : Prop := bB (decide (n10 < n11)) (0 ≤ (1 : Int) ∧ (0 ≤ (w64 (Int.fdiv (IntKind.wrap .u64 (w64 (n10 + n11))) (2 ^ (min (Int.toNat 1) 64)))) ∧ (w64 (Int.fdiv (IntKind.wrap .u64 (w64 (n10 + n11))) (2 ^ (min (Int.toNat 1) 64)))) < ((n8 : Nat) : Int)) ∧ cI .i64 (ext (List.getD es12 (i7 + (Int.toNat (w64 (Int.fdiv (IntKind.wrap .u64 (w64 (n10 + n11))) (2 ^ (min (Int.toNat 1) 64)))))) []) 0 6) fun n14 r13 => cI .i64 r13 fun n16 r15 => cI .i64 r15 fun n18 r17 => cI .i64 r17 fun n20 r19 => cI .i64 r19 fun n22 r21 => cI .i64 r21 fun n24 r23 => nilC r23 <| (0 ≤ n9 ∧ n9 < ((n8 : Nat) : Int)) ∧ cI .i64 (ext (List.getD es12 (i7 + (Int.toNat n9)) []) 0 6) fun n26 r25 => cI .i64 r25 fun n28 r27 => cI .i64 r27 fun n30 r29 => cI .i64 r29 fun n32 r31 => cI .i64 r31 fun n34 r33 => cI .i64 r33 fun n36 r35 => nilC r35 <| f46 n14 n16 n18 n20 n22 n24 n26 n28 n30 n32 n34 n36 (fun n37 => bB (decide (n37 < 0)) (N0 (w64 ((w64 (Int.fdiv (IntKind.wrap .u64 (w64 (n10 + n11))) (2 ^ (min (Int.toNat 1) 64)))) + 1)) n11) (N0 n10 (w64 (Int.fdiv (IntKind.wrap .u64 (w64 (n10 + n11))) (2 ^ (min (Int.toNat 1) 64))))))) (k0 n10)
noncomputable def f55_p6 (R : f55_T) (i7 : Nat) (n8 : Nat) (n9 : Int) (es12 : List (List PC)) (k0 : Int → Prop) : Int × Int → Prop := LoopP fun x N => (f55_p6b0 R) i7 n8 n9 x.1 x.2 es12 (fun n10 n11 => N (n10, n11)) k0
noncomputable def f55_p18b0 (R : f55_T) (i39 : Nat) (n40 : Nat) (n41 : Int) (n42 : Int) (es43 : List (List PC)) (N0 : Int → (List (List PC)) → Prop) (k0 : (List (List PC)) → Prop) : Prop := bB (decide (n42 < (w64 (n41 - 1)))) ((0 ≤ (w64 (n42 + 1)) ∧ (w64 (n42 + 1)) < ((n40 : Nat) : Int)) ∧ cI .i64 (ext (List.getD es43 (i39 + (Int.toNat (w64 (n42 + 1)))) []) 0 6) fun n45 r44 => cI .i64 r44 fun n47 r46 => cI .i64 r46 fun n49 r48 => cI .i64 r48 fun n51 r50 => cI .i64 r50 fun n53 r52 => cI .i64 r52 fun n55 r54 => nilC r54 <| (0 ≤ n42 ∧ n42 < ((n40 : Nat) : Int)) ∧ cI .i64 (ext (List.getD es43 (i39 + (Int.toNat n42)) []) 0 6) fun n57 r56 => cI .i64 r56 fun n59 r58 => cI .i64 r58 fun n61 r60 => cI .i64 r60 fun n63 r62 => cI .i64 r62 fun n65 r64 => cI .i64 r64 fun n67 r66 => nilC r66 <| (0 ≤ n42 ∧ n42 < ((n40 : Nat) : Int)) ∧ (i39 + (Int.toNat n42)) < es43.length ∧ (0 ≤ (w64 (n42 + 1)) ∧ (w64 (n42 + 1)) < ((n40 : Nat) : Int)) ∧ (i39 + (Int.toNat (w64 (n42 + 1)))) < (List.set es43 (i39 + (Int.toNat n42)) (splice (List.getD es43 (i39 + (Int.toNat n42)) []) 0 [pI n45, pI n47, pI n49, pI n51, pI n53, pI n55])).length ∧ N0 (w64 (n42 + 1)) (List.set (List.set es43 (i39 + (Int.toNat n42)) (splice (List.getD es43 (i39 + (Int.toNat n42)) []) 0 [pI n45, pI n47, pI n49, pI n51, pI n53, pI n55])) (i39 + (Int.toNat (w64 (n42 + 1)))) (splice (List.getD (List.set es43 (i39 + (Int.toNat n42)) (splice (List.getD es43 (i39 + (Int.toNat n42)) []) 0 [pI n45, pI n47, pI n49, pI n51, pI n53, pI n55])) (i39 + (Int.toNat (w64 (n42 + 1)))) []) 0 [pI n57, pI n59, pI n61, pI n63, pI n65, pI n67]))) (k0 es43)
noncomputable def f55_p18 (R : f55_T) (i39 : Nat) (n40 : Nat) (n41 : Int) (k0 : (List (List PC)) → Prop) : Int × (List (List PC)) → Prop := LoopP fun x N => (f55_p18b0 R) i39 n40 n41 x.1 x.2 (fun n42 es43 => N (n42, es43)) k0
noncomputable def f55_p30b0 (R : f55_T) (i69 : Nat) (n70 : Nat) (n71 : Int) (n72 : Int) (n73 : Int) (es74 : List (List PC)) (N0 : Int → Int → Prop) (k0 : Int → Prop) : Prop := bB (decide (n72 < n73)) (0 ≤ (1 : Int) ∧ (0 ≤ n71 ∧ n71 < ((n70 : Nat) : Int)) ∧ cI .i64 (ext (List.getD es74 (i69 + (Int.toNat n71)) []) 0 6) fun n76 r75 => cI .i64 r75 fun n78 r77 => cI .i64 r77 fun n80 r79 => cI .i64 r79 fun n82 r81 => cI .i64 r81 fun n84 r83 => cI .i64 r83 fun n86 r85 => nilC r85 <| (0 ≤ (w64 (Int.fdiv (IntKind.wrap .u64 (w64 (n72 + n73))) (2 ^ (min (Int.toNat 1) 64)))) ∧ (w64 (Int.fdiv (IntKind.wrap .u64 (w64 (n72 + n73))) (2 ^ (min (Int.toNat 1) 64)))) < ((n70 : Nat) : Int)) ∧ cI .i64 (ext (List.getD es74 (i69 + (Int.toNat (w64 (Int.fdiv (IntKind.wrap .u64 (w64 (n72 + n73))) (2 ^ (min (Int.toNat 1) 64)))))) []) 0 6) fun n88 r87 => cI .i64 r87 fun n90 r89 => cI .i64 r89 fun n92 r91 => cI .i64 r91 fun n94 r93 => cI .i64 r93 fun n96 r95 => cI .i64 r95 fun n98 r97 => nilC r97 <| f46 n76 n78 n80 n82 n84 n86 n88 n90 n92 n94 n96 n98 (fun n99 => bB (!(decide (n99 < 0))) (N0 (w64 ((w64 (Int.fdiv (IntKind.wrap .u64 (w64 (n72 + n73))) (2 ^ (min (Int.toNat 1) 64)))) + 1)) n73) (N0 n72 (w64 (Int.fdiv (IntKind.wrap .u64 (w64 (n72 + n73))) (2 ^ (min (Int.toNat 1) 64))))))) (k0 n72)
noncomputable def f55_p30 (R : f55_T) (i69 : Nat) (n70 : Nat) (n71 : Int) (es74 : List (List PC)) (k0 : Int → Prop) : Int × Int → Prop := LoopP fun x N => (f55_p30b0 R) i69 n70 n71 x.1 x.2 es74 (fun n72 n73 => N (n72, n73)) k0
noncomputable def f55_p42b0 (R : f55_T) (i101 : Nat) (n102 : Nat) (n103 : Int) (n104 : Int) (es105 : List (List PC)) (N0 : Int → (List (List PC)) → Prop) (k0 : (List (List PC)) → Prop) : Prop := bB (decide (n104 > n103)) ((0 ≤ (w64 (n104 - 1)) ∧ (w64 (n104 - 1)) < ((n102 : Nat) : Int)) ∧ cI .i64 (ext (List.getD es105 (i101 + (Int.toNat (w64 (n104 - 1)))) []) 0 6) fun n107 r106 => cI .i64 r106 fun n109 r108 => cI .i64 r108 fun n111 r110 => cI .i64 r110 fun n113 r112 => cI .i64 r112 fun n115 r114 => cI .i64 r114 fun n117 r116 => nilC r116 <| (0 ≤ n104 ∧ n104 < ((n102 : Nat) : Int)) ∧ cI .i64 (ext (List.getD es105 (i101 + (Int.toNat n104)) []) 0 6) fun n119 r118 => cI .i64 r118 fun n121 r120 => cI .i64 r120 fun n123 r122 => cI .i64 r122 fun n125 r124 => cI .i64 r124 fun n127 r126 => cI .i64 r126 fun n129 r128 => nilC r128 <| (0 ≤ n104 ∧ n104 < ((n102 : Nat) : Int)) ∧ (i101 + (Int.toNat n104)) < es105.length ∧ (0 ≤ (w64 (n104 - 1)) ∧ (w64 (n104 - 1)) < ((n102 : Nat) : Int)) ∧ (i101 + (Int.toNat (w64 (n104 - 1)))) < (List.set es105 (i101 + (Int.toNat n104)) (splice (List.getD es105 (i101 + (Int.toNat n104)) []) 0 [pI n107, pI n109, pI n111, pI n113, pI n115, pI n117])).length ∧ N0 (w64 (n104 - 1)) (List.set (List.set es105 (i101 + (Int.toNat n104)) (splice (List.getD es105 (i101 + (Int.toNat n104)) []) 0 [pI n107, pI n109, pI n111, pI n113, pI n115, pI n117])) (i101 + (Int.toNat (w64 (n104 - 1)))) (splice (List.getD (List.set es105 (i101 + (Int.toNat n104)) (splice (List.getD es105 (i101 + (Int.toNat n104)) []) 0 [pI n107, pI n109, pI n111, pI n113, pI n115, pI n117])) (i101 + (Int.toNat (w64 (n104 - 1)))) []) 0 [pI n119, pI n121, pI n123, pI n125, pI n127, pI n129]))) (k0 es105)
noncomputable def f55_p42 (R : f55_T) (i101 : Nat) (n102 : Nat) (n103 : Int) (k0 : (List (List PC)) → Prop) : Int × (List (List PC)) → Prop := LoopP fun x N => (f55_p42b0 R) i101 n102 n103 x.1 x.2 (fun n104 es105 => N (n104, es105)) k0
noncomputable def f55_p66b0 (R : f55_T) (i141 : Nat) (n142 : Nat) (n143 : Int) (n144 : Int) (n145 : Int) (n146 : Int) (n147 : Int) (n148 : Int) (n149 : Int) (n150 : Int) (es151 : List (List PC)) (N0 : Int → Int → Prop) (k0 : Int → Prop) : Prop := bB (decide (n148 < n149)) (0 ≤ (1 : Int) ∧ (0 ≤ (w64 (n150 - (w64 (Int.fdiv (IntKind.wrap .u64 (w64 (n148 + n149))) (2 ^ (min (Int.toNat 1) 64)))))) ∧ (w64 (n150 - (w64 (Int.fdiv (IntKind.wrap .u64 (w64 (n148 + n149))) (2 ^ (min (Int.toNat 1) 64)))))) < ((n142 : Nat) : Int)) ∧ cI .i64 (ext (List.getD es151 (i141 + (Int.toNat (w64 (n150 - (w64 (Int.fdiv (IntKind.wrap .u64 (w64 (n148 + n149))) (2 ^ (min (Int.toNat 1) 64)))))))) []) 0 6) fun n153 r152 => cI .i64 r152 fun n155 r154 => cI .i64 r154 fun n157 r156 => cI .i64 r156 fun n159 r158 => cI .i64 r158 fun n161 r160 => cI .i64 r160 fun n163 r162 => nilC r162 <| (0 ≤ (w64 (Int.fdiv (IntKind.wrap .u64 (w64 (n148 + n149))) (2 ^ (min (Int.toNat 1) 64)))) ∧ (w64 (Int.fdiv (IntKind.wrap .u64 (w64 (n148 + n149))) (2 ^ (min (Int.toNat 1) 64)))) < ((n142 : Nat) : Int)) ∧ cI .i64 (ext (List.getD es151 (i141 + (Int.toNat (w64 (Int.fdiv (IntKind.wrap .u64 (w64 (n148 + n149))) (2 ^ (min (Int.toNat 1) 64)))))) []) 0 6) fun n165 r164 => cI .i64 r164 fun n167 r166 => cI .i64 r166 fun n169 r168 => cI .i64 r168 fun n171 r170 => cI .i64 r170 fun n173 r172 => cI .i64 r172 fun n175 r174 => nilC r174 <| f46 n153 n155 n157 n159 n161 n163 n165 n167 n169 n171 n173 n175 (fun n176 => bB (!(decide (n176 < 0))) (N0 (w64 ((w64 (Int.fdiv (IntKind.wrap .u64 (w64 (n148 + n149))) (2 ^ (min (Int.toNat 1) 64)))) + 1)) n149) (N0 n148 (w64 (Int.fdiv (IntKind.wrap .u64 (w64 (n148 + n149))) (2 ^ (min (Int.toNat 1) 64))))))) (k0 n148)
noncomputable def f55_p66 (R : f55_T) (i141 : Nat) (n142 : Nat) (n143 : Int) (n144 : Int) (n145 : Int) (n146 : Int) (n147 : Int) (n150 : Int) (es151 : List (List PC)) (k0 : Int → Prop) : Int × Int → Prop := LoopP fun x N => (f55_p66b0 R) i141 n142 n143 n144 n145 n146 n147 x.1 x.2 n150 es151 (fun n148 n149 => N (n148, n149)) k0
noncomputable def f55_p87 (R : f55_T) (i188 : Nat) (n189 : Nat) (n190 : Int) (n191 : Int) (n192 : Int) (es193 : List (List PC)) (k0 : (List (List PC)) → Prop) : Prop := bB (decide (n191 < n192)) (bB (decide (n192 < n190)) (R i188 n189 n191 n192 n190 es193 (fun es194 => k0 es194)) (k0 es193)) (k0 es193)
noncomputable def f55_p83 (R : f55_T) (i179 : Nat) (n180 : Nat) (n181 : Int) (n182 : Int) (n183 : Int) (n184 : Int) (n185 : Int) (es186 : List (List PC)) (k0 : (List (List PC)) → Prop) : Prop := bB (decide (n181 < n184)) (bB (decide (n184 < n183)) (R i179 n180 n181 n184 n183 es186 (fun es187 => (f55_p87 R) i179 n180 n182 n183 n185 es187 (fun es195 => k0 es195))) ((f55_p87 R) i179 n180 n182 n183 n185 es186 (fun es196 => k0 es196))) ((f55_p87 R) i179 n180 n182 n183 n185 es186 (fun es197 => k0 es197))
noncomputable def f55_p65 (R : f55_T) (i131 : Nat) (n132 : Nat) (n133 : Int) (n134 : Int) (n135 : Int) (n136 : Int) (n137 : Int) (n138 : Int) (n139 : Int) (es140 : List (List PC)) (k0 : (List (List PC)) → Prop) : Prop := (f55_p66 R) i131 n132 n133 n134 n135 n136 n137 (w64 (n137 - 1)) es140 (fun n177 => bB (decide (n177 < n134)) (bB (decide (n134 < (w64 (n137 - n177)))) (f56 i131 n132 n177 n134 (w64 (n137 - n177)) es140 (fun es178 => (f55_p83 R) i131 n132 n133 n135 n136 n177 (w64 (n137 - n177)) es178 (fun es198 => k0 es198))) ((f55_p83 R) i131 n132 n133 n135 n136 n177 (w64 (n137 - n177)) es140 (fun es199 => k0 es199))) ((f55_p83 R) i131 n132 n133 n135 n136 n177 (w64 (n137 - n177)) es140 (fun es200 => k0 es200))) (n138, n139)
noncomputable def f55_d (R : f55_T) (i1 : Nat) (n2 : Nat) (n3 : Int) (n4 : Int) (n5 : Int) (es6 : List (List PC)) (k0 : (List (List PC)) → Prop) : Prop := bB ((w64 (n4 - n3)) == 1) ((f55_p6 R) i1 n2 n3 es6 (fun n38 => (f55_p18 R) i1 n2 n38 (fun es68 => k0 es68) (n3, es6)) (n4, n5)) (bB ((w64 (n5 - n4)) == 1) ((f55_p30 R) i1 n2 n4 es6 (fun n100 => (f55_p42 R) i1 n2 n100 (fun es130 => k0 es130) (n4, es6)) (n3, n4)) (0 ≤ (1 : Int) ∧ bB (decide (n4 > (w64 (Int.fdiv (IntKind.wrap .u64 (w64 (n3 + n5))) (2 ^ (min (Int.toNat 1) 64)))))) ((f55_p65 R) i1 n2 n3 n4 n5 (w64 (Int.fdiv (IntKind.wrap .u64 (w64 (n3 + n5))) (2 ^ (min (Int.toNat 1) 64)))) (w64 ((w64 (Int.fdiv (IntKind.wrap .u64 (w64 (n3 + n5))) (2 ^ (min (Int.toNat 1) 64)))) + n4)) (w64 ((w64 ((w64 (Int.fdiv (IntKind.wrap .u64 (w64 (n3 + n5))) (2 ^ (min (Int.toNat 1) 64)))) + n4)) - n5)) (w64 (Int.fdiv (IntKind.wrap .u64 (w64 (n3 + n5))) (2 ^ (min (Int.toNat 1) 64)))) es6 (fun es201 => k0 es201)) ((f55_p65 R) i1 n2 n3 n4 n5 (w64 (Int.fdiv (IntKind.wrap .u64 (w64 (n3 + n5))) (2 ^ (min (Int.toNat 1) 64)))) (w64 ((w64 (Int.fdiv (IntKind.wrap .u64 (w64 (n3 + n5))) (2 ^ (min (Int.toNat 1) 64)))) + n4)) n3 n4 es6 (fun es202 => k0 es202))))
noncomputable def f55_n : Nat → f55_T := fun n => Nat.rec (motive := fun _ => f55_T) (fun _ _ _ _ _ _ _ => False) (fun _ ih => f55_d ih) n
structure f55 (i1 : Nat) (n2 : Nat) (n3 : Int) (n4 : Int) (n5 : Int) (es6 : List (List PC)) (k0 : (List (List PC)) → Prop) : Prop where
  run : ∃ n, f55_n n i1 n2 n3 n4 n5 es6 k0
noncomputable def f55_p6L (R : f55_T) : Told := fun s K => match s with
  | ⟨tm, hp⟩ => getS [.v (.one (.ref 0)), .v (.one (.int .i64)), .skip 2, .v (.one (.fn 46)), .skip 5, .v (.one (.int .i64)), .v (.one (.int .i64)), .skip 208] [.vec 6 true] tm hp fun (xx : ((Nat × Nat) × (Int × (Unit × (Unit × (Unit × (Int × (Int × (Unit × Unit))))))))) (yy : ((List (List PC)) × Unit)) => (f55_p6 R) xx.1.1 xx.1.2 xx.2.1 yy.1 (fun n0_0 => K (.exit 0) ⟨mkS 220 [(0, .w (.one (.ref 0 xx.1.1 xx.1.2))), (1, I xx.2.1), (10, I n0_0)], [.vec 6 yy.1 true]⟩) (xx.2.2.2.2.2.1, xx.2.2.2.2.2.2.1)
noncomputable def f55_p18L (R : f55_T) : Told := fun s K => match s with
  | ⟨tm, hp⟩ => getS [.v (.one (.ref 0)), .skip 9, .v (.one (.int .i64)), .skip 2, .v (.one (.int .i64)), .skip 206] [.vec 6 true] tm hp fun (xx : ((Nat × Nat) × (Unit × (Int × (Unit × (Int × (Unit × Unit))))))) (yy : ((List (List PC)) × Unit)) => (f55_p18 R) xx.1.1 xx.1.2 xx.2.2.1 (fun es0_1 => K (.exit 2) ⟨mkS 220 [], [.vec 6 es0_1 true]⟩) (xx.2.2.2.2.1, yy.1)
noncomputable def f55_p30L (R : f55_T) : Told := fun s K => match s with
  | ⟨tm, hp⟩ => getS [.v (.one (.ref 0)), .skip 1, .v (.one (.int .i64)), .skip 1, .v (.one (.fn 46)), .skip 9, .v (.one (.int .i64)), .v (.one (.int .i64)), .skip 204] [.vec 6 true] tm hp fun (xx : ((Nat × Nat) × (Unit × (Int × (Unit × (Unit × (Unit × (Int × (Int × (Unit × Unit)))))))))) (yy : ((List (List PC)) × Unit)) => (f55_p30 R) xx.1.1 xx.1.2 xx.2.2.1 yy.1 (fun n0_2 => K (.exit 4) ⟨mkS 220 [(0, .w (.one (.ref 0 xx.1.1 xx.1.2))), (2, I xx.2.2.1), (14, I n0_2)], [.vec 6 yy.1 true]⟩) (xx.2.2.2.2.2.2.1, xx.2.2.2.2.2.2.2.1)
noncomputable def f55_p42L (R : f55_T) : Told := fun s K => match s with
  | ⟨tm, hp⟩ => getS [.v (.one (.ref 0)), .skip 13, .v (.one (.int .i64)), .skip 2, .v (.one (.int .i64)), .skip 202] [.vec 6 true] tm hp fun (xx : ((Nat × Nat) × (Unit × (Int × (Unit × (Int × (Unit × Unit))))))) (yy : ((List (List PC)) × Unit)) => (f55_p42 R) xx.1.1 xx.1.2 xx.2.2.1 (fun es0_3 => K (.exit 6) ⟨mkS 220 [], [.vec 6 es0_3 true]⟩) (xx.2.2.2.2.1, yy.1)
noncomputable def f55_p66L (R : f55_T) : Told := fun s K => match s with
  | ⟨tm, hp⟩ => getS [.v (.one (.ref 0)), .v (.one (.int .i64)), .v (.one (.int .i64)), .v (.one (.int .i64)), .v (.one (.fn 46)), .skip 13, .v (.one (.int .i64)), .v (.one (.int .i64)), .v (.one (.int .i64)), .v (.one (.int .i64)), .v (.one (.int .i64)), .skip 197] [.vec 6 true] tm hp fun (xx : ((Nat × Nat) × (Int × (Int × (Int × (Unit × (Unit × (Int × (Int × (Int × (Int × (Int × (Unit × Unit))))))))))))) (yy : ((List (List PC)) × Unit)) => (f55_p66 R) xx.1.1 xx.1.2 xx.2.1 xx.2.2.1 xx.2.2.2.1 xx.2.2.2.2.2.2.1 xx.2.2.2.2.2.2.2.1 xx.2.2.2.2.2.2.2.2.2.2.1 yy.1 (fun n0_4 => K (.exit 8) ⟨mkS 220 [(0, .w (.one (.ref 0 xx.1.1 xx.1.2))), (1, I xx.2.1), (2, I xx.2.2.1), (3, I xx.2.2.2.1), (4, .w (.one (.p (.c (.func (.func 46) #[] #[]))))), (18, I xx.2.2.2.2.2.2.1), (19, I xx.2.2.2.2.2.2.2.1), (20, I n0_4)], [.vec 6 yy.1 true]⟩) (xx.2.2.2.2.2.2.2.2.1, xx.2.2.2.2.2.2.2.2.2.1)
noncomputable def f55_p87L (R : f55_T) : Told := fun s K => match s with
  | ⟨tm, hp⟩ => getS [.v (.one (.ref 0)), .skip 2, .v (.one (.int .i64)), .v (.one (.fn 46)), .skip 13, .v (.one (.int .i64)), .skip 5, .v (.one (.int .i64)), .skip 195] [.vec 6 true] tm hp fun (xx : ((Nat × Nat) × (Unit × (Int × (Unit × (Unit × (Int × (Unit × (Int × (Unit × Unit)))))))))) (yy : ((List (List PC)) × Unit)) => (f55_p87 R) xx.1.1 xx.1.2 xx.2.2.1 xx.2.2.2.2.2.1 xx.2.2.2.2.2.2.2.1 yy.1 (fun es0_5 => K .normal ⟨mkS 220 [], [.vec 6 es0_5 true]⟩)
noncomputable def f55_p83L (R : f55_T) : Told := fun s K => match s with
  | ⟨tm, hp⟩ => getS [.v (.one (.ref 0)), .v (.one (.int .i64)), .skip 1, .v (.one (.int .i64)), .v (.one (.fn 46)), .skip 13, .v (.one (.int .i64)), .skip 1, .v (.one (.int .i64)), .skip 3, .v (.one (.int .i64)), .skip 195] [.vec 6 true] tm hp fun (xx : ((Nat × Nat) × (Int × (Unit × (Int × (Unit × (Unit × (Int × (Unit × (Int × (Unit × (Int × (Unit × Unit))))))))))))) (yy : ((List (List PC)) × Unit)) => (f55_p83 R) xx.1.1 xx.1.2 xx.2.1 xx.2.2.2.1 xx.2.2.2.2.2.2.1 xx.2.2.2.2.2.2.2.2.1 xx.2.2.2.2.2.2.2.2.2.2.1 yy.1 (fun es0_6 => K .normal ⟨mkS 220 [], [.vec 6 es0_6 true]⟩)
noncomputable def f55_p65L (R : f55_T) : Told := fun s K => match s with
  | ⟨tm, hp⟩ => getS [.v (.one (.ref 0)), .v (.one (.int .i64)), .v (.one (.int .i64)), .v (.one (.int .i64)), .v (.one (.fn 46)), .skip 13, .v (.one (.int .i64)), .v (.one (.int .i64)), .v (.one (.int .i64)), .v (.one (.int .i64)), .skip 198] [.vec 6 true] tm hp fun (xx : ((Nat × Nat) × (Int × (Int × (Int × (Unit × (Unit × (Int × (Int × (Int × (Int × (Unit × Unit)))))))))))) (yy : ((List (List PC)) × Unit)) => (f55_p65 R) xx.1.1 xx.1.2 xx.2.1 xx.2.2.1 xx.2.2.2.1 xx.2.2.2.2.2.2.1 xx.2.2.2.2.2.2.2.1 xx.2.2.2.2.2.2.2.2.1 xx.2.2.2.2.2.2.2.2.2.1 yy.1 (fun es0_7 => K .normal ⟨mkS 220 [], [.vec 6 es0_7 true]⟩)
noncomputable def f55_tab (R : f55_T) : List (Nat × Told) := [(6, (f55_p6L R)), (18, (f55_p18L R)), (30, (f55_p30L R)), (42, (f55_p42L R)), (66, (f55_p66L R)), (87, (f55_p87L R)), (83, (f55_p83L R)), (65, (f55_p65L R))]
noncomputable def f55_GR (R : f55_T) : List TV → List Entry → (TV → List Entry → Prop) → Prop := fun tm hp K => getS [.v (.one (.ref 0)), .v (.one (.int .i64)), .v (.one (.int .i64)), .v (.one (.int .i64)), .v (.one (.fn 46))] [.vec 6 true] tm hp fun (xx : ((Nat × Nat) × (Int × (Int × (Int × (Unit × Unit)))))) (yy : ((List (List PC)) × Unit)) => R xx.1.1 xx.1.2 xx.2.1 xx.2.2.1 xx.2.2.2.1 yy.1 (fun es0_8 => K undefT [.vec 6 es0_8 true])
noncomputable def f55_call (R : f55_T) : FuncId → List TV → List Entry → (TV → List Entry → Prop) → Prop := addCall 55 (f55_GR R) (addCall 56 f56_G (addCall 46 f46_G (noCalls)))
noncomputable def f55_C (R : f55_T) : Ctx := { ty := tyOf tab, glob := glob, byRef := byRef, keep := fun k i => lookN [] (lookN [] ([(6, [(0, [0, 1, 4, 10, 11]), (2, []), (3, [0, 1, 10])]), (18, [(0, [0, 10, 13]), (2, []), (5, [])]), (30, [(0, [0, 2, 4, 14, 15]), (2, []), (7, [0, 2, 14])]), (42, [(0, [0, 14, 17]), (2, []), (9, [])]), (66, [(0, [0, 1, 2, 3, 4, 18, 19, 20, 21, 22]), (2, []), (11, [0, 1, 2, 3, 4, 18, 19, 20])]), (87, [(0, [0, 3, 4, 18, 24]), (1, []), (2, [])]), (83, [(0, [0, 1, 3, 4, 18, 20, 24]), (1, []), (2, [])]), (65, [(0, [0, 1, 2, 3, 4, 18, 19, 20, 21]), (1, []), (2, [])])] : List (Nat × List (Nat × List Nat))) k) i, late := lookN [] ([] : List (Nat × List Nat)), nref := lookN [] ([] : List (Nat × List Nat)), nbox := lookN [] ([] : List (Nat × List (Nat × Nat))), take := [], rnil := true, m := 1, fz := false, loops := lookL (f55_tab R), call := (f55_call R) }
noncomputable def f55_p6_mk (i7 : Nat) (n8 : Nat) (n9 : Int) (es12 : List (List PC)) (x : Int × Int) : St := ⟨mkS 220 [(0, .w (.one (.ref 0 i7 n8))), (1, I n9), (4, .w (.one (.p (.c (.func (.func 46) #[] #[]))))), (10, I x.1), (11, I x.2)], [.vec 6 es12 true]⟩
set_option maxRecDepth 100000 in
theorem f55_p6e0 (R : f55_T) (i_15 : Nat) (n_16 : Nat) (n_17 : Int) (n_18 : Int) (n_19 : Int) (es_20 : List (List PC)) (N : St → Prop) (K : TExit → St → Prop) : ((f55_p6b0 R) i_15 n_16 n_17 n_18 n_19 es_20 (fun z3 z4 => N (f55_p6_mk i_15 n_16 n_17 es_20 (z3, z4))) (fun n0_21 => K (.exit 0) ⟨mkS 220 [(0, .w (.one (.ref 0 i_15 n_16))), (1, I n_17), (10, I n0_21)], [.vec 6 es_20 true]⟩)) = execT (f55_C R) (nthC (bodies (bodyOf Try.f55)) 0) (f55_p6_mk i_15 n_16 n_17 es_20 (n_18, n_19)) (loopK N (normK (f55_C R) 6) fun e s => K e (normOut (f55_C R) 6 e s)) := by kernel_rfl
noncomputable def f55_p18_mk (i39 : Nat) (n40 : Nat) (n41 : Int) (x : Int × (List (List PC))) : St := ⟨mkS 220 [(0, .w (.one (.ref 0 i39 n40))), (10, I n41), (13, I x.1)], [.vec 6 x.2 true]⟩
set_option maxRecDepth 100000 in
theorem f55_p18e0 (R : f55_T) (i_27 : Nat) (n_28 : Nat) (n_29 : Int) (n_30 : Int) (es_31 : List (List PC)) (N : St → Prop) (K : TExit → St → Prop) : ((f55_p18b0 R) i_27 n_28 n_29 n_30 es_31 (fun z3 z4 => N (f55_p18_mk i_27 n_28 n_29 (z3, z4))) (fun es0_32 => K (.exit 2) ⟨mkS 220 [], [.vec 6 es0_32 true]⟩)) = execT (f55_C R) (nthC (bodies (bodyOf Try.f55)) 1) (f55_p18_mk i_27 n_28 n_29 (n_30, es_31)) (loopK N (normK (f55_C R) 18) fun e s => K e (normOut (f55_C R) 18 e s)) := by kernel_rfl
noncomputable def f55_p30_mk (i69 : Nat) (n70 : Nat) (n71 : Int) (es74 : List (List PC)) (x : Int × Int) : St := ⟨mkS 220 [(0, .w (.one (.ref 0 i69 n70))), (2, I n71), (4, .w (.one (.p (.c (.func (.func 46) #[] #[]))))), (14, I x.1), (15, I x.2)], [.vec 6 es74 true]⟩
set_option maxRecDepth 100000 in
theorem f55_p30e0 (R : f55_T) (i_39 : Nat) (n_40 : Nat) (n_41 : Int) (n_42 : Int) (n_43 : Int) (es_44 : List (List PC)) (N : St → Prop) (K : TExit → St → Prop) : ((f55_p30b0 R) i_39 n_40 n_41 n_42 n_43 es_44 (fun z3 z4 => N (f55_p30_mk i_39 n_40 n_41 es_44 (z3, z4))) (fun n0_45 => K (.exit 4) ⟨mkS 220 [(0, .w (.one (.ref 0 i_39 n_40))), (2, I n_41), (14, I n0_45)], [.vec 6 es_44 true]⟩)) = execT (f55_C R) (nthC (bodies (bodyOf Try.f55)) 2) (f55_p30_mk i_39 n_40 n_41 es_44 (n_42, n_43)) (loopK N (normK (f55_C R) 30) fun e s => K e (normOut (f55_C R) 30 e s)) := by kernel_rfl
noncomputable def f55_p42_mk (i101 : Nat) (n102 : Nat) (n103 : Int) (x : Int × (List (List PC))) : St := ⟨mkS 220 [(0, .w (.one (.ref 0 i101 n102))), (14, I n103), (17, I x.1)], [.vec 6 x.2 true]⟩
set_option maxRecDepth 100000 in
theorem f55_p42e0 (R : f55_T) (i_51 : Nat) (n_52 : Nat) (n_53 : Int) (n_54 : Int) (es_55 : List (List PC)) (N : St → Prop) (K : TExit → St → Prop) : ((f55_p42b0 R) i_51 n_52 n_53 n_54 es_55 (fun z3 z4 => N (f55_p42_mk i_51 n_52 n_53 (z3, z4))) (fun es0_56 => K (.exit 6) ⟨mkS 220 [], [.vec 6 es0_56 true]⟩)) = execT (f55_C R) (nthC (bodies (bodyOf Try.f55)) 3) (f55_p42_mk i_51 n_52 n_53 (n_54, es_55)) (loopK N (normK (f55_C R) 42) fun e s => K e (normOut (f55_C R) 42 e s)) := by kernel_rfl
noncomputable def f55_p66_mk (i141 : Nat) (n142 : Nat) (n143 : Int) (n144 : Int) (n145 : Int) (n146 : Int) (n147 : Int) (n150 : Int) (es151 : List (List PC)) (x : Int × Int) : St := ⟨mkS 220 [(0, .w (.one (.ref 0 i141 n142))), (1, I n143), (2, I n144), (3, I n145), (4, .w (.one (.p (.c (.func (.func 46) #[] #[]))))), (18, I n146), (19, I n147), (20, I x.1), (21, I x.2), (22, I n150)], [.vec 6 es151 true]⟩
set_option maxRecDepth 100000 in
theorem f55_p66e0 (R : f55_T) (i_68 : Nat) (n_69 : Nat) (n_70 : Int) (n_71 : Int) (n_72 : Int) (n_73 : Int) (n_74 : Int) (n_75 : Int) (n_76 : Int) (n_77 : Int) (es_78 : List (List PC)) (N : St → Prop) (K : TExit → St → Prop) : ((f55_p66b0 R) i_68 n_69 n_70 n_71 n_72 n_73 n_74 n_75 n_76 n_77 es_78 (fun z7 z8 => N (f55_p66_mk i_68 n_69 n_70 n_71 n_72 n_73 n_74 n_77 es_78 (z7, z8))) (fun n0_79 => K (.exit 8) ⟨mkS 220 [(0, .w (.one (.ref 0 i_68 n_69))), (1, I n_70), (2, I n_71), (3, I n_72), (4, .w (.one (.p (.c (.func (.func 46) #[] #[]))))), (18, I n_73), (19, I n_74), (20, I n0_79)], [.vec 6 es_78 true]⟩)) = execT (f55_C R) (nthC (bodies (bodyOf Try.f55)) 4) (f55_p66_mk i_68 n_69 n_70 n_71 n_72 n_73 n_74 n_77 es_78 (n_75, n_76)) (loopK N (normK (f55_C R) 66) fun e s => K e (normOut (f55_C R) 66 e s)) := by kernel_rfl
set_option maxRecDepth 100000 in
theorem f55_p87e0 (R : f55_T) (i_80 : Nat) (n_81 : Nat) (n_82 : Int) (n_83 : Int) (n_84 : Int) (es_85 : List (List PC)) (K : TExit → St → Prop) : ((f55_p87 R) i_80 n_81 n_82 n_83 n_84 es_85 (fun es0_86 => K .normal ⟨mkS 220 [], [.vec 6 es0_86 true]⟩)) = execT (f55_C R) (nthC (tails (bodyOf Try.f55)) 44) ⟨mkS 220 [(0, .w (.one (.ref 0 i_80 n_81))), (3, I n_82), (4, .w (.one (.p (.c (.func (.func 46) #[] #[]))))), (18, I n_83), (24, I n_84)], [.vec 6 es_85 true]⟩ (fun e s => K e (normOut (f55_C R) 87 e s)) := by kernel_rfl
set_option maxRecDepth 100000 in
theorem f55_p83e0 (R : f55_T) (i_87 : Nat) (n_88 : Nat) (n_89 : Int) (n_90 : Int) (n_91 : Int) (n_92 : Int) (n_93 : Int) (es_94 : List (List PC)) (K : TExit → St → Prop) : ((f55_p83 R) i_87 n_88 n_89 n_90 n_91 n_92 n_93 es_94 (fun es0_95 => K .normal ⟨mkS 220 [], [.vec 6 es0_95 true]⟩)) = execT (f55_C R) (nthC (tails (bodyOf Try.f55)) 42) ⟨mkS 220 [(0, .w (.one (.ref 0 i_87 n_88))), (1, I n_89), (3, I n_90), (4, .w (.one (.p (.c (.func (.func 46) #[] #[]))))), (18, I n_91), (20, I n_92), (24, I n_93)], [.vec 6 es_94 true]⟩ (fun e s => K e (normOut (f55_C R) 83 e s)) := by kernel_rfl
set_option maxRecDepth 100000 in
theorem f55_p65e0 (R : f55_T) (i_96 : Nat) (n_97 : Nat) (n_98 : Int) (n_99 : Int) (n_100 : Int) (n_101 : Int) (n_102 : Int) (n_103 : Int) (n_104 : Int) (es_105 : List (List PC)) (K : TExit → St → Prop) : ((f55_p65 R) i_96 n_97 n_98 n_99 n_100 n_101 n_102 n_103 n_104 es_105 (fun es0_106 => K .normal ⟨mkS 220 [], [.vec 6 es0_106 true]⟩)) = execT (f55_C R) (nthC (tails (bodyOf Try.f55)) 31) ⟨mkS 220 [(0, .w (.one (.ref 0 i_96 n_97))), (1, I n_98), (2, I n_99), (3, I n_100), (4, .w (.one (.p (.c (.func (.func 46) #[] #[]))))), (18, I n_101), (19, I n_102), (20, I n_103), (21, I n_104)], [.vec 6 es_105 true]⟩ (fun e s => K e (normOut (f55_C R) 65 e s)) := by kernel_rfl
set_option maxHeartbeats 4000000 in
theorem f55_p6_ok (R : f55_T) : LoopOk (f55_C R) (nthC (bodies (bodyOf Try.f55)) 0) := by
  refine LoopOk.of (f55_p6L R) (by kernel_rfl) fun σ K h => ?_
  have hk : loopKey (nthC (bodies (bodyOf Try.f55)) 0) = 6 := by kernel_rfl
  rw [hk] at h ⊢
  generalize hs : normK (f55_C R) 6 σ = s at h
  obtain ⟨tm, hp⟩ := s
  unfold f55_p6L at h
  dsimp only at h
  obtain ⟨xx, yy, rfl, rfl, h⟩ := getS_elim h
  refine iter_of (f55_p6_mk xx.1.1 xx.1.2 xx.2.1 yy.1) (fun x N h => ?_) rounds _ σ (hs.trans (by kernel_rfl)) (LoopP.run h)
  obtain ⟨y0, y1⟩ := x
  rw [← (f55_p6e0 R) xx.1.1 xx.1.2 xx.2.1 y0 y1 yy.1 N K]
  exact h
set_option maxHeartbeats 4000000 in
theorem f55_p18_ok (R : f55_T) : LoopOk (f55_C R) (nthC (bodies (bodyOf Try.f55)) 1) := by
  refine LoopOk.of (f55_p18L R) (by kernel_rfl) fun σ K h => ?_
  have hk : loopKey (nthC (bodies (bodyOf Try.f55)) 1) = 18 := by kernel_rfl
  rw [hk] at h ⊢
  generalize hs : normK (f55_C R) 18 σ = s at h
  obtain ⟨tm, hp⟩ := s
  unfold f55_p18L at h
  dsimp only at h
  obtain ⟨xx, yy, rfl, rfl, h⟩ := getS_elim h
  refine iter_of (f55_p18_mk xx.1.1 xx.1.2 xx.2.2.1) (fun x N h => ?_) rounds _ σ (hs.trans (by kernel_rfl)) (LoopP.run h)
  obtain ⟨y0, y1⟩ := x
  rw [← (f55_p18e0 R) xx.1.1 xx.1.2 xx.2.2.1 y0 y1 N K]
  exact h
set_option maxHeartbeats 4000000 in
theorem f55_p30_ok (R : f55_T) : LoopOk (f55_C R) (nthC (bodies (bodyOf Try.f55)) 2) := by
  refine LoopOk.of (f55_p30L R) (by kernel_rfl) fun σ K h => ?_
  have hk : loopKey (nthC (bodies (bodyOf Try.f55)) 2) = 30 := by kernel_rfl
  rw [hk] at h ⊢
  generalize hs : normK (f55_C R) 30 σ = s at h
  obtain ⟨tm, hp⟩ := s
  unfold f55_p30L at h
  dsimp only at h
  obtain ⟨xx, yy, rfl, rfl, h⟩ := getS_elim h
  refine iter_of (f55_p30_mk xx.1.1 xx.1.2 xx.2.2.1 yy.1) (fun x N h => ?_) rounds _ σ (hs.trans (by kernel_rfl)) (LoopP.run h)
  obtain ⟨y0, y1⟩ := x
  rw [← (f55_p30e0 R) xx.1.1 xx.1.2 xx.2.2.1 y0 y1 yy.1 N K]
  exact h
set_option maxHeartbeats 4000000 in
theorem f55_p42_ok (R : f55_T) : LoopOk (f55_C R) (nthC (bodies (bodyOf Try.f55)) 3) := by
  refine LoopOk.of (f55_p42L R) (by kernel_rfl) fun σ K h => ?_
  have hk : loopKey (nthC (bodies (bodyOf Try.f55)) 3) = 42 := by kernel_rfl
  rw [hk] at h ⊢
  generalize hs : normK (f55_C R) 42 σ = s at h
  obtain ⟨tm, hp⟩ := s
  unfold f55_p42L at h
  dsimp only at h
  obtain ⟨xx, yy, rfl, rfl, h⟩ := getS_elim h
  refine iter_of (f55_p42_mk xx.1.1 xx.1.2 xx.2.2.1) (fun x N h => ?_) rounds _ σ (hs.trans (by kernel_rfl)) (LoopP.run h)
  obtain ⟨y0, y1⟩ := x
  rw [← (f55_p42e0 R) xx.1.1 xx.1.2 xx.2.2.1 y0 y1 N K]
  exact h
set_option maxHeartbeats 4000000 in
theorem f55_p66_ok (R : f55_T) : LoopOk (f55_C R) (nthC (bodies (bodyOf Try.f55)) 4) := by
  refine LoopOk.of (f55_p66L R) (by kernel_rfl) fun σ K h => ?_
  have hk : loopKey (nthC (bodies (bodyOf Try.f55)) 4) = 66 := by kernel_rfl
  rw [hk] at h ⊢
  generalize hs : normK (f55_C R) 66 σ = s at h
  obtain ⟨tm, hp⟩ := s
  unfold f55_p66L at h
  dsimp only at h
  obtain ⟨xx, yy, rfl, rfl, h⟩ := getS_elim h
  refine iter_of (f55_p66_mk xx.1.1 xx.1.2 xx.2.1 xx.2.2.1 xx.2.2.2.1 xx.2.2.2.2.2.2.1 xx.2.2.2.2.2.2.2.1 xx.2.2.2.2.2.2.2.2.2.2.1 yy.1) (fun x N h => ?_) rounds _ σ (hs.trans (by kernel_rfl)) (LoopP.run h)
  obtain ⟨y0, y1⟩ := x
  rw [← (f55_p66e0 R) xx.1.1 xx.1.2 xx.2.1 xx.2.2.1 xx.2.2.2.1 xx.2.2.2.2.2.2.1 xx.2.2.2.2.2.2.2.1 y0 y1 xx.2.2.2.2.2.2.2.2.2.2.1 yy.1 N K]
  exact h
set_option maxHeartbeats 4000000 in
theorem f55_p87_ok (R : f55_T) : TailOk (f55_C R) (nthC (tails (bodyOf Try.f55)) 44) := by
  refine TailOk.of (f55_p87L R) (by kernel_rfl) fun σ K h => ?_
  have hk : joinKey (nthC (tails (bodyOf Try.f55)) 44) = 87 := by kernel_rfl
  rw [hk] at h ⊢
  generalize hs : normK (f55_C R) 87 σ = s at h
  obtain ⟨tm, hp⟩ := s
  unfold f55_p87L at h
  dsimp only at h
  obtain ⟨xx, yy, rfl, rfl, h⟩ := getS_elim h
  have q : normK (f55_C R) 87 σ = (⟨mkS 220 [(0, .w (.one (.ref 0 xx.1.1 xx.1.2))), (3, I xx.2.2.1), (4, .w (.one (.p (.c (.func (.func 46) #[] #[]))))), (18, I xx.2.2.2.2.2.1), (24, I xx.2.2.2.2.2.2.2.1)], [.vec 6 yy.1 true]⟩ : St) := hs.trans (by kernel_rfl)
  rw [← hs, q, ← (f55_p87e0 R) xx.1.1 xx.1.2 xx.2.2.1 xx.2.2.2.2.2.1 xx.2.2.2.2.2.2.2.1 yy.1 K]
  exact h
set_option maxHeartbeats 4000000 in
theorem f55_p83_ok (R : f55_T) : TailOk (f55_C R) (nthC (tails (bodyOf Try.f55)) 42) := by
  refine TailOk.of (f55_p83L R) (by kernel_rfl) fun σ K h => ?_
  have hk : joinKey (nthC (tails (bodyOf Try.f55)) 42) = 83 := by kernel_rfl
  rw [hk] at h ⊢
  generalize hs : normK (f55_C R) 83 σ = s at h
  obtain ⟨tm, hp⟩ := s
  unfold f55_p83L at h
  dsimp only at h
  obtain ⟨xx, yy, rfl, rfl, h⟩ := getS_elim h
  have q : normK (f55_C R) 83 σ = (⟨mkS 220 [(0, .w (.one (.ref 0 xx.1.1 xx.1.2))), (1, I xx.2.1), (3, I xx.2.2.2.1), (4, .w (.one (.p (.c (.func (.func 46) #[] #[]))))), (18, I xx.2.2.2.2.2.2.1), (20, I xx.2.2.2.2.2.2.2.2.1), (24, I xx.2.2.2.2.2.2.2.2.2.2.1)], [.vec 6 yy.1 true]⟩ : St) := hs.trans (by kernel_rfl)
  rw [← hs, q, ← (f55_p83e0 R) xx.1.1 xx.1.2 xx.2.1 xx.2.2.2.1 xx.2.2.2.2.2.2.1 xx.2.2.2.2.2.2.2.2.1 xx.2.2.2.2.2.2.2.2.2.2.1 yy.1 K]
  exact h
set_option maxHeartbeats 4000000 in
theorem f55_p65_ok (R : f55_T) : TailOk (f55_C R) (nthC (tails (bodyOf Try.f55)) 31) := by
  refine TailOk.of (f55_p65L R) (by kernel_rfl) fun σ K h => ?_
  have hk : joinKey (nthC (tails (bodyOf Try.f55)) 31) = 65 := by kernel_rfl
  rw [hk] at h ⊢
  generalize hs : normK (f55_C R) 65 σ = s at h
  obtain ⟨tm, hp⟩ := s
  unfold f55_p65L at h
  dsimp only at h
  obtain ⟨xx, yy, rfl, rfl, h⟩ := getS_elim h
  have q : normK (f55_C R) 65 σ = (⟨mkS 220 [(0, .w (.one (.ref 0 xx.1.1 xx.1.2))), (1, I xx.2.1), (2, I xx.2.2.1), (3, I xx.2.2.2.1), (4, .w (.one (.p (.c (.func (.func 46) #[] #[]))))), (18, I xx.2.2.2.2.2.2.1), (19, I xx.2.2.2.2.2.2.2.1), (20, I xx.2.2.2.2.2.2.2.2.1), (21, I xx.2.2.2.2.2.2.2.2.2.1)], [.vec 6 yy.1 true]⟩ : St) := hs.trans (by kernel_rfl)
  rw [← hs, q, ← (f55_p65e0 R) xx.1.1 xx.1.2 xx.2.1 xx.2.2.1 xx.2.2.2.1 xx.2.2.2.2.2.2.1 xx.2.2.2.2.2.2.2.1 xx.2.2.2.2.2.2.2.2.1 xx.2.2.2.2.2.2.2.2.2.1 yy.1 K]
  exact h
noncomputable def f55_G0 : List TV → List Entry → (TV → List Entry → Prop) → Prop := fun tm hp K => getS [.v (.one (.ref 0)), .v (.one (.int .i64)), .v (.one (.int .i64)), .v (.one (.int .i64)), .v (.one (.fn 46))] [.vec 6 true] tm hp fun (xx : ((Nat × Nat) × (Int × (Int × (Int × (Unit × Unit)))))) (yy : ((List (List PC)) × Unit)) => f55 xx.1.1 xx.1.2 xx.2.1 xx.2.2.1 xx.2.2.2.1 yy.1 (fun es0_8 => K undefT [.vec 6 es0_8 true])
set_option maxRecDepth 100000 in
theorem f55_eq (R : f55_T) (i_107 : Nat) (n_108 : Nat) (n_109 : Int) (n_110 : Int) (n_111 : Int) (es_112 : List (List PC)) (K : TV → List Entry → Prop) : ((f55_d R) i_107 n_108 n_109 n_110 n_111 es_112 (fun es0_8 => K undefT [.vec 6 es0_8 true])) = funcT (f55_C R) Try.f55 [.w (.one (.ref 0 i_107 n_108)), I n_109, I n_110, I n_111, .w (.one (.p (.c (.func (.func 46) #[] #[]))))] [.vec 6 es_112 true] K := by kernel_rfl
set_option maxHeartbeats 4000000 in
theorem f55_step (R : f55_T) (hR : FnOk Try.prog glob 55 (f55_GR R)) : FnOk Try.prog glob 55 (f55_GR (f55_d R)) := by
  refine FnOk.of_text (C := (f55_C R)) tab_ok.ok (Known.add hR (Known.add f56_G_ok (Known.add f46_G_ok (Known.none)))) follows_ok (fn := Try.f55) (by kernel_rfl) (by kernel_rfl) (by kernel_rfl) (fun c hc => ?_) fun tm hp K h => ?_
  · have e : c = bodyOf Try.f55 := Option.some.inj (hc.symm.trans (by kernel_rfl))
    subst e
    exact ⟨LoopsOk.of [nthC (bodies (bodyOf Try.f55)) 0, nthC (bodies (bodyOf Try.f55)) 1, nthC (bodies (bodyOf Try.f55)) 2, nthC (bodies (bodyOf Try.f55)) 3, nthC (bodies (bodyOf Try.f55)) 4] (by kernel_rfl) ⟨(f55_p6_ok R), (f55_p18_ok R), (f55_p30_ok R), (f55_p42_ok R), (f55_p66_ok R), trivial⟩, TailsOk.of (tab := (f55_tab R)) rfl [nthC (tails (bodyOf Try.f55)) 31, nthC (tails (bodyOf Try.f55)) 42, nthC (tails (bodyOf Try.f55)) 44] (by kernel_rfl) ⟨(f55_p65_ok R), (f55_p83_ok R), (f55_p87_ok R), trivial⟩⟩
  · unfold f55_GR at h
    obtain ⟨xx, yy, rfl, rfl, h⟩ := getS_elim h
    have e := (f55_eq R xx.1.1 xx.1.2 xx.2.1 xx.2.2.1 xx.2.2.2.1 yy.1 K).trans (show _ = funcT (f55_C R) Try.f55 (mkR _ xx) (mkE _ yy) K by kernel_rfl)
    rw [← e]
    exact h
theorem f55_ok_n : ∀ n, FnOk Try.prog glob 55 (f55_GR (f55_n n))
  | 0 => fun tm hp K h => by
    unfold f55_GR at h
    obtain ⟨xx, yy, rfl, rfl, h⟩ := getS_elim h
    exact False.elim h
  | n + 1 => f55_step _ (f55_ok_n n)
theorem f55_ok0 : FnOk Try.prog glob 55 f55_G0 := fun tm hp K h => by
  unfold f55_G0 at h
  obtain ⟨xx, yy, rfl, rfl, h⟩ := getS_elim h
  obtain ⟨n, h⟩ := h.run
  have e : f55_GR (f55_n n) (mkR _ xx) (mkE _ yy) K = f55_n n xx.1.1 xx.1.2 xx.2.1 xx.2.2.1 xx.2.2.2.1 yy.1 (fun es0_8 => K undefT [.vec 6 es0_8 true]) := by kernel_rfl
  refine f55_ok_n n _ _ _ ?_
  rw [e]
  exact h
noncomputable abbrev f55_G := f55_G0
theorem f55_G_ok : FnOk Try.prog glob 55 f55_G := f55_ok0
end Go.Eng.N
set_option linter.unusedVariables false
set_option maxRecDepth 100000
open Go Go.Eng Go.Proofs
namespace Go.Eng.N
/-! ### f52: slices.stableCmpFunc(plenum/api.Record) -/
noncomputable def f52_p4b0 (i5 : Nat) (n6 : Nat) (n7 : Int) (n8 : Int) (n9 : Int) (n10 : Int) (es11 : List (List PC)) (N0 : Int → Int → (List (List PC)) → Prop) (k0 : Int → (List (List PC)) → Prop) : Prop := bB (decide (n10 ≤ n7)) (f54 i5 n6 n9 n10 es11 (fun es12 => N0 n10 (w64 (n10 + n8)) es12)) (k0 n9 es11)
noncomputable def f52_p4 (i5 : Nat) (n6 : Nat) (n7 : Int) (n8 : Int) (k0 : Int → (List (List PC)) → Prop) : Int × Int × (List (List PC)) → Prop := LoopP fun x N => f52_p4b0 i5 n6 n7 n8 x.1 x.2.1 x.2.2 (fun n9 n10 es11 => N (n9, n10, es11)) k0
noncomputable def f52_p18b0 (i21 : Nat) (n22 : Nat) (n23 : Int) (n24 : Int) (n25 : Int) (n26 : Int) (es27 : List (List PC)) (N0 : Int → Int → (List (List PC)) → Prop) (k0 : Int → (List (List PC)) → Prop) : Prop := bB (decide (n26 ≤ n23)) (f55 i21 n22 n25 (w64 (n25 + n24)) n26 es27 (fun es28 => N0 n26 (w64 (n26 + (w64 (2 * n24)))) es28)) (k0 n25 es27)
noncomputable def f52_p18 (i21 : Nat) (n22 : Nat) (n23 : Int) (n24 : Int) (k0 : Int → (List (List PC)) → Prop) : Int × Int × (List (List PC)) → Prop := LoopP fun x N => f52_p18b0 i21 n22 n23 n24 x.1 x.2.1 x.2.2 (fun n25 n26 es27 => N (n25, n26, es27)) k0
noncomputable def f52_p14b0 (i16 : Nat) (n17 : Nat) (n18 : Int) (n19 : Int) (es20 : List (List PC)) (N0 : Int → (List (List PC)) → Prop) (k0 : (List (List PC)) → Prop) : Prop := bB (decide (n19 < n18)) (f52_p18 i16 n17 n18 n19 (fun n29 es30 => bB (decide ((w64 (n29 + n19)) < n18)) (f55 i16 n17 n29 (w64 (n29 + n19)) n18 es30 (fun es31 => N0 (w64 (n19 * 2)) es31)) (N0 (w64 (n19 * 2)) es30)) (0, (w64 (2 * n19)), es20)) (k0 es20)
noncomputable def f52_p14 (i16 : Nat) (n17 : Nat) (n18 : Int) (k0 : (List (List PC)) → Prop) : Int × (List (List PC)) → Prop := LoopP fun x N => f52_p14b0 i16 n17 n18 x.1 x.2 (fun n19 es20 => N (n19, es20)) k0
noncomputable def f52_d (i1 : Nat) (n2 : Nat) (n3 : Int) (es4 : List (List PC)) (k0 : (List (List PC)) → Prop) : Prop := f52_p4 i1 n2 n3 20 (fun n13 es14 => f54 i1 n2 n13 n3 es14 (fun es15 => f52_p14 i1 n2 n3 (fun es32 => k0 es32) (20, es15))) (0, 20, es4)
structure f52 (i1 : Nat) (n2 : Nat) (n3 : Int) (es4 : List (List PC)) (k0 : (List (List PC)) → Prop) : Prop where
  run : f52_d i1 n2 n3 es4 k0
noncomputable def f52_p4L : Told := fun s K => match s with
  | ⟨tm, hp⟩ => getS [.v (.one (.ref 0)), .v (.one (.int .i64)), .v (.one (.fn 46)), .skip 3, .v (.one (.int .i64)), .v (.one (.int .i64)), .v (.one (.int .i64)), .skip 54] [.vec 6 true] tm hp fun (xx : ((Nat × Nat) × (Int × (Unit × (Unit × (Int × (Int × (Int × (Unit × Unit))))))))) (yy : ((List (List PC)) × Unit)) => f52_p4 xx.1.1 xx.1.2 xx.2.1 xx.2.2.2.2.1 (fun n0_0 es0_1 => K (.exit 0) ⟨mkS 63 [(0, .w (.one (.ref 0 xx.1.1 xx.1.2))), (1, I xx.2.1), (2, .w (.one (.p (.c (.func (.func 46) #[] #[]))))), (6, I xx.2.2.2.2.1), (7, I n0_0)], [.vec 6 es0_1 true]⟩) (xx.2.2.2.2.2.1, xx.2.2.2.2.2.2.1, yy.1)
noncomputable def f52_p18L : Told := fun s K => match s with
  | ⟨tm, hp⟩ => getS [.v (.one (.ref 0)), .v (.one (.int .i64)), .v (.one (.fn 46)), .skip 3, .v (.one (.int .i64)), .v (.one (.int .i64)), .v (.one (.int .i64)), .skip 54] [.vec 6 true] tm hp fun (xx : ((Nat × Nat) × (Int × (Unit × (Unit × (Int × (Int × (Int × (Unit × Unit))))))))) (yy : ((List (List PC)) × Unit)) => f52_p18 xx.1.1 xx.1.2 xx.2.1 xx.2.2.2.2.1 (fun n0_2 es0_3 => K (.exit 4) ⟨mkS 63 [(0, .w (.one (.ref 0 xx.1.1 xx.1.2))), (1, I xx.2.1), (2, .w (.one (.p (.c (.func (.func 46) #[] #[]))))), (6, I xx.2.2.2.2.1), (7, I n0_2)], [.vec 6 es0_3 true]⟩) (xx.2.2.2.2.2.1, xx.2.2.2.2.2.2.1, yy.1)
noncomputable def f52_p14L : Told := fun s K => match s with
  | ⟨tm, hp⟩ => getS [.v (.one (.ref 0)), .v (.one (.int .i64)), .v (.one (.fn 46)), .skip 3, .v (.one (.int .i64)), .skip 56] [.vec 6 true] tm hp fun (xx : ((Nat × Nat) × (Int × (Unit × (Unit × (Int × (Unit × Unit))))))) (yy : ((List (List PC)) × Unit)) => f52_p14 xx.1.1 xx.1.2 xx.2.1 (fun es0_4 => K (.exit 2) ⟨mkS 63 [], [.vec 6 es0_4 true]⟩) (xx.2.2.2.2.1, yy.1)
noncomputable def f52_tab : List (Nat × Told) := [(4, f52_p4L), (18, f52_p18L), (14, f52_p14L)]
noncomputable def f52_call : FuncId → List TV → List Entry → (TV → List Entry → Prop) → Prop := addCall 55 f55_G (addCall 54 f54_G (noCalls))
noncomputable def f52_C : Ctx := { ty := tyOf tab, glob := glob, byRef := byRef, keep := fun k i => lookN [] (lookN [] ([(4, [(0, [0, 1, 2, 6, 7, 8]), (2, []), (3, [0, 1, 2, 6, 7])]), (18, [(0, [0, 1, 2, 6, 7, 8]), (2, []), (5, []), (6, [0, 1, 2, 6]), (7, [0, 1, 2, 6, 7])]), (14, [(0, [0, 1, 2, 6]), (2, []), (5, [])])] : List (Nat × List (Nat × List Nat))) k) i, late := lookN [] ([] : List (Nat × List Nat)), nref := lookN [] ([] : List (Nat × List Nat)), nbox := lookN [] ([] : List (Nat × List (Nat × Nat))), take := [], rnil := true, m := 1, fz := false, loops := lookL f52_tab, call := f52_call }
noncomputable def f52_p4_mk (i5 : Nat) (n6 : Nat) (n7 : Int) (n8 : Int) (x : Int × Int × (List (List PC))) : St := ⟨mkS 63 [(0, .w (.one (.ref 0 i5 n6))), (1, I n7), (2, .w (.one (.p (.c (.func (.func 46) #[] #[]))))), (6, I n8), (7, I x.1), (8, I x.2.1)], [.vec 6 x.2.2 true]⟩
set_option maxRecDepth 100000 in
theorem f52_p4e0 (i_13 : Nat) (n_14 : Nat) (n_15 : Int) (n_16 : Int) (n_17 : Int) (n_18 : Int) (es_19 : List (List PC)) (N : St → Prop) (K : TExit → St → Prop) : (f52_p4b0 i_13 n_14 n_15 n_16 n_17 n_18 es_19 (fun z4 z5 z6 => N (f52_p4_mk i_13 n_14 n_15 n_16 (z4, z5, z6))) (fun n0_20 es0_21 => K (.exit 0) ⟨mkS 63 [(0, .w (.one (.ref 0 i_13 n_14))), (1, I n_15), (2, .w (.one (.p (.c (.func (.func 46) #[] #[]))))), (6, I n_16), (7, I n0_20)], [.vec 6 es0_21 true]⟩)) = execT f52_C (nthC (bodies (bodyOf Try.f52)) 0) (f52_p4_mk i_13 n_14 n_15 n_16 (n_17, n_18, es_19)) (loopK N (normK f52_C 4) fun e s => K e (normOut f52_C 4 e s)) := by kernel_rfl
noncomputable def f52_p18_mk (i21 : Nat) (n22 : Nat) (n23 : Int) (n24 : Int) (x : Int × Int × (List (List PC))) : St := ⟨mkS 63 [(0, .w (.one (.ref 0 i21 n22))), (1, I n23), (2, .w (.one (.p (.c (.func (.func 46) #[] #[]))))), (6, I n24), (7, I x.1), (8, I x.2.1)], [.vec 6 x.2.2 true]⟩
set_option maxRecDepth 100000 in
theorem f52_p18e0 (i_29 : Nat) (n_30 : Nat) (n_31 : Int) (n_32 : Int) (n_33 : Int) (n_34 : Int) (es_35 : List (List PC)) (N : St → Prop) (K : TExit → St → Prop) : (f52_p18b0 i_29 n_30 n_31 n_32 n_33 n_34 es_35 (fun z4 z5 z6 => N (f52_p18_mk i_29 n_30 n_31 n_32 (z4, z5, z6))) (fun n0_36 es0_37 => K (.exit 4) ⟨mkS 63 [(0, .w (.one (.ref 0 i_29 n_30))), (1, I n_31), (2, .w (.one (.p (.c (.func (.func 46) #[] #[]))))), (6, I n_32), (7, I n0_36)], [.vec 6 es0_37 true]⟩)) = execT f52_C (nthC (bodies (bodyOf Try.f52)) 2) (f52_p18_mk i_29 n_30 n_31 n_32 (n_33, n_34, es_35)) (loopK N (normK f52_C 18) fun e s => K e (normOut f52_C 18 e s)) := by kernel_rfl
noncomputable def f52_p14_mk (i16 : Nat) (n17 : Nat) (n18 : Int) (x : Int × (List (List PC))) : St := ⟨mkS 63 [(0, .w (.one (.ref 0 i16 n17))), (1, I n18), (2, .w (.one (.p (.c (.func (.func 46) #[] #[]))))), (6, I x.1)], [.vec 6 x.2 true]⟩
set_option maxRecDepth 100000 in
theorem f52_p14e0 (i_43 : Nat) (n_44 : Nat) (n_45 : Int) (n_46 : Int) (es_47 : List (List PC)) (N : St → Prop) (K : TExit → St → Prop) : (f52_p14b0 i_43 n_44 n_45 n_46 es_47 (fun z3 z4 => N (f52_p14_mk i_43 n_44 n_45 (z3, z4))) (fun es0_48 => K (.exit 2) ⟨mkS 63 [], [.vec 6 es0_48 true]⟩)) = execT f52_C (nthC (bodies (bodyOf Try.f52)) 1) (f52_p14_mk i_43 n_44 n_45 (n_46, es_47)) (loopK N (normK f52_C 14) fun e s => K e (normOut f52_C 14 e s)) := by kernel_rfl
set_option maxHeartbeats 4000000 in
theorem f52_p4_ok : LoopOk f52_C (nthC (bodies (bodyOf Try.f52)) 0) := by
  refine LoopOk.of f52_p4L (by kernel_rfl) fun σ K h => ?_
  have hk : loopKey (nthC (bodies (bodyOf Try.f52)) 0) = 4 := by kernel_rfl
  rw [hk] at h ⊢
  generalize hs : normK f52_C 4 σ = s at h
  obtain ⟨tm, hp⟩ := s
  unfold f52_p4L at h
  dsimp only at h
  obtain ⟨xx, yy, rfl, rfl, h⟩ := getS_elim h
  refine iter_of (f52_p4_mk xx.1.1 xx.1.2 xx.2.1 xx.2.2.2.2.1) (fun x N h => ?_) rounds _ σ (hs.trans (by kernel_rfl)) (LoopP.run h)
  obtain ⟨y0, y1, y2⟩ := x
  rw [← f52_p4e0 xx.1.1 xx.1.2 xx.2.1 xx.2.2.2.2.1 y0 y1 y2 N K]
  exact h
set_option maxHeartbeats 4000000 in
theorem f52_p18_ok : LoopOk f52_C (nthC (bodies (bodyOf Try.f52)) 2) := by
  refine LoopOk.of f52_p18L (by kernel_rfl) fun σ K h => ?_
  have hk : loopKey (nthC (bodies (bodyOf Try.f52)) 2) = 18 := by kernel_rfl
  rw [hk] at h ⊢
  generalize hs : normK f52_C 18 σ = s at h
  obtain ⟨tm, hp⟩ := s
  unfold f52_p18L at h
  dsimp only at h
  obtain ⟨xx, yy, rfl, rfl, h⟩ := getS_elim h
  refine iter_of (f52_p18_mk xx.1.1 xx.1.2 xx.2.1 xx.2.2.2.2.1) (fun x N h => ?_) rounds _ σ (hs.trans (by kernel_rfl)) (LoopP.run h)
  obtain ⟨y0, y1, y2⟩ := x
  rw [← f52_p18e0 xx.1.1 xx.1.2 xx.2.1 xx.2.2.2.2.1 y0 y1 y2 N K]
  exact h
set_option maxHeartbeats 4000000 in
theorem f52_p14_ok : LoopOk f52_C (nthC (bodies (bodyOf Try.f52)) 1) := by
  refine LoopOk.of f52_p14L (by kernel_rfl) fun σ K h => ?_
  have hk : loopKey (nthC (bodies (bodyOf Try.f52)) 1) = 14 := by kernel_rfl
  rw [hk] at h ⊢
  generalize hs : normK f52_C 14 σ = s at h
  obtain ⟨tm, hp⟩ := s
  unfold f52_p14L at h
  dsimp only at h
  obtain ⟨xx, yy, rfl, rfl, h⟩ := getS_elim h
  refine iter_of (f52_p14_mk xx.1.1 xx.1.2 xx.2.1) (fun x N h => ?_) rounds _ σ (hs.trans (by kernel_rfl)) (LoopP.run h)
  obtain ⟨y0, y1⟩ := x
  rw [← f52_p14e0 xx.1.1 xx.1.2 xx.2.1 y0 y1 N K]
  exact h
noncomputable def f52_G0 : List TV → List Entry → (TV → List Entry → Prop) → Prop := fun tm hp K => getS [.v (.one (.ref 0)), .v (.one (.int .i64)), .v (.one (.fn 46))] [.vec 6 true] tm hp fun (xx : ((Nat × Nat) × (Int × (Unit × Unit)))) (yy : ((List (List PC)) × Unit)) => f52 xx.1.1 xx.1.2 xx.2.1 yy.1 (fun es0_5 => K undefT [.vec 6 es0_5 true])
set_option maxRecDepth 100000 in
theorem f52_eq (i_49 : Nat) (n_50 : Nat) (n_51 : Int) (es_52 : List (List PC)) (K : TV → List Entry → Prop) : (f52_d i_49 n_50 n_51 es_52 (fun es0_5 => K undefT [.vec 6 es0_5 true])) = funcT f52_C Try.f52 [.w (.one (.ref 0 i_49 n_50)), I n_51, .w (.one (.p (.c (.func (.func 46) #[] #[]))))] [.vec 6 es_52 true] K := by kernel_rfl
set_option maxHeartbeats 4000000 in
theorem f52_ok0 : FnOk Try.prog glob 52 f52_G0 := by
  refine FnOk.of_text (C := f52_C) tab_ok.ok (Known.add f55_G_ok (Known.add f54_G_ok (Known.none))) follows_ok (fn := Try.f52) (by kernel_rfl) (by kernel_rfl) (by kernel_rfl) (fun c hc => ?_) fun tm hp K h => ?_
  · have e : c = bodyOf Try.f52 := Option.some.inj (hc.symm.trans (by kernel_rfl))
    subst e
    exact ⟨LoopsOk.of [nthC (bodies (bodyOf Try.f52)) 0, nthC (bodies (bodyOf Try.f52)) 1, nthC (bodies (bodyOf Try.f52)) 2] (by kernel_rfl) ⟨f52_p4_ok, f52_p14_ok, f52_p18_ok, trivial⟩, TailsOk.of (tab := f52_tab) rfl [] (by kernel_rfl) trivial⟩
  · unfold f52_G0 at h
    obtain ⟨xx, yy, rfl, rfl, h⟩ := getS_elim h
    have e := (f52_eq xx.1.1 xx.1.2 xx.2.1 yy.1 K).trans (show _ = funcT f52_C Try.f52 (mkR _ xx) (mkE _ yy) K by kernel_rfl)
    rw [← e]
    exact h.run
noncomputable abbrev f52_G := f52_G0
theorem f52_G_ok : FnOk Try.prog glob 52 f52_G := f52_ok0
end Go.Eng.N
set_option linter.unusedVariables false
set_option maxRecDepth 100000
open Go Go.Eng Go.Proofs
namespace Go.Eng.N
/-! ### f45: slices.SortStableFunc(()plenum/api.Record,plenum/api.Record) -/
noncomputable def f45_d (i1 : Nat) (n2 : Nat) (es3 : List (List PC)) (k0 : (List (List PC)) → Prop) : Prop := f52 i1 n2 ((n2 : Nat) : Int) es3 (fun es4 => k0 es4)
structure f45 (i1 : Nat) (n2 : Nat) (es3 : List (List PC)) (k0 : (List (List PC)) → Prop) : Prop where
  run : f45_d i1 n2 es3 k0
noncomputable def f45_tab : List (Nat × Told) := []
noncomputable def f45_call : FuncId → List TV → List Entry → (TV → List Entry → Prop) → Prop := addCall 52 f52_G (noCalls)
noncomputable def f45_C : Ctx := { ty := tyOf tab, glob := glob, byRef := byRef, keep := fun k i => lookN [] (lookN [] ([] : List (Nat × List (Nat × List Nat))) k) i, late := lookN [] ([] : List (Nat × List Nat)), nref := lookN [] ([] : List (Nat × List Nat)), nbox := lookN [] ([] : List (Nat × List (Nat × Nat))), take := [], rnil := true, m := 1, fz := false, loops := lookL f45_tab, call := f45_call }
noncomputable def f45_G0 : List TV → List Entry → (TV → List Entry → Prop) → Prop := fun tm hp K => getS [.v (.one (.ref 0)), .v (.one (.fn 46))] [.vec 6 true] tm hp fun (xx : ((Nat × Nat) × (Unit × Unit))) (yy : ((List (List PC)) × Unit)) => f45 xx.1.1 xx.1.2 yy.1 (fun es0_0 => K undefT [.vec 6 es0_0 true])
set_option maxRecDepth 100000 in
theorem f45_eq (i_1 : Nat) (n_2 : Nat) (es_3 : List (List PC)) (K : TV → List Entry → Prop) : (f45_d i_1 n_2 es_3 (fun es0_0 => K undefT [.vec 6 es0_0 true])) = funcT f45_C Try.f45 [.w (.one (.ref 0 i_1 n_2)), .w (.one (.p (.c (.func (.func 46) #[] #[]))))] [.vec 6 es_3 true] K := by kernel_rfl
set_option maxHeartbeats 4000000 in
theorem f45_ok0 : FnOk Try.prog glob 45 f45_G0 := by
  refine FnOk.of_text (C := f45_C) tab_ok.ok (Known.add f52_G_ok (Known.none)) follows_ok (fn := Try.f45) (by kernel_rfl) (by kernel_rfl) (by kernel_rfl) (fun c hc => ?_) fun tm hp K h => ?_
  · have e : c = bodyOf Try.f45 := Option.some.inj (hc.symm.trans (by kernel_rfl))
    subst e
    exact ⟨LoopsOk.of [] (by kernel_rfl) trivial, TailsOk.of (tab := f45_tab) rfl [] (by kernel_rfl) trivial⟩
  · unfold f45_G0 at h
    obtain ⟨xx, yy, rfl, rfl, h⟩ := getS_elim h
    have e := (f45_eq xx.1.1 xx.1.2 yy.1 K).trans (show _ = funcT f45_C Try.f45 (mkR _ xx) (mkE _ yy) K by kernel_rfl)
    rw [← e]
    exact h.run
noncomputable abbrev f45_G := f45_G0
theorem f45_G_ok : FnOk Try.prog glob 45 f45_G := f45_ok0
end Go.Eng.N
set_option linter.unusedVariables false
set_option maxRecDepth 100000
open Go Go.Eng Go.Proofs
namespace Go.Eng.N
/-! ### f48: slices.Compact(()plenum/api.Record,plenum/api.Record) -/
noncomputable def f48_p18b0 (i32 : Nat) (n33 : Nat) (n34 : Int) (i35 : Nat) (n36 : Nat) (n37 : Int) (es38 : List (List PC)) (N0 : Int → Int → (List (List PC)) → Prop) (k0 : Int → (List (List PC)) → Prop) : Prop := bB (decide (n37 < ((n36 : Nat) : Int))) ((0 ≤ n37 ∧ n37 < ((n36 : Nat) : Int)) ∧ cI .i64 (ext (List.getD es38 (i35 + (Int.toNat n37)) []) 0 6) fun n40 r39 => cI .i64 r39 fun n42 r41 => cI .i64 r41 fun n44 r43 => cI .i64 r43 fun n46 r45 => cI .i64 r45 fun n48 r47 => cI .i64 r47 fun n50 r49 => nilC r49 <| (0 ≤ (w64 (n37 - 1)) ∧ (w64 (n37 - 1)) < ((n36 : Nat) : Int)) ∧ cI .i64 (ext (List.getD es38 (i35 + (Int.toNat (w64 (n37 - 1)))) []) 0 6) fun n52 r51 => cI .i64 r51 fun n54 r53 => cI .i64 r53 fun n56 r55 => cI .i64 r55 fun n58 r57 => cI .i64 r57 fun n60 r59 => cI .i64 r59 fun n62 r61 => nilC r61 <| bB (!((n40 == n52) && ((n42 == n54) && ((n44 == n56) && ((n46 == n58) && ((n48 == n60) && ((n50 == n62) && true))))))) ((0 ≤ n37 ∧ n37 < ((n36 : Nat) : Int)) ∧ cI .i64 (ext (List.getD es38 (i35 + (Int.toNat n37)) []) 0 6) fun n64 r63 => cI .i64 r63 fun n66 r65 => cI .i64 r65 fun n68 r67 => cI .i64 r67 fun n70 r69 => cI .i64 r69 fun n72 r71 => cI .i64 r71 fun n74 r73 => nilC r73 <| (0 ≤ n34 ∧ n34 < ((n33 : Nat) : Int)) ∧ (i32 + (Int.toNat n34)) < es38.length ∧ N0 (w64 (n34 + 1)) (w64 (n37 + 1)) (List.set es38 (i32 + (Int.toNat n34)) (splice (List.getD es38 (i32 + (Int.toNat n34)) []) 0 [pI n64, pI n66, pI n68, pI n70, pI n72, pI n74]))) (N0 n34 (w64 (n37 + 1)) es38)) (k0 n34 es38)
noncomputable def f48_p18 (i32 : Nat) (n33 : Nat) (i35 : Nat) (n36 : Nat) (k0 : Int → (List (List PC)) → Prop) : Int × Int × (List (List PC)) → Prop := LoopP fun x N => f48_p18b0 i32 n33 x.1 i35 n36 x.2.1 x.2.2 (fun n34 n37 es38 => N (n34, n37, es38)) k0
noncomputable def f48_p8b0 (i4 : Nat) (n5 : Nat) (n6 : Int) (es7 : List (List PC)) (N0 : Int → Prop) (k0 : Nat → Nat → (List (List PC)) → Prop) (k1 : Unit → Prop) : Prop := bB (decide (n6 < ((n5 : Nat) : Int))) ((0 ≤ n6 ∧ n6 < ((n5 : Nat) : Int)) ∧ cI .i64 (ext (List.getD es7 (i4 + (Int.toNat n6)) []) 0 6) fun n9 r8 => cI .i64 r8 fun n11 r10 => cI .i64 r10 fun n13 r12 => cI .i64 r12 fun n15 r14 => cI .i64 r14 fun n17 r16 => cI .i64 r16 fun n19 r18 => nilC r18 <| (0 ≤ (w64 (n6 - 1)) ∧ (w64 (n6 - 1)) < ((n5 : Nat) : Int)) ∧ cI .i64 (ext (List.getD es7 (i4 + (Int.toNat (w64 (n6 - 1)))) []) 0 6) fun n21 r20 => cI .i64 r20 fun n23 r22 => cI .i64 r22 fun n25 r24 => cI .i64 r24 fun n27 r26 => cI .i64 r26 fun n29 r28 => cI .i64 r28 fun n31 r30 => nilC r30 <| bB ((n9 == n21) && ((n11 == n23) && ((n13 == n25) && ((n15 == n27) && ((n17 == n29) && ((n19 == n31) && true)))))) ((0 ≤ n6 ∧ n6 ≤ ((n5 : Nat) : Int) ∧ ((n5 : Nat) : Int) ≤ ((n5 : Nat) : Int)) ∧ f48_p18 i4 n5 (i4 + (Int.toNat n6)) ((Int.toNat ((n5 : Nat) : Int)) - (Int.toNat n6)) (fun n75 es76 => (0 ≤ n75 ∧ n75 ≤ ((n5 : Nat) : Int) ∧ ((n5 : Nat) : Int) ≤ ((n5 : Nat) : Int)) ∧ ((i4 + (Int.toNat n75)) + ((Int.toNat ((n5 : Nat) : Int)) - (Int.toNat n75))) ≤ es76.length ∧ (0 ≤ (0 : Int) ∧ (0 : Int) ≤ n75 ∧ n75 ≤ ((n5 : Nat) : Int)) ∧ k0 (i4 + 0) ((Int.toNat n75) - 0) (splice es76 (i4 + (Int.toNat n75)) (List.replicate ((Int.toNat ((n5 : Nat) : Int)) - (Int.toNat n75)) [pI 0, pI 0, pI 0, pI 0, pI 0, pI 0]))) (n6, 1, es7)) (N0 (w64 (n6 + 1)))) (k1 ())
noncomputable def f48_p8 (i4 : Nat) (n5 : Nat) (es7 : List (List PC)) (k0 : Nat → Nat → (List (List PC)) → Prop) (k1 : Unit → Prop) : Int → Prop := LoopP fun x N => f48_p8b0 i4 n5 x es7 (fun n6 => N n6) k0 k1
noncomputable def f48_d (i1 : Nat) (n2 : Nat) (es3 : List (List PC)) (k0 : Nat → Nat → (List (List PC)) → Prop) : Prop := bB (decide (((n2 : Nat) : Int) < 2)) (k0 i1 n2 es3) (f48_p8 i1 n2 es3 (fun i77 n78 es79 => k0 i77 n78 es79) (fun (_ : Unit) => k0 i1 n2 es3) 1)
structure f48 (i1 : Nat) (n2 : Nat) (es3 : List (List PC)) (k0 : Nat → Nat → (List (List PC)) → Prop) : Prop where
  run : f48_d i1 n2 es3 k0
noncomputable def f48_p18L : Told := fun s K => match s with
  | ⟨tm, hp⟩ => getS [.v (.one (.ref 0)), .skip 2, .v (.one (.int .i64)), .v (.one (.ref 0)), .v (.one (.int .i64)), .skip 55] [.vec 6 true] tm hp fun (xx : ((Nat × Nat) × (Unit × (Int × ((Nat × Nat) × (Int × (Unit × Unit))))))) (yy : ((List (List PC)) × Unit)) => f48_p18 xx.1.1 xx.1.2 xx.2.2.2.1.1 xx.2.2.2.1.2 (fun n0_0 es0_1 => K (.exit 2) ⟨mkS 61 [(0, .w (.one (.ref 0 xx.1.1 xx.1.2))), (3, I n0_0)], [.vec 6 es0_1 true]⟩) (xx.2.2.1, xx.2.2.2.2.1, yy.1)
noncomputable def f48_p8L : Told := fun s K => match s with
  | ⟨tm, hp⟩ => getS [.v (.one (.ref 0)), .skip 2, .v (.one (.int .i64)), .skip 57] [.vec 6 true] tm hp fun (xx : ((Nat × Nat) × (Unit × (Int × (Unit × Unit))))) (yy : ((List (List PC)) × Unit)) => f48_p8 xx.1.1 xx.1.2 yy.1 (fun i0_2 n0_3 es0_4 => K .ret ⟨mkS 61 [(2, .w (.one (.ref 0 i0_2 n0_3)))], [.vec 6 es0_4 true]⟩) (fun (_ : Unit) => K (.exit 0) ⟨mkS 61 [(0, .w (.one (.ref 0 xx.1.1 xx.1.2)))], [.vec 6 yy.1 true]⟩) xx.2.2.1
noncomputable def f48_tab : List (Nat × Told) := [(18, f48_p18L), (8, f48_p8L)]
noncomputable def f48_call : FuncId → List TV → List Entry → (TV → List Entry → Prop) → Prop := noCalls
noncomputable def f48_C : Ctx := { ty := tyOf tab, glob := glob, byRef := byRef, keep := fun k i => lookN [] (lookN [] ([(18, [(0, [0, 3, 4, 5]), (2, [2]), (3, [0]), (4, [0, 3]), (5, [0, 3])]), (8, [(0, [0, 3]), (2, [2]), (3, [0])])] : List (Nat × List (Nat × List Nat))) k) i, late := lookN [] ([] : List (Nat × List Nat)), nref := lookN [] ([] : List (Nat × List Nat)), nbox := lookN [] ([] : List (Nat × List (Nat × Nat))), take := [], rnil := true, m := 1, fz := false, loops := lookL f48_tab, call := f48_call }
noncomputable def f48_p18_mk (i32 : Nat) (n33 : Nat) (i35 : Nat) (n36 : Nat) (x : Int × Int × (List (List PC))) : St := ⟨mkS 61 [(0, .w (.one (.ref 0 i32 n33))), (3, I x.1), (4, .w (.one (.ref 0 i35 n36))), (5, I x.2.1)], [.vec 6 x.2.2 true]⟩
set_option maxRecDepth 100000 in
theorem f48_p18e0 (i_15 : Nat) (n_16 : Nat) (n_17 : Int) (i_18 : Nat) (n_19 : Nat) (n_20 : Int) (es_21 : List (List PC)) (N : St → Prop) (K : TExit → St → Prop) : (f48_p18b0 i_15 n_16 n_17 i_18 n_19 n_20 es_21 (fun z2 z5 z6 => N (f48_p18_mk i_15 n_16 i_18 n_19 (z2, z5, z6))) (fun n0_22 es0_23 => K (.exit 2) ⟨mkS 61 [(0, .w (.one (.ref 0 i_15 n_16))), (3, I n0_22)], [.vec 6 es0_23 true]⟩)) = execT f48_C (nthC (bodies (bodyOf Try.f48)) 1) (f48_p18_mk i_15 n_16 i_18 n_19 (n_17, n_20, es_21)) (loopK N (normK f48_C 18) fun e s => K e (normOut f48_C 18 e s)) := by kernel_rfl
noncomputable def f48_p8_mk (i4 : Nat) (n5 : Nat) (es7 : List (List PC)) (x : Int) : St := ⟨mkS 61 [(0, .w (.one (.ref 0 i4 n5))), (3, I x)], [.vec 6 es7 true]⟩
set_option maxRecDepth 100000 in
theorem f48_p8e0 (i_28 : Nat) (n_29 : Nat) (n_30 : Int) (es_31 : List (List PC)) (N : St → Prop) (K : TExit → St → Prop) : (f48_p8b0 i_28 n_29 n_30 es_31 (fun z2 => N (f48_p8_mk i_28 n_29 es_31 z2)) (fun i0_32 n0_33 es0_34 => K .ret ⟨mkS 61 [(2, .w (.one (.ref 0 i0_32 n0_33)))], [.vec 6 es0_34 true]⟩) (fun (_ : Unit) => K (.exit 0) ⟨mkS 61 [(0, .w (.one (.ref 0 i_28 n_29)))], [.vec 6 es_31 true]⟩)) = execT f48_C (nthC (bodies (bodyOf Try.f48)) 0) (f48_p8_mk i_28 n_29 es_31 n_30) (loopK N (normK f48_C 8) fun e s => K e (normOut f48_C 8 e s)) := by kernel_rfl
set_option maxHeartbeats 4000000 in
theorem f48_p18_ok : LoopOk f48_C (nthC (bodies (bodyOf Try.f48)) 1) := by
  refine LoopOk.of f48_p18L (by kernel_rfl) fun σ K h => ?_
  have hk : loopKey (nthC (bodies (bodyOf Try.f48)) 1) = 18 := by kernel_rfl
  rw [hk] at h ⊢
  generalize hs : normK f48_C 18 σ = s at h
  obtain ⟨tm, hp⟩ := s
  unfold f48_p18L at h
  dsimp only at h
  obtain ⟨xx, yy, rfl, rfl, h⟩ := getS_elim h
  refine iter_of (f48_p18_mk xx.1.1 xx.1.2 xx.2.2.2.1.1 xx.2.2.2.1.2) (fun x N h => ?_) rounds _ σ (hs.trans (by kernel_rfl)) (LoopP.run h)
  obtain ⟨y0, y1, y2⟩ := x
  rw [← f48_p18e0 xx.1.1 xx.1.2 y0 xx.2.2.2.1.1 xx.2.2.2.1.2 y1 y2 N K]
  exact h
set_option maxHeartbeats 4000000 in
theorem f48_p8_ok : LoopOk f48_C (nthC (bodies (bodyOf Try.f48)) 0) := by
  refine LoopOk.of f48_p8L (by kernel_rfl) fun σ K h => ?_
  have hk : loopKey (nthC (bodies (bodyOf Try.f48)) 0) = 8 := by kernel_rfl
  rw [hk] at h ⊢
  generalize hs : normK f48_C 8 σ = s at h
  obtain ⟨tm, hp⟩ := s
  unfold f48_p8L at h
  dsimp only at h
  obtain ⟨xx, yy, rfl, rfl, h⟩ := getS_elim h
  refine iter_of (f48_p8_mk xx.1.1 xx.1.2 yy.1) (fun x N h => ?_) rounds _ σ (hs.trans (by kernel_rfl)) (LoopP.run h)
  rw [← f48_p8e0 xx.1.1 xx.1.2 x yy.1 N K]
  exact h
noncomputable def f48_G0 : List TV → List Entry → (TV → List Entry → Prop) → Prop := fun tm hp K => getS [.v (.one (.ref 0))] [.vec 6 true] tm hp fun (xx : ((Nat × Nat) × Unit)) (yy : ((List (List PC)) × Unit)) => f48 xx.1.1 xx.1.2 yy.1 (fun i0_5 n0_6 es0_7 => K (.w (.one (.ref 0 i0_5 n0_6))) [.vec 6 es0_7 true])
set_option maxRecDepth 100000 in
theorem f48_eq (i_35 : Nat) (n_36 : Nat) (es_37 : List (List PC)) (K : TV → List Entry → Prop) : (f48_d i_35 n_36 es_37 (fun i0_5 n0_6 es0_7 => K (.w (.one (.ref 0 i0_5 n0_6))) [.vec 6 es0_7 true])) = funcT f48_C Try.f48 [.w (.one (.ref 0 i_35 n_36))] [.vec 6 es_37 true] K := by kernel_rfl
set_option maxHeartbeats 4000000 in
theorem f48_ok0 : FnOk Try.prog glob 48 f48_G0 := by
  refine FnOk.of_text (C := f48_C) tab_ok.ok (Known.none) follows_ok (fn := Try.f48) (by kernel_rfl) (by kernel_rfl) (by kernel_rfl) (fun c hc => ?_) fun tm hp K h => ?_
  · have e : c = bodyOf Try.f48 := Option.some.inj (hc.symm.trans (by kernel_rfl))
    subst e
    exact ⟨LoopsOk.of [nthC (bodies (bodyOf Try.f48)) 0, nthC (bodies (bodyOf Try.f48)) 1] (by kernel_rfl) ⟨f48_p8_ok, f48_p18_ok, trivial⟩, TailsOk.of (tab := f48_tab) rfl [] (by kernel_rfl) trivial⟩
  · unfold f48_G0 at h
    obtain ⟨xx, yy, rfl, rfl, h⟩ := getS_elim h
    have e := (f48_eq xx.1.1 xx.1.2 yy.1 K).trans (show _ = funcT f48_C Try.f48 (mkR _ xx) (mkE _ yy) K by kernel_rfl)
    rw [← e]
    exact h.run
noncomputable abbrev f48_G := f48_G0
theorem f48_G_ok : FnOk Try.prog glob 48 f48_G := f48_ok0
end Go.Eng.N
set_option linter.unusedVariables false
set_option maxRecDepth 100000
open Go Go.Eng Go.Proofs
namespace Go.Eng.N
/-! ### f30: plenum/collect.Merge -/
noncomputable def f30_p24b0 (i11 : Nat) (n12 : Nat) (n13 : Int) (n14 : Int) (i15 : Nat) (n16 : Nat) (n17 : Int) (n18 : Int) (es19 : List (List PC)) (N0 : Int → Int → Int → Prop) (k0 : Int → Int → Prop) : Prop := bB (decide (n18 < n17)) ((0 ≤ n18 ∧ n18 < ((n16 : Nat) : Int)) ∧ cI .i64 (ext (List.getD es19 (i15 + (Int.toNat n18)) []) 0 6) fun n21 r20 => cI .i64 r20 fun n23 r22 => cI .i64 r22 fun n25 r24 => cI .i64 r24 fun n27 r26 => cI .i64 r26 fun n29 r28 => cI .i64 r28 fun n31 r30 => nilC r30 <| f33 n21 n23 n25 n27 n29 n31 (fun n32 => N0 (if n32 < n13 then n32 else n13) (if n21 > n14 then n21 else n14) (w64 (n18 + 1)))) (k0 n13 n14)
noncomputable def f30_p24 (i11 : Nat) (n12 : Nat) (i15 : Nat) (n16 : Nat) (n17 : Int) (es19 : List (List PC)) (k0 : Int → Int → Prop) : Int × Int × Int → Prop := LoopP fun x N => f30_p24b0 i11 n12 x.1 x.2.1 i15 n16 n17 x.2.2 es19 (fun n13 n14 n18 => N (n13, n14, n18)) k0
noncomputable def f30_p55 (n70 : Int) (i71 : Nat) (n72 : Nat) (i73 : Nat) (n74 : Nat) (n75 : Int) (n76 : Int) (es77 : List (List PC)) (n78 : Int) (n79 : Int) (n80 : Int) (n81 : Int) (n82 : Int) (n83 : Int) (es84 : List (List PC)) (k0 : Int → Nat → Nat → (List (List PC)) → Prop) : Prop := (i71 + n72) ≤ es77.length ∧ (n72 + 1) * 48 ≤ 2 ^ 46 ∧ (n72 + 1) ≤ 2 ^ 46 ∧ k0 (w64 (n78 + 1)) 0 (n72 + 1) ((List.take n72 (List.drop i71 es77)) ++ [[pI n78, pI n79, pI n80, pI n81, pI n82, pI n83]])
noncomputable def f30_p42b0 (n42 : Int) (n43 : Int) (i44 : Nat) (n45 : Nat) (i46 : Nat) (n47 : Nat) (n48 : Int) (n49 : Int) (es50 : List (List PC)) (es51 : List (List PC)) (N0 : Int → Nat → Nat → Int → (List (List PC)) → Prop) (k0 : Int → Prop) (k1 : Int → Nat → Nat → (List (List PC)) → Prop) : Prop := bB (decide (n49 < n48)) ((0 ≤ n49 ∧ n49 < ((n47 : Nat) : Int)) ∧ cI .i64 (ext (List.getD es51 (i46 + (Int.toNat n49)) []) 0 6) fun n53 r52 => cI .i64 r52 fun n55 r54 => cI .i64 r54 fun n57 r56 => cI .i64 r56 fun n59 r58 => cI .i64 r58 fun n61 r60 => cI .i64 r60 fun n63 r62 => nilC r62 <| bB (decide (n53 < n42)) (k0 10) (bB (decide (n53 > n42)) (f34 n42 (w64 (n53 - 1)) (fun n64 n65 n66 n67 n68 n69 => (i44 + n45) ≤ es50.length ∧ (n45 + 1) * 48 ≤ 2 ^ 46 ∧ (n45 + 1) ≤ 2 ^ 46 ∧ f30_p55 n43 0 (n45 + 1) i46 n47 n48 n49 ((List.take n45 (List.drop i44 es50)) ++ [[pI n64, pI n65, pI n66, pI n67, pI n68, pI n69]]) n53 n55 n57 n59 n61 n63 es51 (fun n85 i86 n87 es88 => N0 n85 i86 n87 (w64 (n49 + 1)) es88))) (f30_p55 n43 i44 n45 i46 n47 n48 n49 es50 n53 n55 n57 n59 n61 n63 es51 (fun n89 i90 n91 es92 => N0 n89 i90 n91 (w64 (n49 + 1)) es92)))) (k1 n42 i44 n45 es50)
noncomputable def f30_p42 (n43 : Int) (i46 : Nat) (n47 : Nat) (n48 : Int) (es51 : List (List PC)) (k0 : Int → Prop) (k1 : Int → Nat → Nat → (List (List PC)) → Prop) : Int × Nat × Nat × Int × (List (List PC)) → Prop := LoopP fun x N => f30_p42b0 x.1 n43 x.2.1 x.2.2.1 i46 n47 n48 x.2.2.2.1 x.2.2.2.2 es51 (fun n42 i44 n45 n49 es50 => N (n42, i44, n45, n49, es50)) k0 k1
noncomputable def f30_p65 (i104 : Nat) (n105 : Nat) (es106 : List (List PC)) (k0 : Int → Prop) (k1 : Int → Prop) : Prop := f36 (List.take n105 (List.drop i104 es106)) false (fun n107 => bB (decide (n107 ≥ 0)) (k0 15) (k1 0))
noncomputable def f30_d (es1 : List (List PC)) (full2 : Bool) (es3 : List (List PC)) (full4 : Bool) (k0 : (List (List PC)) → Bool → Int → Prop) : Prop := f21 es1 full2 (fun n5 => bB (n5 != 0) (k0 [] true n5) (f21 es3 full4 (fun n6 => bB (n6 != 0) (k0 [] true n6) (f43 0 2 [[.sl 6 es1 full2], [.sl 6 es3 full4]] (fun i7 n8 es9 es10 => bB (((n8 : Nat) : Int) == 0) (k0 [] true 0) (f30_p24 i7 n8 i7 n8 ((n8 : Nat) : Int) es10 (fun n33 n34 => f42 i7 n8 es10 (fun i35 n36 es37 => f45 i35 n36 es37 (fun es38 => f48 i35 n36 es38 (fun i39 n40 es41 => f30_p42 n34 i39 n40 ((n40 : Nat) : Int) es41 (fun n93 => k0 [] true n93) (fun n94 i95 n96 es97 => bB (decide (n94 ≤ n34)) (f34 n94 n34 (fun n98 n99 n100 n101 n102 n103 => (i95 + n96) ≤ es97.length ∧ (n96 + 1) * 48 ≤ 2 ^ 46 ∧ (n96 + 1) ≤ 2 ^ 46 ∧ f30_p65 0 (n96 + 1) ((List.take n96 (List.drop i95 es97)) ++ [[pI n98, pI n99, pI n100, pI n101, pI n102, pI n103]]) (fun n108 => k0 [] true n108) (fun n109 => k0 (List.take (n96 + 1) (List.drop 0 ((List.take n96 (List.drop i95 es97)) ++ [[pI n98, pI n99, pI n100, pI n101, pI n102, pI n103]]))) false n109))) (f30_p65 i95 n96 es97 (fun n110 => k0 [] true n110) (fun n111 => k0 (List.take n96 (List.drop i95 es97)) false n111))) (n33, 0, 0, 0, []))))) (1000000000, 0, 0)))))))
structure f30 (es1 : List (List PC)) (full2 : Bool) (es3 : List (List PC)) (full4 : Bool) (k0 : (List (List PC)) → Bool → Int → Prop) : Prop where
  run : f30_d es1 full2 es3 full4 k0
noncomputable def f30_p24L : Told := fun s K => match s with
  | ⟨tm, hp⟩ => getS [.skip 8, .v (.one (.ref 0)), .v (.one (.int .i64)), .v (.one (.int .i64)), .skip 23, .v (.one (.ref 0)), .v (.one (.int .i64)), .v (.one (.int .i64)), .skip 61] [.vec 6 true] tm hp fun (xx : (Unit × ((Nat × Nat) × (Int × (Int × (Unit × ((Nat × Nat) × (Int × (Int × (Unit × Unit)))))))))) (yy : ((List (List PC)) × Unit)) => f30_p24 xx.2.1.1 xx.2.1.2 xx.2.2.2.2.2.1.1 xx.2.2.2.2.2.1.2 xx.2.2.2.2.2.2.1 yy.1 (fun n0_0 n0_1 => K (.exit 0) ⟨mkS 98 [(8, .w (.one (.ref 0 xx.2.1.1 xx.2.1.2))), (9, I n0_0), (10, I n0_1)], [.vec 6 yy.1 true]⟩) (xx.2.2.1, xx.2.2.2.1, xx.2.2.2.2.2.2.2.1)
noncomputable def f30_p55L : Told := fun s K => match s with
  | ⟨tm, hp⟩ => getS [.skip 10, .v (.one (.int .i64)), .skip 3, .v (.one (.ref 0)), .skip 1, .v (.one (.ptr 1 0 0)), .skip 38, .v (.one (.ref 2)), .v (.one (.int .i64)), .v (.one (.int .i64)), .skip 40] [.vec 6 true, .box [.int .i64, .int .i64, .int .i64, .int .i64, .int .i64, .int .i64], .vec 6 true] tm hp fun (xx : (Unit × (Int × (Unit × ((Nat × Nat) × (Unit × (Unit × (Unit × ((Nat × Nat) × (Int × (Int × (Unit × Unit)))))))))))) (yy : ((List (List PC)) × ((Int × (Int × (Int × (Int × (Int × (Int × Unit)))))) × ((List (List PC)) × Unit)))) => f30_p55 xx.2.1 xx.2.2.2.1.1 xx.2.2.2.1.2 xx.2.2.2.2.2.2.2.1.1 xx.2.2.2.2.2.2.2.1.2 xx.2.2.2.2.2.2.2.2.1 xx.2.2.2.2.2.2.2.2.2.1 yy.1 yy.2.1.1 yy.2.1.2.1 yy.2.1.2.2.1 yy.2.1.2.2.2.1 yy.2.1.2.2.2.2.1 yy.2.1.2.2.2.2.2.1 yy.2.2.1 (fun n0_2 i0_3 n0_4 es0_5 => K .normal ⟨mkS 98 [(9, I n0_2), (10, I xx.2.1), (14, .w (.one (.ref 0 i0_3 n0_4))), (55, .w (.one (.ref 1 xx.2.2.2.2.2.2.2.1.1 xx.2.2.2.2.2.2.2.1.2))), (56, I xx.2.2.2.2.2.2.2.2.1), (57, I xx.2.2.2.2.2.2.2.2.2.1)], [.vec 6 es0_5 true, .vec 6 yy.2.2.1 true]⟩)
noncomputable def f30_p42L : Told := fun s K => match s with
  | ⟨tm, hp⟩ => getS [.skip 9, .v (.one (.int .i64)), .v (.one (.int .i64)), .skip 3, .v (.one (.ref 0)), .skip 40, .v (.one (.ref 1)), .v (.one (.int .i64)), .v (.one (.int .i64)), .skip 40] [.vec 6 true, .vec 6 true] tm hp fun (xx : (Unit × (Int × (Int × (Unit × ((Nat × Nat) × (Unit × ((Nat × Nat) × (Int × (Int × (Unit × Unit))))))))))) (yy : ((List (List PC)) × ((List (List PC)) × Unit))) => f30_p42 xx.2.2.1 xx.2.2.2.2.2.2.1.1 xx.2.2.2.2.2.2.1.2 xx.2.2.2.2.2.2.2.1 yy.2.1 (fun n0_6 => K .ret ⟨mkS 98 [(4, .w (.one (.p (.sl 6 [] true)))), (5, I n0_6)], []⟩) (fun n1_7 i1_8 n1_9 es1_10 => K (.exit 2) ⟨mkS 98 [(9, I n1_7), (10, I xx.2.2.1), (14, .w (.one (.ref 0 i1_8 n1_9)))], [.vec 6 es1_10 true]⟩) (xx.2.1, xx.2.2.2.2.1.1, xx.2.2.2.2.1.2, xx.2.2.2.2.2.2.2.2.1, yy.1)
noncomputable def f30_p65L : Told := fun s K => match s with
  | ⟨tm, hp⟩ => getS [.skip 14, .v (.one (.ref 0)), .skip 83] [.vec 6 true] tm hp fun (xx : (Unit × ((Nat × Nat) × (Unit × Unit)))) (yy : ((List (List PC)) × Unit)) => f30_p65 xx.2.1.1 xx.2.1.2 yy.1 (fun n0_11 => K .ret ⟨mkS 98 [(4, .w (.one (.p (.sl 6 [] true)))), (5, I n0_11)], []⟩) (fun n1_12 => K .ret ⟨mkS 98 [(4, .w (.one (.ref 0 xx.2.1.1 xx.2.1.2))), (5, I n1_12)], [.vec 6 yy.1 true]⟩)
noncomputable def f30_tab : List (Nat × Told) := [(24, f30_p24L), (55, f30_p55L), (42, f30_p42L), (65, f30_p65L)]
noncomputable def f30_call : FuncId → List TV → List Entry → (TV → List Entry → Prop) → Prop := addCall 48 f48_G (addCall 45 f45_G (addCall 43 f43_G (addCall 42 f42_G (addCall 36 f36_G (addCall 34 f34_G (addCall 33 f33_G (addCall 21 f21_G (noCalls))))))))
noncomputable def f30_C : Ctx := { ty := tyOf tab, glob := glob, byRef := byRef, keep := fun k i => lookN [] (lookN [] ([(24, [(0, [8, 9, 10, 34, 35, 36]), (2, [4, 5]), (3, [8, 9, 10])]), (55, [(0, [10, 14, 16, 55, 56, 57]), (1, [9, 10, 14, 55, 56, 57]), (2, [4, 5]), (5, [9, 10, 14]), (6, [9, 10, 14, 55, 56, 57])]), (42, [(0, [9, 10, 14, 55, 56, 57]), (2, [4, 5]), (5, [9, 10, 14])]), (65, [(0, [14]), (1, [4, 5]), (2, [4, 5])])] : List (Nat × List (Nat × List Nat))) k) i, late := lookN [] ([] : List (Nat × List Nat)), nref := lookN [] ([(42, [14])] : List (Nat × List Nat)), nbox := lookN [] ([] : List (Nat × List (Nat × Nat))), take := [], rnil := false, m := 0, fz := true, loops := lookL f30_tab, call := f30_call }
noncomputable def f30_p24_mk (i11 : Nat) (n12 : Nat) (i15 : Nat) (n16 : Nat) (n17 : Int) (es19 : List (List PC)) (x : Int × Int × Int) : St := ⟨mkS 98 [(8, .w (.one (.ref 0 i11 n12))), (9, I x.1), (10, I x.2.1), (34, .w (.one (.ref 0 i15 n16))), (35, I n17), (36, I x.2.2)], [.vec 6 es19 true]⟩
set_option maxRecDepth 100000 in
theorem f30_p24e0 (i_25 : Nat) (n_26 : Nat) (n_27 : Int) (n_28 : Int) (i_29 : Nat) (n_30 : Nat) (n_31 : Int) (n_32 : Int) (es_33 : List (List PC)) (N : St → Prop) (K : TExit → St → Prop) : (f30_p24b0 i_25 n_26 n_27 n_28 i_29 n_30 n_31 n_32 es_33 (fun z2 z3 z7 => N (f30_p24_mk i_25 n_26 i_29 n_30 n_31 es_33 (z2, z3, z7))) (fun n0_34 n0_35 => K (.exit 0) ⟨mkS 98 [(8, .w (.one (.ref 0 i_25 n_26))), (9, I n0_34), (10, I n0_35)], [.vec 6 es_33 true]⟩)) = execT f30_C (nthC (bodies (bodyOf Try.f30)) 0) (f30_p24_mk i_25 n_26 i_29 n_30 n_31 es_33 (n_27, n_28, n_32)) (loopK N (normK f30_C 24) fun e s => K e (normOut f30_C 24 e s)) := by kernel_rfl
set_option maxRecDepth 100000 in
theorem f30_p55e0 (n_36 : Int) (i_37 : Nat) (n_38 : Nat) (i_39 : Nat) (n_40 : Nat) (n_41 : Int) (n_42 : Int) (es_43 : List (List PC)) (n_44 : Int) (n_45 : Int) (n_46 : Int) (n_47 : Int) (n_48 : Int) (n_49 : Int) (es_50 : List (List PC)) (K : TExit → St → Prop) : (f30_p55 n_36 i_37 n_38 i_39 n_40 n_41 n_42 es_43 n_44 n_45 n_46 n_47 n_48 n_49 es_50 (fun n0_51 i0_52 n0_53 es0_54 => K .normal ⟨mkS 98 [(9, I n0_51), (10, I n_36), (14, .w (.one (.ref 0 i0_52 n0_53))), (55, .w (.one (.ref 1 i_39 n_40))), (56, I n_41), (57, I n_42)], [.vec 6 es0_54 true, .vec 6 es_50 true]⟩)) = execT f30_C (nthC (tails (bodyOf Try.f30)) 33) ⟨mkS 98 [(10, I n_36), (14, .w (.one (.ref 0 i_37 n_38))), (16, .w (.one (.ptr 1 0 0))), (55, .w (.one (.ref 2 i_39 n_40))), (56, I n_41), (57, I n_42)], [.vec 6 es_43 true, .box [.p (pI n_44), .p (pI n_45), .p (pI n_46), .p (pI n_47), .p (pI n_48), .p (pI n_49)], .vec 6 es_50 true]⟩ (fun e s => K e (normOut f30_C 55 e s)) := by kernel_rfl
noncomputable def f30_p42_mk (n43 : Int) (i46 : Nat) (n47 : Nat) (n48 : Int) (es51 : List (List PC)) (x : Int × Nat × Nat × Int × (List (List PC))) : St := ⟨mkS 98 [(9, I x.1), (10, I n43), (14, .w (.one (.ref 0 x.2.1 x.2.2.1))), (55, .w (.one (.ref 1 i46 n47))), (56, I n48), (57, I x.2.2.2.1)], [.vec 6 x.2.2.2.2 true, .vec 6 es51 true]⟩
set_option maxRecDepth 100000 in
theorem f30_p42e0 (n_65 : Int) (n_66 : Int) (i_67 : Nat) (n_68 : Nat) (i_69 : Nat) (n_70 : Nat) (n_71 : Int) (n_72 : Int) (es_73 : List (List PC)) (es_74 : List (List PC)) (N : St → Prop) (K : TExit → St → Prop) : (f30_p42b0 n_65 n_66 i_67 n_68 i_69 n_70 n_71 n_72 es_73 es_74 (fun z0 z2 z3 z7 z8 => N (f30_p42_mk n_66 i_69 n_70 n_71 es_74 (z0, z2, z3, z7, z8))) (fun n0_75 => K .ret ⟨mkS 98 [(4, .w (.one (.p (.sl 6 [] true)))), (5, I n0_75)], []⟩) (fun n1_76 i1_77 n1_78 es1_79 => K (.exit 2) ⟨mkS 98 [(9, I n1_76), (10, I n_66), (14, .w (.one (.ref 0 i1_77 n1_78)))], [.vec 6 es1_79 true]⟩)) = execT f30_C (nthC (bodies (bodyOf Try.f30)) 1) (f30_p42_mk n_66 i_69 n_70 n_71 es_74 (n_65, i_67, n_68, n_72, es_73)) (loopK N (normK f30_C 42) fun e s => K e (normOut f30_C 42 e s)) := by kernel_rfl
set_option maxRecDepth 100000 in
theorem f30_p65e0 (i_80 : Nat) (n_81 : Nat) (es_82 : List (List PC)) (K : TExit → St → Prop) : (f30_p65 i_80 n_81 es_82 (fun n0_83 => K .ret ⟨mkS 98 [(4, .w (.one (.p (.sl 6 [] true)))), (5, I n0_83)], []⟩) (fun n1_84 => K .ret ⟨mkS 98 [(4, .w (.one (.ref 0 i_80 n_81))), (5, I n1_84)], [.vec 6 es_82 true]⟩)) = execT f30_C (nthC (tails (bodyOf Try.f30)) 36) ⟨mkS 98 [(14, .w (.one (.ref 0 i_80 n_81)))], [.vec 6 es_82 true]⟩ (fun e s => K e (normOut f30_C 65 e s)) := by kernel_rfl
set_option maxHeartbeats 4000000 in
theorem f30_p24_ok : LoopOk f30_C (nthC (bodies (bodyOf Try.f30)) 0) := by
  refine LoopOk.of f30_p24L (by kernel_rfl) fun σ K h => ?_
  have hk : loopKey (nthC (bodies (bodyOf Try.f30)) 0) = 24 := by kernel_rfl
  rw [hk] at h ⊢
  generalize hs : normK f30_C 24 σ = s at h
  obtain ⟨tm, hp⟩ := s
  unfold f30_p24L at h
  dsimp only at h
  obtain ⟨xx, yy, rfl, rfl, h⟩ := getS_elim h
  refine iter_of (f30_p24_mk xx.2.1.1 xx.2.1.2 xx.2.2.2.2.2.1.1 xx.2.2.2.2.2.1.2 xx.2.2.2.2.2.2.1 yy.1) (fun x N h => ?_) rounds _ σ (hs.trans (by kernel_rfl)) (LoopP.run h)
  obtain ⟨y0, y1, y2⟩ := x
  rw [← f30_p24e0 xx.2.1.1 xx.2.1.2 y0 y1 xx.2.2.2.2.2.1.1 xx.2.2.2.2.2.1.2 xx.2.2.2.2.2.2.1 y2 yy.1 N K]
  exact h
set_option maxHeartbeats 4000000 in
theorem f30_p55_ok : TailOk f30_C (nthC (tails (bodyOf Try.f30)) 33) := by
  refine TailOk.of f30_p55L (by kernel_rfl) fun σ K h => ?_
  have hk : joinKey (nthC (tails (bodyOf Try.f30)) 33) = 55 := by kernel_rfl
  rw [hk] at h ⊢
  generalize hs : normK f30_C 55 σ = s at h
  obtain ⟨tm, hp⟩ := s
  unfold f30_p55L at h
  dsimp only at h
  obtain ⟨xx, yy, rfl, rfl, h⟩ := getS_elim h
  have q : normK f30_C 55 σ = (⟨mkS 98 [(10, I xx.2.1), (14, .w (.one (.ref 0 xx.2.2.2.1.1 xx.2.2.2.1.2))), (16, .w (.one (.ptr 1 0 0))), (55, .w (.one (.ref 2 xx.2.2.2.2.2.2.2.1.1 xx.2.2.2.2.2.2.2.1.2))), (56, I xx.2.2.2.2.2.2.2.2.1), (57, I xx.2.2.2.2.2.2.2.2.2.1)], [.vec 6 yy.1 true, .box [.p (pI yy.2.1.1), .p (pI yy.2.1.2.1), .p (pI yy.2.1.2.2.1), .p (pI yy.2.1.2.2.2.1), .p (pI yy.2.1.2.2.2.2.1), .p (pI yy.2.1.2.2.2.2.2.1)], .vec 6 yy.2.2.1 true]⟩ : St) := hs.trans (by kernel_rfl)
  rw [← hs, q, ← f30_p55e0 xx.2.1 xx.2.2.2.1.1 xx.2.2.2.1.2 xx.2.2.2.2.2.2.2.1.1 xx.2.2.2.2.2.2.2.1.2 xx.2.2.2.2.2.2.2.2.1 xx.2.2.2.2.2.2.2.2.2.1 yy.1 yy.2.1.1 yy.2.1.2.1 yy.2.1.2.2.1 yy.2.1.2.2.2.1 yy.2.1.2.2.2.2.1 yy.2.1.2.2.2.2.2.1 yy.2.2.1 K]
  exact h
set_option maxHeartbeats 4000000 in
theorem f30_p42_ok : LoopOk f30_C (nthC (bodies (bodyOf Try.f30)) 1) := by
  refine LoopOk.of f30_p42L (by kernel_rfl) fun σ K h => ?_
  have hk : loopKey (nthC (bodies (bodyOf Try.f30)) 1) = 42 := by kernel_rfl
  rw [hk] at h ⊢
  generalize hs : normK f30_C 42 σ = s at h
  obtain ⟨tm, hp⟩ := s
  unfold f30_p42L at h
  dsimp only at h
  obtain ⟨xx, yy, rfl, rfl, h⟩ := getS_elim h
  refine iter_of (f30_p42_mk xx.2.2.1 xx.2.2.2.2.2.2.1.1 xx.2.2.2.2.2.2.1.2 xx.2.2.2.2.2.2.2.1 yy.2.1) (fun x N h => ?_) rounds _ σ (hs.trans (by kernel_rfl)) (LoopP.run h)
  obtain ⟨y0, y1, y2, y3, y4⟩ := x
  rw [← f30_p42e0 y0 xx.2.2.1 y1 y2 xx.2.2.2.2.2.2.1.1 xx.2.2.2.2.2.2.1.2 xx.2.2.2.2.2.2.2.1 y3 y4 yy.2.1 N K]
  exact h
set_option maxHeartbeats 4000000 in
theorem f30_p65_ok : TailOk f30_C (nthC (tails (bodyOf Try.f30)) 36) := by
  refine TailOk.of f30_p65L (by kernel_rfl) fun σ K h => ?_
  have hk : joinKey (nthC (tails (bodyOf Try.f30)) 36) = 65 := by kernel_rfl
  rw [hk] at h ⊢
  generalize hs : normK f30_C 65 σ = s at h
  obtain ⟨tm, hp⟩ := s
  unfold f30_p65L at h
  dsimp only at h
  obtain ⟨xx, yy, rfl, rfl, h⟩ := getS_elim h
  have q : normK f30_C 65 σ = (⟨mkS 98 [(14, .w (.one (.ref 0 xx.2.1.1 xx.2.1.2)))], [.vec 6 yy.1 true]⟩ : St) := hs.trans (by kernel_rfl)
  rw [← hs, q, ← f30_p65e0 xx.2.1.1 xx.2.1.2 yy.1 K]
  exact h
noncomputable def f30_G0 : List TV → List Entry → (TV → List Entry → Prop) → Prop := fun tm hp K => getS [.v (.one (.sl 6)), .v (.one (.sl 6))] [] tm hp fun (xx : ((List (List PC) × Bool) × ((List (List PC) × Bool) × Unit))) (yy : Unit) => f30 xx.1.1 xx.1.2 xx.2.1.1 xx.2.1.2 (fun es0_13 full0_14 n0_15 => K (.tup [.one (.p (.sl 6 es0_13 full0_14)), .one (.p (pI n0_15))]) [])
set_option maxRecDepth 100000 in
theorem f30_eq (es_85 : List (List PC)) (full_86 : Bool) (es_87 : List (List PC)) (full_88 : Bool) (K : TV → List Entry → Prop) : (f30_d es_85 full_86 es_87 full_88 (fun es0_13 full0_14 n0_15 => K (.tup [.one (.p (.sl 6 es0_13 full0_14)), .one (.p (pI n0_15))]) [])) = funcT f30_C Try.f30 [.w (.one (.p (.sl 6 es_85 full_86))), .w (.one (.p (.sl 6 es_87 full_88)))] [] K := by kernel_rfl
set_option maxHeartbeats 4000000 in
theorem f30_ok0 : FnOk Try.prog glob 30 f30_G0 := by
  refine FnOk.of_text (C := f30_C) tab_ok.ok (Known.add f48_G_ok (Known.add f45_G_ok (Known.add f43_G_ok (Known.add f42_G_ok (Known.add f36_G_ok (Known.add f34_G_ok (Known.add f33_G_ok (Known.add f21_G_ok (Known.none))))))))) follows_ok (fn := Try.f30) (by kernel_rfl) (by kernel_rfl) (by kernel_rfl) (fun c hc => ?_) fun tm hp K h => ?_
  · have e : c = bodyOf Try.f30 := Option.some.inj (hc.symm.trans (by kernel_rfl))
    subst e
    exact ⟨LoopsOk.of [nthC (bodies (bodyOf Try.f30)) 0, nthC (bodies (bodyOf Try.f30)) 1] (by kernel_rfl) ⟨f30_p24_ok, f30_p42_ok, trivial⟩, TailsOk.of (tab := f30_tab) rfl [nthC (tails (bodyOf Try.f30)) 33, nthC (tails (bodyOf Try.f30)) 36] (by kernel_rfl) ⟨f30_p55_ok, f30_p65_ok, trivial⟩⟩
  · unfold f30_G0 at h
    obtain ⟨xx, yy, rfl, rfl, h⟩ := getS_elim h
    have e := (f30_eq xx.1.1 xx.1.2 xx.2.1.1 xx.2.1.2 K).trans (show _ = funcT f30_C Try.f30 (mkR _ xx) (mkE _ yy) K by kernel_rfl)
    rw [← e]
    exact h.run
noncomputable abbrev f30_G := f30_G0
theorem f30_G_ok : FnOk Try.prog glob 30 f30_G := f30_ok0
end Go.Eng.N
set_option linter.unusedVariables false
set_option maxRecDepth 100000
open Go Go.Eng Go.Proofs
namespace Go.Eng.N
/-! ### f22: plenum/plenumref42.First -/
noncomputable def f22_d (n1 : Int) (n2 : Int) (n3 : Int) (n4 : Int) (n5 : Int) (n6 : Int) (k0 : Int → Prop) : Prop := bB (decide (n6 > 0)) (k0 (w64 ((w64 (n1 - n6)) + 1))) (k0 n1)
structure f22 (n1 : Int) (n2 : Int) (n3 : Int) (n4 : Int) (n5 : Int) (n6 : Int) (k0 : Int → Prop) : Prop where
  run : f22_d n1 n2 n3 n4 n5 n6 k0
noncomputable def f22_tab : List (Nat × Told) := []
noncomputable def f22_call : FuncId → List TV → List Entry → (TV → List Entry → Prop) → Prop := noCalls
noncomputable def f22_C : Ctx := { ty := tyOf tab, glob := glob, byRef := byRef, keep := fun k i => lookN [] (lookN [] ([] : List (Nat × List (Nat × List Nat))) k) i, late := lookN [] ([] : List (Nat × List Nat)), nref := lookN [] ([] : List (Nat × List Nat)), nbox := lookN [] ([] : List (Nat × List (Nat × Nat))), take := [], rnil := false, m := 0, fz := true, loops := lookL f22_tab, call := f22_call }
noncomputable def f22_G0 : List TV → List Entry → (TV → List Entry → Prop) → Prop := fun tm hp K => getS [.v (.pagg [.int .i64, .int .i64, .int .i64, .int .i64, .int .i64, .int .i64])] [] tm hp fun (xx : ((Int × (Int × (Int × (Int × (Int × (Int × Unit)))))) × Unit)) (yy : Unit) => f22 xx.1.1 xx.1.2.1 xx.1.2.2.1 xx.1.2.2.2.1 xx.1.2.2.2.2.1 xx.1.2.2.2.2.2.1 (fun n0_0 => K (I n0_0) [])
set_option maxRecDepth 100000 in
theorem f22_eq (n_1 : Int) (n_2 : Int) (n_3 : Int) (n_4 : Int) (n_5 : Int) (n_6 : Int) (K : TV → List Entry → Prop) : (f22_d n_1 n_2 n_3 n_4 n_5 n_6 (fun n0_0 => K (I n0_0) [])) = funcT f22_C Try.f22 [.w (.pagg [pI n_1, pI n_2, pI n_3, pI n_4, pI n_5, pI n_6])] [] K := by kernel_rfl
set_option maxHeartbeats 4000000 in
theorem f22_ok0 : FnOk Try.prog glob 22 f22_G0 := by
  refine FnOk.of_text (C := f22_C) tab_ok.ok (Known.none) follows_ok (fn := Try.f22) (by kernel_rfl) (by kernel_rfl) (by kernel_rfl) (fun c hc => ?_) fun tm hp K h => ?_
  · have e : c = bodyOf Try.f22 := Option.some.inj (hc.symm.trans (by kernel_rfl))
    subst e
    exact ⟨LoopsOk.of [] (by kernel_rfl) trivial, TailsOk.of (tab := f22_tab) rfl [] (by kernel_rfl) trivial⟩
  · unfold f22_G0 at h
    obtain ⟨xx, yy, rfl, rfl, h⟩ := getS_elim h
    have e := (f22_eq xx.1.1 xx.1.2.1 xx.1.2.2.1 xx.1.2.2.2.1 xx.1.2.2.2.2.1 xx.1.2.2.2.2.2.1 K).trans (show _ = funcT f22_C Try.f22 (mkR _ xx) (mkE _ yy) K by kernel_rfl)
    rw [← e]
    exact h.run
noncomputable abbrev f22_G := f22_G0
theorem f22_G_ok : FnOk Try.prog glob 22 f22_G := f22_ok0
end Go.Eng.N
set_option linter.unusedVariables false
set_option maxRecDepth 100000
open Go Go.Eng Go.Proofs
namespace Go.Eng.N
/-! ### f39: plenum/plenumref42.Rising -/
noncomputable def f39_p6b0 (es3 : List (List PC)) (full4 : Bool) (n5 : Int) (n6 : Int) (N0 : Int → Int → Prop) (k0 : Bool → Prop) (k1 : Unit → Prop) : Prop := bB (decide (n6 < ((es3.length : Nat) : Int))) ((0 ≤ n6 ∧ n6 < ((es3.length : Nat) : Int)) ∧ oI .i64 (ext (List.getD es3 (Int.toNat n6) []) 5 1) fun n7 => bB (n7 == 0) ((0 ≤ n6 ∧ n6 < ((es3.length : Nat) : Int)) ∧ oI .i64 (ext (List.getD es3 (Int.toNat n6) []) 1 1) fun n8 => bB (decide (n8 < n5)) (k0 false) ((0 ≤ n6 ∧ n6 < ((es3.length : Nat) : Int)) ∧ oI .i64 (ext (List.getD es3 (Int.toNat n6) []) 1 1) fun n9 => N0 n9 (w64 (n6 + 1)))) (N0 n5 (w64 (n6 + 1)))) (k1 ())
noncomputable def f39_p6 (es3 : List (List PC)) (full4 : Bool) (k0 : Bool → Prop) (k1 : Unit → Prop) : Int × Int → Prop := LoopP fun x N => f39_p6b0 es3 full4 x.1 x.2 (fun n5 n6 => N (n5, n6)) k0 k1
noncomputable def f39_d (es1 : List (List PC)) (full2 : Bool) (k0 : Bool → Prop) : Prop := f39_p6 es1 full2 (fun b10 => k0 b10) (fun (_ : Unit) => k0 true) (0, 0)
structure f39 (es1 : List (List PC)) (full2 : Bool) (k0 : Bool → Prop) : Prop where
  run : f39_d es1 full2 k0
noncomputable def f39_p6L : Told := fun s K => match s with
  | ⟨tm, hp⟩ => getS [.v (.one (.sl 6)), .skip 2, .v (.one (.int .i64)), .v (.one (.int .i64)), .skip 24] [] tm hp fun (xx : ((List (List PC) × Bool) × (Unit × (Int × (Int × (Unit × Unit)))))) (yy : Unit) => f39_p6 xx.1.1 xx.1.2 (fun b0_0 => K .ret ⟨mkS 29 [(2, B b0_0)], []⟩) (fun (_ : Unit) => K (.exit 0) ⟨mkS 29 [], []⟩) (xx.2.2.1, xx.2.2.2.1)
noncomputable def f39_tab : List (Nat × Told) := [(6, f39_p6L)]
noncomputable def f39_call : FuncId → List TV → List Entry → (TV → List Entry → Prop) → Prop := noCalls
noncomputable def f39_C : Ctx := { ty := tyOf tab, glob := glob, byRef := byRef, keep := fun k i => lookN [] (lookN [] ([(6, [(0, [0, 3, 4]), (2, [2]), (3, [])])] : List (Nat × List (Nat × List Nat))) k) i, late := lookN [] ([] : List (Nat × List Nat)), nref := lookN [] ([] : List (Nat × List Nat)), nbox := lookN [] ([] : List (Nat × List (Nat × Nat))), take := [], rnil := false, m := 0, fz := true, loops := lookL f39_tab, call := f39_call }
noncomputable def f39_p6_mk (es3 : List (List PC)) (full4 : Bool) (x : Int × Int) : St := ⟨mkS 29 [(0, .w (.one (.p (.sl 6 es3 full4)))), (3, I x.1), (4, I x.2)], []⟩
set_option maxRecDepth 100000 in
theorem f39_p6e0 (es_6 : List (List PC)) (full_7 : Bool) (n_8 : Int) (n_9 : Int) (N : St → Prop) (K : TExit → St → Prop) : (f39_p6b0 es_6 full_7 n_8 n_9 (fun z2 z3 => N (f39_p6_mk es_6 full_7 (z2, z3))) (fun b0_10 => K .ret ⟨mkS 29 [(2, B b0_10)], []⟩) (fun (_ : Unit) => K (.exit 0) ⟨mkS 29 [], []⟩)) = execT f39_C (nthC (bodies (bodyOf Try.f39)) 0) (f39_p6_mk es_6 full_7 (n_8, n_9)) (loopK N (normK f39_C 6) fun e s => K e (normOut f39_C 6 e s)) := by kernel_rfl
set_option maxHeartbeats 4000000 in
theorem f39_p6_ok : LoopOk f39_C (nthC (bodies (bodyOf Try.f39)) 0) := by
  refine LoopOk.of f39_p6L (by kernel_rfl) fun σ K h => ?_
  have hk : loopKey (nthC (bodies (bodyOf Try.f39)) 0) = 6 := by kernel_rfl
  rw [hk] at h ⊢
  generalize hs : normK f39_C 6 σ = s at h
  obtain ⟨tm, hp⟩ := s
  unfold f39_p6L at h
  dsimp only at h
  obtain ⟨xx, yy, rfl, rfl, h⟩ := getS_elim h
  refine iter_of (f39_p6_mk xx.1.1 xx.1.2) (fun x N h => ?_) rounds _ σ (hs.trans (by kernel_rfl)) (LoopP.run h)
  obtain ⟨y0, y1⟩ := x
  rw [← f39_p6e0 xx.1.1 xx.1.2 y0 y1 N K]
  exact h
noncomputable def f39_G0 : List TV → List Entry → (TV → List Entry → Prop) → Prop := fun tm hp K => getS [.v (.one (.sl 6))] [] tm hp fun (xx : ((List (List PC) × Bool) × Unit)) (yy : Unit) => f39 xx.1.1 xx.1.2 (fun b0_1 => K (B b0_1) [])
set_option maxRecDepth 100000 in
theorem f39_eq (es_11 : List (List PC)) (full_12 : Bool) (K : TV → List Entry → Prop) : (f39_d es_11 full_12 (fun b0_1 => K (B b0_1) [])) = funcT f39_C Try.f39 [.w (.one (.p (.sl 6 es_11 full_12)))] [] K := by kernel_rfl
set_option maxHeartbeats 4000000 in
theorem f39_ok0 : FnOk Try.prog glob 39 f39_G0 := by
  refine FnOk.of_text (C := f39_C) tab_ok.ok (Known.none) follows_ok (fn := Try.f39) (by kernel_rfl) (by kernel_rfl) (by kernel_rfl) (fun c hc => ?_) fun tm hp K h => ?_
  · have e : c = bodyOf Try.f39 := Option.some.inj (hc.symm.trans (by kernel_rfl))
    subst e
    exact ⟨LoopsOk.of [nthC (bodies (bodyOf Try.f39)) 0] (by kernel_rfl) ⟨f39_p6_ok, trivial⟩, TailsOk.of (tab := f39_tab) rfl [] (by kernel_rfl) trivial⟩
  · unfold f39_G0 at h
    obtain ⟨xx, yy, rfl, rfl, h⟩ := getS_elim h
    have e := (f39_eq xx.1.1 xx.1.2 K).trans (show _ = funcT f39_C Try.f39 (mkR _ xx) (mkE _ yy) K by kernel_rfl)
    rw [← e]
    exact h.run
noncomputable abbrev f39_G := f39_G0
theorem f39_G_ok : FnOk Try.prog glob 39 f39_G := f39_ok0
end Go.Eng.N
set_option linter.unusedVariables false
set_option maxRecDepth 100000
open Go Go.Eng Go.Proofs
namespace Go.Eng.N
/-! ### f40: plenum/plenumref42.in -/
noncomputable def f40_d (n1 : Int) (n2 : Int) (n3 : Int) (k0 : Bool → Prop) : Prop := bB (decide (n1 ≥ n2)) (k0 (decide (n1 ≤ n3))) (k0 false)
structure f40 (n1 : Int) (n2 : Int) (n3 : Int) (k0 : Bool → Prop) : Prop where
  run : f40_d n1 n2 n3 k0
noncomputable def f40_tab : List (Nat × Told) := []
noncomputable def f40_call : FuncId → List TV → List Entry → (TV → List Entry → Prop) → Prop := noCalls
noncomputable def f40_C : Ctx := { ty := tyOf tab, glob := glob, byRef := byRef, keep := fun k i => lookN [] (lookN [] ([] : List (Nat × List (Nat × List Nat))) k) i, late := lookN [] ([] : List (Nat × List Nat)), nref := lookN [] ([] : List (Nat × List Nat)), nbox := lookN [] ([] : List (Nat × List (Nat × Nat))), take := [], rnil := false, m := 0, fz := true, loops := lookL f40_tab, call := f40_call }
noncomputable def f40_G0 : List TV → List Entry → (TV → List Entry → Prop) → Prop := fun tm hp K => getS [.v (.one (.int .i64)), .v (.one (.int .i64)), .v (.one (.int .i64))] [] tm hp fun (xx : (Int × (Int × (Int × Unit)))) (yy : Unit) => f40 xx.1 xx.2.1 xx.2.2.1 (fun b0_0 => K (B b0_0) [])
set_option maxRecDepth 100000 in
theorem f40_eq (n_1 : Int) (n_2 : Int) (n_3 : Int) (K : TV → List Entry → Prop) : (f40_d n_1 n_2 n_3 (fun b0_0 => K (B b0_0) [])) = funcT f40_C Try.f40 [I n_1, I n_2, I n_3] [] K := by kernel_rfl
set_option maxHeartbeats 4000000 in
theorem f40_ok0 : FnOk Try.prog glob 40 f40_G0 := by
  refine FnOk.of_text (C := f40_C) tab_ok.ok (Known.none) follows_ok (fn := Try.f40) (by kernel_rfl) (by kernel_rfl) (by kernel_rfl) (fun c hc => ?_) fun tm hp K h => ?_
  · have e : c = bodyOf Try.f40 := Option.some.inj (hc.symm.trans (by kernel_rfl))
    subst e
    exact ⟨LoopsOk.of [] (by kernel_rfl) trivial, TailsOk.of (tab := f40_tab) rfl [] (by kernel_rfl) trivial⟩
  · unfold f40_G0 at h
    obtain ⟨xx, yy, rfl, rfl, h⟩ := getS_elim h
    have e := (f40_eq xx.1 xx.2.1 xx.2.2.1 K).trans (show _ = funcT f40_C Try.f40 (mkR _ xx) (mkE _ yy) K by kernel_rfl)
    rw [← e]
    exact h.run
noncomputable abbrev f40_G := f40_G0
theorem f40_G_ok : FnOk Try.prog glob 40 f40_G := f40_ok0
end Go.Eng.N
