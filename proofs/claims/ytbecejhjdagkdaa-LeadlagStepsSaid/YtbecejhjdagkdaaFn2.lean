/- What the functions that the law reaches compute, by the engine; written by program. -/
import Derived.Test.YtbecejhjdagkdaaFn1
set_option linter.unusedVariables false
set_option maxRecDepth 100000
open Go Go.Eng Go.Proofs
namespace Go.Eng.N
/-! ### f23: plenum/plenumref55.Running -/
noncomputable def f23_p6b0 (i6 : Nat) (n7 : Nat) (n8 : Int) (es9 : List (List PC)) (i10 : Nat) (n11 : Nat) (n12 : Int) (n13 : Int) (es14 : List (List PC)) (N0 : Nat → Nat → Int → (List (List PC)) → Prop) (k0 : Nat → Nat → (List (List PC)) → Prop) : Prop := bB (decide (n8 < ((n11 : Nat) : Int))) ((0 ≤ n8 ∧ n8 < ((n11 : Nat) : Int)) ∧ oB (ext (List.getD es9 (i10 + (Int.toNat n8)) []) 1 1) fun b15 => bB b15 ((i6 + n7) ≤ es14.length ∧ (n7 + 1) * 8 ≤ 2 ^ 46 ∧ (n7 + 1) ≤ 2 ^ 46 ∧ N0 0 (n7 + 1) (w64 (n8 + 1)) ((List.take n7 (List.drop i6 es14)) ++ [[pI n8]])) (N0 i6 n7 (w64 (n8 + 1)) es14)) (k0 i6 n7 es14)
noncomputable def f23_p6 (es9 : List (List PC)) (i10 : Nat) (n11 : Nat) (n12 : Int) (n13 : Int) (k0 : Nat → Nat → (List (List PC)) → Prop) : Nat × Nat × Int × (List (List PC)) → Prop := LoopP fun x N => f23_p6b0 x.1 x.2.1 x.2.2.1 es9 i10 n11 n12 n13 x.2.2.2 (fun i6 n7 n8 es14 => N (i6, n7, n8, es14)) k0
noncomputable def f23_d (i1 : Nat) (n2 : Nat) (n3 : Int) (n4 : Int) (es5 : List (List PC)) (k0 : Nat → Nat → (List (List PC)) → (List (List PC)) → Prop) : Prop := f23_p6 es5 i1 n2 n3 n4 (fun i16 n17 es18 => k0 i16 n17 es5 es18) (0, 0, 0, [])
structure f23 (i1 : Nat) (n2 : Nat) (n3 : Int) (n4 : Int) (es5 : List (List PC)) (k0 : Nat → Nat → (List (List PC)) → (List (List PC)) → Prop) : Prop where
  run : f23_d i1 n2 n3 n4 es5 k0
noncomputable def f23_p6L : Told := fun s K => match s with
  | ⟨tm, hp⟩ => getS [.skip 1, .v (.one (.ptr 1 0 0)), .skip 1, .v (.one (.ref 2)), .v (.one (.int .i64)), .skip 19] [.vec 3 true, .box [.ref 0, .int .i64, .int .i64], .vec 1 true] tm hp fun (xx : (Unit × (Unit × (Unit × ((Nat × Nat) × (Int × (Unit × Unit))))))) (yy : ((List (List PC)) × (((Nat × Nat) × (Int × (Int × Unit))) × ((List (List PC)) × Unit)))) => f23_p6 yy.1 yy.2.1.1.1 yy.2.1.1.2 yy.2.1.2.1 yy.2.1.2.2.1 (fun i0_0 n0_1 es0_2 => K (.exit 0) ⟨mkS 24 [(3, .w (.one (.ref 1 i0_0 n0_1)))], [.vec 3 yy.1 true, .vec 1 es0_2 true]⟩) (xx.2.2.2.1.1, xx.2.2.2.1.2, xx.2.2.2.2.1, yy.2.2.1)
noncomputable def f23_tab : List (Nat × Told) := [(6, f23_p6L)]
noncomputable def f23_call : FuncId → List TV → List Entry → (TV → List Entry → Prop) → Prop := noCalls
noncomputable def f23_C : Ctx := { ty := tyOf tab, glob := glob, byRef := byRef, keep := fun k i => lookN [] (lookN [] ([(6, [(0, [1, 3, 4]), (2, [2]), (3, [3])])] : List (Nat × List (Nat × List Nat))) k) i, late := lookN [] ([] : List (Nat × List Nat)), nref := lookN [] ([] : List (Nat × List Nat)), nbox := lookN [] ([] : List (Nat × List (Nat × Nat))), take := [], rnil := true, m := 1, fz := false, loops := lookL f23_tab, call := f23_call }
noncomputable def f23_p6_mk (es9 : List (List PC)) (i10 : Nat) (n11 : Nat) (n12 : Int) (n13 : Int) (x : Nat × Nat × Int × (List (List PC))) : St := ⟨mkS 24 [(1, .w (.one (.ptr 1 0 0))), (3, .w (.one (.ref 2 x.1 x.2.1))), (4, I x.2.2.1)], [.vec 3 es9 true, .box [.ref 0 i10 n11, .p (pI n12), .p (pI n13)], .vec 1 x.2.2.2 true]⟩
set_option maxRecDepth 100000 in
theorem f23_p6e0 (i_16 : Nat) (n_17 : Nat) (n_18 : Int) (es_19 : List (List PC)) (i_20 : Nat) (n_21 : Nat) (n_22 : Int) (n_23 : Int) (es_24 : List (List PC)) (N : St → Prop) (K : TExit → St → Prop) : (f23_p6b0 i_16 n_17 n_18 es_19 i_20 n_21 n_22 n_23 es_24 (fun z0 z1 z2 z8 => N (f23_p6_mk es_19 i_20 n_21 n_22 n_23 (z0, z1, z2, z8))) (fun i0_25 n0_26 es0_27 => K (.exit 0) ⟨mkS 24 [(3, .w (.one (.ref 1 i0_25 n0_26)))], [.vec 3 es_19 true, .vec 1 es0_27 true]⟩)) = execT f23_C (nthC (bodies (bodyOf Try.f23)) 0) (f23_p6_mk es_19 i_20 n_21 n_22 n_23 (i_16, n_17, n_18, es_24)) (loopK N (normK f23_C 6) fun e s => K e (normOut f23_C 6 e s)) := by kernel_rfl
set_option maxHeartbeats 4000000 in
theorem f23_p6_ok : LoopOk f23_C (nthC (bodies (bodyOf Try.f23)) 0) := by
  refine LoopOk.of f23_p6L (by kernel_rfl) fun σ K h => ?_
  have hk : loopKey (nthC (bodies (bodyOf Try.f23)) 0) = 6 := by kernel_rfl
  rw [hk] at h ⊢
  generalize hs : normK f23_C 6 σ = s at h
  obtain ⟨tm, hp⟩ := s
  unfold f23_p6L at h
  dsimp only at h
  obtain ⟨xx, yy, rfl, rfl, h⟩ := getS_elim h
  refine iter_of (f23_p6_mk yy.1 yy.2.1.1.1 yy.2.1.1.2 yy.2.1.2.1 yy.2.1.2.2.1) (fun x N h => ?_) rounds _ σ (hs.trans (by kernel_rfl)) (LoopP.run h)
  obtain ⟨y0, y1, y2, y3⟩ := x
  rw [← f23_p6e0 y0 y1 y2 yy.1 yy.2.1.1.1 yy.2.1.1.2 yy.2.1.2.1 yy.2.1.2.2.1 y3 N K]
  exact h
noncomputable def f23_G0 : List TV → List Entry → (TV → List Entry → Prop) → Prop := fun tm hp K => getS [.v (.agg [.ref 0, .int .i64, .int .i64])] [.vec 3 true] tm hp fun (xx : (((Nat × Nat) × (Int × (Int × Unit))) × Unit)) (yy : ((List (List PC)) × Unit)) => f23 xx.1.1.1 xx.1.1.2 xx.1.2.1 xx.1.2.2.1 yy.1 (fun i0_3 n0_4 es0_5 es0_6 => K (.w (.one (.ref 1 i0_3 n0_4))) [.vec 3 es0_5 true, .vec 1 es0_6 true])
set_option maxRecDepth 100000 in
theorem f23_eq (i_28 : Nat) (n_29 : Nat) (n_30 : Int) (n_31 : Int) (es_32 : List (List PC)) (K : TV → List Entry → Prop) : (f23_d i_28 n_29 n_30 n_31 es_32 (fun i0_3 n0_4 es0_5 es0_6 => K (.w (.one (.ref 1 i0_3 n0_4))) [.vec 3 es0_5 true, .vec 1 es0_6 true])) = funcT f23_C Try.f23 [.w (.agg [.ref 0 i_28 n_29, .p (pI n_30), .p (pI n_31)])] [.vec 3 es_32 true] K := by kernel_rfl
set_option maxHeartbeats 4000000 in
theorem f23_ok0 : FnOk Try.prog glob 23 f23_G0 := by
  refine FnOk.of_text (C := f23_C) tab_ok.ok (Known.none) follows_ok (fn := Try.f23) (by kernel_rfl) (by kernel_rfl) (by kernel_rfl) (fun c hc => ?_) fun tm hp K h => ?_
  · have e : c = bodyOf Try.f23 := Option.some.inj (hc.symm.trans (by kernel_rfl))
    subst e
    exact ⟨LoopsOk.of [nthC (bodies (bodyOf Try.f23)) 0] (by kernel_rfl) ⟨f23_p6_ok, trivial⟩, TailsOk.of (tab := f23_tab) rfl [] (by kernel_rfl) trivial⟩
  · unfold f23_G0 at h
    obtain ⟨xx, yy, rfl, rfl, h⟩ := getS_elim h
    have e := (f23_eq xx.1.1.1 xx.1.1.2 xx.1.2.1 xx.1.2.2.1 yy.1 K).trans (show _ = funcT f23_C Try.f23 (mkR _ xx) (mkE _ yy) K by kernel_rfl)
    rw [← e]
    exact h.run
noncomputable abbrev f23_G := f23_G0
theorem f23_G_ok : FnOk Try.prog glob 23 f23_G := f23_ok0
end Go.Eng.N
set_option linter.unusedVariables false
set_option maxRecDepth 100000
open Go Go.Eng Go.Proofs
namespace Go.Eng.N
/-! ### f23_1: plenum/plenumref55.Running -/
noncomputable def f23_1_p6b0 (i5 : Nat) (n6 : Nat) (n7 : Int) (es8 : List (List PC)) (full9 : Bool) (n10 : Int) (n11 : Int) (es12 : List (List PC)) (N0 : Nat → Nat → Int → (List (List PC)) → Prop) (k0 : Nat → Nat → (List (List PC)) → Prop) : Prop := bB (decide (n7 < ((es8.length : Nat) : Int))) ((0 ≤ n7 ∧ n7 < ((es8.length : Nat) : Int)) ∧ oB (ext (List.getD es8 (Int.toNat n7) []) 1 1) fun b13 => bB b13 ((i5 + n6) ≤ es12.length ∧ (n6 + 1) * 8 ≤ 2 ^ 46 ∧ (n6 + 1) ≤ 2 ^ 46 ∧ N0 0 (n6 + 1) (w64 (n7 + 1)) ((List.take n6 (List.drop i5 es12)) ++ [[pI n7]])) (N0 i5 n6 (w64 (n7 + 1)) es12)) (k0 i5 n6 es12)
noncomputable def f23_1_p6 (es8 : List (List PC)) (full9 : Bool) (n10 : Int) (n11 : Int) (k0 : Nat → Nat → (List (List PC)) → Prop) : Nat × Nat × Int × (List (List PC)) → Prop := LoopP fun x N => f23_1_p6b0 x.1 x.2.1 x.2.2.1 es8 full9 n10 n11 x.2.2.2 (fun i5 n6 n7 es12 => N (i5, n6, n7, es12)) k0
noncomputable def f23_1_d (es1 : List (List PC)) (full2 : Bool) (n3 : Int) (n4 : Int) (k0 : Nat → Nat → (List (List PC)) → Prop) : Prop := f23_1_p6 es1 full2 n3 n4 (fun i14 n15 es16 => k0 i14 n15 es16) (0, 0, 0, [])
structure f23_1 (es1 : List (List PC)) (full2 : Bool) (n3 : Int) (n4 : Int) (k0 : Nat → Nat → (List (List PC)) → Prop) : Prop where
  run : f23_1_d es1 full2 n3 n4 k0
noncomputable def f23_1_p6L : Told := fun s K => match s with
  | ⟨tm, hp⟩ => getS [.skip 1, .v (.one (.ptr 0 0 0)), .skip 1, .v (.one (.ref 1)), .v (.one (.int .i64)), .skip 19] [.box [.sl 3, .int .i64, .int .i64], .vec 1 true] tm hp fun (xx : (Unit × (Unit × (Unit × ((Nat × Nat) × (Int × (Unit × Unit))))))) (yy : (((List (List PC) × Bool) × (Int × (Int × Unit))) × ((List (List PC)) × Unit))) => f23_1_p6 yy.1.1.1 yy.1.1.2 yy.1.2.1 yy.1.2.2.1 (fun i0_0 n0_1 es0_2 => K (.exit 0) ⟨mkS 24 [(3, .w (.one (.ref 0 i0_0 n0_1)))], [.vec 1 es0_2 true]⟩) (xx.2.2.2.1.1, xx.2.2.2.1.2, xx.2.2.2.2.1, yy.2.1)
noncomputable def f23_1_tab : List (Nat × Told) := [(6, f23_1_p6L)]
noncomputable def f23_1_call : FuncId → List TV → List Entry → (TV → List Entry → Prop) → Prop := noCalls
noncomputable def f23_1_C : Ctx := { ty := tyOf tab, glob := glob, byRef := byRef, keep := fun k i => lookN [] (lookN [] ([(6, [(0, [1, 3, 4]), (2, [2]), (3, [3])])] : List (Nat × List (Nat × List Nat))) k) i, late := lookN [] ([] : List (Nat × List Nat)), nref := lookN [] ([] : List (Nat × List Nat)), nbox := lookN [] ([] : List (Nat × List (Nat × Nat))), take := [], rnil := true, m := 0, fz := false, loops := lookL f23_1_tab, call := f23_1_call }
noncomputable def f23_1_p6_mk (es8 : List (List PC)) (full9 : Bool) (n10 : Int) (n11 : Int) (x : Nat × Nat × Int × (List (List PC))) : St := ⟨mkS 24 [(1, .w (.one (.ptr 0 0 0))), (3, .w (.one (.ref 1 x.1 x.2.1))), (4, I x.2.2.1)], [.box [.p (.sl 3 es8 full9), .p (pI n10), .p (pI n11)], .vec 1 x.2.2.2 true]⟩
set_option maxRecDepth 100000 in
theorem f23_1_p6e0 (i_14 : Nat) (n_15 : Nat) (n_16 : Int) (es_17 : List (List PC)) (full_18 : Bool) (n_19 : Int) (n_20 : Int) (es_21 : List (List PC)) (N : St → Prop) (K : TExit → St → Prop) : (f23_1_p6b0 i_14 n_15 n_16 es_17 full_18 n_19 n_20 es_21 (fun z0 z1 z2 z7 => N (f23_1_p6_mk es_17 full_18 n_19 n_20 (z0, z1, z2, z7))) (fun i0_22 n0_23 es0_24 => K (.exit 0) ⟨mkS 24 [(3, .w (.one (.ref 0 i0_22 n0_23)))], [.vec 1 es0_24 true]⟩)) = execT f23_1_C (nthC (bodies (bodyOf Try.f23)) 0) (f23_1_p6_mk es_17 full_18 n_19 n_20 (i_14, n_15, n_16, es_21)) (loopK N (normK f23_1_C 6) fun e s => K e (normOut f23_1_C 6 e s)) := by kernel_rfl
set_option maxHeartbeats 4000000 in
theorem f23_1_p6_ok : LoopOk f23_1_C (nthC (bodies (bodyOf Try.f23)) 0) := by
  refine LoopOk.of f23_1_p6L (by kernel_rfl) fun σ K h => ?_
  have hk : loopKey (nthC (bodies (bodyOf Try.f23)) 0) = 6 := by kernel_rfl
  rw [hk] at h ⊢
  generalize hs : normK f23_1_C 6 σ = s at h
  obtain ⟨tm, hp⟩ := s
  unfold f23_1_p6L at h
  dsimp only at h
  obtain ⟨xx, yy, rfl, rfl, h⟩ := getS_elim h
  refine iter_of (f23_1_p6_mk yy.1.1.1 yy.1.1.2 yy.1.2.1 yy.1.2.2.1) (fun x N h => ?_) rounds _ σ (hs.trans (by kernel_rfl)) (LoopP.run h)
  obtain ⟨y0, y1, y2, y3⟩ := x
  rw [← f23_1_p6e0 y0 y1 y2 yy.1.1.1 yy.1.1.2 yy.1.2.1 yy.1.2.2.1 y3 N K]
  exact h
noncomputable def f23_1_G0 : List TV → List Entry → (TV → List Entry → Prop) → Prop := fun tm hp K => getS [.v (.pagg [.sl 3, .int .i64, .int .i64])] [] tm hp fun (xx : (((List (List PC) × Bool) × (Int × (Int × Unit))) × Unit)) (yy : Unit) => f23_1 xx.1.1.1 xx.1.1.2 xx.1.2.1 xx.1.2.2.1 (fun i0_3 n0_4 es0_5 => K (.w (.one (.ref 0 i0_3 n0_4))) [.vec 1 es0_5 true])
set_option maxRecDepth 100000 in
theorem f23_1_eq (es_25 : List (List PC)) (full_26 : Bool) (n_27 : Int) (n_28 : Int) (K : TV → List Entry → Prop) : (f23_1_d es_25 full_26 n_27 n_28 (fun i0_3 n0_4 es0_5 => K (.w (.one (.ref 0 i0_3 n0_4))) [.vec 1 es0_5 true])) = funcT f23_1_C Try.f23 [.w (.pagg [.sl 3 es_25 full_26, pI n_27, pI n_28])] [] K := by kernel_rfl
set_option maxHeartbeats 4000000 in
theorem f23_1_ok0 : FnOk Try.prog glob 23 f23_1_G0 := by
  refine FnOk.of_text (C := f23_1_C) tab_ok.ok (Known.none) follows_ok (fn := Try.f23) (by kernel_rfl) (by kernel_rfl) (by kernel_rfl) (fun c hc => ?_) fun tm hp K h => ?_
  · have e : c = bodyOf Try.f23 := Option.some.inj (hc.symm.trans (by kernel_rfl))
    subst e
    exact ⟨LoopsOk.of [nthC (bodies (bodyOf Try.f23)) 0] (by kernel_rfl) ⟨f23_1_p6_ok, trivial⟩, TailsOk.of (tab := f23_1_tab) rfl [] (by kernel_rfl) trivial⟩
  · unfold f23_1_G0 at h
    obtain ⟨xx, yy, rfl, rfl, h⟩ := getS_elim h
    have e := (f23_1_eq xx.1.1.1 xx.1.1.2 xx.1.2.1 xx.1.2.2.1 K).trans (show _ = funcT f23_1_C Try.f23 (mkR _ xx) (mkE _ yy) K by kernel_rfl)
    rw [← e]
    exact h.run
noncomputable def f23_1_G : List TV → List Entry → (TV → List Entry → Prop) → Prop := fun args H K => bif isSig (sigOf args H) [10, 7] then f23_1_G0 args H K else f23_G args H K
theorem f23_1_G_ok : FnOk Try.prog glob 23 f23_1_G := FnOk.or _ f23_1_ok0 f23_G_ok
end Go.Eng.N
set_option linter.unusedVariables false
set_option maxRecDepth 100000
open Go Go.Eng Go.Proofs
namespace Go.Eng.N
/-! ### f50: plenum/leadlag.step$2 -/
noncomputable def f50_d (n1 : Int) (i2 : Nat) (n3 : Nat) (es4 : List (List PC)) (k0 : Bool → Nat → Nat → (List (List PC)) → Prop) : Prop := (0 ≤ n1 ∧ n1 < ((n3 : Nat) : Int)) ∧ oB (ext (List.getD es4 (i2 + (Int.toNat n1)) []) 1 1) fun b5 => k0 (!b5) i2 n3 es4
structure f50 (n1 : Int) (i2 : Nat) (n3 : Nat) (es4 : List (List PC)) (k0 : Bool → Nat → Nat → (List (List PC)) → Prop) : Prop where
  run : f50_d n1 i2 n3 es4 k0
noncomputable def f50_tab : List (Nat × Told) := []
noncomputable def f50_call : FuncId → List TV → List Entry → (TV → List Entry → Prop) → Prop := noCalls
noncomputable def f50_C : Ctx := { ty := tyOf tab, glob := glob, byRef := byRef, keep := fun k i => lookN [] (lookN [] ([] : List (Nat × List (Nat × List Nat))) k) i, late := lookN [] ([] : List (Nat × List Nat)), nref := lookN [] ([] : List (Nat × List Nat)), nbox := lookN [] ([] : List (Nat × List (Nat × Nat))), take := [], rnil := false, m := 2, fz := true, loops := lookL f50_tab, call := f50_call }
noncomputable def f50_G0 : List TV → List Entry → (TV → List Entry → Prop) → Prop := fun tm hp K => getS [.v (.one (.int .i64)), .v (.one (.ptr 0 0 0))] [.box [.ref 1], .vec 3 true] tm hp fun (xx : (Int × (Unit × Unit))) (yy : (((Nat × Nat) × Unit) × ((List (List PC)) × Unit))) => f50 xx.1 yy.1.1.1 yy.1.1.2 yy.2.1 (fun b0_0 i0_1 n0_2 es0_3 => K (B b0_0) [.box [.ref 1 i0_1 n0_2], .vec 3 es0_3 true])
set_option maxRecDepth 100000 in
theorem f50_eq (n_4 : Int) (i_5 : Nat) (n_6 : Nat) (es_7 : List (List PC)) (K : TV → List Entry → Prop) : (f50_d n_4 i_5 n_6 es_7 (fun b0_0 i0_1 n0_2 es0_3 => K (B b0_0) [.box [.ref 1 i0_1 n0_2], .vec 3 es0_3 true])) = funcT f50_C Try.f50 [I n_4, .w (.one (.ptr 0 0 0))] [.box [.ref 1 i_5 n_6], .vec 3 es_7 true] K := by kernel_rfl
set_option maxHeartbeats 4000000 in
theorem f50_ok0 : FnOk Try.prog glob 50 f50_G0 := by
  refine FnOk.of_text (C := f50_C) tab_ok.ok (Known.none) follows_ok (fn := Try.f50) (by kernel_rfl) (by kernel_rfl) (by kernel_rfl) (fun c hc => ?_) fun tm hp K h => ?_
  · have e : c = bodyOf Try.f50 := Option.some.inj (hc.symm.trans (by kernel_rfl))
    subst e
    exact ⟨LoopsOk.of [] (by kernel_rfl) trivial, TailsOk.of (tab := f50_tab) rfl [] (by kernel_rfl) trivial⟩
  · unfold f50_G0 at h
    obtain ⟨xx, yy, rfl, rfl, h⟩ := getS_elim h
    have e := (f50_eq xx.1 yy.1.1.1 yy.1.1.2 yy.2.1 K).trans (show _ = funcT f50_C Try.f50 (mkR _ xx) (mkE _ yy) K by kernel_rfl)
    rw [← e]
    exact h.run
noncomputable abbrev f50_G := f50_G0
theorem f50_G_ok : FnOk Try.prog glob 50 f50_G := f50_ok0
end Go.Eng.N
set_option linter.unusedVariables false
set_option maxRecDepth 100000
open Go Go.Eng Go.Proofs
namespace Go.Eng.N
/-! ### f49: slices.IndexFunc(()int,int) -/
noncomputable def f49_p4b0 (es6 : List (List PC)) (full7 : Bool) (n8 : Int) (n9 : Int) (i10 : Nat) (n11 : Nat) (es12 : List (List PC)) (N0 : Int → Nat → Nat → (List (List PC)) → Prop) (k0 : Int → Nat → Nat → (List (List PC)) → Prop) (k1 : Nat → Nat → (List (List PC)) → Prop) : Prop := bB (decide (n9 < n8)) ((0 ≤ n9 ∧ n9 < ((es6.length : Nat) : Int)) ∧ oI .i64 (ext (List.getD es6 (Int.toNat n9) []) 0 1) fun n13 => f50 n13 i10 n11 es12 (fun b14 i15 n16 es17 => bB b14 (k0 n9 i15 n16 es17) (N0 (w64 (n9 + 1)) i15 n16 es17))) (k1 i10 n11 es12)
noncomputable def f49_p4 (es6 : List (List PC)) (full7 : Bool) (n8 : Int) (k0 : Int → Nat → Nat → (List (List PC)) → Prop) (k1 : Nat → Nat → (List (List PC)) → Prop) : Int × Nat × Nat × (List (List PC)) → Prop := LoopP fun x N => f49_p4b0 es6 full7 n8 x.1 x.2.1 x.2.2.1 x.2.2.2 (fun n9 i10 n11 es12 => N (n9, i10, n11, es12)) k0 k1
noncomputable def f49_d (es1 : List (List PC)) (full2 : Bool) (i3 : Nat) (n4 : Nat) (es5 : List (List PC)) (k0 : Int → Nat → Nat → (List (List PC)) → Prop) : Prop := f49_p4 es1 full2 ((es1.length : Nat) : Int) (fun n18 i19 n20 es21 => k0 n18 i19 n20 es21) (fun i22 n23 es24 => k0 (-1) i22 n23 es24) (0, i3, n4, es5)
structure f49 (es1 : List (List PC)) (full2 : Bool) (i3 : Nat) (n4 : Nat) (es5 : List (List PC)) (k0 : Int → Nat → Nat → (List (List PC)) → Prop) : Prop where
  run : f49_d es1 full2 i3 n4 es5 k0
noncomputable def f49_p4L : Told := fun s K => match s with
  | ⟨tm, hp⟩ => getS [.v (.one (.sl 1)), .v (.clo 50 [] [.ptr 0 0 0]), .skip 5, .v (.one (.int .i64)), .v (.one (.int .i64)), .skip 10] [.box [.ref 1], .vec 3 true] tm hp fun (xx : ((List (List PC) × Bool) × ((Unit × (Unit × Unit)) × (Unit × (Int × (Int × (Unit × Unit))))))) (yy : (((Nat × Nat) × Unit) × ((List (List PC)) × Unit))) => f49_p4 xx.1.1 xx.1.2 xx.2.2.2.1 (fun n0_0 i0_1 n0_2 es0_3 => K .ret ⟨mkS 19 [(4, I n0_0)], [.box [.ref 1 i0_1 n0_2], .vec 3 es0_3 true]⟩) (fun i1_4 n1_5 es1_6 => K (.exit 0) ⟨mkS 19 [], [.box [.ref 1 i1_4 n1_5], .vec 3 es1_6 true]⟩) (xx.2.2.2.2.1, yy.1.1.1, yy.1.1.2, yy.2.1)
noncomputable def f49_tab : List (Nat × Told) := [(4, f49_p4L)]
noncomputable def f49_call : FuncId → List TV → List Entry → (TV → List Entry → Prop) → Prop := addCall 50 f50_G (noCalls)
noncomputable def f49_C : Ctx := { ty := tyOf tab, glob := glob, byRef := byRef, keep := fun k i => lookN [] (lookN [] ([(4, [(0, [0, 1, 7, 8]), (2, [4]), (3, [])])] : List (Nat × List (Nat × List Nat))) k) i, late := lookN [] ([] : List (Nat × List Nat)), nref := lookN [] ([] : List (Nat × List Nat)), nbox := lookN [] ([] : List (Nat × List (Nat × Nat))), take := [], rnil := false, m := 2, fz := true, loops := lookL f49_tab, call := f49_call }
noncomputable def f49_p4_mk (es6 : List (List PC)) (full7 : Bool) (n8 : Int) (x : Int × Nat × Nat × (List (List PC))) : St := ⟨mkS 19 [(0, .w (.one (.p (.sl 1 es6 full7)))), (1, .w (.one (.clo 50 [] [.ptr 0 0 0]))), (7, I n8), (8, I x.1)], [.box [.ref 1 x.2.1 x.2.2.1], .vec 3 x.2.2.2 true]⟩
set_option maxRecDepth 100000 in
theorem f49_p4e0 (es_18 : List (List PC)) (full_19 : Bool) (n_20 : Int) (n_21 : Int) (i_22 : Nat) (n_23 : Nat) (es_24 : List (List PC)) (N : St → Prop) (K : TExit → St → Prop) : (f49_p4b0 es_18 full_19 n_20 n_21 i_22 n_23 es_24 (fun z3 z4 z5 z6 => N (f49_p4_mk es_18 full_19 n_20 (z3, z4, z5, z6))) (fun n0_25 i0_26 n0_27 es0_28 => K .ret ⟨mkS 19 [(4, I n0_25)], [.box [.ref 1 i0_26 n0_27], .vec 3 es0_28 true]⟩) (fun i1_29 n1_30 es1_31 => K (.exit 0) ⟨mkS 19 [], [.box [.ref 1 i1_29 n1_30], .vec 3 es1_31 true]⟩)) = execT f49_C (nthC (bodies (bodyOf Try.f49)) 0) (f49_p4_mk es_18 full_19 n_20 (n_21, i_22, n_23, es_24)) (loopK N (normK f49_C 4) fun e s => K e (normOut f49_C 4 e s)) := by kernel_rfl
set_option maxHeartbeats 4000000 in
theorem f49_p4_ok : LoopOk f49_C (nthC (bodies (bodyOf Try.f49)) 0) := by
  refine LoopOk.of f49_p4L (by kernel_rfl) fun σ K h => ?_
  have hk : loopKey (nthC (bodies (bodyOf Try.f49)) 0) = 4 := by kernel_rfl
  rw [hk] at h ⊢
  generalize hs : normK f49_C 4 σ = s at h
  obtain ⟨tm, hp⟩ := s
  unfold f49_p4L at h
  dsimp only at h
  obtain ⟨xx, yy, rfl, rfl, h⟩ := getS_elim h
  refine iter_of (f49_p4_mk xx.1.1 xx.1.2 xx.2.2.2.1) (fun x N h => ?_) rounds _ σ (hs.trans (by kernel_rfl)) (LoopP.run h)
  obtain ⟨y0, y1, y2, y3⟩ := x
  rw [← f49_p4e0 xx.1.1 xx.1.2 xx.2.2.2.1 y0 y1 y2 y3 N K]
  exact h
noncomputable def f49_G0 : List TV → List Entry → (TV → List Entry → Prop) → Prop := fun tm hp K => getS [.v (.one (.sl 1)), .v (.clo 50 [] [.ptr 0 0 0])] [.box [.ref 1], .vec 3 true] tm hp fun (xx : ((List (List PC) × Bool) × ((Unit × (Unit × Unit)) × Unit))) (yy : (((Nat × Nat) × Unit) × ((List (List PC)) × Unit))) => f49 xx.1.1 xx.1.2 yy.1.1.1 yy.1.1.2 yy.2.1 (fun n0_7 i0_8 n0_9 es0_10 => K (I n0_7) [.box [.ref 1 i0_8 n0_9], .vec 3 es0_10 true])
set_option maxRecDepth 100000 in
theorem f49_eq (es_32 : List (List PC)) (full_33 : Bool) (i_34 : Nat) (n_35 : Nat) (es_36 : List (List PC)) (K : TV → List Entry → Prop) : (f49_d es_32 full_33 i_34 n_35 es_36 (fun n0_7 i0_8 n0_9 es0_10 => K (I n0_7) [.box [.ref 1 i0_8 n0_9], .vec 3 es0_10 true])) = funcT f49_C Try.f49 [.w (.one (.p (.sl 1 es_32 full_33))), .w (.one (.clo 50 [] [.ptr 0 0 0]))] [.box [.ref 1 i_34 n_35], .vec 3 es_36 true] K := by kernel_rfl
set_option maxHeartbeats 4000000 in
theorem f49_ok0 : FnOk Try.prog glob 49 f49_G0 := by
  refine FnOk.of_text (C := f49_C) tab_ok.ok (Known.add f50_G_ok (Known.none)) follows_ok (fn := Try.f49) (by kernel_rfl) (by kernel_rfl) (by kernel_rfl) (fun c hc => ?_) fun tm hp K h => ?_
  · have e : c = bodyOf Try.f49 := Option.some.inj (hc.symm.trans (by kernel_rfl))
    subst e
    exact ⟨LoopsOk.of [nthC (bodies (bodyOf Try.f49)) 0] (by kernel_rfl) ⟨f49_p4_ok, trivial⟩, TailsOk.of (tab := f49_tab) rfl [] (by kernel_rfl) trivial⟩
  · unfold f49_G0 at h
    obtain ⟨xx, yy, rfl, rfl, h⟩ := getS_elim h
    have e := (f49_eq xx.1.1 xx.1.2 yy.1.1.1 yy.1.1.2 yy.2.1 K).trans (show _ = funcT f49_C Try.f49 (mkR _ xx) (mkE _ yy) K by kernel_rfl)
    rw [← e]
    exact h.run
noncomputable abbrev f49_G := f49_G0
theorem f49_G_ok : FnOk Try.prog glob 49 f49_G := f49_ok0
end Go.Eng.N
set_option linter.unusedVariables false
set_option maxRecDepth 100000
open Go Go.Eng Go.Proofs
namespace Go.Eng.N
/-! ### f42: plenum/leadlag.step -/
noncomputable def f42_p19 (n30 : Int) (es31 : List (List PC)) (full32 : Bool) (n33 : Int) (n34 : Int) (n35 : Int) (n36 : Int) (n37 : Int) (n38 : Int) (i39 : Nat) (n40 : Nat) (n41 : Int) (n42 : Int) (n43 : Int) (n44 : Int) (i45 : Nat) (n46 : Nat) (es47 : List (List PC)) (k0 : (List (List PC)) → Prop) : Prop := (0 ≤ n34 ∧ n34 < ((es31.length : Nat) : Int)) ∧ oB (ext (List.getD es31 (Int.toNat n34) []) 0 1) fun b48 => (0 ≤ n34 ∧ n34 < ((n46 : Nat) : Int)) ∧ (i45 + (Int.toNat n34)) < es47.length ∧ (0 ≤ n34 ∧ n34 < ((n46 : Nat) : Int)) ∧ oB (ext (List.getD (List.set es47 (i45 + (Int.toNat n34)) (splice (List.getD es47 (i45 + (Int.toNat n34)) []) 2 [pB b48])) (i45 + (Int.toNat n34)) []) 1 1) fun b49 => bB b49 ((0 ≤ n34 ∧ n34 < ((es31.length : Nat) : Int)) ∧ oB (ext (List.getD es31 (Int.toNat n34) []) 0 1) fun b50 => (0 ≤ n34 ∧ n34 < ((n46 : Nat) : Int)) ∧ (i45 + (Int.toNat n34)) < (List.set es47 (i45 + (Int.toNat n34)) (splice (List.getD es47 (i45 + (Int.toNat n34)) []) 2 [pB b48])).length ∧ k0 (List.set (List.set es47 (i45 + (Int.toNat n34)) (splice (List.getD es47 (i45 + (Int.toNat n34)) []) 2 [pB b48])) (i45 + (Int.toNat n34)) (splice (List.getD (List.set es47 (i45 + (Int.toNat n34)) (splice (List.getD es47 (i45 + (Int.toNat n34)) []) 2 [pB b48])) (i45 + (Int.toNat n34)) []) 1 [pB (!b50)]))) ((0 ≤ n34 ∧ n34 < ((n46 : Nat) : Int)) ∧ (i45 + (Int.toNat n34)) < (List.set es47 (i45 + (Int.toNat n34)) (splice (List.getD es47 (i45 + (Int.toNat n34)) []) 2 [pB b48])).length ∧ k0 (List.set (List.set es47 (i45 + (Int.toNat n34)) (splice (List.getD es47 (i45 + (Int.toNat n34)) []) 2 [pB b48])) (i45 + (Int.toNat n34)) (splice (List.getD (List.set es47 (i45 + (Int.toNat n34)) (splice (List.getD es47 (i45 + (Int.toNat n34)) []) 2 [pB b48])) (i45 + (Int.toNat n34)) []) 1 [pB false])))
noncomputable def f42_p10b0 (n11 : Int) (es12 : List (List PC)) (full13 : Bool) (n14 : Int) (n15 : Int) (n16 : Int) (n17 : Int) (n18 : Int) (i19 : Nat) (n20 : Nat) (n21 : Int) (n22 : Int) (n23 : Int) (n24 : Int) (i25 : Nat) (n26 : Nat) (es27 : List (List PC)) (N0 : Int → (List (List PC)) → Prop) (k0 : (List (List PC)) → Prop) : Prop := bB (decide (n16 < n15)) ((0 ≤ n16 ∧ n16 < ((n26 : Nat) : Int)) ∧ oB (ext (List.getD es27 (i25 + (Int.toNat n16)) []) 1 1) fun b28 => bB b28 ((0 ≤ n16 ∧ n16 < ((n26 : Nat) : Int)) ∧ oI .i64 (ext (List.getD es27 (i25 + (Int.toNat n16)) []) 0 1) fun n29 => (0 ≤ n16 ∧ n16 < ((n26 : Nat) : Int)) ∧ (i25 + (Int.toNat n16)) < es27.length ∧ f42_p19 n11 es12 full13 n14 n16 n15 n16 n17 n18 i19 n20 n21 n22 n23 n24 i25 n26 (List.set es27 (i25 + (Int.toNat n16)) (splice (List.getD es27 (i25 + (Int.toNat n16)) []) 0 [pI (if (6311433599 : Int) < (w64 (n29 + 1)) then 6311433599 else (w64 (n29 + 1)))])) (fun es51 => N0 (w64 (n16 + 1)) es51)) (f42_p19 n11 es12 full13 n14 n16 n15 n16 n17 n18 i19 n20 n21 n22 n23 n24 i25 n26 es27 (fun es52 => N0 (w64 (n16 + 1)) es52))) (k0 es27)
noncomputable def f42_p10 (n11 : Int) (es12 : List (List PC)) (full13 : Bool) (n14 : Int) (n15 : Int) (n17 : Int) (n18 : Int) (i19 : Nat) (n20 : Nat) (n21 : Int) (n22 : Int) (n23 : Int) (n24 : Int) (i25 : Nat) (n26 : Nat) (k0 : (List (List PC)) → Prop) : Int × (List (List PC)) → Prop := LoopP fun x N => f42_p10b0 n11 es12 full13 n14 n15 x.1 n17 n18 i19 n20 n21 n22 n23 n24 i25 n26 x.2 (fun n16 es27 => N (n16, es27)) k0
noncomputable def f42_p53 (n83 : Int) (n84 : Int) (i85 : Nat) (n86 : Nat) (n87 : Int) (n88 : Int) (i89 : Nat) (n90 : Nat) (n91 : Int) (n92 : Int) (n93 : Int) (n94 : Int) (i95 : Nat) (n96 : Nat) (es97 : List (List PC)) (es98 : List (List PC)) (k0 : Int → (List (List PC)) → Prop) : Prop := f39_1 (List.take n90 (List.drop i89 es98)) false n91 n92 (fun n99 => bB (decide (n99 < n84)) (bB (n91 == (-1)) (f49 (List.take n86 (List.drop i85 es97)) false i95 n96 es98 (fun n100 i101 n102 es103 => (0 ≤ n100 ∧ n100 < ((n86 : Nat) : Int)) ∧ oI .i64 (ext (List.getD es97 (i85 + (Int.toNat n100)) []) 0 1) fun n104 => (0 ≤ n104 ∧ n104 < ((n102 : Nat) : Int)) ∧ (i101 + (Int.toNat n104)) < es103.length ∧ k0 n83 (List.set es103 (i101 + (Int.toNat n104)) (splice (List.getD es103 (i101 + (Int.toNat n104)) []) 1 [pB true])))) (bB (decide (n83 ≥ (w64 (n91 + n88)))) (f49 (List.take n86 (List.drop i85 es97)) false i95 n96 es98 (fun n105 i106 n107 es108 => (0 ≤ n105 ∧ n105 < ((n86 : Nat) : Int)) ∧ oI .i64 (ext (List.getD es97 (i85 + (Int.toNat n105)) []) 0 1) fun n109 => (0 ≤ n109 ∧ n109 < ((n107 : Nat) : Int)) ∧ (i106 + (Int.toNat n109)) < es108.length ∧ k0 n83 (List.set es108 (i106 + (Int.toNat n109)) (splice (List.getD es108 (i106 + (Int.toNat n109)) []) 1 [pB true])))) (k0 n91 es98))) (k0 n91 es98))
noncomputable def f42_p34b0 (n60 : Int) (n61 : Int) (i62 : Nat) (n63 : Nat) (n64 : Int) (i65 : Nat) (n66 : Nat) (n67 : Int) (n68 : Int) (n69 : Int) (n70 : Int) (i71 : Nat) (n72 : Nat) (n73 : Int) (n74 : Int) (n75 : Int) (n76 : Int) (i77 : Nat) (n78 : Nat) (es79 : List (List PC)) (es80 : List (List PC)) (N0 : Int → (List (List PC)) → Prop) (k0 : (List (List PC)) → Prop) : Prop := bB (decide (n68 < n67)) ((0 ≤ n68 ∧ n68 < ((n66 : Nat) : Int)) ∧ oI .i64 (ext (List.getD es79 (i65 + (Int.toNat n68)) []) 0 1) fun n81 => (0 ≤ n81 ∧ n81 < ((n78 : Nat) : Int)) ∧ (i77 + (Int.toNat n81)) < es80.length ∧ N0 (w64 (n68 + 1)) (List.set es80 (i77 + (Int.toNat n81)) (splice (List.getD es80 (i77 + (Int.toNat n81)) []) 1 [pB (decide (n68 < n64))]))) (k0 es80)
noncomputable def f42_p34 (n60 : Int) (n61 : Int) (i62 : Nat) (n63 : Nat) (n64 : Int) (i65 : Nat) (n66 : Nat) (n67 : Int) (n69 : Int) (n70 : Int) (i71 : Nat) (n72 : Nat) (n73 : Int) (n74 : Int) (n75 : Int) (n76 : Int) (i77 : Nat) (n78 : Nat) (es79 : List (List PC)) (k0 : (List (List PC)) → Prop) : Int × (List (List PC)) → Prop := LoopP fun x N => f42_p34b0 n60 n61 i62 n63 n64 i65 n66 n67 x.1 n69 n70 i71 n72 n73 n74 n75 n76 i77 n78 es79 x.2 (fun n68 es80 => N (n68, es80)) k0
noncomputable def f42_p51 (n130 : Int) (n131 : Int) (i132 : Nat) (n133 : Nat) (n134 : Int) (n135 : Int) (n136 : Int) (i137 : Nat) (n138 : Nat) (n139 : Int) (n140 : Int) (n141 : Int) (n142 : Int) (i143 : Nat) (n144 : Nat) (es145 : List (List PC)) (es146 : List (List PC)) (k0 : Int → (List (List PC)) → Prop) : Prop := (0 ≤ n134 ∧ n134 < ((n133 : Nat) : Int)) ∧ oI .i64 (ext (List.getD es145 (i132 + (Int.toNat n134)) []) 0 1) fun n147 => (0 ≤ n147 ∧ n147 < ((n144 : Nat) : Int)) ∧ (i143 + (Int.toNat n147)) < es146.length ∧ k0 (w64 (n134 - 1)) (List.set es146 (i143 + (Int.toNat n147)) (splice (List.getD es146 (i143 + (Int.toNat n147)) []) 1 [pB false]))
noncomputable def f42_p46b0 (n112 : Int) (n113 : Int) (i114 : Nat) (n115 : Nat) (n116 : Int) (n117 : Int) (n118 : Int) (i119 : Nat) (n120 : Nat) (n121 : Int) (n122 : Int) (n123 : Int) (n124 : Int) (i125 : Nat) (n126 : Nat) (es127 : List (List PC)) (es128 : List (List PC)) (N0 : Int → (List (List PC)) → Prop) (k0 : (List (List PC)) → Prop) : Prop := bB (decide (n116 ≥ 0)) (f39_1 (List.take n120 (List.drop i119 es128)) false n121 n122 (fun n129 => bB (decide (n129 > n113)) (f42_p51 n112 n113 i114 n115 n116 n117 n118 i119 n120 n121 n122 n123 n124 i125 n126 es127 es128 (fun n148 es149 => N0 n148 es149)) (k0 es128))) (k0 es128)
noncomputable def f42_p46 (n112 : Int) (n113 : Int) (i114 : Nat) (n115 : Nat) (n117 : Int) (n118 : Int) (i119 : Nat) (n120 : Nat) (n121 : Int) (n122 : Int) (n123 : Int) (n124 : Int) (i125 : Nat) (n126 : Nat) (es127 : List (List PC)) (k0 : (List (List PC)) → Prop) : Int × (List (List PC)) → Prop := LoopP fun x N => f42_p46b0 n112 n113 i114 n115 x.1 n117 n118 i119 n120 n121 n122 n123 n124 i125 n126 es127 x.2 (fun n116 es128 => N (n116, es128)) k0
noncomputable def f42_d (n1 : Int) (n2 : Int) (es3 : List (List PC)) (full4 : Bool) (n5 : Int) (n6 : Int) (n7 : Int) (es8 : List (List PC)) (full9 : Bool) (n10 : Int) (k0 : (List (List PC)) → Bool → Int → Int → Prop) : Prop := (0 ≤ ((es3.length : Nat) : Int) ∧ ((es3.length : Nat) : Int) ≤ ((es3.length : Nat) : Int) ∧ ((es3.length : Nat) : Int) * 16 ≤ 2 ^ 46 ∧ ((es3.length : Nat) : Int) ≤ 2 ^ 46) ∧ (0 + (Int.toNat ((es3.length : Nat) : Int))) ≤ (List.replicate (Int.toNat ((es3.length : Nat) : Int)) [pI 0, pB false, pB false]).length ∧ f42_p10 n7 es8 full9 n10 (((Int.toNat ((es3.length : Nat) : Int)) : Nat) : Int) n1 n2 0 (Int.toNat ((es3.length : Nat) : Int)) n5 n6 0 0 0 (Int.toNat ((es3.length : Nat) : Int)) (fun es53 => f39 (List.take (Int.toNat ((es3.length : Nat) : Int)) (List.drop 0 es53)) false n5 n6 (fun n54 => f20 0 (Int.toNat ((es3.length : Nat) : Int)) n5 n6 es53 (fun i55 n56 es57 es58 => bB (decide (n10 ≥ (w64 (n6 + n1)))) (f39_1 (List.take (Int.toNat ((es3.length : Nat) : Int)) (List.drop 0 es57)) false n5 n6 (fun n59 => f42_p34 n10 (if (if n54 < n7 then n54 else n7) > 0 then (if n54 < n7 then n54 else n7) else 0) i55 n56 (if n59 < (if (if n54 < n7 then n54 else n7) > 0 then (if n54 < n7 then n54 else n7) else 0) then n59 else (if (if n54 < n7 then n54 else n7) > 0 then (if n54 < n7 then n54 else n7) else 0)) i55 n56 ((n56 : Nat) : Int) n1 n2 0 (Int.toNat ((es3.length : Nat) : Int)) n5 n6 0 0 0 (Int.toNat ((es3.length : Nat) : Int)) es58 (fun es82 => f42_p53 n10 (if (if n54 < n7 then n54 else n7) > 0 then (if n54 < n7 then n54 else n7) else 0) i55 n56 n1 n2 0 (Int.toNat ((es3.length : Nat) : Int)) n5 n10 0 0 0 (Int.toNat ((es3.length : Nat) : Int)) es58 es82 (fun n110 es111 => k0 (List.take (Int.toNat ((es3.length : Nat) : Int)) (List.drop 0 es111)) false n110 n10)) (0, es57))) (f42_p46 n10 (if (if n54 < n7 then n54 else n7) > 0 then (if n54 < n7 then n54 else n7) else 0) i55 n56 n1 n2 0 (Int.toNat ((es3.length : Nat) : Int)) n5 n6 0 0 0 (Int.toNat ((es3.length : Nat) : Int)) es58 (fun es150 => f42_p53 n10 (if (if n54 < n7 then n54 else n7) > 0 then (if n54 < n7 then n54 else n7) else 0) i55 n56 n1 n2 0 (Int.toNat ((es3.length : Nat) : Int)) n5 n6 0 0 0 (Int.toNat ((es3.length : Nat) : Int)) es58 es150 (fun n151 es152 => k0 (List.take (Int.toNat ((es3.length : Nat) : Int)) (List.drop 0 es152)) false n151 n6)) ((w64 (((n56 : Nat) : Int) - 1)), es57))))) (0, (splice (List.replicate (Int.toNat ((es3.length : Nat) : Int)) [pI 0, pB false, pB false]) 0 (List.take (Int.toNat ((es3.length : Nat) : Int)) es3)))
structure f42 (n1 : Int) (n2 : Int) (es3 : List (List PC)) (full4 : Bool) (n5 : Int) (n6 : Int) (n7 : Int) (es8 : List (List PC)) (full9 : Bool) (n10 : Int) (k0 : (List (List PC)) → Bool → Int → Int → Prop) : Prop where
  run : f42_d n1 n2 es3 full4 n5 n6 n7 es8 full9 n10 k0
noncomputable def f42_p19L : Told := fun s K => match s with
  | ⟨tm, hp⟩ => getS [.skip 2, .v (.one (.int .i64)), .v (.one (.sl 1)), .v (.one (.int .i64)), .v (.one (.ptr 0 0 0)), .v (.one (.ptr 1 0 0)), .skip 3, .v (.one (.ptr 2 0 0)), .v (.one (.ptr 3 0 0)), .v (.one (.int .i64)), .skip 18, .v (.one (.int .i64)), .v (.one (.int .i64)), .skip 129] [.box [.int .i64, .int .i64], .box [.ref 4, .int .i64, .int .i64], .box [.nil 3, .int .i64, .int .i64], .box [.ref 4], .vec 3 true] tm hp fun (xx : (Unit × (Int × ((List (List PC) × Bool) × (Int × (Unit × (Unit × (Unit × (Unit × (Unit × (Int × (Unit × (Int × (Int × (Unit × Unit))))))))))))))) (yy : ((Int × (Int × Unit)) × (((Nat × Nat) × (Int × (Int × Unit))) × ((Unit × (Int × (Int × Unit))) × (((Nat × Nat) × Unit) × ((List (List PC)) × Unit)))))) => f42_p19 xx.2.1 xx.2.2.1.1 xx.2.2.1.2 xx.2.2.2.1 xx.2.2.2.2.2.2.2.2.2.1 xx.2.2.2.2.2.2.2.2.2.2.2.1 xx.2.2.2.2.2.2.2.2.2.2.2.2.1 yy.1.1 yy.1.2.1 yy.2.1.1.1 yy.2.1.1.2 yy.2.1.2.1 yy.2.1.2.2.1 yy.2.2.1.2.1 yy.2.2.1.2.2.1 yy.2.2.2.1.1.1 yy.2.2.2.1.1.2 yy.2.2.2.2.1 (fun es0_0 => K .normal ⟨mkS 162 [(2, I xx.2.1), (3, .w (.one (.p (.sl 1 xx.2.2.1.1 xx.2.2.1.2)))), (4, I xx.2.2.2.1), (5, .w (.one (.ptr 0 0 0))), (6, .w (.one (.ptr 1 0 0))), (10, .w (.one (.ptr 2 0 0))), (11, .w (.one (.ptr 3 0 0))), (31, I xx.2.2.2.2.2.2.2.2.2.2.2.1), (32, I xx.2.2.2.2.2.2.2.2.2.2.2.2.1)], [.box [.p (pI yy.1.1), .p (pI yy.1.2.1)], .box [.ref 4 yy.2.1.1.1 yy.2.1.1.2, .p (pI yy.2.1.2.1), .p (pI yy.2.1.2.2.1)], .box [.p (.sl 3 [] true), .p (pI yy.2.2.1.2.1), .p (pI yy.2.2.1.2.2.1)], .box [.ref 4 yy.2.2.2.1.1.1 yy.2.2.2.1.1.2], .vec 3 es0_0 true]⟩)
noncomputable def f42_p10L : Told := fun s K => match s with
  | ⟨tm, hp⟩ => getS [.skip 2, .v (.one (.int .i64)), .v (.one (.sl 1)), .v (.one (.int .i64)), .v (.one (.ptr 0 0 0)), .v (.one (.ptr 1 0 0)), .skip 3, .v (.one (.ptr 2 0 0)), .v (.one (.ptr 3 0 0)), .skip 19, .v (.one (.int .i64)), .v (.one (.int .i64)), .skip 129] [.box [.int .i64, .int .i64], .box [.ref 4, .int .i64, .int .i64], .box [.nil 3, .int .i64, .int .i64], .box [.ref 4], .vec 3 true] tm hp fun (xx : (Unit × (Int × ((List (List PC) × Bool) × (Int × (Unit × (Unit × (Unit × (Unit × (Unit × (Unit × (Int × (Int × (Unit × Unit)))))))))))))) (yy : ((Int × (Int × Unit)) × (((Nat × Nat) × (Int × (Int × Unit))) × ((Unit × (Int × (Int × Unit))) × (((Nat × Nat) × Unit) × ((List (List PC)) × Unit)))))) => f42_p10 xx.2.1 xx.2.2.1.1 xx.2.2.1.2 xx.2.2.2.1 xx.2.2.2.2.2.2.2.2.2.2.1 yy.1.1 yy.1.2.1 yy.2.1.1.1 yy.2.1.1.2 yy.2.1.2.1 yy.2.1.2.2.1 yy.2.2.1.2.1 yy.2.2.1.2.2.1 yy.2.2.2.1.1.1 yy.2.2.2.1.1.2 (fun es0_1 => K (.exit 0) ⟨mkS 162 [(2, I xx.2.1), (4, I xx.2.2.2.1), (5, .w (.one (.ptr 0 0 0))), (6, .w (.one (.ptr 1 0 0))), (10, .w (.one (.ptr 2 0 0))), (11, .w (.one (.ptr 3 0 0)))], [.box [.p (pI yy.1.1), .p (pI yy.1.2.1)], .box [.ref 4 yy.2.1.1.1 yy.2.1.1.2, .p (pI yy.2.1.2.1), .p (pI yy.2.1.2.2.1)], .box [.p (.sl 3 [] true), .p (pI yy.2.2.1.2.1), .p (pI yy.2.2.1.2.2.1)], .box [.ref 4 yy.2.2.2.1.1.1 yy.2.2.2.1.1.2], .vec 3 es0_1 true]⟩) (xx.2.2.2.2.2.2.2.2.2.2.2.1, yy.2.2.2.2.1)
noncomputable def f42_p53L : Told := fun s K => match s with
  | ⟨tm, hp⟩ => getS [.skip 4, .v (.one (.int .i64)), .v (.one (.ptr 0 0 0)), .v (.one (.ptr 1 0 0)), .skip 3, .v (.one (.ptr 2 0 0)), .v (.one (.ptr 3 0 0)), .skip 1, .v (.one (.int .i64)), .v (.one (.ref 4)), .skip 147] [.box [.int .i64, .int .i64], .box [.ref 5, .int .i64, .int .i64], .box [.nil 3, .int .i64, .int .i64], .box [.ref 5], .vec 1 true, .vec 3 true] tm hp fun (xx : (Unit × (Int × (Unit × (Unit × (Unit × (Unit × (Unit × (Unit × (Int × ((Nat × Nat) × (Unit × Unit)))))))))))) (yy : ((Int × (Int × Unit)) × (((Nat × Nat) × (Int × (Int × Unit))) × ((Unit × (Int × (Int × Unit))) × (((Nat × Nat) × Unit) × ((List (List PC)) × ((List (List PC)) × Unit))))))) => f42_p53 xx.2.1 xx.2.2.2.2.2.2.2.2.1 xx.2.2.2.2.2.2.2.2.2.1.1 xx.2.2.2.2.2.2.2.2.2.1.2 yy.1.1 yy.1.2.1 yy.2.1.1.1 yy.2.1.1.2 yy.2.1.2.1 yy.2.1.2.2.1 yy.2.2.1.2.1 yy.2.2.1.2.2.1 yy.2.2.2.1.1.1 yy.2.2.2.1.1.2 yy.2.2.2.2.1 yy.2.2.2.2.2.1 (fun n0_2 es0_3 => K .ret ⟨mkS 162 [(10, .w (.one (.ptr 0 0 0)))], [.box [.ref 1 yy.2.1.1.1 yy.2.1.1.2, .p (pI n0_2), .p (pI yy.2.1.2.2.1)], .vec 3 es0_3 true]⟩)
noncomputable def f42_p34L : Told := fun s K => match s with
  | ⟨tm, hp⟩ => getS [.skip 4, .v (.one (.int .i64)), .v (.one (.ptr 0 0 0)), .v (.one (.ptr 1 0 0)), .skip 3, .v (.one (.ptr 2 0 0)), .v (.one (.ptr 3 0 0)), .skip 1, .v (.one (.int .i64)), .v (.one (.ref 4)), .v (.one (.int .i64)), .skip 78, .v (.one (.ref 4)), .v (.one (.int .i64)), .v (.one (.int .i64)), .skip 65] [.box [.int .i64, .int .i64], .box [.ref 5, .int .i64, .int .i64], .box [.nil 3, .int .i64, .int .i64], .box [.ref 5], .vec 1 true, .vec 3 true] tm hp fun (xx : (Unit × (Int × (Unit × (Unit × (Unit × (Unit × (Unit × (Unit × (Int × ((Nat × Nat) × (Int × (Unit × ((Nat × Nat) × (Int × (Int × (Unit × Unit))))))))))))))))) (yy : ((Int × (Int × Unit)) × (((Nat × Nat) × (Int × (Int × Unit))) × ((Unit × (Int × (Int × Unit))) × (((Nat × Nat) × Unit) × ((List (List PC)) × ((List (List PC)) × Unit))))))) => f42_p34 xx.2.1 xx.2.2.2.2.2.2.2.2.1 xx.2.2.2.2.2.2.2.2.2.1.1 xx.2.2.2.2.2.2.2.2.2.1.2 xx.2.2.2.2.2.2.2.2.2.2.1 xx.2.2.2.2.2.2.2.2.2.2.2.2.1.1 xx.2.2.2.2.2.2.2.2.2.2.2.2.1.2 xx.2.2.2.2.2.2.2.2.2.2.2.2.2.1 yy.1.1 yy.1.2.1 yy.2.1.1.1 yy.2.1.1.2 yy.2.1.2.1 yy.2.1.2.2.1 yy.2.2.1.2.1 yy.2.2.1.2.2.1 yy.2.2.2.1.1.1 yy.2.2.2.1.1.2 yy.2.2.2.2.1 (fun es0_4 => K (.exit 2) ⟨mkS 162 [(4, I xx.2.1), (5, .w (.one (.ptr 0 0 0))), (6, .w (.one (.ptr 1 0 0))), (10, .w (.one (.ptr 2 0 0))), (11, .w (.one (.ptr 3 0 0))), (13, I xx.2.2.2.2.2.2.2.2.1), (14, .w (.one (.ref 4 xx.2.2.2.2.2.2.2.2.2.1.1 xx.2.2.2.2.2.2.2.2.2.1.2)))], [.box [.p (pI yy.1.1), .p (pI yy.1.2.1)], .box [.ref 5 yy.2.1.1.1 yy.2.1.1.2, .p (pI yy.2.1.2.1), .p (pI yy.2.1.2.2.1)], .box [.p (.sl 3 [] true), .p (pI yy.2.2.1.2.1), .p (pI yy.2.2.1.2.2.1)], .box [.ref 5 yy.2.2.2.1.1.1 yy.2.2.2.1.1.2], .vec 1 yy.2.2.2.2.1 true, .vec 3 es0_4 true]⟩) (xx.2.2.2.2.2.2.2.2.2.2.2.2.2.2.1, yy.2.2.2.2.2.1)
noncomputable def f42_p51L : Told := fun s K => match s with
  | ⟨tm, hp⟩ => getS [.skip 4, .v (.one (.int .i64)), .v (.one (.ptr 0 0 0)), .v (.one (.ptr 1 0 0)), .skip 3, .v (.one (.ptr 2 0 0)), .v (.one (.ptr 3 0 0)), .skip 1, .v (.one (.int .i64)), .v (.one (.ref 4)), .skip 3, .v (.one (.int .i64)), .skip 143] [.box [.int .i64, .int .i64], .box [.ref 5, .int .i64, .int .i64], .box [.nil 3, .int .i64, .int .i64], .box [.ref 5], .vec 1 true, .vec 3 true] tm hp fun (xx : (Unit × (Int × (Unit × (Unit × (Unit × (Unit × (Unit × (Unit × (Int × ((Nat × Nat) × (Unit × (Int × (Unit × Unit)))))))))))))) (yy : ((Int × (Int × Unit)) × (((Nat × Nat) × (Int × (Int × Unit))) × ((Unit × (Int × (Int × Unit))) × (((Nat × Nat) × Unit) × ((List (List PC)) × ((List (List PC)) × Unit))))))) => f42_p51 xx.2.1 xx.2.2.2.2.2.2.2.2.1 xx.2.2.2.2.2.2.2.2.2.1.1 xx.2.2.2.2.2.2.2.2.2.1.2 xx.2.2.2.2.2.2.2.2.2.2.2.1 yy.1.1 yy.1.2.1 yy.2.1.1.1 yy.2.1.1.2 yy.2.1.2.1 yy.2.1.2.2.1 yy.2.2.1.2.1 yy.2.2.1.2.2.1 yy.2.2.2.1.1.1 yy.2.2.2.1.1.2 yy.2.2.2.2.1 yy.2.2.2.2.2.1 (fun n0_5 es0_6 => K .normal ⟨mkS 162 [(4, I xx.2.1), (5, .w (.one (.ptr 0 0 0))), (6, .w (.one (.ptr 1 0 0))), (10, .w (.one (.ptr 2 0 0))), (11, .w (.one (.ptr 3 0 0))), (13, I xx.2.2.2.2.2.2.2.2.1), (14, .w (.one (.ref 4 xx.2.2.2.2.2.2.2.2.2.1.1 xx.2.2.2.2.2.2.2.2.2.1.2))), (18, I n0_5)], [.box [.p (pI yy.1.1), .p (pI yy.1.2.1)], .box [.ref 5 yy.2.1.1.1 yy.2.1.1.2, .p (pI yy.2.1.2.1), .p (pI yy.2.1.2.2.1)], .box [.p (.sl 3 [] true), .p (pI yy.2.2.1.2.1), .p (pI yy.2.2.1.2.2.1)], .box [.ref 5 yy.2.2.2.1.1.1 yy.2.2.2.1.1.2], .vec 1 yy.2.2.2.2.1 true, .vec 3 es0_6 true]⟩)
noncomputable def f42_p46L : Told := fun s K => match s with
  | ⟨tm, hp⟩ => getS [.skip 4, .v (.one (.int .i64)), .v (.one (.ptr 0 0 0)), .v (.one (.ptr 1 0 0)), .skip 3, .v (.one (.ptr 2 0 0)), .v (.one (.ptr 3 0 0)), .skip 1, .v (.one (.int .i64)), .v (.one (.ref 4)), .skip 3, .v (.one (.int .i64)), .skip 143] [.box [.int .i64, .int .i64], .box [.ref 5, .int .i64, .int .i64], .box [.nil 3, .int .i64, .int .i64], .box [.ref 5], .vec 1 true, .vec 3 true] tm hp fun (xx : (Unit × (Int × (Unit × (Unit × (Unit × (Unit × (Unit × (Unit × (Int × ((Nat × Nat) × (Unit × (Int × (Unit × Unit)))))))))))))) (yy : ((Int × (Int × Unit)) × (((Nat × Nat) × (Int × (Int × Unit))) × ((Unit × (Int × (Int × Unit))) × (((Nat × Nat) × Unit) × ((List (List PC)) × ((List (List PC)) × Unit))))))) => f42_p46 xx.2.1 xx.2.2.2.2.2.2.2.2.1 xx.2.2.2.2.2.2.2.2.2.1.1 xx.2.2.2.2.2.2.2.2.2.1.2 yy.1.1 yy.1.2.1 yy.2.1.1.1 yy.2.1.1.2 yy.2.1.2.1 yy.2.1.2.2.1 yy.2.2.1.2.1 yy.2.2.1.2.2.1 yy.2.2.2.1.1.1 yy.2.2.2.1.1.2 yy.2.2.2.2.1 (fun es0_7 => K (.exit 4) ⟨mkS 162 [(4, I xx.2.1), (5, .w (.one (.ptr 0 0 0))), (6, .w (.one (.ptr 1 0 0))), (10, .w (.one (.ptr 2 0 0))), (11, .w (.one (.ptr 3 0 0))), (13, I xx.2.2.2.2.2.2.2.2.1), (14, .w (.one (.ref 4 xx.2.2.2.2.2.2.2.2.2.1.1 xx.2.2.2.2.2.2.2.2.2.1.2)))], [.box [.p (pI yy.1.1), .p (pI yy.1.2.1)], .box [.ref 5 yy.2.1.1.1 yy.2.1.1.2, .p (pI yy.2.1.2.1), .p (pI yy.2.1.2.2.1)], .box [.p (.sl 3 [] true), .p (pI yy.2.2.1.2.1), .p (pI yy.2.2.1.2.2.1)], .box [.ref 5 yy.2.2.2.1.1.1 yy.2.2.2.1.1.2], .vec 1 yy.2.2.2.2.1 true, .vec 3 es0_7 true]⟩) (xx.2.2.2.2.2.2.2.2.2.2.2.1, yy.2.2.2.2.2.1)
noncomputable def f42_tab : List (Nat × Told) := [(19, f42_p19L), (10, f42_p10L), (53, f42_p53L), (34, f42_p34L), (51, f42_p51L), (46, f42_p46L)]
noncomputable def f42_call : FuncId → List TV → List Entry → (TV → List Entry → Prop) → Prop := addCall 49 f49_G (addCall 39 f39_1_G (addCall 20 f20_G (noCalls)))
noncomputable def f42_C : Ctx := { ty := tyOf tab, glob := glob, byRef := byRef, keep := fun k i => lookN [] (lookN [] ([(19, [(0, [2, 3, 4, 5, 6, 10, 11, 12, 31, 32]), (1, [2, 3, 4, 5, 6, 10, 11, 31, 32]), (2, [10]), (3, [2, 4, 5, 6, 10, 11]), (4, [2, 3, 4, 5, 6, 10, 11, 31, 32])]), (10, [(0, [2, 3, 4, 5, 6, 10, 11, 31, 32]), (2, [10]), (3, [2, 4, 5, 6, 10, 11])]), (53, [(0, [4, 5, 6, 10, 11, 13, 14]), (1, [10]), (2, [10])]), (34, [(0, [4, 5, 6, 10, 11, 13, 14, 15, 94, 95, 96]), (2, [10]), (5, [4, 5, 6, 10, 11, 13, 14])]), (51, [(0, [4, 5, 6, 10, 11, 13, 14, 18]), (1, [4, 5, 6, 10, 11, 13, 14, 18]), (2, [10]), (7, [4, 5, 6, 10, 11, 13, 14])]), (46, [(0, [4, 5, 6, 10, 11, 13, 14, 18]), (2, [10]), (7, [4, 5, 6, 10, 11, 13, 14])])] : List (Nat × List (Nat × List Nat))) k) i, late := lookN [] ([] : List (Nat × List Nat)), nref := lookN [] ([] : List (Nat × List Nat)), nbox := lookN [] ([] : List (Nat × List (Nat × Nat))), take := [], rnil := false, m := 0, fz := true, loops := lookL f42_tab, call := f42_call }
set_option maxRecDepth 100000 in
theorem f42_p19e0 (n_12 : Int) (es_13 : List (List PC)) (full_14 : Bool) (n_15 : Int) (n_16 : Int) (n_17 : Int) (n_18 : Int) (n_19 : Int) (n_20 : Int) (i_21 : Nat) (n_22 : Nat) (n_23 : Int) (n_24 : Int) (n_25 : Int) (n_26 : Int) (i_27 : Nat) (n_28 : Nat) (es_29 : List (List PC)) (K : TExit → St → Prop) : (f42_p19 n_12 es_13 full_14 n_15 n_16 n_17 n_18 n_19 n_20 i_21 n_22 n_23 n_24 n_25 n_26 i_27 n_28 es_29 (fun es0_30 => K .normal ⟨mkS 162 [(2, I n_12), (3, .w (.one (.p (.sl 1 es_13 full_14)))), (4, I n_15), (5, .w (.one (.ptr 0 0 0))), (6, .w (.one (.ptr 1 0 0))), (10, .w (.one (.ptr 2 0 0))), (11, .w (.one (.ptr 3 0 0))), (31, I n_17), (32, I n_18)], [.box [.p (pI n_19), .p (pI n_20)], .box [.ref 4 i_21 n_22, .p (pI n_23), .p (pI n_24)], .box [.p (.sl 3 [] true), .p (pI n_25), .p (pI n_26)], .box [.ref 4 i_27 n_28], .vec 3 es0_30 true]⟩)) = execT f42_C (nthC (tails (bodyOf Try.f42)) 10) ⟨mkS 162 [(2, I n_12), (3, .w (.one (.p (.sl 1 es_13 full_14)))), (4, I n_15), (5, .w (.one (.ptr 0 0 0))), (6, .w (.one (.ptr 1 0 0))), (10, .w (.one (.ptr 2 0 0))), (11, .w (.one (.ptr 3 0 0))), (12, I n_16), (31, I n_17), (32, I n_18)], [.box [.p (pI n_19), .p (pI n_20)], .box [.ref 4 i_21 n_22, .p (pI n_23), .p (pI n_24)], .box [.p (.sl 3 [] true), .p (pI n_25), .p (pI n_26)], .box [.ref 4 i_27 n_28], .vec 3 es_29 true]⟩ (fun e s => K e (normOut f42_C 19 e s)) := by kernel_rfl
noncomputable def f42_p10_mk (n11 : Int) (es12 : List (List PC)) (full13 : Bool) (n14 : Int) (n15 : Int) (n17 : Int) (n18 : Int) (i19 : Nat) (n20 : Nat) (n21 : Int) (n22 : Int) (n23 : Int) (n24 : Int) (i25 : Nat) (n26 : Nat) (x : Int × (List (List PC))) : St := ⟨mkS 162 [(2, I n11), (3, .w (.one (.p (.sl 1 es12 full13)))), (4, I n14), (5, .w (.one (.ptr 0 0 0))), (6, .w (.one (.ptr 1 0 0))), (10, .w (.one (.ptr 2 0 0))), (11, .w (.one (.ptr 3 0 0))), (31, I n15), (32, I x.1)], [.box [.p (pI n17), .p (pI n18)], .box [.ref 4 i19 n20, .p (pI n21), .p (pI n22)], .box [.p (.sl 3 [] true), .p (pI n23), .p (pI n24)], .box [.ref 4 i25 n26], .vec 3 x.2 true]⟩
set_option maxRecDepth 100000 in
theorem f42_p10e0 (n_48 : Int) (es_49 : List (List PC)) (full_50 : Bool) (n_51 : Int) (n_52 : Int) (n_53 : Int) (n_54 : Int) (n_55 : Int) (i_56 : Nat) (n_57 : Nat) (n_58 : Int) (n_59 : Int) (n_60 : Int) (n_61 : Int) (i_62 : Nat) (n_63 : Nat) (es_64 : List (List PC)) (N : St → Prop) (K : TExit → St → Prop) : (f42_p10b0 n_48 es_49 full_50 n_51 n_52 n_53 n_54 n_55 i_56 n_57 n_58 n_59 n_60 n_61 i_62 n_63 es_64 (fun z5 z16 => N (f42_p10_mk n_48 es_49 full_50 n_51 n_52 n_54 n_55 i_56 n_57 n_58 n_59 n_60 n_61 i_62 n_63 (z5, z16))) (fun es0_65 => K (.exit 0) ⟨mkS 162 [(2, I n_48), (4, I n_51), (5, .w (.one (.ptr 0 0 0))), (6, .w (.one (.ptr 1 0 0))), (10, .w (.one (.ptr 2 0 0))), (11, .w (.one (.ptr 3 0 0)))], [.box [.p (pI n_54), .p (pI n_55)], .box [.ref 4 i_56 n_57, .p (pI n_58), .p (pI n_59)], .box [.p (.sl 3 [] true), .p (pI n_60), .p (pI n_61)], .box [.ref 4 i_62 n_63], .vec 3 es0_65 true]⟩)) = execT f42_C (nthC (bodies (bodyOf Try.f42)) 0) (f42_p10_mk n_48 es_49 full_50 n_51 n_52 n_54 n_55 i_56 n_57 n_58 n_59 n_60 n_61 i_62 n_63 (n_53, es_64)) (loopK N (normK f42_C 10) fun e s => K e (normOut f42_C 10 e s)) := by kernel_rfl
set_option maxRecDepth 100000 in
theorem f42_p53e0 (n_66 : Int) (n_67 : Int) (i_68 : Nat) (n_69 : Nat) (n_70 : Int) (n_71 : Int) (i_72 : Nat) (n_73 : Nat) (n_74 : Int) (n_75 : Int) (n_76 : Int) (n_77 : Int) (i_78 : Nat) (n_79 : Nat) (es_80 : List (List PC)) (es_81 : List (List PC)) (K : TExit → St → Prop) : (f42_p53 n_66 n_67 i_68 n_69 n_70 n_71 i_72 n_73 n_74 n_75 n_76 n_77 i_78 n_79 es_80 es_81 (fun n0_82 es0_83 => K .ret ⟨mkS 162 [(10, .w (.one (.ptr 0 0 0)))], [.box [.ref 1 i_72 n_73, .p (pI n0_82), .p (pI n_75)], .vec 3 es0_83 true]⟩)) = execT f42_C (nthC (tails (bodyOf Try.f42)) 15) ⟨mkS 162 [(4, I n_66), (5, .w (.one (.ptr 0 0 0))), (6, .w (.one (.ptr 1 0 0))), (10, .w (.one (.ptr 2 0 0))), (11, .w (.one (.ptr 3 0 0))), (13, I n_67), (14, .w (.one (.ref 4 i_68 n_69)))], [.box [.p (pI n_70), .p (pI n_71)], .box [.ref 5 i_72 n_73, .p (pI n_74), .p (pI n_75)], .box [.p (.sl 3 [] true), .p (pI n_76), .p (pI n_77)], .box [.ref 5 i_78 n_79], .vec 1 es_80 true, .vec 3 es_81 true]⟩ (fun e s => K e (normOut f42_C 53 e s)) := by kernel_rfl
noncomputable def f42_p34_mk (n60 : Int) (n61 : Int) (i62 : Nat) (n63 : Nat) (n64 : Int) (i65 : Nat) (n66 : Nat) (n67 : Int) (n69 : Int) (n70 : Int) (i71 : Nat) (n72 : Nat) (n73 : Int) (n74 : Int) (n75 : Int) (n76 : Int) (i77 : Nat) (n78 : Nat) (es79 : List (List PC)) (x : Int × (List (List PC))) : St := ⟨mkS 162 [(4, I n60), (5, .w (.one (.ptr 0 0 0))), (6, .w (.one (.ptr 1 0 0))), (10, .w (.one (.ptr 2 0 0))), (11, .w (.one (.ptr 3 0 0))), (13, I n61), (14, .w (.one (.ref 4 i62 n63))), (15, I n64), (94, .w (.one (.ref 4 i65 n66))), (95, I n67), (96, I x.1)], [.box [.p (pI n69), .p (pI n70)], .box [.ref 5 i71 n72, .p (pI n73), .p (pI n74)], .box [.p (.sl 3 [] true), .p (pI n75), .p (pI n76)], .box [.ref 5 i77 n78], .vec 1 es79 true, .vec 3 x.2 true]⟩
set_option maxRecDepth 100000 in
theorem f42_p34e0 (n_105 : Int) (n_106 : Int) (i_107 : Nat) (n_108 : Nat) (n_109 : Int) (i_110 : Nat) (n_111 : Nat) (n_112 : Int) (n_113 : Int) (n_114 : Int) (n_115 : Int) (i_116 : Nat) (n_117 : Nat) (n_118 : Int) (n_119 : Int) (n_120 : Int) (n_121 : Int) (i_122 : Nat) (n_123 : Nat) (es_124 : List (List PC)) (es_125 : List (List PC)) (N : St → Prop) (K : TExit → St → Prop) : (f42_p34b0 n_105 n_106 i_107 n_108 n_109 i_110 n_111 n_112 n_113 n_114 n_115 i_116 n_117 n_118 n_119 n_120 n_121 i_122 n_123 es_124 es_125 (fun z8 z20 => N (f42_p34_mk n_105 n_106 i_107 n_108 n_109 i_110 n_111 n_112 n_114 n_115 i_116 n_117 n_118 n_119 n_120 n_121 i_122 n_123 es_124 (z8, z20))) (fun es0_126 => K (.exit 2) ⟨mkS 162 [(4, I n_105), (5, .w (.one (.ptr 0 0 0))), (6, .w (.one (.ptr 1 0 0))), (10, .w (.one (.ptr 2 0 0))), (11, .w (.one (.ptr 3 0 0))), (13, I n_106), (14, .w (.one (.ref 4 i_107 n_108)))], [.box [.p (pI n_114), .p (pI n_115)], .box [.ref 5 i_116 n_117, .p (pI n_118), .p (pI n_119)], .box [.p (.sl 3 [] true), .p (pI n_120), .p (pI n_121)], .box [.ref 5 i_122 n_123], .vec 1 es_124 true, .vec 3 es0_126 true]⟩)) = execT f42_C (nthC (bodies (bodyOf Try.f42)) 1) (f42_p34_mk n_105 n_106 i_107 n_108 n_109 i_110 n_111 n_112 n_114 n_115 i_116 n_117 n_118 n_119 n_120 n_121 i_122 n_123 es_124 (n_113, es_125)) (loopK N (normK f42_C 34) fun e s => K e (normOut f42_C 34 e s)) := by kernel_rfl
set_option maxRecDepth 100000 in
theorem f42_p51e0 (n_127 : Int) (n_128 : Int) (i_129 : Nat) (n_130 : Nat) (n_131 : Int) (n_132 : Int) (n_133 : Int) (i_134 : Nat) (n_135 : Nat) (n_136 : Int) (n_137 : Int) (n_138 : Int) (n_139 : Int) (i_140 : Nat) (n_141 : Nat) (es_142 : List (List PC)) (es_143 : List (List PC)) (K : TExit → St → Prop) : (f42_p51 n_127 n_128 i_129 n_130 n_131 n_132 n_133 i_134 n_135 n_136 n_137 n_138 n_139 i_140 n_141 es_142 es_143 (fun n0_144 es0_145 => K .normal ⟨mkS 162 [(4, I n_127), (5, .w (.one (.ptr 0 0 0))), (6, .w (.one (.ptr 1 0 0))), (10, .w (.one (.ptr 2 0 0))), (11, .w (.one (.ptr 3 0 0))), (13, I n_128), (14, .w (.one (.ref 4 i_129 n_130))), (18, I n0_144)], [.box [.p (pI n_132), .p (pI n_133)], .box [.ref 5 i_134 n_135, .p (pI n_136), .p (pI n_137)], .box [.p (.sl 3 [] true), .p (pI n_138), .p (pI n_139)], .box [.ref 5 i_140 n_141], .vec 1 es_142 true, .vec 3 es0_145 true]⟩)) = execT f42_C (nthC (tails (bodyOf Try.f42)) 25) ⟨mkS 162 [(4, I n_127), (5, .w (.one (.ptr 0 0 0))), (6, .w (.one (.ptr 1 0 0))), (10, .w (.one (.ptr 2 0 0))), (11, .w (.one (.ptr 3 0 0))), (13, I n_128), (14, .w (.one (.ref 4 i_129 n_130))), (18, I n_131)], [.box [.p (pI n_132), .p (pI n_133)], .box [.ref 5 i_134 n_135, .p (pI n_136), .p (pI n_137)], .box [.p (.sl 3 [] true), .p (pI n_138), .p (pI n_139)], .box [.ref 5 i_140 n_141], .vec 1 es_142 true, .vec 3 es_143 true]⟩ (fun e s => K e (normOut f42_C 51 e s)) := by kernel_rfl
noncomputable def f42_p46_mk (n112 : Int) (n113 : Int) (i114 : Nat) (n115 : Nat) (n117 : Int) (n118 : Int) (i119 : Nat) (n120 : Nat) (n121 : Int) (n122 : Int) (n123 : Int) (n124 : Int) (i125 : Nat) (n126 : Nat) (es127 : List (List PC)) (x : Int × (List (List PC))) : St := ⟨mkS 162 [(4, I n112), (5, .w (.one (.ptr 0 0 0))), (6, .w (.one (.ptr 1 0 0))), (10, .w (.one (.ptr 2 0 0))), (11, .w (.one (.ptr 3 0 0))), (13, I n113), (14, .w (.one (.ref 4 i114 n115))), (18, I x.1)], [.box [.p (pI n117), .p (pI n118)], .box [.ref 5 i119 n120, .p (pI n121), .p (pI n122)], .box [.p (.sl 3 [] true), .p (pI n123), .p (pI n124)], .box [.ref 5 i125 n126], .vec 1 es127 true, .vec 3 x.2 true]⟩
set_option maxRecDepth 100000 in
theorem f42_p46e0 (n_163 : Int) (n_164 : Int) (i_165 : Nat) (n_166 : Nat) (n_167 : Int) (n_168 : Int) (n_169 : Int) (i_170 : Nat) (n_171 : Nat) (n_172 : Int) (n_173 : Int) (n_174 : Int) (n_175 : Int) (i_176 : Nat) (n_177 : Nat) (es_178 : List (List PC)) (es_179 : List (List PC)) (N : St → Prop) (K : TExit → St → Prop) : (f42_p46b0 n_163 n_164 i_165 n_166 n_167 n_168 n_169 i_170 n_171 n_172 n_173 n_174 n_175 i_176 n_177 es_178 es_179 (fun z4 z16 => N (f42_p46_mk n_163 n_164 i_165 n_166 n_168 n_169 i_170 n_171 n_172 n_173 n_174 n_175 i_176 n_177 es_178 (z4, z16))) (fun es0_180 => K (.exit 4) ⟨mkS 162 [(4, I n_163), (5, .w (.one (.ptr 0 0 0))), (6, .w (.one (.ptr 1 0 0))), (10, .w (.one (.ptr 2 0 0))), (11, .w (.one (.ptr 3 0 0))), (13, I n_164), (14, .w (.one (.ref 4 i_165 n_166)))], [.box [.p (pI n_168), .p (pI n_169)], .box [.ref 5 i_170 n_171, .p (pI n_172), .p (pI n_173)], .box [.p (.sl 3 [] true), .p (pI n_174), .p (pI n_175)], .box [.ref 5 i_176 n_177], .vec 1 es_178 true, .vec 3 es0_180 true]⟩)) = execT f42_C (nthC (bodies (bodyOf Try.f42)) 2) (f42_p46_mk n_163 n_164 i_165 n_166 n_168 n_169 i_170 n_171 n_172 n_173 n_174 n_175 i_176 n_177 es_178 (n_167, es_179)) (loopK N (normK f42_C 46) fun e s => K e (normOut f42_C 46 e s)) := by kernel_rfl
set_option maxHeartbeats 4000000 in
theorem f42_p19_ok : TailOk f42_C (nthC (tails (bodyOf Try.f42)) 10) := by
  refine TailOk.of f42_p19L (by kernel_rfl) fun σ K h => ?_
  have hk : joinKey (nthC (tails (bodyOf Try.f42)) 10) = 19 := by kernel_rfl
  rw [hk] at h ⊢
  generalize hs : normK f42_C 19 σ = s at h
  obtain ⟨tm, hp⟩ := s
  unfold f42_p19L at h
  dsimp only at h
  obtain ⟨xx, yy, rfl, rfl, h⟩ := getS_elim h
  have q : normK f42_C 19 σ = (⟨mkS 162 [(2, I xx.2.1), (3, .w (.one (.p (.sl 1 xx.2.2.1.1 xx.2.2.1.2)))), (4, I xx.2.2.2.1), (5, .w (.one (.ptr 0 0 0))), (6, .w (.one (.ptr 1 0 0))), (10, .w (.one (.ptr 2 0 0))), (11, .w (.one (.ptr 3 0 0))), (12, I xx.2.2.2.2.2.2.2.2.2.1), (31, I xx.2.2.2.2.2.2.2.2.2.2.2.1), (32, I xx.2.2.2.2.2.2.2.2.2.2.2.2.1)], [.box [.p (pI yy.1.1), .p (pI yy.1.2.1)], .box [.ref 4 yy.2.1.1.1 yy.2.1.1.2, .p (pI yy.2.1.2.1), .p (pI yy.2.1.2.2.1)], .box [.p (.sl 3 [] true), .p (pI yy.2.2.1.2.1), .p (pI yy.2.2.1.2.2.1)], .box [.ref 4 yy.2.2.2.1.1.1 yy.2.2.2.1.1.2], .vec 3 yy.2.2.2.2.1 true]⟩ : St) := hs.trans (by kernel_rfl)
  rw [← hs, q, ← f42_p19e0 xx.2.1 xx.2.2.1.1 xx.2.2.1.2 xx.2.2.2.1 xx.2.2.2.2.2.2.2.2.2.1 xx.2.2.2.2.2.2.2.2.2.2.2.1 xx.2.2.2.2.2.2.2.2.2.2.2.2.1 yy.1.1 yy.1.2.1 yy.2.1.1.1 yy.2.1.1.2 yy.2.1.2.1 yy.2.1.2.2.1 yy.2.2.1.2.1 yy.2.2.1.2.2.1 yy.2.2.2.1.1.1 yy.2.2.2.1.1.2 yy.2.2.2.2.1 K]
  exact h
set_option maxHeartbeats 4000000 in
theorem f42_p10_ok : LoopOk f42_C (nthC (bodies (bodyOf Try.f42)) 0) := by
  refine LoopOk.of f42_p10L (by kernel_rfl) fun σ K h => ?_
  have hk : loopKey (nthC (bodies (bodyOf Try.f42)) 0) = 10 := by kernel_rfl
  rw [hk] at h ⊢
  generalize hs : normK f42_C 10 σ = s at h
  obtain ⟨tm, hp⟩ := s
  unfold f42_p10L at h
  dsimp only at h
  obtain ⟨xx, yy, rfl, rfl, h⟩ := getS_elim h
  refine iter_of (f42_p10_mk xx.2.1 xx.2.2.1.1 xx.2.2.1.2 xx.2.2.2.1 xx.2.2.2.2.2.2.2.2.2.2.1 yy.1.1 yy.1.2.1 yy.2.1.1.1 yy.2.1.1.2 yy.2.1.2.1 yy.2.1.2.2.1 yy.2.2.1.2.1 yy.2.2.1.2.2.1 yy.2.2.2.1.1.1 yy.2.2.2.1.1.2) (fun x N h => ?_) rounds _ σ (hs.trans (by kernel_rfl)) (LoopP.run h)
  obtain ⟨y0, y1⟩ := x
  rw [← f42_p10e0 xx.2.1 xx.2.2.1.1 xx.2.2.1.2 xx.2.2.2.1 xx.2.2.2.2.2.2.2.2.2.2.1 y0 yy.1.1 yy.1.2.1 yy.2.1.1.1 yy.2.1.1.2 yy.2.1.2.1 yy.2.1.2.2.1 yy.2.2.1.2.1 yy.2.2.1.2.2.1 yy.2.2.2.1.1.1 yy.2.2.2.1.1.2 y1 N K]
  exact h
set_option maxHeartbeats 4000000 in
theorem f42_p53_ok : TailOk f42_C (nthC (tails (bodyOf Try.f42)) 15) := by
  refine TailOk.of f42_p53L (by kernel_rfl) fun σ K h => ?_
  have hk : joinKey (nthC (tails (bodyOf Try.f42)) 15) = 53 := by kernel_rfl
  rw [hk] at h ⊢
  generalize hs : normK f42_C 53 σ = s at h
  obtain ⟨tm, hp⟩ := s
  unfold f42_p53L at h
  dsimp only at h
  obtain ⟨xx, yy, rfl, rfl, h⟩ := getS_elim h
  have q : normK f42_C 53 σ = (⟨mkS 162 [(4, I xx.2.1), (5, .w (.one (.ptr 0 0 0))), (6, .w (.one (.ptr 1 0 0))), (10, .w (.one (.ptr 2 0 0))), (11, .w (.one (.ptr 3 0 0))), (13, I xx.2.2.2.2.2.2.2.2.1), (14, .w (.one (.ref 4 xx.2.2.2.2.2.2.2.2.2.1.1 xx.2.2.2.2.2.2.2.2.2.1.2)))], [.box [.p (pI yy.1.1), .p (pI yy.1.2.1)], .box [.ref 5 yy.2.1.1.1 yy.2.1.1.2, .p (pI yy.2.1.2.1), .p (pI yy.2.1.2.2.1)], .box [.p (.sl 3 [] true), .p (pI yy.2.2.1.2.1), .p (pI yy.2.2.1.2.2.1)], .box [.ref 5 yy.2.2.2.1.1.1 yy.2.2.2.1.1.2], .vec 1 yy.2.2.2.2.1 true, .vec 3 yy.2.2.2.2.2.1 true]⟩ : St) := hs.trans (by kernel_rfl)
  rw [← hs, q, ← f42_p53e0 xx.2.1 xx.2.2.2.2.2.2.2.2.1 xx.2.2.2.2.2.2.2.2.2.1.1 xx.2.2.2.2.2.2.2.2.2.1.2 yy.1.1 yy.1.2.1 yy.2.1.1.1 yy.2.1.1.2 yy.2.1.2.1 yy.2.1.2.2.1 yy.2.2.1.2.1 yy.2.2.1.2.2.1 yy.2.2.2.1.1.1 yy.2.2.2.1.1.2 yy.2.2.2.2.1 yy.2.2.2.2.2.1 K]
  exact h
set_option maxHeartbeats 4000000 in
theorem f42_p34_ok : LoopOk f42_C (nthC (bodies (bodyOf Try.f42)) 1) := by
  refine LoopOk.of f42_p34L (by kernel_rfl) fun σ K h => ?_
  have hk : loopKey (nthC (bodies (bodyOf Try.f42)) 1) = 34 := by kernel_rfl
  rw [hk] at h ⊢
  generalize hs : normK f42_C 34 σ = s at h
  obtain ⟨tm, hp⟩ := s
  unfold f42_p34L at h
  dsimp only at h
  obtain ⟨xx, yy, rfl, rfl, h⟩ := getS_elim h
  refine iter_of (f42_p34_mk xx.2.1 xx.2.2.2.2.2.2.2.2.1 xx.2.2.2.2.2.2.2.2.2.1.1 xx.2.2.2.2.2.2.2.2.2.1.2 xx.2.2.2.2.2.2.2.2.2.2.1 xx.2.2.2.2.2.2.2.2.2.2.2.2.1.1 xx.2.2.2.2.2.2.2.2.2.2.2.2.1.2 xx.2.2.2.2.2.2.2.2.2.2.2.2.2.1 yy.1.1 yy.1.2.1 yy.2.1.1.1 yy.2.1.1.2 yy.2.1.2.1 yy.2.1.2.2.1 yy.2.2.1.2.1 yy.2.2.1.2.2.1 yy.2.2.2.1.1.1 yy.2.2.2.1.1.2 yy.2.2.2.2.1) (fun x N h => ?_) rounds _ σ (hs.trans (by kernel_rfl)) (LoopP.run h)
  obtain ⟨y0, y1⟩ := x
  rw [← f42_p34e0 xx.2.1 xx.2.2.2.2.2.2.2.2.1 xx.2.2.2.2.2.2.2.2.2.1.1 xx.2.2.2.2.2.2.2.2.2.1.2 xx.2.2.2.2.2.2.2.2.2.2.1 xx.2.2.2.2.2.2.2.2.2.2.2.2.1.1 xx.2.2.2.2.2.2.2.2.2.2.2.2.1.2 xx.2.2.2.2.2.2.2.2.2.2.2.2.2.1 y0 yy.1.1 yy.1.2.1 yy.2.1.1.1 yy.2.1.1.2 yy.2.1.2.1 yy.2.1.2.2.1 yy.2.2.1.2.1 yy.2.2.1.2.2.1 yy.2.2.2.1.1.1 yy.2.2.2.1.1.2 yy.2.2.2.2.1 y1 N K]
  exact h
set_option maxHeartbeats 4000000 in
theorem f42_p51_ok : TailOk f42_C (nthC (tails (bodyOf Try.f42)) 25) := by
  refine TailOk.of f42_p51L (by kernel_rfl) fun σ K h => ?_
  have hk : joinKey (nthC (tails (bodyOf Try.f42)) 25) = 51 := by kernel_rfl
  rw [hk] at h ⊢
  generalize hs : normK f42_C 51 σ = s at h
  obtain ⟨tm, hp⟩ := s
  unfold f42_p51L at h
  dsimp only at h
  obtain ⟨xx, yy, rfl, rfl, h⟩ := getS_elim h
  have q : normK f42_C 51 σ = (⟨mkS 162 [(4, I xx.2.1), (5, .w (.one (.ptr 0 0 0))), (6, .w (.one (.ptr 1 0 0))), (10, .w (.one (.ptr 2 0 0))), (11, .w (.one (.ptr 3 0 0))), (13, I xx.2.2.2.2.2.2.2.2.1), (14, .w (.one (.ref 4 xx.2.2.2.2.2.2.2.2.2.1.1 xx.2.2.2.2.2.2.2.2.2.1.2))), (18, I xx.2.2.2.2.2.2.2.2.2.2.2.1)], [.box [.p (pI yy.1.1), .p (pI yy.1.2.1)], .box [.ref 5 yy.2.1.1.1 yy.2.1.1.2, .p (pI yy.2.1.2.1), .p (pI yy.2.1.2.2.1)], .box [.p (.sl 3 [] true), .p (pI yy.2.2.1.2.1), .p (pI yy.2.2.1.2.2.1)], .box [.ref 5 yy.2.2.2.1.1.1 yy.2.2.2.1.1.2], .vec 1 yy.2.2.2.2.1 true, .vec 3 yy.2.2.2.2.2.1 true]⟩ : St) := hs.trans (by kernel_rfl)
  rw [← hs, q, ← f42_p51e0 xx.2.1 xx.2.2.2.2.2.2.2.2.1 xx.2.2.2.2.2.2.2.2.2.1.1 xx.2.2.2.2.2.2.2.2.2.1.2 xx.2.2.2.2.2.2.2.2.2.2.2.1 yy.1.1 yy.1.2.1 yy.2.1.1.1 yy.2.1.1.2 yy.2.1.2.1 yy.2.1.2.2.1 yy.2.2.1.2.1 yy.2.2.1.2.2.1 yy.2.2.2.1.1.1 yy.2.2.2.1.1.2 yy.2.2.2.2.1 yy.2.2.2.2.2.1 K]
  exact h
set_option maxHeartbeats 4000000 in
theorem f42_p46_ok : LoopOk f42_C (nthC (bodies (bodyOf Try.f42)) 2) := by
  refine LoopOk.of f42_p46L (by kernel_rfl) fun σ K h => ?_
  have hk : loopKey (nthC (bodies (bodyOf Try.f42)) 2) = 46 := by kernel_rfl
  rw [hk] at h ⊢
  generalize hs : normK f42_C 46 σ = s at h
  obtain ⟨tm, hp⟩ := s
  unfold f42_p46L at h
  dsimp only at h
  obtain ⟨xx, yy, rfl, rfl, h⟩ := getS_elim h
  refine iter_of (f42_p46_mk xx.2.1 xx.2.2.2.2.2.2.2.2.1 xx.2.2.2.2.2.2.2.2.2.1.1 xx.2.2.2.2.2.2.2.2.2.1.2 yy.1.1 yy.1.2.1 yy.2.1.1.1 yy.2.1.1.2 yy.2.1.2.1 yy.2.1.2.2.1 yy.2.2.1.2.1 yy.2.2.1.2.2.1 yy.2.2.2.1.1.1 yy.2.2.2.1.1.2 yy.2.2.2.2.1) (fun x N h => ?_) rounds _ σ (hs.trans (by kernel_rfl)) (LoopP.run h)
  obtain ⟨y0, y1⟩ := x
  rw [← f42_p46e0 xx.2.1 xx.2.2.2.2.2.2.2.2.1 xx.2.2.2.2.2.2.2.2.2.1.1 xx.2.2.2.2.2.2.2.2.2.1.2 y0 yy.1.1 yy.1.2.1 yy.2.1.1.1 yy.2.1.1.2 yy.2.1.2.1 yy.2.1.2.2.1 yy.2.2.1.2.1 yy.2.2.1.2.2.1 yy.2.2.2.1.1.1 yy.2.2.2.1.1.2 yy.2.2.2.2.1 y1 N K]
  exact h
noncomputable def f42_G0 : List TV → List Entry → (TV → List Entry → Prop) → Prop := fun tm hp K => getS [.v (.pagg [.int .i64, .int .i64]), .v (.pagg [.sl 3, .int .i64, .int .i64]), .v (.one (.int .i64)), .v (.one (.sl 1)), .v (.one (.int .i64))] [] tm hp fun (xx : ((Int × (Int × Unit)) × (((List (List PC) × Bool) × (Int × (Int × Unit))) × (Int × ((List (List PC) × Bool) × (Int × Unit)))))) (yy : Unit) => f42 xx.1.1 xx.1.2.1 xx.2.1.1.1 xx.2.1.1.2 xx.2.1.2.1 xx.2.1.2.2.1 xx.2.2.1 xx.2.2.2.1.1 xx.2.2.2.1.2 xx.2.2.2.2.1 (fun es0_8 full0_9 n0_10 n0_11 => K (.w (.pagg [.sl 3 es0_8 full0_9, pI n0_10, pI n0_11])) [])
set_option maxRecDepth 100000 in
theorem f42_eq (n_181 : Int) (n_182 : Int) (es_183 : List (List PC)) (full_184 : Bool) (n_185 : Int) (n_186 : Int) (n_187 : Int) (es_188 : List (List PC)) (full_189 : Bool) (n_190 : Int) (K : TV → List Entry → Prop) : (f42_d n_181 n_182 es_183 full_184 n_185 n_186 n_187 es_188 full_189 n_190 (fun es0_8 full0_9 n0_10 n0_11 => K (.w (.pagg [.sl 3 es0_8 full0_9, pI n0_10, pI n0_11])) [])) = funcT f42_C Try.f42 [.w (.pagg [pI n_181, pI n_182]), .w (.pagg [.sl 3 es_183 full_184, pI n_185, pI n_186]), I n_187, .w (.one (.p (.sl 1 es_188 full_189))), I n_190] [] K := by kernel_rfl
set_option maxHeartbeats 4000000 in
theorem f42_ok0 : FnOk Try.prog glob 42 f42_G0 := by
  refine FnOk.of_text (C := f42_C) tab_ok.ok (Known.add f49_G_ok (Known.add f39_1_G_ok (Known.add f20_G_ok (Known.none)))) follows_ok (fn := Try.f42) (by kernel_rfl) (by kernel_rfl) (by kernel_rfl) (fun c hc => ?_) fun tm hp K h => ?_
  · have e : c = bodyOf Try.f42 := Option.some.inj (hc.symm.trans (by kernel_rfl))
    subst e
    exact ⟨LoopsOk.of [nthC (bodies (bodyOf Try.f42)) 0, nthC (bodies (bodyOf Try.f42)) 1, nthC (bodies (bodyOf Try.f42)) 2] (by kernel_rfl) ⟨f42_p10_ok, f42_p34_ok, f42_p46_ok, trivial⟩, TailsOk.of (tab := f42_tab) rfl [nthC (tails (bodyOf Try.f42)) 10, nthC (tails (bodyOf Try.f42)) 15, nthC (tails (bodyOf Try.f42)) 25] (by kernel_rfl) ⟨f42_p19_ok, f42_p53_ok, f42_p51_ok, trivial⟩⟩
  · unfold f42_G0 at h
    obtain ⟨xx, yy, rfl, rfl, h⟩ := getS_elim h
    have e := (f42_eq xx.1.1 xx.1.2.1 xx.2.1.1.1 xx.2.1.1.2 xx.2.1.2.1 xx.2.1.2.2.1 xx.2.2.1 xx.2.2.2.1.1 xx.2.2.2.1.2 xx.2.2.2.2.1 K).trans (show _ = funcT f42_C Try.f42 (mkR _ xx) (mkE _ yy) K by kernel_rfl)
    rw [← e]
    exact h.run
noncomputable abbrev f42_G := f42_G0
theorem f42_G_ok : FnOk Try.prog glob 42 f42_G := f42_ok0
end Go.Eng.N
set_option linter.unusedVariables false
set_option maxRecDepth 100000
open Go Go.Eng Go.Proofs
namespace Go.Eng.N
/-! ### f44: plenum/plenumref55.step -/
noncomputable def f44_p23 (n60 : Int) (es61 : List (List PC)) (full62 : Bool) (n63 : Int) (n64 : Int) (n65 : Int) (n66 : Int) (n67 : Int) (es68 : List (List PC)) (full69 : Bool) (n70 : Int) (n71 : Int) (n72 : Int) (n73 : Int) (i74 : Nat) (n75 : Nat) (n76 : Int) (n77 : Int) (n78 : Int) (b79 : Bool) (b80 : Bool) (es81 : List (List PC)) (k0 : Int → Nat → Nat → (List (List PC)) → Prop) : Prop := (0 ≤ n65 ∧ n65 < ((es61.length : Nat) : Int)) ∧ oB (ext (List.getD es61 (Int.toNat n65) []) 0 1) fun b82 => bB (!b82) ((i74 + n75) ≤ es81.length ∧ (n75 + 1) * 16 ≤ 2 ^ 46 ∧ (n75 + 1) ≤ 2 ^ 46 ∧ k0 (w64 (n64 + 1)) 0 (n75 + 1) ((List.take n75 (List.drop i74 es81)) ++ [[pI n78, pB b79, pB b80]])) ((i74 + n75) ≤ es81.length ∧ (n75 + 1) * 16 ≤ 2 ^ 46 ∧ (n75 + 1) ≤ 2 ^ 46 ∧ k0 n64 0 (n75 + 1) ((List.take n75 (List.drop i74 es81)) ++ [[pI n78, pB b79, pB b80]]))
noncomputable def f44_p19 (n36 : Int) (es37 : List (List PC)) (full38 : Bool) (n39 : Int) (n40 : Int) (n41 : Int) (n42 : Int) (n43 : Int) (es44 : List (List PC)) (full45 : Bool) (n46 : Int) (n47 : Int) (n48 : Int) (n49 : Int) (i50 : Nat) (n51 : Nat) (n52 : Int) (n53 : Int) (n54 : Int) (b55 : Bool) (b56 : Bool) (es57 : List (List PC)) (k0 : Int → Nat → Nat → (List (List PC)) → Prop) : Prop := (0 ≤ n41 ∧ n41 < ((es37.length : Nat) : Int)) ∧ oB (ext (List.getD es37 (Int.toNat n41) []) 0 1) fun b58 => bB b55 ((0 ≤ n41 ∧ n41 < ((es37.length : Nat) : Int)) ∧ oB (ext (List.getD es37 (Int.toNat n41) []) 0 1) fun b59 => f44_p23 n36 es37 full38 n39 n40 n41 n42 n43 es44 full45 n46 n47 n48 n49 i50 n51 n52 n53 n54 (!b59) b58 es57 (fun n83 i84 n85 es86 => k0 n83 i84 n85 es86)) (f44_p23 n36 es37 full38 n39 n40 n41 n42 n43 es44 full45 n46 n47 n48 n49 i50 n51 n52 n53 n54 false b58 es57 (fun n87 i88 n89 es90 => k0 n87 i88 n89 es90))
noncomputable def f44_p8b0 (n11 : Int) (es12 : List (List PC)) (full13 : Bool) (n14 : Int) (n15 : Int) (n16 : Int) (n17 : Int) (n18 : Int) (es19 : List (List PC)) (full20 : Bool) (n21 : Int) (n22 : Int) (n23 : Int) (n24 : Int) (i25 : Nat) (n26 : Nat) (n27 : Int) (n28 : Int) (es29 : List (List PC)) (N0 : Int → Int → Nat → Nat → (List (List PC)) → Prop) (k0 : Int → Nat → Nat → (List (List PC)) → Prop) : Prop := bB (decide (n16 < ((es19.length : Nat) : Int))) ((0 ≤ n16 ∧ n16 < ((es19.length : Nat) : Int)) ∧ cI .i64 (ext (List.getD es19 (Int.toNat n16) []) 0 3) fun n31 r30 => cB r30 fun b33 r32 => cB r32 fun b35 r34 => nilC r34 <| bB b33 (f44_p19 n11 es12 full13 n14 n15 n16 n17 n18 es19 full20 n21 n22 n23 n24 i25 n26 n27 n28 (if (w64 (n31 + 1)) < 6311433599 then (w64 (n31 + 1)) else 6311433599) b33 b35 es29 (fun n91 i92 n93 es94 => N0 n91 (w64 (n16 + 1)) i92 n93 es94)) (f44_p19 n11 es12 full13 n14 n15 n16 n17 n18 es19 full20 n21 n22 n23 n24 i25 n26 n27 n28 n31 b33 b35 es29 (fun n95 i96 n97 es98 => N0 n95 (w64 (n16 + 1)) i96 n97 es98))) (k0 n15 i25 n26 es29)
noncomputable def f44_p8 (n11 : Int) (es12 : List (List PC)) (full13 : Bool) (n14 : Int) (n17 : Int) (n18 : Int) (es19 : List (List PC)) (full20 : Bool) (n21 : Int) (n22 : Int) (n23 : Int) (n24 : Int) (n27 : Int) (n28 : Int) (k0 : Int → Nat → Nat → (List (List PC)) → Prop) : Int × Int × Nat × Nat × (List (List PC)) → Prop := LoopP fun x N => f44_p8b0 n11 es12 full13 n14 x.1 x.2.1 n17 n18 es19 full20 n21 n22 n23 n24 x.2.2.1 x.2.2.2.1 n27 n28 x.2.2.2.2 (fun n15 n16 i25 n26 es29 => N (n15, n16, i25, n26, es29)) k0
noncomputable def f44_p58b0 (n155 : Int) (i156 : Nat) (n157 : Nat) (n158 : Int) (n159 : Int) (n160 : Int) (i161 : Nat) (n162 : Nat) (n163 : Int) (n164 : Int) (es165 : List (List PC)) (es166 : List (List PC)) (N0 : Int → Prop) (k0 : Int → Prop) : Prop := (0 ≤ n158 ∧ n158 < ((n157 : Nat) : Int)) ∧ oI .i64 (ext (List.getD es165 (i156 + (Int.toNat n158)) []) 0 1) fun n167 => (0 ≤ n167 ∧ n167 < ((n162 : Nat) : Int)) ∧ oB (ext (List.getD es166 (i161 + (Int.toNat n167)) []) 1 1) fun b168 => bB b168 (N0 (w64 (n158 + 1))) (k0 n158)
noncomputable def f44_p58 (n155 : Int) (i156 : Nat) (n157 : Nat) (n159 : Int) (n160 : Int) (i161 : Nat) (n162 : Nat) (n163 : Int) (n164 : Int) (es165 : List (List PC)) (es166 : List (List PC)) (k0 : Int → Prop) : Int → Prop := LoopP fun x N => f44_p58b0 n155 i156 n157 x n159 n160 i161 n162 n163 n164 es165 es166 (fun n158 => N n158) k0
noncomputable def f44_p55 (n133 : Int) (n134 : Int) (i135 : Nat) (n136 : Nat) (n137 : Int) (n138 : Int) (es139 : List (List PC)) (full140 : Bool) (n141 : Int) (n142 : Int) (n143 : Int) (n144 : Int) (i145 : Nat) (n146 : Nat) (n147 : Int) (n148 : Int) (es149 : List (List PC)) (es150 : List (List PC)) (k0 : Int → (List (List PC)) → Prop) : Prop := f23 i145 n146 n147 n148 es150 (fun i151 n152 es153 es154 => bB (decide (((n152 : Nat) : Int) < n134)) (bB (n141 == (-1)) (f44_p58 n133 i135 n136 n143 n144 i145 n146 n147 n148 es149 es153 (fun n169 => (0 ≤ n169 ∧ n169 < ((n136 : Nat) : Int)) ∧ oI .i64 (ext (List.getD es149 (i135 + (Int.toNat n169)) []) 0 1) fun n170 => (0 ≤ n170 ∧ n170 < ((n146 : Nat) : Int)) ∧ (i145 + (Int.toNat n170)) < es153.length ∧ k0 n133 (List.set es153 (i145 + (Int.toNat n170)) (splice (List.getD es153 (i145 + (Int.toNat n170)) []) 1 [pB true]))) 0) (bB (decide (n133 ≥ (w64 (n141 + n138)))) (f44_p58 n133 i135 n136 n143 n144 i145 n146 n147 n148 es149 es153 (fun n171 => (0 ≤ n171 ∧ n171 < ((n136 : Nat) : Int)) ∧ oI .i64 (ext (List.getD es149 (i135 + (Int.toNat n171)) []) 0 1) fun n172 => (0 ≤ n172 ∧ n172 < ((n146 : Nat) : Int)) ∧ (i145 + (Int.toNat n172)) < es153.length ∧ k0 n133 (List.set es153 (i145 + (Int.toNat n172)) (splice (List.getD es153 (i145 + (Int.toNat n172)) []) 1 [pB true]))) 0) (k0 n147 es153))) (k0 n147 es153))
noncomputable def f44_p38b0 (n111 : Int) (n112 : Int) (i113 : Nat) (n114 : Nat) (n115 : Int) (n116 : Int) (n117 : Int) (n118 : Int) (es119 : List (List PC)) (full120 : Bool) (n121 : Int) (n122 : Int) (n123 : Int) (n124 : Int) (i125 : Nat) (n126 : Nat) (n127 : Int) (n128 : Int) (es129 : List (List PC)) (es130 : List (List PC)) (N0 : Int → (List (List PC)) → Prop) (k0 : (List (List PC)) → Prop) : Prop := bB (decide (n116 < ((n114 : Nat) : Int))) ((0 ≤ n116 ∧ n116 < ((n114 : Nat) : Int)) ∧ oI .i64 (ext (List.getD es129 (i113 + (Int.toNat n116)) []) 0 1) fun n131 => (0 ≤ n131 ∧ n131 < ((n126 : Nat) : Int)) ∧ (i125 + (Int.toNat n131)) < es130.length ∧ N0 (w64 (n116 + 1)) (List.set es130 (i125 + (Int.toNat n131)) (splice (List.getD es130 (i125 + (Int.toNat n131)) []) 1 [pB (decide (n116 < n115))]))) (k0 es130)
noncomputable def f44_p38 (n111 : Int) (n112 : Int) (i113 : Nat) (n114 : Nat) (n115 : Int) (n117 : Int) (n118 : Int) (es119 : List (List PC)) (full120 : Bool) (n121 : Int) (n122 : Int) (n123 : Int) (n124 : Int) (i125 : Nat) (n126 : Nat) (n127 : Int) (n128 : Int) (es129 : List (List PC)) (k0 : (List (List PC)) → Prop) : Int × (List (List PC)) → Prop := LoopP fun x N => f44_p38b0 n111 n112 i113 n114 n115 x.1 n117 n118 es119 full120 n121 n122 n123 n124 i125 n126 n127 n128 es129 x.2 (fun n116 es130 => N (n116, es130)) k0
noncomputable def f44_p53 (n198 : Int) (n199 : Int) (i200 : Nat) (n201 : Nat) (n202 : Int) (n203 : Int) (n204 : Int) (es205 : List (List PC)) (full206 : Bool) (n207 : Int) (n208 : Int) (n209 : Int) (n210 : Int) (i211 : Nat) (n212 : Nat) (n213 : Int) (n214 : Int) (es215 : List (List PC)) (es216 : List (List PC)) (k0 : Int → (List (List PC)) → Prop) : Prop := (0 ≤ n202 ∧ n202 < ((n201 : Nat) : Int)) ∧ oI .i64 (ext (List.getD es215 (i200 + (Int.toNat n202)) []) 0 1) fun n217 => (0 ≤ n217 ∧ n217 < ((n212 : Nat) : Int)) ∧ (i211 + (Int.toNat n217)) < es216.length ∧ k0 (w64 (n202 - 1)) (List.set es216 (i211 + (Int.toNat n217)) (splice (List.getD es216 (i211 + (Int.toNat n217)) []) 1 [pB false]))
noncomputable def f44_p48b0 (n175 : Int) (n176 : Int) (i177 : Nat) (n178 : Nat) (n179 : Int) (n180 : Int) (n181 : Int) (es182 : List (List PC)) (full183 : Bool) (n184 : Int) (n185 : Int) (n186 : Int) (n187 : Int) (i188 : Nat) (n189 : Nat) (n190 : Int) (n191 : Int) (es192 : List (List PC)) (es193 : List (List PC)) (N0 : Int → (List (List PC)) → Prop) (k0 : (List (List PC)) → Prop) : Prop := bB (decide (n179 ≥ 0)) (f23 i188 n189 n190 n191 es193 (fun i194 n195 es196 es197 => bB (decide (((n195 : Nat) : Int) > n176)) (f44_p53 n175 n176 i177 n178 n179 n180 n181 es182 full183 n184 n185 n186 n187 i188 n189 n190 n191 es192 es196 (fun n218 es219 => N0 n218 es219)) (k0 es196))) (k0 es193)
noncomputable def f44_p48 (n175 : Int) (n176 : Int) (i177 : Nat) (n178 : Nat) (n180 : Int) (n181 : Int) (es182 : List (List PC)) (full183 : Bool) (n184 : Int) (n185 : Int) (n186 : Int) (n187 : Int) (i188 : Nat) (n189 : Nat) (n190 : Int) (n191 : Int) (es192 : List (List PC)) (k0 : (List (List PC)) → Prop) : Int × (List (List PC)) → Prop := LoopP fun x N => f44_p48b0 n175 n176 i177 n178 x.1 n180 n181 es182 full183 n184 n185 n186 n187 i188 n189 n190 n191 es192 x.2 (fun n179 es193 => N (n179, es193)) k0
noncomputable def f44_d (n1 : Int) (n2 : Int) (es3 : List (List PC)) (full4 : Bool) (n5 : Int) (n6 : Int) (n7 : Int) (es8 : List (List PC)) (full9 : Bool) (n10 : Int) (k0 : (List (List PC)) → Bool → Int → Int → Prop) : Prop := f44_p8 n7 es8 full9 n10 n1 n2 es3 full4 n5 n6 0 0 n5 n6 (fun n99 i100 n101 es102 => f21 i100 n101 n5 n6 es102 (fun i103 n104 es105 es106 => bB (decide (n10 ≥ (w64 (n6 + n1)))) (f23 i100 n101 n5 n6 es105 (fun i107 n108 es109 es110 => f44_p38 n10 (if (if n99 < n7 then n99 else n7) > 0 then (if n99 < n7 then n99 else n7) else 0) i103 n104 (if ((n108 : Nat) : Int) < (if (if n99 < n7 then n99 else n7) > 0 then (if n99 < n7 then n99 else n7) else 0) then ((n108 : Nat) : Int) else (if (if n99 < n7 then n99 else n7) > 0 then (if n99 < n7 then n99 else n7) else 0)) n1 n2 es3 full4 n5 n6 0 0 i100 n101 n5 n6 es106 (fun es132 => f44_p55 n10 (if (if n99 < n7 then n99 else n7) > 0 then (if n99 < n7 then n99 else n7) else 0) i103 n104 n1 n2 es3 full4 n5 n6 0 0 i100 n101 n5 n10 es106 es132 (fun n173 es174 => k0 (List.take n101 (List.drop i100 es174)) false n173 n10)) (0, es109))) (f44_p48 n10 (if (if n99 < n7 then n99 else n7) > 0 then (if n99 < n7 then n99 else n7) else 0) i103 n104 n1 n2 es3 full4 n5 n6 0 0 i100 n101 n5 n6 es106 (fun es220 => f44_p55 n10 (if (if n99 < n7 then n99 else n7) > 0 then (if n99 < n7 then n99 else n7) else 0) i103 n104 n1 n2 es3 full4 n5 n6 0 0 i100 n101 n5 n6 es106 es220 (fun n221 es222 => k0 (List.take n101 (List.drop i100 es222)) false n221 n6)) ((w64 (((n104 : Nat) : Int) - 1)), es105)))) (0, 0, 0, 0, [])
structure f44 (n1 : Int) (n2 : Int) (es3 : List (List PC)) (full4 : Bool) (n5 : Int) (n6 : Int) (n7 : Int) (es8 : List (List PC)) (full9 : Bool) (n10 : Int) (k0 : (List (List PC)) → Bool → Int → Int → Prop) : Prop where
  run : f44_d n1 n2 es3 full4 n5 n6 n7 es8 full9 n10 k0
noncomputable def f44_p23L : Told := fun s K => match s with
  | ⟨tm, hp⟩ => getS [.skip 2, .v (.one (.int .i64)), .v (.one (.sl 1)), .v (.one (.int .i64)), .v (.one (.ptr 0 0 0)), .v (.one (.ptr 1 0 0)), .skip 3, .v (.one (.ptr 2 0 0)), .v (.one (.ptr 3 0 0)), .v (.one (.int .i64)), .v (.one (.int .i64)), .v (.one (.ptr 4 0 0)), .skip 158] [.box [.int .i64, .int .i64], .box [.sl 3, .int .i64, .int .i64], .box [.nil 3, .int .i64, .int .i64], .box [.ref 5, .int .i64, .int .i64], .box [.int .i64, .bool, .bool], .vec 3 true] tm hp fun (xx : (Unit × (Int × ((List (List PC) × Bool) × (Int × (Unit × (Unit × (Unit × (Unit × (Unit × (Int × (Int × (Unit × (Unit × Unit)))))))))))))) (yy : ((Int × (Int × Unit)) × (((List (List PC) × Bool) × (Int × (Int × Unit))) × ((Unit × (Int × (Int × Unit))) × (((Nat × Nat) × (Int × (Int × Unit))) × ((Int × (Bool × (Bool × Unit))) × ((List (List PC)) × Unit))))))) => f44_p23 xx.2.1 xx.2.2.1.1 xx.2.2.1.2 xx.2.2.2.1 xx.2.2.2.2.2.2.2.2.2.1 xx.2.2.2.2.2.2.2.2.2.2.1 yy.1.1 yy.1.2.1 yy.2.1.1.1 yy.2.1.1.2 yy.2.1.2.1 yy.2.1.2.2.1 yy.2.2.1.2.1 yy.2.2.1.2.2.1 yy.2.2.2.1.1.1 yy.2.2.2.1.1.2 yy.2.2.2.1.2.1 yy.2.2.2.1.2.2.1 yy.2.2.2.2.1.1 yy.2.2.2.2.1.2.1 yy.2.2.2.2.1.2.2.1 yy.2.2.2.2.2.1 (fun n0_0 i0_1 n0_2 es0_3 => K .normal ⟨mkS 173 [(2, I xx.2.1), (3, .w (.one (.p (.sl 1 xx.2.2.1.1 xx.2.2.1.2)))), (4, I xx.2.2.2.1), (5, .w (.one (.ptr 0 0 0))), (6, .w (.one (.ptr 1 0 0))), (10, .w (.one (.ptr 2 0 0))), (11, .w (.one (.ptr 3 0 0))), (12, I n0_0), (13, I xx.2.2.2.2.2.2.2.2.2.2.1)], [.box [.p (pI yy.1.1), .p (pI yy.1.2.1)], .box [.p (.sl 3 yy.2.1.1.1 yy.2.1.1.2), .p (pI yy.2.1.2.1), .p (pI yy.2.1.2.2.1)], .box [.p (.sl 3 [] true), .p (pI yy.2.2.1.2.1), .p (pI yy.2.2.1.2.2.1)], .box [.ref 4 i0_1 n0_2, .p (pI yy.2.2.2.1.2.1), .p (pI yy.2.2.2.1.2.2.1)], .vec 3 es0_3 true]⟩)
noncomputable def f44_p19L : Told := fun s K => match s with
  | ⟨tm, hp⟩ => getS [.skip 2, .v (.one (.int .i64)), .v (.one (.sl 1)), .v (.one (.int .i64)), .v (.one (.ptr 0 0 0)), .v (.one (.ptr 1 0 0)), .skip 3, .v (.one (.ptr 2 0 0)), .v (.one (.ptr 3 0 0)), .v (.one (.int .i64)), .v (.one (.int .i64)), .v (.one (.ptr 4 0 0)), .skip 158] [.box [.int .i64, .int .i64], .box [.sl 3, .int .i64, .int .i64], .box [.nil 3, .int .i64, .int .i64], .box [.ref 5, .int .i64, .int .i64], .box [.int .i64, .bool, .bool], .vec 3 true] tm hp fun (xx : (Unit × (Int × ((List (List PC) × Bool) × (Int × (Unit × (Unit × (Unit × (Unit × (Unit × (Int × (Int × (Unit × (Unit × Unit)))))))))))))) (yy : ((Int × (Int × Unit)) × (((List (List PC) × Bool) × (Int × (Int × Unit))) × ((Unit × (Int × (Int × Unit))) × (((Nat × Nat) × (Int × (Int × Unit))) × ((Int × (Bool × (Bool × Unit))) × ((List (List PC)) × Unit))))))) => f44_p19 xx.2.1 xx.2.2.1.1 xx.2.2.1.2 xx.2.2.2.1 xx.2.2.2.2.2.2.2.2.2.1 xx.2.2.2.2.2.2.2.2.2.2.1 yy.1.1 yy.1.2.1 yy.2.1.1.1 yy.2.1.1.2 yy.2.1.2.1 yy.2.1.2.2.1 yy.2.2.1.2.1 yy.2.2.1.2.2.1 yy.2.2.2.1.1.1 yy.2.2.2.1.1.2 yy.2.2.2.1.2.1 yy.2.2.2.1.2.2.1 yy.2.2.2.2.1.1 yy.2.2.2.2.1.2.1 yy.2.2.2.2.1.2.2.1 yy.2.2.2.2.2.1 (fun n0_4 i0_5 n0_6 es0_7 => K .normal ⟨mkS 173 [(2, I xx.2.1), (3, .w (.one (.p (.sl 1 xx.2.2.1.1 xx.2.2.1.2)))), (4, I xx.2.2.2.1), (5, .w (.one (.ptr 0 0 0))), (6, .w (.one (.ptr 1 0 0))), (10, .w (.one (.ptr 2 0 0))), (11, .w (.one (.ptr 3 0 0))), (12, I n0_4), (13, I xx.2.2.2.2.2.2.2.2.2.2.1)], [.box [.p (pI yy.1.1), .p (pI yy.1.2.1)], .box [.p (.sl 3 yy.2.1.1.1 yy.2.1.1.2), .p (pI yy.2.1.2.1), .p (pI yy.2.1.2.2.1)], .box [.p (.sl 3 [] true), .p (pI yy.2.2.1.2.1), .p (pI yy.2.2.1.2.2.1)], .box [.ref 4 i0_5 n0_6, .p (pI yy.2.2.2.1.2.1), .p (pI yy.2.2.2.1.2.2.1)], .vec 3 es0_7 true]⟩)
noncomputable def f44_p8L : Told := fun s K => match s with
  | ⟨tm, hp⟩ => getS [.skip 2, .v (.one (.int .i64)), .v (.one (.sl 1)), .v (.one (.int .i64)), .v (.one (.ptr 0 0 0)), .v (.one (.ptr 1 0 0)), .skip 3, .v (.one (.ptr 2 0 0)), .v (.one (.ptr 3 0 0)), .v (.one (.int .i64)), .v (.one (.int .i64)), .skip 159] [.box [.int .i64, .int .i64], .box [.sl 3, .int .i64, .int .i64], .box [.nil 3, .int .i64, .int .i64], .box [.ref 4, .int .i64, .int .i64], .vec 3 true] tm hp fun (xx : (Unit × (Int × ((List (List PC) × Bool) × (Int × (Unit × (Unit × (Unit × (Unit × (Unit × (Int × (Int × (Unit × Unit))))))))))))) (yy : ((Int × (Int × Unit)) × (((List (List PC) × Bool) × (Int × (Int × Unit))) × ((Unit × (Int × (Int × Unit))) × (((Nat × Nat) × (Int × (Int × Unit))) × ((List (List PC)) × Unit)))))) => f44_p8 xx.2.1 xx.2.2.1.1 xx.2.2.1.2 xx.2.2.2.1 yy.1.1 yy.1.2.1 yy.2.1.1.1 yy.2.1.1.2 yy.2.1.2.1 yy.2.1.2.2.1 yy.2.2.1.2.1 yy.2.2.1.2.2.1 yy.2.2.2.1.2.1 yy.2.2.2.1.2.2.1 (fun n0_8 i0_9 n0_10 es0_11 => K (.exit 0) ⟨mkS 173 [(2, I xx.2.1), (4, I xx.2.2.2.1), (5, .w (.one (.ptr 0 0 0))), (6, .w (.one (.ptr 1 0 0))), (10, .w (.one (.ptr 2 0 0))), (11, .w (.one (.ptr 3 0 0))), (12, I n0_8)], [.box [.p (pI yy.1.1), .p (pI yy.1.2.1)], .box [.p (.sl 3 yy.2.1.1.1 yy.2.1.1.2), .p (pI yy.2.1.2.1), .p (pI yy.2.1.2.2.1)], .box [.p (.sl 3 [] true), .p (pI yy.2.2.1.2.1), .p (pI yy.2.2.1.2.2.1)], .box [.ref 4 i0_9 n0_10, .p (pI yy.2.2.2.1.2.1), .p (pI yy.2.2.2.1.2.2.1)], .vec 3 es0_11 true]⟩) (xx.2.2.2.2.2.2.2.2.2.1, xx.2.2.2.2.2.2.2.2.2.2.1, yy.2.2.2.1.1.1, yy.2.2.2.1.1.2, yy.2.2.2.2.1)
noncomputable def f44_p58L : Told := fun s K => match s with
  | ⟨tm, hp⟩ => getS [.skip 4, .v (.one (.int .i64)), .skip 5, .v (.one (.ptr 0 0 0)), .v (.one (.ptr 1 0 0)), .skip 4, .v (.one (.ref 2)), .skip 3, .v (.one (.int .i64)), .skip 152] [.box [.nil 3, .int .i64, .int .i64], .box [.ref 3, .int .i64, .int .i64], .vec 1 true, .vec 3 true] tm hp fun (xx : (Unit × (Int × (Unit × (Unit × (Unit × (Unit × ((Nat × Nat) × (Unit × (Int × (Unit × Unit))))))))))) (yy : ((Unit × (Int × (Int × Unit))) × (((Nat × Nat) × (Int × (Int × Unit))) × ((List (List PC)) × ((List (List PC)) × Unit))))) => f44_p58 xx.2.1 xx.2.2.2.2.2.2.1.1 xx.2.2.2.2.2.2.1.2 yy.1.2.1 yy.1.2.2.1 yy.2.1.1.1 yy.2.1.1.2 yy.2.1.2.1 yy.2.1.2.2.1 yy.2.2.1 yy.2.2.2.1 (fun n0_12 => K (.exit 6) ⟨mkS 173 [(4, I xx.2.1), (10, .w (.one (.ptr 0 0 0))), (11, .w (.one (.ptr 1 0 0))), (16, .w (.one (.ref 2 xx.2.2.2.2.2.2.1.1 xx.2.2.2.2.2.2.1.2))), (20, I n0_12)], [.box [.p (.sl 3 [] true), .p (pI yy.1.2.1), .p (pI yy.1.2.2.1)], .box [.ref 3 yy.2.1.1.1 yy.2.1.1.2, .p (pI yy.2.1.2.1), .p (pI yy.2.1.2.2.1)], .vec 1 yy.2.2.1 true, .vec 3 yy.2.2.2.1 true]⟩) xx.2.2.2.2.2.2.2.2.1
noncomputable def f44_p55L : Told := fun s K => match s with
  | ⟨tm, hp⟩ => getS [.skip 4, .v (.one (.int .i64)), .v (.one (.ptr 0 0 0)), .v (.one (.ptr 1 0 0)), .skip 3, .v (.one (.ptr 2 0 0)), .v (.one (.ptr 3 0 0)), .skip 3, .v (.one (.int .i64)), .v (.one (.ref 4)), .skip 156] [.box [.int .i64, .int .i64], .box [.sl 3, .int .i64, .int .i64], .box [.nil 3, .int .i64, .int .i64], .box [.ref 5, .int .i64, .int .i64], .vec 1 true, .vec 3 true] tm hp fun (xx : (Unit × (Int × (Unit × (Unit × (Unit × (Unit × (Unit × (Unit × (Int × ((Nat × Nat) × (Unit × Unit)))))))))))) (yy : ((Int × (Int × Unit)) × (((List (List PC) × Bool) × (Int × (Int × Unit))) × ((Unit × (Int × (Int × Unit))) × (((Nat × Nat) × (Int × (Int × Unit))) × ((List (List PC)) × ((List (List PC)) × Unit))))))) => f44_p55 xx.2.1 xx.2.2.2.2.2.2.2.2.1 xx.2.2.2.2.2.2.2.2.2.1.1 xx.2.2.2.2.2.2.2.2.2.1.2 yy.1.1 yy.1.2.1 yy.2.1.1.1 yy.2.1.1.2 yy.2.1.2.1 yy.2.1.2.2.1 yy.2.2.1.2.1 yy.2.2.1.2.2.1 yy.2.2.2.1.1.1 yy.2.2.2.1.1.2 yy.2.2.2.1.2.1 yy.2.2.2.1.2.2.1 yy.2.2.2.2.1 yy.2.2.2.2.2.1 (fun n0_13 es0_14 => K .ret ⟨mkS 173 [(10, .w (.one (.ptr 0 0 0)))], [.box [.ref 1 yy.2.2.2.1.1.1 yy.2.2.2.1.1.2, .p (pI n0_13), .p (pI yy.2.2.2.1.2.2.1)], .vec 3 es0_14 true]⟩)
noncomputable def f44_p38L : Told := fun s K => match s with
  | ⟨tm, hp⟩ => getS [.skip 4, .v (.one (.int .i64)), .v (.one (.ptr 0 0 0)), .v (.one (.ptr 1 0 0)), .skip 3, .v (.one (.ptr 2 0 0)), .v (.one (.ptr 3 0 0)), .skip 3, .v (.one (.int .i64)), .v (.one (.ref 4)), .v (.one (.int .i64)), .v (.one (.int .i64)), .skip 154] [.box [.int .i64, .int .i64], .box [.sl 3, .int .i64, .int .i64], .box [.nil 3, .int .i64, .int .i64], .box [.ref 5, .int .i64, .int .i64], .vec 1 true, .vec 3 true] tm hp fun (xx : (Unit × (Int × (Unit × (Unit × (Unit × (Unit × (Unit × (Unit × (Int × ((Nat × Nat) × (Int × (Int × (Unit × Unit)))))))))))))) (yy : ((Int × (Int × Unit)) × (((List (List PC) × Bool) × (Int × (Int × Unit))) × ((Unit × (Int × (Int × Unit))) × (((Nat × Nat) × (Int × (Int × Unit))) × ((List (List PC)) × ((List (List PC)) × Unit))))))) => f44_p38 xx.2.1 xx.2.2.2.2.2.2.2.2.1 xx.2.2.2.2.2.2.2.2.2.1.1 xx.2.2.2.2.2.2.2.2.2.1.2 xx.2.2.2.2.2.2.2.2.2.2.1 yy.1.1 yy.1.2.1 yy.2.1.1.1 yy.2.1.1.2 yy.2.1.2.1 yy.2.1.2.2.1 yy.2.2.1.2.1 yy.2.2.1.2.2.1 yy.2.2.2.1.1.1 yy.2.2.2.1.1.2 yy.2.2.2.1.2.1 yy.2.2.2.1.2.2.1 yy.2.2.2.2.1 (fun es0_15 => K (.exit 2) ⟨mkS 173 [(4, I xx.2.1), (5, .w (.one (.ptr 0 0 0))), (6, .w (.one (.ptr 1 0 0))), (10, .w (.one (.ptr 2 0 0))), (11, .w (.one (.ptr 3 0 0))), (15, I xx.2.2.2.2.2.2.2.2.1), (16, .w (.one (.ref 4 xx.2.2.2.2.2.2.2.2.2.1.1 xx.2.2.2.2.2.2.2.2.2.1.2)))], [.box [.p (pI yy.1.1), .p (pI yy.1.2.1)], .box [.p (.sl 3 yy.2.1.1.1 yy.2.1.1.2), .p (pI yy.2.1.2.1), .p (pI yy.2.1.2.2.1)], .box [.p (.sl 3 [] true), .p (pI yy.2.2.1.2.1), .p (pI yy.2.2.1.2.2.1)], .box [.ref 5 yy.2.2.2.1.1.1 yy.2.2.2.1.1.2, .p (pI yy.2.2.2.1.2.1), .p (pI yy.2.2.2.1.2.2.1)], .vec 1 yy.2.2.2.2.1 true, .vec 3 es0_15 true]⟩) (xx.2.2.2.2.2.2.2.2.2.2.2.1, yy.2.2.2.2.2.1)
noncomputable def f44_p53L : Told := fun s K => match s with
  | ⟨tm, hp⟩ => getS [.skip 4, .v (.one (.int .i64)), .v (.one (.ptr 0 0 0)), .v (.one (.ptr 1 0 0)), .skip 3, .v (.one (.ptr 2 0 0)), .v (.one (.ptr 3 0 0)), .skip 3, .v (.one (.int .i64)), .v (.one (.ref 4)), .skip 2, .v (.one (.int .i64)), .skip 153] [.box [.int .i64, .int .i64], .box [.sl 3, .int .i64, .int .i64], .box [.nil 3, .int .i64, .int .i64], .box [.ref 5, .int .i64, .int .i64], .vec 1 true, .vec 3 true] tm hp fun (xx : (Unit × (Int × (Unit × (Unit × (Unit × (Unit × (Unit × (Unit × (Int × ((Nat × Nat) × (Unit × (Int × (Unit × Unit)))))))))))))) (yy : ((Int × (Int × Unit)) × (((List (List PC) × Bool) × (Int × (Int × Unit))) × ((Unit × (Int × (Int × Unit))) × (((Nat × Nat) × (Int × (Int × Unit))) × ((List (List PC)) × ((List (List PC)) × Unit))))))) => f44_p53 xx.2.1 xx.2.2.2.2.2.2.2.2.1 xx.2.2.2.2.2.2.2.2.2.1.1 xx.2.2.2.2.2.2.2.2.2.1.2 xx.2.2.2.2.2.2.2.2.2.2.2.1 yy.1.1 yy.1.2.1 yy.2.1.1.1 yy.2.1.1.2 yy.2.1.2.1 yy.2.1.2.2.1 yy.2.2.1.2.1 yy.2.2.1.2.2.1 yy.2.2.2.1.1.1 yy.2.2.2.1.1.2 yy.2.2.2.1.2.1 yy.2.2.2.1.2.2.1 yy.2.2.2.2.1 yy.2.2.2.2.2.1 (fun n0_16 es0_17 => K .normal ⟨mkS 173 [(4, I xx.2.1), (5, .w (.one (.ptr 0 0 0))), (6, .w (.one (.ptr 1 0 0))), (10, .w (.one (.ptr 2 0 0))), (11, .w (.one (.ptr 3 0 0))), (15, I xx.2.2.2.2.2.2.2.2.1), (16, .w (.one (.ref 4 xx.2.2.2.2.2.2.2.2.2.1.1 xx.2.2.2.2.2.2.2.2.2.1.2))), (19, I n0_16)], [.box [.p (pI yy.1.1), .p (pI yy.1.2.1)], .box [.p (.sl 3 yy.2.1.1.1 yy.2.1.1.2), .p (pI yy.2.1.2.1), .p (pI yy.2.1.2.2.1)], .box [.p (.sl 3 [] true), .p (pI yy.2.2.1.2.1), .p (pI yy.2.2.1.2.2.1)], .box [.ref 5 yy.2.2.2.1.1.1 yy.2.2.2.1.1.2, .p (pI yy.2.2.2.1.2.1), .p (pI yy.2.2.2.1.2.2.1)], .vec 1 yy.2.2.2.2.1 true, .vec 3 es0_17 true]⟩)
noncomputable def f44_p48L : Told := fun s K => match s with
  | ⟨tm, hp⟩ => getS [.skip 4, .v (.one (.int .i64)), .v (.one (.ptr 0 0 0)), .v (.one (.ptr 1 0 0)), .skip 3, .v (.one (.ptr 2 0 0)), .v (.one (.ptr 3 0 0)), .skip 3, .v (.one (.int .i64)), .v (.one (.ref 4)), .skip 2, .v (.one (.int .i64)), .skip 153] [.box [.int .i64, .int .i64], .box [.sl 3, .int .i64, .int .i64], .box [.nil 3, .int .i64, .int .i64], .box [.ref 5, .int .i64, .int .i64], .vec 1 true, .vec 3 true] tm hp fun (xx : (Unit × (Int × (Unit × (Unit × (Unit × (Unit × (Unit × (Unit × (Int × ((Nat × Nat) × (Unit × (Int × (Unit × Unit)))))))))))))) (yy : ((Int × (Int × Unit)) × (((List (List PC) × Bool) × (Int × (Int × Unit))) × ((Unit × (Int × (Int × Unit))) × (((Nat × Nat) × (Int × (Int × Unit))) × ((List (List PC)) × ((List (List PC)) × Unit))))))) => f44_p48 xx.2.1 xx.2.2.2.2.2.2.2.2.1 xx.2.2.2.2.2.2.2.2.2.1.1 xx.2.2.2.2.2.2.2.2.2.1.2 yy.1.1 yy.1.2.1 yy.2.1.1.1 yy.2.1.1.2 yy.2.1.2.1 yy.2.1.2.2.1 yy.2.2.1.2.1 yy.2.2.1.2.2.1 yy.2.2.2.1.1.1 yy.2.2.2.1.1.2 yy.2.2.2.1.2.1 yy.2.2.2.1.2.2.1 yy.2.2.2.2.1 (fun es0_18 => K (.exit 4) ⟨mkS 173 [(4, I xx.2.1), (5, .w (.one (.ptr 0 0 0))), (6, .w (.one (.ptr 1 0 0))), (10, .w (.one (.ptr 2 0 0))), (11, .w (.one (.ptr 3 0 0))), (15, I xx.2.2.2.2.2.2.2.2.1), (16, .w (.one (.ref 4 xx.2.2.2.2.2.2.2.2.2.1.1 xx.2.2.2.2.2.2.2.2.2.1.2)))], [.box [.p (pI yy.1.1), .p (pI yy.1.2.1)], .box [.p (.sl 3 yy.2.1.1.1 yy.2.1.1.2), .p (pI yy.2.1.2.1), .p (pI yy.2.1.2.2.1)], .box [.p (.sl 3 [] true), .p (pI yy.2.2.1.2.1), .p (pI yy.2.2.1.2.2.1)], .box [.ref 5 yy.2.2.2.1.1.1 yy.2.2.2.1.1.2, .p (pI yy.2.2.2.1.2.1), .p (pI yy.2.2.2.1.2.2.1)], .vec 1 yy.2.2.2.2.1 true, .vec 3 es0_18 true]⟩) (xx.2.2.2.2.2.2.2.2.2.2.2.1, yy.2.2.2.2.2.1)
noncomputable def f44_tab : List (Nat × Told) := [(23, f44_p23L), (19, f44_p19L), (8, f44_p8L), (58, f44_p58L), (55, f44_p55L), (38, f44_p38L), (53, f44_p53L), (48, f44_p48L)]
noncomputable def f44_call : FuncId → List TV → List Entry → (TV → List Entry → Prop) → Prop := addCall 23 f23_G (addCall 21 f21_G (noCalls))
noncomputable def f44_C : Ctx := { ty := tyOf tab, glob := glob, byRef := byRef, keep := fun k i => lookN [] (lookN [] ([(23, [(0, [2, 3, 4, 5, 6, 10, 11, 12, 13, 14]), (1, [2, 3, 4, 5, 6, 10, 11, 12, 13]), (2, [10]), (3, [2, 4, 5, 6, 10, 11, 12]), (4, [2, 3, 4, 5, 6, 10, 11, 12, 13])]), (19, [(0, [2, 3, 4, 5, 6, 10, 11, 12, 13, 14]), (1, [2, 3, 4, 5, 6, 10, 11, 12, 13]), (2, [10]), (3, [2, 4, 5, 6, 10, 11, 12]), (4, [2, 3, 4, 5, 6, 10, 11, 12, 13])]), (8, [(0, [2, 3, 4, 5, 6, 10, 11, 12, 13]), (2, [10]), (3, [2, 4, 5, 6, 10, 11, 12])]), (58, [(0, [4, 10, 11, 16, 20]), (2, [10]), (9, [4, 10, 11, 16, 20])]), (55, [(0, [4, 5, 6, 10, 11, 15, 16]), (1, [10]), (2, [10])]), (38, [(0, [4, 5, 6, 10, 11, 15, 16, 17, 18]), (2, [10]), (5, [4, 5, 6, 10, 11, 15, 16])]), (53, [(0, [4, 5, 6, 10, 11, 15, 16, 19]), (1, [4, 5, 6, 10, 11, 15, 16, 19]), (2, [10]), (7, [4, 5, 6, 10, 11, 15, 16])]), (48, [(0, [4, 5, 6, 10, 11, 15, 16, 19]), (2, [10]), (7, [4, 5, 6, 10, 11, 15, 16])])] : List (Nat × List (Nat × List Nat))) k) i, late := lookN [] ([] : List (Nat × List Nat)), nref := lookN [] ([] : List (Nat × List Nat)), nbox := lookN [] ([(8, [(3, 0)])] : List (Nat × List (Nat × Nat))), take := [], rnil := false, m := 0, fz := true, loops := lookL f44_tab, call := f44_call }
set_option maxRecDepth 100000 in
theorem f44_p23e0 (n_23 : Int) (es_24 : List (List PC)) (full_25 : Bool) (n_26 : Int) (n_27 : Int) (n_28 : Int) (n_29 : Int) (n_30 : Int) (es_31 : List (List PC)) (full_32 : Bool) (n_33 : Int) (n_34 : Int) (n_35 : Int) (n_36 : Int) (i_37 : Nat) (n_38 : Nat) (n_39 : Int) (n_40 : Int) (n_41 : Int) (b_42 : Bool) (b_43 : Bool) (es_44 : List (List PC)) (K : TExit → St → Prop) : (f44_p23 n_23 es_24 full_25 n_26 n_27 n_28 n_29 n_30 es_31 full_32 n_33 n_34 n_35 n_36 i_37 n_38 n_39 n_40 n_41 b_42 b_43 es_44 (fun n0_45 i0_46 n0_47 es0_48 => K .normal ⟨mkS 173 [(2, I n_23), (3, .w (.one (.p (.sl 1 es_24 full_25)))), (4, I n_26), (5, .w (.one (.ptr 0 0 0))), (6, .w (.one (.ptr 1 0 0))), (10, .w (.one (.ptr 2 0 0))), (11, .w (.one (.ptr 3 0 0))), (12, I n0_45), (13, I n_28)], [.box [.p (pI n_29), .p (pI n_30)], .box [.p (.sl 3 es_31 full_32), .p (pI n_33), .p (pI n_34)], .box [.p (.sl 3 [] true), .p (pI n_35), .p (pI n_36)], .box [.ref 4 i0_46 n0_47, .p (pI n_39), .p (pI n_40)], .vec 3 es0_48 true]⟩)) = execT f44_C (nthC (tails (bodyOf Try.f44)) 12) ⟨mkS 173 [(2, I n_23), (3, .w (.one (.p (.sl 1 es_24 full_25)))), (4, I n_26), (5, .w (.one (.ptr 0 0 0))), (6, .w (.one (.ptr 1 0 0))), (10, .w (.one (.ptr 2 0 0))), (11, .w (.one (.ptr 3 0 0))), (12, I n_27), (13, I n_28), (14, .w (.one (.ptr 4 0 0)))], [.box [.p (pI n_29), .p (pI n_30)], .box [.p (.sl 3 es_31 full_32), .p (pI n_33), .p (pI n_34)], .box [.p (.sl 3 [] true), .p (pI n_35), .p (pI n_36)], .box [.ref 5 i_37 n_38, .p (pI n_39), .p (pI n_40)], .box [.p (pI n_41), .p (pB b_42), .p (pB b_43)], .vec 3 es_44 true]⟩ (fun e s => K e (normOut f44_C 23 e s)) := by kernel_rfl
set_option maxRecDepth 100000 in
theorem f44_p19e0 (n_49 : Int) (es_50 : List (List PC)) (full_51 : Bool) (n_52 : Int) (n_53 : Int) (n_54 : Int) (n_55 : Int) (n_56 : Int) (es_57 : List (List PC)) (full_58 : Bool) (n_59 : Int) (n_60 : Int) (n_61 : Int) (n_62 : Int) (i_63 : Nat) (n_64 : Nat) (n_65 : Int) (n_66 : Int) (n_67 : Int) (b_68 : Bool) (b_69 : Bool) (es_70 : List (List PC)) (K : TExit → St → Prop) : (f44_p19 n_49 es_50 full_51 n_52 n_53 n_54 n_55 n_56 es_57 full_58 n_59 n_60 n_61 n_62 i_63 n_64 n_65 n_66 n_67 b_68 b_69 es_70 (fun n0_71 i0_72 n0_73 es0_74 => K .normal ⟨mkS 173 [(2, I n_49), (3, .w (.one (.p (.sl 1 es_50 full_51)))), (4, I n_52), (5, .w (.one (.ptr 0 0 0))), (6, .w (.one (.ptr 1 0 0))), (10, .w (.one (.ptr 2 0 0))), (11, .w (.one (.ptr 3 0 0))), (12, I n0_71), (13, I n_54)], [.box [.p (pI n_55), .p (pI n_56)], .box [.p (.sl 3 es_57 full_58), .p (pI n_59), .p (pI n_60)], .box [.p (.sl 3 [] true), .p (pI n_61), .p (pI n_62)], .box [.ref 4 i0_72 n0_73, .p (pI n_65), .p (pI n_66)], .vec 3 es0_74 true]⟩)) = execT f44_C (nthC (tails (bodyOf Try.f44)) 9) ⟨mkS 173 [(2, I n_49), (3, .w (.one (.p (.sl 1 es_50 full_51)))), (4, I n_52), (5, .w (.one (.ptr 0 0 0))), (6, .w (.one (.ptr 1 0 0))), (10, .w (.one (.ptr 2 0 0))), (11, .w (.one (.ptr 3 0 0))), (12, I n_53), (13, I n_54), (14, .w (.one (.ptr 4 0 0)))], [.box [.p (pI n_55), .p (pI n_56)], .box [.p (.sl 3 es_57 full_58), .p (pI n_59), .p (pI n_60)], .box [.p (.sl 3 [] true), .p (pI n_61), .p (pI n_62)], .box [.ref 5 i_63 n_64, .p (pI n_65), .p (pI n_66)], .box [.p (pI n_67), .p (pB b_68), .p (pB b_69)], .vec 3 es_70 true]⟩ (fun e s => K e (normOut f44_C 19 e s)) := by kernel_rfl
noncomputable def f44_p8_mk (n11 : Int) (es12 : List (List PC)) (full13 : Bool) (n14 : Int) (n17 : Int) (n18 : Int) (es19 : List (List PC)) (full20 : Bool) (n21 : Int) (n22 : Int) (n23 : Int) (n24 : Int) (n27 : Int) (n28 : Int) (x : Int × Int × Nat × Nat × (List (List PC))) : St := ⟨mkS 173 [(2, I n11), (3, .w (.one (.p (.sl 1 es12 full13)))), (4, I n14), (5, .w (.one (.ptr 0 0 0))), (6, .w (.one (.ptr 1 0 0))), (10, .w (.one (.ptr 2 0 0))), (11, .w (.one (.ptr 3 0 0))), (12, I x.1), (13, I x.2.1)], [.box [.p (pI n17), .p (pI n18)], .box [.p (.sl 3 es19 full20), .p (pI n21), .p (pI n22)], .box [.p (.sl 3 [] true), .p (pI n23), .p (pI n24)], .box [.ref 4 x.2.2.1 x.2.2.2.1, .p (pI n27), .p (pI n28)], .vec 3 x.2.2.2.2 true]⟩
set_option maxRecDepth 100000 in
theorem f44_p8e0 (n_94 : Int) (es_95 : List (List PC)) (full_96 : Bool) (n_97 : Int) (n_98 : Int) (n_99 : Int) (n_100 : Int) (n_101 : Int) (es_102 : List (List PC)) (full_103 : Bool) (n_104 : Int) (n_105 : Int) (n_106 : Int) (n_107 : Int) (i_108 : Nat) (n_109 : Nat) (n_110 : Int) (n_111 : Int) (es_112 : List (List PC)) (N : St → Prop) (K : TExit → St → Prop) : (f44_p8b0 n_94 es_95 full_96 n_97 n_98 n_99 n_100 n_101 es_102 full_103 n_104 n_105 n_106 n_107 i_108 n_109 n_110 n_111 es_112 (fun z4 z5 z14 z15 z18 => N (f44_p8_mk n_94 es_95 full_96 n_97 n_100 n_101 es_102 full_103 n_104 n_105 n_106 n_107 n_110 n_111 (z4, z5, z14, z15, z18))) (fun n0_113 i0_114 n0_115 es0_116 => K (.exit 0) ⟨mkS 173 [(2, I n_94), (4, I n_97), (5, .w (.one (.ptr 0 0 0))), (6, .w (.one (.ptr 1 0 0))), (10, .w (.one (.ptr 2 0 0))), (11, .w (.one (.ptr 3 0 0))), (12, I n0_113)], [.box [.p (pI n_100), .p (pI n_101)], .box [.p (.sl 3 es_102 full_103), .p (pI n_104), .p (pI n_105)], .box [.p (.sl 3 [] true), .p (pI n_106), .p (pI n_107)], .box [.ref 4 i0_114 n0_115, .p (pI n_110), .p (pI n_111)], .vec 3 es0_116 true]⟩)) = execT f44_C (nthC (bodies (bodyOf Try.f44)) 0) (f44_p8_mk n_94 es_95 full_96 n_97 n_100 n_101 es_102 full_103 n_104 n_105 n_106 n_107 n_110 n_111 (n_98, n_99, i_108, n_109, es_112)) (loopK N (normK f44_C 8) fun e s => K e (normOut f44_C 8 e s)) := by kernel_rfl
noncomputable def f44_p58_mk (n155 : Int) (i156 : Nat) (n157 : Nat) (n159 : Int) (n160 : Int) (i161 : Nat) (n162 : Nat) (n163 : Int) (n164 : Int) (es165 : List (List PC)) (es166 : List (List PC)) (x : Int) : St := ⟨mkS 173 [(4, I n155), (10, .w (.one (.ptr 0 0 0))), (11, .w (.one (.ptr 1 0 0))), (16, .w (.one (.ref 2 i156 n157))), (20, I x)], [.box [.p (.sl 3 [] true), .p (pI n159), .p (pI n160)], .box [.ref 3 i161 n162, .p (pI n163), .p (pI n164)], .vec 1 es165 true, .vec 3 es166 true]⟩
set_option maxRecDepth 100000 in
theorem f44_p58e0 (n_129 : Int) (i_130 : Nat) (n_131 : Nat) (n_132 : Int) (n_133 : Int) (n_134 : Int) (i_135 : Nat) (n_136 : Nat) (n_137 : Int) (n_138 : Int) (es_139 : List (List PC)) (es_140 : List (List PC)) (N : St → Prop) (K : TExit → St → Prop) : (f44_p58b0 n_129 i_130 n_131 n_132 n_133 n_134 i_135 n_136 n_137 n_138 es_139 es_140 (fun z3 => N (f44_p58_mk n_129 i_130 n_131 n_133 n_134 i_135 n_136 n_137 n_138 es_139 es_140 z3)) (fun n0_141 => K (.exit 6) ⟨mkS 173 [(4, I n_129), (10, .w (.one (.ptr 0 0 0))), (11, .w (.one (.ptr 1 0 0))), (16, .w (.one (.ref 2 i_130 n_131))), (20, I n0_141)], [.box [.p (.sl 3 [] true), .p (pI n_133), .p (pI n_134)], .box [.ref 3 i_135 n_136, .p (pI n_137), .p (pI n_138)], .vec 1 es_139 true, .vec 3 es_140 true]⟩)) = execT f44_C (nthC (bodies (bodyOf Try.f44)) 3) (f44_p58_mk n_129 i_130 n_131 n_133 n_134 i_135 n_136 n_137 n_138 es_139 es_140 n_132) (loopK N (normK f44_C 58) fun e s => K e (normOut f44_C 58 e s)) := by kernel_rfl
set_option maxRecDepth 100000 in
theorem f44_p55e0 (n_142 : Int) (n_143 : Int) (i_144 : Nat) (n_145 : Nat) (n_146 : Int) (n_147 : Int) (es_148 : List (List PC)) (full_149 : Bool) (n_150 : Int) (n_151 : Int) (n_152 : Int) (n_153 : Int) (i_154 : Nat) (n_155 : Nat) (n_156 : Int) (n_157 : Int) (es_158 : List (List PC)) (es_159 : List (List PC)) (K : TExit → St → Prop) : (f44_p55 n_142 n_143 i_144 n_145 n_146 n_147 es_148 full_149 n_150 n_151 n_152 n_153 i_154 n_155 n_156 n_157 es_158 es_159 (fun n0_160 es0_161 => K .ret ⟨mkS 173 [(10, .w (.one (.ptr 0 0 0)))], [.box [.ref 1 i_154 n_155, .p (pI n0_160), .p (pI n_157)], .vec 3 es0_161 true]⟩)) = execT f44_C (nthC (tails (bodyOf Try.f44)) 17) ⟨mkS 173 [(4, I n_142), (5, .w (.one (.ptr 0 0 0))), (6, .w (.one (.ptr 1 0 0))), (10, .w (.one (.ptr 2 0 0))), (11, .w (.one (.ptr 3 0 0))), (15, I n_143), (16, .w (.one (.ref 4 i_144 n_145)))], [.box [.p (pI n_146), .p (pI n_147)], .box [.p (.sl 3 es_148 full_149), .p (pI n_150), .p (pI n_151)], .box [.p (.sl 3 [] true), .p (pI n_152), .p (pI n_153)], .box [.ref 5 i_154 n_155, .p (pI n_156), .p (pI n_157)], .vec 1 es_158 true, .vec 3 es_159 true]⟩ (fun e s => K e (normOut f44_C 55 e s)) := by kernel_rfl
noncomputable def f44_p38_mk (n111 : Int) (n112 : Int) (i113 : Nat) (n114 : Nat) (n115 : Int) (n117 : Int) (n118 : Int) (es119 : List (List PC)) (full120 : Bool) (n121 : Int) (n122 : Int) (n123 : Int) (n124 : Int) (i125 : Nat) (n126 : Nat) (n127 : Int) (n128 : Int) (es129 : List (List PC)) (x : Int × (List (List PC))) : St := ⟨mkS 173 [(4, I n111), (5, .w (.one (.ptr 0 0 0))), (6, .w (.one (.ptr 1 0 0))), (10, .w (.one (.ptr 2 0 0))), (11, .w (.one (.ptr 3 0 0))), (15, I n112), (16, .w (.one (.ref 4 i113 n114))), (17, I n115), (18, I x.1)], [.box [.p (pI n117), .p (pI n118)], .box [.p (.sl 3 es119 full120), .p (pI n121), .p (pI n122)], .box [.p (.sl 3 [] true), .p (pI n123), .p (pI n124)], .box [.ref 5 i125 n126, .p (pI n127), .p (pI n128)], .vec 1 es129 true, .vec 3 x.2 true]⟩
set_option maxRecDepth 100000 in
theorem f44_p38e0 (n_182 : Int) (n_183 : Int) (i_184 : Nat) (n_185 : Nat) (n_186 : Int) (n_187 : Int) (n_188 : Int) (n_189 : Int) (es_190 : List (List PC)) (full_191 : Bool) (n_192 : Int) (n_193 : Int) (n_194 : Int) (n_195 : Int) (i_196 : Nat) (n_197 : Nat) (n_198 : Int) (n_199 : Int) (es_200 : List (List PC)) (es_201 : List (List PC)) (N : St → Prop) (K : TExit → St → Prop) : (f44_p38b0 n_182 n_183 i_184 n_185 n_186 n_187 n_188 n_189 es_190 full_191 n_192 n_193 n_194 n_195 i_196 n_197 n_198 n_199 es_200 es_201 (fun z5 z19 => N (f44_p38_mk n_182 n_183 i_184 n_185 n_186 n_188 n_189 es_190 full_191 n_192 n_193 n_194 n_195 i_196 n_197 n_198 n_199 es_200 (z5, z19))) (fun es0_202 => K (.exit 2) ⟨mkS 173 [(4, I n_182), (5, .w (.one (.ptr 0 0 0))), (6, .w (.one (.ptr 1 0 0))), (10, .w (.one (.ptr 2 0 0))), (11, .w (.one (.ptr 3 0 0))), (15, I n_183), (16, .w (.one (.ref 4 i_184 n_185)))], [.box [.p (pI n_188), .p (pI n_189)], .box [.p (.sl 3 es_190 full_191), .p (pI n_192), .p (pI n_193)], .box [.p (.sl 3 [] true), .p (pI n_194), .p (pI n_195)], .box [.ref 5 i_196 n_197, .p (pI n_198), .p (pI n_199)], .vec 1 es_200 true, .vec 3 es0_202 true]⟩)) = execT f44_C (nthC (bodies (bodyOf Try.f44)) 1) (f44_p38_mk n_182 n_183 i_184 n_185 n_186 n_188 n_189 es_190 full_191 n_192 n_193 n_194 n_195 i_196 n_197 n_198 n_199 es_200 (n_187, es_201)) (loopK N (normK f44_C 38) fun e s => K e (normOut f44_C 38 e s)) := by kernel_rfl
set_option maxRecDepth 100000 in
theorem f44_p53e0 (n_203 : Int) (n_204 : Int) (i_205 : Nat) (n_206 : Nat) (n_207 : Int) (n_208 : Int) (n_209 : Int) (es_210 : List (List PC)) (full_211 : Bool) (n_212 : Int) (n_213 : Int) (n_214 : Int) (n_215 : Int) (i_216 : Nat) (n_217 : Nat) (n_218 : Int) (n_219 : Int) (es_220 : List (List PC)) (es_221 : List (List PC)) (K : TExit → St → Prop) : (f44_p53 n_203 n_204 i_205 n_206 n_207 n_208 n_209 es_210 full_211 n_212 n_213 n_214 n_215 i_216 n_217 n_218 n_219 es_220 es_221 (fun n0_222 es0_223 => K .normal ⟨mkS 173 [(4, I n_203), (5, .w (.one (.ptr 0 0 0))), (6, .w (.one (.ptr 1 0 0))), (10, .w (.one (.ptr 2 0 0))), (11, .w (.one (.ptr 3 0 0))), (15, I n_204), (16, .w (.one (.ref 4 i_205 n_206))), (19, I n0_222)], [.box [.p (pI n_208), .p (pI n_209)], .box [.p (.sl 3 es_210 full_211), .p (pI n_212), .p (pI n_213)], .box [.p (.sl 3 [] true), .p (pI n_214), .p (pI n_215)], .box [.ref 5 i_216 n_217, .p (pI n_218), .p (pI n_219)], .vec 1 es_220 true, .vec 3 es0_223 true]⟩)) = execT f44_C (nthC (tails (bodyOf Try.f44)) 26) ⟨mkS 173 [(4, I n_203), (5, .w (.one (.ptr 0 0 0))), (6, .w (.one (.ptr 1 0 0))), (10, .w (.one (.ptr 2 0 0))), (11, .w (.one (.ptr 3 0 0))), (15, I n_204), (16, .w (.one (.ref 4 i_205 n_206))), (19, I n_207)], [.box [.p (pI n_208), .p (pI n_209)], .box [.p (.sl 3 es_210 full_211), .p (pI n_212), .p (pI n_213)], .box [.p (.sl 3 [] true), .p (pI n_214), .p (pI n_215)], .box [.ref 5 i_216 n_217, .p (pI n_218), .p (pI n_219)], .vec 1 es_220 true, .vec 3 es_221 true]⟩ (fun e s => K e (normOut f44_C 53 e s)) := by kernel_rfl
noncomputable def f44_p48_mk (n175 : Int) (n176 : Int) (i177 : Nat) (n178 : Nat) (n180 : Int) (n181 : Int) (es182 : List (List PC)) (full183 : Bool) (n184 : Int) (n185 : Int) (n186 : Int) (n187 : Int) (i188 : Nat) (n189 : Nat) (n190 : Int) (n191 : Int) (es192 : List (List PC)) (x : Int × (List (List PC))) : St := ⟨mkS 173 [(4, I n175), (5, .w (.one (.ptr 0 0 0))), (6, .w (.one (.ptr 1 0 0))), (10, .w (.one (.ptr 2 0 0))), (11, .w (.one (.ptr 3 0 0))), (15, I n176), (16, .w (.one (.ref 4 i177 n178))), (19, I x.1)], [.box [.p (pI n180), .p (pI n181)], .box [.p (.sl 3 es182 full183), .p (pI n184), .p (pI n185)], .box [.p (.sl 3 [] true), .p (pI n186), .p (pI n187)], .box [.ref 5 i188 n189, .p (pI n190), .p (pI n191)], .vec 1 es192 true, .vec 3 x.2 true]⟩
set_option maxRecDepth 100000 in
theorem f44_p48e0 (n_243 : Int) (n_244 : Int) (i_245 : Nat) (n_246 : Nat) (n_247 : Int) (n_248 : Int) (n_249 : Int) (es_250 : List (List PC)) (full_251 : Bool) (n_252 : Int) (n_253 : Int) (n_254 : Int) (n_255 : Int) (i_256 : Nat) (n_257 : Nat) (n_258 : Int) (n_259 : Int) (es_260 : List (List PC)) (es_261 : List (List PC)) (N : St → Prop) (K : TExit → St → Prop) : (f44_p48b0 n_243 n_244 i_245 n_246 n_247 n_248 n_249 es_250 full_251 n_252 n_253 n_254 n_255 i_256 n_257 n_258 n_259 es_260 es_261 (fun z4 z18 => N (f44_p48_mk n_243 n_244 i_245 n_246 n_248 n_249 es_250 full_251 n_252 n_253 n_254 n_255 i_256 n_257 n_258 n_259 es_260 (z4, z18))) (fun es0_262 => K (.exit 4) ⟨mkS 173 [(4, I n_243), (5, .w (.one (.ptr 0 0 0))), (6, .w (.one (.ptr 1 0 0))), (10, .w (.one (.ptr 2 0 0))), (11, .w (.one (.ptr 3 0 0))), (15, I n_244), (16, .w (.one (.ref 4 i_245 n_246)))], [.box [.p (pI n_248), .p (pI n_249)], .box [.p (.sl 3 es_250 full_251), .p (pI n_252), .p (pI n_253)], .box [.p (.sl 3 [] true), .p (pI n_254), .p (pI n_255)], .box [.ref 5 i_256 n_257, .p (pI n_258), .p (pI n_259)], .vec 1 es_260 true, .vec 3 es0_262 true]⟩)) = execT f44_C (nthC (bodies (bodyOf Try.f44)) 2) (f44_p48_mk n_243 n_244 i_245 n_246 n_248 n_249 es_250 full_251 n_252 n_253 n_254 n_255 i_256 n_257 n_258 n_259 es_260 (n_247, es_261)) (loopK N (normK f44_C 48) fun e s => K e (normOut f44_C 48 e s)) := by kernel_rfl
set_option maxHeartbeats 4000000 in
theorem f44_p23_ok : TailOk f44_C (nthC (tails (bodyOf Try.f44)) 12) := by
  refine TailOk.of f44_p23L (by kernel_rfl) fun σ K h => ?_
  have hk : joinKey (nthC (tails (bodyOf Try.f44)) 12) = 23 := by kernel_rfl
  rw [hk] at h ⊢
  generalize hs : normK f44_C 23 σ = s at h
  obtain ⟨tm, hp⟩ := s
  unfold f44_p23L at h
  dsimp only at h
  obtain ⟨xx, yy, rfl, rfl, h⟩ := getS_elim h
  have q : normK f44_C 23 σ = (⟨mkS 173 [(2, I xx.2.1), (3, .w (.one (.p (.sl 1 xx.2.2.1.1 xx.2.2.1.2)))), (4, I xx.2.2.2.1), (5, .w (.one (.ptr 0 0 0))), (6, .w (.one (.ptr 1 0 0))), (10, .w (.one (.ptr 2 0 0))), (11, .w (.one (.ptr 3 0 0))), (12, I xx.2.2.2.2.2.2.2.2.2.1), (13, I xx.2.2.2.2.2.2.2.2.2.2.1), (14, .w (.one (.ptr 4 0 0)))], [.box [.p (pI yy.1.1), .p (pI yy.1.2.1)], .box [.p (.sl 3 yy.2.1.1.1 yy.2.1.1.2), .p (pI yy.2.1.2.1), .p (pI yy.2.1.2.2.1)], .box [.p (.sl 3 [] true), .p (pI yy.2.2.1.2.1), .p (pI yy.2.2.1.2.2.1)], .box [.ref 5 yy.2.2.2.1.1.1 yy.2.2.2.1.1.2, .p (pI yy.2.2.2.1.2.1), .p (pI yy.2.2.2.1.2.2.1)], .box [.p (pI yy.2.2.2.2.1.1), .p (pB yy.2.2.2.2.1.2.1), .p (pB yy.2.2.2.2.1.2.2.1)], .vec 3 yy.2.2.2.2.2.1 true]⟩ : St) := hs.trans (by kernel_rfl)
  rw [← hs, q, ← f44_p23e0 xx.2.1 xx.2.2.1.1 xx.2.2.1.2 xx.2.2.2.1 xx.2.2.2.2.2.2.2.2.2.1 xx.2.2.2.2.2.2.2.2.2.2.1 yy.1.1 yy.1.2.1 yy.2.1.1.1 yy.2.1.1.2 yy.2.1.2.1 yy.2.1.2.2.1 yy.2.2.1.2.1 yy.2.2.1.2.2.1 yy.2.2.2.1.1.1 yy.2.2.2.1.1.2 yy.2.2.2.1.2.1 yy.2.2.2.1.2.2.1 yy.2.2.2.2.1.1 yy.2.2.2.2.1.2.1 yy.2.2.2.2.1.2.2.1 yy.2.2.2.2.2.1 K]
  exact h
set_option maxHeartbeats 4000000 in
theorem f44_p19_ok : TailOk f44_C (nthC (tails (bodyOf Try.f44)) 9) := by
  refine TailOk.of f44_p19L (by kernel_rfl) fun σ K h => ?_
  have hk : joinKey (nthC (tails (bodyOf Try.f44)) 9) = 19 := by kernel_rfl
  rw [hk] at h ⊢
  generalize hs : normK f44_C 19 σ = s at h
  obtain ⟨tm, hp⟩ := s
  unfold f44_p19L at h
  dsimp only at h
  obtain ⟨xx, yy, rfl, rfl, h⟩ := getS_elim h
  have q : normK f44_C 19 σ = (⟨mkS 173 [(2, I xx.2.1), (3, .w (.one (.p (.sl 1 xx.2.2.1.1 xx.2.2.1.2)))), (4, I xx.2.2.2.1), (5, .w (.one (.ptr 0 0 0))), (6, .w (.one (.ptr 1 0 0))), (10, .w (.one (.ptr 2 0 0))), (11, .w (.one (.ptr 3 0 0))), (12, I xx.2.2.2.2.2.2.2.2.2.1), (13, I xx.2.2.2.2.2.2.2.2.2.2.1), (14, .w (.one (.ptr 4 0 0)))], [.box [.p (pI yy.1.1), .p (pI yy.1.2.1)], .box [.p (.sl 3 yy.2.1.1.1 yy.2.1.1.2), .p (pI yy.2.1.2.1), .p (pI yy.2.1.2.2.1)], .box [.p (.sl 3 [] true), .p (pI yy.2.2.1.2.1), .p (pI yy.2.2.1.2.2.1)], .box [.ref 5 yy.2.2.2.1.1.1 yy.2.2.2.1.1.2, .p (pI yy.2.2.2.1.2.1), .p (pI yy.2.2.2.1.2.2.1)], .box [.p (pI yy.2.2.2.2.1.1), .p (pB yy.2.2.2.2.1.2.1), .p (pB yy.2.2.2.2.1.2.2.1)], .vec 3 yy.2.2.2.2.2.1 true]⟩ : St) := hs.trans (by kernel_rfl)
  rw [← hs, q, ← f44_p19e0 xx.2.1 xx.2.2.1.1 xx.2.2.1.2 xx.2.2.2.1 xx.2.2.2.2.2.2.2.2.2.1 xx.2.2.2.2.2.2.2.2.2.2.1 yy.1.1 yy.1.2.1 yy.2.1.1.1 yy.2.1.1.2 yy.2.1.2.1 yy.2.1.2.2.1 yy.2.2.1.2.1 yy.2.2.1.2.2.1 yy.2.2.2.1.1.1 yy.2.2.2.1.1.2 yy.2.2.2.1.2.1 yy.2.2.2.1.2.2.1 yy.2.2.2.2.1.1 yy.2.2.2.2.1.2.1 yy.2.2.2.2.1.2.2.1 yy.2.2.2.2.2.1 K]
  exact h
set_option maxHeartbeats 4000000 in
theorem f44_p8_ok : LoopOk f44_C (nthC (bodies (bodyOf Try.f44)) 0) := by
  refine LoopOk.of f44_p8L (by kernel_rfl) fun σ K h => ?_
  have hk : loopKey (nthC (bodies (bodyOf Try.f44)) 0) = 8 := by kernel_rfl
  rw [hk] at h ⊢
  generalize hs : normK f44_C 8 σ = s at h
  obtain ⟨tm, hp⟩ := s
  unfold f44_p8L at h
  dsimp only at h
  obtain ⟨xx, yy, rfl, rfl, h⟩ := getS_elim h
  refine iter_of (f44_p8_mk xx.2.1 xx.2.2.1.1 xx.2.2.1.2 xx.2.2.2.1 yy.1.1 yy.1.2.1 yy.2.1.1.1 yy.2.1.1.2 yy.2.1.2.1 yy.2.1.2.2.1 yy.2.2.1.2.1 yy.2.2.1.2.2.1 yy.2.2.2.1.2.1 yy.2.2.2.1.2.2.1) (fun x N h => ?_) rounds _ σ (hs.trans (by kernel_rfl)) (LoopP.run h)
  obtain ⟨y0, y1, y2, y3, y4⟩ := x
  rw [← f44_p8e0 xx.2.1 xx.2.2.1.1 xx.2.2.1.2 xx.2.2.2.1 y0 y1 yy.1.1 yy.1.2.1 yy.2.1.1.1 yy.2.1.1.2 yy.2.1.2.1 yy.2.1.2.2.1 yy.2.2.1.2.1 yy.2.2.1.2.2.1 y2 y3 yy.2.2.2.1.2.1 yy.2.2.2.1.2.2.1 y4 N K]
  exact h
set_option maxHeartbeats 4000000 in
theorem f44_p58_ok : LoopOk f44_C (nthC (bodies (bodyOf Try.f44)) 3) := by
  refine LoopOk.of f44_p58L (by kernel_rfl) fun σ K h => ?_
  have hk : loopKey (nthC (bodies (bodyOf Try.f44)) 3) = 58 := by kernel_rfl
  rw [hk] at h ⊢
  generalize hs : normK f44_C 58 σ = s at h
  obtain ⟨tm, hp⟩ := s
  unfold f44_p58L at h
  dsimp only at h
  obtain ⟨xx, yy, rfl, rfl, h⟩ := getS_elim h
  refine iter_of (f44_p58_mk xx.2.1 xx.2.2.2.2.2.2.1.1 xx.2.2.2.2.2.2.1.2 yy.1.2.1 yy.1.2.2.1 yy.2.1.1.1 yy.2.1.1.2 yy.2.1.2.1 yy.2.1.2.2.1 yy.2.2.1 yy.2.2.2.1) (fun x N h => ?_) rounds _ σ (hs.trans (by kernel_rfl)) (LoopP.run h)
  rw [← f44_p58e0 xx.2.1 xx.2.2.2.2.2.2.1.1 xx.2.2.2.2.2.2.1.2 x yy.1.2.1 yy.1.2.2.1 yy.2.1.1.1 yy.2.1.1.2 yy.2.1.2.1 yy.2.1.2.2.1 yy.2.2.1 yy.2.2.2.1 N K]
  exact h
set_option maxHeartbeats 4000000 in
theorem f44_p55_ok : TailOk f44_C (nthC (tails (bodyOf Try.f44)) 17) := by
  refine TailOk.of f44_p55L (by kernel_rfl) fun σ K h => ?_
  have hk : joinKey (nthC (tails (bodyOf Try.f44)) 17) = 55 := by kernel_rfl
  rw [hk] at h ⊢
  generalize hs : normK f44_C 55 σ = s at h
  obtain ⟨tm, hp⟩ := s
  unfold f44_p55L at h
  dsimp only at h
  obtain ⟨xx, yy, rfl, rfl, h⟩ := getS_elim h
  have q : normK f44_C 55 σ = (⟨mkS 173 [(4, I xx.2.1), (5, .w (.one (.ptr 0 0 0))), (6, .w (.one (.ptr 1 0 0))), (10, .w (.one (.ptr 2 0 0))), (11, .w (.one (.ptr 3 0 0))), (15, I xx.2.2.2.2.2.2.2.2.1), (16, .w (.one (.ref 4 xx.2.2.2.2.2.2.2.2.2.1.1 xx.2.2.2.2.2.2.2.2.2.1.2)))], [.box [.p (pI yy.1.1), .p (pI yy.1.2.1)], .box [.p (.sl 3 yy.2.1.1.1 yy.2.1.1.2), .p (pI yy.2.1.2.1), .p (pI yy.2.1.2.2.1)], .box [.p (.sl 3 [] true), .p (pI yy.2.2.1.2.1), .p (pI yy.2.2.1.2.2.1)], .box [.ref 5 yy.2.2.2.1.1.1 yy.2.2.2.1.1.2, .p (pI yy.2.2.2.1.2.1), .p (pI yy.2.2.2.1.2.2.1)], .vec 1 yy.2.2.2.2.1 true, .vec 3 yy.2.2.2.2.2.1 true]⟩ : St) := hs.trans (by kernel_rfl)
  rw [← hs, q, ← f44_p55e0 xx.2.1 xx.2.2.2.2.2.2.2.2.1 xx.2.2.2.2.2.2.2.2.2.1.1 xx.2.2.2.2.2.2.2.2.2.1.2 yy.1.1 yy.1.2.1 yy.2.1.1.1 yy.2.1.1.2 yy.2.1.2.1 yy.2.1.2.2.1 yy.2.2.1.2.1 yy.2.2.1.2.2.1 yy.2.2.2.1.1.1 yy.2.2.2.1.1.2 yy.2.2.2.1.2.1 yy.2.2.2.1.2.2.1 yy.2.2.2.2.1 yy.2.2.2.2.2.1 K]
  exact h
set_option maxHeartbeats 4000000 in
theorem f44_p38_ok : LoopOk f44_C (nthC (bodies (bodyOf Try.f44)) 1) := by
  refine LoopOk.of f44_p38L (by kernel_rfl) fun σ K h => ?_
  have hk : loopKey (nthC (bodies (bodyOf Try.f44)) 1) = 38 := by kernel_rfl
  rw [hk] at h ⊢
  generalize hs : normK f44_C 38 σ = s at h
  obtain ⟨tm, hp⟩ := s
  unfold f44_p38L at h
  dsimp only at h
  obtain ⟨xx, yy, rfl, rfl, h⟩ := getS_elim h
  refine iter_of (f44_p38_mk xx.2.1 xx.2.2.2.2.2.2.2.2.1 xx.2.2.2.2.2.2.2.2.2.1.1 xx.2.2.2.2.2.2.2.2.2.1.2 xx.2.2.2.2.2.2.2.2.2.2.1 yy.1.1 yy.1.2.1 yy.2.1.1.1 yy.2.1.1.2 yy.2.1.2.1 yy.2.1.2.2.1 yy.2.2.1.2.1 yy.2.2.1.2.2.1 yy.2.2.2.1.1.1 yy.2.2.2.1.1.2 yy.2.2.2.1.2.1 yy.2.2.2.1.2.2.1 yy.2.2.2.2.1) (fun x N h => ?_) rounds _ σ (hs.trans (by kernel_rfl)) (LoopP.run h)
  obtain ⟨y0, y1⟩ := x
  rw [← f44_p38e0 xx.2.1 xx.2.2.2.2.2.2.2.2.1 xx.2.2.2.2.2.2.2.2.2.1.1 xx.2.2.2.2.2.2.2.2.2.1.2 xx.2.2.2.2.2.2.2.2.2.2.1 y0 yy.1.1 yy.1.2.1 yy.2.1.1.1 yy.2.1.1.2 yy.2.1.2.1 yy.2.1.2.2.1 yy.2.2.1.2.1 yy.2.2.1.2.2.1 yy.2.2.2.1.1.1 yy.2.2.2.1.1.2 yy.2.2.2.1.2.1 yy.2.2.2.1.2.2.1 yy.2.2.2.2.1 y1 N K]
  exact h
set_option maxHeartbeats 4000000 in
theorem f44_p53_ok : TailOk f44_C (nthC (tails (bodyOf Try.f44)) 26) := by
  refine TailOk.of f44_p53L (by kernel_rfl) fun σ K h => ?_
  have hk : joinKey (nthC (tails (bodyOf Try.f44)) 26) = 53 := by kernel_rfl
  rw [hk] at h ⊢
  generalize hs : normK f44_C 53 σ = s at h
  obtain ⟨tm, hp⟩ := s
  unfold f44_p53L at h
  dsimp only at h
  obtain ⟨xx, yy, rfl, rfl, h⟩ := getS_elim h
  have q : normK f44_C 53 σ = (⟨mkS 173 [(4, I xx.2.1), (5, .w (.one (.ptr 0 0 0))), (6, .w (.one (.ptr 1 0 0))), (10, .w (.one (.ptr 2 0 0))), (11, .w (.one (.ptr 3 0 0))), (15, I xx.2.2.2.2.2.2.2.2.1), (16, .w (.one (.ref 4 xx.2.2.2.2.2.2.2.2.2.1.1 xx.2.2.2.2.2.2.2.2.2.1.2))), (19, I xx.2.2.2.2.2.2.2.2.2.2.2.1)], [.box [.p (pI yy.1.1), .p (pI yy.1.2.1)], .box [.p (.sl 3 yy.2.1.1.1 yy.2.1.1.2), .p (pI yy.2.1.2.1), .p (pI yy.2.1.2.2.1)], .box [.p (.sl 3 [] true), .p (pI yy.2.2.1.2.1), .p (pI yy.2.2.1.2.2.1)], .box [.ref 5 yy.2.2.2.1.1.1 yy.2.2.2.1.1.2, .p (pI yy.2.2.2.1.2.1), .p (pI yy.2.2.2.1.2.2.1)], .vec 1 yy.2.2.2.2.1 true, .vec 3 yy.2.2.2.2.2.1 true]⟩ : St) := hs.trans (by kernel_rfl)
  rw [← hs, q, ← f44_p53e0 xx.2.1 xx.2.2.2.2.2.2.2.2.1 xx.2.2.2.2.2.2.2.2.2.1.1 xx.2.2.2.2.2.2.2.2.2.1.2 xx.2.2.2.2.2.2.2.2.2.2.2.1 yy.1.1 yy.1.2.1 yy.2.1.1.1 yy.2.1.1.2 yy.2.1.2.1 yy.2.1.2.2.1 yy.2.2.1.2.1 yy.2.2.1.2.2.1 yy.2.2.2.1.1.1 yy.2.2.2.1.1.2 yy.2.2.2.1.2.1 yy.2.2.2.1.2.2.1 yy.2.2.2.2.1 yy.2.2.2.2.2.1 K]
  exact h
set_option maxHeartbeats 4000000 in
theorem f44_p48_ok : LoopOk f44_C (nthC (bodies (bodyOf Try.f44)) 2) := by
  refine LoopOk.of f44_p48L (by kernel_rfl) fun σ K h => ?_
  have hk : loopKey (nthC (bodies (bodyOf Try.f44)) 2) = 48 := by kernel_rfl
  rw [hk] at h ⊢
  generalize hs : normK f44_C 48 σ = s at h
  obtain ⟨tm, hp⟩ := s
  unfold f44_p48L at h
  dsimp only at h
  obtain ⟨xx, yy, rfl, rfl, h⟩ := getS_elim h
  refine iter_of (f44_p48_mk xx.2.1 xx.2.2.2.2.2.2.2.2.1 xx.2.2.2.2.2.2.2.2.2.1.1 xx.2.2.2.2.2.2.2.2.2.1.2 yy.1.1 yy.1.2.1 yy.2.1.1.1 yy.2.1.1.2 yy.2.1.2.1 yy.2.1.2.2.1 yy.2.2.1.2.1 yy.2.2.1.2.2.1 yy.2.2.2.1.1.1 yy.2.2.2.1.1.2 yy.2.2.2.1.2.1 yy.2.2.2.1.2.2.1 yy.2.2.2.2.1) (fun x N h => ?_) rounds _ σ (hs.trans (by kernel_rfl)) (LoopP.run h)
  obtain ⟨y0, y1⟩ := x
  rw [← f44_p48e0 xx.2.1 xx.2.2.2.2.2.2.2.2.1 xx.2.2.2.2.2.2.2.2.2.1.1 xx.2.2.2.2.2.2.2.2.2.1.2 y0 yy.1.1 yy.1.2.1 yy.2.1.1.1 yy.2.1.1.2 yy.2.1.2.1 yy.2.1.2.2.1 yy.2.2.1.2.1 yy.2.2.1.2.2.1 yy.2.2.2.1.1.1 yy.2.2.2.1.1.2 yy.2.2.2.1.2.1 yy.2.2.2.1.2.2.1 yy.2.2.2.2.1 y1 N K]
  exact h
noncomputable def f44_G0 : List TV → List Entry → (TV → List Entry → Prop) → Prop := fun tm hp K => getS [.v (.pagg [.int .i64, .int .i64]), .v (.pagg [.sl 3, .int .i64, .int .i64]), .v (.one (.int .i64)), .v (.one (.sl 1)), .v (.one (.int .i64))] [] tm hp fun (xx : ((Int × (Int × Unit)) × (((List (List PC) × Bool) × (Int × (Int × Unit))) × (Int × ((List (List PC) × Bool) × (Int × Unit)))))) (yy : Unit) => f44 xx.1.1 xx.1.2.1 xx.2.1.1.1 xx.2.1.1.2 xx.2.1.2.1 xx.2.1.2.2.1 xx.2.2.1 xx.2.2.2.1.1 xx.2.2.2.1.2 xx.2.2.2.2.1 (fun es0_19 full0_20 n0_21 n0_22 => K (.w (.pagg [.sl 3 es0_19 full0_20, pI n0_21, pI n0_22])) [])
set_option maxRecDepth 100000 in
theorem f44_eq (n_263 : Int) (n_264 : Int) (es_265 : List (List PC)) (full_266 : Bool) (n_267 : Int) (n_268 : Int) (n_269 : Int) (es_270 : List (List PC)) (full_271 : Bool) (n_272 : Int) (K : TV → List Entry → Prop) : (f44_d n_263 n_264 es_265 full_266 n_267 n_268 n_269 es_270 full_271 n_272 (fun es0_19 full0_20 n0_21 n0_22 => K (.w (.pagg [.sl 3 es0_19 full0_20, pI n0_21, pI n0_22])) [])) = funcT f44_C Try.f44 [.w (.pagg [pI n_263, pI n_264]), .w (.pagg [.sl 3 es_265 full_266, pI n_267, pI n_268]), I n_269, .w (.one (.p (.sl 1 es_270 full_271))), I n_272] [] K := by kernel_rfl
set_option maxHeartbeats 4000000 in
theorem f44_ok0 : FnOk Try.prog glob 44 f44_G0 := by
  refine FnOk.of_text (C := f44_C) tab_ok.ok (Known.add f23_G_ok (Known.add f21_G_ok (Known.none))) follows_ok (fn := Try.f44) (by kernel_rfl) (by kernel_rfl) (by kernel_rfl) (fun c hc => ?_) fun tm hp K h => ?_
  · have e : c = bodyOf Try.f44 := Option.some.inj (hc.symm.trans (by kernel_rfl))
    subst e
    exact ⟨LoopsOk.of [nthC (bodies (bodyOf Try.f44)) 0, nthC (bodies (bodyOf Try.f44)) 1, nthC (bodies (bodyOf Try.f44)) 2, nthC (bodies (bodyOf Try.f44)) 3] (by kernel_rfl) ⟨f44_p8_ok, f44_p38_ok, f44_p48_ok, f44_p58_ok, trivial⟩, TailsOk.of (tab := f44_tab) rfl [nthC (tails (bodyOf Try.f44)) 9, nthC (tails (bodyOf Try.f44)) 12, nthC (tails (bodyOf Try.f44)) 17, nthC (tails (bodyOf Try.f44)) 26] (by kernel_rfl) ⟨f44_p19_ok, f44_p23_ok, f44_p55_ok, f44_p53_ok, trivial⟩⟩
  · unfold f44_G0 at h
    obtain ⟨xx, yy, rfl, rfl, h⟩ := getS_elim h
    have e := (f44_eq xx.1.1 xx.1.2.1 xx.2.1.1.1 xx.2.1.1.2 xx.2.1.2.1 xx.2.1.2.2.1 xx.2.2.1 xx.2.2.2.1.1 xx.2.2.2.1.2 xx.2.2.2.2.1 K).trans (show _ = funcT f44_C Try.f44 (mkR _ xx) (mkE _ yy) K by kernel_rfl)
    rw [← e]
    exact h.run
noncomputable abbrev f44_G := f44_G0
theorem f44_G_ok : FnOk Try.prog glob 44 f44_G := f44_ok0
end Go.Eng.N
set_option linter.unusedVariables false
set_option maxRecDepth 100000
open Go Go.Eng Go.Proofs
namespace Go.Eng.N
/-! ### f30: plenum/leadlag.instant -/
noncomputable def f30_d (n1 : Int) (k0 : Bool → Prop) : Prop := bB (decide (n1 ≥ 0)) (k0 (decide (n1 ≤ 6311433599))) (k0 false)
structure f30 (n1 : Int) (k0 : Bool → Prop) : Prop where
  run : f30_d n1 k0
noncomputable def f30_tab : List (Nat × Told) := []
noncomputable def f30_call : FuncId → List TV → List Entry → (TV → List Entry → Prop) → Prop := noCalls
noncomputable def f30_C : Ctx := { ty := tyOf tab, glob := glob, byRef := byRef, keep := fun k i => lookN [] (lookN [] ([] : List (Nat × List (Nat × List Nat))) k) i, late := lookN [] ([] : List (Nat × List Nat)), nref := lookN [] ([] : List (Nat × List Nat)), nbox := lookN [] ([] : List (Nat × List (Nat × Nat))), take := [], rnil := false, m := 0, fz := true, loops := lookL f30_tab, call := f30_call }
noncomputable def f30_G0 : List TV → List Entry → (TV → List Entry → Prop) → Prop := fun tm hp K => getS [.v (.one (.int .i64))] [] tm hp fun (xx : (Int × Unit)) (yy : Unit) => f30 xx.1 (fun b0_0 => K (B b0_0) [])
set_option maxRecDepth 100000 in
theorem f30_eq (n_1 : Int) (K : TV → List Entry → Prop) : (f30_d n_1 (fun b0_0 => K (B b0_0) [])) = funcT f30_C Try.f30 [I n_1] [] K := by kernel_rfl
set_option maxHeartbeats 4000000 in
theorem f30_ok0 : FnOk Try.prog glob 30 f30_G0 := by
  refine FnOk.of_text (C := f30_C) tab_ok.ok (Known.none) follows_ok (fn := Try.f30) (by kernel_rfl) (by kernel_rfl) (by kernel_rfl) (fun c hc => ?_) fun tm hp K h => ?_
  · have e : c = bodyOf Try.f30 := Option.some.inj (hc.symm.trans (by kernel_rfl))
    subst e
    exact ⟨LoopsOk.of [] (by kernel_rfl) trivial, TailsOk.of (tab := f30_tab) rfl [] (by kernel_rfl) trivial⟩
  · unfold f30_G0 at h
    obtain ⟨xx, yy, rfl, rfl, h⟩ := getS_elim h
    have e := (f30_eq xx.1 K).trans (show _ = funcT f30_C Try.f30 (mkR _ xx) (mkE _ yy) K by kernel_rfl)
    rw [← e]
    exact h.run
noncomputable abbrev f30_G := f30_G0
theorem f30_G_ok : FnOk Try.prog glob 30 f30_G := f30_ok0
end Go.Eng.N
set_option linter.unusedVariables false
set_option maxRecDepth 100000
open Go Go.Eng Go.Proofs
namespace Go.Eng.N
/-! ### f33: plenum/leadlag.Check$1 -/
noncomputable def f33_d (n1 : Int) (b2 : Bool) (b3 : Bool) (k0 : Bool → Prop) : Prop := f30 n1 (fun b4 => bB (!b4) (k0 true) (bB b2 (k0 b3) (k0 false)))
structure f33 (n1 : Int) (b2 : Bool) (b3 : Bool) (k0 : Bool → Prop) : Prop where
  run : f33_d n1 b2 b3 k0
noncomputable def f33_tab : List (Nat × Told) := []
noncomputable def f33_call : FuncId → List TV → List Entry → (TV → List Entry → Prop) → Prop := addCall 30 f30_G (noCalls)
noncomputable def f33_C : Ctx := { ty := tyOf tab, glob := glob, byRef := byRef, keep := fun k i => lookN [] (lookN [] ([] : List (Nat × List (Nat × List Nat))) k) i, late := lookN [] ([] : List (Nat × List Nat)), nref := lookN [] ([] : List (Nat × List Nat)), nbox := lookN [] ([] : List (Nat × List (Nat × Nat))), take := [], rnil := false, m := 0, fz := true, loops := lookL f33_tab, call := f33_call }
noncomputable def f33_G0 : List TV → List Entry → (TV → List Entry → Prop) → Prop := fun tm hp K => getS [.v (.pagg [.int .i64, .bool, .bool])] [] tm hp fun (xx : ((Int × (Bool × (Bool × Unit))) × Unit)) (yy : Unit) => f33 xx.1.1 xx.1.2.1 xx.1.2.2.1 (fun b0_0 => K (B b0_0) [])
set_option maxRecDepth 100000 in
theorem f33_eq (n_1 : Int) (b_2 : Bool) (b_3 : Bool) (K : TV → List Entry → Prop) : (f33_d n_1 b_2 b_3 (fun b0_0 => K (B b0_0) [])) = funcT f33_C Try.f33 [.w (.pagg [pI n_1, pB b_2, pB b_3])] [] K := by kernel_rfl
set_option maxHeartbeats 4000000 in
theorem f33_ok0 : FnOk Try.prog glob 33 f33_G0 := by
  refine FnOk.of_text (C := f33_C) tab_ok.ok (Known.add f30_G_ok (Known.none)) follows_ok (fn := Try.f33) (by kernel_rfl) (by kernel_rfl) (by kernel_rfl) (fun c hc => ?_) fun tm hp K h => ?_
  · have e : c = bodyOf Try.f33 := Option.some.inj (hc.symm.trans (by kernel_rfl))
    subst e
    exact ⟨LoopsOk.of [] (by kernel_rfl) trivial, TailsOk.of (tab := f33_tab) rfl [] (by kernel_rfl) trivial⟩
  · unfold f33_G0 at h
    obtain ⟨xx, yy, rfl, rfl, h⟩ := getS_elim h
    have e := (f33_eq xx.1.1 xx.1.2.1 xx.1.2.2.1 K).trans (show _ = funcT f33_C Try.f33 (mkR _ xx) (mkE _ yy) K by kernel_rfl)
    rw [← e]
    exact h.run
noncomputable abbrev f33_G := f33_G0
theorem f33_G_ok : FnOk Try.prog glob 33 f33_G := f33_ok0
end Go.Eng.N
set_option linter.unusedVariables false
set_option maxRecDepth 100000
open Go Go.Eng Go.Proofs
namespace Go.Eng.N
/-! ### f45: slices.IndexFunc(()plenum/leadlag.Unit,plenum/leadlag.Unit) -/
noncomputable def f45_p4b0 (es3 : List (List PC)) (full4 : Bool) (n5 : Int) (n6 : Int) (N0 : Int → Prop) (k0 : Int → Prop) (k1 : Unit → Prop) : Prop := bB (decide (n6 < n5)) ((0 ≤ n6 ∧ n6 < ((es3.length : Nat) : Int)) ∧ cI .i64 (ext (List.getD es3 (Int.toNat n6) []) 0 3) fun n8 r7 => cB r7 fun b10 r9 => cB r9 fun b12 r11 => nilC r11 <| f33 n8 b10 b12 (fun b13 => bB b13 (k0 n6) (N0 (w64 (n6 + 1))))) (k1 ())
noncomputable def f45_p4 (es3 : List (List PC)) (full4 : Bool) (n5 : Int) (k0 : Int → Prop) (k1 : Unit → Prop) : Int → Prop := LoopP fun x N => f45_p4b0 es3 full4 n5 x (fun n6 => N n6) k0 k1
noncomputable def f45_d (es1 : List (List PC)) (full2 : Bool) (k0 : Int → Prop) : Prop := f45_p4 es1 full2 ((es1.length : Nat) : Int) (fun n14 => k0 n14) (fun (_ : Unit) => k0 (-1)) 0
structure f45 (es1 : List (List PC)) (full2 : Bool) (k0 : Int → Prop) : Prop where
  run : f45_d es1 full2 k0
noncomputable def f45_p4L : Told := fun s K => match s with
  | ⟨tm, hp⟩ => getS [.v (.one (.sl 3)), .v (.one (.fn 33)), .skip 5, .v (.one (.int .i64)), .v (.one (.int .i64)), .skip 10] [] tm hp fun (xx : ((List (List PC) × Bool) × (Unit × (Unit × (Int × (Int × (Unit × Unit))))))) (yy : Unit) => f45_p4 xx.1.1 xx.1.2 xx.2.2.2.1 (fun n0_0 => K .ret ⟨mkS 19 [(4, I n0_0)], []⟩) (fun (_ : Unit) => K (.exit 0) ⟨mkS 19 [], []⟩) xx.2.2.2.2.1
noncomputable def f45_tab : List (Nat × Told) := [(4, f45_p4L)]
noncomputable def f45_call : FuncId → List TV → List Entry → (TV → List Entry → Prop) → Prop := addCall 33 f33_G (noCalls)
noncomputable def f45_C : Ctx := { ty := tyOf tab, glob := glob, byRef := byRef, keep := fun k i => lookN [] (lookN [] ([(4, [(0, [0, 1, 7, 8]), (2, [4]), (3, [])])] : List (Nat × List (Nat × List Nat))) k) i, late := lookN [] ([] : List (Nat × List Nat)), nref := lookN [] ([] : List (Nat × List Nat)), nbox := lookN [] ([] : List (Nat × List (Nat × Nat))), take := [], rnil := false, m := 0, fz := true, loops := lookL f45_tab, call := f45_call }
noncomputable def f45_p4_mk (es3 : List (List PC)) (full4 : Bool) (n5 : Int) (x : Int) : St := ⟨mkS 19 [(0, .w (.one (.p (.sl 3 es3 full4)))), (1, .w (.one (.p (.c (.func (.func 33) #[] #[]))))), (7, I n5), (8, I x)], []⟩
set_option maxRecDepth 100000 in
theorem f45_p4e0 (es_6 : List (List PC)) (full_7 : Bool) (n_8 : Int) (n_9 : Int) (N : St → Prop) (K : TExit → St → Prop) : (f45_p4b0 es_6 full_7 n_8 n_9 (fun z3 => N (f45_p4_mk es_6 full_7 n_8 z3)) (fun n0_10 => K .ret ⟨mkS 19 [(4, I n0_10)], []⟩) (fun (_ : Unit) => K (.exit 0) ⟨mkS 19 [], []⟩)) = execT f45_C (nthC (bodies (bodyOf Try.f45)) 0) (f45_p4_mk es_6 full_7 n_8 n_9) (loopK N (normK f45_C 4) fun e s => K e (normOut f45_C 4 e s)) := by kernel_rfl
set_option maxHeartbeats 4000000 in
theorem f45_p4_ok : LoopOk f45_C (nthC (bodies (bodyOf Try.f45)) 0) := by
  refine LoopOk.of f45_p4L (by kernel_rfl) fun σ K h => ?_
  have hk : loopKey (nthC (bodies (bodyOf Try.f45)) 0) = 4 := by kernel_rfl
  rw [hk] at h ⊢
  generalize hs : normK f45_C 4 σ = s at h
  obtain ⟨tm, hp⟩ := s
  unfold f45_p4L at h
  dsimp only at h
  obtain ⟨xx, yy, rfl, rfl, h⟩ := getS_elim h
  refine iter_of (f45_p4_mk xx.1.1 xx.1.2 xx.2.2.2.1) (fun x N h => ?_) rounds _ σ (hs.trans (by kernel_rfl)) (LoopP.run h)
  rw [← f45_p4e0 xx.1.1 xx.1.2 xx.2.2.2.1 x N K]
  exact h
noncomputable def f45_G0 : List TV → List Entry → (TV → List Entry → Prop) → Prop := fun tm hp K => getS [.v (.one (.sl 3)), .v (.one (.fn 33))] [] tm hp fun (xx : ((List (List PC) × Bool) × (Unit × Unit))) (yy : Unit) => f45 xx.1.1 xx.1.2 (fun n0_1 => K (I n0_1) [])
set_option maxRecDepth 100000 in
theorem f45_eq (es_11 : List (List PC)) (full_12 : Bool) (K : TV → List Entry → Prop) : (f45_d es_11 full_12 (fun n0_1 => K (I n0_1) [])) = funcT f45_C Try.f45 [.w (.one (.p (.sl 3 es_11 full_12))), .w (.one (.p (.c (.func (.func 33) #[] #[]))))] [] K := by kernel_rfl
set_option maxHeartbeats 4000000 in
theorem f45_ok0 : FnOk Try.prog glob 45 f45_G0 := by
  refine FnOk.of_text (C := f45_C) tab_ok.ok (Known.add f33_G_ok (Known.none)) follows_ok (fn := Try.f45) (by kernel_rfl) (by kernel_rfl) (by kernel_rfl) (fun c hc => ?_) fun tm hp K h => ?_
  · have e : c = bodyOf Try.f45 := Option.some.inj (hc.symm.trans (by kernel_rfl))
    subst e
    exact ⟨LoopsOk.of [nthC (bodies (bodyOf Try.f45)) 0] (by kernel_rfl) ⟨f45_p4_ok, trivial⟩, TailsOk.of (tab := f45_tab) rfl [] (by kernel_rfl) trivial⟩
  · unfold f45_G0 at h
    obtain ⟨xx, yy, rfl, rfl, h⟩ := getS_elim h
    have e := (f45_eq xx.1.1 xx.1.2 K).trans (show _ = funcT f45_C Try.f45 (mkR _ xx) (mkE _ yy) K by kernel_rfl)
    rw [← e]
    exact h.run
noncomputable abbrev f45_G := f45_G0
theorem f45_G_ok : FnOk Try.prog glob 45 f45_G := f45_ok0
end Go.Eng.N
set_option linter.unusedVariables false
set_option maxRecDepth 100000
open Go Go.Eng Go.Proofs
namespace Go.Eng.N
/-! ### f34: slices.ContainsFunc(()plenum/leadlag.Unit,plenum/leadlag.Unit) -/
noncomputable def f34_d (es1 : List (List PC)) (full2 : Bool) (k0 : Bool → Prop) : Prop := f45 es1 full2 (fun n3 => k0 (decide (n3 ≥ 0)))
structure f34 (es1 : List (List PC)) (full2 : Bool) (k0 : Bool → Prop) : Prop where
  run : f34_d es1 full2 k0
noncomputable def f34_tab : List (Nat × Told) := []
noncomputable def f34_call : FuncId → List TV → List Entry → (TV → List Entry → Prop) → Prop := addCall 45 f45_G (noCalls)
noncomputable def f34_C : Ctx := { ty := tyOf tab, glob := glob, byRef := byRef, keep := fun k i => lookN [] (lookN [] ([] : List (Nat × List (Nat × List Nat))) k) i, late := lookN [] ([] : List (Nat × List Nat)), nref := lookN [] ([] : List (Nat × List Nat)), nbox := lookN [] ([] : List (Nat × List (Nat × Nat))), take := [], rnil := false, m := 0, fz := true, loops := lookL f34_tab, call := f34_call }
noncomputable def f34_G0 : List TV → List Entry → (TV → List Entry → Prop) → Prop := fun tm hp K => getS [.v (.one (.sl 3)), .v (.one (.fn 33))] [] tm hp fun (xx : ((List (List PC) × Bool) × (Unit × Unit))) (yy : Unit) => f34 xx.1.1 xx.1.2 (fun b0_0 => K (B b0_0) [])
set_option maxRecDepth 100000 in
theorem f34_eq (es_1 : List (List PC)) (full_2 : Bool) (K : TV → List Entry → Prop) : (f34_d es_1 full_2 (fun b0_0 => K (B b0_0) [])) = funcT f34_C Try.f34 [.w (.one (.p (.sl 3 es_1 full_2))), .w (.one (.p (.c (.func (.func 33) #[] #[]))))] [] K := by kernel_rfl
set_option maxHeartbeats 4000000 in
theorem f34_ok0 : FnOk Try.prog glob 34 f34_G0 := by
  refine FnOk.of_text (C := f34_C) tab_ok.ok (Known.add f45_G_ok (Known.none)) follows_ok (fn := Try.f34) (by kernel_rfl) (by kernel_rfl) (by kernel_rfl) (fun c hc => ?_) fun tm hp K h => ?_
  · have e : c = bodyOf Try.f34 := Option.some.inj (hc.symm.trans (by kernel_rfl))
    subst e
    exact ⟨LoopsOk.of [] (by kernel_rfl) trivial, TailsOk.of (tab := f34_tab) rfl [] (by kernel_rfl) trivial⟩
  · unfold f34_G0 at h
    obtain ⟨xx, yy, rfl, rfl, h⟩ := getS_elim h
    have e := (f34_eq xx.1.1 xx.1.2 K).trans (show _ = funcT f34_C Try.f34 (mkR _ xx) (mkE _ yy) K by kernel_rfl)
    rw [← e]
    exact h.run
noncomputable abbrev f34_G := f34_G0
theorem f34_G_ok : FnOk Try.prog glob 34 f34_G := f34_ok0
end Go.Eng.N
set_option linter.unusedVariables false
set_option maxRecDepth 100000
open Go Go.Eng Go.Proofs
namespace Go.Eng.N
/-! ### f14: plenum/leadlag.Check -/
noncomputable def f14_p7 (es7 : List (List PC)) (full8 : Bool) (n9 : Int) (n10 : Int) (k0 : Int → Prop) : Prop := bB (decide (((es7.length : Nat) : Int) < 1)) (k0 1) (bB (decide (((es7.length : Nat) : Int) > 16)) (k0 1) (f34 es7 full8 (fun b11 => bB b11 (k0 1) (bB (decide (n9 < (-1))) (k0 1) (bB (decide (n9 > 6311433599)) (k0 1) (f30 n10 (fun b12 => bB (!b12) (k0 1) (k0 0))))))))
noncomputable def f14_d (n1 : Int) (n2 : Int) (es3 : List (List PC)) (full4 : Bool) (n5 : Int) (n6 : Int) (k0 : Int → Prop) : Prop := bB (decide (n1 < 1)) (k0 6) (bB (decide (n1 > 2678400)) (k0 6) (bB (decide (n2 < 0)) (k0 6) (bB (decide (n2 > 3600)) (k0 6) (f14_p7 es3 full4 n5 n6 (fun n13 => k0 n13)))))
structure f14 (n1 : Int) (n2 : Int) (es3 : List (List PC)) (full4 : Bool) (n5 : Int) (n6 : Int) (k0 : Int → Prop) : Prop where
  run : f14_d n1 n2 es3 full4 n5 n6 k0
noncomputable def f14_p7L : Told := fun s K => match s with
  | ⟨tm, hp⟩ => getS [.skip 3, .v (.one (.ptr 0 0 0)), .skip 52] [.box [.sl 3, .int .i64, .int .i64]] tm hp fun (xx : (Unit × (Unit × (Unit × Unit)))) (yy : (((List (List PC) × Bool) × (Int × (Int × Unit))) × Unit)) => f14_p7 yy.1.1.1 yy.1.1.2 yy.1.2.1 yy.1.2.2.1 (fun n0_0 => K .ret ⟨mkS 56 [(4, I n0_0)], []⟩)
noncomputable def f14_tab : List (Nat × Told) := [(7, f14_p7L)]
noncomputable def f14_call : FuncId → List TV → List Entry → (TV → List Entry → Prop) → Prop := addCall 34 f34_G (addCall 30 f30_G (noCalls))
noncomputable def f14_C : Ctx := { ty := tyOf tab, glob := glob, byRef := byRef, keep := fun k i => lookN [] (lookN [] ([(7, [(0, [3]), (1, [4]), (2, [4])])] : List (Nat × List (Nat × List Nat))) k) i, late := lookN [] ([] : List (Nat × List Nat)), nref := lookN [] ([] : List (Nat × List Nat)), nbox := lookN [] ([] : List (Nat × List (Nat × Nat))), take := [], rnil := false, m := 0, fz := true, loops := lookL f14_tab, call := f14_call }
set_option maxRecDepth 100000 in
theorem f14_p7e0 (es_2 : List (List PC)) (full_3 : Bool) (n_4 : Int) (n_5 : Int) (K : TExit → St → Prop) : (f14_p7 es_2 full_3 n_4 n_5 (fun n0_6 => K .ret ⟨mkS 56 [(4, I n0_6)], []⟩)) = execT f14_C (nthC (tails (bodyOf Try.f14)) 1) ⟨mkS 56 [(3, .w (.one (.ptr 0 0 0)))], [.box [.p (.sl 3 es_2 full_3), .p (pI n_4), .p (pI n_5)]]⟩ (fun e s => K e (normOut f14_C 7 e s)) := by kernel_rfl
set_option maxHeartbeats 4000000 in
theorem f14_p7_ok : TailOk f14_C (nthC (tails (bodyOf Try.f14)) 1) := by
  refine TailOk.of f14_p7L (by kernel_rfl) fun σ K h => ?_
  have hk : joinKey (nthC (tails (bodyOf Try.f14)) 1) = 7 := by kernel_rfl
  rw [hk] at h ⊢
  generalize hs : normK f14_C 7 σ = s at h
  obtain ⟨tm, hp⟩ := s
  unfold f14_p7L at h
  dsimp only at h
  obtain ⟨xx, yy, rfl, rfl, h⟩ := getS_elim h
  have q : normK f14_C 7 σ = (⟨mkS 56 [(3, .w (.one (.ptr 0 0 0)))], [.box [.p (.sl 3 yy.1.1.1 yy.1.1.2), .p (pI yy.1.2.1), .p (pI yy.1.2.2.1)]]⟩ : St) := hs.trans (by kernel_rfl)
  rw [← hs, q, ← f14_p7e0 yy.1.1.1 yy.1.1.2 yy.1.2.1 yy.1.2.2.1 K]
  exact h
noncomputable def f14_G0 : List TV → List Entry → (TV → List Entry → Prop) → Prop := fun tm hp K => getS [.v (.pagg [.int .i64, .int .i64]), .v (.pagg [.sl 3, .int .i64, .int .i64])] [] tm hp fun (xx : ((Int × (Int × Unit)) × (((List (List PC) × Bool) × (Int × (Int × Unit))) × Unit))) (yy : Unit) => f14 xx.1.1 xx.1.2.1 xx.2.1.1.1 xx.2.1.1.2 xx.2.1.2.1 xx.2.1.2.2.1 (fun n0_1 => K (I n0_1) [])
set_option maxRecDepth 100000 in
theorem f14_eq (n_7 : Int) (n_8 : Int) (es_9 : List (List PC)) (full_10 : Bool) (n_11 : Int) (n_12 : Int) (K : TV → List Entry → Prop) : (f14_d n_7 n_8 es_9 full_10 n_11 n_12 (fun n0_1 => K (I n0_1) [])) = funcT f14_C Try.f14 [.w (.pagg [pI n_7, pI n_8]), .w (.pagg [.sl 3 es_9 full_10, pI n_11, pI n_12])] [] K := by kernel_rfl
set_option maxHeartbeats 4000000 in
theorem f14_ok0 : FnOk Try.prog glob 14 f14_G0 := by
  refine FnOk.of_text (C := f14_C) tab_ok.ok (Known.add f34_G_ok (Known.add f30_G_ok (Known.none))) follows_ok (fn := Try.f14) (by kernel_rfl) (by kernel_rfl) (by kernel_rfl) (fun c hc => ?_) fun tm hp K h => ?_
  · have e : c = bodyOf Try.f14 := Option.some.inj (hc.symm.trans (by kernel_rfl))
    subst e
    exact ⟨LoopsOk.of [] (by kernel_rfl) trivial, TailsOk.of (tab := f14_tab) rfl [nthC (tails (bodyOf Try.f14)) 1] (by kernel_rfl) ⟨f14_p7_ok, trivial⟩⟩
  · unfold f14_G0 at h
    obtain ⟨xx, yy, rfl, rfl, h⟩ := getS_elim h
    have e := (f14_eq xx.1.1 xx.1.2.1 xx.2.1.1.1 xx.2.1.1.2 xx.2.1.2.1 xx.2.1.2.2.1 K).trans (show _ = funcT f14_C Try.f14 (mkR _ xx) (mkE _ yy) K by kernel_rfl)
    rw [← e]
    exact h.run
noncomputable abbrev f14_G := f14_G0
theorem f14_G_ok : FnOk Try.prog glob 14 f14_G := f14_ok0
end Go.Eng.N
set_option linter.unusedVariables false
set_option maxRecDepth 100000
open Go Go.Eng Go.Proofs
namespace Go.Eng.N
/-! ### f41: plenum/leadlag.timely -/
noncomputable def f41_d (es1 : List (List PC)) (full2 : Bool) (n3 : Int) (n4 : Int) (n5 : Int) (k0 : Bool → Prop) : Prop := f30 n5 (fun b6 => bB b6 (bB (decide (n5 ≥ n4)) (k0 (decide (n5 ≥ n3))) (k0 false)) (k0 false))
structure f41 (es1 : List (List PC)) (full2 : Bool) (n3 : Int) (n4 : Int) (n5 : Int) (k0 : Bool → Prop) : Prop where
  run : f41_d es1 full2 n3 n4 n5 k0
noncomputable def f41_tab : List (Nat × Told) := []
noncomputable def f41_call : FuncId → List TV → List Entry → (TV → List Entry → Prop) → Prop := addCall 30 f30_G (noCalls)
noncomputable def f41_C : Ctx := { ty := tyOf tab, glob := glob, byRef := byRef, keep := fun k i => lookN [] (lookN [] ([] : List (Nat × List (Nat × List Nat))) k) i, late := lookN [] ([] : List (Nat × List Nat)), nref := lookN [] ([] : List (Nat × List Nat)), nbox := lookN [] ([] : List (Nat × List (Nat × Nat))), take := [], rnil := false, m := 0, fz := true, loops := lookL f41_tab, call := f41_call }
noncomputable def f41_G0 : List TV → List Entry → (TV → List Entry → Prop) → Prop := fun tm hp K => getS [.v (.pagg [.sl 3, .int .i64, .int .i64]), .v (.one (.int .i64))] [] tm hp fun (xx : (((List (List PC) × Bool) × (Int × (Int × Unit))) × (Int × Unit))) (yy : Unit) => f41 xx.1.1.1 xx.1.1.2 xx.1.2.1 xx.1.2.2.1 xx.2.1 (fun b0_0 => K (B b0_0) [])
set_option maxRecDepth 100000 in
theorem f41_eq (es_1 : List (List PC)) (full_2 : Bool) (n_3 : Int) (n_4 : Int) (n_5 : Int) (K : TV → List Entry → Prop) : (f41_d es_1 full_2 n_3 n_4 n_5 (fun b0_0 => K (B b0_0) [])) = funcT f41_C Try.f41 [.w (.pagg [.sl 3 es_1 full_2, pI n_3, pI n_4]), I n_5] [] K := by kernel_rfl
set_option maxHeartbeats 4000000 in
theorem f41_ok0 : FnOk Try.prog glob 41 f41_G0 := by
  refine FnOk.of_text (C := f41_C) tab_ok.ok (Known.add f30_G_ok (Known.none)) follows_ok (fn := Try.f41) (by kernel_rfl) (by kernel_rfl) (by kernel_rfl) (fun c hc => ?_) fun tm hp K h => ?_
  · have e : c = bodyOf Try.f41 := Option.some.inj (hc.symm.trans (by kernel_rfl))
    subst e
    exact ⟨LoopsOk.of [] (by kernel_rfl) trivial, TailsOk.of (tab := f41_tab) rfl [] (by kernel_rfl) trivial⟩
  · unfold f41_G0 at h
    obtain ⟨xx, yy, rfl, rfl, h⟩ := getS_elim h
    have e := (f41_eq xx.1.1.1 xx.1.1.2 xx.1.2.1 xx.1.2.2.1 xx.2.1 K).trans (show _ = funcT f41_C Try.f41 (mkR _ xx) (mkE _ yy) K by kernel_rfl)
    rw [← e]
    exact h.run
noncomputable abbrev f41_G := f41_G0
theorem f41_G_ok : FnOk Try.prog glob 41 f41_G := f41_ok0
end Go.Eng.N
set_option linter.unusedVariables false
set_option maxRecDepth 100000
open Go Go.Eng Go.Proofs
namespace Go.Eng.N
/-! ### f28: plenum/leadlag.Step -/
noncomputable def f28_d (n1 : Int) (n2 : Int) (es3 : List (List PC)) (full4 : Bool) (n5 : Int) (n6 : Int) (n7 : Int) (es8 : List (List PC)) (full9 : Bool) (n10 : Int) (k0 : (List (List PC)) → Bool → Int → Int → Int → Prop) : Prop := f14 n1 n2 es3 full4 n5 n6 (fun n11 => bB (n11 != 0) (k0 [] true 0 0 n11) (bB (((es8.length : Nat) : Int) != ((es3.length : Nat) : Int)) (k0 [] true 0 0 1) (f41 es3 full4 n5 n6 n10 (fun b12 => bB (!b12) (k0 [] true 0 0 6) (f42 n1 n2 es3 full4 n5 n6 n7 es8 full9 n10 (fun es13 full14 n15 n16 => k0 es13 full14 n15 n16 0))))))
structure f28 (n1 : Int) (n2 : Int) (es3 : List (List PC)) (full4 : Bool) (n5 : Int) (n6 : Int) (n7 : Int) (es8 : List (List PC)) (full9 : Bool) (n10 : Int) (k0 : (List (List PC)) → Bool → Int → Int → Int → Prop) : Prop where
  run : f28_d n1 n2 es3 full4 n5 n6 n7 es8 full9 n10 k0
noncomputable def f28_tab : List (Nat × Told) := []
noncomputable def f28_call : FuncId → List TV → List Entry → (TV → List Entry → Prop) → Prop := addCall 42 f42_G (addCall 41 f41_G (addCall 14 f14_G (noCalls)))
noncomputable def f28_C : Ctx := { ty := tyOf tab, glob := glob, byRef := byRef, keep := fun k i => lookN [] (lookN [] ([] : List (Nat × List (Nat × List Nat))) k) i, late := lookN [] ([] : List (Nat × List Nat)), nref := lookN [] ([] : List (Nat × List Nat)), nbox := lookN [] ([] : List (Nat × List (Nat × Nat))), take := [], rnil := false, m := 0, fz := true, loops := lookL f28_tab, call := f28_call }
noncomputable def f28_G0 : List TV → List Entry → (TV → List Entry → Prop) → Prop := fun tm hp K => getS [.v (.pagg [.int .i64, .int .i64]), .v (.pagg [.sl 3, .int .i64, .int .i64]), .v (.one (.int .i64)), .v (.one (.sl 1)), .v (.one (.int .i64))] [] tm hp fun (xx : ((Int × (Int × Unit)) × (((List (List PC) × Bool) × (Int × (Int × Unit))) × (Int × ((List (List PC) × Bool) × (Int × Unit)))))) (yy : Unit) => f28 xx.1.1 xx.1.2.1 xx.2.1.1.1 xx.2.1.1.2 xx.2.1.2.1 xx.2.1.2.2.1 xx.2.2.1 xx.2.2.2.1.1 xx.2.2.2.1.2 xx.2.2.2.2.1 (fun es0_0 full0_1 n0_2 n0_3 n0_4 => K (.tup [.pagg [.sl 3 es0_0 full0_1, pI n0_2, pI n0_3], .one (.p (pI n0_4))]) [])
set_option maxRecDepth 100000 in
theorem f28_eq (n_5 : Int) (n_6 : Int) (es_7 : List (List PC)) (full_8 : Bool) (n_9 : Int) (n_10 : Int) (n_11 : Int) (es_12 : List (List PC)) (full_13 : Bool) (n_14 : Int) (K : TV → List Entry → Prop) : (f28_d n_5 n_6 es_7 full_8 n_9 n_10 n_11 es_12 full_13 n_14 (fun es0_0 full0_1 n0_2 n0_3 n0_4 => K (.tup [.pagg [.sl 3 es0_0 full0_1, pI n0_2, pI n0_3], .one (.p (pI n0_4))]) [])) = funcT f28_C Try.f28 [.w (.pagg [pI n_5, pI n_6]), .w (.pagg [.sl 3 es_7 full_8, pI n_9, pI n_10]), I n_11, .w (.one (.p (.sl 1 es_12 full_13))), I n_14] [] K := by kernel_rfl
set_option maxHeartbeats 4000000 in
theorem f28_ok0 : FnOk Try.prog glob 28 f28_G0 := by
  refine FnOk.of_text (C := f28_C) tab_ok.ok (Known.add f42_G_ok (Known.add f41_G_ok (Known.add f14_G_ok (Known.none)))) follows_ok (fn := Try.f28) (by kernel_rfl) (by kernel_rfl) (by kernel_rfl) (fun c hc => ?_) fun tm hp K h => ?_
  · have e : c = bodyOf Try.f28 := Option.some.inj (hc.symm.trans (by kernel_rfl))
    subst e
    exact ⟨LoopsOk.of [] (by kernel_rfl) trivial, TailsOk.of (tab := f28_tab) rfl [] (by kernel_rfl) trivial⟩
  · unfold f28_G0 at h
    obtain ⟨xx, yy, rfl, rfl, h⟩ := getS_elim h
    have e := (f28_eq xx.1.1 xx.1.2.1 xx.2.1.1.1 xx.2.1.1.2 xx.2.1.2.1 xx.2.1.2.2.1 xx.2.2.1 xx.2.2.2.1.1 xx.2.2.2.1.2 xx.2.2.2.2.1 K).trans (show _ = funcT f28_C Try.f28 (mkR _ xx) (mkE _ yy) K by kernel_rfl)
    rw [← e]
    exact h.run
noncomputable abbrev f28_G := f28_G0
theorem f28_G_ok : FnOk Try.prog glob 28 f28_G := f28_ok0
end Go.Eng.N
set_option linter.unusedVariables false
set_option maxRecDepth 100000
open Go Go.Eng Go.Proofs
namespace Go.Eng.N
/-! ### f16: plenum/plenumref55.Check -/
noncomputable def f16_p12b0 (n15 : Int) (es16 : List (List PC)) (full17 : Bool) (n18 : Int) (n19 : Int) (N0 : Int → Prop) (k0 : Int → Prop) (k1 : Unit → Prop) : Prop := bB (decide (n15 < ((es16.length : Nat) : Int))) ((0 ≤ n15 ∧ n15 < ((es16.length : Nat) : Int)) ∧ cI .i64 (ext (List.getD es16 (Int.toNat n15) []) 0 3) fun n21 r20 => cB r20 fun b23 r22 => cB r22 fun b25 r24 => nilC r24 <| bB (decide (n21 < 0)) (k0 1) (bB (decide (n21 > 6311433599)) (k0 1) (bB b23 (bB b25 (k0 1) (N0 (w64 (n15 + 1)))) (N0 (w64 (n15 + 1)))))) (k1 ())
noncomputable def f16_p12 (es16 : List (List PC)) (full17 : Bool) (n18 : Int) (n19 : Int) (k0 : Int → Prop) (k1 : Unit → Prop) : Int → Prop := LoopP fun x N => f16_p12b0 x es16 full17 n18 n19 (fun n15 => N n15) k0 k1
noncomputable def f16_p11 (es11 : List (List PC)) (full12 : Bool) (n13 : Int) (n14 : Int) (k0 : Int → Prop) : Prop := f16_p12 es11 full12 n13 n14 (fun n26 => k0 n26) (fun (_ : Unit) => k0 0) 0
noncomputable def f16_p7 (es7 : List (List PC)) (full8 : Bool) (n9 : Int) (n10 : Int) (k0 : Int → Prop) : Prop := bB (decide (((es7.length : Nat) : Int) < 1)) (k0 1) (bB (decide (((es7.length : Nat) : Int) > 16)) (k0 1) (bB (decide (n9 < (-1))) (k0 1) (bB (decide (n9 > 6311433599)) (k0 1) (bB (decide (n10 < 0)) (k0 1) (bB (decide (n10 > 6311433599)) (k0 1) (f16_p11 es7 full8 n9 n10 (fun n27 => k0 n27)))))))
noncomputable def f16_d (n1 : Int) (n2 : Int) (es3 : List (List PC)) (full4 : Bool) (n5 : Int) (n6 : Int) (k0 : Int → Prop) : Prop := bB (decide (n1 < 1)) (k0 6) (bB (decide (n1 > 2678400)) (k0 6) (bB (decide (n2 < 0)) (k0 6) (bB (decide (n2 > 3600)) (k0 6) (f16_p7 es3 full4 n5 n6 (fun n28 => k0 n28)))))
structure f16 (n1 : Int) (n2 : Int) (es3 : List (List PC)) (full4 : Bool) (n5 : Int) (n6 : Int) (k0 : Int → Prop) : Prop where
  run : f16_d n1 n2 es3 full4 n5 n6 k0
noncomputable def f16_p12L : Told := fun s K => match s with
  | ⟨tm, hp⟩ => getS [.skip 3, .v (.one (.ptr 0 0 0)), .skip 1, .v (.one (.int .i64)), .skip 77] [.box [.sl 3, .int .i64, .int .i64]] tm hp fun (xx : (Unit × (Unit × (Unit × (Int × (Unit × Unit)))))) (yy : (((List (List PC) × Bool) × (Int × (Int × Unit))) × Unit)) => f16_p12 yy.1.1.1 yy.1.1.2 yy.1.2.1 yy.1.2.2.1 (fun n0_0 => K .ret ⟨mkS 83 [(4, I n0_0)], []⟩) (fun (_ : Unit) => K (.exit 0) ⟨mkS 83 [], []⟩) xx.2.2.2.1
noncomputable def f16_p11L : Told := fun s K => match s with
  | ⟨tm, hp⟩ => getS [.skip 3, .v (.one (.ptr 0 0 0)), .skip 79] [.box [.sl 3, .int .i64, .int .i64]] tm hp fun (xx : (Unit × (Unit × (Unit × Unit)))) (yy : (((List (List PC) × Bool) × (Int × (Int × Unit))) × Unit)) => f16_p11 yy.1.1.1 yy.1.1.2 yy.1.2.1 yy.1.2.2.1 (fun n0_1 => K .ret ⟨mkS 83 [(4, I n0_1)], []⟩)
noncomputable def f16_p7L : Told := fun s K => match s with
  | ⟨tm, hp⟩ => getS [.skip 3, .v (.one (.ptr 0 0 0)), .skip 79] [.box [.sl 3, .int .i64, .int .i64]] tm hp fun (xx : (Unit × (Unit × (Unit × Unit)))) (yy : (((List (List PC) × Bool) × (Int × (Int × Unit))) × Unit)) => f16_p7 yy.1.1.1 yy.1.1.2 yy.1.2.1 yy.1.2.2.1 (fun n0_2 => K .ret ⟨mkS 83 [(4, I n0_2)], []⟩)
noncomputable def f16_tab : List (Nat × Told) := [(12, f16_p12L), (11, f16_p11L), (7, f16_p7L)]
noncomputable def f16_call : FuncId → List TV → List Entry → (TV → List Entry → Prop) → Prop := noCalls
noncomputable def f16_C : Ctx := { ty := tyOf tab, glob := glob, byRef := byRef, keep := fun k i => lookN [] (lookN [] ([(12, [(0, [3, 5]), (2, [4]), (3, [])]), (11, [(0, [3]), (1, [4]), (2, [4])]), (7, [(0, [3]), (1, [4]), (2, [4])])] : List (Nat × List (Nat × List Nat))) k) i, late := lookN [] ([] : List (Nat × List Nat)), nref := lookN [] ([] : List (Nat × List Nat)), nbox := lookN [] ([] : List (Nat × List (Nat × Nat))), take := [], rnil := false, m := 0, fz := true, loops := lookL f16_tab, call := f16_call }
noncomputable def f16_p12_mk (es16 : List (List PC)) (full17 : Bool) (n18 : Int) (n19 : Int) (x : Int) : St := ⟨mkS 83 [(3, .w (.one (.ptr 0 0 0))), (5, I x)], [.box [.p (.sl 3 es16 full17), .p (pI n18), .p (pI n19)]]⟩
set_option maxRecDepth 100000 in
theorem f16_p12e0 (n_9 : Int) (es_10 : List (List PC)) (full_11 : Bool) (n_12 : Int) (n_13 : Int) (N : St → Prop) (K : TExit → St → Prop) : (f16_p12b0 n_9 es_10 full_11 n_12 n_13 (fun z0 => N (f16_p12_mk es_10 full_11 n_12 n_13 z0)) (fun n0_14 => K .ret ⟨mkS 83 [(4, I n0_14)], []⟩) (fun (_ : Unit) => K (.exit 0) ⟨mkS 83 [], []⟩)) = execT f16_C (nthC (bodies (bodyOf Try.f16)) 0) (f16_p12_mk es_10 full_11 n_12 n_13 n_9) (loopK N (normK f16_C 12) fun e s => K e (normOut f16_C 12 e s)) := by kernel_rfl
set_option maxRecDepth 100000 in
theorem f16_p11e0 (es_15 : List (List PC)) (full_16 : Bool) (n_17 : Int) (n_18 : Int) (K : TExit → St → Prop) : (f16_p11 es_15 full_16 n_17 n_18 (fun n0_19 => K .ret ⟨mkS 83 [(4, I n0_19)], []⟩)) = execT f16_C (nthC (tails (bodyOf Try.f16)) 4) ⟨mkS 83 [(3, .w (.one (.ptr 0 0 0)))], [.box [.p (.sl 3 es_15 full_16), .p (pI n_17), .p (pI n_18)]]⟩ (fun e s => K e (normOut f16_C 11 e s)) := by kernel_rfl
set_option maxRecDepth 100000 in
theorem f16_p7e0 (es_20 : List (List PC)) (full_21 : Bool) (n_22 : Int) (n_23 : Int) (K : TExit → St → Prop) : (f16_p7 es_20 full_21 n_22 n_23 (fun n0_24 => K .ret ⟨mkS 83 [(4, I n0_24)], []⟩)) = execT f16_C (nthC (tails (bodyOf Try.f16)) 1) ⟨mkS 83 [(3, .w (.one (.ptr 0 0 0)))], [.box [.p (.sl 3 es_20 full_21), .p (pI n_22), .p (pI n_23)]]⟩ (fun e s => K e (normOut f16_C 7 e s)) := by kernel_rfl
set_option maxHeartbeats 4000000 in
theorem f16_p12_ok : LoopOk f16_C (nthC (bodies (bodyOf Try.f16)) 0) := by
  refine LoopOk.of f16_p12L (by kernel_rfl) fun σ K h => ?_
  have hk : loopKey (nthC (bodies (bodyOf Try.f16)) 0) = 12 := by kernel_rfl
  rw [hk] at h ⊢
  generalize hs : normK f16_C 12 σ = s at h
  obtain ⟨tm, hp⟩ := s
  unfold f16_p12L at h
  dsimp only at h
  obtain ⟨xx, yy, rfl, rfl, h⟩ := getS_elim h
  refine iter_of (f16_p12_mk yy.1.1.1 yy.1.1.2 yy.1.2.1 yy.1.2.2.1) (fun x N h => ?_) rounds _ σ (hs.trans (by kernel_rfl)) (LoopP.run h)
  rw [← f16_p12e0 x yy.1.1.1 yy.1.1.2 yy.1.2.1 yy.1.2.2.1 N K]
  exact h
set_option maxHeartbeats 4000000 in
theorem f16_p11_ok : TailOk f16_C (nthC (tails (bodyOf Try.f16)) 4) := by
  refine TailOk.of f16_p11L (by kernel_rfl) fun σ K h => ?_
  have hk : joinKey (nthC (tails (bodyOf Try.f16)) 4) = 11 := by kernel_rfl
  rw [hk] at h ⊢
  generalize hs : normK f16_C 11 σ = s at h
  obtain ⟨tm, hp⟩ := s
  unfold f16_p11L at h
  dsimp only at h
  obtain ⟨xx, yy, rfl, rfl, h⟩ := getS_elim h
  have q : normK f16_C 11 σ = (⟨mkS 83 [(3, .w (.one (.ptr 0 0 0)))], [.box [.p (.sl 3 yy.1.1.1 yy.1.1.2), .p (pI yy.1.2.1), .p (pI yy.1.2.2.1)]]⟩ : St) := hs.trans (by kernel_rfl)
  rw [← hs, q, ← f16_p11e0 yy.1.1.1 yy.1.1.2 yy.1.2.1 yy.1.2.2.1 K]
  exact h
set_option maxHeartbeats 4000000 in
theorem f16_p7_ok : TailOk f16_C (nthC (tails (bodyOf Try.f16)) 1) := by
  refine TailOk.of f16_p7L (by kernel_rfl) fun σ K h => ?_
  have hk : joinKey (nthC (tails (bodyOf Try.f16)) 1) = 7 := by kernel_rfl
  rw [hk] at h ⊢
  generalize hs : normK f16_C 7 σ = s at h
  obtain ⟨tm, hp⟩ := s
  unfold f16_p7L at h
  dsimp only at h
  obtain ⟨xx, yy, rfl, rfl, h⟩ := getS_elim h
  have q : normK f16_C 7 σ = (⟨mkS 83 [(3, .w (.one (.ptr 0 0 0)))], [.box [.p (.sl 3 yy.1.1.1 yy.1.1.2), .p (pI yy.1.2.1), .p (pI yy.1.2.2.1)]]⟩ : St) := hs.trans (by kernel_rfl)
  rw [← hs, q, ← f16_p7e0 yy.1.1.1 yy.1.1.2 yy.1.2.1 yy.1.2.2.1 K]
  exact h
noncomputable def f16_G0 : List TV → List Entry → (TV → List Entry → Prop) → Prop := fun tm hp K => getS [.v (.pagg [.int .i64, .int .i64]), .v (.pagg [.sl 3, .int .i64, .int .i64])] [] tm hp fun (xx : ((Int × (Int × Unit)) × (((List (List PC) × Bool) × (Int × (Int × Unit))) × Unit))) (yy : Unit) => f16 xx.1.1 xx.1.2.1 xx.2.1.1.1 xx.2.1.1.2 xx.2.1.2.1 xx.2.1.2.2.1 (fun n0_3 => K (I n0_3) [])
set_option maxRecDepth 100000 in
theorem f16_eq (n_25 : Int) (n_26 : Int) (es_27 : List (List PC)) (full_28 : Bool) (n_29 : Int) (n_30 : Int) (K : TV → List Entry → Prop) : (f16_d n_25 n_26 es_27 full_28 n_29 n_30 (fun n0_3 => K (I n0_3) [])) = funcT f16_C Try.f16 [.w (.pagg [pI n_25, pI n_26]), .w (.pagg [.sl 3 es_27 full_28, pI n_29, pI n_30])] [] K := by kernel_rfl
set_option maxHeartbeats 4000000 in
theorem f16_ok0 : FnOk Try.prog glob 16 f16_G0 := by
  refine FnOk.of_text (C := f16_C) tab_ok.ok (Known.none) follows_ok (fn := Try.f16) (by kernel_rfl) (by kernel_rfl) (by kernel_rfl) (fun c hc => ?_) fun tm hp K h => ?_
  · have e : c = bodyOf Try.f16 := Option.some.inj (hc.symm.trans (by kernel_rfl))
    subst e
    exact ⟨LoopsOk.of [nthC (bodies (bodyOf Try.f16)) 0] (by kernel_rfl) ⟨f16_p12_ok, trivial⟩, TailsOk.of (tab := f16_tab) rfl [nthC (tails (bodyOf Try.f16)) 1, nthC (tails (bodyOf Try.f16)) 4] (by kernel_rfl) ⟨f16_p7_ok, f16_p11_ok, trivial⟩⟩
  · unfold f16_G0 at h
    obtain ⟨xx, yy, rfl, rfl, h⟩ := getS_elim h
    have e := (f16_eq xx.1.1 xx.1.2.1 xx.2.1.1.1 xx.2.1.1.2 xx.2.1.2.1 xx.2.1.2.2.1 K).trans (show _ = funcT f16_C Try.f16 (mkR _ xx) (mkE _ yy) K by kernel_rfl)
    rw [← e]
    exact h.run
noncomputable abbrev f16_G := f16_G0
theorem f16_G_ok : FnOk Try.prog glob 16 f16_G := f16_ok0
end Go.Eng.N
set_option linter.unusedVariables false
set_option maxRecDepth 100000
open Go Go.Eng Go.Proofs
namespace Go.Eng.N
/-! ### f43: plenum/plenumref55.instant -/
noncomputable def f43_d (es1 : List (List PC)) (full2 : Bool) (n3 : Int) (n4 : Int) (n5 : Int) (k0 : Bool → Prop) : Prop := bB (decide (n5 ≥ 0)) (bB (decide (n5 ≤ 6311433599)) (bB (decide (n5 ≥ n4)) (k0 (decide (n5 ≥ n3))) (k0 false)) (k0 false)) (k0 false)
structure f43 (es1 : List (List PC)) (full2 : Bool) (n3 : Int) (n4 : Int) (n5 : Int) (k0 : Bool → Prop) : Prop where
  run : f43_d es1 full2 n3 n4 n5 k0
noncomputable def f43_tab : List (Nat × Told) := []
noncomputable def f43_call : FuncId → List TV → List Entry → (TV → List Entry → Prop) → Prop := noCalls
noncomputable def f43_C : Ctx := { ty := tyOf tab, glob := glob, byRef := byRef, keep := fun k i => lookN [] (lookN [] ([] : List (Nat × List (Nat × List Nat))) k) i, late := lookN [] ([] : List (Nat × List Nat)), nref := lookN [] ([] : List (Nat × List Nat)), nbox := lookN [] ([] : List (Nat × List (Nat × Nat))), take := [], rnil := false, m := 0, fz := true, loops := lookL f43_tab, call := f43_call }
noncomputable def f43_G0 : List TV → List Entry → (TV → List Entry → Prop) → Prop := fun tm hp K => getS [.v (.pagg [.sl 3, .int .i64, .int .i64]), .v (.one (.int .i64))] [] tm hp fun (xx : (((List (List PC) × Bool) × (Int × (Int × Unit))) × (Int × Unit))) (yy : Unit) => f43 xx.1.1.1 xx.1.1.2 xx.1.2.1 xx.1.2.2.1 xx.2.1 (fun b0_0 => K (B b0_0) [])
set_option maxRecDepth 100000 in
theorem f43_eq (es_1 : List (List PC)) (full_2 : Bool) (n_3 : Int) (n_4 : Int) (n_5 : Int) (K : TV → List Entry → Prop) : (f43_d es_1 full_2 n_3 n_4 n_5 (fun b0_0 => K (B b0_0) [])) = funcT f43_C Try.f43 [.w (.pagg [.sl 3 es_1 full_2, pI n_3, pI n_4]), I n_5] [] K := by kernel_rfl
set_option maxHeartbeats 4000000 in
theorem f43_ok0 : FnOk Try.prog glob 43 f43_G0 := by
  refine FnOk.of_text (C := f43_C) tab_ok.ok (Known.none) follows_ok (fn := Try.f43) (by kernel_rfl) (by kernel_rfl) (by kernel_rfl) (fun c hc => ?_) fun tm hp K h => ?_
  · have e : c = bodyOf Try.f43 := Option.some.inj (hc.symm.trans (by kernel_rfl))
    subst e
    exact ⟨LoopsOk.of [] (by kernel_rfl) trivial, TailsOk.of (tab := f43_tab) rfl [] (by kernel_rfl) trivial⟩
  · unfold f43_G0 at h
    obtain ⟨xx, yy, rfl, rfl, h⟩ := getS_elim h
    have e := (f43_eq xx.1.1.1 xx.1.1.2 xx.1.2.1 xx.1.2.2.1 xx.2.1 K).trans (show _ = funcT f43_C Try.f43 (mkR _ xx) (mkE _ yy) K by kernel_rfl)
    rw [← e]
    exact h.run
noncomputable abbrev f43_G := f43_G0
theorem f43_G_ok : FnOk Try.prog glob 43 f43_G := f43_ok0
end Go.Eng.N
set_option linter.unusedVariables false
set_option maxRecDepth 100000
open Go Go.Eng Go.Proofs
namespace Go.Eng.N
/-! ### f29: plenum/plenumref55.Step -/
noncomputable def f29_d (n1 : Int) (n2 : Int) (es3 : List (List PC)) (full4 : Bool) (n5 : Int) (n6 : Int) (n7 : Int) (es8 : List (List PC)) (full9 : Bool) (n10 : Int) (k0 : (List (List PC)) → Bool → Int → Int → Int → Prop) : Prop := f16 n1 n2 es3 full4 n5 n6 (fun n11 => bB (n11 != 0) (k0 [] true 0 0 n11) (bB (((es8.length : Nat) : Int) != ((es3.length : Nat) : Int)) (k0 [] true 0 0 1) (f43 es3 full4 n5 n6 n10 (fun b12 => bB (!b12) (k0 [] true 0 0 6) (f44 n1 n2 es3 full4 n5 n6 n7 es8 full9 n10 (fun es13 full14 n15 n16 => k0 es13 full14 n15 n16 0))))))
structure f29 (n1 : Int) (n2 : Int) (es3 : List (List PC)) (full4 : Bool) (n5 : Int) (n6 : Int) (n7 : Int) (es8 : List (List PC)) (full9 : Bool) (n10 : Int) (k0 : (List (List PC)) → Bool → Int → Int → Int → Prop) : Prop where
  run : f29_d n1 n2 es3 full4 n5 n6 n7 es8 full9 n10 k0
noncomputable def f29_tab : List (Nat × Told) := []
noncomputable def f29_call : FuncId → List TV → List Entry → (TV → List Entry → Prop) → Prop := addCall 44 f44_G (addCall 43 f43_G (addCall 16 f16_G (noCalls)))
noncomputable def f29_C : Ctx := { ty := tyOf tab, glob := glob, byRef := byRef, keep := fun k i => lookN [] (lookN [] ([] : List (Nat × List (Nat × List Nat))) k) i, late := lookN [] ([] : List (Nat × List Nat)), nref := lookN [] ([] : List (Nat × List Nat)), nbox := lookN [] ([] : List (Nat × List (Nat × Nat))), take := [], rnil := false, m := 0, fz := true, loops := lookL f29_tab, call := f29_call }
noncomputable def f29_G0 : List TV → List Entry → (TV → List Entry → Prop) → Prop := fun tm hp K => getS [.v (.pagg [.int .i64, .int .i64]), .v (.pagg [.sl 3, .int .i64, .int .i64]), .v (.one (.int .i64)), .v (.one (.sl 1)), .v (.one (.int .i64))] [] tm hp fun (xx : ((Int × (Int × Unit)) × (((List (List PC) × Bool) × (Int × (Int × Unit))) × (Int × ((List (List PC) × Bool) × (Int × Unit)))))) (yy : Unit) => f29 xx.1.1 xx.1.2.1 xx.2.1.1.1 xx.2.1.1.2 xx.2.1.2.1 xx.2.1.2.2.1 xx.2.2.1 xx.2.2.2.1.1 xx.2.2.2.1.2 xx.2.2.2.2.1 (fun es0_0 full0_1 n0_2 n0_3 n0_4 => K (.tup [.pagg [.sl 3 es0_0 full0_1, pI n0_2, pI n0_3], .one (.p (pI n0_4))]) [])
set_option maxRecDepth 100000 in
theorem f29_eq (n_5 : Int) (n_6 : Int) (es_7 : List (List PC)) (full_8 : Bool) (n_9 : Int) (n_10 : Int) (n_11 : Int) (es_12 : List (List PC)) (full_13 : Bool) (n_14 : Int) (K : TV → List Entry → Prop) : (f29_d n_5 n_6 es_7 full_8 n_9 n_10 n_11 es_12 full_13 n_14 (fun es0_0 full0_1 n0_2 n0_3 n0_4 => K (.tup [.pagg [.sl 3 es0_0 full0_1, pI n0_2, pI n0_3], .one (.p (pI n0_4))]) [])) = funcT f29_C Try.f29 [.w (.pagg [pI n_5, pI n_6]), .w (.pagg [.sl 3 es_7 full_8, pI n_9, pI n_10]), I n_11, .w (.one (.p (.sl 1 es_12 full_13))), I n_14] [] K := by kernel_rfl
set_option maxHeartbeats 4000000 in
theorem f29_ok0 : FnOk Try.prog glob 29 f29_G0 := by
  refine FnOk.of_text (C := f29_C) tab_ok.ok (Known.add f44_G_ok (Known.add f43_G_ok (Known.add f16_G_ok (Known.none)))) follows_ok (fn := Try.f29) (by kernel_rfl) (by kernel_rfl) (by kernel_rfl) (fun c hc => ?_) fun tm hp K h => ?_
  · have e : c = bodyOf Try.f29 := Option.some.inj (hc.symm.trans (by kernel_rfl))
    subst e
    exact ⟨LoopsOk.of [] (by kernel_rfl) trivial, TailsOk.of (tab := f29_tab) rfl [] (by kernel_rfl) trivial⟩
  · unfold f29_G0 at h
    obtain ⟨xx, yy, rfl, rfl, h⟩ := getS_elim h
    have e := (f29_eq xx.1.1 xx.1.2.1 xx.2.1.1.1 xx.2.1.1.2 xx.2.1.2.1 xx.2.1.2.2.1 xx.2.2.1 xx.2.2.2.1.1 xx.2.2.2.1.2 xx.2.2.2.2.1 K).trans (show _ = funcT f29_C Try.f29 (mkR _ xx) (mkE _ yy) K by kernel_rfl)
    rw [← e]
    exact h.run
noncomputable abbrev f29_G := f29_G0
theorem f29_G_ok : FnOk Try.prog glob 29 f29_G := f29_ok0
end Go.Eng.N
set_option linter.unusedVariables false
set_option maxRecDepth 100000
open Go Go.Eng Go.Proofs
namespace Go.Eng.N
/-! ### f17: plenum/plenumref55.Same -/
noncomputable def f17_p8b0 (n17 : Int) (es18 : List (List PC)) (full19 : Bool) (n20 : Int) (n21 : Int) (es22 : List (List PC)) (full23 : Bool) (n24 : Int) (n25 : Int) (N0 : Int → Prop) (k0 : Bool → Prop) (k1 : Unit → Prop) : Prop := bB (decide (n17 < ((es18.length : Nat) : Int))) ((0 ≤ n17 ∧ n17 < ((es18.length : Nat) : Int)) ∧ cI .i64 (ext (List.getD es18 (Int.toNat n17) []) 0 3) fun n27 r26 => cB r26 fun b29 r28 => cB r28 fun b31 r30 => nilC r30 <| (0 ≤ n17 ∧ n17 < ((es22.length : Nat) : Int)) ∧ cI .i64 (ext (List.getD es22 (Int.toNat n17) []) 0 3) fun n33 r32 => cB r32 fun b35 r34 => cB r34 fun b37 r36 => nilC r36 <| bB (!((n27 == n33) && ((b29 == b35) && ((b31 == b37) && true)))) (k0 false) (N0 (w64 (n17 + 1)))) (k1 ())
noncomputable def f17_p8 (es18 : List (List PC)) (full19 : Bool) (n20 : Int) (n21 : Int) (es22 : List (List PC)) (full23 : Bool) (n24 : Int) (n25 : Int) (k0 : Bool → Prop) (k1 : Unit → Prop) : Int → Prop := LoopP fun x N => f17_p8b0 x es18 full19 n20 n21 es22 full23 n24 n25 (fun n17 => N n17) k0 k1
noncomputable def f17_p7 (es9 : List (List PC)) (full10 : Bool) (n11 : Int) (n12 : Int) (es13 : List (List PC)) (full14 : Bool) (n15 : Int) (n16 : Int) (k0 : Bool → Prop) : Prop := f17_p8 es9 full10 n11 n12 es13 full14 n15 n16 (fun b38 => k0 b38) (fun (_ : Unit) => k0 true) 0
noncomputable def f17_d (es1 : List (List PC)) (full2 : Bool) (n3 : Int) (n4 : Int) (es5 : List (List PC)) (full6 : Bool) (n7 : Int) (n8 : Int) (k0 : Bool → Prop) : Prop := bB (n3 != n7) (k0 false) (bB (n4 != n8) (k0 false) (bB (((es1.length : Nat) : Int) != ((es5.length : Nat) : Int)) (k0 false) (f17_p7 es1 full2 n3 n4 es5 full6 n7 n8 (fun b39 => k0 b39))))
structure f17 (es1 : List (List PC)) (full2 : Bool) (n3 : Int) (n4 : Int) (es5 : List (List PC)) (full6 : Bool) (n7 : Int) (n8 : Int) (k0 : Bool → Prop) : Prop where
  run : f17_d es1 full2 n3 n4 es5 full6 n7 n8 k0
noncomputable def f17_p8L : Told := fun s K => match s with
  | ⟨tm, hp⟩ => getS [.skip 2, .v (.one (.ptr 0 0 0)), .v (.one (.ptr 1 0 0)), .skip 1, .v (.one (.int .i64)), .skip 39] [.box [.sl 3, .int .i64, .int .i64], .box [.sl 3, .int .i64, .int .i64]] tm hp fun (xx : (Unit × (Unit × (Unit × (Unit × (Int × (Unit × Unit))))))) (yy : (((List (List PC) × Bool) × (Int × (Int × Unit))) × (((List (List PC) × Bool) × (Int × (Int × Unit))) × Unit))) => f17_p8 yy.1.1.1 yy.1.1.2 yy.1.2.1 yy.1.2.2.1 yy.2.1.1.1 yy.2.1.1.2 yy.2.1.2.1 yy.2.1.2.2.1 (fun b0_0 => K .ret ⟨mkS 45 [(4, B b0_0)], []⟩) (fun (_ : Unit) => K (.exit 0) ⟨mkS 45 [], []⟩) xx.2.2.2.2.1
noncomputable def f17_p7L : Told := fun s K => match s with
  | ⟨tm, hp⟩ => getS [.skip 2, .v (.one (.ptr 0 0 0)), .v (.one (.ptr 1 0 0)), .skip 41] [.box [.sl 3, .int .i64, .int .i64], .box [.sl 3, .int .i64, .int .i64]] tm hp fun (xx : (Unit × (Unit × (Unit × (Unit × Unit))))) (yy : (((List (List PC) × Bool) × (Int × (Int × Unit))) × (((List (List PC) × Bool) × (Int × (Int × Unit))) × Unit))) => f17_p7 yy.1.1.1 yy.1.1.2 yy.1.2.1 yy.1.2.2.1 yy.2.1.1.1 yy.2.1.1.2 yy.2.1.2.1 yy.2.1.2.2.1 (fun b0_1 => K .ret ⟨mkS 45 [(4, B b0_1)], []⟩)
noncomputable def f17_tab : List (Nat × Told) := [(8, f17_p8L), (7, f17_p7L)]
noncomputable def f17_call : FuncId → List TV → List Entry → (TV → List Entry → Prop) → Prop := noCalls
noncomputable def f17_C : Ctx := { ty := tyOf tab, glob := glob, byRef := byRef, keep := fun k i => lookN [] (lookN [] ([(8, [(0, [2, 3, 5]), (2, [4]), (3, [])]), (7, [(0, [2, 3]), (1, [4]), (2, [4])])] : List (Nat × List (Nat × List Nat))) k) i, late := lookN [] ([] : List (Nat × List Nat)), nref := lookN [] ([] : List (Nat × List Nat)), nbox := lookN [] ([] : List (Nat × List (Nat × Nat))), take := [], rnil := false, m := 0, fz := true, loops := lookL f17_tab, call := f17_call }
noncomputable def f17_p8_mk (es18 : List (List PC)) (full19 : Bool) (n20 : Int) (n21 : Int) (es22 : List (List PC)) (full23 : Bool) (n24 : Int) (n25 : Int) (x : Int) : St := ⟨mkS 45 [(2, .w (.one (.ptr 0 0 0))), (3, .w (.one (.ptr 1 0 0))), (5, I x)], [.box [.p (.sl 3 es18 full19), .p (pI n20), .p (pI n21)], .box [.p (.sl 3 es22 full23), .p (pI n24), .p (pI n25)]]⟩
set_option maxRecDepth 100000 in
theorem f17_p8e0 (n_12 : Int) (es_13 : List (List PC)) (full_14 : Bool) (n_15 : Int) (n_16 : Int) (es_17 : List (List PC)) (full_18 : Bool) (n_19 : Int) (n_20 : Int) (N : St → Prop) (K : TExit → St → Prop) : (f17_p8b0 n_12 es_13 full_14 n_15 n_16 es_17 full_18 n_19 n_20 (fun z0 => N (f17_p8_mk es_13 full_14 n_15 n_16 es_17 full_18 n_19 n_20 z0)) (fun b0_21 => K .ret ⟨mkS 45 [(4, B b0_21)], []⟩) (fun (_ : Unit) => K (.exit 0) ⟨mkS 45 [], []⟩)) = execT f17_C (nthC (bodies (bodyOf Try.f17)) 0) (f17_p8_mk es_13 full_14 n_15 n_16 es_17 full_18 n_19 n_20 n_12) (loopK N (normK f17_C 8) fun e s => K e (normOut f17_C 8 e s)) := by kernel_rfl
set_option maxRecDepth 100000 in
theorem f17_p7e0 (es_22 : List (List PC)) (full_23 : Bool) (n_24 : Int) (n_25 : Int) (es_26 : List (List PC)) (full_27 : Bool) (n_28 : Int) (n_29 : Int) (K : TExit → St → Prop) : (f17_p7 es_22 full_23 n_24 n_25 es_26 full_27 n_28 n_29 (fun b0_30 => K .ret ⟨mkS 45 [(4, B b0_30)], []⟩)) = execT f17_C (nthC (tails (bodyOf Try.f17)) 1) ⟨mkS 45 [(2, .w (.one (.ptr 0 0 0))), (3, .w (.one (.ptr 1 0 0)))], [.box [.p (.sl 3 es_22 full_23), .p (pI n_24), .p (pI n_25)], .box [.p (.sl 3 es_26 full_27), .p (pI n_28), .p (pI n_29)]]⟩ (fun e s => K e (normOut f17_C 7 e s)) := by kernel_rfl
set_option maxHeartbeats 4000000 in
theorem f17_p8_ok : LoopOk f17_C (nthC (bodies (bodyOf Try.f17)) 0) := by
  refine LoopOk.of f17_p8L (by kernel_rfl) fun σ K h => ?_
  have hk : loopKey (nthC (bodies (bodyOf Try.f17)) 0) = 8 := by kernel_rfl
  rw [hk] at h ⊢
  generalize hs : normK f17_C 8 σ = s at h
  obtain ⟨tm, hp⟩ := s
  unfold f17_p8L at h
  dsimp only at h
  obtain ⟨xx, yy, rfl, rfl, h⟩ := getS_elim h
  refine iter_of (f17_p8_mk yy.1.1.1 yy.1.1.2 yy.1.2.1 yy.1.2.2.1 yy.2.1.1.1 yy.2.1.1.2 yy.2.1.2.1 yy.2.1.2.2.1) (fun x N h => ?_) rounds _ σ (hs.trans (by kernel_rfl)) (LoopP.run h)
  rw [← f17_p8e0 x yy.1.1.1 yy.1.1.2 yy.1.2.1 yy.1.2.2.1 yy.2.1.1.1 yy.2.1.1.2 yy.2.1.2.1 yy.2.1.2.2.1 N K]
  exact h
set_option maxHeartbeats 4000000 in
theorem f17_p7_ok : TailOk f17_C (nthC (tails (bodyOf Try.f17)) 1) := by
  refine TailOk.of f17_p7L (by kernel_rfl) fun σ K h => ?_
  have hk : joinKey (nthC (tails (bodyOf Try.f17)) 1) = 7 := by kernel_rfl
  rw [hk] at h ⊢
  generalize hs : normK f17_C 7 σ = s at h
  obtain ⟨tm, hp⟩ := s
  unfold f17_p7L at h
  dsimp only at h
  obtain ⟨xx, yy, rfl, rfl, h⟩ := getS_elim h
  have q : normK f17_C 7 σ = (⟨mkS 45 [(2, .w (.one (.ptr 0 0 0))), (3, .w (.one (.ptr 1 0 0)))], [.box [.p (.sl 3 yy.1.1.1 yy.1.1.2), .p (pI yy.1.2.1), .p (pI yy.1.2.2.1)], .box [.p (.sl 3 yy.2.1.1.1 yy.2.1.1.2), .p (pI yy.2.1.2.1), .p (pI yy.2.1.2.2.1)]]⟩ : St) := hs.trans (by kernel_rfl)
  rw [← hs, q, ← f17_p7e0 yy.1.1.1 yy.1.1.2 yy.1.2.1 yy.1.2.2.1 yy.2.1.1.1 yy.2.1.1.2 yy.2.1.2.1 yy.2.1.2.2.1 K]
  exact h
noncomputable def f17_G0 : List TV → List Entry → (TV → List Entry → Prop) → Prop := fun tm hp K => getS [.v (.pagg [.sl 3, .int .i64, .int .i64]), .v (.pagg [.sl 3, .int .i64, .int .i64])] [] tm hp fun (xx : (((List (List PC) × Bool) × (Int × (Int × Unit))) × (((List (List PC) × Bool) × (Int × (Int × Unit))) × Unit))) (yy : Unit) => f17 xx.1.1.1 xx.1.1.2 xx.1.2.1 xx.1.2.2.1 xx.2.1.1.1 xx.2.1.1.2 xx.2.1.2.1 xx.2.1.2.2.1 (fun b0_2 => K (B b0_2) [])
set_option maxRecDepth 100000 in
theorem f17_eq (es_31 : List (List PC)) (full_32 : Bool) (n_33 : Int) (n_34 : Int) (es_35 : List (List PC)) (full_36 : Bool) (n_37 : Int) (n_38 : Int) (K : TV → List Entry → Prop) : (f17_d es_31 full_32 n_33 n_34 es_35 full_36 n_37 n_38 (fun b0_2 => K (B b0_2) [])) = funcT f17_C Try.f17 [.w (.pagg [.sl 3 es_31 full_32, pI n_33, pI n_34]), .w (.pagg [.sl 3 es_35 full_36, pI n_37, pI n_38])] [] K := by kernel_rfl
set_option maxHeartbeats 4000000 in
theorem f17_ok0 : FnOk Try.prog glob 17 f17_G0 := by
  refine FnOk.of_text (C := f17_C) tab_ok.ok (Known.none) follows_ok (fn := Try.f17) (by kernel_rfl) (by kernel_rfl) (by kernel_rfl) (fun c hc => ?_) fun tm hp K h => ?_
  · have e : c = bodyOf Try.f17 := Option.some.inj (hc.symm.trans (by kernel_rfl))
    subst e
    exact ⟨LoopsOk.of [nthC (bodies (bodyOf Try.f17)) 0] (by kernel_rfl) ⟨f17_p8_ok, trivial⟩, TailsOk.of (tab := f17_tab) rfl [nthC (tails (bodyOf Try.f17)) 1] (by kernel_rfl) ⟨f17_p7_ok, trivial⟩⟩
  · unfold f17_G0 at h
    obtain ⟨xx, yy, rfl, rfl, h⟩ := getS_elim h
    have e := (f17_eq xx.1.1.1 xx.1.1.2 xx.1.2.1 xx.1.2.2.1 xx.2.1.1.1 xx.2.1.1.2 xx.2.1.2.1 xx.2.1.2.2.1 K).trans (show _ = funcT f17_C Try.f17 (mkR _ xx) (mkE _ yy) K by kernel_rfl)
    rw [← e]
    exact h.run
noncomputable abbrev f17_G := f17_G0
theorem f17_G_ok : FnOk Try.prog glob 17 f17_G := f17_ok0
end Go.Eng.N
set_option linter.unusedVariables false
set_option maxRecDepth 100000
open Go Go.Eng Go.Proofs
namespace Go.Eng.N
/-! ### f15: plenum/plenumlaw55.rule -/
noncomputable def f15_d (n1 : Int) (n2 : Int) (k0 : Int → Int → Prop) : Prop := k0 n1 n2
structure f15 (n1 : Int) (n2 : Int) (k0 : Int → Int → Prop) : Prop where
  run : f15_d n1 n2 k0
noncomputable def f15_tab : List (Nat × Told) := []
noncomputable def f15_call : FuncId → List TV → List Entry → (TV → List Entry → Prop) → Prop := noCalls
noncomputable def f15_C : Ctx := { ty := tyOf tab, glob := glob, byRef := byRef, keep := fun k i => lookN [] (lookN [] ([] : List (Nat × List (Nat × List Nat))) k) i, late := lookN [] ([] : List (Nat × List Nat)), nref := lookN [] ([] : List (Nat × List Nat)), nbox := lookN [] ([] : List (Nat × List (Nat × Nat))), take := [], rnil := false, m := 0, fz := true, loops := lookL f15_tab, call := f15_call }
noncomputable def f15_G0 : List TV → List Entry → (TV → List Entry → Prop) → Prop := fun tm hp K => getS [.v (.pagg [.int .i64, .int .i64])] [] tm hp fun (xx : ((Int × (Int × Unit)) × Unit)) (yy : Unit) => f15 xx.1.1 xx.1.2.1 (fun n0_0 n0_1 => K (.w (.pagg [pI n0_0, pI n0_1])) [])
set_option maxRecDepth 100000 in
theorem f15_eq (n_2 : Int) (n_3 : Int) (K : TV → List Entry → Prop) : (f15_d n_2 n_3 (fun n0_0 n0_1 => K (.w (.pagg [pI n0_0, pI n0_1])) [])) = funcT f15_C Try.f15 [.w (.pagg [pI n_2, pI n_3])] [] K := by kernel_rfl
set_option maxHeartbeats 4000000 in
theorem f15_ok0 : FnOk Try.prog glob 15 f15_G0 := by
  refine FnOk.of_text (C := f15_C) tab_ok.ok (Known.none) follows_ok (fn := Try.f15) (by kernel_rfl) (by kernel_rfl) (by kernel_rfl) (fun c hc => ?_) fun tm hp K h => ?_
  · have e : c = bodyOf Try.f15 := Option.some.inj (hc.symm.trans (by kernel_rfl))
    subst e
    exact ⟨LoopsOk.of [] (by kernel_rfl) trivial, TailsOk.of (tab := f15_tab) rfl [] (by kernel_rfl) trivial⟩
  · unfold f15_G0 at h
    obtain ⟨xx, yy, rfl, rfl, h⟩ := getS_elim h
    have e := (f15_eq xx.1.1 xx.1.2.1 K).trans (show _ = funcT f15_C Try.f15 (mkR _ xx) (mkE _ yy) K by kernel_rfl)
    rw [← e]
    exact h.run
noncomputable abbrev f15_G := f15_G0
theorem f15_G_ok : FnOk Try.prog glob 15 f15_G := f15_ok0
end Go.Eng.N
set_option linter.unusedVariables false
set_option maxRecDepth 100000
open Go Go.Eng Go.Proofs
namespace Go.Eng.N
/-! ### f9: plenum/plenumlaw55.ours -/
noncomputable def f9_p6b0 (n5 : Int) (es6 : List (List PC)) (full7 : Bool) (n8 : Int) (n9 : Int) (n10 : Int) (n11 : Int) (i12 : Nat) (n13 : Nat) (n14 : Int) (n15 : Int) (es16 : List (List PC)) (N0 : Int → Nat → Nat → (List (List PC)) → Prop) (k0 : Nat → Nat → (List (List PC)) → Prop) : Prop := bB (decide (n5 < ((es6.length : Nat) : Int))) ((0 ≤ n5 ∧ n5 < ((es6.length : Nat) : Int)) ∧ oI .i64 (ext (List.getD es6 (Int.toNat n5) []) 0 1) fun n17 => (0 ≤ n5 ∧ n5 < ((es6.length : Nat) : Int)) ∧ oB (ext (List.getD es6 (Int.toNat n5) []) 1 1) fun b18 => (0 ≤ n5 ∧ n5 < ((es6.length : Nat) : Int)) ∧ oB (ext (List.getD es6 (Int.toNat n5) []) 2 1) fun b19 => (i12 + n13) ≤ es16.length ∧ (n13 + 1) * 16 ≤ 2 ^ 46 ∧ (n13 + 1) ≤ 2 ^ 46 ∧ N0 (w64 (n5 + 1)) 0 (n13 + 1) ((List.take n13 (List.drop i12 es16)) ++ [[pI n17, pB b18, pB b19]])) (k0 i12 n13 es16)
noncomputable def f9_p6 (es6 : List (List PC)) (full7 : Bool) (n8 : Int) (n9 : Int) (n10 : Int) (n11 : Int) (n14 : Int) (n15 : Int) (k0 : Nat → Nat → (List (List PC)) → Prop) : Int × Nat × Nat × (List (List PC)) → Prop := LoopP fun x N => f9_p6b0 x.1 es6 full7 n8 n9 n10 n11 x.2.1 x.2.2.1 n14 n15 x.2.2.2 (fun n5 i12 n13 es16 => N (n5, i12, n13, es16)) k0
noncomputable def f9_d (es1 : List (List PC)) (full2 : Bool) (n3 : Int) (n4 : Int) (k0 : (List (List PC)) → Bool → Int → Int → Prop) : Prop := f9_p6 es1 full2 n3 n4 0 0 n3 n4 (fun i20 n21 es22 => k0 (List.take n21 (List.drop i20 es22)) false n3 n4) (0, 0, 0, [])
structure f9 (es1 : List (List PC)) (full2 : Bool) (n3 : Int) (n4 : Int) (k0 : (List (List PC)) → Bool → Int → Int → Prop) : Prop where
  run : f9_d es1 full2 n3 n4 k0
noncomputable def f9_p6L : Told := fun s K => match s with
  | ⟨tm, hp⟩ => getS [.skip 1, .v (.one (.ptr 0 0 0)), .v (.one (.ptr 1 0 0)), .v (.one (.ptr 2 0 0)), .v (.one (.int .i64)), .skip 37] [.box [.sl 3, .int .i64, .int .i64], .box [.nil 3, .int .i64, .int .i64], .box [.ref 3, .int .i64, .int .i64], .vec 3 true] tm hp fun (xx : (Unit × (Unit × (Unit × (Unit × (Int × (Unit × Unit))))))) (yy : (((List (List PC) × Bool) × (Int × (Int × Unit))) × ((Unit × (Int × (Int × Unit))) × (((Nat × Nat) × (Int × (Int × Unit))) × ((List (List PC)) × Unit))))) => f9_p6 yy.1.1.1 yy.1.1.2 yy.1.2.1 yy.1.2.2.1 yy.2.1.2.1 yy.2.1.2.2.1 yy.2.2.1.2.1 yy.2.2.1.2.2.1 (fun i0_0 n0_1 es0_2 => K (.exit 0) ⟨mkS 42 [(2, .w (.one (.ptr 0 0 0))), (3, .w (.one (.ptr 1 0 0)))], [.box [.p (.sl 3 [] true), .p (pI yy.2.1.2.1), .p (pI yy.2.1.2.2.1)], .box [.ref 2 i0_0 n0_1, .p (pI yy.2.2.1.2.1), .p (pI yy.2.2.1.2.2.1)], .vec 3 es0_2 true]⟩) (xx.2.2.2.2.1, yy.2.2.1.1.1, yy.2.2.1.1.2, yy.2.2.2.1)
noncomputable def f9_tab : List (Nat × Told) := [(6, f9_p6L)]
noncomputable def f9_call : FuncId → List TV → List Entry → (TV → List Entry → Prop) → Prop := noCalls
noncomputable def f9_C : Ctx := { ty := tyOf tab, glob := glob, byRef := byRef, keep := fun k i => lookN [] (lookN [] ([(6, [(0, [1, 2, 3, 4]), (2, [2]), (3, [2, 3])])] : List (Nat × List (Nat × List Nat))) k) i, late := lookN [] ([] : List (Nat × List Nat)), nref := lookN [] ([] : List (Nat × List Nat)), nbox := lookN [] ([(6, [(2, 0)])] : List (Nat × List (Nat × Nat))), take := [], rnil := false, m := 0, fz := true, loops := lookL f9_tab, call := f9_call }
noncomputable def f9_p6_mk (es6 : List (List PC)) (full7 : Bool) (n8 : Int) (n9 : Int) (n10 : Int) (n11 : Int) (n14 : Int) (n15 : Int) (x : Int × Nat × Nat × (List (List PC))) : St := ⟨mkS 42 [(1, .w (.one (.ptr 0 0 0))), (2, .w (.one (.ptr 1 0 0))), (3, .w (.one (.ptr 2 0 0))), (4, I x.1)], [.box [.p (.sl 3 es6 full7), .p (pI n8), .p (pI n9)], .box [.p (.sl 3 [] true), .p (pI n10), .p (pI n11)], .box [.ref 3 x.2.1 x.2.2.1, .p (pI n14), .p (pI n15)], .vec 3 x.2.2.2 true]⟩
set_option maxRecDepth 100000 in
theorem f9_p6e0 (n_19 : Int) (es_20 : List (List PC)) (full_21 : Bool) (n_22 : Int) (n_23 : Int) (n_24 : Int) (n_25 : Int) (i_26 : Nat) (n_27 : Nat) (n_28 : Int) (n_29 : Int) (es_30 : List (List PC)) (N : St → Prop) (K : TExit → St → Prop) : (f9_p6b0 n_19 es_20 full_21 n_22 n_23 n_24 n_25 i_26 n_27 n_28 n_29 es_30 (fun z0 z7 z8 z11 => N (f9_p6_mk es_20 full_21 n_22 n_23 n_24 n_25 n_28 n_29 (z0, z7, z8, z11))) (fun i0_31 n0_32 es0_33 => K (.exit 0) ⟨mkS 42 [(2, .w (.one (.ptr 0 0 0))), (3, .w (.one (.ptr 1 0 0)))], [.box [.p (.sl 3 [] true), .p (pI n_24), .p (pI n_25)], .box [.ref 2 i0_31 n0_32, .p (pI n_28), .p (pI n_29)], .vec 3 es0_33 true]⟩)) = execT f9_C (nthC (bodies (bodyOf Try.f9)) 0) (f9_p6_mk es_20 full_21 n_22 n_23 n_24 n_25 n_28 n_29 (n_19, i_26, n_27, es_30)) (loopK N (normK f9_C 6) fun e s => K e (normOut f9_C 6 e s)) := by kernel_rfl
set_option maxHeartbeats 4000000 in
theorem f9_p6_ok : LoopOk f9_C (nthC (bodies (bodyOf Try.f9)) 0) := by
  refine LoopOk.of f9_p6L (by kernel_rfl) fun σ K h => ?_
  have hk : loopKey (nthC (bodies (bodyOf Try.f9)) 0) = 6 := by kernel_rfl
  rw [hk] at h ⊢
  generalize hs : normK f9_C 6 σ = s at h
  obtain ⟨tm, hp⟩ := s
  unfold f9_p6L at h
  dsimp only at h
  obtain ⟨xx, yy, rfl, rfl, h⟩ := getS_elim h
  refine iter_of (f9_p6_mk yy.1.1.1 yy.1.1.2 yy.1.2.1 yy.1.2.2.1 yy.2.1.2.1 yy.2.1.2.2.1 yy.2.2.1.2.1 yy.2.2.1.2.2.1) (fun x N h => ?_) rounds _ σ (hs.trans (by kernel_rfl)) (LoopP.run h)
  obtain ⟨y0, y1, y2, y3⟩ := x
  rw [← f9_p6e0 y0 yy.1.1.1 yy.1.1.2 yy.1.2.1 yy.1.2.2.1 yy.2.1.2.1 yy.2.1.2.2.1 y1 y2 yy.2.2.1.2.1 yy.2.2.1.2.2.1 y3 N K]
  exact h
noncomputable def f9_G0 : List TV → List Entry → (TV → List Entry → Prop) → Prop := fun tm hp K => getS [.v (.pagg [.sl 3, .int .i64, .int .i64])] [] tm hp fun (xx : (((List (List PC) × Bool) × (Int × (Int × Unit))) × Unit)) (yy : Unit) => f9 xx.1.1.1 xx.1.1.2 xx.1.2.1 xx.1.2.2.1 (fun es0_3 full0_4 n0_5 n0_6 => K (.w (.pagg [.sl 3 es0_3 full0_4, pI n0_5, pI n0_6])) [])
set_option maxRecDepth 100000 in
theorem f9_eq (es_34 : List (List PC)) (full_35 : Bool) (n_36 : Int) (n_37 : Int) (K : TV → List Entry → Prop) : (f9_d es_34 full_35 n_36 n_37 (fun es0_3 full0_4 n0_5 n0_6 => K (.w (.pagg [.sl 3 es0_3 full0_4, pI n0_5, pI n0_6])) [])) = funcT f9_C Try.f9 [.w (.pagg [.sl 3 es_34 full_35, pI n_36, pI n_37])] [] K := by kernel_rfl
set_option maxHeartbeats 4000000 in
theorem f9_ok0 : FnOk Try.prog glob 9 f9_G0 := by
  refine FnOk.of_text (C := f9_C) tab_ok.ok (Known.none) follows_ok (fn := Try.f9) (by kernel_rfl) (by kernel_rfl) (by kernel_rfl) (fun c hc => ?_) fun tm hp K h => ?_
  · have e : c = bodyOf Try.f9 := Option.some.inj (hc.symm.trans (by kernel_rfl))
    subst e
    exact ⟨LoopsOk.of [nthC (bodies (bodyOf Try.f9)) 0] (by kernel_rfl) ⟨f9_p6_ok, trivial⟩, TailsOk.of (tab := f9_tab) rfl [] (by kernel_rfl) trivial⟩
  · unfold f9_G0 at h
    obtain ⟨xx, yy, rfl, rfl, h⟩ := getS_elim h
    have e := (f9_eq xx.1.1.1 xx.1.1.2 xx.1.2.1 xx.1.2.2.1 K).trans (show _ = funcT f9_C Try.f9 (mkR _ xx) (mkE _ yy) K by kernel_rfl)
    rw [← e]
    exact h.run
noncomputable abbrev f9_G := f9_G0
theorem f9_G_ok : FnOk Try.prog glob 9 f9_G := f9_ok0
end Go.Eng.N
set_option linter.unusedVariables false
set_option maxRecDepth 100000
open Go Go.Eng Go.Proofs
namespace Go.Eng.N
/-! ### f18: plenum/plenumlaw55.theirs -/
noncomputable def f18_p6b0 (n5 : Int) (es6 : List (List PC)) (full7 : Bool) (n8 : Int) (n9 : Int) (n10 : Int) (n11 : Int) (i12 : Nat) (n13 : Nat) (n14 : Int) (n15 : Int) (es16 : List (List PC)) (N0 : Int → Nat → Nat → (List (List PC)) → Prop) (k0 : Nat → Nat → (List (List PC)) → Prop) : Prop := bB (decide (n5 < ((es6.length : Nat) : Int))) ((0 ≤ n5 ∧ n5 < ((es6.length : Nat) : Int)) ∧ oI .i64 (ext (List.getD es6 (Int.toNat n5) []) 0 1) fun n17 => (0 ≤ n5 ∧ n5 < ((es6.length : Nat) : Int)) ∧ oB (ext (List.getD es6 (Int.toNat n5) []) 1 1) fun b18 => (0 ≤ n5 ∧ n5 < ((es6.length : Nat) : Int)) ∧ oB (ext (List.getD es6 (Int.toNat n5) []) 2 1) fun b19 => (i12 + n13) ≤ es16.length ∧ (n13 + 1) * 16 ≤ 2 ^ 46 ∧ (n13 + 1) ≤ 2 ^ 46 ∧ N0 (w64 (n5 + 1)) 0 (n13 + 1) ((List.take n13 (List.drop i12 es16)) ++ [[pI n17, pB b18, pB b19]])) (k0 i12 n13 es16)
noncomputable def f18_p6 (es6 : List (List PC)) (full7 : Bool) (n8 : Int) (n9 : Int) (n10 : Int) (n11 : Int) (n14 : Int) (n15 : Int) (k0 : Nat → Nat → (List (List PC)) → Prop) : Int × Nat × Nat × (List (List PC)) → Prop := LoopP fun x N => f18_p6b0 x.1 es6 full7 n8 n9 n10 n11 x.2.1 x.2.2.1 n14 n15 x.2.2.2 (fun n5 i12 n13 es16 => N (n5, i12, n13, es16)) k0
noncomputable def f18_d (es1 : List (List PC)) (full2 : Bool) (n3 : Int) (n4 : Int) (k0 : (List (List PC)) → Bool → Int → Int → Prop) : Prop := f18_p6 es1 full2 n3 n4 0 0 n3 n4 (fun i20 n21 es22 => k0 (List.take n21 (List.drop i20 es22)) false n3 n4) (0, 0, 0, [])
structure f18 (es1 : List (List PC)) (full2 : Bool) (n3 : Int) (n4 : Int) (k0 : (List (List PC)) → Bool → Int → Int → Prop) : Prop where
  run : f18_d es1 full2 n3 n4 k0
noncomputable def f18_p6L : Told := fun s K => match s with
  | ⟨tm, hp⟩ => getS [.skip 1, .v (.one (.ptr 0 0 0)), .v (.one (.ptr 1 0 0)), .v (.one (.ptr 2 0 0)), .v (.one (.int .i64)), .skip 37] [.box [.sl 3, .int .i64, .int .i64], .box [.nil 3, .int .i64, .int .i64], .box [.ref 3, .int .i64, .int .i64], .vec 3 true] tm hp fun (xx : (Unit × (Unit × (Unit × (Unit × (Int × (Unit × Unit))))))) (yy : (((List (List PC) × Bool) × (Int × (Int × Unit))) × ((Unit × (Int × (Int × Unit))) × (((Nat × Nat) × (Int × (Int × Unit))) × ((List (List PC)) × Unit))))) => f18_p6 yy.1.1.1 yy.1.1.2 yy.1.2.1 yy.1.2.2.1 yy.2.1.2.1 yy.2.1.2.2.1 yy.2.2.1.2.1 yy.2.2.1.2.2.1 (fun i0_0 n0_1 es0_2 => K (.exit 0) ⟨mkS 42 [(2, .w (.one (.ptr 0 0 0))), (3, .w (.one (.ptr 1 0 0)))], [.box [.p (.sl 3 [] true), .p (pI yy.2.1.2.1), .p (pI yy.2.1.2.2.1)], .box [.ref 2 i0_0 n0_1, .p (pI yy.2.2.1.2.1), .p (pI yy.2.2.1.2.2.1)], .vec 3 es0_2 true]⟩) (xx.2.2.2.2.1, yy.2.2.1.1.1, yy.2.2.1.1.2, yy.2.2.2.1)
noncomputable def f18_tab : List (Nat × Told) := [(6, f18_p6L)]
noncomputable def f18_call : FuncId → List TV → List Entry → (TV → List Entry → Prop) → Prop := noCalls
noncomputable def f18_C : Ctx := { ty := tyOf tab, glob := glob, byRef := byRef, keep := fun k i => lookN [] (lookN [] ([(6, [(0, [1, 2, 3, 4]), (2, [2]), (3, [2, 3])])] : List (Nat × List (Nat × List Nat))) k) i, late := lookN [] ([] : List (Nat × List Nat)), nref := lookN [] ([] : List (Nat × List Nat)), nbox := lookN [] ([(6, [(2, 0)])] : List (Nat × List (Nat × Nat))), take := [], rnil := false, m := 0, fz := true, loops := lookL f18_tab, call := f18_call }
noncomputable def f18_p6_mk (es6 : List (List PC)) (full7 : Bool) (n8 : Int) (n9 : Int) (n10 : Int) (n11 : Int) (n14 : Int) (n15 : Int) (x : Int × Nat × Nat × (List (List PC))) : St := ⟨mkS 42 [(1, .w (.one (.ptr 0 0 0))), (2, .w (.one (.ptr 1 0 0))), (3, .w (.one (.ptr 2 0 0))), (4, I x.1)], [.box [.p (.sl 3 es6 full7), .p (pI n8), .p (pI n9)], .box [.p (.sl 3 [] true), .p (pI n10), .p (pI n11)], .box [.ref 3 x.2.1 x.2.2.1, .p (pI n14), .p (pI n15)], .vec 3 x.2.2.2 true]⟩
set_option maxRecDepth 100000 in
theorem f18_p6e0 (n_19 : Int) (es_20 : List (List PC)) (full_21 : Bool) (n_22 : Int) (n_23 : Int) (n_24 : Int) (n_25 : Int) (i_26 : Nat) (n_27 : Nat) (n_28 : Int) (n_29 : Int) (es_30 : List (List PC)) (N : St → Prop) (K : TExit → St → Prop) : (f18_p6b0 n_19 es_20 full_21 n_22 n_23 n_24 n_25 i_26 n_27 n_28 n_29 es_30 (fun z0 z7 z8 z11 => N (f18_p6_mk es_20 full_21 n_22 n_23 n_24 n_25 n_28 n_29 (z0, z7, z8, z11))) (fun i0_31 n0_32 es0_33 => K (.exit 0) ⟨mkS 42 [(2, .w (.one (.ptr 0 0 0))), (3, .w (.one (.ptr 1 0 0)))], [.box [.p (.sl 3 [] true), .p (pI n_24), .p (pI n_25)], .box [.ref 2 i0_31 n0_32, .p (pI n_28), .p (pI n_29)], .vec 3 es0_33 true]⟩)) = execT f18_C (nthC (bodies (bodyOf Try.f18)) 0) (f18_p6_mk es_20 full_21 n_22 n_23 n_24 n_25 n_28 n_29 (n_19, i_26, n_27, es_30)) (loopK N (normK f18_C 6) fun e s => K e (normOut f18_C 6 e s)) := by kernel_rfl
set_option maxHeartbeats 4000000 in
theorem f18_p6_ok : LoopOk f18_C (nthC (bodies (bodyOf Try.f18)) 0) := by
  refine LoopOk.of f18_p6L (by kernel_rfl) fun σ K h => ?_
  have hk : loopKey (nthC (bodies (bodyOf Try.f18)) 0) = 6 := by kernel_rfl
  rw [hk] at h ⊢
  generalize hs : normK f18_C 6 σ = s at h
  obtain ⟨tm, hp⟩ := s
  unfold f18_p6L at h
  dsimp only at h
  obtain ⟨xx, yy, rfl, rfl, h⟩ := getS_elim h
  refine iter_of (f18_p6_mk yy.1.1.1 yy.1.1.2 yy.1.2.1 yy.1.2.2.1 yy.2.1.2.1 yy.2.1.2.2.1 yy.2.2.1.2.1 yy.2.2.1.2.2.1) (fun x N h => ?_) rounds _ σ (hs.trans (by kernel_rfl)) (LoopP.run h)
  obtain ⟨y0, y1, y2, y3⟩ := x
  rw [← f18_p6e0 y0 yy.1.1.1 yy.1.1.2 yy.1.2.1 yy.1.2.2.1 yy.2.1.2.1 yy.2.1.2.2.1 y1 y2 yy.2.2.1.2.1 yy.2.2.1.2.2.1 y3 N K]
  exact h
noncomputable def f18_G0 : List TV → List Entry → (TV → List Entry → Prop) → Prop := fun tm hp K => getS [.v (.pagg [.sl 3, .int .i64, .int .i64])] [] tm hp fun (xx : (((List (List PC) × Bool) × (Int × (Int × Unit))) × Unit)) (yy : Unit) => f18 xx.1.1.1 xx.1.1.2 xx.1.2.1 xx.1.2.2.1 (fun es0_3 full0_4 n0_5 n0_6 => K (.w (.pagg [.sl 3 es0_3 full0_4, pI n0_5, pI n0_6])) [])
set_option maxRecDepth 100000 in
theorem f18_eq (es_34 : List (List PC)) (full_35 : Bool) (n_36 : Int) (n_37 : Int) (K : TV → List Entry → Prop) : (f18_d es_34 full_35 n_36 n_37 (fun es0_3 full0_4 n0_5 n0_6 => K (.w (.pagg [.sl 3 es0_3 full0_4, pI n0_5, pI n0_6])) [])) = funcT f18_C Try.f18 [.w (.pagg [.sl 3 es_34 full_35, pI n_36, pI n_37])] [] K := by kernel_rfl
set_option maxHeartbeats 4000000 in
theorem f18_ok0 : FnOk Try.prog glob 18 f18_G0 := by
  refine FnOk.of_text (C := f18_C) tab_ok.ok (Known.none) follows_ok (fn := Try.f18) (by kernel_rfl) (by kernel_rfl) (by kernel_rfl) (fun c hc => ?_) fun tm hp K h => ?_
  · have e : c = bodyOf Try.f18 := Option.some.inj (hc.symm.trans (by kernel_rfl))
    subst e
    exact ⟨LoopsOk.of [nthC (bodies (bodyOf Try.f18)) 0] (by kernel_rfl) ⟨f18_p6_ok, trivial⟩, TailsOk.of (tab := f18_tab) rfl [] (by kernel_rfl) trivial⟩
  · unfold f18_G0 at h
    obtain ⟨xx, yy, rfl, rfl, h⟩ := getS_elim h
    have e := (f18_eq xx.1.1.1 xx.1.1.2 xx.1.2.1 xx.1.2.2.1 K).trans (show _ = funcT f18_C Try.f18 (mkR _ xx) (mkE _ yy) K by kernel_rfl)
    rw [← e]
    exact h.run
noncomputable abbrev f18_G := f18_G0
theorem f18_G_ok : FnOk Try.prog glob 18 f18_G := f18_ok0
end Go.Eng.N
set_option linter.unusedVariables false
set_option maxRecDepth 100000
open Go Go.Eng Go.Proofs
namespace Go.Eng.N
/-! ### f26: plenum/leadlag.Play -/
noncomputable def f26_p20b0 (i23 : Nat) (n24 : Nat) (n25 : Int) (i26 : Nat) (n27 : Nat) (es28 : List (List PC)) (full29 : Bool) (n30 : Int) (n31 : Int) (es32 : List (List PC)) (n33 : Int) (n34 : Int) (es35 : List (List PC)) (full36 : Bool) (n37 : Int) (n38 : Int) (es39 : List (List PC)) (N0 : Int → (List (List PC)) → Prop) (k0 : (List (List PC)) → Prop) : Prop := bB (decide (n31 < n30)) ((0 ≤ n31 ∧ n31 < ((es28.length : Nat) : Int)) ∧ cI .i64 (ext (List.getD es28 (Int.toNat n31) []) 0 3) fun n41 r40 => cB r40 fun b43 r42 => cB r42 fun b45 r44 => nilC r44 <| (0 ≤ n31 ∧ n31 < ((n27 : Nat) : Int)) ∧ (i26 + (Int.toNat n31)) < es39.length ∧ N0 (w64 (n31 + 1)) (List.set es39 (i26 + (Int.toNat n31)) (splice (List.getD es39 (i26 + (Int.toNat n31)) []) 0 [pB b45]))) (k0 es39)
noncomputable def f26_p20 (i23 : Nat) (n24 : Nat) (n25 : Int) (i26 : Nat) (n27 : Nat) (es28 : List (List PC)) (full29 : Bool) (n30 : Int) (es32 : List (List PC)) (n33 : Int) (n34 : Int) (es35 : List (List PC)) (full36 : Bool) (n37 : Int) (n38 : Int) (k0 : (List (List PC)) → Prop) : Int × (List (List PC)) → Prop := LoopP fun x N => f26_p20b0 i23 n24 n25 i26 n27 es28 full29 n30 x.1 es32 n33 n34 es35 full36 n37 n38 x.2 (fun n31 es39 => N (n31, es39)) k0
noncomputable def f26_p32b0 (n47 : Int) (i48 : Nat) (n49 : Nat) (i50 : Nat) (n51 : Nat) (i52 : Nat) (n53 : Nat) (n54 : Int) (n55 : Int) (es56 : List (List PC)) (n57 : Int) (n58 : Int) (es59 : List (List PC)) (full60 : Bool) (n61 : Int) (n62 : Int) (es63 : List (List PC)) (es64 : List (List PC)) (N0 : Int → Nat → Nat → Nat → Nat → Nat → Nat → Int → Int → (List (List PC)) → Int → Int → (List (List PC)) → Bool → Int → Int → (List (List PC)) → (List (List PC)) → Prop) (N1 : Int → Nat → Nat → Nat → Nat → Nat → Nat → Int → Int → (List (List PC)) → Int → Int → (List (List PC)) → Bool → Int → Int → (List (List PC)) → (List (List PC)) → Prop) (k0 : Nat → Nat → (List (List PC)) → (List (List PC)) → Prop) : Prop := bB (decide (n55 < n54)) ((0 ≤ n55 ∧ n55 < ((n53 : Nat) : Int)) ∧ oI .i64 (ext (List.getD es56 (i52 + (Int.toNat n55)) []) 0 1) fun n65 => f42 n57 n58 es59 full60 n61 n62 n65 (List.take n49 (List.drop i48 es63)) false (w64 (n47 + n55)) (fun es66 full67 n68 n69 => (i50 + n51) ≤ es64.length ∧ (n51 + 1) * 40 ≤ 2 ^ 46 ∧ (n51 + 1) ≤ 2 ^ 46 ∧ N1 n47 i48 n49 0 (n51 + 1) i52 n53 n54 (w64 (n55 + 1)) es56 n57 n58 es66 full67 n68 n69 es63 ((List.take n51 (List.drop i50 es64)) ++ [[.sl 3 es66 full67, pI n68, pI n69]]))) (k0 i50 n51 es56 es64)
noncomputable def f26_p32b1 (n70 : Int) (i71 : Nat) (n72 : Nat) (i73 : Nat) (n74 : Nat) (i75 : Nat) (n76 : Nat) (n77 : Int) (n78 : Int) (es79 : List (List PC)) (n80 : Int) (n81 : Int) (es82 : List (List PC)) (full83 : Bool) (n84 : Int) (n85 : Int) (es86 : List (List PC)) (es87 : List (List PC)) (N0 : Int → Nat → Nat → Nat → Nat → Nat → Nat → Int → Int → (List (List PC)) → Int → Int → (List (List PC)) → Bool → Int → Int → (List (List PC)) → (List (List PC)) → Prop) (N1 : Int → Nat → Nat → Nat → Nat → Nat → Nat → Int → Int → (List (List PC)) → Int → Int → (List (List PC)) → Bool → Int → Int → (List (List PC)) → (List (List PC)) → Prop) (k0 : Nat → Nat → (List (List PC)) → (List (List PC)) → Prop) : Prop := bB (decide (n78 < n77)) ((0 ≤ n78 ∧ n78 < ((n76 : Nat) : Int)) ∧ oI .i64 (ext (List.getD es79 (i75 + (Int.toNat n78)) []) 0 1) fun n88 => f42 n80 n81 es82 full83 n84 n85 n88 (List.take n72 (List.drop i71 es86)) false (w64 (n70 + n78)) (fun es89 full90 n91 n92 => (i73 + n74) ≤ es87.length ∧ (n74 + 1) * 40 ≤ 2 ^ 46 ∧ (n74 + 1) ≤ 2 ^ 46 ∧ N1 n70 i71 n72 0 (n74 + 1) i75 n76 n77 (w64 (n78 + 1)) es79 n80 n81 es89 full90 n91 n92 es86 ((List.take n74 (List.drop i73 es87)) ++ [[.sl 3 es89 full90, pI n91, pI n92]]))) (k0 i73 n74 es79 es87)
noncomputable def f26_p32 (k0 : Nat → Nat → (List (List PC)) → (List (List PC)) → Prop) : (Int × Nat × Nat × Nat × Nat × Nat × Nat × Int × Int × (List (List PC)) × Int × Int × (List (List PC)) × Bool × Int × Int × (List (List PC)) × (List (List PC))) ⊕ (Int × Nat × Nat × Nat × Nat × Nat × Nat × Int × Int × (List (List PC)) × Int × Int × (List (List PC)) × Bool × Int × Int × (List (List PC)) × (List (List PC))) → Prop := LoopP fun x N => match x with
  | (.inl x) => f26_p32b0 x.1 x.2.1 x.2.2.1 x.2.2.2.1 x.2.2.2.2.1 x.2.2.2.2.2.1 x.2.2.2.2.2.2.1 x.2.2.2.2.2.2.2.1 x.2.2.2.2.2.2.2.2.1 x.2.2.2.2.2.2.2.2.2.1 x.2.2.2.2.2.2.2.2.2.2.1 x.2.2.2.2.2.2.2.2.2.2.2.1 x.2.2.2.2.2.2.2.2.2.2.2.2.1 x.2.2.2.2.2.2.2.2.2.2.2.2.2.1 x.2.2.2.2.2.2.2.2.2.2.2.2.2.2.1 x.2.2.2.2.2.2.2.2.2.2.2.2.2.2.2.1 x.2.2.2.2.2.2.2.2.2.2.2.2.2.2.2.2.1 x.2.2.2.2.2.2.2.2.2.2.2.2.2.2.2.2.2 (fun n47 i48 n49 i50 n51 i52 n53 n54 n55 es56 n57 n58 es59 full60 n61 n62 es63 es64 => N (.inl (n47, i48, n49, i50, n51, i52, n53, n54, n55, es56, n57, n58, es59, full60, n61, n62, es63, es64))) (fun n70 i71 n72 i73 n74 i75 n76 n77 n78 es79 n80 n81 es82 full83 n84 n85 es86 es87 => N (.inr (n70, i71, n72, i73, n74, i75, n76, n77, n78, es79, n80, n81, es82, full83, n84, n85, es86, es87))) k0
  | (.inr x) => f26_p32b1 x.1 x.2.1 x.2.2.1 x.2.2.2.1 x.2.2.2.2.1 x.2.2.2.2.2.1 x.2.2.2.2.2.2.1 x.2.2.2.2.2.2.2.1 x.2.2.2.2.2.2.2.2.1 x.2.2.2.2.2.2.2.2.2.1 x.2.2.2.2.2.2.2.2.2.2.1 x.2.2.2.2.2.2.2.2.2.2.2.1 x.2.2.2.2.2.2.2.2.2.2.2.2.1 x.2.2.2.2.2.2.2.2.2.2.2.2.2.1 x.2.2.2.2.2.2.2.2.2.2.2.2.2.2.1 x.2.2.2.2.2.2.2.2.2.2.2.2.2.2.2.1 x.2.2.2.2.2.2.2.2.2.2.2.2.2.2.2.2.1 x.2.2.2.2.2.2.2.2.2.2.2.2.2.2.2.2.2 (fun n47 i48 n49 i50 n51 i52 n53 n54 n55 es56 n57 n58 es59 full60 n61 n62 es63 es64 => N (.inl (n47, i48, n49, i50, n51, i52, n53, n54, n55, es56, n57, n58, es59, full60, n61, n62, es63, es64))) (fun n70 i71 n72 i73 n74 i75 n76 n77 n78 es79 n80 n81 es82 full83 n84 n85 es86 es87 => N (.inr (n70, i71, n72, i73, n74, i75, n76, n77, n78, es79, n80, n81, es82, full83, n84, n85, es86, es87))) k0
noncomputable def f26_p17 (i13 : Nat) (n14 : Nat) (n15 : Int) (es16 : List (List PC)) (n17 : Int) (n18 : Int) (es19 : List (List PC)) (full20 : Bool) (n21 : Int) (n22 : Int) (k0 : Nat → Nat → Int → (List (List PC)) → (List (List PC)) → Prop) : Prop := (0 ≤ ((es19.length : Nat) : Int) ∧ ((es19.length : Nat) : Int) ≤ ((es19.length : Nat) : Int) ∧ ((es19.length : Nat) : Int) * 1 ≤ 2 ^ 46 ∧ ((es19.length : Nat) : Int) ≤ 2 ^ 46) ∧ f26_p20 i13 n14 n15 0 (Int.toNat ((es19.length : Nat) : Int)) es19 full20 ((es19.length : Nat) : Int) es16 n17 n18 es19 full20 n21 n22 (fun es46 => f26_p32 (fun i93 n94 es95 es96 => k0 i93 n94 0 es95 es96) (.inl (n15, 0, (Int.toNat ((es19.length : Nat) : Int)), 0, 0, i13, n14, ((n14 : Nat) : Int), 0, es16, n17, n18, es19, full20, n21, n22, es46, []))) (0, (List.replicate (Int.toNat ((es19.length : Nat) : Int)) [pB false]))
noncomputable def f26_d (n1 : Int) (n2 : Int) (es3 : List (List PC)) (full4 : Bool) (n5 : Int) (n6 : Int) (i7 : Nat) (n8 : Nat) (n9 : Int) (es10 : List (List PC)) (k0 : Nat → Nat → Int → (List (List PC)) → (List (List PC)) → Prop) : Prop := f14 n1 n2 es3 full4 n5 n6 (fun n11 => bB (n11 != 0) (k0 0 0 n11 es10 []) (bB (decide (((n8 : Nat) : Int) > 10000)) (k0 0 0 7 es10 []) (bB (decide (((n8 : Nat) : Int) > 0)) (f41 es3 full4 n5 n6 n9 (fun b12 => bB (!b12) (k0 0 0 6 es10 []) (bB (decide ((w64 ((w64 (n9 + ((n8 : Nat) : Int))) - 1)) > 6311433599)) (k0 0 0 6 es10 []) (f26_p17 i7 n8 n9 es10 n1 n2 es3 full4 n5 n6 (fun i97 n98 n99 es100 es101 => k0 i97 n98 n99 es100 es101))))) (f26_p17 i7 n8 n9 es10 n1 n2 es3 full4 n5 n6 (fun i102 n103 n104 es105 es106 => k0 i102 n103 n104 es105 es106)))))
structure f26 (n1 : Int) (n2 : Int) (es3 : List (List PC)) (full4 : Bool) (n5 : Int) (n6 : Int) (i7 : Nat) (n8 : Nat) (n9 : Int) (es10 : List (List PC)) (k0 : Nat → Nat → Int → (List (List PC)) → (List (List PC)) → Prop) : Prop where
  run : f26_d n1 n2 es3 full4 n5 n6 i7 n8 n9 es10 k0
noncomputable def f26_p20L : Told := fun s K => match s with
  | ⟨tm, hp⟩ => getS [.skip 2, .v (.one (.ref 0)), .v (.one (.int .i64)), .v (.one (.ptr 1 0 0)), .v (.one (.ptr 2 0 0)), .skip 5, .v (.one (.ref 3)), .skip 36, .v (.one (.sl 3)), .v (.one (.int .i64)), .v (.one (.int .i64)), .skip 31] [.vec 1 true, .box [.int .i64, .int .i64], .box [.sl 3, .int .i64, .int .i64], .vec 1 true] tm hp fun (xx : (Unit × ((Nat × Nat) × (Int × (Unit × (Unit × (Unit × ((Nat × Nat) × (Unit × ((List (List PC) × Bool) × (Int × (Int × (Unit × Unit))))))))))))) (yy : ((List (List PC)) × ((Int × (Int × Unit)) × (((List (List PC) × Bool) × (Int × (Int × Unit))) × ((List (List PC)) × Unit))))) => f26_p20 xx.2.1.1 xx.2.1.2 xx.2.2.1 xx.2.2.2.2.2.2.1.1 xx.2.2.2.2.2.2.1.2 xx.2.2.2.2.2.2.2.2.1.1 xx.2.2.2.2.2.2.2.2.1.2 xx.2.2.2.2.2.2.2.2.2.1 yy.1 yy.2.1.1 yy.2.1.2.1 yy.2.2.1.1.1 yy.2.2.1.1.2 yy.2.2.1.2.1 yy.2.2.1.2.2.1 (fun es0_0 => K (.exit 0) ⟨mkS 82 [(2, .w (.one (.ref 0 xx.2.1.1 xx.2.1.2))), (3, I xx.2.2.1), (4, .w (.one (.ptr 1 0 0))), (5, .w (.one (.ptr 2 0 0))), (11, .w (.one (.ref 3 xx.2.2.2.2.2.2.1.1 xx.2.2.2.2.2.2.1.2)))], [.vec 1 yy.1 true, .box [.p (pI yy.2.1.1), .p (pI yy.2.1.2.1)], .box [.p (.sl 3 yy.2.2.1.1.1 yy.2.2.1.1.2), .p (pI yy.2.2.1.2.1), .p (pI yy.2.2.1.2.2.1)], .vec 1 es0_0 true]⟩) (xx.2.2.2.2.2.2.2.2.2.2.1, yy.2.2.2.1)
noncomputable def f26_p32L : Told := fun s K => match s with
  | ⟨tm, hp⟩ => bif isSig (sigOf tm hp) [0, 0, 0, 2, 201, 202, 0, 0, 0, 0, 0, 103, 0, 0, 104, 0, 0, 0, 0, 0, 0, 0, 0, 0, 0, 0, 0, 0, 0, 0, 0, 0, 0, 0, 0, 0, 0, 0, 0, 0, 0, 0, 0, 0, 0, 0, 0, 0, 0, 0, 0, 0, 0, 0, 0, 0, 0, 0, 0, 0, 0, 100, 2, 2, 0, 0, 0, 0, 0, 0, 0, 0, 0, 0, 0, 0, 0, 0, 0, 0, 0, 0, 7, 22, 20, 2, 2, 20, 5, 2, 2, 22, 22] then (getS [.skip 3, .v (.one (.int .i64)), .v (.one (.ptr 1 0 0)), .v (.one (.ptr 2 0 0)), .skip 5, .v (.one (.ref 3)), .skip 2, .v (.one (.ref 4)), .skip 46, .v (.one (.ref 0)), .v (.one (.int .i64)), .v (.one (.int .i64)), .skip 18] [.vec 1 true, .box [.int .i64, .int .i64], .box [.sl 3, .int .i64, .int .i64], .vec 1 true, .vec 3 true] tm hp fun (xx : (Unit × (Int × (Unit × (Unit × (Unit × ((Nat × Nat) × (Unit × ((Nat × Nat) × (Unit × ((Nat × Nat) × (Int × (Int × (Unit × Unit)))))))))))))) (yy : ((List (List PC)) × ((Int × (Int × Unit)) × (((List (List PC) × Bool) × (Int × (Int × Unit))) × ((List (List PC)) × ((List (List PC)) × Unit)))))) => f26_p32 (fun i0_1 n0_2 es0_3 es0_4 => K (.exit 2) ⟨mkS 82 [(14, .w (.one (.ref 1 i0_1 n0_2)))], [.vec 1 es0_3 true, .vec 3 es0_4 true]⟩) (.inl (xx.2.1, xx.2.2.2.2.2.1.1, xx.2.2.2.2.2.1.2, xx.2.2.2.2.2.2.2.1.1, xx.2.2.2.2.2.2.2.1.2, xx.2.2.2.2.2.2.2.2.2.1.1, xx.2.2.2.2.2.2.2.2.2.1.2, xx.2.2.2.2.2.2.2.2.2.2.1, xx.2.2.2.2.2.2.2.2.2.2.2.1, yy.1, yy.2.1.1, yy.2.1.2.1, yy.2.2.1.1.1, yy.2.2.1.1.2, yy.2.2.1.2.1, yy.2.2.1.2.2.1, yy.2.2.2.1, yy.2.2.2.2.1))) else (getS [.skip 3, .v (.one (.int .i64)), .v (.one (.ptr 1 0 0)), .v (.one (.ptr 2 0 0)), .skip 5, .v (.one (.ref 3)), .skip 2, .v (.one (.ref 4)), .skip 46, .v (.one (.ref 0)), .v (.one (.int .i64)), .v (.one (.int .i64)), .skip 18] [.vec 1 true, .box [.int .i64, .int .i64], .box [.sl 3, .int .i64, .int .i64], .vec 1 false, .vec 3 true] tm hp fun (xx : (Unit × (Int × (Unit × (Unit × (Unit × ((Nat × Nat) × (Unit × ((Nat × Nat) × (Unit × ((Nat × Nat) × (Int × (Int × (Unit × Unit)))))))))))))) (yy : ((List (List PC)) × ((Int × (Int × Unit)) × (((List (List PC) × Bool) × (Int × (Int × Unit))) × ((List (List PC)) × ((List (List PC)) × Unit)))))) => f26_p32 (fun i0_5 n0_6 es0_7 es0_8 => K (.exit 2) ⟨mkS 82 [(14, .w (.one (.ref 1 i0_5 n0_6)))], [.vec 1 es0_7 true, .vec 3 es0_8 true]⟩) (.inr (xx.2.1, xx.2.2.2.2.2.1.1, xx.2.2.2.2.2.1.2, xx.2.2.2.2.2.2.2.1.1, xx.2.2.2.2.2.2.2.1.2, xx.2.2.2.2.2.2.2.2.2.1.1, xx.2.2.2.2.2.2.2.2.2.1.2, xx.2.2.2.2.2.2.2.2.2.2.1, xx.2.2.2.2.2.2.2.2.2.2.2.1, yy.1, yy.2.1.1, yy.2.1.2.1, yy.2.2.1.1.1, yy.2.2.1.1.2, yy.2.2.1.2.1, yy.2.2.1.2.2.1, yy.2.2.2.1, yy.2.2.2.2.1)))
noncomputable def f26_p17L : Told := fun s K => match s with
  | ⟨tm, hp⟩ => getS [.skip 2, .v (.one (.ref 0)), .v (.one (.int .i64)), .v (.one (.ptr 1 0 0)), .v (.one (.ptr 2 0 0)), .skip 76] [.vec 1 true, .box [.int .i64, .int .i64], .box [.sl 3, .int .i64, .int .i64]] tm hp fun (xx : (Unit × ((Nat × Nat) × (Int × (Unit × (Unit × (Unit × Unit))))))) (yy : ((List (List PC)) × ((Int × (Int × Unit)) × (((List (List PC) × Bool) × (Int × (Int × Unit))) × Unit)))) => f26_p17 xx.2.1.1 xx.2.1.2 xx.2.2.1 yy.1 yy.2.1.1 yy.2.1.2.1 yy.2.2.1.1.1 yy.2.2.1.1.2 yy.2.2.1.2.1 yy.2.2.1.2.2.1 (fun i0_9 n0_10 n0_11 es0_12 es0_13 => K .ret ⟨mkS 82 [(8, .w (.one (.ref 1 i0_9 n0_10))), (9, I n0_11)], [.vec 1 es0_12 true, .vec 3 es0_13 true]⟩)
noncomputable def f26_tab : List (Nat × Told) := [(20, f26_p20L), (32, f26_p32L), (17, f26_p17L)]
noncomputable def f26_call : FuncId → List TV → List Entry → (TV → List Entry → Prop) → Prop := addCall 42 f42_G (addCall 41 f41_G (addCall 14 f14_G (noCalls)))
noncomputable def f26_C : Ctx := { ty := tyOf tab, glob := glob, byRef := byRef, keep := fun k i => lookN [] (lookN [] ([(20, [(0, [2, 3, 4, 5, 11, 48, 49, 50]), (2, [8, 9]), (3, [2, 3, 4, 5, 11])]), (32, [(0, [3, 4, 5, 11, 14, 61, 62, 63]), (2, [8, 9]), (5, [14])]), (17, [(0, [2, 3, 4, 5]), (1, [8, 9]), (2, [8, 9])])] : List (Nat × List (Nat × List Nat))) k) i, late := lookN [] ([] : List (Nat × List Nat)), nref := lookN [] ([(32, [14])] : List (Nat × List Nat)), nbox := lookN [] ([] : List (Nat × List (Nat × Nat))), take := [], rnil := true, m := 1, fz := false, loops := lookL f26_tab, call := f26_call }
noncomputable def f26_p20_mk (i23 : Nat) (n24 : Nat) (n25 : Int) (i26 : Nat) (n27 : Nat) (es28 : List (List PC)) (full29 : Bool) (n30 : Int) (es32 : List (List PC)) (n33 : Int) (n34 : Int) (es35 : List (List PC)) (full36 : Bool) (n37 : Int) (n38 : Int) (x : Int × (List (List PC))) : St := ⟨mkS 82 [(2, .w (.one (.ref 0 i23 n24))), (3, I n25), (4, .w (.one (.ptr 1 0 0))), (5, .w (.one (.ptr 2 0 0))), (11, .w (.one (.ref 3 i26 n27))), (48, .w (.one (.p (.sl 3 es28 full29)))), (49, I n30), (50, I x.1)], [.vec 1 es32 true, .box [.p (pI n33), .p (pI n34)], .box [.p (.sl 3 es35 full36), .p (pI n37), .p (pI n38)], .vec 1 x.2 true]⟩
set_option maxRecDepth 100000 in
theorem f26_p20e0 (i_36 : Nat) (n_37 : Nat) (n_38 : Int) (i_39 : Nat) (n_40 : Nat) (es_41 : List (List PC)) (full_42 : Bool) (n_43 : Int) (n_44 : Int) (es_45 : List (List PC)) (n_46 : Int) (n_47 : Int) (es_48 : List (List PC)) (full_49 : Bool) (n_50 : Int) (n_51 : Int) (es_52 : List (List PC)) (N : St → Prop) (K : TExit → St → Prop) : (f26_p20b0 i_36 n_37 n_38 i_39 n_40 es_41 full_42 n_43 n_44 es_45 n_46 n_47 es_48 full_49 n_50 n_51 es_52 (fun z8 z16 => N (f26_p20_mk i_36 n_37 n_38 i_39 n_40 es_41 full_42 n_43 es_45 n_46 n_47 es_48 full_49 n_50 n_51 (z8, z16))) (fun es0_53 => K (.exit 0) ⟨mkS 82 [(2, .w (.one (.ref 0 i_36 n_37))), (3, I n_38), (4, .w (.one (.ptr 1 0 0))), (5, .w (.one (.ptr 2 0 0))), (11, .w (.one (.ref 3 i_39 n_40)))], [.vec 1 es_45 true, .box [.p (pI n_46), .p (pI n_47)], .box [.p (.sl 3 es_48 full_49), .p (pI n_50), .p (pI n_51)], .vec 1 es0_53 true]⟩)) = execT f26_C (nthC (bodies (bodyOf Try.f26)) 0) (f26_p20_mk i_36 n_37 n_38 i_39 n_40 es_41 full_42 n_43 es_45 n_46 n_47 es_48 full_49 n_50 n_51 (n_44, es_52)) (loopK N (normK f26_C 20) fun e s => K e (normOut f26_C 20 e s)) := by kernel_rfl
noncomputable def f26_p32_mk (x : (Int × Nat × Nat × Nat × Nat × Nat × Nat × Int × Int × (List (List PC)) × Int × Int × (List (List PC)) × Bool × Int × Int × (List (List PC)) × (List (List PC))) ⊕ (Int × Nat × Nat × Nat × Nat × Nat × Nat × Int × Int × (List (List PC)) × Int × Int × (List (List PC)) × Bool × Int × Int × (List (List PC)) × (List (List PC)))) : St := match x with
  | (.inl x) => ⟨mkS 82 [(3, I x.1), (4, .w (.one (.ptr 1 0 0))), (5, .w (.one (.ptr 2 0 0))), (11, .w (.one (.ref 3 x.2.1 x.2.2.1))), (14, .w (.one (.ref 4 x.2.2.2.1 x.2.2.2.2.1))), (61, .w (.one (.ref 0 x.2.2.2.2.2.1 x.2.2.2.2.2.2.1))), (62, I x.2.2.2.2.2.2.2.1), (63, I x.2.2.2.2.2.2.2.2.1)], [.vec 1 x.2.2.2.2.2.2.2.2.2.1 true, .box [.p (pI x.2.2.2.2.2.2.2.2.2.2.1), .p (pI x.2.2.2.2.2.2.2.2.2.2.2.1)], .box [.p (.sl 3 x.2.2.2.2.2.2.2.2.2.2.2.2.1 x.2.2.2.2.2.2.2.2.2.2.2.2.2.1), .p (pI x.2.2.2.2.2.2.2.2.2.2.2.2.2.2.1), .p (pI x.2.2.2.2.2.2.2.2.2.2.2.2.2.2.2.1)], .vec 1 x.2.2.2.2.2.2.2.2.2.2.2.2.2.2.2.2.1 true, .vec 3 x.2.2.2.2.2.2.2.2.2.2.2.2.2.2.2.2.2 true]⟩
  | (.inr x) => ⟨mkS 82 [(3, I x.1), (4, .w (.one (.ptr 1 0 0))), (5, .w (.one (.ptr 2 0 0))), (11, .w (.one (.ref 3 x.2.1 x.2.2.1))), (14, .w (.one (.ref 4 x.2.2.2.1 x.2.2.2.2.1))), (61, .w (.one (.ref 0 x.2.2.2.2.2.1 x.2.2.2.2.2.2.1))), (62, I x.2.2.2.2.2.2.2.1), (63, I x.2.2.2.2.2.2.2.2.1)], [.vec 1 x.2.2.2.2.2.2.2.2.2.1 true, .box [.p (pI x.2.2.2.2.2.2.2.2.2.2.1), .p (pI x.2.2.2.2.2.2.2.2.2.2.2.1)], .box [.p (.sl 3 x.2.2.2.2.2.2.2.2.2.2.2.2.1 x.2.2.2.2.2.2.2.2.2.2.2.2.2.1), .p (pI x.2.2.2.2.2.2.2.2.2.2.2.2.2.2.1), .p (pI x.2.2.2.2.2.2.2.2.2.2.2.2.2.2.2.1)], .vec 1 x.2.2.2.2.2.2.2.2.2.2.2.2.2.2.2.2.1 false, .vec 3 x.2.2.2.2.2.2.2.2.2.2.2.2.2.2.2.2.2 true]⟩
set_option maxRecDepth 100000 in
theorem f26_p32e0 (n_90 : Int) (i_91 : Nat) (n_92 : Nat) (i_93 : Nat) (n_94 : Nat) (i_95 : Nat) (n_96 : Nat) (n_97 : Int) (n_98 : Int) (es_99 : List (List PC)) (n_100 : Int) (n_101 : Int) (es_102 : List (List PC)) (full_103 : Bool) (n_104 : Int) (n_105 : Int) (es_106 : List (List PC)) (es_107 : List (List PC)) (N : St → Prop) (K : TExit → St → Prop) : (f26_p32b0 n_90 i_91 n_92 i_93 n_94 i_95 n_96 n_97 n_98 es_99 n_100 n_101 es_102 full_103 n_104 n_105 es_106 es_107 (fun z0 z1 z2 z3 z4 z5 z6 z7 z8 z9 z10 z11 z12 z13 z14 z15 z16 z17 => N (f26_p32_mk (.inl (z0, z1, z2, z3, z4, z5, z6, z7, z8, z9, z10, z11, z12, z13, z14, z15, z16, z17)))) (fun z0 z1 z2 z3 z4 z5 z6 z7 z8 z9 z10 z11 z12 z13 z14 z15 z16 z17 => N (f26_p32_mk (.inr (z0, z1, z2, z3, z4, z5, z6, z7, z8, z9, z10, z11, z12, z13, z14, z15, z16, z17)))) (fun i0_108 n0_109 es0_110 es0_111 => K (.exit 2) ⟨mkS 82 [(14, .w (.one (.ref 1 i0_108 n0_109)))], [.vec 1 es0_110 true, .vec 3 es0_111 true]⟩)) = execT f26_C (nthC (bodies (bodyOf Try.f26)) 1) (f26_p32_mk (.inl (n_90, i_91, n_92, i_93, n_94, i_95, n_96, n_97, n_98, es_99, n_100, n_101, es_102, full_103, n_104, n_105, es_106, es_107))) (loopK N (normK f26_C 32) fun e s => K e (normOut f26_C 32 e s)) := by kernel_rfl
set_option maxRecDepth 100000 in
theorem f26_p32e1 (n_112 : Int) (i_113 : Nat) (n_114 : Nat) (i_115 : Nat) (n_116 : Nat) (i_117 : Nat) (n_118 : Nat) (n_119 : Int) (n_120 : Int) (es_121 : List (List PC)) (n_122 : Int) (n_123 : Int) (es_124 : List (List PC)) (full_125 : Bool) (n_126 : Int) (n_127 : Int) (es_128 : List (List PC)) (es_129 : List (List PC)) (N : St → Prop) (K : TExit → St → Prop) : (f26_p32b1 n_112 i_113 n_114 i_115 n_116 i_117 n_118 n_119 n_120 es_121 n_122 n_123 es_124 full_125 n_126 n_127 es_128 es_129 (fun z0 z1 z2 z3 z4 z5 z6 z7 z8 z9 z10 z11 z12 z13 z14 z15 z16 z17 => N (f26_p32_mk (.inl (z0, z1, z2, z3, z4, z5, z6, z7, z8, z9, z10, z11, z12, z13, z14, z15, z16, z17)))) (fun z0 z1 z2 z3 z4 z5 z6 z7 z8 z9 z10 z11 z12 z13 z14 z15 z16 z17 => N (f26_p32_mk (.inr (z0, z1, z2, z3, z4, z5, z6, z7, z8, z9, z10, z11, z12, z13, z14, z15, z16, z17)))) (fun i0_130 n0_131 es0_132 es0_133 => K (.exit 2) ⟨mkS 82 [(14, .w (.one (.ref 1 i0_130 n0_131)))], [.vec 1 es0_132 true, .vec 3 es0_133 true]⟩)) = execT f26_C (nthC (bodies (bodyOf Try.f26)) 1) (f26_p32_mk (.inr (n_112, i_113, n_114, i_115, n_116, i_117, n_118, n_119, n_120, es_121, n_122, n_123, es_124, full_125, n_126, n_127, es_128, es_129))) (loopK N (normK f26_C 32) fun e s => K e (normOut f26_C 32 e s)) := by kernel_rfl
set_option maxRecDepth 100000 in
theorem f26_p17e0 (i_134 : Nat) (n_135 : Nat) (n_136 : Int) (es_137 : List (List PC)) (n_138 : Int) (n_139 : Int) (es_140 : List (List PC)) (full_141 : Bool) (n_142 : Int) (n_143 : Int) (K : TExit → St → Prop) : (f26_p17 i_134 n_135 n_136 es_137 n_138 n_139 es_140 full_141 n_142 n_143 (fun i0_144 n0_145 n0_146 es0_147 es0_148 => K .ret ⟨mkS 82 [(8, .w (.one (.ref 1 i0_144 n0_145))), (9, I n0_146)], [.vec 1 es0_147 true, .vec 3 es0_148 true]⟩)) = execT f26_C (nthC (tails (bodyOf Try.f26)) 8) ⟨mkS 82 [(2, .w (.one (.ref 0 i_134 n_135))), (3, I n_136), (4, .w (.one (.ptr 1 0 0))), (5, .w (.one (.ptr 2 0 0)))], [.vec 1 es_137 true, .box [.p (pI n_138), .p (pI n_139)], .box [.p (.sl 3 es_140 full_141), .p (pI n_142), .p (pI n_143)]]⟩ (fun e s => K e (normOut f26_C 17 e s)) := by kernel_rfl
set_option maxHeartbeats 4000000 in
theorem f26_p20_ok : LoopOk f26_C (nthC (bodies (bodyOf Try.f26)) 0) := by
  refine LoopOk.of f26_p20L (by kernel_rfl) fun σ K h => ?_
  have hk : loopKey (nthC (bodies (bodyOf Try.f26)) 0) = 20 := by kernel_rfl
  rw [hk] at h ⊢
  generalize hs : normK f26_C 20 σ = s at h
  obtain ⟨tm, hp⟩ := s
  unfold f26_p20L at h
  dsimp only at h
  obtain ⟨xx, yy, rfl, rfl, h⟩ := getS_elim h
  refine iter_of (f26_p20_mk xx.2.1.1 xx.2.1.2 xx.2.2.1 xx.2.2.2.2.2.2.1.1 xx.2.2.2.2.2.2.1.2 xx.2.2.2.2.2.2.2.2.1.1 xx.2.2.2.2.2.2.2.2.1.2 xx.2.2.2.2.2.2.2.2.2.1 yy.1 yy.2.1.1 yy.2.1.2.1 yy.2.2.1.1.1 yy.2.2.1.1.2 yy.2.2.1.2.1 yy.2.2.1.2.2.1) (fun x N h => ?_) rounds _ σ (hs.trans (by kernel_rfl)) (LoopP.run h)
  obtain ⟨y0, y1⟩ := x
  rw [← f26_p20e0 xx.2.1.1 xx.2.1.2 xx.2.2.1 xx.2.2.2.2.2.2.1.1 xx.2.2.2.2.2.2.1.2 xx.2.2.2.2.2.2.2.2.1.1 xx.2.2.2.2.2.2.2.2.1.2 xx.2.2.2.2.2.2.2.2.2.1 y0 yy.1 yy.2.1.1 yy.2.1.2.1 yy.2.2.1.1.1 yy.2.2.1.1.2 yy.2.2.1.2.1 yy.2.2.1.2.2.1 y1 N K]
  exact h
set_option maxHeartbeats 4000000 in
theorem f26_p32_ok : LoopOk f26_C (nthC (bodies (bodyOf Try.f26)) 1) := by
  refine LoopOk.of f26_p32L (by kernel_rfl) fun σ K h => ?_
  have hk : loopKey (nthC (bodies (bodyOf Try.f26)) 1) = 32 := by kernel_rfl
  rw [hk] at h ⊢
  generalize hs : normK f26_C 32 σ = s at h
  obtain ⟨tm, hp⟩ := s
  unfold f26_p32L at h
  dsimp only at h
  cases hb0 : isSig (sigOf tm hp) [0, 0, 0, 2, 201, 202, 0, 0, 0, 0, 0, 103, 0, 0, 104, 0, 0, 0, 0, 0, 0, 0, 0, 0, 0, 0, 0, 0, 0, 0, 0, 0, 0, 0, 0, 0, 0, 0, 0, 0, 0, 0, 0, 0, 0, 0, 0, 0, 0, 0, 0, 0, 0, 0, 0, 0, 0, 0, 0, 0, 0, 100, 2, 2, 0, 0, 0, 0, 0, 0, 0, 0, 0, 0, 0, 0, 0, 0, 0, 0, 0, 0, 7, 22, 20, 2, 2, 20, 5, 2, 2, 22, 22] with
  | true =>
    rw [hb0] at h
    clear hb0
    simp only [cond_true] at h
    obtain ⟨xx, yy, rfl, rfl, h⟩ := getS_elim h
    refine iter_of (f26_p32_mk) (fun x N h => ?_) rounds _ σ (hs.trans (by kernel_rfl)) (LoopP.run h)
    rcases x with x | x
    · obtain ⟨y0, y1, y2, y3, y4, y5, y6, y7, y8, y9, y10, y11, y12, y13, y14, y15, y16, y17⟩ := x
      rw [← f26_p32e0 y0 y1 y2 y3 y4 y5 y6 y7 y8 y9 y10 y11 y12 y13 y14 y15 y16 y17 N K]
      exact h
    · obtain ⟨y0, y1, y2, y3, y4, y5, y6, y7, y8, y9, y10, y11, y12, y13, y14, y15, y16, y17⟩ := x
      rw [← f26_p32e1 y0 y1 y2 y3 y4 y5 y6 y7 y8 y9 y10 y11 y12 y13 y14 y15 y16 y17 N K]
      exact h
  | false =>
  rw [hb0] at h
  simp only [cond_false] at h
  clear hb0
  obtain ⟨xx, yy, rfl, rfl, h⟩ := getS_elim h
  refine iter_of (f26_p32_mk) (fun x N h => ?_) rounds _ σ (hs.trans (by kernel_rfl)) (LoopP.run h)
  rcases x with x | x
  · obtain ⟨y0, y1, y2, y3, y4, y5, y6, y7, y8, y9, y10, y11, y12, y13, y14, y15, y16, y17⟩ := x
    rw [← f26_p32e0 y0 y1 y2 y3 y4 y5 y6 y7 y8 y9 y10 y11 y12 y13 y14 y15 y16 y17 N K]
    exact h
  · obtain ⟨y0, y1, y2, y3, y4, y5, y6, y7, y8, y9, y10, y11, y12, y13, y14, y15, y16, y17⟩ := x
    rw [← f26_p32e1 y0 y1 y2 y3 y4 y5 y6 y7 y8 y9 y10 y11 y12 y13 y14 y15 y16 y17 N K]
    exact h
set_option maxHeartbeats 4000000 in
theorem f26_p17_ok : TailOk f26_C (nthC (tails (bodyOf Try.f26)) 8) := by
  refine TailOk.of f26_p17L (by kernel_rfl) fun σ K h => ?_
  have hk : joinKey (nthC (tails (bodyOf Try.f26)) 8) = 17 := by kernel_rfl
  rw [hk] at h ⊢
  generalize hs : normK f26_C 17 σ = s at h
  obtain ⟨tm, hp⟩ := s
  unfold f26_p17L at h
  dsimp only at h
  obtain ⟨xx, yy, rfl, rfl, h⟩ := getS_elim h
  have q : normK f26_C 17 σ = (⟨mkS 82 [(2, .w (.one (.ref 0 xx.2.1.1 xx.2.1.2))), (3, I xx.2.2.1), (4, .w (.one (.ptr 1 0 0))), (5, .w (.one (.ptr 2 0 0)))], [.vec 1 yy.1 true, .box [.p (pI yy.2.1.1), .p (pI yy.2.1.2.1)], .box [.p (.sl 3 yy.2.2.1.1.1 yy.2.2.1.1.2), .p (pI yy.2.2.1.2.1), .p (pI yy.2.2.1.2.2.1)]]⟩ : St) := hs.trans (by kernel_rfl)
  rw [← hs, q, ← f26_p17e0 xx.2.1.1 xx.2.1.2 xx.2.2.1 yy.1 yy.2.1.1 yy.2.1.2.1 yy.2.2.1.1.1 yy.2.2.1.1.2 yy.2.2.1.2.1 yy.2.2.1.2.2.1 K]
  exact h
noncomputable def f26_G0 : List TV → List Entry → (TV → List Entry → Prop) → Prop := fun tm hp K => getS [.v (.pagg [.int .i64, .int .i64]), .v (.pagg [.sl 3, .int .i64, .int .i64]), .v (.one (.ref 0)), .v (.one (.int .i64))] [.vec 1 true] tm hp fun (xx : ((Int × (Int × Unit)) × (((List (List PC) × Bool) × (Int × (Int × Unit))) × ((Nat × Nat) × (Int × Unit))))) (yy : ((List (List PC)) × Unit)) => f26 xx.1.1 xx.1.2.1 xx.2.1.1.1 xx.2.1.1.2 xx.2.1.2.1 xx.2.1.2.2.1 xx.2.2.1.1 xx.2.2.1.2 xx.2.2.2.1 yy.1 (fun i0_14 n0_15 n0_16 es0_17 es0_18 => K (.tup [.one (.ref 1 i0_14 n0_15), .one (.p (pI n0_16))]) [.vec 1 es0_17 true, .vec 3 es0_18 true])
set_option maxRecDepth 100000 in
theorem f26_eq (n_149 : Int) (n_150 : Int) (es_151 : List (List PC)) (full_152 : Bool) (n_153 : Int) (n_154 : Int) (i_155 : Nat) (n_156 : Nat) (n_157 : Int) (es_158 : List (List PC)) (K : TV → List Entry → Prop) : (f26_d n_149 n_150 es_151 full_152 n_153 n_154 i_155 n_156 n_157 es_158 (fun i0_14 n0_15 n0_16 es0_17 es0_18 => K (.tup [.one (.ref 1 i0_14 n0_15), .one (.p (pI n0_16))]) [.vec 1 es0_17 true, .vec 3 es0_18 true])) = funcT f26_C Try.f26 [.w (.pagg [pI n_149, pI n_150]), .w (.pagg [.sl 3 es_151 full_152, pI n_153, pI n_154]), .w (.one (.ref 0 i_155 n_156)), I n_157] [.vec 1 es_158 true] K := by kernel_rfl
set_option maxHeartbeats 4000000 in
theorem f26_ok0 : FnOk Try.prog glob 26 f26_G0 := by
  refine FnOk.of_text (C := f26_C) tab_ok.ok (Known.add f42_G_ok (Known.add f41_G_ok (Known.add f14_G_ok (Known.none)))) follows_ok (fn := Try.f26) (by kernel_rfl) (by kernel_rfl) (by kernel_rfl) (fun c hc => ?_) fun tm hp K h => ?_
  · have e : c = bodyOf Try.f26 := Option.some.inj (hc.symm.trans (by kernel_rfl))
    subst e
    exact ⟨LoopsOk.of [nthC (bodies (bodyOf Try.f26)) 0, nthC (bodies (bodyOf Try.f26)) 1] (by kernel_rfl) ⟨f26_p20_ok, f26_p32_ok, trivial⟩, TailsOk.of (tab := f26_tab) rfl [nthC (tails (bodyOf Try.f26)) 8] (by kernel_rfl) ⟨f26_p17_ok, trivial⟩⟩
  · unfold f26_G0 at h
    obtain ⟨xx, yy, rfl, rfl, h⟩ := getS_elim h
    have e := (f26_eq xx.1.1 xx.1.2.1 xx.2.1.1.1 xx.2.1.1.2 xx.2.1.2.1 xx.2.1.2.2.1 xx.2.2.1.1 xx.2.2.1.2 xx.2.2.2.1 yy.1 K).trans (show _ = funcT f26_C Try.f26 (mkR _ xx) (mkE _ yy) K by kernel_rfl)
    rw [← e]
    exact h.run
noncomputable abbrev f26_G := f26_G0
theorem f26_G_ok : FnOk Try.prog glob 26 f26_G := f26_ok0
end Go.Eng.N
set_option linter.unusedVariables false
set_option maxRecDepth 100000
open Go Go.Eng Go.Proofs
namespace Go.Eng.N
/-! ### f26_1: plenum/leadlag.Play -/
noncomputable def f26_1_p20b0 (es21 : List (List PC)) (full22 : Bool) (n23 : Int) (i24 : Nat) (n25 : Nat) (es26 : List (List PC)) (full27 : Bool) (n28 : Int) (n29 : Int) (n30 : Int) (n31 : Int) (es32 : List (List PC)) (full33 : Bool) (n34 : Int) (n35 : Int) (es36 : List (List PC)) (N0 : Int → (List (List PC)) → Prop) (k0 : (List (List PC)) → Prop) : Prop := bB (decide (n29 < n28)) ((0 ≤ n29 ∧ n29 < ((es26.length : Nat) : Int)) ∧ cI .i64 (ext (List.getD es26 (Int.toNat n29) []) 0 3) fun n38 r37 => cB r37 fun b40 r39 => cB r39 fun b42 r41 => nilC r41 <| (0 ≤ n29 ∧ n29 < ((n25 : Nat) : Int)) ∧ (i24 + (Int.toNat n29)) < es36.length ∧ N0 (w64 (n29 + 1)) (List.set es36 (i24 + (Int.toNat n29)) (splice (List.getD es36 (i24 + (Int.toNat n29)) []) 0 [pB b42]))) (k0 es36)
noncomputable def f26_1_p20 (es21 : List (List PC)) (full22 : Bool) (n23 : Int) (i24 : Nat) (n25 : Nat) (es26 : List (List PC)) (full27 : Bool) (n28 : Int) (n30 : Int) (n31 : Int) (es32 : List (List PC)) (full33 : Bool) (n34 : Int) (n35 : Int) (k0 : (List (List PC)) → Prop) : Int × (List (List PC)) → Prop := LoopP fun x N => f26_1_p20b0 es21 full22 n23 i24 n25 es26 full27 n28 x.1 n30 n31 es32 full33 n34 n35 x.2 (fun n29 es36 => N (n29, es36)) k0
noncomputable def f26_1_p32b0 (n44 : Int) (i45 : Nat) (n46 : Nat) (i47 : Nat) (n48 : Nat) (es49 : List (List PC)) (full50 : Bool) (n51 : Int) (n52 : Int) (n53 : Int) (n54 : Int) (es55 : List (List PC)) (full56 : Bool) (n57 : Int) (n58 : Int) (es59 : List (List PC)) (es60 : List (List PC)) (N0 : Int → Nat → Nat → Nat → Nat → (List (List PC)) → Bool → Int → Int → Int → Int → (List (List PC)) → Bool → Int → Int → (List (List PC)) → (List (List PC)) → Prop) (N1 : Int → Nat → Nat → Nat → Nat → (List (List PC)) → Bool → Int → Int → Int → Int → (List (List PC)) → Bool → Int → Int → (List (List PC)) → (List (List PC)) → Prop) (k0 : Nat → Nat → (List (List PC)) → Prop) : Prop := bB (decide (n52 < n51)) ((0 ≤ n52 ∧ n52 < ((es49.length : Nat) : Int)) ∧ oI .i64 (ext (List.getD es49 (Int.toNat n52) []) 0 1) fun n61 => f42 n53 n54 es55 full56 n57 n58 n61 (List.take n46 (List.drop i45 es59)) false (w64 (n44 + n52)) (fun es62 full63 n64 n65 => (i47 + n48) ≤ es60.length ∧ (n48 + 1) * 40 ≤ 2 ^ 46 ∧ (n48 + 1) ≤ 2 ^ 46 ∧ N1 n44 i45 n46 0 (n48 + 1) es49 full50 n51 (w64 (n52 + 1)) n53 n54 es62 full63 n64 n65 es59 ((List.take n48 (List.drop i47 es60)) ++ [[.sl 3 es62 full63, pI n64, pI n65]]))) (k0 i47 n48 es60)
noncomputable def f26_1_p32b1 (n66 : Int) (i67 : Nat) (n68 : Nat) (i69 : Nat) (n70 : Nat) (es71 : List (List PC)) (full72 : Bool) (n73 : Int) (n74 : Int) (n75 : Int) (n76 : Int) (es77 : List (List PC)) (full78 : Bool) (n79 : Int) (n80 : Int) (es81 : List (List PC)) (es82 : List (List PC)) (N0 : Int → Nat → Nat → Nat → Nat → (List (List PC)) → Bool → Int → Int → Int → Int → (List (List PC)) → Bool → Int → Int → (List (List PC)) → (List (List PC)) → Prop) (N1 : Int → Nat → Nat → Nat → Nat → (List (List PC)) → Bool → Int → Int → Int → Int → (List (List PC)) → Bool → Int → Int → (List (List PC)) → (List (List PC)) → Prop) (k0 : Nat → Nat → (List (List PC)) → Prop) : Prop := bB (decide (n74 < n73)) ((0 ≤ n74 ∧ n74 < ((es71.length : Nat) : Int)) ∧ oI .i64 (ext (List.getD es71 (Int.toNat n74) []) 0 1) fun n83 => f42 n75 n76 es77 full78 n79 n80 n83 (List.take n68 (List.drop i67 es81)) false (w64 (n66 + n74)) (fun es84 full85 n86 n87 => (i69 + n70) ≤ es82.length ∧ (n70 + 1) * 40 ≤ 2 ^ 46 ∧ (n70 + 1) ≤ 2 ^ 46 ∧ N1 n66 i67 n68 0 (n70 + 1) es71 full72 n73 (w64 (n74 + 1)) n75 n76 es84 full85 n86 n87 es81 ((List.take n70 (List.drop i69 es82)) ++ [[.sl 3 es84 full85, pI n86, pI n87]]))) (k0 i69 n70 es82)
noncomputable def f26_1_p32 (k0 : Nat → Nat → (List (List PC)) → Prop) : (Int × Nat × Nat × Nat × Nat × (List (List PC)) × Bool × Int × Int × Int × Int × (List (List PC)) × Bool × Int × Int × (List (List PC)) × (List (List PC))) ⊕ (Int × Nat × Nat × Nat × Nat × (List (List PC)) × Bool × Int × Int × Int × Int × (List (List PC)) × Bool × Int × Int × (List (List PC)) × (List (List PC))) → Prop := LoopP fun x N => match x with
  | (.inl x) => f26_1_p32b0 x.1 x.2.1 x.2.2.1 x.2.2.2.1 x.2.2.2.2.1 x.2.2.2.2.2.1 x.2.2.2.2.2.2.1 x.2.2.2.2.2.2.2.1 x.2.2.2.2.2.2.2.2.1 x.2.2.2.2.2.2.2.2.2.1 x.2.2.2.2.2.2.2.2.2.2.1 x.2.2.2.2.2.2.2.2.2.2.2.1 x.2.2.2.2.2.2.2.2.2.2.2.2.1 x.2.2.2.2.2.2.2.2.2.2.2.2.2.1 x.2.2.2.2.2.2.2.2.2.2.2.2.2.2.1 x.2.2.2.2.2.2.2.2.2.2.2.2.2.2.2.1 x.2.2.2.2.2.2.2.2.2.2.2.2.2.2.2.2 (fun n44 i45 n46 i47 n48 es49 full50 n51 n52 n53 n54 es55 full56 n57 n58 es59 es60 => N (.inl (n44, i45, n46, i47, n48, es49, full50, n51, n52, n53, n54, es55, full56, n57, n58, es59, es60))) (fun n66 i67 n68 i69 n70 es71 full72 n73 n74 n75 n76 es77 full78 n79 n80 es81 es82 => N (.inr (n66, i67, n68, i69, n70, es71, full72, n73, n74, n75, n76, es77, full78, n79, n80, es81, es82))) k0
  | (.inr x) => f26_1_p32b1 x.1 x.2.1 x.2.2.1 x.2.2.2.1 x.2.2.2.2.1 x.2.2.2.2.2.1 x.2.2.2.2.2.2.1 x.2.2.2.2.2.2.2.1 x.2.2.2.2.2.2.2.2.1 x.2.2.2.2.2.2.2.2.2.1 x.2.2.2.2.2.2.2.2.2.2.1 x.2.2.2.2.2.2.2.2.2.2.2.1 x.2.2.2.2.2.2.2.2.2.2.2.2.1 x.2.2.2.2.2.2.2.2.2.2.2.2.2.1 x.2.2.2.2.2.2.2.2.2.2.2.2.2.2.1 x.2.2.2.2.2.2.2.2.2.2.2.2.2.2.2.1 x.2.2.2.2.2.2.2.2.2.2.2.2.2.2.2.2 (fun n44 i45 n46 i47 n48 es49 full50 n51 n52 n53 n54 es55 full56 n57 n58 es59 es60 => N (.inl (n44, i45, n46, i47, n48, es49, full50, n51, n52, n53, n54, es55, full56, n57, n58, es59, es60))) (fun n66 i67 n68 i69 n70 es71 full72 n73 n74 n75 n76 es77 full78 n79 n80 es81 es82 => N (.inr (n66, i67, n68, i69, n70, es71, full72, n73, n74, n75, n76, es77, full78, n79, n80, es81, es82))) k0
noncomputable def f26_1_p17 (es12 : List (List PC)) (full13 : Bool) (n14 : Int) (n15 : Int) (n16 : Int) (es17 : List (List PC)) (full18 : Bool) (n19 : Int) (n20 : Int) (k0 : Nat → Nat → Int → (List (List PC)) → Prop) : Prop := (0 ≤ ((es17.length : Nat) : Int) ∧ ((es17.length : Nat) : Int) ≤ ((es17.length : Nat) : Int) ∧ ((es17.length : Nat) : Int) * 1 ≤ 2 ^ 46 ∧ ((es17.length : Nat) : Int) ≤ 2 ^ 46) ∧ f26_1_p20 es12 full13 n14 0 (Int.toNat ((es17.length : Nat) : Int)) es17 full18 ((es17.length : Nat) : Int) n15 n16 es17 full18 n19 n20 (fun es43 => f26_1_p32 (fun i88 n89 es90 => k0 i88 n89 0 es90) (.inl (n14, 0, (Int.toNat ((es17.length : Nat) : Int)), 0, 0, es12, full13, ((es12.length : Nat) : Int), 0, n15, n16, es17, full18, n19, n20, es43, []))) (0, (List.replicate (Int.toNat ((es17.length : Nat) : Int)) [pB false]))
noncomputable def f26_1_d (n1 : Int) (n2 : Int) (es3 : List (List PC)) (full4 : Bool) (n5 : Int) (n6 : Int) (es7 : List (List PC)) (full8 : Bool) (n9 : Int) (k0 : Nat → Nat → Int → (List (List PC)) → Prop) : Prop := f14 n1 n2 es3 full4 n5 n6 (fun n10 => bB (n10 != 0) (k0 0 0 n10 []) (bB (decide (((es7.length : Nat) : Int) > 10000)) (k0 0 0 7 []) (bB (decide (((es7.length : Nat) : Int) > 0)) (f41 es3 full4 n5 n6 n9 (fun b11 => bB (!b11) (k0 0 0 6 []) (bB (decide ((w64 ((w64 (n9 + ((es7.length : Nat) : Int))) - 1)) > 6311433599)) (k0 0 0 6 []) (f26_1_p17 es7 full8 n9 n1 n2 es3 full4 n5 n6 (fun i91 n92 n93 es94 => k0 i91 n92 n93 es94))))) (f26_1_p17 es7 full8 n9 n1 n2 es3 full4 n5 n6 (fun i95 n96 n97 es98 => k0 i95 n96 n97 es98)))))
structure f26_1 (n1 : Int) (n2 : Int) (es3 : List (List PC)) (full4 : Bool) (n5 : Int) (n6 : Int) (es7 : List (List PC)) (full8 : Bool) (n9 : Int) (k0 : Nat → Nat → Int → (List (List PC)) → Prop) : Prop where
  run : f26_1_d n1 n2 es3 full4 n5 n6 es7 full8 n9 k0
noncomputable def f26_1_p20L : Told := fun s K => match s with
  | ⟨tm, hp⟩ => getS [.skip 2, .v (.one (.sl 1)), .v (.one (.int .i64)), .v (.one (.ptr 0 0 0)), .v (.one (.ptr 1 0 0)), .skip 5, .v (.one (.ref 2)), .skip 36, .v (.one (.sl 3)), .v (.one (.int .i64)), .v (.one (.int .i64)), .skip 31] [.box [.int .i64, .int .i64], .box [.sl 3, .int .i64, .int .i64], .vec 1 true] tm hp fun (xx : (Unit × ((List (List PC) × Bool) × (Int × (Unit × (Unit × (Unit × ((Nat × Nat) × (Unit × ((List (List PC) × Bool) × (Int × (Int × (Unit × Unit))))))))))))) (yy : ((Int × (Int × Unit)) × (((List (List PC) × Bool) × (Int × (Int × Unit))) × ((List (List PC)) × Unit)))) => f26_1_p20 xx.2.1.1 xx.2.1.2 xx.2.2.1 xx.2.2.2.2.2.2.1.1 xx.2.2.2.2.2.2.1.2 xx.2.2.2.2.2.2.2.2.1.1 xx.2.2.2.2.2.2.2.2.1.2 xx.2.2.2.2.2.2.2.2.2.1 yy.1.1 yy.1.2.1 yy.2.1.1.1 yy.2.1.1.2 yy.2.1.2.1 yy.2.1.2.2.1 (fun es0_0 => K (.exit 0) ⟨mkS 82 [(2, .w (.one (.p (.sl 1 xx.2.1.1 xx.2.1.2)))), (3, I xx.2.2.1), (4, .w (.one (.ptr 0 0 0))), (5, .w (.one (.ptr 1 0 0))), (11, .w (.one (.ref 2 xx.2.2.2.2.2.2.1.1 xx.2.2.2.2.2.2.1.2)))], [.box [.p (pI yy.1.1), .p (pI yy.1.2.1)], .box [.p (.sl 3 yy.2.1.1.1 yy.2.1.1.2), .p (pI yy.2.1.2.1), .p (pI yy.2.1.2.2.1)], .vec 1 es0_0 true]⟩) (xx.2.2.2.2.2.2.2.2.2.2.1, yy.2.2.1)
noncomputable def f26_1_p32L : Told := fun s K => match s with
  | ⟨tm, hp⟩ => bif isSig (sigOf tm hp) [0, 0, 0, 2, 200, 201, 0, 0, 0, 0, 0, 102, 0, 0, 103, 0, 0, 0, 0, 0, 0, 0, 0, 0, 0, 0, 0, 0, 0, 0, 0, 0, 0, 0, 0, 0, 0, 0, 0, 0, 0, 0, 0, 0, 0, 0, 0, 0, 0, 0, 0, 0, 0, 0, 0, 0, 0, 0, 0, 0, 0, 5, 2, 2, 0, 0, 0, 0, 0, 0, 0, 0, 0, 0, 0, 0, 0, 0, 0, 0, 0, 0, 7, 20, 2, 2, 20, 5, 2, 2, 22, 22] then (getS [.skip 3, .v (.one (.int .i64)), .v (.one (.ptr 0 0 0)), .v (.one (.ptr 1 0 0)), .skip 5, .v (.one (.ref 2)), .skip 2, .v (.one (.ref 3)), .skip 46, .v (.one (.sl 1)), .v (.one (.int .i64)), .v (.one (.int .i64)), .skip 18] [.box [.int .i64, .int .i64], .box [.sl 3, .int .i64, .int .i64], .vec 1 true, .vec 3 true] tm hp fun (xx : (Unit × (Int × (Unit × (Unit × (Unit × ((Nat × Nat) × (Unit × ((Nat × Nat) × (Unit × ((List (List PC) × Bool) × (Int × (Int × (Unit × Unit)))))))))))))) (yy : ((Int × (Int × Unit)) × (((List (List PC) × Bool) × (Int × (Int × Unit))) × ((List (List PC)) × ((List (List PC)) × Unit))))) => f26_1_p32 (fun i0_1 n0_2 es0_3 => K (.exit 2) ⟨mkS 82 [(14, .w (.one (.ref 0 i0_1 n0_2)))], [.vec 3 es0_3 true]⟩) (.inl (xx.2.1, xx.2.2.2.2.2.1.1, xx.2.2.2.2.2.1.2, xx.2.2.2.2.2.2.2.1.1, xx.2.2.2.2.2.2.2.1.2, xx.2.2.2.2.2.2.2.2.2.1.1, xx.2.2.2.2.2.2.2.2.2.1.2, xx.2.2.2.2.2.2.2.2.2.2.1, xx.2.2.2.2.2.2.2.2.2.2.2.1, yy.1.1, yy.1.2.1, yy.2.1.1.1, yy.2.1.1.2, yy.2.1.2.1, yy.2.1.2.2.1, yy.2.2.1, yy.2.2.2.1))) else (getS [.skip 3, .v (.one (.int .i64)), .v (.one (.ptr 0 0 0)), .v (.one (.ptr 1 0 0)), .skip 5, .v (.one (.ref 2)), .skip 2, .v (.one (.ref 3)), .skip 46, .v (.one (.sl 1)), .v (.one (.int .i64)), .v (.one (.int .i64)), .skip 18] [.box [.int .i64, .int .i64], .box [.sl 3, .int .i64, .int .i64], .vec 1 false, .vec 3 true] tm hp fun (xx : (Unit × (Int × (Unit × (Unit × (Unit × ((Nat × Nat) × (Unit × ((Nat × Nat) × (Unit × ((List (List PC) × Bool) × (Int × (Int × (Unit × Unit)))))))))))))) (yy : ((Int × (Int × Unit)) × (((List (List PC) × Bool) × (Int × (Int × Unit))) × ((List (List PC)) × ((List (List PC)) × Unit))))) => f26_1_p32 (fun i0_4 n0_5 es0_6 => K (.exit 2) ⟨mkS 82 [(14, .w (.one (.ref 0 i0_4 n0_5)))], [.vec 3 es0_6 true]⟩) (.inr (xx.2.1, xx.2.2.2.2.2.1.1, xx.2.2.2.2.2.1.2, xx.2.2.2.2.2.2.2.1.1, xx.2.2.2.2.2.2.2.1.2, xx.2.2.2.2.2.2.2.2.2.1.1, xx.2.2.2.2.2.2.2.2.2.1.2, xx.2.2.2.2.2.2.2.2.2.2.1, xx.2.2.2.2.2.2.2.2.2.2.2.1, yy.1.1, yy.1.2.1, yy.2.1.1.1, yy.2.1.1.2, yy.2.1.2.1, yy.2.1.2.2.1, yy.2.2.1, yy.2.2.2.1)))
noncomputable def f26_1_p17L : Told := fun s K => match s with
  | ⟨tm, hp⟩ => getS [.skip 2, .v (.one (.sl 1)), .v (.one (.int .i64)), .v (.one (.ptr 0 0 0)), .v (.one (.ptr 1 0 0)), .skip 76] [.box [.int .i64, .int .i64], .box [.sl 3, .int .i64, .int .i64]] tm hp fun (xx : (Unit × ((List (List PC) × Bool) × (Int × (Unit × (Unit × (Unit × Unit))))))) (yy : ((Int × (Int × Unit)) × (((List (List PC) × Bool) × (Int × (Int × Unit))) × Unit))) => f26_1_p17 xx.2.1.1 xx.2.1.2 xx.2.2.1 yy.1.1 yy.1.2.1 yy.2.1.1.1 yy.2.1.1.2 yy.2.1.2.1 yy.2.1.2.2.1 (fun i0_7 n0_8 n0_9 es0_10 => K .ret ⟨mkS 82 [(8, .w (.one (.ref 0 i0_7 n0_8))), (9, I n0_9)], [.vec 3 es0_10 true]⟩)
noncomputable def f26_1_tab : List (Nat × Told) := [(20, f26_1_p20L), (32, f26_1_p32L), (17, f26_1_p17L)]
noncomputable def f26_1_call : FuncId → List TV → List Entry → (TV → List Entry → Prop) → Prop := addCall 42 f42_G (addCall 41 f41_G (addCall 14 f14_G (noCalls)))
noncomputable def f26_1_C : Ctx := { ty := tyOf tab, glob := glob, byRef := byRef, keep := fun k i => lookN [] (lookN [] ([(20, [(0, [2, 3, 4, 5, 11, 48, 49, 50]), (2, [8, 9]), (3, [2, 3, 4, 5, 11])]), (32, [(0, [3, 4, 5, 11, 14, 61, 62, 63]), (2, [8, 9]), (5, [14])]), (17, [(0, [2, 3, 4, 5]), (1, [8, 9]), (2, [8, 9])])] : List (Nat × List (Nat × List Nat))) k) i, late := lookN [] ([] : List (Nat × List Nat)), nref := lookN [] ([(32, [14])] : List (Nat × List Nat)), nbox := lookN [] ([] : List (Nat × List (Nat × Nat))), take := [], rnil := true, m := 0, fz := false, loops := lookL f26_1_tab, call := f26_1_call }
noncomputable def f26_1_p20_mk (es21 : List (List PC)) (full22 : Bool) (n23 : Int) (i24 : Nat) (n25 : Nat) (es26 : List (List PC)) (full27 : Bool) (n28 : Int) (n30 : Int) (n31 : Int) (es32 : List (List PC)) (full33 : Bool) (n34 : Int) (n35 : Int) (x : Int × (List (List PC))) : St := ⟨mkS 82 [(2, .w (.one (.p (.sl 1 es21 full22)))), (3, I n23), (4, .w (.one (.ptr 0 0 0))), (5, .w (.one (.ptr 1 0 0))), (11, .w (.one (.ref 2 i24 n25))), (48, .w (.one (.p (.sl 3 es26 full27)))), (49, I n28), (50, I x.1)], [.box [.p (pI n30), .p (pI n31)], .box [.p (.sl 3 es32 full33), .p (pI n34), .p (pI n35)], .vec 1 x.2 true]⟩
set_option maxRecDepth 100000 in
theorem f26_1_p20e0 (es_31 : List (List PC)) (full_32 : Bool) (n_33 : Int) (i_34 : Nat) (n_35 : Nat) (es_36 : List (List PC)) (full_37 : Bool) (n_38 : Int) (n_39 : Int) (n_40 : Int) (n_41 : Int) (es_42 : List (List PC)) (full_43 : Bool) (n_44 : Int) (n_45 : Int) (es_46 : List (List PC)) (N : St → Prop) (K : TExit → St → Prop) : (f26_1_p20b0 es_31 full_32 n_33 i_34 n_35 es_36 full_37 n_38 n_39 n_40 n_41 es_42 full_43 n_44 n_45 es_46 (fun z8 z15 => N (f26_1_p20_mk es_31 full_32 n_33 i_34 n_35 es_36 full_37 n_38 n_40 n_41 es_42 full_43 n_44 n_45 (z8, z15))) (fun es0_47 => K (.exit 0) ⟨mkS 82 [(2, .w (.one (.p (.sl 1 es_31 full_32)))), (3, I n_33), (4, .w (.one (.ptr 0 0 0))), (5, .w (.one (.ptr 1 0 0))), (11, .w (.one (.ref 2 i_34 n_35)))], [.box [.p (pI n_40), .p (pI n_41)], .box [.p (.sl 3 es_42 full_43), .p (pI n_44), .p (pI n_45)], .vec 1 es0_47 true]⟩)) = execT f26_1_C (nthC (bodies (bodyOf Try.f26)) 0) (f26_1_p20_mk es_31 full_32 n_33 i_34 n_35 es_36 full_37 n_38 n_40 n_41 es_42 full_43 n_44 n_45 (n_39, es_46)) (loopK N (normK f26_1_C 20) fun e s => K e (normOut f26_1_C 20 e s)) := by kernel_rfl
noncomputable def f26_1_p32_mk (x : (Int × Nat × Nat × Nat × Nat × (List (List PC)) × Bool × Int × Int × Int × Int × (List (List PC)) × Bool × Int × Int × (List (List PC)) × (List (List PC))) ⊕ (Int × Nat × Nat × Nat × Nat × (List (List PC)) × Bool × Int × Int × Int × Int × (List (List PC)) × Bool × Int × Int × (List (List PC)) × (List (List PC)))) : St := match x with
  | (.inl x) => ⟨mkS 82 [(3, I x.1), (4, .w (.one (.ptr 0 0 0))), (5, .w (.one (.ptr 1 0 0))), (11, .w (.one (.ref 2 x.2.1 x.2.2.1))), (14, .w (.one (.ref 3 x.2.2.2.1 x.2.2.2.2.1))), (61, .w (.one (.p (.sl 1 x.2.2.2.2.2.1 x.2.2.2.2.2.2.1)))), (62, I x.2.2.2.2.2.2.2.1), (63, I x.2.2.2.2.2.2.2.2.1)], [.box [.p (pI x.2.2.2.2.2.2.2.2.2.1), .p (pI x.2.2.2.2.2.2.2.2.2.2.1)], .box [.p (.sl 3 x.2.2.2.2.2.2.2.2.2.2.2.1 x.2.2.2.2.2.2.2.2.2.2.2.2.1), .p (pI x.2.2.2.2.2.2.2.2.2.2.2.2.2.1), .p (pI x.2.2.2.2.2.2.2.2.2.2.2.2.2.2.1)], .vec 1 x.2.2.2.2.2.2.2.2.2.2.2.2.2.2.2.1 true, .vec 3 x.2.2.2.2.2.2.2.2.2.2.2.2.2.2.2.2 true]⟩
  | (.inr x) => ⟨mkS 82 [(3, I x.1), (4, .w (.one (.ptr 0 0 0))), (5, .w (.one (.ptr 1 0 0))), (11, .w (.one (.ref 2 x.2.1 x.2.2.1))), (14, .w (.one (.ref 3 x.2.2.2.1 x.2.2.2.2.1))), (61, .w (.one (.p (.sl 1 x.2.2.2.2.2.1 x.2.2.2.2.2.2.1)))), (62, I x.2.2.2.2.2.2.2.1), (63, I x.2.2.2.2.2.2.2.2.1)], [.box [.p (pI x.2.2.2.2.2.2.2.2.2.1), .p (pI x.2.2.2.2.2.2.2.2.2.2.1)], .box [.p (.sl 3 x.2.2.2.2.2.2.2.2.2.2.2.1 x.2.2.2.2.2.2.2.2.2.2.2.2.1), .p (pI x.2.2.2.2.2.2.2.2.2.2.2.2.2.1), .p (pI x.2.2.2.2.2.2.2.2.2.2.2.2.2.2.1)], .vec 1 x.2.2.2.2.2.2.2.2.2.2.2.2.2.2.2.1 false, .vec 3 x.2.2.2.2.2.2.2.2.2.2.2.2.2.2.2.2 true]⟩
set_option maxRecDepth 100000 in
theorem f26_1_p32e0 (n_82 : Int) (i_83 : Nat) (n_84 : Nat) (i_85 : Nat) (n_86 : Nat) (es_87 : List (List PC)) (full_88 : Bool) (n_89 : Int) (n_90 : Int) (n_91 : Int) (n_92 : Int) (es_93 : List (List PC)) (full_94 : Bool) (n_95 : Int) (n_96 : Int) (es_97 : List (List PC)) (es_98 : List (List PC)) (N : St → Prop) (K : TExit → St → Prop) : (f26_1_p32b0 n_82 i_83 n_84 i_85 n_86 es_87 full_88 n_89 n_90 n_91 n_92 es_93 full_94 n_95 n_96 es_97 es_98 (fun z0 z1 z2 z3 z4 z5 z6 z7 z8 z9 z10 z11 z12 z13 z14 z15 z16 => N (f26_1_p32_mk (.inl (z0, z1, z2, z3, z4, z5, z6, z7, z8, z9, z10, z11, z12, z13, z14, z15, z16)))) (fun z0 z1 z2 z3 z4 z5 z6 z7 z8 z9 z10 z11 z12 z13 z14 z15 z16 => N (f26_1_p32_mk (.inr (z0, z1, z2, z3, z4, z5, z6, z7, z8, z9, z10, z11, z12, z13, z14, z15, z16)))) (fun i0_99 n0_100 es0_101 => K (.exit 2) ⟨mkS 82 [(14, .w (.one (.ref 0 i0_99 n0_100)))], [.vec 3 es0_101 true]⟩)) = execT f26_1_C (nthC (bodies (bodyOf Try.f26)) 1) (f26_1_p32_mk (.inl (n_82, i_83, n_84, i_85, n_86, es_87, full_88, n_89, n_90, n_91, n_92, es_93, full_94, n_95, n_96, es_97, es_98))) (loopK N (normK f26_1_C 32) fun e s => K e (normOut f26_1_C 32 e s)) := by kernel_rfl
set_option maxRecDepth 100000 in
theorem f26_1_p32e1 (n_102 : Int) (i_103 : Nat) (n_104 : Nat) (i_105 : Nat) (n_106 : Nat) (es_107 : List (List PC)) (full_108 : Bool) (n_109 : Int) (n_110 : Int) (n_111 : Int) (n_112 : Int) (es_113 : List (List PC)) (full_114 : Bool) (n_115 : Int) (n_116 : Int) (es_117 : List (List PC)) (es_118 : List (List PC)) (N : St → Prop) (K : TExit → St → Prop) : (f26_1_p32b1 n_102 i_103 n_104 i_105 n_106 es_107 full_108 n_109 n_110 n_111 n_112 es_113 full_114 n_115 n_116 es_117 es_118 (fun z0 z1 z2 z3 z4 z5 z6 z7 z8 z9 z10 z11 z12 z13 z14 z15 z16 => N (f26_1_p32_mk (.inl (z0, z1, z2, z3, z4, z5, z6, z7, z8, z9, z10, z11, z12, z13, z14, z15, z16)))) (fun z0 z1 z2 z3 z4 z5 z6 z7 z8 z9 z10 z11 z12 z13 z14 z15 z16 => N (f26_1_p32_mk (.inr (z0, z1, z2, z3, z4, z5, z6, z7, z8, z9, z10, z11, z12, z13, z14, z15, z16)))) (fun i0_119 n0_120 es0_121 => K (.exit 2) ⟨mkS 82 [(14, .w (.one (.ref 0 i0_119 n0_120)))], [.vec 3 es0_121 true]⟩)) = execT f26_1_C (nthC (bodies (bodyOf Try.f26)) 1) (f26_1_p32_mk (.inr (n_102, i_103, n_104, i_105, n_106, es_107, full_108, n_109, n_110, n_111, n_112, es_113, full_114, n_115, n_116, es_117, es_118))) (loopK N (normK f26_1_C 32) fun e s => K e (normOut f26_1_C 32 e s)) := by kernel_rfl
set_option maxRecDepth 100000 in
theorem f26_1_p17e0 (es_122 : List (List PC)) (full_123 : Bool) (n_124 : Int) (n_125 : Int) (n_126 : Int) (es_127 : List (List PC)) (full_128 : Bool) (n_129 : Int) (n_130 : Int) (K : TExit → St → Prop) : (f26_1_p17 es_122 full_123 n_124 n_125 n_126 es_127 full_128 n_129 n_130 (fun i0_131 n0_132 n0_133 es0_134 => K .ret ⟨mkS 82 [(8, .w (.one (.ref 0 i0_131 n0_132))), (9, I n0_133)], [.vec 3 es0_134 true]⟩)) = execT f26_1_C (nthC (tails (bodyOf Try.f26)) 8) ⟨mkS 82 [(2, .w (.one (.p (.sl 1 es_122 full_123)))), (3, I n_124), (4, .w (.one (.ptr 0 0 0))), (5, .w (.one (.ptr 1 0 0)))], [.box [.p (pI n_125), .p (pI n_126)], .box [.p (.sl 3 es_127 full_128), .p (pI n_129), .p (pI n_130)]]⟩ (fun e s => K e (normOut f26_1_C 17 e s)) := by kernel_rfl
set_option maxHeartbeats 4000000 in
theorem f26_1_p20_ok : LoopOk f26_1_C (nthC (bodies (bodyOf Try.f26)) 0) := by
  refine LoopOk.of f26_1_p20L (by kernel_rfl) fun σ K h => ?_
  have hk : loopKey (nthC (bodies (bodyOf Try.f26)) 0) = 20 := by kernel_rfl
  rw [hk] at h ⊢
  generalize hs : normK f26_1_C 20 σ = s at h
  obtain ⟨tm, hp⟩ := s
  unfold f26_1_p20L at h
  dsimp only at h
  obtain ⟨xx, yy, rfl, rfl, h⟩ := getS_elim h
  refine iter_of (f26_1_p20_mk xx.2.1.1 xx.2.1.2 xx.2.2.1 xx.2.2.2.2.2.2.1.1 xx.2.2.2.2.2.2.1.2 xx.2.2.2.2.2.2.2.2.1.1 xx.2.2.2.2.2.2.2.2.1.2 xx.2.2.2.2.2.2.2.2.2.1 yy.1.1 yy.1.2.1 yy.2.1.1.1 yy.2.1.1.2 yy.2.1.2.1 yy.2.1.2.2.1) (fun x N h => ?_) rounds _ σ (hs.trans (by kernel_rfl)) (LoopP.run h)
  obtain ⟨y0, y1⟩ := x
  rw [← f26_1_p20e0 xx.2.1.1 xx.2.1.2 xx.2.2.1 xx.2.2.2.2.2.2.1.1 xx.2.2.2.2.2.2.1.2 xx.2.2.2.2.2.2.2.2.1.1 xx.2.2.2.2.2.2.2.2.1.2 xx.2.2.2.2.2.2.2.2.2.1 y0 yy.1.1 yy.1.2.1 yy.2.1.1.1 yy.2.1.1.2 yy.2.1.2.1 yy.2.1.2.2.1 y1 N K]
  exact h
set_option maxHeartbeats 4000000 in
theorem f26_1_p32_ok : LoopOk f26_1_C (nthC (bodies (bodyOf Try.f26)) 1) := by
  refine LoopOk.of f26_1_p32L (by kernel_rfl) fun σ K h => ?_
  have hk : loopKey (nthC (bodies (bodyOf Try.f26)) 1) = 32 := by kernel_rfl
  rw [hk] at h ⊢
  generalize hs : normK f26_1_C 32 σ = s at h
  obtain ⟨tm, hp⟩ := s
  unfold f26_1_p32L at h
  dsimp only at h
  cases hb0 : isSig (sigOf tm hp) [0, 0, 0, 2, 200, 201, 0, 0, 0, 0, 0, 102, 0, 0, 103, 0, 0, 0, 0, 0, 0, 0, 0, 0, 0, 0, 0, 0, 0, 0, 0, 0, 0, 0, 0, 0, 0, 0, 0, 0, 0, 0, 0, 0, 0, 0, 0, 0, 0, 0, 0, 0, 0, 0, 0, 0, 0, 0, 0, 0, 0, 5, 2, 2, 0, 0, 0, 0, 0, 0, 0, 0, 0, 0, 0, 0, 0, 0, 0, 0, 0, 0, 7, 20, 2, 2, 20, 5, 2, 2, 22, 22] with
  | true =>
    rw [hb0] at h
    clear hb0
    simp only [cond_true] at h
    obtain ⟨xx, yy, rfl, rfl, h⟩ := getS_elim h
    refine iter_of (f26_1_p32_mk) (fun x N h => ?_) rounds _ σ (hs.trans (by kernel_rfl)) (LoopP.run h)
    rcases x with x | x
    · obtain ⟨y0, y1, y2, y3, y4, y5, y6, y7, y8, y9, y10, y11, y12, y13, y14, y15, y16⟩ := x
      rw [← f26_1_p32e0 y0 y1 y2 y3 y4 y5 y6 y7 y8 y9 y10 y11 y12 y13 y14 y15 y16 N K]
      exact h
    · obtain ⟨y0, y1, y2, y3, y4, y5, y6, y7, y8, y9, y10, y11, y12, y13, y14, y15, y16⟩ := x
      rw [← f26_1_p32e1 y0 y1 y2 y3 y4 y5 y6 y7 y8 y9 y10 y11 y12 y13 y14 y15 y16 N K]
      exact h
  | false =>
  rw [hb0] at h
  simp only [cond_false] at h
  clear hb0
  obtain ⟨xx, yy, rfl, rfl, h⟩ := getS_elim h
  refine iter_of (f26_1_p32_mk) (fun x N h => ?_) rounds _ σ (hs.trans (by kernel_rfl)) (LoopP.run h)
  rcases x with x | x
  · obtain ⟨y0, y1, y2, y3, y4, y5, y6, y7, y8, y9, y10, y11, y12, y13, y14, y15, y16⟩ := x
    rw [← f26_1_p32e0 y0 y1 y2 y3 y4 y5 y6 y7 y8 y9 y10 y11 y12 y13 y14 y15 y16 N K]
    exact h
  · obtain ⟨y0, y1, y2, y3, y4, y5, y6, y7, y8, y9, y10, y11, y12, y13, y14, y15, y16⟩ := x
    rw [← f26_1_p32e1 y0 y1 y2 y3 y4 y5 y6 y7 y8 y9 y10 y11 y12 y13 y14 y15 y16 N K]
    exact h
set_option maxHeartbeats 4000000 in
theorem f26_1_p17_ok : TailOk f26_1_C (nthC (tails (bodyOf Try.f26)) 8) := by
  refine TailOk.of f26_1_p17L (by kernel_rfl) fun σ K h => ?_
  have hk : joinKey (nthC (tails (bodyOf Try.f26)) 8) = 17 := by kernel_rfl
  rw [hk] at h ⊢
  generalize hs : normK f26_1_C 17 σ = s at h
  obtain ⟨tm, hp⟩ := s
  unfold f26_1_p17L at h
  dsimp only at h
  obtain ⟨xx, yy, rfl, rfl, h⟩ := getS_elim h
  have q : normK f26_1_C 17 σ = (⟨mkS 82 [(2, .w (.one (.p (.sl 1 xx.2.1.1 xx.2.1.2)))), (3, I xx.2.2.1), (4, .w (.one (.ptr 0 0 0))), (5, .w (.one (.ptr 1 0 0)))], [.box [.p (pI yy.1.1), .p (pI yy.1.2.1)], .box [.p (.sl 3 yy.2.1.1.1 yy.2.1.1.2), .p (pI yy.2.1.2.1), .p (pI yy.2.1.2.2.1)]]⟩ : St) := hs.trans (by kernel_rfl)
  rw [← hs, q, ← f26_1_p17e0 xx.2.1.1 xx.2.1.2 xx.2.2.1 yy.1.1 yy.1.2.1 yy.2.1.1.1 yy.2.1.1.2 yy.2.1.2.1 yy.2.1.2.2.1 K]
  exact h
noncomputable def f26_1_G0 : List TV → List Entry → (TV → List Entry → Prop) → Prop := fun tm hp K => getS [.v (.pagg [.int .i64, .int .i64]), .v (.pagg [.sl 3, .int .i64, .int .i64]), .v (.one (.sl 1)), .v (.one (.int .i64))] [] tm hp fun (xx : ((Int × (Int × Unit)) × (((List (List PC) × Bool) × (Int × (Int × Unit))) × ((List (List PC) × Bool) × (Int × Unit))))) (yy : Unit) => f26_1 xx.1.1 xx.1.2.1 xx.2.1.1.1 xx.2.1.1.2 xx.2.1.2.1 xx.2.1.2.2.1 xx.2.2.1.1 xx.2.2.1.2 xx.2.2.2.1 (fun i0_11 n0_12 n0_13 es0_14 => K (.tup [.one (.ref 0 i0_11 n0_12), .one (.p (pI n0_13))]) [.vec 3 es0_14 true])
set_option maxRecDepth 100000 in
theorem f26_1_eq (n_135 : Int) (n_136 : Int) (es_137 : List (List PC)) (full_138 : Bool) (n_139 : Int) (n_140 : Int) (es_141 : List (List PC)) (full_142 : Bool) (n_143 : Int) (K : TV → List Entry → Prop) : (f26_1_d n_135 n_136 es_137 full_138 n_139 n_140 es_141 full_142 n_143 (fun i0_11 n0_12 n0_13 es0_14 => K (.tup [.one (.ref 0 i0_11 n0_12), .one (.p (pI n0_13))]) [.vec 3 es0_14 true])) = funcT f26_1_C Try.f26 [.w (.pagg [pI n_135, pI n_136]), .w (.pagg [.sl 3 es_137 full_138, pI n_139, pI n_140]), .w (.one (.p (.sl 1 es_141 full_142))), I n_143] [] K := by kernel_rfl
set_option maxHeartbeats 4000000 in
theorem f26_1_ok0 : FnOk Try.prog glob 26 f26_1_G0 := by
  refine FnOk.of_text (C := f26_1_C) tab_ok.ok (Known.add f42_G_ok (Known.add f41_G_ok (Known.add f14_G_ok (Known.none)))) follows_ok (fn := Try.f26) (by kernel_rfl) (by kernel_rfl) (by kernel_rfl) (fun c hc => ?_) fun tm hp K h => ?_
  · have e : c = bodyOf Try.f26 := Option.some.inj (hc.symm.trans (by kernel_rfl))
    subst e
    exact ⟨LoopsOk.of [nthC (bodies (bodyOf Try.f26)) 0, nthC (bodies (bodyOf Try.f26)) 1] (by kernel_rfl) ⟨f26_1_p20_ok, f26_1_p32_ok, trivial⟩, TailsOk.of (tab := f26_1_tab) rfl [nthC (tails (bodyOf Try.f26)) 8] (by kernel_rfl) ⟨f26_1_p17_ok, trivial⟩⟩
  · unfold f26_1_G0 at h
    obtain ⟨xx, yy, rfl, rfl, h⟩ := getS_elim h
    have e := (f26_1_eq xx.1.1 xx.1.2.1 xx.2.1.1.1 xx.2.1.1.2 xx.2.1.2.1 xx.2.1.2.2.1 xx.2.2.1.1 xx.2.2.1.2 xx.2.2.2.1 K).trans (show _ = funcT f26_1_C Try.f26 (mkR _ xx) (mkE _ yy) K by kernel_rfl)
    rw [← e]
    exact h.run
noncomputable def f26_1_G : List TV → List Entry → (TV → List Entry → Prop) → Prop := fun args H K => bif isSig (sigOf args H) [10, 10, 5, 2, 7] then f26_1_G0 args H K else f26_G args H K
theorem f26_1_G_ok : FnOk Try.prog glob 26 f26_1_G := FnOk.or _ f26_1_ok0 f26_G_ok
end Go.Eng.N
set_option linter.unusedVariables false
set_option maxRecDepth 100000
open Go Go.Eng Go.Proofs
namespace Go.Eng.N
/-! ### f27: plenum/plenumref55.Play -/
noncomputable def f27_p16b0 (es11 : List (List PC)) (full12 : Bool) (n13 : Int) (i14 : Nat) (n15 : Nat) (n16 : Int) (n17 : Int) (n18 : Int) (es19 : List (List PC)) (full20 : Bool) (n21 : Int) (n22 : Int) (es23 : List (List PC)) (N0 : Nat → Nat → Int → (List (List PC)) → Prop) (k0 : Nat → Nat → (List (List PC)) → Prop) : Prop := bB (decide (n16 < ((es19.length : Nat) : Int))) ((0 ≤ n16 ∧ n16 < ((es19.length : Nat) : Int)) ∧ oB (ext (List.getD es19 (Int.toNat n16) []) 2 1) fun b24 => (i14 + n15) ≤ es23.length ∧ (n15 + 1) * 1 ≤ 2 ^ 46 ∧ (n15 + 1) ≤ 2 ^ 46 ∧ N0 0 (n15 + 1) (w64 (n16 + 1)) ((List.take n15 (List.drop i14 es23)) ++ [[pB b24]])) (k0 i14 n15 es23)
noncomputable def f27_p16 (es11 : List (List PC)) (full12 : Bool) (n13 : Int) (n17 : Int) (n18 : Int) (es19 : List (List PC)) (full20 : Bool) (n21 : Int) (n22 : Int) (k0 : Nat → Nat → (List (List PC)) → Prop) : Nat × Nat × Int × (List (List PC)) → Prop := LoopP fun x N => f27_p16b0 es11 full12 n13 x.1 x.2.1 x.2.2.1 n17 n18 es19 full20 n21 n22 x.2.2.2 (fun i14 n15 n16 es23 => N (i14, n15, n16, es23)) k0
noncomputable def f27_p26b0 (es28 : List (List PC)) (full29 : Bool) (n30 : Int) (i31 : Nat) (n32 : Nat) (i33 : Nat) (n34 : Nat) (n35 : Int) (n36 : Int) (n37 : Int) (es38 : List (List PC)) (full39 : Bool) (n40 : Int) (n41 : Int) (es42 : List (List PC)) (es43 : List (List PC)) (N0 : (List (List PC)) → Bool → Int → Nat → Nat → Nat → Nat → Int → Int → Int → (List (List PC)) → Bool → Int → Int → (List (List PC)) → (List (List PC)) → Prop) (N1 : (List (List PC)) → Bool → Int → Nat → Nat → Nat → Nat → Int → Int → Int → (List (List PC)) → Bool → Int → Int → (List (List PC)) → (List (List PC)) → Prop) (k0 : Int → Prop) (k1 : Nat → Nat → (List (List PC)) → Prop) : Prop := bB (decide (n35 < ((es28.length : Nat) : Int))) (f43 es38 full39 n40 n41 n30 (fun b44 => bB (!b44) (k0 6) ((0 ≤ n35 ∧ n35 < ((es28.length : Nat) : Int)) ∧ oI .i64 (ext (List.getD es28 (Int.toNat n35) []) 0 1) fun n45 => f44 n36 n37 es38 full39 n40 n41 n45 (List.take n32 (List.drop i31 es42)) false n30 (fun es46 full47 n48 n49 => (i33 + n34) ≤ es43.length ∧ (n34 + 1) * 40 ≤ 2 ^ 46 ∧ (n34 + 1) ≤ 2 ^ 46 ∧ N1 es28 full29 (w64 (n30 + 1)) i31 n32 0 (n34 + 1) (w64 (n35 + 1)) n36 n37 es46 full47 n48 n49 es42 ((List.take n34 (List.drop i33 es43)) ++ [[.sl 3 es46 full47, pI n48, pI n49]]))))) (k1 i33 n34 es43)
noncomputable def f27_p26b1 (es50 : List (List PC)) (full51 : Bool) (n52 : Int) (i53 : Nat) (n54 : Nat) (i55 : Nat) (n56 : Nat) (n57 : Int) (n58 : Int) (n59 : Int) (es60 : List (List PC)) (full61 : Bool) (n62 : Int) (n63 : Int) (es64 : List (List PC)) (es65 : List (List PC)) (N0 : (List (List PC)) → Bool → Int → Nat → Nat → Nat → Nat → Int → Int → Int → (List (List PC)) → Bool → Int → Int → (List (List PC)) → (List (List PC)) → Prop) (N1 : (List (List PC)) → Bool → Int → Nat → Nat → Nat → Nat → Int → Int → Int → (List (List PC)) → Bool → Int → Int → (List (List PC)) → (List (List PC)) → Prop) (k0 : Int → Prop) (k1 : Nat → Nat → (List (List PC)) → Prop) : Prop := bB (decide (n57 < ((es50.length : Nat) : Int))) (f43 es60 full61 n62 n63 n52 (fun b66 => bB (!b66) (k0 6) ((0 ≤ n57 ∧ n57 < ((es50.length : Nat) : Int)) ∧ oI .i64 (ext (List.getD es50 (Int.toNat n57) []) 0 1) fun n67 => f44 n58 n59 es60 full61 n62 n63 n67 (List.take n54 (List.drop i53 es64)) false n52 (fun es68 full69 n70 n71 => (i55 + n56) ≤ es65.length ∧ (n56 + 1) * 40 ≤ 2 ^ 46 ∧ (n56 + 1) ≤ 2 ^ 46 ∧ N1 es50 full51 (w64 (n52 + 1)) i53 n54 0 (n56 + 1) (w64 (n57 + 1)) n58 n59 es68 full69 n70 n71 es64 ((List.take n56 (List.drop i55 es65)) ++ [[.sl 3 es68 full69, pI n70, pI n71]]))))) (k1 i55 n56 es65)
noncomputable def f27_p26 (k0 : Int → Prop) (k1 : Nat → Nat → (List (List PC)) → Prop) : ((List (List PC)) × Bool × Int × Nat × Nat × Nat × Nat × Int × Int × Int × (List (List PC)) × Bool × Int × Int × (List (List PC)) × (List (List PC))) ⊕ ((List (List PC)) × Bool × Int × Nat × Nat × Nat × Nat × Int × Int × Int × (List (List PC)) × Bool × Int × Int × (List (List PC)) × (List (List PC))) → Prop := LoopP fun x N => match x with
  | (.inl x) => f27_p26b0 x.1 x.2.1 x.2.2.1 x.2.2.2.1 x.2.2.2.2.1 x.2.2.2.2.2.1 x.2.2.2.2.2.2.1 x.2.2.2.2.2.2.2.1 x.2.2.2.2.2.2.2.2.1 x.2.2.2.2.2.2.2.2.2.1 x.2.2.2.2.2.2.2.2.2.2.1 x.2.2.2.2.2.2.2.2.2.2.2.1 x.2.2.2.2.2.2.2.2.2.2.2.2.1 x.2.2.2.2.2.2.2.2.2.2.2.2.2.1 x.2.2.2.2.2.2.2.2.2.2.2.2.2.2.1 x.2.2.2.2.2.2.2.2.2.2.2.2.2.2.2 (fun es28 full29 n30 i31 n32 i33 n34 n35 n36 n37 es38 full39 n40 n41 es42 es43 => N (.inl (es28, full29, n30, i31, n32, i33, n34, n35, n36, n37, es38, full39, n40, n41, es42, es43))) (fun es50 full51 n52 i53 n54 i55 n56 n57 n58 n59 es60 full61 n62 n63 es64 es65 => N (.inr (es50, full51, n52, i53, n54, i55, n56, n57, n58, n59, es60, full61, n62, n63, es64, es65))) k0 k1
  | (.inr x) => f27_p26b1 x.1 x.2.1 x.2.2.1 x.2.2.2.1 x.2.2.2.2.1 x.2.2.2.2.2.1 x.2.2.2.2.2.2.1 x.2.2.2.2.2.2.2.1 x.2.2.2.2.2.2.2.2.1 x.2.2.2.2.2.2.2.2.2.1 x.2.2.2.2.2.2.2.2.2.2.1 x.2.2.2.2.2.2.2.2.2.2.2.1 x.2.2.2.2.2.2.2.2.2.2.2.2.1 x.2.2.2.2.2.2.2.2.2.2.2.2.2.1 x.2.2.2.2.2.2.2.2.2.2.2.2.2.2.1 x.2.2.2.2.2.2.2.2.2.2.2.2.2.2.2 (fun es28 full29 n30 i31 n32 i33 n34 n35 n36 n37 es38 full39 n40 n41 es42 es43 => N (.inl (es28, full29, n30, i31, n32, i33, n34, n35, n36, n37, es38, full39, n40, n41, es42, es43))) (fun es50 full51 n52 i53 n54 i55 n56 n57 n58 n59 es60 full61 n62 n63 es64 es65 => N (.inr (es50, full51, n52, i53, n54, i55, n56, n57, n58, n59, es60, full61, n62, n63, es64, es65))) k0 k1
noncomputable def f27_d (n1 : Int) (n2 : Int) (es3 : List (List PC)) (full4 : Bool) (n5 : Int) (n6 : Int) (es7 : List (List PC)) (full8 : Bool) (n9 : Int) (k0 : (List (List PC)) → Bool → Int → Prop) : Prop := f16 n1 n2 es3 full4 n5 n6 (fun n10 => bB (n10 != 0) (k0 [] true n10) (bB (decide (((es7.length : Nat) : Int) > 10000)) (k0 [] true 7) (f27_p16 es7 full8 n9 n1 n2 es3 full4 n5 n6 (fun i25 n26 es27 => f27_p26 (fun n72 => k0 [] true n72) (fun i73 n74 es75 => k0 (List.take n74 (List.drop i73 es75)) false 0) (.inl (es7, full8, n9, i25, n26, 0, 0, 0, n1, n2, es3, full4, n5, n6, es27, []))) (0, 0, 0, []))))
structure f27 (n1 : Int) (n2 : Int) (es3 : List (List PC)) (full4 : Bool) (n5 : Int) (n6 : Int) (es7 : List (List PC)) (full8 : Bool) (n9 : Int) (k0 : (List (List PC)) → Bool → Int → Prop) : Prop where
  run : f27_d n1 n2 es3 full4 n5 n6 es7 full8 n9 k0
noncomputable def f27_p16L : Told := fun s K => match s with
  | ⟨tm, hp⟩ => getS [.skip 2, .v (.one (.sl 1)), .v (.one (.int .i64)), .v (.one (.ptr 0 0 0)), .v (.one (.ptr 1 0 0)), .skip 5, .v (.one (.ref 2)), .v (.one (.int .i64)), .skip 55] [.box [.int .i64, .int .i64], .box [.sl 3, .int .i64, .int .i64], .vec 1 true] tm hp fun (xx : (Unit × ((List (List PC) × Bool) × (Int × (Unit × (Unit × (Unit × ((Nat × Nat) × (Int × (Unit × Unit)))))))))) (yy : ((Int × (Int × Unit)) × (((List (List PC) × Bool) × (Int × (Int × Unit))) × ((List (List PC)) × Unit)))) => f27_p16 xx.2.1.1 xx.2.1.2 xx.2.2.1 yy.1.1 yy.1.2.1 yy.2.1.1.1 yy.2.1.1.2 yy.2.1.2.1 yy.2.1.2.2.1 (fun i0_0 n0_1 es0_2 => K (.exit 0) ⟨mkS 68 [(2, .w (.one (.p (.sl 1 xx.2.1.1 xx.2.1.2)))), (3, I xx.2.2.1), (4, .w (.one (.ptr 0 0 0))), (5, .w (.one (.ptr 1 0 0))), (11, .w (.one (.ref 2 i0_0 n0_1)))], [.box [.p (pI yy.1.1), .p (pI yy.1.2.1)], .box [.p (.sl 3 yy.2.1.1.1 yy.2.1.1.2), .p (pI yy.2.1.2.1), .p (pI yy.2.1.2.2.1)], .vec 1 es0_2 true]⟩) (xx.2.2.2.2.2.2.1.1, xx.2.2.2.2.2.2.1.2, xx.2.2.2.2.2.2.2.1, yy.2.2.1)
noncomputable def f27_p26L : Told := fun s K => match s with
  | ⟨tm, hp⟩ => bif isSig (sigOf tm hp) [0, 0, 5, 2, 200, 201, 0, 0, 0, 0, 0, 102, 0, 103, 2, 0, 0, 0, 0, 0, 0, 0, 0, 0, 0, 0, 0, 0, 0, 0, 0, 0, 0, 0, 0, 0, 0, 0, 0, 0, 0, 0, 0, 0, 0, 0, 0, 0, 0, 0, 0, 0, 0, 0, 0, 0, 0, 0, 0, 0, 0, 0, 0, 0, 0, 0, 0, 0, 7, 20, 2, 2, 20, 5, 2, 2, 22, 22] then (getS [.skip 2, .v (.one (.sl 1)), .v (.one (.int .i64)), .v (.one (.ptr 0 0 0)), .v (.one (.ptr 1 0 0)), .skip 5, .v (.one (.ref 2)), .skip 1, .v (.one (.ref 3)), .v (.one (.int .i64)), .skip 53] [.box [.int .i64, .int .i64], .box [.sl 3, .int .i64, .int .i64], .vec 1 true, .vec 3 true] tm hp fun (xx : (Unit × ((List (List PC) × Bool) × (Int × (Unit × (Unit × (Unit × ((Nat × Nat) × (Unit × ((Nat × Nat) × (Int × (Unit × Unit)))))))))))) (yy : ((Int × (Int × Unit)) × (((List (List PC) × Bool) × (Int × (Int × Unit))) × ((List (List PC)) × ((List (List PC)) × Unit))))) => f27_p26 (fun n0_3 => K .ret ⟨mkS 68 [(8, .w (.one (.p (.sl 3 [] true)))), (9, I n0_3)], []⟩) (fun i1_4 n1_5 es1_6 => K (.exit 2) ⟨mkS 68 [(13, .w (.one (.ref 0 i1_4 n1_5)))], [.vec 3 es1_6 true]⟩) (.inl (xx.2.1.1, xx.2.1.2, xx.2.2.1, xx.2.2.2.2.2.2.1.1, xx.2.2.2.2.2.2.1.2, xx.2.2.2.2.2.2.2.2.1.1, xx.2.2.2.2.2.2.2.2.1.2, xx.2.2.2.2.2.2.2.2.2.1, yy.1.1, yy.1.2.1, yy.2.1.1.1, yy.2.1.1.2, yy.2.1.2.1, yy.2.1.2.2.1, yy.2.2.1, yy.2.2.2.1))) else (getS [.skip 2, .v (.one (.sl 1)), .v (.one (.int .i64)), .v (.one (.ptr 0 0 0)), .v (.one (.ptr 1 0 0)), .skip 5, .v (.one (.ref 2)), .skip 1, .v (.one (.ref 3)), .v (.one (.int .i64)), .skip 53] [.box [.int .i64, .int .i64], .box [.sl 3, .int .i64, .int .i64], .vec 1 false, .vec 3 true] tm hp fun (xx : (Unit × ((List (List PC) × Bool) × (Int × (Unit × (Unit × (Unit × ((Nat × Nat) × (Unit × ((Nat × Nat) × (Int × (Unit × Unit)))))))))))) (yy : ((Int × (Int × Unit)) × (((List (List PC) × Bool) × (Int × (Int × Unit))) × ((List (List PC)) × ((List (List PC)) × Unit))))) => f27_p26 (fun n0_7 => K .ret ⟨mkS 68 [(8, .w (.one (.p (.sl 3 [] true)))), (9, I n0_7)], []⟩) (fun i1_8 n1_9 es1_10 => K (.exit 2) ⟨mkS 68 [(13, .w (.one (.ref 0 i1_8 n1_9)))], [.vec 3 es1_10 true]⟩) (.inr (xx.2.1.1, xx.2.1.2, xx.2.2.1, xx.2.2.2.2.2.2.1.1, xx.2.2.2.2.2.2.1.2, xx.2.2.2.2.2.2.2.2.1.1, xx.2.2.2.2.2.2.2.2.1.2, xx.2.2.2.2.2.2.2.2.2.1, yy.1.1, yy.1.2.1, yy.2.1.1.1, yy.2.1.1.2, yy.2.1.2.1, yy.2.1.2.2.1, yy.2.2.1, yy.2.2.2.1)))
noncomputable def f27_tab : List (Nat × Told) := [(16, f27_p16L), (26, f27_p26L)]
noncomputable def f27_call : FuncId → List TV → List Entry → (TV → List Entry → Prop) → Prop := addCall 44 f44_G (addCall 43 f43_G (addCall 16 f16_G (noCalls)))
noncomputable def f27_C : Ctx := { ty := tyOf tab, glob := glob, byRef := byRef, keep := fun k i => lookN [] (lookN [] ([(16, [(0, [2, 3, 4, 5, 11, 12]), (2, [8, 9]), (3, [2, 3, 4, 5, 11])]), (26, [(0, [2, 3, 4, 5, 11, 13, 14]), (2, [8, 9]), (5, [13])])] : List (Nat × List (Nat × List Nat))) k) i, late := lookN [] ([] : List (Nat × List Nat)), nref := lookN [] ([] : List (Nat × List Nat)), nbox := lookN [] ([] : List (Nat × List (Nat × Nat))), take := [], rnil := false, m := 0, fz := true, loops := lookL f27_tab, call := f27_call }
noncomputable def f27_p16_mk (es11 : List (List PC)) (full12 : Bool) (n13 : Int) (n17 : Int) (n18 : Int) (es19 : List (List PC)) (full20 : Bool) (n21 : Int) (n22 : Int) (x : Nat × Nat × Int × (List (List PC))) : St := ⟨mkS 68 [(2, .w (.one (.p (.sl 1 es11 full12)))), (3, I n13), (4, .w (.one (.ptr 0 0 0))), (5, .w (.one (.ptr 1 0 0))), (11, .w (.one (.ref 2 x.1 x.2.1))), (12, I x.2.2.1)], [.box [.p (pI n17), .p (pI n18)], .box [.p (.sl 3 es19 full20), .p (pI n21), .p (pI n22)], .vec 1 x.2.2.2 true]⟩
set_option maxRecDepth 100000 in
theorem f27_p16e0 (es_27 : List (List PC)) (full_28 : Bool) (n_29 : Int) (i_30 : Nat) (n_31 : Nat) (n_32 : Int) (n_33 : Int) (n_34 : Int) (es_35 : List (List PC)) (full_36 : Bool) (n_37 : Int) (n_38 : Int) (es_39 : List (List PC)) (N : St → Prop) (K : TExit → St → Prop) : (f27_p16b0 es_27 full_28 n_29 i_30 n_31 n_32 n_33 n_34 es_35 full_36 n_37 n_38 es_39 (fun z3 z4 z5 z12 => N (f27_p16_mk es_27 full_28 n_29 n_33 n_34 es_35 full_36 n_37 n_38 (z3, z4, z5, z12))) (fun i0_40 n0_41 es0_42 => K (.exit 0) ⟨mkS 68 [(2, .w (.one (.p (.sl 1 es_27 full_28)))), (3, I n_29), (4, .w (.one (.ptr 0 0 0))), (5, .w (.one (.ptr 1 0 0))), (11, .w (.one (.ref 2 i0_40 n0_41)))], [.box [.p (pI n_33), .p (pI n_34)], .box [.p (.sl 3 es_35 full_36), .p (pI n_37), .p (pI n_38)], .vec 1 es0_42 true]⟩)) = execT f27_C (nthC (bodies (bodyOf Try.f27)) 0) (f27_p16_mk es_27 full_28 n_29 n_33 n_34 es_35 full_36 n_37 n_38 (i_30, n_31, n_32, es_39)) (loopK N (normK f27_C 16) fun e s => K e (normOut f27_C 16 e s)) := by kernel_rfl
noncomputable def f27_p26_mk (x : ((List (List PC)) × Bool × Int × Nat × Nat × Nat × Nat × Int × Int × Int × (List (List PC)) × Bool × Int × Int × (List (List PC)) × (List (List PC))) ⊕ ((List (List PC)) × Bool × Int × Nat × Nat × Nat × Nat × Int × Int × Int × (List (List PC)) × Bool × Int × Int × (List (List PC)) × (List (List PC)))) : St := match x with
  | (.inl x) => ⟨mkS 68 [(2, .w (.one (.p (.sl 1 x.1 x.2.1)))), (3, I x.2.2.1), (4, .w (.one (.ptr 0 0 0))), (5, .w (.one (.ptr 1 0 0))), (11, .w (.one (.ref 2 x.2.2.2.1 x.2.2.2.2.1))), (13, .w (.one (.ref 3 x.2.2.2.2.2.1 x.2.2.2.2.2.2.1))), (14, I x.2.2.2.2.2.2.2.1)], [.box [.p (pI x.2.2.2.2.2.2.2.2.1), .p (pI x.2.2.2.2.2.2.2.2.2.1)], .box [.p (.sl 3 x.2.2.2.2.2.2.2.2.2.2.1 x.2.2.2.2.2.2.2.2.2.2.2.1), .p (pI x.2.2.2.2.2.2.2.2.2.2.2.2.1), .p (pI x.2.2.2.2.2.2.2.2.2.2.2.2.2.1)], .vec 1 x.2.2.2.2.2.2.2.2.2.2.2.2.2.2.1 true, .vec 3 x.2.2.2.2.2.2.2.2.2.2.2.2.2.2.2 true]⟩
  | (.inr x) => ⟨mkS 68 [(2, .w (.one (.p (.sl 1 x.1 x.2.1)))), (3, I x.2.2.1), (4, .w (.one (.ptr 0 0 0))), (5, .w (.one (.ptr 1 0 0))), (11, .w (.one (.ref 2 x.2.2.2.1 x.2.2.2.2.1))), (13, .w (.one (.ref 3 x.2.2.2.2.2.1 x.2.2.2.2.2.2.1))), (14, I x.2.2.2.2.2.2.2.1)], [.box [.p (pI x.2.2.2.2.2.2.2.2.1), .p (pI x.2.2.2.2.2.2.2.2.2.1)], .box [.p (.sl 3 x.2.2.2.2.2.2.2.2.2.2.1 x.2.2.2.2.2.2.2.2.2.2.2.1), .p (pI x.2.2.2.2.2.2.2.2.2.2.2.2.1), .p (pI x.2.2.2.2.2.2.2.2.2.2.2.2.2.1)], .vec 1 x.2.2.2.2.2.2.2.2.2.2.2.2.2.2.1 false, .vec 3 x.2.2.2.2.2.2.2.2.2.2.2.2.2.2.2 true]⟩
set_option maxRecDepth 100000 in
theorem f27_p26e0 (es_75 : List (List PC)) (full_76 : Bool) (n_77 : Int) (i_78 : Nat) (n_79 : Nat) (i_80 : Nat) (n_81 : Nat) (n_82 : Int) (n_83 : Int) (n_84 : Int) (es_85 : List (List PC)) (full_86 : Bool) (n_87 : Int) (n_88 : Int) (es_89 : List (List PC)) (es_90 : List (List PC)) (N : St → Prop) (K : TExit → St → Prop) : (f27_p26b0 es_75 full_76 n_77 i_78 n_79 i_80 n_81 n_82 n_83 n_84 es_85 full_86 n_87 n_88 es_89 es_90 (fun z0 z1 z2 z3 z4 z5 z6 z7 z8 z9 z10 z11 z12 z13 z14 z15 => N (f27_p26_mk (.inl (z0, z1, z2, z3, z4, z5, z6, z7, z8, z9, z10, z11, z12, z13, z14, z15)))) (fun z0 z1 z2 z3 z4 z5 z6 z7 z8 z9 z10 z11 z12 z13 z14 z15 => N (f27_p26_mk (.inr (z0, z1, z2, z3, z4, z5, z6, z7, z8, z9, z10, z11, z12, z13, z14, z15)))) (fun n0_91 => K .ret ⟨mkS 68 [(8, .w (.one (.p (.sl 3 [] true)))), (9, I n0_91)], []⟩) (fun i1_92 n1_93 es1_94 => K (.exit 2) ⟨mkS 68 [(13, .w (.one (.ref 0 i1_92 n1_93)))], [.vec 3 es1_94 true]⟩)) = execT f27_C (nthC (bodies (bodyOf Try.f27)) 1) (f27_p26_mk (.inl (es_75, full_76, n_77, i_78, n_79, i_80, n_81, n_82, n_83, n_84, es_85, full_86, n_87, n_88, es_89, es_90))) (loopK N (normK f27_C 26) fun e s => K e (normOut f27_C 26 e s)) := by kernel_rfl
set_option maxRecDepth 100000 in
theorem f27_p26e1 (es_95 : List (List PC)) (full_96 : Bool) (n_97 : Int) (i_98 : Nat) (n_99 : Nat) (i_100 : Nat) (n_101 : Nat) (n_102 : Int) (n_103 : Int) (n_104 : Int) (es_105 : List (List PC)) (full_106 : Bool) (n_107 : Int) (n_108 : Int) (es_109 : List (List PC)) (es_110 : List (List PC)) (N : St → Prop) (K : TExit → St → Prop) : (f27_p26b1 es_95 full_96 n_97 i_98 n_99 i_100 n_101 n_102 n_103 n_104 es_105 full_106 n_107 n_108 es_109 es_110 (fun z0 z1 z2 z3 z4 z5 z6 z7 z8 z9 z10 z11 z12 z13 z14 z15 => N (f27_p26_mk (.inl (z0, z1, z2, z3, z4, z5, z6, z7, z8, z9, z10, z11, z12, z13, z14, z15)))) (fun z0 z1 z2 z3 z4 z5 z6 z7 z8 z9 z10 z11 z12 z13 z14 z15 => N (f27_p26_mk (.inr (z0, z1, z2, z3, z4, z5, z6, z7, z8, z9, z10, z11, z12, z13, z14, z15)))) (fun n0_111 => K .ret ⟨mkS 68 [(8, .w (.one (.p (.sl 3 [] true)))), (9, I n0_111)], []⟩) (fun i1_112 n1_113 es1_114 => K (.exit 2) ⟨mkS 68 [(13, .w (.one (.ref 0 i1_112 n1_113)))], [.vec 3 es1_114 true]⟩)) = execT f27_C (nthC (bodies (bodyOf Try.f27)) 1) (f27_p26_mk (.inr (es_95, full_96, n_97, i_98, n_99, i_100, n_101, n_102, n_103, n_104, es_105, full_106, n_107, n_108, es_109, es_110))) (loopK N (normK f27_C 26) fun e s => K e (normOut f27_C 26 e s)) := by kernel_rfl
set_option maxHeartbeats 4000000 in
theorem f27_p16_ok : LoopOk f27_C (nthC (bodies (bodyOf Try.f27)) 0) := by
  refine LoopOk.of f27_p16L (by kernel_rfl) fun σ K h => ?_
  have hk : loopKey (nthC (bodies (bodyOf Try.f27)) 0) = 16 := by kernel_rfl
  rw [hk] at h ⊢
  generalize hs : normK f27_C 16 σ = s at h
  obtain ⟨tm, hp⟩ := s
  unfold f27_p16L at h
  dsimp only at h
  obtain ⟨xx, yy, rfl, rfl, h⟩ := getS_elim h
  refine iter_of (f27_p16_mk xx.2.1.1 xx.2.1.2 xx.2.2.1 yy.1.1 yy.1.2.1 yy.2.1.1.1 yy.2.1.1.2 yy.2.1.2.1 yy.2.1.2.2.1) (fun x N h => ?_) rounds _ σ (hs.trans (by kernel_rfl)) (LoopP.run h)
  obtain ⟨y0, y1, y2, y3⟩ := x
  rw [← f27_p16e0 xx.2.1.1 xx.2.1.2 xx.2.2.1 y0 y1 y2 yy.1.1 yy.1.2.1 yy.2.1.1.1 yy.2.1.1.2 yy.2.1.2.1 yy.2.1.2.2.1 y3 N K]
  exact h
set_option maxHeartbeats 4000000 in
theorem f27_p26_ok : LoopOk f27_C (nthC (bodies (bodyOf Try.f27)) 1) := by
  refine LoopOk.of f27_p26L (by kernel_rfl) fun σ K h => ?_
  have hk : loopKey (nthC (bodies (bodyOf Try.f27)) 1) = 26 := by kernel_rfl
  rw [hk] at h ⊢
  generalize hs : normK f27_C 26 σ = s at h
  obtain ⟨tm, hp⟩ := s
  unfold f27_p26L at h
  dsimp only at h
  cases hb0 : isSig (sigOf tm hp) [0, 0, 5, 2, 200, 201, 0, 0, 0, 0, 0, 102, 0, 103, 2, 0, 0, 0, 0, 0, 0, 0, 0, 0, 0, 0, 0, 0, 0, 0, 0, 0, 0, 0, 0, 0, 0, 0, 0, 0, 0, 0, 0, 0, 0, 0, 0, 0, 0, 0, 0, 0, 0, 0, 0, 0, 0, 0, 0, 0, 0, 0, 0, 0, 0, 0, 0, 0, 7, 20, 2, 2, 20, 5, 2, 2, 22, 22] with
  | true =>
    rw [hb0] at h
    clear hb0
    simp only [cond_true] at h
    obtain ⟨xx, yy, rfl, rfl, h⟩ := getS_elim h
    refine iter_of (f27_p26_mk) (fun x N h => ?_) rounds _ σ (hs.trans (by kernel_rfl)) (LoopP.run h)
    rcases x with x | x
    · obtain ⟨y0, y1, y2, y3, y4, y5, y6, y7, y8, y9, y10, y11, y12, y13, y14, y15⟩ := x
      rw [← f27_p26e0 y0 y1 y2 y3 y4 y5 y6 y7 y8 y9 y10 y11 y12 y13 y14 y15 N K]
      exact h
    · obtain ⟨y0, y1, y2, y3, y4, y5, y6, y7, y8, y9, y10, y11, y12, y13, y14, y15⟩ := x
      rw [← f27_p26e1 y0 y1 y2 y3 y4 y5 y6 y7 y8 y9 y10 y11 y12 y13 y14 y15 N K]
      exact h
  | false =>
  rw [hb0] at h
  simp only [cond_false] at h
  clear hb0
  obtain ⟨xx, yy, rfl, rfl, h⟩ := getS_elim h
  refine iter_of (f27_p26_mk) (fun x N h => ?_) rounds _ σ (hs.trans (by kernel_rfl)) (LoopP.run h)
  rcases x with x | x
  · obtain ⟨y0, y1, y2, y3, y4, y5, y6, y7, y8, y9, y10, y11, y12, y13, y14, y15⟩ := x
    rw [← f27_p26e0 y0 y1 y2 y3 y4 y5 y6 y7 y8 y9 y10 y11 y12 y13 y14 y15 N K]
    exact h
  · obtain ⟨y0, y1, y2, y3, y4, y5, y6, y7, y8, y9, y10, y11, y12, y13, y14, y15⟩ := x
    rw [← f27_p26e1 y0 y1 y2 y3 y4 y5 y6 y7 y8 y9 y10 y11 y12 y13 y14 y15 N K]
    exact h
noncomputable def f27_G0 : List TV → List Entry → (TV → List Entry → Prop) → Prop := fun tm hp K => getS [.v (.pagg [.int .i64, .int .i64]), .v (.pagg [.sl 3, .int .i64, .int .i64]), .v (.one (.sl 1)), .v (.one (.int .i64))] [] tm hp fun (xx : ((Int × (Int × Unit)) × (((List (List PC) × Bool) × (Int × (Int × Unit))) × ((List (List PC) × Bool) × (Int × Unit))))) (yy : Unit) => f27 xx.1.1 xx.1.2.1 xx.2.1.1.1 xx.2.1.1.2 xx.2.1.2.1 xx.2.1.2.2.1 xx.2.2.1.1 xx.2.2.1.2 xx.2.2.2.1 (fun es0_11 full0_12 n0_13 => K (.tup [.one (.p (.sl 3 es0_11 full0_12)), .one (.p (pI n0_13))]) [])
set_option maxRecDepth 100000 in
theorem f27_eq (n_115 : Int) (n_116 : Int) (es_117 : List (List PC)) (full_118 : Bool) (n_119 : Int) (n_120 : Int) (es_121 : List (List PC)) (full_122 : Bool) (n_123 : Int) (K : TV → List Entry → Prop) : (f27_d n_115 n_116 es_117 full_118 n_119 n_120 es_121 full_122 n_123 (fun es0_11 full0_12 n0_13 => K (.tup [.one (.p (.sl 3 es0_11 full0_12)), .one (.p (pI n0_13))]) [])) = funcT f27_C Try.f27 [.w (.pagg [pI n_115, pI n_116]), .w (.pagg [.sl 3 es_117 full_118, pI n_119, pI n_120]), .w (.one (.p (.sl 1 es_121 full_122))), I n_123] [] K := by kernel_rfl
set_option maxHeartbeats 4000000 in
theorem f27_ok0 : FnOk Try.prog glob 27 f27_G0 := by
  refine FnOk.of_text (C := f27_C) tab_ok.ok (Known.add f44_G_ok (Known.add f43_G_ok (Known.add f16_G_ok (Known.none)))) follows_ok (fn := Try.f27) (by kernel_rfl) (by kernel_rfl) (by kernel_rfl) (fun c hc => ?_) fun tm hp K h => ?_
  · have e : c = bodyOf Try.f27 := Option.some.inj (hc.symm.trans (by kernel_rfl))
    subst e
    exact ⟨LoopsOk.of [nthC (bodies (bodyOf Try.f27)) 0, nthC (bodies (bodyOf Try.f27)) 1] (by kernel_rfl) ⟨f27_p16_ok, f27_p26_ok, trivial⟩, TailsOk.of (tab := f27_tab) rfl [] (by kernel_rfl) trivial⟩
  · unfold f27_G0 at h
    obtain ⟨xx, yy, rfl, rfl, h⟩ := getS_elim h
    have e := (f27_eq xx.1.1 xx.1.2.1 xx.2.1.1.1 xx.2.1.1.2 xx.2.1.2.1 xx.2.1.2.2.1 xx.2.2.1.1 xx.2.2.1.2 xx.2.2.2.1 K).trans (show _ = funcT f27_C Try.f27 (mkR _ xx) (mkE _ yy) K by kernel_rfl)
    rw [← e]
    exact h.run
noncomputable abbrev f27_G := f27_G0
theorem f27_G_ok : FnOk Try.prog glob 27 f27_G := f27_ok0
end Go.Eng.N
set_option linter.unusedVariables false
set_option maxRecDepth 100000
open Go Go.Eng Go.Proofs
namespace Go.Eng.N
/-! ### f10: plenum/leadlag.New -/
noncomputable def f10_p7 (n3 : Int) (n4 : Int) (n5 : Int) (n6 : Int) (k0 : Int → Int → Int → Prop) (k1 : Int → Nat → Nat → Int → (List (List PC)) → Prop) : Prop := f30 n4 (fun b7 => bB (!b7) (k0 6 0 0) ((0 ≤ n3 ∧ n3 ≤ n3 ∧ n3 * 16 ≤ 2 ^ 46 ∧ n3 ≤ 2 ^ 46) ∧ k1 0 0 (Int.toNat n3) (-1) (List.replicate (Int.toNat n3) [pI 0, pB false, pB false])))
noncomputable def f10_d (n1 : Int) (n2 : Int) (k0 : (List (List PC)) → Bool → Int → Int → Int → Prop) : Prop := bB (decide (n1 < 1)) (k0 [] true 0 0 1) (bB (decide (n1 > 16)) (k0 [] true 0 0 1) (f10_p7 n1 n2 0 0 (fun n8 n9 n10 => k0 [] true n9 n10 n8) (fun n11 i12 n13 n14 es15 => k0 (List.take n13 (List.drop i12 es15)) false n14 n2 n11)))
structure f10 (n1 : Int) (n2 : Int) (k0 : (List (List PC)) → Bool → Int → Int → Int → Prop) : Prop where
  run : f10_d n1 n2 k0
noncomputable def f10_p7L : Told := fun s K => match s with
  | ⟨tm, hp⟩ => getS [.v (.one (.int .i64)), .v (.one (.int .i64)), .skip 2, .v (.one (.ptr 0 0 0)), .skip 16] [.box [.nil 3, .int .i64, .int .i64]] tm hp fun (xx : (Int × (Int × (Unit × (Unit × (Unit × Unit)))))) (yy : ((Unit × (Int × (Int × Unit))) × Unit)) => f10_p7 xx.1 xx.2.1 yy.1.2.1 yy.1.2.2.1 (fun n0_0 n0_1 n0_2 => K .ret ⟨mkS 21 [(4, .w (.one (.ptr 0 0 0))), (5, I n0_0)], [.box [.p (.sl 3 [] true), .p (pI n0_1), .p (pI n0_2)]]⟩) (fun n1_3 i1_4 n1_5 n1_6 es1_7 => K .ret ⟨mkS 21 [(4, .w (.one (.ptr 0 0 0))), (5, I n1_3)], [.box [.ref 1 i1_4 n1_5, .p (pI n1_6), .p (pI xx.2.1)], .vec 3 es1_7 true]⟩)
noncomputable def f10_tab : List (Nat × Told) := [(7, f10_p7L)]
noncomputable def f10_call : FuncId → List TV → List Entry → (TV → List Entry → Prop) → Prop := addCall 30 f30_G (noCalls)
noncomputable def f10_C : Ctx := { ty := tyOf tab, glob := glob, byRef := byRef, keep := fun k i => lookN [] (lookN [] ([(7, [(0, [0, 1, 4]), (1, [4, 5]), (2, [4, 5])])] : List (Nat × List (Nat × List Nat))) k) i, late := lookN [] ([] : List (Nat × List Nat)), nref := lookN [] ([] : List (Nat × List Nat)), nbox := lookN [] ([] : List (Nat × List (Nat × Nat))), take := [], rnil := false, m := 0, fz := true, loops := lookL f10_tab, call := f10_call }
set_option maxRecDepth 100000 in
theorem f10_p7e0 (n_13 : Int) (n_14 : Int) (n_15 : Int) (n_16 : Int) (K : TExit → St → Prop) : (f10_p7 n_13 n_14 n_15 n_16 (fun n0_17 n0_18 n0_19 => K .ret ⟨mkS 21 [(4, .w (.one (.ptr 0 0 0))), (5, I n0_17)], [.box [.p (.sl 3 [] true), .p (pI n0_18), .p (pI n0_19)]]⟩) (fun n1_20 i1_21 n1_22 n1_23 es1_24 => K .ret ⟨mkS 21 [(4, .w (.one (.ptr 0 0 0))), (5, I n1_20)], [.box [.ref 1 i1_21 n1_22, .p (pI n1_23), .p (pI n_14)], .vec 3 es1_24 true]⟩)) = execT f10_C (nthC (tails (bodyOf Try.f10)) 1) ⟨mkS 21 [(0, I n_13), (1, I n_14), (4, .w (.one (.ptr 0 0 0)))], [.box [.p (.sl 3 [] true), .p (pI n_15), .p (pI n_16)]]⟩ (fun e s => K e (normOut f10_C 7 e s)) := by kernel_rfl
set_option maxHeartbeats 4000000 in
theorem f10_p7_ok : TailOk f10_C (nthC (tails (bodyOf Try.f10)) 1) := by
  refine TailOk.of f10_p7L (by kernel_rfl) fun σ K h => ?_
  have hk : joinKey (nthC (tails (bodyOf Try.f10)) 1) = 7 := by kernel_rfl
  rw [hk] at h ⊢
  generalize hs : normK f10_C 7 σ = s at h
  obtain ⟨tm, hp⟩ := s
  unfold f10_p7L at h
  dsimp only at h
  obtain ⟨xx, yy, rfl, rfl, h⟩ := getS_elim h
  have q : normK f10_C 7 σ = (⟨mkS 21 [(0, I xx.1), (1, I xx.2.1), (4, .w (.one (.ptr 0 0 0)))], [.box [.p (.sl 3 [] true), .p (pI yy.1.2.1), .p (pI yy.1.2.2.1)]]⟩ : St) := hs.trans (by kernel_rfl)
  rw [← hs, q, ← f10_p7e0 xx.1 xx.2.1 yy.1.2.1 yy.1.2.2.1 K]
  exact h
noncomputable def f10_G0 : List TV → List Entry → (TV → List Entry → Prop) → Prop := fun tm hp K => getS [.v (.one (.int .i64)), .v (.one (.int .i64))] [] tm hp fun (xx : (Int × (Int × Unit))) (yy : Unit) => f10 xx.1 xx.2.1 (fun es0_8 full0_9 n0_10 n0_11 n0_12 => K (.tup [.pagg [.sl 3 es0_8 full0_9, pI n0_10, pI n0_11], .one (.p (pI n0_12))]) [])
set_option maxRecDepth 100000 in
theorem f10_eq (n_25 : Int) (n_26 : Int) (K : TV → List Entry → Prop) : (f10_d n_25 n_26 (fun es0_8 full0_9 n0_10 n0_11 n0_12 => K (.tup [.pagg [.sl 3 es0_8 full0_9, pI n0_10, pI n0_11], .one (.p (pI n0_12))]) [])) = funcT f10_C Try.f10 [I n_25, I n_26] [] K := by kernel_rfl
set_option maxHeartbeats 4000000 in
theorem f10_ok0 : FnOk Try.prog glob 10 f10_G0 := by
  refine FnOk.of_text (C := f10_C) tab_ok.ok (Known.add f30_G_ok (Known.none)) follows_ok (fn := Try.f10) (by kernel_rfl) (by kernel_rfl) (by kernel_rfl) (fun c hc => ?_) fun tm hp K h => ?_
  · have e : c = bodyOf Try.f10 := Option.some.inj (hc.symm.trans (by kernel_rfl))
    subst e
    exact ⟨LoopsOk.of [] (by kernel_rfl) trivial, TailsOk.of (tab := f10_tab) rfl [nthC (tails (bodyOf Try.f10)) 1] (by kernel_rfl) ⟨f10_p7_ok, trivial⟩⟩
  · unfold f10_G0 at h
    obtain ⟨xx, yy, rfl, rfl, h⟩ := getS_elim h
    have e := (f10_eq xx.1 xx.2.1 K).trans (show _ = funcT f10_C Try.f10 (mkR _ xx) (mkE _ yy) K by kernel_rfl)
    rw [← e]
    exact h.run
noncomputable abbrev f10_G := f10_G0
theorem f10_G_ok : FnOk Try.prog glob 10 f10_G := f10_ok0
end Go.Eng.N
set_option linter.unusedVariables false
set_option maxRecDepth 100000
open Go Go.Eng Go.Proofs
namespace Go.Eng.N
/-! ### f11: plenum/plenumref55.New -/
noncomputable def f11_p7 (n3 : Int) (n4 : Int) (n5 : Int) (n6 : Int) (k0 : Int → Int → Int → Prop) (k1 : Int → Nat → Nat → Int → (List (List PC)) → Prop) : Prop := bB (decide (n4 < 0)) (k0 6 0 0) (bB (decide (n4 > 6311433599)) (k0 6 0 0) ((0 ≤ n3 ∧ n3 ≤ n3 ∧ n3 * 16 ≤ 2 ^ 46 ∧ n3 ≤ 2 ^ 46) ∧ k1 0 0 (Int.toNat n3) (-1) (List.replicate (Int.toNat n3) [pI 0, pB false, pB false])))
noncomputable def f11_d (n1 : Int) (n2 : Int) (k0 : (List (List PC)) → Bool → Int → Int → Int → Prop) : Prop := bB (decide (n1 < 1)) (k0 [] true 0 0 1) (bB (decide (n1 > 16)) (k0 [] true 0 0 1) (f11_p7 n1 n2 0 0 (fun n7 n8 n9 => k0 [] true n8 n9 n7) (fun n10 i11 n12 n13 es14 => k0 (List.take n12 (List.drop i11 es14)) false n13 n2 n10)))
structure f11 (n1 : Int) (n2 : Int) (k0 : (List (List PC)) → Bool → Int → Int → Int → Prop) : Prop where
  run : f11_d n1 n2 k0
noncomputable def f11_p7L : Told := fun s K => match s with
  | ⟨tm, hp⟩ => getS [.v (.one (.int .i64)), .v (.one (.int .i64)), .skip 2, .v (.one (.ptr 0 0 0)), .skip 19] [.box [.nil 3, .int .i64, .int .i64]] tm hp fun (xx : (Int × (Int × (Unit × (Unit × (Unit × Unit)))))) (yy : ((Unit × (Int × (Int × Unit))) × Unit)) => f11_p7 xx.1 xx.2.1 yy.1.2.1 yy.1.2.2.1 (fun n0_0 n0_1 n0_2 => K .ret ⟨mkS 24 [(4, .w (.one (.ptr 0 0 0))), (5, I n0_0)], [.box [.p (.sl 3 [] true), .p (pI n0_1), .p (pI n0_2)]]⟩) (fun n1_3 i1_4 n1_5 n1_6 es1_7 => K .ret ⟨mkS 24 [(4, .w (.one (.ptr 0 0 0))), (5, I n1_3)], [.box [.ref 1 i1_4 n1_5, .p (pI n1_6), .p (pI xx.2.1)], .vec 3 es1_7 true]⟩)
noncomputable def f11_tab : List (Nat × Told) := [(7, f11_p7L)]
noncomputable def f11_call : FuncId → List TV → List Entry → (TV → List Entry → Prop) → Prop := noCalls
noncomputable def f11_C : Ctx := { ty := tyOf tab, glob := glob, byRef := byRef, keep := fun k i => lookN [] (lookN [] ([(7, [(0, [0, 1, 4]), (1, [4, 5]), (2, [4, 5])])] : List (Nat × List (Nat × List Nat))) k) i, late := lookN [] ([] : List (Nat × List Nat)), nref := lookN [] ([] : List (Nat × List Nat)), nbox := lookN [] ([] : List (Nat × List (Nat × Nat))), take := [], rnil := false, m := 0, fz := true, loops := lookL f11_tab, call := f11_call }
set_option maxRecDepth 100000 in
theorem f11_p7e0 (n_13 : Int) (n_14 : Int) (n_15 : Int) (n_16 : Int) (K : TExit → St → Prop) : (f11_p7 n_13 n_14 n_15 n_16 (fun n0_17 n0_18 n0_19 => K .ret ⟨mkS 24 [(4, .w (.one (.ptr 0 0 0))), (5, I n0_17)], [.box [.p (.sl 3 [] true), .p (pI n0_18), .p (pI n0_19)]]⟩) (fun n1_20 i1_21 n1_22 n1_23 es1_24 => K .ret ⟨mkS 24 [(4, .w (.one (.ptr 0 0 0))), (5, I n1_20)], [.box [.ref 1 i1_21 n1_22, .p (pI n1_23), .p (pI n_14)], .vec 3 es1_24 true]⟩)) = execT f11_C (nthC (tails (bodyOf Try.f11)) 1) ⟨mkS 24 [(0, I n_13), (1, I n_14), (4, .w (.one (.ptr 0 0 0)))], [.box [.p (.sl 3 [] true), .p (pI n_15), .p (pI n_16)]]⟩ (fun e s => K e (normOut f11_C 7 e s)) := by kernel_rfl
set_option maxHeartbeats 4000000 in
theorem f11_p7_ok : TailOk f11_C (nthC (tails (bodyOf Try.f11)) 1) := by
  refine TailOk.of f11_p7L (by kernel_rfl) fun σ K h => ?_
  have hk : joinKey (nthC (tails (bodyOf Try.f11)) 1) = 7 := by kernel_rfl
  rw [hk] at h ⊢
  generalize hs : normK f11_C 7 σ = s at h
  obtain ⟨tm, hp⟩ := s
  unfold f11_p7L at h
  dsimp only at h
  obtain ⟨xx, yy, rfl, rfl, h⟩ := getS_elim h
  have q : normK f11_C 7 σ = (⟨mkS 24 [(0, I xx.1), (1, I xx.2.1), (4, .w (.one (.ptr 0 0 0)))], [.box [.p (.sl 3 [] true), .p (pI yy.1.2.1), .p (pI yy.1.2.2.1)]]⟩ : St) := hs.trans (by kernel_rfl)
  rw [← hs, q, ← f11_p7e0 xx.1 xx.2.1 yy.1.2.1 yy.1.2.2.1 K]
  exact h
noncomputable def f11_G0 : List TV → List Entry → (TV → List Entry → Prop) → Prop := fun tm hp K => getS [.v (.one (.int .i64)), .v (.one (.int .i64))] [] tm hp fun (xx : (Int × (Int × Unit))) (yy : Unit) => f11 xx.1 xx.2.1 (fun es0_8 full0_9 n0_10 n0_11 n0_12 => K (.tup [.pagg [.sl 3 es0_8 full0_9, pI n0_10, pI n0_11], .one (.p (pI n0_12))]) [])
set_option maxRecDepth 100000 in
theorem f11_eq (n_25 : Int) (n_26 : Int) (K : TV → List Entry → Prop) : (f11_d n_25 n_26 (fun es0_8 full0_9 n0_10 n0_11 n0_12 => K (.tup [.pagg [.sl 3 es0_8 full0_9, pI n0_10, pI n0_11], .one (.p (pI n0_12))]) [])) = funcT f11_C Try.f11 [I n_25, I n_26] [] K := by kernel_rfl
set_option maxHeartbeats 4000000 in
theorem f11_ok0 : FnOk Try.prog glob 11 f11_G0 := by
  refine FnOk.of_text (C := f11_C) tab_ok.ok (Known.none) follows_ok (fn := Try.f11) (by kernel_rfl) (by kernel_rfl) (by kernel_rfl) (fun c hc => ?_) fun tm hp K h => ?_
  · have e : c = bodyOf Try.f11 := Option.some.inj (hc.symm.trans (by kernel_rfl))
    subst e
    exact ⟨LoopsOk.of [] (by kernel_rfl) trivial, TailsOk.of (tab := f11_tab) rfl [nthC (tails (bodyOf Try.f11)) 1] (by kernel_rfl) ⟨f11_p7_ok, trivial⟩⟩
  · unfold f11_G0 at h
    obtain ⟨xx, yy, rfl, rfl, h⟩ := getS_elim h
    have e := (f11_eq xx.1 xx.2.1 K).trans (show _ = funcT f11_C Try.f11 (mkR _ xx) (mkE _ yy) K by kernel_rfl)
    rw [← e]
    exact h.run
noncomputable abbrev f11_G := f11_G0
theorem f11_G_ok : FnOk Try.prog glob 11 f11_G := f11_ok0
end Go.Eng.N
set_option linter.unusedVariables false
set_option maxRecDepth 100000
open Go Go.Eng Go.Proofs
namespace Go.Eng.N
/-! ### f31: slices.Max(()int,int) -/
noncomputable def f31_p10b0 (es6 : List (List PC)) (full7 : Bool) (n8 : Int) (n9 : Int) (N0 : Int → Int → Prop) (k0 : Int → Prop) : Prop := bB (decide (n9 < ((es6.length : Nat) : Int))) ((0 ≤ n9 ∧ n9 < ((es6.length : Nat) : Int)) ∧ oI .i64 (ext (List.getD es6 (Int.toNat n9) []) 0 1) fun n10 => N0 (if n10 > n8 then n10 else n8) (w64 (n9 + 1))) (k0 n8)
noncomputable def f31_p10 (es6 : List (List PC)) (full7 : Bool) (k0 : Int → Prop) : Int × Int → Prop := LoopP fun x N => f31_p10b0 es6 full7 x.1 x.2 (fun n8 n9 => N (n8, n9)) k0
noncomputable def f31_p7 (es3 : List (List PC)) (full4 : Bool) (k0 : Int → Prop) : Prop := (0 ≤ (0 : Int) ∧ (0 : Int) < ((es3.length : Nat) : Int)) ∧ oI .i64 (ext (List.getD es3 0 []) 0 1) fun n5 => f31_p10 es3 full4 (fun n11 => k0 n11) (n5, 1)
noncomputable def f31_d (es1 : List (List PC)) (full2 : Bool) (k0 : Int → Prop) : Prop := bB (decide (((es1.length : Nat) : Int) < 1)) (False) (f31_p7 es1 full2 (fun n12 => k0 n12))
structure f31 (es1 : List (List PC)) (full2 : Bool) (k0 : Int → Prop) : Prop where
  run : f31_d es1 full2 k0
noncomputable def f31_p10L : Told := fun s K => match s with
  | ⟨tm, hp⟩ => getS [.v (.one (.sl 1)), .skip 2, .v (.one (.int .i64)), .v (.one (.int .i64)), .skip 20] [] tm hp fun (xx : ((List (List PC) × Bool) × (Unit × (Int × (Int × (Unit × Unit)))))) (yy : Unit) => f31_p10 xx.1.1 xx.1.2 (fun n0_0 => K (.exit 0) ⟨mkS 25 [(3, I n0_0)], []⟩) (xx.2.2.1, xx.2.2.2.1)
noncomputable def f31_p7L : Told := fun s K => match s with
  | ⟨tm, hp⟩ => getS [.v (.one (.sl 1)), .skip 24] [] tm hp fun (xx : ((List (List PC) × Bool) × (Unit × Unit))) (yy : Unit) => f31_p7 xx.1.1 xx.1.2 (fun n0_1 => K .ret ⟨mkS 25 [(2, I n0_1)], []⟩)
noncomputable def f31_tab : List (Nat × Told) := [(10, f31_p10L), (7, f31_p7L)]
noncomputable def f31_call : FuncId → List TV → List Entry → (TV → List Entry → Prop) → Prop := noCalls
noncomputable def f31_C : Ctx := { ty := tyOf tab, glob := glob, byRef := byRef, keep := fun k i => lookN [] (lookN [] ([(10, [(0, [0, 3, 4]), (2, [2]), (3, [3])]), (7, [(0, [0]), (1, [2]), (2, [2])])] : List (Nat × List (Nat × List Nat))) k) i, late := lookN [] ([] : List (Nat × List Nat)), nref := lookN [] ([] : List (Nat × List Nat)), nbox := lookN [] ([] : List (Nat × List (Nat × Nat))), take := [], rnil := false, m := 0, fz := true, loops := lookL f31_tab, call := f31_call }
noncomputable def f31_p10_mk (es6 : List (List PC)) (full7 : Bool) (x : Int × Int) : St := ⟨mkS 25 [(0, .w (.one (.p (.sl 1 es6 full7)))), (3, I x.1), (4, I x.2)], []⟩
set_option maxRecDepth 100000 in
theorem f31_p10e0 (es_7 : List (List PC)) (full_8 : Bool) (n_9 : Int) (n_10 : Int) (N : St → Prop) (K : TExit → St → Prop) : (f31_p10b0 es_7 full_8 n_9 n_10 (fun z2 z3 => N (f31_p10_mk es_7 full_8 (z2, z3))) (fun n0_11 => K (.exit 0) ⟨mkS 25 [(3, I n0_11)], []⟩)) = execT f31_C (nthC (bodies (bodyOf Try.f31)) 0) (f31_p10_mk es_7 full_8 (n_9, n_10)) (loopK N (normK f31_C 10) fun e s => K e (normOut f31_C 10 e s)) := by kernel_rfl
set_option maxRecDepth 100000 in
theorem f31_p7e0 (es_12 : List (List PC)) (full_13 : Bool) (K : TExit → St → Prop) : (f31_p7 es_12 full_13 (fun n0_14 => K .ret ⟨mkS 25 [(2, I n0_14)], []⟩)) = execT f31_C (nthC (tails (bodyOf Try.f31)) 1) ⟨mkS 25 [(0, .w (.one (.p (.sl 1 es_12 full_13))))], []⟩ (fun e s => K e (normOut f31_C 7 e s)) := by kernel_rfl
set_option maxHeartbeats 4000000 in
theorem f31_p10_ok : LoopOk f31_C (nthC (bodies (bodyOf Try.f31)) 0) := by
  refine LoopOk.of f31_p10L (by kernel_rfl) fun σ K h => ?_
  have hk : loopKey (nthC (bodies (bodyOf Try.f31)) 0) = 10 := by kernel_rfl
  rw [hk] at h ⊢
  generalize hs : normK f31_C 10 σ = s at h
  obtain ⟨tm, hp⟩ := s
  unfold f31_p10L at h
  dsimp only at h
  obtain ⟨xx, yy, rfl, rfl, h⟩ := getS_elim h
  refine iter_of (f31_p10_mk xx.1.1 xx.1.2) (fun x N h => ?_) rounds _ σ (hs.trans (by kernel_rfl)) (LoopP.run h)
  obtain ⟨y0, y1⟩ := x
  rw [← f31_p10e0 xx.1.1 xx.1.2 y0 y1 N K]
  exact h
set_option maxHeartbeats 4000000 in
theorem f31_p7_ok : TailOk f31_C (nthC (tails (bodyOf Try.f31)) 1) := by
  refine TailOk.of f31_p7L (by kernel_rfl) fun σ K h => ?_
  have hk : joinKey (nthC (tails (bodyOf Try.f31)) 1) = 7 := by kernel_rfl
  rw [hk] at h ⊢
  generalize hs : normK f31_C 7 σ = s at h
  obtain ⟨tm, hp⟩ := s
  unfold f31_p7L at h
  dsimp only at h
  obtain ⟨xx, yy, rfl, rfl, h⟩ := getS_elim h
  have q : normK f31_C 7 σ = (⟨mkS 25 [(0, .w (.one (.p (.sl 1 xx.1.1 xx.1.2))))], []⟩ : St) := hs.trans (by kernel_rfl)
  rw [← hs, q, ← f31_p7e0 xx.1.1 xx.1.2 K]
  exact h
noncomputable def f31_G0 : List TV → List Entry → (TV → List Entry → Prop) → Prop := fun tm hp K => getS [.v (.one (.sl 1))] [] tm hp fun (xx : ((List (List PC) × Bool) × Unit)) (yy : Unit) => f31 xx.1.1 xx.1.2 (fun n0_2 => K (I n0_2) [])
set_option maxRecDepth 100000 in
theorem f31_eq (es_15 : List (List PC)) (full_16 : Bool) (K : TV → List Entry → Prop) : (f31_d es_15 full_16 (fun n0_2 => K (I n0_2) [])) = funcT f31_C Try.f31 [.w (.one (.p (.sl 1 es_15 full_16)))] [] K := by kernel_rfl
set_option maxHeartbeats 4000000 in
theorem f31_ok0 : FnOk Try.prog glob 31 f31_G0 := by
  refine FnOk.of_text (C := f31_C) tab_ok.ok (Known.none) follows_ok (fn := Try.f31) (by kernel_rfl) (by kernel_rfl) (by kernel_rfl) (fun c hc => ?_) fun tm hp K h => ?_
  · have e : c = bodyOf Try.f31 := Option.some.inj (hc.symm.trans (by kernel_rfl))
    subst e
    exact ⟨LoopsOk.of [nthC (bodies (bodyOf Try.f31)) 0] (by kernel_rfl) ⟨f31_p10_ok, trivial⟩, TailsOk.of (tab := f31_tab) rfl [nthC (tails (bodyOf Try.f31)) 1] (by kernel_rfl) ⟨f31_p7_ok, trivial⟩⟩
  · unfold f31_G0 at h
    obtain ⟨xx, yy, rfl, rfl, h⟩ := getS_elim h
    have e := (f31_eq xx.1.1 xx.1.2 K).trans (show _ = funcT f31_C Try.f31 (mkR _ xx) (mkE _ yy) K by kernel_rfl)
    rw [← e]
    exact h.run
noncomputable abbrev f31_G := f31_G0
theorem f31_G_ok : FnOk Try.prog glob 31 f31_G := f31_ok0
end Go.Eng.N
