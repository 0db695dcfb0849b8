/- What the functions that the law reaches compute, by the engine; written by program. -/
import Derived.Test.YtbecejhjdagkdaaFn1
import Derived.Test.YtbecejhjdagkdaaFn2
set_option linter.unusedVariables false
set_option maxRecDepth 100000
open Go Go.Eng Go.Proofs
namespace Go.Eng.N
/-! ### f32: slices.Min(()int,int) -/
noncomputable def f32_p10b0 (es6 : List (List PC)) (full7 : Bool) (n8 : Int) (n9 : Int) (N0 : Int → Int → Prop) (k0 : Int → Prop) : Prop := bB (decide (n9 < ((es6.length : Nat) : Int))) ((0 ≤ n9 ∧ n9 < ((es6.length : Nat) : Int)) ∧ oI .i64 (ext (List.getD es6 (Int.toNat n9) []) 0 1) fun n10 => N0 (if n10 < n8 then n10 else n8) (w64 (n9 + 1))) (k0 n8)
noncomputable def f32_p10 (es6 : List (List PC)) (full7 : Bool) (k0 : Int → Prop) : Int × Int → Prop := LoopP fun x N => f32_p10b0 es6 full7 x.1 x.2 (fun n8 n9 => N (n8, n9)) k0
noncomputable def f32_p7 (es3 : List (List PC)) (full4 : Bool) (k0 : Int → Prop) : Prop := (0 ≤ (0 : Int) ∧ (0 : Int) < ((es3.length : Nat) : Int)) ∧ oI .i64 (ext (List.getD es3 0 []) 0 1) fun n5 => f32_p10 es3 full4 (fun n11 => k0 n11) (n5, 1)
noncomputable def f32_d (es1 : List (List PC)) (full2 : Bool) (k0 : Int → Prop) : Prop := bB (decide (((es1.length : Nat) : Int) < 1)) (False) (f32_p7 es1 full2 (fun n12 => k0 n12))
structure f32 (es1 : List (List PC)) (full2 : Bool) (k0 : Int → Prop) : Prop where
  run : f32_d es1 full2 k0
noncomputable def f32_p10L : Told := fun s K => match s with
  | ⟨tm, hp⟩ => getS [.v (.one (.sl 1)), .skip 2, .v (.one (.int .i64)), .v (.one (.int .i64)), .skip 20] [] tm hp fun (xx : ((List (List PC) × Bool) × (Unit × (Int × (Int × (Unit × Unit)))))) (yy : Unit) => f32_p10 xx.1.1 xx.1.2 (fun n0_0 => K (.exit 0) ⟨mkS 25 [(3, I n0_0)], []⟩) (xx.2.2.1, xx.2.2.2.1)
noncomputable def f32_p7L : Told := fun s K => match s with
  | ⟨tm, hp⟩ => getS [.v (.one (.sl 1)), .skip 24] [] tm hp fun (xx : ((List (List PC) × Bool) × (Unit × Unit))) (yy : Unit) => f32_p7 xx.1.1 xx.1.2 (fun n0_1 => K .ret ⟨mkS 25 [(2, I n0_1)], []⟩)
noncomputable def f32_tab : List (Nat × Told) := [(10, f32_p10L), (7, f32_p7L)]
noncomputable def f32_call : FuncId → List TV → List Entry → (TV → List Entry → Prop) → Prop := noCalls
noncomputable def f32_C : Ctx := { ty := tyOf tab, glob := glob, byRef := byRef, keep := fun k i => lookN [] (lookN [] ([(10, [(0, [0, 3, 4]), (2, [2]), (3, [3])]), (7, [(0, [0]), (1, [2]), (2, [2])])] : List (Nat × List (Nat × List Nat))) k) i, late := lookN [] ([] : List (Nat × List Nat)), nref := lookN [] ([] : List (Nat × List Nat)), nbox := lookN [] ([] : List (Nat × List (Nat × Nat))), take := [], rnil := false, m := 0, fz := true, loops := lookL f32_tab, call := f32_call }
noncomputable def f32_p10_mk (es6 : List (List PC)) (full7 : Bool) (x : Int × Int) : St := ⟨mkS 25 [(0, .w (.one (.p (.sl 1 es6 full7)))), (3, I x.1), (4, I x.2)], []⟩
set_option maxRecDepth 100000 in
theorem f32_p10e0 (es_7 : List (List PC)) (full_8 : Bool) (n_9 : Int) (n_10 : Int) (N : St → Prop) (K : TExit → St → Prop) : (f32_p10b0 es_7 full_8 n_9 n_10 (fun z2 z3 => N (f32_p10_mk es_7 full_8 (z2, z3))) (fun n0_11 => K (.exit 0) ⟨mkS 25 [(3, I n0_11)], []⟩)) = execT f32_C (nthC (bodies (bodyOf Try.f32)) 0) (f32_p10_mk es_7 full_8 (n_9, n_10)) (loopK N (normK f32_C 10) fun e s => K e (normOut f32_C 10 e s)) := by kernel_rfl
set_option maxRecDepth 100000 in
theorem f32_p7e0 (es_12 : List (List PC)) (full_13 : Bool) (K : TExit → St → Prop) : (f32_p7 es_12 full_13 (fun n0_14 => K .ret ⟨mkS 25 [(2, I n0_14)], []⟩)) = execT f32_C (nthC (tails (bodyOf Try.f32)) 1) ⟨mkS 25 [(0, .w (.one (.p (.sl 1 es_12 full_13))))], []⟩ (fun e s => K e (normOut f32_C 7 e s)) := by kernel_rfl
set_option maxHeartbeats 4000000 in
theorem f32_p10_ok : LoopOk f32_C (nthC (bodies (bodyOf Try.f32)) 0) := by
  refine LoopOk.of f32_p10L (by kernel_rfl) fun σ K h => ?_
  have hk : loopKey (nthC (bodies (bodyOf Try.f32)) 0) = 10 := by kernel_rfl
  rw [hk] at h ⊢
  generalize hs : normK f32_C 10 σ = s at h
  obtain ⟨tm, hp⟩ := s
  unfold f32_p10L at h
  dsimp only at h
  obtain ⟨xx, yy, rfl, rfl, h⟩ := getS_elim h
  refine iter_of (f32_p10_mk xx.1.1 xx.1.2) (fun x N h => ?_) rounds _ σ (hs.trans (by kernel_rfl)) (LoopP.run h)
  obtain ⟨y0, y1⟩ := x
  rw [← f32_p10e0 xx.1.1 xx.1.2 y0 y1 N K]
  exact h
set_option maxHeartbeats 4000000 in
theorem f32_p7_ok : TailOk f32_C (nthC (tails (bodyOf Try.f32)) 1) := by
  refine TailOk.of f32_p7L (by kernel_rfl) fun σ K h => ?_
  have hk : joinKey (nthC (tails (bodyOf Try.f32)) 1) = 7 := by kernel_rfl
  rw [hk] at h ⊢
  generalize hs : normK f32_C 7 σ = s at h
  obtain ⟨tm, hp⟩ := s
  unfold f32_p7L at h
  dsimp only at h
  obtain ⟨xx, yy, rfl, rfl, h⟩ := getS_elim h
  have q : normK f32_C 7 σ = (⟨mkS 25 [(0, .w (.one (.p (.sl 1 xx.1.1 xx.1.2))))], []⟩ : St) := hs.trans (by kernel_rfl)
  rw [← hs, q, ← f32_p7e0 xx.1.1 xx.1.2 K]
  exact h
noncomputable def f32_G0 : List TV → List Entry → (TV → List Entry → Prop) → Prop := fun tm hp K => getS [.v (.one (.sl 1))] [] tm hp fun (xx : ((List (List PC) × Bool) × Unit)) (yy : Unit) => f32 xx.1.1 xx.1.2 (fun n0_2 => K (I n0_2) [])
set_option maxRecDepth 100000 in
theorem f32_eq (es_15 : List (List PC)) (full_16 : Bool) (K : TV → List Entry → Prop) : (f32_d es_15 full_16 (fun n0_2 => K (I n0_2) [])) = funcT f32_C Try.f32 [.w (.one (.p (.sl 1 es_15 full_16)))] [] K := by kernel_rfl
set_option maxHeartbeats 4000000 in
theorem f32_ok0 : FnOk Try.prog glob 32 f32_G0 := by
  refine FnOk.of_text (C := f32_C) tab_ok.ok (Known.none) follows_ok (fn := Try.f32) (by kernel_rfl) (by kernel_rfl) (by kernel_rfl) (fun c hc => ?_) fun tm hp K h => ?_
  · have e : c = bodyOf Try.f32 := Option.some.inj (hc.symm.trans (by kernel_rfl))
    subst e
    exact ⟨LoopsOk.of [nthC (bodies (bodyOf Try.f32)) 0] (by kernel_rfl) ⟨f32_p10_ok, trivial⟩, TailsOk.of (tab := f32_tab) rfl [nthC (tails (bodyOf Try.f32)) 1] (by kernel_rfl) ⟨f32_p7_ok, trivial⟩⟩
  · unfold f32_G0 at h
    obtain ⟨xx, yy, rfl, rfl, h⟩ := getS_elim h
    have e := (f32_eq xx.1.1 xx.1.2 K).trans (show _ = funcT f32_C Try.f32 (mkR _ xx) (mkE _ yy) K by kernel_rfl)
    rw [← e]
    exact h.run
noncomputable abbrev f32_G := f32_G0
theorem f32_G_ok : FnOk Try.prog glob 32 f32_G := f32_ok0
end Go.Eng.N
set_option linter.unusedVariables false
set_option maxRecDepth 100000
open Go Go.Eng Go.Proofs
namespace Go.Eng.N
/-! ### f12: plenum/leadlag.Spread -/
noncomputable def f12_p6b0 (i5 : Nat) (n6 : Nat) (es7 : List (List PC)) (full8 : Bool) (n9 : Int) (n10 : Int) (es11 : List (List PC)) (N0 : Nat → Nat → Int → (List (List PC)) → Prop) (k0 : Nat → Nat → (List (List PC)) → Prop) : Prop := bB (decide (n10 < n9)) ((0 ≤ n10 ∧ n10 < ((es7.length : Nat) : Int)) ∧ cI .i64 (ext (List.getD es7 (Int.toNat n10) []) 0 3) fun n13 r12 => cB r12 fun b15 r14 => cB r14 fun b17 r16 => nilC r16 <| bB (!b17) ((i5 + n6) ≤ es11.length ∧ (n6 + 1) * 8 ≤ 2 ^ 46 ∧ (n6 + 1) ≤ 2 ^ 46 ∧ N0 0 (n6 + 1) (w64 (n10 + 1)) ((List.take n6 (List.drop i5 es11)) ++ [[pI n13]])) (N0 i5 n6 (w64 (n10 + 1)) es11)) (k0 i5 n6 es11)
noncomputable def f12_p6 (es7 : List (List PC)) (full8 : Bool) (n9 : Int) (k0 : Nat → Nat → (List (List PC)) → Prop) : Nat × Nat × Int × (List (List PC)) → Prop := LoopP fun x N => f12_p6b0 x.1 x.2.1 es7 full8 n9 x.2.2.1 x.2.2.2 (fun i5 n6 n10 es11 => N (i5, n6, n10, es11)) k0
noncomputable def f12_d (es1 : List (List PC)) (full2 : Bool) (n3 : Int) (n4 : Int) (k0 : Int → Int → Prop) : Prop := f12_p6 es1 full2 ((es1.length : Nat) : Int) (fun i18 n19 es20 => bB (((n19 : Nat) : Int) == 0) (k0 0 9) (f31 (List.take n19 (List.drop i18 es20)) false (fun n21 => f32 (List.take n19 (List.drop i18 es20)) false (fun n22 => k0 (w64 (n21 - n22)) 0)))) (0, 0, 0, [])
structure f12 (es1 : List (List PC)) (full2 : Bool) (n3 : Int) (n4 : Int) (k0 : Int → Int → Prop) : Prop where
  run : f12_d es1 full2 n3 n4 k0
noncomputable def f12_p6L : Told := fun s K => match s with
  | ⟨tm, hp⟩ => getS [.skip 4, .v (.one (.ref 0)), .skip 3, .v (.one (.sl 3)), .v (.one (.int .i64)), .v (.one (.int .i64)), .skip 20] [.vec 1 true] tm hp fun (xx : (Unit × ((Nat × Nat) × (Unit × ((List (List PC) × Bool) × (Int × (Int × (Unit × Unit)))))))) (yy : ((List (List PC)) × Unit)) => f12_p6 xx.2.2.2.1.1 xx.2.2.2.1.2 xx.2.2.2.2.1 (fun i0_0 n0_1 es0_2 => K (.exit 0) ⟨mkS 31 [(4, .w (.one (.ref 0 i0_0 n0_1)))], [.vec 1 es0_2 true]⟩) (xx.2.1.1, xx.2.1.2, xx.2.2.2.2.2.1, yy.1)
noncomputable def f12_tab : List (Nat × Told) := [(6, f12_p6L)]
noncomputable def f12_call : FuncId → List TV → List Entry → (TV → List Entry → Prop) → Prop := addCall 32 f32_G (addCall 31 f31_G (noCalls))
noncomputable def f12_C : Ctx := { ty := tyOf tab, glob := glob, byRef := byRef, keep := fun k i => lookN [] (lookN [] ([(6, [(0, [4, 8, 9, 10]), (2, [2, 3]), (3, [4])])] : List (Nat × List (Nat × List Nat))) k) i, late := lookN [] ([] : List (Nat × List Nat)), nref := lookN [] ([(6, [4])] : List (Nat × List Nat)), nbox := lookN [] ([] : List (Nat × List (Nat × Nat))), take := [], rnil := false, m := 0, fz := true, loops := lookL f12_tab, call := f12_call }
noncomputable def f12_p6_mk (es7 : List (List PC)) (full8 : Bool) (n9 : Int) (x : Nat × Nat × Int × (List (List PC))) : St := ⟨mkS 31 [(4, .w (.one (.ref 0 x.1 x.2.1))), (8, .w (.one (.p (.sl 3 es7 full8)))), (9, I n9), (10, I x.2.2.1)], [.vec 1 x.2.2.2 true]⟩
set_option maxRecDepth 100000 in
theorem f12_p6e0 (i_12 : Nat) (n_13 : Nat) (es_14 : List (List PC)) (full_15 : Bool) (n_16 : Int) (n_17 : Int) (es_18 : List (List PC)) (N : St → Prop) (K : TExit → St → Prop) : (f12_p6b0 i_12 n_13 es_14 full_15 n_16 n_17 es_18 (fun z0 z1 z5 z6 => N (f12_p6_mk es_14 full_15 n_16 (z0, z1, z5, z6))) (fun i0_19 n0_20 es0_21 => K (.exit 0) ⟨mkS 31 [(4, .w (.one (.ref 0 i0_19 n0_20)))], [.vec 1 es0_21 true]⟩)) = execT f12_C (nthC (bodies (bodyOf Try.f12)) 0) (f12_p6_mk es_14 full_15 n_16 (i_12, n_13, n_17, es_18)) (loopK N (normK f12_C 6) fun e s => K e (normOut f12_C 6 e s)) := by kernel_rfl
set_option maxHeartbeats 4000000 in
theorem f12_p6_ok : LoopOk f12_C (nthC (bodies (bodyOf Try.f12)) 0) := by
  refine LoopOk.of f12_p6L (by kernel_rfl) fun σ K h => ?_
  have hk : loopKey (nthC (bodies (bodyOf Try.f12)) 0) = 6 := by kernel_rfl
  rw [hk] at h ⊢
  generalize hs : normK f12_C 6 σ = s at h
  obtain ⟨tm, hp⟩ := s
  unfold f12_p6L at h
  dsimp only at h
  obtain ⟨xx, yy, rfl, rfl, h⟩ := getS_elim h
  refine iter_of (f12_p6_mk xx.2.2.2.1.1 xx.2.2.2.1.2 xx.2.2.2.2.1) (fun x N h => ?_) rounds _ σ (hs.trans (by kernel_rfl)) (LoopP.run h)
  obtain ⟨y0, y1, y2, y3⟩ := x
  rw [← f12_p6e0 y0 y1 xx.2.2.2.1.1 xx.2.2.2.1.2 xx.2.2.2.2.1 y2 y3 N K]
  exact h
noncomputable def f12_G0 : List TV → List Entry → (TV → List Entry → Prop) → Prop := fun tm hp K => getS [.v (.pagg [.sl 3, .int .i64, .int .i64])] [] tm hp fun (xx : (((List (List PC) × Bool) × (Int × (Int × Unit))) × Unit)) (yy : Unit) => f12 xx.1.1.1 xx.1.1.2 xx.1.2.1 xx.1.2.2.1 (fun n0_3 n0_4 => K (.tup [.one (.p (pI n0_3)), .one (.p (pI n0_4))]) [])
set_option maxRecDepth 100000 in
theorem f12_eq (es_22 : List (List PC)) (full_23 : Bool) (n_24 : Int) (n_25 : Int) (K : TV → List Entry → Prop) : (f12_d es_22 full_23 n_24 n_25 (fun n0_3 n0_4 => K (.tup [.one (.p (pI n0_3)), .one (.p (pI n0_4))]) [])) = funcT f12_C Try.f12 [.w (.pagg [.sl 3 es_22 full_23, pI n_24, pI n_25])] [] K := by kernel_rfl
set_option maxHeartbeats 4000000 in
theorem f12_ok0 : FnOk Try.prog glob 12 f12_G0 := by
  refine FnOk.of_text (C := f12_C) tab_ok.ok (Known.add f32_G_ok (Known.add f31_G_ok (Known.none))) follows_ok (fn := Try.f12) (by kernel_rfl) (by kernel_rfl) (by kernel_rfl) (fun c hc => ?_) fun tm hp K h => ?_
  · have e : c = bodyOf Try.f12 := Option.some.inj (hc.symm.trans (by kernel_rfl))
    subst e
    exact ⟨LoopsOk.of [nthC (bodies (bodyOf Try.f12)) 0] (by kernel_rfl) ⟨f12_p6_ok, trivial⟩, TailsOk.of (tab := f12_tab) rfl [] (by kernel_rfl) trivial⟩
  · unfold f12_G0 at h
    obtain ⟨xx, yy, rfl, rfl, h⟩ := getS_elim h
    have e := (f12_eq xx.1.1.1 xx.1.1.2 xx.1.2.1 xx.1.2.2.1 K).trans (show _ = funcT f12_C Try.f12 (mkR _ xx) (mkE _ yy) K by kernel_rfl)
    rw [← e]
    exact h.run
noncomputable abbrev f12_G := f12_G0
theorem f12_G_ok : FnOk Try.prog glob 12 f12_G := f12_ok0
end Go.Eng.N
set_option linter.unusedVariables false
set_option maxRecDepth 100000
open Go Go.Eng Go.Proofs
namespace Go.Eng.N
/-! ### f13: plenum/plenumref55.Spread -/
noncomputable def f13_p19 (n19 : Int) (n20 : Int) (n21 : Int) (n22 : Int) (es23 : List (List PC)) (full24 : Bool) (n25 : Int) (n26 : Int) (n27 : Int) (b28 : Bool) (b29 : Bool) (k0 : Int → Int → Prop) : Prop := bB (n21 == 0) (k0 n27 (w64 (n21 + 1))) (bB (decide (n27 > n20)) (k0 n27 (w64 (n21 + 1))) (k0 n20 (w64 (n21 + 1))))
noncomputable def f13_p6b0 (n5 : Int) (n6 : Int) (n7 : Int) (n8 : Int) (es9 : List (List PC)) (full10 : Bool) (n11 : Int) (n12 : Int) (N0 : Int → Int → Int → Int → Prop) (k0 : Int → Int → Int → Prop) : Prop := bB (decide (n8 < ((es9.length : Nat) : Int))) ((0 ≤ n8 ∧ n8 < ((es9.length : Nat) : Int)) ∧ cI .i64 (ext (List.getD es9 (Int.toNat n8) []) 0 3) fun n14 r13 => cB r13 fun b16 r15 => cB r15 fun b18 r17 => nilC r17 <| bB b18 (N0 n5 n6 n7 (w64 (n8 + 1))) (bB (n7 == 0) (f13_p19 n14 n6 n7 n8 es9 full10 n11 n12 n14 b16 b18 (fun n30 n31 => N0 n14 n30 n31 (w64 (n8 + 1)))) (bB (decide (n14 < n5)) (f13_p19 n14 n6 n7 n8 es9 full10 n11 n12 n14 b16 b18 (fun n32 n33 => N0 n14 n32 n33 (w64 (n8 + 1)))) (f13_p19 n5 n6 n7 n8 es9 full10 n11 n12 n14 b16 b18 (fun n34 n35 => N0 n5 n34 n35 (w64 (n8 + 1))))))) (k0 n5 n6 n7)
noncomputable def f13_p6 (es9 : List (List PC)) (full10 : Bool) (n11 : Int) (n12 : Int) (k0 : Int → Int → Int → Prop) : Int × Int × Int × Int → Prop := LoopP fun x N => f13_p6b0 x.1 x.2.1 x.2.2.1 x.2.2.2 es9 full10 n11 n12 (fun n5 n6 n7 n8 => N (n5, n6, n7, n8)) k0
noncomputable def f13_d (es1 : List (List PC)) (full2 : Bool) (n3 : Int) (n4 : Int) (k0 : Int → Int → Prop) : Prop := f13_p6 es1 full2 n3 n4 (fun n36 n37 n38 => bB (n38 == 0) (k0 0 9) (k0 (w64 (n37 - n36)) 0)) (0, 0, 0, 0)
structure f13 (es1 : List (List PC)) (full2 : Bool) (n3 : Int) (n4 : Int) (k0 : Int → Int → Prop) : Prop where
  run : f13_d es1 full2 n3 n4 k0
noncomputable def f13_p19L : Told := fun s K => match s with
  | ⟨tm, hp⟩ => getS [.skip 1, .v (.one (.ptr 0 0 0)), .skip 2, .v (.one (.int .i64)), .v (.one (.int .i64)), .v (.one (.int .i64)), .v (.one (.int .i64)), .v (.one (.ptr 1 0 0)), .skip 41] [.box [.sl 3, .int .i64, .int .i64], .box [.int .i64, .bool, .bool]] tm hp fun (xx : (Unit × (Unit × (Unit × (Int × (Int × (Int × (Int × (Unit × (Unit × Unit)))))))))) (yy : (((List (List PC) × Bool) × (Int × (Int × Unit))) × ((Int × (Bool × (Bool × Unit))) × Unit))) => f13_p19 xx.2.2.2.1 xx.2.2.2.2.1 xx.2.2.2.2.2.1 xx.2.2.2.2.2.2.1 yy.1.1.1 yy.1.1.2 yy.1.2.1 yy.1.2.2.1 yy.2.1.1 yy.2.1.2.1 yy.2.1.2.2.1 (fun n0_0 n0_1 => K .normal ⟨mkS 50 [(1, .w (.one (.ptr 0 0 0))), (4, I xx.2.2.2.1), (5, I n0_0), (6, I n0_1), (7, I xx.2.2.2.2.2.2.1)], [.box [.p (.sl 3 yy.1.1.1 yy.1.1.2), .p (pI yy.1.2.1), .p (pI yy.1.2.2.1)]]⟩)
noncomputable def f13_p6L : Told := fun s K => match s with
  | ⟨tm, hp⟩ => getS [.skip 1, .v (.one (.ptr 0 0 0)), .skip 2, .v (.one (.int .i64)), .v (.one (.int .i64)), .v (.one (.int .i64)), .v (.one (.int .i64)), .skip 42] [.box [.sl 3, .int .i64, .int .i64]] tm hp fun (xx : (Unit × (Unit × (Unit × (Int × (Int × (Int × (Int × (Unit × Unit))))))))) (yy : (((List (List PC) × Bool) × (Int × (Int × Unit))) × Unit)) => f13_p6 yy.1.1.1 yy.1.1.2 yy.1.2.1 yy.1.2.2.1 (fun n0_2 n0_3 n0_4 => K (.exit 0) ⟨mkS 50 [(4, I n0_2), (5, I n0_3), (6, I n0_4)], []⟩) (xx.2.2.2.1, xx.2.2.2.2.1, xx.2.2.2.2.2.1, xx.2.2.2.2.2.2.1)
noncomputable def f13_tab : List (Nat × Told) := [(19, f13_p19L), (6, f13_p6L)]
noncomputable def f13_call : FuncId → List TV → List Entry → (TV → List Entry → Prop) → Prop := noCalls
noncomputable def f13_C : Ctx := { ty := tyOf tab, glob := glob, byRef := byRef, keep := fun k i => lookN [] (lookN [] ([(19, [(0, [1, 4, 5, 6, 7, 8]), (1, [1, 4, 5, 6, 7]), (2, [2, 3]), (3, [4, 5, 6]), (4, [1, 4, 5, 6, 7])]), (6, [(0, [1, 4, 5, 6, 7]), (2, [2, 3]), (3, [4, 5, 6])])] : List (Nat × List (Nat × List Nat))) k) i, late := lookN [] ([] : List (Nat × List Nat)), nref := lookN [] ([] : List (Nat × List Nat)), nbox := lookN [] ([] : List (Nat × List (Nat × Nat))), take := [], rnil := false, m := 0, fz := true, loops := lookL f13_tab, call := f13_call }
set_option maxRecDepth 100000 in
theorem f13_p19e0 (n_7 : Int) (n_8 : Int) (n_9 : Int) (n_10 : Int) (es_11 : List (List PC)) (full_12 : Bool) (n_13 : Int) (n_14 : Int) (n_15 : Int) (b_16 : Bool) (b_17 : Bool) (K : TExit → St → Prop) : (f13_p19 n_7 n_8 n_9 n_10 es_11 full_12 n_13 n_14 n_15 b_16 b_17 (fun n0_18 n0_19 => K .normal ⟨mkS 50 [(1, .w (.one (.ptr 0 0 0))), (4, I n_7), (5, I n0_18), (6, I n0_19), (7, I n_10)], [.box [.p (.sl 3 es_11 full_12), .p (pI n_13), .p (pI n_14)]]⟩)) = execT f13_C (nthC (tails (bodyOf Try.f13)) 10) ⟨mkS 50 [(1, .w (.one (.ptr 0 0 0))), (4, I n_7), (5, I n_8), (6, I n_9), (7, I n_10), (8, .w (.one (.ptr 1 0 0)))], [.box [.p (.sl 3 es_11 full_12), .p (pI n_13), .p (pI n_14)], .box [.p (pI n_15), .p (pB b_16), .p (pB b_17)]]⟩ (fun e s => K e (normOut f13_C 19 e s)) := by kernel_rfl
noncomputable def f13_p6_mk (es9 : List (List PC)) (full10 : Bool) (n11 : Int) (n12 : Int) (x : Int × Int × Int × Int) : St := ⟨mkS 50 [(1, .w (.one (.ptr 0 0 0))), (4, I x.1), (5, I x.2.1), (6, I x.2.2.1), (7, I x.2.2.2)], [.box [.p (.sl 3 es9 full10), .p (pI n11), .p (pI n12)]]⟩
set_option maxRecDepth 100000 in
theorem f13_p6e0 (n_28 : Int) (n_29 : Int) (n_30 : Int) (n_31 : Int) (es_32 : List (List PC)) (full_33 : Bool) (n_34 : Int) (n_35 : Int) (N : St → Prop) (K : TExit → St → Prop) : (f13_p6b0 n_28 n_29 n_30 n_31 es_32 full_33 n_34 n_35 (fun z0 z1 z2 z3 => N (f13_p6_mk es_32 full_33 n_34 n_35 (z0, z1, z2, z3))) (fun n0_36 n0_37 n0_38 => K (.exit 0) ⟨mkS 50 [(4, I n0_36), (5, I n0_37), (6, I n0_38)], []⟩)) = execT f13_C (nthC (bodies (bodyOf Try.f13)) 0) (f13_p6_mk es_32 full_33 n_34 n_35 (n_28, n_29, n_30, n_31)) (loopK N (normK f13_C 6) fun e s => K e (normOut f13_C 6 e s)) := by kernel_rfl
set_option maxHeartbeats 4000000 in
theorem f13_p19_ok : TailOk f13_C (nthC (tails (bodyOf Try.f13)) 10) := by
  refine TailOk.of f13_p19L (by kernel_rfl) fun σ K h => ?_
  have hk : joinKey (nthC (tails (bodyOf Try.f13)) 10) = 19 := by kernel_rfl
  rw [hk] at h ⊢
  generalize hs : normK f13_C 19 σ = s at h
  obtain ⟨tm, hp⟩ := s
  unfold f13_p19L at h
  dsimp only at h
  obtain ⟨xx, yy, rfl, rfl, h⟩ := getS_elim h
  have q : normK f13_C 19 σ = (⟨mkS 50 [(1, .w (.one (.ptr 0 0 0))), (4, I xx.2.2.2.1), (5, I xx.2.2.2.2.1), (6, I xx.2.2.2.2.2.1), (7, I xx.2.2.2.2.2.2.1), (8, .w (.one (.ptr 1 0 0)))], [.box [.p (.sl 3 yy.1.1.1 yy.1.1.2), .p (pI yy.1.2.1), .p (pI yy.1.2.2.1)], .box [.p (pI yy.2.1.1), .p (pB yy.2.1.2.1), .p (pB yy.2.1.2.2.1)]]⟩ : St) := hs.trans (by kernel_rfl)
  rw [← hs, q, ← f13_p19e0 xx.2.2.2.1 xx.2.2.2.2.1 xx.2.2.2.2.2.1 xx.2.2.2.2.2.2.1 yy.1.1.1 yy.1.1.2 yy.1.2.1 yy.1.2.2.1 yy.2.1.1 yy.2.1.2.1 yy.2.1.2.2.1 K]
  exact h
set_option maxHeartbeats 4000000 in
theorem f13_p6_ok : LoopOk f13_C (nthC (bodies (bodyOf Try.f13)) 0) := by
  refine LoopOk.of f13_p6L (by kernel_rfl) fun σ K h => ?_
  have hk : loopKey (nthC (bodies (bodyOf Try.f13)) 0) = 6 := by kernel_rfl
  rw [hk] at h ⊢
  generalize hs : normK f13_C 6 σ = s at h
  obtain ⟨tm, hp⟩ := s
  unfold f13_p6L at h
  dsimp only at h
  obtain ⟨xx, yy, rfl, rfl, h⟩ := getS_elim h
  refine iter_of (f13_p6_mk yy.1.1.1 yy.1.1.2 yy.1.2.1 yy.1.2.2.1) (fun x N h => ?_) rounds _ σ (hs.trans (by kernel_rfl)) (LoopP.run h)
  obtain ⟨y0, y1, y2, y3⟩ := x
  rw [← f13_p6e0 y0 y1 y2 y3 yy.1.1.1 yy.1.1.2 yy.1.2.1 yy.1.2.2.1 N K]
  exact h
noncomputable def f13_G0 : List TV → List Entry → (TV → List Entry → Prop) → Prop := fun tm hp K => getS [.v (.pagg [.sl 3, .int .i64, .int .i64])] [] tm hp fun (xx : (((List (List PC) × Bool) × (Int × (Int × Unit))) × Unit)) (yy : Unit) => f13 xx.1.1.1 xx.1.1.2 xx.1.2.1 xx.1.2.2.1 (fun n0_5 n0_6 => K (.tup [.one (.p (pI n0_5)), .one (.p (pI n0_6))]) [])
set_option maxRecDepth 100000 in
theorem f13_eq (es_39 : List (List PC)) (full_40 : Bool) (n_41 : Int) (n_42 : Int) (K : TV → List Entry → Prop) : (f13_d es_39 full_40 n_41 n_42 (fun n0_5 n0_6 => K (.tup [.one (.p (pI n0_5)), .one (.p (pI n0_6))]) [])) = funcT f13_C Try.f13 [.w (.pagg [.sl 3 es_39 full_40, pI n_41, pI n_42])] [] K := by kernel_rfl
set_option maxHeartbeats 4000000 in
theorem f13_ok0 : FnOk Try.prog glob 13 f13_G0 := by
  refine FnOk.of_text (C := f13_C) tab_ok.ok (Known.none) follows_ok (fn := Try.f13) (by kernel_rfl) (by kernel_rfl) (by kernel_rfl) (fun c hc => ?_) fun tm hp K h => ?_
  · have e : c = bodyOf Try.f13 := Option.some.inj (hc.symm.trans (by kernel_rfl))
    subst e
    exact ⟨LoopsOk.of [nthC (bodies (bodyOf Try.f13)) 0] (by kernel_rfl) ⟨f13_p6_ok, trivial⟩, TailsOk.of (tab := f13_tab) rfl [nthC (tails (bodyOf Try.f13)) 10] (by kernel_rfl) ⟨f13_p19_ok, trivial⟩⟩
  · unfold f13_G0 at h
    obtain ⟨xx, yy, rfl, rfl, h⟩ := getS_elim h
    have e := (f13_eq xx.1.1.1 xx.1.1.2 xx.1.2.1 xx.1.2.2.1 K).trans (show _ = funcT f13_C Try.f13 (mkR _ xx) (mkE _ yy) K by kernel_rfl)
    rw [← e]
    exact h.run
noncomputable abbrev f13_G := f13_G0
theorem f13_G_ok : FnOk Try.prog glob 13 f13_G := f13_ok0
end Go.Eng.N
set_option linter.unusedVariables false
set_option maxRecDepth 100000
open Go Go.Eng Go.Proofs
namespace Go.Eng.N
/-! ### f19: plenum/plenumlaw55.ints -/
noncomputable def f19_p8b0 (es5 : List (List PC)) (full6 : Bool) (es7 : List (List PC)) (full8 : Bool) (n9 : Int) (N0 : Int → Prop) (k0 : Bool → Prop) (k1 : Unit → Prop) : Prop := bB (decide (n9 < ((es5.length : Nat) : Int))) ((0 ≤ n9 ∧ n9 < ((es5.length : Nat) : Int)) ∧ oI .i64 (ext (List.getD es5 (Int.toNat n9) []) 0 1) fun n10 => (0 ≤ n9 ∧ n9 < ((es7.length : Nat) : Int)) ∧ oI .i64 (ext (List.getD es7 (Int.toNat n9) []) 0 1) fun n11 => bB (n10 != n11) (k0 false) (N0 (w64 (n9 + 1)))) (k1 ())
noncomputable def f19_p8 (es5 : List (List PC)) (full6 : Bool) (es7 : List (List PC)) (full8 : Bool) (k0 : Bool → Prop) (k1 : Unit → Prop) : Int → Prop := LoopP fun x N => f19_p8b0 es5 full6 es7 full8 x (fun n9 => N n9) k0 k1
noncomputable def f19_d (es1 : List (List PC)) (full2 : Bool) (es3 : List (List PC)) (full4 : Bool) (k0 : Bool → Prop) : Prop := bB (((es1.length : Nat) : Int) != ((es3.length : Nat) : Int)) (k0 false) (f19_p8 es1 full2 es3 full4 (fun b12 => k0 b12) (fun (_ : Unit) => k0 true) 0)
structure f19 (es1 : List (List PC)) (full2 : Bool) (es3 : List (List PC)) (full4 : Bool) (k0 : Bool → Prop) : Prop where
  run : f19_d es1 full2 es3 full4 k0
noncomputable def f19_p8L : Told := fun s K => match s with
  | ⟨tm, hp⟩ => getS [.v (.one (.sl 1)), .v (.one (.sl 1)), .skip 3, .v (.one (.int .i64)), .skip 20] [] tm hp fun (xx : ((List (List PC) × Bool) × ((List (List PC) × Bool) × (Unit × (Int × (Unit × Unit)))))) (yy : Unit) => f19_p8 xx.1.1 xx.1.2 xx.2.1.1 xx.2.1.2 (fun b0_0 => K .ret ⟨mkS 26 [(4, B b0_0)], []⟩) (fun (_ : Unit) => K (.exit 0) ⟨mkS 26 [], []⟩) xx.2.2.2.1
noncomputable def f19_tab : List (Nat × Told) := [(8, f19_p8L)]
noncomputable def f19_call : FuncId → List TV → List Entry → (TV → List Entry → Prop) → Prop := noCalls
noncomputable def f19_C : Ctx := { ty := tyOf tab, glob := glob, byRef := byRef, keep := fun k i => lookN [] (lookN [] ([(8, [(0, [0, 1, 5]), (2, [4]), (3, [])])] : List (Nat × List (Nat × List Nat))) k) i, late := lookN [] ([] : List (Nat × List Nat)), nref := lookN [] ([] : List (Nat × List Nat)), nbox := lookN [] ([] : List (Nat × List (Nat × Nat))), take := [], rnil := false, m := 0, fz := true, loops := lookL f19_tab, call := f19_call }
noncomputable def f19_p8_mk (es5 : List (List PC)) (full6 : Bool) (es7 : List (List PC)) (full8 : Bool) (x : Int) : St := ⟨mkS 26 [(0, .w (.one (.p (.sl 1 es5 full6)))), (1, .w (.one (.p (.sl 1 es7 full8)))), (5, I x)], []⟩
set_option maxRecDepth 100000 in
theorem f19_p8e0 (es_7 : List (List PC)) (full_8 : Bool) (es_9 : List (List PC)) (full_10 : Bool) (n_11 : Int) (N : St → Prop) (K : TExit → St → Prop) : (f19_p8b0 es_7 full_8 es_9 full_10 n_11 (fun z4 => N (f19_p8_mk es_7 full_8 es_9 full_10 z4)) (fun b0_12 => K .ret ⟨mkS 26 [(4, B b0_12)], []⟩) (fun (_ : Unit) => K (.exit 0) ⟨mkS 26 [], []⟩)) = execT f19_C (nthC (bodies (bodyOf Try.f19)) 0) (f19_p8_mk es_7 full_8 es_9 full_10 n_11) (loopK N (normK f19_C 8) fun e s => K e (normOut f19_C 8 e s)) := by kernel_rfl
set_option maxHeartbeats 4000000 in
theorem f19_p8_ok : LoopOk f19_C (nthC (bodies (bodyOf Try.f19)) 0) := by
  refine LoopOk.of f19_p8L (by kernel_rfl) fun σ K h => ?_
  have hk : loopKey (nthC (bodies (bodyOf Try.f19)) 0) = 8 := by kernel_rfl
  rw [hk] at h ⊢
  generalize hs : normK f19_C 8 σ = s at h
  obtain ⟨tm, hp⟩ := s
  unfold f19_p8L at h
  dsimp only at h
  obtain ⟨xx, yy, rfl, rfl, h⟩ := getS_elim h
  refine iter_of (f19_p8_mk xx.1.1 xx.1.2 xx.2.1.1 xx.2.1.2) (fun x N h => ?_) rounds _ σ (hs.trans (by kernel_rfl)) (LoopP.run h)
  rw [← f19_p8e0 xx.1.1 xx.1.2 xx.2.1.1 xx.2.1.2 x N K]
  exact h
noncomputable def f19_G0 : List TV → List Entry → (TV → List Entry → Prop) → Prop := fun tm hp K => getS [.v (.one (.sl 1)), .v (.one (.sl 1))] [] tm hp fun (xx : ((List (List PC) × Bool) × ((List (List PC) × Bool) × Unit))) (yy : Unit) => f19 xx.1.1 xx.1.2 xx.2.1.1 xx.2.1.2 (fun b0_1 => K (B b0_1) [])
set_option maxRecDepth 100000 in
theorem f19_eq (es_13 : List (List PC)) (full_14 : Bool) (es_15 : List (List PC)) (full_16 : Bool) (K : TV → List Entry → Prop) : (f19_d es_13 full_14 es_15 full_16 (fun b0_1 => K (B b0_1) [])) = funcT f19_C Try.f19 [.w (.one (.p (.sl 1 es_13 full_14))), .w (.one (.p (.sl 1 es_15 full_16)))] [] K := by kernel_rfl
set_option maxHeartbeats 4000000 in
theorem f19_ok0 : FnOk Try.prog glob 19 f19_G0 := by
  refine FnOk.of_text (C := f19_C) tab_ok.ok (Known.none) follows_ok (fn := Try.f19) (by kernel_rfl) (by kernel_rfl) (by kernel_rfl) (fun c hc => ?_) fun tm hp K h => ?_
  · have e : c = bodyOf Try.f19 := Option.some.inj (hc.symm.trans (by kernel_rfl))
    subst e
    exact ⟨LoopsOk.of [nthC (bodies (bodyOf Try.f19)) 0] (by kernel_rfl) ⟨f19_p8_ok, trivial⟩, TailsOk.of (tab := f19_tab) rfl [] (by kernel_rfl) trivial⟩
  · unfold f19_G0 at h
    obtain ⟨xx, yy, rfl, rfl, h⟩ := getS_elim h
    have e := (f19_eq xx.1.1 xx.1.2 xx.2.1.1 xx.2.1.2 K).trans (show _ = funcT f19_C Try.f19 (mkR _ xx) (mkE _ yy) K by kernel_rfl)
    rw [← e]
    exact h.run
noncomputable abbrev f19_G := f19_G0
theorem f19_G_ok : FnOk Try.prog glob 19 f19_G := f19_ok0
end Go.Eng.N
set_option linter.unusedVariables false
set_option maxRecDepth 100000
open Go Go.Eng Go.Proofs
namespace Go.Eng.N
/-! ### f24: plenum/leadlag.Short -/
noncomputable def f24_d (es1 : List (List PC)) (full2 : Bool) (n3 : Int) (n4 : Int) (n5 : Int) (k0 : Int → Prop) : Prop := f39_1 es1 full2 n3 n4 (fun n6 => k0 (if (w64 (n5 - n6)) > 0 then (w64 (n5 - n6)) else 0))
structure f24 (es1 : List (List PC)) (full2 : Bool) (n3 : Int) (n4 : Int) (n5 : Int) (k0 : Int → Prop) : Prop where
  run : f24_d es1 full2 n3 n4 n5 k0
noncomputable def f24_tab : List (Nat × Told) := []
noncomputable def f24_call : FuncId → List TV → List Entry → (TV → List Entry → Prop) → Prop := addCall 39 f39_1_G (noCalls)
noncomputable def f24_C : Ctx := { ty := tyOf tab, glob := glob, byRef := byRef, keep := fun k i => lookN [] (lookN [] ([] : List (Nat × List (Nat × List Nat))) k) i, late := lookN [] ([] : List (Nat × List Nat)), nref := lookN [] ([] : List (Nat × List Nat)), nbox := lookN [] ([] : List (Nat × List (Nat × Nat))), take := [], rnil := false, m := 0, fz := true, loops := lookL f24_tab, call := f24_call }
noncomputable def f24_G0 : List TV → List Entry → (TV → List Entry → Prop) → Prop := fun tm hp K => getS [.v (.pagg [.sl 3, .int .i64, .int .i64]), .v (.one (.int .i64))] [] tm hp fun (xx : (((List (List PC) × Bool) × (Int × (Int × Unit))) × (Int × Unit))) (yy : Unit) => f24 xx.1.1.1 xx.1.1.2 xx.1.2.1 xx.1.2.2.1 xx.2.1 (fun n0_0 => K (I n0_0) [])
set_option maxRecDepth 100000 in
theorem f24_eq (es_1 : List (List PC)) (full_2 : Bool) (n_3 : Int) (n_4 : Int) (n_5 : Int) (K : TV → List Entry → Prop) : (f24_d es_1 full_2 n_3 n_4 n_5 (fun n0_0 => K (I n0_0) [])) = funcT f24_C Try.f24 [.w (.pagg [.sl 3 es_1 full_2, pI n_3, pI n_4]), I n_5] [] K := by kernel_rfl
set_option maxHeartbeats 4000000 in
theorem f24_ok0 : FnOk Try.prog glob 24 f24_G0 := by
  refine FnOk.of_text (C := f24_C) tab_ok.ok (Known.add f39_1_G_ok (Known.none)) follows_ok (fn := Try.f24) (by kernel_rfl) (by kernel_rfl) (by kernel_rfl) (fun c hc => ?_) fun tm hp K h => ?_
  · have e : c = bodyOf Try.f24 := Option.some.inj (hc.symm.trans (by kernel_rfl))
    subst e
    exact ⟨LoopsOk.of [] (by kernel_rfl) trivial, TailsOk.of (tab := f24_tab) rfl [] (by kernel_rfl) trivial⟩
  · unfold f24_G0 at h
    obtain ⟨xx, yy, rfl, rfl, h⟩ := getS_elim h
    have e := (f24_eq xx.1.1.1 xx.1.1.2 xx.1.2.1 xx.1.2.2.1 xx.2.1 K).trans (show _ = funcT f24_C Try.f24 (mkR _ xx) (mkE _ yy) K by kernel_rfl)
    rw [← e]
    exact h.run
noncomputable abbrev f24_G := f24_G0
theorem f24_G_ok : FnOk Try.prog glob 24 f24_G := f24_ok0
end Go.Eng.N
set_option linter.unusedVariables false
set_option maxRecDepth 100000
open Go Go.Eng Go.Proofs
namespace Go.Eng.N
/-! ### f25: plenum/plenumref55.Short -/
noncomputable def f25_d (es1 : List (List PC)) (full2 : Bool) (n3 : Int) (n4 : Int) (n5 : Int) (k0 : Int → Prop) : Prop := f23_1 es1 full2 n3 n4 (fun i6 n7 es8 => k0 (if (w64 (n5 - ((n7 : Nat) : Int))) > 0 then (w64 (n5 - ((n7 : Nat) : Int))) else 0))
structure f25 (es1 : List (List PC)) (full2 : Bool) (n3 : Int) (n4 : Int) (n5 : Int) (k0 : Int → Prop) : Prop where
  run : f25_d es1 full2 n3 n4 n5 k0
noncomputable def f25_tab : List (Nat × Told) := []
noncomputable def f25_call : FuncId → List TV → List Entry → (TV → List Entry → Prop) → Prop := addCall 23 f23_1_G (noCalls)
noncomputable def f25_C : Ctx := { ty := tyOf tab, glob := glob, byRef := byRef, keep := fun k i => lookN [] (lookN [] ([] : List (Nat × List (Nat × List Nat))) k) i, late := lookN [] ([] : List (Nat × List Nat)), nref := lookN [] ([] : List (Nat × List Nat)), nbox := lookN [] ([] : List (Nat × List (Nat × Nat))), take := [], rnil := false, m := 0, fz := true, loops := lookL f25_tab, call := f25_call }
noncomputable def f25_G0 : List TV → List Entry → (TV → List Entry → Prop) → Prop := fun tm hp K => getS [.v (.pagg [.sl 3, .int .i64, .int .i64]), .v (.one (.int .i64))] [] tm hp fun (xx : (((List (List PC) × Bool) × (Int × (Int × Unit))) × (Int × Unit))) (yy : Unit) => f25 xx.1.1.1 xx.1.1.2 xx.1.2.1 xx.1.2.2.1 xx.2.1 (fun n0_0 => K (I n0_0) [])
set_option maxRecDepth 100000 in
theorem f25_eq (es_1 : List (List PC)) (full_2 : Bool) (n_3 : Int) (n_4 : Int) (n_5 : Int) (K : TV → List Entry → Prop) : (f25_d es_1 full_2 n_3 n_4 n_5 (fun n0_0 => K (I n0_0) [])) = funcT f25_C Try.f25 [.w (.pagg [.sl 3 es_1 full_2, pI n_3, pI n_4]), I n_5] [] K := by kernel_rfl
set_option maxHeartbeats 4000000 in
theorem f25_ok0 : FnOk Try.prog glob 25 f25_G0 := by
  refine FnOk.of_text (C := f25_C) tab_ok.ok (Known.add f23_1_G_ok (Known.none)) follows_ok (fn := Try.f25) (by kernel_rfl) (by kernel_rfl) (by kernel_rfl) (fun c hc => ?_) fun tm hp K h => ?_
  · have e : c = bodyOf Try.f25 := Option.some.inj (hc.symm.trans (by kernel_rfl))
    subst e
    exact ⟨LoopsOk.of [] (by kernel_rfl) trivial, TailsOk.of (tab := f25_tab) rfl [] (by kernel_rfl) trivial⟩
  · unfold f25_G0 at h
    obtain ⟨xx, yy, rfl, rfl, h⟩ := getS_elim h
    have e := (f25_eq xx.1.1.1 xx.1.1.2 xx.1.2.1 xx.1.2.2.1 xx.2.1 K).trans (show _ = funcT f25_C Try.f25 (mkR _ xx) (mkE _ yy) K by kernel_rfl)
    rw [← e]
    exact h.run
noncomputable abbrev f25_G := f25_G0
theorem f25_G_ok : FnOk Try.prog glob 25 f25_G := f25_ok0
end Go.Eng.N
set_option linter.unusedVariables false
set_option maxRecDepth 100000
open Go Go.Eng Go.Proofs
namespace Go.Eng.N
/-! ### f8: plenum/plenumlaw55.awake -/
noncomputable def f8_p10b0 (n6 : Int) (i7 : Nat) (n8 : Nat) (n9 : Int) (es10 : List (List PC)) (full11 : Bool) (n12 : Int) (n13 : Int) (n14 : Int) (n15 : Int) (es16 : List (List PC)) (N0 : Int → (List (List PC)) → Prop) (k0 : (List (List PC)) → Prop) : Prop := bB (decide (n9 < ((n8 : Nat) : Int))) ((0 ≤ n9 ∧ n9 < ((n8 : Nat) : Int)) ∧ (i7 + (Int.toNat n9)) < es16.length ∧ N0 (w64 (n9 + 1)) (List.set es16 (i7 + (Int.toNat n9)) (splice (List.getD es16 (i7 + (Int.toNat n9)) []) 0 [pI 1]))) (k0 es16)
noncomputable def f8_p10 (n6 : Int) (i7 : Nat) (n8 : Nat) (es10 : List (List PC)) (full11 : Bool) (n12 : Int) (n13 : Int) (n14 : Int) (n15 : Int) (k0 : (List (List PC)) → Prop) : Int × (List (List PC)) → Prop := LoopP fun x N => f8_p10b0 n6 i7 n8 x.1 es10 full11 n12 n13 n14 n15 x.2 (fun n9 es16 => N (n9, es16)) k0
noncomputable def f8_p26b0 (i53 : Nat) (n54 : Nat) (i55 : Nat) (n56 : Nat) (es57 : List (List PC)) (full58 : Bool) (es59 : List (List PC)) (full60 : Bool) (n61 : Int) (es62 : List (List PC)) (full63 : Bool) (n64 : Int) (n65 : Int) (n66 : Int) (n67 : Int) (es68 : List (List PC)) (es69 : List (List PC)) (N0 : Int → (List (List PC)) → Prop) (k0 : (List (List PC)) → Prop) : Prop := bB (decide (n61 < 50)) ((0 ≤ n61 ∧ n61 < ((n54 : Nat) : Int)) ∧ (i53 + (Int.toNat n61)) < es68.length ∧ N0 (w64 (n61 + 1)) (List.set es68 (i53 + (Int.toNat n61)) (splice (List.getD es68 (i53 + (Int.toNat n61)) []) 0 [pI 2]))) (k0 es68)
noncomputable def f8_p26 (i53 : Nat) (n54 : Nat) (i55 : Nat) (n56 : Nat) (es57 : List (List PC)) (full58 : Bool) (es59 : List (List PC)) (full60 : Bool) (es62 : List (List PC)) (full63 : Bool) (n64 : Int) (n65 : Int) (n66 : Int) (n67 : Int) (es69 : List (List PC)) (k0 : (List (List PC)) → Prop) : Int × (List (List PC)) → Prop := LoopP fun x N => f8_p26b0 i53 n54 i55 n56 es57 full58 es59 full60 x.1 es62 full63 n64 n65 n66 n67 x.2 es69 (fun n61 es68 => N (n61, es68)) k0
noncomputable def f8_p39 (i76 : Nat) (n77 : Nat) (es78 : List (List PC)) (full79 : Bool) (es80 : List (List PC)) (full81 : Bool) (i82 : Nat) (n83 : Nat) (es84 : List (List PC)) (full85 : Bool) (n86 : Int) (n87 : Int) (n88 : Int) (n89 : Int) (es90 : List (List PC)) (es91 : List (List PC)) (k0 : Bool → Prop) : Prop := (0 ≤ (50 : Int) ∧ (50 : Int) < ((n83 : Nat) : Int)) ∧ cL 3 (ext (List.getD es91 (i82 + 50) []) 0 3) fun es93 full94 r92 => cI .i64 r92 fun n96 r95 => cI .i64 r95 fun n98 r97 => nilC r97 <| f22 es93 full94 n96 n98 (fun es99 full100 => (0 ≤ (50 : Int) ∧ (50 : Int) < ((n83 : Nat) : Int)) ∧ cL 3 (ext (List.getD es91 (i82 + 50) []) 0 3) fun es102 full103 r101 => cI .i64 r101 fun n105 r104 => cI .i64 r104 fun n107 r106 => nilC r106 <| f12 es102 full103 n105 n107 (fun n108 n109 => (0 ≤ (0 : Int) ∧ (0 : Int) < ((es78.length : Nat) : Int)) ∧ oI .i64 (ext (List.getD es78 0 []) 0 1) fun n110 => bB (n110 == 0) ((0 ≤ (0 : Int) ∧ (0 : Int) < ((es80.length : Nat) : Int)) ∧ oI .i64 (ext (List.getD es80 0 []) 0 1) fun n111 => bB (n111 == 1) ((0 ≤ (100 : Int) ∧ (100 : Int) < ((n77 : Nat) : Int)) ∧ oL 3 (ext (List.getD es90 (i76 + 100) []) 0 1) fun es112 full113 => (0 ≤ (0 : Int) ∧ (0 : Int) < ((es112.length : Nat) : Int)) ∧ oI .i64 (ext (List.getD es112 0 []) 0 1) fun n114 => bB (n114 == 100) (bB (((es99.length : Nat) : Int) == 1) ((0 ≤ (0 : Int) ∧ (0 : Int) < ((es99.length : Nat) : Int)) ∧ oI .i64 (ext (List.getD es99 0 []) 0 1) fun n115 => bB (n115 == 1) (bB (n109 == 0) (bB (n108 == 10) ((0 ≤ (5 : Int) ∧ (5 : Int) < ((n83 : Nat) : Int)) ∧ cL 3 (ext (List.getD es91 (i82 + 5) []) 0 3) fun es117 full118 r116 => cI .i64 r116 fun n120 r119 => cI .i64 r119 fun n122 r121 => nilC r121 <| f24 es117 full118 n120 n122 2 (fun n123 => bB (n123 == 1) ((0 ≤ (10 : Int) ∧ (10 : Int) < ((n83 : Nat) : Int)) ∧ cL 3 (ext (List.getD es91 (i82 + 10) []) 0 3) fun es125 full126 r124 => cI .i64 r124 fun n128 r127 => cI .i64 r127 fun n130 r129 => nilC r129 <| f22 es125 full126 n128 n130 (fun es131 full132 => bB (((es131.length : Nat) : Int) == 2) ((0 ≤ (50 : Int) ∧ (50 : Int) < ((n83 : Nat) : Int)) ∧ cL 3 (ext (List.getD es91 (i82 + 50) []) 0 3) fun es134 full135 r133 => cI .i64 r133 fun n137 r136 => cI .i64 r136 fun n139 r138 => nilC r138 <| f20_1 es134 full135 n137 n139 (fun i140 n141 es142 => (0 ≤ (0 : Int) ∧ (0 : Int) < ((n141 : Nat) : Int)) ∧ oI .i64 (ext (List.getD es142 i140 []) 0 1) fun n143 => bB (n143 == 1) (f14 n88 n89 es84 full85 n86 n87 (fun n144 => k0 (n144 == 0))) (k0 false))) (k0 false))) (k0 false))) (k0 false)) (k0 false)) (k0 false)) (k0 false)) (k0 false)) (k0 false)) (k0 false)))
noncomputable def f8_p23 (i23 : Nat) (n24 : Nat) (i25 : Nat) (n26 : Nat) (es27 : List (List PC)) (full28 : Bool) (n29 : Int) (n30 : Int) (n31 : Int) (n32 : Int) (es33 : List (List PC)) (es34 : List (List PC)) (k0 : Bool → Prop) : Prop := (0 ≤ (99 : Int) ∧ (99 : Int) < ((n26 : Nat) : Int)) ∧ cL 3 (ext (List.getD es34 (i25 + 99) []) 0 3) fun es36 full37 r35 => cI .i64 r35 fun n39 r38 => cI .i64 r38 fun n41 r40 => nilC r40 <| (0 ≤ (100 : Int) ∧ (100 : Int) < ((n26 : Nat) : Int)) ∧ cL 3 (ext (List.getD es34 (i25 + 100) []) 0 3) fun es43 full44 r42 => cI .i64 r42 fun n46 r45 => cI .i64 r45 fun n48 r47 => nilC r47 <| f22 es36 full37 n39 n41 (fun es49 full50 => f22 es43 full44 n46 n48 (fun es51 full52 => f8_p26 i23 n24 i25 n26 es49 full50 es51 full52 es27 full28 n29 n30 n31 n32 es34 (fun es70 => (0 ≤ (0 : Int) ∧ (0 : Int) ≤ 51 ∧ (51 : Int) ≤ ((n24 : Nat) : Int)) ∧ f26 n31 n32 es27 full28 n29 n30 (i23 + 0) 51 0 es70 (fun i71 n72 n73 es74 es75 => bB (n73 != 0) (k0 false) (bB (((n72 : Nat) : Int) != 51) (k0 false) (bB (((es49.length : Nat) : Int) != 1) (k0 false) (bB (((es51.length : Nat) : Int) != 1) (k0 false) (f8_p39 i25 n26 es49 full50 es51 full52 i71 n72 es27 full28 n29 n30 n31 n32 es34 es75 (fun b145 => k0 b145))))))) (0, es33)))
noncomputable def f8_d (k0 : Bool → Prop) : Prop := f10 2 0 (fun es1 full2 n3 n4 n5 => (0 ≤ (101 : Int) ∧ (101 : Int) ≤ 101 ∧ (101 : Int) * 8 ≤ 2 ^ 46 ∧ (101 : Int) ≤ 2 ^ 46) ∧ f8_p10 n5 0 101 es1 full2 n3 n4 100 10 (fun es17 => f26 100 10 es1 full2 n3 n4 0 101 0 es17 (fun i18 n19 n20 es21 es22 => bB (n5 != 0) (k0 false) (bB (n20 != 0) (k0 false) (bB (((n19 : Nat) : Int) != 101) (k0 false) (f8_p23 0 101 i18 n19 es1 full2 n3 n4 100 10 es21 es22 (fun b146 => k0 b146)))))) (0, (List.replicate 101 [pI 0])))
structure f8 (k0 : Bool → Prop) : Prop where
  run : f8_d k0
noncomputable def f8_p10L : Told := fun s K => match s with
  | ⟨tm, hp⟩ => getS [.skip 1, .v (.one (.ptr 0 0 0)), .v (.one (.int .i64)), .v (.one (.ptr 1 0 0)), .v (.one (.ref 2)), .v (.one (.int .i64)), .skip 163] [.box [.sl 3, .int .i64, .int .i64], .box [.int .i64, .int .i64], .vec 1 true] tm hp fun (xx : (Unit × (Unit × (Int × (Unit × ((Nat × Nat) × (Int × (Unit × Unit)))))))) (yy : (((List (List PC) × Bool) × (Int × (Int × Unit))) × ((Int × (Int × Unit)) × ((List (List PC)) × Unit)))) => f8_p10 xx.2.2.1 xx.2.2.2.2.1.1 xx.2.2.2.2.1.2 yy.1.1.1 yy.1.1.2 yy.1.2.1 yy.1.2.2.1 yy.2.1.1 yy.2.1.2.1 (fun es0_0 => K (.exit 0) ⟨mkS 169 [(1, .w (.one (.ptr 0 0 0))), (2, I xx.2.2.1), (3, .w (.one (.ptr 1 0 0))), (4, .w (.one (.ref 2 xx.2.2.2.2.1.1 xx.2.2.2.2.1.2)))], [.box [.p (.sl 3 yy.1.1.1 yy.1.1.2), .p (pI yy.1.2.1), .p (pI yy.1.2.2.1)], .box [.p (pI yy.2.1.1), .p (pI yy.2.1.2.1)], .vec 1 es0_0 true]⟩) (xx.2.2.2.2.2.1, yy.2.2.1)
noncomputable def f8_p26L : Told := fun s K => match s with
  | ⟨tm, hp⟩ => getS [.skip 1, .v (.one (.ptr 0 0 0)), .skip 1, .v (.one (.ptr 1 0 0)), .v (.one (.ref 2)), .skip 1, .v (.one (.ref 3)), .skip 1, .v (.one (.sl 1)), .v (.one (.sl 1)), .v (.one (.int .i64)), .skip 158] [.box [.sl 3, .int .i64, .int .i64], .box [.int .i64, .int .i64], .vec 1 true, .vec 3 true] tm hp fun (xx : (Unit × (Unit × (Unit × (Unit × ((Nat × Nat) × (Unit × ((Nat × Nat) × (Unit × ((List (List PC) × Bool) × ((List (List PC) × Bool) × (Int × (Unit × Unit))))))))))))) (yy : (((List (List PC) × Bool) × (Int × (Int × Unit))) × ((Int × (Int × Unit)) × ((List (List PC)) × ((List (List PC)) × Unit))))) => f8_p26 xx.2.2.2.2.1.1 xx.2.2.2.2.1.2 xx.2.2.2.2.2.2.1.1 xx.2.2.2.2.2.2.1.2 xx.2.2.2.2.2.2.2.2.1.1 xx.2.2.2.2.2.2.2.2.1.2 xx.2.2.2.2.2.2.2.2.2.1.1 xx.2.2.2.2.2.2.2.2.2.1.2 yy.1.1.1 yy.1.1.2 yy.1.2.1 yy.1.2.2.1 yy.2.1.1 yy.2.1.2.1 yy.2.2.2.1 (fun es0_1 => K (.exit 2) ⟨mkS 169 [(1, .w (.one (.ptr 0 0 0))), (3, .w (.one (.ptr 1 0 0))), (4, .w (.one (.ref 2 xx.2.2.2.2.1.1 xx.2.2.2.2.1.2))), (6, .w (.one (.ref 3 xx.2.2.2.2.2.2.1.1 xx.2.2.2.2.2.2.1.2))), (8, .w (.one (.p (.sl 1 xx.2.2.2.2.2.2.2.2.1.1 xx.2.2.2.2.2.2.2.2.1.2)))), (9, .w (.one (.p (.sl 1 xx.2.2.2.2.2.2.2.2.2.1.1 xx.2.2.2.2.2.2.2.2.2.1.2))))], [.box [.p (.sl 3 yy.1.1.1 yy.1.1.2), .p (pI yy.1.2.1), .p (pI yy.1.2.2.1)], .box [.p (pI yy.2.1.1), .p (pI yy.2.1.2.1)], .vec 1 es0_1 true, .vec 3 yy.2.2.2.1 true]⟩) (xx.2.2.2.2.2.2.2.2.2.2.1, yy.2.2.1)
noncomputable def f8_p39L : Told := fun s K => match s with
  | ⟨tm, hp⟩ => getS [.skip 1, .v (.one (.ptr 0 0 0)), .skip 1, .v (.one (.ptr 1 0 0)), .skip 2, .v (.one (.ref 2)), .skip 1, .v (.one (.sl 1)), .v (.one (.sl 1)), .skip 1, .v (.one (.ref 3)), .skip 157] [.box [.sl 3, .int .i64, .int .i64], .box [.int .i64, .int .i64], .vec 3 true, .vec 3 true] tm hp fun (xx : (Unit × (Unit × (Unit × (Unit × (Unit × ((Nat × Nat) × (Unit × ((List (List PC) × Bool) × ((List (List PC) × Bool) × (Unit × ((Nat × Nat) × (Unit × Unit))))))))))))) (yy : (((List (List PC) × Bool) × (Int × (Int × Unit))) × ((Int × (Int × Unit)) × ((List (List PC)) × ((List (List PC)) × Unit))))) => f8_p39 xx.2.2.2.2.2.1.1 xx.2.2.2.2.2.1.2 xx.2.2.2.2.2.2.2.1.1 xx.2.2.2.2.2.2.2.1.2 xx.2.2.2.2.2.2.2.2.1.1 xx.2.2.2.2.2.2.2.2.1.2 xx.2.2.2.2.2.2.2.2.2.2.1.1 xx.2.2.2.2.2.2.2.2.2.2.1.2 yy.1.1.1 yy.1.1.2 yy.1.2.1 yy.1.2.2.1 yy.2.1.1 yy.2.1.2.1 yy.2.2.1 yy.2.2.2.1 (fun b0_2 => K .ret ⟨mkS 169 [(0, B b0_2)], []⟩)
noncomputable def f8_p23L : Told := fun s K => match s with
  | ⟨tm, hp⟩ => getS [.skip 1, .v (.one (.ptr 0 0 0)), .skip 1, .v (.one (.ptr 1 0 0)), .v (.one (.ref 2)), .skip 1, .v (.one (.ref 3)), .skip 162] [.box [.sl 3, .int .i64, .int .i64], .box [.int .i64, .int .i64], .vec 1 true, .vec 3 true] tm hp fun (xx : (Unit × (Unit × (Unit × (Unit × ((Nat × Nat) × (Unit × ((Nat × Nat) × (Unit × Unit))))))))) (yy : (((List (List PC) × Bool) × (Int × (Int × Unit))) × ((Int × (Int × Unit)) × ((List (List PC)) × ((List (List PC)) × Unit))))) => f8_p23 xx.2.2.2.2.1.1 xx.2.2.2.2.1.2 xx.2.2.2.2.2.2.1.1 xx.2.2.2.2.2.2.1.2 yy.1.1.1 yy.1.1.2 yy.1.2.1 yy.1.2.2.1 yy.2.1.1 yy.2.1.2.1 yy.2.2.1 yy.2.2.2.1 (fun b0_3 => K .ret ⟨mkS 169 [(0, B b0_3)], []⟩)
noncomputable def f8_tab : List (Nat × Told) := [(10, f8_p10L), (26, f8_p26L), (39, f8_p39L), (23, f8_p23L)]
noncomputable def f8_call : FuncId → List TV → List Entry → (TV → List Entry → Prop) → Prop := addCall 26 f26_G (addCall 24 f24_G (addCall 22 f22_G (addCall 20 f20_1_G (addCall 14 f14_G (addCall 12 f12_G (addCall 10 f10_G (noCalls)))))))
noncomputable def f8_C : Ctx := { ty := tyOf tab, glob := glob, byRef := byRef, keep := fun k i => lookN [] (lookN [] ([(10, [(0, [1, 2, 3, 4, 5]), (2, [0]), (3, [1, 2, 3, 4])]), (26, [(0, [1, 3, 4, 6, 8, 9, 10]), (2, [0]), (5, [1, 3, 4, 6, 8, 9])]), (39, [(0, [1, 3, 6, 8, 9, 11]), (1, [0]), (2, [0])]), (23, [(0, [1, 3, 4, 6]), (1, [0]), (2, [0])])] : List (Nat × List (Nat × List Nat))) k) i, late := lookN [] ([] : List (Nat × List Nat)), nref := lookN [] ([] : List (Nat × List Nat)), nbox := lookN [] ([] : List (Nat × List (Nat × Nat))), take := [], rnil := false, m := 0, fz := true, loops := lookL f8_tab, call := f8_call }
noncomputable def f8_p10_mk (n6 : Int) (i7 : Nat) (n8 : Nat) (es10 : List (List PC)) (full11 : Bool) (n12 : Int) (n13 : Int) (n14 : Int) (n15 : Int) (x : Int × (List (List PC))) : St := ⟨mkS 169 [(1, .w (.one (.ptr 0 0 0))), (2, I n6), (3, .w (.one (.ptr 1 0 0))), (4, .w (.one (.ref 2 i7 n8))), (5, I x.1)], [.box [.p (.sl 3 es10 full11), .p (pI n12), .p (pI n13)], .box [.p (pI n14), .p (pI n15)], .vec 1 x.2 true]⟩
set_option maxRecDepth 100000 in
theorem f8_p10e0 (n_16 : Int) (i_17 : Nat) (n_18 : Nat) (n_19 : Int) (es_20 : List (List PC)) (full_21 : Bool) (n_22 : Int) (n_23 : Int) (n_24 : Int) (n_25 : Int) (es_26 : List (List PC)) (N : St → Prop) (K : TExit → St → Prop) : (f8_p10b0 n_16 i_17 n_18 n_19 es_20 full_21 n_22 n_23 n_24 n_25 es_26 (fun z3 z10 => N (f8_p10_mk n_16 i_17 n_18 es_20 full_21 n_22 n_23 n_24 n_25 (z3, z10))) (fun es0_27 => K (.exit 0) ⟨mkS 169 [(1, .w (.one (.ptr 0 0 0))), (2, I n_16), (3, .w (.one (.ptr 1 0 0))), (4, .w (.one (.ref 2 i_17 n_18)))], [.box [.p (.sl 3 es_20 full_21), .p (pI n_22), .p (pI n_23)], .box [.p (pI n_24), .p (pI n_25)], .vec 1 es0_27 true]⟩)) = execT f8_C (nthC (bodies (bodyOf Try.f8)) 0) (f8_p10_mk n_16 i_17 n_18 es_20 full_21 n_22 n_23 n_24 n_25 (n_19, es_26)) (loopK N (normK f8_C 10) fun e s => K e (normOut f8_C 10 e s)) := by kernel_rfl
noncomputable def f8_p26_mk (i53 : Nat) (n54 : Nat) (i55 : Nat) (n56 : Nat) (es57 : List (List PC)) (full58 : Bool) (es59 : List (List PC)) (full60 : Bool) (es62 : List (List PC)) (full63 : Bool) (n64 : Int) (n65 : Int) (n66 : Int) (n67 : Int) (es69 : List (List PC)) (x : Int × (List (List PC))) : St := ⟨mkS 169 [(1, .w (.one (.ptr 0 0 0))), (3, .w (.one (.ptr 1 0 0))), (4, .w (.one (.ref 2 i53 n54))), (6, .w (.one (.ref 3 i55 n56))), (8, .w (.one (.p (.sl 1 es57 full58)))), (9, .w (.one (.p (.sl 1 es59 full60)))), (10, I x.1)], [.box [.p (.sl 3 es62 full63), .p (pI n64), .p (pI n65)], .box [.p (pI n66), .p (pI n67)], .vec 1 x.2 true, .vec 3 es69 true]⟩
set_option maxRecDepth 100000 in
theorem f8_p26e0 (i_45 : Nat) (n_46 : Nat) (i_47 : Nat) (n_48 : Nat) (es_49 : List (List PC)) (full_50 : Bool) (es_51 : List (List PC)) (full_52 : Bool) (n_53 : Int) (es_54 : List (List PC)) (full_55 : Bool) (n_56 : Int) (n_57 : Int) (n_58 : Int) (n_59 : Int) (es_60 : List (List PC)) (es_61 : List (List PC)) (N : St → Prop) (K : TExit → St → Prop) : (f8_p26b0 i_45 n_46 i_47 n_48 es_49 full_50 es_51 full_52 n_53 es_54 full_55 n_56 n_57 n_58 n_59 es_60 es_61 (fun z8 z15 => N (f8_p26_mk i_45 n_46 i_47 n_48 es_49 full_50 es_51 full_52 es_54 full_55 n_56 n_57 n_58 n_59 es_61 (z8, z15))) (fun es0_62 => K (.exit 2) ⟨mkS 169 [(1, .w (.one (.ptr 0 0 0))), (3, .w (.one (.ptr 1 0 0))), (4, .w (.one (.ref 2 i_45 n_46))), (6, .w (.one (.ref 3 i_47 n_48))), (8, .w (.one (.p (.sl 1 es_49 full_50)))), (9, .w (.one (.p (.sl 1 es_51 full_52))))], [.box [.p (.sl 3 es_54 full_55), .p (pI n_56), .p (pI n_57)], .box [.p (pI n_58), .p (pI n_59)], .vec 1 es0_62 true, .vec 3 es_61 true]⟩)) = execT f8_C (nthC (bodies (bodyOf Try.f8)) 1) (f8_p26_mk i_45 n_46 i_47 n_48 es_49 full_50 es_51 full_52 es_54 full_55 n_56 n_57 n_58 n_59 es_61 (n_53, es_60)) (loopK N (normK f8_C 26) fun e s => K e (normOut f8_C 26 e s)) := by kernel_rfl
set_option maxRecDepth 100000 in
theorem f8_p39e0 (i_63 : Nat) (n_64 : Nat) (es_65 : List (List PC)) (full_66 : Bool) (es_67 : List (List PC)) (full_68 : Bool) (i_69 : Nat) (n_70 : Nat) (es_71 : List (List PC)) (full_72 : Bool) (n_73 : Int) (n_74 : Int) (n_75 : Int) (n_76 : Int) (es_77 : List (List PC)) (es_78 : List (List PC)) (K : TExit → St → Prop) : (f8_p39 i_63 n_64 es_65 full_66 es_67 full_68 i_69 n_70 es_71 full_72 n_73 n_74 n_75 n_76 es_77 es_78 (fun b0_79 => K .ret ⟨mkS 169 [(0, B b0_79)], []⟩)) = execT f8_C (nthC (tails (bodyOf Try.f8)) 20) ⟨mkS 169 [(1, .w (.one (.ptr 0 0 0))), (3, .w (.one (.ptr 1 0 0))), (6, .w (.one (.ref 2 i_63 n_64))), (8, .w (.one (.p (.sl 1 es_65 full_66)))), (9, .w (.one (.p (.sl 1 es_67 full_68)))), (11, .w (.one (.ref 3 i_69 n_70)))], [.box [.p (.sl 3 es_71 full_72), .p (pI n_73), .p (pI n_74)], .box [.p (pI n_75), .p (pI n_76)], .vec 3 es_77 true, .vec 3 es_78 true]⟩ (fun e s => K e (normOut f8_C 39 e s)) := by kernel_rfl
set_option maxRecDepth 100000 in
theorem f8_p23e0 (i_80 : Nat) (n_81 : Nat) (i_82 : Nat) (n_83 : Nat) (es_84 : List (List PC)) (full_85 : Bool) (n_86 : Int) (n_87 : Int) (n_88 : Int) (n_89 : Int) (es_90 : List (List PC)) (es_91 : List (List PC)) (K : TExit → St → Prop) : (f8_p23 i_80 n_81 i_82 n_83 es_84 full_85 n_86 n_87 n_88 n_89 es_90 es_91 (fun b0_92 => K .ret ⟨mkS 169 [(0, B b0_92)], []⟩)) = execT f8_C (nthC (tails (bodyOf Try.f8)) 10) ⟨mkS 169 [(1, .w (.one (.ptr 0 0 0))), (3, .w (.one (.ptr 1 0 0))), (4, .w (.one (.ref 2 i_80 n_81))), (6, .w (.one (.ref 3 i_82 n_83)))], [.box [.p (.sl 3 es_84 full_85), .p (pI n_86), .p (pI n_87)], .box [.p (pI n_88), .p (pI n_89)], .vec 1 es_90 true, .vec 3 es_91 true]⟩ (fun e s => K e (normOut f8_C 23 e s)) := by kernel_rfl
set_option maxHeartbeats 4000000 in
theorem f8_p10_ok : LoopOk f8_C (nthC (bodies (bodyOf Try.f8)) 0) := by
  refine LoopOk.of f8_p10L (by kernel_rfl) fun σ K h => ?_
  have hk : loopKey (nthC (bodies (bodyOf Try.f8)) 0) = 10 := by kernel_rfl
  rw [hk] at h ⊢
  generalize hs : normK f8_C 10 σ = s at h
  obtain ⟨tm, hp⟩ := s
  unfold f8_p10L at h
  dsimp only at h
  obtain ⟨xx, yy, rfl, rfl, h⟩ := getS_elim h
  refine iter_of (f8_p10_mk xx.2.2.1 xx.2.2.2.2.1.1 xx.2.2.2.2.1.2 yy.1.1.1 yy.1.1.2 yy.1.2.1 yy.1.2.2.1 yy.2.1.1 yy.2.1.2.1) (fun x N h => ?_) rounds _ σ (hs.trans (by kernel_rfl)) (LoopP.run h)
  obtain ⟨y0, y1⟩ := x
  rw [← f8_p10e0 xx.2.2.1 xx.2.2.2.2.1.1 xx.2.2.2.2.1.2 y0 yy.1.1.1 yy.1.1.2 yy.1.2.1 yy.1.2.2.1 yy.2.1.1 yy.2.1.2.1 y1 N K]
  exact h
set_option maxHeartbeats 4000000 in
theorem f8_p26_ok : LoopOk f8_C (nthC (bodies (bodyOf Try.f8)) 1) := by
  refine LoopOk.of f8_p26L (by kernel_rfl) fun σ K h => ?_
  have hk : loopKey (nthC (bodies (bodyOf Try.f8)) 1) = 26 := by kernel_rfl
  rw [hk] at h ⊢
  generalize hs : normK f8_C 26 σ = s at h
  obtain ⟨tm, hp⟩ := s
  unfold f8_p26L at h
  dsimp only at h
  obtain ⟨xx, yy, rfl, rfl, h⟩ := getS_elim h
  refine iter_of (f8_p26_mk xx.2.2.2.2.1.1 xx.2.2.2.2.1.2 xx.2.2.2.2.2.2.1.1 xx.2.2.2.2.2.2.1.2 xx.2.2.2.2.2.2.2.2.1.1 xx.2.2.2.2.2.2.2.2.1.2 xx.2.2.2.2.2.2.2.2.2.1.1 xx.2.2.2.2.2.2.2.2.2.1.2 yy.1.1.1 yy.1.1.2 yy.1.2.1 yy.1.2.2.1 yy.2.1.1 yy.2.1.2.1 yy.2.2.2.1) (fun x N h => ?_) rounds _ σ (hs.trans (by kernel_rfl)) (LoopP.run h)
  obtain ⟨y0, y1⟩ := x
  rw [← f8_p26e0 xx.2.2.2.2.1.1 xx.2.2.2.2.1.2 xx.2.2.2.2.2.2.1.1 xx.2.2.2.2.2.2.1.2 xx.2.2.2.2.2.2.2.2.1.1 xx.2.2.2.2.2.2.2.2.1.2 xx.2.2.2.2.2.2.2.2.2.1.1 xx.2.2.2.2.2.2.2.2.2.1.2 y0 yy.1.1.1 yy.1.1.2 yy.1.2.1 yy.1.2.2.1 yy.2.1.1 yy.2.1.2.1 y1 yy.2.2.2.1 N K]
  exact h
set_option maxHeartbeats 4000000 in
theorem f8_p39_ok : TailOk f8_C (nthC (tails (bodyOf Try.f8)) 20) := by
  refine TailOk.of f8_p39L (by kernel_rfl) fun σ K h => ?_
  have hk : joinKey (nthC (tails (bodyOf Try.f8)) 20) = 39 := by kernel_rfl
  rw [hk] at h ⊢
  generalize hs : normK f8_C 39 σ = s at h
  obtain ⟨tm, hp⟩ := s
  unfold f8_p39L at h
  dsimp only at h
  obtain ⟨xx, yy, rfl, rfl, h⟩ := getS_elim h
  have q : normK f8_C 39 σ = (⟨mkS 169 [(1, .w (.one (.ptr 0 0 0))), (3, .w (.one (.ptr 1 0 0))), (6, .w (.one (.ref 2 xx.2.2.2.2.2.1.1 xx.2.2.2.2.2.1.2))), (8, .w (.one (.p (.sl 1 xx.2.2.2.2.2.2.2.1.1 xx.2.2.2.2.2.2.2.1.2)))), (9, .w (.one (.p (.sl 1 xx.2.2.2.2.2.2.2.2.1.1 xx.2.2.2.2.2.2.2.2.1.2)))), (11, .w (.one (.ref 3 xx.2.2.2.2.2.2.2.2.2.2.1.1 xx.2.2.2.2.2.2.2.2.2.2.1.2)))], [.box [.p (.sl 3 yy.1.1.1 yy.1.1.2), .p (pI yy.1.2.1), .p (pI yy.1.2.2.1)], .box [.p (pI yy.2.1.1), .p (pI yy.2.1.2.1)], .vec 3 yy.2.2.1 true, .vec 3 yy.2.2.2.1 true]⟩ : St) := hs.trans (by kernel_rfl)
  rw [← hs, q, ← f8_p39e0 xx.2.2.2.2.2.1.1 xx.2.2.2.2.2.1.2 xx.2.2.2.2.2.2.2.1.1 xx.2.2.2.2.2.2.2.1.2 xx.2.2.2.2.2.2.2.2.1.1 xx.2.2.2.2.2.2.2.2.1.2 xx.2.2.2.2.2.2.2.2.2.2.1.1 xx.2.2.2.2.2.2.2.2.2.2.1.2 yy.1.1.1 yy.1.1.2 yy.1.2.1 yy.1.2.2.1 yy.2.1.1 yy.2.1.2.1 yy.2.2.1 yy.2.2.2.1 K]
  exact h
set_option maxHeartbeats 4000000 in
theorem f8_p23_ok : TailOk f8_C (nthC (tails (bodyOf Try.f8)) 10) := by
  refine TailOk.of f8_p23L (by kernel_rfl) fun σ K h => ?_
  have hk : joinKey (nthC (tails (bodyOf Try.f8)) 10) = 23 := by kernel_rfl
  rw [hk] at h ⊢
  generalize hs : normK f8_C 23 σ = s at h
  obtain ⟨tm, hp⟩ := s
  unfold f8_p23L at h
  dsimp only at h
  obtain ⟨xx, yy, rfl, rfl, h⟩ := getS_elim h
  have q : normK f8_C 23 σ = (⟨mkS 169 [(1, .w (.one (.ptr 0 0 0))), (3, .w (.one (.ptr 1 0 0))), (4, .w (.one (.ref 2 xx.2.2.2.2.1.1 xx.2.2.2.2.1.2))), (6, .w (.one (.ref 3 xx.2.2.2.2.2.2.1.1 xx.2.2.2.2.2.2.1.2)))], [.box [.p (.sl 3 yy.1.1.1 yy.1.1.2), .p (pI yy.1.2.1), .p (pI yy.1.2.2.1)], .box [.p (pI yy.2.1.1), .p (pI yy.2.1.2.1)], .vec 1 yy.2.2.1 true, .vec 3 yy.2.2.2.1 true]⟩ : St) := hs.trans (by kernel_rfl)
  rw [← hs, q, ← f8_p23e0 xx.2.2.2.2.1.1 xx.2.2.2.2.1.2 xx.2.2.2.2.2.2.1.1 xx.2.2.2.2.2.2.1.2 yy.1.1.1 yy.1.1.2 yy.1.2.1 yy.1.2.2.1 yy.2.1.1 yy.2.1.2.1 yy.2.2.1 yy.2.2.2.1 K]
  exact h
noncomputable def f8_G0 : List TV → List Entry → (TV → List Entry → Prop) → Prop := fun tm hp K => getS [] [] tm hp fun (xx : Unit) (yy : Unit) => f8 (fun b0_4 => K (B b0_4) [])
set_option maxRecDepth 100000 in
theorem f8_eq (K : TV → List Entry → Prop) : (f8_d (fun b0_4 => K (B b0_4) [])) = funcT f8_C Try.f8 [] [] K := by kernel_rfl
set_option maxHeartbeats 4000000 in
theorem f8_ok0 : FnOk Try.prog glob 8 f8_G0 := by
  refine FnOk.of_text (C := f8_C) tab_ok.ok (Known.add f26_G_ok (Known.add f24_G_ok (Known.add f22_G_ok (Known.add f20_1_G_ok (Known.add f14_G_ok (Known.add f12_G_ok (Known.add f10_G_ok (Known.none)))))))) follows_ok (fn := Try.f8) (by kernel_rfl) (by kernel_rfl) (by kernel_rfl) (fun c hc => ?_) fun tm hp K h => ?_
  · have e : c = bodyOf Try.f8 := Option.some.inj (hc.symm.trans (by kernel_rfl))
    subst e
    exact ⟨LoopsOk.of [nthC (bodies (bodyOf Try.f8)) 0, nthC (bodies (bodyOf Try.f8)) 1] (by kernel_rfl) ⟨f8_p10_ok, f8_p26_ok, trivial⟩, TailsOk.of (tab := f8_tab) rfl [nthC (tails (bodyOf Try.f8)) 10, nthC (tails (bodyOf Try.f8)) 20] (by kernel_rfl) ⟨f8_p23_ok, f8_p39_ok, trivial⟩⟩
  · unfold f8_G0 at h
    obtain ⟨xx, yy, rfl, rfl, h⟩ := getS_elim h
    have e := (f8_eq K).trans (show _ = funcT f8_C Try.f8 (mkR _ xx) (mkE _ yy) K by kernel_rfl)
    rw [← e]
    exact h.run
noncomputable abbrev f8_G := f8_G0
theorem f8_G_ok : FnOk Try.prog glob 8 f8_G := f8_ok0
end Go.Eng.N
set_option linter.unusedVariables false
set_option maxRecDepth 100000
open Go Go.Eng Go.Proofs
namespace Go.Eng.N
/-! ### f6: plenum/plenumlaw55.LeadlagSteps -/
noncomputable def f6_p11 (n12 : Int) (es13 : List (List PC)) (full14 : Bool) (n15 : Int) (n16 : Int) (n17 : Int) (es18 : List (List PC)) (full19 : Bool) (n20 : Int) (n21 : Int) (k0 : Bool → Prop) : Prop := (f15 n16 n17 (fun n22 n23 => (f9 es18 full19 n20 n21 (fun es24 full25 n26 n27 => (f28 n22 n23 es24 full25 n26 n27 n12 es13 full14 n15 (fun es28 full29 n30 n31 n32 => f29 n16 n17 es18 full19 n20 n21 n12 es13 full14 n15 (fun es33 full34 n35 n36 n37 => bB (n32 == n37) (f18 es28 full29 n30 n31 (fun es38 full39 n40 n41 => f17 es38 full39 n40 n41 es33 full34 n35 n36 (fun b42 => k0 b42))) (k0 false)))) ∧ (f28 n22 n23 es24 full25 n26 n27 n12 es13 full14 n15 (fun es43 full44 n45 n46 n47 => f29 n16 n17 es18 full19 n20 n21 n12 es13 full14 n15 (fun es48 full49 n50 n51 n52 => bB (n47 == n52) (f18 es43 full44 n45 n46 (fun es53 full54 n55 n56 => f17 es53 full54 n55 n56 es48 full49 n50 n51 (fun b57 => k0 b57))) (k0 false)))))) ∧ (f9 es18 full19 n20 n21 (fun es58 full59 n60 n61 => f28 n22 n23 es58 full59 n60 n61 n12 es13 full14 n15 (fun es62 full63 n64 n65 n66 => f29 n16 n17 es18 full19 n20 n21 n12 es13 full14 n15 (fun es67 full68 n69 n70 n71 => bB (n66 == n71) (f18 es62 full63 n64 n65 (fun es72 full73 n74 n75 => f17 es72 full73 n74 n75 es67 full68 n69 n70 (fun b76 => k0 b76))) (k0 false))))))) ∧ (f15 n16 n17 (fun n77 n78 => f9 es18 full19 n20 n21 (fun es79 full80 n81 n82 => f28 n77 n78 es79 full80 n81 n82 n12 es13 full14 n15 (fun es83 full84 n85 n86 n87 => f29 n16 n17 es18 full19 n20 n21 n12 es13 full14 n15 (fun es88 full89 n90 n91 n92 => bB (n87 == n92) (f18 es83 full84 n85 n86 (fun es93 full94 n95 n96 => f17 es93 full94 n95 n96 es88 full89 n90 n91 (fun b97 => k0 b97))) (k0 false))))))
noncomputable def f6_d (n1 : Int) (n2 : Int) (es3 : List (List PC)) (full4 : Bool) (n5 : Int) (n6 : Int) (n7 : Int) (es8 : List (List PC)) (full9 : Bool) (n10 : Int) (k0 : Bool → Prop) : Prop := f8 (fun b11 => bB (!b11) (k0 false) (bB (decide (((es3.length : Nat) : Int) > 40)) (k0 true) (bB (decide (((es8.length : Nat) : Int) > 40)) (k0 true) (f6_p11 n7 es8 full9 n10 n1 n2 es3 full4 n5 n6 (fun b98 => k0 b98)))))
structure f6 (n1 : Int) (n2 : Int) (es3 : List (List PC)) (full4 : Bool) (n5 : Int) (n6 : Int) (n7 : Int) (es8 : List (List PC)) (full9 : Bool) (n10 : Int) (k0 : Bool → Prop) : Prop where
  run : f6_d n1 n2 es3 full4 n5 n6 n7 es8 full9 n10 k0
noncomputable def f6_p11L : Told := fun s K => match s with
  | ⟨tm, hp⟩ => getS [.skip 2, .v (.one (.int .i64)), .v (.one (.sl 1)), .v (.one (.int .i64)), .v (.one (.ptr 0 0 0)), .v (.one (.ptr 1 0 0)), .skip 48] [.box [.int .i64, .int .i64], .box [.sl 3, .int .i64, .int .i64]] tm hp fun (xx : (Unit × (Int × ((List (List PC) × Bool) × (Int × (Unit × (Unit × (Unit × Unit)))))))) (yy : ((Int × (Int × Unit)) × (((List (List PC) × Bool) × (Int × (Int × Unit))) × Unit))) => f6_p11 xx.2.1 xx.2.2.1.1 xx.2.2.1.2 xx.2.2.2.1 yy.1.1 yy.1.2.1 yy.2.1.1.1 yy.2.1.1.2 yy.2.1.2.1 yy.2.1.2.2.1 (fun b0_0 => K .ret ⟨mkS 55 [(10, B b0_0)], []⟩)
noncomputable def f6_tab : List (Nat × Told) := [(11, f6_p11L)]
noncomputable def f6_call : FuncId → List TV → List Entry → (TV → List Entry → Prop) → Prop := addCall 29 f29_G (addCall 28 f28_G (addCall 18 f18_G (addCall 17 f17_G (addCall 15 f15_G (addCall 9 f9_G (addCall 8 f8_G (noCalls)))))))
noncomputable def f6_C : Ctx := { ty := tyOf tab, glob := glob, byRef := byRef, keep := fun k i => lookN [] (lookN [] ([(11, [(0, [2, 3, 4, 5, 6]), (1, [10]), (2, [10])])] : List (Nat × List (Nat × List Nat))) k) i, late := lookN [] ([] : List (Nat × List Nat)), nref := lookN [] ([] : List (Nat × List Nat)), nbox := lookN [] ([] : List (Nat × List (Nat × Nat))), take := [], rnil := false, m := 0, fz := true, loops := lookL f6_tab, call := f6_call }
set_option maxRecDepth 100000 in
theorem f6_p11e0 (n_2 : Int) (es_3 : List (List PC)) (full_4 : Bool) (n_5 : Int) (n_6 : Int) (n_7 : Int) (es_8 : List (List PC)) (full_9 : Bool) (n_10 : Int) (n_11 : Int) (K : TExit → St → Prop) : (f6_p11 n_2 es_3 full_4 n_5 n_6 n_7 es_8 full_9 n_10 n_11 (fun b0_12 => K .ret ⟨mkS 55 [(10, B b0_12)], []⟩)) = execT f6_C (nthC (tails (bodyOf Try.f6)) 4) ⟨mkS 55 [(2, I n_2), (3, .w (.one (.p (.sl 1 es_3 full_4)))), (4, I n_5), (5, .w (.one (.ptr 0 0 0))), (6, .w (.one (.ptr 1 0 0)))], [.box [.p (pI n_6), .p (pI n_7)], .box [.p (.sl 3 es_8 full_9), .p (pI n_10), .p (pI n_11)]]⟩ (fun e s => K e (normOut f6_C 11 e s)) := by kernel_rfl
set_option maxHeartbeats 4000000 in
theorem f6_p11_ok : TailOk f6_C (nthC (tails (bodyOf Try.f6)) 4) := by
  refine TailOk.of f6_p11L (by kernel_rfl) fun σ K h => ?_
  have hk : joinKey (nthC (tails (bodyOf Try.f6)) 4) = 11 := by kernel_rfl
  rw [hk] at h ⊢
  generalize hs : normK f6_C 11 σ = s at h
  obtain ⟨tm, hp⟩ := s
  unfold f6_p11L at h
  dsimp only at h
  obtain ⟨xx, yy, rfl, rfl, h⟩ := getS_elim h
  have q : normK f6_C 11 σ = (⟨mkS 55 [(2, I xx.2.1), (3, .w (.one (.p (.sl 1 xx.2.2.1.1 xx.2.2.1.2)))), (4, I xx.2.2.2.1), (5, .w (.one (.ptr 0 0 0))), (6, .w (.one (.ptr 1 0 0)))], [.box [.p (pI yy.1.1), .p (pI yy.1.2.1)], .box [.p (.sl 3 yy.2.1.1.1 yy.2.1.1.2), .p (pI yy.2.1.2.1), .p (pI yy.2.1.2.2.1)]]⟩ : St) := hs.trans (by kernel_rfl)
  rw [← hs, q, ← f6_p11e0 xx.2.1 xx.2.2.1.1 xx.2.2.1.2 xx.2.2.2.1 yy.1.1 yy.1.2.1 yy.2.1.1.1 yy.2.1.1.2 yy.2.1.2.1 yy.2.1.2.2.1 K]
  exact h
noncomputable def f6_G0 : List TV → List Entry → (TV → List Entry → Prop) → Prop := fun tm hp K => getS [.v (.pagg [.int .i64, .int .i64]), .v (.pagg [.sl 3, .int .i64, .int .i64]), .v (.one (.int .i64)), .v (.one (.sl 1)), .v (.one (.int .i64))] [] tm hp fun (xx : ((Int × (Int × Unit)) × (((List (List PC) × Bool) × (Int × (Int × Unit))) × (Int × ((List (List PC) × Bool) × (Int × Unit)))))) (yy : Unit) => f6 xx.1.1 xx.1.2.1 xx.2.1.1.1 xx.2.1.1.2 xx.2.1.2.1 xx.2.1.2.2.1 xx.2.2.1 xx.2.2.2.1.1 xx.2.2.2.1.2 xx.2.2.2.2.1 (fun b0_1 => K (B b0_1) [])
set_option maxRecDepth 100000 in
theorem f6_eq (n_13 : Int) (n_14 : Int) (es_15 : List (List PC)) (full_16 : Bool) (n_17 : Int) (n_18 : Int) (n_19 : Int) (es_20 : List (List PC)) (full_21 : Bool) (n_22 : Int) (K : TV → List Entry → Prop) : (f6_d n_13 n_14 es_15 full_16 n_17 n_18 n_19 es_20 full_21 n_22 (fun b0_1 => K (B b0_1) [])) = funcT f6_C Try.f6 [.w (.pagg [pI n_13, pI n_14]), .w (.pagg [.sl 3 es_15 full_16, pI n_17, pI n_18]), I n_19, .w (.one (.p (.sl 1 es_20 full_21))), I n_22] [] K := by kernel_rfl
set_option maxHeartbeats 4000000 in
theorem f6_ok0 : FnOk Try.prog glob 6 f6_G0 := by
  refine FnOk.of_text (C := f6_C) tab_ok.ok (Known.add f29_G_ok (Known.add f28_G_ok (Known.add f18_G_ok (Known.add f17_G_ok (Known.add f15_G_ok (Known.add f9_G_ok (Known.add f8_G_ok (Known.none)))))))) follows_ok (fn := Try.f6) (by kernel_rfl) (by kernel_rfl) (by kernel_rfl) (fun c hc => ?_) fun tm hp K h => ?_
  · have e : c = bodyOf Try.f6 := Option.some.inj (hc.symm.trans (by kernel_rfl))
    subst e
    exact ⟨LoopsOk.of [] (by kernel_rfl) trivial, TailsOk.of (tab := f6_tab) rfl [nthC (tails (bodyOf Try.f6)) 4] (by kernel_rfl) ⟨f6_p11_ok, trivial⟩⟩
  · unfold f6_G0 at h
    obtain ⟨xx, yy, rfl, rfl, h⟩ := getS_elim h
    have e := (f6_eq xx.1.1 xx.1.2.1 xx.2.1.1.1 xx.2.1.1.2 xx.2.1.2.1 xx.2.1.2.2.1 xx.2.2.1 xx.2.2.2.1.1 xx.2.2.2.1.2 xx.2.2.2.2.1 K).trans (show _ = funcT f6_C Try.f6 (mkR _ xx) (mkE _ yy) K by kernel_rfl)
    rw [← e]
    exact h.run
noncomputable abbrev f6_G := f6_G0
theorem f6_G_ok : FnOk Try.prog glob 6 f6_G := f6_ok0
end Go.Eng.N
set_option linter.unusedVariables false
set_option maxRecDepth 100000
open Go Go.Eng Go.Proofs
namespace Go.Eng.N
/-! ### f4: plenum/plenumlaw55.LeadlagPlays -/
noncomputable def f4_p20b0 (i38 : Nat) (n39 : Nat) (es40 : List (List PC)) (full41 : Bool) (n42 : Int) (es43 : List (List PC)) (N0 : Int → Prop) (k0 : Bool → Prop) (k1 : Unit → Prop) : Prop := bB (decide (n42 < ((n39 : Nat) : Int))) ((0 ≤ n42 ∧ n42 < ((n39 : Nat) : Int)) ∧ cL 3 (ext (List.getD es43 (i38 + (Int.toNat n42)) []) 0 3) fun es45 full46 r44 => cI .i64 r44 fun n48 r47 => cI .i64 r47 fun n50 r49 => nilC r49 <| (0 ≤ n42 ∧ n42 < ((es40.length : Nat) : Int)) ∧ cL 3 (ext (List.getD es40 (Int.toNat n42) []) 0 3) fun es52 full53 r51 => cI .i64 r51 fun n55 r54 => cI .i64 r54 fun n57 r56 => nilC r56 <| f18 es45 full46 n48 n50 (fun es58 full59 n60 n61 => f17 es58 full59 n60 n61 es52 full53 n55 n57 (fun b62 => bB (!b62) (k0 false) (N0 (w64 (n42 + 1)))))) (k1 ())
noncomputable def f4_p20 (i38 : Nat) (n39 : Nat) (es40 : List (List PC)) (full41 : Bool) (es43 : List (List PC)) (k0 : Bool → Prop) (k1 : Unit → Prop) : Int → Prop := LoopP fun x N => f4_p20b0 i38 n39 es40 full41 x es43 (fun n42 => N n42) k0 k1
noncomputable def f4_p19 (i33 : Nat) (n34 : Nat) (es35 : List (List PC)) (full36 : Bool) (es37 : List (List PC)) (k0 : Bool → Prop) : Prop := f4_p20 i33 n34 es35 full36 es37 (fun b63 => k0 b63) (fun (_ : Unit) => k0 true) 0
noncomputable def f4_p11 (es11 : List (List PC)) (full12 : Bool) (n13 : Int) (n14 : Int) (n15 : Int) (es16 : List (List PC)) (full17 : Bool) (n18 : Int) (n19 : Int) (k0 : Bool → Prop) : Prop := f15 n14 n15 (fun n20 n21 => f9 es16 full17 n18 n19 (fun es22 full23 n24 n25 => f26_1 n20 n21 es22 full23 n24 n25 es11 full12 n13 (fun i26 n27 n28 es29 => f27 n14 n15 es16 full17 n18 n19 es11 full12 n13 (fun es30 full31 n32 => bB (n28 != n32) (k0 false) (bB (((n27 : Nat) : Int) != ((es30.length : Nat) : Int)) (k0 false) (f4_p19 i26 n27 es30 full31 es29 (fun b64 => k0 b64)))))))
noncomputable def f4_d (n1 : Int) (n2 : Int) (es3 : List (List PC)) (full4 : Bool) (n5 : Int) (n6 : Int) (es7 : List (List PC)) (full8 : Bool) (n9 : Int) (k0 : Bool → Prop) : Prop := f8 (fun b10 => bB (!b10) (k0 false) (bB (decide (((es3.length : Nat) : Int) > 40)) (k0 true) (bB (decide (((es7.length : Nat) : Int) > 300)) (bB (decide (((es7.length : Nat) : Int) ≤ 10000)) (k0 true) (f4_p11 es7 full8 n9 n1 n2 es3 full4 n5 n6 (fun b65 => k0 b65))) (f4_p11 es7 full8 n9 n1 n2 es3 full4 n5 n6 (fun b66 => k0 b66)))))
structure f4 (n1 : Int) (n2 : Int) (es3 : List (List PC)) (full4 : Bool) (n5 : Int) (n6 : Int) (es7 : List (List PC)) (full8 : Bool) (n9 : Int) (k0 : Bool → Prop) : Prop where
  run : f4_d n1 n2 es3 full4 n5 n6 es7 full8 n9 k0
noncomputable def f4_p20L : Told := fun s K => match s with
  | ⟨tm, hp⟩ => getS [.skip 9, .v (.one (.ref 0)), .skip 1, .v (.one (.sl 3)), .skip 1, .v (.one (.int .i64)), .skip 61] [.vec 3 true] tm hp fun (xx : (Unit × ((Nat × Nat) × (Unit × ((List (List PC) × Bool) × (Unit × (Int × (Unit × Unit)))))))) (yy : ((List (List PC)) × Unit)) => f4_p20 xx.2.1.1 xx.2.1.2 xx.2.2.2.1.1 xx.2.2.2.1.2 yy.1 (fun b0_0 => K .ret ⟨mkS 75 [(8, B b0_0)], []⟩) (fun (_ : Unit) => K (.exit 0) ⟨mkS 75 [], []⟩) xx.2.2.2.2.2.1
noncomputable def f4_p19L : Told := fun s K => match s with
  | ⟨tm, hp⟩ => getS [.skip 9, .v (.one (.ref 0)), .skip 1, .v (.one (.sl 3)), .skip 63] [.vec 3 true] tm hp fun (xx : (Unit × ((Nat × Nat) × (Unit × ((List (List PC) × Bool) × (Unit × Unit)))))) (yy : ((List (List PC)) × Unit)) => f4_p19 xx.2.1.1 xx.2.1.2 xx.2.2.2.1.1 xx.2.2.2.1.2 yy.1 (fun b0_1 => K .ret ⟨mkS 75 [(8, B b0_1)], []⟩)
noncomputable def f4_p11L : Told := fun s K => match s with
  | ⟨tm, hp⟩ => getS [.skip 2, .v (.one (.sl 1)), .v (.one (.int .i64)), .v (.one (.ptr 0 0 0)), .v (.one (.ptr 1 0 0)), .skip 69] [.box [.int .i64, .int .i64], .box [.sl 3, .int .i64, .int .i64]] tm hp fun (xx : (Unit × ((List (List PC) × Bool) × (Int × (Unit × (Unit × (Unit × Unit))))))) (yy : ((Int × (Int × Unit)) × (((List (List PC) × Bool) × (Int × (Int × Unit))) × Unit))) => f4_p11 xx.2.1.1 xx.2.1.2 xx.2.2.1 yy.1.1 yy.1.2.1 yy.2.1.1.1 yy.2.1.1.2 yy.2.1.2.1 yy.2.1.2.2.1 (fun b0_2 => K .ret ⟨mkS 75 [(8, B b0_2)], []⟩)
noncomputable def f4_tab : List (Nat × Told) := [(20, f4_p20L), (19, f4_p19L), (11, f4_p11L)]
noncomputable def f4_call : FuncId → List TV → List Entry → (TV → List Entry → Prop) → Prop := addCall 27 f27_G (addCall 26 f26_1_G (addCall 18 f18_G (addCall 17 f17_G (addCall 15 f15_G (addCall 9 f9_G (addCall 8 f8_G (noCalls)))))))
noncomputable def f4_C : Ctx := { ty := tyOf tab, glob := glob, byRef := byRef, keep := fun k i => lookN [] (lookN [] ([(20, [(0, [9, 11, 13]), (2, [8]), (3, [])]), (19, [(0, [9, 11]), (1, [8]), (2, [8])]), (11, [(0, [2, 3, 4, 5]), (1, [8]), (2, [8])])] : List (Nat × List (Nat × List Nat))) k) i, late := lookN [] ([] : List (Nat × List Nat)), nref := lookN [] ([] : List (Nat × List Nat)), nbox := lookN [] ([] : List (Nat × List (Nat × Nat))), take := [], rnil := false, m := 0, fz := true, loops := lookL f4_tab, call := f4_call }
noncomputable def f4_p20_mk (i38 : Nat) (n39 : Nat) (es40 : List (List PC)) (full41 : Bool) (es43 : List (List PC)) (x : Int) : St := ⟨mkS 75 [(9, .w (.one (.ref 0 i38 n39))), (11, .w (.one (.p (.sl 3 es40 full41)))), (13, I x)], [.vec 3 es43 true]⟩
set_option maxRecDepth 100000 in
theorem f4_p20e0 (i_10 : Nat) (n_11 : Nat) (es_12 : List (List PC)) (full_13 : Bool) (n_14 : Int) (es_15 : List (List PC)) (N : St → Prop) (K : TExit → St → Prop) : (f4_p20b0 i_10 n_11 es_12 full_13 n_14 es_15 (fun z4 => N (f4_p20_mk i_10 n_11 es_12 full_13 es_15 z4)) (fun b0_16 => K .ret ⟨mkS 75 [(8, B b0_16)], []⟩) (fun (_ : Unit) => K (.exit 0) ⟨mkS 75 [], []⟩)) = execT f4_C (nthC (bodies (bodyOf Try.f4)) 0) (f4_p20_mk i_10 n_11 es_12 full_13 es_15 n_14) (loopK N (normK f4_C 20) fun e s => K e (normOut f4_C 20 e s)) := by kernel_rfl
set_option maxRecDepth 100000 in
theorem f4_p19e0 (i_17 : Nat) (n_18 : Nat) (es_19 : List (List PC)) (full_20 : Bool) (es_21 : List (List PC)) (K : TExit → St → Prop) : (f4_p19 i_17 n_18 es_19 full_20 es_21 (fun b0_22 => K .ret ⟨mkS 75 [(8, B b0_22)], []⟩)) = execT f4_C (nthC (tails (bodyOf Try.f4)) 9) ⟨mkS 75 [(9, .w (.one (.ref 0 i_17 n_18))), (11, .w (.one (.p (.sl 3 es_19 full_20))))], [.vec 3 es_21 true]⟩ (fun e s => K e (normOut f4_C 19 e s)) := by kernel_rfl
set_option maxRecDepth 100000 in
theorem f4_p11e0 (es_23 : List (List PC)) (full_24 : Bool) (n_25 : Int) (n_26 : Int) (n_27 : Int) (es_28 : List (List PC)) (full_29 : Bool) (n_30 : Int) (n_31 : Int) (K : TExit → St → Prop) : (f4_p11 es_23 full_24 n_25 n_26 n_27 es_28 full_29 n_30 n_31 (fun b0_32 => K .ret ⟨mkS 75 [(8, B b0_32)], []⟩)) = execT f4_C (nthC (tails (bodyOf Try.f4)) 4) ⟨mkS 75 [(2, .w (.one (.p (.sl 1 es_23 full_24)))), (3, I n_25), (4, .w (.one (.ptr 0 0 0))), (5, .w (.one (.ptr 1 0 0)))], [.box [.p (pI n_26), .p (pI n_27)], .box [.p (.sl 3 es_28 full_29), .p (pI n_30), .p (pI n_31)]]⟩ (fun e s => K e (normOut f4_C 11 e s)) := by kernel_rfl
set_option maxHeartbeats 4000000 in
theorem f4_p20_ok : LoopOk f4_C (nthC (bodies (bodyOf Try.f4)) 0) := by
  refine LoopOk.of f4_p20L (by kernel_rfl) fun σ K h => ?_
  have hk : loopKey (nthC (bodies (bodyOf Try.f4)) 0) = 20 := by kernel_rfl
  rw [hk] at h ⊢
  generalize hs : normK f4_C 20 σ = s at h
  obtain ⟨tm, hp⟩ := s
  unfold f4_p20L at h
  dsimp only at h
  obtain ⟨xx, yy, rfl, rfl, h⟩ := getS_elim h
  refine iter_of (f4_p20_mk xx.2.1.1 xx.2.1.2 xx.2.2.2.1.1 xx.2.2.2.1.2 yy.1) (fun x N h => ?_) rounds _ σ (hs.trans (by kernel_rfl)) (LoopP.run h)
  rw [← f4_p20e0 xx.2.1.1 xx.2.1.2 xx.2.2.2.1.1 xx.2.2.2.1.2 x yy.1 N K]
  exact h
set_option maxHeartbeats 4000000 in
theorem f4_p19_ok : TailOk f4_C (nthC (tails (bodyOf Try.f4)) 9) := by
  refine TailOk.of f4_p19L (by kernel_rfl) fun σ K h => ?_
  have hk : joinKey (nthC (tails (bodyOf Try.f4)) 9) = 19 := by kernel_rfl
  rw [hk] at h ⊢
  generalize hs : normK f4_C 19 σ = s at h
  obtain ⟨tm, hp⟩ := s
  unfold f4_p19L at h
  dsimp only at h
  obtain ⟨xx, yy, rfl, rfl, h⟩ := getS_elim h
  have q : normK f4_C 19 σ = (⟨mkS 75 [(9, .w (.one (.ref 0 xx.2.1.1 xx.2.1.2))), (11, .w (.one (.p (.sl 3 xx.2.2.2.1.1 xx.2.2.2.1.2))))], [.vec 3 yy.1 true]⟩ : St) := hs.trans (by kernel_rfl)
  rw [← hs, q, ← f4_p19e0 xx.2.1.1 xx.2.1.2 xx.2.2.2.1.1 xx.2.2.2.1.2 yy.1 K]
  exact h
set_option maxHeartbeats 4000000 in
theorem f4_p11_ok : TailOk f4_C (nthC (tails (bodyOf Try.f4)) 4) := by
  refine TailOk.of f4_p11L (by kernel_rfl) fun σ K h => ?_
  have hk : joinKey (nthC (tails (bodyOf Try.f4)) 4) = 11 := by kernel_rfl
  rw [hk] at h ⊢
  generalize hs : normK f4_C 11 σ = s at h
  obtain ⟨tm, hp⟩ := s
  unfold f4_p11L at h
  dsimp only at h
  obtain ⟨xx, yy, rfl, rfl, h⟩ := getS_elim h
  have q : normK f4_C 11 σ = (⟨mkS 75 [(2, .w (.one (.p (.sl 1 xx.2.1.1 xx.2.1.2)))), (3, I xx.2.2.1), (4, .w (.one (.ptr 0 0 0))), (5, .w (.one (.ptr 1 0 0)))], [.box [.p (pI yy.1.1), .p (pI yy.1.2.1)], .box [.p (.sl 3 yy.2.1.1.1 yy.2.1.1.2), .p (pI yy.2.1.2.1), .p (pI yy.2.1.2.2.1)]]⟩ : St) := hs.trans (by kernel_rfl)
  rw [← hs, q, ← f4_p11e0 xx.2.1.1 xx.2.1.2 xx.2.2.1 yy.1.1 yy.1.2.1 yy.2.1.1.1 yy.2.1.1.2 yy.2.1.2.1 yy.2.1.2.2.1 K]
  exact h
noncomputable def f4_G0 : List TV → List Entry → (TV → List Entry → Prop) → Prop := fun tm hp K => getS [.v (.pagg [.int .i64, .int .i64]), .v (.pagg [.sl 3, .int .i64, .int .i64]), .v (.one (.sl 1)), .v (.one (.int .i64))] [] tm hp fun (xx : ((Int × (Int × Unit)) × (((List (List PC) × Bool) × (Int × (Int × Unit))) × ((List (List PC) × Bool) × (Int × Unit))))) (yy : Unit) => f4 xx.1.1 xx.1.2.1 xx.2.1.1.1 xx.2.1.1.2 xx.2.1.2.1 xx.2.1.2.2.1 xx.2.2.1.1 xx.2.2.1.2 xx.2.2.2.1 (fun b0_3 => K (B b0_3) [])
set_option maxRecDepth 100000 in
theorem f4_eq (n_33 : Int) (n_34 : Int) (es_35 : List (List PC)) (full_36 : Bool) (n_37 : Int) (n_38 : Int) (es_39 : List (List PC)) (full_40 : Bool) (n_41 : Int) (K : TV → List Entry → Prop) : (f4_d n_33 n_34 es_35 full_36 n_37 n_38 es_39 full_40 n_41 (fun b0_3 => K (B b0_3) [])) = funcT f4_C Try.f4 [.w (.pagg [pI n_33, pI n_34]), .w (.pagg [.sl 3 es_35 full_36, pI n_37, pI n_38]), .w (.one (.p (.sl 1 es_39 full_40))), I n_41] [] K := by kernel_rfl
set_option maxHeartbeats 4000000 in
theorem f4_ok0 : FnOk Try.prog glob 4 f4_G0 := by
  refine FnOk.of_text (C := f4_C) tab_ok.ok (Known.add f27_G_ok (Known.add f26_1_G_ok (Known.add f18_G_ok (Known.add f17_G_ok (Known.add f15_G_ok (Known.add f9_G_ok (Known.add f8_G_ok (Known.none)))))))) follows_ok (fn := Try.f4) (by kernel_rfl) (by kernel_rfl) (by kernel_rfl) (fun c hc => ?_) fun tm hp K h => ?_
  · have e : c = bodyOf Try.f4 := Option.some.inj (hc.symm.trans (by kernel_rfl))
    subst e
    exact ⟨LoopsOk.of [nthC (bodies (bodyOf Try.f4)) 0] (by kernel_rfl) ⟨f4_p20_ok, trivial⟩, TailsOk.of (tab := f4_tab) rfl [nthC (tails (bodyOf Try.f4)) 4, nthC (tails (bodyOf Try.f4)) 9] (by kernel_rfl) ⟨f4_p11_ok, f4_p19_ok, trivial⟩⟩
  · unfold f4_G0 at h
    obtain ⟨xx, yy, rfl, rfl, h⟩ := getS_elim h
    have e := (f4_eq xx.1.1 xx.1.2.1 xx.2.1.1.1 xx.2.1.1.2 xx.2.1.2.1 xx.2.1.2.2.1 xx.2.2.1.1 xx.2.2.1.2 xx.2.2.2.1 K).trans (show _ = funcT f4_C Try.f4 (mkR _ xx) (mkE _ yy) K by kernel_rfl)
    rw [← e]
    exact h.run
noncomputable abbrev f4_G := f4_G0
theorem f4_G_ok : FnOk Try.prog glob 4 f4_G := f4_ok0
end Go.Eng.N
set_option linter.unusedVariables false
set_option maxRecDepth 100000
open Go Go.Eng Go.Proofs
namespace Go.Eng.N
/-! ### f3: plenum/plenumlaw55.LeadlagStates -/
noncomputable def f3_p12b0 (n11 : Int) (n12 : Int) (n13 : Int) (n14 : Int) (n15 : Int) (n16 : Int) (es17 : List (List PC)) (full18 : Bool) (n19 : Int) (n20 : Int) (N0 : Int → Prop) (k0 : Bool → Prop) (k1 : Unit → Prop) : Prop := bB (decide (n14 < ((es17.length : Nat) : Int))) ((0 ≤ n14 ∧ n14 < ((es17.length : Nat) : Int)) ∧ oI .i64 (ext (List.getD es17 (Int.toNat n14) []) 0 1) fun n21 => bB (decide (n21 < (-1000000000000))) (k0 true) ((0 ≤ n14 ∧ n14 < ((es17.length : Nat) : Int)) ∧ oI .i64 (ext (List.getD es17 (Int.toNat n14) []) 0 1) fun n22 => bB (decide (n22 > 1000000000000)) (k0 true) (N0 (w64 (n14 + 1))))) (k1 ())
noncomputable def f3_p12 (n11 : Int) (n12 : Int) (n13 : Int) (n15 : Int) (n16 : Int) (es17 : List (List PC)) (full18 : Bool) (n19 : Int) (n20 : Int) (k0 : Bool → Prop) (k1 : Unit → Prop) : Int → Prop := LoopP fun x N => f3_p12b0 n11 n12 n13 x n15 n16 es17 full18 n19 n20 (fun n14 => N n14) k0 k1
noncomputable def f3_d (n1 : Int) (n2 : Int) (es3 : List (List PC)) (full4 : Bool) (n5 : Int) (n6 : Int) (n7 : Int) (n8 : Int) (n9 : Int) (k0 : Bool → Prop) : Prop := f8 (fun b10 => bB (!b10) (k0 false) (bB (decide (((es3.length : Nat) : Int) > 40)) (k0 true) (f3_p12 n7 n8 n9 n1 n2 es3 full4 n5 n6 (fun b23 => k0 b23) (fun (_ : Unit) => bB (decide (n9 < (-1000000))) (k0 true) (f9 es3 full4 n5 n6 (fun es24 full25 n26 n27 => f10 n7 n8 (fun es28 full29 n30 n31 n32 => f11 n7 n8 (fun es33 full34 n35 n36 n37 => f12 es24 full25 n26 n27 (fun n38 n39 => f13 es3 full4 n5 n6 (fun n40 n41 => f15 n1 n2 (fun n42 n43 => f14 n42 n43 es24 full25 n26 n27 (fun n44 => f16 n1 n2 es3 full4 n5 n6 (fun n45 => bB (n44 == n45) (bB (n32 == n37) (f18 es28 full29 n30 n31 (fun es46 full47 n48 n49 => f17 es46 full47 n48 n49 es33 full34 n35 n36 (fun b50 => bB b50 (bB (n38 == n40) (bB (n39 == n41) (f20_1 es24 full25 n26 n27 (fun i51 n52 es53 => f21_1 es3 full4 n5 n6 (fun i54 n55 es56 => f19 (List.take n52 (List.drop i51 es53)) false (List.take n55 (List.drop i54 es56)) false (fun b57 => bB b57 (f22 es24 full25 n26 n27 (fun es58 full59 => f23_1 es3 full4 n5 n6 (fun i60 n61 es62 => f19 es58 full59 (List.take n61 (List.drop i60 es62)) false (fun b63 => bB b63 (f24 es24 full25 n26 n27 n9 (fun n64 => f25 es3 full4 n5 n6 n9 (fun n65 => k0 (n64 == n65)))) (k0 false))))) (k0 false))))) (k0 false)) (k0 false)) (k0 false)))) (k0 false)) (k0 false))))))))))) 0)))
structure f3 (n1 : Int) (n2 : Int) (es3 : List (List PC)) (full4 : Bool) (n5 : Int) (n6 : Int) (n7 : Int) (n8 : Int) (n9 : Int) (k0 : Bool → Prop) : Prop where
  run : f3_d n1 n2 es3 full4 n5 n6 n7 n8 n9 k0
noncomputable def f3_p12L : Told := fun s K => match s with
  | ⟨tm, hp⟩ => getS [.skip 2, .v (.one (.int .i64)), .v (.one (.int .i64)), .v (.one (.int .i64)), .v (.one (.ptr 0 0 0)), .v (.one (.ptr 1 0 0)), .skip 4, .v (.one (.int .i64)), .skip 116] [.box [.int .i64, .int .i64], .box [.sl 3, .int .i64, .int .i64]] tm hp fun (xx : (Unit × (Int × (Int × (Int × (Unit × (Unit × (Unit × (Int × (Unit × Unit)))))))))) (yy : ((Int × (Int × Unit)) × (((List (List PC) × Bool) × (Int × (Int × Unit))) × Unit))) => f3_p12 xx.2.1 xx.2.2.1 xx.2.2.2.1 yy.1.1 yy.1.2.1 yy.2.1.1.1 yy.2.1.1.2 yy.2.1.2.1 yy.2.1.2.2.1 (fun b0_0 => K .ret ⟨mkS 128 [(10, B b0_0)], []⟩) (fun (_ : Unit) => K (.exit 0) ⟨mkS 128 [(2, I xx.2.1), (3, I xx.2.2.1), (4, I xx.2.2.2.1), (5, .w (.one (.ptr 0 0 0))), (6, .w (.one (.ptr 1 0 0)))], [.box [.p (pI yy.1.1), .p (pI yy.1.2.1)], .box [.p (.sl 3 yy.2.1.1.1 yy.2.1.1.2), .p (pI yy.2.1.2.1), .p (pI yy.2.1.2.2.1)]]⟩) xx.2.2.2.2.2.2.2.1
noncomputable def f3_tab : List (Nat × Told) := [(12, f3_p12L)]
noncomputable def f3_call : FuncId → List TV → List Entry → (TV → List Entry → Prop) → Prop := addCall 25 f25_G (addCall 24 f24_G (addCall 23 f23_1_G (addCall 22 f22_G (addCall 21 f21_1_G (addCall 20 f20_1_G (addCall 19 f19_G (addCall 18 f18_G (addCall 17 f17_G (addCall 16 f16_G (addCall 15 f15_G (addCall 14 f14_G (addCall 13 f13_G (addCall 12 f12_G (addCall 11 f11_G (addCall 10 f10_G (addCall 9 f9_G (addCall 8 f8_G (noCalls))))))))))))))))))
noncomputable def f3_C : Ctx := { ty := tyOf tab, glob := glob, byRef := byRef, keep := fun k i => lookN [] (lookN [] ([(12, [(0, [2, 3, 4, 5, 6, 11]), (2, [10]), (3, [2, 3, 4, 5, 6])])] : List (Nat × List (Nat × List Nat))) k) i, late := lookN [] ([] : List (Nat × List Nat)), nref := lookN [] ([] : List (Nat × List Nat)), nbox := lookN [] ([] : List (Nat × List (Nat × Nat))), take := [], rnil := false, m := 0, fz := true, loops := lookL f3_tab, call := f3_call }
noncomputable def f3_p12_mk (n11 : Int) (n12 : Int) (n13 : Int) (n15 : Int) (n16 : Int) (es17 : List (List PC)) (full18 : Bool) (n19 : Int) (n20 : Int) (x : Int) : St := ⟨mkS 128 [(2, I n11), (3, I n12), (4, I n13), (5, .w (.one (.ptr 0 0 0))), (6, .w (.one (.ptr 1 0 0))), (11, I x)], [.box [.p (pI n15), .p (pI n16)], .box [.p (.sl 3 es17 full18), .p (pI n19), .p (pI n20)]]⟩
set_option maxRecDepth 100000 in
theorem f3_p12e0 (n_12 : Int) (n_13 : Int) (n_14 : Int) (n_15 : Int) (n_16 : Int) (n_17 : Int) (es_18 : List (List PC)) (full_19 : Bool) (n_20 : Int) (n_21 : Int) (N : St → Prop) (K : TExit → St → Prop) : (f3_p12b0 n_12 n_13 n_14 n_15 n_16 n_17 es_18 full_19 n_20 n_21 (fun z3 => N (f3_p12_mk n_12 n_13 n_14 n_16 n_17 es_18 full_19 n_20 n_21 z3)) (fun b0_22 => K .ret ⟨mkS 128 [(10, B b0_22)], []⟩) (fun (_ : Unit) => K (.exit 0) ⟨mkS 128 [(2, I n_12), (3, I n_13), (4, I n_14), (5, .w (.one (.ptr 0 0 0))), (6, .w (.one (.ptr 1 0 0)))], [.box [.p (pI n_16), .p (pI n_17)], .box [.p (.sl 3 es_18 full_19), .p (pI n_20), .p (pI n_21)]]⟩)) = execT f3_C (nthC (bodies (bodyOf Try.f3)) 0) (f3_p12_mk n_12 n_13 n_14 n_16 n_17 es_18 full_19 n_20 n_21 n_15) (loopK N (normK f3_C 12) fun e s => K e (normOut f3_C 12 e s)) := by kernel_rfl
set_option maxHeartbeats 4000000 in
theorem f3_p12_ok : LoopOk f3_C (nthC (bodies (bodyOf Try.f3)) 0) := by
  refine LoopOk.of f3_p12L (by kernel_rfl) fun σ K h => ?_
  have hk : loopKey (nthC (bodies (bodyOf Try.f3)) 0) = 12 := by kernel_rfl
  rw [hk] at h ⊢
  generalize hs : normK f3_C 12 σ = s at h
  obtain ⟨tm, hp⟩ := s
  unfold f3_p12L at h
  dsimp only at h
  obtain ⟨xx, yy, rfl, rfl, h⟩ := getS_elim h
  refine iter_of (f3_p12_mk xx.2.1 xx.2.2.1 xx.2.2.2.1 yy.1.1 yy.1.2.1 yy.2.1.1.1 yy.2.1.1.2 yy.2.1.2.1 yy.2.1.2.2.1) (fun x N h => ?_) rounds _ σ (hs.trans (by kernel_rfl)) (LoopP.run h)
  rw [← f3_p12e0 xx.2.1 xx.2.2.1 xx.2.2.2.1 x yy.1.1 yy.1.2.1 yy.2.1.1.1 yy.2.1.1.2 yy.2.1.2.1 yy.2.1.2.2.1 N K]
  exact h
noncomputable def f3_G0 : List TV → List Entry → (TV → List Entry → Prop) → Prop := fun tm hp K => getS [.v (.pagg [.int .i64, .int .i64]), .v (.pagg [.sl 3, .int .i64, .int .i64]), .v (.one (.int .i64)), .v (.one (.int .i64)), .v (.one (.int .i64))] [] tm hp fun (xx : ((Int × (Int × Unit)) × (((List (List PC) × Bool) × (Int × (Int × Unit))) × (Int × (Int × (Int × Unit)))))) (yy : Unit) => f3 xx.1.1 xx.1.2.1 xx.2.1.1.1 xx.2.1.1.2 xx.2.1.2.1 xx.2.1.2.2.1 xx.2.2.1 xx.2.2.2.1 xx.2.2.2.2.1 (fun b0_1 => K (B b0_1) [])
set_option maxRecDepth 100000 in
theorem f3_eq (n_23 : Int) (n_24 : Int) (es_25 : List (List PC)) (full_26 : Bool) (n_27 : Int) (n_28 : Int) (n_29 : Int) (n_30 : Int) (n_31 : Int) (K : TV → List Entry → Prop) : (f3_d n_23 n_24 es_25 full_26 n_27 n_28 n_29 n_30 n_31 (fun b0_1 => K (B b0_1) [])) = funcT f3_C Try.f3 [.w (.pagg [pI n_23, pI n_24]), .w (.pagg [.sl 3 es_25 full_26, pI n_27, pI n_28]), I n_29, I n_30, I n_31] [] K := by kernel_rfl
set_option maxHeartbeats 4000000 in
theorem f3_ok0 : FnOk Try.prog glob 3 f3_G0 := by
  refine FnOk.of_text (C := f3_C) tab_ok.ok (Known.add f25_G_ok (Known.add f24_G_ok (Known.add f23_1_G_ok (Known.add f22_G_ok (Known.add f21_1_G_ok (Known.add f20_1_G_ok (Known.add f19_G_ok (Known.add f18_G_ok (Known.add f17_G_ok (Known.add f16_G_ok (Known.add f15_G_ok (Known.add f14_G_ok (Known.add f13_G_ok (Known.add f12_G_ok (Known.add f11_G_ok (Known.add f10_G_ok (Known.add f9_G_ok (Known.add f8_G_ok (Known.none))))))))))))))))))) follows_ok (fn := Try.f3) (by kernel_rfl) (by kernel_rfl) (by kernel_rfl) (fun c hc => ?_) fun tm hp K h => ?_
  · have e : c = bodyOf Try.f3 := Option.some.inj (hc.symm.trans (by kernel_rfl))
    subst e
    exact ⟨LoopsOk.of [nthC (bodies (bodyOf Try.f3)) 0] (by kernel_rfl) ⟨f3_p12_ok, trivial⟩, TailsOk.of (tab := f3_tab) rfl [] (by kernel_rfl) trivial⟩
  · unfold f3_G0 at h
    obtain ⟨xx, yy, rfl, rfl, h⟩ := getS_elim h
    have e := (f3_eq xx.1.1 xx.1.2.1 xx.2.1.1.1 xx.2.1.1.2 xx.2.1.2.1 xx.2.1.2.2.1 xx.2.2.1 xx.2.2.2.1 xx.2.2.2.2.1 K).trans (show _ = funcT f3_C Try.f3 (mkR _ xx) (mkE _ yy) K by kernel_rfl)
    rw [← e]
    exact h.run
noncomputable abbrev f3_G := f3_G0
theorem f3_G_ok : FnOk Try.prog glob 3 f3_G := f3_ok0
end Go.Eng.N
