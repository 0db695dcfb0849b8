/- What the functions that the law reaches compute, by the engine; written by program. -/
import Derived.Test.YteclemahimldeaaFn1
set_option linter.unusedVariables false
set_option maxRecDepth 100000
open Go Go.Eng Go.Proofs
namespace Go.Eng.N
/-! ### f25: plenum/plenumref42.Check -/
noncomputable def f25_p4b0 (es3 : List (List PC)) (full4 : Bool) (n5 : Int) (N0 : Int → Prop) (k0 : Int → Prop) (k1 : Unit → Prop) : Prop := bB (decide (n5 < ((es3.length : Nat) : Int))) ((0 ≤ n5 ∧ n5 < ((es3.length : Nat) : Int)) ∧ cI .i64 (ext (List.getD es3 (Int.toNat n5) []) 0 6) fun n7 r6 => cI .i64 r6 fun n9 r8 => cI .i64 r8 fun n11 r10 => cI .i64 r10 fun n13 r12 => cI .i64 r12 fun n15 r14 => cI .i64 r14 fun n17 r16 => nilC r16 <| f40 n7 1 1000000000 (fun b18 => bB (!b18) (k0 6) (f40 n17 0 n7 (fun b19 => bB (!b19) (k0 6) (f40 n9 0 6311433599 (fun b20 => bB (!b20) (k0 6) (N0 (w64 (n5 + 1))))))))) (k1 ())
noncomputable def f25_p4 (es3 : List (List PC)) (full4 : Bool) (k0 : Int → Prop) (k1 : Unit → Prop) : Int → Prop := LoopP fun x N => f25_p4b0 es3 full4 x (fun n5 => N n5) k0 k1
noncomputable def f25_p16b0 (es22 : List (List PC)) (full23 : Bool) (n24 : Int) (N0 : Int → Prop) (k0 : Int → Prop) (k1 : Unit → Prop) : Prop := bB (decide (n24 < ((es22.length : Nat) : Int))) ((0 ≤ n24 ∧ n24 < ((es22.length : Nat) : Int)) ∧ cI .i64 (ext (List.getD es22 (Int.toNat n24) []) 0 6) fun n26 r25 => cI .i64 r25 fun n28 r27 => cI .i64 r27 fun n30 r29 => cI .i64 r29 fun n32 r31 => cI .i64 r31 fun n34 r33 => cI .i64 r33 fun n36 r35 => nilC r35 <| bB (decide (n36 > 0)) (bB (n28 != 0) (k0 1) (bB (!((n30 == 0) && ((n32 == 0) && true))) (k0 1) (bB (n34 != 0) (k0 1) (bB (decide (n24 > 0)) ((0 ≤ (w64 (n24 - 1)) ∧ (w64 (n24 - 1)) < ((es22.length : Nat) : Int)) ∧ oI .i64 (ext (List.getD es22 (Int.toNat (w64 (n24 - 1))) []) 5 1) fun n37 => bB (decide (n37 > 0)) (k0 1) (N0 (w64 (n24 + 1)))) (N0 (w64 (n24 + 1))))))) (N0 (w64 (n24 + 1)))) (k1 ())
noncomputable def f25_p16 (es22 : List (List PC)) (full23 : Bool) (k0 : Int → Prop) (k1 : Unit → Prop) : Int → Prop := LoopP fun x N => f25_p16b0 es22 full23 x (fun n24 => N n24) k0 k1
noncomputable def f25_p28b0 (es39 : List (List PC)) (full40 : Bool) (n41 : Int) (N0 : Int → Prop) (k0 : Int → Prop) (k1 : Unit → Prop) : Prop := bB (decide (n41 < ((es39.length : Nat) : Int))) ((0 ≤ n41 ∧ n41 < ((es39.length : Nat) : Int)) ∧ cI .i64 (ext (List.getD es39 (Int.toNat n41) []) 0 6) fun n43 r42 => cI .i64 r42 fun n45 r44 => cI .i64 r44 fun n47 r46 => cI .i64 r46 fun n49 r48 => cI .i64 r48 fun n51 r50 => cI .i64 r50 fun n53 r52 => nilC r52 <| (0 ≤ (w64 (n41 - 1)) ∧ (w64 (n41 - 1)) < ((es39.length : Nat) : Int)) ∧ oI .i64 (ext (List.getD es39 (Int.toNat (w64 (n41 - 1))) []) 0 1) fun n54 => f22 n43 n45 n47 n49 n51 n53 (fun n55 => bB (n55 != (w64 (n54 + 1))) (k0 10) (N0 (w64 (n41 + 1))))) (k1 ())
noncomputable def f25_p28 (es39 : List (List PC)) (full40 : Bool) (k0 : Int → Prop) (k1 : Unit → Prop) : Int → Prop := LoopP fun x N => f25_p28b0 es39 full40 x (fun n41 => N n41) k0 k1
noncomputable def f25_d (es1 : List (List PC)) (full2 : Bool) (k0 : Int → Prop) : Prop := f25_p4 es1 full2 (fun n21 => k0 n21) (fun (_ : Unit) => f25_p16 es1 full2 (fun n38 => k0 n38) (fun (_ : Unit) => f25_p28 es1 full2 (fun n56 => k0 n56) (fun (_ : Unit) => f39 es1 full2 (fun b57 => bB (!b57) (k0 15) (k0 0))) 1) 0) 0
structure f25 (es1 : List (List PC)) (full2 : Bool) (k0 : Int → Prop) : Prop where
  run : f25_d es1 full2 k0
noncomputable def f25_p4L : Told := fun s K => match s with
  | ⟨tm, hp⟩ => getS [.v (.one (.sl 6)), .skip 2, .v (.one (.int .i64)), .skip 96] [] tm hp fun (xx : ((List (List PC) × Bool) × (Unit × (Int × (Unit × Unit))))) (yy : Unit) => f25_p4 xx.1.1 xx.1.2 (fun n0_0 => K .ret ⟨mkS 100 [(2, I n0_0)], []⟩) (fun (_ : Unit) => K (.exit 0) ⟨mkS 100 [(0, .w (.one (.p (.sl 6 xx.1.1 xx.1.2))))], []⟩) xx.2.2.1
noncomputable def f25_p16L : Told := fun s K => match s with
  | ⟨tm, hp⟩ => getS [.v (.one (.sl 6)), .skip 4, .v (.one (.int .i64)), .skip 94] [] tm hp fun (xx : ((List (List PC) × Bool) × (Unit × (Int × (Unit × Unit))))) (yy : Unit) => f25_p16 xx.1.1 xx.1.2 (fun n0_1 => K .ret ⟨mkS 100 [(2, I n0_1)], []⟩) (fun (_ : Unit) => K (.exit 2) ⟨mkS 100 [(0, .w (.one (.p (.sl 6 xx.1.1 xx.1.2))))], []⟩) xx.2.2.1
noncomputable def f25_p28L : Told := fun s K => match s with
  | ⟨tm, hp⟩ => getS [.v (.one (.sl 6)), .skip 6, .v (.one (.int .i64)), .skip 92] [] tm hp fun (xx : ((List (List PC) × Bool) × (Unit × (Int × (Unit × Unit))))) (yy : Unit) => f25_p28 xx.1.1 xx.1.2 (fun n0_2 => K .ret ⟨mkS 100 [(2, I n0_2)], []⟩) (fun (_ : Unit) => K (.exit 4) ⟨mkS 100 [(0, .w (.one (.p (.sl 6 xx.1.1 xx.1.2))))], []⟩) xx.2.2.1
noncomputable def f25_tab : List (Nat × Told) := [(4, f25_p4L), (16, f25_p16L), (28, f25_p28L)]
noncomputable def f25_call : FuncId → List TV → List Entry → (TV → List Entry → Prop) → Prop := addCall 40 f40_G (addCall 39 f39_G (addCall 22 f22_G (noCalls)))
noncomputable def f25_C : Ctx := { ty := tyOf tab, glob := glob, byRef := byRef, keep := fun k i => lookN [] (lookN [] ([(4, [(0, [0, 3]), (2, [2]), (3, [0])]), (16, [(0, [0, 5]), (2, [2]), (5, [0])]), (28, [(0, [0, 7]), (2, [2]), (7, [0])])] : List (Nat × List (Nat × List Nat))) k) i, late := lookN [] ([] : List (Nat × List Nat)), nref := lookN [] ([] : List (Nat × List Nat)), nbox := lookN [] ([] : List (Nat × List (Nat × Nat))), take := [], rnil := false, m := 0, fz := true, loops := lookL f25_tab, call := f25_call }
noncomputable def f25_p4_mk (es3 : List (List PC)) (full4 : Bool) (x : Int) : St := ⟨mkS 100 [(0, .w (.one (.p (.sl 6 es3 full4)))), (3, I x)], []⟩
set_option maxRecDepth 100000 in
theorem f25_p4e0 (es_7 : List (List PC)) (full_8 : Bool) (n_9 : Int) (N : St → Prop) (K : TExit → St → Prop) : (f25_p4b0 es_7 full_8 n_9 (fun z2 => N (f25_p4_mk es_7 full_8 z2)) (fun n0_10 => K .ret ⟨mkS 100 [(2, I n0_10)], []⟩) (fun (_ : Unit) => K (.exit 0) ⟨mkS 100 [(0, .w (.one (.p (.sl 6 es_7 full_8))))], []⟩)) = execT f25_C (nthC (bodies (bodyOf Try.f25)) 0) (f25_p4_mk es_7 full_8 n_9) (loopK N (normK f25_C 4) fun e s => K e (normOut f25_C 4 e s)) := by kernel_rfl
noncomputable def f25_p16_mk (es22 : List (List PC)) (full23 : Bool) (x : Int) : St := ⟨mkS 100 [(0, .w (.one (.p (.sl 6 es22 full23)))), (5, I x)], []⟩
set_option maxRecDepth 100000 in
theorem f25_p16e0 (es_14 : List (List PC)) (full_15 : Bool) (n_16 : Int) (N : St → Prop) (K : TExit → St → Prop) : (f25_p16b0 es_14 full_15 n_16 (fun z2 => N (f25_p16_mk es_14 full_15 z2)) (fun n0_17 => K .ret ⟨mkS 100 [(2, I n0_17)], []⟩) (fun (_ : Unit) => K (.exit 2) ⟨mkS 100 [(0, .w (.one (.p (.sl 6 es_14 full_15))))], []⟩)) = execT f25_C (nthC (bodies (bodyOf Try.f25)) 1) (f25_p16_mk es_14 full_15 n_16) (loopK N (normK f25_C 16) fun e s => K e (normOut f25_C 16 e s)) := by kernel_rfl
noncomputable def f25_p28_mk (es39 : List (List PC)) (full40 : Bool) (x : Int) : St := ⟨mkS 100 [(0, .w (.one (.p (.sl 6 es39 full40)))), (7, I x)], []⟩
set_option maxRecDepth 100000 in
theorem f25_p28e0 (es_21 : List (List PC)) (full_22 : Bool) (n_23 : Int) (N : St → Prop) (K : TExit → St → Prop) : (f25_p28b0 es_21 full_22 n_23 (fun z2 => N (f25_p28_mk es_21 full_22 z2)) (fun n0_24 => K .ret ⟨mkS 100 [(2, I n0_24)], []⟩) (fun (_ : Unit) => K (.exit 4) ⟨mkS 100 [(0, .w (.one (.p (.sl 6 es_21 full_22))))], []⟩)) = execT f25_C (nthC (bodies (bodyOf Try.f25)) 2) (f25_p28_mk es_21 full_22 n_23) (loopK N (normK f25_C 28) fun e s => K e (normOut f25_C 28 e s)) := by kernel_rfl
set_option maxHeartbeats 4000000 in
theorem f25_p4_ok : LoopOk f25_C (nthC (bodies (bodyOf Try.f25)) 0) := by
  refine LoopOk.of f25_p4L (by kernel_rfl) fun σ K h => ?_
  have hk : loopKey (nthC (bodies (bodyOf Try.f25)) 0) = 4 := by kernel_rfl
  rw [hk] at h ⊢
  generalize hs : normK f25_C 4 σ = s at h
  obtain ⟨tm, hp⟩ := s
  unfold f25_p4L at h
  dsimp only at h
  obtain ⟨xx, yy, rfl, rfl, h⟩ := getS_elim h
  refine iter_of (f25_p4_mk xx.1.1 xx.1.2) (fun x N h => ?_) rounds _ σ (hs.trans (by kernel_rfl)) (LoopP.run h)
  rw [← f25_p4e0 xx.1.1 xx.1.2 x N K]
  exact h
set_option maxHeartbeats 4000000 in
theorem f25_p16_ok : LoopOk f25_C (nthC (bodies (bodyOf Try.f25)) 1) := by
  refine LoopOk.of f25_p16L (by kernel_rfl) fun σ K h => ?_
  have hk : loopKey (nthC (bodies (bodyOf Try.f25)) 1) = 16 := by kernel_rfl
  rw [hk] at h ⊢
  generalize hs : normK f25_C 16 σ = s at h
  obtain ⟨tm, hp⟩ := s
  unfold f25_p16L at h
  dsimp only at h
  obtain ⟨xx, yy, rfl, rfl, h⟩ := getS_elim h
  refine iter_of (f25_p16_mk xx.1.1 xx.1.2) (fun x N h => ?_) rounds _ σ (hs.trans (by kernel_rfl)) (LoopP.run h)
  rw [← f25_p16e0 xx.1.1 xx.1.2 x N K]
  exact h
set_option maxHeartbeats 4000000 in
theorem f25_p28_ok : LoopOk f25_C (nthC (bodies (bodyOf Try.f25)) 2) := by
  refine LoopOk.of f25_p28L (by kernel_rfl) fun σ K h => ?_
  have hk : loopKey (nthC (bodies (bodyOf Try.f25)) 2) = 28 := by kernel_rfl
  rw [hk] at h ⊢
  generalize hs : normK f25_C 28 σ = s at h
  obtain ⟨tm, hp⟩ := s
  unfold f25_p28L at h
  dsimp only at h
  obtain ⟨xx, yy, rfl, rfl, h⟩ := getS_elim h
  refine iter_of (f25_p28_mk xx.1.1 xx.1.2) (fun x N h => ?_) rounds _ σ (hs.trans (by kernel_rfl)) (LoopP.run h)
  rw [← f25_p28e0 xx.1.1 xx.1.2 x N K]
  exact h
noncomputable def f25_G0 : List TV → List Entry → (TV → List Entry → Prop) → Prop := fun tm hp K => getS [.v (.one (.sl 6))] [] tm hp fun (xx : ((List (List PC) × Bool) × Unit)) (yy : Unit) => f25 xx.1.1 xx.1.2 (fun n0_3 => K (I n0_3) [])
set_option maxRecDepth 100000 in
theorem f25_eq (es_25 : List (List PC)) (full_26 : Bool) (K : TV → List Entry → Prop) : (f25_d es_25 full_26 (fun n0_3 => K (I n0_3) [])) = funcT f25_C Try.f25 [.w (.one (.p (.sl 6 es_25 full_26)))] [] K := by kernel_rfl
set_option maxHeartbeats 4000000 in
theorem f25_ok0 : FnOk Try.prog glob 25 f25_G0 := by
  refine FnOk.of_text (C := f25_C) tab_ok.ok (Known.add f40_G_ok (Known.add f39_G_ok (Known.add f22_G_ok (Known.none)))) follows_ok (fn := Try.f25) (by kernel_rfl) (by kernel_rfl) (by kernel_rfl) (fun c hc => ?_) fun tm hp K h => ?_
  · have e : c = bodyOf Try.f25 := Option.some.inj (hc.symm.trans (by kernel_rfl))
    subst e
    exact ⟨LoopsOk.of [nthC (bodies (bodyOf Try.f25)) 0, nthC (bodies (bodyOf Try.f25)) 1, nthC (bodies (bodyOf Try.f25)) 2] (by kernel_rfl) ⟨f25_p4_ok, f25_p16_ok, f25_p28_ok, trivial⟩, TailsOk.of (tab := f25_tab) rfl [] (by kernel_rfl) trivial⟩
  · unfold f25_G0 at h
    obtain ⟨xx, yy, rfl, rfl, h⟩ := getS_elim h
    have e := (f25_eq xx.1.1 xx.1.2 K).trans (show _ = funcT f25_C Try.f25 (mkR _ xx) (mkE _ yy) K by kernel_rfl)
    rw [← e]
    exact h.run
noncomputable abbrev f25_G := f25_G0
theorem f25_G_ok : FnOk Try.prog glob 25 f25_G := f25_ok0
end Go.Eng.N
set_option linter.unusedVariables false
set_option maxRecDepth 100000
open Go Go.Eng Go.Proofs
namespace Go.Eng.N
/-! ### f38: plenum/plenumref42.gap -/
noncomputable def f38_d (n1 : Int) (n2 : Int) (k0 : Int → Int → Int → Int → Int → Int → Prop) : Prop := k0 n2 0 0 0 0 (w64 ((w64 (n2 - n1)) + 1))
structure f38 (n1 : Int) (n2 : Int) (k0 : Int → Int → Int → Int → Int → Int → Prop) : Prop where
  run : f38_d n1 n2 k0
noncomputable def f38_tab : List (Nat × Told) := []
noncomputable def f38_call : FuncId → List TV → List Entry → (TV → List Entry → Prop) → Prop := noCalls
noncomputable def f38_C : Ctx := { ty := tyOf tab, glob := glob, byRef := byRef, keep := fun k i => lookN [] (lookN [] ([] : List (Nat × List (Nat × List Nat))) k) i, late := lookN [] ([] : List (Nat × List Nat)), nref := lookN [] ([] : List (Nat × List Nat)), nbox := lookN [] ([] : List (Nat × List (Nat × Nat))), take := [], rnil := false, m := 0, fz := true, loops := lookL f38_tab, call := f38_call }
noncomputable def f38_G0 : List TV → List Entry → (TV → List Entry → Prop) → Prop := fun tm hp K => getS [.v (.one (.int .i64)), .v (.one (.int .i64))] [] tm hp fun (xx : (Int × (Int × Unit))) (yy : Unit) => f38 xx.1 xx.2.1 (fun n0_0 n0_1 n0_2 n0_3 n0_4 n0_5 => K (.w (.pagg [pI n0_0, pI n0_1, pI n0_2, pI n0_3, pI n0_4, pI n0_5])) [])
set_option maxRecDepth 100000 in
theorem f38_eq (n_6 : Int) (n_7 : Int) (K : TV → List Entry → Prop) : (f38_d n_6 n_7 (fun n0_0 n0_1 n0_2 n0_3 n0_4 n0_5 => K (.w (.pagg [pI n0_0, pI n0_1, pI n0_2, pI n0_3, pI n0_4, pI n0_5])) [])) = funcT f38_C Try.f38 [I n_6, I n_7] [] K := by kernel_rfl
set_option maxHeartbeats 4000000 in
theorem f38_ok0 : FnOk Try.prog glob 38 f38_G0 := by
  refine FnOk.of_text (C := f38_C) tab_ok.ok (Known.none) follows_ok (fn := Try.f38) (by kernel_rfl) (by kernel_rfl) (by kernel_rfl) (fun c hc => ?_) fun tm hp K h => ?_
  · have e : c = bodyOf Try.f38 := Option.some.inj (hc.symm.trans (by kernel_rfl))
    subst e
    exact ⟨LoopsOk.of [] (by kernel_rfl) trivial, TailsOk.of (tab := f38_tab) rfl [] (by kernel_rfl) trivial⟩
  · unfold f38_G0 at h
    obtain ⟨xx, yy, rfl, rfl, h⟩ := getS_elim h
    have e := (f38_eq xx.1 xx.2.1 K).trans (show _ = funcT f38_C Try.f38 (mkR _ xx) (mkE _ yy) K by kernel_rfl)
    rw [← e]
    exact h.run
noncomputable abbrev f38_G := f38_G0
theorem f38_G_ok : FnOk Try.prog glob 38 f38_G := f38_ok0
end Go.Eng.N
set_option linter.unusedVariables false
set_option maxRecDepth 100000
open Go Go.Eng Go.Proofs
namespace Go.Eng.N
/-! ### f37: plenum/plenumref42.add -/
noncomputable def f37_d (es1 : List (List PC)) (full2 : Bool) (n3 : Int) (n4 : Int) (n5 : Int) (n6 : Int) (n7 : Int) (n8 : Int) (k0 : (List (List PC)) → Bool → Prop) : Prop := bB (decide (((es1.length : Nat) : Int) > 0)) ((0 ≤ (w64 (((es1.length : Nat) : Int) - 1)) ∧ (w64 (((es1.length : Nat) : Int) - 1)) < ((es1.length : Nat) : Int)) ∧ oI .i64 (ext (List.getD es1 (Int.toNat (w64 (((es1.length : Nat) : Int) - 1))) []) 5 1) fun n9 => bB (decide (n9 > 0)) (bB (decide (n8 > 0)) ((0 ≤ (0 : Int) ∧ (0 : Int) ≤ (w64 (((es1.length : Nat) : Int) - 1)) ∧ (w64 (((es1.length : Nat) : Int) - 1)) ≤ ((es1.length : Nat) : Int)) ∧ (0 ≤ (w64 (((es1.length : Nat) : Int) - 1)) ∧ (w64 (((es1.length : Nat) : Int) - 1)) < ((es1.length : Nat) : Int)) ∧ cI .i64 (ext (List.getD es1 (Int.toNat (w64 (((es1.length : Nat) : Int) - 1))) []) 0 6) fun n11 r10 => cI .i64 r10 fun n13 r12 => cI .i64 r12 fun n15 r14 => cI .i64 r14 fun n17 r16 => cI .i64 r16 fun n19 r18 => cI .i64 r18 fun n21 r20 => nilC r20 <| 0 ≤ 0 ∧ (0 + (ext es1 0 ((Int.toNat (w64 (((es1.length : Nat) : Int) - 1))) - 0)).length) * 48 ≤ 2 ^ 46 ∧ (0 + (ext es1 0 ((Int.toNat (w64 (((es1.length : Nat) : Int) - 1))) - 0)).length) ≤ 2 ^ 46 ∧ f22 n11 n13 n15 n17 n19 n21 (fun n22 => f38 n22 n3 (fun n23 n24 n25 n26 n27 n28 => (0 + (0 + (ext es1 0 ((Int.toNat (w64 (((es1.length : Nat) : Int) - 1))) - 0)).length)) ≤ ([] ++ (ext es1 0 ((Int.toNat (w64 (((es1.length : Nat) : Int) - 1))) - 0))).length ∧ ((0 + (ext es1 0 ((Int.toNat (w64 (((es1.length : Nat) : Int) - 1))) - 0)).length) + 1) * 48 ≤ 2 ^ 46 ∧ ((0 + (ext es1 0 ((Int.toNat (w64 (((es1.length : Nat) : Int) - 1))) - 0)).length) + 1) ≤ 2 ^ 46 ∧ k0 (List.take ((0 + (ext es1 0 ((Int.toNat (w64 (((es1.length : Nat) : Int) - 1))) - 0)).length) + 1) (List.drop 0 ((List.take (0 + (ext es1 0 ((Int.toNat (w64 (((es1.length : Nat) : Int) - 1))) - 0)).length) (List.drop 0 ([] ++ (ext es1 0 ((Int.toNat (w64 (((es1.length : Nat) : Int) - 1))) - 0))))) ++ [[pI n23, pI n24, pI n25, pI n26, pI n27, pI n28]]))) false))) (((0 ≤ 0 ∧ (0 + es1.length) * 48 ≤ 2 ^ 46 ∧ (0 + es1.length) ≤ 2 ^ 46 ∧ (0 + (0 + es1.length)) ≤ ([] ++ es1).length ∧ ((0 + es1.length) + 1) * 48 ≤ 2 ^ 46 ∧ ((0 + es1.length) + 1) ≤ 2 ^ 46 ∧ k0 (List.take ((0 + es1.length) + 1) (List.drop 0 ((List.take (0 + es1.length) (List.drop 0 ([] ++ es1))) ++ [[pI n3, pI n4, pI n5, pI n6, pI n7, pI n8]]))) false) ∧ (0 ≤ 0 ∧ (0 + es1.length) * 48 ≤ 2 ^ 46 ∧ (0 + es1.length) ≤ 2 ^ 46 ∧ (0 + (0 + es1.length)) ≤ ([] ++ es1).length ∧ ((0 + es1.length) + 1) * 48 ≤ 2 ^ 46 ∧ ((0 + es1.length) + 1) ≤ 2 ^ 46 ∧ k0 (List.take ((0 + es1.length) + 1) (List.drop 0 ((List.take (0 + es1.length) (List.drop 0 ([] ++ es1))) ++ [[pI n3, pI n4, pI n5, pI n6, pI n7, pI n8]]))) false)) ∧ (0 ≤ 0 ∧ (0 + es1.length) * 48 ≤ 2 ^ 46 ∧ (0 + es1.length) ≤ 2 ^ 46 ∧ (0 + (0 + es1.length)) ≤ ([] ++ es1).length ∧ ((0 + es1.length) + 1) * 48 ≤ 2 ^ 46 ∧ ((0 + es1.length) + 1) ≤ 2 ^ 46 ∧ k0 (List.take ((0 + es1.length) + 1) (List.drop 0 ((List.take (0 + es1.length) (List.drop 0 ([] ++ es1))) ++ [[pI n3, pI n4, pI n5, pI n6, pI n7, pI n8]]))) false))) (((0 ≤ 0 ∧ (0 + es1.length) * 48 ≤ 2 ^ 46 ∧ (0 + es1.length) ≤ 2 ^ 46 ∧ (0 + (0 + es1.length)) ≤ ([] ++ es1).length ∧ ((0 + es1.length) + 1) * 48 ≤ 2 ^ 46 ∧ ((0 + es1.length) + 1) ≤ 2 ^ 46 ∧ k0 (List.take ((0 + es1.length) + 1) (List.drop 0 ((List.take (0 + es1.length) (List.drop 0 ([] ++ es1))) ++ [[pI n3, pI n4, pI n5, pI n6, pI n7, pI n8]]))) false) ∧ (0 ≤ 0 ∧ (0 + es1.length) * 48 ≤ 2 ^ 46 ∧ (0 + es1.length) ≤ 2 ^ 46 ∧ (0 + (0 + es1.length)) ≤ ([] ++ es1).length ∧ ((0 + es1.length) + 1) * 48 ≤ 2 ^ 46 ∧ ((0 + es1.length) + 1) ≤ 2 ^ 46 ∧ k0 (List.take ((0 + es1.length) + 1) (List.drop 0 ((List.take (0 + es1.length) (List.drop 0 ([] ++ es1))) ++ [[pI n3, pI n4, pI n5, pI n6, pI n7, pI n8]]))) false)) ∧ (0 ≤ 0 ∧ (0 + es1.length) * 48 ≤ 2 ^ 46 ∧ (0 + es1.length) ≤ 2 ^ 46 ∧ (0 + (0 + es1.length)) ≤ ([] ++ es1).length ∧ ((0 + es1.length) + 1) * 48 ≤ 2 ^ 46 ∧ ((0 + es1.length) + 1) ≤ 2 ^ 46 ∧ k0 (List.take ((0 + es1.length) + 1) (List.drop 0 ((List.take (0 + es1.length) (List.drop 0 ([] ++ es1))) ++ [[pI n3, pI n4, pI n5, pI n6, pI n7, pI n8]]))) false))) (((0 ≤ 0 ∧ (0 + es1.length) * 48 ≤ 2 ^ 46 ∧ (0 + es1.length) ≤ 2 ^ 46 ∧ (0 + (0 + es1.length)) ≤ ([] ++ es1).length ∧ ((0 + es1.length) + 1) * 48 ≤ 2 ^ 46 ∧ ((0 + es1.length) + 1) ≤ 2 ^ 46 ∧ k0 (List.take ((0 + es1.length) + 1) (List.drop 0 ((List.take (0 + es1.length) (List.drop 0 ([] ++ es1))) ++ [[pI n3, pI n4, pI n5, pI n6, pI n7, pI n8]]))) false) ∧ (0 ≤ 0 ∧ (0 + es1.length) * 48 ≤ 2 ^ 46 ∧ (0 + es1.length) ≤ 2 ^ 46 ∧ (0 + (0 + es1.length)) ≤ ([] ++ es1).length ∧ ((0 + es1.length) + 1) * 48 ≤ 2 ^ 46 ∧ ((0 + es1.length) + 1) ≤ 2 ^ 46 ∧ k0 (List.take ((0 + es1.length) + 1) (List.drop 0 ((List.take (0 + es1.length) (List.drop 0 ([] ++ es1))) ++ [[pI n3, pI n4, pI n5, pI n6, pI n7, pI n8]]))) false)) ∧ (0 ≤ 0 ∧ (0 + es1.length) * 48 ≤ 2 ^ 46 ∧ (0 + es1.length) ≤ 2 ^ 46 ∧ (0 + (0 + es1.length)) ≤ ([] ++ es1).length ∧ ((0 + es1.length) + 1) * 48 ≤ 2 ^ 46 ∧ ((0 + es1.length) + 1) ≤ 2 ^ 46 ∧ k0 (List.take ((0 + es1.length) + 1) (List.drop 0 ((List.take (0 + es1.length) (List.drop 0 ([] ++ es1))) ++ [[pI n3, pI n4, pI n5, pI n6, pI n7, pI n8]]))) false))
structure f37 (es1 : List (List PC)) (full2 : Bool) (n3 : Int) (n4 : Int) (n5 : Int) (n6 : Int) (n7 : Int) (n8 : Int) (k0 : (List (List PC)) → Bool → Prop) : Prop where
  run : f37_d es1 full2 n3 n4 n5 n6 n7 n8 k0
noncomputable def f37_tab : List (Nat × Told) := []
noncomputable def f37_call : FuncId → List TV → List Entry → (TV → List Entry → Prop) → Prop := addCall 38 f38_G (addCall 22 f22_G (noCalls))
noncomputable def f37_C : Ctx := { ty := tyOf tab, glob := glob, byRef := byRef, keep := fun k i => lookN [] (lookN [] ([] : List (Nat × List (Nat × List Nat))) k) i, late := lookN [] ([] : List (Nat × List Nat)), nref := lookN [] ([] : List (Nat × List Nat)), nbox := lookN [] ([] : List (Nat × List (Nat × Nat))), take := [], rnil := false, m := 0, fz := true, loops := lookL f37_tab, call := f37_call }
noncomputable def f37_G0 : List TV → List Entry → (TV → List Entry → Prop) → Prop := fun tm hp K => getS [.v (.one (.sl 6)), .v (.pagg [.int .i64, .int .i64, .int .i64, .int .i64, .int .i64, .int .i64])] [] tm hp fun (xx : ((List (List PC) × Bool) × ((Int × (Int × (Int × (Int × (Int × (Int × Unit)))))) × Unit))) (yy : Unit) => f37 xx.1.1 xx.1.2 xx.2.1.1 xx.2.1.2.1 xx.2.1.2.2.1 xx.2.1.2.2.2.1 xx.2.1.2.2.2.2.1 xx.2.1.2.2.2.2.2.1 (fun es0_0 full0_1 => K (.w (.one (.p (.sl 6 es0_0 full0_1)))) [])
set_option maxRecDepth 100000 in
theorem f37_eq (es_2 : List (List PC)) (full_3 : Bool) (n_4 : Int) (n_5 : Int) (n_6 : Int) (n_7 : Int) (n_8 : Int) (n_9 : Int) (K : TV → List Entry → Prop) : (f37_d es_2 full_3 n_4 n_5 n_6 n_7 n_8 n_9 (fun es0_0 full0_1 => K (.w (.one (.p (.sl 6 es0_0 full0_1)))) [])) = funcT f37_C Try.f37 [.w (.one (.p (.sl 6 es_2 full_3))), .w (.pagg [pI n_4, pI n_5, pI n_6, pI n_7, pI n_8, pI n_9])] [] K := by kernel_rfl
set_option maxHeartbeats 4000000 in
theorem f37_ok0 : FnOk Try.prog glob 37 f37_G0 := by
  refine FnOk.of_text (C := f37_C) tab_ok.ok (Known.add f38_G_ok (Known.add f22_G_ok (Known.none))) follows_ok (fn := Try.f37) (by kernel_rfl) (by kernel_rfl) (by kernel_rfl) (fun c hc => ?_) fun tm hp K h => ?_
  · have e : c = bodyOf Try.f37 := Option.some.inj (hc.symm.trans (by kernel_rfl))
    subst e
    exact ⟨LoopsOk.of [] (by kernel_rfl) trivial, TailsOk.of (tab := f37_tab) rfl [] (by kernel_rfl) trivial⟩
  · unfold f37_G0 at h
    obtain ⟨xx, yy, rfl, rfl, h⟩ := getS_elim h
    have e := (f37_eq xx.1.1 xx.1.2 xx.2.1.1 xx.2.1.2.1 xx.2.1.2.2.1 xx.2.1.2.2.2.1 xx.2.1.2.2.2.2.1 xx.2.1.2.2.2.2.2.1 K).trans (show _ = funcT f37_C Try.f37 (mkR _ xx) (mkE _ yy) K by kernel_rfl)
    rw [← e]
    exact h.run
noncomputable abbrev f37_G := f37_G0
theorem f37_G_ok : FnOk Try.prog glob 37 f37_G := f37_ok0
end Go.Eng.N
set_option linter.unusedVariables false
set_option maxRecDepth 100000
open Go Go.Eng Go.Proofs
namespace Go.Eng.N
/-! ### f49: plenum/plenumref42.Find -/
noncomputable def f49_p4b0 (es4 : List (List PC)) (full5 : Bool) (n6 : Int) (n7 : Int) (n8 : Int) (n9 : Int) (n10 : Int) (n11 : Int) (n12 : Int) (n13 : Int) (N0 : Int → Prop) (k0 : Bool → Int → Int → Int → Int → Int → Int → Prop) (k1 : Unit → Prop) : Prop := bB (decide (n7 < ((es4.length : Nat) : Int))) ((0 ≤ n7 ∧ n7 < ((es4.length : Nat) : Int)) ∧ oI .i64 (ext (List.getD es4 (Int.toNat n7) []) 5 1) fun n14 => bB (n14 == 0) ((0 ≤ n7 ∧ n7 < ((es4.length : Nat) : Int)) ∧ oI .i64 (ext (List.getD es4 (Int.toNat n7) []) 0 1) fun n15 => bB (n15 == n6) ((0 ≤ n7 ∧ n7 < ((es4.length : Nat) : Int)) ∧ cI .i64 (ext (List.getD es4 (Int.toNat n7) []) 0 6) fun n17 r16 => cI .i64 r16 fun n19 r18 => cI .i64 r18 fun n21 r20 => cI .i64 r20 fun n23 r22 => cI .i64 r22 fun n25 r24 => cI .i64 r24 fun n27 r26 => nilC r26 <| k0 true n17 n19 n21 n23 n25 n27) (N0 (w64 (n7 + 1)))) (N0 (w64 (n7 + 1)))) (k1 ())
noncomputable def f49_p4 (es4 : List (List PC)) (full5 : Bool) (n6 : Int) (n8 : Int) (n9 : Int) (n10 : Int) (n11 : Int) (n12 : Int) (n13 : Int) (k0 : Bool → Int → Int → Int → Int → Int → Int → Prop) (k1 : Unit → Prop) : Int → Prop := LoopP fun x N => f49_p4b0 es4 full5 n6 x n8 n9 n10 n11 n12 n13 (fun n7 => N n7) k0 k1
noncomputable def f49_d (es1 : List (List PC)) (full2 : Bool) (n3 : Int) (k0 : Int → Int → Int → Int → Int → Int → Bool → Prop) : Prop := f49_p4 es1 full2 n3 0 0 0 0 0 0 (fun b28 n29 n30 n31 n32 n33 n34 => k0 n29 n30 n31 n32 n33 n34 b28) (fun (_ : Unit) => k0 0 0 0 0 0 0 false) 0
structure f49 (es1 : List (List PC)) (full2 : Bool) (n3 : Int) (k0 : Int → Int → Int → Int → Int → Int → Bool → Prop) : Prop where
  run : f49_d es1 full2 n3 k0
noncomputable def f49_p4L : Told := fun s K => match s with
  | ⟨tm, hp⟩ => getS [.v (.one (.sl 6)), .v (.one (.int .i64)), .skip 2, .v (.one (.ptr 0 0 0)), .skip 1, .v (.one (.int .i64)), .skip 26] [.box [.int .i64, .int .i64, .int .i64, .int .i64, .int .i64, .int .i64]] tm hp fun (xx : ((List (List PC) × Bool) × (Int × (Unit × (Unit × (Unit × (Int × (Unit × Unit)))))))) (yy : ((Int × (Int × (Int × (Int × (Int × (Int × Unit)))))) × Unit)) => f49_p4 xx.1.1 xx.1.2 xx.2.1 yy.1.1 yy.1.2.1 yy.1.2.2.1 yy.1.2.2.2.1 yy.1.2.2.2.2.1 yy.1.2.2.2.2.2.1 (fun b0_0 n0_1 n0_2 n0_3 n0_4 n0_5 n0_6 => K .ret ⟨mkS 33 [(4, .w (.one (.ptr 0 0 0))), (5, B b0_0)], [.box [.p (pI n0_1), .p (pI n0_2), .p (pI n0_3), .p (pI n0_4), .p (pI n0_5), .p (pI n0_6)]]⟩) (fun (_ : Unit) => K (.exit 0) ⟨mkS 33 [(4, .w (.one (.ptr 0 0 0)))], [.box [.p (pI yy.1.1), .p (pI yy.1.2.1), .p (pI yy.1.2.2.1), .p (pI yy.1.2.2.2.1), .p (pI yy.1.2.2.2.2.1), .p (pI yy.1.2.2.2.2.2.1)]]⟩) xx.2.2.2.2.2.1
noncomputable def f49_tab : List (Nat × Told) := [(4, f49_p4L)]
noncomputable def f49_call : FuncId → List TV → List Entry → (TV → List Entry → Prop) → Prop := noCalls
noncomputable def f49_C : Ctx := { ty := tyOf tab, glob := glob, byRef := byRef, keep := fun k i => lookN [] (lookN [] ([(4, [(0, [0, 1, 4, 6]), (2, [4, 5]), (3, [4])])] : List (Nat × List (Nat × List Nat))) k) i, late := lookN [] ([] : List (Nat × List Nat)), nref := lookN [] ([] : List (Nat × List Nat)), nbox := lookN [] ([] : List (Nat × List (Nat × Nat))), take := [], rnil := false, m := 0, fz := true, loops := lookL f49_tab, call := f49_call }
noncomputable def f49_p4_mk (es4 : List (List PC)) (full5 : Bool) (n6 : Int) (n8 : Int) (n9 : Int) (n10 : Int) (n11 : Int) (n12 : Int) (n13 : Int) (x : Int) : St := ⟨mkS 33 [(0, .w (.one (.p (.sl 6 es4 full5)))), (1, I n6), (4, .w (.one (.ptr 0 0 0))), (6, I x)], [.box [.p (pI n8), .p (pI n9), .p (pI n10), .p (pI n11), .p (pI n12), .p (pI n13)]]⟩
set_option maxRecDepth 100000 in
theorem f49_p4e0 (es_24 : List (List PC)) (full_25 : Bool) (n_26 : Int) (n_27 : Int) (n_28 : Int) (n_29 : Int) (n_30 : Int) (n_31 : Int) (n_32 : Int) (n_33 : Int) (N : St → Prop) (K : TExit → St → Prop) : (f49_p4b0 es_24 full_25 n_26 n_27 n_28 n_29 n_30 n_31 n_32 n_33 (fun z3 => N (f49_p4_mk es_24 full_25 n_26 n_28 n_29 n_30 n_31 n_32 n_33 z3)) (fun b0_34 n0_35 n0_36 n0_37 n0_38 n0_39 n0_40 => K .ret ⟨mkS 33 [(4, .w (.one (.ptr 0 0 0))), (5, B b0_34)], [.box [.p (pI n0_35), .p (pI n0_36), .p (pI n0_37), .p (pI n0_38), .p (pI n0_39), .p (pI n0_40)]]⟩) (fun (_ : Unit) => K (.exit 0) ⟨mkS 33 [(4, .w (.one (.ptr 0 0 0)))], [.box [.p (pI n_28), .p (pI n_29), .p (pI n_30), .p (pI n_31), .p (pI n_32), .p (pI n_33)]]⟩)) = execT f49_C (nthC (bodies (bodyOf Try.f49)) 0) (f49_p4_mk es_24 full_25 n_26 n_28 n_29 n_30 n_31 n_32 n_33 n_27) (loopK N (normK f49_C 4) fun e s => K e (normOut f49_C 4 e s)) := by kernel_rfl
set_option maxHeartbeats 4000000 in
theorem f49_p4_ok : LoopOk f49_C (nthC (bodies (bodyOf Try.f49)) 0) := by
  refine LoopOk.of f49_p4L (by kernel_rfl) fun σ K h => ?_
  have hk : loopKey (nthC (bodies (bodyOf Try.f49)) 0) = 4 := by kernel_rfl
  rw [hk] at h ⊢
  generalize hs : normK f49_C 4 σ = s at h
  obtain ⟨tm, hp⟩ := s
  unfold f49_p4L at h
  dsimp only at h
  obtain ⟨xx, yy, rfl, rfl, h⟩ := getS_elim h
  refine iter_of (f49_p4_mk xx.1.1 xx.1.2 xx.2.1 yy.1.1 yy.1.2.1 yy.1.2.2.1 yy.1.2.2.2.1 yy.1.2.2.2.2.1 yy.1.2.2.2.2.2.1) (fun x N h => ?_) rounds _ σ (hs.trans (by kernel_rfl)) (LoopP.run h)
  rw [← f49_p4e0 xx.1.1 xx.1.2 xx.2.1 x yy.1.1 yy.1.2.1 yy.1.2.2.1 yy.1.2.2.2.1 yy.1.2.2.2.2.1 yy.1.2.2.2.2.2.1 N K]
  exact h
noncomputable def f49_G0 : List TV → List Entry → (TV → List Entry → Prop) → Prop := fun tm hp K => getS [.v (.one (.sl 6)), .v (.one (.int .i64))] [] tm hp fun (xx : ((List (List PC) × Bool) × (Int × Unit))) (yy : Unit) => f49 xx.1.1 xx.1.2 xx.2.1 (fun n0_7 n0_8 n0_9 n0_10 n0_11 n0_12 b0_13 => K (.tup [.pagg [pI n0_7, pI n0_8, pI n0_9, pI n0_10, pI n0_11, pI n0_12], .one (.p (pB b0_13))]) [])
set_option maxRecDepth 100000 in
theorem f49_eq (es_41 : List (List PC)) (full_42 : Bool) (n_43 : Int) (K : TV → List Entry → Prop) : (f49_d es_41 full_42 n_43 (fun n0_7 n0_8 n0_9 n0_10 n0_11 n0_12 b0_13 => K (.tup [.pagg [pI n0_7, pI n0_8, pI n0_9, pI n0_10, pI n0_11, pI n0_12], .one (.p (pB b0_13))]) [])) = funcT f49_C Try.f49 [.w (.one (.p (.sl 6 es_41 full_42))), I n_43] [] K := by kernel_rfl
set_option maxHeartbeats 4000000 in
theorem f49_ok0 : FnOk Try.prog glob 49 f49_G0 := by
  refine FnOk.of_text (C := f49_C) tab_ok.ok (Known.none) follows_ok (fn := Try.f49) (by kernel_rfl) (by kernel_rfl) (by kernel_rfl) (fun c hc => ?_) fun tm hp K h => ?_
  · have e : c = bodyOf Try.f49 := Option.some.inj (hc.symm.trans (by kernel_rfl))
    subst e
    exact ⟨LoopsOk.of [nthC (bodies (bodyOf Try.f49)) 0] (by kernel_rfl) ⟨f49_p4_ok, trivial⟩, TailsOk.of (tab := f49_tab) rfl [] (by kernel_rfl) trivial⟩
  · unfold f49_G0 at h
    obtain ⟨xx, yy, rfl, rfl, h⟩ := getS_elim h
    have e := (f49_eq xx.1.1 xx.1.2 xx.2.1 K).trans (show _ = funcT f49_C Try.f49 (mkR _ xx) (mkE _ yy) K by kernel_rfl)
    rw [← e]
    exact h.run
noncomputable abbrev f49_G := f49_G0
theorem f49_G_ok : FnOk Try.prog glob 49 f49_G := f49_ok0
end Go.Eng.N
set_option linter.unusedVariables false
set_option maxRecDepth 100000
open Go Go.Eng Go.Proofs
namespace Go.Eng.N
/-! ### f31: plenum/plenumref42.Merge -/
noncomputable def f31_p37_0 (es61 : List (List PC)) (full62 : Bool) (es63 : List (List PC)) (full64 : Bool) (i65 : Nat) (n66 : Nat) (n67 : Int) (b68 : Bool) (b69 : Bool) (es70 : List (List PC)) (n71 : Int) (n72 : Int) (n73 : Int) (n74 : Int) (n75 : Int) (n76 : Int) (n77 : Int) (n78 : Int) (n79 : Int) (n80 : Int) (n81 : Int) (n82 : Int) (k0 : (List (List PC)) → Bool → (List (List PC)) → Bool → (List (List PC)) → Bool → Int → Prop) : Prop := bB b68 (f37 (List.take n66 (List.drop i65 es70)) false n71 n72 n73 n74 n75 n76 (fun es83 full84 => k0 es61 full62 es63 full64 es83 full84 n67)) (bB b69 (f37 (List.take n66 (List.drop i65 es70)) false n77 n78 n79 n80 n81 n82 (fun es85 full86 => k0 es61 full62 es63 full64 es85 full86 n67)) (f38 n67 n67 (fun n87 n88 n89 n90 n91 n92 => f37 (List.take n66 (List.drop i65 es70)) false n87 n88 n89 n90 n91 n92 (fun es93 full94 => k0 es61 full62 es63 full64 es93 full94 n67))))
noncomputable def f31_p37_1 (es95 : List (List PC)) (full96 : Bool) (es97 : List (List PC)) (full98 : Bool) (es99 : List (List PC)) (full100 : Bool) (n101 : Int) (b102 : Bool) (b103 : Bool) (n104 : Int) (n105 : Int) (n106 : Int) (n107 : Int) (n108 : Int) (n109 : Int) (n110 : Int) (n111 : Int) (n112 : Int) (n113 : Int) (n114 : Int) (n115 : Int) (k0 : (List (List PC)) → Bool → (List (List PC)) → Bool → (List (List PC)) → Bool → Int → Prop) : Prop := bB b102 (f37 es99 full100 n104 n105 n106 n107 n108 n109 (fun es116 full117 => k0 es95 full96 es97 full98 es116 full117 n101)) (bB b103 (f37 es99 full100 n110 n111 n112 n113 n114 n115 (fun es118 full119 => k0 es95 full96 es97 full98 es118 full119 n101)) (f38 n101 n101 (fun n120 n121 n122 n123 n124 n125 => f37 es99 full100 n120 n121 n122 n123 n124 n125 (fun es126 full127 => k0 es95 full96 es97 full98 es126 full127 n101))))
noncomputable def f31_p22b0 (es37 : List (List PC)) (full38 : Bool) (es39 : List (List PC)) (full40 : Bool) (i41 : Nat) (n42 : Nat) (n43 : Int) (es44 : List (List PC)) (N0 : (List (List PC)) → Bool → (List (List PC)) → Bool → Nat → Nat → Int → (List (List PC)) → Prop) (N1 : (List (List PC)) → Bool → (List (List PC)) → Bool → (List (List PC)) → Bool → Int → Prop) (k0 : Int → Prop) (k1 : Nat → Nat → (List (List PC)) → Prop) (k2 : (List (List PC)) → Bool → Prop) : Prop := (0 ≤ (w64 (((es37.length : Nat) : Int) - 1)) ∧ (w64 (((es37.length : Nat) : Int) - 1)) < ((es37.length : Nat) : Int)) ∧ oI .i64 (ext (List.getD es37 (Int.toNat (w64 (((es37.length : Nat) : Int) - 1))) []) 0 1) fun n45 => (0 ≤ (w64 (((es39.length : Nat) : Int) - 1)) ∧ (w64 (((es39.length : Nat) : Int) - 1)) < ((es39.length : Nat) : Int)) ∧ oI .i64 (ext (List.getD es39 (Int.toNat (w64 (((es39.length : Nat) : Int) - 1))) []) 0 1) fun n46 => bB (decide (n43 ≤ (if n46 > n45 then n46 else n45))) (f49 es37 full38 n43 (fun n47 n48 n49 n50 n51 n52 b53 => f49 es39 full40 n43 (fun n54 n55 n56 n57 n58 n59 b60 => bB b53 (bB b60 (bB (!((n47 == n54) && ((n48 == n55) && ((n49 == n56) && ((n50 == n57) && ((n51 == n58) && ((n52 == n59) && true))))))) (k0 10) (f31_p37_0 es37 full38 es39 full40 i41 n42 n43 b53 b60 es44 n47 n48 n49 n50 n51 n52 n54 n55 n56 n57 n58 n59 (fun es128 full129 es130 full131 es132 full133 n134 => N1 es128 full129 es130 full131 es132 full133 (w64 (n134 + 1))))) (f31_p37_0 es37 full38 es39 full40 i41 n42 n43 b53 b60 es44 n47 n48 n49 n50 n51 n52 n54 n55 n56 n57 n58 n59 (fun es135 full136 es137 full138 es139 full140 n141 => N1 es135 full136 es137 full138 es139 full140 (w64 (n141 + 1))))) (f31_p37_0 es37 full38 es39 full40 i41 n42 n43 b53 b60 es44 n47 n48 n49 n50 n51 n52 n54 n55 n56 n57 n58 n59 (fun es142 full143 es144 full145 es146 full147 n148 => N1 es142 full143 es144 full145 es146 full147 (w64 (n148 + 1))))))) (k1 i41 n42 es44)
noncomputable def f31_p22b1 (es149 : List (List PC)) (full150 : Bool) (es151 : List (List PC)) (full152 : Bool) (es153 : List (List PC)) (full154 : Bool) (n155 : Int) (N0 : (List (List PC)) → Bool → (List (List PC)) → Bool → Nat → Nat → Int → (List (List PC)) → Prop) (N1 : (List (List PC)) → Bool → (List (List PC)) → Bool → (List (List PC)) → Bool → Int → Prop) (k0 : Int → Prop) (k1 : Nat → Nat → (List (List PC)) → Prop) (k2 : (List (List PC)) → Bool → Prop) : Prop := (0 ≤ (w64 (((es149.length : Nat) : Int) - 1)) ∧ (w64 (((es149.length : Nat) : Int) - 1)) < ((es149.length : Nat) : Int)) ∧ oI .i64 (ext (List.getD es149 (Int.toNat (w64 (((es149.length : Nat) : Int) - 1))) []) 0 1) fun n156 => (0 ≤ (w64 (((es151.length : Nat) : Int) - 1)) ∧ (w64 (((es151.length : Nat) : Int) - 1)) < ((es151.length : Nat) : Int)) ∧ oI .i64 (ext (List.getD es151 (Int.toNat (w64 (((es151.length : Nat) : Int) - 1))) []) 0 1) fun n157 => bB (decide (n155 ≤ (if n157 > n156 then n157 else n156))) (f49 es149 full150 n155 (fun n158 n159 n160 n161 n162 n163 b164 => f49 es151 full152 n155 (fun n165 n166 n167 n168 n169 n170 b171 => bB b164 (bB b171 (bB (!((n158 == n165) && ((n159 == n166) && ((n160 == n167) && ((n161 == n168) && ((n162 == n169) && ((n163 == n170) && true))))))) (k0 10) (f31_p37_1 es149 full150 es151 full152 es153 full154 n155 b164 b171 n158 n159 n160 n161 n162 n163 n165 n166 n167 n168 n169 n170 (fun es172 full173 es174 full175 es176 full177 n178 => N1 es172 full173 es174 full175 es176 full177 (w64 (n178 + 1))))) (f31_p37_1 es149 full150 es151 full152 es153 full154 n155 b164 b171 n158 n159 n160 n161 n162 n163 n165 n166 n167 n168 n169 n170 (fun es179 full180 es181 full182 es183 full184 n185 => N1 es179 full180 es181 full182 es183 full184 (w64 (n185 + 1))))) (f31_p37_1 es149 full150 es151 full152 es153 full154 n155 b164 b171 n158 n159 n160 n161 n162 n163 n165 n166 n167 n168 n169 n170 (fun es186 full187 es188 full189 es190 full191 n192 => N1 es186 full187 es188 full189 es190 full191 (w64 (n192 + 1))))))) (k2 es153 full154)
noncomputable def f31_p22 (k0 : Int → Prop) (k1 : Nat → Nat → (List (List PC)) → Prop) (k2 : (List (List PC)) → Bool → Prop) : ((List (List PC)) × Bool × (List (List PC)) × Bool × Nat × Nat × Int × (List (List PC))) ⊕ ((List (List PC)) × Bool × (List (List PC)) × Bool × (List (List PC)) × Bool × Int) → Prop := LoopP fun x N => match x with
  | (.inl x) => f31_p22b0 x.1 x.2.1 x.2.2.1 x.2.2.2.1 x.2.2.2.2.1 x.2.2.2.2.2.1 x.2.2.2.2.2.2.1 x.2.2.2.2.2.2.2 (fun es37 full38 es39 full40 i41 n42 n43 es44 => N (.inl (es37, full38, es39, full40, i41, n42, n43, es44))) (fun es149 full150 es151 full152 es153 full154 n155 => N (.inr (es149, full150, es151, full152, es153, full154, n155))) k0 k1 k2
  | (.inr x) => f31_p22b1 x.1 x.2.1 x.2.2.1 x.2.2.2.1 x.2.2.2.2.1 x.2.2.2.2.2.1 x.2.2.2.2.2.2 (fun es37 full38 es39 full40 i41 n42 n43 es44 => N (.inl (es37, full38, es39, full40, i41, n42, n43, es44))) (fun es149 full150 es151 full152 es153 full154 n155 => N (.inr (es149, full150, es151, full152, es153, full154, n155))) k0 k1 k2
noncomputable def f31_p19 (es7 : List (List PC)) (full8 : Bool) (es9 : List (List PC)) (full10 : Bool) (k0 : Int → Prop) (k1 : Nat → Nat → Int → (List (List PC)) → Prop) (k2 : (List (List PC)) → Bool → Int → Prop) : Prop := (0 ≤ (0 : Int) ∧ (0 : Int) < ((es7.length : Nat) : Int)) ∧ cI .i64 (ext (List.getD es7 0 []) 0 6) fun n12 r11 => cI .i64 r11 fun n14 r13 => cI .i64 r13 fun n16 r15 => cI .i64 r15 fun n18 r17 => cI .i64 r17 fun n20 r19 => cI .i64 r19 fun n22 r21 => nilC r21 <| (0 ≤ (0 : Int) ∧ (0 : Int) < ((es9.length : Nat) : Int)) ∧ cI .i64 (ext (List.getD es9 0 []) 0 6) fun n24 r23 => cI .i64 r23 fun n26 r25 => cI .i64 r25 fun n28 r27 => cI .i64 r27 fun n30 r29 => cI .i64 r29 fun n32 r31 => cI .i64 r31 fun n34 r33 => nilC r33 <| f22 n12 n14 n16 n18 n20 n22 (fun n35 => f22 n24 n26 n28 n30 n32 n34 (fun n36 => f31_p22 (fun n193 => k0 n193) (fun i194 n195 es196 => f39 (List.take n195 (List.drop i194 es196)) false (fun b197 => bB (!b197) (k0 15) (k1 i194 n195 0 es196))) (fun es198 full199 => f39 es198 full199 (fun b200 => bB (!b200) (k0 15) (k2 es198 full199 0))) (.inl (es7, full8, es9, full10, 0, 0, (if n36 < n35 then n36 else n35), []))))
noncomputable def f31_d (es1 : List (List PC)) (full2 : Bool) (es3 : List (List PC)) (full4 : Bool) (k0 : (List (List PC)) → Bool → Int → Prop) : Prop := f25 es1 full2 (fun n5 => bB (n5 != 0) (k0 [] true n5) (f25 es3 full4 (fun n6 => bB (n6 != 0) (k0 [] true n6) (bB (((es1.length : Nat) : Int) == 0) (0 ≤ 0 ∧ (0 + es1.length) * 48 ≤ 2 ^ 46 ∧ (0 + es1.length) ≤ 2 ^ 46 ∧ (0 + (0 + es1.length)) ≤ ([] ++ es1).length ∧ ((0 + es1.length) + es3.length) * 48 ≤ 2 ^ 46 ∧ ((0 + es1.length) + es3.length) ≤ 2 ^ 46 ∧ k0 (List.take ((0 + es1.length) + es3.length) (List.drop 0 ((List.take (0 + es1.length) (List.drop 0 ([] ++ es1))) ++ es3))) false 0) (bB (((es3.length : Nat) : Int) == 0) (0 ≤ 0 ∧ (0 + es1.length) * 48 ≤ 2 ^ 46 ∧ (0 + es1.length) ≤ 2 ^ 46 ∧ (0 + (0 + es1.length)) ≤ ([] ++ es1).length ∧ ((0 + es1.length) + es3.length) * 48 ≤ 2 ^ 46 ∧ ((0 + es1.length) + es3.length) ≤ 2 ^ 46 ∧ k0 (List.take ((0 + es1.length) + es3.length) (List.drop 0 ((List.take (0 + es1.length) (List.drop 0 ([] ++ es1))) ++ es3))) false 0) (f31_p19 es1 full2 es3 full4 (fun n201 => k0 [] true n201) (fun i202 n203 n204 es205 => k0 (List.take n203 (List.drop i202 es205)) false n204) (fun es206 full207 n208 => k0 es206 full207 n208)))))))
structure f31 (es1 : List (List PC)) (full2 : Bool) (es3 : List (List PC)) (full4 : Bool) (k0 : (List (List PC)) → Bool → Int → Prop) : Prop where
  run : f31_d es1 full2 es3 full4 k0
noncomputable def f31_p37L : Told := fun s K => match s with
  | ⟨tm, hp⟩ => bif isSig (sigOf tm hp) [5, 5, 0, 0, 0, 0, 0, 0, 100, 2, 201, 3, 202, 3, 0, 0, 0, 0, 0, 0, 0, 0, 0, 0, 0, 0, 0, 0, 0, 0, 0, 0, 0, 0, 0, 0, 0, 0, 0, 0, 0, 0, 0, 0, 0, 0, 0, 0, 0, 0, 0, 0, 0, 0, 0, 0, 0, 0, 0, 0, 0, 0, 0, 0, 0, 0, 0, 0, 0, 0, 0, 0, 0, 0, 0, 0, 0, 0, 0, 0, 0, 0, 0, 0, 0, 0, 0, 0, 0, 0, 0, 0, 0, 0, 0, 0, 0, 0, 0, 0, 0, 0, 0, 0, 0, 0, 7, 22, 20, 2, 2, 2, 2, 2, 2, 20, 2, 2, 2, 2, 2, 2] then (getS [.v (.one (.sl 6)), .v (.one (.sl 6)), .skip 6, .v (.one (.ref 0)), .v (.one (.int .i64)), .v (.one (.ptr 1 0 0)), .v (.one (.bool)), .v (.one (.ptr 2 0 0)), .v (.one (.bool)), .skip 92] [.vec 6 true, .box [.int .i64, .int .i64, .int .i64, .int .i64, .int .i64, .int .i64], .box [.int .i64, .int .i64, .int .i64, .int .i64, .int .i64, .int .i64]] tm hp fun (xx : ((List (List PC) × Bool) × ((List (List PC) × Bool) × (Unit × ((Nat × Nat) × (Int × (Unit × (Bool × (Unit × (Bool × (Unit × Unit))))))))))) (yy : ((List (List PC)) × ((Int × (Int × (Int × (Int × (Int × (Int × Unit)))))) × ((Int × (Int × (Int × (Int × (Int × (Int × Unit)))))) × Unit)))) => f31_p37_0 xx.1.1 xx.1.2 xx.2.1.1 xx.2.1.2 xx.2.2.2.1.1 xx.2.2.2.1.2 xx.2.2.2.2.1 xx.2.2.2.2.2.2.1 xx.2.2.2.2.2.2.2.2.1 yy.1 yy.2.1.1 yy.2.1.2.1 yy.2.1.2.2.1 yy.2.1.2.2.2.1 yy.2.1.2.2.2.2.1 yy.2.1.2.2.2.2.2.1 yy.2.2.1.1 yy.2.2.1.2.1 yy.2.2.1.2.2.1 yy.2.2.1.2.2.2.1 yy.2.2.1.2.2.2.2.1 yy.2.2.1.2.2.2.2.2.1 (fun es0_0 full0_1 es0_2 full0_3 es0_4 full0_5 n0_6 => K .normal ⟨mkS 106 [(0, .w (.one (.p (.sl 6 es0_0 full0_1)))), (1, .w (.one (.p (.sl 6 es0_2 full0_3)))), (8, .w (.one (.p (.sl 6 es0_4 full0_5)))), (9, I n0_6)], []⟩)) else (getS [.v (.one (.sl 6)), .v (.one (.sl 6)), .skip 6, .v (.one (.sl 6)), .v (.one (.int .i64)), .v (.one (.ptr 0 0 0)), .v (.one (.bool)), .v (.one (.ptr 1 0 0)), .v (.one (.bool)), .skip 92] [.box [.int .i64, .int .i64, .int .i64, .int .i64, .int .i64, .int .i64], .box [.int .i64, .int .i64, .int .i64, .int .i64, .int .i64, .int .i64]] tm hp fun (xx : ((List (List PC) × Bool) × ((List (List PC) × Bool) × (Unit × ((List (List PC) × Bool) × (Int × (Unit × (Bool × (Unit × (Bool × (Unit × Unit))))))))))) (yy : ((Int × (Int × (Int × (Int × (Int × (Int × Unit)))))) × ((Int × (Int × (Int × (Int × (Int × (Int × Unit)))))) × Unit))) => f31_p37_1 xx.1.1 xx.1.2 xx.2.1.1 xx.2.1.2 xx.2.2.2.1.1 xx.2.2.2.1.2 xx.2.2.2.2.1 xx.2.2.2.2.2.2.1 xx.2.2.2.2.2.2.2.2.1 yy.1.1 yy.1.2.1 yy.1.2.2.1 yy.1.2.2.2.1 yy.1.2.2.2.2.1 yy.1.2.2.2.2.2.1 yy.2.1.1 yy.2.1.2.1 yy.2.1.2.2.1 yy.2.1.2.2.2.1 yy.2.1.2.2.2.2.1 yy.2.1.2.2.2.2.2.1 (fun es0_7 full0_8 es0_9 full0_10 es0_11 full0_12 n0_13 => K .normal ⟨mkS 106 [(0, .w (.one (.p (.sl 6 es0_7 full0_8)))), (1, .w (.one (.p (.sl 6 es0_9 full0_10)))), (8, .w (.one (.p (.sl 6 es0_11 full0_12)))), (9, I n0_13)], []⟩))
noncomputable def f31_p22L : Told := fun s K => match s with
  | ⟨tm, hp⟩ => bif isSig (sigOf tm hp) [5, 5, 0, 0, 0, 0, 0, 0, 100, 2, 0, 0, 0, 0, 0, 0, 0, 0, 0, 0, 0, 0, 0, 0, 0, 0, 0, 0, 0, 0, 0, 0, 0, 0, 0, 0, 0, 0, 0, 0, 0, 0, 0, 0, 0, 0, 0, 0, 0, 0, 0, 0, 0, 0, 0, 0, 0, 0, 0, 0, 0, 0, 0, 0, 0, 0, 0, 0, 0, 0, 0, 0, 0, 0, 0, 0, 0, 0, 0, 0, 0, 0, 0, 0, 0, 0, 0, 0, 0, 0, 0, 0, 0, 0, 0, 0, 0, 0, 0, 0, 0, 0, 0, 0, 0, 0, 7, 22] then (getS [.v (.one (.sl 6)), .v (.one (.sl 6)), .skip 6, .v (.one (.ref 0)), .v (.one (.int .i64)), .skip 96] [.vec 6 true] tm hp fun (xx : ((List (List PC) × Bool) × ((List (List PC) × Bool) × (Unit × ((Nat × Nat) × (Int × (Unit × Unit))))))) (yy : ((List (List PC)) × Unit)) => f31_p22 (fun n0_14 => K .ret ⟨mkS 106 [(4, .w (.one (.p (.sl 6 [] true)))), (5, I n0_14)], []⟩) (fun i1_15 n1_16 es1_17 => K (.exit 0) ⟨mkS 106 [(8, .w (.one (.ref 0 i1_15 n1_16)))], [.vec 6 es1_17 true]⟩) (fun es2_18 full2_19 => K (.exit 0) ⟨mkS 106 [(8, .w (.one (.p (.sl 6 es2_18 full2_19))))], []⟩) (.inl (xx.1.1, xx.1.2, xx.2.1.1, xx.2.1.2, xx.2.2.2.1.1, xx.2.2.2.1.2, xx.2.2.2.2.1, yy.1))) else (getS [.v (.one (.sl 6)), .v (.one (.sl 6)), .skip 6, .v (.one (.sl 6)), .v (.one (.int .i64)), .skip 96] [] tm hp fun (xx : ((List (List PC) × Bool) × ((List (List PC) × Bool) × (Unit × ((List (List PC) × Bool) × (Int × (Unit × Unit))))))) (yy : Unit) => f31_p22 (fun n0_20 => K .ret ⟨mkS 106 [(4, .w (.one (.p (.sl 6 [] true)))), (5, I n0_20)], []⟩) (fun i1_21 n1_22 es1_23 => K (.exit 0) ⟨mkS 106 [(8, .w (.one (.ref 0 i1_21 n1_22)))], [.vec 6 es1_23 true]⟩) (fun es2_24 full2_25 => K (.exit 0) ⟨mkS 106 [(8, .w (.one (.p (.sl 6 es2_24 full2_25))))], []⟩) (.inr (xx.1.1, xx.1.2, xx.2.1.1, xx.2.1.2, xx.2.2.2.1.1, xx.2.2.2.1.2, xx.2.2.2.2.1)))
noncomputable def f31_p19L : Told := fun s K => match s with
  | ⟨tm, hp⟩ => getS [.v (.one (.sl 6)), .v (.one (.sl 6)), .skip 104] [] tm hp fun (xx : ((List (List PC) × Bool) × ((List (List PC) × Bool) × (Unit × Unit)))) (yy : Unit) => f31_p19 xx.1.1 xx.1.2 xx.2.1.1 xx.2.1.2 (fun n0_26 => K .ret ⟨mkS 106 [(4, .w (.one (.p (.sl 6 [] true)))), (5, I n0_26)], []⟩) (fun i1_27 n1_28 n1_29 es1_30 => K .ret ⟨mkS 106 [(4, .w (.one (.ref 0 i1_27 n1_28))), (5, I n1_29)], [.vec 6 es1_30 true]⟩) (fun es2_31 full2_32 n2_33 => K .ret ⟨mkS 106 [(4, .w (.one (.p (.sl 6 es2_31 full2_32)))), (5, I n2_33)], []⟩)
noncomputable def f31_tab : List (Nat × Told) := [(37, f31_p37L), (22, f31_p22L), (19, f31_p19L)]
noncomputable def f31_call : FuncId → List TV → List Entry → (TV → List Entry → Prop) → Prop := addCall 49 f49_G (addCall 39 f39_G (addCall 38 f38_G (addCall 37 f37_G (addCall 25 f25_G (addCall 22 f22_G (noCalls))))))
noncomputable def f31_C : Ctx := { ty := tyOf tab, glob := glob, byRef := byRef, keep := fun k i => lookN [] (lookN [] ([(37, [(0, [0, 1, 8, 9, 10, 11, 12, 13]), (1, [0, 1, 8, 9]), (2, [4, 5]), (3, [8]), (4, [0, 1, 8, 9])]), (22, [(0, [0, 1, 8, 9]), (2, [4, 5]), (3, [8])]), (19, [(0, [0, 1]), (1, [4, 5]), (2, [4, 5])])] : List (Nat × List (Nat × List Nat))) k) i, late := lookN [] ([] : List (Nat × List Nat)), nref := lookN [] ([] : List (Nat × List Nat)), nbox := lookN [] ([] : List (Nat × List (Nat × Nat))), take := [], rnil := false, m := 0, fz := true, loops := lookL f31_tab, call := f31_call }
set_option maxRecDepth 100000 in
theorem f31_p37e0 (es_37 : List (List PC)) (full_38 : Bool) (es_39 : List (List PC)) (full_40 : Bool) (i_41 : Nat) (n_42 : Nat) (n_43 : Int) (b_44 : Bool) (b_45 : Bool) (es_46 : List (List PC)) (n_47 : Int) (n_48 : Int) (n_49 : Int) (n_50 : Int) (n_51 : Int) (n_52 : Int) (n_53 : Int) (n_54 : Int) (n_55 : Int) (n_56 : Int) (n_57 : Int) (n_58 : Int) (K : TExit → St → Prop) : (f31_p37_0 es_37 full_38 es_39 full_40 i_41 n_42 n_43 b_44 b_45 es_46 n_47 n_48 n_49 n_50 n_51 n_52 n_53 n_54 n_55 n_56 n_57 n_58 (fun es0_59 full0_60 es0_61 full0_62 es0_63 full0_64 n0_65 => K .normal ⟨mkS 106 [(0, .w (.one (.p (.sl 6 es0_59 full0_60)))), (1, .w (.one (.p (.sl 6 es0_61 full0_62)))), (8, .w (.one (.p (.sl 6 es0_63 full0_64)))), (9, I n0_65)], []⟩)) = execT f31_C (nthC (tails (bodyOf Try.f31)) 20) ⟨mkS 106 [(0, .w (.one (.p (.sl 6 es_37 full_38)))), (1, .w (.one (.p (.sl 6 es_39 full_40)))), (8, .w (.one (.ref 0 i_41 n_42))), (9, I n_43), (10, .w (.one (.ptr 1 0 0))), (11, B b_44), (12, .w (.one (.ptr 2 0 0))), (13, B b_45)], [.vec 6 es_46 true, .box [.p (pI n_47), .p (pI n_48), .p (pI n_49), .p (pI n_50), .p (pI n_51), .p (pI n_52)], .box [.p (pI n_53), .p (pI n_54), .p (pI n_55), .p (pI n_56), .p (pI n_57), .p (pI n_58)]]⟩ (fun e s => K e (normOut f31_C 37 e s)) := by kernel_rfl
set_option maxRecDepth 100000 in
theorem f31_p37e1 (es_66 : List (List PC)) (full_67 : Bool) (es_68 : List (List PC)) (full_69 : Bool) (es_70 : List (List PC)) (full_71 : Bool) (n_72 : Int) (b_73 : Bool) (b_74 : Bool) (n_75 : Int) (n_76 : Int) (n_77 : Int) (n_78 : Int) (n_79 : Int) (n_80 : Int) (n_81 : Int) (n_82 : Int) (n_83 : Int) (n_84 : Int) (n_85 : Int) (n_86 : Int) (K : TExit → St → Prop) : (f31_p37_1 es_66 full_67 es_68 full_69 es_70 full_71 n_72 b_73 b_74 n_75 n_76 n_77 n_78 n_79 n_80 n_81 n_82 n_83 n_84 n_85 n_86 (fun es0_87 full0_88 es0_89 full0_90 es0_91 full0_92 n0_93 => K .normal ⟨mkS 106 [(0, .w (.one (.p (.sl 6 es0_87 full0_88)))), (1, .w (.one (.p (.sl 6 es0_89 full0_90)))), (8, .w (.one (.p (.sl 6 es0_91 full0_92)))), (9, I n0_93)], []⟩)) = execT f31_C (nthC (tails (bodyOf Try.f31)) 20) ⟨mkS 106 [(0, .w (.one (.p (.sl 6 es_66 full_67)))), (1, .w (.one (.p (.sl 6 es_68 full_69)))), (8, .w (.one (.p (.sl 6 es_70 full_71)))), (9, I n_72), (10, .w (.one (.ptr 0 0 0))), (11, B b_73), (12, .w (.one (.ptr 1 0 0))), (13, B b_74)], [.box [.p (pI n_75), .p (pI n_76), .p (pI n_77), .p (pI n_78), .p (pI n_79), .p (pI n_80)], .box [.p (pI n_81), .p (pI n_82), .p (pI n_83), .p (pI n_84), .p (pI n_85), .p (pI n_86)]]⟩ (fun e s => K e (normOut f31_C 37 e s)) := by kernel_rfl
noncomputable def f31_p22_mk (x : ((List (List PC)) × Bool × (List (List PC)) × Bool × Nat × Nat × Int × (List (List PC))) ⊕ ((List (List PC)) × Bool × (List (List PC)) × Bool × (List (List PC)) × Bool × Int)) : St := match x with
  | (.inl x) => ⟨mkS 106 [(0, .w (.one (.p (.sl 6 x.1 x.2.1)))), (1, .w (.one (.p (.sl 6 x.2.2.1 x.2.2.2.1)))), (8, .w (.one (.ref 0 x.2.2.2.2.1 x.2.2.2.2.2.1))), (9, I x.2.2.2.2.2.2.1)], [.vec 6 x.2.2.2.2.2.2.2 true]⟩
  | (.inr x) => ⟨mkS 106 [(0, .w (.one (.p (.sl 6 x.1 x.2.1)))), (1, .w (.one (.p (.sl 6 x.2.2.1 x.2.2.2.1)))), (8, .w (.one (.p (.sl 6 x.2.2.2.2.1 x.2.2.2.2.2.1)))), (9, I x.2.2.2.2.2.2)], []⟩
set_option maxRecDepth 100000 in
theorem f31_p22e0 (es_109 : List (List PC)) (full_110 : Bool) (es_111 : List (List PC)) (full_112 : Bool) (i_113 : Nat) (n_114 : Nat) (n_115 : Int) (es_116 : List (List PC)) (N : St → Prop) (K : TExit → St → Prop) : (f31_p22b0 es_109 full_110 es_111 full_112 i_113 n_114 n_115 es_116 (fun z0 z1 z2 z3 z4 z5 z6 z7 => N (f31_p22_mk (.inl (z0, z1, z2, z3, z4, z5, z6, z7)))) (fun z0 z1 z2 z3 z4 z5 z6 => N (f31_p22_mk (.inr (z0, z1, z2, z3, z4, z5, z6)))) (fun n0_117 => K .ret ⟨mkS 106 [(4, .w (.one (.p (.sl 6 [] true)))), (5, I n0_117)], []⟩) (fun i1_118 n1_119 es1_120 => K (.exit 0) ⟨mkS 106 [(8, .w (.one (.ref 0 i1_118 n1_119)))], [.vec 6 es1_120 true]⟩) (fun es2_121 full2_122 => K (.exit 0) ⟨mkS 106 [(8, .w (.one (.p (.sl 6 es2_121 full2_122))))], []⟩)) = execT f31_C (nthC (bodies (bodyOf Try.f31)) 0) (f31_p22_mk (.inl (es_109, full_110, es_111, full_112, i_113, n_114, n_115, es_116))) (loopK N (normK f31_C 22) fun e s => K e (normOut f31_C 22 e s)) := by kernel_rfl
set_option maxRecDepth 100000 in
theorem f31_p22e1 (es_123 : List (List PC)) (full_124 : Bool) (es_125 : List (List PC)) (full_126 : Bool) (es_127 : List (List PC)) (full_128 : Bool) (n_129 : Int) (N : St → Prop) (K : TExit → St → Prop) : (f31_p22b1 es_123 full_124 es_125 full_126 es_127 full_128 n_129 (fun z0 z1 z2 z3 z4 z5 z6 z7 => N (f31_p22_mk (.inl (z0, z1, z2, z3, z4, z5, z6, z7)))) (fun z0 z1 z2 z3 z4 z5 z6 => N (f31_p22_mk (.inr (z0, z1, z2, z3, z4, z5, z6)))) (fun n0_130 => K .ret ⟨mkS 106 [(4, .w (.one (.p (.sl 6 [] true)))), (5, I n0_130)], []⟩) (fun i1_131 n1_132 es1_133 => K (.exit 0) ⟨mkS 106 [(8, .w (.one (.ref 0 i1_131 n1_132)))], [.vec 6 es1_133 true]⟩) (fun es2_134 full2_135 => K (.exit 0) ⟨mkS 106 [(8, .w (.one (.p (.sl 6 es2_134 full2_135))))], []⟩)) = execT f31_C (nthC (bodies (bodyOf Try.f31)) 0) (f31_p22_mk (.inr (es_123, full_124, es_125, full_126, es_127, full_128, n_129))) (loopK N (normK f31_C 22) fun e s => K e (normOut f31_C 22 e s)) := by kernel_rfl
set_option maxRecDepth 100000 in
theorem f31_p19e0 (es_136 : List (List PC)) (full_137 : Bool) (es_138 : List (List PC)) (full_139 : Bool) (K : TExit → St → Prop) : (f31_p19 es_136 full_137 es_138 full_139 (fun n0_140 => K .ret ⟨mkS 106 [(4, .w (.one (.p (.sl 6 [] true)))), (5, I n0_140)], []⟩) (fun i1_141 n1_142 n1_143 es1_144 => K .ret ⟨mkS 106 [(4, .w (.one (.ref 0 i1_141 n1_142))), (5, I n1_143)], [.vec 6 es1_144 true]⟩) (fun es2_145 full2_146 n2_147 => K .ret ⟨mkS 106 [(4, .w (.one (.p (.sl 6 es2_145 full2_146)))), (5, I n2_147)], []⟩)) = execT f31_C (nthC (tails (bodyOf Try.f31)) 9) ⟨mkS 106 [(0, .w (.one (.p (.sl 6 es_136 full_137)))), (1, .w (.one (.p (.sl 6 es_138 full_139))))], []⟩ (fun e s => K e (normOut f31_C 19 e s)) := by kernel_rfl
set_option maxHeartbeats 4000000 in
theorem f31_p37_ok : TailOk f31_C (nthC (tails (bodyOf Try.f31)) 20) := by
  refine TailOk.of f31_p37L (by kernel_rfl) fun σ K h => ?_
  have hk : joinKey (nthC (tails (bodyOf Try.f31)) 20) = 37 := by kernel_rfl
  rw [hk] at h ⊢
  generalize hs : normK f31_C 37 σ = s at h
  obtain ⟨tm, hp⟩ := s
  unfold f31_p37L at h
  dsimp only at h
  cases hb0 : isSig (sigOf tm hp) [5, 5, 0, 0, 0, 0, 0, 0, 100, 2, 201, 3, 202, 3, 0, 0, 0, 0, 0, 0, 0, 0, 0, 0, 0, 0, 0, 0, 0, 0, 0, 0, 0, 0, 0, 0, 0, 0, 0, 0, 0, 0, 0, 0, 0, 0, 0, 0, 0, 0, 0, 0, 0, 0, 0, 0, 0, 0, 0, 0, 0, 0, 0, 0, 0, 0, 0, 0, 0, 0, 0, 0, 0, 0, 0, 0, 0, 0, 0, 0, 0, 0, 0, 0, 0, 0, 0, 0, 0, 0, 0, 0, 0, 0, 0, 0, 0, 0, 0, 0, 0, 0, 0, 0, 0, 0, 7, 22, 20, 2, 2, 2, 2, 2, 2, 20, 2, 2, 2, 2, 2, 2] with
  | true =>
    rw [hb0] at h
    clear hb0
    simp only [cond_true] at h
    obtain ⟨xx, yy, rfl, rfl, h⟩ := getS_elim h
    have q : normK f31_C 37 σ = (⟨mkS 106 [(0, .w (.one (.p (.sl 6 xx.1.1 xx.1.2)))), (1, .w (.one (.p (.sl 6 xx.2.1.1 xx.2.1.2)))), (8, .w (.one (.ref 0 xx.2.2.2.1.1 xx.2.2.2.1.2))), (9, I xx.2.2.2.2.1), (10, .w (.one (.ptr 1 0 0))), (11, B xx.2.2.2.2.2.2.1), (12, .w (.one (.ptr 2 0 0))), (13, B xx.2.2.2.2.2.2.2.2.1)], [.vec 6 yy.1 true, .box [.p (pI yy.2.1.1), .p (pI yy.2.1.2.1), .p (pI yy.2.1.2.2.1), .p (pI yy.2.1.2.2.2.1), .p (pI yy.2.1.2.2.2.2.1), .p (pI yy.2.1.2.2.2.2.2.1)], .box [.p (pI yy.2.2.1.1), .p (pI yy.2.2.1.2.1), .p (pI yy.2.2.1.2.2.1), .p (pI yy.2.2.1.2.2.2.1), .p (pI yy.2.2.1.2.2.2.2.1), .p (pI yy.2.2.1.2.2.2.2.2.1)]]⟩ : St) := hs.trans (by kernel_rfl)
    rw [← hs, q, ← f31_p37e0 xx.1.1 xx.1.2 xx.2.1.1 xx.2.1.2 xx.2.2.2.1.1 xx.2.2.2.1.2 xx.2.2.2.2.1 xx.2.2.2.2.2.2.1 xx.2.2.2.2.2.2.2.2.1 yy.1 yy.2.1.1 yy.2.1.2.1 yy.2.1.2.2.1 yy.2.1.2.2.2.1 yy.2.1.2.2.2.2.1 yy.2.1.2.2.2.2.2.1 yy.2.2.1.1 yy.2.2.1.2.1 yy.2.2.1.2.2.1 yy.2.2.1.2.2.2.1 yy.2.2.1.2.2.2.2.1 yy.2.2.1.2.2.2.2.2.1 K]
    exact h
  | false =>
  rw [hb0] at h
  simp only [cond_false] at h
  clear hb0
  obtain ⟨xx, yy, rfl, rfl, h⟩ := getS_elim h
  have q : normK f31_C 37 σ = (⟨mkS 106 [(0, .w (.one (.p (.sl 6 xx.1.1 xx.1.2)))), (1, .w (.one (.p (.sl 6 xx.2.1.1 xx.2.1.2)))), (8, .w (.one (.p (.sl 6 xx.2.2.2.1.1 xx.2.2.2.1.2)))), (9, I xx.2.2.2.2.1), (10, .w (.one (.ptr 0 0 0))), (11, B xx.2.2.2.2.2.2.1), (12, .w (.one (.ptr 1 0 0))), (13, B xx.2.2.2.2.2.2.2.2.1)], [.box [.p (pI yy.1.1), .p (pI yy.1.2.1), .p (pI yy.1.2.2.1), .p (pI yy.1.2.2.2.1), .p (pI yy.1.2.2.2.2.1), .p (pI yy.1.2.2.2.2.2.1)], .box [.p (pI yy.2.1.1), .p (pI yy.2.1.2.1), .p (pI yy.2.1.2.2.1), .p (pI yy.2.1.2.2.2.1), .p (pI yy.2.1.2.2.2.2.1), .p (pI yy.2.1.2.2.2.2.2.1)]]⟩ : St) := hs.trans (by kernel_rfl)
  rw [← hs, q, ← f31_p37e1 xx.1.1 xx.1.2 xx.2.1.1 xx.2.1.2 xx.2.2.2.1.1 xx.2.2.2.1.2 xx.2.2.2.2.1 xx.2.2.2.2.2.2.1 xx.2.2.2.2.2.2.2.2.1 yy.1.1 yy.1.2.1 yy.1.2.2.1 yy.1.2.2.2.1 yy.1.2.2.2.2.1 yy.1.2.2.2.2.2.1 yy.2.1.1 yy.2.1.2.1 yy.2.1.2.2.1 yy.2.1.2.2.2.1 yy.2.1.2.2.2.2.1 yy.2.1.2.2.2.2.2.1 K]
  exact h
set_option maxHeartbeats 4000000 in
theorem f31_p22_ok : LoopOk f31_C (nthC (bodies (bodyOf Try.f31)) 0) := by
  refine LoopOk.of f31_p22L (by kernel_rfl) fun σ K h => ?_
  have hk : loopKey (nthC (bodies (bodyOf Try.f31)) 0) = 22 := by kernel_rfl
  rw [hk] at h ⊢
  generalize hs : normK f31_C 22 σ = s at h
  obtain ⟨tm, hp⟩ := s
  unfold f31_p22L at h
  dsimp only at h
  cases hb0 : isSig (sigOf tm hp) [5, 5, 0, 0, 0, 0, 0, 0, 100, 2, 0, 0, 0, 0, 0, 0, 0, 0, 0, 0, 0, 0, 0, 0, 0, 0, 0, 0, 0, 0, 0, 0, 0, 0, 0, 0, 0, 0, 0, 0, 0, 0, 0, 0, 0, 0, 0, 0, 0, 0, 0, 0, 0, 0, 0, 0, 0, 0, 0, 0, 0, 0, 0, 0, 0, 0, 0, 0, 0, 0, 0, 0, 0, 0, 0, 0, 0, 0, 0, 0, 0, 0, 0, 0, 0, 0, 0, 0, 0, 0, 0, 0, 0, 0, 0, 0, 0, 0, 0, 0, 0, 0, 0, 0, 0, 0, 7, 22] with
  | true =>
    rw [hb0] at h
    clear hb0
    simp only [cond_true] at h
    obtain ⟨xx, yy, rfl, rfl, h⟩ := getS_elim h
    refine iter_of (f31_p22_mk) (fun x N h => ?_) rounds _ σ (hs.trans (by kernel_rfl)) (LoopP.run h)
    rcases x with x | x
    · obtain ⟨y0, y1, y2, y3, y4, y5, y6, y7⟩ := x
      rw [← f31_p22e0 y0 y1 y2 y3 y4 y5 y6 y7 N K]
      exact h
    · obtain ⟨y0, y1, y2, y3, y4, y5, y6⟩ := x
      rw [← f31_p22e1 y0 y1 y2 y3 y4 y5 y6 N K]
      exact h
  | false =>
  rw [hb0] at h
  simp only [cond_false] at h
  clear hb0
  obtain ⟨xx, yy, rfl, rfl, h⟩ := getS_elim h
  refine iter_of (f31_p22_mk) (fun x N h => ?_) rounds _ σ (hs.trans (by kernel_rfl)) (LoopP.run h)
  rcases x with x | x
  · obtain ⟨y0, y1, y2, y3, y4, y5, y6, y7⟩ := x
    rw [← f31_p22e0 y0 y1 y2 y3 y4 y5 y6 y7 N K]
    exact h
  · obtain ⟨y0, y1, y2, y3, y4, y5, y6⟩ := x
    rw [← f31_p22e1 y0 y1 y2 y3 y4 y5 y6 N K]
    exact h
set_option maxHeartbeats 4000000 in
theorem f31_p19_ok : TailOk f31_C (nthC (tails (bodyOf Try.f31)) 9) := by
  refine TailOk.of f31_p19L (by kernel_rfl) fun σ K h => ?_
  have hk : joinKey (nthC (tails (bodyOf Try.f31)) 9) = 19 := by kernel_rfl
  rw [hk] at h ⊢
  generalize hs : normK f31_C 19 σ = s at h
  obtain ⟨tm, hp⟩ := s
  unfold f31_p19L at h
  dsimp only at h
  obtain ⟨xx, yy, rfl, rfl, h⟩ := getS_elim h
  have q : normK f31_C 19 σ = (⟨mkS 106 [(0, .w (.one (.p (.sl 6 xx.1.1 xx.1.2)))), (1, .w (.one (.p (.sl 6 xx.2.1.1 xx.2.1.2))))], []⟩ : St) := hs.trans (by kernel_rfl)
  rw [← hs, q, ← f31_p19e0 xx.1.1 xx.1.2 xx.2.1.1 xx.2.1.2 K]
  exact h
noncomputable def f31_G0 : List TV → List Entry → (TV → List Entry → Prop) → Prop := fun tm hp K => getS [.v (.one (.sl 6)), .v (.one (.sl 6))] [] tm hp fun (xx : ((List (List PC) × Bool) × ((List (List PC) × Bool) × Unit))) (yy : Unit) => f31 xx.1.1 xx.1.2 xx.2.1.1 xx.2.1.2 (fun es0_34 full0_35 n0_36 => K (.tup [.one (.p (.sl 6 es0_34 full0_35)), .one (.p (pI n0_36))]) [])
set_option maxRecDepth 100000 in
theorem f31_eq (es_148 : List (List PC)) (full_149 : Bool) (es_150 : List (List PC)) (full_151 : Bool) (K : TV → List Entry → Prop) : (f31_d es_148 full_149 es_150 full_151 (fun es0_34 full0_35 n0_36 => K (.tup [.one (.p (.sl 6 es0_34 full0_35)), .one (.p (pI n0_36))]) [])) = funcT f31_C Try.f31 [.w (.one (.p (.sl 6 es_148 full_149))), .w (.one (.p (.sl 6 es_150 full_151)))] [] K := by kernel_rfl
set_option maxHeartbeats 4000000 in
theorem f31_ok0 : FnOk Try.prog glob 31 f31_G0 := by
  refine FnOk.of_text (C := f31_C) tab_ok.ok (Known.add f49_G_ok (Known.add f39_G_ok (Known.add f38_G_ok (Known.add f37_G_ok (Known.add f25_G_ok (Known.add f22_G_ok (Known.none))))))) follows_ok (fn := Try.f31) (by kernel_rfl) (by kernel_rfl) (by kernel_rfl) (fun c hc => ?_) fun tm hp K h => ?_
  · have e : c = bodyOf Try.f31 := Option.some.inj (hc.symm.trans (by kernel_rfl))
    subst e
    exact ⟨LoopsOk.of [nthC (bodies (bodyOf Try.f31)) 0] (by kernel_rfl) ⟨f31_p22_ok, trivial⟩, TailsOk.of (tab := f31_tab) rfl [nthC (tails (bodyOf Try.f31)) 9, nthC (tails (bodyOf Try.f31)) 20] (by kernel_rfl) ⟨f31_p19_ok, f31_p37_ok, trivial⟩⟩
  · unfold f31_G0 at h
    obtain ⟨xx, yy, rfl, rfl, h⟩ := getS_elim h
    have e := (f31_eq xx.1.1 xx.1.2 xx.2.1.1 xx.2.1.2 K).trans (show _ = funcT f31_C Try.f31 (mkR _ xx) (mkE _ yy) K by kernel_rfl)
    rw [← e]
    exact h.run
noncomputable abbrev f31_G := f31_G0
theorem f31_G_ok : FnOk Try.prog glob 31 f31_G := f31_ok0
end Go.Eng.N
set_option linter.unusedVariables false
set_option maxRecDepth 100000
open Go Go.Eng Go.Proofs
namespace Go.Eng.N
/-! ### f7: plenum/plenumlaw42.CollectMerges -/
noncomputable def f7_p11 (es8 : List (List PC)) (full9 : Bool) (es10 : List (List PC)) (full11 : Bool) (k0 : Bool → Prop) : Prop := f30 es8 full9 es10 full11 (fun es12 full13 n14 => f31 es8 full9 es10 full11 (fun es15 full16 n17 => bB (n14 == n17) (f19 es12 full13 es15 full16 (fun b18 => k0 b18)) (k0 false)))
noncomputable def f7_d (es1 : List (List PC)) (full2 : Bool) (es3 : List (List PC)) (full4 : Bool) (k0 : Bool → Prop) : Prop := f10 (fun b5 => bB (!b5) (k0 false) (f24 es1 full2 (fun b6 => bB (!b6) (k0 true) (f24 es3 full4 (fun b7 => bB (!b7) (k0 true) (f7_p11 es1 full2 es3 full4 (fun b19 => k0 b19)))))))
structure f7 (es1 : List (List PC)) (full2 : Bool) (es3 : List (List PC)) (full4 : Bool) (k0 : Bool → Prop) : Prop where
  run : f7_d es1 full2 es3 full4 k0
noncomputable def f7_p11L : Told := fun s K => match s with
  | ⟨tm, hp⟩ => getS [.v (.one (.sl 6)), .v (.one (.sl 6)), .skip 37] [] tm hp fun (xx : ((List (List PC) × Bool) × ((List (List PC) × Bool) × (Unit × Unit)))) (yy : Unit) => f7_p11 xx.1.1 xx.1.2 xx.2.1.1 xx.2.1.2 (fun b0_0 => K .ret ⟨mkS 39 [(4, B b0_0)], []⟩)
noncomputable def f7_tab : List (Nat × Told) := [(11, f7_p11L)]
noncomputable def f7_call : FuncId → List TV → List Entry → (TV → List Entry → Prop) → Prop := addCall 31 f31_G (addCall 30 f30_G (addCall 24 f24_G (addCall 19 f19_G (addCall 10 f10_G (noCalls)))))
noncomputable def f7_C : Ctx := { ty := tyOf tab, glob := glob, byRef := byRef, keep := fun k i => lookN [] (lookN [] ([(11, [(0, [0, 1]), (1, [4]), (2, [4])])] : List (Nat × List (Nat × List Nat))) k) i, late := lookN [] ([] : List (Nat × List Nat)), nref := lookN [] ([] : List (Nat × List Nat)), nbox := lookN [] ([] : List (Nat × List (Nat × Nat))), take := [], rnil := false, m := 0, fz := true, loops := lookL f7_tab, call := f7_call }
set_option maxRecDepth 100000 in
theorem f7_p11e0 (es_2 : List (List PC)) (full_3 : Bool) (es_4 : List (List PC)) (full_5 : Bool) (K : TExit → St → Prop) : (f7_p11 es_2 full_3 es_4 full_5 (fun b0_6 => K .ret ⟨mkS 39 [(4, B b0_6)], []⟩)) = execT f7_C (nthC (tails (bodyOf Try.f7)) 4) ⟨mkS 39 [(0, .w (.one (.p (.sl 6 es_2 full_3)))), (1, .w (.one (.p (.sl 6 es_4 full_5))))], []⟩ (fun e s => K e (normOut f7_C 11 e s)) := by kernel_rfl
set_option maxHeartbeats 4000000 in
theorem f7_p11_ok : TailOk f7_C (nthC (tails (bodyOf Try.f7)) 4) := by
  refine TailOk.of f7_p11L (by kernel_rfl) fun σ K h => ?_
  have hk : joinKey (nthC (tails (bodyOf Try.f7)) 4) = 11 := by kernel_rfl
  rw [hk] at h ⊢
  generalize hs : normK f7_C 11 σ = s at h
  obtain ⟨tm, hp⟩ := s
  unfold f7_p11L at h
  dsimp only at h
  obtain ⟨xx, yy, rfl, rfl, h⟩ := getS_elim h
  have q : normK f7_C 11 σ = (⟨mkS 39 [(0, .w (.one (.p (.sl 6 xx.1.1 xx.1.2)))), (1, .w (.one (.p (.sl 6 xx.2.1.1 xx.2.1.2))))], []⟩ : St) := hs.trans (by kernel_rfl)
  rw [← hs, q, ← f7_p11e0 xx.1.1 xx.1.2 xx.2.1.1 xx.2.1.2 K]
  exact h
noncomputable def f7_G0 : List TV → List Entry → (TV → List Entry → Prop) → Prop := fun tm hp K => getS [.v (.one (.sl 6)), .v (.one (.sl 6))] [] tm hp fun (xx : ((List (List PC) × Bool) × ((List (List PC) × Bool) × Unit))) (yy : Unit) => f7 xx.1.1 xx.1.2 xx.2.1.1 xx.2.1.2 (fun b0_1 => K (B b0_1) [])
set_option maxRecDepth 100000 in
theorem f7_eq (es_7 : List (List PC)) (full_8 : Bool) (es_9 : List (List PC)) (full_10 : Bool) (K : TV → List Entry → Prop) : (f7_d es_7 full_8 es_9 full_10 (fun b0_1 => K (B b0_1) [])) = funcT f7_C Try.f7 [.w (.one (.p (.sl 6 es_7 full_8))), .w (.one (.p (.sl 6 es_9 full_10)))] [] K := by kernel_rfl
set_option maxHeartbeats 4000000 in
theorem f7_ok0 : FnOk Try.prog glob 7 f7_G0 := by
  refine FnOk.of_text (C := f7_C) tab_ok.ok (Known.add f31_G_ok (Known.add f30_G_ok (Known.add f24_G_ok (Known.add f19_G_ok (Known.add f10_G_ok (Known.none)))))) follows_ok (fn := Try.f7) (by kernel_rfl) (by kernel_rfl) (by kernel_rfl) (fun c hc => ?_) fun tm hp K h => ?_
  · have e : c = bodyOf Try.f7 := Option.some.inj (hc.symm.trans (by kernel_rfl))
    subst e
    exact ⟨LoopsOk.of [] (by kernel_rfl) trivial, TailsOk.of (tab := f7_tab) rfl [nthC (tails (bodyOf Try.f7)) 4] (by kernel_rfl) ⟨f7_p11_ok, trivial⟩⟩
  · unfold f7_G0 at h
    obtain ⟨xx, yy, rfl, rfl, h⟩ := getS_elim h
    have e := (f7_eq xx.1.1 xx.1.2 xx.2.1.1 xx.2.1.2 K).trans (show _ = funcT f7_C Try.f7 (mkR _ xx) (mkE _ yy) K by kernel_rfl)
    rw [← e]
    exact h.run
noncomputable abbrev f7_G := f7_G0
theorem f7_G_ok : FnOk Try.prog glob 7 f7_G := f7_ok0
end Go.Eng.N
set_option linter.unusedVariables false
set_option maxRecDepth 100000
open Go Go.Eng Go.Proofs
namespace Go.Eng.N
/-! ### f8: plenum/plenumlaw42.CollectAlgebra -/
noncomputable def f8_p31 (es49 : List (List PC)) (full50 : Bool) (es51 : List (List PC)) (full52 : Bool) (es53 : List (List PC)) (full54 : Bool) (es55 : List (List PC)) (full56 : Bool) (k0 : Bool → Prop) : Prop := f30 es53 full54 es51 full52 (fun es57 full58 n59 => f30 es49 full50 es55 full56 (fun es60 full61 n62 => bB (n59 != 0) (k0 true) (bB (n62 != 0) (k0 true) (f19 es57 full58 es60 full61 (fun b63 => k0 b63)))))
noncomputable def f8_p25 (es37 : List (List PC)) (full38 : Bool) (es39 : List (List PC)) (full40 : Bool) (es41 : List (List PC)) (full42 : Bool) (n43 : Int) (es44 : List (List PC)) (full45 : Bool) (k0 : Bool → Prop) : Prop := f30 es39 full40 es41 full42 (fun es46 full47 n48 => bB (n43 != 0) (k0 true) (bB (n48 != 0) (k0 true) (f8_p31 es37 full38 es41 full42 es44 full45 es46 full47 (fun b64 => k0 b64))))
noncomputable def f8_p17 (es24 : List (List PC)) (full25 : Bool) (es26 : List (List PC)) (full27 : Bool) (es28 : List (List PC)) (full29 : Bool) (k0 : Bool → Prop) : Prop := f30 es24 full25 es26 full27 (fun es30 full31 n32 => f30 es26 full27 es24 full25 (fun es33 full34 n35 => bB (n32 != n35) (k0 false) (f19 es30 full31 es33 full34 (fun b36 => bB (!b36) (k0 false) (f8_p25 es24 full25 es26 full27 es28 full29 n32 es30 full31 (fun b65 => k0 b65))))))
noncomputable def f8_p11 (es14 : List (List PC)) (full15 : Bool) (es16 : List (List PC)) (full17 : Bool) (es18 : List (List PC)) (full19 : Bool) (k0 : Bool → Prop) : Prop := f30 es14 full15 es14 full15 (fun es20 full21 n22 => bB (n22 != 0) (k0 false) (f19 es20 full21 es14 full15 (fun b23 => bB (!b23) (k0 false) (f8_p17 es14 full15 es16 full17 es18 full19 (fun b66 => k0 b66)))))
noncomputable def f8_d (es1 : List (List PC)) (full2 : Bool) (es3 : List (List PC)) (full4 : Bool) (es5 : List (List PC)) (full6 : Bool) (k0 : Bool → Prop) : Prop := f10 (fun b7 => bB (!b7) (k0 false) (f24 es1 full2 (fun b8 => bB (!b8) (k0 true) (f24 es3 full4 (fun b9 => bB (!b9) (k0 true) (f24 es5 full6 (fun b10 => bB (!b10) (k0 true) (f21 es1 full2 (fun n11 => bB (n11 != 0) (k0 true) (f21 es3 full4 (fun n12 => bB (n12 != 0) (k0 true) (f21 es5 full6 (fun n13 => bB (n13 != 0) (k0 true) (f8_p11 es1 full2 es3 full4 es5 full6 (fun b67 => k0 b67)))))))))))))))
structure f8 (es1 : List (List PC)) (full2 : Bool) (es3 : List (List PC)) (full4 : Bool) (es5 : List (List PC)) (full6 : Bool) (k0 : Bool → Prop) : Prop where
  run : f8_d es1 full2 es3 full4 es5 full6 k0
noncomputable def f8_p31L : Told := fun s K => match s with
  | ⟨tm, hp⟩ => getS [.v (.one (.sl 6)), .skip 1, .v (.one (.sl 6)), .skip 6, .v (.one (.sl 6)), .skip 2, .v (.one (.sl 6)), .skip 105] [] tm hp fun (xx : ((List (List PC) × Bool) × (Unit × ((List (List PC) × Bool) × (Unit × ((List (List PC) × Bool) × (Unit × ((List (List PC) × Bool) × (Unit × Unit))))))))) (yy : Unit) => f8_p31 xx.1.1 xx.1.2 xx.2.2.1.1 xx.2.2.1.2 xx.2.2.2.2.1.1 xx.2.2.2.2.1.2 xx.2.2.2.2.2.2.1.1 xx.2.2.2.2.2.2.1.2 (fun b0_0 => K .ret ⟨mkS 118 [(6, B b0_0)], []⟩)
noncomputable def f8_p25L : Told := fun s K => match s with
  | ⟨tm, hp⟩ => getS [.v (.one (.sl 6)), .v (.one (.sl 6)), .v (.one (.sl 6)), .skip 5, .v (.one (.int .i64)), .v (.one (.sl 6)), .skip 108] [] tm hp fun (xx : ((List (List PC) × Bool) × ((List (List PC) × Bool) × ((List (List PC) × Bool) × (Unit × (Int × ((List (List PC) × Bool) × (Unit × Unit)))))))) (yy : Unit) => f8_p25 xx.1.1 xx.1.2 xx.2.1.1 xx.2.1.2 xx.2.2.1.1 xx.2.2.1.2 xx.2.2.2.2.1 xx.2.2.2.2.2.1.1 xx.2.2.2.2.2.1.2 (fun b0_1 => K .ret ⟨mkS 118 [(6, B b0_1)], []⟩)
noncomputable def f8_p17L : Told := fun s K => match s with
  | ⟨tm, hp⟩ => getS [.v (.one (.sl 6)), .v (.one (.sl 6)), .v (.one (.sl 6)), .skip 115] [] tm hp fun (xx : ((List (List PC) × Bool) × ((List (List PC) × Bool) × ((List (List PC) × Bool) × (Unit × Unit))))) (yy : Unit) => f8_p17 xx.1.1 xx.1.2 xx.2.1.1 xx.2.1.2 xx.2.2.1.1 xx.2.2.1.2 (fun b0_2 => K .ret ⟨mkS 118 [(6, B b0_2)], []⟩)
noncomputable def f8_p11L : Told := fun s K => match s with
  | ⟨tm, hp⟩ => getS [.v (.one (.sl 6)), .v (.one (.sl 6)), .v (.one (.sl 6)), .skip 115] [] tm hp fun (xx : ((List (List PC) × Bool) × ((List (List PC) × Bool) × ((List (List PC) × Bool) × (Unit × Unit))))) (yy : Unit) => f8_p11 xx.1.1 xx.1.2 xx.2.1.1 xx.2.1.2 xx.2.2.1.1 xx.2.2.1.2 (fun b0_3 => K .ret ⟨mkS 118 [(6, B b0_3)], []⟩)
noncomputable def f8_tab : List (Nat × Told) := [(31, f8_p31L), (25, f8_p25L), (17, f8_p17L), (11, f8_p11L)]
noncomputable def f8_call : FuncId → List TV → List Entry → (TV → List Entry → Prop) → Prop := addCall 30 f30_G (addCall 24 f24_G (addCall 21 f21_G (addCall 19 f19_G (addCall 10 f10_G (noCalls)))))
noncomputable def f8_C : Ctx := { ty := tyOf tab, glob := glob, byRef := byRef, keep := fun k i => lookN [] (lookN [] ([(31, [(0, [0, 2, 9, 12]), (1, [6]), (2, [6])]), (25, [(0, [0, 1, 2, 8, 9]), (1, [6]), (2, [6])]), (17, [(0, [0, 1, 2]), (1, [6]), (2, [6])]), (11, [(0, [0, 1, 2]), (1, [6]), (2, [6])])] : List (Nat × List (Nat × List Nat))) k) i, late := lookN [] ([] : List (Nat × List Nat)), nref := lookN [] ([] : List (Nat × List Nat)), nbox := lookN [] ([] : List (Nat × List (Nat × Nat))), take := [], rnil := false, m := 0, fz := true, loops := lookL f8_tab, call := f8_call }
set_option maxRecDepth 100000 in
theorem f8_p31e0 (es_5 : List (List PC)) (full_6 : Bool) (es_7 : List (List PC)) (full_8 : Bool) (es_9 : List (List PC)) (full_10 : Bool) (es_11 : List (List PC)) (full_12 : Bool) (K : TExit → St → Prop) : (f8_p31 es_5 full_6 es_7 full_8 es_9 full_10 es_11 full_12 (fun b0_13 => K .ret ⟨mkS 118 [(6, B b0_13)], []⟩)) = execT f8_C (nthC (tails (bodyOf Try.f8)) 17) ⟨mkS 118 [(0, .w (.one (.p (.sl 6 es_5 full_6)))), (2, .w (.one (.p (.sl 6 es_7 full_8)))), (9, .w (.one (.p (.sl 6 es_9 full_10)))), (12, .w (.one (.p (.sl 6 es_11 full_12))))], []⟩ (fun e s => K e (normOut f8_C 31 e s)) := by kernel_rfl
set_option maxRecDepth 100000 in
theorem f8_p25e0 (es_14 : List (List PC)) (full_15 : Bool) (es_16 : List (List PC)) (full_17 : Bool) (es_18 : List (List PC)) (full_19 : Bool) (n_20 : Int) (es_21 : List (List PC)) (full_22 : Bool) (K : TExit → St → Prop) : (f8_p25 es_14 full_15 es_16 full_17 es_18 full_19 n_20 es_21 full_22 (fun b0_23 => K .ret ⟨mkS 118 [(6, B b0_23)], []⟩)) = execT f8_C (nthC (tails (bodyOf Try.f8)) 13) ⟨mkS 118 [(0, .w (.one (.p (.sl 6 es_14 full_15)))), (1, .w (.one (.p (.sl 6 es_16 full_17)))), (2, .w (.one (.p (.sl 6 es_18 full_19)))), (8, I n_20), (9, .w (.one (.p (.sl 6 es_21 full_22))))], []⟩ (fun e s => K e (normOut f8_C 25 e s)) := by kernel_rfl
set_option maxRecDepth 100000 in
theorem f8_p17e0 (es_24 : List (List PC)) (full_25 : Bool) (es_26 : List (List PC)) (full_27 : Bool) (es_28 : List (List PC)) (full_29 : Bool) (K : TExit → St → Prop) : (f8_p17 es_24 full_25 es_26 full_27 es_28 full_29 (fun b0_30 => K .ret ⟨mkS 118 [(6, B b0_30)], []⟩)) = execT f8_C (nthC (tails (bodyOf Try.f8)) 8) ⟨mkS 118 [(0, .w (.one (.p (.sl 6 es_24 full_25)))), (1, .w (.one (.p (.sl 6 es_26 full_27)))), (2, .w (.one (.p (.sl 6 es_28 full_29))))], []⟩ (fun e s => K e (normOut f8_C 17 e s)) := by kernel_rfl
set_option maxRecDepth 100000 in
theorem f8_p11e0 (es_31 : List (List PC)) (full_32 : Bool) (es_33 : List (List PC)) (full_34 : Bool) (es_35 : List (List PC)) (full_36 : Bool) (K : TExit → St → Prop) : (f8_p11 es_31 full_32 es_33 full_34 es_35 full_36 (fun b0_37 => K .ret ⟨mkS 118 [(6, B b0_37)], []⟩)) = execT f8_C (nthC (tails (bodyOf Try.f8)) 4) ⟨mkS 118 [(0, .w (.one (.p (.sl 6 es_31 full_32)))), (1, .w (.one (.p (.sl 6 es_33 full_34)))), (2, .w (.one (.p (.sl 6 es_35 full_36))))], []⟩ (fun e s => K e (normOut f8_C 11 e s)) := by kernel_rfl
set_option maxHeartbeats 4000000 in
theorem f8_p31_ok : TailOk f8_C (nthC (tails (bodyOf Try.f8)) 17) := by
  refine TailOk.of f8_p31L (by kernel_rfl) fun σ K h => ?_
  have hk : joinKey (nthC (tails (bodyOf Try.f8)) 17) = 31 := by kernel_rfl
  rw [hk] at h ⊢
  generalize hs : normK f8_C 31 σ = s at h
  obtain ⟨tm, hp⟩ := s
  unfold f8_p31L at h
  dsimp only at h
  obtain ⟨xx, yy, rfl, rfl, h⟩ := getS_elim h
  have q : normK f8_C 31 σ = (⟨mkS 118 [(0, .w (.one (.p (.sl 6 xx.1.1 xx.1.2)))), (2, .w (.one (.p (.sl 6 xx.2.2.1.1 xx.2.2.1.2)))), (9, .w (.one (.p (.sl 6 xx.2.2.2.2.1.1 xx.2.2.2.2.1.2)))), (12, .w (.one (.p (.sl 6 xx.2.2.2.2.2.2.1.1 xx.2.2.2.2.2.2.1.2))))], []⟩ : St) := hs.trans (by kernel_rfl)
  rw [← hs, q, ← f8_p31e0 xx.1.1 xx.1.2 xx.2.2.1.1 xx.2.2.1.2 xx.2.2.2.2.1.1 xx.2.2.2.2.1.2 xx.2.2.2.2.2.2.1.1 xx.2.2.2.2.2.2.1.2 K]
  exact h
set_option maxHeartbeats 4000000 in
theorem f8_p25_ok : TailOk f8_C (nthC (tails (bodyOf Try.f8)) 13) := by
  refine TailOk.of f8_p25L (by kernel_rfl) fun σ K h => ?_
  have hk : joinKey (nthC (tails (bodyOf Try.f8)) 13) = 25 := by kernel_rfl
  rw [hk] at h ⊢
  generalize hs : normK f8_C 25 σ = s at h
  obtain ⟨tm, hp⟩ := s
  unfold f8_p25L at h
  dsimp only at h
  obtain ⟨xx, yy, rfl, rfl, h⟩ := getS_elim h
  have q : normK f8_C 25 σ = (⟨mkS 118 [(0, .w (.one (.p (.sl 6 xx.1.1 xx.1.2)))), (1, .w (.one (.p (.sl 6 xx.2.1.1 xx.2.1.2)))), (2, .w (.one (.p (.sl 6 xx.2.2.1.1 xx.2.2.1.2)))), (8, I xx.2.2.2.2.1), (9, .w (.one (.p (.sl 6 xx.2.2.2.2.2.1.1 xx.2.2.2.2.2.1.2))))], []⟩ : St) := hs.trans (by kernel_rfl)
  rw [← hs, q, ← f8_p25e0 xx.1.1 xx.1.2 xx.2.1.1 xx.2.1.2 xx.2.2.1.1 xx.2.2.1.2 xx.2.2.2.2.1 xx.2.2.2.2.2.1.1 xx.2.2.2.2.2.1.2 K]
  exact h
set_option maxHeartbeats 4000000 in
theorem f8_p17_ok : TailOk f8_C (nthC (tails (bodyOf Try.f8)) 8) := by
  refine TailOk.of f8_p17L (by kernel_rfl) fun σ K h => ?_
  have hk : joinKey (nthC (tails (bodyOf Try.f8)) 8) = 17 := by kernel_rfl
  rw [hk] at h ⊢
  generalize hs : normK f8_C 17 σ = s at h
  obtain ⟨tm, hp⟩ := s
  unfold f8_p17L at h
  dsimp only at h
  obtain ⟨xx, yy, rfl, rfl, h⟩ := getS_elim h
  have q : normK f8_C 17 σ = (⟨mkS 118 [(0, .w (.one (.p (.sl 6 xx.1.1 xx.1.2)))), (1, .w (.one (.p (.sl 6 xx.2.1.1 xx.2.1.2)))), (2, .w (.one (.p (.sl 6 xx.2.2.1.1 xx.2.2.1.2))))], []⟩ : St) := hs.trans (by kernel_rfl)
  rw [← hs, q, ← f8_p17e0 xx.1.1 xx.1.2 xx.2.1.1 xx.2.1.2 xx.2.2.1.1 xx.2.2.1.2 K]
  exact h
set_option maxHeartbeats 4000000 in
theorem f8_p11_ok : TailOk f8_C (nthC (tails (bodyOf Try.f8)) 4) := by
  refine TailOk.of f8_p11L (by kernel_rfl) fun σ K h => ?_
  have hk : joinKey (nthC (tails (bodyOf Try.f8)) 4) = 11 := by kernel_rfl
  rw [hk] at h ⊢
  generalize hs : normK f8_C 11 σ = s at h
  obtain ⟨tm, hp⟩ := s
  unfold f8_p11L at h
  dsimp only at h
  obtain ⟨xx, yy, rfl, rfl, h⟩ := getS_elim h
  have q : normK f8_C 11 σ = (⟨mkS 118 [(0, .w (.one (.p (.sl 6 xx.1.1 xx.1.2)))), (1, .w (.one (.p (.sl 6 xx.2.1.1 xx.2.1.2)))), (2, .w (.one (.p (.sl 6 xx.2.2.1.1 xx.2.2.1.2))))], []⟩ : St) := hs.trans (by kernel_rfl)
  rw [← hs, q, ← f8_p11e0 xx.1.1 xx.1.2 xx.2.1.1 xx.2.1.2 xx.2.2.1.1 xx.2.2.1.2 K]
  exact h
noncomputable def f8_G0 : List TV → List Entry → (TV → List Entry → Prop) → Prop := fun tm hp K => getS [.v (.one (.sl 6)), .v (.one (.sl 6)), .v (.one (.sl 6))] [] tm hp fun (xx : ((List (List PC) × Bool) × ((List (List PC) × Bool) × ((List (List PC) × Bool) × Unit)))) (yy : Unit) => f8 xx.1.1 xx.1.2 xx.2.1.1 xx.2.1.2 xx.2.2.1.1 xx.2.2.1.2 (fun b0_4 => K (B b0_4) [])
set_option maxRecDepth 100000 in
theorem f8_eq (es_38 : List (List PC)) (full_39 : Bool) (es_40 : List (List PC)) (full_41 : Bool) (es_42 : List (List PC)) (full_43 : Bool) (K : TV → List Entry → Prop) : (f8_d es_38 full_39 es_40 full_41 es_42 full_43 (fun b0_4 => K (B b0_4) [])) = funcT f8_C Try.f8 [.w (.one (.p (.sl 6 es_38 full_39))), .w (.one (.p (.sl 6 es_40 full_41))), .w (.one (.p (.sl 6 es_42 full_43)))] [] K := by kernel_rfl
set_option maxHeartbeats 4000000 in
theorem f8_ok0 : FnOk Try.prog glob 8 f8_G0 := by
  refine FnOk.of_text (C := f8_C) tab_ok.ok (Known.add f30_G_ok (Known.add f24_G_ok (Known.add f21_G_ok (Known.add f19_G_ok (Known.add f10_G_ok (Known.none)))))) follows_ok (fn := Try.f8) (by kernel_rfl) (by kernel_rfl) (by kernel_rfl) (fun c hc => ?_) fun tm hp K h => ?_
  · have e : c = bodyOf Try.f8 := Option.some.inj (hc.symm.trans (by kernel_rfl))
    subst e
    exact ⟨LoopsOk.of [] (by kernel_rfl) trivial, TailsOk.of (tab := f8_tab) rfl [nthC (tails (bodyOf Try.f8)) 4, nthC (tails (bodyOf Try.f8)) 8, nthC (tails (bodyOf Try.f8)) 13, nthC (tails (bodyOf Try.f8)) 17] (by kernel_rfl) ⟨f8_p11_ok, f8_p17_ok, f8_p25_ok, f8_p31_ok, trivial⟩⟩
  · unfold f8_G0 at h
    obtain ⟨xx, yy, rfl, rfl, h⟩ := getS_elim h
    have e := (f8_eq xx.1.1 xx.1.2 xx.2.1.1 xx.2.1.2 xx.2.2.1.1 xx.2.2.1.2 K).trans (show _ = funcT f8_C Try.f8 (mkR _ xx) (mkE _ yy) K by kernel_rfl)
    rw [← e]
    exact h.run
noncomputable abbrev f8_G := f8_G0
theorem f8_G_ok : FnOk Try.prog glob 8 f8_G := f8_ok0
end Go.Eng.N
