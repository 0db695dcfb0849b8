/- What the functions that the law reaches compute, by the engine; written by program. -/
import Derived.Test.YtbecejhjdagkdaaEng2
import Derived.Test.YtbecejhjdagkdaaProg
import Derived.KernelRfl
set_option linter.unusedVariables false
open Go Go.Eng Go.Proofs
namespace Go.Eng.N
noncomputable def tab : List (TypeId × TI) := [(3, ⟨.int .i64, 1, 8, [pI 0], [.int .i64]⟩),
  (4, ⟨.bool, 1, 1, [pB false], [.bool]⟩),
  (23, ⟨.struct [(0, 3), (1, 3)], 2, 16, [pI 0, pI 0], [.int .i64, .int .i64]⟩),
  (24, ⟨.slice 29, 1, 24, [.sl 3 [] true], [.slice 3]⟩),
  (26, ⟨.struct [(0, 24), (1, 3), (2, 3)], 3, 40, [.sl 3 [] true, pI 0, pI 0], [.slice 3, .int .i64, .int .i64]⟩),
  (29, ⟨.struct [(0, 3), (1, 4), (2, 4)], 3, 16, [pI 0, pB false, pB false], [.int .i64, .bool, .bool]⟩),
  (30, ⟨.slice 62, 1, 24, [.sl 3 [] true], [.slice 3]⟩),
  (32, ⟨.struct [(0, 30), (1, 3), (2, 3)], 3, 40, [.sl 3 [] true, pI 0, pI 0], [.slice 3, .int .i64, .int .i64]⟩),
  (34, ⟨.int .i64, 1, 8, [pI 0], [.int .i64]⟩),
  (43, ⟨.struct [(0, 3), (1, 3)], 2, 16, [pI 0, pI 0], [.int .i64, .int .i64]⟩),
  (49, ⟨.slice 3, 1, 24, [.sl 1 [] true], [.slice 1]⟩),
  (55, ⟨.slice 32, 1, 24, [.sl 3 [] true], [.slice 3]⟩),
  (58, ⟨.slice 26, 1, 24, [.sl 3 [] true], [.slice 3]⟩),
  (62, ⟨.struct [(0, 3), (1, 4), (2, 4)], 3, 16, [pI 0, pB false, pB false], [.int .i64, .bool, .bool]⟩),
  (64, ⟨.slice 4, 1, 24, [.sl 1 [] true], [.slice 1]⟩),
  (87, ⟨.int .u64, 1, 8, [.c (.int .u64 0)], [.int .u64]⟩)]
set_option maxRecDepth 100000 in
theorem tab_ok : TabOk Try.prog tab := ⟨mkTI_ok (by kernel_rfl), mkTI_ok (by kernel_rfl), mkTI_ok (by kernel_rfl), mkTI_ok (by kernel_rfl), mkTI_ok (by kernel_rfl), mkTI_ok (by kernel_rfl), mkTI_ok (by kernel_rfl), mkTI_ok (by kernel_rfl), mkTI_ok (by kernel_rfl), mkTI_ok (by kernel_rfl), mkTI_ok (by kernel_rfl), mkTI_ok (by kernel_rfl), mkTI_ok (by kernel_rfl), mkTI_ok (by kernel_rfl), mkTI_ok (by kernel_rfl), mkTI_ok (by kernel_rfl), trivial⟩
noncomputable def glob : Nat → Option (List PC) := fun g => lookN none [] g
noncomputable def byRef : FuncId → Bool := fun g => List.elem g [20, 21, 23, 26, 35, 36, 46, 51, 52, 53, 54]
theorem follows_ok : Try.prog.follows .mixedOrders = true := by kernel_rfl
end Go.Eng.N
set_option linter.unusedVariables false
set_option maxRecDepth 100000
open Go Go.Eng Go.Proofs
namespace Go.Eng.N
/-! ### f47: cmp.isNaN(int) -/
noncomputable def f47_d (n1 : Int) (k0 : Bool → Prop) : Prop := k0 (n1 != n1)
structure f47 (n1 : Int) (k0 : Bool → Prop) : Prop where
  run : f47_d n1 k0
noncomputable def f47_tab : List (Nat × Told) := []
noncomputable def f47_call : FuncId → List TV → List Entry → (TV → List Entry → Prop) → Prop := noCalls
noncomputable def f47_C : Ctx := { ty := tyOf tab, glob := glob, byRef := byRef, keep := fun k i => lookN [] (lookN [] ([] : List (Nat × List (Nat × List Nat))) k) i, late := lookN [] ([] : List (Nat × List Nat)), nref := lookN [] ([] : List (Nat × List Nat)), nbox := lookN [] ([] : List (Nat × List (Nat × Nat))), take := [], rnil := false, m := 0, fz := true, loops := lookL f47_tab, call := f47_call }
noncomputable def f47_G0 : List TV → List Entry → (TV → List Entry → Prop) → Prop := fun tm hp K => getS [.v (.one (.int .i64))] [] tm hp fun (xx : (Int × Unit)) (yy : Unit) => f47 xx.1 (fun b0_0 => K (B b0_0) [])
set_option maxRecDepth 100000 in
theorem f47_eq (n_1 : Int) (K : TV → List Entry → Prop) : (f47_d n_1 (fun b0_0 => K (B b0_0) [])) = funcT f47_C Try.f47 [I n_1] [] K := by kernel_rfl
set_option maxHeartbeats 4000000 in
theorem f47_ok0 : FnOk Try.prog glob 47 f47_G0 := by
  refine FnOk.of_text (C := f47_C) tab_ok.ok (Known.none) follows_ok (fn := Try.f47) (by kernel_rfl) (by kernel_rfl) (by kernel_rfl) (fun c hc => ?_) fun tm hp K h => ?_
  · have e : c = bodyOf Try.f47 := Option.some.inj (hc.symm.trans (by kernel_rfl))
    subst e
    exact ⟨LoopsOk.of [] (by kernel_rfl) trivial, TailsOk.of (tab := f47_tab) rfl [] (by kernel_rfl) trivial⟩
  · unfold f47_G0 at h
    obtain ⟨xx, yy, rfl, rfl, h⟩ := getS_elim h
    have e := (f47_eq xx.1 K).trans (show _ = funcT f47_C Try.f47 (mkR _ xx) (mkE _ yy) K by kernel_rfl)
    rw [← e]
    exact h.run
noncomputable abbrev f47_G := f47_G0
theorem f47_G_ok : FnOk Try.prog glob 47 f47_G := f47_ok0
end Go.Eng.N
set_option linter.unusedVariables false
set_option maxRecDepth 100000
open Go Go.Eng Go.Proofs
namespace Go.Eng.N
/-! ### f37: cmp.Compare(int) -/
noncomputable def f37_d (n1 : Int) (n2 : Int) (k0 : Int → Prop) : Prop := f47 n1 (fun b3 => f47 n2 (fun b4 => bB b3 (bB b4 (k0 0) (k0 (-1))) (bB b4 (k0 1) (bB (decide (n1 < n2)) (k0 (-1)) (bB (decide (n1 > n2)) (k0 1) (k0 0))))))
structure f37 (n1 : Int) (n2 : Int) (k0 : Int → Prop) : Prop where
  run : f37_d n1 n2 k0
noncomputable def f37_tab : List (Nat × Told) := []
noncomputable def f37_call : FuncId → List TV → List Entry → (TV → List Entry → Prop) → Prop := addCall 47 f47_G (noCalls)
noncomputable def f37_C : Ctx := { ty := tyOf tab, glob := glob, byRef := byRef, keep := fun k i => lookN [] (lookN [] ([] : List (Nat × List (Nat × List Nat))) k) i, late := lookN [] ([] : List (Nat × List Nat)), nref := lookN [] ([] : List (Nat × List Nat)), nbox := lookN [] ([] : List (Nat × List (Nat × Nat))), take := [], rnil := false, m := 0, fz := true, loops := lookL f37_tab, call := f37_call }
noncomputable def f37_G0 : List TV → List Entry → (TV → List Entry → Prop) → Prop := fun tm hp K => getS [.v (.one (.int .i64)), .v (.one (.int .i64))] [] tm hp fun (xx : (Int × (Int × Unit))) (yy : Unit) => f37 xx.1 xx.2.1 (fun n0_0 => K (I n0_0) [])
set_option maxRecDepth 100000 in
theorem f37_eq (n_1 : Int) (n_2 : Int) (K : TV → List Entry → Prop) : (f37_d n_1 n_2 (fun n0_0 => K (I n0_0) [])) = funcT f37_C Try.f37 [I n_1, I n_2] [] K := by kernel_rfl
set_option maxHeartbeats 4000000 in
theorem f37_ok0 : FnOk Try.prog glob 37 f37_G0 := by
  refine FnOk.of_text (C := f37_C) tab_ok.ok (Known.add f47_G_ok (Known.none)) follows_ok (fn := Try.f37) (by kernel_rfl) (by kernel_rfl) (by kernel_rfl) (fun c hc => ?_) fun tm hp K h => ?_
  · have e : c = bodyOf Try.f37 := Option.some.inj (hc.symm.trans (by kernel_rfl))
    subst e
    exact ⟨LoopsOk.of [] (by kernel_rfl) trivial, TailsOk.of (tab := f37_tab) rfl [] (by kernel_rfl) trivial⟩
  · unfold f37_G0 at h
    obtain ⟨xx, yy, rfl, rfl, h⟩ := getS_elim h
    have e := (f37_eq xx.1 xx.2.1 K).trans (show _ = funcT f37_C Try.f37 (mkR _ xx) (mkE _ yy) K by kernel_rfl)
    rw [← e]
    exact h.run
noncomputable abbrev f37_G := f37_G0
theorem f37_G_ok : FnOk Try.prog glob 37 f37_G := f37_ok0
end Go.Eng.N
set_option linter.unusedVariables false
set_option maxRecDepth 100000
open Go Go.Eng Go.Proofs
namespace Go.Eng.N
/-! ### f36: plenum/leadlag.Order$1 -/
noncomputable def f36_d (n1 : Int) (n2 : Int) (i3 : Nat) (n4 : Nat) (n5 : Int) (n6 : Int) (es7 : List (List PC)) (k0 : Int → Nat → Nat → Int → Int → (List (List PC)) → Prop) : Prop := (0 ≤ n1 ∧ n1 < ((n4 : Nat) : Int)) ∧ cI .i64 (ext (List.getD es7 (i3 + (Int.toNat n1)) []) 0 3) fun n9 r8 => cB r8 fun b11 r10 => cB r10 fun b13 r12 => nilC r12 <| (0 ≤ n2 ∧ n2 < ((n4 : Nat) : Int)) ∧ cI .i64 (ext (List.getD es7 (i3 + (Int.toNat n2)) []) 0 3) fun n15 r14 => cB r14 fun b17 r16 => cB r16 fun b19 r18 => nilC r18 <| (bB b13 (bB b19 (k0 0 i3 n4 n5 n6 es7) (bB b13 (k0 1 i3 n4 n5 n6 es7) (bB b19 (k0 (-1) i3 n4 n5 n6 es7) (f37 n9 n15 (fun n20 => k0 n20 i3 n4 n5 n6 es7))))) (bB b13 (k0 1 i3 n4 n5 n6 es7) (bB b19 (k0 (-1) i3 n4 n5 n6 es7) (f37 n9 n15 (fun n21 => k0 n21 i3 n4 n5 n6 es7))))) ∧ (bB b13 (bB b19 (k0 0 i3 n4 n5 n6 es7) (bB b13 (k0 1 i3 n4 n5 n6 es7) (bB b19 (k0 (-1) i3 n4 n5 n6 es7) (f37 n9 n15 (fun n22 => k0 n22 i3 n4 n5 n6 es7))))) (bB b13 (k0 1 i3 n4 n5 n6 es7) (bB b19 (k0 (-1) i3 n4 n5 n6 es7) (f37 n9 n15 (fun n23 => k0 n23 i3 n4 n5 n6 es7)))))
structure f36 (n1 : Int) (n2 : Int) (i3 : Nat) (n4 : Nat) (n5 : Int) (n6 : Int) (es7 : List (List PC)) (k0 : Int → Nat → Nat → Int → Int → (List (List PC)) → Prop) : Prop where
  run : f36_d n1 n2 i3 n4 n5 n6 es7 k0
noncomputable def f36_tab : List (Nat × Told) := []
noncomputable def f36_call : FuncId → List TV → List Entry → (TV → List Entry → Prop) → Prop := addCall 37 f37_G (noCalls)
noncomputable def f36_C : Ctx := { ty := tyOf tab, glob := glob, byRef := byRef, keep := fun k i => lookN [] (lookN [] ([] : List (Nat × List (Nat × List Nat))) k) i, late := lookN [] ([] : List (Nat × List Nat)), nref := lookN [] ([] : List (Nat × List Nat)), nbox := lookN [] ([] : List (Nat × List (Nat × Nat))), take := [], rnil := true, m := 2, fz := false, loops := lookL f36_tab, call := f36_call }
noncomputable def f36_G0 : List TV → List Entry → (TV → List Entry → Prop) → Prop := fun tm hp K => getS [.v (.one (.int .i64)), .v (.one (.int .i64)), .v (.one (.ptr 0 0 0))] [.box [.ref 1, .int .i64, .int .i64], .vec 3 true] tm hp fun (xx : (Int × (Int × (Unit × Unit)))) (yy : (((Nat × Nat) × (Int × (Int × Unit))) × ((List (List PC)) × Unit))) => f36 xx.1 xx.2.1 yy.1.1.1 yy.1.1.2 yy.1.2.1 yy.1.2.2.1 yy.2.1 (fun n0_0 i0_1 n0_2 n0_3 n0_4 es0_5 => K (I n0_0) [.box [.ref 1 i0_1 n0_2, .p (pI n0_3), .p (pI n0_4)], .vec 3 es0_5 true])
set_option maxRecDepth 100000 in
theorem f36_eq (n_6 : Int) (n_7 : Int) (i_8 : Nat) (n_9 : Nat) (n_10 : Int) (n_11 : Int) (es_12 : List (List PC)) (K : TV → List Entry → Prop) : (f36_d n_6 n_7 i_8 n_9 n_10 n_11 es_12 (fun n0_0 i0_1 n0_2 n0_3 n0_4 es0_5 => K (I n0_0) [.box [.ref 1 i0_1 n0_2, .p (pI n0_3), .p (pI n0_4)], .vec 3 es0_5 true])) = funcT f36_C Try.f36 [I n_6, I n_7, .w (.one (.ptr 0 0 0))] [.box [.ref 1 i_8 n_9, .p (pI n_10), .p (pI n_11)], .vec 3 es_12 true] K := by kernel_rfl
set_option maxHeartbeats 4000000 in
theorem f36_ok0 : FnOk Try.prog glob 36 f36_G0 := by
  refine FnOk.of_text (C := f36_C) tab_ok.ok (Known.add f37_G_ok (Known.none)) follows_ok (fn := Try.f36) (by kernel_rfl) (by kernel_rfl) (by kernel_rfl) (fun c hc => ?_) fun tm hp K h => ?_
  · have e : c = bodyOf Try.f36 := Option.some.inj (hc.symm.trans (by kernel_rfl))
    subst e
    exact ⟨LoopsOk.of [] (by kernel_rfl) trivial, TailsOk.of (tab := f36_tab) rfl [] (by kernel_rfl) trivial⟩
  · unfold f36_G0 at h
    obtain ⟨xx, yy, rfl, rfl, h⟩ := getS_elim h
    have e := (f36_eq xx.1 xx.2.1 yy.1.1.1 yy.1.1.2 yy.1.2.1 yy.1.2.2.1 yy.2.1 K).trans (show _ = funcT f36_C Try.f36 (mkR _ xx) (mkE _ yy) K by kernel_rfl)
    rw [← e]
    exact h.run
noncomputable abbrev f36_G := f36_G0
theorem f36_G_ok : FnOk Try.prog glob 36 f36_G := f36_ok0
end Go.Eng.N
set_option linter.unusedVariables false
set_option maxRecDepth 100000
open Go Go.Eng Go.Proofs
namespace Go.Eng.N
/-! ### f36_1: plenum/leadlag.Order$1 -/
noncomputable def f36_1_d (n1 : Int) (n2 : Int) (es3 : List (List PC)) (full4 : Bool) (n5 : Int) (n6 : Int) (k0 : Int → (List (List PC)) → Bool → Int → Int → Prop) : Prop := (0 ≤ n1 ∧ n1 < ((es3.length : Nat) : Int)) ∧ cI .i64 (ext (List.getD es3 (Int.toNat n1) []) 0 3) fun n8 r7 => cB r7 fun b10 r9 => cB r9 fun b12 r11 => nilC r11 <| (0 ≤ n2 ∧ n2 < ((es3.length : Nat) : Int)) ∧ cI .i64 (ext (List.getD es3 (Int.toNat n2) []) 0 3) fun n14 r13 => cB r13 fun b16 r15 => cB r15 fun b18 r17 => nilC r17 <| (bB b12 (bB b18 (k0 0 es3 full4 n5 n6) (bB b12 (k0 1 es3 full4 n5 n6) (bB b18 (k0 (-1) es3 full4 n5 n6) (f37 n8 n14 (fun n19 => k0 n19 es3 full4 n5 n6))))) (bB b12 (k0 1 es3 full4 n5 n6) (bB b18 (k0 (-1) es3 full4 n5 n6) (f37 n8 n14 (fun n20 => k0 n20 es3 full4 n5 n6))))) ∧ (bB b12 (bB b18 (k0 0 es3 full4 n5 n6) (bB b12 (k0 1 es3 full4 n5 n6) (bB b18 (k0 (-1) es3 full4 n5 n6) (f37 n8 n14 (fun n21 => k0 n21 es3 full4 n5 n6))))) (bB b12 (k0 1 es3 full4 n5 n6) (bB b18 (k0 (-1) es3 full4 n5 n6) (f37 n8 n14 (fun n22 => k0 n22 es3 full4 n5 n6)))))
structure f36_1 (n1 : Int) (n2 : Int) (es3 : List (List PC)) (full4 : Bool) (n5 : Int) (n6 : Int) (k0 : Int → (List (List PC)) → Bool → Int → Int → Prop) : Prop where
  run : f36_1_d n1 n2 es3 full4 n5 n6 k0
noncomputable def f36_1_tab : List (Nat × Told) := []
noncomputable def f36_1_call : FuncId → List TV → List Entry → (TV → List Entry → Prop) → Prop := addCall 37 f37_G (noCalls)
noncomputable def f36_1_C : Ctx := { ty := tyOf tab, glob := glob, byRef := byRef, keep := fun k i => lookN [] (lookN [] ([] : List (Nat × List (Nat × List Nat))) k) i, late := lookN [] ([] : List (Nat × List Nat)), nref := lookN [] ([] : List (Nat × List Nat)), nbox := lookN [] ([] : List (Nat × List (Nat × Nat))), take := [], rnil := true, m := 1, fz := false, loops := lookL f36_1_tab, call := f36_1_call }
noncomputable def f36_1_G0 : List TV → List Entry → (TV → List Entry → Prop) → Prop := fun tm hp K => getS [.v (.one (.int .i64)), .v (.one (.int .i64)), .v (.one (.ptr 0 0 0))] [.box [.sl 3, .int .i64, .int .i64]] tm hp fun (xx : (Int × (Int × (Unit × Unit)))) (yy : (((List (List PC) × Bool) × (Int × (Int × Unit))) × Unit)) => f36_1 xx.1 xx.2.1 yy.1.1.1 yy.1.1.2 yy.1.2.1 yy.1.2.2.1 (fun n0_0 es0_1 full0_2 n0_3 n0_4 => K (I n0_0) [.box [.p (.sl 3 es0_1 full0_2), .p (pI n0_3), .p (pI n0_4)]])
set_option maxRecDepth 100000 in
theorem f36_1_eq (n_5 : Int) (n_6 : Int) (es_7 : List (List PC)) (full_8 : Bool) (n_9 : Int) (n_10 : Int) (K : TV → List Entry → Prop) : (f36_1_d n_5 n_6 es_7 full_8 n_9 n_10 (fun n0_0 es0_1 full0_2 n0_3 n0_4 => K (I n0_0) [.box [.p (.sl 3 es0_1 full0_2), .p (pI n0_3), .p (pI n0_4)]])) = funcT f36_1_C Try.f36 [I n_5, I n_6, .w (.one (.ptr 0 0 0))] [.box [.p (.sl 3 es_7 full_8), .p (pI n_9), .p (pI n_10)]] K := by kernel_rfl
set_option maxHeartbeats 4000000 in
theorem f36_1_ok0 : FnOk Try.prog glob 36 f36_1_G0 := by
  refine FnOk.of_text (C := f36_1_C) tab_ok.ok (Known.add f37_G_ok (Known.none)) follows_ok (fn := Try.f36) (by kernel_rfl) (by kernel_rfl) (by kernel_rfl) (fun c hc => ?_) fun tm hp K h => ?_
  · have e : c = bodyOf Try.f36 := Option.some.inj (hc.symm.trans (by kernel_rfl))
    subst e
    exact ⟨LoopsOk.of [] (by kernel_rfl) trivial, TailsOk.of (tab := f36_1_tab) rfl [] (by kernel_rfl) trivial⟩
  · unfold f36_1_G0 at h
    obtain ⟨xx, yy, rfl, rfl, h⟩ := getS_elim h
    have e := (f36_1_eq xx.1 xx.2.1 yy.1.1.1 yy.1.1.2 yy.1.2.1 yy.1.2.2.1 K).trans (show _ = funcT f36_1_C Try.f36 (mkR _ xx) (mkE _ yy) K by kernel_rfl)
    rw [← e]
    exact h.run
noncomputable def f36_1_G : List TV → List Entry → (TV → List Entry → Prop) → Prop := fun args H K => bif isSig (sigOf args H) [2, 2, 200, 7, 20, 5, 2, 2] then f36_1_G0 args H K else f36_G args H K
theorem f36_1_G_ok : FnOk Try.prog glob 36 f36_1_G := FnOk.or _ f36_1_ok0 f36_G_ok
end Go.Eng.N
set_option linter.unusedVariables false
set_option maxRecDepth 100000
open Go Go.Eng Go.Proofs
namespace Go.Eng.N
/-! ### f38: plenum/plenumref55.before -/
noncomputable def f38_d (es1 : List (List PC)) (full2 : Bool) (n3 : Int) (n4 : Int) (k0 : Bool → Prop) : Prop := (0 ≤ n3 ∧ n3 < ((es1.length : Nat) : Int)) ∧ cI .i64 (ext (List.getD es1 (Int.toNat n3) []) 0 3) fun n6 r5 => cB r5 fun b8 r7 => cB r7 fun b10 r9 => nilC r9 <| (0 ≤ n4 ∧ n4 < ((es1.length : Nat) : Int)) ∧ cI .i64 (ext (List.getD es1 (Int.toNat n4) []) 0 3) fun n12 r11 => cB r11 fun b14 r13 => cB r13 fun b16 r15 => nilC r15 <| (bB (!(b10 == b16)) (k0 b16) (bB (!b10) (bB (n6 != n12) (k0 (decide (n6 < n12))) (k0 (decide (n3 < n4)))) (k0 (decide (n3 < n4))))) ∧ (bB (!(b10 == b16)) (k0 b16) (bB (!b10) (bB (n6 != n12) (k0 (decide (n6 < n12))) (k0 (decide (n3 < n4)))) (k0 (decide (n3 < n4)))))
structure f38 (es1 : List (List PC)) (full2 : Bool) (n3 : Int) (n4 : Int) (k0 : Bool → Prop) : Prop where
  run : f38_d es1 full2 n3 n4 k0
noncomputable def f38_tab : List (Nat × Told) := []
noncomputable def f38_call : FuncId → List TV → List Entry → (TV → List Entry → Prop) → Prop := noCalls
noncomputable def f38_C : Ctx := { ty := tyOf tab, glob := glob, byRef := byRef, keep := fun k i => lookN [] (lookN [] ([] : List (Nat × List (Nat × List Nat))) k) i, late := lookN [] ([] : List (Nat × List Nat)), nref := lookN [] ([] : List (Nat × List Nat)), nbox := lookN [] ([] : List (Nat × List (Nat × Nat))), take := [], rnil := false, m := 0, fz := true, loops := lookL f38_tab, call := f38_call }
noncomputable def f38_G0 : List TV → List Entry → (TV → List Entry → Prop) → Prop := fun tm hp K => getS [.v (.one (.sl 3)), .v (.one (.int .i64)), .v (.one (.int .i64))] [] tm hp fun (xx : ((List (List PC) × Bool) × (Int × (Int × Unit)))) (yy : Unit) => f38 xx.1.1 xx.1.2 xx.2.1 xx.2.2.1 (fun b0_0 => K (B b0_0) [])
set_option maxRecDepth 100000 in
theorem f38_eq (es_1 : List (List PC)) (full_2 : Bool) (n_3 : Int) (n_4 : Int) (K : TV → List Entry → Prop) : (f38_d es_1 full_2 n_3 n_4 (fun b0_0 => K (B b0_0) [])) = funcT f38_C Try.f38 [.w (.one (.p (.sl 3 es_1 full_2))), I n_3, I n_4] [] K := by kernel_rfl
set_option maxHeartbeats 4000000 in
theorem f38_ok0 : FnOk Try.prog glob 38 f38_G0 := by
  refine FnOk.of_text (C := f38_C) tab_ok.ok (Known.none) follows_ok (fn := Try.f38) (by kernel_rfl) (by kernel_rfl) (by kernel_rfl) (fun c hc => ?_) fun tm hp K h => ?_
  · have e : c = bodyOf Try.f38 := Option.some.inj (hc.symm.trans (by kernel_rfl))
    subst e
    exact ⟨LoopsOk.of [] (by kernel_rfl) trivial, TailsOk.of (tab := f38_tab) rfl [] (by kernel_rfl) trivial⟩
  · unfold f38_G0 at h
    obtain ⟨xx, yy, rfl, rfl, h⟩ := getS_elim h
    have e := (f38_eq xx.1.1 xx.1.2 xx.2.1 xx.2.2.1 K).trans (show _ = funcT f38_C Try.f38 (mkR _ xx) (mkE _ yy) K by kernel_rfl)
    rw [← e]
    exact h.run
noncomputable abbrev f38_G := f38_G0
theorem f38_G_ok : FnOk Try.prog glob 38 f38_G := f38_ok0
end Go.Eng.N
set_option linter.unusedVariables false
set_option maxRecDepth 100000
open Go Go.Eng Go.Proofs
namespace Go.Eng.N
/-! ### f51: slices.insertionSortCmpFunc(int) -/
noncomputable def f51_p13 (i42 : Nat) (n43 : Nat) (n44 : Int) (n45 : Int) (n46 : Int) (n47 : Int) (es48 : List (List PC)) (i49 : Nat) (n50 : Nat) (n51 : Int) (n52 : Int) (es53 : List (List PC)) (k0 : Int → (List (List PC)) → Prop) : Prop := (0 ≤ (w64 (n47 - 1)) ∧ (w64 (n47 - 1)) < ((n43 : Nat) : Int)) ∧ oI .i64 (ext (List.getD es48 (i42 + (Int.toNat (w64 (n47 - 1)))) []) 0 1) fun n54 => (0 ≤ n47 ∧ n47 < ((n43 : Nat) : Int)) ∧ oI .i64 (ext (List.getD es48 (i42 + (Int.toNat n47)) []) 0 1) fun n55 => (0 ≤ n47 ∧ n47 < ((n43 : Nat) : Int)) ∧ (i42 + (Int.toNat n47)) < es48.length ∧ (0 ≤ (w64 (n47 - 1)) ∧ (w64 (n47 - 1)) < ((n43 : Nat) : Int)) ∧ (i42 + (Int.toNat (w64 (n47 - 1)))) < (List.set es48 (i42 + (Int.toNat n47)) (splice (List.getD es48 (i42 + (Int.toNat n47)) []) 0 [pI n54])).length ∧ k0 (w64 (n47 - 1)) (List.set (List.set es48 (i42 + (Int.toNat n47)) (splice (List.getD es48 (i42 + (Int.toNat n47)) []) 0 [pI n54])) (i42 + (Int.toNat (w64 (n47 - 1)))) (splice (List.getD (List.set es48 (i42 + (Int.toNat n47)) (splice (List.getD es48 (i42 + (Int.toNat n47)) []) 0 [pI n54])) (i42 + (Int.toNat (w64 (n47 - 1)))) []) 0 [pI n55]))
noncomputable def f51_p8b0 (i22 : Nat) (n23 : Nat) (n24 : Int) (n25 : Int) (n26 : Int) (n27 : Int) (es28 : List (List PC)) (i29 : Nat) (n30 : Nat) (n31 : Int) (n32 : Int) (es33 : List (List PC)) (N0 : Int → (List (List PC)) → Nat → Nat → Int → Int → (List (List PC)) → Prop) (k0 : (List (List PC)) → Nat → Nat → Int → Int → (List (List PC)) → Prop) : Prop := bB (decide (n27 > n24)) ((0 ≤ n27 ∧ n27 < ((n23 : Nat) : Int)) ∧ oI .i64 (ext (List.getD es28 (i22 + (Int.toNat n27)) []) 0 1) fun n34 => (0 ≤ (w64 (n27 - 1)) ∧ (w64 (n27 - 1)) < ((n23 : Nat) : Int)) ∧ oI .i64 (ext (List.getD es28 (i22 + (Int.toNat (w64 (n27 - 1)))) []) 0 1) fun n35 => f36 n34 n35 i29 n30 n31 n32 es33 (fun n36 i37 n38 n39 n40 es41 => bB (decide (n36 < 0)) (f51_p13 i22 n23 n24 n25 n26 n27 es28 i37 n38 n39 n40 es41 (fun n56 es57 => N0 n56 es57 i37 n38 n39 n40 es41)) (k0 es28 i37 n38 n39 n40 es41))) (k0 es28 i29 n30 n31 n32 es33)
noncomputable def f51_p8 (i22 : Nat) (n23 : Nat) (n24 : Int) (n25 : Int) (n26 : Int) (k0 : (List (List PC)) → Nat → Nat → Int → Int → (List (List PC)) → Prop) : Int × (List (List PC)) × Nat × Nat × Int × Int × (List (List PC)) → Prop := LoopP fun x N => f51_p8b0 i22 n23 n24 n25 n26 x.1 x.2.1 x.2.2.1 x.2.2.2.1 x.2.2.2.2.1 x.2.2.2.2.2.1 x.2.2.2.2.2.2 (fun n27 es28 i29 n30 n31 n32 es33 => N (n27, es28, i29, n30, n31, n32, es33)) k0
noncomputable def f51_p2b0 (i11 : Nat) (n12 : Nat) (n13 : Int) (n14 : Int) (n15 : Int) (es16 : List (List PC)) (i17 : Nat) (n18 : Nat) (n19 : Int) (n20 : Int) (es21 : List (List PC)) (N0 : Int → (List (List PC)) → Nat → Nat → Int → Int → (List (List PC)) → Prop) (k0 : (List (List PC)) → Nat → Nat → Int → Int → (List (List PC)) → Prop) : Prop := bB (decide (n15 < n14)) (f51_p8 i11 n12 n13 n14 n15 (fun es58 i59 n60 n61 n62 es63 => N0 (w64 (n15 + 1)) es58 i59 n60 n61 n62 es63) (n15, es16, i17, n18, n19, n20, es21)) (k0 es16 i17 n18 n19 n20 es21)
noncomputable def f51_p2 (i11 : Nat) (n12 : Nat) (n13 : Int) (n14 : Int) (k0 : (List (List PC)) → Nat → Nat → Int → Int → (List (List PC)) → Prop) : Int × (List (List PC)) × Nat × Nat × Int × Int × (List (List PC)) → Prop := LoopP fun x N => f51_p2b0 i11 n12 n13 n14 x.1 x.2.1 x.2.2.1 x.2.2.2.1 x.2.2.2.2.1 x.2.2.2.2.2.1 x.2.2.2.2.2.2 (fun n15 es16 i17 n18 n19 n20 es21 => N (n15, es16, i17, n18, n19, n20, es21)) k0
noncomputable def f51_d (i1 : Nat) (n2 : Nat) (n3 : Int) (n4 : Int) (es5 : List (List PC)) (i6 : Nat) (n7 : Nat) (n8 : Int) (n9 : Int) (es10 : List (List PC)) (k0 : (List (List PC)) → Nat → Nat → Int → Int → (List (List PC)) → Prop) : Prop := f51_p2 i1 n2 n3 n4 (fun es64 i65 n66 n67 n68 es69 => k0 es64 i65 n66 n67 n68 es69) ((w64 (n3 + 1)), es5, i6, n7, n8, n9, es10)
structure f51 (i1 : Nat) (n2 : Nat) (n3 : Int) (n4 : Int) (es5 : List (List PC)) (i6 : Nat) (n7 : Nat) (n8 : Int) (n9 : Int) (es10 : List (List PC)) (k0 : (List (List PC)) → Nat → Nat → Int → Int → (List (List PC)) → Prop) : Prop where
  run : f51_d i1 n2 n3 n4 es5 i6 n7 n8 n9 es10 k0
noncomputable def f51_p13L : Told := fun s K => match s with
  | ⟨tm, hp⟩ => getS [.v (.one (.ref 0)), .v (.one (.int .i64)), .v (.one (.int .i64)), .v (.clo 36 [] [.ptr 1 0 0]), .skip 4, .v (.one (.int .i64)), .v (.one (.int .i64)), .skip 43] [.vec 1 true, .box [.ref 2, .int .i64, .int .i64], .vec 3 true] tm hp fun (xx : ((Nat × Nat) × (Int × (Int × ((Unit × (Unit × Unit)) × (Unit × (Int × (Int × (Unit × Unit))))))))) (yy : ((List (List PC)) × (((Nat × Nat) × (Int × (Int × Unit))) × ((List (List PC)) × Unit)))) => f51_p13 xx.1.1 xx.1.2 xx.2.1 xx.2.2.1 xx.2.2.2.2.2.1 xx.2.2.2.2.2.2.1 yy.1 yy.2.1.1.1 yy.2.1.1.2 yy.2.1.2.1 yy.2.1.2.2.1 yy.2.2.1 (fun n0_0 es0_1 => K .normal ⟨mkS 53 [(0, .w (.one (.ref 0 xx.1.1 xx.1.2))), (1, I xx.2.1), (2, I xx.2.2.1), (3, .w (.one (.clo 36 [] [.ptr 1 0 0]))), (8, I xx.2.2.2.2.2.1), (9, I n0_0)], [.vec 1 es0_1 true, .box [.ref 2 yy.2.1.1.1 yy.2.1.1.2, .p (pI yy.2.1.2.1), .p (pI yy.2.1.2.2.1)], .vec 3 yy.2.2.1 true]⟩)
noncomputable def f51_p8L : Told := fun s K => match s with
  | ⟨tm, hp⟩ => getS [.v (.one (.ref 0)), .v (.one (.int .i64)), .v (.one (.int .i64)), .v (.clo 36 [] [.ptr 1 0 0]), .skip 4, .v (.one (.int .i64)), .v (.one (.int .i64)), .skip 43] [.vec 1 true, .box [.ref 2, .int .i64, .int .i64], .vec 3 true] tm hp fun (xx : ((Nat × Nat) × (Int × (Int × ((Unit × (Unit × Unit)) × (Unit × (Int × (Int × (Unit × Unit))))))))) (yy : ((List (List PC)) × (((Nat × Nat) × (Int × (Int × Unit))) × ((List (List PC)) × Unit)))) => f51_p8 xx.1.1 xx.1.2 xx.2.1 xx.2.2.1 xx.2.2.2.2.2.1 (fun es0_2 i0_3 n0_4 n0_5 n0_6 es0_7 => K (.exit 2) ⟨mkS 53 [(0, .w (.one (.ref 0 xx.1.1 xx.1.2))), (1, I xx.2.1), (2, I xx.2.2.1), (3, .w (.one (.clo 36 [] [.ptr 1 0 0]))), (8, I xx.2.2.2.2.2.1)], [.vec 1 es0_2 true, .box [.ref 2 i0_3 n0_4, .p (pI n0_5), .p (pI n0_6)], .vec 3 es0_7 true]⟩) (xx.2.2.2.2.2.2.1, yy.1, yy.2.1.1.1, yy.2.1.1.2, yy.2.1.2.1, yy.2.1.2.2.1, yy.2.2.1)
noncomputable def f51_p2L : Told := fun s K => match s with
  | ⟨tm, hp⟩ => getS [.v (.one (.ref 0)), .v (.one (.int .i64)), .v (.one (.int .i64)), .v (.clo 36 [] [.ptr 1 0 0]), .skip 4, .v (.one (.int .i64)), .skip 44] [.vec 1 true, .box [.ref 2, .int .i64, .int .i64], .vec 3 true] tm hp fun (xx : ((Nat × Nat) × (Int × (Int × ((Unit × (Unit × Unit)) × (Unit × (Int × (Unit × Unit)))))))) (yy : ((List (List PC)) × (((Nat × Nat) × (Int × (Int × Unit))) × ((List (List PC)) × Unit)))) => f51_p2 xx.1.1 xx.1.2 xx.2.1 xx.2.2.1 (fun es0_8 i0_9 n0_10 n0_11 n0_12 es0_13 => K (.exit 0) ⟨mkS 53 [], [.vec 1 es0_8 true, .box [.ref 2 i0_9 n0_10, .p (pI n0_11), .p (pI n0_12)], .vec 3 es0_13 true]⟩) (xx.2.2.2.2.2.1, yy.1, yy.2.1.1.1, yy.2.1.1.2, yy.2.1.2.1, yy.2.1.2.2.1, yy.2.2.1)
noncomputable def f51_tab : List (Nat × Told) := [(13, f51_p13L), (8, f51_p8L), (2, f51_p2L)]
noncomputable def f51_call : FuncId → List TV → List Entry → (TV → List Entry → Prop) → Prop := addCall 36 f36_G (noCalls)
noncomputable def f51_C : Ctx := { ty := tyOf tab, glob := glob, byRef := byRef, keep := fun k i => lookN [] (lookN [] ([(13, [(0, [0, 1, 2, 3, 8, 9]), (1, [0, 1, 2, 3, 8, 9]), (2, []), (3, []), (4, [0, 1, 2, 3, 8]), (5, [0, 1, 2, 3, 8])]), (8, [(0, [0, 1, 2, 3, 8, 9]), (2, []), (3, []), (4, [0, 1, 2, 3, 8]), (5, [0, 1, 2, 3, 8])]), (2, [(0, [0, 1, 2, 3, 8]), (2, []), (3, [])])] : List (Nat × List (Nat × List Nat))) k) i, late := lookN [] ([] : List (Nat × List Nat)), nref := lookN [] ([] : List (Nat × List Nat)), nbox := lookN [] ([] : List (Nat × List (Nat × Nat))), take := [], rnil := true, m := 3, fz := false, loops := lookL f51_tab, call := f51_call }
set_option maxRecDepth 100000 in
theorem f51_p13e0 (i_20 : Nat) (n_21 : Nat) (n_22 : Int) (n_23 : Int) (n_24 : Int) (n_25 : Int) (es_26 : List (List PC)) (i_27 : Nat) (n_28 : Nat) (n_29 : Int) (n_30 : Int) (es_31 : List (List PC)) (K : TExit → St → Prop) : (f51_p13 i_20 n_21 n_22 n_23 n_24 n_25 es_26 i_27 n_28 n_29 n_30 es_31 (fun n0_32 es0_33 => K .normal ⟨mkS 53 [(0, .w (.one (.ref 0 i_20 n_21))), (1, I n_22), (2, I n_23), (3, .w (.one (.clo 36 [] [.ptr 1 0 0]))), (8, I n_24), (9, I n0_32)], [.vec 1 es0_33 true, .box [.ref 2 i_27 n_28, .p (pI n_29), .p (pI n_30)], .vec 3 es_31 true]⟩)) = execT f51_C (nthC (tails (bodyOf Try.f51)) 5) ⟨mkS 53 [(0, .w (.one (.ref 0 i_20 n_21))), (1, I n_22), (2, I n_23), (3, .w (.one (.clo 36 [] [.ptr 1 0 0]))), (8, I n_24), (9, I n_25)], [.vec 1 es_26 true, .box [.ref 2 i_27 n_28, .p (pI n_29), .p (pI n_30)], .vec 3 es_31 true]⟩ (fun e s => K e (normOut f51_C 13 e s)) := by kernel_rfl
noncomputable def f51_p8_mk (i22 : Nat) (n23 : Nat) (n24 : Int) (n25 : Int) (n26 : Int) (x : Int × (List (List PC)) × Nat × Nat × Int × Int × (List (List PC))) : St := ⟨mkS 53 [(0, .w (.one (.ref 0 i22 n23))), (1, I n24), (2, I n25), (3, .w (.one (.clo 36 [] [.ptr 1 0 0]))), (8, I n26), (9, I x.1)], [.vec 1 x.2.1 true, .box [.ref 2 x.2.2.1 x.2.2.2.1, .p (pI x.2.2.2.2.1), .p (pI x.2.2.2.2.2.1)], .vec 3 x.2.2.2.2.2.2 true]⟩
set_option maxRecDepth 100000 in
theorem f51_p8e0 (i_46 : Nat) (n_47 : Nat) (n_48 : Int) (n_49 : Int) (n_50 : Int) (n_51 : Int) (es_52 : List (List PC)) (i_53 : Nat) (n_54 : Nat) (n_55 : Int) (n_56 : Int) (es_57 : List (List PC)) (N : St → Prop) (K : TExit → St → Prop) : (f51_p8b0 i_46 n_47 n_48 n_49 n_50 n_51 es_52 i_53 n_54 n_55 n_56 es_57 (fun z5 z6 z7 z8 z9 z10 z11 => N (f51_p8_mk i_46 n_47 n_48 n_49 n_50 (z5, z6, z7, z8, z9, z10, z11))) (fun es0_58 i0_59 n0_60 n0_61 n0_62 es0_63 => K (.exit 2) ⟨mkS 53 [(0, .w (.one (.ref 0 i_46 n_47))), (1, I n_48), (2, I n_49), (3, .w (.one (.clo 36 [] [.ptr 1 0 0]))), (8, I n_50)], [.vec 1 es0_58 true, .box [.ref 2 i0_59 n0_60, .p (pI n0_61), .p (pI n0_62)], .vec 3 es0_63 true]⟩)) = execT f51_C (nthC (bodies (bodyOf Try.f51)) 1) (f51_p8_mk i_46 n_47 n_48 n_49 n_50 (n_51, es_52, i_53, n_54, n_55, n_56, es_57)) (loopK N (normK f51_C 8) fun e s => K e (normOut f51_C 8 e s)) := by kernel_rfl
noncomputable def f51_p2_mk (i11 : Nat) (n12 : Nat) (n13 : Int) (n14 : Int) (x : Int × (List (List PC)) × Nat × Nat × Int × Int × (List (List PC))) : St := ⟨mkS 53 [(0, .w (.one (.ref 0 i11 n12))), (1, I n13), (2, I n14), (3, .w (.one (.clo 36 [] [.ptr 1 0 0]))), (8, I x.1)], [.vec 1 x.2.1 true, .box [.ref 2 x.2.2.1 x.2.2.2.1, .p (pI x.2.2.2.2.1), .p (pI x.2.2.2.2.2.1)], .vec 3 x.2.2.2.2.2.2 true]⟩
set_option maxRecDepth 100000 in
theorem f51_p2e0 (i_75 : Nat) (n_76 : Nat) (n_77 : Int) (n_78 : Int) (n_79 : Int) (es_80 : List (List PC)) (i_81 : Nat) (n_82 : Nat) (n_83 : Int) (n_84 : Int) (es_85 : List (List PC)) (N : St → Prop) (K : TExit → St → Prop) : (f51_p2b0 i_75 n_76 n_77 n_78 n_79 es_80 i_81 n_82 n_83 n_84 es_85 (fun z4 z5 z6 z7 z8 z9 z10 => N (f51_p2_mk i_75 n_76 n_77 n_78 (z4, z5, z6, z7, z8, z9, z10))) (fun es0_86 i0_87 n0_88 n0_89 n0_90 es0_91 => K (.exit 0) ⟨mkS 53 [], [.vec 1 es0_86 true, .box [.ref 2 i0_87 n0_88, .p (pI n0_89), .p (pI n0_90)], .vec 3 es0_91 true]⟩)) = execT f51_C (nthC (bodies (bodyOf Try.f51)) 0) (f51_p2_mk i_75 n_76 n_77 n_78 (n_79, es_80, i_81, n_82, n_83, n_84, es_85)) (loopK N (normK f51_C 2) fun e s => K e (normOut f51_C 2 e s)) := by kernel_rfl
set_option maxHeartbeats 4000000 in
theorem f51_p13_ok : TailOk f51_C (nthC (tails (bodyOf Try.f51)) 5) := by
  refine TailOk.of f51_p13L (by kernel_rfl) fun σ K h => ?_
  have hk : joinKey (nthC (tails (bodyOf Try.f51)) 5) = 13 := by kernel_rfl
  rw [hk] at h ⊢
  generalize hs : normK f51_C 13 σ = s at h
  obtain ⟨tm, hp⟩ := s
  unfold f51_p13L at h
  dsimp only at h
  obtain ⟨xx, yy, rfl, rfl, h⟩ := getS_elim h
  have q : normK f51_C 13 σ = (⟨mkS 53 [(0, .w (.one (.ref 0 xx.1.1 xx.1.2))), (1, I xx.2.1), (2, I xx.2.2.1), (3, .w (.one (.clo 36 [] [.ptr 1 0 0]))), (8, I xx.2.2.2.2.2.1), (9, I xx.2.2.2.2.2.2.1)], [.vec 1 yy.1 true, .box [.ref 2 yy.2.1.1.1 yy.2.1.1.2, .p (pI yy.2.1.2.1), .p (pI yy.2.1.2.2.1)], .vec 3 yy.2.2.1 true]⟩ : St) := hs.trans (by kernel_rfl)
  rw [← hs, q, ← f51_p13e0 xx.1.1 xx.1.2 xx.2.1 xx.2.2.1 xx.2.2.2.2.2.1 xx.2.2.2.2.2.2.1 yy.1 yy.2.1.1.1 yy.2.1.1.2 yy.2.1.2.1 yy.2.1.2.2.1 yy.2.2.1 K]
  exact h
set_option maxHeartbeats 4000000 in
theorem f51_p8_ok : LoopOk f51_C (nthC (bodies (bodyOf Try.f51)) 1) := by
  refine LoopOk.of f51_p8L (by kernel_rfl) fun σ K h => ?_
  have hk : loopKey (nthC (bodies (bodyOf Try.f51)) 1) = 8 := by kernel_rfl
  rw [hk] at h ⊢
  generalize hs : normK f51_C 8 σ = s at h
  obtain ⟨tm, hp⟩ := s
  unfold f51_p8L at h
  dsimp only at h
  obtain ⟨xx, yy, rfl, rfl, h⟩ := getS_elim h
  refine iter_of (f51_p8_mk xx.1.1 xx.1.2 xx.2.1 xx.2.2.1 xx.2.2.2.2.2.1) (fun x N h => ?_) rounds _ σ (hs.trans (by kernel_rfl)) (LoopP.run h)
  obtain ⟨y0, y1, y2, y3, y4, y5, y6⟩ := x
  rw [← f51_p8e0 xx.1.1 xx.1.2 xx.2.1 xx.2.2.1 xx.2.2.2.2.2.1 y0 y1 y2 y3 y4 y5 y6 N K]
  exact h
set_option maxHeartbeats 4000000 in
theorem f51_p2_ok : LoopOk f51_C (nthC (bodies (bodyOf Try.f51)) 0) := by
  refine LoopOk.of f51_p2L (by kernel_rfl) fun σ K h => ?_
  have hk : loopKey (nthC (bodies (bodyOf Try.f51)) 0) = 2 := by kernel_rfl
  rw [hk] at h ⊢
  generalize hs : normK f51_C 2 σ = s at h
  obtain ⟨tm, hp⟩ := s
  unfold f51_p2L at h
  dsimp only at h
  obtain ⟨xx, yy, rfl, rfl, h⟩ := getS_elim h
  refine iter_of (f51_p2_mk xx.1.1 xx.1.2 xx.2.1 xx.2.2.1) (fun x N h => ?_) rounds _ σ (hs.trans (by kernel_rfl)) (LoopP.run h)
  obtain ⟨y0, y1, y2, y3, y4, y5, y6⟩ := x
  rw [← f51_p2e0 xx.1.1 xx.1.2 xx.2.1 xx.2.2.1 y0 y1 y2 y3 y4 y5 y6 N K]
  exact h
noncomputable def f51_G0 : List TV → List Entry → (TV → List Entry → Prop) → Prop := fun tm hp K => getS [.v (.one (.ref 0)), .v (.one (.int .i64)), .v (.one (.int .i64)), .v (.clo 36 [] [.ptr 1 0 0])] [.vec 1 true, .box [.ref 2, .int .i64, .int .i64], .vec 3 true] tm hp fun (xx : ((Nat × Nat) × (Int × (Int × ((Unit × (Unit × Unit)) × Unit))))) (yy : ((List (List PC)) × (((Nat × Nat) × (Int × (Int × Unit))) × ((List (List PC)) × Unit)))) => f51 xx.1.1 xx.1.2 xx.2.1 xx.2.2.1 yy.1 yy.2.1.1.1 yy.2.1.1.2 yy.2.1.2.1 yy.2.1.2.2.1 yy.2.2.1 (fun es0_14 i0_15 n0_16 n0_17 n0_18 es0_19 => K undefT [.vec 1 es0_14 true, .box [.ref 2 i0_15 n0_16, .p (pI n0_17), .p (pI n0_18)], .vec 3 es0_19 true])
set_option maxRecDepth 100000 in
theorem f51_eq (i_92 : Nat) (n_93 : Nat) (n_94 : Int) (n_95 : Int) (es_96 : List (List PC)) (i_97 : Nat) (n_98 : Nat) (n_99 : Int) (n_100 : Int) (es_101 : List (List PC)) (K : TV → List Entry → Prop) : (f51_d i_92 n_93 n_94 n_95 es_96 i_97 n_98 n_99 n_100 es_101 (fun es0_14 i0_15 n0_16 n0_17 n0_18 es0_19 => K undefT [.vec 1 es0_14 true, .box [.ref 2 i0_15 n0_16, .p (pI n0_17), .p (pI n0_18)], .vec 3 es0_19 true])) = funcT f51_C Try.f51 [.w (.one (.ref 0 i_92 n_93)), I n_94, I n_95, .w (.one (.clo 36 [] [.ptr 1 0 0]))] [.vec 1 es_96 true, .box [.ref 2 i_97 n_98, .p (pI n_99), .p (pI n_100)], .vec 3 es_101 true] K := by kernel_rfl
set_option maxHeartbeats 4000000 in
theorem f51_ok0 : FnOk Try.prog glob 51 f51_G0 := by
  refine FnOk.of_text (C := f51_C) tab_ok.ok (Known.add f36_G_ok (Known.none)) follows_ok (fn := Try.f51) (by kernel_rfl) (by kernel_rfl) (by kernel_rfl) (fun c hc => ?_) fun tm hp K h => ?_
  · have e : c = bodyOf Try.f51 := Option.some.inj (hc.symm.trans (by kernel_rfl))
    subst e
    exact ⟨LoopsOk.of [nthC (bodies (bodyOf Try.f51)) 0, nthC (bodies (bodyOf Try.f51)) 1] (by kernel_rfl) ⟨f51_p2_ok, f51_p8_ok, trivial⟩, TailsOk.of (tab := f51_tab) rfl [nthC (tails (bodyOf Try.f51)) 5] (by kernel_rfl) ⟨f51_p13_ok, trivial⟩⟩
  · unfold f51_G0 at h
    obtain ⟨xx, yy, rfl, rfl, h⟩ := getS_elim h
    have e := (f51_eq xx.1.1 xx.1.2 xx.2.1 xx.2.2.1 yy.1 yy.2.1.1.1 yy.2.1.1.2 yy.2.1.2.1 yy.2.1.2.2.1 yy.2.2.1 K).trans (show _ = funcT f51_C Try.f51 (mkR _ xx) (mkE _ yy) K by kernel_rfl)
    rw [← e]
    exact h.run
noncomputable abbrev f51_G := f51_G0
theorem f51_G_ok : FnOk Try.prog glob 51 f51_G := f51_ok0
end Go.Eng.N
set_option linter.unusedVariables false
set_option maxRecDepth 100000
open Go Go.Eng Go.Proofs
namespace Go.Eng.N
/-! ### f54: slices.swapRangeCmpFunc(int) -/
noncomputable def f54_p2b0 (i12 : Nat) (n13 : Nat) (n14 : Int) (n15 : Int) (n16 : Int) (n17 : Int) (es18 : List (List PC)) (i19 : Nat) (n20 : Nat) (n21 : Int) (n22 : Int) (es23 : List (List PC)) (N0 : Int → (List (List PC)) → Prop) (k0 : (List (List PC)) → Prop) : Prop := bB (decide (n17 < n16)) ((0 ≤ (w64 (n15 + n17)) ∧ (w64 (n15 + n17)) < ((n13 : Nat) : Int)) ∧ oI .i64 (ext (List.getD es18 (i12 + (Int.toNat (w64 (n15 + n17)))) []) 0 1) fun n24 => (0 ≤ (w64 (n14 + n17)) ∧ (w64 (n14 + n17)) < ((n13 : Nat) : Int)) ∧ oI .i64 (ext (List.getD es18 (i12 + (Int.toNat (w64 (n14 + n17)))) []) 0 1) fun n25 => (0 ≤ (w64 (n14 + n17)) ∧ (w64 (n14 + n17)) < ((n13 : Nat) : Int)) ∧ (i12 + (Int.toNat (w64 (n14 + n17)))) < es18.length ∧ (0 ≤ (w64 (n15 + n17)) ∧ (w64 (n15 + n17)) < ((n13 : Nat) : Int)) ∧ (i12 + (Int.toNat (w64 (n15 + n17)))) < (List.set es18 (i12 + (Int.toNat (w64 (n14 + n17)))) (splice (List.getD es18 (i12 + (Int.toNat (w64 (n14 + n17)))) []) 0 [pI n24])).length ∧ N0 (w64 (n17 + 1)) (List.set (List.set es18 (i12 + (Int.toNat (w64 (n14 + n17)))) (splice (List.getD es18 (i12 + (Int.toNat (w64 (n14 + n17)))) []) 0 [pI n24])) (i12 + (Int.toNat (w64 (n15 + n17)))) (splice (List.getD (List.set es18 (i12 + (Int.toNat (w64 (n14 + n17)))) (splice (List.getD es18 (i12 + (Int.toNat (w64 (n14 + n17)))) []) 0 [pI n24])) (i12 + (Int.toNat (w64 (n15 + n17)))) []) 0 [pI n25]))) (k0 es18)
noncomputable def f54_p2 (i12 : Nat) (n13 : Nat) (n14 : Int) (n15 : Int) (n16 : Int) (i19 : Nat) (n20 : Nat) (n21 : Int) (n22 : Int) (es23 : List (List PC)) (k0 : (List (List PC)) → Prop) : Int × (List (List PC)) → Prop := LoopP fun x N => f54_p2b0 i12 n13 n14 n15 n16 x.1 x.2 i19 n20 n21 n22 es23 (fun n17 es18 => N (n17, es18)) k0
noncomputable def f54_d (i1 : Nat) (n2 : Nat) (n3 : Int) (n4 : Int) (n5 : Int) (es6 : List (List PC)) (i7 : Nat) (n8 : Nat) (n9 : Int) (n10 : Int) (es11 : List (List PC)) (k0 : (List (List PC)) → Nat → Nat → Int → Int → (List (List PC)) → Prop) : Prop := f54_p2 i1 n2 n3 n4 n5 i7 n8 n9 n10 es11 (fun es26 => k0 es26 i7 n8 n9 n10 es11) (0, es6)
structure f54 (i1 : Nat) (n2 : Nat) (n3 : Int) (n4 : Int) (n5 : Int) (es6 : List (List PC)) (i7 : Nat) (n8 : Nat) (n9 : Int) (n10 : Int) (es11 : List (List PC)) (k0 : (List (List PC)) → Nat → Nat → Int → Int → (List (List PC)) → Prop) : Prop where
  run : f54_d i1 n2 n3 n4 n5 es6 i7 n8 n9 n10 es11 k0
noncomputable def f54_p2L : Told := fun s K => match s with
  | ⟨tm, hp⟩ => getS [.v (.one (.ref 0)), .v (.one (.int .i64)), .v (.one (.int .i64)), .v (.one (.int .i64)), .skip 6, .v (.one (.int .i64)), .skip 27] [.vec 1 true, .box [.ref 2, .int .i64, .int .i64], .vec 3 true] tm hp fun (xx : ((Nat × Nat) × (Int × (Int × (Int × (Unit × (Int × (Unit × Unit)))))))) (yy : ((List (List PC)) × (((Nat × Nat) × (Int × (Int × Unit))) × ((List (List PC)) × Unit)))) => f54_p2 xx.1.1 xx.1.2 xx.2.1 xx.2.2.1 xx.2.2.2.1 yy.2.1.1.1 yy.2.1.1.2 yy.2.1.2.1 yy.2.1.2.2.1 yy.2.2.1 (fun es0_0 => K (.exit 0) ⟨mkS 38 [], [.vec 1 es0_0 true, .box [.ref 2 yy.2.1.1.1 yy.2.1.1.2, .p (pI yy.2.1.2.1), .p (pI yy.2.1.2.2.1)], .vec 3 yy.2.2.1 true]⟩) (xx.2.2.2.2.2.1, yy.1)
noncomputable def f54_tab : List (Nat × Told) := [(2, f54_p2L)]
noncomputable def f54_call : FuncId → List TV → List Entry → (TV → List Entry → Prop) → Prop := noCalls
noncomputable def f54_C : Ctx := { ty := tyOf tab, glob := glob, byRef := byRef, keep := fun k i => lookN [] (lookN [] ([(2, [(0, [0, 1, 2, 3, 10]), (2, []), (3, [])])] : List (Nat × List (Nat × List Nat))) k) i, late := lookN [] ([] : List (Nat × List Nat)), nref := lookN [] ([] : List (Nat × List Nat)), nbox := lookN [] ([] : List (Nat × List (Nat × Nat))), take := [], rnil := true, m := 3, fz := false, loops := lookL f54_tab, call := f54_call }
noncomputable def f54_p2_mk (i12 : Nat) (n13 : Nat) (n14 : Int) (n15 : Int) (n16 : Int) (i19 : Nat) (n20 : Nat) (n21 : Int) (n22 : Int) (es23 : List (List PC)) (x : Int × (List (List PC))) : St := ⟨mkS 38 [(0, .w (.one (.ref 0 i12 n13))), (1, I n14), (2, I n15), (3, I n16), (10, I x.1)], [.vec 1 x.2 true, .box [.ref 2 i19 n20, .p (pI n21), .p (pI n22)], .vec 3 es23 true]⟩
set_option maxRecDepth 100000 in
theorem f54_p2e0 (i_19 : Nat) (n_20 : Nat) (n_21 : Int) (n_22 : Int) (n_23 : Int) (n_24 : Int) (es_25 : List (List PC)) (i_26 : Nat) (n_27 : Nat) (n_28 : Int) (n_29 : Int) (es_30 : List (List PC)) (N : St → Prop) (K : TExit → St → Prop) : (f54_p2b0 i_19 n_20 n_21 n_22 n_23 n_24 es_25 i_26 n_27 n_28 n_29 es_30 (fun z5 z6 => N (f54_p2_mk i_19 n_20 n_21 n_22 n_23 i_26 n_27 n_28 n_29 es_30 (z5, z6))) (fun es0_31 => K (.exit 0) ⟨mkS 38 [], [.vec 1 es0_31 true, .box [.ref 2 i_26 n_27, .p (pI n_28), .p (pI n_29)], .vec 3 es_30 true]⟩)) = execT f54_C (nthC (bodies (bodyOf Try.f54)) 0) (f54_p2_mk i_19 n_20 n_21 n_22 n_23 i_26 n_27 n_28 n_29 es_30 (n_24, es_25)) (loopK N (normK f54_C 2) fun e s => K e (normOut f54_C 2 e s)) := by kernel_rfl
set_option maxHeartbeats 4000000 in
theorem f54_p2_ok : LoopOk f54_C (nthC (bodies (bodyOf Try.f54)) 0) := by
  refine LoopOk.of f54_p2L (by kernel_rfl) fun σ K h => ?_
  have hk : loopKey (nthC (bodies (bodyOf Try.f54)) 0) = 2 := by kernel_rfl
  rw [hk] at h ⊢
  generalize hs : normK f54_C 2 σ = s at h
  obtain ⟨tm, hp⟩ := s
  unfold f54_p2L at h
  dsimp only at h
  obtain ⟨xx, yy, rfl, rfl, h⟩ := getS_elim h
  refine iter_of (f54_p2_mk xx.1.1 xx.1.2 xx.2.1 xx.2.2.1 xx.2.2.2.1 yy.2.1.1.1 yy.2.1.1.2 yy.2.1.2.1 yy.2.1.2.2.1 yy.2.2.1) (fun x N h => ?_) rounds _ σ (hs.trans (by kernel_rfl)) (LoopP.run h)
  obtain ⟨y0, y1⟩ := x
  rw [← f54_p2e0 xx.1.1 xx.1.2 xx.2.1 xx.2.2.1 xx.2.2.2.1 y0 y1 yy.2.1.1.1 yy.2.1.1.2 yy.2.1.2.1 yy.2.1.2.2.1 yy.2.2.1 N K]
  exact h
noncomputable def f54_G0 : List TV → List Entry → (TV → List Entry → Prop) → Prop := fun tm hp K => getS [.v (.one (.ref 0)), .v (.one (.int .i64)), .v (.one (.int .i64)), .v (.one (.int .i64)), .v (.clo 36 [] [.ptr 1 0 0])] [.vec 1 true, .box [.ref 2, .int .i64, .int .i64], .vec 3 true] tm hp fun (xx : ((Nat × Nat) × (Int × (Int × (Int × ((Unit × (Unit × Unit)) × Unit)))))) (yy : ((List (List PC)) × (((Nat × Nat) × (Int × (Int × Unit))) × ((List (List PC)) × Unit)))) => f54 xx.1.1 xx.1.2 xx.2.1 xx.2.2.1 xx.2.2.2.1 yy.1 yy.2.1.1.1 yy.2.1.1.2 yy.2.1.2.1 yy.2.1.2.2.1 yy.2.2.1 (fun es0_1 i0_2 n0_3 n0_4 n0_5 es0_6 => K undefT [.vec 1 es0_1 true, .box [.ref 2 i0_2 n0_3, .p (pI n0_4), .p (pI n0_5)], .vec 3 es0_6 true])
set_option maxRecDepth 100000 in
theorem f54_eq (i_32 : Nat) (n_33 : Nat) (n_34 : Int) (n_35 : Int) (n_36 : Int) (es_37 : List (List PC)) (i_38 : Nat) (n_39 : Nat) (n_40 : Int) (n_41 : Int) (es_42 : List (List PC)) (K : TV → List Entry → Prop) : (f54_d i_32 n_33 n_34 n_35 n_36 es_37 i_38 n_39 n_40 n_41 es_42 (fun es0_1 i0_2 n0_3 n0_4 n0_5 es0_6 => K undefT [.vec 1 es0_1 true, .box [.ref 2 i0_2 n0_3, .p (pI n0_4), .p (pI n0_5)], .vec 3 es0_6 true])) = funcT f54_C Try.f54 [.w (.one (.ref 0 i_32 n_33)), I n_34, I n_35, I n_36, .w (.one (.clo 36 [] [.ptr 1 0 0]))] [.vec 1 es_37 true, .box [.ref 2 i_38 n_39, .p (pI n_40), .p (pI n_41)], .vec 3 es_42 true] K := by kernel_rfl
set_option maxHeartbeats 4000000 in
theorem f54_ok0 : FnOk Try.prog glob 54 f54_G0 := by
  refine FnOk.of_text (C := f54_C) tab_ok.ok (Known.none) follows_ok (fn := Try.f54) (by kernel_rfl) (by kernel_rfl) (by kernel_rfl) (fun c hc => ?_) fun tm hp K h => ?_
  · have e : c = bodyOf Try.f54 := Option.some.inj (hc.symm.trans (by kernel_rfl))
    subst e
    exact ⟨LoopsOk.of [nthC (bodies (bodyOf Try.f54)) 0] (by kernel_rfl) ⟨f54_p2_ok, trivial⟩, TailsOk.of (tab := f54_tab) rfl [] (by kernel_rfl) trivial⟩
  · unfold f54_G0 at h
    obtain ⟨xx, yy, rfl, rfl, h⟩ := getS_elim h
    have e := (f54_eq xx.1.1 xx.1.2 xx.2.1 xx.2.2.1 xx.2.2.2.1 yy.1 yy.2.1.1.1 yy.2.1.1.2 yy.2.1.2.1 yy.2.1.2.2.1 yy.2.2.1 K).trans (show _ = funcT f54_C Try.f54 (mkR _ xx) (mkE _ yy) K by kernel_rfl)
    rw [← e]
    exact h.run
noncomputable abbrev f54_G := f54_G0
theorem f54_G_ok : FnOk Try.prog glob 54 f54_G := f54_ok0
end Go.Eng.N
set_option linter.unusedVariables false
set_option maxRecDepth 100000
open Go Go.Eng Go.Proofs
namespace Go.Eng.N
/-! ### f53: slices.rotateCmpFunc(int) -/
noncomputable def f53_p4b0 (i12 : Nat) (n13 : Nat) (n14 : Int) (n15 : Int) (n16 : Int) (es17 : List (List PC)) (i18 : Nat) (n19 : Nat) (n20 : Int) (n21 : Int) (es22 : List (List PC)) (N0 : Int → Int → (List (List PC)) → Nat → Nat → Int → Int → (List (List PC)) → Prop) (k0 : Int → (List (List PC)) → Nat → Nat → Int → Int → (List (List PC)) → Prop) : Prop := bB (n15 != n16) (bB (decide (n15 > n16)) (f54 i12 n13 (w64 (n14 - n15)) n14 n16 es17 i18 n19 n20 n21 es22 (fun es23 i24 n25 n26 n27 es28 => N0 (w64 (n15 - n16)) n16 es23 i24 n25 n26 n27 es28)) (f54 i12 n13 (w64 (n14 - n15)) (w64 ((w64 (n14 + n16)) - n15)) n15 es17 i18 n19 n20 n21 es22 (fun es29 i30 n31 n32 n33 es34 => N0 n15 (w64 (n16 - n15)) es29 i30 n31 n32 n33 es34))) (k0 n15 es17 i18 n19 n20 n21 es22)
noncomputable def f53_p4 (i12 : Nat) (n13 : Nat) (n14 : Int) (k0 : Int → (List (List PC)) → Nat → Nat → Int → Int → (List (List PC)) → Prop) : Int × Int × (List (List PC)) × Nat × Nat × Int × Int × (List (List PC)) → Prop := LoopP fun x N => f53_p4b0 i12 n13 n14 x.1 x.2.1 x.2.2.1 x.2.2.2.1 x.2.2.2.2.1 x.2.2.2.2.2.1 x.2.2.2.2.2.2.1 x.2.2.2.2.2.2.2 (fun n15 n16 es17 i18 n19 n20 n21 es22 => N (n15, n16, es17, i18, n19, n20, n21, es22)) k0
noncomputable def f53_d (i1 : Nat) (n2 : Nat) (n3 : Int) (n4 : Int) (n5 : Int) (es6 : List (List PC)) (i7 : Nat) (n8 : Nat) (n9 : Int) (n10 : Int) (es11 : List (List PC)) (k0 : (List (List PC)) → Nat → Nat → Int → Int → (List (List PC)) → Prop) : Prop := f53_p4 i1 n2 n4 (fun n35 es36 i37 n38 n39 n40 es41 => f54 i1 n2 (w64 (n4 - n35)) n4 n35 es36 i37 n38 n39 n40 es41 (fun es42 i43 n44 n45 n46 es47 => k0 es42 i43 n44 n45 n46 es47)) ((w64 (n4 - n3)), (w64 (n5 - n4)), es6, i7, n8, n9, n10, es11)
structure f53 (i1 : Nat) (n2 : Nat) (n3 : Int) (n4 : Int) (n5 : Int) (es6 : List (List PC)) (i7 : Nat) (n8 : Nat) (n9 : Int) (n10 : Int) (es11 : List (List PC)) (k0 : (List (List PC)) → Nat → Nat → Int → Int → (List (List PC)) → Prop) : Prop where
  run : f53_d i1 n2 n3 n4 n5 es6 i7 n8 n9 n10 es11 k0
noncomputable def f53_p4L : Told := fun s K => match s with
  | ⟨tm, hp⟩ => getS [.v (.one (.ref 0)), .skip 1, .v (.one (.int .i64)), .skip 1, .v (.clo 36 [] [.ptr 1 0 0]), .skip 5, .v (.one (.int .i64)), .v (.one (.int .i64)), .skip 46] [.vec 1 true, .box [.ref 2, .int .i64, .int .i64], .vec 3 true] tm hp fun (xx : ((Nat × Nat) × (Unit × (Int × (Unit × ((Unit × (Unit × Unit)) × (Unit × (Int × (Int × (Unit × Unit)))))))))) (yy : ((List (List PC)) × (((Nat × Nat) × (Int × (Int × Unit))) × ((List (List PC)) × Unit)))) => f53_p4 xx.1.1 xx.1.2 xx.2.2.1 (fun n0_0 es0_1 i0_2 n0_3 n0_4 n0_5 es0_6 => K (.exit 0) ⟨mkS 58 [(0, .w (.one (.ref 0 xx.1.1 xx.1.2))), (2, I xx.2.2.1), (4, .w (.one (.clo 36 [] [.ptr 1 0 0]))), (10, I n0_0)], [.vec 1 es0_1 true, .box [.ref 2 i0_2 n0_3, .p (pI n0_4), .p (pI n0_5)], .vec 3 es0_6 true]⟩) (xx.2.2.2.2.2.2.1, xx.2.2.2.2.2.2.2.1, yy.1, yy.2.1.1.1, yy.2.1.1.2, yy.2.1.2.1, yy.2.1.2.2.1, yy.2.2.1)
noncomputable def f53_tab : List (Nat × Told) := [(4, f53_p4L)]
noncomputable def f53_call : FuncId → List TV → List Entry → (TV → List Entry → Prop) → Prop := addCall 54 f54_G (noCalls)
noncomputable def f53_C : Ctx := { ty := tyOf tab, glob := glob, byRef := byRef, keep := fun k i => lookN [] (lookN [] ([(4, [(0, [0, 2, 4, 10, 11]), (2, []), (3, [0, 2, 4, 10])])] : List (Nat × List (Nat × List Nat))) k) i, late := lookN [] ([] : List (Nat × List Nat)), nref := lookN [] ([] : List (Nat × List Nat)), nbox := lookN [] ([] : List (Nat × List (Nat × Nat))), take := [], rnil := true, m := 3, fz := false, loops := lookL f53_tab, call := f53_call }
noncomputable def f53_p4_mk (i12 : Nat) (n13 : Nat) (n14 : Int) (x : Int × Int × (List (List PC)) × Nat × Nat × Int × Int × (List (List PC))) : St := ⟨mkS 58 [(0, .w (.one (.ref 0 i12 n13))), (2, I n14), (4, .w (.one (.clo 36 [] [.ptr 1 0 0]))), (10, I x.1), (11, I x.2.1)], [.vec 1 x.2.2.1 true, .box [.ref 2 x.2.2.2.1 x.2.2.2.2.1, .p (pI x.2.2.2.2.2.1), .p (pI x.2.2.2.2.2.2.1)], .vec 3 x.2.2.2.2.2.2.2 true]⟩
set_option maxRecDepth 100000 in
theorem f53_p4e0 (i_24 : Nat) (n_25 : Nat) (n_26 : Int) (n_27 : Int) (n_28 : Int) (es_29 : List (List PC)) (i_30 : Nat) (n_31 : Nat) (n_32 : Int) (n_33 : Int) (es_34 : List (List PC)) (N : St → Prop) (K : TExit → St → Prop) : (f53_p4b0 i_24 n_25 n_26 n_27 n_28 es_29 i_30 n_31 n_32 n_33 es_34 (fun z3 z4 z5 z6 z7 z8 z9 z10 => N (f53_p4_mk i_24 n_25 n_26 (z3, z4, z5, z6, z7, z8, z9, z10))) (fun n0_35 es0_36 i0_37 n0_38 n0_39 n0_40 es0_41 => K (.exit 0) ⟨mkS 58 [(0, .w (.one (.ref 0 i_24 n_25))), (2, I n_26), (4, .w (.one (.clo 36 [] [.ptr 1 0 0]))), (10, I n0_35)], [.vec 1 es0_36 true, .box [.ref 2 i0_37 n0_38, .p (pI n0_39), .p (pI n0_40)], .vec 3 es0_41 true]⟩)) = execT f53_C (nthC (bodies (bodyOf Try.f53)) 0) (f53_p4_mk i_24 n_25 n_26 (n_27, n_28, es_29, i_30, n_31, n_32, n_33, es_34)) (loopK N (normK f53_C 4) fun e s => K e (normOut f53_C 4 e s)) := by kernel_rfl
set_option maxHeartbeats 4000000 in
theorem f53_p4_ok : LoopOk f53_C (nthC (bodies (bodyOf Try.f53)) 0) := by
  refine LoopOk.of f53_p4L (by kernel_rfl) fun σ K h => ?_
  have hk : loopKey (nthC (bodies (bodyOf Try.f53)) 0) = 4 := by kernel_rfl
  rw [hk] at h ⊢
  generalize hs : normK f53_C 4 σ = s at h
  obtain ⟨tm, hp⟩ := s
  unfold f53_p4L at h
  dsimp only at h
  obtain ⟨xx, yy, rfl, rfl, h⟩ := getS_elim h
  refine iter_of (f53_p4_mk xx.1.1 xx.1.2 xx.2.2.1) (fun x N h => ?_) rounds _ σ (hs.trans (by kernel_rfl)) (LoopP.run h)
  obtain ⟨y0, y1, y2, y3, y4, y5, y6, y7⟩ := x
  rw [← f53_p4e0 xx.1.1 xx.1.2 xx.2.2.1 y0 y1 y2 y3 y4 y5 y6 y7 N K]
  exact h
noncomputable def f53_G0 : List TV → List Entry → (TV → List Entry → Prop) → Prop := fun tm hp K => getS [.v (.one (.ref 0)), .v (.one (.int .i64)), .v (.one (.int .i64)), .v (.one (.int .i64)), .v (.clo 36 [] [.ptr 1 0 0])] [.vec 1 true, .box [.ref 2, .int .i64, .int .i64], .vec 3 true] tm hp fun (xx : ((Nat × Nat) × (Int × (Int × (Int × ((Unit × (Unit × Unit)) × Unit)))))) (yy : ((List (List PC)) × (((Nat × Nat) × (Int × (Int × Unit))) × ((List (List PC)) × Unit)))) => f53 xx.1.1 xx.1.2 xx.2.1 xx.2.2.1 xx.2.2.2.1 yy.1 yy.2.1.1.1 yy.2.1.1.2 yy.2.1.2.1 yy.2.1.2.2.1 yy.2.2.1 (fun es0_7 i0_8 n0_9 n0_10 n0_11 es0_12 => K undefT [.vec 1 es0_7 true, .box [.ref 2 i0_8 n0_9, .p (pI n0_10), .p (pI n0_11)], .vec 3 es0_12 true])
set_option maxRecDepth 100000 in
theorem f53_eq (i_42 : Nat) (n_43 : Nat) (n_44 : Int) (n_45 : Int) (n_46 : Int) (es_47 : List (List PC)) (i_48 : Nat) (n_49 : Nat) (n_50 : Int) (n_51 : Int) (es_52 : List (List PC)) (K : TV → List Entry → Prop) : (f53_d i_42 n_43 n_44 n_45 n_46 es_47 i_48 n_49 n_50 n_51 es_52 (fun es0_7 i0_8 n0_9 n0_10 n0_11 es0_12 => K undefT [.vec 1 es0_7 true, .box [.ref 2 i0_8 n0_9, .p (pI n0_10), .p (pI n0_11)], .vec 3 es0_12 true])) = funcT f53_C Try.f53 [.w (.one (.ref 0 i_42 n_43)), I n_44, I n_45, I n_46, .w (.one (.clo 36 [] [.ptr 1 0 0]))] [.vec 1 es_47 true, .box [.ref 2 i_48 n_49, .p (pI n_50), .p (pI n_51)], .vec 3 es_52 true] K := by kernel_rfl
set_option maxHeartbeats 4000000 in
theorem f53_ok0 : FnOk Try.prog glob 53 f53_G0 := by
  refine FnOk.of_text (C := f53_C) tab_ok.ok (Known.add f54_G_ok (Known.none)) follows_ok (fn := Try.f53) (by kernel_rfl) (by kernel_rfl) (by kernel_rfl) (fun c hc => ?_) fun tm hp K h => ?_
  · have e : c = bodyOf Try.f53 := Option.some.inj (hc.symm.trans (by kernel_rfl))
    subst e
    exact ⟨LoopsOk.of [nthC (bodies (bodyOf Try.f53)) 0] (by kernel_rfl) ⟨f53_p4_ok, trivial⟩, TailsOk.of (tab := f53_tab) rfl [] (by kernel_rfl) trivial⟩
  · unfold f53_G0 at h
    obtain ⟨xx, yy, rfl, rfl, h⟩ := getS_elim h
    have e := (f53_eq xx.1.1 xx.1.2 xx.2.1 xx.2.2.1 xx.2.2.2.1 yy.1 yy.2.1.1.1 yy.2.1.1.2 yy.2.1.2.1 yy.2.1.2.2.1 yy.2.2.1 K).trans (show _ = funcT f53_C Try.f53 (mkR _ xx) (mkE _ yy) K by kernel_rfl)
    rw [← e]
    exact h.run
noncomputable abbrev f53_G := f53_G0
theorem f53_G_ok : FnOk Try.prog glob 53 f53_G := f53_ok0
end Go.Eng.N
set_option linter.unusedVariables false
set_option maxRecDepth 100000
open Go Go.Eng Go.Proofs
namespace Go.Eng.N
/-! ### f52: slices.symMergeCmpFunc(int) -/
noncomputable abbrev f52_T : Type := Nat → Nat → Int → Int → Int → (List (List PC)) → Nat → Nat → Int → Int → (List (List PC)) → ((List (List PC)) → Nat → Nat → Int → Int → (List (List PC)) → Prop) → Prop
noncomputable def f52_p6b0 (R : f52_T) (i12 : Nat) (n13 : Nat) (n14 : Int) (n15 : Int) (n16 : Int) (es17 : List (List PC)) (i18 : Nat) (n19 : Nat) (n20 : Int) (n21 : Int) (es22 : List (List PC)) (N0 : Int → Int → Nat → Nat → Int → Int → (List (List PC)) → Prop) (k0 : Int → Nat → Nat → Int → Int → (List (List PC)) → Prop) : Prop := bB (decide (n15 < n16)) (0 ≤ (1 : Int) ∧ (0 ≤ (w64 (Int.fdiv (IntKind.wrap .u64 (w64 (n15 + n16))) (2 ^ (min (Int.toNat 1) 64)))) ∧ (w64 (Int.fdiv (IntKind.wrap .u64 (w64 (n15 + n16))) (2 ^ (min (Int.toNat 1) 64)))) < ((n13 : Nat) : Int)) ∧ oI .i64 (ext (List.getD es17 (i12 + (Int.toNat (w64 (Int.fdiv (IntKind.wrap .u64 (w64 (n15 + n16))) (2 ^ (min (Int.toNat 1) 64)))))) []) 0 1) fun n23 => (0 ≤ n14 ∧ n14 < ((n13 : Nat) : Int)) ∧ oI .i64 (ext (List.getD es17 (i12 + (Int.toNat n14)) []) 0 1) fun n24 => f36 n23 n24 i18 n19 n20 n21 es22 (fun n25 i26 n27 n28 n29 es30 => bB (decide (n25 < 0)) (N0 (w64 ((w64 (Int.fdiv (IntKind.wrap .u64 (w64 (n15 + n16))) (2 ^ (min (Int.toNat 1) 64)))) + 1)) n16 i26 n27 n28 n29 es30) (N0 n15 (w64 (Int.fdiv (IntKind.wrap .u64 (w64 (n15 + n16))) (2 ^ (min (Int.toNat 1) 64)))) i26 n27 n28 n29 es30))) (k0 n15 i18 n19 n20 n21 es22)
noncomputable def f52_p6 (R : f52_T) (i12 : Nat) (n13 : Nat) (n14 : Int) (es17 : List (List PC)) (k0 : Int → Nat → Nat → Int → Int → (List (List PC)) → Prop) : Int × Int × Nat × Nat × Int × Int × (List (List PC)) → Prop := LoopP fun x N => (f52_p6b0 R) i12 n13 n14 x.1 x.2.1 es17 x.2.2.1 x.2.2.2.1 x.2.2.2.2.1 x.2.2.2.2.2.1 x.2.2.2.2.2.2 (fun n15 n16 i18 n19 n20 n21 es22 => N (n15, n16, i18, n19, n20, n21, es22)) k0
noncomputable def f52_p18b0 (R : f52_T) (i37 : Nat) (n38 : Nat) (n39 : Int) (n40 : Int) (es41 : List (List PC)) (i42 : Nat) (n43 : Nat) (n44 : Int) (n45 : Int) (es46 : List (List PC)) (N0 : Int → (List (List PC)) → Prop) (k0 : (List (List PC)) → Prop) : Prop := bB (decide (n40 < (w64 (n39 - 1)))) ((0 ≤ (w64 (n40 + 1)) ∧ (w64 (n40 + 1)) < ((n38 : Nat) : Int)) ∧ oI .i64 (ext (List.getD es41 (i37 + (Int.toNat (w64 (n40 + 1)))) []) 0 1) fun n47 => (0 ≤ n40 ∧ n40 < ((n38 : Nat) : Int)) ∧ oI .i64 (ext (List.getD es41 (i37 + (Int.toNat n40)) []) 0 1) fun n48 => (0 ≤ n40 ∧ n40 < ((n38 : Nat) : Int)) ∧ (i37 + (Int.toNat n40)) < es41.length ∧ (0 ≤ (w64 (n40 + 1)) ∧ (w64 (n40 + 1)) < ((n38 : Nat) : Int)) ∧ (i37 + (Int.toNat (w64 (n40 + 1)))) < (List.set es41 (i37 + (Int.toNat n40)) (splice (List.getD es41 (i37 + (Int.toNat n40)) []) 0 [pI n47])).length ∧ N0 (w64 (n40 + 1)) (List.set (List.set es41 (i37 + (Int.toNat n40)) (splice (List.getD es41 (i37 + (Int.toNat n40)) []) 0 [pI n47])) (i37 + (Int.toNat (w64 (n40 + 1)))) (splice (List.getD (List.set es41 (i37 + (Int.toNat n40)) (splice (List.getD es41 (i37 + (Int.toNat n40)) []) 0 [pI n47])) (i37 + (Int.toNat (w64 (n40 + 1)))) []) 0 [pI n48]))) (k0 es41)
noncomputable def f52_p18 (R : f52_T) (i37 : Nat) (n38 : Nat) (n39 : Int) (i42 : Nat) (n43 : Nat) (n44 : Int) (n45 : Int) (es46 : List (List PC)) (k0 : (List (List PC)) → Prop) : Int × (List (List PC)) → Prop := LoopP fun x N => (f52_p18b0 R) i37 n38 n39 x.1 x.2 i42 n43 n44 n45 es46 (fun n40 es41 => N (n40, es41)) k0
noncomputable def f52_p30b0 (R : f52_T) (i50 : Nat) (n51 : Nat) (n52 : Int) (n53 : Int) (n54 : Int) (es55 : List (List PC)) (i56 : Nat) (n57 : Nat) (n58 : Int) (n59 : Int) (es60 : List (List PC)) (N0 : Int → Int → Nat → Nat → Int → Int → (List (List PC)) → Prop) (k0 : Int → Nat → Nat → Int → Int → (List (List PC)) → Prop) : Prop := bB (decide (n53 < n54)) (0 ≤ (1 : Int) ∧ (0 ≤ n52 ∧ n52 < ((n51 : Nat) : Int)) ∧ oI .i64 (ext (List.getD es55 (i50 + (Int.toNat n52)) []) 0 1) fun n61 => (0 ≤ (w64 (Int.fdiv (IntKind.wrap .u64 (w64 (n53 + n54))) (2 ^ (min (Int.toNat 1) 64)))) ∧ (w64 (Int.fdiv (IntKind.wrap .u64 (w64 (n53 + n54))) (2 ^ (min (Int.toNat 1) 64)))) < ((n51 : Nat) : Int)) ∧ oI .i64 (ext (List.getD es55 (i50 + (Int.toNat (w64 (Int.fdiv (IntKind.wrap .u64 (w64 (n53 + n54))) (2 ^ (min (Int.toNat 1) 64)))))) []) 0 1) fun n62 => f36 n61 n62 i56 n57 n58 n59 es60 (fun n63 i64 n65 n66 n67 es68 => bB (!(decide (n63 < 0))) (N0 (w64 ((w64 (Int.fdiv (IntKind.wrap .u64 (w64 (n53 + n54))) (2 ^ (min (Int.toNat 1) 64)))) + 1)) n54 i64 n65 n66 n67 es68) (N0 n53 (w64 (Int.fdiv (IntKind.wrap .u64 (w64 (n53 + n54))) (2 ^ (min (Int.toNat 1) 64)))) i64 n65 n66 n67 es68))) (k0 n53 i56 n57 n58 n59 es60)
noncomputable def f52_p30 (R : f52_T) (i50 : Nat) (n51 : Nat) (n52 : Int) (es55 : List (List PC)) (k0 : Int → Nat → Nat → Int → Int → (List (List PC)) → Prop) : Int × Int × Nat × Nat × Int × Int × (List (List PC)) → Prop := LoopP fun x N => (f52_p30b0 R) i50 n51 n52 x.1 x.2.1 es55 x.2.2.1 x.2.2.2.1 x.2.2.2.2.1 x.2.2.2.2.2.1 x.2.2.2.2.2.2 (fun n53 n54 i56 n57 n58 n59 es60 => N (n53, n54, i56, n57, n58, n59, es60)) k0
noncomputable def f52_p42b0 (R : f52_T) (i75 : Nat) (n76 : Nat) (n77 : Int) (n78 : Int) (es79 : List (List PC)) (i80 : Nat) (n81 : Nat) (n82 : Int) (n83 : Int) (es84 : List (List PC)) (N0 : Int → (List (List PC)) → Prop) (k0 : (List (List PC)) → Prop) : Prop := bB (decide (n78 > n77)) ((0 ≤ (w64 (n78 - 1)) ∧ (w64 (n78 - 1)) < ((n76 : Nat) : Int)) ∧ oI .i64 (ext (List.getD es79 (i75 + (Int.toNat (w64 (n78 - 1)))) []) 0 1) fun n85 => (0 ≤ n78 ∧ n78 < ((n76 : Nat) : Int)) ∧ oI .i64 (ext (List.getD es79 (i75 + (Int.toNat n78)) []) 0 1) fun n86 => (0 ≤ n78 ∧ n78 < ((n76 : Nat) : Int)) ∧ (i75 + (Int.toNat n78)) < es79.length ∧ (0 ≤ (w64 (n78 - 1)) ∧ (w64 (n78 - 1)) < ((n76 : Nat) : Int)) ∧ (i75 + (Int.toNat (w64 (n78 - 1)))) < (List.set es79 (i75 + (Int.toNat n78)) (splice (List.getD es79 (i75 + (Int.toNat n78)) []) 0 [pI n85])).length ∧ N0 (w64 (n78 - 1)) (List.set (List.set es79 (i75 + (Int.toNat n78)) (splice (List.getD es79 (i75 + (Int.toNat n78)) []) 0 [pI n85])) (i75 + (Int.toNat (w64 (n78 - 1)))) (splice (List.getD (List.set es79 (i75 + (Int.toNat n78)) (splice (List.getD es79 (i75 + (Int.toNat n78)) []) 0 [pI n85])) (i75 + (Int.toNat (w64 (n78 - 1)))) []) 0 [pI n86]))) (k0 es79)
noncomputable def f52_p42 (R : f52_T) (i75 : Nat) (n76 : Nat) (n77 : Int) (i80 : Nat) (n81 : Nat) (n82 : Int) (n83 : Int) (es84 : List (List PC)) (k0 : (List (List PC)) → Prop) : Int × (List (List PC)) → Prop := LoopP fun x N => (f52_p42b0 R) i75 n76 n77 x.1 x.2 i80 n81 n82 n83 es84 (fun n78 es79 => N (n78, es79)) k0
noncomputable def f52_p66b0 (R : f52_T) (i103 : Nat) (n104 : Nat) (n105 : Int) (n106 : Int) (n107 : Int) (n108 : Int) (n109 : Int) (n110 : Int) (n111 : Int) (n112 : Int) (es113 : List (List PC)) (i114 : Nat) (n115 : Nat) (n116 : Int) (n117 : Int) (es118 : List (List PC)) (N0 : Int → Int → Nat → Nat → Int → Int → (List (List PC)) → Prop) (k0 : Int → Nat → Nat → Int → Int → (List (List PC)) → Prop) : Prop := bB (decide (n110 < n111)) (0 ≤ (1 : Int) ∧ (0 ≤ (w64 (n112 - (w64 (Int.fdiv (IntKind.wrap .u64 (w64 (n110 + n111))) (2 ^ (min (Int.toNat 1) 64)))))) ∧ (w64 (n112 - (w64 (Int.fdiv (IntKind.wrap .u64 (w64 (n110 + n111))) (2 ^ (min (Int.toNat 1) 64)))))) < ((n104 : Nat) : Int)) ∧ oI .i64 (ext (List.getD es113 (i103 + (Int.toNat (w64 (n112 - (w64 (Int.fdiv (IntKind.wrap .u64 (w64 (n110 + n111))) (2 ^ (min (Int.toNat 1) 64)))))))) []) 0 1) fun n119 => (0 ≤ (w64 (Int.fdiv (IntKind.wrap .u64 (w64 (n110 + n111))) (2 ^ (min (Int.toNat 1) 64)))) ∧ (w64 (Int.fdiv (IntKind.wrap .u64 (w64 (n110 + n111))) (2 ^ (min (Int.toNat 1) 64)))) < ((n104 : Nat) : Int)) ∧ oI .i64 (ext (List.getD es113 (i103 + (Int.toNat (w64 (Int.fdiv (IntKind.wrap .u64 (w64 (n110 + n111))) (2 ^ (min (Int.toNat 1) 64)))))) []) 0 1) fun n120 => f36 n119 n120 i114 n115 n116 n117 es118 (fun n121 i122 n123 n124 n125 es126 => bB (!(decide (n121 < 0))) (N0 (w64 ((w64 (Int.fdiv (IntKind.wrap .u64 (w64 (n110 + n111))) (2 ^ (min (Int.toNat 1) 64)))) + 1)) n111 i122 n123 n124 n125 es126) (N0 n110 (w64 (Int.fdiv (IntKind.wrap .u64 (w64 (n110 + n111))) (2 ^ (min (Int.toNat 1) 64)))) i122 n123 n124 n125 es126))) (k0 n110 i114 n115 n116 n117 es118)
noncomputable def f52_p66 (R : f52_T) (i103 : Nat) (n104 : Nat) (n105 : Int) (n106 : Int) (n107 : Int) (n108 : Int) (n109 : Int) (n112 : Int) (es113 : List (List PC)) (k0 : Int → Nat → Nat → Int → Int → (List (List PC)) → Prop) : Int × Int × Nat × Nat × Int × Int × (List (List PC)) → Prop := LoopP fun x N => (f52_p66b0 R) i103 n104 n105 n106 n107 n108 n109 x.1 x.2.1 n112 es113 x.2.2.1 x.2.2.2.1 x.2.2.2.2.1 x.2.2.2.2.2.1 x.2.2.2.2.2.2 (fun n110 n111 i114 n115 n116 n117 es118 => N (n110, n111, i114, n115, n116, n117, es118)) k0
noncomputable def f52_p87 (R : f52_T) (i158 : Nat) (n159 : Nat) (n160 : Int) (n161 : Int) (n162 : Int) (es163 : List (List PC)) (i164 : Nat) (n165 : Nat) (n166 : Int) (n167 : Int) (es168 : List (List PC)) (k0 : (List (List PC)) → Nat → Nat → Int → Int → (List (List PC)) → Prop) : Prop := bB (decide (n161 < n162)) (bB (decide (n162 < n160)) (R i158 n159 n161 n162 n160 es163 i164 n165 n166 n167 es168 (fun es169 i170 n171 n172 n173 es174 => k0 es169 i170 n171 n172 n173 es174)) (k0 es163 i164 n165 n166 n167 es168)) (k0 es163 i164 n165 n166 n167 es168)
noncomputable def f52_p83 (R : f52_T) (i139 : Nat) (n140 : Nat) (n141 : Int) (n142 : Int) (n143 : Int) (n144 : Int) (n145 : Int) (es146 : List (List PC)) (i147 : Nat) (n148 : Nat) (n149 : Int) (n150 : Int) (es151 : List (List PC)) (k0 : (List (List PC)) → Nat → Nat → Int → Int → (List (List PC)) → Prop) : Prop := bB (decide (n141 < n144)) (bB (decide (n144 < n143)) (R i139 n140 n141 n144 n143 es146 i147 n148 n149 n150 es151 (fun es152 i153 n154 n155 n156 es157 => (f52_p87 R) i139 n140 n142 n143 n145 es152 i153 n154 n155 n156 es157 (fun es175 i176 n177 n178 n179 es180 => k0 es175 i176 n177 n178 n179 es180))) ((f52_p87 R) i139 n140 n142 n143 n145 es146 i147 n148 n149 n150 es151 (fun es181 i182 n183 n184 n185 es186 => k0 es181 i182 n183 n184 n185 es186))) ((f52_p87 R) i139 n140 n142 n143 n145 es146 i147 n148 n149 n150 es151 (fun es187 i188 n189 n190 n191 es192 => k0 es187 i188 n189 n190 n191 es192))
noncomputable def f52_p65 (R : f52_T) (i88 : Nat) (n89 : Nat) (n90 : Int) (n91 : Int) (n92 : Int) (n93 : Int) (n94 : Int) (n95 : Int) (n96 : Int) (es97 : List (List PC)) (i98 : Nat) (n99 : Nat) (n100 : Int) (n101 : Int) (es102 : List (List PC)) (k0 : (List (List PC)) → Nat → Nat → Int → Int → (List (List PC)) → Prop) : Prop := (f52_p66 R) i88 n89 n90 n91 n92 n93 n94 (w64 (n94 - 1)) es97 (fun n127 i128 n129 n130 n131 es132 => bB (decide (n127 < n91)) (bB (decide (n91 < (w64 (n94 - n127)))) (f53 i88 n89 n127 n91 (w64 (n94 - n127)) es97 i128 n129 n130 n131 es132 (fun es133 i134 n135 n136 n137 es138 => (f52_p83 R) i88 n89 n90 n92 n93 n127 (w64 (n94 - n127)) es133 i134 n135 n136 n137 es138 (fun es193 i194 n195 n196 n197 es198 => k0 es193 i194 n195 n196 n197 es198))) ((f52_p83 R) i88 n89 n90 n92 n93 n127 (w64 (n94 - n127)) es97 i128 n129 n130 n131 es132 (fun es199 i200 n201 n202 n203 es204 => k0 es199 i200 n201 n202 n203 es204))) ((f52_p83 R) i88 n89 n90 n92 n93 n127 (w64 (n94 - n127)) es97 i128 n129 n130 n131 es132 (fun es205 i206 n207 n208 n209 es210 => k0 es205 i206 n207 n208 n209 es210))) (n95, n96, i98, n99, n100, n101, es102)
noncomputable def f52_d (R : f52_T) (i1 : Nat) (n2 : Nat) (n3 : Int) (n4 : Int) (n5 : Int) (es6 : List (List PC)) (i7 : Nat) (n8 : Nat) (n9 : Int) (n10 : Int) (es11 : List (List PC)) (k0 : (List (List PC)) → Nat → Nat → Int → Int → (List (List PC)) → Prop) : Prop := bB ((w64 (n4 - n3)) == 1) ((f52_p6 R) i1 n2 n3 es6 (fun n31 i32 n33 n34 n35 es36 => (f52_p18 R) i1 n2 n31 i32 n33 n34 n35 es36 (fun es49 => k0 es49 i32 n33 n34 n35 es36) (n3, es6)) (n4, n5, i7, n8, n9, n10, es11)) (bB ((w64 (n5 - n4)) == 1) ((f52_p30 R) i1 n2 n4 es6 (fun n69 i70 n71 n72 n73 es74 => (f52_p42 R) i1 n2 n69 i70 n71 n72 n73 es74 (fun es87 => k0 es87 i70 n71 n72 n73 es74) (n4, es6)) (n3, n4, i7, n8, n9, n10, es11)) (0 ≤ (1 : Int) ∧ bB (decide (n4 > (w64 (Int.fdiv (IntKind.wrap .u64 (w64 (n3 + n5))) (2 ^ (min (Int.toNat 1) 64)))))) ((f52_p65 R) i1 n2 n3 n4 n5 (w64 (Int.fdiv (IntKind.wrap .u64 (w64 (n3 + n5))) (2 ^ (min (Int.toNat 1) 64)))) (w64 ((w64 (Int.fdiv (IntKind.wrap .u64 (w64 (n3 + n5))) (2 ^ (min (Int.toNat 1) 64)))) + n4)) (w64 ((w64 ((w64 (Int.fdiv (IntKind.wrap .u64 (w64 (n3 + n5))) (2 ^ (min (Int.toNat 1) 64)))) + n4)) - n5)) (w64 (Int.fdiv (IntKind.wrap .u64 (w64 (n3 + n5))) (2 ^ (min (Int.toNat 1) 64)))) es6 i7 n8 n9 n10 es11 (fun es211 i212 n213 n214 n215 es216 => k0 es211 i212 n213 n214 n215 es216)) ((f52_p65 R) i1 n2 n3 n4 n5 (w64 (Int.fdiv (IntKind.wrap .u64 (w64 (n3 + n5))) (2 ^ (min (Int.toNat 1) 64)))) (w64 ((w64 (Int.fdiv (IntKind.wrap .u64 (w64 (n3 + n5))) (2 ^ (min (Int.toNat 1) 64)))) + n4)) n3 n4 es6 i7 n8 n9 n10 es11 (fun es217 i218 n219 n220 n221 es222 => k0 es217 i218 n219 n220 n221 es222))))
noncomputable def f52_n : Nat → f52_T := fun n => Nat.rec (motive := fun _ => f52_T) (fun _ _ _ _ _ _ _ _ _ _ _ _ => False) (fun _ ih => f52_d ih) n
structure f52 (i1 : Nat) (n2 : Nat) (n3 : Int) (n4 : Int) (n5 : Int) (es6 : List (List PC)) (i7 : Nat) (n8 : Nat) (n9 : Int) (n10 : Int) (es11 : List (List PC)) (k0 : (List (List PC)) → Nat → Nat → Int → Int → (List (List PC)) → Prop) : Prop where
  run : ∃ n, f52_n n i1 n2 n3 n4 n5 es6 i7 n8 n9 n10 es11 k0
noncomputable def f52_p6L (R : f52_T) : Told := fun s K => match s with
  | ⟨tm, hp⟩ => getS [.v (.one (.ref 0)), .v (.one (.int .i64)), .skip 2, .v (.clo 36 [] [.ptr 1 0 0]), .skip 5, .v (.one (.int .i64)), .v (.one (.int .i64)), .skip 208] [.vec 1 true, .box [.ref 2, .int .i64, .int .i64], .vec 3 true] tm hp fun (xx : ((Nat × Nat) × (Int × (Unit × ((Unit × (Unit × Unit)) × (Unit × (Int × (Int × (Unit × Unit))))))))) (yy : ((List (List PC)) × (((Nat × Nat) × (Int × (Int × Unit))) × ((List (List PC)) × Unit)))) => (f52_p6 R) xx.1.1 xx.1.2 xx.2.1 yy.1 (fun n0_0 i0_1 n0_2 n0_3 n0_4 es0_5 => K (.exit 0) ⟨mkS 220 [(0, .w (.one (.ref 0 xx.1.1 xx.1.2))), (1, I xx.2.1), (10, I n0_0)], [.vec 1 yy.1 true, .box [.ref 2 i0_1 n0_2, .p (pI n0_3), .p (pI n0_4)], .vec 3 es0_5 true]⟩) (xx.2.2.2.2.2.1, xx.2.2.2.2.2.2.1, yy.2.1.1.1, yy.2.1.1.2, yy.2.1.2.1, yy.2.1.2.2.1, yy.2.2.1)
noncomputable def f52_p18L (R : f52_T) : Told := fun s K => match s with
  | ⟨tm, hp⟩ => getS [.v (.one (.ref 0)), .skip 9, .v (.one (.int .i64)), .skip 2, .v (.one (.int .i64)), .skip 206] [.vec 1 true, .box [.ref 2, .int .i64, .int .i64], .vec 3 true] tm hp fun (xx : ((Nat × Nat) × (Unit × (Int × (Unit × (Int × (Unit × Unit))))))) (yy : ((List (List PC)) × (((Nat × Nat) × (Int × (Int × Unit))) × ((List (List PC)) × Unit)))) => (f52_p18 R) xx.1.1 xx.1.2 xx.2.2.1 yy.2.1.1.1 yy.2.1.1.2 yy.2.1.2.1 yy.2.1.2.2.1 yy.2.2.1 (fun es0_6 => K (.exit 2) ⟨mkS 220 [], [.vec 1 es0_6 true, .box [.ref 2 yy.2.1.1.1 yy.2.1.1.2, .p (pI yy.2.1.2.1), .p (pI yy.2.1.2.2.1)], .vec 3 yy.2.2.1 true]⟩) (xx.2.2.2.2.1, yy.1)
noncomputable def f52_p30L (R : f52_T) : Told := fun s K => match s with
  | ⟨tm, hp⟩ => getS [.v (.one (.ref 0)), .skip 1, .v (.one (.int .i64)), .skip 1, .v (.clo 36 [] [.ptr 1 0 0]), .skip 9, .v (.one (.int .i64)), .v (.one (.int .i64)), .skip 204] [.vec 1 true, .box [.ref 2, .int .i64, .int .i64], .vec 3 true] tm hp fun (xx : ((Nat × Nat) × (Unit × (Int × (Unit × ((Unit × (Unit × Unit)) × (Unit × (Int × (Int × (Unit × Unit)))))))))) (yy : ((List (List PC)) × (((Nat × Nat) × (Int × (Int × Unit))) × ((List (List PC)) × Unit)))) => (f52_p30 R) xx.1.1 xx.1.2 xx.2.2.1 yy.1 (fun n0_7 i0_8 n0_9 n0_10 n0_11 es0_12 => K (.exit 4) ⟨mkS 220 [(0, .w (.one (.ref 0 xx.1.1 xx.1.2))), (2, I xx.2.2.1), (14, I n0_7)], [.vec 1 yy.1 true, .box [.ref 2 i0_8 n0_9, .p (pI n0_10), .p (pI n0_11)], .vec 3 es0_12 true]⟩) (xx.2.2.2.2.2.2.1, xx.2.2.2.2.2.2.2.1, yy.2.1.1.1, yy.2.1.1.2, yy.2.1.2.1, yy.2.1.2.2.1, yy.2.2.1)
noncomputable def f52_p42L (R : f52_T) : Told := fun s K => match s with
  | ⟨tm, hp⟩ => getS [.v (.one (.ref 0)), .skip 13, .v (.one (.int .i64)), .skip 2, .v (.one (.int .i64)), .skip 202] [.vec 1 true, .box [.ref 2, .int .i64, .int .i64], .vec 3 true] tm hp fun (xx : ((Nat × Nat) × (Unit × (Int × (Unit × (Int × (Unit × Unit))))))) (yy : ((List (List PC)) × (((Nat × Nat) × (Int × (Int × Unit))) × ((List (List PC)) × Unit)))) => (f52_p42 R) xx.1.1 xx.1.2 xx.2.2.1 yy.2.1.1.1 yy.2.1.1.2 yy.2.1.2.1 yy.2.1.2.2.1 yy.2.2.1 (fun es0_13 => K (.exit 6) ⟨mkS 220 [], [.vec 1 es0_13 true, .box [.ref 2 yy.2.1.1.1 yy.2.1.1.2, .p (pI yy.2.1.2.1), .p (pI yy.2.1.2.2.1)], .vec 3 yy.2.2.1 true]⟩) (xx.2.2.2.2.1, yy.1)
noncomputable def f52_p66L (R : f52_T) : Told := fun s K => match s with
  | ⟨tm, hp⟩ => getS [.v (.one (.ref 0)), .v (.one (.int .i64)), .v (.one (.int .i64)), .v (.one (.int .i64)), .v (.clo 36 [] [.ptr 1 0 0]), .skip 13, .v (.one (.int .i64)), .v (.one (.int .i64)), .v (.one (.int .i64)), .v (.one (.int .i64)), .v (.one (.int .i64)), .skip 197] [.vec 1 true, .box [.ref 2, .int .i64, .int .i64], .vec 3 true] tm hp fun (xx : ((Nat × Nat) × (Int × (Int × (Int × ((Unit × (Unit × Unit)) × (Unit × (Int × (Int × (Int × (Int × (Int × (Unit × Unit))))))))))))) (yy : ((List (List PC)) × (((Nat × Nat) × (Int × (Int × Unit))) × ((List (List PC)) × Unit)))) => (f52_p66 R) xx.1.1 xx.1.2 xx.2.1 xx.2.2.1 xx.2.2.2.1 xx.2.2.2.2.2.2.1 xx.2.2.2.2.2.2.2.1 xx.2.2.2.2.2.2.2.2.2.2.1 yy.1 (fun n0_14 i0_15 n0_16 n0_17 n0_18 es0_19 => K (.exit 8) ⟨mkS 220 [(0, .w (.one (.ref 0 xx.1.1 xx.1.2))), (1, I xx.2.1), (2, I xx.2.2.1), (3, I xx.2.2.2.1), (4, .w (.one (.clo 36 [] [.ptr 1 0 0]))), (18, I xx.2.2.2.2.2.2.1), (19, I xx.2.2.2.2.2.2.2.1), (20, I n0_14)], [.vec 1 yy.1 true, .box [.ref 2 i0_15 n0_16, .p (pI n0_17), .p (pI n0_18)], .vec 3 es0_19 true]⟩) (xx.2.2.2.2.2.2.2.2.1, xx.2.2.2.2.2.2.2.2.2.1, yy.2.1.1.1, yy.2.1.1.2, yy.2.1.2.1, yy.2.1.2.2.1, yy.2.2.1)
noncomputable def f52_p87L (R : f52_T) : Told := fun s K => match s with
  | ⟨tm, hp⟩ => getS [.v (.one (.ref 0)), .skip 2, .v (.one (.int .i64)), .v (.clo 36 [] [.ptr 1 0 0]), .skip 13, .v (.one (.int .i64)), .skip 5, .v (.one (.int .i64)), .skip 195] [.vec 1 true, .box [.ref 2, .int .i64, .int .i64], .vec 3 true] tm hp fun (xx : ((Nat × Nat) × (Unit × (Int × ((Unit × (Unit × Unit)) × (Unit × (Int × (Unit × (Int × (Unit × Unit)))))))))) (yy : ((List (List PC)) × (((Nat × Nat) × (Int × (Int × Unit))) × ((List (List PC)) × Unit)))) => (f52_p87 R) xx.1.1 xx.1.2 xx.2.2.1 xx.2.2.2.2.2.1 xx.2.2.2.2.2.2.2.1 yy.1 yy.2.1.1.1 yy.2.1.1.2 yy.2.1.2.1 yy.2.1.2.2.1 yy.2.2.1 (fun es0_20 i0_21 n0_22 n0_23 n0_24 es0_25 => K .normal ⟨mkS 220 [], [.vec 1 es0_20 true, .box [.ref 2 i0_21 n0_22, .p (pI n0_23), .p (pI n0_24)], .vec 3 es0_25 true]⟩)
noncomputable def f52_p83L (R : f52_T) : Told := fun s K => match s with
  | ⟨tm, hp⟩ => getS [.v (.one (.ref 0)), .v (.one (.int .i64)), .skip 1, .v (.one (.int .i64)), .v (.clo 36 [] [.ptr 1 0 0]), .skip 13, .v (.one (.int .i64)), .skip 1, .v (.one (.int .i64)), .skip 3, .v (.one (.int .i64)), .skip 195] [.vec 1 true, .box [.ref 2, .int .i64, .int .i64], .vec 3 true] tm hp fun (xx : ((Nat × Nat) × (Int × (Unit × (Int × ((Unit × (Unit × Unit)) × (Unit × (Int × (Unit × (Int × (Unit × (Int × (Unit × Unit))))))))))))) (yy : ((List (List PC)) × (((Nat × Nat) × (Int × (Int × Unit))) × ((List (List PC)) × Unit)))) => (f52_p83 R) xx.1.1 xx.1.2 xx.2.1 xx.2.2.2.1 xx.2.2.2.2.2.2.1 xx.2.2.2.2.2.2.2.2.1 xx.2.2.2.2.2.2.2.2.2.2.1 yy.1 yy.2.1.1.1 yy.2.1.1.2 yy.2.1.2.1 yy.2.1.2.2.1 yy.2.2.1 (fun es0_26 i0_27 n0_28 n0_29 n0_30 es0_31 => K .normal ⟨mkS 220 [], [.vec 1 es0_26 true, .box [.ref 2 i0_27 n0_28, .p (pI n0_29), .p (pI n0_30)], .vec 3 es0_31 true]⟩)
noncomputable def f52_p65L (R : f52_T) : Told := fun s K => match s with
  | ⟨tm, hp⟩ => getS [.v (.one (.ref 0)), .v (.one (.int .i64)), .v (.one (.int .i64)), .v (.one (.int .i64)), .v (.clo 36 [] [.ptr 1 0 0]), .skip 13, .v (.one (.int .i64)), .v (.one (.int .i64)), .v (.one (.int .i64)), .v (.one (.int .i64)), .skip 198] [.vec 1 true, .box [.ref 2, .int .i64, .int .i64], .vec 3 true] tm hp fun (xx : ((Nat × Nat) × (Int × (Int × (Int × ((Unit × (Unit × Unit)) × (Unit × (Int × (Int × (Int × (Int × (Unit × Unit)))))))))))) (yy : ((List (List PC)) × (((Nat × Nat) × (Int × (Int × Unit))) × ((List (List PC)) × Unit)))) => (f52_p65 R) xx.1.1 xx.1.2 xx.2.1 xx.2.2.1 xx.2.2.2.1 xx.2.2.2.2.2.2.1 xx.2.2.2.2.2.2.2.1 xx.2.2.2.2.2.2.2.2.1 xx.2.2.2.2.2.2.2.2.2.1 yy.1 yy.2.1.1.1 yy.2.1.1.2 yy.2.1.2.1 yy.2.1.2.2.1 yy.2.2.1 (fun es0_32 i0_33 n0_34 n0_35 n0_36 es0_37 => K .normal ⟨mkS 220 [], [.vec 1 es0_32 true, .box [.ref 2 i0_33 n0_34, .p (pI n0_35), .p (pI n0_36)], .vec 3 es0_37 true]⟩)
noncomputable def f52_tab (R : f52_T) : List (Nat × Told) := [(6, (f52_p6L R)), (18, (f52_p18L R)), (30, (f52_p30L R)), (42, (f52_p42L R)), (66, (f52_p66L R)), (87, (f52_p87L R)), (83, (f52_p83L R)), (65, (f52_p65L R))]
noncomputable def f52_GR (R : f52_T) : List TV → List Entry → (TV → List Entry → Prop) → Prop := fun tm hp K => getS [.v (.one (.ref 0)), .v (.one (.int .i64)), .v (.one (.int .i64)), .v (.one (.int .i64)), .v (.clo 36 [] [.ptr 1 0 0])] [.vec 1 true, .box [.ref 2, .int .i64, .int .i64], .vec 3 true] tm hp fun (xx : ((Nat × Nat) × (Int × (Int × (Int × ((Unit × (Unit × Unit)) × Unit)))))) (yy : ((List (List PC)) × (((Nat × Nat) × (Int × (Int × Unit))) × ((List (List PC)) × Unit)))) => R xx.1.1 xx.1.2 xx.2.1 xx.2.2.1 xx.2.2.2.1 yy.1 yy.2.1.1.1 yy.2.1.1.2 yy.2.1.2.1 yy.2.1.2.2.1 yy.2.2.1 (fun es0_38 i0_39 n0_40 n0_41 n0_42 es0_43 => K undefT [.vec 1 es0_38 true, .box [.ref 2 i0_39 n0_40, .p (pI n0_41), .p (pI n0_42)], .vec 3 es0_43 true])
noncomputable def f52_call (R : f52_T) : FuncId → List TV → List Entry → (TV → List Entry → Prop) → Prop := addCall 52 (f52_GR R) (addCall 53 f53_G (addCall 36 f36_G (noCalls)))
noncomputable def f52_C (R : f52_T) : Ctx := { ty := tyOf tab, glob := glob, byRef := byRef, keep := fun k i => lookN [] (lookN [] ([(6, [(0, [0, 1, 4, 10, 11]), (2, []), (3, [0, 1, 10])]), (18, [(0, [0, 10, 13]), (2, []), (5, [])]), (30, [(0, [0, 2, 4, 14, 15]), (2, []), (7, [0, 2, 14])]), (42, [(0, [0, 14, 17]), (2, []), (9, [])]), (66, [(0, [0, 1, 2, 3, 4, 18, 19, 20, 21, 22]), (2, []), (11, [0, 1, 2, 3, 4, 18, 19, 20])]), (87, [(0, [0, 3, 4, 18, 24]), (1, []), (2, [])]), (83, [(0, [0, 1, 3, 4, 18, 20, 24]), (1, []), (2, [])]), (65, [(0, [0, 1, 2, 3, 4, 18, 19, 20, 21]), (1, []), (2, [])])] : List (Nat × List (Nat × List Nat))) k) i, late := lookN [] ([] : List (Nat × List Nat)), nref := lookN [] ([] : List (Nat × List Nat)), nbox := lookN [] ([] : List (Nat × List (Nat × Nat))), take := [], rnil := true, m := 3, fz := false, loops := lookL (f52_tab R), call := (f52_call R) }
noncomputable def f52_p6_mk (i12 : Nat) (n13 : Nat) (n14 : Int) (es17 : List (List PC)) (x : Int × Int × Nat × Nat × Int × Int × (List (List PC))) : St := ⟨mkS 220 [(0, .w (.one (.ref 0 i12 n13))), (1, I n14), (4, .w (.one (.clo 36 [] [.ptr 1 0 0]))), (10, I x.1), (11, I x.2.1)], [.vec 1 es17 true, .box [.ref 2 x.2.2.1 x.2.2.2.1, .p (pI x.2.2.2.2.1), .p (pI x.2.2.2.2.2.1)], .vec 3 x.2.2.2.2.2.2 true]⟩
set_option maxRecDepth 100000 in
theorem f52_p6e0 (R : f52_T) (i_55 : Nat) (n_56 : Nat) (n_57 : Int) (n_58 : Int) (n_59 : Int) (es_60 : List (List PC)) (i_61 : Nat) (n_62 : Nat) (n_63 : Int) (n_64 : Int) (es_65 : List (List PC)) (N : St → Prop) (K : TExit → St → Prop) : ((f52_p6b0 R) i_55 n_56 n_57 n_58 n_59 es_60 i_61 n_62 n_63 n_64 es_65 (fun z3 z4 z6 z7 z8 z9 z10 => N (f52_p6_mk i_55 n_56 n_57 es_60 (z3, z4, z6, z7, z8, z9, z10))) (fun n0_66 i0_67 n0_68 n0_69 n0_70 es0_71 => K (.exit 0) ⟨mkS 220 [(0, .w (.one (.ref 0 i_55 n_56))), (1, I n_57), (10, I n0_66)], [.vec 1 es_60 true, .box [.ref 2 i0_67 n0_68, .p (pI n0_69), .p (pI n0_70)], .vec 3 es0_71 true]⟩)) = execT (f52_C R) (nthC (bodies (bodyOf Try.f52)) 0) (f52_p6_mk i_55 n_56 n_57 es_60 (n_58, n_59, i_61, n_62, n_63, n_64, es_65)) (loopK N (normK (f52_C R) 6) fun e s => K e (normOut (f52_C R) 6 e s)) := by kernel_rfl
noncomputable def f52_p18_mk (i37 : Nat) (n38 : Nat) (n39 : Int) (i42 : Nat) (n43 : Nat) (n44 : Int) (n45 : Int) (es46 : List (List PC)) (x : Int × (List (List PC))) : St := ⟨mkS 220 [(0, .w (.one (.ref 0 i37 n38))), (10, I n39), (13, I x.1)], [.vec 1 x.2 true, .box [.ref 2 i42 n43, .p (pI n44), .p (pI n45)], .vec 3 es46 true]⟩
set_option maxRecDepth 100000 in
theorem f52_p18e0 (R : f52_T) (i_82 : Nat) (n_83 : Nat) (n_84 : Int) (n_85 : Int) (es_86 : List (List PC)) (i_87 : Nat) (n_88 : Nat) (n_89 : Int) (n_90 : Int) (es_91 : List (List PC)) (N : St → Prop) (K : TExit → St → Prop) : ((f52_p18b0 R) i_82 n_83 n_84 n_85 es_86 i_87 n_88 n_89 n_90 es_91 (fun z3 z4 => N (f52_p18_mk i_82 n_83 n_84 i_87 n_88 n_89 n_90 es_91 (z3, z4))) (fun es0_92 => K (.exit 2) ⟨mkS 220 [], [.vec 1 es0_92 true, .box [.ref 2 i_87 n_88, .p (pI n_89), .p (pI n_90)], .vec 3 es_91 true]⟩)) = execT (f52_C R) (nthC (bodies (bodyOf Try.f52)) 1) (f52_p18_mk i_82 n_83 n_84 i_87 n_88 n_89 n_90 es_91 (n_85, es_86)) (loopK N (normK (f52_C R) 18) fun e s => K e (normOut (f52_C R) 18 e s)) := by kernel_rfl
noncomputable def f52_p30_mk (i50 : Nat) (n51 : Nat) (n52 : Int) (es55 : List (List PC)) (x : Int × Int × Nat × Nat × Int × Int × (List (List PC))) : St := ⟨mkS 220 [(0, .w (.one (.ref 0 i50 n51))), (2, I n52), (4, .w (.one (.clo 36 [] [.ptr 1 0 0]))), (14, I x.1), (15, I x.2.1)], [.vec 1 es55 true, .box [.ref 2 x.2.2.1 x.2.2.2.1, .p (pI x.2.2.2.2.1), .p (pI x.2.2.2.2.2.1)], .vec 3 x.2.2.2.2.2.2 true]⟩
set_option maxRecDepth 100000 in
theorem f52_p30e0 (R : f52_T) (i_104 : Nat) (n_105 : Nat) (n_106 : Int) (n_107 : Int) (n_108 : Int) (es_109 : List (List PC)) (i_110 : Nat) (n_111 : Nat) (n_112 : Int) (n_113 : Int) (es_114 : List (List PC)) (N : St → Prop) (K : TExit → St → Prop) : ((f52_p30b0 R) i_104 n_105 n_106 n_107 n_108 es_109 i_110 n_111 n_112 n_113 es_114 (fun z3 z4 z6 z7 z8 z9 z10 => N (f52_p30_mk i_104 n_105 n_106 es_109 (z3, z4, z6, z7, z8, z9, z10))) (fun n0_115 i0_116 n0_117 n0_118 n0_119 es0_120 => K (.exit 4) ⟨mkS 220 [(0, .w (.one (.ref 0 i_104 n_105))), (2, I n_106), (14, I n0_115)], [.vec 1 es_109 true, .box [.ref 2 i0_116 n0_117, .p (pI n0_118), .p (pI n0_119)], .vec 3 es0_120 true]⟩)) = execT (f52_C R) (nthC (bodies (bodyOf Try.f52)) 2) (f52_p30_mk i_104 n_105 n_106 es_109 (n_107, n_108, i_110, n_111, n_112, n_113, es_114)) (loopK N (normK (f52_C R) 30) fun e s => K e (normOut (f52_C R) 30 e s)) := by kernel_rfl
noncomputable def f52_p42_mk (i75 : Nat) (n76 : Nat) (n77 : Int) (i80 : Nat) (n81 : Nat) (n82 : Int) (n83 : Int) (es84 : List (List PC)) (x : Int × (List (List PC))) : St := ⟨mkS 220 [(0, .w (.one (.ref 0 i75 n76))), (14, I n77), (17, I x.1)], [.vec 1 x.2 true, .box [.ref 2 i80 n81, .p (pI n82), .p (pI n83)], .vec 3 es84 true]⟩
set_option maxRecDepth 100000 in
theorem f52_p42e0 (R : f52_T) (i_131 : Nat) (n_132 : Nat) (n_133 : Int) (n_134 : Int) (es_135 : List (List PC)) (i_136 : Nat) (n_137 : Nat) (n_138 : Int) (n_139 : Int) (es_140 : List (List PC)) (N : St → Prop) (K : TExit → St → Prop) : ((f52_p42b0 R) i_131 n_132 n_133 n_134 es_135 i_136 n_137 n_138 n_139 es_140 (fun z3 z4 => N (f52_p42_mk i_131 n_132 n_133 i_136 n_137 n_138 n_139 es_140 (z3, z4))) (fun es0_141 => K (.exit 6) ⟨mkS 220 [], [.vec 1 es0_141 true, .box [.ref 2 i_136 n_137, .p (pI n_138), .p (pI n_139)], .vec 3 es_140 true]⟩)) = execT (f52_C R) (nthC (bodies (bodyOf Try.f52)) 3) (f52_p42_mk i_131 n_132 n_133 i_136 n_137 n_138 n_139 es_140 (n_134, es_135)) (loopK N (normK (f52_C R) 42) fun e s => K e (normOut (f52_C R) 42 e s)) := by kernel_rfl
noncomputable def f52_p66_mk (i103 : Nat) (n104 : Nat) (n105 : Int) (n106 : Int) (n107 : Int) (n108 : Int) (n109 : Int) (n112 : Int) (es113 : List (List PC)) (x : Int × Int × Nat × Nat × Int × Int × (List (List PC))) : St := ⟨mkS 220 [(0, .w (.one (.ref 0 i103 n104))), (1, I n105), (2, I n106), (3, I n107), (4, .w (.one (.clo 36 [] [.ptr 1 0 0]))), (18, I n108), (19, I n109), (20, I x.1), (21, I x.2.1), (22, I n112)], [.vec 1 es113 true, .box [.ref 2 x.2.2.1 x.2.2.2.1, .p (pI x.2.2.2.2.1), .p (pI x.2.2.2.2.2.1)], .vec 3 x.2.2.2.2.2.2 true]⟩
set_option maxRecDepth 100000 in
theorem f52_p66e0 (R : f52_T) (i_158 : Nat) (n_159 : Nat) (n_160 : Int) (n_161 : Int) (n_162 : Int) (n_163 : Int) (n_164 : Int) (n_165 : Int) (n_166 : Int) (n_167 : Int) (es_168 : List (List PC)) (i_169 : Nat) (n_170 : Nat) (n_171 : Int) (n_172 : Int) (es_173 : List (List PC)) (N : St → Prop) (K : TExit → St → Prop) : ((f52_p66b0 R) i_158 n_159 n_160 n_161 n_162 n_163 n_164 n_165 n_166 n_167 es_168 i_169 n_170 n_171 n_172 es_173 (fun z7 z8 z11 z12 z13 z14 z15 => N (f52_p66_mk i_158 n_159 n_160 n_161 n_162 n_163 n_164 n_167 es_168 (z7, z8, z11, z12, z13, z14, z15))) (fun n0_174 i0_175 n0_176 n0_177 n0_178 es0_179 => K (.exit 8) ⟨mkS 220 [(0, .w (.one (.ref 0 i_158 n_159))), (1, I n_160), (2, I n_161), (3, I n_162), (4, .w (.one (.clo 36 [] [.ptr 1 0 0]))), (18, I n_163), (19, I n_164), (20, I n0_174)], [.vec 1 es_168 true, .box [.ref 2 i0_175 n0_176, .p (pI n0_177), .p (pI n0_178)], .vec 3 es0_179 true]⟩)) = execT (f52_C R) (nthC (bodies (bodyOf Try.f52)) 4) (f52_p66_mk i_158 n_159 n_160 n_161 n_162 n_163 n_164 n_167 es_168 (n_165, n_166, i_169, n_170, n_171, n_172, es_173)) (loopK N (normK (f52_C R) 66) fun e s => K e (normOut (f52_C R) 66 e s)) := by kernel_rfl
set_option maxRecDepth 100000 in
theorem f52_p87e0 (R : f52_T) (i_180 : Nat) (n_181 : Nat) (n_182 : Int) (n_183 : Int) (n_184 : Int) (es_185 : List (List PC)) (i_186 : Nat) (n_187 : Nat) (n_188 : Int) (n_189 : Int) (es_190 : List (List PC)) (K : TExit → St → Prop) : ((f52_p87 R) i_180 n_181 n_182 n_183 n_184 es_185 i_186 n_187 n_188 n_189 es_190 (fun es0_191 i0_192 n0_193 n0_194 n0_195 es0_196 => K .normal ⟨mkS 220 [], [.vec 1 es0_191 true, .box [.ref 2 i0_192 n0_193, .p (pI n0_194), .p (pI n0_195)], .vec 3 es0_196 true]⟩)) = execT (f52_C R) (nthC (tails (bodyOf Try.f52)) 44) ⟨mkS 220 [(0, .w (.one (.ref 0 i_180 n_181))), (3, I n_182), (4, .w (.one (.clo 36 [] [.ptr 1 0 0]))), (18, I n_183), (24, I n_184)], [.vec 1 es_185 true, .box [.ref 2 i_186 n_187, .p (pI n_188), .p (pI n_189)], .vec 3 es_190 true]⟩ (fun e s => K e (normOut (f52_C R) 87 e s)) := by kernel_rfl
set_option maxRecDepth 100000 in
theorem f52_p83e0 (R : f52_T) (i_197 : Nat) (n_198 : Nat) (n_199 : Int) (n_200 : Int) (n_201 : Int) (n_202 : Int) (n_203 : Int) (es_204 : List (List PC)) (i_205 : Nat) (n_206 : Nat) (n_207 : Int) (n_208 : Int) (es_209 : List (List PC)) (K : TExit → St → Prop) : ((f52_p83 R) i_197 n_198 n_199 n_200 n_201 n_202 n_203 es_204 i_205 n_206 n_207 n_208 es_209 (fun es0_210 i0_211 n0_212 n0_213 n0_214 es0_215 => K .normal ⟨mkS 220 [], [.vec 1 es0_210 true, .box [.ref 2 i0_211 n0_212, .p (pI n0_213), .p (pI n0_214)], .vec 3 es0_215 true]⟩)) = execT (f52_C R) (nthC (tails (bodyOf Try.f52)) 42) ⟨mkS 220 [(0, .w (.one (.ref 0 i_197 n_198))), (1, I n_199), (3, I n_200), (4, .w (.one (.clo 36 [] [.ptr 1 0 0]))), (18, I n_201), (20, I n_202), (24, I n_203)], [.vec 1 es_204 true, .box [.ref 2 i_205 n_206, .p (pI n_207), .p (pI n_208)], .vec 3 es_209 true]⟩ (fun e s => K e (normOut (f52_C R) 83 e s)) := by kernel_rfl
set_option maxRecDepth 100000 in
theorem f52_p65e0 (R : f52_T) (i_216 : Nat) (n_217 : Nat) (n_218 : Int) (n_219 : Int) (n_220 : Int) (n_221 : Int) (n_222 : Int) (n_223 : Int) (n_224 : Int) (es_225 : List (List PC)) (i_226 : Nat) (n_227 : Nat) (n_228 : Int) (n_229 : Int) (es_230 : List (List PC)) (K : TExit → St → Prop) : ((f52_p65 R) i_216 n_217 n_218 n_219 n_220 n_221 n_222 n_223 n_224 es_225 i_226 n_227 n_228 n_229 es_230 (fun es0_231 i0_232 n0_233 n0_234 n0_235 es0_236 => K .normal ⟨mkS 220 [], [.vec 1 es0_231 true, .box [.ref 2 i0_232 n0_233, .p (pI n0_234), .p (pI n0_235)], .vec 3 es0_236 true]⟩)) = execT (f52_C R) (nthC (tails (bodyOf Try.f52)) 31) ⟨mkS 220 [(0, .w (.one (.ref 0 i_216 n_217))), (1, I n_218), (2, I n_219), (3, I n_220), (4, .w (.one (.clo 36 [] [.ptr 1 0 0]))), (18, I n_221), (19, I n_222), (20, I n_223), (21, I n_224)], [.vec 1 es_225 true, .box [.ref 2 i_226 n_227, .p (pI n_228), .p (pI n_229)], .vec 3 es_230 true]⟩ (fun e s => K e (normOut (f52_C R) 65 e s)) := by kernel_rfl
set_option maxHeartbeats 4000000 in
theorem f52_p6_ok (R : f52_T) : LoopOk (f52_C R) (nthC (bodies (bodyOf Try.f52)) 0) := by
  refine LoopOk.of (f52_p6L R) (by kernel_rfl) fun σ K h => ?_
  have hk : loopKey (nthC (bodies (bodyOf Try.f52)) 0) = 6 := by kernel_rfl
  rw [hk] at h ⊢
  generalize hs : normK (f52_C R) 6 σ = s at h
  obtain ⟨tm, hp⟩ := s
  unfold f52_p6L at h
  dsimp only at h
  obtain ⟨xx, yy, rfl, rfl, h⟩ := getS_elim h
  refine iter_of (f52_p6_mk xx.1.1 xx.1.2 xx.2.1 yy.1) (fun x N h => ?_) rounds _ σ (hs.trans (by kernel_rfl)) (LoopP.run h)
  obtain ⟨y0, y1, y2, y3, y4, y5, y6⟩ := x
  rw [← (f52_p6e0 R) xx.1.1 xx.1.2 xx.2.1 y0 y1 yy.1 y2 y3 y4 y5 y6 N K]
  exact h
set_option maxHeartbeats 4000000 in
theorem f52_p18_ok (R : f52_T) : LoopOk (f52_C R) (nthC (bodies (bodyOf Try.f52)) 1) := by
  refine LoopOk.of (f52_p18L R) (by kernel_rfl) fun σ K h => ?_
  have hk : loopKey (nthC (bodies (bodyOf Try.f52)) 1) = 18 := by kernel_rfl
  rw [hk] at h ⊢
  generalize hs : normK (f52_C R) 18 σ = s at h
  obtain ⟨tm, hp⟩ := s
  unfold f52_p18L at h
  dsimp only at h
  obtain ⟨xx, yy, rfl, rfl, h⟩ := getS_elim h
  refine iter_of (f52_p18_mk xx.1.1 xx.1.2 xx.2.2.1 yy.2.1.1.1 yy.2.1.1.2 yy.2.1.2.1 yy.2.1.2.2.1 yy.2.2.1) (fun x N h => ?_) rounds _ σ (hs.trans (by kernel_rfl)) (LoopP.run h)
  obtain ⟨y0, y1⟩ := x
  rw [← (f52_p18e0 R) xx.1.1 xx.1.2 xx.2.2.1 y0 y1 yy.2.1.1.1 yy.2.1.1.2 yy.2.1.2.1 yy.2.1.2.2.1 yy.2.2.1 N K]
  exact h
set_option maxHeartbeats 4000000 in
theorem f52_p30_ok (R : f52_T) : LoopOk (f52_C R) (nthC (bodies (bodyOf Try.f52)) 2) := by
  refine LoopOk.of (f52_p30L R) (by kernel_rfl) fun σ K h => ?_
  have hk : loopKey (nthC (bodies (bodyOf Try.f52)) 2) = 30 := by kernel_rfl
  rw [hk] at h ⊢
  generalize hs : normK (f52_C R) 30 σ = s at h
  obtain ⟨tm, hp⟩ := s
  unfold f52_p30L at h
  dsimp only at h
  obtain ⟨xx, yy, rfl, rfl, h⟩ := getS_elim h
  refine iter_of (f52_p30_mk xx.1.1 xx.1.2 xx.2.2.1 yy.1) (fun x N h => ?_) rounds _ σ (hs.trans (by kernel_rfl)) (LoopP.run h)
  obtain ⟨y0, y1, y2, y3, y4, y5, y6⟩ := x
  rw [← (f52_p30e0 R) xx.1.1 xx.1.2 xx.2.2.1 y0 y1 yy.1 y2 y3 y4 y5 y6 N K]
  exact h
set_option maxHeartbeats 4000000 in
theorem f52_p42_ok (R : f52_T) : LoopOk (f52_C R) (nthC (bodies (bodyOf Try.f52)) 3) := by
  refine LoopOk.of (f52_p42L R) (by kernel_rfl) fun σ K h => ?_
  have hk : loopKey (nthC (bodies (bodyOf Try.f52)) 3) = 42 := by kernel_rfl
  rw [hk] at h ⊢
  generalize hs : normK (f52_C R) 42 σ = s at h
  obtain ⟨tm, hp⟩ := s
  unfold f52_p42L at h
  dsimp only at h
  obtain ⟨xx, yy, rfl, rfl, h⟩ := getS_elim h
  refine iter_of (f52_p42_mk xx.1.1 xx.1.2 xx.2.2.1 yy.2.1.1.1 yy.2.1.1.2 yy.2.1.2.1 yy.2.1.2.2.1 yy.2.2.1) (fun x N h => ?_) rounds _ σ (hs.trans (by kernel_rfl)) (LoopP.run h)
  obtain ⟨y0, y1⟩ := x
  rw [← (f52_p42e0 R) xx.1.1 xx.1.2 xx.2.2.1 y0 y1 yy.2.1.1.1 yy.2.1.1.2 yy.2.1.2.1 yy.2.1.2.2.1 yy.2.2.1 N K]
  exact h
set_option maxHeartbeats 4000000 in
theorem f52_p66_ok (R : f52_T) : LoopOk (f52_C R) (nthC (bodies (bodyOf Try.f52)) 4) := by
  refine LoopOk.of (f52_p66L R) (by kernel_rfl) fun σ K h => ?_
  have hk : loopKey (nthC (bodies (bodyOf Try.f52)) 4) = 66 := by kernel_rfl
  rw [hk] at h ⊢
  generalize hs : normK (f52_C R) 66 σ = s at h
  obtain ⟨tm, hp⟩ := s
  unfold f52_p66L at h
  dsimp only at h
  obtain ⟨xx, yy, rfl, rfl, h⟩ := getS_elim h
  refine iter_of (f52_p66_mk xx.1.1 xx.1.2 xx.2.1 xx.2.2.1 xx.2.2.2.1 xx.2.2.2.2.2.2.1 xx.2.2.2.2.2.2.2.1 xx.2.2.2.2.2.2.2.2.2.2.1 yy.1) (fun x N h => ?_) rounds _ σ (hs.trans (by kernel_rfl)) (LoopP.run h)
  obtain ⟨y0, y1, y2, y3, y4, y5, y6⟩ := x
  rw [← (f52_p66e0 R) xx.1.1 xx.1.2 xx.2.1 xx.2.2.1 xx.2.2.2.1 xx.2.2.2.2.2.2.1 xx.2.2.2.2.2.2.2.1 y0 y1 xx.2.2.2.2.2.2.2.2.2.2.1 yy.1 y2 y3 y4 y5 y6 N K]
  exact h
set_option maxHeartbeats 4000000 in
theorem f52_p87_ok (R : f52_T) : TailOk (f52_C R) (nthC (tails (bodyOf Try.f52)) 44) := by
  refine TailOk.of (f52_p87L R) (by kernel_rfl) fun σ K h => ?_
  have hk : joinKey (nthC (tails (bodyOf Try.f52)) 44) = 87 := by kernel_rfl
  rw [hk] at h ⊢
  generalize hs : normK (f52_C R) 87 σ = s at h
  obtain ⟨tm, hp⟩ := s
  unfold f52_p87L at h
  dsimp only at h
  obtain ⟨xx, yy, rfl, rfl, h⟩ := getS_elim h
  have q : normK (f52_C R) 87 σ = (⟨mkS 220 [(0, .w (.one (.ref 0 xx.1.1 xx.1.2))), (3, I xx.2.2.1), (4, .w (.one (.clo 36 [] [.ptr 1 0 0]))), (18, I xx.2.2.2.2.2.1), (24, I xx.2.2.2.2.2.2.2.1)], [.vec 1 yy.1 true, .box [.ref 2 yy.2.1.1.1 yy.2.1.1.2, .p (pI yy.2.1.2.1), .p (pI yy.2.1.2.2.1)], .vec 3 yy.2.2.1 true]⟩ : St) := hs.trans (by kernel_rfl)
  rw [← hs, q, ← (f52_p87e0 R) xx.1.1 xx.1.2 xx.2.2.1 xx.2.2.2.2.2.1 xx.2.2.2.2.2.2.2.1 yy.1 yy.2.1.1.1 yy.2.1.1.2 yy.2.1.2.1 yy.2.1.2.2.1 yy.2.2.1 K]
  exact h
set_option maxHeartbeats 4000000 in
theorem f52_p83_ok (R : f52_T) : TailOk (f52_C R) (nthC (tails (bodyOf Try.f52)) 42) := by
  refine TailOk.of (f52_p83L R) (by kernel_rfl) fun σ K h => ?_
  have hk : joinKey (nthC (tails (bodyOf Try.f52)) 42) = 83 := by kernel_rfl
  rw [hk] at h ⊢
  generalize hs : normK (f52_C R) 83 σ = s at h
  obtain ⟨tm, hp⟩ := s
  unfold f52_p83L at h
  dsimp only at h
  obtain ⟨xx, yy, rfl, rfl, h⟩ := getS_elim h
  have q : normK (f52_C R) 83 σ = (⟨mkS 220 [(0, .w (.one (.ref 0 xx.1.1 xx.1.2))), (1, I xx.2.1), (3, I xx.2.2.2.1), (4, .w (.one (.clo 36 [] [.ptr 1 0 0]))), (18, I xx.2.2.2.2.2.2.1), (20, I xx.2.2.2.2.2.2.2.2.1), (24, I xx.2.2.2.2.2.2.2.2.2.2.1)], [.vec 1 yy.1 true, .box [.ref 2 yy.2.1.1.1 yy.2.1.1.2, .p (pI yy.2.1.2.1), .p (pI yy.2.1.2.2.1)], .vec 3 yy.2.2.1 true]⟩ : St) := hs.trans (by kernel_rfl)
  rw [← hs, q, ← (f52_p83e0 R) xx.1.1 xx.1.2 xx.2.1 xx.2.2.2.1 xx.2.2.2.2.2.2.1 xx.2.2.2.2.2.2.2.2.1 xx.2.2.2.2.2.2.2.2.2.2.1 yy.1 yy.2.1.1.1 yy.2.1.1.2 yy.2.1.2.1 yy.2.1.2.2.1 yy.2.2.1 K]
  exact h
set_option maxHeartbeats 4000000 in
theorem f52_p65_ok (R : f52_T) : TailOk (f52_C R) (nthC (tails (bodyOf Try.f52)) 31) := by
  refine TailOk.of (f52_p65L R) (by kernel_rfl) fun σ K h => ?_
  have hk : joinKey (nthC (tails (bodyOf Try.f52)) 31) = 65 := by kernel_rfl
  rw [hk] at h ⊢
  generalize hs : normK (f52_C R) 65 σ = s at h
  obtain ⟨tm, hp⟩ := s
  unfold f52_p65L at h
  dsimp only at h
  obtain ⟨xx, yy, rfl, rfl, h⟩ := getS_elim h
  have q : normK (f52_C R) 65 σ = (⟨mkS 220 [(0, .w (.one (.ref 0 xx.1.1 xx.1.2))), (1, I xx.2.1), (2, I xx.2.2.1), (3, I xx.2.2.2.1), (4, .w (.one (.clo 36 [] [.ptr 1 0 0]))), (18, I xx.2.2.2.2.2.2.1), (19, I xx.2.2.2.2.2.2.2.1), (20, I xx.2.2.2.2.2.2.2.2.1), (21, I xx.2.2.2.2.2.2.2.2.2.1)], [.vec 1 yy.1 true, .box [.ref 2 yy.2.1.1.1 yy.2.1.1.2, .p (pI yy.2.1.2.1), .p (pI yy.2.1.2.2.1)], .vec 3 yy.2.2.1 true]⟩ : St) := hs.trans (by kernel_rfl)
  rw [← hs, q, ← (f52_p65e0 R) xx.1.1 xx.1.2 xx.2.1 xx.2.2.1 xx.2.2.2.1 xx.2.2.2.2.2.2.1 xx.2.2.2.2.2.2.2.1 xx.2.2.2.2.2.2.2.2.1 xx.2.2.2.2.2.2.2.2.2.1 yy.1 yy.2.1.1.1 yy.2.1.1.2 yy.2.1.2.1 yy.2.1.2.2.1 yy.2.2.1 K]
  exact h
noncomputable def f52_G0 : List TV → List Entry → (TV → List Entry → Prop) → Prop := fun tm hp K => getS [.v (.one (.ref 0)), .v (.one (.int .i64)), .v (.one (.int .i64)), .v (.one (.int .i64)), .v (.clo 36 [] [.ptr 1 0 0])] [.vec 1 true, .box [.ref 2, .int .i64, .int .i64], .vec 3 true] tm hp fun (xx : ((Nat × Nat) × (Int × (Int × (Int × ((Unit × (Unit × Unit)) × Unit)))))) (yy : ((List (List PC)) × (((Nat × Nat) × (Int × (Int × Unit))) × ((List (List PC)) × Unit)))) => f52 xx.1.1 xx.1.2 xx.2.1 xx.2.2.1 xx.2.2.2.1 yy.1 yy.2.1.1.1 yy.2.1.1.2 yy.2.1.2.1 yy.2.1.2.2.1 yy.2.2.1 (fun es0_38 i0_39 n0_40 n0_41 n0_42 es0_43 => K undefT [.vec 1 es0_38 true, .box [.ref 2 i0_39 n0_40, .p (pI n0_41), .p (pI n0_42)], .vec 3 es0_43 true])
set_option maxRecDepth 100000 in
theorem f52_eq (R : f52_T) (i_237 : Nat) (n_238 : Nat) (n_239 : Int) (n_240 : Int) (n_241 : Int) (es_242 : List (List PC)) (i_243 : Nat) (n_244 : Nat) (n_245 : Int) (n_246 : Int) (es_247 : List (List PC)) (K : TV → List Entry → Prop) : ((f52_d R) i_237 n_238 n_239 n_240 n_241 es_242 i_243 n_244 n_245 n_246 es_247 (fun es0_38 i0_39 n0_40 n0_41 n0_42 es0_43 => K undefT [.vec 1 es0_38 true, .box [.ref 2 i0_39 n0_40, .p (pI n0_41), .p (pI n0_42)], .vec 3 es0_43 true])) = funcT (f52_C R) Try.f52 [.w (.one (.ref 0 i_237 n_238)), I n_239, I n_240, I n_241, .w (.one (.clo 36 [] [.ptr 1 0 0]))] [.vec 1 es_242 true, .box [.ref 2 i_243 n_244, .p (pI n_245), .p (pI n_246)], .vec 3 es_247 true] K := by kernel_rfl
set_option maxHeartbeats 4000000 in
theorem f52_step (R : f52_T) (hR : FnOk Try.prog glob 52 (f52_GR R)) : FnOk Try.prog glob 52 (f52_GR (f52_d R)) := by
  refine FnOk.of_text (C := (f52_C R)) tab_ok.ok (Known.add hR (Known.add f53_G_ok (Known.add f36_G_ok (Known.none)))) follows_ok (fn := Try.f52) (by kernel_rfl) (by kernel_rfl) (by kernel_rfl) (fun c hc => ?_) fun tm hp K h => ?_
  · have e : c = bodyOf Try.f52 := Option.some.inj (hc.symm.trans (by kernel_rfl))
    subst e
    exact ⟨LoopsOk.of [nthC (bodies (bodyOf Try.f52)) 0, nthC (bodies (bodyOf Try.f52)) 1, nthC (bodies (bodyOf Try.f52)) 2, nthC (bodies (bodyOf Try.f52)) 3, nthC (bodies (bodyOf Try.f52)) 4] (by kernel_rfl) ⟨(f52_p6_ok R), (f52_p18_ok R), (f52_p30_ok R), (f52_p42_ok R), (f52_p66_ok R), trivial⟩, TailsOk.of (tab := (f52_tab R)) rfl [nthC (tails (bodyOf Try.f52)) 31, nthC (tails (bodyOf Try.f52)) 42, nthC (tails (bodyOf Try.f52)) 44] (by kernel_rfl) ⟨(f52_p65_ok R), (f52_p83_ok R), (f52_p87_ok R), trivial⟩⟩
  · unfold f52_GR at h
    obtain ⟨xx, yy, rfl, rfl, h⟩ := getS_elim h
    have e := (f52_eq R xx.1.1 xx.1.2 xx.2.1 xx.2.2.1 xx.2.2.2.1 yy.1 yy.2.1.1.1 yy.2.1.1.2 yy.2.1.2.1 yy.2.1.2.2.1 yy.2.2.1 K).trans (show _ = funcT (f52_C R) Try.f52 (mkR _ xx) (mkE _ yy) K by kernel_rfl)
    rw [← e]
    exact h
theorem f52_ok_n : ∀ n, FnOk Try.prog glob 52 (f52_GR (f52_n n))
  | 0 => fun tm hp K h => by
    unfold f52_GR at h
    obtain ⟨xx, yy, rfl, rfl, h⟩ := getS_elim h
    exact False.elim h
  | n + 1 => f52_step _ (f52_ok_n n)
theorem f52_ok0 : FnOk Try.prog glob 52 f52_G0 := fun tm hp K h => by
  unfold f52_G0 at h
  obtain ⟨xx, yy, rfl, rfl, h⟩ := getS_elim h
  obtain ⟨n, h⟩ := h.run
  have e : f52_GR (f52_n n) (mkR _ xx) (mkE _ yy) K = f52_n n xx.1.1 xx.1.2 xx.2.1 xx.2.2.1 xx.2.2.2.1 yy.1 yy.2.1.1.1 yy.2.1.1.2 yy.2.1.2.1 yy.2.1.2.2.1 yy.2.2.1 (fun es0_38 i0_39 n0_40 n0_41 n0_42 es0_43 => K undefT [.vec 1 es0_38 true, .box [.ref 2 i0_39 n0_40, .p (pI n0_41), .p (pI n0_42)], .vec 3 es0_43 true]) := by kernel_rfl
  refine f52_ok_n n _ _ _ ?_
  rw [e]
  exact h
noncomputable abbrev f52_G := f52_G0
theorem f52_G_ok : FnOk Try.prog glob 52 f52_G := f52_ok0
end Go.Eng.N
set_option linter.unusedVariables false
set_option maxRecDepth 100000
open Go Go.Eng Go.Proofs
namespace Go.Eng.N
/-! ### f46: slices.stableCmpFunc(int) -/
noncomputable def f46_p4b0 (i10 : Nat) (n11 : Nat) (n12 : Int) (n13 : Int) (n14 : Int) (n15 : Int) (es16 : List (List PC)) (i17 : Nat) (n18 : Nat) (n19 : Int) (n20 : Int) (es21 : List (List PC)) (N0 : Int → Int → (List (List PC)) → Nat → Nat → Int → Int → (List (List PC)) → Prop) (k0 : Int → (List (List PC)) → Nat → Nat → Int → Int → (List (List PC)) → Prop) : Prop := bB (decide (n15 ≤ n12)) (f51 i10 n11 n14 n15 es16 i17 n18 n19 n20 es21 (fun es22 i23 n24 n25 n26 es27 => N0 n15 (w64 (n15 + n13)) es22 i23 n24 n25 n26 es27)) (k0 n14 es16 i17 n18 n19 n20 es21)
noncomputable def f46_p4 (i10 : Nat) (n11 : Nat) (n12 : Int) (n13 : Int) (k0 : Int → (List (List PC)) → Nat → Nat → Int → Int → (List (List PC)) → Prop) : Int × Int × (List (List PC)) × Nat × Nat × Int × Int × (List (List PC)) → Prop := LoopP fun x N => f46_p4b0 i10 n11 n12 n13 x.1 x.2.1 x.2.2.1 x.2.2.2.1 x.2.2.2.2.1 x.2.2.2.2.2.1 x.2.2.2.2.2.2.1 x.2.2.2.2.2.2.2 (fun n14 n15 es16 i17 n18 n19 n20 es21 => N (n14, n15, es16, i17, n18, n19, n20, es21)) k0
noncomputable def f46_p18b0 (i51 : Nat) (n52 : Nat) (n53 : Int) (n54 : Int) (n55 : Int) (n56 : Int) (es57 : List (List PC)) (i58 : Nat) (n59 : Nat) (n60 : Int) (n61 : Int) (es62 : List (List PC)) (N0 : Int → Int → (List (List PC)) → Nat → Nat → Int → Int → (List (List PC)) → Prop) (k0 : Int → (List (List PC)) → Nat → Nat → Int → Int → (List (List PC)) → Prop) : Prop := bB (decide (n56 ≤ n53)) (f52 i51 n52 n55 (w64 (n55 + n54)) n56 es57 i58 n59 n60 n61 es62 (fun es63 i64 n65 n66 n67 es68 => N0 n56 (w64 (n56 + (w64 (2 * n54)))) es63 i64 n65 n66 n67 es68)) (k0 n55 es57 i58 n59 n60 n61 es62)
noncomputable def f46_p18 (i51 : Nat) (n52 : Nat) (n53 : Int) (n54 : Int) (k0 : Int → (List (List PC)) → Nat → Nat → Int → Int → (List (List PC)) → Prop) : Int × Int × (List (List PC)) × Nat × Nat × Int × Int × (List (List PC)) → Prop := LoopP fun x N => f46_p18b0 i51 n52 n53 n54 x.1 x.2.1 x.2.2.1 x.2.2.2.1 x.2.2.2.2.1 x.2.2.2.2.2.1 x.2.2.2.2.2.2.1 x.2.2.2.2.2.2.2 (fun n55 n56 es57 i58 n59 n60 n61 es62 => N (n55, n56, es57, i58, n59, n60, n61, es62)) k0
noncomputable def f46_p14b0 (i41 : Nat) (n42 : Nat) (n43 : Int) (n44 : Int) (es45 : List (List PC)) (i46 : Nat) (n47 : Nat) (n48 : Int) (n49 : Int) (es50 : List (List PC)) (N0 : Int → (List (List PC)) → Nat → Nat → Int → Int → (List (List PC)) → Prop) (k0 : (List (List PC)) → Nat → Nat → Int → Int → (List (List PC)) → Prop) : Prop := bB (decide (n44 < n43)) (f46_p18 i41 n42 n43 n44 (fun n69 es70 i71 n72 n73 n74 es75 => bB (decide ((w64 (n69 + n44)) < n43)) (f52 i41 n42 n69 (w64 (n69 + n44)) n43 es70 i71 n72 n73 n74 es75 (fun es76 i77 n78 n79 n80 es81 => N0 (w64 (n44 * 2)) es76 i77 n78 n79 n80 es81)) (N0 (w64 (n44 * 2)) es70 i71 n72 n73 n74 es75)) (0, (w64 (2 * n44)), es45, i46, n47, n48, n49, es50)) (k0 es45 i46 n47 n48 n49 es50)
noncomputable def f46_p14 (i41 : Nat) (n42 : Nat) (n43 : Int) (k0 : (List (List PC)) → Nat → Nat → Int → Int → (List (List PC)) → Prop) : Int × (List (List PC)) × Nat × Nat × Int × Int × (List (List PC)) → Prop := LoopP fun x N => f46_p14b0 i41 n42 n43 x.1 x.2.1 x.2.2.1 x.2.2.2.1 x.2.2.2.2.1 x.2.2.2.2.2.1 x.2.2.2.2.2.2 (fun n44 es45 i46 n47 n48 n49 es50 => N (n44, es45, i46, n47, n48, n49, es50)) k0
noncomputable def f46_d (i1 : Nat) (n2 : Nat) (n3 : Int) (es4 : List (List PC)) (i5 : Nat) (n6 : Nat) (n7 : Int) (n8 : Int) (es9 : List (List PC)) (k0 : (List (List PC)) → Nat → Nat → Int → Int → (List (List PC)) → Prop) : Prop := f46_p4 i1 n2 n3 20 (fun n28 es29 i30 n31 n32 n33 es34 => f51 i1 n2 n28 n3 es29 i30 n31 n32 n33 es34 (fun es35 i36 n37 n38 n39 es40 => f46_p14 i1 n2 n3 (fun es82 i83 n84 n85 n86 es87 => k0 es82 i83 n84 n85 n86 es87) (20, es35, i36, n37, n38, n39, es40))) (0, 20, es4, i5, n6, n7, n8, es9)
structure f46 (i1 : Nat) (n2 : Nat) (n3 : Int) (es4 : List (List PC)) (i5 : Nat) (n6 : Nat) (n7 : Int) (n8 : Int) (es9 : List (List PC)) (k0 : (List (List PC)) → Nat → Nat → Int → Int → (List (List PC)) → Prop) : Prop where
  run : f46_d i1 n2 n3 es4 i5 n6 n7 n8 es9 k0
noncomputable def f46_p4L : Told := fun s K => match s with
  | ⟨tm, hp⟩ => getS [.v (.one (.ref 0)), .v (.one (.int .i64)), .v (.clo 36 [] [.ptr 1 0 0]), .skip 3, .v (.one (.int .i64)), .v (.one (.int .i64)), .v (.one (.int .i64)), .skip 54] [.vec 1 true, .box [.ref 2, .int .i64, .int .i64], .vec 3 true] tm hp fun (xx : ((Nat × Nat) × (Int × ((Unit × (Unit × Unit)) × (Unit × (Int × (Int × (Int × (Unit × Unit))))))))) (yy : ((List (List PC)) × (((Nat × Nat) × (Int × (Int × Unit))) × ((List (List PC)) × Unit)))) => f46_p4 xx.1.1 xx.1.2 xx.2.1 xx.2.2.2.2.1 (fun n0_0 es0_1 i0_2 n0_3 n0_4 n0_5 es0_6 => K (.exit 0) ⟨mkS 63 [(0, .w (.one (.ref 0 xx.1.1 xx.1.2))), (1, I xx.2.1), (2, .w (.one (.clo 36 [] [.ptr 1 0 0]))), (6, I xx.2.2.2.2.1), (7, I n0_0)], [.vec 1 es0_1 true, .box [.ref 2 i0_2 n0_3, .p (pI n0_4), .p (pI n0_5)], .vec 3 es0_6 true]⟩) (xx.2.2.2.2.2.1, xx.2.2.2.2.2.2.1, yy.1, yy.2.1.1.1, yy.2.1.1.2, yy.2.1.2.1, yy.2.1.2.2.1, yy.2.2.1)
noncomputable def f46_p18L : Told := fun s K => match s with
  | ⟨tm, hp⟩ => getS [.v (.one (.ref 0)), .v (.one (.int .i64)), .v (.clo 36 [] [.ptr 1 0 0]), .skip 3, .v (.one (.int .i64)), .v (.one (.int .i64)), .v (.one (.int .i64)), .skip 54] [.vec 1 true, .box [.ref 2, .int .i64, .int .i64], .vec 3 true] tm hp fun (xx : ((Nat × Nat) × (Int × ((Unit × (Unit × Unit)) × (Unit × (Int × (Int × (Int × (Unit × Unit))))))))) (yy : ((List (List PC)) × (((Nat × Nat) × (Int × (Int × Unit))) × ((List (List PC)) × Unit)))) => f46_p18 xx.1.1 xx.1.2 xx.2.1 xx.2.2.2.2.1 (fun n0_7 es0_8 i0_9 n0_10 n0_11 n0_12 es0_13 => K (.exit 4) ⟨mkS 63 [(0, .w (.one (.ref 0 xx.1.1 xx.1.2))), (1, I xx.2.1), (2, .w (.one (.clo 36 [] [.ptr 1 0 0]))), (6, I xx.2.2.2.2.1), (7, I n0_7)], [.vec 1 es0_8 true, .box [.ref 2 i0_9 n0_10, .p (pI n0_11), .p (pI n0_12)], .vec 3 es0_13 true]⟩) (xx.2.2.2.2.2.1, xx.2.2.2.2.2.2.1, yy.1, yy.2.1.1.1, yy.2.1.1.2, yy.2.1.2.1, yy.2.1.2.2.1, yy.2.2.1)
noncomputable def f46_p14L : Told := fun s K => match s with
  | ⟨tm, hp⟩ => getS [.v (.one (.ref 0)), .v (.one (.int .i64)), .v (.clo 36 [] [.ptr 1 0 0]), .skip 3, .v (.one (.int .i64)), .skip 56] [.vec 1 true, .box [.ref 2, .int .i64, .int .i64], .vec 3 true] tm hp fun (xx : ((Nat × Nat) × (Int × ((Unit × (Unit × Unit)) × (Unit × (Int × (Unit × Unit))))))) (yy : ((List (List PC)) × (((Nat × Nat) × (Int × (Int × Unit))) × ((List (List PC)) × Unit)))) => f46_p14 xx.1.1 xx.1.2 xx.2.1 (fun es0_14 i0_15 n0_16 n0_17 n0_18 es0_19 => K (.exit 2) ⟨mkS 63 [], [.vec 1 es0_14 true, .box [.ref 2 i0_15 n0_16, .p (pI n0_17), .p (pI n0_18)], .vec 3 es0_19 true]⟩) (xx.2.2.2.2.1, yy.1, yy.2.1.1.1, yy.2.1.1.2, yy.2.1.2.1, yy.2.1.2.2.1, yy.2.2.1)
noncomputable def f46_tab : List (Nat × Told) := [(4, f46_p4L), (18, f46_p18L), (14, f46_p14L)]
noncomputable def f46_call : FuncId → List TV → List Entry → (TV → List Entry → Prop) → Prop := addCall 52 f52_G (addCall 51 f51_G (noCalls))
noncomputable def f46_C : Ctx := { ty := tyOf tab, glob := glob, byRef := byRef, keep := fun k i => lookN [] (lookN [] ([(4, [(0, [0, 1, 2, 6, 7, 8]), (2, []), (3, [0, 1, 2, 6, 7])]), (18, [(0, [0, 1, 2, 6, 7, 8]), (2, []), (5, []), (6, [0, 1, 2, 6]), (7, [0, 1, 2, 6, 7])]), (14, [(0, [0, 1, 2, 6]), (2, []), (5, [])])] : List (Nat × List (Nat × List Nat))) k) i, late := lookN [] ([] : List (Nat × List Nat)), nref := lookN [] ([] : List (Nat × List Nat)), nbox := lookN [] ([] : List (Nat × List (Nat × Nat))), take := [], rnil := true, m := 3, fz := false, loops := lookL f46_tab, call := f46_call }
noncomputable def f46_p4_mk (i10 : Nat) (n11 : Nat) (n12 : Int) (n13 : Int) (x : Int × Int × (List (List PC)) × Nat × Nat × Int × Int × (List (List PC))) : St := ⟨mkS 63 [(0, .w (.one (.ref 0 i10 n11))), (1, I n12), (2, .w (.one (.clo 36 [] [.ptr 1 0 0]))), (6, I n13), (7, I x.1), (8, I x.2.1)], [.vec 1 x.2.2.1 true, .box [.ref 2 x.2.2.2.1 x.2.2.2.2.1, .p (pI x.2.2.2.2.2.1), .p (pI x.2.2.2.2.2.2.1)], .vec 3 x.2.2.2.2.2.2.2 true]⟩
set_option maxRecDepth 100000 in
theorem f46_p4e0 (i_38 : Nat) (n_39 : Nat) (n_40 : Int) (n_41 : Int) (n_42 : Int) (n_43 : Int) (es_44 : List (List PC)) (i_45 : Nat) (n_46 : Nat) (n_47 : Int) (n_48 : Int) (es_49 : List (List PC)) (N : St → Prop) (K : TExit → St → Prop) : (f46_p4b0 i_38 n_39 n_40 n_41 n_42 n_43 es_44 i_45 n_46 n_47 n_48 es_49 (fun z4 z5 z6 z7 z8 z9 z10 z11 => N (f46_p4_mk i_38 n_39 n_40 n_41 (z4, z5, z6, z7, z8, z9, z10, z11))) (fun n0_50 es0_51 i0_52 n0_53 n0_54 n0_55 es0_56 => K (.exit 0) ⟨mkS 63 [(0, .w (.one (.ref 0 i_38 n_39))), (1, I n_40), (2, .w (.one (.clo 36 [] [.ptr 1 0 0]))), (6, I n_41), (7, I n0_50)], [.vec 1 es0_51 true, .box [.ref 2 i0_52 n0_53, .p (pI n0_54), .p (pI n0_55)], .vec 3 es0_56 true]⟩)) = execT f46_C (nthC (bodies (bodyOf Try.f46)) 0) (f46_p4_mk i_38 n_39 n_40 n_41 (n_42, n_43, es_44, i_45, n_46, n_47, n_48, es_49)) (loopK N (normK f46_C 4) fun e s => K e (normOut f46_C 4 e s)) := by kernel_rfl
noncomputable def f46_p18_mk (i51 : Nat) (n52 : Nat) (n53 : Int) (n54 : Int) (x : Int × Int × (List (List PC)) × Nat × Nat × Int × Int × (List (List PC))) : St := ⟨mkS 63 [(0, .w (.one (.ref 0 i51 n52))), (1, I n53), (2, .w (.one (.clo 36 [] [.ptr 1 0 0]))), (6, I n54), (7, I x.1), (8, I x.2.1)], [.vec 1 x.2.2.1 true, .box [.ref 2 x.2.2.2.1 x.2.2.2.2.1, .p (pI x.2.2.2.2.2.1), .p (pI x.2.2.2.2.2.2.1)], .vec 3 x.2.2.2.2.2.2.2 true]⟩
set_option maxRecDepth 100000 in
theorem f46_p18e0 (i_69 : Nat) (n_70 : Nat) (n_71 : Int) (n_72 : Int) (n_73 : Int) (n_74 : Int) (es_75 : List (List PC)) (i_76 : Nat) (n_77 : Nat) (n_78 : Int) (n_79 : Int) (es_80 : List (List PC)) (N : St → Prop) (K : TExit → St → Prop) : (f46_p18b0 i_69 n_70 n_71 n_72 n_73 n_74 es_75 i_76 n_77 n_78 n_79 es_80 (fun z4 z5 z6 z7 z8 z9 z10 z11 => N (f46_p18_mk i_69 n_70 n_71 n_72 (z4, z5, z6, z7, z8, z9, z10, z11))) (fun n0_81 es0_82 i0_83 n0_84 n0_85 n0_86 es0_87 => K (.exit 4) ⟨mkS 63 [(0, .w (.one (.ref 0 i_69 n_70))), (1, I n_71), (2, .w (.one (.clo 36 [] [.ptr 1 0 0]))), (6, I n_72), (7, I n0_81)], [.vec 1 es0_82 true, .box [.ref 2 i0_83 n0_84, .p (pI n0_85), .p (pI n0_86)], .vec 3 es0_87 true]⟩)) = execT f46_C (nthC (bodies (bodyOf Try.f46)) 2) (f46_p18_mk i_69 n_70 n_71 n_72 (n_73, n_74, es_75, i_76, n_77, n_78, n_79, es_80)) (loopK N (normK f46_C 18) fun e s => K e (normOut f46_C 18 e s)) := by kernel_rfl
noncomputable def f46_p14_mk (i41 : Nat) (n42 : Nat) (n43 : Int) (x : Int × (List (List PC)) × Nat × Nat × Int × Int × (List (List PC))) : St := ⟨mkS 63 [(0, .w (.one (.ref 0 i41 n42))), (1, I n43), (2, .w (.one (.clo 36 [] [.ptr 1 0 0]))), (6, I x.1)], [.vec 1 x.2.1 true, .box [.ref 2 x.2.2.1 x.2.2.2.1, .p (pI x.2.2.2.2.1), .p (pI x.2.2.2.2.2.1)], .vec 3 x.2.2.2.2.2.2 true]⟩
set_option maxRecDepth 100000 in
theorem f46_p14e0 (i_98 : Nat) (n_99 : Nat) (n_100 : Int) (n_101 : Int) (es_102 : List (List PC)) (i_103 : Nat) (n_104 : Nat) (n_105 : Int) (n_106 : Int) (es_107 : List (List PC)) (N : St → Prop) (K : TExit → St → Prop) : (f46_p14b0 i_98 n_99 n_100 n_101 es_102 i_103 n_104 n_105 n_106 es_107 (fun z3 z4 z5 z6 z7 z8 z9 => N (f46_p14_mk i_98 n_99 n_100 (z3, z4, z5, z6, z7, z8, z9))) (fun es0_108 i0_109 n0_110 n0_111 n0_112 es0_113 => K (.exit 2) ⟨mkS 63 [], [.vec 1 es0_108 true, .box [.ref 2 i0_109 n0_110, .p (pI n0_111), .p (pI n0_112)], .vec 3 es0_113 true]⟩)) = execT f46_C (nthC (bodies (bodyOf Try.f46)) 1) (f46_p14_mk i_98 n_99 n_100 (n_101, es_102, i_103, n_104, n_105, n_106, es_107)) (loopK N (normK f46_C 14) fun e s => K e (normOut f46_C 14 e s)) := by kernel_rfl
set_option maxHeartbeats 4000000 in
theorem f46_p4_ok : LoopOk f46_C (nthC (bodies (bodyOf Try.f46)) 0) := by
  refine LoopOk.of f46_p4L (by kernel_rfl) fun σ K h => ?_
  have hk : loopKey (nthC (bodies (bodyOf Try.f46)) 0) = 4 := by kernel_rfl
  rw [hk] at h ⊢
  generalize hs : normK f46_C 4 σ = s at h
  obtain ⟨tm, hp⟩ := s
  unfold f46_p4L at h
  dsimp only at h
  obtain ⟨xx, yy, rfl, rfl, h⟩ := getS_elim h
  refine iter_of (f46_p4_mk xx.1.1 xx.1.2 xx.2.1 xx.2.2.2.2.1) (fun x N h => ?_) rounds _ σ (hs.trans (by kernel_rfl)) (LoopP.run h)
  obtain ⟨y0, y1, y2, y3, y4, y5, y6, y7⟩ := x
  rw [← f46_p4e0 xx.1.1 xx.1.2 xx.2.1 xx.2.2.2.2.1 y0 y1 y2 y3 y4 y5 y6 y7 N K]
  exact h
set_option maxHeartbeats 4000000 in
theorem f46_p18_ok : LoopOk f46_C (nthC (bodies (bodyOf Try.f46)) 2) := by
  refine LoopOk.of f46_p18L (by kernel_rfl) fun σ K h => ?_
  have hk : loopKey (nthC (bodies (bodyOf Try.f46)) 2) = 18 := by kernel_rfl
  rw [hk] at h ⊢
  generalize hs : normK f46_C 18 σ = s at h
  obtain ⟨tm, hp⟩ := s
  unfold f46_p18L at h
  dsimp only at h
  obtain ⟨xx, yy, rfl, rfl, h⟩ := getS_elim h
  refine iter_of (f46_p18_mk xx.1.1 xx.1.2 xx.2.1 xx.2.2.2.2.1) (fun x N h => ?_) rounds _ σ (hs.trans (by kernel_rfl)) (LoopP.run h)
  obtain ⟨y0, y1, y2, y3, y4, y5, y6, y7⟩ := x
  rw [← f46_p18e0 xx.1.1 xx.1.2 xx.2.1 xx.2.2.2.2.1 y0 y1 y2 y3 y4 y5 y6 y7 N K]
  exact h
set_option maxHeartbeats 4000000 in
theorem f46_p14_ok : LoopOk f46_C (nthC (bodies (bodyOf Try.f46)) 1) := by
  refine LoopOk.of f46_p14L (by kernel_rfl) fun σ K h => ?_
  have hk : loopKey (nthC (bodies (bodyOf Try.f46)) 1) = 14 := by kernel_rfl
  rw [hk] at h ⊢
  generalize hs : normK f46_C 14 σ = s at h
  obtain ⟨tm, hp⟩ := s
  unfold f46_p14L at h
  dsimp only at h
  obtain ⟨xx, yy, rfl, rfl, h⟩ := getS_elim h
  refine iter_of (f46_p14_mk xx.1.1 xx.1.2 xx.2.1) (fun x N h => ?_) rounds _ σ (hs.trans (by kernel_rfl)) (LoopP.run h)
  obtain ⟨y0, y1, y2, y3, y4, y5, y6⟩ := x
  rw [← f46_p14e0 xx.1.1 xx.1.2 xx.2.1 y0 y1 y2 y3 y4 y5 y6 N K]
  exact h
noncomputable def f46_G0 : List TV → List Entry → (TV → List Entry → Prop) → Prop := fun tm hp K => getS [.v (.one (.ref 0)), .v (.one (.int .i64)), .v (.clo 36 [] [.ptr 1 0 0])] [.vec 1 true, .box [.ref 2, .int .i64, .int .i64], .vec 3 true] tm hp fun (xx : ((Nat × Nat) × (Int × ((Unit × (Unit × Unit)) × Unit)))) (yy : ((List (List PC)) × (((Nat × Nat) × (Int × (Int × Unit))) × ((List (List PC)) × Unit)))) => f46 xx.1.1 xx.1.2 xx.2.1 yy.1 yy.2.1.1.1 yy.2.1.1.2 yy.2.1.2.1 yy.2.1.2.2.1 yy.2.2.1 (fun es0_20 i0_21 n0_22 n0_23 n0_24 es0_25 => K undefT [.vec 1 es0_20 true, .box [.ref 2 i0_21 n0_22, .p (pI n0_23), .p (pI n0_24)], .vec 3 es0_25 true])
set_option maxRecDepth 100000 in
theorem f46_eq (i_114 : Nat) (n_115 : Nat) (n_116 : Int) (es_117 : List (List PC)) (i_118 : Nat) (n_119 : Nat) (n_120 : Int) (n_121 : Int) (es_122 : List (List PC)) (K : TV → List Entry → Prop) : (f46_d i_114 n_115 n_116 es_117 i_118 n_119 n_120 n_121 es_122 (fun es0_20 i0_21 n0_22 n0_23 n0_24 es0_25 => K undefT [.vec 1 es0_20 true, .box [.ref 2 i0_21 n0_22, .p (pI n0_23), .p (pI n0_24)], .vec 3 es0_25 true])) = funcT f46_C Try.f46 [.w (.one (.ref 0 i_114 n_115)), I n_116, .w (.one (.clo 36 [] [.ptr 1 0 0]))] [.vec 1 es_117 true, .box [.ref 2 i_118 n_119, .p (pI n_120), .p (pI n_121)], .vec 3 es_122 true] K := by kernel_rfl
set_option maxHeartbeats 4000000 in
theorem f46_ok0 : FnOk Try.prog glob 46 f46_G0 := by
  refine FnOk.of_text (C := f46_C) tab_ok.ok (Known.add f52_G_ok (Known.add f51_G_ok (Known.none))) follows_ok (fn := Try.f46) (by kernel_rfl) (by kernel_rfl) (by kernel_rfl) (fun c hc => ?_) fun tm hp K h => ?_
  · have e : c = bodyOf Try.f46 := Option.some.inj (hc.symm.trans (by kernel_rfl))
    subst e
    exact ⟨LoopsOk.of [nthC (bodies (bodyOf Try.f46)) 0, nthC (bodies (bodyOf Try.f46)) 1, nthC (bodies (bodyOf Try.f46)) 2] (by kernel_rfl) ⟨f46_p4_ok, f46_p14_ok, f46_p18_ok, trivial⟩, TailsOk.of (tab := f46_tab) rfl [] (by kernel_rfl) trivial⟩
  · unfold f46_G0 at h
    obtain ⟨xx, yy, rfl, rfl, h⟩ := getS_elim h
    have e := (f46_eq xx.1.1 xx.1.2 xx.2.1 yy.1 yy.2.1.1.1 yy.2.1.1.2 yy.2.1.2.1 yy.2.1.2.2.1 yy.2.2.1 K).trans (show _ = funcT f46_C Try.f46 (mkR _ xx) (mkE _ yy) K by kernel_rfl)
    rw [← e]
    exact h.run
noncomputable abbrev f46_G := f46_G0
theorem f46_G_ok : FnOk Try.prog glob 46 f46_G := f46_ok0
end Go.Eng.N
set_option linter.unusedVariables false
set_option maxRecDepth 100000
open Go Go.Eng Go.Proofs
namespace Go.Eng.N
/-! ### f35: slices.SortStableFunc(()int,int) -/
noncomputable def f35_d (i1 : Nat) (n2 : Nat) (es3 : List (List PC)) (i4 : Nat) (n5 : Nat) (n6 : Int) (n7 : Int) (es8 : List (List PC)) (k0 : (List (List PC)) → Nat → Nat → Int → Int → (List (List PC)) → Prop) : Prop := f46 i1 n2 ((n2 : Nat) : Int) es3 i4 n5 n6 n7 es8 (fun es9 i10 n11 n12 n13 es14 => k0 es9 i10 n11 n12 n13 es14)
structure f35 (i1 : Nat) (n2 : Nat) (es3 : List (List PC)) (i4 : Nat) (n5 : Nat) (n6 : Int) (n7 : Int) (es8 : List (List PC)) (k0 : (List (List PC)) → Nat → Nat → Int → Int → (List (List PC)) → Prop) : Prop where
  run : f35_d i1 n2 es3 i4 n5 n6 n7 es8 k0
noncomputable def f35_tab : List (Nat × Told) := []
noncomputable def f35_call : FuncId → List TV → List Entry → (TV → List Entry → Prop) → Prop := addCall 46 f46_G (noCalls)
noncomputable def f35_C : Ctx := { ty := tyOf tab, glob := glob, byRef := byRef, keep := fun k i => lookN [] (lookN [] ([] : List (Nat × List (Nat × List Nat))) k) i, late := lookN [] ([] : List (Nat × List Nat)), nref := lookN [] ([] : List (Nat × List Nat)), nbox := lookN [] ([] : List (Nat × List (Nat × Nat))), take := [], rnil := true, m := 3, fz := false, loops := lookL f35_tab, call := f35_call }
noncomputable def f35_G0 : List TV → List Entry → (TV → List Entry → Prop) → Prop := fun tm hp K => getS [.v (.one (.ref 0)), .v (.clo 36 [] [.ptr 1 0 0])] [.vec 1 true, .box [.ref 2, .int .i64, .int .i64], .vec 3 true] tm hp fun (xx : ((Nat × Nat) × ((Unit × (Unit × Unit)) × Unit))) (yy : ((List (List PC)) × (((Nat × Nat) × (Int × (Int × Unit))) × ((List (List PC)) × Unit)))) => f35 xx.1.1 xx.1.2 yy.1 yy.2.1.1.1 yy.2.1.1.2 yy.2.1.2.1 yy.2.1.2.2.1 yy.2.2.1 (fun es0_0 i0_1 n0_2 n0_3 n0_4 es0_5 => K undefT [.vec 1 es0_0 true, .box [.ref 2 i0_1 n0_2, .p (pI n0_3), .p (pI n0_4)], .vec 3 es0_5 true])
set_option maxRecDepth 100000 in
theorem f35_eq (i_6 : Nat) (n_7 : Nat) (es_8 : List (List PC)) (i_9 : Nat) (n_10 : Nat) (n_11 : Int) (n_12 : Int) (es_13 : List (List PC)) (K : TV → List Entry → Prop) : (f35_d i_6 n_7 es_8 i_9 n_10 n_11 n_12 es_13 (fun es0_0 i0_1 n0_2 n0_3 n0_4 es0_5 => K undefT [.vec 1 es0_0 true, .box [.ref 2 i0_1 n0_2, .p (pI n0_3), .p (pI n0_4)], .vec 3 es0_5 true])) = funcT f35_C Try.f35 [.w (.one (.ref 0 i_6 n_7)), .w (.one (.clo 36 [] [.ptr 1 0 0]))] [.vec 1 es_8 true, .box [.ref 2 i_9 n_10, .p (pI n_11), .p (pI n_12)], .vec 3 es_13 true] K := by kernel_rfl
set_option maxHeartbeats 4000000 in
theorem f35_ok0 : FnOk Try.prog glob 35 f35_G0 := by
  refine FnOk.of_text (C := f35_C) tab_ok.ok (Known.add f46_G_ok (Known.none)) follows_ok (fn := Try.f35) (by kernel_rfl) (by kernel_rfl) (by kernel_rfl) (fun c hc => ?_) fun tm hp K h => ?_
  · have e : c = bodyOf Try.f35 := Option.some.inj (hc.symm.trans (by kernel_rfl))
    subst e
    exact ⟨LoopsOk.of [] (by kernel_rfl) trivial, TailsOk.of (tab := f35_tab) rfl [] (by kernel_rfl) trivial⟩
  · unfold f35_G0 at h
    obtain ⟨xx, yy, rfl, rfl, h⟩ := getS_elim h
    have e := (f35_eq xx.1.1 xx.1.2 yy.1 yy.2.1.1.1 yy.2.1.1.2 yy.2.1.2.1 yy.2.1.2.2.1 yy.2.2.1 K).trans (show _ = funcT f35_C Try.f35 (mkR _ xx) (mkE _ yy) K by kernel_rfl)
    rw [← e]
    exact h.run
noncomputable abbrev f35_G := f35_G0
theorem f35_G_ok : FnOk Try.prog glob 35 f35_G := f35_ok0
end Go.Eng.N
set_option linter.unusedVariables false
set_option maxRecDepth 100000
open Go Go.Eng Go.Proofs
namespace Go.Eng.N
/-! ### f51_1: slices.insertionSortCmpFunc(int) -/
noncomputable def f51_1_p13 (i38 : Nat) (n39 : Nat) (n40 : Int) (n41 : Int) (n42 : Int) (n43 : Int) (es44 : List (List PC)) (es45 : List (List PC)) (full46 : Bool) (n47 : Int) (n48 : Int) (k0 : Int → (List (List PC)) → Prop) : Prop := (0 ≤ (w64 (n43 - 1)) ∧ (w64 (n43 - 1)) < ((n39 : Nat) : Int)) ∧ oI .i64 (ext (List.getD es44 (i38 + (Int.toNat (w64 (n43 - 1)))) []) 0 1) fun n49 => (0 ≤ n43 ∧ n43 < ((n39 : Nat) : Int)) ∧ oI .i64 (ext (List.getD es44 (i38 + (Int.toNat n43)) []) 0 1) fun n50 => (0 ≤ n43 ∧ n43 < ((n39 : Nat) : Int)) ∧ (i38 + (Int.toNat n43)) < es44.length ∧ (0 ≤ (w64 (n43 - 1)) ∧ (w64 (n43 - 1)) < ((n39 : Nat) : Int)) ∧ (i38 + (Int.toNat (w64 (n43 - 1)))) < (List.set es44 (i38 + (Int.toNat n43)) (splice (List.getD es44 (i38 + (Int.toNat n43)) []) 0 [pI n49])).length ∧ k0 (w64 (n43 - 1)) (List.set (List.set es44 (i38 + (Int.toNat n43)) (splice (List.getD es44 (i38 + (Int.toNat n43)) []) 0 [pI n49])) (i38 + (Int.toNat (w64 (n43 - 1)))) (splice (List.getD (List.set es44 (i38 + (Int.toNat n43)) (splice (List.getD es44 (i38 + (Int.toNat n43)) []) 0 [pI n49])) (i38 + (Int.toNat (w64 (n43 - 1)))) []) 0 [pI n50]))
noncomputable def f51_1_p8b0 (i20 : Nat) (n21 : Nat) (n22 : Int) (n23 : Int) (n24 : Int) (n25 : Int) (es26 : List (List PC)) (es27 : List (List PC)) (full28 : Bool) (n29 : Int) (n30 : Int) (N0 : Int → (List (List PC)) → (List (List PC)) → Bool → Int → Int → Prop) (k0 : (List (List PC)) → (List (List PC)) → Bool → Int → Int → Prop) : Prop := bB (decide (n25 > n22)) ((0 ≤ n25 ∧ n25 < ((n21 : Nat) : Int)) ∧ oI .i64 (ext (List.getD es26 (i20 + (Int.toNat n25)) []) 0 1) fun n31 => (0 ≤ (w64 (n25 - 1)) ∧ (w64 (n25 - 1)) < ((n21 : Nat) : Int)) ∧ oI .i64 (ext (List.getD es26 (i20 + (Int.toNat (w64 (n25 - 1)))) []) 0 1) fun n32 => f36_1 n31 n32 es27 full28 n29 n30 (fun n33 es34 full35 n36 n37 => bB (decide (n33 < 0)) (f51_1_p13 i20 n21 n22 n23 n24 n25 es26 es34 full35 n36 n37 (fun n51 es52 => N0 n51 es52 es34 full35 n36 n37)) (k0 es26 es34 full35 n36 n37))) (k0 es26 es27 full28 n29 n30)
noncomputable def f51_1_p8 (i20 : Nat) (n21 : Nat) (n22 : Int) (n23 : Int) (n24 : Int) (k0 : (List (List PC)) → (List (List PC)) → Bool → Int → Int → Prop) : Int × (List (List PC)) × (List (List PC)) × Bool × Int × Int → Prop := LoopP fun x N => f51_1_p8b0 i20 n21 n22 n23 n24 x.1 x.2.1 x.2.2.1 x.2.2.2.1 x.2.2.2.2.1 x.2.2.2.2.2 (fun n25 es26 es27 full28 n29 n30 => N (n25, es26, es27, full28, n29, n30)) k0
noncomputable def f51_1_p2b0 (i10 : Nat) (n11 : Nat) (n12 : Int) (n13 : Int) (n14 : Int) (es15 : List (List PC)) (es16 : List (List PC)) (full17 : Bool) (n18 : Int) (n19 : Int) (N0 : Int → (List (List PC)) → (List (List PC)) → Bool → Int → Int → Prop) (k0 : (List (List PC)) → (List (List PC)) → Bool → Int → Int → Prop) : Prop := bB (decide (n14 < n13)) (f51_1_p8 i10 n11 n12 n13 n14 (fun es53 es54 full55 n56 n57 => N0 (w64 (n14 + 1)) es53 es54 full55 n56 n57) (n14, es15, es16, full17, n18, n19)) (k0 es15 es16 full17 n18 n19)
noncomputable def f51_1_p2 (i10 : Nat) (n11 : Nat) (n12 : Int) (n13 : Int) (k0 : (List (List PC)) → (List (List PC)) → Bool → Int → Int → Prop) : Int × (List (List PC)) × (List (List PC)) × Bool × Int × Int → Prop := LoopP fun x N => f51_1_p2b0 i10 n11 n12 n13 x.1 x.2.1 x.2.2.1 x.2.2.2.1 x.2.2.2.2.1 x.2.2.2.2.2 (fun n14 es15 es16 full17 n18 n19 => N (n14, es15, es16, full17, n18, n19)) k0
noncomputable def f51_1_d (i1 : Nat) (n2 : Nat) (n3 : Int) (n4 : Int) (es5 : List (List PC)) (es6 : List (List PC)) (full7 : Bool) (n8 : Int) (n9 : Int) (k0 : (List (List PC)) → (List (List PC)) → Bool → Int → Int → Prop) : Prop := f51_1_p2 i1 n2 n3 n4 (fun es58 es59 full60 n61 n62 => k0 es58 es59 full60 n61 n62) ((w64 (n3 + 1)), es5, es6, full7, n8, n9)
structure f51_1 (i1 : Nat) (n2 : Nat) (n3 : Int) (n4 : Int) (es5 : List (List PC)) (es6 : List (List PC)) (full7 : Bool) (n8 : Int) (n9 : Int) (k0 : (List (List PC)) → (List (List PC)) → Bool → Int → Int → Prop) : Prop where
  run : f51_1_d i1 n2 n3 n4 es5 es6 full7 n8 n9 k0
noncomputable def f51_1_p13L : Told := fun s K => match s with
  | ⟨tm, hp⟩ => getS [.v (.one (.ref 0)), .v (.one (.int .i64)), .v (.one (.int .i64)), .v (.clo 36 [] [.ptr 1 0 0]), .skip 4, .v (.one (.int .i64)), .v (.one (.int .i64)), .skip 43] [.vec 1 true, .box [.sl 3, .int .i64, .int .i64]] tm hp fun (xx : ((Nat × Nat) × (Int × (Int × ((Unit × (Unit × Unit)) × (Unit × (Int × (Int × (Unit × Unit))))))))) (yy : ((List (List PC)) × (((List (List PC) × Bool) × (Int × (Int × Unit))) × Unit))) => f51_1_p13 xx.1.1 xx.1.2 xx.2.1 xx.2.2.1 xx.2.2.2.2.2.1 xx.2.2.2.2.2.2.1 yy.1 yy.2.1.1.1 yy.2.1.1.2 yy.2.1.2.1 yy.2.1.2.2.1 (fun n0_0 es0_1 => K .normal ⟨mkS 53 [(0, .w (.one (.ref 0 xx.1.1 xx.1.2))), (1, I xx.2.1), (2, I xx.2.2.1), (3, .w (.one (.clo 36 [] [.ptr 1 0 0]))), (8, I xx.2.2.2.2.2.1), (9, I n0_0)], [.vec 1 es0_1 true, .box [.p (.sl 3 yy.2.1.1.1 yy.2.1.1.2), .p (pI yy.2.1.2.1), .p (pI yy.2.1.2.2.1)]]⟩)
noncomputable def f51_1_p8L : Told := fun s K => match s with
  | ⟨tm, hp⟩ => getS [.v (.one (.ref 0)), .v (.one (.int .i64)), .v (.one (.int .i64)), .v (.clo 36 [] [.ptr 1 0 0]), .skip 4, .v (.one (.int .i64)), .v (.one (.int .i64)), .skip 43] [.vec 1 true, .box [.sl 3, .int .i64, .int .i64]] tm hp fun (xx : ((Nat × Nat) × (Int × (Int × ((Unit × (Unit × Unit)) × (Unit × (Int × (Int × (Unit × Unit))))))))) (yy : ((List (List PC)) × (((List (List PC) × Bool) × (Int × (Int × Unit))) × Unit))) => f51_1_p8 xx.1.1 xx.1.2 xx.2.1 xx.2.2.1 xx.2.2.2.2.2.1 (fun es0_2 es0_3 full0_4 n0_5 n0_6 => K (.exit 2) ⟨mkS 53 [(0, .w (.one (.ref 0 xx.1.1 xx.1.2))), (1, I xx.2.1), (2, I xx.2.2.1), (3, .w (.one (.clo 36 [] [.ptr 1 0 0]))), (8, I xx.2.2.2.2.2.1)], [.vec 1 es0_2 true, .box [.p (.sl 3 es0_3 full0_4), .p (pI n0_5), .p (pI n0_6)]]⟩) (xx.2.2.2.2.2.2.1, yy.1, yy.2.1.1.1, yy.2.1.1.2, yy.2.1.2.1, yy.2.1.2.2.1)
noncomputable def f51_1_p2L : Told := fun s K => match s with
  | ⟨tm, hp⟩ => getS [.v (.one (.ref 0)), .v (.one (.int .i64)), .v (.one (.int .i64)), .v (.clo 36 [] [.ptr 1 0 0]), .skip 4, .v (.one (.int .i64)), .skip 44] [.vec 1 true, .box [.sl 3, .int .i64, .int .i64]] tm hp fun (xx : ((Nat × Nat) × (Int × (Int × ((Unit × (Unit × Unit)) × (Unit × (Int × (Unit × Unit)))))))) (yy : ((List (List PC)) × (((List (List PC) × Bool) × (Int × (Int × Unit))) × Unit))) => f51_1_p2 xx.1.1 xx.1.2 xx.2.1 xx.2.2.1 (fun es0_7 es0_8 full0_9 n0_10 n0_11 => K (.exit 0) ⟨mkS 53 [], [.vec 1 es0_7 true, .box [.p (.sl 3 es0_8 full0_9), .p (pI n0_10), .p (pI n0_11)]]⟩) (xx.2.2.2.2.2.1, yy.1, yy.2.1.1.1, yy.2.1.1.2, yy.2.1.2.1, yy.2.1.2.2.1)
noncomputable def f51_1_tab : List (Nat × Told) := [(13, f51_1_p13L), (8, f51_1_p8L), (2, f51_1_p2L)]
noncomputable def f51_1_call : FuncId → List TV → List Entry → (TV → List Entry → Prop) → Prop := addCall 36 f36_1_G (noCalls)
noncomputable def f51_1_C : Ctx := { ty := tyOf tab, glob := glob, byRef := byRef, keep := fun k i => lookN [] (lookN [] ([(13, [(0, [0, 1, 2, 3, 8, 9]), (1, [0, 1, 2, 3, 8, 9]), (2, []), (3, []), (4, [0, 1, 2, 3, 8]), (5, [0, 1, 2, 3, 8])]), (8, [(0, [0, 1, 2, 3, 8, 9]), (2, []), (3, []), (4, [0, 1, 2, 3, 8]), (5, [0, 1, 2, 3, 8])]), (2, [(0, [0, 1, 2, 3, 8]), (2, []), (3, [])])] : List (Nat × List (Nat × List Nat))) k) i, late := lookN [] ([] : List (Nat × List Nat)), nref := lookN [] ([] : List (Nat × List Nat)), nbox := lookN [] ([] : List (Nat × List (Nat × Nat))), take := [], rnil := true, m := 2, fz := false, loops := lookL f51_1_tab, call := f51_1_call }
set_option maxRecDepth 100000 in
theorem f51_1_p13e0 (i_17 : Nat) (n_18 : Nat) (n_19 : Int) (n_20 : Int) (n_21 : Int) (n_22 : Int) (es_23 : List (List PC)) (es_24 : List (List PC)) (full_25 : Bool) (n_26 : Int) (n_27 : Int) (K : TExit → St → Prop) : (f51_1_p13 i_17 n_18 n_19 n_20 n_21 n_22 es_23 es_24 full_25 n_26 n_27 (fun n0_28 es0_29 => K .normal ⟨mkS 53 [(0, .w (.one (.ref 0 i_17 n_18))), (1, I n_19), (2, I n_20), (3, .w (.one (.clo 36 [] [.ptr 1 0 0]))), (8, I n_21), (9, I n0_28)], [.vec 1 es0_29 true, .box [.p (.sl 3 es_24 full_25), .p (pI n_26), .p (pI n_27)]]⟩)) = execT f51_1_C (nthC (tails (bodyOf Try.f51)) 5) ⟨mkS 53 [(0, .w (.one (.ref 0 i_17 n_18))), (1, I n_19), (2, I n_20), (3, .w (.one (.clo 36 [] [.ptr 1 0 0]))), (8, I n_21), (9, I n_22)], [.vec 1 es_23 true, .box [.p (.sl 3 es_24 full_25), .p (pI n_26), .p (pI n_27)]]⟩ (fun e s => K e (normOut f51_1_C 13 e s)) := by kernel_rfl
noncomputable def f51_1_p8_mk (i20 : Nat) (n21 : Nat) (n22 : Int) (n23 : Int) (n24 : Int) (x : Int × (List (List PC)) × (List (List PC)) × Bool × Int × Int) : St := ⟨mkS 53 [(0, .w (.one (.ref 0 i20 n21))), (1, I n22), (2, I n23), (3, .w (.one (.clo 36 [] [.ptr 1 0 0]))), (8, I n24), (9, I x.1)], [.vec 1 x.2.1 true, .box [.p (.sl 3 x.2.2.1 x.2.2.2.1), .p (pI x.2.2.2.2.1), .p (pI x.2.2.2.2.2)]]⟩
set_option maxRecDepth 100000 in
theorem f51_1_p8e0 (i_41 : Nat) (n_42 : Nat) (n_43 : Int) (n_44 : Int) (n_45 : Int) (n_46 : Int) (es_47 : List (List PC)) (es_48 : List (List PC)) (full_49 : Bool) (n_50 : Int) (n_51 : Int) (N : St → Prop) (K : TExit → St → Prop) : (f51_1_p8b0 i_41 n_42 n_43 n_44 n_45 n_46 es_47 es_48 full_49 n_50 n_51 (fun z5 z6 z7 z8 z9 z10 => N (f51_1_p8_mk i_41 n_42 n_43 n_44 n_45 (z5, z6, z7, z8, z9, z10))) (fun es0_52 es0_53 full0_54 n0_55 n0_56 => K (.exit 2) ⟨mkS 53 [(0, .w (.one (.ref 0 i_41 n_42))), (1, I n_43), (2, I n_44), (3, .w (.one (.clo 36 [] [.ptr 1 0 0]))), (8, I n_45)], [.vec 1 es0_52 true, .box [.p (.sl 3 es0_53 full0_54), .p (pI n0_55), .p (pI n0_56)]]⟩)) = execT f51_1_C (nthC (bodies (bodyOf Try.f51)) 1) (f51_1_p8_mk i_41 n_42 n_43 n_44 n_45 (n_46, es_47, es_48, full_49, n_50, n_51)) (loopK N (normK f51_1_C 8) fun e s => K e (normOut f51_1_C 8 e s)) := by kernel_rfl
noncomputable def f51_1_p2_mk (i10 : Nat) (n11 : Nat) (n12 : Int) (n13 : Int) (x : Int × (List (List PC)) × (List (List PC)) × Bool × Int × Int) : St := ⟨mkS 53 [(0, .w (.one (.ref 0 i10 n11))), (1, I n12), (2, I n13), (3, .w (.one (.clo 36 [] [.ptr 1 0 0]))), (8, I x.1)], [.vec 1 x.2.1 true, .box [.p (.sl 3 x.2.2.1 x.2.2.2.1), .p (pI x.2.2.2.2.1), .p (pI x.2.2.2.2.2)]]⟩
set_option maxRecDepth 100000 in
theorem f51_1_p2e0 (i_67 : Nat) (n_68 : Nat) (n_69 : Int) (n_70 : Int) (n_71 : Int) (es_72 : List (List PC)) (es_73 : List (List PC)) (full_74 : Bool) (n_75 : Int) (n_76 : Int) (N : St → Prop) (K : TExit → St → Prop) : (f51_1_p2b0 i_67 n_68 n_69 n_70 n_71 es_72 es_73 full_74 n_75 n_76 (fun z4 z5 z6 z7 z8 z9 => N (f51_1_p2_mk i_67 n_68 n_69 n_70 (z4, z5, z6, z7, z8, z9))) (fun es0_77 es0_78 full0_79 n0_80 n0_81 => K (.exit 0) ⟨mkS 53 [], [.vec 1 es0_77 true, .box [.p (.sl 3 es0_78 full0_79), .p (pI n0_80), .p (pI n0_81)]]⟩)) = execT f51_1_C (nthC (bodies (bodyOf Try.f51)) 0) (f51_1_p2_mk i_67 n_68 n_69 n_70 (n_71, es_72, es_73, full_74, n_75, n_76)) (loopK N (normK f51_1_C 2) fun e s => K e (normOut f51_1_C 2 e s)) := by kernel_rfl
set_option maxHeartbeats 4000000 in
theorem f51_1_p13_ok : TailOk f51_1_C (nthC (tails (bodyOf Try.f51)) 5) := by
  refine TailOk.of f51_1_p13L (by kernel_rfl) fun σ K h => ?_
  have hk : joinKey (nthC (tails (bodyOf Try.f51)) 5) = 13 := by kernel_rfl
  rw [hk] at h ⊢
  generalize hs : normK f51_1_C 13 σ = s at h
  obtain ⟨tm, hp⟩ := s
  unfold f51_1_p13L at h
  dsimp only at h
  obtain ⟨xx, yy, rfl, rfl, h⟩ := getS_elim h
  have q : normK f51_1_C 13 σ = (⟨mkS 53 [(0, .w (.one (.ref 0 xx.1.1 xx.1.2))), (1, I xx.2.1), (2, I xx.2.2.1), (3, .w (.one (.clo 36 [] [.ptr 1 0 0]))), (8, I xx.2.2.2.2.2.1), (9, I xx.2.2.2.2.2.2.1)], [.vec 1 yy.1 true, .box [.p (.sl 3 yy.2.1.1.1 yy.2.1.1.2), .p (pI yy.2.1.2.1), .p (pI yy.2.1.2.2.1)]]⟩ : St) := hs.trans (by kernel_rfl)
  rw [← hs, q, ← f51_1_p13e0 xx.1.1 xx.1.2 xx.2.1 xx.2.2.1 xx.2.2.2.2.2.1 xx.2.2.2.2.2.2.1 yy.1 yy.2.1.1.1 yy.2.1.1.2 yy.2.1.2.1 yy.2.1.2.2.1 K]
  exact h
set_option maxHeartbeats 4000000 in
theorem f51_1_p8_ok : LoopOk f51_1_C (nthC (bodies (bodyOf Try.f51)) 1) := by
  refine LoopOk.of f51_1_p8L (by kernel_rfl) fun σ K h => ?_
  have hk : loopKey (nthC (bodies (bodyOf Try.f51)) 1) = 8 := by kernel_rfl
  rw [hk] at h ⊢
  generalize hs : normK f51_1_C 8 σ = s at h
  obtain ⟨tm, hp⟩ := s
  unfold f51_1_p8L at h
  dsimp only at h
  obtain ⟨xx, yy, rfl, rfl, h⟩ := getS_elim h
  refine iter_of (f51_1_p8_mk xx.1.1 xx.1.2 xx.2.1 xx.2.2.1 xx.2.2.2.2.2.1) (fun x N h => ?_) rounds _ σ (hs.trans (by kernel_rfl)) (LoopP.run h)
  obtain ⟨y0, y1, y2, y3, y4, y5⟩ := x
  rw [← f51_1_p8e0 xx.1.1 xx.1.2 xx.2.1 xx.2.2.1 xx.2.2.2.2.2.1 y0 y1 y2 y3 y4 y5 N K]
  exact h
set_option maxHeartbeats 4000000 in
theorem f51_1_p2_ok : LoopOk f51_1_C (nthC (bodies (bodyOf Try.f51)) 0) := by
  refine LoopOk.of f51_1_p2L (by kernel_rfl) fun σ K h => ?_
  have hk : loopKey (nthC (bodies (bodyOf Try.f51)) 0) = 2 := by kernel_rfl
  rw [hk] at h ⊢
  generalize hs : normK f51_1_C 2 σ = s at h
  obtain ⟨tm, hp⟩ := s
  unfold f51_1_p2L at h
  dsimp only at h
  obtain ⟨xx, yy, rfl, rfl, h⟩ := getS_elim h
  refine iter_of (f51_1_p2_mk xx.1.1 xx.1.2 xx.2.1 xx.2.2.1) (fun x N h => ?_) rounds _ σ (hs.trans (by kernel_rfl)) (LoopP.run h)
  obtain ⟨y0, y1, y2, y3, y4, y5⟩ := x
  rw [← f51_1_p2e0 xx.1.1 xx.1.2 xx.2.1 xx.2.2.1 y0 y1 y2 y3 y4 y5 N K]
  exact h
noncomputable def f51_1_G0 : List TV → List Entry → (TV → List Entry → Prop) → Prop := fun tm hp K => getS [.v (.one (.ref 0)), .v (.one (.int .i64)), .v (.one (.int .i64)), .v (.clo 36 [] [.ptr 1 0 0])] [.vec 1 true, .box [.sl 3, .int .i64, .int .i64]] tm hp fun (xx : ((Nat × Nat) × (Int × (Int × ((Unit × (Unit × Unit)) × Unit))))) (yy : ((List (List PC)) × (((List (List PC) × Bool) × (Int × (Int × Unit))) × Unit))) => f51_1 xx.1.1 xx.1.2 xx.2.1 xx.2.2.1 yy.1 yy.2.1.1.1 yy.2.1.1.2 yy.2.1.2.1 yy.2.1.2.2.1 (fun es0_12 es0_13 full0_14 n0_15 n0_16 => K undefT [.vec 1 es0_12 true, .box [.p (.sl 3 es0_13 full0_14), .p (pI n0_15), .p (pI n0_16)]])
set_option maxRecDepth 100000 in
theorem f51_1_eq (i_82 : Nat) (n_83 : Nat) (n_84 : Int) (n_85 : Int) (es_86 : List (List PC)) (es_87 : List (List PC)) (full_88 : Bool) (n_89 : Int) (n_90 : Int) (K : TV → List Entry → Prop) : (f51_1_d i_82 n_83 n_84 n_85 es_86 es_87 full_88 n_89 n_90 (fun es0_12 es0_13 full0_14 n0_15 n0_16 => K undefT [.vec 1 es0_12 true, .box [.p (.sl 3 es0_13 full0_14), .p (pI n0_15), .p (pI n0_16)]])) = funcT f51_1_C Try.f51 [.w (.one (.ref 0 i_82 n_83)), I n_84, I n_85, .w (.one (.clo 36 [] [.ptr 1 0 0]))] [.vec 1 es_86 true, .box [.p (.sl 3 es_87 full_88), .p (pI n_89), .p (pI n_90)]] K := by kernel_rfl
set_option maxHeartbeats 4000000 in
theorem f51_1_ok0 : FnOk Try.prog glob 51 f51_1_G0 := by
  refine FnOk.of_text (C := f51_1_C) tab_ok.ok (Known.add f36_1_G_ok (Known.none)) follows_ok (fn := Try.f51) (by kernel_rfl) (by kernel_rfl) (by kernel_rfl) (fun c hc => ?_) fun tm hp K h => ?_
  · have e : c = bodyOf Try.f51 := Option.some.inj (hc.symm.trans (by kernel_rfl))
    subst e
    exact ⟨LoopsOk.of [nthC (bodies (bodyOf Try.f51)) 0, nthC (bodies (bodyOf Try.f51)) 1] (by kernel_rfl) ⟨f51_1_p2_ok, f51_1_p8_ok, trivial⟩, TailsOk.of (tab := f51_1_tab) rfl [nthC (tails (bodyOf Try.f51)) 5] (by kernel_rfl) ⟨f51_1_p13_ok, trivial⟩⟩
  · unfold f51_1_G0 at h
    obtain ⟨xx, yy, rfl, rfl, h⟩ := getS_elim h
    have e := (f51_1_eq xx.1.1 xx.1.2 xx.2.1 xx.2.2.1 yy.1 yy.2.1.1.1 yy.2.1.1.2 yy.2.1.2.1 yy.2.1.2.2.1 K).trans (show _ = funcT f51_1_C Try.f51 (mkR _ xx) (mkE _ yy) K by kernel_rfl)
    rw [← e]
    exact h.run
noncomputable def f51_1_G : List TV → List Entry → (TV → List Entry → Prop) → Prop := fun args H K => bif isSig (sigOf args H) [100, 2, 2, 100036, 7, 22, 20, 5, 2, 2] then f51_1_G0 args H K else f51_G args H K
theorem f51_1_G_ok : FnOk Try.prog glob 51 f51_1_G := FnOk.or _ f51_1_ok0 f51_G_ok
end Go.Eng.N
set_option linter.unusedVariables false
set_option maxRecDepth 100000
open Go Go.Eng Go.Proofs
namespace Go.Eng.N
/-! ### f54_1: slices.swapRangeCmpFunc(int) -/
noncomputable def f54_1_p2b0 (i11 : Nat) (n12 : Nat) (n13 : Int) (n14 : Int) (n15 : Int) (n16 : Int) (es17 : List (List PC)) (es18 : List (List PC)) (full19 : Bool) (n20 : Int) (n21 : Int) (N0 : Int → (List (List PC)) → Prop) (k0 : (List (List PC)) → Prop) : Prop := bB (decide (n16 < n15)) ((0 ≤ (w64 (n14 + n16)) ∧ (w64 (n14 + n16)) < ((n12 : Nat) : Int)) ∧ oI .i64 (ext (List.getD es17 (i11 + (Int.toNat (w64 (n14 + n16)))) []) 0 1) fun n22 => (0 ≤ (w64 (n13 + n16)) ∧ (w64 (n13 + n16)) < ((n12 : Nat) : Int)) ∧ oI .i64 (ext (List.getD es17 (i11 + (Int.toNat (w64 (n13 + n16)))) []) 0 1) fun n23 => (0 ≤ (w64 (n13 + n16)) ∧ (w64 (n13 + n16)) < ((n12 : Nat) : Int)) ∧ (i11 + (Int.toNat (w64 (n13 + n16)))) < es17.length ∧ (0 ≤ (w64 (n14 + n16)) ∧ (w64 (n14 + n16)) < ((n12 : Nat) : Int)) ∧ (i11 + (Int.toNat (w64 (n14 + n16)))) < (List.set es17 (i11 + (Int.toNat (w64 (n13 + n16)))) (splice (List.getD es17 (i11 + (Int.toNat (w64 (n13 + n16)))) []) 0 [pI n22])).length ∧ N0 (w64 (n16 + 1)) (List.set (List.set es17 (i11 + (Int.toNat (w64 (n13 + n16)))) (splice (List.getD es17 (i11 + (Int.toNat (w64 (n13 + n16)))) []) 0 [pI n22])) (i11 + (Int.toNat (w64 (n14 + n16)))) (splice (List.getD (List.set es17 (i11 + (Int.toNat (w64 (n13 + n16)))) (splice (List.getD es17 (i11 + (Int.toNat (w64 (n13 + n16)))) []) 0 [pI n22])) (i11 + (Int.toNat (w64 (n14 + n16)))) []) 0 [pI n23]))) (k0 es17)
noncomputable def f54_1_p2 (i11 : Nat) (n12 : Nat) (n13 : Int) (n14 : Int) (n15 : Int) (es18 : List (List PC)) (full19 : Bool) (n20 : Int) (n21 : Int) (k0 : (List (List PC)) → Prop) : Int × (List (List PC)) → Prop := LoopP fun x N => f54_1_p2b0 i11 n12 n13 n14 n15 x.1 x.2 es18 full19 n20 n21 (fun n16 es17 => N (n16, es17)) k0
noncomputable def f54_1_d (i1 : Nat) (n2 : Nat) (n3 : Int) (n4 : Int) (n5 : Int) (es6 : List (List PC)) (es7 : List (List PC)) (full8 : Bool) (n9 : Int) (n10 : Int) (k0 : (List (List PC)) → (List (List PC)) → Bool → Int → Int → Prop) : Prop := f54_1_p2 i1 n2 n3 n4 n5 es7 full8 n9 n10 (fun es24 => k0 es24 es7 full8 n9 n10) (0, es6)
structure f54_1 (i1 : Nat) (n2 : Nat) (n3 : Int) (n4 : Int) (n5 : Int) (es6 : List (List PC)) (es7 : List (List PC)) (full8 : Bool) (n9 : Int) (n10 : Int) (k0 : (List (List PC)) → (List (List PC)) → Bool → Int → Int → Prop) : Prop where
  run : f54_1_d i1 n2 n3 n4 n5 es6 es7 full8 n9 n10 k0
noncomputable def f54_1_p2L : Told := fun s K => match s with
  | ⟨tm, hp⟩ => getS [.v (.one (.ref 0)), .v (.one (.int .i64)), .v (.one (.int .i64)), .v (.one (.int .i64)), .skip 6, .v (.one (.int .i64)), .skip 27] [.vec 1 true, .box [.sl 3, .int .i64, .int .i64]] tm hp fun (xx : ((Nat × Nat) × (Int × (Int × (Int × (Unit × (Int × (Unit × Unit)))))))) (yy : ((List (List PC)) × (((List (List PC) × Bool) × (Int × (Int × Unit))) × Unit))) => f54_1_p2 xx.1.1 xx.1.2 xx.2.1 xx.2.2.1 xx.2.2.2.1 yy.2.1.1.1 yy.2.1.1.2 yy.2.1.2.1 yy.2.1.2.2.1 (fun es0_0 => K (.exit 0) ⟨mkS 38 [], [.vec 1 es0_0 true, .box [.p (.sl 3 yy.2.1.1.1 yy.2.1.1.2), .p (pI yy.2.1.2.1), .p (pI yy.2.1.2.2.1)]]⟩) (xx.2.2.2.2.2.1, yy.1)
noncomputable def f54_1_tab : List (Nat × Told) := [(2, f54_1_p2L)]
noncomputable def f54_1_call : FuncId → List TV → List Entry → (TV → List Entry → Prop) → Prop := noCalls
noncomputable def f54_1_C : Ctx := { ty := tyOf tab, glob := glob, byRef := byRef, keep := fun k i => lookN [] (lookN [] ([(2, [(0, [0, 1, 2, 3, 10]), (2, []), (3, [])])] : List (Nat × List (Nat × List Nat))) k) i, late := lookN [] ([] : List (Nat × List Nat)), nref := lookN [] ([] : List (Nat × List Nat)), nbox := lookN [] ([] : List (Nat × List (Nat × Nat))), take := [], rnil := true, m := 2, fz := false, loops := lookL f54_1_tab, call := f54_1_call }
noncomputable def f54_1_p2_mk (i11 : Nat) (n12 : Nat) (n13 : Int) (n14 : Int) (n15 : Int) (es18 : List (List PC)) (full19 : Bool) (n20 : Int) (n21 : Int) (x : Int × (List (List PC))) : St := ⟨mkS 38 [(0, .w (.one (.ref 0 i11 n12))), (1, I n13), (2, I n14), (3, I n15), (10, I x.1)], [.vec 1 x.2 true, .box [.p (.sl 3 es18 full19), .p (pI n20), .p (pI n21)]]⟩
set_option maxRecDepth 100000 in
theorem f54_1_p2e0 (i_17 : Nat) (n_18 : Nat) (n_19 : Int) (n_20 : Int) (n_21 : Int) (n_22 : Int) (es_23 : List (List PC)) (es_24 : List (List PC)) (full_25 : Bool) (n_26 : Int) (n_27 : Int) (N : St → Prop) (K : TExit → St → Prop) : (f54_1_p2b0 i_17 n_18 n_19 n_20 n_21 n_22 es_23 es_24 full_25 n_26 n_27 (fun z5 z6 => N (f54_1_p2_mk i_17 n_18 n_19 n_20 n_21 es_24 full_25 n_26 n_27 (z5, z6))) (fun es0_28 => K (.exit 0) ⟨mkS 38 [], [.vec 1 es0_28 true, .box [.p (.sl 3 es_24 full_25), .p (pI n_26), .p (pI n_27)]]⟩)) = execT f54_1_C (nthC (bodies (bodyOf Try.f54)) 0) (f54_1_p2_mk i_17 n_18 n_19 n_20 n_21 es_24 full_25 n_26 n_27 (n_22, es_23)) (loopK N (normK f54_1_C 2) fun e s => K e (normOut f54_1_C 2 e s)) := by kernel_rfl
set_option maxHeartbeats 4000000 in
theorem f54_1_p2_ok : LoopOk f54_1_C (nthC (bodies (bodyOf Try.f54)) 0) := by
  refine LoopOk.of f54_1_p2L (by kernel_rfl) fun σ K h => ?_
  have hk : loopKey (nthC (bodies (bodyOf Try.f54)) 0) = 2 := by kernel_rfl
  rw [hk] at h ⊢
  generalize hs : normK f54_1_C 2 σ = s at h
  obtain ⟨tm, hp⟩ := s
  unfold f54_1_p2L at h
  dsimp only at h
  obtain ⟨xx, yy, rfl, rfl, h⟩ := getS_elim h
  refine iter_of (f54_1_p2_mk xx.1.1 xx.1.2 xx.2.1 xx.2.2.1 xx.2.2.2.1 yy.2.1.1.1 yy.2.1.1.2 yy.2.1.2.1 yy.2.1.2.2.1) (fun x N h => ?_) rounds _ σ (hs.trans (by kernel_rfl)) (LoopP.run h)
  obtain ⟨y0, y1⟩ := x
  rw [← f54_1_p2e0 xx.1.1 xx.1.2 xx.2.1 xx.2.2.1 xx.2.2.2.1 y0 y1 yy.2.1.1.1 yy.2.1.1.2 yy.2.1.2.1 yy.2.1.2.2.1 N K]
  exact h
noncomputable def f54_1_G0 : List TV → List Entry → (TV → List Entry → Prop) → Prop := fun tm hp K => getS [.v (.one (.ref 0)), .v (.one (.int .i64)), .v (.one (.int .i64)), .v (.one (.int .i64)), .v (.clo 36 [] [.ptr 1 0 0])] [.vec 1 true, .box [.sl 3, .int .i64, .int .i64]] tm hp fun (xx : ((Nat × Nat) × (Int × (Int × (Int × ((Unit × (Unit × Unit)) × Unit)))))) (yy : ((List (List PC)) × (((List (List PC) × Bool) × (Int × (Int × Unit))) × Unit))) => f54_1 xx.1.1 xx.1.2 xx.2.1 xx.2.2.1 xx.2.2.2.1 yy.1 yy.2.1.1.1 yy.2.1.1.2 yy.2.1.2.1 yy.2.1.2.2.1 (fun es0_1 es0_2 full0_3 n0_4 n0_5 => K undefT [.vec 1 es0_1 true, .box [.p (.sl 3 es0_2 full0_3), .p (pI n0_4), .p (pI n0_5)]])
set_option maxRecDepth 100000 in
theorem f54_1_eq (i_29 : Nat) (n_30 : Nat) (n_31 : Int) (n_32 : Int) (n_33 : Int) (es_34 : List (List PC)) (es_35 : List (List PC)) (full_36 : Bool) (n_37 : Int) (n_38 : Int) (K : TV → List Entry → Prop) : (f54_1_d i_29 n_30 n_31 n_32 n_33 es_34 es_35 full_36 n_37 n_38 (fun es0_1 es0_2 full0_3 n0_4 n0_5 => K undefT [.vec 1 es0_1 true, .box [.p (.sl 3 es0_2 full0_3), .p (pI n0_4), .p (pI n0_5)]])) = funcT f54_1_C Try.f54 [.w (.one (.ref 0 i_29 n_30)), I n_31, I n_32, I n_33, .w (.one (.clo 36 [] [.ptr 1 0 0]))] [.vec 1 es_34 true, .box [.p (.sl 3 es_35 full_36), .p (pI n_37), .p (pI n_38)]] K := by kernel_rfl
set_option maxHeartbeats 4000000 in
theorem f54_1_ok0 : FnOk Try.prog glob 54 f54_1_G0 := by
  refine FnOk.of_text (C := f54_1_C) tab_ok.ok (Known.none) follows_ok (fn := Try.f54) (by kernel_rfl) (by kernel_rfl) (by kernel_rfl) (fun c hc => ?_) fun tm hp K h => ?_
  · have e : c = bodyOf Try.f54 := Option.some.inj (hc.symm.trans (by kernel_rfl))
    subst e
    exact ⟨LoopsOk.of [nthC (bodies (bodyOf Try.f54)) 0] (by kernel_rfl) ⟨f54_1_p2_ok, trivial⟩, TailsOk.of (tab := f54_1_tab) rfl [] (by kernel_rfl) trivial⟩
  · unfold f54_1_G0 at h
    obtain ⟨xx, yy, rfl, rfl, h⟩ := getS_elim h
    have e := (f54_1_eq xx.1.1 xx.1.2 xx.2.1 xx.2.2.1 xx.2.2.2.1 yy.1 yy.2.1.1.1 yy.2.1.1.2 yy.2.1.2.1 yy.2.1.2.2.1 K).trans (show _ = funcT f54_1_C Try.f54 (mkR _ xx) (mkE _ yy) K by kernel_rfl)
    rw [← e]
    exact h.run
noncomputable def f54_1_G : List TV → List Entry → (TV → List Entry → Prop) → Prop := fun args H K => bif isSig (sigOf args H) [100, 2, 2, 2, 100036, 7, 22, 20, 5, 2, 2] then f54_1_G0 args H K else f54_G args H K
theorem f54_1_G_ok : FnOk Try.prog glob 54 f54_1_G := FnOk.or _ f54_1_ok0 f54_G_ok
end Go.Eng.N
set_option linter.unusedVariables false
set_option maxRecDepth 100000
open Go Go.Eng Go.Proofs
namespace Go.Eng.N
/-! ### f53_1: slices.rotateCmpFunc(int) -/
noncomputable def f53_1_p4b0 (i11 : Nat) (n12 : Nat) (n13 : Int) (n14 : Int) (n15 : Int) (es16 : List (List PC)) (es17 : List (List PC)) (full18 : Bool) (n19 : Int) (n20 : Int) (N0 : Int → Int → (List (List PC)) → (List (List PC)) → Bool → Int → Int → Prop) (k0 : Int → (List (List PC)) → (List (List PC)) → Bool → Int → Int → Prop) : Prop := bB (n14 != n15) (bB (decide (n14 > n15)) (f54_1 i11 n12 (w64 (n13 - n14)) n13 n15 es16 es17 full18 n19 n20 (fun es21 es22 full23 n24 n25 => N0 (w64 (n14 - n15)) n15 es21 es22 full23 n24 n25)) (f54_1 i11 n12 (w64 (n13 - n14)) (w64 ((w64 (n13 + n15)) - n14)) n14 es16 es17 full18 n19 n20 (fun es26 es27 full28 n29 n30 => N0 n14 (w64 (n15 - n14)) es26 es27 full28 n29 n30))) (k0 n14 es16 es17 full18 n19 n20)
noncomputable def f53_1_p4 (i11 : Nat) (n12 : Nat) (n13 : Int) (k0 : Int → (List (List PC)) → (List (List PC)) → Bool → Int → Int → Prop) : Int × Int × (List (List PC)) × (List (List PC)) × Bool × Int × Int → Prop := LoopP fun x N => f53_1_p4b0 i11 n12 n13 x.1 x.2.1 x.2.2.1 x.2.2.2.1 x.2.2.2.2.1 x.2.2.2.2.2.1 x.2.2.2.2.2.2 (fun n14 n15 es16 es17 full18 n19 n20 => N (n14, n15, es16, es17, full18, n19, n20)) k0
noncomputable def f53_1_d (i1 : Nat) (n2 : Nat) (n3 : Int) (n4 : Int) (n5 : Int) (es6 : List (List PC)) (es7 : List (List PC)) (full8 : Bool) (n9 : Int) (n10 : Int) (k0 : (List (List PC)) → (List (List PC)) → Bool → Int → Int → Prop) : Prop := f53_1_p4 i1 n2 n4 (fun n31 es32 es33 full34 n35 n36 => f54_1 i1 n2 (w64 (n4 - n31)) n4 n31 es32 es33 full34 n35 n36 (fun es37 es38 full39 n40 n41 => k0 es37 es38 full39 n40 n41)) ((w64 (n4 - n3)), (w64 (n5 - n4)), es6, es7, full8, n9, n10)
structure f53_1 (i1 : Nat) (n2 : Nat) (n3 : Int) (n4 : Int) (n5 : Int) (es6 : List (List PC)) (es7 : List (List PC)) (full8 : Bool) (n9 : Int) (n10 : Int) (k0 : (List (List PC)) → (List (List PC)) → Bool → Int → Int → Prop) : Prop where
  run : f53_1_d i1 n2 n3 n4 n5 es6 es7 full8 n9 n10 k0
noncomputable def f53_1_p4L : Told := fun s K => match s with
  | ⟨tm, hp⟩ => getS [.v (.one (.ref 0)), .skip 1, .v (.one (.int .i64)), .skip 1, .v (.clo 36 [] [.ptr 1 0 0]), .skip 5, .v (.one (.int .i64)), .v (.one (.int .i64)), .skip 46] [.vec 1 true, .box [.sl 3, .int .i64, .int .i64]] tm hp fun (xx : ((Nat × Nat) × (Unit × (Int × (Unit × ((Unit × (Unit × Unit)) × (Unit × (Int × (Int × (Unit × Unit)))))))))) (yy : ((List (List PC)) × (((List (List PC) × Bool) × (Int × (Int × Unit))) × Unit))) => f53_1_p4 xx.1.1 xx.1.2 xx.2.2.1 (fun n0_0 es0_1 es0_2 full0_3 n0_4 n0_5 => K (.exit 0) ⟨mkS 58 [(0, .w (.one (.ref 0 xx.1.1 xx.1.2))), (2, I xx.2.2.1), (4, .w (.one (.clo 36 [] [.ptr 1 0 0]))), (10, I n0_0)], [.vec 1 es0_1 true, .box [.p (.sl 3 es0_2 full0_3), .p (pI n0_4), .p (pI n0_5)]]⟩) (xx.2.2.2.2.2.2.1, xx.2.2.2.2.2.2.2.1, yy.1, yy.2.1.1.1, yy.2.1.1.2, yy.2.1.2.1, yy.2.1.2.2.1)
noncomputable def f53_1_tab : List (Nat × Told) := [(4, f53_1_p4L)]
noncomputable def f53_1_call : FuncId → List TV → List Entry → (TV → List Entry → Prop) → Prop := addCall 54 f54_1_G (noCalls)
noncomputable def f53_1_C : Ctx := { ty := tyOf tab, glob := glob, byRef := byRef, keep := fun k i => lookN [] (lookN [] ([(4, [(0, [0, 2, 4, 10, 11]), (2, []), (3, [0, 2, 4, 10])])] : List (Nat × List (Nat × List Nat))) k) i, late := lookN [] ([] : List (Nat × List Nat)), nref := lookN [] ([] : List (Nat × List Nat)), nbox := lookN [] ([] : List (Nat × List (Nat × Nat))), take := [], rnil := true, m := 2, fz := false, loops := lookL f53_1_tab, call := f53_1_call }
noncomputable def f53_1_p4_mk (i11 : Nat) (n12 : Nat) (n13 : Int) (x : Int × Int × (List (List PC)) × (List (List PC)) × Bool × Int × Int) : St := ⟨mkS 58 [(0, .w (.one (.ref 0 i11 n12))), (2, I n13), (4, .w (.one (.clo 36 [] [.ptr 1 0 0]))), (10, I x.1), (11, I x.2.1)], [.vec 1 x.2.2.1 true, .box [.p (.sl 3 x.2.2.2.1 x.2.2.2.2.1), .p (pI x.2.2.2.2.2.1), .p (pI x.2.2.2.2.2.2)]]⟩
set_option maxRecDepth 100000 in
theorem f53_1_p4e0 (i_21 : Nat) (n_22 : Nat) (n_23 : Int) (n_24 : Int) (n_25 : Int) (es_26 : List (List PC)) (es_27 : List (List PC)) (full_28 : Bool) (n_29 : Int) (n_30 : Int) (N : St → Prop) (K : TExit → St → Prop) : (f53_1_p4b0 i_21 n_22 n_23 n_24 n_25 es_26 es_27 full_28 n_29 n_30 (fun z3 z4 z5 z6 z7 z8 z9 => N (f53_1_p4_mk i_21 n_22 n_23 (z3, z4, z5, z6, z7, z8, z9))) (fun n0_31 es0_32 es0_33 full0_34 n0_35 n0_36 => K (.exit 0) ⟨mkS 58 [(0, .w (.one (.ref 0 i_21 n_22))), (2, I n_23), (4, .w (.one (.clo 36 [] [.ptr 1 0 0]))), (10, I n0_31)], [.vec 1 es0_32 true, .box [.p (.sl 3 es0_33 full0_34), .p (pI n0_35), .p (pI n0_36)]]⟩)) = execT f53_1_C (nthC (bodies (bodyOf Try.f53)) 0) (f53_1_p4_mk i_21 n_22 n_23 (n_24, n_25, es_26, es_27, full_28, n_29, n_30)) (loopK N (normK f53_1_C 4) fun e s => K e (normOut f53_1_C 4 e s)) := by kernel_rfl
set_option maxHeartbeats 4000000 in
theorem f53_1_p4_ok : LoopOk f53_1_C (nthC (bodies (bodyOf Try.f53)) 0) := by
  refine LoopOk.of f53_1_p4L (by kernel_rfl) fun σ K h => ?_
  have hk : loopKey (nthC (bodies (bodyOf Try.f53)) 0) = 4 := by kernel_rfl
  rw [hk] at h ⊢
  generalize hs : normK f53_1_C 4 σ = s at h
  obtain ⟨tm, hp⟩ := s
  unfold f53_1_p4L at h
  dsimp only at h
  obtain ⟨xx, yy, rfl, rfl, h⟩ := getS_elim h
  refine iter_of (f53_1_p4_mk xx.1.1 xx.1.2 xx.2.2.1) (fun x N h => ?_) rounds _ σ (hs.trans (by kernel_rfl)) (LoopP.run h)
  obtain ⟨y0, y1, y2, y3, y4, y5, y6⟩ := x
  rw [← f53_1_p4e0 xx.1.1 xx.1.2 xx.2.2.1 y0 y1 y2 y3 y4 y5 y6 N K]
  exact h
noncomputable def f53_1_G0 : List TV → List Entry → (TV → List Entry → Prop) → Prop := fun tm hp K => getS [.v (.one (.ref 0)), .v (.one (.int .i64)), .v (.one (.int .i64)), .v (.one (.int .i64)), .v (.clo 36 [] [.ptr 1 0 0])] [.vec 1 true, .box [.sl 3, .int .i64, .int .i64]] tm hp fun (xx : ((Nat × Nat) × (Int × (Int × (Int × ((Unit × (Unit × Unit)) × Unit)))))) (yy : ((List (List PC)) × (((List (List PC) × Bool) × (Int × (Int × Unit))) × Unit))) => f53_1 xx.1.1 xx.1.2 xx.2.1 xx.2.2.1 xx.2.2.2.1 yy.1 yy.2.1.1.1 yy.2.1.1.2 yy.2.1.2.1 yy.2.1.2.2.1 (fun es0_6 es0_7 full0_8 n0_9 n0_10 => K undefT [.vec 1 es0_6 true, .box [.p (.sl 3 es0_7 full0_8), .p (pI n0_9), .p (pI n0_10)]])
set_option maxRecDepth 100000 in
theorem f53_1_eq (i_37 : Nat) (n_38 : Nat) (n_39 : Int) (n_40 : Int) (n_41 : Int) (es_42 : List (List PC)) (es_43 : List (List PC)) (full_44 : Bool) (n_45 : Int) (n_46 : Int) (K : TV → List Entry → Prop) : (f53_1_d i_37 n_38 n_39 n_40 n_41 es_42 es_43 full_44 n_45 n_46 (fun es0_6 es0_7 full0_8 n0_9 n0_10 => K undefT [.vec 1 es0_6 true, .box [.p (.sl 3 es0_7 full0_8), .p (pI n0_9), .p (pI n0_10)]])) = funcT f53_1_C Try.f53 [.w (.one (.ref 0 i_37 n_38)), I n_39, I n_40, I n_41, .w (.one (.clo 36 [] [.ptr 1 0 0]))] [.vec 1 es_42 true, .box [.p (.sl 3 es_43 full_44), .p (pI n_45), .p (pI n_46)]] K := by kernel_rfl
set_option maxHeartbeats 4000000 in
theorem f53_1_ok0 : FnOk Try.prog glob 53 f53_1_G0 := by
  refine FnOk.of_text (C := f53_1_C) tab_ok.ok (Known.add f54_1_G_ok (Known.none)) follows_ok (fn := Try.f53) (by kernel_rfl) (by kernel_rfl) (by kernel_rfl) (fun c hc => ?_) fun tm hp K h => ?_
  · have e : c = bodyOf Try.f53 := Option.some.inj (hc.symm.trans (by kernel_rfl))
    subst e
    exact ⟨LoopsOk.of [nthC (bodies (bodyOf Try.f53)) 0] (by kernel_rfl) ⟨f53_1_p4_ok, trivial⟩, TailsOk.of (tab := f53_1_tab) rfl [] (by kernel_rfl) trivial⟩
  · unfold f53_1_G0 at h
    obtain ⟨xx, yy, rfl, rfl, h⟩ := getS_elim h
    have e := (f53_1_eq xx.1.1 xx.1.2 xx.2.1 xx.2.2.1 xx.2.2.2.1 yy.1 yy.2.1.1.1 yy.2.1.1.2 yy.2.1.2.1 yy.2.1.2.2.1 K).trans (show _ = funcT f53_1_C Try.f53 (mkR _ xx) (mkE _ yy) K by kernel_rfl)
    rw [← e]
    exact h.run
noncomputable def f53_1_G : List TV → List Entry → (TV → List Entry → Prop) → Prop := fun args H K => bif isSig (sigOf args H) [100, 2, 2, 2, 100036, 7, 22, 20, 5, 2, 2] then f53_1_G0 args H K else f53_G args H K
theorem f53_1_G_ok : FnOk Try.prog glob 53 f53_1_G := FnOk.or _ f53_1_ok0 f53_G_ok
end Go.Eng.N
set_option linter.unusedVariables false
set_option maxRecDepth 100000
open Go Go.Eng Go.Proofs
namespace Go.Eng.N
/-! ### f52_1: slices.symMergeCmpFunc(int) -/
noncomputable abbrev f52_1_T : Type := Nat → Nat → Int → Int → Int → (List (List PC)) → (List (List PC)) → Bool → Int → Int → ((List (List PC)) → (List (List PC)) → Bool → Int → Int → Prop) → Prop
noncomputable def f52_1_p6b0 (R : f52_1_T) (i11 : Nat) (n12 : Nat) (n13 : Int) (n14 : Int) (n15 : Int) (es16 : List (List PC)) (es17 : List (List PC)) (full18 : Bool) (n19 : Int) (n20 : Int) (N0 : Int → Int → (List (List PC)) → Bool → Int → Int → Prop) (k0 : Int → (List (List PC)) → Bool → Int → Int → Prop) : Prop := bB (decide (n14 < n15)) (0 ≤ (1 : Int) ∧ (0 ≤ (w64 (Int.fdiv (IntKind.wrap .u64 (w64 (n14 + n15))) (2 ^ (min (Int.toNat 1) 64)))) ∧ (w64 (Int.fdiv (IntKind.wrap .u64 (w64 (n14 + n15))) (2 ^ (min (Int.toNat 1) 64)))) < ((n12 : Nat) : Int)) ∧ oI .i64 (ext (List.getD es16 (i11 + (Int.toNat (w64 (Int.fdiv (IntKind.wrap .u64 (w64 (n14 + n15))) (2 ^ (min (Int.toNat 1) 64)))))) []) 0 1) fun n21 => (0 ≤ n13 ∧ n13 < ((n12 : Nat) : Int)) ∧ oI .i64 (ext (List.getD es16 (i11 + (Int.toNat n13)) []) 0 1) fun n22 => f36_1 n21 n22 es17 full18 n19 n20 (fun n23 es24 full25 n26 n27 => bB (decide (n23 < 0)) (N0 (w64 ((w64 (Int.fdiv (IntKind.wrap .u64 (w64 (n14 + n15))) (2 ^ (min (Int.toNat 1) 64)))) + 1)) n15 es24 full25 n26 n27) (N0 n14 (w64 (Int.fdiv (IntKind.wrap .u64 (w64 (n14 + n15))) (2 ^ (min (Int.toNat 1) 64)))) es24 full25 n26 n27))) (k0 n14 es17 full18 n19 n20)
noncomputable def f52_1_p6 (R : f52_1_T) (i11 : Nat) (n12 : Nat) (n13 : Int) (es16 : List (List PC)) (k0 : Int → (List (List PC)) → Bool → Int → Int → Prop) : Int × Int × (List (List PC)) × Bool × Int × Int → Prop := LoopP fun x N => (f52_1_p6b0 R) i11 n12 n13 x.1 x.2.1 es16 x.2.2.1 x.2.2.2.1 x.2.2.2.2.1 x.2.2.2.2.2 (fun n14 n15 es17 full18 n19 n20 => N (n14, n15, es17, full18, n19, n20)) k0
noncomputable def f52_1_p18b0 (R : f52_1_T) (i33 : Nat) (n34 : Nat) (n35 : Int) (n36 : Int) (es37 : List (List PC)) (es38 : List (List PC)) (full39 : Bool) (n40 : Int) (n41 : Int) (N0 : Int → (List (List PC)) → Prop) (k0 : (List (List PC)) → Prop) : Prop := bB (decide (n36 < (w64 (n35 - 1)))) ((0 ≤ (w64 (n36 + 1)) ∧ (w64 (n36 + 1)) < ((n34 : Nat) : Int)) ∧ oI .i64 (ext (List.getD es37 (i33 + (Int.toNat (w64 (n36 + 1)))) []) 0 1) fun n42 => (0 ≤ n36 ∧ n36 < ((n34 : Nat) : Int)) ∧ oI .i64 (ext (List.getD es37 (i33 + (Int.toNat n36)) []) 0 1) fun n43 => (0 ≤ n36 ∧ n36 < ((n34 : Nat) : Int)) ∧ (i33 + (Int.toNat n36)) < es37.length ∧ (0 ≤ (w64 (n36 + 1)) ∧ (w64 (n36 + 1)) < ((n34 : Nat) : Int)) ∧ (i33 + (Int.toNat (w64 (n36 + 1)))) < (List.set es37 (i33 + (Int.toNat n36)) (splice (List.getD es37 (i33 + (Int.toNat n36)) []) 0 [pI n42])).length ∧ N0 (w64 (n36 + 1)) (List.set (List.set es37 (i33 + (Int.toNat n36)) (splice (List.getD es37 (i33 + (Int.toNat n36)) []) 0 [pI n42])) (i33 + (Int.toNat (w64 (n36 + 1)))) (splice (List.getD (List.set es37 (i33 + (Int.toNat n36)) (splice (List.getD es37 (i33 + (Int.toNat n36)) []) 0 [pI n42])) (i33 + (Int.toNat (w64 (n36 + 1)))) []) 0 [pI n43]))) (k0 es37)
noncomputable def f52_1_p18 (R : f52_1_T) (i33 : Nat) (n34 : Nat) (n35 : Int) (es38 : List (List PC)) (full39 : Bool) (n40 : Int) (n41 : Int) (k0 : (List (List PC)) → Prop) : Int × (List (List PC)) → Prop := LoopP fun x N => (f52_1_p18b0 R) i33 n34 n35 x.1 x.2 es38 full39 n40 n41 (fun n36 es37 => N (n36, es37)) k0
noncomputable def f52_1_p30b0 (R : f52_1_T) (i45 : Nat) (n46 : Nat) (n47 : Int) (n48 : Int) (n49 : Int) (es50 : List (List PC)) (es51 : List (List PC)) (full52 : Bool) (n53 : Int) (n54 : Int) (N0 : Int → Int → (List (List PC)) → Bool → Int → Int → Prop) (k0 : Int → (List (List PC)) → Bool → Int → Int → Prop) : Prop := bB (decide (n48 < n49)) (0 ≤ (1 : Int) ∧ (0 ≤ n47 ∧ n47 < ((n46 : Nat) : Int)) ∧ oI .i64 (ext (List.getD es50 (i45 + (Int.toNat n47)) []) 0 1) fun n55 => (0 ≤ (w64 (Int.fdiv (IntKind.wrap .u64 (w64 (n48 + n49))) (2 ^ (min (Int.toNat 1) 64)))) ∧ (w64 (Int.fdiv (IntKind.wrap .u64 (w64 (n48 + n49))) (2 ^ (min (Int.toNat 1) 64)))) < ((n46 : Nat) : Int)) ∧ oI .i64 (ext (List.getD es50 (i45 + (Int.toNat (w64 (Int.fdiv (IntKind.wrap .u64 (w64 (n48 + n49))) (2 ^ (min (Int.toNat 1) 64)))))) []) 0 1) fun n56 => f36_1 n55 n56 es51 full52 n53 n54 (fun n57 es58 full59 n60 n61 => bB (!(decide (n57 < 0))) (N0 (w64 ((w64 (Int.fdiv (IntKind.wrap .u64 (w64 (n48 + n49))) (2 ^ (min (Int.toNat 1) 64)))) + 1)) n49 es58 full59 n60 n61) (N0 n48 (w64 (Int.fdiv (IntKind.wrap .u64 (w64 (n48 + n49))) (2 ^ (min (Int.toNat 1) 64)))) es58 full59 n60 n61))) (k0 n48 es51 full52 n53 n54)
noncomputable def f52_1_p30 (R : f52_1_T) (i45 : Nat) (n46 : Nat) (n47 : Int) (es50 : List (List PC)) (k0 : Int → (List (List PC)) → Bool → Int → Int → Prop) : Int × Int × (List (List PC)) × Bool × Int × Int → Prop := LoopP fun x N => (f52_1_p30b0 R) i45 n46 n47 x.1 x.2.1 es50 x.2.2.1 x.2.2.2.1 x.2.2.2.2.1 x.2.2.2.2.2 (fun n48 n49 es51 full52 n53 n54 => N (n48, n49, es51, full52, n53, n54)) k0
noncomputable def f52_1_p42b0 (R : f52_1_T) (i67 : Nat) (n68 : Nat) (n69 : Int) (n70 : Int) (es71 : List (List PC)) (es72 : List (List PC)) (full73 : Bool) (n74 : Int) (n75 : Int) (N0 : Int → (List (List PC)) → Prop) (k0 : (List (List PC)) → Prop) : Prop := bB (decide (n70 > n69)) ((0 ≤ (w64 (n70 - 1)) ∧ (w64 (n70 - 1)) < ((n68 : Nat) : Int)) ∧ oI .i64 (ext (List.getD es71 (i67 + (Int.toNat (w64 (n70 - 1)))) []) 0 1) fun n76 => (0 ≤ n70 ∧ n70 < ((n68 : Nat) : Int)) ∧ oI .i64 (ext (List.getD es71 (i67 + (Int.toNat n70)) []) 0 1) fun n77 => (0 ≤ n70 ∧ n70 < ((n68 : Nat) : Int)) ∧ (i67 + (Int.toNat n70)) < es71.length ∧ (0 ≤ (w64 (n70 - 1)) ∧ (w64 (n70 - 1)) < ((n68 : Nat) : Int)) ∧ (i67 + (Int.toNat (w64 (n70 - 1)))) < (List.set es71 (i67 + (Int.toNat n70)) (splice (List.getD es71 (i67 + (Int.toNat n70)) []) 0 [pI n76])).length ∧ N0 (w64 (n70 - 1)) (List.set (List.set es71 (i67 + (Int.toNat n70)) (splice (List.getD es71 (i67 + (Int.toNat n70)) []) 0 [pI n76])) (i67 + (Int.toNat (w64 (n70 - 1)))) (splice (List.getD (List.set es71 (i67 + (Int.toNat n70)) (splice (List.getD es71 (i67 + (Int.toNat n70)) []) 0 [pI n76])) (i67 + (Int.toNat (w64 (n70 - 1)))) []) 0 [pI n77]))) (k0 es71)
noncomputable def f52_1_p42 (R : f52_1_T) (i67 : Nat) (n68 : Nat) (n69 : Int) (es72 : List (List PC)) (full73 : Bool) (n74 : Int) (n75 : Int) (k0 : (List (List PC)) → Prop) : Int × (List (List PC)) → Prop := LoopP fun x N => (f52_1_p42b0 R) i67 n68 n69 x.1 x.2 es72 full73 n74 n75 (fun n70 es71 => N (n70, es71)) k0
noncomputable def f52_1_p66b0 (R : f52_1_T) (i93 : Nat) (n94 : Nat) (n95 : Int) (n96 : Int) (n97 : Int) (n98 : Int) (n99 : Int) (n100 : Int) (n101 : Int) (n102 : Int) (es103 : List (List PC)) (es104 : List (List PC)) (full105 : Bool) (n106 : Int) (n107 : Int) (N0 : Int → Int → (List (List PC)) → Bool → Int → Int → Prop) (k0 : Int → (List (List PC)) → Bool → Int → Int → Prop) : Prop := bB (decide (n100 < n101)) (0 ≤ (1 : Int) ∧ (0 ≤ (w64 (n102 - (w64 (Int.fdiv (IntKind.wrap .u64 (w64 (n100 + n101))) (2 ^ (min (Int.toNat 1) 64)))))) ∧ (w64 (n102 - (w64 (Int.fdiv (IntKind.wrap .u64 (w64 (n100 + n101))) (2 ^ (min (Int.toNat 1) 64)))))) < ((n94 : Nat) : Int)) ∧ oI .i64 (ext (List.getD es103 (i93 + (Int.toNat (w64 (n102 - (w64 (Int.fdiv (IntKind.wrap .u64 (w64 (n100 + n101))) (2 ^ (min (Int.toNat 1) 64)))))))) []) 0 1) fun n108 => (0 ≤ (w64 (Int.fdiv (IntKind.wrap .u64 (w64 (n100 + n101))) (2 ^ (min (Int.toNat 1) 64)))) ∧ (w64 (Int.fdiv (IntKind.wrap .u64 (w64 (n100 + n101))) (2 ^ (min (Int.toNat 1) 64)))) < ((n94 : Nat) : Int)) ∧ oI .i64 (ext (List.getD es103 (i93 + (Int.toNat (w64 (Int.fdiv (IntKind.wrap .u64 (w64 (n100 + n101))) (2 ^ (min (Int.toNat 1) 64)))))) []) 0 1) fun n109 => f36_1 n108 n109 es104 full105 n106 n107 (fun n110 es111 full112 n113 n114 => bB (!(decide (n110 < 0))) (N0 (w64 ((w64 (Int.fdiv (IntKind.wrap .u64 (w64 (n100 + n101))) (2 ^ (min (Int.toNat 1) 64)))) + 1)) n101 es111 full112 n113 n114) (N0 n100 (w64 (Int.fdiv (IntKind.wrap .u64 (w64 (n100 + n101))) (2 ^ (min (Int.toNat 1) 64)))) es111 full112 n113 n114))) (k0 n100 es104 full105 n106 n107)
noncomputable def f52_1_p66 (R : f52_1_T) (i93 : Nat) (n94 : Nat) (n95 : Int) (n96 : Int) (n97 : Int) (n98 : Int) (n99 : Int) (n102 : Int) (es103 : List (List PC)) (k0 : Int → (List (List PC)) → Bool → Int → Int → Prop) : Int × Int × (List (List PC)) × Bool × Int × Int → Prop := LoopP fun x N => (f52_1_p66b0 R) i93 n94 n95 n96 n97 n98 n99 x.1 x.2.1 n102 es103 x.2.2.1 x.2.2.2.1 x.2.2.2.2.1 x.2.2.2.2.2 (fun n100 n101 es104 full105 n106 n107 => N (n100, n101, es104, full105, n106, n107)) k0
noncomputable def f52_1_p87 (R : f52_1_T) (i142 : Nat) (n143 : Nat) (n144 : Int) (n145 : Int) (n146 : Int) (es147 : List (List PC)) (es148 : List (List PC)) (full149 : Bool) (n150 : Int) (n151 : Int) (k0 : (List (List PC)) → (List (List PC)) → Bool → Int → Int → Prop) : Prop := bB (decide (n145 < n146)) (bB (decide (n146 < n144)) (R i142 n143 n145 n146 n144 es147 es148 full149 n150 n151 (fun es152 es153 full154 n155 n156 => k0 es152 es153 full154 n155 n156)) (k0 es147 es148 full149 n150 n151)) (k0 es147 es148 full149 n150 n151)
noncomputable def f52_1_p83 (R : f52_1_T) (i125 : Nat) (n126 : Nat) (n127 : Int) (n128 : Int) (n129 : Int) (n130 : Int) (n131 : Int) (es132 : List (List PC)) (es133 : List (List PC)) (full134 : Bool) (n135 : Int) (n136 : Int) (k0 : (List (List PC)) → (List (List PC)) → Bool → Int → Int → Prop) : Prop := bB (decide (n127 < n130)) (bB (decide (n130 < n129)) (R i125 n126 n127 n130 n129 es132 es133 full134 n135 n136 (fun es137 es138 full139 n140 n141 => (f52_1_p87 R) i125 n126 n128 n129 n131 es137 es138 full139 n140 n141 (fun es157 es158 full159 n160 n161 => k0 es157 es158 full159 n160 n161))) ((f52_1_p87 R) i125 n126 n128 n129 n131 es132 es133 full134 n135 n136 (fun es162 es163 full164 n165 n166 => k0 es162 es163 full164 n165 n166))) ((f52_1_p87 R) i125 n126 n128 n129 n131 es132 es133 full134 n135 n136 (fun es167 es168 full169 n170 n171 => k0 es167 es168 full169 n170 n171))
noncomputable def f52_1_p65 (R : f52_1_T) (i79 : Nat) (n80 : Nat) (n81 : Int) (n82 : Int) (n83 : Int) (n84 : Int) (n85 : Int) (n86 : Int) (n87 : Int) (es88 : List (List PC)) (es89 : List (List PC)) (full90 : Bool) (n91 : Int) (n92 : Int) (k0 : (List (List PC)) → (List (List PC)) → Bool → Int → Int → Prop) : Prop := (f52_1_p66 R) i79 n80 n81 n82 n83 n84 n85 (w64 (n85 - 1)) es88 (fun n115 es116 full117 n118 n119 => bB (decide (n115 < n82)) (bB (decide (n82 < (w64 (n85 - n115)))) (f53_1 i79 n80 n115 n82 (w64 (n85 - n115)) es88 es116 full117 n118 n119 (fun es120 es121 full122 n123 n124 => (f52_1_p83 R) i79 n80 n81 n83 n84 n115 (w64 (n85 - n115)) es120 es121 full122 n123 n124 (fun es172 es173 full174 n175 n176 => k0 es172 es173 full174 n175 n176))) ((f52_1_p83 R) i79 n80 n81 n83 n84 n115 (w64 (n85 - n115)) es88 es116 full117 n118 n119 (fun es177 es178 full179 n180 n181 => k0 es177 es178 full179 n180 n181))) ((f52_1_p83 R) i79 n80 n81 n83 n84 n115 (w64 (n85 - n115)) es88 es116 full117 n118 n119 (fun es182 es183 full184 n185 n186 => k0 es182 es183 full184 n185 n186))) (n86, n87, es89, full90, n91, n92)
noncomputable def f52_1_d (R : f52_1_T) (i1 : Nat) (n2 : Nat) (n3 : Int) (n4 : Int) (n5 : Int) (es6 : List (List PC)) (es7 : List (List PC)) (full8 : Bool) (n9 : Int) (n10 : Int) (k0 : (List (List PC)) → (List (List PC)) → Bool → Int → Int → Prop) : Prop := bB ((w64 (n4 - n3)) == 1) ((f52_1_p6 R) i1 n2 n3 es6 (fun n28 es29 full30 n31 n32 => (f52_1_p18 R) i1 n2 n28 es29 full30 n31 n32 (fun es44 => k0 es44 es29 full30 n31 n32) (n3, es6)) (n4, n5, es7, full8, n9, n10)) (bB ((w64 (n5 - n4)) == 1) ((f52_1_p30 R) i1 n2 n4 es6 (fun n62 es63 full64 n65 n66 => (f52_1_p42 R) i1 n2 n62 es63 full64 n65 n66 (fun es78 => k0 es78 es63 full64 n65 n66) (n4, es6)) (n3, n4, es7, full8, n9, n10)) (0 ≤ (1 : Int) ∧ bB (decide (n4 > (w64 (Int.fdiv (IntKind.wrap .u64 (w64 (n3 + n5))) (2 ^ (min (Int.toNat 1) 64)))))) ((f52_1_p65 R) i1 n2 n3 n4 n5 (w64 (Int.fdiv (IntKind.wrap .u64 (w64 (n3 + n5))) (2 ^ (min (Int.toNat 1) 64)))) (w64 ((w64 (Int.fdiv (IntKind.wrap .u64 (w64 (n3 + n5))) (2 ^ (min (Int.toNat 1) 64)))) + n4)) (w64 ((w64 ((w64 (Int.fdiv (IntKind.wrap .u64 (w64 (n3 + n5))) (2 ^ (min (Int.toNat 1) 64)))) + n4)) - n5)) (w64 (Int.fdiv (IntKind.wrap .u64 (w64 (n3 + n5))) (2 ^ (min (Int.toNat 1) 64)))) es6 es7 full8 n9 n10 (fun es187 es188 full189 n190 n191 => k0 es187 es188 full189 n190 n191)) ((f52_1_p65 R) i1 n2 n3 n4 n5 (w64 (Int.fdiv (IntKind.wrap .u64 (w64 (n3 + n5))) (2 ^ (min (Int.toNat 1) 64)))) (w64 ((w64 (Int.fdiv (IntKind.wrap .u64 (w64 (n3 + n5))) (2 ^ (min (Int.toNat 1) 64)))) + n4)) n3 n4 es6 es7 full8 n9 n10 (fun es192 es193 full194 n195 n196 => k0 es192 es193 full194 n195 n196))))
noncomputable def f52_1_n : Nat → f52_1_T := fun n => Nat.rec (motive := fun _ => f52_1_T) (fun _ _ _ _ _ _ _ _ _ _ _ => False) (fun _ ih => f52_1_d ih) n
structure f52_1 (i1 : Nat) (n2 : Nat) (n3 : Int) (n4 : Int) (n5 : Int) (es6 : List (List PC)) (es7 : List (List PC)) (full8 : Bool) (n9 : Int) (n10 : Int) (k0 : (List (List PC)) → (List (List PC)) → Bool → Int → Int → Prop) : Prop where
  run : ∃ n, f52_1_n n i1 n2 n3 n4 n5 es6 es7 full8 n9 n10 k0
noncomputable def f52_1_p6L (R : f52_1_T) : Told := fun s K => match s with
  | ⟨tm, hp⟩ => getS [.v (.one (.ref 0)), .v (.one (.int .i64)), .skip 2, .v (.clo 36 [] [.ptr 1 0 0]), .skip 5, .v (.one (.int .i64)), .v (.one (.int .i64)), .skip 208] [.vec 1 true, .box [.sl 3, .int .i64, .int .i64]] tm hp fun (xx : ((Nat × Nat) × (Int × (Unit × ((Unit × (Unit × Unit)) × (Unit × (Int × (Int × (Unit × Unit))))))))) (yy : ((List (List PC)) × (((List (List PC) × Bool) × (Int × (Int × Unit))) × Unit))) => (f52_1_p6 R) xx.1.1 xx.1.2 xx.2.1 yy.1 (fun n0_0 es0_1 full0_2 n0_3 n0_4 => K (.exit 0) ⟨mkS 220 [(0, .w (.one (.ref 0 xx.1.1 xx.1.2))), (1, I xx.2.1), (10, I n0_0)], [.vec 1 yy.1 true, .box [.p (.sl 3 es0_1 full0_2), .p (pI n0_3), .p (pI n0_4)]]⟩) (xx.2.2.2.2.2.1, xx.2.2.2.2.2.2.1, yy.2.1.1.1, yy.2.1.1.2, yy.2.1.2.1, yy.2.1.2.2.1)
noncomputable def f52_1_p18L (R : f52_1_T) : Told := fun s K => match s with
  | ⟨tm, hp⟩ => getS [.v (.one (.ref 0)), .skip 9, .v (.one (.int .i64)), .skip 2, .v (.one (.int .i64)), .skip 206] [.vec 1 true, .box [.sl 3, .int .i64, .int .i64]] tm hp fun (xx : ((Nat × Nat) × (Unit × (Int × (Unit × (Int × (Unit × Unit))))))) (yy : ((List (List PC)) × (((List (List PC) × Bool) × (Int × (Int × Unit))) × Unit))) => (f52_1_p18 R) xx.1.1 xx.1.2 xx.2.2.1 yy.2.1.1.1 yy.2.1.1.2 yy.2.1.2.1 yy.2.1.2.2.1 (fun es0_5 => K (.exit 2) ⟨mkS 220 [], [.vec 1 es0_5 true, .box [.p (.sl 3 yy.2.1.1.1 yy.2.1.1.2), .p (pI yy.2.1.2.1), .p (pI yy.2.1.2.2.1)]]⟩) (xx.2.2.2.2.1, yy.1)
noncomputable def f52_1_p30L (R : f52_1_T) : Told := fun s K => match s with
  | ⟨tm, hp⟩ => getS [.v (.one (.ref 0)), .skip 1, .v (.one (.int .i64)), .skip 1, .v (.clo 36 [] [.ptr 1 0 0]), .skip 9, .v (.one (.int .i64)), .v (.one (.int .i64)), .skip 204] [.vec 1 true, .box [.sl 3, .int .i64, .int .i64]] tm hp fun (xx : ((Nat × Nat) × (Unit × (Int × (Unit × ((Unit × (Unit × Unit)) × (Unit × (Int × (Int × (Unit × Unit)))))))))) (yy : ((List (List PC)) × (((List (List PC) × Bool) × (Int × (Int × Unit))) × Unit))) => (f52_1_p30 R) xx.1.1 xx.1.2 xx.2.2.1 yy.1 (fun n0_6 es0_7 full0_8 n0_9 n0_10 => K (.exit 4) ⟨mkS 220 [(0, .w (.one (.ref 0 xx.1.1 xx.1.2))), (2, I xx.2.2.1), (14, I n0_6)], [.vec 1 yy.1 true, .box [.p (.sl 3 es0_7 full0_8), .p (pI n0_9), .p (pI n0_10)]]⟩) (xx.2.2.2.2.2.2.1, xx.2.2.2.2.2.2.2.1, yy.2.1.1.1, yy.2.1.1.2, yy.2.1.2.1, yy.2.1.2.2.1)
noncomputable def f52_1_p42L (R : f52_1_T) : Told := fun s K => match s with
  | ⟨tm, hp⟩ => getS [.v (.one (.ref 0)), .skip 13, .v (.one (.int .i64)), .skip 2, .v (.one (.int .i64)), .skip 202] [.vec 1 true, .box [.sl 3, .int .i64, .int .i64]] tm hp fun (xx : ((Nat × Nat) × (Unit × (Int × (Unit × (Int × (Unit × Unit))))))) (yy : ((List (List PC)) × (((List (List PC) × Bool) × (Int × (Int × Unit))) × Unit))) => (f52_1_p42 R) xx.1.1 xx.1.2 xx.2.2.1 yy.2.1.1.1 yy.2.1.1.2 yy.2.1.2.1 yy.2.1.2.2.1 (fun es0_11 => K (.exit 6) ⟨mkS 220 [], [.vec 1 es0_11 true, .box [.p (.sl 3 yy.2.1.1.1 yy.2.1.1.2), .p (pI yy.2.1.2.1), .p (pI yy.2.1.2.2.1)]]⟩) (xx.2.2.2.2.1, yy.1)
noncomputable def f52_1_p66L (R : f52_1_T) : Told := fun s K => match s with
  | ⟨tm, hp⟩ => getS [.v (.one (.ref 0)), .v (.one (.int .i64)), .v (.one (.int .i64)), .v (.one (.int .i64)), .v (.clo 36 [] [.ptr 1 0 0]), .skip 13, .v (.one (.int .i64)), .v (.one (.int .i64)), .v (.one (.int .i64)), .v (.one (.int .i64)), .v (.one (.int .i64)), .skip 197] [.vec 1 true, .box [.sl 3, .int .i64, .int .i64]] tm hp fun (xx : ((Nat × Nat) × (Int × (Int × (Int × ((Unit × (Unit × Unit)) × (Unit × (Int × (Int × (Int × (Int × (Int × (Unit × Unit))))))))))))) (yy : ((List (List PC)) × (((List (List PC) × Bool) × (Int × (Int × Unit))) × Unit))) => (f52_1_p66 R) xx.1.1 xx.1.2 xx.2.1 xx.2.2.1 xx.2.2.2.1 xx.2.2.2.2.2.2.1 xx.2.2.2.2.2.2.2.1 xx.2.2.2.2.2.2.2.2.2.2.1 yy.1 (fun n0_12 es0_13 full0_14 n0_15 n0_16 => K (.exit 8) ⟨mkS 220 [(0, .w (.one (.ref 0 xx.1.1 xx.1.2))), (1, I xx.2.1), (2, I xx.2.2.1), (3, I xx.2.2.2.1), (4, .w (.one (.clo 36 [] [.ptr 1 0 0]))), (18, I xx.2.2.2.2.2.2.1), (19, I xx.2.2.2.2.2.2.2.1), (20, I n0_12)], [.vec 1 yy.1 true, .box [.p (.sl 3 es0_13 full0_14), .p (pI n0_15), .p (pI n0_16)]]⟩) (xx.2.2.2.2.2.2.2.2.1, xx.2.2.2.2.2.2.2.2.2.1, yy.2.1.1.1, yy.2.1.1.2, yy.2.1.2.1, yy.2.1.2.2.1)
noncomputable def f52_1_p87L (R : f52_1_T) : Told := fun s K => match s with
  | ⟨tm, hp⟩ => getS [.v (.one (.ref 0)), .skip 2, .v (.one (.int .i64)), .v (.clo 36 [] [.ptr 1 0 0]), .skip 13, .v (.one (.int .i64)), .skip 5, .v (.one (.int .i64)), .skip 195] [.vec 1 true, .box [.sl 3, .int .i64, .int .i64]] tm hp fun (xx : ((Nat × Nat) × (Unit × (Int × ((Unit × (Unit × Unit)) × (Unit × (Int × (Unit × (Int × (Unit × Unit)))))))))) (yy : ((List (List PC)) × (((List (List PC) × Bool) × (Int × (Int × Unit))) × Unit))) => (f52_1_p87 R) xx.1.1 xx.1.2 xx.2.2.1 xx.2.2.2.2.2.1 xx.2.2.2.2.2.2.2.1 yy.1 yy.2.1.1.1 yy.2.1.1.2 yy.2.1.2.1 yy.2.1.2.2.1 (fun es0_17 es0_18 full0_19 n0_20 n0_21 => K .normal ⟨mkS 220 [], [.vec 1 es0_17 true, .box [.p (.sl 3 es0_18 full0_19), .p (pI n0_20), .p (pI n0_21)]]⟩)
noncomputable def f52_1_p83L (R : f52_1_T) : Told := fun s K => match s with
  | ⟨tm, hp⟩ => getS [.v (.one (.ref 0)), .v (.one (.int .i64)), .skip 1, .v (.one (.int .i64)), .v (.clo 36 [] [.ptr 1 0 0]), .skip 13, .v (.one (.int .i64)), .skip 1, .v (.one (.int .i64)), .skip 3, .v (.one (.int .i64)), .skip 195] [.vec 1 true, .box [.sl 3, .int .i64, .int .i64]] tm hp fun (xx : ((Nat × Nat) × (Int × (Unit × (Int × ((Unit × (Unit × Unit)) × (Unit × (Int × (Unit × (Int × (Unit × (Int × (Unit × Unit))))))))))))) (yy : ((List (List PC)) × (((List (List PC) × Bool) × (Int × (Int × Unit))) × Unit))) => (f52_1_p83 R) xx.1.1 xx.1.2 xx.2.1 xx.2.2.2.1 xx.2.2.2.2.2.2.1 xx.2.2.2.2.2.2.2.2.1 xx.2.2.2.2.2.2.2.2.2.2.1 yy.1 yy.2.1.1.1 yy.2.1.1.2 yy.2.1.2.1 yy.2.1.2.2.1 (fun es0_22 es0_23 full0_24 n0_25 n0_26 => K .normal ⟨mkS 220 [], [.vec 1 es0_22 true, .box [.p (.sl 3 es0_23 full0_24), .p (pI n0_25), .p (pI n0_26)]]⟩)
noncomputable def f52_1_p65L (R : f52_1_T) : Told := fun s K => match s with
  | ⟨tm, hp⟩ => getS [.v (.one (.ref 0)), .v (.one (.int .i64)), .v (.one (.int .i64)), .v (.one (.int .i64)), .v (.clo 36 [] [.ptr 1 0 0]), .skip 13, .v (.one (.int .i64)), .v (.one (.int .i64)), .v (.one (.int .i64)), .v (.one (.int .i64)), .skip 198] [.vec 1 true, .box [.sl 3, .int .i64, .int .i64]] tm hp fun (xx : ((Nat × Nat) × (Int × (Int × (Int × ((Unit × (Unit × Unit)) × (Unit × (Int × (Int × (Int × (Int × (Unit × Unit)))))))))))) (yy : ((List (List PC)) × (((List (List PC) × Bool) × (Int × (Int × Unit))) × Unit))) => (f52_1_p65 R) xx.1.1 xx.1.2 xx.2.1 xx.2.2.1 xx.2.2.2.1 xx.2.2.2.2.2.2.1 xx.2.2.2.2.2.2.2.1 xx.2.2.2.2.2.2.2.2.1 xx.2.2.2.2.2.2.2.2.2.1 yy.1 yy.2.1.1.1 yy.2.1.1.2 yy.2.1.2.1 yy.2.1.2.2.1 (fun es0_27 es0_28 full0_29 n0_30 n0_31 => K .normal ⟨mkS 220 [], [.vec 1 es0_27 true, .box [.p (.sl 3 es0_28 full0_29), .p (pI n0_30), .p (pI n0_31)]]⟩)
noncomputable def f52_1_tab (R : f52_1_T) : List (Nat × Told) := [(6, (f52_1_p6L R)), (18, (f52_1_p18L R)), (30, (f52_1_p30L R)), (42, (f52_1_p42L R)), (66, (f52_1_p66L R)), (87, (f52_1_p87L R)), (83, (f52_1_p83L R)), (65, (f52_1_p65L R))]
noncomputable def f52_1_GR (R : f52_1_T) : List TV → List Entry → (TV → List Entry → Prop) → Prop := fun tm hp K => getS [.v (.one (.ref 0)), .v (.one (.int .i64)), .v (.one (.int .i64)), .v (.one (.int .i64)), .v (.clo 36 [] [.ptr 1 0 0])] [.vec 1 true, .box [.sl 3, .int .i64, .int .i64]] tm hp fun (xx : ((Nat × Nat) × (Int × (Int × (Int × ((Unit × (Unit × Unit)) × Unit)))))) (yy : ((List (List PC)) × (((List (List PC) × Bool) × (Int × (Int × Unit))) × Unit))) => R xx.1.1 xx.1.2 xx.2.1 xx.2.2.1 xx.2.2.2.1 yy.1 yy.2.1.1.1 yy.2.1.1.2 yy.2.1.2.1 yy.2.1.2.2.1 (fun es0_32 es0_33 full0_34 n0_35 n0_36 => K undefT [.vec 1 es0_32 true, .box [.p (.sl 3 es0_33 full0_34), .p (pI n0_35), .p (pI n0_36)]])
noncomputable def f52_1_call (R : f52_1_T) : FuncId → List TV → List Entry → (TV → List Entry → Prop) → Prop := addCall 52 (f52_1_GR R) (addCall 53 f53_1_G (addCall 36 f36_1_G (noCalls)))
noncomputable def f52_1_C (R : f52_1_T) : Ctx := { ty := tyOf tab, glob := glob, byRef := byRef, keep := fun k i => lookN [] (lookN [] ([(6, [(0, [0, 1, 4, 10, 11]), (2, []), (3, [0, 1, 10])]), (18, [(0, [0, 10, 13]), (2, []), (5, [])]), (30, [(0, [0, 2, 4, 14, 15]), (2, []), (7, [0, 2, 14])]), (42, [(0, [0, 14, 17]), (2, []), (9, [])]), (66, [(0, [0, 1, 2, 3, 4, 18, 19, 20, 21, 22]), (2, []), (11, [0, 1, 2, 3, 4, 18, 19, 20])]), (87, [(0, [0, 3, 4, 18, 24]), (1, []), (2, [])]), (83, [(0, [0, 1, 3, 4, 18, 20, 24]), (1, []), (2, [])]), (65, [(0, [0, 1, 2, 3, 4, 18, 19, 20, 21]), (1, []), (2, [])])] : List (Nat × List (Nat × List Nat))) k) i, late := lookN [] ([] : List (Nat × List Nat)), nref := lookN [] ([] : List (Nat × List Nat)), nbox := lookN [] ([] : List (Nat × List (Nat × Nat))), take := [], rnil := true, m := 2, fz := false, loops := lookL (f52_1_tab R), call := (f52_1_call R) }
noncomputable def f52_1_p6_mk (i11 : Nat) (n12 : Nat) (n13 : Int) (es16 : List (List PC)) (x : Int × Int × (List (List PC)) × Bool × Int × Int) : St := ⟨mkS 220 [(0, .w (.one (.ref 0 i11 n12))), (1, I n13), (4, .w (.one (.clo 36 [] [.ptr 1 0 0]))), (10, I x.1), (11, I x.2.1)], [.vec 1 es16 true, .box [.p (.sl 3 x.2.2.1 x.2.2.2.1), .p (pI x.2.2.2.2.1), .p (pI x.2.2.2.2.2)]]⟩
set_option maxRecDepth 100000 in
theorem f52_1_p6e0 (R : f52_1_T) (i_47 : Nat) (n_48 : Nat) (n_49 : Int) (n_50 : Int) (n_51 : Int) (es_52 : List (List PC)) (es_53 : List (List PC)) (full_54 : Bool) (n_55 : Int) (n_56 : Int) (N : St → Prop) (K : TExit → St → Prop) : ((f52_1_p6b0 R) i_47 n_48 n_49 n_50 n_51 es_52 es_53 full_54 n_55 n_56 (fun z3 z4 z6 z7 z8 z9 => N (f52_1_p6_mk i_47 n_48 n_49 es_52 (z3, z4, z6, z7, z8, z9))) (fun n0_57 es0_58 full0_59 n0_60 n0_61 => K (.exit 0) ⟨mkS 220 [(0, .w (.one (.ref 0 i_47 n_48))), (1, I n_49), (10, I n0_57)], [.vec 1 es_52 true, .box [.p (.sl 3 es0_58 full0_59), .p (pI n0_60), .p (pI n0_61)]]⟩)) = execT (f52_1_C R) (nthC (bodies (bodyOf Try.f52)) 0) (f52_1_p6_mk i_47 n_48 n_49 es_52 (n_50, n_51, es_53, full_54, n_55, n_56)) (loopK N (normK (f52_1_C R) 6) fun e s => K e (normOut (f52_1_C R) 6 e s)) := by kernel_rfl
noncomputable def f52_1_p18_mk (i33 : Nat) (n34 : Nat) (n35 : Int) (es38 : List (List PC)) (full39 : Bool) (n40 : Int) (n41 : Int) (x : Int × (List (List PC))) : St := ⟨mkS 220 [(0, .w (.one (.ref 0 i33 n34))), (10, I n35), (13, I x.1)], [.vec 1 x.2 true, .box [.p (.sl 3 es38 full39), .p (pI n40), .p (pI n41)]]⟩
set_option maxRecDepth 100000 in
theorem f52_1_p18e0 (R : f52_1_T) (i_71 : Nat) (n_72 : Nat) (n_73 : Int) (n_74 : Int) (es_75 : List (List PC)) (es_76 : List (List PC)) (full_77 : Bool) (n_78 : Int) (n_79 : Int) (N : St → Prop) (K : TExit → St → Prop) : ((f52_1_p18b0 R) i_71 n_72 n_73 n_74 es_75 es_76 full_77 n_78 n_79 (fun z3 z4 => N (f52_1_p18_mk i_71 n_72 n_73 es_76 full_77 n_78 n_79 (z3, z4))) (fun es0_80 => K (.exit 2) ⟨mkS 220 [], [.vec 1 es0_80 true, .box [.p (.sl 3 es_76 full_77), .p (pI n_78), .p (pI n_79)]]⟩)) = execT (f52_1_C R) (nthC (bodies (bodyOf Try.f52)) 1) (f52_1_p18_mk i_71 n_72 n_73 es_76 full_77 n_78 n_79 (n_74, es_75)) (loopK N (normK (f52_1_C R) 18) fun e s => K e (normOut (f52_1_C R) 18 e s)) := by kernel_rfl
noncomputable def f52_1_p30_mk (i45 : Nat) (n46 : Nat) (n47 : Int) (es50 : List (List PC)) (x : Int × Int × (List (List PC)) × Bool × Int × Int) : St := ⟨mkS 220 [(0, .w (.one (.ref 0 i45 n46))), (2, I n47), (4, .w (.one (.clo 36 [] [.ptr 1 0 0]))), (14, I x.1), (15, I x.2.1)], [.vec 1 es50 true, .box [.p (.sl 3 x.2.2.1 x.2.2.2.1), .p (pI x.2.2.2.2.1), .p (pI x.2.2.2.2.2)]]⟩
set_option maxRecDepth 100000 in
theorem f52_1_p30e0 (R : f52_1_T) (i_91 : Nat) (n_92 : Nat) (n_93 : Int) (n_94 : Int) (n_95 : Int) (es_96 : List (List PC)) (es_97 : List (List PC)) (full_98 : Bool) (n_99 : Int) (n_100 : Int) (N : St → Prop) (K : TExit → St → Prop) : ((f52_1_p30b0 R) i_91 n_92 n_93 n_94 n_95 es_96 es_97 full_98 n_99 n_100 (fun z3 z4 z6 z7 z8 z9 => N (f52_1_p30_mk i_91 n_92 n_93 es_96 (z3, z4, z6, z7, z8, z9))) (fun n0_101 es0_102 full0_103 n0_104 n0_105 => K (.exit 4) ⟨mkS 220 [(0, .w (.one (.ref 0 i_91 n_92))), (2, I n_93), (14, I n0_101)], [.vec 1 es_96 true, .box [.p (.sl 3 es0_102 full0_103), .p (pI n0_104), .p (pI n0_105)]]⟩)) = execT (f52_1_C R) (nthC (bodies (bodyOf Try.f52)) 2) (f52_1_p30_mk i_91 n_92 n_93 es_96 (n_94, n_95, es_97, full_98, n_99, n_100)) (loopK N (normK (f52_1_C R) 30) fun e s => K e (normOut (f52_1_C R) 30 e s)) := by kernel_rfl
noncomputable def f52_1_p42_mk (i67 : Nat) (n68 : Nat) (n69 : Int) (es72 : List (List PC)) (full73 : Bool) (n74 : Int) (n75 : Int) (x : Int × (List (List PC))) : St := ⟨mkS 220 [(0, .w (.one (.ref 0 i67 n68))), (14, I n69), (17, I x.1)], [.vec 1 x.2 true, .box [.p (.sl 3 es72 full73), .p (pI n74), .p (pI n75)]]⟩
set_option maxRecDepth 100000 in
theorem f52_1_p42e0 (R : f52_1_T) (i_115 : Nat) (n_116 : Nat) (n_117 : Int) (n_118 : Int) (es_119 : List (List PC)) (es_120 : List (List PC)) (full_121 : Bool) (n_122 : Int) (n_123 : Int) (N : St → Prop) (K : TExit → St → Prop) : ((f52_1_p42b0 R) i_115 n_116 n_117 n_118 es_119 es_120 full_121 n_122 n_123 (fun z3 z4 => N (f52_1_p42_mk i_115 n_116 n_117 es_120 full_121 n_122 n_123 (z3, z4))) (fun es0_124 => K (.exit 6) ⟨mkS 220 [], [.vec 1 es0_124 true, .box [.p (.sl 3 es_120 full_121), .p (pI n_122), .p (pI n_123)]]⟩)) = execT (f52_1_C R) (nthC (bodies (bodyOf Try.f52)) 3) (f52_1_p42_mk i_115 n_116 n_117 es_120 full_121 n_122 n_123 (n_118, es_119)) (loopK N (normK (f52_1_C R) 42) fun e s => K e (normOut (f52_1_C R) 42 e s)) := by kernel_rfl
noncomputable def f52_1_p66_mk (i93 : Nat) (n94 : Nat) (n95 : Int) (n96 : Int) (n97 : Int) (n98 : Int) (n99 : Int) (n102 : Int) (es103 : List (List PC)) (x : Int × Int × (List (List PC)) × Bool × Int × Int) : St := ⟨mkS 220 [(0, .w (.one (.ref 0 i93 n94))), (1, I n95), (2, I n96), (3, I n97), (4, .w (.one (.clo 36 [] [.ptr 1 0 0]))), (18, I n98), (19, I n99), (20, I x.1), (21, I x.2.1), (22, I n102)], [.vec 1 es103 true, .box [.p (.sl 3 x.2.2.1 x.2.2.2.1), .p (pI x.2.2.2.2.1), .p (pI x.2.2.2.2.2)]]⟩
set_option maxRecDepth 100000 in
theorem f52_1_p66e0 (R : f52_1_T) (i_140 : Nat) (n_141 : Nat) (n_142 : Int) (n_143 : Int) (n_144 : Int) (n_145 : Int) (n_146 : Int) (n_147 : Int) (n_148 : Int) (n_149 : Int) (es_150 : List (List PC)) (es_151 : List (List PC)) (full_152 : Bool) (n_153 : Int) (n_154 : Int) (N : St → Prop) (K : TExit → St → Prop) : ((f52_1_p66b0 R) i_140 n_141 n_142 n_143 n_144 n_145 n_146 n_147 n_148 n_149 es_150 es_151 full_152 n_153 n_154 (fun z7 z8 z11 z12 z13 z14 => N (f52_1_p66_mk i_140 n_141 n_142 n_143 n_144 n_145 n_146 n_149 es_150 (z7, z8, z11, z12, z13, z14))) (fun n0_155 es0_156 full0_157 n0_158 n0_159 => K (.exit 8) ⟨mkS 220 [(0, .w (.one (.ref 0 i_140 n_141))), (1, I n_142), (2, I n_143), (3, I n_144), (4, .w (.one (.clo 36 [] [.ptr 1 0 0]))), (18, I n_145), (19, I n_146), (20, I n0_155)], [.vec 1 es_150 true, .box [.p (.sl 3 es0_156 full0_157), .p (pI n0_158), .p (pI n0_159)]]⟩)) = execT (f52_1_C R) (nthC (bodies (bodyOf Try.f52)) 4) (f52_1_p66_mk i_140 n_141 n_142 n_143 n_144 n_145 n_146 n_149 es_150 (n_147, n_148, es_151, full_152, n_153, n_154)) (loopK N (normK (f52_1_C R) 66) fun e s => K e (normOut (f52_1_C R) 66 e s)) := by kernel_rfl
set_option maxRecDepth 100000 in
theorem f52_1_p87e0 (R : f52_1_T) (i_160 : Nat) (n_161 : Nat) (n_162 : Int) (n_163 : Int) (n_164 : Int) (es_165 : List (List PC)) (es_166 : List (List PC)) (full_167 : Bool) (n_168 : Int) (n_169 : Int) (K : TExit → St → Prop) : ((f52_1_p87 R) i_160 n_161 n_162 n_163 n_164 es_165 es_166 full_167 n_168 n_169 (fun es0_170 es0_171 full0_172 n0_173 n0_174 => K .normal ⟨mkS 220 [], [.vec 1 es0_170 true, .box [.p (.sl 3 es0_171 full0_172), .p (pI n0_173), .p (pI n0_174)]]⟩)) = execT (f52_1_C R) (nthC (tails (bodyOf Try.f52)) 44) ⟨mkS 220 [(0, .w (.one (.ref 0 i_160 n_161))), (3, I n_162), (4, .w (.one (.clo 36 [] [.ptr 1 0 0]))), (18, I n_163), (24, I n_164)], [.vec 1 es_165 true, .box [.p (.sl 3 es_166 full_167), .p (pI n_168), .p (pI n_169)]]⟩ (fun e s => K e (normOut (f52_1_C R) 87 e s)) := by kernel_rfl
set_option maxRecDepth 100000 in
theorem f52_1_p83e0 (R : f52_1_T) (i_175 : Nat) (n_176 : Nat) (n_177 : Int) (n_178 : Int) (n_179 : Int) (n_180 : Int) (n_181 : Int) (es_182 : List (List PC)) (es_183 : List (List PC)) (full_184 : Bool) (n_185 : Int) (n_186 : Int) (K : TExit → St → Prop) : ((f52_1_p83 R) i_175 n_176 n_177 n_178 n_179 n_180 n_181 es_182 es_183 full_184 n_185 n_186 (fun es0_187 es0_188 full0_189 n0_190 n0_191 => K .normal ⟨mkS 220 [], [.vec 1 es0_187 true, .box [.p (.sl 3 es0_188 full0_189), .p (pI n0_190), .p (pI n0_191)]]⟩)) = execT (f52_1_C R) (nthC (tails (bodyOf Try.f52)) 42) ⟨mkS 220 [(0, .w (.one (.ref 0 i_175 n_176))), (1, I n_177), (3, I n_178), (4, .w (.one (.clo 36 [] [.ptr 1 0 0]))), (18, I n_179), (20, I n_180), (24, I n_181)], [.vec 1 es_182 true, .box [.p (.sl 3 es_183 full_184), .p (pI n_185), .p (pI n_186)]]⟩ (fun e s => K e (normOut (f52_1_C R) 83 e s)) := by kernel_rfl
set_option maxRecDepth 100000 in
theorem f52_1_p65e0 (R : f52_1_T) (i_192 : Nat) (n_193 : Nat) (n_194 : Int) (n_195 : Int) (n_196 : Int) (n_197 : Int) (n_198 : Int) (n_199 : Int) (n_200 : Int) (es_201 : List (List PC)) (es_202 : List (List PC)) (full_203 : Bool) (n_204 : Int) (n_205 : Int) (K : TExit → St → Prop) : ((f52_1_p65 R) i_192 n_193 n_194 n_195 n_196 n_197 n_198 n_199 n_200 es_201 es_202 full_203 n_204 n_205 (fun es0_206 es0_207 full0_208 n0_209 n0_210 => K .normal ⟨mkS 220 [], [.vec 1 es0_206 true, .box [.p (.sl 3 es0_207 full0_208), .p (pI n0_209), .p (pI n0_210)]]⟩)) = execT (f52_1_C R) (nthC (tails (bodyOf Try.f52)) 31) ⟨mkS 220 [(0, .w (.one (.ref 0 i_192 n_193))), (1, I n_194), (2, I n_195), (3, I n_196), (4, .w (.one (.clo 36 [] [.ptr 1 0 0]))), (18, I n_197), (19, I n_198), (20, I n_199), (21, I n_200)], [.vec 1 es_201 true, .box [.p (.sl 3 es_202 full_203), .p (pI n_204), .p (pI n_205)]]⟩ (fun e s => K e (normOut (f52_1_C R) 65 e s)) := by kernel_rfl
set_option maxHeartbeats 4000000 in
theorem f52_1_p6_ok (R : f52_1_T) : LoopOk (f52_1_C R) (nthC (bodies (bodyOf Try.f52)) 0) := by
  refine LoopOk.of (f52_1_p6L R) (by kernel_rfl) fun σ K h => ?_
  have hk : loopKey (nthC (bodies (bodyOf Try.f52)) 0) = 6 := by kernel_rfl
  rw [hk] at h ⊢
  generalize hs : normK (f52_1_C R) 6 σ = s at h
  obtain ⟨tm, hp⟩ := s
  unfold f52_1_p6L at h
  dsimp only at h
  obtain ⟨xx, yy, rfl, rfl, h⟩ := getS_elim h
  refine iter_of (f52_1_p6_mk xx.1.1 xx.1.2 xx.2.1 yy.1) (fun x N h => ?_) rounds _ σ (hs.trans (by kernel_rfl)) (LoopP.run h)
  obtain ⟨y0, y1, y2, y3, y4, y5⟩ := x
  rw [← (f52_1_p6e0 R) xx.1.1 xx.1.2 xx.2.1 y0 y1 yy.1 y2 y3 y4 y5 N K]
  exact h
set_option maxHeartbeats 4000000 in
theorem f52_1_p18_ok (R : f52_1_T) : LoopOk (f52_1_C R) (nthC (bodies (bodyOf Try.f52)) 1) := by
  refine LoopOk.of (f52_1_p18L R) (by kernel_rfl) fun σ K h => ?_
  have hk : loopKey (nthC (bodies (bodyOf Try.f52)) 1) = 18 := by kernel_rfl
  rw [hk] at h ⊢
  generalize hs : normK (f52_1_C R) 18 σ = s at h
  obtain ⟨tm, hp⟩ := s
  unfold f52_1_p18L at h
  dsimp only at h
  obtain ⟨xx, yy, rfl, rfl, h⟩ := getS_elim h
  refine iter_of (f52_1_p18_mk xx.1.1 xx.1.2 xx.2.2.1 yy.2.1.1.1 yy.2.1.1.2 yy.2.1.2.1 yy.2.1.2.2.1) (fun x N h => ?_) rounds _ σ (hs.trans (by kernel_rfl)) (LoopP.run h)
  obtain ⟨y0, y1⟩ := x
  rw [← (f52_1_p18e0 R) xx.1.1 xx.1.2 xx.2.2.1 y0 y1 yy.2.1.1.1 yy.2.1.1.2 yy.2.1.2.1 yy.2.1.2.2.1 N K]
  exact h
set_option maxHeartbeats 4000000 in
theorem f52_1_p30_ok (R : f52_1_T) : LoopOk (f52_1_C R) (nthC (bodies (bodyOf Try.f52)) 2) := by
  refine LoopOk.of (f52_1_p30L R) (by kernel_rfl) fun σ K h => ?_
  have hk : loopKey (nthC (bodies (bodyOf Try.f52)) 2) = 30 := by kernel_rfl
  rw [hk] at h ⊢
  generalize hs : normK (f52_1_C R) 30 σ = s at h
  obtain ⟨tm, hp⟩ := s
  unfold f52_1_p30L at h
  dsimp only at h
  obtain ⟨xx, yy, rfl, rfl, h⟩ := getS_elim h
  refine iter_of (f52_1_p30_mk xx.1.1 xx.1.2 xx.2.2.1 yy.1) (fun x N h => ?_) rounds _ σ (hs.trans (by kernel_rfl)) (LoopP.run h)
  obtain ⟨y0, y1, y2, y3, y4, y5⟩ := x
  rw [← (f52_1_p30e0 R) xx.1.1 xx.1.2 xx.2.2.1 y0 y1 yy.1 y2 y3 y4 y5 N K]
  exact h
set_option maxHeartbeats 4000000 in
theorem f52_1_p42_ok (R : f52_1_T) : LoopOk (f52_1_C R) (nthC (bodies (bodyOf Try.f52)) 3) := by
  refine LoopOk.of (f52_1_p42L R) (by kernel_rfl) fun σ K h => ?_
  have hk : loopKey (nthC (bodies (bodyOf Try.f52)) 3) = 42 := by kernel_rfl
  rw [hk] at h ⊢
  generalize hs : normK (f52_1_C R) 42 σ = s at h
  obtain ⟨tm, hp⟩ := s
  unfold f52_1_p42L at h
  dsimp only at h
  obtain ⟨xx, yy, rfl, rfl, h⟩ := getS_elim h
  refine iter_of (f52_1_p42_mk xx.1.1 xx.1.2 xx.2.2.1 yy.2.1.1.1 yy.2.1.1.2 yy.2.1.2.1 yy.2.1.2.2.1) (fun x N h => ?_) rounds _ σ (hs.trans (by kernel_rfl)) (LoopP.run h)
  obtain ⟨y0, y1⟩ := x
  rw [← (f52_1_p42e0 R) xx.1.1 xx.1.2 xx.2.2.1 y0 y1 yy.2.1.1.1 yy.2.1.1.2 yy.2.1.2.1 yy.2.1.2.2.1 N K]
  exact h
set_option maxHeartbeats 4000000 in
theorem f52_1_p66_ok (R : f52_1_T) : LoopOk (f52_1_C R) (nthC (bodies (bodyOf Try.f52)) 4) := by
  refine LoopOk.of (f52_1_p66L R) (by kernel_rfl) fun σ K h => ?_
  have hk : loopKey (nthC (bodies (bodyOf Try.f52)) 4) = 66 := by kernel_rfl
  rw [hk] at h ⊢
  generalize hs : normK (f52_1_C R) 66 σ = s at h
  obtain ⟨tm, hp⟩ := s
  unfold f52_1_p66L at h
  dsimp only at h
  obtain ⟨xx, yy, rfl, rfl, h⟩ := getS_elim h
  refine iter_of (f52_1_p66_mk xx.1.1 xx.1.2 xx.2.1 xx.2.2.1 xx.2.2.2.1 xx.2.2.2.2.2.2.1 xx.2.2.2.2.2.2.2.1 xx.2.2.2.2.2.2.2.2.2.2.1 yy.1) (fun x N h => ?_) rounds _ σ (hs.trans (by kernel_rfl)) (LoopP.run h)
  obtain ⟨y0, y1, y2, y3, y4, y5⟩ := x
  rw [← (f52_1_p66e0 R) xx.1.1 xx.1.2 xx.2.1 xx.2.2.1 xx.2.2.2.1 xx.2.2.2.2.2.2.1 xx.2.2.2.2.2.2.2.1 y0 y1 xx.2.2.2.2.2.2.2.2.2.2.1 yy.1 y2 y3 y4 y5 N K]
  exact h
set_option maxHeartbeats 4000000 in
theorem f52_1_p87_ok (R : f52_1_T) : TailOk (f52_1_C R) (nthC (tails (bodyOf Try.f52)) 44) := by
  refine TailOk.of (f52_1_p87L R) (by kernel_rfl) fun σ K h => ?_
  have hk : joinKey (nthC (tails (bodyOf Try.f52)) 44) = 87 := by kernel_rfl
  rw [hk] at h ⊢
  generalize hs : normK (f52_1_C R) 87 σ = s at h
  obtain ⟨tm, hp⟩ := s
  unfold f52_1_p87L at h
  dsimp only at h
  obtain ⟨xx, yy, rfl, rfl, h⟩ := getS_elim h
  have q : normK (f52_1_C R) 87 σ = (⟨mkS 220 [(0, .w (.one (.ref 0 xx.1.1 xx.1.2))), (3, I xx.2.2.1), (4, .w (.one (.clo 36 [] [.ptr 1 0 0]))), (18, I xx.2.2.2.2.2.1), (24, I xx.2.2.2.2.2.2.2.1)], [.vec 1 yy.1 true, .box [.p (.sl 3 yy.2.1.1.1 yy.2.1.1.2), .p (pI yy.2.1.2.1), .p (pI yy.2.1.2.2.1)]]⟩ : St) := hs.trans (by kernel_rfl)
  rw [← hs, q, ← (f52_1_p87e0 R) xx.1.1 xx.1.2 xx.2.2.1 xx.2.2.2.2.2.1 xx.2.2.2.2.2.2.2.1 yy.1 yy.2.1.1.1 yy.2.1.1.2 yy.2.1.2.1 yy.2.1.2.2.1 K]
  exact h
set_option maxHeartbeats 4000000 in
theorem f52_1_p83_ok (R : f52_1_T) : TailOk (f52_1_C R) (nthC (tails (bodyOf Try.f52)) 42) := by
  refine TailOk.of (f52_1_p83L R) (by kernel_rfl) fun σ K h => ?_
  have hk : joinKey (nthC (tails (bodyOf Try.f52)) 42) = 83 := by kernel_rfl
  rw [hk] at h ⊢
  generalize hs : normK (f52_1_C R) 83 σ = s at h
  obtain ⟨tm, hp⟩ := s
  unfold f52_1_p83L at h
  dsimp only at h
  obtain ⟨xx, yy, rfl, rfl, h⟩ := getS_elim h
  have q : normK (f52_1_C R) 83 σ = (⟨mkS 220 [(0, .w (.one (.ref 0 xx.1.1 xx.1.2))), (1, I xx.2.1), (3, I xx.2.2.2.1), (4, .w (.one (.clo 36 [] [.ptr 1 0 0]))), (18, I xx.2.2.2.2.2.2.1), (20, I xx.2.2.2.2.2.2.2.2.1), (24, I xx.2.2.2.2.2.2.2.2.2.2.1)], [.vec 1 yy.1 true, .box [.p (.sl 3 yy.2.1.1.1 yy.2.1.1.2), .p (pI yy.2.1.2.1), .p (pI yy.2.1.2.2.1)]]⟩ : St) := hs.trans (by kernel_rfl)
  rw [← hs, q, ← (f52_1_p83e0 R) xx.1.1 xx.1.2 xx.2.1 xx.2.2.2.1 xx.2.2.2.2.2.2.1 xx.2.2.2.2.2.2.2.2.1 xx.2.2.2.2.2.2.2.2.2.2.1 yy.1 yy.2.1.1.1 yy.2.1.1.2 yy.2.1.2.1 yy.2.1.2.2.1 K]
  exact h
set_option maxHeartbeats 4000000 in
theorem f52_1_p65_ok (R : f52_1_T) : TailOk (f52_1_C R) (nthC (tails (bodyOf Try.f52)) 31) := by
  refine TailOk.of (f52_1_p65L R) (by kernel_rfl) fun σ K h => ?_
  have hk : joinKey (nthC (tails (bodyOf Try.f52)) 31) = 65 := by kernel_rfl
  rw [hk] at h ⊢
  generalize hs : normK (f52_1_C R) 65 σ = s at h
  obtain ⟨tm, hp⟩ := s
  unfold f52_1_p65L at h
  dsimp only at h
  obtain ⟨xx, yy, rfl, rfl, h⟩ := getS_elim h
  have q : normK (f52_1_C R) 65 σ = (⟨mkS 220 [(0, .w (.one (.ref 0 xx.1.1 xx.1.2))), (1, I xx.2.1), (2, I xx.2.2.1), (3, I xx.2.2.2.1), (4, .w (.one (.clo 36 [] [.ptr 1 0 0]))), (18, I xx.2.2.2.2.2.2.1), (19, I xx.2.2.2.2.2.2.2.1), (20, I xx.2.2.2.2.2.2.2.2.1), (21, I xx.2.2.2.2.2.2.2.2.2.1)], [.vec 1 yy.1 true, .box [.p (.sl 3 yy.2.1.1.1 yy.2.1.1.2), .p (pI yy.2.1.2.1), .p (pI yy.2.1.2.2.1)]]⟩ : St) := hs.trans (by kernel_rfl)
  rw [← hs, q, ← (f52_1_p65e0 R) xx.1.1 xx.1.2 xx.2.1 xx.2.2.1 xx.2.2.2.1 xx.2.2.2.2.2.2.1 xx.2.2.2.2.2.2.2.1 xx.2.2.2.2.2.2.2.2.1 xx.2.2.2.2.2.2.2.2.2.1 yy.1 yy.2.1.1.1 yy.2.1.1.2 yy.2.1.2.1 yy.2.1.2.2.1 K]
  exact h
noncomputable def f52_1_G0 : List TV → List Entry → (TV → List Entry → Prop) → Prop := fun tm hp K => getS [.v (.one (.ref 0)), .v (.one (.int .i64)), .v (.one (.int .i64)), .v (.one (.int .i64)), .v (.clo 36 [] [.ptr 1 0 0])] [.vec 1 true, .box [.sl 3, .int .i64, .int .i64]] tm hp fun (xx : ((Nat × Nat) × (Int × (Int × (Int × ((Unit × (Unit × Unit)) × Unit)))))) (yy : ((List (List PC)) × (((List (List PC) × Bool) × (Int × (Int × Unit))) × Unit))) => f52_1 xx.1.1 xx.1.2 xx.2.1 xx.2.2.1 xx.2.2.2.1 yy.1 yy.2.1.1.1 yy.2.1.1.2 yy.2.1.2.1 yy.2.1.2.2.1 (fun es0_32 es0_33 full0_34 n0_35 n0_36 => K undefT [.vec 1 es0_32 true, .box [.p (.sl 3 es0_33 full0_34), .p (pI n0_35), .p (pI n0_36)]])
set_option maxRecDepth 100000 in
theorem f52_1_eq (R : f52_1_T) (i_211 : Nat) (n_212 : Nat) (n_213 : Int) (n_214 : Int) (n_215 : Int) (es_216 : List (List PC)) (es_217 : List (List PC)) (full_218 : Bool) (n_219 : Int) (n_220 : Int) (K : TV → List Entry → Prop) : ((f52_1_d R) i_211 n_212 n_213 n_214 n_215 es_216 es_217 full_218 n_219 n_220 (fun es0_32 es0_33 full0_34 n0_35 n0_36 => K undefT [.vec 1 es0_32 true, .box [.p (.sl 3 es0_33 full0_34), .p (pI n0_35), .p (pI n0_36)]])) = funcT (f52_1_C R) Try.f52 [.w (.one (.ref 0 i_211 n_212)), I n_213, I n_214, I n_215, .w (.one (.clo 36 [] [.ptr 1 0 0]))] [.vec 1 es_216 true, .box [.p (.sl 3 es_217 full_218), .p (pI n_219), .p (pI n_220)]] K := by kernel_rfl
set_option maxHeartbeats 4000000 in
theorem f52_1_step (R : f52_1_T) (hR : FnOk Try.prog glob 52 (f52_1_GR R)) : FnOk Try.prog glob 52 (f52_1_GR (f52_1_d R)) := by
  refine FnOk.of_text (C := (f52_1_C R)) tab_ok.ok (Known.add hR (Known.add f53_1_G_ok (Known.add f36_1_G_ok (Known.none)))) follows_ok (fn := Try.f52) (by kernel_rfl) (by kernel_rfl) (by kernel_rfl) (fun c hc => ?_) fun tm hp K h => ?_
  · have e : c = bodyOf Try.f52 := Option.some.inj (hc.symm.trans (by kernel_rfl))
    subst e
    exact ⟨LoopsOk.of [nthC (bodies (bodyOf Try.f52)) 0, nthC (bodies (bodyOf Try.f52)) 1, nthC (bodies (bodyOf Try.f52)) 2, nthC (bodies (bodyOf Try.f52)) 3, nthC (bodies (bodyOf Try.f52)) 4] (by kernel_rfl) ⟨(f52_1_p6_ok R), (f52_1_p18_ok R), (f52_1_p30_ok R), (f52_1_p42_ok R), (f52_1_p66_ok R), trivial⟩, TailsOk.of (tab := (f52_1_tab R)) rfl [nthC (tails (bodyOf Try.f52)) 31, nthC (tails (bodyOf Try.f52)) 42, nthC (tails (bodyOf Try.f52)) 44] (by kernel_rfl) ⟨(f52_1_p65_ok R), (f52_1_p83_ok R), (f52_1_p87_ok R), trivial⟩⟩
  · unfold f52_1_GR at h
    obtain ⟨xx, yy, rfl, rfl, h⟩ := getS_elim h
    have e := (f52_1_eq R xx.1.1 xx.1.2 xx.2.1 xx.2.2.1 xx.2.2.2.1 yy.1 yy.2.1.1.1 yy.2.1.1.2 yy.2.1.2.1 yy.2.1.2.2.1 K).trans (show _ = funcT (f52_1_C R) Try.f52 (mkR _ xx) (mkE _ yy) K by kernel_rfl)
    rw [← e]
    exact h
theorem f52_1_ok_n : ∀ n, FnOk Try.prog glob 52 (f52_1_GR (f52_1_n n))
  | 0 => fun tm hp K h => by
    unfold f52_1_GR at h
    obtain ⟨xx, yy, rfl, rfl, h⟩ := getS_elim h
    exact False.elim h
  | n + 1 => f52_1_step _ (f52_1_ok_n n)
theorem f52_1_ok0 : FnOk Try.prog glob 52 f52_1_G0 := fun tm hp K h => by
  unfold f52_1_G0 at h
  obtain ⟨xx, yy, rfl, rfl, h⟩ := getS_elim h
  obtain ⟨n, h⟩ := h.run
  have e : f52_1_GR (f52_1_n n) (mkR _ xx) (mkE _ yy) K = f52_1_n n xx.1.1 xx.1.2 xx.2.1 xx.2.2.1 xx.2.2.2.1 yy.1 yy.2.1.1.1 yy.2.1.1.2 yy.2.1.2.1 yy.2.1.2.2.1 (fun es0_32 es0_33 full0_34 n0_35 n0_36 => K undefT [.vec 1 es0_32 true, .box [.p (.sl 3 es0_33 full0_34), .p (pI n0_35), .p (pI n0_36)]]) := by kernel_rfl
  refine f52_1_ok_n n _ _ _ ?_
  rw [e]
  exact h
noncomputable def f52_1_G : List TV → List Entry → (TV → List Entry → Prop) → Prop := fun args H K => bif isSig (sigOf args H) [100, 2, 2, 2, 100036, 7, 22, 20, 5, 2, 2] then f52_1_G0 args H K else f52_G args H K
theorem f52_1_G_ok : FnOk Try.prog glob 52 f52_1_G := FnOk.or _ f52_1_ok0 f52_G_ok
end Go.Eng.N
set_option linter.unusedVariables false
set_option maxRecDepth 100000
open Go Go.Eng Go.Proofs
namespace Go.Eng.N
/-! ### f46_1: slices.stableCmpFunc(int) -/
noncomputable def f46_1_p4b0 (i9 : Nat) (n10 : Nat) (n11 : Int) (n12 : Int) (n13 : Int) (n14 : Int) (es15 : List (List PC)) (es16 : List (List PC)) (full17 : Bool) (n18 : Int) (n19 : Int) (N0 : Int → Int → (List (List PC)) → (List (List PC)) → Bool → Int → Int → Prop) (k0 : Int → (List (List PC)) → (List (List PC)) → Bool → Int → Int → Prop) : Prop := bB (decide (n14 ≤ n11)) (f51_1 i9 n10 n13 n14 es15 es16 full17 n18 n19 (fun es20 es21 full22 n23 n24 => N0 n14 (w64 (n14 + n12)) es20 es21 full22 n23 n24)) (k0 n13 es15 es16 full17 n18 n19)
noncomputable def f46_1_p4 (i9 : Nat) (n10 : Nat) (n11 : Int) (n12 : Int) (k0 : Int → (List (List PC)) → (List (List PC)) → Bool → Int → Int → Prop) : Int × Int × (List (List PC)) × (List (List PC)) × Bool × Int × Int → Prop := LoopP fun x N => f46_1_p4b0 i9 n10 n11 n12 x.1 x.2.1 x.2.2.1 x.2.2.2.1 x.2.2.2.2.1 x.2.2.2.2.2.1 x.2.2.2.2.2.2 (fun n13 n14 es15 es16 full17 n18 n19 => N (n13, n14, es15, es16, full17, n18, n19)) k0
noncomputable def f46_1_p18b0 (i45 : Nat) (n46 : Nat) (n47 : Int) (n48 : Int) (n49 : Int) (n50 : Int) (es51 : List (List PC)) (es52 : List (List PC)) (full53 : Bool) (n54 : Int) (n55 : Int) (N0 : Int → Int → (List (List PC)) → (List (List PC)) → Bool → Int → Int → Prop) (k0 : Int → (List (List PC)) → (List (List PC)) → Bool → Int → Int → Prop) : Prop := bB (decide (n50 ≤ n47)) (f52_1 i45 n46 n49 (w64 (n49 + n48)) n50 es51 es52 full53 n54 n55 (fun es56 es57 full58 n59 n60 => N0 n50 (w64 (n50 + (w64 (2 * n48)))) es56 es57 full58 n59 n60)) (k0 n49 es51 es52 full53 n54 n55)
noncomputable def f46_1_p18 (i45 : Nat) (n46 : Nat) (n47 : Int) (n48 : Int) (k0 : Int → (List (List PC)) → (List (List PC)) → Bool → Int → Int → Prop) : Int × Int × (List (List PC)) × (List (List PC)) × Bool × Int × Int → Prop := LoopP fun x N => f46_1_p18b0 i45 n46 n47 n48 x.1 x.2.1 x.2.2.1 x.2.2.2.1 x.2.2.2.2.1 x.2.2.2.2.2.1 x.2.2.2.2.2.2 (fun n49 n50 es51 es52 full53 n54 n55 => N (n49, n50, es51, es52, full53, n54, n55)) k0
noncomputable def f46_1_p14b0 (i36 : Nat) (n37 : Nat) (n38 : Int) (n39 : Int) (es40 : List (List PC)) (es41 : List (List PC)) (full42 : Bool) (n43 : Int) (n44 : Int) (N0 : Int → (List (List PC)) → (List (List PC)) → Bool → Int → Int → Prop) (k0 : (List (List PC)) → (List (List PC)) → Bool → Int → Int → Prop) : Prop := bB (decide (n39 < n38)) (f46_1_p18 i36 n37 n38 n39 (fun n61 es62 es63 full64 n65 n66 => bB (decide ((w64 (n61 + n39)) < n38)) (f52_1 i36 n37 n61 (w64 (n61 + n39)) n38 es62 es63 full64 n65 n66 (fun es67 es68 full69 n70 n71 => N0 (w64 (n39 * 2)) es67 es68 full69 n70 n71)) (N0 (w64 (n39 * 2)) es62 es63 full64 n65 n66)) (0, (w64 (2 * n39)), es40, es41, full42, n43, n44)) (k0 es40 es41 full42 n43 n44)
noncomputable def f46_1_p14 (i36 : Nat) (n37 : Nat) (n38 : Int) (k0 : (List (List PC)) → (List (List PC)) → Bool → Int → Int → Prop) : Int × (List (List PC)) × (List (List PC)) × Bool × Int × Int → Prop := LoopP fun x N => f46_1_p14b0 i36 n37 n38 x.1 x.2.1 x.2.2.1 x.2.2.2.1 x.2.2.2.2.1 x.2.2.2.2.2 (fun n39 es40 es41 full42 n43 n44 => N (n39, es40, es41, full42, n43, n44)) k0
noncomputable def f46_1_d (i1 : Nat) (n2 : Nat) (n3 : Int) (es4 : List (List PC)) (es5 : List (List PC)) (full6 : Bool) (n7 : Int) (n8 : Int) (k0 : (List (List PC)) → (List (List PC)) → Bool → Int → Int → Prop) : Prop := f46_1_p4 i1 n2 n3 20 (fun n25 es26 es27 full28 n29 n30 => f51_1 i1 n2 n25 n3 es26 es27 full28 n29 n30 (fun es31 es32 full33 n34 n35 => f46_1_p14 i1 n2 n3 (fun es72 es73 full74 n75 n76 => k0 es72 es73 full74 n75 n76) (20, es31, es32, full33, n34, n35))) (0, 20, es4, es5, full6, n7, n8)
structure f46_1 (i1 : Nat) (n2 : Nat) (n3 : Int) (es4 : List (List PC)) (es5 : List (List PC)) (full6 : Bool) (n7 : Int) (n8 : Int) (k0 : (List (List PC)) → (List (List PC)) → Bool → Int → Int → Prop) : Prop where
  run : f46_1_d i1 n2 n3 es4 es5 full6 n7 n8 k0
noncomputable def f46_1_p4L : Told := fun s K => match s with
  | ⟨tm, hp⟩ => getS [.v (.one (.ref 0)), .v (.one (.int .i64)), .v (.clo 36 [] [.ptr 1 0 0]), .skip 3, .v (.one (.int .i64)), .v (.one (.int .i64)), .v (.one (.int .i64)), .skip 54] [.vec 1 true, .box [.sl 3, .int .i64, .int .i64]] tm hp fun (xx : ((Nat × Nat) × (Int × ((Unit × (Unit × Unit)) × (Unit × (Int × (Int × (Int × (Unit × Unit))))))))) (yy : ((List (List PC)) × (((List (List PC) × Bool) × (Int × (Int × Unit))) × Unit))) => f46_1_p4 xx.1.1 xx.1.2 xx.2.1 xx.2.2.2.2.1 (fun n0_0 es0_1 es0_2 full0_3 n0_4 n0_5 => K (.exit 0) ⟨mkS 63 [(0, .w (.one (.ref 0 xx.1.1 xx.1.2))), (1, I xx.2.1), (2, .w (.one (.clo 36 [] [.ptr 1 0 0]))), (6, I xx.2.2.2.2.1), (7, I n0_0)], [.vec 1 es0_1 true, .box [.p (.sl 3 es0_2 full0_3), .p (pI n0_4), .p (pI n0_5)]]⟩) (xx.2.2.2.2.2.1, xx.2.2.2.2.2.2.1, yy.1, yy.2.1.1.1, yy.2.1.1.2, yy.2.1.2.1, yy.2.1.2.2.1)
noncomputable def f46_1_p18L : Told := fun s K => match s with
  | ⟨tm, hp⟩ => getS [.v (.one (.ref 0)), .v (.one (.int .i64)), .v (.clo 36 [] [.ptr 1 0 0]), .skip 3, .v (.one (.int .i64)), .v (.one (.int .i64)), .v (.one (.int .i64)), .skip 54] [.vec 1 true, .box [.sl 3, .int .i64, .int .i64]] tm hp fun (xx : ((Nat × Nat) × (Int × ((Unit × (Unit × Unit)) × (Unit × (Int × (Int × (Int × (Unit × Unit))))))))) (yy : ((List (List PC)) × (((List (List PC) × Bool) × (Int × (Int × Unit))) × Unit))) => f46_1_p18 xx.1.1 xx.1.2 xx.2.1 xx.2.2.2.2.1 (fun n0_6 es0_7 es0_8 full0_9 n0_10 n0_11 => K (.exit 4) ⟨mkS 63 [(0, .w (.one (.ref 0 xx.1.1 xx.1.2))), (1, I xx.2.1), (2, .w (.one (.clo 36 [] [.ptr 1 0 0]))), (6, I xx.2.2.2.2.1), (7, I n0_6)], [.vec 1 es0_7 true, .box [.p (.sl 3 es0_8 full0_9), .p (pI n0_10), .p (pI n0_11)]]⟩) (xx.2.2.2.2.2.1, xx.2.2.2.2.2.2.1, yy.1, yy.2.1.1.1, yy.2.1.1.2, yy.2.1.2.1, yy.2.1.2.2.1)
noncomputable def f46_1_p14L : Told := fun s K => match s with
  | ⟨tm, hp⟩ => getS [.v (.one (.ref 0)), .v (.one (.int .i64)), .v (.clo 36 [] [.ptr 1 0 0]), .skip 3, .v (.one (.int .i64)), .skip 56] [.vec 1 true, .box [.sl 3, .int .i64, .int .i64]] tm hp fun (xx : ((Nat × Nat) × (Int × ((Unit × (Unit × Unit)) × (Unit × (Int × (Unit × Unit))))))) (yy : ((List (List PC)) × (((List (List PC) × Bool) × (Int × (Int × Unit))) × Unit))) => f46_1_p14 xx.1.1 xx.1.2 xx.2.1 (fun es0_12 es0_13 full0_14 n0_15 n0_16 => K (.exit 2) ⟨mkS 63 [], [.vec 1 es0_12 true, .box [.p (.sl 3 es0_13 full0_14), .p (pI n0_15), .p (pI n0_16)]]⟩) (xx.2.2.2.2.1, yy.1, yy.2.1.1.1, yy.2.1.1.2, yy.2.1.2.1, yy.2.1.2.2.1)
noncomputable def f46_1_tab : List (Nat × Told) := [(4, f46_1_p4L), (18, f46_1_p18L), (14, f46_1_p14L)]
noncomputable def f46_1_call : FuncId → List TV → List Entry → (TV → List Entry → Prop) → Prop := addCall 52 f52_1_G (addCall 51 f51_1_G (noCalls))
noncomputable def f46_1_C : Ctx := { ty := tyOf tab, glob := glob, byRef := byRef, keep := fun k i => lookN [] (lookN [] ([(4, [(0, [0, 1, 2, 6, 7, 8]), (2, []), (3, [0, 1, 2, 6, 7])]), (18, [(0, [0, 1, 2, 6, 7, 8]), (2, []), (5, []), (6, [0, 1, 2, 6]), (7, [0, 1, 2, 6, 7])]), (14, [(0, [0, 1, 2, 6]), (2, []), (5, [])])] : List (Nat × List (Nat × List Nat))) k) i, late := lookN [] ([] : List (Nat × List Nat)), nref := lookN [] ([] : List (Nat × List Nat)), nbox := lookN [] ([] : List (Nat × List (Nat × Nat))), take := [], rnil := true, m := 2, fz := false, loops := lookL f46_1_tab, call := f46_1_call }
noncomputable def f46_1_p4_mk (i9 : Nat) (n10 : Nat) (n11 : Int) (n12 : Int) (x : Int × Int × (List (List PC)) × (List (List PC)) × Bool × Int × Int) : St := ⟨mkS 63 [(0, .w (.one (.ref 0 i9 n10))), (1, I n11), (2, .w (.one (.clo 36 [] [.ptr 1 0 0]))), (6, I n12), (7, I x.1), (8, I x.2.1)], [.vec 1 x.2.2.1 true, .box [.p (.sl 3 x.2.2.2.1 x.2.2.2.2.1), .p (pI x.2.2.2.2.2.1), .p (pI x.2.2.2.2.2.2)]]⟩
set_option maxRecDepth 100000 in
theorem f46_1_p4e0 (i_33 : Nat) (n_34 : Nat) (n_35 : Int) (n_36 : Int) (n_37 : Int) (n_38 : Int) (es_39 : List (List PC)) (es_40 : List (List PC)) (full_41 : Bool) (n_42 : Int) (n_43 : Int) (N : St → Prop) (K : TExit → St → Prop) : (f46_1_p4b0 i_33 n_34 n_35 n_36 n_37 n_38 es_39 es_40 full_41 n_42 n_43 (fun z4 z5 z6 z7 z8 z9 z10 => N (f46_1_p4_mk i_33 n_34 n_35 n_36 (z4, z5, z6, z7, z8, z9, z10))) (fun n0_44 es0_45 es0_46 full0_47 n0_48 n0_49 => K (.exit 0) ⟨mkS 63 [(0, .w (.one (.ref 0 i_33 n_34))), (1, I n_35), (2, .w (.one (.clo 36 [] [.ptr 1 0 0]))), (6, I n_36), (7, I n0_44)], [.vec 1 es0_45 true, .box [.p (.sl 3 es0_46 full0_47), .p (pI n0_48), .p (pI n0_49)]]⟩)) = execT f46_1_C (nthC (bodies (bodyOf Try.f46)) 0) (f46_1_p4_mk i_33 n_34 n_35 n_36 (n_37, n_38, es_39, es_40, full_41, n_42, n_43)) (loopK N (normK f46_1_C 4) fun e s => K e (normOut f46_1_C 4 e s)) := by kernel_rfl
noncomputable def f46_1_p18_mk (i45 : Nat) (n46 : Nat) (n47 : Int) (n48 : Int) (x : Int × Int × (List (List PC)) × (List (List PC)) × Bool × Int × Int) : St := ⟨mkS 63 [(0, .w (.one (.ref 0 i45 n46))), (1, I n47), (2, .w (.one (.clo 36 [] [.ptr 1 0 0]))), (6, I n48), (7, I x.1), (8, I x.2.1)], [.vec 1 x.2.2.1 true, .box [.p (.sl 3 x.2.2.2.1 x.2.2.2.2.1), .p (pI x.2.2.2.2.2.1), .p (pI x.2.2.2.2.2.2)]]⟩
set_option maxRecDepth 100000 in
theorem f46_1_p18e0 (i_61 : Nat) (n_62 : Nat) (n_63 : Int) (n_64 : Int) (n_65 : Int) (n_66 : Int) (es_67 : List (List PC)) (es_68 : List (List PC)) (full_69 : Bool) (n_70 : Int) (n_71 : Int) (N : St → Prop) (K : TExit → St → Prop) : (f46_1_p18b0 i_61 n_62 n_63 n_64 n_65 n_66 es_67 es_68 full_69 n_70 n_71 (fun z4 z5 z6 z7 z8 z9 z10 => N (f46_1_p18_mk i_61 n_62 n_63 n_64 (z4, z5, z6, z7, z8, z9, z10))) (fun n0_72 es0_73 es0_74 full0_75 n0_76 n0_77 => K (.exit 4) ⟨mkS 63 [(0, .w (.one (.ref 0 i_61 n_62))), (1, I n_63), (2, .w (.one (.clo 36 [] [.ptr 1 0 0]))), (6, I n_64), (7, I n0_72)], [.vec 1 es0_73 true, .box [.p (.sl 3 es0_74 full0_75), .p (pI n0_76), .p (pI n0_77)]]⟩)) = execT f46_1_C (nthC (bodies (bodyOf Try.f46)) 2) (f46_1_p18_mk i_61 n_62 n_63 n_64 (n_65, n_66, es_67, es_68, full_69, n_70, n_71)) (loopK N (normK f46_1_C 18) fun e s => K e (normOut f46_1_C 18 e s)) := by kernel_rfl
noncomputable def f46_1_p14_mk (i36 : Nat) (n37 : Nat) (n38 : Int) (x : Int × (List (List PC)) × (List (List PC)) × Bool × Int × Int) : St := ⟨mkS 63 [(0, .w (.one (.ref 0 i36 n37))), (1, I n38), (2, .w (.one (.clo 36 [] [.ptr 1 0 0]))), (6, I x.1)], [.vec 1 x.2.1 true, .box [.p (.sl 3 x.2.2.1 x.2.2.2.1), .p (pI x.2.2.2.2.1), .p (pI x.2.2.2.2.2)]]⟩
set_option maxRecDepth 100000 in
theorem f46_1_p14e0 (i_87 : Nat) (n_88 : Nat) (n_89 : Int) (n_90 : Int) (es_91 : List (List PC)) (es_92 : List (List PC)) (full_93 : Bool) (n_94 : Int) (n_95 : Int) (N : St → Prop) (K : TExit → St → Prop) : (f46_1_p14b0 i_87 n_88 n_89 n_90 es_91 es_92 full_93 n_94 n_95 (fun z3 z4 z5 z6 z7 z8 => N (f46_1_p14_mk i_87 n_88 n_89 (z3, z4, z5, z6, z7, z8))) (fun es0_96 es0_97 full0_98 n0_99 n0_100 => K (.exit 2) ⟨mkS 63 [], [.vec 1 es0_96 true, .box [.p (.sl 3 es0_97 full0_98), .p (pI n0_99), .p (pI n0_100)]]⟩)) = execT f46_1_C (nthC (bodies (bodyOf Try.f46)) 1) (f46_1_p14_mk i_87 n_88 n_89 (n_90, es_91, es_92, full_93, n_94, n_95)) (loopK N (normK f46_1_C 14) fun e s => K e (normOut f46_1_C 14 e s)) := by kernel_rfl
set_option maxHeartbeats 4000000 in
theorem f46_1_p4_ok : LoopOk f46_1_C (nthC (bodies (bodyOf Try.f46)) 0) := by
  refine LoopOk.of f46_1_p4L (by kernel_rfl) fun σ K h => ?_
  have hk : loopKey (nthC (bodies (bodyOf Try.f46)) 0) = 4 := by kernel_rfl
  rw [hk] at h ⊢
  generalize hs : normK f46_1_C 4 σ = s at h
  obtain ⟨tm, hp⟩ := s
  unfold f46_1_p4L at h
  dsimp only at h
  obtain ⟨xx, yy, rfl, rfl, h⟩ := getS_elim h
  refine iter_of (f46_1_p4_mk xx.1.1 xx.1.2 xx.2.1 xx.2.2.2.2.1) (fun x N h => ?_) rounds _ σ (hs.trans (by kernel_rfl)) (LoopP.run h)
  obtain ⟨y0, y1, y2, y3, y4, y5, y6⟩ := x
  rw [← f46_1_p4e0 xx.1.1 xx.1.2 xx.2.1 xx.2.2.2.2.1 y0 y1 y2 y3 y4 y5 y6 N K]
  exact h
set_option maxHeartbeats 4000000 in
theorem f46_1_p18_ok : LoopOk f46_1_C (nthC (bodies (bodyOf Try.f46)) 2) := by
  refine LoopOk.of f46_1_p18L (by kernel_rfl) fun σ K h => ?_
  have hk : loopKey (nthC (bodies (bodyOf Try.f46)) 2) = 18 := by kernel_rfl
  rw [hk] at h ⊢
  generalize hs : normK f46_1_C 18 σ = s at h
  obtain ⟨tm, hp⟩ := s
  unfold f46_1_p18L at h
  dsimp only at h
  obtain ⟨xx, yy, rfl, rfl, h⟩ := getS_elim h
  refine iter_of (f46_1_p18_mk xx.1.1 xx.1.2 xx.2.1 xx.2.2.2.2.1) (fun x N h => ?_) rounds _ σ (hs.trans (by kernel_rfl)) (LoopP.run h)
  obtain ⟨y0, y1, y2, y3, y4, y5, y6⟩ := x
  rw [← f46_1_p18e0 xx.1.1 xx.1.2 xx.2.1 xx.2.2.2.2.1 y0 y1 y2 y3 y4 y5 y6 N K]
  exact h
set_option maxHeartbeats 4000000 in
theorem f46_1_p14_ok : LoopOk f46_1_C (nthC (bodies (bodyOf Try.f46)) 1) := by
  refine LoopOk.of f46_1_p14L (by kernel_rfl) fun σ K h => ?_
  have hk : loopKey (nthC (bodies (bodyOf Try.f46)) 1) = 14 := by kernel_rfl
  rw [hk] at h ⊢
  generalize hs : normK f46_1_C 14 σ = s at h
  obtain ⟨tm, hp⟩ := s
  unfold f46_1_p14L at h
  dsimp only at h
  obtain ⟨xx, yy, rfl, rfl, h⟩ := getS_elim h
  refine iter_of (f46_1_p14_mk xx.1.1 xx.1.2 xx.2.1) (fun x N h => ?_) rounds _ σ (hs.trans (by kernel_rfl)) (LoopP.run h)
  obtain ⟨y0, y1, y2, y3, y4, y5⟩ := x
  rw [← f46_1_p14e0 xx.1.1 xx.1.2 xx.2.1 y0 y1 y2 y3 y4 y5 N K]
  exact h
noncomputable def f46_1_G0 : List TV → List Entry → (TV → List Entry → Prop) → Prop := fun tm hp K => getS [.v (.one (.ref 0)), .v (.one (.int .i64)), .v (.clo 36 [] [.ptr 1 0 0])] [.vec 1 true, .box [.sl 3, .int .i64, .int .i64]] tm hp fun (xx : ((Nat × Nat) × (Int × ((Unit × (Unit × Unit)) × Unit)))) (yy : ((List (List PC)) × (((List (List PC) × Bool) × (Int × (Int × Unit))) × Unit))) => f46_1 xx.1.1 xx.1.2 xx.2.1 yy.1 yy.2.1.1.1 yy.2.1.1.2 yy.2.1.2.1 yy.2.1.2.2.1 (fun es0_17 es0_18 full0_19 n0_20 n0_21 => K undefT [.vec 1 es0_17 true, .box [.p (.sl 3 es0_18 full0_19), .p (pI n0_20), .p (pI n0_21)]])
set_option maxRecDepth 100000 in
theorem f46_1_eq (i_101 : Nat) (n_102 : Nat) (n_103 : Int) (es_104 : List (List PC)) (es_105 : List (List PC)) (full_106 : Bool) (n_107 : Int) (n_108 : Int) (K : TV → List Entry → Prop) : (f46_1_d i_101 n_102 n_103 es_104 es_105 full_106 n_107 n_108 (fun es0_17 es0_18 full0_19 n0_20 n0_21 => K undefT [.vec 1 es0_17 true, .box [.p (.sl 3 es0_18 full0_19), .p (pI n0_20), .p (pI n0_21)]])) = funcT f46_1_C Try.f46 [.w (.one (.ref 0 i_101 n_102)), I n_103, .w (.one (.clo 36 [] [.ptr 1 0 0]))] [.vec 1 es_104 true, .box [.p (.sl 3 es_105 full_106), .p (pI n_107), .p (pI n_108)]] K := by kernel_rfl
set_option maxHeartbeats 4000000 in
theorem f46_1_ok0 : FnOk Try.prog glob 46 f46_1_G0 := by
  refine FnOk.of_text (C := f46_1_C) tab_ok.ok (Known.add f52_1_G_ok (Known.add f51_1_G_ok (Known.none))) follows_ok (fn := Try.f46) (by kernel_rfl) (by kernel_rfl) (by kernel_rfl) (fun c hc => ?_) fun tm hp K h => ?_
  · have e : c = bodyOf Try.f46 := Option.some.inj (hc.symm.trans (by kernel_rfl))
    subst e
    exact ⟨LoopsOk.of [nthC (bodies (bodyOf Try.f46)) 0, nthC (bodies (bodyOf Try.f46)) 1, nthC (bodies (bodyOf Try.f46)) 2] (by kernel_rfl) ⟨f46_1_p4_ok, f46_1_p14_ok, f46_1_p18_ok, trivial⟩, TailsOk.of (tab := f46_1_tab) rfl [] (by kernel_rfl) trivial⟩
  · unfold f46_1_G0 at h
    obtain ⟨xx, yy, rfl, rfl, h⟩ := getS_elim h
    have e := (f46_1_eq xx.1.1 xx.1.2 xx.2.1 yy.1 yy.2.1.1.1 yy.2.1.1.2 yy.2.1.2.1 yy.2.1.2.2.1 K).trans (show _ = funcT f46_1_C Try.f46 (mkR _ xx) (mkE _ yy) K by kernel_rfl)
    rw [← e]
    exact h.run
noncomputable def f46_1_G : List TV → List Entry → (TV → List Entry → Prop) → Prop := fun args H K => bif isSig (sigOf args H) [100, 2, 100036, 7, 22, 20, 5, 2, 2] then f46_1_G0 args H K else f46_G args H K
theorem f46_1_G_ok : FnOk Try.prog glob 46 f46_1_G := FnOk.or _ f46_1_ok0 f46_G_ok
end Go.Eng.N
set_option linter.unusedVariables false
set_option maxRecDepth 100000
open Go Go.Eng Go.Proofs
namespace Go.Eng.N
/-! ### f35_1: slices.SortStableFunc(()int,int) -/
noncomputable def f35_1_d (i1 : Nat) (n2 : Nat) (es3 : List (List PC)) (es4 : List (List PC)) (full5 : Bool) (n6 : Int) (n7 : Int) (k0 : (List (List PC)) → (List (List PC)) → Bool → Int → Int → Prop) : Prop := f46_1 i1 n2 ((n2 : Nat) : Int) es3 es4 full5 n6 n7 (fun es8 es9 full10 n11 n12 => k0 es8 es9 full10 n11 n12)
structure f35_1 (i1 : Nat) (n2 : Nat) (es3 : List (List PC)) (es4 : List (List PC)) (full5 : Bool) (n6 : Int) (n7 : Int) (k0 : (List (List PC)) → (List (List PC)) → Bool → Int → Int → Prop) : Prop where
  run : f35_1_d i1 n2 es3 es4 full5 n6 n7 k0
noncomputable def f35_1_tab : List (Nat × Told) := []
noncomputable def f35_1_call : FuncId → List TV → List Entry → (TV → List Entry → Prop) → Prop := addCall 46 f46_1_G (noCalls)
noncomputable def f35_1_C : Ctx := { ty := tyOf tab, glob := glob, byRef := byRef, keep := fun k i => lookN [] (lookN [] ([] : List (Nat × List (Nat × List Nat))) k) i, late := lookN [] ([] : List (Nat × List Nat)), nref := lookN [] ([] : List (Nat × List Nat)), nbox := lookN [] ([] : List (Nat × List (Nat × Nat))), take := [], rnil := true, m := 2, fz := false, loops := lookL f35_1_tab, call := f35_1_call }
noncomputable def f35_1_G0 : List TV → List Entry → (TV → List Entry → Prop) → Prop := fun tm hp K => getS [.v (.one (.ref 0)), .v (.clo 36 [] [.ptr 1 0 0])] [.vec 1 true, .box [.sl 3, .int .i64, .int .i64]] tm hp fun (xx : ((Nat × Nat) × ((Unit × (Unit × Unit)) × Unit))) (yy : ((List (List PC)) × (((List (List PC) × Bool) × (Int × (Int × Unit))) × Unit))) => f35_1 xx.1.1 xx.1.2 yy.1 yy.2.1.1.1 yy.2.1.1.2 yy.2.1.2.1 yy.2.1.2.2.1 (fun es0_0 es0_1 full0_2 n0_3 n0_4 => K undefT [.vec 1 es0_0 true, .box [.p (.sl 3 es0_1 full0_2), .p (pI n0_3), .p (pI n0_4)]])
set_option maxRecDepth 100000 in
theorem f35_1_eq (i_5 : Nat) (n_6 : Nat) (es_7 : List (List PC)) (es_8 : List (List PC)) (full_9 : Bool) (n_10 : Int) (n_11 : Int) (K : TV → List Entry → Prop) : (f35_1_d i_5 n_6 es_7 es_8 full_9 n_10 n_11 (fun es0_0 es0_1 full0_2 n0_3 n0_4 => K undefT [.vec 1 es0_0 true, .box [.p (.sl 3 es0_1 full0_2), .p (pI n0_3), .p (pI n0_4)]])) = funcT f35_1_C Try.f35 [.w (.one (.ref 0 i_5 n_6)), .w (.one (.clo 36 [] [.ptr 1 0 0]))] [.vec 1 es_7 true, .box [.p (.sl 3 es_8 full_9), .p (pI n_10), .p (pI n_11)]] K := by kernel_rfl
set_option maxHeartbeats 4000000 in
theorem f35_1_ok0 : FnOk Try.prog glob 35 f35_1_G0 := by
  refine FnOk.of_text (C := f35_1_C) tab_ok.ok (Known.add f46_1_G_ok (Known.none)) follows_ok (fn := Try.f35) (by kernel_rfl) (by kernel_rfl) (by kernel_rfl) (fun c hc => ?_) fun tm hp K h => ?_
  · have e : c = bodyOf Try.f35 := Option.some.inj (hc.symm.trans (by kernel_rfl))
    subst e
    exact ⟨LoopsOk.of [] (by kernel_rfl) trivial, TailsOk.of (tab := f35_1_tab) rfl [] (by kernel_rfl) trivial⟩
  · unfold f35_1_G0 at h
    obtain ⟨xx, yy, rfl, rfl, h⟩ := getS_elim h
    have e := (f35_1_eq xx.1.1 xx.1.2 yy.1 yy.2.1.1.1 yy.2.1.1.2 yy.2.1.2.1 yy.2.1.2.2.1 K).trans (show _ = funcT f35_1_C Try.f35 (mkR _ xx) (mkE _ yy) K by kernel_rfl)
    rw [← e]
    exact h.run
noncomputable def f35_1_G : List TV → List Entry → (TV → List Entry → Prop) → Prop := fun args H K => bif isSig (sigOf args H) [100, 100036, 7, 22, 20, 5, 2, 2] then f35_1_G0 args H K else f35_G args H K
theorem f35_1_G_ok : FnOk Try.prog glob 35 f35_1_G := FnOk.or _ f35_1_ok0 f35_G_ok
end Go.Eng.N
set_option linter.unusedVariables false
set_option maxRecDepth 100000
open Go Go.Eng Go.Proofs
namespace Go.Eng.N
/-! ### f20: plenum/leadlag.Order -/
noncomputable def f20_p6b0 (i6 : Nat) (n7 : Nat) (n8 : Int) (n9 : Int) (es10 : List (List PC)) (i11 : Nat) (n12 : Nat) (n13 : Int) (n14 : Int) (es15 : List (List PC)) (N0 : Nat → Nat → Int → (List (List PC)) → Prop) (k0 : Nat → Nat → (List (List PC)) → Prop) : Prop := bB (decide (n9 < n8)) ((i6 + n7) ≤ es15.length ∧ (n7 + 1) * 8 ≤ 2 ^ 46 ∧ (n7 + 1) ≤ 2 ^ 46 ∧ N0 0 (n7 + 1) (w64 (n9 + 1)) ((List.take n7 (List.drop i6 es15)) ++ [[pI n9]])) (k0 i6 n7 es15)
noncomputable def f20_p6 (n8 : Int) (es10 : List (List PC)) (i11 : Nat) (n12 : Nat) (n13 : Int) (n14 : Int) (k0 : Nat → Nat → (List (List PC)) → Prop) : Nat × Nat × Int × (List (List PC)) → Prop := LoopP fun x N => f20_p6b0 x.1 x.2.1 n8 x.2.2.1 es10 i11 n12 n13 n14 x.2.2.2 (fun i6 n7 n9 es15 => N (i6, n7, n9, es15)) k0
noncomputable def f20_d (i1 : Nat) (n2 : Nat) (n3 : Int) (n4 : Int) (es5 : List (List PC)) (k0 : Nat → Nat → (List (List PC)) → (List (List PC)) → Prop) : Prop := f20_p6 ((n2 : Nat) : Int) es5 i1 n2 n3 n4 (fun i16 n17 es18 => f35 i16 n17 es18 i1 n2 n3 n4 es5 (fun es19 i20 n21 n22 n23 es24 => k0 i16 n17 es24 es19)) (0, 0, 0, [])
structure f20 (i1 : Nat) (n2 : Nat) (n3 : Int) (n4 : Int) (es5 : List (List PC)) (k0 : Nat → Nat → (List (List PC)) → (List (List PC)) → Prop) : Prop where
  run : f20_d i1 n2 n3 n4 es5 k0
noncomputable def f20_p6L : Told := fun s K => match s with
  | ⟨tm, hp⟩ => getS [.skip 1, .v (.one (.ptr 1 0 0)), .skip 1, .v (.one (.ref 2)), .skip 3, .v (.one (.int .i64)), .v (.one (.int .i64)), .skip 11] [.vec 3 true, .box [.ref 0, .int .i64, .int .i64], .vec 1 true] tm hp fun (xx : (Unit × (Unit × (Unit × ((Nat × Nat) × (Unit × (Int × (Int × (Unit × Unit))))))))) (yy : ((List (List PC)) × (((Nat × Nat) × (Int × (Int × Unit))) × ((List (List PC)) × Unit)))) => f20_p6 xx.2.2.2.2.2.1 yy.1 yy.2.1.1.1 yy.2.1.1.2 yy.2.1.2.1 yy.2.1.2.2.1 (fun i0_0 n0_1 es0_2 => K (.exit 0) ⟨mkS 20 [(1, .w (.one (.ptr 1 0 0))), (3, .w (.one (.ref 2 i0_0 n0_1)))], [.vec 3 yy.1 true, .box [.ref 0 yy.2.1.1.1 yy.2.1.1.2, .p (pI yy.2.1.2.1), .p (pI yy.2.1.2.2.1)], .vec 1 es0_2 true]⟩) (xx.2.2.2.1.1, xx.2.2.2.1.2, xx.2.2.2.2.2.2.1, yy.2.2.1)
noncomputable def f20_tab : List (Nat × Told) := [(6, f20_p6L)]
noncomputable def f20_call : FuncId → List TV → List Entry → (TV → List Entry → Prop) → Prop := addCall 35 f35_G (noCalls)
noncomputable def f20_C : Ctx := { ty := tyOf tab, glob := glob, byRef := byRef, keep := fun k i => lookN [] (lookN [] ([(6, [(0, [1, 3, 7, 8]), (2, [2]), (3, [1, 3])])] : List (Nat × List (Nat × List Nat))) k) i, late := lookN [] ([] : List (Nat × List Nat)), nref := lookN [] ([(6, [3])] : List (Nat × List Nat)), nbox := lookN [] ([] : List (Nat × List (Nat × Nat))), take := [], rnil := true, m := 1, fz := false, loops := lookL f20_tab, call := f20_call }
noncomputable def f20_p6_mk (n8 : Int) (es10 : List (List PC)) (i11 : Nat) (n12 : Nat) (n13 : Int) (n14 : Int) (x : Nat × Nat × Int × (List (List PC))) : St := ⟨mkS 20 [(1, .w (.one (.ptr 1 0 0))), (3, .w (.one (.ref 2 x.1 x.2.1))), (7, I n8), (8, I x.2.2.1)], [.vec 3 es10 true, .box [.ref 0 i11 n12, .p (pI n13), .p (pI n14)], .vec 1 x.2.2.2 true]⟩
set_option maxRecDepth 100000 in
theorem f20_p6e0 (i_17 : Nat) (n_18 : Nat) (n_19 : Int) (n_20 : Int) (es_21 : List (List PC)) (i_22 : Nat) (n_23 : Nat) (n_24 : Int) (n_25 : Int) (es_26 : List (List PC)) (N : St → Prop) (K : TExit → St → Prop) : (f20_p6b0 i_17 n_18 n_19 n_20 es_21 i_22 n_23 n_24 n_25 es_26 (fun z0 z1 z3 z9 => N (f20_p6_mk n_19 es_21 i_22 n_23 n_24 n_25 (z0, z1, z3, z9))) (fun i0_27 n0_28 es0_29 => K (.exit 0) ⟨mkS 20 [(1, .w (.one (.ptr 1 0 0))), (3, .w (.one (.ref 2 i0_27 n0_28)))], [.vec 3 es_21 true, .box [.ref 0 i_22 n_23, .p (pI n_24), .p (pI n_25)], .vec 1 es0_29 true]⟩)) = execT f20_C (nthC (bodies (bodyOf Try.f20)) 0) (f20_p6_mk n_19 es_21 i_22 n_23 n_24 n_25 (i_17, n_18, n_20, es_26)) (loopK N (normK f20_C 6) fun e s => K e (normOut f20_C 6 e s)) := by kernel_rfl
set_option maxHeartbeats 4000000 in
theorem f20_p6_ok : LoopOk f20_C (nthC (bodies (bodyOf Try.f20)) 0) := by
  refine LoopOk.of f20_p6L (by kernel_rfl) fun σ K h => ?_
  have hk : loopKey (nthC (bodies (bodyOf Try.f20)) 0) = 6 := by kernel_rfl
  rw [hk] at h ⊢
  generalize hs : normK f20_C 6 σ = s at h
  obtain ⟨tm, hp⟩ := s
  unfold f20_p6L at h
  dsimp only at h
  obtain ⟨xx, yy, rfl, rfl, h⟩ := getS_elim h
  refine iter_of (f20_p6_mk xx.2.2.2.2.2.1 yy.1 yy.2.1.1.1 yy.2.1.1.2 yy.2.1.2.1 yy.2.1.2.2.1) (fun x N h => ?_) rounds _ σ (hs.trans (by kernel_rfl)) (LoopP.run h)
  obtain ⟨y0, y1, y2, y3⟩ := x
  rw [← f20_p6e0 y0 y1 xx.2.2.2.2.2.1 y2 yy.1 yy.2.1.1.1 yy.2.1.1.2 yy.2.1.2.1 yy.2.1.2.2.1 y3 N K]
  exact h
noncomputable def f20_G0 : List TV → List Entry → (TV → List Entry → Prop) → Prop := fun tm hp K => getS [.v (.agg [.ref 0, .int .i64, .int .i64])] [.vec 3 true] tm hp fun (xx : (((Nat × Nat) × (Int × (Int × Unit))) × Unit)) (yy : ((List (List PC)) × Unit)) => f20 xx.1.1.1 xx.1.1.2 xx.1.2.1 xx.1.2.2.1 yy.1 (fun i0_3 n0_4 es0_5 es0_6 => K (.w (.one (.ref 1 i0_3 n0_4))) [.vec 3 es0_5 true, .vec 1 es0_6 true])
set_option maxRecDepth 100000 in
theorem f20_eq (i_30 : Nat) (n_31 : Nat) (n_32 : Int) (n_33 : Int) (es_34 : List (List PC)) (K : TV → List Entry → Prop) : (f20_d i_30 n_31 n_32 n_33 es_34 (fun i0_3 n0_4 es0_5 es0_6 => K (.w (.one (.ref 1 i0_3 n0_4))) [.vec 3 es0_5 true, .vec 1 es0_6 true])) = funcT f20_C Try.f20 [.w (.agg [.ref 0 i_30 n_31, .p (pI n_32), .p (pI n_33)])] [.vec 3 es_34 true] K := by kernel_rfl
set_option maxHeartbeats 4000000 in
theorem f20_ok0 : FnOk Try.prog glob 20 f20_G0 := by
  refine FnOk.of_text (C := f20_C) tab_ok.ok (Known.add f35_G_ok (Known.none)) follows_ok (fn := Try.f20) (by kernel_rfl) (by kernel_rfl) (by kernel_rfl) (fun c hc => ?_) fun tm hp K h => ?_
  · have e : c = bodyOf Try.f20 := Option.some.inj (hc.symm.trans (by kernel_rfl))
    subst e
    exact ⟨LoopsOk.of [nthC (bodies (bodyOf Try.f20)) 0] (by kernel_rfl) ⟨f20_p6_ok, trivial⟩, TailsOk.of (tab := f20_tab) rfl [] (by kernel_rfl) trivial⟩
  · unfold f20_G0 at h
    obtain ⟨xx, yy, rfl, rfl, h⟩ := getS_elim h
    have e := (f20_eq xx.1.1.1 xx.1.1.2 xx.1.2.1 xx.1.2.2.1 yy.1 K).trans (show _ = funcT f20_C Try.f20 (mkR _ xx) (mkE _ yy) K by kernel_rfl)
    rw [← e]
    exact h.run
noncomputable abbrev f20_G := f20_G0
theorem f20_G_ok : FnOk Try.prog glob 20 f20_G := f20_ok0
end Go.Eng.N
set_option linter.unusedVariables false
set_option maxRecDepth 100000
open Go Go.Eng Go.Proofs
namespace Go.Eng.N
/-! ### f20_1: plenum/leadlag.Order -/
noncomputable def f20_1_p6b0 (i5 : Nat) (n6 : Nat) (n7 : Int) (n8 : Int) (es9 : List (List PC)) (full10 : Bool) (n11 : Int) (n12 : Int) (es13 : List (List PC)) (N0 : Nat → Nat → Int → (List (List PC)) → Prop) (k0 : Nat → Nat → (List (List PC)) → Prop) : Prop := bB (decide (n8 < n7)) ((i5 + n6) ≤ es13.length ∧ (n6 + 1) * 8 ≤ 2 ^ 46 ∧ (n6 + 1) ≤ 2 ^ 46 ∧ N0 0 (n6 + 1) (w64 (n8 + 1)) ((List.take n6 (List.drop i5 es13)) ++ [[pI n8]])) (k0 i5 n6 es13)
noncomputable def f20_1_p6 (n7 : Int) (es9 : List (List PC)) (full10 : Bool) (n11 : Int) (n12 : Int) (k0 : Nat → Nat → (List (List PC)) → Prop) : Nat × Nat × Int × (List (List PC)) → Prop := LoopP fun x N => f20_1_p6b0 x.1 x.2.1 n7 x.2.2.1 es9 full10 n11 n12 x.2.2.2 (fun i5 n6 n8 es13 => N (i5, n6, n8, es13)) k0
noncomputable def f20_1_d (es1 : List (List PC)) (full2 : Bool) (n3 : Int) (n4 : Int) (k0 : Nat → Nat → (List (List PC)) → Prop) : Prop := f20_1_p6 ((es1.length : Nat) : Int) es1 full2 n3 n4 (fun i14 n15 es16 => f35_1 i14 n15 es16 es1 full2 n3 n4 (fun es17 es18 full19 n20 n21 => k0 i14 n15 es17)) (0, 0, 0, [])
structure f20_1 (es1 : List (List PC)) (full2 : Bool) (n3 : Int) (n4 : Int) (k0 : Nat → Nat → (List (List PC)) → Prop) : Prop where
  run : f20_1_d es1 full2 n3 n4 k0
noncomputable def f20_1_p6L : Told := fun s K => match s with
  | ⟨tm, hp⟩ => getS [.skip 1, .v (.one (.ptr 0 0 0)), .skip 1, .v (.one (.ref 1)), .skip 3, .v (.one (.int .i64)), .v (.one (.int .i64)), .skip 11] [.box [.sl 3, .int .i64, .int .i64], .vec 1 true] tm hp fun (xx : (Unit × (Unit × (Unit × ((Nat × Nat) × (Unit × (Int × (Int × (Unit × Unit))))))))) (yy : (((List (List PC) × Bool) × (Int × (Int × Unit))) × ((List (List PC)) × Unit))) => f20_1_p6 xx.2.2.2.2.2.1 yy.1.1.1 yy.1.1.2 yy.1.2.1 yy.1.2.2.1 (fun i0_0 n0_1 es0_2 => K (.exit 0) ⟨mkS 20 [(1, .w (.one (.ptr 0 0 0))), (3, .w (.one (.ref 1 i0_0 n0_1)))], [.box [.p (.sl 3 yy.1.1.1 yy.1.1.2), .p (pI yy.1.2.1), .p (pI yy.1.2.2.1)], .vec 1 es0_2 true]⟩) (xx.2.2.2.1.1, xx.2.2.2.1.2, xx.2.2.2.2.2.2.1, yy.2.1)
noncomputable def f20_1_tab : List (Nat × Told) := [(6, f20_1_p6L)]
noncomputable def f20_1_call : FuncId → List TV → List Entry → (TV → List Entry → Prop) → Prop := addCall 35 f35_1_G (noCalls)
noncomputable def f20_1_C : Ctx := { ty := tyOf tab, glob := glob, byRef := byRef, keep := fun k i => lookN [] (lookN [] ([(6, [(0, [1, 3, 7, 8]), (2, [2]), (3, [1, 3])])] : List (Nat × List (Nat × List Nat))) k) i, late := lookN [] ([] : List (Nat × List Nat)), nref := lookN [] ([(6, [3])] : List (Nat × List Nat)), nbox := lookN [] ([] : List (Nat × List (Nat × Nat))), take := [], rnil := true, m := 0, fz := false, loops := lookL f20_1_tab, call := f20_1_call }
noncomputable def f20_1_p6_mk (n7 : Int) (es9 : List (List PC)) (full10 : Bool) (n11 : Int) (n12 : Int) (x : Nat × Nat × Int × (List (List PC))) : St := ⟨mkS 20 [(1, .w (.one (.ptr 0 0 0))), (3, .w (.one (.ref 1 x.1 x.2.1))), (7, I n7), (8, I x.2.2.1)], [.box [.p (.sl 3 es9 full10), .p (pI n11), .p (pI n12)], .vec 1 x.2.2.2 true]⟩
set_option maxRecDepth 100000 in
theorem f20_1_p6e0 (i_15 : Nat) (n_16 : Nat) (n_17 : Int) (n_18 : Int) (es_19 : List (List PC)) (full_20 : Bool) (n_21 : Int) (n_22 : Int) (es_23 : List (List PC)) (N : St → Prop) (K : TExit → St → Prop) : (f20_1_p6b0 i_15 n_16 n_17 n_18 es_19 full_20 n_21 n_22 es_23 (fun z0 z1 z3 z8 => N (f20_1_p6_mk n_17 es_19 full_20 n_21 n_22 (z0, z1, z3, z8))) (fun i0_24 n0_25 es0_26 => K (.exit 0) ⟨mkS 20 [(1, .w (.one (.ptr 0 0 0))), (3, .w (.one (.ref 1 i0_24 n0_25)))], [.box [.p (.sl 3 es_19 full_20), .p (pI n_21), .p (pI n_22)], .vec 1 es0_26 true]⟩)) = execT f20_1_C (nthC (bodies (bodyOf Try.f20)) 0) (f20_1_p6_mk n_17 es_19 full_20 n_21 n_22 (i_15, n_16, n_18, es_23)) (loopK N (normK f20_1_C 6) fun e s => K e (normOut f20_1_C 6 e s)) := by kernel_rfl
set_option maxHeartbeats 4000000 in
theorem f20_1_p6_ok : LoopOk f20_1_C (nthC (bodies (bodyOf Try.f20)) 0) := by
  refine LoopOk.of f20_1_p6L (by kernel_rfl) fun σ K h => ?_
  have hk : loopKey (nthC (bodies (bodyOf Try.f20)) 0) = 6 := by kernel_rfl
  rw [hk] at h ⊢
  generalize hs : normK f20_1_C 6 σ = s at h
  obtain ⟨tm, hp⟩ := s
  unfold f20_1_p6L at h
  dsimp only at h
  obtain ⟨xx, yy, rfl, rfl, h⟩ := getS_elim h
  refine iter_of (f20_1_p6_mk xx.2.2.2.2.2.1 yy.1.1.1 yy.1.1.2 yy.1.2.1 yy.1.2.2.1) (fun x N h => ?_) rounds _ σ (hs.trans (by kernel_rfl)) (LoopP.run h)
  obtain ⟨y0, y1, y2, y3⟩ := x
  rw [← f20_1_p6e0 y0 y1 xx.2.2.2.2.2.1 y2 yy.1.1.1 yy.1.1.2 yy.1.2.1 yy.1.2.2.1 y3 N K]
  exact h
noncomputable def f20_1_G0 : List TV → List Entry → (TV → List Entry → Prop) → Prop := fun tm hp K => getS [.v (.pagg [.sl 3, .int .i64, .int .i64])] [] tm hp fun (xx : (((List (List PC) × Bool) × (Int × (Int × Unit))) × Unit)) (yy : Unit) => f20_1 xx.1.1.1 xx.1.1.2 xx.1.2.1 xx.1.2.2.1 (fun i0_3 n0_4 es0_5 => K (.w (.one (.ref 0 i0_3 n0_4))) [.vec 1 es0_5 true])
set_option maxRecDepth 100000 in
theorem f20_1_eq (es_27 : List (List PC)) (full_28 : Bool) (n_29 : Int) (n_30 : Int) (K : TV → List Entry → Prop) : (f20_1_d es_27 full_28 n_29 n_30 (fun i0_3 n0_4 es0_5 => K (.w (.one (.ref 0 i0_3 n0_4))) [.vec 1 es0_5 true])) = funcT f20_1_C Try.f20 [.w (.pagg [.sl 3 es_27 full_28, pI n_29, pI n_30])] [] K := by kernel_rfl
set_option maxHeartbeats 4000000 in
theorem f20_1_ok0 : FnOk Try.prog glob 20 f20_1_G0 := by
  refine FnOk.of_text (C := f20_1_C) tab_ok.ok (Known.add f35_1_G_ok (Known.none)) follows_ok (fn := Try.f20) (by kernel_rfl) (by kernel_rfl) (by kernel_rfl) (fun c hc => ?_) fun tm hp K h => ?_
  · have e : c = bodyOf Try.f20 := Option.some.inj (hc.symm.trans (by kernel_rfl))
    subst e
    exact ⟨LoopsOk.of [nthC (bodies (bodyOf Try.f20)) 0] (by kernel_rfl) ⟨f20_1_p6_ok, trivial⟩, TailsOk.of (tab := f20_1_tab) rfl [] (by kernel_rfl) trivial⟩
  · unfold f20_1_G0 at h
    obtain ⟨xx, yy, rfl, rfl, h⟩ := getS_elim h
    have e := (f20_1_eq xx.1.1.1 xx.1.1.2 xx.1.2.1 xx.1.2.2.1 K).trans (show _ = funcT f20_1_C Try.f20 (mkR _ xx) (mkE _ yy) K by kernel_rfl)
    rw [← e]
    exact h.run
noncomputable def f20_1_G : List TV → List Entry → (TV → List Entry → Prop) → Prop := fun args H K => bif isSig (sigOf args H) [10, 7] then f20_1_G0 args H K else f20_G args H K
theorem f20_1_G_ok : FnOk Try.prog glob 20 f20_1_G := FnOk.or _ f20_1_ok0 f20_G_ok
end Go.Eng.N
set_option linter.unusedVariables false
set_option maxRecDepth 100000
open Go Go.Eng Go.Proofs
namespace Go.Eng.N
/-! ### f21: plenum/plenumref55.Order -/
noncomputable def f21_p12b0 (i15 : Nat) (n16 : Nat) (n17 : Int) (n18 : Int) (es19 : List (List PC)) (i20 : Nat) (n21 : Nat) (n22 : Int) (n23 : Int) (es24 : List (List PC)) (N0 : Int → Prop) (k0 : Int → Prop) : Prop := bB (decide (n18 > 0)) ((0 ≤ (w64 (n18 - 1)) ∧ (w64 (n18 - 1)) < ((n16 : Nat) : Int)) ∧ oI .i64 (ext (List.getD es24 (i15 + (Int.toNat (w64 (n18 - 1)))) []) 0 1) fun n25 => f38 (List.take n21 (List.drop i20 es19)) false n17 n25 (fun b26 => bB b26 (N0 (w64 (n18 - 1))) (k0 n18))) (k0 n18)
noncomputable def f21_p12 (i15 : Nat) (n16 : Nat) (n17 : Int) (es19 : List (List PC)) (i20 : Nat) (n21 : Nat) (n22 : Int) (n23 : Int) (es24 : List (List PC)) (k0 : Int → Prop) : Int → Prop := LoopP fun x N => f21_p12b0 i15 n16 n17 x es19 i20 n21 n22 n23 es24 (fun n18 => N n18) k0
noncomputable def f21_p6b0 (i6 : Nat) (n7 : Nat) (n8 : Int) (es9 : List (List PC)) (i10 : Nat) (n11 : Nat) (n12 : Int) (n13 : Int) (es14 : List (List PC)) (N0 : Nat → Nat → Int → (List (List PC)) → Prop) (k0 : Nat → Nat → (List (List PC)) → Prop) : Prop := bB (decide (n8 < ((n11 : Nat) : Int))) (f21_p12 i6 n7 n8 es9 i10 n11 n12 n13 es14 (fun n27 => (0 ≤ (0 : Int) ∧ (0 : Int) ≤ n27 ∧ n27 ≤ ((n7 : Nat) : Int)) ∧ (0 ≤ n27 ∧ n27 ≤ ((n7 : Nat) : Int) ∧ ((n7 : Nat) : Int) ≤ ((n7 : Nat) : Int)) ∧ ((0 ≤ 0 ∧ (0 + (List.take ((Int.toNat n27) - 0) (List.drop (i6 + 0) es14)).length) * 8 ≤ 2 ^ 46 ∧ (0 + (List.take ((Int.toNat n27) - 0) (List.drop (i6 + 0) es14)).length) ≤ 2 ^ 46 ∧ (0 + (0 + (List.take ((Int.toNat n27) - 0) (List.drop (i6 + 0) es14)).length)) ≤ ([] ++ (List.take ((Int.toNat n27) - 0) (List.drop (i6 + 0) es14))).length ∧ ((0 + (List.take ((Int.toNat n27) - 0) (List.drop (i6 + 0) es14)).length) + 1) * 8 ≤ 2 ^ 46 ∧ ((0 + (List.take ((Int.toNat n27) - 0) (List.drop (i6 + 0) es14)).length) + 1) ≤ 2 ^ 46 ∧ (0 + ((0 + (List.take ((Int.toNat n27) - 0) (List.drop (i6 + 0) es14)).length) + 1)) ≤ ((List.take (0 + (List.take ((Int.toNat n27) - 0) (List.drop (i6 + 0) es14)).length) (List.drop 0 ([] ++ (List.take ((Int.toNat n27) - 0) (List.drop (i6 + 0) es14))))) ++ [[pI n8]]).length ∧ (((0 + (List.take ((Int.toNat n27) - 0) (List.drop (i6 + 0) es14)).length) + 1) + (List.take ((Int.toNat ((n7 : Nat) : Int)) - (Int.toNat n27)) (List.drop (i6 + (Int.toNat n27)) es14)).length) * 8 ≤ 2 ^ 46 ∧ (((0 + (List.take ((Int.toNat n27) - 0) (List.drop (i6 + 0) es14)).length) + 1) + (List.take ((Int.toNat ((n7 : Nat) : Int)) - (Int.toNat n27)) (List.drop (i6 + (Int.toNat n27)) es14)).length) ≤ 2 ^ 46 ∧ N0 0 (((0 + (List.take ((Int.toNat n27) - 0) (List.drop (i6 + 0) es14)).length) + 1) + (List.take ((Int.toNat ((n7 : Nat) : Int)) - (Int.toNat n27)) (List.drop (i6 + (Int.toNat n27)) es14)).length) (w64 (n8 + 1)) ((List.take ((0 + (List.take ((Int.toNat n27) - 0) (List.drop (i6 + 0) es14)).length) + 1) (List.drop 0 ((List.take (0 + (List.take ((Int.toNat n27) - 0) (List.drop (i6 + 0) es14)).length) (List.drop 0 ([] ++ (List.take ((Int.toNat n27) - 0) (List.drop (i6 + 0) es14))))) ++ [[pI n8]]))) ++ (List.take ((Int.toNat ((n7 : Nat) : Int)) - (Int.toNat n27)) (List.drop (i6 + (Int.toNat n27)) es14)))) ∧ (0 ≤ 0 ∧ (0 + (List.take ((Int.toNat n27) - 0) (List.drop (i6 + 0) es14)).length) * 8 ≤ 2 ^ 46 ∧ (0 + (List.take ((Int.toNat n27) - 0) (List.drop (i6 + 0) es14)).length) ≤ 2 ^ 46 ∧ (0 + (0 + (List.take ((Int.toNat n27) - 0) (List.drop (i6 + 0) es14)).length)) ≤ ([] ++ (List.take ((Int.toNat n27) - 0) (List.drop (i6 + 0) es14))).length ∧ ((0 + (List.take ((Int.toNat n27) - 0) (List.drop (i6 + 0) es14)).length) + 1) * 8 ≤ 2 ^ 46 ∧ ((0 + (List.take ((Int.toNat n27) - 0) (List.drop (i6 + 0) es14)).length) + 1) ≤ 2 ^ 46 ∧ (0 + ((0 + (List.take ((Int.toNat n27) - 0) (List.drop (i6 + 0) es14)).length) + 1)) ≤ ((List.take (0 + (List.take ((Int.toNat n27) - 0) (List.drop (i6 + 0) es14)).length) (List.drop 0 ([] ++ (List.take ((Int.toNat n27) - 0) (List.drop (i6 + 0) es14))))) ++ [[pI n8]]).length ∧ (((0 + (List.take ((Int.toNat n27) - 0) (List.drop (i6 + 0) es14)).length) + 1) + (List.take ((Int.toNat ((n7 : Nat) : Int)) - (Int.toNat n27)) (List.drop (i6 + (Int.toNat n27)) es14)).length) * 8 ≤ 2 ^ 46 ∧ (((0 + (List.take ((Int.toNat n27) - 0) (List.drop (i6 + 0) es14)).length) + 1) + (List.take ((Int.toNat ((n7 : Nat) : Int)) - (Int.toNat n27)) (List.drop (i6 + (Int.toNat n27)) es14)).length) ≤ 2 ^ 46 ∧ N0 0 (((0 + (List.take ((Int.toNat n27) - 0) (List.drop (i6 + 0) es14)).length) + 1) + (List.take ((Int.toNat ((n7 : Nat) : Int)) - (Int.toNat n27)) (List.drop (i6 + (Int.toNat n27)) es14)).length) (w64 (n8 + 1)) ((List.take ((0 + (List.take ((Int.toNat n27) - 0) (List.drop (i6 + 0) es14)).length) + 1) (List.drop 0 ((List.take (0 + (List.take ((Int.toNat n27) - 0) (List.drop (i6 + 0) es14)).length) (List.drop 0 ([] ++ (List.take ((Int.toNat n27) - 0) (List.drop (i6 + 0) es14))))) ++ [[pI n8]]))) ++ (List.take ((Int.toNat ((n7 : Nat) : Int)) - (Int.toNat n27)) (List.drop (i6 + (Int.toNat n27)) es14))))) ∧ (0 ≤ 0 ∧ (0 + (List.take ((Int.toNat n27) - 0) (List.drop (i6 + 0) es14)).length) * 8 ≤ 2 ^ 46 ∧ (0 + (List.take ((Int.toNat n27) - 0) (List.drop (i6 + 0) es14)).length) ≤ 2 ^ 46 ∧ (0 + (0 + (List.take ((Int.toNat n27) - 0) (List.drop (i6 + 0) es14)).length)) ≤ ([] ++ (List.take ((Int.toNat n27) - 0) (List.drop (i6 + 0) es14))).length ∧ ((0 + (List.take ((Int.toNat n27) - 0) (List.drop (i6 + 0) es14)).length) + 1) * 8 ≤ 2 ^ 46 ∧ ((0 + (List.take ((Int.toNat n27) - 0) (List.drop (i6 + 0) es14)).length) + 1) ≤ 2 ^ 46 ∧ (0 + ((0 + (List.take ((Int.toNat n27) - 0) (List.drop (i6 + 0) es14)).length) + 1)) ≤ ((List.take (0 + (List.take ((Int.toNat n27) - 0) (List.drop (i6 + 0) es14)).length) (List.drop 0 ([] ++ (List.take ((Int.toNat n27) - 0) (List.drop (i6 + 0) es14))))) ++ [[pI n8]]).length ∧ (((0 + (List.take ((Int.toNat n27) - 0) (List.drop (i6 + 0) es14)).length) + 1) + (List.take ((Int.toNat ((n7 : Nat) : Int)) - (Int.toNat n27)) (List.drop (i6 + (Int.toNat n27)) es14)).length) * 8 ≤ 2 ^ 46 ∧ (((0 + (List.take ((Int.toNat n27) - 0) (List.drop (i6 + 0) es14)).length) + 1) + (List.take ((Int.toNat ((n7 : Nat) : Int)) - (Int.toNat n27)) (List.drop (i6 + (Int.toNat n27)) es14)).length) ≤ 2 ^ 46 ∧ N0 0 (((0 + (List.take ((Int.toNat n27) - 0) (List.drop (i6 + 0) es14)).length) + 1) + (List.take ((Int.toNat ((n7 : Nat) : Int)) - (Int.toNat n27)) (List.drop (i6 + (Int.toNat n27)) es14)).length) (w64 (n8 + 1)) ((List.take ((0 + (List.take ((Int.toNat n27) - 0) (List.drop (i6 + 0) es14)).length) + 1) (List.drop 0 ((List.take (0 + (List.take ((Int.toNat n27) - 0) (List.drop (i6 + 0) es14)).length) (List.drop 0 ([] ++ (List.take ((Int.toNat n27) - 0) (List.drop (i6 + 0) es14))))) ++ [[pI n8]]))) ++ (List.take ((Int.toNat ((n7 : Nat) : Int)) - (Int.toNat n27)) (List.drop (i6 + (Int.toNat n27)) es14))))) ((n7 : Nat) : Int)) (k0 i6 n7 es14)
noncomputable def f21_p6 (es9 : List (List PC)) (i10 : Nat) (n11 : Nat) (n12 : Int) (n13 : Int) (k0 : Nat → Nat → (List (List PC)) → Prop) : Nat × Nat × Int × (List (List PC)) → Prop := LoopP fun x N => f21_p6b0 x.1 x.2.1 x.2.2.1 es9 i10 n11 n12 n13 x.2.2.2 (fun i6 n7 n8 es14 => N (i6, n7, n8, es14)) k0
noncomputable def f21_d (i1 : Nat) (n2 : Nat) (n3 : Int) (n4 : Int) (es5 : List (List PC)) (k0 : Nat → Nat → (List (List PC)) → (List (List PC)) → Prop) : Prop := f21_p6 es5 i1 n2 n3 n4 (fun i28 n29 es30 => k0 i28 n29 es5 es30) (0, 0, 0, [])
structure f21 (i1 : Nat) (n2 : Nat) (n3 : Int) (n4 : Int) (es5 : List (List PC)) (k0 : Nat → Nat → (List (List PC)) → (List (List PC)) → Prop) : Prop where
  run : f21_d i1 n2 n3 n4 es5 k0
noncomputable def f21_p12L : Told := fun s K => match s with
  | ⟨tm, hp⟩ => getS [.skip 1, .v (.one (.ptr 1 0 0)), .skip 1, .v (.one (.ref 2)), .v (.one (.int .i64)), .v (.one (.int .i64)), .skip 38] [.vec 3 true, .box [.ref 0, .int .i64, .int .i64], .vec 1 true] tm hp fun (xx : (Unit × (Unit × (Unit × ((Nat × Nat) × (Int × (Int × (Unit × Unit)))))))) (yy : ((List (List PC)) × (((Nat × Nat) × (Int × (Int × Unit))) × ((List (List PC)) × Unit)))) => f21_p12 xx.2.2.2.1.1 xx.2.2.2.1.2 xx.2.2.2.2.1 yy.1 yy.2.1.1.1 yy.2.1.1.2 yy.2.1.2.1 yy.2.1.2.2.1 yy.2.2.1 (fun n0_0 => K (.exit 2) ⟨mkS 44 [(1, .w (.one (.ptr 1 0 0))), (3, .w (.one (.ref 2 xx.2.2.2.1.1 xx.2.2.2.1.2))), (4, I xx.2.2.2.2.1), (5, I n0_0)], [.vec 3 yy.1 true, .box [.ref 0 yy.2.1.1.1 yy.2.1.1.2, .p (pI yy.2.1.2.1), .p (pI yy.2.1.2.2.1)], .vec 1 yy.2.2.1 true]⟩) xx.2.2.2.2.2.1
noncomputable def f21_p6L : Told := fun s K => match s with
  | ⟨tm, hp⟩ => getS [.skip 1, .v (.one (.ptr 1 0 0)), .skip 1, .v (.one (.ref 2)), .v (.one (.int .i64)), .skip 39] [.vec 3 true, .box [.ref 0, .int .i64, .int .i64], .vec 1 true] tm hp fun (xx : (Unit × (Unit × (Unit × ((Nat × Nat) × (Int × (Unit × Unit))))))) (yy : ((List (List PC)) × (((Nat × Nat) × (Int × (Int × Unit))) × ((List (List PC)) × Unit)))) => f21_p6 yy.1 yy.2.1.1.1 yy.2.1.1.2 yy.2.1.2.1 yy.2.1.2.2.1 (fun i0_1 n0_2 es0_3 => K (.exit 0) ⟨mkS 44 [(3, .w (.one (.ref 1 i0_1 n0_2)))], [.vec 3 yy.1 true, .vec 1 es0_3 true]⟩) (xx.2.2.2.1.1, xx.2.2.2.1.2, xx.2.2.2.2.1, yy.2.2.1)
noncomputable def f21_tab : List (Nat × Told) := [(12, f21_p12L), (6, f21_p6L)]
noncomputable def f21_call : FuncId → List TV → List Entry → (TV → List Entry → Prop) → Prop := addCall 38 f38_G (noCalls)
noncomputable def f21_C : Ctx := { ty := tyOf tab, glob := glob, byRef := byRef, keep := fun k i => lookN [] (lookN [] ([(12, [(0, [1, 3, 4, 5]), (2, [2]), (3, [3]), (4, [1, 3, 4]), (5, [1, 3, 4, 5])]), (6, [(0, [1, 3, 4]), (2, [2]), (3, [3])])] : List (Nat × List (Nat × List Nat))) k) i, late := lookN [] ([] : List (Nat × List Nat)), nref := lookN [] ([] : List (Nat × List Nat)), nbox := lookN [] ([] : List (Nat × List (Nat × Nat))), take := [], rnil := true, m := 1, fz := false, loops := lookL f21_tab, call := f21_call }
noncomputable def f21_p12_mk (i15 : Nat) (n16 : Nat) (n17 : Int) (es19 : List (List PC)) (i20 : Nat) (n21 : Nat) (n22 : Int) (n23 : Int) (es24 : List (List PC)) (x : Int) : St := ⟨mkS 44 [(1, .w (.one (.ptr 1 0 0))), (3, .w (.one (.ref 2 i15 n16))), (4, I n17), (5, I x)], [.vec 3 es19 true, .box [.ref 0 i20 n21, .p (pI n22), .p (pI n23)], .vec 1 es24 true]⟩
set_option maxRecDepth 100000 in
theorem f21_p12e0 (i_18 : Nat) (n_19 : Nat) (n_20 : Int) (n_21 : Int) (es_22 : List (List PC)) (i_23 : Nat) (n_24 : Nat) (n_25 : Int) (n_26 : Int) (es_27 : List (List PC)) (N : St → Prop) (K : TExit → St → Prop) : (f21_p12b0 i_18 n_19 n_20 n_21 es_22 i_23 n_24 n_25 n_26 es_27 (fun z3 => N (f21_p12_mk i_18 n_19 n_20 es_22 i_23 n_24 n_25 n_26 es_27 z3)) (fun n0_28 => K (.exit 2) ⟨mkS 44 [(1, .w (.one (.ptr 1 0 0))), (3, .w (.one (.ref 2 i_18 n_19))), (4, I n_20), (5, I n0_28)], [.vec 3 es_22 true, .box [.ref 0 i_23 n_24, .p (pI n_25), .p (pI n_26)], .vec 1 es_27 true]⟩)) = execT f21_C (nthC (bodies (bodyOf Try.f21)) 1) (f21_p12_mk i_18 n_19 n_20 es_22 i_23 n_24 n_25 n_26 es_27 n_21) (loopK N (normK f21_C 12) fun e s => K e (normOut f21_C 12 e s)) := by kernel_rfl
noncomputable def f21_p6_mk (es9 : List (List PC)) (i10 : Nat) (n11 : Nat) (n12 : Int) (n13 : Int) (x : Nat × Nat × Int × (List (List PC))) : St := ⟨mkS 44 [(1, .w (.one (.ptr 1 0 0))), (3, .w (.one (.ref 2 x.1 x.2.1))), (4, I x.2.2.1)], [.vec 3 es9 true, .box [.ref 0 i10 n11, .p (pI n12), .p (pI n13)], .vec 1 x.2.2.2 true]⟩
set_option maxRecDepth 100000 in
theorem f21_p6e0 (i_38 : Nat) (n_39 : Nat) (n_40 : Int) (es_41 : List (List PC)) (i_42 : Nat) (n_43 : Nat) (n_44 : Int) (n_45 : Int) (es_46 : List (List PC)) (N : St → Prop) (K : TExit → St → Prop) : (f21_p6b0 i_38 n_39 n_40 es_41 i_42 n_43 n_44 n_45 es_46 (fun z0 z1 z2 z8 => N (f21_p6_mk es_41 i_42 n_43 n_44 n_45 (z0, z1, z2, z8))) (fun i0_47 n0_48 es0_49 => K (.exit 0) ⟨mkS 44 [(3, .w (.one (.ref 1 i0_47 n0_48)))], [.vec 3 es_41 true, .vec 1 es0_49 true]⟩)) = execT f21_C (nthC (bodies (bodyOf Try.f21)) 0) (f21_p6_mk es_41 i_42 n_43 n_44 n_45 (i_38, n_39, n_40, es_46)) (loopK N (normK f21_C 6) fun e s => K e (normOut f21_C 6 e s)) := by kernel_rfl
set_option maxHeartbeats 4000000 in
theorem f21_p12_ok : LoopOk f21_C (nthC (bodies (bodyOf Try.f21)) 1) := by
  refine LoopOk.of f21_p12L (by kernel_rfl) fun σ K h => ?_
  have hk : loopKey (nthC (bodies (bodyOf Try.f21)) 1) = 12 := by kernel_rfl
  rw [hk] at h ⊢
  generalize hs : normK f21_C 12 σ = s at h
  obtain ⟨tm, hp⟩ := s
  unfold f21_p12L at h
  dsimp only at h
  obtain ⟨xx, yy, rfl, rfl, h⟩ := getS_elim h
  refine iter_of (f21_p12_mk xx.2.2.2.1.1 xx.2.2.2.1.2 xx.2.2.2.2.1 yy.1 yy.2.1.1.1 yy.2.1.1.2 yy.2.1.2.1 yy.2.1.2.2.1 yy.2.2.1) (fun x N h => ?_) rounds _ σ (hs.trans (by kernel_rfl)) (LoopP.run h)
  rw [← f21_p12e0 xx.2.2.2.1.1 xx.2.2.2.1.2 xx.2.2.2.2.1 x yy.1 yy.2.1.1.1 yy.2.1.1.2 yy.2.1.2.1 yy.2.1.2.2.1 yy.2.2.1 N K]
  exact h
set_option maxHeartbeats 4000000 in
theorem f21_p6_ok : LoopOk f21_C (nthC (bodies (bodyOf Try.f21)) 0) := by
  refine LoopOk.of f21_p6L (by kernel_rfl) fun σ K h => ?_
  have hk : loopKey (nthC (bodies (bodyOf Try.f21)) 0) = 6 := by kernel_rfl
  rw [hk] at h ⊢
  generalize hs : normK f21_C 6 σ = s at h
  obtain ⟨tm, hp⟩ := s
  unfold f21_p6L at h
  dsimp only at h
  obtain ⟨xx, yy, rfl, rfl, h⟩ := getS_elim h
  refine iter_of (f21_p6_mk yy.1 yy.2.1.1.1 yy.2.1.1.2 yy.2.1.2.1 yy.2.1.2.2.1) (fun x N h => ?_) rounds _ σ (hs.trans (by kernel_rfl)) (LoopP.run h)
  obtain ⟨y0, y1, y2, y3⟩ := x
  rw [← f21_p6e0 y0 y1 y2 yy.1 yy.2.1.1.1 yy.2.1.1.2 yy.2.1.2.1 yy.2.1.2.2.1 y3 N K]
  exact h
noncomputable def f21_G0 : List TV → List Entry → (TV → List Entry → Prop) → Prop := fun tm hp K => getS [.v (.agg [.ref 0, .int .i64, .int .i64])] [.vec 3 true] tm hp fun (xx : (((Nat × Nat) × (Int × (Int × Unit))) × Unit)) (yy : ((List (List PC)) × Unit)) => f21 xx.1.1.1 xx.1.1.2 xx.1.2.1 xx.1.2.2.1 yy.1 (fun i0_4 n0_5 es0_6 es0_7 => K (.w (.one (.ref 1 i0_4 n0_5))) [.vec 3 es0_6 true, .vec 1 es0_7 true])
set_option maxRecDepth 100000 in
theorem f21_eq (i_50 : Nat) (n_51 : Nat) (n_52 : Int) (n_53 : Int) (es_54 : List (List PC)) (K : TV → List Entry → Prop) : (f21_d i_50 n_51 n_52 n_53 es_54 (fun i0_4 n0_5 es0_6 es0_7 => K (.w (.one (.ref 1 i0_4 n0_5))) [.vec 3 es0_6 true, .vec 1 es0_7 true])) = funcT f21_C Try.f21 [.w (.agg [.ref 0 i_50 n_51, .p (pI n_52), .p (pI n_53)])] [.vec 3 es_54 true] K := by kernel_rfl
set_option maxHeartbeats 4000000 in
theorem f21_ok0 : FnOk Try.prog glob 21 f21_G0 := by
  refine FnOk.of_text (C := f21_C) tab_ok.ok (Known.add f38_G_ok (Known.none)) follows_ok (fn := Try.f21) (by kernel_rfl) (by kernel_rfl) (by kernel_rfl) (fun c hc => ?_) fun tm hp K h => ?_
  · have e : c = bodyOf Try.f21 := Option.some.inj (hc.symm.trans (by kernel_rfl))
    subst e
    exact ⟨LoopsOk.of [nthC (bodies (bodyOf Try.f21)) 0, nthC (bodies (bodyOf Try.f21)) 1] (by kernel_rfl) ⟨f21_p6_ok, f21_p12_ok, trivial⟩, TailsOk.of (tab := f21_tab) rfl [] (by kernel_rfl) trivial⟩
  · unfold f21_G0 at h
    obtain ⟨xx, yy, rfl, rfl, h⟩ := getS_elim h
    have e := (f21_eq xx.1.1.1 xx.1.1.2 xx.1.2.1 xx.1.2.2.1 yy.1 K).trans (show _ = funcT f21_C Try.f21 (mkR _ xx) (mkE _ yy) K by kernel_rfl)
    rw [← e]
    exact h.run
noncomputable abbrev f21_G := f21_G0
theorem f21_G_ok : FnOk Try.prog glob 21 f21_G := f21_ok0
end Go.Eng.N
set_option linter.unusedVariables false
set_option maxRecDepth 100000
open Go Go.Eng Go.Proofs
namespace Go.Eng.N
/-! ### f21_1: plenum/plenumref55.Order -/
noncomputable def f21_1_p12b0 (i13 : Nat) (n14 : Nat) (n15 : Int) (n16 : Int) (es17 : List (List PC)) (full18 : Bool) (n19 : Int) (n20 : Int) (es21 : List (List PC)) (N0 : Int → Prop) (k0 : Int → Prop) : Prop := bB (decide (n16 > 0)) ((0 ≤ (w64 (n16 - 1)) ∧ (w64 (n16 - 1)) < ((n14 : Nat) : Int)) ∧ oI .i64 (ext (List.getD es21 (i13 + (Int.toNat (w64 (n16 - 1)))) []) 0 1) fun n22 => f38 es17 full18 n15 n22 (fun b23 => bB b23 (N0 (w64 (n16 - 1))) (k0 n16))) (k0 n16)
noncomputable def f21_1_p12 (i13 : Nat) (n14 : Nat) (n15 : Int) (es17 : List (List PC)) (full18 : Bool) (n19 : Int) (n20 : Int) (es21 : List (List PC)) (k0 : Int → Prop) : Int → Prop := LoopP fun x N => f21_1_p12b0 i13 n14 n15 x es17 full18 n19 n20 es21 (fun n16 => N n16) k0
noncomputable def f21_1_p6b0 (i5 : Nat) (n6 : Nat) (n7 : Int) (es8 : List (List PC)) (full9 : Bool) (n10 : Int) (n11 : Int) (es12 : List (List PC)) (N0 : Nat → Nat → Int → (List (List PC)) → Prop) (k0 : Nat → Nat → (List (List PC)) → Prop) : Prop := bB (decide (n7 < ((es8.length : Nat) : Int))) (f21_1_p12 i5 n6 n7 es8 full9 n10 n11 es12 (fun n24 => (0 ≤ (0 : Int) ∧ (0 : Int) ≤ n24 ∧ n24 ≤ ((n6 : Nat) : Int)) ∧ (0 ≤ n24 ∧ n24 ≤ ((n6 : Nat) : Int) ∧ ((n6 : Nat) : Int) ≤ ((n6 : Nat) : Int)) ∧ ((0 ≤ 0 ∧ (0 + (List.take ((Int.toNat n24) - 0) (List.drop (i5 + 0) es12)).length) * 8 ≤ 2 ^ 46 ∧ (0 + (List.take ((Int.toNat n24) - 0) (List.drop (i5 + 0) es12)).length) ≤ 2 ^ 46 ∧ (0 + (0 + (List.take ((Int.toNat n24) - 0) (List.drop (i5 + 0) es12)).length)) ≤ ([] ++ (List.take ((Int.toNat n24) - 0) (List.drop (i5 + 0) es12))).length ∧ ((0 + (List.take ((Int.toNat n24) - 0) (List.drop (i5 + 0) es12)).length) + 1) * 8 ≤ 2 ^ 46 ∧ ((0 + (List.take ((Int.toNat n24) - 0) (List.drop (i5 + 0) es12)).length) + 1) ≤ 2 ^ 46 ∧ (0 + ((0 + (List.take ((Int.toNat n24) - 0) (List.drop (i5 + 0) es12)).length) + 1)) ≤ ((List.take (0 + (List.take ((Int.toNat n24) - 0) (List.drop (i5 + 0) es12)).length) (List.drop 0 ([] ++ (List.take ((Int.toNat n24) - 0) (List.drop (i5 + 0) es12))))) ++ [[pI n7]]).length ∧ (((0 + (List.take ((Int.toNat n24) - 0) (List.drop (i5 + 0) es12)).length) + 1) + (List.take ((Int.toNat ((n6 : Nat) : Int)) - (Int.toNat n24)) (List.drop (i5 + (Int.toNat n24)) es12)).length) * 8 ≤ 2 ^ 46 ∧ (((0 + (List.take ((Int.toNat n24) - 0) (List.drop (i5 + 0) es12)).length) + 1) + (List.take ((Int.toNat ((n6 : Nat) : Int)) - (Int.toNat n24)) (List.drop (i5 + (Int.toNat n24)) es12)).length) ≤ 2 ^ 46 ∧ N0 0 (((0 + (List.take ((Int.toNat n24) - 0) (List.drop (i5 + 0) es12)).length) + 1) + (List.take ((Int.toNat ((n6 : Nat) : Int)) - (Int.toNat n24)) (List.drop (i5 + (Int.toNat n24)) es12)).length) (w64 (n7 + 1)) ((List.take ((0 + (List.take ((Int.toNat n24) - 0) (List.drop (i5 + 0) es12)).length) + 1) (List.drop 0 ((List.take (0 + (List.take ((Int.toNat n24) - 0) (List.drop (i5 + 0) es12)).length) (List.drop 0 ([] ++ (List.take ((Int.toNat n24) - 0) (List.drop (i5 + 0) es12))))) ++ [[pI n7]]))) ++ (List.take ((Int.toNat ((n6 : Nat) : Int)) - (Int.toNat n24)) (List.drop (i5 + (Int.toNat n24)) es12)))) ∧ (0 ≤ 0 ∧ (0 + (List.take ((Int.toNat n24) - 0) (List.drop (i5 + 0) es12)).length) * 8 ≤ 2 ^ 46 ∧ (0 + (List.take ((Int.toNat n24) - 0) (List.drop (i5 + 0) es12)).length) ≤ 2 ^ 46 ∧ (0 + (0 + (List.take ((Int.toNat n24) - 0) (List.drop (i5 + 0) es12)).length)) ≤ ([] ++ (List.take ((Int.toNat n24) - 0) (List.drop (i5 + 0) es12))).length ∧ ((0 + (List.take ((Int.toNat n24) - 0) (List.drop (i5 + 0) es12)).length) + 1) * 8 ≤ 2 ^ 46 ∧ ((0 + (List.take ((Int.toNat n24) - 0) (List.drop (i5 + 0) es12)).length) + 1) ≤ 2 ^ 46 ∧ (0 + ((0 + (List.take ((Int.toNat n24) - 0) (List.drop (i5 + 0) es12)).length) + 1)) ≤ ((List.take (0 + (List.take ((Int.toNat n24) - 0) (List.drop (i5 + 0) es12)).length) (List.drop 0 ([] ++ (List.take ((Int.toNat n24) - 0) (List.drop (i5 + 0) es12))))) ++ [[pI n7]]).length ∧ (((0 + (List.take ((Int.toNat n24) - 0) (List.drop (i5 + 0) es12)).length) + 1) + (List.take ((Int.toNat ((n6 : Nat) : Int)) - (Int.toNat n24)) (List.drop (i5 + (Int.toNat n24)) es12)).length) * 8 ≤ 2 ^ 46 ∧ (((0 + (List.take ((Int.toNat n24) - 0) (List.drop (i5 + 0) es12)).length) + 1) + (List.take ((Int.toNat ((n6 : Nat) : Int)) - (Int.toNat n24)) (List.drop (i5 + (Int.toNat n24)) es12)).length) ≤ 2 ^ 46 ∧ N0 0 (((0 + (List.take ((Int.toNat n24) - 0) (List.drop (i5 + 0) es12)).length) + 1) + (List.take ((Int.toNat ((n6 : Nat) : Int)) - (Int.toNat n24)) (List.drop (i5 + (Int.toNat n24)) es12)).length) (w64 (n7 + 1)) ((List.take ((0 + (List.take ((Int.toNat n24) - 0) (List.drop (i5 + 0) es12)).length) + 1) (List.drop 0 ((List.take (0 + (List.take ((Int.toNat n24) - 0) (List.drop (i5 + 0) es12)).length) (List.drop 0 ([] ++ (List.take ((Int.toNat n24) - 0) (List.drop (i5 + 0) es12))))) ++ [[pI n7]]))) ++ (List.take ((Int.toNat ((n6 : Nat) : Int)) - (Int.toNat n24)) (List.drop (i5 + (Int.toNat n24)) es12))))) ∧ (0 ≤ 0 ∧ (0 + (List.take ((Int.toNat n24) - 0) (List.drop (i5 + 0) es12)).length) * 8 ≤ 2 ^ 46 ∧ (0 + (List.take ((Int.toNat n24) - 0) (List.drop (i5 + 0) es12)).length) ≤ 2 ^ 46 ∧ (0 + (0 + (List.take ((Int.toNat n24) - 0) (List.drop (i5 + 0) es12)).length)) ≤ ([] ++ (List.take ((Int.toNat n24) - 0) (List.drop (i5 + 0) es12))).length ∧ ((0 + (List.take ((Int.toNat n24) - 0) (List.drop (i5 + 0) es12)).length) + 1) * 8 ≤ 2 ^ 46 ∧ ((0 + (List.take ((Int.toNat n24) - 0) (List.drop (i5 + 0) es12)).length) + 1) ≤ 2 ^ 46 ∧ (0 + ((0 + (List.take ((Int.toNat n24) - 0) (List.drop (i5 + 0) es12)).length) + 1)) ≤ ((List.take (0 + (List.take ((Int.toNat n24) - 0) (List.drop (i5 + 0) es12)).length) (List.drop 0 ([] ++ (List.take ((Int.toNat n24) - 0) (List.drop (i5 + 0) es12))))) ++ [[pI n7]]).length ∧ (((0 + (List.take ((Int.toNat n24) - 0) (List.drop (i5 + 0) es12)).length) + 1) + (List.take ((Int.toNat ((n6 : Nat) : Int)) - (Int.toNat n24)) (List.drop (i5 + (Int.toNat n24)) es12)).length) * 8 ≤ 2 ^ 46 ∧ (((0 + (List.take ((Int.toNat n24) - 0) (List.drop (i5 + 0) es12)).length) + 1) + (List.take ((Int.toNat ((n6 : Nat) : Int)) - (Int.toNat n24)) (List.drop (i5 + (Int.toNat n24)) es12)).length) ≤ 2 ^ 46 ∧ N0 0 (((0 + (List.take ((Int.toNat n24) - 0) (List.drop (i5 + 0) es12)).length) + 1) + (List.take ((Int.toNat ((n6 : Nat) : Int)) - (Int.toNat n24)) (List.drop (i5 + (Int.toNat n24)) es12)).length) (w64 (n7 + 1)) ((List.take ((0 + (List.take ((Int.toNat n24) - 0) (List.drop (i5 + 0) es12)).length) + 1) (List.drop 0 ((List.take (0 + (List.take ((Int.toNat n24) - 0) (List.drop (i5 + 0) es12)).length) (List.drop 0 ([] ++ (List.take ((Int.toNat n24) - 0) (List.drop (i5 + 0) es12))))) ++ [[pI n7]]))) ++ (List.take ((Int.toNat ((n6 : Nat) : Int)) - (Int.toNat n24)) (List.drop (i5 + (Int.toNat n24)) es12))))) ((n6 : Nat) : Int)) (k0 i5 n6 es12)
noncomputable def f21_1_p6 (es8 : List (List PC)) (full9 : Bool) (n10 : Int) (n11 : Int) (k0 : Nat → Nat → (List (List PC)) → Prop) : Nat × Nat × Int × (List (List PC)) → Prop := LoopP fun x N => f21_1_p6b0 x.1 x.2.1 x.2.2.1 es8 full9 n10 n11 x.2.2.2 (fun i5 n6 n7 es12 => N (i5, n6, n7, es12)) k0
noncomputable def f21_1_d (es1 : List (List PC)) (full2 : Bool) (n3 : Int) (n4 : Int) (k0 : Nat → Nat → (List (List PC)) → Prop) : Prop := f21_1_p6 es1 full2 n3 n4 (fun i25 n26 es27 => k0 i25 n26 es27) (0, 0, 0, [])
structure f21_1 (es1 : List (List PC)) (full2 : Bool) (n3 : Int) (n4 : Int) (k0 : Nat → Nat → (List (List PC)) → Prop) : Prop where
  run : f21_1_d es1 full2 n3 n4 k0
noncomputable def f21_1_p12L : Told := fun s K => match s with
  | ⟨tm, hp⟩ => getS [.skip 1, .v (.one (.ptr 0 0 0)), .skip 1, .v (.one (.ref 1)), .v (.one (.int .i64)), .v (.one (.int .i64)), .skip 38] [.box [.sl 3, .int .i64, .int .i64], .vec 1 true] tm hp fun (xx : (Unit × (Unit × (Unit × ((Nat × Nat) × (Int × (Int × (Unit × Unit)))))))) (yy : (((List (List PC) × Bool) × (Int × (Int × Unit))) × ((List (List PC)) × Unit))) => f21_1_p12 xx.2.2.2.1.1 xx.2.2.2.1.2 xx.2.2.2.2.1 yy.1.1.1 yy.1.1.2 yy.1.2.1 yy.1.2.2.1 yy.2.1 (fun n0_0 => K (.exit 2) ⟨mkS 44 [(1, .w (.one (.ptr 0 0 0))), (3, .w (.one (.ref 1 xx.2.2.2.1.1 xx.2.2.2.1.2))), (4, I xx.2.2.2.2.1), (5, I n0_0)], [.box [.p (.sl 3 yy.1.1.1 yy.1.1.2), .p (pI yy.1.2.1), .p (pI yy.1.2.2.1)], .vec 1 yy.2.1 true]⟩) xx.2.2.2.2.2.1
noncomputable def f21_1_p6L : Told := fun s K => match s with
  | ⟨tm, hp⟩ => getS [.skip 1, .v (.one (.ptr 0 0 0)), .skip 1, .v (.one (.ref 1)), .v (.one (.int .i64)), .skip 39] [.box [.sl 3, .int .i64, .int .i64], .vec 1 true] tm hp fun (xx : (Unit × (Unit × (Unit × ((Nat × Nat) × (Int × (Unit × Unit))))))) (yy : (((List (List PC) × Bool) × (Int × (Int × Unit))) × ((List (List PC)) × Unit))) => f21_1_p6 yy.1.1.1 yy.1.1.2 yy.1.2.1 yy.1.2.2.1 (fun i0_1 n0_2 es0_3 => K (.exit 0) ⟨mkS 44 [(3, .w (.one (.ref 0 i0_1 n0_2)))], [.vec 1 es0_3 true]⟩) (xx.2.2.2.1.1, xx.2.2.2.1.2, xx.2.2.2.2.1, yy.2.1)
noncomputable def f21_1_tab : List (Nat × Told) := [(12, f21_1_p12L), (6, f21_1_p6L)]
noncomputable def f21_1_call : FuncId → List TV → List Entry → (TV → List Entry → Prop) → Prop := addCall 38 f38_G (noCalls)
noncomputable def f21_1_C : Ctx := { ty := tyOf tab, glob := glob, byRef := byRef, keep := fun k i => lookN [] (lookN [] ([(12, [(0, [1, 3, 4, 5]), (2, [2]), (3, [3]), (4, [1, 3, 4]), (5, [1, 3, 4, 5])]), (6, [(0, [1, 3, 4]), (2, [2]), (3, [3])])] : List (Nat × List (Nat × List Nat))) k) i, late := lookN [] ([] : List (Nat × List Nat)), nref := lookN [] ([] : List (Nat × List Nat)), nbox := lookN [] ([] : List (Nat × List (Nat × Nat))), take := [], rnil := true, m := 0, fz := false, loops := lookL f21_1_tab, call := f21_1_call }
noncomputable def f21_1_p12_mk (i13 : Nat) (n14 : Nat) (n15 : Int) (es17 : List (List PC)) (full18 : Bool) (n19 : Int) (n20 : Int) (es21 : List (List PC)) (x : Int) : St := ⟨mkS 44 [(1, .w (.one (.ptr 0 0 0))), (3, .w (.one (.ref 1 i13 n14))), (4, I n15), (5, I x)], [.box [.p (.sl 3 es17 full18), .p (pI n19), .p (pI n20)], .vec 1 es21 true]⟩
set_option maxRecDepth 100000 in
theorem f21_1_p12e0 (i_16 : Nat) (n_17 : Nat) (n_18 : Int) (n_19 : Int) (es_20 : List (List PC)) (full_21 : Bool) (n_22 : Int) (n_23 : Int) (es_24 : List (List PC)) (N : St → Prop) (K : TExit → St → Prop) : (f21_1_p12b0 i_16 n_17 n_18 n_19 es_20 full_21 n_22 n_23 es_24 (fun z3 => N (f21_1_p12_mk i_16 n_17 n_18 es_20 full_21 n_22 n_23 es_24 z3)) (fun n0_25 => K (.exit 2) ⟨mkS 44 [(1, .w (.one (.ptr 0 0 0))), (3, .w (.one (.ref 1 i_16 n_17))), (4, I n_18), (5, I n0_25)], [.box [.p (.sl 3 es_20 full_21), .p (pI n_22), .p (pI n_23)], .vec 1 es_24 true]⟩)) = execT f21_1_C (nthC (bodies (bodyOf Try.f21)) 1) (f21_1_p12_mk i_16 n_17 n_18 es_20 full_21 n_22 n_23 es_24 n_19) (loopK N (normK f21_1_C 12) fun e s => K e (normOut f21_1_C 12 e s)) := by kernel_rfl
noncomputable def f21_1_p6_mk (es8 : List (List PC)) (full9 : Bool) (n10 : Int) (n11 : Int) (x : Nat × Nat × Int × (List (List PC))) : St := ⟨mkS 44 [(1, .w (.one (.ptr 0 0 0))), (3, .w (.one (.ref 1 x.1 x.2.1))), (4, I x.2.2.1)], [.box [.p (.sl 3 es8 full9), .p (pI n10), .p (pI n11)], .vec 1 x.2.2.2 true]⟩
set_option maxRecDepth 100000 in
theorem f21_1_p6e0 (i_34 : Nat) (n_35 : Nat) (n_36 : Int) (es_37 : List (List PC)) (full_38 : Bool) (n_39 : Int) (n_40 : Int) (es_41 : List (List PC)) (N : St → Prop) (K : TExit → St → Prop) : (f21_1_p6b0 i_34 n_35 n_36 es_37 full_38 n_39 n_40 es_41 (fun z0 z1 z2 z7 => N (f21_1_p6_mk es_37 full_38 n_39 n_40 (z0, z1, z2, z7))) (fun i0_42 n0_43 es0_44 => K (.exit 0) ⟨mkS 44 [(3, .w (.one (.ref 0 i0_42 n0_43)))], [.vec 1 es0_44 true]⟩)) = execT f21_1_C (nthC (bodies (bodyOf Try.f21)) 0) (f21_1_p6_mk es_37 full_38 n_39 n_40 (i_34, n_35, n_36, es_41)) (loopK N (normK f21_1_C 6) fun e s => K e (normOut f21_1_C 6 e s)) := by kernel_rfl
set_option maxHeartbeats 4000000 in
theorem f21_1_p12_ok : LoopOk f21_1_C (nthC (bodies (bodyOf Try.f21)) 1) := by
  refine LoopOk.of f21_1_p12L (by kernel_rfl) fun σ K h => ?_
  have hk : loopKey (nthC (bodies (bodyOf Try.f21)) 1) = 12 := by kernel_rfl
  rw [hk] at h ⊢
  generalize hs : normK f21_1_C 12 σ = s at h
  obtain ⟨tm, hp⟩ := s
  unfold f21_1_p12L at h
  dsimp only at h
  obtain ⟨xx, yy, rfl, rfl, h⟩ := getS_elim h
  refine iter_of (f21_1_p12_mk xx.2.2.2.1.1 xx.2.2.2.1.2 xx.2.2.2.2.1 yy.1.1.1 yy.1.1.2 yy.1.2.1 yy.1.2.2.1 yy.2.1) (fun x N h => ?_) rounds _ σ (hs.trans (by kernel_rfl)) (LoopP.run h)
  rw [← f21_1_p12e0 xx.2.2.2.1.1 xx.2.2.2.1.2 xx.2.2.2.2.1 x yy.1.1.1 yy.1.1.2 yy.1.2.1 yy.1.2.2.1 yy.2.1 N K]
  exact h
set_option maxHeartbeats 4000000 in
theorem f21_1_p6_ok : LoopOk f21_1_C (nthC (bodies (bodyOf Try.f21)) 0) := by
  refine LoopOk.of f21_1_p6L (by kernel_rfl) fun σ K h => ?_
  have hk : loopKey (nthC (bodies (bodyOf Try.f21)) 0) = 6 := by kernel_rfl
  rw [hk] at h ⊢
  generalize hs : normK f21_1_C 6 σ = s at h
  obtain ⟨tm, hp⟩ := s
  unfold f21_1_p6L at h
  dsimp only at h
  obtain ⟨xx, yy, rfl, rfl, h⟩ := getS_elim h
  refine iter_of (f21_1_p6_mk yy.1.1.1 yy.1.1.2 yy.1.2.1 yy.1.2.2.1) (fun x N h => ?_) rounds _ σ (hs.trans (by kernel_rfl)) (LoopP.run h)
  obtain ⟨y0, y1, y2, y3⟩ := x
  rw [← f21_1_p6e0 y0 y1 y2 yy.1.1.1 yy.1.1.2 yy.1.2.1 yy.1.2.2.1 y3 N K]
  exact h
noncomputable def f21_1_G0 : List TV → List Entry → (TV → List Entry → Prop) → Prop := fun tm hp K => getS [.v (.pagg [.sl 3, .int .i64, .int .i64])] [] tm hp fun (xx : (((List (List PC) × Bool) × (Int × (Int × Unit))) × Unit)) (yy : Unit) => f21_1 xx.1.1.1 xx.1.1.2 xx.1.2.1 xx.1.2.2.1 (fun i0_4 n0_5 es0_6 => K (.w (.one (.ref 0 i0_4 n0_5))) [.vec 1 es0_6 true])
set_option maxRecDepth 100000 in
theorem f21_1_eq (es_45 : List (List PC)) (full_46 : Bool) (n_47 : Int) (n_48 : Int) (K : TV → List Entry → Prop) : (f21_1_d es_45 full_46 n_47 n_48 (fun i0_4 n0_5 es0_6 => K (.w (.one (.ref 0 i0_4 n0_5))) [.vec 1 es0_6 true])) = funcT f21_1_C Try.f21 [.w (.pagg [.sl 3 es_45 full_46, pI n_47, pI n_48])] [] K := by kernel_rfl
set_option maxHeartbeats 4000000 in
theorem f21_1_ok0 : FnOk Try.prog glob 21 f21_1_G0 := by
  refine FnOk.of_text (C := f21_1_C) tab_ok.ok (Known.add f38_G_ok (Known.none)) follows_ok (fn := Try.f21) (by kernel_rfl) (by kernel_rfl) (by kernel_rfl) (fun c hc => ?_) fun tm hp K h => ?_
  · have e : c = bodyOf Try.f21 := Option.some.inj (hc.symm.trans (by kernel_rfl))
    subst e
    exact ⟨LoopsOk.of [nthC (bodies (bodyOf Try.f21)) 0, nthC (bodies (bodyOf Try.f21)) 1] (by kernel_rfl) ⟨f21_1_p6_ok, f21_1_p12_ok, trivial⟩, TailsOk.of (tab := f21_1_tab) rfl [] (by kernel_rfl) trivial⟩
  · unfold f21_1_G0 at h
    obtain ⟨xx, yy, rfl, rfl, h⟩ := getS_elim h
    have e := (f21_1_eq xx.1.1.1 xx.1.1.2 xx.1.2.1 xx.1.2.2.1 K).trans (show _ = funcT f21_1_C Try.f21 (mkR _ xx) (mkE _ yy) K by kernel_rfl)
    rw [← e]
    exact h.run
noncomputable def f21_1_G : List TV → List Entry → (TV → List Entry → Prop) → Prop := fun args H K => bif isSig (sigOf args H) [10, 7] then f21_1_G0 args H K else f21_G args H K
theorem f21_1_G_ok : FnOk Try.prog glob 21 f21_1_G := FnOk.or _ f21_1_ok0 f21_G_ok
end Go.Eng.N
set_option linter.unusedVariables false
set_option maxRecDepth 100000
open Go Go.Eng Go.Proofs
namespace Go.Eng.N
/-! ### f48: plenum/leadlag.step$1 -/
noncomputable def f48_d (n1 : Int) (b2 : Bool) (b3 : Bool) (k0 : Bool → Prop) : Prop := k0 (!b3)
structure f48 (n1 : Int) (b2 : Bool) (b3 : Bool) (k0 : Bool → Prop) : Prop where
  run : f48_d n1 b2 b3 k0
noncomputable def f48_tab : List (Nat × Told) := []
noncomputable def f48_call : FuncId → List TV → List Entry → (TV → List Entry → Prop) → Prop := noCalls
noncomputable def f48_C : Ctx := { ty := tyOf tab, glob := glob, byRef := byRef, keep := fun k i => lookN [] (lookN [] ([] : List (Nat × List (Nat × List Nat))) k) i, late := lookN [] ([] : List (Nat × List Nat)), nref := lookN [] ([] : List (Nat × List Nat)), nbox := lookN [] ([] : List (Nat × List (Nat × Nat))), take := [], rnil := false, m := 0, fz := true, loops := lookL f48_tab, call := f48_call }
noncomputable def f48_G0 : List TV → List Entry → (TV → List Entry → Prop) → Prop := fun tm hp K => getS [.v (.pagg [.int .i64, .bool, .bool])] [] tm hp fun (xx : ((Int × (Bool × (Bool × Unit))) × Unit)) (yy : Unit) => f48 xx.1.1 xx.1.2.1 xx.1.2.2.1 (fun b0_0 => K (B b0_0) [])
set_option maxRecDepth 100000 in
theorem f48_eq (n_1 : Int) (b_2 : Bool) (b_3 : Bool) (K : TV → List Entry → Prop) : (f48_d n_1 b_2 b_3 (fun b0_0 => K (B b0_0) [])) = funcT f48_C Try.f48 [.w (.pagg [pI n_1, pB b_2, pB b_3])] [] K := by kernel_rfl
set_option maxHeartbeats 4000000 in
theorem f48_ok0 : FnOk Try.prog glob 48 f48_G0 := by
  refine FnOk.of_text (C := f48_C) tab_ok.ok (Known.none) follows_ok (fn := Try.f48) (by kernel_rfl) (by kernel_rfl) (by kernel_rfl) (fun c hc => ?_) fun tm hp K h => ?_
  · have e : c = bodyOf Try.f48 := Option.some.inj (hc.symm.trans (by kernel_rfl))
    subst e
    exact ⟨LoopsOk.of [] (by kernel_rfl) trivial, TailsOk.of (tab := f48_tab) rfl [] (by kernel_rfl) trivial⟩
  · unfold f48_G0 at h
    obtain ⟨xx, yy, rfl, rfl, h⟩ := getS_elim h
    have e := (f48_eq xx.1.1 xx.1.2.1 xx.1.2.2.1 K).trans (show _ = funcT f48_C Try.f48 (mkR _ xx) (mkE _ yy) K by kernel_rfl)
    rw [← e]
    exact h.run
noncomputable abbrev f48_G := f48_G0
theorem f48_G_ok : FnOk Try.prog glob 48 f48_G := f48_ok0
end Go.Eng.N
set_option linter.unusedVariables false
set_option maxRecDepth 100000
open Go Go.Eng Go.Proofs
namespace Go.Eng.N
/-! ### f39: plenum/leadlag.count -/
noncomputable def f39_p6b0 (n5 : Int) (es6 : List (List PC)) (full7 : Bool) (n8 : Int) (n9 : Int) (N0 : Int → Int → Prop) (k0 : Int → Prop) : Prop := bB (decide (n9 < n8)) ((0 ≤ n9 ∧ n9 < ((es6.length : Nat) : Int)) ∧ cI .i64 (ext (List.getD es6 (Int.toNat n9) []) 0 3) fun n11 r10 => cB r10 fun b13 r12 => cB r12 fun b15 r14 => nilC r14 <| f48 n11 b13 b15 (fun b16 => bB b16 (N0 (w64 (n5 + 1)) (w64 (n9 + 1))) (N0 n5 (w64 (n9 + 1))))) (k0 n5)
noncomputable def f39_p6 (es6 : List (List PC)) (full7 : Bool) (n8 : Int) (k0 : Int → Prop) : Int × Int → Prop := LoopP fun x N => f39_p6b0 x.1 es6 full7 n8 x.2 (fun n5 n9 => N (n5, n9)) k0
noncomputable def f39_d (es1 : List (List PC)) (full2 : Bool) (n3 : Int) (n4 : Int) (k0 : Int → Prop) : Prop := f39_p6 es1 full2 ((es1.length : Nat) : Int) (fun n17 => k0 n17) (0, 0)
structure f39 (es1 : List (List PC)) (full2 : Bool) (n3 : Int) (n4 : Int) (k0 : Int → Prop) : Prop where
  run : f39_d es1 full2 n3 n4 k0
noncomputable def f39_p6L : Told := fun s K => match s with
  | ⟨tm, hp⟩ => getS [.skip 1, .v (.one (.fn 48)), .skip 3, .v (.one (.int .i64)), .skip 3, .v (.one (.sl 3)), .v (.one (.int .i64)), .v (.one (.int .i64)), .skip 10] [] tm hp fun (xx : (Unit × (Unit × (Unit × (Int × (Unit × ((List (List PC) × Bool) × (Int × (Int × (Unit × Unit)))))))))) (yy : Unit) => f39_p6 xx.2.2.2.2.2.1.1 xx.2.2.2.2.2.1.2 xx.2.2.2.2.2.2.1 (fun n0_0 => K (.exit 0) ⟨mkS 22 [(5, I n0_0)], []⟩) (xx.2.2.2.1, xx.2.2.2.2.2.2.2.1)
noncomputable def f39_tab : List (Nat × Told) := [(6, f39_p6L)]
noncomputable def f39_call : FuncId → List TV → List Entry → (TV → List Entry → Prop) → Prop := addCall 48 f48_G (noCalls)
noncomputable def f39_C : Ctx := { ty := tyOf tab, glob := glob, byRef := byRef, keep := fun k i => lookN [] (lookN [] ([(6, [(0, [1, 5, 9, 10, 11]), (2, [4]), (3, [5])])] : List (Nat × List (Nat × List Nat))) k) i, late := lookN [] ([] : List (Nat × List Nat)), nref := lookN [] ([] : List (Nat × List Nat)), nbox := lookN [] ([] : List (Nat × List (Nat × Nat))), take := [], rnil := false, m := 0, fz := true, loops := lookL f39_tab, call := f39_call }
noncomputable def f39_p6_mk (es6 : List (List PC)) (full7 : Bool) (n8 : Int) (x : Int × Int) : St := ⟨mkS 22 [(1, .w (.one (.p (.c (.func (.func 48) #[] #[]))))), (5, I x.1), (9, .w (.one (.p (.sl 3 es6 full7)))), (10, I n8), (11, I x.2)], []⟩
set_option maxRecDepth 100000 in
theorem f39_p6e0 (n_7 : Int) (es_8 : List (List PC)) (full_9 : Bool) (n_10 : Int) (n_11 : Int) (N : St → Prop) (K : TExit → St → Prop) : (f39_p6b0 n_7 es_8 full_9 n_10 n_11 (fun z0 z4 => N (f39_p6_mk es_8 full_9 n_10 (z0, z4))) (fun n0_12 => K (.exit 0) ⟨mkS 22 [(5, I n0_12)], []⟩)) = execT f39_C (nthC (bodies (bodyOf Try.f39)) 0) (f39_p6_mk es_8 full_9 n_10 (n_7, n_11)) (loopK N (normK f39_C 6) fun e s => K e (normOut f39_C 6 e s)) := by kernel_rfl
set_option maxHeartbeats 4000000 in
theorem f39_p6_ok : LoopOk f39_C (nthC (bodies (bodyOf Try.f39)) 0) := by
  refine LoopOk.of f39_p6L (by kernel_rfl) fun σ K h => ?_
  have hk : loopKey (nthC (bodies (bodyOf Try.f39)) 0) = 6 := by kernel_rfl
  rw [hk] at h ⊢
  generalize hs : normK f39_C 6 σ = s at h
  obtain ⟨tm, hp⟩ := s
  unfold f39_p6L at h
  dsimp only at h
  obtain ⟨xx, yy, rfl, rfl, h⟩ := getS_elim h
  refine iter_of (f39_p6_mk xx.2.2.2.2.2.1.1 xx.2.2.2.2.2.1.2 xx.2.2.2.2.2.2.1) (fun x N h => ?_) rounds _ σ (hs.trans (by kernel_rfl)) (LoopP.run h)
  obtain ⟨y0, y1⟩ := x
  rw [← f39_p6e0 y0 xx.2.2.2.2.2.1.1 xx.2.2.2.2.2.1.2 xx.2.2.2.2.2.2.1 y1 N K]
  exact h
noncomputable def f39_G0 : List TV → List Entry → (TV → List Entry → Prop) → Prop := fun tm hp K => getS [.v (.pagg [.sl 3, .int .i64, .int .i64]), .v (.one (.fn 48))] [] tm hp fun (xx : (((List (List PC) × Bool) × (Int × (Int × Unit))) × (Unit × Unit))) (yy : Unit) => f39 xx.1.1.1 xx.1.1.2 xx.1.2.1 xx.1.2.2.1 (fun n0_1 => K (I n0_1) [])
set_option maxRecDepth 100000 in
theorem f39_eq (es_13 : List (List PC)) (full_14 : Bool) (n_15 : Int) (n_16 : Int) (K : TV → List Entry → Prop) : (f39_d es_13 full_14 n_15 n_16 (fun n0_1 => K (I n0_1) [])) = funcT f39_C Try.f39 [.w (.pagg [.sl 3 es_13 full_14, pI n_15, pI n_16]), .w (.one (.p (.c (.func (.func 48) #[] #[]))))] [] K := by kernel_rfl
set_option maxHeartbeats 4000000 in
theorem f39_ok0 : FnOk Try.prog glob 39 f39_G0 := by
  refine FnOk.of_text (C := f39_C) tab_ok.ok (Known.add f48_G_ok (Known.none)) follows_ok (fn := Try.f39) (by kernel_rfl) (by kernel_rfl) (by kernel_rfl) (fun c hc => ?_) fun tm hp K h => ?_
  · have e : c = bodyOf Try.f39 := Option.some.inj (hc.symm.trans (by kernel_rfl))
    subst e
    exact ⟨LoopsOk.of [nthC (bodies (bodyOf Try.f39)) 0] (by kernel_rfl) ⟨f39_p6_ok, trivial⟩, TailsOk.of (tab := f39_tab) rfl [] (by kernel_rfl) trivial⟩
  · unfold f39_G0 at h
    obtain ⟨xx, yy, rfl, rfl, h⟩ := getS_elim h
    have e := (f39_eq xx.1.1.1 xx.1.1.2 xx.1.2.1 xx.1.2.2.1 K).trans (show _ = funcT f39_C Try.f39 (mkR _ xx) (mkE _ yy) K by kernel_rfl)
    rw [← e]
    exact h.run
noncomputable abbrev f39_G := f39_G0
theorem f39_G_ok : FnOk Try.prog glob 39 f39_G := f39_ok0
end Go.Eng.N
set_option linter.unusedVariables false
set_option maxRecDepth 100000
open Go Go.Eng Go.Proofs
namespace Go.Eng.N
/-! ### f40: plenum/leadlag.on -/
noncomputable def f40_d (n1 : Int) (b2 : Bool) (b3 : Bool) (k0 : Bool → Prop) : Prop := k0 b2
structure f40 (n1 : Int) (b2 : Bool) (b3 : Bool) (k0 : Bool → Prop) : Prop where
  run : f40_d n1 b2 b3 k0
noncomputable def f40_tab : List (Nat × Told) := []
noncomputable def f40_call : FuncId → List TV → List Entry → (TV → List Entry → Prop) → Prop := noCalls
noncomputable def f40_C : Ctx := { ty := tyOf tab, glob := glob, byRef := byRef, keep := fun k i => lookN [] (lookN [] ([] : List (Nat × List (Nat × List Nat))) k) i, late := lookN [] ([] : List (Nat × List Nat)), nref := lookN [] ([] : List (Nat × List Nat)), nbox := lookN [] ([] : List (Nat × List (Nat × Nat))), take := [], rnil := false, m := 0, fz := true, loops := lookL f40_tab, call := f40_call }
noncomputable def f40_G0 : List TV → List Entry → (TV → List Entry → Prop) → Prop := fun tm hp K => getS [.v (.pagg [.int .i64, .bool, .bool])] [] tm hp fun (xx : ((Int × (Bool × (Bool × Unit))) × Unit)) (yy : Unit) => f40 xx.1.1 xx.1.2.1 xx.1.2.2.1 (fun b0_0 => K (B b0_0) [])
set_option maxRecDepth 100000 in
theorem f40_eq (n_1 : Int) (b_2 : Bool) (b_3 : Bool) (K : TV → List Entry → Prop) : (f40_d n_1 b_2 b_3 (fun b0_0 => K (B b0_0) [])) = funcT f40_C Try.f40 [.w (.pagg [pI n_1, pB b_2, pB b_3])] [] K := by kernel_rfl
set_option maxHeartbeats 4000000 in
theorem f40_ok0 : FnOk Try.prog glob 40 f40_G0 := by
  refine FnOk.of_text (C := f40_C) tab_ok.ok (Known.none) follows_ok (fn := Try.f40) (by kernel_rfl) (by kernel_rfl) (by kernel_rfl) (fun c hc => ?_) fun tm hp K h => ?_
  · have e : c = bodyOf Try.f40 := Option.some.inj (hc.symm.trans (by kernel_rfl))
    subst e
    exact ⟨LoopsOk.of [] (by kernel_rfl) trivial, TailsOk.of (tab := f40_tab) rfl [] (by kernel_rfl) trivial⟩
  · unfold f40_G0 at h
    obtain ⟨xx, yy, rfl, rfl, h⟩ := getS_elim h
    have e := (f40_eq xx.1.1 xx.1.2.1 xx.1.2.2.1 K).trans (show _ = funcT f40_C Try.f40 (mkR _ xx) (mkE _ yy) K by kernel_rfl)
    rw [← e]
    exact h.run
noncomputable abbrev f40_G := f40_G0
theorem f40_G_ok : FnOk Try.prog glob 40 f40_G := f40_ok0
end Go.Eng.N
set_option linter.unusedVariables false
set_option maxRecDepth 100000
open Go Go.Eng Go.Proofs
namespace Go.Eng.N
/-! ### f39_1: plenum/leadlag.count -/
noncomputable def f39_1_p6b0 (n5 : Int) (es6 : List (List PC)) (full7 : Bool) (n8 : Int) (n9 : Int) (N0 : Int → Int → Prop) (k0 : Int → Prop) : Prop := bB (decide (n9 < n8)) ((0 ≤ n9 ∧ n9 < ((es6.length : Nat) : Int)) ∧ cI .i64 (ext (List.getD es6 (Int.toNat n9) []) 0 3) fun n11 r10 => cB r10 fun b13 r12 => cB r12 fun b15 r14 => nilC r14 <| f40 n11 b13 b15 (fun b16 => bB b16 (N0 (w64 (n5 + 1)) (w64 (n9 + 1))) (N0 n5 (w64 (n9 + 1))))) (k0 n5)
noncomputable def f39_1_p6 (es6 : List (List PC)) (full7 : Bool) (n8 : Int) (k0 : Int → Prop) : Int × Int → Prop := LoopP fun x N => f39_1_p6b0 x.1 es6 full7 n8 x.2 (fun n5 n9 => N (n5, n9)) k0
noncomputable def f39_1_d (es1 : List (List PC)) (full2 : Bool) (n3 : Int) (n4 : Int) (k0 : Int → Prop) : Prop := f39_1_p6 es1 full2 ((es1.length : Nat) : Int) (fun n17 => k0 n17) (0, 0)
structure f39_1 (es1 : List (List PC)) (full2 : Bool) (n3 : Int) (n4 : Int) (k0 : Int → Prop) : Prop where
  run : f39_1_d es1 full2 n3 n4 k0
noncomputable def f39_1_p6L : Told := fun s K => match s with
  | ⟨tm, hp⟩ => getS [.skip 1, .v (.one (.fn 40)), .skip 3, .v (.one (.int .i64)), .skip 3, .v (.one (.sl 3)), .v (.one (.int .i64)), .v (.one (.int .i64)), .skip 10] [] tm hp fun (xx : (Unit × (Unit × (Unit × (Int × (Unit × ((List (List PC) × Bool) × (Int × (Int × (Unit × Unit)))))))))) (yy : Unit) => f39_1_p6 xx.2.2.2.2.2.1.1 xx.2.2.2.2.2.1.2 xx.2.2.2.2.2.2.1 (fun n0_0 => K (.exit 0) ⟨mkS 22 [(5, I n0_0)], []⟩) (xx.2.2.2.1, xx.2.2.2.2.2.2.2.1)
noncomputable def f39_1_tab : List (Nat × Told) := [(6, f39_1_p6L)]
noncomputable def f39_1_call : FuncId → List TV → List Entry → (TV → List Entry → Prop) → Prop := addCall 40 f40_G (noCalls)
noncomputable def f39_1_C : Ctx := { ty := tyOf tab, glob := glob, byRef := byRef, keep := fun k i => lookN [] (lookN [] ([(6, [(0, [1, 5, 9, 10, 11]), (2, [4]), (3, [5])])] : List (Nat × List (Nat × List Nat))) k) i, late := lookN [] ([] : List (Nat × List Nat)), nref := lookN [] ([] : List (Nat × List Nat)), nbox := lookN [] ([] : List (Nat × List (Nat × Nat))), take := [], rnil := false, m := 0, fz := true, loops := lookL f39_1_tab, call := f39_1_call }
noncomputable def f39_1_p6_mk (es6 : List (List PC)) (full7 : Bool) (n8 : Int) (x : Int × Int) : St := ⟨mkS 22 [(1, .w (.one (.p (.c (.func (.func 40) #[] #[]))))), (5, I x.1), (9, .w (.one (.p (.sl 3 es6 full7)))), (10, I n8), (11, I x.2)], []⟩
set_option maxRecDepth 100000 in
theorem f39_1_p6e0 (n_7 : Int) (es_8 : List (List PC)) (full_9 : Bool) (n_10 : Int) (n_11 : Int) (N : St → Prop) (K : TExit → St → Prop) : (f39_1_p6b0 n_7 es_8 full_9 n_10 n_11 (fun z0 z4 => N (f39_1_p6_mk es_8 full_9 n_10 (z0, z4))) (fun n0_12 => K (.exit 0) ⟨mkS 22 [(5, I n0_12)], []⟩)) = execT f39_1_C (nthC (bodies (bodyOf Try.f39)) 0) (f39_1_p6_mk es_8 full_9 n_10 (n_7, n_11)) (loopK N (normK f39_1_C 6) fun e s => K e (normOut f39_1_C 6 e s)) := by kernel_rfl
set_option maxHeartbeats 4000000 in
theorem f39_1_p6_ok : LoopOk f39_1_C (nthC (bodies (bodyOf Try.f39)) 0) := by
  refine LoopOk.of f39_1_p6L (by kernel_rfl) fun σ K h => ?_
  have hk : loopKey (nthC (bodies (bodyOf Try.f39)) 0) = 6 := by kernel_rfl
  rw [hk] at h ⊢
  generalize hs : normK f39_1_C 6 σ = s at h
  obtain ⟨tm, hp⟩ := s
  unfold f39_1_p6L at h
  dsimp only at h
  obtain ⟨xx, yy, rfl, rfl, h⟩ := getS_elim h
  refine iter_of (f39_1_p6_mk xx.2.2.2.2.2.1.1 xx.2.2.2.2.2.1.2 xx.2.2.2.2.2.2.1) (fun x N h => ?_) rounds _ σ (hs.trans (by kernel_rfl)) (LoopP.run h)
  obtain ⟨y0, y1⟩ := x
  rw [← f39_1_p6e0 y0 xx.2.2.2.2.2.1.1 xx.2.2.2.2.2.1.2 xx.2.2.2.2.2.2.1 y1 N K]
  exact h
noncomputable def f39_1_G0 : List TV → List Entry → (TV → List Entry → Prop) → Prop := fun tm hp K => getS [.v (.pagg [.sl 3, .int .i64, .int .i64]), .v (.one (.fn 40))] [] tm hp fun (xx : (((List (List PC) × Bool) × (Int × (Int × Unit))) × (Unit × Unit))) (yy : Unit) => f39_1 xx.1.1.1 xx.1.1.2 xx.1.2.1 xx.1.2.2.1 (fun n0_1 => K (I n0_1) [])
set_option maxRecDepth 100000 in
theorem f39_1_eq (es_13 : List (List PC)) (full_14 : Bool) (n_15 : Int) (n_16 : Int) (K : TV → List Entry → Prop) : (f39_1_d es_13 full_14 n_15 n_16 (fun n0_1 => K (I n0_1) [])) = funcT f39_1_C Try.f39 [.w (.pagg [.sl 3 es_13 full_14, pI n_15, pI n_16]), .w (.one (.p (.c (.func (.func 40) #[] #[]))))] [] K := by kernel_rfl
set_option maxHeartbeats 4000000 in
theorem f39_1_ok0 : FnOk Try.prog glob 39 f39_1_G0 := by
  refine FnOk.of_text (C := f39_1_C) tab_ok.ok (Known.add f40_G_ok (Known.none)) follows_ok (fn := Try.f39) (by kernel_rfl) (by kernel_rfl) (by kernel_rfl) (fun c hc => ?_) fun tm hp K h => ?_
  · have e : c = bodyOf Try.f39 := Option.some.inj (hc.symm.trans (by kernel_rfl))
    subst e
    exact ⟨LoopsOk.of [nthC (bodies (bodyOf Try.f39)) 0] (by kernel_rfl) ⟨f39_1_p6_ok, trivial⟩, TailsOk.of (tab := f39_1_tab) rfl [] (by kernel_rfl) trivial⟩
  · unfold f39_1_G0 at h
    obtain ⟨xx, yy, rfl, rfl, h⟩ := getS_elim h
    have e := (f39_1_eq xx.1.1.1 xx.1.1.2 xx.1.2.1 xx.1.2.2.1 K).trans (show _ = funcT f39_1_C Try.f39 (mkR _ xx) (mkE _ yy) K by kernel_rfl)
    rw [← e]
    exact h.run
noncomputable def f39_1_G : List TV → List Entry → (TV → List Entry → Prop) → Prop := fun args H K => bif isSig (sigOf args H) [10, 1040, 7] then f39_1_G0 args H K else f39_G args H K
theorem f39_1_G_ok : FnOk Try.prog glob 39 f39_1_G := FnOk.or _ f39_1_ok0 f39_G_ok
end Go.Eng.N
set_option linter.unusedVariables false
set_option maxRecDepth 100000
open Go Go.Eng Go.Proofs
namespace Go.Eng.N
/-! ### f22: plenum/leadlag.Running -/
noncomputable def f22_p6b0 (i5 : Nat) (n6 : Nat) (es7 : List (List PC)) (full8 : Bool) (n9 : Int) (n10 : Int) (es11 : List (List PC)) (N0 : Nat → Nat → Int → (List (List PC)) → Prop) (k0 : Nat → Nat → (List (List PC)) → Prop) : Prop := bB (decide (n10 < n9)) ((0 ≤ n10 ∧ n10 < ((es7.length : Nat) : Int)) ∧ cI .i64 (ext (List.getD es7 (Int.toNat n10) []) 0 3) fun n13 r12 => cB r12 fun b15 r14 => cB r14 fun b17 r16 => nilC r16 <| bB b15 ((i5 + n6) ≤ es11.length ∧ (n6 + 1) * 8 ≤ 2 ^ 46 ∧ (n6 + 1) ≤ 2 ^ 46 ∧ N0 0 (n6 + 1) (w64 (n10 + 1)) ((List.take n6 (List.drop i5 es11)) ++ [[pI n10]])) (N0 i5 n6 (w64 (n10 + 1)) es11)) (k0 i5 n6 es11)
noncomputable def f22_p6 (es7 : List (List PC)) (full8 : Bool) (n9 : Int) (k0 : Nat → Nat → (List (List PC)) → Prop) : Nat × Nat × Int × (List (List PC)) → Prop := LoopP fun x N => f22_p6b0 x.1 x.2.1 es7 full8 n9 x.2.2.1 x.2.2.2 (fun i5 n6 n10 es11 => N (i5, n6, n10, es11)) k0
noncomputable def f22_d (es1 : List (List PC)) (full2 : Bool) (n3 : Int) (n4 : Int) (k0 : (List (List PC)) → Bool → Prop) : Prop := f22_p6 es1 full2 ((es1.length : Nat) : Int) (fun i18 n19 es20 => k0 (List.take n19 (List.drop i18 es20)) false) (0, 0, 0, [])
structure f22 (es1 : List (List PC)) (full2 : Bool) (n3 : Int) (n4 : Int) (k0 : (List (List PC)) → Bool → Prop) : Prop where
  run : f22_d es1 full2 n3 n4 k0
noncomputable def f22_p6L : Told := fun s K => match s with
  | ⟨tm, hp⟩ => getS [.skip 3, .v (.one (.ref 0)), .skip 3, .v (.one (.sl 3)), .v (.one (.int .i64)), .v (.one (.int .i64)), .skip 12] [.vec 1 true] tm hp fun (xx : (Unit × ((Nat × Nat) × (Unit × ((List (List PC) × Bool) × (Int × (Int × (Unit × Unit)))))))) (yy : ((List (List PC)) × Unit)) => f22_p6 xx.2.2.2.1.1 xx.2.2.2.1.2 xx.2.2.2.2.1 (fun i0_0 n0_1 es0_2 => K (.exit 0) ⟨mkS 22 [(3, .w (.one (.ref 0 i0_0 n0_1)))], [.vec 1 es0_2 true]⟩) (xx.2.1.1, xx.2.1.2, xx.2.2.2.2.2.1, yy.1)
noncomputable def f22_tab : List (Nat × Told) := [(6, f22_p6L)]
noncomputable def f22_call : FuncId → List TV → List Entry → (TV → List Entry → Prop) → Prop := noCalls
noncomputable def f22_C : Ctx := { ty := tyOf tab, glob := glob, byRef := byRef, keep := fun k i => lookN [] (lookN [] ([(6, [(0, [3, 7, 8, 9]), (2, [2]), (3, [3])])] : List (Nat × List (Nat × List Nat))) k) i, late := lookN [] ([] : List (Nat × List Nat)), nref := lookN [] ([(6, [3])] : List (Nat × List Nat)), nbox := lookN [] ([] : List (Nat × List (Nat × Nat))), take := [], rnil := false, m := 0, fz := true, loops := lookL f22_tab, call := f22_call }
noncomputable def f22_p6_mk (es7 : List (List PC)) (full8 : Bool) (n9 : Int) (x : Nat × Nat × Int × (List (List PC))) : St := ⟨mkS 22 [(3, .w (.one (.ref 0 x.1 x.2.1))), (7, .w (.one (.p (.sl 3 es7 full8)))), (8, I n9), (9, I x.2.2.1)], [.vec 1 x.2.2.2 true]⟩
set_option maxRecDepth 100000 in
theorem f22_p6e0 (i_12 : Nat) (n_13 : Nat) (es_14 : List (List PC)) (full_15 : Bool) (n_16 : Int) (n_17 : Int) (es_18 : List (List PC)) (N : St → Prop) (K : TExit → St → Prop) : (f22_p6b0 i_12 n_13 es_14 full_15 n_16 n_17 es_18 (fun z0 z1 z5 z6 => N (f22_p6_mk es_14 full_15 n_16 (z0, z1, z5, z6))) (fun i0_19 n0_20 es0_21 => K (.exit 0) ⟨mkS 22 [(3, .w (.one (.ref 0 i0_19 n0_20)))], [.vec 1 es0_21 true]⟩)) = execT f22_C (nthC (bodies (bodyOf Try.f22)) 0) (f22_p6_mk es_14 full_15 n_16 (i_12, n_13, n_17, es_18)) (loopK N (normK f22_C 6) fun e s => K e (normOut f22_C 6 e s)) := by kernel_rfl
set_option maxHeartbeats 4000000 in
theorem f22_p6_ok : LoopOk f22_C (nthC (bodies (bodyOf Try.f22)) 0) := by
  refine LoopOk.of f22_p6L (by kernel_rfl) fun σ K h => ?_
  have hk : loopKey (nthC (bodies (bodyOf Try.f22)) 0) = 6 := by kernel_rfl
  rw [hk] at h ⊢
  generalize hs : normK f22_C 6 σ = s at h
  obtain ⟨tm, hp⟩ := s
  unfold f22_p6L at h
  dsimp only at h
  obtain ⟨xx, yy, rfl, rfl, h⟩ := getS_elim h
  refine iter_of (f22_p6_mk xx.2.2.2.1.1 xx.2.2.2.1.2 xx.2.2.2.2.1) (fun x N h => ?_) rounds _ σ (hs.trans (by kernel_rfl)) (LoopP.run h)
  obtain ⟨y0, y1, y2, y3⟩ := x
  rw [← f22_p6e0 y0 y1 xx.2.2.2.1.1 xx.2.2.2.1.2 xx.2.2.2.2.1 y2 y3 N K]
  exact h
noncomputable def f22_G0 : List TV → List Entry → (TV → List Entry → Prop) → Prop := fun tm hp K => getS [.v (.pagg [.sl 3, .int .i64, .int .i64])] [] tm hp fun (xx : (((List (List PC) × Bool) × (Int × (Int × Unit))) × Unit)) (yy : Unit) => f22 xx.1.1.1 xx.1.1.2 xx.1.2.1 xx.1.2.2.1 (fun es0_3 full0_4 => K (.w (.one (.p (.sl 1 es0_3 full0_4)))) [])
set_option maxRecDepth 100000 in
theorem f22_eq (es_22 : List (List PC)) (full_23 : Bool) (n_24 : Int) (n_25 : Int) (K : TV → List Entry → Prop) : (f22_d es_22 full_23 n_24 n_25 (fun es0_3 full0_4 => K (.w (.one (.p (.sl 1 es0_3 full0_4)))) [])) = funcT f22_C Try.f22 [.w (.pagg [.sl 3 es_22 full_23, pI n_24, pI n_25])] [] K := by kernel_rfl
set_option maxHeartbeats 4000000 in
theorem f22_ok0 : FnOk Try.prog glob 22 f22_G0 := by
  refine FnOk.of_text (C := f22_C) tab_ok.ok (Known.none) follows_ok (fn := Try.f22) (by kernel_rfl) (by kernel_rfl) (by kernel_rfl) (fun c hc => ?_) fun tm hp K h => ?_
  · have e : c = bodyOf Try.f22 := Option.some.inj (hc.symm.trans (by kernel_rfl))
    subst e
    exact ⟨LoopsOk.of [nthC (bodies (bodyOf Try.f22)) 0] (by kernel_rfl) ⟨f22_p6_ok, trivial⟩, TailsOk.of (tab := f22_tab) rfl [] (by kernel_rfl) trivial⟩
  · unfold f22_G0 at h
    obtain ⟨xx, yy, rfl, rfl, h⟩ := getS_elim h
    have e := (f22_eq xx.1.1.1 xx.1.1.2 xx.1.2.1 xx.1.2.2.1 K).trans (show _ = funcT f22_C Try.f22 (mkR _ xx) (mkE _ yy) K by kernel_rfl)
    rw [← e]
    exact h.run
noncomputable abbrev f22_G := f22_G0
theorem f22_G_ok : FnOk Try.prog glob 22 f22_G := f22_ok0
end Go.Eng.N
