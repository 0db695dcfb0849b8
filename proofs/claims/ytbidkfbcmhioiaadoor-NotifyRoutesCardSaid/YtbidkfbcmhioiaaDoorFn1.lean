/- What the functions that the law reaches compute, by the engine; written by program. -/
import Derived.Test.YtbidkfbcmhioiaaDoorEng2
import Derived.Test.YtbidkfbcmhioiaaDoorProg
import Derived.KernelRfl
set_option linter.unusedVariables false
open Go Go.Eng Go.Proofs
namespace Go.Eng.N
noncomputable def tab : List (TypeId × TI) := [(2, ⟨.int .i64, 1, 8, [pI 0], [.int .i64]⟩),
  (3, ⟨.int .i64, 1, 8, [pI 0], [.int .i64]⟩),
  (4, ⟨.bool, 1, 1, [pB false], [.bool]⟩),
  (5, ⟨.int .u8, 1, 1, [.c (.int .u8 0)], [.int .u8]⟩),
  (9, ⟨.str, 1, 16, [pS (⟨#[]⟩ : ByteArray)], [.str]⟩),
  (22, ⟨.slice 68, 1, 24, [.sl 5 [] true], [.slice 5]⟩),
  (24, ⟨.struct [(0, 9), (1, 3), (2, 3), (3, 22)], 4, 56, [pS (⟨#[]⟩ : ByteArray), pI 0, pI 0, .sl 5 [] true], [.str, .int .i64, .int .i64, .slice 5]⟩),
  (27, ⟨.slice 86, 1, 24, [.sl 4 [] true], [.slice 4]⟩),
  (28, ⟨.slice 30, 1, 24, [.sl 4 [] true], [.slice 4]⟩),
  (30, ⟨.struct [(0, 27), (1, 4), (2, 28), (3, 3)], 4, 64, [.sl 4 [] true, pB false, .sl 4 [] true, pI 0], [.slice 4, .bool, .slice 4, .int .i64]⟩),
  (31, ⟨.int .i64, 1, 8, [pI 0], [.int .i64]⟩),
  (37, ⟨.struct [(0, 3), (1, 2)], 2, 16, [pI 0, pI 0], [.int .i64, .int .i64]⟩),
  (39, ⟨.struct [(0, 3), (1, 9), (2, 3), (3, 3), (4, 3), (5, 37)], 7, 64, [pI 0, pS (⟨#[]⟩ : ByteArray), pI 0, pI 0, pI 0, pI 0, pI 0], [.int .i64, .str, .int .i64, .int .i64, .int .i64, .int .i64, .int .i64]⟩),
  (40, ⟨.slice 9, 1, 24, [.sl 1 [] true], [.slice 1]⟩),
  (43, ⟨.slice 70, 1, 24, [.sl 10 [] true], [.slice 10]⟩),
  (46, ⟨.slice 102, 1, 24, [.sl 10 [] true], [.slice 10]⟩),
  (52, ⟨.slice 59, 1, 24, [.sl 3 [] true], [.slice 3]⟩),
  (55, ⟨.slice 60, 1, 24, [.sl 3 [] true], [.slice 3]⟩),
  (59, ⟨.struct [(0, 3), (1, 3), (2, 3)], 3, 24, [pI 0, pI 0, pI 0], [.int .i64, .int .i64, .int .i64]⟩),
  (60, ⟨.struct [(0, 3), (1, 3), (2, 3)], 3, 24, [pI 0, pI 0, pI 0], [.int .i64, .int .i64, .int .i64]⟩),
  (68, ⟨.struct [(0, 9), (1, 3), (2, 3), (3, 3), (4, 3)], 5, 48, [pS (⟨#[]⟩ : ByteArray), pI 0, pI 0, pI 0, pI 0], [.str, .int .i64, .int .i64, .int .i64, .int .i64]⟩),
  (70, ⟨.struct [(0, 9), (1, 39), (8, 3), (9, 4)], 10, 96, [pS (⟨#[]⟩ : ByteArray), pI 0, pS (⟨#[]⟩ : ByteArray), pI 0, pI 0, pI 0, pI 0, pI 0, pI 0, pB false], [.str, .int .i64, .str, .int .i64, .int .i64, .int .i64, .int .i64, .int .i64, .int .i64, .bool]⟩),
  (74, ⟨.struct [(0, 31), (1, 3), (2, 3)], 3, 24, [pI 0, pI 0, pI 0], [.int .i64, .int .i64, .int .i64]⟩),
  (78, ⟨.slice 24, 1, 24, [.sl 4 [] true], [.slice 4]⟩),
  (79, ⟨.slice 127, 1, 24, [.sl 9 [] true], [.slice 9]⟩),
  (80, ⟨.slice 39, 1, 24, [.sl 7 [] true], [.slice 7]⟩),
  (86, ⟨.struct [(0, 3), (1, 9), (2, 2), (3, 3)], 4, 40, [pI 0, pS (⟨#[]⟩ : ByteArray), pI 0, pI 0], [.int .i64, .str, .int .i64, .int .i64]⟩),
  (102, ⟨.struct [(0, 9), (1, 39), (8, 3), (9, 4)], 10, 96, [pS (⟨#[]⟩ : ByteArray), pI 0, pS (⟨#[]⟩ : ByteArray), pI 0, pI 0, pI 0, pI 0, pI 0, pI 0, pB false], [.str, .int .i64, .str, .int .i64, .int .i64, .int .i64, .int .i64, .int .i64, .int .i64, .bool]⟩),
  (104, ⟨.array 1440 4, 1440, 1440, (List.replicate 1440 (pB false)), [.bool]⟩),
  (106, ⟨.array 7 104, 10080, 10080, (List.replicate 10080 (pB false)), [.bool]⟩),
  (114, ⟨.struct [(0, 30), (4, 3), (5, 74)], 8, 96, [.sl 4 [] true, pB false, .sl 4 [] true, pI 0, pI 0, pI 0, pI 0, pI 0], [.slice 4, .bool, .slice 4, .int .i64, .int .i64, .int .i64, .int .i64, .int .i64]⟩),
  (127, ⟨.struct [(0, 9), (1, 9), (2, 2), (3, 2), (4, 2), (5, 125), (6, 3), (7, 3), (8, 9)], 9, 112, [pS (⟨#[]⟩ : ByteArray), pS (⟨#[]⟩ : ByteArray), pI 0, pI 0, pI 0, .sl 1 [] true, pI 0, pI 0, pS (⟨#[]⟩ : ByteArray)], [.str, .str, .int .i64, .int .i64, .int .i64, .slice 1, .int .i64, .int .i64, .str]⟩),
  (146, ⟨.int .u64, 1, 8, [.c (.int .u64 0)], [.int .u64]⟩)]
set_option maxRecDepth 100000 in
theorem tab_ok : TabOk Tryd.prog tab := ⟨mkTI_ok (by kernel_rfl), mkTI_ok (by kernel_rfl), mkTI_ok (by kernel_rfl), mkTI_ok (by kernel_rfl), mkTI_ok (by kernel_rfl), mkTI_ok (by kernel_rfl), mkTI_ok (by kernel_rfl), mkTI_ok (by kernel_rfl), mkTI_ok (by kernel_rfl), mkTI_ok (by kernel_rfl), mkTI_ok (by kernel_rfl), mkTI_ok (by kernel_rfl), mkTI_ok (by kernel_rfl), mkTI_ok (by kernel_rfl), mkTI_ok (by kernel_rfl), mkTI_ok (by kernel_rfl), mkTI_ok (by kernel_rfl), mkTI_ok (by kernel_rfl), mkTI_ok (by kernel_rfl), mkTI_ok (by kernel_rfl), mkTI_ok (by kernel_rfl), mkTI_ok (by kernel_rfl), mkTI_ok (by kernel_rfl), mkTI_ok (by kernel_rfl), mkTI_ok (by kernel_rfl), mkTI_ok (by kernel_rfl), mkTI_ok (by kernel_rfl), mkTI_ok (by kernel_rfl), TIOk.big (f := Tryd.t104) (a := aggOf Tryd.t104) (v := .bool false) (m := 1440) (e := 4) (by kernel_rfl) (by kernel_rfl) (by kernel_rfl) (by kernel_rfl) rfl rfl (by kernel_rfl) (by kernel_rfl) rfl (by kernel_rfl) (by kernel_rfl), TIOk.big (f := Tryd.t106) (a := aggOf Tryd.t106) (v := .bool false) (m := 7) (e := 104) (by kernel_rfl) (by kernel_rfl) (by kernel_rfl) (by kernel_rfl) rfl rfl (by kernel_rfl) (by kernel_rfl) rfl (by kernel_rfl) (by kernel_rfl), mkTI_ok (by kernel_rfl), mkTI_ok (by kernel_rfl), mkTI_ok (by kernel_rfl), trivial⟩
noncomputable def glob : Nat → Option (List PC) := fun g => lookN none [(0, some [.sl 1 [[pS (⟨#[97, 108, 97, 114, 109]⟩ : ByteArray)], [pS (⟨#[102, 97, 117, 108, 116]⟩ : ByteArray)], [pS (⟨#[110, 111, 114, 109, 97, 108]⟩ : ByteArray)]] false]), (1, some [.sl 1 [[pS (⟨#[109, 111, 110]⟩ : ByteArray)], [pS (⟨#[116, 117, 101]⟩ : ByteArray)], [pS (⟨#[119, 101, 100]⟩ : ByteArray)], [pS (⟨#[116, 104, 117]⟩ : ByteArray)], [pS (⟨#[102, 114, 105]⟩ : ByteArray)], [pS (⟨#[115, 97, 116]⟩ : ByteArray)], [pS (⟨#[115, 117, 110]⟩ : ByteArray)]] false])] g
noncomputable def byRef : FuncId → Bool := fun g => List.elem g [39, 42, 58, 61, 62, 80, 88, 100, 103, 104, 105, 106]
theorem follows_ok : Tryd.prog.follows .mixedOrders = true := by kernel_rfl
end Go.Eng.N
set_option linter.unusedVariables false
set_option maxRecDepth 100000
open Go Go.Eng Go.Proofs
namespace Go.Eng.N
/-! ### f87: plenum/lexer.digit -/
noncomputable def f87_d (n1 : Int) (k0 : Bool → Prop) : Prop := bB (decide (n1 ≥ 48)) (k0 (decide (n1 ≤ 57))) (k0 false)
structure f87 (n1 : Int) (k0 : Bool → Prop) : Prop where
  run : f87_d n1 k0
noncomputable def f87_tab : List (Nat × Told) := []
noncomputable def f87_call : FuncId → List TV → List Entry → (TV → List Entry → Prop) → Prop := noCalls
noncomputable def f87_C : Ctx := { ty := tyOf tab, glob := glob, byRef := byRef, keep := fun k i => lookN [] (lookN [] ([] : List (Nat × List (Nat × List Nat))) k) i, late := lookN [] ([] : List (Nat × List Nat)), nref := lookN [] ([] : List (Nat × List Nat)), nbox := lookN [] ([] : List (Nat × List (Nat × Nat))), take := [], rnil := false, m := 0, fz := true, loops := lookL f87_tab, call := f87_call }
noncomputable def f87_G0 : List TV → List Entry → (TV → List Entry → Prop) → Prop := fun tm hp K => getS [.v (.one (.int .u8))] [] tm hp fun (xx : (Int × Unit)) (yy : Unit) => f87 xx.1 (fun b0_0 => K (B b0_0) [])
set_option maxRecDepth 100000 in
theorem f87_eq (n_1 : Int) (K : TV → List Entry → Prop) : (f87_d n_1 (fun b0_0 => K (B b0_0) [])) = funcT f87_C Tryd.f87 [.w (.one (.p (.c (.int .u8 n_1))))] [] K := by kernel_rfl
set_option maxHeartbeats 4000000 in
theorem f87_ok0 : FnOk Tryd.prog glob 87 f87_G0 := by
  refine FnOk.of_text (C := f87_C) tab_ok.ok (Known.none) follows_ok (fn := Tryd.f87) (by kernel_rfl) (by kernel_rfl) (by kernel_rfl) (fun c hc => ?_) fun tm hp K h => ?_
  · have e : c = bodyOf Tryd.f87 := Option.some.inj (hc.symm.trans (by kernel_rfl))
    subst e
    exact ⟨LoopsOk.of [] (by kernel_rfl) trivial, TailsOk.of (tab := f87_tab) rfl [] (by kernel_rfl) trivial⟩
  · unfold f87_G0 at h
    obtain ⟨xx, yy, rfl, rfl, h⟩ := getS_elim h
    have e := (f87_eq xx.1 K).trans (show _ = funcT f87_C Tryd.f87 (mkR _ xx) (mkE _ yy) K by kernel_rfl)
    rw [← e]
    exact h.run
noncomputable abbrev f87_G := f87_G0
theorem f87_G_ok : FnOk Tryd.prog glob 87 f87_G := f87_ok0
end Go.Eng.N
set_option linter.unusedVariables false
set_option maxRecDepth 100000
open Go Go.Eng Go.Proofs
namespace Go.Eng.N
/-! ### f86: plenum/lexer.Name$1 -/
noncomputable def f86_d (n1 : Int) (s2 : ByteArray) (k0 : Bool → ByteArray → Prop) : Prop := (0 ≤ n1 ∧ n1 < ((s2.size : Nat) : Int)) ∧ bB (decide ((byteAt s2 n1) ≥ 97)) ((0 ≤ n1 ∧ n1 < ((s2.size : Nat) : Int)) ∧ bB (decide ((byteAt s2 n1) ≤ 122)) (k0 true s2) ((0 ≤ n1 ∧ n1 < ((s2.size : Nat) : Int)) ∧ f87 (byteAt s2 n1) (fun b3 => bB b3 (k0 true s2) ((0 ≤ n1 ∧ n1 < ((s2.size : Nat) : Int)) ∧ k0 ((byteAt s2 n1) == 95) s2)))) ((0 ≤ n1 ∧ n1 < ((s2.size : Nat) : Int)) ∧ f87 (byteAt s2 n1) (fun b4 => bB b4 (k0 true s2) ((0 ≤ n1 ∧ n1 < ((s2.size : Nat) : Int)) ∧ k0 ((byteAt s2 n1) == 95) s2)))
structure f86 (n1 : Int) (s2 : ByteArray) (k0 : Bool → ByteArray → Prop) : Prop where
  run : f86_d n1 s2 k0
noncomputable def f86_tab : List (Nat × Told) := []
noncomputable def f86_call : FuncId → List TV → List Entry → (TV → List Entry → Prop) → Prop := addCall 87 f87_G (noCalls)
noncomputable def f86_C : Ctx := { ty := tyOf tab, glob := glob, byRef := byRef, keep := fun k i => lookN [] (lookN [] ([] : List (Nat × List (Nat × List Nat))) k) i, late := lookN [] ([] : List (Nat × List Nat)), nref := lookN [] ([] : List (Nat × List Nat)), nbox := lookN [] ([] : List (Nat × List (Nat × Nat))), take := [], rnil := false, m := 1, fz := true, loops := lookL f86_tab, call := f86_call }
noncomputable def f86_G0 : List TV → List Entry → (TV → List Entry → Prop) → Prop := fun tm hp K => getS [.v (.one (.int .i64)), .v (.one (.ptr 0 0 0))] [.box [.str]] tm hp fun (xx : (Int × (Unit × Unit))) (yy : ((ByteArray × Unit) × Unit)) => f86 xx.1 yy.1.1 (fun b0_0 s0_1 => K (B b0_0) [.box [.p (pS s0_1)]])
set_option maxRecDepth 100000 in
theorem f86_eq (n_2 : Int) (s_3 : ByteArray) (K : TV → List Entry → Prop) : (f86_d n_2 s_3 (fun b0_0 s0_1 => K (B b0_0) [.box [.p (pS s0_1)]])) = funcT f86_C Tryd.f86 [I n_2, .w (.one (.ptr 0 0 0))] [.box [.p (pS s_3)]] K := by kernel_rfl
set_option maxHeartbeats 4000000 in
theorem f86_ok0 : FnOk Tryd.prog glob 86 f86_G0 := by
  refine FnOk.of_text (C := f86_C) tab_ok.ok (Known.add f87_G_ok (Known.none)) follows_ok (fn := Tryd.f86) (by kernel_rfl) (by kernel_rfl) (by kernel_rfl) (fun c hc => ?_) fun tm hp K h => ?_
  · have e : c = bodyOf Tryd.f86 := Option.some.inj (hc.symm.trans (by kernel_rfl))
    subst e
    exact ⟨LoopsOk.of [] (by kernel_rfl) trivial, TailsOk.of (tab := f86_tab) rfl [] (by kernel_rfl) trivial⟩
  · unfold f86_G0 at h
    obtain ⟨xx, yy, rfl, rfl, h⟩ := getS_elim h
    have e := (f86_eq xx.1 yy.1.1 K).trans (show _ = funcT f86_C Tryd.f86 (mkR _ xx) (mkE _ yy) K by kernel_rfl)
    rw [← e]
    exact h.run
noncomputable abbrev f86_G := f86_G0
theorem f86_G_ok : FnOk Tryd.prog glob 86 f86_G := f86_ok0
end Go.Eng.N
set_option linter.unusedVariables false
set_option maxRecDepth 100000
open Go Go.Eng Go.Proofs
namespace Go.Eng.N
/-! ### f85: plenum/lexer.run -/
noncomputable def f85_p2b0 (s4 : ByteArray) (n5 : Int) (s6 : ByteArray) (N0 : Int → ByteArray → Prop) (k0 : Int → ByteArray → Prop) : Prop := bB (decide (n5 < ((s4.size : Nat) : Int))) (f86 n5 s6 (fun b7 s8 => bB b7 (N0 (w64 (n5 + 1)) s8) (k0 n5 s8))) (k0 n5 s6)
noncomputable def f85_p2 (s4 : ByteArray) (k0 : Int → ByteArray → Prop) : Int × ByteArray → Prop := LoopP fun x N => f85_p2b0 s4 x.1 x.2 (fun n5 s6 => N (n5, s6)) k0
noncomputable def f85_d (s1 : ByteArray) (n2 : Int) (s3 : ByteArray) (k0 : Int → ByteArray → Prop) : Prop := f85_p2 s1 (fun n9 s10 => k0 n9 s10) (n2, s3)
structure f85 (s1 : ByteArray) (n2 : Int) (s3 : ByteArray) (k0 : Int → ByteArray → Prop) : Prop where
  run : f85_d s1 n2 s3 k0
noncomputable def f85_p2L : Told := fun s K => match s with
  | ⟨tm, hp⟩ => getS [.v (.one (.str)), .v (.one (.int .i64)), .v (.clo 86 [] [.ptr 0 0 0]), .skip 16] [.box [.str]] tm hp fun (xx : (ByteArray × (Int × ((Unit × (Unit × Unit)) × (Unit × Unit))))) (yy : ((ByteArray × Unit) × Unit)) => f85_p2 xx.1 (fun n0_0 s0_1 => K (.exit 0) ⟨mkS 19 [(1, I n0_0)], [.box [.p (pS s0_1)]]⟩) (xx.2.1, yy.1.1)
noncomputable def f85_tab : List (Nat × Told) := [(2, f85_p2L)]
noncomputable def f85_call : FuncId → List TV → List Entry → (TV → List Entry → Prop) → Prop := addCall 86 f86_G (noCalls)
noncomputable def f85_C : Ctx := { ty := tyOf tab, glob := glob, byRef := byRef, keep := fun k i => lookN [] (lookN [] ([(2, [(0, [0, 1, 2]), (2, [6]), (3, [1])])] : List (Nat × List (Nat × List Nat))) k) i, late := lookN [] ([] : List (Nat × List Nat)), nref := lookN [] ([] : List (Nat × List Nat)), nbox := lookN [] ([] : List (Nat × List (Nat × Nat))), take := [], rnil := false, m := 1, fz := true, loops := lookL f85_tab, call := f85_call }
noncomputable def f85_p2_mk (s4 : ByteArray) (x : Int × ByteArray) : St := ⟨mkS 19 [(0, S s4), (1, I x.1), (2, .w (.one (.clo 86 [] [.ptr 0 0 0])))], [.box [.p (pS x.2)]]⟩
set_option maxRecDepth 100000 in
theorem f85_p2e0 (s_7 : ByteArray) (n_8 : Int) (s_9 : ByteArray) (N : St → Prop) (K : TExit → St → Prop) : (f85_p2b0 s_7 n_8 s_9 (fun z1 z2 => N (f85_p2_mk s_7 (z1, z2))) (fun n0_10 s0_11 => K (.exit 0) ⟨mkS 19 [(1, I n0_10)], [.box [.p (pS s0_11)]]⟩)) = execT f85_C (nthC (bodies (bodyOf Tryd.f85)) 0) (f85_p2_mk s_7 (n_8, s_9)) (loopK N (normK f85_C 2) fun e s => K e (normOut f85_C 2 e s)) := by kernel_rfl
set_option maxHeartbeats 4000000 in
theorem f85_p2_ok : LoopOk f85_C (nthC (bodies (bodyOf Tryd.f85)) 0) := by
  refine LoopOk.of f85_p2L (by kernel_rfl) fun σ K h => ?_
  have hk : loopKey (nthC (bodies (bodyOf Tryd.f85)) 0) = 2 := by kernel_rfl
  rw [hk] at h ⊢
  generalize hs : normK f85_C 2 σ = s at h
  obtain ⟨tm, hp⟩ := s
  unfold f85_p2L at h
  dsimp only at h
  obtain ⟨xx, yy, rfl, rfl, h⟩ := getS_elim h
  refine iter_of (f85_p2_mk xx.1) (fun x N h => ?_) rounds _ σ (hs.trans (by kernel_rfl)) (LoopP.run h)
  obtain ⟨y0, y1⟩ := x
  rw [← f85_p2e0 xx.1 y0 y1 N K]
  exact h
noncomputable def f85_G0 : List TV → List Entry → (TV → List Entry → Prop) → Prop := fun tm hp K => getS [.v (.one (.str)), .v (.one (.int .i64)), .v (.clo 86 [] [.ptr 0 0 0])] [.box [.str]] tm hp fun (xx : (ByteArray × (Int × ((Unit × (Unit × Unit)) × Unit)))) (yy : ((ByteArray × Unit) × Unit)) => f85 xx.1 xx.2.1 yy.1.1 (fun n0_2 s0_3 => K (I n0_2) [.box [.p (pS s0_3)]])
set_option maxRecDepth 100000 in
theorem f85_eq (s_12 : ByteArray) (n_13 : Int) (s_14 : ByteArray) (K : TV → List Entry → Prop) : (f85_d s_12 n_13 s_14 (fun n0_2 s0_3 => K (I n0_2) [.box [.p (pS s0_3)]])) = funcT f85_C Tryd.f85 [S s_12, I n_13, .w (.one (.clo 86 [] [.ptr 0 0 0]))] [.box [.p (pS s_14)]] K := by kernel_rfl
set_option maxHeartbeats 4000000 in
theorem f85_ok0 : FnOk Tryd.prog glob 85 f85_G0 := by
  refine FnOk.of_text (C := f85_C) tab_ok.ok (Known.add f86_G_ok (Known.none)) follows_ok (fn := Tryd.f85) (by kernel_rfl) (by kernel_rfl) (by kernel_rfl) (fun c hc => ?_) fun tm hp K h => ?_
  · have e : c = bodyOf Tryd.f85 := Option.some.inj (hc.symm.trans (by kernel_rfl))
    subst e
    exact ⟨LoopsOk.of [nthC (bodies (bodyOf Tryd.f85)) 0] (by kernel_rfl) ⟨f85_p2_ok, trivial⟩, TailsOk.of (tab := f85_tab) rfl [] (by kernel_rfl) trivial⟩
  · unfold f85_G0 at h
    obtain ⟨xx, yy, rfl, rfl, h⟩ := getS_elim h
    have e := (f85_eq xx.1 xx.2.1 yy.1.1 K).trans (show _ = funcT f85_C Tryd.f85 (mkR _ xx) (mkE _ yy) K by kernel_rfl)
    rw [← e]
    exact h.run
noncomputable abbrev f85_G := f85_G0
theorem f85_G_ok : FnOk Tryd.prog glob 85 f85_G := f85_ok0
end Go.Eng.N
set_option linter.unusedVariables false
set_option maxRecDepth 100000
open Go Go.Eng Go.Proofs
namespace Go.Eng.N
/-! ### f45: plenum/lexer.Name -/
noncomputable def f45_d (s1 : ByteArray) (k0 : Bool → Prop) : Prop := bB (decide (((s1.size : Nat) : Int) < 1)) (k0 false) (bB (decide (((s1.size : Nat) : Int) > 24)) (k0 false) ((0 ≤ (0 : Int) ∧ (0 : Int) < ((s1.size : Nat) : Int)) ∧ bB (decide ((byteAt s1 0) < 97)) (k0 false) ((0 ≤ (0 : Int) ∧ (0 : Int) < ((s1.size : Nat) : Int)) ∧ bB (decide ((byteAt s1 0) > 122)) (k0 false) ((f85 s1 0 s1 (fun n2 s3 => k0 (n2 == ((s3.size : Nat) : Int)))) ∧ (f85 s1 0 s1 (fun n4 s5 => k0 (n4 == ((s1.size : Nat) : Int))))))))
structure f45 (s1 : ByteArray) (k0 : Bool → Prop) : Prop where
  run : f45_d s1 k0
noncomputable def f45_tab : List (Nat × Told) := []
noncomputable def f45_call : FuncId → List TV → List Entry → (TV → List Entry → Prop) → Prop := addCall 85 f85_G (noCalls)
noncomputable def f45_C : Ctx := { ty := tyOf tab, glob := glob, byRef := byRef, keep := fun k i => lookN [] (lookN [] ([] : List (Nat × List (Nat × List Nat))) k) i, late := lookN [] ([(3, [3])] : List (Nat × List Nat)), nref := lookN [] ([] : List (Nat × List Nat)), nbox := lookN [] ([] : List (Nat × List (Nat × Nat))), take := [], rnil := false, m := 0, fz := true, loops := lookL f45_tab, call := f45_call }
noncomputable def f45_G0 : List TV → List Entry → (TV → List Entry → Prop) → Prop := fun tm hp K => getS [.v (.one (.str))] [] tm hp fun (xx : (ByteArray × Unit)) (yy : Unit) => f45 xx.1 (fun b0_0 => K (B b0_0) [])
set_option maxRecDepth 100000 in
theorem f45_eq (s_1 : ByteArray) (K : TV → List Entry → Prop) : (f45_d s_1 (fun b0_0 => K (B b0_0) [])) = funcT f45_C Tryd.f45 [S s_1] [] K := by kernel_rfl
set_option maxHeartbeats 4000000 in
theorem f45_ok0 : FnOk Tryd.prog glob 45 f45_G0 := by
  refine FnOk.of_text (C := f45_C) tab_ok.ok (Known.add f85_G_ok (Known.none)) follows_ok (fn := Tryd.f45) (by kernel_rfl) (by kernel_rfl) (by kernel_rfl) (fun c hc => ?_) fun tm hp K h => ?_
  · have e : c = bodyOf Tryd.f45 := Option.some.inj (hc.symm.trans (by kernel_rfl))
    subst e
    exact ⟨LoopsOk.of [] (by kernel_rfl) trivial, TailsOk.of (tab := f45_tab) rfl [] (by kernel_rfl) trivial⟩
  · unfold f45_G0 at h
    obtain ⟨xx, yy, rfl, rfl, h⟩ := getS_elim h
    have e := (f45_eq xx.1 K).trans (show _ = funcT f45_C Tryd.f45 (mkR _ xx) (mkE _ yy) K by kernel_rfl)
    rw [← e]
    exact h.run
noncomputable abbrev f45_G := f45_G0
theorem f45_G_ok : FnOk Tryd.prog glob 45 f45_G := f45_ok0
end Go.Eng.N
set_option linter.unusedVariables false
set_option maxRecDepth 100000
open Go Go.Eng Go.Proofs
namespace Go.Eng.N
/-! ### f47: plenum/notify.Check$1 -/
noncomputable def f47_d (s1 : ByteArray) (n2 : Int) (n3 : Int) (n4 : Int) (n5 : Int) (k0 : Bool → Prop) : Prop := f45 s1 (fun b6 => k0 (!b6))
structure f47 (s1 : ByteArray) (n2 : Int) (n3 : Int) (n4 : Int) (n5 : Int) (k0 : Bool → Prop) : Prop where
  run : f47_d s1 n2 n3 n4 n5 k0
noncomputable def f47_tab : List (Nat × Told) := []
noncomputable def f47_call : FuncId → List TV → List Entry → (TV → List Entry → Prop) → Prop := addCall 45 f45_G (noCalls)
noncomputable def f47_C : Ctx := { ty := tyOf tab, glob := glob, byRef := byRef, keep := fun k i => lookN [] (lookN [] ([] : List (Nat × List (Nat × List Nat))) k) i, late := lookN [] ([] : List (Nat × List Nat)), nref := lookN [] ([] : List (Nat × List Nat)), nbox := lookN [] ([] : List (Nat × List (Nat × Nat))), take := [], rnil := false, m := 0, fz := true, loops := lookL f47_tab, call := f47_call }
noncomputable def f47_G0 : List TV → List Entry → (TV → List Entry → Prop) → Prop := fun tm hp K => getS [.v (.pagg [.str, .int .i64, .int .i64, .int .i64, .int .i64])] [] tm hp fun (xx : ((ByteArray × (Int × (Int × (Int × (Int × Unit))))) × Unit)) (yy : Unit) => f47 xx.1.1 xx.1.2.1 xx.1.2.2.1 xx.1.2.2.2.1 xx.1.2.2.2.2.1 (fun b0_0 => K (B b0_0) [])
set_option maxRecDepth 100000 in
theorem f47_eq (s_1 : ByteArray) (n_2 : Int) (n_3 : Int) (n_4 : Int) (n_5 : Int) (K : TV → List Entry → Prop) : (f47_d s_1 n_2 n_3 n_4 n_5 (fun b0_0 => K (B b0_0) [])) = funcT f47_C Tryd.f47 [.w (.pagg [pS s_1, pI n_2, pI n_3, pI n_4, pI n_5])] [] K := by kernel_rfl
set_option maxHeartbeats 4000000 in
theorem f47_ok0 : FnOk Tryd.prog glob 47 f47_G0 := by
  refine FnOk.of_text (C := f47_C) tab_ok.ok (Known.add f45_G_ok (Known.none)) follows_ok (fn := Tryd.f47) (by kernel_rfl) (by kernel_rfl) (by kernel_rfl) (fun c hc => ?_) fun tm hp K h => ?_
  · have e : c = bodyOf Tryd.f47 := Option.some.inj (hc.symm.trans (by kernel_rfl))
    subst e
    exact ⟨LoopsOk.of [] (by kernel_rfl) trivial, TailsOk.of (tab := f47_tab) rfl [] (by kernel_rfl) trivial⟩
  · unfold f47_G0 at h
    obtain ⟨xx, yy, rfl, rfl, h⟩ := getS_elim h
    have e := (f47_eq xx.1.1 xx.1.2.1 xx.1.2.2.1 xx.1.2.2.2.1 xx.1.2.2.2.2.1 K).trans (show _ = funcT f47_C Tryd.f47 (mkR _ xx) (mkE _ yy) K by kernel_rfl)
    rw [← e]
    exact h.run
noncomputable abbrev f47_G := f47_G0
theorem f47_G_ok : FnOk Tryd.prog glob 47 f47_G := f47_ok0
end Go.Eng.N
set_option linter.unusedVariables false
set_option maxRecDepth 100000
open Go Go.Eng Go.Proofs
namespace Go.Eng.N
/-! ### f88: slices.IndexFunc(()plenum/api.Recipient,plenum/api.Recipient) -/
noncomputable def f88_p4b0 (es3 : List (List PC)) (full4 : Bool) (n5 : Int) (n6 : Int) (N0 : Int → Prop) (k0 : Int → Prop) (k1 : Unit → Prop) : Prop := bB (decide (n6 < n5)) ((0 ≤ n6 ∧ n6 < ((es3.length : Nat) : Int)) ∧ cS (ext (List.getD es3 (Int.toNat n6) []) 0 5) fun s8 r7 => cI .i64 r7 fun n10 r9 => cI .i64 r9 fun n12 r11 => cI .i64 r11 fun n14 r13 => cI .i64 r13 fun n16 r15 => nilC r15 <| f47 s8 n10 n12 n14 n16 (fun b17 => bB b17 (k0 n6) (N0 (w64 (n6 + 1))))) (k1 ())
noncomputable def f88_p4 (es3 : List (List PC)) (full4 : Bool) (n5 : Int) (k0 : Int → Prop) (k1 : Unit → Prop) : Int → Prop := LoopP fun x N => f88_p4b0 es3 full4 n5 x (fun n6 => N n6) k0 k1
noncomputable def f88_d (es1 : List (List PC)) (full2 : Bool) (k0 : Int → Prop) : Prop := f88_p4 es1 full2 ((es1.length : Nat) : Int) (fun n18 => k0 n18) (fun (_ : Unit) => k0 (-1)) 0
structure f88 (es1 : List (List PC)) (full2 : Bool) (k0 : Int → Prop) : Prop where
  run : f88_d es1 full2 k0
noncomputable def f88_p4L : Told := fun s K => match s with
  | ⟨tm, hp⟩ => getS [.v (.one (.sl 5)), .v (.one (.fn 47)), .skip 5, .v (.one (.int .i64)), .v (.one (.int .i64)), .skip 10] [] tm hp fun (xx : ((List (List PC) × Bool) × (Unit × (Unit × (Int × (Int × (Unit × Unit))))))) (yy : Unit) => f88_p4 xx.1.1 xx.1.2 xx.2.2.2.1 (fun n0_0 => K .ret ⟨mkS 19 [(4, I n0_0)], []⟩) (fun (_ : Unit) => K (.exit 0) ⟨mkS 19 [], []⟩) xx.2.2.2.2.1
noncomputable def f88_tab : List (Nat × Told) := [(4, f88_p4L)]
noncomputable def f88_call : FuncId → List TV → List Entry → (TV → List Entry → Prop) → Prop := addCall 47 f47_G (noCalls)
noncomputable def f88_C : Ctx := { ty := tyOf tab, glob := glob, byRef := byRef, keep := fun k i => lookN [] (lookN [] ([(4, [(0, [0, 1, 7, 8]), (2, [4]), (3, [])])] : List (Nat × List (Nat × List Nat))) k) i, late := lookN [] ([] : List (Nat × List Nat)), nref := lookN [] ([] : List (Nat × List Nat)), nbox := lookN [] ([] : List (Nat × List (Nat × Nat))), take := [], rnil := true, m := 0, fz := false, loops := lookL f88_tab, call := f88_call }
noncomputable def f88_p4_mk (es3 : List (List PC)) (full4 : Bool) (n5 : Int) (x : Int) : St := ⟨mkS 19 [(0, .w (.one (.p (.sl 5 es3 full4)))), (1, .w (.one (.p (.c (.func (.func 47) #[] #[]))))), (7, I n5), (8, I x)], []⟩
set_option maxRecDepth 100000 in
theorem f88_p4e0 (es_6 : List (List PC)) (full_7 : Bool) (n_8 : Int) (n_9 : Int) (N : St → Prop) (K : TExit → St → Prop) : (f88_p4b0 es_6 full_7 n_8 n_9 (fun z3 => N (f88_p4_mk es_6 full_7 n_8 z3)) (fun n0_10 => K .ret ⟨mkS 19 [(4, I n0_10)], []⟩) (fun (_ : Unit) => K (.exit 0) ⟨mkS 19 [], []⟩)) = execT f88_C (nthC (bodies (bodyOf Tryd.f88)) 0) (f88_p4_mk es_6 full_7 n_8 n_9) (loopK N (normK f88_C 4) fun e s => K e (normOut f88_C 4 e s)) := by kernel_rfl
set_option maxHeartbeats 4000000 in
theorem f88_p4_ok : LoopOk f88_C (nthC (bodies (bodyOf Tryd.f88)) 0) := by
  refine LoopOk.of f88_p4L (by kernel_rfl) fun σ K h => ?_
  have hk : loopKey (nthC (bodies (bodyOf Tryd.f88)) 0) = 4 := by kernel_rfl
  rw [hk] at h ⊢
  generalize hs : normK f88_C 4 σ = s at h
  obtain ⟨tm, hp⟩ := s
  unfold f88_p4L at h
  dsimp only at h
  obtain ⟨xx, yy, rfl, rfl, h⟩ := getS_elim h
  refine iter_of (f88_p4_mk xx.1.1 xx.1.2 xx.2.2.2.1) (fun x N h => ?_) rounds _ σ (hs.trans (by kernel_rfl)) (LoopP.run h)
  rw [← f88_p4e0 xx.1.1 xx.1.2 xx.2.2.2.1 x N K]
  exact h
noncomputable def f88_G0 : List TV → List Entry → (TV → List Entry → Prop) → Prop := fun tm hp K => getS [.v (.one (.sl 5)), .v (.one (.fn 47))] [] tm hp fun (xx : ((List (List PC) × Bool) × (Unit × Unit))) (yy : Unit) => f88 xx.1.1 xx.1.2 (fun n0_1 => K (I n0_1) [])
set_option maxRecDepth 100000 in
theorem f88_eq (es_11 : List (List PC)) (full_12 : Bool) (K : TV → List Entry → Prop) : (f88_d es_11 full_12 (fun n0_1 => K (I n0_1) [])) = funcT f88_C Tryd.f88 [.w (.one (.p (.sl 5 es_11 full_12))), .w (.one (.p (.c (.func (.func 47) #[] #[]))))] [] K := by kernel_rfl
set_option maxHeartbeats 4000000 in
theorem f88_ok0 : FnOk Tryd.prog glob 88 f88_G0 := by
  refine FnOk.of_text (C := f88_C) tab_ok.ok (Known.add f47_G_ok (Known.none)) follows_ok (fn := Tryd.f88) (by kernel_rfl) (by kernel_rfl) (by kernel_rfl) (fun c hc => ?_) fun tm hp K h => ?_
  · have e : c = bodyOf Tryd.f88 := Option.some.inj (hc.symm.trans (by kernel_rfl))
    subst e
    exact ⟨LoopsOk.of [nthC (bodies (bodyOf Tryd.f88)) 0] (by kernel_rfl) ⟨f88_p4_ok, trivial⟩, TailsOk.of (tab := f88_tab) rfl [] (by kernel_rfl) trivial⟩
  · unfold f88_G0 at h
    obtain ⟨xx, yy, rfl, rfl, h⟩ := getS_elim h
    have e := (f88_eq xx.1.1 xx.1.2 K).trans (show _ = funcT f88_C Tryd.f88 (mkR _ xx) (mkE _ yy) K by kernel_rfl)
    rw [← e]
    exact h.run
noncomputable abbrev f88_G := f88_G0
theorem f88_G_ok : FnOk Tryd.prog glob 88 f88_G := f88_ok0
end Go.Eng.N
set_option linter.unusedVariables false
set_option maxRecDepth 100000
open Go Go.Eng Go.Proofs
namespace Go.Eng.N
/-! ### f46: slices.ContainsFunc(()plenum/api.Recipient,plenum/api.Recipient) -/
noncomputable def f46_d (es1 : List (List PC)) (full2 : Bool) (k0 : Bool → Prop) : Prop := f88 es1 full2 (fun n3 => k0 (decide (n3 ≥ 0)))
structure f46 (es1 : List (List PC)) (full2 : Bool) (k0 : Bool → Prop) : Prop where
  run : f46_d es1 full2 k0
noncomputable def f46_tab : List (Nat × Told) := []
noncomputable def f46_call : FuncId → List TV → List Entry → (TV → List Entry → Prop) → Prop := addCall 88 f88_G (noCalls)
noncomputable def f46_C : Ctx := { ty := tyOf tab, glob := glob, byRef := byRef, keep := fun k i => lookN [] (lookN [] ([] : List (Nat × List (Nat × List Nat))) k) i, late := lookN [] ([] : List (Nat × List Nat)), nref := lookN [] ([] : List (Nat × List Nat)), nbox := lookN [] ([] : List (Nat × List (Nat × Nat))), take := [], rnil := false, m := 0, fz := true, loops := lookL f46_tab, call := f46_call }
noncomputable def f46_G0 : List TV → List Entry → (TV → List Entry → Prop) → Prop := fun tm hp K => getS [.v (.one (.sl 5)), .v (.one (.fn 47))] [] tm hp fun (xx : ((List (List PC) × Bool) × (Unit × Unit))) (yy : Unit) => f46 xx.1.1 xx.1.2 (fun b0_0 => K (B b0_0) [])
set_option maxRecDepth 100000 in
theorem f46_eq (es_1 : List (List PC)) (full_2 : Bool) (K : TV → List Entry → Prop) : (f46_d es_1 full_2 (fun b0_0 => K (B b0_0) [])) = funcT f46_C Tryd.f46 [.w (.one (.p (.sl 5 es_1 full_2))), .w (.one (.p (.c (.func (.func 47) #[] #[]))))] [] K := by kernel_rfl
set_option maxHeartbeats 4000000 in
theorem f46_ok0 : FnOk Tryd.prog glob 46 f46_G0 := by
  refine FnOk.of_text (C := f46_C) tab_ok.ok (Known.add f88_G_ok (Known.none)) follows_ok (fn := Tryd.f46) (by kernel_rfl) (by kernel_rfl) (by kernel_rfl) (fun c hc => ?_) fun tm hp K h => ?_
  · have e : c = bodyOf Tryd.f46 := Option.some.inj (hc.symm.trans (by kernel_rfl))
    subst e
    exact ⟨LoopsOk.of [] (by kernel_rfl) trivial, TailsOk.of (tab := f46_tab) rfl [] (by kernel_rfl) trivial⟩
  · unfold f46_G0 at h
    obtain ⟨xx, yy, rfl, rfl, h⟩ := getS_elim h
    have e := (f46_eq xx.1.1 xx.1.2 K).trans (show _ = funcT f46_C Tryd.f46 (mkR _ xx) (mkE _ yy) K by kernel_rfl)
    rw [← e]
    exact h.run
noncomputable abbrev f46_G := f46_G0
theorem f46_G_ok : FnOk Tryd.prog glob 46 f46_G := f46_ok0
end Go.Eng.N
set_option linter.unusedVariables false
set_option maxRecDepth 100000
open Go Go.Eng Go.Proofs
namespace Go.Eng.N
/-! ### f48: plenum/notify.bad -/
noncomputable def f48_d (s1 : ByteArray) (n2 : Int) (n3 : Int) (n4 : Int) (n5 : Int) (k0 : Bool → Prop) : Prop := bB (decide (n2 < 1)) (k0 true) (bB (decide (n2 > 127)) (k0 true) (bB (decide (n5 < 1)) (k0 true) (bB (decide (n5 > 7)) (k0 true) (bB (decide (n3 < 0)) (k0 true) (bB (decide (n3 > n4)) (k0 true) (k0 (decide (n4 ≥ 1440))))))))
structure f48 (s1 : ByteArray) (n2 : Int) (n3 : Int) (n4 : Int) (n5 : Int) (k0 : Bool → Prop) : Prop where
  run : f48_d s1 n2 n3 n4 n5 k0
noncomputable def f48_tab : List (Nat × Told) := []
noncomputable def f48_call : FuncId → List TV → List Entry → (TV → List Entry → Prop) → Prop := noCalls
noncomputable def f48_C : Ctx := { ty := tyOf tab, glob := glob, byRef := byRef, keep := fun k i => lookN [] (lookN [] ([] : List (Nat × List (Nat × List Nat))) k) i, late := lookN [] ([] : List (Nat × List Nat)), nref := lookN [] ([] : List (Nat × List Nat)), nbox := lookN [] ([] : List (Nat × List (Nat × Nat))), take := [], rnil := false, m := 0, fz := true, loops := lookL f48_tab, call := f48_call }
noncomputable def f48_G0 : List TV → List Entry → (TV → List Entry → Prop) → Prop := fun tm hp K => getS [.v (.pagg [.str, .int .i64, .int .i64, .int .i64, .int .i64])] [] tm hp fun (xx : ((ByteArray × (Int × (Int × (Int × (Int × Unit))))) × Unit)) (yy : Unit) => f48 xx.1.1 xx.1.2.1 xx.1.2.2.1 xx.1.2.2.2.1 xx.1.2.2.2.2.1 (fun b0_0 => K (B b0_0) [])
set_option maxRecDepth 100000 in
theorem f48_eq (s_1 : ByteArray) (n_2 : Int) (n_3 : Int) (n_4 : Int) (n_5 : Int) (K : TV → List Entry → Prop) : (f48_d s_1 n_2 n_3 n_4 n_5 (fun b0_0 => K (B b0_0) [])) = funcT f48_C Tryd.f48 [.w (.pagg [pS s_1, pI n_2, pI n_3, pI n_4, pI n_5])] [] K := by kernel_rfl
set_option maxHeartbeats 4000000 in
theorem f48_ok0 : FnOk Tryd.prog glob 48 f48_G0 := by
  refine FnOk.of_text (C := f48_C) tab_ok.ok (Known.none) follows_ok (fn := Tryd.f48) (by kernel_rfl) (by kernel_rfl) (by kernel_rfl) (fun c hc => ?_) fun tm hp K h => ?_
  · have e : c = bodyOf Tryd.f48 := Option.some.inj (hc.symm.trans (by kernel_rfl))
    subst e
    exact ⟨LoopsOk.of [] (by kernel_rfl) trivial, TailsOk.of (tab := f48_tab) rfl [] (by kernel_rfl) trivial⟩
  · unfold f48_G0 at h
    obtain ⟨xx, yy, rfl, rfl, h⟩ := getS_elim h
    have e := (f48_eq xx.1.1 xx.1.2.1 xx.1.2.2.1 xx.1.2.2.2.1 xx.1.2.2.2.2.1 K).trans (show _ = funcT f48_C Tryd.f48 (mkR _ xx) (mkE _ yy) K by kernel_rfl)
    rw [← e]
    exact h.run
noncomputable abbrev f48_G := f48_G0
theorem f48_G_ok : FnOk Tryd.prog glob 48 f48_G := f48_ok0
end Go.Eng.N
set_option linter.unusedVariables false
set_option maxRecDepth 100000
open Go Go.Eng Go.Proofs
namespace Go.Eng.N
/-! ### f88_1: slices.IndexFunc(()plenum/api.Recipient,plenum/api.Recipient) -/
noncomputable def f88_1_p4b0 (es3 : List (List PC)) (full4 : Bool) (n5 : Int) (n6 : Int) (N0 : Int → Prop) (k0 : Int → Prop) (k1 : Unit → Prop) : Prop := bB (decide (n6 < n5)) ((0 ≤ n6 ∧ n6 < ((es3.length : Nat) : Int)) ∧ cS (ext (List.getD es3 (Int.toNat n6) []) 0 5) fun s8 r7 => cI .i64 r7 fun n10 r9 => cI .i64 r9 fun n12 r11 => cI .i64 r11 fun n14 r13 => cI .i64 r13 fun n16 r15 => nilC r15 <| f48 s8 n10 n12 n14 n16 (fun b17 => bB b17 (k0 n6) (N0 (w64 (n6 + 1))))) (k1 ())
noncomputable def f88_1_p4 (es3 : List (List PC)) (full4 : Bool) (n5 : Int) (k0 : Int → Prop) (k1 : Unit → Prop) : Int → Prop := LoopP fun x N => f88_1_p4b0 es3 full4 n5 x (fun n6 => N n6) k0 k1
noncomputable def f88_1_d (es1 : List (List PC)) (full2 : Bool) (k0 : Int → Prop) : Prop := f88_1_p4 es1 full2 ((es1.length : Nat) : Int) (fun n18 => k0 n18) (fun (_ : Unit) => k0 (-1)) 0
structure f88_1 (es1 : List (List PC)) (full2 : Bool) (k0 : Int → Prop) : Prop where
  run : f88_1_d es1 full2 k0
noncomputable def f88_1_p4L : Told := fun s K => match s with
  | ⟨tm, hp⟩ => getS [.v (.one (.sl 5)), .v (.one (.fn 48)), .skip 5, .v (.one (.int .i64)), .v (.one (.int .i64)), .skip 10] [] tm hp fun (xx : ((List (List PC) × Bool) × (Unit × (Unit × (Int × (Int × (Unit × Unit))))))) (yy : Unit) => f88_1_p4 xx.1.1 xx.1.2 xx.2.2.2.1 (fun n0_0 => K .ret ⟨mkS 19 [(4, I n0_0)], []⟩) (fun (_ : Unit) => K (.exit 0) ⟨mkS 19 [], []⟩) xx.2.2.2.2.1
noncomputable def f88_1_tab : List (Nat × Told) := [(4, f88_1_p4L)]
noncomputable def f88_1_call : FuncId → List TV → List Entry → (TV → List Entry → Prop) → Prop := addCall 48 f48_G (noCalls)
noncomputable def f88_1_C : Ctx := { ty := tyOf tab, glob := glob, byRef := byRef, keep := fun k i => lookN [] (lookN [] ([(4, [(0, [0, 1, 7, 8]), (2, [4]), (3, [])])] : List (Nat × List (Nat × List Nat))) k) i, late := lookN [] ([] : List (Nat × List Nat)), nref := lookN [] ([] : List (Nat × List Nat)), nbox := lookN [] ([] : List (Nat × List (Nat × Nat))), take := [], rnil := true, m := 0, fz := false, loops := lookL f88_1_tab, call := f88_1_call }
noncomputable def f88_1_p4_mk (es3 : List (List PC)) (full4 : Bool) (n5 : Int) (x : Int) : St := ⟨mkS 19 [(0, .w (.one (.p (.sl 5 es3 full4)))), (1, .w (.one (.p (.c (.func (.func 48) #[] #[]))))), (7, I n5), (8, I x)], []⟩
set_option maxRecDepth 100000 in
theorem f88_1_p4e0 (es_6 : List (List PC)) (full_7 : Bool) (n_8 : Int) (n_9 : Int) (N : St → Prop) (K : TExit → St → Prop) : (f88_1_p4b0 es_6 full_7 n_8 n_9 (fun z3 => N (f88_1_p4_mk es_6 full_7 n_8 z3)) (fun n0_10 => K .ret ⟨mkS 19 [(4, I n0_10)], []⟩) (fun (_ : Unit) => K (.exit 0) ⟨mkS 19 [], []⟩)) = execT f88_1_C (nthC (bodies (bodyOf Tryd.f88)) 0) (f88_1_p4_mk es_6 full_7 n_8 n_9) (loopK N (normK f88_1_C 4) fun e s => K e (normOut f88_1_C 4 e s)) := by kernel_rfl
set_option maxHeartbeats 4000000 in
theorem f88_1_p4_ok : LoopOk f88_1_C (nthC (bodies (bodyOf Tryd.f88)) 0) := by
  refine LoopOk.of f88_1_p4L (by kernel_rfl) fun σ K h => ?_
  have hk : loopKey (nthC (bodies (bodyOf Tryd.f88)) 0) = 4 := by kernel_rfl
  rw [hk] at h ⊢
  generalize hs : normK f88_1_C 4 σ = s at h
  obtain ⟨tm, hp⟩ := s
  unfold f88_1_p4L at h
  dsimp only at h
  obtain ⟨xx, yy, rfl, rfl, h⟩ := getS_elim h
  refine iter_of (f88_1_p4_mk xx.1.1 xx.1.2 xx.2.2.2.1) (fun x N h => ?_) rounds _ σ (hs.trans (by kernel_rfl)) (LoopP.run h)
  rw [← f88_1_p4e0 xx.1.1 xx.1.2 xx.2.2.2.1 x N K]
  exact h
noncomputable def f88_1_G0 : List TV → List Entry → (TV → List Entry → Prop) → Prop := fun tm hp K => getS [.v (.one (.sl 5)), .v (.one (.fn 48))] [] tm hp fun (xx : ((List (List PC) × Bool) × (Unit × Unit))) (yy : Unit) => f88_1 xx.1.1 xx.1.2 (fun n0_1 => K (I n0_1) [])
set_option maxRecDepth 100000 in
theorem f88_1_eq (es_11 : List (List PC)) (full_12 : Bool) (K : TV → List Entry → Prop) : (f88_1_d es_11 full_12 (fun n0_1 => K (I n0_1) [])) = funcT f88_1_C Tryd.f88 [.w (.one (.p (.sl 5 es_11 full_12))), .w (.one (.p (.c (.func (.func 48) #[] #[]))))] [] K := by kernel_rfl
set_option maxHeartbeats 4000000 in
theorem f88_1_ok0 : FnOk Tryd.prog glob 88 f88_1_G0 := by
  refine FnOk.of_text (C := f88_1_C) tab_ok.ok (Known.add f48_G_ok (Known.none)) follows_ok (fn := Tryd.f88) (by kernel_rfl) (by kernel_rfl) (by kernel_rfl) (fun c hc => ?_) fun tm hp K h => ?_
  · have e : c = bodyOf Tryd.f88 := Option.some.inj (hc.symm.trans (by kernel_rfl))
    subst e
    exact ⟨LoopsOk.of [nthC (bodies (bodyOf Tryd.f88)) 0] (by kernel_rfl) ⟨f88_1_p4_ok, trivial⟩, TailsOk.of (tab := f88_1_tab) rfl [] (by kernel_rfl) trivial⟩
  · unfold f88_1_G0 at h
    obtain ⟨xx, yy, rfl, rfl, h⟩ := getS_elim h
    have e := (f88_1_eq xx.1.1 xx.1.2 K).trans (show _ = funcT f88_1_C Tryd.f88 (mkR _ xx) (mkE _ yy) K by kernel_rfl)
    rw [← e]
    exact h.run
noncomputable def f88_1_G : List TV → List Entry → (TV → List Entry → Prop) → Prop := fun args H K => bif isSig (sigOf args H) [5, 1048, 7] then f88_1_G0 args H K else f88_G args H K
theorem f88_1_G_ok : FnOk Tryd.prog glob 88 f88_1_G := FnOk.or _ f88_1_ok0 f88_G_ok
end Go.Eng.N
set_option linter.unusedVariables false
set_option maxRecDepth 100000
open Go Go.Eng Go.Proofs
namespace Go.Eng.N
/-! ### f46_1: slices.ContainsFunc(()plenum/api.Recipient,plenum/api.Recipient) -/
noncomputable def f46_1_d (es1 : List (List PC)) (full2 : Bool) (k0 : Bool → Prop) : Prop := f88_1 es1 full2 (fun n3 => k0 (decide (n3 ≥ 0)))
structure f46_1 (es1 : List (List PC)) (full2 : Bool) (k0 : Bool → Prop) : Prop where
  run : f46_1_d es1 full2 k0
noncomputable def f46_1_tab : List (Nat × Told) := []
noncomputable def f46_1_call : FuncId → List TV → List Entry → (TV → List Entry → Prop) → Prop := addCall 88 f88_1_G (noCalls)
noncomputable def f46_1_C : Ctx := { ty := tyOf tab, glob := glob, byRef := byRef, keep := fun k i => lookN [] (lookN [] ([] : List (Nat × List (Nat × List Nat))) k) i, late := lookN [] ([] : List (Nat × List Nat)), nref := lookN [] ([] : List (Nat × List Nat)), nbox := lookN [] ([] : List (Nat × List (Nat × Nat))), take := [], rnil := false, m := 0, fz := true, loops := lookL f46_1_tab, call := f46_1_call }
noncomputable def f46_1_G0 : List TV → List Entry → (TV → List Entry → Prop) → Prop := fun tm hp K => getS [.v (.one (.sl 5)), .v (.one (.fn 48))] [] tm hp fun (xx : ((List (List PC) × Bool) × (Unit × Unit))) (yy : Unit) => f46_1 xx.1.1 xx.1.2 (fun b0_0 => K (B b0_0) [])
set_option maxRecDepth 100000 in
theorem f46_1_eq (es_1 : List (List PC)) (full_2 : Bool) (K : TV → List Entry → Prop) : (f46_1_d es_1 full_2 (fun b0_0 => K (B b0_0) [])) = funcT f46_1_C Tryd.f46 [.w (.one (.p (.sl 5 es_1 full_2))), .w (.one (.p (.c (.func (.func 48) #[] #[]))))] [] K := by kernel_rfl
set_option maxHeartbeats 4000000 in
theorem f46_1_ok0 : FnOk Tryd.prog glob 46 f46_1_G0 := by
  refine FnOk.of_text (C := f46_1_C) tab_ok.ok (Known.add f88_1_G_ok (Known.none)) follows_ok (fn := Tryd.f46) (by kernel_rfl) (by kernel_rfl) (by kernel_rfl) (fun c hc => ?_) fun tm hp K h => ?_
  · have e : c = bodyOf Tryd.f46 := Option.some.inj (hc.symm.trans (by kernel_rfl))
    subst e
    exact ⟨LoopsOk.of [] (by kernel_rfl) trivial, TailsOk.of (tab := f46_1_tab) rfl [] (by kernel_rfl) trivial⟩
  · unfold f46_1_G0 at h
    obtain ⟨xx, yy, rfl, rfl, h⟩ := getS_elim h
    have e := (f46_1_eq xx.1.1 xx.1.2 K).trans (show _ = funcT f46_1_C Tryd.f46 (mkR _ xx) (mkE _ yy) K by kernel_rfl)
    rw [← e]
    exact h.run
noncomputable def f46_1_G : List TV → List Entry → (TV → List Entry → Prop) → Prop := fun args H K => bif isSig (sigOf args H) [5, 1048, 7] then f46_1_G0 args H K else f46_G args H K
theorem f46_1_G_ok : FnOk Tryd.prog glob 46 f46_1_G := FnOk.or _ f46_1_ok0 f46_G_ok
end Go.Eng.N
set_option linter.unusedVariables false
set_option maxRecDepth 100000
open Go Go.Eng Go.Proofs
namespace Go.Eng.N
/-! ### f49: slices.Index(()plenum/api.Recipient,plenum/api.Recipient) -/
noncomputable def f49_p4b0 (es8 : List (List PC)) (full9 : Bool) (n10 : Int) (n11 : Int) (s12 : ByteArray) (n13 : Int) (n14 : Int) (n15 : Int) (n16 : Int) (N0 : Int → Prop) (k0 : Int → Prop) (k1 : Unit → Prop) : Prop := bB (decide (n11 < n10)) ((0 ≤ n11 ∧ n11 < ((es8.length : Nat) : Int)) ∧ cS (ext (List.getD es8 (Int.toNat n11) []) 0 5) fun s18 r17 => cI .i64 r17 fun n20 r19 => cI .i64 r19 fun n22 r21 => cI .i64 r21 fun n24 r23 => cI .i64 r23 fun n26 r25 => nilC r25 <| bB ((s12 == s18) && ((n13 == n20) && ((n14 == n22) && ((n15 == n24) && ((n16 == n26) && true))))) (k0 n11) (N0 (w64 (n11 + 1)))) (k1 ())
noncomputable def f49_p4 (es8 : List (List PC)) (full9 : Bool) (n10 : Int) (s12 : ByteArray) (n13 : Int) (n14 : Int) (n15 : Int) (n16 : Int) (k0 : Int → Prop) (k1 : Unit → Prop) : Int → Prop := LoopP fun x N => f49_p4b0 es8 full9 n10 x s12 n13 n14 n15 n16 (fun n11 => N n11) k0 k1
noncomputable def f49_d (es1 : List (List PC)) (full2 : Bool) (s3 : ByteArray) (n4 : Int) (n5 : Int) (n6 : Int) (n7 : Int) (k0 : Int → Prop) : Prop := f49_p4 es1 full2 ((es1.length : Nat) : Int) s3 n4 n5 n6 n7 (fun n27 => k0 n27) (fun (_ : Unit) => k0 (-1)) 0
structure f49 (es1 : List (List PC)) (full2 : Bool) (s3 : ByteArray) (n4 : Int) (n5 : Int) (n6 : Int) (n7 : Int) (k0 : Int → Prop) : Prop where
  run : f49_d es1 full2 s3 n4 n5 n6 n7 k0
noncomputable def f49_p4L : Told := fun s K => match s with
  | ⟨tm, hp⟩ => getS [.v (.one (.sl 5)), .skip 2, .v (.one (.ptr 0 0 0)), .skip 3, .v (.one (.int .i64)), .v (.one (.int .i64)), .skip 10] [.box [.str, .int .i64, .int .i64, .int .i64, .int .i64]] tm hp fun (xx : ((List (List PC) × Bool) × (Unit × (Unit × (Unit × (Int × (Int × (Unit × Unit)))))))) (yy : ((ByteArray × (Int × (Int × (Int × (Int × Unit))))) × Unit)) => f49_p4 xx.1.1 xx.1.2 xx.2.2.2.2.1 yy.1.1 yy.1.2.1 yy.1.2.2.1 yy.1.2.2.2.1 yy.1.2.2.2.2.1 (fun n0_0 => K .ret ⟨mkS 19 [(4, I n0_0)], []⟩) (fun (_ : Unit) => K (.exit 0) ⟨mkS 19 [], []⟩) xx.2.2.2.2.2.1
noncomputable def f49_tab : List (Nat × Told) := [(4, f49_p4L)]
noncomputable def f49_call : FuncId → List TV → List Entry → (TV → List Entry → Prop) → Prop := noCalls
noncomputable def f49_C : Ctx := { ty := tyOf tab, glob := glob, byRef := byRef, keep := fun k i => lookN [] (lookN [] ([(4, [(0, [0, 3, 7, 8]), (2, [4]), (3, [])])] : List (Nat × List (Nat × List Nat))) k) i, late := lookN [] ([] : List (Nat × List Nat)), nref := lookN [] ([] : List (Nat × List Nat)), nbox := lookN [] ([] : List (Nat × List (Nat × Nat))), take := [], rnil := false, m := 0, fz := true, loops := lookL f49_tab, call := f49_call }
noncomputable def f49_p4_mk (es8 : List (List PC)) (full9 : Bool) (n10 : Int) (s12 : ByteArray) (n13 : Int) (n14 : Int) (n15 : Int) (n16 : Int) (x : Int) : St := ⟨mkS 19 [(0, .w (.one (.p (.sl 5 es8 full9)))), (3, .w (.one (.ptr 0 0 0))), (7, I n10), (8, I x)], [.box [.p (pS s12), .p (pI n13), .p (pI n14), .p (pI n15), .p (pI n16)]]⟩
set_option maxRecDepth 100000 in
theorem f49_p4e0 (es_11 : List (List PC)) (full_12 : Bool) (n_13 : Int) (n_14 : Int) (s_15 : ByteArray) (n_16 : Int) (n_17 : Int) (n_18 : Int) (n_19 : Int) (N : St → Prop) (K : TExit → St → Prop) : (f49_p4b0 es_11 full_12 n_13 n_14 s_15 n_16 n_17 n_18 n_19 (fun z3 => N (f49_p4_mk es_11 full_12 n_13 s_15 n_16 n_17 n_18 n_19 z3)) (fun n0_20 => K .ret ⟨mkS 19 [(4, I n0_20)], []⟩) (fun (_ : Unit) => K (.exit 0) ⟨mkS 19 [], []⟩)) = execT f49_C (nthC (bodies (bodyOf Tryd.f49)) 0) (f49_p4_mk es_11 full_12 n_13 s_15 n_16 n_17 n_18 n_19 n_14) (loopK N (normK f49_C 4) fun e s => K e (normOut f49_C 4 e s)) := by kernel_rfl
set_option maxHeartbeats 4000000 in
theorem f49_p4_ok : LoopOk f49_C (nthC (bodies (bodyOf Tryd.f49)) 0) := by
  refine LoopOk.of f49_p4L (by kernel_rfl) fun σ K h => ?_
  have hk : loopKey (nthC (bodies (bodyOf Tryd.f49)) 0) = 4 := by kernel_rfl
  rw [hk] at h ⊢
  generalize hs : normK f49_C 4 σ = s at h
  obtain ⟨tm, hp⟩ := s
  unfold f49_p4L at h
  dsimp only at h
  obtain ⟨xx, yy, rfl, rfl, h⟩ := getS_elim h
  refine iter_of (f49_p4_mk xx.1.1 xx.1.2 xx.2.2.2.2.1 yy.1.1 yy.1.2.1 yy.1.2.2.1 yy.1.2.2.2.1 yy.1.2.2.2.2.1) (fun x N h => ?_) rounds _ σ (hs.trans (by kernel_rfl)) (LoopP.run h)
  rw [← f49_p4e0 xx.1.1 xx.1.2 xx.2.2.2.2.1 x yy.1.1 yy.1.2.1 yy.1.2.2.1 yy.1.2.2.2.1 yy.1.2.2.2.2.1 N K]
  exact h
noncomputable def f49_G0 : List TV → List Entry → (TV → List Entry → Prop) → Prop := fun tm hp K => getS [.v (.one (.sl 5)), .v (.pagg [.str, .int .i64, .int .i64, .int .i64, .int .i64])] [] tm hp fun (xx : ((List (List PC) × Bool) × ((ByteArray × (Int × (Int × (Int × (Int × Unit))))) × Unit))) (yy : Unit) => f49 xx.1.1 xx.1.2 xx.2.1.1 xx.2.1.2.1 xx.2.1.2.2.1 xx.2.1.2.2.2.1 xx.2.1.2.2.2.2.1 (fun n0_1 => K (I n0_1) [])
set_option maxRecDepth 100000 in
theorem f49_eq (es_21 : List (List PC)) (full_22 : Bool) (s_23 : ByteArray) (n_24 : Int) (n_25 : Int) (n_26 : Int) (n_27 : Int) (K : TV → List Entry → Prop) : (f49_d es_21 full_22 s_23 n_24 n_25 n_26 n_27 (fun n0_1 => K (I n0_1) [])) = funcT f49_C Tryd.f49 [.w (.one (.p (.sl 5 es_21 full_22))), .w (.pagg [pS s_23, pI n_24, pI n_25, pI n_26, pI n_27])] [] K := by kernel_rfl
set_option maxHeartbeats 4000000 in
theorem f49_ok0 : FnOk Tryd.prog glob 49 f49_G0 := by
  refine FnOk.of_text (C := f49_C) tab_ok.ok (Known.none) follows_ok (fn := Tryd.f49) (by kernel_rfl) (by kernel_rfl) (by kernel_rfl) (fun c hc => ?_) fun tm hp K h => ?_
  · have e : c = bodyOf Tryd.f49 := Option.some.inj (hc.symm.trans (by kernel_rfl))
    subst e
    exact ⟨LoopsOk.of [nthC (bodies (bodyOf Tryd.f49)) 0] (by kernel_rfl) ⟨f49_p4_ok, trivial⟩, TailsOk.of (tab := f49_tab) rfl [] (by kernel_rfl) trivial⟩
  · unfold f49_G0 at h
    obtain ⟨xx, yy, rfl, rfl, h⟩ := getS_elim h
    have e := (f49_eq xx.1.1 xx.1.2 xx.2.1.1 xx.2.1.2.1 xx.2.1.2.2.1 xx.2.1.2.2.2.1 xx.2.1.2.2.2.2.1 K).trans (show _ = funcT f49_C Tryd.f49 (mkR _ xx) (mkE _ yy) K by kernel_rfl)
    rw [← e]
    exact h.run
noncomputable abbrev f49_G := f49_G0
theorem f49_G_ok : FnOk Tryd.prog glob 49 f49_G := f49_ok0
end Go.Eng.N
set_option linter.unusedVariables false
set_option maxRecDepth 100000
open Go Go.Eng Go.Proofs
namespace Go.Eng.N
/-! ### f16: plenum/notify.Check -/
noncomputable def f16_p16b0 (es14 : List (List PC)) (full15 : Bool) (n16 : Int) (n17 : Int) (s18 : ByteArray) (n19 : Int) (n20 : Int) (es21 : List (List PC)) (full22 : Bool) (N0 : Int → Prop) (k0 : Int → Prop) (k1 : Unit → Prop) : Prop := bB (decide (n17 < n16)) ((0 ≤ n17 ∧ n17 < ((es14.length : Nat) : Int)) ∧ cS (ext (List.getD es14 (Int.toNat n17) []) 0 5) fun s24 r23 => cI .i64 r23 fun n26 r25 => cI .i64 r25 fun n28 r27 => cI .i64 r27 fun n30 r29 => cI .i64 r29 fun n32 r31 => nilC r31 <| f49 es21 full22 s24 n26 n28 n30 n32 (fun n33 => bB (n33 != n17) (k0 5) (N0 (w64 (n17 + 1))))) (k1 ())
noncomputable def f16_p16 (es14 : List (List PC)) (full15 : Bool) (n16 : Int) (s18 : ByteArray) (n19 : Int) (n20 : Int) (es21 : List (List PC)) (full22 : Bool) (k0 : Int → Prop) (k1 : Unit → Prop) : Int → Prop := LoopP fun x N => f16_p16b0 es14 full15 n16 x s18 n19 n20 es21 full22 (fun n17 => N n17) k0 k1
noncomputable def f16_p15 (s9 : ByteArray) (n10 : Int) (n11 : Int) (es12 : List (List PC)) (full13 : Bool) (k0 : Int → Prop) : Prop := f16_p16 es12 full13 ((es12.length : Nat) : Int) s9 n10 n11 es12 full13 (fun n34 => k0 n34) (fun (_ : Unit) => k0 0) 0
noncomputable def f16_d (s1 : ByteArray) (n2 : Int) (n3 : Int) (es4 : List (List PC)) (full5 : Bool) (k0 : Int → Prop) : Prop := bB (decide (((es4.length : Nat) : Int) > 8)) (k0 7) (f45 s1 (fun b6 => bB (!b6) (k0 4) (f46 es4 full5 (fun b7 => bB b7 (k0 4) (bB (decide (n2 < 0)) (k0 6) (bB (decide (n2 > 255)) (k0 6) (bB (decide (n3 < 0)) (k0 6) (bB (decide (n3 > 7)) (k0 6) (f46_1 es4 full5 (fun b8 => bB b8 (k0 6) (f16_p15 s1 n2 n3 es4 full5 (fun n35 => k0 n35))))))))))))
structure f16 (s1 : ByteArray) (n2 : Int) (n3 : Int) (es4 : List (List PC)) (full5 : Bool) (k0 : Int → Prop) : Prop where
  run : f16_d s1 n2 n3 es4 full5 k0
noncomputable def f16_p16L : Told := fun s K => match s with
  | ⟨tm, hp⟩ => getS [.skip 1, .v (.one (.ptr 0 0 0)), .skip 43, .v (.one (.sl 5)), .v (.one (.int .i64)), .v (.one (.int .i64)), .skip 11] [.box [.str, .int .i64, .int .i64, .sl 5]] tm hp fun (xx : (Unit × (Unit × (Unit × ((List (List PC) × Bool) × (Int × (Int × (Unit × Unit)))))))) (yy : ((ByteArray × (Int × (Int × ((List (List PC) × Bool) × Unit)))) × Unit)) => f16_p16 xx.2.2.2.1.1 xx.2.2.2.1.2 xx.2.2.2.2.1 yy.1.1 yy.1.2.1 yy.1.2.2.1 yy.1.2.2.2.1.1 yy.1.2.2.2.1.2 (fun n0_0 => K .ret ⟨mkS 59 [(2, I n0_0)], []⟩) (fun (_ : Unit) => K (.exit 1) ⟨mkS 59 [], []⟩) xx.2.2.2.2.2.1
noncomputable def f16_p15L : Told := fun s K => match s with
  | ⟨tm, hp⟩ => getS [.skip 1, .v (.one (.ptr 0 0 0)), .skip 57] [.box [.str, .int .i64, .int .i64, .sl 5]] tm hp fun (xx : (Unit × (Unit × (Unit × Unit)))) (yy : ((ByteArray × (Int × (Int × ((List (List PC) × Bool) × Unit)))) × Unit)) => f16_p15 yy.1.1 yy.1.2.1 yy.1.2.2.1 yy.1.2.2.2.1.1 yy.1.2.2.2.1.2 (fun n0_1 => K .ret ⟨mkS 59 [(2, I n0_1)], []⟩)
noncomputable def f16_tab : List (Nat × Told) := [(16, f16_p16L), (15, f16_p15L)]
noncomputable def f16_call : FuncId → List TV → List Entry → (TV → List Entry → Prop) → Prop := addCall 49 f49_G (addCall 46 f46_1_G (addCall 45 f45_G (noCalls)))
noncomputable def f16_C : Ctx := { ty := tyOf tab, glob := glob, byRef := byRef, keep := fun k i => lookN [] (lookN [] ([(16, [(0, [1, 45, 46, 47]), (2, [2]), (4, [])]), (15, [(0, [1]), (1, [2]), (2, [2])])] : List (Nat × List (Nat × List Nat))) k) i, late := lookN [] ([] : List (Nat × List Nat)), nref := lookN [] ([] : List (Nat × List Nat)), nbox := lookN [] ([] : List (Nat × List (Nat × Nat))), take := [], rnil := false, m := 0, fz := true, loops := lookL f16_tab, call := f16_call }
noncomputable def f16_p16_mk (es14 : List (List PC)) (full15 : Bool) (n16 : Int) (s18 : ByteArray) (n19 : Int) (n20 : Int) (es21 : List (List PC)) (full22 : Bool) (x : Int) : St := ⟨mkS 59 [(1, .w (.one (.ptr 0 0 0))), (45, .w (.one (.p (.sl 5 es14 full15)))), (46, I n16), (47, I x)], [.box [.p (pS s18), .p (pI n19), .p (pI n20), .p (.sl 5 es21 full22)]]⟩
set_option maxRecDepth 100000 in
theorem f16_p16e0 (es_12 : List (List PC)) (full_13 : Bool) (n_14 : Int) (n_15 : Int) (s_16 : ByteArray) (n_17 : Int) (n_18 : Int) (es_19 : List (List PC)) (full_20 : Bool) (N : St → Prop) (K : TExit → St → Prop) : (f16_p16b0 es_12 full_13 n_14 n_15 s_16 n_17 n_18 es_19 full_20 (fun z3 => N (f16_p16_mk es_12 full_13 n_14 s_16 n_17 n_18 es_19 full_20 z3)) (fun n0_21 => K .ret ⟨mkS 59 [(2, I n0_21)], []⟩) (fun (_ : Unit) => K (.exit 1) ⟨mkS 59 [], []⟩)) = execT f16_C (nthC (bodies (bodyOf Tryd.f16)) 0) (f16_p16_mk es_12 full_13 n_14 s_16 n_17 n_18 es_19 full_20 n_15) (loopK N (normK f16_C 16) fun e s => K e (normOut f16_C 16 e s)) := by kernel_rfl
set_option maxRecDepth 100000 in
theorem f16_p15e0 (s_22 : ByteArray) (n_23 : Int) (n_24 : Int) (es_25 : List (List PC)) (full_26 : Bool) (K : TExit → St → Prop) : (f16_p15 s_22 n_23 n_24 es_25 full_26 (fun n0_27 => K .ret ⟨mkS 59 [(2, I n0_27)], []⟩)) = execT f16_C (nthC (tails (bodyOf Tryd.f16)) 1) ⟨mkS 59 [(1, .w (.one (.ptr 0 0 0)))], [.box [.p (pS s_22), .p (pI n_23), .p (pI n_24), .p (.sl 5 es_25 full_26)]]⟩ (fun e s => K e (normOut f16_C 15 e s)) := by kernel_rfl
set_option maxHeartbeats 4000000 in
theorem f16_p16_ok : LoopOk f16_C (nthC (bodies (bodyOf Tryd.f16)) 0) := by
  refine LoopOk.of f16_p16L (by kernel_rfl) fun σ K h => ?_
  have hk : loopKey (nthC (bodies (bodyOf Tryd.f16)) 0) = 16 := by kernel_rfl
  rw [hk] at h ⊢
  generalize hs : normK f16_C 16 σ = s at h
  obtain ⟨tm, hp⟩ := s
  unfold f16_p16L at h
  dsimp only at h
  obtain ⟨xx, yy, rfl, rfl, h⟩ := getS_elim h
  refine iter_of (f16_p16_mk xx.2.2.2.1.1 xx.2.2.2.1.2 xx.2.2.2.2.1 yy.1.1 yy.1.2.1 yy.1.2.2.1 yy.1.2.2.2.1.1 yy.1.2.2.2.1.2) (fun x N h => ?_) rounds _ σ (hs.trans (by kernel_rfl)) (LoopP.run h)
  rw [← f16_p16e0 xx.2.2.2.1.1 xx.2.2.2.1.2 xx.2.2.2.2.1 x yy.1.1 yy.1.2.1 yy.1.2.2.1 yy.1.2.2.2.1.1 yy.1.2.2.2.1.2 N K]
  exact h
set_option maxHeartbeats 4000000 in
theorem f16_p15_ok : TailOk f16_C (nthC (tails (bodyOf Tryd.f16)) 1) := by
  refine TailOk.of f16_p15L (by kernel_rfl) fun σ K h => ?_
  have hk : joinKey (nthC (tails (bodyOf Tryd.f16)) 1) = 15 := by kernel_rfl
  rw [hk] at h ⊢
  generalize hs : normK f16_C 15 σ = s at h
  obtain ⟨tm, hp⟩ := s
  unfold f16_p15L at h
  dsimp only at h
  obtain ⟨xx, yy, rfl, rfl, h⟩ := getS_elim h
  have q : normK f16_C 15 σ = (⟨mkS 59 [(1, .w (.one (.ptr 0 0 0)))], [.box [.p (pS yy.1.1), .p (pI yy.1.2.1), .p (pI yy.1.2.2.1), .p (.sl 5 yy.1.2.2.2.1.1 yy.1.2.2.2.1.2)]]⟩ : St) := hs.trans (by kernel_rfl)
  rw [← hs, q, ← f16_p15e0 yy.1.1 yy.1.2.1 yy.1.2.2.1 yy.1.2.2.2.1.1 yy.1.2.2.2.1.2 K]
  exact h
noncomputable def f16_G0 : List TV → List Entry → (TV → List Entry → Prop) → Prop := fun tm hp K => getS [.v (.pagg [.str, .int .i64, .int .i64, .sl 5])] [] tm hp fun (xx : ((ByteArray × (Int × (Int × ((List (List PC) × Bool) × Unit)))) × Unit)) (yy : Unit) => f16 xx.1.1 xx.1.2.1 xx.1.2.2.1 xx.1.2.2.2.1.1 xx.1.2.2.2.1.2 (fun n0_2 => K (I n0_2) [])
set_option maxRecDepth 100000 in
theorem f16_eq (s_28 : ByteArray) (n_29 : Int) (n_30 : Int) (es_31 : List (List PC)) (full_32 : Bool) (K : TV → List Entry → Prop) : (f16_d s_28 n_29 n_30 es_31 full_32 (fun n0_2 => K (I n0_2) [])) = funcT f16_C Tryd.f16 [.w (.pagg [pS s_28, pI n_29, pI n_30, .sl 5 es_31 full_32])] [] K := by kernel_rfl
set_option maxHeartbeats 4000000 in
theorem f16_ok0 : FnOk Tryd.prog glob 16 f16_G0 := by
  refine FnOk.of_text (C := f16_C) tab_ok.ok (Known.add f49_G_ok (Known.add f46_1_G_ok (Known.add f45_G_ok (Known.none)))) follows_ok (fn := Tryd.f16) (by kernel_rfl) (by kernel_rfl) (by kernel_rfl) (fun c hc => ?_) fun tm hp K h => ?_
  · have e : c = bodyOf Tryd.f16 := Option.some.inj (hc.symm.trans (by kernel_rfl))
    subst e
    exact ⟨LoopsOk.of [nthC (bodies (bodyOf Tryd.f16)) 0] (by kernel_rfl) ⟨f16_p16_ok, trivial⟩, TailsOk.of (tab := f16_tab) rfl [nthC (tails (bodyOf Tryd.f16)) 1] (by kernel_rfl) ⟨f16_p15_ok, trivial⟩⟩
  · unfold f16_G0 at h
    obtain ⟨xx, yy, rfl, rfl, h⟩ := getS_elim h
    have e := (f16_eq xx.1.1 xx.1.2.1 xx.1.2.2.1 xx.1.2.2.2.1.1 xx.1.2.2.2.1.2 K).trans (show _ = funcT f16_C Tryd.f16 (mkR _ xx) (mkE _ yy) K by kernel_rfl)
    rw [← e]
    exact h.run
noncomputable abbrev f16_G := f16_G0
theorem f16_G_ok : FnOk Tryd.prog glob 16 f16_G := f16_ok0
end Go.Eng.N
set_option linter.unusedVariables false
set_option maxRecDepth 100000
open Go Go.Eng Go.Proofs
namespace Go.Eng.N
/-! ### f89: plenum/plenumref07.Lower -/
noncomputable def f89_d (n1 : Int) (k0 : Bool → Prop) : Prop := bB (decide (n1 ≥ 97)) (k0 (decide (n1 ≤ 122))) (k0 false)
structure f89 (n1 : Int) (k0 : Bool → Prop) : Prop where
  run : f89_d n1 k0
noncomputable def f89_tab : List (Nat × Told) := []
noncomputable def f89_call : FuncId → List TV → List Entry → (TV → List Entry → Prop) → Prop := noCalls
noncomputable def f89_C : Ctx := { ty := tyOf tab, glob := glob, byRef := byRef, keep := fun k i => lookN [] (lookN [] ([] : List (Nat × List (Nat × List Nat))) k) i, late := lookN [] ([] : List (Nat × List Nat)), nref := lookN [] ([] : List (Nat × List Nat)), nbox := lookN [] ([] : List (Nat × List (Nat × Nat))), take := [], rnil := false, m := 0, fz := true, loops := lookL f89_tab, call := f89_call }
noncomputable def f89_G0 : List TV → List Entry → (TV → List Entry → Prop) → Prop := fun tm hp K => getS [.v (.one (.int .u8))] [] tm hp fun (xx : (Int × Unit)) (yy : Unit) => f89 xx.1 (fun b0_0 => K (B b0_0) [])
set_option maxRecDepth 100000 in
theorem f89_eq (n_1 : Int) (K : TV → List Entry → Prop) : (f89_d n_1 (fun b0_0 => K (B b0_0) [])) = funcT f89_C Tryd.f89 [.w (.one (.p (.c (.int .u8 n_1))))] [] K := by kernel_rfl
set_option maxHeartbeats 4000000 in
theorem f89_ok0 : FnOk Tryd.prog glob 89 f89_G0 := by
  refine FnOk.of_text (C := f89_C) tab_ok.ok (Known.none) follows_ok (fn := Tryd.f89) (by kernel_rfl) (by kernel_rfl) (by kernel_rfl) (fun c hc => ?_) fun tm hp K h => ?_
  · have e : c = bodyOf Tryd.f89 := Option.some.inj (hc.symm.trans (by kernel_rfl))
    subst e
    exact ⟨LoopsOk.of [] (by kernel_rfl) trivial, TailsOk.of (tab := f89_tab) rfl [] (by kernel_rfl) trivial⟩
  · unfold f89_G0 at h
    obtain ⟨xx, yy, rfl, rfl, h⟩ := getS_elim h
    have e := (f89_eq xx.1 K).trans (show _ = funcT f89_C Tryd.f89 (mkR _ xx) (mkE _ yy) K by kernel_rfl)
    rw [← e]
    exact h.run
noncomputable abbrev f89_G := f89_G0
theorem f89_G_ok : FnOk Tryd.prog glob 89 f89_G := f89_ok0
end Go.Eng.N
set_option linter.unusedVariables false
set_option maxRecDepth 100000
open Go Go.Eng Go.Proofs
namespace Go.Eng.N
/-! ### f90: plenum/plenumref07.Digit -/
noncomputable def f90_d (n1 : Int) (k0 : Bool → Prop) : Prop := bB (decide (n1 ≥ 48)) (k0 (decide (n1 ≤ 57))) (k0 false)
structure f90 (n1 : Int) (k0 : Bool → Prop) : Prop where
  run : f90_d n1 k0
noncomputable def f90_tab : List (Nat × Told) := []
noncomputable def f90_call : FuncId → List TV → List Entry → (TV → List Entry → Prop) → Prop := noCalls
noncomputable def f90_C : Ctx := { ty := tyOf tab, glob := glob, byRef := byRef, keep := fun k i => lookN [] (lookN [] ([] : List (Nat × List (Nat × List Nat))) k) i, late := lookN [] ([] : List (Nat × List Nat)), nref := lookN [] ([] : List (Nat × List Nat)), nbox := lookN [] ([] : List (Nat × List (Nat × Nat))), take := [], rnil := false, m := 0, fz := true, loops := lookL f90_tab, call := f90_call }
noncomputable def f90_G0 : List TV → List Entry → (TV → List Entry → Prop) → Prop := fun tm hp K => getS [.v (.one (.int .u8))] [] tm hp fun (xx : (Int × Unit)) (yy : Unit) => f90 xx.1 (fun b0_0 => K (B b0_0) [])
set_option maxRecDepth 100000 in
theorem f90_eq (n_1 : Int) (K : TV → List Entry → Prop) : (f90_d n_1 (fun b0_0 => K (B b0_0) [])) = funcT f90_C Tryd.f90 [.w (.one (.p (.c (.int .u8 n_1))))] [] K := by kernel_rfl
set_option maxHeartbeats 4000000 in
theorem f90_ok0 : FnOk Tryd.prog glob 90 f90_G0 := by
  refine FnOk.of_text (C := f90_C) tab_ok.ok (Known.none) follows_ok (fn := Tryd.f90) (by kernel_rfl) (by kernel_rfl) (by kernel_rfl) (fun c hc => ?_) fun tm hp K h => ?_
  · have e : c = bodyOf Tryd.f90 := Option.some.inj (hc.symm.trans (by kernel_rfl))
    subst e
    exact ⟨LoopsOk.of [] (by kernel_rfl) trivial, TailsOk.of (tab := f90_tab) rfl [] (by kernel_rfl) trivial⟩
  · unfold f90_G0 at h
    obtain ⟨xx, yy, rfl, rfl, h⟩ := getS_elim h
    have e := (f90_eq xx.1 K).trans (show _ = funcT f90_C Tryd.f90 (mkR _ xx) (mkE _ yy) K by kernel_rfl)
    rw [← e]
    exact h.run
noncomputable abbrev f90_G := f90_G0
theorem f90_G_ok : FnOk Tryd.prog glob 90 f90_G := f90_ok0
end Go.Eng.N
set_option linter.unusedVariables false
set_option maxRecDepth 100000
open Go Go.Eng Go.Proofs
namespace Go.Eng.N
/-! ### f50: plenum/plenumref07.Name -/
noncomputable def f50_p8b0 (s4 : ByteArray) (n5 : Int) (N0 : Int → Prop) (k0 : Bool → Prop) (k1 : Unit → Prop) : Prop := bB (decide (n5 < ((s4.size : Nat) : Int))) ((0 ≤ n5 ∧ n5 < ((s4.size : Nat) : Int)) ∧ f89 (byteAt s4 n5) (fun b6 => bB (!b6) ((0 ≤ n5 ∧ n5 < ((s4.size : Nat) : Int)) ∧ f90 (byteAt s4 n5) (fun b7 => bB (!b7) ((0 ≤ n5 ∧ n5 < ((s4.size : Nat) : Int)) ∧ bB ((byteAt s4 n5) != 95) (k0 false) (N0 (w64 (n5 + 1)))) (N0 (w64 (n5 + 1))))) (N0 (w64 (n5 + 1))))) (k1 ())
noncomputable def f50_p8 (s4 : ByteArray) (k0 : Bool → Prop) (k1 : Unit → Prop) : Int → Prop := LoopP fun x N => f50_p8b0 s4 x (fun n5 => N n5) k0 k1
noncomputable def f50_p7 (s3 : ByteArray) (k0 : Bool → Prop) : Prop := f50_p8 s3 (fun b8 => k0 b8) (fun (_ : Unit) => k0 true) 1
noncomputable def f50_d (s1 : ByteArray) (k0 : Bool → Prop) : Prop := bB (decide (((s1.size : Nat) : Int) < 1)) (k0 false) (bB (decide (((s1.size : Nat) : Int) > 24)) (k0 false) ((0 ≤ (0 : Int) ∧ (0 : Int) < ((s1.size : Nat) : Int)) ∧ f89 (byteAt s1 0) (fun b2 => bB (!b2) (k0 false) (f50_p7 s1 (fun b9 => k0 b9)))))
structure f50 (s1 : ByteArray) (k0 : Bool → Prop) : Prop where
  run : f50_d s1 k0
noncomputable def f50_p8L : Told := fun s K => match s with
  | ⟨tm, hp⟩ => getS [.v (.one (.str)), .skip 2, .v (.one (.int .i64)), .skip 38] [] tm hp fun (xx : (ByteArray × (Unit × (Int × (Unit × Unit))))) (yy : Unit) => f50_p8 xx.1 (fun b0_0 => K .ret ⟨mkS 42 [(2, B b0_0)], []⟩) (fun (_ : Unit) => K (.exit 0) ⟨mkS 42 [], []⟩) xx.2.2.1
noncomputable def f50_p7L : Told := fun s K => match s with
  | ⟨tm, hp⟩ => getS [.v (.one (.str)), .skip 41] [] tm hp fun (xx : (ByteArray × (Unit × Unit))) (yy : Unit) => f50_p7 xx.1 (fun b0_1 => K .ret ⟨mkS 42 [(2, B b0_1)], []⟩)
noncomputable def f50_tab : List (Nat × Told) := [(8, f50_p8L), (7, f50_p7L)]
noncomputable def f50_call : FuncId → List TV → List Entry → (TV → List Entry → Prop) → Prop := addCall 90 f90_G (addCall 89 f89_G (noCalls))
noncomputable def f50_C : Ctx := { ty := tyOf tab, glob := glob, byRef := byRef, keep := fun k i => lookN [] (lookN [] ([(8, [(0, [0, 3]), (2, [2]), (3, [])]), (7, [(0, [0]), (1, [2]), (2, [2])])] : List (Nat × List (Nat × List Nat))) k) i, late := lookN [] ([] : List (Nat × List Nat)), nref := lookN [] ([] : List (Nat × List Nat)), nbox := lookN [] ([] : List (Nat × List (Nat × Nat))), take := [], rnil := false, m := 0, fz := true, loops := lookL f50_tab, call := f50_call }
noncomputable def f50_p8_mk (s4 : ByteArray) (x : Int) : St := ⟨mkS 42 [(0, S s4), (3, I x)], []⟩
set_option maxRecDepth 100000 in
theorem f50_p8e0 (s_5 : ByteArray) (n_6 : Int) (N : St → Prop) (K : TExit → St → Prop) : (f50_p8b0 s_5 n_6 (fun z1 => N (f50_p8_mk s_5 z1)) (fun b0_7 => K .ret ⟨mkS 42 [(2, B b0_7)], []⟩) (fun (_ : Unit) => K (.exit 0) ⟨mkS 42 [], []⟩)) = execT f50_C (nthC (bodies (bodyOf Tryd.f50)) 0) (f50_p8_mk s_5 n_6) (loopK N (normK f50_C 8) fun e s => K e (normOut f50_C 8 e s)) := by kernel_rfl
set_option maxRecDepth 100000 in
theorem f50_p7e0 (s_8 : ByteArray) (K : TExit → St → Prop) : (f50_p7 s_8 (fun b0_9 => K .ret ⟨mkS 42 [(2, B b0_9)], []⟩)) = execT f50_C (nthC (tails (bodyOf Tryd.f50)) 1) ⟨mkS 42 [(0, S s_8)], []⟩ (fun e s => K e (normOut f50_C 7 e s)) := by kernel_rfl
set_option maxHeartbeats 4000000 in
theorem f50_p8_ok : LoopOk f50_C (nthC (bodies (bodyOf Tryd.f50)) 0) := by
  refine LoopOk.of f50_p8L (by kernel_rfl) fun σ K h => ?_
  have hk : loopKey (nthC (bodies (bodyOf Tryd.f50)) 0) = 8 := by kernel_rfl
  rw [hk] at h ⊢
  generalize hs : normK f50_C 8 σ = s at h
  obtain ⟨tm, hp⟩ := s
  unfold f50_p8L at h
  dsimp only at h
  obtain ⟨xx, yy, rfl, rfl, h⟩ := getS_elim h
  refine iter_of (f50_p8_mk xx.1) (fun x N h => ?_) rounds _ σ (hs.trans (by kernel_rfl)) (LoopP.run h)
  rw [← f50_p8e0 xx.1 x N K]
  exact h
set_option maxHeartbeats 4000000 in
theorem f50_p7_ok : TailOk f50_C (nthC (tails (bodyOf Tryd.f50)) 1) := by
  refine TailOk.of f50_p7L (by kernel_rfl) fun σ K h => ?_
  have hk : joinKey (nthC (tails (bodyOf Tryd.f50)) 1) = 7 := by kernel_rfl
  rw [hk] at h ⊢
  generalize hs : normK f50_C 7 σ = s at h
  obtain ⟨tm, hp⟩ := s
  unfold f50_p7L at h
  dsimp only at h
  obtain ⟨xx, yy, rfl, rfl, h⟩ := getS_elim h
  have q : normK f50_C 7 σ = (⟨mkS 42 [(0, S xx.1)], []⟩ : St) := hs.trans (by kernel_rfl)
  rw [← hs, q, ← f50_p7e0 xx.1 K]
  exact h
noncomputable def f50_G0 : List TV → List Entry → (TV → List Entry → Prop) → Prop := fun tm hp K => getS [.v (.one (.str))] [] tm hp fun (xx : (ByteArray × Unit)) (yy : Unit) => f50 xx.1 (fun b0_2 => K (B b0_2) [])
set_option maxRecDepth 100000 in
theorem f50_eq (s_10 : ByteArray) (K : TV → List Entry → Prop) : (f50_d s_10 (fun b0_2 => K (B b0_2) [])) = funcT f50_C Tryd.f50 [S s_10] [] K := by kernel_rfl
set_option maxHeartbeats 4000000 in
theorem f50_ok0 : FnOk Tryd.prog glob 50 f50_G0 := by
  refine FnOk.of_text (C := f50_C) tab_ok.ok (Known.add f90_G_ok (Known.add f89_G_ok (Known.none))) follows_ok (fn := Tryd.f50) (by kernel_rfl) (by kernel_rfl) (by kernel_rfl) (fun c hc => ?_) fun tm hp K h => ?_
  · have e : c = bodyOf Tryd.f50 := Option.some.inj (hc.symm.trans (by kernel_rfl))
    subst e
    exact ⟨LoopsOk.of [nthC (bodies (bodyOf Tryd.f50)) 0] (by kernel_rfl) ⟨f50_p8_ok, trivial⟩, TailsOk.of (tab := f50_tab) rfl [nthC (tails (bodyOf Tryd.f50)) 1] (by kernel_rfl) ⟨f50_p7_ok, trivial⟩⟩
  · unfold f50_G0 at h
    obtain ⟨xx, yy, rfl, rfl, h⟩ := getS_elim h
    have e := (f50_eq xx.1 K).trans (show _ = funcT f50_C Tryd.f50 (mkR _ xx) (mkE _ yy) K by kernel_rfl)
    rw [← e]
    exact h.run
noncomputable abbrev f50_G := f50_G0
theorem f50_G_ok : FnOk Tryd.prog glob 50 f50_G := f50_ok0
end Go.Eng.N
set_option linter.unusedVariables false
set_option maxRecDepth 100000
open Go Go.Eng Go.Proofs
namespace Go.Eng.N
/-! ### f17: plenum/plenumref39.Check -/
noncomputable def f17_p12b0 (n7 : Int) (s8 : ByteArray) (n9 : Int) (n10 : Int) (es11 : List (List PC)) (full12 : Bool) (N0 : Int → Prop) (k0 : Int → Prop) (k1 : Unit → Prop) : Prop := bB (decide (n7 < ((es11.length : Nat) : Int))) ((0 ≤ n7 ∧ n7 < ((es11.length : Nat) : Int)) ∧ oS (ext (List.getD es11 (Int.toNat n7) []) 0 1) fun s13 => f50 s13 (fun b14 => bB (!b14) (k0 4) (N0 (w64 (n7 + 1))))) (k1 ())
noncomputable def f17_p12 (s8 : ByteArray) (n9 : Int) (n10 : Int) (es11 : List (List PC)) (full12 : Bool) (k0 : Int → Prop) (k1 : Unit → Prop) : Int → Prop := LoopP fun x N => f17_p12b0 x s8 n9 n10 es11 full12 (fun n7 => N n7) k0 k1
noncomputable def f17_p26b0 (n21 : Int) (s22 : ByteArray) (n23 : Int) (n24 : Int) (es25 : List (List PC)) (full26 : Bool) (N0 : Int → Prop) (k0 : Int → Prop) (k1 : Unit → Prop) : Prop := bB (decide (n21 < ((es25.length : Nat) : Int))) ((0 ≤ n21 ∧ n21 < ((es25.length : Nat) : Int)) ∧ cS (ext (List.getD es25 (Int.toNat n21) []) 0 5) fun s28 r27 => cI .i64 r27 fun n30 r29 => cI .i64 r29 fun n32 r31 => cI .i64 r31 fun n34 r33 => cI .i64 r33 fun n36 r35 => nilC r35 <| bB (decide (n30 < 1)) (k0 6) (bB (decide (n30 > 127)) (k0 6) (bB (decide (n36 < 1)) (k0 6) (bB (decide (n36 > 7)) (k0 6) (bB (decide (n32 < 0)) (k0 6) (bB (decide (n32 > n34)) (k0 6) (bB (decide (n34 ≥ 1440)) (k0 6) (N0 (w64 (n21 + 1)))))))))) (k1 ())
noncomputable def f17_p26 (s22 : ByteArray) (n23 : Int) (n24 : Int) (es25 : List (List PC)) (full26 : Bool) (k0 : Int → Prop) (k1 : Unit → Prop) : Int → Prop := LoopP fun x N => f17_p26b0 x s22 n23 n24 es25 full26 (fun n21 => N n21) k0 k1
noncomputable def f17_p44b0 (n44 : Int) (n45 : Int) (s46 : ByteArray) (n47 : Int) (n48 : Int) (es49 : List (List PC)) (full50 : Bool) (N0 : Int → Prop) (k0 : Int → Prop) (k1 : Unit → Prop) : Prop := bB (decide (n45 < n44)) ((0 ≤ n44 ∧ n44 < ((es49.length : Nat) : Int)) ∧ cS (ext (List.getD es49 (Int.toNat n44) []) 0 5) fun s52 r51 => cI .i64 r51 fun n54 r53 => cI .i64 r53 fun n56 r55 => cI .i64 r55 fun n58 r57 => cI .i64 r57 fun n60 r59 => nilC r59 <| (0 ≤ n45 ∧ n45 < ((es49.length : Nat) : Int)) ∧ cS (ext (List.getD es49 (Int.toNat n45) []) 0 5) fun s62 r61 => cI .i64 r61 fun n64 r63 => cI .i64 r63 fun n66 r65 => cI .i64 r65 fun n68 r67 => cI .i64 r67 fun n70 r69 => nilC r69 <| bB ((s52 == s62) && ((n54 == n64) && ((n56 == n66) && ((n58 == n68) && ((n60 == n70) && true))))) (k0 5) (N0 (w64 (n45 + 1)))) (k1 ())
noncomputable def f17_p44 (n44 : Int) (s46 : ByteArray) (n47 : Int) (n48 : Int) (es49 : List (List PC)) (full50 : Bool) (k0 : Int → Prop) (k1 : Unit → Prop) : Int → Prop := LoopP fun x N => f17_p44b0 n44 x s46 n47 n48 es49 full50 (fun n45 => N n45) k0 k1
noncomputable def f17_p38b0 (n38 : Int) (s39 : ByteArray) (n40 : Int) (n41 : Int) (es42 : List (List PC)) (full43 : Bool) (N0 : Int → Prop) (k0 : Int → Prop) (k1 : Unit → Prop) : Prop := bB (decide (n38 < ((es42.length : Nat) : Int))) (f17_p44 n38 s39 n40 n41 es42 full43 (fun n71 => k0 n71) (fun (_ : Unit) => N0 (w64 (n38 + 1))) 0) (k1 ())
noncomputable def f17_p38 (s39 : ByteArray) (n40 : Int) (n41 : Int) (es42 : List (List PC)) (full43 : Bool) (k0 : Int → Prop) (k1 : Unit → Prop) : Int → Prop := LoopP fun x N => f17_p38b0 x s39 n40 n41 es42 full43 (fun n38 => N n38) k0 k1
noncomputable def f17_p25 (s16 : ByteArray) (n17 : Int) (n18 : Int) (es19 : List (List PC)) (full20 : Bool) (k0 : Int → Prop) : Prop := f17_p26 s16 n17 n18 es19 full20 (fun n37 => k0 n37) (fun (_ : Unit) => f17_p38 s16 n17 n18 es19 full20 (fun n72 => k0 n72) (fun (_ : Unit) => k0 0) 0) 0
noncomputable def f17_d (s1 : ByteArray) (n2 : Int) (n3 : Int) (es4 : List (List PC)) (full5 : Bool) (k0 : Int → Prop) : Prop := bB (decide (((es4.length : Nat) : Int) > 8)) (k0 7) (f50 s1 (fun b6 => bB (!b6) (k0 4) (f17_p12 s1 n2 n3 es4 full5 (fun n15 => k0 n15) (fun (_ : Unit) => bB (decide (n2 < 0)) (k0 6) (bB (decide (n2 > 255)) (k0 6) (bB (decide (n3 < 0)) (k0 6) (bB (decide (n3 > 7)) (k0 6) (f17_p25 s1 n2 n3 es4 full5 (fun n73 => k0 n73)))))) 0)))
structure f17 (s1 : ByteArray) (n2 : Int) (n3 : Int) (es4 : List (List PC)) (full5 : Bool) (k0 : Int → Prop) : Prop where
  run : f17_d s1 n2 n3 es4 full5 k0
noncomputable def f17_p12L : Told := fun s K => match s with
  | ⟨tm, hp⟩ => getS [.skip 1, .v (.one (.ptr 0 0 0)), .skip 1, .v (.one (.int .i64)), .skip 115] [.box [.str, .int .i64, .int .i64, .sl 5]] tm hp fun (xx : (Unit × (Unit × (Unit × (Int × (Unit × Unit)))))) (yy : ((ByteArray × (Int × (Int × ((List (List PC) × Bool) × Unit)))) × Unit)) => f17_p12 yy.1.1 yy.1.2.1 yy.1.2.2.1 yy.1.2.2.2.1.1 yy.1.2.2.2.1.2 (fun n0_0 => K .ret ⟨mkS 119 [(2, I n0_0)], []⟩) (fun (_ : Unit) => K (.exit 0) ⟨mkS 119 [(1, .w (.one (.ptr 0 0 0)))], [.box [.p (pS yy.1.1), .p (pI yy.1.2.1), .p (pI yy.1.2.2.1), .p (.sl 5 yy.1.2.2.2.1.1 yy.1.2.2.2.1.2)]]⟩) xx.2.2.2.1
noncomputable def f17_p26L : Told := fun s K => match s with
  | ⟨tm, hp⟩ => getS [.skip 1, .v (.one (.ptr 0 0 0)), .skip 2, .v (.one (.int .i64)), .skip 114] [.box [.str, .int .i64, .int .i64, .sl 5]] tm hp fun (xx : (Unit × (Unit × (Unit × (Int × (Unit × Unit)))))) (yy : ((ByteArray × (Int × (Int × ((List (List PC) × Bool) × Unit)))) × Unit)) => f17_p26 yy.1.1 yy.1.2.1 yy.1.2.2.1 yy.1.2.2.2.1.1 yy.1.2.2.2.1.2 (fun n0_1 => K .ret ⟨mkS 119 [(2, I n0_1)], []⟩) (fun (_ : Unit) => K (.exit 2) ⟨mkS 119 [(1, .w (.one (.ptr 0 0 0)))], [.box [.p (pS yy.1.1), .p (pI yy.1.2.1), .p (pI yy.1.2.2.1), .p (.sl 5 yy.1.2.2.2.1.1 yy.1.2.2.2.1.2)]]⟩) xx.2.2.2.1
noncomputable def f17_p44L : Told := fun s K => match s with
  | ⟨tm, hp⟩ => getS [.skip 1, .v (.one (.ptr 0 0 0)), .skip 4, .v (.one (.int .i64)), .v (.one (.int .i64)), .skip 111] [.box [.str, .int .i64, .int .i64, .sl 5]] tm hp fun (xx : (Unit × (Unit × (Unit × (Int × (Int × (Unit × Unit))))))) (yy : ((ByteArray × (Int × (Int × ((List (List PC) × Bool) × Unit)))) × Unit)) => f17_p44 xx.2.2.2.1 yy.1.1 yy.1.2.1 yy.1.2.2.1 yy.1.2.2.2.1.1 yy.1.2.2.2.1.2 (fun n0_2 => K .ret ⟨mkS 119 [(2, I n0_2)], []⟩) (fun (_ : Unit) => K (.exit 6) ⟨mkS 119 [(1, .w (.one (.ptr 0 0 0))), (6, I xx.2.2.2.1)], [.box [.p (pS yy.1.1), .p (pI yy.1.2.1), .p (pI yy.1.2.2.1), .p (.sl 5 yy.1.2.2.2.1.1 yy.1.2.2.2.1.2)]]⟩) xx.2.2.2.2.1
noncomputable def f17_p38L : Told := fun s K => match s with
  | ⟨tm, hp⟩ => getS [.skip 1, .v (.one (.ptr 0 0 0)), .skip 4, .v (.one (.int .i64)), .skip 112] [.box [.str, .int .i64, .int .i64, .sl 5]] tm hp fun (xx : (Unit × (Unit × (Unit × (Int × (Unit × Unit)))))) (yy : ((ByteArray × (Int × (Int × ((List (List PC) × Bool) × Unit)))) × Unit)) => f17_p38 yy.1.1 yy.1.2.1 yy.1.2.2.1 yy.1.2.2.2.1.1 yy.1.2.2.2.1.2 (fun n0_3 => K .ret ⟨mkS 119 [(2, I n0_3)], []⟩) (fun (_ : Unit) => K (.exit 4) ⟨mkS 119 [], []⟩) xx.2.2.2.1
noncomputable def f17_p25L : Told := fun s K => match s with
  | ⟨tm, hp⟩ => getS [.skip 1, .v (.one (.ptr 0 0 0)), .skip 117] [.box [.str, .int .i64, .int .i64, .sl 5]] tm hp fun (xx : (Unit × (Unit × (Unit × Unit)))) (yy : ((ByteArray × (Int × (Int × ((List (List PC) × Bool) × Unit)))) × Unit)) => f17_p25 yy.1.1 yy.1.2.1 yy.1.2.2.1 yy.1.2.2.2.1.1 yy.1.2.2.2.1.2 (fun n0_4 => K .ret ⟨mkS 119 [(2, I n0_4)], []⟩)
noncomputable def f17_tab : List (Nat × Told) := [(12, f17_p12L), (26, f17_p26L), (44, f17_p44L), (38, f17_p38L), (25, f17_p25L)]
noncomputable def f17_call : FuncId → List TV → List Entry → (TV → List Entry → Prop) → Prop := addCall 50 f50_G (noCalls)
noncomputable def f17_C : Ctx := { ty := tyOf tab, glob := glob, byRef := byRef, keep := fun k i => lookN [] (lookN [] ([(12, [(0, [1, 3]), (2, [2]), (3, [1])]), (26, [(0, [1, 4]), (2, [2]), (5, [1])]), (44, [(0, [1, 6, 7]), (2, [2]), (7, []), (8, [1, 6]), (9, [1, 6])]), (38, [(0, [1, 6]), (2, [2]), (7, [])]), (25, [(0, [1]), (1, [2]), (2, [2])])] : List (Nat × List (Nat × List Nat))) k) i, late := lookN [] ([] : List (Nat × List Nat)), nref := lookN [] ([] : List (Nat × List Nat)), nbox := lookN [] ([] : List (Nat × List (Nat × Nat))), take := [], rnil := false, m := 0, fz := true, loops := lookL f17_tab, call := f17_call }
noncomputable def f17_p12_mk (s8 : ByteArray) (n9 : Int) (n10 : Int) (es11 : List (List PC)) (full12 : Bool) (x : Int) : St := ⟨mkS 119 [(1, .w (.one (.ptr 0 0 0))), (3, I x)], [.box [.p (pS s8), .p (pI n9), .p (pI n10), .p (.sl 5 es11 full12)]]⟩
set_option maxRecDepth 100000 in
theorem f17_p12e0 (n_12 : Int) (s_13 : ByteArray) (n_14 : Int) (n_15 : Int) (es_16 : List (List PC)) (full_17 : Bool) (N : St → Prop) (K : TExit → St → Prop) : (f17_p12b0 n_12 s_13 n_14 n_15 es_16 full_17 (fun z0 => N (f17_p12_mk s_13 n_14 n_15 es_16 full_17 z0)) (fun n0_18 => K .ret ⟨mkS 119 [(2, I n0_18)], []⟩) (fun (_ : Unit) => K (.exit 0) ⟨mkS 119 [(1, .w (.one (.ptr 0 0 0)))], [.box [.p (pS s_13), .p (pI n_14), .p (pI n_15), .p (.sl 5 es_16 full_17)]]⟩)) = execT f17_C (nthC (bodies (bodyOf Tryd.f17)) 0) (f17_p12_mk s_13 n_14 n_15 es_16 full_17 n_12) (loopK N (normK f17_C 12) fun e s => K e (normOut f17_C 12 e s)) := by kernel_rfl
noncomputable def f17_p26_mk (s22 : ByteArray) (n23 : Int) (n24 : Int) (es25 : List (List PC)) (full26 : Bool) (x : Int) : St := ⟨mkS 119 [(1, .w (.one (.ptr 0 0 0))), (4, I x)], [.box [.p (pS s22), .p (pI n23), .p (pI n24), .p (.sl 5 es25 full26)]]⟩
set_option maxRecDepth 100000 in
theorem f17_p26e0 (n_25 : Int) (s_26 : ByteArray) (n_27 : Int) (n_28 : Int) (es_29 : List (List PC)) (full_30 : Bool) (N : St → Prop) (K : TExit → St → Prop) : (f17_p26b0 n_25 s_26 n_27 n_28 es_29 full_30 (fun z0 => N (f17_p26_mk s_26 n_27 n_28 es_29 full_30 z0)) (fun n0_31 => K .ret ⟨mkS 119 [(2, I n0_31)], []⟩) (fun (_ : Unit) => K (.exit 2) ⟨mkS 119 [(1, .w (.one (.ptr 0 0 0)))], [.box [.p (pS s_26), .p (pI n_27), .p (pI n_28), .p (.sl 5 es_29 full_30)]]⟩)) = execT f17_C (nthC (bodies (bodyOf Tryd.f17)) 1) (f17_p26_mk s_26 n_27 n_28 es_29 full_30 n_25) (loopK N (normK f17_C 26) fun e s => K e (normOut f17_C 26 e s)) := by kernel_rfl
noncomputable def f17_p44_mk (n44 : Int) (s46 : ByteArray) (n47 : Int) (n48 : Int) (es49 : List (List PC)) (full50 : Bool) (x : Int) : St := ⟨mkS 119 [(1, .w (.one (.ptr 0 0 0))), (6, I n44), (7, I x)], [.box [.p (pS s46), .p (pI n47), .p (pI n48), .p (.sl 5 es49 full50)]]⟩
set_option maxRecDepth 100000 in
theorem f17_p44e0 (n_39 : Int) (n_40 : Int) (s_41 : ByteArray) (n_42 : Int) (n_43 : Int) (es_44 : List (List PC)) (full_45 : Bool) (N : St → Prop) (K : TExit → St → Prop) : (f17_p44b0 n_39 n_40 s_41 n_42 n_43 es_44 full_45 (fun z1 => N (f17_p44_mk n_39 s_41 n_42 n_43 es_44 full_45 z1)) (fun n0_46 => K .ret ⟨mkS 119 [(2, I n0_46)], []⟩) (fun (_ : Unit) => K (.exit 6) ⟨mkS 119 [(1, .w (.one (.ptr 0 0 0))), (6, I n_39)], [.box [.p (pS s_41), .p (pI n_42), .p (pI n_43), .p (.sl 5 es_44 full_45)]]⟩)) = execT f17_C (nthC (bodies (bodyOf Tryd.f17)) 3) (f17_p44_mk n_39 s_41 n_42 n_43 es_44 full_45 n_40) (loopK N (normK f17_C 44) fun e s => K e (normOut f17_C 44 e s)) := by kernel_rfl
noncomputable def f17_p38_mk (s39 : ByteArray) (n40 : Int) (n41 : Int) (es42 : List (List PC)) (full43 : Bool) (x : Int) : St := ⟨mkS 119 [(1, .w (.one (.ptr 0 0 0))), (6, I x)], [.box [.p (pS s39), .p (pI n40), .p (pI n41), .p (.sl 5 es42 full43)]]⟩
set_option maxRecDepth 100000 in
theorem f17_p38e0 (n_53 : Int) (s_54 : ByteArray) (n_55 : Int) (n_56 : Int) (es_57 : List (List PC)) (full_58 : Bool) (N : St → Prop) (K : TExit → St → Prop) : (f17_p38b0 n_53 s_54 n_55 n_56 es_57 full_58 (fun z0 => N (f17_p38_mk s_54 n_55 n_56 es_57 full_58 z0)) (fun n0_59 => K .ret ⟨mkS 119 [(2, I n0_59)], []⟩) (fun (_ : Unit) => K (.exit 4) ⟨mkS 119 [], []⟩)) = execT f17_C (nthC (bodies (bodyOf Tryd.f17)) 2) (f17_p38_mk s_54 n_55 n_56 es_57 full_58 n_53) (loopK N (normK f17_C 38) fun e s => K e (normOut f17_C 38 e s)) := by kernel_rfl
set_option maxRecDepth 100000 in
theorem f17_p25e0 (s_60 : ByteArray) (n_61 : Int) (n_62 : Int) (es_63 : List (List PC)) (full_64 : Bool) (K : TExit → St → Prop) : (f17_p25 s_60 n_61 n_62 es_63 full_64 (fun n0_65 => K .ret ⟨mkS 119 [(2, I n0_65)], []⟩)) = execT f17_C (nthC (tails (bodyOf Tryd.f17)) 14) ⟨mkS 119 [(1, .w (.one (.ptr 0 0 0)))], [.box [.p (pS s_60), .p (pI n_61), .p (pI n_62), .p (.sl 5 es_63 full_64)]]⟩ (fun e s => K e (normOut f17_C 25 e s)) := by kernel_rfl
set_option maxHeartbeats 4000000 in
theorem f17_p12_ok : LoopOk f17_C (nthC (bodies (bodyOf Tryd.f17)) 0) := by
  refine LoopOk.of f17_p12L (by kernel_rfl) fun σ K h => ?_
  have hk : loopKey (nthC (bodies (bodyOf Tryd.f17)) 0) = 12 := by kernel_rfl
  rw [hk] at h ⊢
  generalize hs : normK f17_C 12 σ = s at h
  obtain ⟨tm, hp⟩ := s
  unfold f17_p12L at h
  dsimp only at h
  obtain ⟨xx, yy, rfl, rfl, h⟩ := getS_elim h
  refine iter_of (f17_p12_mk yy.1.1 yy.1.2.1 yy.1.2.2.1 yy.1.2.2.2.1.1 yy.1.2.2.2.1.2) (fun x N h => ?_) rounds _ σ (hs.trans (by kernel_rfl)) (LoopP.run h)
  rw [← f17_p12e0 x yy.1.1 yy.1.2.1 yy.1.2.2.1 yy.1.2.2.2.1.1 yy.1.2.2.2.1.2 N K]
  exact h
set_option maxHeartbeats 4000000 in
theorem f17_p26_ok : LoopOk f17_C (nthC (bodies (bodyOf Tryd.f17)) 1) := by
  refine LoopOk.of f17_p26L (by kernel_rfl) fun σ K h => ?_
  have hk : loopKey (nthC (bodies (bodyOf Tryd.f17)) 1) = 26 := by kernel_rfl
  rw [hk] at h ⊢
  generalize hs : normK f17_C 26 σ = s at h
  obtain ⟨tm, hp⟩ := s
  unfold f17_p26L at h
  dsimp only at h
  obtain ⟨xx, yy, rfl, rfl, h⟩ := getS_elim h
  refine iter_of (f17_p26_mk yy.1.1 yy.1.2.1 yy.1.2.2.1 yy.1.2.2.2.1.1 yy.1.2.2.2.1.2) (fun x N h => ?_) rounds _ σ (hs.trans (by kernel_rfl)) (LoopP.run h)
  rw [← f17_p26e0 x yy.1.1 yy.1.2.1 yy.1.2.2.1 yy.1.2.2.2.1.1 yy.1.2.2.2.1.2 N K]
  exact h
set_option maxHeartbeats 4000000 in
theorem f17_p44_ok : LoopOk f17_C (nthC (bodies (bodyOf Tryd.f17)) 3) := by
  refine LoopOk.of f17_p44L (by kernel_rfl) fun σ K h => ?_
  have hk : loopKey (nthC (bodies (bodyOf Tryd.f17)) 3) = 44 := by kernel_rfl
  rw [hk] at h ⊢
  generalize hs : normK f17_C 44 σ = s at h
  obtain ⟨tm, hp⟩ := s
  unfold f17_p44L at h
  dsimp only at h
  obtain ⟨xx, yy, rfl, rfl, h⟩ := getS_elim h
  refine iter_of (f17_p44_mk xx.2.2.2.1 yy.1.1 yy.1.2.1 yy.1.2.2.1 yy.1.2.2.2.1.1 yy.1.2.2.2.1.2) (fun x N h => ?_) rounds _ σ (hs.trans (by kernel_rfl)) (LoopP.run h)
  rw [← f17_p44e0 xx.2.2.2.1 x yy.1.1 yy.1.2.1 yy.1.2.2.1 yy.1.2.2.2.1.1 yy.1.2.2.2.1.2 N K]
  exact h
set_option maxHeartbeats 4000000 in
theorem f17_p38_ok : LoopOk f17_C (nthC (bodies (bodyOf Tryd.f17)) 2) := by
  refine LoopOk.of f17_p38L (by kernel_rfl) fun σ K h => ?_
  have hk : loopKey (nthC (bodies (bodyOf Tryd.f17)) 2) = 38 := by kernel_rfl
  rw [hk] at h ⊢
  generalize hs : normK f17_C 38 σ = s at h
  obtain ⟨tm, hp⟩ := s
  unfold f17_p38L at h
  dsimp only at h
  obtain ⟨xx, yy, rfl, rfl, h⟩ := getS_elim h
  refine iter_of (f17_p38_mk yy.1.1 yy.1.2.1 yy.1.2.2.1 yy.1.2.2.2.1.1 yy.1.2.2.2.1.2) (fun x N h => ?_) rounds _ σ (hs.trans (by kernel_rfl)) (LoopP.run h)
  rw [← f17_p38e0 x yy.1.1 yy.1.2.1 yy.1.2.2.1 yy.1.2.2.2.1.1 yy.1.2.2.2.1.2 N K]
  exact h
set_option maxHeartbeats 4000000 in
theorem f17_p25_ok : TailOk f17_C (nthC (tails (bodyOf Tryd.f17)) 14) := by
  refine TailOk.of f17_p25L (by kernel_rfl) fun σ K h => ?_
  have hk : joinKey (nthC (tails (bodyOf Tryd.f17)) 14) = 25 := by kernel_rfl
  rw [hk] at h ⊢
  generalize hs : normK f17_C 25 σ = s at h
  obtain ⟨tm, hp⟩ := s
  unfold f17_p25L at h
  dsimp only at h
  obtain ⟨xx, yy, rfl, rfl, h⟩ := getS_elim h
  have q : normK f17_C 25 σ = (⟨mkS 119 [(1, .w (.one (.ptr 0 0 0)))], [.box [.p (pS yy.1.1), .p (pI yy.1.2.1), .p (pI yy.1.2.2.1), .p (.sl 5 yy.1.2.2.2.1.1 yy.1.2.2.2.1.2)]]⟩ : St) := hs.trans (by kernel_rfl)
  rw [← hs, q, ← f17_p25e0 yy.1.1 yy.1.2.1 yy.1.2.2.1 yy.1.2.2.2.1.1 yy.1.2.2.2.1.2 K]
  exact h
noncomputable def f17_G0 : List TV → List Entry → (TV → List Entry → Prop) → Prop := fun tm hp K => getS [.v (.pagg [.str, .int .i64, .int .i64, .sl 5])] [] tm hp fun (xx : ((ByteArray × (Int × (Int × ((List (List PC) × Bool) × Unit)))) × Unit)) (yy : Unit) => f17 xx.1.1 xx.1.2.1 xx.1.2.2.1 xx.1.2.2.2.1.1 xx.1.2.2.2.1.2 (fun n0_5 => K (I n0_5) [])
set_option maxRecDepth 100000 in
theorem f17_eq (s_66 : ByteArray) (n_67 : Int) (n_68 : Int) (es_69 : List (List PC)) (full_70 : Bool) (K : TV → List Entry → Prop) : (f17_d s_66 n_67 n_68 es_69 full_70 (fun n0_5 => K (I n0_5) [])) = funcT f17_C Tryd.f17 [.w (.pagg [pS s_66, pI n_67, pI n_68, .sl 5 es_69 full_70])] [] K := by kernel_rfl
set_option maxHeartbeats 4000000 in
theorem f17_ok0 : FnOk Tryd.prog glob 17 f17_G0 := by
  refine FnOk.of_text (C := f17_C) tab_ok.ok (Known.add f50_G_ok (Known.none)) follows_ok (fn := Tryd.f17) (by kernel_rfl) (by kernel_rfl) (by kernel_rfl) (fun c hc => ?_) fun tm hp K h => ?_
  · have e : c = bodyOf Tryd.f17 := Option.some.inj (hc.symm.trans (by kernel_rfl))
    subst e
    exact ⟨LoopsOk.of [nthC (bodies (bodyOf Tryd.f17)) 0, nthC (bodies (bodyOf Tryd.f17)) 1, nthC (bodies (bodyOf Tryd.f17)) 2, nthC (bodies (bodyOf Tryd.f17)) 3] (by kernel_rfl) ⟨f17_p12_ok, f17_p26_ok, f17_p38_ok, f17_p44_ok, trivial⟩, TailsOk.of (tab := f17_tab) rfl [nthC (tails (bodyOf Tryd.f17)) 14] (by kernel_rfl) ⟨f17_p25_ok, trivial⟩⟩
  · unfold f17_G0 at h
    obtain ⟨xx, yy, rfl, rfl, h⟩ := getS_elim h
    have e := (f17_eq xx.1.1 xx.1.2.1 xx.1.2.2.1 xx.1.2.2.2.1.1 xx.1.2.2.2.1.2 K).trans (show _ = funcT f17_C Tryd.f17 (mkR _ xx) (mkE _ yy) K by kernel_rfl)
    rw [← e]
    exact h.run
noncomputable abbrev f17_G := f17_G0
theorem f17_G_ok : FnOk Tryd.prog glob 17 f17_G := f17_ok0
end Go.Eng.N
set_option linter.unusedVariables false
set_option maxRecDepth 100000
open Go Go.Eng Go.Proofs
namespace Go.Eng.N
/-! ### f57: plenum/notify.state -/
noncomputable def f57_d (n1 : Int) (k0 : Bool → Prop) : Prop := bB (decide (n1 ≥ 0)) (k0 (decide (n1 ≤ 4))) (k0 false)
structure f57 (n1 : Int) (k0 : Bool → Prop) : Prop where
  run : f57_d n1 k0
noncomputable def f57_tab : List (Nat × Told) := []
noncomputable def f57_call : FuncId → List TV → List Entry → (TV → List Entry → Prop) → Prop := noCalls
noncomputable def f57_C : Ctx := { ty := tyOf tab, glob := glob, byRef := byRef, keep := fun k i => lookN [] (lookN [] ([] : List (Nat × List (Nat × List Nat))) k) i, late := lookN [] ([] : List (Nat × List Nat)), nref := lookN [] ([] : List (Nat × List Nat)), nbox := lookN [] ([] : List (Nat × List (Nat × Nat))), take := [], rnil := false, m := 0, fz := true, loops := lookL f57_tab, call := f57_call }
noncomputable def f57_G0 : List TV → List Entry → (TV → List Entry → Prop) → Prop := fun tm hp K => getS [.v (.one (.int .i64))] [] tm hp fun (xx : (Int × Unit)) (yy : Unit) => f57 xx.1 (fun b0_0 => K (B b0_0) [])
set_option maxRecDepth 100000 in
theorem f57_eq (n_1 : Int) (K : TV → List Entry → Prop) : (f57_d n_1 (fun b0_0 => K (B b0_0) [])) = funcT f57_C Tryd.f57 [I n_1] [] K := by kernel_rfl
set_option maxHeartbeats 4000000 in
theorem f57_ok0 : FnOk Tryd.prog glob 57 f57_G0 := by
  refine FnOk.of_text (C := f57_C) tab_ok.ok (Known.none) follows_ok (fn := Tryd.f57) (by kernel_rfl) (by kernel_rfl) (by kernel_rfl) (fun c hc => ?_) fun tm hp K h => ?_
  · have e : c = bodyOf Tryd.f57 := Option.some.inj (hc.symm.trans (by kernel_rfl))
    subst e
    exact ⟨LoopsOk.of [] (by kernel_rfl) trivial, TailsOk.of (tab := f57_tab) rfl [] (by kernel_rfl) trivial⟩
  · unfold f57_G0 at h
    obtain ⟨xx, yy, rfl, rfl, h⟩ := getS_elim h
    have e := (f57_eq xx.1 K).trans (show _ = funcT f57_C Tryd.f57 (mkR _ xx) (mkE _ yy) K by kernel_rfl)
    rw [← e]
    exact h.run
noncomputable abbrev f57_G := f57_G0
theorem f57_G_ok : FnOk Tryd.prog glob 57 f57_G := f57_ok0
end Go.Eng.N
set_option linter.unusedVariables false
set_option maxRecDepth 100000
open Go Go.Eng Go.Proofs
namespace Go.Eng.N
/-! ### f51: plenum/notify.timed -/
noncomputable def f51_d (n1 : Int) (n2 : Int) (k0 : Int → Prop) : Prop := bB (decide (n1 < 0)) (k0 6) (bB (decide (n1 > 6311433599)) (k0 6) (f57 n2 (fun b3 => bB (!b3) (k0 6) (k0 0))))
structure f51 (n1 : Int) (n2 : Int) (k0 : Int → Prop) : Prop where
  run : f51_d n1 n2 k0
noncomputable def f51_tab : List (Nat × Told) := []
noncomputable def f51_call : FuncId → List TV → List Entry → (TV → List Entry → Prop) → Prop := addCall 57 f57_G (noCalls)
noncomputable def f51_C : Ctx := { ty := tyOf tab, glob := glob, byRef := byRef, keep := fun k i => lookN [] (lookN [] ([] : List (Nat × List (Nat × List Nat))) k) i, late := lookN [] ([] : List (Nat × List Nat)), nref := lookN [] ([] : List (Nat × List Nat)), nbox := lookN [] ([] : List (Nat × List (Nat × Nat))), take := [], rnil := false, m := 0, fz := true, loops := lookL f51_tab, call := f51_call }
noncomputable def f51_G0 : List TV → List Entry → (TV → List Entry → Prop) → Prop := fun tm hp K => getS [.v (.one (.int .i64)), .v (.one (.int .i64))] [] tm hp fun (xx : (Int × (Int × Unit))) (yy : Unit) => f51 xx.1 xx.2.1 (fun n0_0 => K (I n0_0) [])
set_option maxRecDepth 100000 in
theorem f51_eq (n_1 : Int) (n_2 : Int) (K : TV → List Entry → Prop) : (f51_d n_1 n_2 (fun n0_0 => K (I n0_0) [])) = funcT f51_C Tryd.f51 [I n_1, I n_2] [] K := by kernel_rfl
set_option maxHeartbeats 4000000 in
theorem f51_ok0 : FnOk Tryd.prog glob 51 f51_G0 := by
  refine FnOk.of_text (C := f51_C) tab_ok.ok (Known.add f57_G_ok (Known.none)) follows_ok (fn := Tryd.f51) (by kernel_rfl) (by kernel_rfl) (by kernel_rfl) (fun c hc => ?_) fun tm hp K h => ?_
  · have e : c = bodyOf Tryd.f51 := Option.some.inj (hc.symm.trans (by kernel_rfl))
    subst e
    exact ⟨LoopsOk.of [] (by kernel_rfl) trivial, TailsOk.of (tab := f51_tab) rfl [] (by kernel_rfl) trivial⟩
  · unfold f51_G0 at h
    obtain ⟨xx, yy, rfl, rfl, h⟩ := getS_elim h
    have e := (f51_eq xx.1 xx.2.1 K).trans (show _ = funcT f51_C Tryd.f51 (mkR _ xx) (mkE _ yy) K by kernel_rfl)
    rw [← e]
    exact h.run
noncomputable abbrev f51_G := f51_G0
theorem f51_G_ok : FnOk Tryd.prog glob 51 f51_G := f51_ok0
end Go.Eng.N
set_option linter.unusedVariables false
set_option maxRecDepth 100000
open Go Go.Eng Go.Proofs
namespace Go.Eng.N
/-! ### f59: plenum/notify.kind -/
noncomputable def f59_d (n1 : Int) (k0 : Int → Prop) : Prop := bB (n1 == 0) (k0 4) (bB (n1 == 4) (k0 2) (k0 1))
structure f59 (n1 : Int) (k0 : Int → Prop) : Prop where
  run : f59_d n1 k0
noncomputable def f59_tab : List (Nat × Told) := []
noncomputable def f59_call : FuncId → List TV → List Entry → (TV → List Entry → Prop) → Prop := noCalls
noncomputable def f59_C : Ctx := { ty := tyOf tab, glob := glob, byRef := byRef, keep := fun k i => lookN [] (lookN [] ([] : List (Nat × List (Nat × List Nat))) k) i, late := lookN [] ([] : List (Nat × List Nat)), nref := lookN [] ([] : List (Nat × List Nat)), nbox := lookN [] ([] : List (Nat × List (Nat × Nat))), take := [], rnil := false, m := 0, fz := true, loops := lookL f59_tab, call := f59_call }
noncomputable def f59_G0 : List TV → List Entry → (TV → List Entry → Prop) → Prop := fun tm hp K => getS [.v (.one (.int .i64))] [] tm hp fun (xx : (Int × Unit)) (yy : Unit) => f59 xx.1 (fun n0_0 => K (I n0_0) [])
set_option maxRecDepth 100000 in
theorem f59_eq (n_1 : Int) (K : TV → List Entry → Prop) : (f59_d n_1 (fun n0_0 => K (I n0_0) [])) = funcT f59_C Tryd.f59 [I n_1] [] K := by kernel_rfl
set_option maxHeartbeats 4000000 in
theorem f59_ok0 : FnOk Tryd.prog glob 59 f59_G0 := by
  refine FnOk.of_text (C := f59_C) tab_ok.ok (Known.none) follows_ok (fn := Tryd.f59) (by kernel_rfl) (by kernel_rfl) (by kernel_rfl) (fun c hc => ?_) fun tm hp K h => ?_
  · have e : c = bodyOf Tryd.f59 := Option.some.inj (hc.symm.trans (by kernel_rfl))
    subst e
    exact ⟨LoopsOk.of [] (by kernel_rfl) trivial, TailsOk.of (tab := f59_tab) rfl [] (by kernel_rfl) trivial⟩
  · unfold f59_G0 at h
    obtain ⟨xx, yy, rfl, rfl, h⟩ := getS_elim h
    have e := (f59_eq xx.1 K).trans (show _ = funcT f59_C Tryd.f59 (mkR _ xx) (mkE _ yy) K by kernel_rfl)
    rw [← e]
    exact h.run
noncomputable abbrev f59_G := f59_G0
theorem f59_G_ok : FnOk Tryd.prog glob 59 f59_G := f59_ok0
end Go.Eng.N
set_option linter.unusedVariables false
set_option maxRecDepth 100000
open Go Go.Eng Go.Proofs
namespace Go.Eng.N
/-! ### f91: plenum/notify.tells -/
noncomputable def f91_d (s1 : ByteArray) (n2 : Int) (n3 : Int) (n4 : Int) (n5 : Int) (n6 : Int) (n7 : Int) (n8 : Int) (k0 : Bool → Prop) : Prop := 0 ≤ (w64 (n6 - 1)) ∧ bB ((IntKind.wrap .i64 (BitVec.toNat (BitVec.ofInt 64 (Int.fdiv n2 (2 ^ (min (Int.toNat (w64 (n6 - 1))) 64))) &&& BitVec.ofInt 64 1))) == 1) (bB (decide (n7 ≥ n3)) (bB (decide (n7 ≤ n4)) (k0 ((IntKind.wrap .i64 (BitVec.toNat (BitVec.ofInt 64 n5 &&& BitVec.ofInt 64 n8))) != 0)) (k0 false)) (k0 false)) (k0 false)
structure f91 (s1 : ByteArray) (n2 : Int) (n3 : Int) (n4 : Int) (n5 : Int) (n6 : Int) (n7 : Int) (n8 : Int) (k0 : Bool → Prop) : Prop where
  run : f91_d s1 n2 n3 n4 n5 n6 n7 n8 k0
noncomputable def f91_tab : List (Nat × Told) := []
noncomputable def f91_call : FuncId → List TV → List Entry → (TV → List Entry → Prop) → Prop := noCalls
noncomputable def f91_C : Ctx := { ty := tyOf tab, glob := glob, byRef := byRef, keep := fun k i => lookN [] (lookN [] ([] : List (Nat × List (Nat × List Nat))) k) i, late := lookN [] ([] : List (Nat × List Nat)), nref := lookN [] ([] : List (Nat × List Nat)), nbox := lookN [] ([] : List (Nat × List (Nat × Nat))), take := [], rnil := false, m := 0, fz := true, loops := lookL f91_tab, call := f91_call }
noncomputable def f91_G0 : List TV → List Entry → (TV → List Entry → Prop) → Prop := fun tm hp K => getS [.v (.pagg [.str, .int .i64, .int .i64, .int .i64, .int .i64]), .v (.one (.int .i64)), .v (.one (.int .i64)), .v (.one (.int .i64))] [] tm hp fun (xx : ((ByteArray × (Int × (Int × (Int × (Int × Unit))))) × (Int × (Int × (Int × Unit))))) (yy : Unit) => f91 xx.1.1 xx.1.2.1 xx.1.2.2.1 xx.1.2.2.2.1 xx.1.2.2.2.2.1 xx.2.1 xx.2.2.1 xx.2.2.2.1 (fun b0_0 => K (B b0_0) [])
set_option maxRecDepth 100000 in
theorem f91_eq (s_1 : ByteArray) (n_2 : Int) (n_3 : Int) (n_4 : Int) (n_5 : Int) (n_6 : Int) (n_7 : Int) (n_8 : Int) (K : TV → List Entry → Prop) : (f91_d s_1 n_2 n_3 n_4 n_5 n_6 n_7 n_8 (fun b0_0 => K (B b0_0) [])) = funcT f91_C Tryd.f91 [.w (.pagg [pS s_1, pI n_2, pI n_3, pI n_4, pI n_5]), I n_6, I n_7, I n_8] [] K := by kernel_rfl
set_option maxHeartbeats 4000000 in
theorem f91_ok0 : FnOk Tryd.prog glob 91 f91_G0 := by
  refine FnOk.of_text (C := f91_C) tab_ok.ok (Known.none) follows_ok (fn := Tryd.f91) (by kernel_rfl) (by kernel_rfl) (by kernel_rfl) (fun c hc => ?_) fun tm hp K h => ?_
  · have e : c = bodyOf Tryd.f91 := Option.some.inj (hc.symm.trans (by kernel_rfl))
    subst e
    exact ⟨LoopsOk.of [] (by kernel_rfl) trivial, TailsOk.of (tab := f91_tab) rfl [] (by kernel_rfl) trivial⟩
  · unfold f91_G0 at h
    obtain ⟨xx, yy, rfl, rfl, h⟩ := getS_elim h
    have e := (f91_eq xx.1.1 xx.1.2.1 xx.1.2.2.1 xx.1.2.2.2.1 xx.1.2.2.2.2.1 xx.2.1 xx.2.2.1 xx.2.2.2.1 K).trans (show _ = funcT f91_C Tryd.f91 (mkR _ xx) (mkE _ yy) K by kernel_rfl)
    rw [← e]
    exact h.run
noncomputable abbrev f91_G := f91_G0
theorem f91_G_ok : FnOk Tryd.prog glob 91 f91_G := f91_ok0
end Go.Eng.N
set_option linter.unusedVariables false
set_option maxRecDepth 100000
open Go Go.Eng Go.Proofs
namespace Go.Eng.N
/-! ### f97: slices.Index(()string,string) -/
noncomputable def f97_p4b0 (es4 : List (List PC)) (full5 : Bool) (s6 : ByteArray) (n7 : Int) (n8 : Int) (N0 : Int → Prop) (k0 : Int → Prop) (k1 : Unit → Prop) : Prop := bB (decide (n8 < n7)) ((0 ≤ n8 ∧ n8 < ((es4.length : Nat) : Int)) ∧ oS (ext (List.getD es4 (Int.toNat n8) []) 0 1) fun s9 => bB (s6.toList == s9.toList) (k0 n8) (N0 (w64 (n8 + 1)))) (k1 ())
noncomputable def f97_p4 (es4 : List (List PC)) (full5 : Bool) (s6 : ByteArray) (n7 : Int) (k0 : Int → Prop) (k1 : Unit → Prop) : Int → Prop := LoopP fun x N => f97_p4b0 es4 full5 s6 n7 x (fun n8 => N n8) k0 k1
noncomputable def f97_d (es1 : List (List PC)) (full2 : Bool) (s3 : ByteArray) (k0 : Int → Prop) : Prop := f97_p4 es1 full2 s3 ((es1.length : Nat) : Int) (fun n10 => k0 n10) (fun (_ : Unit) => k0 (-1)) 0
structure f97 (es1 : List (List PC)) (full2 : Bool) (s3 : ByteArray) (k0 : Int → Prop) : Prop where
  run : f97_d es1 full2 s3 k0
noncomputable def f97_p4L : Told := fun s K => match s with
  | ⟨tm, hp⟩ => getS [.v (.one (.sl 1)), .v (.one (.str)), .skip 5, .v (.one (.int .i64)), .v (.one (.int .i64)), .skip 10] [] tm hp fun (xx : ((List (List PC) × Bool) × (ByteArray × (Unit × (Int × (Int × (Unit × Unit))))))) (yy : Unit) => f97_p4 xx.1.1 xx.1.2 xx.2.1 xx.2.2.2.1 (fun n0_0 => K .ret ⟨mkS 19 [(4, I n0_0)], []⟩) (fun (_ : Unit) => K (.exit 0) ⟨mkS 19 [], []⟩) xx.2.2.2.2.1
noncomputable def f97_tab : List (Nat × Told) := [(4, f97_p4L)]
noncomputable def f97_call : FuncId → List TV → List Entry → (TV → List Entry → Prop) → Prop := noCalls
noncomputable def f97_C : Ctx := { ty := tyOf tab, glob := glob, byRef := byRef, keep := fun k i => lookN [] (lookN [] ([(4, [(0, [0, 1, 7, 8]), (2, [4]), (3, [])])] : List (Nat × List (Nat × List Nat))) k) i, late := lookN [] ([] : List (Nat × List Nat)), nref := lookN [] ([] : List (Nat × List Nat)), nbox := lookN [] ([] : List (Nat × List (Nat × Nat))), take := [], rnil := false, m := 0, fz := true, loops := lookL f97_tab, call := f97_call }
noncomputable def f97_p4_mk (es4 : List (List PC)) (full5 : Bool) (s6 : ByteArray) (n7 : Int) (x : Int) : St := ⟨mkS 19 [(0, .w (.one (.p (.sl 1 es4 full5)))), (1, S s6), (7, I n7), (8, I x)], []⟩
set_option maxRecDepth 100000 in
theorem f97_p4e0 (es_7 : List (List PC)) (full_8 : Bool) (s_9 : ByteArray) (n_10 : Int) (n_11 : Int) (N : St → Prop) (K : TExit → St → Prop) : (f97_p4b0 es_7 full_8 s_9 n_10 n_11 (fun z4 => N (f97_p4_mk es_7 full_8 s_9 n_10 z4)) (fun n0_12 => K .ret ⟨mkS 19 [(4, I n0_12)], []⟩) (fun (_ : Unit) => K (.exit 0) ⟨mkS 19 [], []⟩)) = execT f97_C (nthC (bodies (bodyOf Tryd.f97)) 0) (f97_p4_mk es_7 full_8 s_9 n_10 n_11) (loopK N (normK f97_C 4) fun e s => K e (normOut f97_C 4 e s)) := by kernel_rfl
set_option maxHeartbeats 4000000 in
theorem f97_p4_ok : LoopOk f97_C (nthC (bodies (bodyOf Tryd.f97)) 0) := by
  refine LoopOk.of f97_p4L (by kernel_rfl) fun σ K h => ?_
  have hk : loopKey (nthC (bodies (bodyOf Tryd.f97)) 0) = 4 := by kernel_rfl
  rw [hk] at h ⊢
  generalize hs : normK f97_C 4 σ = s at h
  obtain ⟨tm, hp⟩ := s
  unfold f97_p4L at h
  dsimp only at h
  obtain ⟨xx, yy, rfl, rfl, h⟩ := getS_elim h
  refine iter_of (f97_p4_mk xx.1.1 xx.1.2 xx.2.1 xx.2.2.2.1) (fun x N h => ?_) rounds _ σ (hs.trans (by kernel_rfl)) (LoopP.run h)
  rw [← f97_p4e0 xx.1.1 xx.1.2 xx.2.1 xx.2.2.2.1 x N K]
  exact h
noncomputable def f97_G0 : List TV → List Entry → (TV → List Entry → Prop) → Prop := fun tm hp K => getS [.v (.one (.sl 1)), .v (.one (.str))] [] tm hp fun (xx : ((List (List PC) × Bool) × (ByteArray × Unit))) (yy : Unit) => f97 xx.1.1 xx.1.2 xx.2.1 (fun n0_1 => K (I n0_1) [])
set_option maxRecDepth 100000 in
theorem f97_eq (es_13 : List (List PC)) (full_14 : Bool) (s_15 : ByteArray) (K : TV → List Entry → Prop) : (f97_d es_13 full_14 s_15 (fun n0_1 => K (I n0_1) [])) = funcT f97_C Tryd.f97 [.w (.one (.p (.sl 1 es_13 full_14))), S s_15] [] K := by kernel_rfl
set_option maxHeartbeats 4000000 in
theorem f97_ok0 : FnOk Tryd.prog glob 97 f97_G0 := by
  refine FnOk.of_text (C := f97_C) tab_ok.ok (Known.none) follows_ok (fn := Tryd.f97) (by kernel_rfl) (by kernel_rfl) (by kernel_rfl) (fun c hc => ?_) fun tm hp K h => ?_
  · have e : c = bodyOf Tryd.f97 := Option.some.inj (hc.symm.trans (by kernel_rfl))
    subst e
    exact ⟨LoopsOk.of [nthC (bodies (bodyOf Tryd.f97)) 0] (by kernel_rfl) ⟨f97_p4_ok, trivial⟩, TailsOk.of (tab := f97_tab) rfl [] (by kernel_rfl) trivial⟩
  · unfold f97_G0 at h
    obtain ⟨xx, yy, rfl, rfl, h⟩ := getS_elim h
    have e := (f97_eq xx.1.1 xx.1.2 xx.2.1 K).trans (show _ = funcT f97_C Tryd.f97 (mkR _ xx) (mkE _ yy) K by kernel_rfl)
    rw [← e]
    exact h.run
noncomputable abbrev f97_G := f97_G0
theorem f97_G_ok : FnOk Tryd.prog glob 97 f97_G := f97_ok0
end Go.Eng.N
set_option linter.unusedVariables false
set_option maxRecDepth 100000
open Go Go.Eng Go.Proofs
namespace Go.Eng.N
/-! ### f92: slices.Contains(()string,string) -/
noncomputable def f92_d (es1 : List (List PC)) (full2 : Bool) (s3 : ByteArray) (k0 : Bool → Prop) : Prop := f97 es1 full2 s3 (fun n4 => k0 (decide (n4 ≥ 0)))
structure f92 (es1 : List (List PC)) (full2 : Bool) (s3 : ByteArray) (k0 : Bool → Prop) : Prop where
  run : f92_d es1 full2 s3 k0
noncomputable def f92_tab : List (Nat × Told) := []
noncomputable def f92_call : FuncId → List TV → List Entry → (TV → List Entry → Prop) → Prop := addCall 97 f97_G (noCalls)
noncomputable def f92_C : Ctx := { ty := tyOf tab, glob := glob, byRef := byRef, keep := fun k i => lookN [] (lookN [] ([] : List (Nat × List (Nat × List Nat))) k) i, late := lookN [] ([] : List (Nat × List Nat)), nref := lookN [] ([] : List (Nat × List Nat)), nbox := lookN [] ([] : List (Nat × List (Nat × Nat))), take := [], rnil := false, m := 0, fz := true, loops := lookL f92_tab, call := f92_call }
noncomputable def f92_G0 : List TV → List Entry → (TV → List Entry → Prop) → Prop := fun tm hp K => getS [.v (.one (.sl 1)), .v (.one (.str))] [] tm hp fun (xx : ((List (List PC) × Bool) × (ByteArray × Unit))) (yy : Unit) => f92 xx.1.1 xx.1.2 xx.2.1 (fun b0_0 => K (B b0_0) [])
set_option maxRecDepth 100000 in
theorem f92_eq (es_1 : List (List PC)) (full_2 : Bool) (s_3 : ByteArray) (K : TV → List Entry → Prop) : (f92_d es_1 full_2 s_3 (fun b0_0 => K (B b0_0) [])) = funcT f92_C Tryd.f92 [.w (.one (.p (.sl 1 es_1 full_2))), S s_3] [] K := by kernel_rfl
set_option maxHeartbeats 4000000 in
theorem f92_ok0 : FnOk Tryd.prog glob 92 f92_G0 := by
  refine FnOk.of_text (C := f92_C) tab_ok.ok (Known.add f97_G_ok (Known.none)) follows_ok (fn := Tryd.f92) (by kernel_rfl) (by kernel_rfl) (by kernel_rfl) (fun c hc => ?_) fun tm hp K h => ?_
  · have e : c = bodyOf Tryd.f92 := Option.some.inj (hc.symm.trans (by kernel_rfl))
    subst e
    exact ⟨LoopsOk.of [] (by kernel_rfl) trivial, TailsOk.of (tab := f92_tab) rfl [] (by kernel_rfl) trivial⟩
  · unfold f92_G0 at h
    obtain ⟨xx, yy, rfl, rfl, h⟩ := getS_elim h
    have e := (f92_eq xx.1.1 xx.1.2 xx.2.1 K).trans (show _ = funcT f92_C Tryd.f92 (mkR _ xx) (mkE _ yy) K by kernel_rfl)
    rw [← e]
    exact h.run
noncomputable abbrev f92_G := f92_G0
theorem f92_G_ok : FnOk Tryd.prog glob 92 f92_G := f92_ok0
end Go.Eng.N
set_option linter.unusedVariables false
set_option maxRecDepth 100000
open Go Go.Eng Go.Proofs
namespace Go.Eng.N
/-! ### f52: plenum/notify.told -/
noncomputable def f52_p10b0 (n8 : Int) (n9 : Int) (n10 : Int) (i11 : Nat) (n12 : Nat) (es13 : List (List PC)) (full14 : Bool) (n15 : Int) (n16 : Int) (es17 : List (List PC)) (N0 : Nat → Nat → Int → (List (List PC)) → Prop) (k0 : Nat → Nat → (List (List PC)) → Prop) : Prop := bB (decide (n16 < n15)) ((0 ≤ n16 ∧ n16 < ((es13.length : Nat) : Int)) ∧ cS (ext (List.getD es13 (Int.toNat n16) []) 0 5) fun s19 r18 => cI .i64 r18 fun n21 r20 => cI .i64 r20 fun n23 r22 => cI .i64 r22 fun n25 r24 => cI .i64 r24 fun n27 r26 => nilC r26 <| f59 n8 (fun n28 => f91 s19 n21 n23 n25 n27 n9 n10 n28 (fun b29 => bB b29 (f92 (List.take n12 (List.drop i11 es17)) false s19 (fun b30 => bB (!b30) ((i11 + n12) = es17.length ∧ (n12 + 1) * 16 ≤ 2 ^ 46 ∧ (n12 + 1) ≤ 2 ^ 46 ∧ N0 0 (n12 + 1) (w64 (n16 + 1)) (List.drop i11 es17 ++ [[pS s19]])) (N0 i11 n12 (w64 (n16 + 1)) es17))) (N0 i11 n12 (w64 (n16 + 1)) es17)))) (k0 i11 n12 es17)
noncomputable def f52_p10 (n8 : Int) (n9 : Int) (n10 : Int) (es13 : List (List PC)) (full14 : Bool) (n15 : Int) (k0 : Nat → Nat → (List (List PC)) → Prop) : Nat × Nat × Int × (List (List PC)) → Prop := LoopP fun x N => f52_p10b0 n8 n9 n10 x.1 x.2.1 es13 full14 n15 x.2.2.1 x.2.2.2 (fun i11 n12 n16 es17 => N (i11, n12, n16, es17)) k0
noncomputable def f52_d (s1 : ByteArray) (n2 : Int) (n3 : Int) (es4 : List (List PC)) (full5 : Bool) (n6 : Int) (n7 : Int) (k0 : (List (List PC)) → Bool → Prop) : Prop := (86400 : Int) ≠ 0 ∧ (7 : Int) ≠ 0 ∧ (86400 : Int) ≠ 0 ∧ (60 : Int) ≠ 0 ∧ f52_p10 n7 (w64 ((Int.tmod (w64 ((w64 (Int.tdiv n6 86400)) + 5)) 7) + 1)) (w64 (Int.tdiv (Int.tmod n6 86400) 60)) es4 full5 ((es4.length : Nat) : Int) (fun i31 n32 es33 => k0 (List.take n32 (List.drop i31 es33)) false) (0, 0, 0, [])
structure f52 (s1 : ByteArray) (n2 : Int) (n3 : Int) (es4 : List (List PC)) (full5 : Bool) (n6 : Int) (n7 : Int) (k0 : (List (List PC)) → Bool → Prop) : Prop where
  run : f52_d s1 n2 n3 es4 full5 n6 n7 k0
noncomputable def f52_p10L : Told := fun s K => match s with
  | ⟨tm, hp⟩ => getS [.skip 2, .v (.one (.int .i64)), .skip 4, .v (.one (.int .i64)), .v (.one (.int .i64)), .v (.one (.ref 0)), .skip 11, .v (.one (.sl 5)), .v (.one (.int .i64)), .v (.one (.int .i64)), .skip 23] [.vec 1 true] tm hp fun (xx : (Unit × (Int × (Unit × (Int × (Int × ((Nat × Nat) × (Unit × ((List (List PC) × Bool) × (Int × (Int × (Unit × Unit)))))))))))) (yy : ((List (List PC)) × Unit)) => f52_p10 xx.2.1 xx.2.2.2.1 xx.2.2.2.2.1 xx.2.2.2.2.2.2.2.1.1 xx.2.2.2.2.2.2.2.1.2 xx.2.2.2.2.2.2.2.2.1 (fun i0_0 n0_1 es0_2 => K (.exit 0) ⟨mkS 47 [(9, .w (.one (.ref 0 i0_0 n0_1)))], [.vec 1 es0_2 true]⟩) (xx.2.2.2.2.2.1.1, xx.2.2.2.2.2.1.2, xx.2.2.2.2.2.2.2.2.2.1, yy.1)
noncomputable def f52_tab : List (Nat × Told) := [(10, f52_p10L)]
noncomputable def f52_call : FuncId → List TV → List Entry → (TV → List Entry → Prop) → Prop := addCall 92 f92_G (addCall 91 f91_G (addCall 59 f59_G (noCalls)))
noncomputable def f52_C : Ctx := { ty := tyOf tab, glob := glob, byRef := byRef, keep := fun k i => lookN [] (lookN [] ([(10, [(0, [2, 7, 8, 9, 21, 22, 23]), (2, [6]), (3, [9])])] : List (Nat × List (Nat × List Nat))) k) i, late := lookN [] ([] : List (Nat × List Nat)), nref := lookN [] ([(10, [9])] : List (Nat × List Nat)), nbox := lookN [] ([] : List (Nat × List (Nat × Nat))), take := [], rnil := false, m := 0, fz := true, loops := lookL f52_tab, call := f52_call }
noncomputable def f52_p10_mk (n8 : Int) (n9 : Int) (n10 : Int) (es13 : List (List PC)) (full14 : Bool) (n15 : Int) (x : Nat × Nat × Int × (List (List PC))) : St := ⟨mkS 47 [(2, I n8), (7, I n9), (8, I n10), (9, .w (.one (.ref 0 x.1 x.2.1))), (21, .w (.one (.p (.sl 5 es13 full14)))), (22, I n15), (23, I x.2.2.1)], [.vec 1 x.2.2.2 true]⟩
set_option maxRecDepth 100000 in
theorem f52_p10e0 (n_15 : Int) (n_16 : Int) (n_17 : Int) (i_18 : Nat) (n_19 : Nat) (es_20 : List (List PC)) (full_21 : Bool) (n_22 : Int) (n_23 : Int) (es_24 : List (List PC)) (N : St → Prop) (K : TExit → St → Prop) : (f52_p10b0 n_15 n_16 n_17 i_18 n_19 es_20 full_21 n_22 n_23 es_24 (fun z3 z4 z8 z9 => N (f52_p10_mk n_15 n_16 n_17 es_20 full_21 n_22 (z3, z4, z8, z9))) (fun i0_25 n0_26 es0_27 => K (.exit 0) ⟨mkS 47 [(9, .w (.one (.ref 0 i0_25 n0_26)))], [.vec 1 es0_27 true]⟩)) = execT f52_C (nthC (bodies (bodyOf Tryd.f52)) 0) (f52_p10_mk n_15 n_16 n_17 es_20 full_21 n_22 (i_18, n_19, n_23, es_24)) (loopK N (normK f52_C 10) fun e s => K e (normOut f52_C 10 e s)) := by kernel_rfl
set_option maxHeartbeats 4000000 in
theorem f52_p10_ok : LoopOk f52_C (nthC (bodies (bodyOf Tryd.f52)) 0) := by
  refine LoopOk.of f52_p10L (by kernel_rfl) fun σ K h => ?_
  have hk : loopKey (nthC (bodies (bodyOf Tryd.f52)) 0) = 10 := by kernel_rfl
  rw [hk] at h ⊢
  generalize hs : normK f52_C 10 σ = s at h
  obtain ⟨tm, hp⟩ := s
  unfold f52_p10L at h
  dsimp only at h
  obtain ⟨xx, yy, rfl, rfl, h⟩ := getS_elim h
  refine iter_of (f52_p10_mk xx.2.1 xx.2.2.2.1 xx.2.2.2.2.1 xx.2.2.2.2.2.2.2.1.1 xx.2.2.2.2.2.2.2.1.2 xx.2.2.2.2.2.2.2.2.1) (fun x N h => ?_) rounds _ σ (hs.trans (by kernel_rfl)) (LoopP.run h)
  obtain ⟨y0, y1, y2, y3⟩ := x
  rw [← f52_p10e0 xx.2.1 xx.2.2.2.1 xx.2.2.2.2.1 y0 y1 xx.2.2.2.2.2.2.2.1.1 xx.2.2.2.2.2.2.2.1.2 xx.2.2.2.2.2.2.2.2.1 y2 y3 N K]
  exact h
noncomputable def f52_G0 : List TV → List Entry → (TV → List Entry → Prop) → Prop := fun tm hp K => getS [.v (.pagg [.str, .int .i64, .int .i64, .sl 5]), .v (.one (.int .i64)), .v (.one (.int .i64))] [] tm hp fun (xx : ((ByteArray × (Int × (Int × ((List (List PC) × Bool) × Unit)))) × (Int × (Int × Unit)))) (yy : Unit) => f52 xx.1.1 xx.1.2.1 xx.1.2.2.1 xx.1.2.2.2.1.1 xx.1.2.2.2.1.2 xx.2.1 xx.2.2.1 (fun es0_3 full0_4 => K (.w (.one (.p (.sl 1 es0_3 full0_4)))) [])
set_option maxRecDepth 100000 in
theorem f52_eq (s_28 : ByteArray) (n_29 : Int) (n_30 : Int) (es_31 : List (List PC)) (full_32 : Bool) (n_33 : Int) (n_34 : Int) (K : TV → List Entry → Prop) : (f52_d s_28 n_29 n_30 es_31 full_32 n_33 n_34 (fun es0_3 full0_4 => K (.w (.one (.p (.sl 1 es0_3 full0_4)))) [])) = funcT f52_C Tryd.f52 [.w (.pagg [pS s_28, pI n_29, pI n_30, .sl 5 es_31 full_32]), I n_33, I n_34] [] K := by kernel_rfl
set_option maxHeartbeats 4000000 in
theorem f52_ok0 : FnOk Tryd.prog glob 52 f52_G0 := by
  refine FnOk.of_text (C := f52_C) tab_ok.ok (Known.add f92_G_ok (Known.add f91_G_ok (Known.add f59_G_ok (Known.none)))) follows_ok (fn := Tryd.f52) (by kernel_rfl) (by kernel_rfl) (by kernel_rfl) (fun c hc => ?_) fun tm hp K h => ?_
  · have e : c = bodyOf Tryd.f52 := Option.some.inj (hc.symm.trans (by kernel_rfl))
    subst e
    exact ⟨LoopsOk.of [nthC (bodies (bodyOf Tryd.f52)) 0] (by kernel_rfl) ⟨f52_p10_ok, trivial⟩, TailsOk.of (tab := f52_tab) rfl [] (by kernel_rfl) trivial⟩
  · unfold f52_G0 at h
    obtain ⟨xx, yy, rfl, rfl, h⟩ := getS_elim h
    have e := (f52_eq xx.1.1 xx.1.2.1 xx.1.2.2.1 xx.1.2.2.2.1.1 xx.1.2.2.2.1.2 xx.2.1 xx.2.2.1 K).trans (show _ = funcT f52_C Tryd.f52 (mkR _ xx) (mkE _ yy) K by kernel_rfl)
    rw [← e]
    exact h.run
noncomputable abbrev f52_G := f52_G0
theorem f52_G_ok : FnOk Tryd.prog glob 52 f52_G := f52_ok0
end Go.Eng.N
set_option linter.unusedVariables false
set_option maxRecDepth 100000
open Go Go.Eng Go.Proofs
namespace Go.Eng.N
/-! ### f55: plenum/notify.notices -/
noncomputable def f55_p6b0 (i15 : Nat) (n16 : Nat) (es17 : List (List PC)) (full18 : Bool) (n19 : Int) (n20 : Int) (s21 : ByteArray) (n22 : Int) (n23 : Int) (es24 : List (List PC)) (full25 : Bool) (n26 : Int) (s27 : ByteArray) (n28 : Int) (n29 : Int) (n30 : Int) (n31 : Int) (n32 : Int) (es33 : List (List PC)) (N0 : Nat → Nat → Int → (List (List PC)) → Prop) (k0 : Nat → Nat → (List (List PC)) → Prop) : Prop := bB (decide (n20 < n19)) ((0 ≤ n20 ∧ n20 < ((es17.length : Nat) : Int)) ∧ oS (ext (List.getD es17 (Int.toNat n20) []) 0 1) fun s34 => f59 n30 (fun n35 => (i15 + n16) = es33.length ∧ (n16 + 1) * 96 ≤ 2 ^ 46 ∧ (n16 + 1) ≤ 2 ^ 46 ∧ N0 0 (n16 + 1) (w64 (n20 + 1)) (List.drop i15 es33 ++ [[pS s34, pI n26, pS s27, pI n28, pI n29, pI n30, pI n31, pI n32, pI n22, pB ((IntKind.wrap .i64 (BitVec.toNat (BitVec.ofInt 64 n23 &&& BitVec.ofInt 64 n35))) != 0)]]))) (k0 i15 n16 es33)
noncomputable def f55_p6 (es17 : List (List PC)) (full18 : Bool) (n19 : Int) (s21 : ByteArray) (n22 : Int) (n23 : Int) (es24 : List (List PC)) (full25 : Bool) (n26 : Int) (s27 : ByteArray) (n28 : Int) (n29 : Int) (n30 : Int) (n31 : Int) (n32 : Int) (k0 : Nat → Nat → (List (List PC)) → Prop) : Nat × Nat × Int × (List (List PC)) → Prop := LoopP fun x N => f55_p6b0 x.1 x.2.1 es17 full18 n19 x.2.2.1 s21 n22 n23 es24 full25 n26 s27 n28 n29 n30 n31 n32 x.2.2.2 (fun i15 n16 n20 es33 => N (i15, n16, n20, es33)) k0
noncomputable def f55_d (s1 : ByteArray) (n2 : Int) (n3 : Int) (es4 : List (List PC)) (full5 : Bool) (n6 : Int) (s7 : ByteArray) (n8 : Int) (n9 : Int) (n10 : Int) (n11 : Int) (n12 : Int) (k0 : (List (List PC)) → Bool → Prop) : Prop := f52 s1 n2 n3 es4 full5 n8 n10 (fun es13 full14 => f55_p6 es13 full14 ((es13.length : Nat) : Int) s1 n2 n3 es4 full5 n6 s7 n8 n9 n10 n11 n12 (fun i36 n37 es38 => k0 (List.take n37 (List.drop i36 es38)) false) (0, 0, 0, []))
structure f55 (s1 : ByteArray) (n2 : Int) (n3 : Int) (es4 : List (List PC)) (full5 : Bool) (n6 : Int) (s7 : ByteArray) (n8 : Int) (n9 : Int) (n10 : Int) (n11 : Int) (n12 : Int) (k0 : (List (List PC)) → Bool → Prop) : Prop where
  run : f55_d s1 n2 n3 es4 full5 n6 s7 n8 n9 n10 n11 n12 k0
noncomputable def f55_p6L : Told := fun s K => match s with
  | ⟨tm, hp⟩ => getS [.skip 2, .v (.one (.ptr 0 0 0)), .v (.one (.ptr 1 0 0)), .skip 1, .v (.one (.ref 2)), .skip 7, .v (.one (.sl 1)), .v (.one (.int .i64)), .v (.one (.int .i64)), .skip 20] [.box [.str, .int .i64, .int .i64, .sl 5], .box [.int .i64, .str, .int .i64, .int .i64, .int .i64, .int .i64, .int .i64], .vec 10 true] tm hp fun (xx : (Unit × (Unit × (Unit × (Unit × ((Nat × Nat) × (Unit × ((List (List PC) × Bool) × (Int × (Int × (Unit × Unit))))))))))) (yy : ((ByteArray × (Int × (Int × ((List (List PC) × Bool) × Unit)))) × ((Int × (ByteArray × (Int × (Int × (Int × (Int × (Int × Unit))))))) × ((List (List PC)) × Unit)))) => f55_p6 xx.2.2.2.2.2.2.1.1 xx.2.2.2.2.2.2.1.2 xx.2.2.2.2.2.2.2.1 yy.1.1 yy.1.2.1 yy.1.2.2.1 yy.1.2.2.2.1.1 yy.1.2.2.2.1.2 yy.2.1.1 yy.2.1.2.1 yy.2.1.2.2.1 yy.2.1.2.2.2.1 yy.2.1.2.2.2.2.1 yy.2.1.2.2.2.2.2.1 yy.2.1.2.2.2.2.2.2.1 (fun i0_0 n0_1 es0_2 => K (.exit 0) ⟨mkS 36 [(5, .w (.one (.ref 0 i0_0 n0_1)))], [.vec 10 es0_2 true]⟩) (xx.2.2.2.2.1.1, xx.2.2.2.2.1.2, xx.2.2.2.2.2.2.2.2.1, yy.2.2.1)
noncomputable def f55_tab : List (Nat × Told) := [(6, f55_p6L)]
noncomputable def f55_call : FuncId → List TV → List Entry → (TV → List Entry → Prop) → Prop := addCall 59 f59_G (addCall 52 f52_G (noCalls))
noncomputable def f55_C : Ctx := { ty := tyOf tab, glob := glob, byRef := byRef, keep := fun k i => lookN [] (lookN [] ([(6, [(0, [2, 3, 5, 13, 14, 15]), (2, [4]), (3, [5])])] : List (Nat × List (Nat × List Nat))) k) i, late := lookN [] ([] : List (Nat × List Nat)), nref := lookN [] ([(6, [5])] : List (Nat × List Nat)), nbox := lookN [] ([] : List (Nat × List (Nat × Nat))), take := [], rnil := false, m := 0, fz := true, loops := lookL f55_tab, call := f55_call }
noncomputable def f55_p6_mk (es17 : List (List PC)) (full18 : Bool) (n19 : Int) (s21 : ByteArray) (n22 : Int) (n23 : Int) (es24 : List (List PC)) (full25 : Bool) (n26 : Int) (s27 : ByteArray) (n28 : Int) (n29 : Int) (n30 : Int) (n31 : Int) (n32 : Int) (x : Nat × Nat × Int × (List (List PC))) : St := ⟨mkS 36 [(2, .w (.one (.ptr 0 0 0))), (3, .w (.one (.ptr 1 0 0))), (5, .w (.one (.ref 2 x.1 x.2.1))), (13, .w (.one (.p (.sl 1 es17 full18)))), (14, I n19), (15, I x.2.2.1)], [.box [.p (pS s21), .p (pI n22), .p (pI n23), .p (.sl 5 es24 full25)], .box [.p (pI n26), .p (pS s27), .p (pI n28), .p (pI n29), .p (pI n30), .p (pI n31), .p (pI n32)], .vec 10 x.2.2.2 true]⟩
set_option maxRecDepth 100000 in
theorem f55_p6e0 (i_24 : Nat) (n_25 : Nat) (es_26 : List (List PC)) (full_27 : Bool) (n_28 : Int) (n_29 : Int) (s_30 : ByteArray) (n_31 : Int) (n_32 : Int) (es_33 : List (List PC)) (full_34 : Bool) (n_35 : Int) (s_36 : ByteArray) (n_37 : Int) (n_38 : Int) (n_39 : Int) (n_40 : Int) (n_41 : Int) (es_42 : List (List PC)) (N : St → Prop) (K : TExit → St → Prop) : (f55_p6b0 i_24 n_25 es_26 full_27 n_28 n_29 s_30 n_31 n_32 es_33 full_34 n_35 s_36 n_37 n_38 n_39 n_40 n_41 es_42 (fun z0 z1 z5 z18 => N (f55_p6_mk es_26 full_27 n_28 s_30 n_31 n_32 es_33 full_34 n_35 s_36 n_37 n_38 n_39 n_40 n_41 (z0, z1, z5, z18))) (fun i0_43 n0_44 es0_45 => K (.exit 0) ⟨mkS 36 [(5, .w (.one (.ref 0 i0_43 n0_44)))], [.vec 10 es0_45 true]⟩)) = execT f55_C (nthC (bodies (bodyOf Tryd.f55)) 0) (f55_p6_mk es_26 full_27 n_28 s_30 n_31 n_32 es_33 full_34 n_35 s_36 n_37 n_38 n_39 n_40 n_41 (i_24, n_25, n_29, es_42)) (loopK N (normK f55_C 6) fun e s => K e (normOut f55_C 6 e s)) := by kernel_rfl
set_option maxHeartbeats 4000000 in
theorem f55_p6_ok : LoopOk f55_C (nthC (bodies (bodyOf Tryd.f55)) 0) := by
  refine LoopOk.of f55_p6L (by kernel_rfl) fun σ K h => ?_
  have hk : loopKey (nthC (bodies (bodyOf Tryd.f55)) 0) = 6 := by kernel_rfl
  rw [hk] at h ⊢
  generalize hs : normK f55_C 6 σ = s at h
  obtain ⟨tm, hp⟩ := s
  unfold f55_p6L at h
  dsimp only at h
  obtain ⟨xx, yy, rfl, rfl, h⟩ := getS_elim h
  refine iter_of (f55_p6_mk xx.2.2.2.2.2.2.1.1 xx.2.2.2.2.2.2.1.2 xx.2.2.2.2.2.2.2.1 yy.1.1 yy.1.2.1 yy.1.2.2.1 yy.1.2.2.2.1.1 yy.1.2.2.2.1.2 yy.2.1.1 yy.2.1.2.1 yy.2.1.2.2.1 yy.2.1.2.2.2.1 yy.2.1.2.2.2.2.1 yy.2.1.2.2.2.2.2.1 yy.2.1.2.2.2.2.2.2.1) (fun x N h => ?_) rounds _ σ (hs.trans (by kernel_rfl)) (LoopP.run h)
  obtain ⟨y0, y1, y2, y3⟩ := x
  rw [← f55_p6e0 y0 y1 xx.2.2.2.2.2.2.1.1 xx.2.2.2.2.2.2.1.2 xx.2.2.2.2.2.2.2.1 y2 yy.1.1 yy.1.2.1 yy.1.2.2.1 yy.1.2.2.2.1.1 yy.1.2.2.2.1.2 yy.2.1.1 yy.2.1.2.1 yy.2.1.2.2.1 yy.2.1.2.2.2.1 yy.2.1.2.2.2.2.1 yy.2.1.2.2.2.2.2.1 yy.2.1.2.2.2.2.2.2.1 y3 N K]
  exact h
noncomputable def f55_G0 : List TV → List Entry → (TV → List Entry → Prop) → Prop := fun tm hp K => getS [.v (.pagg [.str, .int .i64, .int .i64, .sl 5]), .v (.pagg [.int .i64, .str, .int .i64, .int .i64, .int .i64, .int .i64, .int .i64])] [] tm hp fun (xx : ((ByteArray × (Int × (Int × ((List (List PC) × Bool) × Unit)))) × ((Int × (ByteArray × (Int × (Int × (Int × (Int × (Int × Unit))))))) × Unit))) (yy : Unit) => f55 xx.1.1 xx.1.2.1 xx.1.2.2.1 xx.1.2.2.2.1.1 xx.1.2.2.2.1.2 xx.2.1.1 xx.2.1.2.1 xx.2.1.2.2.1 xx.2.1.2.2.2.1 xx.2.1.2.2.2.2.1 xx.2.1.2.2.2.2.2.1 xx.2.1.2.2.2.2.2.2.1 (fun es0_3 full0_4 => K (.w (.one (.p (.sl 10 es0_3 full0_4)))) [])
set_option maxRecDepth 100000 in
theorem f55_eq (s_46 : ByteArray) (n_47 : Int) (n_48 : Int) (es_49 : List (List PC)) (full_50 : Bool) (n_51 : Int) (s_52 : ByteArray) (n_53 : Int) (n_54 : Int) (n_55 : Int) (n_56 : Int) (n_57 : Int) (K : TV → List Entry → Prop) : (f55_d s_46 n_47 n_48 es_49 full_50 n_51 s_52 n_53 n_54 n_55 n_56 n_57 (fun es0_3 full0_4 => K (.w (.one (.p (.sl 10 es0_3 full0_4)))) [])) = funcT f55_C Tryd.f55 [.w (.pagg [pS s_46, pI n_47, pI n_48, .sl 5 es_49 full_50]), .w (.pagg [pI n_51, pS s_52, pI n_53, pI n_54, pI n_55, pI n_56, pI n_57])] [] K := by kernel_rfl
set_option maxHeartbeats 4000000 in
theorem f55_ok0 : FnOk Tryd.prog glob 55 f55_G0 := by
  refine FnOk.of_text (C := f55_C) tab_ok.ok (Known.add f59_G_ok (Known.add f52_G_ok (Known.none))) follows_ok (fn := Tryd.f55) (by kernel_rfl) (by kernel_rfl) (by kernel_rfl) (fun c hc => ?_) fun tm hp K h => ?_
  · have e : c = bodyOf Tryd.f55 := Option.some.inj (hc.symm.trans (by kernel_rfl))
    subst e
    exact ⟨LoopsOk.of [nthC (bodies (bodyOf Tryd.f55)) 0] (by kernel_rfl) ⟨f55_p6_ok, trivial⟩, TailsOk.of (tab := f55_tab) rfl [] (by kernel_rfl) trivial⟩
  · unfold f55_G0 at h
    obtain ⟨xx, yy, rfl, rfl, h⟩ := getS_elim h
    have e := (f55_eq xx.1.1 xx.1.2.1 xx.1.2.2.1 xx.1.2.2.2.1.1 xx.1.2.2.2.1.2 xx.2.1.1 xx.2.1.2.1 xx.2.1.2.2.1 xx.2.1.2.2.2.1 xx.2.1.2.2.2.2.1 xx.2.1.2.2.2.2.2.1 xx.2.1.2.2.2.2.2.2.1 K).trans (show _ = funcT f55_C Tryd.f55 (mkR _ xx) (mkE _ yy) K by kernel_rfl)
    rw [← e]
    exact h.run
noncomputable abbrev f55_G := f55_G0
theorem f55_G_ok : FnOk Tryd.prog glob 55 f55_G := f55_ok0
end Go.Eng.N
set_option linter.unusedVariables false
set_option maxRecDepth 100000
open Go Go.Eng Go.Proofs
namespace Go.Eng.N
/-! ### f21: plenum/notify.Notices -/
noncomputable def f21_d (s1 : ByteArray) (n2 : Int) (n3 : Int) (es4 : List (List PC)) (full5 : Bool) (n6 : Int) (s7 : ByteArray) (n8 : Int) (n9 : Int) (n10 : Int) (n11 : Int) (n12 : Int) (k0 : (List (List PC)) → Bool → Int → Prop) : Prop := f16 s1 n2 n3 es4 full5 (fun n13 => bB (n13 != 0) (k0 [] true n13) (f51 n8 n10 (fun n14 => bB (n14 != 0) (k0 [] true n14) (f55 s1 n2 n3 es4 full5 n6 s7 n8 n9 n10 n11 n12 (fun es15 full16 => k0 es15 full16 0)))))
structure f21 (s1 : ByteArray) (n2 : Int) (n3 : Int) (es4 : List (List PC)) (full5 : Bool) (n6 : Int) (s7 : ByteArray) (n8 : Int) (n9 : Int) (n10 : Int) (n11 : Int) (n12 : Int) (k0 : (List (List PC)) → Bool → Int → Prop) : Prop where
  run : f21_d s1 n2 n3 es4 full5 n6 s7 n8 n9 n10 n11 n12 k0
noncomputable def f21_tab : List (Nat × Told) := []
noncomputable def f21_call : FuncId → List TV → List Entry → (TV → List Entry → Prop) → Prop := addCall 55 f55_G (addCall 51 f51_G (addCall 16 f16_G (noCalls)))
noncomputable def f21_C : Ctx := { ty := tyOf tab, glob := glob, byRef := byRef, keep := fun k i => lookN [] (lookN [] ([] : List (Nat × List (Nat × List Nat))) k) i, late := lookN [] ([] : List (Nat × List Nat)), nref := lookN [] ([] : List (Nat × List Nat)), nbox := lookN [] ([] : List (Nat × List (Nat × Nat))), take := [], rnil := false, m := 0, fz := true, loops := lookL f21_tab, call := f21_call }
noncomputable def f21_G0 : List TV → List Entry → (TV → List Entry → Prop) → Prop := fun tm hp K => getS [.v (.pagg [.str, .int .i64, .int .i64, .sl 5]), .v (.pagg [.int .i64, .str, .int .i64, .int .i64, .int .i64, .int .i64, .int .i64])] [] tm hp fun (xx : ((ByteArray × (Int × (Int × ((List (List PC) × Bool) × Unit)))) × ((Int × (ByteArray × (Int × (Int × (Int × (Int × (Int × Unit))))))) × Unit))) (yy : Unit) => f21 xx.1.1 xx.1.2.1 xx.1.2.2.1 xx.1.2.2.2.1.1 xx.1.2.2.2.1.2 xx.2.1.1 xx.2.1.2.1 xx.2.1.2.2.1 xx.2.1.2.2.2.1 xx.2.1.2.2.2.2.1 xx.2.1.2.2.2.2.2.1 xx.2.1.2.2.2.2.2.2.1 (fun es0_0 full0_1 n0_2 => K (.tup [.one (.p (.sl 10 es0_0 full0_1)), .one (.p (pI n0_2))]) [])
set_option maxRecDepth 100000 in
theorem f21_eq (s_3 : ByteArray) (n_4 : Int) (n_5 : Int) (es_6 : List (List PC)) (full_7 : Bool) (n_8 : Int) (s_9 : ByteArray) (n_10 : Int) (n_11 : Int) (n_12 : Int) (n_13 : Int) (n_14 : Int) (K : TV → List Entry → Prop) : (f21_d s_3 n_4 n_5 es_6 full_7 n_8 s_9 n_10 n_11 n_12 n_13 n_14 (fun es0_0 full0_1 n0_2 => K (.tup [.one (.p (.sl 10 es0_0 full0_1)), .one (.p (pI n0_2))]) [])) = funcT f21_C Tryd.f21 [.w (.pagg [pS s_3, pI n_4, pI n_5, .sl 5 es_6 full_7]), .w (.pagg [pI n_8, pS s_9, pI n_10, pI n_11, pI n_12, pI n_13, pI n_14])] [] K := by kernel_rfl
set_option maxHeartbeats 4000000 in
theorem f21_ok0 : FnOk Tryd.prog glob 21 f21_G0 := by
  refine FnOk.of_text (C := f21_C) tab_ok.ok (Known.add f55_G_ok (Known.add f51_G_ok (Known.add f16_G_ok (Known.none)))) follows_ok (fn := Tryd.f21) (by kernel_rfl) (by kernel_rfl) (by kernel_rfl) (fun c hc => ?_) fun tm hp K h => ?_
  · have e : c = bodyOf Tryd.f21 := Option.some.inj (hc.symm.trans (by kernel_rfl))
    subst e
    exact ⟨LoopsOk.of [] (by kernel_rfl) trivial, TailsOk.of (tab := f21_tab) rfl [] (by kernel_rfl) trivial⟩
  · unfold f21_G0 at h
    obtain ⟨xx, yy, rfl, rfl, h⟩ := getS_elim h
    have e := (f21_eq xx.1.1 xx.1.2.1 xx.1.2.2.1 xx.1.2.2.2.1.1 xx.1.2.2.2.1.2 xx.2.1.1 xx.2.1.2.1 xx.2.1.2.2.1 xx.2.1.2.2.2.1 xx.2.1.2.2.2.2.1 xx.2.1.2.2.2.2.2.1 xx.2.1.2.2.2.2.2.2.1 K).trans (show _ = funcT f21_C Tryd.f21 (mkR _ xx) (mkE _ yy) K by kernel_rfl)
    rw [← e]
    exact h.run
noncomputable abbrev f21_G := f21_G0
theorem f21_G_ok : FnOk Tryd.prog glob 21 f21_G := f21_ok0
end Go.Eng.N
set_option linter.unusedVariables false
set_option maxRecDepth 100000
open Go Go.Eng Go.Proofs
namespace Go.Eng.N
/-! ### f53: plenum/plenumref39.stated -/
noncomputable def f53_d (n1 : Int) (n2 : Int) (k0 : Bool → Prop) : Prop := bB (decide (n1 ≥ 0)) (bB (decide (n1 ≤ 6311433599)) (bB (decide (n2 ≥ 0)) (k0 (decide (n2 ≤ 4))) (k0 false)) (k0 false)) (k0 false)
structure f53 (n1 : Int) (n2 : Int) (k0 : Bool → Prop) : Prop where
  run : f53_d n1 n2 k0
noncomputable def f53_tab : List (Nat × Told) := []
noncomputable def f53_call : FuncId → List TV → List Entry → (TV → List Entry → Prop) → Prop := noCalls
noncomputable def f53_C : Ctx := { ty := tyOf tab, glob := glob, byRef := byRef, keep := fun k i => lookN [] (lookN [] ([] : List (Nat × List (Nat × List Nat))) k) i, late := lookN [] ([] : List (Nat × List Nat)), nref := lookN [] ([] : List (Nat × List Nat)), nbox := lookN [] ([] : List (Nat × List (Nat × Nat))), take := [], rnil := false, m := 0, fz := true, loops := lookL f53_tab, call := f53_call }
noncomputable def f53_G0 : List TV → List Entry → (TV → List Entry → Prop) → Prop := fun tm hp K => getS [.v (.one (.int .i64)), .v (.one (.int .i64))] [] tm hp fun (xx : (Int × (Int × Unit))) (yy : Unit) => f53 xx.1 xx.2.1 (fun b0_0 => K (B b0_0) [])
set_option maxRecDepth 100000 in
theorem f53_eq (n_1 : Int) (n_2 : Int) (K : TV → List Entry → Prop) : (f53_d n_1 n_2 (fun b0_0 => K (B b0_0) [])) = funcT f53_C Tryd.f53 [I n_1, I n_2] [] K := by kernel_rfl
set_option maxHeartbeats 4000000 in
theorem f53_ok0 : FnOk Tryd.prog glob 53 f53_G0 := by
  refine FnOk.of_text (C := f53_C) tab_ok.ok (Known.none) follows_ok (fn := Tryd.f53) (by kernel_rfl) (by kernel_rfl) (by kernel_rfl) (fun c hc => ?_) fun tm hp K h => ?_
  · have e : c = bodyOf Tryd.f53 := Option.some.inj (hc.symm.trans (by kernel_rfl))
    subst e
    exact ⟨LoopsOk.of [] (by kernel_rfl) trivial, TailsOk.of (tab := f53_tab) rfl [] (by kernel_rfl) trivial⟩
  · unfold f53_G0 at h
    obtain ⟨xx, yy, rfl, rfl, h⟩ := getS_elim h
    have e := (f53_eq xx.1 xx.2.1 K).trans (show _ = funcT f53_C Tryd.f53 (mkR _ xx) (mkE _ yy) K by kernel_rfl)
    rw [← e]
    exact h.run
noncomputable abbrev f53_G := f53_G0
theorem f53_G_ok : FnOk Tryd.prog glob 53 f53_G := f53_ok0
end Go.Eng.N
set_option linter.unusedVariables false
set_option maxRecDepth 100000
open Go Go.Eng Go.Proofs
namespace Go.Eng.N
/-! ### f56: plenum/plenumref39.Kind -/
noncomputable def f56_d (n1 : Int) (k0 : Int → Prop) : Prop := bB (n1 == 0) (k0 4) (bB (n1 == 4) (k0 2) (k0 1))
structure f56 (n1 : Int) (k0 : Int → Prop) : Prop where
  run : f56_d n1 k0
noncomputable def f56_tab : List (Nat × Told) := []
noncomputable def f56_call : FuncId → List TV → List Entry → (TV → List Entry → Prop) → Prop := noCalls
noncomputable def f56_C : Ctx := { ty := tyOf tab, glob := glob, byRef := byRef, keep := fun k i => lookN [] (lookN [] ([] : List (Nat × List (Nat × List Nat))) k) i, late := lookN [] ([] : List (Nat × List Nat)), nref := lookN [] ([] : List (Nat × List Nat)), nbox := lookN [] ([] : List (Nat × List (Nat × Nat))), take := [], rnil := false, m := 0, fz := true, loops := lookL f56_tab, call := f56_call }
noncomputable def f56_G0 : List TV → List Entry → (TV → List Entry → Prop) → Prop := fun tm hp K => getS [.v (.one (.int .i64))] [] tm hp fun (xx : (Int × Unit)) (yy : Unit) => f56 xx.1 (fun n0_0 => K (I n0_0) [])
set_option maxRecDepth 100000 in
theorem f56_eq (n_1 : Int) (K : TV → List Entry → Prop) : (f56_d n_1 (fun n0_0 => K (I n0_0) [])) = funcT f56_C Tryd.f56 [I n_1] [] K := by kernel_rfl
set_option maxHeartbeats 4000000 in
theorem f56_ok0 : FnOk Tryd.prog glob 56 f56_G0 := by
  refine FnOk.of_text (C := f56_C) tab_ok.ok (Known.none) follows_ok (fn := Tryd.f56) (by kernel_rfl) (by kernel_rfl) (by kernel_rfl) (fun c hc => ?_) fun tm hp K h => ?_
  · have e : c = bodyOf Tryd.f56 := Option.some.inj (hc.symm.trans (by kernel_rfl))
    subst e
    exact ⟨LoopsOk.of [] (by kernel_rfl) trivial, TailsOk.of (tab := f56_tab) rfl [] (by kernel_rfl) trivial⟩
  · unfold f56_G0 at h
    obtain ⟨xx, yy, rfl, rfl, h⟩ := getS_elim h
    have e := (f56_eq xx.1 K).trans (show _ = funcT f56_C Tryd.f56 (mkR _ xx) (mkE _ yy) K by kernel_rfl)
    rw [← e]
    exact h.run
noncomputable abbrev f56_G := f56_G0
theorem f56_G_ok : FnOk Tryd.prog glob 56 f56_G := f56_ok0
end Go.Eng.N
set_option linter.unusedVariables false
set_option maxRecDepth 100000
open Go Go.Eng Go.Proofs
namespace Go.Eng.N
/-! ### f93: plenum/plenumref39.moment -/
noncomputable def f93_d (n1 : Int) (k0 : Int → Int → Prop) : Prop := (86400 : Int) ≠ 0 ∧ (7 : Int) ≠ 0 ∧ (86400 : Int) ≠ 0 ∧ (60 : Int) ≠ 0 ∧ k0 (Int.tmod (w64 ((w64 (Int.tdiv n1 86400)) + 5)) 7) (w64 (Int.tdiv (Int.tmod n1 86400) 60))
structure f93 (n1 : Int) (k0 : Int → Int → Prop) : Prop where
  run : f93_d n1 k0
noncomputable def f93_tab : List (Nat × Told) := []
noncomputable def f93_call : FuncId → List TV → List Entry → (TV → List Entry → Prop) → Prop := noCalls
noncomputable def f93_C : Ctx := { ty := tyOf tab, glob := glob, byRef := byRef, keep := fun k i => lookN [] (lookN [] ([] : List (Nat × List (Nat × List Nat))) k) i, late := lookN [] ([] : List (Nat × List Nat)), nref := lookN [] ([] : List (Nat × List Nat)), nbox := lookN [] ([] : List (Nat × List (Nat × Nat))), take := [], rnil := false, m := 0, fz := true, loops := lookL f93_tab, call := f93_call }
noncomputable def f93_G0 : List TV → List Entry → (TV → List Entry → Prop) → Prop := fun tm hp K => getS [.v (.one (.int .i64))] [] tm hp fun (xx : (Int × Unit)) (yy : Unit) => f93 xx.1 (fun n0_0 n0_1 => K (.tup [.one (.p (pI n0_0)), .one (.p (pI n0_1))]) [])
set_option maxRecDepth 100000 in
theorem f93_eq (n_2 : Int) (K : TV → List Entry → Prop) : (f93_d n_2 (fun n0_0 n0_1 => K (.tup [.one (.p (pI n0_0)), .one (.p (pI n0_1))]) [])) = funcT f93_C Tryd.f93 [I n_2] [] K := by kernel_rfl
set_option maxHeartbeats 4000000 in
theorem f93_ok0 : FnOk Tryd.prog glob 93 f93_G0 := by
  refine FnOk.of_text (C := f93_C) tab_ok.ok (Known.none) follows_ok (fn := Tryd.f93) (by kernel_rfl) (by kernel_rfl) (by kernel_rfl) (fun c hc => ?_) fun tm hp K h => ?_
  · have e : c = bodyOf Tryd.f93 := Option.some.inj (hc.symm.trans (by kernel_rfl))
    subst e
    exact ⟨LoopsOk.of [] (by kernel_rfl) trivial, TailsOk.of (tab := f93_tab) rfl [] (by kernel_rfl) trivial⟩
  · unfold f93_G0 at h
    obtain ⟨xx, yy, rfl, rfl, h⟩ := getS_elim h
    have e := (f93_eq xx.1 K).trans (show _ = funcT f93_C Tryd.f93 (mkR _ xx) (mkE _ yy) K by kernel_rfl)
    rw [← e]
    exact h.run
noncomputable abbrev f93_G := f93_G0
theorem f93_G_ok : FnOk Tryd.prog glob 93 f93_G := f93_ok0
end Go.Eng.N
set_option linter.unusedVariables false
set_option maxRecDepth 100000
open Go Go.Eng Go.Proofs
namespace Go.Eng.N
/-! ### f84: plenum/plenumref39.has -/
noncomputable def f84_d (n1 : Int) (n2 : Int) (k0 : Bool → Prop) : Prop := 0 ≤ (IntKind.wrap .u64 n2) ∧ (2 : Int) ≠ 0 ∧ k0 ((Int.tmod (Int.fdiv n1 (2 ^ (min (Int.toNat (IntKind.wrap .u64 n2)) 64))) 2) == 1)
structure f84 (n1 : Int) (n2 : Int) (k0 : Bool → Prop) : Prop where
  run : f84_d n1 n2 k0
noncomputable def f84_tab : List (Nat × Told) := []
noncomputable def f84_call : FuncId → List TV → List Entry → (TV → List Entry → Prop) → Prop := noCalls
noncomputable def f84_C : Ctx := { ty := tyOf tab, glob := glob, byRef := byRef, keep := fun k i => lookN [] (lookN [] ([] : List (Nat × List (Nat × List Nat))) k) i, late := lookN [] ([] : List (Nat × List Nat)), nref := lookN [] ([] : List (Nat × List Nat)), nbox := lookN [] ([] : List (Nat × List (Nat × Nat))), take := [], rnil := false, m := 0, fz := true, loops := lookL f84_tab, call := f84_call }
noncomputable def f84_G0 : List TV → List Entry → (TV → List Entry → Prop) → Prop := fun tm hp K => getS [.v (.one (.int .i64)), .v (.one (.int .i64))] [] tm hp fun (xx : (Int × (Int × Unit))) (yy : Unit) => f84 xx.1 xx.2.1 (fun b0_0 => K (B b0_0) [])
set_option maxRecDepth 100000 in
theorem f84_eq (n_1 : Int) (n_2 : Int) (K : TV → List Entry → Prop) : (f84_d n_1 n_2 (fun b0_0 => K (B b0_0) [])) = funcT f84_C Tryd.f84 [I n_1, I n_2] [] K := by kernel_rfl
set_option maxHeartbeats 4000000 in
theorem f84_ok0 : FnOk Tryd.prog glob 84 f84_G0 := by
  refine FnOk.of_text (C := f84_C) tab_ok.ok (Known.none) follows_ok (fn := Tryd.f84) (by kernel_rfl) (by kernel_rfl) (by kernel_rfl) (fun c hc => ?_) fun tm hp K h => ?_
  · have e : c = bodyOf Tryd.f84 := Option.some.inj (hc.symm.trans (by kernel_rfl))
    subst e
    exact ⟨LoopsOk.of [] (by kernel_rfl) trivial, TailsOk.of (tab := f84_tab) rfl [] (by kernel_rfl) trivial⟩
  · unfold f84_G0 at h
    obtain ⟨xx, yy, rfl, rfl, h⟩ := getS_elim h
    have e := (f84_eq xx.1 xx.2.1 K).trans (show _ = funcT f84_C Tryd.f84 (mkR _ xx) (mkE _ yy) K by kernel_rfl)
    rw [← e]
    exact h.run
noncomputable abbrev f84_G := f84_G0
theorem f84_G_ok : FnOk Tryd.prog glob 84 f84_G := f84_ok0
end Go.Eng.N
set_option linter.unusedVariables false
set_option maxRecDepth 100000
open Go Go.Eng Go.Proofs
namespace Go.Eng.N
/-! ### f94: plenum/plenumref39.told -/
noncomputable def f94_d (s1 : ByteArray) (n2 : Int) (n3 : Int) (n4 : Int) (n5 : Int) (n6 : Int) (n7 : Int) (n8 : Int) (k0 : Bool → Prop) : Prop := f84 n2 n6 (fun b9 => bB b9 (bB (decide (n7 ≥ n3)) (bB (decide (n7 ≤ n4)) (n8 ≠ 0 ∧ (2 : Int) ≠ 0 ∧ k0 ((Int.tmod (w64 (Int.tdiv n5 n8)) 2) == 1)) (k0 false)) (k0 false)) (k0 false))
structure f94 (s1 : ByteArray) (n2 : Int) (n3 : Int) (n4 : Int) (n5 : Int) (n6 : Int) (n7 : Int) (n8 : Int) (k0 : Bool → Prop) : Prop where
  run : f94_d s1 n2 n3 n4 n5 n6 n7 n8 k0
noncomputable def f94_tab : List (Nat × Told) := []
noncomputable def f94_call : FuncId → List TV → List Entry → (TV → List Entry → Prop) → Prop := addCall 84 f84_G (noCalls)
noncomputable def f94_C : Ctx := { ty := tyOf tab, glob := glob, byRef := byRef, keep := fun k i => lookN [] (lookN [] ([] : List (Nat × List (Nat × List Nat))) k) i, late := lookN [] ([] : List (Nat × List Nat)), nref := lookN [] ([] : List (Nat × List Nat)), nbox := lookN [] ([] : List (Nat × List (Nat × Nat))), take := [], rnil := false, m := 0, fz := true, loops := lookL f94_tab, call := f94_call }
noncomputable def f94_G0 : List TV → List Entry → (TV → List Entry → Prop) → Prop := fun tm hp K => getS [.v (.pagg [.str, .int .i64, .int .i64, .int .i64, .int .i64]), .v (.one (.int .i64)), .v (.one (.int .i64)), .v (.one (.int .i64))] [] tm hp fun (xx : ((ByteArray × (Int × (Int × (Int × (Int × Unit))))) × (Int × (Int × (Int × Unit))))) (yy : Unit) => f94 xx.1.1 xx.1.2.1 xx.1.2.2.1 xx.1.2.2.2.1 xx.1.2.2.2.2.1 xx.2.1 xx.2.2.1 xx.2.2.2.1 (fun b0_0 => K (B b0_0) [])
set_option maxRecDepth 100000 in
theorem f94_eq (s_1 : ByteArray) (n_2 : Int) (n_3 : Int) (n_4 : Int) (n_5 : Int) (n_6 : Int) (n_7 : Int) (n_8 : Int) (K : TV → List Entry → Prop) : (f94_d s_1 n_2 n_3 n_4 n_5 n_6 n_7 n_8 (fun b0_0 => K (B b0_0) [])) = funcT f94_C Tryd.f94 [.w (.pagg [pS s_1, pI n_2, pI n_3, pI n_4, pI n_5]), I n_6, I n_7, I n_8] [] K := by kernel_rfl
set_option maxHeartbeats 4000000 in
theorem f94_ok0 : FnOk Tryd.prog glob 94 f94_G0 := by
  refine FnOk.of_text (C := f94_C) tab_ok.ok (Known.add f84_G_ok (Known.none)) follows_ok (fn := Tryd.f94) (by kernel_rfl) (by kernel_rfl) (by kernel_rfl) (fun c hc => ?_) fun tm hp K h => ?_
  · have e : c = bodyOf Tryd.f94 := Option.some.inj (hc.symm.trans (by kernel_rfl))
    subst e
    exact ⟨LoopsOk.of [] (by kernel_rfl) trivial, TailsOk.of (tab := f94_tab) rfl [] (by kernel_rfl) trivial⟩
  · unfold f94_G0 at h
    obtain ⟨xx, yy, rfl, rfl, h⟩ := getS_elim h
    have e := (f94_eq xx.1.1 xx.1.2.1 xx.1.2.2.1 xx.1.2.2.2.1 xx.1.2.2.2.2.1 xx.2.1 xx.2.2.1 xx.2.2.2.1 K).trans (show _ = funcT f94_C Tryd.f94 (mkR _ xx) (mkE _ yy) K by kernel_rfl)
    rw [← e]
    exact h.run
noncomputable abbrev f94_G := f94_G0
theorem f94_G_ok : FnOk Tryd.prog glob 94 f94_G := f94_ok0
end Go.Eng.N
set_option linter.unusedVariables false
set_option maxRecDepth 100000
open Go Go.Eng Go.Proofs
namespace Go.Eng.N
/-! ### f95: plenum/plenumref39.contains -/
noncomputable def f95_p4b0 (es4 : List (List PC)) (full5 : Bool) (s6 : ByteArray) (n7 : Int) (N0 : Int → Prop) (k0 : Bool → Prop) (k1 : Unit → Prop) : Prop := bB (decide (n7 < ((es4.length : Nat) : Int))) ((0 ≤ n7 ∧ n7 < ((es4.length : Nat) : Int)) ∧ oS (ext (List.getD es4 (Int.toNat n7) []) 0 1) fun s8 => bB (s8.toList == s6.toList) (k0 true) (N0 (w64 (n7 + 1)))) (k1 ())
noncomputable def f95_p4 (es4 : List (List PC)) (full5 : Bool) (s6 : ByteArray) (k0 : Bool → Prop) (k1 : Unit → Prop) : Int → Prop := LoopP fun x N => f95_p4b0 es4 full5 s6 x (fun n7 => N n7) k0 k1
noncomputable def f95_d (es1 : List (List PC)) (full2 : Bool) (s3 : ByteArray) (k0 : Bool → Prop) : Prop := f95_p4 es1 full2 s3 (fun b9 => k0 b9) (fun (_ : Unit) => k0 false) 0
structure f95 (es1 : List (List PC)) (full2 : Bool) (s3 : ByteArray) (k0 : Bool → Prop) : Prop where
  run : f95_d es1 full2 s3 k0
noncomputable def f95_p4L : Told := fun s K => match s with
  | ⟨tm, hp⟩ => getS [.v (.one (.sl 1)), .v (.one (.str)), .skip 3, .v (.one (.int .i64)), .skip 12] [] tm hp fun (xx : ((List (List PC) × Bool) × (ByteArray × (Unit × (Int × (Unit × Unit)))))) (yy : Unit) => f95_p4 xx.1.1 xx.1.2 xx.2.1 (fun b0_0 => K .ret ⟨mkS 18 [(4, B b0_0)], []⟩) (fun (_ : Unit) => K (.exit 0) ⟨mkS 18 [], []⟩) xx.2.2.2.1
noncomputable def f95_tab : List (Nat × Told) := [(4, f95_p4L)]
noncomputable def f95_call : FuncId → List TV → List Entry → (TV → List Entry → Prop) → Prop := noCalls
noncomputable def f95_C : Ctx := { ty := tyOf tab, glob := glob, byRef := byRef, keep := fun k i => lookN [] (lookN [] ([(4, [(0, [0, 1, 5]), (2, [4]), (3, [])])] : List (Nat × List (Nat × List Nat))) k) i, late := lookN [] ([] : List (Nat × List Nat)), nref := lookN [] ([] : List (Nat × List Nat)), nbox := lookN [] ([] : List (Nat × List (Nat × Nat))), take := [], rnil := false, m := 0, fz := true, loops := lookL f95_tab, call := f95_call }
noncomputable def f95_p4_mk (es4 : List (List PC)) (full5 : Bool) (s6 : ByteArray) (x : Int) : St := ⟨mkS 18 [(0, .w (.one (.p (.sl 1 es4 full5)))), (1, S s6), (5, I x)], []⟩
set_option maxRecDepth 100000 in
theorem f95_p4e0 (es_6 : List (List PC)) (full_7 : Bool) (s_8 : ByteArray) (n_9 : Int) (N : St → Prop) (K : TExit → St → Prop) : (f95_p4b0 es_6 full_7 s_8 n_9 (fun z3 => N (f95_p4_mk es_6 full_7 s_8 z3)) (fun b0_10 => K .ret ⟨mkS 18 [(4, B b0_10)], []⟩) (fun (_ : Unit) => K (.exit 0) ⟨mkS 18 [], []⟩)) = execT f95_C (nthC (bodies (bodyOf Tryd.f95)) 0) (f95_p4_mk es_6 full_7 s_8 n_9) (loopK N (normK f95_C 4) fun e s => K e (normOut f95_C 4 e s)) := by kernel_rfl
set_option maxHeartbeats 4000000 in
theorem f95_p4_ok : LoopOk f95_C (nthC (bodies (bodyOf Tryd.f95)) 0) := by
  refine LoopOk.of f95_p4L (by kernel_rfl) fun σ K h => ?_
  have hk : loopKey (nthC (bodies (bodyOf Tryd.f95)) 0) = 4 := by kernel_rfl
  rw [hk] at h ⊢
  generalize hs : normK f95_C 4 σ = s at h
  obtain ⟨tm, hp⟩ := s
  unfold f95_p4L at h
  dsimp only at h
  obtain ⟨xx, yy, rfl, rfl, h⟩ := getS_elim h
  refine iter_of (f95_p4_mk xx.1.1 xx.1.2 xx.2.1) (fun x N h => ?_) rounds _ σ (hs.trans (by kernel_rfl)) (LoopP.run h)
  rw [← f95_p4e0 xx.1.1 xx.1.2 xx.2.1 x N K]
  exact h
noncomputable def f95_G0 : List TV → List Entry → (TV → List Entry → Prop) → Prop := fun tm hp K => getS [.v (.one (.sl 1)), .v (.one (.str))] [] tm hp fun (xx : ((List (List PC) × Bool) × (ByteArray × Unit))) (yy : Unit) => f95 xx.1.1 xx.1.2 xx.2.1 (fun b0_1 => K (B b0_1) [])
set_option maxRecDepth 100000 in
theorem f95_eq (es_11 : List (List PC)) (full_12 : Bool) (s_13 : ByteArray) (K : TV → List Entry → Prop) : (f95_d es_11 full_12 s_13 (fun b0_1 => K (B b0_1) [])) = funcT f95_C Tryd.f95 [.w (.one (.p (.sl 1 es_11 full_12))), S s_13] [] K := by kernel_rfl
set_option maxHeartbeats 4000000 in
theorem f95_ok0 : FnOk Tryd.prog glob 95 f95_G0 := by
  refine FnOk.of_text (C := f95_C) tab_ok.ok (Known.none) follows_ok (fn := Tryd.f95) (by kernel_rfl) (by kernel_rfl) (by kernel_rfl) (fun c hc => ?_) fun tm hp K h => ?_
  · have e : c = bodyOf Tryd.f95 := Option.some.inj (hc.symm.trans (by kernel_rfl))
    subst e
    exact ⟨LoopsOk.of [nthC (bodies (bodyOf Tryd.f95)) 0] (by kernel_rfl) ⟨f95_p4_ok, trivial⟩, TailsOk.of (tab := f95_tab) rfl [] (by kernel_rfl) trivial⟩
  · unfold f95_G0 at h
    obtain ⟨xx, yy, rfl, rfl, h⟩ := getS_elim h
    have e := (f95_eq xx.1.1 xx.1.2 xx.2.1 K).trans (show _ = funcT f95_C Tryd.f95 (mkR _ xx) (mkE _ yy) K by kernel_rfl)
    rw [← e]
    exact h.run
noncomputable abbrev f95_G := f95_G0
theorem f95_G_ok : FnOk Tryd.prog glob 95 f95_G := f95_ok0
end Go.Eng.N
set_option linter.unusedVariables false
set_option maxRecDepth 100000
open Go Go.Eng Go.Proofs
namespace Go.Eng.N
/-! ### f54: plenum/plenumref39.names -/
noncomputable def f54_p8b0 (n10 : Int) (n11 : Int) (n12 : Int) (i13 : Nat) (n14 : Nat) (n15 : Int) (s16 : ByteArray) (n17 : Int) (n18 : Int) (es19 : List (List PC)) (full20 : Bool) (es21 : List (List PC)) (N0 : Nat → Nat → Int → (List (List PC)) → Prop) (k0 : Nat → Nat → (List (List PC)) → Prop) : Prop := bB (decide (n15 < ((es19.length : Nat) : Int))) ((0 ≤ n15 ∧ n15 < ((es19.length : Nat) : Int)) ∧ cS (ext (List.getD es19 (Int.toNat n15) []) 0 5) fun s23 r22 => cI .i64 r22 fun n25 r24 => cI .i64 r24 fun n27 r26 => cI .i64 r26 fun n29 r28 => cI .i64 r28 fun n31 r30 => nilC r30 <| f56 n10 (fun n32 => f94 s23 n25 n27 n29 n31 n11 n12 n32 (fun b33 => bB b33 (f95 (List.take n14 (List.drop i13 es21)) false s23 (fun b34 => bB (!b34) ((i13 + n14) = es21.length ∧ (n14 + 1) * 16 ≤ 2 ^ 46 ∧ (n14 + 1) ≤ 2 ^ 46 ∧ N0 0 (n14 + 1) (w64 (n15 + 1)) (List.drop i13 es21 ++ [[pS s23]])) (N0 i13 n14 (w64 (n15 + 1)) es21))) (N0 i13 n14 (w64 (n15 + 1)) es21)))) (k0 i13 n14 es21)
noncomputable def f54_p8 (n10 : Int) (n11 : Int) (n12 : Int) (s16 : ByteArray) (n17 : Int) (n18 : Int) (es19 : List (List PC)) (full20 : Bool) (k0 : Nat → Nat → (List (List PC)) → Prop) : Nat × Nat × Int × (List (List PC)) → Prop := LoopP fun x N => f54_p8b0 n10 n11 n12 x.1 x.2.1 x.2.2.1 s16 n17 n18 es19 full20 x.2.2.2 (fun i13 n14 n15 es21 => N (i13, n14, n15, es21)) k0
noncomputable def f54_d (s1 : ByteArray) (n2 : Int) (n3 : Int) (es4 : List (List PC)) (full5 : Bool) (n6 : Int) (n7 : Int) (k0 : (List (List PC)) → Bool → Prop) : Prop := f93 n6 (fun n8 n9 => f54_p8 n7 n8 n9 s1 n2 n3 es4 full5 (fun i35 n36 es37 => k0 (List.take n36 (List.drop i35 es37)) false) (0, 0, 0, []))
structure f54 (s1 : ByteArray) (n2 : Int) (n3 : Int) (es4 : List (List PC)) (full5 : Bool) (n6 : Int) (n7 : Int) (k0 : (List (List PC)) → Bool → Prop) : Prop where
  run : f54_d s1 n2 n3 es4 full5 n6 n7 k0
noncomputable def f54_p8L : Told := fun s K => match s with
  | ⟨tm, hp⟩ => getS [.skip 2, .v (.one (.int .i64)), .v (.one (.ptr 0 0 0)), .skip 3, .v (.one (.int .i64)), .v (.one (.int .i64)), .v (.one (.ref 1)), .v (.one (.int .i64)), .skip 38] [.box [.str, .int .i64, .int .i64, .sl 5], .vec 1 true] tm hp fun (xx : (Unit × (Int × (Unit × (Unit × (Int × (Int × ((Nat × Nat) × (Int × (Unit × Unit)))))))))) (yy : ((ByteArray × (Int × (Int × ((List (List PC) × Bool) × Unit)))) × ((List (List PC)) × Unit))) => f54_p8 xx.2.1 xx.2.2.2.2.1 xx.2.2.2.2.2.1 yy.1.1 yy.1.2.1 yy.1.2.2.1 yy.1.2.2.2.1.1 yy.1.2.2.2.1.2 (fun i0_0 n0_1 es0_2 => K (.exit 0) ⟨mkS 49 [(9, .w (.one (.ref 0 i0_0 n0_1)))], [.vec 1 es0_2 true]⟩) (xx.2.2.2.2.2.2.1.1, xx.2.2.2.2.2.2.1.2, xx.2.2.2.2.2.2.2.1, yy.2.1)
noncomputable def f54_tab : List (Nat × Told) := [(8, f54_p8L)]
noncomputable def f54_call : FuncId → List TV → List Entry → (TV → List Entry → Prop) → Prop := addCall 95 f95_G (addCall 94 f94_G (addCall 93 f93_G (addCall 56 f56_G (noCalls))))
noncomputable def f54_C : Ctx := { ty := tyOf tab, glob := glob, byRef := byRef, keep := fun k i => lookN [] (lookN [] ([(8, [(0, [2, 3, 7, 8, 9, 10]), (2, [6]), (3, [9])])] : List (Nat × List (Nat × List Nat))) k) i, late := lookN [] ([] : List (Nat × List Nat)), nref := lookN [] ([] : List (Nat × List Nat)), nbox := lookN [] ([] : List (Nat × List (Nat × Nat))), take := [], rnil := false, m := 0, fz := true, loops := lookL f54_tab, call := f54_call }
noncomputable def f54_p8_mk (n10 : Int) (n11 : Int) (n12 : Int) (s16 : ByteArray) (n17 : Int) (n18 : Int) (es19 : List (List PC)) (full20 : Bool) (x : Nat × Nat × Int × (List (List PC))) : St := ⟨mkS 49 [(2, I n10), (3, .w (.one (.ptr 0 0 0))), (7, I n11), (8, I n12), (9, .w (.one (.ref 1 x.1 x.2.1))), (10, I x.2.2.1)], [.box [.p (pS s16), .p (pI n17), .p (pI n18), .p (.sl 5 es19 full20)], .vec 1 x.2.2.2 true]⟩
set_option maxRecDepth 100000 in
theorem f54_p8e0 (n_17 : Int) (n_18 : Int) (n_19 : Int) (i_20 : Nat) (n_21 : Nat) (n_22 : Int) (s_23 : ByteArray) (n_24 : Int) (n_25 : Int) (es_26 : List (List PC)) (full_27 : Bool) (es_28 : List (List PC)) (N : St → Prop) (K : TExit → St → Prop) : (f54_p8b0 n_17 n_18 n_19 i_20 n_21 n_22 s_23 n_24 n_25 es_26 full_27 es_28 (fun z3 z4 z5 z11 => N (f54_p8_mk n_17 n_18 n_19 s_23 n_24 n_25 es_26 full_27 (z3, z4, z5, z11))) (fun i0_29 n0_30 es0_31 => K (.exit 0) ⟨mkS 49 [(9, .w (.one (.ref 0 i0_29 n0_30)))], [.vec 1 es0_31 true]⟩)) = execT f54_C (nthC (bodies (bodyOf Tryd.f54)) 0) (f54_p8_mk n_17 n_18 n_19 s_23 n_24 n_25 es_26 full_27 (i_20, n_21, n_22, es_28)) (loopK N (normK f54_C 8) fun e s => K e (normOut f54_C 8 e s)) := by kernel_rfl
set_option maxHeartbeats 4000000 in
theorem f54_p8_ok : LoopOk f54_C (nthC (bodies (bodyOf Tryd.f54)) 0) := by
  refine LoopOk.of f54_p8L (by kernel_rfl) fun σ K h => ?_
  have hk : loopKey (nthC (bodies (bodyOf Tryd.f54)) 0) = 8 := by kernel_rfl
  rw [hk] at h ⊢
  generalize hs : normK f54_C 8 σ = s at h
  obtain ⟨tm, hp⟩ := s
  unfold f54_p8L at h
  dsimp only at h
  obtain ⟨xx, yy, rfl, rfl, h⟩ := getS_elim h
  refine iter_of (f54_p8_mk xx.2.1 xx.2.2.2.2.1 xx.2.2.2.2.2.1 yy.1.1 yy.1.2.1 yy.1.2.2.1 yy.1.2.2.2.1.1 yy.1.2.2.2.1.2) (fun x N h => ?_) rounds _ σ (hs.trans (by kernel_rfl)) (LoopP.run h)
  obtain ⟨y0, y1, y2, y3⟩ := x
  rw [← f54_p8e0 xx.2.1 xx.2.2.2.2.1 xx.2.2.2.2.2.1 y0 y1 y2 yy.1.1 yy.1.2.1 yy.1.2.2.1 yy.1.2.2.2.1.1 yy.1.2.2.2.1.2 y3 N K]
  exact h
noncomputable def f54_G0 : List TV → List Entry → (TV → List Entry → Prop) → Prop := fun tm hp K => getS [.v (.pagg [.str, .int .i64, .int .i64, .sl 5]), .v (.one (.int .i64)), .v (.one (.int .i64))] [] tm hp fun (xx : ((ByteArray × (Int × (Int × ((List (List PC) × Bool) × Unit)))) × (Int × (Int × Unit)))) (yy : Unit) => f54 xx.1.1 xx.1.2.1 xx.1.2.2.1 xx.1.2.2.2.1.1 xx.1.2.2.2.1.2 xx.2.1 xx.2.2.1 (fun es0_3 full0_4 => K (.w (.one (.p (.sl 1 es0_3 full0_4)))) [])
set_option maxRecDepth 100000 in
theorem f54_eq (s_32 : ByteArray) (n_33 : Int) (n_34 : Int) (es_35 : List (List PC)) (full_36 : Bool) (n_37 : Int) (n_38 : Int) (K : TV → List Entry → Prop) : (f54_d s_32 n_33 n_34 es_35 full_36 n_37 n_38 (fun es0_3 full0_4 => K (.w (.one (.p (.sl 1 es0_3 full0_4)))) [])) = funcT f54_C Tryd.f54 [.w (.pagg [pS s_32, pI n_33, pI n_34, .sl 5 es_35 full_36]), I n_37, I n_38] [] K := by kernel_rfl
set_option maxHeartbeats 4000000 in
theorem f54_ok0 : FnOk Tryd.prog glob 54 f54_G0 := by
  refine FnOk.of_text (C := f54_C) tab_ok.ok (Known.add f95_G_ok (Known.add f94_G_ok (Known.add f93_G_ok (Known.add f56_G_ok (Known.none))))) follows_ok (fn := Tryd.f54) (by kernel_rfl) (by kernel_rfl) (by kernel_rfl) (fun c hc => ?_) fun tm hp K h => ?_
  · have e : c = bodyOf Tryd.f54 := Option.some.inj (hc.symm.trans (by kernel_rfl))
    subst e
    exact ⟨LoopsOk.of [nthC (bodies (bodyOf Tryd.f54)) 0] (by kernel_rfl) ⟨f54_p8_ok, trivial⟩, TailsOk.of (tab := f54_tab) rfl [] (by kernel_rfl) trivial⟩
  · unfold f54_G0 at h
    obtain ⟨xx, yy, rfl, rfl, h⟩ := getS_elim h
    have e := (f54_eq xx.1.1 xx.1.2.1 xx.1.2.2.1 xx.1.2.2.2.1.1 xx.1.2.2.2.1.2 xx.2.1 xx.2.2.1 K).trans (show _ = funcT f54_C Tryd.f54 (mkR _ xx) (mkE _ yy) K by kernel_rfl)
    rw [← e]
    exact h.run
noncomputable abbrev f54_G := f54_G0
theorem f54_G_ok : FnOk Tryd.prog glob 54 f54_G := f54_ok0
end Go.Eng.N
set_option linter.unusedVariables false
set_option maxRecDepth 100000
open Go Go.Eng Go.Proofs
namespace Go.Eng.N
/-! ### f20: plenum/plenumref39.Told -/
noncomputable def f20_d (s1 : ByteArray) (n2 : Int) (n3 : Int) (es4 : List (List PC)) (full5 : Bool) (n6 : Int) (n7 : Int) (k0 : (List (List PC)) → Bool → Int → Prop) : Prop := f17 s1 n2 n3 es4 full5 (fun n8 => bB (n8 != 0) (k0 [] true n8) (f53 n6 n7 (fun b9 => bB (!b9) (k0 [] true 6) (f54 s1 n2 n3 es4 full5 n6 n7 (fun es10 full11 => k0 es10 full11 0)))))
structure f20 (s1 : ByteArray) (n2 : Int) (n3 : Int) (es4 : List (List PC)) (full5 : Bool) (n6 : Int) (n7 : Int) (k0 : (List (List PC)) → Bool → Int → Prop) : Prop where
  run : f20_d s1 n2 n3 es4 full5 n6 n7 k0
noncomputable def f20_tab : List (Nat × Told) := []
noncomputable def f20_call : FuncId → List TV → List Entry → (TV → List Entry → Prop) → Prop := addCall 54 f54_G (addCall 53 f53_G (addCall 17 f17_G (noCalls)))
noncomputable def f20_C : Ctx := { ty := tyOf tab, glob := glob, byRef := byRef, keep := fun k i => lookN [] (lookN [] ([] : List (Nat × List (Nat × List Nat))) k) i, late := lookN [] ([] : List (Nat × List Nat)), nref := lookN [] ([] : List (Nat × List Nat)), nbox := lookN [] ([] : List (Nat × List (Nat × Nat))), take := [], rnil := false, m := 0, fz := true, loops := lookL f20_tab, call := f20_call }
noncomputable def f20_G0 : List TV → List Entry → (TV → List Entry → Prop) → Prop := fun tm hp K => getS [.v (.pagg [.str, .int .i64, .int .i64, .sl 5]), .v (.one (.int .i64)), .v (.one (.int .i64))] [] tm hp fun (xx : ((ByteArray × (Int × (Int × ((List (List PC) × Bool) × Unit)))) × (Int × (Int × Unit)))) (yy : Unit) => f20 xx.1.1 xx.1.2.1 xx.1.2.2.1 xx.1.2.2.2.1.1 xx.1.2.2.2.1.2 xx.2.1 xx.2.2.1 (fun es0_0 full0_1 n0_2 => K (.tup [.one (.p (.sl 1 es0_0 full0_1)), .one (.p (pI n0_2))]) [])
set_option maxRecDepth 100000 in
theorem f20_eq (s_3 : ByteArray) (n_4 : Int) (n_5 : Int) (es_6 : List (List PC)) (full_7 : Bool) (n_8 : Int) (n_9 : Int) (K : TV → List Entry → Prop) : (f20_d s_3 n_4 n_5 es_6 full_7 n_8 n_9 (fun es0_0 full0_1 n0_2 => K (.tup [.one (.p (.sl 1 es0_0 full0_1)), .one (.p (pI n0_2))]) [])) = funcT f20_C Tryd.f20 [.w (.pagg [pS s_3, pI n_4, pI n_5, .sl 5 es_6 full_7]), I n_8, I n_9] [] K := by kernel_rfl
set_option maxHeartbeats 4000000 in
theorem f20_ok0 : FnOk Tryd.prog glob 20 f20_G0 := by
  refine FnOk.of_text (C := f20_C) tab_ok.ok (Known.add f54_G_ok (Known.add f53_G_ok (Known.add f17_G_ok (Known.none)))) follows_ok (fn := Tryd.f20) (by kernel_rfl) (by kernel_rfl) (by kernel_rfl) (fun c hc => ?_) fun tm hp K h => ?_
  · have e : c = bodyOf Tryd.f20 := Option.some.inj (hc.symm.trans (by kernel_rfl))
    subst e
    exact ⟨LoopsOk.of [] (by kernel_rfl) trivial, TailsOk.of (tab := f20_tab) rfl [] (by kernel_rfl) trivial⟩
  · unfold f20_G0 at h
    obtain ⟨xx, yy, rfl, rfl, h⟩ := getS_elim h
    have e := (f20_eq xx.1.1 xx.1.2.1 xx.1.2.2.1 xx.1.2.2.2.1.1 xx.1.2.2.2.1.2 xx.2.1 xx.2.2.1 K).trans (show _ = funcT f20_C Tryd.f20 (mkR _ xx) (mkE _ yy) K by kernel_rfl)
    rw [← e]
    exact h.run
noncomputable abbrev f20_G := f20_G0
theorem f20_G_ok : FnOk Tryd.prog glob 20 f20_G := f20_ok0
end Go.Eng.N
set_option linter.unusedVariables false
set_option maxRecDepth 100000
open Go Go.Eng Go.Proofs
namespace Go.Eng.N
/-! ### f22: plenum/plenumref39.Notices -/
noncomputable def f22_p12b0 (es16 : List (List PC)) (full17 : Bool) (i18 : Nat) (n19 : Nat) (n20 : Int) (s21 : ByteArray) (n22 : Int) (n23 : Int) (es24 : List (List PC)) (full25 : Bool) (n26 : Int) (s27 : ByteArray) (n28 : Int) (n29 : Int) (n30 : Int) (n31 : Int) (n32 : Int) (es33 : List (List PC)) (N0 : Nat → Nat → Int → (List (List PC)) → Prop) (k0 : Nat → Nat → (List (List PC)) → Prop) : Prop := bB (decide (n20 < ((es16.length : Nat) : Int))) ((0 ≤ n20 ∧ n20 < ((es16.length : Nat) : Int)) ∧ oS (ext (List.getD es16 (Int.toNat n20) []) 0 1) fun s34 => f56 n30 (fun n35 => n35 ≠ 0 ∧ (2 : Int) ≠ 0 ∧ (i18 + n19) = es33.length ∧ (n19 + 1) * 96 ≤ 2 ^ 46 ∧ (n19 + 1) ≤ 2 ^ 46 ∧ N0 0 (n19 + 1) (w64 (n20 + 1)) (List.drop i18 es33 ++ [[pS s34, pI n26, pS s27, pI n28, pI n29, pI n30, pI n31, pI n32, pI n22, pB ((Int.tmod (w64 (Int.tdiv n23 n35)) 2) == 1)]]))) (k0 i18 n19 es33)
noncomputable def f22_p12 (es16 : List (List PC)) (full17 : Bool) (s21 : ByteArray) (n22 : Int) (n23 : Int) (es24 : List (List PC)) (full25 : Bool) (n26 : Int) (s27 : ByteArray) (n28 : Int) (n29 : Int) (n30 : Int) (n31 : Int) (n32 : Int) (k0 : Nat → Nat → (List (List PC)) → Prop) : Nat × Nat × Int × (List (List PC)) → Prop := LoopP fun x N => f22_p12b0 es16 full17 x.1 x.2.1 x.2.2.1 s21 n22 n23 es24 full25 n26 s27 n28 n29 n30 n31 n32 x.2.2.2 (fun i18 n19 n20 es33 => N (i18, n19, n20, es33)) k0
noncomputable def f22_d (s1 : ByteArray) (n2 : Int) (n3 : Int) (es4 : List (List PC)) (full5 : Bool) (n6 : Int) (s7 : ByteArray) (n8 : Int) (n9 : Int) (n10 : Int) (n11 : Int) (n12 : Int) (k0 : (List (List PC)) → Bool → Int → Prop) : Prop := f20 s1 n2 n3 es4 full5 n8 n10 (fun es13 full14 n15 => bB (n15 != 0) (k0 [] true n15) (f22_p12 es13 full14 s1 n2 n3 es4 full5 n6 s7 n8 n9 n10 n11 n12 (fun i36 n37 es38 => k0 (List.take n37 (List.drop i36 es38)) false 0) (0, 0, 0, [])))
structure f22 (s1 : ByteArray) (n2 : Int) (n3 : Int) (es4 : List (List PC)) (full5 : Bool) (n6 : Int) (s7 : ByteArray) (n8 : Int) (n9 : Int) (n10 : Int) (n11 : Int) (n12 : Int) (k0 : (List (List PC)) → Bool → Int → Prop) : Prop where
  run : f22_d s1 n2 n3 es4 full5 n6 s7 n8 n9 n10 n11 n12 k0
noncomputable def f22_p12L : Told := fun s K => match s with
  | ⟨tm, hp⟩ => getS [.skip 2, .v (.one (.ptr 0 0 0)), .v (.one (.ptr 1 0 0)), .skip 2, .v (.one (.sl 1)), .skip 1, .v (.one (.ref 2)), .v (.one (.int .i64)), .skip 39] [.box [.str, .int .i64, .int .i64, .sl 5], .box [.int .i64, .str, .int .i64, .int .i64, .int .i64, .int .i64, .int .i64], .vec 10 true] tm hp fun (xx : (Unit × (Unit × (Unit × (Unit × ((List (List PC) × Bool) × (Unit × ((Nat × Nat) × (Int × (Unit × Unit)))))))))) (yy : ((ByteArray × (Int × (Int × ((List (List PC) × Bool) × Unit)))) × ((Int × (ByteArray × (Int × (Int × (Int × (Int × (Int × Unit))))))) × ((List (List PC)) × Unit)))) => f22_p12 xx.2.2.2.2.1.1 xx.2.2.2.2.1.2 yy.1.1 yy.1.2.1 yy.1.2.2.1 yy.1.2.2.2.1.1 yy.1.2.2.2.1.2 yy.2.1.1 yy.2.1.2.1 yy.2.1.2.2.1 yy.2.1.2.2.2.1 yy.2.1.2.2.2.2.1 yy.2.1.2.2.2.2.2.1 yy.2.1.2.2.2.2.2.2.1 (fun i0_0 n0_1 es0_2 => K (.exit 0) ⟨mkS 49 [(8, .w (.one (.ref 0 i0_0 n0_1)))], [.vec 10 es0_2 true]⟩) (xx.2.2.2.2.2.2.1.1, xx.2.2.2.2.2.2.1.2, xx.2.2.2.2.2.2.2.1, yy.2.2.1)
noncomputable def f22_tab : List (Nat × Told) := [(12, f22_p12L)]
noncomputable def f22_call : FuncId → List TV → List Entry → (TV → List Entry → Prop) → Prop := addCall 56 f56_G (addCall 20 f20_G (noCalls))
noncomputable def f22_C : Ctx := { ty := tyOf tab, glob := glob, byRef := byRef, keep := fun k i => lookN [] (lookN [] ([(12, [(0, [2, 3, 6, 8, 9]), (2, [4, 5]), (3, [8])])] : List (Nat × List (Nat × List Nat))) k) i, late := lookN [] ([] : List (Nat × List Nat)), nref := lookN [] ([] : List (Nat × List Nat)), nbox := lookN [] ([] : List (Nat × List (Nat × Nat))), take := [], rnil := false, m := 0, fz := true, loops := lookL f22_tab, call := f22_call }
noncomputable def f22_p12_mk (es16 : List (List PC)) (full17 : Bool) (s21 : ByteArray) (n22 : Int) (n23 : Int) (es24 : List (List PC)) (full25 : Bool) (n26 : Int) (s27 : ByteArray) (n28 : Int) (n29 : Int) (n30 : Int) (n31 : Int) (n32 : Int) (x : Nat × Nat × Int × (List (List PC))) : St := ⟨mkS 49 [(2, .w (.one (.ptr 0 0 0))), (3, .w (.one (.ptr 1 0 0))), (6, .w (.one (.p (.sl 1 es16 full17)))), (8, .w (.one (.ref 2 x.1 x.2.1))), (9, I x.2.2.1)], [.box [.p (pS s21), .p (pI n22), .p (pI n23), .p (.sl 5 es24 full25)], .box [.p (pI n26), .p (pS s27), .p (pI n28), .p (pI n29), .p (pI n30), .p (pI n31), .p (pI n32)], .vec 10 x.2.2.2 true]⟩
set_option maxRecDepth 100000 in
theorem f22_p12e0 (es_24 : List (List PC)) (full_25 : Bool) (i_26 : Nat) (n_27 : Nat) (n_28 : Int) (s_29 : ByteArray) (n_30 : Int) (n_31 : Int) (es_32 : List (List PC)) (full_33 : Bool) (n_34 : Int) (s_35 : ByteArray) (n_36 : Int) (n_37 : Int) (n_38 : Int) (n_39 : Int) (n_40 : Int) (es_41 : List (List PC)) (N : St → Prop) (K : TExit → St → Prop) : (f22_p12b0 es_24 full_25 i_26 n_27 n_28 s_29 n_30 n_31 es_32 full_33 n_34 s_35 n_36 n_37 n_38 n_39 n_40 es_41 (fun z2 z3 z4 z17 => N (f22_p12_mk es_24 full_25 s_29 n_30 n_31 es_32 full_33 n_34 s_35 n_36 n_37 n_38 n_39 n_40 (z2, z3, z4, z17))) (fun i0_42 n0_43 es0_44 => K (.exit 0) ⟨mkS 49 [(8, .w (.one (.ref 0 i0_42 n0_43)))], [.vec 10 es0_44 true]⟩)) = execT f22_C (nthC (bodies (bodyOf Tryd.f22)) 0) (f22_p12_mk es_24 full_25 s_29 n_30 n_31 es_32 full_33 n_34 s_35 n_36 n_37 n_38 n_39 n_40 (i_26, n_27, n_28, es_41)) (loopK N (normK f22_C 12) fun e s => K e (normOut f22_C 12 e s)) := by kernel_rfl
set_option maxHeartbeats 4000000 in
theorem f22_p12_ok : LoopOk f22_C (nthC (bodies (bodyOf Tryd.f22)) 0) := by
  refine LoopOk.of f22_p12L (by kernel_rfl) fun σ K h => ?_
  have hk : loopKey (nthC (bodies (bodyOf Tryd.f22)) 0) = 12 := by kernel_rfl
  rw [hk] at h ⊢
  generalize hs : normK f22_C 12 σ = s at h
  obtain ⟨tm, hp⟩ := s
  unfold f22_p12L at h
  dsimp only at h
  obtain ⟨xx, yy, rfl, rfl, h⟩ := getS_elim h
  refine iter_of (f22_p12_mk xx.2.2.2.2.1.1 xx.2.2.2.2.1.2 yy.1.1 yy.1.2.1 yy.1.2.2.1 yy.1.2.2.2.1.1 yy.1.2.2.2.1.2 yy.2.1.1 yy.2.1.2.1 yy.2.1.2.2.1 yy.2.1.2.2.2.1 yy.2.1.2.2.2.2.1 yy.2.1.2.2.2.2.2.1 yy.2.1.2.2.2.2.2.2.1) (fun x N h => ?_) rounds _ σ (hs.trans (by kernel_rfl)) (LoopP.run h)
  obtain ⟨y0, y1, y2, y3⟩ := x
  rw [← f22_p12e0 xx.2.2.2.2.1.1 xx.2.2.2.2.1.2 y0 y1 y2 yy.1.1 yy.1.2.1 yy.1.2.2.1 yy.1.2.2.2.1.1 yy.1.2.2.2.1.2 yy.2.1.1 yy.2.1.2.1 yy.2.1.2.2.1 yy.2.1.2.2.2.1 yy.2.1.2.2.2.2.1 yy.2.1.2.2.2.2.2.1 yy.2.1.2.2.2.2.2.2.1 y3 N K]
  exact h
noncomputable def f22_G0 : List TV → List Entry → (TV → List Entry → Prop) → Prop := fun tm hp K => getS [.v (.pagg [.str, .int .i64, .int .i64, .sl 5]), .v (.pagg [.int .i64, .str, .int .i64, .int .i64, .int .i64, .int .i64, .int .i64])] [] tm hp fun (xx : ((ByteArray × (Int × (Int × ((List (List PC) × Bool) × Unit)))) × ((Int × (ByteArray × (Int × (Int × (Int × (Int × (Int × Unit))))))) × Unit))) (yy : Unit) => f22 xx.1.1 xx.1.2.1 xx.1.2.2.1 xx.1.2.2.2.1.1 xx.1.2.2.2.1.2 xx.2.1.1 xx.2.1.2.1 xx.2.1.2.2.1 xx.2.1.2.2.2.1 xx.2.1.2.2.2.2.1 xx.2.1.2.2.2.2.2.1 xx.2.1.2.2.2.2.2.2.1 (fun es0_3 full0_4 n0_5 => K (.tup [.one (.p (.sl 10 es0_3 full0_4)), .one (.p (pI n0_5))]) [])
set_option maxRecDepth 100000 in
theorem f22_eq (s_45 : ByteArray) (n_46 : Int) (n_47 : Int) (es_48 : List (List PC)) (full_49 : Bool) (n_50 : Int) (s_51 : ByteArray) (n_52 : Int) (n_53 : Int) (n_54 : Int) (n_55 : Int) (n_56 : Int) (K : TV → List Entry → Prop) : (f22_d s_45 n_46 n_47 es_48 full_49 n_50 s_51 n_52 n_53 n_54 n_55 n_56 (fun es0_3 full0_4 n0_5 => K (.tup [.one (.p (.sl 10 es0_3 full0_4)), .one (.p (pI n0_5))]) [])) = funcT f22_C Tryd.f22 [.w (.pagg [pS s_45, pI n_46, pI n_47, .sl 5 es_48 full_49]), .w (.pagg [pI n_50, pS s_51, pI n_52, pI n_53, pI n_54, pI n_55, pI n_56])] [] K := by kernel_rfl
set_option maxHeartbeats 4000000 in
theorem f22_ok0 : FnOk Tryd.prog glob 22 f22_G0 := by
  refine FnOk.of_text (C := f22_C) tab_ok.ok (Known.add f56_G_ok (Known.add f20_G_ok (Known.none))) follows_ok (fn := Tryd.f22) (by kernel_rfl) (by kernel_rfl) (by kernel_rfl) (fun c hc => ?_) fun tm hp K h => ?_
  · have e : c = bodyOf Tryd.f22 := Option.some.inj (hc.symm.trans (by kernel_rfl))
    subst e
    exact ⟨LoopsOk.of [nthC (bodies (bodyOf Tryd.f22)) 0] (by kernel_rfl) ⟨f22_p12_ok, trivial⟩, TailsOk.of (tab := f22_tab) rfl [] (by kernel_rfl) trivial⟩
  · unfold f22_G0 at h
    obtain ⟨xx, yy, rfl, rfl, h⟩ := getS_elim h
    have e := (f22_eq xx.1.1 xx.1.2.1 xx.1.2.2.1 xx.1.2.2.2.1.1 xx.1.2.2.2.1.2 xx.2.1.1 xx.2.1.2.1 xx.2.1.2.2.1 xx.2.1.2.2.2.1 xx.2.1.2.2.2.2.1 xx.2.1.2.2.2.2.2.1 xx.2.1.2.2.2.2.2.2.1 K).trans (show _ = funcT f22_C Tryd.f22 (mkR _ xx) (mkE _ yy) K by kernel_rfl)
    rw [← e]
    exact h.run
noncomputable abbrev f22_G := f22_G0
theorem f22_G_ok : FnOk Tryd.prog glob 22 f22_G := f22_ok0
end Go.Eng.N
set_option linter.unusedVariables false
set_option maxRecDepth 100000
open Go Go.Eng Go.Proofs
namespace Go.Eng.N
/-! ### f19: plenum/notify.Told -/
noncomputable def f19_d (s1 : ByteArray) (n2 : Int) (n3 : Int) (es4 : List (List PC)) (full5 : Bool) (n6 : Int) (n7 : Int) (k0 : (List (List PC)) → Bool → Int → Prop) : Prop := f16 s1 n2 n3 es4 full5 (fun n8 => bB (n8 != 0) (k0 [] true n8) (f51 n6 n7 (fun n9 => bB (n9 != 0) (k0 [] true n9) (f52 s1 n2 n3 es4 full5 n6 n7 (fun es10 full11 => k0 es10 full11 0)))))
structure f19 (s1 : ByteArray) (n2 : Int) (n3 : Int) (es4 : List (List PC)) (full5 : Bool) (n6 : Int) (n7 : Int) (k0 : (List (List PC)) → Bool → Int → Prop) : Prop where
  run : f19_d s1 n2 n3 es4 full5 n6 n7 k0
noncomputable def f19_tab : List (Nat × Told) := []
noncomputable def f19_call : FuncId → List TV → List Entry → (TV → List Entry → Prop) → Prop := addCall 52 f52_G (addCall 51 f51_G (addCall 16 f16_G (noCalls)))
noncomputable def f19_C : Ctx := { ty := tyOf tab, glob := glob, byRef := byRef, keep := fun k i => lookN [] (lookN [] ([] : List (Nat × List (Nat × List Nat))) k) i, late := lookN [] ([] : List (Nat × List Nat)), nref := lookN [] ([] : List (Nat × List Nat)), nbox := lookN [] ([] : List (Nat × List (Nat × Nat))), take := [], rnil := false, m := 0, fz := true, loops := lookL f19_tab, call := f19_call }
noncomputable def f19_G0 : List TV → List Entry → (TV → List Entry → Prop) → Prop := fun tm hp K => getS [.v (.pagg [.str, .int .i64, .int .i64, .sl 5]), .v (.one (.int .i64)), .v (.one (.int .i64))] [] tm hp fun (xx : ((ByteArray × (Int × (Int × ((List (List PC) × Bool) × Unit)))) × (Int × (Int × Unit)))) (yy : Unit) => f19 xx.1.1 xx.1.2.1 xx.1.2.2.1 xx.1.2.2.2.1.1 xx.1.2.2.2.1.2 xx.2.1 xx.2.2.1 (fun es0_0 full0_1 n0_2 => K (.tup [.one (.p (.sl 1 es0_0 full0_1)), .one (.p (pI n0_2))]) [])
set_option maxRecDepth 100000 in
theorem f19_eq (s_3 : ByteArray) (n_4 : Int) (n_5 : Int) (es_6 : List (List PC)) (full_7 : Bool) (n_8 : Int) (n_9 : Int) (K : TV → List Entry → Prop) : (f19_d s_3 n_4 n_5 es_6 full_7 n_8 n_9 (fun es0_0 full0_1 n0_2 => K (.tup [.one (.p (.sl 1 es0_0 full0_1)), .one (.p (pI n0_2))]) [])) = funcT f19_C Tryd.f19 [.w (.pagg [pS s_3, pI n_4, pI n_5, .sl 5 es_6 full_7]), I n_8, I n_9] [] K := by kernel_rfl
set_option maxHeartbeats 4000000 in
theorem f19_ok0 : FnOk Tryd.prog glob 19 f19_G0 := by
  refine FnOk.of_text (C := f19_C) tab_ok.ok (Known.add f52_G_ok (Known.add f51_G_ok (Known.add f16_G_ok (Known.none)))) follows_ok (fn := Tryd.f19) (by kernel_rfl) (by kernel_rfl) (by kernel_rfl) (fun c hc => ?_) fun tm hp K h => ?_
  · have e : c = bodyOf Tryd.f19 := Option.some.inj (hc.symm.trans (by kernel_rfl))
    subst e
    exact ⟨LoopsOk.of [] (by kernel_rfl) trivial, TailsOk.of (tab := f19_tab) rfl [] (by kernel_rfl) trivial⟩
  · unfold f19_G0 at h
    obtain ⟨xx, yy, rfl, rfl, h⟩ := getS_elim h
    have e := (f19_eq xx.1.1 xx.1.2.1 xx.1.2.2.1 xx.1.2.2.2.1.1 xx.1.2.2.2.1.2 xx.2.1 xx.2.2.1 K).trans (show _ = funcT f19_C Tryd.f19 (mkR _ xx) (mkE _ yy) K by kernel_rfl)
    rw [← e]
    exact h.run
noncomputable abbrev f19_G := f19_G0
theorem f19_G_ok : FnOk Tryd.prog glob 19 f19_G := f19_ok0
end Go.Eng.N
set_option linter.unusedVariables false
set_option maxRecDepth 100000
open Go Go.Eng Go.Proofs
namespace Go.Eng.N
/-! ### f101: cmp.isNaN(int) -/
noncomputable def f101_d (n1 : Int) (k0 : Bool → Prop) : Prop := k0 (n1 != n1)
structure f101 (n1 : Int) (k0 : Bool → Prop) : Prop where
  run : f101_d n1 k0
noncomputable def f101_tab : List (Nat × Told) := []
noncomputable def f101_call : FuncId → List TV → List Entry → (TV → List Entry → Prop) → Prop := noCalls
noncomputable def f101_C : Ctx := { ty := tyOf tab, glob := glob, byRef := byRef, keep := fun k i => lookN [] (lookN [] ([] : List (Nat × List (Nat × List Nat))) k) i, late := lookN [] ([] : List (Nat × List Nat)), nref := lookN [] ([] : List (Nat × List Nat)), nbox := lookN [] ([] : List (Nat × List (Nat × Nat))), take := [], rnil := false, m := 0, fz := true, loops := lookL f101_tab, call := f101_call }
noncomputable def f101_G0 : List TV → List Entry → (TV → List Entry → Prop) → Prop := fun tm hp K => getS [.v (.one (.int .i64))] [] tm hp fun (xx : (Int × Unit)) (yy : Unit) => f101 xx.1 (fun b0_0 => K (B b0_0) [])
set_option maxRecDepth 100000 in
theorem f101_eq (n_1 : Int) (K : TV → List Entry → Prop) : (f101_d n_1 (fun b0_0 => K (B b0_0) [])) = funcT f101_C Tryd.f101 [I n_1] [] K := by kernel_rfl
set_option maxHeartbeats 4000000 in
theorem f101_ok0 : FnOk Tryd.prog glob 101 f101_G0 := by
  refine FnOk.of_text (C := f101_C) tab_ok.ok (Known.none) follows_ok (fn := Tryd.f101) (by kernel_rfl) (by kernel_rfl) (by kernel_rfl) (fun c hc => ?_) fun tm hp K h => ?_
  · have e : c = bodyOf Tryd.f101 := Option.some.inj (hc.symm.trans (by kernel_rfl))
    subst e
    exact ⟨LoopsOk.of [] (by kernel_rfl) trivial, TailsOk.of (tab := f101_tab) rfl [] (by kernel_rfl) trivial⟩
  · unfold f101_G0 at h
    obtain ⟨xx, yy, rfl, rfl, h⟩ := getS_elim h
    have e := (f101_eq xx.1 K).trans (show _ = funcT f101_C Tryd.f101 (mkR _ xx) (mkE _ yy) K by kernel_rfl)
    rw [← e]
    exact h.run
noncomputable abbrev f101_G := f101_G0
theorem f101_G_ok : FnOk Tryd.prog glob 101 f101_G := f101_ok0
end Go.Eng.N
set_option linter.unusedVariables false
set_option maxRecDepth 100000
open Go Go.Eng Go.Proofs
namespace Go.Eng.N
/-! ### f82: cmp.Compare(int) -/
noncomputable def f82_d (n1 : Int) (n2 : Int) (k0 : Int → Prop) : Prop := f101 n1 (fun b3 => f101 n2 (fun b4 => bB b3 (bB b4 (k0 0) (k0 (-1))) (bB b4 (k0 1) (bB (decide (n1 < n2)) (k0 (-1)) (bB (decide (n1 > n2)) (k0 1) (k0 0))))))
structure f82 (n1 : Int) (n2 : Int) (k0 : Int → Prop) : Prop where
  run : f82_d n1 n2 k0
noncomputable def f82_tab : List (Nat × Told) := []
noncomputable def f82_call : FuncId → List TV → List Entry → (TV → List Entry → Prop) → Prop := addCall 101 f101_G (noCalls)
noncomputable def f82_C : Ctx := { ty := tyOf tab, glob := glob, byRef := byRef, keep := fun k i => lookN [] (lookN [] ([] : List (Nat × List (Nat × List Nat))) k) i, late := lookN [] ([] : List (Nat × List Nat)), nref := lookN [] ([] : List (Nat × List Nat)), nbox := lookN [] ([] : List (Nat × List (Nat × Nat))), take := [], rnil := false, m := 0, fz := true, loops := lookL f82_tab, call := f82_call }
noncomputable def f82_G0 : List TV → List Entry → (TV → List Entry → Prop) → Prop := fun tm hp K => getS [.v (.one (.int .i64)), .v (.one (.int .i64))] [] tm hp fun (xx : (Int × (Int × Unit))) (yy : Unit) => f82 xx.1 xx.2.1 (fun n0_0 => K (I n0_0) [])
set_option maxRecDepth 100000 in
theorem f82_eq (n_1 : Int) (n_2 : Int) (K : TV → List Entry → Prop) : (f82_d n_1 n_2 (fun n0_0 => K (I n0_0) [])) = funcT f82_C Tryd.f82 [I n_1, I n_2] [] K := by kernel_rfl
set_option maxHeartbeats 4000000 in
theorem f82_ok0 : FnOk Tryd.prog glob 82 f82_G0 := by
  refine FnOk.of_text (C := f82_C) tab_ok.ok (Known.add f101_G_ok (Known.none)) follows_ok (fn := Tryd.f82) (by kernel_rfl) (by kernel_rfl) (by kernel_rfl) (fun c hc => ?_) fun tm hp K h => ?_
  · have e : c = bodyOf Tryd.f82 := Option.some.inj (hc.symm.trans (by kernel_rfl))
    subst e
    exact ⟨LoopsOk.of [] (by kernel_rfl) trivial, TailsOk.of (tab := f82_tab) rfl [] (by kernel_rfl) trivial⟩
  · unfold f82_G0 at h
    obtain ⟨xx, yy, rfl, rfl, h⟩ := getS_elim h
    have e := (f82_eq xx.1 xx.2.1 K).trans (show _ = funcT f82_C Tryd.f82 (mkR _ xx) (mkE _ yy) K by kernel_rfl)
    rw [← e]
    exact h.run
noncomputable abbrev f82_G := f82_G0
theorem f82_G_ok : FnOk Tryd.prog glob 82 f82_G := f82_ok0
end Go.Eng.N
set_option linter.unusedVariables false
set_option maxRecDepth 100000
open Go Go.Eng Go.Proofs
namespace Go.Eng.N
/-! ### f81: plenum/notify.Route$3 -/
noncomputable def f81_d (s1 : ByteArray) (n2 : Int) (s3 : ByteArray) (n4 : Int) (n5 : Int) (n6 : Int) (n7 : Int) (n8 : Int) (n9 : Int) (b10 : Bool) (s11 : ByteArray) (n12 : Int) (s13 : ByteArray) (n14 : Int) (n15 : Int) (n16 : Int) (n17 : Int) (n18 : Int) (n19 : Int) (b20 : Bool) (k0 : Int → Prop) : Prop := f82 n9 n19 (fun n21 => k0 n21)
structure f81 (s1 : ByteArray) (n2 : Int) (s3 : ByteArray) (n4 : Int) (n5 : Int) (n6 : Int) (n7 : Int) (n8 : Int) (n9 : Int) (b10 : Bool) (s11 : ByteArray) (n12 : Int) (s13 : ByteArray) (n14 : Int) (n15 : Int) (n16 : Int) (n17 : Int) (n18 : Int) (n19 : Int) (b20 : Bool) (k0 : Int → Prop) : Prop where
  run : f81_d s1 n2 s3 n4 n5 n6 n7 n8 n9 b10 s11 n12 s13 n14 n15 n16 n17 n18 n19 b20 k0
noncomputable def f81_tab : List (Nat × Told) := []
noncomputable def f81_call : FuncId → List TV → List Entry → (TV → List Entry → Prop) → Prop := addCall 82 f82_G (noCalls)
noncomputable def f81_C : Ctx := { ty := tyOf tab, glob := glob, byRef := byRef, keep := fun k i => lookN [] (lookN [] ([] : List (Nat × List (Nat × List Nat))) k) i, late := lookN [] ([] : List (Nat × List Nat)), nref := lookN [] ([] : List (Nat × List Nat)), nbox := lookN [] ([] : List (Nat × List (Nat × Nat))), take := [], rnil := false, m := 0, fz := true, loops := lookL f81_tab, call := f81_call }
noncomputable def f81_G0 : List TV → List Entry → (TV → List Entry → Prop) → Prop := fun tm hp K => getS [.v (.pagg [.str, .int .i64, .str, .int .i64, .int .i64, .int .i64, .int .i64, .int .i64, .int .i64, .bool]), .v (.pagg [.str, .int .i64, .str, .int .i64, .int .i64, .int .i64, .int .i64, .int .i64, .int .i64, .bool])] [] tm hp fun (xx : ((ByteArray × (Int × (ByteArray × (Int × (Int × (Int × (Int × (Int × (Int × (Bool × Unit)))))))))) × ((ByteArray × (Int × (ByteArray × (Int × (Int × (Int × (Int × (Int × (Int × (Bool × Unit)))))))))) × Unit))) (yy : Unit) => f81 xx.1.1 xx.1.2.1 xx.1.2.2.1 xx.1.2.2.2.1 xx.1.2.2.2.2.1 xx.1.2.2.2.2.2.1 xx.1.2.2.2.2.2.2.1 xx.1.2.2.2.2.2.2.2.1 xx.1.2.2.2.2.2.2.2.2.1 xx.1.2.2.2.2.2.2.2.2.2.1 xx.2.1.1 xx.2.1.2.1 xx.2.1.2.2.1 xx.2.1.2.2.2.1 xx.2.1.2.2.2.2.1 xx.2.1.2.2.2.2.2.1 xx.2.1.2.2.2.2.2.2.1 xx.2.1.2.2.2.2.2.2.2.1 xx.2.1.2.2.2.2.2.2.2.2.1 xx.2.1.2.2.2.2.2.2.2.2.2.1 (fun n0_0 => K (I n0_0) [])
set_option maxRecDepth 100000 in
theorem f81_eq (s_1 : ByteArray) (n_2 : Int) (s_3 : ByteArray) (n_4 : Int) (n_5 : Int) (n_6 : Int) (n_7 : Int) (n_8 : Int) (n_9 : Int) (b_10 : Bool) (s_11 : ByteArray) (n_12 : Int) (s_13 : ByteArray) (n_14 : Int) (n_15 : Int) (n_16 : Int) (n_17 : Int) (n_18 : Int) (n_19 : Int) (b_20 : Bool) (K : TV → List Entry → Prop) : (f81_d s_1 n_2 s_3 n_4 n_5 n_6 n_7 n_8 n_9 b_10 s_11 n_12 s_13 n_14 n_15 n_16 n_17 n_18 n_19 b_20 (fun n0_0 => K (I n0_0) [])) = funcT f81_C Tryd.f81 [.w (.pagg [pS s_1, pI n_2, pS s_3, pI n_4, pI n_5, pI n_6, pI n_7, pI n_8, pI n_9, pB b_10]), .w (.pagg [pS s_11, pI n_12, pS s_13, pI n_14, pI n_15, pI n_16, pI n_17, pI n_18, pI n_19, pB b_20])] [] K := by kernel_rfl
set_option maxHeartbeats 4000000 in
theorem f81_ok0 : FnOk Tryd.prog glob 81 f81_G0 := by
  refine FnOk.of_text (C := f81_C) tab_ok.ok (Known.add f82_G_ok (Known.none)) follows_ok (fn := Tryd.f81) (by kernel_rfl) (by kernel_rfl) (by kernel_rfl) (fun c hc => ?_) fun tm hp K h => ?_
  · have e : c = bodyOf Tryd.f81 := Option.some.inj (hc.symm.trans (by kernel_rfl))
    subst e
    exact ⟨LoopsOk.of [] (by kernel_rfl) trivial, TailsOk.of (tab := f81_tab) rfl [] (by kernel_rfl) trivial⟩
  · unfold f81_G0 at h
    obtain ⟨xx, yy, rfl, rfl, h⟩ := getS_elim h
    have e := (f81_eq xx.1.1 xx.1.2.1 xx.1.2.2.1 xx.1.2.2.2.1 xx.1.2.2.2.2.1 xx.1.2.2.2.2.2.1 xx.1.2.2.2.2.2.2.1 xx.1.2.2.2.2.2.2.2.1 xx.1.2.2.2.2.2.2.2.2.1 xx.1.2.2.2.2.2.2.2.2.2.1 xx.2.1.1 xx.2.1.2.1 xx.2.1.2.2.1 xx.2.1.2.2.2.1 xx.2.1.2.2.2.2.1 xx.2.1.2.2.2.2.2.1 xx.2.1.2.2.2.2.2.2.1 xx.2.1.2.2.2.2.2.2.2.1 xx.2.1.2.2.2.2.2.2.2.2.1 xx.2.1.2.2.2.2.2.2.2.2.2.1 K).trans (show _ = funcT f81_C Tryd.f81 (mkR _ xx) (mkE _ yy) K by kernel_rfl)
    rw [← e]
    exact h.run
noncomputable abbrev f81_G := f81_G0
theorem f81_G_ok : FnOk Tryd.prog glob 81 f81_G := f81_ok0
end Go.Eng.N
set_option linter.unusedVariables false
set_option maxRecDepth 100000
open Go Go.Eng Go.Proofs
namespace Go.Eng.N
/-! ### f103: slices.insertionSortCmpFunc(plenum/notify.Notice) -/
noncomputable def f103_p13 (i60 : Nat) (n61 : Nat) (n62 : Int) (n63 : Int) (n64 : Int) (n65 : Int) (es66 : List (List PC)) (k0 : Int → (List (List PC)) → Prop) : Prop := (0 ≤ (w64 (n65 - 1)) ∧ (w64 (n65 - 1)) < ((n61 : Nat) : Int)) ∧ cS (ext (List.getD es66 (i60 + (Int.toNat (w64 (n65 - 1)))) []) 0 10) fun s68 r67 => cI .i64 r67 fun n70 r69 => cS r69 fun s72 r71 => cI .i64 r71 fun n74 r73 => cI .i64 r73 fun n76 r75 => cI .i64 r75 fun n78 r77 => cI .i64 r77 fun n80 r79 => cI .i64 r79 fun n82 r81 => cI .i64 r81 fun n84 r83 => cB r83 fun b86 r85 => nilC r85 <| (0 ≤ n65 ∧ n65 < ((n61 : Nat) : Int)) ∧ cS (ext (List.getD es66 (i60 + (Int.toNat n65)) []) 0 10) fun s88 r87 => cI .i64 r87 fun n90 r89 => cS r89 fun s92 r91 => cI .i64 r91 fun n94 r93 => cI .i64 r93 fun n96 r95 => cI .i64 r95 fun n98 r97 => cI .i64 r97 fun n100 r99 => cI .i64 r99 fun n102 r101 => cI .i64 r101 fun n104 r103 => cB r103 fun b106 r105 => nilC r105 <| (0 ≤ n65 ∧ n65 < ((n61 : Nat) : Int)) ∧ (i60 + (Int.toNat n65)) < es66.length ∧ (0 ≤ (w64 (n65 - 1)) ∧ (w64 (n65 - 1)) < ((n61 : Nat) : Int)) ∧ (i60 + (Int.toNat (w64 (n65 - 1)))) < (List.set es66 (i60 + (Int.toNat n65)) (splice (List.getD es66 (i60 + (Int.toNat n65)) []) 0 [pS s68, pI n70, pS s72, pI n74, pI n76, pI n78, pI n80, pI n82, pI n84, pB b86])).length ∧ k0 (w64 (n65 - 1)) (List.set (List.set es66 (i60 + (Int.toNat n65)) (splice (List.getD es66 (i60 + (Int.toNat n65)) []) 0 [pS s68, pI n70, pS s72, pI n74, pI n76, pI n78, pI n80, pI n82, pI n84, pB b86])) (i60 + (Int.toNat (w64 (n65 - 1)))) (splice (List.getD (List.set es66 (i60 + (Int.toNat n65)) (splice (List.getD es66 (i60 + (Int.toNat n65)) []) 0 [pS s68, pI n70, pS s72, pI n74, pI n76, pI n78, pI n80, pI n82, pI n84, pB b86])) (i60 + (Int.toNat (w64 (n65 - 1)))) []) 0 [pS s88, pI n90, pS s92, pI n94, pI n96, pI n98, pI n100, pI n102, pI n104, pB b106]))
noncomputable def f103_p8b0 (i12 : Nat) (n13 : Nat) (n14 : Int) (n15 : Int) (n16 : Int) (n17 : Int) (es18 : List (List PC)) (N0 : Int → (List (List PC)) → Prop) (k0 : (List (List PC)) → Prop) : Prop := bB (decide (n17 > n14)) ((0 ≤ n17 ∧ n17 < ((n13 : Nat) : Int)) ∧ cS (ext (List.getD es18 (i12 + (Int.toNat n17)) []) 0 10) fun s20 r19 => cI .i64 r19 fun n22 r21 => cS r21 fun s24 r23 => cI .i64 r23 fun n26 r25 => cI .i64 r25 fun n28 r27 => cI .i64 r27 fun n30 r29 => cI .i64 r29 fun n32 r31 => cI .i64 r31 fun n34 r33 => cI .i64 r33 fun n36 r35 => cB r35 fun b38 r37 => nilC r37 <| (0 ≤ (w64 (n17 - 1)) ∧ (w64 (n17 - 1)) < ((n13 : Nat) : Int)) ∧ cS (ext (List.getD es18 (i12 + (Int.toNat (w64 (n17 - 1)))) []) 0 10) fun s40 r39 => cI .i64 r39 fun n42 r41 => cS r41 fun s44 r43 => cI .i64 r43 fun n46 r45 => cI .i64 r45 fun n48 r47 => cI .i64 r47 fun n50 r49 => cI .i64 r49 fun n52 r51 => cI .i64 r51 fun n54 r53 => cI .i64 r53 fun n56 r55 => cB r55 fun b58 r57 => nilC r57 <| f81 s20 n22 s24 n26 n28 n30 n32 n34 n36 b38 s40 n42 s44 n46 n48 n50 n52 n54 n56 b58 (fun n59 => bB (decide (n59 < 0)) (f103_p13 i12 n13 n14 n15 n16 n17 es18 (fun n107 es108 => N0 n107 es108)) (k0 es18))) (k0 es18)
noncomputable def f103_p8 (i12 : Nat) (n13 : Nat) (n14 : Int) (n15 : Int) (n16 : Int) (k0 : (List (List PC)) → Prop) : Int × (List (List PC)) → Prop := LoopP fun x N => f103_p8b0 i12 n13 n14 n15 n16 x.1 x.2 (fun n17 es18 => N (n17, es18)) k0
noncomputable def f103_p2b0 (i6 : Nat) (n7 : Nat) (n8 : Int) (n9 : Int) (n10 : Int) (es11 : List (List PC)) (N0 : Int → (List (List PC)) → Prop) (k0 : (List (List PC)) → Prop) : Prop := bB (decide (n10 < n9)) (f103_p8 i6 n7 n8 n9 n10 (fun es109 => N0 (w64 (n10 + 1)) es109) (n10, es11)) (k0 es11)
noncomputable def f103_p2 (i6 : Nat) (n7 : Nat) (n8 : Int) (n9 : Int) (k0 : (List (List PC)) → Prop) : Int × (List (List PC)) → Prop := LoopP fun x N => f103_p2b0 i6 n7 n8 n9 x.1 x.2 (fun n10 es11 => N (n10, es11)) k0
noncomputable def f103_d (i1 : Nat) (n2 : Nat) (n3 : Int) (n4 : Int) (es5 : List (List PC)) (k0 : (List (List PC)) → Prop) : Prop := f103_p2 i1 n2 n3 n4 (fun es110 => k0 es110) ((w64 (n3 + 1)), es5)
structure f103 (i1 : Nat) (n2 : Nat) (n3 : Int) (n4 : Int) (es5 : List (List PC)) (k0 : (List (List PC)) → Prop) : Prop where
  run : f103_d i1 n2 n3 n4 es5 k0
noncomputable def f103_p13L : Told := fun s K => match s with
  | ⟨tm, hp⟩ => getS [.v (.one (.ref 0)), .v (.one (.int .i64)), .v (.one (.int .i64)), .v (.one (.fn 81)), .skip 4, .v (.one (.int .i64)), .v (.one (.int .i64)), .skip 43] [.vec 10 true] tm hp fun (xx : ((Nat × Nat) × (Int × (Int × (Unit × (Unit × (Int × (Int × (Unit × Unit))))))))) (yy : ((List (List PC)) × Unit)) => f103_p13 xx.1.1 xx.1.2 xx.2.1 xx.2.2.1 xx.2.2.2.2.2.1 xx.2.2.2.2.2.2.1 yy.1 (fun n0_0 es0_1 => K .normal ⟨mkS 53 [(0, .w (.one (.ref 0 xx.1.1 xx.1.2))), (1, I xx.2.1), (2, I xx.2.2.1), (3, .w (.one (.p (.c (.func (.func 81) #[] #[]))))), (8, I xx.2.2.2.2.2.1), (9, I n0_0)], [.vec 10 es0_1 true]⟩)
noncomputable def f103_p8L : Told := fun s K => match s with
  | ⟨tm, hp⟩ => getS [.v (.one (.ref 0)), .v (.one (.int .i64)), .v (.one (.int .i64)), .v (.one (.fn 81)), .skip 4, .v (.one (.int .i64)), .v (.one (.int .i64)), .skip 43] [.vec 10 true] tm hp fun (xx : ((Nat × Nat) × (Int × (Int × (Unit × (Unit × (Int × (Int × (Unit × Unit))))))))) (yy : ((List (List PC)) × Unit)) => f103_p8 xx.1.1 xx.1.2 xx.2.1 xx.2.2.1 xx.2.2.2.2.2.1 (fun es0_2 => K (.exit 2) ⟨mkS 53 [(0, .w (.one (.ref 0 xx.1.1 xx.1.2))), (1, I xx.2.1), (2, I xx.2.2.1), (3, .w (.one (.p (.c (.func (.func 81) #[] #[]))))), (8, I xx.2.2.2.2.2.1)], [.vec 10 es0_2 true]⟩) (xx.2.2.2.2.2.2.1, yy.1)
noncomputable def f103_p2L : Told := fun s K => match s with
  | ⟨tm, hp⟩ => getS [.v (.one (.ref 0)), .v (.one (.int .i64)), .v (.one (.int .i64)), .v (.one (.fn 81)), .skip 4, .v (.one (.int .i64)), .skip 44] [.vec 10 true] tm hp fun (xx : ((Nat × Nat) × (Int × (Int × (Unit × (Unit × (Int × (Unit × Unit)))))))) (yy : ((List (List PC)) × Unit)) => f103_p2 xx.1.1 xx.1.2 xx.2.1 xx.2.2.1 (fun es0_3 => K (.exit 0) ⟨mkS 53 [], [.vec 10 es0_3 true]⟩) (xx.2.2.2.2.2.1, yy.1)
noncomputable def f103_tab : List (Nat × Told) := [(13, f103_p13L), (8, f103_p8L), (2, f103_p2L)]
noncomputable def f103_call : FuncId → List TV → List Entry → (TV → List Entry → Prop) → Prop := addCall 81 f81_G (noCalls)
noncomputable def f103_C : Ctx := { ty := tyOf tab, glob := glob, byRef := byRef, keep := fun k i => lookN [] (lookN [] ([(13, [(0, [0, 1, 2, 3, 8, 9]), (1, [0, 1, 2, 3, 8, 9]), (2, []), (3, []), (4, [0, 1, 2, 3, 8]), (5, [0, 1, 2, 3, 8])]), (8, [(0, [0, 1, 2, 3, 8, 9]), (2, []), (3, []), (4, [0, 1, 2, 3, 8]), (5, [0, 1, 2, 3, 8])]), (2, [(0, [0, 1, 2, 3, 8]), (2, []), (3, [])])] : List (Nat × List (Nat × List Nat))) k) i, late := lookN [] ([] : List (Nat × List Nat)), nref := lookN [] ([] : List (Nat × List Nat)), nbox := lookN [] ([] : List (Nat × List (Nat × Nat))), take := [], rnil := true, m := 1, fz := false, loops := lookL f103_tab, call := f103_call }
set_option maxRecDepth 100000 in
theorem f103_p13e0 (i_5 : Nat) (n_6 : Nat) (n_7 : Int) (n_8 : Int) (n_9 : Int) (n_10 : Int) (es_11 : List (List PC)) (K : TExit → St → Prop) : (f103_p13 i_5 n_6 n_7 n_8 n_9 n_10 es_11 (fun n0_12 es0_13 => K .normal ⟨mkS 53 [(0, .w (.one (.ref 0 i_5 n_6))), (1, I n_7), (2, I n_8), (3, .w (.one (.p (.c (.func (.func 81) #[] #[]))))), (8, I n_9), (9, I n0_12)], [.vec 10 es0_13 true]⟩)) = execT f103_C (nthC (tails (bodyOf Tryd.f103)) 5) ⟨mkS 53 [(0, .w (.one (.ref 0 i_5 n_6))), (1, I n_7), (2, I n_8), (3, .w (.one (.p (.c (.func (.func 81) #[] #[]))))), (8, I n_9), (9, I n_10)], [.vec 10 es_11 true]⟩ (fun e s => K e (normOut f103_C 13 e s)) := by kernel_rfl
noncomputable def f103_p8_mk (i12 : Nat) (n13 : Nat) (n14 : Int) (n15 : Int) (n16 : Int) (x : Int × (List (List PC))) : St := ⟨mkS 53 [(0, .w (.one (.ref 0 i12 n13))), (1, I n14), (2, I n15), (3, .w (.one (.p (.c (.func (.func 81) #[] #[]))))), (8, I n16), (9, I x.1)], [.vec 10 x.2 true]⟩
set_option maxRecDepth 100000 in
theorem f103_p8e0 (i_21 : Nat) (n_22 : Nat) (n_23 : Int) (n_24 : Int) (n_25 : Int) (n_26 : Int) (es_27 : List (List PC)) (N : St → Prop) (K : TExit → St → Prop) : (f103_p8b0 i_21 n_22 n_23 n_24 n_25 n_26 es_27 (fun z5 z6 => N (f103_p8_mk i_21 n_22 n_23 n_24 n_25 (z5, z6))) (fun es0_28 => K (.exit 2) ⟨mkS 53 [(0, .w (.one (.ref 0 i_21 n_22))), (1, I n_23), (2, I n_24), (3, .w (.one (.p (.c (.func (.func 81) #[] #[]))))), (8, I n_25)], [.vec 10 es0_28 true]⟩)) = execT f103_C (nthC (bodies (bodyOf Tryd.f103)) 1) (f103_p8_mk i_21 n_22 n_23 n_24 n_25 (n_26, es_27)) (loopK N (normK f103_C 8) fun e s => K e (normOut f103_C 8 e s)) := by kernel_rfl
noncomputable def f103_p2_mk (i6 : Nat) (n7 : Nat) (n8 : Int) (n9 : Int) (x : Int × (List (List PC))) : St := ⟨mkS 53 [(0, .w (.one (.ref 0 i6 n7))), (1, I n8), (2, I n9), (3, .w (.one (.p (.c (.func (.func 81) #[] #[]))))), (8, I x.1)], [.vec 10 x.2 true]⟩
set_option maxRecDepth 100000 in
theorem f103_p2e0 (i_35 : Nat) (n_36 : Nat) (n_37 : Int) (n_38 : Int) (n_39 : Int) (es_40 : List (List PC)) (N : St → Prop) (K : TExit → St → Prop) : (f103_p2b0 i_35 n_36 n_37 n_38 n_39 es_40 (fun z4 z5 => N (f103_p2_mk i_35 n_36 n_37 n_38 (z4, z5))) (fun es0_41 => K (.exit 0) ⟨mkS 53 [], [.vec 10 es0_41 true]⟩)) = execT f103_C (nthC (bodies (bodyOf Tryd.f103)) 0) (f103_p2_mk i_35 n_36 n_37 n_38 (n_39, es_40)) (loopK N (normK f103_C 2) fun e s => K e (normOut f103_C 2 e s)) := by kernel_rfl
set_option maxHeartbeats 4000000 in
theorem f103_p13_ok : TailOk f103_C (nthC (tails (bodyOf Tryd.f103)) 5) := by
  refine TailOk.of f103_p13L (by kernel_rfl) fun σ K h => ?_
  have hk : joinKey (nthC (tails (bodyOf Tryd.f103)) 5) = 13 := by kernel_rfl
  rw [hk] at h ⊢
  generalize hs : normK f103_C 13 σ = s at h
  obtain ⟨tm, hp⟩ := s
  unfold f103_p13L at h
  dsimp only at h
  obtain ⟨xx, yy, rfl, rfl, h⟩ := getS_elim h
  have q : normK f103_C 13 σ = (⟨mkS 53 [(0, .w (.one (.ref 0 xx.1.1 xx.1.2))), (1, I xx.2.1), (2, I xx.2.2.1), (3, .w (.one (.p (.c (.func (.func 81) #[] #[]))))), (8, I xx.2.2.2.2.2.1), (9, I xx.2.2.2.2.2.2.1)], [.vec 10 yy.1 true]⟩ : St) := hs.trans (by kernel_rfl)
  rw [← hs, q, ← f103_p13e0 xx.1.1 xx.1.2 xx.2.1 xx.2.2.1 xx.2.2.2.2.2.1 xx.2.2.2.2.2.2.1 yy.1 K]
  exact h
set_option maxHeartbeats 4000000 in
theorem f103_p8_ok : LoopOk f103_C (nthC (bodies (bodyOf Tryd.f103)) 1) := by
  refine LoopOk.of f103_p8L (by kernel_rfl) fun σ K h => ?_
  have hk : loopKey (nthC (bodies (bodyOf Tryd.f103)) 1) = 8 := by kernel_rfl
  rw [hk] at h ⊢
  generalize hs : normK f103_C 8 σ = s at h
  obtain ⟨tm, hp⟩ := s
  unfold f103_p8L at h
  dsimp only at h
  obtain ⟨xx, yy, rfl, rfl, h⟩ := getS_elim h
  refine iter_of (f103_p8_mk xx.1.1 xx.1.2 xx.2.1 xx.2.2.1 xx.2.2.2.2.2.1) (fun x N h => ?_) rounds _ σ (hs.trans (by kernel_rfl)) (LoopP.run h)
  obtain ⟨y0, y1⟩ := x
  rw [← f103_p8e0 xx.1.1 xx.1.2 xx.2.1 xx.2.2.1 xx.2.2.2.2.2.1 y0 y1 N K]
  exact h
set_option maxHeartbeats 4000000 in
theorem f103_p2_ok : LoopOk f103_C (nthC (bodies (bodyOf Tryd.f103)) 0) := by
  refine LoopOk.of f103_p2L (by kernel_rfl) fun σ K h => ?_
  have hk : loopKey (nthC (bodies (bodyOf Tryd.f103)) 0) = 2 := by kernel_rfl
  rw [hk] at h ⊢
  generalize hs : normK f103_C 2 σ = s at h
  obtain ⟨tm, hp⟩ := s
  unfold f103_p2L at h
  dsimp only at h
  obtain ⟨xx, yy, rfl, rfl, h⟩ := getS_elim h
  refine iter_of (f103_p2_mk xx.1.1 xx.1.2 xx.2.1 xx.2.2.1) (fun x N h => ?_) rounds _ σ (hs.trans (by kernel_rfl)) (LoopP.run h)
  obtain ⟨y0, y1⟩ := x
  rw [← f103_p2e0 xx.1.1 xx.1.2 xx.2.1 xx.2.2.1 y0 y1 N K]
  exact h
noncomputable def f103_G0 : List TV → List Entry → (TV → List Entry → Prop) → Prop := fun tm hp K => getS [.v (.one (.ref 0)), .v (.one (.int .i64)), .v (.one (.int .i64)), .v (.one (.fn 81))] [.vec 10 true] tm hp fun (xx : ((Nat × Nat) × (Int × (Int × (Unit × Unit))))) (yy : ((List (List PC)) × Unit)) => f103 xx.1.1 xx.1.2 xx.2.1 xx.2.2.1 yy.1 (fun es0_4 => K undefT [.vec 10 es0_4 true])
set_option maxRecDepth 100000 in
theorem f103_eq (i_42 : Nat) (n_43 : Nat) (n_44 : Int) (n_45 : Int) (es_46 : List (List PC)) (K : TV → List Entry → Prop) : (f103_d i_42 n_43 n_44 n_45 es_46 (fun es0_4 => K undefT [.vec 10 es0_4 true])) = funcT f103_C Tryd.f103 [.w (.one (.ref 0 i_42 n_43)), I n_44, I n_45, .w (.one (.p (.c (.func (.func 81) #[] #[]))))] [.vec 10 es_46 true] K := by kernel_rfl
set_option maxHeartbeats 4000000 in
theorem f103_ok0 : FnOk Tryd.prog glob 103 f103_G0 := by
  refine FnOk.of_text (C := f103_C) tab_ok.ok (Known.add f81_G_ok (Known.none)) follows_ok (fn := Tryd.f103) (by kernel_rfl) (by kernel_rfl) (by kernel_rfl) (fun c hc => ?_) fun tm hp K h => ?_
  · have e : c = bodyOf Tryd.f103 := Option.some.inj (hc.symm.trans (by kernel_rfl))
    subst e
    exact ⟨LoopsOk.of [nthC (bodies (bodyOf Tryd.f103)) 0, nthC (bodies (bodyOf Tryd.f103)) 1] (by kernel_rfl) ⟨f103_p2_ok, f103_p8_ok, trivial⟩, TailsOk.of (tab := f103_tab) rfl [nthC (tails (bodyOf Tryd.f103)) 5] (by kernel_rfl) ⟨f103_p13_ok, trivial⟩⟩
  · unfold f103_G0 at h
    obtain ⟨xx, yy, rfl, rfl, h⟩ := getS_elim h
    have e := (f103_eq xx.1.1 xx.1.2 xx.2.1 xx.2.2.1 yy.1 K).trans (show _ = funcT f103_C Tryd.f103 (mkR _ xx) (mkE _ yy) K by kernel_rfl)
    rw [← e]
    exact h.run
noncomputable abbrev f103_G := f103_G0
theorem f103_G_ok : FnOk Tryd.prog glob 103 f103_G := f103_ok0
end Go.Eng.N
set_option linter.unusedVariables false
set_option maxRecDepth 100000
open Go Go.Eng Go.Proofs
namespace Go.Eng.N
/-! ### f106: slices.swapRangeCmpFunc(plenum/notify.Notice) -/
noncomputable def f106_p2b0 (i7 : Nat) (n8 : Nat) (n9 : Int) (n10 : Int) (n11 : Int) (n12 : Int) (es13 : List (List PC)) (N0 : Int → (List (List PC)) → Prop) (k0 : (List (List PC)) → Prop) : Prop := bB (decide (n12 < n11)) ((0 ≤ (w64 (n10 + n12)) ∧ (w64 (n10 + n12)) < ((n8 : Nat) : Int)) ∧ cS (ext (List.getD es13 (i7 + (Int.toNat (w64 (n10 + n12)))) []) 0 10) fun s15 r14 => cI .i64 r14 fun n17 r16 => cS r16 fun s19 r18 => cI .i64 r18 fun n21 r20 => cI .i64 r20 fun n23 r22 => cI .i64 r22 fun n25 r24 => cI .i64 r24 fun n27 r26 => cI .i64 r26 fun n29 r28 => cI .i64 r28 fun n31 r30 => cB r30 fun b33 r32 => nilC r32 <| (0 ≤ (w64 (n9 + n12)) ∧ (w64 (n9 + n12)) < ((n8 : Nat) : Int)) ∧ cS (ext (List.getD es13 (i7 + (Int.toNat (w64 (n9 + n12)))) []) 0 10) fun s35 r34 => cI .i64 r34 fun n37 r36 => cS r36 fun s39 r38 => cI .i64 r38 fun n41 r40 => cI .i64 r40 fun n43 r42 => cI .i64 r42 fun n45 r44 => cI .i64 r44 fun n47 r46 => cI .i64 r46 fun n49 r48 => cI .i64 r48 fun n51 r50 => cB r50 fun b53 r52 => nilC r52 <| (0 ≤ (w64 (n9 + n12)) ∧ (w64 (n9 + n12)) < ((n8 : Nat) : Int)) ∧ (i7 + (Int.toNat (w64 (n9 + n12)))) < es13.length ∧ (0 ≤ (w64 (n10 + n12)) ∧ (w64 (n10 + n12)) < ((n8 : Nat) : Int)) ∧ (i7 + (Int.toNat (w64 (n10 + n12)))) < (List.set es13 (i7 + (Int.toNat (w64 (n9 + n12)))) (splice (List.getD es13 (i7 + (Int.toNat (w64 (n9 + n12)))) []) 0 [pS s15, pI n17, pS s19, pI n21, pI n23, pI n25, pI n27, pI n29, pI n31, pB b33])).length ∧ N0 (w64 (n12 + 1)) (List.set (List.set es13 (i7 + (Int.toNat (w64 (n9 + n12)))) (splice (List.getD es13 (i7 + (Int.toNat (w64 (n9 + n12)))) []) 0 [pS s15, pI n17, pS s19, pI n21, pI n23, pI n25, pI n27, pI n29, pI n31, pB b33])) (i7 + (Int.toNat (w64 (n10 + n12)))) (splice (List.getD (List.set es13 (i7 + (Int.toNat (w64 (n9 + n12)))) (splice (List.getD es13 (i7 + (Int.toNat (w64 (n9 + n12)))) []) 0 [pS s15, pI n17, pS s19, pI n21, pI n23, pI n25, pI n27, pI n29, pI n31, pB b33])) (i7 + (Int.toNat (w64 (n10 + n12)))) []) 0 [pS s35, pI n37, pS s39, pI n41, pI n43, pI n45, pI n47, pI n49, pI n51, pB b53]))) (k0 es13)
noncomputable def f106_p2 (i7 : Nat) (n8 : Nat) (n9 : Int) (n10 : Int) (n11 : Int) (k0 : (List (List PC)) → Prop) : Int × (List (List PC)) → Prop := LoopP fun x N => f106_p2b0 i7 n8 n9 n10 n11 x.1 x.2 (fun n12 es13 => N (n12, es13)) k0
noncomputable def f106_d (i1 : Nat) (n2 : Nat) (n3 : Int) (n4 : Int) (n5 : Int) (es6 : List (List PC)) (k0 : (List (List PC)) → Prop) : Prop := f106_p2 i1 n2 n3 n4 n5 (fun es54 => k0 es54) (0, es6)
structure f106 (i1 : Nat) (n2 : Nat) (n3 : Int) (n4 : Int) (n5 : Int) (es6 : List (List PC)) (k0 : (List (List PC)) → Prop) : Prop where
  run : f106_d i1 n2 n3 n4 n5 es6 k0
noncomputable def f106_p2L : Told := fun s K => match s with
  | ⟨tm, hp⟩ => getS [.v (.one (.ref 0)), .v (.one (.int .i64)), .v (.one (.int .i64)), .v (.one (.int .i64)), .skip 6, .v (.one (.int .i64)), .skip 27] [.vec 10 true] tm hp fun (xx : ((Nat × Nat) × (Int × (Int × (Int × (Unit × (Int × (Unit × Unit)))))))) (yy : ((List (List PC)) × Unit)) => f106_p2 xx.1.1 xx.1.2 xx.2.1 xx.2.2.1 xx.2.2.2.1 (fun es0_0 => K (.exit 0) ⟨mkS 38 [], [.vec 10 es0_0 true]⟩) (xx.2.2.2.2.2.1, yy.1)
noncomputable def f106_tab : List (Nat × Told) := [(2, f106_p2L)]
noncomputable def f106_call : FuncId → List TV → List Entry → (TV → List Entry → Prop) → Prop := noCalls
noncomputable def f106_C : Ctx := { ty := tyOf tab, glob := glob, byRef := byRef, keep := fun k i => lookN [] (lookN [] ([(2, [(0, [0, 1, 2, 3, 10]), (2, []), (3, [])])] : List (Nat × List (Nat × List Nat))) k) i, late := lookN [] ([] : List (Nat × List Nat)), nref := lookN [] ([] : List (Nat × List Nat)), nbox := lookN [] ([] : List (Nat × List (Nat × Nat))), take := [], rnil := true, m := 1, fz := false, loops := lookL f106_tab, call := f106_call }
noncomputable def f106_p2_mk (i7 : Nat) (n8 : Nat) (n9 : Int) (n10 : Int) (n11 : Int) (x : Int × (List (List PC))) : St := ⟨mkS 38 [(0, .w (.one (.ref 0 i7 n8))), (1, I n9), (2, I n10), (3, I n11), (10, I x.1)], [.vec 10 x.2 true]⟩
set_option maxRecDepth 100000 in
theorem f106_p2e0 (i_9 : Nat) (n_10 : Nat) (n_11 : Int) (n_12 : Int) (n_13 : Int) (n_14 : Int) (es_15 : List (List PC)) (N : St → Prop) (K : TExit → St → Prop) : (f106_p2b0 i_9 n_10 n_11 n_12 n_13 n_14 es_15 (fun z5 z6 => N (f106_p2_mk i_9 n_10 n_11 n_12 n_13 (z5, z6))) (fun es0_16 => K (.exit 0) ⟨mkS 38 [], [.vec 10 es0_16 true]⟩)) = execT f106_C (nthC (bodies (bodyOf Tryd.f106)) 0) (f106_p2_mk i_9 n_10 n_11 n_12 n_13 (n_14, es_15)) (loopK N (normK f106_C 2) fun e s => K e (normOut f106_C 2 e s)) := by kernel_rfl
set_option maxHeartbeats 4000000 in
theorem f106_p2_ok : LoopOk f106_C (nthC (bodies (bodyOf Tryd.f106)) 0) := by
  refine LoopOk.of f106_p2L (by kernel_rfl) fun σ K h => ?_
  have hk : loopKey (nthC (bodies (bodyOf Tryd.f106)) 0) = 2 := by kernel_rfl
  rw [hk] at h ⊢
  generalize hs : normK f106_C 2 σ = s at h
  obtain ⟨tm, hp⟩ := s
  unfold f106_p2L at h
  dsimp only at h
  obtain ⟨xx, yy, rfl, rfl, h⟩ := getS_elim h
  refine iter_of (f106_p2_mk xx.1.1 xx.1.2 xx.2.1 xx.2.2.1 xx.2.2.2.1) (fun x N h => ?_) rounds _ σ (hs.trans (by kernel_rfl)) (LoopP.run h)
  obtain ⟨y0, y1⟩ := x
  rw [← f106_p2e0 xx.1.1 xx.1.2 xx.2.1 xx.2.2.1 xx.2.2.2.1 y0 y1 N K]
  exact h
noncomputable def f106_G0 : List TV → List Entry → (TV → List Entry → Prop) → Prop := fun tm hp K => getS [.v (.one (.ref 0)), .v (.one (.int .i64)), .v (.one (.int .i64)), .v (.one (.int .i64)), .v (.one (.fn 81))] [.vec 10 true] tm hp fun (xx : ((Nat × Nat) × (Int × (Int × (Int × (Unit × Unit)))))) (yy : ((List (List PC)) × Unit)) => f106 xx.1.1 xx.1.2 xx.2.1 xx.2.2.1 xx.2.2.2.1 yy.1 (fun es0_1 => K undefT [.vec 10 es0_1 true])
set_option maxRecDepth 100000 in
theorem f106_eq (i_17 : Nat) (n_18 : Nat) (n_19 : Int) (n_20 : Int) (n_21 : Int) (es_22 : List (List PC)) (K : TV → List Entry → Prop) : (f106_d i_17 n_18 n_19 n_20 n_21 es_22 (fun es0_1 => K undefT [.vec 10 es0_1 true])) = funcT f106_C Tryd.f106 [.w (.one (.ref 0 i_17 n_18)), I n_19, I n_20, I n_21, .w (.one (.p (.c (.func (.func 81) #[] #[]))))] [.vec 10 es_22 true] K := by kernel_rfl
set_option maxHeartbeats 4000000 in
theorem f106_ok0 : FnOk Tryd.prog glob 106 f106_G0 := by
  refine FnOk.of_text (C := f106_C) tab_ok.ok (Known.none) follows_ok (fn := Tryd.f106) (by kernel_rfl) (by kernel_rfl) (by kernel_rfl) (fun c hc => ?_) fun tm hp K h => ?_
  · have e : c = bodyOf Tryd.f106 := Option.some.inj (hc.symm.trans (by kernel_rfl))
    subst e
    exact ⟨LoopsOk.of [nthC (bodies (bodyOf Tryd.f106)) 0] (by kernel_rfl) ⟨f106_p2_ok, trivial⟩, TailsOk.of (tab := f106_tab) rfl [] (by kernel_rfl) trivial⟩
  · unfold f106_G0 at h
    obtain ⟨xx, yy, rfl, rfl, h⟩ := getS_elim h
    have e := (f106_eq xx.1.1 xx.1.2 xx.2.1 xx.2.2.1 xx.2.2.2.1 yy.1 K).trans (show _ = funcT f106_C Tryd.f106 (mkR _ xx) (mkE _ yy) K by kernel_rfl)
    rw [← e]
    exact h.run
noncomputable abbrev f106_G := f106_G0
theorem f106_G_ok : FnOk Tryd.prog glob 106 f106_G := f106_ok0
end Go.Eng.N
set_option linter.unusedVariables false
set_option maxRecDepth 100000
open Go Go.Eng Go.Proofs
namespace Go.Eng.N
/-! ### f105: slices.rotateCmpFunc(plenum/notify.Notice) -/
noncomputable def f105_p4b0 (i7 : Nat) (n8 : Nat) (n9 : Int) (n10 : Int) (n11 : Int) (es12 : List (List PC)) (N0 : Int → Int → (List (List PC)) → Prop) (k0 : Int → (List (List PC)) → Prop) : Prop := bB (n10 != n11) (bB (decide (n10 > n11)) (f106 i7 n8 (w64 (n9 - n10)) n9 n11 es12 (fun es13 => N0 (w64 (n10 - n11)) n11 es13)) (f106 i7 n8 (w64 (n9 - n10)) (w64 ((w64 (n9 + n11)) - n10)) n10 es12 (fun es14 => N0 n10 (w64 (n11 - n10)) es14))) (k0 n10 es12)
noncomputable def f105_p4 (i7 : Nat) (n8 : Nat) (n9 : Int) (k0 : Int → (List (List PC)) → Prop) : Int × Int × (List (List PC)) → Prop := LoopP fun x N => f105_p4b0 i7 n8 n9 x.1 x.2.1 x.2.2 (fun n10 n11 es12 => N (n10, n11, es12)) k0
noncomputable def f105_d (i1 : Nat) (n2 : Nat) (n3 : Int) (n4 : Int) (n5 : Int) (es6 : List (List PC)) (k0 : (List (List PC)) → Prop) : Prop := f105_p4 i1 n2 n4 (fun n15 es16 => f106 i1 n2 (w64 (n4 - n15)) n4 n15 es16 (fun es17 => k0 es17)) ((w64 (n4 - n3)), (w64 (n5 - n4)), es6)
structure f105 (i1 : Nat) (n2 : Nat) (n3 : Int) (n4 : Int) (n5 : Int) (es6 : List (List PC)) (k0 : (List (List PC)) → Prop) : Prop where
  run : f105_d i1 n2 n3 n4 n5 es6 k0
noncomputable def f105_p4L : Told := fun s K => match s with
  | ⟨tm, hp⟩ => getS [.v (.one (.ref 0)), .skip 1, .v (.one (.int .i64)), .skip 1, .v (.one (.fn 81)), .skip 5, .v (.one (.int .i64)), .v (.one (.int .i64)), .skip 46] [.vec 10 true] tm hp fun (xx : ((Nat × Nat) × (Unit × (Int × (Unit × (Unit × (Unit × (Int × (Int × (Unit × Unit)))))))))) (yy : ((List (List PC)) × Unit)) => f105_p4 xx.1.1 xx.1.2 xx.2.2.1 (fun n0_0 es0_1 => K (.exit 0) ⟨mkS 58 [(0, .w (.one (.ref 0 xx.1.1 xx.1.2))), (2, I xx.2.2.1), (4, .w (.one (.p (.c (.func (.func 81) #[] #[]))))), (10, I n0_0)], [.vec 10 es0_1 true]⟩) (xx.2.2.2.2.2.2.1, xx.2.2.2.2.2.2.2.1, yy.1)
noncomputable def f105_tab : List (Nat × Told) := [(4, f105_p4L)]
noncomputable def f105_call : FuncId → List TV → List Entry → (TV → List Entry → Prop) → Prop := addCall 106 f106_G (noCalls)
noncomputable def f105_C : Ctx := { ty := tyOf tab, glob := glob, byRef := byRef, keep := fun k i => lookN [] (lookN [] ([(4, [(0, [0, 2, 4, 10, 11]), (2, []), (3, [0, 2, 4, 10])])] : List (Nat × List (Nat × List Nat))) k) i, late := lookN [] ([] : List (Nat × List Nat)), nref := lookN [] ([] : List (Nat × List Nat)), nbox := lookN [] ([] : List (Nat × List (Nat × Nat))), take := [], rnil := true, m := 1, fz := false, loops := lookL f105_tab, call := f105_call }
noncomputable def f105_p4_mk (i7 : Nat) (n8 : Nat) (n9 : Int) (x : Int × Int × (List (List PC))) : St := ⟨mkS 58 [(0, .w (.one (.ref 0 i7 n8))), (2, I n9), (4, .w (.one (.p (.c (.func (.func 81) #[] #[]))))), (10, I x.1), (11, I x.2.1)], [.vec 10 x.2.2 true]⟩
set_option maxRecDepth 100000 in
theorem f105_p4e0 (i_9 : Nat) (n_10 : Nat) (n_11 : Int) (n_12 : Int) (n_13 : Int) (es_14 : List (List PC)) (N : St → Prop) (K : TExit → St → Prop) : (f105_p4b0 i_9 n_10 n_11 n_12 n_13 es_14 (fun z3 z4 z5 => N (f105_p4_mk i_9 n_10 n_11 (z3, z4, z5))) (fun n0_15 es0_16 => K (.exit 0) ⟨mkS 58 [(0, .w (.one (.ref 0 i_9 n_10))), (2, I n_11), (4, .w (.one (.p (.c (.func (.func 81) #[] #[]))))), (10, I n0_15)], [.vec 10 es0_16 true]⟩)) = execT f105_C (nthC (bodies (bodyOf Tryd.f105)) 0) (f105_p4_mk i_9 n_10 n_11 (n_12, n_13, es_14)) (loopK N (normK f105_C 4) fun e s => K e (normOut f105_C 4 e s)) := by kernel_rfl
set_option maxHeartbeats 4000000 in
theorem f105_p4_ok : LoopOk f105_C (nthC (bodies (bodyOf Tryd.f105)) 0) := by
  refine LoopOk.of f105_p4L (by kernel_rfl) fun σ K h => ?_
  have hk : loopKey (nthC (bodies (bodyOf Tryd.f105)) 0) = 4 := by kernel_rfl
  rw [hk] at h ⊢
  generalize hs : normK f105_C 4 σ = s at h
  obtain ⟨tm, hp⟩ := s
  unfold f105_p4L at h
  dsimp only at h
  obtain ⟨xx, yy, rfl, rfl, h⟩ := getS_elim h
  refine iter_of (f105_p4_mk xx.1.1 xx.1.2 xx.2.2.1) (fun x N h => ?_) rounds _ σ (hs.trans (by kernel_rfl)) (LoopP.run h)
  obtain ⟨y0, y1, y2⟩ := x
  rw [← f105_p4e0 xx.1.1 xx.1.2 xx.2.2.1 y0 y1 y2 N K]
  exact h
noncomputable def f105_G0 : List TV → List Entry → (TV → List Entry → Prop) → Prop := fun tm hp K => getS [.v (.one (.ref 0)), .v (.one (.int .i64)), .v (.one (.int .i64)), .v (.one (.int .i64)), .v (.one (.fn 81))] [.vec 10 true] tm hp fun (xx : ((Nat × Nat) × (Int × (Int × (Int × (Unit × Unit)))))) (yy : ((List (List PC)) × Unit)) => f105 xx.1.1 xx.1.2 xx.2.1 xx.2.2.1 xx.2.2.2.1 yy.1 (fun es0_2 => K undefT [.vec 10 es0_2 true])
set_option maxRecDepth 100000 in
theorem f105_eq (i_17 : Nat) (n_18 : Nat) (n_19 : Int) (n_20 : Int) (n_21 : Int) (es_22 : List (List PC)) (K : TV → List Entry → Prop) : (f105_d i_17 n_18 n_19 n_20 n_21 es_22 (fun es0_2 => K undefT [.vec 10 es0_2 true])) = funcT f105_C Tryd.f105 [.w (.one (.ref 0 i_17 n_18)), I n_19, I n_20, I n_21, .w (.one (.p (.c (.func (.func 81) #[] #[]))))] [.vec 10 es_22 true] K := by kernel_rfl
set_option maxHeartbeats 4000000 in
theorem f105_ok0 : FnOk Tryd.prog glob 105 f105_G0 := by
  refine FnOk.of_text (C := f105_C) tab_ok.ok (Known.add f106_G_ok (Known.none)) follows_ok (fn := Tryd.f105) (by kernel_rfl) (by kernel_rfl) (by kernel_rfl) (fun c hc => ?_) fun tm hp K h => ?_
  · have e : c = bodyOf Tryd.f105 := Option.some.inj (hc.symm.trans (by kernel_rfl))
    subst e
    exact ⟨LoopsOk.of [nthC (bodies (bodyOf Tryd.f105)) 0] (by kernel_rfl) ⟨f105_p4_ok, trivial⟩, TailsOk.of (tab := f105_tab) rfl [] (by kernel_rfl) trivial⟩
  · unfold f105_G0 at h
    obtain ⟨xx, yy, rfl, rfl, h⟩ := getS_elim h
    have e := (f105_eq xx.1.1 xx.1.2 xx.2.1 xx.2.2.1 xx.2.2.2.1 yy.1 K).trans (show _ = funcT f105_C Tryd.f105 (mkR _ xx) (mkE _ yy) K by kernel_rfl)
    rw [← e]
    exact h.run
noncomputable abbrev f105_G := f105_G0
theorem f105_G_ok : FnOk Tryd.prog glob 105 f105_G := f105_ok0
end Go.Eng.N
set_option linter.unusedVariables false
set_option maxRecDepth 100000
open Go Go.Eng Go.Proofs
namespace Go.Eng.N
/-! ### f104: slices.symMergeCmpFunc(plenum/notify.Notice) -/
noncomputable abbrev f104_T : Type := Nat → Nat → Int → Int → Int → (List (List PC)) → ((List (List PC)) → Prop) → Prop
noncomputable def f104_p6b0 (R : f104_T) (i7 : Nat) (n8 : Nat) (n9 : Int) (n10 : Int) (n11 : Int) (es12 : List (List PC)) (N0 : Int → Int → Prop) (k0 : Int → Prop) : Prop := bB (decide (n10 < n11)) (0 ≤ (1 : Int) ∧ (0 ≤ (w64 (Int.fdiv (IntKind.wrap .u64 (w64 (n10 + n11))) (2 ^ (min (Int.toNat 1) 64)))) ∧ (w64 (Int.fdiv (IntKind.wrap .u64 (w64 (n10 + n11))) (2 ^ (min (Int.toNat 1) 64)))) < ((n8 : Nat) : Int)) ∧ cS (ext (List.getD es12 (i7 + (Int.toNat (w64 (Int.fdiv (IntKind.wrap .u64 (w64 (n10 + n11))) (2 ^ (min (Int.toNat 1) 64)))))) []) 0 10) fun s14 r13 => cI .i64 r13 fun n16 r15 => cS r15 fun s18 r17 => cI .i64 r17 fun n20 r19 => cI .i64 r19 fun n22 r21 => cI .i64 r21 fun n24 r23 => cI .i64 r23 fun n26 r25 => cI .i64 r25 fun n28 r27 => cI .i64 r27 fun n30 r29 => cB r29 fun b32 r31 => nilC r31 <| (0 ≤ n9 ∧ n9 < ((n8 : Nat) : Int)) ∧ cS (ext (List.getD es12 (i7 + (Int.toNat n9)) []) 0 10) fun s34 r33 => cI .i64 r33 fun n36 r35 => cS r35 fun s38 r37 => cI .i64 r37 fun n40 r39 => cI .i64 r39 fun n42 r41 => cI .i64 r41 fun n44 r43 => cI .i64 r43 fun n46 r45 => cI .i64 r45 fun n48 r47 => cI .i64 r47 fun n50 r49 => cB r49 fun b52 r51 => nilC r51 <| f81 s14 n16 s18 n20 n22 n24 n26 n28 n30 b32 s34 n36 s38 n40 n42 n44 n46 n48 n50 b52 (fun n53 => bB (decide (n53 < 0)) (N0 (w64 ((w64 (Int.fdiv (IntKind.wrap .u64 (w64 (n10 + n11))) (2 ^ (min (Int.toNat 1) 64)))) + 1)) n11) (N0 n10 (w64 (Int.fdiv (IntKind.wrap .u64 (w64 (n10 + n11))) (2 ^ (min (Int.toNat 1) 64))))))) (k0 n10)
noncomputable def f104_p6 (R : f104_T) (i7 : Nat) (n8 : Nat) (n9 : Int) (es12 : List (List PC)) (k0 : Int → Prop) : Int × Int → Prop := LoopP fun x N => (f104_p6b0 R) i7 n8 n9 x.1 x.2 es12 (fun n10 n11 => N (n10, n11)) k0
noncomputable def f104_p18b0 (R : f104_T) (i55 : Nat) (n56 : Nat) (n57 : Int) (n58 : Int) (es59 : List (List PC)) (N0 : Int → (List (List PC)) → Prop) (k0 : (List (List PC)) → Prop) : Prop := bB (decide (n58 < (w64 (n57 - 1)))) ((0 ≤ (w64 (n58 + 1)) ∧ (w64 (n58 + 1)) < ((n56 : Nat) : Int)) ∧ cS (ext (List.getD es59 (i55 + (Int.toNat (w64 (n58 + 1)))) []) 0 10) fun s61 r60 => cI .i64 r60 fun n63 r62 => cS r62 fun s65 r64 => cI .i64 r64 fun n67 r66 => cI .i64 r66 fun n69 r68 => cI .i64 r68 fun n71 r70 => cI .i64 r70 fun n73 r72 => cI .i64 r72 fun n75 r74 => cI .i64 r74 fun n77 r76 => cB r76 fun b79 r78 => nilC r78 <| (0 ≤ n58 ∧ n58 < ((n56 : Nat) : Int)) ∧ cS (ext (List.getD es59 (i55 + (Int.toNat n58)) []) 0 10) fun s81 r80 => cI .i64 r80 fun n83 r82 => cS r82 fun s85 r84 => cI .i64 r84 fun n87 r86 => cI .i64 r86 fun n89 r88 => cI .i64 r88 fun n91 r90 => cI .i64 r90 fun n93 r92 => cI .i64 r92 fun n95 r94 => cI .i64 r94 fun n97 r96 => cB r96 fun b99 r98 => nilC r98 <| (0 ≤ n58 ∧ n58 < ((n56 : Nat) : Int)) ∧ (i55 + (Int.toNat n58)) < es59.length ∧ (0 ≤ (w64 (n58 + 1)) ∧ (w64 (n58 + 1)) < ((n56 : Nat) : Int)) ∧ (i55 + (Int.toNat (w64 (n58 + 1)))) < (List.set es59 (i55 + (Int.toNat n58)) (splice (List.getD es59 (i55 + (Int.toNat n58)) []) 0 [pS s61, pI n63, pS s65, pI n67, pI n69, pI n71, pI n73, pI n75, pI n77, pB b79])).length ∧ N0 (w64 (n58 + 1)) (List.set (List.set es59 (i55 + (Int.toNat n58)) (splice (List.getD es59 (i55 + (Int.toNat n58)) []) 0 [pS s61, pI n63, pS s65, pI n67, pI n69, pI n71, pI n73, pI n75, pI n77, pB b79])) (i55 + (Int.toNat (w64 (n58 + 1)))) (splice (List.getD (List.set es59 (i55 + (Int.toNat n58)) (splice (List.getD es59 (i55 + (Int.toNat n58)) []) 0 [pS s61, pI n63, pS s65, pI n67, pI n69, pI n71, pI n73, pI n75, pI n77, pB b79])) (i55 + (Int.toNat (w64 (n58 + 1)))) []) 0 [pS s81, pI n83, pS s85, pI n87, pI n89, pI n91, pI n93, pI n95, pI n97, pB b99]))) (k0 es59)
noncomputable def f104_p18 (R : f104_T) (i55 : Nat) (n56 : Nat) (n57 : Int) (k0 : (List (List PC)) → Prop) : Int × (List (List PC)) → Prop := LoopP fun x N => (f104_p18b0 R) i55 n56 n57 x.1 x.2 (fun n58 es59 => N (n58, es59)) k0
noncomputable def f104_p30b0 (R : f104_T) (i101 : Nat) (n102 : Nat) (n103 : Int) (n104 : Int) (n105 : Int) (es106 : List (List PC)) (N0 : Int → Int → Prop) (k0 : Int → Prop) : Prop := bB (decide (n104 < n105)) (0 ≤ (1 : Int) ∧ (0 ≤ n103 ∧ n103 < ((n102 : Nat) : Int)) ∧ cS (ext (List.getD es106 (i101 + (Int.toNat n103)) []) 0 10) fun s108 r107 => cI .i64 r107 fun n110 r109 => cS r109 fun s112 r111 => cI .i64 r111 fun n114 r113 => cI .i64 r113 fun n116 r115 => cI .i64 r115 fun n118 r117 => cI .i64 r117 fun n120 r119 => cI .i64 r119 fun n122 r121 => cI .i64 r121 fun n124 r123 => cB r123 fun b126 r125 => nilC r125 <| (0 ≤ (w64 (Int.fdiv (IntKind.wrap .u64 (w64 (n104 + n105))) (2 ^ (min (Int.toNat 1) 64)))) ∧ (w64 (Int.fdiv (IntKind.wrap .u64 (w64 (n104 + n105))) (2 ^ (min (Int.toNat 1) 64)))) < ((n102 : Nat) : Int)) ∧ cS (ext (List.getD es106 (i101 + (Int.toNat (w64 (Int.fdiv (IntKind.wrap .u64 (w64 (n104 + n105))) (2 ^ (min (Int.toNat 1) 64)))))) []) 0 10) fun s128 r127 => cI .i64 r127 fun n130 r129 => cS r129 fun s132 r131 => cI .i64 r131 fun n134 r133 => cI .i64 r133 fun n136 r135 => cI .i64 r135 fun n138 r137 => cI .i64 r137 fun n140 r139 => cI .i64 r139 fun n142 r141 => cI .i64 r141 fun n144 r143 => cB r143 fun b146 r145 => nilC r145 <| f81 s108 n110 s112 n114 n116 n118 n120 n122 n124 b126 s128 n130 s132 n134 n136 n138 n140 n142 n144 b146 (fun n147 => bB (!(decide (n147 < 0))) (N0 (w64 ((w64 (Int.fdiv (IntKind.wrap .u64 (w64 (n104 + n105))) (2 ^ (min (Int.toNat 1) 64)))) + 1)) n105) (N0 n104 (w64 (Int.fdiv (IntKind.wrap .u64 (w64 (n104 + n105))) (2 ^ (min (Int.toNat 1) 64))))))) (k0 n104)
noncomputable def f104_p30 (R : f104_T) (i101 : Nat) (n102 : Nat) (n103 : Int) (es106 : List (List PC)) (k0 : Int → Prop) : Int × Int → Prop := LoopP fun x N => (f104_p30b0 R) i101 n102 n103 x.1 x.2 es106 (fun n104 n105 => N (n104, n105)) k0
noncomputable def f104_p42b0 (R : f104_T) (i149 : Nat) (n150 : Nat) (n151 : Int) (n152 : Int) (es153 : List (List PC)) (N0 : Int → (List (List PC)) → Prop) (k0 : (List (List PC)) → Prop) : Prop := bB (decide (n152 > n151)) ((0 ≤ (w64 (n152 - 1)) ∧ (w64 (n152 - 1)) < ((n150 : Nat) : Int)) ∧ cS (ext (List.getD es153 (i149 + (Int.toNat (w64 (n152 - 1)))) []) 0 10) fun s155 r154 => cI .i64 r154 fun n157 r156 => cS r156 fun s159 r158 => cI .i64 r158 fun n161 r160 => cI .i64 r160 fun n163 r162 => cI .i64 r162 fun n165 r164 => cI .i64 r164 fun n167 r166 => cI .i64 r166 fun n169 r168 => cI .i64 r168 fun n171 r170 => cB r170 fun b173 r172 => nilC r172 <| (0 ≤ n152 ∧ n152 < ((n150 : Nat) : Int)) ∧ cS (ext (List.getD es153 (i149 + (Int.toNat n152)) []) 0 10) fun s175 r174 => cI .i64 r174 fun n177 r176 => cS r176 fun s179 r178 => cI .i64 r178 fun n181 r180 => cI .i64 r180 fun n183 r182 => cI .i64 r182 fun n185 r184 => cI .i64 r184 fun n187 r186 => cI .i64 r186 fun n189 r188 => cI .i64 r188 fun n191 r190 => cB r190 fun b193 r192 => nilC r192 <| (0 ≤ n152 ∧ n152 < ((n150 : Nat) : Int)) ∧ (i149 + (Int.toNat n152)) < es153.length ∧ (0 ≤ (w64 (n152 - 1)) ∧ (w64 (n152 - 1)) < ((n150 : Nat) : Int)) ∧ (i149 + (Int.toNat (w64 (n152 - 1)))) < (List.set es153 (i149 + (Int.toNat n152)) (splice (List.getD es153 (i149 + (Int.toNat n152)) []) 0 [pS s155, pI n157, pS s159, pI n161, pI n163, pI n165, pI n167, pI n169, pI n171, pB b173])).length ∧ N0 (w64 (n152 - 1)) (List.set (List.set es153 (i149 + (Int.toNat n152)) (splice (List.getD es153 (i149 + (Int.toNat n152)) []) 0 [pS s155, pI n157, pS s159, pI n161, pI n163, pI n165, pI n167, pI n169, pI n171, pB b173])) (i149 + (Int.toNat (w64 (n152 - 1)))) (splice (List.getD (List.set es153 (i149 + (Int.toNat n152)) (splice (List.getD es153 (i149 + (Int.toNat n152)) []) 0 [pS s155, pI n157, pS s159, pI n161, pI n163, pI n165, pI n167, pI n169, pI n171, pB b173])) (i149 + (Int.toNat (w64 (n152 - 1)))) []) 0 [pS s175, pI n177, pS s179, pI n181, pI n183, pI n185, pI n187, pI n189, pI n191, pB b193]))) (k0 es153)
noncomputable def f104_p42 (R : f104_T) (i149 : Nat) (n150 : Nat) (n151 : Int) (k0 : (List (List PC)) → Prop) : Int × (List (List PC)) → Prop := LoopP fun x N => (f104_p42b0 R) i149 n150 n151 x.1 x.2 (fun n152 es153 => N (n152, es153)) k0
noncomputable def f104_p66b0 (R : f104_T) (i205 : Nat) (n206 : Nat) (n207 : Int) (n208 : Int) (n209 : Int) (n210 : Int) (n211 : Int) (n212 : Int) (n213 : Int) (n214 : Int) (es215 : List (List PC)) (N0 : Int → Int → Prop) (k0 : Int → Prop) : Prop := bB (decide (n212 < n213)) (0 ≤ (1 : Int) ∧ (0 ≤ (w64 (n214 - (w64 (Int.fdiv (IntKind.wrap .u64 (w64 (n212 + n213))) (2 ^ (min (Int.toNat 1) 64)))))) ∧ (w64 (n214 - (w64 (Int.fdiv (IntKind.wrap .u64 (w64 (n212 + n213))) (2 ^ (min (Int.toNat 1) 64)))))) < ((n206 : Nat) : Int)) ∧ cS (ext (List.getD es215 (i205 + (Int.toNat (w64 (n214 - (w64 (Int.fdiv (IntKind.wrap .u64 (w64 (n212 + n213))) (2 ^ (min (Int.toNat 1) 64)))))))) []) 0 10) fun s217 r216 => cI .i64 r216 fun n219 r218 => cS r218 fun s221 r220 => cI .i64 r220 fun n223 r222 => cI .i64 r222 fun n225 r224 => cI .i64 r224 fun n227 r226 => cI .i64 r226 fun n229 r228 => cI .i64 r228 fun n231 r230 => cI .i64 r230 fun n233 r232 => cB r232 fun b235 r234 => nilC r234 <| (0 ≤ (w64 (Int.fdiv (IntKind.wrap .u64 (w64 (n212 + n213))) (2 ^ (min (Int.toNat 1) 64)))) ∧ (w64 (Int.fdiv (IntKind.wrap .u64 (w64 (n212 + n213))) (2 ^ (min (Int.toNat 1) 64)))) < ((n206 : Nat) : Int)) ∧ cS (ext (List.getD es215 (i205 + (Int.toNat (w64 (Int.fdiv (IntKind.wrap .u64 (w64 (n212 + n213))) (2 ^ (min (Int.toNat 1) 64)))))) []) 0 10) fun s237 r236 => cI .i64 r236 fun n239 r238 => cS r238 fun s241 r240 => cI .i64 r240 fun n243 r242 => cI .i64 r242 fun n245 r244 => cI .i64 r244 fun n247 r246 => cI .i64 r246 fun n249 r248 => cI .i64 r248 fun n251 r250 => cI .i64 r250 fun n253 r252 => cB r252 fun b255 r254 => nilC r254 <| f81 s217 n219 s221 n223 n225 n227 n229 n231 n233 b235 s237 n239 s241 n243 n245 n247 n249 n251 n253 b255 (fun n256 => bB (!(decide (n256 < 0))) (N0 (w64 ((w64 (Int.fdiv (IntKind.wrap .u64 (w64 (n212 + n213))) (2 ^ (min (Int.toNat 1) 64)))) + 1)) n213) (N0 n212 (w64 (Int.fdiv (IntKind.wrap .u64 (w64 (n212 + n213))) (2 ^ (min (Int.toNat 1) 64))))))) (k0 n212)
noncomputable def f104_p66 (R : f104_T) (i205 : Nat) (n206 : Nat) (n207 : Int) (n208 : Int) (n209 : Int) (n210 : Int) (n211 : Int) (n214 : Int) (es215 : List (List PC)) (k0 : Int → Prop) : Int × Int → Prop := LoopP fun x N => (f104_p66b0 R) i205 n206 n207 n208 n209 n210 n211 x.1 x.2 n214 es215 (fun n212 n213 => N (n212, n213)) k0
noncomputable def f104_p87 (R : f104_T) (i268 : Nat) (n269 : Nat) (n270 : Int) (n271 : Int) (n272 : Int) (es273 : List (List PC)) (k0 : (List (List PC)) → Prop) : Prop := bB (decide (n271 < n272)) (bB (decide (n272 < n270)) (R i268 n269 n271 n272 n270 es273 (fun es274 => k0 es274)) (k0 es273)) (k0 es273)
noncomputable def f104_p83 (R : f104_T) (i259 : Nat) (n260 : Nat) (n261 : Int) (n262 : Int) (n263 : Int) (n264 : Int) (n265 : Int) (es266 : List (List PC)) (k0 : (List (List PC)) → Prop) : Prop := bB (decide (n261 < n264)) (bB (decide (n264 < n263)) (R i259 n260 n261 n264 n263 es266 (fun es267 => (f104_p87 R) i259 n260 n262 n263 n265 es267 (fun es275 => k0 es275))) ((f104_p87 R) i259 n260 n262 n263 n265 es266 (fun es276 => k0 es276))) ((f104_p87 R) i259 n260 n262 n263 n265 es266 (fun es277 => k0 es277))
noncomputable def f104_p65 (R : f104_T) (i195 : Nat) (n196 : Nat) (n197 : Int) (n198 : Int) (n199 : Int) (n200 : Int) (n201 : Int) (n202 : Int) (n203 : Int) (es204 : List (List PC)) (k0 : (List (List PC)) → Prop) : Prop := (f104_p66 R) i195 n196 n197 n198 n199 n200 n201 (w64 (n201 - 1)) es204 (fun n257 => bB (decide (n257 < n198)) (bB (decide (n198 < (w64 (n201 - n257)))) (f105 i195 n196 n257 n198 (w64 (n201 - n257)) es204 (fun es258 => (f104_p83 R) i195 n196 n197 n199 n200 n257 (w64 (n201 - n257)) es258 (fun es278 => k0 es278))) ((f104_p83 R) i195 n196 n197 n199 n200 n257 (w64 (n201 - n257)) es204 (fun es279 => k0 es279))) ((f104_p83 R) i195 n196 n197 n199 n200 n257 (w64 (n201 - n257)) es204 (fun es280 => k0 es280))) (n202, n203)
noncomputable def f104_d (R : f104_T) (i1 : Nat) (n2 : Nat) (n3 : Int) (n4 : Int) (n5 : Int) (es6 : List (List PC)) (k0 : (List (List PC)) → Prop) : Prop := bB ((w64 (n4 - n3)) == 1) ((f104_p6 R) i1 n2 n3 es6 (fun n54 => (f104_p18 R) i1 n2 n54 (fun es100 => k0 es100) (n3, es6)) (n4, n5)) (bB ((w64 (n5 - n4)) == 1) ((f104_p30 R) i1 n2 n4 es6 (fun n148 => (f104_p42 R) i1 n2 n148 (fun es194 => k0 es194) (n4, es6)) (n3, n4)) (0 ≤ (1 : Int) ∧ bB (decide (n4 > (w64 (Int.fdiv (IntKind.wrap .u64 (w64 (n3 + n5))) (2 ^ (min (Int.toNat 1) 64)))))) ((f104_p65 R) i1 n2 n3 n4 n5 (w64 (Int.fdiv (IntKind.wrap .u64 (w64 (n3 + n5))) (2 ^ (min (Int.toNat 1) 64)))) (w64 ((w64 (Int.fdiv (IntKind.wrap .u64 (w64 (n3 + n5))) (2 ^ (min (Int.toNat 1) 64)))) + n4)) (w64 ((w64 ((w64 (Int.fdiv (IntKind.wrap .u64 (w64 (n3 + n5))) (2 ^ (min (Int.toNat 1) 64)))) + n4)) - n5)) (w64 (Int.fdiv (IntKind.wrap .u64 (w64 (n3 + n5))) (2 ^ (min (Int.toNat 1) 64)))) es6 (fun es281 => k0 es281)) ((f104_p65 R) i1 n2 n3 n4 n5 (w64 (Int.fdiv (IntKind.wrap .u64 (w64 (n3 + n5))) (2 ^ (min (Int.toNat 1) 64)))) (w64 ((w64 (Int.fdiv (IntKind.wrap .u64 (w64 (n3 + n5))) (2 ^ (min (Int.toNat 1) 64)))) + n4)) n3 n4 es6 (fun es282 => k0 es282))))
noncomputable def f104_n : Nat → f104_T := fun n => Nat.rec (motive := fun _ => f104_T) (fun _ _ _ _ _ _ _ => False) (fun _ ih => f104_d ih) n
structure f104 (i1 : Nat) (n2 : Nat) (n3 : Int) (n4 : Int) (n5 : Int) (es6 : List (List PC)) (k0 : (List (List PC)) → Prop) : Prop where
  run : ∃ n, f104_n n i1 n2 n3 n4 n5 es6 k0
noncomputable def f104_p6L (R : f104_T) : Told := fun s K => match s with
  | ⟨tm, hp⟩ => getS [.v (.one (.ref 0)), .v (.one (.int .i64)), .skip 2, .v (.one (.fn 81)), .skip 5, .v (.one (.int .i64)), .v (.one (.int .i64)), .skip 208] [.vec 10 true] tm hp fun (xx : ((Nat × Nat) × (Int × (Unit × (Unit × (Unit × (Int × (Int × (Unit × Unit))))))))) (yy : ((List (List PC)) × Unit)) => (f104_p6 R) xx.1.1 xx.1.2 xx.2.1 yy.1 (fun n0_0 => K (.exit 0) ⟨mkS 220 [(0, .w (.one (.ref 0 xx.1.1 xx.1.2))), (1, I xx.2.1), (10, I n0_0)], [.vec 10 yy.1 true]⟩) (xx.2.2.2.2.2.1, xx.2.2.2.2.2.2.1)
noncomputable def f104_p18L (R : f104_T) : Told := fun s K => match s with
  | ⟨tm, hp⟩ => getS [.v (.one (.ref 0)), .skip 9, .v (.one (.int .i64)), .skip 2, .v (.one (.int .i64)), .skip 206] [.vec 10 true] tm hp fun (xx : ((Nat × Nat) × (Unit × (Int × (Unit × (Int × (Unit × Unit))))))) (yy : ((List (List PC)) × Unit)) => (f104_p18 R) xx.1.1 xx.1.2 xx.2.2.1 (fun es0_1 => K (.exit 2) ⟨mkS 220 [], [.vec 10 es0_1 true]⟩) (xx.2.2.2.2.1, yy.1)
noncomputable def f104_p30L (R : f104_T) : Told := fun s K => match s with
  | ⟨tm, hp⟩ => getS [.v (.one (.ref 0)), .skip 1, .v (.one (.int .i64)), .skip 1, .v (.one (.fn 81)), .skip 9, .v (.one (.int .i64)), .v (.one (.int .i64)), .skip 204] [.vec 10 true] tm hp fun (xx : ((Nat × Nat) × (Unit × (Int × (Unit × (Unit × (Unit × (Int × (Int × (Unit × Unit)))))))))) (yy : ((List (List PC)) × Unit)) => (f104_p30 R) xx.1.1 xx.1.2 xx.2.2.1 yy.1 (fun n0_2 => K (.exit 4) ⟨mkS 220 [(0, .w (.one (.ref 0 xx.1.1 xx.1.2))), (2, I xx.2.2.1), (14, I n0_2)], [.vec 10 yy.1 true]⟩) (xx.2.2.2.2.2.2.1, xx.2.2.2.2.2.2.2.1)
noncomputable def f104_p42L (R : f104_T) : Told := fun s K => match s with
  | ⟨tm, hp⟩ => getS [.v (.one (.ref 0)), .skip 13, .v (.one (.int .i64)), .skip 2, .v (.one (.int .i64)), .skip 202] [.vec 10 true] tm hp fun (xx : ((Nat × Nat) × (Unit × (Int × (Unit × (Int × (Unit × Unit))))))) (yy : ((List (List PC)) × Unit)) => (f104_p42 R) xx.1.1 xx.1.2 xx.2.2.1 (fun es0_3 => K (.exit 6) ⟨mkS 220 [], [.vec 10 es0_3 true]⟩) (xx.2.2.2.2.1, yy.1)
noncomputable def f104_p66L (R : f104_T) : Told := fun s K => match s with
  | ⟨tm, hp⟩ => getS [.v (.one (.ref 0)), .v (.one (.int .i64)), .v (.one (.int .i64)), .v (.one (.int .i64)), .v (.one (.fn 81)), .skip 13, .v (.one (.int .i64)), .v (.one (.int .i64)), .v (.one (.int .i64)), .v (.one (.int .i64)), .v (.one (.int .i64)), .skip 197] [.vec 10 true] tm hp fun (xx : ((Nat × Nat) × (Int × (Int × (Int × (Unit × (Unit × (Int × (Int × (Int × (Int × (Int × (Unit × Unit))))))))))))) (yy : ((List (List PC)) × Unit)) => (f104_p66 R) xx.1.1 xx.1.2 xx.2.1 xx.2.2.1 xx.2.2.2.1 xx.2.2.2.2.2.2.1 xx.2.2.2.2.2.2.2.1 xx.2.2.2.2.2.2.2.2.2.2.1 yy.1 (fun n0_4 => K (.exit 8) ⟨mkS 220 [(0, .w (.one (.ref 0 xx.1.1 xx.1.2))), (1, I xx.2.1), (2, I xx.2.2.1), (3, I xx.2.2.2.1), (4, .w (.one (.p (.c (.func (.func 81) #[] #[]))))), (18, I xx.2.2.2.2.2.2.1), (19, I xx.2.2.2.2.2.2.2.1), (20, I n0_4)], [.vec 10 yy.1 true]⟩) (xx.2.2.2.2.2.2.2.2.1, xx.2.2.2.2.2.2.2.2.2.1)
noncomputable def f104_p87L (R : f104_T) : Told := fun s K => match s with
  | ⟨tm, hp⟩ => getS [.v (.one (.ref 0)), .skip 2, .v (.one (.int .i64)), .v (.one (.fn 81)), .skip 13, .v (.one (.int .i64)), .skip 5, .v (.one (.int .i64)), .skip 195] [.vec 10 true] tm hp fun (xx : ((Nat × Nat) × (Unit × (Int × (Unit × (Unit × (Int × (Unit × (Int × (Unit × Unit)))))))))) (yy : ((List (List PC)) × Unit)) => (f104_p87 R) xx.1.1 xx.1.2 xx.2.2.1 xx.2.2.2.2.2.1 xx.2.2.2.2.2.2.2.1 yy.1 (fun es0_5 => K .normal ⟨mkS 220 [], [.vec 10 es0_5 true]⟩)
noncomputable def f104_p83L (R : f104_T) : Told := fun s K => match s with
  | ⟨tm, hp⟩ => getS [.v (.one (.ref 0)), .v (.one (.int .i64)), .skip 1, .v (.one (.int .i64)), .v (.one (.fn 81)), .skip 13, .v (.one (.int .i64)), .skip 1, .v (.one (.int .i64)), .skip 3, .v (.one (.int .i64)), .skip 195] [.vec 10 true] tm hp fun (xx : ((Nat × Nat) × (Int × (Unit × (Int × (Unit × (Unit × (Int × (Unit × (Int × (Unit × (Int × (Unit × Unit))))))))))))) (yy : ((List (List PC)) × Unit)) => (f104_p83 R) xx.1.1 xx.1.2 xx.2.1 xx.2.2.2.1 xx.2.2.2.2.2.2.1 xx.2.2.2.2.2.2.2.2.1 xx.2.2.2.2.2.2.2.2.2.2.1 yy.1 (fun es0_6 => K .normal ⟨mkS 220 [], [.vec 10 es0_6 true]⟩)
noncomputable def f104_p65L (R : f104_T) : Told := fun s K => match s with
  | ⟨tm, hp⟩ => getS [.v (.one (.ref 0)), .v (.one (.int .i64)), .v (.one (.int .i64)), .v (.one (.int .i64)), .v (.one (.fn 81)), .skip 13, .v (.one (.int .i64)), .v (.one (.int .i64)), .v (.one (.int .i64)), .v (.one (.int .i64)), .skip 198] [.vec 10 true] tm hp fun (xx : ((Nat × Nat) × (Int × (Int × (Int × (Unit × (Unit × (Int × (Int × (Int × (Int × (Unit × Unit)))))))))))) (yy : ((List (List PC)) × Unit)) => (f104_p65 R) xx.1.1 xx.1.2 xx.2.1 xx.2.2.1 xx.2.2.2.1 xx.2.2.2.2.2.2.1 xx.2.2.2.2.2.2.2.1 xx.2.2.2.2.2.2.2.2.1 xx.2.2.2.2.2.2.2.2.2.1 yy.1 (fun es0_7 => K .normal ⟨mkS 220 [], [.vec 10 es0_7 true]⟩)
noncomputable def f104_tab (R : f104_T) : List (Nat × Told) := [(6, (f104_p6L R)), (18, (f104_p18L R)), (30, (f104_p30L R)), (42, (f104_p42L R)), (66, (f104_p66L R)), (87, (f104_p87L R)), (83, (f104_p83L R)), (65, (f104_p65L R))]
noncomputable def f104_GR (R : f104_T) : List TV → List Entry → (TV → List Entry → Prop) → Prop := fun tm hp K => getS [.v (.one (.ref 0)), .v (.one (.int .i64)), .v (.one (.int .i64)), .v (.one (.int .i64)), .v (.one (.fn 81))] [.vec 10 true] tm hp fun (xx : ((Nat × Nat) × (Int × (Int × (Int × (Unit × Unit)))))) (yy : ((List (List PC)) × Unit)) => R xx.1.1 xx.1.2 xx.2.1 xx.2.2.1 xx.2.2.2.1 yy.1 (fun es0_8 => K undefT [.vec 10 es0_8 true])
noncomputable def f104_call (R : f104_T) : FuncId → List TV → List Entry → (TV → List Entry → Prop) → Prop := addCall 104 (f104_GR R) (addCall 105 f105_G (addCall 81 f81_G (noCalls)))
noncomputable def f104_C (R : f104_T) : Ctx := { ty := tyOf tab, glob := glob, byRef := byRef, keep := fun k i => lookN [] (lookN [] ([(6, [(0, [0, 1, 4, 10, 11]), (2, []), (3, [0, 1, 10])]), (18, [(0, [0, 10, 13]), (2, []), (5, [])]), (30, [(0, [0, 2, 4, 14, 15]), (2, []), (7, [0, 2, 14])]), (42, [(0, [0, 14, 17]), (2, []), (9, [])]), (66, [(0, [0, 1, 2, 3, 4, 18, 19, 20, 21, 22]), (2, []), (11, [0, 1, 2, 3, 4, 18, 19, 20])]), (87, [(0, [0, 3, 4, 18, 24]), (1, []), (2, [])]), (83, [(0, [0, 1, 3, 4, 18, 20, 24]), (1, []), (2, [])]), (65, [(0, [0, 1, 2, 3, 4, 18, 19, 20, 21]), (1, []), (2, [])])] : List (Nat × List (Nat × List Nat))) k) i, late := lookN [] ([] : List (Nat × List Nat)), nref := lookN [] ([] : List (Nat × List Nat)), nbox := lookN [] ([] : List (Nat × List (Nat × Nat))), take := [], rnil := true, m := 1, fz := false, loops := lookL (f104_tab R), call := (f104_call R) }
noncomputable def f104_p6_mk (i7 : Nat) (n8 : Nat) (n9 : Int) (es12 : List (List PC)) (x : Int × Int) : St := ⟨mkS 220 [(0, .w (.one (.ref 0 i7 n8))), (1, I n9), (4, .w (.one (.p (.c (.func (.func 81) #[] #[]))))), (10, I x.1), (11, I x.2)], [.vec 10 es12 true]⟩
set_option maxRecDepth 100000 in
theorem f104_p6e0 (R : f104_T) (i_15 : Nat) (n_16 : Nat) (n_17 : Int) (n_18 : Int) (n_19 : Int) (es_20 : List (List PC)) (N : St → Prop) (K : TExit → St → Prop) : ((f104_p6b0 R) i_15 n_16 n_17 n_18 n_19 es_20 (fun z3 z4 => N (f104_p6_mk i_15 n_16 n_17 es_20 (z3, z4))) (fun n0_21 => K (.exit 0) ⟨mkS 220 [(0, .w (.one (.ref 0 i_15 n_16))), (1, I n_17), (10, I n0_21)], [.vec 10 es_20 true]⟩)) = execT (f104_C R) (nthC (bodies (bodyOf Tryd.f104)) 0) (f104_p6_mk i_15 n_16 n_17 es_20 (n_18, n_19)) (loopK N (normK (f104_C R) 6) fun e s => K e (normOut (f104_C R) 6 e s)) := by kernel_rfl
noncomputable def f104_p18_mk (i55 : Nat) (n56 : Nat) (n57 : Int) (x : Int × (List (List PC))) : St := ⟨mkS 220 [(0, .w (.one (.ref 0 i55 n56))), (10, I n57), (13, I x.1)], [.vec 10 x.2 true]⟩
set_option maxRecDepth 100000 in
theorem f104_p18e0 (R : f104_T) (i_27 : Nat) (n_28 : Nat) (n_29 : Int) (n_30 : Int) (es_31 : List (List PC)) (N : St → Prop) (K : TExit → St → Prop) : ((f104_p18b0 R) i_27 n_28 n_29 n_30 es_31 (fun z3 z4 => N (f104_p18_mk i_27 n_28 n_29 (z3, z4))) (fun es0_32 => K (.exit 2) ⟨mkS 220 [], [.vec 10 es0_32 true]⟩)) = execT (f104_C R) (nthC (bodies (bodyOf Tryd.f104)) 1) (f104_p18_mk i_27 n_28 n_29 (n_30, es_31)) (loopK N (normK (f104_C R) 18) fun e s => K e (normOut (f104_C R) 18 e s)) := by kernel_rfl
noncomputable def f104_p30_mk (i101 : Nat) (n102 : Nat) (n103 : Int) (es106 : List (List PC)) (x : Int × Int) : St := ⟨mkS 220 [(0, .w (.one (.ref 0 i101 n102))), (2, I n103), (4, .w (.one (.p (.c (.func (.func 81) #[] #[]))))), (14, I x.1), (15, I x.2)], [.vec 10 es106 true]⟩
set_option maxRecDepth 100000 in
theorem f104_p30e0 (R : f104_T) (i_39 : Nat) (n_40 : Nat) (n_41 : Int) (n_42 : Int) (n_43 : Int) (es_44 : List (List PC)) (N : St → Prop) (K : TExit → St → Prop) : ((f104_p30b0 R) i_39 n_40 n_41 n_42 n_43 es_44 (fun z3 z4 => N (f104_p30_mk i_39 n_40 n_41 es_44 (z3, z4))) (fun n0_45 => K (.exit 4) ⟨mkS 220 [(0, .w (.one (.ref 0 i_39 n_40))), (2, I n_41), (14, I n0_45)], [.vec 10 es_44 true]⟩)) = execT (f104_C R) (nthC (bodies (bodyOf Tryd.f104)) 2) (f104_p30_mk i_39 n_40 n_41 es_44 (n_42, n_43)) (loopK N (normK (f104_C R) 30) fun e s => K e (normOut (f104_C R) 30 e s)) := by kernel_rfl
noncomputable def f104_p42_mk (i149 : Nat) (n150 : Nat) (n151 : Int) (x : Int × (List (List PC))) : St := ⟨mkS 220 [(0, .w (.one (.ref 0 i149 n150))), (14, I n151), (17, I x.1)], [.vec 10 x.2 true]⟩
set_option maxRecDepth 100000 in
theorem f104_p42e0 (R : f104_T) (i_51 : Nat) (n_52 : Nat) (n_53 : Int) (n_54 : Int) (es_55 : List (List PC)) (N : St → Prop) (K : TExit → St → Prop) : ((f104_p42b0 R) i_51 n_52 n_53 n_54 es_55 (fun z3 z4 => N (f104_p42_mk i_51 n_52 n_53 (z3, z4))) (fun es0_56 => K (.exit 6) ⟨mkS 220 [], [.vec 10 es0_56 true]⟩)) = execT (f104_C R) (nthC (bodies (bodyOf Tryd.f104)) 3) (f104_p42_mk i_51 n_52 n_53 (n_54, es_55)) (loopK N (normK (f104_C R) 42) fun e s => K e (normOut (f104_C R) 42 e s)) := by kernel_rfl
noncomputable def f104_p66_mk (i205 : Nat) (n206 : Nat) (n207 : Int) (n208 : Int) (n209 : Int) (n210 : Int) (n211 : Int) (n214 : Int) (es215 : List (List PC)) (x : Int × Int) : St := ⟨mkS 220 [(0, .w (.one (.ref 0 i205 n206))), (1, I n207), (2, I n208), (3, I n209), (4, .w (.one (.p (.c (.func (.func 81) #[] #[]))))), (18, I n210), (19, I n211), (20, I x.1), (21, I x.2), (22, I n214)], [.vec 10 es215 true]⟩
set_option maxRecDepth 100000 in
theorem f104_p66e0 (R : f104_T) (i_68 : Nat) (n_69 : Nat) (n_70 : Int) (n_71 : Int) (n_72 : Int) (n_73 : Int) (n_74 : Int) (n_75 : Int) (n_76 : Int) (n_77 : Int) (es_78 : List (List PC)) (N : St → Prop) (K : TExit → St → Prop) : ((f104_p66b0 R) i_68 n_69 n_70 n_71 n_72 n_73 n_74 n_75 n_76 n_77 es_78 (fun z7 z8 => N (f104_p66_mk i_68 n_69 n_70 n_71 n_72 n_73 n_74 n_77 es_78 (z7, z8))) (fun n0_79 => K (.exit 8) ⟨mkS 220 [(0, .w (.one (.ref 0 i_68 n_69))), (1, I n_70), (2, I n_71), (3, I n_72), (4, .w (.one (.p (.c (.func (.func 81) #[] #[]))))), (18, I n_73), (19, I n_74), (20, I n0_79)], [.vec 10 es_78 true]⟩)) = execT (f104_C R) (nthC (bodies (bodyOf Tryd.f104)) 4) (f104_p66_mk i_68 n_69 n_70 n_71 n_72 n_73 n_74 n_77 es_78 (n_75, n_76)) (loopK N (normK (f104_C R) 66) fun e s => K e (normOut (f104_C R) 66 e s)) := by kernel_rfl
set_option maxRecDepth 100000 in
theorem f104_p87e0 (R : f104_T) (i_80 : Nat) (n_81 : Nat) (n_82 : Int) (n_83 : Int) (n_84 : Int) (es_85 : List (List PC)) (K : TExit → St → Prop) : ((f104_p87 R) i_80 n_81 n_82 n_83 n_84 es_85 (fun es0_86 => K .normal ⟨mkS 220 [], [.vec 10 es0_86 true]⟩)) = execT (f104_C R) (nthC (tails (bodyOf Tryd.f104)) 44) ⟨mkS 220 [(0, .w (.one (.ref 0 i_80 n_81))), (3, I n_82), (4, .w (.one (.p (.c (.func (.func 81) #[] #[]))))), (18, I n_83), (24, I n_84)], [.vec 10 es_85 true]⟩ (fun e s => K e (normOut (f104_C R) 87 e s)) := by kernel_rfl
set_option maxRecDepth 100000 in
theorem f104_p83e0 (R : f104_T) (i_87 : Nat) (n_88 : Nat) (n_89 : Int) (n_90 : Int) (n_91 : Int) (n_92 : Int) (n_93 : Int) (es_94 : List (List PC)) (K : TExit → St → Prop) : ((f104_p83 R) i_87 n_88 n_89 n_90 n_91 n_92 n_93 es_94 (fun es0_95 => K .normal ⟨mkS 220 [], [.vec 10 es0_95 true]⟩)) = execT (f104_C R) (nthC (tails (bodyOf Tryd.f104)) 42) ⟨mkS 220 [(0, .w (.one (.ref 0 i_87 n_88))), (1, I n_89), (3, I n_90), (4, .w (.one (.p (.c (.func (.func 81) #[] #[]))))), (18, I n_91), (20, I n_92), (24, I n_93)], [.vec 10 es_94 true]⟩ (fun e s => K e (normOut (f104_C R) 83 e s)) := by kernel_rfl
set_option maxRecDepth 100000 in
theorem f104_p65e0 (R : f104_T) (i_96 : Nat) (n_97 : Nat) (n_98 : Int) (n_99 : Int) (n_100 : Int) (n_101 : Int) (n_102 : Int) (n_103 : Int) (n_104 : Int) (es_105 : List (List PC)) (K : TExit → St → Prop) : ((f104_p65 R) i_96 n_97 n_98 n_99 n_100 n_101 n_102 n_103 n_104 es_105 (fun es0_106 => K .normal ⟨mkS 220 [], [.vec 10 es0_106 true]⟩)) = execT (f104_C R) (nthC (tails (bodyOf Tryd.f104)) 31) ⟨mkS 220 [(0, .w (.one (.ref 0 i_96 n_97))), (1, I n_98), (2, I n_99), (3, I n_100), (4, .w (.one (.p (.c (.func (.func 81) #[] #[]))))), (18, I n_101), (19, I n_102), (20, I n_103), (21, I n_104)], [.vec 10 es_105 true]⟩ (fun e s => K e (normOut (f104_C R) 65 e s)) := by kernel_rfl
set_option maxHeartbeats 4000000 in
theorem f104_p6_ok (R : f104_T) : LoopOk (f104_C R) (nthC (bodies (bodyOf Tryd.f104)) 0) := by
  refine LoopOk.of (f104_p6L R) (by kernel_rfl) fun σ K h => ?_
  have hk : loopKey (nthC (bodies (bodyOf Tryd.f104)) 0) = 6 := by kernel_rfl
  rw [hk] at h ⊢
  generalize hs : normK (f104_C R) 6 σ = s at h
  obtain ⟨tm, hp⟩ := s
  unfold f104_p6L at h
  dsimp only at h
  obtain ⟨xx, yy, rfl, rfl, h⟩ := getS_elim h
  refine iter_of (f104_p6_mk xx.1.1 xx.1.2 xx.2.1 yy.1) (fun x N h => ?_) rounds _ σ (hs.trans (by kernel_rfl)) (LoopP.run h)
  obtain ⟨y0, y1⟩ := x
  rw [← (f104_p6e0 R) xx.1.1 xx.1.2 xx.2.1 y0 y1 yy.1 N K]
  exact h
set_option maxHeartbeats 4000000 in
theorem f104_p18_ok (R : f104_T) : LoopOk (f104_C R) (nthC (bodies (bodyOf Tryd.f104)) 1) := by
  refine LoopOk.of (f104_p18L R) (by kernel_rfl) fun σ K h => ?_
  have hk : loopKey (nthC (bodies (bodyOf Tryd.f104)) 1) = 18 := by kernel_rfl
  rw [hk] at h ⊢
  generalize hs : normK (f104_C R) 18 σ = s at h
  obtain ⟨tm, hp⟩ := s
  unfold f104_p18L at h
  dsimp only at h
  obtain ⟨xx, yy, rfl, rfl, h⟩ := getS_elim h
  refine iter_of (f104_p18_mk xx.1.1 xx.1.2 xx.2.2.1) (fun x N h => ?_) rounds _ σ (hs.trans (by kernel_rfl)) (LoopP.run h)
  obtain ⟨y0, y1⟩ := x
  rw [← (f104_p18e0 R) xx.1.1 xx.1.2 xx.2.2.1 y0 y1 N K]
  exact h
set_option maxHeartbeats 4000000 in
theorem f104_p30_ok (R : f104_T) : LoopOk (f104_C R) (nthC (bodies (bodyOf Tryd.f104)) 2) := by
  refine LoopOk.of (f104_p30L R) (by kernel_rfl) fun σ K h => ?_
  have hk : loopKey (nthC (bodies (bodyOf Tryd.f104)) 2) = 30 := by kernel_rfl
  rw [hk] at h ⊢
  generalize hs : normK (f104_C R) 30 σ = s at h
  obtain ⟨tm, hp⟩ := s
  unfold f104_p30L at h
  dsimp only at h
  obtain ⟨xx, yy, rfl, rfl, h⟩ := getS_elim h
  refine iter_of (f104_p30_mk xx.1.1 xx.1.2 xx.2.2.1 yy.1) (fun x N h => ?_) rounds _ σ (hs.trans (by kernel_rfl)) (LoopP.run h)
  obtain ⟨y0, y1⟩ := x
  rw [← (f104_p30e0 R) xx.1.1 xx.1.2 xx.2.2.1 y0 y1 yy.1 N K]
  exact h
set_option maxHeartbeats 4000000 in
theorem f104_p42_ok (R : f104_T) : LoopOk (f104_C R) (nthC (bodies (bodyOf Tryd.f104)) 3) := by
  refine LoopOk.of (f104_p42L R) (by kernel_rfl) fun σ K h => ?_
  have hk : loopKey (nthC (bodies (bodyOf Tryd.f104)) 3) = 42 := by kernel_rfl
  rw [hk] at h ⊢
  generalize hs : normK (f104_C R) 42 σ = s at h
  obtain ⟨tm, hp⟩ := s
  unfold f104_p42L at h
  dsimp only at h
  obtain ⟨xx, yy, rfl, rfl, h⟩ := getS_elim h
  refine iter_of (f104_p42_mk xx.1.1 xx.1.2 xx.2.2.1) (fun x N h => ?_) rounds _ σ (hs.trans (by kernel_rfl)) (LoopP.run h)
  obtain ⟨y0, y1⟩ := x
  rw [← (f104_p42e0 R) xx.1.1 xx.1.2 xx.2.2.1 y0 y1 N K]
  exact h
set_option maxHeartbeats 4000000 in
theorem f104_p66_ok (R : f104_T) : LoopOk (f104_C R) (nthC (bodies (bodyOf Tryd.f104)) 4) := by
  refine LoopOk.of (f104_p66L R) (by kernel_rfl) fun σ K h => ?_
  have hk : loopKey (nthC (bodies (bodyOf Tryd.f104)) 4) = 66 := by kernel_rfl
  rw [hk] at h ⊢
  generalize hs : normK (f104_C R) 66 σ = s at h
  obtain ⟨tm, hp⟩ := s
  unfold f104_p66L at h
  dsimp only at h
  obtain ⟨xx, yy, rfl, rfl, h⟩ := getS_elim h
  refine iter_of (f104_p66_mk xx.1.1 xx.1.2 xx.2.1 xx.2.2.1 xx.2.2.2.1 xx.2.2.2.2.2.2.1 xx.2.2.2.2.2.2.2.1 xx.2.2.2.2.2.2.2.2.2.2.1 yy.1) (fun x N h => ?_) rounds _ σ (hs.trans (by kernel_rfl)) (LoopP.run h)
  obtain ⟨y0, y1⟩ := x
  rw [← (f104_p66e0 R) xx.1.1 xx.1.2 xx.2.1 xx.2.2.1 xx.2.2.2.1 xx.2.2.2.2.2.2.1 xx.2.2.2.2.2.2.2.1 y0 y1 xx.2.2.2.2.2.2.2.2.2.2.1 yy.1 N K]
  exact h
set_option maxHeartbeats 4000000 in
theorem f104_p87_ok (R : f104_T) : TailOk (f104_C R) (nthC (tails (bodyOf Tryd.f104)) 44) := by
  refine TailOk.of (f104_p87L R) (by kernel_rfl) fun σ K h => ?_
  have hk : joinKey (nthC (tails (bodyOf Tryd.f104)) 44) = 87 := by kernel_rfl
  rw [hk] at h ⊢
  generalize hs : normK (f104_C R) 87 σ = s at h
  obtain ⟨tm, hp⟩ := s
  unfold f104_p87L at h
  dsimp only at h
  obtain ⟨xx, yy, rfl, rfl, h⟩ := getS_elim h
  have q : normK (f104_C R) 87 σ = (⟨mkS 220 [(0, .w (.one (.ref 0 xx.1.1 xx.1.2))), (3, I xx.2.2.1), (4, .w (.one (.p (.c (.func (.func 81) #[] #[]))))), (18, I xx.2.2.2.2.2.1), (24, I xx.2.2.2.2.2.2.2.1)], [.vec 10 yy.1 true]⟩ : St) := hs.trans (by kernel_rfl)
  rw [← hs, q, ← (f104_p87e0 R) xx.1.1 xx.1.2 xx.2.2.1 xx.2.2.2.2.2.1 xx.2.2.2.2.2.2.2.1 yy.1 K]
  exact h
set_option maxHeartbeats 4000000 in
theorem f104_p83_ok (R : f104_T) : TailOk (f104_C R) (nthC (tails (bodyOf Tryd.f104)) 42) := by
  refine TailOk.of (f104_p83L R) (by kernel_rfl) fun σ K h => ?_
  have hk : joinKey (nthC (tails (bodyOf Tryd.f104)) 42) = 83 := by kernel_rfl
  rw [hk] at h ⊢
  generalize hs : normK (f104_C R) 83 σ = s at h
  obtain ⟨tm, hp⟩ := s
  unfold f104_p83L at h
  dsimp only at h
  obtain ⟨xx, yy, rfl, rfl, h⟩ := getS_elim h
  have q : normK (f104_C R) 83 σ = (⟨mkS 220 [(0, .w (.one (.ref 0 xx.1.1 xx.1.2))), (1, I xx.2.1), (3, I xx.2.2.2.1), (4, .w (.one (.p (.c (.func (.func 81) #[] #[]))))), (18, I xx.2.2.2.2.2.2.1), (20, I xx.2.2.2.2.2.2.2.2.1), (24, I xx.2.2.2.2.2.2.2.2.2.2.1)], [.vec 10 yy.1 true]⟩ : St) := hs.trans (by kernel_rfl)
  rw [← hs, q, ← (f104_p83e0 R) xx.1.1 xx.1.2 xx.2.1 xx.2.2.2.1 xx.2.2.2.2.2.2.1 xx.2.2.2.2.2.2.2.2.1 xx.2.2.2.2.2.2.2.2.2.2.1 yy.1 K]
  exact h
set_option maxHeartbeats 4000000 in
theorem f104_p65_ok (R : f104_T) : TailOk (f104_C R) (nthC (tails (bodyOf Tryd.f104)) 31) := by
  refine TailOk.of (f104_p65L R) (by kernel_rfl) fun σ K h => ?_
  have hk : joinKey (nthC (tails (bodyOf Tryd.f104)) 31) = 65 := by kernel_rfl
  rw [hk] at h ⊢
  generalize hs : normK (f104_C R) 65 σ = s at h
  obtain ⟨tm, hp⟩ := s
  unfold f104_p65L at h
  dsimp only at h
  obtain ⟨xx, yy, rfl, rfl, h⟩ := getS_elim h
  have q : normK (f104_C R) 65 σ = (⟨mkS 220 [(0, .w (.one (.ref 0 xx.1.1 xx.1.2))), (1, I xx.2.1), (2, I xx.2.2.1), (3, I xx.2.2.2.1), (4, .w (.one (.p (.c (.func (.func 81) #[] #[]))))), (18, I xx.2.2.2.2.2.2.1), (19, I xx.2.2.2.2.2.2.2.1), (20, I xx.2.2.2.2.2.2.2.2.1), (21, I xx.2.2.2.2.2.2.2.2.2.1)], [.vec 10 yy.1 true]⟩ : St) := hs.trans (by kernel_rfl)
  rw [← hs, q, ← (f104_p65e0 R) xx.1.1 xx.1.2 xx.2.1 xx.2.2.1 xx.2.2.2.1 xx.2.2.2.2.2.2.1 xx.2.2.2.2.2.2.2.1 xx.2.2.2.2.2.2.2.2.1 xx.2.2.2.2.2.2.2.2.2.1 yy.1 K]
  exact h
noncomputable def f104_G0 : List TV → List Entry → (TV → List Entry → Prop) → Prop := fun tm hp K => getS [.v (.one (.ref 0)), .v (.one (.int .i64)), .v (.one (.int .i64)), .v (.one (.int .i64)), .v (.one (.fn 81))] [.vec 10 true] tm hp fun (xx : ((Nat × Nat) × (Int × (Int × (Int × (Unit × Unit)))))) (yy : ((List (List PC)) × Unit)) => f104 xx.1.1 xx.1.2 xx.2.1 xx.2.2.1 xx.2.2.2.1 yy.1 (fun es0_8 => K undefT [.vec 10 es0_8 true])
set_option maxRecDepth 100000 in
theorem f104_eq (R : f104_T) (i_107 : Nat) (n_108 : Nat) (n_109 : Int) (n_110 : Int) (n_111 : Int) (es_112 : List (List PC)) (K : TV → List Entry → Prop) : ((f104_d R) i_107 n_108 n_109 n_110 n_111 es_112 (fun es0_8 => K undefT [.vec 10 es0_8 true])) = funcT (f104_C R) Tryd.f104 [.w (.one (.ref 0 i_107 n_108)), I n_109, I n_110, I n_111, .w (.one (.p (.c (.func (.func 81) #[] #[]))))] [.vec 10 es_112 true] K := by kernel_rfl
set_option maxHeartbeats 4000000 in
theorem f104_step (R : f104_T) (hR : FnOk Tryd.prog glob 104 (f104_GR R)) : FnOk Tryd.prog glob 104 (f104_GR (f104_d R)) := by
  refine FnOk.of_text (C := (f104_C R)) tab_ok.ok (Known.add hR (Known.add f105_G_ok (Known.add f81_G_ok (Known.none)))) follows_ok (fn := Tryd.f104) (by kernel_rfl) (by kernel_rfl) (by kernel_rfl) (fun c hc => ?_) fun tm hp K h => ?_
  · have e : c = bodyOf Tryd.f104 := Option.some.inj (hc.symm.trans (by kernel_rfl))
    subst e
    exact ⟨LoopsOk.of [nthC (bodies (bodyOf Tryd.f104)) 0, nthC (bodies (bodyOf Tryd.f104)) 1, nthC (bodies (bodyOf Tryd.f104)) 2, nthC (bodies (bodyOf Tryd.f104)) 3, nthC (bodies (bodyOf Tryd.f104)) 4] (by kernel_rfl) ⟨(f104_p6_ok R), (f104_p18_ok R), (f104_p30_ok R), (f104_p42_ok R), (f104_p66_ok R), trivial⟩, TailsOk.of (tab := (f104_tab R)) rfl [nthC (tails (bodyOf Tryd.f104)) 31, nthC (tails (bodyOf Tryd.f104)) 42, nthC (tails (bodyOf Tryd.f104)) 44] (by kernel_rfl) ⟨(f104_p65_ok R), (f104_p83_ok R), (f104_p87_ok R), trivial⟩⟩
  · unfold f104_GR at h
    obtain ⟨xx, yy, rfl, rfl, h⟩ := getS_elim h
    have e := (f104_eq R xx.1.1 xx.1.2 xx.2.1 xx.2.2.1 xx.2.2.2.1 yy.1 K).trans (show _ = funcT (f104_C R) Tryd.f104 (mkR _ xx) (mkE _ yy) K by kernel_rfl)
    rw [← e]
    exact h
theorem f104_ok_n : ∀ n, FnOk Tryd.prog glob 104 (f104_GR (f104_n n))
  | 0 => fun tm hp K h => by
    unfold f104_GR at h
    obtain ⟨xx, yy, rfl, rfl, h⟩ := getS_elim h
    exact False.elim h
  | n + 1 => f104_step _ (f104_ok_n n)
theorem f104_ok0 : FnOk Tryd.prog glob 104 f104_G0 := fun tm hp K h => by
  unfold f104_G0 at h
  obtain ⟨xx, yy, rfl, rfl, h⟩ := getS_elim h
  obtain ⟨n, h⟩ := h.run
  have e : f104_GR (f104_n n) (mkR _ xx) (mkE _ yy) K = f104_n n xx.1.1 xx.1.2 xx.2.1 xx.2.2.1 xx.2.2.2.1 yy.1 (fun es0_8 => K undefT [.vec 10 es0_8 true]) := by kernel_rfl
  refine f104_ok_n n _ _ _ ?_
  rw [e]
  exact h
noncomputable abbrev f104_G := f104_G0
theorem f104_G_ok : FnOk Tryd.prog glob 104 f104_G := f104_ok0
end Go.Eng.N
set_option linter.unusedVariables false
set_option maxRecDepth 100000
open Go Go.Eng Go.Proofs
namespace Go.Eng.N
/-! ### f100: slices.stableCmpFunc(plenum/notify.Notice) -/
noncomputable def f100_p4b0 (i5 : Nat) (n6 : Nat) (n7 : Int) (n8 : Int) (n9 : Int) (n10 : Int) (es11 : List (List PC)) (N0 : Int → Int → (List (List PC)) → Prop) (k0 : Int → (List (List PC)) → Prop) : Prop := bB (decide (n10 ≤ n7)) (f103 i5 n6 n9 n10 es11 (fun es12 => N0 n10 (w64 (n10 + n8)) es12)) (k0 n9 es11)
noncomputable def f100_p4 (i5 : Nat) (n6 : Nat) (n7 : Int) (n8 : Int) (k0 : Int → (List (List PC)) → Prop) : Int × Int × (List (List PC)) → Prop := LoopP fun x N => f100_p4b0 i5 n6 n7 n8 x.1 x.2.1 x.2.2 (fun n9 n10 es11 => N (n9, n10, es11)) k0
noncomputable def f100_p18b0 (i21 : Nat) (n22 : Nat) (n23 : Int) (n24 : Int) (n25 : Int) (n26 : Int) (es27 : List (List PC)) (N0 : Int → Int → (List (List PC)) → Prop) (k0 : Int → (List (List PC)) → Prop) : Prop := bB (decide (n26 ≤ n23)) (f104 i21 n22 n25 (w64 (n25 + n24)) n26 es27 (fun es28 => N0 n26 (w64 (n26 + (w64 (2 * n24)))) es28)) (k0 n25 es27)
noncomputable def f100_p18 (i21 : Nat) (n22 : Nat) (n23 : Int) (n24 : Int) (k0 : Int → (List (List PC)) → Prop) : Int × Int × (List (List PC)) → Prop := LoopP fun x N => f100_p18b0 i21 n22 n23 n24 x.1 x.2.1 x.2.2 (fun n25 n26 es27 => N (n25, n26, es27)) k0
noncomputable def f100_p14b0 (i16 : Nat) (n17 : Nat) (n18 : Int) (n19 : Int) (es20 : List (List PC)) (N0 : Int → (List (List PC)) → Prop) (k0 : (List (List PC)) → Prop) : Prop := bB (decide (n19 < n18)) (f100_p18 i16 n17 n18 n19 (fun n29 es30 => bB (decide ((w64 (n29 + n19)) < n18)) (f104 i16 n17 n29 (w64 (n29 + n19)) n18 es30 (fun es31 => N0 (w64 (n19 * 2)) es31)) (N0 (w64 (n19 * 2)) es30)) (0, (w64 (2 * n19)), es20)) (k0 es20)
noncomputable def f100_p14 (i16 : Nat) (n17 : Nat) (n18 : Int) (k0 : (List (List PC)) → Prop) : Int × (List (List PC)) → Prop := LoopP fun x N => f100_p14b0 i16 n17 n18 x.1 x.2 (fun n19 es20 => N (n19, es20)) k0
noncomputable def f100_d (i1 : Nat) (n2 : Nat) (n3 : Int) (es4 : List (List PC)) (k0 : (List (List PC)) → Prop) : Prop := f100_p4 i1 n2 n3 20 (fun n13 es14 => f103 i1 n2 n13 n3 es14 (fun es15 => f100_p14 i1 n2 n3 (fun es32 => k0 es32) (20, es15))) (0, 20, es4)
structure f100 (i1 : Nat) (n2 : Nat) (n3 : Int) (es4 : List (List PC)) (k0 : (List (List PC)) → Prop) : Prop where
  run : f100_d i1 n2 n3 es4 k0
noncomputable def f100_p4L : Told := fun s K => match s with
  | ⟨tm, hp⟩ => getS [.v (.one (.ref 0)), .v (.one (.int .i64)), .v (.one (.fn 81)), .skip 3, .v (.one (.int .i64)), .v (.one (.int .i64)), .v (.one (.int .i64)), .skip 54] [.vec 10 true] tm hp fun (xx : ((Nat × Nat) × (Int × (Unit × (Unit × (Int × (Int × (Int × (Unit × Unit))))))))) (yy : ((List (List PC)) × Unit)) => f100_p4 xx.1.1 xx.1.2 xx.2.1 xx.2.2.2.2.1 (fun n0_0 es0_1 => K (.exit 0) ⟨mkS 63 [(0, .w (.one (.ref 0 xx.1.1 xx.1.2))), (1, I xx.2.1), (2, .w (.one (.p (.c (.func (.func 81) #[] #[]))))), (6, I xx.2.2.2.2.1), (7, I n0_0)], [.vec 10 es0_1 true]⟩) (xx.2.2.2.2.2.1, xx.2.2.2.2.2.2.1, yy.1)
noncomputable def f100_p18L : Told := fun s K => match s with
  | ⟨tm, hp⟩ => getS [.v (.one (.ref 0)), .v (.one (.int .i64)), .v (.one (.fn 81)), .skip 3, .v (.one (.int .i64)), .v (.one (.int .i64)), .v (.one (.int .i64)), .skip 54] [.vec 10 true] tm hp fun (xx : ((Nat × Nat) × (Int × (Unit × (Unit × (Int × (Int × (Int × (Unit × Unit))))))))) (yy : ((List (List PC)) × Unit)) => f100_p18 xx.1.1 xx.1.2 xx.2.1 xx.2.2.2.2.1 (fun n0_2 es0_3 => K (.exit 4) ⟨mkS 63 [(0, .w (.one (.ref 0 xx.1.1 xx.1.2))), (1, I xx.2.1), (2, .w (.one (.p (.c (.func (.func 81) #[] #[]))))), (6, I xx.2.2.2.2.1), (7, I n0_2)], [.vec 10 es0_3 true]⟩) (xx.2.2.2.2.2.1, xx.2.2.2.2.2.2.1, yy.1)
noncomputable def f100_p14L : Told := fun s K => match s with
  | ⟨tm, hp⟩ => getS [.v (.one (.ref 0)), .v (.one (.int .i64)), .v (.one (.fn 81)), .skip 3, .v (.one (.int .i64)), .skip 56] [.vec 10 true] tm hp fun (xx : ((Nat × Nat) × (Int × (Unit × (Unit × (Int × (Unit × Unit))))))) (yy : ((List (List PC)) × Unit)) => f100_p14 xx.1.1 xx.1.2 xx.2.1 (fun es0_4 => K (.exit 2) ⟨mkS 63 [], [.vec 10 es0_4 true]⟩) (xx.2.2.2.2.1, yy.1)
noncomputable def f100_tab : List (Nat × Told) := [(4, f100_p4L), (18, f100_p18L), (14, f100_p14L)]
noncomputable def f100_call : FuncId → List TV → List Entry → (TV → List Entry → Prop) → Prop := addCall 104 f104_G (addCall 103 f103_G (noCalls))
noncomputable def f100_C : Ctx := { ty := tyOf tab, glob := glob, byRef := byRef, keep := fun k i => lookN [] (lookN [] ([(4, [(0, [0, 1, 2, 6, 7, 8]), (2, []), (3, [0, 1, 2, 6, 7])]), (18, [(0, [0, 1, 2, 6, 7, 8]), (2, []), (5, []), (6, [0, 1, 2, 6]), (7, [0, 1, 2, 6, 7])]), (14, [(0, [0, 1, 2, 6]), (2, []), (5, [])])] : List (Nat × List (Nat × List Nat))) k) i, late := lookN [] ([] : List (Nat × List Nat)), nref := lookN [] ([] : List (Nat × List Nat)), nbox := lookN [] ([] : List (Nat × List (Nat × Nat))), take := [], rnil := true, m := 1, fz := false, loops := lookL f100_tab, call := f100_call }
noncomputable def f100_p4_mk (i5 : Nat) (n6 : Nat) (n7 : Int) (n8 : Int) (x : Int × Int × (List (List PC))) : St := ⟨mkS 63 [(0, .w (.one (.ref 0 i5 n6))), (1, I n7), (2, .w (.one (.p (.c (.func (.func 81) #[] #[]))))), (6, I n8), (7, I x.1), (8, I x.2.1)], [.vec 10 x.2.2 true]⟩
set_option maxRecDepth 100000 in
theorem f100_p4e0 (i_13 : Nat) (n_14 : Nat) (n_15 : Int) (n_16 : Int) (n_17 : Int) (n_18 : Int) (es_19 : List (List PC)) (N : St → Prop) (K : TExit → St → Prop) : (f100_p4b0 i_13 n_14 n_15 n_16 n_17 n_18 es_19 (fun z4 z5 z6 => N (f100_p4_mk i_13 n_14 n_15 n_16 (z4, z5, z6))) (fun n0_20 es0_21 => K (.exit 0) ⟨mkS 63 [(0, .w (.one (.ref 0 i_13 n_14))), (1, I n_15), (2, .w (.one (.p (.c (.func (.func 81) #[] #[]))))), (6, I n_16), (7, I n0_20)], [.vec 10 es0_21 true]⟩)) = execT f100_C (nthC (bodies (bodyOf Tryd.f100)) 0) (f100_p4_mk i_13 n_14 n_15 n_16 (n_17, n_18, es_19)) (loopK N (normK f100_C 4) fun e s => K e (normOut f100_C 4 e s)) := by kernel_rfl
noncomputable def f100_p18_mk (i21 : Nat) (n22 : Nat) (n23 : Int) (n24 : Int) (x : Int × Int × (List (List PC))) : St := ⟨mkS 63 [(0, .w (.one (.ref 0 i21 n22))), (1, I n23), (2, .w (.one (.p (.c (.func (.func 81) #[] #[]))))), (6, I n24), (7, I x.1), (8, I x.2.1)], [.vec 10 x.2.2 true]⟩
set_option maxRecDepth 100000 in
theorem f100_p18e0 (i_29 : Nat) (n_30 : Nat) (n_31 : Int) (n_32 : Int) (n_33 : Int) (n_34 : Int) (es_35 : List (List PC)) (N : St → Prop) (K : TExit → St → Prop) : (f100_p18b0 i_29 n_30 n_31 n_32 n_33 n_34 es_35 (fun z4 z5 z6 => N (f100_p18_mk i_29 n_30 n_31 n_32 (z4, z5, z6))) (fun n0_36 es0_37 => K (.exit 4) ⟨mkS 63 [(0, .w (.one (.ref 0 i_29 n_30))), (1, I n_31), (2, .w (.one (.p (.c (.func (.func 81) #[] #[]))))), (6, I n_32), (7, I n0_36)], [.vec 10 es0_37 true]⟩)) = execT f100_C (nthC (bodies (bodyOf Tryd.f100)) 2) (f100_p18_mk i_29 n_30 n_31 n_32 (n_33, n_34, es_35)) (loopK N (normK f100_C 18) fun e s => K e (normOut f100_C 18 e s)) := by kernel_rfl
noncomputable def f100_p14_mk (i16 : Nat) (n17 : Nat) (n18 : Int) (x : Int × (List (List PC))) : St := ⟨mkS 63 [(0, .w (.one (.ref 0 i16 n17))), (1, I n18), (2, .w (.one (.p (.c (.func (.func 81) #[] #[]))))), (6, I x.1)], [.vec 10 x.2 true]⟩
set_option maxRecDepth 100000 in
theorem f100_p14e0 (i_43 : Nat) (n_44 : Nat) (n_45 : Int) (n_46 : Int) (es_47 : List (List PC)) (N : St → Prop) (K : TExit → St → Prop) : (f100_p14b0 i_43 n_44 n_45 n_46 es_47 (fun z3 z4 => N (f100_p14_mk i_43 n_44 n_45 (z3, z4))) (fun es0_48 => K (.exit 2) ⟨mkS 63 [], [.vec 10 es0_48 true]⟩)) = execT f100_C (nthC (bodies (bodyOf Tryd.f100)) 1) (f100_p14_mk i_43 n_44 n_45 (n_46, es_47)) (loopK N (normK f100_C 14) fun e s => K e (normOut f100_C 14 e s)) := by kernel_rfl
set_option maxHeartbeats 4000000 in
theorem f100_p4_ok : LoopOk f100_C (nthC (bodies (bodyOf Tryd.f100)) 0) := by
  refine LoopOk.of f100_p4L (by kernel_rfl) fun σ K h => ?_
  have hk : loopKey (nthC (bodies (bodyOf Tryd.f100)) 0) = 4 := by kernel_rfl
  rw [hk] at h ⊢
  generalize hs : normK f100_C 4 σ = s at h
  obtain ⟨tm, hp⟩ := s
  unfold f100_p4L at h
  dsimp only at h
  obtain ⟨xx, yy, rfl, rfl, h⟩ := getS_elim h
  refine iter_of (f100_p4_mk xx.1.1 xx.1.2 xx.2.1 xx.2.2.2.2.1) (fun x N h => ?_) rounds _ σ (hs.trans (by kernel_rfl)) (LoopP.run h)
  obtain ⟨y0, y1, y2⟩ := x
  rw [← f100_p4e0 xx.1.1 xx.1.2 xx.2.1 xx.2.2.2.2.1 y0 y1 y2 N K]
  exact h
set_option maxHeartbeats 4000000 in
theorem f100_p18_ok : LoopOk f100_C (nthC (bodies (bodyOf Tryd.f100)) 2) := by
  refine LoopOk.of f100_p18L (by kernel_rfl) fun σ K h => ?_
  have hk : loopKey (nthC (bodies (bodyOf Tryd.f100)) 2) = 18 := by kernel_rfl
  rw [hk] at h ⊢
  generalize hs : normK f100_C 18 σ = s at h
  obtain ⟨tm, hp⟩ := s
  unfold f100_p18L at h
  dsimp only at h
  obtain ⟨xx, yy, rfl, rfl, h⟩ := getS_elim h
  refine iter_of (f100_p18_mk xx.1.1 xx.1.2 xx.2.1 xx.2.2.2.2.1) (fun x N h => ?_) rounds _ σ (hs.trans (by kernel_rfl)) (LoopP.run h)
  obtain ⟨y0, y1, y2⟩ := x
  rw [← f100_p18e0 xx.1.1 xx.1.2 xx.2.1 xx.2.2.2.2.1 y0 y1 y2 N K]
  exact h
set_option maxHeartbeats 4000000 in
theorem f100_p14_ok : LoopOk f100_C (nthC (bodies (bodyOf Tryd.f100)) 1) := by
  refine LoopOk.of f100_p14L (by kernel_rfl) fun σ K h => ?_
  have hk : loopKey (nthC (bodies (bodyOf Tryd.f100)) 1) = 14 := by kernel_rfl
  rw [hk] at h ⊢
  generalize hs : normK f100_C 14 σ = s at h
  obtain ⟨tm, hp⟩ := s
  unfold f100_p14L at h
  dsimp only at h
  obtain ⟨xx, yy, rfl, rfl, h⟩ := getS_elim h
  refine iter_of (f100_p14_mk xx.1.1 xx.1.2 xx.2.1) (fun x N h => ?_) rounds _ σ (hs.trans (by kernel_rfl)) (LoopP.run h)
  obtain ⟨y0, y1⟩ := x
  rw [← f100_p14e0 xx.1.1 xx.1.2 xx.2.1 y0 y1 N K]
  exact h
noncomputable def f100_G0 : List TV → List Entry → (TV → List Entry → Prop) → Prop := fun tm hp K => getS [.v (.one (.ref 0)), .v (.one (.int .i64)), .v (.one (.fn 81))] [.vec 10 true] tm hp fun (xx : ((Nat × Nat) × (Int × (Unit × Unit)))) (yy : ((List (List PC)) × Unit)) => f100 xx.1.1 xx.1.2 xx.2.1 yy.1 (fun es0_5 => K undefT [.vec 10 es0_5 true])
set_option maxRecDepth 100000 in
theorem f100_eq (i_49 : Nat) (n_50 : Nat) (n_51 : Int) (es_52 : List (List PC)) (K : TV → List Entry → Prop) : (f100_d i_49 n_50 n_51 es_52 (fun es0_5 => K undefT [.vec 10 es0_5 true])) = funcT f100_C Tryd.f100 [.w (.one (.ref 0 i_49 n_50)), I n_51, .w (.one (.p (.c (.func (.func 81) #[] #[]))))] [.vec 10 es_52 true] K := by kernel_rfl
set_option maxHeartbeats 4000000 in
theorem f100_ok0 : FnOk Tryd.prog glob 100 f100_G0 := by
  refine FnOk.of_text (C := f100_C) tab_ok.ok (Known.add f104_G_ok (Known.add f103_G_ok (Known.none))) follows_ok (fn := Tryd.f100) (by kernel_rfl) (by kernel_rfl) (by kernel_rfl) (fun c hc => ?_) fun tm hp K h => ?_
  · have e : c = bodyOf Tryd.f100 := Option.some.inj (hc.symm.trans (by kernel_rfl))
    subst e
    exact ⟨LoopsOk.of [nthC (bodies (bodyOf Tryd.f100)) 0, nthC (bodies (bodyOf Tryd.f100)) 1, nthC (bodies (bodyOf Tryd.f100)) 2] (by kernel_rfl) ⟨f100_p4_ok, f100_p14_ok, f100_p18_ok, trivial⟩, TailsOk.of (tab := f100_tab) rfl [] (by kernel_rfl) trivial⟩
  · unfold f100_G0 at h
    obtain ⟨xx, yy, rfl, rfl, h⟩ := getS_elim h
    have e := (f100_eq xx.1.1 xx.1.2 xx.2.1 yy.1 K).trans (show _ = funcT f100_C Tryd.f100 (mkR _ xx) (mkE _ yy) K by kernel_rfl)
    rw [← e]
    exact h.run
noncomputable abbrev f100_G := f100_G0
theorem f100_G_ok : FnOk Tryd.prog glob 100 f100_G := f100_ok0
end Go.Eng.N
set_option linter.unusedVariables false
set_option maxRecDepth 100000
open Go Go.Eng Go.Proofs
namespace Go.Eng.N
/-! ### f80: slices.SortStableFunc(()plenum/notify.Notice,plenum/notify.Notice) -/
noncomputable def f80_d (i1 : Nat) (n2 : Nat) (es3 : List (List PC)) (k0 : (List (List PC)) → Prop) : Prop := f100 i1 n2 ((n2 : Nat) : Int) es3 (fun es4 => k0 es4)
structure f80 (i1 : Nat) (n2 : Nat) (es3 : List (List PC)) (k0 : (List (List PC)) → Prop) : Prop where
  run : f80_d i1 n2 es3 k0
noncomputable def f80_tab : List (Nat × Told) := []
noncomputable def f80_call : FuncId → List TV → List Entry → (TV → List Entry → Prop) → Prop := addCall 100 f100_G (noCalls)
noncomputable def f80_C : Ctx := { ty := tyOf tab, glob := glob, byRef := byRef, keep := fun k i => lookN [] (lookN [] ([] : List (Nat × List (Nat × List Nat))) k) i, late := lookN [] ([] : List (Nat × List Nat)), nref := lookN [] ([] : List (Nat × List Nat)), nbox := lookN [] ([] : List (Nat × List (Nat × Nat))), take := [], rnil := true, m := 1, fz := false, loops := lookL f80_tab, call := f80_call }
noncomputable def f80_G0 : List TV → List Entry → (TV → List Entry → Prop) → Prop := fun tm hp K => getS [.v (.one (.ref 0)), .v (.one (.fn 81))] [.vec 10 true] tm hp fun (xx : ((Nat × Nat) × (Unit × Unit))) (yy : ((List (List PC)) × Unit)) => f80 xx.1.1 xx.1.2 yy.1 (fun es0_0 => K undefT [.vec 10 es0_0 true])
set_option maxRecDepth 100000 in
theorem f80_eq (i_1 : Nat) (n_2 : Nat) (es_3 : List (List PC)) (K : TV → List Entry → Prop) : (f80_d i_1 n_2 es_3 (fun es0_0 => K undefT [.vec 10 es0_0 true])) = funcT f80_C Tryd.f80 [.w (.one (.ref 0 i_1 n_2)), .w (.one (.p (.c (.func (.func 81) #[] #[]))))] [.vec 10 es_3 true] K := by kernel_rfl
set_option maxHeartbeats 4000000 in
theorem f80_ok0 : FnOk Tryd.prog glob 80 f80_G0 := by
  refine FnOk.of_text (C := f80_C) tab_ok.ok (Known.add f100_G_ok (Known.none)) follows_ok (fn := Tryd.f80) (by kernel_rfl) (by kernel_rfl) (by kernel_rfl) (fun c hc => ?_) fun tm hp K h => ?_
  · have e : c = bodyOf Tryd.f80 := Option.some.inj (hc.symm.trans (by kernel_rfl))
    subst e
    exact ⟨LoopsOk.of [] (by kernel_rfl) trivial, TailsOk.of (tab := f80_tab) rfl [] (by kernel_rfl) trivial⟩
  · unfold f80_G0 at h
    obtain ⟨xx, yy, rfl, rfl, h⟩ := getS_elim h
    have e := (f80_eq xx.1.1 xx.1.2 yy.1 K).trans (show _ = funcT f80_C Tryd.f80 (mkR _ xx) (mkE _ yy) K by kernel_rfl)
    rw [← e]
    exact h.run
noncomputable abbrev f80_G := f80_G0
theorem f80_G_ok : FnOk Tryd.prog glob 80 f80_G := f80_ok0
end Go.Eng.N
set_option linter.unusedVariables false
set_option maxRecDepth 100000
open Go Go.Eng Go.Proofs
namespace Go.Eng.N
/-! ### f58: plenum/notify.plan -/
noncomputable def f58_p18b0 (n34 : Int) (n35 : Int) (n36 : Int) (es37 : List (List PC)) (full38 : Bool) (n39 : Int) (n40 : Int) (n41 : Int) (cs42 : List PC) (cs43 : List PC) (s44 : ByteArray) (n45 : Int) (n46 : Int) (n47 : Int) (n48 : Int) (N0 : Int → (List PC) → Prop) (k0 : (List PC) → Prop) : Prop := bB (decide (n36 ≤ n47)) ((0 ≤ n35 ∧ n35 < 7) ∧ (0 ≤ n36 ∧ n36 < 1440) ∧ oB (ext cs43 ((0 + ((Int.toNat n35) * 1440)) + ((Int.toNat n36) * 1)) 1) fun b49 => bB b49 ((0 ≤ n35 ∧ n35 < 7) ∧ (0 ≤ n36 ∧ n36 < 1440) ∧ 1 = 1 ∧ (((0 + ((Int.toNat n35) * 1440)) + ((Int.toNat n36) * 1)) + 1) ≤ cs43.length ∧ N0 (w64 (n36 + 1)) (splice cs43 ((0 + ((Int.toNat n35) * 1440)) + ((Int.toNat n36) * 1)) [pB true])) ((0 ≤ n35 ∧ n35 < 7) ∧ f91 s44 n45 n46 n47 n48 (w64 (n35 + 1)) n36 n34 (fun b50 => (0 ≤ n36 ∧ n36 < 1440) ∧ 1 = 1 ∧ (((0 + ((Int.toNat n35) * 1440)) + ((Int.toNat n36) * 1)) + 1) ≤ cs43.length ∧ N0 (w64 (n36 + 1)) (splice cs43 ((0 + ((Int.toNat n35) * 1440)) + ((Int.toNat n36) * 1)) [pB b50])))) (k0 cs43)
noncomputable def f58_p18 (n34 : Int) (n35 : Int) (es37 : List (List PC)) (full38 : Bool) (n39 : Int) (n40 : Int) (n41 : Int) (cs42 : List PC) (s44 : ByteArray) (n45 : Int) (n46 : Int) (n47 : Int) (n48 : Int) (k0 : (List PC) → Prop) : Int × (List PC) → Prop := LoopP fun x N => f58_p18b0 n34 n35 x.1 es37 full38 n39 n40 n41 cs42 x.2 s44 n45 n46 n47 n48 (fun n36 cs43 => N (n36, cs43)) k0
noncomputable def f58_p12b0 (n21 : Int) (es22 : List (List PC)) (full23 : Bool) (n24 : Int) (n25 : Int) (n26 : Int) (cs27 : List PC) (cs28 : List PC) (s29 : ByteArray) (n30 : Int) (n31 : Int) (n32 : Int) (n33 : Int) (N0 : Int → (List PC) → Prop) (k0 : (List PC) → Prop) : Prop := bB (decide (n26 < 7)) (f58_p18 n21 n26 es22 full23 n24 n25 n26 cs27 s29 n30 n31 n32 n33 (fun cs51 => N0 (w64 (n26 + 1)) cs51) (n31, cs28)) (k0 cs28)
noncomputable def f58_p12 (n21 : Int) (es22 : List (List PC)) (full23 : Bool) (n24 : Int) (n25 : Int) (cs27 : List PC) (s29 : ByteArray) (n30 : Int) (n31 : Int) (n32 : Int) (n33 : Int) (k0 : (List PC) → Prop) : Int × (List PC) → Prop := LoopP fun x N => f58_p12b0 n21 es22 full23 n24 n25 x.1 cs27 x.2 s29 n30 n31 n32 n33 (fun n26 cs28 => N (n26, cs28)) k0
noncomputable def f58_p6b0 (n4 : Int) (es5 : List (List PC)) (full6 : Bool) (n7 : Int) (n8 : Int) (cs9 : List PC) (cs10 : List PC) (N0 : Int → (List PC) → Prop) (k0 : (List PC) → Prop) : Prop := bB (decide (n8 < n7)) ((0 ≤ n8 ∧ n8 < ((es5.length : Nat) : Int)) ∧ cS (ext (List.getD es5 (Int.toNat n8) []) 0 5) fun s12 r11 => cI .i64 r11 fun n14 r13 => cI .i64 r13 fun n16 r15 => cI .i64 r15 fun n18 r17 => cI .i64 r17 fun n20 r19 => nilC r19 <| f58_p12 n4 es5 full6 n7 n8 cs9 s12 n14 n16 n18 n20 (fun cs52 => N0 (w64 (n8 + 1)) cs52) (0, cs10)) (k0 cs10)
noncomputable def f58_p6 (n4 : Int) (es5 : List (List PC)) (full6 : Bool) (n7 : Int) (cs9 : List PC) (k0 : (List PC) → Prop) : Int × (List PC) → Prop := LoopP fun x N => f58_p6b0 n4 es5 full6 n7 x.1 cs9 x.2 (fun n8 cs10 => N (n8, cs10)) k0
noncomputable def f58_d (es1 : List (List PC)) (full2 : Bool) (n3 : Int) (k0 : (List PC) → Prop) : Prop := f58_p6 n3 es1 full2 ((es1.length : Nat) : Int) (List.replicate 10080 (pB false)) (fun cs53 => (ext cs53 0 10080).length = 10080 ∧ (ext cs53 0 10080).length = 10080 ∧ 10080 ≤ (List.replicate 10080 (pB false)).length ∧ (ext (splice (List.replicate 10080 (pB false)) 0 (ext cs53 0 10080)) 0 10080).length = 10080 ∧ k0 (ext (splice (List.replicate 10080 (pB false)) 0 (ext cs53 0 10080)) 0 10080)) (0, (List.replicate 10080 (pB false)))
structure f58 (es1 : List (List PC)) (full2 : Bool) (n3 : Int) (k0 : (List PC) → Prop) : Prop where
  run : f58_d es1 full2 n3 k0
noncomputable def f58_p18L : Told := fun s K => match s with
  | ⟨tm, hp⟩ => getS [.skip 1, .v (.one (.int .i64)), .skip 2, .v (.one (.ptr 0 0 0)), .v (.one (.ptr 1 0 0)), .skip 1, .v (.one (.ptr 2 0 0)), .v (.one (.int .i64)), .v (.one (.int .i64)), .v (.one (.sl 5)), .v (.one (.int .i64)), .v (.one (.int .i64)), .skip 3, .v (.one (.int .i64)), .skip 30] [.pbox, .pbox, .box [.str, .int .i64, .int .i64, .int .i64, .int .i64]] tm hp fun (xx : (Unit × (Int × (Unit × (Unit × (Unit × (Unit × (Unit × (Int × (Int × ((List (List PC) × Bool) × (Int × (Int × (Unit × (Int × (Unit × Unit)))))))))))))))) (yy : ((List PC) × ((List PC) × ((ByteArray × (Int × (Int × (Int × (Int × Unit))))) × Unit)))) => f58_p18 xx.2.1 xx.2.2.2.2.2.2.2.1 xx.2.2.2.2.2.2.2.2.2.1.1 xx.2.2.2.2.2.2.2.2.2.1.2 xx.2.2.2.2.2.2.2.2.2.2.1 xx.2.2.2.2.2.2.2.2.2.2.2.1 xx.2.2.2.2.2.2.2.2.2.2.2.2.2.1 yy.1 yy.2.2.1.1 yy.2.2.1.2.1 yy.2.2.1.2.2.1 yy.2.2.1.2.2.2.1 yy.2.2.1.2.2.2.2.1 (fun cs0_0 => K (.exit 4) ⟨mkS 47 [(1, I xx.2.1), (4, .w (.one (.ptr 0 0 0))), (5, .w (.one (.ptr 1 0 0))), (7, .w (.one (.ptr 2 0 0))), (10, .w (.one (.p (.sl 5 xx.2.2.2.2.2.2.2.2.2.1.1 xx.2.2.2.2.2.2.2.2.2.1.2)))), (11, I xx.2.2.2.2.2.2.2.2.2.2.1), (12, I xx.2.2.2.2.2.2.2.2.2.2.2.1), (16, I xx.2.2.2.2.2.2.2.2.2.2.2.2.2.1)], [.pbox yy.1, .pbox cs0_0, .box [.p (pS yy.2.2.1.1), .p (pI yy.2.2.1.2.1), .p (pI yy.2.2.1.2.2.1), .p (pI yy.2.2.1.2.2.2.1), .p (pI yy.2.2.1.2.2.2.2.1)]]⟩) (xx.2.2.2.2.2.2.2.2.1, yy.2.1)
noncomputable def f58_p12L : Told := fun s K => match s with
  | ⟨tm, hp⟩ => getS [.skip 1, .v (.one (.int .i64)), .skip 2, .v (.one (.ptr 0 0 0)), .v (.one (.ptr 1 0 0)), .skip 1, .v (.one (.ptr 2 0 0)), .skip 2, .v (.one (.sl 5)), .v (.one (.int .i64)), .v (.one (.int .i64)), .skip 3, .v (.one (.int .i64)), .skip 30] [.pbox, .pbox, .box [.str, .int .i64, .int .i64, .int .i64, .int .i64]] tm hp fun (xx : (Unit × (Int × (Unit × (Unit × (Unit × (Unit × (Unit × (Unit × ((List (List PC) × Bool) × (Int × (Int × (Unit × (Int × (Unit × Unit))))))))))))))) (yy : ((List PC) × ((List PC) × ((ByteArray × (Int × (Int × (Int × (Int × Unit))))) × Unit)))) => f58_p12 xx.2.1 xx.2.2.2.2.2.2.2.2.1.1 xx.2.2.2.2.2.2.2.2.1.2 xx.2.2.2.2.2.2.2.2.2.1 xx.2.2.2.2.2.2.2.2.2.2.1 yy.1 yy.2.2.1.1 yy.2.2.1.2.1 yy.2.2.1.2.2.1 yy.2.2.1.2.2.2.1 yy.2.2.1.2.2.2.2.1 (fun cs0_1 => K (.exit 2) ⟨mkS 47 [(1, I xx.2.1), (4, .w (.one (.ptr 0 0 0))), (5, .w (.one (.ptr 1 0 0))), (10, .w (.one (.p (.sl 5 xx.2.2.2.2.2.2.2.2.1.1 xx.2.2.2.2.2.2.2.2.1.2)))), (11, I xx.2.2.2.2.2.2.2.2.2.1), (12, I xx.2.2.2.2.2.2.2.2.2.2.1)], [.pbox yy.1, .pbox cs0_1]⟩) (xx.2.2.2.2.2.2.2.2.2.2.2.2.1, yy.2.1)
noncomputable def f58_p6L : Told := fun s K => match s with
  | ⟨tm, hp⟩ => getS [.skip 1, .v (.one (.int .i64)), .skip 2, .v (.one (.ptr 0 0 0)), .v (.one (.ptr 1 0 0)), .skip 4, .v (.one (.sl 5)), .v (.one (.int .i64)), .v (.one (.int .i64)), .skip 34] [.pbox, .pbox] tm hp fun (xx : (Unit × (Int × (Unit × (Unit × (Unit × (Unit × ((List (List PC) × Bool) × (Int × (Int × (Unit × Unit))))))))))) (yy : ((List PC) × ((List PC) × Unit))) => f58_p6 xx.2.1 xx.2.2.2.2.2.2.1.1 xx.2.2.2.2.2.2.1.2 xx.2.2.2.2.2.2.2.1 yy.1 (fun cs0_2 => K (.exit 0) ⟨mkS 47 [(4, .w (.one (.ptr 0 0 0))), (5, .w (.one (.ptr 1 0 0)))], [.pbox yy.1, .pbox cs0_2]⟩) (xx.2.2.2.2.2.2.2.2.1, yy.2.1)
noncomputable def f58_tab : List (Nat × Told) := [(18, f58_p18L), (12, f58_p12L), (6, f58_p6L)]
noncomputable def f58_call : FuncId → List TV → List Entry → (TV → List Entry → Prop) → Prop := addCall 91 f91_G (noCalls)
noncomputable def f58_C : Ctx := { ty := tyOf tab, glob := glob, byRef := byRef, keep := fun k i => lookN [] (lookN [] ([(18, [(0, [1, 4, 5, 7, 8, 9, 10, 11, 12, 16]), (2, [4]), (3, [4, 5]), (4, [1, 4, 5, 10, 11, 12]), (5, [1, 4, 5, 10, 11, 12]), (6, [1, 4, 5, 7, 10, 11, 12, 16]), (7, [1, 4, 5, 7, 10, 11, 12, 16])]), (12, [(0, [1, 4, 5, 7, 10, 11, 12, 16]), (2, [4]), (3, [4, 5]), (4, [1, 4, 5, 10, 11, 12]), (5, [1, 4, 5, 10, 11, 12])]), (6, [(0, [1, 4, 5, 10, 11, 12]), (2, [4]), (3, [4, 5])])] : List (Nat × List (Nat × List Nat))) k) i, late := lookN [] ([] : List (Nat × List Nat)), nref := lookN [] ([] : List (Nat × List Nat)), nbox := lookN [] ([] : List (Nat × List (Nat × Nat))), take := [], rnil := true, m := 0, fz := false, loops := lookL f58_tab, call := f58_call }
noncomputable def f58_p18_mk (n34 : Int) (n35 : Int) (es37 : List (List PC)) (full38 : Bool) (n39 : Int) (n40 : Int) (n41 : Int) (cs42 : List PC) (s44 : ByteArray) (n45 : Int) (n46 : Int) (n47 : Int) (n48 : Int) (x : Int × (List PC)) : St := ⟨mkS 47 [(1, I n34), (4, .w (.one (.ptr 0 0 0))), (5, .w (.one (.ptr 1 0 0))), (7, .w (.one (.ptr 2 0 0))), (8, I n35), (9, I x.1), (10, .w (.one (.p (.sl 5 es37 full38)))), (11, I n39), (12, I n40), (16, I n41)], [.pbox cs42, .pbox x.2, .box [.p (pS s44), .p (pI n45), .p (pI n46), .p (pI n47), .p (pI n48)]]⟩
set_option maxRecDepth 100000 in
theorem f58_p18e0 (n_19 : Int) (n_20 : Int) (n_21 : Int) (es_22 : List (List PC)) (full_23 : Bool) (n_24 : Int) (n_25 : Int) (n_26 : Int) (cs_27 : List PC) (cs_28 : List PC) (s_29 : ByteArray) (n_30 : Int) (n_31 : Int) (n_32 : Int) (n_33 : Int) (N : St → Prop) (K : TExit → St → Prop) : (f58_p18b0 n_19 n_20 n_21 es_22 full_23 n_24 n_25 n_26 cs_27 cs_28 s_29 n_30 n_31 n_32 n_33 (fun z2 z9 => N (f58_p18_mk n_19 n_20 es_22 full_23 n_24 n_25 n_26 cs_27 s_29 n_30 n_31 n_32 n_33 (z2, z9))) (fun cs0_34 => K (.exit 4) ⟨mkS 47 [(1, I n_19), (4, .w (.one (.ptr 0 0 0))), (5, .w (.one (.ptr 1 0 0))), (7, .w (.one (.ptr 2 0 0))), (10, .w (.one (.p (.sl 5 es_22 full_23)))), (11, I n_24), (12, I n_25), (16, I n_26)], [.pbox cs_27, .pbox cs0_34, .box [.p (pS s_29), .p (pI n_30), .p (pI n_31), .p (pI n_32), .p (pI n_33)]]⟩)) = execT f58_C (nthC (bodies (bodyOf Tryd.f58)) 2) (f58_p18_mk n_19 n_20 es_22 full_23 n_24 n_25 n_26 cs_27 s_29 n_30 n_31 n_32 n_33 (n_21, cs_28)) (loopK N (normK f58_C 18) fun e s => K e (normOut f58_C 18 e s)) := by kernel_rfl
noncomputable def f58_p12_mk (n21 : Int) (es22 : List (List PC)) (full23 : Bool) (n24 : Int) (n25 : Int) (cs27 : List PC) (s29 : ByteArray) (n30 : Int) (n31 : Int) (n32 : Int) (n33 : Int) (x : Int × (List PC)) : St := ⟨mkS 47 [(1, I n21), (4, .w (.one (.ptr 0 0 0))), (5, .w (.one (.ptr 1 0 0))), (7, .w (.one (.ptr 2 0 0))), (10, .w (.one (.p (.sl 5 es22 full23)))), (11, I n24), (12, I n25), (16, I x.1)], [.pbox cs27, .pbox x.2, .box [.p (pS s29), .p (pI n30), .p (pI n31), .p (pI n32), .p (pI n33)]]⟩
set_option maxRecDepth 100000 in
theorem f58_p12e0 (n_48 : Int) (es_49 : List (List PC)) (full_50 : Bool) (n_51 : Int) (n_52 : Int) (n_53 : Int) (cs_54 : List PC) (cs_55 : List PC) (s_56 : ByteArray) (n_57 : Int) (n_58 : Int) (n_59 : Int) (n_60 : Int) (N : St → Prop) (K : TExit → St → Prop) : (f58_p12b0 n_48 es_49 full_50 n_51 n_52 n_53 cs_54 cs_55 s_56 n_57 n_58 n_59 n_60 (fun z5 z7 => N (f58_p12_mk n_48 es_49 full_50 n_51 n_52 cs_54 s_56 n_57 n_58 n_59 n_60 (z5, z7))) (fun cs0_61 => K (.exit 2) ⟨mkS 47 [(1, I n_48), (4, .w (.one (.ptr 0 0 0))), (5, .w (.one (.ptr 1 0 0))), (10, .w (.one (.p (.sl 5 es_49 full_50)))), (11, I n_51), (12, I n_52)], [.pbox cs_54, .pbox cs0_61]⟩)) = execT f58_C (nthC (bodies (bodyOf Tryd.f58)) 1) (f58_p12_mk n_48 es_49 full_50 n_51 n_52 cs_54 s_56 n_57 n_58 n_59 n_60 (n_53, cs_55)) (loopK N (normK f58_C 12) fun e s => K e (normOut f58_C 12 e s)) := by kernel_rfl
noncomputable def f58_p6_mk (n4 : Int) (es5 : List (List PC)) (full6 : Bool) (n7 : Int) (cs9 : List PC) (x : Int × (List PC)) : St := ⟨mkS 47 [(1, I n4), (4, .w (.one (.ptr 0 0 0))), (5, .w (.one (.ptr 1 0 0))), (10, .w (.one (.p (.sl 5 es5 full6)))), (11, I n7), (12, I x.1)], [.pbox cs9, .pbox x.2]⟩
set_option maxRecDepth 100000 in
theorem f58_p6e0 (n_69 : Int) (es_70 : List (List PC)) (full_71 : Bool) (n_72 : Int) (n_73 : Int) (cs_74 : List PC) (cs_75 : List PC) (N : St → Prop) (K : TExit → St → Prop) : (f58_p6b0 n_69 es_70 full_71 n_72 n_73 cs_74 cs_75 (fun z4 z6 => N (f58_p6_mk n_69 es_70 full_71 n_72 cs_74 (z4, z6))) (fun cs0_76 => K (.exit 0) ⟨mkS 47 [(4, .w (.one (.ptr 0 0 0))), (5, .w (.one (.ptr 1 0 0)))], [.pbox cs_74, .pbox cs0_76]⟩)) = execT f58_C (nthC (bodies (bodyOf Tryd.f58)) 0) (f58_p6_mk n_69 es_70 full_71 n_72 cs_74 (n_73, cs_75)) (loopK N (normK f58_C 6) fun e s => K e (normOut f58_C 6 e s)) := by kernel_rfl
set_option maxHeartbeats 4000000 in
theorem f58_p18_ok : LoopOk f58_C (nthC (bodies (bodyOf Tryd.f58)) 2) := by
  refine LoopOk.of f58_p18L (by kernel_rfl) fun σ K h => ?_
  have hk : loopKey (nthC (bodies (bodyOf Tryd.f58)) 2) = 18 := by kernel_rfl
  rw [hk] at h ⊢
  generalize hs : normK f58_C 18 σ = s at h
  obtain ⟨tm, hp⟩ := s
  unfold f58_p18L at h
  dsimp only at h
  obtain ⟨xx, yy, rfl, rfl, h⟩ := getS_elim h
  refine iter_of (f58_p18_mk xx.2.1 xx.2.2.2.2.2.2.2.1 xx.2.2.2.2.2.2.2.2.2.1.1 xx.2.2.2.2.2.2.2.2.2.1.2 xx.2.2.2.2.2.2.2.2.2.2.1 xx.2.2.2.2.2.2.2.2.2.2.2.1 xx.2.2.2.2.2.2.2.2.2.2.2.2.2.1 yy.1 yy.2.2.1.1 yy.2.2.1.2.1 yy.2.2.1.2.2.1 yy.2.2.1.2.2.2.1 yy.2.2.1.2.2.2.2.1) (fun x N h => ?_) rounds _ σ (hs.trans (by kernel_rfl)) (LoopP.run h)
  obtain ⟨y0, y1⟩ := x
  rw [← f58_p18e0 xx.2.1 xx.2.2.2.2.2.2.2.1 y0 xx.2.2.2.2.2.2.2.2.2.1.1 xx.2.2.2.2.2.2.2.2.2.1.2 xx.2.2.2.2.2.2.2.2.2.2.1 xx.2.2.2.2.2.2.2.2.2.2.2.1 xx.2.2.2.2.2.2.2.2.2.2.2.2.2.1 yy.1 y1 yy.2.2.1.1 yy.2.2.1.2.1 yy.2.2.1.2.2.1 yy.2.2.1.2.2.2.1 yy.2.2.1.2.2.2.2.1 N K]
  exact h
set_option maxHeartbeats 4000000 in
theorem f58_p12_ok : LoopOk f58_C (nthC (bodies (bodyOf Tryd.f58)) 1) := by
  refine LoopOk.of f58_p12L (by kernel_rfl) fun σ K h => ?_
  have hk : loopKey (nthC (bodies (bodyOf Tryd.f58)) 1) = 12 := by kernel_rfl
  rw [hk] at h ⊢
  generalize hs : normK f58_C 12 σ = s at h
  obtain ⟨tm, hp⟩ := s
  unfold f58_p12L at h
  dsimp only at h
  obtain ⟨xx, yy, rfl, rfl, h⟩ := getS_elim h
  refine iter_of (f58_p12_mk xx.2.1 xx.2.2.2.2.2.2.2.2.1.1 xx.2.2.2.2.2.2.2.2.1.2 xx.2.2.2.2.2.2.2.2.2.1 xx.2.2.2.2.2.2.2.2.2.2.1 yy.1 yy.2.2.1.1 yy.2.2.1.2.1 yy.2.2.1.2.2.1 yy.2.2.1.2.2.2.1 yy.2.2.1.2.2.2.2.1) (fun x N h => ?_) rounds _ σ (hs.trans (by kernel_rfl)) (LoopP.run h)
  obtain ⟨y0, y1⟩ := x
  rw [← f58_p12e0 xx.2.1 xx.2.2.2.2.2.2.2.2.1.1 xx.2.2.2.2.2.2.2.2.1.2 xx.2.2.2.2.2.2.2.2.2.1 xx.2.2.2.2.2.2.2.2.2.2.1 y0 yy.1 y1 yy.2.2.1.1 yy.2.2.1.2.1 yy.2.2.1.2.2.1 yy.2.2.1.2.2.2.1 yy.2.2.1.2.2.2.2.1 N K]
  exact h
set_option maxHeartbeats 4000000 in
theorem f58_p6_ok : LoopOk f58_C (nthC (bodies (bodyOf Tryd.f58)) 0) := by
  refine LoopOk.of f58_p6L (by kernel_rfl) fun σ K h => ?_
  have hk : loopKey (nthC (bodies (bodyOf Tryd.f58)) 0) = 6 := by kernel_rfl
  rw [hk] at h ⊢
  generalize hs : normK f58_C 6 σ = s at h
  obtain ⟨tm, hp⟩ := s
  unfold f58_p6L at h
  dsimp only at h
  obtain ⟨xx, yy, rfl, rfl, h⟩ := getS_elim h
  refine iter_of (f58_p6_mk xx.2.1 xx.2.2.2.2.2.2.1.1 xx.2.2.2.2.2.2.1.2 xx.2.2.2.2.2.2.2.1 yy.1) (fun x N h => ?_) rounds _ σ (hs.trans (by kernel_rfl)) (LoopP.run h)
  obtain ⟨y0, y1⟩ := x
  rw [← f58_p6e0 xx.2.1 xx.2.2.2.2.2.2.1.1 xx.2.2.2.2.2.2.1.2 xx.2.2.2.2.2.2.2.1 y0 yy.1 y1 N K]
  exact h
noncomputable def f58_G0 : List TV → List Entry → (TV → List Entry → Prop) → Prop := fun tm hp K => getS [.v (.one (.sl 5)), .v (.one (.int .i64))] [] tm hp fun (xx : ((List (List PC) × Bool) × (Int × Unit))) (yy : Unit) => f58 xx.1.1 xx.1.2 xx.2.1 (fun cs0_3 => K (.w (.pagg cs0_3)) [])
set_option maxRecDepth 100000 in
theorem f58_eq (es_77 : List (List PC)) (full_78 : Bool) (n_79 : Int) (K : TV → List Entry → Prop) : (f58_d es_77 full_78 n_79 (fun cs0_3 => K (.w (.pagg cs0_3)) [])) = funcT f58_C Tryd.f58 [.w (.one (.p (.sl 5 es_77 full_78))), I n_79] [] K := by kernel_rfl
set_option maxHeartbeats 4000000 in
theorem f58_ok0 : FnOk Tryd.prog glob 58 f58_G0 := by
  refine FnOk.of_text (C := f58_C) tab_ok.ok (Known.add f91_G_ok (Known.none)) follows_ok (fn := Tryd.f58) (by kernel_rfl) (by kernel_rfl) (by kernel_rfl) (fun c hc => ?_) fun tm hp K h => ?_
  · have e : c = bodyOf Tryd.f58 := Option.some.inj (hc.symm.trans (by kernel_rfl))
    subst e
    exact ⟨LoopsOk.of [nthC (bodies (bodyOf Tryd.f58)) 0, nthC (bodies (bodyOf Tryd.f58)) 1, nthC (bodies (bodyOf Tryd.f58)) 2] (by kernel_rfl) ⟨f58_p6_ok, f58_p12_ok, f58_p18_ok, trivial⟩, TailsOk.of (tab := f58_tab) rfl [] (by kernel_rfl) trivial⟩
  · unfold f58_G0 at h
    obtain ⟨xx, yy, rfl, rfl, h⟩ := getS_elim h
    have e := (f58_eq xx.1.1 xx.1.2 xx.2.1 K).trans (show _ = funcT f58_C Tryd.f58 (mkR _ xx) (mkE _ yy) K by kernel_rfl)
    rw [← e]
    exact h.run
noncomputable abbrev f58_G := f58_G0
theorem f58_G_ok : FnOk Tryd.prog glob 58 f58_G := f58_ok0
end Go.Eng.N
