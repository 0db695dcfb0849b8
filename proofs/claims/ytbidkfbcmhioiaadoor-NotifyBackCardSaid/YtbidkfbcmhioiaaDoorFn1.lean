/- What the functions that the law reaches compute, by the engine; written by program. -/
import Derived.Test.YtbidkfbcmhioiaaDoorEng2
import Derived.Test.YtbidkfbcmhioiaaDoorProg
import Derived.KernelRfl
set_option linter.unusedVariables false
open Go Go.Eng Go.Proofs
namespace Go.Eng.N
noncomputable def tab : List (TypeId × TI) := [(2, ⟨.int .i64, 1, 8, [pI 0], [.int .i64]⟩),
  (3, ⟨.int .i64, 1, 8, [pI 0], [.int .i64]⟩),
  (4, ⟨.bool, 1, 1, [pB false], [.bool]⟩),
  (5, ⟨.int .u8, 1, 1, [.c (.int .u8 0)], [.int .u8]⟩),
  (9, ⟨.str, 1, 16, [pS (⟨#[]⟩ : ByteArray)], [.str]⟩),
  (22, ⟨.slice 68, 1, 24, [.sl 5 [] true], [.slice 5]⟩),
  (24, ⟨.struct [(0, 9), (1, 3), (2, 3), (3, 22)], 4, 56, [pS (⟨#[]⟩ : ByteArray), pI 0, pI 0, .sl 5 [] true], [.str, .int .i64, .int .i64, .slice 5]⟩),
  (27, ⟨.slice 86, 1, 24, [.sl 4 [] true], [.slice 4]⟩),
  (28, ⟨.slice 30, 1, 24, [.sl 4 [] true], [.slice 4]⟩),
  (30, ⟨.struct [(0, 27), (1, 4), (2, 28), (3, 3)], 4, 64, [.sl 4 [] true, pB false, .sl 4 [] true, pI 0], [.slice 4, .bool, .slice 4, .int .i64]⟩),
  (31, ⟨.int .i64, 1, 8, [pI 0], [.int .i64]⟩),
  (37, ⟨.struct [(0, 3), (1, 2)], 2, 16, [pI 0, pI 0], [.int .i64, .int .i64]⟩),
  (39, ⟨.struct [(0, 3), (1, 9), (2, 3), (3, 3), (4, 3), (5, 37)], 7, 64, [pI 0, pS (⟨#[]⟩ : ByteArray), pI 0, pI 0, pI 0, pI 0, pI 0], [.int .i64, .str, .int .i64, .int .i64, .int .i64, .int .i64, .int .i64]⟩),
  (40, ⟨.slice 9, 1, 24, [.sl 1 [] true], [.slice 1]⟩),
  (43, ⟨.slice 70, 1, 24, [.sl 10 [] true], [.slice 10]⟩),
  (46, ⟨.slice 102, 1, 24, [.sl 10 [] true], [.slice 10]⟩),
  (52, ⟨.slice 59, 1, 24, [.sl 3 [] true], [.slice 3]⟩),
  (55, ⟨.slice 60, 1, 24, [.sl 3 [] true], [.slice 3]⟩),
  (59, ⟨.struct [(0, 3), (1, 3), (2, 3)], 3, 24, [pI 0, pI 0, pI 0], [.int .i64, .int .i64, .int .i64]⟩),
  (60, ⟨.struct [(0, 3), (1, 3), (2, 3)], 3, 24, [pI 0, pI 0, pI 0], [.int .i64, .int .i64, .int .i64]⟩),
  (68, ⟨.struct [(0, 9), (1, 3), (2, 3), (3, 3), (4, 3)], 5, 48, [pS (⟨#[]⟩ : ByteArray), pI 0, pI 0, pI 0, pI 0], [.str, .int .i64, .int .i64, .int .i64, .int .i64]⟩),
  (70, ⟨.struct [(0, 9), (1, 39), (8, 3), (9, 4)], 10, 96, [pS (⟨#[]⟩ : ByteArray), pI 0, pS (⟨#[]⟩ : ByteArray), pI 0, pI 0, pI 0, pI 0, pI 0, pI 0, pB false], [.str, .int .i64, .str, .int .i64, .int .i64, .int .i64, .int .i64, .int .i64, .int .i64, .bool]⟩),
  (74, ⟨.struct [(0, 31), (1, 3), (2, 3)], 3, 24, [pI 0, pI 0, pI 0], [.int .i64, .int .i64, .int .i64]⟩),
  (78, ⟨.slice 24, 1, 24, [.sl 4 [] true], [.slice 4]⟩),
  (79, ⟨.slice 127, 1, 24, [.sl 9 [] true], [.slice 9]⟩),
  (80, ⟨.slice 39, 1, 24, [.sl 7 [] true], [.slice 7]⟩),
  (86, ⟨.struct [(0, 3), (1, 9), (2, 2), (3, 3)], 4, 40, [pI 0, pS (⟨#[]⟩ : ByteArray), pI 0, pI 0], [.int .i64, .str, .int .i64, .int .i64]⟩),
  (102, ⟨.struct [(0, 9), (1, 39), (8, 3), (9, 4)], 10, 96, [pS (⟨#[]⟩ : ByteArray), pI 0, pS (⟨#[]⟩ : ByteArray), pI 0, pI 0, pI 0, pI 0, pI 0, pI 0, pB false], [.str, .int .i64, .str, .int .i64, .int .i64, .int .i64, .int .i64, .int .i64, .int .i64, .bool]⟩),
  (104, ⟨.array 1440 4, 1440, 1440, (List.replicate 1440 (pB false)), [.bool]⟩),
  (106, ⟨.array 7 104, 10080, 10080, (List.replicate 10080 (pB false)), [.bool]⟩),
  (114, ⟨.struct [(0, 30), (4, 3), (5, 74)], 8, 96, [.sl 4 [] true, pB false, .sl 4 [] true, pI 0, pI 0, pI 0, pI 0, pI 0], [.slice 4, .bool, .slice 4, .int .i64, .int .i64, .int .i64, .int .i64, .int .i64]⟩),
  (127, ⟨.struct [(0, 9), (1, 9), (2, 2), (3, 2), (4, 2), (5, 125), (6, 3), (7, 3), (8, 9)], 9, 112, [pS (⟨#[]⟩ : ByteArray), pS (⟨#[]⟩ : ByteArray), pI 0, pI 0, pI 0, .sl 1 [] true, pI 0, pI 0, pS (⟨#[]⟩ : ByteArray)], [.str, .str, .int .i64, .int .i64, .int .i64, .slice 1, .int .i64, .int .i64, .str]⟩),
  (146, ⟨.int .u64, 1, 8, [.c (.int .u64 0)], [.int .u64]⟩)]
set_option maxRecDepth 100000 in
theorem tab_ok : TabOk Tryd.prog tab := ⟨mkTI_ok (by kernel_rfl), mkTI_ok (by kernel_rfl), mkTI_ok (by kernel_rfl), mkTI_ok (by kernel_rfl), mkTI_ok (by kernel_rfl), mkTI_ok (by kernel_rfl), mkTI_ok (by kernel_rfl), mkTI_ok (by kernel_rfl), mkTI_ok (by kernel_rfl), mkTI_ok (by kernel_rfl), mkTI_ok (by kernel_rfl), mkTI_ok (by kernel_rfl), mkTI_ok (by kernel_rfl), mkTI_ok (by kernel_rfl), mkTI_ok (by kernel_rfl), mkTI_ok (by kernel_rfl), mkTI_ok (by kernel_rfl), mkTI_ok (by kernel_rfl), mkTI_ok (by kernel_rfl), mkTI_ok (by kernel_rfl), mkTI_ok (by kernel_rfl), mkTI_ok (by kernel_rfl), mkTI_ok (by kernel_rfl), mkTI_ok (by kernel_rfl), mkTI_ok (by kernel_rfl), mkTI_ok (by kernel_rfl), mkTI_ok (by kernel_rfl), mkTI_ok (by kernel_rfl), TIOk.big (f := Tryd.t104) (a := aggOf Tryd.t104) (v := .bool false) (m := 1440) (e := 4) (by kernel_rfl) (by kernel_rfl) (by kernel_rfl) (by kernel_rfl) rfl rfl (by kernel_rfl) (by kernel_rfl) rfl (by kernel_rfl) (by kernel_rfl), TIOk.big (f := Tryd.t106) (a := aggOf Tryd.t106) (v := .bool false) (m := 7) (e := 104) (by kernel_rfl) (by kernel_rfl) (by kernel_rfl) (by kernel_rfl) rfl rfl (by kernel_rfl) (by kernel_rfl) rfl (by kernel_rfl) (by kernel_rfl), mkTI_ok (by kernel_rfl), mkTI_ok (by kernel_rfl), mkTI_ok (by kernel_rfl), trivial⟩
noncomputable def glob : Nat → Option (List PC) := fun g => lookN none [(0, some [.sl 1 [[pS (⟨#[97, 108, 97, 114, 109]⟩ : ByteArray)], [pS (⟨#[102, 97, 117, 108, 116]⟩ : ByteArray)], [pS (⟨#[110, 111, 114, 109, 97, 108]⟩ : ByteArray)]] false]), (1, some [.sl 1 [[pS (⟨#[109, 111, 110]⟩ : ByteArray)], [pS (⟨#[116, 117, 101]⟩ : ByteArray)], [pS (⟨#[119, 101, 100]⟩ : ByteArray)], [pS (⟨#[116, 104, 117]⟩ : ByteArray)], [pS (⟨#[102, 114, 105]⟩ : ByteArray)], [pS (⟨#[115, 97, 116]⟩ : ByteArray)], [pS (⟨#[115, 117, 110]⟩ : ByteArray)]] false])] g
noncomputable def byRef : FuncId → Bool := fun g => List.elem g [39, 42, 58, 61, 62, 88]
theorem follows_ok : Tryd.prog.follows .mixedOrders = true := by kernel_rfl
end Go.Eng.N
set_option linter.unusedVariables false
set_option maxRecDepth 100000
open Go Go.Eng Go.Proofs
namespace Go.Eng.N
/-! ### f87: plenum/lexer.digit -/
noncomputable def f87_d (n1 : Int) (k0 : Bool → Prop) : Prop := bB (decide (n1 ≥ 48)) (k0 (decide (n1 ≤ 57))) (k0 false)
structure f87 (n1 : Int) (k0 : Bool → Prop) : Prop where
  run : f87_d n1 k0
noncomputable def f87_tab : List (Nat × Told) := []
noncomputable def f87_call : FuncId → List TV → List Entry → (TV → List Entry → Prop) → Prop := noCalls
noncomputable def f87_C : Ctx := { ty := tyOf tab, glob := glob, byRef := byRef, keep := fun k i => lookN [] (lookN [] ([] : List (Nat × List (Nat × List Nat))) k) i, late := lookN [] ([] : List (Nat × List Nat)), nref := lookN [] ([] : List (Nat × List Nat)), nbox := lookN [] ([] : List (Nat × List (Nat × Nat))), take := [], rnil := false, m := 0, fz := true, loops := lookL f87_tab, call := f87_call }
noncomputable def f87_G0 : List TV → List Entry → (TV → List Entry → Prop) → Prop := fun tm hp K => getS [.v (.one (.int .u8))] [] tm hp fun (xx : (Int × Unit)) (yy : Unit) => f87 xx.1 (fun b0_0 => K (B b0_0) [])
set_option maxRecDepth 100000 in
theorem f87_eq (n_1 : Int) (K : TV → List Entry → Prop) : (f87_d n_1 (fun b0_0 => K (B b0_0) [])) = funcT f87_C Tryd.f87 [.w (.one (.p (.c (.int .u8 n_1))))] [] K := by kernel_rfl
set_option maxHeartbeats 4000000 in
theorem f87_ok0 : FnOk Tryd.prog glob 87 f87_G0 := by
  refine FnOk.of_text (C := f87_C) tab_ok.ok (Known.none) follows_ok (fn := Tryd.f87) (by kernel_rfl) (by kernel_rfl) (by kernel_rfl) (fun c hc => ?_) fun tm hp K h => ?_
  · have e : c = bodyOf Tryd.f87 := Option.some.inj (hc.symm.trans (by kernel_rfl))
    subst e
    exact ⟨LoopsOk.of [] (by kernel_rfl) trivial, TailsOk.of (tab := f87_tab) rfl [] (by kernel_rfl) trivial⟩
  · unfold f87_G0 at h
    obtain ⟨xx, yy, rfl, rfl, h⟩ := getS_elim h
    have e := (f87_eq xx.1 K).trans (show _ = funcT f87_C Tryd.f87 (mkR _ xx) (mkE _ yy) K by kernel_rfl)
    rw [← e]
    exact h.run
noncomputable abbrev f87_G := f87_G0
theorem f87_G_ok : FnOk Tryd.prog glob 87 f87_G := f87_ok0
end Go.Eng.N
set_option linter.unusedVariables false
set_option maxRecDepth 100000
open Go Go.Eng Go.Proofs
namespace Go.Eng.N
/-! ### f86: plenum/lexer.Name$1 -/
noncomputable def f86_d (n1 : Int) (s2 : ByteArray) (k0 : Bool → ByteArray → Prop) : Prop := (0 ≤ n1 ∧ n1 < ((s2.size : Nat) : Int)) ∧ bB (decide ((byteAt s2 n1) ≥ 97)) ((0 ≤ n1 ∧ n1 < ((s2.size : Nat) : Int)) ∧ bB (decide ((byteAt s2 n1) ≤ 122)) (k0 true s2) ((0 ≤ n1 ∧ n1 < ((s2.size : Nat) : Int)) ∧ f87 (byteAt s2 n1) (fun b3 => bB b3 (k0 true s2) ((0 ≤ n1 ∧ n1 < ((s2.size : Nat) : Int)) ∧ k0 ((byteAt s2 n1) == 95) s2)))) ((0 ≤ n1 ∧ n1 < ((s2.size : Nat) : Int)) ∧ f87 (byteAt s2 n1) (fun b4 => bB b4 (k0 true s2) ((0 ≤ n1 ∧ n1 < ((s2.size : Nat) : Int)) ∧ k0 ((byteAt s2 n1) == 95) s2)))
structure f86 (n1 : Int) (s2 : ByteArray) (k0 : Bool → ByteArray → Prop) : Prop where
  run : f86_d n1 s2 k0
noncomputable def f86_tab : List (Nat × Told) := []
noncomputable def f86_call : FuncId → List TV → List Entry → (TV → List Entry → Prop) → Prop := addCall 87 f87_G (noCalls)
noncomputable def f86_C : Ctx := { ty := tyOf tab, glob := glob, byRef := byRef, keep := fun k i => lookN [] (lookN [] ([] : List (Nat × List (Nat × List Nat))) k) i, late := lookN [] ([] : List (Nat × List Nat)), nref := lookN [] ([] : List (Nat × List Nat)), nbox := lookN [] ([] : List (Nat × List (Nat × Nat))), take := [], rnil := false, m := 1, fz := true, loops := lookL f86_tab, call := f86_call }
noncomputable def f86_G0 : List TV → List Entry → (TV → List Entry → Prop) → Prop := fun tm hp K => getS [.v (.one (.int .i64)), .v (.one (.ptr 0 0 0))] [.box [.str]] tm hp fun (xx : (Int × (Unit × Unit))) (yy : ((ByteArray × Unit) × Unit)) => f86 xx.1 yy.1.1 (fun b0_0 s0_1 => K (B b0_0) [.box [.p (pS s0_1)]])
set_option maxRecDepth 100000 in
theorem f86_eq (n_2 : Int) (s_3 : ByteArray) (K : TV → List Entry → Prop) : (f86_d n_2 s_3 (fun b0_0 s0_1 => K (B b0_0) [.box [.p (pS s0_1)]])) = funcT f86_C Tryd.f86 [I n_2, .w (.one (.ptr 0 0 0))] [.box [.p (pS s_3)]] K := by kernel_rfl
set_option maxHeartbeats 4000000 in
theorem f86_ok0 : FnOk Tryd.prog glob 86 f86_G0 := by
  refine FnOk.of_text (C := f86_C) tab_ok.ok (Known.add f87_G_ok (Known.none)) follows_ok (fn := Tryd.f86) (by kernel_rfl) (by kernel_rfl) (by kernel_rfl) (fun c hc => ?_) fun tm hp K h => ?_
  · have e : c = bodyOf Tryd.f86 := Option.some.inj (hc.symm.trans (by kernel_rfl))
    subst e
    exact ⟨LoopsOk.of [] (by kernel_rfl) trivial, TailsOk.of (tab := f86_tab) rfl [] (by kernel_rfl) trivial⟩
  · unfold f86_G0 at h
    obtain ⟨xx, yy, rfl, rfl, h⟩ := getS_elim h
    have e := (f86_eq xx.1 yy.1.1 K).trans (show _ = funcT f86_C Tryd.f86 (mkR _ xx) (mkE _ yy) K by kernel_rfl)
    rw [← e]
    exact h.run
noncomputable abbrev f86_G := f86_G0
theorem f86_G_ok : FnOk Tryd.prog glob 86 f86_G := f86_ok0
end Go.Eng.N
set_option linter.unusedVariables false
set_option maxRecDepth 100000
open Go Go.Eng Go.Proofs
namespace Go.Eng.N
/-! ### f85: plenum/lexer.run -/
noncomputable def f85_p2b0 (s4 : ByteArray) (n5 : Int) (s6 : ByteArray) (N0 : Int → ByteArray → Prop) (k0 : Int → ByteArray → Prop) : Prop := bB (decide (n5 < ((s4.size : Nat) : Int))) (f86 n5 s6 (fun b7 s8 => bB b7 (N0 (w64 (n5 + 1)) s8) (k0 n5 s8))) (k0 n5 s6)
noncomputable def f85_p2 (s4 : ByteArray) (k0 : Int → ByteArray → Prop) : Int × ByteArray → Prop := LoopP fun x N => f85_p2b0 s4 x.1 x.2 (fun n5 s6 => N (n5, s6)) k0
noncomputable def f85_d (s1 : ByteArray) (n2 : Int) (s3 : ByteArray) (k0 : Int → ByteArray → Prop) : Prop := f85_p2 s1 (fun n9 s10 => k0 n9 s10) (n2, s3)
structure f85 (s1 : ByteArray) (n2 : Int) (s3 : ByteArray) (k0 : Int → ByteArray → Prop) : Prop where
  run : f85_d s1 n2 s3 k0
noncomputable def f85_p2L : Told := fun s K => match s with
  | ⟨tm, hp⟩ => getS [.v (.one (.str)), .v (.one (.int .i64)), .v (.clo 86 [] [.ptr 0 0 0]), .skip 16] [.box [.str]] tm hp fun (xx : (ByteArray × (Int × ((Unit × (Unit × Unit)) × (Unit × Unit))))) (yy : ((ByteArray × Unit) × Unit)) => f85_p2 xx.1 (fun n0_0 s0_1 => K (.exit 0) ⟨mkS 19 [(1, I n0_0)], [.box [.p (pS s0_1)]]⟩) (xx.2.1, yy.1.1)
noncomputable def f85_tab : List (Nat × Told) := [(2, f85_p2L)]
noncomputable def f85_call : FuncId → List TV → List Entry → (TV → List Entry → Prop) → Prop := addCall 86 f86_G (noCalls)
noncomputable def f85_C : Ctx := { ty := tyOf tab, glob := glob, byRef := byRef, keep := fun k i => lookN [] (lookN [] ([(2, [(0, [0, 1, 2]), (2, [6]), (3, [1])])] : List (Nat × List (Nat × List Nat))) k) i, late := lookN [] ([] : List (Nat × List Nat)), nref := lookN [] ([] : List (Nat × List Nat)), nbox := lookN [] ([] : List (Nat × List (Nat × Nat))), take := [], rnil := false, m := 1, fz := true, loops := lookL f85_tab, call := f85_call }
noncomputable def f85_p2_mk (s4 : ByteArray) (x : Int × ByteArray) : St := ⟨mkS 19 [(0, S s4), (1, I x.1), (2, .w (.one (.clo 86 [] [.ptr 0 0 0])))], [.box [.p (pS x.2)]]⟩
set_option maxRecDepth 100000 in
theorem f85_p2e0 (s_7 : ByteArray) (n_8 : Int) (s_9 : ByteArray) (N : St → Prop) (K : TExit → St → Prop) : (f85_p2b0 s_7 n_8 s_9 (fun z1 z2 => N (f85_p2_mk s_7 (z1, z2))) (fun n0_10 s0_11 => K (.exit 0) ⟨mkS 19 [(1, I n0_10)], [.box [.p (pS s0_11)]]⟩)) = execT f85_C (nthC (bodies (bodyOf Tryd.f85)) 0) (f85_p2_mk s_7 (n_8, s_9)) (loopK N (normK f85_C 2) fun e s => K e (normOut f85_C 2 e s)) := by kernel_rfl
set_option maxHeartbeats 4000000 in
theorem f85_p2_ok : LoopOk f85_C (nthC (bodies (bodyOf Tryd.f85)) 0) := by
  refine LoopOk.of f85_p2L (by kernel_rfl) fun σ K h => ?_
  have hk : loopKey (nthC (bodies (bodyOf Tryd.f85)) 0) = 2 := by kernel_rfl
  rw [hk] at h ⊢
  generalize hs : normK f85_C 2 σ = s at h
  obtain ⟨tm, hp⟩ := s
  unfold f85_p2L at h
  dsimp only at h
  obtain ⟨xx, yy, rfl, rfl, h⟩ := getS_elim h
  refine iter_of (f85_p2_mk xx.1) (fun x N h => ?_) rounds _ σ (hs.trans (by kernel_rfl)) (LoopP.run h)
  obtain ⟨y0, y1⟩ := x
  rw [← f85_p2e0 xx.1 y0 y1 N K]
  exact h
noncomputable def f85_G0 : List TV → List Entry → (TV → List Entry → Prop) → Prop := fun tm hp K => getS [.v (.one (.str)), .v (.one (.int .i64)), .v (.clo 86 [] [.ptr 0 0 0])] [.box [.str]] tm hp fun (xx : (ByteArray × (Int × ((Unit × (Unit × Unit)) × Unit)))) (yy : ((ByteArray × Unit) × Unit)) => f85 xx.1 xx.2.1 yy.1.1 (fun n0_2 s0_3 => K (I n0_2) [.box [.p (pS s0_3)]])
set_option maxRecDepth 100000 in
theorem f85_eq (s_12 : ByteArray) (n_13 : Int) (s_14 : ByteArray) (K : TV → List Entry → Prop) : (f85_d s_12 n_13 s_14 (fun n0_2 s0_3 => K (I n0_2) [.box [.p (pS s0_3)]])) = funcT f85_C Tryd.f85 [S s_12, I n_13, .w (.one (.clo 86 [] [.ptr 0 0 0]))] [.box [.p (pS s_14)]] K := by kernel_rfl
set_option maxHeartbeats 4000000 in
theorem f85_ok0 : FnOk Tryd.prog glob 85 f85_G0 := by
  refine FnOk.of_text (C := f85_C) tab_ok.ok (Known.add f86_G_ok (Known.none)) follows_ok (fn := Tryd.f85) (by kernel_rfl) (by kernel_rfl) (by kernel_rfl) (fun c hc => ?_) fun tm hp K h => ?_
  · have e : c = bodyOf Tryd.f85 := Option.some.inj (hc.symm.trans (by kernel_rfl))
    subst e
    exact ⟨LoopsOk.of [nthC (bodies (bodyOf Tryd.f85)) 0] (by kernel_rfl) ⟨f85_p2_ok, trivial⟩, TailsOk.of (tab := f85_tab) rfl [] (by kernel_rfl) trivial⟩
  · unfold f85_G0 at h
    obtain ⟨xx, yy, rfl, rfl, h⟩ := getS_elim h
    have e := (f85_eq xx.1 xx.2.1 yy.1.1 K).trans (show _ = funcT f85_C Tryd.f85 (mkR _ xx) (mkE _ yy) K by kernel_rfl)
    rw [← e]
    exact h.run
noncomputable abbrev f85_G := f85_G0
theorem f85_G_ok : FnOk Tryd.prog glob 85 f85_G := f85_ok0
end Go.Eng.N
set_option linter.unusedVariables false
set_option maxRecDepth 100000
open Go Go.Eng Go.Proofs
namespace Go.Eng.N
/-! ### f45: plenum/lexer.Name -/
noncomputable def f45_d (s1 : ByteArray) (k0 : Bool → Prop) : Prop := bB (decide (((s1.size : Nat) : Int) < 1)) (k0 false) (bB (decide (((s1.size : Nat) : Int) > 24)) (k0 false) ((0 ≤ (0 : Int) ∧ (0 : Int) < ((s1.size : Nat) : Int)) ∧ bB (decide ((byteAt s1 0) < 97)) (k0 false) ((0 ≤ (0 : Int) ∧ (0 : Int) < ((s1.size : Nat) : Int)) ∧ bB (decide ((byteAt s1 0) > 122)) (k0 false) ((f85 s1 0 s1 (fun n2 s3 => k0 (n2 == ((s3.size : Nat) : Int)))) ∧ (f85 s1 0 s1 (fun n4 s5 => k0 (n4 == ((s1.size : Nat) : Int))))))))
structure f45 (s1 : ByteArray) (k0 : Bool → Prop) : Prop where
  run : f45_d s1 k0
noncomputable def f45_tab : List (Nat × Told) := []
noncomputable def f45_call : FuncId → List TV → List Entry → (TV → List Entry → Prop) → Prop := addCall 85 f85_G (noCalls)
noncomputable def f45_C : Ctx := { ty := tyOf tab, glob := glob, byRef := byRef, keep := fun k i => lookN [] (lookN [] ([] : List (Nat × List (Nat × List Nat))) k) i, late := lookN [] ([(3, [3])] : List (Nat × List Nat)), nref := lookN [] ([] : List (Nat × List Nat)), nbox := lookN [] ([] : List (Nat × List (Nat × Nat))), take := [], rnil := false, m := 0, fz := true, loops := lookL f45_tab, call := f45_call }
noncomputable def f45_G0 : List TV → List Entry → (TV → List Entry → Prop) → Prop := fun tm hp K => getS [.v (.one (.str))] [] tm hp fun (xx : (ByteArray × Unit)) (yy : Unit) => f45 xx.1 (fun b0_0 => K (B b0_0) [])
set_option maxRecDepth 100000 in
theorem f45_eq (s_1 : ByteArray) (K : TV → List Entry → Prop) : (f45_d s_1 (fun b0_0 => K (B b0_0) [])) = funcT f45_C Tryd.f45 [S s_1] [] K := by kernel_rfl
set_option maxHeartbeats 4000000 in
theorem f45_ok0 : FnOk Tryd.prog glob 45 f45_G0 := by
  refine FnOk.of_text (C := f45_C) tab_ok.ok (Known.add f85_G_ok (Known.none)) follows_ok (fn := Tryd.f45) (by kernel_rfl) (by kernel_rfl) (by kernel_rfl) (fun c hc => ?_) fun tm hp K h => ?_
  · have e : c = bodyOf Tryd.f45 := Option.some.inj (hc.symm.trans (by kernel_rfl))
    subst e
    exact ⟨LoopsOk.of [] (by kernel_rfl) trivial, TailsOk.of (tab := f45_tab) rfl [] (by kernel_rfl) trivial⟩
  · unfold f45_G0 at h
    obtain ⟨xx, yy, rfl, rfl, h⟩ := getS_elim h
    have e := (f45_eq xx.1 K).trans (show _ = funcT f45_C Tryd.f45 (mkR _ xx) (mkE _ yy) K by kernel_rfl)
    rw [← e]
    exact h.run
noncomputable abbrev f45_G := f45_G0
theorem f45_G_ok : FnOk Tryd.prog glob 45 f45_G := f45_ok0
end Go.Eng.N
set_option linter.unusedVariables false
set_option maxRecDepth 100000
open Go Go.Eng Go.Proofs
namespace Go.Eng.N
/-! ### f47: plenum/notify.Check$1 -/
noncomputable def f47_d (s1 : ByteArray) (n2 : Int) (n3 : Int) (n4 : Int) (n5 : Int) (k0 : Bool → Prop) : Prop := f45 s1 (fun b6 => k0 (!b6))
structure f47 (s1 : ByteArray) (n2 : Int) (n3 : Int) (n4 : Int) (n5 : Int) (k0 : Bool → Prop) : Prop where
  run : f47_d s1 n2 n3 n4 n5 k0
noncomputable def f47_tab : List (Nat × Told) := []
noncomputable def f47_call : FuncId → List TV → List Entry → (TV → List Entry → Prop) → Prop := addCall 45 f45_G (noCalls)
noncomputable def f47_C : Ctx := { ty := tyOf tab, glob := glob, byRef := byRef, keep := fun k i => lookN [] (lookN [] ([] : List (Nat × List (Nat × List Nat))) k) i, late := lookN [] ([] : List (Nat × List Nat)), nref := lookN [] ([] : List (Nat × List Nat)), nbox := lookN [] ([] : List (Nat × List (Nat × Nat))), take := [], rnil := false, m := 0, fz := true, loops := lookL f47_tab, call := f47_call }
noncomputable def f47_G0 : List TV → List Entry → (TV → List Entry → Prop) → Prop := fun tm hp K => getS [.v (.pagg [.str, .int .i64, .int .i64, .int .i64, .int .i64])] [] tm hp fun (xx : ((ByteArray × (Int × (Int × (Int × (Int × Unit))))) × Unit)) (yy : Unit) => f47 xx.1.1 xx.1.2.1 xx.1.2.2.1 xx.1.2.2.2.1 xx.1.2.2.2.2.1 (fun b0_0 => K (B b0_0) [])
set_option maxRecDepth 100000 in
theorem f47_eq (s_1 : ByteArray) (n_2 : Int) (n_3 : Int) (n_4 : Int) (n_5 : Int) (K : TV → List Entry → Prop) : (f47_d s_1 n_2 n_3 n_4 n_5 (fun b0_0 => K (B b0_0) [])) = funcT f47_C Tryd.f47 [.w (.pagg [pS s_1, pI n_2, pI n_3, pI n_4, pI n_5])] [] K := by kernel_rfl
set_option maxHeartbeats 4000000 in
theorem f47_ok0 : FnOk Tryd.prog glob 47 f47_G0 := by
  refine FnOk.of_text (C := f47_C) tab_ok.ok (Known.add f45_G_ok (Known.none)) follows_ok (fn := Tryd.f47) (by kernel_rfl) (by kernel_rfl) (by kernel_rfl) (fun c hc => ?_) fun tm hp K h => ?_
  · have e : c = bodyOf Tryd.f47 := Option.some.inj (hc.symm.trans (by kernel_rfl))
    subst e
    exact ⟨LoopsOk.of [] (by kernel_rfl) trivial, TailsOk.of (tab := f47_tab) rfl [] (by kernel_rfl) trivial⟩
  · unfold f47_G0 at h
    obtain ⟨xx, yy, rfl, rfl, h⟩ := getS_elim h
    have e := (f47_eq xx.1.1 xx.1.2.1 xx.1.2.2.1 xx.1.2.2.2.1 xx.1.2.2.2.2.1 K).trans (show _ = funcT f47_C Tryd.f47 (mkR _ xx) (mkE _ yy) K by kernel_rfl)
    rw [← e]
    exact h.run
noncomputable abbrev f47_G := f47_G0
theorem f47_G_ok : FnOk Tryd.prog glob 47 f47_G := f47_ok0
end Go.Eng.N
set_option linter.unusedVariables false
set_option maxRecDepth 100000
open Go Go.Eng Go.Proofs
namespace Go.Eng.N
/-! ### f88: slices.IndexFunc(()plenum/api.Recipient,plenum/api.Recipient) -/
noncomputable def f88_p4b0 (es3 : List (List PC)) (full4 : Bool) (n5 : Int) (n6 : Int) (N0 : Int → Prop) (k0 : Int → Prop) (k1 : Unit → Prop) : Prop := bB (decide (n6 < n5)) ((0 ≤ n6 ∧ n6 < ((es3.length : Nat) : Int)) ∧ cS (ext (List.getD es3 (Int.toNat n6) []) 0 5) fun s8 r7 => cI .i64 r7 fun n10 r9 => cI .i64 r9 fun n12 r11 => cI .i64 r11 fun n14 r13 => cI .i64 r13 fun n16 r15 => nilC r15 <| f47 s8 n10 n12 n14 n16 (fun b17 => bB b17 (k0 n6) (N0 (w64 (n6 + 1))))) (k1 ())
noncomputable def f88_p4 (es3 : List (List PC)) (full4 : Bool) (n5 : Int) (k0 : Int → Prop) (k1 : Unit → Prop) : Int → Prop := LoopP fun x N => f88_p4b0 es3 full4 n5 x (fun n6 => N n6) k0 k1
noncomputable def f88_d (es1 : List (List PC)) (full2 : Bool) (k0 : Int → Prop) : Prop := f88_p4 es1 full2 ((es1.length : Nat) : Int) (fun n18 => k0 n18) (fun (_ : Unit) => k0 (-1)) 0
structure f88 (es1 : List (List PC)) (full2 : Bool) (k0 : Int → Prop) : Prop where
  run : f88_d es1 full2 k0
noncomputable def f88_p4L : Told := fun s K => match s with
  | ⟨tm, hp⟩ => getS [.v (.one (.sl 5)), .v (.one (.fn 47)), .skip 5, .v (.one (.int .i64)), .v (.one (.int .i64)), .skip 10] [] tm hp fun (xx : ((List (List PC) × Bool) × (Unit × (Unit × (Int × (Int × (Unit × Unit))))))) (yy : Unit) => f88_p4 xx.1.1 xx.1.2 xx.2.2.2.1 (fun n0_0 => K .ret ⟨mkS 19 [(4, I n0_0)], []⟩) (fun (_ : Unit) => K (.exit 0) ⟨mkS 19 [], []⟩) xx.2.2.2.2.1
noncomputable def f88_tab : List (Nat × Told) := [(4, f88_p4L)]
noncomputable def f88_call : FuncId → List TV → List Entry → (TV → List Entry → Prop) → Prop := addCall 47 f47_G (noCalls)
noncomputable def f88_C : Ctx := { ty := tyOf tab, glob := glob, byRef := byRef, keep := fun k i => lookN [] (lookN [] ([(4, [(0, [0, 1, 7, 8]), (2, [4]), (3, [])])] : List (Nat × List (Nat × List Nat))) k) i, late := lookN [] ([] : List (Nat × List Nat)), nref := lookN [] ([] : List (Nat × List Nat)), nbox := lookN [] ([] : List (Nat × List (Nat × Nat))), take := [], rnil := true, m := 0, fz := false, loops := lookL f88_tab, call := f88_call }
noncomputable def f88_p4_mk (es3 : List (List PC)) (full4 : Bool) (n5 : Int) (x : Int) : St := ⟨mkS 19 [(0, .w (.one (.p (.sl 5 es3 full4)))), (1, .w (.one (.p (.c (.func (.func 47) #[] #[]))))), (7, I n5), (8, I x)], []⟩
set_option maxRecDepth 100000 in
theorem f88_p4e0 (es_6 : List (List PC)) (full_7 : Bool) (n_8 : Int) (n_9 : Int) (N : St → Prop) (K : TExit → St → Prop) : (f88_p4b0 es_6 full_7 n_8 n_9 (fun z3 => N (f88_p4_mk es_6 full_7 n_8 z3)) (fun n0_10 => K .ret ⟨mkS 19 [(4, I n0_10)], []⟩) (fun (_ : Unit) => K (.exit 0) ⟨mkS 19 [], []⟩)) = execT f88_C (nthC (bodies (bodyOf Tryd.f88)) 0) (f88_p4_mk es_6 full_7 n_8 n_9) (loopK N (normK f88_C 4) fun e s => K e (normOut f88_C 4 e s)) := by kernel_rfl
set_option maxHeartbeats 4000000 in
theorem f88_p4_ok : LoopOk f88_C (nthC (bodies (bodyOf Tryd.f88)) 0) := by
  refine LoopOk.of f88_p4L (by kernel_rfl) fun σ K h => ?_
  have hk : loopKey (nthC (bodies (bodyOf Tryd.f88)) 0) = 4 := by kernel_rfl
  rw [hk] at h ⊢
  generalize hs : normK f88_C 4 σ = s at h
  obtain ⟨tm, hp⟩ := s
  unfold f88_p4L at h
  dsimp only at h
  obtain ⟨xx, yy, rfl, rfl, h⟩ := getS_elim h
  refine iter_of (f88_p4_mk xx.1.1 xx.1.2 xx.2.2.2.1) (fun x N h => ?_) rounds _ σ (hs.trans (by kernel_rfl)) (LoopP.run h)
  rw [← f88_p4e0 xx.1.1 xx.1.2 xx.2.2.2.1 x N K]
  exact h
noncomputable def f88_G0 : List TV → List Entry → (TV → List Entry → Prop) → Prop := fun tm hp K => getS [.v (.one (.sl 5)), .v (.one (.fn 47))] [] tm hp fun (xx : ((List (List PC) × Bool) × (Unit × Unit))) (yy : Unit) => f88 xx.1.1 xx.1.2 (fun n0_1 => K (I n0_1) [])
set_option maxRecDepth 100000 in
theorem f88_eq (es_11 : List (List PC)) (full_12 : Bool) (K : TV → List Entry → Prop) : (f88_d es_11 full_12 (fun n0_1 => K (I n0_1) [])) = funcT f88_C Tryd.f88 [.w (.one (.p (.sl 5 es_11 full_12))), .w (.one (.p (.c (.func (.func 47) #[] #[]))))] [] K := by kernel_rfl
set_option maxHeartbeats 4000000 in
theorem f88_ok0 : FnOk Tryd.prog glob 88 f88_G0 := by
  refine FnOk.of_text (C := f88_C) tab_ok.ok (Known.add f47_G_ok (Known.none)) follows_ok (fn := Tryd.f88) (by kernel_rfl) (by kernel_rfl) (by kernel_rfl) (fun c hc => ?_) fun tm hp K h => ?_
  · have e : c = bodyOf Tryd.f88 := Option.some.inj (hc.symm.trans (by kernel_rfl))
    subst e
    exact ⟨LoopsOk.of [nthC (bodies (bodyOf Tryd.f88)) 0] (by kernel_rfl) ⟨f88_p4_ok, trivial⟩, TailsOk.of (tab := f88_tab) rfl [] (by kernel_rfl) trivial⟩
  · unfold f88_G0 at h
    obtain ⟨xx, yy, rfl, rfl, h⟩ := getS_elim h
    have e := (f88_eq xx.1.1 xx.1.2 K).trans (show _ = funcT f88_C Tryd.f88 (mkR _ xx) (mkE _ yy) K by kernel_rfl)
    rw [← e]
    exact h.run
noncomputable abbrev f88_G := f88_G0
theorem f88_G_ok : FnOk Tryd.prog glob 88 f88_G := f88_ok0
end Go.Eng.N
set_option linter.unusedVariables false
set_option maxRecDepth 100000
open Go Go.Eng Go.Proofs
namespace Go.Eng.N
/-! ### f46: slices.ContainsFunc(()plenum/api.Recipient,plenum/api.Recipient) -/
noncomputable def f46_d (es1 : List (List PC)) (full2 : Bool) (k0 : Bool → Prop) : Prop := f88 es1 full2 (fun n3 => k0 (decide (n3 ≥ 0)))
structure f46 (es1 : List (List PC)) (full2 : Bool) (k0 : Bool → Prop) : Prop where
  run : f46_d es1 full2 k0
noncomputable def f46_tab : List (Nat × Told) := []
noncomputable def f46_call : FuncId → List TV → List Entry → (TV → List Entry → Prop) → Prop := addCall 88 f88_G (noCalls)
noncomputable def f46_C : Ctx := { ty := tyOf tab, glob := glob, byRef := byRef, keep := fun k i => lookN [] (lookN [] ([] : List (Nat × List (Nat × List Nat))) k) i, late := lookN [] ([] : List (Nat × List Nat)), nref := lookN [] ([] : List (Nat × List Nat)), nbox := lookN [] ([] : List (Nat × List (Nat × Nat))), take := [], rnil := false, m := 0, fz := true, loops := lookL f46_tab, call := f46_call }
noncomputable def f46_G0 : List TV → List Entry → (TV → List Entry → Prop) → Prop := fun tm hp K => getS [.v (.one (.sl 5)), .v (.one (.fn 47))] [] tm hp fun (xx : ((List (List PC) × Bool) × (Unit × Unit))) (yy : Unit) => f46 xx.1.1 xx.1.2 (fun b0_0 => K (B b0_0) [])
set_option maxRecDepth 100000 in
theorem f46_eq (es_1 : List (List PC)) (full_2 : Bool) (K : TV → List Entry → Prop) : (f46_d es_1 full_2 (fun b0_0 => K (B b0_0) [])) = funcT f46_C Tryd.f46 [.w (.one (.p (.sl 5 es_1 full_2))), .w (.one (.p (.c (.func (.func 47) #[] #[]))))] [] K := by kernel_rfl
set_option maxHeartbeats 4000000 in
theorem f46_ok0 : FnOk Tryd.prog glob 46 f46_G0 := by
  refine FnOk.of_text (C := f46_C) tab_ok.ok (Known.add f88_G_ok (Known.none)) follows_ok (fn := Tryd.f46) (by kernel_rfl) (by kernel_rfl) (by kernel_rfl) (fun c hc => ?_) fun tm hp K h => ?_
  · have e : c = bodyOf Tryd.f46 := Option.some.inj (hc.symm.trans (by kernel_rfl))
    subst e
    exact ⟨LoopsOk.of [] (by kernel_rfl) trivial, TailsOk.of (tab := f46_tab) rfl [] (by kernel_rfl) trivial⟩
  · unfold f46_G0 at h
    obtain ⟨xx, yy, rfl, rfl, h⟩ := getS_elim h
    have e := (f46_eq xx.1.1 xx.1.2 K).trans (show _ = funcT f46_C Tryd.f46 (mkR _ xx) (mkE _ yy) K by kernel_rfl)
    rw [← e]
    exact h.run
noncomputable abbrev f46_G := f46_G0
theorem f46_G_ok : FnOk Tryd.prog glob 46 f46_G := f46_ok0
end Go.Eng.N
set_option linter.unusedVariables false
set_option maxRecDepth 100000
open Go Go.Eng Go.Proofs
namespace Go.Eng.N
/-! ### f48: plenum/notify.bad -/
noncomputable def f48_d (s1 : ByteArray) (n2 : Int) (n3 : Int) (n4 : Int) (n5 : Int) (k0 : Bool → Prop) : Prop := bB (decide (n2 < 1)) (k0 true) (bB (decide (n2 > 127)) (k0 true) (bB (decide (n5 < 1)) (k0 true) (bB (decide (n5 > 7)) (k0 true) (bB (decide (n3 < 0)) (k0 true) (bB (decide (n3 > n4)) (k0 true) (k0 (decide (n4 ≥ 1440))))))))
structure f48 (s1 : ByteArray) (n2 : Int) (n3 : Int) (n4 : Int) (n5 : Int) (k0 : Bool → Prop) : Prop where
  run : f48_d s1 n2 n3 n4 n5 k0
noncomputable def f48_tab : List (Nat × Told) := []
noncomputable def f48_call : FuncId → List TV → List Entry → (TV → List Entry → Prop) → Prop := noCalls
noncomputable def f48_C : Ctx := { ty := tyOf tab, glob := glob, byRef := byRef, keep := fun k i => lookN [] (lookN [] ([] : List (Nat × List (Nat × List Nat))) k) i, late := lookN [] ([] : List (Nat × List Nat)), nref := lookN [] ([] : List (Nat × List Nat)), nbox := lookN [] ([] : List (Nat × List (Nat × Nat))), take := [], rnil := false, m := 0, fz := true, loops := lookL f48_tab, call := f48_call }
noncomputable def f48_G0 : List TV → List Entry → (TV → List Entry → Prop) → Prop := fun tm hp K => getS [.v (.pagg [.str, .int .i64, .int .i64, .int .i64, .int .i64])] [] tm hp fun (xx : ((ByteArray × (Int × (Int × (Int × (Int × Unit))))) × Unit)) (yy : Unit) => f48 xx.1.1 xx.1.2.1 xx.1.2.2.1 xx.1.2.2.2.1 xx.1.2.2.2.2.1 (fun b0_0 => K (B b0_0) [])
set_option maxRecDepth 100000 in
theorem f48_eq (s_1 : ByteArray) (n_2 : Int) (n_3 : Int) (n_4 : Int) (n_5 : Int) (K : TV → List Entry → Prop) : (f48_d s_1 n_2 n_3 n_4 n_5 (fun b0_0 => K (B b0_0) [])) = funcT f48_C Tryd.f48 [.w (.pagg [pS s_1, pI n_2, pI n_3, pI n_4, pI n_5])] [] K := by kernel_rfl
set_option maxHeartbeats 4000000 in
theorem f48_ok0 : FnOk Tryd.prog glob 48 f48_G0 := by
  refine FnOk.of_text (C := f48_C) tab_ok.ok (Known.none) follows_ok (fn := Tryd.f48) (by kernel_rfl) (by kernel_rfl) (by kernel_rfl) (fun c hc => ?_) fun tm hp K h => ?_
  · have e : c = bodyOf Tryd.f48 := Option.some.inj (hc.symm.trans (by kernel_rfl))
    subst e
    exact ⟨LoopsOk.of [] (by kernel_rfl) trivial, TailsOk.of (tab := f48_tab) rfl [] (by kernel_rfl) trivial⟩
  · unfold f48_G0 at h
    obtain ⟨xx, yy, rfl, rfl, h⟩ := getS_elim h
    have e := (f48_eq xx.1.1 xx.1.2.1 xx.1.2.2.1 xx.1.2.2.2.1 xx.1.2.2.2.2.1 K).trans (show _ = funcT f48_C Tryd.f48 (mkR _ xx) (mkE _ yy) K by kernel_rfl)
    rw [← e]
    exact h.run
noncomputable abbrev f48_G := f48_G0
theorem f48_G_ok : FnOk Tryd.prog glob 48 f48_G := f48_ok0
end Go.Eng.N
set_option linter.unusedVariables false
set_option maxRecDepth 100000
open Go Go.Eng Go.Proofs
namespace Go.Eng.N
/-! ### f88_1: slices.IndexFunc(()plenum/api.Recipient,plenum/api.Recipient) -/
noncomputable def f88_1_p4b0 (es3 : List (List PC)) (full4 : Bool) (n5 : Int) (n6 : Int) (N0 : Int → Prop) (k0 : Int → Prop) (k1 : Unit → Prop) : Prop := bB (decide (n6 < n5)) ((0 ≤ n6 ∧ n6 < ((es3.length : Nat) : Int)) ∧ cS (ext (List.getD es3 (Int.toNat n6) []) 0 5) fun s8 r7 => cI .i64 r7 fun n10 r9 => cI .i64 r9 fun n12 r11 => cI .i64 r11 fun n14 r13 => cI .i64 r13 fun n16 r15 => nilC r15 <| f48 s8 n10 n12 n14 n16 (fun b17 => bB b17 (k0 n6) (N0 (w64 (n6 + 1))))) (k1 ())
noncomputable def f88_1_p4 (es3 : List (List PC)) (full4 : Bool) (n5 : Int) (k0 : Int → Prop) (k1 : Unit → Prop) : Int → Prop := LoopP fun x N => f88_1_p4b0 es3 full4 n5 x (fun n6 => N n6) k0 k1
noncomputable def f88_1_d (es1 : List (List PC)) (full2 : Bool) (k0 : Int → Prop) : Prop := f88_1_p4 es1 full2 ((es1.length : Nat) : Int) (fun n18 => k0 n18) (fun (_ : Unit) => k0 (-1)) 0
structure f88_1 (es1 : List (List PC)) (full2 : Bool) (k0 : Int → Prop) : Prop where
  run : f88_1_d es1 full2 k0
noncomputable def f88_1_p4L : Told := fun s K => match s with
  | ⟨tm, hp⟩ => getS [.v (.one (.sl 5)), .v (.one (.fn 48)), .skip 5, .v (.one (.int .i64)), .v (.one (.int .i64)), .skip 10] [] tm hp fun (xx : ((List (List PC) × Bool) × (Unit × (Unit × (Int × (Int × (Unit × Unit))))))) (yy : Unit) => f88_1_p4 xx.1.1 xx.1.2 xx.2.2.2.1 (fun n0_0 => K .ret ⟨mkS 19 [(4, I n0_0)], []⟩) (fun (_ : Unit) => K (.exit 0) ⟨mkS 19 [], []⟩) xx.2.2.2.2.1
noncomputable def f88_1_tab : List (Nat × Told) := [(4, f88_1_p4L)]
noncomputable def f88_1_call : FuncId → List TV → List Entry → (TV → List Entry → Prop) → Prop := addCall 48 f48_G (noCalls)
noncomputable def f88_1_C : Ctx := { ty := tyOf tab, glob := glob, byRef := byRef, keep := fun k i => lookN [] (lookN [] ([(4, [(0, [0, 1, 7, 8]), (2, [4]), (3, [])])] : List (Nat × List (Nat × List Nat))) k) i, late := lookN [] ([] : List (Nat × List Nat)), nref := lookN [] ([] : List (Nat × List Nat)), nbox := lookN [] ([] : List (Nat × List (Nat × Nat))), take := [], rnil := true, m := 0, fz := false, loops := lookL f88_1_tab, call := f88_1_call }
noncomputable def f88_1_p4_mk (es3 : List (List PC)) (full4 : Bool) (n5 : Int) (x : Int) : St := ⟨mkS 19 [(0, .w (.one (.p (.sl 5 es3 full4)))), (1, .w (.one (.p (.c (.func (.func 48) #[] #[]))))), (7, I n5), (8, I x)], []⟩
set_option maxRecDepth 100000 in
theorem f88_1_p4e0 (es_6 : List (List PC)) (full_7 : Bool) (n_8 : Int) (n_9 : Int) (N : St → Prop) (K : TExit → St → Prop) : (f88_1_p4b0 es_6 full_7 n_8 n_9 (fun z3 => N (f88_1_p4_mk es_6 full_7 n_8 z3)) (fun n0_10 => K .ret ⟨mkS 19 [(4, I n0_10)], []⟩) (fun (_ : Unit) => K (.exit 0) ⟨mkS 19 [], []⟩)) = execT f88_1_C (nthC (bodies (bodyOf Tryd.f88)) 0) (f88_1_p4_mk es_6 full_7 n_8 n_9) (loopK N (normK f88_1_C 4) fun e s => K e (normOut f88_1_C 4 e s)) := by kernel_rfl
set_option maxHeartbeats 4000000 in
theorem f88_1_p4_ok : LoopOk f88_1_C (nthC (bodies (bodyOf Tryd.f88)) 0) := by
  refine LoopOk.of f88_1_p4L (by kernel_rfl) fun σ K h => ?_
  have hk : loopKey (nthC (bodies (bodyOf Tryd.f88)) 0) = 4 := by kernel_rfl
  rw [hk] at h ⊢
  generalize hs : normK f88_1_C 4 σ = s at h
  obtain ⟨tm, hp⟩ := s
  unfold f88_1_p4L at h
  dsimp only at h
  obtain ⟨xx, yy, rfl, rfl, h⟩ := getS_elim h
  refine iter_of (f88_1_p4_mk xx.1.1 xx.1.2 xx.2.2.2.1) (fun x N h => ?_) rounds _ σ (hs.trans (by kernel_rfl)) (LoopP.run h)
  rw [← f88_1_p4e0 xx.1.1 xx.1.2 xx.2.2.2.1 x N K]
  exact h
noncomputable def f88_1_G0 : List TV → List Entry → (TV → List Entry → Prop) → Prop := fun tm hp K => getS [.v (.one (.sl 5)), .v (.one (.fn 48))] [] tm hp fun (xx : ((List (List PC) × Bool) × (Unit × Unit))) (yy : Unit) => f88_1 xx.1.1 xx.1.2 (fun n0_1 => K (I n0_1) [])
set_option maxRecDepth 100000 in
theorem f88_1_eq (es_11 : List (List PC)) (full_12 : Bool) (K : TV → List Entry → Prop) : (f88_1_d es_11 full_12 (fun n0_1 => K (I n0_1) [])) = funcT f88_1_C Tryd.f88 [.w (.one (.p (.sl 5 es_11 full_12))), .w (.one (.p (.c (.func (.func 48) #[] #[]))))] [] K := by kernel_rfl
set_option maxHeartbeats 4000000 in
theorem f88_1_ok0 : FnOk Tryd.prog glob 88 f88_1_G0 := by
  refine FnOk.of_text (C := f88_1_C) tab_ok.ok (Known.add f48_G_ok (Known.none)) follows_ok (fn := Tryd.f88) (by kernel_rfl) (by kernel_rfl) (by kernel_rfl) (fun c hc => ?_) fun tm hp K h => ?_
  · have e : c = bodyOf Tryd.f88 := Option.some.inj (hc.symm.trans (by kernel_rfl))
    subst e
    exact ⟨LoopsOk.of [nthC (bodies (bodyOf Tryd.f88)) 0] (by kernel_rfl) ⟨f88_1_p4_ok, trivial⟩, TailsOk.of (tab := f88_1_tab) rfl [] (by kernel_rfl) trivial⟩
  · unfold f88_1_G0 at h
    obtain ⟨xx, yy, rfl, rfl, h⟩ := getS_elim h
    have e := (f88_1_eq xx.1.1 xx.1.2 K).trans (show _ = funcT f88_1_C Tryd.f88 (mkR _ xx) (mkE _ yy) K by kernel_rfl)
    rw [← e]
    exact h.run
noncomputable def f88_1_G : List TV → List Entry → (TV → List Entry → Prop) → Prop := fun args H K => bif isSig (sigOf args H) [5, 1048, 7] then f88_1_G0 args H K else f88_G args H K
theorem f88_1_G_ok : FnOk Tryd.prog glob 88 f88_1_G := FnOk.or _ f88_1_ok0 f88_G_ok
end Go.Eng.N
set_option linter.unusedVariables false
set_option maxRecDepth 100000
open Go Go.Eng Go.Proofs
namespace Go.Eng.N
/-! ### f46_1: slices.ContainsFunc(()plenum/api.Recipient,plenum/api.Recipient) -/
noncomputable def f46_1_d (es1 : List (List PC)) (full2 : Bool) (k0 : Bool → Prop) : Prop := f88_1 es1 full2 (fun n3 => k0 (decide (n3 ≥ 0)))
structure f46_1 (es1 : List (List PC)) (full2 : Bool) (k0 : Bool → Prop) : Prop where
  run : f46_1_d es1 full2 k0
noncomputable def f46_1_tab : List (Nat × Told) := []
noncomputable def f46_1_call : FuncId → List TV → List Entry → (TV → List Entry → Prop) → Prop := addCall 88 f88_1_G (noCalls)
noncomputable def f46_1_C : Ctx := { ty := tyOf tab, glob := glob, byRef := byRef, keep := fun k i => lookN [] (lookN [] ([] : List (Nat × List (Nat × List Nat))) k) i, late := lookN [] ([] : List (Nat × List Nat)), nref := lookN [] ([] : List (Nat × List Nat)), nbox := lookN [] ([] : List (Nat × List (Nat × Nat))), take := [], rnil := false, m := 0, fz := true, loops := lookL f46_1_tab, call := f46_1_call }
noncomputable def f46_1_G0 : List TV → List Entry → (TV → List Entry → Prop) → Prop := fun tm hp K => getS [.v (.one (.sl 5)), .v (.one (.fn 48))] [] tm hp fun (xx : ((List (List PC) × Bool) × (Unit × Unit))) (yy : Unit) => f46_1 xx.1.1 xx.1.2 (fun b0_0 => K (B b0_0) [])
set_option maxRecDepth 100000 in
theorem f46_1_eq (es_1 : List (List PC)) (full_2 : Bool) (K : TV → List Entry → Prop) : (f46_1_d es_1 full_2 (fun b0_0 => K (B b0_0) [])) = funcT f46_1_C Tryd.f46 [.w (.one (.p (.sl 5 es_1 full_2))), .w (.one (.p (.c (.func (.func 48) #[] #[]))))] [] K := by kernel_rfl
set_option maxHeartbeats 4000000 in
theorem f46_1_ok0 : FnOk Tryd.prog glob 46 f46_1_G0 := by
  refine FnOk.of_text (C := f46_1_C) tab_ok.ok (Known.add f88_1_G_ok (Known.none)) follows_ok (fn := Tryd.f46) (by kernel_rfl) (by kernel_rfl) (by kernel_rfl) (fun c hc => ?_) fun tm hp K h => ?_
  · have e : c = bodyOf Tryd.f46 := Option.some.inj (hc.symm.trans (by kernel_rfl))
    subst e
    exact ⟨LoopsOk.of [] (by kernel_rfl) trivial, TailsOk.of (tab := f46_1_tab) rfl [] (by kernel_rfl) trivial⟩
  · unfold f46_1_G0 at h
    obtain ⟨xx, yy, rfl, rfl, h⟩ := getS_elim h
    have e := (f46_1_eq xx.1.1 xx.1.2 K).trans (show _ = funcT f46_1_C Tryd.f46 (mkR _ xx) (mkE _ yy) K by kernel_rfl)
    rw [← e]
    exact h.run
noncomputable def f46_1_G : List TV → List Entry → (TV → List Entry → Prop) → Prop := fun args H K => bif isSig (sigOf args H) [5, 1048, 7] then f46_1_G0 args H K else f46_G args H K
theorem f46_1_G_ok : FnOk Tryd.prog glob 46 f46_1_G := FnOk.or _ f46_1_ok0 f46_G_ok
end Go.Eng.N
set_option linter.unusedVariables false
set_option maxRecDepth 100000
open Go Go.Eng Go.Proofs
namespace Go.Eng.N
/-! ### f49: slices.Index(()plenum/api.Recipient,plenum/api.Recipient) -/
noncomputable def f49_p4b0 (es8 : List (List PC)) (full9 : Bool) (n10 : Int) (n11 : Int) (s12 : ByteArray) (n13 : Int) (n14 : Int) (n15 : Int) (n16 : Int) (N0 : Int → Prop) (k0 : Int → Prop) (k1 : Unit → Prop) : Prop := bB (decide (n11 < n10)) ((0 ≤ n11 ∧ n11 < ((es8.length : Nat) : Int)) ∧ cS (ext (List.getD es8 (Int.toNat n11) []) 0 5) fun s18 r17 => cI .i64 r17 fun n20 r19 => cI .i64 r19 fun n22 r21 => cI .i64 r21 fun n24 r23 => cI .i64 r23 fun n26 r25 => nilC r25 <| bB ((s12 == s18) && ((n13 == n20) && ((n14 == n22) && ((n15 == n24) && ((n16 == n26) && true))))) (k0 n11) (N0 (w64 (n11 + 1)))) (k1 ())
noncomputable def f49_p4 (es8 : List (List PC)) (full9 : Bool) (n10 : Int) (s12 : ByteArray) (n13 : Int) (n14 : Int) (n15 : Int) (n16 : Int) (k0 : Int → Prop) (k1 : Unit → Prop) : Int → Prop := LoopP fun x N => f49_p4b0 es8 full9 n10 x s12 n13 n14 n15 n16 (fun n11 => N n11) k0 k1
noncomputable def f49_d (es1 : List (List PC)) (full2 : Bool) (s3 : ByteArray) (n4 : Int) (n5 : Int) (n6 : Int) (n7 : Int) (k0 : Int → Prop) : Prop := f49_p4 es1 full2 ((es1.length : Nat) : Int) s3 n4 n5 n6 n7 (fun n27 => k0 n27) (fun (_ : Unit) => k0 (-1)) 0
structure f49 (es1 : List (List PC)) (full2 : Bool) (s3 : ByteArray) (n4 : Int) (n5 : Int) (n6 : Int) (n7 : Int) (k0 : Int → Prop) : Prop where
  run : f49_d es1 full2 s3 n4 n5 n6 n7 k0
noncomputable def f49_p4L : Told := fun s K => match s with
  | ⟨tm, hp⟩ => getS [.v (.one (.sl 5)), .skip 2, .v (.one (.ptr 0 0 0)), .skip 3, .v (.one (.int .i64)), .v (.one (.int .i64)), .skip 10] [.box [.str, .int .i64, .int .i64, .int .i64, .int .i64]] tm hp fun (xx : ((List (List PC) × Bool) × (Unit × (Unit × (Unit × (Int × (Int × (Unit × Unit)))))))) (yy : ((ByteArray × (Int × (Int × (Int × (Int × Unit))))) × Unit)) => f49_p4 xx.1.1 xx.1.2 xx.2.2.2.2.1 yy.1.1 yy.1.2.1 yy.1.2.2.1 yy.1.2.2.2.1 yy.1.2.2.2.2.1 (fun n0_0 => K .ret ⟨mkS 19 [(4, I n0_0)], []⟩) (fun (_ : Unit) => K (.exit 0) ⟨mkS 19 [], []⟩) xx.2.2.2.2.2.1
noncomputable def f49_tab : List (Nat × Told) := [(4, f49_p4L)]
noncomputable def f49_call : FuncId → List TV → List Entry → (TV → List Entry → Prop) → Prop := noCalls
noncomputable def f49_C : Ctx := { ty := tyOf tab, glob := glob, byRef := byRef, keep := fun k i => lookN [] (lookN [] ([(4, [(0, [0, 3, 7, 8]), (2, [4]), (3, [])])] : List (Nat × List (Nat × List Nat))) k) i, late := lookN [] ([] : List (Nat × List Nat)), nref := lookN [] ([] : List (Nat × List Nat)), nbox := lookN [] ([] : List (Nat × List (Nat × Nat))), take := [], rnil := false, m := 0, fz := true, loops := lookL f49_tab, call := f49_call }
noncomputable def f49_p4_mk (es8 : List (List PC)) (full9 : Bool) (n10 : Int) (s12 : ByteArray) (n13 : Int) (n14 : Int) (n15 : Int) (n16 : Int) (x : Int) : St := ⟨mkS 19 [(0, .w (.one (.p (.sl 5 es8 full9)))), (3, .w (.one (.ptr 0 0 0))), (7, I n10), (8, I x)], [.box [.p (pS s12), .p (pI n13), .p (pI n14), .p (pI n15), .p (pI n16)]]⟩
set_option maxRecDepth 100000 in
theorem f49_p4e0 (es_11 : List (List PC)) (full_12 : Bool) (n_13 : Int) (n_14 : Int) (s_15 : ByteArray) (n_16 : Int) (n_17 : Int) (n_18 : Int) (n_19 : Int) (N : St → Prop) (K : TExit → St → Prop) : (f49_p4b0 es_11 full_12 n_13 n_14 s_15 n_16 n_17 n_18 n_19 (fun z3 => N (f49_p4_mk es_11 full_12 n_13 s_15 n_16 n_17 n_18 n_19 z3)) (fun n0_20 => K .ret ⟨mkS 19 [(4, I n0_20)], []⟩) (fun (_ : Unit) => K (.exit 0) ⟨mkS 19 [], []⟩)) = execT f49_C (nthC (bodies (bodyOf Tryd.f49)) 0) (f49_p4_mk es_11 full_12 n_13 s_15 n_16 n_17 n_18 n_19 n_14) (loopK N (normK f49_C 4) fun e s => K e (normOut f49_C 4 e s)) := by kernel_rfl
set_option maxHeartbeats 4000000 in
theorem f49_p4_ok : LoopOk f49_C (nthC (bodies (bodyOf Tryd.f49)) 0) := by
  refine LoopOk.of f49_p4L (by kernel_rfl) fun σ K h => ?_
  have hk : loopKey (nthC (bodies (bodyOf Tryd.f49)) 0) = 4 := by kernel_rfl
  rw [hk] at h ⊢
  generalize hs : normK f49_C 4 σ = s at h
  obtain ⟨tm, hp⟩ := s
  unfold f49_p4L at h
  dsimp only at h
  obtain ⟨xx, yy, rfl, rfl, h⟩ := getS_elim h
  refine iter_of (f49_p4_mk xx.1.1 xx.1.2 xx.2.2.2.2.1 yy.1.1 yy.1.2.1 yy.1.2.2.1 yy.1.2.2.2.1 yy.1.2.2.2.2.1) (fun x N h => ?_) rounds _ σ (hs.trans (by kernel_rfl)) (LoopP.run h)
  rw [← f49_p4e0 xx.1.1 xx.1.2 xx.2.2.2.2.1 x yy.1.1 yy.1.2.1 yy.1.2.2.1 yy.1.2.2.2.1 yy.1.2.2.2.2.1 N K]
  exact h
noncomputable def f49_G0 : List TV → List Entry → (TV → List Entry → Prop) → Prop := fun tm hp K => getS [.v (.one (.sl 5)), .v (.pagg [.str, .int .i64, .int .i64, .int .i64, .int .i64])] [] tm hp fun (xx : ((List (List PC) × Bool) × ((ByteArray × (Int × (Int × (Int × (Int × Unit))))) × Unit))) (yy : Unit) => f49 xx.1.1 xx.1.2 xx.2.1.1 xx.2.1.2.1 xx.2.1.2.2.1 xx.2.1.2.2.2.1 xx.2.1.2.2.2.2.1 (fun n0_1 => K (I n0_1) [])
set_option maxRecDepth 100000 in
theorem f49_eq (es_21 : List (List PC)) (full_22 : Bool) (s_23 : ByteArray) (n_24 : Int) (n_25 : Int) (n_26 : Int) (n_27 : Int) (K : TV → List Entry → Prop) : (f49_d es_21 full_22 s_23 n_24 n_25 n_26 n_27 (fun n0_1 => K (I n0_1) [])) = funcT f49_C Tryd.f49 [.w (.one (.p (.sl 5 es_21 full_22))), .w (.pagg [pS s_23, pI n_24, pI n_25, pI n_26, pI n_27])] [] K := by kernel_rfl
set_option maxHeartbeats 4000000 in
theorem f49_ok0 : FnOk Tryd.prog glob 49 f49_G0 := by
  refine FnOk.of_text (C := f49_C) tab_ok.ok (Known.none) follows_ok (fn := Tryd.f49) (by kernel_rfl) (by kernel_rfl) (by kernel_rfl) (fun c hc => ?_) fun tm hp K h => ?_
  · have e : c = bodyOf Tryd.f49 := Option.some.inj (hc.symm.trans (by kernel_rfl))
    subst e
    exact ⟨LoopsOk.of [nthC (bodies (bodyOf Tryd.f49)) 0] (by kernel_rfl) ⟨f49_p4_ok, trivial⟩, TailsOk.of (tab := f49_tab) rfl [] (by kernel_rfl) trivial⟩
  · unfold f49_G0 at h
    obtain ⟨xx, yy, rfl, rfl, h⟩ := getS_elim h
    have e := (f49_eq xx.1.1 xx.1.2 xx.2.1.1 xx.2.1.2.1 xx.2.1.2.2.1 xx.2.1.2.2.2.1 xx.2.1.2.2.2.2.1 K).trans (show _ = funcT f49_C Tryd.f49 (mkR _ xx) (mkE _ yy) K by kernel_rfl)
    rw [← e]
    exact h.run
noncomputable abbrev f49_G := f49_G0
theorem f49_G_ok : FnOk Tryd.prog glob 49 f49_G := f49_ok0
end Go.Eng.N
set_option linter.unusedVariables false
set_option maxRecDepth 100000
open Go Go.Eng Go.Proofs
namespace Go.Eng.N
/-! ### f16: plenum/notify.Check -/
noncomputable def f16_p16b0 (es14 : List (List PC)) (full15 : Bool) (n16 : Int) (n17 : Int) (s18 : ByteArray) (n19 : Int) (n20 : Int) (es21 : List (List PC)) (full22 : Bool) (N0 : Int → Prop) (k0 : Int → Prop) (k1 : Unit → Prop) : Prop := bB (decide (n17 < n16)) ((0 ≤ n17 ∧ n17 < ((es14.length : Nat) : Int)) ∧ cS (ext (List.getD es14 (Int.toNat n17) []) 0 5) fun s24 r23 => cI .i64 r23 fun n26 r25 => cI .i64 r25 fun n28 r27 => cI .i64 r27 fun n30 r29 => cI .i64 r29 fun n32 r31 => nilC r31 <| f49 es21 full22 s24 n26 n28 n30 n32 (fun n33 => bB (n33 != n17) (k0 5) (N0 (w64 (n17 + 1))))) (k1 ())
noncomputable def f16_p16 (es14 : List (List PC)) (full15 : Bool) (n16 : Int) (s18 : ByteArray) (n19 : Int) (n20 : Int) (es21 : List (List PC)) (full22 : Bool) (k0 : Int → Prop) (k1 : Unit → Prop) : Int → Prop := LoopP fun x N => f16_p16b0 es14 full15 n16 x s18 n19 n20 es21 full22 (fun n17 => N n17) k0 k1
noncomputable def f16_p15 (s9 : ByteArray) (n10 : Int) (n11 : Int) (es12 : List (List PC)) (full13 : Bool) (k0 : Int → Prop) : Prop := f16_p16 es12 full13 ((es12.length : Nat) : Int) s9 n10 n11 es12 full13 (fun n34 => k0 n34) (fun (_ : Unit) => k0 0) 0
noncomputable def f16_d (s1 : ByteArray) (n2 : Int) (n3 : Int) (es4 : List (List PC)) (full5 : Bool) (k0 : Int → Prop) : Prop := bB (decide (((es4.length : Nat) : Int) > 8)) (k0 7) (f45 s1 (fun b6 => bB (!b6) (k0 4) (f46 es4 full5 (fun b7 => bB b7 (k0 4) (bB (decide (n2 < 0)) (k0 6) (bB (decide (n2 > 255)) (k0 6) (bB (decide (n3 < 0)) (k0 6) (bB (decide (n3 > 7)) (k0 6) (f46_1 es4 full5 (fun b8 => bB b8 (k0 6) (f16_p15 s1 n2 n3 es4 full5 (fun n35 => k0 n35))))))))))))
structure f16 (s1 : ByteArray) (n2 : Int) (n3 : Int) (es4 : List (List PC)) (full5 : Bool) (k0 : Int → Prop) : Prop where
  run : f16_d s1 n2 n3 es4 full5 k0
noncomputable def f16_p16L : Told := fun s K => match s with
  | ⟨tm, hp⟩ => getS [.skip 1, .v (.one (.ptr 0 0 0)), .skip 43, .v (.one (.sl 5)), .v (.one (.int .i64)), .v (.one (.int .i64)), .skip 11] [.box [.str, .int .i64, .int .i64, .sl 5]] tm hp fun (xx : (Unit × (Unit × (Unit × ((List (List PC) × Bool) × (Int × (Int × (Unit × Unit)))))))) (yy : ((ByteArray × (Int × (Int × ((List (List PC) × Bool) × Unit)))) × Unit)) => f16_p16 xx.2.2.2.1.1 xx.2.2.2.1.2 xx.2.2.2.2.1 yy.1.1 yy.1.2.1 yy.1.2.2.1 yy.1.2.2.2.1.1 yy.1.2.2.2.1.2 (fun n0_0 => K .ret ⟨mkS 59 [(2, I n0_0)], []⟩) (fun (_ : Unit) => K (.exit 1) ⟨mkS 59 [], []⟩) xx.2.2.2.2.2.1
noncomputable def f16_p15L : Told := fun s K => match s with
  | ⟨tm, hp⟩ => getS [.skip 1, .v (.one (.ptr 0 0 0)), .skip 57] [.box [.str, .int .i64, .int .i64, .sl 5]] tm hp fun (xx : (Unit × (Unit × (Unit × Unit)))) (yy : ((ByteArray × (Int × (Int × ((List (List PC) × Bool) × Unit)))) × Unit)) => f16_p15 yy.1.1 yy.1.2.1 yy.1.2.2.1 yy.1.2.2.2.1.1 yy.1.2.2.2.1.2 (fun n0_1 => K .ret ⟨mkS 59 [(2, I n0_1)], []⟩)
noncomputable def f16_tab : List (Nat × Told) := [(16, f16_p16L), (15, f16_p15L)]
noncomputable def f16_call : FuncId → List TV → List Entry → (TV → List Entry → Prop) → Prop := addCall 49 f49_G (addCall 46 f46_1_G (addCall 45 f45_G (noCalls)))
noncomputable def f16_C : Ctx := { ty := tyOf tab, glob := glob, byRef := byRef, keep := fun k i => lookN [] (lookN [] ([(16, [(0, [1, 45, 46, 47]), (2, [2]), (4, [])]), (15, [(0, [1]), (1, [2]), (2, [2])])] : List (Nat × List (Nat × List Nat))) k) i, late := lookN [] ([] : List (Nat × List Nat)), nref := lookN [] ([] : List (Nat × List Nat)), nbox := lookN [] ([] : List (Nat × List (Nat × Nat))), take := [], rnil := false, m := 0, fz := true, loops := lookL f16_tab, call := f16_call }
noncomputable def f16_p16_mk (es14 : List (List PC)) (full15 : Bool) (n16 : Int) (s18 : ByteArray) (n19 : Int) (n20 : Int) (es21 : List (List PC)) (full22 : Bool) (x : Int) : St := ⟨mkS 59 [(1, .w (.one (.ptr 0 0 0))), (45, .w (.one (.p (.sl 5 es14 full15)))), (46, I n16), (47, I x)], [.box [.p (pS s18), .p (pI n19), .p (pI n20), .p (.sl 5 es21 full22)]]⟩
set_option maxRecDepth 100000 in
theorem f16_p16e0 (es_12 : List (List PC)) (full_13 : Bool) (n_14 : Int) (n_15 : Int) (s_16 : ByteArray) (n_17 : Int) (n_18 : Int) (es_19 : List (List PC)) (full_20 : Bool) (N : St → Prop) (K : TExit → St → Prop) : (f16_p16b0 es_12 full_13 n_14 n_15 s_16 n_17 n_18 es_19 full_20 (fun z3 => N (f16_p16_mk es_12 full_13 n_14 s_16 n_17 n_18 es_19 full_20 z3)) (fun n0_21 => K .ret ⟨mkS 59 [(2, I n0_21)], []⟩) (fun (_ : Unit) => K (.exit 1) ⟨mkS 59 [], []⟩)) = execT f16_C (nthC (bodies (bodyOf Tryd.f16)) 0) (f16_p16_mk es_12 full_13 n_14 s_16 n_17 n_18 es_19 full_20 n_15) (loopK N (normK f16_C 16) fun e s => K e (normOut f16_C 16 e s)) := by kernel_rfl
set_option maxRecDepth 100000 in
theorem f16_p15e0 (s_22 : ByteArray) (n_23 : Int) (n_24 : Int) (es_25 : List (List PC)) (full_26 : Bool) (K : TExit → St → Prop) : (f16_p15 s_22 n_23 n_24 es_25 full_26 (fun n0_27 => K .ret ⟨mkS 59 [(2, I n0_27)], []⟩)) = execT f16_C (nthC (tails (bodyOf Tryd.f16)) 1) ⟨mkS 59 [(1, .w (.one (.ptr 0 0 0)))], [.box [.p (pS s_22), .p (pI n_23), .p (pI n_24), .p (.sl 5 es_25 full_26)]]⟩ (fun e s => K e (normOut f16_C 15 e s)) := by kernel_rfl
set_option maxHeartbeats 4000000 in
theorem f16_p16_ok : LoopOk f16_C (nthC (bodies (bodyOf Tryd.f16)) 0) := by
  refine LoopOk.of f16_p16L (by kernel_rfl) fun σ K h => ?_
  have hk : loopKey (nthC (bodies (bodyOf Tryd.f16)) 0) = 16 := by kernel_rfl
  rw [hk] at h ⊢
  generalize hs : normK f16_C 16 σ = s at h
  obtain ⟨tm, hp⟩ := s
  unfold f16_p16L at h
  dsimp only at h
  obtain ⟨xx, yy, rfl, rfl, h⟩ := getS_elim h
  refine iter_of (f16_p16_mk xx.2.2.2.1.1 xx.2.2.2.1.2 xx.2.2.2.2.1 yy.1.1 yy.1.2.1 yy.1.2.2.1 yy.1.2.2.2.1.1 yy.1.2.2.2.1.2) (fun x N h => ?_) rounds _ σ (hs.trans (by kernel_rfl)) (LoopP.run h)
  rw [← f16_p16e0 xx.2.2.2.1.1 xx.2.2.2.1.2 xx.2.2.2.2.1 x yy.1.1 yy.1.2.1 yy.1.2.2.1 yy.1.2.2.2.1.1 yy.1.2.2.2.1.2 N K]
  exact h
set_option maxHeartbeats 4000000 in
theorem f16_p15_ok : TailOk f16_C (nthC (tails (bodyOf Tryd.f16)) 1) := by
  refine TailOk.of f16_p15L (by kernel_rfl) fun σ K h => ?_
  have hk : joinKey (nthC (tails (bodyOf Tryd.f16)) 1) = 15 := by kernel_rfl
  rw [hk] at h ⊢
  generalize hs : normK f16_C 15 σ = s at h
  obtain ⟨tm, hp⟩ := s
  unfold f16_p15L at h
  dsimp only at h
  obtain ⟨xx, yy, rfl, rfl, h⟩ := getS_elim h
  have q : normK f16_C 15 σ = (⟨mkS 59 [(1, .w (.one (.ptr 0 0 0)))], [.box [.p (pS yy.1.1), .p (pI yy.1.2.1), .p (pI yy.1.2.2.1), .p (.sl 5 yy.1.2.2.2.1.1 yy.1.2.2.2.1.2)]]⟩ : St) := hs.trans (by kernel_rfl)
  rw [← hs, q, ← f16_p15e0 yy.1.1 yy.1.2.1 yy.1.2.2.1 yy.1.2.2.2.1.1 yy.1.2.2.2.1.2 K]
  exact h
noncomputable def f16_G0 : List TV → List Entry → (TV → List Entry → Prop) → Prop := fun tm hp K => getS [.v (.pagg [.str, .int .i64, .int .i64, .sl 5])] [] tm hp fun (xx : ((ByteArray × (Int × (Int × ((List (List PC) × Bool) × Unit)))) × Unit)) (yy : Unit) => f16 xx.1.1 xx.1.2.1 xx.1.2.2.1 xx.1.2.2.2.1.1 xx.1.2.2.2.1.2 (fun n0_2 => K (I n0_2) [])
set_option maxRecDepth 100000 in
theorem f16_eq (s_28 : ByteArray) (n_29 : Int) (n_30 : Int) (es_31 : List (List PC)) (full_32 : Bool) (K : TV → List Entry → Prop) : (f16_d s_28 n_29 n_30 es_31 full_32 (fun n0_2 => K (I n0_2) [])) = funcT f16_C Tryd.f16 [.w (.pagg [pS s_28, pI n_29, pI n_30, .sl 5 es_31 full_32])] [] K := by kernel_rfl
set_option maxHeartbeats 4000000 in
theorem f16_ok0 : FnOk Tryd.prog glob 16 f16_G0 := by
  refine FnOk.of_text (C := f16_C) tab_ok.ok (Known.add f49_G_ok (Known.add f46_1_G_ok (Known.add f45_G_ok (Known.none)))) follows_ok (fn := Tryd.f16) (by kernel_rfl) (by kernel_rfl) (by kernel_rfl) (fun c hc => ?_) fun tm hp K h => ?_
  · have e : c = bodyOf Tryd.f16 := Option.some.inj (hc.symm.trans (by kernel_rfl))
    subst e
    exact ⟨LoopsOk.of [nthC (bodies (bodyOf Tryd.f16)) 0] (by kernel_rfl) ⟨f16_p16_ok, trivial⟩, TailsOk.of (tab := f16_tab) rfl [nthC (tails (bodyOf Tryd.f16)) 1] (by kernel_rfl) ⟨f16_p15_ok, trivial⟩⟩
  · unfold f16_G0 at h
    obtain ⟨xx, yy, rfl, rfl, h⟩ := getS_elim h
    have e := (f16_eq xx.1.1 xx.1.2.1 xx.1.2.2.1 xx.1.2.2.2.1.1 xx.1.2.2.2.1.2 K).trans (show _ = funcT f16_C Tryd.f16 (mkR _ xx) (mkE _ yy) K by kernel_rfl)
    rw [← e]
    exact h.run
noncomputable abbrev f16_G := f16_G0
theorem f16_G_ok : FnOk Tryd.prog glob 16 f16_G := f16_ok0
end Go.Eng.N
set_option linter.unusedVariables false
set_option maxRecDepth 100000
open Go Go.Eng Go.Proofs
namespace Go.Eng.N
/-! ### f89: plenum/plenumref07.Lower -/
noncomputable def f89_d (n1 : Int) (k0 : Bool → Prop) : Prop := bB (decide (n1 ≥ 97)) (k0 (decide (n1 ≤ 122))) (k0 false)
structure f89 (n1 : Int) (k0 : Bool → Prop) : Prop where
  run : f89_d n1 k0
noncomputable def f89_tab : List (Nat × Told) := []
noncomputable def f89_call : FuncId → List TV → List Entry → (TV → List Entry → Prop) → Prop := noCalls
noncomputable def f89_C : Ctx := { ty := tyOf tab, glob := glob, byRef := byRef, keep := fun k i => lookN [] (lookN [] ([] : List (Nat × List (Nat × List Nat))) k) i, late := lookN [] ([] : List (Nat × List Nat)), nref := lookN [] ([] : List (Nat × List Nat)), nbox := lookN [] ([] : List (Nat × List (Nat × Nat))), take := [], rnil := false, m := 0, fz := true, loops := lookL f89_tab, call := f89_call }
noncomputable def f89_G0 : List TV → List Entry → (TV → List Entry → Prop) → Prop := fun tm hp K => getS [.v (.one (.int .u8))] [] tm hp fun (xx : (Int × Unit)) (yy : Unit) => f89 xx.1 (fun b0_0 => K (B b0_0) [])
set_option maxRecDepth 100000 in
theorem f89_eq (n_1 : Int) (K : TV → List Entry → Prop) : (f89_d n_1 (fun b0_0 => K (B b0_0) [])) = funcT f89_C Tryd.f89 [.w (.one (.p (.c (.int .u8 n_1))))] [] K := by kernel_rfl
set_option maxHeartbeats 4000000 in
theorem f89_ok0 : FnOk Tryd.prog glob 89 f89_G0 := by
  refine FnOk.of_text (C := f89_C) tab_ok.ok (Known.none) follows_ok (fn := Tryd.f89) (by kernel_rfl) (by kernel_rfl) (by kernel_rfl) (fun c hc => ?_) fun tm hp K h => ?_
  · have e : c = bodyOf Tryd.f89 := Option.some.inj (hc.symm.trans (by kernel_rfl))
    subst e
    exact ⟨LoopsOk.of [] (by kernel_rfl) trivial, TailsOk.of (tab := f89_tab) rfl [] (by kernel_rfl) trivial⟩
  · unfold f89_G0 at h
    obtain ⟨xx, yy, rfl, rfl, h⟩ := getS_elim h
    have e := (f89_eq xx.1 K).trans (show _ = funcT f89_C Tryd.f89 (mkR _ xx) (mkE _ yy) K by kernel_rfl)
    rw [← e]
    exact h.run
noncomputable abbrev f89_G := f89_G0
theorem f89_G_ok : FnOk Tryd.prog glob 89 f89_G := f89_ok0
end Go.Eng.N
set_option linter.unusedVariables false
set_option maxRecDepth 100000
open Go Go.Eng Go.Proofs
namespace Go.Eng.N
/-! ### f90: plenum/plenumref07.Digit -/
noncomputable def f90_d (n1 : Int) (k0 : Bool → Prop) : Prop := bB (decide (n1 ≥ 48)) (k0 (decide (n1 ≤ 57))) (k0 false)
structure f90 (n1 : Int) (k0 : Bool → Prop) : Prop where
  run : f90_d n1 k0
noncomputable def f90_tab : List (Nat × Told) := []
noncomputable def f90_call : FuncId → List TV → List Entry → (TV → List Entry → Prop) → Prop := noCalls
noncomputable def f90_C : Ctx := { ty := tyOf tab, glob := glob, byRef := byRef, keep := fun k i => lookN [] (lookN [] ([] : List (Nat × List (Nat × List Nat))) k) i, late := lookN [] ([] : List (Nat × List Nat)), nref := lookN [] ([] : List (Nat × List Nat)), nbox := lookN [] ([] : List (Nat × List (Nat × Nat))), take := [], rnil := false, m := 0, fz := true, loops := lookL f90_tab, call := f90_call }
noncomputable def f90_G0 : List TV → List Entry → (TV → List Entry → Prop) → Prop := fun tm hp K => getS [.v (.one (.int .u8))] [] tm hp fun (xx : (Int × Unit)) (yy : Unit) => f90 xx.1 (fun b0_0 => K (B b0_0) [])
set_option maxRecDepth 100000 in
theorem f90_eq (n_1 : Int) (K : TV → List Entry → Prop) : (f90_d n_1 (fun b0_0 => K (B b0_0) [])) = funcT f90_C Tryd.f90 [.w (.one (.p (.c (.int .u8 n_1))))] [] K := by kernel_rfl
set_option maxHeartbeats 4000000 in
theorem f90_ok0 : FnOk Tryd.prog glob 90 f90_G0 := by
  refine FnOk.of_text (C := f90_C) tab_ok.ok (Known.none) follows_ok (fn := Tryd.f90) (by kernel_rfl) (by kernel_rfl) (by kernel_rfl) (fun c hc => ?_) fun tm hp K h => ?_
  · have e : c = bodyOf Tryd.f90 := Option.some.inj (hc.symm.trans (by kernel_rfl))
    subst e
    exact ⟨LoopsOk.of [] (by kernel_rfl) trivial, TailsOk.of (tab := f90_tab) rfl [] (by kernel_rfl) trivial⟩
  · unfold f90_G0 at h
    obtain ⟨xx, yy, rfl, rfl, h⟩ := getS_elim h
    have e := (f90_eq xx.1 K).trans (show _ = funcT f90_C Tryd.f90 (mkR _ xx) (mkE _ yy) K by kernel_rfl)
    rw [← e]
    exact h.run
noncomputable abbrev f90_G := f90_G0
theorem f90_G_ok : FnOk Tryd.prog glob 90 f90_G := f90_ok0
end Go.Eng.N
set_option linter.unusedVariables false
set_option maxRecDepth 100000
open Go Go.Eng Go.Proofs
namespace Go.Eng.N
/-! ### f50: plenum/plenumref07.Name -/
noncomputable def f50_p8b0 (s4 : ByteArray) (n5 : Int) (N0 : Int → Prop) (k0 : Bool → Prop) (k1 : Unit → Prop) : Prop := bB (decide (n5 < ((s4.size : Nat) : Int))) ((0 ≤ n5 ∧ n5 < ((s4.size : Nat) : Int)) ∧ f89 (byteAt s4 n5) (fun b6 => bB (!b6) ((0 ≤ n5 ∧ n5 < ((s4.size : Nat) : Int)) ∧ f90 (byteAt s4 n5) (fun b7 => bB (!b7) ((0 ≤ n5 ∧ n5 < ((s4.size : Nat) : Int)) ∧ bB ((byteAt s4 n5) != 95) (k0 false) (N0 (w64 (n5 + 1)))) (N0 (w64 (n5 + 1))))) (N0 (w64 (n5 + 1))))) (k1 ())
noncomputable def f50_p8 (s4 : ByteArray) (k0 : Bool → Prop) (k1 : Unit → Prop) : Int → Prop := LoopP fun x N => f50_p8b0 s4 x (fun n5 => N n5) k0 k1
noncomputable def f50_p7 (s3 : ByteArray) (k0 : Bool → Prop) : Prop := f50_p8 s3 (fun b8 => k0 b8) (fun (_ : Unit) => k0 true) 1
noncomputable def f50_d (s1 : ByteArray) (k0 : Bool → Prop) : Prop := bB (decide (((s1.size : Nat) : Int) < 1)) (k0 false) (bB (decide (((s1.size : Nat) : Int) > 24)) (k0 false) ((0 ≤ (0 : Int) ∧ (0 : Int) < ((s1.size : Nat) : Int)) ∧ f89 (byteAt s1 0) (fun b2 => bB (!b2) (k0 false) (f50_p7 s1 (fun b9 => k0 b9)))))
structure f50 (s1 : ByteArray) (k0 : Bool → Prop) : Prop where
  run : f50_d s1 k0
noncomputable def f50_p8L : Told := fun s K => match s with
  | ⟨tm, hp⟩ => getS [.v (.one (.str)), .skip 2, .v (.one (.int .i64)), .skip 38] [] tm hp fun (xx : (ByteArray × (Unit × (Int × (Unit × Unit))))) (yy : Unit) => f50_p8 xx.1 (fun b0_0 => K .ret ⟨mkS 42 [(2, B b0_0)], []⟩) (fun (_ : Unit) => K (.exit 0) ⟨mkS 42 [], []⟩) xx.2.2.1
noncomputable def f50_p7L : Told := fun s K => match s with
  | ⟨tm, hp⟩ => getS [.v (.one (.str)), .skip 41] [] tm hp fun (xx : (ByteArray × (Unit × Unit))) (yy : Unit) => f50_p7 xx.1 (fun b0_1 => K .ret ⟨mkS 42 [(2, B b0_1)], []⟩)
noncomputable def f50_tab : List (Nat × Told) := [(8, f50_p8L), (7, f50_p7L)]
noncomputable def f50_call : FuncId → List TV → List Entry → (TV → List Entry → Prop) → Prop := addCall 90 f90_G (addCall 89 f89_G (noCalls))
noncomputable def f50_C : Ctx := { ty := tyOf tab, glob := glob, byRef := byRef, keep := fun k i => lookN [] (lookN [] ([(8, [(0, [0, 3]), (2, [2]), (3, [])]), (7, [(0, [0]), (1, [2]), (2, [2])])] : List (Nat × List (Nat × List Nat))) k) i, late := lookN [] ([] : List (Nat × List Nat)), nref := lookN [] ([] : List (Nat × List Nat)), nbox := lookN [] ([] : List (Nat × List (Nat × Nat))), take := [], rnil := false, m := 0, fz := true, loops := lookL f50_tab, call := f50_call }
noncomputable def f50_p8_mk (s4 : ByteArray) (x : Int) : St := ⟨mkS 42 [(0, S s4), (3, I x)], []⟩
set_option maxRecDepth 100000 in
theorem f50_p8e0 (s_5 : ByteArray) (n_6 : Int) (N : St → Prop) (K : TExit → St → Prop) : (f50_p8b0 s_5 n_6 (fun z1 => N (f50_p8_mk s_5 z1)) (fun b0_7 => K .ret ⟨mkS 42 [(2, B b0_7)], []⟩) (fun (_ : Unit) => K (.exit 0) ⟨mkS 42 [], []⟩)) = execT f50_C (nthC (bodies (bodyOf Tryd.f50)) 0) (f50_p8_mk s_5 n_6) (loopK N (normK f50_C 8) fun e s => K e (normOut f50_C 8 e s)) := by kernel_rfl
set_option maxRecDepth 100000 in
theorem f50_p7e0 (s_8 : ByteArray) (K : TExit → St → Prop) : (f50_p7 s_8 (fun b0_9 => K .ret ⟨mkS 42 [(2, B b0_9)], []⟩)) = execT f50_C (nthC (tails (bodyOf Tryd.f50)) 1) ⟨mkS 42 [(0, S s_8)], []⟩ (fun e s => K e (normOut f50_C 7 e s)) := by kernel_rfl
set_option maxHeartbeats 4000000 in
theorem f50_p8_ok : LoopOk f50_C (nthC (bodies (bodyOf Tryd.f50)) 0) := by
  refine LoopOk.of f50_p8L (by kernel_rfl) fun σ K h => ?_
  have hk : loopKey (nthC (bodies (bodyOf Tryd.f50)) 0) = 8 := by kernel_rfl
  rw [hk] at h ⊢
  generalize hs : normK f50_C 8 σ = s at h
  obtain ⟨tm, hp⟩ := s
  unfold f50_p8L at h
  dsimp only at h
  obtain ⟨xx, yy, rfl, rfl, h⟩ := getS_elim h
  refine iter_of (f50_p8_mk xx.1) (fun x N h => ?_) rounds _ σ (hs.trans (by kernel_rfl)) (LoopP.run h)
  rw [← f50_p8e0 xx.1 x N K]
  exact h
set_option maxHeartbeats 4000000 in
theorem f50_p7_ok : TailOk f50_C (nthC (tails (bodyOf Tryd.f50)) 1) := by
  refine TailOk.of f50_p7L (by kernel_rfl) fun σ K h => ?_
  have hk : joinKey (nthC (tails (bodyOf Tryd.f50)) 1) = 7 := by kernel_rfl
  rw [hk] at h ⊢
  generalize hs : normK f50_C 7 σ = s at h
  obtain ⟨tm, hp⟩ := s
  unfold f50_p7L at h
  dsimp only at h
  obtain ⟨xx, yy, rfl, rfl, h⟩ := getS_elim h
  have q : normK f50_C 7 σ = (⟨mkS 42 [(0, S xx.1)], []⟩ : St) := hs.trans (by kernel_rfl)
  rw [← hs, q, ← f50_p7e0 xx.1 K]
  exact h
noncomputable def f50_G0 : List TV → List Entry → (TV → List Entry → Prop) → Prop := fun tm hp K => getS [.v (.one (.str))] [] tm hp fun (xx : (ByteArray × Unit)) (yy : Unit) => f50 xx.1 (fun b0_2 => K (B b0_2) [])
set_option maxRecDepth 100000 in
theorem f50_eq (s_10 : ByteArray) (K : TV → List Entry → Prop) : (f50_d s_10 (fun b0_2 => K (B b0_2) [])) = funcT f50_C Tryd.f50 [S s_10] [] K := by kernel_rfl
set_option maxHeartbeats 4000000 in
theorem f50_ok0 : FnOk Tryd.prog glob 50 f50_G0 := by
  refine FnOk.of_text (C := f50_C) tab_ok.ok (Known.add f90_G_ok (Known.add f89_G_ok (Known.none))) follows_ok (fn := Tryd.f50) (by kernel_rfl) (by kernel_rfl) (by kernel_rfl) (fun c hc => ?_) fun tm hp K h => ?_
  · have e : c = bodyOf Tryd.f50 := Option.some.inj (hc.symm.trans (by kernel_rfl))
    subst e
    exact ⟨LoopsOk.of [nthC (bodies (bodyOf Tryd.f50)) 0] (by kernel_rfl) ⟨f50_p8_ok, trivial⟩, TailsOk.of (tab := f50_tab) rfl [nthC (tails (bodyOf Tryd.f50)) 1] (by kernel_rfl) ⟨f50_p7_ok, trivial⟩⟩
  · unfold f50_G0 at h
    obtain ⟨xx, yy, rfl, rfl, h⟩ := getS_elim h
    have e := (f50_eq xx.1 K).trans (show _ = funcT f50_C Tryd.f50 (mkR _ xx) (mkE _ yy) K by kernel_rfl)
    rw [← e]
    exact h.run
noncomputable abbrev f50_G := f50_G0
theorem f50_G_ok : FnOk Tryd.prog glob 50 f50_G := f50_ok0
end Go.Eng.N
set_option linter.unusedVariables false
set_option maxRecDepth 100000
open Go Go.Eng Go.Proofs
namespace Go.Eng.N
/-! ### f17: plenum/plenumref39.Check -/
noncomputable def f17_p12b0 (n7 : Int) (s8 : ByteArray) (n9 : Int) (n10 : Int) (es11 : List (List PC)) (full12 : Bool) (N0 : Int → Prop) (k0 : Int → Prop) (k1 : Unit → Prop) : Prop := bB (decide (n7 < ((es11.length : Nat) : Int))) ((0 ≤ n7 ∧ n7 < ((es11.length : Nat) : Int)) ∧ oS (ext (List.getD es11 (Int.toNat n7) []) 0 1) fun s13 => f50 s13 (fun b14 => bB (!b14) (k0 4) (N0 (w64 (n7 + 1))))) (k1 ())
noncomputable def f17_p12 (s8 : ByteArray) (n9 : Int) (n10 : Int) (es11 : List (List PC)) (full12 : Bool) (k0 : Int → Prop) (k1 : Unit → Prop) : Int → Prop := LoopP fun x N => f17_p12b0 x s8 n9 n10 es11 full12 (fun n7 => N n7) k0 k1
noncomputable def f17_p26b0 (n21 : Int) (s22 : ByteArray) (n23 : Int) (n24 : Int) (es25 : List (List PC)) (full26 : Bool) (N0 : Int → Prop) (k0 : Int → Prop) (k1 : Unit → Prop) : Prop := bB (decide (n21 < ((es25.length : Nat) : Int))) ((0 ≤ n21 ∧ n21 < ((es25.length : Nat) : Int)) ∧ cS (ext (List.getD es25 (Int.toNat n21) []) 0 5) fun s28 r27 => cI .i64 r27 fun n30 r29 => cI .i64 r29 fun n32 r31 => cI .i64 r31 fun n34 r33 => cI .i64 r33 fun n36 r35 => nilC r35 <| bB (decide (n30 < 1)) (k0 6) (bB (decide (n30 > 127)) (k0 6) (bB (decide (n36 < 1)) (k0 6) (bB (decide (n36 > 7)) (k0 6) (bB (decide (n32 < 0)) (k0 6) (bB (decide (n32 > n34)) (k0 6) (bB (decide (n34 ≥ 1440)) (k0 6) (N0 (w64 (n21 + 1)))))))))) (k1 ())
noncomputable def f17_p26 (s22 : ByteArray) (n23 : Int) (n24 : Int) (es25 : List (List PC)) (full26 : Bool) (k0 : Int → Prop) (k1 : Unit → Prop) : Int → Prop := LoopP fun x N => f17_p26b0 x s22 n23 n24 es25 full26 (fun n21 => N n21) k0 k1
noncomputable def f17_p44b0 (n44 : Int) (n45 : Int) (s46 : ByteArray) (n47 : Int) (n48 : Int) (es49 : List (List PC)) (full50 : Bool) (N0 : Int → Prop) (k0 : Int → Prop) (k1 : Unit → Prop) : Prop := bB (decide (n45 < n44)) ((0 ≤ n44 ∧ n44 < ((es49.length : Nat) : Int)) ∧ cS (ext (List.getD es49 (Int.toNat n44) []) 0 5) fun s52 r51 => cI .i64 r51 fun n54 r53 => cI .i64 r53 fun n56 r55 => cI .i64 r55 fun n58 r57 => cI .i64 r57 fun n60 r59 => nilC r59 <| (0 ≤ n45 ∧ n45 < ((es49.length : Nat) : Int)) ∧ cS (ext (List.getD es49 (Int.toNat n45) []) 0 5) fun s62 r61 => cI .i64 r61 fun n64 r63 => cI .i64 r63 fun n66 r65 => cI .i64 r65 fun n68 r67 => cI .i64 r67 fun n70 r69 => nilC r69 <| bB ((s52 == s62) && ((n54 == n64) && ((n56 == n66) && ((n58 == n68) && ((n60 == n70) && true))))) (k0 5) (N0 (w64 (n45 + 1)))) (k1 ())
noncomputable def f17_p44 (n44 : Int) (s46 : ByteArray) (n47 : Int) (n48 : Int) (es49 : List (List PC)) (full50 : Bool) (k0 : Int → Prop) (k1 : Unit → Prop) : Int → Prop := LoopP fun x N => f17_p44b0 n44 x s46 n47 n48 es49 full50 (fun n45 => N n45) k0 k1
noncomputable def f17_p38b0 (n38 : Int) (s39 : ByteArray) (n40 : Int) (n41 : Int) (es42 : List (List PC)) (full43 : Bool) (N0 : Int → Prop) (k0 : Int → Prop) (k1 : Unit → Prop) : Prop := bB (decide (n38 < ((es42.length : Nat) : Int))) (f17_p44 n38 s39 n40 n41 es42 full43 (fun n71 => k0 n71) (fun (_ : Unit) => N0 (w64 (n38 + 1))) 0) (k1 ())
noncomputable def f17_p38 (s39 : ByteArray) (n40 : Int) (n41 : Int) (es42 : List (List PC)) (full43 : Bool) (k0 : Int → Prop) (k1 : Unit → Prop) : Int → Prop := LoopP fun x N => f17_p38b0 x s39 n40 n41 es42 full43 (fun n38 => N n38) k0 k1
noncomputable def f17_p25 (s16 : ByteArray) (n17 : Int) (n18 : Int) (es19 : List (List PC)) (full20 : Bool) (k0 : Int → Prop) : Prop := f17_p26 s16 n17 n18 es19 full20 (fun n37 => k0 n37) (fun (_ : Unit) => f17_p38 s16 n17 n18 es19 full20 (fun n72 => k0 n72) (fun (_ : Unit) => k0 0) 0) 0
noncomputable def f17_d (s1 : ByteArray) (n2 : Int) (n3 : Int) (es4 : List (List PC)) (full5 : Bool) (k0 : Int → Prop) : Prop := bB (decide (((es4.length : Nat) : Int) > 8)) (k0 7) (f50 s1 (fun b6 => bB (!b6) (k0 4) (f17_p12 s1 n2 n3 es4 full5 (fun n15 => k0 n15) (fun (_ : Unit) => bB (decide (n2 < 0)) (k0 6) (bB (decide (n2 > 255)) (k0 6) (bB (decide (n3 < 0)) (k0 6) (bB (decide (n3 > 7)) (k0 6) (f17_p25 s1 n2 n3 es4 full5 (fun n73 => k0 n73)))))) 0)))
structure f17 (s1 : ByteArray) (n2 : Int) (n3 : Int) (es4 : List (List PC)) (full5 : Bool) (k0 : Int → Prop) : Prop where
  run : f17_d s1 n2 n3 es4 full5 k0
noncomputable def f17_p12L : Told := fun s K => match s with
  | ⟨tm, hp⟩ => getS [.skip 1, .v (.one (.ptr 0 0 0)), .skip 1, .v (.one (.int .i64)), .skip 115] [.box [.str, .int .i64, .int .i64, .sl 5]] tm hp fun (xx : (Unit × (Unit × (Unit × (Int × (Unit × Unit)))))) (yy : ((ByteArray × (Int × (Int × ((List (List PC) × Bool) × Unit)))) × Unit)) => f17_p12 yy.1.1 yy.1.2.1 yy.1.2.2.1 yy.1.2.2.2.1.1 yy.1.2.2.2.1.2 (fun n0_0 => K .ret ⟨mkS 119 [(2, I n0_0)], []⟩) (fun (_ : Unit) => K (.exit 0) ⟨mkS 119 [(1, .w (.one (.ptr 0 0 0)))], [.box [.p (pS yy.1.1), .p (pI yy.1.2.1), .p (pI yy.1.2.2.1), .p (.sl 5 yy.1.2.2.2.1.1 yy.1.2.2.2.1.2)]]⟩) xx.2.2.2.1
noncomputable def f17_p26L : Told := fun s K => match s with
  | ⟨tm, hp⟩ => getS [.skip 1, .v (.one (.ptr 0 0 0)), .skip 2, .v (.one (.int .i64)), .skip 114] [.box [.str, .int .i64, .int .i64, .sl 5]] tm hp fun (xx : (Unit × (Unit × (Unit × (Int × (Unit × Unit)))))) (yy : ((ByteArray × (Int × (Int × ((List (List PC) × Bool) × Unit)))) × Unit)) => f17_p26 yy.1.1 yy.1.2.1 yy.1.2.2.1 yy.1.2.2.2.1.1 yy.1.2.2.2.1.2 (fun n0_1 => K .ret ⟨mkS 119 [(2, I n0_1)], []⟩) (fun (_ : Unit) => K (.exit 2) ⟨mkS 119 [(1, .w (.one (.ptr 0 0 0)))], [.box [.p (pS yy.1.1), .p (pI yy.1.2.1), .p (pI yy.1.2.2.1), .p (.sl 5 yy.1.2.2.2.1.1 yy.1.2.2.2.1.2)]]⟩) xx.2.2.2.1
noncomputable def f17_p44L : Told := fun s K => match s with
  | ⟨tm, hp⟩ => getS [.skip 1, .v (.one (.ptr 0 0 0)), .skip 4, .v (.one (.int .i64)), .v (.one (.int .i64)), .skip 111] [.box [.str, .int .i64, .int .i64, .sl 5]] tm hp fun (xx : (Unit × (Unit × (Unit × (Int × (Int × (Unit × Unit))))))) (yy : ((ByteArray × (Int × (Int × ((List (List PC) × Bool) × Unit)))) × Unit)) => f17_p44 xx.2.2.2.1 yy.1.1 yy.1.2.1 yy.1.2.2.1 yy.1.2.2.2.1.1 yy.1.2.2.2.1.2 (fun n0_2 => K .ret ⟨mkS 119 [(2, I n0_2)], []⟩) (fun (_ : Unit) => K (.exit 6) ⟨mkS 119 [(1, .w (.one (.ptr 0 0 0))), (6, I xx.2.2.2.1)], [.box [.p (pS yy.1.1), .p (pI yy.1.2.1), .p (pI yy.1.2.2.1), .p (.sl 5 yy.1.2.2.2.1.1 yy.1.2.2.2.1.2)]]⟩) xx.2.2.2.2.1
noncomputable def f17_p38L : Told := fun s K => match s with
  | ⟨tm, hp⟩ => getS [.skip 1, .v (.one (.ptr 0 0 0)), .skip 4, .v (.one (.int .i64)), .skip 112] [.box [.str, .int .i64, .int .i64, .sl 5]] tm hp fun (xx : (Unit × (Unit × (Unit × (Int × (Unit × Unit)))))) (yy : ((ByteArray × (Int × (Int × ((List (List PC) × Bool) × Unit)))) × Unit)) => f17_p38 yy.1.1 yy.1.2.1 yy.1.2.2.1 yy.1.2.2.2.1.1 yy.1.2.2.2.1.2 (fun n0_3 => K .ret ⟨mkS 119 [(2, I n0_3)], []⟩) (fun (_ : Unit) => K (.exit 4) ⟨mkS 119 [], []⟩) xx.2.2.2.1
noncomputable def f17_p25L : Told := fun s K => match s with
  | ⟨tm, hp⟩ => getS [.skip 1, .v (.one (.ptr 0 0 0)), .skip 117] [.box [.str, .int .i64, .int .i64, .sl 5]] tm hp fun (xx : (Unit × (Unit × (Unit × Unit)))) (yy : ((ByteArray × (Int × (Int × ((List (List PC) × Bool) × Unit)))) × Unit)) => f17_p25 yy.1.1 yy.1.2.1 yy.1.2.2.1 yy.1.2.2.2.1.1 yy.1.2.2.2.1.2 (fun n0_4 => K .ret ⟨mkS 119 [(2, I n0_4)], []⟩)
noncomputable def f17_tab : List (Nat × Told) := [(12, f17_p12L), (26, f17_p26L), (44, f17_p44L), (38, f17_p38L), (25, f17_p25L)]
noncomputable def f17_call : FuncId → List TV → List Entry → (TV → List Entry → Prop) → Prop := addCall 50 f50_G (noCalls)
noncomputable def f17_C : Ctx := { ty := tyOf tab, glob := glob, byRef := byRef, keep := fun k i => lookN [] (lookN [] ([(12, [(0, [1, 3]), (2, [2]), (3, [1])]), (26, [(0, [1, 4]), (2, [2]), (5, [1])]), (44, [(0, [1, 6, 7]), (2, [2]), (7, []), (8, [1, 6]), (9, [1, 6])]), (38, [(0, [1, 6]), (2, [2]), (7, [])]), (25, [(0, [1]), (1, [2]), (2, [2])])] : List (Nat × List (Nat × List Nat))) k) i, late := lookN [] ([] : List (Nat × List Nat)), nref := lookN [] ([] : List (Nat × List Nat)), nbox := lookN [] ([] : List (Nat × List (Nat × Nat))), take := [], rnil := false, m := 0, fz := true, loops := lookL f17_tab, call := f17_call }
noncomputable def f17_p12_mk (s8 : ByteArray) (n9 : Int) (n10 : Int) (es11 : List (List PC)) (full12 : Bool) (x : Int) : St := ⟨mkS 119 [(1, .w (.one (.ptr 0 0 0))), (3, I x)], [.box [.p (pS s8), .p (pI n9), .p (pI n10), .p (.sl 5 es11 full12)]]⟩
set_option maxRecDepth 100000 in
theorem f17_p12e0 (n_12 : Int) (s_13 : ByteArray) (n_14 : Int) (n_15 : Int) (es_16 : List (List PC)) (full_17 : Bool) (N : St → Prop) (K : TExit → St → Prop) : (f17_p12b0 n_12 s_13 n_14 n_15 es_16 full_17 (fun z0 => N (f17_p12_mk s_13 n_14 n_15 es_16 full_17 z0)) (fun n0_18 => K .ret ⟨mkS 119 [(2, I n0_18)], []⟩) (fun (_ : Unit) => K (.exit 0) ⟨mkS 119 [(1, .w (.one (.ptr 0 0 0)))], [.box [.p (pS s_13), .p (pI n_14), .p (pI n_15), .p (.sl 5 es_16 full_17)]]⟩)) = execT f17_C (nthC (bodies (bodyOf Tryd.f17)) 0) (f17_p12_mk s_13 n_14 n_15 es_16 full_17 n_12) (loopK N (normK f17_C 12) fun e s => K e (normOut f17_C 12 e s)) := by kernel_rfl
noncomputable def f17_p26_mk (s22 : ByteArray) (n23 : Int) (n24 : Int) (es25 : List (List PC)) (full26 : Bool) (x : Int) : St := ⟨mkS 119 [(1, .w (.one (.ptr 0 0 0))), (4, I x)], [.box [.p (pS s22), .p (pI n23), .p (pI n24), .p (.sl 5 es25 full26)]]⟩
set_option maxRecDepth 100000 in
theorem f17_p26e0 (n_25 : Int) (s_26 : ByteArray) (n_27 : Int) (n_28 : Int) (es_29 : List (List PC)) (full_30 : Bool) (N : St → Prop) (K : TExit → St → Prop) : (f17_p26b0 n_25 s_26 n_27 n_28 es_29 full_30 (fun z0 => N (f17_p26_mk s_26 n_27 n_28 es_29 full_30 z0)) (fun n0_31 => K .ret ⟨mkS 119 [(2, I n0_31)], []⟩) (fun (_ : Unit) => K (.exit 2) ⟨mkS 119 [(1, .w (.one (.ptr 0 0 0)))], [.box [.p (pS s_26), .p (pI n_27), .p (pI n_28), .p (.sl 5 es_29 full_30)]]⟩)) = execT f17_C (nthC (bodies (bodyOf Tryd.f17)) 1) (f17_p26_mk s_26 n_27 n_28 es_29 full_30 n_25) (loopK N (normK f17_C 26) fun e s => K e (normOut f17_C 26 e s)) := by kernel_rfl
noncomputable def f17_p44_mk (n44 : Int) (s46 : ByteArray) (n47 : Int) (n48 : Int) (es49 : List (List PC)) (full50 : Bool) (x : Int) : St := ⟨mkS 119 [(1, .w (.one (.ptr 0 0 0))), (6, I n44), (7, I x)], [.box [.p (pS s46), .p (pI n47), .p (pI n48), .p (.sl 5 es49 full50)]]⟩
set_option maxRecDepth 100000 in
theorem f17_p44e0 (n_39 : Int) (n_40 : Int) (s_41 : ByteArray) (n_42 : Int) (n_43 : Int) (es_44 : List (List PC)) (full_45 : Bool) (N : St → Prop) (K : TExit → St → Prop) : (f17_p44b0 n_39 n_40 s_41 n_42 n_43 es_44 full_45 (fun z1 => N (f17_p44_mk n_39 s_41 n_42 n_43 es_44 full_45 z1)) (fun n0_46 => K .ret ⟨mkS 119 [(2, I n0_46)], []⟩) (fun (_ : Unit) => K (.exit 6) ⟨mkS 119 [(1, .w (.one (.ptr 0 0 0))), (6, I n_39)], [.box [.p (pS s_41), .p (pI n_42), .p (pI n_43), .p (.sl 5 es_44 full_45)]]⟩)) = execT f17_C (nthC (bodies (bodyOf Tryd.f17)) 3) (f17_p44_mk n_39 s_41 n_42 n_43 es_44 full_45 n_40) (loopK N (normK f17_C 44) fun e s => K e (normOut f17_C 44 e s)) := by kernel_rfl
noncomputable def f17_p38_mk (s39 : ByteArray) (n40 : Int) (n41 : Int) (es42 : List (List PC)) (full43 : Bool) (x : Int) : St := ⟨mkS 119 [(1, .w (.one (.ptr 0 0 0))), (6, I x)], [.box [.p (pS s39), .p (pI n40), .p (pI n41), .p (.sl 5 es42 full43)]]⟩
set_option maxRecDepth 100000 in
theorem f17_p38e0 (n_53 : Int) (s_54 : ByteArray) (n_55 : Int) (n_56 : Int) (es_57 : List (List PC)) (full_58 : Bool) (N : St → Prop) (K : TExit → St → Prop) : (f17_p38b0 n_53 s_54 n_55 n_56 es_57 full_58 (fun z0 => N (f17_p38_mk s_54 n_55 n_56 es_57 full_58 z0)) (fun n0_59 => K .ret ⟨mkS 119 [(2, I n0_59)], []⟩) (fun (_ : Unit) => K (.exit 4) ⟨mkS 119 [], []⟩)) = execT f17_C (nthC (bodies (bodyOf Tryd.f17)) 2) (f17_p38_mk s_54 n_55 n_56 es_57 full_58 n_53) (loopK N (normK f17_C 38) fun e s => K e (normOut f17_C 38 e s)) := by kernel_rfl
set_option maxRecDepth 100000 in
theorem f17_p25e0 (s_60 : ByteArray) (n_61 : Int) (n_62 : Int) (es_63 : List (List PC)) (full_64 : Bool) (K : TExit → St → Prop) : (f17_p25 s_60 n_61 n_62 es_63 full_64 (fun n0_65 => K .ret ⟨mkS 119 [(2, I n0_65)], []⟩)) = execT f17_C (nthC (tails (bodyOf Tryd.f17)) 14) ⟨mkS 119 [(1, .w (.one (.ptr 0 0 0)))], [.box [.p (pS s_60), .p (pI n_61), .p (pI n_62), .p (.sl 5 es_63 full_64)]]⟩ (fun e s => K e (normOut f17_C 25 e s)) := by kernel_rfl
set_option maxHeartbeats 4000000 in
theorem f17_p12_ok : LoopOk f17_C (nthC (bodies (bodyOf Tryd.f17)) 0) := by
  refine LoopOk.of f17_p12L (by kernel_rfl) fun σ K h => ?_
  have hk : loopKey (nthC (bodies (bodyOf Tryd.f17)) 0) = 12 := by kernel_rfl
  rw [hk] at h ⊢
  generalize hs : normK f17_C 12 σ = s at h
  obtain ⟨tm, hp⟩ := s
  unfold f17_p12L at h
  dsimp only at h
  obtain ⟨xx, yy, rfl, rfl, h⟩ := getS_elim h
  refine iter_of (f17_p12_mk yy.1.1 yy.1.2.1 yy.1.2.2.1 yy.1.2.2.2.1.1 yy.1.2.2.2.1.2) (fun x N h => ?_) rounds _ σ (hs.trans (by kernel_rfl)) (LoopP.run h)
  rw [← f17_p12e0 x yy.1.1 yy.1.2.1 yy.1.2.2.1 yy.1.2.2.2.1.1 yy.1.2.2.2.1.2 N K]
  exact h
set_option maxHeartbeats 4000000 in
theorem f17_p26_ok : LoopOk f17_C (nthC (bodies (bodyOf Tryd.f17)) 1) := by
  refine LoopOk.of f17_p26L (by kernel_rfl) fun σ K h => ?_
  have hk : loopKey (nthC (bodies (bodyOf Tryd.f17)) 1) = 26 := by kernel_rfl
  rw [hk] at h ⊢
  generalize hs : normK f17_C 26 σ = s at h
  obtain ⟨tm, hp⟩ := s
  unfold f17_p26L at h
  dsimp only at h
  obtain ⟨xx, yy, rfl, rfl, h⟩ := getS_elim h
  refine iter_of (f17_p26_mk yy.1.1 yy.1.2.1 yy.1.2.2.1 yy.1.2.2.2.1.1 yy.1.2.2.2.1.2) (fun x N h => ?_) rounds _ σ (hs.trans (by kernel_rfl)) (LoopP.run h)
  rw [← f17_p26e0 x yy.1.1 yy.1.2.1 yy.1.2.2.1 yy.1.2.2.2.1.1 yy.1.2.2.2.1.2 N K]
  exact h
set_option maxHeartbeats 4000000 in
theorem f17_p44_ok : LoopOk f17_C (nthC (bodies (bodyOf Tryd.f17)) 3) := by
  refine LoopOk.of f17_p44L (by kernel_rfl) fun σ K h => ?_
  have hk : loopKey (nthC (bodies (bodyOf Tryd.f17)) 3) = 44 := by kernel_rfl
  rw [hk] at h ⊢
  generalize hs : normK f17_C 44 σ = s at h
  obtain ⟨tm, hp⟩ := s
  unfold f17_p44L at h
  dsimp only at h
  obtain ⟨xx, yy, rfl, rfl, h⟩ := getS_elim h
  refine iter_of (f17_p44_mk xx.2.2.2.1 yy.1.1 yy.1.2.1 yy.1.2.2.1 yy.1.2.2.2.1.1 yy.1.2.2.2.1.2) (fun x N h => ?_) rounds _ σ (hs.trans (by kernel_rfl)) (LoopP.run h)
  rw [← f17_p44e0 xx.2.2.2.1 x yy.1.1 yy.1.2.1 yy.1.2.2.1 yy.1.2.2.2.1.1 yy.1.2.2.2.1.2 N K]
  exact h
set_option maxHeartbeats 4000000 in
theorem f17_p38_ok : LoopOk f17_C (nthC (bodies (bodyOf Tryd.f17)) 2) := by
  refine LoopOk.of f17_p38L (by kernel_rfl) fun σ K h => ?_
  have hk : loopKey (nthC (bodies (bodyOf Tryd.f17)) 2) = 38 := by kernel_rfl
  rw [hk] at h ⊢
  generalize hs : normK f17_C 38 σ = s at h
  obtain ⟨tm, hp⟩ := s
  unfold f17_p38L at h
  dsimp only at h
  obtain ⟨xx, yy, rfl, rfl, h⟩ := getS_elim h
  refine iter_of (f17_p38_mk yy.1.1 yy.1.2.1 yy.1.2.2.1 yy.1.2.2.2.1.1 yy.1.2.2.2.1.2) (fun x N h => ?_) rounds _ σ (hs.trans (by kernel_rfl)) (LoopP.run h)
  rw [← f17_p38e0 x yy.1.1 yy.1.2.1 yy.1.2.2.1 yy.1.2.2.2.1.1 yy.1.2.2.2.1.2 N K]
  exact h
set_option maxHeartbeats 4000000 in
theorem f17_p25_ok : TailOk f17_C (nthC (tails (bodyOf Tryd.f17)) 14) := by
  refine TailOk.of f17_p25L (by kernel_rfl) fun σ K h => ?_
  have hk : joinKey (nthC (tails (bodyOf Tryd.f17)) 14) = 25 := by kernel_rfl
  rw [hk] at h ⊢
  generalize hs : normK f17_C 25 σ = s at h
  obtain ⟨tm, hp⟩ := s
  unfold f17_p25L at h
  dsimp only at h
  obtain ⟨xx, yy, rfl, rfl, h⟩ := getS_elim h
  have q : normK f17_C 25 σ = (⟨mkS 119 [(1, .w (.one (.ptr 0 0 0)))], [.box [.p (pS yy.1.1), .p (pI yy.1.2.1), .p (pI yy.1.2.2.1), .p (.sl 5 yy.1.2.2.2.1.1 yy.1.2.2.2.1.2)]]⟩ : St) := hs.trans (by kernel_rfl)
  rw [← hs, q, ← f17_p25e0 yy.1.1 yy.1.2.1 yy.1.2.2.1 yy.1.2.2.2.1.1 yy.1.2.2.2.1.2 K]
  exact h
noncomputable def f17_G0 : List TV → List Entry → (TV → List Entry → Prop) → Prop := fun tm hp K => getS [.v (.pagg [.str, .int .i64, .int .i64, .sl 5])] [] tm hp fun (xx : ((ByteArray × (Int × (Int × ((List (List PC) × Bool) × Unit)))) × Unit)) (yy : Unit) => f17 xx.1.1 xx.1.2.1 xx.1.2.2.1 xx.1.2.2.2.1.1 xx.1.2.2.2.1.2 (fun n0_5 => K (I n0_5) [])
set_option maxRecDepth 100000 in
theorem f17_eq (s_66 : ByteArray) (n_67 : Int) (n_68 : Int) (es_69 : List (List PC)) (full_70 : Bool) (K : TV → List Entry → Prop) : (f17_d s_66 n_67 n_68 es_69 full_70 (fun n0_5 => K (I n0_5) [])) = funcT f17_C Tryd.f17 [.w (.pagg [pS s_66, pI n_67, pI n_68, .sl 5 es_69 full_70])] [] K := by kernel_rfl
set_option maxHeartbeats 4000000 in
theorem f17_ok0 : FnOk Tryd.prog glob 17 f17_G0 := by
  refine FnOk.of_text (C := f17_C) tab_ok.ok (Known.add f50_G_ok (Known.none)) follows_ok (fn := Tryd.f17) (by kernel_rfl) (by kernel_rfl) (by kernel_rfl) (fun c hc => ?_) fun tm hp K h => ?_
  · have e : c = bodyOf Tryd.f17 := Option.some.inj (hc.symm.trans (by kernel_rfl))
    subst e
    exact ⟨LoopsOk.of [nthC (bodies (bodyOf Tryd.f17)) 0, nthC (bodies (bodyOf Tryd.f17)) 1, nthC (bodies (bodyOf Tryd.f17)) 2, nthC (bodies (bodyOf Tryd.f17)) 3] (by kernel_rfl) ⟨f17_p12_ok, f17_p26_ok, f17_p38_ok, f17_p44_ok, trivial⟩, TailsOk.of (tab := f17_tab) rfl [nthC (tails (bodyOf Tryd.f17)) 14] (by kernel_rfl) ⟨f17_p25_ok, trivial⟩⟩
  · unfold f17_G0 at h
    obtain ⟨xx, yy, rfl, rfl, h⟩ := getS_elim h
    have e := (f17_eq xx.1.1 xx.1.2.1 xx.1.2.2.1 xx.1.2.2.2.1.1 xx.1.2.2.2.1.2 K).trans (show _ = funcT f17_C Tryd.f17 (mkR _ xx) (mkE _ yy) K by kernel_rfl)
    rw [← e]
    exact h.run
noncomputable abbrev f17_G := f17_G0
theorem f17_G_ok : FnOk Tryd.prog glob 17 f17_G := f17_ok0
end Go.Eng.N
set_option linter.unusedVariables false
set_option maxRecDepth 100000
open Go Go.Eng Go.Proofs
namespace Go.Eng.N
/-! ### f57: plenum/notify.state -/
noncomputable def f57_d (n1 : Int) (k0 : Bool → Prop) : Prop := bB (decide (n1 ≥ 0)) (k0 (decide (n1 ≤ 4))) (k0 false)
structure f57 (n1 : Int) (k0 : Bool → Prop) : Prop where
  run : f57_d n1 k0
noncomputable def f57_tab : List (Nat × Told) := []
noncomputable def f57_call : FuncId → List TV → List Entry → (TV → List Entry → Prop) → Prop := noCalls
noncomputable def f57_C : Ctx := { ty := tyOf tab, glob := glob, byRef := byRef, keep := fun k i => lookN [] (lookN [] ([] : List (Nat × List (Nat × List Nat))) k) i, late := lookN [] ([] : List (Nat × List Nat)), nref := lookN [] ([] : List (Nat × List Nat)), nbox := lookN [] ([] : List (Nat × List (Nat × Nat))), take := [], rnil := false, m := 0, fz := true, loops := lookL f57_tab, call := f57_call }
noncomputable def f57_G0 : List TV → List Entry → (TV → List Entry → Prop) → Prop := fun tm hp K => getS [.v (.one (.int .i64))] [] tm hp fun (xx : (Int × Unit)) (yy : Unit) => f57 xx.1 (fun b0_0 => K (B b0_0) [])
set_option maxRecDepth 100000 in
theorem f57_eq (n_1 : Int) (K : TV → List Entry → Prop) : (f57_d n_1 (fun b0_0 => K (B b0_0) [])) = funcT f57_C Tryd.f57 [I n_1] [] K := by kernel_rfl
set_option maxHeartbeats 4000000 in
theorem f57_ok0 : FnOk Tryd.prog glob 57 f57_G0 := by
  refine FnOk.of_text (C := f57_C) tab_ok.ok (Known.none) follows_ok (fn := Tryd.f57) (by kernel_rfl) (by kernel_rfl) (by kernel_rfl) (fun c hc => ?_) fun tm hp K h => ?_
  · have e : c = bodyOf Tryd.f57 := Option.some.inj (hc.symm.trans (by kernel_rfl))
    subst e
    exact ⟨LoopsOk.of [] (by kernel_rfl) trivial, TailsOk.of (tab := f57_tab) rfl [] (by kernel_rfl) trivial⟩
  · unfold f57_G0 at h
    obtain ⟨xx, yy, rfl, rfl, h⟩ := getS_elim h
    have e := (f57_eq xx.1 K).trans (show _ = funcT f57_C Tryd.f57 (mkR _ xx) (mkE _ yy) K by kernel_rfl)
    rw [← e]
    exact h.run
noncomputable abbrev f57_G := f57_G0
theorem f57_G_ok : FnOk Tryd.prog glob 57 f57_G := f57_ok0
end Go.Eng.N
set_option linter.unusedVariables false
set_option maxRecDepth 100000
open Go Go.Eng Go.Proofs
namespace Go.Eng.N
/-! ### f51: plenum/notify.timed -/
noncomputable def f51_d (n1 : Int) (n2 : Int) (k0 : Int → Prop) : Prop := bB (decide (n1 < 0)) (k0 6) (bB (decide (n1 > 6311433599)) (k0 6) (f57 n2 (fun b3 => bB (!b3) (k0 6) (k0 0))))
structure f51 (n1 : Int) (n2 : Int) (k0 : Int → Prop) : Prop where
  run : f51_d n1 n2 k0
noncomputable def f51_tab : List (Nat × Told) := []
noncomputable def f51_call : FuncId → List TV → List Entry → (TV → List Entry → Prop) → Prop := addCall 57 f57_G (noCalls)
noncomputable def f51_C : Ctx := { ty := tyOf tab, glob := glob, byRef := byRef, keep := fun k i => lookN [] (lookN [] ([] : List (Nat × List (Nat × List Nat))) k) i, late := lookN [] ([] : List (Nat × List Nat)), nref := lookN [] ([] : List (Nat × List Nat)), nbox := lookN [] ([] : List (Nat × List (Nat × Nat))), take := [], rnil := false, m := 0, fz := true, loops := lookL f51_tab, call := f51_call }
noncomputable def f51_G0 : List TV → List Entry → (TV → List Entry → Prop) → Prop := fun tm hp K => getS [.v (.one (.int .i64)), .v (.one (.int .i64))] [] tm hp fun (xx : (Int × (Int × Unit))) (yy : Unit) => f51 xx.1 xx.2.1 (fun n0_0 => K (I n0_0) [])
set_option maxRecDepth 100000 in
theorem f51_eq (n_1 : Int) (n_2 : Int) (K : TV → List Entry → Prop) : (f51_d n_1 n_2 (fun n0_0 => K (I n0_0) [])) = funcT f51_C Tryd.f51 [I n_1, I n_2] [] K := by kernel_rfl
set_option maxHeartbeats 4000000 in
theorem f51_ok0 : FnOk Tryd.prog glob 51 f51_G0 := by
  refine FnOk.of_text (C := f51_C) tab_ok.ok (Known.add f57_G_ok (Known.none)) follows_ok (fn := Tryd.f51) (by kernel_rfl) (by kernel_rfl) (by kernel_rfl) (fun c hc => ?_) fun tm hp K h => ?_
  · have e : c = bodyOf Tryd.f51 := Option.some.inj (hc.symm.trans (by kernel_rfl))
    subst e
    exact ⟨LoopsOk.of [] (by kernel_rfl) trivial, TailsOk.of (tab := f51_tab) rfl [] (by kernel_rfl) trivial⟩
  · unfold f51_G0 at h
    obtain ⟨xx, yy, rfl, rfl, h⟩ := getS_elim h
    have e := (f51_eq xx.1 xx.2.1 K).trans (show _ = funcT f51_C Tryd.f51 (mkR _ xx) (mkE _ yy) K by kernel_rfl)
    rw [← e]
    exact h.run
noncomputable abbrev f51_G := f51_G0
theorem f51_G_ok : FnOk Tryd.prog glob 51 f51_G := f51_ok0
end Go.Eng.N
set_option linter.unusedVariables false
set_option maxRecDepth 100000
open Go Go.Eng Go.Proofs
namespace Go.Eng.N
/-! ### f59: plenum/notify.kind -/
noncomputable def f59_d (n1 : Int) (k0 : Int → Prop) : Prop := bB (n1 == 0) (k0 4) (bB (n1 == 4) (k0 2) (k0 1))
structure f59 (n1 : Int) (k0 : Int → Prop) : Prop where
  run : f59_d n1 k0
noncomputable def f59_tab : List (Nat × Told) := []
noncomputable def f59_call : FuncId → List TV → List Entry → (TV → List Entry → Prop) → Prop := noCalls
noncomputable def f59_C : Ctx := { ty := tyOf tab, glob := glob, byRef := byRef, keep := fun k i => lookN [] (lookN [] ([] : List (Nat × List (Nat × List Nat))) k) i, late := lookN [] ([] : List (Nat × List Nat)), nref := lookN [] ([] : List (Nat × List Nat)), nbox := lookN [] ([] : List (Nat × List (Nat × Nat))), take := [], rnil := false, m := 0, fz := true, loops := lookL f59_tab, call := f59_call }
noncomputable def f59_G0 : List TV → List Entry → (TV → List Entry → Prop) → Prop := fun tm hp K => getS [.v (.one (.int .i64))] [] tm hp fun (xx : (Int × Unit)) (yy : Unit) => f59 xx.1 (fun n0_0 => K (I n0_0) [])
set_option maxRecDepth 100000 in
theorem f59_eq (n_1 : Int) (K : TV → List Entry → Prop) : (f59_d n_1 (fun n0_0 => K (I n0_0) [])) = funcT f59_C Tryd.f59 [I n_1] [] K := by kernel_rfl
set_option maxHeartbeats 4000000 in
theorem f59_ok0 : FnOk Tryd.prog glob 59 f59_G0 := by
  refine FnOk.of_text (C := f59_C) tab_ok.ok (Known.none) follows_ok (fn := Tryd.f59) (by kernel_rfl) (by kernel_rfl) (by kernel_rfl) (fun c hc => ?_) fun tm hp K h => ?_
  · have e : c = bodyOf Tryd.f59 := Option.some.inj (hc.symm.trans (by kernel_rfl))
    subst e
    exact ⟨LoopsOk.of [] (by kernel_rfl) trivial, TailsOk.of (tab := f59_tab) rfl [] (by kernel_rfl) trivial⟩
  · unfold f59_G0 at h
    obtain ⟨xx, yy, rfl, rfl, h⟩ := getS_elim h
    have e := (f59_eq xx.1 K).trans (show _ = funcT f59_C Tryd.f59 (mkR _ xx) (mkE _ yy) K by kernel_rfl)
    rw [← e]
    exact h.run
noncomputable abbrev f59_G := f59_G0
theorem f59_G_ok : FnOk Tryd.prog glob 59 f59_G := f59_ok0
end Go.Eng.N
set_option linter.unusedVariables false
set_option maxRecDepth 100000
open Go Go.Eng Go.Proofs
namespace Go.Eng.N
/-! ### f91: plenum/notify.tells -/
noncomputable def f91_d (s1 : ByteArray) (n2 : Int) (n3 : Int) (n4 : Int) (n5 : Int) (n6 : Int) (n7 : Int) (n8 : Int) (k0 : Bool → Prop) : Prop := 0 ≤ (w64 (n6 - 1)) ∧ bB ((IntKind.wrap .i64 (BitVec.toNat (BitVec.ofInt 64 (Int.fdiv n2 (2 ^ (min (Int.toNat (w64 (n6 - 1))) 64))) &&& BitVec.ofInt 64 1))) == 1) (bB (decide (n7 ≥ n3)) (bB (decide (n7 ≤ n4)) (k0 ((IntKind.wrap .i64 (BitVec.toNat (BitVec.ofInt 64 n5 &&& BitVec.ofInt 64 n8))) != 0)) (k0 false)) (k0 false)) (k0 false)
structure f91 (s1 : ByteArray) (n2 : Int) (n3 : Int) (n4 : Int) (n5 : Int) (n6 : Int) (n7 : Int) (n8 : Int) (k0 : Bool → Prop) : Prop where
  run : f91_d s1 n2 n3 n4 n5 n6 n7 n8 k0
noncomputable def f91_tab : List (Nat × Told) := []
noncomputable def f91_call : FuncId → List TV → List Entry → (TV → List Entry → Prop) → Prop := noCalls
noncomputable def f91_C : Ctx := { ty := tyOf tab, glob := glob, byRef := byRef, keep := fun k i => lookN [] (lookN [] ([] : List (Nat × List (Nat × List Nat))) k) i, late := lookN [] ([] : List (Nat × List Nat)), nref := lookN [] ([] : List (Nat × List Nat)), nbox := lookN [] ([] : List (Nat × List (Nat × Nat))), take := [], rnil := false, m := 0, fz := true, loops := lookL f91_tab, call := f91_call }
noncomputable def f91_G0 : List TV → List Entry → (TV → List Entry → Prop) → Prop := fun tm hp K => getS [.v (.pagg [.str, .int .i64, .int .i64, .int .i64, .int .i64]), .v (.one (.int .i64)), .v (.one (.int .i64)), .v (.one (.int .i64))] [] tm hp fun (xx : ((ByteArray × (Int × (Int × (Int × (Int × Unit))))) × (Int × (Int × (Int × Unit))))) (yy : Unit) => f91 xx.1.1 xx.1.2.1 xx.1.2.2.1 xx.1.2.2.2.1 xx.1.2.2.2.2.1 xx.2.1 xx.2.2.1 xx.2.2.2.1 (fun b0_0 => K (B b0_0) [])
set_option maxRecDepth 100000 in
theorem f91_eq (s_1 : ByteArray) (n_2 : Int) (n_3 : Int) (n_4 : Int) (n_5 : Int) (n_6 : Int) (n_7 : Int) (n_8 : Int) (K : TV → List Entry → Prop) : (f91_d s_1 n_2 n_3 n_4 n_5 n_6 n_7 n_8 (fun b0_0 => K (B b0_0) [])) = funcT f91_C Tryd.f91 [.w (.pagg [pS s_1, pI n_2, pI n_3, pI n_4, pI n_5]), I n_6, I n_7, I n_8] [] K := by kernel_rfl
set_option maxHeartbeats 4000000 in
theorem f91_ok0 : FnOk Tryd.prog glob 91 f91_G0 := by
  refine FnOk.of_text (C := f91_C) tab_ok.ok (Known.none) follows_ok (fn := Tryd.f91) (by kernel_rfl) (by kernel_rfl) (by kernel_rfl) (fun c hc => ?_) fun tm hp K h => ?_
  · have e : c = bodyOf Tryd.f91 := Option.some.inj (hc.symm.trans (by kernel_rfl))
    subst e
    exact ⟨LoopsOk.of [] (by kernel_rfl) trivial, TailsOk.of (tab := f91_tab) rfl [] (by kernel_rfl) trivial⟩
  · unfold f91_G0 at h
    obtain ⟨xx, yy, rfl, rfl, h⟩ := getS_elim h
    have e := (f91_eq xx.1.1 xx.1.2.1 xx.1.2.2.1 xx.1.2.2.2.1 xx.1.2.2.2.2.1 xx.2.1 xx.2.2.1 xx.2.2.2.1 K).trans (show _ = funcT f91_C Tryd.f91 (mkR _ xx) (mkE _ yy) K by kernel_rfl)
    rw [← e]
    exact h.run
noncomputable abbrev f91_G := f91_G0
theorem f91_G_ok : FnOk Tryd.prog glob 91 f91_G := f91_ok0
end Go.Eng.N
set_option linter.unusedVariables false
set_option maxRecDepth 100000
open Go Go.Eng Go.Proofs
namespace Go.Eng.N
/-! ### f97: slices.Index(()string,string) -/
noncomputable def f97_p4b0 (es4 : List (List PC)) (full5 : Bool) (s6 : ByteArray) (n7 : Int) (n8 : Int) (N0 : Int → Prop) (k0 : Int → Prop) (k1 : Unit → Prop) : Prop := bB (decide (n8 < n7)) ((0 ≤ n8 ∧ n8 < ((es4.length : Nat) : Int)) ∧ oS (ext (List.getD es4 (Int.toNat n8) []) 0 1) fun s9 => bB (s6.toList == s9.toList) (k0 n8) (N0 (w64 (n8 + 1)))) (k1 ())
noncomputable def f97_p4 (es4 : List (List PC)) (full5 : Bool) (s6 : ByteArray) (n7 : Int) (k0 : Int → Prop) (k1 : Unit → Prop) : Int → Prop := LoopP fun x N => f97_p4b0 es4 full5 s6 n7 x (fun n8 => N n8) k0 k1
noncomputable def f97_d (es1 : List (List PC)) (full2 : Bool) (s3 : ByteArray) (k0 : Int → Prop) : Prop := f97_p4 es1 full2 s3 ((es1.length : Nat) : Int) (fun n10 => k0 n10) (fun (_ : Unit) => k0 (-1)) 0
structure f97 (es1 : List (List PC)) (full2 : Bool) (s3 : ByteArray) (k0 : Int → Prop) : Prop where
  run : f97_d es1 full2 s3 k0
noncomputable def f97_p4L : Told := fun s K => match s with
  | ⟨tm, hp⟩ => getS [.v (.one (.sl 1)), .v (.one (.str)), .skip 5, .v (.one (.int .i64)), .v (.one (.int .i64)), .skip 10] [] tm hp fun (xx : ((List (List PC) × Bool) × (ByteArray × (Unit × (Int × (Int × (Unit × Unit))))))) (yy : Unit) => f97_p4 xx.1.1 xx.1.2 xx.2.1 xx.2.2.2.1 (fun n0_0 => K .ret ⟨mkS 19 [(4, I n0_0)], []⟩) (fun (_ : Unit) => K (.exit 0) ⟨mkS 19 [], []⟩) xx.2.2.2.2.1
noncomputable def f97_tab : List (Nat × Told) := [(4, f97_p4L)]
noncomputable def f97_call : FuncId → List TV → List Entry → (TV → List Entry → Prop) → Prop := noCalls
noncomputable def f97_C : Ctx := { ty := tyOf tab, glob := glob, byRef := byRef, keep := fun k i => lookN [] (lookN [] ([(4, [(0, [0, 1, 7, 8]), (2, [4]), (3, [])])] : List (Nat × List (Nat × List Nat))) k) i, late := lookN [] ([] : List (Nat × List Nat)), nref := lookN [] ([] : List (Nat × List Nat)), nbox := lookN [] ([] : List (Nat × List (Nat × Nat))), take := [], rnil := false, m := 0, fz := true, loops := lookL f97_tab, call := f97_call }
noncomputable def f97_p4_mk (es4 : List (List PC)) (full5 : Bool) (s6 : ByteArray) (n7 : Int) (x : Int) : St := ⟨mkS 19 [(0, .w (.one (.p (.sl 1 es4 full5)))), (1, S s6), (7, I n7), (8, I x)], []⟩
set_option maxRecDepth 100000 in
theorem f97_p4e0 (es_7 : List (List PC)) (full_8 : Bool) (s_9 : ByteArray) (n_10 : Int) (n_11 : Int) (N : St → Prop) (K : TExit → St → Prop) : (f97_p4b0 es_7 full_8 s_9 n_10 n_11 (fun z4 => N (f97_p4_mk es_7 full_8 s_9 n_10 z4)) (fun n0_12 => K .ret ⟨mkS 19 [(4, I n0_12)], []⟩) (fun (_ : Unit) => K (.exit 0) ⟨mkS 19 [], []⟩)) = execT f97_C (nthC (bodies (bodyOf Tryd.f97)) 0) (f97_p4_mk es_7 full_8 s_9 n_10 n_11) (loopK N (normK f97_C 4) fun e s => K e (normOut f97_C 4 e s)) := by kernel_rfl
set_option maxHeartbeats 4000000 in
theorem f97_p4_ok : LoopOk f97_C (nthC (bodies (bodyOf Tryd.f97)) 0) := by
  refine LoopOk.of f97_p4L (by kernel_rfl) fun σ K h => ?_
  have hk : loopKey (nthC (bodies (bodyOf Tryd.f97)) 0) = 4 := by kernel_rfl
  rw [hk] at h ⊢
  generalize hs : normK f97_C 4 σ = s at h
  obtain ⟨tm, hp⟩ := s
  unfold f97_p4L at h
  dsimp only at h
  obtain ⟨xx, yy, rfl, rfl, h⟩ := getS_elim h
  refine iter_of (f97_p4_mk xx.1.1 xx.1.2 xx.2.1 xx.2.2.2.1) (fun x N h => ?_) rounds _ σ (hs.trans (by kernel_rfl)) (LoopP.run h)
  rw [← f97_p4e0 xx.1.1 xx.1.2 xx.2.1 xx.2.2.2.1 x N K]
  exact h
noncomputable def f97_G0 : List TV → List Entry → (TV → List Entry → Prop) → Prop := fun tm hp K => getS [.v (.one (.sl 1)), .v (.one (.str))] [] tm hp fun (xx : ((List (List PC) × Bool) × (ByteArray × Unit))) (yy : Unit) => f97 xx.1.1 xx.1.2 xx.2.1 (fun n0_1 => K (I n0_1) [])
set_option maxRecDepth 100000 in
theorem f97_eq (es_13 : List (List PC)) (full_14 : Bool) (s_15 : ByteArray) (K : TV → List Entry → Prop) : (f97_d es_13 full_14 s_15 (fun n0_1 => K (I n0_1) [])) = funcT f97_C Tryd.f97 [.w (.one (.p (.sl 1 es_13 full_14))), S s_15] [] K := by kernel_rfl
set_option maxHeartbeats 4000000 in
theorem f97_ok0 : FnOk Tryd.prog glob 97 f97_G0 := by
  refine FnOk.of_text (C := f97_C) tab_ok.ok (Known.none) follows_ok (fn := Tryd.f97) (by kernel_rfl) (by kernel_rfl) (by kernel_rfl) (fun c hc => ?_) fun tm hp K h => ?_
  · have e : c = bodyOf Tryd.f97 := Option.some.inj (hc.symm.trans (by kernel_rfl))
    subst e
    exact ⟨LoopsOk.of [nthC (bodies (bodyOf Tryd.f97)) 0] (by kernel_rfl) ⟨f97_p4_ok, trivial⟩, TailsOk.of (tab := f97_tab) rfl [] (by kernel_rfl) trivial⟩
  · unfold f97_G0 at h
    obtain ⟨xx, yy, rfl, rfl, h⟩ := getS_elim h
    have e := (f97_eq xx.1.1 xx.1.2 xx.2.1 K).trans (show _ = funcT f97_C Tryd.f97 (mkR _ xx) (mkE _ yy) K by kernel_rfl)
    rw [← e]
    exact h.run
noncomputable abbrev f97_G := f97_G0
theorem f97_G_ok : FnOk Tryd.prog glob 97 f97_G := f97_ok0
end Go.Eng.N
set_option linter.unusedVariables false
set_option maxRecDepth 100000
open Go Go.Eng Go.Proofs
namespace Go.Eng.N
/-! ### f92: slices.Contains(()string,string) -/
noncomputable def f92_d (es1 : List (List PC)) (full2 : Bool) (s3 : ByteArray) (k0 : Bool → Prop) : Prop := f97 es1 full2 s3 (fun n4 => k0 (decide (n4 ≥ 0)))
structure f92 (es1 : List (List PC)) (full2 : Bool) (s3 : ByteArray) (k0 : Bool → Prop) : Prop where
  run : f92_d es1 full2 s3 k0
noncomputable def f92_tab : List (Nat × Told) := []
noncomputable def f92_call : FuncId → List TV → List Entry → (TV → List Entry → Prop) → Prop := addCall 97 f97_G (noCalls)
noncomputable def f92_C : Ctx := { ty := tyOf tab, glob := glob, byRef := byRef, keep := fun k i => lookN [] (lookN [] ([] : List (Nat × List (Nat × List Nat))) k) i, late := lookN [] ([] : List (Nat × List Nat)), nref := lookN [] ([] : List (Nat × List Nat)), nbox := lookN [] ([] : List (Nat × List (Nat × Nat))), take := [], rnil := false, m := 0, fz := true, loops := lookL f92_tab, call := f92_call }
noncomputable def f92_G0 : List TV → List Entry → (TV → List Entry → Prop) → Prop := fun tm hp K => getS [.v (.one (.sl 1)), .v (.one (.str))] [] tm hp fun (xx : ((List (List PC) × Bool) × (ByteArray × Unit))) (yy : Unit) => f92 xx.1.1 xx.1.2 xx.2.1 (fun b0_0 => K (B b0_0) [])
set_option maxRecDepth 100000 in
theorem f92_eq (es_1 : List (List PC)) (full_2 : Bool) (s_3 : ByteArray) (K : TV → List Entry → Prop) : (f92_d es_1 full_2 s_3 (fun b0_0 => K (B b0_0) [])) = funcT f92_C Tryd.f92 [.w (.one (.p (.sl 1 es_1 full_2))), S s_3] [] K := by kernel_rfl
set_option maxHeartbeats 4000000 in
theorem f92_ok0 : FnOk Tryd.prog glob 92 f92_G0 := by
  refine FnOk.of_text (C := f92_C) tab_ok.ok (Known.add f97_G_ok (Known.none)) follows_ok (fn := Tryd.f92) (by kernel_rfl) (by kernel_rfl) (by kernel_rfl) (fun c hc => ?_) fun tm hp K h => ?_
  · have e : c = bodyOf Tryd.f92 := Option.some.inj (hc.symm.trans (by kernel_rfl))
    subst e
    exact ⟨LoopsOk.of [] (by kernel_rfl) trivial, TailsOk.of (tab := f92_tab) rfl [] (by kernel_rfl) trivial⟩
  · unfold f92_G0 at h
    obtain ⟨xx, yy, rfl, rfl, h⟩ := getS_elim h
    have e := (f92_eq xx.1.1 xx.1.2 xx.2.1 K).trans (show _ = funcT f92_C Tryd.f92 (mkR _ xx) (mkE _ yy) K by kernel_rfl)
    rw [← e]
    exact h.run
noncomputable abbrev f92_G := f92_G0
theorem f92_G_ok : FnOk Tryd.prog glob 92 f92_G := f92_ok0
end Go.Eng.N
set_option linter.unusedVariables false
set_option maxRecDepth 100000
open Go Go.Eng Go.Proofs
namespace Go.Eng.N
/-! ### f52: plenum/notify.told -/
noncomputable def f52_p10b0 (n8 : Int) (n9 : Int) (n10 : Int) (i11 : Nat) (n12 : Nat) (es13 : List (List PC)) (full14 : Bool) (n15 : Int) (n16 : Int) (es17 : List (List PC)) (N0 : Nat → Nat → Int → (List (List PC)) → Prop) (k0 : Nat → Nat → (List (List PC)) → Prop) : Prop := bB (decide (n16 < n15)) ((0 ≤ n16 ∧ n16 < ((es13.length : Nat) : Int)) ∧ cS (ext (List.getD es13 (Int.toNat n16) []) 0 5) fun s19 r18 => cI .i64 r18 fun n21 r20 => cI .i64 r20 fun n23 r22 => cI .i64 r22 fun n25 r24 => cI .i64 r24 fun n27 r26 => nilC r26 <| f59 n8 (fun n28 => f91 s19 n21 n23 n25 n27 n9 n10 n28 (fun b29 => bB b29 (f92 (List.take n12 (List.drop i11 es17)) false s19 (fun b30 => bB (!b30) ((i11 + n12) = es17.length ∧ (n12 + 1) * 16 ≤ 2 ^ 46 ∧ (n12 + 1) ≤ 2 ^ 46 ∧ N0 0 (n12 + 1) (w64 (n16 + 1)) (List.drop i11 es17 ++ [[pS s19]])) (N0 i11 n12 (w64 (n16 + 1)) es17))) (N0 i11 n12 (w64 (n16 + 1)) es17)))) (k0 i11 n12 es17)
noncomputable def f52_p10 (n8 : Int) (n9 : Int) (n10 : Int) (es13 : List (List PC)) (full14 : Bool) (n15 : Int) (k0 : Nat → Nat → (List (List PC)) → Prop) : Nat × Nat × Int × (List (List PC)) → Prop := LoopP fun x N => f52_p10b0 n8 n9 n10 x.1 x.2.1 es13 full14 n15 x.2.2.1 x.2.2.2 (fun i11 n12 n16 es17 => N (i11, n12, n16, es17)) k0
noncomputable def f52_d (s1 : ByteArray) (n2 : Int) (n3 : Int) (es4 : List (List PC)) (full5 : Bool) (n6 : Int) (n7 : Int) (k0 : (List (List PC)) → Bool → Prop) : Prop := (86400 : Int) ≠ 0 ∧ (7 : Int) ≠ 0 ∧ (86400 : Int) ≠ 0 ∧ (60 : Int) ≠ 0 ∧ f52_p10 n7 (w64 ((Int.tmod (w64 ((w64 (Int.tdiv n6 86400)) + 5)) 7) + 1)) (w64 (Int.tdiv (Int.tmod n6 86400) 60)) es4 full5 ((es4.length : Nat) : Int) (fun i31 n32 es33 => k0 (List.take n32 (List.drop i31 es33)) false) (0, 0, 0, [])
structure f52 (s1 : ByteArray) (n2 : Int) (n3 : Int) (es4 : List (List PC)) (full5 : Bool) (n6 : Int) (n7 : Int) (k0 : (List (List PC)) → Bool → Prop) : Prop where
  run : f52_d s1 n2 n3 es4 full5 n6 n7 k0
noncomputable def f52_p10L : Told := fun s K => match s with
  | ⟨tm, hp⟩ => getS [.skip 2, .v (.one (.int .i64)), .skip 4, .v (.one (.int .i64)), .v (.one (.int .i64)), .v (.one (.ref 0)), .skip 11, .v (.one (.sl 5)), .v (.one (.int .i64)), .v (.one (.int .i64)), .skip 23] [.vec 1 true] tm hp fun (xx : (Unit × (Int × (Unit × (Int × (Int × ((Nat × Nat) × (Unit × ((List (List PC) × Bool) × (Int × (Int × (Unit × Unit)))))))))))) (yy : ((List (List PC)) × Unit)) => f52_p10 xx.2.1 xx.2.2.2.1 xx.2.2.2.2.1 xx.2.2.2.2.2.2.2.1.1 xx.2.2.2.2.2.2.2.1.2 xx.2.2.2.2.2.2.2.2.1 (fun i0_0 n0_1 es0_2 => K (.exit 0) ⟨mkS 47 [(9, .w (.one (.ref 0 i0_0 n0_1)))], [.vec 1 es0_2 true]⟩) (xx.2.2.2.2.2.1.1, xx.2.2.2.2.2.1.2, xx.2.2.2.2.2.2.2.2.2.1, yy.1)
noncomputable def f52_tab : List (Nat × Told) := [(10, f52_p10L)]
noncomputable def f52_call : FuncId → List TV → List Entry → (TV → List Entry → Prop) → Prop := addCall 92 f92_G (addCall 91 f91_G (addCall 59 f59_G (noCalls)))
noncomputable def f52_C : Ctx := { ty := tyOf tab, glob := glob, byRef := byRef, keep := fun k i => lookN [] (lookN [] ([(10, [(0, [2, 7, 8, 9, 21, 22, 23]), (2, [6]), (3, [9])])] : List (Nat × List (Nat × List Nat))) k) i, late := lookN [] ([] : List (Nat × List Nat)), nref := lookN [] ([(10, [9])] : List (Nat × List Nat)), nbox := lookN [] ([] : List (Nat × List (Nat × Nat))), take := [], rnil := false, m := 0, fz := true, loops := lookL f52_tab, call := f52_call }
noncomputable def f52_p10_mk (n8 : Int) (n9 : Int) (n10 : Int) (es13 : List (List PC)) (full14 : Bool) (n15 : Int) (x : Nat × Nat × Int × (List (List PC))) : St := ⟨mkS 47 [(2, I n8), (7, I n9), (8, I n10), (9, .w (.one (.ref 0 x.1 x.2.1))), (21, .w (.one (.p (.sl 5 es13 full14)))), (22, I n15), (23, I x.2.2.1)], [.vec 1 x.2.2.2 true]⟩
set_option maxRecDepth 100000 in
theorem f52_p10e0 (n_15 : Int) (n_16 : Int) (n_17 : Int) (i_18 : Nat) (n_19 : Nat) (es_20 : List (List PC)) (full_21 : Bool) (n_22 : Int) (n_23 : Int) (es_24 : List (List PC)) (N : St → Prop) (K : TExit → St → Prop) : (f52_p10b0 n_15 n_16 n_17 i_18 n_19 es_20 full_21 n_22 n_23 es_24 (fun z3 z4 z8 z9 => N (f52_p10_mk n_15 n_16 n_17 es_20 full_21 n_22 (z3, z4, z8, z9))) (fun i0_25 n0_26 es0_27 => K (.exit 0) ⟨mkS 47 [(9, .w (.one (.ref 0 i0_25 n0_26)))], [.vec 1 es0_27 true]⟩)) = execT f52_C (nthC (bodies (bodyOf Tryd.f52)) 0) (f52_p10_mk n_15 n_16 n_17 es_20 full_21 n_22 (i_18, n_19, n_23, es_24)) (loopK N (normK f52_C 10) fun e s => K e (normOut f52_C 10 e s)) := by kernel_rfl
set_option maxHeartbeats 4000000 in
theorem f52_p10_ok : LoopOk f52_C (nthC (bodies (bodyOf Tryd.f52)) 0) := by
  refine LoopOk.of f52_p10L (by kernel_rfl) fun σ K h => ?_
  have hk : loopKey (nthC (bodies (bodyOf Tryd.f52)) 0) = 10 := by kernel_rfl
  rw [hk] at h ⊢
  generalize hs : normK f52_C 10 σ = s at h
  obtain ⟨tm, hp⟩ := s
  unfold f52_p10L at h
  dsimp only at h
  obtain ⟨xx, yy, rfl, rfl, h⟩ := getS_elim h
  refine iter_of (f52_p10_mk xx.2.1 xx.2.2.2.1 xx.2.2.2.2.1 xx.2.2.2.2.2.2.2.1.1 xx.2.2.2.2.2.2.2.1.2 xx.2.2.2.2.2.2.2.2.1) (fun x N h => ?_) rounds _ σ (hs.trans (by kernel_rfl)) (LoopP.run h)
  obtain ⟨y0, y1, y2, y3⟩ := x
  rw [← f52_p10e0 xx.2.1 xx.2.2.2.1 xx.2.2.2.2.1 y0 y1 xx.2.2.2.2.2.2.2.1.1 xx.2.2.2.2.2.2.2.1.2 xx.2.2.2.2.2.2.2.2.1 y2 y3 N K]
  exact h
noncomputable def f52_G0 : List TV → List Entry → (TV → List Entry → Prop) → Prop := fun tm hp K => getS [.v (.pagg [.str, .int .i64, .int .i64, .sl 5]), .v (.one (.int .i64)), .v (.one (.int .i64))] [] tm hp fun (xx : ((ByteArray × (Int × (Int × ((List (List PC) × Bool) × Unit)))) × (Int × (Int × Unit)))) (yy : Unit) => f52 xx.1.1 xx.1.2.1 xx.1.2.2.1 xx.1.2.2.2.1.1 xx.1.2.2.2.1.2 xx.2.1 xx.2.2.1 (fun es0_3 full0_4 => K (.w (.one (.p (.sl 1 es0_3 full0_4)))) [])
set_option maxRecDepth 100000 in
theorem f52_eq (s_28 : ByteArray) (n_29 : Int) (n_30 : Int) (es_31 : List (List PC)) (full_32 : Bool) (n_33 : Int) (n_34 : Int) (K : TV → List Entry → Prop) : (f52_d s_28 n_29 n_30 es_31 full_32 n_33 n_34 (fun es0_3 full0_4 => K (.w (.one (.p (.sl 1 es0_3 full0_4)))) [])) = funcT f52_C Tryd.f52 [.w (.pagg [pS s_28, pI n_29, pI n_30, .sl 5 es_31 full_32]), I n_33, I n_34] [] K := by kernel_rfl
set_option maxHeartbeats 4000000 in
theorem f52_ok0 : FnOk Tryd.prog glob 52 f52_G0 := by
  refine FnOk.of_text (C := f52_C) tab_ok.ok (Known.add f92_G_ok (Known.add f91_G_ok (Known.add f59_G_ok (Known.none)))) follows_ok (fn := Tryd.f52) (by kernel_rfl) (by kernel_rfl) (by kernel_rfl) (fun c hc => ?_) fun tm hp K h => ?_
  · have e : c = bodyOf Tryd.f52 := Option.some.inj (hc.symm.trans (by kernel_rfl))
    subst e
    exact ⟨LoopsOk.of [nthC (bodies (bodyOf Tryd.f52)) 0] (by kernel_rfl) ⟨f52_p10_ok, trivial⟩, TailsOk.of (tab := f52_tab) rfl [] (by kernel_rfl) trivial⟩
  · unfold f52_G0 at h
    obtain ⟨xx, yy, rfl, rfl, h⟩ := getS_elim h
    have e := (f52_eq xx.1.1 xx.1.2.1 xx.1.2.2.1 xx.1.2.2.2.1.1 xx.1.2.2.2.1.2 xx.2.1 xx.2.2.1 K).trans (show _ = funcT f52_C Tryd.f52 (mkR _ xx) (mkE _ yy) K by kernel_rfl)
    rw [← e]
    exact h.run
noncomputable abbrev f52_G := f52_G0
theorem f52_G_ok : FnOk Tryd.prog glob 52 f52_G := f52_ok0
end Go.Eng.N
set_option linter.unusedVariables false
set_option maxRecDepth 100000
open Go Go.Eng Go.Proofs
namespace Go.Eng.N
/-! ### f55: plenum/notify.notices -/
noncomputable def f55_p6b0 (i15 : Nat) (n16 : Nat) (es17 : List (List PC)) (full18 : Bool) (n19 : Int) (n20 : Int) (s21 : ByteArray) (n22 : Int) (n23 : Int) (es24 : List (List PC)) (full25 : Bool) (n26 : Int) (s27 : ByteArray) (n28 : Int) (n29 : Int) (n30 : Int) (n31 : Int) (n32 : Int) (es33 : List (List PC)) (N0 : Nat → Nat → Int → (List (List PC)) → Prop) (k0 : Nat → Nat → (List (List PC)) → Prop) : Prop := bB (decide (n20 < n19)) ((0 ≤ n20 ∧ n20 < ((es17.length : Nat) : Int)) ∧ oS (ext (List.getD es17 (Int.toNat n20) []) 0 1) fun s34 => f59 n30 (fun n35 => (i15 + n16) = es33.length ∧ (n16 + 1) * 96 ≤ 2 ^ 46 ∧ (n16 + 1) ≤ 2 ^ 46 ∧ N0 0 (n16 + 1) (w64 (n20 + 1)) (List.drop i15 es33 ++ [[pS s34, pI n26, pS s27, pI n28, pI n29, pI n30, pI n31, pI n32, pI n22, pB ((IntKind.wrap .i64 (BitVec.toNat (BitVec.ofInt 64 n23 &&& BitVec.ofInt 64 n35))) != 0)]]))) (k0 i15 n16 es33)
noncomputable def f55_p6 (es17 : List (List PC)) (full18 : Bool) (n19 : Int) (s21 : ByteArray) (n22 : Int) (n23 : Int) (es24 : List (List PC)) (full25 : Bool) (n26 : Int) (s27 : ByteArray) (n28 : Int) (n29 : Int) (n30 : Int) (n31 : Int) (n32 : Int) (k0 : Nat → Nat → (List (List PC)) → Prop) : Nat × Nat × Int × (List (List PC)) → Prop := LoopP fun x N => f55_p6b0 x.1 x.2.1 es17 full18 n19 x.2.2.1 s21 n22 n23 es24 full25 n26 s27 n28 n29 n30 n31 n32 x.2.2.2 (fun i15 n16 n20 es33 => N (i15, n16, n20, es33)) k0
noncomputable def f55_d (s1 : ByteArray) (n2 : Int) (n3 : Int) (es4 : List (List PC)) (full5 : Bool) (n6 : Int) (s7 : ByteArray) (n8 : Int) (n9 : Int) (n10 : Int) (n11 : Int) (n12 : Int) (k0 : (List (List PC)) → Bool → Prop) : Prop := f52 s1 n2 n3 es4 full5 n8 n10 (fun es13 full14 => f55_p6 es13 full14 ((es13.length : Nat) : Int) s1 n2 n3 es4 full5 n6 s7 n8 n9 n10 n11 n12 (fun i36 n37 es38 => k0 (List.take n37 (List.drop i36 es38)) false) (0, 0, 0, []))
structure f55 (s1 : ByteArray) (n2 : Int) (n3 : Int) (es4 : List (List PC)) (full5 : Bool) (n6 : Int) (s7 : ByteArray) (n8 : Int) (n9 : Int) (n10 : Int) (n11 : Int) (n12 : Int) (k0 : (List (List PC)) → Bool → Prop) : Prop where
  run : f55_d s1 n2 n3 es4 full5 n6 s7 n8 n9 n10 n11 n12 k0
noncomputable def f55_p6L : Told := fun s K => match s with
  | ⟨tm, hp⟩ => getS [.skip 2, .v (.one (.ptr 0 0 0)), .v (.one (.ptr 1 0 0)), .skip 1, .v (.one (.ref 2)), .skip 7, .v (.one (.sl 1)), .v (.one (.int .i64)), .v (.one (.int .i64)), .skip 20] [.box [.str, .int .i64, .int .i64, .sl 5], .box [.int .i64, .str, .int .i64, .int .i64, .int .i64, .int .i64, .int .i64], .vec 10 true] tm hp fun (xx : (Unit × (Unit × (Unit × (Unit × ((Nat × Nat) × (Unit × ((List (List PC) × Bool) × (Int × (Int × (Unit × Unit))))))))))) (yy : ((ByteArray × (Int × (Int × ((List (List PC) × Bool) × Unit)))) × ((Int × (ByteArray × (Int × (Int × (Int × (Int × (Int × Unit))))))) × ((List (List PC)) × Unit)))) => f55_p6 xx.2.2.2.2.2.2.1.1 xx.2.2.2.2.2.2.1.2 xx.2.2.2.2.2.2.2.1 yy.1.1 yy.1.2.1 yy.1.2.2.1 yy.1.2.2.2.1.1 yy.1.2.2.2.1.2 yy.2.1.1 yy.2.1.2.1 yy.2.1.2.2.1 yy.2.1.2.2.2.1 yy.2.1.2.2.2.2.1 yy.2.1.2.2.2.2.2.1 yy.2.1.2.2.2.2.2.2.1 (fun i0_0 n0_1 es0_2 => K (.exit 0) ⟨mkS 36 [(5, .w (.one (.ref 0 i0_0 n0_1)))], [.vec 10 es0_2 true]⟩) (xx.2.2.2.2.1.1, xx.2.2.2.2.1.2, xx.2.2.2.2.2.2.2.2.1, yy.2.2.1)
noncomputable def f55_tab : List (Nat × Told) := [(6, f55_p6L)]
noncomputable def f55_call : FuncId → List TV → List Entry → (TV → List Entry → Prop) → Prop := addCall 59 f59_G (addCall 52 f52_G (noCalls))
noncomputable def f55_C : Ctx := { ty := tyOf tab, glob := glob, byRef := byRef, keep := fun k i => lookN [] (lookN [] ([(6, [(0, [2, 3, 5, 13, 14, 15]), (2, [4]), (3, [5])])] : List (Nat × List (Nat × List Nat))) k) i, late := lookN [] ([] : List (Nat × List Nat)), nref := lookN [] ([(6, [5])] : List (Nat × List Nat)), nbox := lookN [] ([] : List (Nat × List (Nat × Nat))), take := [], rnil := false, m := 0, fz := true, loops := lookL f55_tab, call := f55_call }
noncomputable def f55_p6_mk (es17 : List (List PC)) (full18 : Bool) (n19 : Int) (s21 : ByteArray) (n22 : Int) (n23 : Int) (es24 : List (List PC)) (full25 : Bool) (n26 : Int) (s27 : ByteArray) (n28 : Int) (n29 : Int) (n30 : Int) (n31 : Int) (n32 : Int) (x : Nat × Nat × Int × (List (List PC))) : St := ⟨mkS 36 [(2, .w (.one (.ptr 0 0 0))), (3, .w (.one (.ptr 1 0 0))), (5, .w (.one (.ref 2 x.1 x.2.1))), (13, .w (.one (.p (.sl 1 es17 full18)))), (14, I n19), (15, I x.2.2.1)], [.box [.p (pS s21), .p (pI n22), .p (pI n23), .p (.sl 5 es24 full25)], .box [.p (pI n26), .p (pS s27), .p (pI n28), .p (pI n29), .p (pI n30), .p (pI n31), .p (pI n32)], .vec 10 x.2.2.2 true]⟩
set_option maxRecDepth 100000 in
theorem f55_p6e0 (i_24 : Nat) (n_25 : Nat) (es_26 : List (List PC)) (full_27 : Bool) (n_28 : Int) (n_29 : Int) (s_30 : ByteArray) (n_31 : Int) (n_32 : Int) (es_33 : List (List PC)) (full_34 : Bool) (n_35 : Int) (s_36 : ByteArray) (n_37 : Int) (n_38 : Int) (n_39 : Int) (n_40 : Int) (n_41 : Int) (es_42 : List (List PC)) (N : St → Prop) (K : TExit → St → Prop) : (f55_p6b0 i_24 n_25 es_26 full_27 n_28 n_29 s_30 n_31 n_32 es_33 full_34 n_35 s_36 n_37 n_38 n_39 n_40 n_41 es_42 (fun z0 z1 z5 z18 => N (f55_p6_mk es_26 full_27 n_28 s_30 n_31 n_32 es_33 full_34 n_35 s_36 n_37 n_38 n_39 n_40 n_41 (z0, z1, z5, z18))) (fun i0_43 n0_44 es0_45 => K (.exit 0) ⟨mkS 36 [(5, .w (.one (.ref 0 i0_43 n0_44)))], [.vec 10 es0_45 true]⟩)) = execT f55_C (nthC (bodies (bodyOf Tryd.f55)) 0) (f55_p6_mk es_26 full_27 n_28 s_30 n_31 n_32 es_33 full_34 n_35 s_36 n_37 n_38 n_39 n_40 n_41 (i_24, n_25, n_29, es_42)) (loopK N (normK f55_C 6) fun e s => K e (normOut f55_C 6 e s)) := by kernel_rfl
set_option maxHeartbeats 4000000 in
theorem f55_p6_ok : LoopOk f55_C (nthC (bodies (bodyOf Tryd.f55)) 0) := by
  refine LoopOk.of f55_p6L (by kernel_rfl) fun σ K h => ?_
  have hk : loopKey (nthC (bodies (bodyOf Tryd.f55)) 0) = 6 := by kernel_rfl
  rw [hk] at h ⊢
  generalize hs : normK f55_C 6 σ = s at h
  obtain ⟨tm, hp⟩ := s
  unfold f55_p6L at h
  dsimp only at h
  obtain ⟨xx, yy, rfl, rfl, h⟩ := getS_elim h
  refine iter_of (f55_p6_mk xx.2.2.2.2.2.2.1.1 xx.2.2.2.2.2.2.1.2 xx.2.2.2.2.2.2.2.1 yy.1.1 yy.1.2.1 yy.1.2.2.1 yy.1.2.2.2.1.1 yy.1.2.2.2.1.2 yy.2.1.1 yy.2.1.2.1 yy.2.1.2.2.1 yy.2.1.2.2.2.1 yy.2.1.2.2.2.2.1 yy.2.1.2.2.2.2.2.1 yy.2.1.2.2.2.2.2.2.1) (fun x N h => ?_) rounds _ σ (hs.trans (by kernel_rfl)) (LoopP.run h)
  obtain ⟨y0, y1, y2, y3⟩ := x
  rw [← f55_p6e0 y0 y1 xx.2.2.2.2.2.2.1.1 xx.2.2.2.2.2.2.1.2 xx.2.2.2.2.2.2.2.1 y2 yy.1.1 yy.1.2.1 yy.1.2.2.1 yy.1.2.2.2.1.1 yy.1.2.2.2.1.2 yy.2.1.1 yy.2.1.2.1 yy.2.1.2.2.1 yy.2.1.2.2.2.1 yy.2.1.2.2.2.2.1 yy.2.1.2.2.2.2.2.1 yy.2.1.2.2.2.2.2.2.1 y3 N K]
  exact h
noncomputable def f55_G0 : List TV → List Entry → (TV → List Entry → Prop) → Prop := fun tm hp K => getS [.v (.pagg [.str, .int .i64, .int .i64, .sl 5]), .v (.pagg [.int .i64, .str, .int .i64, .int .i64, .int .i64, .int .i64, .int .i64])] [] tm hp fun (xx : ((ByteArray × (Int × (Int × ((List (List PC) × Bool) × Unit)))) × ((Int × (ByteArray × (Int × (Int × (Int × (Int × (Int × Unit))))))) × Unit))) (yy : Unit) => f55 xx.1.1 xx.1.2.1 xx.1.2.2.1 xx.1.2.2.2.1.1 xx.1.2.2.2.1.2 xx.2.1.1 xx.2.1.2.1 xx.2.1.2.2.1 xx.2.1.2.2.2.1 xx.2.1.2.2.2.2.1 xx.2.1.2.2.2.2.2.1 xx.2.1.2.2.2.2.2.2.1 (fun es0_3 full0_4 => K (.w (.one (.p (.sl 10 es0_3 full0_4)))) [])
set_option maxRecDepth 100000 in
theorem f55_eq (s_46 : ByteArray) (n_47 : Int) (n_48 : Int) (es_49 : List (List PC)) (full_50 : Bool) (n_51 : Int) (s_52 : ByteArray) (n_53 : Int) (n_54 : Int) (n_55 : Int) (n_56 : Int) (n_57 : Int) (K : TV → List Entry → Prop) : (f55_d s_46 n_47 n_48 es_49 full_50 n_51 s_52 n_53 n_54 n_55 n_56 n_57 (fun es0_3 full0_4 => K (.w (.one (.p (.sl 10 es0_3 full0_4)))) [])) = funcT f55_C Tryd.f55 [.w (.pagg [pS s_46, pI n_47, pI n_48, .sl 5 es_49 full_50]), .w (.pagg [pI n_51, pS s_52, pI n_53, pI n_54, pI n_55, pI n_56, pI n_57])] [] K := by kernel_rfl
set_option maxHeartbeats 4000000 in
theorem f55_ok0 : FnOk Tryd.prog glob 55 f55_G0 := by
  refine FnOk.of_text (C := f55_C) tab_ok.ok (Known.add f59_G_ok (Known.add f52_G_ok (Known.none))) follows_ok (fn := Tryd.f55) (by kernel_rfl) (by kernel_rfl) (by kernel_rfl) (fun c hc => ?_) fun tm hp K h => ?_
  · have e : c = bodyOf Tryd.f55 := Option.some.inj (hc.symm.trans (by kernel_rfl))
    subst e
    exact ⟨LoopsOk.of [nthC (bodies (bodyOf Tryd.f55)) 0] (by kernel_rfl) ⟨f55_p6_ok, trivial⟩, TailsOk.of (tab := f55_tab) rfl [] (by kernel_rfl) trivial⟩
  · unfold f55_G0 at h
    obtain ⟨xx, yy, rfl, rfl, h⟩ := getS_elim h
    have e := (f55_eq xx.1.1 xx.1.2.1 xx.1.2.2.1 xx.1.2.2.2.1.1 xx.1.2.2.2.1.2 xx.2.1.1 xx.2.1.2.1 xx.2.1.2.2.1 xx.2.1.2.2.2.1 xx.2.1.2.2.2.2.1 xx.2.1.2.2.2.2.2.1 xx.2.1.2.2.2.2.2.2.1 K).trans (show _ = funcT f55_C Tryd.f55 (mkR _ xx) (mkE _ yy) K by kernel_rfl)
    rw [← e]
    exact h.run
noncomputable abbrev f55_G := f55_G0
theorem f55_G_ok : FnOk Tryd.prog glob 55 f55_G := f55_ok0
end Go.Eng.N
set_option linter.unusedVariables false
set_option maxRecDepth 100000
open Go Go.Eng Go.Proofs
namespace Go.Eng.N
/-! ### f21: plenum/notify.Notices -/
noncomputable def f21_d (s1 : ByteArray) (n2 : Int) (n3 : Int) (es4 : List (List PC)) (full5 : Bool) (n6 : Int) (s7 : ByteArray) (n8 : Int) (n9 : Int) (n10 : Int) (n11 : Int) (n12 : Int) (k0 : (List (List PC)) → Bool → Int → Prop) : Prop := f16 s1 n2 n3 es4 full5 (fun n13 => bB (n13 != 0) (k0 [] true n13) (f51 n8 n10 (fun n14 => bB (n14 != 0) (k0 [] true n14) (f55 s1 n2 n3 es4 full5 n6 s7 n8 n9 n10 n11 n12 (fun es15 full16 => k0 es15 full16 0)))))
structure f21 (s1 : ByteArray) (n2 : Int) (n3 : Int) (es4 : List (List PC)) (full5 : Bool) (n6 : Int) (s7 : ByteArray) (n8 : Int) (n9 : Int) (n10 : Int) (n11 : Int) (n12 : Int) (k0 : (List (List PC)) → Bool → Int → Prop) : Prop where
  run : f21_d s1 n2 n3 es4 full5 n6 s7 n8 n9 n10 n11 n12 k0
noncomputable def f21_tab : List (Nat × Told) := []
noncomputable def f21_call : FuncId → List TV → List Entry → (TV → List Entry → Prop) → Prop := addCall 55 f55_G (addCall 51 f51_G (addCall 16 f16_G (noCalls)))
noncomputable def f21_C : Ctx := { ty := tyOf tab, glob := glob, byRef := byRef, keep := fun k i => lookN [] (lookN [] ([] : List (Nat × List (Nat × List Nat))) k) i, late := lookN [] ([] : List (Nat × List Nat)), nref := lookN [] ([] : List (Nat × List Nat)), nbox := lookN [] ([] : List (Nat × List (Nat × Nat))), take := [], rnil := false, m := 0, fz := true, loops := lookL f21_tab, call := f21_call }
noncomputable def f21_G0 : List TV → List Entry → (TV → List Entry → Prop) → Prop := fun tm hp K => getS [.v (.pagg [.str, .int .i64, .int .i64, .sl 5]), .v (.pagg [.int .i64, .str, .int .i64, .int .i64, .int .i64, .int .i64, .int .i64])] [] tm hp fun (xx : ((ByteArray × (Int × (Int × ((List (List PC) × Bool) × Unit)))) × ((Int × (ByteArray × (Int × (Int × (Int × (Int × (Int × Unit))))))) × Unit))) (yy : Unit) => f21 xx.1.1 xx.1.2.1 xx.1.2.2.1 xx.1.2.2.2.1.1 xx.1.2.2.2.1.2 xx.2.1.1 xx.2.1.2.1 xx.2.1.2.2.1 xx.2.1.2.2.2.1 xx.2.1.2.2.2.2.1 xx.2.1.2.2.2.2.2.1 xx.2.1.2.2.2.2.2.2.1 (fun es0_0 full0_1 n0_2 => K (.tup [.one (.p (.sl 10 es0_0 full0_1)), .one (.p (pI n0_2))]) [])
set_option maxRecDepth 100000 in
theorem f21_eq (s_3 : ByteArray) (n_4 : Int) (n_5 : Int) (es_6 : List (List PC)) (full_7 : Bool) (n_8 : Int) (s_9 : ByteArray) (n_10 : Int) (n_11 : Int) (n_12 : Int) (n_13 : Int) (n_14 : Int) (K : TV → List Entry → Prop) : (f21_d s_3 n_4 n_5 es_6 full_7 n_8 s_9 n_10 n_11 n_12 n_13 n_14 (fun es0_0 full0_1 n0_2 => K (.tup [.one (.p (.sl 10 es0_0 full0_1)), .one (.p (pI n0_2))]) [])) = funcT f21_C Tryd.f21 [.w (.pagg [pS s_3, pI n_4, pI n_5, .sl 5 es_6 full_7]), .w (.pagg [pI n_8, pS s_9, pI n_10, pI n_11, pI n_12, pI n_13, pI n_14])] [] K := by kernel_rfl
set_option maxHeartbeats 4000000 in
theorem f21_ok0 : FnOk Tryd.prog glob 21 f21_G0 := by
  refine FnOk.of_text (C := f21_C) tab_ok.ok (Known.add f55_G_ok (Known.add f51_G_ok (Known.add f16_G_ok (Known.none)))) follows_ok (fn := Tryd.f21) (by kernel_rfl) (by kernel_rfl) (by kernel_rfl) (fun c hc => ?_) fun tm hp K h => ?_
  · have e : c = bodyOf Tryd.f21 := Option.some.inj (hc.symm.trans (by kernel_rfl))
    subst e
    exact ⟨LoopsOk.of [] (by kernel_rfl) trivial, TailsOk.of (tab := f21_tab) rfl [] (by kernel_rfl) trivial⟩
  · unfold f21_G0 at h
    obtain ⟨xx, yy, rfl, rfl, h⟩ := getS_elim h
    have e := (f21_eq xx.1.1 xx.1.2.1 xx.1.2.2.1 xx.1.2.2.2.1.1 xx.1.2.2.2.1.2 xx.2.1.1 xx.2.1.2.1 xx.2.1.2.2.1 xx.2.1.2.2.2.1 xx.2.1.2.2.2.2.1 xx.2.1.2.2.2.2.2.1 xx.2.1.2.2.2.2.2.2.1 K).trans (show _ = funcT f21_C Tryd.f21 (mkR _ xx) (mkE _ yy) K by kernel_rfl)
    rw [← e]
    exact h.run
noncomputable abbrev f21_G := f21_G0
theorem f21_G_ok : FnOk Tryd.prog glob 21 f21_G := f21_ok0
end Go.Eng.N
set_option linter.unusedVariables false
set_option maxRecDepth 100000
open Go Go.Eng Go.Proofs
namespace Go.Eng.N
/-! ### f53: plenum/plenumref39.stated -/
noncomputable def f53_d (n1 : Int) (n2 : Int) (k0 : Bool → Prop) : Prop := bB (decide (n1 ≥ 0)) (bB (decide (n1 ≤ 6311433599)) (bB (decide (n2 ≥ 0)) (k0 (decide (n2 ≤ 4))) (k0 false)) (k0 false)) (k0 false)
structure f53 (n1 : Int) (n2 : Int) (k0 : Bool → Prop) : Prop where
  run : f53_d n1 n2 k0
noncomputable def f53_tab : List (Nat × Told) := []
noncomputable def f53_call : FuncId → List TV → List Entry → (TV → List Entry → Prop) → Prop := noCalls
noncomputable def f53_C : Ctx := { ty := tyOf tab, glob := glob, byRef := byRef, keep := fun k i => lookN [] (lookN [] ([] : List (Nat × List (Nat × List Nat))) k) i, late := lookN [] ([] : List (Nat × List Nat)), nref := lookN [] ([] : List (Nat × List Nat)), nbox := lookN [] ([] : List (Nat × List (Nat × Nat))), take := [], rnil := false, m := 0, fz := true, loops := lookL f53_tab, call := f53_call }
noncomputable def f53_G0 : List TV → List Entry → (TV → List Entry → Prop) → Prop := fun tm hp K => getS [.v (.one (.int .i64)), .v (.one (.int .i64))] [] tm hp fun (xx : (Int × (Int × Unit))) (yy : Unit) => f53 xx.1 xx.2.1 (fun b0_0 => K (B b0_0) [])
set_option maxRecDepth 100000 in
theorem f53_eq (n_1 : Int) (n_2 : Int) (K : TV → List Entry → Prop) : (f53_d n_1 n_2 (fun b0_0 => K (B b0_0) [])) = funcT f53_C Tryd.f53 [I n_1, I n_2] [] K := by kernel_rfl
set_option maxHeartbeats 4000000 in
theorem f53_ok0 : FnOk Tryd.prog glob 53 f53_G0 := by
  refine FnOk.of_text (C := f53_C) tab_ok.ok (Known.none) follows_ok (fn := Tryd.f53) (by kernel_rfl) (by kernel_rfl) (by kernel_rfl) (fun c hc => ?_) fun tm hp K h => ?_
  · have e : c = bodyOf Tryd.f53 := Option.some.inj (hc.symm.trans (by kernel_rfl))
    subst e
    exact ⟨LoopsOk.of [] (by kernel_rfl) trivial, TailsOk.of (tab := f53_tab) rfl [] (by kernel_rfl) trivial⟩
  · unfold f53_G0 at h
    obtain ⟨xx, yy, rfl, rfl, h⟩ := getS_elim h
    have e := (f53_eq xx.1 xx.2.1 K).trans (show _ = funcT f53_C Tryd.f53 (mkR _ xx) (mkE _ yy) K by kernel_rfl)
    rw [← e]
    exact h.run
noncomputable abbrev f53_G := f53_G0
theorem f53_G_ok : FnOk Tryd.prog glob 53 f53_G := f53_ok0
end Go.Eng.N
set_option linter.unusedVariables false
set_option maxRecDepth 100000
open Go Go.Eng Go.Proofs
namespace Go.Eng.N
/-! ### f56: plenum/plenumref39.Kind -/
noncomputable def f56_d (n1 : Int) (k0 : Int → Prop) : Prop := bB (n1 == 0) (k0 4) (bB (n1 == 4) (k0 2) (k0 1))
structure f56 (n1 : Int) (k0 : Int → Prop) : Prop where
  run : f56_d n1 k0
noncomputable def f56_tab : List (Nat × Told) := []
noncomputable def f56_call : FuncId → List TV → List Entry → (TV → List Entry → Prop) → Prop := noCalls
noncomputable def f56_C : Ctx := { ty := tyOf tab, glob := glob, byRef := byRef, keep := fun k i => lookN [] (lookN [] ([] : List (Nat × List (Nat × List Nat))) k) i, late := lookN [] ([] : List (Nat × List Nat)), nref := lookN [] ([] : List (Nat × List Nat)), nbox := lookN [] ([] : List (Nat × List (Nat × Nat))), take := [], rnil := false, m := 0, fz := true, loops := lookL f56_tab, call := f56_call }
noncomputable def f56_G0 : List TV → List Entry → (TV → List Entry → Prop) → Prop := fun tm hp K => getS [.v (.one (.int .i64))] [] tm hp fun (xx : (Int × Unit)) (yy : Unit) => f56 xx.1 (fun n0_0 => K (I n0_0) [])
set_option maxRecDepth 100000 in
theorem f56_eq (n_1 : Int) (K : TV → List Entry → Prop) : (f56_d n_1 (fun n0_0 => K (I n0_0) [])) = funcT f56_C Tryd.f56 [I n_1] [] K := by kernel_rfl
set_option maxHeartbeats 4000000 in
theorem f56_ok0 : FnOk Tryd.prog glob 56 f56_G0 := by
  refine FnOk.of_text (C := f56_C) tab_ok.ok (Known.none) follows_ok (fn := Tryd.f56) (by kernel_rfl) (by kernel_rfl) (by kernel_rfl) (fun c hc => ?_) fun tm hp K h => ?_
  · have e : c = bodyOf Tryd.f56 := Option.some.inj (hc.symm.trans (by kernel_rfl))
    subst e
    exact ⟨LoopsOk.of [] (by kernel_rfl) trivial, TailsOk.of (tab := f56_tab) rfl [] (by kernel_rfl) trivial⟩
  · unfold f56_G0 at h
    obtain ⟨xx, yy, rfl, rfl, h⟩ := getS_elim h
    have e := (f56_eq xx.1 K).trans (show _ = funcT f56_C Tryd.f56 (mkR _ xx) (mkE _ yy) K by kernel_rfl)
    rw [← e]
    exact h.run
noncomputable abbrev f56_G := f56_G0
theorem f56_G_ok : FnOk Tryd.prog glob 56 f56_G := f56_ok0
end Go.Eng.N
set_option linter.unusedVariables false
set_option maxRecDepth 100000
open Go Go.Eng Go.Proofs
namespace Go.Eng.N
/-! ### f93: plenum/plenumref39.moment -/
noncomputable def f93_d (n1 : Int) (k0 : Int → Int → Prop) : Prop := (86400 : Int) ≠ 0 ∧ (7 : Int) ≠ 0 ∧ (86400 : Int) ≠ 0 ∧ (60 : Int) ≠ 0 ∧ k0 (Int.tmod (w64 ((w64 (Int.tdiv n1 86400)) + 5)) 7) (w64 (Int.tdiv (Int.tmod n1 86400) 60))
structure f93 (n1 : Int) (k0 : Int → Int → Prop) : Prop where
  run : f93_d n1 k0
noncomputable def f93_tab : List (Nat × Told) := []
noncomputable def f93_call : FuncId → List TV → List Entry → (TV → List Entry → Prop) → Prop := noCalls
noncomputable def f93_C : Ctx := { ty := tyOf tab, glob := glob, byRef := byRef, keep := fun k i => lookN [] (lookN [] ([] : List (Nat × List (Nat × List Nat))) k) i, late := lookN [] ([] : List (Nat × List Nat)), nref := lookN [] ([] : List (Nat × List Nat)), nbox := lookN [] ([] : List (Nat × List (Nat × Nat))), take := [], rnil := false, m := 0, fz := true, loops := lookL f93_tab, call := f93_call }
noncomputable def f93_G0 : List TV → List Entry → (TV → List Entry → Prop) → Prop := fun tm hp K => getS [.v (.one (.int .i64))] [] tm hp fun (xx : (Int × Unit)) (yy : Unit) => f93 xx.1 (fun n0_0 n0_1 => K (.tup [.one (.p (pI n0_0)), .one (.p (pI n0_1))]) [])
set_option maxRecDepth 100000 in
theorem f93_eq (n_2 : Int) (K : TV → List Entry → Prop) : (f93_d n_2 (fun n0_0 n0_1 => K (.tup [.one (.p (pI n0_0)), .one (.p (pI n0_1))]) [])) = funcT f93_C Tryd.f93 [I n_2] [] K := by kernel_rfl
set_option maxHeartbeats 4000000 in
theorem f93_ok0 : FnOk Tryd.prog glob 93 f93_G0 := by
  refine FnOk.of_text (C := f93_C) tab_ok.ok (Known.none) follows_ok (fn := Tryd.f93) (by kernel_rfl) (by kernel_rfl) (by kernel_rfl) (fun c hc => ?_) fun tm hp K h => ?_
  · have e : c = bodyOf Tryd.f93 := Option.some.inj (hc.symm.trans (by kernel_rfl))
    subst e
    exact ⟨LoopsOk.of [] (by kernel_rfl) trivial, TailsOk.of (tab := f93_tab) rfl [] (by kernel_rfl) trivial⟩
  · unfold f93_G0 at h
    obtain ⟨xx, yy, rfl, rfl, h⟩ := getS_elim h
    have e := (f93_eq xx.1 K).trans (show _ = funcT f93_C Tryd.f93 (mkR _ xx) (mkE _ yy) K by kernel_rfl)
    rw [← e]
    exact h.run
noncomputable abbrev f93_G := f93_G0
theorem f93_G_ok : FnOk Tryd.prog glob 93 f93_G := f93_ok0
end Go.Eng.N
set_option linter.unusedVariables false
set_option maxRecDepth 100000
open Go Go.Eng Go.Proofs
namespace Go.Eng.N
/-! ### f84: plenum/plenumref39.has -/
noncomputable def f84_d (n1 : Int) (n2 : Int) (k0 : Bool → Prop) : Prop := 0 ≤ (IntKind.wrap .u64 n2) ∧ (2 : Int) ≠ 0 ∧ k0 ((Int.tmod (Int.fdiv n1 (2 ^ (min (Int.toNat (IntKind.wrap .u64 n2)) 64))) 2) == 1)
structure f84 (n1 : Int) (n2 : Int) (k0 : Bool → Prop) : Prop where
  run : f84_d n1 n2 k0
noncomputable def f84_tab : List (Nat × Told) := []
noncomputable def f84_call : FuncId → List TV → List Entry → (TV → List Entry → Prop) → Prop := noCalls
noncomputable def f84_C : Ctx := { ty := tyOf tab, glob := glob, byRef := byRef, keep := fun k i => lookN [] (lookN [] ([] : List (Nat × List (Nat × List Nat))) k) i, late := lookN [] ([] : List (Nat × List Nat)), nref := lookN [] ([] : List (Nat × List Nat)), nbox := lookN [] ([] : List (Nat × List (Nat × Nat))), take := [], rnil := false, m := 0, fz := true, loops := lookL f84_tab, call := f84_call }
noncomputable def f84_G0 : List TV → List Entry → (TV → List Entry → Prop) → Prop := fun tm hp K => getS [.v (.one (.int .i64)), .v (.one (.int .i64))] [] tm hp fun (xx : (Int × (Int × Unit))) (yy : Unit) => f84 xx.1 xx.2.1 (fun b0_0 => K (B b0_0) [])
set_option maxRecDepth 100000 in
theorem f84_eq (n_1 : Int) (n_2 : Int) (K : TV → List Entry → Prop) : (f84_d n_1 n_2 (fun b0_0 => K (B b0_0) [])) = funcT f84_C Tryd.f84 [I n_1, I n_2] [] K := by kernel_rfl
set_option maxHeartbeats 4000000 in
theorem f84_ok0 : FnOk Tryd.prog glob 84 f84_G0 := by
  refine FnOk.of_text (C := f84_C) tab_ok.ok (Known.none) follows_ok (fn := Tryd.f84) (by kernel_rfl) (by kernel_rfl) (by kernel_rfl) (fun c hc => ?_) fun tm hp K h => ?_
  · have e : c = bodyOf Tryd.f84 := Option.some.inj (hc.symm.trans (by kernel_rfl))
    subst e
    exact ⟨LoopsOk.of [] (by kernel_rfl) trivial, TailsOk.of (tab := f84_tab) rfl [] (by kernel_rfl) trivial⟩
  · unfold f84_G0 at h
    obtain ⟨xx, yy, rfl, rfl, h⟩ := getS_elim h
    have e := (f84_eq xx.1 xx.2.1 K).trans (show _ = funcT f84_C Tryd.f84 (mkR _ xx) (mkE _ yy) K by kernel_rfl)
    rw [← e]
    exact h.run
noncomputable abbrev f84_G := f84_G0
theorem f84_G_ok : FnOk Tryd.prog glob 84 f84_G := f84_ok0
end Go.Eng.N
set_option linter.unusedVariables false
set_option maxRecDepth 100000
open Go Go.Eng Go.Proofs
namespace Go.Eng.N
/-! ### f94: plenum/plenumref39.told -/
noncomputable def f94_d (s1 : ByteArray) (n2 : Int) (n3 : Int) (n4 : Int) (n5 : Int) (n6 : Int) (n7 : Int) (n8 : Int) (k0 : Bool → Prop) : Prop := f84 n2 n6 (fun b9 => bB b9 (bB (decide (n7 ≥ n3)) (bB (decide (n7 ≤ n4)) (n8 ≠ 0 ∧ (2 : Int) ≠ 0 ∧ k0 ((Int.tmod (w64 (Int.tdiv n5 n8)) 2) == 1)) (k0 false)) (k0 false)) (k0 false))
structure f94 (s1 : ByteArray) (n2 : Int) (n3 : Int) (n4 : Int) (n5 : Int) (n6 : Int) (n7 : Int) (n8 : Int) (k0 : Bool → Prop) : Prop where
  run : f94_d s1 n2 n3 n4 n5 n6 n7 n8 k0
noncomputable def f94_tab : List (Nat × Told) := []
noncomputable def f94_call : FuncId → List TV → List Entry → (TV → List Entry → Prop) → Prop := addCall 84 f84_G (noCalls)
noncomputable def f94_C : Ctx := { ty := tyOf tab, glob := glob, byRef := byRef, keep := fun k i => lookN [] (lookN [] ([] : List (Nat × List (Nat × List Nat))) k) i, late := lookN [] ([] : List (Nat × List Nat)), nref := lookN [] ([] : List (Nat × List Nat)), nbox := lookN [] ([] : List (Nat × List (Nat × Nat))), take := [], rnil := false, m := 0, fz := true, loops := lookL f94_tab, call := f94_call }
noncomputable def f94_G0 : List TV → List Entry → (TV → List Entry → Prop) → Prop := fun tm hp K => getS [.v (.pagg [.str, .int .i64, .int .i64, .int .i64, .int .i64]), .v (.one (.int .i64)), .v (.one (.int .i64)), .v (.one (.int .i64))] [] tm hp fun (xx : ((ByteArray × (Int × (Int × (Int × (Int × Unit))))) × (Int × (Int × (Int × Unit))))) (yy : Unit) => f94 xx.1.1 xx.1.2.1 xx.1.2.2.1 xx.1.2.2.2.1 xx.1.2.2.2.2.1 xx.2.1 xx.2.2.1 xx.2.2.2.1 (fun b0_0 => K (B b0_0) [])
set_option maxRecDepth 100000 in
theorem f94_eq (s_1 : ByteArray) (n_2 : Int) (n_3 : Int) (n_4 : Int) (n_5 : Int) (n_6 : Int) (n_7 : Int) (n_8 : Int) (K : TV → List Entry → Prop) : (f94_d s_1 n_2 n_3 n_4 n_5 n_6 n_7 n_8 (fun b0_0 => K (B b0_0) [])) = funcT f94_C Tryd.f94 [.w (.pagg [pS s_1, pI n_2, pI n_3, pI n_4, pI n_5]), I n_6, I n_7, I n_8] [] K := by kernel_rfl
set_option maxHeartbeats 4000000 in
theorem f94_ok0 : FnOk Tryd.prog glob 94 f94_G0 := by
  refine FnOk.of_text (C := f94_C) tab_ok.ok (Known.add f84_G_ok (Known.none)) follows_ok (fn := Tryd.f94) (by kernel_rfl) (by kernel_rfl) (by kernel_rfl) (fun c hc => ?_) fun tm hp K h => ?_
  · have e : c = bodyOf Tryd.f94 := Option.some.inj (hc.symm.trans (by kernel_rfl))
    subst e
    exact ⟨LoopsOk.of [] (by kernel_rfl) trivial, TailsOk.of (tab := f94_tab) rfl [] (by kernel_rfl) trivial⟩
  · unfold f94_G0 at h
    obtain ⟨xx, yy, rfl, rfl, h⟩ := getS_elim h
    have e := (f94_eq xx.1.1 xx.1.2.1 xx.1.2.2.1 xx.1.2.2.2.1 xx.1.2.2.2.2.1 xx.2.1 xx.2.2.1 xx.2.2.2.1 K).trans (show _ = funcT f94_C Tryd.f94 (mkR _ xx) (mkE _ yy) K by kernel_rfl)
    rw [← e]
    exact h.run
noncomputable abbrev f94_G := f94_G0
theorem f94_G_ok : FnOk Tryd.prog glob 94 f94_G := f94_ok0
end Go.Eng.N
set_option linter.unusedVariables false
set_option maxRecDepth 100000
open Go Go.Eng Go.Proofs
namespace Go.Eng.N
/-! ### f95: plenum/plenumref39.contains -/
noncomputable def f95_p4b0 (es4 : List (List PC)) (full5 : Bool) (s6 : ByteArray) (n7 : Int) (N0 : Int → Prop) (k0 : Bool → Prop) (k1 : Unit → Prop) : Prop := bB (decide (n7 < ((es4.length : Nat) : Int))) ((0 ≤ n7 ∧ n7 < ((es4.length : Nat) : Int)) ∧ oS (ext (List.getD es4 (Int.toNat n7) []) 0 1) fun s8 => bB (s8.toList == s6.toList) (k0 true) (N0 (w64 (n7 + 1)))) (k1 ())
noncomputable def f95_p4 (es4 : List (List PC)) (full5 : Bool) (s6 : ByteArray) (k0 : Bool → Prop) (k1 : Unit → Prop) : Int → Prop := LoopP fun x N => f95_p4b0 es4 full5 s6 x (fun n7 => N n7) k0 k1
noncomputable def f95_d (es1 : List (List PC)) (full2 : Bool) (s3 : ByteArray) (k0 : Bool → Prop) : Prop := f95_p4 es1 full2 s3 (fun b9 => k0 b9) (fun (_ : Unit) => k0 false) 0
structure f95 (es1 : List (List PC)) (full2 : Bool) (s3 : ByteArray) (k0 : Bool → Prop) : Prop where
  run : f95_d es1 full2 s3 k0
noncomputable def f95_p4L : Told := fun s K => match s with
  | ⟨tm, hp⟩ => getS [.v (.one (.sl 1)), .v (.one (.str)), .skip 3, .v (.one (.int .i64)), .skip 12] [] tm hp fun (xx : ((List (List PC) × Bool) × (ByteArray × (Unit × (Int × (Unit × Unit)))))) (yy : Unit) => f95_p4 xx.1.1 xx.1.2 xx.2.1 (fun b0_0 => K .ret ⟨mkS 18 [(4, B b0_0)], []⟩) (fun (_ : Unit) => K (.exit 0) ⟨mkS 18 [], []⟩) xx.2.2.2.1
noncomputable def f95_tab : List (Nat × Told) := [(4, f95_p4L)]
noncomputable def f95_call : FuncId → List TV → List Entry → (TV → List Entry → Prop) → Prop := noCalls
noncomputable def f95_C : Ctx := { ty := tyOf tab, glob := glob, byRef := byRef, keep := fun k i => lookN [] (lookN [] ([(4, [(0, [0, 1, 5]), (2, [4]), (3, [])])] : List (Nat × List (Nat × List Nat))) k) i, late := lookN [] ([] : List (Nat × List Nat)), nref := lookN [] ([] : List (Nat × List Nat)), nbox := lookN [] ([] : List (Nat × List (Nat × Nat))), take := [], rnil := false, m := 0, fz := true, loops := lookL f95_tab, call := f95_call }
noncomputable def f95_p4_mk (es4 : List (List PC)) (full5 : Bool) (s6 : ByteArray) (x : Int) : St := ⟨mkS 18 [(0, .w (.one (.p (.sl 1 es4 full5)))), (1, S s6), (5, I x)], []⟩
set_option maxRecDepth 100000 in
theorem f95_p4e0 (es_6 : List (List PC)) (full_7 : Bool) (s_8 : ByteArray) (n_9 : Int) (N : St → Prop) (K : TExit → St → Prop) : (f95_p4b0 es_6 full_7 s_8 n_9 (fun z3 => N (f95_p4_mk es_6 full_7 s_8 z3)) (fun b0_10 => K .ret ⟨mkS 18 [(4, B b0_10)], []⟩) (fun (_ : Unit) => K (.exit 0) ⟨mkS 18 [], []⟩)) = execT f95_C (nthC (bodies (bodyOf Tryd.f95)) 0) (f95_p4_mk es_6 full_7 s_8 n_9) (loopK N (normK f95_C 4) fun e s => K e (normOut f95_C 4 e s)) := by kernel_rfl
set_option maxHeartbeats 4000000 in
theorem f95_p4_ok : LoopOk f95_C (nthC (bodies (bodyOf Tryd.f95)) 0) := by
  refine LoopOk.of f95_p4L (by kernel_rfl) fun σ K h => ?_
  have hk : loopKey (nthC (bodies (bodyOf Tryd.f95)) 0) = 4 := by kernel_rfl
  rw [hk] at h ⊢
  generalize hs : normK f95_C 4 σ = s at h
  obtain ⟨tm, hp⟩ := s
  unfold f95_p4L at h
  dsimp only at h
  obtain ⟨xx, yy, rfl, rfl, h⟩ := getS_elim h
  refine iter_of (f95_p4_mk xx.1.1 xx.1.2 xx.2.1) (fun x N h => ?_) rounds _ σ (hs.trans (by kernel_rfl)) (LoopP.run h)
  rw [← f95_p4e0 xx.1.1 xx.1.2 xx.2.1 x N K]
  exact h
noncomputable def f95_G0 : List TV → List Entry → (TV → List Entry → Prop) → Prop := fun tm hp K => getS [.v (.one (.sl 1)), .v (.one (.str))] [] tm hp fun (xx : ((List (List PC) × Bool) × (ByteArray × Unit))) (yy : Unit) => f95 xx.1.1 xx.1.2 xx.2.1 (fun b0_1 => K (B b0_1) [])
set_option maxRecDepth 100000 in
theorem f95_eq (es_11 : List (List PC)) (full_12 : Bool) (s_13 : ByteArray) (K : TV → List Entry → Prop) : (f95_d es_11 full_12 s_13 (fun b0_1 => K (B b0_1) [])) = funcT f95_C Tryd.f95 [.w (.one (.p (.sl 1 es_11 full_12))), S s_13] [] K := by kernel_rfl
set_option maxHeartbeats 4000000 in
theorem f95_ok0 : FnOk Tryd.prog glob 95 f95_G0 := by
  refine FnOk.of_text (C := f95_C) tab_ok.ok (Known.none) follows_ok (fn := Tryd.f95) (by kernel_rfl) (by kernel_rfl) (by kernel_rfl) (fun c hc => ?_) fun tm hp K h => ?_
  · have e : c = bodyOf Tryd.f95 := Option.some.inj (hc.symm.trans (by kernel_rfl))
    subst e
    exact ⟨LoopsOk.of [nthC (bodies (bodyOf Tryd.f95)) 0] (by kernel_rfl) ⟨f95_p4_ok, trivial⟩, TailsOk.of (tab := f95_tab) rfl [] (by kernel_rfl) trivial⟩
  · unfold f95_G0 at h
    obtain ⟨xx, yy, rfl, rfl, h⟩ := getS_elim h
    have e := (f95_eq xx.1.1 xx.1.2 xx.2.1 K).trans (show _ = funcT f95_C Tryd.f95 (mkR _ xx) (mkE _ yy) K by kernel_rfl)
    rw [← e]
    exact h.run
noncomputable abbrev f95_G := f95_G0
theorem f95_G_ok : FnOk Tryd.prog glob 95 f95_G := f95_ok0
end Go.Eng.N
set_option linter.unusedVariables false
set_option maxRecDepth 100000
open Go Go.Eng Go.Proofs
namespace Go.Eng.N
/-! ### f54: plenum/plenumref39.names -/
noncomputable def f54_p8b0 (n10 : Int) (n11 : Int) (n12 : Int) (i13 : Nat) (n14 : Nat) (n15 : Int) (s16 : ByteArray) (n17 : Int) (n18 : Int) (es19 : List (List PC)) (full20 : Bool) (es21 : List (List PC)) (N0 : Nat → Nat → Int → (List (List PC)) → Prop) (k0 : Nat → Nat → (List (List PC)) → Prop) : Prop := bB (decide (n15 < ((es19.length : Nat) : Int))) ((0 ≤ n15 ∧ n15 < ((es19.length : Nat) : Int)) ∧ cS (ext (List.getD es19 (Int.toNat n15) []) 0 5) fun s23 r22 => cI .i64 r22 fun n25 r24 => cI .i64 r24 fun n27 r26 => cI .i64 r26 fun n29 r28 => cI .i64 r28 fun n31 r30 => nilC r30 <| f56 n10 (fun n32 => f94 s23 n25 n27 n29 n31 n11 n12 n32 (fun b33 => bB b33 (f95 (List.take n14 (List.drop i13 es21)) false s23 (fun b34 => bB (!b34) ((i13 + n14) = es21.length ∧ (n14 + 1) * 16 ≤ 2 ^ 46 ∧ (n14 + 1) ≤ 2 ^ 46 ∧ N0 0 (n14 + 1) (w64 (n15 + 1)) (List.drop i13 es21 ++ [[pS s23]])) (N0 i13 n14 (w64 (n15 + 1)) es21))) (N0 i13 n14 (w64 (n15 + 1)) es21)))) (k0 i13 n14 es21)
noncomputable def f54_p8 (n10 : Int) (n11 : Int) (n12 : Int) (s16 : ByteArray) (n17 : Int) (n18 : Int) (es19 : List (List PC)) (full20 : Bool) (k0 : Nat → Nat → (List (List PC)) → Prop) : Nat × Nat × Int × (List (List PC)) → Prop := LoopP fun x N => f54_p8b0 n10 n11 n12 x.1 x.2.1 x.2.2.1 s16 n17 n18 es19 full20 x.2.2.2 (fun i13 n14 n15 es21 => N (i13, n14, n15, es21)) k0
noncomputable def f54_d (s1 : ByteArray) (n2 : Int) (n3 : Int) (es4 : List (List PC)) (full5 : Bool) (n6 : Int) (n7 : Int) (k0 : (List (List PC)) → Bool → Prop) : Prop := f93 n6 (fun n8 n9 => f54_p8 n7 n8 n9 s1 n2 n3 es4 full5 (fun i35 n36 es37 => k0 (List.take n36 (List.drop i35 es37)) false) (0, 0, 0, []))
structure f54 (s1 : ByteArray) (n2 : Int) (n3 : Int) (es4 : List (List PC)) (full5 : Bool) (n6 : Int) (n7 : Int) (k0 : (List (List PC)) → Bool → Prop) : Prop where
  run : f54_d s1 n2 n3 es4 full5 n6 n7 k0
noncomputable def f54_p8L : Told := fun s K => match s with
  | ⟨tm, hp⟩ => getS [.skip 2, .v (.one (.int .i64)), .v (.one (.ptr 0 0 0)), .skip 3, .v (.one (.int .i64)), .v (.one (.int .i64)), .v (.one (.ref 1)), .v (.one (.int .i64)), .skip 38] [.box [.str, .int .i64, .int .i64, .sl 5], .vec 1 true] tm hp fun (xx : (Unit × (Int × (Unit × (Unit × (Int × (Int × ((Nat × Nat) × (Int × (Unit × Unit)))))))))) (yy : ((ByteArray × (Int × (Int × ((List (List PC) × Bool) × Unit)))) × ((List (List PC)) × Unit))) => f54_p8 xx.2.1 xx.2.2.2.2.1 xx.2.2.2.2.2.1 yy.1.1 yy.1.2.1 yy.1.2.2.1 yy.1.2.2.2.1.1 yy.1.2.2.2.1.2 (fun i0_0 n0_1 es0_2 => K (.exit 0) ⟨mkS 49 [(9, .w (.one (.ref 0 i0_0 n0_1)))], [.vec 1 es0_2 true]⟩) (xx.2.2.2.2.2.2.1.1, xx.2.2.2.2.2.2.1.2, xx.2.2.2.2.2.2.2.1, yy.2.1)
noncomputable def f54_tab : List (Nat × Told) := [(8, f54_p8L)]
noncomputable def f54_call : FuncId → List TV → List Entry → (TV → List Entry → Prop) → Prop := addCall 95 f95_G (addCall 94 f94_G (addCall 93 f93_G (addCall 56 f56_G (noCalls))))
noncomputable def f54_C : Ctx := { ty := tyOf tab, glob := glob, byRef := byRef, keep := fun k i => lookN [] (lookN [] ([(8, [(0, [2, 3, 7, 8, 9, 10]), (2, [6]), (3, [9])])] : List (Nat × List (Nat × List Nat))) k) i, late := lookN [] ([] : List (Nat × List Nat)), nref := lookN [] ([] : List (Nat × List Nat)), nbox := lookN [] ([] : List (Nat × List (Nat × Nat))), take := [], rnil := false, m := 0, fz := true, loops := lookL f54_tab, call := f54_call }
noncomputable def f54_p8_mk (n10 : Int) (n11 : Int) (n12 : Int) (s16 : ByteArray) (n17 : Int) (n18 : Int) (es19 : List (List PC)) (full20 : Bool) (x : Nat × Nat × Int × (List (List PC))) : St := ⟨mkS 49 [(2, I n10), (3, .w (.one (.ptr 0 0 0))), (7, I n11), (8, I n12), (9, .w (.one (.ref 1 x.1 x.2.1))), (10, I x.2.2.1)], [.box [.p (pS s16), .p (pI n17), .p (pI n18), .p (.sl 5 es19 full20)], .vec 1 x.2.2.2 true]⟩
set_option maxRecDepth 100000 in
theorem f54_p8e0 (n_17 : Int) (n_18 : Int) (n_19 : Int) (i_20 : Nat) (n_21 : Nat) (n_22 : Int) (s_23 : ByteArray) (n_24 : Int) (n_25 : Int) (es_26 : List (List PC)) (full_27 : Bool) (es_28 : List (List PC)) (N : St → Prop) (K : TExit → St → Prop) : (f54_p8b0 n_17 n_18 n_19 i_20 n_21 n_22 s_23 n_24 n_25 es_26 full_27 es_28 (fun z3 z4 z5 z11 => N (f54_p8_mk n_17 n_18 n_19 s_23 n_24 n_25 es_26 full_27 (z3, z4, z5, z11))) (fun i0_29 n0_30 es0_31 => K (.exit 0) ⟨mkS 49 [(9, .w (.one (.ref 0 i0_29 n0_30)))], [.vec 1 es0_31 true]⟩)) = execT f54_C (nthC (bodies (bodyOf Tryd.f54)) 0) (f54_p8_mk n_17 n_18 n_19 s_23 n_24 n_25 es_26 full_27 (i_20, n_21, n_22, es_28)) (loopK N (normK f54_C 8) fun e s => K e (normOut f54_C 8 e s)) := by kernel_rfl
set_option maxHeartbeats 4000000 in
theorem f54_p8_ok : LoopOk f54_C (nthC (bodies (bodyOf Tryd.f54)) 0) := by
  refine LoopOk.of f54_p8L (by kernel_rfl) fun σ K h => ?_
  have hk : loopKey (nthC (bodies (bodyOf Tryd.f54)) 0) = 8 := by kernel_rfl
  rw [hk] at h ⊢
  generalize hs : normK f54_C 8 σ = s at h
  obtain ⟨tm, hp⟩ := s
  unfold f54_p8L at h
  dsimp only at h
  obtain ⟨xx, yy, rfl, rfl, h⟩ := getS_elim h
  refine iter_of (f54_p8_mk xx.2.1 xx.2.2.2.2.1 xx.2.2.2.2.2.1 yy.1.1 yy.1.2.1 yy.1.2.2.1 yy.1.2.2.2.1.1 yy.1.2.2.2.1.2) (fun x N h => ?_) rounds _ σ (hs.trans (by kernel_rfl)) (LoopP.run h)
  obtain ⟨y0, y1, y2, y3⟩ := x
  rw [← f54_p8e0 xx.2.1 xx.2.2.2.2.1 xx.2.2.2.2.2.1 y0 y1 y2 yy.1.1 yy.1.2.1 yy.1.2.2.1 yy.1.2.2.2.1.1 yy.1.2.2.2.1.2 y3 N K]
  exact h
noncomputable def f54_G0 : List TV → List Entry → (TV → List Entry → Prop) → Prop := fun tm hp K => getS [.v (.pagg [.str, .int .i64, .int .i64, .sl 5]), .v (.one (.int .i64)), .v (.one (.int .i64))] [] tm hp fun (xx : ((ByteArray × (Int × (Int × ((List (List PC) × Bool) × Unit)))) × (Int × (Int × Unit)))) (yy : Unit) => f54 xx.1.1 xx.1.2.1 xx.1.2.2.1 xx.1.2.2.2.1.1 xx.1.2.2.2.1.2 xx.2.1 xx.2.2.1 (fun es0_3 full0_4 => K (.w (.one (.p (.sl 1 es0_3 full0_4)))) [])
set_option maxRecDepth 100000 in
theorem f54_eq (s_32 : ByteArray) (n_33 : Int) (n_34 : Int) (es_35 : List (List PC)) (full_36 : Bool) (n_37 : Int) (n_38 : Int) (K : TV → List Entry → Prop) : (f54_d s_32 n_33 n_34 es_35 full_36 n_37 n_38 (fun es0_3 full0_4 => K (.w (.one (.p (.sl 1 es0_3 full0_4)))) [])) = funcT f54_C Tryd.f54 [.w (.pagg [pS s_32, pI n_33, pI n_34, .sl 5 es_35 full_36]), I n_37, I n_38] [] K := by kernel_rfl
set_option maxHeartbeats 4000000 in
theorem f54_ok0 : FnOk Tryd.prog glob 54 f54_G0 := by
  refine FnOk.of_text (C := f54_C) tab_ok.ok (Known.add f95_G_ok (Known.add f94_G_ok (Known.add f93_G_ok (Known.add f56_G_ok (Known.none))))) follows_ok (fn := Tryd.f54) (by kernel_rfl) (by kernel_rfl) (by kernel_rfl) (fun c hc => ?_) fun tm hp K h => ?_
  · have e : c = bodyOf Tryd.f54 := Option.some.inj (hc.symm.trans (by kernel_rfl))
    subst e
    exact ⟨LoopsOk.of [nthC (bodies (bodyOf Tryd.f54)) 0] (by kernel_rfl) ⟨f54_p8_ok, trivial⟩, TailsOk.of (tab := f54_tab) rfl [] (by kernel_rfl) trivial⟩
  · unfold f54_G0 at h
    obtain ⟨xx, yy, rfl, rfl, h⟩ := getS_elim h
    have e := (f54_eq xx.1.1 xx.1.2.1 xx.1.2.2.1 xx.1.2.2.2.1.1 xx.1.2.2.2.1.2 xx.2.1 xx.2.2.1 K).trans (show _ = funcT f54_C Tryd.f54 (mkR _ xx) (mkE _ yy) K by kernel_rfl)
    rw [← e]
    exact h.run
noncomputable abbrev f54_G := f54_G0
theorem f54_G_ok : FnOk Tryd.prog glob 54 f54_G := f54_ok0
end Go.Eng.N
set_option linter.unusedVariables false
set_option maxRecDepth 100000
open Go Go.Eng Go.Proofs
namespace Go.Eng.N
/-! ### f20: plenum/plenumref39.Told -/
noncomputable def f20_d (s1 : ByteArray) (n2 : Int) (n3 : Int) (es4 : List (List PC)) (full5 : Bool) (n6 : Int) (n7 : Int) (k0 : (List (List PC)) → Bool → Int → Prop) : Prop := f17 s1 n2 n3 es4 full5 (fun n8 => bB (n8 != 0) (k0 [] true n8) (f53 n6 n7 (fun b9 => bB (!b9) (k0 [] true 6) (f54 s1 n2 n3 es4 full5 n6 n7 (fun es10 full11 => k0 es10 full11 0)))))
structure f20 (s1 : ByteArray) (n2 : Int) (n3 : Int) (es4 : List (List PC)) (full5 : Bool) (n6 : Int) (n7 : Int) (k0 : (List (List PC)) → Bool → Int → Prop) : Prop where
  run : f20_d s1 n2 n3 es4 full5 n6 n7 k0
noncomputable def f20_tab : List (Nat × Told) := []
noncomputable def f20_call : FuncId → List TV → List Entry → (TV → List Entry → Prop) → Prop := addCall 54 f54_G (addCall 53 f53_G (addCall 17 f17_G (noCalls)))
noncomputable def f20_C : Ctx := { ty := tyOf tab, glob := glob, byRef := byRef, keep := fun k i => lookN [] (lookN [] ([] : List (Nat × List (Nat × List Nat))) k) i, late := lookN [] ([] : List (Nat × List Nat)), nref := lookN [] ([] : List (Nat × List Nat)), nbox := lookN [] ([] : List (Nat × List (Nat × Nat))), take := [], rnil := false, m := 0, fz := true, loops := lookL f20_tab, call := f20_call }
noncomputable def f20_G0 : List TV → List Entry → (TV → List Entry → Prop) → Prop := fun tm hp K => getS [.v (.pagg [.str, .int .i64, .int .i64, .sl 5]), .v (.one (.int .i64)), .v (.one (.int .i64))] [] tm hp fun (xx : ((ByteArray × (Int × (Int × ((List (List PC) × Bool) × Unit)))) × (Int × (Int × Unit)))) (yy : Unit) => f20 xx.1.1 xx.1.2.1 xx.1.2.2.1 xx.1.2.2.2.1.1 xx.1.2.2.2.1.2 xx.2.1 xx.2.2.1 (fun es0_0 full0_1 n0_2 => K (.tup [.one (.p (.sl 1 es0_0 full0_1)), .one (.p (pI n0_2))]) [])
set_option maxRecDepth 100000 in
theorem f20_eq (s_3 : ByteArray) (n_4 : Int) (n_5 : Int) (es_6 : List (List PC)) (full_7 : Bool) (n_8 : Int) (n_9 : Int) (K : TV → List Entry → Prop) : (f20_d s_3 n_4 n_5 es_6 full_7 n_8 n_9 (fun es0_0 full0_1 n0_2 => K (.tup [.one (.p (.sl 1 es0_0 full0_1)), .one (.p (pI n0_2))]) [])) = funcT f20_C Tryd.f20 [.w (.pagg [pS s_3, pI n_4, pI n_5, .sl 5 es_6 full_7]), I n_8, I n_9] [] K := by kernel_rfl
set_option maxHeartbeats 4000000 in
theorem f20_ok0 : FnOk Tryd.prog glob 20 f20_G0 := by
  refine FnOk.of_text (C := f20_C) tab_ok.ok (Known.add f54_G_ok (Known.add f53_G_ok (Known.add f17_G_ok (Known.none)))) follows_ok (fn := Tryd.f20) (by kernel_rfl) (by kernel_rfl) (by kernel_rfl) (fun c hc => ?_) fun tm hp K h => ?_
  · have e : c = bodyOf Tryd.f20 := Option.some.inj (hc.symm.trans (by kernel_rfl))
    subst e
    exact ⟨LoopsOk.of [] (by kernel_rfl) trivial, TailsOk.of (tab := f20_tab) rfl [] (by kernel_rfl) trivial⟩
  · unfold f20_G0 at h
    obtain ⟨xx, yy, rfl, rfl, h⟩ := getS_elim h
    have e := (f20_eq xx.1.1 xx.1.2.1 xx.1.2.2.1 xx.1.2.2.2.1.1 xx.1.2.2.2.1.2 xx.2.1 xx.2.2.1 K).trans (show _ = funcT f20_C Tryd.f20 (mkR _ xx) (mkE _ yy) K by kernel_rfl)
    rw [← e]
    exact h.run
noncomputable abbrev f20_G := f20_G0
theorem f20_G_ok : FnOk Tryd.prog glob 20 f20_G := f20_ok0
end Go.Eng.N
set_option linter.unusedVariables false
set_option maxRecDepth 100000
open Go Go.Eng Go.Proofs
namespace Go.Eng.N
/-! ### f22: plenum/plenumref39.Notices -/
noncomputable def f22_p12b0 (es16 : List (List PC)) (full17 : Bool) (i18 : Nat) (n19 : Nat) (n20 : Int) (s21 : ByteArray) (n22 : Int) (n23 : Int) (es24 : List (List PC)) (full25 : Bool) (n26 : Int) (s27 : ByteArray) (n28 : Int) (n29 : Int) (n30 : Int) (n31 : Int) (n32 : Int) (es33 : List (List PC)) (N0 : Nat → Nat → Int → (List (List PC)) → Prop) (k0 : Nat → Nat → (List (List PC)) → Prop) : Prop := bB (decide (n20 < ((es16.length : Nat) : Int))) ((0 ≤ n20 ∧ n20 < ((es16.length : Nat) : Int)) ∧ oS (ext (List.getD es16 (Int.toNat n20) []) 0 1) fun s34 => f56 n30 (fun n35 => n35 ≠ 0 ∧ (2 : Int) ≠ 0 ∧ (i18 + n19) = es33.length ∧ (n19 + 1) * 96 ≤ 2 ^ 46 ∧ (n19 + 1) ≤ 2 ^ 46 ∧ N0 0 (n19 + 1) (w64 (n20 + 1)) (List.drop i18 es33 ++ [[pS s34, pI n26, pS s27, pI n28, pI n29, pI n30, pI n31, pI n32, pI n22, pB ((Int.tmod (w64 (Int.tdiv n23 n35)) 2) == 1)]]))) (k0 i18 n19 es33)
noncomputable def f22_p12 (es16 : List (List PC)) (full17 : Bool) (s21 : ByteArray) (n22 : Int) (n23 : Int) (es24 : List (List PC)) (full25 : Bool) (n26 : Int) (s27 : ByteArray) (n28 : Int) (n29 : Int) (n30 : Int) (n31 : Int) (n32 : Int) (k0 : Nat → Nat → (List (List PC)) → Prop) : Nat × Nat × Int × (List (List PC)) → Prop := LoopP fun x N => f22_p12b0 es16 full17 x.1 x.2.1 x.2.2.1 s21 n22 n23 es24 full25 n26 s27 n28 n29 n30 n31 n32 x.2.2.2 (fun i18 n19 n20 es33 => N (i18, n19, n20, es33)) k0
noncomputable def f22_d (s1 : ByteArray) (n2 : Int) (n3 : Int) (es4 : List (List PC)) (full5 : Bool) (n6 : Int) (s7 : ByteArray) (n8 : Int) (n9 : Int) (n10 : Int) (n11 : Int) (n12 : Int) (k0 : (List (List PC)) → Bool → Int → Prop) : Prop := f20 s1 n2 n3 es4 full5 n8 n10 (fun es13 full14 n15 => bB (n15 != 0) (k0 [] true n15) (f22_p12 es13 full14 s1 n2 n3 es4 full5 n6 s7 n8 n9 n10 n11 n12 (fun i36 n37 es38 => k0 (List.take n37 (List.drop i36 es38)) false 0) (0, 0, 0, [])))
structure f22 (s1 : ByteArray) (n2 : Int) (n3 : Int) (es4 : List (List PC)) (full5 : Bool) (n6 : Int) (s7 : ByteArray) (n8 : Int) (n9 : Int) (n10 : Int) (n11 : Int) (n12 : Int) (k0 : (List (List PC)) → Bool → Int → Prop) : Prop where
  run : f22_d s1 n2 n3 es4 full5 n6 s7 n8 n9 n10 n11 n12 k0
noncomputable def f22_p12L : Told := fun s K => match s with
  | ⟨tm, hp⟩ => getS [.skip 2, .v (.one (.ptr 0 0 0)), .v (.one (.ptr 1 0 0)), .skip 2, .v (.one (.sl 1)), .skip 1, .v (.one (.ref 2)), .v (.one (.int .i64)), .skip 39] [.box [.str, .int .i64, .int .i64, .sl 5], .box [.int .i64, .str, .int .i64, .int .i64, .int .i64, .int .i64, .int .i64], .vec 10 true] tm hp fun (xx : (Unit × (Unit × (Unit × (Unit × ((List (List PC) × Bool) × (Unit × ((Nat × Nat) × (Int × (Unit × Unit)))))))))) (yy : ((ByteArray × (Int × (Int × ((List (List PC) × Bool) × Unit)))) × ((Int × (ByteArray × (Int × (Int × (Int × (Int × (Int × Unit))))))) × ((List (List PC)) × Unit)))) => f22_p12 xx.2.2.2.2.1.1 xx.2.2.2.2.1.2 yy.1.1 yy.1.2.1 yy.1.2.2.1 yy.1.2.2.2.1.1 yy.1.2.2.2.1.2 yy.2.1.1 yy.2.1.2.1 yy.2.1.2.2.1 yy.2.1.2.2.2.1 yy.2.1.2.2.2.2.1 yy.2.1.2.2.2.2.2.1 yy.2.1.2.2.2.2.2.2.1 (fun i0_0 n0_1 es0_2 => K (.exit 0) ⟨mkS 49 [(8, .w (.one (.ref 0 i0_0 n0_1)))], [.vec 10 es0_2 true]⟩) (xx.2.2.2.2.2.2.1.1, xx.2.2.2.2.2.2.1.2, xx.2.2.2.2.2.2.2.1, yy.2.2.1)
noncomputable def f22_tab : List (Nat × Told) := [(12, f22_p12L)]
noncomputable def f22_call : FuncId → List TV → List Entry → (TV → List Entry → Prop) → Prop := addCall 56 f56_G (addCall 20 f20_G (noCalls))
noncomputable def f22_C : Ctx := { ty := tyOf tab, glob := glob, byRef := byRef, keep := fun k i => lookN [] (lookN [] ([(12, [(0, [2, 3, 6, 8, 9]), (2, [4, 5]), (3, [8])])] : List (Nat × List (Nat × List Nat))) k) i, late := lookN [] ([] : List (Nat × List Nat)), nref := lookN [] ([] : List (Nat × List Nat)), nbox := lookN [] ([] : List (Nat × List (Nat × Nat))), take := [], rnil := false, m := 0, fz := true, loops := lookL f22_tab, call := f22_call }
noncomputable def f22_p12_mk (es16 : List (List PC)) (full17 : Bool) (s21 : ByteArray) (n22 : Int) (n23 : Int) (es24 : List (List PC)) (full25 : Bool) (n26 : Int) (s27 : ByteArray) (n28 : Int) (n29 : Int) (n30 : Int) (n31 : Int) (n32 : Int) (x : Nat × Nat × Int × (List (List PC))) : St := ⟨mkS 49 [(2, .w (.one (.ptr 0 0 0))), (3, .w (.one (.ptr 1 0 0))), (6, .w (.one (.p (.sl 1 es16 full17)))), (8, .w (.one (.ref 2 x.1 x.2.1))), (9, I x.2.2.1)], [.box [.p (pS s21), .p (pI n22), .p (pI n23), .p (.sl 5 es24 full25)], .box [.p (pI n26), .p (pS s27), .p (pI n28), .p (pI n29), .p (pI n30), .p (pI n31), .p (pI n32)], .vec 10 x.2.2.2 true]⟩
set_option maxRecDepth 100000 in
theorem f22_p12e0 (es_24 : List (List PC)) (full_25 : Bool) (i_26 : Nat) (n_27 : Nat) (n_28 : Int) (s_29 : ByteArray) (n_30 : Int) (n_31 : Int) (es_32 : List (List PC)) (full_33 : Bool) (n_34 : Int) (s_35 : ByteArray) (n_36 : Int) (n_37 : Int) (n_38 : Int) (n_39 : Int) (n_40 : Int) (es_41 : List (List PC)) (N : St → Prop) (K : TExit → St → Prop) : (f22_p12b0 es_24 full_25 i_26 n_27 n_28 s_29 n_30 n_31 es_32 full_33 n_34 s_35 n_36 n_37 n_38 n_39 n_40 es_41 (fun z2 z3 z4 z17 => N (f22_p12_mk es_24 full_25 s_29 n_30 n_31 es_32 full_33 n_34 s_35 n_36 n_37 n_38 n_39 n_40 (z2, z3, z4, z17))) (fun i0_42 n0_43 es0_44 => K (.exit 0) ⟨mkS 49 [(8, .w (.one (.ref 0 i0_42 n0_43)))], [.vec 10 es0_44 true]⟩)) = execT f22_C (nthC (bodies (bodyOf Tryd.f22)) 0) (f22_p12_mk es_24 full_25 s_29 n_30 n_31 es_32 full_33 n_34 s_35 n_36 n_37 n_38 n_39 n_40 (i_26, n_27, n_28, es_41)) (loopK N (normK f22_C 12) fun e s => K e (normOut f22_C 12 e s)) := by kernel_rfl
set_option maxHeartbeats 4000000 in
theorem f22_p12_ok : LoopOk f22_C (nthC (bodies (bodyOf Tryd.f22)) 0) := by
  refine LoopOk.of f22_p12L (by kernel_rfl) fun σ K h => ?_
  have hk : loopKey (nthC (bodies (bodyOf Tryd.f22)) 0) = 12 := by kernel_rfl
  rw [hk] at h ⊢
  generalize hs : normK f22_C 12 σ = s at h
  obtain ⟨tm, hp⟩ := s
  unfold f22_p12L at h
  dsimp only at h
  obtain ⟨xx, yy, rfl, rfl, h⟩ := getS_elim h
  refine iter_of (f22_p12_mk xx.2.2.2.2.1.1 xx.2.2.2.2.1.2 yy.1.1 yy.1.2.1 yy.1.2.2.1 yy.1.2.2.2.1.1 yy.1.2.2.2.1.2 yy.2.1.1 yy.2.1.2.1 yy.2.1.2.2.1 yy.2.1.2.2.2.1 yy.2.1.2.2.2.2.1 yy.2.1.2.2.2.2.2.1 yy.2.1.2.2.2.2.2.2.1) (fun x N h => ?_) rounds _ σ (hs.trans (by kernel_rfl)) (LoopP.run h)
  obtain ⟨y0, y1, y2, y3⟩ := x
  rw [← f22_p12e0 xx.2.2.2.2.1.1 xx.2.2.2.2.1.2 y0 y1 y2 yy.1.1 yy.1.2.1 yy.1.2.2.1 yy.1.2.2.2.1.1 yy.1.2.2.2.1.2 yy.2.1.1 yy.2.1.2.1 yy.2.1.2.2.1 yy.2.1.2.2.2.1 yy.2.1.2.2.2.2.1 yy.2.1.2.2.2.2.2.1 yy.2.1.2.2.2.2.2.2.1 y3 N K]
  exact h
noncomputable def f22_G0 : List TV → List Entry → (TV → List Entry → Prop) → Prop := fun tm hp K => getS [.v (.pagg [.str, .int .i64, .int .i64, .sl 5]), .v (.pagg [.int .i64, .str, .int .i64, .int .i64, .int .i64, .int .i64, .int .i64])] [] tm hp fun (xx : ((ByteArray × (Int × (Int × ((List (List PC) × Bool) × Unit)))) × ((Int × (ByteArray × (Int × (Int × (Int × (Int × (Int × Unit))))))) × Unit))) (yy : Unit) => f22 xx.1.1 xx.1.2.1 xx.1.2.2.1 xx.1.2.2.2.1.1 xx.1.2.2.2.1.2 xx.2.1.1 xx.2.1.2.1 xx.2.1.2.2.1 xx.2.1.2.2.2.1 xx.2.1.2.2.2.2.1 xx.2.1.2.2.2.2.2.1 xx.2.1.2.2.2.2.2.2.1 (fun es0_3 full0_4 n0_5 => K (.tup [.one (.p (.sl 10 es0_3 full0_4)), .one (.p (pI n0_5))]) [])
set_option maxRecDepth 100000 in
theorem f22_eq (s_45 : ByteArray) (n_46 : Int) (n_47 : Int) (es_48 : List (List PC)) (full_49 : Bool) (n_50 : Int) (s_51 : ByteArray) (n_52 : Int) (n_53 : Int) (n_54 : Int) (n_55 : Int) (n_56 : Int) (K : TV → List Entry → Prop) : (f22_d s_45 n_46 n_47 es_48 full_49 n_50 s_51 n_52 n_53 n_54 n_55 n_56 (fun es0_3 full0_4 n0_5 => K (.tup [.one (.p (.sl 10 es0_3 full0_4)), .one (.p (pI n0_5))]) [])) = funcT f22_C Tryd.f22 [.w (.pagg [pS s_45, pI n_46, pI n_47, .sl 5 es_48 full_49]), .w (.pagg [pI n_50, pS s_51, pI n_52, pI n_53, pI n_54, pI n_55, pI n_56])] [] K := by kernel_rfl
set_option maxHeartbeats 4000000 in
theorem f22_ok0 : FnOk Tryd.prog glob 22 f22_G0 := by
  refine FnOk.of_text (C := f22_C) tab_ok.ok (Known.add f56_G_ok (Known.add f20_G_ok (Known.none))) follows_ok (fn := Tryd.f22) (by kernel_rfl) (by kernel_rfl) (by kernel_rfl) (fun c hc => ?_) fun tm hp K h => ?_
  · have e : c = bodyOf Tryd.f22 := Option.some.inj (hc.symm.trans (by kernel_rfl))
    subst e
    exact ⟨LoopsOk.of [nthC (bodies (bodyOf Tryd.f22)) 0] (by kernel_rfl) ⟨f22_p12_ok, trivial⟩, TailsOk.of (tab := f22_tab) rfl [] (by kernel_rfl) trivial⟩
  · unfold f22_G0 at h
    obtain ⟨xx, yy, rfl, rfl, h⟩ := getS_elim h
    have e := (f22_eq xx.1.1 xx.1.2.1 xx.1.2.2.1 xx.1.2.2.2.1.1 xx.1.2.2.2.1.2 xx.2.1.1 xx.2.1.2.1 xx.2.1.2.2.1 xx.2.1.2.2.2.1 xx.2.1.2.2.2.2.1 xx.2.1.2.2.2.2.2.1 xx.2.1.2.2.2.2.2.2.1 K).trans (show _ = funcT f22_C Tryd.f22 (mkR _ xx) (mkE _ yy) K by kernel_rfl)
    rw [← e]
    exact h.run
noncomputable abbrev f22_G := f22_G0
theorem f22_G_ok : FnOk Tryd.prog glob 22 f22_G := f22_ok0
end Go.Eng.N
set_option linter.unusedVariables false
set_option maxRecDepth 100000
open Go Go.Eng Go.Proofs
namespace Go.Eng.N
/-! ### f19: plenum/notify.Told -/
noncomputable def f19_d (s1 : ByteArray) (n2 : Int) (n3 : Int) (es4 : List (List PC)) (full5 : Bool) (n6 : Int) (n7 : Int) (k0 : (List (List PC)) → Bool → Int → Prop) : Prop := f16 s1 n2 n3 es4 full5 (fun n8 => bB (n8 != 0) (k0 [] true n8) (f51 n6 n7 (fun n9 => bB (n9 != 0) (k0 [] true n9) (f52 s1 n2 n3 es4 full5 n6 n7 (fun es10 full11 => k0 es10 full11 0)))))
structure f19 (s1 : ByteArray) (n2 : Int) (n3 : Int) (es4 : List (List PC)) (full5 : Bool) (n6 : Int) (n7 : Int) (k0 : (List (List PC)) → Bool → Int → Prop) : Prop where
  run : f19_d s1 n2 n3 es4 full5 n6 n7 k0
noncomputable def f19_tab : List (Nat × Told) := []
noncomputable def f19_call : FuncId → List TV → List Entry → (TV → List Entry → Prop) → Prop := addCall 52 f52_G (addCall 51 f51_G (addCall 16 f16_G (noCalls)))
noncomputable def f19_C : Ctx := { ty := tyOf tab, glob := glob, byRef := byRef, keep := fun k i => lookN [] (lookN [] ([] : List (Nat × List (Nat × List Nat))) k) i, late := lookN [] ([] : List (Nat × List Nat)), nref := lookN [] ([] : List (Nat × List Nat)), nbox := lookN [] ([] : List (Nat × List (Nat × Nat))), take := [], rnil := false, m := 0, fz := true, loops := lookL f19_tab, call := f19_call }
noncomputable def f19_G0 : List TV → List Entry → (TV → List Entry → Prop) → Prop := fun tm hp K => getS [.v (.pagg [.str, .int .i64, .int .i64, .sl 5]), .v (.one (.int .i64)), .v (.one (.int .i64))] [] tm hp fun (xx : ((ByteArray × (Int × (Int × ((List (List PC) × Bool) × Unit)))) × (Int × (Int × Unit)))) (yy : Unit) => f19 xx.1.1 xx.1.2.1 xx.1.2.2.1 xx.1.2.2.2.1.1 xx.1.2.2.2.1.2 xx.2.1 xx.2.2.1 (fun es0_0 full0_1 n0_2 => K (.tup [.one (.p (.sl 1 es0_0 full0_1)), .one (.p (pI n0_2))]) [])
set_option maxRecDepth 100000 in
theorem f19_eq (s_3 : ByteArray) (n_4 : Int) (n_5 : Int) (es_6 : List (List PC)) (full_7 : Bool) (n_8 : Int) (n_9 : Int) (K : TV → List Entry → Prop) : (f19_d s_3 n_4 n_5 es_6 full_7 n_8 n_9 (fun es0_0 full0_1 n0_2 => K (.tup [.one (.p (.sl 1 es0_0 full0_1)), .one (.p (pI n0_2))]) [])) = funcT f19_C Tryd.f19 [.w (.pagg [pS s_3, pI n_4, pI n_5, .sl 5 es_6 full_7]), I n_8, I n_9] [] K := by kernel_rfl
set_option maxHeartbeats 4000000 in
theorem f19_ok0 : FnOk Tryd.prog glob 19 f19_G0 := by
  refine FnOk.of_text (C := f19_C) tab_ok.ok (Known.add f52_G_ok (Known.add f51_G_ok (Known.add f16_G_ok (Known.none)))) follows_ok (fn := Tryd.f19) (by kernel_rfl) (by kernel_rfl) (by kernel_rfl) (fun c hc => ?_) fun tm hp K h => ?_
  · have e : c = bodyOf Tryd.f19 := Option.some.inj (hc.symm.trans (by kernel_rfl))
    subst e
    exact ⟨LoopsOk.of [] (by kernel_rfl) trivial, TailsOk.of (tab := f19_tab) rfl [] (by kernel_rfl) trivial⟩
  · unfold f19_G0 at h
    obtain ⟨xx, yy, rfl, rfl, h⟩ := getS_elim h
    have e := (f19_eq xx.1.1 xx.1.2.1 xx.1.2.2.1 xx.1.2.2.2.1.1 xx.1.2.2.2.1.2 xx.2.1 xx.2.2.1 K).trans (show _ = funcT f19_C Tryd.f19 (mkR _ xx) (mkE _ yy) K by kernel_rfl)
    rw [← e]
    exact h.run
noncomputable abbrev f19_G := f19_G0
theorem f19_G_ok : FnOk Tryd.prog glob 19 f19_G := f19_ok0
end Go.Eng.N
set_option linter.unusedVariables false
set_option maxRecDepth 100000
open Go Go.Eng Go.Proofs
namespace Go.Eng.N
/-! ### f58: plenum/notify.plan -/
noncomputable def f58_p18b0 (n34 : Int) (n35 : Int) (n36 : Int) (es37 : List (List PC)) (full38 : Bool) (n39 : Int) (n40 : Int) (n41 : Int) (cs42 : List PC) (cs43 : List PC) (s44 : ByteArray) (n45 : Int) (n46 : Int) (n47 : Int) (n48 : Int) (N0 : Int → (List PC) → Prop) (k0 : (List PC) → Prop) : Prop := bB (decide (n36 ≤ n47)) ((0 ≤ n35 ∧ n35 < 7) ∧ (0 ≤ n36 ∧ n36 < 1440) ∧ oB (ext cs43 ((0 + ((Int.toNat n35) * 1440)) + ((Int.toNat n36) * 1)) 1) fun b49 => bB b49 ((0 ≤ n35 ∧ n35 < 7) ∧ (0 ≤ n36 ∧ n36 < 1440) ∧ 1 = 1 ∧ (((0 + ((Int.toNat n35) * 1440)) + ((Int.toNat n36) * 1)) + 1) ≤ cs43.length ∧ N0 (w64 (n36 + 1)) (splice cs43 ((0 + ((Int.toNat n35) * 1440)) + ((Int.toNat n36) * 1)) [pB true])) ((0 ≤ n35 ∧ n35 < 7) ∧ f91 s44 n45 n46 n47 n48 (w64 (n35 + 1)) n36 n34 (fun b50 => (0 ≤ n36 ∧ n36 < 1440) ∧ 1 = 1 ∧ (((0 + ((Int.toNat n35) * 1440)) + ((Int.toNat n36) * 1)) + 1) ≤ cs43.length ∧ N0 (w64 (n36 + 1)) (splice cs43 ((0 + ((Int.toNat n35) * 1440)) + ((Int.toNat n36) * 1)) [pB b50])))) (k0 cs43)
noncomputable def f58_p18 (n34 : Int) (n35 : Int) (es37 : List (List PC)) (full38 : Bool) (n39 : Int) (n40 : Int) (n41 : Int) (cs42 : List PC) (s44 : ByteArray) (n45 : Int) (n46 : Int) (n47 : Int) (n48 : Int) (k0 : (List PC) → Prop) : Int × (List PC) → Prop := LoopP fun x N => f58_p18b0 n34 n35 x.1 es37 full38 n39 n40 n41 cs42 x.2 s44 n45 n46 n47 n48 (fun n36 cs43 => N (n36, cs43)) k0
noncomputable def f58_p12b0 (n21 : Int) (es22 : List (List PC)) (full23 : Bool) (n24 : Int) (n25 : Int) (n26 : Int) (cs27 : List PC) (cs28 : List PC) (s29 : ByteArray) (n30 : Int) (n31 : Int) (n32 : Int) (n33 : Int) (N0 : Int → (List PC) → Prop) (k0 : (List PC) → Prop) : Prop := bB (decide (n26 < 7)) (f58_p18 n21 n26 es22 full23 n24 n25 n26 cs27 s29 n30 n31 n32 n33 (fun cs51 => N0 (w64 (n26 + 1)) cs51) (n31, cs28)) (k0 cs28)
noncomputable def f58_p12 (n21 : Int) (es22 : List (List PC)) (full23 : Bool) (n24 : Int) (n25 : Int) (cs27 : List PC) (s29 : ByteArray) (n30 : Int) (n31 : Int) (n32 : Int) (n33 : Int) (k0 : (List PC) → Prop) : Int × (List PC) → Prop := LoopP fun x N => f58_p12b0 n21 es22 full23 n24 n25 x.1 cs27 x.2 s29 n30 n31 n32 n33 (fun n26 cs28 => N (n26, cs28)) k0
noncomputable def f58_p6b0 (n4 : Int) (es5 : List (List PC)) (full6 : Bool) (n7 : Int) (n8 : Int) (cs9 : List PC) (cs10 : List PC) (N0 : Int → (List PC) → Prop) (k0 : (List PC) → Prop) : Prop := bB (decide (n8 < n7)) ((0 ≤ n8 ∧ n8 < ((es5.length : Nat) : Int)) ∧ cS (ext (List.getD es5 (Int.toNat n8) []) 0 5) fun s12 r11 => cI .i64 r11 fun n14 r13 => cI .i64 r13 fun n16 r15 => cI .i64 r15 fun n18 r17 => cI .i64 r17 fun n20 r19 => nilC r19 <| f58_p12 n4 es5 full6 n7 n8 cs9 s12 n14 n16 n18 n20 (fun cs52 => N0 (w64 (n8 + 1)) cs52) (0, cs10)) (k0 cs10)
noncomputable def f58_p6 (n4 : Int) (es5 : List (List PC)) (full6 : Bool) (n7 : Int) (cs9 : List PC) (k0 : (List PC) → Prop) : Int × (List PC) → Prop := LoopP fun x N => f58_p6b0 n4 es5 full6 n7 x.1 cs9 x.2 (fun n8 cs10 => N (n8, cs10)) k0
noncomputable def f58_d (es1 : List (List PC)) (full2 : Bool) (n3 : Int) (k0 : (List PC) → Prop) : Prop := f58_p6 n3 es1 full2 ((es1.length : Nat) : Int) (List.replicate 10080 (pB false)) (fun cs53 => (ext cs53 0 10080).length = 10080 ∧ (ext cs53 0 10080).length = 10080 ∧ 10080 ≤ (List.replicate 10080 (pB false)).length ∧ (ext (splice (List.replicate 10080 (pB false)) 0 (ext cs53 0 10080)) 0 10080).length = 10080 ∧ k0 (ext (splice (List.replicate 10080 (pB false)) 0 (ext cs53 0 10080)) 0 10080)) (0, (List.replicate 10080 (pB false)))
structure f58 (es1 : List (List PC)) (full2 : Bool) (n3 : Int) (k0 : (List PC) → Prop) : Prop where
  run : f58_d es1 full2 n3 k0
noncomputable def f58_p18L : Told := fun s K => match s with
  | ⟨tm, hp⟩ => getS [.skip 1, .v (.one (.int .i64)), .skip 2, .v (.one (.ptr 0 0 0)), .v (.one (.ptr 1 0 0)), .skip 1, .v (.one (.ptr 2 0 0)), .v (.one (.int .i64)), .v (.one (.int .i64)), .v (.one (.sl 5)), .v (.one (.int .i64)), .v (.one (.int .i64)), .skip 3, .v (.one (.int .i64)), .skip 30] [.pbox, .pbox, .box [.str, .int .i64, .int .i64, .int .i64, .int .i64]] tm hp fun (xx : (Unit × (Int × (Unit × (Unit × (Unit × (Unit × (Unit × (Int × (Int × ((List (List PC) × Bool) × (Int × (Int × (Unit × (Int × (Unit × Unit)))))))))))))))) (yy : ((List PC) × ((List PC) × ((ByteArray × (Int × (Int × (Int × (Int × Unit))))) × Unit)))) => f58_p18 xx.2.1 xx.2.2.2.2.2.2.2.1 xx.2.2.2.2.2.2.2.2.2.1.1 xx.2.2.2.2.2.2.2.2.2.1.2 xx.2.2.2.2.2.2.2.2.2.2.1 xx.2.2.2.2.2.2.2.2.2.2.2.1 xx.2.2.2.2.2.2.2.2.2.2.2.2.2.1 yy.1 yy.2.2.1.1 yy.2.2.1.2.1 yy.2.2.1.2.2.1 yy.2.2.1.2.2.2.1 yy.2.2.1.2.2.2.2.1 (fun cs0_0 => K (.exit 4) ⟨mkS 47 [(1, I xx.2.1), (4, .w (.one (.ptr 0 0 0))), (5, .w (.one (.ptr 1 0 0))), (7, .w (.one (.ptr 2 0 0))), (10, .w (.one (.p (.sl 5 xx.2.2.2.2.2.2.2.2.2.1.1 xx.2.2.2.2.2.2.2.2.2.1.2)))), (11, I xx.2.2.2.2.2.2.2.2.2.2.1), (12, I xx.2.2.2.2.2.2.2.2.2.2.2.1), (16, I xx.2.2.2.2.2.2.2.2.2.2.2.2.2.1)], [.pbox yy.1, .pbox cs0_0, .box [.p (pS yy.2.2.1.1), .p (pI yy.2.2.1.2.1), .p (pI yy.2.2.1.2.2.1), .p (pI yy.2.2.1.2.2.2.1), .p (pI yy.2.2.1.2.2.2.2.1)]]⟩) (xx.2.2.2.2.2.2.2.2.1, yy.2.1)
noncomputable def f58_p12L : Told := fun s K => match s with
  | ⟨tm, hp⟩ => getS [.skip 1, .v (.one (.int .i64)), .skip 2, .v (.one (.ptr 0 0 0)), .v (.one (.ptr 1 0 0)), .skip 1, .v (.one (.ptr 2 0 0)), .skip 2, .v (.one (.sl 5)), .v (.one (.int .i64)), .v (.one (.int .i64)), .skip 3, .v (.one (.int .i64)), .skip 30] [.pbox, .pbox, .box [.str, .int .i64, .int .i64, .int .i64, .int .i64]] tm hp fun (xx : (Unit × (Int × (Unit × (Unit × (Unit × (Unit × (Unit × (Unit × ((List (List PC) × Bool) × (Int × (Int × (Unit × (Int × (Unit × Unit))))))))))))))) (yy : ((List PC) × ((List PC) × ((ByteArray × (Int × (Int × (Int × (Int × Unit))))) × Unit)))) => f58_p12 xx.2.1 xx.2.2.2.2.2.2.2.2.1.1 xx.2.2.2.2.2.2.2.2.1.2 xx.2.2.2.2.2.2.2.2.2.1 xx.2.2.2.2.2.2.2.2.2.2.1 yy.1 yy.2.2.1.1 yy.2.2.1.2.1 yy.2.2.1.2.2.1 yy.2.2.1.2.2.2.1 yy.2.2.1.2.2.2.2.1 (fun cs0_1 => K (.exit 2) ⟨mkS 47 [(1, I xx.2.1), (4, .w (.one (.ptr 0 0 0))), (5, .w (.one (.ptr 1 0 0))), (10, .w (.one (.p (.sl 5 xx.2.2.2.2.2.2.2.2.1.1 xx.2.2.2.2.2.2.2.2.1.2)))), (11, I xx.2.2.2.2.2.2.2.2.2.1), (12, I xx.2.2.2.2.2.2.2.2.2.2.1)], [.pbox yy.1, .pbox cs0_1]⟩) (xx.2.2.2.2.2.2.2.2.2.2.2.2.1, yy.2.1)
noncomputable def f58_p6L : Told := fun s K => match s with
  | ⟨tm, hp⟩ => getS [.skip 1, .v (.one (.int .i64)), .skip 2, .v (.one (.ptr 0 0 0)), .v (.one (.ptr 1 0 0)), .skip 4, .v (.one (.sl 5)), .v (.one (.int .i64)), .v (.one (.int .i64)), .skip 34] [.pbox, .pbox] tm hp fun (xx : (Unit × (Int × (Unit × (Unit × (Unit × (Unit × ((List (List PC) × Bool) × (Int × (Int × (Unit × Unit))))))))))) (yy : ((List PC) × ((List PC) × Unit))) => f58_p6 xx.2.1 xx.2.2.2.2.2.2.1.1 xx.2.2.2.2.2.2.1.2 xx.2.2.2.2.2.2.2.1 yy.1 (fun cs0_2 => K (.exit 0) ⟨mkS 47 [(4, .w (.one (.ptr 0 0 0))), (5, .w (.one (.ptr 1 0 0)))], [.pbox yy.1, .pbox cs0_2]⟩) (xx.2.2.2.2.2.2.2.2.1, yy.2.1)
noncomputable def f58_tab : List (Nat × Told) := [(18, f58_p18L), (12, f58_p12L), (6, f58_p6L)]
noncomputable def f58_call : FuncId → List TV → List Entry → (TV → List Entry → Prop) → Prop := addCall 91 f91_G (noCalls)
noncomputable def f58_C : Ctx := { ty := tyOf tab, glob := glob, byRef := byRef, keep := fun k i => lookN [] (lookN [] ([(18, [(0, [1, 4, 5, 7, 8, 9, 10, 11, 12, 16]), (2, [4]), (3, [4, 5]), (4, [1, 4, 5, 10, 11, 12]), (5, [1, 4, 5, 10, 11, 12]), (6, [1, 4, 5, 7, 10, 11, 12, 16]), (7, [1, 4, 5, 7, 10, 11, 12, 16])]), (12, [(0, [1, 4, 5, 7, 10, 11, 12, 16]), (2, [4]), (3, [4, 5]), (4, [1, 4, 5, 10, 11, 12]), (5, [1, 4, 5, 10, 11, 12])]), (6, [(0, [1, 4, 5, 10, 11, 12]), (2, [4]), (3, [4, 5])])] : List (Nat × List (Nat × List Nat))) k) i, late := lookN [] ([] : List (Nat × List Nat)), nref := lookN [] ([] : List (Nat × List Nat)), nbox := lookN [] ([] : List (Nat × List (Nat × Nat))), take := [], rnil := true, m := 0, fz := false, loops := lookL f58_tab, call := f58_call }
noncomputable def f58_p18_mk (n34 : Int) (n35 : Int) (es37 : List (List PC)) (full38 : Bool) (n39 : Int) (n40 : Int) (n41 : Int) (cs42 : List PC) (s44 : ByteArray) (n45 : Int) (n46 : Int) (n47 : Int) (n48 : Int) (x : Int × (List PC)) : St := ⟨mkS 47 [(1, I n34), (4, .w (.one (.ptr 0 0 0))), (5, .w (.one (.ptr 1 0 0))), (7, .w (.one (.ptr 2 0 0))), (8, I n35), (9, I x.1), (10, .w (.one (.p (.sl 5 es37 full38)))), (11, I n39), (12, I n40), (16, I n41)], [.pbox cs42, .pbox x.2, .box [.p (pS s44), .p (pI n45), .p (pI n46), .p (pI n47), .p (pI n48)]]⟩
set_option maxRecDepth 100000 in
theorem f58_p18e0 (n_19 : Int) (n_20 : Int) (n_21 : Int) (es_22 : List (List PC)) (full_23 : Bool) (n_24 : Int) (n_25 : Int) (n_26 : Int) (cs_27 : List PC) (cs_28 : List PC) (s_29 : ByteArray) (n_30 : Int) (n_31 : Int) (n_32 : Int) (n_33 : Int) (N : St → Prop) (K : TExit → St → Prop) : (f58_p18b0 n_19 n_20 n_21 es_22 full_23 n_24 n_25 n_26 cs_27 cs_28 s_29 n_30 n_31 n_32 n_33 (fun z2 z9 => N (f58_p18_mk n_19 n_20 es_22 full_23 n_24 n_25 n_26 cs_27 s_29 n_30 n_31 n_32 n_33 (z2, z9))) (fun cs0_34 => K (.exit 4) ⟨mkS 47 [(1, I n_19), (4, .w (.one (.ptr 0 0 0))), (5, .w (.one (.ptr 1 0 0))), (7, .w (.one (.ptr 2 0 0))), (10, .w (.one (.p (.sl 5 es_22 full_23)))), (11, I n_24), (12, I n_25), (16, I n_26)], [.pbox cs_27, .pbox cs0_34, .box [.p (pS s_29), .p (pI n_30), .p (pI n_31), .p (pI n_32), .p (pI n_33)]]⟩)) = execT f58_C (nthC (bodies (bodyOf Tryd.f58)) 2) (f58_p18_mk n_19 n_20 es_22 full_23 n_24 n_25 n_26 cs_27 s_29 n_30 n_31 n_32 n_33 (n_21, cs_28)) (loopK N (normK f58_C 18) fun e s => K e (normOut f58_C 18 e s)) := by kernel_rfl
noncomputable def f58_p12_mk (n21 : Int) (es22 : List (List PC)) (full23 : Bool) (n24 : Int) (n25 : Int) (cs27 : List PC) (s29 : ByteArray) (n30 : Int) (n31 : Int) (n32 : Int) (n33 : Int) (x : Int × (List PC)) : St := ⟨mkS 47 [(1, I n21), (4, .w (.one (.ptr 0 0 0))), (5, .w (.one (.ptr 1 0 0))), (7, .w (.one (.ptr 2 0 0))), (10, .w (.one (.p (.sl 5 es22 full23)))), (11, I n24), (12, I n25), (16, I x.1)], [.pbox cs27, .pbox x.2, .box [.p (pS s29), .p (pI n30), .p (pI n31), .p (pI n32), .p (pI n33)]]⟩
set_option maxRecDepth 100000 in
theorem f58_p12e0 (n_48 : Int) (es_49 : List (List PC)) (full_50 : Bool) (n_51 : Int) (n_52 : Int) (n_53 : Int) (cs_54 : List PC) (cs_55 : List PC) (s_56 : ByteArray) (n_57 : Int) (n_58 : Int) (n_59 : Int) (n_60 : Int) (N : St → Prop) (K : TExit → St → Prop) : (f58_p12b0 n_48 es_49 full_50 n_51 n_52 n_53 cs_54 cs_55 s_56 n_57 n_58 n_59 n_60 (fun z5 z7 => N (f58_p12_mk n_48 es_49 full_50 n_51 n_52 cs_54 s_56 n_57 n_58 n_59 n_60 (z5, z7))) (fun cs0_61 => K (.exit 2) ⟨mkS 47 [(1, I n_48), (4, .w (.one (.ptr 0 0 0))), (5, .w (.one (.ptr 1 0 0))), (10, .w (.one (.p (.sl 5 es_49 full_50)))), (11, I n_51), (12, I n_52)], [.pbox cs_54, .pbox cs0_61]⟩)) = execT f58_C (nthC (bodies (bodyOf Tryd.f58)) 1) (f58_p12_mk n_48 es_49 full_50 n_51 n_52 cs_54 s_56 n_57 n_58 n_59 n_60 (n_53, cs_55)) (loopK N (normK f58_C 12) fun e s => K e (normOut f58_C 12 e s)) := by kernel_rfl
noncomputable def f58_p6_mk (n4 : Int) (es5 : List (List PC)) (full6 : Bool) (n7 : Int) (cs9 : List PC) (x : Int × (List PC)) : St := ⟨mkS 47 [(1, I n4), (4, .w (.one (.ptr 0 0 0))), (5, .w (.one (.ptr 1 0 0))), (10, .w (.one (.p (.sl 5 es5 full6)))), (11, I n7), (12, I x.1)], [.pbox cs9, .pbox x.2]⟩
set_option maxRecDepth 100000 in
theorem f58_p6e0 (n_69 : Int) (es_70 : List (List PC)) (full_71 : Bool) (n_72 : Int) (n_73 : Int) (cs_74 : List PC) (cs_75 : List PC) (N : St → Prop) (K : TExit → St → Prop) : (f58_p6b0 n_69 es_70 full_71 n_72 n_73 cs_74 cs_75 (fun z4 z6 => N (f58_p6_mk n_69 es_70 full_71 n_72 cs_74 (z4, z6))) (fun cs0_76 => K (.exit 0) ⟨mkS 47 [(4, .w (.one (.ptr 0 0 0))), (5, .w (.one (.ptr 1 0 0)))], [.pbox cs_74, .pbox cs0_76]⟩)) = execT f58_C (nthC (bodies (bodyOf Tryd.f58)) 0) (f58_p6_mk n_69 es_70 full_71 n_72 cs_74 (n_73, cs_75)) (loopK N (normK f58_C 6) fun e s => K e (normOut f58_C 6 e s)) := by kernel_rfl
set_option maxHeartbeats 4000000 in
theorem f58_p18_ok : LoopOk f58_C (nthC (bodies (bodyOf Tryd.f58)) 2) := by
  refine LoopOk.of f58_p18L (by kernel_rfl) fun σ K h => ?_
  have hk : loopKey (nthC (bodies (bodyOf Tryd.f58)) 2) = 18 := by kernel_rfl
  rw [hk] at h ⊢
  generalize hs : normK f58_C 18 σ = s at h
  obtain ⟨tm, hp⟩ := s
  unfold f58_p18L at h
  dsimp only at h
  obtain ⟨xx, yy, rfl, rfl, h⟩ := getS_elim h
  refine iter_of (f58_p18_mk xx.2.1 xx.2.2.2.2.2.2.2.1 xx.2.2.2.2.2.2.2.2.2.1.1 xx.2.2.2.2.2.2.2.2.2.1.2 xx.2.2.2.2.2.2.2.2.2.2.1 xx.2.2.2.2.2.2.2.2.2.2.2.1 xx.2.2.2.2.2.2.2.2.2.2.2.2.2.1 yy.1 yy.2.2.1.1 yy.2.2.1.2.1 yy.2.2.1.2.2.1 yy.2.2.1.2.2.2.1 yy.2.2.1.2.2.2.2.1) (fun x N h => ?_) rounds _ σ (hs.trans (by kernel_rfl)) (LoopP.run h)
  obtain ⟨y0, y1⟩ := x
  rw [← f58_p18e0 xx.2.1 xx.2.2.2.2.2.2.2.1 y0 xx.2.2.2.2.2.2.2.2.2.1.1 xx.2.2.2.2.2.2.2.2.2.1.2 xx.2.2.2.2.2.2.2.2.2.2.1 xx.2.2.2.2.2.2.2.2.2.2.2.1 xx.2.2.2.2.2.2.2.2.2.2.2.2.2.1 yy.1 y1 yy.2.2.1.1 yy.2.2.1.2.1 yy.2.2.1.2.2.1 yy.2.2.1.2.2.2.1 yy.2.2.1.2.2.2.2.1 N K]
  exact h
set_option maxHeartbeats 4000000 in
theorem f58_p12_ok : LoopOk f58_C (nthC (bodies (bodyOf Tryd.f58)) 1) := by
  refine LoopOk.of f58_p12L (by kernel_rfl) fun σ K h => ?_
  have hk : loopKey (nthC (bodies (bodyOf Tryd.f58)) 1) = 12 := by kernel_rfl
  rw [hk] at h ⊢
  generalize hs : normK f58_C 12 σ = s at h
  obtain ⟨tm, hp⟩ := s
  unfold f58_p12L at h
  dsimp only at h
  obtain ⟨xx, yy, rfl, rfl, h⟩ := getS_elim h
  refine iter_of (f58_p12_mk xx.2.1 xx.2.2.2.2.2.2.2.2.1.1 xx.2.2.2.2.2.2.2.2.1.2 xx.2.2.2.2.2.2.2.2.2.1 xx.2.2.2.2.2.2.2.2.2.2.1 yy.1 yy.2.2.1.1 yy.2.2.1.2.1 yy.2.2.1.2.2.1 yy.2.2.1.2.2.2.1 yy.2.2.1.2.2.2.2.1) (fun x N h => ?_) rounds _ σ (hs.trans (by kernel_rfl)) (LoopP.run h)
  obtain ⟨y0, y1⟩ := x
  rw [← f58_p12e0 xx.2.1 xx.2.2.2.2.2.2.2.2.1.1 xx.2.2.2.2.2.2.2.2.1.2 xx.2.2.2.2.2.2.2.2.2.1 xx.2.2.2.2.2.2.2.2.2.2.1 y0 yy.1 y1 yy.2.2.1.1 yy.2.2.1.2.1 yy.2.2.1.2.2.1 yy.2.2.1.2.2.2.1 yy.2.2.1.2.2.2.2.1 N K]
  exact h
set_option maxHeartbeats 4000000 in
theorem f58_p6_ok : LoopOk f58_C (nthC (bodies (bodyOf Tryd.f58)) 0) := by
  refine LoopOk.of f58_p6L (by kernel_rfl) fun σ K h => ?_
  have hk : loopKey (nthC (bodies (bodyOf Tryd.f58)) 0) = 6 := by kernel_rfl
  rw [hk] at h ⊢
  generalize hs : normK f58_C 6 σ = s at h
  obtain ⟨tm, hp⟩ := s
  unfold f58_p6L at h
  dsimp only at h
  obtain ⟨xx, yy, rfl, rfl, h⟩ := getS_elim h
  refine iter_of (f58_p6_mk xx.2.1 xx.2.2.2.2.2.2.1.1 xx.2.2.2.2.2.2.1.2 xx.2.2.2.2.2.2.2.1 yy.1) (fun x N h => ?_) rounds _ σ (hs.trans (by kernel_rfl)) (LoopP.run h)
  obtain ⟨y0, y1⟩ := x
  rw [← f58_p6e0 xx.2.1 xx.2.2.2.2.2.2.1.1 xx.2.2.2.2.2.2.1.2 xx.2.2.2.2.2.2.2.1 y0 yy.1 y1 N K]
  exact h
noncomputable def f58_G0 : List TV → List Entry → (TV → List Entry → Prop) → Prop := fun tm hp K => getS [.v (.one (.sl 5)), .v (.one (.int .i64))] [] tm hp fun (xx : ((List (List PC) × Bool) × (Int × Unit))) (yy : Unit) => f58 xx.1.1 xx.1.2 xx.2.1 (fun cs0_3 => K (.w (.pagg cs0_3)) [])
set_option maxRecDepth 100000 in
theorem f58_eq (es_77 : List (List PC)) (full_78 : Bool) (n_79 : Int) (K : TV → List Entry → Prop) : (f58_d es_77 full_78 n_79 (fun cs0_3 => K (.w (.pagg cs0_3)) [])) = funcT f58_C Tryd.f58 [.w (.one (.p (.sl 5 es_77 full_78))), I n_79] [] K := by kernel_rfl
set_option maxHeartbeats 4000000 in
theorem f58_ok0 : FnOk Tryd.prog glob 58 f58_G0 := by
  refine FnOk.of_text (C := f58_C) tab_ok.ok (Known.add f91_G_ok (Known.none)) follows_ok (fn := Tryd.f58) (by kernel_rfl) (by kernel_rfl) (by kernel_rfl) (fun c hc => ?_) fun tm hp K h => ?_
  · have e : c = bodyOf Tryd.f58 := Option.some.inj (hc.symm.trans (by kernel_rfl))
    subst e
    exact ⟨LoopsOk.of [nthC (bodies (bodyOf Tryd.f58)) 0, nthC (bodies (bodyOf Tryd.f58)) 1, nthC (bodies (bodyOf Tryd.f58)) 2] (by kernel_rfl) ⟨f58_p6_ok, f58_p12_ok, f58_p18_ok, trivial⟩, TailsOk.of (tab := f58_tab) rfl [] (by kernel_rfl) trivial⟩
  · unfold f58_G0 at h
    obtain ⟨xx, yy, rfl, rfl, h⟩ := getS_elim h
    have e := (f58_eq xx.1.1 xx.1.2 xx.2.1 K).trans (show _ = funcT f58_C Tryd.f58 (mkR _ xx) (mkE _ yy) K by kernel_rfl)
    rw [← e]
    exact h.run
noncomputable abbrev f58_G := f58_G0
theorem f58_G_ok : FnOk Tryd.prog glob 58 f58_G := f58_ok0
end Go.Eng.N
set_option linter.unusedVariables false
set_option maxRecDepth 100000
open Go Go.Eng Go.Proofs
namespace Go.Eng.N
/-! ### f58_1: plenum/notify.plan -/
noncomputable def f58_1_p18b0 (n37 : Int) (n38 : Int) (n39 : Int) (i40 : Nat) (n41 : Nat) (n42 : Int) (n43 : Int) (n44 : Int) (es45 : List (List PC)) (cs46 : List PC) (cs47 : List PC) (s48 : ByteArray) (n49 : Int) (n50 : Int) (n51 : Int) (n52 : Int) (N0 : Int → (List PC) → Prop) (k0 : (List PC) → Prop) : Prop := bB (decide (n39 ≤ n51)) ((0 ≤ n38 ∧ n38 < 7) ∧ (0 ≤ n39 ∧ n39 < 1440) ∧ oB (ext cs47 ((0 + ((Int.toNat n38) * 1440)) + ((Int.toNat n39) * 1)) 1) fun b53 => bB b53 ((0 ≤ n38 ∧ n38 < 7) ∧ (0 ≤ n39 ∧ n39 < 1440) ∧ 1 = 1 ∧ (((0 + ((Int.toNat n38) * 1440)) + ((Int.toNat n39) * 1)) + 1) ≤ cs47.length ∧ N0 (w64 (n39 + 1)) (splice cs47 ((0 + ((Int.toNat n38) * 1440)) + ((Int.toNat n39) * 1)) [pB true])) ((0 ≤ n38 ∧ n38 < 7) ∧ f91 s48 n49 n50 n51 n52 (w64 (n38 + 1)) n39 n37 (fun b54 => (0 ≤ n39 ∧ n39 < 1440) ∧ 1 = 1 ∧ (((0 + ((Int.toNat n38) * 1440)) + ((Int.toNat n39) * 1)) + 1) ≤ cs47.length ∧ N0 (w64 (n39 + 1)) (splice cs47 ((0 + ((Int.toNat n38) * 1440)) + ((Int.toNat n39) * 1)) [pB b54])))) (k0 cs47)
noncomputable def f58_1_p18 (n37 : Int) (n38 : Int) (i40 : Nat) (n41 : Nat) (n42 : Int) (n43 : Int) (n44 : Int) (es45 : List (List PC)) (cs46 : List PC) (s48 : ByteArray) (n49 : Int) (n50 : Int) (n51 : Int) (n52 : Int) (k0 : (List PC) → Prop) : Int × (List PC) → Prop := LoopP fun x N => f58_1_p18b0 n37 n38 x.1 i40 n41 n42 n43 n44 es45 cs46 x.2 s48 n49 n50 n51 n52 (fun n39 cs47 => N (n39, cs47)) k0
noncomputable def f58_1_p12b0 (n23 : Int) (i24 : Nat) (n25 : Nat) (n26 : Int) (n27 : Int) (n28 : Int) (es29 : List (List PC)) (cs30 : List PC) (cs31 : List PC) (s32 : ByteArray) (n33 : Int) (n34 : Int) (n35 : Int) (n36 : Int) (N0 : Int → (List PC) → Prop) (k0 : (List PC) → Prop) : Prop := bB (decide (n28 < 7)) (f58_1_p18 n23 n28 i24 n25 n26 n27 n28 es29 cs30 s32 n33 n34 n35 n36 (fun cs55 => N0 (w64 (n28 + 1)) cs55) (n34, cs31)) (k0 cs31)
noncomputable def f58_1_p12 (n23 : Int) (i24 : Nat) (n25 : Nat) (n26 : Int) (n27 : Int) (es29 : List (List PC)) (cs30 : List PC) (s32 : ByteArray) (n33 : Int) (n34 : Int) (n35 : Int) (n36 : Int) (k0 : (List PC) → Prop) : Int × (List PC) → Prop := LoopP fun x N => f58_1_p12b0 n23 i24 n25 n26 n27 x.1 es29 cs30 x.2 s32 n33 n34 n35 n36 (fun n28 cs31 => N (n28, cs31)) k0
noncomputable def f58_1_p6b0 (n5 : Int) (i6 : Nat) (n7 : Nat) (n8 : Int) (n9 : Int) (es10 : List (List PC)) (cs11 : List PC) (cs12 : List PC) (N0 : Int → (List PC) → Prop) (k0 : (List PC) → Prop) : Prop := bB (decide (n9 < n8)) ((0 ≤ n9 ∧ n9 < ((n7 : Nat) : Int)) ∧ cS (ext (List.getD es10 (i6 + (Int.toNat n9)) []) 0 5) fun s14 r13 => cI .i64 r13 fun n16 r15 => cI .i64 r15 fun n18 r17 => cI .i64 r17 fun n20 r19 => cI .i64 r19 fun n22 r21 => nilC r21 <| f58_1_p12 n5 i6 n7 n8 n9 es10 cs11 s14 n16 n18 n20 n22 (fun cs56 => N0 (w64 (n9 + 1)) cs56) (0, cs12)) (k0 cs12)
noncomputable def f58_1_p6 (n5 : Int) (i6 : Nat) (n7 : Nat) (n8 : Int) (es10 : List (List PC)) (cs11 : List PC) (k0 : (List PC) → Prop) : Int × (List PC) → Prop := LoopP fun x N => f58_1_p6b0 n5 i6 n7 n8 x.1 es10 cs11 x.2 (fun n9 cs12 => N (n9, cs12)) k0
noncomputable def f58_1_d (i1 : Nat) (n2 : Nat) (n3 : Int) (es4 : List (List PC)) (k0 : (List PC) → (List (List PC)) → Prop) : Prop := f58_1_p6 n3 i1 n2 ((n2 : Nat) : Int) es4 (List.replicate 10080 (pB false)) (fun cs57 => (ext cs57 0 10080).length = 10080 ∧ (ext cs57 0 10080).length = 10080 ∧ 10080 ≤ (List.replicate 10080 (pB false)).length ∧ (ext (splice (List.replicate 10080 (pB false)) 0 (ext cs57 0 10080)) 0 10080).length = 10080 ∧ k0 (ext (splice (List.replicate 10080 (pB false)) 0 (ext cs57 0 10080)) 0 10080) es4) (0, (List.replicate 10080 (pB false)))
structure f58_1 (i1 : Nat) (n2 : Nat) (n3 : Int) (es4 : List (List PC)) (k0 : (List PC) → (List (List PC)) → Prop) : Prop where
  run : f58_1_d i1 n2 n3 es4 k0
noncomputable def f58_1_p18L : Told := fun s K => match s with
  | ⟨tm, hp⟩ => getS [.skip 1, .v (.one (.int .i64)), .skip 2, .v (.one (.ptr 1 0 0)), .v (.one (.ptr 2 0 0)), .skip 1, .v (.one (.ptr 3 0 0)), .v (.one (.int .i64)), .v (.one (.int .i64)), .v (.one (.ref 0)), .v (.one (.int .i64)), .v (.one (.int .i64)), .skip 3, .v (.one (.int .i64)), .skip 30] [.vec 5 true, .pbox, .pbox, .box [.str, .int .i64, .int .i64, .int .i64, .int .i64]] tm hp fun (xx : (Unit × (Int × (Unit × (Unit × (Unit × (Unit × (Unit × (Int × (Int × ((Nat × Nat) × (Int × (Int × (Unit × (Int × (Unit × Unit)))))))))))))))) (yy : ((List (List PC)) × ((List PC) × ((List PC) × ((ByteArray × (Int × (Int × (Int × (Int × Unit))))) × Unit))))) => f58_1_p18 xx.2.1 xx.2.2.2.2.2.2.2.1 xx.2.2.2.2.2.2.2.2.2.1.1 xx.2.2.2.2.2.2.2.2.2.1.2 xx.2.2.2.2.2.2.2.2.2.2.1 xx.2.2.2.2.2.2.2.2.2.2.2.1 xx.2.2.2.2.2.2.2.2.2.2.2.2.2.1 yy.1 yy.2.1 yy.2.2.2.1.1 yy.2.2.2.1.2.1 yy.2.2.2.1.2.2.1 yy.2.2.2.1.2.2.2.1 yy.2.2.2.1.2.2.2.2.1 (fun cs0_0 => K (.exit 4) ⟨mkS 47 [(1, I xx.2.1), (4, .w (.one (.ptr 1 0 0))), (5, .w (.one (.ptr 2 0 0))), (7, .w (.one (.ptr 3 0 0))), (10, .w (.one (.ref 0 xx.2.2.2.2.2.2.2.2.2.1.1 xx.2.2.2.2.2.2.2.2.2.1.2))), (11, I xx.2.2.2.2.2.2.2.2.2.2.1), (12, I xx.2.2.2.2.2.2.2.2.2.2.2.1), (16, I xx.2.2.2.2.2.2.2.2.2.2.2.2.2.1)], [.vec 5 yy.1 true, .pbox yy.2.1, .pbox cs0_0, .box [.p (pS yy.2.2.2.1.1), .p (pI yy.2.2.2.1.2.1), .p (pI yy.2.2.2.1.2.2.1), .p (pI yy.2.2.2.1.2.2.2.1), .p (pI yy.2.2.2.1.2.2.2.2.1)]]⟩) (xx.2.2.2.2.2.2.2.2.1, yy.2.2.1)
noncomputable def f58_1_p12L : Told := fun s K => match s with
  | ⟨tm, hp⟩ => getS [.skip 1, .v (.one (.int .i64)), .skip 2, .v (.one (.ptr 1 0 0)), .v (.one (.ptr 2 0 0)), .skip 1, .v (.one (.ptr 3 0 0)), .skip 2, .v (.one (.ref 0)), .v (.one (.int .i64)), .v (.one (.int .i64)), .skip 3, .v (.one (.int .i64)), .skip 30] [.vec 5 true, .pbox, .pbox, .box [.str, .int .i64, .int .i64, .int .i64, .int .i64]] tm hp fun (xx : (Unit × (Int × (Unit × (Unit × (Unit × (Unit × (Unit × (Unit × ((Nat × Nat) × (Int × (Int × (Unit × (Int × (Unit × Unit))))))))))))))) (yy : ((List (List PC)) × ((List PC) × ((List PC) × ((ByteArray × (Int × (Int × (Int × (Int × Unit))))) × Unit))))) => f58_1_p12 xx.2.1 xx.2.2.2.2.2.2.2.2.1.1 xx.2.2.2.2.2.2.2.2.1.2 xx.2.2.2.2.2.2.2.2.2.1 xx.2.2.2.2.2.2.2.2.2.2.1 yy.1 yy.2.1 yy.2.2.2.1.1 yy.2.2.2.1.2.1 yy.2.2.2.1.2.2.1 yy.2.2.2.1.2.2.2.1 yy.2.2.2.1.2.2.2.2.1 (fun cs0_1 => K (.exit 2) ⟨mkS 47 [(1, I xx.2.1), (4, .w (.one (.ptr 1 0 0))), (5, .w (.one (.ptr 2 0 0))), (10, .w (.one (.ref 0 xx.2.2.2.2.2.2.2.2.1.1 xx.2.2.2.2.2.2.2.2.1.2))), (11, I xx.2.2.2.2.2.2.2.2.2.1), (12, I xx.2.2.2.2.2.2.2.2.2.2.1)], [.vec 5 yy.1 true, .pbox yy.2.1, .pbox cs0_1]⟩) (xx.2.2.2.2.2.2.2.2.2.2.2.2.1, yy.2.2.1)
noncomputable def f58_1_p6L : Told := fun s K => match s with
  | ⟨tm, hp⟩ => getS [.skip 1, .v (.one (.int .i64)), .skip 2, .v (.one (.ptr 1 0 0)), .v (.one (.ptr 2 0 0)), .skip 4, .v (.one (.ref 0)), .v (.one (.int .i64)), .v (.one (.int .i64)), .skip 34] [.vec 5 true, .pbox, .pbox] tm hp fun (xx : (Unit × (Int × (Unit × (Unit × (Unit × (Unit × ((Nat × Nat) × (Int × (Int × (Unit × Unit))))))))))) (yy : ((List (List PC)) × ((List PC) × ((List PC) × Unit)))) => f58_1_p6 xx.2.1 xx.2.2.2.2.2.2.1.1 xx.2.2.2.2.2.2.1.2 xx.2.2.2.2.2.2.2.1 yy.1 yy.2.1 (fun cs0_2 => K (.exit 0) ⟨mkS 47 [(4, .w (.one (.ptr 1 0 0))), (5, .w (.one (.ptr 2 0 0)))], [.vec 5 yy.1 true, .pbox yy.2.1, .pbox cs0_2]⟩) (xx.2.2.2.2.2.2.2.2.1, yy.2.2.1)
noncomputable def f58_1_tab : List (Nat × Told) := [(18, f58_1_p18L), (12, f58_1_p12L), (6, f58_1_p6L)]
noncomputable def f58_1_call : FuncId → List TV → List Entry → (TV → List Entry → Prop) → Prop := addCall 91 f91_G (noCalls)
noncomputable def f58_1_C : Ctx := { ty := tyOf tab, glob := glob, byRef := byRef, keep := fun k i => lookN [] (lookN [] ([(18, [(0, [1, 4, 5, 7, 8, 9, 10, 11, 12, 16]), (2, [4]), (3, [4, 5]), (4, [1, 4, 5, 10, 11, 12]), (5, [1, 4, 5, 10, 11, 12]), (6, [1, 4, 5, 7, 10, 11, 12, 16]), (7, [1, 4, 5, 7, 10, 11, 12, 16])]), (12, [(0, [1, 4, 5, 7, 10, 11, 12, 16]), (2, [4]), (3, [4, 5]), (4, [1, 4, 5, 10, 11, 12]), (5, [1, 4, 5, 10, 11, 12])]), (6, [(0, [1, 4, 5, 10, 11, 12]), (2, [4]), (3, [4, 5])])] : List (Nat × List (Nat × List Nat))) k) i, late := lookN [] ([] : List (Nat × List Nat)), nref := lookN [] ([] : List (Nat × List Nat)), nbox := lookN [] ([] : List (Nat × List (Nat × Nat))), take := [], rnil := true, m := 1, fz := false, loops := lookL f58_1_tab, call := f58_1_call }
noncomputable def f58_1_p18_mk (n37 : Int) (n38 : Int) (i40 : Nat) (n41 : Nat) (n42 : Int) (n43 : Int) (n44 : Int) (es45 : List (List PC)) (cs46 : List PC) (s48 : ByteArray) (n49 : Int) (n50 : Int) (n51 : Int) (n52 : Int) (x : Int × (List PC)) : St := ⟨mkS 47 [(1, I n37), (4, .w (.one (.ptr 1 0 0))), (5, .w (.one (.ptr 2 0 0))), (7, .w (.one (.ptr 3 0 0))), (8, I n38), (9, I x.1), (10, .w (.one (.ref 0 i40 n41))), (11, I n42), (12, I n43), (16, I n44)], [.vec 5 es45 true, .pbox cs46, .pbox x.2, .box [.p (pS s48), .p (pI n49), .p (pI n50), .p (pI n51), .p (pI n52)]]⟩
set_option maxRecDepth 100000 in
theorem f58_1_p18e0 (n_21 : Int) (n_22 : Int) (n_23 : Int) (i_24 : Nat) (n_25 : Nat) (n_26 : Int) (n_27 : Int) (n_28 : Int) (es_29 : List (List PC)) (cs_30 : List PC) (cs_31 : List PC) (s_32 : ByteArray) (n_33 : Int) (n_34 : Int) (n_35 : Int) (n_36 : Int) (N : St → Prop) (K : TExit → St → Prop) : (f58_1_p18b0 n_21 n_22 n_23 i_24 n_25 n_26 n_27 n_28 es_29 cs_30 cs_31 s_32 n_33 n_34 n_35 n_36 (fun z2 z10 => N (f58_1_p18_mk n_21 n_22 i_24 n_25 n_26 n_27 n_28 es_29 cs_30 s_32 n_33 n_34 n_35 n_36 (z2, z10))) (fun cs0_37 => K (.exit 4) ⟨mkS 47 [(1, I n_21), (4, .w (.one (.ptr 1 0 0))), (5, .w (.one (.ptr 2 0 0))), (7, .w (.one (.ptr 3 0 0))), (10, .w (.one (.ref 0 i_24 n_25))), (11, I n_26), (12, I n_27), (16, I n_28)], [.vec 5 es_29 true, .pbox cs_30, .pbox cs0_37, .box [.p (pS s_32), .p (pI n_33), .p (pI n_34), .p (pI n_35), .p (pI n_36)]]⟩)) = execT f58_1_C (nthC (bodies (bodyOf Tryd.f58)) 2) (f58_1_p18_mk n_21 n_22 i_24 n_25 n_26 n_27 n_28 es_29 cs_30 s_32 n_33 n_34 n_35 n_36 (n_23, cs_31)) (loopK N (normK f58_1_C 18) fun e s => K e (normOut f58_1_C 18 e s)) := by kernel_rfl
noncomputable def f58_1_p12_mk (n23 : Int) (i24 : Nat) (n25 : Nat) (n26 : Int) (n27 : Int) (es29 : List (List PC)) (cs30 : List PC) (s32 : ByteArray) (n33 : Int) (n34 : Int) (n35 : Int) (n36 : Int) (x : Int × (List PC)) : St := ⟨mkS 47 [(1, I n23), (4, .w (.one (.ptr 1 0 0))), (5, .w (.one (.ptr 2 0 0))), (7, .w (.one (.ptr 3 0 0))), (10, .w (.one (.ref 0 i24 n25))), (11, I n26), (12, I n27), (16, I x.1)], [.vec 5 es29 true, .pbox cs30, .pbox x.2, .box [.p (pS s32), .p (pI n33), .p (pI n34), .p (pI n35), .p (pI n36)]]⟩
set_option maxRecDepth 100000 in
theorem f58_1_p12e0 (n_52 : Int) (i_53 : Nat) (n_54 : Nat) (n_55 : Int) (n_56 : Int) (n_57 : Int) (es_58 : List (List PC)) (cs_59 : List PC) (cs_60 : List PC) (s_61 : ByteArray) (n_62 : Int) (n_63 : Int) (n_64 : Int) (n_65 : Int) (N : St → Prop) (K : TExit → St → Prop) : (f58_1_p12b0 n_52 i_53 n_54 n_55 n_56 n_57 es_58 cs_59 cs_60 s_61 n_62 n_63 n_64 n_65 (fun z5 z8 => N (f58_1_p12_mk n_52 i_53 n_54 n_55 n_56 es_58 cs_59 s_61 n_62 n_63 n_64 n_65 (z5, z8))) (fun cs0_66 => K (.exit 2) ⟨mkS 47 [(1, I n_52), (4, .w (.one (.ptr 1 0 0))), (5, .w (.one (.ptr 2 0 0))), (10, .w (.one (.ref 0 i_53 n_54))), (11, I n_55), (12, I n_56)], [.vec 5 es_58 true, .pbox cs_59, .pbox cs0_66]⟩)) = execT f58_1_C (nthC (bodies (bodyOf Tryd.f58)) 1) (f58_1_p12_mk n_52 i_53 n_54 n_55 n_56 es_58 cs_59 s_61 n_62 n_63 n_64 n_65 (n_57, cs_60)) (loopK N (normK f58_1_C 12) fun e s => K e (normOut f58_1_C 12 e s)) := by kernel_rfl
noncomputable def f58_1_p6_mk (n5 : Int) (i6 : Nat) (n7 : Nat) (n8 : Int) (es10 : List (List PC)) (cs11 : List PC) (x : Int × (List PC)) : St := ⟨mkS 47 [(1, I n5), (4, .w (.one (.ptr 1 0 0))), (5, .w (.one (.ptr 2 0 0))), (10, .w (.one (.ref 0 i6 n7))), (11, I n8), (12, I x.1)], [.vec 5 es10 true, .pbox cs11, .pbox x.2]⟩
set_option maxRecDepth 100000 in
theorem f58_1_p6e0 (n_75 : Int) (i_76 : Nat) (n_77 : Nat) (n_78 : Int) (n_79 : Int) (es_80 : List (List PC)) (cs_81 : List PC) (cs_82 : List PC) (N : St → Prop) (K : TExit → St → Prop) : (f58_1_p6b0 n_75 i_76 n_77 n_78 n_79 es_80 cs_81 cs_82 (fun z4 z7 => N (f58_1_p6_mk n_75 i_76 n_77 n_78 es_80 cs_81 (z4, z7))) (fun cs0_83 => K (.exit 0) ⟨mkS 47 [(4, .w (.one (.ptr 1 0 0))), (5, .w (.one (.ptr 2 0 0)))], [.vec 5 es_80 true, .pbox cs_81, .pbox cs0_83]⟩)) = execT f58_1_C (nthC (bodies (bodyOf Tryd.f58)) 0) (f58_1_p6_mk n_75 i_76 n_77 n_78 es_80 cs_81 (n_79, cs_82)) (loopK N (normK f58_1_C 6) fun e s => K e (normOut f58_1_C 6 e s)) := by kernel_rfl
set_option maxHeartbeats 4000000 in
theorem f58_1_p18_ok : LoopOk f58_1_C (nthC (bodies (bodyOf Tryd.f58)) 2) := by
  refine LoopOk.of f58_1_p18L (by kernel_rfl) fun σ K h => ?_
  have hk : loopKey (nthC (bodies (bodyOf Tryd.f58)) 2) = 18 := by kernel_rfl
  rw [hk] at h ⊢
  generalize hs : normK f58_1_C 18 σ = s at h
  obtain ⟨tm, hp⟩ := s
  unfold f58_1_p18L at h
  dsimp only at h
  obtain ⟨xx, yy, rfl, rfl, h⟩ := getS_elim h
  refine iter_of (f58_1_p18_mk xx.2.1 xx.2.2.2.2.2.2.2.1 xx.2.2.2.2.2.2.2.2.2.1.1 xx.2.2.2.2.2.2.2.2.2.1.2 xx.2.2.2.2.2.2.2.2.2.2.1 xx.2.2.2.2.2.2.2.2.2.2.2.1 xx.2.2.2.2.2.2.2.2.2.2.2.2.2.1 yy.1 yy.2.1 yy.2.2.2.1.1 yy.2.2.2.1.2.1 yy.2.2.2.1.2.2.1 yy.2.2.2.1.2.2.2.1 yy.2.2.2.1.2.2.2.2.1) (fun x N h => ?_) rounds _ σ (hs.trans (by kernel_rfl)) (LoopP.run h)
  obtain ⟨y0, y1⟩ := x
  rw [← f58_1_p18e0 xx.2.1 xx.2.2.2.2.2.2.2.1 y0 xx.2.2.2.2.2.2.2.2.2.1.1 xx.2.2.2.2.2.2.2.2.2.1.2 xx.2.2.2.2.2.2.2.2.2.2.1 xx.2.2.2.2.2.2.2.2.2.2.2.1 xx.2.2.2.2.2.2.2.2.2.2.2.2.2.1 yy.1 yy.2.1 y1 yy.2.2.2.1.1 yy.2.2.2.1.2.1 yy.2.2.2.1.2.2.1 yy.2.2.2.1.2.2.2.1 yy.2.2.2.1.2.2.2.2.1 N K]
  exact h
set_option maxHeartbeats 4000000 in
theorem f58_1_p12_ok : LoopOk f58_1_C (nthC (bodies (bodyOf Tryd.f58)) 1) := by
  refine LoopOk.of f58_1_p12L (by kernel_rfl) fun σ K h => ?_
  have hk : loopKey (nthC (bodies (bodyOf Tryd.f58)) 1) = 12 := by kernel_rfl
  rw [hk] at h ⊢
  generalize hs : normK f58_1_C 12 σ = s at h
  obtain ⟨tm, hp⟩ := s
  unfold f58_1_p12L at h
  dsimp only at h
  obtain ⟨xx, yy, rfl, rfl, h⟩ := getS_elim h
  refine iter_of (f58_1_p12_mk xx.2.1 xx.2.2.2.2.2.2.2.2.1.1 xx.2.2.2.2.2.2.2.2.1.2 xx.2.2.2.2.2.2.2.2.2.1 xx.2.2.2.2.2.2.2.2.2.2.1 yy.1 yy.2.1 yy.2.2.2.1.1 yy.2.2.2.1.2.1 yy.2.2.2.1.2.2.1 yy.2.2.2.1.2.2.2.1 yy.2.2.2.1.2.2.2.2.1) (fun x N h => ?_) rounds _ σ (hs.trans (by kernel_rfl)) (LoopP.run h)
  obtain ⟨y0, y1⟩ := x
  rw [← f58_1_p12e0 xx.2.1 xx.2.2.2.2.2.2.2.2.1.1 xx.2.2.2.2.2.2.2.2.1.2 xx.2.2.2.2.2.2.2.2.2.1 xx.2.2.2.2.2.2.2.2.2.2.1 y0 yy.1 yy.2.1 y1 yy.2.2.2.1.1 yy.2.2.2.1.2.1 yy.2.2.2.1.2.2.1 yy.2.2.2.1.2.2.2.1 yy.2.2.2.1.2.2.2.2.1 N K]
  exact h
set_option maxHeartbeats 4000000 in
theorem f58_1_p6_ok : LoopOk f58_1_C (nthC (bodies (bodyOf Tryd.f58)) 0) := by
  refine LoopOk.of f58_1_p6L (by kernel_rfl) fun σ K h => ?_
  have hk : loopKey (nthC (bodies (bodyOf Tryd.f58)) 0) = 6 := by kernel_rfl
  rw [hk] at h ⊢
  generalize hs : normK f58_1_C 6 σ = s at h
  obtain ⟨tm, hp⟩ := s
  unfold f58_1_p6L at h
  dsimp only at h
  obtain ⟨xx, yy, rfl, rfl, h⟩ := getS_elim h
  refine iter_of (f58_1_p6_mk xx.2.1 xx.2.2.2.2.2.2.1.1 xx.2.2.2.2.2.2.1.2 xx.2.2.2.2.2.2.2.1 yy.1 yy.2.1) (fun x N h => ?_) rounds _ σ (hs.trans (by kernel_rfl)) (LoopP.run h)
  obtain ⟨y0, y1⟩ := x
  rw [← f58_1_p6e0 xx.2.1 xx.2.2.2.2.2.2.1.1 xx.2.2.2.2.2.2.1.2 xx.2.2.2.2.2.2.2.1 y0 yy.1 yy.2.1 y1 N K]
  exact h
noncomputable def f58_1_G0 : List TV → List Entry → (TV → List Entry → Prop) → Prop := fun tm hp K => getS [.v (.one (.ref 0)), .v (.one (.int .i64))] [.vec 5 true] tm hp fun (xx : ((Nat × Nat) × (Int × Unit))) (yy : ((List (List PC)) × Unit)) => f58_1 xx.1.1 xx.1.2 xx.2.1 yy.1 (fun cs0_3 es0_4 => K (.w (.pagg cs0_3)) [.vec 5 es0_4 true])
set_option maxRecDepth 100000 in
theorem f58_1_eq (i_84 : Nat) (n_85 : Nat) (n_86 : Int) (es_87 : List (List PC)) (K : TV → List Entry → Prop) : (f58_1_d i_84 n_85 n_86 es_87 (fun cs0_3 es0_4 => K (.w (.pagg cs0_3)) [.vec 5 es0_4 true])) = funcT f58_1_C Tryd.f58 [.w (.one (.ref 0 i_84 n_85)), I n_86] [.vec 5 es_87 true] K := by kernel_rfl
set_option maxHeartbeats 4000000 in
theorem f58_1_ok0 : FnOk Tryd.prog glob 58 f58_1_G0 := by
  refine FnOk.of_text (C := f58_1_C) tab_ok.ok (Known.add f91_G_ok (Known.none)) follows_ok (fn := Tryd.f58) (by kernel_rfl) (by kernel_rfl) (by kernel_rfl) (fun c hc => ?_) fun tm hp K h => ?_
  · have e : c = bodyOf Tryd.f58 := Option.some.inj (hc.symm.trans (by kernel_rfl))
    subst e
    exact ⟨LoopsOk.of [nthC (bodies (bodyOf Tryd.f58)) 0, nthC (bodies (bodyOf Tryd.f58)) 1, nthC (bodies (bodyOf Tryd.f58)) 2] (by kernel_rfl) ⟨f58_1_p6_ok, f58_1_p12_ok, f58_1_p18_ok, trivial⟩, TailsOk.of (tab := f58_1_tab) rfl [] (by kernel_rfl) trivial⟩
  · unfold f58_1_G0 at h
    obtain ⟨xx, yy, rfl, rfl, h⟩ := getS_elim h
    have e := (f58_1_eq xx.1.1 xx.1.2 xx.2.1 yy.1 K).trans (show _ = funcT f58_1_C Tryd.f58 (mkR _ xx) (mkE _ yy) K by kernel_rfl)
    rw [← e]
    exact h.run
noncomputable def f58_1_G : List TV → List Entry → (TV → List Entry → Prop) → Prop := fun args H K => bif isSig (sigOf args H) [100, 2, 7, 22] then f58_1_G0 args H K else f58_G args H K
theorem f58_1_G_ok : FnOk Tryd.prog glob 58 f58_1_G := FnOk.or _ f58_1_ok0 f58_G_ok
end Go.Eng.N
set_option linter.unusedVariables false
set_option maxRecDepth 100000
open Go Go.Eng Go.Proofs
namespace Go.Eng.N
/-! ### f25: plenum/notify.Gaps -/
noncomputable def f25_p22b0 (i16 : Nat) (n17 : Nat) (n18 : Int) (cs19 : List PC) (n20 : Int) (cs21 : List PC) (n22 : Int) (es23 : List (List PC)) (cs24 : List PC) (N0 : Nat → Nat → Int → (List (List PC)) → Prop) (k0 : Nat → Nat → (List (List PC)) → Prop) : Prop := bB (decide (n22 < 1440)) ((0 ≤ n22 ∧ n22 < 1440) ∧ oB (ext cs21 ((Int.toNat n22) * 1) 1) fun b25 => bB b25 (N0 i16 n17 (w64 (n22 + 1)) es23) (bB (decide (n22 > 0)) ((0 ≤ (w64 (n22 - 1)) ∧ (w64 (n22 - 1)) < 1440) ∧ oB (ext cs24 (0 + ((Int.toNat (w64 (n22 - 1))) * 1)) 1) fun b26 => bB (!b26) ((0 ≤ (w64 (((n17 : Nat) : Int) - 1)) ∧ (w64 (((n17 : Nat) : Int) - 1)) < ((n17 : Nat) : Int)) ∧ (i16 + (Int.toNat (w64 (((n17 : Nat) : Int) - 1)))) < es23.length ∧ N0 i16 n17 (w64 (n22 + 1)) (List.set es23 (i16 + (Int.toNat (w64 (((n17 : Nat) : Int) - 1)))) (splice (List.getD es23 (i16 + (Int.toNat (w64 (((n17 : Nat) : Int) - 1)))) []) 2 [pI n22]))) ((i16 + n17) = es23.length ∧ (n17 + 1) * 24 ≤ 2 ^ 46 ∧ (n17 + 1) ≤ 2 ^ 46 ∧ N0 0 (n17 + 1) (w64 (n22 + 1)) (List.drop i16 es23 ++ [[pI (w64 (n18 + 1)), pI n22, pI n22]]))) ((i16 + n17) = es23.length ∧ (n17 + 1) * 24 ≤ 2 ^ 46 ∧ (n17 + 1) ≤ 2 ^ 46 ∧ N0 0 (n17 + 1) (w64 (n22 + 1)) (List.drop i16 es23 ++ [[pI (w64 (n18 + 1)), pI n22, pI n22]])))) (k0 i16 n17 es23)
noncomputable def f25_p22 (n18 : Int) (cs19 : List PC) (n20 : Int) (cs21 : List PC) (cs24 : List PC) (k0 : Nat → Nat → (List (List PC)) → Prop) : Nat × Nat × Int × (List (List PC)) → Prop := LoopP fun x N => f25_p22b0 x.1 x.2.1 n18 cs19 n20 cs21 x.2.2.1 x.2.2.2 cs24 (fun i16 n17 n22 es23 => N (i16, n17, n22, es23)) k0
noncomputable def f25_p16b0 (i11 : Nat) (n12 : Nat) (cs13 : List PC) (n14 : Int) (es15 : List (List PC)) (N0 : Nat → Nat → Int → (List (List PC)) → Prop) (k0 : Nat → Nat → (List (List PC)) → Prop) : Prop := bB (decide (n14 < 7)) ((0 ≤ n14 ∧ n14 < 7) ∧ (ext cs13 ((Int.toNat n14) * 1440) 1440).length = 1440 ∧ (ext cs13 ((Int.toNat n14) * 1440) 1440).length = 1440 ∧ 1440 ≤ 1440 ∧ (ext (splice (List.replicate 1440 (pB false)) 0 (ext cs13 ((Int.toNat n14) * 1440) 1440)) 0 1440).length = 1440 ∧ f25_p22 n14 cs13 n14 (ext (splice (List.replicate 1440 (pB false)) 0 (ext cs13 ((Int.toNat n14) * 1440) 1440)) 0 1440) (splice (List.replicate 1440 (pB false)) 0 (ext cs13 ((Int.toNat n14) * 1440) 1440)) (fun i27 n28 es29 => N0 i27 n28 (w64 (n14 + 1)) es29) (i11, n12, 0, es15)) (k0 i11 n12 es15)
noncomputable def f25_p16 (cs13 : List PC) (k0 : Nat → Nat → (List (List PC)) → Prop) : Nat × Nat × Int × (List (List PC)) → Prop := LoopP fun x N => f25_p16b0 x.1 x.2.1 cs13 x.2.2.1 x.2.2.2 (fun i11 n12 n14 es15 => N (i11, n12, n14, es15)) k0
noncomputable def f25_d (s1 : ByteArray) (n2 : Int) (n3 : Int) (es4 : List (List PC)) (full5 : Bool) (n6 : Int) (k0 : (List (List PC)) → Bool → Int → Prop) : Prop := f16 s1 n2 n3 es4 full5 (fun n7 => bB (n7 != 0) (k0 [] true n7) (f57 n6 (fun b8 => bB (!b8) (k0 [] true 6) (f59 n6 (fun n9 => f58 es4 full5 n9 (fun cs10 => f25_p16 cs10 (fun i30 n31 es32 => k0 (List.take n31 (List.drop i30 es32)) false 0) (0, 0, 0, [])))))))
structure f25 (s1 : ByteArray) (n2 : Int) (n3 : Int) (es4 : List (List PC)) (full5 : Bool) (n6 : Int) (k0 : (List (List PC)) → Bool → Int → Prop) : Prop where
  run : f25_d s1 n2 n3 es4 full5 n6 k0
noncomputable def f25_p22L : Told := fun s K => match s with
  | ⟨tm, hp⟩ => getS [.skip 7, .v (.one (.ref 0)), .v (.one (.int .i64)), .v (.one (.ptr 1 0 0)), .skip 15, .v (.cells), .v (.one (.int .i64)), .skip 3, .v (.cells), .v (.one (.int .i64)), .skip 32] [.vec 3 true, .pbox] tm hp fun (xx : (Unit × ((Nat × Nat) × (Int × (Unit × (Unit × ((List PC) × (Int × (Unit × ((List PC) × (Int × (Unit × Unit)))))))))))) (yy : ((List (List PC)) × ((List PC) × Unit))) => f25_p22 xx.2.2.1 xx.2.2.2.2.2.1 xx.2.2.2.2.2.2.1 xx.2.2.2.2.2.2.2.2.1 yy.2.1 (fun i0_0 n0_1 es0_2 => K (.exit 2) ⟨mkS 64 [(7, .w (.one (.ref 0 i0_0 n0_1))), (25, .w (.pagg xx.2.2.2.2.2.1)), (26, I xx.2.2.2.2.2.2.1)], [.vec 3 es0_2 true]⟩) (xx.2.1.1, xx.2.1.2, xx.2.2.2.2.2.2.2.2.2.1, yy.1)
noncomputable def f25_p16L : Told := fun s K => match s with
  | ⟨tm, hp⟩ => getS [.skip 7, .v (.one (.ref 0)), .skip 17, .v (.cells), .v (.one (.int .i64)), .skip 37] [.vec 3 true] tm hp fun (xx : (Unit × ((Nat × Nat) × (Unit × ((List PC) × (Int × (Unit × Unit))))))) (yy : ((List (List PC)) × Unit)) => f25_p16 xx.2.2.2.1 (fun i0_3 n0_4 es0_5 => K (.exit 0) ⟨mkS 64 [(7, .w (.one (.ref 0 i0_3 n0_4)))], [.vec 3 es0_5 true]⟩) (xx.2.1.1, xx.2.1.2, xx.2.2.2.2.1, yy.1)
noncomputable def f25_tab : List (Nat × Told) := [(22, f25_p22L), (16, f25_p16L)]
noncomputable def f25_call : FuncId → List TV → List Entry → (TV → List Entry → Prop) → Prop := addCall 59 f59_G (addCall 58 f58_G (addCall 57 f57_G (addCall 16 f16_G (noCalls))))
noncomputable def f25_C : Ctx := { ty := tyOf tab, glob := glob, byRef := byRef, keep := fun k i => lookN [] (lookN [] ([(22, [(0, [7, 8, 9, 25, 26, 30, 31]), (2, [4, 5]), (3, [7]), (4, [7, 25, 26]), (5, [7, 25, 26])]), (16, [(0, [7, 25, 26]), (2, [4, 5]), (3, [7])])] : List (Nat × List (Nat × List Nat))) k) i, late := lookN [] ([] : List (Nat × List Nat)), nref := lookN [] ([(22, [7]), (16, [7])] : List (Nat × List Nat)), nbox := lookN [] ([] : List (Nat × List (Nat × Nat))), take := [], rnil := false, m := 0, fz := true, loops := lookL f25_tab, call := f25_call }
noncomputable def f25_p22_mk (n18 : Int) (cs19 : List PC) (n20 : Int) (cs21 : List PC) (cs24 : List PC) (x : Nat × Nat × Int × (List (List PC))) : St := ⟨mkS 64 [(7, .w (.one (.ref 0 x.1 x.2.1))), (8, I n18), (9, .w (.one (.ptr 1 0 0))), (25, .w (.pagg cs19)), (26, I n20), (30, .w (.pagg cs21)), (31, I x.2.2.1)], [.vec 3 x.2.2.2 true, .pbox cs24]⟩
set_option maxRecDepth 100000 in
theorem f25_p22e0 (i_18 : Nat) (n_19 : Nat) (n_20 : Int) (cs_21 : List PC) (n_22 : Int) (cs_23 : List PC) (n_24 : Int) (es_25 : List (List PC)) (cs_26 : List PC) (N : St → Prop) (K : TExit → St → Prop) : (f25_p22b0 i_18 n_19 n_20 cs_21 n_22 cs_23 n_24 es_25 cs_26 (fun z0 z1 z6 z7 => N (f25_p22_mk n_20 cs_21 n_22 cs_23 cs_26 (z0, z1, z6, z7))) (fun i0_27 n0_28 es0_29 => K (.exit 2) ⟨mkS 64 [(7, .w (.one (.ref 0 i0_27 n0_28))), (25, .w (.pagg cs_21)), (26, I n_22)], [.vec 3 es0_29 true]⟩)) = execT f25_C (nthC (bodies (bodyOf Tryd.f25)) 1) (f25_p22_mk n_20 cs_21 n_22 cs_23 cs_26 (i_18, n_19, n_24, es_25)) (loopK N (normK f25_C 22) fun e s => K e (normOut f25_C 22 e s)) := by kernel_rfl
noncomputable def f25_p16_mk (cs13 : List PC) (x : Nat × Nat × Int × (List (List PC))) : St := ⟨mkS 64 [(7, .w (.one (.ref 0 x.1 x.2.1))), (25, .w (.pagg cs13)), (26, I x.2.2.1)], [.vec 3 x.2.2.2 true]⟩
set_option maxRecDepth 100000 in
theorem f25_p16e0 (i_35 : Nat) (n_36 : Nat) (cs_37 : List PC) (n_38 : Int) (es_39 : List (List PC)) (N : St → Prop) (K : TExit → St → Prop) : (f25_p16b0 i_35 n_36 cs_37 n_38 es_39 (fun z0 z1 z3 z4 => N (f25_p16_mk cs_37 (z0, z1, z3, z4))) (fun i0_40 n0_41 es0_42 => K (.exit 0) ⟨mkS 64 [(7, .w (.one (.ref 0 i0_40 n0_41)))], [.vec 3 es0_42 true]⟩)) = execT f25_C (nthC (bodies (bodyOf Tryd.f25)) 0) (f25_p16_mk cs_37 (i_35, n_36, n_38, es_39)) (loopK N (normK f25_C 16) fun e s => K e (normOut f25_C 16 e s)) := by kernel_rfl
set_option maxHeartbeats 4000000 in
theorem f25_p22_ok : LoopOk f25_C (nthC (bodies (bodyOf Tryd.f25)) 1) := by
  refine LoopOk.of f25_p22L (by kernel_rfl) fun σ K h => ?_
  have hk : loopKey (nthC (bodies (bodyOf Tryd.f25)) 1) = 22 := by kernel_rfl
  rw [hk] at h ⊢
  generalize hs : normK f25_C 22 σ = s at h
  obtain ⟨tm, hp⟩ := s
  unfold f25_p22L at h
  dsimp only at h
  obtain ⟨xx, yy, rfl, rfl, h⟩ := getS_elim h
  refine iter_of (f25_p22_mk xx.2.2.1 xx.2.2.2.2.2.1 xx.2.2.2.2.2.2.1 xx.2.2.2.2.2.2.2.2.1 yy.2.1) (fun x N h => ?_) rounds _ σ (hs.trans (by kernel_rfl)) (LoopP.run h)
  obtain ⟨y0, y1, y2, y3⟩ := x
  rw [← f25_p22e0 y0 y1 xx.2.2.1 xx.2.2.2.2.2.1 xx.2.2.2.2.2.2.1 xx.2.2.2.2.2.2.2.2.1 y2 y3 yy.2.1 N K]
  exact h
set_option maxHeartbeats 4000000 in
theorem f25_p16_ok : LoopOk f25_C (nthC (bodies (bodyOf Tryd.f25)) 0) := by
  refine LoopOk.of f25_p16L (by kernel_rfl) fun σ K h => ?_
  have hk : loopKey (nthC (bodies (bodyOf Tryd.f25)) 0) = 16 := by kernel_rfl
  rw [hk] at h ⊢
  generalize hs : normK f25_C 16 σ = s at h
  obtain ⟨tm, hp⟩ := s
  unfold f25_p16L at h
  dsimp only at h
  obtain ⟨xx, yy, rfl, rfl, h⟩ := getS_elim h
  refine iter_of (f25_p16_mk xx.2.2.2.1) (fun x N h => ?_) rounds _ σ (hs.trans (by kernel_rfl)) (LoopP.run h)
  obtain ⟨y0, y1, y2, y3⟩ := x
  rw [← f25_p16e0 y0 y1 xx.2.2.2.1 y2 y3 N K]
  exact h
noncomputable def f25_G0 : List TV → List Entry → (TV → List Entry → Prop) → Prop := fun tm hp K => getS [.v (.pagg [.str, .int .i64, .int .i64, .sl 5]), .v (.one (.int .i64))] [] tm hp fun (xx : ((ByteArray × (Int × (Int × ((List (List PC) × Bool) × Unit)))) × (Int × Unit))) (yy : Unit) => f25 xx.1.1 xx.1.2.1 xx.1.2.2.1 xx.1.2.2.2.1.1 xx.1.2.2.2.1.2 xx.2.1 (fun es0_6 full0_7 n0_8 => K (.tup [.one (.p (.sl 3 es0_6 full0_7)), .one (.p (pI n0_8))]) [])
set_option maxRecDepth 100000 in
theorem f25_eq (s_43 : ByteArray) (n_44 : Int) (n_45 : Int) (es_46 : List (List PC)) (full_47 : Bool) (n_48 : Int) (K : TV → List Entry → Prop) : (f25_d s_43 n_44 n_45 es_46 full_47 n_48 (fun es0_6 full0_7 n0_8 => K (.tup [.one (.p (.sl 3 es0_6 full0_7)), .one (.p (pI n0_8))]) [])) = funcT f25_C Tryd.f25 [.w (.pagg [pS s_43, pI n_44, pI n_45, .sl 5 es_46 full_47]), I n_48] [] K := by kernel_rfl
set_option maxHeartbeats 4000000 in
theorem f25_ok0 : FnOk Tryd.prog glob 25 f25_G0 := by
  refine FnOk.of_text (C := f25_C) tab_ok.ok (Known.add f59_G_ok (Known.add f58_G_ok (Known.add f57_G_ok (Known.add f16_G_ok (Known.none))))) follows_ok (fn := Tryd.f25) (by kernel_rfl) (by kernel_rfl) (by kernel_rfl) (fun c hc => ?_) fun tm hp K h => ?_
  · have e : c = bodyOf Tryd.f25 := Option.some.inj (hc.symm.trans (by kernel_rfl))
    subst e
    exact ⟨LoopsOk.of [nthC (bodies (bodyOf Tryd.f25)) 0, nthC (bodies (bodyOf Tryd.f25)) 1] (by kernel_rfl) ⟨f25_p16_ok, f25_p22_ok, trivial⟩, TailsOk.of (tab := f25_tab) rfl [] (by kernel_rfl) trivial⟩
  · unfold f25_G0 at h
    obtain ⟨xx, yy, rfl, rfl, h⟩ := getS_elim h
    have e := (f25_eq xx.1.1 xx.1.2.1 xx.1.2.2.1 xx.1.2.2.2.1.1 xx.1.2.2.2.1.2 xx.2.1 K).trans (show _ = funcT f25_C Tryd.f25 (mkR _ xx) (mkE _ yy) K by kernel_rfl)
    rw [← e]
    exact h.run
noncomputable abbrev f25_G := f25_G0
theorem f25_G_ok : FnOk Tryd.prog glob 25 f25_G := f25_ok0
end Go.Eng.N
set_option linter.unusedVariables false
set_option maxRecDepth 100000
open Go Go.Eng Go.Proofs
namespace Go.Eng.N
/-! ### f60: plenum/plenumref39.anyone -/
noncomputable def f60_p4b0 (n9 : Int) (n10 : Int) (n11 : Int) (n12 : Int) (s13 : ByteArray) (n14 : Int) (n15 : Int) (es16 : List (List PC)) (full17 : Bool) (N0 : Int → Prop) (k0 : Bool → Prop) (k1 : Unit → Prop) : Prop := bB (decide (n12 < ((es16.length : Nat) : Int))) ((0 ≤ n12 ∧ n12 < ((es16.length : Nat) : Int)) ∧ cS (ext (List.getD es16 (Int.toNat n12) []) 0 5) fun s19 r18 => cI .i64 r18 fun n21 r20 => cI .i64 r20 fun n23 r22 => cI .i64 r22 fun n25 r24 => cI .i64 r24 fun n27 r26 => nilC r26 <| f94 s19 n21 n23 n25 n27 n9 n10 n11 (fun b28 => bB b28 (k0 true) (N0 (w64 (n12 + 1))))) (k1 ())
noncomputable def f60_p4 (n9 : Int) (n10 : Int) (n11 : Int) (s13 : ByteArray) (n14 : Int) (n15 : Int) (es16 : List (List PC)) (full17 : Bool) (k0 : Bool → Prop) (k1 : Unit → Prop) : Int → Prop := LoopP fun x N => f60_p4b0 n9 n10 n11 x s13 n14 n15 es16 full17 (fun n12 => N n12) k0 k1
noncomputable def f60_d (s1 : ByteArray) (n2 : Int) (n3 : Int) (es4 : List (List PC)) (full5 : Bool) (n6 : Int) (n7 : Int) (n8 : Int) (k0 : Bool → Prop) : Prop := f60_p4 n6 n7 n8 s1 n2 n3 es4 full5 (fun b29 => k0 b29) (fun (_ : Unit) => k0 false) 0
structure f60 (s1 : ByteArray) (n2 : Int) (n3 : Int) (es4 : List (List PC)) (full5 : Bool) (n6 : Int) (n7 : Int) (n8 : Int) (k0 : Bool → Prop) : Prop where
  run : f60_d s1 n2 n3 es4 full5 n6 n7 n8 k0
noncomputable def f60_p4L : Told := fun s K => match s with
  | ⟨tm, hp⟩ => getS [.skip 1, .v (.one (.int .i64)), .v (.one (.int .i64)), .v (.one (.int .i64)), .v (.one (.ptr 0 0 0)), .skip 4, .v (.one (.int .i64)), .skip 16] [.box [.str, .int .i64, .int .i64, .sl 5]] tm hp fun (xx : (Unit × (Int × (Int × (Int × (Unit × (Unit × (Int × (Unit × Unit))))))))) (yy : ((ByteArray × (Int × (Int × ((List (List PC) × Bool) × Unit)))) × Unit)) => f60_p4 xx.2.1 xx.2.2.1 xx.2.2.2.1 yy.1.1 yy.1.2.1 yy.1.2.2.1 yy.1.2.2.2.1.1 yy.1.2.2.2.1.2 (fun b0_0 => K .ret ⟨mkS 26 [(8, B b0_0)], []⟩) (fun (_ : Unit) => K (.exit 0) ⟨mkS 26 [], []⟩) xx.2.2.2.2.2.2.1
noncomputable def f60_tab : List (Nat × Told) := [(4, f60_p4L)]
noncomputable def f60_call : FuncId → List TV → List Entry → (TV → List Entry → Prop) → Prop := addCall 94 f94_G (noCalls)
noncomputable def f60_C : Ctx := { ty := tyOf tab, glob := glob, byRef := byRef, keep := fun k i => lookN [] (lookN [] ([(4, [(0, [1, 2, 3, 4, 9]), (2, [8]), (3, [])])] : List (Nat × List (Nat × List Nat))) k) i, late := lookN [] ([] : List (Nat × List Nat)), nref := lookN [] ([] : List (Nat × List Nat)), nbox := lookN [] ([] : List (Nat × List (Nat × Nat))), take := [], rnil := false, m := 0, fz := true, loops := lookL f60_tab, call := f60_call }
noncomputable def f60_p4_mk (n9 : Int) (n10 : Int) (n11 : Int) (s13 : ByteArray) (n14 : Int) (n15 : Int) (es16 : List (List PC)) (full17 : Bool) (x : Int) : St := ⟨mkS 26 [(1, I n9), (2, I n10), (3, I n11), (4, .w (.one (.ptr 0 0 0))), (9, I x)], [.box [.p (pS s13), .p (pI n14), .p (pI n15), .p (.sl 5 es16 full17)]]⟩
set_option maxRecDepth 100000 in
theorem f60_p4e0 (n_11 : Int) (n_12 : Int) (n_13 : Int) (n_14 : Int) (s_15 : ByteArray) (n_16 : Int) (n_17 : Int) (es_18 : List (List PC)) (full_19 : Bool) (N : St → Prop) (K : TExit → St → Prop) : (f60_p4b0 n_11 n_12 n_13 n_14 s_15 n_16 n_17 es_18 full_19 (fun z3 => N (f60_p4_mk n_11 n_12 n_13 s_15 n_16 n_17 es_18 full_19 z3)) (fun b0_20 => K .ret ⟨mkS 26 [(8, B b0_20)], []⟩) (fun (_ : Unit) => K (.exit 0) ⟨mkS 26 [], []⟩)) = execT f60_C (nthC (bodies (bodyOf Tryd.f60)) 0) (f60_p4_mk n_11 n_12 n_13 s_15 n_16 n_17 es_18 full_19 n_14) (loopK N (normK f60_C 4) fun e s => K e (normOut f60_C 4 e s)) := by kernel_rfl
set_option maxHeartbeats 4000000 in
theorem f60_p4_ok : LoopOk f60_C (nthC (bodies (bodyOf Tryd.f60)) 0) := by
  refine LoopOk.of f60_p4L (by kernel_rfl) fun σ K h => ?_
  have hk : loopKey (nthC (bodies (bodyOf Tryd.f60)) 0) = 4 := by kernel_rfl
  rw [hk] at h ⊢
  generalize hs : normK f60_C 4 σ = s at h
  obtain ⟨tm, hp⟩ := s
  unfold f60_p4L at h
  dsimp only at h
  obtain ⟨xx, yy, rfl, rfl, h⟩ := getS_elim h
  refine iter_of (f60_p4_mk xx.2.1 xx.2.2.1 xx.2.2.2.1 yy.1.1 yy.1.2.1 yy.1.2.2.1 yy.1.2.2.2.1.1 yy.1.2.2.2.1.2) (fun x N h => ?_) rounds _ σ (hs.trans (by kernel_rfl)) (LoopP.run h)
  rw [← f60_p4e0 xx.2.1 xx.2.2.1 xx.2.2.2.1 x yy.1.1 yy.1.2.1 yy.1.2.2.1 yy.1.2.2.2.1.1 yy.1.2.2.2.1.2 N K]
  exact h
noncomputable def f60_G0 : List TV → List Entry → (TV → List Entry → Prop) → Prop := fun tm hp K => getS [.v (.pagg [.str, .int .i64, .int .i64, .sl 5]), .v (.one (.int .i64)), .v (.one (.int .i64)), .v (.one (.int .i64))] [] tm hp fun (xx : ((ByteArray × (Int × (Int × ((List (List PC) × Bool) × Unit)))) × (Int × (Int × (Int × Unit))))) (yy : Unit) => f60 xx.1.1 xx.1.2.1 xx.1.2.2.1 xx.1.2.2.2.1.1 xx.1.2.2.2.1.2 xx.2.1 xx.2.2.1 xx.2.2.2.1 (fun b0_1 => K (B b0_1) [])
set_option maxRecDepth 100000 in
theorem f60_eq (s_21 : ByteArray) (n_22 : Int) (n_23 : Int) (es_24 : List (List PC)) (full_25 : Bool) (n_26 : Int) (n_27 : Int) (n_28 : Int) (K : TV → List Entry → Prop) : (f60_d s_21 n_22 n_23 es_24 full_25 n_26 n_27 n_28 (fun b0_1 => K (B b0_1) [])) = funcT f60_C Tryd.f60 [.w (.pagg [pS s_21, pI n_22, pI n_23, .sl 5 es_24 full_25]), I n_26, I n_27, I n_28] [] K := by kernel_rfl
set_option maxHeartbeats 4000000 in
theorem f60_ok0 : FnOk Tryd.prog glob 60 f60_G0 := by
  refine FnOk.of_text (C := f60_C) tab_ok.ok (Known.add f94_G_ok (Known.none)) follows_ok (fn := Tryd.f60) (by kernel_rfl) (by kernel_rfl) (by kernel_rfl) (fun c hc => ?_) fun tm hp K h => ?_
  · have e : c = bodyOf Tryd.f60 := Option.some.inj (hc.symm.trans (by kernel_rfl))
    subst e
    exact ⟨LoopsOk.of [nthC (bodies (bodyOf Tryd.f60)) 0] (by kernel_rfl) ⟨f60_p4_ok, trivial⟩, TailsOk.of (tab := f60_tab) rfl [] (by kernel_rfl) trivial⟩
  · unfold f60_G0 at h
    obtain ⟨xx, yy, rfl, rfl, h⟩ := getS_elim h
    have e := (f60_eq xx.1.1 xx.1.2.1 xx.1.2.2.1 xx.1.2.2.2.1.1 xx.1.2.2.2.1.2 xx.2.1 xx.2.2.1 xx.2.2.2.1 K).trans (show _ = funcT f60_C Tryd.f60 (mkR _ xx) (mkE _ yy) K by kernel_rfl)
    rw [← e]
    exact h.run
noncomputable abbrev f60_G := f60_G0
theorem f60_G_ok : FnOk Tryd.prog glob 60 f60_G := f60_ok0
end Go.Eng.N
set_option linter.unusedVariables false
set_option maxRecDepth 100000
open Go Go.Eng Go.Proofs
namespace Go.Eng.N
/-! ### f26: plenum/plenumref39.Gaps -/
noncomputable def f26_p35 (n46 : Int) (i47 : Nat) (n48 : Nat) (n49 : Int) (n50 : Int) (n51 : Int) (b52 : Bool) (s53 : ByteArray) (n54 : Int) (n55 : Int) (es56 : List (List PC)) (full57 : Bool) (es58 : List (List PC)) (k0 : Nat → Nat → Int → (List (List PC)) → Prop) : Prop := bB (!b52) (bB (decide (n50 ≥ 0)) ((i47 + n48) = es58.length ∧ (n48 + 1) * 24 ≤ 2 ^ 46 ∧ (n48 + 1) ≤ 2 ^ 46 ∧ k0 0 (n48 + 1) (-1) (List.drop i47 es58 ++ [[pI (w64 (n49 + 1)), pI n50, pI (w64 (n51 - 1))]])) (k0 i47 n48 n50 es58)) (k0 i47 n48 n50 es58)
noncomputable def f26_p31 (n33 : Int) (i34 : Nat) (n35 : Nat) (n36 : Int) (n37 : Int) (n38 : Int) (b39 : Bool) (s40 : ByteArray) (n41 : Int) (n42 : Int) (es43 : List (List PC)) (full44 : Bool) (es45 : List (List PC)) (k0 : Nat → Nat → Int → (List (List PC)) → Prop) : Prop := bB b39 (bB (decide (n37 < 0)) (f26_p35 n33 i34 n35 n36 n38 n38 b39 s40 n41 n42 es43 full44 es45 (fun i59 n60 n61 es62 => k0 i59 n60 n61 es62)) (f26_p35 n33 i34 n35 n36 n37 n38 b39 s40 n41 n42 es43 full44 es45 (fun i63 n64 n65 es66 => k0 i63 n64 n65 es66))) (f26_p35 n33 i34 n35 n36 n37 n38 b39 s40 n41 n42 es43 full44 es45 (fun i67 n68 n69 es70 => k0 i67 n68 n69 es70))
noncomputable def f26_p24b0 (n19 : Int) (i20 : Nat) (n21 : Nat) (n22 : Int) (n23 : Int) (n24 : Int) (s25 : ByteArray) (n26 : Int) (n27 : Int) (es28 : List (List PC)) (full29 : Bool) (es30 : List (List PC)) (N0 : Nat → Nat → Int → Int → (List (List PC)) → Prop) (k0 : Nat → Nat → (List (List PC)) → Prop) : Prop := bB (decide (n24 ≤ 1440)) (bB (decide (n24 < 1440)) (f56 n19 (fun n31 => f60 s25 n26 n27 es28 full29 n22 n24 n31 (fun b32 => f26_p31 n19 i20 n21 n22 n23 n24 (!b32) s25 n26 n27 es28 full29 es30 (fun i71 n72 n73 es74 => N0 i71 n72 n73 (w64 (n24 + 1)) es74)))) (f26_p31 n19 i20 n21 n22 n23 n24 false s25 n26 n27 es28 full29 es30 (fun i75 n76 n77 es78 => N0 i75 n76 n77 (w64 (n24 + 1)) es78))) (k0 i20 n21 es30)
noncomputable def f26_p24 (n19 : Int) (n22 : Int) (s25 : ByteArray) (n26 : Int) (n27 : Int) (es28 : List (List PC)) (full29 : Bool) (k0 : Nat → Nat → (List (List PC)) → Prop) : Nat × Nat × Int × Int × (List (List PC)) → Prop := LoopP fun x N => f26_p24b0 n19 x.1 x.2.1 n22 x.2.2.1 x.2.2.2.1 s25 n26 n27 es28 full29 x.2.2.2.2 (fun i20 n21 n23 n24 es30 => N (i20, n21, n23, n24, es30)) k0
noncomputable def f26_p16b0 (n9 : Int) (i10 : Nat) (n11 : Nat) (n12 : Int) (s13 : ByteArray) (n14 : Int) (n15 : Int) (es16 : List (List PC)) (full17 : Bool) (es18 : List (List PC)) (N0 : Nat → Nat → Int → (List (List PC)) → Prop) (k0 : Nat → Nat → (List (List PC)) → Prop) : Prop := bB (decide (n12 < 7)) (f26_p24 n9 n12 s13 n14 n15 es16 full17 (fun i79 n80 es81 => N0 i79 n80 (w64 (n12 + 1)) es81) (i10, n11, (-1), 0, es18)) (k0 i10 n11 es18)
noncomputable def f26_p16 (n9 : Int) (s13 : ByteArray) (n14 : Int) (n15 : Int) (es16 : List (List PC)) (full17 : Bool) (k0 : Nat → Nat → (List (List PC)) → Prop) : Nat × Nat × Int × (List (List PC)) → Prop := LoopP fun x N => f26_p16b0 n9 x.1 x.2.1 x.2.2.1 s13 n14 n15 es16 full17 x.2.2.2 (fun i10 n11 n12 es18 => N (i10, n11, n12, es18)) k0
noncomputable def f26_d (s1 : ByteArray) (n2 : Int) (n3 : Int) (es4 : List (List PC)) (full5 : Bool) (n6 : Int) (k0 : (List (List PC)) → Bool → Int → Prop) : Prop := f17 s1 n2 n3 es4 full5 (fun n7 => bB (n7 != 0) (k0 [] true n7) (f53 0 n6 (fun b8 => bB (!b8) (k0 [] true 6) (f26_p16 n6 s1 n2 n3 es4 full5 (fun i82 n83 es84 => k0 (List.take n83 (List.drop i82 es84)) false 0) (0, 0, 0, [])))))
structure f26 (s1 : ByteArray) (n2 : Int) (n3 : Int) (es4 : List (List PC)) (full5 : Bool) (n6 : Int) (k0 : (List (List PC)) → Bool → Int → Prop) : Prop where
  run : f26_d s1 n2 n3 es4 full5 n6 k0
noncomputable def f26_p35L : Told := fun s K => match s with
  | ⟨tm, hp⟩ => getS [.skip 1, .v (.one (.int .i64)), .v (.one (.ptr 0 0 0)), .skip 4, .v (.one (.ref 1)), .v (.one (.int .i64)), .v (.one (.int .i64)), .v (.one (.int .i64)), .v (.one (.bool)), .skip 50] [.box [.str, .int .i64, .int .i64, .sl 5], .vec 3 true] tm hp fun (xx : (Unit × (Int × (Unit × (Unit × ((Nat × Nat) × (Int × (Int × (Int × (Bool × (Unit × Unit))))))))))) (yy : ((ByteArray × (Int × (Int × ((List (List PC) × Bool) × Unit)))) × ((List (List PC)) × Unit))) => f26_p35 xx.2.1 xx.2.2.2.2.1.1 xx.2.2.2.2.1.2 xx.2.2.2.2.2.1 xx.2.2.2.2.2.2.1 xx.2.2.2.2.2.2.2.1 xx.2.2.2.2.2.2.2.2.1 yy.1.1 yy.1.2.1 yy.1.2.2.1 yy.1.2.2.2.1.1 yy.1.2.2.2.1.2 yy.2.1 (fun i0_0 n0_1 n0_2 es0_3 => K .normal ⟨mkS 62 [(1, I xx.2.1), (2, .w (.one (.ptr 0 0 0))), (7, .w (.one (.ref 1 i0_0 n0_1))), (8, I xx.2.2.2.2.2.1), (9, I n0_2), (10, I xx.2.2.2.2.2.2.2.1)], [.box [.p (pS yy.1.1), .p (pI yy.1.2.1), .p (pI yy.1.2.2.1), .p (.sl 5 yy.1.2.2.2.1.1 yy.1.2.2.2.1.2)], .vec 3 es0_3 true]⟩)
noncomputable def f26_p31L : Told := fun s K => match s with
  | ⟨tm, hp⟩ => getS [.skip 1, .v (.one (.int .i64)), .v (.one (.ptr 0 0 0)), .skip 4, .v (.one (.ref 1)), .v (.one (.int .i64)), .v (.one (.int .i64)), .v (.one (.int .i64)), .v (.one (.bool)), .skip 50] [.box [.str, .int .i64, .int .i64, .sl 5], .vec 3 true] tm hp fun (xx : (Unit × (Int × (Unit × (Unit × ((Nat × Nat) × (Int × (Int × (Int × (Bool × (Unit × Unit))))))))))) (yy : ((ByteArray × (Int × (Int × ((List (List PC) × Bool) × Unit)))) × ((List (List PC)) × Unit))) => f26_p31 xx.2.1 xx.2.2.2.2.1.1 xx.2.2.2.2.1.2 xx.2.2.2.2.2.1 xx.2.2.2.2.2.2.1 xx.2.2.2.2.2.2.2.1 xx.2.2.2.2.2.2.2.2.1 yy.1.1 yy.1.2.1 yy.1.2.2.1 yy.1.2.2.2.1.1 yy.1.2.2.2.1.2 yy.2.1 (fun i0_4 n0_5 n0_6 es0_7 => K .normal ⟨mkS 62 [(1, I xx.2.1), (2, .w (.one (.ptr 0 0 0))), (7, .w (.one (.ref 1 i0_4 n0_5))), (8, I xx.2.2.2.2.2.1), (9, I n0_6), (10, I xx.2.2.2.2.2.2.2.1)], [.box [.p (pS yy.1.1), .p (pI yy.1.2.1), .p (pI yy.1.2.2.1), .p (.sl 5 yy.1.2.2.2.1.1 yy.1.2.2.2.1.2)], .vec 3 es0_7 true]⟩)
noncomputable def f26_p24L : Told := fun s K => match s with
  | ⟨tm, hp⟩ => getS [.skip 1, .v (.one (.int .i64)), .v (.one (.ptr 0 0 0)), .skip 4, .v (.one (.ref 1)), .v (.one (.int .i64)), .v (.one (.int .i64)), .v (.one (.int .i64)), .skip 51] [.box [.str, .int .i64, .int .i64, .sl 5], .vec 3 true] tm hp fun (xx : (Unit × (Int × (Unit × (Unit × ((Nat × Nat) × (Int × (Int × (Int × (Unit × Unit)))))))))) (yy : ((ByteArray × (Int × (Int × ((List (List PC) × Bool) × Unit)))) × ((List (List PC)) × Unit))) => f26_p24 xx.2.1 xx.2.2.2.2.2.1 yy.1.1 yy.1.2.1 yy.1.2.2.1 yy.1.2.2.2.1.1 yy.1.2.2.2.1.2 (fun i0_8 n0_9 es0_10 => K (.exit 2) ⟨mkS 62 [(1, I xx.2.1), (2, .w (.one (.ptr 0 0 0))), (7, .w (.one (.ref 1 i0_8 n0_9))), (8, I xx.2.2.2.2.2.1)], [.box [.p (pS yy.1.1), .p (pI yy.1.2.1), .p (pI yy.1.2.2.1), .p (.sl 5 yy.1.2.2.2.1.1 yy.1.2.2.2.1.2)], .vec 3 es0_10 true]⟩) (xx.2.2.2.2.1.1, xx.2.2.2.2.1.2, xx.2.2.2.2.2.2.1, xx.2.2.2.2.2.2.2.1, yy.2.1)
noncomputable def f26_p16L : Told := fun s K => match s with
  | ⟨tm, hp⟩ => getS [.skip 1, .v (.one (.int .i64)), .v (.one (.ptr 0 0 0)), .skip 4, .v (.one (.ref 1)), .v (.one (.int .i64)), .skip 53] [.box [.str, .int .i64, .int .i64, .sl 5], .vec 3 true] tm hp fun (xx : (Unit × (Int × (Unit × (Unit × ((Nat × Nat) × (Int × (Unit × Unit)))))))) (yy : ((ByteArray × (Int × (Int × ((List (List PC) × Bool) × Unit)))) × ((List (List PC)) × Unit))) => f26_p16 xx.2.1 yy.1.1 yy.1.2.1 yy.1.2.2.1 yy.1.2.2.2.1.1 yy.1.2.2.2.1.2 (fun i0_11 n0_12 es0_13 => K (.exit 0) ⟨mkS 62 [(7, .w (.one (.ref 0 i0_11 n0_12)))], [.vec 3 es0_13 true]⟩) (xx.2.2.2.2.1.1, xx.2.2.2.2.1.2, xx.2.2.2.2.2.1, yy.2.1)
noncomputable def f26_tab : List (Nat × Told) := [(35, f26_p35L), (31, f26_p31L), (24, f26_p24L), (16, f26_p16L)]
noncomputable def f26_call : FuncId → List TV → List Entry → (TV → List Entry → Prop) → Prop := addCall 60 f60_G (addCall 56 f56_G (addCall 53 f53_G (addCall 17 f17_G (noCalls))))
noncomputable def f26_C : Ctx := { ty := tyOf tab, glob := glob, byRef := byRef, keep := fun k i => lookN [] (lookN [] ([(35, [(0, [1, 2, 7, 8, 9, 10, 11]), (1, [1, 2, 7, 8, 9, 10]), (2, [4, 5]), (3, [7]), (4, [1, 2, 7, 8]), (5, [1, 2, 7, 8]), (6, [1, 2, 7, 8, 9, 10])]), (31, [(0, [1, 2, 7, 8, 9, 10, 11]), (1, [1, 2, 7, 8, 9, 10]), (2, [4, 5]), (3, [7]), (4, [1, 2, 7, 8]), (5, [1, 2, 7, 8]), (6, [1, 2, 7, 8, 9, 10])]), (24, [(0, [1, 2, 7, 8, 9, 10]), (2, [4, 5]), (3, [7]), (4, [1, 2, 7, 8]), (5, [1, 2, 7, 8])]), (16, [(0, [1, 2, 7, 8]), (2, [4, 5]), (3, [7])])] : List (Nat × List (Nat × List Nat))) k) i, late := lookN [] ([] : List (Nat × List Nat)), nref := lookN [] ([] : List (Nat × List Nat)), nbox := lookN [] ([] : List (Nat × List (Nat × Nat))), take := [], rnil := false, m := 0, fz := true, loops := lookL f26_tab, call := f26_call }
set_option maxRecDepth 100000 in
theorem f26_p35e0 (n_17 : Int) (i_18 : Nat) (n_19 : Nat) (n_20 : Int) (n_21 : Int) (n_22 : Int) (b_23 : Bool) (s_24 : ByteArray) (n_25 : Int) (n_26 : Int) (es_27 : List (List PC)) (full_28 : Bool) (es_29 : List (List PC)) (K : TExit → St → Prop) : (f26_p35 n_17 i_18 n_19 n_20 n_21 n_22 b_23 s_24 n_25 n_26 es_27 full_28 es_29 (fun i0_30 n0_31 n0_32 es0_33 => K .normal ⟨mkS 62 [(1, I n_17), (2, .w (.one (.ptr 0 0 0))), (7, .w (.one (.ref 1 i0_30 n0_31))), (8, I n_20), (9, I n0_32), (10, I n_22)], [.box [.p (pS s_24), .p (pI n_25), .p (pI n_26), .p (.sl 5 es_27 full_28)], .vec 3 es0_33 true]⟩)) = execT f26_C (nthC (tails (bodyOf Tryd.f26)) 20) ⟨mkS 62 [(1, I n_17), (2, .w (.one (.ptr 0 0 0))), (7, .w (.one (.ref 1 i_18 n_19))), (8, I n_20), (9, I n_21), (10, I n_22), (11, B b_23)], [.box [.p (pS s_24), .p (pI n_25), .p (pI n_26), .p (.sl 5 es_27 full_28)], .vec 3 es_29 true]⟩ (fun e s => K e (normOut f26_C 35 e s)) := by kernel_rfl
set_option maxRecDepth 100000 in
theorem f26_p31e0 (n_34 : Int) (i_35 : Nat) (n_36 : Nat) (n_37 : Int) (n_38 : Int) (n_39 : Int) (b_40 : Bool) (s_41 : ByteArray) (n_42 : Int) (n_43 : Int) (es_44 : List (List PC)) (full_45 : Bool) (es_46 : List (List PC)) (K : TExit → St → Prop) : (f26_p31 n_34 i_35 n_36 n_37 n_38 n_39 b_40 s_41 n_42 n_43 es_44 full_45 es_46 (fun i0_47 n0_48 n0_49 es0_50 => K .normal ⟨mkS 62 [(1, I n_34), (2, .w (.one (.ptr 0 0 0))), (7, .w (.one (.ref 1 i0_47 n0_48))), (8, I n_37), (9, I n0_49), (10, I n_39)], [.box [.p (pS s_41), .p (pI n_42), .p (pI n_43), .p (.sl 5 es_44 full_45)], .vec 3 es0_50 true]⟩)) = execT f26_C (nthC (tails (bodyOf Tryd.f26)) 19) ⟨mkS 62 [(1, I n_34), (2, .w (.one (.ptr 0 0 0))), (7, .w (.one (.ref 1 i_35 n_36))), (8, I n_37), (9, I n_38), (10, I n_39), (11, B b_40)], [.box [.p (pS s_41), .p (pI n_42), .p (pI n_43), .p (.sl 5 es_44 full_45)], .vec 3 es_46 true]⟩ (fun e s => K e (normOut f26_C 31 e s)) := by kernel_rfl
noncomputable def f26_p24_mk (n19 : Int) (n22 : Int) (s25 : ByteArray) (n26 : Int) (n27 : Int) (es28 : List (List PC)) (full29 : Bool) (x : Nat × Nat × Int × Int × (List (List PC))) : St := ⟨mkS 62 [(1, I n19), (2, .w (.one (.ptr 0 0 0))), (7, .w (.one (.ref 1 x.1 x.2.1))), (8, I n22), (9, I x.2.2.1), (10, I x.2.2.2.1)], [.box [.p (pS s25), .p (pI n26), .p (pI n27), .p (.sl 5 es28 full29)], .vec 3 x.2.2.2.2 true]⟩
set_option maxRecDepth 100000 in
theorem f26_p24e0 (n_63 : Int) (i_64 : Nat) (n_65 : Nat) (n_66 : Int) (n_67 : Int) (n_68 : Int) (s_69 : ByteArray) (n_70 : Int) (n_71 : Int) (es_72 : List (List PC)) (full_73 : Bool) (es_74 : List (List PC)) (N : St → Prop) (K : TExit → St → Prop) : (f26_p24b0 n_63 i_64 n_65 n_66 n_67 n_68 s_69 n_70 n_71 es_72 full_73 es_74 (fun z1 z2 z4 z5 z11 => N (f26_p24_mk n_63 n_66 s_69 n_70 n_71 es_72 full_73 (z1, z2, z4, z5, z11))) (fun i0_75 n0_76 es0_77 => K (.exit 2) ⟨mkS 62 [(1, I n_63), (2, .w (.one (.ptr 0 0 0))), (7, .w (.one (.ref 1 i0_75 n0_76))), (8, I n_66)], [.box [.p (pS s_69), .p (pI n_70), .p (pI n_71), .p (.sl 5 es_72 full_73)], .vec 3 es0_77 true]⟩)) = execT f26_C (nthC (bodies (bodyOf Tryd.f26)) 1) (f26_p24_mk n_63 n_66 s_69 n_70 n_71 es_72 full_73 (i_64, n_65, n_67, n_68, es_74)) (loopK N (normK f26_C 24) fun e s => K e (normOut f26_C 24 e s)) := by kernel_rfl
noncomputable def f26_p16_mk (n9 : Int) (s13 : ByteArray) (n14 : Int) (n15 : Int) (es16 : List (List PC)) (full17 : Bool) (x : Nat × Nat × Int × (List (List PC))) : St := ⟨mkS 62 [(1, I n9), (2, .w (.one (.ptr 0 0 0))), (7, .w (.one (.ref 1 x.1 x.2.1))), (8, I x.2.2.1)], [.box [.p (pS s13), .p (pI n14), .p (pI n15), .p (.sl 5 es16 full17)], .vec 3 x.2.2.2 true]⟩
set_option maxRecDepth 100000 in
theorem f26_p16e0 (n_88 : Int) (i_89 : Nat) (n_90 : Nat) (n_91 : Int) (s_92 : ByteArray) (n_93 : Int) (n_94 : Int) (es_95 : List (List PC)) (full_96 : Bool) (es_97 : List (List PC)) (N : St → Prop) (K : TExit → St → Prop) : (f26_p16b0 n_88 i_89 n_90 n_91 s_92 n_93 n_94 es_95 full_96 es_97 (fun z1 z2 z3 z9 => N (f26_p16_mk n_88 s_92 n_93 n_94 es_95 full_96 (z1, z2, z3, z9))) (fun i0_98 n0_99 es0_100 => K (.exit 0) ⟨mkS 62 [(7, .w (.one (.ref 0 i0_98 n0_99)))], [.vec 3 es0_100 true]⟩)) = execT f26_C (nthC (bodies (bodyOf Tryd.f26)) 0) (f26_p16_mk n_88 s_92 n_93 n_94 es_95 full_96 (i_89, n_90, n_91, es_97)) (loopK N (normK f26_C 16) fun e s => K e (normOut f26_C 16 e s)) := by kernel_rfl
set_option maxHeartbeats 4000000 in
theorem f26_p35_ok : TailOk f26_C (nthC (tails (bodyOf Tryd.f26)) 20) := by
  refine TailOk.of f26_p35L (by kernel_rfl) fun σ K h => ?_
  have hk : joinKey (nthC (tails (bodyOf Tryd.f26)) 20) = 35 := by kernel_rfl
  rw [hk] at h ⊢
  generalize hs : normK f26_C 35 σ = s at h
  obtain ⟨tm, hp⟩ := s
  unfold f26_p35L at h
  dsimp only at h
  obtain ⟨xx, yy, rfl, rfl, h⟩ := getS_elim h
  have q : normK f26_C 35 σ = (⟨mkS 62 [(1, I xx.2.1), (2, .w (.one (.ptr 0 0 0))), (7, .w (.one (.ref 1 xx.2.2.2.2.1.1 xx.2.2.2.2.1.2))), (8, I xx.2.2.2.2.2.1), (9, I xx.2.2.2.2.2.2.1), (10, I xx.2.2.2.2.2.2.2.1), (11, B xx.2.2.2.2.2.2.2.2.1)], [.box [.p (pS yy.1.1), .p (pI yy.1.2.1), .p (pI yy.1.2.2.1), .p (.sl 5 yy.1.2.2.2.1.1 yy.1.2.2.2.1.2)], .vec 3 yy.2.1 true]⟩ : St) := hs.trans (by kernel_rfl)
  rw [← hs, q, ← f26_p35e0 xx.2.1 xx.2.2.2.2.1.1 xx.2.2.2.2.1.2 xx.2.2.2.2.2.1 xx.2.2.2.2.2.2.1 xx.2.2.2.2.2.2.2.1 xx.2.2.2.2.2.2.2.2.1 yy.1.1 yy.1.2.1 yy.1.2.2.1 yy.1.2.2.2.1.1 yy.1.2.2.2.1.2 yy.2.1 K]
  exact h
set_option maxHeartbeats 4000000 in
theorem f26_p31_ok : TailOk f26_C (nthC (tails (bodyOf Tryd.f26)) 19) := by
  refine TailOk.of f26_p31L (by kernel_rfl) fun σ K h => ?_
  have hk : joinKey (nthC (tails (bodyOf Tryd.f26)) 19) = 31 := by kernel_rfl
  rw [hk] at h ⊢
  generalize hs : normK f26_C 31 σ = s at h
  obtain ⟨tm, hp⟩ := s
  unfold f26_p31L at h
  dsimp only at h
  obtain ⟨xx, yy, rfl, rfl, h⟩ := getS_elim h
  have q : normK f26_C 31 σ = (⟨mkS 62 [(1, I xx.2.1), (2, .w (.one (.ptr 0 0 0))), (7, .w (.one (.ref 1 xx.2.2.2.2.1.1 xx.2.2.2.2.1.2))), (8, I xx.2.2.2.2.2.1), (9, I xx.2.2.2.2.2.2.1), (10, I xx.2.2.2.2.2.2.2.1), (11, B xx.2.2.2.2.2.2.2.2.1)], [.box [.p (pS yy.1.1), .p (pI yy.1.2.1), .p (pI yy.1.2.2.1), .p (.sl 5 yy.1.2.2.2.1.1 yy.1.2.2.2.1.2)], .vec 3 yy.2.1 true]⟩ : St) := hs.trans (by kernel_rfl)
  rw [← hs, q, ← f26_p31e0 xx.2.1 xx.2.2.2.2.1.1 xx.2.2.2.2.1.2 xx.2.2.2.2.2.1 xx.2.2.2.2.2.2.1 xx.2.2.2.2.2.2.2.1 xx.2.2.2.2.2.2.2.2.1 yy.1.1 yy.1.2.1 yy.1.2.2.1 yy.1.2.2.2.1.1 yy.1.2.2.2.1.2 yy.2.1 K]
  exact h
set_option maxHeartbeats 4000000 in
theorem f26_p24_ok : LoopOk f26_C (nthC (bodies (bodyOf Tryd.f26)) 1) := by
  refine LoopOk.of f26_p24L (by kernel_rfl) fun σ K h => ?_
  have hk : loopKey (nthC (bodies (bodyOf Tryd.f26)) 1) = 24 := by kernel_rfl
  rw [hk] at h ⊢
  generalize hs : normK f26_C 24 σ = s at h
  obtain ⟨tm, hp⟩ := s
  unfold f26_p24L at h
  dsimp only at h
  obtain ⟨xx, yy, rfl, rfl, h⟩ := getS_elim h
  refine iter_of (f26_p24_mk xx.2.1 xx.2.2.2.2.2.1 yy.1.1 yy.1.2.1 yy.1.2.2.1 yy.1.2.2.2.1.1 yy.1.2.2.2.1.2) (fun x N h => ?_) rounds _ σ (hs.trans (by kernel_rfl)) (LoopP.run h)
  obtain ⟨y0, y1, y2, y3, y4⟩ := x
  rw [← f26_p24e0 xx.2.1 y0 y1 xx.2.2.2.2.2.1 y2 y3 yy.1.1 yy.1.2.1 yy.1.2.2.1 yy.1.2.2.2.1.1 yy.1.2.2.2.1.2 y4 N K]
  exact h
set_option maxHeartbeats 4000000 in
theorem f26_p16_ok : LoopOk f26_C (nthC (bodies (bodyOf Tryd.f26)) 0) := by
  refine LoopOk.of f26_p16L (by kernel_rfl) fun σ K h => ?_
  have hk : loopKey (nthC (bodies (bodyOf Tryd.f26)) 0) = 16 := by kernel_rfl
  rw [hk] at h ⊢
  generalize hs : normK f26_C 16 σ = s at h
  obtain ⟨tm, hp⟩ := s
  unfold f26_p16L at h
  dsimp only at h
  obtain ⟨xx, yy, rfl, rfl, h⟩ := getS_elim h
  refine iter_of (f26_p16_mk xx.2.1 yy.1.1 yy.1.2.1 yy.1.2.2.1 yy.1.2.2.2.1.1 yy.1.2.2.2.1.2) (fun x N h => ?_) rounds _ σ (hs.trans (by kernel_rfl)) (LoopP.run h)
  obtain ⟨y0, y1, y2, y3⟩ := x
  rw [← f26_p16e0 xx.2.1 y0 y1 y2 yy.1.1 yy.1.2.1 yy.1.2.2.1 yy.1.2.2.2.1.1 yy.1.2.2.2.1.2 y3 N K]
  exact h
noncomputable def f26_G0 : List TV → List Entry → (TV → List Entry → Prop) → Prop := fun tm hp K => getS [.v (.pagg [.str, .int .i64, .int .i64, .sl 5]), .v (.one (.int .i64))] [] tm hp fun (xx : ((ByteArray × (Int × (Int × ((List (List PC) × Bool) × Unit)))) × (Int × Unit))) (yy : Unit) => f26 xx.1.1 xx.1.2.1 xx.1.2.2.1 xx.1.2.2.2.1.1 xx.1.2.2.2.1.2 xx.2.1 (fun es0_14 full0_15 n0_16 => K (.tup [.one (.p (.sl 3 es0_14 full0_15)), .one (.p (pI n0_16))]) [])
set_option maxRecDepth 100000 in
theorem f26_eq (s_101 : ByteArray) (n_102 : Int) (n_103 : Int) (es_104 : List (List PC)) (full_105 : Bool) (n_106 : Int) (K : TV → List Entry → Prop) : (f26_d s_101 n_102 n_103 es_104 full_105 n_106 (fun es0_14 full0_15 n0_16 => K (.tup [.one (.p (.sl 3 es0_14 full0_15)), .one (.p (pI n0_16))]) [])) = funcT f26_C Tryd.f26 [.w (.pagg [pS s_101, pI n_102, pI n_103, .sl 5 es_104 full_105]), I n_106] [] K := by kernel_rfl
set_option maxHeartbeats 4000000 in
theorem f26_ok0 : FnOk Tryd.prog glob 26 f26_G0 := by
  refine FnOk.of_text (C := f26_C) tab_ok.ok (Known.add f60_G_ok (Known.add f56_G_ok (Known.add f53_G_ok (Known.add f17_G_ok (Known.none))))) follows_ok (fn := Tryd.f26) (by kernel_rfl) (by kernel_rfl) (by kernel_rfl) (fun c hc => ?_) fun tm hp K h => ?_
  · have e : c = bodyOf Tryd.f26 := Option.some.inj (hc.symm.trans (by kernel_rfl))
    subst e
    exact ⟨LoopsOk.of [nthC (bodies (bodyOf Tryd.f26)) 0, nthC (bodies (bodyOf Tryd.f26)) 1] (by kernel_rfl) ⟨f26_p16_ok, f26_p24_ok, trivial⟩, TailsOk.of (tab := f26_tab) rfl [nthC (tails (bodyOf Tryd.f26)) 19, nthC (tails (bodyOf Tryd.f26)) 20] (by kernel_rfl) ⟨f26_p31_ok, f26_p35_ok, trivial⟩⟩
  · unfold f26_G0 at h
    obtain ⟨xx, yy, rfl, rfl, h⟩ := getS_elim h
    have e := (f26_eq xx.1.1 xx.1.2.1 xx.1.2.2.1 xx.1.2.2.2.1.1 xx.1.2.2.2.1.2 xx.2.1 K).trans (show _ = funcT f26_C Tryd.f26 (mkR _ xx) (mkE _ yy) K by kernel_rfl)
    rw [← e]
    exact h.run
noncomputable abbrev f26_G := f26_G0
theorem f26_G_ok : FnOk Tryd.prog glob 26 f26_G := f26_ok0
end Go.Eng.N
set_option linter.unusedVariables false
set_option maxRecDepth 100000
open Go Go.Eng Go.Proofs
namespace Go.Eng.N
/-! ### f63: plenum/notify.Without$1 -/
noncomputable def f63_d (s1 : ByteArray) (n2 : Int) (n3 : Int) (n4 : Int) (n5 : Int) (s6 : ByteArray) (k0 : Bool → ByteArray → Prop) : Prop := k0 (s1.toList == s6.toList) s6
structure f63 (s1 : ByteArray) (n2 : Int) (n3 : Int) (n4 : Int) (n5 : Int) (s6 : ByteArray) (k0 : Bool → ByteArray → Prop) : Prop where
  run : f63_d s1 n2 n3 n4 n5 s6 k0
noncomputable def f63_tab : List (Nat × Told) := []
noncomputable def f63_call : FuncId → List TV → List Entry → (TV → List Entry → Prop) → Prop := noCalls
noncomputable def f63_C : Ctx := { ty := tyOf tab, glob := glob, byRef := byRef, keep := fun k i => lookN [] (lookN [] ([] : List (Nat × List (Nat × List Nat))) k) i, late := lookN [] ([] : List (Nat × List Nat)), nref := lookN [] ([] : List (Nat × List Nat)), nbox := lookN [] ([] : List (Nat × List (Nat × Nat))), take := [], rnil := false, m := 1, fz := true, loops := lookL f63_tab, call := f63_call }
noncomputable def f63_G0 : List TV → List Entry → (TV → List Entry → Prop) → Prop := fun tm hp K => getS [.v (.pagg [.str, .int .i64, .int .i64, .int .i64, .int .i64]), .v (.one (.ptr 0 0 0))] [.box [.str]] tm hp fun (xx : ((ByteArray × (Int × (Int × (Int × (Int × Unit))))) × (Unit × Unit))) (yy : ((ByteArray × Unit) × Unit)) => f63 xx.1.1 xx.1.2.1 xx.1.2.2.1 xx.1.2.2.2.1 xx.1.2.2.2.2.1 yy.1.1 (fun b0_0 s0_1 => K (B b0_0) [.box [.p (pS s0_1)]])
set_option maxRecDepth 100000 in
theorem f63_eq (s_2 : ByteArray) (n_3 : Int) (n_4 : Int) (n_5 : Int) (n_6 : Int) (s_7 : ByteArray) (K : TV → List Entry → Prop) : (f63_d s_2 n_3 n_4 n_5 n_6 s_7 (fun b0_0 s0_1 => K (B b0_0) [.box [.p (pS s0_1)]])) = funcT f63_C Tryd.f63 [.w (.pagg [pS s_2, pI n_3, pI n_4, pI n_5, pI n_6]), .w (.one (.ptr 0 0 0))] [.box [.p (pS s_7)]] K := by kernel_rfl
set_option maxHeartbeats 4000000 in
theorem f63_ok0 : FnOk Tryd.prog glob 63 f63_G0 := by
  refine FnOk.of_text (C := f63_C) tab_ok.ok (Known.none) follows_ok (fn := Tryd.f63) (by kernel_rfl) (by kernel_rfl) (by kernel_rfl) (fun c hc => ?_) fun tm hp K h => ?_
  · have e : c = bodyOf Tryd.f63 := Option.some.inj (hc.symm.trans (by kernel_rfl))
    subst e
    exact ⟨LoopsOk.of [] (by kernel_rfl) trivial, TailsOk.of (tab := f63_tab) rfl [] (by kernel_rfl) trivial⟩
  · unfold f63_G0 at h
    obtain ⟨xx, yy, rfl, rfl, h⟩ := getS_elim h
    have e := (f63_eq xx.1.1 xx.1.2.1 xx.1.2.2.1 xx.1.2.2.2.1 xx.1.2.2.2.2.1 yy.1.1 K).trans (show _ = funcT f63_C Tryd.f63 (mkR _ xx) (mkE _ yy) K by kernel_rfl)
    rw [← e]
    exact h.run
noncomputable abbrev f63_G := f63_G0
theorem f63_G_ok : FnOk Tryd.prog glob 63 f63_G := f63_ok0
end Go.Eng.N
set_option linter.unusedVariables false
set_option maxRecDepth 100000
open Go Go.Eng Go.Proofs
namespace Go.Eng.N
/-! ### f88_2: slices.IndexFunc(()plenum/api.Recipient,plenum/api.Recipient) -/
noncomputable def f88_2_p4b0 (i5 : Nat) (n6 : Nat) (n7 : Int) (n8 : Int) (es9 : List (List PC)) (s10 : ByteArray) (N0 : Int → ByteArray → Prop) (k0 : Int → ByteArray → Prop) (k1 : ByteArray → Prop) : Prop := bB (decide (n8 < n7)) ((0 ≤ n8 ∧ n8 < ((n6 : Nat) : Int)) ∧ cS (ext (List.getD es9 (i5 + (Int.toNat n8)) []) 0 5) fun s12 r11 => cI .i64 r11 fun n14 r13 => cI .i64 r13 fun n16 r15 => cI .i64 r15 fun n18 r17 => cI .i64 r17 fun n20 r19 => nilC r19 <| f63 s12 n14 n16 n18 n20 s10 (fun b21 s22 => bB b21 (k0 n8 s22) (N0 (w64 (n8 + 1)) s22))) (k1 s10)
noncomputable def f88_2_p4 (i5 : Nat) (n6 : Nat) (n7 : Int) (es9 : List (List PC)) (k0 : Int → ByteArray → Prop) (k1 : ByteArray → Prop) : Int × ByteArray → Prop := LoopP fun x N => f88_2_p4b0 i5 n6 n7 x.1 es9 x.2 (fun n8 s10 => N (n8, s10)) k0 k1
noncomputable def f88_2_d (i1 : Nat) (n2 : Nat) (es3 : List (List PC)) (s4 : ByteArray) (k0 : Int → (List (List PC)) → ByteArray → Prop) : Prop := f88_2_p4 i1 n2 ((n2 : Nat) : Int) es3 (fun n23 s24 => k0 n23 es3 s24) (fun s25 => k0 (-1) es3 s25) (0, s4)
structure f88_2 (i1 : Nat) (n2 : Nat) (es3 : List (List PC)) (s4 : ByteArray) (k0 : Int → (List (List PC)) → ByteArray → Prop) : Prop where
  run : f88_2_d i1 n2 es3 s4 k0
noncomputable def f88_2_p4L : Told := fun s K => match s with
  | ⟨tm, hp⟩ => getS [.v (.one (.ref 0)), .v (.clo 63 [] [.ptr 1 0 0]), .skip 5, .v (.one (.int .i64)), .v (.one (.int .i64)), .skip 10] [.vec 5 true, .box [.str]] tm hp fun (xx : ((Nat × Nat) × ((Unit × (Unit × Unit)) × (Unit × (Int × (Int × (Unit × Unit))))))) (yy : ((List (List PC)) × ((ByteArray × Unit) × Unit))) => f88_2_p4 xx.1.1 xx.1.2 xx.2.2.2.1 yy.1 (fun n0_0 s0_1 => K .ret ⟨mkS 19 [(4, I n0_0)], [.vec 5 yy.1 true, .box [.p (pS s0_1)]]⟩) (fun s1_2 => K (.exit 0) ⟨mkS 19 [], [.vec 5 yy.1 true, .box [.p (pS s1_2)]]⟩) (xx.2.2.2.2.1, yy.2.1.1)
noncomputable def f88_2_tab : List (Nat × Told) := [(4, f88_2_p4L)]
noncomputable def f88_2_call : FuncId → List TV → List Entry → (TV → List Entry → Prop) → Prop := addCall 63 f63_G (noCalls)
noncomputable def f88_2_C : Ctx := { ty := tyOf tab, glob := glob, byRef := byRef, keep := fun k i => lookN [] (lookN [] ([(4, [(0, [0, 1, 7, 8]), (2, [4]), (3, [])])] : List (Nat × List (Nat × List Nat))) k) i, late := lookN [] ([] : List (Nat × List Nat)), nref := lookN [] ([] : List (Nat × List Nat)), nbox := lookN [] ([] : List (Nat × List (Nat × Nat))), take := [], rnil := true, m := 2, fz := false, loops := lookL f88_2_tab, call := f88_2_call }
noncomputable def f88_2_p4_mk (i5 : Nat) (n6 : Nat) (n7 : Int) (es9 : List (List PC)) (x : Int × ByteArray) : St := ⟨mkS 19 [(0, .w (.one (.ref 0 i5 n6))), (1, .w (.one (.clo 63 [] [.ptr 1 0 0]))), (7, I n7), (8, I x.1)], [.vec 5 es9 true, .box [.p (pS x.2)]]⟩
set_option maxRecDepth 100000 in
theorem f88_2_p4e0 (i_12 : Nat) (n_13 : Nat) (n_14 : Int) (n_15 : Int) (es_16 : List (List PC)) (s_17 : ByteArray) (N : St → Prop) (K : TExit → St → Prop) : (f88_2_p4b0 i_12 n_13 n_14 n_15 es_16 s_17 (fun z3 z5 => N (f88_2_p4_mk i_12 n_13 n_14 es_16 (z3, z5))) (fun n0_18 s0_19 => K .ret ⟨mkS 19 [(4, I n0_18)], [.vec 5 es_16 true, .box [.p (pS s0_19)]]⟩) (fun s1_20 => K (.exit 0) ⟨mkS 19 [], [.vec 5 es_16 true, .box [.p (pS s1_20)]]⟩)) = execT f88_2_C (nthC (bodies (bodyOf Tryd.f88)) 0) (f88_2_p4_mk i_12 n_13 n_14 es_16 (n_15, s_17)) (loopK N (normK f88_2_C 4) fun e s => K e (normOut f88_2_C 4 e s)) := by kernel_rfl
set_option maxHeartbeats 4000000 in
theorem f88_2_p4_ok : LoopOk f88_2_C (nthC (bodies (bodyOf Tryd.f88)) 0) := by
  refine LoopOk.of f88_2_p4L (by kernel_rfl) fun σ K h => ?_
  have hk : loopKey (nthC (bodies (bodyOf Tryd.f88)) 0) = 4 := by kernel_rfl
  rw [hk] at h ⊢
  generalize hs : normK f88_2_C 4 σ = s at h
  obtain ⟨tm, hp⟩ := s
  unfold f88_2_p4L at h
  dsimp only at h
  obtain ⟨xx, yy, rfl, rfl, h⟩ := getS_elim h
  refine iter_of (f88_2_p4_mk xx.1.1 xx.1.2 xx.2.2.2.1 yy.1) (fun x N h => ?_) rounds _ σ (hs.trans (by kernel_rfl)) (LoopP.run h)
  obtain ⟨y0, y1⟩ := x
  rw [← f88_2_p4e0 xx.1.1 xx.1.2 xx.2.2.2.1 y0 yy.1 y1 N K]
  exact h
noncomputable def f88_2_G0 : List TV → List Entry → (TV → List Entry → Prop) → Prop := fun tm hp K => getS [.v (.one (.ref 0)), .v (.clo 63 [] [.ptr 1 0 0])] [.vec 5 true, .box [.str]] tm hp fun (xx : ((Nat × Nat) × ((Unit × (Unit × Unit)) × Unit))) (yy : ((List (List PC)) × ((ByteArray × Unit) × Unit))) => f88_2 xx.1.1 xx.1.2 yy.1 yy.2.1.1 (fun n0_3 es0_4 s0_5 => K (I n0_3) [.vec 5 es0_4 true, .box [.p (pS s0_5)]])
set_option maxRecDepth 100000 in
theorem f88_2_eq (i_21 : Nat) (n_22 : Nat) (es_23 : List (List PC)) (s_24 : ByteArray) (K : TV → List Entry → Prop) : (f88_2_d i_21 n_22 es_23 s_24 (fun n0_3 es0_4 s0_5 => K (I n0_3) [.vec 5 es0_4 true, .box [.p (pS s0_5)]])) = funcT f88_2_C Tryd.f88 [.w (.one (.ref 0 i_21 n_22)), .w (.one (.clo 63 [] [.ptr 1 0 0]))] [.vec 5 es_23 true, .box [.p (pS s_24)]] K := by kernel_rfl
set_option maxHeartbeats 4000000 in
theorem f88_2_ok0 : FnOk Tryd.prog glob 88 f88_2_G0 := by
  refine FnOk.of_text (C := f88_2_C) tab_ok.ok (Known.add f63_G_ok (Known.none)) follows_ok (fn := Tryd.f88) (by kernel_rfl) (by kernel_rfl) (by kernel_rfl) (fun c hc => ?_) fun tm hp K h => ?_
  · have e : c = bodyOf Tryd.f88 := Option.some.inj (hc.symm.trans (by kernel_rfl))
    subst e
    exact ⟨LoopsOk.of [nthC (bodies (bodyOf Tryd.f88)) 0] (by kernel_rfl) ⟨f88_2_p4_ok, trivial⟩, TailsOk.of (tab := f88_2_tab) rfl [] (by kernel_rfl) trivial⟩
  · unfold f88_2_G0 at h
    obtain ⟨xx, yy, rfl, rfl, h⟩ := getS_elim h
    have e := (f88_2_eq xx.1.1 xx.1.2 yy.1 yy.2.1.1 K).trans (show _ = funcT f88_2_C Tryd.f88 (mkR _ xx) (mkE _ yy) K by kernel_rfl)
    rw [← e]
    exact h.run
noncomputable def f88_2_G : List TV → List Entry → (TV → List Entry → Prop) → Prop := fun args H K => bif isSig (sigOf args H) [100, 100063, 7, 22, 20, 4] then f88_2_G0 args H K else f88_1_G args H K
theorem f88_2_G_ok : FnOk Tryd.prog glob 88 f88_2_G := FnOk.or _ f88_2_ok0 f88_1_G_ok
end Go.Eng.N
set_option linter.unusedVariables false
set_option maxRecDepth 100000
open Go Go.Eng Go.Proofs
namespace Go.Eng.N
/-! ### f61: slices.DeleteFunc(()plenum/api.Recipient,plenum/api.Recipient) -/
noncomputable def f61_p10b0 (i8 : Nat) (n9 : Nat) (n10 : Int) (n11 : Int) (es12 : List (List PC)) (s13 : ByteArray) (N0 : Int → Int → (List (List PC)) → ByteArray → Prop) (k0 : Int → (List (List PC)) → ByteArray → Prop) : Prop := bB (decide (n11 < ((n9 : Nat) : Int))) ((0 ≤ n11 ∧ n11 < ((n9 : Nat) : Int)) ∧ cS (ext (List.getD es12 (i8 + (Int.toNat n11)) []) 0 5) fun s15 r14 => cI .i64 r14 fun n17 r16 => cI .i64 r16 fun n19 r18 => cI .i64 r18 fun n21 r20 => cI .i64 r20 fun n23 r22 => nilC r22 <| f63 s15 n17 n19 n21 n23 s13 (fun b24 s25 => bB (!b24) ((0 ≤ n10 ∧ n10 < ((n9 : Nat) : Int)) ∧ (i8 + (Int.toNat n10)) < es12.length ∧ N0 (w64 (n10 + 1)) (w64 (n11 + 1)) (List.set es12 (i8 + (Int.toNat n10)) (splice (List.getD es12 (i8 + (Int.toNat n10)) []) 0 [pS s15, pI n17, pI n19, pI n21, pI n23])) s25) (N0 n10 (w64 (n11 + 1)) es12 s25))) (k0 n10 es12 s13)
noncomputable def f61_p10 (i8 : Nat) (n9 : Nat) (k0 : Int → (List (List PC)) → ByteArray → Prop) : Int × Int × (List (List PC)) × ByteArray → Prop := LoopP fun x N => f61_p10b0 i8 n9 x.1 x.2.1 x.2.2.1 x.2.2.2 (fun n10 n11 es12 s13 => N (n10, n11, es12, s13)) k0
noncomputable def f61_d (i1 : Nat) (n2 : Nat) (es3 : List (List PC)) (s4 : ByteArray) (k0 : Nat → Nat → (List (List PC)) → ByteArray → Prop) : Prop := f88_2 i1 n2 es3 s4 (fun n5 es6 s7 => bB (n5 == (-1)) (k0 i1 n2 es6 s7) (f61_p10 i1 n2 (fun n26 es27 s28 => (0 ≤ n26 ∧ n26 ≤ ((n2 : Nat) : Int) ∧ ((n2 : Nat) : Int) ≤ ((n2 : Nat) : Int)) ∧ ((i1 + (Int.toNat n26)) + ((Int.toNat ((n2 : Nat) : Int)) - (Int.toNat n26))) ≤ es27.length ∧ (0 ≤ (0 : Int) ∧ (0 : Int) ≤ n26 ∧ n26 ≤ ((n2 : Nat) : Int)) ∧ k0 (i1 + 0) ((Int.toNat n26) - 0) (splice es27 (i1 + (Int.toNat n26)) (List.replicate ((Int.toNat ((n2 : Nat) : Int)) - (Int.toNat n26)) [pS (⟨#[]⟩ : ByteArray), pI 0, pI 0, pI 0, pI 0])) s28) (n5, (w64 (n5 + 1)), es6, s7)))
structure f61 (i1 : Nat) (n2 : Nat) (es3 : List (List PC)) (s4 : ByteArray) (k0 : Nat → Nat → (List (List PC)) → ByteArray → Prop) : Prop where
  run : f61_d i1 n2 es3 s4 k0
noncomputable def f61_p10L : Told := fun s K => match s with
  | ⟨tm, hp⟩ => getS [.v (.one (.ref 0)), .v (.clo 63 [] [.ptr 1 0 0]), .skip 3, .v (.one (.int .i64)), .v (.one (.int .i64)), .skip 35] [.vec 5 true, .box [.str]] tm hp fun (xx : ((Nat × Nat) × ((Unit × (Unit × Unit)) × (Unit × (Int × (Int × (Unit × Unit))))))) (yy : ((List (List PC)) × ((ByteArray × Unit) × Unit))) => f61_p10 xx.1.1 xx.1.2 (fun n0_0 es0_1 s0_2 => K (.exit 0) ⟨mkS 42 [(0, .w (.one (.ref 0 xx.1.1 xx.1.2))), (5, I n0_0)], [.vec 5 es0_1 true, .box [.p (pS s0_2)]]⟩) (xx.2.2.2.1, xx.2.2.2.2.1, yy.1, yy.2.1.1)
noncomputable def f61_tab : List (Nat × Told) := [(10, f61_p10L)]
noncomputable def f61_call : FuncId → List TV → List Entry → (TV → List Entry → Prop) → Prop := addCall 88 f88_2_G (addCall 63 f63_G (noCalls))
noncomputable def f61_C : Ctx := { ty := tyOf tab, glob := glob, byRef := byRef, keep := fun k i => lookN [] (lookN [] ([(10, [(0, [0, 1, 5, 6]), (2, [4]), (3, [0, 5])])] : List (Nat × List (Nat × List Nat))) k) i, late := lookN [] ([] : List (Nat × List Nat)), nref := lookN [] ([] : List (Nat × List Nat)), nbox := lookN [] ([] : List (Nat × List (Nat × Nat))), take := [], rnil := true, m := 2, fz := false, loops := lookL f61_tab, call := f61_call }
noncomputable def f61_p10_mk (i8 : Nat) (n9 : Nat) (x : Int × Int × (List (List PC)) × ByteArray) : St := ⟨mkS 42 [(0, .w (.one (.ref 0 i8 n9))), (1, .w (.one (.clo 63 [] [.ptr 1 0 0]))), (5, I x.1), (6, I x.2.1)], [.vec 5 x.2.2.1 true, .box [.p (pS x.2.2.2)]]⟩
set_option maxRecDepth 100000 in
theorem f61_p10e0 (i_13 : Nat) (n_14 : Nat) (n_15 : Int) (n_16 : Int) (es_17 : List (List PC)) (s_18 : ByteArray) (N : St → Prop) (K : TExit → St → Prop) : (f61_p10b0 i_13 n_14 n_15 n_16 es_17 s_18 (fun z2 z3 z4 z5 => N (f61_p10_mk i_13 n_14 (z2, z3, z4, z5))) (fun n0_19 es0_20 s0_21 => K (.exit 0) ⟨mkS 42 [(0, .w (.one (.ref 0 i_13 n_14))), (5, I n0_19)], [.vec 5 es0_20 true, .box [.p (pS s0_21)]]⟩)) = execT f61_C (nthC (bodies (bodyOf Tryd.f61)) 0) (f61_p10_mk i_13 n_14 (n_15, n_16, es_17, s_18)) (loopK N (normK f61_C 10) fun e s => K e (normOut f61_C 10 e s)) := by kernel_rfl
set_option maxHeartbeats 4000000 in
theorem f61_p10_ok : LoopOk f61_C (nthC (bodies (bodyOf Tryd.f61)) 0) := by
  refine LoopOk.of f61_p10L (by kernel_rfl) fun σ K h => ?_
  have hk : loopKey (nthC (bodies (bodyOf Tryd.f61)) 0) = 10 := by kernel_rfl
  rw [hk] at h ⊢
  generalize hs : normK f61_C 10 σ = s at h
  obtain ⟨tm, hp⟩ := s
  unfold f61_p10L at h
  dsimp only at h
  obtain ⟨xx, yy, rfl, rfl, h⟩ := getS_elim h
  refine iter_of (f61_p10_mk xx.1.1 xx.1.2) (fun x N h => ?_) rounds _ σ (hs.trans (by kernel_rfl)) (LoopP.run h)
  obtain ⟨y0, y1, y2, y3⟩ := x
  rw [← f61_p10e0 xx.1.1 xx.1.2 y0 y1 y2 y3 N K]
  exact h
noncomputable def f61_G0 : List TV → List Entry → (TV → List Entry → Prop) → Prop := fun tm hp K => getS [.v (.one (.ref 0)), .v (.clo 63 [] [.ptr 1 0 0])] [.vec 5 true, .box [.str]] tm hp fun (xx : ((Nat × Nat) × ((Unit × (Unit × Unit)) × Unit))) (yy : ((List (List PC)) × ((ByteArray × Unit) × Unit))) => f61 xx.1.1 xx.1.2 yy.1 yy.2.1.1 (fun i0_3 n0_4 es0_5 s0_6 => K (.w (.one (.ref 0 i0_3 n0_4))) [.vec 5 es0_5 true, .box [.p (pS s0_6)]])
set_option maxRecDepth 100000 in
theorem f61_eq (i_22 : Nat) (n_23 : Nat) (es_24 : List (List PC)) (s_25 : ByteArray) (K : TV → List Entry → Prop) : (f61_d i_22 n_23 es_24 s_25 (fun i0_3 n0_4 es0_5 s0_6 => K (.w (.one (.ref 0 i0_3 n0_4))) [.vec 5 es0_5 true, .box [.p (pS s0_6)]])) = funcT f61_C Tryd.f61 [.w (.one (.ref 0 i_22 n_23)), .w (.one (.clo 63 [] [.ptr 1 0 0]))] [.vec 5 es_24 true, .box [.p (pS s_25)]] K := by kernel_rfl
set_option maxHeartbeats 4000000 in
theorem f61_ok0 : FnOk Tryd.prog glob 61 f61_G0 := by
  refine FnOk.of_text (C := f61_C) tab_ok.ok (Known.add f88_2_G_ok (Known.add f63_G_ok (Known.none))) follows_ok (fn := Tryd.f61) (by kernel_rfl) (by kernel_rfl) (by kernel_rfl) (fun c hc => ?_) fun tm hp K h => ?_
  · have e : c = bodyOf Tryd.f61 := Option.some.inj (hc.symm.trans (by kernel_rfl))
    subst e
    exact ⟨LoopsOk.of [nthC (bodies (bodyOf Tryd.f61)) 0] (by kernel_rfl) ⟨f61_p10_ok, trivial⟩, TailsOk.of (tab := f61_tab) rfl [] (by kernel_rfl) trivial⟩
  · unfold f61_G0 at h
    obtain ⟨xx, yy, rfl, rfl, h⟩ := getS_elim h
    have e := (f61_eq xx.1.1 xx.1.2 yy.1 yy.2.1.1 K).trans (show _ = funcT f61_C Tryd.f61 (mkR _ xx) (mkE _ yy) K by kernel_rfl)
    rw [← e]
    exact h.run
noncomputable abbrev f61_G := f61_G0
theorem f61_G_ok : FnOk Tryd.prog glob 61 f61_G := f61_ok0
end Go.Eng.N
set_option linter.unusedVariables false
set_option maxRecDepth 100000
open Go Go.Eng Go.Proofs
namespace Go.Eng.N
/-! ### f62: slices.Clone(()plenum/api.Recipient,plenum/api.Recipient) -/
noncomputable def f62_d (es1 : List (List PC)) (full2 : Bool) (k0 : Nat → Nat → (List (List PC)) → Prop) : Prop := ((es1 = []) → k0 0 0 []) ∧ (0 = 0 ∧ (0 + es1.length) * 48 ≤ 2 ^ 46 ∧ (0 + es1.length) ≤ 2 ^ 46 ∧ k0 0 (0 + es1.length) (List.drop 0 [] ++ es1))
structure f62 (es1 : List (List PC)) (full2 : Bool) (k0 : Nat → Nat → (List (List PC)) → Prop) : Prop where
  run : f62_d es1 full2 k0
noncomputable def f62_tab : List (Nat × Told) := []
noncomputable def f62_call : FuncId → List TV → List Entry → (TV → List Entry → Prop) → Prop := noCalls
noncomputable def f62_C : Ctx := { ty := tyOf tab, glob := glob, byRef := byRef, keep := fun k i => lookN [] (lookN [] ([] : List (Nat × List (Nat × List Nat))) k) i, late := lookN [] ([] : List (Nat × List Nat)), nref := lookN [] ([] : List (Nat × List Nat)), nbox := lookN [] ([] : List (Nat × List (Nat × Nat))), take := [], rnil := true, m := 0, fz := false, loops := lookL f62_tab, call := f62_call }
noncomputable def f62_G0 : List TV → List Entry → (TV → List Entry → Prop) → Prop := fun tm hp K => getS [.v (.one (.sl 5))] [] tm hp fun (xx : ((List (List PC) × Bool) × Unit)) (yy : Unit) => f62 xx.1.1 xx.1.2 (fun i0_0 n0_1 es0_2 => K (.w (.one (.ref 0 i0_0 n0_1))) [.vec 5 es0_2 true])
set_option maxRecDepth 100000 in
theorem f62_eq (es_3 : List (List PC)) (full_4 : Bool) (K : TV → List Entry → Prop) : (f62_d es_3 full_4 (fun i0_0 n0_1 es0_2 => K (.w (.one (.ref 0 i0_0 n0_1))) [.vec 5 es0_2 true])) = funcT f62_C Tryd.f62 [.w (.one (.p (.sl 5 es_3 full_4)))] [] K := by kernel_rfl
set_option maxHeartbeats 4000000 in
theorem f62_ok0 : FnOk Tryd.prog glob 62 f62_G0 := by
  refine FnOk.of_text (C := f62_C) tab_ok.ok (Known.none) follows_ok (fn := Tryd.f62) (by kernel_rfl) (by kernel_rfl) (by kernel_rfl) (fun c hc => ?_) fun tm hp K h => ?_
  · have e : c = bodyOf Tryd.f62 := Option.some.inj (hc.symm.trans (by kernel_rfl))
    subst e
    exact ⟨LoopsOk.of [] (by kernel_rfl) trivial, TailsOk.of (tab := f62_tab) rfl [] (by kernel_rfl) trivial⟩
  · unfold f62_G0 at h
    obtain ⟨xx, yy, rfl, rfl, h⟩ := getS_elim h
    have e := (f62_eq xx.1.1 xx.1.2 K).trans (show _ = funcT f62_C Tryd.f62 (mkR _ xx) (mkE _ yy) K by kernel_rfl)
    rw [← e]
    exact h.run
noncomputable abbrev f62_G := f62_G0
theorem f62_G_ok : FnOk Tryd.prog glob 62 f62_G := f62_ok0
end Go.Eng.N
set_option linter.unusedVariables false
set_option maxRecDepth 100000
open Go Go.Eng Go.Proofs
namespace Go.Eng.N
/-! ### f27: plenum/notify.Without -/
noncomputable def f27_p18b0 (n15 : Int) (n16 : Int) (s17 : ByteArray) (n18 : Int) (n19 : Int) (es20 : List (List PC)) (full21 : Bool) (s22 : ByteArray) (n23 : Int) (n24 : Int) (s25 : ByteArray) (n26 : Int) (n27 : Int) (i28 : Nat) (n29 : Nat) (es30 : List (List PC)) (N0 : Int → (List (List PC)) → Prop) (k0 : Int → ByteArray → Int → Int → Prop) (k1 : (List (List PC)) → Prop) : Prop := bB (decide (n16 < n15)) (0 ≤ n16 ∧ 0 ≤ n16 ∧ f58 es20 full21 (IntKind.wrap .i64 (1 * 2 ^ (min (Int.toNat n16) 64))) (fun cs31 => f58_1 i28 n29 (IntKind.wrap .i64 (1 * 2 ^ (min (Int.toNat n16) 64))) es30 (fun cs32 es33 => ∃ b34, eqCells (List.replicate 10080 (.bool)) cs31 cs32 = some b34 ∧ bB (!b34) (k0 10 (⟨#[]⟩ : ByteArray) 0 0) (N0 (w64 (n16 + 1)) es33)))) (k1 es30)
noncomputable def f27_p18 (n15 : Int) (s17 : ByteArray) (n18 : Int) (n19 : Int) (es20 : List (List PC)) (full21 : Bool) (s22 : ByteArray) (n23 : Int) (n24 : Int) (s25 : ByteArray) (n26 : Int) (n27 : Int) (i28 : Nat) (n29 : Nat) (k0 : Int → ByteArray → Int → Int → Prop) (k1 : (List (List PC)) → Prop) : Int × (List (List PC)) → Prop := LoopP fun x N => f27_p18b0 n15 x.1 s17 n18 n19 es20 full21 s22 n23 n24 s25 n26 n27 i28 n29 x.2 (fun n16 es30 => N (n16, es30)) k0 k1
noncomputable def f27_d (s1 : ByteArray) (n2 : Int) (n3 : Int) (es4 : List (List PC)) (full5 : Bool) (s6 : ByteArray) (k0 : ByteArray → Int → Int → (List (List PC)) → Bool → Int → Prop) : Prop := f16 s1 n2 n3 es4 full5 (fun n7 => bB (n7 != 0) (k0 (⟨#[]⟩ : ByteArray) 0 0 [] true n7) (f62 es4 full5 (fun i8 n9 es10 => f61 i8 n9 es10 s6 (fun i11 n12 es13 s14 => bB (((n12 : Nat) : Int) == ((es4.length : Nat) : Int)) (k0 (⟨#[]⟩ : ByteArray) 0 0 [] true 3) (f27_p18 3 s1 n2 n3 es4 full5 (⟨#[]⟩ : ByteArray) 0 0 s1 n2 n3 i11 n12 (fun n35 s36 n37 n38 => k0 s36 n37 n38 [] true n35) (fun es39 => k0 s1 n2 n3 (List.take n12 (List.drop i11 es39)) false 0) (0, es13))))))
structure f27 (s1 : ByteArray) (n2 : Int) (n3 : Int) (es4 : List (List PC)) (full5 : Bool) (s6 : ByteArray) (k0 : ByteArray → Int → Int → (List (List PC)) → Bool → Int → Prop) : Prop where
  run : f27_d s1 n2 n3 es4 full5 s6 k0
noncomputable def f27_p18L : Told := fun s K => match s with
  | ⟨tm, hp⟩ => getS [.skip 2, .v (.one (.ptr 0 0 0)), .skip 1, .v (.one (.ptr 1 0 0)), .skip 2, .v (.one (.ptr 2 0 0)), .skip 23, .v (.one (.int .i64)), .v (.one (.int .i64)), .skip 16] [.box [.str, .int .i64, .int .i64, .sl 5], .box [.str, .int .i64, .int .i64, .nil 5], .box [.str, .int .i64, .int .i64, .ref 3], .vec 5 true] tm hp fun (xx : (Unit × (Unit × (Unit × (Unit × (Unit × (Unit × (Unit × (Int × (Int × (Unit × Unit))))))))))) (yy : ((ByteArray × (Int × (Int × ((List (List PC) × Bool) × Unit)))) × ((ByteArray × (Int × (Int × (Unit × Unit)))) × ((ByteArray × (Int × (Int × ((Nat × Nat) × Unit)))) × ((List (List PC)) × Unit))))) => f27_p18 xx.2.2.2.2.2.2.2.1 yy.1.1 yy.1.2.1 yy.1.2.2.1 yy.1.2.2.2.1.1 yy.1.2.2.2.1.2 yy.2.1.1 yy.2.1.2.1 yy.2.1.2.2.1 yy.2.2.1.1 yy.2.2.1.2.1 yy.2.2.1.2.2.1 yy.2.2.1.2.2.2.1.1 yy.2.2.1.2.2.2.1.2 (fun n0_0 s0_1 n0_2 n0_3 => K .ret ⟨mkS 49 [(4, .w (.one (.ptr 0 0 0))), (5, I n0_0)], [.box [.p (pS s0_1), .p (pI n0_2), .p (pI n0_3), .p (.sl 5 [] true)]]⟩) (fun es1_4 => K (.exit 0) ⟨mkS 49 [(4, .w (.one (.ptr 0 0 0))), (7, .w (.one (.ptr 1 0 0)))], [.box [.p (pS yy.2.1.1), .p (pI yy.2.1.2.1), .p (pI yy.2.1.2.2.1), .p (.sl 5 [] true)], .box [.p (pS yy.2.2.1.1), .p (pI yy.2.2.1.2.1), .p (pI yy.2.2.1.2.2.1), .ref 2 yy.2.2.1.2.2.2.1.1 yy.2.2.1.2.2.2.1.2], .vec 5 es1_4 true]⟩) (xx.2.2.2.2.2.2.2.2.1, yy.2.2.2.1)
noncomputable def f27_tab : List (Nat × Told) := [(18, f27_p18L)]
noncomputable def f27_call : FuncId → List TV → List Entry → (TV → List Entry → Prop) → Prop := addCall 62 f62_G (addCall 61 f61_G (addCall 58 f58_1_G (addCall 16 f16_G (noCalls))))
noncomputable def f27_C : Ctx := { ty := tyOf tab, glob := glob, byRef := byRef, keep := fun k i => lookN [] (lookN [] ([(18, [(0, [2, 4, 7, 31, 32]), (2, [4, 5]), (3, [4, 7])])] : List (Nat × List (Nat × List Nat))) k) i, late := lookN [] ([] : List (Nat × List Nat)), nref := lookN [] ([] : List (Nat × List Nat)), nbox := lookN [] ([] : List (Nat × List (Nat × Nat))), take := [], rnil := false, m := 0, fz := true, loops := lookL f27_tab, call := f27_call }
noncomputable def f27_p18_mk (n15 : Int) (s17 : ByteArray) (n18 : Int) (n19 : Int) (es20 : List (List PC)) (full21 : Bool) (s22 : ByteArray) (n23 : Int) (n24 : Int) (s25 : ByteArray) (n26 : Int) (n27 : Int) (i28 : Nat) (n29 : Nat) (x : Int × (List (List PC))) : St := ⟨mkS 49 [(2, .w (.one (.ptr 0 0 0))), (4, .w (.one (.ptr 1 0 0))), (7, .w (.one (.ptr 2 0 0))), (31, I n15), (32, I x.1)], [.box [.p (pS s17), .p (pI n18), .p (pI n19), .p (.sl 5 es20 full21)], .box [.p (pS s22), .p (pI n23), .p (pI n24), .p (.sl 5 [] true)], .box [.p (pS s25), .p (pI n26), .p (pI n27), .ref 3 i28 n29], .vec 5 x.2 true]⟩
set_option maxRecDepth 100000 in
theorem f27_p18e0 (n_27 : Int) (n_28 : Int) (s_29 : ByteArray) (n_30 : Int) (n_31 : Int) (es_32 : List (List PC)) (full_33 : Bool) (s_34 : ByteArray) (n_35 : Int) (n_36 : Int) (s_37 : ByteArray) (n_38 : Int) (n_39 : Int) (i_40 : Nat) (n_41 : Nat) (es_42 : List (List PC)) (N : St → Prop) (K : TExit → St → Prop) : (f27_p18b0 n_27 n_28 s_29 n_30 n_31 es_32 full_33 s_34 n_35 n_36 s_37 n_38 n_39 i_40 n_41 es_42 (fun z1 z15 => N (f27_p18_mk n_27 s_29 n_30 n_31 es_32 full_33 s_34 n_35 n_36 s_37 n_38 n_39 i_40 n_41 (z1, z15))) (fun n0_43 s0_44 n0_45 n0_46 => K .ret ⟨mkS 49 [(4, .w (.one (.ptr 0 0 0))), (5, I n0_43)], [.box [.p (pS s0_44), .p (pI n0_45), .p (pI n0_46), .p (.sl 5 [] true)]]⟩) (fun es1_47 => K (.exit 0) ⟨mkS 49 [(4, .w (.one (.ptr 0 0 0))), (7, .w (.one (.ptr 1 0 0)))], [.box [.p (pS s_34), .p (pI n_35), .p (pI n_36), .p (.sl 5 [] true)], .box [.p (pS s_37), .p (pI n_38), .p (pI n_39), .ref 2 i_40 n_41], .vec 5 es1_47 true]⟩)) = execT f27_C (nthC (bodies (bodyOf Tryd.f27)) 0) (f27_p18_mk n_27 s_29 n_30 n_31 es_32 full_33 s_34 n_35 n_36 s_37 n_38 n_39 i_40 n_41 (n_28, es_42)) (loopK N (normK f27_C 18) fun e s => K e (normOut f27_C 18 e s)) := by kernel_rfl
set_option maxHeartbeats 4000000 in
theorem f27_p18_ok : LoopOk f27_C (nthC (bodies (bodyOf Tryd.f27)) 0) := by
  refine LoopOk.of f27_p18L (by kernel_rfl) fun σ K h => ?_
  have hk : loopKey (nthC (bodies (bodyOf Tryd.f27)) 0) = 18 := by kernel_rfl
  rw [hk] at h ⊢
  generalize hs : normK f27_C 18 σ = s at h
  obtain ⟨tm, hp⟩ := s
  unfold f27_p18L at h
  dsimp only at h
  obtain ⟨xx, yy, rfl, rfl, h⟩ := getS_elim h
  refine iter_of (f27_p18_mk xx.2.2.2.2.2.2.2.1 yy.1.1 yy.1.2.1 yy.1.2.2.1 yy.1.2.2.2.1.1 yy.1.2.2.2.1.2 yy.2.1.1 yy.2.1.2.1 yy.2.1.2.2.1 yy.2.2.1.1 yy.2.2.1.2.1 yy.2.2.1.2.2.1 yy.2.2.1.2.2.2.1.1 yy.2.2.1.2.2.2.1.2) (fun x N h => ?_) rounds _ σ (hs.trans (by kernel_rfl)) (LoopP.run h)
  obtain ⟨y0, y1⟩ := x
  rw [← f27_p18e0 xx.2.2.2.2.2.2.2.1 y0 yy.1.1 yy.1.2.1 yy.1.2.2.1 yy.1.2.2.2.1.1 yy.1.2.2.2.1.2 yy.2.1.1 yy.2.1.2.1 yy.2.1.2.2.1 yy.2.2.1.1 yy.2.2.1.2.1 yy.2.2.1.2.2.1 yy.2.2.1.2.2.2.1.1 yy.2.2.1.2.2.2.1.2 y1 N K]
  exact h
noncomputable def f27_G0 : List TV → List Entry → (TV → List Entry → Prop) → Prop := fun tm hp K => getS [.v (.pagg [.str, .int .i64, .int .i64, .sl 5]), .v (.one (.str))] [] tm hp fun (xx : ((ByteArray × (Int × (Int × ((List (List PC) × Bool) × Unit)))) × (ByteArray × Unit))) (yy : Unit) => f27 xx.1.1 xx.1.2.1 xx.1.2.2.1 xx.1.2.2.2.1.1 xx.1.2.2.2.1.2 xx.2.1 (fun s0_5 n0_6 n0_7 es0_8 full0_9 n0_10 => K (.tup [.pagg [pS s0_5, pI n0_6, pI n0_7, .sl 5 es0_8 full0_9], .one (.p (pI n0_10))]) [])
set_option maxRecDepth 100000 in
theorem f27_eq (s_48 : ByteArray) (n_49 : Int) (n_50 : Int) (es_51 : List (List PC)) (full_52 : Bool) (s_53 : ByteArray) (K : TV → List Entry → Prop) : (f27_d s_48 n_49 n_50 es_51 full_52 s_53 (fun s0_5 n0_6 n0_7 es0_8 full0_9 n0_10 => K (.tup [.pagg [pS s0_5, pI n0_6, pI n0_7, .sl 5 es0_8 full0_9], .one (.p (pI n0_10))]) [])) = funcT f27_C Tryd.f27 [.w (.pagg [pS s_48, pI n_49, pI n_50, .sl 5 es_51 full_52]), S s_53] [] K := by kernel_rfl
set_option maxHeartbeats 4000000 in
theorem f27_ok0 : FnOk Tryd.prog glob 27 f27_G0 := by
  refine FnOk.of_text (C := f27_C) tab_ok.ok (Known.add f62_G_ok (Known.add f61_G_ok (Known.add f58_1_G_ok (Known.add f16_G_ok (Known.none))))) follows_ok (fn := Tryd.f27) (by kernel_rfl) (by kernel_rfl) (by kernel_rfl) (fun c hc => ?_) fun tm hp K h => ?_
  · have e : c = bodyOf Tryd.f27 := Option.some.inj (hc.symm.trans (by kernel_rfl))
    subst e
    exact ⟨LoopsOk.of [nthC (bodies (bodyOf Tryd.f27)) 0] (by kernel_rfl) ⟨f27_p18_ok, trivial⟩, TailsOk.of (tab := f27_tab) rfl [] (by kernel_rfl) trivial⟩
  · unfold f27_G0 at h
    obtain ⟨xx, yy, rfl, rfl, h⟩ := getS_elim h
    have e := (f27_eq xx.1.1 xx.1.2.1 xx.1.2.2.1 xx.1.2.2.2.1.1 xx.1.2.2.2.1.2 xx.2.1 K).trans (show _ = funcT f27_C Tryd.f27 (mkR _ xx) (mkE _ yy) K by kernel_rfl)
    rw [← e]
    exact h.run
noncomputable abbrev f27_G := f27_G0
theorem f27_G_ok : FnOk Tryd.prog glob 27 f27_G := f27_ok0
end Go.Eng.N
