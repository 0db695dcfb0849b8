-- Written by pp.py (a program of this session, over the kit's print.py) out of the translation. Not trusted: Lean checks it.
import Derived.Test.YteclemahimldeaaKx0
import Derived.Test.YteclemahimldeaaKx1
import Derived.Test.YteclemahimldeaaKx3
import Derived.Test.YteclemahimldeaaKx4
import Derived.Test.YteclemahimldeaaKx5
import Derived.Test.YteclemahimldeaaKx6
import Derived.Test.YteclemahimldeaaKx7
import Derived.Test.YteclemahimldeaaKx9
namespace Go.Proofs.Yteclemahimldeaa.K
open Go.RowKit Go.Proofs.YteclemahimldeaaW.PrintWords Go.Proofs.YteclemahimldeaaW.PrintLast Go.Proofs.YteclemahimldeaaW.PrintMore
attribute [local go_sem] max2_int min2_int max_two min_two max_three min_three max_four min_four   -- for this text's walks alone
attribute [local go_sem] pp_mod256 pp_mod256_w
set_option linter.unusedVariables false
set_option linter.unusedSimpArgs false

attribute [local go_sem high] eqA40

/-! ### api_Record_50: function 50 -/
-- told with Between


/-! ### api_Record_42: function 42 -/
-- told with Between


/-! ### collect_Between: function 26 -/
/-- A call of a function value that is known: what it captured stands behind the arguments. -/
theorem goesV_ {P : Program} {ops : Array Oper} {Q : Exit → Act → World → Prop} {rest : List Oper} {oi : Oper} {a : Act} {w : World} (N : Option Tmp) (hd : oi.dst = N) (hg : oi.guard = none) {f : FuncId} {fn : Func} {as_ : Array Operand} {ts : Array TypeId} {t : Operand} {caps : Array Value} (hf : P.funcs[f]? = some fn) (hname : (fn.name == "runtime.NumGoroutine") = false) (hb : fn.body.isSome = true) (args : Array Value)
  (hop : oi.op = .call { callee := .value t, args := as_, argTypes := ts }) (ht : a.eval t = .func (.func f) #[] caps) (hargs : as_.map a.eval = args)
  (h : Calls P f (args ++ caps) w fun e w' => ∃ v, e = .returned v ∧ wpList P ops Q rest (a.put N v) w') : wpList P ops Q (oi :: rest) a w := by
 refine wpList_plain hg fun K hK => ?_
 have he := enters_ hf hname hb (args ++ caps) w
 have hrun : (execOp a.eval oi).run P w = .ok (.enter f (args ++ caps)) w := by
  unfold execOp
  simp [hop, resolve, Deferred.ofValue, invoke, hargs, ht, he]
 unfold Oper.wp
 rw [hrun, Oper.upon_enter]
 refine h.mono fun e w'' hh => ?_
 obtain ⟨v, rfl, hk⟩ := hh
 subst hd
 exact hK _ _ hk
theorem gate_value {P : Program} {ops : Array Oper} {Q : Exit → Act → World → Prop} {rest : List Oper} {o : Oper} {a : Act} {W : World} {t : Tmp} {as_ : Array Operand} {ts : Array TypeId} (_ho : o.op = .call { callee := .value (.tmp t), args := as_, argTypes := ts }) (h : wpList P ops Q (o :: rest) a W) : wpList P ops Q (o :: rest) a W := h
def slices_IndexFunc_Rec.pd (pf : S42 → Bool) (a0 a1 a2 a3 a4 a5 : Int) : Option Bool := some (pf ⟨a0, a1, ⟨a2, a3⟩, a4, a5⟩)
def slices_IndexFunc_Rec.l0 (pf : S42 → Bool) : Nat → List (S42) → Int → Int → Option (Int)
 | 0, _, _, _ => none
 | k + 1, x0, x7, x8 => if x8 < x7 then (if 0 ≤ x8 then (if x8 < (x0.length : Int) then ((slices_IndexFunc_Rec.pd pf ((rd_T42 x0 x8).f0) ((rd_T42 x0 x8).f1) ((rd_T42 x0 x8).f2.f0) ((rd_T42 x0 x8).f2.f1) ((rd_T42 x0 x8).f3) ((rd_T42 x0 x8).f4)).bind fun t199 => (if t199 = true then (some x8) else (slices_IndexFunc_Rec.l0 pf k x0 x7 (wrap64 (x8 + 1))))) else (none)) else (none)) else (some (-1))
def slices_IndexFunc_Rec.f (pf : S42 → Bool) (k : Nat) (l0 : List (S42)) : Option (Int) := slices_IndexFunc_Rec.l0 pf k l0 (l0.length : Int) 0
theorem slices_IndexFunc_Rec.mono_l (pf : S42 → Bool) : ∀ k, (∀ y0 y1 y2, LeO (slices_IndexFunc_Rec.l0 pf k y0 y1 y2) (slices_IndexFunc_Rec.l0 pf (k + 1) y0 y1 y2))
 | 0 => fun _ _ _ r h => by simp [slices_IndexFunc_Rec.l0] at h
 | k + 1 => by
  have ih0 := slices_IndexFunc_Rec.mono_l pf k
  ·intro y0 y1 y2
   unfold slices_IndexFunc_Rec.l0
   repeat' first
   | (with_reducible exact ih0 _ _ _)
   | (with_reducible exact LeO.refl _)
   | (with_reducible exact LeO.none _)
   | (with_reducible refine LeO.ite ?_ ?_)
   | (with_reducible refine LeO.bind ?_ (fun _ => ?_))
   | exact ih0 _ _ _
   | exact LeO.none _
   | refine LeO.ite ?_ ?_
   | refine LeO.bind ?_ (fun _ => ?_)
theorem slices_IndexFunc_Rec.mono (pf : S42 → Bool) : ∀ a0 k, LeO (slices_IndexFunc_Rec.f pf k a0) (slices_IndexFunc_Rec.f pf (k + 1) a0) := by
 intro a0 k
 have ih0 := slices_IndexFunc_Rec.mono_l pf k
 unfold slices_IndexFunc_Rec.f
 repeat' first
   | (with_reducible exact ih0 _ _ _)
   | (with_reducible exact LeO.refl _)
   | (with_reducible exact LeO.none _)
   | (with_reducible refine LeO.ite ?_ ?_)
   | (with_reducible refine LeO.bind ?_ (fun _ => ?_))
   | exact ih0 _ _ _
   | exact LeO.none _
   | refine LeO.ite ?_ ?_
   | refine LeO.bind ?_ (fun _ => ?_)
set_option maxHeartbeats 8000000 in
set_option maxRecDepth 100000 in
theorem slices_IndexFunc_Rec.calls (pf : S42 → Bool) (F : FuncId) (fnF : Func) (caps : Array Value) (hF : Try.prog.funcs[F]? = some fnF) (hFn : (fnF.name == "runtime.NumGoroutine") = false) (hFb : fnF.body.isSome = true) (k : Nat) (A0 : Option Addr) (c0 : Nat) (l0 : List (S42)) (r : Int) (w : World) (hP : ∀ W_ : World, Below w.heap.size w W_ → ∀ x : S42, Calls Try.prog F (#[.agg #[.int .i64 x.f0, .int .i64 x.f1, .int .i64 x.f2.f0, .int .i64 x.f2.f1, .int .i64 x.f3, .int .i64 x.f4]] ++ caps) W_ fun e W2 => e = .returned (.bool (pf x)) ∧ Below W_.heap.size W_ W2) (hr0 : Kd.C k42 w A0 l0.length l0) (hc0 : l0.length ≤ c0) (h : slices_IndexFunc_Rec.f pf k l0 = some r) :
  Calls Try.prog 50 #[.slice A0 l0.length c0, .func (.func F) #[] caps] w fun e w' => e = .returned (.int .i64 r) ∧ Below w.heap.size w w' := by
 have hu42 := Try.underlying42
 have HR0 := Aside0.mk hr0
 have HC0 := Aside0.mk hc0
 clear hr0 hc0
 have HB := Aside0.mk (Below.refl w.heap.size w)
 have H : (slices_IndexFunc_Rec.l0 pf k l0 (l0.length : Int) 0) = some r := h
 clear h
 have H' := Aside0.mk H
 clear H
 go_enter Try.func50, Try.ntmps50
 go_wp2
 go_loopg [8] k (fun kq v8 w' => ∃ (x8_1 : Int), v8 = .int .i64 x8_1 ∧ Aside0 (slices_IndexFunc_Rec.l0 pf kq l0 (l0.length : Int) x8_1 = some r) ∧ Aside0 (kq ≤ k) ∧ Aside0 (Below w.heap.size w w'))
 case atStart => exact ⟨(0), (by first | rfl | (simp; done) | (simp [*]; done)), H', ⟨Nat.le_refl _⟩, ⟨by repeat (first | (with_reducible first | exact HB.out | apply below_alloc | apply pw_below_drewN | apply below_drew1) | exact HB.out)⟩⟩
 case round =>
  clear H'
  obtain ⟨x8_1, rfl, HA, HK1, HB⟩ := hrel
  cases gk with
  | zero => exact absurd HA.out (by simp [slices_IndexFunc_Rec.l0])
  | succ k1 =>
   have H := HA.out
   clear HA
   simp only [slices_IndexFunc_Rec.l0] at H
   by_cases c2 : x8_1 < (l0.length : Int)
   ·rw [if_pos c2] at H
    have c2b0 : decide (x8_1 < (l0.length : Int)) = true := decide_eq_true c2
    clear c2
    by_cases c3 : 0 ≤ x8_1
    ·rw [if_pos c3] at H
     have c3b0 : decide (0 ≤ x8_1) = true := decide_eq_true c3
     clear c3
     by_cases c4 : x8_1 < (l0.length : Int)
     ·rw [if_pos c4] at H
      have c4b0 : decide (x8_1 < (l0.length : Int)) = true := decide_eq_true c4
      clear c4
      replace H := Option.bind_eq_some_iff.mp H
      obtain ⟨t199, A50, H⟩ := H
      replace H : (if t199 = true then (some x8_1) else (slices_IndexFunc_Rec.l0 pf k1 l0 (l0.length : Int) (wrap64 (x8_1 + 1)))) = some r := H
      have A5 := Aside0.mk A50
      clear A50
      by_cases c6 : t199 = true
      ·subst c6
       have H1 : (some x8_1) = some r := by rw [if_pos rfl] at H; exact H
       clear H
       have H := H1
       clear H1
       obtain rfl := Option.some.inj H
       have p198 : 0 ≤ (x8_1 : Int) := of_decide_eq_true (by first | (with_reducible assumption) | assumption)
       have q198 : x8_1 < (l0.length : Int) := of_decide_eq_true (by first | (with_reducible assumption) | assumption)
       obtain ⟨ad198, e198, hx198_0, hx198_1, hx198_2, hx198_3, hx198_4, hx198_5⟩ := at_T42 HR0.out x8_1 p198 q198
       cases e198
       replace hx198_0 := (HB.out.cell (World.block_lt_of_cell? w _ hx198_0)).trans hx198_0
       replace hx198_1 := (HB.out.cell (World.block_lt_of_cell? w _ hx198_1)).trans hx198_1
       replace hx198_2 := (HB.out.cell (World.block_lt_of_cell? w _ hx198_2)).trans hx198_2
       replace hx198_3 := (HB.out.cell (World.block_lt_of_cell? w _ hx198_3)).trans hx198_3
       replace hx198_4 := (HB.out.cell (World.block_lt_of_cell? w _ hx198_4)).trans hx198_4
       replace hx198_5 := (HB.out.cell (World.block_lt_of_cell? w _ hx198_5)).trans hx198_5
       replace p198 := eq_true p198
       replace q198 := eq_true q198
       go_wp2_with (first | ((with_reducible refine gate_value rfl ?_); refine goesV_ (some 16) rfl rfl hF hFn hFb #[.agg #[.int .i64 ((rd_T42 l0 x8_1).f0), .int .i64 ((rd_T42 l0 x8_1).f1), .int .i64 ((rd_T42 l0 x8_1).f2.f0), .int .i64 ((rd_T42 l0 x8_1).f2.f1), .int .i64 ((rd_T42 l0 x8_1).f3), .int .i64 ((rd_T42 l0 x8_1).f4)]] rfl rfl (by (try simp only [List.map_toArray, List.map_cons, List.map_nil]); first | done | rfl) ?_; have hq_ := Option.some.inj A5.out; (refine (hP _ (by repeat (first | (with_reducible first | exact HB.out | apply below_alloc | apply pw_below_drewN | apply below_drew1) | exact HB.out)) (⟨((rd_T42 l0 x8_1).f0), ((rd_T42 l0 x8_1).f1), ⟨((rd_T42 l0 x8_1).f2.f0), ((rd_T42 l0 x8_1).f2.f1)⟩, ((rd_T42 l0 x8_1).f3), ((rd_T42 l0 x8_1).f4)⟩ : S42)).mono ?_); rw [hq_]; rintro e w7 ⟨rfl, hb⟩; refine ⟨_, rfl, ?_⟩; have n0_ := Aside0.mk (below_step (by repeat (first | (with_reducible first | exact HB.out | apply below_alloc | apply pw_below_drewN | apply below_drew1) | exact HB.out)) hb); clear HB; have HB := n0_; clear n0_; (try clear hb); (try clear hb2); (try clear hk); (try clear hi)))
       go_ret
       exact ⟨by first | rfl | (simp [errW_none, errW_some] <;> rfl) | (simp [*, errW_none, errW_some] <;> rfl), by repeat (first | (with_reducible first | exact HB.out | apply below_alloc | apply pw_below_drewN | apply below_drew1) | exact HB.out)⟩
      ·replace c6 := Bool.eq_false_iff.mpr c6
       subst c6
       have H1 : (slices_IndexFunc_Rec.l0 pf k1 l0 (l0.length : Int) (wrap64 (x8_1 + 1))) = some r := by rw [if_neg (show ¬ (false = true) by decide)] at H; exact H
       clear H
       have H := H1
       clear H1
       have H' := Aside0.mk H
       clear H
       have p198 : 0 ≤ (x8_1 : Int) := of_decide_eq_true (by first | (with_reducible assumption) | assumption)
       have q198 : x8_1 < (l0.length : Int) := of_decide_eq_true (by first | (with_reducible assumption) | assumption)
       obtain ⟨ad198, e198, hx198_0, hx198_1, hx198_2, hx198_3, hx198_4, hx198_5⟩ := at_T42 HR0.out x8_1 p198 q198
       cases e198
       replace hx198_0 := (HB.out.cell (World.block_lt_of_cell? w _ hx198_0)).trans hx198_0
       replace hx198_1 := (HB.out.cell (World.block_lt_of_cell? w _ hx198_1)).trans hx198_1
       replace hx198_2 := (HB.out.cell (World.block_lt_of_cell? w _ hx198_2)).trans hx198_2
       replace hx198_3 := (HB.out.cell (World.block_lt_of_cell? w _ hx198_3)).trans hx198_3
       replace hx198_4 := (HB.out.cell (World.block_lt_of_cell? w _ hx198_4)).trans hx198_4
       replace hx198_5 := (HB.out.cell (World.block_lt_of_cell? w _ hx198_5)).trans hx198_5
       replace p198 := eq_true p198
       replace q198 := eq_true q198
       go_wp2_with (first | ((with_reducible refine gate_value rfl ?_); refine goesV_ (some 16) rfl rfl hF hFn hFb #[.agg #[.int .i64 ((rd_T42 l0 x8_1).f0), .int .i64 ((rd_T42 l0 x8_1).f1), .int .i64 ((rd_T42 l0 x8_1).f2.f0), .int .i64 ((rd_T42 l0 x8_1).f2.f1), .int .i64 ((rd_T42 l0 x8_1).f3), .int .i64 ((rd_T42 l0 x8_1).f4)]] rfl rfl (by (try simp only [List.map_toArray, List.map_cons, List.map_nil]); first | done | rfl) ?_; have hq_ := Option.some.inj A5.out; (refine (hP _ (by repeat (first | (with_reducible first | exact HB.out | apply below_alloc | apply pw_below_drewN | apply below_drew1) | exact HB.out)) (⟨((rd_T42 l0 x8_1).f0), ((rd_T42 l0 x8_1).f1), ⟨((rd_T42 l0 x8_1).f2.f0), ((rd_T42 l0 x8_1).f2.f1)⟩, ((rd_T42 l0 x8_1).f3), ((rd_T42 l0 x8_1).f4)⟩ : S42)).mono ?_); rw [hq_]; rintro e w8 ⟨rfl, hb⟩; refine ⟨_, rfl, ?_⟩; have n0_ := Aside0.mk (below_step (by repeat (first | (with_reducible first | exact HB.out | apply below_alloc | apply pw_below_drewN | apply below_drew1) | exact HB.out)) hb); clear HB; have HB := n0_; clear n0_; (try clear hb); (try clear hb2); (try clear hk); (try clear hi)))
       go_roundg k1
       case measure => have := HK1.out; omega
       case rel => exact ⟨(wrap64 (x8_1 + 1)), (by first | rfl | (simp; done) | (simp [*]; done)), H', ⟨by have := HK1.out; omega⟩, ⟨by repeat (first | (with_reducible first | exact HB.out | apply below_alloc | apply pw_below_drewN | apply below_drew1) | exact HB.out)⟩⟩
     ·rw [if_neg c4] at H
      exact absurd H (by simp)
    ·rw [if_neg c3] at H
     exact absurd H (by simp)
   ·rw [if_neg c2] at H
    have c2b0 : decide (x8_1 < (l0.length : Int)) = false := decide_eq_false c2
    clear c2
    obtain rfl := Option.some.inj H
    go_wp2
    go_ret
    exact ⟨by first | rfl | (simp [errW_none, errW_some] <;> rfl) | (simp [*, errW_none, errW_some] <;> rfl), by repeat (first | (with_reducible first | exact HB.out | apply below_alloc | apply pw_below_drewN | apply below_drew1) | exact HB.out)⟩


theorem slices_DeleteFunc_Rec.setCells_append (g : Nat) : ∀ (a b : List Value) (o : Nat) (w : World), w.setCells g o (a ++ b) = (w.setCells g o a).setCells g (o + a.length) b
 | [], b, o, w => rfl
 | v :: a, b, o, w => by
  show (w.setCell ⟨g, o, none⟩ v).setCells g (o + 1) (a ++ b) = ((w.setCell ⟨g, o, none⟩ v).setCells g (o + 1) a).setCells g (o + (a.length + 1)) b
  rw [slices_DeleteFunc_Rec.setCells_append g a b (o + 1) _, show o + 1 + a.length = o + (a.length + 1) by omega]
theorem slices_DeleteFunc_Rec.zeros (n : Nat) : (Builtin.zeroCells (Value.agg #[.int .i64 0, .int .i64 0, .int .i64 0, .int .i64 0, .int .i64 0, .int .i64 0]).cells n).toList = List.replicate (n * 6) (.int .i64 0) := by
 simp only [Builtin.zeroCells, Value.cells]
 apply List.ext_getElem
 ·simp
 ·intro i h1 h2
  simp
  have h3 : i % 6 = 0 ∨ i % 6 = 1 ∨ i % 6 = 2 ∨ i % 6 = 3 ∨ i % 6 = 4 ∨ i % 6 = 5 := by omega
  rcases h3 with h | h | h | h | h | h <;> simp [h]
theorem slices_DeleteFunc_Rec.clear_run (w : World) (ty : TypeId) (b o n c : Nat) (hc : ∀ j, j < n * 6 → (w.cell? ⟨b, o + j, none⟩).isSome = true) (hf : ∀ j, j < n * 6 → w.frozen? ⟨b, o + j, none⟩ = false) :
  (Builtin.clear_ #[27] ty #[.slice (some ⟨b, o, none⟩) n c]).run Try.prog w = .ok (.tuple #[]) (w.setCells b o (List.replicate (n * 6) (.int .i64 0))) := by
 have hst := run_storeCells_cells (P := Try.prog) b o (List.replicate (n * 6) (.int .i64 0)) 0 w (by simpa using hc) (by simpa using hf) (by intro v hv'; rw [List.eq_of_mem_replicate hv']; rfl)
 simp only [Nat.add_zero] at hst
 have hz : ∀ w, (zeroValue 42).run Try.prog w = .ok (.agg #[.int .i64 0, .int .i64 0, .int .i64 0, .int .i64 0, .int .i64 0, .int .i64 0]) w := fun w => by kernel_rfl
 rcases n with _ | n
 ·simp [Builtin.clear_, run_underlying Try.underlying27, World.setCells]
 ·simp [Builtin.clear_, run_underlying Try.underlying27, hz, slices_DeleteFunc_Rec.zeros, hst]
theorem slices_DeleteFunc_Rec.clr {base g n cap : Nat} {ok : Nat → Prop} : ∀ (m i : Nat) (xs : List S42) (W : World), i + m = n → Kd.R k42 42 W base ok (.slice (some ⟨g, 0, none⟩) n cap) xs →
  ∃ ys : List S42, ys.length = xs.length ∧ ys.take i = xs.take i ∧ Kd.R k42 42 (W.setCells g (i * 6) (List.replicate (m * 6) (.int .i64 0))) base ok (.slice (some ⟨g, 0, none⟩) n cap) ys ∧ W.grownBy (W.setCells g (i * 6) (List.replicate (m * 6) (.int .i64 0))) (some g)
 | 0, i, xs, W, h, hr => ⟨xs, rfl, rfl, by simpa [World.setCells] using hr, by simpa [World.setCells] using (World.grownBy.refl W (some g))⟩
 | m + 1, i, xs, W, h, hr => by
  have hn := (Kd.R_reads' hr).1
  obtain ⟨ce, hcl, hM, hcc, hfr⟩ := Kd.R_elem hr z42 (i : Int) (by omega) (by omega)
  rw [Int.toNat_natCast] at hcc
  have hP := Kd.R_seg hr (i : Int) (by omega) (by omega) (c := ce) (seg := [.int .i64 0, .int .i64 0, .int .i64 0, .int .i64 0, .int .i64 0, .int .i64 0]) (j := 0) hcl (by rw [Int.toNat_natCast]; exact hcc) (show 6 ≤ 6 from by decide) (x' := z42) (okp := fun _ => False) (by
   have e : ce.drop 6 = [] := List.drop_eq_nil_of_le (by rw [hcl]; exact Nat.le_refl 6)
   have this : k42.M W base (fun _ => False) z42 [.int .i64 0, .int .i64 0, .int .i64 0, .int .i64 0, .int .i64 0, .int .i64 0] := k42_mkM W base (fun _ => False) z42
   simpa [e] using this) (fun _ hk => hk.elim)
  rw [Int.toNat_natCast, show i * k42.sz + 0 = i * 6 from rfl] at hP
  obtain ⟨ys, h1, h2, h3, h4⟩ := slices_DeleteFunc_Rec.clr m (i + 1) _ _ (by omega) hP.1
  have e : W.setCells g (i * 6) (List.replicate ((m + 1) * 6) (.int .i64 0)) = (W.setCells g (i * 6) [.int .i64 0, .int .i64 0, .int .i64 0, .int .i64 0, .int .i64 0, .int .i64 0]).setCells g ((i + 1) * 6) (List.replicate (m * 6) (.int .i64 0)) := by
   rw [show (m + 1) * 6 = 6 + m * 6 by omega, ← List.replicate_append_replicate, slices_DeleteFunc_Rec.setCells_append]
   congr 1
   simp
   omega
  rw [e]
  refine ⟨ys, by simpa using h1, ?_, h3, hP.2.trans h4⟩
  have := congrArg (List.take i) h2
  rw [List.take_take, List.take_take, show min i (i + 1) = i by omega] at this
  rw [this, List.take_set_of_le]
  omega
theorem slices_DeleteFunc_Rec.clr_op {W : World} {base n cap : Nat} {ok : Nat → Prop} {A : Option Addr} {xs : List S42} (hr : Kd.R k42 42 W base ok (.slice A n cap) xs) (x : Nat) (hx : x ≤ n) (A27 : Option Addr) (c27 : Nat) (hA : A27 = if cap = x then A else A.map (·.add (x * 6))) :
  ∃ W2 ys, (∀ ty, (Builtin.clear_ #[27] ty #[.slice A27 (n - x) c27]).run Try.prog W = .ok (.tuple #[]) W2) ∧ ys.length = xs.length ∧ ys.take x = xs.take x ∧ Kd.R k42 42 W2 base ok (.slice A n cap) ys ∧ W.grownBy W2 (Value.slice A n cap).ownBlock ∧ (∀ B w0, B ≤ base → Below B w0 W → Below B w0 W2) := by
 obtain ⟨hn, hcap, _⟩ := Kd.R_reads' hr
 rcases Nat.eq_zero_or_pos (n - x) with h0 | hp
 ·refine ⟨W, xs, fun ty => ?_, rfl, rfl, hr, World.grownBy.refl _ _, fun B w0 _ h => h⟩
  rw [h0]
  cases A27 <;> simp [Builtin.clear_, run_underlying Try.underlying27]
 ·obtain ⟨g, c, e, hb, hl, hh⟩ := Kd.R_form hr (by omega)
  injection e with e1 e2 e3
  subst e1
  have hA2 : A27 = some ⟨g, x * 6, none⟩ := by
   rw [hA, if_neg (by omega)]
   simp [Addr.add]
   exact fun h => h.symm
  subst hA2
  obtain ⟨ys, y1, y2, y3, y4⟩ := slices_DeleteFunc_Rec.clr (n - x) x xs W (by omega) hr
  have hcell : ∀ j, j < (n - x) * 6 → (W.cell? ⟨g, x * 6 + j, none⟩).isSome = true ∧ W.frozen? ⟨g, x * 6 + j, none⟩ = false := by
   intro j hj
   obtain ⟨ce, hcl, hM, hcc, hfr⟩ := Kd.R_elem hr z42 ((x + j / 6 : Nat) : Int) (by omega) (by omega)
   rw [Int.toNat_natCast] at hcc hfr
   have e : x * 6 + j = (x + j / 6) * 6 + j % 6 := by omega
   have hlen : j % 6 < ce.length := by
    rw [hcl]
    exact Nat.mod_lt _ (by decide)
   refine ⟨?_, ?_⟩
   ·have := hcc (j % 6) _ (List.getElem?_eq_getElem hlen)
    rw [e]
    rw [show (x + j / 6) * k42.sz = (x + j / 6) * 6 from rfl] at this
    rw [this]
    rfl
   ·rw [e]
    exact hfr (j % 6)
  refine ⟨_, ys, fun ty => slices_DeleteFunc_Rec.clear_run W ty g (x * 6) (n - x) c27 (fun j hj => (hcell j hj).1) (fun j hj => (hcell j hj).2), y1, y2, y3, y4, fun B w0 hB h => ?_⟩
  exact below_setCells (Nat.le_trans hB hb) _ _ _ h
def slices_DeleteFunc_Rec.l0 (pf : S42 → Bool) : Nat → List (S42) → Int → Int → Option ((List (S42)))
 | 0, _, _, _ => none
 | k + 1, x0, x5, x6 => if x6 < (x0.length : Int) then (if 0 ≤ x6 then ((slices_IndexFunc_Rec.pd pf ((rd_T42 x0 x6).f0) ((rd_T42 x0 x6).f1) ((rd_T42 x0 x6).f2.f0) ((rd_T42 x0 x6).f2.f1) ((rd_T42 x0 x6).f3) ((rd_T42 x0 x6).f4)).bind fun t203 => (if t203 = true then (slices_DeleteFunc_Rec.l0 pf k x0 x5 (wrap64 (x6 + 1))) else (if 0 ≤ x5 then (if x5 < (x0.length : Int) then (slices_DeleteFunc_Rec.l0 pf k (x0.set (x5 : Int).toNat (⟨(rd_T42 x0 x6).f0, (rd_T42 x0 x6).f1, (⟨(rd_T42 x0 x6).f2.f0, (rd_T42 x0 x6).f2.f1⟩ : S40), (rd_T42 x0 x6).f3, (rd_T42 x0 x6).f4⟩ : S42)) (wrap64 (x5 + 1)) (wrap64 (x6 + 1))) else (none)) else (none)))) else (none)) else (if 0 ≤ x5 then (if x5 ≤ (x0.length : Int) then (some (x0.take (x5 : Int).toNat)) else (none)) else (none))
def slices_DeleteFunc_Rec.f (pf : S42 → Bool) (k : Nat) (l0 : List (S42)) : Option ((List (S42))) := (slices_IndexFunc_Rec.f pf k l0).bind fun t200 => (if t200 = (-1) then (some l0) else (slices_DeleteFunc_Rec.l0 pf k l0 t200 (wrap64 (t200 + 1))))
theorem slices_DeleteFunc_Rec.mono_l (pf : S42 → Bool) : ∀ k, (∀ y0 y1 y2, LeO (slices_DeleteFunc_Rec.l0 pf k y0 y1 y2) (slices_DeleteFunc_Rec.l0 pf (k + 1) y0 y1 y2))
 | 0 => fun _ _ _ r h => by simp [slices_DeleteFunc_Rec.l0] at h
 | k + 1 => by
  have ih0 := slices_DeleteFunc_Rec.mono_l pf k
  ·intro y0 y1 y2
   unfold slices_DeleteFunc_Rec.l0
   repeat' first
   | (with_reducible exact ih0 _ _ _)
   | (with_reducible exact slices_IndexFunc_Rec.mono _ _ _)
   | (with_reducible exact LeO.refl _)
   | (with_reducible exact LeO.none _)
   | (with_reducible refine LeO.ite ?_ ?_)
   | (with_reducible refine LeO.bind ?_ (fun _ => ?_))
   | exact ih0 _ _ _
   | exact slices_IndexFunc_Rec.mono _ _ _
   | exact LeO.none _
   | refine LeO.ite ?_ ?_
   | refine LeO.bind ?_ (fun _ => ?_)
theorem slices_DeleteFunc_Rec.mono (pf : S42 → Bool) : ∀ a0 k, LeO (slices_DeleteFunc_Rec.f pf k a0) (slices_DeleteFunc_Rec.f pf (k + 1) a0) := by
 intro a0 k
 have ih0 := slices_DeleteFunc_Rec.mono_l pf k
 unfold slices_DeleteFunc_Rec.f
 repeat' first
   | (with_reducible exact ih0 _ _ _)
   | (with_reducible exact slices_IndexFunc_Rec.mono _ _ _)
   | (with_reducible exact LeO.refl _)
   | (with_reducible exact LeO.none _)
   | (with_reducible refine LeO.ite ?_ ?_)
   | (with_reducible refine LeO.bind ?_ (fun _ => ?_))
   | exact ih0 _ _ _
   | exact slices_IndexFunc_Rec.mono _ _ _
   | exact LeO.none _
   | refine LeO.ite ?_ ?_
   | refine LeO.bind ?_ (fun _ => ?_)
set_option maxHeartbeats 8000000 in
set_option maxRecDepth 100000 in
theorem slices_DeleteFunc_Rec.calls (pf : S42 → Bool) (F : FuncId) (fnF : Func) (caps : Array Value) (hF : Try.prog.funcs[F]? = some fnF) (hFn : (fnF.name == "runtime.NumGoroutine") = false) (hFb : fnF.body.isSome = true) (k : Nat) (P0_ : Nat → Prop) (u9000_ : Value) (l0 : List (S42)) (r : List (S42)) (w0 w : World) (hP : ∀ W_ : World, Kept w W_ (fun k_ => P0_ k_) → ∀ x : S42, Calls Try.prog F (#[.agg #[.int .i64 x.f0, .int .i64 x.f1, .int .i64 x.f2.f0, .int .i64 x.f2.f1, .int .i64 x.f3, .int .i64 x.f4]] ++ caps) W_ fun e W2 => e = .returned (.bool (pf x)) ∧ Below W_.heap.size W_ W2) (hB : Below w0.heap.size w0 w) (ho0 : Kd.R k42 42 w w0.heap.size P0_ u9000_ l0) (h : slices_DeleteFunc_Rec.f pf k l0 = some r) :
  Calls Try.prog 42 #[u9000_, .func (.func F) #[] caps] w fun e w' => ∃ v0_ : Value, e = .returned (v0_) ∧ Kd.R k42 42 w' w0.heap.size (fun k_ => (P0_ k_ ∨ w.heap.size ≤ k_)) v0_ r ∧ Below w0.heap.size w0 w' ∧ Kept w w' (fun k_ => P0_ k_) := by
 have hu42 := Try.underlying42
 have HO0 := Aside0.mk (show Kd.R k42 42 w w0.heap.size (fun k_ => (P0_ k_ ∨ w.heap.size ≤ k_)) u9000_ l0 from Kd.R_mono ho0 (fun k_ hk => (.inl hk)))
 have HK := Aside0.mk (Kept.refl w (fun k_ => P0_ k_))
 have HW0 := Aside0.mk hB.size
 have HB := Aside0.mk hB
 clear hB
 have H : ((slices_IndexFunc_Rec.f pf k l0).bind fun t200 => (if t200 = (-1) then (some l0) else (slices_DeleteFunc_Rec.l0 pf k l0 t200 (wrap64 (t200 + 1))))) = some r := h
 clear h
 replace H := Option.bind_eq_some_iff.mp H
 obtain ⟨t200, A20, H⟩ := H
 replace H : (if t200 = (-1) then (some l0) else (slices_DeleteFunc_Rec.l0 pf k l0 t200 (wrap64 (t200 + 1)))) = some r := H
 have A2 := Aside0.mk A20
 clear A20
 by_cases c3 : t200 = (-1)
 ·rw [if_pos c3] at H
  have c3b0 : (t200 == (-1)) = true := beq_iff_eq.mpr c3
  have c3b1 : (t200 != (-1)) = false := bne_eq_false_iff_eq.mpr c3
  clear c3
  obtain rfl := Option.some.inj H
  obtain ⟨Ao4, co4, eo4⟩ := Kd.R_slice HO0.out
  subst eo4
  go_enter Try.func42, Try.ntmps42
  go_wp2_with (first | ((with_reducible refine gate_callee (f := 50) rfl ?_); refine goesL_ (some 10) rfl rfl Try.func50 (by kernel_rfl) rfl #[.slice Ao4 l0.length co4, .func (.func F) #[] caps] rfl (by (try simp only [List.map_toArray, List.map_cons, List.map_nil]); first | done | rfl | (simp only [List.length_drop, List.length_take]; rfl)) ?_; (with_reducible refine (slices_IndexFunc_Rec.calls pf F fnF caps hF hFn hFb k _ _ l0 t200 _ (fun W_ hw_ x => hP W_ (Kept.below (by repeat (first | (with_reducible first | exact HK.out | apply Kept.alloc | apply Kept.drewN | apply Kept.drew) | exact HK.out)) hw_) x) ?side1 ?side2 A2.out).mono ?_); (case side1 => repeat (first | exact (Kd.R_reads' HO0.out).2.2 | (with_reducible refine Kd.C_alloc ?_ _) | (with_reducible refine Kd.C_drewN ?_ _) | (with_reducible refine Kd.C_drew ?_))); (case side2 => exact (Kd.R_reads' HO0.out).2.1); rintro e w5 ⟨rfl, hb⟩; refine ⟨_, rfl, ?_⟩; have n0_ := Aside0.mk (Kd.R_below (by (with_reducible repeat (first | apply Kd.R_alloc | apply Kd.R_drewN | apply Kd.R_drew)); exact HO0.out) hb); have n1_ := Aside0.mk (Kept.below (S := (fun k_ => P0_ k_)) (by repeat (first | (with_reducible first | exact HK.out | apply Kept.alloc | apply Kept.drewN | apply Kept.drew) | exact HK.out)) hb); have n2_ := Aside0.mk (below_step (by repeat (first | (with_reducible first | exact HB.out | apply below_alloc | apply pw_below_drewN | apply below_drew1) | exact HB.out)) hb); clear HO0; clear HK; clear HB; have HO0 := n0_; have HK := n1_; have HB := n2_; clear n0_ n1_ n2_; (try clear hb); (try clear hb2); (try clear hk); (try clear hi)))
  go_ret
  exact ⟨_, by first | rfl | (simp [errW_none, errW_some] <;> rfl) | (simp [*, errW_none, errW_some] <;> rfl), by (with_reducible repeat (first | apply Kd.R_alloc | apply Kd.R_drewN | apply Kd.R_drew)); exact HO0.out, by repeat (first | (with_reducible first | exact HB.out | apply below_alloc | apply pw_below_drewN | apply below_drew1) | exact HB.out), by repeat (first | (with_reducible first | exact HK.out | apply Kept.alloc | apply Kept.drewN | apply Kept.drew) | exact HK.out)⟩
 ·rw [if_neg c3] at H
  have c3b0 : (t200 == (-1)) = false := beq_eq_false_iff_ne.mpr c3
  have c3b1 : (t200 != (-1)) = true := bne_iff_ne.mpr c3
  have H' := Aside0.mk H
  clear H
  obtain ⟨Ao6, co6, eo6⟩ := Kd.R_slice HO0.out
  subst eo6
  go_enter Try.func42, Try.ntmps42
  go_wp2_with (first | ((with_reducible refine gate_callee (f := 50) rfl ?_); refine goesL_ (some 10) rfl rfl Try.func50 (by kernel_rfl) rfl #[.slice Ao6 l0.length co6, .func (.func F) #[] caps] rfl (by (try simp only [List.map_toArray, List.map_cons, List.map_nil]); first | done | rfl | (simp only [List.length_drop, List.length_take]; rfl)) ?_; (with_reducible refine (slices_IndexFunc_Rec.calls pf F fnF caps hF hFn hFb k _ _ l0 t200 _ (fun W_ hw_ x => hP W_ (Kept.below (by repeat (first | (with_reducible first | exact HK.out | apply Kept.alloc | apply Kept.drewN | apply Kept.drew) | exact HK.out)) hw_) x) ?side1 ?side2 A2.out).mono ?_); (case side1 => repeat (first | exact (Kd.R_reads' HO0.out).2.2 | (with_reducible refine Kd.C_alloc ?_ _) | (with_reducible refine Kd.C_drewN ?_ _) | (with_reducible refine Kd.C_drew ?_))); (case side2 => exact (Kd.R_reads' HO0.out).2.1); rintro e w7 ⟨rfl, hb⟩; refine ⟨_, rfl, ?_⟩; have n0_ := Aside0.mk (Kd.R_below (by (with_reducible repeat (first | apply Kd.R_alloc | apply Kd.R_drewN | apply Kd.R_drew)); exact HO0.out) hb); have n1_ := Aside0.mk (Kept.below (S := (fun k_ => P0_ k_)) (by repeat (first | (with_reducible first | exact HK.out | apply Kept.alloc | apply Kept.drewN | apply Kept.drew) | exact HK.out)) hb); have n2_ := Aside0.mk (below_step (by repeat (first | (with_reducible first | exact HB.out | apply below_alloc | apply pw_below_drewN | apply below_drew1) | exact HB.out)) hb); clear HO0; clear HK; clear HB; have HO0 := n0_; have HK := n1_; have HB := n2_; clear n0_ n1_ n2_; (try clear hb); (try clear hb2); (try clear hk); (try clear hi)))
  go_loopg [5, 6] k (fun kq v5 v6 w' => ∃ (x0_1 : List (S42)) (x5_1 : Int) (x6_1 : Int), v5 = .int .i64 x5_1 ∧ v6 = .int .i64 x6_1 ∧ Aside0 (slices_DeleteFunc_Rec.l0 pf kq x0_1 x5_1 x6_1 = some r) ∧ Aside0 (kq ≤ k) ∧ Aside0 (Kd.R k42 42 w' w0.heap.size (fun k_ => (P0_ k_ ∨ w.heap.size ≤ k_)) (.slice Ao6 l0.length co6) x0_1) ∧ Aside0 (Kept w w' (fun k_ => P0_ k_)) ∧ Aside0 (Below w0.heap.size w0 w'))
  case atStart => exact ⟨(l0), (t200), (wrap64 (t200 + 1)), (by first | rfl | (simp; done) | (simp [*]; done)), (by first | rfl | (simp; done) | (simp [*]; done)), H', ⟨Nat.le_refl _⟩, ⟨by (with_reducible repeat (first | apply Kd.R_alloc | apply Kd.R_drewN | apply Kd.R_drew)); exact HO0.out⟩, ⟨by repeat (first | (with_reducible first | exact HK.out | apply Kept.alloc | apply Kept.drewN | apply Kept.drew) | exact HK.out)⟩, ⟨by repeat (first | (with_reducible first | exact HB.out | apply below_alloc | apply pw_below_drewN | apply below_drew1) | exact HB.out)⟩⟩
  case round =>
   clear H'
   try clear p2
   try clear c3
   try clear c3b0
   try clear c3b1
   try clear c4
   try clear c5
   try clear p6
   obtain ⟨x0_1, x5_1, x6_1, rfl, rfl, HA, HK1, HO_0, HK, HB⟩ := hrel
   have hl0_1 := (Kd.R_reads' HO_0.out).1
   rw [hl0_1] at HO_0
   (try simp only [hl0_1])
   cases gk with
   | zero => exact absurd HA.out (by simp [slices_DeleteFunc_Rec.l0])
   | succ k1 =>
    have H := HA.out
    clear HA
    simp only [slices_DeleteFunc_Rec.l0] at H
    by_cases c8 : x6_1 < (x0_1.length : Int)
    ·rw [if_pos c8] at H
     have c8b0 : decide (x6_1 < (x0_1.length : Int)) = true := decide_eq_true c8
     clear c8
     by_cases c9 : 0 ≤ x6_1
     ·rw [if_pos c9] at H
      have c9b0 : decide (0 ≤ x6_1) = true := decide_eq_true c9
      clear c9
      replace H := Option.bind_eq_some_iff.mp H
      obtain ⟨t203, A100, H⟩ := H
      replace H : (if t203 = true then (slices_DeleteFunc_Rec.l0 pf k1 x0_1 x5_1 (wrap64 (x6_1 + 1))) else (if 0 ≤ x5_1 then (if x5_1 < (x0_1.length : Int) then (slices_DeleteFunc_Rec.l0 pf k1 (x0_1.set (x5_1 : Int).toNat (⟨(rd_T42 x0_1 x6_1).f0, (rd_T42 x0_1 x6_1).f1, (⟨(rd_T42 x0_1 x6_1).f2.f0, (rd_T42 x0_1 x6_1).f2.f1⟩ : S40), (rd_T42 x0_1 x6_1).f3, (rd_T42 x0_1 x6_1).f4⟩ : S42)) (wrap64 (x5_1 + 1)) (wrap64 (x6_1 + 1))) else (none)) else (none))) = some r := H
      have A10 := Aside0.mk A100
      clear A100
      by_cases c11 : t203 = true
      ·subst c11
       have H1 : (slices_DeleteFunc_Rec.l0 pf k1 x0_1 x5_1 (wrap64 (x6_1 + 1))) = some r := by rw [if_pos rfl] at H; exact H
       clear H
       have H := H1
       clear H1
       have H' := Aside0.mk H
       clear H
       have p201 : 0 ≤ (x6_1 : Int) := of_decide_eq_true (by first | (with_reducible assumption) | assumption)
       have q201 : x6_1 < (x0_1.length : Int) := of_decide_eq_true (by first | (with_reducible assumption) | assumption)
       obtain ⟨ad201, e201, hx201_0, hx201_1, hx201_2, hx201_3, hx201_4, hx201_5⟩ := at_T42 (Kd.R_reads' HO_0.out).2.2 x6_1 p201 q201
       cases e201
       replace p201 := eq_true p201
       replace q201 := eq_true q201
       go_wp2_with (first | ((with_reducible refine gate_dst (N := 7) rfl ?_); refine box_event ?hg (N := 7) ?hd (cs := #[.int .i64 0, .int .i64 0, .int .i64 0, .int .i64 0, .int .i64 0, .int .i64 0]) (t := 42) ?hr ?_; (case hd => rfl); (case hg => rfl); (case hr => first | (go_simp; done) | (go_simp; rfl)); intro gb202 hg w12 hbox hb; have n0_ := Aside0.mk (Kd.R_below (Kd.R_elderB (by (with_reducible repeat (first | apply Kd.R_alloc | apply Kd.R_drewN | apply Kd.R_drew)); exact HO_0.out) gb202 (Nat.le_of_eq hg.symm)) hb); have n1_ := Aside0.mk (Kept.below (S := (fun k_ => P0_ k_)) (by repeat (first | (with_reducible first | exact HK.out | apply Kept.alloc | apply Kept.drewN | apply Kept.drew) | exact HK.out)) hb); have n2_ := Aside0.mk (below_step (by repeat (first | (with_reducible first | exact HB.out | apply below_alloc | apply pw_below_drewN | apply below_drew1) | exact HB.out)) hb); have n3_ := Aside0.mk (hbox); have n4_ := Aside0.mk ((by rw [hg]; exact (by first | exact HK.out.1 | exact (show Kept w _ (fun k_ => P0_ k_) from by repeat (first | (with_reducible first | exact HK.out | apply Kept.alloc | apply Kept.drewN | apply Kept.drew) | exact HK.out)).1) : w.heap.size ≤ gb202)); have n5_ := Aside0.mk ((by rw [hg]; exact (below_size (by repeat (first | (with_reducible first | exact HB.out | apply below_alloc | apply pw_below_drewN | apply below_drew1) | exact HB.out))) : w0.heap.size ≤ gb202)); clear HO_0; clear HK; clear HB; have HO_0 := n0_; have HK := n1_; have HB := n2_; have BK202 := n3_; have GW202 := n4_; have GE202 := n5_; clear n0_ n1_ n2_ n3_ n4_ n5_; clear hb hbox hg; have hcz13_0 : w12.cell? ⟨gb202, 0, none⟩ = some (.int .i64 0) := (blk_cell BK202.out 0).trans rfl; have hcz13_1 : w12.cell? ⟨gb202, 1, none⟩ = some (.int .i64 0) := (blk_cell BK202.out 1).trans rfl; have hcz13_2 : w12.cell? ⟨gb202, 2, none⟩ = some (.int .i64 0) := (blk_cell BK202.out 2).trans rfl; have hcz13_3 : w12.cell? ⟨gb202, 3, none⟩ = some (.int .i64 0) := (blk_cell BK202.out 3).trans rfl; have hcz13_4 : w12.cell? ⟨gb202, 4, none⟩ = some (.int .i64 0) := (blk_cell BK202.out 4).trans rfl; have hcz13_5 : w12.cell? ⟨gb202, 5, none⟩ = some (.int .i64 0) := (blk_cell BK202.out 5).trans rfl; have hfz13_0 := blk_frozen BK202.out 0; have hfz13_1 := blk_frozen BK202.out 1; have hfz13_2 := blk_frozen BK202.out 2; have hfz13_3 := blk_frozen BK202.out 3; have hfz13_4 := blk_frozen BK202.out 4; have hfz13_5 := blk_frozen BK202.out 5) | ((with_reducible refine gate_value rfl ?_); refine goesV_ (some 28) rfl rfl hF hFn hFb #[.agg #[.int .i64 ((rd_T42 x0_1 x6_1).f0), .int .i64 ((rd_T42 x0_1 x6_1).f1), .int .i64 ((rd_T42 x0_1 x6_1).f2.f0), .int .i64 ((rd_T42 x0_1 x6_1).f2.f1), .int .i64 ((rd_T42 x0_1 x6_1).f3), .int .i64 ((rd_T42 x0_1 x6_1).f4)]] rfl rfl (by (try simp only [List.map_toArray, List.map_cons, List.map_nil]); first | done | rfl) ?_; have hq_ := Option.some.inj A10.out; (refine (hP _ (by repeat (first | (with_reducible first | exact HK.out | apply Kept.alloc | apply Kept.drewN | apply Kept.drew | refine Kept.setCell ?_ (.inr GW202.out) _) | exact HK.out)) (⟨((rd_T42 x0_1 x6_1).f0), ((rd_T42 x0_1 x6_1).f1), ⟨((rd_T42 x0_1 x6_1).f2.f0), ((rd_T42 x0_1 x6_1).f2.f1)⟩, ((rd_T42 x0_1 x6_1).f3), ((rd_T42 x0_1 x6_1).f4)⟩ : S42)).mono ?_); rw [hq_]; rintro e w14 ⟨rfl, hb⟩; refine ⟨_, rfl, ?_⟩; have n0_ := Aside0.mk (Kd.R_below (by (with_reducible repeat (first | apply Kd.R_alloc | apply Kd.R_drewN | apply Kd.R_drew)); exact (Kd.R_mono (Kd.R_far (p := ⟨gb202, 5, none⟩) (Kd.R_far (p := ⟨gb202, 4, none⟩) (Kd.R_far (p := ⟨gb202, 3, none⟩) (Kd.R_far (p := ⟨gb202, 2, none⟩) (Kd.R_far (p := ⟨gb202, 1, none⟩) (Kd.R_far (p := ⟨gb202, 0, none⟩) (Kd.R_mono HO_0.out (fun k_ hk => (⟨hk, hk.2⟩ : _ ∧ k_ ≠ gb202))) (fun _ hk => hk.2) (.int .i64 ((rd_T42 x0_1 x6_1).f0))) (fun _ hk => hk.2) (.int .i64 ((rd_T42 x0_1 x6_1).f1))) (fun _ hk => hk.2) (.int .i64 ((rd_T42 x0_1 x6_1).f2.f0))) (fun _ hk => hk.2) (.int .i64 ((rd_T42 x0_1 x6_1).f2.f1))) (fun _ hk => hk.2) (.int .i64 ((rd_T42 x0_1 x6_1).f3))) (fun _ hk => hk.2) (.int .i64 ((rd_T42 x0_1 x6_1).f4))) (fun _ h_ => h_.1))) hb); have n1_ := Aside0.mk (blk_below (g := gb202) (o := .cells #[.int .i64 ((rd_T42 x0_1 x6_1).f0), .int .i64 ((rd_T42 x0_1 x6_1).f1), .int .i64 ((rd_T42 x0_1 x6_1).f2.f0), .int .i64 ((rd_T42 x0_1 x6_1).f2.f1), .int .i64 ((rd_T42 x0_1 x6_1).f3), .int .i64 ((rd_T42 x0_1 x6_1).f4)] 42 (0, 0)) (by (with_reducible repeat (first | refine blk_drewN ?_ _ | refine blk_drew ?_ | refine blk_alloc ?_ _)); refine blk_put (cs := #[.int .i64 ((rd_T42 x0_1 x6_1).f0), .int .i64 ((rd_T42 x0_1 x6_1).f1), .int .i64 ((rd_T42 x0_1 x6_1).f2.f0), .int .i64 ((rd_T42 x0_1 x6_1).f2.f1), .int .i64 ((rd_T42 x0_1 x6_1).f3), .int .i64 0]) ?_ 5 _ rfl; (with_reducible repeat (first | refine blk_drewN ?_ _ | refine blk_drew ?_ | refine blk_alloc ?_ _)); refine blk_put (cs := #[.int .i64 ((rd_T42 x0_1 x6_1).f0), .int .i64 ((rd_T42 x0_1 x6_1).f1), .int .i64 ((rd_T42 x0_1 x6_1).f2.f0), .int .i64 ((rd_T42 x0_1 x6_1).f2.f1), .int .i64 0, .int .i64 0]) ?_ 4 _ rfl; (with_reducible repeat (first | refine blk_drewN ?_ _ | refine blk_drew ?_ | refine blk_alloc ?_ _)); refine blk_put (cs := #[.int .i64 ((rd_T42 x0_1 x6_1).f0), .int .i64 ((rd_T42 x0_1 x6_1).f1), .int .i64 ((rd_T42 x0_1 x6_1).f2.f0), .int .i64 0, .int .i64 0, .int .i64 0]) ?_ 3 _ rfl; (with_reducible repeat (first | refine blk_drewN ?_ _ | refine blk_drew ?_ | refine blk_alloc ?_ _)); refine blk_put (cs := #[.int .i64 ((rd_T42 x0_1 x6_1).f0), .int .i64 ((rd_T42 x0_1 x6_1).f1), .int .i64 0, .int .i64 0, .int .i64 0, .int .i64 0]) ?_ 2 _ rfl; (with_reducible repeat (first | refine blk_drewN ?_ _ | refine blk_drew ?_ | refine blk_alloc ?_ _)); refine blk_put (cs := #[.int .i64 ((rd_T42 x0_1 x6_1).f0), .int .i64 0, .int .i64 0, .int .i64 0, .int .i64 0, .int .i64 0]) ?_ 1 _ rfl; (with_reducible repeat (first | refine blk_drewN ?_ _ | refine blk_drew ?_ | refine blk_alloc ?_ _)); refine blk_put (cs := #[.int .i64 0, .int .i64 0, .int .i64 0, .int .i64 0, .int .i64 0, .int .i64 0]) ?_ 0 _ rfl; (with_reducible repeat (first | refine blk_drewN ?_ _ | refine blk_drew ?_ | refine blk_alloc ?_ _)); exact BK202.out) hb); have n2_ := Aside0.mk (Kept.below (S := (fun k_ => P0_ k_)) (by repeat (first | (with_reducible first | exact HK.out | apply Kept.alloc | apply Kept.drewN | apply Kept.drew | refine Kept.setCell ?_ (.inr GW202.out) _) | exact HK.out)) hb); have n3_ := Aside0.mk (below_step (by repeat (first | (with_reducible first | exact HB.out | apply below_alloc | apply pw_below_drewN | apply below_drew1 | refine below_set ?_ GE202.out) | exact HB.out)) hb); clear HO_0; clear BK202; clear HK; clear HB; have HO_0 := n0_; have BK202 := n1_; have HK := n2_; have HB := n3_; clear n0_ n1_ n2_ n3_; (try clear hb); (try clear hb2); (try clear hk); (try clear hi)))
       (try simp only [← hl0_1])
       go_roundg k1
       case measure => have := HK1.out; omega
       case rel => exact ⟨(x0_1), (x5_1), (wrap64 (x6_1 + 1)), (by first | rfl | (simp; done) | (simp [*]; done)), (by first | rfl | (simp; done) | (simp [*]; done)), H', ⟨by have := HK1.out; omega⟩, ⟨by (try simp only [hl0_1]); (with_reducible repeat (first | apply Kd.R_alloc | apply Kd.R_drewN | apply Kd.R_drew)); exact Kd.R_mono HO_0.out (fun _ hk => hk.1)⟩, ⟨by repeat (first | (with_reducible first | exact HK.out | apply Kept.alloc | apply Kept.drewN | apply Kept.drew | refine Kept.setCell ?_ (.inr GW202.out) _) | exact HK.out)⟩, ⟨by repeat (first | (with_reducible first | exact HB.out | apply below_alloc | apply pw_below_drewN | apply below_drew1 | refine below_set ?_ GE202.out) | exact HB.out)⟩⟩
      ·replace c11 := Bool.eq_false_iff.mpr c11
       subst c11
       have H1 : (if 0 ≤ x5_1 then (if x5_1 < (x0_1.length : Int) then (slices_DeleteFunc_Rec.l0 pf k1 (x0_1.set (x5_1 : Int).toNat (⟨(rd_T42 x0_1 x6_1).f0, (rd_T42 x0_1 x6_1).f1, (⟨(rd_T42 x0_1 x6_1).f2.f0, (rd_T42 x0_1 x6_1).f2.f1⟩ : S40), (rd_T42 x0_1 x6_1).f3, (rd_T42 x0_1 x6_1).f4⟩ : S42)) (wrap64 (x5_1 + 1)) (wrap64 (x6_1 + 1))) else (none)) else (none)) = some r := by rw [if_neg (show ¬ (false = true) by decide)] at H; exact H
       clear H
       have H := H1
       clear H1
       by_cases c15 : 0 ≤ x5_1
       ·rw [if_pos c15] at H
        have c15b0 : decide (0 ≤ x5_1) = true := decide_eq_true c15
        clear c15
        by_cases c16 : x5_1 < (x0_1.length : Int)
        ·rw [if_pos c16] at H
         have c16b0 : decide (x5_1 < (x0_1.length : Int)) = true := decide_eq_true c16
         clear c16
         obtain ⟨y204, hy204⟩ : ∃ y_ : List (S42), y_ = (x0_1.set (x5_1 : Int).toNat (⟨(rd_T42 x0_1 x6_1).f0, (rd_T42 x0_1 x6_1).f1, (⟨(rd_T42 x0_1 x6_1).f2.f0, (rd_T42 x0_1 x6_1).f2.f1⟩ : S40), (rd_T42 x0_1 x6_1).f3, (rd_T42 x0_1 x6_1).f4⟩ : S42)) := ⟨_, rfl⟩
         replace H : (slices_DeleteFunc_Rec.l0 pf k1 y204 (wrap64 (x5_1 + 1)) (wrap64 (x6_1 + 1))) = some r := by first | (rw [hy204]; with_reducible exact H) | (have H2_ := (Option.bind_some _ _).symm.trans H; rw [hy204]; with_reducible exact H2_) | (have H2_ := (Option.bind_some _ _).symm.trans H; with_reducible exact H2_) | with_reducible exact H | (rw [hy204]; exact H) | exact H
         have Ny204 := Aside0.mk hy204
         clear hy204
         have H' := Aside0.mk H
         clear H
         have p201 : 0 ≤ (x6_1 : Int) := of_decide_eq_true (by first | (with_reducible assumption) | assumption)
         have q201 : x6_1 < (x0_1.length : Int) := of_decide_eq_true (by first | (with_reducible assumption) | assumption)
         obtain ⟨ad201, e201, hx201_0, hx201_1, hx201_2, hx201_3, hx201_4, hx201_5⟩ := at_T42 (Kd.R_reads' HO_0.out).2.2 x6_1 p201 q201
         cases e201
         replace p201 := eq_true p201
         replace q201 := eq_true q201
         go_wp2_with (first | ((with_reducible refine gate_dst (N := 7) rfl ?_); refine box_event ?hg (N := 7) ?hd (cs := #[.int .i64 0, .int .i64 0, .int .i64 0, .int .i64 0, .int .i64 0, .int .i64 0]) (t := 42) ?hr ?_; (case hd => rfl); (case hg => rfl); (case hr => first | (go_simp; done) | (go_simp; rfl)); intro gb202 hg w18 hbox hb; have n0_ := Aside0.mk (Kd.R_below (Kd.R_elderB (by (with_reducible repeat (first | apply Kd.R_alloc | apply Kd.R_drewN | apply Kd.R_drew)); exact HO_0.out) gb202 (Nat.le_of_eq hg.symm)) hb); have n1_ := Aside0.mk (Kept.below (S := (fun k_ => P0_ k_)) (by repeat (first | (with_reducible first | exact HK.out | apply Kept.alloc | apply Kept.drewN | apply Kept.drew) | exact HK.out)) hb); have n2_ := Aside0.mk (below_step (by repeat (first | (with_reducible first | exact HB.out | apply below_alloc | apply pw_below_drewN | apply below_drew1) | exact HB.out)) hb); have n3_ := Aside0.mk (hbox); have n4_ := Aside0.mk ((by rw [hg]; exact (by first | exact HK.out.1 | exact (show Kept w _ (fun k_ => P0_ k_) from by repeat (first | (with_reducible first | exact HK.out | apply Kept.alloc | apply Kept.drewN | apply Kept.drew) | exact HK.out)).1) : w.heap.size ≤ gb202)); have n5_ := Aside0.mk ((by rw [hg]; exact (below_size (by repeat (first | (with_reducible first | exact HB.out | apply below_alloc | apply pw_below_drewN | apply below_drew1) | exact HB.out))) : w0.heap.size ≤ gb202)); clear HO_0; clear HK; clear HB; have HO_0 := n0_; have HK := n1_; have HB := n2_; have BK202 := n3_; have GW202 := n4_; have GE202 := n5_; clear n0_ n1_ n2_ n3_ n4_ n5_; clear hb hbox hg; have hcz19_0 : w18.cell? ⟨gb202, 0, none⟩ = some (.int .i64 0) := (blk_cell BK202.out 0).trans rfl; have hcz19_1 : w18.cell? ⟨gb202, 1, none⟩ = some (.int .i64 0) := (blk_cell BK202.out 1).trans rfl; have hcz19_2 : w18.cell? ⟨gb202, 2, none⟩ = some (.int .i64 0) := (blk_cell BK202.out 2).trans rfl; have hcz19_3 : w18.cell? ⟨gb202, 3, none⟩ = some (.int .i64 0) := (blk_cell BK202.out 3).trans rfl; have hcz19_4 : w18.cell? ⟨gb202, 4, none⟩ = some (.int .i64 0) := (blk_cell BK202.out 4).trans rfl; have hcz19_5 : w18.cell? ⟨gb202, 5, none⟩ = some (.int .i64 0) := (blk_cell BK202.out 5).trans rfl; have hfz19_0 := blk_frozen BK202.out 0; have hfz19_1 := blk_frozen BK202.out 1; have hfz19_2 := blk_frozen BK202.out 2; have hfz19_3 := blk_frozen BK202.out 3; have hfz19_4 := blk_frozen BK202.out 4; have hfz19_5 := blk_frozen BK202.out 5) | ((with_reducible refine gate_value rfl ?_); refine goesV_ (some 28) rfl rfl hF hFn hFb #[.agg #[.int .i64 ((rd_T42 x0_1 x6_1).f0), .int .i64 ((rd_T42 x0_1 x6_1).f1), .int .i64 ((rd_T42 x0_1 x6_1).f2.f0), .int .i64 ((rd_T42 x0_1 x6_1).f2.f1), .int .i64 ((rd_T42 x0_1 x6_1).f3), .int .i64 ((rd_T42 x0_1 x6_1).f4)]] rfl rfl (by (try simp only [List.map_toArray, List.map_cons, List.map_nil]); first | done | rfl) ?_; have hq_ := Option.some.inj A10.out; (refine (hP _ (by repeat (first | (with_reducible first | exact HK.out | apply Kept.alloc | apply Kept.drewN | apply Kept.drew | refine Kept.setCell ?_ (.inr GW202.out) _) | exact HK.out)) (⟨((rd_T42 x0_1 x6_1).f0), ((rd_T42 x0_1 x6_1).f1), ⟨((rd_T42 x0_1 x6_1).f2.f0), ((rd_T42 x0_1 x6_1).f2.f1)⟩, ((rd_T42 x0_1 x6_1).f3), ((rd_T42 x0_1 x6_1).f4)⟩ : S42)).mono ?_); rw [hq_]; rintro e w20 ⟨rfl, hb⟩; refine ⟨_, rfl, ?_⟩; have n0_ := Aside0.mk (Kd.R_below (by (with_reducible repeat (first | apply Kd.R_alloc | apply Kd.R_drewN | apply Kd.R_drew)); exact (Kd.R_mono (Kd.R_far (p := ⟨gb202, 5, none⟩) (Kd.R_far (p := ⟨gb202, 4, none⟩) (Kd.R_far (p := ⟨gb202, 3, none⟩) (Kd.R_far (p := ⟨gb202, 2, none⟩) (Kd.R_far (p := ⟨gb202, 1, none⟩) (Kd.R_far (p := ⟨gb202, 0, none⟩) (Kd.R_mono HO_0.out (fun k_ hk => (⟨hk, hk.2⟩ : _ ∧ k_ ≠ gb202))) (fun _ hk => hk.2) (.int .i64 ((rd_T42 x0_1 x6_1).f0))) (fun _ hk => hk.2) (.int .i64 ((rd_T42 x0_1 x6_1).f1))) (fun _ hk => hk.2) (.int .i64 ((rd_T42 x0_1 x6_1).f2.f0))) (fun _ hk => hk.2) (.int .i64 ((rd_T42 x0_1 x6_1).f2.f1))) (fun _ hk => hk.2) (.int .i64 ((rd_T42 x0_1 x6_1).f3))) (fun _ hk => hk.2) (.int .i64 ((rd_T42 x0_1 x6_1).f4))) (fun _ h_ => h_.1))) hb); have n1_ := Aside0.mk (blk_below (g := gb202) (o := .cells #[.int .i64 ((rd_T42 x0_1 x6_1).f0), .int .i64 ((rd_T42 x0_1 x6_1).f1), .int .i64 ((rd_T42 x0_1 x6_1).f2.f0), .int .i64 ((rd_T42 x0_1 x6_1).f2.f1), .int .i64 ((rd_T42 x0_1 x6_1).f3), .int .i64 ((rd_T42 x0_1 x6_1).f4)] 42 (0, 0)) (by (with_reducible repeat (first | refine blk_drewN ?_ _ | refine blk_drew ?_ | refine blk_alloc ?_ _)); refine blk_put (cs := #[.int .i64 ((rd_T42 x0_1 x6_1).f0), .int .i64 ((rd_T42 x0_1 x6_1).f1), .int .i64 ((rd_T42 x0_1 x6_1).f2.f0), .int .i64 ((rd_T42 x0_1 x6_1).f2.f1), .int .i64 ((rd_T42 x0_1 x6_1).f3), .int .i64 0]) ?_ 5 _ rfl; (with_reducible repeat (first | refine blk_drewN ?_ _ | refine blk_drew ?_ | refine blk_alloc ?_ _)); refine blk_put (cs := #[.int .i64 ((rd_T42 x0_1 x6_1).f0), .int .i64 ((rd_T42 x0_1 x6_1).f1), .int .i64 ((rd_T42 x0_1 x6_1).f2.f0), .int .i64 ((rd_T42 x0_1 x6_1).f2.f1), .int .i64 0, .int .i64 0]) ?_ 4 _ rfl; (with_reducible repeat (first | refine blk_drewN ?_ _ | refine blk_drew ?_ | refine blk_alloc ?_ _)); refine blk_put (cs := #[.int .i64 ((rd_T42 x0_1 x6_1).f0), .int .i64 ((rd_T42 x0_1 x6_1).f1), .int .i64 ((rd_T42 x0_1 x6_1).f2.f0), .int .i64 0, .int .i64 0, .int .i64 0]) ?_ 3 _ rfl; (with_reducible repeat (first | refine blk_drewN ?_ _ | refine blk_drew ?_ | refine blk_alloc ?_ _)); refine blk_put (cs := #[.int .i64 ((rd_T42 x0_1 x6_1).f0), .int .i64 ((rd_T42 x0_1 x6_1).f1), .int .i64 0, .int .i64 0, .int .i64 0, .int .i64 0]) ?_ 2 _ rfl; (with_reducible repeat (first | refine blk_drewN ?_ _ | refine blk_drew ?_ | refine blk_alloc ?_ _)); refine blk_put (cs := #[.int .i64 ((rd_T42 x0_1 x6_1).f0), .int .i64 0, .int .i64 0, .int .i64 0, .int .i64 0, .int .i64 0]) ?_ 1 _ rfl; (with_reducible repeat (first | refine blk_drewN ?_ _ | refine blk_drew ?_ | refine blk_alloc ?_ _)); refine blk_put (cs := #[.int .i64 0, .int .i64 0, .int .i64 0, .int .i64 0, .int .i64 0, .int .i64 0]) ?_ 0 _ rfl; (with_reducible repeat (first | refine blk_drewN ?_ _ | refine blk_drew ?_ | refine blk_alloc ?_ _)); exact BK202.out) hb); have n2_ := Aside0.mk (Kept.below (S := (fun k_ => P0_ k_)) (by repeat (first | (with_reducible first | exact HK.out | apply Kept.alloc | apply Kept.drewN | apply Kept.drew | refine Kept.setCell ?_ (.inr GW202.out) _) | exact HK.out)) hb); have n3_ := Aside0.mk (below_step (by repeat (first | (with_reducible first | exact HB.out | apply below_alloc | apply pw_below_drewN | apply below_drew1 | refine below_set ?_ GE202.out) | exact HB.out)) hb); clear HO_0; clear BK202; clear HK; clear HB; have HO_0 := n0_; have BK202 := n1_; have HK := n2_; have HB := n3_; clear n0_ n1_ n2_ n3_; (try clear hb); (try clear hb2); (try clear hk); (try clear hi); have hcz21_0 : w20.cell? ⟨gb202, 0, none⟩ = some (.int .i64 ((rd_T42 x0_1 x6_1).f0)) := (blk_cell BK202.out 0).trans rfl; have hcz21_1 : w20.cell? ⟨gb202, 1, none⟩ = some (.int .i64 ((rd_T42 x0_1 x6_1).f1)) := (blk_cell BK202.out 1).trans rfl; have hcz21_2 : w20.cell? ⟨gb202, 2, none⟩ = some (.int .i64 ((rd_T42 x0_1 x6_1).f2.f0)) := (blk_cell BK202.out 2).trans rfl; have hcz21_3 : w20.cell? ⟨gb202, 3, none⟩ = some (.int .i64 ((rd_T42 x0_1 x6_1).f2.f1)) := (blk_cell BK202.out 3).trans rfl; have hcz21_4 : w20.cell? ⟨gb202, 4, none⟩ = some (.int .i64 ((rd_T42 x0_1 x6_1).f3)) := (blk_cell BK202.out 4).trans rfl; have hcz21_5 : w20.cell? ⟨gb202, 5, none⟩ = some (.int .i64 ((rd_T42 x0_1 x6_1).f4)) := (blk_cell BK202.out 5).trans rfl; have hfz21_0 := blk_frozen BK202.out 0; have hfz21_1 := blk_frozen BK202.out 1; have hfz21_2 := blk_frozen BK202.out 2; have hfz21_3 := blk_frozen BK202.out 3; have hfz21_4 := blk_frozen BK202.out 4; have hfz21_5 := blk_frozen BK202.out 5; have p17 : 0 ≤ (x5_1 : Int) := of_decide_eq_true (by first | (with_reducible assumption) | assumption); have q17 : (x5_1 : Int) < ((x0_1.length : Int) : Int) := of_decide_eq_true (by first | (with_reducible assumption) | assumption); obtain ⟨go17, co17, eo17, gb17, gl17, cl17, HG17⟩ := Kd.R_form HO_0.out (by omega); (first | cases eo17 | (injection eo17 with ea_ en_ ec_; (first | subst ea_ | (injection ea_ with ea_; subst ea_)); subst ec_; clear en_)); have GB17 := Aside0.mk gb17; have GG17 := Aside0.mk HG17; clear gb17 gl17 HG17; have HMgo17 := Aside0.mk (show (P0_ go17 ∨ w.heap.size ≤ go17) from (HO_0.out.1 _ rfl).1); (first | simp only [add_plain] at hx201_0 | skip); (first | simp only [add_plain] at hx201_1 | skip); (first | simp only [add_plain] at hx201_2 | skip); (first | simp only [add_plain] at hx201_3 | skip); (first | simp only [add_plain] at hx201_4 | skip); (first | simp only [add_plain] at hx201_5 | skip); obtain ⟨ce17, hcl17, hM17, hcc17, hfr17⟩ := Kd.R_elem HO_0.out z42 (x5_1 : Int) p17 q17; obtain rfl := k42_openM hM17; have hx17_0 : w20.cell? ⟨go17, (x5_1 : Int).toNat * 6, none⟩ = some (.int .i64 ((rd_T42 x0_1 x5_1).f0)) := hcc17 0 _ rfl; have hx17_1 : w20.cell? ⟨go17, (x5_1 : Int).toNat * 6 + 1, none⟩ = some (.int .i64 ((rd_T42 x0_1 x5_1).f1)) := hcc17 1 _ rfl; have hx17_2 : w20.cell? ⟨go17, (x5_1 : Int).toNat * 6 + 2, none⟩ = some (.int .i64 ((rd_T42 x0_1 x5_1).f2.f0)) := hcc17 2 _ rfl; have hx17_3 : w20.cell? ⟨go17, (x5_1 : Int).toNat * 6 + 3, none⟩ = some (.int .i64 ((rd_T42 x0_1 x5_1).f2.f1)) := hcc17 3 _ rfl; have hx17_4 : w20.cell? ⟨go17, (x5_1 : Int).toNat * 6 + 4, none⟩ = some (.int .i64 ((rd_T42 x0_1 x5_1).f3)) := hcc17 4 _ rfl; have hx17_5 : w20.cell? ⟨go17, (x5_1 : Int).toNat * 6 + 5, none⟩ = some (.int .i64 ((rd_T42 x0_1 x5_1).f4)) := hcc17 5 _ rfl; have hf17_0 : w20.frozen? ⟨go17, (x5_1 : Int).toNat * 6, none⟩ = false := hfr17 0; have hf17_1 : w20.frozen? ⟨go17, (x5_1 : Int).toNat * 6 + 1, none⟩ = false := hfr17 1; have hf17_2 : w20.frozen? ⟨go17, (x5_1 : Int).toNat * 6 + 2, none⟩ = false := hfr17 2; have hf17_3 : w20.frozen? ⟨go17, (x5_1 : Int).toNat * 6 + 3, none⟩ = false := hfr17 3; have hf17_4 : w20.frozen? ⟨go17, (x5_1 : Int).toNat * 6 + 4, none⟩ = false := hfr17 4; have hf17_5 : w20.frozen? ⟨go17, (x5_1 : Int).toNat * 6 + 5, none⟩ = false := hfr17 5; clear hcl17 hcc17 hfr17 hM17; replace p17 := eq_true p17; replace q17 := eq_true q17; have HX22 := Aside0.mk (show Kd.R k42 42 w20 w0.heap.size (fun k_ => (P0_ k_ ∨ w.heap.size ≤ k_) ∧ k_ ≠ gb202) (.slice (some ⟨go17, 0, none⟩) x0_1.length co6) x0_1 from (by (with_reducible repeat (first | apply Kd.R_alloc | apply Kd.R_drewN | apply Kd.R_drew)); exact HO_0.out)); obtain ⟨ce22, hcl22, hM22, hcc22, hfr22⟩ := Kd.R_elem HX22.out z42 (x5_1 : Int) (of_decide_eq_true (by first | (with_reducible assumption) | assumption)) (by have h_ : (x5_1 : Int) < ((x0_1.length : Int) : Int) := of_decide_eq_true (by first | (with_reducible assumption) | assumption); first | exact h_ | (have e_ := (Kd.R_reads' HO_0.out).1; omega) | simpa using h_); obtain rfl := k42_openM hM22; have HP22 := Kd.R_seg HX22.out (x5_1 : Int) (of_decide_eq_true (by first | (with_reducible assumption) | assumption)) (by have h_ : (x5_1 : Int) < ((x0_1.length : Int) : Int) := of_decide_eq_true (by first | (with_reducible assumption) | assumption); first | exact h_ | (have e_ := (Kd.R_reads' HO_0.out).1; omega) | simpa using h_) (seg := [.int .i64 ((rd_T42 x0_1 x6_1).f0), .int .i64 ((rd_T42 x0_1 x6_1).f1), .int .i64 ((rd_T42 x0_1 x6_1).f2.f0), .int .i64 ((rd_T42 x0_1 x6_1).f2.f1), .int .i64 ((rd_T42 x0_1 x6_1).f3), .int .i64 ((rd_T42 x0_1 x6_1).f4)]) (j := 0) hcl22 hcc22 (show 6 ≤ 6 from by decide) (x' := (⟨(rd_T42 x0_1 x6_1).f0, (rd_T42 x0_1 x6_1).f1, (⟨(rd_T42 x0_1 x6_1).f2.f0, (rd_T42 x0_1 x6_1).f2.f1⟩ : S40), (rd_T42 x0_1 x6_1).f3, (rd_T42 x0_1 x6_1).f4⟩ : S42)) (k42_mkM _ _ _ (⟨(rd_T42 x0_1 x6_1).f0, (rd_T42 x0_1 x6_1).f1, (⟨(rd_T42 x0_1 x6_1).f2.f0, (rd_T42 x0_1 x6_1).f2.f1⟩ : S40), (rd_T42 x0_1 x6_1).f3, (rd_T42 x0_1 x6_1).f4⟩ : S42) ) (fun _ hk => hk); have hx22_0 := hcc22 0 _ rfl; (try simp only [show (k42).sz = 6 from rfl, Nat.mul_one, Nat.add_zero] at hx22_0); have hf22_0 := hfr22 0; (try simp only [show (k42).sz = 6 from rfl, Nat.mul_one, Nat.add_zero] at hf22_0); have hx22_1 := hcc22 1 _ rfl; (try simp only [show (k42).sz = 6 from rfl, Nat.mul_one, Nat.add_zero] at hx22_1); have hf22_1 := hfr22 1; (try simp only [show (k42).sz = 6 from rfl, Nat.mul_one, Nat.add_zero] at hf22_1); have hx22_2 := hcc22 2 _ rfl; (try simp only [show (k42).sz = 6 from rfl, Nat.mul_one, Nat.add_zero] at hx22_2); have hf22_2 := hfr22 2; (try simp only [show (k42).sz = 6 from rfl, Nat.mul_one, Nat.add_zero] at hf22_2); have hx22_3 := hcc22 3 _ rfl; (try simp only [show (k42).sz = 6 from rfl, Nat.mul_one, Nat.add_zero] at hx22_3); have hf22_3 := hfr22 3; (try simp only [show (k42).sz = 6 from rfl, Nat.mul_one, Nat.add_zero] at hf22_3); have hx22_4 := hcc22 4 _ rfl; (try simp only [show (k42).sz = 6 from rfl, Nat.mul_one, Nat.add_zero] at hx22_4); have hf22_4 := hfr22 4; (try simp only [show (k42).sz = 6 from rfl, Nat.mul_one, Nat.add_zero] at hf22_4); have hx22_5 := hcc22 5 _ rfl; (try simp only [show (k42).sz = 6 from rfl, Nat.mul_one, Nat.add_zero] at hx22_5); have hf22_5 := hfr22 5; (try simp only [show (k42).sz = 6 from rfl, Nat.mul_one, Nat.add_zero] at hf22_5); clear hcl22 hcc22 hfr22 hM22) | ((with_reducible refine gate_store (t := 42) (p := 33) rfl ?_); refine store_event (t := 42) (p := 33) (v := ?vo_w23) (w1 := ((((((w20.setCell ⟨go17, (x5_1 : Int).toNat * 6, none⟩ (.int .i64 ((rd_T42 x0_1 x6_1).f0))).setCell ⟨go17, (x5_1 : Int).toNat * 6 + 1, none⟩ (.int .i64 ((rd_T42 x0_1 x6_1).f1))).setCell ⟨go17, (x5_1 : Int).toNat * 6 + 2, none⟩ (.int .i64 ((rd_T42 x0_1 x6_1).f2.f0))).setCell ⟨go17, (x5_1 : Int).toNat * 6 + 3, none⟩ (.int .i64 ((rd_T42 x0_1 x6_1).f2.f1))).setCell ⟨go17, (x5_1 : Int).toNat * 6 + 4, none⟩ (.int .i64 ((rd_T42 x0_1 x6_1).f3))).setCell ⟨go17, (x5_1 : Int).toNat * 6 + 5, none⟩ (.int .i64 ((rd_T42 x0_1 x6_1).f4)))) ?hg ?ho ?hn ?hr ?_; (case ho => rfl); (case hg => rfl); (case hn => rfl); (case hr => first | (go_simp; done) | (go_simp; rfl)); intro w23 hw; have hg : w20.grownBy w23 (some go17) := (by rw [hw]; exact HP22.2); have hp_ : Kd.R k42 42 w23 w0.heap.size (fun k_ => (P0_ k_ ∨ w.heap.size ≤ k_) ∧ k_ ≠ gb202) (.slice (some ⟨go17, 0, none⟩) x0_1.length co6) y204 := (by rw [hw, Ny204.out]; exact HP22.1); clear HP22; have n0_ := Aside0.mk (hp_); have n1_ := Aside0.mk (blk_grown (g := gb202) (o := .cells #[.int .i64 ((rd_T42 x0_1 x6_1).f0), .int .i64 ((rd_T42 x0_1 x6_1).f1), .int .i64 ((rd_T42 x0_1 x6_1).f2.f0), .int .i64 ((rd_T42 x0_1 x6_1).f2.f1), .int .i64 ((rd_T42 x0_1 x6_1).f3), .int .i64 ((rd_T42 x0_1 x6_1).f4)] 42 (0, 0)) (by (with_reducible repeat (first | refine blk_drewN ?_ _ | refine blk_drew ?_ | refine blk_alloc ?_ _)); exact BK202.out) hg (Kd.R_away HO_0.out (fun _ hk => hk.2))); have n2_ := Aside0.mk ((by rw [hw]; exact below_set (below_set (below_set (below_set (below_set (below_set (HB.out) GB17.out) GB17.out) GB17.out) GB17.out) GB17.out) GB17.out : Below w0.heap.size w0 w23)); have n3_ := Aside0.mk (Kept.of_grown (S := (fun k_ => P0_ k_)) hg (by repeat (first | (with_reducible first | exact HK.out | apply Kept.alloc | apply Kept.drewN | apply Kept.drew | refine Kept.setCell ?_ (.inr GW202.out) _) | exact HK.out)) (fun k_ e_ => (HO_0.out.1 k_ e_).1)); clear HO_0; clear BK202; clear HB; clear HK; have HO_0 := n0_; have BK202 := n1_; have HB := n2_; have HK := n3_; clear n0_ n1_ n2_ n3_; clear hg hw hp_))
         (try simp only [← hl0_1])
         go_roundg k1
         case measure => have := HK1.out; omega
         case rel => exact ⟨(y204), (wrap64 (x5_1 + 1)), (wrap64 (x6_1 + 1)), (by first | rfl | (simp; done) | (simp [*]; done)), (by first | rfl | (simp; done) | (simp [*]; done)), H', ⟨by have := HK1.out; omega⟩, ⟨by (try simp only [hl0_1]); (with_reducible repeat (first | apply Kd.R_alloc | apply Kd.R_drewN | apply Kd.R_drew)); exact Kd.R_mono HO_0.out (fun _ hk => hk.1)⟩, ⟨by repeat (first | (with_reducible first | exact HK.out | apply Kept.alloc | apply Kept.drewN | apply Kept.drew | refine Kept.setCell ?_ (.inr GW202.out) _) | exact HK.out)⟩, ⟨by repeat (first | (with_reducible first | exact HB.out | apply below_alloc | apply pw_below_drewN | apply below_drew1 | refine below_set ?_ GE202.out) | exact HB.out)⟩⟩
        ·rw [if_neg c16] at H
         exact absurd H (by simp)
       ·rw [if_neg c15] at H
        exact absurd H (by simp)
     ·rw [if_neg c9] at H
      exact absurd H (by simp)
    ·rw [if_neg c8] at H
     have c8b0 : decide (x6_1 < (x0_1.length : Int)) = false := decide_eq_false c8
     clear c8
     by_cases c24 : 0 ≤ x5_1
     ·rw [if_pos c24] at H
      have c24b0 := eq_true c24
      have c24b1 : decide (0 ≤ x5_1) = true := decide_eq_true c24
      clear c24
      by_cases c25 : x5_1 ≤ (x0_1.length : Int)
      ·rw [if_pos c25] at H
       have c25b0 := eq_true c25
       have c25b1 : decide (x5_1 ≤ (x0_1.length : Int)) = true := decide_eq_true c25
       clear c25
       obtain ⟨y205, hy205⟩ : ∃ y_ : List (S42), y_ = (x0_1.drop (x5_1 : Int).toNat) := ⟨_, rfl⟩
       replace H : (some (x0_1.take (x5_1 : Int).toNat)) = some r := by first | (rw [hy205]; with_reducible exact H) | (have H2_ := (Option.bind_some _ _).symm.trans H; rw [hy205]; with_reducible exact H2_) | (have H2_ := (Option.bind_some _ _).symm.trans H; with_reducible exact H2_) | with_reducible exact H | (rw [hy205]; exact H) | exact H
       have Ny205 := Aside0.mk hy205
       clear hy205
       have c26b0 := eq_true (of_decide_eq_true (by first | (with_reducible assumption) | assumption) : x5_1 ≤ (x0_1.length : Int))
       obtain ⟨y209, hy209⟩ : ∃ y_ : List (S42), y_ = (x0_1.take (x5_1 : Int).toNat) := ⟨_, rfl⟩
       replace H : (some y209) = some r := by first | (rw [hy209]; with_reducible exact H) | (have H2_ := (Option.bind_some _ _).symm.trans H; rw [hy209]; with_reducible exact H2_) | (have H2_ := (Option.bind_some _ _).symm.trans H; with_reducible exact H2_) | with_reducible exact H | (rw [hy209]; exact H) | exact H
       have Ny209 := Aside0.mk hy209
       clear hy209
       obtain rfl := Option.some.inj H
       have q27 : (x5_1 : Int) ≤ ((x0_1.length : Int) : Int) := of_decide_eq_true (by first | (with_reducible assumption) | assumption)
       obtain ⟨i027, hi027, _, hsz27, _⟩ := info_parts info42
       have hroom27 : x0_1.length ≤ co6 := (Kd.R_reads' HO_0.out).2.1
       have hC27 : Kd.C k42 _ Ao6 x0_1.length x0_1 := (Kd.R_reads' HO_0.out).2.2
       have q027 : (0 : Int) ≤ (x5_1 : Int) := of_decide_eq_true (by first | (with_reducible assumption) | assumption)
       have hcut27 := cut_from (P := Try.prog) 27 42 .i64 Try.underlying27 hi027 6 hsz27 Ao6 x0_1.length co6 x5_1 q027 q27
       have hr27 := Kd.C_drop (m := (x5_1 : Int).toNat) (c := co6) hC27 (by omega) hroom27
       obtain ⟨A27, hA27⟩ : ∃ A1, A1 = (if co6 = (x5_1 : Int).toNat then Ao6 else (Ao6 : Option Addr).map (·.add ((x5_1 : Int).toNat * 6))) := ⟨_, rfl⟩
       obtain ⟨c27, hc27⟩ : ∃ c1, c1 = co6 - (x5_1 : Int).toNat := ⟨_, rfl⟩
       have hy27 : y205.length = x0_1.length - (x5_1 : Int).toNat := (by rw [Ny205.out, List.length_drop] <;> omega)
       rw [show (x0_1).drop (x5_1 : Int).toNat = y205 from Ny205.out.symm] at hr27
       replace hr27 : Kd.C k42 _ A27 y205.length y205 := (by rw [hA27]; exact hr27)
       rw [← hy27, ← hA27, ← hc27] at hcut27
       have HR208 := Aside0.mk hr27
       have HC208 := Aside0.mk (show y205.length ≤ c27 from by rw [hy27, hc27]; exact Nat.sub_le_sub_right hroom27 _)
       clear hr27 hC27 hroom27 hi027 hsz27 hc27
       have KY27 := Aside0.mk hy27
       have KA27 := Aside0.mk hA27
       clear hA27
       have KL27 := Aside0.mk (show (x5_1 : Int).toNat ≤ x0_1.length from by omega)
       replace q27 := eq_true q27
       have q28 : (x5_1 : Int) ≤ ((x0_1.length : Int) : Int) := of_decide_eq_true (by first | (with_reducible assumption) | assumption)
       obtain ⟨i028, hi028, _, hsz28, _⟩ := info_parts info42
       have hcut28 := cut_to (P := Try.prog) 27 42 .i64 Try.underlying27 hi028 Ao6 x0_1.length co6 x5_1 (of_decide_eq_true (by first | (with_reducible assumption) | assumption)) q28 (Kd.R_reads' HO_0.out).2.1
       have hclr0 := slices_DeleteFunc_Rec.clr_op HO_0.out (x5_1 : Int).toNat (by omega) A27 c27 KA27.out
       obtain ⟨W2, ys, hclr, hyl, hyt, hr2, hgr, hbl⟩ := hclr0
       have HB2 := Aside0.mk (hbl _ _ (Nat.le_refl _) HB.out)
       have HK2 := Aside0.mk (Kept.of_grown (S := (fun k_ => P0_ k_)) hgr HK.out (fun k_ e_ => HO_0.out.1 k_ e_))
       clear hgr hbl
       have hr28 := Kd.R_take (m := (x5_1 : Int).toNat) hr2 (by omega)
       rw [hyt] at hr28
       have hy28 : y209.length = (x5_1 : Int).toNat := (by rw [Ny209.out, List.length_take]; omega)
       rw [← Ny209.out] at hr28
       rw [← hy28] at hr28 hcut28
       clear hy28 hi028 hsz28 HO_0
       have HO211 := Aside0.mk hr28
       clear hr28
       replace q28 := eq_true q28
       go_wp2
       go_ret
       exact ⟨_, by first | rfl | (simp [errW_none, errW_some] <;> rfl) | (simp [*, errW_none, errW_some] <;> rfl), by (with_reducible repeat (first | apply Kd.R_alloc | apply Kd.R_drewN | apply Kd.R_drew)); exact HO211.out, by repeat (first | (with_reducible first | exact HB2.out | apply below_alloc | apply pw_below_drewN | apply below_drew1) | exact HB2.out), by repeat (first | (with_reducible first | exact HK2.out | apply Kept.alloc | apply Kept.drewN | apply Kept.drew) | exact HK2.out)⟩
      ·rw [if_neg c25] at H
       exact absurd H (by simp)
     ·rw [if_neg c24] at H
      exact absurd H (by simp)


def collect_Between_1.p (lo hi : Int) (x : S42) : Bool := decide (0 < x.f4) || (decide (x.f1 < lo) || decide (hi < x.f1))
set_option maxHeartbeats 8000000 in
set_option maxRecDepth 100000 in
theorem collect_Between_1.calls (lo hi : Int) (pa pb : Nat) (x : S42) (w : World) (ha : w.cell? ⟨pa, 0, none⟩ = some (.int .i64 lo)) (hb : w.cell? ⟨pb, 0, none⟩ = some (.int .i64 hi)) :
  Calls Try.prog 41 #[.agg #[.int .i64 x.f0, .int .i64 x.f1, .int .i64 x.f2.f0, .int .i64 x.f2.f1, .int .i64 x.f3, .int .i64 x.f4], .pointer (some ⟨pa, 0, none⟩), .pointer (some ⟨pb, 0, none⟩)] w fun e w' => e = .returned (.bool (collect_Between_1.p lo hi x)) ∧ Below w.heap.size w w' := by
 have hu42 := Try.underlying42
 have HB := Aside0.mk (Below.refl w.heap.size w)
 unfold collect_Between_1.p
 by_cases c1 : 0 < x.f4
 ·have c1b : decide (0 < x.f4) = true := decide_eq_true c1
  rw [c1b]
  go_enter Try.func41, Try.ntmps41
  go_wp2_with (first | ((with_reducible refine gate_dst (N := 3) rfl ?_); refine box_event ?hg (N := 3) ?hd (cs := #[.int .i64 x.f0, .int .i64 x.f1, .int .i64 x.f2.f0, .int .i64 x.f2.f1, .int .i64 x.f3, .int .i64 x.f4]) (t := 42) ?hr ?_; (case hd => rfl); (case hg => rfl); (case hr => first | (go_simp; done) | (go_simp; rfl)); intro gb1 hg w1 hbox hbb; have n1_ := Aside0.mk (below_step (by repeat (first | (with_reducible first | exact HB.out | apply below_alloc | apply pw_below_drewN | apply below_drew1) | exact HB.out)) hbb); have ha1 := (hbb.cell (World.block_lt_of_cell? w _ ha)).trans ha; have hb1 := (hbb.cell (World.block_lt_of_cell? w _ hb)).trans hb; clear HB; have HB := n1_; clear n1_ hg hbb; have hz0 : w1.cell? ⟨gb1, 0, none⟩ = some (.int .i64 x.f0) := (blk_cell hbox 0).trans rfl; have hf0 := blk_frozen hbox 0; have hz1 : w1.cell? ⟨gb1, 1, none⟩ = some (.int .i64 x.f1) := (blk_cell hbox 1).trans rfl; have hf1 := blk_frozen hbox 1; have hz2 : w1.cell? ⟨gb1, 2, none⟩ = some (.int .i64 x.f2.f0) := (blk_cell hbox 2).trans rfl; have hf2 := blk_frozen hbox 2; have hz3 : w1.cell? ⟨gb1, 3, none⟩ = some (.int .i64 x.f2.f1) := (blk_cell hbox 3).trans rfl; have hf3 := blk_frozen hbox 3; have hz4 : w1.cell? ⟨gb1, 4, none⟩ = some (.int .i64 x.f3) := (blk_cell hbox 4).trans rfl; have hf4 := blk_frozen hbox 4; have hz5 : w1.cell? ⟨gb1, 5, none⟩ = some (.int .i64 x.f4) := (blk_cell hbox 5).trans rfl; have hf5 := blk_frozen hbox 5))
  go_ret
  exact ⟨by simp, by repeat (first | (with_reducible first | exact HB.out | apply below_alloc | apply pw_below_drewN | apply below_drew1) | exact HB.out)⟩
 ·have c1b : decide (0 < x.f4) = false := decide_eq_false c1
  rw [c1b]
  by_cases c2 : x.f1 < lo
  ·have c2b : decide (x.f1 < lo) = true := decide_eq_true c2
   rw [c2b]
   go_enter Try.func41, Try.ntmps41
   go_wp2_with (first | ((with_reducible refine gate_dst (N := 3) rfl ?_); refine box_event ?hg (N := 3) ?hd (cs := #[.int .i64 x.f0, .int .i64 x.f1, .int .i64 x.f2.f0, .int .i64 x.f2.f1, .int .i64 x.f3, .int .i64 x.f4]) (t := 42) ?hr ?_; (case hd => rfl); (case hg => rfl); (case hr => first | (go_simp; done) | (go_simp; rfl)); intro gb1 hg w1 hbox hbb; have n1_ := Aside0.mk (below_step (by repeat (first | (with_reducible first | exact HB.out | apply below_alloc | apply pw_below_drewN | apply below_drew1) | exact HB.out)) hbb); have ha1 := (hbb.cell (World.block_lt_of_cell? w _ ha)).trans ha; have hb1 := (hbb.cell (World.block_lt_of_cell? w _ hb)).trans hb; clear HB; have HB := n1_; clear n1_ hg hbb; have hz0 : w1.cell? ⟨gb1, 0, none⟩ = some (.int .i64 x.f0) := (blk_cell hbox 0).trans rfl; have hf0 := blk_frozen hbox 0; have hz1 : w1.cell? ⟨gb1, 1, none⟩ = some (.int .i64 x.f1) := (blk_cell hbox 1).trans rfl; have hf1 := blk_frozen hbox 1; have hz2 : w1.cell? ⟨gb1, 2, none⟩ = some (.int .i64 x.f2.f0) := (blk_cell hbox 2).trans rfl; have hf2 := blk_frozen hbox 2; have hz3 : w1.cell? ⟨gb1, 3, none⟩ = some (.int .i64 x.f2.f1) := (blk_cell hbox 3).trans rfl; have hf3 := blk_frozen hbox 3; have hz4 : w1.cell? ⟨gb1, 4, none⟩ = some (.int .i64 x.f3) := (blk_cell hbox 4).trans rfl; have hf4 := blk_frozen hbox 4; have hz5 : w1.cell? ⟨gb1, 5, none⟩ = some (.int .i64 x.f4) := (blk_cell hbox 5).trans rfl; have hf5 := blk_frozen hbox 5))
   go_ret
   exact ⟨by simp, by repeat (first | (with_reducible first | exact HB.out | apply below_alloc | apply pw_below_drewN | apply below_drew1) | exact HB.out)⟩
  ·have c2b : decide (x.f1 < lo) = false := decide_eq_false c2
   rw [c2b]
   go_enter Try.func41, Try.ntmps41
   go_wp2_with (first | ((with_reducible refine gate_dst (N := 3) rfl ?_); refine box_event ?hg (N := 3) ?hd (cs := #[.int .i64 x.f0, .int .i64 x.f1, .int .i64 x.f2.f0, .int .i64 x.f2.f1, .int .i64 x.f3, .int .i64 x.f4]) (t := 42) ?hr ?_; (case hd => rfl); (case hg => rfl); (case hr => first | (go_simp; done) | (go_simp; rfl)); intro gb1 hg w1 hbox hbb; have n1_ := Aside0.mk (below_step (by repeat (first | (with_reducible first | exact HB.out | apply below_alloc | apply pw_below_drewN | apply below_drew1) | exact HB.out)) hbb); have ha1 := (hbb.cell (World.block_lt_of_cell? w _ ha)).trans ha; have hb1 := (hbb.cell (World.block_lt_of_cell? w _ hb)).trans hb; clear HB; have HB := n1_; clear n1_ hg hbb; have hz0 : w1.cell? ⟨gb1, 0, none⟩ = some (.int .i64 x.f0) := (blk_cell hbox 0).trans rfl; have hf0 := blk_frozen hbox 0; have hz1 : w1.cell? ⟨gb1, 1, none⟩ = some (.int .i64 x.f1) := (blk_cell hbox 1).trans rfl; have hf1 := blk_frozen hbox 1; have hz2 : w1.cell? ⟨gb1, 2, none⟩ = some (.int .i64 x.f2.f0) := (blk_cell hbox 2).trans rfl; have hf2 := blk_frozen hbox 2; have hz3 : w1.cell? ⟨gb1, 3, none⟩ = some (.int .i64 x.f2.f1) := (blk_cell hbox 3).trans rfl; have hf3 := blk_frozen hbox 3; have hz4 : w1.cell? ⟨gb1, 4, none⟩ = some (.int .i64 x.f3) := (blk_cell hbox 4).trans rfl; have hf4 := blk_frozen hbox 4; have hz5 : w1.cell? ⟨gb1, 5, none⟩ = some (.int .i64 x.f4) := (blk_cell hbox 5).trans rfl; have hf5 := blk_frozen hbox 5))
   go_ret
   exact ⟨by simp, by repeat (first | (with_reducible first | exact HB.out | apply below_alloc | apply pw_below_drewN | apply below_drew1) | exact HB.out)⟩

def collect_Between.f (k : Nat) (l0 : List (S42)) (a1 : Int) (a2 : Int) : Option (List (S42) × Int) := (collect_Check.f k l0).bind fun t => (if t = 0 then ((api_Record_32.f l0).bind fun y => ((slices_DeleteFunc_Rec.f (collect_Between_1.p a1 a2) k y).bind fun z => some (z, 0))) else some (([] : List (S42)), t))
theorem collect_Between.mono : ∀ a0 a1 a2 k, LeO (collect_Between.f k a0 a1 a2) (collect_Between.f (k + 1) a0 a1 a2) := by
 intro a0 a1 a2 k
 unfold collect_Between.f
 exact LeO.bind (collect_Check.mono _ _) (fun _ => LeO.ite (LeO.bind (LeO.refl _) (fun _ => LeO.bind (slices_DeleteFunc_Rec.mono _ _ _) (fun _ => LeO.refl _))) (LeO.refl _))
set_option maxHeartbeats 8000000 in
set_option maxRecDepth 100000 in
theorem collect_Between.calls (k : Nat) (A0 : Option Addr) (c0 : Nat) (l0 : List (S42)) (a1 : Int) (a2 : Int) (r1 : List (S42)) (r2 : Int) (w : World) (hr0 : Kd.C k42 w A0 l0.length l0) (hc0 : l0.length ≤ c0) (h : collect_Between.f k l0 a1 a2 = some (r1, r2)) :
  Calls Try.prog 26 #[.slice A0 l0.length c0, .int .i64 a1, .int .i64 a2] w fun e w' => ∃ v0_ : Value, e = .returned (.tuple #[v0_, .int .i64 r2]) ∧ Kd.R k42 42 w' w.heap.size (fun _ => True) v0_ r1 ∧ Below w.heap.size w w' := by
 have HR0 := Aside0.mk hr0
 have HC0 := Aside0.mk hc0
 clear hr0 hc0
 have HB := Aside0.mk (Below.refl w.heap.size w)
 have H : (collect_Check.f k l0).bind (fun t => (if t = 0 then ((api_Record_32.f l0).bind fun y => ((slices_DeleteFunc_Rec.f (collect_Between_1.p a1 a2) k y).bind fun z => some (z, (0 : Int)))) else some (([] : List (S42)), t))) = some (r1, r2) := h
 clear h
 obtain ⟨t, A10, H⟩ := Option.bind_eq_some_iff.mp H
 have A1 := Aside0.mk A10
 clear A10
 by_cases c4 : t = 0
 ·rw [if_pos c4] at H
  have c4b1 : (t != 0) = false := bne_eq_false_iff_eq.mpr c4
  clear c4
  obtain ⟨y, A20, H⟩ := Option.bind_eq_some_iff.mp H
  have A2 := Aside0.mk A20
  clear A20
  obtain ⟨z, A30, H⟩ := Option.bind_eq_some_iff.mp H
  have A3 := Aside0.mk A30
  clear A30
  simp only [Option.some.injEq, Prod.mk.injEq] at H
  obtain ⟨rfl, rfl⟩ := H
  go_enter Try.func26, Try.ntmps26
  go_wp2_with (first | ((with_reducible refine gate_dst (N := 4) rfl ?_); refine box_event ?hg (N := 4) ?hd (cs := #[.int .i64 a1]) (t := 3) ?hr ?_; (case hd => rfl); (case hg => rfl); (case hr => first | (go_simp; done) | (go_simp; rfl)); intro ga hga wa hboxa hbb; have n1_ := Aside0.mk (below_step (by repeat (first | (with_reducible first | exact HB.out | apply below_alloc | apply pw_below_drewN | apply below_drew1) | exact HB.out)) hbb); clear HB; have HB := n1_; have BKa := Aside0.mk hboxa; clear n1_ hbb hboxa hga) | ((with_reducible refine gate_dst (N := 5) rfl ?_); refine box_event ?hg (N := 5) ?hd (cs := #[.int .i64 a2]) (t := 3) ?hr ?_; (case hd => rfl); (case hg => rfl); (case hr => first | (go_simp; done) | (go_simp; rfl)); intro gb hgb wb hboxb hbb; have n1_ := Aside0.mk (below_step (by repeat (first | (with_reducible first | exact HB.out | apply below_alloc | apply pw_below_drewN | apply below_drew1) | exact HB.out)) hbb); have ma_ := Aside0.mk (blk_below BKa.out hbb); clear BKa; have BKa := ma_; clear ma_; clear HB; have HB := n1_; have BKb := Aside0.mk hboxb; clear n1_ hbb hboxb hgb) | ((with_reducible refine gate_callee (f := 21) rfl ?_); refine goesL_ (some 11) rfl rfl Try.func21 (by kernel_rfl) rfl #[.slice A0 l0.length c0] rfl (by (try simp only [List.map_toArray, List.map_cons, List.map_nil]); first | done | rfl | (simp only [List.length_drop, List.length_take]; rfl)) ?_; (with_reducible refine (collect_Check.calls k _ _ l0 t _ ?side1 ?side2 A1.out).mono ?_); (case side1 => repeat (first | exact (Kd.C_below HR0.out HB.out) | (with_reducible refine Kd.C_alloc ?_ _) | (with_reducible refine Kd.C_drewN ?_ _) | (with_reducible refine Kd.C_drew ?_))); (case side2 => exact HC0.out); rintro e w7 ⟨rfl, hbb⟩; refine ⟨_, rfl, ?_⟩; have n0_ := Aside0.mk (below_step (by repeat (first | (with_reducible first | exact HB.out | apply below_alloc | apply pw_below_drewN | apply below_drew1) | exact HB.out)) hbb); have ma_ := Aside0.mk (blk_below BKa.out hbb); clear BKa; have BKa := ma_; clear ma_; have mb_ := Aside0.mk (blk_below BKb.out hbb); clear BKb; have BKb := mb_; clear mb_; clear HB; have HB := n0_; clear n0_ hbb) | ((with_reducible refine gate_callee (f := 32) rfl ?_); refine goesL_ (some 17) rfl rfl Try.func32 (by kernel_rfl) rfl #[.slice A0 l0.length c0] rfl (by (try simp only [List.map_toArray, List.map_cons, List.map_nil]); first | done | rfl | (simp only [List.length_drop, List.length_take]; rfl)) ?_; (with_reducible refine (api_Record_32.calls _ _ l0 y _ ?side1 ?side2 A2.out).mono ?_); (case side1 => repeat (first | exact (Kd.C_below HR0.out HB.out) | (with_reducible refine Kd.C_alloc ?_ _) | (with_reducible refine Kd.C_drewN ?_ _) | (with_reducible refine Kd.C_drew ?_))); (case side2 => exact HC0.out); rintro e w8 ⟨v1, rfl, ho0, hbb⟩; refine ⟨_, rfl, ?_⟩; have n0_ := Aside0.mk (Kd.R_lower ho0 (below_size (by repeat (first | (with_reducible first | exact HB.out | apply below_alloc | apply pw_below_drewN | apply below_drew1) | exact HB.out)))); have n1_ := Aside0.mk (below_step (by repeat (first | (with_reducible first | exact HB.out | apply below_alloc | apply pw_below_drewN | apply below_drew1) | exact HB.out)) hbb); have ma_ := Aside0.mk (blk_below BKa.out hbb); clear BKa; have BKa := ma_; clear ma_; have mb_ := Aside0.mk (blk_below BKb.out hbb); clear BKb; have BKb := mb_; clear mb_; clear HB; have HB := n1_; have HO1 := n0_; clear n0_ n1_ hbb ho0) | ((with_reducible refine gate_callee (f := 42) rfl ?_); refine goesL_ (some 19) rfl rfl Try.func42 (by kernel_rfl) rfl #[v1, .func (.func 41) #[] #[.pointer (some ⟨ga, 0, none⟩), .pointer (some ⟨gb, 0, none⟩)]] rfl (by (try simp only [List.map_toArray, List.map_cons, List.map_nil]); first | done | rfl | (simp only [List.length_drop, List.length_take]; rfl)) ?_; have hna_ := Kd.R_ne HO1.out BKa.out (by decide); have hnb_ := Kd.R_ne HO1.out BKb.out (by decide); (refine (slices_DeleteFunc_Rec.calls (collect_Between_1.p a1 a2) 41 Try.f41 #[.pointer (some ⟨ga, 0, none⟩), .pointer (some ⟨gb, 0, none⟩)] Try.func41 (by kernel_rfl) rfl k (fun k_ => some k_ = v1.ownBlock) v1 y z w _ (fun W_ hk_ x => collect_Between_1.calls a1 a2 ga gb x W_ ((blk_cell (blk_kept BKa.out hk_ (fun e_ => hna_ e_)) 0).trans rfl) ((blk_cell (blk_kept BKb.out hk_ (fun e_ => hnb_ e_)) 0).trans rfl)) ?side1 ?side2 A3.out).mono ?_); (case side1 => exact (by repeat (first | (with_reducible first | exact HB.out | apply below_alloc | apply pw_below_drewN | apply below_drew1) | exact HB.out))); (case side2 => exact Kd.R_tight rfl HO1.out); rintro e w9 ⟨v2, rfl, ho2, hbb, hkk⟩; refine ⟨_, rfl, ?_⟩; have HO2 := Aside0.mk (Kd.R_mono (ok' := fun _ => True) ho2 (fun _ _ => trivial)); clear HB; have HB := Aside0.mk hbb; clear hbb hkk ho2))
  go_ret2
  exact ⟨_, rfl, by (with_reducible repeat (first | apply Kd.R_alloc | apply Kd.R_drewN | apply Kd.R_drew)); exact HO2.out, by repeat (first | (with_reducible first | exact HB.out | apply below_alloc | apply pw_below_drewN | apply below_drew1) | exact HB.out)⟩
 ·rw [if_neg c4] at H
  have c4b1 : (t != 0) = true := bne_iff_ne.mpr c4
  simp only [Option.some.injEq, Prod.mk.injEq] at H
  obtain ⟨rfl, rfl⟩ := H
  go_enter Try.func26, Try.ntmps26
  go_wp2_with (first | ((with_reducible refine gate_dst (N := 4) rfl ?_); refine box_event ?hg (N := 4) ?hd (cs := #[.int .i64 a1]) (t := 3) ?hr ?_; (case hd => rfl); (case hg => rfl); (case hr => first | (go_simp; done) | (go_simp; rfl)); intro ga hga wa hboxa hbb; have n1_ := Aside0.mk (below_step (by repeat (first | (with_reducible first | exact HB.out | apply below_alloc | apply pw_below_drewN | apply below_drew1) | exact HB.out)) hbb); clear HB; have HB := n1_; have BKa := Aside0.mk hboxa; clear n1_ hbb hboxa hga) | ((with_reducible refine gate_dst (N := 5) rfl ?_); refine box_event ?hg (N := 5) ?hd (cs := #[.int .i64 a2]) (t := 3) ?hr ?_; (case hd => rfl); (case hg => rfl); (case hr => first | (go_simp; done) | (go_simp; rfl)); intro gb hgb wb hboxb hbb; have n1_ := Aside0.mk (below_step (by repeat (first | (with_reducible first | exact HB.out | apply below_alloc | apply pw_below_drewN | apply below_drew1) | exact HB.out)) hbb); have ma_ := Aside0.mk (blk_below BKa.out hbb); clear BKa; have BKa := ma_; clear ma_; clear HB; have HB := n1_; have BKb := Aside0.mk hboxb; clear n1_ hbb hboxb hgb) | ((with_reducible refine gate_callee (f := 21) rfl ?_); refine goesL_ (some 11) rfl rfl Try.func21 (by kernel_rfl) rfl #[.slice A0 l0.length c0] rfl (by (try simp only [List.map_toArray, List.map_cons, List.map_nil]); first | done | rfl | (simp only [List.length_drop, List.length_take]; rfl)) ?_; (with_reducible refine (collect_Check.calls k _ _ l0 t _ ?side1 ?side2 A1.out).mono ?_); (case side1 => repeat (first | exact (Kd.C_below HR0.out HB.out) | (with_reducible refine Kd.C_alloc ?_ _) | (with_reducible refine Kd.C_drewN ?_ _) | (with_reducible refine Kd.C_drew ?_))); (case side2 => exact HC0.out); rintro e w7 ⟨rfl, hbb⟩; refine ⟨_, rfl, ?_⟩; have n0_ := Aside0.mk (below_step (by repeat (first | (with_reducible first | exact HB.out | apply below_alloc | apply pw_below_drewN | apply below_drew1) | exact HB.out)) hbb); have ma_ := Aside0.mk (blk_below BKa.out hbb); clear BKa; have BKa := ma_; clear ma_; have mb_ := Aside0.mk (blk_below BKb.out hbb); clear BKb; have BKb := mb_; clear mb_; clear HB; have HB := n0_; clear n0_ hbb))
  go_ret2
  exact ⟨_, rfl, Kd.R_nil _ _ _ _ _, by repeat (first | (with_reducible first | exact HB.out | apply below_alloc | apply pw_below_drewN | apply below_drew1) | exact HB.out)⟩

-- NOT PRINTED: function 51 (api_Record_51)

-- NOT PRINTED: function 43 (api_Record_43)

-- NOT PRINTED: function 54 (api_Record_54)

-- NOT PRINTED: function 57 (api_Record_57)

-- NOT PRINTED: function 56 (api_Record_56)

-- NOT PRINTED: function 55 (api_Record_55)

-- NOT PRINTED: function 52 (api_Record_52)

-- NOT PRINTED: function 45 (api_Record_45)

-- NOT PRINTED: function 48 (api_Record_48)

/-! ### collect_Merge: function 30 -/
def collect_Merge.f (k : Nat) (l0 : List (S42)) (l1 : List (S42)) : Option ((List (S42)) × Int) := (collect_Check.f k l0).bind fun t211 => (if t211 = 0 then (none) else (some (([] : List (S42)), t211)))
theorem collect_Merge.mono : ∀ a0 a1 k, LeO (collect_Merge.f k a0 a1) (collect_Merge.f (k + 1) a0 a1) := by
 intro a0 a1 k
 unfold collect_Merge.f
 repeat' first
   | (with_reducible exact collect_Check.mono _ _)
   | (with_reducible exact LeO.refl _)
   | (with_reducible exact LeO.none _)
   | (with_reducible refine LeO.ite ?_ ?_)
   | (with_reducible refine LeO.bind ?_ (fun _ => ?_))
   | exact collect_Check.mono _ _
   | exact LeO.none _
   | refine LeO.ite ?_ ?_
   | refine LeO.bind ?_ (fun _ => ?_)
set_option maxHeartbeats 8000000 in
set_option maxRecDepth 100000 in
theorem collect_Merge.calls (k : Nat) (A0 : Option Addr) (c0 : Nat) (l0 : List (S42)) (A1 : Option Addr) (c1 : Nat) (l1 : List (S42)) (r1 : List (S42)) (r2 : Int) (w : World) (hr0 : Kd.C k42 w A0 l0.length l0) (hc0 : l0.length ≤ c0) (hr1 : Kd.C k42 w A1 l1.length l1) (hc1 : l1.length ≤ c1) (h : collect_Merge.f k l0 l1 = some (r1, r2)) :
  Calls Try.prog 30 #[.slice A0 l0.length c0, .slice A1 l1.length c1] w fun e w' => ∃ v0_ : Value, e = .returned (.tuple #[v0_, .int .i64 r2]) ∧ Kd.R k42 42 w' w.heap.size (fun _ => True) v0_ r1 ∧ Below w.heap.size w w' := by
 have hu42 := Try.underlying42
 have HR0 := Aside0.mk hr0
 have HC0 := Aside0.mk hc0
 clear hr0 hc0
 have HR1 := Aside0.mk hr1
 have HC1 := Aside0.mk hc1
 clear hr1 hc1
 have HB := Aside0.mk (Below.refl w.heap.size w)
 have H : ((collect_Check.f k l0).bind fun t211 => (if t211 = 0 then (none) else (some (([] : List (S42)), t211)))) = some (r1, r2) := h
 clear h
 replace H := Option.bind_eq_some_iff.mp H
 obtain ⟨t211, A30, H⟩ := H
 replace H : (if t211 = 0 then (none) else (some (([] : List (S42)), t211))) = some (r1, r2) := H
 have A3 := Aside0.mk A30
 clear A30
 by_cases c4 : t211 = 0
 ·rw [if_pos c4] at H
  exact absurd H (by simp)
 ·rw [if_neg c4] at H
  have c4b0 : (t211 == 0) = false := beq_eq_false_iff_ne.mpr c4
  have c4b1 : (t211 != 0) = true := bne_iff_ne.mpr c4
  simp only [Option.some.injEq, Prod.mk.injEq] at H
  obtain ⟨rfl, rfl⟩ := H
  go_enter Try.func30, Try.ntmps30
  go_wp2_with (first | ((with_reducible refine gate_callee (f := 21) rfl ?_); refine goesL_ (some 18) rfl rfl Try.func21 (by kernel_rfl) rfl #[.slice A0 l0.length c0] rfl (by (try simp only [List.map_toArray, List.map_cons, List.map_nil]); first | done | rfl | (simp only [List.length_drop, List.length_take]; rfl)) ?_; (with_reducible refine (collect_Check.calls k _ _ l0 t211 _ ?side1 ?side2 A3.out).mono ?_); (case side1 => repeat (first | exact HR0.out | (with_reducible refine Kd.C_alloc ?_ _) | (with_reducible refine Kd.C_drewN ?_ _) | (with_reducible refine Kd.C_drew ?_))); (case side2 => exact HC0.out); rintro e w5 ⟨rfl, hb⟩; refine ⟨_, rfl, ?_⟩; have n0_ := Aside0.mk (below_step (by repeat (first | (with_reducible first | exact HB.out | apply below_alloc | apply pw_below_drewN | apply below_drew1) | exact HB.out)) hb); clear HB; have HB := n0_; clear n0_; (try clear hb); (try clear hb2); (try clear hk); (try clear hi)))
  go_ret2
  exact ⟨_, by first | rfl | (simp [errW_none, errW_some] <;> rfl) | (simp [*, errW_none, errW_some] <;> rfl), by first | exact Kd.R_nil _ _ _ _ _ | exact Kd.N_nil _ _ _ _ _ | exact Kd.V_nil _ _ _ _ _ | exact Kd.Q_nil _ _ _ _ _ | exact Kd.S_nil _ _ _ _ _, by repeat (first | (with_reducible first | exact HB.out | apply below_alloc | apply pw_below_drewN | apply below_drew1) | exact HB.out)⟩

/-! ### plenumlaw42_CollectChecks: function 9 -/
def plenumlaw42_CollectChecks.f (k : Nat) (l0 : List (S42)) : Option (Bool) := (plenumlaw42_awake.f k).bind fun t212 => (if t212 = true then ((plenumref42_Small.f k l0).bind fun t213 => (if t213 = true then ((plenumref42_Check.f k l0).bind fun t214 => ((collect_Check.f k l0).bind fun t215 => (if t215 = t214 then (if t214 = 0 then (some true) else ((collect_New.f).bind fun t216 => ((collect_Collector_Take.f k t216 l0).bind fun bt218 => ((collect_Merge.f k l0 ([] : List (S42))).bind fun bt221 => ((collect_Between.f k l0 0 99).bind fun bt225 => ((collect_At.f k l0 99).bind fun bt229 => (if bt218.2.1 = t214 then (if bt221.2 = t214 then (if bt225.2 = t214 then (if bt229.2.2 = t214 then (if bt218.1 = 0 then (if (bt221.1.length : Int) = 0 then (if (bt225.1.length : Int) = 0 then (if (bt229.1 == 0 && (bt229.2.1 == 0)) = true then ((collect_Collector_From.f bt218.2.2).bind fun bt233 => (if bt233.1 = 1 then ((collect_Collector_Records.f bt233.2).bind fun bt235 => (some ((bt235.1.length : Int) == 0))) else (none))) else (none)) else (none)) else (none)) else (none)) else (none)) else (none)) else (none)) else (none)))))))) else (some false)))) else (some true))) else (some false))
theorem plenumlaw42_CollectChecks.mono : ∀ a0 k, LeO (plenumlaw42_CollectChecks.f k a0) (plenumlaw42_CollectChecks.f (k + 1) a0) := by
 intro a0 k
 unfold plenumlaw42_CollectChecks.f
 repeat' first
   | (with_reducible exact collect_At.mono _ _ _)
   | (with_reducible exact collect_Between.mono _ _ _ _)
   | (with_reducible exact collect_Check.mono _ _)
   | (with_reducible exact collect_Collector_Take.mono _ _ _)
   | (with_reducible exact collect_Merge.mono _ _ _)
   | (with_reducible exact plenumlaw42_awake.mono _)
   | (with_reducible exact plenumref42_Check.mono _ _)
   | (with_reducible exact plenumref42_Small.mono _ _)
   | (with_reducible exact LeO.refl _)
   | (with_reducible exact LeO.none _)
   | (with_reducible refine LeO.ite ?_ ?_)
   | (with_reducible refine LeO.bind ?_ (fun _ => ?_))
   | exact collect_At.mono _ _ _
   | exact collect_Between.mono _ _ _ _
   | exact collect_Check.mono _ _
   | exact collect_Collector_Take.mono _ _ _
   | exact collect_Merge.mono _ _ _
   | exact plenumlaw42_awake.mono _
   | exact plenumref42_Check.mono _ _
   | exact plenumref42_Small.mono _ _
   | exact LeO.none _
   | refine LeO.ite ?_ ?_
   | refine LeO.bind ?_ (fun _ => ?_)
set_option maxHeartbeats 8000000 in
set_option maxRecDepth 100000 in
theorem plenumlaw42_CollectChecks.calls (k : Nat) (A0 : Option Addr) (c0 : Nat) (l0 : List (S42)) (r : Bool) (w : World) (hr0 : Kd.C k42 w A0 l0.length l0) (hc0 : l0.length ≤ c0) (h : plenumlaw42_CollectChecks.f k l0 = some r) :
  Calls Try.prog 9 #[.slice A0 l0.length c0] w fun e w' => e = .returned (.bool r) ∧ Below w.heap.size w w' := by
 have hu40 := Try.underlying40
 have HR0 := Aside0.mk hr0
 have HC0 := Aside0.mk hc0
 clear hr0 hc0
 have HB := Aside0.mk (Below.refl w.heap.size w)
 have H : ((plenumlaw42_awake.f k).bind fun t212 => (if t212 = true then ((plenumref42_Small.f k l0).bind fun t213 => (if t213 = true then ((plenumref42_Check.f k l0).bind fun t214 => ((collect_Check.f k l0).bind fun t215 => (if t215 = t214 then (if t214 = 0 then (some true) else ((collect_New.f).bind fun t216 => ((collect_Collector_Take.f k t216 l0).bind fun bt218 => ((collect_Merge.f k l0 ([] : List (S42))).bind fun bt221 => ((collect_Between.f k l0 0 99).bind fun bt225 => ((collect_At.f k l0 99).bind fun bt229 => (if bt218.2.1 = t214 then (if bt221.2 = t214 then (if bt225.2 = t214 then (if bt229.2.2 = t214 then (if bt218.1 = 0 then (if (bt221.1.length : Int) = 0 then (if (bt225.1.length : Int) = 0 then (if (bt229.1 == 0 && (bt229.2.1 == 0)) = true then ((collect_Collector_From.f bt218.2.2).bind fun bt233 => (if bt233.1 = 1 then ((collect_Collector_Records.f bt233.2).bind fun bt235 => (some ((bt235.1.length : Int) == 0))) else (none))) else (none)) else (none)) else (none)) else (none)) else (none)) else (none)) else (none)) else (none)))))))) else (some false)))) else (some true))) else (some false))) = some r := h
 clear h
 replace H := Option.bind_eq_some_iff.mp H
 obtain ⟨t212, A20, H⟩ := H
 replace H : (if t212 = true then ((plenumref42_Small.f k l0).bind fun t213 => (if t213 = true then ((plenumref42_Check.f k l0).bind fun t214 => ((collect_Check.f k l0).bind fun t215 => (if t215 = t214 then (if t214 = 0 then (some true) else ((collect_New.f).bind fun t216 => ((collect_Collector_Take.f k t216 l0).bind fun bt218 => ((collect_Merge.f k l0 ([] : List (S42))).bind fun bt221 => ((collect_Between.f k l0 0 99).bind fun bt225 => ((collect_At.f k l0 99).bind fun bt229 => (if bt218.2.1 = t214 then (if bt221.2 = t214 then (if bt225.2 = t214 then (if bt229.2.2 = t214 then (if bt218.1 = 0 then (if (bt221.1.length : Int) = 0 then (if (bt225.1.length : Int) = 0 then (if (bt229.1 == 0 && (bt229.2.1 == 0)) = true then ((collect_Collector_From.f bt218.2.2).bind fun bt233 => (if bt233.1 = 1 then ((collect_Collector_Records.f bt233.2).bind fun bt235 => (some ((bt235.1.length : Int) == 0))) else (none))) else (none)) else (none)) else (none)) else (none)) else (none)) else (none)) else (none)) else (none)))))))) else (some false)))) else (some true))) else (some false)) = some r := H
 have A2 := Aside0.mk A20
 clear A20
 by_cases c3 : t212 = true
 ·subst c3
  have H1 : ((plenumref42_Small.f k l0).bind fun t213 => (if t213 = true then ((plenumref42_Check.f k l0).bind fun t214 => ((collect_Check.f k l0).bind fun t215 => (if t215 = t214 then (if t214 = 0 then (some true) else ((collect_New.f).bind fun t216 => ((collect_Collector_Take.f k t216 l0).bind fun bt218 => ((collect_Merge.f k l0 ([] : List (S42))).bind fun bt221 => ((collect_Between.f k l0 0 99).bind fun bt225 => ((collect_At.f k l0 99).bind fun bt229 => (if bt218.2.1 = t214 then (if bt221.2 = t214 then (if bt225.2 = t214 then (if bt229.2.2 = t214 then (if bt218.1 = 0 then (if (bt221.1.length : Int) = 0 then (if (bt225.1.length : Int) = 0 then (if (bt229.1 == 0 && (bt229.2.1 == 0)) = true then ((collect_Collector_From.f bt218.2.2).bind fun bt233 => (if bt233.1 = 1 then ((collect_Collector_Records.f bt233.2).bind fun bt235 => (some ((bt235.1.length : Int) == 0))) else (none))) else (none)) else (none)) else (none)) else (none)) else (none)) else (none)) else (none)) else (none)))))))) else (some false)))) else (some true))) = some r := by rw [if_pos rfl] at H; exact H
  clear H
  have H := H1
  clear H1
  replace H := Option.bind_eq_some_iff.mp H
  obtain ⟨t213, A40, H⟩ := H
  replace H : (if t213 = true then ((plenumref42_Check.f k l0).bind fun t214 => ((collect_Check.f k l0).bind fun t215 => (if t215 = t214 then (if t214 = 0 then (some true) else ((collect_New.f).bind fun t216 => ((collect_Collector_Take.f k t216 l0).bind fun bt218 => ((collect_Merge.f k l0 ([] : List (S42))).bind fun bt221 => ((collect_Between.f k l0 0 99).bind fun bt225 => ((collect_At.f k l0 99).bind fun bt229 => (if bt218.2.1 = t214 then (if bt221.2 = t214 then (if bt225.2 = t214 then (if bt229.2.2 = t214 then (if bt218.1 = 0 then (if (bt221.1.length : Int) = 0 then (if (bt225.1.length : Int) = 0 then (if (bt229.1 == 0 && (bt229.2.1 == 0)) = true then ((collect_Collector_From.f bt218.2.2).bind fun bt233 => (if bt233.1 = 1 then ((collect_Collector_Records.f bt233.2).bind fun bt235 => (some ((bt235.1.length : Int) == 0))) else (none))) else (none)) else (none)) else (none)) else (none)) else (none)) else (none)) else (none)) else (none)))))))) else (some false)))) else (some true)) = some r := H
  have A4 := Aside0.mk A40
  clear A40
  by_cases c5 : t213 = true
  ·subst c5
   have H1 : ((plenumref42_Check.f k l0).bind fun t214 => ((collect_Check.f k l0).bind fun t215 => (if t215 = t214 then (if t214 = 0 then (some true) else ((collect_New.f).bind fun t216 => ((collect_Collector_Take.f k t216 l0).bind fun bt218 => ((collect_Merge.f k l0 ([] : List (S42))).bind fun bt221 => ((collect_Between.f k l0 0 99).bind fun bt225 => ((collect_At.f k l0 99).bind fun bt229 => (if bt218.2.1 = t214 then (if bt221.2 = t214 then (if bt225.2 = t214 then (if bt229.2.2 = t214 then (if bt218.1 = 0 then (if (bt221.1.length : Int) = 0 then (if (bt225.1.length : Int) = 0 then (if (bt229.1 == 0 && (bt229.2.1 == 0)) = true then ((collect_Collector_From.f bt218.2.2).bind fun bt233 => (if bt233.1 = 1 then ((collect_Collector_Records.f bt233.2).bind fun bt235 => (some ((bt235.1.length : Int) == 0))) else (none))) else (none)) else (none)) else (none)) else (none)) else (none)) else (none)) else (none)) else (none)))))))) else (some false)))) = some r := by rw [if_pos rfl] at H; exact H
   clear H
   have H := H1
   clear H1
   replace H := Option.bind_eq_some_iff.mp H
   obtain ⟨t214, A60, H⟩ := H
   replace H : ((collect_Check.f k l0).bind fun t215 => (if t215 = t214 then (if t214 = 0 then (some true) else ((collect_New.f).bind fun t216 => ((collect_Collector_Take.f k t216 l0).bind fun bt218 => ((collect_Merge.f k l0 ([] : List (S42))).bind fun bt221 => ((collect_Between.f k l0 0 99).bind fun bt225 => ((collect_At.f k l0 99).bind fun bt229 => (if bt218.2.1 = t214 then (if bt221.2 = t214 then (if bt225.2 = t214 then (if bt229.2.2 = t214 then (if bt218.1 = 0 then (if (bt221.1.length : Int) = 0 then (if (bt225.1.length : Int) = 0 then (if (bt229.1 == 0 && (bt229.2.1 == 0)) = true then ((collect_Collector_From.f bt218.2.2).bind fun bt233 => (if bt233.1 = 1 then ((collect_Collector_Records.f bt233.2).bind fun bt235 => (some ((bt235.1.length : Int) == 0))) else (none))) else (none)) else (none)) else (none)) else (none)) else (none)) else (none)) else (none)) else (none)))))))) else (some false))) = some r := H
   have A6 := Aside0.mk A60
   clear A60
   replace H := Option.bind_eq_some_iff.mp H
   obtain ⟨t215, A70, H⟩ := H
   replace H : (if t215 = t214 then (if t214 = 0 then (some true) else ((collect_New.f).bind fun t216 => ((collect_Collector_Take.f k t216 l0).bind fun bt218 => ((collect_Merge.f k l0 ([] : List (S42))).bind fun bt221 => ((collect_Between.f k l0 0 99).bind fun bt225 => ((collect_At.f k l0 99).bind fun bt229 => (if bt218.2.1 = t214 then (if bt221.2 = t214 then (if bt225.2 = t214 then (if bt229.2.2 = t214 then (if bt218.1 = 0 then (if (bt221.1.length : Int) = 0 then (if (bt225.1.length : Int) = 0 then (if (bt229.1 == 0 && (bt229.2.1 == 0)) = true then ((collect_Collector_From.f bt218.2.2).bind fun bt233 => (if bt233.1 = 1 then ((collect_Collector_Records.f bt233.2).bind fun bt235 => (some ((bt235.1.length : Int) == 0))) else (none))) else (none)) else (none)) else (none)) else (none)) else (none)) else (none)) else (none)) else (none)))))))) else (some false)) = some r := H
   have A7 := Aside0.mk A70
   clear A70
   by_cases c8 : t215 = t214
   ·rw [if_pos c8] at H
    have c8b0 : (t215 == t214) = true := beq_iff_eq.mpr c8
    have c8b1 : (t215 != t214) = false := bne_eq_false_iff_eq.mpr c8
    clear c8
    by_cases c9 : t214 = 0
    ·rw [if_pos c9] at H
     have c9b0 : (t214 == 0) = true := beq_iff_eq.mpr c9
     have c9b1 : (t214 != 0) = false := bne_eq_false_iff_eq.mpr c9
     clear c9
     obtain rfl := Option.some.inj H
     go_enter Try.func9, Try.ntmps9
     go_wp2_with (first | ((with_reducible refine gate_callee (f := 10) rfl ?_); refine goesL_ (some 13) rfl rfl Try.func10 (by kernel_rfl) rfl #[] rfl (by (try simp only [List.map_toArray, List.map_cons, List.map_nil]); first | done | rfl | (simp only [List.length_drop, List.length_take]; rfl)) ?_; (with_reducible refine (plenumlaw42_awake.calls k  true _ A2.out).mono ?_); rintro e w10 ⟨rfl, hb⟩; refine ⟨_, rfl, ?_⟩; have n0_ := Aside0.mk (below_step (by repeat (first | (with_reducible first | exact HB.out | apply below_alloc | apply pw_below_drewN | apply below_drew1) | exact HB.out)) hb); clear HB; have HB := n0_; clear n0_; (try clear hb); (try clear hb2); (try clear hk); (try clear hi)) | ((with_reducible refine gate_callee (f := 24) rfl ?_); refine goesL_ (some 16) rfl rfl Try.func24 (by kernel_rfl) rfl #[.slice A0 l0.length c0] rfl (by (try simp only [List.map_toArray, List.map_cons, List.map_nil]); first | done | rfl | (simp only [List.length_drop, List.length_take]; rfl)) ?_; (with_reducible refine (plenumref42_Small.calls k _ _ l0 true _ ?side1 ?side2 A4.out).mono ?_); (case side1 => repeat (first | exact (Kd.C_below HR0.out HB.out) | (with_reducible refine Kd.C_alloc ?_ _) | (with_reducible refine Kd.C_drewN ?_ _) | (with_reducible refine Kd.C_drew ?_))); (case side2 => exact HC0.out); rintro e w' ⟨rfl, ⟨nd, rfl⟩⟩; refine ⟨_, rfl, ?_⟩) | ((with_reducible refine gate_callee (f := 25) rfl ?_); refine goesL_ (some 19) rfl rfl Try.func25 (by kernel_rfl) rfl #[.slice A0 l0.length c0] rfl (by (try simp only [List.map_toArray, List.map_cons, List.map_nil]); first | done | rfl | (simp only [List.length_drop, List.length_take]; rfl)) ?_; (with_reducible refine (plenumref42_Check.calls k _ _ l0 t214 _ ?side1 ?side2 A6.out).mono ?_); (case side1 => repeat (first | exact (Kd.C_below HR0.out (by repeat (first | (with_reducible first | exact HB.out | apply below_alloc | apply pw_below_drewN | apply below_drew1) | exact HB.out))) | (with_reducible refine Kd.C_alloc ?_ _) | (with_reducible refine Kd.C_drewN ?_ _) | (with_reducible refine Kd.C_drew ?_))); (case side2 => exact HC0.out); rintro e w11 ⟨rfl, hb⟩; refine ⟨_, rfl, ?_⟩; have n0_ := Aside0.mk (below_step (by repeat (first | (with_reducible first | exact HB.out | apply below_alloc | apply pw_below_drewN | apply below_drew1) | exact HB.out)) hb); clear HB; have HB := n0_; clear n0_; (try clear hb); (try clear hb2); (try clear hk); (try clear hi)) | ((with_reducible refine gate_callee (f := 21) rfl ?_); refine goesL_ (some 21) rfl rfl Try.func21 (by kernel_rfl) rfl #[.slice A0 l0.length c0] rfl (by (try simp only [List.map_toArray, List.map_cons, List.map_nil]); first | done | rfl | (simp only [List.length_drop, List.length_take]; rfl)) ?_; (with_reducible refine (collect_Check.calls k _ _ l0 t215 _ ?side1 ?side2 A7.out).mono ?_); (case side1 => repeat (first | exact (Kd.C_below HR0.out HB.out) | (with_reducible refine Kd.C_alloc ?_ _) | (with_reducible refine Kd.C_drewN ?_ _) | (with_reducible refine Kd.C_drew ?_))); (case side2 => exact HC0.out); rintro e w12 ⟨rfl, hb⟩; refine ⟨_, rfl, ?_⟩; have n0_ := Aside0.mk (below_step (by repeat (first | (with_reducible first | exact HB.out | apply below_alloc | apply pw_below_drewN | apply below_drew1) | exact HB.out)) hb); clear HB; have HB := n0_; clear n0_; (try clear hb); (try clear hb2); (try clear hk); (try clear hi)))
     go_ret
     exact ⟨by first | rfl | (simp [errW_none, errW_some] <;> rfl) | (simp [*, errW_none, errW_some] <;> rfl), by repeat (first | (with_reducible first | exact HB.out | apply below_alloc | apply pw_below_drewN | apply below_drew1) | exact HB.out)⟩
    ·rw [if_neg c9] at H
     have c9b0 : (t214 == 0) = false := beq_eq_false_iff_ne.mpr c9
     have c9b1 : (t214 != 0) = true := bne_iff_ne.mpr c9
     replace H := Option.bind_eq_some_iff.mp H
     obtain ⟨t216, A130, H⟩ := H
     replace H : ((collect_Collector_Take.f k t216 l0).bind fun bt218 => ((collect_Merge.f k l0 ([] : List (S42))).bind fun bt221 => ((collect_Between.f k l0 0 99).bind fun bt225 => ((collect_At.f k l0 99).bind fun bt229 => (if bt218.2.1 = t214 then (if bt221.2 = t214 then (if bt225.2 = t214 then (if bt229.2.2 = t214 then (if bt218.1 = 0 then (if (bt221.1.length : Int) = 0 then (if (bt225.1.length : Int) = 0 then (if (bt229.1 == 0 && (bt229.2.1 == 0)) = true then ((collect_Collector_From.f bt218.2.2).bind fun bt233 => (if bt233.1 = 1 then ((collect_Collector_Records.f bt233.2).bind fun bt235 => (some ((bt235.1.length : Int) == 0))) else (none))) else (none)) else (none)) else (none)) else (none)) else (none)) else (none)) else (none)) else (none)))))) = some r := H
     have A13 := Aside0.mk A130
     clear A130
     replace H := Option.bind_eq_some_iff.mp H
     obtain ⟨⟨t218, t219, t220⟩, A140, H⟩ := H
     replace H : ((collect_Merge.f k l0 ([] : List (S42))).bind fun bt221 => ((collect_Between.f k l0 0 99).bind fun bt225 => ((collect_At.f k l0 99).bind fun bt229 => (if t219 = t214 then (if bt221.2 = t214 then (if bt225.2 = t214 then (if bt229.2.2 = t214 then (if t218 = 0 then (if (bt221.1.length : Int) = 0 then (if (bt225.1.length : Int) = 0 then (if (bt229.1 == 0 && (bt229.2.1 == 0)) = true then ((collect_Collector_From.f t220).bind fun bt233 => (if bt233.1 = 1 then ((collect_Collector_Records.f bt233.2).bind fun bt235 => (some ((bt235.1.length : Int) == 0))) else (none))) else (none)) else (none)) else (none)) else (none)) else (none)) else (none)) else (none)) else (none))))) = some r := H
     have A14 := Aside0.mk A140
     clear A140
     replace H := Option.bind_eq_some_iff.mp H
     obtain ⟨⟨t221, t222⟩, A150, H⟩ := H
     replace H : ((collect_Between.f k l0 0 99).bind fun bt225 => ((collect_At.f k l0 99).bind fun bt229 => (if t219 = t214 then (if t222 = t214 then (if bt225.2 = t214 then (if bt229.2.2 = t214 then (if t218 = 0 then (if (t221.length : Int) = 0 then (if (bt225.1.length : Int) = 0 then (if (bt229.1 == 0 && (bt229.2.1 == 0)) = true then ((collect_Collector_From.f t220).bind fun bt233 => (if bt233.1 = 1 then ((collect_Collector_Records.f bt233.2).bind fun bt235 => (some ((bt235.1.length : Int) == 0))) else (none))) else (none)) else (none)) else (none)) else (none)) else (none)) else (none)) else (none)) else (none)))) = some r := H
     have A15 := Aside0.mk A150
     clear A150
     replace H := Option.bind_eq_some_iff.mp H
     obtain ⟨⟨t225, t226⟩, A160, H⟩ := H
     replace H : ((collect_At.f k l0 99).bind fun bt229 => (if t219 = t214 then (if t222 = t214 then (if t226 = t214 then (if bt229.2.2 = t214 then (if t218 = 0 then (if (t221.length : Int) = 0 then (if (t225.length : Int) = 0 then (if (bt229.1 == 0 && (bt229.2.1 == 0)) = true then ((collect_Collector_From.f t220).bind fun bt233 => (if bt233.1 = 1 then ((collect_Collector_Records.f bt233.2).bind fun bt235 => (some ((bt235.1.length : Int) == 0))) else (none))) else (none)) else (none)) else (none)) else (none)) else (none)) else (none)) else (none)) else (none))) = some r := H
     have A16 := Aside0.mk A160
     clear A160
     replace H := Option.bind_eq_some_iff.mp H
     obtain ⟨⟨t229, t230, t231⟩, A170, H⟩ := H
     replace H : (if t219 = t214 then (if t222 = t214 then (if t226 = t214 then (if t231 = t214 then (if t218 = 0 then (if (t221.length : Int) = 0 then (if (t225.length : Int) = 0 then (if (t229 == 0 && (t230 == 0)) = true then ((collect_Collector_From.f t220).bind fun bt233 => (if bt233.1 = 1 then ((collect_Collector_Records.f bt233.2).bind fun bt235 => (some ((bt235.1.length : Int) == 0))) else (none))) else (none)) else (none)) else (none)) else (none)) else (none)) else (none)) else (none)) else (none)) = some r := H
     have A17 := Aside0.mk A170
     clear A170
     by_cases c18 : t219 = t214
     ·rw [if_pos c18] at H
      have c18b0 : (t219 == t214) = true := beq_iff_eq.mpr c18
      have c18b1 : (t219 != t214) = false := bne_eq_false_iff_eq.mpr c18
      clear c18
      by_cases c19 : t222 = t214
      ·rw [if_pos c19] at H
       have c19b0 : (t222 == t214) = true := beq_iff_eq.mpr c19
       have c19b1 : (t222 != t214) = false := bne_eq_false_iff_eq.mpr c19
       clear c19
       by_cases c20 : t226 = t214
       ·rw [if_pos c20] at H
        have c20b0 : (t226 == t214) = true := beq_iff_eq.mpr c20
        have c20b1 : (t226 != t214) = false := bne_eq_false_iff_eq.mpr c20
        clear c20
        by_cases c21 : t231 = t214
        ·rw [if_pos c21] at H
         have c21b0 : (t231 == t214) = true := beq_iff_eq.mpr c21
         have c21b1 : (t231 != t214) = false := bne_eq_false_iff_eq.mpr c21
         clear c21
         by_cases c22 : t218 = 0
         ·rw [if_pos c22] at H
          have c22b0 : (t218 == 0) = true := beq_iff_eq.mpr c22
          have c22b1 : (t218 != 0) = false := bne_eq_false_iff_eq.mpr c22
          clear c22
          by_cases c23 : (t221.length : Int) = 0
          ·rw [if_pos c23] at H
           have c23b0 : ((t221.length : Int) == 0) = true := beq_iff_eq.mpr c23
           have c23b1 : ((t221.length : Int) != 0) = false := bne_eq_false_iff_eq.mpr c23
           clear c23
           by_cases c24 : (t225.length : Int) = 0
           ·rw [if_pos c24] at H
            have c24b0 : ((t225.length : Int) == 0) = true := beq_iff_eq.mpr c24
            have c24b1 : ((t225.length : Int) != 0) = false := bne_eq_false_iff_eq.mpr c24
            clear c24
            by_cases c25 : (t229 == 0 && (t230 == 0)) = true
            ·rw [if_pos c25] at H
             have c25b0 : (t229 == 0 && (t230 == 0)) = true := c25
             (try (have c25b1 : decide (t229 = 0 && (t230 == 0)) = true := by simpa using c25))
             (try (have c25b2 : (t229 == 0 && (t230 == 0)) = true := by simpa using c25))
             clear c25
             replace H := Option.bind_eq_some_iff.mp H
             obtain ⟨⟨t233, t234⟩, A260, H⟩ := H
             replace H : (if t233 = 1 then ((collect_Collector_Records.f t234).bind fun bt235 => (some ((bt235.1.length : Int) == 0))) else (none)) = some r := H
             have A26 := Aside0.mk A260
             clear A260
             by_cases c27 : t233 = 1
             ·rw [if_pos c27] at H
              have c27b0 : (t233 == 1) = true := beq_iff_eq.mpr c27
              have c27b1 : (t233 != 1) = false := bne_eq_false_iff_eq.mpr c27
              clear c27
              replace H := Option.bind_eq_some_iff.mp H
              obtain ⟨⟨t235, t238⟩, A280, H⟩ := H
              replace H : (some ((t235.length : Int) == 0)) = some r := H
              have A28 := Aside0.mk A280
              clear A280
              obtain rfl := Option.some.inj H
              go_enter Try.func9, Try.ntmps9
              go_wp2_with (first | ((with_reducible refine gate_callee (f := 10) rfl ?_); refine goesL_ (some 13) rfl rfl Try.func10 (by kernel_rfl) rfl #[] rfl (by (try simp only [List.map_toArray, List.map_cons, List.map_nil]); first | done | rfl | (simp only [List.length_drop, List.length_take]; rfl)) ?_; (with_reducible refine (plenumlaw42_awake.calls k  true _ A2.out).mono ?_); rintro e w29 ⟨rfl, hb⟩; refine ⟨_, rfl, ?_⟩; have n0_ := Aside0.mk (below_step (by repeat (first | (with_reducible first | exact HB.out | apply below_alloc | apply pw_below_drewN | apply below_drew1) | exact HB.out)) hb); clear HB; have HB := n0_; clear n0_; (try clear hb); (try clear hb2); (try clear hk); (try clear hi)) | ((with_reducible refine gate_callee (f := 24) rfl ?_); refine goesL_ (some 16) rfl rfl Try.func24 (by kernel_rfl) rfl #[.slice A0 l0.length c0] rfl (by (try simp only [List.map_toArray, List.map_cons, List.map_nil]); first | done | rfl | (simp only [List.length_drop, List.length_take]; rfl)) ?_; (with_reducible refine (plenumref42_Small.calls k _ _ l0 true _ ?side1 ?side2 A4.out).mono ?_); (case side1 => repeat (first | exact (Kd.C_below HR0.out HB.out) | (with_reducible refine Kd.C_alloc ?_ _) | (with_reducible refine Kd.C_drewN ?_ _) | (with_reducible refine Kd.C_drew ?_))); (case side2 => exact HC0.out); rintro e w' ⟨rfl, ⟨nd, rfl⟩⟩; refine ⟨_, rfl, ?_⟩; (try (rw [drewN_self w29]; generalize hq_ : World.drewN w29 _ = w29; have n0_ : Aside0 (Below w.heap.size w w29) := ⟨by rw [← hq_]; exact (by repeat (first | (with_reducible first | exact HB.out | apply below_alloc | apply pw_below_drewN | apply below_drew1) | exact HB.out))⟩; clear HB hq_; have HB := n0_; clear n0_))) | ((with_reducible refine gate_callee (f := 25) rfl ?_); refine goesL_ (some 19) rfl rfl Try.func25 (by kernel_rfl) rfl #[.slice A0 l0.length c0] rfl (by (try simp only [List.map_toArray, List.map_cons, List.map_nil]); first | done | rfl | (simp only [List.length_drop, List.length_take]; rfl)) ?_; (with_reducible refine (plenumref42_Check.calls k _ _ l0 t214 _ ?side1 ?side2 A6.out).mono ?_); (case side1 => repeat (first | exact (Kd.C_below HR0.out HB.out) | (with_reducible refine Kd.C_alloc ?_ _) | (with_reducible refine Kd.C_drewN ?_ _) | (with_reducible refine Kd.C_drew ?_))); (case side2 => exact HC0.out); rintro e w30 ⟨rfl, hb⟩; refine ⟨_, rfl, ?_⟩; have n0_ := Aside0.mk (below_step (by repeat (first | (with_reducible first | exact HB.out | apply below_alloc | apply pw_below_drewN | apply below_drew1) | exact HB.out)) hb); clear HB; have HB := n0_; clear n0_; (try clear hb); (try clear hb2); (try clear hk); (try clear hi)) | ((with_reducible refine gate_callee (f := 21) rfl ?_); refine goesL_ (some 21) rfl rfl Try.func21 (by kernel_rfl) rfl #[.slice A0 l0.length c0] rfl (by (try simp only [List.map_toArray, List.map_cons, List.map_nil]); first | done | rfl | (simp only [List.length_drop, List.length_take]; rfl)) ?_; (with_reducible refine (collect_Check.calls k _ _ l0 t215 _ ?side1 ?side2 A7.out).mono ?_); (case side1 => repeat (first | exact (Kd.C_below HR0.out HB.out) | (with_reducible refine Kd.C_alloc ?_ _) | (with_reducible refine Kd.C_drewN ?_ _) | (with_reducible refine Kd.C_drew ?_))); (case side2 => exact HC0.out); rintro e w31 ⟨rfl, hb⟩; refine ⟨_, rfl, ?_⟩; have n0_ := Aside0.mk (below_step (by repeat (first | (with_reducible first | exact HB.out | apply below_alloc | apply pw_below_drewN | apply below_drew1) | exact HB.out)) hb); clear HB; have HB := n0_; clear n0_; (try clear hb); (try clear hb2); (try clear hk); (try clear hi)) | ((with_reducible refine gate_callee (f := 12) rfl ?_); refine goesL_ (some 26) rfl rfl Try.func12 (by kernel_rfl) rfl #[] rfl (by (try simp only [List.map_toArray, List.map_cons, List.map_nil]); first | done | rfl | (simp only [List.length_drop, List.length_take]; rfl)) ?_; (with_reducible refine (collect_New.calls  t216 w _ ?side1 A13.out).mono ?_); (case side1 => repeat (first | (with_reducible first | exact HB.out | apply below_alloc | apply pw_below_drewN | apply below_drew1) | exact HB.out)); rintro e w32 ⟨g217, rfl, hi, hb, hb2⟩; refine ⟨_, rfl, ?_⟩; have n0_ := Aside0.mk (hb); have n1_ := Aside0.mk (hi); clear HB; have HB := n0_; have HI217 := n1_; clear n0_ n1_; (try clear hb); (try clear hb2); (try clear hk); (try clear hi)) | ((with_reducible refine gate_callee (f := 13) rfl ?_); refine goesL_ (some 30) rfl rfl Try.func13 (by kernel_rfl) rfl #[.pointer (some ⟨g217, 0, none⟩), .slice A0 l0.length c0] rfl (by (try simp only [List.map_toArray, List.map_cons, List.map_nil]); first | done | rfl | (simp only [List.length_drop, List.length_take]; rfl)) ?_; (with_reducible refine (collect_Collector_Take.calls k g217 t216 _ _ l0 t218 t219 t220 w _ ?side1 ?side2 ?side3 ?side4 A14.out).mono ?_); (case side1 => repeat (first | (with_reducible first | exact HI217.out | apply IsS58.alloc | apply IsS58.drewN | apply IsS58.drew | apply IsS58.set_0) | exact HI217.out)); (case side2 => repeat (first | (with_reducible first | exact HB.out | apply below_alloc | apply pw_below_drewN | apply below_drew1 | refine below_set ?_ (IsS58.ge HI217.out)) | exact HB.out)); (case side3 => exact Kd.C_foot_came k42_heap HR0.out (by repeat (first | (with_reducible first | exact HB.out | apply below_alloc | apply pw_below_drewN | apply below_drew1 | refine below_set ?_ (IsS58.ge HI217.out)) | exact HB.out)) (IsS58.ge HI217.out)); (case side4 => exact HC0.out); rintro e w33 ⟨rfl, hi, hb, hk⟩; refine ⟨_, rfl, ?_⟩; have n0_ := Aside0.mk (hb); have n1_ := Aside0.mk (hi); clear HB; clear HI217; have HB := n0_; have HI217 := n1_; clear n0_ n1_; (try clear hb); (try clear hb2); (try clear hk); (try clear hi)) | ((with_reducible refine gate_callee (f := 30) rfl ?_); refine goesL_ (some 35) rfl rfl Try.func30 (by kernel_rfl) rfl #[.slice A0 l0.length c0, .slice none 0 0] rfl (by (try simp only [List.map_toArray, List.map_cons, List.map_nil]); first | done | rfl | (simp only [List.length_drop, List.length_take]; rfl)) ?_; (refine (collect_Merge.calls k _ _ l0 _ _ ([] : List (S42)) t221 t222 _ ?side1 ?side2 ?side3 ?side4 A15.out).mono ?_); (case side1 => repeat (first | exact (Kd.C_below HR0.out HB.out) | (with_reducible refine Kd.C_alloc ?_ _) | (with_reducible refine Kd.C_drewN ?_ _) | (with_reducible refine Kd.C_drew ?_))); (case side2 => exact HC0.out); (case side3 => exact Kd.C_nil _ _); (case side4 => exact Nat.le_refl _); rintro e w34 ⟨v223, rfl, ho0, hb⟩; refine ⟨_, rfl, ?_⟩; have n0_ := Aside0.mk (Kd.R_lower ho0 (below_size (by repeat (first | (with_reducible first | exact HB.out | apply below_alloc | apply pw_below_drewN | apply below_drew1 | refine below_set ?_ (IsS58.ge HI217.out)) | exact HB.out)))); have n1_ := Aside0.mk (IsS58.below (by repeat (first | (with_reducible first | exact HI217.out | apply IsS58.alloc | apply IsS58.drewN | apply IsS58.drew | apply IsS58.set_0) | exact HI217.out)) hb); have n2_ := Aside0.mk (below_step (by repeat (first | (with_reducible first | exact HB.out | apply below_alloc | apply pw_below_drewN | apply below_drew1 | refine below_set ?_ (IsS58.ge HI217.out)) | exact HB.out)) hb); clear HI217; clear HB; have HO224 := n0_; have HI217 := n1_; have HB := n2_; clear n0_ n1_ n2_; (try clear hb); (try clear hb2); (try clear hk); (try clear hi); (try clear ho0)) | ((with_reducible refine gate_callee (f := 26) rfl ?_); refine goesL_ (some 40) rfl rfl Try.func26 (by kernel_rfl) rfl #[.slice A0 l0.length c0, .int .i64 0, .int .i64 99] rfl (by (try simp only [List.map_toArray, List.map_cons, List.map_nil]); first | done | rfl | (simp only [List.length_drop, List.length_take]; rfl)) ?_; (with_reducible refine (collect_Between.calls k _ _ l0 0 99 t225 t226 _ ?side1 ?side2 A16.out).mono ?_); (case side1 => repeat (first | exact (Kd.C_below HR0.out HB.out) | (with_reducible refine Kd.C_alloc ?_ _) | (with_reducible refine Kd.C_drewN ?_ _) | (with_reducible refine Kd.C_drew ?_))); (case side2 => exact HC0.out); rintro e w35 ⟨v227, rfl, ho0, hb⟩; refine ⟨_, rfl, ?_⟩; have n0_ := Aside0.mk (Kd.R_elder' (by (with_reducible repeat (first | apply Kd.R_alloc | apply Kd.R_drewN | apply Kd.R_drew)); exact HO224.out) (Kd.R_base ho0) hb); have n1_ := Aside0.mk (Kd.R_lower (Kd.R_new' ho0 (Kd.R_lt (by (with_reducible repeat (first | apply Kd.R_alloc | apply Kd.R_drewN | apply Kd.R_drew)); exact HO224.out))) (below_size (by repeat (first | (with_reducible first | exact HB.out | apply below_alloc | apply pw_below_drewN | apply below_drew1 | refine below_set ?_ (IsS58.ge HI217.out)) | exact HB.out)))); have n2_ := Aside0.mk (IsS58.below (by repeat (first | (with_reducible first | exact HI217.out | apply IsS58.alloc | apply IsS58.drewN | apply IsS58.drew | apply IsS58.set_0) | exact HI217.out)) hb); have n3_ := Aside0.mk (below_step (by repeat (first | (with_reducible first | exact HB.out | apply below_alloc | apply pw_below_drewN | apply below_drew1 | refine below_set ?_ (IsS58.ge HI217.out)) | exact HB.out)) hb); clear HO224; clear HI217; clear HB; have HO224 := n0_; have HO228 := n1_; have HI217 := n2_; have HB := n3_; clear n0_ n1_ n2_ n3_; (try clear hb); (try clear hb2); (try clear hk); (try clear hi); (try clear ho0)) | ((with_reducible refine gate_callee (f := 27) rfl ?_); refine goesL_ (some 45) rfl rfl Try.func27 (by kernel_rfl) rfl #[.slice A0 l0.length c0, .int .i64 99] rfl (by (try simp only [List.map_toArray, List.map_cons, List.map_nil]); first | done | rfl | (simp only [List.length_drop, List.length_take]; rfl)) ?_; (with_reducible refine (collect_At.calls k _ _ l0 99 t229 t230 t231 _ ?side1 ?side2 A17.out).mono ?_); (case side1 => repeat (first | exact (Kd.C_below HR0.out HB.out) | (with_reducible refine Kd.C_alloc ?_ _) | (with_reducible refine Kd.C_drewN ?_ _) | (with_reducible refine Kd.C_drew ?_))); (case side2 => exact HC0.out); rintro e w36 ⟨rfl, hb⟩; refine ⟨_, rfl, ?_⟩; have n0_ := Aside0.mk (Kd.R_below (by (with_reducible repeat (first | apply Kd.R_alloc | apply Kd.R_drewN | apply Kd.R_drew)); exact HO224.out) hb); have n1_ := Aside0.mk (Kd.R_below (by (with_reducible repeat (first | apply Kd.R_alloc | apply Kd.R_drewN | apply Kd.R_drew)); exact HO228.out) hb); have n2_ := Aside0.mk (IsS58.below (by repeat (first | (with_reducible first | exact HI217.out | apply IsS58.alloc | apply IsS58.drewN | apply IsS58.drew | apply IsS58.set_0) | exact HI217.out)) hb); have n3_ := Aside0.mk (below_step (by repeat (first | (with_reducible first | exact HB.out | apply below_alloc | apply pw_below_drewN | apply below_drew1 | refine below_set ?_ (IsS58.ge HI217.out)) | exact HB.out)) hb); clear HO224; clear HO228; clear HI217; clear HB; have HO224 := n0_; have HO228 := n1_; have HI217 := n2_; have HB := n3_; clear n0_ n1_ n2_ n3_; (try clear hb); (try clear hb2); (try clear hk); (try clear hi)) | ((with_reducible refine gate_dst (N := 11) rfl ?_); refine box_event ?hg (N := 11) ?hd (cs := #[.int .i64 0, .int .i64 0]) (t := 40) ?hr ?_; (case hd => rfl); (case hg => rfl); (case hr => first | (go_simp; done) | (go_simp; rfl)); intro gb232 hg w37 hbox hb; have n0_ := Aside0.mk (Kd.R_below (by (with_reducible repeat (first | apply Kd.R_alloc | apply Kd.R_drewN | apply Kd.R_drew)); exact HO224.out) hb); have n1_ := Aside0.mk (Kd.R_below (by (with_reducible repeat (first | apply Kd.R_alloc | apply Kd.R_drewN | apply Kd.R_drew)); exact HO228.out) hb); have n2_ := Aside0.mk (IsS58.below (by repeat (first | (with_reducible first | exact HI217.out | apply IsS58.alloc | apply IsS58.drewN | apply IsS58.drew | apply IsS58.set_0) | exact HI217.out)) hb); have n3_ := Aside0.mk (below_step (by repeat (first | (with_reducible first | exact HB.out | apply below_alloc | apply pw_below_drewN | apply below_drew1 | refine below_set ?_ (IsS58.ge HI217.out)) | exact HB.out)) hb); have n4_ := Aside0.mk (hbox); have n5_ := Aside0.mk ((by rw [hg]; exact (below_size (by repeat (first | (with_reducible first | exact HB.out | apply below_alloc | apply pw_below_drewN | apply below_drew1 | refine below_set ?_ (IsS58.ge HI217.out)) | exact HB.out))) : w.heap.size ≤ gb232)); have n6_ := Aside0.mk ((by rw [hg]; exact (below_size (by repeat (first | (with_reducible first | exact HB.out | apply below_alloc | apply pw_below_drewN | apply below_drew1 | refine below_set ?_ (IsS58.ge HI217.out)) | exact HB.out))) : w.heap.size ≤ gb232)); have n7_ := Aside0.mk ((by rw [hg]; exact Nat.ne_of_lt (IsS58.lt (show IsS58 w _ g217 t220 from by repeat (first | (with_reducible first | exact HI217.out | apply IsS58.alloc | apply IsS58.drewN | apply IsS58.drew | apply IsS58.set_0) | exact HI217.out))) : g217 ≠ gb232)); have n8_ := Aside0.mk ((by rw [hg]; exact Nat.ne_of_gt (IsS58.lt (show IsS58 w _ g217 t220 from by repeat (first | (with_reducible first | exact HI217.out | apply IsS58.alloc | apply IsS58.drewN | apply IsS58.drew | apply IsS58.set_0) | exact HI217.out))) : gb232 ≠ g217)); clear HO224; clear HO228; clear HI217; clear HB; have HO224 := n0_; have HO228 := n1_; have HI217 := n2_; have HB := n3_; have BK232 := n4_; have GW232 := n5_; have GE232 := n6_; have NB217_232 := n7_; have NB232_217 := n8_; clear n0_ n1_ n2_ n3_ n4_ n5_ n6_ n7_ n8_; clear hb hbox hg; have hnb38 := NB232_217.out; have hnc38 := NB217_232.out; have hcz39_0 : w37.cell? ⟨gb232, 0, none⟩ = some (.int .i64 0) := (blk_cell BK232.out 0).trans rfl; have hcz39_1 : w37.cell? ⟨gb232, 1, none⟩ = some (.int .i64 0) := (blk_cell BK232.out 1).trans rfl; have hfz39_0 := blk_frozen BK232.out 0; have hfz39_1 := blk_frozen BK232.out 1; obtain ⟨Ao40, co40, eo40⟩ := Kd.R_slice HO224.out; subst eo40; obtain ⟨Ao41, co41, eo41⟩ := Kd.R_slice HO228.out; subst eo41) | (go_at_call 15; (with_reducible refine (collect_Collector_From.calls g217 t220 t233 t234 w _ ?side1 ?side2 A26.out).mono ?_); (case side1 => repeat (first | (with_reducible first | exact HI217.out | apply IsS58.alloc | apply IsS58.drewN | apply IsS58.drew | apply IsS58.set_0 | exact IsS58.far2 HI217.out BK232.out (by decide) _ _ _ _) | exact HI217.out)); (case side2 => repeat (first | (with_reducible first | exact HB.out | apply below_alloc | apply pw_below_drewN | apply below_drew1 | refine below_set ?_ (IsS58.ge HI217.out) | refine below_set ?_ GE232.out) | exact HB.out)); rintro e w42 ⟨rfl, hi, hb, hk⟩; have n0_ := Aside0.mk (Kd.R_mono (Kd.R_keep (IsS58.apart (show IsS58 w _ g217 t220 from by repeat (first | (with_reducible first | exact HI217.out | apply IsS58.alloc | apply IsS58.drewN | apply IsS58.drew | apply IsS58.set_0 | exact IsS58.far2 HI217.out BK232.out (by decide) _ _ _ _) | exact HI217.out)) (by (with_reducible repeat (first | apply Kd.R_alloc | apply Kd.R_drewN | apply Kd.R_drew)); exact (Kd.R_mono (Kd.R_far (p := ⟨gb232, 1, none⟩) (Kd.R_far (p := ⟨gb232, 0, none⟩) (Kd.R_types HO224.out BK232.out (by decide)) (fun _ hk => hk.2) (.int .i64 t229)) (fun _ hk => hk.2) (.int .i64 t230)) (fun _ h_ => h_.1))) (by decide)) hk (fun _ h => h.2)) (fun _ h => h.1)); have n1_ := Aside0.mk (Kd.R_mono (Kd.R_keep (IsS58.apart (show IsS58 w _ g217 t220 from by repeat (first | (with_reducible first | exact HI217.out | apply IsS58.alloc | apply IsS58.drewN | apply IsS58.drew | apply IsS58.set_0 | exact IsS58.far2 HI217.out BK232.out (by decide) _ _ _ _) | exact HI217.out)) (by (with_reducible repeat (first | apply Kd.R_alloc | apply Kd.R_drewN | apply Kd.R_drew)); exact (Kd.R_mono (Kd.R_far (p := ⟨gb232, 1, none⟩) (Kd.R_far (p := ⟨gb232, 0, none⟩) (Kd.R_types HO228.out BK232.out (by decide)) (fun _ hk => hk.2) (.int .i64 t229)) (fun _ hk => hk.2) (.int .i64 t230)) (fun _ h_ => h_.1))) (by decide)) hk (fun _ h => h.2)) (fun _ h => h.1)); have n2_ := Aside0.mk (KeepBut.blk hk (g' := gb232) (o := .cells #[.int .i64 t229, .int .i64 t230] 40 (0, 0)) (by (with_reducible repeat (first | refine blk_drewN ?_ _ | refine blk_drew ?_ | refine blk_alloc ?_ _)); refine blk_put (cs := #[.int .i64 t229, .int .i64 0]) ?_ 1 _ rfl; (with_reducible repeat (first | refine blk_drewN ?_ _ | refine blk_drew ?_ | refine blk_alloc ?_ _)); refine blk_put (cs := #[.int .i64 0, .int .i64 0]) ?_ 0 _ rfl; (with_reducible repeat (first | refine blk_drewN ?_ _ | refine blk_drew ?_ | refine blk_alloc ?_ _)); exact BK232.out) NB232_217.out (by simp)); have n3_ := Aside0.mk (hb); have n4_ := Aside0.mk (hi); clear HO224; clear HO228; clear BK232; clear HB; clear HI217; have HO224 := n0_; have HO228 := n1_; have BK232 := n2_; have HB := n3_; have HI217 := n4_; clear n0_ n1_ n2_ n3_ n4_; (try clear hb); (try clear hb2); (try clear hk); (try clear hi)) | (go_at_call 20; (with_reducible refine (collect_Collector_Records.calls g217 t234 t235 t238 w _ ?side1 ?side2 A28.out).mono ?_); (case side1 => repeat (first | (with_reducible first | exact HI217.out | apply IsS58.alloc | apply IsS58.drewN | apply IsS58.drew | apply IsS58.set_0 | exact IsS58.far2 HI217.out BK232.out (by decide) _ _ _ _) | exact HI217.out)); (case side2 => repeat (first | (with_reducible first | exact HB.out | apply below_alloc | apply pw_below_drewN | apply below_drew1 | refine below_set ?_ (IsS58.ge HI217.out) | refine below_set ?_ GE232.out) | exact HB.out)); rintro e w43 ⟨v236, rfl, ho0, hi, hb, hk⟩; have n0_ := Aside0.mk (Kd.R_mono (Kd.R_told (Kd.R_oldK (IsS58.apart (show IsS58 w _ g217 t234 from by repeat (first | (with_reducible first | exact HI217.out | apply IsS58.alloc | apply IsS58.drewN | apply IsS58.drew | apply IsS58.set_0 | exact IsS58.far2 HI217.out BK232.out (by decide) _ _ _ _) | exact HI217.out)) (by (with_reducible repeat (first | apply Kd.R_alloc | apply Kd.R_drewN | apply Kd.R_drew)); exact HO224.out) (by decide)) hk) (Kd.R_base ho0)) (fun _ h_ => h_.1)); have n1_ := Aside0.mk (Kd.R_mono (Kd.R_told (Kd.R_oldK (IsS58.apart (show IsS58 w _ g217 t234 from by repeat (first | (with_reducible first | exact HI217.out | apply IsS58.alloc | apply IsS58.drewN | apply IsS58.drew | apply IsS58.set_0 | exact IsS58.far2 HI217.out BK232.out (by decide) _ _ _ _) | exact HI217.out)) (by (with_reducible repeat (first | apply Kd.R_alloc | apply Kd.R_drewN | apply Kd.R_drew)); exact HO228.out) (by decide)) hk) (Kd.R_base ho0)) (fun _ h_ => h_.1)); have n2_ := Aside0.mk (KeepBut.blk hk (g' := gb232) (o := .cells #[.int .i64 t229, .int .i64 t230] 40 (0, 0)) (by (with_reducible repeat (first | refine blk_drewN ?_ _ | refine blk_drew ?_ | refine blk_alloc ?_ _)); exact BK232.out) NB232_217.out (by simp)); have n3_ := Aside0.mk (Kd.R_lower (Kd.R_new' (Kd.R_new' ho0 (Kd.R_lt (by (with_reducible repeat (first | apply Kd.R_alloc | apply Kd.R_drewN | apply Kd.R_drew)); exact HO224.out))) (Kd.R_lt (by (with_reducible repeat (first | apply Kd.R_alloc | apply Kd.R_drewN | apply Kd.R_drew)); exact HO228.out))) (below_size (by repeat (first | (with_reducible first | exact HB.out | apply below_alloc | apply pw_below_drewN | apply below_drew1 | refine below_set ?_ (IsS58.ge HI217.out) | refine below_set ?_ GE232.out) | exact HB.out)))); have n4_ := Aside0.mk (hb); have n5_ := Aside0.mk (hi); clear HO224; clear HO228; clear BK232; clear HB; clear HI217; have HO224 := n0_; have HO228 := n1_; have BK232 := n2_; have HO237 := n3_; have HB := n4_; have HI217 := n5_; clear n0_ n1_ n2_ n3_ n4_ n5_; (try clear hb); (try clear hb2); (try clear hk); (try clear hi); (try clear ho0); obtain ⟨Ao44, co44, eo44⟩ := Kd.R_slice HO237.out; subst eo44))
              go_ret
              exact ⟨by first | rfl | (simp [errW_none, errW_some] <;> rfl) | (simp [*, errW_none, errW_some] <;> rfl), by repeat (first | (with_reducible first | exact HB.out | apply below_alloc | apply pw_below_drewN | apply below_drew1 | refine below_set ?_ (IsS58.ge HI217.out) | refine below_set ?_ GE232.out) | exact HB.out)⟩
             ·rw [if_neg c27] at H
              exact absurd H (by simp)
            ·rw [if_neg c25] at H
             exact absurd H (by simp)
           ·rw [if_neg c24] at H
            exact absurd H (by simp)
          ·rw [if_neg c23] at H
           exact absurd H (by simp)
         ·rw [if_neg c22] at H
          exact absurd H (by simp)
        ·rw [if_neg c21] at H
         exact absurd H (by simp)
       ·rw [if_neg c20] at H
        exact absurd H (by simp)
      ·rw [if_neg c19] at H
       exact absurd H (by simp)
     ·rw [if_neg c18] at H
      exact absurd H (by simp)
   ·rw [if_neg c8] at H
    have c8b0 : (t215 == t214) = false := beq_eq_false_iff_ne.mpr c8
    have c8b1 : (t215 != t214) = true := bne_iff_ne.mpr c8
    obtain rfl := Option.some.inj H
    go_enter Try.func9, Try.ntmps9
    go_wp2_with (first | ((with_reducible refine gate_callee (f := 10) rfl ?_); refine goesL_ (some 13) rfl rfl Try.func10 (by kernel_rfl) rfl #[] rfl (by (try simp only [List.map_toArray, List.map_cons, List.map_nil]); first | done | rfl | (simp only [List.length_drop, List.length_take]; rfl)) ?_; (with_reducible refine (plenumlaw42_awake.calls k  true _ A2.out).mono ?_); rintro e w45 ⟨rfl, hb⟩; refine ⟨_, rfl, ?_⟩; have n0_ := Aside0.mk (below_step (by repeat (first | (with_reducible first | exact HB.out | apply below_alloc | apply pw_below_drewN | apply below_drew1) | exact HB.out)) hb); clear HB; have HB := n0_; clear n0_; (try clear hb); (try clear hb2); (try clear hk); (try clear hi)) | ((with_reducible refine gate_callee (f := 24) rfl ?_); refine goesL_ (some 16) rfl rfl Try.func24 (by kernel_rfl) rfl #[.slice A0 l0.length c0] rfl (by (try simp only [List.map_toArray, List.map_cons, List.map_nil]); first | done | rfl | (simp only [List.length_drop, List.length_take]; rfl)) ?_; (with_reducible refine (plenumref42_Small.calls k _ _ l0 true _ ?side1 ?side2 A4.out).mono ?_); (case side1 => repeat (first | exact (Kd.C_below HR0.out HB.out) | (with_reducible refine Kd.C_alloc ?_ _) | (with_reducible refine Kd.C_drewN ?_ _) | (with_reducible refine Kd.C_drew ?_))); (case side2 => exact HC0.out); rintro e w' ⟨rfl, ⟨nd, rfl⟩⟩; refine ⟨_, rfl, ?_⟩) | ((with_reducible refine gate_callee (f := 25) rfl ?_); refine goesL_ (some 19) rfl rfl Try.func25 (by kernel_rfl) rfl #[.slice A0 l0.length c0] rfl (by (try simp only [List.map_toArray, List.map_cons, List.map_nil]); first | done | rfl | (simp only [List.length_drop, List.length_take]; rfl)) ?_; (with_reducible refine (plenumref42_Check.calls k _ _ l0 t214 _ ?side1 ?side2 A6.out).mono ?_); (case side1 => repeat (first | exact (Kd.C_below HR0.out (by repeat (first | (with_reducible first | exact HB.out | apply below_alloc | apply pw_below_drewN | apply below_drew1) | exact HB.out))) | (with_reducible refine Kd.C_alloc ?_ _) | (with_reducible refine Kd.C_drewN ?_ _) | (with_reducible refine Kd.C_drew ?_))); (case side2 => exact HC0.out); rintro e w46 ⟨rfl, hb⟩; refine ⟨_, rfl, ?_⟩; have n0_ := Aside0.mk (below_step (by repeat (first | (with_reducible first | exact HB.out | apply below_alloc | apply pw_below_drewN | apply below_drew1) | exact HB.out)) hb); clear HB; have HB := n0_; clear n0_; (try clear hb); (try clear hb2); (try clear hk); (try clear hi)) | ((with_reducible refine gate_callee (f := 21) rfl ?_); refine goesL_ (some 21) rfl rfl Try.func21 (by kernel_rfl) rfl #[.slice A0 l0.length c0] rfl (by (try simp only [List.map_toArray, List.map_cons, List.map_nil]); first | done | rfl | (simp only [List.length_drop, List.length_take]; rfl)) ?_; (with_reducible refine (collect_Check.calls k _ _ l0 t215 _ ?side1 ?side2 A7.out).mono ?_); (case side1 => repeat (first | exact (Kd.C_below HR0.out HB.out) | (with_reducible refine Kd.C_alloc ?_ _) | (with_reducible refine Kd.C_drewN ?_ _) | (with_reducible refine Kd.C_drew ?_))); (case side2 => exact HC0.out); rintro e w47 ⟨rfl, hb⟩; refine ⟨_, rfl, ?_⟩; have n0_ := Aside0.mk (below_step (by repeat (first | (with_reducible first | exact HB.out | apply below_alloc | apply pw_below_drewN | apply below_drew1) | exact HB.out)) hb); clear HB; have HB := n0_; clear n0_; (try clear hb); (try clear hb2); (try clear hk); (try clear hi)))
    go_ret
    exact ⟨by first | rfl | (simp [errW_none, errW_some] <;> rfl) | (simp [*, errW_none, errW_some] <;> rfl), by repeat (first | (with_reducible first | exact HB.out | apply below_alloc | apply pw_below_drewN | apply below_drew1) | exact HB.out)⟩
  ·replace c5 := Bool.eq_false_iff.mpr c5
   subst c5
   have H1 : (some true) = some r := by rw [if_neg (show ¬ (false = true) by decide)] at H; exact H
   clear H
   have H := H1
   clear H1
   obtain rfl := Option.some.inj H
   go_enter Try.func9, Try.ntmps9
   go_wp2_with (first | ((with_reducible refine gate_callee (f := 10) rfl ?_); refine goesL_ (some 13) rfl rfl Try.func10 (by kernel_rfl) rfl #[] rfl (by (try simp only [List.map_toArray, List.map_cons, List.map_nil]); first | done | rfl | (simp only [List.length_drop, List.length_take]; rfl)) ?_; (with_reducible refine (plenumlaw42_awake.calls k  true _ A2.out).mono ?_); rintro e w48 ⟨rfl, hb⟩; refine ⟨_, rfl, ?_⟩; have n0_ := Aside0.mk (below_step (by repeat (first | (with_reducible first | exact HB.out | apply below_alloc | apply pw_below_drewN | apply below_drew1) | exact HB.out)) hb); clear HB; have HB := n0_; clear n0_; (try clear hb); (try clear hb2); (try clear hk); (try clear hi)) | ((with_reducible refine gate_callee (f := 24) rfl ?_); refine goesL_ (some 16) rfl rfl Try.func24 (by kernel_rfl) rfl #[.slice A0 l0.length c0] rfl (by (try simp only [List.map_toArray, List.map_cons, List.map_nil]); first | done | rfl | (simp only [List.length_drop, List.length_take]; rfl)) ?_; (with_reducible refine (plenumref42_Small.calls k _ _ l0 false _ ?side1 ?side2 A4.out).mono ?_); (case side1 => repeat (first | exact (Kd.C_below HR0.out HB.out) | (with_reducible refine Kd.C_alloc ?_ _) | (with_reducible refine Kd.C_drewN ?_ _) | (with_reducible refine Kd.C_drew ?_))); (case side2 => exact HC0.out); rintro e w' ⟨rfl, ⟨nd, rfl⟩⟩; refine ⟨_, rfl, ?_⟩))
   go_ret
   exact ⟨by first | rfl | (simp [errW_none, errW_some] <;> rfl) | (simp [*, errW_none, errW_some] <;> rfl), by repeat (first | (with_reducible first | exact HB.out | apply below_alloc | apply pw_below_drewN | apply below_drew1) | exact HB.out)⟩
 ·replace c3 := Bool.eq_false_iff.mpr c3
  subst c3
  have H1 : (some false) = some r := by rw [if_neg (show ¬ (false = true) by decide)] at H; exact H
  clear H
  have H := H1
  clear H1
  obtain rfl := Option.some.inj H
  go_enter Try.func9, Try.ntmps9
  go_wp2_with (first | ((with_reducible refine gate_callee (f := 10) rfl ?_); refine goesL_ (some 13) rfl rfl Try.func10 (by kernel_rfl) rfl #[] rfl (by (try simp only [List.map_toArray, List.map_cons, List.map_nil]); first | done | rfl | (simp only [List.length_drop, List.length_take]; rfl)) ?_; (with_reducible refine (plenumlaw42_awake.calls k  false _ A2.out).mono ?_); rintro e w49 ⟨rfl, hb⟩; refine ⟨_, rfl, ?_⟩; have n0_ := Aside0.mk (below_step (by repeat (first | (with_reducible first | exact HB.out | apply below_alloc | apply pw_below_drewN | apply below_drew1) | exact HB.out)) hb); clear HB; have HB := n0_; clear n0_; (try clear hb); (try clear hb2); (try clear hk); (try clear hi)))
  go_ret
  exact ⟨by first | rfl | (simp [errW_none, errW_some] <;> rfl) | (simp [*, errW_none, errW_some] <;> rfl), by repeat (first | (with_reducible first | exact HB.out | apply below_alloc | apply pw_below_drewN | apply below_drew1) | exact HB.out)⟩

end Go.Proofs.Yteclemahimldeaa.K
