-- Written by pp.py (a program of this session, over the kit's print.py) out of the translation. Not trusted: Lean checks it.
import Derived.Test.YtbecejhjdagkdaaLx0
namespace Go.Proofs.Ytbecejhjdagkdaa.L
open Go.RowKit Go.Proofs.YtbecejhjdagkdaaW.PrintWords Go.Proofs.YtbecejhjdagkdaaW.PrintLast Go.Proofs.YtbecejhjdagkdaaW.PrintMore
attribute [local go_sem] max2_int min2_int max_two min_two max_three min_three max_four min_four   -- for this text's walks alone
attribute [local go_sem] pp_mod256 pp_mod256_w
set_option linter.unusedVariables false
set_option linter.unusedSimpArgs false


/-! ### leadlag_Unit_45: function 45 -/
/-- A call of a function value that is known: what it captured stands behind the arguments. -/
theorem goesV_ {P : Program} {ops : Array Oper} {Q : Exit→Act→World→Prop} {rest : List Oper} {oi : Oper} {a : Act} {w : World} (N : Option Tmp) (hd : oi.dst = N) (hg : oi.guard = none) {f : FuncId} {fn : Func} {as_ : Array Operand} {ts : Array TypeId} {t : Operand} {caps : Array Value} (hf : P.funcs[f]? = some fn) (hname : (fn.name == "runtime.NumGoroutine") = false) (hb : fn.body.isSome = true) (args : Array Value)
  (hop : oi.op = .call { callee:=.value t,args:=as_,argTypes:=ts }) (ht : a.eval t = .func (.func f) #[] caps) (hargs : as_.map a.eval = args)
  (h : Calls P f (args ++ caps) w fun e w' => ∃ v,e = .returned v∧wpList P ops Q rest (a.put N v) w') : wpList P ops Q (oi :: rest) a w:=by
 refine wpList_plain hg fun K hK => ?_
 have he:=enters_ hf hname hb (args ++ caps) w
 have hrun : (execOp a.eval oi).run P w = .ok (.enter f (args ++ caps)) w:=by
  unfold execOp
  simp [hop,resolve,Deferred.ofValue,invoke,hargs,ht,he]
 unfold Oper.wp
 rw [hrun,Oper.upon_enter]
 refine h.mono fun e w'' hh => ?_
 obtain ⟨v,rfl,hk⟩:=hh
 subst hd
 exact hK _ _ hk
theorem gate_value {P : Program} {ops : Array Oper} {Q : Exit→Act→World→Prop} {rest : List Oper} {o : Oper} {a : Act} {W : World} {t : Tmp} {as_ : Array Operand} {ts : Array TypeId} (_ho : o.op = .call { callee:=.value (.tmp t),args:=as_,argTypes:=ts }) (h : wpList P ops Q (o :: rest) a W) : wpList P ops Q (o :: rest) a W:=h
/-- The same in a region whose order is open. -/
theorem goesW_ {P : Program} {ops : Array Oper} {Q : Exit→Act→World→Prop} {oi : Oper} {N : Option Tmp} {a : Act} {w : World} {K : Act→World→Prop} {f : FuncId} {fn : Func} {as_ : Array Operand} {ts : Array TypeId} {t : Operand} {caps : Array Value} (hf : P.funcs[f]? = some fn) (hname : (fn.name == "runtime.NumGoroutine") = false) (hb : fn.body.isSome = true) (args : Array Value)
  (hw : Region.wanted oi (yielded ops a.tmps) = true) (hN : oi.dst = N) (hop : oi.op = .call { callee:=.value t,args:=as_,argTypes:=ts }) (ht : a.eval t = .func (.func f) #[] caps) (hargs : as_.map a.eval = args)
  (h : Calls P f (args ++ caps) w fun e w' => ∃ v,e = .returned v∧K (a.put N v) w') : if Region.wanted oi (yielded ops a.tmps) = true then Oper.wp P oi a w K Q else K (a.put N undef) w:=by
 refine call_ f (args ++ caps) hw hN ?_ h
 have he:=enters_ hf hname hb (args ++ caps) w
 unfold execOp
 simp [hop,resolve,Deferred.ofValue,invoke,hargs,ht,he]

/-! #### 45 -/
def leadlag_Unit_45.l0 (pf : Int→Bool→Bool→Option Bool) : Nat→List (S62)→Int→Int→Option (Int)
 | 0,_,_,_ => none
 | k + 1,x0,x7,x8 => if x8 < x7 then (if 0 ≤ x8 then (if x8 < (x0.length : Int) then ((pf ((rd_T62 x0 x8).f0) ((rd_T62 x0 x8).f1) ((rd_T62 x0 x8).f2)).bind fun t113 => (if t113 = true then (some x8) else (leadlag_Unit_45.l0 pf k x0 x7 (wrap64 (x8 + 1))))) else (none)) else (none)) else (some (-1))
def leadlag_Unit_45.f (pf : Int→Bool→Bool→Option Bool) (k : Nat) (l0 : List (S62)) : Option (Int):=leadlag_Unit_45.l0 pf k l0 (l0.length : Int) 0
theorem leadlag_Unit_45.mono_l (pf : Int→Bool→Bool→Option Bool) : ∀ k,(∀ y0 y1 y2,LeO (leadlag_Unit_45.l0 pf k y0 y1 y2) (leadlag_Unit_45.l0 pf (k + 1) y0 y1 y2))
 | 0 => fun _ _ _ r h => by simp [leadlag_Unit_45.l0] at h
 | k + 1 => by
  have ih0:=leadlag_Unit_45.mono_l pf k
  ·intro y0 y1 y2
   unfold leadlag_Unit_45.l0
   repeat' first
   | (with_reducible exact ih0 _ _ _)
   | (with_reducible exact LeO.refl _)
   | (with_reducible exact LeO.none _)
   | (with_reducible refine LeO.ite ?_ ?_)
   | (with_reducible refine LeO.bind ?_ (fun _ => ?_))
   | exact ih0 _ _ _
   | exact LeO.none _
   | refine LeO.ite ?_ ?_
   | refine LeO.bind ?_ (fun _ => ?_)
theorem leadlag_Unit_45.mono (pf : Int→Bool→Bool→Option Bool) : ∀ a0 k,LeO (leadlag_Unit_45.f pf k a0) (leadlag_Unit_45.f pf (k + 1) a0):=by
 intro a0 k
 have ih0:=leadlag_Unit_45.mono_l pf k
 unfold leadlag_Unit_45.f
 repeat' first
   | (with_reducible exact ih0 _ _ _)
   | (with_reducible exact LeO.refl _)
   | (with_reducible exact LeO.none _)
   | (with_reducible refine LeO.ite ?_ ?_)
   | (with_reducible refine LeO.bind ?_ (fun _ => ?_))
   | exact ih0 _ _ _
   | exact LeO.none _
   | refine LeO.ite ?_ ?_
   | refine LeO.bind ?_ (fun _ => ?_)
set_option maxHeartbeats 8000000 in
set_option maxRecDepth 100000 in
theorem leadlag_Unit_45.calls (pf : Int→Bool→Bool→Option Bool) (F : FuncId) (fnF : Func) (caps : Array Value) (hF : Try.prog.funcs[F]? = some fnF) (hFn : (fnF.name == "runtime.NumGoroutine") = false) (hFb : fnF.body.isSome = true) (k : Nat) (A0 : Option Addr) (c0 : Nat) (l0 : List (S62)) (r : Int) (w : World) (hP : ∀ W_ : World,Below w.heap.size w W_→∀ (x : Int) (y z v : Bool),pf x y z = some v→Calls Try.prog F (#[.agg #[.int .i64 x,.bool y,.bool z]] ++ caps) W_ fun e W2 => e = .returned (.bool v)∧Below W_.heap.size W_ W2) (hr0 : Kd.C k62 w A0 l0.length l0) (hc0 : l0.length ≤ c0) (h : leadlag_Unit_45.f pf k l0 = some r) :
  Calls Try.prog 45 #[.slice A0 l0.length c0,.func (.func F) #[] caps] w fun e w' => e = .returned (.int .i64 r)∧Below w.heap.size w w':=by
 have hu62:=Try.underlying62
 have HR0:=Aside0.mk hr0
 have HC0:=Aside0.mk hc0
 clear hr0 hc0
 have HB:=Aside0.mk (Below.refl w.heap.size w)
 have H : (leadlag_Unit_45.l0 pf k l0 (l0.length : Int) 0) = some r:=h
 clear h
 have H':=Aside0.mk H
 clear H
 go_enter Try.func45,Try.ntmps45
 go_wp2
 go_loopg [8] k (fun kq v8 w' => ∃ (x8_1 : Int),v8 = .int .i64 x8_1∧Aside0 (leadlag_Unit_45.l0 pf kq l0 (l0.length : Int) x8_1 = some r)∧Aside0 (kq ≤ k)∧Aside0 (Below w.heap.size w w'))
 case atStart => exact ⟨(0),(by first|rfl|(simp;done)|(simp [*];done)),H',⟨Nat.le_refl _⟩,⟨by repeat (first|(with_reducible first|exact HB.out|apply below_alloc|apply pw_below_drewN|apply below_drew1)|exact HB.out)⟩⟩
 case round =>
  clear H'
  obtain ⟨x8_1,rfl,HA,HK1,HB⟩:=hrel
  cases gk with
  | zero => exact absurd HA.out (by simp [leadlag_Unit_45.l0])
  | succ k1 =>
   have H:=HA.out
   clear HA
   simp only [leadlag_Unit_45.l0] at H
   by_cases c2 : x8_1 < (l0.length : Int)
   rotate_left
   ·rw [if_neg c2] at H
    have c2b0 : decide (x8_1 < (l0.length : Int)) = false:=decide_eq_false c2
    clear c2
    obtain rfl:=Option.some.inj H
    go_wp2
    go_ret
    exact ⟨by first|rfl|(simp [errW_none,errW_some] <;> rfl)|(simp [*,errW_none,errW_some] <;> rfl),by repeat (first|(with_reducible first|exact HB.out|apply below_alloc|apply pw_below_drewN|apply below_drew1)|exact HB.out)⟩


   rw [if_pos c2] at H
   have c2b0 : decide (x8_1 < (l0.length : Int)) = true:=decide_eq_true c2
   clear c2
   by_cases c3 : 0 ≤ x8_1
   rotate_left
   ·rw [if_neg c3] at H
    exact absurd H (by simp)
   rw [if_pos c3] at H
   have c3b0 : decide (0 ≤ x8_1) = true:=decide_eq_true c3
   clear c3
   by_cases c4 : x8_1 < (l0.length : Int)
   rotate_left
   ·rw [if_neg c4] at H
    exact absurd H (by simp)
   rw [if_pos c4] at H
   have c4b0 : decide (x8_1 < (l0.length : Int)) = true:=decide_eq_true c4
   clear c4
   replace H:=Option.bind_eq_some_iff.mp H
   obtain ⟨t113,A50,H⟩:=H
   replace H : (if t113 = true then (some x8_1) else (leadlag_Unit_45.l0 pf k1 l0 (l0.length : Int) (wrap64 (x8_1 + 1)))) = some r:=H
   have A5:=Aside0.mk A50
   clear A50
   by_cases c6 : t113 = true
   ·subst c6
    have H1 : (some x8_1) = some r:=by rw [if_pos rfl] at H;exact H
    clear H
    have H:=H1
    clear H1
    obtain rfl:=Option.some.inj H
    have p112 : 0 ≤ (x8_1 : Int):=of_decide_eq_true (by first|(with_reducible assumption)|assumption)
    have q112 : x8_1 < (l0.length : Int):=of_decide_eq_true (by first|(with_reducible assumption)|assumption)
    obtain ⟨ad112,e112,hx112_0,hx112_1,hx112_2⟩:=at_T62 HR0.out x8_1 p112 q112
    cases e112
    replace hx112_0:=(HB.out.cell (World.block_lt_of_cell? w _ hx112_0)).trans hx112_0
    replace hx112_1:=(HB.out.cell (World.block_lt_of_cell? w _ hx112_1)).trans hx112_1
    replace hx112_2:=(HB.out.cell (World.block_lt_of_cell? w _ hx112_2)).trans hx112_2
    replace p112:=eq_true p112
    replace q112:=eq_true q112
    go_wp2_with (first|((with_reducible refine gate_value rfl ?_);refine goesV_ (some 16) rfl rfl hF hFn hFb #[.agg #[.int .i64 ((rd_T62 l0 x8_1).f0),.bool ((rd_T62 l0 x8_1).f1),.bool ((rd_T62 l0 x8_1).f2)]] rfl rfl (by (try simp only [List.map_toArray,List.map_cons,List.map_nil]);first|done|rfl|(simp only [List.length_drop,List.length_take];rfl)) ?_;(refine (hP _ (by repeat (first|(with_reducible first|exact HB.out|apply below_alloc|apply pw_below_drewN|apply below_drew1)|exact HB.out)) ((rd_T62 l0 x8_1).f0) ((rd_T62 l0 x8_1).f1) ((rd_T62 l0 x8_1).f2) true A5.out).mono ?_);rintro e w7 ⟨rfl,hb⟩;refine ⟨_,rfl,?_⟩;have n0_:=Aside0.mk (below_step (by repeat (first|(with_reducible first|exact HB.out|apply below_alloc|apply pw_below_drewN|apply below_drew1)|exact HB.out)) hb);clear HB;have HB:=n0_;clear n0_;(try clear hb);(try clear hb2);(try clear hk);(try clear hi)))
    go_ret
    exact ⟨by first|rfl|(simp [errW_none,errW_some] <;> rfl)|(simp [*,errW_none,errW_some] <;> rfl),by repeat (first|(with_reducible first|exact HB.out|apply below_alloc|apply pw_below_drewN|apply below_drew1)|exact HB.out)⟩
   replace c6:=Bool.eq_false_iff.mpr c6
   subst c6
   have H1 : (leadlag_Unit_45.l0 pf k1 l0 (l0.length : Int) (wrap64 (x8_1 + 1))) = some r:=by rw [if_neg (show ¬ (false = true) by decide)] at H;exact H
   clear H
   have H:=H1
   clear H1
   have H':=Aside0.mk H
   clear H
   have p112 : 0 ≤ (x8_1 : Int):=of_decide_eq_true (by first|(with_reducible assumption)|assumption)
   have q112 : x8_1 < (l0.length : Int):=of_decide_eq_true (by first|(with_reducible assumption)|assumption)
   obtain ⟨ad112,e112,hx112_0,hx112_1,hx112_2⟩:=at_T62 HR0.out x8_1 p112 q112
   cases e112
   replace hx112_0:=(HB.out.cell (World.block_lt_of_cell? w _ hx112_0)).trans hx112_0
   replace hx112_1:=(HB.out.cell (World.block_lt_of_cell? w _ hx112_1)).trans hx112_1
   replace hx112_2:=(HB.out.cell (World.block_lt_of_cell? w _ hx112_2)).trans hx112_2
   replace p112:=eq_true p112
   replace q112:=eq_true q112
   go_wp2_with (first|((with_reducible refine gate_value rfl ?_);refine goesV_ (some 16) rfl rfl hF hFn hFb #[.agg #[.int .i64 ((rd_T62 l0 x8_1).f0),.bool ((rd_T62 l0 x8_1).f1),.bool ((rd_T62 l0 x8_1).f2)]] rfl rfl (by (try simp only [List.map_toArray,List.map_cons,List.map_nil]);first|done|rfl|(simp only [List.length_drop,List.length_take];rfl)) ?_;(refine (hP _ (by repeat (first|(with_reducible first|exact HB.out|apply below_alloc|apply pw_below_drewN|apply below_drew1)|exact HB.out)) ((rd_T62 l0 x8_1).f0) ((rd_T62 l0 x8_1).f1) ((rd_T62 l0 x8_1).f2) false A5.out).mono ?_);rintro e w8 ⟨rfl,hb⟩;refine ⟨_,rfl,?_⟩;have n0_:=Aside0.mk (below_step (by repeat (first|(with_reducible first|exact HB.out|apply below_alloc|apply pw_below_drewN|apply below_drew1)|exact HB.out)) hb);clear HB;have HB:=n0_;clear n0_;(try clear hb);(try clear hb2);(try clear hk);(try clear hi)))
   go_roundg k1
   case measure => have:=HK1.out;omega
   case rel => exact ⟨(wrap64 (x8_1 + 1)),(by first|rfl|(simp;done)|(simp [*];done)),H',⟨by have:=HK1.out;omega⟩,⟨by repeat (first|(with_reducible first|exact HB.out|apply below_alloc|apply pw_below_drewN|apply below_drew1)|exact HB.out)⟩⟩
/-! #### 34 -/
def leadlag_Unit_34.f (pf : Int→Bool→Bool→Option Bool) (k : Nat) (l0 : List (S62)) : Option (Bool):=(leadlag_Unit_45.f pf k l0).bind fun t114 => (some (decide (t114 ≥ 0)))
theorem leadlag_Unit_34.mono (pf : Int→Bool→Bool→Option Bool) : ∀ a0 k,LeO (leadlag_Unit_34.f pf k a0) (leadlag_Unit_34.f pf (k + 1) a0):=by
 intro a0 k
 unfold leadlag_Unit_34.f
 repeat' first
   | (with_reducible exact leadlag_Unit_45.mono pf _ _)
   | (with_reducible exact LeO.refl _)
   | (with_reducible exact LeO.none _)
   | (with_reducible refine LeO.ite ?_ ?_)
   | (with_reducible refine LeO.bind ?_ (fun _ => ?_))
   | exact leadlag_Unit_45.mono pf _ _
   | exact LeO.none _
   | refine LeO.ite ?_ ?_
   | refine LeO.bind ?_ (fun _ => ?_)
set_option maxHeartbeats 8000000 in
set_option maxRecDepth 100000 in
theorem leadlag_Unit_34.calls (pf : Int→Bool→Bool→Option Bool) (F : FuncId) (fnF : Func) (caps : Array Value) (hF : Try.prog.funcs[F]? = some fnF) (hFn : (fnF.name == "runtime.NumGoroutine") = false) (hFb : fnF.body.isSome = true) (k : Nat) (A0 : Option Addr) (c0 : Nat) (l0 : List (S62)) (r : Bool) (w : World) (hP : ∀ W_ : World,Below w.heap.size w W_→∀ (x : Int) (y z v : Bool),pf x y z = some v→Calls Try.prog F (#[.agg #[.int .i64 x,.bool y,.bool z]] ++ caps) W_ fun e W2 => e = .returned (.bool v)∧Below W_.heap.size W_ W2) (hr0 : Kd.C k62 w A0 l0.length l0) (hc0 : l0.length ≤ c0) (h : leadlag_Unit_34.f pf k l0 = some r) :
  Calls Try.prog 34 #[.slice A0 l0.length c0,.func (.func F) #[] caps] w fun e w' => e = .returned (.bool r)∧Below w.heap.size w w':=by
 have HR0:=Aside0.mk hr0
 have HC0:=Aside0.mk hc0
 clear hr0 hc0
 have HB:=Aside0.mk (Below.refl w.heap.size w)
 have H : ((leadlag_Unit_45.f pf k l0).bind fun t114 => (some (decide (t114 ≥ 0)))) = some r:=h
 clear h
 replace H:=Option.bind_eq_some_iff.mp H
 obtain ⟨t114,A20,H⟩:=H
 replace H : (some (decide (t114 ≥ 0))) = some r:=H
 have A2:=Aside0.mk A20
 clear A20
 obtain rfl:=Option.some.inj H
 go_enter Try.func34,Try.ntmps34
 go_wp2_with (first|((with_reducible refine gate_callee (f:=45) rfl ?_);refine goesL_ (some 7) rfl rfl Try.func45 (by kernel_rfl) rfl #[.slice A0 l0.length c0,.func (.func F) #[] caps] rfl (by (try simp only [List.map_toArray,List.map_cons,List.map_nil]);first|done|rfl|(simp only [List.length_drop,List.length_take];rfl)) ?_;(refine (leadlag_Unit_45.calls pf F fnF caps hF hFn hFb k _ _ l0 t114 _ (fun W_ hw_ => hP W_ (Below.trans (by repeat (first|(with_reducible first|exact HB.out|apply below_alloc|apply pw_below_drewN|apply below_drew1)|exact HB.out)) (hw_.mono (below_size (by repeat (first|(with_reducible first|exact HB.out|apply below_alloc|apply pw_below_drewN|apply below_drew1)|exact HB.out)))))) ?side1 ?side2 A2.out).mono ?_);(case side1 => repeat (first|exact HR0.out|(with_reducible refine Kd.C_alloc ?_ _)|(with_reducible refine Kd.C_drewN ?_ _)|(with_reducible refine Kd.C_drew ?_)));(case side2 => exact HC0.out);rintro e w3 ⟨rfl,hb⟩;refine ⟨_,rfl,?_⟩;have n0_:=Aside0.mk (below_step (by repeat (first|(with_reducible first|exact HB.out|apply below_alloc|apply pw_below_drewN|apply below_drew1)|exact HB.out)) hb);clear HB;have HB:=n0_;clear n0_;(try clear hb);(try clear hb2);(try clear hk);(try clear hi)))
 go_ret
 exact ⟨by first|rfl|(simp [errW_none,errW_some] <;> rfl)|(simp [*,errW_none,errW_some] <;> rfl),by repeat (first|(with_reducible first|exact HB.out|apply below_alloc|apply pw_below_drewN|apply below_drew1)|exact HB.out)⟩


/-! #### 39 -/
def leadlag_count.l0 (pf : Int→Bool→Bool→Option Bool) : Nat→Int→List (S62)→Int→Int→Option (Int)
 | 0,_,_,_,_ => none
 | k + 1,x5,x9,x10,x11 => if x11 < x10 then (if 0 ≤ x11 then (if x11 < (x9.length : Int) then ((pf ((rd_T62 x9 x11).f0) ((rd_T62 x9 x11).f1) ((rd_T62 x9 x11).f2)).bind fun t170 => (if t170 = true then (leadlag_count.l0 pf k (wrap64 (x5 + 1)) x9 x10 (wrap64 (x11 + 1))) else (leadlag_count.l0 pf k x5 x9 x10 (wrap64 (x11 + 1))))) else (none)) else (none)) else (some x5)
def leadlag_count.f (pf : Int→Bool→Bool→Option Bool) (k : Nat) (l0_0 : List (S62)) (a0_1 : Int) (a0_2 : Int) : Option (Int):=leadlag_count.l0 pf k 0 l0_0 (l0_0.length : Int) 0
theorem leadlag_count.mono_l (pf : Int→Bool→Bool→Option Bool) : ∀ k,(∀ y0 y1 y2 y3,LeO (leadlag_count.l0 pf k y0 y1 y2 y3) (leadlag_count.l0 pf (k + 1) y0 y1 y2 y3))
 | 0 => fun _ _ _ _ r h => by simp [leadlag_count.l0] at h
 | k + 1 => by
  have ih0:=leadlag_count.mono_l pf k
  ·intro y0 y1 y2 y3
   unfold leadlag_count.l0
   repeat' first
   | (with_reducible exact ih0 _ _ _ _)
   | (with_reducible exact LeO.refl _)
   | (with_reducible exact LeO.none _)
   | (with_reducible refine LeO.ite ?_ ?_)
   | (with_reducible refine LeO.bind ?_ (fun _ => ?_))
   | exact ih0 _ _ _ _
   | exact LeO.none _
   | refine LeO.ite ?_ ?_
   | refine LeO.bind ?_ (fun _ => ?_)
theorem leadlag_count.mono (pf : Int→Bool→Bool→Option Bool) : ∀ a0 a1 a2 k,LeO (leadlag_count.f pf k a0 a1 a2) (leadlag_count.f pf (k + 1) a0 a1 a2):=by
 intro a0 a1 a2 k
 have ih0:=leadlag_count.mono_l pf k
 unfold leadlag_count.f
 repeat' first
   | (with_reducible exact ih0 _ _ _ _)
   | (with_reducible exact LeO.refl _)
   | (with_reducible exact LeO.none _)
   | (with_reducible refine LeO.ite ?_ ?_)
   | (with_reducible refine LeO.bind ?_ (fun _ => ?_))
   | exact ih0 _ _ _ _
   | exact LeO.none _
   | refine LeO.ite ?_ ?_
   | refine LeO.bind ?_ (fun _ => ?_)
set_option maxHeartbeats 8000000 in
set_option maxRecDepth 100000 in
theorem leadlag_count.calls (pf : Int→Bool→Bool→Option Bool) (F : FuncId) (fnF : Func) (caps : Array Value) (hF : Try.prog.funcs[F]? = some fnF) (hFn : (fnF.name == "runtime.NumGoroutine") = false) (hFb : fnF.body.isSome = true) (k : Nat) (A0_0 : Option Addr) (c0_0 : Nat) (l0_0 : List (S62)) (a0_1 : Int) (a0_2 : Int) (r : Int) (w : World) (hP : ∀ W_ : World,Below w.heap.size w W_→∀ (x : Int) (y z v : Bool),pf x y z = some v→Calls Try.prog F (#[.agg #[.int .i64 x,.bool y,.bool z]] ++ caps) W_ fun e W2 => e = .returned (.bool v)∧Below W_.heap.size W_ W2) (hr0_0 : Kd.C k62 w A0_0 l0_0.length l0_0) (hc0_0 : l0_0.length ≤ c0_0) (h : leadlag_count.f pf k l0_0 a0_1 a0_2 = some r) :
  Calls Try.prog 39 #[.agg #[.slice A0_0 l0_0.length c0_0,.int .i64 a0_1,.int .i64 a0_2],.func (.func F) #[] caps] w fun e w' => e = .returned (.int .i64 r)∧Below w.heap.size w w':=by
 have hu32:=Try.underlying32
 have hu62:=Try.underlying62
 have HR0_0:=Aside0.mk hr0_0
 have HC0_0:=Aside0.mk hc0_0
 clear hr0_0 hc0_0
 have HB:=Aside0.mk (Below.refl w.heap.size w)
 have H : (leadlag_count.l0 pf k 0 l0_0 (l0_0.length : Int) 0) = some r:=h
 clear h
 have H':=Aside0.mk H
 clear H
 go_enter Try.func39,Try.ntmps39
 go_wp2_with (first|((with_reducible refine gate_dst (N:=2) rfl ?_);refine box_event ?hg (N:=2) ?hd (cs:=#[.slice A0_0 l0_0.length c0_0,.int .i64 a0_1,.int .i64 a0_2]) (t:=32) ?hr ?_;(case hd => rfl);(case hg => rfl);(case hr => first|(go_simp;done)|(go_simp;rfl));intro gb167 hg w2 hbox hb;have n0_:=Aside0.mk (below_step (by repeat (first|(with_reducible first|exact HB.out|apply below_alloc|apply pw_below_drewN|apply below_drew1)|exact HB.out)) hb);have n1_:=Aside0.mk (hbox);have n2_:=Aside0.mk ((by rw [hg];exact (below_size (by repeat (first|(with_reducible first|exact HB.out|apply below_alloc|apply pw_below_drewN|apply below_drew1)|exact HB.out))) : w.heap.size ≤ gb167));have n3_:=Aside0.mk ((by rw [hg];exact (below_size (by repeat (first|(with_reducible first|exact HB.out|apply below_alloc|apply pw_below_drewN|apply below_drew1)|exact HB.out))) : w.heap.size ≤ gb167));clear HB;have HB:=n0_;have BK167:=n1_;have GW167:=n2_;have GE167:=n3_;clear n0_ n1_ n2_ n3_;clear hb hbox hg;have hcz3_0 : w2.cell? ⟨gb167,0,none⟩ = some (.slice A0_0 l0_0.length c0_0):=(blk_cell BK167.out 0).trans rfl;have hcz3_1 : w2.cell? ⟨gb167,1,none⟩ = some (.int .i64 a0_1):=(blk_cell BK167.out 1).trans rfl;have hcz3_2 : w2.cell? ⟨gb167,2,none⟩ = some (.int .i64 a0_2):=(blk_cell BK167.out 2).trans rfl;have hfz3_0:=blk_frozen BK167.out 0;have hfz3_1:=blk_frozen BK167.out 1;have hfz3_2:=blk_frozen BK167.out 2))
 (try simp only [Act.put,List.setIfInBounds_toArray,List.set_cons_zero,List.set_cons_succ])
 go_loopg [5,11] k (fun kq v5 v11 w' => ∃ (x5_1 : Int) (x11_1 : Int),v5 = .int .i64 x5_1∧v11 = .int .i64 x11_1∧Aside0 (leadlag_count.l0 pf kq x5_1 l0_0 (l0_0.length : Int) x11_1 = some r)∧Aside0 (kq ≤ k)∧Aside0 (w'.heap[gb167]? = some (.cells #[(.slice A0_0 l0_0.length c0_0),.int .i64 a0_1,.int .i64 a0_2] 32 (0,0)))∧Aside0 (Below w.heap.size w w'))
 case atStart => exact ⟨(0),(0),(by first|rfl|(simp;done)|(simp [*];done)),(by first|rfl|(simp;done)|(simp [*];done)),H',⟨Nat.le_refl _⟩,⟨by (with_reducible repeat (first|refine blk_drewN ?_ _|refine blk_drew ?_|refine blk_alloc ?_ _));exact BK167.out⟩,⟨by repeat (first|(with_reducible first|exact HB.out|apply below_alloc|apply pw_below_drewN|apply below_drew1|refine below_set ?_ GE167.out)|exact HB.out)⟩⟩
 case round =>
  clear H'
  (try clear p2);(try clear c3);(try clear hcz3_0);(try clear hcz3_1);(try clear hcz3_2);(try clear hfz3_0);(try clear hfz3_1);(try clear hfz3_2)
  obtain ⟨x5_1,x11_1,rfl,rfl,HA,HK1,BK167,HB⟩:=hrel
  cases gk with
  | zero => exact absurd HA.out (by simp [leadlag_count.l0])
  | succ k1 =>
   have H:=HA.out
   clear HA
   simp only [leadlag_count.l0] at H
   by_cases c4 : x11_1 < (l0_0.length : Int)
   rotate_left
   ·rw [if_neg c4] at H
    have c4b0 : decide (x11_1 < (l0_0.length : Int)) = false:=decide_eq_false c4
    clear c4
    obtain rfl:=Option.some.inj H
    go_wp2
    go_ret
    exact ⟨by first|rfl|(simp [errW_none,errW_some] <;> rfl)|(simp [*,errW_none,errW_some] <;> rfl),by repeat (first|(with_reducible first|exact HB.out|apply below_alloc|apply pw_below_drewN|apply below_drew1|refine below_set ?_ GE167.out)|exact HB.out)⟩


   rw [if_pos c4] at H
   have c4b0 : decide (x11_1 < (l0_0.length : Int)) = true:=decide_eq_true c4
   clear c4
   by_cases c5 : 0 ≤ x11_1
   rotate_left
   ·rw [if_neg c5] at H
    exact absurd H (by simp)
   rw [if_pos c5] at H
   have c5b0 : decide (0 ≤ x11_1) = true:=decide_eq_true c5
   clear c5
   by_cases c6 : x11_1 < (l0_0.length : Int)
   rotate_left
   ·rw [if_neg c6] at H
    exact absurd H (by simp)
   rw [if_pos c6] at H
   have c6b0 : decide (x11_1 < (l0_0.length : Int)) = true:=decide_eq_true c6
   clear c6
   replace H:=Option.bind_eq_some_iff.mp H
   obtain ⟨t170,A70,H⟩:=H
   replace H : (if t170 = true then (leadlag_count.l0 pf k1 (wrap64 (x5_1 + 1)) l0_0 (l0_0.length : Int) (wrap64 (x11_1 + 1))) else (leadlag_count.l0 pf k1 x5_1 l0_0 (l0_0.length : Int) (wrap64 (x11_1 + 1)))) = some r:=H
   have A7:=Aside0.mk A70
   clear A70
   by_cases c8 : t170 = true
   ·subst c8
    have H1 : (leadlag_count.l0 pf k1 (wrap64 (x5_1 + 1)) l0_0 (l0_0.length : Int) (wrap64 (x11_1 + 1))) = some r:=by rw [if_pos rfl] at H;exact H
    clear H
    have H:=H1
    clear H1
    have H':=Aside0.mk H
    clear H
    have p168 : 0 ≤ (x11_1 : Int):=of_decide_eq_true (by first|(with_reducible assumption)|assumption)
    have q168 : x11_1 < (l0_0.length : Int):=of_decide_eq_true (by first|(with_reducible assumption)|assumption)
    obtain ⟨ad168,e168,hx168_0,hx168_1,hx168_2⟩:=at_T62 HR0_0.out x11_1 p168 q168
    cases e168
    replace hx168_0:=(HB.out.cell (World.block_lt_of_cell? w _ hx168_0)).trans hx168_0
    replace hx168_1:=(HB.out.cell (World.block_lt_of_cell? w _ hx168_1)).trans hx168_1
    replace hx168_2:=(HB.out.cell (World.block_lt_of_cell? w _ hx168_2)).trans hx168_2
    replace p168:=eq_true p168
    replace q168:=eq_true q168
    go_wp2_with (first|((with_reducible refine gate_dst (N:=7) rfl ?_);refine box_event ?hg (N:=7) ?hd (cs:=#[.int .i64 0,.bool false,.bool false]) (t:=62) ?hr ?_;(case hd => rfl);(case hg => rfl);(case hr => first|(go_simp;done)|(go_simp;rfl));intro gb169 hg w9 hbox hb;have n0_:=Aside0.mk (blk_below (g:=gb167) (o:=.cells #[.slice (some ad168) l0_0.length c0_0,.int .i64 a0_1,.int .i64 a0_2] 32 (0,0)) (by (with_reducible repeat (first|refine blk_drewN ?_ _|refine blk_drew ?_|refine blk_alloc ?_ _));exact BK167.out) hb);have n1_:=Aside0.mk (below_step (by repeat (first|(with_reducible first|exact HB.out|apply below_alloc|apply pw_below_drewN|apply below_drew1|refine below_set ?_ GE167.out)|exact HB.out)) hb);have n2_:=Aside0.mk (hbox);have n3_:=Aside0.mk ((by rw [hg];exact (below_size (by repeat (first|(with_reducible first|exact HB.out|apply below_alloc|apply pw_below_drewN|apply below_drew1|refine below_set ?_ GE167.out)|exact HB.out))) : w.heap.size ≤ gb169));have n4_:=Aside0.mk ((by rw [hg];exact (below_size (by repeat (first|(with_reducible first|exact HB.out|apply below_alloc|apply pw_below_drewN|apply below_drew1|refine below_set ?_ GE167.out)|exact HB.out))) : w.heap.size ≤ gb169));have n5_:=Aside0.mk ((by rw [hg];exact Nat.ne_of_lt (blk_lt (g:=gb167) (o:=.cells #[.slice (some ad168) l0_0.length c0_0,.int .i64 a0_1,.int .i64 a0_2] 32 (0,0)) (by (with_reducible repeat (first|refine blk_drewN ?_ _|refine blk_drew ?_|refine blk_alloc ?_ _));exact BK167.out)) : gb167 ≠ gb169));have n6_:=Aside0.mk ((by rw [hg];exact Nat.ne_of_gt (blk_lt (g:=gb167) (o:=.cells #[.slice (some ad168) l0_0.length c0_0,.int .i64 a0_1,.int .i64 a0_2] 32 (0,0)) (by (with_reducible repeat (first|refine blk_drewN ?_ _|refine blk_drew ?_|refine blk_alloc ?_ _));exact BK167.out)) : gb169 ≠ gb167));clear BK167;clear HB;have BK167:=n0_;have HB:=n1_;have BK169:=n2_;have GW169:=n3_;have GE169:=n4_;have NB167_169:=n5_;have NB169_167:=n6_;clear n0_ n1_ n2_ n3_ n4_ n5_ n6_;clear hb hbox hg;have hnb10:=NB169_167.out;have hnc10:=NB167_169.out;have hcz11_0 : w9.cell? ⟨gb169,0,none⟩ = some (.int .i64 0):=(blk_cell BK169.out 0).trans rfl;have hcz11_1 : w9.cell? ⟨gb169,1,none⟩ = some (.bool false):=(blk_cell BK169.out 1).trans rfl;have hcz11_2 : w9.cell? ⟨gb169,2,none⟩ = some (.bool false):=(blk_cell BK169.out 2).trans rfl;have hfz11_0:=blk_frozen BK169.out 0;have hfz11_1:=blk_frozen BK169.out 1;have hfz11_2:=blk_frozen BK169.out 2)|((with_reducible refine gate_value rfl ?_);refine goesV_ (some 17) rfl rfl hF hFn hFb #[.agg #[.int .i64 ((rd_T62 l0_0 x11_1).f0),.bool ((rd_T62 l0_0 x11_1).f1),.bool ((rd_T62 l0_0 x11_1).f2)]] rfl rfl (by (try simp only [List.map_toArray,List.map_cons,List.map_nil]);first|done|rfl|(simp only [List.length_drop,List.length_take];rfl)) ?_;(refine (hP _ (by repeat (first|(with_reducible first|exact HB.out|apply below_alloc|apply pw_below_drewN|apply below_drew1|refine below_set ?_ GE167.out|refine below_set ?_ GE169.out)|exact HB.out)) ((rd_T62 l0_0 x11_1).f0) ((rd_T62 l0_0 x11_1).f1) ((rd_T62 l0_0 x11_1).f2) true A7.out).mono ?_);rintro e w12 ⟨rfl,hb⟩;refine ⟨_,rfl,?_⟩;have n0_:=Aside0.mk (blk_below (g:=gb167) (o:=.cells #[.slice (some ad168) l0_0.length c0_0,.int .i64 a0_1,.int .i64 a0_2] 32 (0,0)) (by (with_reducible repeat (first|refine blk_drewN ?_ _|refine blk_drew ?_|refine blk_alloc ?_ _));refine blk_far ?_ NB167_169.out _;(with_reducible repeat (first|refine blk_drewN ?_ _|refine blk_drew ?_|refine blk_alloc ?_ _));refine blk_far ?_ NB167_169.out _;(with_reducible repeat (first|refine blk_drewN ?_ _|refine blk_drew ?_|refine blk_alloc ?_ _));refine blk_far ?_ NB167_169.out _;(with_reducible repeat (first|refine blk_drewN ?_ _|refine blk_drew ?_|refine blk_alloc ?_ _));exact BK167.out) hb);have n1_:=Aside0.mk (blk_below (g:=gb169) (o:=.cells #[.int .i64 ((rd_T62 l0_0 x11_1).f0),.bool ((rd_T62 l0_0 x11_1).f1),.bool ((rd_T62 l0_0 x11_1).f2)] 62 (0,0)) (by (with_reducible repeat (first|refine blk_drewN ?_ _|refine blk_drew ?_|refine blk_alloc ?_ _));refine blk_put (cs:=#[.int .i64 ((rd_T62 l0_0 x11_1).f0),.bool ((rd_T62 l0_0 x11_1).f1),.bool false]) ?_ 2 _ rfl;(with_reducible repeat (first|refine blk_drewN ?_ _|refine blk_drew ?_|refine blk_alloc ?_ _));refine blk_put (cs:=#[.int .i64 ((rd_T62 l0_0 x11_1).f0),.bool false,.bool false]) ?_ 1 _ rfl;(with_reducible repeat (first|refine blk_drewN ?_ _|refine blk_drew ?_|refine blk_alloc ?_ _));refine blk_put (cs:=#[.int .i64 0,.bool false,.bool false]) ?_ 0 _ rfl;(with_reducible repeat (first|refine blk_drewN ?_ _|refine blk_drew ?_|refine blk_alloc ?_ _));exact BK169.out) hb);have n2_:=Aside0.mk (below_step (by repeat (first|(with_reducible first|exact HB.out|apply below_alloc|apply pw_below_drewN|apply below_drew1|refine below_set ?_ GE167.out|refine below_set ?_ GE169.out)|exact HB.out)) hb);clear BK167;clear BK169;clear HB;have BK167:=n0_;have BK169:=n1_;have HB:=n2_;clear n0_ n1_ n2_;(try clear hb);(try clear hb2);(try clear hk);(try clear hi)))
    go_roundg k1
    case measure => have:=HK1.out;omega
    case rel => exact ⟨(wrap64 (x5_1 + 1)),(wrap64 (x11_1 + 1)),(by first|rfl|(simp;done)|(simp [*];done)),(by first|rfl|(simp;done)|(simp [*];done)),H',⟨by have:=HK1.out;omega⟩,⟨by (with_reducible repeat (first|refine blk_drewN ?_ _|refine blk_drew ?_|refine blk_alloc ?_ _));exact BK167.out⟩,⟨by repeat (first|(with_reducible first|exact HB.out|apply below_alloc|apply pw_below_drewN|apply below_drew1|refine below_set ?_ GE167.out|refine below_set ?_ GE169.out)|exact HB.out)⟩⟩
   replace c8:=Bool.eq_false_iff.mpr c8
   subst c8
   have H1 : (leadlag_count.l0 pf k1 x5_1 l0_0 (l0_0.length : Int) (wrap64 (x11_1 + 1))) = some r:=by rw [if_neg (show ¬ (false = true) by decide)] at H;exact H
   clear H
   have H:=H1
   clear H1
   have H':=Aside0.mk H
   clear H
   have p168 : 0 ≤ (x11_1 : Int):=of_decide_eq_true (by first|(with_reducible assumption)|assumption)
   have q168 : x11_1 < (l0_0.length : Int):=of_decide_eq_true (by first|(with_reducible assumption)|assumption)
   obtain ⟨ad168,e168,hx168_0,hx168_1,hx168_2⟩:=at_T62 HR0_0.out x11_1 p168 q168
   cases e168
   replace hx168_0:=(HB.out.cell (World.block_lt_of_cell? w _ hx168_0)).trans hx168_0
   replace hx168_1:=(HB.out.cell (World.block_lt_of_cell? w _ hx168_1)).trans hx168_1
   replace hx168_2:=(HB.out.cell (World.block_lt_of_cell? w _ hx168_2)).trans hx168_2
   replace p168:=eq_true p168
   replace q168:=eq_true q168
   go_wp2_with (first|((with_reducible refine gate_dst (N:=7) rfl ?_);refine box_event ?hg (N:=7) ?hd (cs:=#[.int .i64 0,.bool false,.bool false]) (t:=62) ?hr ?_;(case hd => rfl);(case hg => rfl);(case hr => first|(go_simp;done)|(go_simp;rfl));intro gb169 hg w13 hbox hb;have n0_:=Aside0.mk (blk_below (g:=gb167) (o:=.cells #[.slice (some ad168) l0_0.length c0_0,.int .i64 a0_1,.int .i64 a0_2] 32 (0,0)) (by (with_reducible repeat (first|refine blk_drewN ?_ _|refine blk_drew ?_|refine blk_alloc ?_ _));exact BK167.out) hb);have n1_:=Aside0.mk (below_step (by repeat (first|(with_reducible first|exact HB.out|apply below_alloc|apply pw_below_drewN|apply below_drew1|refine below_set ?_ GE167.out)|exact HB.out)) hb);have n2_:=Aside0.mk (hbox);have n3_:=Aside0.mk ((by rw [hg];exact (below_size (by repeat (first|(with_reducible first|exact HB.out|apply below_alloc|apply pw_below_drewN|apply below_drew1|refine below_set ?_ GE167.out)|exact HB.out))) : w.heap.size ≤ gb169));have n4_:=Aside0.mk ((by rw [hg];exact (below_size (by repeat (first|(with_reducible first|exact HB.out|apply below_alloc|apply pw_below_drewN|apply below_drew1|refine below_set ?_ GE167.out)|exact HB.out))) : w.heap.size ≤ gb169));have n5_:=Aside0.mk ((by rw [hg];exact Nat.ne_of_lt (blk_lt (g:=gb167) (o:=.cells #[.slice (some ad168) l0_0.length c0_0,.int .i64 a0_1,.int .i64 a0_2] 32 (0,0)) (by (with_reducible repeat (first|refine blk_drewN ?_ _|refine blk_drew ?_|refine blk_alloc ?_ _));exact BK167.out)) : gb167 ≠ gb169));have n6_:=Aside0.mk ((by rw [hg];exact Nat.ne_of_gt (blk_lt (g:=gb167) (o:=.cells #[.slice (some ad168) l0_0.length c0_0,.int .i64 a0_1,.int .i64 a0_2] 32 (0,0)) (by (with_reducible repeat (first|refine blk_drewN ?_ _|refine blk_drew ?_|refine blk_alloc ?_ _));exact BK167.out)) : gb169 ≠ gb167));clear BK167;clear HB;have BK167:=n0_;have HB:=n1_;have BK169:=n2_;have GW169:=n3_;have GE169:=n4_;have NB167_169:=n5_;have NB169_167:=n6_;clear n0_ n1_ n2_ n3_ n4_ n5_ n6_;clear hb hbox hg;have hnb14:=NB169_167.out;have hnc14:=NB167_169.out;have hcz15_0 : w13.cell? ⟨gb169,0,none⟩ = some (.int .i64 0):=(blk_cell BK169.out 0).trans rfl;have hcz15_1 : w13.cell? ⟨gb169,1,none⟩ = some (.bool false):=(blk_cell BK169.out 1).trans rfl;have hcz15_2 : w13.cell? ⟨gb169,2,none⟩ = some (.bool false):=(blk_cell BK169.out 2).trans rfl;have hfz15_0:=blk_frozen BK169.out 0;have hfz15_1:=blk_frozen BK169.out 1;have hfz15_2:=blk_frozen BK169.out 2)|((with_reducible refine gate_value rfl ?_);refine goesV_ (some 17) rfl rfl hF hFn hFb #[.agg #[.int .i64 ((rd_T62 l0_0 x11_1).f0),.bool ((rd_T62 l0_0 x11_1).f1),.bool ((rd_T62 l0_0 x11_1).f2)]] rfl rfl (by (try simp only [List.map_toArray,List.map_cons,List.map_nil]);first|done|rfl|(simp only [List.length_drop,List.length_take];rfl)) ?_;(refine (hP _ (by repeat (first|(with_reducible first|exact HB.out|apply below_alloc|apply pw_below_drewN|apply below_drew1|refine below_set ?_ GE167.out|refine below_set ?_ GE169.out)|exact HB.out)) ((rd_T62 l0_0 x11_1).f0) ((rd_T62 l0_0 x11_1).f1) ((rd_T62 l0_0 x11_1).f2) false A7.out).mono ?_);rintro e w16 ⟨rfl,hb⟩;refine ⟨_,rfl,?_⟩;have n0_:=Aside0.mk (blk_below (g:=gb167) (o:=.cells #[.slice (some ad168) l0_0.length c0_0,.int .i64 a0_1,.int .i64 a0_2] 32 (0,0)) (by (with_reducible repeat (first|refine blk_drewN ?_ _|refine blk_drew ?_|refine blk_alloc ?_ _));refine blk_far ?_ NB167_169.out _;(with_reducible repeat (first|refine blk_drewN ?_ _|refine blk_drew ?_|refine blk_alloc ?_ _));refine blk_far ?_ NB167_169.out _;(with_reducible repeat (first|refine blk_drewN ?_ _|refine blk_drew ?_|refine blk_alloc ?_ _));refine blk_far ?_ NB167_169.out _;(with_reducible repeat (first|refine blk_drewN ?_ _|refine blk_drew ?_|refine blk_alloc ?_ _));exact BK167.out) hb);have n1_:=Aside0.mk (blk_below (g:=gb169) (o:=.cells #[.int .i64 ((rd_T62 l0_0 x11_1).f0),.bool ((rd_T62 l0_0 x11_1).f1),.bool ((rd_T62 l0_0 x11_1).f2)] 62 (0,0)) (by (with_reducible repeat (first|refine blk_drewN ?_ _|refine blk_drew ?_|refine blk_alloc ?_ _));refine blk_put (cs:=#[.int .i64 ((rd_T62 l0_0 x11_1).f0),.bool ((rd_T62 l0_0 x11_1).f1),.bool false]) ?_ 2 _ rfl;(with_reducible repeat (first|refine blk_drewN ?_ _|refine blk_drew ?_|refine blk_alloc ?_ _));refine blk_put (cs:=#[.int .i64 ((rd_T62 l0_0 x11_1).f0),.bool false,.bool false]) ?_ 1 _ rfl;(with_reducible repeat (first|refine blk_drewN ?_ _|refine blk_drew ?_|refine blk_alloc ?_ _));refine blk_put (cs:=#[.int .i64 0,.bool false,.bool false]) ?_ 0 _ rfl;(with_reducible repeat (first|refine blk_drewN ?_ _|refine blk_drew ?_|refine blk_alloc ?_ _));exact BK169.out) hb);have n2_:=Aside0.mk (below_step (by repeat (first|(with_reducible first|exact HB.out|apply below_alloc|apply pw_below_drewN|apply below_drew1|refine below_set ?_ GE167.out|refine below_set ?_ GE169.out)|exact HB.out)) hb);clear BK167;clear BK169;clear HB;have BK167:=n0_;have BK169:=n1_;have HB:=n2_;clear n0_ n1_ n2_;(try clear hb);(try clear hb2);(try clear hk);(try clear hi)))
   go_roundg k1
   case measure => have:=HK1.out;omega
   case rel => exact ⟨(x5_1),(wrap64 (x11_1 + 1)),(by first|rfl|(simp;done)|(simp [*];done)),(by first|rfl|(simp;done)|(simp [*];done)),H',⟨by have:=HK1.out;omega⟩,⟨by (with_reducible repeat (first|refine blk_drewN ?_ _|refine blk_drew ?_|refine blk_alloc ?_ _));exact BK167.out⟩,⟨by repeat (first|(with_reducible first|exact HB.out|apply below_alloc|apply pw_below_drewN|apply below_drew1|refine below_set ?_ GE167.out|refine below_set ?_ GE169.out)|exact HB.out)⟩⟩
/-! #### 49 -/
def slices_IndexFunc_int_int.l0 (pf : Int→Option Bool) : Nat→List Int→Int→Int→Option (Int)
 | 0,_,_,_ => none
 | k + 1,x0,x7,x8 => if x8 < x7 then (if 0 ≤ x8 then (if x8 < (x0.length : Int) then ((pf (rd x0 x8)).bind fun t176 => (if t176 = true then (some x8) else (slices_IndexFunc_int_int.l0 pf k x0 x7 (wrap64 (x8 + 1))))) else (none)) else (none)) else (some (-1))
def slices_IndexFunc_int_int.f (pf : Int→Option Bool) (k : Nat) (l0 : List Int) : Option (Int):=slices_IndexFunc_int_int.l0 pf k l0 (l0.length : Int) 0
theorem slices_IndexFunc_int_int.mono_l (pf : Int→Option Bool) : ∀ k,(∀ y0 y1 y2,LeO (slices_IndexFunc_int_int.l0 pf k y0 y1 y2) (slices_IndexFunc_int_int.l0 pf (k + 1) y0 y1 y2))
 | 0 => fun _ _ _ r h => by simp [slices_IndexFunc_int_int.l0] at h
 | k + 1 => by
  have ih0:=slices_IndexFunc_int_int.mono_l pf k
  ·intro y0 y1 y2
   unfold slices_IndexFunc_int_int.l0
   repeat' first
   | (with_reducible exact ih0 _ _ _)
   | (with_reducible exact LeO.refl _)
   | (with_reducible exact LeO.none _)
   | (with_reducible refine LeO.ite ?_ ?_)
   | (with_reducible refine LeO.bind ?_ (fun _ => ?_))
   | exact ih0 _ _ _
   | exact LeO.none _
   | refine LeO.ite ?_ ?_
   | refine LeO.bind ?_ (fun _ => ?_)
theorem slices_IndexFunc_int_int.mono (pf : Int→Option Bool) : ∀ a0 k,LeO (slices_IndexFunc_int_int.f pf k a0) (slices_IndexFunc_int_int.f pf (k + 1) a0):=by
 intro a0 k
 have ih0:=slices_IndexFunc_int_int.mono_l pf k
 unfold slices_IndexFunc_int_int.f
 repeat' first
   | (with_reducible exact ih0 _ _ _)
   | (with_reducible exact LeO.refl _)
   | (with_reducible exact LeO.none _)
   | (with_reducible refine LeO.ite ?_ ?_)
   | (with_reducible refine LeO.bind ?_ (fun _ => ?_))
   | exact ih0 _ _ _
   | exact LeO.none _
   | refine LeO.ite ?_ ?_
   | refine LeO.bind ?_ (fun _ => ?_)
set_option maxHeartbeats 8000000 in
set_option maxRecDepth 100000 in
theorem slices_IndexFunc_int_int.calls (pf : Int→Option Bool) (F : FuncId) (fnF : Func) (caps : Array Value) (hF : Try.prog.funcs[F]? = some fnF) (hFn : (fnF.name == "runtime.NumGoroutine") = false) (hFb : fnF.body.isSome = true) (k : Nat) (A0 : Option Addr) (c0 : Nat) (l0 : List Int) (r : Int) (w : World) (hP : ∀ W_ : World,Below w.heap.size w W_→∀ (x : Int) (v : Bool),pf x = some v→Calls Try.prog F (#[.int .i64 x] ++ caps) W_ fun e W2 => e = .returned (.bool v)∧Below W_.heap.size W_ W2) (hr0 : Kd.C (Kd.int .i64) w A0 l0.length l0) (hc0 : l0.length ≤ c0) (h : slices_IndexFunc_int_int.f pf k l0 = some r) :
  Calls Try.prog 49 #[.slice A0 l0.length c0,.func (.func F) #[] caps] w fun e w' => e = .returned (.int .i64 r)∧Below w.heap.size w w':=by
 have HR0:=Aside0.mk hr0
 have HC0:=Aside0.mk hc0
 clear hr0 hc0
 have HB:=Aside0.mk (Below.refl w.heap.size w)
 have H : (slices_IndexFunc_int_int.l0 pf k l0 (l0.length : Int) 0) = some r:=h
 clear h
 have H':=Aside0.mk H
 clear H
 go_enter Try.func49,Try.ntmps49
 go_wp2
 go_loopg [8] k (fun kq v8 w' => ∃ (x8_1 : Int),v8 = .int .i64 x8_1∧Aside0 (slices_IndexFunc_int_int.l0 pf kq l0 (l0.length : Int) x8_1 = some r)∧Aside0 (kq ≤ k)∧Aside0 (Below w.heap.size w w'))
 case atStart => exact ⟨(0),(by first|rfl|(simp;done)|(simp [*];done)),H',⟨Nat.le_refl _⟩,⟨by repeat (first|(with_reducible first|exact HB.out|apply below_alloc|apply pw_below_drewN|apply below_drew1)|exact HB.out)⟩⟩
 case round =>
  clear H'
  obtain ⟨x8_1,rfl,HA,HK1,HB⟩:=hrel
  cases gk with
  | zero => exact absurd HA.out (by simp [slices_IndexFunc_int_int.l0])
  | succ k1 =>
   have H:=HA.out
   clear HA
   simp only [slices_IndexFunc_int_int.l0] at H
   by_cases c2 : x8_1 < (l0.length : Int)
   rotate_left
   ·rw [if_neg c2] at H
    have c2b0 : decide (x8_1 < (l0.length : Int)) = false:=decide_eq_false c2
    clear c2
    obtain rfl:=Option.some.inj H
    go_wp2
    go_ret
    exact ⟨by first|rfl|(simp [errW_none,errW_some] <;> rfl)|(simp [*,errW_none,errW_some] <;> rfl),by repeat (first|(with_reducible first|exact HB.out|apply below_alloc|apply pw_below_drewN|apply below_drew1)|exact HB.out)⟩


   rw [if_pos c2] at H
   have c2b0 : decide (x8_1 < (l0.length : Int)) = true:=decide_eq_true c2
   clear c2
   by_cases c3 : 0 ≤ x8_1
   rotate_left
   ·rw [if_neg c3] at H
    exact absurd H (by simp)
   rw [if_pos c3] at H
   have c3b0 : decide (0 ≤ x8_1) = true:=decide_eq_true c3
   clear c3
   by_cases c4 : x8_1 < (l0.length : Int)
   rotate_left
   ·rw [if_neg c4] at H
    exact absurd H (by simp)
   rw [if_pos c4] at H
   have c4b0 : decide (x8_1 < (l0.length : Int)) = true:=decide_eq_true c4
   clear c4
   replace H:=Option.bind_eq_some_iff.mp H
   obtain ⟨t176,A50,H⟩:=H
   replace H : (if t176 = true then (some x8_1) else (slices_IndexFunc_int_int.l0 pf k1 l0 (l0.length : Int) (wrap64 (x8_1 + 1)))) = some r:=H
   have A5:=Aside0.mk A50
   clear A50
   by_cases c6 : t176 = true
   ·subst c6
    have H1 : (some x8_1) = some r:=by rw [if_pos rfl] at H;exact H
    clear H
    have H:=H1
    clear H1
    obtain rfl:=Option.some.inj H
    have p175 : 0 ≤ (x8_1 : Int):=of_decide_eq_true (by first|(with_reducible assumption)|assumption)
    have q175 : x8_1 < (l0.length : Int):=of_decide_eq_true (by first|(with_reducible assumption)|assumption)
    obtain ⟨ad175,e175,hx175_0⟩:=Kd.at_int HR0.out x8_1 p175 q175
    cases e175
    replace hx175_0:=(HB.out.cell (World.block_lt_of_cell? w _ hx175_0)).trans hx175_0
    replace p175:=eq_true p175
    replace q175:=eq_true q175
    go_wp2_with (first|((with_reducible refine gate_value rfl ?_);refine goesV_ (some 16) rfl rfl hF hFn hFb #[.int .i64 (rd l0 x8_1)] rfl rfl (by (try simp only [List.map_toArray,List.map_cons,List.map_nil]);first|done|rfl|(simp only [List.length_drop,List.length_take];rfl)) ?_;(refine (hP _ (by repeat (first|(with_reducible first|exact HB.out|apply below_alloc|apply pw_below_drewN|apply below_drew1)|exact HB.out)) (rd l0 x8_1) true A5.out).mono ?_);rintro e w7 ⟨rfl,hb⟩;refine ⟨_,rfl,?_⟩;have n0_:=Aside0.mk (below_step (by repeat (first|(with_reducible first|exact HB.out|apply below_alloc|apply pw_below_drewN|apply below_drew1)|exact HB.out)) hb);clear HB;have HB:=n0_;clear n0_;(try clear hb);(try clear hb2);(try clear hk);(try clear hi)))
    go_ret
    exact ⟨by first|rfl|(simp [errW_none,errW_some] <;> rfl)|(simp [*,errW_none,errW_some] <;> rfl),by repeat (first|(with_reducible first|exact HB.out|apply below_alloc|apply pw_below_drewN|apply below_drew1)|exact HB.out)⟩
   replace c6:=Bool.eq_false_iff.mpr c6
   subst c6
   have H1 : (slices_IndexFunc_int_int.l0 pf k1 l0 (l0.length : Int) (wrap64 (x8_1 + 1))) = some r:=by rw [if_neg (show ¬ (false = true) by decide)] at H;exact H
   clear H
   have H:=H1
   clear H1
   have H':=Aside0.mk H
   clear H
   have p175 : 0 ≤ (x8_1 : Int):=of_decide_eq_true (by first|(with_reducible assumption)|assumption)
   have q175 : x8_1 < (l0.length : Int):=of_decide_eq_true (by first|(with_reducible assumption)|assumption)
   obtain ⟨ad175,e175,hx175_0⟩:=Kd.at_int HR0.out x8_1 p175 q175
   cases e175
   replace hx175_0:=(HB.out.cell (World.block_lt_of_cell? w _ hx175_0)).trans hx175_0
   replace p175:=eq_true p175
   replace q175:=eq_true q175
   go_wp2_with (first|((with_reducible refine gate_value rfl ?_);refine goesV_ (some 16) rfl rfl hF hFn hFb #[.int .i64 (rd l0 x8_1)] rfl rfl (by (try simp only [List.map_toArray,List.map_cons,List.map_nil]);first|done|rfl|(simp only [List.length_drop,List.length_take];rfl)) ?_;(refine (hP _ (by repeat (first|(with_reducible first|exact HB.out|apply below_alloc|apply pw_below_drewN|apply below_drew1)|exact HB.out)) (rd l0 x8_1) false A5.out).mono ?_);rintro e w8 ⟨rfl,hb⟩;refine ⟨_,rfl,?_⟩;have n0_:=Aside0.mk (below_step (by repeat (first|(with_reducible first|exact HB.out|apply below_alloc|apply pw_below_drewN|apply below_drew1)|exact HB.out)) hb);clear HB;have HB:=n0_;clear n0_;(try clear hb);(try clear hb2);(try clear hk);(try clear hi)))
   go_roundg k1
   case measure => have:=HK1.out;omega
   case rel => exact ⟨(wrap64 (x8_1 + 1)),(by first|rfl|(simp;done)|(simp [*];done)),H',⟨by have:=HK1.out;omega⟩,⟨by repeat (first|(with_reducible first|exact HB.out|apply below_alloc|apply pw_below_drewN|apply below_drew1)|exact HB.out)⟩⟩
/-! #### 51 -/
mutual
def slices_insertionSortCmpFunc_int.l0 (pf : Int→Int→Option Int) : Nat→List Int→Int→Int→Int→Option (List Int)
 | 0,_,_,_,_ => none
 | k + 1,x0,x1,x2,x8 => if x8 < x2 then (slices_insertionSortCmpFunc_int.l1 pf k x0 x1 x2 x8 x8) else (some x0)
def slices_insertionSortCmpFunc_int.l1 (pf : Int→Int→Option Int) : Nat→List Int→Int→Int→Int→Int→Option (List Int)
 | 0,_,_,_,_,_ => none
 | k + 1,x0,x1,x2,x8,x9 => if x9 > x1 then (if 0 ≤ x9 then (if x9 < (x0.length : Int) then (if 0 ≤ (wrap64 (x9 - 1)) then (if (wrap64 (x9 - 1)) < (x0.length : Int) then ((pf (rd x0 x9) (rd x0 (wrap64 (x9 - 1)))).bind fun t121 => (if t121 < 0 then (slices_insertionSortCmpFunc_int.l1 pf k ((x0.set (x9 : Int).toNat (rd x0 (wrap64 (x9 - 1)))).set ((wrap64 (x9 - 1)) : Int).toNat (rd x0 x9)) x1 x2 x8 (wrap64 (x9 - 1))) else (slices_insertionSortCmpFunc_int.l0 pf k x0 x1 x2 (wrap64 (x8 + 1))))) else (none)) else (none)) else (none)) else (none)) else (slices_insertionSortCmpFunc_int.l0 pf k x0 x1 x2 (wrap64 (x8 + 1)))
end
def slices_insertionSortCmpFunc_int.f (pf : Int→Int→Option Int) (k : Nat) (l0 : List Int) (a1 : Int) (a2 : Int) : Option (List Int):=slices_insertionSortCmpFunc_int.l0 pf k l0 a1 a2 (wrap64 (a1 + 1))
theorem slices_insertionSortCmpFunc_int.mono_l (pf : Int→Int→Option Int) : ∀ k,(∀ y0 y1 y2 y3,LeO (slices_insertionSortCmpFunc_int.l0 pf k y0 y1 y2 y3) (slices_insertionSortCmpFunc_int.l0 pf (k + 1) y0 y1 y2 y3))∧(∀ y0 y1 y2 y3 y4,LeO (slices_insertionSortCmpFunc_int.l1 pf k y0 y1 y2 y3 y4) (slices_insertionSortCmpFunc_int.l1 pf (k + 1) y0 y1 y2 y3 y4))
 | 0 => ⟨fun _ _ _ _ r h => by simp [slices_insertionSortCmpFunc_int.l0] at h,fun _ _ _ _ _ r h => by simp [slices_insertionSortCmpFunc_int.l1] at h⟩
 | k + 1 => by
  obtain ⟨ih0,ih1⟩:=slices_insertionSortCmpFunc_int.mono_l pf k
  refine ⟨?_,?_⟩
  ·intro y0 y1 y2 y3
   unfold slices_insertionSortCmpFunc_int.l0
   repeat' first
   | (with_reducible exact ih0 _ _ _ _)
   | (with_reducible exact ih1 _ _ _ _ _)
   | (with_reducible exact LeO.refl _)
   | (with_reducible exact LeO.none _)
   | (with_reducible refine LeO.ite ?_ ?_)
   | (with_reducible refine LeO.bind ?_ (fun _ => ?_))
   | exact ih0 _ _ _ _
   | exact ih1 _ _ _ _ _
   | exact LeO.none _
   | refine LeO.ite ?_ ?_
   | refine LeO.bind ?_ (fun _ => ?_)
  ·intro y0 y1 y2 y3 y4
   unfold slices_insertionSortCmpFunc_int.l1
   repeat' first
   | (with_reducible exact ih0 _ _ _ _)
   | (with_reducible exact ih1 _ _ _ _ _)
   | (with_reducible exact LeO.refl _)
   | (with_reducible exact LeO.none _)
   | (with_reducible refine LeO.ite ?_ ?_)
   | (with_reducible refine LeO.bind ?_ (fun _ => ?_))
   | exact ih0 _ _ _ _
   | exact ih1 _ _ _ _ _
   | exact LeO.none _
   | refine LeO.ite ?_ ?_
   | refine LeO.bind ?_ (fun _ => ?_)
theorem slices_insertionSortCmpFunc_int.mono (pf : Int→Int→Option Int) : ∀ a0 a1 a2 k,LeO (slices_insertionSortCmpFunc_int.f pf k a0 a1 a2) (slices_insertionSortCmpFunc_int.f pf (k + 1) a0 a1 a2):=by
 intro a0 a1 a2 k
 obtain ⟨ih0,ih1⟩:=slices_insertionSortCmpFunc_int.mono_l pf k
 unfold slices_insertionSortCmpFunc_int.f
 repeat' first
   | (with_reducible exact ih0 _ _ _ _)
   | (with_reducible exact ih1 _ _ _ _ _)
   | (with_reducible exact LeO.refl _)
   | (with_reducible exact LeO.none _)
   | (with_reducible refine LeO.ite ?_ ?_)
   | (with_reducible refine LeO.bind ?_ (fun _ => ?_))
   | exact ih0 _ _ _ _
   | exact ih1 _ _ _ _ _
   | exact LeO.none _
   | refine LeO.ite ?_ ?_
   | refine LeO.bind ?_ (fun _ => ?_)
def slices_insertionSortCmpFunc_int.T4 : Bool × List (List Nat × List Nat):=(true,[([],[]),([],[]),([0,1],[0,1]),([2],[2]),([3],[3]),([3],[3]),([3],[3]),([5,6,3],[3,5,6]),([7,3],[3,7]),([3],[3]),([3],[3]),([10,3],[3,10]),([9,11,3],[3,9,11]),([12,3],[3,12]),([4,8,13,3,3],[3,4,8,13]),([14,3],[3,14]),([3,15],[3,15])])
def slices_insertionSortCmpFunc_int.B4 : List Nat:=[0,0,3,7,15,15,15,111,239,15,15,1039,3599,7695,16383,32767,65535]
theorem slices_insertionSortCmpFunc_int.tab4 : rtab .any (opsOf Try.f51 4) = slices_insertionSortCmpFunc_int.T4:=by kernel_rfl
theorem slices_insertionSortCmpFunc_int.bits4 : waitsOk slices_insertionSortCmpFunc_int.T4.2 slices_insertionSortCmpFunc_int.B4 = true:=by kernel_rfl
def slices_insertionSortCmpFunc_int.T6 : Bool × List (List Nat × List Nat):=(true,[([],[]),([],[]),([],[]),([],[]),([3],[3]),([],[]),([],[]),([6],[6]),([5,7],[5,7]),([8],[8]),([],[]),([],[]),([10,11],[10,11]),([12],[12]),([0,1,0,1,5,6,7,8,9,13],[0,1]),([14,9,0,1,5,6,7,8,9,13],[9,14]),([2,4,0,1,2,3,4,5,6,7,8,9,10,11,12,13,14,15],[2,4]),([16,13,15,0,1,2,3,4,5,6,7,8,9,10,11,12,13,14,15],[13,16])])
def slices_insertionSortCmpFunc_int.B6 : List Nat:=[0,0,0,0,8,0,0,64,224,480,0,0,3072,7168,16355,32739,65535,131071]
theorem slices_insertionSortCmpFunc_int.tab6 : rtab .any (opsOf Try.f51 6) = slices_insertionSortCmpFunc_int.T6:=by kernel_rfl
theorem slices_insertionSortCmpFunc_int.bits6 : waitsOk slices_insertionSortCmpFunc_int.T6.2 slices_insertionSortCmpFunc_int.B6 = true:=by kernel_rfl
set_option maxHeartbeats 8000000 in
set_option maxRecDepth 100000 in
theorem slices_insertionSortCmpFunc_int.calls (pf : Int→Int→Option Int) (F : FuncId) (fnF : Func) (caps : Array Value) (hF : Try.prog.funcs[F]? = some fnF) (hFn : (fnF.name == "runtime.NumGoroutine") = false) (hFb : fnF.body.isSome = true) (k : Nat) (P0_ : Nat→Prop) (u9000_ : Value) (l0 : List Int) (a1 : Int) (a2 : Int) (r : List Int) (w0 w : World) (hP : ∀ W_ : World,Kept w W_ (fun k_ => P0_ k_)→∀ (x y v : Int),pf x y = some v→Calls Try.prog F (#[.int .i64 x,.int .i64 y] ++ caps) W_ fun e W2 => e = .returned (.int .i64 v)∧Below W_.heap.size W_ W2) (hB : Below w0.heap.size w0 w) (ho0 : Kd.R (Kd.int .i64) 3 w w0.heap.size P0_ u9000_ l0) (h : slices_insertionSortCmpFunc_int.f pf k l0 a1 a2 = some r) :
  Calls Try.prog 51 #[u9000_,.int .i64 a1,.int .i64 a2,.func (.func F) #[] caps] w fun e w' => e = .returned (.tuple #[])∧Kd.R (Kd.int .i64) 3 w' w0.heap.size (fun k_ => (P0_ k_ ∨ w.heap.size ≤ k_)) u9000_ r∧Below w0.heap.size w0 w'∧Kept w w' (fun k_ => P0_ k_):=by
 have HO0:=Aside0.mk (show Kd.R (Kd.int .i64) 3 w w0.heap.size (fun k_ => (P0_ k_ ∨ w.heap.size ≤ k_)) u9000_ l0 from Kd.R_mono ho0 (fun k_ hk => (.inl hk)))
 have HK:=Aside0.mk (Kept.refl w (fun k_ => P0_ k_))
 have HW0:=Aside0.mk hB.size
 have HB:=Aside0.mk hB
 clear hB
 have H : (slices_insertionSortCmpFunc_int.l0 pf k l0 a1 a2 (wrap64 (a1 + 1))) = some r:=h
 clear h
 have H':=Aside0.mk H
 clear H
 go_enter Try.func51,Try.ntmps51
 go_wp2
 go_loopg [8] k (fun kq v8 w' => ∃ (x0_1 : List Int) (x8_1 : Int),v8 = .int .i64 x8_1∧Aside0 (slices_insertionSortCmpFunc_int.l0 pf kq x0_1 a1 a2 x8_1 = some r)∧Aside0 (kq ≤ k)∧Aside0 (Kd.R (Kd.int .i64) 3 w' w0.heap.size (fun k_ => (P0_ k_ ∨ w.heap.size ≤ k_)) u9000_ x0_1)∧Aside0 (Kept w w' (fun k_ => P0_ k_))∧Aside0 (Below w0.heap.size w0 w'))
 case atStart => exact ⟨(l0),(wrap64 (a1 + 1)),(by first|rfl|(simp;done)|(simp [*];done)),H',⟨Nat.le_refl _⟩,⟨by (with_reducible repeat (first|apply Kd.R_alloc|apply Kd.R_drewN|apply Kd.R_drew));exact HO0.out⟩,⟨by repeat (first|(with_reducible first|exact HK.out|apply Kept.alloc|apply Kept.drewN|apply Kept.drew)|exact HK.out)⟩,⟨by repeat (first|(with_reducible first|exact HB.out|apply below_alloc|apply pw_below_drewN|apply below_drew1)|exact HB.out)⟩⟩
 case round =>
  clear H'
  try clear p2
  obtain ⟨x0_1,x8_1,rfl,HA,HK1,HO_0,HK,HB⟩:=hrel
  cases gk with
  | zero => exact absurd HA.out (by simp [slices_insertionSortCmpFunc_int.l0])
  | succ k1 =>
   have H:=HA.out
   clear HA
   simp only [slices_insertionSortCmpFunc_int.l0] at H
   by_cases c4 : x8_1 < a2
   rotate_left
   ·rw [if_neg c4] at H
    have c4b0 : decide (x8_1 < a2) = false:=decide_eq_false c4
    clear c4
    obtain rfl:=Option.some.inj H
    go_wp2
    first|go_end0|((try simp only [Exit.inBlock,Exit.then]);refine bodyPost_ret (results_none rfl _ _ _) rfl ?_)
    exact ⟨by first|rfl|(simp [errW_none,errW_some] <;> rfl)|(simp [*,errW_none,errW_some] <;> rfl),by (with_reducible repeat (first|apply Kd.R_alloc|apply Kd.R_drewN|apply Kd.R_drew));exact HO_0.out,by repeat (first|(with_reducible first|exact HB.out|apply below_alloc|apply pw_below_drewN|apply below_drew1)|exact HB.out),by repeat (first|(with_reducible first|exact HK.out|apply Kept.alloc|apply Kept.drewN|apply Kept.drew)|exact HK.out)⟩

   rw [if_pos c4] at H
   have c4b0 : decide (x8_1 < a2) = true:=decide_eq_true c4
   clear c4
   have H':=Aside0.mk H
   clear H
   go_wp2
   go_loopg [9] k1 (fun kq v9 w' => ∃ (x0_2 : List Int) (x9_2 : Int),v9 = .int .i64 x9_2∧Aside0 (slices_insertionSortCmpFunc_int.l1 pf kq x0_2 a1 a2 x8_1 x9_2 = some r)∧Aside0 (kq ≤ k1)∧Aside0 (Kd.R (Kd.int .i64) 3 w' w0.heap.size (fun k_ => (P0_ k_ ∨ w.heap.size ≤ k_)) u9000_ x0_2)∧Aside0 (Kept w w' (fun k_ => P0_ k_))∧Aside0 (Below w0.heap.size w0 w'))
   case atStart => exact ⟨(x0_1),(x8_1),(by first|rfl|(simp;done)|(simp [*];done)),H',⟨Nat.le_refl _⟩,⟨by (with_reducible repeat (first|apply Kd.R_alloc|apply Kd.R_drewN|apply Kd.R_drew));exact HO_0.out⟩,⟨by repeat (first|(with_reducible first|exact HK.out|apply Kept.alloc|apply Kept.drewN|apply Kept.drew)|exact HK.out)⟩,⟨by repeat (first|(with_reducible first|exact HB.out|apply below_alloc|apply pw_below_drewN|apply below_drew1)|exact HB.out)⟩⟩
   case round =>
    clear H'
    (try clear p2);(try clear c4);(try clear c4b0);(try clear p2)
    obtain ⟨x0_2,x9_2,rfl,HA,HK2,HO_0,HK,HB⟩:=hrel
    cases gk with
    | zero => exact absurd HA.out (by simp [slices_insertionSortCmpFunc_int.l1])
    | succ k2 =>
     have H:=HA.out
     clear HA
     simp only [slices_insertionSortCmpFunc_int.l1] at H
     by_cases c5 : x9_2 > a1
     rotate_left
     ·rw [if_neg c5] at H
      have c5b0 : decide (a1 < x9_2) = false:=decide_eq_false c5
      clear c5
      have H':=Aside0.mk H
      clear H
      try go_wp2
      have n0_:=Aside0.mk (Kd.R_drew HO_0.out)
      have n1_:=Aside0.mk (Kept.drew HK.out)
      have n2_:=Aside0.mk (below_drew1 HB.out)
      clear HO_0
      clear HK
      clear HB
      have HO_0:=n0_
      have HK:=n1_
      have HB:=n2_
      clear n0_ n1_ n2_
      refine start_ (n:=17) (S:=fun w' => True) (ds:=[]) #[false,false,false,false,false,false,false,false,false,false,false,false,false,false,false,false,false] (by kernel_rfl) rfl rfl trivial (fun hHeld => ?_);refine with_tabW slices_insertionSortCmpFunc_int.tab4 slices_insertionSortCmpFunc_int.bits4 (fun HT_ HW_ => ?_)
      generalize wr.drew = w24 at HO_0 HK HB hHeld ⊢
      refine pure_ (i:=0) (N:=some 18) (v:=?_) (a':=?_) #[true,false,false,false,false,false,false,false,false,false,false,false,false,false,false,false,false] rfl rfl (any_of HT_.out (by kernel_rfl)) (fun _ _ _ h => h) (Or.inl ⟨by rfl,?_⟩) ?_ ?_
      rotate_left;(intro w';go_simp;with_reducible rfl);rotate_left;(simp only [Act.put,List.setIfInBounds_toArray,List.set_cons_zero,List.set_cons_succ,i64_w,i32_w];rfl)
      refine pure_ (i:=1) (N:=some 19) (v:=?_) (a':=?_) #[true,true,false,false,false,false,false,false,false,false,false,false,false,false,false,false,false] rfl rfl (any_of HT_.out (by kernel_rfl)) (fun _ _ _ h => h) (Or.inl ⟨by rfl,?_⟩) ?_ ?_
      rotate_left;(intro w';go_simp;with_reducible rfl);rotate_left;(simp only [Act.put,List.setIfInBounds_toArray,List.set_cons_zero,List.set_cons_succ,i64_w,i32_w];rfl)
      refine pure_ (i:=2) (N:=some 20) (v:=?_) (a':=?_) #[true,true,true,false,false,false,false,false,false,false,false,false,false,false,false,false,false] rfl rfl (any_of HT_.out (by kernel_rfl)) (fun _ _ _ h => h) (Or.inl ⟨by rfl,?_⟩) ?_ ?_
      rotate_left;(intro w';go_simp;with_reducible rfl);rotate_left;(simp only [Act.put,List.setIfInBounds_toArray,List.set_cons_zero,List.set_cons_succ,i64_w,i32_w];rfl)
      refine pure_ (i:=3) (N:=some 21) (v:=?_) (a':=?_) #[true,true,true,true,false,false,false,false,false,false,false,false,false,false,false,false,false] rfl rfl (any_of HT_.out (by kernel_rfl)) (fun _ _ _ h => h) (Or.inl ⟨by rfl,?_⟩) ?_ ?_
      rotate_left;(intro w';go_simp;with_reducible rfl);rotate_left;(simp only [Act.put,List.setIfInBounds_toArray,List.set_cons_zero,List.set_cons_succ,i64_w,i32_w];rfl)
      refine pure_ (i:=4) (N:=some 22) (v:=undef) (a':=?_) #[true,true,true,true,true,false,false,false,false,false,false,false,false,false,false,false,false] rfl rfl (any_of HT_.out (by kernel_rfl)) (fun _ _ _ h => h) (Or.inr ⟨by rfl,rfl⟩) ?_ ?_
      rotate_left
      ·simp only [Act.put,List.setIfInBounds_toArray,List.set_cons_zero,List.set_cons_succ,i64_w,i32_w]
       rfl
      refine pure_ (i:=5) (N:=some 23) (v:=undef) (a':=?_) #[true,true,true,true,true,true,false,false,false,false,false,false,false,false,false,false,false] rfl rfl (any_of HT_.out (by kernel_rfl)) (fun _ _ _ h => h) (Or.inr ⟨by rfl,rfl⟩) ?_ ?_
      rotate_left
      ·simp only [Act.put,List.setIfInBounds_toArray,List.set_cons_zero,List.set_cons_succ,i64_w,i32_w]
       rfl
      refine pure_ (i:=6) (N:=some 24) (v:=undef) (a':=?_) #[true,true,true,true,true,true,true,false,false,false,false,false,false,false,false,false,false] rfl rfl (any_of HT_.out (by kernel_rfl)) (fun _ _ _ h => h) (Or.inr ⟨by rfl,rfl⟩) ?_ ?_
      rotate_left
      ·simp only [Act.put,List.setIfInBounds_toArray,List.set_cons_zero,List.set_cons_succ,i64_w,i32_w]
       rfl
      refine pure_ (i:=7) (N:=some 25) (v:=undef) (a':=?_) #[true,true,true,true,true,true,true,true,false,false,false,false,false,false,false,false,false] rfl rfl (any_of HT_.out (by kernel_rfl)) (fun _ _ _ h => h) (Or.inr ⟨by rfl,rfl⟩) ?_ ?_
      rotate_left
      ·simp only [Act.put,List.setIfInBounds_toArray,List.set_cons_zero,List.set_cons_succ,i64_w,i32_w]
       rfl
      refine pure_ (i:=8) (N:=some 26) (v:=undef) (a':=?_) #[true,true,true,true,true,true,true,true,true,false,false,false,false,false,false,false,false] rfl rfl (any_of HT_.out (by kernel_rfl)) (fun _ _ _ h => h) (Or.inr ⟨by rfl,rfl⟩) ?_ ?_
      rotate_left
      ·simp only [Act.put,List.setIfInBounds_toArray,List.set_cons_zero,List.set_cons_succ,i64_w,i32_w]
       rfl
      refine pure_ (i:=9) (N:=some 27) (v:=undef) (a':=?_) #[true,true,true,true,true,true,true,true,true,true,false,false,false,false,false,false,false] rfl rfl (any_of HT_.out (by kernel_rfl)) (fun _ _ _ h => h) (Or.inr ⟨by rfl,rfl⟩) ?_ ?_
      rotate_left
      ·simp only [Act.put,List.setIfInBounds_toArray,List.set_cons_zero,List.set_cons_succ,i64_w,i32_w]
       rfl
      refine pure_ (i:=10) (N:=some 28) (v:=undef) (a':=?_) #[true,true,true,true,true,true,true,true,true,true,true,false,false,false,false,false,false] rfl rfl (any_of HT_.out (by kernel_rfl)) (fun _ _ _ h => h) (Or.inr ⟨by rfl,rfl⟩) ?_ ?_
      rotate_left
      ·simp only [Act.put,List.setIfInBounds_toArray,List.set_cons_zero,List.set_cons_succ,i64_w,i32_w]
       rfl
      refine pure_ (i:=11) (N:=some 29) (v:=undef) (a':=?_) #[true,true,true,true,true,true,true,true,true,true,true,true,false,false,false,false,false] rfl rfl (any_of HT_.out (by kernel_rfl)) (fun _ _ _ h => h) (Or.inr ⟨by rfl,rfl⟩) ?_ ?_
      rotate_left
      ·simp only [Act.put,List.setIfInBounds_toArray,List.set_cons_zero,List.set_cons_succ,i64_w,i32_w]
       rfl
      refine pure_ (i:=12) (N:=some 30) (v:=undef) (a':=?_) #[true,true,true,true,true,true,true,true,true,true,true,true,true,false,false,false,false] rfl rfl (any_of HT_.out (by kernel_rfl)) (fun _ _ _ h => h) (Or.inr ⟨by rfl,rfl⟩) ?_ ?_
      rotate_left
      ·simp only [Act.put,List.setIfInBounds_toArray,List.set_cons_zero,List.set_cons_succ,i64_w,i32_w]
       rfl
      refine pure_ (i:=13) (N:=some 31) (v:=undef) (a':=?_) #[true,true,true,true,true,true,true,true,true,true,true,true,true,true,false,false,false] rfl rfl (any_of HT_.out (by kernel_rfl)) (fun _ _ _ h => h) (Or.inr ⟨by rfl,rfl⟩) ?_ ?_
      rotate_left
      ·simp only [Act.put,List.setIfInBounds_toArray,List.set_cons_zero,List.set_cons_succ,i64_w,i32_w]
       rfl
      refine pure_ (i:=14) (N:=some 32) (v:=undef) (a':=?_) #[true,true,true,true,true,true,true,true,true,true,true,true,true,true,true,false,false] rfl rfl (any_of HT_.out (by kernel_rfl)) (fun _ _ _ h => h) (Or.inr ⟨by rfl,rfl⟩) ?_ ?_
      rotate_left
      ·simp only [Act.put,List.setIfInBounds_toArray,List.set_cons_zero,List.set_cons_succ,i64_w,i32_w]
       rfl
      refine pure_ (i:=15) (N:=some 33) (v:=undef) (a':=?_) #[true,true,true,true,true,true,true,true,true,true,true,true,true,true,true,true,false] rfl rfl (any_of HT_.out (by kernel_rfl)) (fun _ _ _ h => h) (Or.inr ⟨by rfl,rfl⟩) ?_ ?_
      rotate_left
      ·simp only [Act.put,List.setIfInBounds_toArray,List.set_cons_zero,List.set_cons_succ,i64_w,i32_w]
       rfl
      refine pure_ (i:=16) (N:=some 34) (v:=?_) (a':=?_) #[true,true,true,true,true,true,true,true,true,true,true,true,true,true,true,true,true] rfl rfl (any_of HT_.out (by kernel_rfl)) (fun _ _ _ h => h) (Or.inl ⟨by rfl,?_⟩) ?_ ?_
      rotate_left;(intro w';go_simp;with_reducible rfl);rotate_left;(simp only [Act.put,List.setIfInBounds_toArray,List.set_cons_zero,List.set_cons_succ,i64_w,i32_w];rfl)
      refine done_ (done_of HT_.out (by kernel_rfl)) ?_
      try go_wp2
      go_roundg k2
      case measure => have:=HK1.out;have:=HK2.out;omega
      case rel => exact ⟨(x0_2),(wrap64 (x8_1 + 1)),(by first|rfl|(simp;done)|(simp [*];done)),H',⟨by have:=HK1.out;have:=HK2.out;omega⟩,⟨by (with_reducible repeat (first|apply Kd.R_alloc|apply Kd.R_drewN|apply Kd.R_drew));exact HO_0.out⟩,⟨by repeat (first|(with_reducible first|exact HK.out|apply Kept.alloc|apply Kept.drewN|apply Kept.drew)|exact HK.out)⟩,⟨by repeat (first|(with_reducible first|exact HB.out|apply below_alloc|apply pw_below_drewN|apply below_drew1)|exact HB.out)⟩⟩
     rw [if_pos c5] at H
     have c5b0 : decide (a1 < x9_2) = true:=decide_eq_true c5
     clear c5
     by_cases c6 : 0 ≤ x9_2
     rotate_left
     ·rw [if_neg c6] at H
      exact absurd H (by simp)
     rw [if_pos c6] at H
     have c6b0 : decide (0 ≤ x9_2) = true:=decide_eq_true c6
     clear c6
     by_cases c7 : x9_2 < (x0_2.length : Int)
     rotate_left
     ·rw [if_neg c7] at H
      exact absurd H (by simp)
     rw [if_pos c7] at H
     have c7b0 : decide (x9_2 < (x0_2.length : Int)) = true:=decide_eq_true c7
     clear c7
     obtain ⟨ji8,hji8⟩ : ∃ j_ : Int,(wrap64 (x9_2 - 1)) = j_:=⟨_,rfl⟩
     replace H : (if 0 ≤ (ji8) then (if (ji8) < (x0_2.length : Int) then ((pf (rd x0_2 x9_2) (rd x0_2 (ji8))).bind fun t121 => (if t121 < 0 then (slices_insertionSortCmpFunc_int.l1 pf k2 ((x0_2.set (x9_2 : Int).toNat (rd x0_2 (ji8))).set ((ji8) : Int).toNat (rd x0_2 x9_2)) a1 a2 x8_1 ji8) else (slices_insertionSortCmpFunc_int.l0 pf k2 x0_2 a1 a2 (wrap64 (x8_1 + 1))))) else (none)) else (none)) = some r:=by first|(rw [hji8] at H;exact H)|(simp only [hji8] at H ⊢;exact H)
     have hji8w : (IntKind.i64.wrap (x9_2 - 1)) = ji8:=(i64_w _).trans hji8
     by_cases c9 : 0 ≤ (ji8)
     rotate_left
     ·rw [if_neg c9] at H
      exact absurd H (by simp)
     rw [if_pos c9] at H
     have c9b0 : decide (0 ≤ (ji8)) = true:=decide_eq_true c9
     clear c9
     by_cases c10 : (ji8) < (x0_2.length : Int)
     rotate_left
     ·rw [if_neg c10] at H
      exact absurd H (by simp)
     rw [if_pos c10] at H
     have c10b0 : decide ((ji8) < (x0_2.length : Int)) = true:=decide_eq_true c10
     clear c10
     replace H:=Option.bind_eq_some_iff.mp H
     obtain ⟨t121,A110,H⟩:=H
     replace H : (if t121 < 0 then (slices_insertionSortCmpFunc_int.l1 pf k2 ((x0_2.set (x9_2 : Int).toNat (rd x0_2 (ji8))).set ((ji8) : Int).toNat (rd x0_2 x9_2)) a1 a2 x8_1 ji8) else (slices_insertionSortCmpFunc_int.l0 pf k2 x0_2 a1 a2 (wrap64 (x8_1 + 1)))) = some r:=H
     have A11:=Aside0.mk A110
     clear A110
     by_cases c12 : t121 < 0
     rotate_left
     ·rw [if_neg c12] at H
      have c12b0 : decide (t121 < 0) = false:=decide_eq_false c12
      clear c12
      have H':=Aside0.mk H
      clear H
      try go_wp2
      have n0_:=Aside0.mk (Kd.R_drew HO_0.out)
      have n1_:=Aside0.mk (Kept.drew HK.out)
      have n2_:=Aside0.mk (below_drew1 HB.out)
      clear HO_0
      clear HK
      clear HB
      have HO_0:=n0_
      have HK:=n1_
      have HB:=n2_
      clear n0_ n1_ n2_
      obtain ⟨Ao22,co22,eo22⟩:=Kd.R_slice HO_0.out
      (first|subst eo22|(injection eo22 with f1_ f2_ f3_;have f4_:=f1_.symm;have f5_:=f3_.symm;clear f1_ f2_ f3_;subst f4_;subst f5_))
      have p119 : 0 ≤ (x9_2 : Int):=of_decide_eq_true (by first|(with_reducible assumption)|assumption)
      have q119 : x9_2 < (x0_2.length : Int):=of_decide_eq_true (by first|(with_reducible assumption)|assumption)
      obtain ⟨ad119,e119,hx119_0⟩:=Kd.at_int (Kd.R_reads' HO_0.out).2.2 x9_2 p119 q119
      cases e119
      replace p119:=eq_true p119
      replace q119:=eq_true q119
      have p120 : 0 ≤ ((ji8) : Int):=of_decide_eq_true (by first|(with_reducible assumption)|assumption)
      have q120 : (ji8) < (x0_2.length : Int):=of_decide_eq_true (by first|(with_reducible assumption)|assumption)
      obtain ⟨ad120,e120,hx120_0⟩:=Kd.at_int (Kd.R_reads' HO_0.out).2.2 (ji8) p120 q120
      obtain rfl : ad119 = ad120:=(by injection e120)
      replace p120:=eq_true p120
      replace q120:=eq_true q120
      refine start_ (n:=17) (S:=fun w' => w'.cell? (ad119.add (x9_2).toNat) = some (.int .i64 (rd x0_2 x9_2))∧w'.cell? (ad119.add ((ji8)).toNat) = some (.int .i64 (rd x0_2 (ji8)))) (ds:=[]) #[false,false,false,false,false,false,false,false,false,false,false,false,false,false,false,false,false] (by kernel_rfl) rfl rfl ⟨hx119_0,hx120_0⟩ (fun hHeld => ?_);refine with_tabW slices_insertionSortCmpFunc_int.tab4 slices_insertionSortCmpFunc_int.bits4 (fun HT_ HW_ => ?_)
      generalize wr.drew = w21 at HO_0 HK HB hx119_0 hx120_0 hHeld ⊢
      refine pure_ (i:=0) (N:=some 18) (v:=?_) (a':=?_) #[true,false,false,false,false,false,false,false,false,false,false,false,false,false,false,false,false] rfl rfl (any_of HT_.out (by kernel_rfl)) (fun _ _ _ h => h) (Or.inl ⟨by rfl,?_⟩) ?_ ?_
      rotate_left;(intro w';go_simp;with_reducible rfl);rotate_left;(simp only [Act.put,List.setIfInBounds_toArray,List.set_cons_zero,List.set_cons_succ,i64_w,i32_w];rfl)
      refine pure_ (i:=1) (N:=some 19) (v:=?_) (a':=?_) #[true,true,false,false,false,false,false,false,false,false,false,false,false,false,false,false,false] rfl rfl (any_of HT_.out (by kernel_rfl)) (fun _ _ _ h => h) (Or.inl ⟨by rfl,?_⟩) ?_ ?_
      rotate_left;(intro w';go_simp;with_reducible rfl);rotate_left;(simp only [Act.put,List.setIfInBounds_toArray,List.set_cons_zero,List.set_cons_succ,i64_w,i32_w];rfl)
      refine pure_ (i:=2) (N:=some 20) (v:=?_) (a':=?_) #[true,true,true,false,false,false,false,false,false,false,false,false,false,false,false,false,false] rfl rfl (any_of HT_.out (by kernel_rfl)) (fun _ _ _ h => h) (Or.inl ⟨by rfl,?_⟩) ?_ ?_
      rotate_left;(intro w';go_simp;with_reducible rfl);rotate_left;(simp only [Act.put,List.setIfInBounds_toArray,List.set_cons_zero,List.set_cons_succ,i64_w,i32_w];rfl)
      refine pure_ (i:=3) (N:=some 21) (v:=?_) (a':=?_) #[true,true,true,true,false,false,false,false,false,false,false,false,false,false,false,false,false] rfl rfl (any_of HT_.out (by kernel_rfl)) (fun _ _ _ h => h) (Or.inl ⟨by rfl,?_⟩) ?_ ?_
      rotate_left;(intro w';go_simp;with_reducible rfl);rotate_left;(simp only [Act.put,List.setIfInBounds_toArray,List.set_cons_zero,List.set_cons_succ,i64_w,i32_w];rfl)
      refine pure_ (i:=4) (N:=some 22) (v:=?_) (a':=?_) #[true,true,true,true,true,false,false,false,false,false,false,false,false,false,false,false,false] rfl rfl (any_of HT_.out (by kernel_rfl)) (fun _ _ _ h => h) (Or.inl ⟨by rfl,?_⟩) ?_ ?_
      rotate_left;(intro w';go_simp;with_reducible rfl);rotate_left;(simp only [Act.put,List.setIfInBounds_toArray,List.set_cons_zero,List.set_cons_succ,i64_w,i32_w];rfl)
      refine pure_ (i:=5) (N:=some 23) (v:=?_) (a':=?_) #[true,true,true,true,true,true,false,false,false,false,false,false,false,false,false,false,false] rfl rfl (any_of HT_.out (by kernel_rfl)) (fun _ _ _ h => h) (Or.inl ⟨by rfl,?_⟩) ?_ ?_
      rotate_left;(intro w';go_simp;with_reducible rfl);rotate_left;(simp only [Act.put,List.setIfInBounds_toArray,List.set_cons_zero,List.set_cons_succ,i64_w,i32_w];rfl)
      refine pure_ (i:=6) (N:=some 24) (v:=?_) (a':=?_) #[true,true,true,true,true,true,true,false,false,false,false,false,false,false,false,false,false] rfl rfl (any_of HT_.out (by kernel_rfl)) (fun _ _ _ h => h) (Or.inl ⟨by rfl,?_⟩) ?_ ?_
      rotate_left;(intro w';go_simp;with_reducible rfl);rotate_left;(simp only [Act.put,List.setIfInBounds_toArray,List.set_cons_zero,List.set_cons_succ,i64_w,i32_w];rfl)
      refine pure_ (i:=7) (N:=some 25) (v:=?_) (a':=?_) #[true,true,true,true,true,true,true,true,false,false,false,false,false,false,false,false,false] rfl rfl (any_of HT_.out (by kernel_rfl)) (fun _ _ _ h => h) (Or.inl ⟨by rfl,?_⟩) ?_ ?_
      rotate_left;(intro w';go_simp;with_reducible rfl);rotate_left;(simp only [Act.put,List.setIfInBounds_toArray,List.set_cons_zero,List.set_cons_succ,i64_w,i32_w];rfl)
      refine pure_ (i:=9) (N:=some 27) (v:=?_) (a':=?_) #[true,true,true,true,true,true,true,true,false,true,false,false,false,false,false,false,false] rfl rfl (any_of HT_.out (by kernel_rfl)) (fun _ _ _ h => h) (Or.inl ⟨by rfl,?_⟩) ?_ ?_
      rotate_left;(intro w';go_simp;with_reducible rfl);rotate_left;(simp only [Act.put,List.setIfInBounds_toArray,List.set_cons_zero,List.set_cons_succ,i64_w,i32_w];rfl)
      refine pure_ (i:=10) (N:=some 28) (v:=?_) (a':=?_) #[true,true,true,true,true,true,true,true,false,true,true,false,false,false,false,false,false] rfl rfl (any_of HT_.out (by kernel_rfl)) (fun _ _ _ h => h) (Or.inl ⟨by rfl,?_⟩) ?_ ?_
      rotate_left;(intro w';go_simp;with_reducible rfl);rotate_left;(simp only [Act.put,List.setIfInBounds_toArray,List.set_cons_zero,List.set_cons_succ,i64_w,i32_w];rfl)
      refine pure_ (i:=11) (N:=some 29) (v:=?_) (a':=?_) #[true,true,true,true,true,true,true,true,false,true,true,true,false,false,false,false,false] rfl rfl (any_of HT_.out (by kernel_rfl)) (fun _ _ _ h => h) (Or.inl ⟨by rfl,?_⟩) ?_ ?_
      rotate_left;(intro w';go_simp;with_reducible rfl);rotate_left;(simp only [Act.put,List.setIfInBounds_toArray,List.set_cons_zero,List.set_cons_succ,i64_w,i32_w];rfl)
      refine pure_ (i:=12) (N:=some 30) (v:=?_) (a':=?_) #[true,true,true,true,true,true,true,true,false,true,true,true,true,false,false,false,false] rfl rfl (any_of HT_.out (by kernel_rfl)) (fun _ _ _ h => h) (Or.inl ⟨by rfl,?_⟩) ?_ ?_
      rotate_left;(intro w';go_simp;with_reducible rfl);rotate_left;(simp only [Act.put,List.setIfInBounds_toArray,List.set_cons_zero,List.set_cons_succ,i64_w,i32_w];rfl)
      refine take_ (i:=8) (N:=some 26) (v:=?_) (a':=?_) #[true,true,true,true,true,true,true,true,true,true,true,true,true,false,false,false,false] rfl rfl (take_ofW HT_.out HW_.out (by kernel_rfl)) (fun _ _ _ h => h) (Or.inl ⟨by rfl,?_⟩) hHeld ?_ ?_
      rotate_left;(rintro w' ⟨s0,s1⟩;go_simp;with_reducible rfl);rotate_left;(simp only [Act.put,List.setIfInBounds_toArray,List.set_cons_zero,List.set_cons_succ,i64_w,i32_w];rfl)
      refine take_ (i:=13) (N:=some 31) (v:=?_) (a':=?_) #[true,true,true,true,true,true,true,true,true,true,true,true,true,true,false,false,false] rfl rfl (take_ofW HT_.out HW_.out (by kernel_rfl)) (fun _ _ _ h => h) (Or.inl ⟨by rfl,?_⟩) hHeld ?_ ?_
      rotate_left;(rintro w' ⟨s0,s1⟩;go_simp;with_reducible rfl);rotate_left;(simp only [Act.put,List.setIfInBounds_toArray,List.set_cons_zero,List.set_cons_succ,i64_w,i32_w];rfl)
      refine one_ (i:=14) (N:=some 32) #[true,true,true,true,true,true,true,true,true,true,true,true,true,true,true,false,false] rfl rfl (one_of HT_.out (by kernel_rfl)) (by decide) (fun K hK => ?_)
      refine goesW_ hF hFn hFb #[.int .i64 (rd x0_2 x9_2),.int .i64 (rd x0_2 (ji8))] (by rfl) rfl rfl rfl (by (try simp only [List.map_toArray,List.map_cons,List.map_nil]);first|done|(simp only [hji8];rfl)|rfl|(simp only [List.length_drop,List.length_take];rfl)) ?_
      refine (hP _ (by repeat (first|(with_reducible first|exact HK.out|apply Kept.alloc|apply Kept.drewN|apply Kept.drew)|exact HK.out)) (rd x0_2 x9_2) (rd x0_2 (ji8)) t121 A11.out).mono ?_
      rintro e w23 ⟨rfl,hb⟩
      have HS0_:=(hb.cell (World.block_lt_of_cell? _ _ (hHeld.1))).trans (hHeld.1)
      have HS1_:=(hb.cell (World.block_lt_of_cell? _ _ (hHeld.2))).trans (hHeld.2)
      refine ⟨_,rfl,?_⟩
      have n0_:=Aside0.mk (Kd.R_below (by (with_reducible repeat (first|apply Kd.R_alloc|apply Kd.R_drewN|apply Kd.R_drew));exact HO_0.out) hb)
      have n1_:=Aside0.mk (Kept.below (S:=(fun k_ => P0_ k_)) (by repeat (first|(with_reducible first|exact HK.out|apply Kept.alloc|apply Kept.drewN|apply Kept.drew)|exact HK.out)) hb)
      have n2_:=Aside0.mk (below_step (by repeat (first|(with_reducible first|exact HB.out|apply below_alloc|apply pw_below_drewN|apply below_drew1)|exact HB.out)) hb)
      clear HO_0
      clear HK
      clear HB
      have HO_0:=n0_
      have HK:=n1_
      have HB:=n2_
      clear n0_ n1_ n2_
      (try clear hb)
      (try clear hb2)
      (try clear hk)
      (try clear hi)
      refine hK.out _ _ ⟨HS0_,HS1_⟩ (fun hHeld => ?_)
      clear hK K
      refine norm_ (a':=?_) ?_ ?_
      rotate_left
      ·show Act.put _ (some 32) _ = _
       simp only [Act.put,List.setIfInBounds_toArray,List.set_cons_zero,List.set_cons_succ,i64_w,i32_w]
       rfl
      refine pure_ (i:=15) (N:=some 33) (v:=?_) (a':=?_) #[true,true,true,true,true,true,true,true,true,true,true,true,true,true,true,true,false] rfl rfl (any_of HT_.out (by kernel_rfl)) (fun _ _ _ h => h) (Or.inl ⟨by rfl,?_⟩) ?_ ?_
      rotate_left;(intro w';go_simp;with_reducible rfl);rotate_left;(simp only [Act.put,List.setIfInBounds_toArray,List.set_cons_zero,List.set_cons_succ,i64_w,i32_w];rfl)
      refine pure_ (i:=16) (N:=some 34) (v:=?_) (a':=?_) #[true,true,true,true,true,true,true,true,true,true,true,true,true,true,true,true,true] rfl rfl (any_of HT_.out (by kernel_rfl)) (fun _ _ _ h => h) (Or.inl ⟨by rfl,?_⟩) ?_ ?_
      rotate_left;(intro w';go_simp;with_reducible rfl);rotate_left;(simp only [Act.put,List.setIfInBounds_toArray,List.set_cons_zero,List.set_cons_succ,i64_w,i32_w];rfl)
      refine done_ (done_of HT_.out (by kernel_rfl)) ?_
      try go_wp2
      go_roundg k2
      case measure => have:=HK1.out;have:=HK2.out;omega
      case rel => exact ⟨(x0_2),(wrap64 (x8_1 + 1)),(by first|rfl|(simp;done)|(simp [*];done)),H',⟨by have:=HK1.out;have:=HK2.out;omega⟩,⟨by (with_reducible repeat (first|apply Kd.R_alloc|apply Kd.R_drewN|apply Kd.R_drew));exact HO_0.out⟩,⟨by repeat (first|(with_reducible first|exact HK.out|apply Kept.alloc|apply Kept.drewN|apply Kept.drew)|exact HK.out)⟩,⟨by repeat (first|(with_reducible first|exact HB.out|apply below_alloc|apply pw_below_drewN|apply below_drew1)|exact HB.out)⟩⟩
     rw [if_pos c12] at H
     have c12b0 : decide (t121 < 0) = true:=decide_eq_true c12
     clear c12
     obtain ⟨y124,hy124⟩ : ∃ y_ : List Int,y_ = (x0_2.set (x9_2 : Int).toNat (rd x0_2 (ji8))):=⟨_,rfl⟩
     replace H : (slices_insertionSortCmpFunc_int.l1 pf k2 (y124.set ((ji8) : Int).toNat (rd x0_2 x9_2)) a1 a2 x8_1 ji8) = some r:=by first|(rw [hy124];with_reducible exact H)|(have H2_:=(Option.bind_some _ _).symm.trans H;rw [hy124];with_reducible exact H2_)|(have H2_:=(Option.bind_some _ _).symm.trans H;with_reducible exact H2_)|with_reducible exact H|(rw [hy124];exact H)|exact H
     have Ny124:=Aside0.mk hy124
     clear hy124
     obtain ⟨y125,hy125⟩ : ∃ y_ : List Int,y_ = (y124.set ((ji8) : Int).toNat (rd x0_2 x9_2)):=⟨_,rfl⟩
     replace H : (slices_insertionSortCmpFunc_int.l1 pf k2 y125 a1 a2 x8_1 ji8) = some r:=by first|(rw [hy125];with_reducible exact H)|(have H2_:=(Option.bind_some _ _).symm.trans H;rw [hy125];with_reducible exact H2_)|(have H2_:=(Option.bind_some _ _).symm.trans H;with_reducible exact H2_)|with_reducible exact H|(rw [hy125];exact H)|exact H
     have Ny125:=Aside0.mk hy125
     clear hy125
     have H':=Aside0.mk H
     clear H
     try go_wp2
     have n0_:=Aside0.mk (Kd.R_drew HO_0.out)
     have n1_:=Aside0.mk (Kept.drew HK.out)
     have n2_:=Aside0.mk (below_drew1 HB.out)
     clear HO_0
     clear HK
     clear HB
     have HO_0:=n0_
     have HK:=n1_
     have HB:=n2_
     clear n0_ n1_ n2_
     obtain ⟨Ao16,co16,eo16⟩:=Kd.R_slice HO_0.out
     (first|subst eo16|(injection eo16 with f1_ f2_ f3_;have f4_:=f1_.symm;have f5_:=f3_.symm;clear f1_ f2_ f3_;subst f4_;subst f5_))
     have p119 : 0 ≤ (x9_2 : Int):=of_decide_eq_true (by first|(with_reducible assumption)|assumption)
     have q119 : x9_2 < (x0_2.length : Int):=of_decide_eq_true (by first|(with_reducible assumption)|assumption)
     obtain ⟨ad119,e119,hx119_0⟩:=Kd.at_int (Kd.R_reads' HO_0.out).2.2 x9_2 p119 q119
     cases e119
     replace p119:=eq_true p119
     replace q119:=eq_true q119
     have p120 : 0 ≤ ((ji8) : Int):=of_decide_eq_true (by first|(with_reducible assumption)|assumption)
     have q120 : (ji8) < (x0_2.length : Int):=of_decide_eq_true (by first|(with_reducible assumption)|assumption)
     obtain ⟨ad120,e120,hx120_0⟩:=Kd.at_int (Kd.R_reads' HO_0.out).2.2 (ji8) p120 q120
     obtain rfl : ad119 = ad120:=(by injection e120)
     replace p120:=eq_true p120
     replace q120:=eq_true q120
     refine start_ (n:=17) (S:=fun w' => w'.cell? (ad119.add (x9_2).toNat) = some (.int .i64 (rd x0_2 x9_2))∧w'.cell? (ad119.add ((ji8)).toNat) = some (.int .i64 (rd x0_2 (ji8)))) (ds:=[]) #[false,false,false,false,false,false,false,false,false,false,false,false,false,false,false,false,false] (by kernel_rfl) rfl rfl ⟨hx119_0,hx120_0⟩ (fun hHeld => ?_);refine with_tabW slices_insertionSortCmpFunc_int.tab4 slices_insertionSortCmpFunc_int.bits4 (fun HT_ HW_ => ?_)
     generalize wr.drew = w15 at HO_0 HK HB hx119_0 hx120_0 hHeld ⊢
     refine pure_ (i:=0) (N:=some 18) (v:=?_) (a':=?_) #[true,false,false,false,false,false,false,false,false,false,false,false,false,false,false,false,false] rfl rfl (any_of HT_.out (by kernel_rfl)) (fun _ _ _ h => h) (Or.inl ⟨by rfl,?_⟩) ?_ ?_
     rotate_left;(intro w';go_simp;with_reducible rfl);rotate_left;(simp only [Act.put,List.setIfInBounds_toArray,List.set_cons_zero,List.set_cons_succ,i64_w,i32_w];rfl)
     refine pure_ (i:=1) (N:=some 19) (v:=?_) (a':=?_) #[true,true,false,false,false,false,false,false,false,false,false,false,false,false,false,false,false] rfl rfl (any_of HT_.out (by kernel_rfl)) (fun _ _ _ h => h) (Or.inl ⟨by rfl,?_⟩) ?_ ?_
     rotate_left;(intro w';go_simp;with_reducible rfl);rotate_left;(simp only [Act.put,List.setIfInBounds_toArray,List.set_cons_zero,List.set_cons_succ,i64_w,i32_w];rfl)
     refine pure_ (i:=2) (N:=some 20) (v:=?_) (a':=?_) #[true,true,true,false,false,false,false,false,false,false,false,false,false,false,false,false,false] rfl rfl (any_of HT_.out (by kernel_rfl)) (fun _ _ _ h => h) (Or.inl ⟨by rfl,?_⟩) ?_ ?_
     rotate_left;(intro w';go_simp;with_reducible rfl);rotate_left;(simp only [Act.put,List.setIfInBounds_toArray,List.set_cons_zero,List.set_cons_succ,i64_w,i32_w];rfl)
     refine pure_ (i:=3) (N:=some 21) (v:=?_) (a':=?_) #[true,true,true,true,false,false,false,false,false,false,false,false,false,false,false,false,false] rfl rfl (any_of HT_.out (by kernel_rfl)) (fun _ _ _ h => h) (Or.inl ⟨by rfl,?_⟩) ?_ ?_
     rotate_left;(intro w';go_simp;with_reducible rfl);rotate_left;(simp only [Act.put,List.setIfInBounds_toArray,List.set_cons_zero,List.set_cons_succ,i64_w,i32_w];rfl)
     refine pure_ (i:=4) (N:=some 22) (v:=?_) (a':=?_) #[true,true,true,true,true,false,false,false,false,false,false,false,false,false,false,false,false] rfl rfl (any_of HT_.out (by kernel_rfl)) (fun _ _ _ h => h) (Or.inl ⟨by rfl,?_⟩) ?_ ?_
     rotate_left;(intro w';go_simp;with_reducible rfl);rotate_left;(simp only [Act.put,List.setIfInBounds_toArray,List.set_cons_zero,List.set_cons_succ,i64_w,i32_w];rfl)
     refine pure_ (i:=5) (N:=some 23) (v:=?_) (a':=?_) #[true,true,true,true,true,true,false,false,false,false,false,false,false,false,false,false,false] rfl rfl (any_of HT_.out (by kernel_rfl)) (fun _ _ _ h => h) (Or.inl ⟨by rfl,?_⟩) ?_ ?_
     rotate_left;(intro w';go_simp;with_reducible rfl);rotate_left;(simp only [Act.put,List.setIfInBounds_toArray,List.set_cons_zero,List.set_cons_succ,i64_w,i32_w];rfl)
     refine pure_ (i:=6) (N:=some 24) (v:=?_) (a':=?_) #[true,true,true,true,true,true,true,false,false,false,false,false,false,false,false,false,false] rfl rfl (any_of HT_.out (by kernel_rfl)) (fun _ _ _ h => h) (Or.inl ⟨by rfl,?_⟩) ?_ ?_
     rotate_left;(intro w';go_simp;with_reducible rfl);rotate_left;(simp only [Act.put,List.setIfInBounds_toArray,List.set_cons_zero,List.set_cons_succ,i64_w,i32_w];rfl)
     refine pure_ (i:=7) (N:=some 25) (v:=?_) (a':=?_) #[true,true,true,true,true,true,true,true,false,false,false,false,false,false,false,false,false] rfl rfl (any_of HT_.out (by kernel_rfl)) (fun _ _ _ h => h) (Or.inl ⟨by rfl,?_⟩) ?_ ?_
     rotate_left;(intro w';go_simp;with_reducible rfl);rotate_left;(simp only [Act.put,List.setIfInBounds_toArray,List.set_cons_zero,List.set_cons_succ,i64_w,i32_w];rfl)
     refine pure_ (i:=9) (N:=some 27) (v:=?_) (a':=?_) #[true,true,true,true,true,true,true,true,false,true,false,false,false,false,false,false,false] rfl rfl (any_of HT_.out (by kernel_rfl)) (fun _ _ _ h => h) (Or.inl ⟨by rfl,?_⟩) ?_ ?_
     rotate_left;(intro w';go_simp;with_reducible rfl);rotate_left;(simp only [Act.put,List.setIfInBounds_toArray,List.set_cons_zero,List.set_cons_succ,i64_w,i32_w];rfl)
     refine pure_ (i:=10) (N:=some 28) (v:=?_) (a':=?_) #[true,true,true,true,true,true,true,true,false,true,true,false,false,false,false,false,false] rfl rfl (any_of HT_.out (by kernel_rfl)) (fun _ _ _ h => h) (Or.inl ⟨by rfl,?_⟩) ?_ ?_
     rotate_left;(intro w';go_simp;with_reducible rfl);rotate_left;(simp only [Act.put,List.setIfInBounds_toArray,List.set_cons_zero,List.set_cons_succ,i64_w,i32_w];rfl)
     refine pure_ (i:=11) (N:=some 29) (v:=?_) (a':=?_) #[true,true,true,true,true,true,true,true,false,true,true,true,false,false,false,false,false] rfl rfl (any_of HT_.out (by kernel_rfl)) (fun _ _ _ h => h) (Or.inl ⟨by rfl,?_⟩) ?_ ?_
     rotate_left;(intro w';go_simp;with_reducible rfl);rotate_left;(simp only [Act.put,List.setIfInBounds_toArray,List.set_cons_zero,List.set_cons_succ,i64_w,i32_w];rfl)
     refine pure_ (i:=12) (N:=some 30) (v:=?_) (a':=?_) #[true,true,true,true,true,true,true,true,false,true,true,true,true,false,false,false,false] rfl rfl (any_of HT_.out (by kernel_rfl)) (fun _ _ _ h => h) (Or.inl ⟨by rfl,?_⟩) ?_ ?_
     rotate_left;(intro w';go_simp;with_reducible rfl);rotate_left;(simp only [Act.put,List.setIfInBounds_toArray,List.set_cons_zero,List.set_cons_succ,i64_w,i32_w];rfl)
     refine take_ (i:=8) (N:=some 26) (v:=?_) (a':=?_) #[true,true,true,true,true,true,true,true,true,true,true,true,true,false,false,false,false] rfl rfl (take_ofW HT_.out HW_.out (by kernel_rfl)) (fun _ _ _ h => h) (Or.inl ⟨by rfl,?_⟩) hHeld ?_ ?_
     rotate_left;(rintro w' ⟨s0,s1⟩;go_simp;with_reducible rfl);rotate_left;(simp only [Act.put,List.setIfInBounds_toArray,List.set_cons_zero,List.set_cons_succ,i64_w,i32_w];rfl)
     refine take_ (i:=13) (N:=some 31) (v:=?_) (a':=?_) #[true,true,true,true,true,true,true,true,true,true,true,true,true,true,false,false,false] rfl rfl (take_ofW HT_.out HW_.out (by kernel_rfl)) (fun _ _ _ h => h) (Or.inl ⟨by rfl,?_⟩) hHeld ?_ ?_
     rotate_left;(rintro w' ⟨s0,s1⟩;go_simp;with_reducible rfl);rotate_left;(simp only [Act.put,List.setIfInBounds_toArray,List.set_cons_zero,List.set_cons_succ,i64_w,i32_w];rfl)
     refine one_ (i:=14) (N:=some 32) #[true,true,true,true,true,true,true,true,true,true,true,true,true,true,true,false,false] rfl rfl (one_of HT_.out (by kernel_rfl)) (by decide) (fun K hK => ?_)
     refine goesW_ hF hFn hFb #[.int .i64 (rd x0_2 x9_2),.int .i64 (rd x0_2 (ji8))] (by rfl) rfl rfl rfl (by (try simp only [List.map_toArray,List.map_cons,List.map_nil]);first|done|(simp only [hji8];rfl)|rfl|(simp only [List.length_drop,List.length_take];rfl)) ?_
     refine (hP _ (by repeat (first|(with_reducible first|exact HK.out|apply Kept.alloc|apply Kept.drewN|apply Kept.drew)|exact HK.out)) (rd x0_2 x9_2) (rd x0_2 (ji8)) t121 A11.out).mono ?_
     rintro e w17 ⟨rfl,hb⟩
     have HS0_:=(hb.cell (World.block_lt_of_cell? _ _ (hHeld.1))).trans (hHeld.1)
     have HS1_:=(hb.cell (World.block_lt_of_cell? _ _ (hHeld.2))).trans (hHeld.2)
     refine ⟨_,rfl,?_⟩
     have n0_:=Aside0.mk (Kd.R_below (by (with_reducible repeat (first|apply Kd.R_alloc|apply Kd.R_drewN|apply Kd.R_drew));exact HO_0.out) hb)
     have n1_:=Aside0.mk (Kept.below (S:=(fun k_ => P0_ k_)) (by repeat (first|(with_reducible first|exact HK.out|apply Kept.alloc|apply Kept.drewN|apply Kept.drew)|exact HK.out)) hb)
     have n2_:=Aside0.mk (below_step (by repeat (first|(with_reducible first|exact HB.out|apply below_alloc|apply pw_below_drewN|apply below_drew1)|exact HB.out)) hb)
     clear HO_0
     clear HK
     clear HB
     have HO_0:=n0_
     have HK:=n1_
     have HB:=n2_
     clear n0_ n1_ n2_
     (try clear hb)
     (try clear hb2)
     (try clear hk)
     (try clear hi)
     refine hK.out _ _ ⟨HS0_,HS1_⟩ (fun hHeld => ?_)
     clear hK K
     refine norm_ (a':=?_) ?_ ?_
     rotate_left
     ·show Act.put _ (some 32) _ = _
      simp only [Act.put,List.setIfInBounds_toArray,List.set_cons_zero,List.set_cons_succ,i64_w,i32_w]
      rfl
     refine pure_ (i:=15) (N:=some 33) (v:=?_) (a':=?_) #[true,true,true,true,true,true,true,true,true,true,true,true,true,true,true,true,false] rfl rfl (any_of HT_.out (by kernel_rfl)) (fun _ _ _ h => h) (Or.inl ⟨by rfl,?_⟩) ?_ ?_
     rotate_left;(intro w';go_simp;with_reducible rfl);rotate_left;(simp only [Act.put,List.setIfInBounds_toArray,List.set_cons_zero,List.set_cons_succ,i64_w,i32_w];rfl)
     refine pure_ (i:=16) (N:=some 34) (v:=?_) (a':=?_) #[true,true,true,true,true,true,true,true,true,true,true,true,true,true,true,true,true] rfl rfl (any_of HT_.out (by kernel_rfl)) (fun _ _ _ h => h) (Or.inl ⟨by rfl,?_⟩) ?_ ?_
     rotate_left;(intro w';go_simp;with_reducible rfl);rotate_left;(simp only [Act.put,List.setIfInBounds_toArray,List.set_cons_zero,List.set_cons_succ,i64_w,i32_w];rfl)
     refine done_ (done_of HT_.out (by kernel_rfl)) ?_
     try go_wp2
     have n0_:=Aside0.mk (Kd.R_drew HO_0.out)
     have n1_:=Aside0.mk (Kept.drew HK.out)
     have n2_:=Aside0.mk (below_drew1 HB.out)
     clear HO_0
     clear HK
     clear HB
     have HO_0:=n0_
     have HK:=n1_
     have HB:=n2_
     clear n0_ n1_ n2_
     have p122 : 0 ≤ ((ji8) : Int):=of_decide_eq_true (by first|(with_reducible assumption)|assumption)
     have q122 : (ji8) < (x0_2.length : Int):=of_decide_eq_true (by first|(with_reducible assumption)|assumption)
     obtain ⟨ad122,e122,hx122_0⟩:=Kd.at_int (Kd.R_reads' HO_0.out).2.2 (ji8) p122 q122
     obtain rfl : ad119 = ad122:=(by injection e122)
     replace p122:=eq_true p122
     replace q122:=eq_true q122
     have p123 : 0 ≤ (x9_2 : Int):=of_decide_eq_true (by first|(with_reducible assumption)|assumption)
     have q123 : x9_2 < (x0_2.length : Int):=of_decide_eq_true (by first|(with_reducible assumption)|assumption)
     obtain ⟨ad123,e123,hx123_0⟩:=Kd.at_int (Kd.R_reads' HO_0.out).2.2 x9_2 p123 q123
     obtain rfl : ad119 = ad123:=(by injection e123)
     replace p123:=eq_true p123
     replace q123:=eq_true q123
     have p13 : 0 ≤ (x9_2 : Int):=of_decide_eq_true (by first|(with_reducible assumption)|assumption)
     have q13 : (x9_2 : Int) < ((x0_2.length : Int) : Int):=of_decide_eq_true (by first|(with_reducible assumption)|assumption)
     obtain ⟨go13,co13,eo13,gb13,gl13,cl13,HG13⟩:=Kd.R_form HO_0.out (by omega)
     (first|cases eo13|(injection eo13 with ea_ en_ ec_;(first|subst ea_|(injection ea_ with ea_;subst ea_));subst ec_;clear en_))
     have GB13:=Aside0.mk gb13
     have GG13:=Aside0.mk HG13
     clear gb13 gl13 HG13
     have HMgo13:=Aside0.mk (show (P0_ go13 ∨ w.heap.size ≤ go13) from (HO_0.out.1 _ rfl))
     (first|simp only [add_plain] at hx119_0|skip)
     (first|simp only [add_plain] at hx120_0|skip)
     (first|simp only [add_plain] at hx122_0|skip)
     (first|simp only [add_plain] at hx123_0|skip)
     obtain ⟨hx13_0,hf13_0⟩:=Kd.R_celln 0 HO_0.out (x9_2 : Int) p13 q13
     replace p13:=eq_true p13
     replace q13:=eq_true q13
     have HP19:=Kd.R_putn HO_0.out (x9_2 : Int) (rd x0_2 (ji8))
     rw [← Ny124.out] at HP19
     have HQ19:=Aside0.mk HP19
     clear HP19
     have p14 : 0 ≤ ((ji8) : Int):=of_decide_eq_true (by first|(with_reducible assumption)|assumption)
     have q14 : ((ji8) : Int) < ((x0_2.length : Int) : Int):=of_decide_eq_true (by first|(with_reducible assumption)|assumption)
     obtain ⟨hx14_0,hf14_0⟩:=Kd.R_celln 0 HQ19.out ((ji8) : Int) p14 q14
     replace p14:=eq_true p14
     replace q14:=eq_true q14
     have HP20:=Kd.R_putn HQ19.out ((ji8) : Int) (rd x0_2 x9_2)
     rw [← Ny125.out] at HP20
     have HQ20:=Aside0.mk HP20
     clear HP20
     refine start_ (n:=18) (S:=fun w' => w'.cell? ⟨go13,((ji8)).toNat,none⟩ = some (.int .i64 (rd x0_2 (ji8)))∧w'.cell? ⟨go13,(x9_2).toNat,none⟩ = some (.int .i64 (rd x0_2 x9_2))) (ds:=[15,17]) #[false,false,false,false,false,false,false,false,false,false,false,false,false,false,false,false,false,false] (by kernel_rfl) rfl rfl ⟨hx122_0,hx123_0⟩ (fun hHeld => ?_);refine with_tabW slices_insertionSortCmpFunc_int.tab6 slices_insertionSortCmpFunc_int.bits6 (fun HT_ HW_ => ?_)
     generalize w17.drew = w18 at HO_0 HK HB GG13 HQ19 HQ20 hf13_0 hf14_0 hx119_0 hx120_0 hx122_0 hx123_0 hx13_0 hx14_0 hHeld ⊢
     refine pure_ (i:=0) (N:=some 37) (v:=?_) (a':=?_) #[true,false,false,false,false,false,false,false,false,false,false,false,false,false,false,false,false,false] rfl rfl (any_of HT_.out (by kernel_rfl)) (fun _ _ _ h => h) (Or.inl ⟨by rfl,?_⟩) ?_ ?_
     rotate_left;(intro w';go_simp;with_reducible rfl);rotate_left;(simp only [Act.put,List.setIfInBounds_toArray,List.set_cons_zero,List.set_cons_succ,i64_w,i32_w];rfl)
     refine pure_ (i:=1) (N:=some 38) (v:=?_) (a':=?_) #[true,true,false,false,false,false,false,false,false,false,false,false,false,false,false,false,false,false] rfl rfl (any_of HT_.out (by kernel_rfl)) (fun _ _ _ h => h) (Or.inl ⟨by rfl,?_⟩) ?_ ?_
     rotate_left;(intro w';go_simp;with_reducible rfl);rotate_left;(simp only [Act.put,List.setIfInBounds_toArray,List.set_cons_zero,List.set_cons_succ,i64_w,i32_w];rfl)
     refine pure_ (i:=2) (N:=some 39) (v:=?_) (a':=?_) #[true,true,true,false,false,false,false,false,false,false,false,false,false,false,false,false,false,false] rfl rfl (any_of HT_.out (by kernel_rfl)) (fun _ _ _ h => h) (Or.inl ⟨by rfl,?_⟩) ?_ ?_
     rotate_left;(intro w';go_simp;with_reducible rfl);rotate_left;(simp only [Act.put,List.setIfInBounds_toArray,List.set_cons_zero,List.set_cons_succ,i64_w,i32_w];rfl)
     refine pure_ (i:=3) (N:=some 40) (v:=?_) (a':=?_) #[true,true,true,true,false,false,false,false,false,false,false,false,false,false,false,false,false,false] rfl rfl (any_of HT_.out (by kernel_rfl)) (fun _ _ _ h => h) (Or.inl ⟨by rfl,?_⟩) ?_ ?_
     rotate_left;(intro w';go_simp;with_reducible rfl);rotate_left;(simp only [Act.put,List.setIfInBounds_toArray,List.set_cons_zero,List.set_cons_succ,i64_w,i32_w];rfl)
     refine pure_ (i:=4) (N:=some 41) (v:=?_) (a':=?_) #[true,true,true,true,true,false,false,false,false,false,false,false,false,false,false,false,false,false] rfl rfl (any_of HT_.out (by kernel_rfl)) (fun _ _ _ h => h) (Or.inl ⟨by rfl,?_⟩) ?_ ?_
     rotate_left;(intro w';go_simp;with_reducible rfl);rotate_left;(simp only [Act.put,List.setIfInBounds_toArray,List.set_cons_zero,List.set_cons_succ,i64_w,i32_w];rfl)
     refine pure_ (i:=5) (N:=some 42) (v:=?_) (a':=?_) #[true,true,true,true,true,true,false,false,false,false,false,false,false,false,false,false,false,false] rfl rfl (any_of HT_.out (by kernel_rfl)) (fun _ _ _ h => h) (Or.inl ⟨by rfl,?_⟩) ?_ ?_
     rotate_left;(intro w';go_simp;with_reducible rfl);rotate_left;(simp only [Act.put,List.setIfInBounds_toArray,List.set_cons_zero,List.set_cons_succ,i64_w,i32_w];rfl)
     refine pure_ (i:=6) (N:=some 43) (v:=?_) (a':=?_) #[true,true,true,true,true,true,true,false,false,false,false,false,false,false,false,false,false,false] rfl rfl (any_of HT_.out (by kernel_rfl)) (fun _ _ _ h => h) (Or.inl ⟨by rfl,?_⟩) ?_ ?_
     rotate_left;(intro w';go_simp;with_reducible rfl);rotate_left;(simp only [Act.put,List.setIfInBounds_toArray,List.set_cons_zero,List.set_cons_succ,i64_w,i32_w];rfl)
     refine pure_ (i:=7) (N:=some 44) (v:=?_) (a':=?_) #[true,true,true,true,true,true,true,true,false,false,false,false,false,false,false,false,false,false] rfl rfl (any_of HT_.out (by kernel_rfl)) (fun _ _ _ h => h) (Or.inl ⟨by rfl,?_⟩) ?_ ?_
     rotate_left;(intro w';go_simp;with_reducible rfl);rotate_left;(simp only [Act.put,List.setIfInBounds_toArray,List.set_cons_zero,List.set_cons_succ,i64_w,i32_w];rfl)
     refine pure_ (i:=8) (N:=some 45) (v:=?_) (a':=?_) #[true,true,true,true,true,true,true,true,true,false,false,false,false,false,false,false,false,false] rfl rfl (any_of HT_.out (by kernel_rfl)) (fun _ _ _ h => h) (Or.inl ⟨by rfl,?_⟩) ?_ ?_
     rotate_left;(intro w';go_simp;with_reducible rfl);rotate_left;(simp only [Act.put,List.setIfInBounds_toArray,List.set_cons_zero,List.set_cons_succ,i64_w,i32_w];rfl)
     refine pure_ (i:=10) (N:=some 47) (v:=?_) (a':=?_) #[true,true,true,true,true,true,true,true,true,false,true,false,false,false,false,false,false,false] rfl rfl (any_of HT_.out (by kernel_rfl)) (fun _ _ _ h => h) (Or.inl ⟨by rfl,?_⟩) ?_ ?_
     rotate_left;(intro w';go_simp;with_reducible rfl);rotate_left;(simp only [Act.put,List.setIfInBounds_toArray,List.set_cons_zero,List.set_cons_succ,i64_w,i32_w];rfl)
     refine pure_ (i:=11) (N:=some 48) (v:=?_) (a':=?_) #[true,true,true,true,true,true,true,true,true,false,true,true,false,false,false,false,false,false] rfl rfl (any_of HT_.out (by kernel_rfl)) (fun _ _ _ h => h) (Or.inl ⟨by rfl,?_⟩) ?_ ?_
     rotate_left;(intro w';go_simp;with_reducible rfl);rotate_left;(simp only [Act.put,List.setIfInBounds_toArray,List.set_cons_zero,List.set_cons_succ,i64_w,i32_w];rfl)
     refine pure_ (i:=12) (N:=some 49) (v:=?_) (a':=?_) #[true,true,true,true,true,true,true,true,true,false,true,true,true,false,false,false,false,false] rfl rfl (any_of HT_.out (by kernel_rfl)) (fun _ _ _ h => h) (Or.inl ⟨by rfl,?_⟩) ?_ ?_
     rotate_left;(intro w';go_simp;with_reducible rfl);rotate_left;(simp only [Act.put,List.setIfInBounds_toArray,List.set_cons_zero,List.set_cons_succ,i64_w,i32_w];rfl)
     refine take_ (i:=9) (N:=some 46) (v:=?_) (a':=?_) #[true,true,true,true,true,true,true,true,true,true,true,true,true,false,false,false,false,false] rfl rfl (take_ofW HT_.out HW_.out (by kernel_rfl)) (fun _ _ _ h => h) (Or.inl ⟨by rfl,?_⟩) hHeld ?_ ?_
     rotate_left;(rintro w' ⟨s0,s1⟩;go_simp;with_reducible rfl);rotate_left;(simp only [Act.put,List.setIfInBounds_toArray,List.set_cons_zero,List.set_cons_succ,i64_w,i32_w];rfl)
     refine take_ (i:=13) (N:=some 50) (v:=?_) (a':=?_) #[true,true,true,true,true,true,true,true,true,true,true,true,true,true,false,false,false,false] rfl rfl (take_ofW HT_.out HW_.out (by kernel_rfl)) (fun _ _ _ h => h) (Or.inl ⟨by rfl,?_⟩) hHeld ?_ ?_
     rotate_left;(rintro w' ⟨s0,s1⟩;go_simp;with_reducible rfl);rotate_left;(simp only [Act.put,List.setIfInBounds_toArray,List.set_cons_zero,List.set_cons_succ,i64_w,i32_w];rfl)
     refine pure_ (i:=14) (N:=some 51) (v:=?_) (a':=?_) #[true,true,true,true,true,true,true,true,true,true,true,true,true,true,true,false,false,false] rfl rfl (any_of HT_.out (by kernel_rfl)) (fun _ _ _ h => h) (Or.inl ⟨by rfl,?_⟩) ?_ ?_
     rotate_left;(intro w';go_simp;with_reducible rfl);rotate_left;(simp only [Act.put,List.setIfInBounds_toArray,List.set_cons_zero,List.set_cons_succ,i64_w,i32_w];rfl)
     refine last_ (i:=15) (N:=none) #[true,true,true,true,true,true,true,true,true,true,true,true,true,true,true,true,false,false] rfl rfl (one_of HT_.out (by kernel_rfl)) (by decide) (fun K hK => ?_)
     refine skip_ (w1:=?_) (by rfl) rfl ?_ ?_
     rotate_left
     ·go_simp
      rfl
     refine hK.out _ _ ?_
     clear hK K
     refine pure_ (i:=16) (N:=some 52) (v:=?_) (a':=?_) #[true,true,true,true,true,true,true,true,true,true,true,true,true,true,true,true,true,false] rfl rfl (any_of HT_.out (by kernel_rfl)) (fun _ _ _ h => h) (Or.inl ⟨by rfl,?_⟩) ?_ ?_
     rotate_left;(intro w';go_simp;with_reducible rfl);rotate_left;(simp only [Act.put,List.setIfInBounds_toArray,List.set_cons_zero,List.set_cons_succ,i64_w,i32_w];rfl)
     refine last_ (i:=17) (N:=none) #[true,true,true,true,true,true,true,true,true,true,true,true,true,true,true,true,true,true] rfl rfl (one_of HT_.out (by kernel_rfl)) (by decide) (fun K hK => ?_)
     refine skip_ (w1:=?_) (by rfl) rfl ?_ ?_
     rotate_left
     ·go_simp
      rfl
     refine hK.out _ _ ?_
     clear hK K
     refine done_ (done_of HT_.out (by kernel_rfl)) ?_
     try go_wp2
     go_roundg k2
     case measure => have:=HK1.out;have:=HK2.out;omega
     case rel => exact ⟨(y125),(ji8),(by first|rfl|(simp;done)|(simp only [← hji8] <;> (first|rfl|simp))|(simp [*];done)),H',⟨by have:=HK1.out;have:=HK2.out;omega⟩,⟨by (with_reducible repeat (first|apply Kd.R_alloc|apply Kd.R_drewN|apply Kd.R_drew));exact HQ20.out⟩,⟨by repeat (first|(with_reducible first|exact HK.out|apply Kept.alloc|apply Kept.drewN|apply Kept.drew|refine Kept.setCell ?_ HMgo13.out _|refine Kept.setCell ?_ HMgo13.out _)|exact HK.out)⟩,⟨by repeat (first|(with_reducible first|exact HB.out|apply below_alloc|apply pw_below_drewN|apply below_drew1|refine below_set ?_ GB13.out|refine below_set ?_ GB13.out)|exact HB.out)⟩⟩
/-! #### 46 -/
mutual
def slices_stableCmpFunc_int.l0 (pf : Int→Int→Option Int) : Nat→List Int→Int→Int→Int→Int→Option (List Int)
 | 0,_,_,_,_,_ => none
 | k + 1,x0,x1,x6,x7,x8 => if x8 ≤ x1 then ((slices_insertionSortCmpFunc_int.f pf k x0 x7 x8).bind fun t154 => (slices_stableCmpFunc_int.l0 pf k t154 x1 x6 x8 (wrap64 (x8 + x6)))) else ((slices_insertionSortCmpFunc_int.f pf k x0 x7 x1).bind fun t155 => (slices_stableCmpFunc_int.l1 pf k t155 x1 x6))
def slices_stableCmpFunc_int.l1 (pf : Int→Int→Option Int) : Nat→List Int→Int→Int→Option (List Int)
 | 0,_,_,_ => none
 | k + 1,x0,x1,x6 => if x6 < x1 then (none) else (some x0)
end
def slices_stableCmpFunc_int.f (pf : Int→Int→Option Int) (k : Nat) (l0 : List Int) (a1 : Int) : Option (List Int):=slices_stableCmpFunc_int.l0 pf k l0 a1 20 0 20
theorem slices_stableCmpFunc_int.mono_l (pf : Int→Int→Option Int) : ∀ k,(∀ y0 y1 y2 y3 y4,LeO (slices_stableCmpFunc_int.l0 pf k y0 y1 y2 y3 y4) (slices_stableCmpFunc_int.l0 pf (k + 1) y0 y1 y2 y3 y4))∧(∀ y0 y1 y2,LeO (slices_stableCmpFunc_int.l1 pf k y0 y1 y2) (slices_stableCmpFunc_int.l1 pf (k + 1) y0 y1 y2))
 | 0 => ⟨fun _ _ _ _ _ r h => by simp [slices_stableCmpFunc_int.l0] at h,fun _ _ _ r h => by simp [slices_stableCmpFunc_int.l1] at h⟩
 | k + 1 => by
  obtain ⟨ih0,ih1⟩:=slices_stableCmpFunc_int.mono_l pf k
  refine ⟨?_,?_⟩
  ·intro y0 y1 y2 y3 y4
   unfold slices_stableCmpFunc_int.l0
   repeat' first
   | (with_reducible exact ih0 _ _ _ _ _)
   | (with_reducible exact ih1 _ _ _)
   | (with_reducible exact slices_insertionSortCmpFunc_int.mono pf _ _ _ _)
   | (with_reducible exact LeO.refl _)
   | (with_reducible exact LeO.none _)
   | (with_reducible refine LeO.ite ?_ ?_)
   | (with_reducible refine LeO.bind ?_ (fun _ => ?_))
   | exact ih0 _ _ _ _ _
   | exact ih1 _ _ _
   | exact slices_insertionSortCmpFunc_int.mono pf _ _ _ _
   | exact LeO.none _
   | refine LeO.ite ?_ ?_
   | refine LeO.bind ?_ (fun _ => ?_)
  ·intro y0 y1 y2
   unfold slices_stableCmpFunc_int.l1
   repeat' first
   | (with_reducible exact ih0 _ _ _ _ _)
   | (with_reducible exact ih1 _ _ _)
   | (with_reducible exact slices_insertionSortCmpFunc_int.mono pf _ _ _ _)
   | (with_reducible exact LeO.refl _)
   | (with_reducible exact LeO.none _)
   | (with_reducible refine LeO.ite ?_ ?_)
   | (with_reducible refine LeO.bind ?_ (fun _ => ?_))
   | exact ih0 _ _ _ _ _
   | exact ih1 _ _ _
   | exact slices_insertionSortCmpFunc_int.mono pf _ _ _ _
   | exact LeO.none _
   | refine LeO.ite ?_ ?_
   | refine LeO.bind ?_ (fun _ => ?_)
theorem slices_stableCmpFunc_int.mono (pf : Int→Int→Option Int) : ∀ a0 a1 k,LeO (slices_stableCmpFunc_int.f pf k a0 a1) (slices_stableCmpFunc_int.f pf (k + 1) a0 a1):=by
 intro a0 a1 k
 obtain ⟨ih0,ih1⟩:=slices_stableCmpFunc_int.mono_l pf k
 unfold slices_stableCmpFunc_int.f
 repeat' first
   | (with_reducible exact ih0 _ _ _ _ _)
   | (with_reducible exact ih1 _ _ _)
   | (with_reducible exact slices_insertionSortCmpFunc_int.mono pf _ _ _ _)
   | (with_reducible exact LeO.refl _)
   | (with_reducible exact LeO.none _)
   | (with_reducible refine LeO.ite ?_ ?_)
   | (with_reducible refine LeO.bind ?_ (fun _ => ?_))
   | exact ih0 _ _ _ _ _
   | exact ih1 _ _ _
   | exact slices_insertionSortCmpFunc_int.mono pf _ _ _ _
   | exact LeO.none _
   | refine LeO.ite ?_ ?_
   | refine LeO.bind ?_ (fun _ => ?_)
set_option maxHeartbeats 8000000 in
set_option maxRecDepth 100000 in
theorem slices_stableCmpFunc_int.calls (pf : Int→Int→Option Int) (F : FuncId) (fnF : Func) (caps : Array Value) (hF : Try.prog.funcs[F]? = some fnF) (hFn : (fnF.name == "runtime.NumGoroutine") = false) (hFb : fnF.body.isSome = true) (k : Nat) (P0_ : Nat→Prop) (u9000_ : Value) (l0 : List Int) (a1 : Int) (r : List Int) (w0 w : World) (hP : ∀ W_ : World,Kept w W_ (fun k_ => P0_ k_)→∀ (x y v : Int),pf x y = some v→Calls Try.prog F (#[.int .i64 x,.int .i64 y] ++ caps) W_ fun e W2 => e = .returned (.int .i64 v)∧Below W_.heap.size W_ W2) (hB : Below w0.heap.size w0 w) (ho0 : Kd.R (Kd.int .i64) 3 w w0.heap.size P0_ u9000_ l0) (h : slices_stableCmpFunc_int.f pf k l0 a1 = some r) :
  Calls Try.prog 46 #[u9000_,.int .i64 a1,.func (.func F) #[] caps] w fun e w' => e = .returned (.tuple #[])∧Kd.R (Kd.int .i64) 3 w' w0.heap.size (fun k_ => (P0_ k_ ∨ w.heap.size ≤ k_)) u9000_ r∧Below w0.heap.size w0 w'∧Kept w w' (fun k_ => P0_ k_):=by
 have HO0:=Aside0.mk (show Kd.R (Kd.int .i64) 3 w w0.heap.size (fun k_ => (P0_ k_ ∨ w.heap.size ≤ k_)) u9000_ l0 from Kd.R_mono ho0 (fun k_ hk => (.inl hk)))
 have HK:=Aside0.mk (Kept.refl w (fun k_ => P0_ k_))
 have HW0:=Aside0.mk hB.size
 have HB:=Aside0.mk hB
 clear hB
 have H : (slices_stableCmpFunc_int.l0 pf k l0 a1 20 0 20) = some r:=h
 clear h
 have H':=Aside0.mk H
 clear H
 go_enter Try.func46,Try.ntmps46
 go_wp2
 go_loopg [7,8] k (fun kq v7 v8 w' => ∃ (x0_1 : List Int) (x7_1 : Int) (x8_1 : Int),v7 = .int .i64 x7_1∧v8 = .int .i64 x8_1∧Aside0 (slices_stableCmpFunc_int.l0 pf kq x0_1 a1 20 x7_1 x8_1 = some r)∧Aside0 (kq ≤ k)∧Aside0 (Kd.R (Kd.int .i64) 3 w' w0.heap.size (fun k_ => (P0_ k_ ∨ w.heap.size ≤ k_)) u9000_ x0_1)∧Aside0 (Kept w w' (fun k_ => P0_ k_))∧Aside0 (Below w0.heap.size w0 w'))
 case atStart => exact ⟨(l0),(0),(20),(by first|rfl|(simp;done)|(simp [*];done)),(by first|rfl|(simp;done)|(simp [*];done)),H',⟨Nat.le_refl _⟩,⟨by (with_reducible repeat (first|apply Kd.R_alloc|apply Kd.R_drewN|apply Kd.R_drew));exact HO0.out⟩,⟨by repeat (first|(with_reducible first|exact HK.out|apply Kept.alloc|apply Kept.drewN|apply Kept.drew)|exact HK.out)⟩,⟨by repeat (first|(with_reducible first|exact HB.out|apply below_alloc|apply pw_below_drewN|apply below_drew1)|exact HB.out)⟩⟩
 case round =>
  clear H'
  try clear p2
  obtain ⟨x0_1,x7_1,x8_1,rfl,rfl,HA,HK1,HO_0,HK,HB⟩:=hrel
  cases gk with
  | zero => exact absurd HA.out (by simp [slices_stableCmpFunc_int.l0])
  | succ k1 =>
   have H:=HA.out
   clear HA
   simp only [slices_stableCmpFunc_int.l0] at H
   by_cases c3 : x8_1 ≤ a1
   ·rw [if_pos c3] at H
    have c3b0 : decide (x8_1 ≤ a1) = true:=decide_eq_true c3
    clear c3
    replace H:=Option.bind_eq_some_iff.mp H
    obtain ⟨t154,A40,H⟩:=H
    replace H : (slices_stableCmpFunc_int.l0 pf k1 t154 a1 20 x8_1 (wrap64 (x8_1 + 20))) = some r:=H
    have A4:=Aside0.mk A40
    clear A40
    have H':=Aside0.mk H
    clear H
    obtain ⟨Ao5,co5,eo5⟩:=Kd.R_slice HO_0.out
    subst eo5
    go_wp2_with (first|((with_reducible refine gate_callee (f:=51) rfl ?_);refine goesL_ (some 18) rfl rfl Try.func51 (by kernel_rfl) rfl #[.slice Ao5 x0_1.length co5,.int .i64 x7_1,.int .i64 x8_1,.func (.func F) #[] caps] rfl (by (try simp only [List.map_toArray,List.map_cons,List.map_nil]);first|done|rfl|(simp only [List.length_drop,List.length_take];rfl)) ?_;(refine (slices_insertionSortCmpFunc_int.calls pf F fnF caps hF hFn hFb k1 (fun k_ => some k_ = (.slice Ao5 x0_1.length co5 : Value).ownBlock) (.slice Ao5 x0_1.length co5) x0_1 x7_1 x8_1 t154 w0 _ (fun W_ hw_ => hP W_ (Kept.then_ (S:=(fun k_ => P0_ k_)) (by repeat (first|(with_reducible first|exact HK.out|apply Kept.alloc|apply Kept.drewN|apply Kept.drew)|exact HK.out)) hw_ (fun k_ hs_ => (fun e_ => (HO_0.out.1 k_ e_.symm)) hs_))) ?side1 ?side2 A4.out).mono ?_);(case side1 => repeat (first|(with_reducible first|exact HB.out|apply below_alloc|apply pw_below_drewN|apply below_drew1)|exact HB.out));(case side2 => exact Kd.R_tight rfl HO_0.out);rintro e w6 ⟨rfl,hy0,hb,hkp⟩;refine ⟨_,rfl,?_⟩;have n0_:=Aside0.mk (Kd.R_reok rfl hy0 (fun k_ e_ => HO_0.out.1 k_ e_));have n1_:=Aside0.mk (Kept.then_ (S:=(fun k_ => P0_ k_)) (by repeat (first|(with_reducible first|exact HK.out|apply Kept.alloc|apply Kept.drewN|apply Kept.drew)|exact HK.out)) hkp (fun k_ hs_ => (fun e_ => (HO_0.out.1 k_ e_.symm)) hs_));have n2_:=Aside0.mk (hb);clear HO_0;clear HK;clear HB;have HO_0:=n0_;have HK:=n1_;have HB:=n2_;clear n0_ n1_ n2_;(try clear hb);(try clear hkp);(try clear hy0)))
    go_roundg k1
    case measure => have:=HK1.out;omega
    case rel => exact ⟨(t154),(x8_1),(wrap64 (x8_1 + 20)),(by first|rfl|(simp;done)|(simp [*];done)),(by first|rfl|(simp;done)|(simp [*];done)),H',⟨by have:=HK1.out;omega⟩,⟨by (with_reducible repeat (first|apply Kd.R_alloc|apply Kd.R_drewN|apply Kd.R_drew));exact HO_0.out⟩,⟨by repeat (first|(with_reducible first|exact HK.out|apply Kept.alloc|apply Kept.drewN|apply Kept.drew)|exact HK.out)⟩,⟨by repeat (first|(with_reducible first|exact HB.out|apply below_alloc|apply pw_below_drewN|apply below_drew1)|exact HB.out)⟩⟩
   rw [if_neg c3] at H
   have c3b0 : decide (x8_1 ≤ a1) = false:=decide_eq_false c3
   clear c3
   replace H:=Option.bind_eq_some_iff.mp H
   obtain ⟨t155,A70,H⟩:=H
   replace H : (slices_stableCmpFunc_int.l1 pf k1 t155 a1 20) = some r:=H
   have A7:=Aside0.mk A70
   clear A70
   have H':=Aside0.mk H
   clear H
   obtain ⟨Ao8,co8,eo8⟩:=Kd.R_slice HO_0.out
   subst eo8
   go_wp2_with (first|((with_reducible refine gate_callee (f:=51) rfl ?_);refine goesL_ (some 27) rfl rfl Try.func51 (by kernel_rfl) rfl #[.slice Ao8 x0_1.length co8,.int .i64 x7_1,.int .i64 a1,.func (.func F) #[] caps] rfl (by (try simp only [List.map_toArray,List.map_cons,List.map_nil]);first|done|rfl|(simp only [List.length_drop,List.length_take];rfl)) ?_;(refine (slices_insertionSortCmpFunc_int.calls pf F fnF caps hF hFn hFb k1 (fun k_ => some k_ = (.slice Ao8 x0_1.length co8 : Value).ownBlock) (.slice Ao8 x0_1.length co8) x0_1 x7_1 a1 t155 w0 _ (fun W_ hw_ => hP W_ (Kept.then_ (S:=(fun k_ => P0_ k_)) (by repeat (first|(with_reducible first|exact HK.out|apply Kept.alloc|apply Kept.drewN|apply Kept.drew)|exact HK.out)) hw_ (fun k_ hs_ => (fun e_ => (HO_0.out.1 k_ e_.symm)) hs_))) ?side1 ?side2 A7.out).mono ?_);(case side1 => repeat (first|(with_reducible first|exact HB.out|apply below_alloc|apply pw_below_drewN|apply below_drew1)|exact HB.out));(case side2 => exact Kd.R_tight rfl HO_0.out);rintro e w9 ⟨rfl,hy0,hb,hkp⟩;refine ⟨_,rfl,?_⟩;have n0_:=Aside0.mk (Kd.R_reok rfl hy0 (fun k_ e_ => HO_0.out.1 k_ e_));have n1_:=Aside0.mk (Kept.then_ (S:=(fun k_ => P0_ k_)) (by repeat (first|(with_reducible first|exact HK.out|apply Kept.alloc|apply Kept.drewN|apply Kept.drew)|exact HK.out)) hkp (fun k_ hs_ => (fun e_ => (HO_0.out.1 k_ e_.symm)) hs_));have n2_:=Aside0.mk (hb);clear HO_0;clear HK;clear HB;have HO_0:=n0_;have HK:=n1_;have HB:=n2_;clear n0_ n1_ n2_;(try clear hb);(try clear hkp);(try clear hy0)))
   (try simp only [Act.put,List.setIfInBounds_toArray,List.set_cons_zero,List.set_cons_succ])
   go_loopg [6] k1 (fun kq v6 w' => ∃ (x0_2 : List Int) (x6_2 : Int),v6 = .int .i64 x6_2∧Aside0 (slices_stableCmpFunc_int.l1 pf kq x0_2 a1 x6_2 = some r)∧Aside0 (kq ≤ k1)∧Aside0 (Kd.R (Kd.int .i64) 3 w' w0.heap.size (fun k_ => (P0_ k_ ∨ w.heap.size ≤ k_)) (.slice Ao8 x0_1.length co8) x0_2)∧Aside0 (Kept w w' (fun k_ => P0_ k_))∧Aside0 (Below w0.heap.size w0 w'))
   case atStart => exact ⟨(t155),(20),(by first|rfl|(simp;done)|(simp [*];done)),H',⟨Nat.le_refl _⟩,⟨by (with_reducible repeat (first|apply Kd.R_alloc|apply Kd.R_drewN|apply Kd.R_drew));exact HO_0.out⟩,⟨by repeat (first|(with_reducible first|exact HK.out|apply Kept.alloc|apply Kept.drewN|apply Kept.drew)|exact HK.out)⟩,⟨by repeat (first|(with_reducible first|exact HB.out|apply below_alloc|apply pw_below_drewN|apply below_drew1)|exact HB.out)⟩⟩
   case round =>
    clear H'
    (try clear p2);(try clear c3);(try clear c3b0);(try clear c4);(try clear c5);(try clear p6);(try clear p2)
    obtain ⟨x0_2,x6_2,rfl,HA,HK2,HO_0,HK,HB⟩:=hrel
    have hl0_2:=(Kd.R_reads' HO_0.out).1
    rw [hl0_2] at HO_0
    (try simp only [hl0_2])
    cases gk with
    | zero => exact absurd HA.out (by simp [slices_stableCmpFunc_int.l1])
    | succ k2 =>
     have H:=HA.out
     clear HA
     simp only [slices_stableCmpFunc_int.l1] at H
     by_cases c10 : x6_2 < a1
     ·rw [if_pos c10] at H
      exact absurd H (by simp)
     rw [if_neg c10] at H
     have c10b0 : decide (x6_2 < a1) = false:=decide_eq_false c10
     clear c10
     obtain rfl:=Option.some.inj H
     go_wp2
     first|go_end0|((try simp only [Exit.inBlock,Exit.then]);refine bodyPost_ret (results_none rfl _ _ _) rfl ?_)
     exact ⟨by first|rfl|(simp [errW_none,errW_some] <;> rfl)|(simp [*,errW_none,errW_some] <;> rfl),(by first|exact (by (with_reducible repeat (first|apply Kd.R_alloc|apply Kd.R_drewN|apply Kd.R_drew));exact HO_0.out)|(simp only [hl0_2];exact (by (with_reducible repeat (first|apply Kd.R_alloc|apply Kd.R_drewN|apply Kd.R_drew));exact HO_0.out))),by repeat (first|(with_reducible first|exact HB.out|apply below_alloc|apply pw_below_drewN|apply below_drew1)|exact HB.out),by repeat (first|(with_reducible first|exact HK.out|apply Kept.alloc|apply Kept.drewN|apply Kept.drew)|exact HK.out)⟩


/-! #### 35 -/
def slices_SortStableFunc_int_int.f (pf : Int→Int→Option Int) (k : Nat) (l0 : List Int) : Option (List Int):=(slices_stableCmpFunc_int.f pf k l0 (l0.length : Int)).bind fun t156 => (some t156)
theorem slices_SortStableFunc_int_int.mono (pf : Int→Int→Option Int) : ∀ a0 k,LeO (slices_SortStableFunc_int_int.f pf k a0) (slices_SortStableFunc_int_int.f pf (k + 1) a0):=by
 intro a0 k
 unfold slices_SortStableFunc_int_int.f
 repeat' first
   | (with_reducible exact slices_stableCmpFunc_int.mono pf _ _ _)
   | (with_reducible exact LeO.refl _)
   | (with_reducible exact LeO.none _)
   | (with_reducible refine LeO.ite ?_ ?_)
   | (with_reducible refine LeO.bind ?_ (fun _ => ?_))
   | exact slices_stableCmpFunc_int.mono pf _ _ _
   | exact LeO.none _
   | refine LeO.ite ?_ ?_
   | refine LeO.bind ?_ (fun _ => ?_)
set_option maxHeartbeats 8000000 in
set_option maxRecDepth 100000 in
theorem slices_SortStableFunc_int_int.calls (pf : Int→Int→Option Int) (F : FuncId) (fnF : Func) (caps : Array Value) (hF : Try.prog.funcs[F]? = some fnF) (hFn : (fnF.name == "runtime.NumGoroutine") = false) (hFb : fnF.body.isSome = true) (k : Nat) (P0_ : Nat→Prop) (u9000_ : Value) (l0 : List Int) (r : List Int) (w0 w : World) (hP : ∀ W_ : World,Kept w W_ (fun k_ => P0_ k_)→∀ (x y v : Int),pf x y = some v→Calls Try.prog F (#[.int .i64 x,.int .i64 y] ++ caps) W_ fun e W2 => e = .returned (.int .i64 v)∧Below W_.heap.size W_ W2) (hB : Below w0.heap.size w0 w) (ho0 : Kd.R (Kd.int .i64) 3 w w0.heap.size P0_ u9000_ l0) (h : slices_SortStableFunc_int_int.f pf k l0 = some r) :
  Calls Try.prog 35 #[u9000_,.func (.func F) #[] caps] w fun e w' => e = .returned (.tuple #[])∧Kd.R (Kd.int .i64) 3 w' w0.heap.size (fun k_ => (P0_ k_ ∨ w.heap.size ≤ k_)) u9000_ r∧Below w0.heap.size w0 w'∧Kept w w' (fun k_ => P0_ k_):=by
 have HO0:=Aside0.mk (show Kd.R (Kd.int .i64) 3 w w0.heap.size (fun k_ => (P0_ k_ ∨ w.heap.size ≤ k_)) u9000_ l0 from Kd.R_mono ho0 (fun k_ hk => (.inl hk)))
 have HK:=Aside0.mk (Kept.refl w (fun k_ => P0_ k_))
 have HW0:=Aside0.mk hB.size
 have HB:=Aside0.mk hB
 clear hB
 have H : ((slices_stableCmpFunc_int.f pf k l0 (l0.length : Int)).bind fun t156 => (some t156)) = some r:=h
 clear h
 replace H:=Option.bind_eq_some_iff.mp H
 obtain ⟨t156,A20,H⟩:=H
 replace H : (some t156) = some r:=H
 have A2:=Aside0.mk A20
 clear A20
 obtain rfl:=Option.some.inj H
 obtain ⟨Ao3,co3,eo3⟩:=Kd.R_slice HO0.out
 subst eo3
 go_enter Try.func35,Try.ntmps35
 go_wp2_with (first|((with_reducible refine gate_callee (f:=46) rfl ?_);refine goesL_ (some 8) rfl rfl Try.func46 (by kernel_rfl) rfl #[.slice Ao3 l0.length co3,.int .i64 (l0.length : Int),.func (.func F) #[] caps] rfl (by (try simp only [List.map_toArray,List.map_cons,List.map_nil]);first|done|rfl|(simp only [List.length_drop,List.length_take];rfl)) ?_;(refine (slices_stableCmpFunc_int.calls pf F fnF caps hF hFn hFb k (fun k_ => some k_ = (.slice Ao3 l0.length co3 : Value).ownBlock) (.slice Ao3 l0.length co3) l0 (l0.length : Int) t156 w0 _ (fun W_ hw_ => hP W_ (Kept.then_ (S:=(fun k_ => P0_ k_)) (by repeat (first|(with_reducible first|exact HK.out|apply Kept.alloc|apply Kept.drewN|apply Kept.drew)|exact HK.out)) hw_ (fun k_ hs_ => (fun e_ => (HO0.out.1 k_ e_.symm)) hs_))) ?side1 ?side2 A2.out).mono ?_);(case side1 => repeat (first|(with_reducible first|exact HB.out|apply below_alloc|apply pw_below_drewN|apply below_drew1)|exact HB.out));(case side2 => exact Kd.R_tight rfl HO0.out);rintro e w4 ⟨rfl,hy0,hb,hkp⟩;refine ⟨_,rfl,?_⟩;have n0_:=Aside0.mk (Kd.R_reok rfl hy0 (fun k_ e_ => HO0.out.1 k_ e_));have n1_:=Aside0.mk (Kept.then_ (S:=(fun k_ => P0_ k_)) (by repeat (first|(with_reducible first|exact HK.out|apply Kept.alloc|apply Kept.drewN|apply Kept.drew)|exact HK.out)) hkp (fun k_ hs_ => (fun e_ => (HO0.out.1 k_ e_.symm)) hs_));have n2_:=Aside0.mk (hb);clear HO0;clear HK;clear HB;have HO0:=n0_;have HK:=n1_;have HB:=n2_;clear n0_ n1_ n2_;(try clear hb);(try clear hkp);(try clear hy0)))
 first|go_end0|((try simp only [Exit.inBlock,Exit.then]);refine bodyPost_ret (results_none rfl _ _ _) rfl ?_)
 exact ⟨by first|rfl|(simp [errW_none,errW_some] <;> rfl)|(simp [*,errW_none,errW_some] <;> rfl),by (with_reducible repeat (first|apply Kd.R_alloc|apply Kd.R_drewN|apply Kd.R_drew));exact HO0.out,by repeat (first|(with_reducible first|exact HB.out|apply below_alloc|apply pw_below_drewN|apply below_drew1)|exact HB.out),by repeat (first|(with_reducible first|exact HK.out|apply Kept.alloc|apply Kept.drewN|apply Kept.drew)|exact HK.out)⟩


end Go.Proofs.Ytbecejhjdagkdaa.L
