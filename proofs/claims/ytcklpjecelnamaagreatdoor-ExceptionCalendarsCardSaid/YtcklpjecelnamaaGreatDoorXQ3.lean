/- Exceptions: the law of calendars. -/
import Derived.Test.YtcklpjecelnamaaGreatDoorXP
import Derived.Test.YtcklpjecelnamaaGreatDoorFn3
set_option linter.unusedVariables false
set_option linter.unusedSimpArgs false
namespace Go.Eng.N
open Go Go.Eng
theorem f3_p33_sp {c : Cal} (hc : CalOk c) {a b : Int} (ha : 0≤a∧a≤73048) {xs : List (List PC)} {e : Int} (hx : if 0≤b∧b≤73048 then xs = (daysL (inV c) (span a b) a).map zc∧e = 0 else e = 1) {f : Bool} {K : Bool→Prop} (h : K true) :
    f3_p33 a b xs f e c.name (c.ps.map Pt.c) c.f K:=by
  unfold f3_p33
  refine f13_ok (bB_not (bB_d (fun q=>?_) fun q=>?_))
  · rw [if_pos q] at hx
    obtain ⟨rfl,rfl⟩:=hx
    unfold f3_p40
    refine gather (inV c) (span a b) a (by unfold span; omega) ⟨ha.1,by unfold span; omega⟩ ?_ ?_
    · intro j i m es N hj hl hm hA hB
      have hr : a + (j : Int)≤b:=by unfold span at hj; omega
      unfold f3_p40b0
      dsimp only
      have e3 : w64 (a + (j : Int) + 1) = a + ((j + 1 : Nat) : Int):=by rw [w64_in (by omega) (by omega)]; omega
      rw [e3]
      refine bB_t (decide_eq_true hr) (f15_ok hc (by omega) (by omega) (bB_of (fun z=>⟨hl,by unfold span at hj; omega,by unfold span at hj; omega,hA z⟩) hB))
    · intro i m es N he
      unfold f3_p40b0
      dsimp only
      refine bB_f (decide_eq_false (by unfold span; omega)) ?_
      rw [he]
      refine f7_ok (bB_t rfl (bB_t rfl (f16_ok ?_ ?_)))
      · have:=daysL_len (inV c) (span a b) a
        unfold span at this ⊢
        omega
      · rw [decide_eq_true rfl]; exact h
  · rw [if_neg q] at hx
    subst hx
    exact f7_ok (bB_t rfl h)
theorem f3_p7_sp {c : Cal} {a b : Int} {K : Bool→Prop} (h : K true) : f3_p7 a b c.name (c.ps.map Pt.c) c.f K:=by
  unfold f3_p7
  refine f8_ok c (f9_ok c (bB_n (fun q=>absurd rfl q) fun _=>?_))
  by_cases hc : calchk c = 0
  · by_cases ha : 0≤a∧a≤73048
    · refine f10_ok ?_
      rw [if_pos hc,if_pos ha]
      refine f11_ok ?_
      rw [if_pos hc]
      have fin : ∀ (xs : List (List PC)) (f : Bool) (e : Int),(if 0≤b∧b≤73048 then xs = (daysL (inV c) (span a b) a).map zc∧e = 0 else e = 1)→f12 c.name (c.ps.map Pt.c) c.f a (fun n20 n21=>bB (calchk c != 0) (f7 (fun b22=>bB b22 (bB ((0 : Int) == calchk c) (bB (e == calchk c) (bB (n21 == calchk c) (bB (!inV c a) (bB (((xs.length : Nat) : Int) == 0) (K (n20 == 0)) (K false)) (K false)) (K false)) (K false)) (K false)) (K false))) (f13 a (fun b23=>bB (!b23) (f7 (fun b24=>bB b24 (bB ((0 : Int) == 1) (bB (e == 1) (K (n21 == 1)) (K false)) (K false)) (K false))) (f14 c.name (c.ps.map Pt.c) c.f a (fun n25=>bB ((0 : Int) != 0) (K false) (f15 c.name (c.ps.map Pt.c) c.f a (fun b26=>bB (!(inV c a == b26)) (K false) (bB (decide (n25 < 0)) (bB (n21 != 9) (K false) (bB (decide (n25≥0)) (bB (n21 != 0) (K false) (bB (n20 != n25) (K false) (f3_p33 a b xs f e c.name (c.ps.map Pt.c) c.f (fun b54=>K b54)))) (f3_p33 a b xs f e c.name (c.ps.map Pt.c) c.f (fun b55=>K b55)))) (bB (decide (n25≥0)) (bB (n21 != 0) (K false) (bB (n20 != n25) (K false) (f3_p33 a b xs f e c.name (c.ps.map Pt.c) c.f (fun b56=>K b56)))) (f3_p33 a b xs f e c.name (c.ps.map Pt.c) c.f (fun b57=>K b57))))))))))):=by
        intro xs f e hx
        have hp:=f3_p33_sp (f:=f) (.of hc) ha hx h
        refine f12_ok ?_
        rw [if_pos hc,if_pos ha,hc]
        by_cases hn : nextC c a < 0
        · rw [if_pos hn]
          refine bB_f rfl (f13_ok (bB_not (bB_t (decide_eq_true ha) (f14_ok (.of hc) ha.1 ha.2 (bB_f rfl (f15_ok (.of hc) ha.1 ha.2 ?_))))))
          rw [BEq.rfl]
          exact bB_f rfl (bB_t (decide_eq_true hn) (bB_f rfl (bB_f (decide_eq_false (by omega)) hp)))
        · rw [if_neg hn]
          refine bB_f rfl (f13_ok (bB_not (bB_t (decide_eq_true ha) (f14_ok (.of hc) ha.1 ha.2 (bB_f rfl (f15_ok (.of hc) ha.1 ha.2 ?_))))))
          rw [BEq.rfl]
          refine bB_f rfl (bB_f (decide_eq_false hn) (bB_t (decide_eq_true (by omega)) (bB_f rfl (bB_f (by simp) hp))))
      by_cases hb : 0≤b∧b≤73048
      · rw [if_pos ⟨ha,hb⟩]
        exact fin _ _ _ (by rw [if_pos hb]; exact ⟨rfl,rfl⟩)
      · rw [if_neg (fun z=>hb z.2)]
        exact fin _ _ _ (by rw [if_neg hb])
    · refine f10_ok ?_
      rw [if_pos hc,if_neg ha]
      refine f11_ok ?_
      rw [if_pos hc,if_neg (fun z=>ha z.1)]
      refine f12_ok ?_
      rw [if_pos hc,if_neg ha,hc]
      exact bB_f rfl (f13_ok (bB_not (bB_f (decide_eq_false ha) (f7_ok (bB_t rfl (bB_t rfl (bB_t rfl h)))))))
  · refine f10_ok ?_
    rw [if_neg hc]
    refine f11_ok ?_
    rw [if_neg hc]
    refine f12_ok ?_
    rw [if_neg hc]
    refine bB_n (fun _=>f7_ok (bB_t rfl ?_)) fun z=>absurd z hc
    rw [BEq.rfl]
    exact bB_t rfl (bB_t rfl (bB_t rfl (bB_t rfl (bB_t rfl h))))
theorem f3_ok {c : Cal} {a b : Int} {K : Bool→Prop} (h : K true) : f3 c.name (c.ps.map Pt.c) c.f a b K:=by
  refine ⟨?_⟩
  unfold f3_d
  have hp:=f3_p7_sp (c:=c) (a:=a) (b:=b) h
  exact bB_d (fun _=>f7_ok h) fun _=>bB_d (fun _=>bB_d (fun _=>bB_d (fun _=>bB_d (fun _=>f7_ok h) fun _=>hp) fun _=>hp) fun _=>hp) fun _=>hp
end Go.Eng.N
