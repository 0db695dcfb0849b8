/- Exceptions: the law of those that hold. -/
import Derived.Test.YtcklpjecelnamaaGreatDoorXP
import Derived.Test.YtcklpjecelnamaaGreatDoorFn3
set_option linter.unusedVariables false
set_option linter.unusedSimpArgs false
namespace Go.Eng.N
open Go Go.Eng
theorem clash_len {l : List Exc} {all : List Cal} (hv : Vd l all) (day : Int) : (clash l all day).length < 2 ^ 58:=by
  have h1:=prs_len (eqp l) (hIx l all day)
  have h2:=(held_perm l all day).length_eq
  have h3:=held_len hv day
  have h4:=Nat.mul_le_mul (by omega : (hIx l all day).length≤64) (by omega : (hIx l all day).length≤64)
  unfold clash
  omega
theorem f6_ok {l : List Exc} {all : List Cal} {f g : Bool} (he : ∀ x∈l,x.es.length≤2 ^ 48) (hc : ∀ c∈all,c.ps.length≤2 ^ 48) {day : Int} {K : Bool→Prop} (h : K true) : f6 (l.map Exc.c) f (all.map Cal.c) g day K:=by
  refine ⟨?_⟩
  unfold f6_d
  refine f17_ok he hc (bB_not (bB_of (fun q=>?_) fun q=>f7_ok h))
  have hs:=smB_t q
  refine f25_ok hs ?_
  by_cases hd : chkD l all day = 0
  · obtain ⟨q1,h1,h2⟩:=chkD_0 hd
    have hv:=Vd.of hs q1
    rw [if_pos hd]
    refine f26_ok hs ?_
    rw [if_pos hd]
    refine f19_ok hs ?_
    rw [q1]
    refine bB_t rfl (f13_ok (bB_not (bB_t (decide_eq_true ⟨h1,h2⟩) ?_)))
    unfold f6_p17
    refine bB_f rfl (f7_ok (bB_t rfl (bB_t rfl (bB_t rfl (f24_ok hv h1 h2 ?_)))))
    rw [← zc_ix]
    refine f16_ok ?_ ?_
    · unfold ixZ; rw [List.length_map]; have:=held_len hv day; omega
    · rw [decide_eq_true rfl]
      refine bB_t rfl (f28_ok hv h1 h2 (f27_ok (clash_len hv day) ?_))
      rw [decide_eq_true rfl]; exact h
  · rw [if_neg hd]
    refine f26_ok hs ?_
    rw [if_neg hd]
    refine f19_ok hs ?_
    have fin : ∀ {e : Int},e≠0→e = chkD l all day→f6_p17 (l.map Exc.c) f (all.map Cal.c) g day [] true (chkD l all day) [] true (chkD l all day) e (fun b=>K b):=by
      rintro e h0 rfl
      unfold f6_p17
      refine bB_n (fun _=>f7_ok (bB_t rfl ?_)) fun z=>absurd z h0
      rw [BEq.rfl]
      exact bB_t rfl (bB_t rfl (bB_t rfl h))
    by_cases q1 : chkV l all = 0
    · rw [q1]
      have hday : ¬ (0≤day∧day≤73048):=fun z=>hd (by unfold chkD; rw [if_neg (fun y=>y q1),if_pos z])
      refine bB_t rfl (f13_ok (bB_not (bB_f (decide_eq_false hday) (fin (by decide) ?_))))
      unfold chkD; rw [if_neg (fun y=>y q1),if_neg hday]
    · have e : chkD l all day = chkV l all:=by unfold chkD; rw [if_pos q1]
      refine bB_e (fun z=>absurd z q1) fun _=>fin q1 e.symm
end Go.Eng.N
