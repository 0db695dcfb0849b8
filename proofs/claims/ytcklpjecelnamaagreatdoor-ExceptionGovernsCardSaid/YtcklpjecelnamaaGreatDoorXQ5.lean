/- Exceptions: the law of what governs. -/
import Derived.Test.YtcklpjecelnamaaGreatDoorXP
import Derived.Test.YtcklpjecelnamaaGreatDoorFn3
set_option linter.unusedVariables false
set_option linter.unusedSimpArgs false
namespace Go.Eng.N
open Go Go.Eng
theorem chgV_len (l : List Exc) (all : List Cal) (day : Int) : (chgV l all day).length < 2 ^ 58:=by
  have h:=chg_len (gv l all day) mins1440 (prev l all day)
  rw [mins_len] at h
  unfold chgV
  omega
theorem f5_ok {l : List Exc} {all : List Cal} {f g : Bool} (he : ∀ x∈l,x.es.length≤2 ^ 48) (hc : ∀ c∈all,c.ps.length≤2 ^ 48) {day m : Int} {K : Bool→Prop} (h : K true) : f5 (l.map Exc.c) f (all.map Cal.c) g day m K:=by
  refine ⟨?_⟩
  unfold f5_d
  refine f17_ok he hc (bB_not (bB_of (fun q=>?_) fun q=>f7_ok h))
  have hs:=smB_t q
  refine f20_ok hs ?_
  by_cases hd : chkD l all day = 0
  · obtain ⟨q1,h1,h2⟩:=chkD_0 hd
    have hv:=Vd.of hs q1
    rw [if_pos hd]
    have fin : ∀ (i k n e : Int),(if 0≤m∧m < 1440 then (i,k,n) = gv l all day m∧e = 0 else e = 6)→f21 (l.map Exc.c) f (all.map Cal.c) g day (fun es13 full14 n15=>f19 (l.map Exc.c) f (all.map Cal.c) g (fun n16=>bB (n16 == 0) (f13 day (fun b17=>bB (!b17) (f5_p17 (l.map Exc.c) f (all.map Cal.c) g day m i e es13 full14 n15 1 k n (fun b66=>K b66)) (f5_p17 (l.map Exc.c) f (all.map Cal.c) g day m i e es13 full14 n15 n16 k n (fun b67=>K b67)))) (f5_p17 (l.map Exc.c) f (all.map Cal.c) g day m i e es13 full14 n15 n16 k n (fun b68=>K b68)))):=by
      intro i k n e hx
      refine f21_ok hs ?_
      rw [if_pos hd]
      refine f19_ok hs ?_
      rw [q1]
      refine bB_t rfl (f13_ok (bB_not (bB_t (decide_eq_true ⟨h1,h2⟩) ?_)))
      unfold f5_p17
      refine bB_f rfl (bB_f rfl (f22_ok hv h1 h2 (f16_ok (chgV_len l all day) ?_)))
      rw [decide_eq_true rfl]
      refine bB_not (bB_t rfl ?_)
      unfold f5_p25
      by_cases hm : 0≤m∧m < 1440
      · rw [if_pos hm] at hx
        obtain ⟨hx1,rfl⟩:=hx
        refine bB_f (decide_eq_false (by omega)) (bB_f (decide_eq_false (by omega)) ?_)
        unfold f5_p29
        refine f24_ok hv h1 h2 (f23_ok hs.hes hv.inc (by have:=held_len hv day; omega) (f7_ok (bB_t rfl (bB_t rfl ?_))))
        rw [show govV l m (held l all day) = gv l all day m from rfl,← hx1]
        dsimp only
        rw [BEq.rfl,BEq.rfl,BEq.rfl]
        exact bB_t rfl h
      · rw [if_neg hm] at hx
        subst hx
        refine bB_d (fun _=>f7_ok (bB_t rfl h)) fun z=>bB_t (decide_eq_true (by omega)) (f7_ok (bB_t rfl h))
    by_cases hm : 0≤m∧m < 1440
    · rw [if_pos hm]
      exact fin _ _ _ _ (by rw [if_pos hm]; exact ⟨rfl,rfl⟩)
    · rw [if_neg hm]
      exact fin _ _ _ _ (by rw [if_neg hm])
  · rw [if_neg hd]
    refine f21_ok hs ?_
    rw [if_neg hd]
    refine f19_ok hs ?_
    have fin : ∀ {e : Int},e≠0→e = chkD l all day→f5_p17 (l.map Exc.c) f (all.map Cal.c) g day m 0 (chkD l all day) [] true (chkD l all day) e 0 0 (fun b=>K b):=by
      rintro e h0 rfl
      unfold f5_p17
      refine bB_n (fun _=>f7_ok (bB_t rfl ?_)) fun z=>absurd z h0
      rw [BEq.rfl]
      exact bB_t rfl (bB_t rfl (bB_t rfl (bB_t rfl h)))
    by_cases q1 : chkV l all = 0
    · rw [q1]
      have hday : ¬ (0≤day∧day≤73048):=fun z=>hd (by unfold chkD; rw [if_neg (fun y=>y q1),if_pos z])
      refine bB_t rfl (f13_ok (bB_not (bB_f (decide_eq_false hday) (fin (by decide) ?_))))
      unfold chkD; rw [if_neg (fun y=>y q1),if_neg hday]
    · have e : chkD l all day = chkV l all:=by unfold chkD; rw [if_pos q1]
      refine bB_e (fun z=>absurd z q1) fun _=>fin q1 e.symm
end Go.Eng.N
