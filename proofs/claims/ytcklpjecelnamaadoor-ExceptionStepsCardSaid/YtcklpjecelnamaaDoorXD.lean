/- Which days a pattern matches: the functions of packages pattern and ref06. -/
import Derived.Test.YtcklpjecelnamaaDoorXC
import Derived.Test.YtcklpjecelnamaaDoorFn1
import Derived.Test.YtcklpjecelnamaaDoorFn2
set_option linter.unusedVariables false
set_option linter.unusedSimpArgs false
namespace Go.Eng.N
open Go Go.Eng
structure DOk (x last : Int) : Prop where
  lo : 1≤x
  hi : x≤last
  l28 : 28≤last
  l31 : last≤31
theorem ofDay_D {day : Int} (h1 : 0≤day) (h2 : day≤73048) : DOk (ofDay day).d (dim (ofDay day).y (ofDay day).m)∧1≤(ofDay day).m∧(ofDay day).m≤12:=by
  obtain ⟨q1,q2,d1,d2,d3,d4,d5⟩:=ofDay_ok h1 h2
  exact ⟨⟨d3,d4,dim_lo d1 d2,(dim_bd _ _).2⟩,d1,d2⟩
theorem p117_31 {a b c e f g i j k l m n x last wk : Int} {bad : Bool} (hw : 0≤wk∧wk≤6) (hx : DOk x last) {K : Bool→Prop} (h : K (!bad && wkB wk x last)) : f80_p31 last bad a b c e wk f g i j k l m n x K (fun _=>K true):=by
  obtain ⟨h1,h2,h3,h4⟩:=hx
  unfold f80_p31
  unfold wkB at h
  cases bad with
  | true=>exact h
  | false =>
    rw [w64_in (n:=last - 7) (by omega) (by omega),w64_in (n:=7 * wk) (by omega) (by omega),w64_in (by omega) (by omega)]
    refine bB_f rfl (bB_e (fun q=>K_eq h ?_) fun q=>bB_n (fun q2=>bB_d (fun q3=>K_eq h ?_) fun q3=>K_eq h ?_) fun q2=>K_eq h ?_)
    all_goals (simp only [Bool.not_false,Bool.true_and]; first | exact decide_eq_true (by omega) | exact decide_eq_false (by omega) | exact decide_eq_decide.2 (by omega))
theorem p117_21 {a b e f g i j k l m n x last d wk : Int} {bad : Bool} (hd : 0≤d∧d≤34) (hw : 0≤wk∧wk≤6) (hx : DOk x last) {K : Bool→Prop} (h : K (!bad && (dB d x last && wkB wk x last))) : f80_p21 last bad a b d e wk f g i j k l m n x K (fun _=>K true):=by
  have hx':=hx
  obtain ⟨h1,h2,h3,h4⟩:=hx
  unfold f80_p21
  cases bad with
  | true=>exact h
  | false =>
    have t : ∀ b' : Bool,(b' = !dB d x last)→f80_p31 last b' a b d e wk f g i j k l m n x K (fun _=>K true):=fun b' q=>p117_31 hw hx' (by rw [q,Bool.not_not]; exact h)
    rw [Int.tmod_eq_emod_of_nonneg (by omega)]
    refine bB_f rfl ?_
    unfold dB at t
    repeat' first
      | refine t _ ?_
      | (refine bB_e (fun _=>?_) fun _=>?_)
      | (refine bB_n (fun _=>?_) fun _=>?_)
      | (refine bB_d (fun _=>?_) fun _=>?_)
      | (refine And.intro (by decide) ?_)
    all_goals first
      | (rw [← decide_not]; first | exact (decide_eq_true (by omega)).symm | exact (decide_eq_false (by omega)).symm)
      | (rw [bne,beqD,← decide_not,← decide_not,decide_eq_decide]; omega)
theorem p117_13 {a e f g i j k l m x last d wk mo z : Int} {bad : Bool} (hz : 1≤z∧z≤12) (hmo : 0≤mo∧mo≤14) (hd : 0≤d∧d≤34) (hw : 0≤wk∧wk≤6) (hx : DOk x last) {K : Bool→Prop} (h : K (!bad && (moB mo z && (dB d x last && wkB wk x last)))) :
    f80_p13 last bad a mo d e wk f g i j k l m z x K (fun _=>K true):=by
  unfold f80_p13
  cases bad with
  | true=>exact h
  | false =>
    have t : ∀ b' : Bool,(b' = !moB mo z)→f80_p21 last b' a mo d e wk f g i j k l m z x K (fun _=>K true):=fun b' q=>p117_21 hd hw hx (by rw [q,Bool.not_not]; exact h)
    rw [Int.tmod_eq_emod_of_nonneg (by omega)]
    refine bB_f rfl ?_
    unfold moB at t
    repeat' first
      | refine t _ ?_
      | (refine bB_e (fun _=>?_) fun _=>?_)
      | (refine bB_n (fun _=>?_) fun _=>?_)
      | (refine bB_d (fun _=>?_) fun _=>?_)
      | (refine And.intro (by decide) ?_)
    all_goals first
      | (rw [← decide_not]; first | exact (decide_eq_true (by omega)).symm | exact (decide_eq_false (by omega)).symm)
      | (rw [bne,beqD,← decide_not,← decide_not,decide_eq_decide]; omega)
theorem f80_ok {p : Pt} (hp : pchk p = 0) (hR : ¬ p.isR) {day : Int} (h1 : 0≤day) (h2 : day≤73048) {K : Bool→Int→Int→Int→Int→Int→Int→Int→Int→Int→Int→Int→Prop} (h : K (fits p day) p.y p.mo p.d p.wd p.wk p.fy p.fm p.fd p.ty p.tm p.td) :
    f80 day p.y p.mo p.d p.wd p.wk p.fy p.fm p.fd p.ty p.tm p.td K:=by
  refine ⟨?_⟩
  unfold f80_d
  unfold fits at h
  rw [if_neg hR] at h
  obtain ⟨hD,hm1,hm2⟩:=ofDay_D h1 h2
  obtain ⟨g1,g2,g3,g4,g5,g6,g7,g8,g9⟩:=pchk_0 hp hR
  refine f81_ok h1 h2 (f46_ok (f82_ok h1 h2 ?_))
  have t : ∀ b' : Bool,(b' = !(decide (p.y = 0∨p.y = (ofDay day).y) && decide (p.wd = 0∨p.wd = wd day)))→f80_p13 (dim (ofDay day).y (ofDay day).m) b' p.y p.mo p.d p.wd p.wk p.fy p.fm p.fd p.ty p.tm p.td (ofDay day).y (ofDay day).m (ofDay day).d
      (fun b=>K b p.y p.mo p.d p.wd p.wk p.fy p.fm p.fd p.ty p.tm p.td) (fun _=>K true p.y p.mo p.d p.wd p.wk p.fy p.fm p.fd p.ty p.tm p.td):=fun b' q =>
    p117_13 (K:=fun b=>K b p.y p.mo p.d p.wd p.wk p.fy p.fm p.fd p.ty p.tm p.td) ⟨hm1,hm2⟩ ⟨g2,g3⟩ ⟨g4,g5⟩ ⟨g8,g9⟩ hD (by rw [q,Bool.not_not,Bool.and_assoc]; exact h)
  refine bB_n (fun q1=>bB_n (fun q2=>t _ ?_) fun q2=>bB_n (fun q3=>t _ ?_) fun q3=>t _ ?_) fun q1=>bB_n (fun q3=>t _ ?_) fun q3=>t _ ?_
  · rw [decide_eq_false (by omega)]; rfl
  · rw [decide_eq_true (by omega : p.y = 0∨p.y = (ofDay day).y),Bool.true_and,bne,beqD,← decide_not,← decide_not,decide_eq_decide]; omega
  · rw [decide_eq_true (by omega : p.y = 0∨p.y = (ofDay day).y),decide_eq_true (by omega)]; rfl
  · rw [decide_eq_true (by omega : p.y = 0∨p.y = (ofDay day).y),Bool.true_and,bne,beqD,← decide_not,← decide_not,decide_eq_decide]; omega
  · rw [decide_eq_true (by omega : p.y = 0∨p.y = (ofDay day).y),decide_eq_true (by omega)]; rfl
theorem f50_r {p : Pt} (hp : pchk p = 0) (hR : p.isR) {K : Int→Int→Prop} {K' : Int→Int→Int→Int→Int→Int→Int→Int→Int→Int→Int→Prop}
    (h : ∀ lo hi,(∀ day,0≤day→day≤73048→fits p day = decide (lo≤day∧day≤hi))→K lo hi) : f50 p.y p.mo p.d p.wd p.wk p.fy p.fm p.fd p.ty p.tm p.td K K':=by
  refine ⟨?_⟩
  unfold f50_d
  rw [three]
  refine f31_ok p (bB_t (decide_eq_true hR) ?_)
  have tail : ∀ lo,(p.nF→lo = 0)→(¬ p.nF→lo = p.from_)→f50_p11 p.y p.mo p.d p.wd p.wk p.fy p.fm p.fd p.ty p.tm p.td lo 73048 (fun n=>K lo n):=fun lo a b=>by
    unfold f50_p11
    rw [three]
    refine bB_not (bB_d (fun hT=>h _ _ fun day d1 d2=>?_) fun hT=>f33_ok (pchk_rT hp hT) (h _ _ fun day d1 d2=>?_))
    · unfold fits
      rw [if_pos hR,decide_eq_decide]
      rcases Classical.em p.nF with z | z
      · rw [a z]; exact ⟨fun _=>⟨d1,d2⟩,fun _=>⟨.inl z,.inl hT⟩⟩
      · rw [b z]; exact ⟨fun q=>⟨q.1.resolve_left z,d2⟩,fun q=>⟨.inr q.1,.inl hT⟩⟩
    · unfold fits
      rw [if_pos hR,decide_eq_decide]
      rcases Classical.em p.nF with z | z
      · rw [a z]; exact ⟨fun q=>⟨d1,q.2.resolve_left hT⟩,fun q=>⟨.inl z,.inr q.2⟩⟩
      · rw [b z]; exact ⟨fun q=>⟨q.1.resolve_left z,q.2.resolve_left hT⟩,fun q=>⟨.inr q.1,.inr q.2⟩⟩
  refine bB_not (bB_d (fun hF=>tail 0 (fun _=>rfl) fun z=>absurd hF z) fun hF=>f33_ok (pchk_rF hp hF) (tail _ (fun z=>absurd z hF) fun _=>rfl))
theorem f50_n {p : Pt} (hR : ¬ p.isR) {K : Int→Int→Prop} {K' : Int→Int→Int→Int→Int→Int→Int→Int→Int→Int→Int→Prop}
    (h : K' p.y p.mo p.d p.wd p.wk p.fy p.fm p.fd p.ty p.tm p.td) : f50 p.y p.mo p.d p.wd p.wk p.fy p.fm p.fd p.ty p.tm p.td K K':=by
  refine ⟨?_⟩
  unfold f50_d
  exact f31_ok p (bB_f (decide_eq_false hR) h)
theorem f79_ok {day lo hi : Int} {K : Bool→Int→Int→Prop} (h : K (decide (lo≤day∧day≤hi)) lo hi) : f79 day lo hi K:=by
  refine ⟨?_⟩
  unfold f79_d
  refine bB_d (fun q=>K_eq (K:=fun b=>K b lo hi) h (decide_eq_decide.2 (by omega))) fun q=>K_eq (K:=fun b=>K b lo hi) h (decide_eq_false (by omega))
theorem f49_ok {day : Int} {K : Bool→Prop} (h : K (decide (0≤day∧day≤73048))) : f49 day K:=by
  refine ⟨?_⟩
  unfold f49_d
  refine bB_d (fun q=>K_eq h (decide_eq_decide.2 (by omega))) fun q=>K_eq h (decide_eq_false (by omega))
theorem f19_ok {day : Int} {K : Bool→Prop} (h : K (decide (0≤day∧day≤73048))) : f19 day K:=by
  refine ⟨?_⟩
  unfold f19_d
  refine bB_d (fun q=>K_eq h (decide_eq_decide.2 (by omega))) fun q=>K_eq h (decide_eq_false (by omega))
theorem f36_ok {p : Pt} (hp : pchk p = 0) {day : Int} (h1 : 0≤day) (h2 : day≤73048) {K : Bool→Prop} (h : K (fits p day)) : f36 p.y p.mo p.d p.wd p.wk p.fy p.fm p.fd p.ty p.tm p.td day K:=by
  refine ⟨?_⟩
  unfold f36_d
  refine f16_ok p (bB_t (by rw [hp]; rfl) (f49_ok (bB_t (decide_eq_true ⟨h1,h2⟩) ?_)))
  by_cases hR : p.isR
  · refine f50_r hp hR fun lo hi hf=>f79_ok ?_
    rw [← hf day h1 h2]
    exact h
  · exact f50_n hR (f80_ok hp hR h1 h2 h)
end Go.Eng.N
