/- Which days a pattern matches: the functions of packages pattern and ref06. -/
import Derived.Test.YtcklpjecelnamaaGreatDoorXC
set_option linter.unusedVariables false
set_option linter.unusedSimpArgs false
namespace Go.Eng.N
open Go Go.Eng
theorem f84_ok {mo a b n : Int} (hn : 0≤n) {K : Bool→Prop} (h : K (decide ((mo = a∧n % 2 = 1)∨(mo = b∧n % 2 = 0)))) : f84 mo a b n K:=by
  refine ⟨?_⟩
  unfold f84_d
  rw [Int.tmod_eq_emod_of_nonneg hn]
  refine bB_e (fun h1=>⟨by decide,bB_e (fun h2=>K_eq h (decide_eq_true (by omega))) fun h2=>bB_e (fun h3=>⟨by decide,K_eq h ?_⟩) fun h3=>K_eq h (decide_eq_false (by omega))⟩) fun h1=>bB_e (fun h3=>⟨by decide,K_eq h ?_⟩) fun h3=>K_eq h (decide_eq_false (by omega))
  all_goals (rw [beqD,decide_eq_decide]; omega)
structure DOk (x last : Int) : Prop where
  lo : 1≤x
  hi : x≤last
  l28 : 28≤last
  l31 : last≤31
theorem p38_21 {a b c d f g i j k l m n x last : Int} {wk : Int} (hx : DOk x last) {K : Bool→Prop} (h : K (wkB wk x last)) : f38_p21 last a b c d wk f g i j k l m n x K:=by
  obtain ⟨h1,h2,h3,h4⟩:=hx
  unfold f38_p21
  unfold wkB at h
  rw [w64_in (n:=x + 6) (by omega) (by omega),Int.tdiv_eq_ediv_of_nonneg (by omega),w64_in (by omega) (by omega),w64_in (by omega) (by omega)]
  refine bB_e (fun q=>K_eq h (decide_eq_true (by omega))) fun q=>⟨by decide,bB_e (fun q2=>K_eq h (decide_eq_true (by omega))) fun q2=>bB_e (fun q3=>K_eq h (decide_eq_decide.2 (by omega))) fun q3=>K_eq h (decide_eq_false (by omega))⟩
theorem p38_17 {a b c f g i j k l m n x last d wk : Int} (hd : 0≤d∧d≤34) (hx : DOk x last) {K : Bool→Prop} (h : K (dB d x last && wkB wk x last)) : f38_p17 last a b d c wk f g i j k l m n x K:=by
  have hx':=hx
  obtain ⟨h1,h2,h3,h4⟩:=hx
  unfold f38_p17
  have t : dB d x last = true→f38_p21 last a b d c wk f g i j k l m n x K:=fun q=>p38_21 hx' (by rw [q] at h; exact h)
  have e : dB d x last = false→K false:=fun q=>by rw [q] at h; exact h
  refine bB_n (fun q1=>bB_n (fun q2=>f84_ok (by omega) (bB_not (bB_d (fun q3=>t ?_) fun q3=>bB_e (fun q4=>bB_not (bB_e (fun q5=>t ?_) fun q5=>e ?_)) fun q4=>e ?_))) fun q2=>t ?_) fun q1=>t ?_
  all_goals unfold dB; first | exact decide_eq_true (by omega) | exact decide_eq_false (by omega)
theorem p38_13 {a c f g i j k l m x last d mo wk : Int} {z : Int} (hz : 1≤z∧z≤12) (hd : 0≤d∧d≤34) (hx : DOk x last) {K : Bool→Prop} (h : K (moB mo z && (dB d x last && wkB wk x last))) : f38_p13 last a mo d c wk f g i j k l m z x K:=by
  unfold f38_p13
  have t : moB mo z = true→f38_p17 last a mo d c wk f g i j k l m z x K:=fun q=>p38_17 hd hx (by rw [q] at h; exact h)
  have e : moB mo z = false→K false:=fun q=>by rw [q] at h; exact h
  refine bB_n (fun q1=>bB_n (fun q2=>f84_ok (by omega) (bB_not (bB_d (fun q3=>t ?_) fun q3=>e ?_))) fun q2=>t ?_) fun q1=>t ?_
  all_goals unfold moB; first | exact decide_eq_true (by omega) | exact decide_eq_false (by omega)
theorem ofDay_D {day : Int} (h1 : 0≤day) (h2 : day≤73048) : DOk (ofDay day).d (dim (ofDay day).y (ofDay day).m)∧1≤(ofDay day).m∧(ofDay day).m≤12:=by
  obtain ⟨q1,q2,d1,d2,d3,d4,d5⟩:=ofDay_ok h1 h2
  exact ⟨⟨d3,d4,dim_lo d1 d2,(dim_bd _ _).2⟩,d1,d2⟩
theorem f38_ok {p : Pt} (hp : pchk p = 0) {day : Int} (h1 : 0≤day) (h2 : day≤73048) {K : Bool→Prop} (h : K (fits p day)) :
    f38 p.y p.mo p.d p.wd p.wk p.fy p.fm p.fd p.ty p.tm p.td day (ofDay day).y (ofDay day).m (ofDay day).d K:=by
  refine ⟨?_⟩
  unfold f38_d
  rw [three,three]
  refine f73_ok p (bB_d (fun hR=>?_) fun hR=>?_)
  · unfold fits at h
    rw [if_pos hR] at h
    refine bB_d (fun hF=>bB_d (fun hT=>K_eq h (decide_eq_true ⟨.inl hF,.inl hT⟩)) fun hT=>?_) fun hF=>?_
    · obtain ⟨b1,b2,b3,b4,b5,b6⟩:=chk_ok (pchk_rT hp hT)
      have hd2:=dim_bd p.ty p.tm
      refine f76_ok (by omega) (by omega) b5 b6 (by omega) (by omega) (K_eq h (decide_eq_decide.2 ⟨fun q=>q.2.resolve_left hT,fun q=>⟨.inl hF,.inr q⟩⟩))
    · obtain ⟨a1,a2,a3,a4,a5,a6⟩:=chk_ok (pchk_rF hp hF)
      have hd1:=dim_bd p.fy p.fm
      refine f76_ok (by omega) (by omega) a5 a6 (by omega) (by omega) (bB_d (fun q=>bB_d (fun hT=>K_eq h (decide_eq_true ⟨.inr q,.inl hT⟩)) fun hT=>?_) fun q=>K_eq h (decide_eq_false fun z=>q (z.1.resolve_left hF)))
      obtain ⟨b1,b2,b3,b4,b5,b6⟩:=chk_ok (pchk_rT hp hT)
      have hd2:=dim_bd p.ty p.tm
      refine f76_ok (by omega) (by omega) b5 b6 (by omega) (by omega) (K_eq h (decide_eq_decide.2 ⟨fun z=>z.2.resolve_left hT,fun z=>⟨.inr q,.inr z⟩⟩))
  · unfold fits at h
    rw [if_neg hR] at h
    obtain ⟨hD,hm1,hm2⟩:=ofDay_D h1 h2
    obtain ⟨g1,g2,g3,g4,g5,g6,g7,g8,g9⟩:=pchk_0 hp hR
    have t : decide (p.y = 0∨p.y = (ofDay day).y) = true→decide (p.wd = 0∨p.wd = wd day) = true→f38_p13 (dim (ofDay day).y (ofDay day).m) p.y p.mo p.d p.wd p.wk p.fy p.fm p.fd p.ty p.tm p.td (ofDay day).y (ofDay day).m (ofDay day).d K:=fun q1 q2 =>
      p38_13 ⟨hm1,hm2⟩ ⟨g4,g5⟩ hD (by rw [q1,q2] at h; exact h)
    have e1 : decide (p.y = 0∨p.y = (ofDay day).y) = false→K false:=fun q=>by rw [q] at h; exact h
    have e2 : decide (p.wd = 0∨p.wd = wd day) = false→K false:=fun q=>by rw [q,Bool.false_and,Bool.and_false] at h; exact h
    refine f82_ok (bB_n (fun q1=>bB_n (fun q2=>e1 (decide_eq_false (by omega))) fun q2=>bB_n (fun q3=>f83_ok h1 (by omega) (bB_n (fun q4=>e2 (decide_eq_false (by omega))) fun q4=>t (decide_eq_true (by omega)) (decide_eq_true (by omega)))) fun q3=>t (decide_eq_true (by omega)) (decide_eq_true (by omega)))
      fun q1=>bB_n (fun q3=>f83_ok h1 (by omega) (bB_n (fun q4=>e2 (decide_eq_false (by omega))) fun q4=>t (decide_eq_true (by omega)) (decide_eq_true (by omega)))) fun q3=>t (decide_eq_true (by omega)) (decide_eq_true (by omega)))
theorem p117_31 {a b c e f g i j k l m n x last wk : Int} {bad : Bool} (hw : 0≤wk∧wk≤6) (hx : DOk x last) {K : Bool→Prop} (h : K (!bad && wkB wk x last)) : f117_p31 last bad a b c e wk f g i j k l m n x K (fun _=>K true):=by
  obtain ⟨h1,h2,h3,h4⟩:=hx
  unfold f117_p31
  unfold wkB at h
  cases bad with
  | true=>exact h
  | false =>
    rw [w64_in (n:=last - 7) (by omega) (by omega),w64_in (n:=7 * wk) (by omega) (by omega),w64_in (by omega) (by omega)]
    refine bB_f rfl (bB_e (fun q=>K_eq h ?_) fun q=>bB_n (fun q2=>bB_d (fun q3=>K_eq h ?_) fun q3=>K_eq h ?_) fun q2=>K_eq h ?_)
    all_goals (simp only [Bool.not_false,Bool.true_and]; first | exact decide_eq_true (by omega) | exact decide_eq_false (by omega) | exact decide_eq_decide.2 (by omega))
theorem p117_21 {a b e f g i j k l m n x last d wk : Int} {bad : Bool} (hd : 0≤d∧d≤34) (hw : 0≤wk∧wk≤6) (hx : DOk x last) {K : Bool→Prop} (h : K (!bad && (dB d x last && wkB wk x last))) : f117_p21 last bad a b d e wk f g i j k l m n x K (fun _=>K true):=by
  have hx':=hx
  obtain ⟨h1,h2,h3,h4⟩:=hx
  unfold f117_p21
  cases bad with
  | true=>exact h
  | false =>
    have t : ∀ b' : Bool,(b' = !dB d x last)→f117_p31 last b' a b d e wk f g i j k l m n x K (fun _=>K true):=fun b' q=>p117_31 hw hx' (by rw [q,Bool.not_not]; exact h)
    rw [Int.tmod_eq_emod_of_nonneg (by omega)]
    refine bB_f rfl ?_
    unfold dB at t
    repeat' first
      | refine t _ ?_
      | (refine bB_e (fun _=>?_) fun _=>?_)
      | (refine bB_n (fun _=>?_) fun _=>?_)
      | (refine bB_d (fun _=>?_) fun _=>?_)
      | (refine And.intro (by decide) ?_)
    all_goals first
      | (rw [← decide_not]; first | exact (decide_eq_true (by omega)).symm | exact (decide_eq_false (by omega)).symm)
      | (rw [bne,beqD,← decide_not,← decide_not,decide_eq_decide]; omega)
theorem p117_13 {a e f g i j k l m x last d wk mo z : Int} {bad : Bool} (hz : 1≤z∧z≤12) (hmo : 0≤mo∧mo≤14) (hd : 0≤d∧d≤34) (hw : 0≤wk∧wk≤6) (hx : DOk x last) {K : Bool→Prop} (h : K (!bad && (moB mo z && (dB d x last && wkB wk x last)))) :
    f117_p13 last bad a mo d e wk f g i j k l m z x K (fun _=>K true):=by
  unfold f117_p13
  cases bad with
  | true=>exact h
  | false =>
    have t : ∀ b' : Bool,(b' = !moB mo z)→f117_p21 last b' a mo d e wk f g i j k l m z x K (fun _=>K true):=fun b' q=>p117_21 hd hw hx (by rw [q,Bool.not_not]; exact h)
    rw [Int.tmod_eq_emod_of_nonneg (by omega)]
    refine bB_f rfl ?_
    unfold moB at t
    repeat' first
      | refine t _ ?_
      | (refine bB_e (fun _=>?_) fun _=>?_)
      | (refine bB_n (fun _=>?_) fun _=>?_)
      | (refine bB_d (fun _=>?_) fun _=>?_)
      | (refine And.intro (by decide) ?_)
    all_goals first
      | (rw [← decide_not]; first | exact (decide_eq_true (by omega)).symm | exact (decide_eq_false (by omega)).symm)
      | (rw [bne,beqD,← decide_not,← decide_not,decide_eq_decide]; omega)
theorem f117_ok {p : Pt} (hp : pchk p = 0) (hR : ¬ p.isR) {day : Int} (h1 : 0≤day) (h2 : day≤73048) {K : Bool→Int→Int→Int→Int→Int→Int→Int→Int→Int→Int→Int→Prop} (h : K (fits p day) p.y p.mo p.d p.wd p.wk p.fy p.fm p.fd p.ty p.tm p.td) :
    f117 day p.y p.mo p.d p.wd p.wk p.fy p.fm p.fd p.ty p.tm p.td K:=by
  refine ⟨?_⟩
  unfold f117_d
  unfold fits at h
  rw [if_neg hR] at h
  obtain ⟨hD,hm1,hm2⟩:=ofDay_D h1 h2
  obtain ⟨g1,g2,g3,g4,g5,g6,g7,g8,g9⟩:=pchk_0 hp hR
  refine f118_ok h1 h2 (f95_ok (f119_ok h1 h2 ?_))
  have t : ∀ b' : Bool,(b' = !(decide (p.y = 0∨p.y = (ofDay day).y) && decide (p.wd = 0∨p.wd = wd day)))→f117_p13 (dim (ofDay day).y (ofDay day).m) b' p.y p.mo p.d p.wd p.wk p.fy p.fm p.fd p.ty p.tm p.td (ofDay day).y (ofDay day).m (ofDay day).d
      (fun b=>K b p.y p.mo p.d p.wd p.wk p.fy p.fm p.fd p.ty p.tm p.td) (fun _=>K true p.y p.mo p.d p.wd p.wk p.fy p.fm p.fd p.ty p.tm p.td):=fun b' q =>
    p117_13 (K:=fun b=>K b p.y p.mo p.d p.wd p.wk p.fy p.fm p.fd p.ty p.tm p.td) ⟨hm1,hm2⟩ ⟨g2,g3⟩ ⟨g4,g5⟩ ⟨g8,g9⟩ hD (by rw [q,Bool.not_not,Bool.and_assoc]; exact h)
  refine bB_n (fun q1=>bB_n (fun q2=>t _ ?_) fun q2=>bB_n (fun q3=>t _ ?_) fun q3=>t _ ?_) fun q1=>bB_n (fun q3=>t _ ?_) fun q3=>t _ ?_
  · rw [decide_eq_false (by omega)]; rfl
  · rw [decide_eq_true (by omega : p.y = 0∨p.y = (ofDay day).y),Bool.true_and,bne,beqD,← decide_not,← decide_not,decide_eq_decide]; omega
  · rw [decide_eq_true (by omega : p.y = 0∨p.y = (ofDay day).y),decide_eq_true (by omega)]; rfl
  · rw [decide_eq_true (by omega : p.y = 0∨p.y = (ofDay day).y),Bool.true_and,bne,beqD,← decide_not,← decide_not,decide_eq_decide]; omega
  · rw [decide_eq_true (by omega : p.y = 0∨p.y = (ofDay day).y),decide_eq_true (by omega)]; rfl
theorem f100_r {p : Pt} (hp : pchk p = 0) (hR : p.isR) {K : Int→Int→Prop} {K' : Int→Int→Int→Int→Int→Int→Int→Int→Int→Int→Int→Prop}
    (h : ∀ lo hi,(∀ day,0≤day→day≤73048→fits p day = decide (lo≤day∧day≤hi))→K lo hi) : f100 p.y p.mo p.d p.wd p.wk p.fy p.fm p.fd p.ty p.tm p.td K K':=by
  refine ⟨?_⟩
  unfold f100_d
  rw [three]
  refine f68_ok p (bB_t (decide_eq_true hR) ?_)
  have tail : ∀ lo,(p.nF→lo = 0)→(¬ p.nF→lo = p.from_)→f100_p11 p.y p.mo p.d p.wd p.wk p.fy p.fm p.fd p.ty p.tm p.td lo 73048 (fun n=>K lo n):=fun lo a b=>by
    unfold f100_p11
    rw [three]
    refine bB_not (bB_d (fun hT=>h _ _ fun day d1 d2=>?_) fun hT=>f70_ok (pchk_rT hp hT) (h _ _ fun day d1 d2=>?_))
    · unfold fits
      rw [if_pos hR,decide_eq_decide]
      rcases Classical.em p.nF with z | z
      · rw [a z]; exact ⟨fun _=>⟨d1,d2⟩,fun _=>⟨.inl z,.inl hT⟩⟩
      · rw [b z]; exact ⟨fun q=>⟨q.1.resolve_left z,d2⟩,fun q=>⟨.inr q.1,.inl hT⟩⟩
    · unfold fits
      rw [if_pos hR,decide_eq_decide]
      rcases Classical.em p.nF with z | z
      · rw [a z]; exact ⟨fun q=>⟨d1,q.2.resolve_left hT⟩,fun q=>⟨.inl z,.inr q.2⟩⟩
      · rw [b z]; exact ⟨fun q=>⟨q.1.resolve_left z,q.2.resolve_left hT⟩,fun q=>⟨.inr q.1,.inr q.2⟩⟩
  refine bB_not (bB_d (fun hF=>tail 0 (fun _=>rfl) fun z=>absurd hF z) fun hF=>f70_ok (pchk_rF hp hF) (tail _ (fun z=>absurd z hF) fun _=>rfl))
theorem f100_n {p : Pt} (hR : ¬ p.isR) {K : Int→Int→Prop} {K' : Int→Int→Int→Int→Int→Int→Int→Int→Int→Int→Int→Prop}
    (h : K' p.y p.mo p.d p.wd p.wk p.fy p.fm p.fd p.ty p.tm p.td) : f100 p.y p.mo p.d p.wd p.wk p.fy p.fm p.fd p.ty p.tm p.td K K':=by
  refine ⟨?_⟩
  unfold f100_d
  exact f68_ok p (bB_f (decide_eq_false hR) h)
theorem f116_ok {day lo hi : Int} {K : Bool→Int→Int→Prop} (h : K (decide (lo≤day∧day≤hi)) lo hi) : f116 day lo hi K:=by
  refine ⟨?_⟩
  unfold f116_d
  refine bB_d (fun q=>K_eq (K:=fun b=>K b lo hi) h (decide_eq_decide.2 (by omega))) fun q=>K_eq (K:=fun b=>K b lo hi) h (decide_eq_false (by omega))
theorem f99_ok {day : Int} {K : Bool→Prop} (h : K (decide (0≤day∧day≤73048))) : f99 day K:=by
  refine ⟨?_⟩
  unfold f99_d
  refine bB_d (fun q=>K_eq h (decide_eq_decide.2 (by omega))) fun q=>K_eq h (decide_eq_false (by omega))
theorem f33_ok {day : Int} {K : Bool→Prop} (h : K (decide (0≤day∧day≤73048))) : f33 day K:=by
  refine ⟨?_⟩
  unfold f33_d
  refine bB_d (fun q=>K_eq h (decide_eq_decide.2 (by omega))) fun q=>K_eq h (decide_eq_false (by omega))
theorem f79_ok {p : Pt} (hp : pchk p = 0) {day : Int} (h1 : 0≤day) (h2 : day≤73048) {K : Bool→Prop} (h : K (fits p day)) : f79 p.y p.mo p.d p.wd p.wk p.fy p.fm p.fd p.ty p.tm p.td day K:=by
  refine ⟨?_⟩
  unfold f79_d
  refine f30_ok p (bB_t (by rw [hp]; rfl) (f99_ok (bB_t (decide_eq_true ⟨h1,h2⟩) ?_)))
  by_cases hR : p.isR
  · refine f100_r hp hR fun lo hi hf=>f116_ok ?_
    rw [← hf day h1 h2]
    exact h
  · exact f100_n hR (f117_ok hp hR h1 h2 h)
end Go.Eng.N
