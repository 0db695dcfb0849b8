/- Days: the date of a day, the day after it; the functions Of, Weekday, after. -/
import Derived.Test.YtcklpjecelnamaaGreatDoorXA
set_option linter.unusedVariables false
set_option linter.unusedSimpArgs false
namespace Go.Eng.N
open Go Go.Eng
structure Dt where
  y : Int
  m : Int
  d : Int
  deriving DecidableEq
def yearF (day : Int) : Nat→Int→Int
  | 0,y=>y
  | n + 1,y=>if B (y + 1)≤day then yearF day n (y + 1) else y
def monF (r y : Int) : Nat→Int→Int
  | 0,m=>m
  | n + 1,m=>if C y (m + 1)≤r then monF r y n (m + 1) else m
def ofDay (day : Int) : Dt :=
  let y:=yearF day 199 2000
  let m:=monF (day - B y) y 11 1
  ⟨y,m,day - B y - C y m + 1⟩
theorem yearF_ok (day : Int) : ∀ (n : Nat) (y : Int),B y≤day→day < B (y + n + 1)→y≤yearF day n y∧yearF day n y≤y + n∧B (yearF day n y)≤day∧day < B (yearF day n y + 1)
  | 0,y,h1,h2=>by unfold yearF; simp at h2; exact ⟨by omega,by omega,h1,h2⟩
  | n + 1,y,h1,h2=>by
    unfold yearF
    split
    · rename_i h
      have:=yearF_ok day n (y + 1) h (by rw [show y + 1 + (n : Int) + 1 = y + ((n + 1 : Nat) : Int) + 1 by omega]; exact h2)
      exact ⟨by omega,by omega,this.2.2⟩
    · exact ⟨by omega,by omega,h1,by omega⟩
theorem monF_ok (r y : Int) : ∀ (n : Nat) (m : Int),1≤m→C y m≤r→r < C y (m + n + 1)→m≤monF r y n m∧monF r y n m≤m + n∧C y (monF r y n m)≤r∧r < C y (monF r y n m + 1)
  | 0,m,h0,h1,h2=>by unfold monF; simp at h2; exact ⟨by omega,by omega,h1,h2⟩
  | n + 1,m,h0,h1,h2=>by
    unfold monF
    split
    · rename_i h
      have:=monF_ok r y n (m + 1) (by omega) h (by rw [show m + 1 + (n : Int) + 1 = m + ((n + 1 : Nat) : Int) + 1 by omega]; exact h2)
      exact ⟨by omega,by omega,this.2.2⟩
    · exact ⟨by omega,by omega,h1,by omega⟩
theorem ofDay_ok {day : Int} (h1 : 0≤day) (h2 : day≤73048) : 2000≤(ofDay day).y∧(ofDay day).y≤2199∧IsDate day (ofDay day).y (ofDay day).m (ofDay day).d:=by
  obtain ⟨a1,a2,a3,a4⟩:=yearF_ok day 199 2000 (by rw [B_2000]; exact h1) (by rw [show (2000 : Int) + (199 : Nat) + 1 = 2200 from rfl,B_2200]; omega)
  have hs:=B_succ (yearF day 199 2000)
  have h13:=C_13 (yearF day 199 2000)
  obtain ⟨b1,b2,b3,b4⟩:=monF_ok (day - B (yearF day 199 2000)) (yearF day 199 2000) 11 1 (by omega) (by rw [C_1]; omega) (by rw [show (1 : Int) + (11 : Nat) + 1 = 13 from rfl,h13]; omega)
  have hc:=C_succ (y:=yearF day 199 2000) b1 (by omega)
  refine ⟨a1,by show yearF day 199 2000≤2199; omega,?_⟩
  show IsDate day (yearF day 199 2000) (monF (day - B (yearF day 199 2000)) (yearF day 199 2000) 11 1) (day - B (yearF day 199 2000) - C (yearF day 199 2000) (monF (day - B (yearF day 199 2000)) (yearF day 199 2000) 11 1) + 1)
  exact ⟨b1,by omega,by omega,by omega,by omega⟩
theorem ofDay_uniq {day y m d : Int} (h1 : 0≤day) (h2 : day≤73048) (h : IsDate day y m d) : ofDay day = ⟨y,m,d⟩:=by
  obtain ⟨e1,e2,e3⟩:=(ofDay_ok h1 h2).2.2.uniq h
  cases hq : ofDay day with
  | mk a b c=>rw [hq] at e1 e2 e3; simp only at e1 e2 e3; rw [e1,e2,e3]
theorem guess {t : Int} (h : 0≤t) : B (2000 + t / 366)≤t:=by unfold B; omega
theorem f127_ok {day : Int} (h1 : 0≤day) (h2 : day≤73048) {K : Int→Prop} (h : K 0) : f127 day K:=by
  refine ⟨?_⟩
  unfold f127_d
  exact bB_f (decide_eq_false (by omega)) (bB_f (decide_eq_false (by omega)) h)
theorem f128_ok {day : Int} (h1 : 0≤day) (h2 : day≤73048) {K : Int→Int→Int→Prop} (h : K (ofDay day).y (ofDay day).m (ofDay day).d) : f128 day K:=by
  refine ⟨?_⟩
  unfold f128_d
  obtain ⟨q1,q2,hD⟩:=ofDay_ok h1 h2
  generalize hz : ofDay day = z at h q1 q2 hD
  have hg:=guess h1
  have hyr:=hD.year
  refine ⟨by decide,?_⟩
  rw [Int.tdiv_eq_ediv_of_nonneg h1,w64_in (n:=day / 366) (by omega) (by omega),w64_in (by omega) (by omega)]
  have hle : 2000 + day / 366≤z.y:=by
    rcases Int.lt_or_le z.y (2000 + day / 366) with q | q
    · have:=B_le (a:=z.y + 1) (b:=2000 + day / 366) (by omega); omega
    · exact q
  obtain ⟨n,hn⟩ : ∃ n : Nat,z.y = 2000 + day / 366 + n:=⟨(z.y - (2000 + day / 366)).toNat,by omega⟩
  unfold f128_p4
  refine LoopP.inv n (fun j x=>x = 2000 + day / 366 + (j : Int)) 0 (by simp) (by omega) (by omega) ?_ ?_
  · rintro j x _ hj rfl N hN
    unfold f128_p4b0
    have hb:=B_le (a:=2000 + day / 366 + (j : Int) + 1) (b:=z.y) (by omega)
    rw [w64_in (by omega) (by omega)]
    refine f96_ok (by omega) (by omega) (bB_t (decide_eq_true (by omega)) (hN _ (by omega)))
  · rintro x rfl N
    unfold f128_p4b0
    rw [← hn,w64_in (by omega) (by omega)]
    refine f96_ok (by omega) (by omega) (bB_f (decide_eq_false (by omega)) (f96_ok (by omega) (by omega) ?_))
    obtain ⟨d1,d2,d3,d4,d5⟩:=hD
    have hB:=B_bd (y:=z.y) (by omega) (by omega)
    rw [w64_in (by omega) (by omega)]
    obtain ⟨k,hk⟩:=Int.eq_ofNat_of_zero_le (by omega : 0≤z.m)
    unfold f128_p10
    refine LoopP.inv k (fun j x=>x = (day - B z.y - C z.y j,(j : Int))) 1 (by rw [show ((1 : Nat) : Int) = 1 from rfl,C_1]; simp) (by omega) (by omega) ?_ ?_
    · rintro j x h1j hj rfl N hN
      unfold f128_p10b0
      have hs:=C_succ (y:=z.y) (m:=j) (by omega) (by omega)
      have hle:=C_le (y:=z.y) (a:=j + 1) (b:=z.m) (by omega) (by omega) (by omega)
      have hdj:=dim_bd z.y j
      have hCb:=C_bd (y:=z.y) (m:=j) (by omega)
      have hl:=lp_01 z.y
      refine f95_ok (bB_t (decide_eq_true (by dsimp only; omega)) (f95_ok (hN _ ?_)))
      dsimp only
      rw [w64_in (by omega) (by omega),w64_in (by omega) (by omega),show ((j + 1 : Nat) : Int) = (j : Int) + 1 by omega,hs]
      simp; omega
    · rintro x rfl N
      unfold f128_p10b0
      rw [← hk]
      refine f95_ok (bB_f (decide_eq_false (by dsimp only; omega)) ?_)
      dsimp only
      have hdj:=dim_bd z.y z.m
      rw [w64_in (by omega) (by omega),show day - B z.y - C z.y z.m + 1 = z.d by omega]
      exact h
theorem f118_ok {day : Int} (h1 : 0≤day) (h2 : day≤73048) {K : Int→Int→Int→Int→Prop} (h : K (ofDay day).y (ofDay day).m (ofDay day).d 0) : f118 day K :=
  ⟨f127_ok h1 h2 (bB_f rfl (f128_ok h1 h2 h))⟩
def wd (day : Int) : Int:=(day + 5) % 7 + 1
theorem f129_ok {day : Int} (h1 : 0≤day) (h2 : day≤80000) {K : Int→Prop} (h : K (wd day)) : f129 day K:=by
  refine ⟨?_⟩
  unfold f129_d
  refine ⟨by decide,?_⟩
  rw [w64_in (n:=day + 5) (by omega) (by omega),Int.tmod_eq_emod_of_nonneg (by omega),w64_in (by omega) (by omega)]
  exact h
theorem f83_ok {day : Int} (h1 : 0≤day) (h2 : day≤80000) {K : Int→Prop} (h : K (wd day)) : f83 day K:=⟨(f129_ok h1 h2 h).run⟩
theorem f119_ok {day : Int} (h1 : 0≤day) (h2 : day≤73048) {K : Int→Int→Prop} (h : K (wd day) 0) : f119 day K :=
  ⟨f127_ok h1 h2 (bB_f rfl (f129_ok h1 (by omega) h))⟩
theorem f37_ok {day : Int} (h1 : 0≤day) (h2 : day≤73048) {K : Int→Int→Int→Prop} (h : K (ofDay day).y (ofDay day).m (ofDay day).d) : f37 day K:=by
  refine ⟨?_⟩
  unfold f37_d
  obtain ⟨q1,q2,hD⟩:=ofDay_ok h1 h2
  generalize hz : ofDay day = z at h q1 q2 hD
  have hyr:=hD.year
  obtain ⟨n,hn⟩ : ∃ n : Nat,z.y = 2000 + n:=⟨(z.y - 2000).toNat,by omega⟩
  have hB1 : ∀ y,dayOf y 1 1 = B y:=fun y=>by unfold dayOf; rw [C_1]; omega
  unfold f37_p4
  refine LoopP.inv n (fun j x=>x = 2000 + (j : Int)) 0 (by simp) (by omega) (by omega) ?_ ?_
  · rintro j x _ hj rfl N hN
    unfold f37_p4b0
    have hb:=B_le (a:=2000 + (j : Int) + 1) (b:=z.y) (by omega)
    rw [w64_in (by omega) (by omega)]
    refine f76_ok (by omega) (by omega) (by omega) (by omega) (by omega) (by omega) ?_
    rw [hB1]
    exact bB_t (decide_eq_true (by omega)) (hN _ (by omega))
  · rintro x rfl N
    unfold f37_p4b0
    rw [← hn,w64_in (by omega) (by omega)]
    refine f76_ok (by omega) (by omega) (by omega) (by omega) (by omega) (by omega) ?_
    rw [hB1]
    refine bB_f (decide_eq_false (by omega)) ?_
    obtain ⟨d1,d2,d3,d4,d5⟩:=hD
    obtain ⟨k,hk⟩:=Int.eq_ofNat_of_zero_le (by omega : 0≤z.m)
    have hlast : f76 z.y z.m 1 (fun n20=>K z.y z.m (w64 (w64 (1 + day) - n20))):=by
      refine f76_ok (by omega) (by omega) (by omega) (by omega) (by omega) (by omega) ?_
      have hB:=B_bd (y:=z.y) (by omega) (by omega)
      have hCb:=C_bd (y:=z.y) (m:=z.m) (by omega)
      have hl:=lp_01 z.y
      have hdj:=dim_bd z.y z.m
      rw [w64_in (n:=1 + day) (by omega) (by omega)]
      unfold dayOf
      rw [w64_in (by omega) (by omega),show 1 + day - (B z.y + C z.y z.m + 1 - 1) = z.d by omega]
      exact h
    unfold f37_p8
    refine LoopP.inv k (fun j x=>x = (j : Int)) 1 rfl (by omega) (by omega) ?_ ?_
    · rintro j x h1j hj rfl N hN
      unfold f37_p8b0
      have hle:=C_le (y:=z.y) (a:=j + 1) (b:=z.m) (by omega) (by omega) (by omega)
      refine bB_t (decide_eq_true (by omega)) ?_
      rw [w64_in (by omega) (by omega)]
      refine f76_ok (by omega) (by omega) (by omega) (by omega) (by omega) (by omega) ?_
      unfold dayOf
      exact bB_t (decide_eq_true (by omega)) (hN _ (by omega))
    · rintro x rfl N
      unfold f37_p8b0
      rw [← hk]
      refine bB_of (fun h12=>?_) fun h12=>hlast
      have h12:=of_decide_eq_true h12
      have hs:=C_succ (y:=z.y) (m:=z.m) (by omega) (by omega)
      rw [w64_in (by omega) (by omega)]
      refine f76_ok (by omega) (by omega) (by omega) (by omega) (by omega) (by omega) ?_
      unfold dayOf
      exact bB_f (decide_eq_false (by omega)) hlast
theorem f101_ok {day : Int} (h1 : 0≤day) (h2 : day < 73048) {K : Int→Int→Int→Prop} (h : K (ofDay (day + 1)).y (ofDay (day + 1)).m (ofDay (day + 1)).d) : f101 (ofDay day).y (ofDay day).m (ofDay day).d K:=by
  refine ⟨?_⟩
  unfold f101_d
  obtain ⟨q1,q2,hD⟩:=ofDay_ok h1 (by omega)
  generalize hz : ofDay day = z at q1 q2 hD
  obtain ⟨d1,d2,d3,d4,d5⟩:=hD
  have hdj:=dim_bd z.y z.m
  rw [w64_in (n:=z.d + 1) (by omega) (by omega),w64_in (n:=z.m + 1) (by omega) (by omega)]
  have hs:=C_succ (y:=z.y) d1 d2
  refine f82_ok (bB_of (fun h3=>?_) fun h3=>?_)
  · have h3:=of_decide_eq_true h3
    unfold f101_p11
    refine bB_of (fun h4=>?_) fun h4=>?_
    · have h4:=of_decide_eq_true h4
      have h12 : z.m = 12:=by omega
      have h13:=C_13 z.y
      have hb:=B_succ z.y
      rw [w64_in (by omega) (by omega)]
      rw [ofDay_uniq (y:=z.y + 1) (m:=1) (d:=1) (by omega) (by omega) ⟨by omega,by omega,by omega,by have:=dim_lo (y:=z.y + 1) (m:=1) (by omega) (by omega); omega,by rw [C_1]; rw [h12] at hs d5 d4 h3; rw [show (12 : Int) + 1 = 13 from rfl] at hs; omega⟩] at h
      exact h
    · have h4:=of_decide_eq_false h4
      rw [ofDay_uniq (y:=z.y) (m:=z.m + 1) (d:=1) (by omega) (by omega) ⟨by omega,by omega,by omega,by have:=dim_lo (y:=z.y) (m:=z.m + 1) (by omega) (by omega); omega,by omega⟩] at h
      exact h
  · have h3:=of_decide_eq_false h3
    unfold f101_p11
    refine bB_f (decide_eq_false (by omega)) ?_
    rw [ofDay_uniq (y:=z.y) (m:=z.m) (d:=z.d + 1) (by omega) (by omega) ⟨by omega,by omega,by omega,by omega,by omega⟩] at h
    exact h
theorem f101_any {y m d : Int} {K : Int→Int→Int→Prop} (h : ∀ y' m' d',K y' m' d') : f101 y m d K:=by
  refine ⟨?_⟩
  unfold f101_d
  refine f82_ok (bB_of (fun _=>?_) fun _=>?_) <;> (unfold f101_p11; exact bB_of (fun _=>h _ _ _) fun _=>h _ _ _)
end Go.Eng.N
