/- Days: the date of a day, the day after it; the functions Of, Weekday, after. -/
import Derived.Test.YtcklpjecelnamaaDoorXA
import Derived.Test.YtcklpjecelnamaaDoorFn1
set_option linter.unusedVariables false
set_option linter.unusedSimpArgs false
namespace Go.Eng.N
open Go Go.Eng
structure Dt where
  y : Int
  m : Int
  d : Int
  deriving DecidableEq
def yearF (day : Int) : Nat→Int→Int
  | 0,y=>y
  | n + 1,y=>if B (y + 1)≤day then yearF day n (y + 1) else y
def monF (r y : Int) : Nat→Int→Int
  | 0,m=>m
  | n + 1,m=>if C y (m + 1)≤r then monF r y n (m + 1) else m
def ofDay (day : Int) : Dt :=
  let y:=yearF day 199 2000
  let m:=monF (day - B y) y 11 1
  ⟨y,m,day - B y - C y m + 1⟩
theorem yearF_ok (day : Int) : ∀ (n : Nat) (y : Int),B y≤day→day < B (y + n + 1)→y≤yearF day n y∧yearF day n y≤y + n∧B (yearF day n y)≤day∧day < B (yearF day n y + 1)
  | 0,y,h1,h2=>by unfold yearF; simp at h2; exact ⟨by omega,by omega,h1,h2⟩
  | n + 1,y,h1,h2=>by
    unfold yearF
    split
    · rename_i h
      have:=yearF_ok day n (y + 1) h (by rw [show y + 1 + (n : Int) + 1 = y + ((n + 1 : Nat) : Int) + 1 by omega]; exact h2)
      exact ⟨by omega,by omega,this.2.2⟩
    · exact ⟨by omega,by omega,h1,by omega⟩
theorem monF_ok (r y : Int) : ∀ (n : Nat) (m : Int),1≤m→C y m≤r→r < C y (m + n + 1)→m≤monF r y n m∧monF r y n m≤m + n∧C y (monF r y n m)≤r∧r < C y (monF r y n m + 1)
  | 0,m,h0,h1,h2=>by unfold monF; simp at h2; exact ⟨by omega,by omega,h1,h2⟩
  | n + 1,m,h0,h1,h2=>by
    unfold monF
    split
    · rename_i h
      have:=monF_ok r y n (m + 1) (by omega) h (by rw [show m + 1 + (n : Int) + 1 = m + ((n + 1 : Nat) : Int) + 1 by omega]; exact h2)
      exact ⟨by omega,by omega,this.2.2⟩
    · exact ⟨by omega,by omega,h1,by omega⟩
theorem ofDay_ok {day : Int} (h1 : 0≤day) (h2 : day≤73048) : 2000≤(ofDay day).y∧(ofDay day).y≤2199∧IsDate day (ofDay day).y (ofDay day).m (ofDay day).d:=by
  obtain ⟨a1,a2,a3,a4⟩:=yearF_ok day 199 2000 (by rw [B_2000]; exact h1) (by rw [show (2000 : Int) + (199 : Nat) + 1 = 2200 from rfl,B_2200]; omega)
  have hs:=B_succ (yearF day 199 2000)
  have h13:=C_13 (yearF day 199 2000)
  obtain ⟨b1,b2,b3,b4⟩:=monF_ok (day - B (yearF day 199 2000)) (yearF day 199 2000) 11 1 (by omega) (by rw [C_1]; omega) (by rw [show (1 : Int) + (11 : Nat) + 1 = 13 from rfl,h13]; omega)
  have hc:=C_succ (y:=yearF day 199 2000) b1 (by omega)
  refine ⟨a1,by show yearF day 199 2000≤2199; omega,?_⟩
  show IsDate day (yearF day 199 2000) (monF (day - B (yearF day 199 2000)) (yearF day 199 2000) 11 1) (day - B (yearF day 199 2000) - C (yearF day 199 2000) (monF (day - B (yearF day 199 2000)) (yearF day 199 2000) 11 1) + 1)
  exact ⟨b1,by omega,by omega,by omega,by omega⟩
theorem guess {t : Int} (h : 0≤t) : B (2000 + t / 366)≤t:=by unfold B; omega
theorem f91_ok {day : Int} (h1 : 0≤day) (h2 : day≤73048) {K : Int→Prop} (h : K 0) : f91 day K:=by
  refine ⟨?_⟩
  unfold f91_d
  exact bB_f (decide_eq_false (by omega)) (bB_f (decide_eq_false (by omega)) h)
theorem f92_ok {day : Int} (h1 : 0≤day) (h2 : day≤73048) {K : Int→Int→Int→Prop} (h : K (ofDay day).y (ofDay day).m (ofDay day).d) : f92 day K:=by
  refine ⟨?_⟩
  unfold f92_d
  obtain ⟨q1,q2,hD⟩:=ofDay_ok h1 h2
  generalize hz : ofDay day = z at h q1 q2 hD
  have hg:=guess h1
  have hyr:=hD.year
  refine ⟨by decide,?_⟩
  rw [Int.tdiv_eq_ediv_of_nonneg h1,w64_in (n:=day / 366) (by omega) (by omega),w64_in (by omega) (by omega)]
  have hle : 2000 + day / 366≤z.y:=by
    rcases Int.lt_or_le z.y (2000 + day / 366) with q | q
    · have:=B_le (a:=z.y + 1) (b:=2000 + day / 366) (by omega); omega
    · exact q
  obtain ⟨n,hn⟩ : ∃ n : Nat,z.y = 2000 + day / 366 + n:=⟨(z.y - (2000 + day / 366)).toNat,by omega⟩
  unfold f92_p4
  refine LoopP.inv n (fun j x=>x = 2000 + day / 366 + (j : Int)) 0 (by simp) (by omega) (by omega) ?_ ?_
  · rintro j x _ hj rfl N hN
    unfold f92_p4b0
    have hb:=B_le (a:=2000 + day / 366 + (j : Int) + 1) (b:=z.y) (by omega)
    rw [w64_in (by omega) (by omega)]
    refine f47_ok (by omega) (by omega) (bB_t (decide_eq_true (by omega)) (hN _ (by omega)))
  · rintro x rfl N
    unfold f92_p4b0
    rw [← hn,w64_in (by omega) (by omega)]
    refine f47_ok (by omega) (by omega) (bB_f (decide_eq_false (by omega)) (f47_ok (by omega) (by omega) ?_))
    obtain ⟨d1,d2,d3,d4,d5⟩:=hD
    have hB:=B_bd (y:=z.y) (by omega) (by omega)
    rw [w64_in (by omega) (by omega)]
    obtain ⟨k,hk⟩:=Int.eq_ofNat_of_zero_le (by omega : 0≤z.m)
    unfold f92_p10
    refine LoopP.inv k (fun j x=>x = (day - B z.y - C z.y j,(j : Int))) 1 (by rw [show ((1 : Nat) : Int) = 1 from rfl,C_1]; simp) (by omega) (by omega) ?_ ?_
    · rintro j x h1j hj rfl N hN
      unfold f92_p10b0
      have hs:=C_succ (y:=z.y) (m:=j) (by omega) (by omega)
      have hle:=C_le (y:=z.y) (a:=j + 1) (b:=z.m) (by omega) (by omega) (by omega)
      have hdj:=dim_bd z.y j
      have hCb:=C_bd (y:=z.y) (m:=j) (by omega)
      have hl:=lp_01 z.y
      refine f46_ok (bB_t (decide_eq_true (by dsimp only; omega)) (f46_ok (hN _ ?_)))
      dsimp only
      rw [w64_in (by omega) (by omega),w64_in (by omega) (by omega),show ((j + 1 : Nat) : Int) = (j : Int) + 1 by omega,hs]
      simp; omega
    · rintro x rfl N
      unfold f92_p10b0
      rw [← hk]
      refine f46_ok (bB_f (decide_eq_false (by dsimp only; omega)) ?_)
      dsimp only
      have hdj:=dim_bd z.y z.m
      rw [w64_in (by omega) (by omega),show day - B z.y - C z.y z.m + 1 = z.d by omega]
      exact h
theorem f81_ok {day : Int} (h1 : 0≤day) (h2 : day≤73048) {K : Int→Int→Int→Int→Prop} (h : K (ofDay day).y (ofDay day).m (ofDay day).d 0) : f81 day K :=
  ⟨f91_ok h1 h2 (bB_f rfl (f92_ok h1 h2 h))⟩
def wd (day : Int) : Int:=(day + 5) % 7 + 1
theorem f93_ok {day : Int} (h1 : 0≤day) (h2 : day≤80000) {K : Int→Prop} (h : K (wd day)) : f93 day K:=by
  refine ⟨?_⟩
  unfold f93_d
  refine ⟨by decide,?_⟩
  rw [w64_in (n:=day + 5) (by omega) (by omega),Int.tmod_eq_emod_of_nonneg (by omega),w64_in (by omega) (by omega)]
  exact h
theorem f82_ok {day : Int} (h1 : 0≤day) (h2 : day≤73048) {K : Int→Int→Prop} (h : K (wd day) 0) : f82 day K :=
  ⟨f91_ok h1 h2 (bB_f rfl (f93_ok h1 (by omega) h))⟩
end Go.Eng.N
