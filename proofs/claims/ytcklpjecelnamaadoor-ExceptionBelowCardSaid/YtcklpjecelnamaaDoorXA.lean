/- Days, months, years: plain facts; the functions of packages civil and ref05. -/
import Derived.Test.YtcklpjecelnamaaDoorPK
import Derived.Test.YtcklpjecelnamaaDoorFn1
set_option linter.unusedVariables false
set_option linter.unusedSimpArgs false
namespace Go.Eng.N
open Go Go.Eng
def lp (y : Int) : Int:=if y % 4 = 0∧y % 100≠0∨y % 400 = 0 then 1 else 0
def dim (y m : Int) : Int:=if m < 1 then 0 else if 12 < m then 0 else if m = 2 then 28 + lp y else if m = 4∨m = 6∨m = 9∨m = 11 then 30 else 31
def B (y : Int) : Int:=365 * (y - 2000) + ((y - 1) / 4 - (y - 1) / 100 + (y - 1) / 400) - 484
def C (y m : Int) : Int:=if m≤1 then 0 else if m = 2 then 31 else if m = 3 then 59 + lp y else if m = 4 then 90 + lp y else if m = 5 then 120 + lp y else if m = 6 then 151 + lp y else if m = 7 then 181 + lp y
  else if m = 8 then 212 + lp y else if m = 9 then 243 + lp y else if m = 10 then 273 + lp y else if m = 11 then 304 + lp y else if m = 12 then 334 + lp y else 365 + lp y
theorem lp_01 (y : Int) : lp y = 0∨lp y = 1:=by unfold lp; split <;> simp
theorem dim_bd (y m : Int) : 0≤dim y m∧dim y m≤31:=by have:=lp_01 y; unfold dim; (repeat' split) <;> omega
theorem dim_lo {y m : Int} (h1 : 1≤m) (h2 : m≤12) : 28≤dim y m:=by have:=lp_01 y; unfold dim; (repeat' split) <;> omega
theorem B_succ (y : Int) : B (y + 1) = B y + 365 + lp y:=by unfold B lp; split <;> omega
theorem B_2000 : B 2000 = 0:=by decide
theorem B_2200 : B 2200 = 73049:=by decide
theorem C_1 (y : Int) : C y 1 = 0:=by unfold C; simp
theorem C_succ {y m : Int} (h1 : 1≤m) (h2 : m≤12) : C y (m + 1) = C y m + dim y m:=by
  have : m = 1∨m = 2∨m = 3∨m = 4∨m = 5∨m = 6∨m = 7∨m = 8∨m = 9∨m = 10∨m = 11∨m = 12:=by omega
  rcases this with rfl | rfl | rfl | rfl | rfl | rfl | rfl | rfl | rfl | rfl | rfl | rfl <;> simp [C,dim] <;> omega
theorem C_13 (y : Int) : C y 13 = 365 + lp y:=by simp [C]
theorem C_bd {y m : Int} (h2 : m≤13) : 0≤C y m∧C y m≤365 + lp y:=by
  have:=lp_01 y
  by_cases h1 : m≤1
  · unfold C
    rw [if_pos h1]
    omega
  have : m = 2∨m = 3∨m = 4∨m = 5∨m = 6∨m = 7∨m = 8∨m = 9∨m = 10∨m = 11∨m = 12∨m = 13:=by omega
  rcases this with rfl | rfl | rfl | rfl | rfl | rfl | rfl | rfl | rfl | rfl | rfl | rfl <;> simp [C] <;> omega
theorem B_le {a b : Int} (h : a≤b) : B a≤B b:=by unfold B; omega
theorem B_bd {y : Int} (h1 : 1999≤y) (h2 : y≤2200) : -365≤B y∧B y≤73049:=by unfold B; omega
theorem C_le {y a b : Int} (h0 : 1≤a) (h : a≤b) (h2 : b≤13) : C y a≤C y b:=by
  obtain ⟨n,rfl⟩ : ∃ n : Nat,b = a + n:=⟨(b - a).toNat,by omega⟩
  induction n with
  | zero=>simp
  | succ n ih =>
    have h1:=ih (by omega) (by omega)
    have h3:=C_succ (y:=y) (m:=a + n) (by omega) (by omega)
    have h4:=dim_bd y (a + n)
    have e : a + ((n + 1 : Nat) : Int) = a + n + 1:=by omega
    rw [e,h3]
    omega
def IsDate (day y m d : Int) : Prop:=1≤m∧m≤12∧1≤d∧d≤dim y m∧day = B y + C y m + d - 1
theorem IsDate.year {day y m d : Int} (h : IsDate day y m d) : B y≤day∧day < B (y + 1):=by
  obtain ⟨h1,h2,h3,h4,h5⟩:=h
  have a:=C_succ (y:=y) h1 h2
  have b:=C_le (y:=y) (a:=m + 1) (b:=13) (by omega) (by omega) (by omega)
  have c:=C_13 y
  have e:=B_succ y
  have f:=C_bd (y:=y) (m:=m) (by omega)
  omega
theorem IsDate.uniq {day y m d y' m' d' : Int} (h : IsDate day y m d) (h' : IsDate day y' m' d') : y = y'∧m = m'∧d = d':=by
  have a:=h.year
  have a':=h'.year
  have hy : y = y':=by
    by_cases e : y = y'
    · exact e
    · rcases Int.lt_or_gt_of_ne e with q | q
      · have:=B_le (a:=y + 1) (b:=y') (by omega)
        omega
      · have:=B_le (a:=y' + 1) (b:=y) (by omega)
        omega
  subst hy
  obtain ⟨h1,h2,h3,h4,h5⟩:=h
  obtain ⟨k1,k2,k3,k4,k5⟩:=h'
  have hm : m = m':=by
    by_cases e : m = m'
    · exact e
    · rcases Int.lt_or_gt_of_ne e with q | q
      · have:=C_le (y:=y) (a:=m + 1) (b:=m') (by omega) (by omega) (by omega)
        have:=C_succ (y:=y) h1 h2
        omega
      · have:=C_le (y:=y) (a:=m' + 1) (b:=m) (by omega) (by omega) (by omega)
        have:=C_succ (y:=y) k1 k2
        omega
  subst hm
  exact ⟨rfl,rfl,by omega⟩
theorem tmod0 (a b : Int) : (Int.tmod a b == 0) = decide (a % b = 0):=by
  rw [beqD,decide_eq_decide]
  exact (Int.dvd_iff_tmod_eq_zero (a:=b) (b:=a)).symm.trans Int.dvd_iff_emod_eq_zero
theorem tmodn0 (a b : Int) : (Int.tmod a b != 0) = decide (a % b≠0):=by
  rw [bne,tmod0,decide_not]
theorem f78_ok {y : Int} {K : Bool→Prop} (h : K (decide (lp y = 1))) : f78 y K:=by
  refine ⟨?_⟩
  unfold f78_d
  rw [tmod0,tmodn0,tmod0]
  have e : decide (lp y = 1) = decide (y % 4 = 0∧y % 100≠0∨y % 400 = 0):=by unfold lp; by_cases h : (y % 4 = 0∧y % 100≠0∨y % 400 = 0) <;> simp [h]
  rw [e] at h
  refine ⟨by decide,bB_of (fun h1=>⟨by decide,bB_of (fun h2=>?_) fun h2=>⟨by decide,?_⟩⟩) fun h1=>⟨by decide,?_⟩⟩
  · rw [show decide (y % 4 = 0∧y % 100≠0∨y % 400 = 0) = true from decide_eq_true (.inl ⟨of_decide_eq_true h1,of_decide_eq_true h2⟩)] at h
    exact h
  · have e2 : decide (y % 4 = 0∧y % 100≠0∨y % 400 = 0) = decide (y % 400 = 0):=by
      rw [decide_eq_decide]
      have:=of_decide_eq_false h2
      constructor
      · rintro (h | h)
        · exact absurd h.2 this
        · exact h
      · exact .inr
    rw [e2] at h
    exact h
  · have e2 : decide (y % 4 = 0∧y % 100≠0∨y % 400 = 0) = decide (y % 400 = 0):=by
      rw [decide_eq_decide]
      have:=of_decide_eq_false h1
      constructor
      · rintro (h | h)
        · exact absurd h.1 this
        · exact h
      · exact .inr
    rw [e2] at h
    exact h
theorem m12 {m : Int} (h1 : ¬ m < 1) (h2 : ¬ m > 12) : m = 1∨m = 2∨m = 3∨m = 4∨m = 5∨m = 6∨m = 7∨m = 8∨m = 9∨m = 10∨m = 11∨m = 12:=by omega
theorem f46_ok {y m : Int} {K : Int→Prop} (h : K (dim y m)) : f46 y m K:=by
  refine ⟨?_⟩
  unfold f46_d
  have hl:=lp_01 y
  refine bB_of (fun h1=>?_) fun h1=>bB_of (fun h2=>?_) fun h2=>?_
  · unfold dim at h; rw [if_pos (of_decide_eq_true h1)] at h; exact h
  · have:=of_decide_eq_true h2
    unfold dim at h; rw [if_neg (of_decide_eq_false h1),if_pos this] at h; exact h
  have h1:=of_decide_eq_false h1
  have h2:=of_decide_eq_false h2
  refine bB_of (fun h3=>f78_ok (bB_of (fun h4=>?_) fun h4=>?_)) fun h3=>?_
  · obtain rfl : m = 2:=by simpa using h3
    have h4:=of_decide_eq_true h4
    simpa [dim,h4] using h
  · obtain rfl : m = 2:=by simpa using h3
    have h4:=of_decide_eq_false h4
    have : lp y = 0:=by omega
    refine ⟨by omega,?_⟩
    simp only [show (0 : Nat) + Int.toNat 2 * 1 = 2 from rfl,ext_s,ext_0,ext_z,oI_c]
    simpa [dim,this] using h
  · refine ⟨by omega,?_⟩
    have h3 : m≠2:=by simpa using h3
    rcases m12 h1 h2 with rfl | rfl | rfl | rfl | rfl | rfl | rfl | rfl | rfl | rfl | rfl | rfl <;>
      first
      | exact absurd rfl h3
      | (simp only [Int.toNat,Nat.zero_add,Nat.mul_one,ext_s,ext_0,ext_z,oI_c]; simpa [dim] using h)
def chk (y m d : Int) : Int:=if y < 2000 then 1 else if 2199 < y then 1 else if d < 1 then 6 else if dim y m < d then 6 else 0
theorem chk_ok {y m d : Int} (h : chk y m d = 0) : 2000≤y∧y≤2199∧1≤d∧d≤dim y m∧1≤m∧m≤12:=by
  unfold chk at h
  split at h; · omega
  split at h; · omega
  split at h; · omega
  split at h; · omega
  refine ⟨by omega,by omega,by omega,by omega,?_⟩
  unfold dim at *
  split at *
  · omega
  · split at * <;> omega
theorem f32_ok {y m d : Int} {K : Int→Prop} (h : K (chk y m d)) : f32 y m d K:=by
  refine ⟨?_⟩
  unfold f32_d
  unfold chk at h
  refine bB_of (fun h1=>?_) fun h1=>?_
  · rw [if_pos (of_decide_eq_true h1)] at h; exact h
  rw [if_neg (of_decide_eq_false h1)] at h
  refine bB_of (fun h1=>?_) fun h1=>?_
  · rw [if_pos (of_decide_eq_true h1)] at h; exact h
  rw [if_neg (of_decide_eq_false h1)] at h
  refine bB_of (fun h1=>?_) fun h1=>?_
  · rw [if_pos (of_decide_eq_true h1)] at h; exact h
  rw [if_neg (of_decide_eq_false h1)] at h
  refine f46_ok (bB_of (fun h1=>?_) fun h1=>?_)
  · rw [if_pos (of_decide_eq_true h1)] at h; exact h
  · rw [if_neg (of_decide_eq_false h1)] at h; exact h
def dayOf (y m d : Int) : Int:=B y + C y m + d - 1
theorem f47_ok {y : Int} (h0 : 1≤y) (h2 : y≤10000000) {K : Int→Prop} (h : K (B y)) : f47 y K:=by
  refine ⟨?_⟩
  unfold f47_d
  refine ⟨by decide,by decide,by decide,?_⟩
  rw [w64_in (n:=y - 1) (by omega) (by omega),Int.tdiv_eq_ediv_of_nonneg (by omega),Int.tdiv_eq_ediv_of_nonneg (by omega),Int.tdiv_eq_ediv_of_nonneg (by omega)]
  unfold B at h
  simp (disch:=omega) only [w64_in]
  have e : 365 * (y - 2000) + ((y - 1) / 4 - (y - 1) / 100 + (y - 1) / 400 - 484) = 365 * (y - 2000) + ((y - 1) / 4 - (y - 1) / 100 + (y - 1) / 400) - 484:=by omega
  rw [e]
  exact h
theorem f33_ok {y m d : Int} (hc : chk y m d = 0) {K : Int→Int→Prop} (h : K (dayOf y m d) 0) : f33 y m d K:=by
  refine ⟨?_⟩
  unfold f33_d
  obtain ⟨h1,h2,h3,h4,h5,h6⟩:=chk_ok hc
  have hd:=dim_bd y m
  have hB:=B_bd (y:=y) (by omega) (by omega)
  refine f32_ok (bB_f (by rw [hc]; rfl) (f47_ok (by omega) (by omega) ?_))
  obtain ⟨n,rfl⟩:=Int.eq_ofNat_of_zero_le (by omega : 0≤m)
  rw [w64_in (n:=B y + d) (by omega) (by omega),w64_in (by omega) (by omega)]
  unfold f33_p12
  refine LoopP.inv n (fun j x=>x = (B y + d - 1 + C y j,(j : Int))) 1 (by rw [show ((1 : Nat) : Int) = 1 from rfl,C_1]; simp) (by omega) (by omega) ?_ ?_
  · rintro j x hk hj rfl N hN
    unfold f33_p12b0
    have hCb:=C_bd (y:=y) (m:=j) (by omega)
    have hl:=lp_01 y
    have hdj:=dim_bd y j
    refine bB_t (decide_eq_true (by dsimp only; omega)) (f46_ok (hN _ ?_))
    dsimp only
    have hs:=C_succ (y:=y) (m:=j) (by omega) (by omega)
    rw [w64_in (by omega) (by omega),w64_in (by omega) (by omega),show ((j + 1 : Nat) : Int) = (j : Int) + 1 by omega,hs]
    simp; omega
  · rintro x rfl N
    unfold f33_p12b0
    refine bB_f (decide_eq_false (by dsimp only; omega)) ?_
    unfold dayOf at h
    rw [show B y + C y n + d - 1 = B y + d - 1 + C y n by omega] at h
    exact h
end Go.Eng.N
