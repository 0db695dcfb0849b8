/- Names; the next day that a pattern matches. -/
import Derived.Test.YtcklpjecelnamaaDoorXD
import Derived.Test.YtcklpjecelnamaaDoorFn1
import Derived.Test.YtcklpjecelnamaaDoorFn2
set_option linter.unusedVariables false
set_option linter.unusedSimpArgs false
namespace Go.Eng.N
open Go Go.Eng
def isL (c : UInt8) : Bool:=decide (97≤c.toNat∧c.toNat≤122)
def isDg (c : UInt8) : Bool:=decide (48≤c.toNat∧c.toNat≤57)
def nameC (c : UInt8) : Bool:=isL c || (isDg c || decide (c.toNat = 95))
def nameL : List UInt8→Bool
  | []=>false
  | c :: r=>decide (r.length < 24) && (isL c && r.all nameC)
def nameB (s : ByteArray) : Bool:=nameL (lst s)
theorem f29_ok {c : UInt8} {K : Bool→Prop} (h : K (isDg c)) : f29 ((c.toNat : Nat) : Int) K:=by
  refine ⟨?_⟩
  unfold f29_d
  unfold isDg at h
  refine bB_d (fun q=>K_eq h (decide_eq_decide.2 (by omega))) fun q=>K_eq h (decide_eq_false (by omega))
theorem beq95 {c : UInt8} : (((c.toNat : Nat) : Int) == 95) = decide (c.toNat = 95):=by
  rw [beqD,decide_eq_decide]; omega
theorem f28_ok {s : ByteArray} {j : Nat} (hj : j < (lst s).length) {K : Bool→ByteArray→Prop} (h : K (nameC (lst s)[j]) s) : f28 (j : Int) s K:=by
  refine ⟨?_⟩
  unfold f28_d
  rw [byteAt_in s hj]
  have r : 0≤(j : Int)∧(j : Int) < ((s.size : Nat) : Int):=by rw [size_lst]; omega
  unfold nameC at h
  generalize (lst s)[j] = c at h
  rw [beq95]
  have t : (isL c = false)→f29 ((c.toNat : Nat) : Int) (fun b=>bB b (K true s) ((0≤(j : Int)∧(j : Int) < ((s.size : Nat) : Int))∧K (decide (c.toNat = 95)) s)):=fun hl=>by
    refine f29_ok ?_
    rw [hl,Bool.false_or] at h
    cases hd : isDg c with
    | true=>rw [hd] at h; exact h
    | false=>rw [hd] at h; exact ⟨r,h⟩
  refine ⟨r,bB_d (fun q=>⟨r,bB_d (fun q2=>?_) fun q2=>⟨r,t (decide_eq_false (by omega))⟩⟩) fun q=>⟨r,t (decide_eq_false (by omega))⟩⟩
  rw [show isL c = true from decide_eq_true (by omega),Bool.true_or] at h
  exact h
theorem tw_len {α : Type} (p : α→Bool) (l : List α) : ((l.takeWhile p).length = l.length)↔l.all p = true:=by
  induction l with
  | nil=>simp
  | cons x r ih =>
    rw [List.takeWhile_cons,List.all_cons]
    cases hp : p x with
    | true=>simpa using ih
    | false=>simp
theorem tw_at {α : Type} (p : α→Bool) : ∀ (l : List α) (j : Nat) (hj : j < l.length),p l[j] = false→(∀ i (hi : i < j),p (l[i]'(Nat.lt_trans hi hj)) = true)→(l.takeWhile p).length = j
  | x :: r,0,hj,h,_=>by rw [List.takeWhile_cons]; simp only [List.getElem_cons_zero] at h; simp [h]
  | x :: r,j + 1,hj,h,hi=>by
    rw [List.takeWhile_cons]
    have h0:=hi 0 (by omega)
    simp only [List.getElem_cons_zero] at h0
    rw [if_pos h0]
    have:=tw_at p r j (by simpa using hj) (by simpa using h) fun i hi'=>by simpa using hi (i + 1) (by omega)
    simp [this]
theorem f27_ok {s : ByteArray} (hs : (lst s).length < 2 ^ 58) {K : Int→ByteArray→Prop} (h : K ((((lst s).takeWhile nameC).length : Nat) : Int) s) : f27 s 0 s K:=by
  refine ⟨?_⟩
  unfold f27_d f27_p2
  refine LoopP.findS (fun j=>((j : Int),s)) rfl (lst s) (fun c=>!nameC c) (A:=fun j=>K (j : Int) s) (B:=K (((lst s).length : Nat) : Int) s) (by omega) ?_ ?_ ?_ ?_
  · intro j hj h1 h2
    have:=tw_at nameC (lst s) j hj (by simpa using h1) fun i hi=>by simpa using h2 i hi
    rw [this] at h; exact h
  · intro hb
    have:=(tw_len nameC (lst s)).2 (List.all_eq_true.2 fun x hx=>by simpa using hb x hx)
    rw [this] at h; exact h
  · intro j hj N hA hN
    unfold f27_p2b0
    dsimp only
    refine bB_d (fun _=>f28_ok hj (bB_of (fun q=>?_) fun q=>?_)) fun q=>absurd (show (j : Int) < ((s.size : Nat) : Int) by rw [size_lst]; omega) q
    · have:=hN (by rw [q]; rfl)
      rw [w64_in (by omega) (by omega)]
      exact this
    · exact hA (by rw [q]; rfl)
  · intro N hB
    unfold f27_p2b0
    dsimp only
    exact bB_d (fun q=>absurd q (by rw [size_lst]; omega)) fun _=>hB
theorem f15_ok {s : ByteArray} {K : Bool→Prop} (h : K (nameB s)) : f15 s K:=by
  refine ⟨?_⟩
  unfold f15_d
  have e1 : s.size = (lst s).length:=size_lst s
  unfold nameB at h
  cases hl : lst s with
  | nil =>
    rw [hl] at h e1
    refine bB_d (fun _=>h) fun q=>absurd (show ((s.size : Nat) : Int) < 1 by rw [e1]; decide) q
  | cons c r =>
    rw [hl] at h e1
    refine bB_d (fun q=>?_) fun q=>bB_d (fun q2=>?_) fun q2=>?_
    · rw [e1,List.length_cons] at q; omega
    · change K (decide (r.length < 24) && (isL c && r.all nameC)) at h
      rw [decide_eq_false (by rw [e1,List.length_cons] at q2; omega)] at h; exact h
    · have hr : r.length < 24:=by rw [e1,List.length_cons] at q2; omega
      have hb : byteAt s 0 = ((c.toNat : Nat) : Int):=by
        have:=byteAt_in s (j:=0) (by rw [hl]; simp)
        simp only [hl,List.getElem_cons_zero] at this
        exact this
      change K (decide (r.length < 24) && (isL c && r.all nameC)) at h
      rw [decide_eq_true hr,Bool.true_and] at h
      have r0 : 0≤(0 : Int)∧(0 : Int) < ((s.size : Nat) : Int):=by rw [e1,List.length_cons]; omega
      rw [hb]
      refine ⟨r0,bB_d (fun q3=>?_) fun q3=>⟨r0,bB_d (fun q4=>?_) fun q4=>?_⟩⟩
      · rw [show isL c = false from decide_eq_false (by omega)] at h; exact h
      · rw [show isL c = false from decide_eq_false (by omega)] at h; exact h
      · rw [show isL c = true from decide_eq_true (by omega),Bool.true_and] at h
        have key : K (((((lst s).takeWhile nameC).length : Nat) : Int) == ((s.size : Nat) : Int)):=by
          refine K_eq h ?_
          rw [beqD,e1,← hl]
          have h2:=tw_len nameC (lst s)
          have h3 : (lst s).all nameC = r.all nameC:=by
            rw [hl,List.all_cons]
            have : nameC c = true:=by unfold nameC; rw [show isL c = true from decide_eq_true (by omega)]; rfl
            rw [this,Bool.true_and]
          cases hq : r.all nameC with
          | true=>exact (decide_eq_true (by have:=h2.2 (h3.trans hq); omega)).symm
          | false=>exact (decide_eq_false (by intro hc; have:=h2.1 (by omega); rw [h3,hq] at this; cases this)).symm
        have hsz : (lst s).length < 2 ^ 58:=by rw [hl,List.length_cons]; omega
        exact ⟨f27_ok hsz key,f27_ok hsz key⟩
def nextFrom (q : Int→Bool) : Nat→Int→Int
  | 0,_=>-1
  | n + 1,d=>if q d = true then d else nextFrom q n (d + 1)
theorem nextFrom_0 (q : Int→Bool) (d : Int) : nextFrom q 0 d = -1:=rfl
theorem nextFrom_s (q : Int→Bool) (n : Nat) (d : Int) : nextFrom q (n + 1) d = if q d = true then d else nextFrom q n (d + 1):=rfl
theorem nextFrom_ok (q : Int→Bool) : ∀ (n : Nat) (d : Int),0≤d→(nextFrom q n d = -1∧∀ i,d≤i→i < d + n→q i = false)∨(d≤nextFrom q n d∧nextFrom q n d < d + n∧q (nextFrom q n d) = true∧∀ i,d≤i→i < nextFrom q n d→q i = false)
  | 0,d,h=>.inl ⟨rfl,fun i h1 h2=>by omega⟩
  | n + 1,d,h=>by
    unfold nextFrom
    split
    · rename_i hq
      exact .inr ⟨by omega,by omega,hq,fun i h1 h2=>by omega⟩
    · rename_i hq
      rcases nextFrom_ok q n (d + 1) (by omega) with ⟨a,b⟩ | ⟨a,b,c,e⟩
      · exact .inl ⟨a,fun i h1 h2=>by
          rcases Int.lt_or_eq_of_le h1 with h3 | h3
          · exact b i (by omega) (by omega)
          · subst h3; simpa using hq⟩
      · exact .inr ⟨by omega,by omega,c,fun i h1 h2=>by
          rcases Int.lt_or_eq_of_le h1 with h3 | h3
          · exact e i (by omega) h2
          · subst h3; simpa using hq⟩
def nextP (p : Pt) (day : Int) : Int:=nextFrom (fits p) (73049 - day).toNat day
theorem nextP_neg {p : Pt} {day : Int} (h : 0≤day) (hn : nextP p day < 0) : nextP p day = -1:=by
  rcases nextFrom_ok (fits p) (73049 - day).toNat day h with ⟨a,b⟩ | ⟨a,b,c,e⟩
  · exact a
  · unfold nextP at hn; omega
theorem f21_ok {p : Pt} (hp : pchk p = 0) {day : Int} (h1 : 0≤day) (h2 : day≤73048) {K : Int→Int→Prop} (h : K (if nextP p day < 0 then 0 else nextP p day) (if nextP p day < 0 then 9 else 0)) :
    f21 p.y p.mo p.d p.wd p.wk p.fy p.fm p.fd p.ty p.tm p.td day K:=by
  refine ⟨?_⟩
  unfold f21_d
  refine ⟨?_⟩
  unfold f37_d
  refine f16_ok p (bB_n (fun q=>absurd hp q) fun _=>f49_ok (bB_not (bB_t (decide_eq_true ⟨h1,h2⟩) ?_)))
  obtain ⟨n,hn⟩ : ∃ n : Nat,day + n = 73049:=⟨(73049 - day).toNat,by omega⟩
  have e0 : nextP p day = nextFrom (fits p) n day:=by unfold nextP; rw [show (73049 - day).toNat = n by omega]
  rw [e0] at h
  have found : ∀ j : Nat,j < n→nextFrom (fits p) n day = nextFrom (fits p) (n - j) (day + j)→fits p (day + j) = true→K (day + j) 0:=fun j hj he hf=>by
    rw [show n - j = (n - j - 1) + 1 by omega] at he
    rw [nextFrom_s] at he
    rw [if_pos hf] at he
    rw [he,if_neg (by omega),if_neg (by omega)] at h
    exact h
  have step : ∀ j : Nat,j < n→nextFrom (fits p) n day = nextFrom (fits p) (n - j) (day + j)→fits p (day + j) = false→nextFrom (fits p) n day = nextFrom (fits p) (n - (j + 1)) (day + ((j + 1 : Nat) : Int)):=fun j hj he hf=>by
    rw [show n - j = (n - j - 1) + 1 by omega] at he
    rw [nextFrom_s] at he
    rw [if_neg (by rw [hf]; simp)] at he
    rw [he,show n - (j + 1) = n - j - 1 by omega,show day + ((j + 1 : Nat) : Int) = day + j + 1 by omega]
  by_cases hR : p.isR
  · refine f50_r hp hR fun lo hi hf=>?_
    unfold f37_p14
    refine LoopP.inv n (fun j x=>x = .inl (day + (j : Int),1,lo,hi)∧nextFrom (fits p) n day = nextFrom (fits p) (n - j) (day + j)) 0 ⟨by simp,by simp⟩ (by omega) (by omega) ?_ ?_
    · rintro j x _ hj ⟨rfl,he⟩ N hN
      dsimp only
      unfold f37_p14b0
      refine f49_ok (bB_t (decide_eq_true (by omega)) (f79_ok (bB_of (fun q=>?_) fun q=>?_)))
      · rw [← hf _ (by omega) (by omega)] at q
        exact found j hj he q
      · rw [← hf _ (by omega) (by omega)] at q
        rw [w64_in (by omega) (by omega)]
        exact hN _ ⟨by rw [show day + ((j + 1 : Nat) : Int) = day + j + 1 by omega],step j hj he q⟩
    · rintro x ⟨rfl,he⟩ N
      dsimp only
      unfold f37_p14b0
      rw [Nat.sub_self,nextFrom_0] at he
      rw [he] at h
      exact f49_ok (bB_f (decide_eq_false (by omega)) h)
  · refine f50_n hR ?_
    unfold f37_p14
    refine LoopP.inv n (fun j x=>x = .inr (day + (j : Int),1,p.y,p.mo,p.d,p.wd,p.wk,p.fy,p.fm,p.fd,p.ty,p.tm,p.td)∧nextFrom (fits p) n day = nextFrom (fits p) (n - j) (day + j)) 0 ⟨by simp,by simp⟩ (by omega) (by omega) ?_ ?_
    · rintro j x _ hj ⟨rfl,he⟩ N hN
      dsimp only
      unfold f37_p14b1
      refine f49_ok (bB_t (decide_eq_true (by omega)) (f80_ok hp hR (by omega) (by omega) (bB_of (fun q=>?_) fun q=>?_)))
      · exact found j hj he q
      · rw [w64_in (by omega) (by omega)]
        exact hN _ ⟨by rw [show day + ((j + 1 : Nat) : Int) = day + j + 1 by omega],step j hj he q⟩
    · rintro x ⟨rfl,he⟩ N
      dsimp only
      unfold f37_p14b1
      rw [Nat.sub_self,nextFrom_0] at he
      rw [he] at h
      exact f49_ok (bB_f (decide_eq_false (by omega)) h)
end Go.Eng.N
