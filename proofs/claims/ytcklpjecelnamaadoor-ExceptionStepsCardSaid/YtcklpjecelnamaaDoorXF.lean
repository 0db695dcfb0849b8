/- Calendars: CheckCalendar, In, Days, Next, the program's and the reference's. -/
import Derived.Test.YtcklpjecelnamaaDoorXE
import Derived.Test.YtcklpjecelnamaaDoorEng3
import Derived.Test.YtcklpjecelnamaaDoorFn2
import Derived.Test.YtcklpjecelnamaaDoorFn1
set_option linter.unusedVariables false
set_option linter.unusedSimpArgs false
namespace Go.Eng.N
open Go Go.Eng
structure Cal where
  name : ByteArray
  ps : List Pt
  f : Bool
def Cal.c (c : Cal) : List PC:=[pS c.name,.sl 11 (c.ps.map Pt.c) c.f]
def pErr : List Pt→Int
  | []=>0
  | p :: r=>if pchk p≠0 then pchk p else pErr r
def calchk (c : Cal) : Int:=if nameB c.name = true then (if c.ps.length > 32 then 7 else pErr c.ps) else 4
theorem pErr_0 : ∀ {l : List Pt},pErr l = 0→∀ p∈l,pchk p = 0
  | [],_,p,h=>by cases h
  | q :: r,he,p,h=>by
    unfold pErr at he
    split at he
    · rename_i h1; exact absurd he h1
    · rename_i h1
      rcases List.mem_cons.1 h with rfl | h
      · exact Classical.not_not.1 h1
      · exact pErr_0 he p h
theorem calchk_0 {c : Cal} (h : calchk c = 0) : c.ps.length≤32∧∀ p∈c.ps,pchk p = 0:=by
  unfold calchk at h
  split at h
  · split at h
    · cases h
    · exact ⟨by omega,pErr_0 h⟩
  · cases h
theorem pErr_s (p : Pt) (r : List Pt) : pErr (p :: r) = if pchk p≠0 then pchk p else pErr r:=rfl
theorem f7_ok (c : Cal) {K : Int→Prop} (h : K (calchk c)) : f7 c.name (c.ps.map Pt.c) c.f K:=by
  refine ⟨?_⟩
  unfold f7_d
  unfold calchk at h
  refine f15_ok (bB_not (bB_of (fun q=>?_) fun q=>?_))
  · rw [if_pos q] at h
    rw [List.length_map]
    refine bB_d (fun q2=>?_) fun q2=>?_
    · rw [if_pos (by omega)] at h; exact h
    · rw [if_neg (by omega)] at h
      unfold f7_p12
      refine LoopP.inv c.ps.length (fun j x=>x = (j : Int)∧pErr c.ps = pErr (c.ps.drop j)) 0 ⟨rfl,rfl⟩ (Nat.zero_le _) (by omega) ?_ ?_
      · rintro j x _ hj ⟨rfl,he⟩ N hN
        unfold f7_p12b0
        refine bB_t (ltL hj) ⟨rngM _ _ hj,?_⟩
        rw [toNat_c,getD_map _ _ _ hj,w64_s j (by omega)]
        rw [List.drop_eq_getElem_cons hj,pErr_s] at he
        generalize c.ps[j] = p at he ⊢
        simp only [Pt.c,ext_0,ext_s,ext_z,cS_c,cI_c,cB_c,cL_c,cO_c,oS_c,oI_c,oB_c,oL_c,nilC_c,toNat_c]
        refine f16_ok p (bB_n (fun h1=>?_) fun h1=>hN _ ⟨rfl,?_⟩)
        · rw [he,if_pos h1] at h; exact h
        · rw [if_neg (fun z=>z h1)] at he; exact he
      · rintro x ⟨rfl,he⟩ N
        unfold f7_p12b0
        rw [List.drop_eq_nil_of_le (Nat.le_refl _)] at he
        rw [he] at h
        exact bB_f (stopL _) h
  · rw [if_neg (by rw [q]; simp)] at h; exact h
structure CalOk (c : Cal) : Prop where
  len : c.ps.length≤32
  ok : ∀ p∈c.ps,pchk p = 0
theorem CalOk.of {c : Cal} (h : calchk c = 0) : CalOk c:=⟨(calchk_0 h).1,(calchk_0 h).2⟩
def inV (c : Cal) (day : Int) : Bool:=c.ps.any fun p=>fits p day
theorem f20_ok {c : Cal} (hc : CalOk c) {day : Int} (h1 : 0≤day) (h2 : day≤73048) {K : Bool→Prop} (h : K (inV c day)) : f20 c.name (c.ps.map Pt.c) c.f day K:=by
  refine ⟨?_⟩
  unfold f20_d
  refine ⟨?_⟩
  unfold f34_d
  refine ⟨?_⟩
  unfold f48_d f48_p4
  have hl:=hc.len
  rw [List.length_map]
  refine LoopP.anyS (fun j=>((j : Int),day)) rfl c.ps (fun p=>fits p day) (by omega) (A:=K true) (B:=K false) ?_ ?_ ?_ ?_
  · intro q; rw [show inV c day = true from q] at h; exact h
  · intro q; rw [show inV c day = false from q] at h; exact h
  · intro j hj N hA hN
    unfold f48_p4b0
    dsimp only
    refine bB_t (ltL hj) ⟨rngM _ _ hj,?_⟩
    rw [toNat_c,getD_map _ _ _ hj,w64_s j (by omega)]
    have hp:=hc.ok _ (List.getElem_mem hj)
    generalize c.ps[j] = p at hA hN hp ⊢
    simp only [Pt.c,ext_0,ext_s,ext_z,cS_c,cI_c,cB_c,cL_c,cO_c,oS_c,oI_c,oB_c,oL_c,nilC_c,toNat_c]
    refine ⟨f36_ok hp h1 h2 (bB_of (fun q=>?_) fun q=>hN q)⟩
    rw [decide_eq_true (by omega)]
    exact hA q
  · intro N hB
    unfold f48_p4b0
    dsimp only
    refine bB_f (stopL _) ?_
    rw [decide_eq_false (by omega)]
    exact hB
theorem f11_ok {c : Cal} {day : Int} {K : Bool→Int→Prop} (h : if calchk c = 0 then (if 0≤day∧day≤73048 then K (inV c day) 0 else K false 1) else K false (calchk c)) : f11 c.name (c.ps.map Pt.c) c.f day K:=by
  refine ⟨?_⟩
  unfold f11_d
  refine f7_ok c (bB_n (fun q=>?_) fun q=>f19_ok (bB_not (bB_d (fun q2=>?_) fun q2=>?_)))
  · rw [if_neg q] at h; exact h
  · rw [if_pos q,if_pos q2] at h; exact f20_ok (.of q) q2.1 q2.2 h
  · rw [if_pos q,if_neg q2] at h; exact h
def daysL (q : Int→Bool) (n : Nat) (d : Int) : List Int:=((List.range n).map fun (i : Nat)=>d + (i : Int)).filter q
theorem daysL_s (q : Int→Bool) (n : Nat) (d : Int) : daysL q (n + 1) d = daysL q n d ++ (if q (d + n) = true then [d + (n : Int)] else []):=by
  unfold daysL
  rw [List.range_succ,List.map_append,List.filter_append]
  simp [List.filter_cons]
theorem daysL_len (q : Int→Bool) (n : Nat) (d : Int) : (daysL q n d).length≤n:=by
  unfold daysL
  refine Nat.le_trans (List.length_filter_le _ _) ?_
  simp
theorem gather {R : Nat×Nat×Int×List (List PC)→(Nat×Nat×Int×List (List PC)→Prop)→Prop} (q : Int→Bool) (n : Nat) (d : Int) (hn : n < 2 ^ 40) (hd : 0≤d∧d + n≤73049)
    (step : ∀ (j i m : Nat) (es : List (List PC)) (N : Nat×Nat×Int×List (List PC)→Prop),j < n→i + m≤es.length→m≤j→(q (d + j) = true→N (0,m + 1,d + ((j + 1 : Nat) : Int),List.take m (List.drop i es) ++ [zc (d + j)]))→(q (d + j) = false→N (i,m,d + ((j + 1 : Nat) : Int),es))→R (i,m,d + (j : Int),es) N)
    (stop : ∀ (i m : Nat) (es : List (List PC)) (N : Nat×Nat×Int×List (List PC)→Prop),List.take m (List.drop i es) = (daysL q n d).map zc→R (i,m,d + (n : Int),es) N) : LoopP R (0,0,d,[]):=by
  refine LoopP.inv n (fun j x=>x.2.2.1 = d + (j : Int)∧SlR x.1 x.2.1 x.2.2.2 ((daysL q j d).map zc)) 0 ⟨by simp,SlR.nil⟩ (Nat.zero_le _) (by omega) ?_ ?_
  · rintro j ⟨i,m,t,es⟩ _ hj ⟨ht,hs⟩ N hN
    dsimp only at ht hs
    subst ht
    have hm : m≤j:=by
      rw [hs.n,List.length_map]; exact daysL_len q j d
    refine step j i m es N hj (Nat.le_of_eq hs.len) hm (fun h=>hN _ ⟨rfl,?_⟩) fun h=>hN _ ⟨rfl,?_⟩
    · rw [daysL_s,if_pos h,List.map_append]
      exact hs.push _
    · rw [daysL_s,if_neg (by rw [h]; simp),List.append_nil]
      exact hs
  · rintro ⟨i,m,t,es⟩ ⟨ht,hs⟩ N
    dsimp only at ht hs
    subst ht
    exact stop i m es N hs.take
def span (a b : Int) : Nat:=(b + 1 - a).toNat
theorem f9_ok {c : Cal} {a b : Int} {K : List (List PC)→Bool→Int→Prop}
    (h : if calchk c = 0 then (if (0≤a∧a≤73048)∧(0≤b∧b≤73048) then K ((daysL (inV c) (span a b) a).map zc) false 0 else K [] true 1) else K [] true (calchk c)) : f9 c.name (c.ps.map Pt.c) c.f a b K:=by
  refine ⟨?_⟩
  unfold f9_d
  refine f7_ok c (bB_n (fun q=>?_) fun q=>f19_ok (bB_not (bB_d (fun q2=>f19_ok (bB_not (bB_d (fun q3=>?_) fun q3=>?_))) fun q2=>?_)))
  · rw [if_neg q] at h; exact h
  · rw [if_pos q,if_pos ⟨q2,q3⟩] at h
    unfold f9_p13 f9_p16
    have hc:=CalOk.of q
    refine gather (inV c) (span a b) a (by unfold span; omega) ⟨q2.1,by unfold span; omega⟩ ?_ ?_
    · intro j i m es N hj hl hm hA hB
      have hr : a + (j : Int)≤b:=by unfold span at hj; omega
      unfold f9_p16b0
      dsimp only
      have e3 : w64 (a + (j : Int) + 1) = a + ((j + 1 : Nat) : Int):=by rw [w64_in (by omega) (by omega)]; omega
      rw [e3]
      refine bB_t (decide_eq_true hr) (f20_ok hc (by omega) (by omega) (bB_of (fun z=>⟨hl,by unfold span at hj; omega,by unfold span at hj; omega,hA z⟩) hB))
    · intro i m es N he
      unfold f9_p16b0
      dsimp only
      refine bB_f (decide_eq_false (by unfold span; omega)) ?_
      rw [he]; exact h
  · rw [if_pos q,if_neg (fun z=>q3 z.2)] at h; exact h
  · rw [if_pos q,if_neg (fun z=>q2 z.1)] at h; exact h
def best (day : Int) (b : Int) (p : Pt) : Int:=if nextP p day≥0∧(b < 0∨nextP p day < b) then nextP p day else b
def nextC (c : Cal) (day : Int) : Int:=c.ps.foldl (best day) (-1)
theorem f10_ok {c : Cal} {day : Int} {K : Int→Int→Prop} (h : if calchk c = 0 then (if 0≤day∧day≤73048 then (if nextC c day < 0 then K 0 9 else K (nextC c day) 0) else K 0 1) else K 0 (calchk c)) : f10 c.name (c.ps.map Pt.c) c.f day K:=by
  refine ⟨?_⟩
  unfold f10_d
  refine f7_ok c (bB_n (fun q=>?_) fun q=>f19_ok (bB_not (bB_d (fun q2=>?_) fun q2=>?_)))
  · rw [if_neg q] at h; exact h
  · rw [if_pos q,if_pos q2] at h
    have hc:=CalOk.of q
    have hl:=hc.len
    unfold f10_p16
    rw [List.length_map]
    refine LoopP.inv c.ps.length (fun j x=>x.2 = (j : Int)∧nextC c day = (c.ps.drop j).foldl (best day) x.1) 0 ⟨rfl,rfl⟩ (Nat.zero_le _) (by omega) ?_ ?_
    · rintro j ⟨b,x⟩ _ hj ⟨hx,he⟩ N hN
      dsimp only at hx he
      subst hx
      unfold f10_p16b0
      dsimp only
      refine bB_t (ltL hj) ⟨rngM _ _ hj,?_⟩
      rw [toNat_c,getD_map _ _ _ hj,w64_s j (by omega)]
      have hp:=hc.ok _ (List.getElem_mem hj)
      rw [List.drop_eq_getElem_cons hj,List.foldl_cons] at he
      generalize c.ps[j] = p at he hp ⊢
      simp only [Pt.c,ext_0,ext_s,ext_z,cS_c,cI_c,cB_c,cL_c,cO_c,oS_c,oI_c,oB_c,oL_c,nilC_c,toNat_c]
      have hneg:=nextP_neg (p:=p) q2.1
      refine f21_ok hp q2.1 q2.2 (bB_e (fun z=>?_) fun z=>?_)
      · by_cases hn : nextP p day < 0
        · rw [if_pos hn] at z; cases z
        · rw [if_neg hn]
          refine bB_d (fun z1=>hN _ ⟨rfl,?_⟩) fun z1=>bB_d (fun z2=>hN _ ⟨rfl,?_⟩) fun z2=>hN _ ⟨rfl,?_⟩
          · rw [he]; congr 1; unfold best; rw [if_pos (by omega)]
          · rw [he]; congr 1; unfold best; rw [if_pos (by omega)]
          · rw [he]; congr 1; unfold best; rw [if_neg (by omega)]
      · by_cases hn : nextP p day < 0
        · refine hN _ ⟨rfl,?_⟩
          rw [he]; congr 1; unfold best; rw [if_neg (by omega)]
        · rw [if_neg hn] at z; exact absurd rfl z
    · rintro ⟨b,x⟩ ⟨hx,he⟩ N
      dsimp only at hx he
      subst hx
      unfold f10_p16b0
      dsimp only
      rw [List.drop_eq_nil_of_le (Nat.le_refl _),List.foldl_nil] at he
      rw [he] at h
      refine bB_f (stopL _) (bB_d (fun z=>?_) fun z=>?_)
      · rw [if_pos z] at h; exact h
      · rw [if_neg z] at h; exact h
  · rw [if_pos q,if_neg q2] at h; exact h
theorem f6_ok {day : Int} {K : Bool→Prop} (h : K (decide (0≤day∧day≤73048))) : f6 day K:=by
  refine ⟨?_⟩
  unfold f6_d
  refine bB_d (fun q=>K_eq h (decide_eq_decide.2 (by omega))) fun q=>K_eq h (decide_eq_false (by omega))
theorem f18_ok {l m : List Int} {f g : Bool} (hl : l.length < 2 ^ 58) {K : Bool→Prop} (h : K (decide (l = m))) : f18 (l.map zc) f (m.map zc) g K:=by
  refine ⟨?_⟩
  unfold f18_d
  rw [List.length_map,List.length_map]
  refine bB_n (fun q=>?_) fun q=>?_
  · rw [decide_eq_false (fun e=>q (by rw [e]))] at h; exact h
  · have hlen : l.length = m.length:=by omega
    unfold f18_p8
    refine LoopP.inv l.length (fun j x=>x = (j : Int)∧(l = m↔l.drop j = m.drop j)) 0 ⟨rfl,by simp⟩ (Nat.zero_le _) (by omega) ?_ ?_
    · rintro j x _ hj ⟨rfl,he⟩ N hN
      unfold f18_p8b0
      have hj2 : j < m.length:=by omega
      refine bB_t (ltM _ _ hj) ⟨rngM _ _ hj,?_⟩
      rw [toNat_c,getD_map _ _ _ hj,getD_map _ _ _ hj2,w64_s j (by omega)]
      rw [List.drop_eq_getElem_cons hj,List.drop_eq_getElem_cons hj2,List.cons.injEq] at he
      generalize l[j] = a at he ⊢
      generalize m[j] = b at he ⊢
      simp only [zc,ext_0,ext_s,ext_z,cS_c,cI_c,cB_c,cL_c,cO_c,oS_c,oI_c,oB_c,oL_c,nilC_c,toNat_c]
      refine ⟨rngM _ _ hj2,bB_n (fun z=>?_) fun z=>hN _ ⟨rfl,?_⟩⟩
      · rw [decide_eq_false (fun e=>z (he.1 e).1)] at h; exact h
      · rw [he]; exact ⟨fun y=>y.2,fun y=>⟨z,y⟩⟩
    · rintro x ⟨rfl,he⟩ N
      unfold f18_p8b0
      rw [List.drop_eq_nil_of_le (Nat.le_refl _),List.drop_eq_nil_of_le (by omega)] at he
      rw [decide_eq_true (he.2 rfl)] at h
      exact bB_f (stopM _ _) h
end Go.Eng.N
