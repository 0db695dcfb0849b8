/- Exceptions: Check, the program's and the reference's. -/
import Derived.Test.YtcklpjecelnamaaDoorXF
import Derived.Test.YtcklpjecelnamaaDoorPM
import Derived.Test.YtcklpjecelnamaaDoorFn2
import Derived.Test.YtcklpjecelnamaaDoorFn1
set_option linter.unusedVariables false
set_option linter.unusedSimpArgs false
namespace Go.Eng.N
open Go Go.Eng
structure En where
  at_ : Int
  k : Int
  n : Int
  deriving DecidableEq
def En.c (e : En) : List PC:=[pI e.at_,pI e.k,pI e.n]
structure Exc where
  name : ByteArray
  p : Pt
  cal : ByteArray
  pri : Int
  es : List En
  f : Bool
def Exc.c (x : Exc) : List PC:=[pS x.name,pI x.p.y,pI x.p.mo,pI x.p.d,pI x.p.wd,pI x.p.wk,pI x.p.fy,pI x.p.fm,pI x.p.fd,pI x.p.ty,pI x.p.tm,pI x.p.td,pS x.cal,pI x.pri,.sl 3 (x.es.map En.c) x.f]
abbrev e0 : ByteArray:=⟨#[]⟩
structure Sm (l : List Exc) (all : List Cal) : Prop where
  hl : l.length≤70
  ha : all.length≤8
  hes : ∀ x∈l,x.es.length≤200
  hps : ∀ c∈all,c.ps.length≤200
def validV (k n : Int) : Bool:=decide ((k = 0∧n = 0)∨(k = 1∧-1000000000000≤n∧n≤1000000000000)∨(k = 2∧(n = 0∨n = 1))∨(k = 3∧1≤n∧n≤16))
def incE : List En→Bool
  | a :: b :: r=>decide (a.at_ < b.at_) && incE (b :: r)
  | _=>true
def ltB (a b : ByteArray) : Bool:=Op.bytesLess a.toList b.toList
def incB : List ByteArray→Bool
  | a :: b :: r=>ltB a b && incB (b :: r)
  | _=>true
def findC (all : List Cal) (s : ByteArray) : Option Cal:=all.find? fun c=>decide (c.name = s)
def x7 (x : Exc) : Bool:=decide (x.es.length > 32)
def x4 (x : Exc) : Bool:=!nameB x.name
def x10 (x : Exc) : Bool:=decide (x.cal≠e0∧x.p≠⟨0,0,0,0,0,0,0,0,0,0,0⟩)
def x3 (all : List Cal) (x : Exc) : Bool:=decide (x.cal≠e0) && (findC all x.cal).isNone
def x6 (x : Exc) : Bool:=decide (x.pri < 1∨x.pri > 16) || x.es.any fun e=>decide (e.at_ < 0∨e.at_≥1440)
def x5 (x : Exc) : Bool:=!incE x.es
def x11 (x : Exc) : Bool:=x.es.any fun e=>!validV e.k e.n
def dupL : List ByteArray→List ByteArray→Bool
  | _,[]=>false
  | seen,a :: r=>decide (a∈seen) || dupL (seen ++ [a]) r
def calErr : List Cal→Int
  | []=>0
  | c :: r=>if calchk c≠0 then calchk c else calErr r
def xErr : List Exc→Int
  | []=>0
  | x :: r=>if pchk x.p≠0 then pchk x.p else xErr r
def chkV (l : List Exc) (all : List Cal) : Int :=
  if calErr all≠0 then calErr all
  else if incB (all.map (·.name)) = true then
    if l.length > 64 then 7
    else if l.any x7 = true then 7
    else if l.any x4 = true then 4
    else if dupL [] (l.map (·.name)) = true then 5
    else if l.any x10 = true then 10
    else if l.any (x3 all) = true then 3
    else if xErr l≠0 then xErr l
    else if l.any x6 = true then 6
    else if l.any x5 = true then 5
    else if l.any x11 = true then 11
    else 0
  else 5
theorem dupL_s (seen : List ByteArray) (a : ByteArray) (r : List ByteArray) : dupL seen (a :: r) = (decide (a∈seen) || dupL (seen ++ [a]) r):=rfl
theorem calErr_s (c : Cal) (r : List Cal) : calErr (c :: r) = if calchk c≠0 then calchk c else calErr r:=rfl
theorem xErr_s (x : Exc) (r : List Exc) : xErr (x :: r) = if pchk x.p≠0 then pchk x.p else xErr r:=rfl
theorem incE_s (a b : En) (r : List En) : incE (a :: b :: r) = (decide (a.at_ < b.at_) && incE (b :: r)):=rfl
theorem incB_s (a b : ByteArray) (r : List ByteArray) : incB (a :: b :: r) = (ltB a b && incB (b :: r)):=rfl
theorem f64_ok {k n : Int} {K : Bool→Prop} (h : K (validV k n)) : f64 k n K:=by
  refine ⟨?_⟩
  unfold f64_d
  unfold validV at h
  refine bB_e (fun q=>K_eq h ?_) fun q=>bB_e (fun q2=>bB_d (fun q3=>K_eq h ?_) fun q3=>K_eq h ?_) fun q2=>bB_e (fun q3=>bB_e (fun q4=>K_eq h ?_) fun q4=>K_eq h ?_) fun q3=>bB_e (fun q4=>bB_d (fun q5=>K_eq h ?_) fun q5=>K_eq h ?_) fun q4=>K_eq h ?_
  all_goals first
    | exact decide_eq_true (by omega)
    | exact decide_eq_false (by omega)
    | exact decide_eq_decide.2 (by omega)
    | (rw [beqD,decide_eq_decide]; omega)
    | (rw [beqD,beqD,Bool.and_true,dec_and,decide_eq_decide]; omega)
theorem pt0 (p : Pt) : ((p.y == 0) && ((p.mo == 0) && ((p.d == 0) && ((p.wd == 0) && ((p.wk == 0) && ((p.fy == 0) && ((p.fm == 0) && ((p.fd == 0) && ((p.ty == 0) && ((p.tm == 0) && ((p.td == 0) && true))))))))))) = decide (p = ⟨0,0,0,0,0,0,0,0,0,0,0⟩):=by
  cases p
  simp only [beqD,Bool.and_true,dec_and,Pt.mk.injEq]
theorem f60_ok {e : En} {K : Bool→Prop} (h : K (decide (e.at_ < 0∨e.at_≥1440))) : f60 e.at_ e.k e.n K:=by
  refine ⟨?_⟩
  unfold f60_d
  exact bB_d (fun q=>K_eq h (decide_eq_true (.inl q))) fun q=>K_eq h (decide_eq_decide.2 (by omega))
theorem f63_ok {e : En} {K : Bool→Prop} (h : K (!validV e.k e.n)) : f63 e.at_ e.k e.n K:=⟨f64_ok h⟩
theorem f83_ok {es : List En} {f : Bool} (hl : es.length≤200) {K : Int→Prop} (h : ∀ m : Int,decide (m≥0) = es.any (fun e=>decide (e.at_ < 0∨e.at_≥1440))→K m) : f83 (es.map En.c) f K:=by
  refine ⟨?_⟩
  unfold f83_d f83_p4
  rw [List.length_map]
  refine LoopP.find es (fun e=>decide (e.at_ < 0∨e.at_≥1440)) (by omega) (A:=fun j=>K (j : Int)) (B:=K (-1)) (fun j hj q _=>h _ ?_) (fun q=>h _ ?_) ?_ ?_
  · rw [decide_eq_true (by omega),List.any_eq_true.2 ⟨_,List.getElem_mem hj,q⟩]
  · rw [decide_eq_false (by omega),Eq.comm,List.any_eq_false]
    intro x hx; rw [q x hx]; simp
  · intro j hj N hA hN
    unfold f83_p4b0
    refine bB_t (ltL hj) ⟨rngM _ _ hj,?_⟩
    rw [toNat_c,getD_map _ _ _ hj,w64_s j (by omega)]
    generalize es[j] = e at hA hN ⊢
    simp only [En.c,ext_0,ext_s,ext_z,cS_c,cI_c,cB_c,cL_c,cO_c,oS_c,oI_c,oB_c,oL_c,nilC_c,toNat_c]
    exact f60_ok (bB_of hA hN)
  · intro N hB
    unfold f83_p4b0
    exact bB_f (stopL _) hB
theorem f59_ok {es : List En} {f : Bool} (hl : es.length≤200) {K : Bool→Prop} (h : K (es.any (fun e=>decide (e.at_ < 0∨e.at_≥1440)))) : f59 (es.map En.c) f K:=⟨f83_ok hl fun m hm=>by rw [hm]; exact h⟩
theorem f83_1_ok {es : List En} {f : Bool} (hl : es.length≤200) {K : Int→Prop} (h : ∀ m : Int,decide (m≥0) = es.any (fun e=>!validV e.k e.n)→K m) : f83_1 (es.map En.c) f K:=by
  refine ⟨?_⟩
  unfold f83_1_d f83_1_p4
  rw [List.length_map]
  refine LoopP.find es (fun e=>!validV e.k e.n) (by omega) (A:=fun j=>K (j : Int)) (B:=K (-1)) (fun j hj q _=>h _ ?_) (fun q=>h _ ?_) ?_ ?_
  · rw [decide_eq_true (by omega),List.any_eq_true.2 ⟨_,List.getElem_mem hj,q⟩]
  · rw [decide_eq_false (by omega),Eq.comm,List.any_eq_false]
    intro x hx; rw [q x hx]; simp
  · intro j hj N hA hN
    unfold f83_1_p4b0
    refine bB_t (ltL hj) ⟨rngM _ _ hj,?_⟩
    rw [toNat_c,getD_map _ _ _ hj,w64_s j (by omega)]
    generalize es[j] = e at hA hN ⊢
    simp only [En.c,ext_0,ext_s,ext_z,cS_c,cI_c,cB_c,cL_c,cO_c,oS_c,oI_c,oB_c,oL_c,nilC_c,toNat_c]
    exact f63_ok (bB_of hA hN)
  · intro N hB
    unfold f83_1_p4b0
    exact bB_f (stopL _) hB
theorem f59_1_ok {es : List En} {f : Bool} (hl : es.length≤200) {K : Bool→Prop} (h : K (es.any (fun e=>!validV e.k e.n))) : f59_1 (es.map En.c) f K:=⟨f83_1_ok hl fun m hm=>by rw [hm]; exact h⟩
theorem f53_ok {x : Exc} {n : Int} {K : Bool→Prop} (h : K (x7 x)) : f53 n x.name x.p.y x.p.mo x.p.d x.p.wd x.p.wk x.p.fy x.p.fm x.p.fd x.p.ty x.p.tm x.p.td x.cal x.pri (x.es.map En.c) x.f K:=by
  refine ⟨?_⟩
  unfold f53_d
  rw [List.length_map]
  exact K_eq h (decide_eq_decide.2 (by omega))
theorem f54_ok {x : Exc} {n : Int} {K : Bool→Prop} (h : K (x4 x)) : f54 n x.name x.p.y x.p.mo x.p.d x.p.wd x.p.wk x.p.fy x.p.fm x.p.fd x.p.ty x.p.tm x.p.td x.cal x.pri (x.es.map En.c) x.f K:=⟨f15_ok h⟩
theorem f56_ok {x : Exc} {n : Int} {K : Bool→Prop} (h : K (x10 x)) : f56 n x.name x.p.y x.p.mo x.p.d x.p.wd x.p.wk x.p.fy x.p.fm x.p.fd x.p.ty x.p.tm x.p.td x.cal x.pri (x.es.map En.c) x.f K:=by
  refine ⟨?_⟩
  unfold f56_d
  rw [pt0 x.p,beqL]
  unfold x10 at h
  refine bB_not (bB_d (fun q=>K_eq h (decide_eq_false fun z=>z.1 q)) fun q=>K_eq h ?_)
  rw [← decide_not,decide_eq_decide]
  exact ⟨fun z=>z.2,fun z=>⟨q,z⟩⟩
theorem f39_ok {all : List Cal} {f : Bool} (hl : all.length≤8) {s : ByteArray} {K : ByteArray→List (List PC)→Bool→Bool→Prop} (h : match findC all s with | some c=>K c.name (c.ps.map Pt.c) c.f true | none=>K e0 [] true false) : f39 (all.map Cal.c) f s K:=by
  refine ⟨?_⟩
  unfold f39_d f39_p4
  rw [List.length_map]
  refine LoopP.inv all.length (fun j x=>x = (j : Int)∧findC all s = findC (all.drop j) s) 0 ⟨rfl,rfl⟩ (Nat.zero_le _) (by omega) ?_ ?_
  · rintro j x _ hj ⟨rfl,he⟩ N hN
    unfold f39_p4b0
    refine bB_t (ltL hj) ⟨rngM _ _ hj,?_⟩
    rw [toNat_c,getD_map _ _ _ hj,w64_s j (by omega)]
    rw [List.drop_eq_getElem_cons hj] at he
    unfold findC at he
    rw [List.find?_cons] at he
    generalize all[j] = c at he ⊢
    simp only [Cal.c,ext_0,ext_s,ext_z,cS_c,cI_c,cB_c,cL_c,cO_c,oS_c,oI_c,oB_c,oL_c,nilC_c,toNat_c]
    rw [beqL]
    refine bB_of (fun q=>?_) fun q=>hN _ ⟨rfl,?_⟩
    · rw [q] at he
      have he : findC all s = some c:=he
      rw [he] at h; exact h
    · rw [q] at he; exact he
  · rintro x ⟨rfl,he⟩ N
    unfold f39_p4b0
    rw [List.drop_eq_nil_of_le (Nat.le_refl _)] at he
    have he : findC all s = none:=he
    rw [he] at h
    exact bB_f (stopL _) h
theorem f57_ok {x : Exc} {n : Int} {all : List Cal} {f : Bool} (hl : all.length≤8) {K : Bool→List (List PC)→Bool→Prop} (h : K (x3 all x) (all.map Cal.c) f) : f57 n x.name x.p.y x.p.mo x.p.d x.p.wd x.p.wk x.p.fy x.p.fm x.p.fd x.p.ty x.p.tm x.p.td x.cal x.pri (x.es.map En.c) x.f (all.map Cal.c) f K:=by
  refine ⟨?_⟩
  unfold f57_d
  refine f39_ok hl ?_
  rw [beqL]
  unfold x3 at h
  cases hq : findC all x.cal with
  | none =>
    rw [hq] at h
    refine bB_not (bB_d (fun q=>?_) fun q=>?_)
    · rw [decide_eq_false (fun z=>z q)] at h; exact h
    · rw [decide_eq_true q] at h; exact h
  | some c =>
    rw [hq] at h
    refine bB_not (bB_d (fun q=>?_) fun q=>?_)
    · rw [decide_eq_false (fun z=>z q)] at h; exact h
    · rw [decide_eq_true q] at h; exact h
theorem f58_ok {x : Exc} (hx : x.es.length≤200) {n : Int} {K : Bool→Prop} (h : K (x6 x)) : f58 n x.name x.p.y x.p.mo x.p.d x.p.wd x.p.wk x.p.fy x.p.fm x.p.fd x.p.ty x.p.tm x.p.td x.cal x.pri (x.es.map En.c) x.f K:=by
  refine ⟨?_⟩
  unfold f58_d
  unfold x6 at h
  refine bB_d (fun q=>?_) fun q=>bB_d (fun q2=>?_) fun q2=>f59_ok hx ?_
  · rw [decide_eq_true (.inl q),Bool.true_or] at h; exact h
  · rw [decide_eq_true (.inr q2),Bool.true_or] at h; exact h
  · rw [decide_eq_false (by omega),Bool.false_or] at h; exact h
theorem f62_ok {x : Exc} (hx : x.es.length≤200) {n : Int} {K : Bool→Prop} (h : K (x11 x)) : f62 n x.name x.p.y x.p.mo x.p.d x.p.wd x.p.wk x.p.fy x.p.fm x.p.fd x.p.ty x.p.tm x.p.td x.cal x.pri (x.es.map En.c) x.f K:=⟨f59_1_ok hx h⟩
theorem f61_ok {x : Exc} (hx : x.es.length≤200) {n : Int} {K : Bool→Prop} (h : K (x5 x)) : f61 n x.name x.p.y x.p.mo x.p.d x.p.wd x.p.wk x.p.fy x.p.fm x.p.fd x.p.ty x.p.tm x.p.td x.cal x.pri (x.es.map En.c) x.f K:=by
  refine ⟨?_⟩
  unfold f61_d f61_p4
  unfold x5 at h
  generalize x.es = es at hx h
  match es,hx,h with
  | [],_,h =>
    refine LoopP.inv 1 (fun j x=>x = (j : Int)) 1 rfl (by omega) (by omega) (fun j x h1 hj=>by omega) ?_
    rintro x rfl N
    unfold f61_p4b0
    exact bB_f (decide_eq_false (by simp)) h
  | a :: r,hx,h =>
    refine LoopP.inv (r.length + 1) (fun j x=>x = (j : Int)∧incE (a :: r) = incE ((a :: r).drop (j - 1))) 1 ⟨rfl,rfl⟩ (by omega) (by simp at hx; omega) ?_ ?_
    · rintro j y h1 hj ⟨rfl,he⟩ N hN
      simp only [List.length_cons] at hx
      unfold f61_p4b0
      have hj2 : j < (a :: r).length:=by simpa using hj
      rw [List.drop_eq_getElem_cons (by omega : j - 1 < (a :: r).length),show j - 1 + 1 = j by omega,List.drop_eq_getElem_cons hj2,incE_s] at he
      have e1 : w64 ((j : Int) - 1) = ((j - 1 : Nat) : Int):=by rw [w64_in (by omega) (by omega)]; omega
      refine bB_t (ltM _ _ hj2) ?_
      rw [e1]
      refine ⟨rngM _ _ (by omega),?_⟩
      rw [toNat_c,toNat_c,getD_map _ _ _ (by omega : j - 1 < (a :: r).length),getD_map _ _ _ hj2,w64_s j (by omega)]
      generalize (a :: r)[j - 1] = u at he
      have hr:=rngM En.c _ hj2
      have hd : (a :: r).drop (j + 1 - 1) = (a :: r)[j] :: (a :: r).drop (j + 1):=by rw [Nat.add_sub_cancel]; exact List.drop_eq_getElem_cons hj2
      generalize (a :: r)[j] = v at he hd
      simp only [En.c,ext_0,ext_s,ext_z,cS_c,cI_c,cB_c,cL_c,cO_c,oS_c,oI_c,oB_c,oL_c,nilC_c,toNat_c]
      refine ⟨hr,bB_d (fun q=>?_) fun q=>hN _ ⟨rfl,?_⟩⟩
      · rw [he,decide_eq_false (by omega),Bool.false_and] at h; exact h
      · rw [he,decide_eq_true (by omega),Bool.true_and,hd]
    · rintro y ⟨rfl,he⟩ N
      unfold f61_p4b0
      have : incE ((a :: r).drop (r.length + 1 - 1)) = true:=by
        rw [Nat.add_sub_cancel,List.drop_eq_getElem_cons (by simp),List.drop_eq_nil_of_le (by simp)]
        rfl
      rw [he,this] at h
      exact bB_f (decide_eq_false (by rw [List.length_map,List.length_cons]; omega)) h
theorem f52_ok {l : List Exc} {f : Bool} {e : Int} (hl : l.length≤70) {K : Int→Prop} (h : K (if l.any x7 = true then e else 0)) : f52 (l.map Exc.c) f e K:=by
  refine ⟨?_⟩
  unfold f52_d f52_p4
  rw [List.length_map]
  refine LoopP.any l x7 (by omega) (A:=K e) (B:=K 0) (fun q=>by rw [if_pos q] at h; exact h) (fun q=>by rw [if_neg (by rw [q]; simp)] at h; exact h) ?_ ?_
  · intro j hj N hA hN
    unfold f52_p4b0
    refine bB_t (ltL hj) ⟨rngM _ _ hj,?_⟩
    rw [toNat_c,getD_map _ _ _ hj,w64_s j (by omega)]
    generalize l[j] = x at hA hN ⊢
    simp only [Exc.c,ext_0,ext_s,ext_z,cS_c,cI_c,cB_c,cL_c,cO_c,oS_c,oI_c,oB_c,oL_c,nilC_c,toNat_c]
    exact f53_ok (bB_of hA hN)
  · intro N hB
    unfold f52_p4b0
    exact bB_f (stopL _) hB
theorem f52_1_ok {l : List Exc} {f : Bool} {e : Int} (hl : l.length≤70) {K : Int→Prop} (h : K (if l.any x4 = true then e else 0)) : f52_1 (l.map Exc.c) f e K:=by
  refine ⟨?_⟩
  unfold f52_1_d f52_1_p4
  rw [List.length_map]
  refine LoopP.any l x4 (by omega) (A:=K e) (B:=K 0) (fun q=>by rw [if_pos q] at h; exact h) (fun q=>by rw [if_neg (by rw [q]; simp)] at h; exact h) ?_ ?_
  · intro j hj N hA hN
    unfold f52_1_p4b0
    refine bB_t (ltL hj) ⟨rngM _ _ hj,?_⟩
    rw [toNat_c,getD_map _ _ _ hj,w64_s j (by omega)]
    generalize l[j] = x at hA hN ⊢
    simp only [Exc.c,ext_0,ext_s,ext_z,cS_c,cI_c,cB_c,cL_c,cO_c,oS_c,oI_c,oB_c,oL_c,nilC_c,toNat_c]
    exact f54_ok (bB_of hA hN)
  · intro N hB
    unfold f52_1_p4b0
    exact bB_f (stopL _) hB
theorem f52_3_ok {l : List Exc} {f : Bool} {e : Int} (hl : l.length≤70) {K : Int→Prop} (h : K (if l.any x10 = true then e else 0)) : f52_3 (l.map Exc.c) f e K:=by
  refine ⟨?_⟩
  unfold f52_3_d f52_3_p4
  rw [List.length_map]
  refine LoopP.any l x10 (by omega) (A:=K e) (B:=K 0) (fun q=>by rw [if_pos q] at h; exact h) (fun q=>by rw [if_neg (by rw [q]; simp)] at h; exact h) ?_ ?_
  · intro j hj N hA hN
    unfold f52_3_p4b0
    refine bB_t (ltL hj) ⟨rngM _ _ hj,?_⟩
    rw [toNat_c,getD_map _ _ _ hj,w64_s j (by omega)]
    generalize l[j] = x at hA hN ⊢
    simp only [Exc.c,ext_0,ext_s,ext_z,cS_c,cI_c,cB_c,cL_c,cO_c,oS_c,oI_c,oB_c,oL_c,nilC_c,toNat_c]
    exact f56_ok (bB_of hA hN)
  · intro N hB
    unfold f52_3_p4b0
    exact bB_f (stopL _) hB
theorem f52_5_ok {l : List Exc} {f : Bool} {e : Int} (hl : l.length≤70) (hes : ∀ x∈l,x.es.length≤200) {K : Int→Prop} (h : K (if l.any x6 = true then e else 0)) : f52_5 (l.map Exc.c) f e K:=by
  refine ⟨?_⟩
  unfold f52_5_d f52_5_p4
  rw [List.length_map]
  refine LoopP.any l x6 (by omega) (A:=K e) (B:=K 0) (fun q=>by rw [if_pos q] at h; exact h) (fun q=>by rw [if_neg (by rw [q]; simp)] at h; exact h) ?_ ?_
  · intro j hj N hA hN
    unfold f52_5_p4b0
    refine bB_t (ltL hj) ⟨rngM _ _ hj,?_⟩
    rw [toNat_c,getD_map _ _ _ hj,w64_s j (by omega)]
    have hx:=hes _ (List.getElem_mem hj)
    generalize l[j] = x at hA hN hx ⊢
    simp only [Exc.c,ext_0,ext_s,ext_z,cS_c,cI_c,cB_c,cL_c,cO_c,oS_c,oI_c,oB_c,oL_c,nilC_c,toNat_c]
    exact f58_ok hx (bB_of hA hN)
  · intro N hB
    unfold f52_5_p4b0
    exact bB_f (stopL _) hB
theorem f52_6_ok {l : List Exc} {f : Bool} {e : Int} (hl : l.length≤70) (hes : ∀ x∈l,x.es.length≤200) {K : Int→Prop} (h : K (if l.any x5 = true then e else 0)) : f52_6 (l.map Exc.c) f e K:=by
  refine ⟨?_⟩
  unfold f52_6_d f52_6_p4
  rw [List.length_map]
  refine LoopP.any l x5 (by omega) (A:=K e) (B:=K 0) (fun q=>by rw [if_pos q] at h; exact h) (fun q=>by rw [if_neg (by rw [q]; simp)] at h; exact h) ?_ ?_
  · intro j hj N hA hN
    unfold f52_6_p4b0
    refine bB_t (ltL hj) ⟨rngM _ _ hj,?_⟩
    rw [toNat_c,getD_map _ _ _ hj,w64_s j (by omega)]
    have hx:=hes _ (List.getElem_mem hj)
    generalize l[j] = x at hA hN hx ⊢
    simp only [Exc.c,ext_0,ext_s,ext_z,cS_c,cI_c,cB_c,cL_c,cO_c,oS_c,oI_c,oB_c,oL_c,nilC_c,toNat_c]
    exact f61_ok hx (bB_of hA hN)
  · intro N hB
    unfold f52_6_p4b0
    exact bB_f (stopL _) hB
theorem f52_7_ok {l : List Exc} {f : Bool} {e : Int} (hl : l.length≤70) (hes : ∀ x∈l,x.es.length≤200) {K : Int→Prop} (h : K (if l.any x11 = true then e else 0)) : f52_7 (l.map Exc.c) f e K:=by
  refine ⟨?_⟩
  unfold f52_7_d f52_7_p4
  rw [List.length_map]
  refine LoopP.any l x11 (by omega) (A:=K e) (B:=K 0) (fun q=>by rw [if_pos q] at h; exact h) (fun q=>by rw [if_neg (by rw [q]; simp)] at h; exact h) ?_ ?_
  · intro j hj N hA hN
    unfold f52_7_p4b0
    refine bB_t (ltL hj) ⟨rngM _ _ hj,?_⟩
    rw [toNat_c,getD_map _ _ _ hj,w64_s j (by omega)]
    have hx:=hes _ (List.getElem_mem hj)
    generalize l[j] = x at hA hN hx ⊢
    simp only [Exc.c,ext_0,ext_s,ext_z,cS_c,cI_c,cB_c,cL_c,cO_c,oS_c,oI_c,oB_c,oL_c,nilC_c,toNat_c]
    exact f62_ok hx (bB_of hA hN)
  · intro N hB
    unfold f52_7_p4b0
    exact bB_f (stopL _) hB
theorem f52_4_ok {l : List Exc} {f g : Bool} {e : Int} {all : List Cal} (hl : l.length≤70) (ha : all.length≤8) {K : Int→List (List PC)→Bool→Prop} (h : K (if l.any (x3 all) = true then e else 0) (all.map Cal.c) g) : f52_4 (l.map Exc.c) f e (all.map Cal.c) g K:=by
  refine ⟨?_⟩
  unfold f52_4_d f52_4_p4
  rw [List.length_map]
  refine LoopP.anyS (fun j=>((j : Int),all.map Cal.c,g)) rfl l (x3 all) (by omega) (A:=K e (all.map Cal.c) g) (B:=K 0 (all.map Cal.c) g) (fun q=>by rw [if_pos q] at h; exact h) (fun q=>by rw [if_neg (by rw [q]; simp)] at h; exact h) ?_ ?_
  · intro j hj N hA hN
    unfold f52_4_p4b0
    dsimp only
    refine bB_t (ltL hj) ⟨rngM _ _ hj,?_⟩
    rw [toNat_c,getD_map _ _ _ hj,w64_s j (by omega)]
    generalize l[j] = x at hA hN ⊢
    simp only [Exc.c,ext_0,ext_s,ext_z,cS_c,cI_c,cB_c,cL_c,cO_c,oS_c,oI_c,oB_c,oL_c,nilC_c,toNat_c]
    exact f57_ok ha (bB_of hA hN)
  · intro N hB
    unfold f52_4_p4b0
    dsimp only
    exact bB_f (stopL _) hB
theorem f55_ok {x : Exc} {n : Int} {m : MP} {seen : List ByteArray} (hm : ∀ s,MP.get (.string s) m = if s∈seen then some [pB true] else none) {K : Bool→MP→Prop} (h : ∀ m',(∀ s,MP.get (.string s) m' = if s∈seen ++ [x.name] then some [pB true] else none)→K (decide (x.name∈seen)) m') : f55 n x.name x.p.y x.p.mo x.p.d x.p.wd x.p.wk x.p.fy x.p.fm x.p.fd x.p.ty x.p.tm x.p.td x.cal x.pri (x.es.map En.c) x.f m K:=by
  refine ⟨?_⟩
  unfold f55_d
  rw [hm]
  have h1:=h (MP.put (.string x.name) [pB true] m) fun s=>by
    rw [MP.get_put keyS,hm]
    by_cases h1 : s = x.name
    · subst h1; simp
    · simp [h1]
  by_cases h2 : x.name∈seen
  · rw [if_pos h2]
    rw [decide_eq_true h2] at h1
    simp only [Option.getD_some,oB_c]
    exact h1
  · rw [if_neg h2]
    rw [decide_eq_false h2] at h1
    simp only [Option.getD_none,oB_c]
    exact h1
theorem f52_2_ok {l : List Exc} {f : Bool} {e : Int} (hl : l.length≤70) {K : Int→MP→Prop} (h : ∀ m,K (if dupL [] (l.map (·.name)) = true then e else 0) m) : f52_2 (l.map Exc.c) f e MP.new K:=by
  refine ⟨?_⟩
  unfold f52_2_d f52_2_p4
  rw [List.length_map]
  refine LoopP.inv l.length (fun j x=>x.1 = (j : Int)∧(∀ s,MP.get (.string s) x.2 = if s∈(l.map (·.name)).take j then some [pB true] else none)∧dupL [] (l.map (·.name)) = dupL ((l.map (·.name)).take j) ((l.map (·.name)).drop j)) 0 ⟨rfl,fun s=>by simp [MP.get_new],rfl⟩ (Nat.zero_le _) (by omega) ?_ ?_
  · rintro j ⟨i,m⟩ _ hj ⟨hi,hm,he⟩ N hN
    dsimp only at hi hm he
    subst hi
    unfold f52_2_p4b0
    dsimp only
    refine bB_t (ltL hj) ⟨rngM _ _ hj,?_⟩
    rw [toNat_c,getD_map _ _ _ hj,w64_s j (by omega)]
    have hj2 : j < (l.map (·.name)).length:=by simpa using hj
    have ht : (l.map (·.name)).take (j + 1) = (l.map (·.name)).take j ++ [l[j].name]:=by
      rw [List.take_succ_eq_append_getElem hj2,List.getElem_map]
    rw [List.drop_eq_getElem_cons hj2,List.getElem_map,dupL_s] at he
    generalize (l.map (·.name)).drop (j + 1) = rest at he hN
    rw [ht] at hN
    generalize l[j] = x at he hN ⊢
    simp only [Exc.c,ext_0,ext_s,ext_z,cS_c,cI_c,cB_c,cL_c,cO_c,oS_c,oI_c,oB_c,oL_c,nilC_c,toNat_c]
    refine f55_ok hm fun m' hm'=>bB_d (fun q=>?_) fun q=>hN _ ⟨rfl,hm',?_⟩
    · have:=h m'
      rw [he,decide_eq_true q,Bool.true_or,if_pos rfl] at this
      exact this
    · rw [he,decide_eq_false q,Bool.false_or]
  · rintro ⟨i,m⟩ ⟨hi,hm,he⟩ N
    dsimp only at hi hm he
    subst hi
    unfold f52_2_p4b0
    dsimp only
    rw [List.drop_eq_nil_of_le (by simp)] at he
    have:=h m
    rw [he] at this
    exact bB_f (stopL _) this
end Go.Eng.N
