/- Exceptions: the reference's Check; Small. -/
import Derived.Test.YtcklpjecelnamaaGreatDoorXH
set_option linter.unusedVariables false
set_option linter.unusedSimpArgs false
namespace Go.Eng.N
open Go Go.Eng
theorem incEl {R : Int→(Int→Prop)→Prop} (l : List En) (hl : l.length≤200) {A B : Prop} (hA : incE l = false→A) (hB : incE l = true→B)
    (step : ∀ (j : Nat) (h1 : 1≤j) (hj : j < l.length) (N : Int→Prop),((l[j - 1]'(by omega)).at_≥(l[j]).at_→A)→((l[j - 1]'(by omega)).at_ < (l[j]).at_→N ((j + 1 : Nat) : Int))→R (j : Int) N)
    (stop : ∀ (j : Nat),l.length≤j→∀ N : Int→Prop,B→R (j : Int) N) : LoopP R 1:=by
  match l,hl,hA,hB,step,stop with
  | [],_,hA,hB,step,stop =>
    refine LoopP.inv 1 (fun j x=>x = (j : Int)) 1 rfl (by omega) (by omega) (fun j x h1 hj=>by omega) ?_
    rintro x rfl N
    exact stop 1 (by simp) N (hB rfl)
  | a :: r,hl,hA,hB,step,stop =>
    refine LoopP.inv (r.length + 1) (fun j x=>x = (j : Int)∧incE (a :: r) = incE ((a :: r).drop (j - 1))) 1 ⟨rfl,rfl⟩ (by omega) (by simp at hl; omega) ?_ ?_
    · rintro j y h1 hj ⟨rfl,he⟩ N hN
      have hj2 : j < (a :: r).length:=by simpa using hj
      rw [List.drop_eq_getElem_cons (by omega : j - 1 < (a :: r).length),show j - 1 + 1 = j by omega,List.drop_eq_getElem_cons hj2,incE_s] at he
      refine step j h1 hj2 N (fun q=>hA (by rw [he,decide_eq_false (by omega),Bool.false_and])) fun q=>hN _ ⟨rfl,?_⟩
      rw [he,decide_eq_true q,Bool.true_and,Nat.add_sub_cancel]
      rw [List.drop_eq_getElem_cons hj2]
    · rintro y ⟨rfl,he⟩ N
      have : incE ((a :: r).drop (r.length + 1 - 1)) = true:=by
        rw [Nat.add_sub_cancel,List.drop_eq_getElem_cons (by simp),List.drop_eq_nil_of_le (by simp)]
        rfl
      exact stop _ (by simp) N (hB (he.trans this))
theorem f55_ok {l : List Exc} {all : List Cal} {f g : Bool} (hs : Sm l all) {K : Int→Prop}
    (h : K (if l.any x4 = true then 4 else if dupL [] (l.map (·.name)) = true then 5 else if l.any x10 = true then 10 else if l.any (x3 all) = true then 3 else xErr l)) : f55 (l.map Exc.c) f (all.map Cal.c) g K:=by
  refine ⟨?_⟩
  unfold f55_d
  obtain ⟨hl,ha,hes,hps⟩:=hs
  unfold f55_p4
  refine LoopP.any l x4 (by omega) (A:=K 4) (B:=l.any x4 = false) (fun q=>by rw [if_pos q] at h; exact h) id ?_ ?_
  · intro j hj N hA hN
    unfold f55_p4b0
    refine bB_t (ltM _ _ hj) ⟨rngM _ _ hj,?_⟩
    rw [toNat_c,getD_map _ _ _ hj,w64_s j (by omega)]
    generalize l[j] = x at hA hN ⊢
    simp only [Exc.c,ext_0,ext_s,ext_z,cS_c,cI_c,cB_c,cL_c,cO_c,oS_c,oI_c,oB_c,oL_c,nilC_c,toNat_c]
    unfold x4 at hA hN
    exact f31_ok (bB_of hA hN)
  intro N q
  unfold f55_p4b0
  refine bB_f (stopM _ _) ?_
  rw [if_neg (by rw [q]; simp)] at h
  unfold f55_p14
  refine LoopP.inv l.length (fun j x=>x = (j : Int)∧dupL [] (l.map (·.name)) = dupL ((l.map (·.name)).take j) ((l.map (·.name)).drop j)) 0 ⟨rfl,rfl⟩ (Nat.zero_le _) (by omega) ?_ ?_
  · rintro j x _ hj ⟨rfl,he⟩ N hN
    unfold f55_p14b0
    refine bB_t (ltM _ _ hj) ?_
    have hj2 : j < (l.map (·.name)).length:=by simpa using hj
    have ht : (l.map (·.name)).take (j + 1) = (l.map (·.name)).take j ++ [l[j].name]:=by
      rw [List.take_succ_eq_append_getElem hj2,List.getElem_map]
    rw [List.drop_eq_getElem_cons hj2,List.getElem_map,dupL_s] at he
    unfold f55_p20
    have hlen : (l.take j).length = j:=by simp; omega
    refine LoopP.any (l.take j) (fun x=>decide (l[j].name = x.name)) (by omega) (A:=K 5) (B:=N (w64 ((j : Int) + 1))) ?_ ?_ ?_ ?_
    · intro q2
      obtain ⟨x,hx,e⟩:=List.any_eq_true.1 q2
      rw [if_pos] at h
      · exact h
      · rw [he,decide_eq_true,Bool.true_or]
        rw [of_decide_eq_true e,← List.map_take]
        exact List.mem_map.2 ⟨x,hx,rfl⟩
    · intro q2
      rw [w64_s j (by omega)]
      refine hN _ ⟨rfl,?_⟩
      rw [he,ht,decide_eq_false,Bool.false_or]
      rw [← List.map_take]
      intro hc
      obtain ⟨x,hx,e⟩:=List.mem_map.1 hc
      rw [List.any_eq_false] at q2
      exact q2 x hx (decide_eq_true e.symm)
    · intro k hk N2 hA hN2
      rw [hlen] at hk
      unfold f55_p20b0
      refine bB_t (decide_eq_true (by omega)) ⟨rngM _ _ hj,?_⟩
      rw [toNat_c,toNat_c,getD_map _ _ _ hj,getD_map _ _ _ (by omega : k < l.length),w64_s k (by omega)]
      have hr:=rngM Exc.c l (by omega : k < l.length)
      simp only [List.getElem_take] at hA hN2
      generalize l[j] = x at hA hN2 ⊢
      generalize l[k] = y at hA hN2 ⊢
      simp only [Exc.c,ext_0,ext_s,ext_z,cS_c,cI_c,cB_c,cL_c,cO_c,oS_c,oI_c,oB_c,oL_c,nilC_c,toNat_c]
      rw [beqL]
      exact ⟨hr,bB_of hA hN2⟩
    · intro N2 hB
      unfold f55_p20b0
      rw [hlen]
      exact bB_f (decide_eq_false (by omega)) hB
  rintro x ⟨rfl,he⟩ N
  unfold f55_p14b0
  refine bB_f (stopM _ _) ?_
  rw [List.drop_eq_nil_of_le (by simp)] at he
  rw [he,if_neg (by simp [dupL])] at h
  unfold f55_p30
  refine LoopP.any l x10 (by omega) (A:=K 10) (B:=l.any x10 = false) (fun q=>by rw [if_pos q] at h; exact h) id ?_ ?_
  · intro j hj N hA hN
    unfold f55_p30b0
    refine bB_t (ltM _ _ hj) ⟨rngM _ _ hj,?_⟩
    rw [toNat_c,getD_map _ _ _ hj,w64_s j (by omega)]
    have hr:=rngM Exc.c _ hj
    generalize l[j] = x at hA hN ⊢
    simp only [Exc.c,ext_0,ext_s,ext_z,cS_c,cI_c,cB_c,cL_c,cO_c,oS_c,oI_c,oB_c,oL_c,nilC_c,toNat_c]
    rw [beqL,pt0 x.p]
    unfold x10 at hA hN
    exact bB_not (bB_d (fun q=>hN (decide_eq_false fun z=>z.1 q)) fun q=>⟨hr,bB_not (bB_d (fun q2=>hN (decide_eq_false fun z=>z.2 q2)) fun q2=>hA (decide_eq_true ⟨q,q2⟩))⟩)
  intro N q3
  unfold f55_p30b0
  refine bB_f (stopM _ _) ?_
  rw [if_neg (by rw [q3]; simp)] at h
  unfold f55_p40
  refine LoopP.any l (x3 all) (by omega) (A:=K 3) (B:=l.any (x3 all) = false) (fun q=>by rw [if_pos q] at h; exact h) id ?_ ?_
  · intro j hj N hA hN
    unfold f55_p40b0
    refine bB_t (ltM _ _ hj) ⟨rngM _ _ hj,?_⟩
    rw [toNat_c,getD_map _ _ _ hj,w64_s j (by omega)]
    have hr:=rngM Exc.c _ hj
    generalize l[j] = x at hA hN ⊢
    simp only [Exc.c,ext_0,ext_s,ext_z,cS_c,cI_c,cB_c,cL_c,cO_c,oS_c,oI_c,oB_c,oL_c,nilC_c,toNat_c]
    rw [beqL]
    unfold x3 at hA hN
    refine f86_ok ha ?_
    cases hq : findC all x.cal with
    | none =>
      rw [hq] at hA hN
      exact bB_t rfl ⟨hr,bB_not (bB_d (fun q=>hN (by rw [decide_eq_false (fun z=>z q)]; rfl)) fun q=>hA (by rw [decide_eq_true q]; rfl))⟩
    | some c =>
      rw [hq] at hA hN
      exact bB_f rfl (hN (by simp))
  intro N q4
  unfold f55_p40b0
  refine bB_f (stopM _ _) ?_
  rw [if_neg (by rw [q4]; simp)] at h
  unfold f55_p52
  refine xErr_l hl (K:=K) (fun _=>h) (B:=xErr l = 0) id ?_ ?_
  · intro j hj N hA hN
    unfold f55_p52b0
    refine bB_t (ltM _ _ hj) ⟨rngM _ _ hj,?_⟩
    rw [toNat_c,getD_map _ _ _ hj,w64_s j (by omega)]
    generalize l[j] = x at hA hN ⊢
    simp only [Exc.c,ext_0,ext_s,ext_z,cS_c,cI_c,cB_c,cL_c,cO_c,oS_c,oI_c,oB_c,oL_c,nilC_c,toNat_c]
    exact f32_ok x.p (bB_n hA hN)
  intro N q5
  unfold f55_p52b0
  refine bB_f (stopM _ _) ?_
  rw [q5] at h
  exact h
theorem f56_ok {l : List Exc} {f : Bool} (hl : l.length≤70) (hes : ∀ x∈l,x.es.length≤200) {K : Int→Prop}
    (h : K (if l.any x6 = true then 6 else if l.any x5 = true then 5 else if l.any x11 = true then 11 else 0)) : f56 (l.map Exc.c) f K:=by
  refine ⟨?_⟩
  unfold f56_d f56_p4
  refine LoopP.any l x6 (by omega) (A:=K 6) (B:=l.any x6 = false) (fun q=>by rw [if_pos q] at h; exact h) id ?_ ?_
  · intro j hj N hA hN
    unfold f56_p4b0
    refine bB_t (ltM _ _ hj) ⟨rngM _ _ hj,?_⟩
    rw [toNat_c,getD_map _ _ _ hj,w64_s j (by omega)]
    have hx:=hes _ (List.getElem_mem hj)
    generalize l[j] = x at hA hN hx ⊢
    simp only [Exc.c,ext_0,ext_s,ext_z,cS_c,cI_c,cB_c,cL_c,cO_c,oS_c,oI_c,oB_c,oL_c,nilC_c,toNat_c]
    exact f87_ok hx (bB_not (bB_not (bB_of hA hN)))
  intro N q
  unfold f56_p4b0
  refine bB_f (stopM _ _) ?_
  rw [if_neg (by rw [q]; simp)] at h
  unfold f56_p14
  refine LoopP.any l x5 (by omega) (A:=K 5) (B:=l.any x5 = false) (fun q=>by rw [if_pos q] at h; exact h) id ?_ ?_
  · intro j hj N hA hN
    unfold f56_p14b0
    refine bB_t (ltM _ _ hj) ?_
    rw [w64_s j (by omega)]
    have hx:=hes _ (List.getElem_mem hj)
    have hr:=rngM Exc.c _ hj
    unfold f56_p20
    unfold x5 at hA hN
    refine incEl l[j].es hx (A:=K 5) (B:=N ((j + 1 : Nat) : Int)) (fun z=>hA (by rw [z]; rfl)) (fun z=>hN (by rw [z]; rfl)) ?_ ?_
    · intro k h1 hk N2 hA2 hN2
      unfold f56_p20b0
      have e1 : w64 ((k : Int) - 1) = ((k - 1 : Nat) : Int):=by rw [w64_in (by omega) (by omega)]; omega
      rw [toNat_c,getD_map _ _ _ hj,e1,toNat_c,toNat_c,w64_s k (by omega)]
      generalize l[j] = x at hx hk hA2 hN2 hr ⊢
      simp only [Exc.c,ext_0,ext_s,ext_z,cS_c,cI_c,cB_c,cL_c,cO_c,oS_c,oI_c,oB_c,oL_c,nilC_c,toNat_c]
      refine ⟨hr,bB_t (ltM _ _ hk) ⟨hr,rngM _ _ (by omega),?_⟩⟩
      rw [getD_map _ _ _ (by omega : k - 1 < x.es.length),getD_map _ _ _ hk]
      have hr2:=rngM En.c _ hk
      simp only [En.c,ext_0,ext_s,ext_z,cS_c,cI_c,cB_c,cL_c,cO_c,oS_c,oI_c,oB_c,oL_c,nilC_c,toNat_c]
      exact ⟨hr,hr2,bB_d hA2 fun z=>hN2 (by omega)⟩
    · intro k hk N2 hB
      unfold f56_p20b0
      rw [toNat_c,getD_map _ _ _ hj]
      generalize l[j] = x at hx hk hr hB ⊢
      simp only [Exc.c,ext_0,ext_s,ext_z,cS_c,cI_c,cB_c,cL_c,cO_c,oS_c,oI_c,oB_c,oL_c,nilC_c,toNat_c]
      exact ⟨hr,bB_f (decide_eq_false (by rw [List.length_map]; omega)) hB⟩
  intro N q2
  unfold f56_p14b0
  refine bB_f (stopM _ _) ?_
  rw [if_neg (by rw [q2]; simp)] at h
  unfold f56_p30
  refine LoopP.any l x11 (by omega) (A:=K 11) (B:=K 0) (fun q=>by rw [if_pos q] at h; exact h) (fun q=>by rw [if_neg (by rw [q]; simp)] at h; exact h) ?_ ?_
  · intro j hj N hA hN
    unfold f56_p30b0
    refine bB_t (ltM _ _ hj) ?_
    rw [w64_s j (by omega)]
    have hx:=hes _ (List.getElem_mem hj)
    have hr:=rngM Exc.c _ hj
    unfold f56_p36
    unfold x11 at hA hN
    refine LoopP.any l[j].es (fun e=>!validV e.k e.n) (by omega) (A:=K 11) (B:=N ((j + 1 : Nat) : Int)) hA hN ?_ ?_
    · intro k hk N2 hA2 hN2
      unfold f56_p36b0
      rw [toNat_c,getD_map _ _ _ hj,toNat_c,w64_s k (by omega)]
      generalize l[j] = x at hx hk hA2 hN2 hr ⊢
      simp only [Exc.c,ext_0,ext_s,ext_z,cS_c,cI_c,cB_c,cL_c,cO_c,oS_c,oI_c,oB_c,oL_c,nilC_c,toNat_c]
      refine ⟨hr,bB_t (ltM _ _ hk) ⟨hr,rngM _ _ hk,?_⟩⟩
      rw [getD_map _ _ _ hk]
      generalize x.es[k] = v at hA2 hN2 ⊢
      simp only [En.c,ext_0,ext_s,ext_z,cS_c,cI_c,cB_c,cL_c,cO_c,oS_c,oI_c,oB_c,oL_c,nilC_c,toNat_c]
      exact f88_ok (bB_of hA2 hN2)
    · intro N2 hB
      unfold f56_p36b0
      rw [toNat_c,getD_map _ _ _ hj]
      generalize l[j] = x at hx hr hB ⊢
      simp only [Exc.c,ext_0,ext_s,ext_z,cS_c,cI_c,cB_c,cL_c,cO_c,oS_c,oI_c,oB_c,oL_c,nilC_c,toNat_c]
      exact ⟨hr,bB_f (decide_eq_false (by rw [List.length_map]; omega)) hB⟩
  · intro N hB
    unfold f56_p30b0
    exact bB_f (stopM _ _) hB
theorem f19_ok {l : List Exc} {all : List Cal} {f g : Bool} (hs : Sm l all) {K : Int→Prop} (h : K (chkV l all)) : f19 (l.map Exc.c) f (all.map Cal.c) g K:=by
  refine ⟨?_⟩
  unfold f19_d
  have hs':=hs
  obtain ⟨hl,ha,hes,hps⟩:=hs
  unfold chkV at h
  refine f54_ok ha ?_
  by_cases h1 : calErr all≠0
  · rw [if_pos h1] at h ⊢
    exact bB_n (fun _=>h) fun q=>absurd q h1
  rw [if_neg h1] at h ⊢
  by_cases h2 : incB (all.map (·.name)) = true
  · rw [if_pos h2] at h ⊢
    refine bB_f rfl ?_
    rw [List.length_map]
    refine bB_d (fun q=>?_) fun q=>?_
    · rw [if_pos (by omega)] at h; exact h
    rw [if_neg (by omega)] at h
    unfold f19_p14
    refine LoopP.any l x7 (by omega) (A:=K 7) (B:=l.any x7 = false) (fun q=>by rw [if_pos q] at h; exact h) id ?_ ?_
    · intro j hj N hA hN
      unfold f19_p14b0
      refine bB_t (ltM _ _ hj) ⟨rngM _ _ hj,?_⟩
      rw [toNat_c,getD_map _ _ _ hj,w64_s j (by omega)]
      generalize l[j] = x at hA hN ⊢
      simp only [Exc.c,ext_0,ext_s,ext_z,cS_c,cI_c,cB_c,cL_c,cO_c,oS_c,oI_c,oB_c,oL_c,nilC_c,toNat_c]
      unfold x7 at hA hN
      rw [List.length_map]
      exact bB_d (fun z=>hA (decide_eq_true (by omega))) fun z=>hN (decide_eq_false (by omega))
    intro N q2
    unfold f19_p14b0
    refine bB_f (stopM _ _) ?_
    rw [if_neg (by rw [q2]; simp)] at h
    refine f55_ok hs' ?_
    by_cases h4 : l.any x4 = true
    · rw [if_pos h4] at h ⊢; exact bB_t rfl h
    rw [if_neg h4] at h ⊢
    by_cases h5 : dupL [] (l.map (·.name)) = true
    · rw [if_pos h5] at h ⊢; exact bB_t rfl h
    rw [if_neg h5] at h ⊢
    by_cases h10 : l.any x10 = true
    · rw [if_pos h10] at h ⊢; exact bB_t rfl h
    rw [if_neg h10] at h ⊢
    by_cases h3 : l.any (x3 all) = true
    · rw [if_pos h3] at h ⊢; exact bB_t rfl h
    rw [if_neg h3] at h ⊢
    refine bB_n (fun z=>by rw [if_pos z] at h; exact h) fun z=>?_
    rw [if_neg (fun y=>y z)] at h
    exact f56_ok hl hes h
  · rw [if_neg h2] at h ⊢
    exact bB_t rfl h
def sumN : List Nat→Nat
  | []=>0
  | a :: r=>a + sumN r
def smB (l : List Exc) (all : List Cal) : Bool:=decide (l.length≤70∧all.length≤8∧sumN (l.map fun x=>x.es.length) + sumN (all.map fun c=>c.ps.length)≤200)
theorem sumN_mem : ∀ {l : List Nat} {a : Nat},a∈l→a≤sumN l
  | b :: r,a,h=>by
    unfold sumN
    rcases List.mem_cons.1 h with rfl | h
    · omega
    · have:=sumN_mem h; omega
theorem smB_t {l : List Exc} {all : List Cal} (h : smB l all = true) : Sm l all:=by
  obtain ⟨h1,h2,h3⟩:=of_decide_eq_true h
  refine ⟨h1,h2,fun x hx=>?_,fun c hc=>?_⟩
  · have:=sumN_mem (List.mem_map.2 ⟨x,hx,rfl⟩ : x.es.length∈l.map fun x=>x.es.length); omega
  · have:=sumN_mem (List.mem_map.2 ⟨c,hc,rfl⟩ : c.ps.length∈all.map fun c=>c.ps.length); omega
theorem sumN_take : ∀ (l : List Nat) (j : Nat) (hj : j < l.length),sumN (l.take (j + 1)) = sumN (l.take j) + l[j]
  | a :: r,0,_=>by simp [sumN]
  | a :: r,j + 1,hj=>by
    have:=sumN_take r j (by simpa using hj)
    simp only [List.take_succ_cons,sumN,List.getElem_cons_succ]
    rw [this]; omega
theorem sumN_bd {b : Nat} : ∀ (l : List Nat),(∀ a∈l,a≤b)→sumN l≤l.length * b
  | [],_=>by simp [sumN]
  | a :: r,h=>by
    have h1:=sumN_bd r fun x hx=>h x (by simp [hx])
    have h2:=h a (by simp)
    simp only [sumN,List.length_cons,Nat.add_mul]; omega
theorem f17_ok {l : List Exc} {all : List Cal} {f g : Bool} (he : ∀ x∈l,x.es.length≤2 ^ 48) (hc : ∀ c∈all,c.ps.length≤2 ^ 48) {K : Bool→Prop} (h : K (smB l all)) : f17 (l.map Exc.c) f (all.map Cal.c) g K:=by
  refine ⟨?_⟩
  unfold f17_d
  unfold smB at h
  rw [List.length_map,List.length_map]
  refine bB_d (fun q=>K_eq h (decide_eq_false (by omega))) fun q=>bB_d (fun q2=>K_eq h (decide_eq_false (by omega))) fun q2=>?_
  have hl : l.length≤70:=by omega
  have ha : all.length≤8:=by omega
  have be : ∀ j,sumN ((l.map fun x=>x.es.length).take j)≤70 * 2 ^ 48:=fun j=>by
    have:=sumN_bd (b:=2 ^ 48) ((l.map fun x=>x.es.length).take j) fun a ha=>by
      obtain ⟨x,hx,rfl⟩:=List.mem_map.1 (List.mem_of_mem_take ha)
      exact he x hx
    have h2 : ((l.map fun x=>x.es.length).take j).length≤70:=by simp; omega
    exact Nat.le_trans this (Nat.mul_le_mul_right _ h2)
  have bc : ∀ j,sumN ((all.map fun x=>x.ps.length).take j)≤8 * 2 ^ 48:=fun j=>by
    have:=sumN_bd (b:=2 ^ 48) ((all.map fun x=>x.ps.length).take j) fun a ha=>by
      obtain ⟨x,hx,rfl⟩:=List.mem_map.1 (List.mem_of_mem_take ha)
      exact hc x hx
    have h2 : ((all.map fun x=>x.ps.length).take j).length≤8:=by simp; omega
    exact Nat.le_trans this (Nat.mul_le_mul_right _ h2)
  unfold f17_p7 f17_p10
  refine LoopP.seq l.length (fun j=>(((sumN ((l.map fun x=>x.es.length).take j) : Nat) : Int),(j : Int))) (by simp [sumN]) (by omega) ?_ ?_
  · intro j hj N hN
    unfold f17_p10b0
    dsimp only
    refine bB_t (ltM _ _ hj) ⟨rngM _ _ hj,?_⟩
    rw [toNat_c,getD_map _ _ _ hj,w64_s j (by omega)]
    have hj2 : j < (l.map fun x=>x.es.length).length:=by simpa using hj
    have b1:=be j
    have b2:=be (j + 1)
    have hx:=he _ (List.getElem_mem hj)
    rw [sumN_take _ j hj2,List.getElem_map] at hN
    generalize l[j] = x at hN hx ⊢
    simp only [Exc.c,ext_0,ext_s,ext_z,cS_c,cI_c,cB_c,cL_c,cO_c,oS_c,oI_c,oB_c,oL_c,nilC_c,toNat_c]
    rw [List.length_map,w64_in (by omega) (by omega)]
    exact hN
  intro N
  unfold f17_p10b0
  dsimp only
  refine bB_f (stopM _ _) ?_
  have b1:=be l.length
  rw [List.take_of_length_le (by simp)] at b1 ⊢
  unfold f17_p18
  refine LoopP.seq all.length (fun j=>(((sumN (l.map fun x=>x.es.length) + sumN ((all.map fun x=>x.ps.length).take j) : Nat) : Int),(j : Int))) (by simp [sumN]) (by omega) ?_ ?_
  · intro j hj N hN
    unfold f17_p18b0
    dsimp only
    refine bB_t (ltM _ _ hj) ⟨rngM _ _ hj,?_⟩
    rw [toNat_c,getD_map _ _ _ hj,w64_s j (by omega)]
    have hj2 : j < (all.map fun x=>x.ps.length).length:=by simpa using hj
    have b2:=bc j
    have hx:=hc _ (List.getElem_mem hj)
    rw [sumN_take _ j hj2,List.getElem_map] at hN
    generalize all[j] = x at hN hx ⊢
    simp only [Cal.c,ext_0,ext_s,ext_z,cS_c,cI_c,cB_c,cL_c,cO_c,oS_c,oI_c,oB_c,oL_c,nilC_c,toNat_c]
    rw [List.length_map,w64_in (by omega) (by omega)]
    rw [← Nat.add_assoc] at hN
    exact hN
  · intro N
    unfold f17_p18b0
    dsimp only
    rw [List.take_of_length_le (by simp)]
    refine bB_f (stopM _ _) (K_eq h (decide_eq_decide.2 (by omega)))
def chkD (l : List Exc) (all : List Cal) (day : Int) : Int:=if chkV l all≠0 then chkV l all else if 0≤day∧day≤73048 then 0 else 1
theorem f57_ok {l : List Exc} {all : List Cal} {f g : Bool} (hs : Sm l all) {day : Int} {K : Int→Prop} (h : K (chkD l all day)) : f57 (l.map Exc.c) f (all.map Cal.c) g day K:=by
  refine ⟨?_⟩
  unfold f57_d
  unfold chkD at h
  refine f18_ok hs (bB_n (fun q=>?_) fun q=>f33_ok (bB_not (bB_d (fun q2=>?_) fun q2=>?_)))
  · rw [if_pos q] at h; exact h
  · rw [if_neg (fun z=>z q),if_pos q2] at h; exact h
  · rw [if_neg (fun z=>z q),if_neg q2] at h; exact h
end Go.Eng.N
