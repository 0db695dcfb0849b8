/- Exceptions: Check as a whole. -/
import Derived.Test.YtcklpjecelnamaaDoorXG
import Derived.Test.YtcklpjecelnamaaDoorFn2
import Derived.Test.YtcklpjecelnamaaDoorFn1
set_option linter.unusedVariables false
set_option linter.unusedSimpArgs false
namespace Go.Eng.N
open Go Go.Eng
def nz : List Int→Int
  | []=>0
  | a :: r=>if a≠0 then a else nz r
theorem nz_s (a : Int) (r : List Int) : nz (a :: r) = if a≠0 then a else nz r:=rfl
theorem f51_ok {l : List Int} {f : Bool} (hl : l.length≤10) {K : Int→Prop} (h : K (nz l)) : f51 (l.map zc) f K:=by
  refine ⟨?_⟩
  unfold f51_d f51_p6
  rw [List.length_map]
  refine LoopP.inv l.length (fun j x=>x = (j : Int)∧nz l = nz (l.drop j)) 0 ⟨rfl,rfl⟩ (Nat.zero_le _) (by omega) ?_ ?_
  · rintro j x _ hj ⟨rfl,he⟩ N hN
    unfold f51_p6b0
    refine bB_t (ltL hj) ⟨rngM _ _ hj,?_⟩
    rw [toNat_c,getD_map _ _ _ hj,w64_s j (by omega)]
    rw [List.drop_eq_getElem_cons hj,nz_s] at he
    generalize l[j] = a at he ⊢
    simp only [zc,ext_0,ext_s,ext_z,cS_c,cI_c,cB_c,cL_c,cO_c,oS_c,oI_c,oB_c,oL_c,nilC_c,toNat_c]
    refine bB_n (fun q=>?_) fun q=>hN _ ⟨rfl,?_⟩
    · rw [he,if_pos q] at h; exact h
    · rw [if_neg (fun z=>z q)] at he; exact he
  · rintro x ⟨rfl,he⟩ N
    unfold f51_p6b0
    rw [List.drop_eq_nil_of_le (Nat.le_refl _)] at he
    rw [he] at h
    exact bB_f (stopL _) h
theorem incL {R : Int→(Int→Prop)→Prop} (l : List ByteArray) (hl : l.length≤100) {A B : Prop} (hA : incB l = false→A) (hB : incB l = true→B)
    (step : ∀ (j : Nat) (h1 : 1≤j) (hj : j < l.length) (N : Int→Prop),(ltB (l[j - 1]'(by omega)) l[j] = false→A)→(ltB (l[j - 1]'(by omega)) l[j] = true→N ((j + 1 : Nat) : Int))→R (j : Int) N)
    (stop : ∀ (j : Nat),l.length≤j→∀ N : Int→Prop,B→R (j : Int) N) : LoopP R 1:=by
  match l,hl,hA,hB,step,stop with
  | [],_,hA,hB,step,stop =>
    refine LoopP.inv 1 (fun j x=>x = (j : Int)) 1 rfl (by omega) (by omega) (fun j x h1 hj=>by omega) ?_
    rintro x rfl N
    exact stop 1 (by simp) N (hB rfl)
  | a :: r,hl,hA,hB,step,stop =>
    refine LoopP.inv (r.length + 1) (fun j x=>x = (j : Int)∧incB (a :: r) = incB ((a :: r).drop (j - 1))) 1 ⟨rfl,rfl⟩ (by omega) (by simp at hl; omega) ?_ ?_
    · rintro j y h1 hj ⟨rfl,he⟩ N hN
      have hj2 : j < (a :: r).length:=by simpa using hj
      rw [List.drop_eq_getElem_cons (by omega : j - 1 < (a :: r).length),show j - 1 + 1 = j by omega,List.drop_eq_getElem_cons hj2,incB_s] at he
      refine step j h1 hj2 N (fun q=>hA (by rw [he,q]; rfl)) fun q=>hN _ ⟨rfl,?_⟩
      rw [he,q,Bool.true_and,Nat.add_sub_cancel]
      rw [List.drop_eq_getElem_cons hj2]
    · rintro y ⟨rfl,he⟩ N
      have : incB ((a :: r).drop (r.length + 1 - 1)) = true:=by
        rw [Nat.add_sub_cancel,List.drop_eq_getElem_cons (by simp),List.drop_eq_nil_of_le (by simp)]
        rfl
      exact stop _ (by simp) N (hB (he.trans this))
theorem calErr_l {all : List Cal} (hl : all.length≤8) {K : Int→Prop} {B : Prop} (h : calErr all≠0→K (calErr all)) (hB : calErr all = 0→B) {R : Int→(Int→Prop)→Prop}
    (step : ∀ j (hj : j < all.length) (N : Int→Prop),(calchk all[j]≠0→K (calchk all[j]))→(calchk all[j] = 0→N ((j + 1 : Nat) : Int))→R (j : Int) N) (stop : ∀ N : Int→Prop,B→R (all.length : Int) N) : LoopP R 0:=by
  refine LoopP.inv all.length (fun j x=>x = (j : Int)∧calErr all = calErr (all.drop j)) 0 ⟨rfl,rfl⟩ (Nat.zero_le _) (by omega) ?_ ?_
  · rintro j x _ hj ⟨rfl,he⟩ N hN
    rw [List.drop_eq_getElem_cons hj,calErr_s] at he
    refine step j hj N (fun q=>?_) fun q=>hN _ ⟨rfl,?_⟩
    · rw [if_pos q] at he
      rw [he] at h; exact h q
    · rw [if_neg (fun z=>z q)] at he; exact he
  · rintro x ⟨rfl,he⟩ N
    rw [List.drop_eq_nil_of_le (Nat.le_refl _)] at he
    exact stop N (hB he)
theorem xErr_l {l : List Exc} (hl : l.length≤70) {K : Int→Prop} {B : Prop} (h : xErr l≠0→K (xErr l)) (hB : xErr l = 0→B) {R : Int→(Int→Prop)→Prop}
    (step : ∀ j (hj : j < l.length) (N : Int→Prop),(pchk (l[j]).p≠0→K (pchk (l[j]).p))→(pchk (l[j]).p = 0→N ((j + 1 : Nat) : Int))→R (j : Int) N) (stop : ∀ N : Int→Prop,B→R (l.length : Int) N) : LoopP R 0:=by
  refine LoopP.inv l.length (fun j x=>x = (j : Int)∧xErr l = xErr (l.drop j)) 0 ⟨rfl,rfl⟩ (Nat.zero_le _) (by omega) ?_ ?_
  · rintro j x _ hj ⟨rfl,he⟩ N hN
    rw [List.drop_eq_getElem_cons hj,xErr_s] at he
    refine step j hj N (fun q=>?_) fun q=>hN _ ⟨rfl,?_⟩
    · rw [if_pos q] at he
      rw [he] at h; exact h q
    · rw [if_neg (fun z=>z q)] at he; exact he
  · rintro x ⟨rfl,he⟩ N
    rw [List.drop_eq_nil_of_le (Nat.le_refl _)] at he
    exact stop N (hB he)
theorem f38_ok {l : List Exc} {all : List Cal} {f g : Bool} (hs : Sm l all) {K : Int→Prop} (h : K (chkV l all)) : f38 (l.map Exc.c) f (all.map Cal.c) g K:=by
  refine ⟨?_⟩
  unfold f38_d
  obtain ⟨hl,ha,hes,hps⟩:=hs
  unfold chkV at h
  unfold f38_p4
  rw [List.length_map,List.length_map]
  refine calErr_l ha (K:=K) (fun q=>by rw [if_pos q] at h; exact h) (B:=calErr all = 0) id ?_ ?_
  · intro j hj N hA hN
    unfold f38_p4b0
    refine bB_t (ltL hj) ⟨rngM _ _ hj,?_⟩
    rw [toNat_c,getD_map _ _ _ hj,w64_s j (by omega)]
    generalize all[j] = c at hA hN ⊢
    simp only [Cal.c,ext_0,ext_s,ext_z,cS_c,cI_c,cB_c,cL_c,cO_c,oS_c,oI_c,oB_c,oL_c,nilC_c,toNat_c]
    exact f7_ok c (bB_n hA hN)
  intro N q
  unfold f38_p4b0
  refine bB_f (stopL _) ?_
  rw [if_neg (fun z=>z q)] at h
  unfold f38_p18
  refine incL (all.map (·.name)) (by rw [List.length_map]; omega) (A:=K 5) (fun q=>by rw [if_neg (by rw [q]; simp)] at h; exact h) (B:=incB (all.map (·.name)) = true) id ?_ ?_
  · intro j h1 hj N hA hN
    have hj' : j < all.length:=by simpa using hj
    unfold f38_p18b0
    have e1 : w64 ((j : Int) - 1) = ((j - 1 : Nat) : Int):=by rw [w64_in (by omega) (by omega)]; omega
    refine bB_t (ltM _ _ hj') ?_
    rw [e1]
    refine ⟨rngM _ _ (by omega),?_⟩
    rw [toNat_c,toNat_c,getD_map _ _ _ (by omega : j - 1 < all.length),getD_map _ _ _ hj',w64_s j (by omega)]
    have hr:=rngM Cal.c _ hj'
    rw [List.getElem_map,List.getElem_map] at hA hN
    generalize all[j - 1] = u at hA hN ⊢
    generalize all[j] = v at hA hN ⊢
    simp only [Cal.c,ext_0,ext_s,ext_z,cS_c,cI_c,cB_c,cL_c,cO_c,oS_c,oI_c,oB_c,oL_c,nilC_c,toNat_c]
    exact ⟨hr,bB_not (bB_of hN hA)⟩
  intro j hj N q
  rw [List.length_map] at hj
  unfold f38_p18b0
  refine bB_f (decide_eq_false (by rw [List.length_map]; omega)) ?_
  rw [if_pos q] at h
  refine bB_d (fun q2=>by rw [if_pos (by omega)] at h; exact h) fun q2=>?_
  rw [if_neg (by omega)] at h
  refine f52_ok hl (f52_1_ok hl (f52_2_ok hl fun m=>f52_3_ok hl (f52_4_ok hl ha ?_)))
  have e5 : ∀ a b c d e : Int,[[pI a],[pI b],[pI c],[pI d],[pI e]] = [a,b,c,d,e].map zc:=fun _ _ _ _ _=>rfl
  rw [e5]
  refine f51_ok (by simp) ?_
  by_cases h7 : l.any x7 = true
  · rw [if_pos h7] at h ⊢; exact bB_t rfl h
  rw [if_neg h7] at h ⊢
  by_cases h4 : l.any x4 = true
  · rw [if_pos h4] at h ⊢; exact bB_t rfl h
  rw [if_neg h4] at h ⊢
  by_cases h5 : dupL [] (l.map (·.name)) = true
  · rw [if_pos h5] at h ⊢; exact bB_t rfl h
  rw [if_neg h5] at h ⊢
  by_cases h10 : l.any x10 = true
  · rw [if_pos h10] at h ⊢; exact bB_t rfl h
  rw [if_neg h10] at h ⊢
  by_cases h3 : l.any (x3 all) = true
  · rw [if_pos h3] at h ⊢; exact bB_t rfl h
  rw [if_neg h3] at h ⊢
  refine bB_f rfl ?_
  unfold f38_p40
  refine xErr_l hl (K:=K) (fun q=>by rw [if_pos q] at h; exact h) (B:=xErr l = 0) id ?_ ?_
  · intro j hj N hA hN
    unfold f38_p40b0
    refine bB_t (ltL hj) ⟨rngM _ _ hj,?_⟩
    rw [toNat_c,getD_map _ _ _ hj,w64_s j (by omega)]
    generalize l[j] = x at hA hN ⊢
    simp only [Exc.c,ext_0,ext_s,ext_z,cS_c,cI_c,cB_c,cL_c,cO_c,oS_c,oI_c,oB_c,oL_c,nilC_c,toNat_c]
    exact f16_ok x.p (bB_n hA hN)
  intro N q
  unfold f38_p40b0
  refine bB_f (stopL _) ?_
  rw [if_neg (fun z=>z q)] at h
  refine f52_5_ok hl hes (f52_6_ok hl hes (f52_7_ok hl hes ?_))
  have e3 : ∀ a b c : Int,[[pI a],[pI b],[pI c]] = [a,b,c].map zc:=fun _ _ _=>rfl
  rw [e3]
  refine f51_ok (by simp) ?_
  by_cases h6 : l.any x6 = true
  · rw [if_pos h6] at h ⊢; exact h
  rw [if_neg h6] at h ⊢
  by_cases h5 : l.any x5 = true
  · rw [if_pos h5] at h ⊢; exact h
  rw [if_neg h5] at h ⊢
  by_cases h11 : l.any x11 = true
  · rw [if_pos h11] at h ⊢; exact h
  rw [if_neg h11] at h ⊢
  exact h
end Go.Eng.N
