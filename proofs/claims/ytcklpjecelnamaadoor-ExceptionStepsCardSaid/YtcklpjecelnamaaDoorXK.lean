/- Exceptions: which hold on a day. -/
import Derived.Test.YtcklpjecelnamaaDoorXJ
import Derived.Test.YtcklpjecelnamaaDoorFn2
import Derived.Test.YtcklpjecelnamaaDoorFn1
set_option linter.unusedVariables false
set_option linter.unusedSimpArgs false
namespace Go.Eng.N
open Go Go.Eng
structure Vd (l : List Exc) (all : List Cal) : Prop where
  sm : Sm l all
  cal : ∀ c∈all,calchk c = 0
  len : l.length≤64
  ps : ∀ x∈l,pchk x.p = 0
  pri : ∀ x∈l,1≤x.pri∧x.pri≤16
  rng : ∀ x∈l,∀ e∈x.es,0≤e.at_∧e.at_ < 1440
  inc : ∀ x∈l,incE x.es = true
  fnd : ∀ x∈l,x.cal = e0∨(findC all x.cal).isSome = true
theorem calErr_0 : ∀ {all : List Cal},calErr all = 0→∀ c∈all,calchk c = 0
  | [],_,c,h=>by cases h
  | q :: r,he,c,h=>by
    rw [calErr_s] at he
    split at he
    · rename_i h1; exact absurd he h1
    · rename_i h1
      rcases List.mem_cons.1 h with rfl | h
      · exact Classical.not_not.1 h1
      · exact calErr_0 he c h
theorem xErr_0 : ∀ {l : List Exc},xErr l = 0→∀ x∈l,pchk x.p = 0
  | [],_,x,h=>by cases h
  | q :: r,he,x,h=>by
    rw [xErr_s] at he
    split at he
    · rename_i h1; exact absurd he h1
    · rename_i h1
      rcases List.mem_cons.1 h with rfl | h
      · exact Classical.not_not.1 h1
      · exact xErr_0 he x h
theorem any_f {α : Type} {l : List α} {q : α→Bool} (h : ¬ l.any q = true) {x : α} (hx : x∈l) : q x = false:=by
  cases hq : q x with
  | false=>rfl
  | true=>exact absurd (List.any_eq_true.2 ⟨x,hx,hq⟩) h
theorem Vd.of {l : List Exc} {all : List Cal} (hs : Sm l all) (h : chkV l all = 0) : Vd l all:=by
  unfold chkV at h
  by_cases q1 : calErr all≠0
  · rw [if_pos q1] at h; exact absurd h q1
  rw [if_neg q1] at h
  by_cases qi : incB (all.map (·.name)) = true
  rotate_left
  · rw [if_neg qi] at h; cases h
  rw [if_pos qi] at h
  by_cases q2 : l.length > 64
  · rw [if_pos q2] at h; cases h
  rw [if_neg q2] at h
  by_cases q7 : l.any x7 = true
  · rw [if_pos q7] at h; cases h
  rw [if_neg q7] at h
  by_cases q4 : l.any x4 = true
  · rw [if_pos q4] at h; cases h
  rw [if_neg q4] at h
  by_cases qd : dupL [] (l.map (·.name)) = true
  · rw [if_pos qd] at h; cases h
  rw [if_neg qd] at h
  by_cases q10 : l.any x10 = true
  · rw [if_pos q10] at h; cases h
  rw [if_neg q10] at h
  by_cases q3 : l.any (x3 all) = true
  · rw [if_pos q3] at h; cases h
  rw [if_neg q3] at h
  by_cases qx : xErr l≠0
  · rw [if_pos qx] at h; exact absurd h qx
  rw [if_neg qx] at h
  by_cases q6 : l.any x6 = true
  · rw [if_pos q6] at h; cases h
  rw [if_neg q6] at h
  by_cases q5 : l.any x5 = true
  · rw [if_pos q5] at h; cases h
  clear h
  refine ⟨hs,calErr_0 (Classical.not_not.1 q1),by omega,xErr_0 (Classical.not_not.1 qx),fun x hx=>?_,fun x hx e he=>?_,fun x hx=>?_,fun x hx=>?_⟩
  · have:=any_f q6 hx
    unfold x6 at this
    rw [Bool.or_eq_false_iff] at this
    have:=of_decide_eq_false this.1
    omega
  · have:=any_f q6 hx
    unfold x6 at this
    rw [Bool.or_eq_false_iff] at this
    have h2:=any_f (by rw [this.2]; simp) he
    have:=of_decide_eq_false h2
    omega
  · have:=any_f q5 hx
    unfold x5 at this
    simpa using this
  · have:=any_f q3 hx
    unfold x3 at this
    rcases Classical.em (x.cal = e0) with z | z
    · exact .inl z
    · rw [decide_eq_true z,Bool.true_and] at this
      right
      cases hq : findC all x.cal with
      | none=>rw [hq] at this; cases this
      | some _=>rfl
def hB (all : List Cal) (day : Int) (x : Exc) : Bool:=if x.cal = e0 then fits x.p day else match findC all x.cal with
  | some c=>inV c day
  | none=>false
theorem findC_mem {all : List Cal} {s : ByteArray} {c : Cal} (h : findC all s = some c) : c∈all:=List.mem_of_find?_eq_some h
theorem gatherF {R : Nat×Nat×Int×List (List PC)→(Nat×Nat×Int×List (List PC)→Prop)→Prop} {m : Nat} (q : Fin m→Bool) (c : Fin m→List PC) (hm : m < 2 ^ 20) (L : List (List PC)) {i0 n0 : Nat} {es0 : List (List PC)} (h0 : SlR i0 n0 es0 L)
    (step : ∀ (j : Fin m) (i n : Nat) (es : List (List PC)) (N : Nat×Nat×Int×List (List PC)→Prop),i + n≤es.length→n≤L.length + m→(q j = true→N (0,n + 1,((j.1 + 1 : Nat) : Int),List.take n (List.drop i es) ++ [c j]))→(q j = false→N (i,n,((j.1 + 1 : Nat) : Int),es))→R (i,n,(j.1 : Int),es) N)
    (stop : ∀ (i n : Nat) (es : List (List PC)) (N : Nat×Nat×Int×List (List PC)→Prop),SlR i n es (L ++ ((List.finRange m).filter q).map c)→R (i,n,(m : Int),es) N) : LoopP R (i0,n0,0,es0):=by
  refine LoopP.inv m (fun j x=>x.2.2.1 = (j : Int)∧SlR x.1 x.2.1 x.2.2.2 (L ++ (((List.finRange m).take j).filter q).map c)) 0 ⟨rfl,by simpa using h0⟩ (Nat.zero_le _) (by omega) ?_ ?_
  · rintro j ⟨i,n,t,es⟩ _ hj ⟨ht,hs⟩ N hN
    dsimp only at ht hs
    subst ht
    have e : (List.finRange m).take (j + 1) = (List.finRange m).take j ++ [⟨j,hj⟩]:=by
      rw [List.take_succ_eq_append_getElem (by simpa using hj),List.getElem_finRange]
      rfl
    have hn : n≤L.length + m:=by
      have h1:=hs.n
      rw [List.length_append,List.length_map] at h1
      have h2:=List.length_filter_le q ((List.finRange m).take j)
      have h3 : ((List.finRange m).take j).length≤m:=by simp; omega
      omega
    refine step ⟨j,hj⟩ i n es N (Nat.le_of_eq hs.len) hn (fun h=>hN _ ⟨rfl,?_⟩) fun h=>hN _ ⟨rfl,?_⟩
    · rw [e,List.filter_append]
      simp only [List.filter_cons,h,if_true,List.filter_nil,List.map_append,List.map_cons,List.map_nil,← List.append_assoc]
      exact hs.push _
    · rw [e,List.filter_append]
      simp only [List.filter_cons,h,List.filter_nil]
      simpa using hs
  · rintro ⟨i,n,t,es⟩ ⟨ht,hs⟩ N
    dsimp only at ht hs
    subst ht
    rw [List.take_of_length_le (by simp)] at hs
    exact stop i n es N hs
def hIx (l : List Exc) (all : List Cal) (day : Int) : List (Ix l):=(List.finRange l.length).filter fun i=>hB all day l[i.1]
def held (l : List Exc) (all : List Cal) (day : Int) : List (Ix l):=isortL (ltI l) (hIx l all day)
theorem f23_ok {l : List Exc} {all : List Cal} {f g : Bool} (hv : Vd l all) {day : Int} (h1 : 0≤day) (h2 : day≤73048) {K : Nat→Nat→List (List PC)→Prop}
    (h : ∀ i n es,SlR i n es ((held l all day).map Ix.c)→K i n es) : f23 (l.map Exc.c) f (all.map Cal.c) g day K:=by
  refine ⟨?_⟩
  unfold f23_d f23_p6
  have hl:=hv.len
  rw [List.length_map]
  refine gatherF (fun i : Ix l=>hB all day l[i.1]) Ix.c (by omega) [] SlR.nil ?_ ?_
  · intro j i n es N hin hn hA hB'
    unfold f23_p6b0
    dsimp only
    refine bB_t (ltL j.2) ⟨rngM _ _ j.2,?_⟩
    rw [toNat_c,getD_map _ _ _ j.2,w64_s j.1 (by omega)]
    have hx:=List.getElem_mem j.2
    have hp:=hv.ps _ hx
    rw [show Ix.c j = [pI (j.1 : Int)] from rfl] at hA
    unfold hB at hA hB'
    generalize l[j.1] = x at hA hB' hp hx ⊢
    simp only [Exc.c,ext_0,ext_s,ext_z,cS_c,cI_c,cB_c,cL_c,cO_c,oS_c,oI_c,oB_c,oL_c,nilC_c,toNat_c]
    simp only [List.length_nil] at hn
    have go : (if x.cal = e0 then fits x.p day else match findC all x.cal with | some c=>inV c day | none=>false) = true→(i + n)≤es.length∧(n + 1) * 8≤2 ^ 47 + 2 ^ 30∧(n + 1)≤2 ^ 47 + 2 ^ 30∧N (0,n + 1,((j.1 + 1 : Nat) : Int),(List.take n (List.drop i es)) ++ [[pI (j.1 : Int)]]):=fun q=>⟨hin,by omega,by omega,hA q⟩
    refine f39_ok hv.sm.ha ?_
    rw [beqL]
    by_cases hc : x.cal = e0
    · rw [if_pos hc] at go hB'
      have fin : bB (decide (x.cal = e0)) (f36 x.p.y x.p.mo x.p.d x.p.wd x.p.wk x.p.fy x.p.fm x.p.fd x.p.ty x.p.tm x.p.td day fun b=>bB b ((i + n)≤es.length∧(n + 1) * 8≤2 ^ 47 + 2 ^ 30∧(n + 1)≤2 ^ 47 + 2 ^ 30∧N (0,n + 1,((j.1 + 1 : Nat) : Int),(List.take n (List.drop i es)) ++ [[pI (j.1 : Int)]])) (N (i,n,((j.1 + 1 : Nat) : Int),es))) (N (i,n,((j.1 + 1 : Nat) : Int),es)) :=
        bB_t (decide_eq_true hc) (f36_ok hp h1 h2 (bB_of go hB'))
      cases hq : findC all x.cal with
      | none=>exact bB_not (bB_t (decide_eq_true hc) fin)
      | some c=>exact bB_not (bB_t (decide_eq_true hc) fin)
    · rw [if_neg hc] at go hB'
      cases hq : findC all x.cal with
      | none =>
        rw [hq] at go hB'
        exact bB_not (bB_f (decide_eq_false hc) (bB_f rfl (bB_f (decide_eq_false hc) (hB' rfl))))
      | some c =>
        rw [hq] at go hB'
        refine bB_not (bB_f (decide_eq_false hc) (bB_t rfl (f20_ok (.of (hv.cal _ (findC_mem hq))) h1 h2 (bB_of go fun q=>?_))))
        exact bB_f (decide_eq_false hc) (hB' q)
  · intro i n es N hs
    unfold f23_p6b0
    dsimp only
    refine bB_f (stopL _) ?_
    have hlen:=hs.n
    have h3 : (hIx l all day).length≤64:=by
      unfold hIx
      refine Nat.le_trans (List.length_filter_le _ _) ?_
      simpa using hl
    refine so_top rfl (l:=hIx l all day) (by rw [List.nil_append,List.length_map] at hlen; unfold hIx at h3; omega) (by rw [List.nil_append] at hs; exact hs) fun es' hs'=>h i n es' hs'
theorem chkD_0 {l : List Exc} {all : List Cal} {day : Int} (h : chkD l all day = 0) : chkV l all = 0∧0≤day∧day≤73048:=by
  unfold chkD at h
  split at h
  · rename_i q; exact absurd h q
  · rename_i q
    split at h
    · rename_i q2; exact ⟨Classical.not_not.1 q,q2⟩
    · cases h
theorem f17_ok {l : List Exc} {all : List Cal} {f g : Bool} (hs : Sm l all) {day : Int} {K : List (List PC)→Bool→Int→Prop}
    (h : if chkD l all day = 0 then K ((held l all day).map Ix.c) false 0 else K [] true (chkD l all day)) : f17 (l.map Exc.c) f (all.map Cal.c) g day K:=by
  refine ⟨?_⟩
  unfold f17_d
  refine f22_ok hs (bB_n (fun q=>?_) fun q=>?_)
  · rw [if_neg q] at h; exact h
  · rw [if_pos q] at h
    obtain ⟨q1,q2,q3⟩:=chkD_0 q
    refine f23_ok (.of hs q1) q2 q3 fun i n es hs=>?_
    rw [hs.take]
    exact h
end Go.Eng.N
