/- Exceptions: which hold on a day. -/
import Derived.Test.YtcklpjecelnamaaGreatDoorXJ
import Derived.Test.YtcklpjecelnamaaGreatDoorFn3
set_option linter.unusedVariables false
set_option linter.unusedSimpArgs false
namespace Go.Eng.N
open Go Go.Eng
structure Vd (l : List Exc) (all : List Cal) : Prop where
  sm : Sm l all
  cal : ∀ c∈all,calchk c = 0
  len : l.length≤64
  ps : ∀ x∈l,pchk x.p = 0
  pri : ∀ x∈l,1≤x.pri∧x.pri≤16
  rng : ∀ x∈l,∀ e∈x.es,0≤e.at_∧e.at_ < 1440
  inc : ∀ x∈l,incE x.es = true
  fnd : ∀ x∈l,x.cal = e0∨(findC all x.cal).isSome = true
theorem calErr_0 : ∀ {all : List Cal},calErr all = 0→∀ c∈all,calchk c = 0
  | [],_,c,h=>by cases h
  | q :: r,he,c,h=>by
    rw [calErr_s] at he
    split at he
    · rename_i h1; exact absurd he h1
    · rename_i h1
      rcases List.mem_cons.1 h with rfl | h
      · exact Classical.not_not.1 h1
      · exact calErr_0 he c h
theorem xErr_0 : ∀ {l : List Exc},xErr l = 0→∀ x∈l,pchk x.p = 0
  | [],_,x,h=>by cases h
  | q :: r,he,x,h=>by
    rw [xErr_s] at he
    split at he
    · rename_i h1; exact absurd he h1
    · rename_i h1
      rcases List.mem_cons.1 h with rfl | h
      · exact Classical.not_not.1 h1
      · exact xErr_0 he x h
theorem any_f {α : Type} {l : List α} {q : α→Bool} (h : ¬ l.any q = true) {x : α} (hx : x∈l) : q x = false:=by
  cases hq : q x with
  | false=>rfl
  | true=>exact absurd (List.any_eq_true.2 ⟨x,hx,hq⟩) h
theorem Vd.of {l : List Exc} {all : List Cal} (hs : Sm l all) (h : chkV l all = 0) : Vd l all:=by
  unfold chkV at h
  by_cases q1 : calErr all≠0
  · rw [if_pos q1] at h; exact absurd h q1
  rw [if_neg q1] at h
  by_cases qi : incB (all.map (·.name)) = true
  rotate_left
  · rw [if_neg qi] at h; cases h
  rw [if_pos qi] at h
  by_cases q2 : l.length > 64
  · rw [if_pos q2] at h; cases h
  rw [if_neg q2] at h
  by_cases q7 : l.any x7 = true
  · rw [if_pos q7] at h; cases h
  rw [if_neg q7] at h
  by_cases q4 : l.any x4 = true
  · rw [if_pos q4] at h; cases h
  rw [if_neg q4] at h
  by_cases qd : dupL [] (l.map (·.name)) = true
  · rw [if_pos qd] at h; cases h
  rw [if_neg qd] at h
  by_cases q10 : l.any x10 = true
  · rw [if_pos q10] at h; cases h
  rw [if_neg q10] at h
  by_cases q3 : l.any (x3 all) = true
  · rw [if_pos q3] at h; cases h
  rw [if_neg q3] at h
  by_cases qx : xErr l≠0
  · rw [if_pos qx] at h; exact absurd h qx
  rw [if_neg qx] at h
  by_cases q6 : l.any x6 = true
  · rw [if_pos q6] at h; cases h
  rw [if_neg q6] at h
  by_cases q5 : l.any x5 = true
  · rw [if_pos q5] at h; cases h
  clear h
  refine ⟨hs,calErr_0 (Classical.not_not.1 q1),by omega,xErr_0 (Classical.not_not.1 qx),fun x hx=>?_,fun x hx e he=>?_,fun x hx=>?_,fun x hx=>?_⟩
  · have:=any_f q6 hx
    unfold x6 at this
    rw [Bool.or_eq_false_iff] at this
    have:=of_decide_eq_false this.1
    omega
  · have:=any_f q6 hx
    unfold x6 at this
    rw [Bool.or_eq_false_iff] at this
    have h2:=any_f (by rw [this.2]; simp) he
    have:=of_decide_eq_false h2
    omega
  · have:=any_f q5 hx
    unfold x5 at this
    simpa using this
  · have:=any_f q3 hx
    unfold x3 at this
    rcases Classical.em (x.cal = e0) with z | z
    · exact .inl z
    · rw [decide_eq_true z,Bool.true_and] at this
      right
      cases hq : findC all x.cal with
      | none=>rw [hq] at this; cases this
      | some _=>rfl
def hB (all : List Cal) (day : Int) (x : Exc) : Bool:=if x.cal = e0 then fits x.p day else match findC all x.cal with
  | some c=>inV c day
  | none=>false
theorem findC_mem {all : List Cal} {s : ByteArray} {c : Cal} (h : findC all s = some c) : c∈all:=List.mem_of_find?_eq_some h
theorem gatherF {R : Nat×Nat×Int×List (List PC)→(Nat×Nat×Int×List (List PC)→Prop)→Prop} {m : Nat} (q : Fin m→Bool) (c : Fin m→List PC) (hm : m < 2 ^ 20) (L : List (List PC)) {i0 n0 : Nat} {es0 : List (List PC)} (h0 : SlR i0 n0 es0 L)
    (step : ∀ (j : Fin m) (i n : Nat) (es : List (List PC)) (N : Nat×Nat×Int×List (List PC)→Prop),i + n≤es.length→n≤L.length + m→(q j = true→N (0,n + 1,((j.1 + 1 : Nat) : Int),List.take n (List.drop i es) ++ [c j]))→(q j = false→N (i,n,((j.1 + 1 : Nat) : Int),es))→R (i,n,(j.1 : Int),es) N)
    (stop : ∀ (i n : Nat) (es : List (List PC)) (N : Nat×Nat×Int×List (List PC)→Prop),SlR i n es (L ++ ((List.finRange m).filter q).map c)→R (i,n,(m : Int),es) N) : LoopP R (i0,n0,0,es0):=by
  refine LoopP.inv m (fun j x=>x.2.2.1 = (j : Int)∧SlR x.1 x.2.1 x.2.2.2 (L ++ (((List.finRange m).take j).filter q).map c)) 0 ⟨rfl,by simpa using h0⟩ (Nat.zero_le _) (by omega) ?_ ?_
  · rintro j ⟨i,n,t,es⟩ _ hj ⟨ht,hs⟩ N hN
    dsimp only at ht hs
    subst ht
    have e : (List.finRange m).take (j + 1) = (List.finRange m).take j ++ [⟨j,hj⟩]:=by
      rw [List.take_succ_eq_append_getElem (by simpa using hj),List.getElem_finRange]
      rfl
    have hn : n≤L.length + m:=by
      have h1:=hs.n
      rw [List.length_append,List.length_map] at h1
      have h2:=List.length_filter_le q ((List.finRange m).take j)
      have h3 : ((List.finRange m).take j).length≤m:=by simp; omega
      omega
    refine step ⟨j,hj⟩ i n es N (Nat.le_of_eq hs.len) hn (fun h=>hN _ ⟨rfl,?_⟩) fun h=>hN _ ⟨rfl,?_⟩
    · rw [e,List.filter_append]
      simp only [List.filter_cons,h,if_true,List.filter_nil,List.map_append,List.map_cons,List.map_nil,← List.append_assoc]
      exact hs.push _
    · rw [e,List.filter_append]
      simp only [List.filter_cons,h,List.filter_nil]
      simpa using hs
  · rintro ⟨i,n,t,es⟩ ⟨ht,hs⟩ N
    dsimp only at ht hs
    subst ht
    rw [List.take_of_length_le (by simp)] at hs
    exact stop i n es N hs
def hIx (l : List Exc) (all : List Cal) (day : Int) : List (Ix l):=(List.finRange l.length).filter fun i=>hB all day l[i.1]
def held (l : List Exc) (all : List Cal) (day : Int) : List (Ix l):=isortL (ltI l) (hIx l all day)
theorem f59_ok {l : List Exc} {all : List Cal} {f g : Bool} (hv : Vd l all) {day : Int} (h1 : 0≤day) (h2 : day≤73048) {K : Nat→Nat→List (List PC)→Prop}
    (h : ∀ i n es,SlR i n es ((held l all day).map Ix.c)→K i n es) : f59 (l.map Exc.c) f (all.map Cal.c) g day K:=by
  refine ⟨?_⟩
  unfold f59_d f59_p6
  have hl:=hv.len
  rw [List.length_map]
  refine gatherF (fun i : Ix l=>hB all day l[i.1]) Ix.c (by omega) [] SlR.nil ?_ ?_
  · intro j i n es N hin hn hA hB'
    unfold f59_p6b0
    dsimp only
    refine bB_t (ltL j.2) ⟨rngM _ _ j.2,?_⟩
    rw [toNat_c,getD_map _ _ _ j.2,w64_s j.1 (by omega)]
    have hx:=List.getElem_mem j.2
    have hp:=hv.ps _ hx
    rw [show Ix.c j = [pI (j.1 : Int)] from rfl] at hA
    unfold hB at hA hB'
    generalize l[j.1] = x at hA hB' hp hx ⊢
    simp only [Exc.c,ext_0,ext_s,ext_z,cS_c,cI_c,cB_c,cL_c,cO_c,oS_c,oI_c,oB_c,oL_c,nilC_c,toNat_c]
    simp only [List.length_nil] at hn
    have go : (if x.cal = e0 then fits x.p day else match findC all x.cal with | some c=>inV c day | none=>false) = true→(i + n)≤es.length∧(n + 1) * 8≤2 ^ 46∧(n + 1)≤2 ^ 46∧N (0,n + 1,((j.1 + 1 : Nat) : Int),(List.take n (List.drop i es)) ++ [[pI (j.1 : Int)]]):=fun q=>⟨hin,by omega,by omega,hA q⟩
    refine f46_ok hv.sm.ha ?_
    rw [beqL]
    by_cases hc : x.cal = e0
    · rw [if_pos hc] at go hB'
      have fin : bB (decide (x.cal = e0)) (f79 x.p.y x.p.mo x.p.d x.p.wd x.p.wk x.p.fy x.p.fm x.p.fd x.p.ty x.p.tm x.p.td day fun b=>bB b ((i + n)≤es.length∧(n + 1) * 8≤2 ^ 46∧(n + 1)≤2 ^ 46∧N (0,n + 1,((j.1 + 1 : Nat) : Int),(List.take n (List.drop i es)) ++ [[pI (j.1 : Int)]])) (N (i,n,((j.1 + 1 : Nat) : Int),es))) (N (i,n,((j.1 + 1 : Nat) : Int),es)) :=
        bB_t (decide_eq_true hc) (f79_ok hp h1 h2 (bB_of go hB'))
      cases hq : findC all x.cal with
      | none=>exact bB_not (bB_t (decide_eq_true hc) fin)
      | some c=>exact bB_not (bB_t (decide_eq_true hc) fin)
    · rw [if_neg hc] at go hB'
      cases hq : findC all x.cal with
      | none =>
        rw [hq] at go hB'
        exact bB_not (bB_f (decide_eq_false hc) (bB_f rfl (bB_f (decide_eq_false hc) (hB' rfl))))
      | some c =>
        rw [hq] at go hB'
        refine bB_not (bB_f (decide_eq_false hc) (bB_t rfl (f34_ok (.of (hv.cal _ (findC_mem hq))) h1 h2 (bB_of go fun q=>?_))))
        exact bB_f (decide_eq_false hc) (hB' q)
  · intro i n es N hs
    unfold f59_p6b0
    dsimp only
    refine bB_f (stopL _) ?_
    have hlen:=hs.n
    have h3 : (hIx l all day).length≤64:=by
      unfold hIx
      refine Nat.le_trans (List.length_filter_le _ _) ?_
      simpa using hl
    refine so_top rfl (l:=hIx l all day) (by rw [List.nil_append,List.length_map] at hlen; unfold hIx at h3; omega) (by rw [List.nil_append] at hs; exact hs) fun es' hs'=>h i n es' hs'
theorem f63_ok {l : List Exc} {all : List Cal} {g : Bool} (hv : Vd l all) {x : Exc} (hx : x∈l) {day : Int} (h1 : 0≤day) (h2 : day≤73048) {K : Bool→Prop} (h : K (hB all day x)) :
    f63 x.name x.p.y x.p.mo x.p.d x.p.wd x.p.wk x.p.fy x.p.fm x.p.fd x.p.ty x.p.tm x.p.td x.cal x.pri (x.es.map En.c) x.f (all.map Cal.c) g day K:=by
  refine ⟨?_⟩
  unfold f63_d
  rw [beqL]
  unfold hB at h
  refine bB_d (fun q=>?_) fun q=>?_
  · rw [if_pos q] at h
    exact f37_ok h1 h2 (f38_ok (hv.ps _ hx) h1 h2 h)
  · rw [if_neg q] at h
    have hs:=(hv.fnd _ hx).resolve_left q
    refine f86_ok hv.sm.ha ?_
    cases hq : findC all x.cal with
    | none=>rw [hq] at hs; cases hs
    | some c =>
      rw [hq] at h
      exact f15_ok (.of (hv.cal _ (findC_mem hq))) h1 h2 h
theorem Stb.of_same {α : Type} [DecidableEq α] {lt : α→α→Bool} (o : Cmp lt) {a b : List α} (h : ∀ x,a.filter (eqv lt x) = b.filter (eqv lt x)) : Stb lt a b:=by
  refine ⟨?_,h⟩
  rw [List.perm_iff_count]
  intro x
  have e : ∀ l : List α,(l.filter (eqv lt x)).count x = l.count x:=fun l=>List.count_filter (eqv_iff.2 ⟨o.irr x,o.irr x⟩)
  rw [← e a,← e b,h x]
def bucket (l : List Exc) (all : List Cal) (day : Int) (p : Int) : List (Ix l):=(List.finRange l.length).filter fun i=>decide (l[i.1].pri = p) && hB all day l[i.1]
def buckets (l : List Exc) (all : List Cal) (day : Int) (k : Nat) : List (Ix l):=(List.range k).flatMap fun (j : Nat)=>bucket l all day ((j : Int) + 1)
theorem bucket_eq (l : List Exc) (all : List Cal) (day : Int) (p : Int) : bucket l all day p = (hIx l all day).filter fun i=>decide (l[i.1].pri = p):=by
  unfold bucket hIx
  rw [List.filter_filter]
theorem buckets_s (l : List Exc) (all : List Cal) (day : Int) (k : Nat) : buckets l all day (k + 1) = buckets l all day k ++ bucket l all day ((k : Int) + 1):=by
  unfold buckets
  rw [List.range_succ,List.flatMap_append]
  simp
theorem held_buckets {l : List Exc} {all : List Cal} (hv : Vd l all) (day : Int) : buckets l all day 16 = held l all day:=by
  have hpri : ∀ i : Ix l,1≤l[i.1].pri∧l[i.1].pri≤16:=fun i=>hv.pri _ (List.getElem_mem i.2)
  refine isortL_of ltI_o ?_ (Stb.of_same ltI_o fun x=>?_)
  · -- sorted
    have : ∀ k : Nat,Srt (ltI l) (buckets l all day k)∧∀ x∈buckets l all day k,l[x.1].pri≤k:=fun k=>by
      induction k with
      | zero=>exact ⟨Srt.nil,fun x hx=>by cases hx⟩
      | succ k ih =>
        rw [buckets_s]
        have hb : ∀ x∈bucket l all day ((k : Int) + 1),l[x.1].pri = (k : Int) + 1:=fun x hx=>by
          unfold bucket at hx
          have:=(List.mem_filter.1 hx).2
          rw [Bool.and_eq_true] at this
          exact of_decide_eq_true this.1
        refine ⟨Srt.app.2 ⟨ih.1,?_,fun x hx y hy=>?_⟩,fun x hx=>?_⟩
        · unfold Srt
          rw [List.pairwise_iff_forall_sublist]
          intro a b hab
          have ha:=hb a (hab.subset (by simp))
          have hb':=hb b (hab.subset (by simp))
          unfold ltI
          exact decide_eq_false (by omega)
        · have h1:=ih.2 x hx
          have h2:=hb y hy
          unfold ltI
          exact decide_eq_false (by omega)
        · rcases List.mem_append.1 hx with h | h
          · have:=ih.2 x h; omega
          · have:=hb x h; omega
    exact (this 16).1
  · have e : ∀ y : Ix l,eqv (ltI l) x y = decide (l[y.1].pri = l[x.1].pri):=fun y=>by
      unfold eqv ltI
      rw [← decide_not,← decide_not,dec_and,decide_eq_decide]
      omega
    have e2 : eqv (ltI l) x = fun y=>decide (l[y.1].pri = l[x.1].pri):=funext e
    rw [e2]
    have key : ∀ k : Nat,(buckets l all day k).filter (fun y=>decide (l[y.1].pri = l[x.1].pri)) = if 1≤l[x.1].pri∧l[x.1].pri≤k then (hIx l all day).filter (fun y=>decide (l[y.1].pri = l[x.1].pri)) else []:=fun k=>by
      induction k with
      | zero=>rw [if_neg (by omega)]; rfl
      | succ k ih =>
        rw [buckets_s,List.filter_append,ih,bucket_eq,List.filter_filter]
        by_cases hk : l[x.1].pri = (k : Int) + 1
        · rw [if_neg (by omega),if_pos (by omega),List.nil_append]
          congr 1
          funext y
          rw [dec_and,decide_eq_decide]
          omega
        · have : ((hIx l all day).filter fun y=>decide (l[y.1].pri = l[x.1].pri) && decide (l[y.1].pri = (k : Int) + 1)) = []:=by
            rw [List.filter_eq_nil_iff]
            intro y _
            rw [dec_and,decide_eq_true_eq]
            omega
          rw [this,List.append_nil]
          by_cases h1 : 1≤l[x.1].pri∧l[x.1].pri≤k
          · rw [if_pos h1,if_pos (by omega)]
          · rw [if_neg h1,if_neg (by omega)]
    rw [key 16,if_pos ⟨(hpri x).1,(hpri x).2⟩]
theorem f24_ok {l : List Exc} {all : List Cal} {f g : Bool} (hv : Vd l all) {day : Int} (h1 : 0≤day) (h2 : day≤73048) {K : List (List PC)→Bool→Prop}
    (h : K ((held l all day).map Ix.c) false) : f24 (l.map Exc.c) f (all.map Cal.c) g day K:=by
  refine ⟨?_⟩
  unfold f24_d f24_p6
  have hl:=hv.len
  have hbl : ∀ k : Nat,(buckets l all day k).length≤64 * k:=fun k=>by
    induction k with
    | zero=>simp [buckets]
    | succ k ih =>
      rw [buckets_s,List.length_append]
      have : (bucket l all day ((k : Int) + 1)).length≤64:=by
        unfold bucket
        refine Nat.le_trans (List.length_filter_le _ _) ?_
        simpa using hl
      omega
  refine LoopP.inv 16 (fun j x=>x.2.2.1 = (j : Int) + 1∧SlR x.1 x.2.1 x.2.2.2 ((buckets l all day j).map Ix.c)) 0 ⟨rfl,SlR.nil⟩ (by omega) (by omega) ?_ ?_
  · rintro p ⟨i,n,t,es⟩ _ hp ⟨ht,hs⟩ N hN
    dsimp only at ht hs
    subst ht
    unfold f24_p6b0
    dsimp only
    refine bB_t (decide_eq_true (by omega)) ?_
    unfold f24_p12
    have hb:=hbl p
    refine gatherF (fun i : Ix l=>decide (l[i.1].pri = (p : Int) + 1) && hB all day l[i.1]) Ix.c (by omega) _ hs ?_ ?_
    · intro j i n es N2 hin hn hA hB'
      rw [List.length_map] at hn
      unfold f24_p12b0
      dsimp only
      refine bB_t (ltM _ _ j.2) ⟨rngM _ _ j.2,?_⟩
      rw [toNat_c,getD_map _ _ _ j.2,w64_s j.1 (by omega)]
      have hx:=List.getElem_mem j.2
      have hr:=rngM Exc.c _ j.2
      rw [show Ix.c j = [pI (j.1 : Int)] from rfl] at hA
      generalize l[j.1] = x at hA hB' hx hr ⊢
      simp only [Exc.c,ext_0,ext_s,ext_z,cS_c,cI_c,cB_c,cL_c,cO_c,oS_c,oI_c,oB_c,oL_c,nilC_c,toNat_c]
      refine bB_e (fun q=>⟨hr,?_⟩) fun q=>?_
      · rw [decide_eq_true q,Bool.true_and] at hA hB'
        exact f63_ok hv hx h1 h2 (bB_of (fun z=>⟨hin,by omega,by omega,hA z⟩) hB')
      · rw [decide_eq_false q,Bool.false_and] at hB'
        exact hB' rfl
    · intro i n es N2 hs2
      unfold f24_p12b0
      dsimp only
      refine bB_f (stopM _ _) (hN _ ⟨?_,?_⟩)
      · dsimp only; rw [w64_in (by omega) (by omega)]; omega
      · rw [buckets_s,List.map_append]
        exact hs2
  · rintro ⟨i,n,t,es⟩ ⟨ht,hs⟩ N
    dsimp only at ht hs
    subst ht
    unfold f24_p6b0
    dsimp only
    refine bB_f (decide_eq_false (by omega)) ?_
    rw [hs.take,held_buckets hv]
    exact h
theorem chkD_0 {l : List Exc} {all : List Cal} {day : Int} (h : chkD l all day = 0) : chkV l all = 0∧0≤day∧day≤73048:=by
  unfold chkD at h
  split at h
  · rename_i q; exact absurd h q
  · rename_i q
    split at h
    · rename_i q2; exact ⟨Classical.not_not.1 q,q2⟩
    · cases h
theorem f25_ok {l : List Exc} {all : List Cal} {f g : Bool} (hs : Sm l all) {day : Int} {K : List (List PC)→Bool→Int→Prop}
    (h : if chkD l all day = 0 then K ((held l all day).map Ix.c) false 0 else K [] true (chkD l all day)) : f25 (l.map Exc.c) f (all.map Cal.c) g day K:=by
  refine ⟨?_⟩
  unfold f25_d
  refine f57_ok hs (bB_n (fun q=>?_) fun q=>?_)
  · rw [if_neg q] at h; exact h
  · rw [if_pos q] at h
    obtain ⟨q1,q2,q3⟩:=chkD_0 q
    refine f59_ok (.of hs q1) q2 q3 fun i n es hs=>?_
    rw [hs.take]
    exact h
end Go.Eng.N
