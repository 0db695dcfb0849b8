/- Exceptions: clashes, the program's and the reference's. -/
import Derived.Test.YtcklpjecelnamaaGreatDoorXN
import Derived.Test.YtcklpjecelnamaaGreatDoorFn3
set_option linter.unusedVariables false
set_option linter.unusedSimpArgs false
namespace Go.Eng.N
open Go Go.Eng
theorem gatherG {α : Type} {R : Nat×Nat×Int×List (List PC)→(Nat×Nat×Int×List (List PC)→Prop)→Prop} (r : List α) (q : α→Bool) (c : α→List PC) (o : Nat) (hm : o + r.length < 2 ^ 20) (L : List (List PC)) {i0 n0 : Nat} {es0 : List (List PC)} (h0 : SlR i0 n0 es0 L)
    (step : ∀ (t : Nat) (ht : t < r.length) (i n : Nat) (es : List (List PC)) (N : Nat×Nat×Int×List (List PC)→Prop),i + n≤es.length→n≤L.length + r.length→(q r[t] = true→N (0,n + 1,((o + t + 1 : Nat) : Int),List.take n (List.drop i es) ++ [c r[t]]))→(q r[t] = false→N (i,n,((o + t + 1 : Nat) : Int),es))→R (i,n,((o + t : Nat) : Int),es) N)
    (stop : ∀ (i n : Nat) (es : List (List PC)) (N : Nat×Nat×Int×List (List PC)→Prop),SlR i n es (L ++ (r.filter q).map c)→R (i,n,((o + r.length : Nat) : Int),es) N) : LoopP R (i0,n0,(o : Int),es0):=by
  refine LoopP.inv r.length (fun j x=>x.2.2.1 = ((o + j : Nat) : Int)∧SlR x.1 x.2.1 x.2.2.2 (L ++ ((r.take j).filter q).map c)) 0 ⟨rfl,by simpa using h0⟩ (Nat.zero_le _) (by omega) ?_ ?_
  · rintro j ⟨i,n,t,es⟩ _ hj ⟨ht,hs⟩ N hN
    dsimp only at ht hs
    subst ht
    have e : r.take (j + 1) = r.take j ++ [r[j]]:=List.take_succ_eq_append_getElem hj
    have hn : n≤L.length + r.length:=by
      have h1:=hs.n
      rw [List.length_append,List.length_map] at h1
      have h2:=List.length_filter_le q (r.take j)
      have h3 : (r.take j).length≤r.length:=by simp; omega
      omega
    refine step j hj i n es N (Nat.le_of_eq hs.len) hn (fun h=>hN _ ⟨rfl,?_⟩) fun h=>hN _ ⟨rfl,?_⟩
    · rw [e,List.filter_append]
      simp only [List.filter_cons,h,if_true,List.filter_nil,List.map_append,List.map_cons,List.map_nil,← List.append_assoc]
      exact hs.push _
    · rw [e,List.filter_append]
      simp only [List.filter_cons,h,List.filter_nil]
      simpa using hs
  · rintro ⟨i,n,t,es⟩ ⟨ht,hs⟩ N
    dsimp only at ht hs
    subst ht
    rw [List.take_of_length_le (Nat.le_refl _)] at hs
    exact stop i n es N hs
def prs {α : Type} (q : α→α→Bool) : List α→List (α×α)
  | []=>[]
  | i :: r=>(r.filter (q i)).map (fun k=>(i,k)) ++ prs q r
theorem prs_s {α : Type} (q : α→α→Bool) (i : α) (r : List α) : prs q (i :: r) = (r.filter (q i)).map (fun k=>(i,k)) ++ prs q r:=rfl
theorem prs_len {α : Type} (q : α→α→Bool) : ∀ l : List α,(prs q l).length≤l.length * l.length
  | []=>Nat.le_refl _
  | i :: r=>by
    rw [prs_s,List.length_append,List.length_map,List.length_cons]
    have h1:=List.length_filter_le (q i) r
    have h2:=prs_len q r
    have h3 : (r.length + 1) * (r.length + 1) = r.length * r.length + 2 * r.length + 1:=by
      rw [Nat.add_mul,Nat.mul_add]; omega
    omega
theorem prs_filter {α : Type} (e : α→α→Bool) (b : α→Bool) : ∀ l : List α,prs (fun i k=>e i k && (b i && b k)) l = prs e (l.filter b)
  | []=>rfl
  | i :: r=>by
    rw [prs_s,prs_filter e b r,List.filter_cons]
    cases hb : b i with
    | true =>
      rw [if_pos rfl,prs_s,List.filter_filter]
      have : (r.filter fun k=>e i k && (true && b k)) = r.filter fun a=>e i a && b a:=List.filter_congr fun x _=>by rw [Bool.true_and]
      rw [this]
    | false =>
      rw [if_neg (by simp)]
      have : (r.filter fun k=>e i k && (false && b k)) = []:=by
        apply List.filter_eq_nil_iff.2
        intro x _
        cases e i x <;> simp
      rw [this]
      rfl
theorem pairLoop {α : Type} {R : Nat×Nat×Int×List (List PC)→(Nat×Nat×Int×List (List PC)→Prop)→Prop} (S : List α) (q : α→α→Bool) (c : α×α→List PC) (hS : S.length < 2 ^ 10)
    (step : ∀ (j : Nat) (hj : j < S.length) (i n : Nat) (es L : List (List PC)) (N : Nat×Nat×Int×List (List PC)→Prop),SlR i n es L→n≤2 ^ 20 →
      (∀ i n es,SlR i n es (L ++ ((S.drop (j + 1)).filter (q S[j])).map fun k=>c (S[j],k))→N (i,n,((j + 1 : Nat) : Int),es))→R (i,n,(j : Int),es) N)
    (stop : ∀ (i n : Nat) (es : List (List PC)) (N : Nat×Nat×Int×List (List PC)→Prop),SlR i n es ((prs q S).map c)→R (i,n,(S.length : Int),es) N) : LoopP R (0,0,0,[]):=by
  have hlen : (prs q S).length≤2 ^ 20:=Nat.le_trans (prs_len q S) (Nat.le_trans (Nat.mul_le_mul (Nat.le_of_lt hS) (Nat.le_of_lt hS)) (by decide))
  refine LoopP.inv S.length (fun j x=>x.2.2.1 = (j : Int)∧∃ O,SlR x.1 x.2.1 x.2.2.2 (O.map c)∧prs q S = O ++ prs q (S.drop j)) 0 ⟨rfl,[],SlR.nil,rfl⟩ (Nat.zero_le _) (by omega) ?_ ?_
  · rintro j ⟨i,n,t,es⟩ _ hj ⟨ht,O,hs,he⟩ N hN
    dsimp only at ht hs
    subst ht
    have hn:=hs.n
    rw [List.length_map] at hn
    have hO : O.length≤2 ^ 20:=by
      rw [he,List.length_append] at hlen
      omega
    refine step j hj i n es _ N hs (by omega) fun i2 n2 es2 hs2=>hN _ ⟨rfl,O ++ ((S.drop (j + 1)).filter (q S[j])).map (fun k=>(S[j],k)),?_,?_⟩
    · rw [List.map_append,List.map_map]; exact hs2
    · rw [List.drop_eq_getElem_cons hj,prs_s] at he
      rw [he,List.append_assoc]
  · rintro ⟨i,n,t,es⟩ ⟨ht,O,hs,he⟩ N
    dsimp only at ht hs
    subst ht
    rw [List.drop_eq_nil_of_le (Nat.le_refl _)] at he
    rw [show prs q [] = [] from rfl,List.append_nil] at he
    rw [he] at stop
    exact stop i n es N hs
def eqp (l : List Exc) (i k : Ix l) : Bool:=decide (l[i.1].pri = l[k.1].pri)
def prc {l : List Exc} (x : Ix l×Ix l) : List PC:=[pI (x.1.1 : Int),pI (x.2.1 : Int)]
def clash (l : List Exc) (all : List Cal) (day : Int) : List (Ix l×Ix l):=prs (eqp l) (hIx l all day)
theorem hIx_inc (l : List Exc) (all : List Cal) (day : Int) : (hIx l all day).Pairwise (· < ·):=by
  unfold hIx
  refine List.Pairwise.filter _ ?_
  rw [List.pairwise_iff_getElem]
  intro i j hi hj hij
  rw [List.getElem_finRange,List.getElem_finRange]
  exact hij
theorem held_perm (l : List Exc) (all : List Cal) (day : Int) : (held l all day).Perm (hIx l all day):=(isortL_stb ltI_o _).symm.perm
def ixZ {l : List Exc} (h : List (Ix l)) : List Int:=h.map fun i=>(i.1 : Int)
theorem zc_ix {l : List Exc} (h : List (Ix l)) : (ixZ h).map zc = h.map Ix.c:=by unfold ixZ; rw [List.map_map]; rfl
theorem held_sort (l : List Exc) (all : List Cal) (day : Int) : ((ixZ (held l all day)).mergeSort fun x y=>decide (x≤y)) = ixZ (hIx l all day):=by
  have hi : (ixZ (hIx l all day)).Pairwise (· < ·):=by
    unfold ixZ
    rw [List.pairwise_map]
    exact (hIx_inc l all day).imp fun h=>by
      have : ∀ {a b : Ix l},a < b→a.1 < b.1:=fun h=>h
      have:=this h
      omega
  have hp : ((ixZ (held l all day)).mergeSort fun x y=>decide (x≤y)).Perm (ixZ (hIx l all day)):=(List.mergeSort_perm _ _).trans ((held_perm l all day).map _)
  have hs:=srt_le (ixZ (held l all day))
  have hn : ((ixZ (held l all day)).mergeSort fun x y=>decide (x≤y)).Nodup:=hp.nodup_iff.2 (hi.imp fun h=>by omega)
  refine inc_uniq ?_ hi fun x=>hp.mem_iff
  refine List.Pairwise.imp ?_ (List.Pairwise.and hs hn)
  rintro a b ⟨h1,h2⟩
  omega
theorem f26_ok {l : List Exc} {all : List Cal} {f g : Bool} (hs : Sm l all) {day : Int} {K : List (List PC)→Bool→Int→Prop}
    (h : if chkD l all day = 0 then K ((clash l all day).map prc) false 0 else K [] true (chkD l all day)) : f26 (l.map Exc.c) f (all.map Cal.c) g day K:=by
  refine ⟨?_⟩
  unfold f26_d
  refine f57_ok hs (bB_n (fun q=>?_) fun q=>?_)
  · rw [if_neg q] at h; exact h
  rw [if_pos q] at h
  obtain ⟨q1,h1,h2⟩:=chkD_0 q
  have hv:=Vd.of hs q1
  have hlen:=held_len hv day
  refine f59_ok hv h1 h2 fun i n es hsl=>?_
  have hn:=hsl.n
  rw [List.length_map] at hn
  rw [← zc_ix] at hsl
  refine ⟨ixZ (held l all day),hsl.take,?_,by omega,?_⟩
  · unfold ixZ; rw [List.length_map]; exact hn.symm
  rw [held_sort,zc_ix]
  have hpl:=(held_perm l all day).length_eq
  have hse2 : SlR i n (es.take i ++ ((hIx l all day).map Ix.c ++ es.drop (i + n))) ((hIx l all day).map Ix.c):=by
    have hl:=hsl.len
    refine ⟨by simp; omega,?_⟩
    rw [List.drop_append_of_le_length (by simp; omega),List.drop_take,Nat.sub_self,List.take_zero,List.nil_append,List.drop_eq_nil_of_le (by omega),List.append_nil]
  generalize es.take i ++ ((hIx l all day).map Ix.c ++ es.drop (i + n)) = es2 at hse2
  unfold clash at h
  have hnS : n = (hIx l all day).length:=by omega
  have hSb : (hIx l all day).length≤64:=by omega
  clear hsl hlen hpl hn
  generalize hIx l all day = S at hse2 h hnS hSb
  unfold f26_p16
  refine pairLoop S (eqp l) prc (by omega) ?_ ?_
  · intro j hj i3 n3 es3 L N hs3 hn3 hN
    unfold f26_p16b0
    dsimp only
    have hat:=hse2.at (j:=j) (by simpa using hj)
    rw [List.getElem_map] at hat
    refine bB_t (decide_eq_true (by omega)) ⟨by omega,?_⟩
    rw [toNat_c,hat,w64_s j (by omega)]
    generalize hkk : S[j] = k at hN ⊢
    simp only [Ix.c,ext_0,ext_s,ext_z,cS_c,cI_c,cB_c,cL_c,cO_c,oS_c,oI_c,oB_c,oL_c,nilC_c,toNat_c]
    refine ⟨by omega,?_⟩
    unfold f26_p22
    have hdl : (S.drop (j + 1)).length = n - (j + 1):=by rw [List.length_drop,hnS]
    refine gatherG (S.drop (j + 1)) (eqp l k) (fun x=>prc (k,x)) 0 (by omega) L hs3 ?_ ?_
    · intro t ht i4 n4 es4 N4 h4 hb4 hA hB
      unfold f26_p22b0
      dsimp only
      rw [Nat.zero_add] at hA hB ⊢
      have hat:=hse2.at (j:=j + 1 + t) (by rw [List.length_map]; omega)
      rw [List.getElem_map,← List.getElem_drop (h:=by simpa using ht)] at hat
      refine bB_t (decide_eq_true (by omega)) ⟨by omega,?_⟩
      rw [toNat_c,show i + (j + 1) + t = i + (j + 1 + t) from by omega,hat,w64_s t (by omega)]
      generalize (S.drop (j + 1))[t] = y at hA hB ⊢
      simp only [Ix.c,ext_0,ext_s,ext_z,cS_c,cI_c,cB_c,cL_c,cO_c,oS_c,oI_c,oB_c,oL_c,nilC_c,toNat_c]
      refine ⟨rngM _ _ k.2,?_⟩
      rw [getD_map _ _ _ k.2]
      rw [getD_map _ _ _ y.2]
      unfold eqp at hA hB
      have hL:=hs3.n
      have hy2:=rngM Exc.c _ y.2
      generalize l[k.1] = x1 at hA hB ⊢
      generalize l[y.1] = x2 at hA hB ⊢
      simp only [Exc.c,ext_0,ext_s,ext_z,cS_c,cI_c,cB_c,cL_c,cO_c,oS_c,oI_c,oB_c,oL_c,nilC_c,toNat_c]
      refine ⟨hy2,?_⟩
      rw [beqD]
      exact bB_of (fun z=>⟨h4,by omega,by omega,hA z⟩) hB
    · intro i4 n4 es4 N4 hs4
      unfold f26_p22b0
      dsimp only
      refine bB_f (decide_eq_false (by omega)) ?_
      rw [← hkk] at hs4
      rw [← hkk] at hN
      exact hN _ _ _ hs4
  · intro i3 n3 es3 N hs3
    unfold f26_p16b0
    dsimp only
    refine bB_f (decide_eq_false (by omega)) ?_
    rw [hs3.take]; exact h
theorem f28_ok {l : List Exc} {all : List Cal} {f g : Bool} (hv : Vd l all) {day : Int} (h1 : 0≤day) (h2 : day≤73048) {K : List (List PC)→Bool→Prop}
    (h : K ((clash l all day).map prc) false) : f28 (l.map Exc.c) f (all.map Cal.c) g day K:=by
  refine ⟨?_⟩
  unfold f28_d f28_p6
  have hl:=hv.len
  obtain ⟨S,hfl,hfa,hcl⟩ : ∃ S : List (Ix l),S.length = l.length∧(∀ (j : Nat) (hj : j < S.length),(S[j]).1 = j)∧prs (fun i k=>eqp l i k && (hB all day l[i.1] && hB all day l[k.1])) S = clash l all day :=
    ⟨List.finRange l.length,List.length_finRange,(fun j hj=>by rw [List.getElem_finRange]; rfl),by rw [prs_filter (eqp l) (fun i=>hB all day l[i.1])]; rfl⟩
  refine pairLoop S (fun i k=>eqp l i k && (hB all day l[i.1] && hB all day l[k.1])) prc (by omega) ?_ ?_
  · intro j hj i3 n3 es3 L N hs3 hn3 hN
    unfold f28_p6b0
    dsimp only
    rw [List.length_map]
    refine bB_t (ltL (by omega)) ?_
    rw [w64_s j (by omega)]
    unfold f28_p12
    have hk1:=hfa j hj
    generalize S[j] = k at hN hk1
    have hdl : (S.drop (j + 1)).length = S.length - (j + 1):=List.length_drop
    refine gatherG (S.drop (j + 1)) (fun x=>eqp l k x && (hB all day l[k.1] && hB all day l[x.1])) (fun x=>prc (k,x)) (j + 1) (by omega) L hs3 ?_ ?_
    · intro t ht i4 n4 es4 N4 h4 hb4 hA hB'
      unfold f28_p12b0
      dsimp only
      have hy1:=hfa (j + 1 + t) (by omega)
      rw [← List.getElem_drop (h:=ht)] at hy1
      generalize (S.drop (j + 1))[t] = y at hA hB' hy1
      rw [List.length_map]
      refine bB_t (ltL (by omega)) ⟨by omega,?_⟩
      have hL:=hs3.n
      rw [toNat_c,toNat_c,w64_s (j + 1 + t) (by omega)]
      rw [← hy1] at hA hB' ⊢
      rw [← hk1]
      rw [getD_map _ _ _ k.2,getD_map _ _ _ y.2]
      have hx1:=List.getElem_mem k.2
      have hx2:=List.getElem_mem y.2
      have go : ∀ z,N4 z = N4 z:=fun _=>rfl
      unfold eqp at hA hB'
      have e1 : l[k.1].pri = l[k.1].pri:=rfl
      generalize l[k.1] = x1 at hA hB' hx1 ⊢
      generalize l[y.1] = x2 at hA hB' hx2 ⊢
      simp only [Exc.c,ext_0,ext_s,ext_z,cS_c,cI_c,cB_c,cL_c,cO_c,oS_c,oI_c,oB_c,oL_c,nilC_c,toNat_c]
      have hk2:=k.2
      have hy2:=y.2
      refine ⟨by omega,?_⟩
      rw [beqD]
      refine bB_of (fun z=>⟨by omega,f63_ok hv hx1 h1 h2 (bB_of (fun z2=>⟨by omega,f63_ok hv hx2 h1 h2 (bB_of (fun z3=>⟨h4,by omega,by omega,hA ?_⟩) fun z3=>hB' ?_)⟩) fun z2=>hB' ?_)⟩) fun z=>hB' ?_
      · rw [z,z2,z3]; rfl
      · rw [z3]; simp
      · rw [z2]; simp
      · rw [z]; rfl
    · intro i4 n4 es4 N4 hs4
      unfold f28_p12b0
      dsimp only
      rw [List.length_map]
      refine bB_f (decide_eq_false (by omega)) ?_
      exact hN _ _ _ hs4
  · intro i3 n3 es3 N hs3
    unfold f28_p6b0
    dsimp only
    rw [List.length_map,hfl]
    refine bB_f (stopL _) ?_
    rw [hs3.take,hcl]; exact h
theorem f27_ok {k : List Exc} {l m : List (Ix k×Ix k)} {f g : Bool} (hl : l.length < 2 ^ 58) {K : Bool→Prop} (h : K (decide (l = m))) : f27 (l.map prc) f (m.map prc) g K:=by
  refine ⟨?_⟩
  unfold f27_d
  rw [List.length_map,List.length_map]
  refine bB_n (fun q=>?_) fun q=>?_
  · rw [decide_eq_false (fun e=>q (by rw [e]))] at h; exact h
  · have hlen : l.length = m.length:=by omega
    unfold f27_p8
    refine LoopP.inv l.length (fun j x=>x = (j : Int)∧(l = m↔l.drop j = m.drop j)) 0 ⟨rfl,by simp⟩ (Nat.zero_le _) (by omega) ?_ ?_
    · rintro j x _ hj ⟨rfl,he⟩ N hN
      unfold f27_p8b0
      have hj2 : j < m.length:=by omega
      refine bB_t (ltM _ _ hj) ⟨rngM _ _ hj,?_⟩
      rw [toNat_c,getD_map _ _ _ hj,getD_map _ _ _ hj2,w64_s j (by omega)]
      rw [List.drop_eq_getElem_cons hj,List.drop_eq_getElem_cons hj2,List.cons.injEq] at he
      generalize l[j] = a at he ⊢
      generalize m[j] = b at he ⊢
      rcases a with ⟨⟨a1,ha1⟩,⟨a2,ha2⟩⟩
      rcases b with ⟨⟨b1,hb1⟩,⟨b2,hb2⟩⟩
      simp only [prc,ext_0,ext_s,ext_z,cS_c,cI_c,cB_c,cL_c,cO_c,oS_c,oI_c,oB_c,oL_c,nilC_c,toNat_c]
      refine ⟨rfl,rngM _ _ hj2,rfl,?_⟩
      show bB (!(((a1 : Int) == (b1 : Int)) && (((a2 : Int) == (b2 : Int)) && true))) _ _
      simp only [Prod.mk.injEq,Fin.mk.injEq] at he
      rw [two]
      refine bB_d (fun z=>?_) fun z=>hN _ ⟨rfl,?_⟩
      · rw [decide_eq_false (fun e=>z (by have:=(he.1 e).1; omega))] at h; exact h
      · rw [he]; exact ⟨fun y=>y.2,fun y=>⟨by omega,y⟩⟩
    · rintro x ⟨rfl,he⟩ N
      unfold f27_p8b0
      rw [List.drop_eq_nil_of_le (Nat.le_refl _),List.drop_eq_nil_of_le (by omega)] at he
      rw [decide_eq_true (he.2 rfl)] at h
      exact bB_f (stopM _ _) h
end Go.Eng.N
