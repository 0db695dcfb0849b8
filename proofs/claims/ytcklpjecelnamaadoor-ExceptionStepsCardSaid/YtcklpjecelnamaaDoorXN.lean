/- Exceptions: Changes, the program's and the reference's. -/
import Derived.Test.YtcklpjecelnamaaDoorXM
import Derived.Test.YtcklpjecelnamaaDoorFn2
set_option linter.unusedVariables false
set_option linter.unusedSimpArgs false
namespace Go.Eng.N
open Go Go.Eng
def chg (g : Int→Int×Int×Int) : List Int→Int×Int×Int→List Int
  | [],_=>[]
  | m :: r,p=>if g m≠p then m :: chg g r (g m) else chg g r (g m)
theorem chg_s (g : Int→Int×Int×Int) (m : Int) (r : List Int) (p : Int×Int×Int) : chg g (m :: r) p = if g m≠p then m :: chg g r (g m) else chg g r (g m):=rfl
def prev (l : List Exc) (all : List Cal) (day : Int) : Int×Int×Int:=if day > 0 then gv l all (day - 1) 1439 else (-1,0,0)
def rangeZ (n : Nat) : List Int:=(List.range n).map fun (i : Nat)=>(i : Int)
theorem rangeZ_len (n : Nat) : (rangeZ n).length = n:=by unfold rangeZ; simp
@[irreducible] def mins1440 : List Int:=rangeZ 1440
theorem mins_len : mins1440.length = 1440:=by unfold mins1440; exact rangeZ_len _
def chgV (l : List Exc) (all : List Cal) (day : Int) : List Int:=chg (gv l all day) mins1440 (prev l all day)
def tms (l : List Exc) (i : Ix l) : List Int:=l[i.1].es.map (·.at_)
def mins (l : List Exc) (hd : List (Ix l)) : List Int:=0 :: hd.flatMap (tms l)
theorem chg_drop (g : Int→Int×Int×Int) (S : Int→Bool) : ∀ (n : Nat) (m : Int) (p : Int×Int×Int),(∀ x,m≤x→x < m + n→S x = false→(g x = if x = m then p else g (x - 1))) →
    chg g (((List.range n).map fun (i : Nat)=>m + (i : Int)).filter S) p = chg g ((List.range n).map fun (i : Nat)=>m + (i : Int)) p
  | 0,m,p,_=>rfl
  | n + 1,m,p,h=>by
    have e : ((List.range (n + 1)).map fun (i : Nat)=>m + (i : Int)) = m :: ((List.range n).map fun (i : Nat)=>(m + 1) + (i : Int)):=by
      rw [List.range_succ_eq_map,List.map_cons,List.map_map]
      congr 1
      · simp
      · apply List.map_congr_left
        intro a _
        simp only [Function.comp]
        omega
    rw [e,List.filter_cons]
    have ih:=chg_drop g S n (m + 1) (g m) fun x h1 h2 h3=>by
      rw [h x (by omega) (by omega) h3,if_neg (by omega)]
      by_cases hx : x = m + 1
      · rw [if_pos hx,hx]; congr 1; omega
      · rw [if_neg hx]
    cases hS : S m with
    | true =>
      simp only [if_true]
      rw [chg_s,chg_s,ih]
    | false =>
      simp only [Bool.false_eq_true,if_false]
      have hg:=h m (Int.le_refl _) (by omega) hS
      rw [if_pos rfl] at hg
      rw [chg_s,if_neg (fun z=>z hg),← ih,hg]
theorem atF_same {m : Int} {e : En} (h : e.at_≠m) (v : Int×Int) : atF m v e = atF (m - 1) v e:=by
  unfold atF
  by_cases hm : e.at_≤m
  · rw [if_pos hm,if_pos (by omega)]
  · rw [if_neg hm,if_neg (by omega)]
theorem atV_same {m : Int} : ∀ {es : List En} {v : Int×Int},(∀ e∈es,e.at_≠m)→es.foldl (atF m) v = es.foldl (atF (m - 1)) v
  | [],v,_=>rfl
  | e :: r,v,h=>by
    rw [List.foldl_cons,List.foldl_cons,atF_same (h e (by simp))]
    exact atV_same fun x hx=>h x (by simp [hx])
theorem govV_same {l : List Exc} {m : Int} : ∀ {hd : List (Ix l)},(∀ i∈hd,∀ e∈l[i.1].es,e.at_≠m)→govV l m hd = govV l (m - 1) hd
  | [],_=>rfl
  | i :: r,h=>by
    rw [govV_s,govV_s]
    have h1 : atV l[i.1].es m = atV l[i.1].es (m - 1):=atV_same (h i (by simp))
    rw [h1,govV_same fun x hx=>h x (by simp [hx])]
theorem mem_mins {l : List Exc} {hd : List (Ix l)} {m : Int} : m∈mins l hd↔m = 0∨∃ i∈hd,∃ e∈l[i.1].es,e.at_ = m:=by
  unfold mins
  rw [List.mem_cons,List.mem_flatMap]
  simp only [tms,List.mem_map]
theorem srt_le (l : List Int) : (l.mergeSort fun x y=>decide (x≤y)).Pairwise (·≤·):=by
  have:=List.pairwise_mergeSort (le:=fun (x y : Int)=>decide (x≤y)) (by intro a b c h1 h2; simp at *; omega) (by intro a b; simp; omega) l
  exact this.imp fun h=>by simpa using h
theorem chg_mins {l : List Exc} {hd : List (Ix l)} (hr : ∀ i∈hd,∀ e∈l[i.1].es,0≤e.at_∧e.at_ < 1440) (p : Int×Int×Int) :
    chg (fun m=>govV l m hd) (dd ((mins l hd).mergeSort fun x y=>decide (x≤y)) ((mins l hd).mergeSort fun x y=>decide (x≤y)).length) p = chg (fun m=>govV l m hd) mins1440 p:=by
  have hs:=srt_le (mins l hd)
  obtain ⟨d1,d2,d3⟩:=dd_ok hs _ (Nat.le_refl _)
  rw [List.take_length] at d2 d3
  have e0 : mins1440 = (List.range 1440).map fun (i : Nat)=>(0 : Int) + (i : Int):=by
    unfold mins1440 rangeZ
    apply List.map_congr_left
    intro a _
    omega
  have e : dd ((mins l hd).mergeSort fun x y=>decide (x≤y)) ((mins l hd).mergeSort fun x y=>decide (x≤y)).length = ((List.range 1440).map fun (i : Nat)=>(0 : Int) + (i : Int)).filter fun m=>decide (m∈mins l hd):=by
    refine inc_uniq d1 ?_ fun x=>?_
    · refine List.Pairwise.filter _ ?_
      rw [List.pairwise_map]
      exact List.pairwise_lt_range.imp fun h=>by omega
    · rw [List.mem_filter,decide_eq_true_eq]
      constructor
      · intro hx
        have h1:=List.mem_mergeSort.1 (d2 x hx)
        refine ⟨?_,h1⟩
        rw [List.mem_map]
        have h2 : 0≤x∧x < 1440:=by
          rcases mem_mins.1 h1 with rfl | ⟨i,hi,e,he,rfl⟩
          · omega
          · exact hr i hi e he
        exact ⟨x.toNat,by rw [List.mem_range]; omega,by omega⟩
      · rintro ⟨_,hx⟩
        exact d3 x (List.mem_mergeSort.2 hx)
  rw [e,e0]
  refine chg_drop _ _ 1440 0 p fun x h1 h2 h3=>?_
  have hx : x∉mins l hd:=of_decide_eq_false h3
  have hx0 : x≠0:=fun z=>hx (mem_mins.2 (.inl z))
  rw [if_neg hx0]
  exact govV_same fun i hi e he z=>hx (mem_mins.2 (.inr ⟨i,hi,e,he,z⟩))
theorem chg_len (g : Int→Int×Int×Int) : ∀ (ms : List Int) (p : Int×Int×Int),(chg g ms p).length≤ms.length
  | [],_=>Nat.le_refl _
  | m :: r,p=>by
    rw [chg_s]
    have:=chg_len g r (g m)
    split <;> simp <;> omega
theorem two {a b : Int} {c d : Int} : (!((a == b) && ((c == d) && true))) = decide (¬ (a = b∧c = d)):=by
  rw [beqD,beqD,Bool.and_true,dec_and,decide_not]
theorem chgLoop {R : Int×Nat×Nat×Int×Int×Int×List (List PC)→(Int×Nat×Nat×Int×Int×Int×List (List PC)→Prop)→Prop} (g : Int→Int×Int×Int) (ms : List Int) (hm : ms.length < 2 ^ 40) (p0 : Int×Int×Int)
    (step : ∀ (j : Nat) (hj : j < ms.length) (p : Int×Int×Int) (i n : Nat) (es : List (List PC)) (N : Int×Nat×Nat×Int×Int×Int×List (List PC)→Prop),i + n≤es.length→n≤j →
      (g ms[j]≠p→N ((g ms[j]).1,0,n + 1,((j + 1 : Nat) : Int),(g ms[j]).2.1,(g ms[j]).2.2,List.take n (List.drop i es) ++ [zc ms[j]]))→(g ms[j] = p→N ((g ms[j]).1,i,n,((j + 1 : Nat) : Int),(g ms[j]).2.1,(g ms[j]).2.2,es)) →
      R (p.1,i,n,(j : Int),p.2.1,p.2.2,es) N)
    (stop : ∀ (p : Int×Int×Int) (i n : Nat) (es : List (List PC)) (N : Int×Nat×Nat×Int×Int×Int×List (List PC)→Prop),List.take n (List.drop i es) = (chg g ms p0).map zc→R (p.1,i,n,(ms.length : Int),p.2.1,p.2.2,es) N) : LoopP R (p0.1,0,0,0,p0.2.1,p0.2.2,[]):=by
  refine LoopP.inv ms.length (fun j x=>∃ (p : Int×Int×Int) (O : List Int),x.1 = p.1∧x.2.2.2.1 = (j : Int)∧x.2.2.2.2.1 = p.2.1∧x.2.2.2.2.2.1 = p.2.2∧SlR x.2.1 x.2.2.1 x.2.2.2.2.2.2 (O.map zc)∧O.length≤j∧chg g ms p0 = O ++ chg g (ms.drop j) p) 0
    ⟨p0,[],rfl,rfl,rfl,rfl,SlR.nil,Nat.le_refl _,rfl⟩ (Nat.zero_le _) (by omega) ?_ ?_
  · rintro j ⟨q,i,n,t,a,b,es⟩ _ hj ⟨p,O,h1,h2,h3,h4,hs,hO,he⟩ N hN
    dsimp only at h1 h2 h3 h4 hs
    subst h1 h2 h3 h4
    rw [List.drop_eq_getElem_cons hj,chg_s] at he
    have hn:=hs.n
    rw [List.length_map] at hn
    refine step j hj p i n es N (Nat.le_of_eq hs.len) (by omega) (fun h=>hN _ ⟨g ms[j],O ++ [ms[j]],rfl,rfl,rfl,rfl,?_,by simp; omega,?_⟩) fun h=>hN _ ⟨g ms[j],O,rfl,rfl,rfl,rfl,hs,by omega,?_⟩
    · rw [List.map_append]; exact hs.push _
    · rw [he,if_pos h]; simp
    · rw [he,if_neg (fun z=>z h)]
  · rintro ⟨q,i,n,t,a,b,es⟩ ⟨p,O,h1,h2,h3,h4,hs,hO,he⟩ N
    dsimp only at h1 h2 h3 h4 hs
    subst h1 h2 h3 h4
    rw [List.drop_eq_nil_of_le (Nat.le_refl _)] at he
    rw [show chg g [] p = [] from rfl,List.append_nil] at he
    refine stop p i n es N ?_
    rw [he]; exact hs.take
theorem ne3 {a b : Int×Int×Int} : a≠b↔a.1≠b.1∨¬ (a.2.1 = b.2.1∧a.2.2 = b.2.2):=by
  rcases a with ⟨a1,a2,a3⟩
  rcases b with ⟨b1,b2,b3⟩
  simp only [ne_eq,Prod.mk.injEq]
  omega
theorem f13_ok {l : List Exc} {all : List Cal} {f g : Bool} (hs : Sm l all) {day : Int} {K : List (List PC)→Bool→Int→Prop}
    (h : if chkD l all day = 0 then K ((chgV l all day).map zc) false 0 else K [] true (chkD l all day)) : f13 (l.map Exc.c) f (all.map Cal.c) g day K:=by
  refine ⟨?_⟩
  unfold f13_d
  refine f22_ok hs (bB_n (fun q=>?_) fun q=>?_)
  · rw [if_neg q] at h; exact h
  rw [if_pos q] at h
  obtain ⟨q1,h1,h2⟩:=chkD_0 q
  have hv:=Vd.of hs q1
  have hlen:=held_len hv
  refine f23_ok hv h1 h2 fun hi hn hes hsl=>?_
  have hnn:=hsl.n
  rw [List.length_map] at hnn
  have hhl:=hlen day
  unfold f13_p14
  generalize hhd : held l all day = hd at hsl hnn hhl
  refine LoopP.inv hd.length (fun j x=>x.2.2.1 = (j : Int)∧SlR x.1 x.2.1 x.2.2.2 ((0 :: (hd.take j).flatMap (tms l)).map zc)∧x.2.1≤1 + 200 * j) 0 ⟨rfl,⟨rfl,rfl⟩,by simp⟩ (Nat.zero_le _) (by omega) ?_ ?_
  · rintro j ⟨i,n,t,es⟩ _ hj ⟨ht,hse,hnb⟩ N hN
    dsimp only at ht hse hnb
    subst ht
    unfold f13_p14b0
    dsimp only
    have hat:=hsl.at (j:=j) (by simpa using hj)
    rw [List.getElem_map] at hat
    refine bB_t (decide_eq_true (by omega)) ⟨by omega,?_⟩
    rw [toNat_c,hat,w64_s j (by omega)]
    have htk : (hd.take (j + 1)).flatMap (tms l) = (hd.take j).flatMap (tms l) ++ tms l hd[j]:=by
      rw [List.take_succ_eq_append_getElem hj,List.flatMap_append]; simp
    rw [htk] at hN
    generalize hd[j] = k at hN ⊢
    simp only [Ix.c,ext_0,ext_s,ext_z,cS_c,cI_c,cB_c,cL_c,cO_c,oS_c,oI_c,oB_c,oL_c,nilC_c,toNat_c]
    refine ⟨rngM _ _ k.2,?_⟩
    rw [getD_map _ _ _ k.2]
    have hx:=hs.hes _ (List.getElem_mem k.2)
    unfold tms at hN
    generalize hxx : l[k.1] = x at hN hx ⊢
    simp only [Exc.c,ext_0,ext_s,ext_z,cS_c,cI_c,cB_c,cL_c,cO_c,oS_c,oI_c,oB_c,oL_c,nilC_c,toNat_c]
    unfold f13_p20
    rw [List.length_map]
    generalize hL : (0 :: (hd.take j).flatMap (tms l)) = L at hse
    refine LoopP.inv x.es.length (fun k y=>y.2.2.1 = (k : Int)∧SlR y.1 y.2.1 y.2.2.2 ((L ++ (x.es.take k).map (·.at_)).map zc)∧y.2.1 = n + k) 0 ⟨rfl,by simpa using hse,rfl⟩ (Nat.zero_le _) (by omega) ?_ ?_
    · rintro k2 ⟨i2,n2,t2,es2⟩ _ hk2 ⟨ht2,hs2,hn2⟩ N2 hN2
      dsimp only at ht2 hs2 hn2
      subst ht2 hn2
      unfold f13_p20b0
      dsimp only
      refine bB_t (ltL hk2) ⟨rngM _ _ hk2,?_⟩
      rw [toNat_c,getD_map _ _ _ hk2,w64_s k2 (by omega)]
      have ea : L ++ (x.es.take (k2 + 1)).map (·.at_) = (L ++ (x.es.take k2).map (·.at_)) ++ [(x.es[k2]).at_]:=by
        rw [List.take_succ_eq_append_getElem hk2,List.map_append,List.append_assoc]; rfl
      rw [ea] at hN2
      generalize x.es[k2] = e at hN2 ⊢
      simp only [En.c,ext_0,ext_s,ext_z,cS_c,cI_c,cB_c,cL_c,cO_c,oS_c,oI_c,oB_c,oL_c,nilC_c,toNat_c]
      refine ⟨Nat.le_of_eq hs2.len,by omega,by omega,hN2 _ ⟨rfl,?_,by dsimp only; omega⟩⟩
      rw [List.map_append]
      exact hs2.push _
    · rintro ⟨i2,n2,t2,es2⟩ ⟨ht2,hs2,hn2⟩ N2
      dsimp only at ht2 hs2 hn2
      subst ht2 hn2
      unfold f13_p20b0
      dsimp only
      rw [List.take_length] at hs2
      refine bB_f (stopL _) (hN _ ⟨rfl,?_,by dsimp only; omega⟩)
      rw [← hL] at hs2
      exact hs2
  rintro ⟨i,n,t,es⟩ ⟨ht,hse,hnb⟩ N
  dsimp only at ht hse hnb
  subst ht
  unfold f13_p14b0
  dsimp only
  refine bB_f (decide_eq_false (by omega)) ?_
  rw [List.take_length] at hse
  change SlR i n es ((mins l hd).map zc) at hse
  have hmn:=hse.n
  rw [List.length_map] at hmn
  refine ⟨mins l hd,hse.take,hmn.symm,by omega,?_⟩
  generalize hSt : ((mins l hd).mergeSort fun x y=>decide (x≤y)) = st
  have hstl : st.length = n:=by rw [← hSt,List.length_mergeSort,hmn]
  have hse2 : SlR i n (es.take i ++ (st.map zc ++ es.drop (i + n))) (st.map zc):=by
    have hl:=hse.len
    refine ⟨by simp; omega,?_⟩
    rw [List.drop_append_of_le_length (by simp; omega),List.drop_take,Nat.sub_self,List.take_zero,List.nil_append,List.drop_eq_nil_of_le (by omega),List.append_nil]
  generalize es.take i ++ (st.map zc ++ es.drop (i + n)) = es2 at hse2
  have tail : f13_p39 (l.map Exc.c) f hi hn i n (prev l all day).1 hes es2 (prev l all day).2.1 (prev l all day).2.2 (fun i n z es=>K (List.take n (List.drop i es)) false z):=by
    unfold f13_p39
    refine f26_ok (by omega) hse2 fun i3 n3 es3 hs3=>?_
    unfold f13_p42
    have hn3:=hs3.n
    rw [List.length_map] at hn3
    have hdl:=dd_len st st.length
    have hms : chg (gv l all day) (dd st st.length) (prev l all day) = chgV l all day:=by
      have:=chg_mins (l:=l) (hd:=hd) (fun i hi e he=>hv.rng _ (List.getElem_mem i.2) e he) (prev l all day)
      rw [hSt] at this
      unfold chgV
      show chg (fun m=>govV l m (held l all day)) _ _ = chg (fun m=>govV l m (held l all day)) _ _
      rw [hhd]
      exact this
    refine chgLoop (gv l all day) (dd st st.length) (by omega) (prev l all day) ?_ ?_
    · intro j hj p i n es N hin hn hA hB
      unfold f13_p42b0
      dsimp only
      have hat:=hs3.at (j:=j) (by simpa using hj)
      rw [List.getElem_map] at hat
      refine bB_t (decide_eq_true (by omega)) ⟨by omega,?_⟩
      rw [toNat_c,hat,w64_s j (by omega),hsl.take]
      generalize (dd st st.length)[j] = m at hA hB ⊢
      simp only [zc,ext_0,ext_s,ext_z,cS_c,cI_c,cB_c,cL_c,cO_c,oS_c,oI_c,oB_c,oL_c,nilC_c,toNat_c]
      rw [← hhd]
      refine f25_ok hs.hes (by have:=hlen day; omega) ?_
      rw [two]
      have hAA : gv l all day m≠p→(i + n)≤es.length∧(n + 1) * 8≤2 ^ 47 + 2 ^ 30∧(n + 1)≤2 ^ 47 + 2 ^ 30∧N ((gv l all day m).1,0,n + 1,((j + 1 : Nat) : Int),(gv l all day m).2.1,(gv l all day m).2.2,List.take n (List.drop i es) ++ [zc m]):=fun z=>⟨hin,by omega,by omega,hA z⟩
      refine bB_n (fun z=>hAA (ne3.2 (.inl z))) fun z=>bB_d (fun z2=>hAA (ne3.2 (.inr z2))) fun z2=>hB ?_
      exact Classical.byContradiction fun y=>(ne3.1 y).elim (fun y=>y z) fun y=>z2 y
    · intro p i n es N he
      unfold f13_p42b0
      dsimp only
      refine bB_f (decide_eq_false (by omega)) ?_
      rw [he,hms]; exact h
  unfold prev at tail
  refine bB_d (fun q=>?_) fun q=>?_
  · rw [w64_in (by omega) (by omega)]
    rw [if_pos q] at tail
    refine f23_ok hv (by omega) (by omega) fun i4 n4 es4 hs4=>?_
    rw [hs4.take]
    exact f25_ok hs.hes (by have:=hlen (day - 1); omega) tail
  · rw [if_neg q] at tail
    exact tail
end Go.Eng.N
