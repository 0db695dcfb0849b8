/- Exceptions: the law of what lies below. -/
import Derived.Test.YtcklpjecelnamaaDoorXP
import Derived.Test.YtcklpjecelnamaaDoorFn3
set_option linter.unusedVariables false
set_option linter.unusedSimpArgs false
namespace Go.Eng.N
open Go Go.Eng
section
variable {α β : Type} {lt : α→α→Bool} {lt' : β→β→Bool}
theorem insL_map {f : α→β} (hf : ∀ a b,lt' (f a) (f b) = lt a b) {x : α} : ∀ l : List α,insL lt' (f x) (l.map f) = (insL lt x l).map f
  | []=>rfl
  | y :: l=>by
    rw [List.map_cons]
    unfold insL
    rw [hf]
    split
    · rw [List.map_cons,insL_map hf l]
    · rfl
theorem isortL_map {f : α→β} (hf : ∀ a b,lt' (f a) (f b) = lt a b) : ∀ l : List α,isortL lt' (l.map f) = (isortL lt l).map f
  | []=>rfl
  | x :: l=>by
    rw [List.map_cons]
    show insL lt' (f x) (isortL lt' (l.map f)) = (insL lt x (isortL lt l)).map f
    rw [isortL_map hf l,insL_map hf]
theorem insL_last {x z : α} (h : lt z x = false) : ∀ l : List α,insL lt x (l ++ [z]) = insL lt x l ++ [z]
  | []=>by
    show insL lt x [z] = [x,z]
    unfold insL
    rw [if_neg (by rw [h]; simp)]
  | y :: l=>by
    rw [List.cons_append]
    unfold insL
    split
    · rw [insL_last h l]; rfl
    · rfl
theorem isortL_last {z : α} : ∀ l : List α,(∀ a∈l,lt z a = false)→isortL lt (l ++ [z]) = isortL lt l ++ [z]
  | [],_=>rfl
  | x :: l,h=>by
    rw [List.cons_append]
    show insL lt x (isortL lt (l ++ [z])) = insL lt x (isortL lt l) ++ [z]
    rw [isortL_last l fun a ha=>h a (by simp [ha]),insL_last (h x (by simp))]
theorem stb_filter {a b : List α} (h : Stb lt a b) (p : α→Bool) : Stb lt (a.filter p) (b.filter p) :=
  have key : ∀ (l : List α) (z : α),(l.filter p).filter (eqv lt z) = (l.filter (eqv lt z)).filter p:=fun l z=>by
    rw [List.filter_filter,List.filter_filter]
    exact List.filter_congr fun _ _=>Bool.and_comm _ _
  ⟨h.perm.filter p,fun z=>by rw [key,key,h.same z]⟩
theorem isortL_filter (o : Cmp lt) (p : α→Bool) (l : List α) : (isortL lt l).filter p = isortL lt (l.filter p) :=
  isortL_of o ((isortL_srt o l).filter p) (stb_filter (isortL_stb o l) p)
end
def emb {l : List Exc} (x : Exc) (i : Ix l) : Ix (l ++ [x]):=⟨i.1,by rw [List.length_append]; have:=i.2; omega⟩
def lst (l : List Exc) (x : Exc) : Ix (l ++ [x]):=⟨l.length,by rw [List.length_append]; exact Nat.lt_succ_self _⟩
theorem get_emb {l : List Exc} (x : Exc) (i : Ix l) : (l ++ [x])[(emb x i).1] = l[i.1]:=List.getElem_append_left i.2
theorem get_lst (l : List Exc) (x : Exc) : (l ++ [x])[(lst l x).1] = x:=by
  show (l ++ [x])[l.length] = x
  simp
theorem fin_more (l : List Exc) (x : Exc) : List.finRange (l ++ [x]).length = (List.finRange l.length).map (emb x) ++ [lst l x]:=by
  apply List.ext_getElem
  · simp
  · intro i h1 h2
    apply Fin.ext
    rw [List.getElem_finRange]
    by_cases h : i < l.length
    · rw [List.getElem_append_left (by simpa using h),List.getElem_map,List.getElem_finRange]
      rfl
    · rw [List.getElem_append_right (by simpa using h)]
      have : i = l.length:=by simp at h2; omega
      simp [lst,this]
theorem hIx_more (l : List Exc) (x : Exc) (all : List Cal) (day : Int) : hIx (l ++ [x]) all day = (hIx l all day).map (emb x) ++ (if hB all day x = true then [lst l x] else []):=by
  unfold hIx
  rw [fin_more,List.filter_append,List.filter_map]
  congr 1
  · congr 1
    apply List.filter_congr
    intro i _
    simp only [Function.comp,get_emb]
  · rw [List.filter_cons,List.filter_nil]
    rw [get_lst]
theorem ltI_emb {l : List Exc} (x : Exc) (i k : Ix l) : ltI (l ++ [x]) (emb x i) (emb x k) = ltI l i k:=by
  unfold ltI
  rw [get_emb,get_emb]
theorem govV_map {l : List Exc} (x : Exc) {m : Int} : ∀ hd : List (Ix l),govV (l ++ [x]) m (hd.map (emb x)) = govV l m hd
  | []=>rfl
  | i :: r=>by
    rw [List.map_cons,govV_s,govV_s,govV_map x r,get_emb]
    rfl
theorem govV_neg {l : List Exc} {m : Int} : ∀ hd : List (Ix l),0≤(govV l m hd).1∨govV l m hd = (-1,0,0)
  | []=>.inr rfl
  | i :: r=>by
    rw [govV_s]
    split
    · exact .inl (Int.natCast_nonneg _)
    · exact govV_neg r
theorem govV_app {l : List Exc} {m : Int} {B : List (Ix l)} : ∀ A : List (Ix l),govV l m (A ++ B) = if 0≤(govV l m A).1 then govV l m A else govV l m B
  | []=>by
    rw [if_neg (by show ¬ (0 : Int)≤-1; omega)]; rfl
  | i :: r=>by
    rw [List.cons_append,govV_s,govV_s,govV_app r]
    split
    · rw [if_pos (Int.natCast_nonneg _)]
    · rfl
theorem govV_filter {l : List Exc} {m : Int} (p : Ix l→Bool) : ∀ hd : List (Ix l),(∀ i∈hd,p i = false→(atV l[i.1].es m).1 = 0)→govV l m (hd.filter p) = govV l m hd
  | [],_=>rfl
  | i :: r,h=>by
    have ih:=govV_filter p r fun k hk=>h k (by simp [hk])
    rw [List.filter_cons,govV_s]
    cases hp : p i with
    | true=>rw [if_pos rfl,govV_s,ih]
    | false=>rw [if_neg (by simp),ih,if_neg (fun z=>z (h i (by simp) hp))]
def idleB (x : Exc) : Bool:=x.es.all fun e=>decide (e.k = 0)
theorem atV_idle {m : Int} : ∀ (es : List En) (v : Int×Int),v.1 = 0→(∀ e∈es,e.k = 0)→(es.foldl (atF m) v).1 = 0
  | [],v,h,_=>h
  | e :: r,v,h,hz=>by
    rw [List.foldl_cons]
    refine atV_idle r _ ?_ fun y hy=>hz y (by simp [hy])
    unfold atF
    split
    · exact hz e (by simp)
    · exact h
theorem below {l : List Exc} {x : Exc} {all : List Cal} {day m : Int} (h : idleB x = true∨∀ y∈l,y.pri < x.pri) :
    (0≤(gv l all day m).1→gv (l ++ [x]) all day m = gv l all day m)∧((gv l all day m).1 < 0→(idleB x = true→gv (l ++ [x]) all day m = gv l all day m)∧((gv (l ++ [x]) all day m).1 = -1∨(gv (l ++ [x]) all day m).1 = (l.length : Int))):=by
  have same : gv (l ++ [x]) all day m = gv l all day m→(0≤(gv l all day m).1→gv (l ++ [x]) all day m = gv l all day m)∧((gv l all day m).1 < 0→(idleB x = true→gv (l ++ [x]) all day m = gv l all day m)∧((gv (l ++ [x]) all day m).1 = -1∨(gv (l ++ [x]) all day m).1 = (l.length : Int))):=fun e=>by
    refine ⟨fun _=>e,fun hn=>⟨fun _=>e,.inl ?_⟩⟩
    rw [e]
    rcases govV_neg (m:=m) (held l all day) with q | q
    · have : ¬ 0≤(gv l all day m).1:=by omega
      exact absurd q this
    · show (govV l m (held l all day)).1 = -1
      rw [q]
  by_cases hb : hB all day x = true
  rotate_left
  · apply same
    unfold gv held
    rw [hIx_more,if_neg hb,List.append_nil,isortL_map (ltI_emb x),govV_map]
  by_cases hi : idleB x = true
  · apply same
    unfold gv held
    rw [hIx_more,if_pos hb]
    rw [← govV_filter (fun i=>decide (i.1 < l.length)) (isortL (ltI (l ++ [x])) ((hIx l all day).map (emb x) ++ [lst l x])),isortL_filter ltI_o,List.filter_append]
    · have e1 : ((hIx l all day).map (emb x)).filter (fun i=>decide (i.1 < l.length)) = (hIx l all day).map (emb x):=List.filter_eq_self.2 fun i hi=>by
        obtain ⟨k,_,rfl⟩:=List.mem_map.1 hi
        exact decide_eq_true k.2
      have e2 : [lst l x].filter (fun i=>decide (i.1 < l.length)) = []:=by
        rw [List.filter_cons,if_neg (by simp [lst])]; rfl
      rw [e1,e2,List.append_nil,isortL_map (ltI_emb x),govV_map]
    · intro i hi2 hp
      have h1 : ¬ i.1 < l.length:=of_decide_eq_false hp
      have h3:=i.2
      have h4 : (l ++ [x]).length = l.length + 1:=by simp
      have h2 : i = lst l x:=Fin.ext (show i.1 = l.length by omega)
      subst h2
      rw [get_lst]
      exact atV_idle _ _ rfl fun e he=>of_decide_eq_true (List.all_eq_true.1 hi e he)
  · have hp:=h.resolve_left hi
    have e : gv (l ++ [x]) all day m = if 0≤(gv l all day m).1 then gv l all day m else govV (l ++ [x]) m [lst l x]:=by
      unfold gv held
      rw [hIx_more,if_pos hb,isortL_last,isortL_map (ltI_emb x),govV_app,govV_map]
      intro i hi2
      obtain ⟨k,_,rfl⟩:=List.mem_map.1 hi2
      unfold ltI
      rw [get_emb,get_lst]
      refine decide_eq_false ?_
      have:=hp l[k.1] (List.getElem_mem k.2)
      omega
    refine ⟨fun q=>by rw [e,if_pos q],fun q=>⟨fun z=>absurd z hi,?_⟩⟩
    rw [e,if_neg (by omega),govV_s]
    split
    · exact .inr rfl
    · exact .inl rfl
theorem tri {p : Prop} (h : p) : (p∧p)∧p:=⟨⟨h,h⟩,h⟩
theorem below_fin {l : List Exc} {x : Exc} {all : List Cal} {day m : Int} (hx : idleB x = true∨∀ y∈l,y.pri < x.pri) {f : Bool} {K : Bool→Prop} (h : K true) :
    f5_p37 (l.map Exc.c) f (idleB x) (gv l all day m).1 (gv (l ++ [x]) all day m).1 (gv l all day m).2.1 (gv l all day m).2.2 (gv (l ++ [x]) all day m).2.1 (gv (l ++ [x]) all day m).2.2 K:=by
  obtain ⟨h1,h2⟩:=below (all:=all) (day:=day) (m:=m) hx
  unfold f5_p37
  refine f8_ok (bB_t rfl ?_)
  rw [List.length_map]
  generalize gv l all day m = a at h1 h2 ⊢
  generalize gv (l ++ [x]) all day m = b at h1 h2 ⊢
  have tl : (a.1 < 0→b.1 = -1∨b.1 = (l.length : Int))→bB (decide (a.1≥0)) (K true) (bB (b.1 == -1) (K true) (K (b.1 == ((l.length : Nat) : Int)))):=fun z=>by
    refine bB_d (fun _=>h) fun q=>bB_e (fun _=>h) fun q2=>?_
    have:=(z (by omega)).resolve_left q2
    rw [this,BEq.rfl]; exact h
  have eqc : b = a→bB (a.1 == b.1) (bB ((a.2.1 == b.2.1) && ((a.2.2 == b.2.2) && true)) (bB (decide (a.1≥0)) (K true) (bB (b.1 == -1) (K true) (K (b.1 == ((l.length : Nat) : Int))))) (K false)) (K false):=fun e=>by
    have tl2:=tl fun q=>(h2 q).2
    subst e
    rw [BEq.rfl,BEq.rfl,BEq.rfl]
    exact bB_t rfl (bB_t rfl tl2)
  refine bB_d (fun q=>?_) fun q=>eqc (h1 (by omega))
  refine bB_not (bB_of (fun q2=>?_) fun _=>tl fun q=>(h2 q).2)
  exact eqc ((h2 q).1 q2)
theorem f5_ok {l : List Exc} {all : List Cal} {x : Exc} {f g : Bool} (hl : l.length * 152≤2 ^ 47) (he : ∀ y∈l,y.es.length≤2 ^ 48) (hxe : x.es.length≤2 ^ 48) (hc : ∀ c∈all,c.ps.length≤2 ^ 48) {day m : Int} {K : Bool→Prop} (h : K true) :
    f5 (l.map Exc.c) f (all.map Cal.c) g x.name x.p.y x.p.mo x.p.d x.p.wd x.p.wk x.p.fy x.p.fm x.p.fd x.p.ty x.p.tm x.p.td x.cal x.pri (x.es.map En.c) x.f day m K:=by
  refine ⟨?_⟩
  unfold f5_d
  refine tri ?_
  rw [List.length_map]
  refine ⟨Nat.le_refl 0,by omega,by omega,by simp,by omega,by omega,?_⟩
  have e : List.take ((0 + l.length) + 1) (List.drop 0 ((List.take (0 + l.length) (List.drop 0 ([] ++ l.map Exc.c))) ++ [[pS x.name,pI x.p.y,pI x.p.mo,pI x.p.d,pI x.p.wd,pI x.p.wk,pI x.p.fy,pI x.p.fm,pI x.p.fd,pI x.p.ty,pI x.p.tm,pI x.p.td,pS x.cal,pI x.pri,.sl 3 (x.es.map En.c) x.f]])) = (l ++ [x]).map Exc.c:=by
    rw [List.drop_zero,List.drop_zero,List.nil_append,Nat.zero_add,List.take_of_length_le (by simp),List.take_of_length_le (by simp),List.map_append]
    rfl
  rw [e]
  have he2 : ∀ y∈l ++ [x],y.es.length≤2 ^ 48:=fun y hy=>by
    rcases List.mem_append.1 hy with q | q
    · exact he y q
    · rw [List.mem_singleton.1 q]; exact hxe
  refine f12_ok he2 hc (bB_not (bB_of (fun q=>?_) fun _=>f8_ok h))
  have hs2:=smB_t q
  have hs : Sm l all:=⟨by have:=hs2.hl; simp at this; omega,hs2.ha,fun y hy=>hs2.hes y (by simp [hy]),hs2.hps⟩
  have hx2 : x.es.length≤200:=hs2.hes x (by simp)
  have hl2:=hs.hl
  unfold f5_p12
  refine LoopP.inv x.es.length (fun j y=>y.1 = (x.es.take j).all (fun e=>decide (e.k = 0))∧y.2 = (j : Int)) 0 ⟨rfl,rfl⟩ (Nat.zero_le _) (by omega) ?_ ?_
  · rintro j ⟨b,t⟩ _ hj ⟨hb,ht⟩ N hN
    dsimp only at hb ht
    subst ht
    unfold f5_p12b0
    dsimp only
    rw [w64_s j (by omega)]
    refine bB_t (ltM _ _ hj) ?_
    have e2 : (x.es.take (j + 1)).all (fun e=>decide (e.k = 0)) = (b && decide (x.es[j].k = 0)):=by
      rw [hb,List.take_succ_eq_append_getElem hj,List.all_append]; simp
    cases b with
    | true =>
      refine bB_t rfl ⟨rngM _ _ hj,?_⟩
      rw [toNat_c,getD_map _ _ _ hj]
      generalize x.es[j] = y at e2 ⊢
      simp only [En.c,ext_0,ext_s,ext_z,cS_c,cI_c,cB_c,cL_c,cO_c,oS_c,oI_c,oB_c,oL_c,nilC_c,toNat_c]
      rw [beqD]
      exact hN _ ⟨by rw [e2]; rfl,rfl⟩
    | false=>exact bB_f rfl (hN _ ⟨by rw [e2]; rfl,rfl⟩)
  rintro ⟨b,t⟩ ⟨hb,ht⟩ N
  dsimp only at hb ht
  subst ht
  unfold f5_p12b0
  dsimp only
  rw [List.take_length] at hb
  change b = idleB x at hb
  subst hb
  refine bB_f (stopM _ _) ?_
  unfold f5_p20
  refine LoopP.inv l.length (fun j y=>y = (j : Int)∧(idleB x = true∨∀ y∈l.take j,y.pri < x.pri)) 0 ⟨rfl,.inr fun y hy=>by simp at hy⟩ (Nat.zero_le _) (by omega) ?_ ?_
  · rintro j t _ hj ⟨rfl,hx⟩ N hN
    unfold f5_p20b0
    dsimp only
    rw [w64_s j (by omega)]
    refine bB_t (ltM _ _ hj) ⟨rngM _ _ hj,?_⟩
    rw [toNat_c,getD_map _ _ _ hj]
    have hN2 : (idleB x = true∨l[j].pri < x.pri)→N ((j + 1 : Nat) : Int):=fun z=>hN _ ⟨rfl,by
      rcases z with z | z
      · exact .inl z
      · rcases hx with hx | hx
        · exact .inl hx
        · refine .inr fun y hy=>?_
          rw [List.take_succ_eq_append_getElem hj] at hy
          rcases List.mem_append.1 hy with w | w
          · exact hx y w
          · rw [List.mem_singleton.1 w]; exact z⟩
    generalize l[j] = y at hN2 ⊢
    simp only [Exc.c,ext_0,ext_s,ext_z,cS_c,cI_c,cB_c,cL_c,cO_c,oS_c,oI_c,oB_c,oL_c,nilC_c,toNat_c]
    exact bB_d (fun _=>bB_not (bB_of (fun q=>hN2 (.inl q)) fun _=>f8_ok h)) fun q=>hN2 (.inr (by omega))
  rintro t ⟨rfl,hx⟩ N
  unfold f5_p20b0
  dsimp only
  rw [List.take_length] at hx
  refine bB_f (stopM _ _) (f14_ok hs ?_)
  have fin2 : ∀ (a k n e : Int),(e = 0→(a,k,n) = gv l all day m)→f14 ((l ++ [x]).map Exc.c) false (all.map Cal.c) g day m (fun n88 n89 n90 n91=>bB (e != 0) (f8 (fun b92=>K b92)) (bB (n91 != 0) (f8 (fun b93=>K b93)) (f5_p37 (l.map Exc.c) f (idleB x) a n88 k n n89 n90 (fun b104=>K b104)))):=by
    intro a k n e hg
    refine f14_ok hs2 ?_
    by_cases hd : chkD (l ++ [x]) all day = 0
    · rw [if_pos hd]
      split
      · refine bB_n (fun _=>f8_ok h) fun q=>bB_f rfl ?_
        have:=hg q
        rw [show a = (gv l all day m).1 from by rw [← this],show k = (gv l all day m).2.1 from by rw [← this],show n = (gv l all day m).2.2 from by rw [← this]]
        exact below_fin hx h
      · exact bB_n (fun _=>f8_ok h) fun q=>bB_t rfl (f8_ok h)
    · rw [if_neg hd]
      exact bB_n (fun _=>f8_ok h) fun q=>bB_n (fun _=>f8_ok h) fun z=>absurd z hd
  by_cases hd : chkD l all day = 0
  · rw [if_pos hd]
    split
    · exact fin2 _ _ _ _ fun _=>rfl
    · exact fin2 _ _ _ _ fun z=>by cases z
  · rw [if_neg hd]
    exact fin2 _ _ _ _ fun z=>absurd z hd
end Go.Eng.N
