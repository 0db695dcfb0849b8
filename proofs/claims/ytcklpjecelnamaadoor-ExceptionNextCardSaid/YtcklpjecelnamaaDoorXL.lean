/- Exceptions: which one governs a minute. -/
import Derived.Test.YtcklpjecelnamaaDoorXK
import Derived.Test.YtcklpjecelnamaaDoorFn2
set_option linter.unusedVariables false
set_option linter.unusedSimpArgs false
namespace Go.Eng.N
open Go Go.Eng
def atF (m : Int) (v : Int×Int) (e : En) : Int×Int:=if e.at_≤m then (e.k,e.n) else v
def atV (es : List En) (m : Int) : Int×Int:=es.foldl (atF m) (0,0)
theorem f45_ok {es : List En} {f : Bool} (hl : es.length≤200) {m : Int} {K : Int→Int→Prop} (h : K (atV es m).1 (atV es m).2) : f45 (es.map En.c) f m K:=by
  refine ⟨?_⟩
  unfold f45_d f45_p6
  rw [List.length_map]
  refine LoopP.inv es.length (fun j x=>x.1 = (j : Int)∧atV es m = (es.drop j).foldl (atF m) x.2) 0 ⟨rfl,rfl⟩ (Nat.zero_le _) (by omega) ?_ ?_
  · rintro j ⟨i,k,n⟩ _ hj ⟨hi,he⟩ N hN
    dsimp only at hi he
    subst hi
    unfold f45_p6b0
    dsimp only
    refine bB_t (ltL hj) ⟨rngM _ _ hj,?_⟩
    rw [toNat_c,getD_map _ _ _ hj,w64_s j (by omega)]
    rw [List.drop_eq_getElem_cons hj,List.foldl_cons] at he
    generalize es[j] = e at he ⊢
    simp only [En.c,ext_0,ext_s,ext_z,cS_c,cI_c,cB_c,cL_c,cO_c,oS_c,oI_c,oB_c,oL_c,nilC_c,toNat_c]
    refine bB_d (fun q=>hN _ ⟨rfl,?_⟩) fun q=>hN _ ⟨rfl,?_⟩
    · rw [he]; unfold atF; rw [if_pos q]
    · rw [he]
      congr 1
      unfold atF; rw [if_neg q]
  · rintro ⟨i,k,n⟩ ⟨hi,he⟩ N
    dsimp only at hi he
    subst hi
    unfold f45_p6b0
    dsimp only
    rw [List.drop_eq_nil_of_le (Nat.le_refl _),List.foldl_nil] at he
    rw [he] at h
    exact bB_f (stopL _) h
def govV (l : List Exc) (m : Int) : List (Ix l)→Int×Int×Int
  | []=>(-1,0,0)
  | i :: r=>if (atV l[i.1].es m).1≠0 then ((i.1 : Int),atV l[i.1].es m) else govV l m r
theorem govV_s (l : List Exc) (m : Int) (i : Ix l) (r : List (Ix l)) : govV l m (i :: r) = if (atV l[i.1].es m).1≠0 then ((i.1 : Int),atV l[i.1].es m) else govV l m r:=rfl
theorem f25_ok {l : List Exc} {f g : Bool} (hes : ∀ x∈l,x.es.length≤200) {hd : List (Ix l)} (hl : hd.length < 2 ^ 40) {m : Int} {K : Int→Int→Int→Prop} (h : K (govV l m hd).1 (govV l m hd).2.1 (govV l m hd).2.2) :
    f25 (l.map Exc.c) f (hd.map Ix.c) g m K:=by
  refine ⟨?_⟩
  unfold f25_d f25_p4
  rw [List.length_map]
  refine LoopP.inv hd.length (fun j x=>x = (j : Int)∧govV l m hd = govV l m (hd.drop j)) 0 ⟨rfl,rfl⟩ (Nat.zero_le _) (by omega) ?_ ?_
  · rintro j x _ hj ⟨rfl,he⟩ N hN
    unfold f25_p4b0
    refine bB_t (ltL hj) ⟨rngM _ _ hj,?_⟩
    rw [toNat_c,getD_map _ _ _ hj,w64_s j (by omega)]
    rw [List.drop_eq_getElem_cons hj,govV_s] at he
    generalize hd[j] = i at he ⊢
    simp only [Ix.c,ext_0,ext_s,ext_z,cS_c,cI_c,cB_c,cL_c,cO_c,oS_c,oI_c,oB_c,oL_c,nilC_c,toNat_c]
    refine ⟨rngM _ _ i.2,?_⟩
    rw [getD_map _ _ _ i.2]
    have hx:=hes _ (List.getElem_mem i.2)
    generalize l[i.1] = x at he hx ⊢
    simp only [Exc.c,ext_0,ext_s,ext_z,cS_c,cI_c,cB_c,cL_c,cO_c,oS_c,oI_c,oB_c,oL_c,nilC_c,toNat_c]
    refine f45_ok hx (bB_n (fun q=>?_) fun q=>hN _ ⟨rfl,?_⟩)
    · rw [if_pos q] at he; rw [he] at h; exact h
    · rw [if_neg (fun z=>z q)] at he; exact he
  · rintro x ⟨rfl,he⟩ N
    unfold f25_p4b0
    rw [List.drop_eq_nil_of_le (Nat.le_refl _)] at he
    rw [he] at h
    exact bB_f (stopL _) h
theorem held_len {l : List Exc} {all : List Cal} (hv : Vd l all) (day : Int) : (held l all day).length≤64:=by
  unfold held
  rw [← (isortL_stb ltI_o (hIx l all day)).len]
  unfold hIx
  refine Nat.le_trans (List.length_filter_le _ _) ?_
  have:=hv.len
  simpa using this
abbrev gv (l : List Exc) (all : List Cal) (day m : Int) : Int×Int×Int:=govV l m (held l all day)
theorem f14_ok {l : List Exc} {all : List Cal} {f g : Bool} (hs : Sm l all) {day m : Int} {K : Int→Int→Int→Int→Prop}
    (h : if chkD l all day = 0 then (if 0≤m∧m < 1440 then K (gv l all day m).1 (gv l all day m).2.1 (gv l all day m).2.2 0 else K 0 0 0 6) else K 0 0 0 (chkD l all day)) : f14 (l.map Exc.c) f (all.map Cal.c) g day m K:=by
  refine ⟨?_⟩
  unfold f14_d
  refine f22_ok hs (bB_n (fun q=>?_) fun q=>?_)
  · rw [if_neg q] at h; exact h
  · rw [if_pos q] at h
    obtain ⟨q1,q2,q3⟩:=chkD_0 q
    have hv:=Vd.of hs q1
    refine bB_d (fun z=>?_) fun z=>bB_d (fun z2=>?_) fun z2=>?_
    · rw [if_neg (by omega)] at h; exact h
    · rw [if_neg (by omega)] at h; exact h
    · rw [if_pos (by omega)] at h
      unfold f14_p13
      refine f23_ok hv q2 q3 fun i n es hs'=>?_
      rw [hs'.take]
      exact f25_ok hs.hes (by have:=held_len hv day; omega) h
end Go.Eng.N
