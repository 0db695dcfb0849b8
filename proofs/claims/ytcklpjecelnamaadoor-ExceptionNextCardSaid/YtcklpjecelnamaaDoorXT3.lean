/- Exceptions: the law of the next day. -/
import Derived.Test.YtcklpjecelnamaaDoorXP
import Derived.Test.YtcklpjecelnamaaDoorFn3
import Derived.Test.YtcklpjecelnamaaDoorFn2
set_option linter.unusedVariables false
set_option linter.unusedSimpArgs false
namespace Go.Eng.N
open Go Go.Eng
theorem daysL_0 (q : Int→Bool) (d : Int) : daysL q 0 d = []:=rfl
theorem daysL_c (q : Int→Bool) (d : Int) : ∀ n,daysL q (n + 1) d = (if q d = true then [d] else []) ++ daysL q n (d + 1)
  | 0=>by rw [daysL_s,daysL_0,daysL_0]; simp
  | n + 1=>by
    rw [daysL_s,daysL_c q d n,daysL_s q n (d + 1),List.append_assoc,show d + ((n + 1 : Nat) : Int) = d + 1 + (n : Int) from by omega]
theorem daysL_mem {q : Int→Bool} {x : Int} : ∀ {n : Nat} {d : Int},x∈daysL q n d↔(d≤x∧x < d + n∧q x = true)
  | 0,d=>by rw [daysL_0]; simp; omega
  | n + 1,d=>by
    rw [daysL_c,List.mem_append,daysL_mem]
    constructor
    · rintro (h | h)
      · split at h
        · rename_i hq
          obtain rfl : x = d:=by simpa using h
          exact ⟨by omega,by omega,hq⟩
        · cases h
      · exact ⟨by omega,by omega,h.2.2⟩
    · rintro ⟨h1,h2,h3⟩
      by_cases hx : x = d
      · subst hx; left; rw [if_pos h3]; simp
      · right; exact ⟨by omega,by omega,h3⟩
theorem daysL_split (q : Int→Bool) (n : Nat) (d : Int) : ∀ {j : Nat},j≤n→daysL q n d = daysL q j d ++ daysL q (n - j) (d + j)
  | 0,_=>by rw [daysL_0,List.nil_append,Nat.sub_zero]; simp
  | j + 1,h=>by
    rw [daysL_split q n d (j:=j) (by omega),daysL_s,List.append_assoc,show n - j = (n - (j + 1)) + 1 from by omega,daysL_c,show d + ((j + 1 : Nat) : Int) = d + (j : Int) + 1 from by omega]
theorem best_ok (day : Int) (h0 : 0≤day) (q : Int→Bool) : ∀ (ps : List Pt) (b : Int),((b = -1∧∀ i,day≤i→i < 73049→q i = false)∨(day≤b∧b < 73049∧q b = true∧∀ i,day≤i→i < b→q i = false))→day≤73048 →
    ((ps.foldl (best day) b = -1∧∀ i,day≤i→i < 73049→(q i || ps.any fun p=>fits p i) = false)∨(day≤ps.foldl (best day) b∧ps.foldl (best day) b < 73049∧(q (ps.foldl (best day) b) || ps.any fun p=>fits p (ps.foldl (best day) b)) = true∧∀ i,day≤i→i < ps.foldl (best day) b→(q i || ps.any fun p=>fits p i) = false))
  | [],b,h,_=>by
    simpa using h
  | p :: r,b,h,hd=>by
    rw [List.foldl_cons]
    have hn:=nextFrom_ok (fits p) (73049 - day).toNat day h0
    have he : nextFrom (fits p) (73049 - day).toNat day = nextP p day:=rfl
    rw [he] at hn
    have hz : day + ((73049 - day).toNat : Int) = 73049:=by omega
    rw [hz] at hn
    have:=best_ok day h0 (fun i=>q i || fits p i) r (best day b p) ?_ hd
    · simpa only [Bool.or_assoc,List.any_cons] using this
    · unfold best
      rcases hn with ⟨a1,a2⟩ | ⟨a1,a2,a3,a4⟩
      · rw [if_neg (by omega)]
        rcases h with ⟨b1,b2⟩ | ⟨b1,b2,b3,b4⟩
        · exact .inl ⟨b1,fun i h1 h2=>by rw [b2 i h1 h2,a2 i h1 h2]; rfl⟩
        · exact .inr ⟨b1,b2,by rw [b3]; rfl,fun i h1 h2=>by rw [b4 i h1 h2,a2 i h1 (by omega)]; rfl⟩
      · rcases h with ⟨b1,b2⟩ | ⟨b1,b2,b3,b4⟩
        · rw [if_pos (by omega)]
          exact .inr ⟨a1,a2,by rw [a3]; simp,fun i h1 h2=>by rw [b2 i h1 (by omega),a4 i h1 h2]; rfl⟩
        · by_cases hlt : nextP p day < b
          · rw [if_pos (by omega)]
            exact .inr ⟨a1,a2,by rw [a3]; simp,fun i h1 h2=>by rw [b4 i h1 (by omega),a4 i h1 h2]; rfl⟩
          · rw [if_neg (by omega)]
            exact .inr ⟨b1,b2,by rw [b3]; rfl,fun i h1 h2=>by rw [b4 i h1 h2,a4 i h1 (by omega)]; rfl⟩
theorem nextC_ok (c : Cal) {day : Int} (h0 : 0≤day) (h1 : day≤73048) : (nextC c day = -1∧∀ i,day≤i→i < 73049→inV c i = false)∨(day≤nextC c day∧nextC c day < 73049∧inV c (nextC c day) = true∧∀ i,day≤i→i < nextC c day→inV c i = false):=by
  have:=best_ok day h0 (fun _=>false) c.ps (-1) (.inl ⟨rfl,fun _ _ _=>rfl⟩) h1
  simp only [Bool.false_or] at this
  exact this
theorem f3_p15_sp {c : Cal} (hc : calchk c = 0) {a : Int} {n : Nat} (ha : 0≤a) (hn : n≤400) (hb : a + n≤73048) {f : Bool} {K : Bool→Prop} (h : K true) :
    f3_p15 a (n : Int) ((daysL (inV c) (n + 1) a).map zc) f c.name (c.ps.map Pt.c) c.f K:=by
  unfold f3_p15 f3_p18
  have hl:=daysL_len (inV c) (n + 1) a
  refine LoopP.inv (n + 1) (fun j x=>x.1 = ((daysL (inV c) j a).length : Int)∧x.2 = a + (j : Int)) 0 ⟨rfl,by simp⟩ (Nat.zero_le _) (by omega) ?_ ?_
  · rintro j ⟨at_,d⟩ _ hj ⟨h1,h2⟩ N hN
    dsimp only at h1 h2
    subst h1 h2
    unfold f3_p18b0
    dsimp only
    have hlj:=daysL_len (inV c) j a
    rw [w64_in (n:=a + (n : Int)) (by omega) (by omega),w64_in (n:=a + (j : Int) + 1) (by omega) (by omega)]
    refine bB_t (decide_eq_true (by omega)) (f11_ok ?_)
    rw [if_pos hc,if_pos (by omega)]
    refine bB_f rfl ?_
    have hsp:=daysL_split (inV c) (n + 1) a (j:=j) (by omega)
    rw [show n + 1 - j = (n - j) + 1 from by omega,daysL_c _ (a + (j : Int)) (n - j)] at hsp
    have hN2 : (if inV c (a + j) = true then N (((daysL (inV c) j a).length : Int) + 1,a + (j : Int) + 1) else N (((daysL (inV c) j a).length : Int),a + (j : Int) + 1)):=by
      have e : a + ((j + 1 : Nat) : Int) = a + (j : Int) + 1:=by omega
      split
      · rename_i hq
        refine hN _ ⟨?_,e.symm⟩
        rw [daysL_s,if_pos hq]; simp
      · rename_i hq
        refine hN _ ⟨?_,e.symm⟩
        rw [daysL_s,if_neg hq]; simp
    rw [List.length_map]
    rw [w64_in (n:=((daysL (inV c) j a).length : Int) + 1) (by omega) (by omega)]
    generalize hL : daysL (inV c) j a = L at hsp hN2 hlj ⊢
    generalize daysL (inV c) (n + 1) a = W at hsp hl ⊢
    cases hq : inV c (a + j) with
    | true =>
      rw [hq] at hN2 hsp
      rw [if_pos rfl] at hN2 hsp
      have hLW : L.length < W.length:=by rw [hsp]; simp
      have hg : W[L.length] = a + (j : Int):=by
        have : W[L.length]? = some (a + (j : Int)):=by rw [hsp]; simp
        exact (List.getElem?_eq_some_iff.1 this).2
      refine bB_t (decide_eq_true (by omega)) ⟨by omega,?_⟩
      rw [toNat_c,getD_map _ _ _ hLW,hg]
      simp only [zc,ext_0,ext_s,ext_z,cS_c,cI_c,cB_c,cL_c,cO_c,oS_c,oI_c,oB_c,oL_c,nilC_c,toNat_c]
      rw [BEq.rfl]
      exact bB_f rfl (bB_t rfl hN2)
    | false =>
      rw [hq] at hN2 hsp
      rw [if_neg (by simp)] at hN2 hsp
      rw [List.nil_append] at hsp
      refine bB_d (fun hlt=>⟨by omega,?_⟩) fun _=>bB_f rfl (bB_f rfl hN2)
      have hLW : L.length < W.length:=by omega
      rw [toNat_c,getD_map _ _ _ hLW]
      have hg : a + (j : Int) + 1≤W[L.length]:=by
        have hm : W[L.length]∈daysL (inV c) (n - j) (a + (j : Int) + 1):=by
          have hx : W[L.length]? = (daysL (inV c) (n - j) (a + (j : Int) + 1))[0]?:=by rw [hsp,List.getElem?_append_right (Nat.le_refl _),Nat.sub_self]
          rw [List.getElem?_eq_getElem hLW] at hx
          exact List.mem_of_getElem? hx.symm
        exact (daysL_mem.1 hm).1
      generalize W[L.length] = y at hg ⊢
      simp only [zc,ext_0,ext_s,ext_z,cS_c,cI_c,cB_c,cL_c,cO_c,oS_c,oI_c,oB_c,oL_c,nilC_c,toNat_c]
      have hne : (y == a + (j : Int)) = false:=by rw [beqD]; exact decide_eq_false (by omega)
      rw [hne]
      exact bB_f rfl (bB_f rfl hN2)
  · rintro ⟨at_,d⟩ ⟨h1,h2⟩ N
    dsimp only at h1 h2
    subst h1 h2
    unfold f3_p18b0
    dsimp only
    rw [w64_in (n:=a + (n : Int)) (by omega) (by omega)]
    refine bB_f (decide_eq_false (by omega)) (f8_ok (bB_t rfl ?_))
    rw [List.length_map,BEq.rfl]
    exact h
theorem f3_p7_sp {c : Cal} (hc : calchk c = 0) {a : Int} {n : Nat} (ha : 0≤a) (hn : n≤400) (hb : a + n≤73048) {K : Bool→Prop} (h : K true) : f3_p7 a (n : Int) c.name (c.ps.map Pt.c) c.f K:=by
  unfold f3_p7
  rw [w64_in (n:=a + (n : Int)) (by omega) (by omega)]
  refine f9_ok ?_
  rw [if_pos hc,if_pos (by omega),show span a (a + n) = n + 1 from by unfold span; omega]
  have hp:=f3_p15_sp (f:=false) hc ha hn hb h
  have hm : ∀ x,x∈daysL (inV c) (n + 1) a↔(a≤x∧x < a + ((n + 1 : Nat) : Int)∧inV c x = true):=fun x=>daysL_mem
  have hsplit : ∀ j,j≤n + 1→_:=fun j hj=>daysL_split (inV c) (n + 1) a (j:=j) hj
  have hnx:=nextC_ok c (day:=a) ha (by omega)
  refine f10_ok ?_
  rw [if_pos hc,if_pos (by omega)]
  rcases hnx with ⟨a1,a2⟩ | ⟨a1,a2,a3,a4⟩
  · have hnil : daysL (inV c) (n + 1) a = []:=List.eq_nil_iff_forall_not_mem.2 fun x hx=>by
      obtain ⟨q1,q2,q3⟩:=(hm x).1 hx
      rw [a2 x q1 (by omega)] at q3; cases q3
    rw [if_pos (by omega)]
    rw [hnil] at hp ⊢
    exact bB_f rfl (bB_t rfl (bB_f rfl (bB_t rfl (bB_f (by decide) (bB_f rfl (bB_f rfl hp))))))
  · rw [if_neg (by omega)]
    by_cases hle : nextC c a≤a + n
    · obtain ⟨r,hr⟩ : ∃ r,daysL (inV c) (n + 1) a = nextC c a :: r:=by
        have h1:=hsplit (nextC c a - a).toNat (by omega)
        have h2 : daysL (inV c) (nextC c a - a).toNat a = []:=List.eq_nil_iff_forall_not_mem.2 fun x hx=>by
          obtain ⟨q1,q2,q3⟩:=daysL_mem.1 hx
          rw [a4 x q1 (by omega)] at q3; cases q3
        rw [h2,List.nil_append,show n + 1 - (nextC c a - a).toNat = (n - (nextC c a - a).toNat) + 1 from by omega,show a + ((nextC c a - a).toNat : Int) = nextC c a from by omega,daysL_c _ (nextC c a) (n - (nextC c a - a).toNat),if_pos a3] at h1
        exact ⟨_,h1⟩
      rw [hr] at hp ⊢
      refine bB_f rfl (bB_f rfl (bB_f rfl (bB_t rfl (bB_t (decide_eq_true hle) (bB_f (by simp; omega) ⟨by simp,?_⟩)))))
      rw [List.map_cons]
      simp only [zc,List.getD_cons_zero,ext_0,ext_s,ext_z,cS_c,cI_c,cB_c,cL_c,cO_c,oS_c,oI_c,oB_c,oL_c,nilC_c,toNat_c]
      refine bB_f (by simp) (bB_t rfl (bB_f (decide_eq_false (by omega)) ?_))
      exact hp
    · have hnil : daysL (inV c) (n + 1) a = []:=List.eq_nil_iff_forall_not_mem.2 fun x hx=>by
        obtain ⟨q1,q2,q3⟩:=(hm x).1 hx
        rw [a4 x q1 (by omega)] at q3; cases q3
      rw [hnil] at hp ⊢
      exact bB_f rfl (bB_f rfl (bB_f rfl (bB_t rfl (bB_f (decide_eq_false hle) (bB_t rfl (bB_t (decide_eq_true (by omega)) (bB_f (by decide) hp)))))))
theorem f3_ok {c : Cal} {a b : Int} {K : Bool→Prop} (h : K true) : f3 c.name (c.ps.map Pt.c) c.f a b K:=by
  refine ⟨?_⟩
  unfold f3_d
  refine bB_d (fun _=>f8_ok h) fun _=>bB_d (fun _=>f8_ok h) fun q1=>bB_d (fun _=>f8_ok h) fun q2=>f6_ok (bB_not (bB_d (fun q3=>?_) fun _=>f8_ok h))
  rw [w64_in (n:=a + b) (by omega) (by omega)]
  refine f6_ok (bB_not (bB_d (fun q4=>?_) fun _=>f8_ok h))
  refine f7_ok c (bB_n (fun _=>f8_ok h) fun hc=>?_)
  obtain ⟨n,rfl⟩ : ∃ n : Nat,b = (n : Int):=⟨b.toNat,by omega⟩
  exact f3_p7_sp hc q3.1 (by omega) (by omega) h
end Go.Eng.N
