/- Exceptions: at which minutes of a day something changes. -/
import Derived.Test.YtcklpjecelnamaaDoorXL
import Derived.Test.YtcklpjecelnamaaDoorFn2
set_option linter.unusedVariables false
set_option linter.unusedSimpArgs false
namespace Go.Eng.N
open Go Go.Eng
def dd (l : List Int) : Nat→List Int
  | 0=>[]
  | m + 1=>dd l m ++ (if m = 0∨l.getD m 0≠l.getD (m - 1) 0 then [l.getD m 0] else [])
theorem dd_s (l : List Int) (m : Nat) : dd l (m + 1) = dd l m ++ (if m = 0∨l.getD m 0≠l.getD (m - 1) 0 then [l.getD m 0] else []):=rfl
theorem dd_len (l : List Int) : ∀ m,(dd l m).length≤m
  | 0=>Nat.le_refl _
  | m + 1=>by
    rw [dd_s,List.length_append]
    have:=dd_len l m
    split <;> simp <;> omega
theorem dd_ok {l : List Int} (hs : l.Pairwise (·≤·)) : ∀ m,m≤l.length→(dd l m).Pairwise (· < ·)∧(∀ x∈dd l m,x∈l.take m)∧(∀ x∈l.take m,x∈dd l m)
  | 0,_=>⟨List.Pairwise.nil,(fun x hx=>by cases hx),fun x hx=>by simp at hx⟩
  | m + 1,hm=>by
    obtain ⟨h1,h2,h3⟩:=dd_ok hs m (by omega)
    have hlt : m < l.length:=by omega
    have hg : l.getD m 0 = l[m]:=getD_in _ _ hlt
    have ht : l.take (m + 1) = l.take m ++ [l[m]]:=List.take_succ_eq_append_getElem hlt
    rw [dd_s,hg,ht]
    by_cases hq : m = 0∨l[m]≠l.getD (m - 1) 0
    · rw [if_pos hq]
      refine ⟨List.pairwise_append.2 ⟨h1,List.pairwise_singleton _ _,fun x hx y hy=>?_⟩,fun x hx=>?_,fun x hx=>?_⟩
      · obtain rfl : y = l[m]:=by simpa using hy
        have hx':=h2 x hx
        obtain ⟨k,hk,rfl⟩:=List.getElem_of_mem hx'
        have hk2 : k < m:=by simp at hk; omega
        rw [List.getElem_take]
        have hm0 : m≠0:=by omega
        have hne:=hq.resolve_left hm0
        rw [getD_in _ _ (by omega : m - 1 < l.length)] at hne
        have a1 : l[m - 1]'(by omega)≤l[m]:=List.pairwise_iff_getElem.1 hs (m - 1) m (by omega) hlt (by omega)
        have a2 : l[k]'(by omega)≤l[m - 1]'(by omega):=by
          rcases Nat.lt_or_eq_of_le (by omega : k≤m - 1) with h | h
          · exact List.pairwise_iff_getElem.1 hs k (m - 1) (by omega) (by omega) h
          · subst h; exact Int.le_refl _
        omega
      · rcases List.mem_append.1 hx with h | h
        · exact List.mem_append.2 (.inl (h2 x h))
        · exact List.mem_append.2 (.inr h)
      · rcases List.mem_append.1 hx with h | h
        · exact List.mem_append.2 (.inl (h3 x h))
        · exact List.mem_append.2 (.inr h)
    · rw [if_neg hq,List.append_nil]
      have hm0 : m≠0:=fun z=>hq (.inl z)
      have he : l[m] = l.getD (m - 1) 0:=Classical.not_not.1 fun z=>hq (.inr z)
      rw [getD_in _ _ (by omega : m - 1 < l.length)] at he
      refine ⟨h1,fun x hx=>List.mem_append.2 (.inl (h2 x hx)),fun x hx=>?_⟩
      rcases List.mem_append.1 hx with h | h
      · exact h3 x h
      · obtain rfl : x = l[m]:=by simpa using h
        rw [he]
        exact h3 _ (List.mem_take_iff_getElem.2 ⟨m - 1,by omega,rfl⟩)
theorem inc_uniq : ∀ {a b : List Int},a.Pairwise (· < ·)→b.Pairwise (· < ·)→(∀ x,x∈a↔x∈b)→a = b
  | [],[],_,_,_=>rfl
  | [],y :: b,_,_,h=>by have:=(h y).2 (by simp); cases this
  | x :: a,[],_,_,h=>by have:=(h x).1 (by simp); cases this
  | x :: a,y :: b,ha,hb,h=>by
    rw [List.pairwise_cons] at ha hb
    have hxy : x = y:=by
      have h1:=(h x).1 (by simp)
      have h2:=(h y).2 (by simp)
      rcases List.mem_cons.1 h1 with e | h1
      · exact e
      · rcases List.mem_cons.1 h2 with e | h2
        · exact e.symm
        · have a1:=hb.1 x h1
          have a2:=ha.1 y h2
          omega
    subst hxy
    rw [inc_uniq ha.2 hb.2 fun z=>?_]
    constructor
    · intro hz
      have:=(h z).1 (by simp [hz])
      rcases List.mem_cons.1 this with e | h1
      · have:=ha.1 z hz; omega
      · exact h1
    · intro hz
      have:=(h z).2 (by simp [hz])
      rcases List.mem_cons.1 this with e | h1
      · have:=hb.1 z hz; omega
      · exact h1
theorem f26_ok {l : List Int} {i n : Nat} {es : List (List PC)} (hl : l.length < 2 ^ 40) (hs : SlR i n es (l.map zc)) {K : Nat→Nat→List (List PC)→Prop}
    (h : ∀ i' n' es',SlP i' n' es' ((dd l l.length).map zc)→K i' n' es') : f26 i n es K:=by
  refine ⟨?_⟩
  unfold f26_d
  have hn:=hs.n
  rw [List.length_map] at hn
  have hlen:=hs.len
  have nodup : ∀ m,m≤l.length→(∀ k,1≤k→k < m→l.getD k 0≠l.getD (k - 1) 0)→dd l m = l.take m:=fun m=>by
    induction m with
    | zero=>intro _ _; simp [dd]
    | succ m ih =>
      intro hm hk
      rw [dd_s,ih (by omega) fun k h1 h2=>hk k h1 (by omega),List.take_succ_eq_append_getElem (by omega)]
      rw [if_pos]
      · rw [getD_in _ _ (by omega)]
      · by_cases hm0 : m = 0
        · exact .inl hm0
        · exact .inr (hk m (by omega) (by omega))
  refine bB_d (fun q=>h _ _ _ ?_) fun q=>?_
  · rw [nodup l.length (Nat.le_refl _) fun k h1 h2=>by omega,List.take_length]
    exact hs.p
  have cell : ∀ (L : List Int) (es : List (List PC)),SlR i n es (L.map zc)→∀ k,k < L.length→List.getD es (i + k) [] = zc (L.getD k 0):=fun L es hs k hk=>by
    rw [hs.at (by simpa using hk),List.getElem_map,getD_in _ _ hk]
  unfold f26_p8
  refine LoopP.inv n (fun j x=>x = (j : Int)∧∀ k,1≤k→k < j→l.getD k 0≠l.getD (k - 1) 0) 1 ⟨rfl,fun k h1 h2=>by omega⟩ (by omega) (by omega) ?_ ?_
  · rintro j x h1 hj ⟨rfl,hk⟩ N hN
    unfold f26_p8b0
    have e1 : w64 ((j : Int) - 1) = ((j - 1 : Nat) : Int):=by rw [w64_in (by omega) (by omega)]; omega
    rw [e1,w64_s j (by omega),toNat_c,toNat_c,cell l es hs j (by omega),cell l es hs (j - 1) (by omega)]
    simp only [zc,ext_0,ext_s,ext_z,cS_c,cI_c,cB_c,cL_c,cO_c,oS_c,oI_c,oB_c,oL_c,nilC_c,toNat_c]
    refine bB_t (decide_eq_true (by omega)) ⟨by omega,⟨by omega,?_⟩⟩
    refine bB_e (fun q2=>⟨by omega,?_⟩) fun q2=>hN _ ⟨rfl,fun k h3 h4=>?_⟩
    rotate_left
    · by_cases hkj : k = j
      · subst hkj; exact q2
      · exact hk k h3 (by omega)
    unfold f26_p18
    have hd0 : dd l (j + 1) = l.take j:=by
      rw [dd_s,nodup j (by omega) hk,if_neg,List.append_nil]
      rintro (z | z)
      · omega
      · exact z q2
    have fin : ∀ (D : List Int) (es : List (List PC)) (L : List Int),D = dd l l.length→L.length = l.length→L.take D.length = D→SlR i n es (L.map zc)→D.length≤n →
        (0≤((D.length : Nat) : Int)∧((D.length : Nat) : Int)≤((n : Nat) : Int)∧((n : Nat) : Int)≤((n : Nat) : Int))∧((i + D.length) + (n - D.length))≤es.length∧(0≤(0 : Int)∧(0 : Int)≤((D.length : Nat) : Int)∧((D.length : Nat) : Int)≤((n : Nat) : Int)) ∧
          K (i + 0) (D.length - 0) (splice es (i + D.length) (List.replicate (n - D.length) [pI 0])):=fun D es L hD hL hT hs hDn=>by
      have hlen2:=hs.len
      refine ⟨by omega,by omega,by omega,h _ _ _ ⟨?_,?_⟩⟩
      · rw [splice_len _ _ _ (by simp; omega)]; omega
      · unfold splice
        rw [Nat.add_zero,Nat.sub_zero,List.drop_append_of_le_length (by simp; omega),List.take_append_of_le_length (by simp; omega)]
        rw [List.drop_take,show i + D.length - i = D.length by omega,List.take_take,Nat.min_self,hs.drop,← List.map_take,hT,hD]
    refine LoopP.inv (n - j) (fun t x=>x.2.1 = (t : Int)∧x.1 = (((dd l (j + t)).length : Nat) : Int)∧∃ L : List Int,L.length = l.length∧SlR i n x.2.2 (L.map zc)∧L.take (dd l (j + t)).length = dd l (j + t)∧(dd l (j + t)).length≤j + t - 1∧∀ k,j + t - 1≤k→L.getD k 0 = l.getD k 0) 1
      ⟨rfl,by rw [hd0]; simp; omega,l,rfl,hs,by rw [hd0]; simp,by rw [hd0]; simp; omega,fun _ _=>rfl⟩ (by omega) (by omega) ?_ ?_
    · rintro t ⟨w,x,es⟩ h1t ht ⟨hx,hw,L,hL,hsL,hT,hle,hrest⟩ N2 hN2
      dsimp only at hx hw hsL
      subst hx hw
      unfold f26_p18b0
      dsimp only
      have e2 : w64 ((t : Int) - 1) = ((t - 1 : Nat) : Int):=by rw [w64_in (by omega) (by omega)]; omega
      rw [e2,w64_s t (by omega),w64_s _ (by omega)]
      simp only [toNat_c]
      have c1:=cell L es hsL (j + t) (by omega)
      have c2:=cell L es hsL (j + t - 1) (by omega)
      have c3:=cell L es hsL (dd l (j + t)).length (by omega)
      have hlen2:=hsL.len
      rw [show i + j + t = i + (j + t) by omega,show i + j + (t - 1) = i + (j + t - 1) by omega,c1,c2,hrest _ (by omega),hrest _ (by omega)]
      simp only [zc,ext_0,ext_s,ext_z,cS_c,cI_c,cB_c,cL_c,cO_c,oS_c,oI_c,oB_c,oL_c,nilC_c,toNat_c]
      have e3 : dd l (j + t + 1) = dd l (j + t) ++ (if l.getD (j + t) 0≠l.getD (j + t - 1) 0 then [l.getD (j + t) 0] else []):=by
        rw [dd_s]; congr 1
        by_cases hz : l.getD (j + t) 0≠l.getD (j + t - 1) 0
        · rw [if_pos (.inr hz),if_pos hz]
        · rw [if_neg (by rintro (z | z); omega; exact hz z),if_neg hz]
      refine bB_t (decide_eq_true (by omega)) ⟨by omega,⟨by omega,?_⟩⟩
      refine bB_n (fun z=>⟨by omega,⟨by omega,by omega,?_⟩⟩) fun z=>hN2 _ ⟨rfl,?_,L,hL,hsL,?_,?_,?_⟩
      · rw [c3]
        have e4 : dd l (j + t + 1) = dd l (j + t) ++ [l.getD (j + t) 0]:=by rw [e3,if_pos z]
        refine hN2 _ ⟨rfl,?_,L.set (dd l (j + t)).length (l.getD (j + t) 0),by simpa using hL,?_,?_,?_,?_⟩
        · rw [show j + (t + 1) = j + t + 1 by omega,e4]; simp
        · have:=hsL.set (dd l (j + t)).length (zc (l.getD (j + t) 0))
          rw [List.map_set]
          exact this
        · rw [show j + (t + 1) = j + t + 1 by omega,e4,List.length_append,List.length_singleton]
          rw [List.take_succ_eq_append_getElem (by simp; omega),List.take_set_of_le (Nat.le_refl _),hT]
          simp
        · rw [show j + (t + 1) = j + t + 1 by omega,e4,List.length_append,List.length_singleton]; omega
        · intro k hk3
          rw [List.getD_eq_getElem?_getD,List.getElem?_set_ne (by omega),← List.getD_eq_getElem?_getD]
          exact hrest k (by omega)
      · rw [show j + (t + 1) = j + t + 1 by omega,e3,if_neg (fun y=>y z),List.append_nil]
      · rw [show j + (t + 1) = j + t + 1 by omega,e3,if_neg (fun y=>y z),List.append_nil]; exact hT
      · rw [show j + (t + 1) = j + t + 1 by omega,e3,if_neg (fun y=>y z),List.append_nil]; omega
      · intro k hk3; exact hrest k (by omega)
    · rintro ⟨w,x,es⟩ ⟨hx,hw,L,hL,hsL,hT,hle,hrest⟩ N2
      dsimp only at hx hw hsL
      subst hx hw
      unfold f26_p18b0
      dsimp only
      rw [show j + (n - j) = l.length by omega] at hT hle ⊢
      exact bB_f (decide_eq_false (by omega)) (fin _ es L rfl hL hT hsL (by omega))
  · rintro x ⟨rfl,hk⟩ N
    unfold f26_p8b0
    refine bB_f (decide_eq_false (by omega)) (h _ _ _ ?_)
    rw [nodup l.length (Nat.le_refl _) fun k h1 h2=>hk k h1 (by omega),List.take_length]
    exact hs.p
end Go.Eng.N
