/- Exceptions: the reference's Check; Small. -/
import Derived.Test.YtcklpjecelnamaaDoorXH
import Derived.Test.YtcklpjecelnamaaDoorFn2
set_option linter.unusedVariables false
set_option linter.unusedSimpArgs false
namespace Go.Eng.N
open Go Go.Eng
def sumN : List Nat→Nat
  | []=>0
  | a :: r=>a + sumN r
def smB (l : List Exc) (all : List Cal) : Bool:=decide (l.length≤70∧all.length≤8∧sumN (l.map fun x=>x.es.length) + sumN (all.map fun c=>c.ps.length)≤200)
theorem sumN_mem : ∀ {l : List Nat} {a : Nat},a∈l→a≤sumN l
  | b :: r,a,h=>by
    unfold sumN
    rcases List.mem_cons.1 h with rfl | h
    · omega
    · have:=sumN_mem h; omega
theorem smB_t {l : List Exc} {all : List Cal} (h : smB l all = true) : Sm l all:=by
  obtain ⟨h1,h2,h3⟩:=of_decide_eq_true h
  refine ⟨h1,h2,fun x hx=>?_,fun c hc=>?_⟩
  · have:=sumN_mem (List.mem_map.2 ⟨x,hx,rfl⟩ : x.es.length∈l.map fun x=>x.es.length); omega
  · have:=sumN_mem (List.mem_map.2 ⟨c,hc,rfl⟩ : c.ps.length∈all.map fun c=>c.ps.length); omega
theorem sumN_take : ∀ (l : List Nat) (j : Nat) (hj : j < l.length),sumN (l.take (j + 1)) = sumN (l.take j) + l[j]
  | a :: r,0,_=>by simp [sumN]
  | a :: r,j + 1,hj=>by
    have:=sumN_take r j (by simpa using hj)
    simp only [List.take_succ_cons,sumN,List.getElem_cons_succ]
    rw [this]; omega
theorem sumN_bd {b : Nat} : ∀ (l : List Nat),(∀ a∈l,a≤b)→sumN l≤l.length * b
  | [],_=>by simp [sumN]
  | a :: r,h=>by
    have h1:=sumN_bd r fun x hx=>h x (by simp [hx])
    have h2:=h a (by simp)
    simp only [sumN,List.length_cons,Nat.add_mul]; omega
theorem f12_ok {l : List Exc} {all : List Cal} {f g : Bool} (he : ∀ x∈l,x.es.length≤2 ^ 48) (hc : ∀ c∈all,c.ps.length≤2 ^ 48) {K : Bool→Prop} (h : K (smB l all)) : f12 (l.map Exc.c) f (all.map Cal.c) g K:=by
  refine ⟨?_⟩
  unfold f12_d
  unfold smB at h
  rw [List.length_map,List.length_map]
  refine bB_d (fun q=>K_eq h (decide_eq_false (by omega))) fun q=>bB_d (fun q2=>K_eq h (decide_eq_false (by omega))) fun q2=>?_
  have hl : l.length≤70:=by omega
  have ha : all.length≤8:=by omega
  have be : ∀ j,sumN ((l.map fun x=>x.es.length).take j)≤70 * 2 ^ 48:=fun j=>by
    have:=sumN_bd (b:=2 ^ 48) ((l.map fun x=>x.es.length).take j) fun a ha=>by
      obtain ⟨x,hx,rfl⟩:=List.mem_map.1 (List.mem_of_mem_take ha)
      exact he x hx
    have h2 : ((l.map fun x=>x.es.length).take j).length≤70:=by simp; omega
    exact Nat.le_trans this (Nat.mul_le_mul_right _ h2)
  have bc : ∀ j,sumN ((all.map fun x=>x.ps.length).take j)≤8 * 2 ^ 48:=fun j=>by
    have:=sumN_bd (b:=2 ^ 48) ((all.map fun x=>x.ps.length).take j) fun a ha=>by
      obtain ⟨x,hx,rfl⟩:=List.mem_map.1 (List.mem_of_mem_take ha)
      exact hc x hx
    have h2 : ((all.map fun x=>x.ps.length).take j).length≤8:=by simp; omega
    exact Nat.le_trans this (Nat.mul_le_mul_right _ h2)
  unfold f12_p7 f12_p10
  refine LoopP.seq l.length (fun j=>(((sumN ((l.map fun x=>x.es.length).take j) : Nat) : Int),(j : Int))) (by simp [sumN]) (by omega) ?_ ?_
  · intro j hj N hN
    unfold f12_p10b0
    dsimp only
    refine bB_t (ltM _ _ hj) ⟨rngM _ _ hj,?_⟩
    rw [toNat_c,getD_map _ _ _ hj,w64_s j (by omega)]
    have hj2 : j < (l.map fun x=>x.es.length).length:=by simpa using hj
    have b1:=be j
    have b2:=be (j + 1)
    have hx:=he _ (List.getElem_mem hj)
    rw [sumN_take _ j hj2,List.getElem_map] at hN
    generalize l[j] = x at hN hx ⊢
    simp only [Exc.c,ext_0,ext_s,ext_z,cS_c,cI_c,cB_c,cL_c,cO_c,oS_c,oI_c,oB_c,oL_c,nilC_c,toNat_c]
    rw [List.length_map,w64_in (by omega) (by omega)]
    exact hN
  intro N
  unfold f12_p10b0
  dsimp only
  refine bB_f (stopM _ _) ?_
  have b1:=be l.length
  rw [List.take_of_length_le (by simp)] at b1 ⊢
  unfold f12_p18
  refine LoopP.seq all.length (fun j=>(((sumN (l.map fun x=>x.es.length) + sumN ((all.map fun x=>x.ps.length).take j) : Nat) : Int),(j : Int))) (by simp [sumN]) (by omega) ?_ ?_
  · intro j hj N hN
    unfold f12_p18b0
    dsimp only
    refine bB_t (ltM _ _ hj) ⟨rngM _ _ hj,?_⟩
    rw [toNat_c,getD_map _ _ _ hj,w64_s j (by omega)]
    have hj2 : j < (all.map fun x=>x.ps.length).length:=by simpa using hj
    have b2:=bc j
    have hx:=hc _ (List.getElem_mem hj)
    rw [sumN_take _ j hj2,List.getElem_map] at hN
    generalize all[j] = x at hN hx ⊢
    simp only [Cal.c,ext_0,ext_s,ext_z,cS_c,cI_c,cB_c,cL_c,cO_c,oS_c,oI_c,oB_c,oL_c,nilC_c,toNat_c]
    rw [List.length_map,w64_in (by omega) (by omega)]
    rw [← Nat.add_assoc] at hN
    exact hN
  · intro N
    unfold f12_p18b0
    dsimp only
    rw [List.take_of_length_le (by simp)]
    refine bB_f (stopM _ _) (K_eq h (decide_eq_decide.2 (by omega)))
def chkD (l : List Exc) (all : List Cal) (day : Int) : Int:=if chkV l all≠0 then chkV l all else if 0≤day∧day≤73048 then 0 else 1
theorem f22_ok {l : List Exc} {all : List Cal} {f g : Bool} (hs : Sm l all) {day : Int} {K : Int→Prop} (h : K (chkD l all day)) : f22 (l.map Exc.c) f (all.map Cal.c) g day K:=by
  refine ⟨?_⟩
  unfold f22_d
  unfold chkD at h
  refine f38_ok hs (bB_n (fun q=>?_) fun q=>f19_ok (bB_not (bB_d (fun q2=>?_) fun q2=>?_)))
  · rw [if_pos q] at h; exact h
  · rw [if_neg (fun z=>z q),if_pos q2] at h; exact h
  · rw [if_neg (fun z=>z q),if_neg q2] at h; exact h
end Go.Eng.N
