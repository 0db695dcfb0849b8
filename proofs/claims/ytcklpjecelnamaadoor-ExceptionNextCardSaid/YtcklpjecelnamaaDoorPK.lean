/- THE PURE KIT: what is needed to say what functions compute, beside the engine's words. -/
import Derived.Test.YtcklpjecelnamaaDoorEng2
import Derived.IntWalk
set_option linter.unusedVariables false
set_option linter.unusedSimpArgs false
namespace Go.Eng
theorem bB_of {b : Bool} {A B : Prop} (h1 : b = true→A) (h2 : b = false→B) : bB b A B:=by
  cases b
  · exact h2 rfl
  · exact h1 rfl
theorem bB_t {b : Bool} {A B : Prop} (h : b = true) (a : A) : bB b A B:=by subst h; exact a
theorem bB_f {b : Bool} {A B : Prop} (h : b = false) (a : B) : bB b A B:=by subst h; exact a
theorem cI_c (k : IntKind) (n : Int) (l : List PC) (K : Int→List PC→Prop) : cI k (.c (.int k n) :: l) K = K n l:=by simp [cI,unconsC,asIntC]
theorem cS_c (s : ByteArray) (l : List PC) (K : ByteArray→List PC→Prop) : cS (.c (.string s) :: l) K = K s l:=by simp [cS,unconsC,asStrC]
theorem cB_c (b : Bool) (l : List PC) (K : Bool→List PC→Prop) : cB (.c (.bool b) :: l) K = K b l:=by simp [cB,unconsC,asBoolC]
theorem cL_c (z : Nat) (es : List (List PC)) (full : Bool) (l : List PC) (K : List (List PC)→Bool→List PC→Prop) : cL z (.sl z es full :: l) K = K es full l:=by simp [cL,unconsC,asSlC]
theorem cO_c (x : PC) (l : List PC) (K : PC→List PC→Prop) : cO (x :: l) K = K x l:=by simp [cO,unconsC]
theorem oI_c (k : IntKind) (n : Int) (K : Int→Prop) : oI k [.c (.int k n)] K = K n:=by simp [oI,unconsC,nilC,asIntC]
theorem oS_c (s : ByteArray) (K : ByteArray→Prop) : oS [.c (.string s)] K = K s:=by simp [oS,unconsC,nilC,asStrC]
theorem oB_c (b : Bool) (K : Bool→Prop) : oB [.c (.bool b)] K = K b:=by simp [oB,unconsC,nilC,asBoolC]
theorem oL_c (z : Nat) (es : List (List PC)) (full : Bool) (K : List (List PC)→Bool→Prop) : oL z [.sl z es full] K = K es full:=by simp [oL,unconsC,nilC,asSlC]
theorem nilC_c (K : Prop) : nilC [] K = K:=by simp [nilC]
theorem ext_0 {α : Type} (x : α) (l : List α) (n : Nat) : ext (x :: l) 0 (n + 1) = x :: ext l 0 n:=by simp [ext]
theorem ext_s {α : Type} (x : α) (l : List α) (o n : Nat) : ext (x :: l) (o + 1) n = ext l o n:=by simp [ext]
theorem ext_z {α : Type} (l : List α) (o : Nat) : ext l o 0 = []:=by simp [ext]
theorem w64_in {n : Int} (h1 : -9223372036854775808≤n) (h2 : n≤9223372036854775807) : w64 n = n:=IntWalk.i64_in n ⟨h1,h2⟩
theorem w64_s (j : Nat) (h : j < 9223372036854775807) : w64 ((j : Int) + 1) = ((j + 1 : Nat) : Int):=by rw [w64_in (by omega) (by omega)]; rfl
theorem toNat_c (j : Nat) : Int.toNat (j : Int) = j:=rfl
theorem getD_map {α β : Type} (f : α→β) (l : List α) (d : β) {j : Nat} (h : j < l.length) : List.getD (l.map f) j d = f l[j]:=by
  simp [List.getD_eq_getElem?_getD,h]
theorem getD_in {α : Type} (l : List α) (d : α) {j : Nat} (h : j < l.length) : List.getD l j d = l[j]:=by
  simp [List.getD_eq_getElem?_getD,h]
theorem rngM {α β : Type} (f : α→β) (l : List α) {j : Nat} (h : j < l.length) : 0≤(j : Int)∧(j : Int) < (((l.map f).length : Nat) : Int):=by
  rw [List.length_map]; omega
theorem ltM {α β : Type} (f : α→β) (l : List α) {j : Nat} (h : j < l.length) : decide ((j : Int) < (((l.map f).length : Nat) : Int)) = true:=decide_eq_true (rngM f l h).2
theorem stopM {α β : Type} (f : α→β) (l : List α) : decide (((l.length : Nat) : Int) < (((l.map f).length : Nat) : Int)) = false:=by
  rw [List.length_map]; exact decide_eq_false (Int.lt_irrefl _)
theorem ltL {j n : Nat} (h : j < n) : decide ((j : Int) < (n : Int)) = true:=decide_eq_true (by omega)
theorem stopL (n : Nat) : decide ((n : Int) < (n : Int)) = false:=decide_eq_false (Int.lt_irrefl _)
theorem dec_and (p q : Prop) [Decidable p] [Decidable q] : (decide p && decide q) = decide (p∧q):=by
  by_cases hp : p <;> by_cases hq : q <;> simp [hp,hq]
theorem beqD {α : Type} [BEq α] [LawfulBEq α] [DecidableEq α] (a b : α) : (a == b) = decide (a = b):=by
  by_cases h : a = b
  · subst h; simp
  · simp [h]
structure SlR (i n : Nat) (es l : List (List PC)) : Prop where
  len : i + n = es.length
  drop : es.drop i = l
theorem SlR.n {i n : Nat} {es l : List (List PC)} (h : SlR i n es l) : n = l.length:=by
  rw [← h.drop,List.length_drop]; have:=h.len; omega
theorem SlR.take {i n : Nat} {es l : List (List PC)} (h : SlR i n es l) : List.take n (List.drop i es) = l:=by
  rw [h.drop,h.n,List.take_length]
theorem SlR.push {i n : Nat} {es l : List (List PC)} (h : SlR i n es l) (x : List PC) : SlR 0 (n + 1) (List.take n (List.drop i es) ++ [x]) (l ++ [x]) :=
  ⟨by rw [h.take,List.length_append,← h.n]; simp,by rw [h.take,List.drop_zero]⟩
theorem SlR.nil : SlR 0 0 [] []:=⟨rfl,rfl⟩
theorem SlR.all (es : List (List PC)) : SlR 0 es.length es es:=⟨by simp,rfl⟩
theorem SlR.at {i n : Nat} {es l : List (List PC)} (h : SlR i n es l) {j : Nat} (hj : j < l.length) : List.getD es (i + j) [] = l[j]:=by
  have h1:=h.len
  have h2:=h.n
  have hj2 : i + j < es.length:=by omega
  rw [getD_in _ _ hj2]
  have e : l[j]? = (es.drop i)[j]?:=by rw [h.drop]
  rw [List.getElem?_eq_getElem hj,List.getElem?_drop,List.getElem?_eq_getElem hj2] at e
  exact (Option.some.inj e).symm
theorem SlR.set {i n : Nat} {es l : List (List PC)} (h : SlR i n es l) (j : Nat) (y : List PC) : SlR i n (List.set es (i + j) y) (l.set j y) :=
  ⟨by rw [List.length_set]; exact h.len,by rw [← h.drop,← List.set_drop]⟩
theorem SlR.last {i n : Nat} {es l : List (List PC)} {x : List PC} (h : SlR i n es (l ++ [x])) (y : List PC) : SlR i n (List.set es (i + (n - 1)) y) (l ++ [y]):=by
  have h1:=h.n
  rw [List.length_append,List.length_singleton] at h1
  have h2:=h.set (n - 1) y
  rw [show n - 1 = l.length by omega,List.set_append_right _ _ (Nat.le_refl _),Nat.sub_self] at h2
  rw [show n - 1 = l.length by omega]
  exact h2
structure SlP (i n : Nat) (es l : List (List PC)) : Prop where
  len : i + n≤es.length
  take : List.take n (List.drop i es) = l
theorem SlP.n {i n : Nat} {es l : List (List PC)} (h : SlP i n es l) : n = l.length:=by
  rw [← h.take,List.length_take,List.length_drop]; have:=h.len; omega
theorem SlP.at {i n : Nat} {es l : List (List PC)} (h : SlP i n es l) {j : Nat} (hj : j < l.length) : List.getD es (i + j) [] = l[j]:=by
  have h1:=h.len
  have h2:=h.n
  have hj2 : i + j < es.length:=by omega
  rw [getD_in _ _ hj2]
  have e : l[j]? = (List.take n (List.drop i es))[j]?:=by rw [h.take]
  rw [List.getElem?_eq_getElem hj,List.getElem?_take,if_pos (by omega),List.getElem?_drop,List.getElem?_eq_getElem hj2] at e
  exact (Option.some.inj e).symm
theorem SlR.p {i n : Nat} {es l : List (List PC)} (h : SlR i n es l) : SlP i n es l:=⟨Nat.le_of_eq h.len,h.take⟩
theorem shrI (n d : Nat) (h : d≤64) : Int.fdiv (n : Int) (2 ^ (min (Int.toNat (d : Int)) 64)) = ((n / 2 ^ d : Nat) : Int):=by
  rw [toNat_c,Nat.min_eq_left h,Int.fdiv_eq_ediv_of_nonneg _ (Int.pow_nonneg (by decide))]
  push_cast
  rfl
def lst (s : ByteArray) : List UInt8:=s.data.toList
theorem size_lst (s : ByteArray) : s.size = (lst s).length:=rfl
theorem byteAt_in (s : ByteArray) {j : Nat} (h : j < (lst s).length) : byteAt s (j : Int) = (((lst s)[j].toNat : Nat) : Int):=by
  show (((List.getD (lst s) (Int.toNat (j : Int)) 0).toNat : Nat) : Int) = _
  rw [toNat_c,getD_in _ _ h]
theorem lst_inj {a b : ByteArray} (h : lst a = lst b) : a = b:=by
  cases a; cases b
  simp only [lst] at h
  rw [Array.toList_inj.1 h]
theorem toList_go (s : ByteArray) : ∀ (n i : Nat) (r : List UInt8),s.size - i = n→ByteArray.toList.loop s i r = r.reverse ++ (lst s).drop i:=by
  intro n
  induction n with
  | zero =>
    intro i r h
    unfold ByteArray.toList.loop
    rw [if_neg (by omega),List.drop_eq_nil_of_le (by rw [← size_lst]; omega),List.append_nil]
  | succ n ih =>
    intro i r h
    unfold ByteArray.toList.loop
    have hi : i < (lst s).length:=by rw [← size_lst]; omega
    rw [if_pos (by omega),ih (i + 1) _ (by omega),List.drop_eq_getElem_cons hi]
    have : s.get! i = (lst s)[i]:=by
      have h2 : i < s.data.size:=hi
      simp [ByteArray.get!,lst,Array.getElem!_eq_getD,Array.getD_eq_getD_getElem?,Array.getElem?_eq_getElem h2]
    simp [this]
theorem toList_eq (s : ByteArray) : s.toList = lst s:=by
  unfold ByteArray.toList
  rw [toList_go s _ 0 [] rfl]
  rfl
theorem beqL (a b : ByteArray) : (a.toList == b.toList) = decide (a = b):=by
  rw [toList_eq,toList_eq]
  by_cases h : a = b
  · subst h; simp
  · simp only [decide_eq_false h,beq_eq_false_iff_ne]
    exact fun e=>h (lst_inj e)
theorem beqB (a b : ByteArray) : (a == b) = decide (a = b):=by
  have e : (a == b) = (a.data == b.data):=by cases a; cases b; rfl
  rw [e]
  by_cases h : a = b
  · subst h; simp
  · have h2 : a.data≠b.data:=fun e=>h (by cases a; cases b; cases e; rfl)
    simp [h,h2]
instance : LawfulBEq ByteArray where
  eq_of_beq h:=by rw [beqB] at h; exact of_decide_eq_true h
  rfl {a}:=by rw [beqB]; exact decide_eq_true rfl
theorem itP_inv {X : Type} {R : X→(X→Prop)→Prop} {n k : Nat} {I : Nat→X→Prop}
    (h : ∀ j x,k≤j→j < n→I j x→∀ N : X→Prop,(∀ i y,j < i→i≤n→I i y→N y)→R x N) (hend : ∀ x,I n x→∀ N : X→Prop,R x N) :
    ∀ (f j : Nat) (x : X),k≤j→j≤n→I j x→n - j < f→itP R f x
  | 0,_,_,_,_,_,hf=>by omega
  | f + 1,j,x,hk,hj,hi,hf=>fun N hN=>by
    rcases Nat.lt_or_ge j n with h1 | h1
    · exact h j x hk h1 hi N fun i y h2 h3 h4=>hN y (itP_inv h hend f i y (by omega) h3 h4 (by omega))
    · obtain rfl : j = n:=by omega
      exact hend x hi N
theorem LoopP.inv' {X : Type} {R : X→(X→Prop)→Prop} (n : Nat) (I : Nat→X→Prop) {x0 : X} (k : Nat) (h0 : I k x0) (hk : k≤n) (hn : n < 2 ^ 59)
    (h : ∀ j x,k≤j→j < n→I j x→∀ N : X→Prop,(∀ i y,j < i→i≤n→I i y→N y)→R x N) (hend : ∀ x,I n x→∀ N : X→Prop,R x N) : LoopP R x0 :=
  ⟨itP_inv h hend rounds k x0 (Nat.le_refl k) hk h0 (by unfold rounds; omega)⟩
theorem LoopP.inv {X : Type} {R : X→(X→Prop)→Prop} (n : Nat) (I : Nat→X→Prop) {x0 : X} (k : Nat) (h0 : I k x0) (hk : k≤n) (hn : n < 2 ^ 59)
    (h : ∀ j x,k≤j→j < n→I j x→∀ N : X→Prop,(∀ y,I (j + 1) y→N y)→R x N) (hend : ∀ x,I n x→∀ N : X→Prop,R x N) : LoopP R x0 :=
  LoopP.inv' n I k h0 hk hn (fun j x a b c N hN=>h j x a b c N fun y hy=>hN (j + 1) y (by omega) (by omega) hy) hend
theorem LoopP.seq {X : Type} {R : X→(X→Prop)→Prop} (n : Nat) (st : Nat→X) {x0 : X} (h0 : st 0 = x0) (hn : n < 2 ^ 59)
    (h : ∀ j,j < n→∀ N : X→Prop,N (st (j + 1))→R (st j) N) (hend : ∀ N : X→Prop,R (st n) N) : LoopP R x0 :=
  LoopP.inv n (fun j x=>x = st j) 0 h0.symm (Nat.zero_le n) hn (fun j x _ hj hx N hN=>by subst hx; exact h j hj N (hN _ rfl)) (fun x hx N=>by subst hx; exact hend N)
theorem LoopP.find {α : Type} {R : Int→(Int→Prop)→Prop} (l : List α) (q : α→Bool) {A : Nat→Prop} {B : Prop} (hn : l.length < 2 ^ 59)
    (hA : ∀ j (hj : j < l.length),q l[j] = true→(∀ i (hi : i < j),q (l[i]'(Nat.lt_trans hi hj)) = false)→A j) (hB : (∀ x∈l,q x = false)→B)
    (step : ∀ j (hj : j < l.length) (N : Int→Prop),(q l[j] = true→A j)→(q l[j] = false→N ((j + 1 : Nat) : Int))→R (j : Int) N)
    (stop : ∀ N : Int→Prop,B→R (l.length : Int) N) : LoopP R 0:=by
  refine LoopP.inv l.length (fun j x=>x = (j : Int)∧∀ i (hi : i < j) (h : i < l.length),q l[i] = false) 0 ⟨rfl,fun i hi=>absurd hi (Nat.not_lt_zero i)⟩ (Nat.zero_le _) hn ?_ ?_
  · rintro j x _ hj ⟨rfl,hx⟩ N hN
    refine step j hj N (fun h=>hA j hj h fun i hi=>hx i hi _) fun h=>hN _ ⟨rfl,fun i hi hl=>?_⟩
    rcases Nat.lt_or_ge i j with h1 | h1
    · exact hx i h1 hl
    · obtain rfl : i = j:=by omega
      exact h
  · rintro x ⟨rfl,hx⟩ N
    refine stop N (hB fun y hy=>?_)
    obtain ⟨i,hi,rfl⟩:=List.getElem_of_mem hy
    exact hx i hi hi
theorem LoopP.findS {X α : Type} {R : X→(X→Prop)→Prop} (st : Nat→X) {x0 : X} (h0 : st 0 = x0) (l : List α) (q : α→Bool) {A : Nat→Prop} {B : Prop} (hn : l.length < 2 ^ 59)
    (hA : ∀ j (hj : j < l.length),q l[j] = true→(∀ i (hi : i < j),q (l[i]'(Nat.lt_trans hi hj)) = false)→A j) (hB : (∀ x∈l,q x = false)→B)
    (step : ∀ j (hj : j < l.length) (N : X→Prop),(q l[j] = true→A j)→(q l[j] = false→N (st (j + 1)))→R (st j) N)
    (stop : ∀ N : X→Prop,B→R (st l.length) N) : LoopP R x0:=by
  refine LoopP.inv l.length (fun j x=>x = st j∧∀ i (hi : i < j) (h : i < l.length),q l[i] = false) 0 ⟨h0.symm,fun i hi=>absurd hi (Nat.not_lt_zero i)⟩ (Nat.zero_le _) hn ?_ ?_
  · rintro j x _ hj ⟨rfl,hx⟩ N hN
    refine step j hj N (fun h=>hA j hj h fun i hi=>hx i hi _) fun h=>hN _ ⟨rfl,fun i hi hl=>?_⟩
    rcases Nat.lt_or_ge i j with h1 | h1
    · exact hx i h1 hl
    · obtain rfl : i = j:=by omega
      exact h
  · rintro x ⟨rfl,hx⟩ N
    refine stop N (hB fun y hy=>?_)
    obtain ⟨i,hi,rfl⟩:=List.getElem_of_mem hy
    exact hx i hi hi
theorem LoopP.anyS {X α : Type} {R : X→(X→Prop)→Prop} (st : Nat→X) {x0 : X} (h0 : st 0 = x0) (l : List α) (q : α→Bool) {A B : Prop} (hn : l.length < 2 ^ 59)
    (hA : l.any q = true→A) (hB : l.any q = false→B)
    (step : ∀ j (hj : j < l.length) (N : X→Prop),(q l[j] = true→A)→(q l[j] = false→N (st (j + 1)))→R (st j) N)
    (stop : ∀ N : X→Prop,B→R (st l.length) N) : LoopP R x0 :=
  LoopP.findS st h0 l q (A:=fun _=>A) hn (fun j hj h _=>hA (List.any_eq_true.2 ⟨_,List.getElem_mem hj,h⟩)) (fun h=>hB (by
    rw [Bool.eq_false_iff]
    intro hc
    obtain ⟨x,hx,hq⟩:=List.any_eq_true.1 hc
    rw [h x hx] at hq
    cases hq)) step stop
theorem LoopP.any {α : Type} {R : Int→(Int→Prop)→Prop} (l : List α) (q : α→Bool) {A B : Prop} (hn : l.length < 2 ^ 59)
    (hA : l.any q = true→A) (hB : l.any q = false→B)
    (step : ∀ j (hj : j < l.length) (N : Int→Prop),(q l[j] = true→A)→(q l[j] = false→N ((j + 1 : Nat) : Int))→R (j : Int) N)
    (stop : ∀ N : Int→Prop,B→R (l.length : Int) N) : LoopP R 0 :=
  LoopP.find l q (A:=fun _=>A) hn (fun j hj h _=>hA (List.any_eq_true.2 ⟨_,List.getElem_mem hj,h⟩)) (fun h=>hB (by
    rw [Bool.eq_false_iff]
    intro hc
    obtain ⟨x,hx,hq⟩:=List.any_eq_true.1 hc
    rw [h x hx] at hq
    cases hq)) step stop
theorem LoopP.all {α : Type} {R : Int→(Int→Prop)→Prop} (l : List α) (q : α→Bool) {A B : Prop} (hn : l.length < 2 ^ 59)
    (hA : l.all q = false→A) (hB : l.all q = true→B)
    (step : ∀ j (hj : j < l.length) (N : Int→Prop),(q l[j] = false→A)→(q l[j] = true→N ((j + 1 : Nat) : Int))→R (j : Int) N)
    (stop : ∀ N : Int→Prop,B→R (l.length : Int) N) : LoopP R 0 :=
  LoopP.any l (fun x=>!q x) hn (fun h=>hA (by
      obtain ⟨x,hx,hq⟩:=List.any_eq_true.1 h
      rw [Bool.eq_false_iff]
      intro hc
      rw [List.all_eq_true.1 hc x hx] at hq
      cases hq)) (fun h=>hB (List.all_eq_true.2 fun x hx=>by
      cases hq : q x with
      | true=>rfl
      | false=>exact absurd (List.any_eq_true (p:=fun x=>!q x) |>.2 ⟨x,hx,by simp only [hq]; rfl⟩) (by rw [h]; simp)))
    (fun j hj N h1 h2=>step j hj N (fun h=>h1 (by rw [h]; rfl)) fun h=>h2 (by rw [h]; rfl)) stop
end Go.Eng
