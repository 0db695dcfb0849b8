/- Plain facts about a step. -/
import Derived.Test.YtbecejhjdagkdaaLQ1
set_option linter.unusedVariables false
set_option linter.unusedSimpArgs false
namespace Go.Proofs.Ytbecejhjdagkdaa.PL
open Go.RowKit Go.Proofs.Ytbecejhjdagkdaa.L Go.Proofs.YtbecejhjdagkdaaW.PrintWords Go.Proofs.YtbecejhjdagkdaaW.PrintLast Go.Proofs.YtbecejhjdagkdaaW.PrintMore

theorem at_drop {l rs : List S62} {r : S62} {i : Nat} (h : l.drop i = r :: rs) : i < l.length∧rd_T62 l (i : Int) = r∧l.drop (i + 1) = rs:=by
  have hi : i < l.length:=by
    rcases Nat.lt_or_ge i l.length with h1 | h1
    · exact h1
    · rw [List.drop_eq_nil_of_le h1] at h
      cases h
  rw [List.drop_eq_getElem_cons hi] at h
  injection h with h1 h2
  refine ⟨hi,?_,h2⟩
  unfold rd_T62
  rw [Int.toNat_natCast,List.getD_eq_getElem?_getD,List.getElem?_eq_getElem hi,h1]
  rfl
theorem at_end {l : List S62} {i : Nat} (h : l.drop i = []) : l.length ≤ i:=by simpa using h
theorem rd62_mid (a b : List S62) (y : S62) (i : Int) (hi : i = a.length) : rd_T62 (a ++ y :: b) i = y:=by
  subst hi
  unfold rd_T62
  rw [Int.toNat_natCast]
  exact getD_mid z62 b y a
theorem rd_set {xs : List S62} {o i : Int} {v : S62} (ho : 0 ≤ o) (ho2 : o < xs.length) (hi : 0 ≤ i) : rd_T62 (xs.set o.toNat v) i = if i = o then v else rd_T62 xs i:=by
  unfold rd_T62
  rw [List.getD_eq_getElem?_getD,List.getD_eq_getElem?_getD,List.getElem?_set]
  by_cases c : i = o
  · subst c
    rw [if_pos rfl,if_pos (by omega),if_pos rfl]
    rfl
  · rw [if_neg (by omega),if_neg c]
/-- How many machines run. -/
def cnt (us : List S62) : Nat:=us.countP (fun u => u.f1)
def well (us : List S62) : Nat:=us.countP (fun u => !u.f2)
theorem cnt_len (us : List S62) : cnt us ≤ us.length:=List.countP_le_length
theorem count_l0 (pf : Int→Bool→Bool→Option Bool) (p : S62→Bool) (hp : ∀ u : S62,pf u.f0 u.f1 u.f2 = some (p u)) (us : List S62) (hl : us.length ≤ 1000) : ∀ (rs : List S62) (i k x : Nat),us.drop i = rs→x + rs.length ≤ 1000→rs.length < k→leadlag_count.l0 pf k x us us.length i = some ((x + rs.countP p : Nat) : Int)
  | [],i,k,x,h,hx,hk => by
    obtain ⟨k,rfl,_⟩:=kof hk
    have:=at_end h
    simp only [leadlag_count.l0]
    rw [if_neg (by omega)]
    simp
  | r :: rs,i,k,x,h,hx,hk => by
    obtain ⟨k,rfl,hk⟩:=kof hk
    obtain ⟨h1,h2,h3⟩:=at_drop h
    simp only [List.length_cons] at hx hk
    have hw : wrap64 ((i : Int) + 1) = ((i + 1 : Nat) : Int):=by rw [w64 (by omega) (by omega)];simp
    have hw2 : wrap64 ((x : Int) + 1) = ((x + 1 : Nat) : Int):=by rw [w64 (by omega) (by omega)];simp
    simp only [leadlag_count.l0]
    rw [if_pos (by omega),if_pos (by omega),if_pos (by omega),h2,hw,hw2,hp]
    simp only [Option.bind_some]
    by_cases c : p r = true
    · rw [if_pos c,count_l0 pf p hp us hl rs (i + 1) k (x + 1) h3 (by omega) (by omega),List.countP_cons_of_pos c]
      congr 2
      omega
    · rw [if_neg c,count_l0 pf p hp us hl rs (i + 1) k x h3 (by omega) (by omega),List.countP_cons_of_neg c]
theorem countOn_f {us : List S62} (hl : us.length ≤ 100) (s t : Int) {k : Nat} (hk : 200 ≤ k) : leadlag_countOn.f k us s t = some (cnt us : Int):=by
  have:=count_l0 leadlag_on.f (fun u => u.f1) (fun u => rfl) us (by omega) us 0 k 0 rfl (by omega) (by omega)
  unfold leadlag_countOn.f leadlag_count.f
  rw [show ((0 : Nat) : Int) = 0 from rfl] at this
  rw [this]
  simp [cnt]
theorem countWell_f {us : List S62} (hl : us.length ≤ 100) (s t : Int) {k : Nat} (hk : 200 ≤ k) : leadlag_countWell.f k us s t = some (well us : Int):=by
  have:=count_l0 leadlag_step_1.f (fun u => !u.f2) (fun u => rfl) us (by omega) us 0 k 0 rfl (by omega) (by omega)
  unfold leadlag_countWell.f leadlag_count.f
  rw [show ((0 : Nat) : Int) = 0 from rfl] at this
  rw [this]
  simp [well]

/-! ### What a second does to each machine -/
def upd (u : S62) (f : Bool) : S62:=⟨if u.f1 = true then mn (wrap64 (u.f0 + 1)) 6311433599 else u.f0,u.f1 && !f,f⟩
theorem step_l0 (need now R G S T : Int) (us0 : List S62) (fl : List Bool) (n : Nat) (hn : n ≤ 1000) (hfl : fl.length = n) (N : Nat) (V : Option (List S62 × Int × Int)) : ∀ (rest : List S62) (fs : List Bool) (dn : List S62) (k : Nat),
    dn.length + rest.length = n → fl.drop dn.length = fs → (∀ k', N < k' → leadlag_step.l0 k' need fl now n n R G us0 S T (dn ++ List.zipWith upd rest fs) = V) → N + 2 * rest.length < k → leadlag_step.l0 k need fl now n dn.length R G us0 S T (dn ++ rest) = V
  | [],fs,dn,k,h,hf,hV,hk => by
    have:=hV k (by simpa using hk)
    simp only [List.zipWith_nil_left,List.append_nil,List.length_nil,Nat.add_zero] at *
    rw [h]
    exact this
  | u :: rest,fs,dn,k,h,hf,hV,hk => by
    simp only [List.length_cons] at h hk
    obtain ⟨k, rfl⟩ : ∃ k', k = k' + 2 := ⟨k - 2, by omega⟩
    obtain ⟨f, fs, rfl⟩ : ∃ f fs', fs = f :: fs' := by
      cases fs with
      | nil =>
        have:=congrArg List.length hf
        simp at this
        omega
      | cons f fs => exact ⟨f,fs,rfl⟩
    have hf2 : fl.drop (dn.length + 1) = fs:=by
      have:=congrArg (List.drop 1) hf
      simpa [List.drop_drop,Nat.add_comm] using this
    have hfr : rdOf false fl (dn.length : Int) = f:=by
      unfold rdOf
      rw [Int.toNat_natCast,List.getD_eq_getElem?_getD]
      have:=congrArg (fun l => l[0]?) hf
      simp only [List.getElem?_drop,Nat.add_zero,List.getElem?_cons_zero] at this
      rw [this]
      rfl
    have hw : wrap64 ((dn.length : Int) + 1) = ((dn.length + 1 : Nat) : Int):=by rw [w64 (by omega) (by omega)];simp
    have hlen : ∀ v : S62,((dn ++ v :: rest).length : Int) = n:=fun v => by simp;omega
    have hrd : ∀ v : S62,rd_T62 (dn ++ v :: rest) (dn.length : Int) = v:=fun v => rd62_mid _ _ _ _ rfl
    have hset : ∀ v v' : S62,(dn ++ v :: rest).set ((dn.length : Nat) : Int).toNat v' = dn ++ v' :: rest:=fun v v' => by rw [Int.toNat_natCast,set_mid]
    have hj : ∀ v : S62,v.f1 = u.f1→v.f0 = (if u.f1 = true then mn (wrap64 (u.f0 + 1)) 6311433599 else u.f0)→leadlag_step.j1 (k + 1) need fl now dn.length n dn.length R G us0 S T (dn ++ v :: rest) = V:=by
      intro v hv1 hv0
      simp only [leadlag_step.j1]
      rw [if_pos (by omega),if_pos (by rw [hfl];omega),if_pos (by rw [hlen];omega),hfr,hrd,hset]
      simp only [Option.bind_some]
      rw [hrd,hset,hset,hw]
      have hu : dn ++ upd u f :: rest = (dn ++ [upd u f]) ++ rest:=by simp
      have ih:=step_l0 need now R G S T us0 fl n hn hfl N V rest fs (dn ++ [upd u f]) k (by simp;omega) (by simpa using hf2) (fun k' hk' => by
        have:=hV k' hk'
        simpa using this) (by omega)
      rw [show ((dn ++ [upd u f]).length : Int) = ((dn.length + 1 : Nat) : Int) by simp,← hu] at ih
      by_cases c : v.f1 = true
      · rw [if_pos c]
        have hc : u.f1 = true:=hv1 ▸ c
        rw [show (⟨v.f0,!f,f⟩ : S62) = upd u f by unfold upd;rw [hv0,hc];simp]
        exact ih
      · rw [if_neg c]
        have hc : u.f1 = false:=by rw [← hv1];simpa using c
        rw [show (⟨v.f0,false,f⟩ : S62) = upd u f by unfold upd;rw [hv0,hc];simp]
        exact ih
    simp only [leadlag_step.l0]
    rw [if_pos (by omega),if_pos (by omega),if_pos (by rw [hlen];omega),hrd,hset]
    by_cases c : u.f1 = true
    · rw [if_pos c]
      exact hj _ rfl (by rw [if_pos c])
    · rw [if_neg c]
      exact hj _ rfl (by rw [if_neg c])
/-- At a rotation: the first ones of the order run. -/
def rot (t : Int) : Int→List Int→List S62→List S62
  | _,[],xs => xs
  | i,o :: os,xs => rot t (i + 1) os (xs.set o.toNat ⟨(rd_T62 xs o).f0,decide (i < t),(rd_T62 xs o).f2⟩)
theorem rot_len (t : Int) : ∀ (os : List Int) (i : Int) (xs : List S62),(rot t i os xs).length = xs.length
  | [],_,_ => rfl
  | o :: os,i,xs => by
    unfold rot
    rw [rot_len t os]
    simp
theorem at_dropI {l rs : List Int} {r : Int} {i : Nat} (h : l.drop i = r :: rs) : i < l.length∧rd l (i : Int) = r∧l.drop (i + 1) = rs:=by
  have hi : i < l.length:=by
    rcases Nat.lt_or_ge i l.length with h1 | h1
    · exact h1
    · rw [List.drop_eq_nil_of_le h1] at h
      cases h
  rw [List.drop_eq_getElem_cons hi] at h
  injection h with h1 h2
  refine ⟨hi,?_,h2⟩
  unfold rd
  rw [Int.toNat_natCast,List.getD_eq_getElem?_getD,List.getElem?_eq_getElem hi,h1]
  rfl
theorem step_l1 (now n t R G S T : Int) (us0 : List S62) (O : List Int) (hO : O.length ≤ 1000) (N : Nat) (V : Option (List S62 × Int × Int)) : ∀ (os : List Int) (i k : Nat) (xs : List S62),O.drop i = os→(∀ o ∈ os,0 ≤ o∧o < xs.length) →
    (∀ k', N < k' → leadlag_step.j4 k' now n O R G us0 S now (rot t i os xs) = V) → N + os.length + 1 < k → leadlag_step.l1 k now n O t O O.length i R G us0 S T xs = V
  | [],i,k,xs,h,ho,hV,hk => by
    obtain ⟨k,rfl,hk⟩:=kof hk
    have hi : O.length ≤ i:=by simpa using h
    simp only [leadlag_step.l1]
    rw [if_neg (by omega)]
    exact hV k (by simp at hk;omega)
  | o :: os,i,k,xs,h,ho,hV,hk => by
    obtain ⟨k,rfl,hk⟩:=kof hk
    obtain ⟨h1,h2,h3⟩:=at_dropI h
    simp only [List.length_cons] at hk
    have hw : wrap64 ((i : Int) + 1) = ((i + 1 : Nat) : Int):=by rw [w64 (by omega) (by omega)];simp
    obtain ⟨o1,o2⟩:=ho o List.mem_cons_self
    simp only [leadlag_step.l1]
    rw [if_pos (by omega),if_pos (by omega),if_pos (by omega),h2,if_pos o1,if_pos o2,hw]
    refine step_l1 now n t R G S T us0 O hO N V os (i + 1) k _ h3 (fun q hq => ?_) (fun k' hk' => ?_) (by omega)
    · rw [List.length_set]
      exact ho q (List.mem_cons_of_mem _ hq)
    · have:=hV k' hk'
      simpa [rot] using this
/-- Too many run: the last ones of the order stop. -/
def offs (n : Int) : List Int→List S62→List S62
  | [],xs => xs
  | o :: os,xs => if (cnt xs : Int) > n then offs n os (xs.set o.toNat ⟨(rd_T62 xs o).f0,false,(rd_T62 xs o).f2⟩) else xs
theorem step_l2 (now n R G S T : Int) (us0 : List S62) (O : List Int) (hO : O.length ≤ 1000) (N : Nat) (V : Option (List S62 × Int × Int)) : ∀ (i k : Nat) (xs : List S62),i ≤ O.length→xs.length ≤ 100→(∀ o ∈ O,0 ≤ o∧o < xs.length) →
    (∀ k', N < k' → leadlag_step.j4 k' now n O R G us0 S T (offs n (O.take i).reverse xs) = V) → N + i + 300 < k → leadlag_step.l2 k now n O ((i : Int) - 1) R G us0 S T xs = V
  | 0,k,xs,hi,hx,ho,hV,hk => by
    obtain ⟨k,rfl,hk⟩:=kof hk
    simp only [leadlag_step.l2]
    rw [if_neg (by simp)]
    have:=hV k (by omega)
    simpa [offs] using this
  | i + 1,k,xs,hi,hx,ho,hV,hk => by
    obtain ⟨k,rfl,hk⟩:=kof hk
    have ht : O.take (i + 1) = O.take i ++ [rd O (i : Int)]:=by
      rw [List.take_succ_eq_append_getElem (by omega)]
      unfold rd
      rw [Int.toNat_natCast,List.getD_eq_getElem?_getD,List.getElem?_eq_getElem (by omega)]
      rfl
    have hm : rd O (i : Int) ∈ O:=by
      unfold rd
      rw [Int.toNat_natCast,List.getD_eq_getElem?_getD,List.getElem?_eq_getElem (by omega)]
      exact List.getElem_mem _
    have e0 : (((i + 1 : Nat) : Int) - 1) = (i : Int):=by omega
    have hw : wrap64 ((i : Int) - 1) = (i : Int) - 1:=w64 (by omega) (by omega)
    obtain ⟨o1,o2⟩:=ho _ hm
    simp only [leadlag_step.l2]
    rw [e0,if_pos (by omega),countOn_f hx S T (by omega)]
    simp only [Option.bind_some]
    rw [ht] at hV
    by_cases c : (cnt xs : Int) > n
    · rw [if_pos c,if_pos (by omega),if_pos (by omega),if_pos o1,if_pos o2,hw]
      refine step_l2 now n R G S T us0 O hO N V i k _ (by omega) (by simpa using hx) (fun q hq => by rw [List.length_set];exact ho q hq) (fun k' hk' => ?_) (by omega)
      have:=hV k' hk'
      simp only [List.reverse_append,List.reverse_cons,List.reverse_nil,List.nil_append,List.singleton_append,offs] at this
      rwa [if_pos c] at this
    · rw [if_neg c]
      have:=hV k (by omega)
      simp only [List.reverse_append,List.reverse_cons,List.reverse_nil,List.nil_append,List.singleton_append,offs] at this
      rwa [if_neg c] at this
end Go.Proofs.Ytbecejhjdagkdaa.PL
