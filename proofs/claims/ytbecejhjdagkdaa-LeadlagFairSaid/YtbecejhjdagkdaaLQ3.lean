/- What a step keeps and brings. -/
import Derived.Test.YtbecejhjdagkdaaLQ2
set_option linter.unusedVariables false
set_option linter.unusedSimpArgs false
namespace Go.Proofs.Ytbecejhjdagkdaa.PL
open Go.RowKit Go.Proofs.Ytbecejhjdagkdaa.L Go.Proofs.YtbecejhjdagkdaaW.PrintWords Go.Proofs.YtbecejhjdagkdaaW.PrintLast Go.Proofs.YtbecejhjdagkdaaW.PrintMore

theorem rd_get {xs : List S62} {i : Nat} (h : i < xs.length) : rd_T62 xs (i : Int) = xs[i]:=by
  unfold rd_T62
  rw [Int.toNat_natCast,List.getD_eq_getElem?_getD,List.getElem?_eq_getElem h]
  rfl
theorem map_rng (xs : List S62) : (rng xs.length).map (rd_T62 xs) = xs:=by
  apply List.ext_getElem
  · simp [rng]
  · intro i h1 h2
    simp only [rng,List.map_map,List.getElem_map,List.getElem_range,Function.comp]
    exact rd_get h2
theorem cntOrd (p : S62→Bool) {xs : List S62} {O : List Int} (h : O.Perm (rng xs.length)) : xs.countP p = O.countP (fun o => p (rd_T62 xs o)):=by
  rw [h.countP_eq]
  conv => lhs;rw [← map_rng xs]
  rw [List.countP_map]
  rfl
theorem rng_nodup (n : Nat) : (rng n).Nodup:=List.Pairwise.map (R:=(· ≠ ·)) (S:=(· ≠ ·)) Int.ofNat (fun a b h e => h (Int.ofNat.inj e)) List.nodup_range
theorem cnt_mono {xs ys : List S62} (hl : xs.length = ys.length) (h : ∀ o : Int,0 ≤ o→o < xs.length→(rd_T62 xs o).f1 = true→(rd_T62 ys o).f1 = true) : cnt xs ≤ cnt ys:=by
  unfold cnt
  rw [cntOrd (fun u => u.f1) (List.Perm.refl (rng xs.length)),cntOrd (xs:=ys) (fun u => u.f1) (List.Perm.refl (rng ys.length)),← hl]
  exact List.countP_mono_left (fun o ho h1 => h o (rng_mem.1 ho).1 (rng_mem.1 ho).2 h1)
theorem cnt_set (v : S62) : ∀ (xs : List S62) (j : Nat),cnt (xs.set j v) ≤ cnt xs + 1
  | [],j => by simp [cnt]
  | x :: xs,0 => by
    simp only [cnt,List.set_cons_zero,List.countP_cons]
    split <;> split <;> omega
  | x :: xs,j + 1 => by
    have:=cnt_set v xs j
    simp only [cnt,List.set_cons_succ,List.countP_cons] at *
    omega
theorem rot_get (t : Int) (o : Int) (h0 : 0 ≤ o) : ∀ (os : List Int) (i : Int) (xs : List S62),(∀ q ∈ os,0 ≤ q∧q < xs.length)→o ∉ os→rd_T62 (rot t i os xs) o = rd_T62 xs o
  | [],_,_,_,_ => rfl
  | q :: os,i,xs,hq,ho => by
    obtain ⟨q1,q2⟩:=hq q List.mem_cons_self
    simp only [List.mem_cons,not_or] at ho
    unfold rot
    rw [rot_get t o h0 os (i + 1) _ (fun z hz => by rw [List.length_set];exact hq z (List.mem_cons_of_mem _ hz)) ho.2,rd_set q1 q2 h0,if_neg ho.1]
theorem rot_keep (t : Int) (o : Int) (h0 : 0 ≤ o) : ∀ (os : List Int) (i : Int) (xs : List S62),(∀ q ∈ os,0 ≤ q∧q < xs.length)→(rd_T62 (rot t i os xs) o).f0 = (rd_T62 xs o).f0∧(rd_T62 (rot t i os xs) o).f2 = (rd_T62 xs o).f2
  | [],_,_,_ => ⟨rfl,rfl⟩
  | q :: os,i,xs,hq => by
    obtain ⟨q1,q2⟩:=hq q List.mem_cons_self
    have ih:=rot_keep t o h0 os (i + 1) (xs.set q.toNat ⟨(rd_T62 xs q).f0,decide (i < t),(rd_T62 xs q).f2⟩) (fun z hz => by rw [List.length_set];exact hq z (List.mem_cons_of_mem _ hz))
    unfold rot
    rw [ih.1,ih.2,rd_set q1 q2 h0]
    by_cases c : o = q
    · subst c
      rw [if_pos rfl]
      exact ⟨rfl,rfl⟩
    · rw [if_neg c]
      exact ⟨rfl,rfl⟩
theorem rot_head (t i o : Int) (os : List Int) (xs : List S62) (ho : ∀ q ∈ o :: os,0 ≤ q∧q < xs.length) (hn : o ∉ os) : (rd_T62 (rot t i (o :: os) xs) o).f1 = decide (i < t):=by
  obtain ⟨q1,q2⟩:=ho o List.mem_cons_self
  unfold rot
  rw [rot_get t o q1 os (i + 1) _ (fun z hz => by rw [List.length_set];exact ho z (List.mem_cons_of_mem _ hz)) hn,rd_set q1 q2 q1,if_pos rfl]
theorem rot_cnt (t : Int) : ∀ (os : List Int) (i : Int) (xs : List S62),(∀ q ∈ os,0 ≤ q∧q < xs.length)→os.Nodup→os.countP (fun o => (rd_T62 (rot t i os xs) o).f1) ≤ (t - i).toNat
  | [],_,_,_,_ => by simp
  | o :: os,i,xs,ho,hn => by
    obtain ⟨n1,n2⟩:=List.nodup_cons.1 hn
    have hh:=rot_head t i o os xs ho n1
    have ih:=rot_cnt t os (i + 1) (xs.set o.toNat ⟨(rd_T62 xs o).f0,decide (i < t),(rd_T62 xs o).f2⟩) (fun z hz => by rw [List.length_set];exact ho z (List.mem_cons_of_mem _ hz)) n2
    rw [List.countP_cons,hh]
    have e : rot t i (o :: os) xs = rot t (i + 1) os (xs.set o.toNat ⟨(rd_T62 xs o).f0,decide (i < t),(rd_T62 xs o).f2⟩):=rfl
    rw [e]
    generalize os.countP (fun o_1 => (rd_T62 (rot t (i + 1) os (xs.set o.toNat ⟨(rd_T62 xs o).f0,decide (i < t),(rd_T62 xs o).f2⟩)) o_1).f1) = X at ih ⊢
    by_cases c : i < t
    · rw [if_pos (decide_eq_true c)]
      omega
    · rw [if_neg (by simp [c])]
      omega
theorem rot_app (t : Int) : ∀ (A B : List Int) (i : Int) (xs : List S62),rot t i (A ++ B) xs = rot t (i + A.length) B (rot t i A xs)
  | [],B,i,xs => by simp [rot]
  | a :: A,B,i,xs => by
    simp only [List.cons_append,rot]
    rw [rot_app t A B (i + 1)]
    congr 1
    simp
    omega
theorem rot_off (t : Int) : ∀ (os : List Int) (i : Int) (xs : List S62),(∀ q ∈ os,0 ≤ q∧q < xs.length)→os.Nodup→t ≤ i→∀ o ∈ os,(rd_T62 (rot t i os xs) o).f1 = false
  | [],_,_,_,_,_,o,ho => by cases ho
  | q :: os,i,xs,hq,hn,ht,o,ho => by
    obtain ⟨n1,n2⟩:=List.nodup_cons.1 hn
    rcases List.mem_cons.1 ho with rfl | ho
    · rw [rot_head t i o os xs hq n1]
      exact decide_eq_false (by omega)
    · exact rot_off t os (i + 1) _ (fun z hz => by rw [List.length_set];exact hq z (List.mem_cons_of_mem _ hz)) n2 (by omega) o ho
theorem offs_len (n : Int) : ∀ (os : List Int) (xs : List S62),(offs n os xs).length = xs.length
  | [],_ => rfl
  | o :: os,xs => by
    unfold offs
    split
    · rw [offs_len n os]
      simp
    · rfl
theorem offs_keep (n : Int) (o : Int) (h0 : 0 ≤ o) : ∀ (os : List Int) (xs : List S62),(∀ q ∈ os,0 ≤ q∧q < xs.length)→(rd_T62 (offs n os xs) o).f0 = (rd_T62 xs o).f0∧(rd_T62 (offs n os xs) o).f2 = (rd_T62 xs o).f2∧((rd_T62 (offs n os xs) o).f1 = true→(rd_T62 xs o).f1 = true)
  | [],_,_ => ⟨rfl,rfl,fun h => h⟩
  | q :: os,xs,hq => by
    obtain ⟨q1,q2⟩:=hq q List.mem_cons_self
    unfold offs
    split
    · obtain ⟨i1,i2,i3⟩:=offs_keep n o h0 os (xs.set q.toNat ⟨(rd_T62 xs q).f0,false,(rd_T62 xs q).f2⟩) (fun z hz => by rw [List.length_set];exact hq z (List.mem_cons_of_mem _ hz))
      rw [rd_set q1 q2 h0] at i1 i2 i3
      rw [i1,i2]
      by_cases c : o = q
      · subst c
        rw [if_pos rfl] at i3 ⊢
        exact ⟨rfl,rfl,fun h => by have:=i3 h;simp at this⟩
      · rw [if_neg c] at i3 ⊢
        exact ⟨rfl,rfl,i3⟩
    · exact ⟨rfl,rfl,fun h => h⟩
theorem cnt_zero {xs : List S62} (h : ∀ o : Int,0 ≤ o→o < xs.length→(rd_T62 xs o).f1 = false) : cnt xs = 0:=by
  unfold cnt
  rw [cntOrd (fun u => u.f1) (List.Perm.refl (rng xs.length)),List.countP_eq_zero]
  intro o ho
  rw [h o (rng_mem.1 ho).1 (rng_mem.1 ho).2]
  simp
theorem offs_le (n : Int) (hn : 0 ≤ n) : ∀ (os : List Int) (xs : List S62),(∀ q ∈ os,0 ≤ q∧q < xs.length)→(∀ o : Int,0 ≤ o→o < xs.length→o ∉ os→(rd_T62 xs o).f1 = false)→(cnt (offs n os xs) : Int) ≤ n
  | [],xs,_,h => by
    have:=cnt_zero (fun o h1 h2 => h o h1 h2 (by simp))
    unfold offs
    omega
  | q :: os,xs,hq,h => by
    obtain ⟨q1,q2⟩:=hq q List.mem_cons_self
    unfold offs
    split
    · refine offs_le n hn os _ (fun z hz => by rw [List.length_set];exact hq z (List.mem_cons_of_mem _ hz)) (fun o h1 h2 h3 => ?_)
      rw [List.length_set] at h2
      rw [rd_set q1 q2 h1]
      by_cases c : o = q
      · rw [if_pos c]
      · rw [if_neg c]
        exact h o h1 h2 (by simp [c,h3])
    · omega
theorem split_f (us : List S62) : ∀ O : List Int,O.Pairwise (fun a b => ¬ cm us b a < 0)→∃ W F,O = W ++ F∧(∀ o ∈ W,(rd_T62 us o).f2 = false)∧∀ o ∈ F,(rd_T62 us o).f2 = true
  | [],_ => ⟨[],[],rfl,by simp,by simp⟩
  | a :: O,h => by
    obtain ⟨h1,h2⟩:=List.pairwise_cons.1 h
    cases c : (rd_T62 us a).f2 with
    | false =>
      obtain ⟨W,F,e,w,f⟩:=split_f us O h2
      refine ⟨a :: W,F,by rw [e];rfl,fun o ho => ?_,f⟩
      rcases List.mem_cons.1 ho with rfl | ho
      · exact c
      · exact w o ho
    | true =>
      refine ⟨[],a :: O,rfl,by simp,fun o ho => ?_⟩
      rcases List.mem_cons.1 ho with rfl | ho
      · exact c
      · have:=h1 o ho
        rw [cm_lt] at this
        cases e : (rd_T62 us o).f2 with
        | true => rfl
        | false => exact absurd ⟨e,.inl c⟩ this
theorem first_off (p : Int→Bool) : ∀ W : List Int,W.countP p < W.length→∃ A o B,W = A ++ o :: B∧(∀ a ∈ A,p a = true)∧p o = false
  | [],h => by simp at h
  | a :: W,h => by
    cases c : p a with
    | false => exact ⟨[],a,W,rfl,by simp,c⟩
    | true =>
      rw [List.countP_cons_of_pos c] at h
      obtain ⟨A,o,B,e,h1,h2⟩:=first_off p W (by simpa using h)
      refine ⟨a :: A,o,B,by rw [e];rfl,fun z hz => ?_,h2⟩
      rcases List.mem_cons.1 hz with rfl | hz
      · exact c
      · exact h1 z hz
theorem idx_l0 (pf : Int→Option Bool) (O : List Int) (hO : O.length ≤ 1000) (o : Int) (B : List Int) (ho : pf o = some true) : ∀ (A : List Int) (i k : Nat),O.drop i = A ++ o :: B→(∀ a ∈ A,pf a = some false)→A.length < k→slices_IndexFunc_int_int.l0 pf k O O.length i = some ((i + A.length : Nat) : Int)
  | [],i,k,h,hA,hk => by
    obtain ⟨k,rfl,_⟩:=kof hk
    obtain ⟨h1,h2,h3⟩:=at_dropI h
    simp only [slices_IndexFunc_int_int.l0]
    rw [if_pos (by omega),if_pos (by omega),if_pos (by omega),h2,ho]
    simp
  | a :: A,i,k,h,hA,hk => by
    obtain ⟨k,rfl,hk⟩:=kof hk
    obtain ⟨h1,h2,h3⟩:=at_dropI h
    have hw : wrap64 ((i : Int) + 1) = ((i + 1 : Nat) : Int):=by rw [w64 (by omega) (by omega)];simp
    simp only [slices_IndexFunc_int_int.l0]
    rw [if_pos (by omega),if_pos (by omega),if_pos (by omega),h2,hA a List.mem_cons_self,hw]
    simp only [Option.bind_some]
    rw [if_neg (by simp),idx_l0 pf O hO o B ho A (i + 1) k h3 (fun z hz => hA z (List.mem_cons_of_mem _ hz)) (by simpa using hk)]
    congr 2
    simp
    omega
/-- The end of a step. -/
theorem j4_f (xs : List S62) (hl : xs.length ≤ 16) (O W F : List Int) (hO : O = W ++ F) (hp : O.Perm (rng xs.length)) (hW : ∀ o ∈ W,(rd_T62 xs o).f2 = false) (hon : ∀ o : Int,0 ≤ o→o < xs.length→(rd_T62 xs o).f1 = true→(rd_T62 xs o).f2 = false)
    (now n R G S T : Int) (us0 : List S62) (hn : n ≤ W.length) (hc : (cnt xs : Int) ≤ n) (hS : -1 ≤ S) (hS2 : S ≤ 6311433599) (hG : 0 ≤ G) (hG2 : G ≤ 3600) {k : Nat} (hk : 300 ≤ k) :
    ∃ us' S', leadlag_step.j4 k now n O R G us0 S T xs = some (us', S', T) ∧ us'.length = xs.length ∧ (∀ o : Int, 0 ≤ o → (rd_T62 us' o).f0 = (rd_T62 xs o).f0 ∧ (rd_T62 us' o).f2 = (rd_T62 xs o).f2) ∧ (∀ o : Int, 0 ≤ o → o < xs.length → (rd_T62 us' o).f1 = true → (rd_T62 us' o).f2 = false) ∧ (cnt us' : Int) ≤ n ∧
      ((S' = S∧cnt us' ≤ cnt xs) ∨ (S' = now∧(S = -1 ∨ now ≥ S + G)∧cnt us' ≤ cnt xs + 1)):=by
  obtain ⟨k,rfl,hk⟩:=kof (n:=299) (k:=k) (by omega)
  have hsame : ∃ us' S', (some (xs, S, T) : Option (List S62 × Int × Int)) = some (us', S', T) ∧ us'.length = xs.length ∧ (∀ o : Int, 0 ≤ o → (rd_T62 us' o).f0 = (rd_T62 xs o).f0 ∧ (rd_T62 us' o).f2 = (rd_T62 xs o).f2) ∧ (∀ o : Int, 0 ≤ o → o < xs.length → (rd_T62 us' o).f1 = true → (rd_T62 us' o).f2 = false) ∧ (cnt us' : Int) ≤ n ∧
      ((S' = S∧cnt us' ≤ cnt xs) ∨ (S' = now∧(S = -1 ∨ now ≥ S + G)∧cnt us' ≤ cnt xs + 1)) :=
    ⟨xs,S,rfl,rfl,fun o _ => ⟨rfl,rfl⟩,hon,hc,.inl ⟨rfl,Nat.le_refl _⟩⟩
  simp only [leadlag_step.j4]
  rw [countOn_f (by omega) S T (by omega)]
  simp only [Option.bind_some]
  by_cases c : (cnt xs : Int) < n
  · have hcW : W.countP (fun o => (rd_T62 xs o).f1) < W.length:=by
      have h1:=cntOrd (fun u => u.f1) hp
      rw [hO,List.countP_append] at h1
      unfold cnt at c
      omega
    obtain ⟨A,o,B,e,hA,ho⟩:=first_off _ W hcW
    have hOl : O.length = xs.length:=by rw [hp.length_eq,rng_len]
    have hin : ∀ q ∈ O,0 ≤ q∧q < xs.length:=fun q hq => rng_mem.1 (hp.mem_iff.1 hq)
    have hoO : o ∈ O:=by rw [hO,e];simp
    obtain ⟨o1,o2⟩:=hin o hoO
    have hAO : ∀ q ∈ A,q ∈ O:=fun q hq => by rw [hO,e];simp [hq]
    have hf : leadlag_firstOff.f k O xs = some (A.length : Int):=by
      unfold leadlag_firstOff.f slices_IndexFunc_int_int.f
      have hpp : ∀ q ∈ O,leadlag_step_2.p xs q = some (!(rd_T62 xs q).f1):=fun q hq => by
        unfold leadlag_step_2.p
        rw [if_pos (hin q hq).1,if_pos (hin q hq).2]
      have hAl : A.length < 20:=by
        have:=congrArg List.length hO
        rw [e] at this
        simp at this
        omega
      have:=idx_l0 (leadlag_step_2.p xs) O (by omega) o (B ++ F) (by rw [hpp o hoO,ho];rfl) A 0 k (by rw [List.drop_zero,hO,e];simp) (fun a ha => by rw [hpp a (hAO a ha),hA a ha];rfl) (by omega)
      rw [show ((0 : Nat) : Int) = 0 from rfl] at this
      rw [this]
      simp
    have hrd : rd O (A.length : Int) = o:=by
      rw [hO,e,List.append_assoc]
      exact rd_mid _ _ _ _ rfl
    have hAl : (A.length : Int) < (O.length : Int):=by
      rw [hO,e]
      simp
      omega
    have hnew : ∃ us' S', (some ((xs.set o.toNat ⟨(rd_T62 xs o).f0, true, (rd_T62 xs o).f2⟩), now, T) : Option (List S62 × Int × Int)) = some (us', S', T) ∧ us'.length = xs.length ∧ (∀ o : Int, 0 ≤ o → (rd_T62 us' o).f0 = (rd_T62 xs o).f0 ∧ (rd_T62 us' o).f2 = (rd_T62 xs o).f2) ∧ (∀ o : Int, 0 ≤ o → o < xs.length → (rd_T62 us' o).f1 = true → (rd_T62 us' o).f2 = false) ∧ (cnt us' : Int) ≤ n ∧ (S' = now ∧ cnt us' ≤ cnt xs + 1) := by
      have hcs:=cnt_set ⟨(rd_T62 xs o).f0,true,(rd_T62 xs o).f2⟩ xs o.toNat
      refine ⟨_,now,rfl,by simp,fun q hq => ?_,fun q q1 q2 q3 => ?_,by omega,rfl,hcs⟩
      · rw [rd_set o1 o2 hq]
        by_cases d : q = o
        · subst d
          rw [if_pos rfl]
          exact ⟨rfl,rfl⟩
        · rw [if_neg d]
          exact ⟨rfl,rfl⟩
      · rw [rd_set o1 o2 q1] at q3 ⊢
        by_cases d : q = o
        · rw [if_pos d]
          exact hW o (by rw [e];simp)
        · rw [if_neg d] at q3 ⊢
          exact hon q q1 q2 q3
    obtain ⟨us', S', n1, n2, n3, n4, n5, n6, n7⟩ := hnew
    rw [if_pos c]
    by_cases d : S = -1
    · rw [if_pos d,hf]
      simp only [Option.bind_some]
      rw [if_pos (by omega),if_pos hAl,hrd,if_pos o1,if_pos o2,n1]
      exact ⟨us', S', rfl, n2, n3, n4, n5, .inr ⟨n6, .inl d, n7⟩⟩
    · rw [if_neg d,w64 (x:=S + G) (by omega) (by omega)]
      by_cases g : now ≥ S + G
      · rw [if_pos g,hf]
        simp only [Option.bind_some]
        rw [if_pos (by omega),if_pos hAl,hrd,if_pos o1,if_pos o2,n1]
        exact ⟨us', S', rfl, n2, n3, n4, n5, .inr ⟨n6, .inr g, n7⟩⟩
      · rw [if_neg g]
        exact hsame
  · rw [if_neg c]
    exact hsame
end Go.Proofs.Ytbecejhjdagkdaa.PL
