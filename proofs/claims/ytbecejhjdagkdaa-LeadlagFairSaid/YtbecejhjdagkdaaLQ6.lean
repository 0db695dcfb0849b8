/- Fairness: a machine that is on is not far ahead of one that is off. -/
import Derived.Test.YtbecejhjdagkdaaLQ4
set_option linter.unusedVariables false
set_option linter.unusedSimpArgs false
namespace Go.Proofs.Ytbecejhjdagkdaa.PL
open Go.RowKit Go.Proofs.Ytbecejhjdagkdaa.L Go.Proofs.YtbecejhjdagkdaaW.PrintWords Go.Proofs.YtbecejhjdagkdaaW.PrintLast Go.Proofs.YtbecejhjdagkdaaW.PrintMore

/-- Who is on is at most c ahead of who is off. -/
def Pr (N : Nat) (g : Int → Int) (c : Int) (xs : List S62) : Prop := ∀ o p : Int, 0 ≤ o → o < N → 0 ≤ p → p < N → (rd_T62 xs o).f1 = true → (rd_T62 xs p).f1 = false → g o - g p ≤ c
theorem rot_pair (g : Int → Int) (t : Int) : ∀ (os : List Int) (i : Int) (xs : List S62), (∀ q ∈ os, 0 ≤ q ∧ q < xs.length) → os.Nodup → os.Pairwise (fun a b => g a ≤ g b) → ∀ o ∈ os, ∀ p ∈ os, (rd_T62 (rot t i os xs) o).f1 = true → (rd_T62 (rot t i os xs) p).f1 = false → g o ≤ g p
  | [], _, _, _, _, _, o, ho, _, _, _, _ => by cases ho
  | q :: os, i, xs, hq, hn, hs, o, ho, p, hp, h1, h2 => by
    obtain ⟨n1, n2⟩ := List.nodup_cons.1 hn
    obtain ⟨s1, s2⟩ := List.pairwise_cons.1 hs
    have hh := rot_head t i q os xs hq n1
    have hq' : ∀ z ∈ os, 0 ≤ z ∧ z < (xs.set q.toNat ⟨(rd_T62 xs q).f0, decide (i < t), (rd_T62 xs q).f2⟩).length := fun z hz => by rw [List.length_set]; exact hq z (List.mem_cons_of_mem _ hz)
    rcases List.mem_cons.1 ho with e | ho
    · rcases List.mem_cons.1 hp with e' | hp
      · rw [e, e']
        exact Int.le_refl _
      · rw [e]
        exact s1 p hp
    · rcases List.mem_cons.1 hp with e' | hp
      · exfalso
        rw [e', hh] at h2
        have ht : ¬ i < t := by simpa using h2
        have := rot_off t os (i + 1) _ hq' n2 (by omega) o ho
        have e2 : rot t i (q :: os) xs = rot t (i + 1) os (xs.set q.toNat ⟨(rd_T62 xs q).f0, decide (i < t), (rd_T62 xs q).f2⟩) := rfl
        rw [e2, this] at h1
        cases h1
      · exact rot_pair g t os (i + 1) _ hq' n2 s2 o ho p hp h1 h2
theorem offs_pair (g : Int → Int) (c : Int) (hc : 0 ≤ c) (n : Int) (N : Nat) : ∀ (os : List Int) (xs : List S62), xs.length = N → (∀ q ∈ os, 0 ≤ q ∧ q < xs.length) → os.Pairwise (fun a b => g b ≤ g a) → (∀ o : Int, 0 ≤ o → o < N → (rd_T62 xs o).f1 = true → o ∈ os) → Pr N g c xs → Pr N g c (offs n os xs)
  | [], xs, _, _, _, _, h => h
  | q :: os, xs, hl, hq, hs, hin, h => by
    obtain ⟨q1, q2⟩ := hq q List.mem_cons_self
    obtain ⟨s1, s2⟩ := List.pairwise_cons.1 hs
    unfold offs
    split
    · refine offs_pair g c hc n N os _ (by rw [List.length_set]; exact hl) (fun z hz => by rw [List.length_set]; exact hq z (List.mem_cons_of_mem _ hz)) s2 (fun o o1 o2 o3 => ?_) (fun o p o1 o2 p1 p2 o3 p3 => ?_)
      · rw [rd_set q1 q2 o1] at o3
        by_cases d : o = q
        · rw [if_pos d] at o3
          cases o3
        · rw [if_neg d] at o3
          rcases List.mem_cons.1 (hin o o1 o2 o3) with e | e
          · exact absurd e d
          · exact e
      · rw [rd_set q1 q2 o1] at o3
        rw [rd_set q1 q2 p1] at p3
        by_cases d : o = q
        · rw [if_pos d] at o3
          cases o3
        · rw [if_neg d] at o3
          by_cases e : p = q
          · rcases List.mem_cons.1 (hin o o1 o2 o3) with e' | e'
            · exact absurd e' d
            · have := s1 o e'
              rw [e]
              omega
          · rw [if_neg e] at p3
            exact h o p o1 o2 p1 p2 o3 p3
    · exact h
theorem on_pair (g : Int → Int) (c : Int) (hc : 0 ≤ c) (xs : List S62) (A : List Int) (o : Int) (B : List Int) (hin : ∀ q ∈ A ++ o :: B, 0 ≤ q ∧ q < xs.length) (hall : ∀ q : Int, 0 ≤ q → q < xs.length → q ∈ A ++ o :: B) (hs : (A ++ o :: B).Pairwise (fun a b => g a ≤ g b)) (hA : ∀ a ∈ A, (rd_T62 xs a).f1 = true) (h : Pr xs.length g c xs) : Pr xs.length g c (xs.set o.toNat ⟨(rd_T62 xs o).f0, true, (rd_T62 xs o).f2⟩) := by
  intro a p a1 a2 p1 p2 a3 p3
  obtain ⟨o1, o2⟩ := hin o (by simp)
  rw [rd_set o1 o2 a1] at a3
  rw [rd_set o1 o2 p1] at p3
  by_cases e : p = o
  · rw [if_pos e] at p3
    cases p3
  · rw [if_neg e] at p3
    by_cases d : a = o
    · have hm := hall p p1 p2
      rcases List.mem_append.1 hm with hm | hm
      · rw [hA p hm] at p3
        cases p3
      · rcases List.mem_cons.1 hm with hm | hm
        · exact absurd hm e
        · have := (List.pairwise_cons.1 (List.pairwise_append.1 hs).2.1).1 p hm
          rw [d]
          omega
    · rw [if_neg d] at a3
      exact h a p a1 a2 p1 p2 a3 p3
theorem j4_g (xs : List S62) (hl : xs.length ≤ 16) (O : List Int) (hp : O.Perm (rng xs.length)) (now n R G S T : Int) (us0 : List S62) (hn : n ≤ O.length) (hS : -1 ≤ S) (hS2 : S ≤ 6311433599) (hG : 0 ≤ G) (hG2 : G ≤ 3600) {k : Nat} (hk : 300 ≤ k) :
    ∃ us' S', leadlag_step.j4 k now n O R G us0 S T xs = some (us', S', T) ∧ (S' = S ∨ S' = now) ∧ (us' = xs ∨ ∃ A o B, O = A ++ o :: B ∧ (∀ a ∈ A, (rd_T62 xs a).f1 = true) ∧ us' = xs.set o.toNat ⟨(rd_T62 xs o).f0, true, (rd_T62 xs o).f2⟩) := by
  obtain ⟨k, rfl, hk⟩ := kof (n := 299) (k := k) (by omega)
  simp only [leadlag_step.j4]
  rw [countOn_f (by omega) S T (by omega)]
  simp only [Option.bind_some]
  by_cases c : (cnt xs : Int) < n
  · have hcW : O.countP (fun o => (rd_T62 xs o).f1) < O.length := by
      have h1 := cntOrd (fun u => u.f1) hp
      unfold cnt at c
      omega
    obtain ⟨A, o, B, e, hA, ho⟩ := first_off _ O hcW
    have hOl : O.length = xs.length := by rw [hp.length_eq, rng_len]
    have hin : ∀ q ∈ O, 0 ≤ q ∧ q < xs.length := fun q hq => rng_mem.1 (hp.mem_iff.1 hq)
    have hoO : o ∈ O := by rw [e]; simp
    obtain ⟨o1, o2⟩ := hin o hoO
    have hAO : ∀ q ∈ A, q ∈ O := fun q hq => by rw [e]; simp [hq]
    have hAl0 : A.length < O.length := by
      rw [e]
      simp
    have hf : leadlag_firstOff.f k O xs = some (A.length : Int) := by
      unfold leadlag_firstOff.f slices_IndexFunc_int_int.f
      have hpp : ∀ q ∈ O, leadlag_step_2.p xs q = some (!(rd_T62 xs q).f1) := fun q hq => by
        unfold leadlag_step_2.p
        rw [if_pos (hin q hq).1, if_pos (hin q hq).2]
      have := idx_l0 (leadlag_step_2.p xs) O (by omega) o B (by rw [hpp o hoO, ho]; rfl) A 0 k (by rw [List.drop_zero]; exact e) (fun a ha => by rw [hpp a (hAO a ha), hA a ha]; rfl) (by omega)
      rw [show ((0 : Nat) : Int) = 0 from rfl] at this
      rw [this]
      simp
    have hrd : rd O (A.length : Int) = o := by
      rw [e]
      exact rd_mid _ _ _ _ rfl
    have hAl : (A.length : Int) < (O.length : Int) := by omega
    rw [if_pos c]
    by_cases d : S = -1
    · rw [if_pos d, hf]
      simp only [Option.bind_some]
      rw [if_pos (by omega), if_pos hAl, hrd, if_pos o1, if_pos o2]
      exact ⟨_, now, rfl, .inr rfl, .inr ⟨A, o, B, e, hA, rfl⟩⟩
    · rw [if_neg d, w64 (x := S + G) (by omega) (by omega)]
      by_cases gg : now ≥ S + G
      · rw [if_pos gg, hf]
        simp only [Option.bind_some]
        rw [if_pos (by omega), if_pos hAl, hrd, if_pos o1, if_pos o2]
        exact ⟨_, now, rfl, .inr rfl, .inr ⟨A, o, B, e, hA, rfl⟩⟩
      · rw [if_neg gg]
        exact ⟨_, S, rfl, .inl rfl, .inl rfl⟩
  · rw [if_neg c]
    exact ⟨_, S, rfl, .inl rfl, .inl rfl⟩
theorem ord_asc {us : List S62} (hf : ∀ o : Int, (rd_T62 us o).f2 = false) : (ord us).Pairwise (fun a b => (rd_T62 us a).f0 ≤ (rd_T62 us b).f0) :=
  (ord_sorted us).imp (fun {a b} h => by
    rw [cm_lt] at h
    have := hf a
    have := hf b
    by_cases c : (rd_T62 us b).f0 < (rd_T62 us a).f0
    · exact absurd ⟨hf b, .inr c⟩ h
    · omega)
theorem mid_g (ud : List S62) (hl : ud.length ≤ 16) (hf : ∀ o : Int, (rd_T62 ud o).f2 = false)
    (now n R G S T : Int) (us0 : List S62) (hn : n ≤ well ud) (hS : -1 ≤ S) (hS2 : S ≤ 6311433599) (hG : 0 ≤ G) (hG2 : G ≤ 3600) (c : Int) (hc : 0 ≤ c) (hpr : Pr ud.length (fun o => (rd_T62 ud o).f0) c ud) (N : Nat) (hN : 700 ≤ N) :
    ∃ us' S' T', (if now ≥ T + R then leadlag_step.l1 N now n (ord ud) (mn n (cnt ud)) (ord ud) ((ord ud).length : Int) 0 R G us0 S T ud else leadlag_step.l2 N now n (ord ud) (((ord ud).length : Int) - 1) R G us0 S T ud) = some (us', S', T') ∧
      (S' = S ∨ S' = now) ∧ ((now ≥ T + R ∧ T' = now ∧ Pr ud.length (fun o => (rd_T62 ud o).f0) 0 us') ∨ (¬ now ≥ T + R ∧ T' = T ∧ Pr ud.length (fun o => (rd_T62 ud o).f0) c us')) := by
  have hp := ord_perm ud
  have hasc := ord_asc hf
  have hOl : (ord ud).length = ud.length := by rw [hp.length_eq, rng_len]
  have hin : ∀ q ∈ ord ud, 0 ≤ q ∧ q < ud.length := fun q hq => rng_mem.1 (hp.mem_iff.1 hq)
  have hall : ∀ o : Int, 0 ≤ o → o < ud.length → o ∈ ord ud := fun o h1 h2 => hp.mem_iff.2 (rng_mem.2 ⟨h1, h2⟩)
  have hnd : (ord ud).Nodup := hp.nodup_iff.2 (rng_nodup _)
  have hw : well ud ≤ ud.length := List.countP_le_length
  have key : ∀ (xs : List S62) (T' c' : Int) (e : Option (List S62 × Int × Int)), xs.length = ud.length → 0 ≤ c' → Pr ud.length (fun o => (rd_T62 ud o).f0) c' xs →
      (∀ V, (∀ k', 320 < k' → leadlag_step.j4 k' now n (ord ud) R G us0 S T' xs = V) → e = V) →
      ∃ us' S', e = some (us', S', T') ∧ (S' = S ∨ S' = now) ∧ Pr ud.length (fun o => (rd_T62 ud o).f0) c' us' := by
    intro xs T' c' e h1 h2 h3 h7
    obtain ⟨us', S', j1, j2, j3⟩ := j4_g xs (by omega) (ord ud) (by rw [h1]; exact hp) now n R G S T' us0 (by omega) hS hS2 hG hG2 (k := 300) (Nat.le_refl _)
    have hV := h7 (some (us', S', T')) (fun k' hk' => up_to (g := fun k => leadlag_step.j4 k now n (ord ud) R G us0 S T' xs) (fun k => (leadlag_step.mono_l k).2.2.1 _ _ _ _ _ _ _ _ _) j1 k' (by omega))
    refine ⟨us', S', hV, j2, ?_⟩
    rcases j3 with rfl | ⟨A, o, B, e1, e2, rfl⟩
    · exact h3
    · rw [← h1] at h3 ⊢
      exact on_pair _ c' h2 xs A o B (fun q hq => by rw [h1]; exact hin q (by rw [e1]; exact hq)) (fun q q1 q2 => by rw [← e1]; exact hall q q1 (by omega)) (by rw [← e1]; exact hasc) e2 h3
  by_cases d : now ≥ T + R
  · rw [if_pos d]
    generalize mn n (cnt ud) = t
    have hlen := rot_len t (ord ud) 0 ud
    obtain ⟨us', S', k1, k2, k3⟩ := key (rot t 0 (ord ud) ud) now 0 _ hlen (Int.le_refl _) (fun o p o1 o2 p1 p2 o3 p3 => by
      have := rot_pair (fun o => (rd_T62 ud o).f0) t (ord ud) 0 ud hin hnd hasc o (hall o o1 o2) p (hall p p1 p2) o3 p3
      have h : (rd_T62 ud o).f0 ≤ (rd_T62 ud p).f0 := this
      show (rd_T62 ud o).f0 - (rd_T62 ud p).f0 ≤ 0
      omega) (fun V hV => step_l1 now n t R G S T us0 (ord ud) (by omega) 320 V (ord ud) 0 N ud rfl hin (fun k' hk' => hV k' hk') (by omega))
    exact ⟨us', S', now, k1, k2, .inl ⟨d, rfl, k3⟩⟩
  · rw [if_neg d]
    have hrev : ∀ q ∈ (ord ud).reverse, 0 ≤ q ∧ q < ud.length := fun q hq => hin q (List.mem_reverse.1 hq)
    obtain ⟨us', S', k1, k2, k3⟩ := key (offs n (ord ud).reverse ud) T c _ (offs_len n (ord ud).reverse ud) hc
      (offs_pair _ c hc n ud.length (ord ud).reverse ud rfl hrev (List.pairwise_reverse.2 hasc) (fun o o1 o2 _ => List.mem_reverse.2 (hall o o1 o2)) hpr)
      (fun V hV => step_l2 now n R G S T us0 (ord ud) (by omega) 320 V (ord ud).length N ud (Nat.le_refl _) (by omega) hin (fun k' hk' => by rw [List.take_length]; exact hV k' hk') (by omega))
    exact ⟨us', S', T, k1, k2, .inr ⟨d, rfl, k3⟩⟩
theorem step_g (us : List S62) (fl : List Bool) (hl : us.length ≤ 16) (hf : fl.length = us.length) (R G S T need now : Int) (hR : 1 ≤ R) (hR2 : R ≤ 2678400) (hG : 0 ≤ G) (hG2 : G ≤ 3600) (hS : -1 ≤ S) (hS2 : S ≤ 6311433599) (hT : 0 ≤ T) (hT2 : T ≤ 6311433599)
    (hf2 : ∀ o : Int, (rd_T62 (List.zipWith upd us fl) o).f2 = false) (c : Int) (hc : 0 ≤ c) (hpr : Pr us.length (fun o => (rd_T62 (List.zipWith upd us fl) o).f0) c (List.zipWith upd us fl)) {k : Nat} (hk : 2000 ≤ k) :
    ∃ us' S' T', leadlag_step.f k R G us S T need fl now = some (us', S', T') ∧ (S' = S ∨ S' = now) ∧ ((now ≥ T + R ∧ T' = now ∧ Pr us.length (fun o => (rd_T62 (List.zipWith upd us fl) o).f0) 0 us') ∨ (¬ now ≥ T + R ∧ T' = T ∧ Pr us.length (fun o => (rd_T62 (List.zipWith upd us fl) o).f0) c us')) := by
  have hul := upd_len hf
  obtain ⟨ud, hud0⟩ : ∃ ud, ud = List.zipWith upd us fl := ⟨_, rfl⟩
  rw [← hud0] at hul hf2 hpr ⊢
  rw [← hul] at hpr ⊢
  have hm := mxmn 0 (mn need (well ud))
  have hm2 := mxmn need (well ud)
  have hr : wrap64 (T + R) = T + R := w64 (by omega) (by omega)
  obtain ⟨us', S', T', e, h1, h2⟩ := mid_g ud (by omega) hf2 now (mx 0 (mn need (well ud))) R G S T us (by omega) hS hS2 hG hG2 c hc hpr 700 (by omega)
  refine ⟨us', S', T', ?_, h1, h2⟩
  unfold leadlag_step.f
  rw [if_pos (by omega), if_pos (by omega)]
  simp only [Option.bind_some]
  unfold leadlag_copyUnits.f
  rw [if_pos (by simp)]
  simp only [Option.bind_some]
  have := step_l0 need now R G S T us fl us.length (by omega) hf 1000 (some (us', S', T')) us fl [] k (by simp) (by simp) (fun k' hk' => ?_) (by omega)
  · simpa using this
  · obtain ⟨k', rfl, hk'⟩ := kof hk'
    rw [List.nil_append, ← hud0]
    simp only [leadlag_step.l0]
    rw [if_neg (by omega), countWell_f (by omega) S T (by omega)]
    simp only [Option.bind_some]
    rw [order_f ud (by omega) S T (by omega)]
    simp only [Option.bind_some]
    rw [hr]
    by_cases d : now ≥ T + R
    · rw [if_pos d] at e ⊢
      rw [countOn_f (by omega) S T (by omega)]
      simp only [Option.bind_some]
      exact up_to (g := fun k => leadlag_step.l1 k now (mx 0 (mn need (well ud))) (ord ud) (mn (mx 0 (mn need (well ud))) (cnt ud)) (ord ud) ((ord ud).length : Int) 0 R G us S T ud) (fun k => (leadlag_step.mono_l k).2.2.2.1 _ _ _ _ _ _ _ _ _ _ _ _ _) e k' (by omega)
    · rw [if_neg d] at e ⊢
      have hOl : (ord ud).length = ud.length := by rw [(ord_perm ud).length_eq, rng_len]
      rw [w64 (x := ((ord ud).length : Int) - 1) (by omega) (by omega)]
      exact up_to (g := fun k => leadlag_step.l2 k now (mx 0 (mn need (well ud))) (ord ud) (((ord ud).length : Int) - 1) R G us S T ud) (fun k => (leadlag_step.mono_l k).2.2.2.2 _ _ _ _ _ _ _ _ _ _) e k' (by omega)
end Go.Proofs.Ytbecejhjdagkdaa.PL
