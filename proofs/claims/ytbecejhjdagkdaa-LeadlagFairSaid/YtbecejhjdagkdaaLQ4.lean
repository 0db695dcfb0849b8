/- One second of the watch, whole. -/
import Derived.Test.YtbecejhjdagkdaaLQ3
set_option linter.unusedVariables false
set_option linter.unusedSimpArgs false
namespace Go.Proofs.Ytbecejhjdagkdaa.PL
open Go.RowKit Go.Proofs.Ytbecejhjdagkdaa.L Go.Proofs.YtbecejhjdagkdaaW.PrintWords Go.Proofs.YtbecejhjdagkdaaW.PrintLast Go.Proofs.YtbecejhjdagkdaaW.PrintMore

theorem up_to {α : Type} {g : Nat→Option α} (hm : ∀ k,LeO (g k) (g (k + 1))) {n : Nat} {r : α} (h : g n = some r) : ∀ k,n ≤ k→g k = some r
  | 0,hk => by
    have : n = 0:=by omega
    subst this
    exact h
  | k + 1,hk => by
    by_cases c : n = k + 1
    · subst c
      exact h
    · exact hm k r (up_to hm h k (by omega))
theorem upd_len {us : List S62} {fl : List Bool} (h : fl.length = us.length) : (List.zipWith upd us fl).length = us.length:=by simp [h]
theorem upd_rd {us : List S62} {fl : List Bool} (h : fl.length = us.length) {o : Int} (h1 : 0 ≤ o) (h2 : o < us.length) : rd_T62 (List.zipWith upd us fl) o = upd (rd_T62 us o) (rdOf false fl o):=by
  have a : o.toNat < us.length:=by omega
  have b : o.toNat < fl.length:=by omega
  unfold rd_T62 rdOf
  simp only [List.getD_eq_getElem?_getD]
  rw [List.getElem?_eq_getElem (l:=List.zipWith upd us fl) (by rw [upd_len h];exact a),List.getElem?_eq_getElem a,List.getElem?_eq_getElem b]
  simp
theorem mxmn (a b : Int) : (mx a b = a ∨ mx a b = b)∧a ≤ mx a b∧b ≤ mx a b∧(mn a b = a ∨ mn a b = b)∧mn a b ≤ a∧mn a b ≤ b:=by
  unfold mx mn
  split <;> split <;> omega
theorem mid_f (ud : List S62) (hl : ud.length ≤ 16) (hud : ∀ o : Int,0 ≤ o→o < ud.length→(rd_T62 ud o).f1 = true→(rd_T62 ud o).f2 = false)
    (now n R G S T : Int) (us0 : List S62) (hn0 : 0 ≤ n) (hn : n ≤ well ud) (hS : -1 ≤ S) (hS2 : S ≤ 6311433599) (hG : 0 ≤ G) (hG2 : G ≤ 3600) (N : Nat) (hN : 700 ≤ N) :
    ∃ us' S' T', (if now ≥ T + R then leadlag_step.l1 N now n (ord ud) (mn n (cnt ud)) (ord ud) ((ord ud).length : Int) 0 R G us0 S T ud else leadlag_step.l2 N now n (ord ud) (((ord ud).length : Int) - 1) R G us0 S T ud) = some (us', S', T') ∧
      us'.length = ud.length∧(∀ o : Int,0 ≤ o→(rd_T62 us' o).f0 = (rd_T62 ud o).f0∧(rd_T62 us' o).f2 = (rd_T62 ud o).f2)∧(∀ o : Int,0 ≤ o→o < ud.length→(rd_T62 us' o).f1 = true→(rd_T62 us' o).f2 = false)∧(T' = T ∨ T' = now)∧(cnt us' : Int) ≤ n ∧
      ((S' = S∧cnt us' ≤ cnt ud) ∨ (S' = now∧(S = -1 ∨ now ≥ S + G)∧cnt us' ≤ cnt ud + 1)):=by
  obtain ⟨W,F,hO,hW,hF⟩:=split_f ud (ord ud) (ord_sorted ud)
  have hp:=ord_perm ud
  have hOl : (ord ud).length = ud.length:=by rw [hp.length_eq,rng_len]
  have hin : ∀ q ∈ ord ud,0 ≤ q∧q < ud.length:=fun q hq => rng_mem.1 (hp.mem_iff.1 hq)
  have hall : ∀ o : Int,0 ≤ o→o < ud.length→o ∈ ord ud:=fun o h1 h2 => hp.mem_iff.2 (rng_mem.2 ⟨h1,h2⟩)
  have hnd : (ord ud).Nodup:=hp.nodup_iff.2 (rng_nodup _)
  have hWl : well ud = W.length:=by
    unfold well
    rw [cntOrd (fun u => !u.f2) hp,hO,List.countP_append,List.countP_eq_length.2 (fun o ho => by rw [hW o ho];rfl),List.countP_eq_zero.2 (fun o ho => by rw [hF o ho];simp)]
    rfl
  rw [hWl] at hn
  have key : ∀ (xs : List S62) (T' : Int) (e : Option (List S62 × Int × Int)),xs.length = ud.length→(∀ o : Int,0 ≤ o→(rd_T62 xs o).f0 = (rd_T62 ud o).f0∧(rd_T62 xs o).f2 = (rd_T62 ud o).f2)→(∀ o : Int,0 ≤ o→o < xs.length→(rd_T62 xs o).f1 = true→(rd_T62 xs o).f2 = false)→(cnt xs : Int) ≤ n→cnt xs ≤ cnt ud→(T' = T ∨ T' = now) →
      (∀ V, (∀ k', 320 < k' → leadlag_step.j4 k' now n (ord ud) R G us0 S T' xs = V) → e = V) →
      ∃ us' S' T', e = some (us', S', T') ∧
      us'.length = ud.length∧(∀ o : Int,0 ≤ o→(rd_T62 us' o).f0 = (rd_T62 ud o).f0∧(rd_T62 us' o).f2 = (rd_T62 ud o).f2)∧(∀ o : Int,0 ≤ o→o < ud.length→(rd_T62 us' o).f1 = true→(rd_T62 us' o).f2 = false)∧(T' = T ∨ T' = now)∧(cnt us' : Int) ≤ n ∧
      ((S' = S∧cnt us' ≤ cnt ud) ∨ (S' = now∧(S = -1 ∨ now ≥ S + G)∧cnt us' ≤ cnt ud + 1)):=by
    intro xs T' e h1 h2 h3 h4 h5 h6 h7
    obtain ⟨us', S', j1, j2, j3, j4, j5, j6⟩ := j4_f xs (by omega) (ord ud) W F hO (by rw [h1]; exact hp) (fun o ho => by rw [(h2 o (hin o (by rw [hO]; simp [ho])).1).2]; exact hW o ho) h3 now n R G S T' us0 hn h4 hS hS2 hG hG2 (k := 300) (Nat.le_refl _)
    have hV := h7 (some (us', S', T')) (fun k' hk' => up_to (g := fun k => leadlag_step.j4 k now n (ord ud) R G us0 S T' xs) (fun k => (leadlag_step.mono_l k).2.2.1 _ _ _ _ _ _ _ _ _) j1 k' (by omega))
    refine ⟨us', S', T', hV, by omega, fun o ho => ⟨by rw [(j3 o ho).1, (h2 o ho).1], by rw [(j3 o ho).2, (h2 o ho).2]⟩, fun o o1 o2 => j4 o o1 (by omega), h6, j5, ?_⟩
    rcases j6 with ⟨a,b⟩ | ⟨a,b,c⟩
    · exact .inl ⟨a,by omega⟩
    · exact .inr ⟨a,b,by omega⟩
  by_cases c : now ≥ T + R
  · rw [if_pos c]
    have hmn:=(mxmn n (cnt ud)).2.2.2
    generalize ht : mn n (cnt ud) = t at hmn ⊢
    have hlen:=rot_len t (ord ud) 0 ud
    have hkeep:=fun o ho => rot_keep t o ho (ord ud) 0 ud hin
    have hc:=rot_cnt t (ord ud) 0 ud hin hnd
    rw [← cntOrd (fun u => u.f1) (xs:=rot t 0 (ord ud) ud) (O:=ord ud) (by rw [hlen];exact hp)] at hc
    have hc' : cnt (rot t 0 (ord ud) ud) ≤ (t - 0).toNat:=hc
    refine key (rot t 0 (ord ud) ud) now _ hlen hkeep (fun o o1 o2 o3 => ?_) (by omega) (by omega) (.inr rfl) (fun V hV => ?_)
    · rw [hlen] at o2
      have hm:=hall o o1 o2
      rw [(hkeep o o1).2]
      rw [hO,List.mem_append] at hm
      rcases hm with hm | hm
      · exact hW o hm
      · exfalso
        rw [hO,rot_app] at o3
        have hnF : F.Nodup:=by
          rw [hO] at hnd
          exact (List.nodup_append.1 hnd).2.1
        rw [rot_off t F (0 + W.length) (rot t 0 W ud) (fun q hq => by rw [rot_len];exact hin q (by rw [hO];simp [hq])) hnF (by omega) o hm] at o3
        cases o3
    · exact step_l1 now n t R G S T us0 (ord ud) (by omega) 320 V (ord ud) 0 N ud rfl hin (fun k' hk' => hV k' hk') (by omega)
  · rw [if_neg c]
    have hrev : ∀ q ∈ (ord ud).reverse,0 ≤ q∧q < ud.length:=fun q hq => hin q (List.mem_reverse.1 hq)
    have hlen:=offs_len n (ord ud).reverse ud
    have hkeep:=fun o ho => offs_keep n o ho (ord ud).reverse ud hrev
    have hle:=offs_le n hn0 (ord ud).reverse ud hrev (fun o o1 o2 o3 => absurd (List.mem_reverse.2 (hall o o1 o2)) o3)
    have hmono:=cnt_mono (xs:=offs n (ord ud).reverse ud) (ys:=ud) hlen (fun o o1 o2 o3 => (hkeep o o1).2.2 o3)
    refine key (offs n (ord ud).reverse ud) T _ hlen (fun o ho => ⟨(hkeep o ho).1,(hkeep o ho).2.1⟩) (fun o o1 o2 o3 => ?_) hle hmono (.inl rfl) (fun V hV => ?_)
    · rw [hlen] at o2
      rw [(hkeep o o1).2.1]
      exact hud o o1 o2 ((hkeep o o1).2.2 o3)
    · have:=step_l2 now n R G S T us0 (ord ud) (by omega) 320 V (ord ud).length N ud (Nat.le_refl _) (by omega) hin (fun k' hk' => by rw [List.take_length];exact hV k' hk') (by omega)
      exact this
theorem step_f (us : List S62) (fl : List Bool) (hl : us.length ≤ 16) (hf : fl.length = us.length) (R G S T need now : Int) (hR : 1 ≤ R) (hR2 : R ≤ 2678400) (hG : 0 ≤ G) (hG2 : G ≤ 3600) (hS : -1 ≤ S) (hS2 : S ≤ 6311433599) (hT : 0 ≤ T) (hT2 : T ≤ 6311433599) {k : Nat} (hk : 2000 ≤ k) :
    ∃ us' S' T', leadlag_step.f k R G us S T need fl now = some (us', S', T') ∧ us'.length = us.length ∧
      (∀ o : Int,0 ≤ o→o < us.length→(rd_T62 us' o).f0 = (upd (rd_T62 us o) (rdOf false fl o)).f0∧(rd_T62 us' o).f2 = rdOf false fl o∧((rd_T62 us' o).f1 = true→(rd_T62 us' o).f2 = false)) ∧
      (T' = T ∨ T' = now)∧(cnt us' : Int) ≤ mx 0 need∧((S' = S∧cnt us' ≤ cnt us) ∨ (S' = now∧(S = -1 ∨ now ≥ S + G)∧cnt us' ≤ cnt us + 1)):=by
  have hul:=upd_len hf
  have hur:=fun (o : Int) (h1 : 0 ≤ o) (h2 : o < us.length) => upd_rd hf h1 h2
  have hud : ∀ o : Int,0 ≤ o→o < (List.zipWith upd us fl).length→(rd_T62 (List.zipWith upd us fl) o).f1 = true→(rd_T62 (List.zipWith upd us fl) o).f2 = false:=fun o o1 o2 o3 => by
    rw [hul] at o2
    rw [hur o o1 o2] at o3 ⊢
    simp only [upd] at o3 ⊢
    revert o3
    cases (rd_T62 us o).f1 <;> cases rdOf false fl o <;> simp
  have hcm:=cnt_mono (xs:=List.zipWith upd us fl) (ys:=us) hul (fun o o1 o2 o3 => by
    rw [hul] at o2
    rw [hur o o1 o2] at o3
    simp only [upd] at o3
    revert o3
    cases (rd_T62 us o).f1 <;> simp)
  obtain ⟨ud,hud0⟩ : ∃ ud,ud = List.zipWith upd us fl:=⟨_,rfl⟩
  rw [← hud0] at hul hur hud hcm
  have hm:=mxmn 0 (mn need (well ud))
  have hm2:=mxmn need (well ud)
  have hm3:=mxmn 0 need
  have hr : wrap64 (T + R) = T + R:=w64 (by omega) (by omega)
  obtain ⟨us', S', T', e, h1, h2, h3, h4, h5, h6⟩ := mid_f ud (by omega) hud now (mx 0 (mn need (well ud))) R G S T us (by omega) (by omega) hS hS2 hG hG2 700 (by omega)
  refine ⟨us', S', T', ?_, by omega, fun o o1 o2 => ?_, h4, by omega, ?_⟩
  · unfold leadlag_step.f
    rw [if_pos (by omega),if_pos (by omega)]
    simp only [Option.bind_some]
    unfold leadlag_copyUnits.f
    rw [if_pos (by simp)]
    simp only [Option.bind_some]
    have := step_l0 need now R G S T us fl us.length (by omega) hf 1000 (some (us', S', T')) us fl [] k (by simp) (by simp) (fun k' hk' => ?_) (by omega)
    · simpa using this
    · obtain ⟨k', rfl, hk'⟩ := kof hk'
      rw [List.nil_append,← hud0]
      simp only [leadlag_step.l0]
      rw [if_neg (by omega),countWell_f (by omega) S T (by omega)]
      simp only [Option.bind_some]
      rw [order_f ud (by omega) S T (by omega)]
      simp only [Option.bind_some]
      rw [hr]
      by_cases c : now ≥ T + R
      · rw [if_pos c] at e ⊢
        rw [countOn_f (by omega) S T (by omega)]
        simp only [Option.bind_some]
        exact up_to (g:=fun k => leadlag_step.l1 k now (mx 0 (mn need (well ud))) (ord ud) (mn (mx 0 (mn need (well ud))) (cnt ud)) (ord ud) ((ord ud).length : Int) 0 R G us S T ud) (fun k => (leadlag_step.mono_l k).2.2.2.1 _ _ _ _ _ _ _ _ _ _ _ _ _) e k' (by omega)
      · rw [if_neg c] at e ⊢
        have hOl : (ord ud).length = ud.length:=by rw [(ord_perm ud).length_eq,rng_len]
        rw [w64 (x:=((ord ud).length : Int) - 1) (by omega) (by omega)]
        exact up_to (g:=fun k => leadlag_step.l2 k now (mx 0 (mn need (well ud))) (ord ud) (((ord ud).length : Int) - 1) R G us S T ud) (fun k => (leadlag_step.mono_l k).2.2.2.2 _ _ _ _ _ _ _ _ _ _) e k' (by omega)
  · obtain ⟨a,b⟩:=h2 o o1
    rw [a,b,hur o o1 o2]
    refine ⟨rfl,rfl,fun hh => ?_⟩
    have:=h3 o o1 (by omega) hh
    rw [b,hur o o1 o2] at this
    exact this
  · rcases h6 with ⟨a,b⟩ | ⟨a,b,c⟩
    · exact .inl ⟨a,by omega⟩
    · exact .inr ⟨a,b,by omega⟩
end Go.Proofs.Ytbecejhjdagkdaa.PL
