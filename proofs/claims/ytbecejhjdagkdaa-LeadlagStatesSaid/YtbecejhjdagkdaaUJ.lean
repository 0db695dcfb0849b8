/- Leadlag, pure, 8: Play, the needs by reference; Play told the other way. -/
import Derived.Test.YtbecejhjdagkdaaUI
set_option linter.unusedVariables false
set_option linter.unusedSimpArgs false
namespace Go.Eng.N
open Go Go.Eng
section
variable {rot gap now : Int} {s : Ss} {ns : List Int} {f1 f2 : Bool}
theorem f26_p32_sp {ni nn : Nat} {ne : List (List PC)} (hne : SlP ni nn ne (ns.map nic)) (hr : 1 ≤ rot ∧ rot ≤ 2678400 ∧ 0 ≤ gap ∧ gap ≤ 3600) {m : Nat} (hm : m ≤ 16) (hg : Gs m s) (hns : ns.length ≤ 10000) (hnow : ns ≠ [] → 0 ≤ now ∧ now + (ns.length : Int) - 1 ≤ 6311433599) {K : Nat → Nat → List (List PC) → List (List PC) → Prop}
    (h : ∀ i es, SlR i ns.length es ((outU rot gap s ns now ns.length).map sc) → K i ns.length ne es) :
    f26_p32 K (.inl (now, 0, m, 0, 0, ni, nn, ((ns.length : Nat) : Int), 0, ne, rot, gap, s.us.map Un.c, f2, s.st, s.tu, (fls s.us).map fbc, [])) := by
  unfold f26_p32
  have hbb : f26_p32b1 = f26_p32b0 := rfl
  have hnn := hne.n
  rw [List.length_map] at hnn
  have hfl : (fls s.us).length = m := by unfold fls; rw [List.length_map]; exact hg.len
  have hft : List.take m (List.drop 0 ((fls s.us).map fbc)) = (fls s.us).map fbc := by rw [List.drop_zero, List.take_of_length_le (by rw [List.length_map, hfl]; exact Nat.le_refl _)]
  refine LoopP.inv ns.length (fun j x => ∃ i n es f, SlR i n es ((outU rot gap s ns now j).map sc) ∧ ∃ t, (x = .inl t ∨ x = .inr t) ∧ t = (now, 0, m, i, n, ni, nn, ((ns.length : Nat) : Int), (j : Int), ne, rot, gap, (sAt rot gap (fls s.us) s ns now j).us.map Un.c, f, (sAt rot gap (fls s.us) s ns now j).st, (sAt rot gap (fls s.us) s ns now j).tu, (fls s.us).map fbc, es)) 0
    ⟨0, 0, [], f2, SlR.nil, _, .inl rfl, rfl⟩ (Nat.zero_le _) (by omega) ?_ ?_
  · rintro j x _ hj ⟨i, n, es, f, hr', t, hx, rfl⟩ N hN
    have hno := hnow (by intro e; subst e; exact absurd hj (Nat.not_lt_zero _))
    have go : f26_p32b0 now 0 m i n ni nn ((ns.length : Nat) : Int) (j : Int) ne rot gap ((sAt rot gap (fls s.us) s ns now j).us.map Un.c) f (sAt rot gap (fls s.us) s ns now j).st (sAt rot gap (fls s.us) s ns now j).tu ((fls s.us).map fbc) es
        (fun n47 i48 n49 i50 n51 i52 n53 n54 n55 es56 n57 n58 es59 full60 n61 n62 es63 es64 => N (.inl (n47, i48, n49, i50, n51, i52, n53, n54, n55, es56, n57, n58, es59, full60, n61, n62, es63, es64))) (fun n70 i71 n72 i73 n74 i75 n76 n77 n78 es79 n80 n81 es82 full83 n84 n85 es86 es87 => N (.inr (n70, i71, n72, i73, n74, i75, n76, n77, n78, es79, n80, n81, es82, full83, n84, n85, es86, es87))) K := by
      unfold f26_p32b0
      have a := hne.atP hj
      refine bB_t (ltL hj) ⟨by omega, ?_⟩
      rw [toNat_c, a.1, w64_s j (by omega), hft]
      simp only [nic, ext_0, ext_s, ext_z, cS_c, cI_c, cB_c, cL_c, cO_c, oS_c, oI_c, oB_c, oL_c, nilC_c, toNat_c]
      have ew : w64 (now + (j : Int)) = now + (j : Int) := w64_in (by omega) (by omega)
      rw [ew]
      have g := sAt_gs (rot := rot) (gap := gap) (ns := ns) hg hfl hno.1 j (by omega)
      have hn := hr'.n
      rw [List.length_map, outU_len] at hn
      have e1 : sAt rot gap (fls s.us) s ns now (j + 1) = stepU rot gap (sAt rot gap (fls s.us) s ns now j) ns[j] (fls s.us) (now + (j : Int)) := by rw [sAt, getD_in _ _ hj]
      refine f42_ok (by rw [hfl, g.len]) (by rw [g.len]; omega) g.gd g.st.1 g.st.2 g.tu.1 g.tu.2 hr.1 hr.2.1 hr.2.2.1 hr.2.2.2 ?_
      rw [← e1]
      refine ⟨Nat.le_of_eq hr'.len, by omega, by omega, hN _ ⟨_, _, _, _, ?_, _, .inr rfl, rfl⟩⟩
      rw [outU_s, List.map_append]
      exact hr'.push _
    rcases hx with rfl | rfl
    · exact go
    · rw [hbb]; exact go
  · rintro x ⟨i, n, es, f, hr', t, hx, rfl⟩ N
    have hn := hr'.n
    rw [List.length_map, outU_len] at hn
    subst hn
    rw [hbb]
    rcases hx with rfl | rfl
    · unfold f26_p32b0
      exact bB_f (stopL _) (h _ _ hr')
    · unfold f26_p32b0
      exact bB_f (stopL _) (h _ _ hr')
theorem f26_ok {ni nn : Nat} {ne : List (List PC)} (hne : SlP ni nn ne (ns.map nic)) {K : Nat → Nat → Int → List (List PC) → List (List PC) → Prop} (h : ∀ r, r = playE rot gap s ns now → ∀ i es, SlR i r.1.length es (r.1.map sc) → K i r.1.length r.2 ne es) :
    f26 rot gap (s.us.map Un.c) f1 s.st s.tu ni nn now ne K := by
  refine ⟨?_⟩
  unfold f26_d
  unfold playE at h
  have hnn := hne.n
  rw [List.length_map] at hnn
  refine f14_ok (bB_of (fun h1 => ?_) fun h1 => ?_)
  · have h1 : checkV rot gap s.us s.st s.tu ≠ 0 := by simpa using h1
    rw [if_pos h1] at h
    exact h _ rfl _ _ SlR.nil
  have h1 : checkV rot gap s.us s.st s.tu = 0 := by simpa using h1
  rw [if_neg (by rw [h1]; decide)] at h
  have hc := checkV_0 h1
  have hr := okR_t hc.1
  have hs := okS_t hc.2
  subst hnn
  refine bB_of (fun h2 => ?_) fun h2 => ?_
  · rw [if_pos (by have := of_decide_eq_true h2; omega)] at h
    exact h _ rfl _ _ SlR.nil
  have h2 := of_decide_eq_false h2
  rw [if_neg (by omega)] at h
  have go : (ns ≠ [] → timV s.st s.tu now = true ∧ now + (ns.length : Int) - 1 ≤ 6311433599) → f26_p17 ni ns.length now ne rot gap (s.us.map Un.c) f1 s.st s.tu (fun i93 n94 n95 es96 es97 => K i93 n94 n95 es96 es97) := by
    intro hh
    unfold f26_p17
    rw [List.length_map, toNat_c]
    refine ⟨by omega, f26_p20_sp rfl (by omega) ?_⟩
    refine f26_p32_sp hne hr (by omega) (Gs.of hc.2) (by omega) (fun hn => ⟨(timV_t.1 (hh hn).1).1.1, (hh hn).2⟩) fun i es hr' => ?_
    by_cases hn : ns = []
    · rw [if_pos hn] at h
      subst hn
      exact h _ rfl _ _ hr'
    · rw [if_neg hn, if_pos (hh hn)] at h
      have := h _ rfl i es
      dsimp only at this
      rw [outU_len] at this
      exact this hr'
  refine bB_of (fun h3 => ?_) fun h3 => go fun hn => ?_
  · have h3 := of_decide_eq_true h3
    have hn : ns ≠ [] := by rintro rfl; simp at h3
    rw [if_neg hn] at h
    refine f41_ok (bB_of (fun h4 => ?_) fun h4 => ?_)
    · rw [Bool.not_eq_true'] at h4
      rw [if_neg (by rw [h4]; simp)] at h
      exact h _ rfl _ _ SlR.nil
    · rw [Bool.not_eq_false'] at h4
      have ht := timV_t.1 h4
      have ew : w64 (w64 (now + (ns.length : Int)) - 1) = now + (ns.length : Int) - 1 := by rw [w64_in (n := now + (ns.length : Int)) (by omega) (by omega), w64_in (by omega) (by omega)]
      rw [ew]
      refine bB_of (fun h5 => ?_) fun h5 => go fun _ => ⟨h4, ?_⟩
      · rw [if_neg (by have := of_decide_eq_true h5; omega)] at h
        exact h _ rfl _ _ SlR.nil
      · have := of_decide_eq_false h5; omega
  · have h3 := of_decide_eq_false h3
    have : 0 < ns.length := List.length_pos_iff.2 hn
    omega
theorem f27_p16_sp {us : List Un} {a1 a2 a3 a4 a5 : Int} {e1 : List (List PC)} (hl : us.length < 2 ^ 40) {K : Nat → Nat → List (List PC) → Prop} (h : ∀ i es, SlR i us.length es ((fls us).map fbc) → K i us.length es) : f27_p16 e1 f1 a1 a2 a3 (us.map Un.c) f2 a4 a5 K (0, 0, 0, []) := by
  unfold f27_p16
  refine LoopP.inv us.length (fun j x => x.2.2.1 = (j : Int) ∧ SlR x.1 x.2.1 x.2.2.2 ((fls (us.take j)).map fbc)) 0 ⟨rfl, SlR.nil⟩ (Nat.zero_le _) (by omega) ?_ ?_
  · rintro j ⟨i, n, x, es⟩ _ hj ⟨rfl, hr⟩ N hN
    have hr : SlR i n es _ := hr
    have hn := hr.n
    rw [List.length_map, fls, List.length_map, List.length_take] at hn
    have hp := hr.push (fbc us[j].fl)
    unfold f27_p16b0
    dsimp only
    refine bB_t (ltM _ _ hj) ⟨rngM _ _ hj, ?_⟩
    rw [toNat_c, getD_map _ _ _ hj, w64_s j (by omega)]
    have fin : SlR 0 (n + 1) (List.take n (List.drop i es) ++ [fbc us[j].fl]) ((fls (us.take (j + 1))).map fbc) := by
      unfold fls at hp ⊢
      rw [List.take_succ_eq_append_getElem hj, List.map_append, List.map_append]; exact hp
    generalize us[j] = u at fin ⊢
    simp only [Un.c, ext_0, ext_s, ext_z, cS_c, cI_c, cB_c, cL_c, cO_c, oS_c, oI_c, oB_c, oL_c, nilC_c, toNat_c]
    exact ⟨Nat.le_of_eq hr.len, by omega, by omega, hN _ ⟨rfl, fin⟩⟩
  · rintro ⟨i, n, x, es⟩ ⟨rfl, hr⟩ N
    have hr : SlR i n es _ := hr
    rw [List.take_of_length_le (Nat.le_refl _)] at hr
    have hn := hr.n
    rw [List.length_map, fls, List.length_map] at hn
    subst hn
    unfold f27_p16b0
    dsimp only
    exact bB_f (stopM _ _) (h _ _ hr)
theorem f27_p26_sp (hr : 1 ≤ rot ∧ rot ≤ 2678400 ∧ 0 ≤ gap ∧ gap ≤ 3600) {m : Nat} (hm : m ≤ 16) (hg : Gs m s) (hns : ns.length ≤ 10000) {fi : Nat} {fe : List (List PC)} (hfe : SlR fi m fe ((fls s.us).map fbc)) {K0 : Int → Prop} {K1 : Nat → Nat → List (List PC) → Prop}
    (h0 : ns ≠ [] → ¬ (timV s.st s.tu now = true ∧ now + (ns.length : Int) - 1 ≤ 6311433599) → K0 6)
    (h1 : (ns ≠ [] → timV s.st s.tu now = true ∧ now + (ns.length : Int) - 1 ≤ 6311433599) → ∀ i n es, SlR i n es ((outU rot gap s ns now ns.length).map sc) → K1 i n es) :
    f27_p26 K0 K1 (.inl (ns.map nic, f1, now, fi, m, 0, 0, 0, rot, gap, s.us.map Un.c, f2, s.st, s.tu, fe, [])) := by
  unfold f27_p26
  have hbb : f27_p26b1 = f27_p26b0 := rfl
  have hfl : (fls s.us).length = m := by unfold fls; rw [List.length_map]; exact hg.len
  refine LoopP.inv ns.length (fun j x => (0 < j → timV s.st s.tu now = true ∧ now + (j : Int) - 1 ≤ 6311433599) ∧ ∃ i n es f, SlR i n es ((outU rot gap s ns now j).map sc) ∧ ∃ t, (x = .inl t ∨ x = .inr t) ∧ t = (ns.map nic, f1, now + (j : Int), fi, m, i, n, (j : Int), rot, gap, (sAt rot gap (fls s.us) s ns now j).us.map Un.c, f, (sAt rot gap (fls s.us) s ns now j).st, (sAt rot gap (fls s.us) s ns now j).tu, fe, es)) 0
    ⟨fun hc => absurd hc (Nat.lt_irrefl 0), 0, 0, [], f2, SlR.nil, _, .inl rfl, by simp [sAt]⟩ (Nat.zero_le _) (by omega) ?_ ?_
  · rintro j x _ hj ⟨hp, i, n, es, f, hr', t, hx, rfl⟩ N hN
    have hne : ns ≠ [] := by intro e; subst e; exact absurd hj (Nat.not_lt_zero _)
    have go : f27_p26b0 (ns.map nic) f1 (now + (j : Int)) fi m i n (j : Int) rot gap ((sAt rot gap (fls s.us) s ns now j).us.map Un.c) f (sAt rot gap (fls s.us) s ns now j).st (sAt rot gap (fls s.us) s ns now j).tu fe es
        (fun es28 full29 n30 i31 n32 i33 n34 n35 n36 n37 es38 full39 n40 n41 es42 es43 => N (.inl (es28, full29, n30, i31, n32, i33, n34, n35, n36, n37, es38, full39, n40, n41, es42, es43))) (fun es50 full51 n52 i53 n54 i55 n56 n57 n58 n59 es60 full61 n62 n63 es64 es65 => N (.inr (es50, full51, n52, i53, n54, i55, n56, n57, n58, n59, es60, full61, n62, n63, es64, es65))) K0 K1 := by
      unfold f27_p26b0
      refine bB_t (ltM _ _ hj) (f43_ok (bB_of (fun k1 => h0 hne ?_) fun k1 => ⟨rngM _ _ hj, ?_⟩))
      · rw [Bool.not_eq_true', Bool.eq_false_iff] at k1
        rintro ⟨k2, k3⟩
        have k4 := timV_t.1 k2
        refine k1 (timV_t.2 ?_)
        have a := sAt_now (rot := rot) (gap := gap) (fs := fls s.us) (ns := ns) k4.2.2 k4.2.1 j
        exact ⟨⟨by omega, by omega⟩, a.2, a.1⟩
      · rw [Bool.not_eq_false'] at k1
        have k2 := timV_t.1 k1
        have k3 : timV s.st s.tu now = true := by
          rcases Nat.eq_zero_or_pos j with h3 | h3
          · subst h3; simpa [sAt] using k1
          · exact (hp h3).1
        have k4 := timV_t.1 k3
        rw [toNat_c, getD_map _ _ _ hj, w64_s j (by omega), hfe.take]
        simp only [nic, ext_0, ext_s, ext_z, cS_c, cI_c, cB_c, cL_c, cO_c, oS_c, oI_c, oB_c, oL_c, nilC_c, toNat_c]
        have ew : w64 (now + (j : Int) + 1) = now + ((j + 1 : Nat) : Int) := by rw [w64_in (by omega) (by omega)]; omega
        rw [ew]
        have g := sAt_gs (rot := rot) (gap := gap) (ns := ns) hg hfl k4.1.1 j (by omega)
        have hn := hr'.n
        rw [List.length_map, outU_len] at hn
        have e1 : sAt rot gap (fls s.us) s ns now (j + 1) = stepU rot gap (sAt rot gap (fls s.us) s ns now j) ns[j] (fls s.us) (now + (j : Int)) := by rw [sAt, getD_in _ _ hj]
        refine f44_ok (by rw [hfl, g.len]) (by rw [g.len]; omega) g.gd g.st.1 g.st.2 g.tu.1 g.tu.2 hr.1 hr.2.1 hr.2.2.1 hr.2.2.2 ?_
        rw [← e1]
        refine ⟨Nat.le_of_eq hr'.len, by omega, by omega, hN _ ⟨fun _ => ⟨k3, by omega⟩, _, _, _, _, ?_, _, .inr rfl, rfl⟩⟩
        rw [outU_s, List.map_append]
        exact hr'.push _
    rcases hx with rfl | rfl
    · exact go
    · rw [hbb]; exact go
  · rintro x ⟨hp, i, n, es, f, hr', t, hx, rfl⟩ N
    have hfin := h1 (fun hne => hp (List.length_pos_iff.2 hne)) _ _ _ hr'
    rw [hbb]
    rcases hx with rfl | rfl
    · unfold f27_p26b0
      exact bB_f (stopM _ _) hfin
    · unfold f27_p26b0
      exact bB_f (stopM _ _) hfin
theorem f27_ok {K : List (List PC) → Bool → Int → Prop} (h : ∀ r f, r = playE rot gap s ns now → K (r.1.map sc) f r.2) :
    f27 rot gap (s.us.map Un.c) f1 s.st s.tu (ns.map nic) f2 now K := by
  refine ⟨?_⟩
  unfold f27_d
  unfold playE at h
  refine f16_ok (bB_of (fun h1 => ?_) fun h1 => ?_)
  · have h1 : checkV rot gap s.us s.st s.tu ≠ 0 := by simpa using h1
    rw [if_pos h1] at h
    exact h _ _ rfl
  have h1 : checkV rot gap s.us s.st s.tu = 0 := by simpa using h1
  rw [if_neg (by rw [h1]; decide)] at h
  have hc := checkV_0 h1
  have hr := okR_t hc.1
  have hs := okS_t hc.2
  rw [List.length_map]
  refine bB_of (fun h2 => ?_) fun h2 => ?_
  · rw [if_pos (by have := of_decide_eq_true h2; omega)] at h
    exact h _ _ rfl
  have h2 := of_decide_eq_false h2
  rw [if_neg (by omega)] at h
  refine f27_p16_sp (by omega) fun fi fe hfe => ?_
  refine f27_p26_sp hr (by omega) (Gs.of hc.2) (by omega) hfe (fun hn hno => ?_) fun hy i n es hr' => ?_
  · rw [if_neg hn, if_neg hno] at h
    exact h _ _ rfl
  · rw [hr'.take]
    by_cases hn : ns = []
    · rw [if_pos hn] at h
      subst hn
      exact h _ _ rfl
    · rw [if_neg hn, if_pos (hy hn)] at h
      exact h _ _ rfl
end
end Go.Eng.N
