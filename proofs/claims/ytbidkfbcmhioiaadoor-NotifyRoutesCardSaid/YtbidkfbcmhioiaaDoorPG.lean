/- Notify, pure, 7: what Without leaves, the program's. -/
import Derived.Test.YtbidkfbcmhioiaaDoorPF
import Derived.Test.YtbidkfbcmhioiaaDoorFn2
set_option linter.unusedVariables false
set_option linter.unusedSimpArgs false
set_option maxRecDepth 100000
namespace Go.Eng.N
open Go Go.Eng
theorem f58_1_p18_sp {r : Rc} (hr : Good r) {d : Nat} (hd : d < 7) {k : Nat} (hk : k ≤ 2) {g : Nat → Bool} {i0 n0 : Nat} {es : List (List PC)} {n1 n2 n3 : Int} {cs : List PC} {K : List PC → Prop}
    (h : K (tabC 10080 fun i => g i || (decide (i / 1440 = d) && tellB r d ((i % 1440 : Nat) : Int) k))) : f58_1_p18 ((2 ^ k : Nat) : Int) (d : Int) i0 n0 n1 n2 n3 es cs r.nm r.days r.fr r.to r.kinds K (r.fr, tabC 10080 g) := by
  have h1 := hr.f1
  have h2 := hr.f2
  have h3 := hr.t
  unfold f58_1_p18
  refine LoopP.inv (r.to.toNat + 1) (fun m x => x = ((m : Int), tabC 10080 fun i => g i || (decide (i / 1440 = d ∧ i % 1440 < m) && tellB r d ((i % 1440 : Nat) : Int) k))) r.fr.toNat ?_ (by omega) (by omega) ?_ ?_
  · refine pair_eq (by omega) (tab_congr fun i hi => ?_)
    by_cases hc : i / 1440 = d ∧ i % 1440 < r.fr.toNat
    · rw [tell_out (.inl (by omega))]; simp
    · rw [decide_eq_false hc]; simp
  · rintro m x hm1 hm2 rfl N hN
    unfold f58_1_p18b0
    dsimp only
    have hr7 : 0 ≤ (d : Int) ∧ (d : Int) < 7 := by omega
    have hrm : 0 ≤ (m : Int) ∧ (m : Int) < 1440 := by omega
    have hi : d * 1440 + m < 10080 := by omega
    refine bB_t (decide_eq_true (by omega)) ⟨hr7, hrm, ?_⟩
    rw [ix_eq, tab_ext1 _ _ hi, oB_c]
    have fin : ∀ b : Bool, b = (g (d * 1440 + m) || tellB r d (m : Int) k) → N (w64 ((m : Int) + 1), splice (tabC 10080 fun i => g i || (decide (i / 1440 = d ∧ i % 1440 < m) && tellB r d ((i % 1440 : Nat) : Int) k)) (d * 1440 + m) [pB b]) := fun b hb => by
      rw [w64_s m (by omega), tab_set _ _ hi]
      refine hN _ (pair_eq rfl (tab_congr fun j hj => ?_))
      by_cases e : j = d * 1440 + m
      · subst e
        have e1 : (d * 1440 + m) / 1440 = d := by omega
        have e2 : (d * 1440 + m) % 1440 = m := by omega
        rw [if_pos rfl, hb, e1, e2, decide_eq_true (show d = d ∧ m < m + 1 by omega)]
        simp
      · rw [if_neg e]
        congr 2
        rw [decide_eq_decide]
        omega
    have e1 : (d * 1440 + m) / 1440 = d := by omega
    have e2 : (d * 1440 + m) % 1440 = m := by omega
    refine bB_of (fun hb => ⟨hr7, hrm, rfl, by rw [tab_len]; omega, fin true ?_⟩) fun hb => ⟨hr7, ?_⟩
    · rw [decide_eq_false (by omega)] at hb
      simp only [Bool.false_and, Bool.or_false] at hb
      rw [hb]; rfl
    · rw [decide_eq_false (by omega)] at hb
      simp only [Bool.false_and, Bool.or_false] at hb
      rw [w64_in (by omega) (by omega)]
      refine f91_ok hr hd hk ⟨hrm, rfl, by rw [tab_len]; omega, fin _ ?_⟩
      rw [hb]; rfl
  · rintro x rfl N
    unfold f58_1_p18b0
    dsimp only
    refine bB_f (decide_eq_false (by omega)) ?_
    rw [tab_congr (h := fun i => g i || (decide (i / 1440 = d) && tellB r d ((i % 1440 : Nat) : Int) k)) fun i hi => ?_]
    · exact h
    by_cases hc : i % 1440 < r.to.toNat + 1
    · simp [hc]
    · rw [tell_out (.inr (by omega))]; simp
theorem f58_1_p12_sp {r : Rc} (hr : Good r) {k : Nat} (hk : k ≤ 2) {g : Nat → Bool} {i0 n0 : Nat} {es : List (List PC)} {n1 n2 : Int} {cs : List PC} {K : List PC → Prop}
    (h : K (tabC 10080 fun i => g i || tellB r (i / 1440) ((i % 1440 : Nat) : Int) k)) : f58_1_p12 ((2 ^ k : Nat) : Int) i0 n0 n1 n2 es cs r.nm r.days r.fr r.to r.kinds K (0, tabC 10080 g) := by
  unfold f58_1_p12
  refine LoopP.inv 7 (fun d x => x = ((d : Int), tabC 10080 fun i => g i || (decide (i / 1440 < d) && tellB r (i / 1440) ((i % 1440 : Nat) : Int) k))) 0 (pair_eq rfl (tab_congr fun i hi => by simp)) (by omega) (by omega) ?_ ?_
  · rintro d x _ hd rfl N hN
    unfold f58_1_p12b0
    dsimp only
    refine bB_t (decide_eq_true (by omega)) (f58_1_p18_sp hr hd hk ?_)
    rw [w64_s d (by omega)]
    refine hN _ (pair_eq rfl (tab_congr fun i hi => ?_))
    by_cases e : i / 1440 = d
    · subst e; simp
    · have e2 : (decide (i / 1440 < d)) = decide (i / 1440 < d + 1) := by rw [decide_eq_decide]; omega
      simp only [decide_eq_false e, Bool.false_and, Bool.or_false, e2]
  · rintro x rfl N
    unfold f58_1_p12b0
    dsimp only
    refine bB_f (decide_eq_false (by omega)) ?_
    rw [tab_congr (h := fun i => g i || tellB r (i / 1440) ((i % 1440 : Nat) : Int) k) fun i hi => ?_]
    · exact h
    rw [decide_eq_true (by omega), Bool.true_and]
theorem f58_1_ok {rs : List Rc} {i n : Nat} {es : List (List PC)} (hP : SlP i n es (rs.map Rc.c)) (hl : rs.length ≤ 2 ^ 40) (hg : ∀ r ∈ rs, Good r) {k : Nat} (hk : k ≤ 2) {K : List PC → List (List PC) → Prop} (h : K (tabC 10080 (wk rs k)) es) : f58_1 i n ((2 ^ k : Nat) : Int) es K := by
  refine ⟨?_⟩
  have hn : n = rs.length := by have := hP.n; rwa [List.length_map] at this
  unfold f58_1_d f58_1_p6
  refine LoopP.inv rs.length (fun j x => x = ((j : Int), tabC 10080 (wk (rs.take j) k))) 0 (pair_eq rfl ((tab_rep _).trans (tab_congr fun i hi => by simp [wk, anyB]))) (Nat.zero_le _) (by omega) ?_ ?_
  · rintro j x _ hj rfl N hN
    unfold f58_1_p6b0
    dsimp only
    refine bB_t (decide_eq_true (by omega)) ⟨by omega, ?_⟩
    rw [toNat_c, hP.at (by rw [List.length_map]; exact hj), List.getElem_map]
    simp only [Rc.c, ext_0, ext_s, ext_z, cS_c, cI_c, cB_c, cL_c, cO_c, oS_c, oI_c, oB_c, oL_c, nilC_c, toNat_c]
    refine f58_1_p12_sp (hg _ (List.getElem_mem hj)) hk ?_
    rw [w64_s j (by omega)]
    exact hN _ (pair_eq rfl (tab_congr fun i hi => (wk_take rs k hj i).symm))
  · rintro x rfl N
    unfold f58_1_p6b0
    dsimp only
    refine bB_f (decide_eq_false (by omega)) ?_
    rw [List.take_length]
    exact plan_end (K := fun cs => K cs es) h
theorem splice_c (a b : Rc) : splice (Rc.c a) 0 (Rc.c b) = Rc.c b := splice_all rfl
/-- The recipients that stay. -/
def keepV (who : ByteArray) (rs : List Rc) : List Rc := rs.filter fun r => decide (r.nm ≠ who)
theorem f63_ok {r : Rc} {who : ByteArray} {K : Bool → ByteArray → Prop} (h : K (decide (r.nm = who)) who) : f63 r.nm r.days r.fr r.to r.kinds who K := by
  refine ⟨?_⟩
  unfold f63_d
  rw [beqL]
  exact h
theorem f61_ok {rs : List Rc} (hl : rs.length ≤ 2 ^ 40) {who : ByteArray} {K : Nat → Nat → List (List PC) → ByteArray → Prop}
    (h : ∀ m es, SlP 0 m es ((keepV who rs).map Rc.c) → K 0 m es who) : f61 0 rs.length (rs.map Rc.c) who K := by
  refine ⟨?_⟩
  unfold f61_d
  refine ⟨?_⟩
  unfold f88_2_d f88_2_p4
  have split : ∀ j (hj : j < rs.length), keepV who (rs.take (j + 1)) = keepV who (rs.take j) ++ (if rs[j].nm = who then [] else [rs[j]]) := fun j hj => by
    unfold keepV
    rw [List.take_succ_eq_append_getElem hj, List.filter_append]
    congr 1
    by_cases e : rs[j].nm = who <;> simp [e]
  refine LoopP.findS (fun j => ((j : Int), who)) rfl rs (fun r => decide (r.nm = who)) (A := fun j => (keepV who (rs.take j) = rs.take j ∧ ∃ hj : j < rs.length, rs[j].nm = who)) (B := keepV who rs = rs) (by omega) (fun j hj h1 h2 => ⟨?_, hj, by simpa using h1⟩) (fun hq => ?_) (fun j hj N hA hN => ?_) fun N hB => ?_
  · unfold keepV
    rw [List.filter_eq_self]
    intro x hx
    obtain ⟨i, hi, rfl⟩ := List.getElem_of_mem hx
    rw [List.length_take] at hi
    have := h2 i (by omega)
    rw [List.getElem_take]
    simpa using this
  · unfold keepV
    rw [List.filter_eq_self]
    intro x hx
    have := hq x hx
    simpa using this
  · unfold f88_2_p4b0
    dsimp only
    refine bB_t (decide_eq_true (by omega)) ⟨by omega, ?_⟩
    rw [toNat_c, Nat.zero_add, getD_map _ _ _ hj]
    simp only [Rc.c, ext_0, ext_s, ext_z, cS_c, cI_c, cB_c, cL_c, cO_c, oS_c, oI_c, oB_c, oL_c, nilC_c, toNat_c]
    refine f63_ok (bB_of (fun h1 => ?_) fun h1 => ?_)
    · obtain ⟨h2, _, h3⟩ := hA h1
      refine bB_f (by rw [beqD]; exact decide_eq_false (by omega)) ?_
      unfold f61_p10
      rw [w64_s j (by omega)]
      refine LoopP.inv rs.length (fun r x => ∃ xs : List Rc, x = (((keepV who (rs.take r)).length : Int), (r : Int), xs.map Rc.c, who) ∧ xs.length = rs.length ∧ xs.take (keepV who (rs.take r)).length = keepV who (rs.take r) ∧ xs.drop r = rs.drop r ∧ (keepV who (rs.take r)).length ≤ r) (j + 1) ?_ hj (by omega) ?_ ?_
      · have e : keepV who (rs.take (j + 1)) = rs.take j := by rw [split j hj, h2, if_pos h3, List.append_nil]
        rw [e]
        refine ⟨rs, ?_, rfl, ?_, rfl, ?_⟩
        · rw [List.length_take, Nat.min_eq_left (by omega)]
        · rw [List.length_take, Nat.min_eq_left (by omega)]
        · rw [List.length_take]; omega
      · rintro r x hr1 hr ⟨xs, rfl, hlen, htk, hdr, hle⟩ N hN
        unfold f61_p10b0
        dsimp only
        have hxr : r < xs.length := by omega
        have hv : xs[r] = rs[r] := by
          have := congrArg (fun l => l[0]?) hdr
          simp only [List.getElem?_drop, Nat.add_zero, List.getElem?_eq_getElem hxr, List.getElem?_eq_getElem hr, Option.some.injEq] at this
          exact this
        have hs := split r hr
        refine bB_t (decide_eq_true (by omega)) ⟨by omega, ?_⟩
        rw [toNat_c, Nat.zero_add, getD_map _ _ _ hxr, hv]
        simp only [Rc.c, ext_0, ext_s, ext_z, cS_c, cI_c, cB_c, cL_c, cO_c, oS_c, oI_c, oB_c, oL_c, nilC_c, toNat_c]
        refine f63_ok (bB_of (fun h4 => ⟨by omega, by rw [List.length_map]; omega, ?_⟩) fun h4 => ?_)
        · have h5 : ¬ rs[r].nm = who := by simpa using h4
          rw [if_neg h5] at hs
          rw [w64_s r (by omega), w64_s _ (by omega)]
          have hw : (keepV who (rs.take r)).length < xs.length := by omega
          refine hN _ ⟨xs.set (keepV who (rs.take r)).length rs[r], ?_, by rw [List.length_set]; exact hlen, ?_, ?_, ?_⟩
          · rw [hs, List.length_append, List.length_singleton, Nat.zero_add, getD_map _ _ _ hw]
            rw [show [pS rs[r].nm, pI rs[r].days, pI rs[r].fr, pI rs[r].to, pI rs[r].kinds] = Rc.c rs[r] from rfl, splice_c, List.map_set]
          · rw [hs, List.length_append, List.length_singleton, List.take_succ_eq_append_getElem (by rw [List.length_set]; exact hw), List.take_set_of_le (Nat.le_refl _), htk, List.getElem_set_self]
          · rw [List.drop_set_of_lt (by omega), ← List.drop_drop, hdr, List.drop_drop]
          · rw [hs, List.length_append, List.length_singleton]; omega
        · have h5 : rs[r].nm = who := by simpa using h4
          rw [if_pos h5, List.append_nil] at hs
          rw [w64_s r (by omega)]
          refine hN _ ⟨xs, by rw [hs], hlen, by rw [hs]; exact htk, ?_, by rw [hs]; omega⟩
          rw [← List.drop_drop, hdr, List.drop_drop]
      · rintro x ⟨xs, rfl, hlen, htk, hdr, hle⟩ N
        rw [List.take_length] at htk hle ⊢
        unfold f61_p10b0
        dsimp only
        refine bB_f (decide_eq_false (by omega)) ⟨⟨by omega, by omega, by omega⟩, ?_, ⟨by omega, by omega, by omega⟩, ?_⟩
        · rw [List.length_map]; simp only [toNat_c]; omega
        · simp only [toNat_c, Nat.zero_add, Nat.sub_zero]
          refine h _ _ ⟨?_, ?_⟩
          · unfold splice
            simp only [List.length_append, List.length_take, List.length_drop, List.length_map, List.length_replicate]
            omega
          · unfold splice
            rw [List.drop_zero, List.take_append_of_le_length (by rw [List.length_take, List.length_map]; omega), List.take_take, Nat.min_self, ← List.map_take, htk]
    · rw [w64_s j (by omega)]
      exact hN h1
  · unfold f88_2_p4b0
    dsimp only
    refine bB_f (decide_eq_false (by omega)) (bB_t (by decide) ?_)
    refine h _ _ ⟨?_, ?_⟩
    · rw [List.length_map]; omega
    · rw [hB, List.drop_zero, List.take_of_length_le (by rw [List.length_map]; exact Nat.le_refl _)]
/-- Is there a minute that only those tell who go? -/
def confl (rs out : List Rc) : Bool := (List.range 3).any fun k => !sameT 10080 (wk rs k) (wk out k)
def noCls : Cls := ⟨⟨#[]⟩, 0, 0, []⟩
/-- What Without answers. -/
def withoutV (c : Cls) (who : ByteArray) : Cls × Int :=
  if checkV c.nm c.pri c.acks c.rs ≠ 0 then (noCls, checkV c.nm c.pri c.acks c.rs) else if (keepV who c.rs).length = c.rs.length then (noCls, 3)
  else if confl c.rs (keepV who c.rs) = true then (noCls, 10) else (⟨c.nm, c.pri, c.acks, keepV who c.rs⟩, 0)
theorem f27_ok {nm : ByteArray} {pri acks : Int} {rs : List Rc} {full : Bool} (hn : nm.size < 2 ^ 59) (hs : Sz rs) {who : ByteArray} {K : ByteArray → Int → Int → List (List PC) → Bool → Int → Prop}
    (h : ∀ fl, K (withoutV ⟨nm, pri, acks, rs⟩ who).1.nm (withoutV ⟨nm, pri, acks, rs⟩ who).1.pri (withoutV ⟨nm, pri, acks, rs⟩ who).1.acks ((withoutV ⟨nm, pri, acks, rs⟩ who).1.rs.map Rc.c) fl (withoutV ⟨nm, pri, acks, rs⟩ who).2) : f27 nm pri acks (rs.map Rc.c) full who K := by
  refine ⟨?_⟩
  unfold f27_d
  unfold withoutV at h
  dsimp only at h
  refine f16_ok hn hs (bB_of (fun h1 => ?_) fun h1 => ?_)
  · rw [if_pos (by simpa using h1)] at h; exact h true
  · rw [if_neg (by simpa using h1)] at h
    have hg := check_good (by simpa using h1)
    have hl : rs.length ≤ 2 ^ 40 := by have := hg.1; omega
    have hlk : (keepV who rs).length ≤ rs.length := List.length_filter_le _ _
    have rest : f61 0 rs.length (rs.map Rc.c) who (fun i11 n12 es13 s14 => bB (((n12 : Nat) : Int) == (((rs.map Rc.c).length : Nat) : Int)) (K (⟨#[]⟩ : ByteArray) 0 0 [] true 3) (f27_p18 3 nm pri acks (rs.map Rc.c) full (⟨#[]⟩ : ByteArray) 0 0 nm pri acks i11 n12 (fun n35 s36 n37 n38 => K s36 n37 n38 [] true n35) (fun es39 => K nm pri acks (List.take n12 (List.drop i11 es39)) false 0) (0, es13))) := by
      refine f61_ok hl fun m es hP => ?_
      have hm := hP.n
      rw [List.length_map] at hm
      refine bB_of (fun h2 => ?_) fun h2 => ?_
      · rw [if_pos (by rw [List.length_map] at h2; simp only [beq_iff_eq] at h2; omega)] at h
        exact h true
      · rw [if_neg (by rw [List.length_map] at h2; simp only [beq_eq_false_iff_ne] at h2; omega)] at h
        unfold f27_p18
        refine LoopP.anyS (fun k => ((k : Int), es)) rfl (List.range 3) (fun k => !sameT 10080 (wk rs k) (wk (keepV who rs) k)) (A := K ⟨#[]⟩ 0 0 [] true 10) (B := K nm pri acks ((keepV who rs).map Rc.c) false 0) (by decide) (fun e => ?_) (fun e => ?_) (fun k hk N hA hN => ?_) fun N hB => ?_
        · rw [if_pos (show confl rs (keepV who rs) = true from e)] at h; exact h true
        · rw [if_neg (fun hc : confl rs (keepV who rs) = true => absurd (e.symm.trans hc) (by decide))] at h; exact h false
        · have hk3 : k < 3 := by simpa using hk
          rw [List.getElem_range] at hA hN
          unfold f27_p18b0
          dsimp only
          refine bB_t (decide_eq_true (by omega)) ⟨by omega, by omega, ?_⟩
          rw [shlI k (by omega)]
          have eT := eqCells_tab 10080 (wk rs k) (wk (keepV who rs) k)
          refine f58_ok hl hg.2.2.2.1 (by omega) (f58_1_ok hP (by omega) (fun r hr => hg.2.2.2.1 r (List.mem_filter.1 hr).1) (by omega) ?_)
          refine Exists.intro (sameT 10080 (wk rs k) (wk (keepV who rs) k)) (And.intro eT (bB_of hA fun h3 => ?_))
          rw [w64_s k (by omega)]
          exact hN h3
        · unfold f27_p18b0
          dsimp only
          refine bB_f (decide_eq_false (by rw [List.length_range]; omega)) ?_
          rw [hP.take]
          exact hB
    refine ⟨?_⟩
    unfold f62_d
    refine ⟨fun h2 => ?_, rfl, ?_, ?_, ?_⟩
    · have : rs = [] := by cases rs with
        | nil => rfl
        | cons _ _ => simp at h2
      subst this
      exact rest
    · rw [List.length_map]; have := hg.1; omega
    · rw [List.length_map]; have := hg.1; omega
    · have e : 0 + (rs.map Rc.c).length = rs.length := by simp
      show f61 0 (0 + (rs.map Rc.c).length) (rs.map Rc.c) who _
      rw [e]
      exact rest
end Go.Eng.N
