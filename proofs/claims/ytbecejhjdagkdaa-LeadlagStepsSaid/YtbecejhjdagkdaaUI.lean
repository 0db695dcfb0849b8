/- Leadlag, pure, 7: Play. -/
import Derived.Test.YtbecejhjdagkdaaUH
import Derived.Test.YtbecejhjdagkdaaFn2
set_option linter.unusedVariables false
set_option linter.unusedSimpArgs false
namespace Go.Eng.N
open Go Go.Eng
structure Gs (m : Nat) (s : Ss) : Prop where
  len : s.us.length = m
  gd : ∀ u ∈ s.us, Gd u
  st : -1 ≤ s.st ∧ s.st ≤ 6311433599
  tu : 0 ≤ s.tu ∧ s.tu ≤ 6311433599
theorem Gs.of {us : List Un} {st tu : Int} (h : okS us st tu = true) : Gs us.length ⟨us, st, tu⟩ := by
  have := okS_t h
  exact ⟨rfl, this.2.1, this.2.2.1, this.2.2.2⟩
theorem setOn_gd {us : List Un} (h : ∀ u ∈ us, Gd u) (j : Nat) (b : Bool) : ∀ u ∈ setOn us j b, Gd u := by
  intro u hu
  unfold setOn at hu
  by_cases hj : j < us.length
  · rcases List.mem_or_eq_of_mem_set hu with h1 | h1
    · exact h u h1
    · subst h1
      rw [getD_in _ _ hj]
      have := h _ (List.getElem_mem hj)
      exact ⟨this.lo, this.hi⟩
  · rw [List.set_eq_of_length_le (by omega)] at hu
    exact h u hu
theorem rotK_gd {t : Int} {ord : List Nat} {us : List Un} (h : ∀ u ∈ us, Gd u) : ∀ k, ∀ u ∈ rotK t ord us k, Gd u
  | 0 => h
  | k + 1 => setOn_gd (rotK_gd h k) _ _
theorem offK_gd {n : Int} {ord : List Nat} : ∀ k {us : List Un}, (∀ u ∈ us, Gd u) → ∀ u ∈ offK n ord k us, Gd u
  | 0, _, h => h
  | k + 1, us, h => by
    unfold offK
    split
    · exact offK_gd k (setOn_gd h _ _)
    · exact h
theorem updU_gd {u : Un} {f : Bool} (h : Gd u) : Gd (updU u f) := by
  have a := h.lo
  have b := h.hi
  refine ⟨?_, ?_⟩ <;> (unfold updU; dsimp only; split <;> (try split) <;> omega)
theorem zip_gd {us : List Un} {fs : List Bool} (h : ∀ u ∈ us, Gd u) : ∀ u ∈ List.zipWith updU us fs, Gd u := by
  intro u hu
  obtain ⟨j, hj, rfl⟩ := List.getElem_of_mem hu
  rw [List.getElem_zipWith]
  rw [List.length_zipWith] at hj
  exact updU_gd (h _ (List.getElem_mem (by omega)))
theorem startU_gs {gap n now : Int} {ord : List Nat} {s : Ss} {m : Nat} (h : Gs m s) (hn : 0 ≤ now ∧ now ≤ 6311433599) : Gs m (startU gap n now ord s) := by
  unfold startU
  split
  · split
    · exact ⟨(setOn_len _ _ _).trans h.len, setOn_gd h.gd _ _, ⟨by dsimp only; omega, hn.2⟩, h.tu⟩
    · exact h
  · exact h
theorem stepU_gs {rot gap : Int} {s : Ss} {need : Int} {fs : List Bool} {now : Int} {m : Nat} (h : Gs m s) (hf : fs.length = m) (hn : 0 ≤ now ∧ now ≤ 6311433599) : Gs m (stepU rot gap s need fs now) := by
  unfold stepU
  dsimp only
  have hz := zip_len (us := s.us) (fs := fs) (hf.trans h.len.symm)
  refine startU_gs ?_ hn
  split
  · exact ⟨(rotK_len _ _ _ _).trans (hz.trans h.len), rotK_gd (zip_gd h.gd) _, h.st, hn⟩
  · exact ⟨(offK_len _ _ _ _).trans (hz.trans h.len), offK_gd _ (zip_gd h.gd), h.st, h.tu⟩
/-- After a second at now the state is no later than now. -/
theorem stepU_now {rot gap : Int} {s : Ss} {need : Int} {fs : List Bool} {now : Int} (h1 : s.st ≤ now) (h2 : s.tu ≤ now) : (stepU rot gap s need fs now).st ≤ now ∧ (stepU rot gap s need fs now).tu ≤ now := by
  constructor
  · unfold stepU startU
    dsimp only
    split <;> split <;> (try split) <;> (dsimp only; omega)
  · rw [stepU_tu]; split <;> omega
def sAt (rot gap : Int) (fs : List Bool) (s : Ss) (ns : List Int) (now : Int) : Nat → Ss
  | 0 => s
  | j + 1 => stepU rot gap (sAt rot gap fs s ns now j) (ns.getD j 0) fs (now + (j : Int))
def fls (us : List Un) : List Bool := us.map Un.fl
def sc (s : Ss) : List PC := [.sl 3 (s.us.map Un.c) false, pI s.st, pI s.tu]
def outU (rot gap : Int) (s : Ss) (ns : List Int) (now : Int) (j : Nat) : List Ss := (List.range j).map fun k => sAt rot gap (fls s.us) s ns now (k + 1)
theorem outU_s (rot gap : Int) (s : Ss) (ns : List Int) (now : Int) (j : Nat) : outU rot gap s ns now (j + 1) = outU rot gap s ns now j ++ [sAt rot gap (fls s.us) s ns now (j + 1)] := by
  unfold outU
  rw [List.range_succ, List.map_append]; rfl
theorem outU_len (rot gap : Int) (s : Ss) (ns : List Int) (now : Int) (j : Nat) : (outU rot gap s ns now j).length = j := by unfold outU; simp
theorem sAt_gs {rot gap : Int} {fs : List Bool} {s : Ss} {ns : List Int} {now : Int} {m : Nat} (h : Gs m s) (hf : fs.length = m) (h0 : 0 ≤ now) : ∀ j : Nat, now + (j : Int) - 1 ≤ 6311433599 → Gs m (sAt rot gap fs s ns now j)
  | 0, _ => h
  | j + 1, hj => stepU_gs (sAt_gs h hf h0 j (by omega)) hf ⟨by omega, by omega⟩
theorem sAt_now {rot gap : Int} {fs : List Bool} {s : Ss} {ns : List Int} {now : Int} (h1 : s.st ≤ now) (h2 : s.tu ≤ now) : ∀ j : Nat, (sAt rot gap fs s ns now j).st ≤ now + (j : Int) ∧ (sAt rot gap fs s ns now j).tu ≤ now + (j : Int)
  | 0 => ⟨by simpa [sAt] using h1, by simpa [sAt] using h2⟩
  | j + 1 => by
    have a := sAt_now (rot := rot) (gap := gap) (fs := fs) (ns := ns) h1 h2 j
    have b := stepU_now (rot := rot) (gap := gap) (need := ns.getD j 0) (fs := fs) a.1 a.2
    rw [sAt]
    exact ⟨by omega, by omega⟩
def playE (rot gap : Int) (s : Ss) (ns : List Int) (now : Int) : List Ss × Int :=
  if checkV rot gap s.us s.st s.tu ≠ 0 then ([], checkV rot gap s.us s.st s.tu) else if ns.length > 10000 then ([], 7) else
  if ns = [] then ([], 0) else if timV s.st s.tu now = true ∧ now + (ns.length : Int) - 1 ≤ 6311433599 then (outU rot gap s ns now ns.length, 0) else ([], 6)
def nic (n : Int) : List PC := [pI n]
theorem timV_t {st tu now : Int} : timV st tu now = true ↔ (0 ≤ now ∧ now ≤ 6311433599) ∧ tu ≤ now ∧ st ≤ now := by
  unfold timV okT
  simp only [Bool.and_eq_true, decide_eq_true_eq]
  omega
section
variable {us : List Un} {a1 a2 a3 a4 a5 a6 a7 a8 : Int} {e1 e2 e3 : List (List PC)} {f1 f2 f3 f4 : Bool} {n1 n2 n3 n4 : Nat}
theorem f26_1_p20_sp {m : Nat} (hm : m = us.length) (hl : us.length < 2 ^ 40) {K : List (List PC) → Prop} (h : K ((fls us).map fbc)) : f26_1_p20 e1 f1 a1 0 m (us.map Un.c) f2 (m : Int) a2 a3 e2 f3 a4 a5 K (0, List.replicate m [pB false]) := by
  subst hm
  unfold f26_1_p20
  refine LoopP.inv us.length (fun j x => x.1 = (j : Int) ∧ x.2 = ((fls us).map fbc).take j ++ List.replicate (us.length - j) [pB false]) 0 ⟨rfl, by simp⟩ (Nat.zero_le _) (by omega) ?_ ?_
  · rintro j ⟨x, es⟩ _ hj ⟨rfl, rfl⟩ N hN
    unfold f26_1_p20b0
    dsimp only
    have hfl : (fls us).length = us.length := by unfold fls; simp
    have hj3 : j < ((fls us).map fbc).length := by simp [fls]; exact hj
    have he : us.length - j = (us.length - (j + 1)) + 1 := by omega
    have htl : (((fls us).map fbc).take j).length = j := by rw [List.length_take]; omega
    have hset : List.set (((fls us).map fbc).take j ++ List.replicate (us.length - j) [pB false]) j (fbc us[j].fl) = ((fls us).map fbc).take (j + 1) ++ List.replicate (us.length - (j + 1)) [pB false] := by
      rw [he, List.replicate_succ, set_mid htl.symm, List.take_succ_eq_append_getElem hj3, List.append_assoc]
      simp [fls, fbc]
    refine bB_t (ltL hj) ⟨rngM _ _ hj, ?_⟩
    rw [toNat_c, getD_map _ _ _ hj, w64_s j (by omega), Nat.zero_add]
    have hg : List.getD (((fls us).map fbc).take j ++ List.replicate (us.length - j) [pB false]) j [] = [pB false] := by
      rw [List.getD_eq_getElem?_getD, he, List.replicate_succ, at_mid htl.symm]; rfl
    rw [hg]
    generalize us[j] = u at hset ⊢
    simp only [Un.c, ext_0, ext_s, ext_z, cS_c, cI_c, cB_c, cL_c, cO_c, oS_c, oI_c, oB_c, oL_c, nilC_c, toNat_c]
    refine ⟨by omega, by rw [List.length_append, htl, List.length_replicate]; omega, hN _ ⟨rfl, ?_⟩⟩
    exact hset
  · rintro ⟨x, es⟩ ⟨rfl, rfl⟩ N
    unfold f26_1_p20b0
    dsimp only
    refine bB_f (stopL _) ?_
    rw [Nat.sub_self, List.replicate_zero, List.append_nil, List.take_of_length_le (by simp [fls])]
    exact h
theorem f26_p20_sp {m : Nat} (hm : m = us.length) (hl : us.length < 2 ^ 40) {K : List (List PC) → Prop} (h : K ((fls us).map fbc)) : f26_p20 n1 n2 a1 0 m (us.map Un.c) f2 (m : Int) e1 a2 a3 e2 f3 a4 a5 K (0, List.replicate m [pB false]) := by
  subst hm
  unfold f26_p20
  refine LoopP.inv us.length (fun j x => x.1 = (j : Int) ∧ x.2 = ((fls us).map fbc).take j ++ List.replicate (us.length - j) [pB false]) 0 ⟨rfl, by simp⟩ (Nat.zero_le _) (by omega) ?_ ?_
  · rintro j ⟨x, es⟩ _ hj ⟨rfl, rfl⟩ N hN
    unfold f26_p20b0
    dsimp only
    have hfl : (fls us).length = us.length := by unfold fls; simp
    have hj3 : j < ((fls us).map fbc).length := by simp [fls]; exact hj
    have he : us.length - j = (us.length - (j + 1)) + 1 := by omega
    have htl : (((fls us).map fbc).take j).length = j := by rw [List.length_take]; omega
    have hset : List.set (((fls us).map fbc).take j ++ List.replicate (us.length - j) [pB false]) j (fbc us[j].fl) = ((fls us).map fbc).take (j + 1) ++ List.replicate (us.length - (j + 1)) [pB false] := by
      rw [he, List.replicate_succ, set_mid htl.symm, List.take_succ_eq_append_getElem hj3, List.append_assoc]
      simp [fls, fbc]
    refine bB_t (ltL hj) ⟨rngM _ _ hj, ?_⟩
    rw [toNat_c, getD_map _ _ _ hj, w64_s j (by omega), Nat.zero_add]
    have hg : List.getD (((fls us).map fbc).take j ++ List.replicate (us.length - j) [pB false]) j [] = [pB false] := by
      rw [List.getD_eq_getElem?_getD, he, List.replicate_succ, at_mid htl.symm]; rfl
    rw [hg]
    generalize us[j] = u at hset ⊢
    simp only [Un.c, ext_0, ext_s, ext_z, cS_c, cI_c, cB_c, cL_c, cO_c, oS_c, oI_c, oB_c, oL_c, nilC_c, toNat_c]
    refine ⟨by omega, by rw [List.length_append, htl, List.length_replicate]; omega, hN _ ⟨rfl, ?_⟩⟩
    exact hset
  · rintro ⟨x, es⟩ ⟨rfl, rfl⟩ N
    unfold f26_p20b0
    dsimp only
    refine bB_f (stopL _) ?_
    rw [Nat.sub_self, List.replicate_zero, List.append_nil, List.take_of_length_le (by simp [fls])]
    exact h
end
section
variable {rot gap now : Int} {s : Ss} {ns : List Int} {f1 f2 : Bool}
theorem f26_1_p32_sp (hr : 1 ≤ rot ∧ rot ≤ 2678400 ∧ 0 ≤ gap ∧ gap ≤ 3600) {m : Nat} (hm : m ≤ 16) (hg : Gs m s) (hns : ns.length ≤ 10000) (hnow : ns ≠ [] → 0 ≤ now ∧ now + (ns.length : Int) - 1 ≤ 6311433599) {K : Nat → Nat → List (List PC) → Prop}
    (h : ∀ i es, SlR i ns.length es ((outU rot gap s ns now ns.length).map sc) → K i ns.length es) :
    f26_1_p32 K (.inl (now, 0, m, 0, 0, ns.map nic, f1, ((ns.length : Nat) : Int), 0, rot, gap, s.us.map Un.c, f2, s.st, s.tu, (fls s.us).map fbc, [])) := by
  unfold f26_1_p32
  have hbb : f26_1_p32b1 = f26_1_p32b0 := rfl
  have hfl : (fls s.us).length = m := by unfold fls; rw [List.length_map]; exact hg.len
  have hft : List.take m (List.drop 0 ((fls s.us).map fbc)) = (fls s.us).map fbc := by rw [List.drop_zero, List.take_of_length_le (by rw [List.length_map, hfl]; exact Nat.le_refl _)]
  refine LoopP.inv ns.length (fun j x => ∃ i n es f, SlR i n es ((outU rot gap s ns now j).map sc) ∧ ∃ t, (x = .inl t ∨ x = .inr t) ∧ t = (now, 0, m, i, n, ns.map nic, f1, ((ns.length : Nat) : Int), (j : Int), rot, gap, (sAt rot gap (fls s.us) s ns now j).us.map Un.c, f, (sAt rot gap (fls s.us) s ns now j).st, (sAt rot gap (fls s.us) s ns now j).tu, (fls s.us).map fbc, es)) 0
    ⟨0, 0, [], f2, SlR.nil, _, .inl rfl, rfl⟩ (Nat.zero_le _) (by omega) ?_ ?_
  · rintro j x _ hj ⟨i, n, es, f, hr', t, hx, rfl⟩ N hN
    have hno := hnow (by intro e; subst e; exact absurd hj (Nat.not_lt_zero _))
    have go : f26_1_p32b0 now 0 m i n (ns.map nic) f1 ((ns.length : Nat) : Int) (j : Int) rot gap ((sAt rot gap (fls s.us) s ns now j).us.map Un.c) f (sAt rot gap (fls s.us) s ns now j).st (sAt rot gap (fls s.us) s ns now j).tu ((fls s.us).map fbc) es
        (fun n44 i45 n46 i47 n48 es49 full50 n51 n52 n53 n54 es55 full56 n57 n58 es59 es60 => N (.inl (n44, i45, n46, i47, n48, es49, full50, n51, n52, n53, n54, es55, full56, n57, n58, es59, es60))) (fun n66 i67 n68 i69 n70 es71 full72 n73 n74 n75 n76 es77 full78 n79 n80 es81 es82 => N (.inr (n66, i67, n68, i69, n70, es71, full72, n73, n74, n75, n76, es77, full78, n79, n80, es81, es82))) K := by
      unfold f26_1_p32b0
      refine bB_t (ltL hj) ⟨rngM _ _ hj, ?_⟩
      rw [toNat_c, getD_map _ _ _ hj, w64_s j (by omega), hft]
      simp only [nic, ext_0, ext_s, ext_z, cS_c, cI_c, cB_c, cL_c, cO_c, oS_c, oI_c, oB_c, oL_c, nilC_c, toNat_c]
      have ew : w64 (now + (j : Int)) = now + (j : Int) := w64_in (by omega) (by omega)
      rw [ew]
      have g := sAt_gs (rot := rot) (gap := gap) (ns := ns) hg hfl hno.1 j (by omega)
      have hn := hr'.n
      rw [List.length_map, outU_len] at hn
      have e1 : sAt rot gap (fls s.us) s ns now (j + 1) = stepU rot gap (sAt rot gap (fls s.us) s ns now j) ns[j] (fls s.us) (now + (j : Int)) := by rw [sAt, getD_in _ _ hj]
      refine f42_ok (by rw [hfl, g.len]) (by rw [g.len]; omega) g.gd g.st.1 g.st.2 g.tu.1 g.tu.2 hr.1 hr.2.1 hr.2.2.1 hr.2.2.2 ?_
      rw [← e1]
      refine ⟨Nat.le_of_eq hr'.len, by omega, by omega, hN _ ⟨_, _, _, _, ?_, _, .inr rfl, rfl⟩⟩
      rw [outU_s, List.map_append]
      exact hr'.push _
    rcases hx with rfl | rfl
    · exact go
    · rw [hbb]; exact go
  · rintro x ⟨i, n, es, f, hr', t, hx, rfl⟩ N
    have hn := hr'.n
    rw [List.length_map, outU_len] at hn
    subst hn
    rw [hbb]
    rcases hx with rfl | rfl
    · unfold f26_1_p32b0
      exact bB_f (stopL _) (h _ _ hr')
    · unfold f26_1_p32b0
      exact bB_f (stopL _) (h _ _ hr')
theorem f26_1_ok {K : Nat → Nat → Int → List (List PC) → Prop} (h : ∀ r, r = playE rot gap s ns now → ∀ i es, SlR i r.1.length es (r.1.map sc) → K i r.1.length r.2 es) :
    f26_1 rot gap (s.us.map Un.c) f1 s.st s.tu (ns.map nic) f2 now K := by
  refine ⟨?_⟩
  unfold f26_1_d
  unfold playE at h
  refine f14_ok (bB_of (fun h1 => ?_) fun h1 => ?_)
  · have h1 : checkV rot gap s.us s.st s.tu ≠ 0 := by simpa using h1
    rw [if_pos h1] at h
    exact h _ rfl _ _ SlR.nil
  have h1 : checkV rot gap s.us s.st s.tu = 0 := by simpa using h1
  rw [if_neg (by rw [h1]; decide)] at h
  have hc := checkV_0 h1
  have hr := okR_t hc.1
  have hs := okS_t hc.2
  rw [List.length_map]
  refine bB_of (fun h2 => ?_) fun h2 => ?_
  · rw [if_pos (by have := of_decide_eq_true h2; omega)] at h
    exact h _ rfl _ _ SlR.nil
  have h2 := of_decide_eq_false h2
  rw [if_neg (by omega)] at h
  have go : (ns ≠ [] → timV s.st s.tu now = true ∧ now + (ns.length : Int) - 1 ≤ 6311433599) → f26_1_p17 (ns.map nic) f2 now rot gap (s.us.map Un.c) f1 s.st s.tu (fun i88 n89 n90 es91 => K i88 n89 n90 es91) := by
    intro hh
    unfold f26_1_p17
    rw [List.length_map, toNat_c]
    refine ⟨by omega, f26_1_p20_sp rfl (by omega) ?_⟩
    rw [List.length_map]
    refine f26_1_p32_sp hr (by omega) (Gs.of hc.2) (by omega) (fun hn => ⟨(timV_t.1 (hh hn).1).1.1, (hh hn).2⟩) fun i es hr' => ?_
    by_cases hn : ns = []
    · rw [if_pos hn] at h
      subst hn
      exact h _ rfl _ _ hr'
    · rw [if_neg hn, if_pos (hh hn)] at h
      have := h _ rfl i es
      dsimp only at this
      rw [outU_len] at this
      exact this hr'
  refine bB_of (fun h3 => ?_) fun h3 => go fun hn => ?_
  · have h3 := of_decide_eq_true h3
    have hn : ns ≠ [] := by rintro rfl; simp at h3
    rw [if_neg hn] at h
    refine f41_ok (bB_of (fun h4 => ?_) fun h4 => ?_)
    · rw [Bool.not_eq_true'] at h4
      rw [if_neg (by rw [h4]; simp)] at h
      exact h _ rfl _ _ SlR.nil
    · rw [Bool.not_eq_false'] at h4
      have ht := timV_t.1 h4
      have ew : w64 (w64 (now + (ns.length : Int)) - 1) = now + (ns.length : Int) - 1 := by rw [w64_in (n := now + (ns.length : Int)) (by omega) (by omega), w64_in (by omega) (by omega)]
      rw [ew]
      refine bB_of (fun h5 => ?_) fun h5 => go fun _ => ⟨h4, ?_⟩
      · rw [if_neg (by have := of_decide_eq_true h5; omega)] at h
        exact h _ rfl _ _ SlR.nil
      · have := of_decide_eq_false h5; omega
  · have h3 := of_decide_eq_false h3
    have : 0 < ns.length := List.length_pos_iff.2 hn
    omega
end
end Go.Eng.N
