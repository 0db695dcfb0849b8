/- Leadlag, pure, 5: one second told the other way. -/
import Derived.Test.YtbecejhjdagkdaaUF
set_option linter.unusedVariables false
set_option linter.unusedSimpArgs false
namespace Go.Eng.N
open Go Go.Eng
section
variable {a1 a2 a3 a4 a5 a6 a7 a8 a9 a10 a11 : Int} {e1 : List (List PC)} {f1 f2 : Bool}
theorem f44_p23_sp {fs : List Bool} {l : List (List PC)} {i n : Nat} {es : List (List PC)} (hr : SlR i n es l) (hn : n < 2 ^ 40) {j : Nat} (hj : j < fs.length) {c : Nat} (hc : c < 2 ^ 40) {r : Int} {o : Bool} {K : Int → Nat → Nat → List (List PC) → Prop}
    (h : ∀ i' n' es', SlR i' n' es' (l ++ [Un.c ⟨r, o, fs[j]⟩]) → K ((c + (if (!fs[j]) = true then 1 else 0) : Nat) : Int) i' n' es') : f44_p23 a1 (fs.map fbc) f1 a2 (c : Int) (j : Int) a3 a4 e1 f2 a5 a6 a7 a8 i n a9 a10 r o fs[j] es K := by
  unfold f44_p23
  refine ⟨rngM _ _ hj, ?_⟩
  rw [toNat_c, getD_map _ _ _ hj]
  generalize fs[j] = b at h ⊢
  simp only [fbc, ext_0, ext_s, ext_z, cS_c, cI_c, cB_c, cL_c, cO_c, oS_c, oI_c, oB_c, oL_c, nilC_c, toNat_c]
  have hp := hr.push (Un.c ⟨r, o, b⟩)
  refine bB_of (fun h1 => ⟨Nat.le_of_eq hr.len, by omega, by omega, ?_⟩) fun h1 => ⟨Nat.le_of_eq hr.len, by omega, by omega, ?_⟩
  · rw [w64_s c (by omega)]
    have := h _ _ _ hp
    rwa [if_pos h1] at this
  · have := h _ _ _ hp
    rwa [if_neg (by rw [h1]; decide)] at this
theorem f44_p19_sp {fs : List Bool} {l : List (List PC)} {i n : Nat} {es : List (List PC)} (hr : SlR i n es l) (hn : n < 2 ^ 40) {j : Nat} (hj : j < fs.length) {c : Nat} (hc : c < 2 ^ 40) {r : Int} {o b : Bool} {K : Int → Nat → Nat → List (List PC) → Prop}
    (h : ∀ i' n' es', SlR i' n' es' (l ++ [Un.c ⟨r, o && !fs[j], fs[j]⟩]) → K ((c + (if (!fs[j]) = true then 1 else 0) : Nat) : Int) i' n' es') : f44_p19 a1 (fs.map fbc) f1 a2 (c : Int) (j : Int) a3 a4 e1 f2 a5 a6 a7 a8 i n a9 a10 r o b es K := by
  unfold f44_p19
  refine ⟨rngM _ _ hj, ?_⟩
  rw [toNat_c, getD_map _ _ _ hj]
  simp only [fbc, ext_0, ext_s, ext_z, cS_c, cI_c, cB_c, cL_c, cO_c, oS_c, oI_c, oB_c, oL_c, nilC_c, toNat_c]
  refine bB_of (fun h1 => ⟨rngM _ _ hj, ?_⟩) fun h1 => ?_
  · subst h1
    rw [Bool.true_and] at h
    exact f44_p23_sp hr hn hj hc h
  · subst h1
    rw [Bool.false_and] at h
    exact f44_p23_sp hr hn hj hc h
theorem f44_p8_sp {fs : List Bool} {us : List Un} (hf : fs.length = us.length) (hl : us.length < 2 ^ 40) (hg : ∀ u ∈ us, Gd u) {K : Int → Nat → Nat → List (List PC) → Prop}
    (h : ∀ i n es, SlR i n es ((List.zipWith updU us fs).map Un.c) → K (cntW (List.zipWith updU us fs) : Nat) i n es) :
    f44_p8 a1 (fs.map fbc) f1 a2 a3 a4 (us.map Un.c) f2 a5 a6 a7 a8 a9 a10 K (0, 0, 0, 0, []) := by
  unfold f44_p8
  refine LoopP.inv us.length (fun j x => x.1 = ((cntW (List.zipWith updU (us.take j) (fs.take j)) : Nat) : Int) ∧ x.2.1 = (j : Int) ∧ SlR x.2.2.1 x.2.2.2.1 x.2.2.2.2 ((List.zipWith updU (us.take j) (fs.take j)).map Un.c)) 0 ⟨rfl, rfl, SlR.nil⟩ (Nat.zero_le _) (by omega) ?_ ?_
  · rintro j ⟨c, x, i, n, es⟩ _ hj ⟨rfl, rfl, hr⟩ N hN
    have hr : SlR i n es _ := hr
    have hzl : (List.zipWith updU (us.take j) (fs.take j)).length = j := by simp; omega
    have hn := hr.n
    rw [List.length_map, hzl] at hn
    have hc := cnt_le (fun u : Un => !u.fl) (List.zipWith updU (us.take j) (fs.take j))
    rw [hzl] at hc
    have hz := zip_s hf hj
    have g := hg _ (List.getElem_mem hj)
    have hfj : j < fs.length := by omega
    unfold f44_p8b0
    dsimp only
    refine bB_t (ltM _ _ hj) ⟨rngM _ _ hj, ?_⟩
    rw [toNat_c, getD_map _ _ _ hj, w64_s j (by omega)]
    have fin : ∀ r : Int, r = (updU us[j] fs[j]).run → ∀ i' n' es', SlR i' n' es' ((List.zipWith updU (us.take j) (fs.take j)).map Un.c ++ [Un.c ⟨r, us[j].on && !fs[j], fs[j]⟩]) →
        N ((((cntW (List.zipWith updU (us.take j) (fs.take j))) + (if (!fs[j]) = true then 1 else 0) : Nat) : Int), ((j + 1 : Nat) : Int), i', n', es') := by
      rintro r rfl i' n' es' hr'
      refine hN _ ⟨?_, rfl, ?_⟩
      · rw [hz]; unfold cntW; rw [List.countP_append]; simp only [List.countP_cons, List.countP_nil, updU, Nat.zero_add]
      · rw [hz, List.map_append]; exact hr'
    generalize us[j] = u at g fin ⊢
    have g1 := g.lo
    have g2 := g.hi
    simp only [Un.c, ext_0, ext_s, ext_z, cS_c, cI_c, cB_c, cL_c, cO_c, oS_c, oI_c, oB_c, oL_c, nilC_c, toNat_c]
    refine bB_of (fun h1 => ?_) fun h1 => ?_
    · rw [w64_in (by omega) (by omega), h1]
      exact f44_p19_sp hr (by omega) hfj (by unfold cntW at *; omega) (by have f2 := fin (if u.run + 1 < 6311433599 then u.run + 1 else 6311433599) (by unfold updU; rw [if_pos h1]); rw [h1] at f2; exact f2)
    · rw [h1]
      exact f44_p19_sp hr (by omega) hfj (by unfold cntW at *; omega) (by have f2 := fin u.run (by unfold updU; rw [if_neg (by rw [h1]; decide)]); rw [h1] at f2; exact f2)
  · rintro ⟨c, x, i, n, es⟩ ⟨rfl, rfl, hr⟩ N
    have e1 : us.take us.length = us := List.take_of_length_le (Nat.le_refl _)
    have e2 : fs.take us.length = fs := List.take_of_length_le (by omega)
    unfold f44_p8b0
    dsimp only at hr ⊢
    rw [e1, e2] at hr ⊢
    exact bB_f (stopM _ _) (h _ _ _ hr)
variable {us : List Un} {ord : List Nat} {i n oi on : Nat} {es oe : List (List PC)} {n1 n2 n3 n4 : Nat}
theorem f44_p38_sp (ho : SlR oi on oe (ord.map ixc)) (hol : ord.length < 2 ^ 40) (hlt : ∀ x ∈ ord, x < us.length) (hr : SlR i n es (us.map Un.c)) {t : Int} {K : List (List PC) → Prop}
    (h : ∀ es', SlR i n es' ((rotK t ord us ord.length).map Un.c) → K es') : f44_p38 a1 a2 oi on t a3 a4 e1 f1 a5 a6 a7 a8 i n a9 a10 oe K (0, es) := by
  unfold f44_p38
  have hon := ho.n
  rw [List.length_map] at hon
  refine LoopP.inv ord.length (fun j x => x.1 = (j : Int) ∧ SlR i n x.2 ((rotK t ord us j).map Un.c)) 0 ⟨rfl, hr⟩ (Nat.zero_le _) (by omega) ?_ ?_
  · rintro j ⟨x, es⟩ _ hj ⟨rfl, hr⟩ N hN
    have a := ord_at ho hj
    have hx : ord.getD j 0 < (rotK t ord us j).length := by rw [rotK_len]; exact hlt _ (getD_mem' hj)
    dsimp only at hr
    have hn := hr.n
    rw [List.length_map] at hn
    have hr2 := hr.setOn hx (decide ((j : Int) < t))
    unfold f44_p38b0
    dsimp only
    refine bB_t (decide_eq_true (by omega)) ⟨by omega, ?_⟩
    rw [toNat_c, a.1, w64_s j (by omega)]
    simp only [ext_0, ext_s, ext_z, cS_c, cI_c, cB_c, cL_c, cO_c, oS_c, oI_c, oB_c, oL_c, nilC_c, toNat_c]
    exact ⟨by omega, by have := hr.len; omega, hN _ ⟨rfl, hr2⟩⟩
  · rintro ⟨x, es⟩ ⟨rfl, hr⟩ N
    unfold f44_p38b0
    dsimp only
    exact bB_f (decide_eq_false (by omega)) (h es hr)
theorem f44_p48_sp (ho : SlR oi on oe (ord.map ixc)) (hol : ord.length < 2 ^ 40) (hl : us.length < 2 ^ 40) (hlt : ∀ x ∈ ord, x < us.length) (hr : SlR i n es (us.map Un.c)) {m : Int} {K : List (List PC) → Prop}
    (h : ∀ es', SlR i n es' ((offK m ord ord.length us).map Un.c) → K es') : f44_p48 a1 m oi on a3 a4 e1 f1 a5 a6 a7 a8 i n a9 a10 oe K (((ord.length : Nat) : Int) - 1, es) := by
  unfold f44_p48
  have hon := ho.n
  rw [List.length_map] at hon
  refine LoopP.inv ord.length (fun d x => ∃ k us' es, d + k = ord.length ∧ x = (((k : Nat) : Int) - 1, es) ∧ us'.length = us.length ∧ SlR i n es (us'.map Un.c) ∧ offK m ord k us' = offK m ord ord.length us) 0 ⟨ord.length, us, es, Nat.zero_add _, rfl, rfl, hr, rfl⟩ (Nat.zero_le _) (by omega) ?_ ?_
  · rintro d x _ hd ⟨k, us', es, hk, rfl, hl', hr, he⟩ N hN
    obtain ⟨k, rfl⟩ : ∃ k', k = k' + 1 := ⟨k - 1, by omega⟩
    have e1 : ((k + 1 : Nat) : Int) - 1 = (k : Int) := by omega
    rw [e1]
    unfold f44_p48b0
    dsimp only
    refine bB_t (decide_eq_true (by omega)) ?_
    refine f23_ok hr.p (by omega) fun _ _ _ => (bB_of (fun h1 => ?_) fun h1 => ?_)
    · have a := ord_at ho (k := k) (by omega)
      have hx : ord.getD k 0 < us'.length := by rw [hl']; exact hlt _ (getD_mem' (by omega))
      have hn := hr.n
      rw [List.length_map] at hn
      have hr2 := hr.setOn hx false
      unfold f44_p53
      refine ⟨by omega, ?_⟩
      rw [toNat_c, a.1]
      simp only [ext_0, ext_s, ext_z, cS_c, cI_c, cB_c, cL_c, cO_c, oS_c, oI_c, oB_c, oL_c, nilC_c, toNat_c]
      refine ⟨by omega, by have := hr.len; omega, hN _ ⟨k, _, _, by omega, ?_, by rw [setOn_len]; exact hl', hr2, ?_⟩⟩
      · rw [w64_in (by omega) (by omega)]
      · rw [← he, offK, if_pos (by simpa using h1)]
    · refine h es ?_
      rw [offK, if_neg (by simpa using h1)] at he
      rw [← he]; exact hr
  · rintro x ⟨k, us', es, hk, rfl, hl', hr, he⟩ N
    obtain rfl : k = 0 := by omega
    unfold f44_p48b0
    dsimp only
    refine bB_f (decide_eq_false (by omega)) (h es ?_)
    rw [← he]; exact hr
theorem f44_p58_sp (ho : SlR oi on oe (ord.map ixc)) (hol : ord.length < 2 ^ 40) (hlt : ∀ x ∈ ord, x < us.length) (hu : SlP i n es (us.map Un.c)) {k : Nat} (hk : foff ord us = some k) {K : Int → Prop} (h : K (k : Int)) : f44_p58 a1 oi on a2 a3 i n a4 a5 oe es K 0 := by
  unfold f44_p58
  refine LoopP.findS (fun j => (j : Int)) rfl ord (fun x => !(us.getD x Un.no).on) (A := fun j => K (j : Int)) (B := False) (by omega) (fun j hj hq hb => ?_) (fun hq => ?_) (fun j hj N hA hN => ?_) fun N hB => hB.elim
  · have := findIx (q := fun x : Nat => !(us.getD x Un.no).on) hj hq hb
    unfold foff at hk; rw [this] at hk
    obtain rfl := Option.some.inj hk
    exact h
  · have := findNo (q := fun x : Nat => !(us.getD x Un.no).on) hq
    unfold foff at hk; rw [this] at hk; exact absurd hk (by simp)
  · unfold f44_p58b0
    have hx := hlt _ (List.getElem_mem hj)
    have a := hu.atP hx
    have b := ord_at ho hj
    have hn := hu.n
    rw [List.length_map] at hn
    refine ⟨by omega, ?_⟩
    rw [toNat_c, b.1, w64_s j (by omega)]
    rw [getD_in _ _ hj]
    rw [getD_in _ _ hx] at hA hN
    generalize ord[j] = x at hx a hA hN ⊢
    simp only [ext_0, ext_s, ext_z, cS_c, cI_c, cB_c, cL_c, cO_c, oS_c, oI_c, oB_c, oL_c, nilC_c, toNat_c]
    refine ⟨by omega, ?_⟩
    rw [a.1]
    simp only [Un.c, ext_0, ext_s, ext_z, cS_c, cI_c, cB_c, cL_c, cO_c, oS_c, oI_c, oB_c, oL_c, nilC_c, toNat_c]
    exact bB_of (fun q => hN (by rw [q]; rfl)) fun q => hA (by rw [q]; rfl)
theorem f44_p55_sp {ss : Ss} (hss : ss.us = us) (ho : SlR oi on oe (ord.map ixc)) (hol : ord.length < 2 ^ 40) (hl : us.length < 2 ^ 40) (hlt : ∀ x ∈ ord, x < us.length) (hall : ∀ j, j < us.length → j ∈ ord) (hr : SlR i n es (us.map Un.c)) {m gap now : Int} (hm : m ≤ us.length)
    (h1 : -1 ≤ ss.st) (h2 : ss.st ≤ 6311433599) (h3 : 0 ≤ gap) (h4 : gap ≤ 3600) {K : Int → List (List PC) → Prop}
    (h : ∀ es', SlR i n es' ((startU gap m now ord ss).us.map Un.c) → K (startU gap m now ord ss).st es') : f44_p55 now m oi on a1 gap e1 f1 ss.st a2 a3 a4 i n ss.st a5 oe es K := by
  subst hss
  unfold f44_p55
  have hon := ho.n
  rw [List.length_map] at hon
  have ew : w64 (ss.st + gap) = ss.st + gap := w64_in (by omega) (by omega)
  unfold startU at h
  refine f23_ok hr.p (by omega) fun _ _ _ => (bB_of (fun k1 => ?_) fun k1 => ?_)
  · have k1 : (cntO ss.us : Int) < m := by simpa using k1
    obtain ⟨k, hk, hkl⟩ := foff_some hall k1 hm
    have go : (ss.st = -1 ∨ ss.st + gap ≤ now) → f44_p58 now oi on a3 a4 i n ss.st a5 oe es (fun n169 => (0 ≤ n169 ∧ n169 < ((on : Nat) : Int)) ∧ oI .i64 (ext (List.getD oe (oi + (Int.toNat n169)) []) 0 1) fun n170 => (0 ≤ n170 ∧ n170 < ((n : Nat) : Int)) ∧ (i + (Int.toNat n170)) < es.length ∧ K now (List.set es (i + (Int.toNat n170)) (splice (List.getD es (i + (Int.toNat n170)) []) 1 [pB true]))) 0 := by
      intro hc
      rw [if_pos ⟨k1, hc⟩, hk] at h
      refine f44_p58_sp ho hol hlt hr.p hk ?_
      have a := ord_at ho hkl
      have hx := hlt _ (getD_mem' hkl)
      have hn := hr.n
      rw [List.length_map] at hn
      refine ⟨by omega, ?_⟩
      rw [toNat_c, a.1]
      simp only [ext_0, ext_s, ext_z, cS_c, cI_c, cB_c, cL_c, cO_c, oS_c, oI_c, oB_c, oL_c, nilC_c, toNat_c]
      exact ⟨by omega, by have := hr.len; omega, h _ (hr.setOn hx true)⟩
    refine bB_of (fun k2 => go (.inl (by simpa using k2))) fun k2 => ?_
    rw [ew]
    refine bB_of (fun k3 => go (.inr (by simpa using k3))) fun k3 => ?_
    rw [if_neg (by rintro ⟨_, q | q⟩; · simp [q] at k2
                   · simp at k3; omega)] at h
    exact h _ hr
  · have k1 : ¬ (cntO ss.us : Int) < m := by simpa using k1
    rw [if_neg (fun hc => k1 hc.1)] at h
    exact h _ hr
end
theorem stepU_tu (rot gap : Int) (s : Ss) (need : Int) (fs : List Bool) (now : Int) : (stepU rot gap s need fs now).tu = if s.tu + rot ≤ now then now else s.tu := by
  unfold stepU startU
  split <;> (dsimp only; split <;> (try split) <;> rfl)
theorem startU_len (gap n now : Int) (ord : List Nat) (s : Ss) : (startU gap n now ord s).us.length = s.us.length := by
  unfold startU
  split
  · split
    · exact setOn_len _ _ _
    · rfl
  · rfl
theorem stepU_len {rot gap : Int} {s : Ss} {need : Int} {fs : List Bool} {now : Int} (hf : fs.length = s.us.length) : (stepU rot gap s need fs now).us.length = s.us.length := by
  unfold stepU
  dsimp only
  rw [startU_len]
  split
  · exact (rotK_len _ _ _ _).trans (zip_len hf)
  · exact (offK_len _ _ _ _).trans (zip_len hf)
theorem f44_ok {s : Ss} {fs : List Bool} {full fl : Bool} (hf : fs.length = s.us.length) (hl : s.us.length < 2 ^ 40) (hg : ∀ u ∈ s.us, Gd u) {rot gap need now : Int} (h1 : -1 ≤ s.st) (h2 : s.st ≤ 6311433599) (h3 : 0 ≤ s.tu) (h4 : s.tu ≤ 6311433599) (h5 : 1 ≤ rot) (h6 : rot ≤ 2678400) (h7 : 0 ≤ gap) (h8 : gap ≤ 3600)
    {K : List (List PC) → Bool → Int → Int → Prop} (h : K ((stepU rot gap s need fs now).us.map Un.c) false (stepU rot gap s need fs now).st (stepU rot gap s need fs now).tu) :
    f44 rot gap (s.us.map Un.c) full s.st s.tu need (fs.map fbc) fl now K := by
  refine ⟨?_⟩
  unfold f44_d
  refine f44_p8_sp hf hl hg fun i1 m1 es1 hr1 => ?_
  have hzl := zip_len hf
  have hn1 := hr1.n
  rw [List.length_map] at hn1
  rw [stepU_tu] at h
  unfold stepU at h
  dsimp only at h
  generalize hus : List.zipWith updU s.us fs = us1 at hr1 h hzl hn1
  refine f21_ok hr1.p (by omega) fun oi on oe ho => ?_
  have hlt : ∀ x ∈ ordN us1, x < us1.length := fun x hx => ordN_lt hx
  have hall : ∀ j, j < us1.length → j ∈ ordN us1 := fun j hj => (ordN_perm us1).mem_iff.2 (List.mem_range.2 hj)
  have hol := ordN_len us1
  have hon := ho.n
  rw [List.length_map] at hon
  have hcap := capN_le need (cntW us1)
  have hcw : cntW us1 ≤ us1.length := cnt_le _ _
  have ew : w64 (s.tu + rot) = s.tu + rot := w64_in (by omega) (by omega)
  rw [ew]
  refine bB_of (fun k1 => ?_) fun k1 => ?_
  · have k1 : s.tu + rot ≤ now := by simpa using k1
    rw [if_pos k1, if_pos k1] at h
    refine f23_ok hr1.p (by omega) fun _ _ _ => ?_
    refine f44_p38_sp ho (by omega) hlt hr1 fun es2 hr2 => ?_
    have hrl := rotK_len (lesI (cntO us1) (capN need (cntW us1))) (ordN us1) us1 (ordN us1).length
    refine f44_p55_sp (ss := ⟨rotK (lesI (cntO us1) (capN need (cntW us1))) (ordN us1) us1 (ordN us1).length, s.st, now⟩) rfl ho (by omega) (by rw [hrl]; omega) (fun x hx => by rw [hrl]; exact hlt x hx) (fun j hj => hall j (by rw [hrl] at hj; exact hj)) hr2 (m := capN need (cntW us1)) (by rw [hrl]; omega) h1 h2 h7 h8 fun es3 hr3 => ?_
    rw [hr3.take]
    exact h
  · have k1 : ¬ s.tu + rot ≤ now := by simpa using k1
    rw [if_neg k1, if_neg k1] at h
    have ew2 : w64 (((on : Nat) : Int) - 1) = (((ordN us1).length : Nat) : Int) - 1 := by rw [w64_in (by omega) (by omega), hon]
    rw [ew2]
    refine f44_p48_sp ho (by omega) (by omega) hlt hr1 (m := capN need (cntW us1)) fun es2 hr2 => ?_
    have hrl := offK_len (capN need (cntW us1)) (ordN us1) (ordN us1).length us1
    refine f44_p55_sp (ss := ⟨offK (capN need (cntW us1)) (ordN us1) (ordN us1).length us1, s.st, s.tu⟩) rfl ho (by omega) (by rw [hrl]; omega) (fun x hx => by rw [hrl]; exact hlt x hx) (fun j hj => hall j (by rw [hrl] at hj; exact hj)) hr2 (m := capN need (cntW us1)) (by rw [hrl]; omega) h1 h2 h7 h8 fun es3 hr3 => ?_
    rw [hr3.take]
    exact h
end Go.Eng.N
