/- Notify, pure: the law NotifyChecks. -/
import Derived.Test.YtbidkfbcmhioiaaDoorPJ
import Derived.Test.YtbidkfbcmhioiaaDoorFn2
set_option linter.unusedVariables false
set_option linter.unusedSimpArgs false
namespace Go.Eng.N
open Go Go.Eng
theorem f40_ok {s : ByteArray} {K : Int → ByteArray → Int → Int → Prop} (h : K 1 s 0 0) : f40 s K := ⟨h⟩
theorem f41_ok {n : Int} {K : Int → ByteArray → Int → Int → Prop} (h : K 2 ⟨#[]⟩ n 0) : f41 n K := ⟨h⟩
theorem f43_ok {K : List (List PC) → Bool → Prop} (h : K (kindsL.map sc) false) : f43 K := ⟨h⟩
theorem f44_ok {K : List (List PC) → Bool → Prop} (h : K (daysL.map sc) false) : f44 K := ⟨h⟩
theorem f42_ok {i n : Nat} {es l : List (List PC)} (hr : SlR i n es l) (hl : l.length ≤ 100) {ws : List ByteArray} (hw : ws.length ≤ 7) {full : Bool} {set : Int} (h1 : 0 ≤ set) (h2 : set ≤ 1000) {K : Nat → Nat → List (List PC) → Prop}
    (h : ∀ i n es, SlR i n es (l ++ spellV ws set) → K i n es) : f42 i n set (ws.map sc) full es K := by
  refine ⟨?_⟩
  unfold f42_d f42_p6
  refine LoopP.inv ws.length (fun j x => x.2.2.1 = (j : Int) ∧ SlR x.1 x.2.1 x.2.2.2 (l ++ spellN ws set.toNat j)) 0 ⟨rfl, ?_⟩ (Nat.zero_le _) (by omega) ?_ ?_
  · show SlR 0 n (List.drop i es) (l ++ [])
    rw [List.append_nil, hr.drop, hr.n]
    exact SlR.all l
  · rintro j ⟨i, n, x, es⟩ _ hj ⟨rfl, hr⟩ N hN
    have hr : SlR i n es _ := hr
    have hn := hr.n
    have hsl := spell_len ws set.toNat j
    rw [List.length_append] at hn
    unfold f42_p6b0
    dsimp only
    refine bB_t (ltM _ _ hj) ?_
    have e1 : set = ((set.toNat : Nat) : Int) := by omega
    rw [w64_s j (by omega)]
    rw [e1]
    refine f84_ok (by omega) (bB_of (fun h3 => ⟨rngM _ _ hj, ?_⟩) fun h3 => hN _ ⟨rfl, ?_⟩)
    · rw [toNat_c, getD_map _ _ _ hj]
      simp only [sc, ext_0, ext_s, ext_z, cS_c, cI_c, cB_c, cL_c, cO_c, oS_c, oI_c, oB_c, oL_c, nilC_c, toNat_c]
      refine f40_ok ⟨hr.len, by omega, by omega, hN _ ⟨rfl, ?_⟩⟩
      rw [spellN, if_pos h3, ← List.append_assoc, getD_in _ _ hj]
      exact hr.push _
    · rw [spellN, if_neg (by rw [h3]; decide)]
      exact hr
  · rintro ⟨i, n, x, es⟩ ⟨rfl, hr⟩ N
    unfold f42_p6b0
    dsimp only
    exact bB_f (stopM _ _) (h _ _ _ hr)
theorem f15_p15_sp {nm : ByteArray} {pri acks : Int} {rs : List Rc} {full : Bool} (hl : rs.length ≤ 8) (hg : ∀ r ∈ rs, Good r) {b1 b2 : Bool} {n1 n2 : Int} {i0 n0 : Nat} {es0 : List (List PC)} {K : Int → Nat → Nat → List (List PC) → Prop}
    (h : ∀ i n es, SlR i n es (rs.map kidV) → K 0 i n es) : f15_p15 nm pri acks (rs.map Rc.c) full b1 n1 i0 n0 b2 n2 es0 K := by
  unfold f15_p15 f15_p16
  refine LoopP.inv rs.length (fun j x => x.1 = (j : Int) ∧ SlR x.2.1 x.2.2.1 x.2.2.2 ((rs.take j).map kidV)) 0 ⟨rfl, SlR.nil⟩ (Nat.zero_le _) (by omega) ?_ ?_
  · rintro j ⟨x, i, n, es⟩ _ hj ⟨rfl, hr⟩ N hN
    have hr : SlR i n es _ := hr
    have hn := hr.n
    rw [List.length_map, List.length_take] at hn
    unfold f15_p16b0
    dsimp only
    refine bB_t (ltM _ _ hj) ⟨rngM _ _ hj, ?_⟩
    rw [toNat_c, getD_map _ _ _ hj]
    simp only [Rc.c, ext_0, ext_s, ext_z, cS_c, cI_c, cB_c, cL_c, cO_c, oS_c, oI_c, oB_c, oL_c, nilC_c, toNat_c]
    have hj2 := hg _ (List.getElem_mem hj)
    have hstep := List.take_succ_eq_append_getElem hj
    generalize rs[j] = r at hj2 hstep ⊢
    have g1 := hj2.d1
    have g2 := hj2.d2
    have g3 := hj2.k1
    have g4 := hj2.k2
    have hd := spell_len daysL r.days.toNat daysL.length
    have T : f44 (fun es104 full105 => f42 0 3 r.days es104 full105 [tkW sRec, tkW r.nm, tkW sDays] (fun i106 n107 es108 => f40 (⟨#[102, 114, 111, 109]⟩ : ByteArray) (fun n109 s110 n111 n112 => f40 (⟨#[116, 111]⟩ : ByteArray) (fun n113 s114 n115 n116 => f40 (⟨#[102, 111, 114]⟩ : ByteArray) (fun n117 s118 n119 n120 => (i106 + n107) = es108.length ∧ (n107 + 5) * 40 ≤ 2 ^ 46 ∧ (n107 + 5) ≤ 2 ^ 46 ∧ f43 (fun es121 full122 => f42 0 (n107 + 5) r.kinds es121 full122 (List.drop i106 es108 ++ [[pI n109, pS s110, pI n111, pI n112], [pI 4, pS (⟨#[]⟩ : ByteArray), pI r.fr, pI 0], [pI n113, pS s114, pI n115, pI n116], [pI 4, pS (⟨#[]⟩ : ByteArray), pI r.to, pI 0], [pI n117, pS s118, pI n119, pI n120]]) (fun i123 n124 es125 => (i + n) = es.length ∧ (n + 1) * 64 ≤ 2 ^ 46 ∧ (n + 1) ≤ 2 ^ 46 ∧ N (w64 ((j : Int) + 1), 0, (n + 1), (List.drop i es ++ [[.sl 4 (List.take n124 (List.drop i123 es125)) false, pB false, .sl 4 [] true, pI 0]]))))))))) := by
      refine f44_ok (f42_ok (l := [tkW sRec, tkW r.nm, tkW sDays]) (SlR.all _) (by simp) (ws := daysL) (by decide) (by omega) (by omega) fun i2 n2 es2 hr2 => ?_)
      have hn2 := hr2.n
      rw [List.length_append] at hn2
      have hd2 : (spellV daysL r.days).length ≤ 7 := hd
      refine f40_ok (f40_ok (f40_ok ⟨hr2.len, by simp at hn2; omega, by simp at hn2; omega, ?_⟩))
      have hr3 : SlR 0 (n2 + 5) (List.drop i2 es2 ++ [tkW sFrom, tkT r.fr, tkW sTo, tkT r.to, tkW sFor]) (([tkW sRec, tkW r.nm, tkW sDays] ++ spellV daysL r.days) ++ [tkW sFrom, tkT r.fr, tkW sTo, tkT r.to, tkW sFor]) := by
        refine ⟨?_, ?_⟩
        · rw [hr2.drop, List.length_append, ← hr2.n]; simp
        · rw [hr2.drop, List.drop_zero]
      refine f43_ok (f42_ok hr3 (by simp; omega) (ws := kindsL) (by decide) (by omega) (by omega) fun i4 n4 es4 hr4 => ⟨hr.len, by omega, by omega, hN _ ⟨w64_s j (by omega), ?_⟩⟩)
      rw [hr4.take, hstep, List.map_append]
      exact hr.push (kidV r)
    exact f40_ok (f40_ok (f40_ok ⟨T, T⟩))
  · rintro ⟨x, i, n, es⟩ ⟨rfl, hr⟩ N
    unfold f15_p16b0
    dsimp only
    rw [List.take_length] at hr
    exact bB_f (stopM _ _) (h _ _ _ hr)
theorem f15_ok {c : Cls} {full : Bool} (hn : c.nm.size < 2 ^ 59) (hs : Sz c.rs) {K : List (List PC) → Bool → Bool → List (List PC) → Bool → Int → Int → Prop}
    (h : ∀ f1 f2, K (lineV c).1.toks f1 (lineV c).1.head (lineV c).1.kids f2 0 (lineV c).2) : f15 c.nm c.pri c.acks (c.rs.map Rc.c) full K := by
  refine ⟨?_⟩
  unfold f15_d
  unfold lineV at h
  refine f17_ok hn hs (bB_of (fun h1 => ?_) fun h1 => ?_)
  · rw [if_pos (by simpa using h1)] at h; exact h true true
  · rw [if_neg (by simpa using h1)] at h
    have hg := check_good (by simpa using h1)
    have e0 : w64 (1000 * c.pri) = 1000 * c.pri := w64_in (by omega) (by omega)
    have e1 : (decide ((((c.rs.map Rc.c).length : Nat) : Int) > 0)) = decide (c.rs.length > 0) := by rw [List.length_map, decide_eq_decide]; omega
    have e2 : c.acks = 0 → headV c = [tkW sClass, tkW c.nm, tkW sPrio, tkN (1000 * c.pri)] := fun e => by unfold headV; rw [if_pos e, List.append_nil]
    have e3 : c.acks ≠ 0 → headV c = [tkW sClass, tkW c.nm, tkW sPrio, tkN (1000 * c.pri), tkW sAck] ++ spellV kindsL c.acks := fun e => by unfold headV; rw [if_neg e]; rfl
    rw [e0, e1]
    have T : bB (decide (c.acks > 0)) (f40 (⟨#[97, 99, 107]⟩ : ByteArray) (fun n183 s184 n185 n186 => 4 = 4 ∧ 5 * 40 ≤ 2 ^ 46 ∧ 5 ≤ 2 ^ 46 ∧ f43 (fun es187 full188 => f42 0 5 c.acks es187 full188 [tkW sClass, tkW c.nm, tkW sPrio, tkN (1000 * c.pri), [pI n183, pS s184, pI n185, pI n186]] (fun i189 n190 es191 => f15_p15 c.nm c.pri c.acks (c.rs.map Rc.c) full false 0 i189 n190 (decide (c.rs.length > 0)) 0 es191 (fun n192 i193 n194 es195 => K (List.take n190 (List.drop i189 es191)) false (decide (c.rs.length > 0)) (List.take n194 (List.drop i193 es195)) false 0 n192)))))
        (f15_p15 c.nm c.pri c.acks (c.rs.map Rc.c) full false 0 0 4 (decide (c.rs.length > 0)) 0 [tkW sClass, tkW c.nm, tkW sPrio, tkN (1000 * c.pri)] (fun n196 i197 n198 es199 => K (List.take 4 (List.drop 0 [tkW sClass, tkW c.nm, tkW sPrio, tkN (1000 * c.pri)])) false (decide (c.rs.length > 0)) (List.take n198 (List.drop i197 es199)) false 0 n196)) := by
      refine bB_of (fun h2 => f40_ok ⟨rfl, by decide, by decide, ?_⟩) fun h2 => ?_
      · have h3 : c.acks ≠ 0 := by simp only [decide_eq_true_eq] at h2; omega
        refine f43_ok (f42_ok (l := [tkW sClass, tkW c.nm, tkW sPrio, tkN (1000 * c.pri), tkW sAck]) (SlR.all _) (by simp) (ws := kindsL) (by decide) (by omega) (by omega) fun i2 n2 es2 hr2 => ?_)
        refine f15_p15_sp hg.1 hg.2.2.2.1 fun i4 n4 es4 hr4 => ?_
        rw [hr2.take, hr4.take, ← e3 h3]
        exact h false false
      · have h3 : c.acks = 0 := by simp only [decide_eq_false_iff_not] at h2; omega
        refine f15_p15_sp hg.1 hg.2.2.2.1 fun i4 n4 es4 hr4 => ?_
        rw [hr4.take]
        have := h false false
        rw [e2 h3] at this
        exact this
    exact ⟨f40_ok ⟨f40_ok ⟨f40_ok ⟨f41_ok ⟨T, T⟩, f41_ok T⟩, f40_ok (f41_ok T)⟩, f40_ok (f40_ok (f41_ok T))⟩, f40_ok (f40_ok (f40_ok (f41_ok T)))⟩
/-! ### Lines that are the same -/
def isTok (l : List PC) : Prop := ∃ a s b c, l = [pI a, pS s, pI b, pI c]
theorem tok_W (s : ByteArray) : isTok (tkW s) := ⟨_, _, _, _, rfl⟩
theorem tok_N (n : Int) : isTok (tkN n) := ⟨_, _, _, _, rfl⟩
theorem tok_T (n : Int) : isTok (tkT n) := ⟨_, _, _, _, rfl⟩
theorem tok_spell (ws : List ByteArray) (set : Nat) : ∀ j, ∀ t ∈ spellN ws set j, isTok t
  | 0, t, h => by simp [spellN] at h
  | j + 1, t, h => by
    unfold spellN at h
    split at h
    · rcases List.mem_append.1 h with h | h
      · exact tok_spell ws set j t h
      · rw [List.mem_singleton.1 h]; exact tok_W _
    · exact tok_spell ws set j t h
theorem f18_same {R : f18_T} {ts ks : List (List PC)} {f1 f2 f3 f4 b : Bool} {n : Int} (ht : ∀ t ∈ ts, isTok t) (hl : ts.length < 2 ^ 59) (hl2 : ks.length < 2 ^ 59)
    (hk : ∀ x ∈ ks, ∃ us g1 c vs g2 m, x = [.sl 4 us g1, pB c, .sl 4 vs g2, pI m] ∧ ∀ K : Bool → Prop, K true → R us g1 c vs g2 m us g1 c vs g2 m K) {K : Bool → Prop} (h : K true) : f18_d R ts f1 b ks f2 n ts f3 b ks f4 n K := by
  unfold f18_d
  refine bB_f (by simp) (bB_f (by simp) (bB_f (by simp) (bB_f (by simp) ?_)))
  unfold f18_p7 f18_p8
  refine LoopP.inv ts.length (fun j x => x = (j : Int)) 0 rfl (Nat.zero_le _) hl ?_ ?_
  · rintro j x _ hj rfl N hN
    unfold f18_p8b0
    refine bB_t (ltL hj) ⟨rngL _ hj, ?_⟩
    rw [toNat_c, getD_in _ _ hj]
    obtain ⟨a1, s1, a2, a3, e⟩ := ht _ (List.getElem_mem hj)
    rw [e]
    simp only [ext_0, ext_s, ext_z, cS_c, cI_c, cB_c, cL_c, cO_c, oS_c, oI_c, oB_c, oL_c, nilC_c, toNat_c]
    refine ⟨rngL _ hj, ?_⟩
    rw [w64_s j (by omega)]
    refine bB_f ?_ (hN _ rfl)
    rw [beqB]; simp
  · rintro x rfl N
    unfold f18_p8b0
    refine bB_f (stopL _) ?_
    unfold f18_p18
    refine LoopP.inv ks.length (fun j x => x = (j : Int)) 0 rfl (Nat.zero_le _) hl2 ?_ ?_
    · rintro j x _ hj rfl N hN
      unfold f18_p18b0
      refine bB_t (ltL hj) ⟨rngL _ hj, ?_⟩
      rw [toNat_c, getD_in _ _ hj]
      obtain ⟨us, g1, c, vs, g2, m, e, hR⟩ := hk _ (List.getElem_mem hj)
      rw [e]
      simp only [ext_0, ext_s, ext_z, cS_c, cI_c, cB_c, cL_c, cO_c, oS_c, oI_c, oB_c, oL_c, nilC_c, toNat_c]
      refine ⟨rngL _ hj, ?_⟩
      rw [w64_s j (by omega)]
      exact hR _ (bB_f rfl (hN _ rfl))
    · rintro x rfl N
      unfold f18_p18b0
      exact bB_f (stopL _) h
theorem spellV_len (ws : List ByteArray) (set : Int) : (spellV ws set).length ≤ ws.length := spell_len ws _ _
theorem f18_ok {c : Cls} (hs : Sz c.rs) {f1 f2 f3 f4 : Bool} {K : Bool → Prop} (h : K true) : f18 (lineV c).1.toks f1 (lineV c).1.head (lineV c).1.kids f2 0 (lineV c).1.toks f3 (lineV c).1.head (lineV c).1.kids f4 0 K := by
  refine ⟨2, ?_⟩
  unfold lineV
  by_cases hc : checkV c.nm c.pri c.acks c.rs = 0
  · rw [if_neg (by simpa using hc)]
    refine f18_same (R := f18_n 1) (fun t ht => ?_) ?_ ?_ (fun x hx => ?_) h
    · have ht : t ∈ headV c := ht
      unfold headV at ht
      simp only [List.mem_append, List.mem_cons, List.not_mem_nil, or_false] at ht
      rcases ht with (rfl | rfl | rfl | rfl) | ht
      · exact tok_W _
      · exact tok_W _
      · exact tok_W _
      · exact tok_N _
      · split at ht
        · simp at ht
        · rcases List.mem_cons.1 ht with rfl | ht
          · exact tok_W _
          · exact tok_spell _ _ _ t ht
    · show (headV c).length < _
      unfold headV
      have := spellV_len kindsL c.acks
      have e : kindsL.length = 3 := rfl
      split <;> simp <;> omega
    · show (c.rs.map kidV).length < _
      rw [List.length_map]; exact hs.len
    · obtain ⟨r, hr, rfl⟩ := List.mem_map.1 hx
      refine ⟨recV r, false, false, [], true, 0, rfl, fun K hK => ?_⟩
      refine f18_same (R := f18_n 0) (fun t ht => ?_) ?_ (by decide) (fun x hx => by cases hx) hK
      · unfold recV at ht
        simp only [List.mem_append, List.mem_cons, List.not_mem_nil, or_false] at ht
        rcases ht with (((rfl | rfl | rfl) | ht) | rfl | rfl | rfl | rfl | rfl) | ht
        · exact tok_W _
        · exact tok_W _
        · exact tok_W _
        · exact tok_spell _ _ _ t ht
        · exact tok_W _
        · exact tok_T _
        · exact tok_W _
        · exact tok_T _
        · exact tok_W _
        · exact tok_spell _ _ _ t ht
      · unfold recV
        have := spellV_len kindsL r.kinds
        have := spellV_len daysL r.days
        have e : kindsL.length = 3 := rfl
        have e : daysL.length = 7 := rfl
        simp
        omega
  · rw [if_pos (by simpa using hc)]
    exact f18_same (R := f18_n 1) (ts := []) (ks := []) (fun t ht => by cases ht) (by decide) (by decide) (fun x hx => by cases hx) h
theorem f3_ok {c : Cls} {full : Bool} (hn : c.nm.size < 2 ^ 59) (hs : Sz c.rs) {K : Bool → Prop} (h : K true) : f3 c.nm c.pri c.acks (c.rs.map Rc.c) full K := by
  refine ⟨?_⟩
  unfold f3_d
  refine f12_ok (bB_f rfl (f13_ok hs.len (bB_of (fun _ => h) fun h1 => ?_)))
  refine f14_ok hn hs fun _ _ => f15_ok hn hs fun _ _ => f16_ok hn hs (f17_ok hn hs (bB_t (by simp) (bB_t (by simp) (f18_ok hs h))))
end Go.Eng.N
