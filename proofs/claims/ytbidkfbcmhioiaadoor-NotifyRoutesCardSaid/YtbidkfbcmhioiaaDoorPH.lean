/- Notify, pure, 8: what Without leaves, the reference's; what laws compare. -/
import Derived.Test.YtbidkfbcmhioiaaDoorPG
import Derived.Test.YtbidkfbcmhioiaaDoorFn2
set_option linter.unusedVariables false
set_option linter.unusedSimpArgs false
set_option maxRecDepth 100000
namespace Go.Eng.N
open Go Go.Eng
/-- Somebody is told, and nobody of those who stay. -/
def lostB (rs out : List Rc) (d m k : Nat) : Bool := anyB rs d m k && !anyB out d m k
theorem keep_sub {who : ByteArray} {rs : List Rc} {r : Rc} (h : r ∈ keepV who rs) : r ∈ rs := (List.mem_filter.1 h).1
theorem anyB_keep {who : ByteArray} {rs : List Rc} {d k : Nat} {m : Int} (h : anyB (keepV who rs) d m k = true) : anyB rs d m k = true := by
  unfold anyB at h ⊢
  obtain ⟨r, hr, ht⟩ := List.any_eq_true.1 h
  exact List.any_eq_true.2 ⟨r, keep_sub hr, ht⟩
theorem confl_eq (who : ByteArray) (rs : List Rc) : confl rs (keepV who rs) = (List.range 7).any fun d => (List.range 1440).any fun m => (List.range 3).any fun k => lostB rs (keepV who rs) d m k := by
  unfold confl
  rw [Bool.eq_iff_iff]
  simp only [List.any_eq_true, List.mem_range, Bool.not_eq_true']
  constructor
  · rintro ⟨k, hk, h⟩
    have h1 : ¬ ∀ i, i < 10080 → wk rs k i = wk (keepV who rs) k i := fun hc => by
      rw [sameT_iff.2 hc] at h; cases h
    apply Classical.byContradiction
    intro hc
    refine h1 fun i hi => ?_
    unfold wk
    cases hb : anyB (keepV who rs) (i / 1440) ((i % 1440 : Nat) : Int) k with
    | true => exact anyB_keep hb
    | false =>
      cases ha : anyB rs (i / 1440) ((i % 1440 : Nat) : Int) k with
      | false => rfl
      | true => exact absurd ⟨i / 1440, by omega, i % 1440, by omega, k, hk, by unfold lostB; rw [ha, hb]; rfl⟩ hc
  · rintro ⟨d, hd, m, hm, k, hk, h⟩
    refine ⟨k, hk, ?_⟩
    rw [Bool.eq_false_iff]
    intro hc
    have := sameT_iff.1 hc (d * 1440 + m) (by omega)
    unfold wk at this
    rw [show (d * 1440 + m) / 1440 = d by omega, show (d * 1440 + m) % 1440 = m by omega] at this
    unfold lostB at h
    rw [this] at h
    simp at h
theorem f28_ok {nm : ByteArray} {pri acks : Int} {rs : List Rc} {full : Bool} (hn : nm.size < 2 ^ 59) (hs : Sz rs) {who : ByteArray} {K : ByteArray → Int → Int → List (List PC) → Bool → Int → Prop}
    (h : ∀ fl, K (withoutV ⟨nm, pri, acks, rs⟩ who).1.nm (withoutV ⟨nm, pri, acks, rs⟩ who).1.pri (withoutV ⟨nm, pri, acks, rs⟩ who).1.acks ((withoutV ⟨nm, pri, acks, rs⟩ who).1.rs.map Rc.c) fl (withoutV ⟨nm, pri, acks, rs⟩ who).2) : f28 nm pri acks (rs.map Rc.c) full who K := by
  refine ⟨?_⟩
  unfold f28_d
  unfold withoutV at h
  dsimp only at h
  refine f17_ok hn hs (bB_of (fun h1 => ?_) fun h1 => ?_)
  · rw [if_pos (by simpa using h1)] at h; exact h true
  · rw [if_neg (by simpa using h1)] at h
    have hg := check_good (by simpa using h1)
    have hl : rs.length ≤ 2 ^ 40 := by have := hg.1; omega
    have hlk : (keepV who rs).length ≤ rs.length := List.length_filter_le _ _
    unfold f28_p12
    refine LoopP.inv rs.length (fun j x => x.1 = (j : Int) ∧ SlR x.2.1 x.2.2.1 x.2.2.2 ((keepV who (rs.take j)).map Rc.c)) 0 ⟨rfl, SlR.nil⟩ (Nat.zero_le _) (by omega) ?_ ?_
    · rintro j ⟨x, i, n, es⟩ _ hj ⟨rfl, hr⟩ N hN
      have hr : SlR i n es _ := hr
      have hn2 := hr.n
      have hl3 : (keepV who (rs.take j)).length ≤ (rs.take j).length := List.length_filter_le _ _
      rw [List.length_map] at hn2
      rw [List.length_take] at hl3
      have hsp : keepV who (rs.take (j + 1)) = keepV who (rs.take j) ++ (if rs[j].nm = who then [] else [rs[j]]) := by
        unfold keepV
        rw [List.take_succ_eq_append_getElem hj, List.filter_append]
        congr 1
        by_cases e : rs[j].nm = who <;> simp [e]
      unfold f28_p12b0
      dsimp only
      refine bB_t (ltM _ _ hj) ⟨rngM _ _ hj, ?_⟩
      rw [toNat_c, getD_map _ _ _ hj]
      simp only [Rc.c, ext_0, ext_s, ext_z, cS_c, cI_c, cB_c, cL_c, cO_c, oS_c, oI_c, oB_c, oL_c, nilC_c, toNat_c]
      rw [beqL, w64_s j (by omega)]
      refine bB_of (fun h3 => ⟨rngM _ _ hj, hr.len, by omega, by omega, hN _ ⟨rfl, ?_⟩⟩) fun h3 => hN _ ⟨rfl, ?_⟩
      · have h4 : ¬ rs[j].nm = who := by simpa using h3
        rw [hsp, if_neg h4, List.map_append]
        exact hr.push _
      · have h4 : rs[j].nm = who := by simpa using h3
        rw [hsp, if_pos h4, List.append_nil]
        exact hr
    · rintro ⟨x, i, n, es⟩ ⟨rfl, hr⟩ N
      have hr : SlR i n es _ := hr
      rw [List.take_length] at hr
      have hm := hr.n
      rw [List.length_map] at hm
      unfold f28_p12b0
      dsimp only
      refine bB_f (stopM _ _) (bB_of (fun h2 => ?_) fun h2 => ?_)
      · rw [if_pos (by rw [List.length_map] at h2; simp only [beq_iff_eq] at h2; omega)] at h
        exact h true
      · rw [if_neg (by rw [List.length_map] at h2; simp only [beq_eq_false_iff_ne] at h2; omega), confl_eq] at h
        unfold f28_p26
        refine LoopP.any (List.range 7) (fun d => (List.range 1440).any fun m => (List.range 3).any fun k => lostB rs (keepV who rs) d m k) (A := K ⟨#[]⟩ 0 0 [] true 10) (B := K nm pri acks ((keepV who rs).map Rc.c) false 0) (by decide) (fun e => ?_) (fun e => ?_) (fun d hd N hA hN => ?_) fun N hB => ?_
        · rw [if_pos e] at h; exact h true
        · rw [e, if_neg Bool.false_ne_true] at h; exact h false
        · have hd7 : d < 7 := by simpa using hd
          rw [List.getElem_range] at hA hN
          unfold f28_p26b0
          refine bB_t (decide_eq_true (by omega)) ?_
          rw [w64_s d (by omega)]
          unfold f28_p32
          refine LoopP.any (List.range 1440) (fun m => (List.range 3).any fun k => lostB rs (keepV who rs) d m k) (A := K ⟨#[]⟩ 0 0 [] true 10) (B := N ((d + 1 : Nat) : Int)) (by rw [List.length_range]; omega) hA hN (fun m hm N2 hA2 hN2 => ?_) fun N2 hB2 => ?_
          · have hm2 : m < 1440 := by simpa using hm
            rw [List.getElem_range] at hA2 hN2
            unfold f28_p32b0
            refine bB_t (decide_eq_true (by omega)) ?_
            rw [w64_s m (by omega)]
            unfold f28_p38
            refine LoopP.anyS (fun k => ((2 ^ k : Nat) : Int)) rfl (List.range 3) (fun k => lostB rs (keepV who rs) d m k) (A := K ⟨#[]⟩ 0 0 [] true 10) (B := N2 ((m + 1 : Nat) : Int)) (by rw [List.length_range]; omega) hA2 hN2 (fun k hk N3 hA3 hN3 => ?_) fun N3 hB3 => ?_
            · have hk3 : k < 3 := by simpa using hk
              rw [List.getElem_range] at hA3 hN3
              unfold f28_p38b0
              have hp : 2 ^ k ≤ 2 ^ 2 := Nat.pow_le_pow_right (by decide) (by omega)
              have hp2 : w64 (2 * ((2 ^ k : Nat) : Int)) = ((2 ^ (k + 1) : Nat) : Int) := by
                rw [Nat.pow_succ]
                generalize 2 ^ k = z at hp ⊢
                rw [w64_in (by omega) (by omega)]; omega
              dsimp only
              refine bB_t (decide_eq_true (by omega)) (f60_ok hl hg.2.2.2.1 hd7 (by omega) ?_)
              unfold lostB at hA3 hN3
              rw [hp2, hr.take]
              refine bB_of (fun h3 => f60_ok (by omega) (fun r hr => hg.2.2.2.1 r (keep_sub hr)) hd7 (by omega) (bB_of (fun h4 => hA3 ?_) fun h4 => hN3 ?_)) fun h3 => hN3 ?_
              · rw [h3, h4]; rfl
              · rw [h3, h4]; rfl
              · rw [h3]; rfl
            · unfold f28_p38b0
              dsimp only
              exact bB_f (decide_eq_false (by rw [List.length_range]; decide)) hB3
          · unfold f28_p32b0
            exact bB_f (decide_eq_false (by rw [List.length_range]; omega)) hB2
        · unfold f28_p26b0
          refine bB_f (decide_eq_false (by rw [List.length_range]; omega)) ?_
          rw [hr.take]
          exact hB
/-- Are two classes the same? -/
def eqCls (a b : Cls) : Bool := decide (a.nm = b.nm) && (decide (a.pri = b.pri) && (decide (a.acks = b.acks) && decide (a.rs = b.rs)))
theorem f29_ok {a b : Cls} {f1 f2 : Bool} (hl : a.rs.length < 2 ^ 59) {K : Bool → Prop} (h : K (eqCls a b)) : f29 a.nm a.pri a.acks (a.rs.map Rc.c) f1 b.nm b.pri b.acks (b.rs.map Rc.c) f2 K := by
  refine ⟨?_⟩
  unfold f29_d
  unfold eqCls at h
  rw [beqL]
  refine bB_of (fun h1 => ?_) fun h1 => bB_of (fun h2 => ?_) fun h2 => bB_of (fun h3 => ?_) fun h3 => bB_of (fun h4 => ?_) fun h4 => ?_
  all_goals (simp only [Bool.not_eq_true', Bool.not_eq_false', bne_iff_ne, ne_eq, bne_eq_false_iff_eq, List.length_map] at *)
  · rw [h1] at h; exact h
  · rw [h1, decide_eq_false h2] at h; exact h
  · rw [h1, decide_eq_true h2, decide_eq_false h3] at h; exact h
  · rw [h1, decide_eq_true h2, decide_eq_true h3, decide_eq_false (fun e => h4 (by rw [e]))] at h; exact h
  · have hlen : a.rs.length = b.rs.length := by omega
    rw [h1, decide_eq_true h2, decide_eq_true h3] at h
    simp only [Bool.true_and] at h
    unfold f29_p7 f29_p8
    have e : (List.range a.rs.length).all (fun j => decide (a.rs[j]? = b.rs[j]?)) = decide (a.rs = b.rs) := by
      rw [Bool.eq_iff_iff]
      simp only [List.all_eq_true, List.mem_range, decide_eq_true_eq]
      constructor
      · intro hh
        apply List.ext_getElem?
        intro i
        rcases Nat.lt_or_ge i a.rs.length with hi | hi
        · exact hh i hi
        · rw [List.getElem?_eq_none hi, List.getElem?_eq_none (by omega)]
      · intro hh i _; rw [hh]
    rw [← e] at h
    refine LoopP.all (List.range a.rs.length) (fun j => decide (a.rs[j]? = b.rs[j]?)) (A := K false) (B := K true) (by simpa using hl) (fun e => e ▸ h) (fun e => e ▸ h) (fun j hj N hA hN => ?_) fun N hB => ?_
    · have hj1 : j < a.rs.length := by simpa using hj
      have hj2 : j < b.rs.length := by omega
      rw [List.getElem_range] at hA hN
      unfold f29_p8b0
      refine bB_t (ltM _ _ hj1) ⟨rngM _ _ hj1, ?_⟩
      rw [toNat_c, getD_map _ _ _ hj1]
      simp only [Rc.c, ext_0, ext_s, ext_z, cS_c, cI_c, cB_c, cL_c, cO_c, oS_c, oI_c, oB_c, oL_c, nilC_c, toNat_c]
      refine ⟨rngM _ _ hj2, ?_⟩
      rw [getD_map _ _ _ hj2]
      simp only [Rc.c, ext_0, ext_s, ext_z, cS_c, cI_c, cB_c, cL_c, cO_c, oS_c, oI_c, oB_c, oL_c, nilC_c, toNat_c]
      rw [eqRc, w64_s j (by omega)]
      simp only [List.getElem?_eq_getElem hj1, List.getElem?_eq_getElem hj2, Option.some.injEq] at hA hN
      refine bB_of (fun h5 => hA (by simpa using h5)) fun h5 => hN (by simpa using h5)
    · unfold f29_p8b0
      rw [List.length_range]
      exact bB_f (stopM _ _) hB
/-- Is a class small? -/
def smallB (c : Cls) : Bool := decide (c.rs.length ≤ 12) && (decide (c.nm.size ≤ 60) && c.rs.all fun r => decide (r.nm.size ≤ 60))
theorem f13_ok {c : Cls} {full : Bool} (hl : c.rs.length < 2 ^ 59) {K : Bool → Prop} (h : K (smallB c)) : f13 c.nm c.pri c.acks (c.rs.map Rc.c) full K := by
  refine ⟨?_⟩
  unfold f13_d
  unfold smallB at h
  refine bB_of (fun h1 => ?_) fun h1 => bB_of (fun h2 => ?_) fun h2 => ?_
  all_goals (simp only [List.length_map, decide_eq_true_eq, decide_eq_false_iff_not] at h1)
  · rw [decide_eq_false (by omega)] at h; exact h
  · simp only [decide_eq_true_eq] at h2
    rw [decide_eq_true (by omega), decide_eq_false (by omega)] at h; exact h
  · simp only [decide_eq_false_iff_not] at h2
    rw [decide_eq_true (by omega), decide_eq_true (by omega)] at h
    simp only [Bool.true_and] at h
    unfold f13_p7 f13_p8
    refine LoopP.all c.rs (fun r => decide (r.nm.size ≤ 60)) (A := K false) (B := K true) hl (fun e => e ▸ h) (fun e => e ▸ h) (fun j hj N hA hN => ?_) fun N hB => ?_
    · unfold f13_p8b0
      refine bB_t (ltM _ _ hj) ⟨rngM _ _ hj, ?_⟩
      rw [toNat_c, getD_map _ _ _ hj]
      simp only [Rc.c, ext_0, ext_s, ext_z, cS_c, cI_c, cB_c, cL_c, cO_c, oS_c, oI_c, oB_c, oL_c, nilC_c, toNat_c]
      rw [w64_s j (by omega)]
      refine bB_of (fun h3 => hA ?_) fun h3 => hN ?_
      · simp only [decide_eq_true_eq] at h3; exact decide_eq_false (by omega)
      · simp only [decide_eq_false_iff_not] at h3; exact decide_eq_true (by omega)
    · unfold f13_p8b0
      exact bB_f (stopM _ _) hB
theorem f23_ok {a b : List ByteArray} {f1 f2 : Bool} (hl : a.length < 2 ^ 59) {K : Bool → Prop} (h : K (decide (a = b))) : f23 (a.map sc) f1 (b.map sc) f2 K := by
  refine ⟨?_⟩
  unfold f23_d
  refine bB_of (fun h1 => ?_) fun h1 => ?_
  all_goals (simp only [bne_iff_ne, ne_eq, bne_eq_false_iff_eq, List.length_map] at h1)
  · rw [decide_eq_false (fun e => h1 (by rw [e]))] at h; exact h
  · have hlen : a.length = b.length := by omega
    unfold f23_p8
    have e : (List.range a.length).all (fun j => decide (a[j]? = b[j]?)) = decide (a = b) := by
      rw [Bool.eq_iff_iff]
      simp only [List.all_eq_true, List.mem_range, decide_eq_true_eq]
      constructor
      · intro hh
        apply List.ext_getElem?
        intro i
        rcases Nat.lt_or_ge i a.length with hi | hi
        · exact hh i hi
        · rw [List.getElem?_eq_none hi, List.getElem?_eq_none (by omega)]
      · intro hh i _; rw [hh]
    rw [← e] at h
    refine LoopP.all (List.range a.length) (fun j => decide (a[j]? = b[j]?)) (A := K false) (B := K true) (by simpa using hl) (fun e => e ▸ h) (fun e => e ▸ h) (fun j hj N hA hN => ?_) fun N hB => ?_
    · have hj1 : j < a.length := by simpa using hj
      have hj2 : j < b.length := by omega
      rw [List.getElem_range] at hA hN
      unfold f23_p8b0
      refine bB_t (ltM _ _ hj1) ⟨rngM _ _ hj1, ?_⟩
      rw [toNat_c, getD_map _ _ _ hj1]
      simp only [sc, ext_0, ext_s, ext_z, cS_c, cI_c, cB_c, cL_c, cO_c, oS_c, oI_c, oB_c, oL_c, nilC_c, toNat_c]
      refine ⟨rngM _ _ hj2, ?_⟩
      rw [getD_map _ _ _ hj2]
      simp only [sc, ext_0, ext_s, ext_z, cS_c, cI_c, cB_c, cL_c, cO_c, oS_c, oI_c, oB_c, oL_c, nilC_c, toNat_c]
      rw [beqL, w64_s j (by omega)]
      simp only [List.getElem?_eq_getElem hj1, List.getElem?_eq_getElem hj2, Option.some.injEq] at hA hN
      refine bB_of (fun h5 => hA (by simpa using h5)) fun h5 => hN (by simpa using h5)
    · unfold f23_p8b0
      rw [List.length_range]
      exact bB_f (stopM _ _) hB
theorem f24_ok {l : List ByteArray} {e : Ev} {pri : Int} {cf f1 f2 : Bool} (hl : l.length < 2 ^ 59) {K : Bool → Prop} (h : K true) : f24 (l.map (ncells e pri cf)) f1 (l.map (ncells e pri cf)) f2 K := by
  refine ⟨?_⟩
  unfold f24_d
  refine bB_f (by simp) ?_
  unfold f24_p8
  refine LoopP.inv l.length (fun j x => x = (j : Int)) 0 rfl (Nat.zero_le _) hl ?_ ?_
  · rintro j x _ hj rfl N hN
    unfold f24_p8b0
    refine bB_t (ltM _ _ hj) ?_
    rw [toNat_c, getD_map _ _ _ hj]
    simp only [ncells, Ev.c, List.cons_append, List.nil_append, ext_0, ext_s, ext_z, cS_c, cI_c, cB_c, cL_c, cO_c, oS_c, oI_c, oB_c, oL_c, nilC_c, toNat_c]
    rw [w64_s j (by omega)]
    have hr := rngM (ncells e pri cf) l hj
    have hr2 : 0 ≤ (j : Int) ∧ (j : Int) < ((l.length : Nat) : Int) := by omega
    have hN := hN _ rfl
    simp only [beq_self_eq_true, Bool.not_true, Bool.and_self, bne_self_eq_false, bB]
    simp only [List.length_map]
    repeat' (first | exact hr2 | exact hN | refine ⟨hr2, ?_⟩)
  · rintro x rfl N
    unfold f24_p8b0
    exact bB_f (stopM _ _) h
end Go.Eng.N
