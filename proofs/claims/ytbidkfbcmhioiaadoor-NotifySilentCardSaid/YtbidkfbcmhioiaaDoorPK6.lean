/- Notify, pure: the law NotifySilent. -/
import Derived.Test.YtbidkfbcmhioiaaDoorPK7
import Derived.Test.YtbidkfbcmhioiaaDoorFn2
set_option linter.unusedVariables false
set_option linter.unusedSimpArgs false
namespace Go.Eng.N
open Go Go.Eng
structure RunOk (f : Nat → Bool) (d j : Nat) (acc : List (Nat × Nat × Nat)) (cur : Option Nat) : Prop where
  p1 : ∀ x ∈ acc, x.1 = d ∧ x.2.1 ≤ x.2.2 ∧ x.2.2 + 1 < j
  p2 : acc.Pairwise fun x y => x.2.2 + 1 < y.2.1
  p3 : ∀ a, cur = some a → a < j ∧ ∀ x ∈ acc, x.2.2 + 1 < a
  p4 : ∀ m, m < j → (f m = false ↔ (∃ x ∈ acc, x.2.1 ≤ m ∧ m ≤ x.2.2) ∨ ∃ a, cur = some a ∧ a ≤ m)
theorem run_ok (f : Nat → Bool) (d : Nat) : ∀ j, RunOk f d j (runG f d j).1 (runG f d j).2
  | 0 => ⟨by simp [runG], by simp [runG], by simp [runG], by intro m hm; omega⟩
  | j + 1 => by
    obtain ⟨p1, p2, p3, p4⟩ := run_ok f d j
    unfold runG
    cases hr : runG f d j with
    | mk acc cur =>
      rw [hr] at p1 p2 p3 p4
      simp only at p1 p2 p3 p4 ⊢
      cases hf : f j with
      | true =>
        simp only [if_true]
        cases cur with
        | none =>
          refine ⟨fun x hx => ⟨(p1 x hx).1, (p1 x hx).2.1, by have := (p1 x hx).2.2; omega⟩, p2, (by intro a h; cases h), fun m hm => ?_⟩
          rcases Nat.lt_or_ge m j with h | h
          · exact p4 m h
          · obtain rfl : m = j := by omega
            rw [hf]
            constructor
            · intro h; cases h
            · rintro (⟨x, hx, h1, h2⟩ | ⟨a, h, _⟩)
              · have := (p1 x hx).2.2; omega
              · cases h
        | some a =>
          obtain ⟨q1, q2⟩ := p3 a rfl
          refine ⟨fun x hx => ?_, ?_, (by intro b h; cases h), fun m hm => ?_⟩
          · rcases List.mem_append.1 hx with hx | hx
            · exact ⟨(p1 x hx).1, (p1 x hx).2.1, by have := (p1 x hx).2.2; omega⟩
            · obtain rfl := List.mem_singleton.1 hx
              exact ⟨rfl, by simp only; omega, by simp only; omega⟩
          · refine List.pairwise_append.2 ⟨p2, List.pairwise_singleton _ _, fun x hx y hy => ?_⟩
            obtain rfl := List.mem_singleton.1 hy
            exact q2 x hx
          · rcases Nat.lt_or_ge m j with h | h
            · rw [p4 m h]
              constructor
              · rintro (⟨x, hx, h1⟩ | ⟨b, hb, h1⟩)
                · exact .inl ⟨x, List.mem_append_left _ hx, h1⟩
                · obtain rfl := Option.some.inj hb
                  exact .inl ⟨(d, a, j - 1), by simp, h1, by simp only; omega⟩
              · rintro (⟨x, hx, h1⟩ | ⟨b, hb, h1⟩)
                · rcases List.mem_append.1 hx with hx | hx
                  · exact .inl ⟨x, hx, h1⟩
                  · obtain rfl := List.mem_singleton.1 hx
                    exact .inr ⟨a, rfl, h1.1⟩
                · cases hb
            · obtain rfl : m = j := by omega
              rw [hf]
              constructor
              · intro h; cases h
              · rintro (⟨x, hx, h1, h2⟩ | ⟨b, hb, _⟩)
                · rcases List.mem_append.1 hx with hx | hx
                  · have := (p1 x hx).2.2; omega
                  · obtain rfl := List.mem_singleton.1 hx
                    simp only at h2; omega
                · cases hb
      | false =>
        simp only [Bool.false_eq_true, if_false]
        refine ⟨fun x hx => ⟨(p1 x hx).1, (p1 x hx).2.1, by have := (p1 x hx).2.2; omega⟩, p2, fun a ha => ?_, fun m hm => ?_⟩
        · obtain rfl := Option.some.inj ha
          cases cur with
          | none => exact ⟨by simp, fun x hx => (p1 x hx).2.2⟩
          | some b => exact ⟨by have := (p3 b rfl).1; simp only [Option.getD_some]; omega, (p3 b rfl).2⟩
        · rcases Nat.lt_or_ge m j with h | h
          · rw [p4 m h]
            cases cur with
            | none =>
              constructor
              · rintro (h1 | ⟨a, ha, _⟩)
                · exact .inl h1
                · cases ha
              · rintro (h1 | ⟨a, ha, h2⟩)
                · exact .inl h1
                · obtain rfl := Option.some.inj ha
                  simp only [Option.getD_none] at h2; omega
            | some b => rfl
          · obtain rfl : m = j := by omega
            rw [hf]
            refine ⟨fun _ => .inr ⟨_, rfl, ?_⟩, fun _ => rfl⟩
            cases cur with
            | none => exact Nat.le_refl _
            | some b => have := (p3 b rfl).1; simp only [Option.getD_some]; omega
theorem flush_ok (f : Nat → Bool) (d j : Nat) : (∀ x ∈ flushG f d j, x.1 = d ∧ x.2.1 ≤ x.2.2 ∧ x.2.2 < j) ∧ (flushG f d j).Pairwise (fun x y => x.2.2 + 1 < y.2.1) ∧ (∀ m, m < j → (f m = false ↔ ∃ x ∈ flushG f d j, x.2.1 ≤ m ∧ m ≤ x.2.2)) := by
  obtain ⟨p1, p2, p3, p4⟩ := run_ok f d j
  unfold flushG
  cases hc : (runG f d j).2 with
  | none =>
    rw [hc] at p3 p4
    simp only [List.append_nil]
    refine ⟨fun x hx => ⟨(p1 x hx).1, (p1 x hx).2.1, by have := (p1 x hx).2.2; omega⟩, p2, fun m hm => ?_⟩
    rw [p4 m hm]
    constructor
    · rintro (h | ⟨a, ha, _⟩)
      · exact h
      · cases ha
    · exact .inl
  | some a =>
    rw [hc] at p3 p4
    obtain ⟨q1, q2⟩ := p3 a rfl
    refine ⟨fun x hx => ?_, List.pairwise_append.2 ⟨p2, List.pairwise_singleton _ _, fun x hx y hy => ?_⟩, fun m hm => ?_⟩
    · rcases List.mem_append.1 hx with hx | hx
      · exact ⟨(p1 x hx).1, (p1 x hx).2.1, by have := (p1 x hx).2.2; omega⟩
      · obtain rfl := List.mem_singleton.1 hx
        exact ⟨rfl, by simp only; omega, by simp only; omega⟩
    · obtain rfl := List.mem_singleton.1 hy
      exact q2 x hx
    · rw [p4 m hm]
      constructor
      · rintro (⟨x, hx, h1⟩ | ⟨b, hb, h1⟩)
        · exact ⟨x, List.mem_append_left _ hx, h1⟩
        · obtain rfl := Option.some.inj hb
          exact ⟨(d, a, j - 1), by simp, h1, by simp only; omega⟩
      · rintro ⟨x, hx, h1⟩
        rcases List.mem_append.1 hx with hx | hx
        · exact .inl ⟨x, hx, h1⟩
        · obtain rfl := List.mem_singleton.1 hx
          exact .inr ⟨a, rfl, h1.1⟩
/-- In order, and apart. -/
def apartG (x y : Nat × Nat × Nat) : Prop := x.1 < y.1 ∨ (x.1 = y.1 ∧ x.2.2 + 1 < y.2.1)
theorem gaps_ok (rs : List Rc) (k : Nat) : ∀ n, (∀ x ∈ gapsN rs k n, x.1 < n ∧ x.2.1 ≤ x.2.2 ∧ x.2.2 < 1440) ∧ (gapsN rs k n).Pairwise apartG ∧ (∀ d m : Nat, d < n → m < 1440 → (anyB rs d (m : Int) k = false ↔ ∃ x ∈ gapsN rs k n, x.1 = d ∧ x.2.1 ≤ m ∧ m ≤ x.2.2))
  | 0 => by rw [gaps_0]; exact ⟨by simp, by simp, fun d m h => by omega⟩
  | n + 1 => by
    obtain ⟨h1, h2, h3⟩ := gaps_ok rs k n
    obtain ⟨k1, k2, k3⟩ := flush_ok (rowB rs k n) n 1440
    rw [gaps_s]
    refine ⟨fun x hx => ?_, List.pairwise_append.2 ⟨h2, k2.imp_of_mem fun {x y} hx hy h => .inr ⟨by rw [(k1 x hx).1, (k1 y hy).1], h⟩, fun x hx y hy => .inl ?_⟩, fun d m hd hm => ?_⟩
    · rcases List.mem_append.1 hx with hx | hx
      · exact ⟨by have := (h1 x hx).1; omega, (h1 x hx).2⟩
      · exact ⟨by have := (k1 x hx).1; omega, (k1 x hx).2⟩
    · rw [(k1 y hy).1]; exact (h1 x hx).1
    · rcases Nat.lt_or_ge d n with hd2 | hd2
      · rw [h3 d m hd2 hm]
        constructor
        · rintro ⟨x, hx, h⟩; exact ⟨x, List.mem_append_left _ hx, h⟩
        · rintro ⟨x, hx, h⟩
          rcases List.mem_append.1 hx with hx | hx
          · exact ⟨x, hx, h⟩
          · have := (k1 x hx).1; omega
      · obtain rfl : d = n := by omega
        rw [← row_in hm, k3 m hm]
        constructor
        · rintro ⟨x, hx, h⟩; exact ⟨x, List.mem_append_right _ hx, (k1 x hx).1, h⟩
        · rintro ⟨x, hx, e, h⟩
          rcases List.mem_append.1 hx with hx | hx
          · have := (h1 x hx).1; omega
          · exact ⟨x, hx, h⟩
def inGap (D M : Nat) (x : Nat × Nat × Nat) : Bool := decide (x.1 = D) && (decide (x.2.1 ≤ M) && decide (M ≤ x.2.2))
theorem f6_p24_sp {es : List (List PC)} {f1 f2 : Bool} {l : List (Nat × Nat × Nat)} (hl : l.length ≤ 2 ^ 30) (hb : ∀ x ∈ l, x.1 < 7 ∧ x.2.1 ≤ x.2.2 ∧ x.2.2 < 1440) (hp : l.Pairwise apartG) {D M : Nat} (hD : D < 7) (hM : M < 1440) {K0 K1 : Bool → Prop}
    (h : K1 (l.any (inGap D M))) : f6_p24 es f1 (l.map gcl) f2 ((D : Int) + 1) (M : Int) K0 K1 (false, 0) := by
  unfold f6_p24
  refine LoopP.inv l.length (fun j x => x = ((l.take j).any (inGap D M), (j : Int))) 0 rfl (Nat.zero_le _) (by omega) ?_ ?_
  · rintro j x _ hj rfl N hN
    unfold f6_p24b0
    dsimp only
    refine bB_t (ltM _ _ hj) ⟨rngM _ _ hj, ?_⟩
    rw [toNat_c, getD_map _ _ _ hj]
    have hbj := hb _ (List.getElem_mem hj)
    have fin : f6_p35 es f1 (l.map gcl) f2 ((D : Int) + 1) (M : Int) ((l.take j).any (inGap D M)) (j : Int) ((l[j].1 : Int) + 1) l[j].2.1 l[j].2.2 (fun b49 => N (b49, w64 ((j : Int) + 1))) := by
      rw [w64_s j (by omega)]
      have e : (l.take (j + 1)).any (inGap D M) = ((l.take j).any (inGap D M) || inGap D M l[j]) := by
        rw [List.take_succ_eq_append_getElem hj, List.any_append]; simp
      have hN := hN _ rfl
      rw [e] at hN
      unfold f6_p35
      refine bB_of (fun h1 => ?_) fun h1 => ?_
      · rw [h1] at hN; exact hN
      · rw [h1, Bool.false_or] at hN
        unfold inGap at hN
        refine bB_of (fun h2 => bB_of (fun h3 => ?_) fun h3 => ?_) fun h2 => ?_
        · have h2' : l[j].1 = D := by simp only [beq_iff_eq] at h2; omega
          have h3' : l[j].2.1 ≤ M := by simp only [decide_eq_true_eq] at h3; omega
          rw [decide_eq_true h2', decide_eq_true h3'] at hN
          rw [show decide ((M : Int) ≤ (l[j].2.2 : Int)) = decide (M ≤ l[j].2.2) by rw [decide_eq_decide]; omega]
          exact hN
        · have h3' : ¬ l[j].2.1 ≤ M := by simp only [decide_eq_false_iff_not] at h3; omega
          rw [decide_eq_false h3'] at hN
          simpa using hN
        · have h2' : ¬ l[j].1 = D := by simp only [beq_eq_false_iff_ne, ne_eq] at h2; omega
          rw [decide_eq_false h2'] at hN
          simpa using hN
    have key : j = 0 ∨ (0 < j ∧ ∃ hj1 : j - 1 < l.length, apartG l[j - 1] l[j]) := by
      rcases Nat.eq_zero_or_pos j with e | e
      · exact .inl e
      · exact .inr ⟨e, by omega, List.pairwise_iff_getElem.1 hp (j - 1) j (by omega) hj (by omega)⟩
    generalize l[j] = g at hbj fin key
    simp only [gcl, ext_0, ext_s, ext_z, cS_c, cI_c, cB_c, cL_c, cO_c, oS_c, oI_c, oB_c, oL_c, nilC_c, toNat_c]
    refine bB_f (decide_eq_false (by omega)) (bB_of (fun h2 => ?_) fun h2 => fin)
    rcases key with rfl | ⟨hj0, hj1, hap⟩
    · simp at h2
    have e1 : w64 ((j : Int) - 1) = ((j - 1 : Nat) : Int) := by rw [w64_in (by omega) (by omega)]; omega
    have hr1 : 0 ≤ w64 ((j : Int) - 1) ∧ w64 ((j : Int) - 1) < (((l.map gcl).length : Nat) : Int) := by rw [e1]; exact rngM _ _ hj1
    have hb1 := hb _ (List.getElem_mem hj1)
    refine ⟨hr1, ?_⟩
    rw [e1, toNat_c, getD_map _ _ _ hj1]
    rw [e1] at hr1
    generalize l[j - 1] = g1 at hap hb1
    simp only [gcl, ext_0, ext_s, ext_z, cS_c, cI_c, cB_c, cL_c, cO_c, oS_c, oI_c, oB_c, oL_c, nilC_c, toNat_c]
    unfold apartG at hap
    refine bB_f (decide_eq_false (by omega)) ⟨hr1, bB_of (fun h3 => ⟨hr1, bB_f (decide_eq_false ?_) fin⟩) fun h3 => fin⟩
    simp only [beq_iff_eq] at h3
    rw [w64_in (by omega) (by omega)]
    omega
  · rintro x rfl N
    unfold f6_p24b0
    dsimp only
    rw [List.take_length]
    exact bB_f (stopM _ _) h
theorem f6_ok {c : Cls} {full : Bool} (hn : c.nm.size < 2 ^ 59) (hs : Sz c.rs) {t s : Int} {K : Bool → Prop} (h : K true) : f6 c.nm c.pri c.acks (c.rs.map Rc.c) full t s K := by
  refine ⟨?_⟩
  unfold f6_d
  refine f12_ok (bB_f rfl (f13_ok hs.len (bB_of (fun _ => h) fun h1 => ?_)))
  refine f19_ok hn hs fun _ => f25_ok hn hs fun _ => bB_of (fun _ => h) fun h2 => bB_of (fun _ => h) fun h3 => ?_
  have h0 := told_ok (by simpa using h2)
  have ht := timed_of h0.2.1
  have hst : stateB s = true := by
    have := h0.2.1
    unfold timedB at this
    simp only [Bool.and_eq_true] at this
    exact this.2
  have hgv : (gapsV c.nm c.pri c.acks c.rs s).1 = gapsN c.rs (kindIx s) 7 := by
    unfold gapsV
    rw [if_neg (by simpa using h0.1), if_pos hst]
  obtain ⟨m, hm, hm2⟩ := minOf_rng ht.1
  unfold f6_p19
  rw [day_eq ht.1 ht.2.1, min_eq ht.1, w64_in (by have := dayOf_lt t; omega) (by have := dayOf_lt t; omega), hgv, hm]
  refine ⟨by decide, by decide, by decide, by decide, ?_⟩
  obtain ⟨g1, g2, g3⟩ := gaps_ok c.rs (kindIx s) 7
  refine f6_p24_sp (Nat.le_trans (gaps_len c.rs (kindIx s) 7) (by decide)) g1 g2 (dayOf_lt t) hm2 ?_
  have hq := g3 (dayOf t) m (dayOf_lt t) hm2
  have hna := names_any (dayOf t) (minOf t) (kindIx s) c.rs []
  have e : ((gapsN c.rs (kindIx s) 7).any (inGap (dayOf t) m) == ((((toldV c.nm c.pri c.acks c.rs t s).1.map sc).length : Int) == 0)) = true := by
    rw [h0.2.2, beq_iff_eq, Bool.eq_iff_iff, List.any_eq_true, beq_iff_eq, List.length_map]
    have e1 : (∃ x, x ∈ gapsN c.rs (kindIx s) 7 ∧ inGap (dayOf t) m x = true) ↔ anyB c.rs (dayOf t) (m : Int) (kindIx s) = false := by
      rw [hq]
      unfold inGap
      simp only [Bool.and_eq_true, decide_eq_true_eq]
    rw [e1, ← hm]
    constructor
    · intro ha
      have : namesV (dayOf t) (minOf t) (kindIx s) c.rs = [] := hna.2 ⟨rfl, ha⟩
      rw [this]; rfl
    · intro hl
      have : namesV (dayOf t) (minOf t) (kindIx s) c.rs = [] := List.eq_nil_of_length_eq_zero (by omega)
      exact (hna.1 this).2
  rw [e]
  exact h
end Go.Eng.N
