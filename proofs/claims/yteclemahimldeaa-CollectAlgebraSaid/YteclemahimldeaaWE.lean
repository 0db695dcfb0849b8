/- Collect, pure, 4: the merge as a function of what is merged; its algebra. -/
import Derived.Test.YteclemahimldeaaWD
set_option linter.unusedVariables false
set_option linter.unusedSimpArgs false
namespace Go.Eng.N
open Go Go.Eng
instance (l : List Rec) : Decidable (cf l) := inferInstanceAs (Decidable (∀ x ∈ l, ∀ y ∈ l, x.no = y.no → x = y))
def mrg (l : List Rec) : List Rec := fillL (loV l) (hiV l) (unq l)
def allR (l : List Rec) : Prop := ∀ r ∈ l, rng r = true
theorem plain_app (a b : List Rec) : plain (a ++ b) = plain a ++ plain b := List.filter_append ..
theorem mem_plain {l : List Rec} {x : Rec} : x ∈ plain l ↔ x ∈ l ∧ pln x = true := List.mem_filter
theorem ok_unq {l : List Rec} (hr : allR l) : okS (loV l) (unq l) = true ↔ cf (plain l) := by
  rw [okS_iff]
  constructor
  · rintro ⟨h, _⟩
    intro x hx y hy e
    exact h.cf x ((unq_mem x).2 hx) y ((unq_mem y).2 hy) e
  · intro h
    refine ⟨unq_si h, fun x hx => ?_⟩
    have hx := mem_plain.1 ((unq_mem x).1 hx)
    have h1 := rng_t (hr x hx.1)
    have h2 := (loF_le l 1000000000).2 x hx.1
    rw [fst_0 ((pln_0 (by omega)).1 hx.2)] at h2
    exact h2
theorem unq_ps {l : List Rec} (hr : allR l) : ∀ x ∈ unq l, x.g = 0 ∧ x.no ≤ hiV l := by
  intro x hx
  have hx := mem_plain.1 ((unq_mem x).1 hx)
  have h1 := rng_t (hr x hx.1)
  exact ⟨(pln_0 (by omega)).1 hx.2, (hiF_ge l 0).2 x hx.1⟩
theorem mrg_nil : mrg [] = [] := rfl
theorem lo_hi {l : List Rec} (hr : allR l) (h : l ≠ []) : loV l ≤ hiV l ∧ 0 ≤ hiV l ∧ loV l ≤ 1000000000 := by
  obtain ⟨x, hx⟩ := List.exists_mem_of_ne_nil l h
  have h1 := rng_t (hr x hx)
  have h2 := (loF_le l 1000000000)
  have h3 := (hiF_ge l 0)
  have h4 := h2.2 x hx
  have h5 := h3.2 x hx
  have h6 : fst x ≤ x.no := by unfold fst; split <;> omega
  exact ⟨by unfold loV hiV; omega, h3.1, h2.1⟩
/-- What is merged has the same ends and the same plain records. -/
theorem mrg_ends {l : List Rec} (hr : allR l) (hc : cf (plain l)) : loV (mrg l) = loV l ∧ hiV (mrg l) = hiV l ∧ ∀ x, x ∈ plain (mrg l) ↔ x ∈ plain l := by
  by_cases h : l = []
  · subst h; exact ⟨rfl, rfl, fun x => Iff.rfl⟩
  have hlh := lo_hi hr h
  obtain ⟨i1, i2, i3⟩ := fill_all (last := hiV l) ((ok_unq hr).2 hc) (unq_ps hr)
  have i3 := i3 hlh.1
  refine ⟨loV_is (fun r hr => (i1 r hr).1) i3.1 hlh.2.2, hiV_is (fun r hr => (i1 r hr).2.1) i3.2 hlh.2.1, fun x => ?_⟩
  unfold mrg
  rw [i2]; exact unq_mem x
theorem cf_congr {a b : List Rec} (h : ∀ x, x ∈ a ↔ x ∈ b) : cf a ↔ cf b := by
  unfold cf
  constructor
  · intro hc x hx y hy; exact hc x ((h x).2 hx) y ((h y).2 hy)
  · intro hc x hx y hy; exact hc x ((h x).1 hx) y ((h y).1 hy)
theorem mrg_congr {l k : List Rec} (h1 : loV l = loV k) (h2 : hiV l = hiV k) (h3 : ∀ x, x ∈ plain l ↔ x ∈ plain k) (hc : cf (plain l)) : mrg l = mrg k := by
  unfold mrg
  rw [h1, h2, SI.uniq (unq_si hc) (unq_si ((cf_congr h3).1 hc)) fun x => by rw [unq_mem, unq_mem]; exact h3 x]
theorem gap_of {r : Rec} (h1 : r.at_ = 0) (h2 : r.k = 0) (h3 : r.v = 0) (h4 : r.q = 0) (h5 : 0 < r.g) : r = gapR (fst r) r.no := by
  obtain ⟨no, at_, k, v, q, g⟩ := r
  dsimp only at h1 h2 h3 h4 h5
  subst h1 h2 h3 h4
  unfold gapR fst
  dsimp only
  rw [if_pos (by omega), show no - (no - g + 1) + 1 = g by omega]
/-! ### Collections -/
structure Ok (l : List Rec) : Prop where
  all : allR l
  gap : ∀ j (h : j < l.length), l[j].g ≠ 0 → l[j] = gapR (fst l[j]) l[j].no ∧ (∀ h0 : 0 < j, (l[j - 1]'(by omega)).g = 0)
  con : ∀ j (h : j + 1 < l.length), fst l[j + 1] = (l[j]'(by omega)).no + 1
  ris : risV 0 l = true
theorem Ok.of {l : List Rec} (h : checkV l = 0) : Ok l := by
  unfold checkV at h
  split at h
  · rename_i h1
    split at h
    · cases h
    · rename_i h2
      split at h
      · cases h
      · rename_i h3
        split at h
        · rename_i h4
          have hall : allR l := fun r hr => List.all_eq_true.1 h1 r hr
          refine ⟨hall, fun j hj hg => ?_, fun j hj => ?_, h4⟩
          · have hb : badI l j = false := by
              rw [Bool.eq_false_iff]
              exact fun hc => h2 (List.any_eq_true.2 ⟨j, List.mem_range.2 hj, hc⟩)
            unfold badI at hb
            rw [getD_in _ _ hj] at hb
            have hr := rng_t (hall _ (List.getElem_mem hj))
            rw [decide_eq_true (p := l[j].g ≠ 0) hg, Bool.true_and] at hb
            simp only [Bool.or_eq_false_iff, decide_eq_false_iff_not, Bool.not_eq_false', Bool.and_eq_true, beq_iff_eq, and_true, Decidable.not_not] at hb
            obtain ⟨⟨⟨b1, b2⟩, b3⟩, b4⟩ := hb
            refine ⟨?_, fun h0 => ?_⟩
            · exact gap_of b1 b2.1 b2.2 b3 (by omega)
            · rw [decide_eq_true h0, Bool.true_and] at b4
              have hj1 : j - 1 < l.length := by omega
              rw [getD_in _ _ hj1] at b4
              simpa using b4
          · have hb : conI l j = false := by
              rw [Bool.eq_false_iff]
              exact fun hc => h3 (List.any_eq_true.2 ⟨j, List.mem_range.2 (by omega), hc⟩)
            unfold conI at hb
            rw [getD_in _ _ hj, getD_in _ _ (by omega)] at hb
            simpa using hb
        · cases h
  · cases h
theorem Ok.tail {r : Rec} {l : List Rec} (h : allR (r :: l) ∧ (∀ j (h : j < (r :: l).length), (r :: l)[j].g ≠ 0 → (r :: l)[j] = gapR (fst (r :: l)[j]) (r :: l)[j].no ∧ (∀ h0 : 0 < j, ((r :: l)[j - 1]'(by omega)).g = 0)) ∧ (∀ j (h : j + 1 < (r :: l).length), fst (r :: l)[j + 1] = ((r :: l)[j]'(by omega)).no + 1)) :
    allR l ∧ (∀ j (h : j < l.length), l[j].g ≠ 0 → l[j] = gapR (fst l[j]) l[j].no ∧ (∀ h0 : 0 < j, (l[j - 1]'(by omega)).g = 0)) ∧ (∀ j (h : j + 1 < l.length), fst l[j + 1] = (l[j]'(by omega)).no + 1) := by
  obtain ⟨h1, h2, h3⟩ := h
  refine ⟨fun x hx => h1 x (by simp [hx]), fun j hj hg => ?_, fun j hj => ?_⟩
  · have := h2 (j + 1) (by simp; omega) hg
    refine ⟨this.1, fun h0 => ?_⟩
    have e := this.2 (by omega)
    obtain ⟨j, rfl⟩ : ∃ i, j = i + 1 := ⟨j - 1, by omega⟩
    exact e
  · exact h3 (j + 1) (by simp; omega)
/-- A collection is what its plain records fill up. -/
theorem fill_self : ∀ (n : Nat) (r : Rec) (l : List Rec), l.length ≤ n → allR (r :: l) ∧ (∀ j (h : j < (r :: l).length), (r :: l)[j].g ≠ 0 → (r :: l)[j] = gapR (fst (r :: l)[j]) (r :: l)[j].no ∧ (∀ h0 : 0 < j, ((r :: l)[j - 1]'(by omega)).g = 0)) ∧ (∀ j (h : j + 1 < (r :: l).length), fst (r :: l)[j + 1] = ((r :: l)[j]'(by omega)).no + 1) →
    fillL (fst r) ((r :: l).getLast (by simp)).no (plain (r :: l)) = r :: l ∧ SI (r :: l) ∧ ∀ x ∈ r :: l, fst r ≤ fst x
  | n, r, [], _, h => by
    have hr := rng_t (h.1 r (by simp))
    refine ⟨?_, List.pairwise_singleton _ _, fun x hx => by simp at hx; subst hx; exact Int.le_refl _⟩
    by_cases hg : r.g = 0
    · have hp : pln r = true := (pln_0 (by omega)).2 hg
      have : plain [r] = [r] := by unfold plain; simp [hp]
      rw [this, fst_0 hg]
      unfold fillL fillL
      rw [if_neg (by omega), if_neg (by simp; omega)]; rfl
    · have hp : pln r = false := by rw [Bool.eq_false_iff]; exact fun hc => hg ((pln_0 (by omega)).1 hc)
      have : plain [r] = [] := by unfold plain; simp [hp]
      have e := (h.2.1 0 (by simp) hg).1
      have e : r = gapR (fst r) r.no := e
      rw [this]
      unfold fillL
      have hf : fst r ≤ r.no := by unfold fst; split <;> omega
      rw [if_pos (by simpa using hf)]
      simp only [List.getLast_singleton]
      rw [← e]
  | 0, r, x :: l, hn, h => by simp at hn
  | n + 1, r, x :: l, hn, h => by
    have ht := Ok.tail h
    obtain ⟨i1, i2, i3⟩ := fill_self n x l (by simpa using hn) ht
    have hr := rng_t (h.1 r (by simp))
    have hx := rng_t (h.1 x (by simp))
    have hc : fst x = r.no + 1 := h.2.2 0 (by simp)
    have hfx : fst x ≤ x.no := by unfold fst; split <;> omega
    have hfr : fst r ≤ r.no := by unfold fst; split <;> omega
    have hsi : SI (r :: x :: l) := by
      unfold SI at i2 ⊢
      rw [List.pairwise_cons]
      refine ⟨fun y hy => ?_, i2⟩
      have h1 := i3 y hy
      have h2 : fst y ≤ y.no := by have := rng_t (ht.1 y hy); unfold fst; split <;> omega
      omega
    refine ⟨?_, hsi, fun y hy => ?_⟩
    · rw [List.getLast_cons (by simp)]
      by_cases hg : r.g = 0
      · have hp : pln r = true := (pln_0 (by omega)).2 hg
        have : plain (r :: x :: l) = r :: plain (x :: l) := by unfold plain; rw [List.filter_cons, if_pos hp]
        rw [this, fst_0 hg]
        unfold fillL
        rw [if_neg (by omega), List.nil_append, ← hc, i1]
      · have hp : pln r = false := by rw [Bool.eq_false_iff]; exact fun hc => hg ((pln_0 (by omega)).1 hc)
        have : plain (r :: x :: l) = plain (x :: l) := by unfold plain; rw [List.filter_cons, if_neg (by rw [hp]; decide)]
        have e : r = gapR (fst r) r.no := (h.2.1 0 (by simp) hg).1
        have hxg : x.g = 0 := by
          rcases Int.decEq x.g 0 with hxg | hxg
          · exact absurd ((h.2.1 1 (by simp) hxg).2 (by omega)) hg
          · exact hxg
        have hxp : pln x = true := (pln_0 (by omega)).2 hxg
        have hpx : plain (x :: l) = x :: plain l := by unfold plain; rw [List.filter_cons, if_pos hxp]
        have hfx0 := fst_0 hxg
        rw [this]
        rw [hpx] at i1 ⊢
        unfold fillL at i1 ⊢
        rw [if_neg (by omega), List.nil_append] at i1
        rw [if_pos (by omega), i1, show x.no - 1 = r.no by omega, ← e]; rfl
    · rcases List.mem_cons.1 hy with h1 | h1
      · subst h1; exact Int.le_refl _
      · have := i3 y h1; omega
theorem Ok.si {l : List Rec} (h : Ok l) : SI l := by
  cases l with
  | nil => exact List.Pairwise.nil
  | cons r l => exact (fill_self l.length r l (Nat.le_refl _) ⟨h.all, h.gap, h.con⟩).2.1
theorem Ok.ends {r : Rec} {l : List Rec} (h : Ok (r :: l)) : loV (r :: l) = fst r ∧ hiV (r :: l) = ((r :: l).getLast (by simp)).no := by
  obtain ⟨h1, h2, h3⟩ := fill_self l.length r l (Nat.le_refl _) ⟨h.all, h.gap, h.con⟩
  have hr := rng_t (h.all r (by simp))
  have hl := rng_t (h.all _ (List.getLast_mem (by simp : r :: l ≠ [])))
  refine ⟨loV_is h3 ⟨r, by simp, rfl⟩ (by have : fst r ≤ r.no := by (unfold fst; split <;> omega)
                                          omega), hiV_is (fun x hx => ?_) ⟨_, List.getLast_mem (by simp), rfl⟩ (by omega)⟩
  have hd := List.dropLast_concat_getLast (by simp : r :: l ≠ [])
  have h2 := h2
  unfold SI at h2
  rw [← hd, List.pairwise_append] at h2
  rw [← hd] at hx
  rcases List.mem_append.1 hx with q | q
  · have := h2.2.2 x q _ (List.mem_singleton.2 rfl); omega
  · simp at q; subst q; exact Int.le_refl _
theorem Ok.plain_si {l : List Rec} (h : Ok l) : SI (plain l) := h.si.filter _
theorem Ok.mrg {l : List Rec} (h : Ok l) : mrg l = l := by
  cases l with
  | nil => rfl
  | cons r l =>
    have h1 := (fill_self l.length r l (Nat.le_refl _) ⟨h.all, h.gap, h.con⟩).1
    have h2 := h.ends
    unfold Go.Eng.N.mrg
    rw [h2.1, h2.2, SI.uniq (unq_si h.plain_si.cf) h.plain_si unq_mem]
    exact h1
/-! ### The merge -/
def mergeV (a b : List Rec) : List Rec × Int :=
  if checkV a ≠ 0 then ([], checkV a) else if checkV b ≠ 0 then ([], checkV b) else
  if cf (plain (a ++ b)) then (if risV 0 (mrg (a ++ b)) = true then (mrg (a ++ b), 0) else ([], 15)) else ([], 10)
theorem mergeV_t {a b : List Rec} (h : (mergeV a b).2 = 0) : Ok a ∧ Ok b ∧ cf (plain (a ++ b)) ∧ (mergeV a b).1 = mrg (a ++ b) := by
  unfold mergeV at h ⊢
  split at h
  · rename_i q; exact absurd h q
  rename_i h1
  split at h
  · rename_i q; exact absurd h q
  rename_i h2
  split at h
  · rename_i h3
    split at h
    · rename_i h4
      rw [if_neg h1, if_neg h2, if_pos h3, if_pos h4]
      exact ⟨Ok.of (by simpa using h1), Ok.of (by simpa using h2), h3, rfl⟩
    · cases h
  · cases h
theorem mergeV_ok {a b : List Rec} (ha : checkV a = 0) (hb : checkV b = 0) : mergeV a b = if cf (plain (a ++ b)) then (if risV 0 (mrg (a ++ b)) = true then (mrg (a ++ b), 0) else ([], 15)) else ([], 10) := by
  unfold mergeV
  rw [if_neg (by rw [ha]; decide), if_neg (by rw [hb]; decide)]
theorem all_app {a b : List Rec} (ha : allR a) (hb : allR b) : allR (a ++ b) := fun r hr => (List.mem_append.1 hr).elim (ha r) (hb r)
theorem merge_self {a : List Rec} (h : checkV a = 0) : mergeV a a = (a, 0) := by
  have ho := Ok.of h
  have hm : ∀ x, x ∈ plain (a ++ a) ↔ x ∈ plain a := fun x => by rw [plain_app, List.mem_append, or_self]
  have hc : cf (plain (a ++ a)) := (cf_congr hm).2 ho.plain_si.cf
  have e : mrg (a ++ a) = a := by
    rw [mrg_congr (by rw [loV_app]; omega) (by rw [hiV_app]; omega) hm hc]
    exact ho.mrg
  unfold mergeV
  rw [if_neg (by rw [h]; decide), if_neg (by rw [h]; decide), if_pos hc, e, if_pos ho.ris]
theorem merge_comm {a b : List Rec} (ha : checkV a = 0) (hb : checkV b = 0) : mergeV a b = mergeV b a := by
  have hm : ∀ x, x ∈ plain (a ++ b) ↔ x ∈ plain (b ++ a) := fun x => by rw [plain_app, plain_app, List.mem_append, List.mem_append, or_comm]
  rw [mergeV_ok ha hb, mergeV_ok hb ha]
  by_cases hc : cf (plain (a ++ b))
  · rw [if_pos hc, if_pos ((cf_congr hm).1 hc), mrg_congr (by rw [loV_app, loV_app]; omega) (by rw [hiV_app, hiV_app]; omega) hm hc]
  · rw [if_neg hc, if_neg fun q => hc ((cf_congr hm).2 q)]
theorem merge_assoc {a b c : List Rec} (h1 : (mergeV a b).2 = 0) (h2 : (mergeV b c).2 = 0) (h3 : (mergeV (mergeV a b).1 c).2 = 0) (h4 : (mergeV a (mergeV b c).1).2 = 0) :
    (mergeV (mergeV a b).1 c).1 = (mergeV a (mergeV b c).1).1 := by
  have q1 := mergeV_t h1
  have q2 := mergeV_t h2
  have q3 := mergeV_t h3
  have q4 := mergeV_t h4
  rw [q3.2.2.2, q4.2.2.2]
  have e1 := mrg_ends (all_app q1.1.all q1.2.1.all) q1.2.2.1
  have e2 := mrg_ends (all_app q2.1.all q2.2.1.all) q2.2.2.1
  have c3 := q3.2.2.1
  rw [q1.2.2.2] at c3 ⊢
  rw [q2.2.2.2]
  refine mrg_congr ?_ ?_ (fun x => ?_) c3
  · rw [loV_app, loV_app, e1.1, e2.1, loV_app, loV_app]; omega
  · rw [hiV_app, hiV_app, e1.2.1, e2.2.1, hiV_app, hiV_app]; omega
  · rw [plain_app, plain_app, List.mem_append, List.mem_append, e1.2.2, e2.2.2, plain_app, plain_app, List.mem_append, List.mem_append, or_assoc]
end Go.Eng.N
