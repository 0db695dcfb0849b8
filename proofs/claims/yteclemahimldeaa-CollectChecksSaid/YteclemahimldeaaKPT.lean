/- Plain facts, for the part K of the print. -/
import Derived.Test.YteclemahimldeaaKx1
import Derived.Test.YteclemahimldeaaKx2
import Derived.Test.YteclemahimldeaaKx3
import Derived.Test.YteclemahimldeaaKx4
import Derived.Test.YteclemahimldeaaKx5
import Derived.Test.YteclemahimldeaaKx6
import Derived.Test.YteclemahimldeaaKx7
import Derived.Test.YteclemahimldeaaKx8
import Derived.Test.YteclemahimldeaaKx9
set_option linter.unusedVariables false
set_option linter.unusedSimpArgs false
namespace Go.Proofs.Yteclemahimldeaa.PTK
open Go.RowKit Go.Proofs.Yteclemahimldeaa.K Go.Proofs.YteclemahimldeaaW.PrintWords Go.Proofs.YteclemahimldeaaW.PrintLast Go.Proofs.YteclemahimldeaaW.PrintMore

theorem w64 {x : Int} (h1 : -9223372036854775808 ≤ x) (h2 : x ≤ 9223372036854775807) : wrap64 x = x := by
  unfold wrap64
  omega
theorem kof {k n : Nat} (h : n < k) : ∃ k', k = k' + 1 ∧ n ≤ k' := ⟨k - 1, by omega, by omega⟩

/-- The rest of a list from place i on: its first element is that of the place. -/
theorem at_drop {l rs : List S42} {r : S42} {i : Nat} (h : l.drop i = r :: rs) : i < l.length ∧ rd_T42 l (i : Int) = r ∧ l.drop (i + 1) = rs := by
  have hi : i < l.length := by
    rcases Nat.lt_or_ge i l.length with h1 | h1
    · exact h1
    · rw [List.drop_eq_nil_of_le h1] at h
      cases h
  rw [List.drop_eq_getElem_cons hi] at h
  injection h with h1 h2
  refine ⟨hi, ?_, h2⟩
  unfold rd_T42
  rw [Int.toNat_natCast, List.getD_eq_getElem?_getD, List.getElem?_eq_getElem hi, h1]
  rfl
theorem at_end {l : List S42} {i : Nat} (h : l.drop i = []) : l.length ≤ i := by simpa using h

/-- A record whose numbers are whole and not too great. -/
def Ok (r : S42) : Prop := 1 ≤ r.f0 ∧ r.f0 ≤ 1000000000 ∧ 0 ≤ r.f4 ∧ r.f4 ≤ r.f0 ∧ 0 ≤ r.f1 ∧ r.f1 ≤ 6311433599
instance (r : S42) : Decidable (Ok r) := by unfold Ok; infer_instance
def allOk : List S42 → Bool
  | [] => true
  | r :: rs => decide (Ok r) && allOk rs
theorem allOk_mem : ∀ {l : List S42}, allOk l = true → ∀ r ∈ l, Ok r
  | [], _, r, h => by cases h
  | a :: l, h, r, hr => by
    simp only [allOk, Bool.and_eq_true, decide_eq_true_eq] at h
    rcases List.mem_cons.1 hr with rfl | hr
    · exact h.1
    · exact allOk_mem h.2 r hr
/-- A gap that says something besides, or that stands behind a gap. -/
def dirty (p : Int) (r : S42) : Prop := 0 < r.f4 ∧ (r.f1 ≠ 0 ∨ r.f2.f0 ≠ 0 ∨ r.f2.f1 ≠ 0 ∨ r.f3 ≠ 0 ∨ 0 < p)
instance (p : Int) (r : S42) : Decidable (dirty p r) := by unfold dirty; infer_instance
def clean : Int → List S42 → Bool
  | _, [] => true
  | p, r :: rs => !decide (dirty p r) && clean r.f4 rs
theorem clean_mem : ∀ {l : List S42} {p : Int}, clean p l = true → ∀ r ∈ l, 0 < r.f4 → r.f1 = 0 ∧ r.f2.f0 = 0 ∧ r.f2.f1 = 0 ∧ r.f3 = 0
  | [], _, _, r, h => by cases h
  | a :: l, p, h, r, hr => by
    simp only [clean, Bool.and_eq_true, Bool.not_eq_true', decide_eq_false_iff_not] at h
    rcases List.mem_cons.1 hr with rfl | hr
    · intro h4
      have := h.1
      unfold dirty at this
      refine ⟨?_, ?_, ?_, ?_⟩ <;> apply Classical.byContradiction <;> intro hne <;> exact this ⟨h4, by simp [hne]⟩
    · exact clean_mem h.2 r hr
/-- The least number that a record stands for. -/
def fst (r : S42) : Int := if 0 < r.f4 then r.f0 - r.f4 + 1 else r.f0
def linked : Int → List S42 → Bool
  | _, [] => true
  | p, r :: rs => decide (fst r = p + 1) && linked r.f0 rs
def linked1 : List S42 → Bool
  | [] => true
  | r :: rs => linked r.f0 rs
def ris : Int → List S42 → Bool
  | _, [] => true
  | a, r :: rs => if r.f4 = 0 then (if r.f1 < a then false else ris r.f1 rs) else ris a rs
def ck (l : List S42) : Int := if allOk l = true then (if clean 0 l = true then (if linked1 l = true then (if ris 0 l = true then 0 else 15) else 10) else 1) else 6

/-! ### late, Rising -/
theorem ris_l0 (l : List S42) (hl : l.length < 1000000000000) : ∀ (rs : List S42) (i : Nat) (a : Int) (k : Nat), l.drop i = rs → rs.length < k → plenumref42_Rising.l0 k l a i = some (ris a rs)
  | [], i, a, k, h, hk => by
    obtain ⟨k, rfl, _⟩ := kof hk
    have := at_end h
    simp only [plenumref42_Rising.l0]
    rw [if_neg (by omega)]
    rfl
  | r :: rs, i, a, k, h, hk => by
    obtain ⟨k, rfl, hk⟩ := kof hk
    obtain ⟨h1, h2, h3⟩ := at_drop h
    have ih := fun a => ris_l0 l hl rs (i + 1) a k h3 (by simpa using hk)
    simp only [plenumref42_Rising.l0]
    rw [if_pos (by omega), if_pos (by omega), h2, w64 (by omega) (by omega), show (i : Int) + 1 = ((i + 1 : Nat) : Int) by simp, ih, ih]
    rw [ris]
    by_cases c : r.f4 = 0
    · rw [if_pos c, if_pos c]
      by_cases d : r.f1 < a
      · rw [if_pos d, if_pos d]
      · rw [if_neg d, if_neg d]
    · rw [if_neg c, if_neg c]
theorem ris_f {l : List S42} (hl : l.length < 1000000000000) {k : Nat} (hk : l.length < k) : plenumref42_Rising.f k l = some (ris 0 l) := ris_l0 l hl l 0 0 k rfl hk
theorem late_l0 (l : List S42) (hl : l.length < 1000000000000) : ∀ (rs : List S42) (i : Nat) (a : Int) (k : Nat), l.drop i = rs → rs.length < k → ∃ v, collect_late.l0 k a l l.length i = some v ∧ (v ≥ 0 ↔ ris a rs = false)
  | [], i, a, k, h, hk => by
    obtain ⟨k, rfl, _⟩ := kof hk
    have := at_end h
    refine ⟨-1, ?_, by simp [ris]⟩
    simp only [collect_late.l0]
    rw [if_neg (by omega)]
  | r :: rs, i, a, k, h, hk => by
    obtain ⟨k, rfl, hk⟩ := kof hk
    obtain ⟨h1, h2, h3⟩ := at_drop h
    have ih := fun a => late_l0 l hl rs (i + 1) a k h3 (by simpa using hk)
    simp only [collect_late.l0]
    rw [if_pos (by omega), if_pos (by omega), if_pos (by omega), h2, w64 (by omega) (by omega), show (i : Int) + 1 = ((i + 1 : Nat) : Int) by simp]
    unfold ris
    by_cases c : r.f4 = 0
    · rw [if_pos c, if_pos c]
      by_cases d : r.f1 < a
      · rw [if_pos d, if_pos d]
        exact ⟨_, rfl, by simp⟩
      · rw [if_neg d, if_neg d]
        exact ih _
    · rw [if_neg c, if_neg c]
      exact ih _
theorem late_f {l : List S42} (hl : l.length < 1000000000000) {k : Nat} (hk : l.length < k) : ∃ v, collect_late.f k l = some v ∧ (v ≥ 0 ↔ ris 0 l = false) := late_l0 l hl l 0 0 k rfl hk

/-! ### Check -/
theorem mx1 {g : Int} (h : 0 ≤ g) : mx g 1 = if 0 < g then g else 1 := by
  unfold mx
  (repeat' split) <;> omega
theorem least_f (r : S42) (h : Ok r) : collect_least.f r.f0 r.f1 r.f2.f0 r.f2.f1 r.f3 r.f4 = some (fst r) := by
  obtain ⟨h1, h2, h3, h4, h5, h6⟩ := h
  unfold collect_least.f fst
  rw [mx1 h3]
  split
  · rw [w64 (x := r.f0 - r.f4) (by omega) (by omega), w64 (by omega) (by omega)]
  · rw [w64 (x := r.f0 - 1) (by omega) (by omega), w64 (by omega) (by omega)]
    congr 1
    omega
theorem first_f (r : S42) (h : Ok r) : plenumref42_First.f r.f0 r.f1 r.f2.f0 r.f2.f1 r.f3 r.f4 = some (fst r) := by
  obtain ⟨h1, h2, h3, h4, h5, h6⟩ := h
  unfold plenumref42_First.f fst
  by_cases c : 0 < r.f4
  · rw [if_pos c, if_pos c, w64 (x := r.f0 - r.f4) (by omega) (by omega), w64 (by omega) (by omega)]
  · rw [if_neg c, if_neg c]

theorem cl2 (l : List S42) (hl : l.length < 1000000000000) (hok : ∀ r ∈ l, Ok r) : ∀ (rs : List S42) (i : Nat) (k : Nat), 1 ≤ i → l.drop i = rs → rs.length + l.length + 1 < k → ∀ p, rd_T42 l ((i : Int) - 1) = p → (i ≤ l.length → Ok p) →
    collect_Check.l2 k l i = some (if linked p.f0 rs = true then (if ris 0 l = true then 0 else 15) else 10)
  | [], i, k, h0, h, hk, p, hp, hpo => by
    obtain ⟨k, rfl, hk⟩ := kof hk
    have := at_end h
    simp only [collect_Check.l2]
    rw [if_neg (by omega)]
    obtain ⟨v, hv, hv2⟩ := late_f (l := l) hl (k := k) (by simp at hk; omega)
    rw [hv]
    simp only [Option.bind_some, linked, if_true]
    by_cases c : v ≥ 0
    · rw [if_pos c, if_neg (by rw [hv2.1 c]; simp)]
    · rw [if_neg c, if_pos (by cases e : ris 0 l <;> simp_all)]
  | r :: rs, i, k, h0, h, hk, p, hp, hpo => by
    obtain ⟨k, rfl, hk⟩ := kof hk
    obtain ⟨h1, h2, h3⟩ := at_drop h
    have hr : Ok r := hok r (List.mem_of_mem_drop (by rw [h]; exact List.mem_cons_self))
    have hp2 := hpo (by omega)
    have ih := cl2 l hl hok rs (i + 1) k (by omega) h3 (by simp at hk; omega) r (by rw [← h2]; congr 1; omega) (fun _ => hr)
    simp only [collect_Check.l2]
    rw [if_pos (by omega), if_pos (by omega), h2, least_f r hr]
    simp only [Option.bind_some]
    rw [w64 (x := (i : Int) - 1) (by omega) (by omega), if_pos (by omega), if_pos (by omega), hp, w64 (x := p.f0 + 1) (by have := hp2.1; omega) (by have := hp2.2.1; omega), w64 (x := (i : Int) + 1) (by omega) (by omega), show (i : Int) + 1 = ((i + 1 : Nat) : Int) by simp, ih]
    simp only [linked]
    by_cases c : fst r = p.f0 + 1
    · rw [if_pos c]
      simp [c]
    · rw [if_neg c]
      simp [c]
theorem rl2 (l : List S42) (hl : l.length < 1000000000000) (hok : ∀ r ∈ l, Ok r) : ∀ (rs : List S42) (i : Nat) (k : Nat), 1 ≤ i → l.drop i = rs → rs.length + l.length + 1 < k → ∀ p, rd_T42 l ((i : Int) - 1) = p → (i ≤ l.length → Ok p) →
    plenumref42_Check.l2 k l i = some (if linked p.f0 rs = true then (if ris 0 l = true then 0 else 15) else 10)
  | [], i, k, h0, h, hk, p, hp, hpo => by
    obtain ⟨k, rfl, hk⟩ := kof hk
    have := at_end h
    simp only [plenumref42_Check.l2]
    rw [if_neg (by omega), ris_f hl (by simp at hk; omega)]
    simp only [Option.bind_some, linked, if_true]
    split <;> rfl
  | r :: rs, i, k, h0, h, hk, p, hp, hpo => by
    obtain ⟨k, rfl, hk⟩ := kof hk
    obtain ⟨h1, h2, h3⟩ := at_drop h
    have hr : Ok r := hok r (List.mem_of_mem_drop (by rw [h]; exact List.mem_cons_self))
    have hp2 := hpo (by omega)
    have ih := rl2 l hl hok rs (i + 1) k (by omega) h3 (by simp at hk; omega) r (by rw [← h2]; congr 1; omega) (fun _ => hr)
    simp only [plenumref42_Check.l2]
    rw [if_pos (by omega), if_pos (by omega), h2, first_f r hr]
    simp only [Option.bind_some]
    rw [w64 (x := (i : Int) - 1) (by omega) (by omega), if_pos (by omega), if_pos (by omega), hp, w64 (x := p.f0 + 1) (by have := hp2.1; omega) (by have := hp2.2.1; omega), w64 (x := (i : Int) + 1) (by omega) (by omega), show (i : Int) + 1 = ((i + 1 : Nat) : Int) by simp, ih]
    simp only [linked]
    by_cases c : fst r = p.f0 + 1
    · rw [if_pos c]
      simp [c]
    · rw [if_neg c]
      simp [c]

/-- The third part of the checks, from the place 1 on. -/
theorem link1 (l : List S42) (k : Nat) (f : Nat → List S42 → Int → Option Int) (hok : ∀ r ∈ l, Ok r)
    (h0 : l = [] → f k l 1 = some (if ris 0 l = true then 0 else 15))
    (h : ∀ rs i, 1 ≤ i → l.drop i = rs → ∀ p, rd_T42 l ((i : Int) - 1) = p → (i ≤ l.length → Ok p) → rs.length ≤ l.length → f k l (i : Nat) = some (if linked p.f0 rs = true then (if ris 0 l = true then 0 else 15) else 10)) :
    f k l 1 = some (if linked1 l = true then (if ris 0 l = true then 0 else 15) else 10) := by
  cases l with
  | nil =>
    rw [h0 rfl]
    simp [linked1]
  | cons a l =>
    have := h l 1 (by omega) rfl a rfl (fun _ => hok a List.mem_cons_self) (by simp)
    rw [show (1 : Int) = ((1 : Nat) : Int) from rfl, this]
    rfl
theorem linked_nil_ck2 (l : List S42) (hl : l.length < 1000000000000) (hok : ∀ r ∈ l, Ok r) (k : Nat) (hk : 2 * l.length + 2 < k) : collect_Check.l2 k l 1 = some (if linked1 l = true then (if ris 0 l = true then 0 else 15) else 10) := by
  refine link1 l k collect_Check.l2 hok ?_ ?_
  · rintro rfl
    obtain ⟨k, rfl, hk⟩ := kof hk
    obtain ⟨v, hv, hv2⟩ := late_f (l := []) (by simp) (k := k) (by simp at *; omega)
    simp only [collect_Check.l2]
    rw [if_neg (by simp), hv]
    simp only [Option.bind_some]
    by_cases c : v ≥ 0
    · rw [if_pos c, if_neg (by rw [hv2.1 c]; simp)]
    · rw [if_neg c, if_pos (by cases e : ris 0 [] <;> simp_all)]
  · intro rs i hi hd p hp hpo hle
    exact cl2 l hl hok rs i k hi hd (by omega) p hp hpo
theorem linked_nil_rk2 (l : List S42) (hl : l.length < 1000000000000) (hok : ∀ r ∈ l, Ok r) (k : Nat) (hk : 2 * l.length + 2 < k) : plenumref42_Check.l2 k l 1 = some (if linked1 l = true then (if ris 0 l = true then 0 else 15) else 10) := by
  refine link1 l k plenumref42_Check.l2 hok ?_ ?_
  · rintro rfl
    obtain ⟨k, rfl, hk⟩ := kof hk
    simp only [plenumref42_Check.l2]
    rw [if_neg (by simp), ris_f (l := []) (by simp) (by simp at *; omega)]
    simp only [Option.bind_some]
    split <;> rfl
  · intro rs i hi hd p hp hpo hle
    exact rl2 l hl hok rs i k hi hd (by omega) p hp hpo

theorem bools (a b : Int) : ((!(a == 0) || (!(b == 0))) = true) ↔ (a ≠ 0 ∨ b ≠ 0) := by simp
theorem cl1 (l : List S42) (hl : l.length < 1000000000000) (hok : ∀ r ∈ l, Ok r) (z : Int) : ∀ (rs : List S42) (i : Nat) (k : Nat), l.drop i = rs → rs.length + 2 * l.length + 4 < k → ∀ p : Int, (i = 0 → p = 0) → (0 < i → p = (rd_T42 l ((i : Int) - 1)).f4) → (∀ m, 2 * l.length + 2 < m → collect_Check.l2 m l 1 = some z) →
    collect_Check.l1 k l l l.length i = some (if clean p rs = true then z else 1)
  | [], i, k, h, hk, p, hp0, hp1, hz => by
    obtain ⟨k, rfl, hk⟩ := kof hk
    have := at_end h
    simp only [collect_Check.l1]
    rw [if_neg (by omega), hz k (by simp at hk; omega)]
    simp [clean]
  | r :: rs, i, k, h, hk, p, hp0, hp1, hz => by
    obtain ⟨k, rfl, hk⟩ := kof hk
    obtain ⟨h1, h2, h3⟩ := at_drop h
    have hr : Ok r := hok r (List.mem_of_mem_drop (by rw [h]; exact List.mem_cons_self))
    have ih := cl1 l hl hok z rs (i + 1) k h3 (by simp at hk; omega) r.f4 (by omega) (fun _ => by rw [← h2]; congr 2; omega) hz
    have hw : wrap64 ((i : Int) + 1) = ((i + 1 : Nat) : Int) := by rw [w64 (by omega) (by omega)]; simp
    have hg := hr.2.2.1
    simp only [collect_Check.l1]
    rw [if_pos (by omega), if_pos (by omega), if_pos (by omega), h2, hw, ih]
    simp only [clean]
    by_cases c : r.f4 = 0
    · rw [if_pos c]
      have : ¬ dirty p r := fun hd => by have := hd.1; omega
      simp [this]
    · rw [if_neg c]
      by_cases c1 : r.f1 = 0
      · rw [if_pos c1]
        by_cases c2 : r.f2.f0 ≠ 0 ∨ r.f2.f1 ≠ 0
        · rw [if_pos ((bools _ _).2 c2)]
          have : dirty p r := ⟨by omega, by rcases c2 with c2 | c2 <;> simp [c2]⟩
          simp [this]
        · rw [if_neg (fun e => c2 ((bools _ _).1 e))]
          by_cases c3 : r.f3 = 0
          · rw [if_pos c3]
            by_cases ci : i = 0
            · rw [if_neg (by omega)]
              have : ¬ dirty p r := fun hd => by
                have := hp0 ci
                rcases hd.2 with e | e | e | e | e
                · exact e c1
                · exact c2 (.inl e)
                · exact c2 (.inr e)
                · exact e c3
                · omega
              simp [this]
            · have hpp := hp1 (by omega)
              have hpo : Ok (rd_T42 l ((i : Int) - 1)) := by
                have hh : i - 1 < l.length := by omega
                have : rd_T42 l ((i : Int) - 1) = l[i - 1] := by
                  unfold rd_T42
                  rw [show ((i : Int) - 1).toNat = i - 1 by omega, List.getD_eq_getElem?_getD, List.getElem?_eq_getElem hh]
                  rfl
                rw [this]
                exact hok _ (List.getElem_mem hh)
              rw [if_pos (by omega), w64 (by omega) (by omega), if_pos (by omega), if_pos (by omega), ← hpp]
              have hp4 := hpo.2.2.1
              by_cases cp : p = 0
              · rw [if_pos cp]
                have : ¬ dirty p r := fun hd => by
                  rcases hd.2 with e | e | e | e | e
                  · exact e c1
                  · exact c2 (.inl e)
                  · exact c2 (.inr e)
                  · exact e c3
                  · omega
                simp [this]
              · rw [if_neg cp]
                have : dirty p r := ⟨by omega, .inr (.inr (.inr (.inr (by omega))))⟩
                simp [this]
          · rw [if_neg c3]
            have : dirty p r := ⟨by omega, by simp [c3]⟩
            simp [this]
      · rw [if_neg c1]
        have : dirty p r := ⟨by omega, by simp [c1]⟩
        simp [this]
theorem rl1 (l : List S42) (hl : l.length < 1000000000000) (hok : ∀ r ∈ l, Ok r) (z : Int) : ∀ (rs : List S42) (i : Nat) (k : Nat), l.drop i = rs → rs.length + 2 * l.length + 4 < k → ∀ p : Int, (i = 0 → p = 0) → (0 < i → p = (rd_T42 l ((i : Int) - 1)).f4) → (∀ m, 2 * l.length + 2 < m → plenumref42_Check.l2 m l 1 = some z) →
    plenumref42_Check.l1 k l i = some (if clean p rs = true then z else 1)
  | [], i, k, h, hk, p, hp0, hp1, hz => by
    obtain ⟨k, rfl, hk⟩ := kof hk
    have := at_end h
    simp only [plenumref42_Check.l1]
    rw [if_neg (by omega), hz k (by simp at hk; omega)]
    simp [clean]
  | r :: rs, i, k, h, hk, p, hp0, hp1, hz => by
    obtain ⟨k, rfl, hk⟩ := kof hk
    obtain ⟨h1, h2, h3⟩ := at_drop h
    have hr : Ok r := hok r (List.mem_of_mem_drop (by rw [h]; exact List.mem_cons_self))
    have ih := rl1 l hl hok z rs (i + 1) k h3 (by simp at hk; omega) r.f4 (by omega) (fun _ => by rw [← h2]; congr 2; omega) hz
    have hw : wrap64 ((i : Int) + 1) = ((i + 1 : Nat) : Int) := by rw [w64 (by omega) (by omega)]; simp
    have hg := hr.2.2.1
    simp only [plenumref42_Check.l1]
    rw [if_pos (by omega), if_pos (by omega), h2, hw, ih]
    simp only [clean]
    by_cases c : r.f4 > 0
    · rw [if_pos c]
      by_cases c1 : r.f1 = 0
      · rw [if_pos c1]
        by_cases c2 : r.f2.f0 ≠ 0 ∨ r.f2.f1 ≠ 0
        · rw [if_pos ((bools _ _).2 c2)]
          have : dirty p r := ⟨by omega, by rcases c2 with c2 | c2 <;> simp [c2]⟩
          simp [this]
        · rw [if_neg (fun e => c2 ((bools _ _).1 e))]
          by_cases c3 : r.f3 = 0
          · rw [if_pos c3]
            by_cases ci : i = 0
            · rw [if_neg (by omega)]
              have : ¬ dirty p r := fun hd => by
                have := hp0 ci
                rcases hd.2 with e | e | e | e | e
                · exact e c1
                · exact c2 (.inl e)
                · exact c2 (.inr e)
                · exact e c3
                · omega
              simp [this]
            · have hpp := hp1 (by omega)
              rw [if_pos (by omega), w64 (by omega) (by omega), if_pos (by omega), if_pos (by omega), ← hpp]
              by_cases cp : p > 0
              · rw [if_pos cp]
                have : dirty p r := ⟨by omega, .inr (.inr (.inr (.inr (by omega))))⟩
                simp [this]
              · rw [if_neg cp]
                have : ¬ dirty p r := fun hd => by
                  rcases hd.2 with e | e | e | e | e
                  · exact e c1
                  · exact c2 (.inl e)
                  · exact c2 (.inr e)
                  · exact e c3
                  · omega
                simp [this]
          · rw [if_neg c3]
            have : dirty p r := ⟨by omega, by simp [c3]⟩
            simp [this]
      · rw [if_neg c1]
        have : dirty p r := ⟨by omega, by simp [c1]⟩
        simp [this]
    · rw [if_neg c]
      have : ¬ dirty p r := fun hd => by have := hd.1; omega
      simp [this]
theorem in_f (a b c : Int) : plenumref42_in.f a b c = some (decide (b ≤ a ∧ a ≤ c)) := by
  unfold plenumref42_in.f
  by_cases h : a ≥ b
  · rw [if_pos h]
    simp [h]
  · rw [if_neg h]
    simp [show ¬ b ≤ a by omega]
theorem cl0 (l : List S42) (z : Int) (hl : l.length < 1000000000000) : ∀ (rs : List S42) (i : Nat) (k : Nat), l.drop i = rs → rs.length + 3 * l.length + 6 < k → (∀ m, 3 * l.length + 4 < m → (∀ r ∈ l, Ok r) → collect_Check.l1 m l l l.length 0 = some z) → (∀ r ∈ l.take i, Ok r) →
    collect_Check.l0 k l l l.length i = some (if allOk rs = true then z else 6)
  | [], i, k, h, hk, hz, hpre => by
    obtain ⟨k, rfl, hk⟩ := kof hk
    have := at_end h
    simp only [collect_Check.l0]
    rw [if_neg (by omega), hz k (by simp at hk; omega) (by rwa [List.take_of_length_le this] at hpre)]
    simp [allOk]
  | r :: rs, i, k, h, hk, hz, hpre => by
    obtain ⟨k, rfl, hk⟩ := kof hk
    obtain ⟨h1, h2, h3⟩ := at_drop h
    have hw : wrap64 ((i : Int) + 1) = ((i + 1 : Nat) : Int) := by rw [w64 (by omega) (by omega)]; simp
    simp only [collect_Check.l0]
    rw [if_pos (by omega), if_pos (by omega), if_pos (by omega), h2, hw]
    simp only [allOk]
    by_cases c : Ok r
    · have ih := cl0 l z hl rs (i + 1) k h3 (by simp at hk; omega) hz (by
        intro q hq
        rw [List.take_succ_eq_append_getElem h1] at hq
        rcases List.mem_append.1 hq with hq | hq
        · exact hpre q hq
        · rw [List.mem_singleton] at hq
          rw [List.drop_eq_getElem_cons h1] at h
          injection h with e1 e2
          rw [hq, e1]
          exact c)
      obtain ⟨a1, a2, a3, a4, a5, a6⟩ := c
      rw [if_neg (by omega), if_neg (by omega), if_neg (by omega), if_neg (by omega), if_neg (by omega), if_neg (by omega), ih]
      simp [show Ok r from ⟨a1, a2, a3, a4, a5, a6⟩]
    · simp only [c, decide_false, Bool.false_and, Bool.false_eq_true, if_false]
      unfold Ok at c
      (repeat' split) <;> first | rfl | (exfalso; omega)
theorem rl0 (l : List S42) (z : Int) (hl : l.length < 1000000000000) : ∀ (rs : List S42) (i : Nat) (k : Nat), l.drop i = rs → rs.length + 3 * l.length + 6 < k → (∀ m, 3 * l.length + 4 < m → (∀ r ∈ l, Ok r) → plenumref42_Check.l1 m l 0 = some z) → (∀ r ∈ l.take i, Ok r) →
    plenumref42_Check.l0 k l i = some (if allOk rs = true then z else 6)
  | [], i, k, h, hk, hz, hpre => by
    obtain ⟨k, rfl, hk⟩ := kof hk
    have := at_end h
    simp only [plenumref42_Check.l0]
    rw [if_neg (by omega), hz k (by simp at hk; omega) (by rwa [List.take_of_length_le this] at hpre)]
    simp [allOk]
  | r :: rs, i, k, h, hk, hz, hpre => by
    obtain ⟨k, rfl, hk⟩ := kof hk
    obtain ⟨h1, h2, h3⟩ := at_drop h
    have hw : wrap64 ((i : Int) + 1) = ((i + 1 : Nat) : Int) := by rw [w64 (by omega) (by omega)]; simp
    simp only [plenumref42_Check.l0, in_f, Option.bind_some]
    rw [if_pos (by omega), if_pos (by omega), h2, hw]
    simp only [allOk]
    by_cases c : Ok r
    · have ih := rl0 l z hl rs (i + 1) k h3 (by simp at hk; omega) hz (by
        intro q hq
        rw [List.take_succ_eq_append_getElem h1] at hq
        rcases List.mem_append.1 hq with hq | hq
        · exact hpre q hq
        · rw [List.mem_singleton] at hq
          rw [List.drop_eq_getElem_cons h1] at h
          injection h with e1 e2
          rw [hq, e1]
          exact c)
      obtain ⟨a1, a2, a3, a4, a5, a6⟩ := c
      rw [if_pos (by simp; omega), if_pos (by simp; omega), if_pos (by simp; omega), ih]
      simp [show Ok r from ⟨a1, a2, a3, a4, a5, a6⟩]
    · simp only [c, decide_false, Bool.false_and, Bool.false_eq_true, if_false, decide_eq_true_eq]
      unfold Ok at c
      (repeat' split) <;> first | rfl | (exfalso; omega)

theorem check_f {l : List S42} (hl : l.length < 1000000000000) {k : Nat} (hk : 4 * l.length + 7 < k) : collect_Check.f k l = some (ck l) := by
  unfold collect_Check.f ck
  have h := cl0 l (if clean 0 l = true then (if linked1 l = true then (if ris 0 l = true then 0 else 15) else 10) else 1) hl l 0 k rfl (by omega)
    (fun m hm hok => cl1 l hl hok _ l 0 m rfl (by omega) 0 (fun _ => rfl) (fun h => absurd h (by omega)) (fun n hn => linked_nil_ck2 l hl hok n hn)) (by simp)
  exact h
theorem rcheck_f {l : List S42} (hl : l.length < 1000000000000) {k : Nat} (hk : 4 * l.length + 7 < k) : plenumref42_Check.f k l = some (ck l) := by
  unfold plenumref42_Check.f ck
  have h := rl0 l (if clean 0 l = true then (if linked1 l = true then (if ris 0 l = true then 0 else 15) else 10) else 1) hl l 0 k rfl (by omega)
    (fun m hm hok => rl1 l hl hok _ l 0 m rfl (by omega) 0 (fun _ => rfl) (fun h => absurd h (by omega)) (fun n hn => linked_nil_rk2 l hl hok n hn)) (by simp)
  exact h
theorem ck_ok {l : List S42} (h : ck l = 0) : allOk l = true ∧ clean 0 l = true ∧ linked1 l = true ∧ ris 0 l = true := by
  unfold ck at h
  repeat' (split at h)
  all_goals first | exact ⟨by assumption, by assumption, by assumption, by assumption⟩ | omega

theorem rd_last (l : List S42) (p : S42) : rd_T42 (l ++ [p]) (l.length : Int) = p := by
  unfold rd_T42
  simp
/-- What a collection asks for next. -/
def asks (l : List S42) : Int := match l.getLast? with | none => 1 | some p => p.f0 + 1
theorem asks_nil : asks [] = 1 := rfl
theorem asks_last (l : List S42) (p : S42) : asks (l ++ [p]) = p.f0 + 1 := by simp [asks]
/-- A record behind a collection; two gaps become one. -/
def add (l : List S42) (r : S42) : List S42 := match l.getLast? with
  | none => [r]
  | some p => if 0 < p.f4 ∧ 0 < r.f4 then l.dropLast ++ [{ r with f4 := r.f4 + p.f4 }] else l ++ [r]
theorem add_nil (r : S42) : add [] r = [r] := rfl
theorem add_last (l : List S42) (p r : S42) : add (l ++ [p]) r = if 0 < p.f4 ∧ 0 < r.f4 then l ++ [{ r with f4 := r.f4 + p.f4 }] else l ++ [p] ++ [r] := by simp [add]
theorem add_len (l : List S42) (r : S42) : (add l r).length ≤ l.length + 1 := by
  rcases List.eq_nil_or_concat l with rfl | ⟨l, p, rfl⟩
  · simp [add_nil]
  · rw [List.concat_eq_append, add_last]
    split <;> simp
theorem add_asks (l : List S42) (r : S42) : asks (add l r) = r.f0 + 1 := by
  rcases List.eq_nil_or_concat l with rfl | ⟨l, p, rfl⟩
  · rw [add_nil]
    exact asks_last [] r
  · rw [List.concat_eq_append, add_last]
    split
    · rw [asks_last]
    · rw [asks_last]

/-- What is collected: whole numbers, gaps that say nothing besides. -/
def Fit (r : S42) : Prop := 1 ≤ r.f0 ∧ r.f0 ≤ 1000000000 ∧ 0 ≤ r.f4 ∧ r.f4 ≤ r.f0
def Pure (r : S42) : Prop := 0 < r.f4 → r.f1 = 0 ∧ r.f2.f0 = 0 ∧ r.f2.f1 = 0 ∧ r.f3 = 0
def gapS (a b : Int) : S42 := ⟨b, 0, ⟨0, 0⟩, 0, b - a + 1⟩
theorem put_f (l : List S42) (r : S42) (hl : l.length < 1000000000000) (hr : Fit r) (hp : ∀ p ∈ l, Fit p) : collect_put.f l r.f0 r.f1 r.f2.f0 r.f2.f1 r.f3 r.f4 = some (add l r) := by
  unfold collect_put.f
  rcases List.eq_nil_or_concat l with rfl | ⟨l, p, rfl⟩
  · rw [if_neg (by simp), if_pos (by simp)]
    rfl
  · rw [List.concat_eq_append] at *
    have hp1 := hp p (by simp)
    obtain ⟨a1, a2, a3, a4⟩ := hr
    obtain ⟨b1, b2, b3, b4⟩ := hp1
    have hw : wrap64 (((l ++ [p]).length : Int) - 1) = (l.length : Int) := by
      rw [w64 (by simp) (by simp at *; omega)]
      simp
    rw [hw, if_pos (by simp), if_pos (by omega), if_pos (by simp; omega), rd_last, add_last]
    by_cases c : p.f4 > 0
    · rw [if_pos c]
      by_cases d : r.f4 > 0
      · rw [if_pos d, if_pos (by simp; omega), if_pos ⟨c, d⟩]
        simp only [Option.bind_some, Int.toNat_natCast, List.take_left]
        rw [if_pos (by simp at hl; omega), w64 (by omega) (by omega)]
      · rw [if_neg d, if_pos (by omega), if_neg (fun e => d e.2)]
    · rw [if_neg c, if_pos (by omega), if_neg (fun e => c e.1)]
theorem cgap_f {a b : Int} (ha : -1000000000000 ≤ a ∧ a ≤ 1000000000000) (hb : -1000000000000 ≤ b ∧ b ≤ 1000000000000) : collect_gap.f a b = some ((gapS a b).f0, (gapS a b).f1, (gapS a b).f2.f0, (gapS a b).f2.f1, (gapS a b).f3, (gapS a b).f4) := by
  unfold collect_gap.f gapS
  rw [w64 (x := b - a) (by omega) (by omega), w64 (by omega) (by omega)]
theorem fst_ok {r : S42} (h : Fit r) : 1 ≤ fst r ∧ fst r ≤ r.f0 := by
  obtain ⟨h1, h2, h3, h4⟩ := h
  unfold fst
  split <;> omega
theorem cleast_f (r : S42) (h : Fit r) : collect_least.f r.f0 r.f1 r.f2.f0 r.f2.f1 r.f3 r.f4 = some (fst r) := by
  obtain ⟨h1, h2, h3, h4⟩ := h
  unfold collect_least.f fst
  rw [mx1 h3]
  split
  · rw [w64 (x := r.f0 - r.f4) (by omega) (by omega), w64 (by omega) (by omega)]
  · rw [w64 (x := r.f0 - 1) (by omega) (by omega), w64 (by omega) (by omega)]
    congr 1
    omega

theorem asks_bd {l : List S42} (h : ∀ p ∈ l, Fit p) : 1 ≤ asks l ∧ asks l ≤ 1000000001 := by
  rcases List.eq_nil_or_concat l with rfl | ⟨l, p, rfl⟩
  · rw [asks_nil]
    omega
  · rw [List.concat_eq_append] at *
    obtain ⟨h1, h2, h3, h4⟩ := h p (by simp)
    rw [asks_last]
    omega
theorem gap_fit {a b : Int} (h1 : 1 ≤ a) (h2 : a ≤ b) (h3 : b ≤ 1000000000) : Fit (gapS a b) := by
  refine ⟨?_, ?_, ?_, ?_⟩ <;> simp only [gapS] <;> omega
theorem gap_fst {a b : Int} (h : a ≤ b) : fst (gapS a b) = a := by
  unfold fst gapS
  simp only
  rw [if_pos (by omega)]
  omega
theorem add_fit {l : List S42} {r : S42} (hr : Fit r) (hp : ∀ p ∈ l, Fit p) (hf : fst r = asks l) : ∀ q ∈ add l r, Fit q := by
  rcases List.eq_nil_or_concat l with rfl | ⟨l, p, rfl⟩
  · intro q hq
    rw [add_nil, List.mem_singleton] at hq
    rw [hq]
    exact hr
  · rw [List.concat_eq_append] at *
    rw [add_last]
    rw [asks_last] at hf
    obtain ⟨b1, b2, b3, b4⟩ := hp p (by simp)
    split
    · rename_i c
      intro q hq
      rcases List.mem_append.1 hq with hq | hq
      · exact hp q (by simp [hq])
      · rw [List.mem_singleton] at hq
        subst hq
        obtain ⟨a1, a2, a3, a4⟩ := hr
        unfold fst at hf
        rw [if_pos c.2] at hf
        refine ⟨a1, a2, ?_, ?_⟩ <;> simp only <;> omega
    · intro q hq
      rcases List.mem_append.1 hq with hq | hq
      · exact hp q hq
      · rw [List.mem_singleton] at hq
        rw [hq]
        exact hr
/-- The record as it is taken: a gap begins where the collection ends. -/
def cutR (a : Int) (r : S42) : S42 := if 0 < r.f4 ∧ fst r < a then gapS a r.f0 else r
def stepS (out : List S42) (r : S42) : List S42 := if r.f0 < asks out then out else
  (if asks out < fst r then add (add out (gapS (asks out) (fst r - 1))) (cutR (asks out) r) else add out (cutR (asks out) r))
def cntS (out : List S42) (r : S42) (n : Int) : Int := if r.f0 < asks out then n else if 0 < r.f4 then n else n + 1
def takeS : List S42 → Int → List S42 → List S42 × Int
  | out, n, [] => (out, n)
  | out, n, r :: rs => takeS (stepS out r) (cntS out r n) rs
theorem cut_num (a : Int) (r : S42) : (cutR a r).f0 = r.f0 := by unfold cutR gapS; split <;> rfl
theorem cut_fit {a : Int} {r : S42} (ha : 1 ≤ a) (h : Fit r) (hn : a ≤ r.f0) : Fit (cutR a r) := by
  unfold cutR
  split
  · exact gap_fit ha hn h.2.1
  · exact h
theorem cut_fst {a : Int} {r : S42} (h : Fit r) (hn : a ≤ r.f0) : fst (cutR a r) = if a < fst r then fst r else a := by
  unfold cutR
  obtain ⟨h1, h2, h3, h4⟩ := h
  split
  · rename_i c
    rw [gap_fst hn, if_neg (by omega)]
  · rename_i c
    split
    · rfl
    · unfold fst at *
      split <;> simp_all <;> omega
theorem cut_gap {a : Int} {r : S42} (hr : Fit r) (hn : a ≤ r.f0) : 0 < (cutR a r).f4 ↔ 0 < r.f4 := by
  unfold cutR
  split
  · rename_i c
    simp only [gapS]
    constructor
    · intro _; exact c.1
    · intro _; omega
  · exact Iff.rfl
/-- What is put at last follows at once. -/
theorem cut_next {out : List S42} {r : S42} (h : Fit r) (hn : asks out ≤ r.f0) : fst (cutR (asks out) r) = asks (if asks out < fst r then add out (gapS (asks out) (fst r - 1)) else out) := by
  rw [cut_fst h hn]
  split
  · rw [add_asks]
    simp [gapS]
  · rfl
theorem step_eq (out : List S42) (r : S42) (hn : ¬ r.f0 < asks out) : stepS out r = add (if asks out < fst r then add out (gapS (asks out) (fst r - 1)) else out) (cutR (asks out) r) := by
  unfold stepS
  rw [if_neg hn]
  split <;> rfl
theorem mid_fit {out : List S42} {r : S42} (ho : ∀ p ∈ out, Fit p) (h : Fit r) : ∀ p ∈ (if asks out < fst r then add out (gapS (asks out) (fst r - 1)) else out), Fit p := by
  have ha := asks_bd ho
  have hf := fst_ok h
  have h2 := h.2.1
  split
  · exact add_fit (gap_fit ha.1 (by omega) (by omega)) ho (gap_fst (by omega))
  · exact ho
theorem mid_len (out : List S42) (r : S42) : (if asks out < fst r then add out (gapS (asks out) (fst r - 1)) else out).length ≤ out.length + 1 := by
  split
  · exact add_len _ _
  · omega
theorem step_fit {out : List S42} {r : S42} (ho : ∀ p ∈ out, Fit p) (h : Fit r) : ∀ p ∈ stepS out r, Fit p := by
  by_cases c : r.f0 < asks out
  · unfold stepS
    rw [if_pos c]
    exact ho
  · rw [step_eq _ _ c]
    exact add_fit (cut_fit (asks_bd ho).1 h (by omega)) (mid_fit ho h) (cut_next h (by omega))
theorem step_len (out : List S42) (r : S42) : (stepS out r).length ≤ out.length + 2 := by
  by_cases c : r.f0 < asks out
  · unfold stepS
    rw [if_pos c]
    omega
  · rw [step_eq _ _ c]
    have := mid_len out r
    have := add_len (if asks out < fst r then add out (gapS (asks out) (fst r - 1)) else out) (cutR (asks out) r)
    omega
theorem step_asks {out : List S42} {r : S42} (c : ¬ r.f0 < asks out) : asks (stepS out r) = r.f0 + 1 := by
  rw [step_eq _ _ c, add_asks, cut_num]
/-! ### The program's rounds -/
theorem j2_f (out l : List S42) (n : Int) (i : Nat) (q : S42) (k : Nat) (hq : Fit q) (ho : ∀ p ∈ out, Fit p) (hl : out.length < 900000000000) (hn : 0 ≤ n ∧ n < 1000000000000) (hi : i < 1000000000000) (hge : asks out ≤ fst q) :
    collect_Collector_Take.j2 (k + 1) out (asks out) n l l.length i q.f0 q.f1 q.f2.f0 q.f2.f1 q.f3 q.f4 =
      collect_Collector_Take.l0 k (add (if asks out < fst q then add out (gapS (asks out) (fst q - 1)) else out) q) (q.f0 + 1) (if 0 < q.f4 then n else n + 1) l l.length ((i + 1 : Nat) : Int) := by
  have ha := asks_bd ho
  have hf := fst_ok hq
  have h2 := hq.2.1
  have h1 := hq.1
  have h4 := hq.2.2.1
  have hw : wrap64 ((i : Int) + 1) = ((i + 1 : Nat) : Int) := by rw [w64 (by omega) (by omega)]; simp
  have hw2 : wrap64 (q.f0 + 1) = q.f0 + 1 := w64 (by omega) (by omega)
  have hw3 : wrap64 (n + 1) = n + 1 := w64 (by omega) (by omega)
  simp only [collect_Collector_Take.j2]
  rw [cleast_f q hq]
  simp only [Option.bind_some]
  rw [hw, hw2, hw3]
  by_cases c : asks out < fst q
  · have hg : Fit (gapS (asks out) (fst q - 1)) := gap_fit ha.1 (by omega) (by omega)
    rw [if_pos (show fst q > asks out from c), if_pos c, w64 (x := fst q - 1) (by omega) (by omega), cgap_f (by omega) (by omega)]
    simp only [Option.bind_some]
    rw [put_f out _ (by omega) hg ho]
    simp only [Option.bind_some]
    have ho2 := add_fit hg ho (gap_fst (by omega))
    have hl2 := add_len out (gapS (asks out) (fst q - 1))
    rw [put_f _ q (by omega) hq ho2]
    simp only [Option.bind_some]
    by_cases d : q.f4 = 0
    · rw [if_pos d, if_neg (by omega)]
    · rw [if_neg d, if_pos (by omega)]
  · rw [if_neg (show ¬ fst q > asks out from c), if_neg c, put_f out q (by omega) hq ho]
    simp only [Option.bind_some]
    by_cases d : q.f4 = 0
    · rw [if_pos d, if_neg (by omega)]
    · rw [if_neg d, if_pos (by omega)]
theorem ctake_l0 (l : List S42) (hl : l.length < 100000000000) : ∀ (rs : List S42) (i : Nat) (out : List S42) (n : Int) (k : Nat), l.drop i = rs → (∀ r ∈ rs, Ok r ∧ Pure r) → (∀ p ∈ out, Fit p) → out.length + 2 * rs.length < 900000000000 → 0 ≤ n → n + rs.length < 1000000000000 → 5 * rs.length + out.length + 1 < k →
    collect_Collector_Take.l0 k out (asks out) n l l.length i = some (if ris 0 (takeS out n rs).1 = true then ((takeS out n rs).2, 0, (takeS out n rs).1) else (0, 15, (takeS out n rs).1))
  | [], i, out, n, k, h, hr, ho, hlo, hn, hn2, hk => by
    obtain ⟨k, rfl, hk⟩ := kof hk
    have := at_end h
    rw [show takeS out n [] = (out, n) from rfl]
    simp only [collect_Collector_Take.l0]
    rw [if_neg (by omega)]
    obtain ⟨v, hv, hv2⟩ := late_f (l := out) (by simp at hlo; omega) (k := k) (by simp at hk; omega)
    rw [hv]
    simp only [Option.bind_some]
    by_cases c : v ≥ 0
    · rw [if_pos c, if_neg (by rw [hv2.1 c]; simp)]
    · rw [if_neg c, if_pos (by cases e : ris 0 out <;> simp_all)]
  | r :: rs, i, out, n, k, h, hr, ho, hlo, hn, hn2, hk => by
    obtain ⟨k, rfl⟩ : ∃ k', k = k' + 1 := ⟨k - 1, by omega⟩
    obtain ⟨h1, h2, h3⟩ := at_drop h
    obtain ⟨hO, hP⟩ := hr r List.mem_cons_self
    have hF : Fit r := ⟨hO.1, hO.2.1, hO.2.2.1, hO.2.2.2.1⟩
    have ha := asks_bd ho
    have hw : wrap64 ((i : Int) + 1) = ((i + 1 : Nat) : Int) := by rw [w64 (by omega) (by omega)]; simp
    simp only [List.length_cons] at hlo hn2 hk
    have hsl := step_len out r
    have hc : 0 ≤ cntS out r n ∧ cntS out r n ≤ n + 1 := by unfold cntS; (repeat' split) <;> omega
    have ih := fun k hk => ctake_l0 l hl rs (i + 1) (stepS out r) (cntS out r n) k h3 (fun q hq => hr q (List.mem_cons_of_mem _ hq)) (step_fit ho hF) (by omega) hc.1 (by omega) hk
    rw [show takeS out n (r :: rs) = takeS (stepS out r) (cntS out r n) rs from rfl]
    simp only [collect_Collector_Take.l0]
    rw [if_pos (by omega), if_pos (by omega), if_pos (by omega), h2]
    by_cases c : r.f0 < asks out
    · rw [if_pos c, hw]
      have hs : stepS out r = out := by unfold stepS; rw [if_pos c]
      have hs2 : cntS out r n = n := by unfold cntS; rw [if_pos c]
      rw [hs, hs2] at ih
      rw [hs, hs2]
      exact ih k (by omega)
    · rw [if_neg c]
      have key : ∀ q, q = cutR (asks out) r → collect_Collector_Take.j2 (k - 2 + 1) out (asks out) n l l.length i q.f0 q.f1 q.f2.f0 q.f2.f1 q.f3 q.f4 = some (if ris 0 (takeS (stepS out r) (cntS out r n) rs).1 = true then ((takeS (stepS out r) (cntS out r n) rs).2, 0, (takeS (stepS out r) (cntS out r n) rs).1) else (0, 15, (takeS (stepS out r) (cntS out r n) rs).1)) := by
        intro q hq
        have hqf : Fit q := by rw [hq]; exact cut_fit ha.1 hF (by omega)
        have hqs : fst q = if asks out < fst r then fst r else asks out := by rw [hq]; exact cut_fst hF (by omega)
        have hq0 : q.f0 = r.f0 := by rw [hq]; exact cut_num _ _
        have hq4 : 0 < q.f4 ↔ 0 < r.f4 := by rw [hq]; exact cut_gap hF (by omega)
        rw [j2_f out l n i q (k - 2) hqf ho (by omega) (by omega) (by omega) (by rw [hqs]; split <;> omega)]
        have e1 : (if asks out < fst q then add out (gapS (asks out) (fst q - 1)) else out) = (if asks out < fst r then add out (gapS (asks out) (fst r - 1)) else out) := by
          rw [hqs]
          by_cases d : asks out < fst r
          · simp only [if_pos d]
          · simp only [if_neg d]
            rw [if_neg (by omega)]
        have e2 : (if 0 < q.f4 then n else n + 1) = cntS out r n := by
          unfold cntS
          rw [if_neg c]
          by_cases d : 0 < r.f4
          · rw [if_pos d, if_pos (hq4.2 d)]
          · rw [if_neg d, if_neg (fun e => d (hq4.1 e))]
        rw [e1, e2, hq, ← step_eq _ _ c, ← hq, hq0, ← step_asks c]
        exact ih _ (by omega)
      have k1 : k = k - 2 + 1 + 1 := by omega
      by_cases d : r.f4 > 0
      · rw [if_pos d, cleast_f r hF]
        simp only [Option.bind_some]
        rw [k1]
        simp only [collect_Collector_Take.j1]
        by_cases e : fst r < asks out
        · rw [if_pos (by simpa using e), cgap_f (by omega) (by have := hF.1; have := hF.2.1; omega)]
          simp only [Option.bind_some]
          exact key (gapS (asks out) r.f0) (by unfold cutR; rw [if_pos ⟨d, e⟩])
        · rw [if_neg (by simpa using e)]
          exact key r (by unfold cutR; rw [if_neg (fun x => e x.2)])
      · rw [if_neg d]
        rw [k1]
        simp only [collect_Collector_Take.j1]
        rw [if_neg (by simp)]
        exact key r (by unfold cutR; rw [if_neg (fun x => d x.1)])

theorem from_g (l : List S42) (hl : l.length < 1000000000000) (hp : ∀ p ∈ l, Fit p) : collect_Collector_From.g l = some (asks l) := by
  unfold collect_Collector_From.g
  rcases List.eq_nil_or_concat l with rfl | ⟨l, p, rfl⟩
  · rw [if_pos (by simp)]
    rfl
  · rw [List.concat_eq_append] at *
    obtain ⟨b1, b2, b3, b4⟩ := hp p (by simp)
    have hw : wrap64 (((l ++ [p]).length : Int) - 1) = (l.length : Int) := by
      rw [w64 (by simp) (by simp at *; omega)]
      simp
    rw [if_neg (by simp; omega), hw, if_pos (by omega), if_pos (by simp; omega), rd_last, asks_last, w64 (by omega) (by omega)]
/-! ### Take -/
def takeR (have_ l : List S42) : List S42 × Int × Int := if ck l = 0 then (if ris 0 (takeS have_ 0 l).1 = true then ((takeS have_ 0 l).1, (takeS have_ 0 l).2, 0) else (have_, 0, 15)) else (have_, 0, ck l)
theorem clone_f (l : List S42) (hl : l.length < 1000000000000) : api_Record_32.f l = some l := by
  unfold api_Record_32.f
  simp only [Option.bind_some, List.length_nil, List.nil_append]
  rw [if_pos (by omega)]
theorem elems_of_ck {l : List S42} (h : ck l = 0) : ∀ r ∈ l, Ok r ∧ Pure r := fun r hr => ⟨allOk_mem (ck_ok h).1 r hr, fun h4 => clean_mem (ck_ok h).2.1 r hr h4⟩
theorem ctake_f {s l : List S42} {k : Nat} (hl : l.length < 100000000) (hs : s.length < 100000000) (hf : ∀ p ∈ s, Fit p) (hk : 5 * l.length + s.length + 10 < k) : collect_Collector_Take.f k s l = some ((takeR s l).2.1, (takeR s l).2.2, (takeR s l).1) := by
  unfold collect_Collector_Take.f collect_Collector_Take.g takeR
  rw [check_f (by omega) (by omega)]
  simp only [Option.bind_some]
  by_cases c : ck l = 0
  · simp only [if_pos c]
    rw [clone_f s (by omega)]
    simp only [Option.bind_some]
    rw [from_g s (by omega) hf]
    simp only [Option.bind_some]
    have h := ctake_l0 l (by omega) l 0 s 0 k rfl (elems_of_ck c) hf (by omega) (by omega) (by omega) (by omega)
    rw [show ((0 : Nat) : Int) = 0 from rfl] at h
    rw [h]
    simp only [Option.bind_some]
    by_cases d : ris 0 (takeS s 0 l).1 = true
    · simp only [if_pos d]
      rfl
    · simp only [if_neg d]
      rfl
  · simp only [if_neg c, Option.bind_some]

set_option maxRecDepth 100000 in
theorem awake_100 : plenumlaw42_awake.f 100 = some true := by decide +kernel
theorem awake_f {k : Nat} (hk : 100 ≤ k) : plenumlaw42_awake.f k = some true := at_rounds (g := fun k => plenumlaw42_awake.f k) (fun k => plenumlaw42_awake.mono k) hk awake_100

theorem records_f {l : List S42} (hl : l.length < 1000000000000) : collect_Collector_Records.f l = some (l, l) := by
  unfold collect_Collector_Records.f
  rw [clone_f l hl]
  rfl
theorem from_f (l : List S42) (hl : l.length < 1000000000000) (hp : ∀ p ∈ l, Fit p) : collect_Collector_From.f l = some (asks l, l) := by
  unfold collect_Collector_From.f
  rw [from_g l hl hp]
  rfl
theorem small_l0 (l : List S42) (hl : l.length < 1000000000000) : ∀ (rs : List S42) (i k : Nat), l.drop i = rs → rs.length < k → ∃ b, plenumref42_Small.l0 k l i = some b
  | [], i, k, h, hk => by
    obtain ⟨k, rfl, _⟩ := kof hk
    have := at_end h
    simp only [plenumref42_Small.l0]
    rw [if_neg (by omega)]
    exact ⟨_, rfl⟩
  | r :: rs, i, k, h, hk => by
    obtain ⟨k, rfl, hk⟩ := kof hk
    obtain ⟨h1, h2, h3⟩ := at_drop h
    have hw : wrap64 ((i : Int) + 1) = ((i + 1 : Nat) : Int) := by rw [w64 (by omega) (by omega)]; simp
    have ih := small_l0 l hl rs (i + 1) k h3 (by simpa using hk)
    simp only [plenumref42_Small.l0]
    rw [if_pos (by omega), if_pos (by omega), h2, hw]
    (repeat' split) <;> first | exact ⟨_, rfl⟩ | exact ih
theorem small_f (l : List S42) (k : Nat) (hk : 50 ≤ k) : ∃ b, plenumref42_Small.f k l = some b ∧ (b = true → l.length ≤ 40) := by
  unfold plenumref42_Small.f
  by_cases c : (l.length : Int) > 40
  · rw [if_pos c]
    exact ⟨false, rfl, fun h => by cases h⟩
  · rw [if_neg c]
    obtain ⟨b, hb⟩ := small_l0 l (by omega) l 0 k rfl (by omega)
    exact ⟨b, hb, fun _ => by omega⟩

end Go.Proofs.Yteclemahimldeaa.PTK
