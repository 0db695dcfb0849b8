/- Plain facts, for the part V of the print. -/
import Derived.Test.YteclemahimldeaaVx7
import Derived.Test.YteclemahimldeaaVx8
import Derived.Test.YteclemahimldeaaVx9
import Derived.Test.YteclemahimldeaaVx6
import Derived.Test.YteclemahimldeaaVx11
set_option linter.unusedVariables false
set_option linter.unusedSimpArgs false
namespace Go.Proofs.Yteclemahimldeaa.PTV
open Go.RowKit Go.Proofs.Yteclemahimldeaa.V Go.Proofs.YteclemahimldeaaW.PrintWords Go.Proofs.YteclemahimldeaaW.PrintLast Go.Proofs.YteclemahimldeaaW.PrintMore

theorem w64 {x : Int} (h1 : -9223372036854775808 ≤ x) (h2 : x ≤ 9223372036854775807) : wrap64 x = x := by
  unfold wrap64
  omega
theorem kof {k n : Nat} (h : n < k) : ∃ k', k = k' + 1 ∧ n ≤ k' := ⟨k - 1, by omega, by omega⟩

/-- The rest of a list from place i on: its first element is that of the place. -/
theorem at_drop {l rs : List S42} {r : S42} {i : Nat} (h : l.drop i = r :: rs) : i < l.length ∧ rd_T42 l (i : Int) = r ∧ l.drop (i + 1) = rs := by
  have hi : i < l.length := by
    rcases Nat.lt_or_ge i l.length with h1 | h1
    · exact h1
    · rw [List.drop_eq_nil_of_le h1] at h
      cases h
  rw [List.drop_eq_getElem_cons hi] at h
  injection h with h1 h2
  refine ⟨hi, ?_, h2⟩
  unfold rd_T42
  rw [Int.toNat_natCast, List.getD_eq_getElem?_getD, List.getElem?_eq_getElem hi, h1]
  rfl
theorem at_end {l : List S42} {i : Nat} (h : l.drop i = []) : l.length ≤ i := by simpa using h

/-- A record whose numbers are whole and not too great. -/
def Ok (r : S42) : Prop := 1 ≤ r.f0 ∧ r.f0 ≤ 1000000000 ∧ 0 ≤ r.f4 ∧ r.f4 ≤ r.f0 ∧ 0 ≤ r.f1 ∧ r.f1 ≤ 6311433599
instance (r : S42) : Decidable (Ok r) := by unfold Ok; infer_instance
def allOk : List S42 → Bool
  | [] => true
  | r :: rs => decide (Ok r) && allOk rs
theorem allOk_mem : ∀ {l : List S42}, allOk l = true → ∀ r ∈ l, Ok r
  | [], _, r, h => by cases h
  | a :: l, h, r, hr => by
    simp only [allOk, Bool.and_eq_true, decide_eq_true_eq] at h
    rcases List.mem_cons.1 hr with rfl | hr
    · exact h.1
    · exact allOk_mem h.2 r hr
/-- A gap that says something besides, or that stands behind a gap. -/
def dirty (p : Int) (r : S42) : Prop := 0 < r.f4 ∧ (r.f1 ≠ 0 ∨ r.f2.f0 ≠ 0 ∨ r.f2.f1 ≠ 0 ∨ r.f3 ≠ 0 ∨ 0 < p)
instance (p : Int) (r : S42) : Decidable (dirty p r) := by unfold dirty; infer_instance
def clean : Int → List S42 → Bool
  | _, [] => true
  | p, r :: rs => !decide (dirty p r) && clean r.f4 rs
/-- The least number that a record stands for. -/
def fst (r : S42) : Int := if 0 < r.f4 then r.f0 - r.f4 + 1 else r.f0
def linked : Int → List S42 → Bool
  | _, [] => true
  | p, r :: rs => decide (fst r = p + 1) && linked r.f0 rs
def linked1 : List S42 → Bool
  | [] => true
  | r :: rs => linked r.f0 rs
def ris : Int → List S42 → Bool
  | _, [] => true
  | a, r :: rs => if r.f4 = 0 then (if r.f1 < a then false else ris r.f1 rs) else ris a rs
def ck (l : List S42) : Int := if allOk l = true then (if clean 0 l = true then (if linked1 l = true then (if ris 0 l = true then 0 else 15) else 10) else 1) else 6

/-! ### late, Rising -/
theorem ris_l0 (l : List S42) (hl : l.length < 1000000000000) : ∀ (rs : List S42) (i : Nat) (a : Int) (k : Nat), l.drop i = rs → rs.length < k → plenumref42_Rising.l0 k l a i = some (ris a rs)
  | [], i, a, k, h, hk => by
    obtain ⟨k, rfl, _⟩ := kof hk
    have := at_end h
    simp only [plenumref42_Rising.l0]
    rw [if_neg (by omega)]
    rfl
  | r :: rs, i, a, k, h, hk => by
    obtain ⟨k, rfl, hk⟩ := kof hk
    obtain ⟨h1, h2, h3⟩ := at_drop h
    have ih := fun a => ris_l0 l hl rs (i + 1) a k h3 (by simpa using hk)
    simp only [plenumref42_Rising.l0]
    rw [if_pos (by omega), if_pos (by omega), h2, w64 (by omega) (by omega), show (i : Int) + 1 = ((i + 1 : Nat) : Int) by simp, ih, ih]
    rw [ris]
    by_cases c : r.f4 = 0
    · rw [if_pos c, if_pos c]
      by_cases d : r.f1 < a
      · rw [if_pos d, if_pos d]
      · rw [if_neg d, if_neg d]
    · rw [if_neg c, if_neg c]
theorem ris_f {l : List S42} (hl : l.length < 1000000000000) {k : Nat} (hk : l.length < k) : plenumref42_Rising.f k l = some (ris 0 l) := ris_l0 l hl l 0 0 k rfl hk
theorem late_l0 (l : List S42) (hl : l.length < 1000000000000) : ∀ (rs : List S42) (i : Nat) (a : Int) (k : Nat), l.drop i = rs → rs.length < k → ∃ v, collect_late.l0 k a l l.length i = some v ∧ (v ≥ 0 ↔ ris a rs = false)
  | [], i, a, k, h, hk => by
    obtain ⟨k, rfl, _⟩ := kof hk
    have := at_end h
    refine ⟨-1, ?_, by simp [ris]⟩
    simp only [collect_late.l0]
    rw [if_neg (by omega)]
  | r :: rs, i, a, k, h, hk => by
    obtain ⟨k, rfl, hk⟩ := kof hk
    obtain ⟨h1, h2, h3⟩ := at_drop h
    have ih := fun a => late_l0 l hl rs (i + 1) a k h3 (by simpa using hk)
    simp only [collect_late.l0]
    rw [if_pos (by omega), if_pos (by omega), if_pos (by omega), h2, w64 (by omega) (by omega), show (i : Int) + 1 = ((i + 1 : Nat) : Int) by simp]
    unfold ris
    by_cases c : r.f4 = 0
    · rw [if_pos c, if_pos c]
      by_cases d : r.f1 < a
      · rw [if_pos d, if_pos d]
        exact ⟨_, rfl, by simp⟩
      · rw [if_neg d, if_neg d]
        exact ih _
    · rw [if_neg c, if_neg c]
      exact ih _
theorem late_f {l : List S42} (hl : l.length < 1000000000000) {k : Nat} (hk : l.length < k) : ∃ v, collect_late.f k l = some v ∧ (v ≥ 0 ↔ ris 0 l = false) := late_l0 l hl l 0 0 k rfl hk

/-! ### Check -/
theorem mx1 {g : Int} (h : 0 ≤ g) : mx g 1 = if 0 < g then g else 1 := by
  unfold mx
  (repeat' split) <;> omega
theorem least_f (r : S42) (h : Ok r) : collect_least.f r.f0 r.f1 r.f2.f0 r.f2.f1 r.f3 r.f4 = some (fst r) := by
  obtain ⟨h1, h2, h3, h4, h5, h6⟩ := h
  unfold collect_least.f fst
  rw [mx1 h3]
  split
  · rw [w64 (x := r.f0 - r.f4) (by omega) (by omega), w64 (by omega) (by omega)]
  · rw [w64 (x := r.f0 - 1) (by omega) (by omega), w64 (by omega) (by omega)]
    congr 1
    omega
theorem first_f (r : S42) (h : Ok r) : plenumref42_First.f r.f0 r.f1 r.f2.f0 r.f2.f1 r.f3 r.f4 = some (fst r) := by
  obtain ⟨h1, h2, h3, h4, h5, h6⟩ := h
  unfold plenumref42_First.f fst
  by_cases c : 0 < r.f4
  · rw [if_pos c, if_pos c, w64 (x := r.f0 - r.f4) (by omega) (by omega), w64 (by omega) (by omega)]
  · rw [if_neg c, if_neg c]

theorem cl2 (l : List S42) (hl : l.length < 1000000000000) (hok : ∀ r ∈ l, Ok r) : ∀ (rs : List S42) (i : Nat) (k : Nat), 1 ≤ i → l.drop i = rs → rs.length + l.length + 1 < k → ∀ p, rd_T42 l ((i : Int) - 1) = p → (i ≤ l.length → Ok p) →
    collect_Check.l2 k l i = some (if linked p.f0 rs = true then (if ris 0 l = true then 0 else 15) else 10)
  | [], i, k, h0, h, hk, p, hp, hpo => by
    obtain ⟨k, rfl, hk⟩ := kof hk
    have := at_end h
    simp only [collect_Check.l2]
    rw [if_neg (by omega)]
    obtain ⟨v, hv, hv2⟩ := late_f (l := l) hl (k := k) (by simp at hk; omega)
    rw [hv]
    simp only [Option.bind_some, linked, if_true]
    by_cases c : v ≥ 0
    · rw [if_pos c, if_neg (by rw [hv2.1 c]; simp)]
    · rw [if_neg c, if_pos (by cases e : ris 0 l <;> simp_all)]
  | r :: rs, i, k, h0, h, hk, p, hp, hpo => by
    obtain ⟨k, rfl, hk⟩ := kof hk
    obtain ⟨h1, h2, h3⟩ := at_drop h
    have hr : Ok r := hok r (List.mem_of_mem_drop (by rw [h]; exact List.mem_cons_self))
    have hp2 := hpo (by omega)
    have ih := cl2 l hl hok rs (i + 1) k (by omega) h3 (by simp at hk; omega) r (by rw [← h2]; congr 1; omega) (fun _ => hr)
    simp only [collect_Check.l2]
    rw [if_pos (by omega), if_pos (by omega), h2, least_f r hr]
    simp only [Option.bind_some]
    rw [w64 (x := (i : Int) - 1) (by omega) (by omega), if_pos (by omega), if_pos (by omega), hp, w64 (x := p.f0 + 1) (by have := hp2.1; omega) (by have := hp2.2.1; omega), w64 (x := (i : Int) + 1) (by omega) (by omega), show (i : Int) + 1 = ((i + 1 : Nat) : Int) by simp, ih]
    simp only [linked]
    by_cases c : fst r = p.f0 + 1
    · rw [if_pos c]
      simp [c]
    · rw [if_neg c]
      simp [c]
theorem rl2 (l : List S42) (hl : l.length < 1000000000000) (hok : ∀ r ∈ l, Ok r) : ∀ (rs : List S42) (i : Nat) (k : Nat), 1 ≤ i → l.drop i = rs → rs.length + l.length + 1 < k → ∀ p, rd_T42 l ((i : Int) - 1) = p → (i ≤ l.length → Ok p) →
    plenumref42_Check.l2 k l i = some (if linked p.f0 rs = true then (if ris 0 l = true then 0 else 15) else 10)
  | [], i, k, h0, h, hk, p, hp, hpo => by
    obtain ⟨k, rfl, hk⟩ := kof hk
    have := at_end h
    simp only [plenumref42_Check.l2]
    rw [if_neg (by omega), ris_f hl (by simp at hk; omega)]
    simp only [Option.bind_some, linked, if_true]
    split <;> rfl
  | r :: rs, i, k, h0, h, hk, p, hp, hpo => by
    obtain ⟨k, rfl, hk⟩ := kof hk
    obtain ⟨h1, h2, h3⟩ := at_drop h
    have hr : Ok r := hok r (List.mem_of_mem_drop (by rw [h]; exact List.mem_cons_self))
    have hp2 := hpo (by omega)
    have ih := rl2 l hl hok rs (i + 1) k (by omega) h3 (by simp at hk; omega) r (by rw [← h2]; congr 1; omega) (fun _ => hr)
    simp only [plenumref42_Check.l2]
    rw [if_pos (by omega), if_pos (by omega), h2, first_f r hr]
    simp only [Option.bind_some]
    rw [w64 (x := (i : Int) - 1) (by omega) (by omega), if_pos (by omega), if_pos (by omega), hp, w64 (x := p.f0 + 1) (by have := hp2.1; omega) (by have := hp2.2.1; omega), w64 (x := (i : Int) + 1) (by omega) (by omega), show (i : Int) + 1 = ((i + 1 : Nat) : Int) by simp, ih]
    simp only [linked]
    by_cases c : fst r = p.f0 + 1
    · rw [if_pos c]
      simp [c]
    · rw [if_neg c]
      simp [c]

/-- The third part of the checks, from the place 1 on. -/
theorem link1 (l : List S42) (k : Nat) (f : Nat → List S42 → Int → Option Int) (hok : ∀ r ∈ l, Ok r)
    (h0 : l = [] → f k l 1 = some (if ris 0 l = true then 0 else 15))
    (h : ∀ rs i, 1 ≤ i → l.drop i = rs → ∀ p, rd_T42 l ((i : Int) - 1) = p → (i ≤ l.length → Ok p) → rs.length ≤ l.length → f k l (i : Nat) = some (if linked p.f0 rs = true then (if ris 0 l = true then 0 else 15) else 10)) :
    f k l 1 = some (if linked1 l = true then (if ris 0 l = true then 0 else 15) else 10) := by
  cases l with
  | nil =>
    rw [h0 rfl]
    simp [linked1]
  | cons a l =>
    have := h l 1 (by omega) rfl a rfl (fun _ => hok a List.mem_cons_self) (by simp)
    rw [show (1 : Int) = ((1 : Nat) : Int) from rfl, this]
    rfl
theorem linked_nil_ck2 (l : List S42) (hl : l.length < 1000000000000) (hok : ∀ r ∈ l, Ok r) (k : Nat) (hk : 2 * l.length + 2 < k) : collect_Check.l2 k l 1 = some (if linked1 l = true then (if ris 0 l = true then 0 else 15) else 10) := by
  refine link1 l k collect_Check.l2 hok ?_ ?_
  · rintro rfl
    obtain ⟨k, rfl, hk⟩ := kof hk
    obtain ⟨v, hv, hv2⟩ := late_f (l := []) (by simp) (k := k) (by simp at *; omega)
    simp only [collect_Check.l2]
    rw [if_neg (by simp), hv]
    simp only [Option.bind_some]
    by_cases c : v ≥ 0
    · rw [if_pos c, if_neg (by rw [hv2.1 c]; simp)]
    · rw [if_neg c, if_pos (by cases e : ris 0 [] <;> simp_all)]
  · intro rs i hi hd p hp hpo hle
    exact cl2 l hl hok rs i k hi hd (by omega) p hp hpo
theorem linked_nil_rk2 (l : List S42) (hl : l.length < 1000000000000) (hok : ∀ r ∈ l, Ok r) (k : Nat) (hk : 2 * l.length + 2 < k) : plenumref42_Check.l2 k l 1 = some (if linked1 l = true then (if ris 0 l = true then 0 else 15) else 10) := by
  refine link1 l k plenumref42_Check.l2 hok ?_ ?_
  · rintro rfl
    obtain ⟨k, rfl, hk⟩ := kof hk
    simp only [plenumref42_Check.l2]
    rw [if_neg (by simp), ris_f (l := []) (by simp) (by simp at *; omega)]
    simp only [Option.bind_some]
    split <;> rfl
  · intro rs i hi hd p hp hpo hle
    exact rl2 l hl hok rs i k hi hd (by omega) p hp hpo

theorem bools (a b : Int) : ((!(a == 0) || (!(b == 0))) = true) ↔ (a ≠ 0 ∨ b ≠ 0) := by simp
theorem cl1 (l : List S42) (hl : l.length < 1000000000000) (hok : ∀ r ∈ l, Ok r) (z : Int) : ∀ (rs : List S42) (i : Nat) (k : Nat), l.drop i = rs → rs.length + 2 * l.length + 4 < k → ∀ p : Int, (i = 0 → p = 0) → (0 < i → p = (rd_T42 l ((i : Int) - 1)).f4) → (∀ m, 2 * l.length + 2 < m → collect_Check.l2 m l 1 = some z) →
    collect_Check.l1 k l l l.length i = some (if clean p rs = true then z else 1)
  | [], i, k, h, hk, p, hp0, hp1, hz => by
    obtain ⟨k, rfl, hk⟩ := kof hk
    have := at_end h
    simp only [collect_Check.l1]
    rw [if_neg (by omega), hz k (by simp at hk; omega)]
    simp [clean]
  | r :: rs, i, k, h, hk, p, hp0, hp1, hz => by
    obtain ⟨k, rfl, hk⟩ := kof hk
    obtain ⟨h1, h2, h3⟩ := at_drop h
    have hr : Ok r := hok r (List.mem_of_mem_drop (by rw [h]; exact List.mem_cons_self))
    have ih := cl1 l hl hok z rs (i + 1) k h3 (by simp at hk; omega) r.f4 (by omega) (fun _ => by rw [← h2]; congr 2; omega) hz
    have hw : wrap64 ((i : Int) + 1) = ((i + 1 : Nat) : Int) := by rw [w64 (by omega) (by omega)]; simp
    have hg := hr.2.2.1
    simp only [collect_Check.l1]
    rw [if_pos (by omega), if_pos (by omega), if_pos (by omega), h2, hw, ih]
    simp only [clean]
    by_cases c : r.f4 = 0
    · rw [if_pos c]
      have : ¬ dirty p r := fun hd => by have := hd.1; omega
      simp [this]
    · rw [if_neg c]
      by_cases c1 : r.f1 = 0
      · rw [if_pos c1]
        by_cases c2 : r.f2.f0 ≠ 0 ∨ r.f2.f1 ≠ 0
        · rw [if_pos ((bools _ _).2 c2)]
          have : dirty p r := ⟨by omega, by rcases c2 with c2 | c2 <;> simp [c2]⟩
          simp [this]
        · rw [if_neg (fun e => c2 ((bools _ _).1 e))]
          by_cases c3 : r.f3 = 0
          · rw [if_pos c3]
            by_cases ci : i = 0
            · rw [if_neg (by omega)]
              have : ¬ dirty p r := fun hd => by
                have := hp0 ci
                rcases hd.2 with e | e | e | e | e
                · exact e c1
                · exact c2 (.inl e)
                · exact c2 (.inr e)
                · exact e c3
                · omega
              simp [this]
            · have hpp := hp1 (by omega)
              have hpo : Ok (rd_T42 l ((i : Int) - 1)) := by
                have hh : i - 1 < l.length := by omega
                have : rd_T42 l ((i : Int) - 1) = l[i - 1] := by
                  unfold rd_T42
                  rw [show ((i : Int) - 1).toNat = i - 1 by omega, List.getD_eq_getElem?_getD, List.getElem?_eq_getElem hh]
                  rfl
                rw [this]
                exact hok _ (List.getElem_mem hh)
              rw [if_pos (by omega), w64 (by omega) (by omega), if_pos (by omega), if_pos (by omega), ← hpp]
              have hp4 := hpo.2.2.1
              by_cases cp : p = 0
              · rw [if_pos cp]
                have : ¬ dirty p r := fun hd => by
                  rcases hd.2 with e | e | e | e | e
                  · exact e c1
                  · exact c2 (.inl e)
                  · exact c2 (.inr e)
                  · exact e c3
                  · omega
                simp [this]
              · rw [if_neg cp]
                have : dirty p r := ⟨by omega, .inr (.inr (.inr (.inr (by omega))))⟩
                simp [this]
          · rw [if_neg c3]
            have : dirty p r := ⟨by omega, by simp [c3]⟩
            simp [this]
      · rw [if_neg c1]
        have : dirty p r := ⟨by omega, by simp [c1]⟩
        simp [this]
theorem rl1 (l : List S42) (hl : l.length < 1000000000000) (hok : ∀ r ∈ l, Ok r) (z : Int) : ∀ (rs : List S42) (i : Nat) (k : Nat), l.drop i = rs → rs.length + 2 * l.length + 4 < k → ∀ p : Int, (i = 0 → p = 0) → (0 < i → p = (rd_T42 l ((i : Int) - 1)).f4) → (∀ m, 2 * l.length + 2 < m → plenumref42_Check.l2 m l 1 = some z) →
    plenumref42_Check.l1 k l i = some (if clean p rs = true then z else 1)
  | [], i, k, h, hk, p, hp0, hp1, hz => by
    obtain ⟨k, rfl, hk⟩ := kof hk
    have := at_end h
    simp only [plenumref42_Check.l1]
    rw [if_neg (by omega), hz k (by simp at hk; omega)]
    simp [clean]
  | r :: rs, i, k, h, hk, p, hp0, hp1, hz => by
    obtain ⟨k, rfl, hk⟩ := kof hk
    obtain ⟨h1, h2, h3⟩ := at_drop h
    have hr : Ok r := hok r (List.mem_of_mem_drop (by rw [h]; exact List.mem_cons_self))
    have ih := rl1 l hl hok z rs (i + 1) k h3 (by simp at hk; omega) r.f4 (by omega) (fun _ => by rw [← h2]; congr 2; omega) hz
    have hw : wrap64 ((i : Int) + 1) = ((i + 1 : Nat) : Int) := by rw [w64 (by omega) (by omega)]; simp
    have hg := hr.2.2.1
    simp only [plenumref42_Check.l1]
    rw [if_pos (by omega), if_pos (by omega), h2, hw, ih]
    simp only [clean]
    by_cases c : r.f4 > 0
    · rw [if_pos c]
      by_cases c1 : r.f1 = 0
      · rw [if_pos c1]
        by_cases c2 : r.f2.f0 ≠ 0 ∨ r.f2.f1 ≠ 0
        · rw [if_pos ((bools _ _).2 c2)]
          have : dirty p r := ⟨by omega, by rcases c2 with c2 | c2 <;> simp [c2]⟩
          simp [this]
        · rw [if_neg (fun e => c2 ((bools _ _).1 e))]
          by_cases c3 : r.f3 = 0
          · rw [if_pos c3]
            by_cases ci : i = 0
            · rw [if_neg (by omega)]
              have : ¬ dirty p r := fun hd => by
                have := hp0 ci
                rcases hd.2 with e | e | e | e | e
                · exact e c1
                · exact c2 (.inl e)
                · exact c2 (.inr e)
                · exact e c3
                · omega
              simp [this]
            · have hpp := hp1 (by omega)
              rw [if_pos (by omega), w64 (by omega) (by omega), if_pos (by omega), if_pos (by omega), ← hpp]
              by_cases cp : p > 0
              · rw [if_pos cp]
                have : dirty p r := ⟨by omega, .inr (.inr (.inr (.inr (by omega))))⟩
                simp [this]
              · rw [if_neg cp]
                have : ¬ dirty p r := fun hd => by
                  rcases hd.2 with e | e | e | e | e
                  · exact e c1
                  · exact c2 (.inl e)
                  · exact c2 (.inr e)
                  · exact e c3
                  · omega
                simp [this]
          · rw [if_neg c3]
            have : dirty p r := ⟨by omega, by simp [c3]⟩
            simp [this]
      · rw [if_neg c1]
        have : dirty p r := ⟨by omega, by simp [c1]⟩
        simp [this]
    · rw [if_neg c]
      have : ¬ dirty p r := fun hd => by have := hd.1; omega
      simp [this]
theorem in_f (a b c : Int) : plenumref42_in.f a b c = some (decide (b ≤ a ∧ a ≤ c)) := by
  unfold plenumref42_in.f
  by_cases h : a ≥ b
  · rw [if_pos h]
    simp [h]
  · rw [if_neg h]
    simp [show ¬ b ≤ a by omega]
theorem cl0 (l : List S42) (z : Int) (hl : l.length < 1000000000000) : ∀ (rs : List S42) (i : Nat) (k : Nat), l.drop i = rs → rs.length + 3 * l.length + 6 < k → (∀ m, 3 * l.length + 4 < m → (∀ r ∈ l, Ok r) → collect_Check.l1 m l l l.length 0 = some z) → (∀ r ∈ l.take i, Ok r) →
    collect_Check.l0 k l l l.length i = some (if allOk rs = true then z else 6)
  | [], i, k, h, hk, hz, hpre => by
    obtain ⟨k, rfl, hk⟩ := kof hk
    have := at_end h
    simp only [collect_Check.l0]
    rw [if_neg (by omega), hz k (by simp at hk; omega) (by rwa [List.take_of_length_le this] at hpre)]
    simp [allOk]
  | r :: rs, i, k, h, hk, hz, hpre => by
    obtain ⟨k, rfl, hk⟩ := kof hk
    obtain ⟨h1, h2, h3⟩ := at_drop h
    have hw : wrap64 ((i : Int) + 1) = ((i + 1 : Nat) : Int) := by rw [w64 (by omega) (by omega)]; simp
    simp only [collect_Check.l0]
    rw [if_pos (by omega), if_pos (by omega), if_pos (by omega), h2, hw]
    simp only [allOk]
    by_cases c : Ok r
    · have ih := cl0 l z hl rs (i + 1) k h3 (by simp at hk; omega) hz (by
        intro q hq
        rw [List.take_succ_eq_append_getElem h1] at hq
        rcases List.mem_append.1 hq with hq | hq
        · exact hpre q hq
        · rw [List.mem_singleton] at hq
          rw [List.drop_eq_getElem_cons h1] at h
          injection h with e1 e2
          rw [hq, e1]
          exact c)
      obtain ⟨a1, a2, a3, a4, a5, a6⟩ := c
      rw [if_neg (by omega), if_neg (by omega), if_neg (by omega), if_neg (by omega), if_neg (by omega), if_neg (by omega), ih]
      simp [show Ok r from ⟨a1, a2, a3, a4, a5, a6⟩]
    · simp only [c, decide_false, Bool.false_and, Bool.false_eq_true, if_false]
      unfold Ok at c
      (repeat' split) <;> first | rfl | (exfalso; omega)
theorem rl0 (l : List S42) (z : Int) (hl : l.length < 1000000000000) : ∀ (rs : List S42) (i : Nat) (k : Nat), l.drop i = rs → rs.length + 3 * l.length + 6 < k → (∀ m, 3 * l.length + 4 < m → (∀ r ∈ l, Ok r) → plenumref42_Check.l1 m l 0 = some z) → (∀ r ∈ l.take i, Ok r) →
    plenumref42_Check.l0 k l i = some (if allOk rs = true then z else 6)
  | [], i, k, h, hk, hz, hpre => by
    obtain ⟨k, rfl, hk⟩ := kof hk
    have := at_end h
    simp only [plenumref42_Check.l0]
    rw [if_neg (by omega), hz k (by simp at hk; omega) (by rwa [List.take_of_length_le this] at hpre)]
    simp [allOk]
  | r :: rs, i, k, h, hk, hz, hpre => by
    obtain ⟨k, rfl, hk⟩ := kof hk
    obtain ⟨h1, h2, h3⟩ := at_drop h
    have hw : wrap64 ((i : Int) + 1) = ((i + 1 : Nat) : Int) := by rw [w64 (by omega) (by omega)]; simp
    simp only [plenumref42_Check.l0, in_f, Option.bind_some]
    rw [if_pos (by omega), if_pos (by omega), h2, hw]
    simp only [allOk]
    by_cases c : Ok r
    · have ih := rl0 l z hl rs (i + 1) k h3 (by simp at hk; omega) hz (by
        intro q hq
        rw [List.take_succ_eq_append_getElem h1] at hq
        rcases List.mem_append.1 hq with hq | hq
        · exact hpre q hq
        · rw [List.mem_singleton] at hq
          rw [List.drop_eq_getElem_cons h1] at h
          injection h with e1 e2
          rw [hq, e1]
          exact c)
      obtain ⟨a1, a2, a3, a4, a5, a6⟩ := c
      rw [if_pos (by simp; omega), if_pos (by simp; omega), if_pos (by simp; omega), ih]
      simp [show Ok r from ⟨a1, a2, a3, a4, a5, a6⟩]
    · simp only [c, decide_false, Bool.false_and, Bool.false_eq_true, if_false, decide_eq_true_eq]
      unfold Ok at c
      (repeat' split) <;> first | rfl | (exfalso; omega)

theorem check_f {l : List S42} (hl : l.length < 1000000000000) {k : Nat} (hk : 4 * l.length + 7 < k) : collect_Check.f k l = some (ck l) := by
  unfold collect_Check.f ck
  have h := cl0 l (if clean 0 l = true then (if linked1 l = true then (if ris 0 l = true then 0 else 15) else 10) else 1) hl l 0 k rfl (by omega)
    (fun m hm hok => cl1 l hl hok _ l 0 m rfl (by omega) 0 (fun _ => rfl) (fun h => absurd h (by omega)) (fun n hn => linked_nil_ck2 l hl hok n hn)) (by simp)
  exact h
theorem rcheck_f {l : List S42} (hl : l.length < 1000000000000) {k : Nat} (hk : 4 * l.length + 7 < k) : plenumref42_Check.f k l = some (ck l) := by
  unfold plenumref42_Check.f ck
  have h := rl0 l (if clean 0 l = true then (if linked1 l = true then (if ris 0 l = true then 0 else 15) else 10) else 1) hl l 0 k rfl (by omega)
    (fun m hm hok => rl1 l hl hok _ l 0 m rfl (by omega) 0 (fun _ => rfl) (fun h => absurd h (by omega)) (fun n hn => linked_nil_rk2 l hl hok n hn)) (by simp)
  exact h
theorem ck_ok {l : List S42} (h : ck l = 0) : allOk l = true ∧ clean 0 l = true ∧ linked1 l = true ∧ ris 0 l = true := by
  unfold ck at h
  repeat' (split at h)
  all_goals first | exact ⟨by assumption, by assumption, by assumption, by assumption⟩ | omega
theorem clone_f (l : List S42) (hl : l.length < 1000000000000) : api_Record_32.f l = some l := by
  unfold api_Record_32.f
  simp only [Option.bind_some, List.length_nil, List.nil_append]
  rw [if_pos (by omega)]

set_option maxRecDepth 100000 in
theorem awake_100 : plenumlaw42_awake.f 100 = some true := by decide +kernel
theorem awake_f {k : Nat} (hk : 100 ≤ k) : plenumlaw42_awake.f k = some true := at_rounds (g := fun k => plenumlaw42_awake.f k) (fun k => plenumlaw42_awake.mono k) hk awake_100

theorem same_l0 (l : List S42) (hl : l.length < 1000000000000) : ∀ (rs : List S42) (i k : Nat), l.drop i = rs → rs.length < k → plenumref42_Same.l0 k l l i = some true
  | [], i, k, h, hk => by
    obtain ⟨k, rfl, _⟩ := kof hk
    have := at_end h
    simp only [plenumref42_Same.l0]
    rw [if_neg (by omega)]
  | r :: rs, i, k, h, hk => by
    obtain ⟨k, rfl, hk⟩ := kof hk
    obtain ⟨h1, h2, h3⟩ := at_drop h
    have hw : wrap64 ((i : Int) + 1) = ((i + 1 : Nat) : Int) := by rw [w64 (by omega) (by omega)]; simp
    simp only [plenumref42_Same.l0]
    rw [if_pos (by omega), if_pos (by omega), if_pos (by omega), h2, hw, if_neg (by simp)]
    exact same_l0 l hl rs (i + 1) k h3 (by simpa using hk)
theorem same_f {l : List S42} (hl : l.length < 1000000000000) {k : Nat} (hk : l.length < k) : plenumref42_Same.f k l l = some true := by
  unfold plenumref42_Same.f
  rw [if_pos rfl]
  exact same_l0 l hl l 0 k rfl hk
theorem small_l0 (l : List S42) (hl : l.length < 1000000000000) : ∀ (rs : List S42) (i k : Nat), l.drop i = rs → rs.length < k → ∃ b, plenumref42_Small.l0 k l i = some b
  | [], i, k, h, hk => by
    obtain ⟨k, rfl, _⟩ := kof hk
    have := at_end h
    simp only [plenumref42_Small.l0]
    rw [if_neg (by omega)]
    exact ⟨_, rfl⟩
  | r :: rs, i, k, h, hk => by
    obtain ⟨k, rfl, hk⟩ := kof hk
    obtain ⟨h1, h2, h3⟩ := at_drop h
    have hw : wrap64 ((i : Int) + 1) = ((i + 1 : Nat) : Int) := by rw [w64 (by omega) (by omega)]; simp
    have ih := small_l0 l hl rs (i + 1) k h3 (by simpa using hk)
    simp only [plenumref42_Small.l0]
    rw [if_pos (by omega), if_pos (by omega), h2, hw]
    (repeat' split) <;> first | exact ⟨_, rfl⟩ | exact ih
theorem small_f (l : List S42) (k : Nat) (hk : 50 ≤ k) : ∃ b, plenumref42_Small.f k l = some b ∧ (b = true → l.length ≤ 40) := by
  unfold plenumref42_Small.f
  by_cases c : (l.length : Int) > 40
  · rw [if_pos c]
    exact ⟨false, rfl, fun h => by cases h⟩
  · rw [if_neg c]
    obtain ⟨b, hb⟩ := small_l0 l (by omega) l 0 k rfl (by omega)
    exact ⟨b, hb, fun _ => by omega⟩

theorem idx_l0 (pf : S42 → Bool) (l : List S42) (hl : l.length < 1000000000000) : ∀ (rs : List S42) (i k : Nat), l.drop i = rs → rs.length < k → (∃ n : Nat, slices_IndexFunc_Rec.l0 pf k l l.length i = some (n : Int) ∧ i ≤ n ∧ n < l.length ∧ (∀ q ∈ rs.take (n - i), pf q = false) ∧ ∃ r rs', l.drop n = r :: rs' ∧ pf r = true) ∨ (slices_IndexFunc_Rec.l0 pf k l l.length i = some (-1) ∧ ∀ q ∈ rs, pf q = false)
  | [], i, k, h, hk => by
    obtain ⟨k, rfl, _⟩ := kof hk
    have := at_end h
    refine .inr ⟨?_, fun q hq => by cases hq⟩
    simp only [slices_IndexFunc_Rec.l0]
    rw [if_neg (by omega)]
  | r :: rs, i, k, h, hk => by
    obtain ⟨k, rfl, hk⟩ := kof hk
    obtain ⟨h1, h2, h3⟩ := at_drop h
    have hw : wrap64 ((i : Int) + 1) = ((i + 1 : Nat) : Int) := by rw [w64 (by omega) (by omega)]; simp
    have ih := idx_l0 pf l hl rs (i + 1) k h3 (by simpa using hk)
    simp only [slices_IndexFunc_Rec.l0]
    rw [if_pos (by omega), if_pos (by omega), if_pos (by omega), h2, hw]
    simp only [slices_IndexFunc_Rec.pd, Option.bind_some]
    by_cases c : pf r = true
    · rw [if_pos c]
      exact .inl ⟨i, rfl, Nat.le_refl _, h1, by simp, r, rs, h, c⟩
    · rw [if_neg c]
      rcases ih with ⟨n, e, n1, n2, n3, n4⟩ | ⟨e, n3⟩
      · refine .inl ⟨n, e, by omega, n2, ?_, n4⟩
        rw [show n - i = (n - (i + 1)) + 1 by omega]
        intro q hq
        rw [List.take_succ_cons] at hq
        rcases List.mem_cons.1 hq with rfl | hq
        · simpa using c
        · exact n3 q hq
      · refine .inr ⟨e, fun q hq => ?_⟩
        rcases List.mem_cons.1 hq with rfl | hq
        · simpa using c
        · exact n3 q hq
theorem del_l0 (pf : S42 → Bool) : ∀ (rs xs : List S42) (i j k : Nat), xs.length < 1000000000000 → xs.drop j = rs → i < j → j ≤ xs.length → rs.length < k → slices_DeleteFunc_Rec.l0 pf k xs i j = some (xs.take i ++ rs.filter (fun x => !pf x))
  | [], xs, i, j, k, hl, h, hij, hj, hk => by
    obtain ⟨k, rfl, _⟩ := kof hk
    have := at_end h
    simp only [slices_DeleteFunc_Rec.l0]
    rw [if_neg (by omega), if_pos (by omega), if_pos (by omega)]
    simp
  | r :: rs, xs, i, j, k, hl, h, hij, hj, hk => by
    obtain ⟨k, rfl, hk⟩ := kof hk
    obtain ⟨h1, h2, h3⟩ := at_drop h
    have hw : wrap64 ((j : Int) + 1) = ((j + 1 : Nat) : Int) := by rw [w64 (by omega) (by omega)]; simp
    have hwi : wrap64 ((i : Int) + 1) = ((i + 1 : Nat) : Int) := by rw [w64 (by omega) (by omega)]; simp
    simp only [slices_DeleteFunc_Rec.l0]
    rw [if_pos (by omega), if_pos (by omega), h2, hw, hwi]
    simp only [slices_IndexFunc_Rec.pd, Option.bind_some]
    by_cases c : pf r = true
    · rw [if_pos c, del_l0 pf rs xs i (j + 1) k hl h3 (by omega) (by omega) (by simpa using hk)]
      simp [c]
    · rw [if_neg c, if_pos (by omega), if_pos (by omega), Int.toNat_natCast]
      have hd : (xs.set i r).drop (j + 1) = rs := by rw [List.drop_set_of_lt (by omega), h3]
      rw [del_l0 pf rs (xs.set i r) (i + 1) (j + 1) k (by simpa using hl) hd (by omega) (by rw [List.length_set]; omega) (by simpa using hk)]
      have ht : (xs.set i r).take (i + 1) = xs.take i ++ [r] := by
        rw [List.take_succ_eq_append_getElem (by simp; omega), List.take_set_of_le (Nat.le_refl _)]
        simp
      rw [ht]
      simp [c]
theorem filter_take_all (pf : S42 → Bool) : ∀ (l : List S42), (∀ q ∈ l, pf q = false) → l.filter (fun x => !pf x) = l
  | [], _ => rfl
  | a :: l, h => by
    rw [List.filter_cons_of_pos (by simp [h a List.mem_cons_self]), filter_take_all pf l (fun q hq => h q (List.mem_cons_of_mem _ hq))]
theorem del_f (pf : S42 → Bool) (l : List S42) (hl : l.length < 1000000000) (k : Nat) (hk : l.length < k) : slices_DeleteFunc_Rec.f pf k l = some (l.filter (fun x => !pf x)) := by
  unfold slices_DeleteFunc_Rec.f slices_IndexFunc_Rec.f
  rcases idx_l0 pf l (by omega) l 0 k rfl hk with ⟨n, e, n1, n2, n3, r, rs, n4, n5⟩ | ⟨e, n3⟩
  · rw [show ((0 : Nat) : Int) = 0 from rfl] at e
    rw [e]
    simp only [Option.bind_some]
    have hw : wrap64 ((n : Int) + 1) = ((n + 1 : Nat) : Int) := by rw [w64 (by omega) (by omega)]; simp
    obtain ⟨h1, h2, h3⟩ := at_drop n4
    rw [if_neg (by omega), hw, del_l0 pf rs l n (n + 1) k (by omega) h3 (by omega) (by omega) (by have := congrArg List.length h3; simp at this; omega)]
    congr 1
    conv => rhs; rw [← List.take_append_drop n l, List.filter_append, n4]
    rw [filter_take_all pf (l.take n) (by simpa using n3)]
    simp [n5]
  · rw [show ((0 : Nat) : Int) = 0 from rfl] at e
    rw [e]
    simp only [Option.bind_some, if_true]
    rw [filter_take_all pf l n3]
theorem in_f2 (a b c : Int) : plenumref42_in.f a b c = some (decide (b ≤ a ∧ a ≤ c)) := in_f a b c
theorem rbet_l0 (l : List S42) (hl : l.length < 1000000000) (lo hi : Int) (hok : ∀ r ∈ l, Ok r) : ∀ (rs : List S42) (i k : Nat) (out : List S42), l.drop i = rs → out.length ≤ i → rs.length < k → plenumref42_Between.l0 k l lo hi out i = some (out ++ rs.filter (fun x => !collect_Between_1.p lo hi x))
  | [], i, k, out, h, ho, hk => by
    obtain ⟨k, rfl, _⟩ := kof hk
    have := at_end h
    simp only [plenumref42_Between.l0]
    rw [if_neg (by omega)]
    simp
  | r :: rs, i, k, out, h, ho, hk => by
    obtain ⟨k, rfl, hk⟩ := kof hk
    obtain ⟨h1, h2, h3⟩ := at_drop h
    have hr : Ok r := hok r (List.mem_of_mem_drop (by rw [h]; exact List.mem_cons_self))
    have h4 := hr.2.2.1
    have hw : wrap64 ((i : Int) + 1) = ((i + 1 : Nat) : Int) := by rw [w64 (by omega) (by omega)]; simp
    have ih := fun out ho => rbet_l0 l hl lo hi hok rs (i + 1) k out h3 ho (by simpa using hk)
    simp only [plenumref42_Between.l0]
    rw [if_pos (by omega), if_pos (by omega), h2, hw, in_f2]
    simp only [Option.bind_some, decide_eq_true_eq]
    by_cases c : r.f4 = 0
    · rw [if_pos c]
      by_cases d : lo ≤ r.f1 ∧ r.f1 ≤ hi
      · have hp : collect_Between_1.p lo hi r = false := by
          unfold collect_Between_1.p
          simp
          omega
        rw [if_pos d, if_pos (by omega), ih _ (by simp; omega), List.filter_cons_of_pos (by simp [hp])]
        simp
      · have hp : collect_Between_1.p lo hi r = true := by
          unfold collect_Between_1.p
          simp
          omega
        rw [if_neg d, ih _ (by omega), List.filter_cons_of_neg (by simp [hp])]
    · have hp : collect_Between_1.p lo hi r = true := by
        unfold collect_Between_1.p
        simp
        omega
      rw [if_neg c, ih _ (by omega), List.filter_cons_of_neg (by simp [hp])]
theorem at_l0 (l : List S42) (hl : l.length < 1000000000) (a : Int) : ∀ (rs : List S42) (i k m : Nat) (x7 : Int), l.drop i = rs → -1 ≤ x7 → x7 < l.length → rs.length < k → rs.length < m → ∃ v, collect_At.l0 k l a x7 l l.length i = some v ∧ plenumref42_At.l0 m l a x7 i = some v
  | [], i, k, m, x7, h, h0, h1, hk, hm => by
    obtain ⟨k, rfl, _⟩ := kof hk
    obtain ⟨m, rfl, _⟩ := kof hm
    have := at_end h
    have e1 : ¬ ((i : Int) < (l.length : Int)) := by omega
    have e2 : wrap64 (x7 + 1) = x7 + 1 := w64 (by omega) (by omega)
    simp only [collect_At.l0, plenumref42_At.l0, e1, if_false, e2]
    by_cases c : x7 < 0
    · simp only [c, if_true]
      exact ⟨_, rfl, rfl⟩
    · have e3 : (0 : Int) ≤ x7 + 1 := by omega
      have e4 : (0 : Int) ≤ x7 := by omega
      simp only [c, if_false, e3, e4, h1, if_true]
      by_cases d : x7 + 1 < (l.length : Int)
      · simp only [d, if_true]
        by_cases e : (rd_T42 l (x7 + 1)).f4 > 0
        · simp only [e, if_true]
          exact ⟨_, rfl, rfl⟩
        · simp only [e, if_false]
          exact ⟨_, rfl, rfl⟩
      · simp only [d, if_false]
        exact ⟨_, rfl, rfl⟩
  | r :: rs, i, k, m, x7, h, h0, h1, hk, hm => by
    obtain ⟨k, rfl, hk⟩ := kof hk
    obtain ⟨m, rfl, hm⟩ := kof hm
    obtain ⟨g1, g2, g3⟩ := at_drop h
    have hw : wrap64 ((i : Int) + 1) = ((i + 1 : Nat) : Int) := by rw [w64 (by omega) (by omega)]; simp
    have ih := fun x7 h0 h1 => at_l0 l hl a rs (i + 1) k m x7 g3 h0 h1 (by simpa using hk) (by simpa using hm)
    have e1 : ((i : Int) < (l.length : Int)) := by omega
    have e2 : ((0 : Int) ≤ (i : Int)) := by omega
    simp only [collect_At.l0, plenumref42_At.l0, e1, e2, if_true, g2, hw]
    by_cases c : r.f4 = 0
    · simp only [c, if_true]
      by_cases d : r.f1 ≤ a
      · simp only [d, if_true]
        exact ih _ (by omega) (by omega)
      · simp only [d, if_false]
        exact ih _ h0 h1
    · simp only [c, if_false]
      exact ih _ h0 h1
theorem CollectValues (l : List S42) (lo hi : Int) (k : Nat) (hk : 2000 ≤ k) : plenumlaw42_CollectValues.f k l lo hi = some true := by
  unfold plenumlaw42_CollectValues.f
  rw [awake_f (by omega)]
  simp only [Option.bind_some, if_true]
  obtain ⟨b, hb, hb2⟩ := small_f l k (by omega)
  rw [hb]
  simp only [Option.bind_some]
  obtain ⟨k, rfl, hk⟩ := kof (n := 1999) (k := k) (by omega)
  cases b with
  | false =>
    rw [if_neg (by decide)]
    simp [plenumlaw42_CollectValues.j0]
  | true =>
    have hl := hb2 rfl
    rw [if_pos rfl, rcheck_f (by omega) (by omega)]
    simp only [Option.bind_some]
    by_cases c : ck l = 0
    · rw [c]
      simp only [plenumlaw42_CollectValues.j0]
      rw [if_neg (by decide)]
      unfold collect_Between.f collect_At.f plenumref42_At.f plenumref42_Between.f
      rw [check_f (by omega) (by omega), c]
      simp only [Option.bind_some, if_true]
      rw [clone_f l (by omega)]
      simp only [Option.bind_some]
      rw [del_f _ l (by omega) k (by omega)]
      simp only [Option.bind_some]
      obtain ⟨v, v1, v2⟩ := at_l0 l (by omega) lo l 0 k k (-1) rfl (by omega) (by omega) (by omega) (by omega)
      rw [show ((0 : Nat) : Int) = 0 from rfl] at v1 v2
      rw [v1, v2]
      simp only [Option.bind_some]
      have hbt := rbet_l0 l (by omega) lo hi (fun r hr => (allOk_mem (ck_ok c).1 r hr)) l 0 k [] rfl (by simp) (by omega)
      rw [show ((0 : Nat) : Int) = 0 from rfl] at hbt
      rw [hbt]
      simp only [Option.bind_some, List.nil_append, if_true]
      have hlf : (l.filter (fun x => !collect_Between_1.p lo hi x)).length ≤ l.length := List.length_filter_le _ _
      rw [same_f (by omega) (by omega)]
      simp
    · simp only [plenumlaw42_CollectValues.j0]
      rw [if_pos (by simp [c])]

end Go.Proofs.Yteclemahimldeaa.PTV
