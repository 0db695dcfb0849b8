/- What the printed functions of package collect and of its reference come to, over lists: checks, late/Rising, put/add. -/
import Derived.Test.YteclemahimldeaaQx11
import Derived.Test.YteclemahimldeaaQx9
import Derived.Test.YteclemahimldeaaQx6
set_option linter.unusedVariables false
set_option linter.unusedSimpArgs false
namespace Go.Proofs.Yteclemahimldeaa.PT
open Go.RowKit Go.Proofs.Yteclemahimldeaa.Q Go.Proofs.YteclemahimldeaaW.PrintWords Go.Proofs.YteclemahimldeaaW.PrintLast Go.Proofs.YteclemahimldeaaW.PrintMore

theorem w64 {x : Int} (h1 : -9223372036854775808 ≤ x) (h2 : x ≤ 9223372036854775807) : wrap64 x = x := by
  unfold wrap64
  omega
theorem kof {k n : Nat} (h : n < k) : ∃ k', k = k' + 1 ∧ n ≤ k' := ⟨k - 1, by omega, by omega⟩

/-- The rest of a list from place i on: its first element is that of the place. -/
theorem at_drop {l rs : List S42} {r : S42} {i : Nat} (h : l.drop i = r :: rs) : i < l.length ∧ rd_T42 l (i : Int) = r ∧ l.drop (i + 1) = rs := by
  have hi : i < l.length := by
    rcases Nat.lt_or_ge i l.length with h1 | h1
    · exact h1
    · rw [List.drop_eq_nil_of_le h1] at h
      cases h
  rw [List.drop_eq_getElem_cons hi] at h
  injection h with h1 h2
  refine ⟨hi, ?_, h2⟩
  unfold rd_T42
  rw [Int.toNat_natCast, List.getD_eq_getElem?_getD, List.getElem?_eq_getElem hi, h1]
  rfl
theorem at_end {l : List S42} {i : Nat} (h : l.drop i = []) : l.length ≤ i := by simpa using h

/-- A record whose numbers are whole and not too great. -/
def Ok (r : S42) : Prop := 1 ≤ r.f0 ∧ r.f0 ≤ 1000000000 ∧ 0 ≤ r.f4 ∧ r.f4 ≤ r.f0 ∧ 0 ≤ r.f1 ∧ r.f1 ≤ 6311433599
instance (r : S42) : Decidable (Ok r) := by unfold Ok; infer_instance
def allOk : List S42 → Bool
  | [] => true
  | r :: rs => decide (Ok r) && allOk rs
theorem allOk_mem : ∀ {l : List S42}, allOk l = true → ∀ r ∈ l, Ok r
  | [], _, r, h => by cases h
  | a :: l, h, r, hr => by
    simp only [allOk, Bool.and_eq_true, decide_eq_true_eq] at h
    rcases List.mem_cons.1 hr with rfl | hr
    · exact h.1
    · exact allOk_mem h.2 r hr
/-- A gap that says something besides, or that stands behind a gap. -/
def dirty (p : Int) (r : S42) : Prop := 0 < r.f4 ∧ (r.f1 ≠ 0 ∨ r.f2.f0 ≠ 0 ∨ r.f2.f1 ≠ 0 ∨ r.f3 ≠ 0 ∨ 0 < p)
instance (p : Int) (r : S42) : Decidable (dirty p r) := by unfold dirty; infer_instance
def clean : Int → List S42 → Bool
  | _, [] => true
  | p, r :: rs => !decide (dirty p r) && clean r.f4 rs
theorem clean_mem : ∀ {l : List S42} {p : Int}, clean p l = true → ∀ r ∈ l, 0 < r.f4 → r.f1 = 0 ∧ r.f2.f0 = 0 ∧ r.f2.f1 = 0 ∧ r.f3 = 0
  | [], _, _, r, h => by cases h
  | a :: l, p, h, r, hr => by
    simp only [clean, Bool.and_eq_true, Bool.not_eq_true', decide_eq_false_iff_not] at h
    rcases List.mem_cons.1 hr with rfl | hr
    · intro h4
      have := h.1
      unfold dirty at this
      refine ⟨?_, ?_, ?_, ?_⟩ <;> apply Classical.byContradiction <;> intro hne <;> exact this ⟨h4, by simp [hne]⟩
    · exact clean_mem h.2 r hr
/-- The least number that a record stands for. -/
def fst (r : S42) : Int := if 0 < r.f4 then r.f0 - r.f4 + 1 else r.f0
def linked : Int → List S42 → Bool
  | _, [] => true
  | p, r :: rs => decide (fst r = p + 1) && linked r.f0 rs
def linked1 : List S42 → Bool
  | [] => true
  | r :: rs => linked r.f0 rs
def ris : Int → List S42 → Bool
  | _, [] => true
  | a, r :: rs => if r.f4 = 0 then (if r.f1 < a then false else ris r.f1 rs) else ris a rs
def ck (l : List S42) : Int := if allOk l = true then (if clean 0 l = true then (if linked1 l = true then (if ris 0 l = true then 0 else 15) else 10) else 1) else 6

/-! ### late, Rising -/
theorem ris_l0 (l : List S42) (hl : l.length < 1000000000000) : ∀ (rs : List S42) (i : Nat) (a : Int) (k : Nat), l.drop i = rs → rs.length < k → plenumref42_Rising.l0 k l a i = some (ris a rs)
  | [], i, a, k, h, hk => by
    obtain ⟨k, rfl, _⟩ := kof hk
    have := at_end h
    simp only [plenumref42_Rising.l0]
    rw [if_neg (by omega)]
    rfl
  | r :: rs, i, a, k, h, hk => by
    obtain ⟨k, rfl, hk⟩ := kof hk
    obtain ⟨h1, h2, h3⟩ := at_drop h
    have ih := fun a => ris_l0 l hl rs (i + 1) a k h3 (by simpa using hk)
    simp only [plenumref42_Rising.l0]
    rw [if_pos (by omega), if_pos (by omega), h2, w64 (by omega) (by omega), show (i : Int) + 1 = ((i + 1 : Nat) : Int) by simp, ih, ih]
    rw [ris]
    by_cases c : r.f4 = 0
    · rw [if_pos c, if_pos c]
      by_cases d : r.f1 < a
      · rw [if_pos d, if_pos d]
      · rw [if_neg d, if_neg d]
    · rw [if_neg c, if_neg c]
theorem ris_f {l : List S42} (hl : l.length < 1000000000000) {k : Nat} (hk : l.length < k) : plenumref42_Rising.f k l = some (ris 0 l) := ris_l0 l hl l 0 0 k rfl hk
theorem late_l0 (l : List S42) (hl : l.length < 1000000000000) : ∀ (rs : List S42) (i : Nat) (a : Int) (k : Nat), l.drop i = rs → rs.length < k → ∃ v, collect_late.l0 k a l l.length i = some v ∧ (v ≥ 0 ↔ ris a rs = false)
  | [], i, a, k, h, hk => by
    obtain ⟨k, rfl, _⟩ := kof hk
    have := at_end h
    refine ⟨-1, ?_, by simp [ris]⟩
    simp only [collect_late.l0]
    rw [if_neg (by omega)]
  | r :: rs, i, a, k, h, hk => by
    obtain ⟨k, rfl, hk⟩ := kof hk
    obtain ⟨h1, h2, h3⟩ := at_drop h
    have ih := fun a => late_l0 l hl rs (i + 1) a k h3 (by simpa using hk)
    simp only [collect_late.l0]
    rw [if_pos (by omega), if_pos (by omega), if_pos (by omega), h2, w64 (by omega) (by omega), show (i : Int) + 1 = ((i + 1 : Nat) : Int) by simp]
    unfold ris
    by_cases c : r.f4 = 0
    · rw [if_pos c, if_pos c]
      by_cases d : r.f1 < a
      · rw [if_pos d, if_pos d]
        exact ⟨_, rfl, by simp⟩
      · rw [if_neg d, if_neg d]
        exact ih _
    · rw [if_neg c, if_neg c]
      exact ih _
theorem late_f {l : List S42} (hl : l.length < 1000000000000) {k : Nat} (hk : l.length < k) : ∃ v, collect_late.f k l = some v ∧ (v ≥ 0 ↔ ris 0 l = false) := late_l0 l hl l 0 0 k rfl hk

/-! ### Check -/
theorem mx1 {g : Int} (h : 0 ≤ g) : mx g 1 = if 0 < g then g else 1 := by
  unfold mx
  (repeat' split) <;> omega
theorem least_f (r : S42) (h : Ok r) : collect_least.f r.f0 r.f1 r.f2.f0 r.f2.f1 r.f3 r.f4 = some (fst r) := by
  obtain ⟨h1, h2, h3, h4, h5, h6⟩ := h
  unfold collect_least.f fst
  rw [mx1 h3]
  split
  · rw [w64 (x := r.f0 - r.f4) (by omega) (by omega), w64 (by omega) (by omega)]
  · rw [w64 (x := r.f0 - 1) (by omega) (by omega), w64 (by omega) (by omega)]
    congr 1
    omega
theorem first_f (r : S42) (h : Ok r) : plenumref42_First.f r.f0 r.f1 r.f2.f0 r.f2.f1 r.f3 r.f4 = some (fst r) := by
  obtain ⟨h1, h2, h3, h4, h5, h6⟩ := h
  unfold plenumref42_First.f fst
  by_cases c : 0 < r.f4
  · rw [if_pos c, if_pos c, w64 (x := r.f0 - r.f4) (by omega) (by omega), w64 (by omega) (by omega)]
  · rw [if_neg c, if_neg c]

theorem cl2 (l : List S42) (hl : l.length < 1000000000000) (hok : ∀ r ∈ l, Ok r) : ∀ (rs : List S42) (i : Nat) (k : Nat), 1 ≤ i → l.drop i = rs → rs.length + l.length + 1 < k → ∀ p, rd_T42 l ((i : Int) - 1) = p → (i ≤ l.length → Ok p) →
    collect_Check.l2 k l i = some (if linked p.f0 rs = true then (if ris 0 l = true then 0 else 15) else 10)
  | [], i, k, h0, h, hk, p, hp, hpo => by
    obtain ⟨k, rfl, hk⟩ := kof hk
    have := at_end h
    simp only [collect_Check.l2]
    rw [if_neg (by omega)]
    obtain ⟨v, hv, hv2⟩ := late_f (l := l) hl (k := k) (by simp at hk; omega)
    rw [hv]
    simp only [Option.bind_some, linked, if_true]
    by_cases c : v ≥ 0
    · rw [if_pos c, if_neg (by rw [hv2.1 c]; simp)]
    · rw [if_neg c, if_pos (by cases e : ris 0 l <;> simp_all)]
  | r :: rs, i, k, h0, h, hk, p, hp, hpo => by
    obtain ⟨k, rfl, hk⟩ := kof hk
    obtain ⟨h1, h2, h3⟩ := at_drop h
    have hr : Ok r := hok r (List.mem_of_mem_drop (by rw [h]; exact List.mem_cons_self))
    have hp2 := hpo (by omega)
    have ih := cl2 l hl hok rs (i + 1) k (by omega) h3 (by simp at hk; omega) r (by rw [← h2]; congr 1; omega) (fun _ => hr)
    simp only [collect_Check.l2]
    rw [if_pos (by omega), if_pos (by omega), h2, least_f r hr]
    simp only [Option.bind_some]
    rw [w64 (x := (i : Int) - 1) (by omega) (by omega), if_pos (by omega), if_pos (by omega), hp, w64 (x := p.f0 + 1) (by have := hp2.1; omega) (by have := hp2.2.1; omega), w64 (x := (i : Int) + 1) (by omega) (by omega), show (i : Int) + 1 = ((i + 1 : Nat) : Int) by simp, ih]
    simp only [linked]
    by_cases c : fst r = p.f0 + 1
    · rw [if_pos c]
      simp [c]
    · rw [if_neg c]
      simp [c]
theorem rl2 (l : List S42) (hl : l.length < 1000000000000) (hok : ∀ r ∈ l, Ok r) : ∀ (rs : List S42) (i : Nat) (k : Nat), 1 ≤ i → l.drop i = rs → rs.length + l.length + 1 < k → ∀ p, rd_T42 l ((i : Int) - 1) = p → (i ≤ l.length → Ok p) →
    plenumref42_Check.l2 k l i = some (if linked p.f0 rs = true then (if ris 0 l = true then 0 else 15) else 10)
  | [], i, k, h0, h, hk, p, hp, hpo => by
    obtain ⟨k, rfl, hk⟩ := kof hk
    have := at_end h
    simp only [plenumref42_Check.l2]
    rw [if_neg (by omega), ris_f hl (by simp at hk; omega)]
    simp only [Option.bind_some, linked, if_true]
    split <;> rfl
  | r :: rs, i, k, h0, h, hk, p, hp, hpo => by
    obtain ⟨k, rfl, hk⟩ := kof hk
    obtain ⟨h1, h2, h3⟩ := at_drop h
    have hr : Ok r := hok r (List.mem_of_mem_drop (by rw [h]; exact List.mem_cons_self))
    have hp2 := hpo (by omega)
    have ih := rl2 l hl hok rs (i + 1) k (by omega) h3 (by simp at hk; omega) r (by rw [← h2]; congr 1; omega) (fun _ => hr)
    simp only [plenumref42_Check.l2]
    rw [if_pos (by omega), if_pos (by omega), h2, first_f r hr]
    simp only [Option.bind_some]
    rw [w64 (x := (i : Int) - 1) (by omega) (by omega), if_pos (by omega), if_pos (by omega), hp, w64 (x := p.f0 + 1) (by have := hp2.1; omega) (by have := hp2.2.1; omega), w64 (x := (i : Int) + 1) (by omega) (by omega), show (i : Int) + 1 = ((i + 1 : Nat) : Int) by simp, ih]
    simp only [linked]
    by_cases c : fst r = p.f0 + 1
    · rw [if_pos c]
      simp [c]
    · rw [if_neg c]
      simp [c]

/-- The third part of the checks, from the place 1 on. -/
theorem link1 (l : List S42) (k : Nat) (f : Nat → List S42 → Int → Option Int) (hok : ∀ r ∈ l, Ok r)
    (h0 : l = [] → f k l 1 = some (if ris 0 l = true then 0 else 15))
    (h : ∀ rs i, 1 ≤ i → l.drop i = rs → ∀ p, rd_T42 l ((i : Int) - 1) = p → (i ≤ l.length → Ok p) → rs.length ≤ l.length → f k l (i : Nat) = some (if linked p.f0 rs = true then (if ris 0 l = true then 0 else 15) else 10)) :
    f k l 1 = some (if linked1 l = true then (if ris 0 l = true then 0 else 15) else 10) := by
  cases l with
  | nil =>
    rw [h0 rfl]
    simp [linked1]
  | cons a l =>
    have := h l 1 (by omega) rfl a rfl (fun _ => hok a List.mem_cons_self) (by simp)
    rw [show (1 : Int) = ((1 : Nat) : Int) from rfl, this]
    rfl
theorem linked_nil_ck2 (l : List S42) (hl : l.length < 1000000000000) (hok : ∀ r ∈ l, Ok r) (k : Nat) (hk : 2 * l.length + 2 < k) : collect_Check.l2 k l 1 = some (if linked1 l = true then (if ris 0 l = true then 0 else 15) else 10) := by
  refine link1 l k collect_Check.l2 hok ?_ ?_
  · rintro rfl
    obtain ⟨k, rfl, hk⟩ := kof hk
    obtain ⟨v, hv, hv2⟩ := late_f (l := []) (by simp) (k := k) (by simp at *; omega)
    simp only [collect_Check.l2]
    rw [if_neg (by simp), hv]
    simp only [Option.bind_some]
    by_cases c : v ≥ 0
    · rw [if_pos c, if_neg (by rw [hv2.1 c]; simp)]
    · rw [if_neg c, if_pos (by cases e : ris 0 [] <;> simp_all)]
  · intro rs i hi hd p hp hpo hle
    exact cl2 l hl hok rs i k hi hd (by omega) p hp hpo
theorem linked_nil_rk2 (l : List S42) (hl : l.length < 1000000000000) (hok : ∀ r ∈ l, Ok r) (k : Nat) (hk : 2 * l.length + 2 < k) : plenumref42_Check.l2 k l 1 = some (if linked1 l = true then (if ris 0 l = true then 0 else 15) else 10) := by
  refine link1 l k plenumref42_Check.l2 hok ?_ ?_
  · rintro rfl
    obtain ⟨k, rfl, hk⟩ := kof hk
    simp only [plenumref42_Check.l2]
    rw [if_neg (by simp), ris_f (l := []) (by simp) (by simp at *; omega)]
    simp only [Option.bind_some]
    split <;> rfl
  · intro rs i hi hd p hp hpo hle
    exact rl2 l hl hok rs i k hi hd (by omega) p hp hpo

theorem bools (a b : Int) : ((!(a == 0) || (!(b == 0))) = true) ↔ (a ≠ 0 ∨ b ≠ 0) := by simp
theorem cl1 (l : List S42) (hl : l.length < 1000000000000) (hok : ∀ r ∈ l, Ok r) (z : Int) : ∀ (rs : List S42) (i : Nat) (k : Nat), l.drop i = rs → rs.length + 2 * l.length + 4 < k → ∀ p : Int, (i = 0 → p = 0) → (0 < i → p = (rd_T42 l ((i : Int) - 1)).f4) → (∀ m, 2 * l.length + 2 < m → collect_Check.l2 m l 1 = some z) →
    collect_Check.l1 k l l l.length i = some (if clean p rs = true then z else 1)
  | [], i, k, h, hk, p, hp0, hp1, hz => by
    obtain ⟨k, rfl, hk⟩ := kof hk
    have := at_end h
    simp only [collect_Check.l1]
    rw [if_neg (by omega), hz k (by simp at hk; omega)]
    simp [clean]
  | r :: rs, i, k, h, hk, p, hp0, hp1, hz => by
    obtain ⟨k, rfl, hk⟩ := kof hk
    obtain ⟨h1, h2, h3⟩ := at_drop h
    have hr : Ok r := hok r (List.mem_of_mem_drop (by rw [h]; exact List.mem_cons_self))
    have ih := cl1 l hl hok z rs (i + 1) k h3 (by simp at hk; omega) r.f4 (by omega) (fun _ => by rw [← h2]; congr 2; omega) hz
    have hw : wrap64 ((i : Int) + 1) = ((i + 1 : Nat) : Int) := by rw [w64 (by omega) (by omega)]; simp
    have hg := hr.2.2.1
    simp only [collect_Check.l1]
    rw [if_pos (by omega), if_pos (by omega), if_pos (by omega), h2, hw, ih]
    simp only [clean]
    by_cases c : r.f4 = 0
    · rw [if_pos c]
      have : ¬ dirty p r := fun hd => by have := hd.1; omega
      simp [this]
    · rw [if_neg c]
      by_cases c1 : r.f1 = 0
      · rw [if_pos c1]
        by_cases c2 : r.f2.f0 ≠ 0 ∨ r.f2.f1 ≠ 0
        · rw [if_pos ((bools _ _).2 c2)]
          have : dirty p r := ⟨by omega, by rcases c2 with c2 | c2 <;> simp [c2]⟩
          simp [this]
        · rw [if_neg (fun e => c2 ((bools _ _).1 e))]
          by_cases c3 : r.f3 = 0
          · rw [if_pos c3]
            by_cases ci : i = 0
            · rw [if_neg (by omega)]
              have : ¬ dirty p r := fun hd => by
                have := hp0 ci
                rcases hd.2 with e | e | e | e | e
                · exact e c1
                · exact c2 (.inl e)
                · exact c2 (.inr e)
                · exact e c3
                · omega
              simp [this]
            · have hpp := hp1 (by omega)
              have hpo : Ok (rd_T42 l ((i : Int) - 1)) := by
                have hh : i - 1 < l.length := by omega
                have : rd_T42 l ((i : Int) - 1) = l[i - 1] := by
                  unfold rd_T42
                  rw [show ((i : Int) - 1).toNat = i - 1 by omega, List.getD_eq_getElem?_getD, List.getElem?_eq_getElem hh]
                  rfl
                rw [this]
                exact hok _ (List.getElem_mem hh)
              rw [if_pos (by omega), w64 (by omega) (by omega), if_pos (by omega), if_pos (by omega), ← hpp]
              have hp4 := hpo.2.2.1
              by_cases cp : p = 0
              · rw [if_pos cp]
                have : ¬ dirty p r := fun hd => by
                  rcases hd.2 with e | e | e | e | e
                  · exact e c1
                  · exact c2 (.inl e)
                  · exact c2 (.inr e)
                  · exact e c3
                  · omega
                simp [this]
              · rw [if_neg cp]
                have : dirty p r := ⟨by omega, .inr (.inr (.inr (.inr (by omega))))⟩
                simp [this]
          · rw [if_neg c3]
            have : dirty p r := ⟨by omega, by simp [c3]⟩
            simp [this]
      · rw [if_neg c1]
        have : dirty p r := ⟨by omega, by simp [c1]⟩
        simp [this]
theorem rl1 (l : List S42) (hl : l.length < 1000000000000) (hok : ∀ r ∈ l, Ok r) (z : Int) : ∀ (rs : List S42) (i : Nat) (k : Nat), l.drop i = rs → rs.length + 2 * l.length + 4 < k → ∀ p : Int, (i = 0 → p = 0) → (0 < i → p = (rd_T42 l ((i : Int) - 1)).f4) → (∀ m, 2 * l.length + 2 < m → plenumref42_Check.l2 m l 1 = some z) →
    plenumref42_Check.l1 k l i = some (if clean p rs = true then z else 1)
  | [], i, k, h, hk, p, hp0, hp1, hz => by
    obtain ⟨k, rfl, hk⟩ := kof hk
    have := at_end h
    simp only [plenumref42_Check.l1]
    rw [if_neg (by omega), hz k (by simp at hk; omega)]
    simp [clean]
  | r :: rs, i, k, h, hk, p, hp0, hp1, hz => by
    obtain ⟨k, rfl, hk⟩ := kof hk
    obtain ⟨h1, h2, h3⟩ := at_drop h
    have hr : Ok r := hok r (List.mem_of_mem_drop (by rw [h]; exact List.mem_cons_self))
    have ih := rl1 l hl hok z rs (i + 1) k h3 (by simp at hk; omega) r.f4 (by omega) (fun _ => by rw [← h2]; congr 2; omega) hz
    have hw : wrap64 ((i : Int) + 1) = ((i + 1 : Nat) : Int) := by rw [w64 (by omega) (by omega)]; simp
    have hg := hr.2.2.1
    simp only [plenumref42_Check.l1]
    rw [if_pos (by omega), if_pos (by omega), h2, hw, ih]
    simp only [clean]
    by_cases c : r.f4 > 0
    · rw [if_pos c]
      by_cases c1 : r.f1 = 0
      · rw [if_pos c1]
        by_cases c2 : r.f2.f0 ≠ 0 ∨ r.f2.f1 ≠ 0
        · rw [if_pos ((bools _ _).2 c2)]
          have : dirty p r := ⟨by omega, by rcases c2 with c2 | c2 <;> simp [c2]⟩
          simp [this]
        · rw [if_neg (fun e => c2 ((bools _ _).1 e))]
          by_cases c3 : r.f3 = 0
          · rw [if_pos c3]
            by_cases ci : i = 0
            · rw [if_neg (by omega)]
              have : ¬ dirty p r := fun hd => by
                have := hp0 ci
                rcases hd.2 with e | e | e | e | e
                · exact e c1
                · exact c2 (.inl e)
                · exact c2 (.inr e)
                · exact e c3
                · omega
              simp [this]
            · have hpp := hp1 (by omega)
              rw [if_pos (by omega), w64 (by omega) (by omega), if_pos (by omega), if_pos (by omega), ← hpp]
              by_cases cp : p > 0
              · rw [if_pos cp]
                have : dirty p r := ⟨by omega, .inr (.inr (.inr (.inr (by omega))))⟩
                simp [this]
              · rw [if_neg cp]
                have : ¬ dirty p r := fun hd => by
                  rcases hd.2 with e | e | e | e | e
                  · exact e c1
                  · exact c2 (.inl e)
                  · exact c2 (.inr e)
                  · exact e c3
                  · omega
                simp [this]
          · rw [if_neg c3]
            have : dirty p r := ⟨by omega, by simp [c3]⟩
            simp [this]
      · rw [if_neg c1]
        have : dirty p r := ⟨by omega, by simp [c1]⟩
        simp [this]
    · rw [if_neg c]
      have : ¬ dirty p r := fun hd => by have := hd.1; omega
      simp [this]
theorem in_f (a b c : Int) : plenumref42_in.f a b c = some (decide (b ≤ a ∧ a ≤ c)) := by
  unfold plenumref42_in.f
  by_cases h : a ≥ b
  · rw [if_pos h]
    simp [h]
  · rw [if_neg h]
    simp [show ¬ b ≤ a by omega]
theorem cl0 (l : List S42) (z : Int) (hl : l.length < 1000000000000) : ∀ (rs : List S42) (i : Nat) (k : Nat), l.drop i = rs → rs.length + 3 * l.length + 6 < k → (∀ m, 3 * l.length + 4 < m → (∀ r ∈ l, Ok r) → collect_Check.l1 m l l l.length 0 = some z) → (∀ r ∈ l.take i, Ok r) →
    collect_Check.l0 k l l l.length i = some (if allOk rs = true then z else 6)
  | [], i, k, h, hk, hz, hpre => by
    obtain ⟨k, rfl, hk⟩ := kof hk
    have := at_end h
    simp only [collect_Check.l0]
    rw [if_neg (by omega), hz k (by simp at hk; omega) (by rwa [List.take_of_length_le this] at hpre)]
    simp [allOk]
  | r :: rs, i, k, h, hk, hz, hpre => by
    obtain ⟨k, rfl, hk⟩ := kof hk
    obtain ⟨h1, h2, h3⟩ := at_drop h
    have hw : wrap64 ((i : Int) + 1) = ((i + 1 : Nat) : Int) := by rw [w64 (by omega) (by omega)]; simp
    simp only [collect_Check.l0]
    rw [if_pos (by omega), if_pos (by omega), if_pos (by omega), h2, hw]
    simp only [allOk]
    by_cases c : Ok r
    · have ih := cl0 l z hl rs (i + 1) k h3 (by simp at hk; omega) hz (by
        intro q hq
        rw [List.take_succ_eq_append_getElem h1] at hq
        rcases List.mem_append.1 hq with hq | hq
        · exact hpre q hq
        · rw [List.mem_singleton] at hq
          rw [List.drop_eq_getElem_cons h1] at h
          injection h with e1 e2
          rw [hq, e1]
          exact c)
      obtain ⟨a1, a2, a3, a4, a5, a6⟩ := c
      rw [if_neg (by omega), if_neg (by omega), if_neg (by omega), if_neg (by omega), if_neg (by omega), if_neg (by omega), ih]
      simp [show Ok r from ⟨a1, a2, a3, a4, a5, a6⟩]
    · simp only [c, decide_false, Bool.false_and, Bool.false_eq_true, if_false]
      unfold Ok at c
      (repeat' split) <;> first | rfl | (exfalso; omega)
theorem rl0 (l : List S42) (z : Int) (hl : l.length < 1000000000000) : ∀ (rs : List S42) (i : Nat) (k : Nat), l.drop i = rs → rs.length + 3 * l.length + 6 < k → (∀ m, 3 * l.length + 4 < m → (∀ r ∈ l, Ok r) → plenumref42_Check.l1 m l 0 = some z) → (∀ r ∈ l.take i, Ok r) →
    plenumref42_Check.l0 k l i = some (if allOk rs = true then z else 6)
  | [], i, k, h, hk, hz, hpre => by
    obtain ⟨k, rfl, hk⟩ := kof hk
    have := at_end h
    simp only [plenumref42_Check.l0]
    rw [if_neg (by omega), hz k (by simp at hk; omega) (by rwa [List.take_of_length_le this] at hpre)]
    simp [allOk]
  | r :: rs, i, k, h, hk, hz, hpre => by
    obtain ⟨k, rfl, hk⟩ := kof hk
    obtain ⟨h1, h2, h3⟩ := at_drop h
    have hw : wrap64 ((i : Int) + 1) = ((i + 1 : Nat) : Int) := by rw [w64 (by omega) (by omega)]; simp
    simp only [plenumref42_Check.l0, in_f, Option.bind_some]
    rw [if_pos (by omega), if_pos (by omega), h2, hw]
    simp only [allOk]
    by_cases c : Ok r
    · have ih := rl0 l z hl rs (i + 1) k h3 (by simp at hk; omega) hz (by
        intro q hq
        rw [List.take_succ_eq_append_getElem h1] at hq
        rcases List.mem_append.1 hq with hq | hq
        · exact hpre q hq
        · rw [List.mem_singleton] at hq
          rw [List.drop_eq_getElem_cons h1] at h
          injection h with e1 e2
          rw [hq, e1]
          exact c)
      obtain ⟨a1, a2, a3, a4, a5, a6⟩ := c
      rw [if_pos (by simp; omega), if_pos (by simp; omega), if_pos (by simp; omega), ih]
      simp [show Ok r from ⟨a1, a2, a3, a4, a5, a6⟩]
    · simp only [c, decide_false, Bool.false_and, Bool.false_eq_true, if_false, decide_eq_true_eq]
      unfold Ok at c
      (repeat' split) <;> first | rfl | (exfalso; omega)

theorem check_f {l : List S42} (hl : l.length < 1000000000000) {k : Nat} (hk : 4 * l.length + 7 < k) : collect_Check.f k l = some (ck l) := by
  unfold collect_Check.f ck
  have h := cl0 l (if clean 0 l = true then (if linked1 l = true then (if ris 0 l = true then 0 else 15) else 10) else 1) hl l 0 k rfl (by omega)
    (fun m hm hok => cl1 l hl hok _ l 0 m rfl (by omega) 0 (fun _ => rfl) (fun h => absurd h (by omega)) (fun n hn => linked_nil_ck2 l hl hok n hn)) (by simp)
  exact h
theorem rcheck_f {l : List S42} (hl : l.length < 1000000000000) {k : Nat} (hk : 4 * l.length + 7 < k) : plenumref42_Check.f k l = some (ck l) := by
  unfold plenumref42_Check.f ck
  have h := rl0 l (if clean 0 l = true then (if linked1 l = true then (if ris 0 l = true then 0 else 15) else 10) else 1) hl l 0 k rfl (by omega)
    (fun m hm hok => rl1 l hl hok _ l 0 m rfl (by omega) 0 (fun _ => rfl) (fun h => absurd h (by omega)) (fun n hn => linked_nil_rk2 l hl hok n hn)) (by simp)
  exact h
theorem ck_ok {l : List S42} (h : ck l = 0) : allOk l = true ∧ clean 0 l = true ∧ linked1 l = true ∧ ris 0 l = true := by
  unfold ck at h
  repeat' (split at h)
  all_goals first | exact ⟨by assumption, by assumption, by assumption, by assumption⟩ | omega
end Go.Proofs.Yteclemahimldeaa.PT
