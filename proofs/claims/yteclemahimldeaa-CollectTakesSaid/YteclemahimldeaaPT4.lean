/- CollectTakes over lists. -/
import Derived.Test.YteclemahimldeaaPT3
import Derived.Test.YteclemahimldeaaQx13
set_option linter.unusedVariables false
set_option linter.unusedSimpArgs false
namespace Go.Proofs.Yteclemahimldeaa.PT
open Go.RowKit Go.Proofs.Yteclemahimldeaa.Q Go.Proofs.YteclemahimldeaaW.PrintWords Go.Proofs.YteclemahimldeaaW.PrintLast Go.Proofs.YteclemahimldeaaW.PrintMore

set_option maxRecDepth 100000 in
theorem awake_100 : plenumlaw42_awake.f 100 = some true := by decide +kernel
theorem awake_f {k : Nat} (hk : 100 ≤ k) : plenumlaw42_awake.f k = some true := at_rounds (g := fun k => plenumlaw42_awake.f k) (fun k => plenumlaw42_awake.mono k) hk awake_100

theorem lost_l0 (l : List S42) (hl : l.length < 1000000000000) : ∀ (rs : List S42) (i : Nat) (n : Int) (k m : Nat), l.drop i = rs → rs.length < k → rs.length < m → ∃ v, collect_Collector_Lost.l0 k l n i = some v ∧ plenumref42_Lost.l0 m l n i = some v
  | [], i, n, k, m, h, hk, hm => by
    obtain ⟨k, rfl, _⟩ := kof hk
    obtain ⟨m, rfl, _⟩ := kof hm
    have := at_end h
    refine ⟨n, ?_, ?_⟩
    · simp only [collect_Collector_Lost.l0]
      rw [if_neg (by omega)]
    · simp only [plenumref42_Lost.l0]
      rw [if_neg (by omega)]
  | r :: rs, i, n, k, m, h, hk, hm => by
    obtain ⟨k, rfl, hk⟩ := kof hk
    obtain ⟨m, rfl, hm⟩ := kof hm
    obtain ⟨h1, h2, h3⟩ := at_drop h
    have hw : wrap64 ((i : Int) + 1) = ((i + 1 : Nat) : Int) := by rw [w64 (by omega) (by omega)]; simp
    obtain ⟨v, v1, v2⟩ := lost_l0 l hl rs (i + 1) (wrap64 (n + r.f4)) k m h3 (by simpa using hk) (by simpa using hm)
    refine ⟨v, ?_, ?_⟩
    · simp only [collect_Collector_Lost.l0]
      rw [if_pos (by omega), if_pos (by omega), h2, hw]
      exact v1
    · simp only [plenumref42_Lost.l0]
      rw [if_pos (by omega), if_pos (by omega), h2, hw]
      exact v2
theorem lost_f {l : List S42} (hl : l.length < 1000000000000) {k : Nat} (hk : l.length < k) : ∃ v, collect_Collector_Lost.f k l = some (v, l) ∧ plenumref42_Lost.f k l = some v := by
  obtain ⟨v, h1, h2⟩ := lost_l0 l hl l 0 0 k k rfl hk hk
  refine ⟨v, ?_, h2⟩
  unfold collect_Collector_Lost.f
  rw [show ((0 : Nat) : Int) = 0 from rfl] at h1
  rw [h1]
  rfl
theorem same_l0 (l : List S42) (hl : l.length < 1000000000000) : ∀ (rs : List S42) (i k : Nat), l.drop i = rs → rs.length < k → plenumref42_Same.l0 k l l i = some true
  | [], i, k, h, hk => by
    obtain ⟨k, rfl, _⟩ := kof hk
    have := at_end h
    simp only [plenumref42_Same.l0]
    rw [if_neg (by omega)]
  | r :: rs, i, k, h, hk => by
    obtain ⟨k, rfl, hk⟩ := kof hk
    obtain ⟨h1, h2, h3⟩ := at_drop h
    have hw : wrap64 ((i : Int) + 1) = ((i + 1 : Nat) : Int) := by rw [w64 (by omega) (by omega)]; simp
    simp only [plenumref42_Same.l0]
    rw [if_pos (by omega), if_pos (by omega), if_pos (by omega), h2, hw, if_neg (by simp)]
    exact same_l0 l hl rs (i + 1) k h3 (by simpa using hk)
theorem same_f {l : List S42} (hl : l.length < 1000000000000) {k : Nat} (hk : l.length < k) : plenumref42_Same.f k l l = some true := by
  unfold plenumref42_Same.f
  rw [if_pos rfl]
  exact same_l0 l hl l 0 k rfl hk
theorem records_f {l : List S42} (hl : l.length < 1000000000000) : collect_Collector_Records.f l = some (l, l) := by
  unfold collect_Collector_Records.f
  rw [clone_f l hl]
  rfl
theorem from_f (l : List S42) (hl : l.length < 1000000000000) (hp : ∀ p ∈ l, Fit p) : collect_Collector_From.f l = some (asks l, l) := by
  unfold collect_Collector_From.f
  rw [from_g l hl hp]
  rfl
theorem small_l0 (l : List S42) (hl : l.length < 1000000000000) : ∀ (rs : List S42) (i k : Nat), l.drop i = rs → rs.length < k → ∃ b, plenumref42_Small.l0 k l i = some b
  | [], i, k, h, hk => by
    obtain ⟨k, rfl, _⟩ := kof hk
    have := at_end h
    simp only [plenumref42_Small.l0]
    rw [if_neg (by omega)]
    exact ⟨_, rfl⟩
  | r :: rs, i, k, h, hk => by
    obtain ⟨k, rfl, hk⟩ := kof hk
    obtain ⟨h1, h2, h3⟩ := at_drop h
    have hw : wrap64 ((i : Int) + 1) = ((i + 1 : Nat) : Int) := by rw [w64 (by omega) (by omega)]; simp
    have ih := small_l0 l hl rs (i + 1) k h3 (by simpa using hk)
    simp only [plenumref42_Small.l0]
    rw [if_pos (by omega), if_pos (by omega), h2, hw]
    (repeat' split) <;> first | exact ⟨_, rfl⟩ | exact ih
theorem small_f (l : List S42) (k : Nat) (hk : 50 ≤ k) : ∃ b, plenumref42_Small.f k l = some b ∧ (b = true → l.length ≤ 40) := by
  unfold plenumref42_Small.f
  by_cases c : (l.length : Int) > 40
  · rw [if_pos c]
    exact ⟨false, rfl, fun h => by cases h⟩
  · rw [if_neg c]
    obtain ⟨b, hb⟩ := small_l0 l (by omega) l 0 k rfl (by omega)
    exact ⟨b, hb, fun _ => by omega⟩

theorem at_dropL {l rs : List (List S42)} {r : List S42} {i : Nat} (h : l.drop i = r :: rs) : i < l.length ∧ rd_L3 l (i : Int) = r ∧ l.drop (i + 1) = rs := by
  have hi : i < l.length := by
    rcases Nat.lt_or_ge i l.length with h1 | h1
    · exact h1
    · rw [List.drop_eq_nil_of_le h1] at h
      cases h
  rw [List.drop_eq_getElem_cons hi] at h
  injection h with h1 h2
  refine ⟨hi, ?_, h2⟩
  unfold rd_L3
  rw [Int.toNat_natCast, List.getD_eq_getElem?_getD, List.getElem?_eq_getElem hi, h1]
  rfl
theorem smalls_l0 (l : List (List S42)) (hl : l.length < 1000000000000) : ∀ (rs : List (List S42)) (i k : Nat), l.drop i = rs → rs.length + 60 < k → ∃ b, plenumlaw42_small.l0 k l i = some b ∧ (b = true → ∀ r ∈ rs, r.length ≤ 40)
  | [], i, k, h, hk => by
    obtain ⟨k, rfl, _⟩ := kof hk
    have : l.length ≤ i := by simpa using h
    simp only [plenumlaw42_small.l0]
    rw [if_neg (by omega)]
    exact ⟨_, rfl, fun _ r hr => by cases hr⟩
  | r :: rs, i, k, h, hk => by
    obtain ⟨k, rfl, hk⟩ := kof hk
    obtain ⟨h1, h2, h3⟩ := at_dropL h
    have hw : wrap64 ((i : Int) + 1) = ((i + 1 : Nat) : Int) := by rw [w64 (by omega) (by omega)]; simp
    simp only [List.length_cons] at hk
    obtain ⟨b, hb, hb2⟩ := smalls_l0 l hl rs (i + 1) k h3 (by omega)
    obtain ⟨b1, hb1, hb3⟩ := small_f r k (by omega)
    simp only [plenumlaw42_small.l0]
    rw [if_pos (by omega), if_pos (by omega), h2, hw, hb1]
    simp only [Option.bind_some]
    by_cases c : b1 = true
    · rw [if_pos c]
      refine ⟨b, hb, fun hbt q hq => ?_⟩
      rcases List.mem_cons.1 hq with rfl | hq
      · exact hb3 c
      · exact hb2 hbt q hq
    · rw [if_neg c]
      exact ⟨_, rfl, fun h => by cases h⟩
theorem smalls_f (l : List (List S42)) (k : Nat) (hk : 80 ≤ k) : ∃ b, plenumlaw42_small.f k l = some b ∧ (b = true → l.length ≤ 12 ∧ ∀ r ∈ l, r.length ≤ 40) := by
  unfold plenumlaw42_small.f
  by_cases c : (l.length : Int) > 12
  · rw [if_pos c]
    exact ⟨false, rfl, fun h => by cases h⟩
  · rw [if_neg c]
    obtain ⟨b, hb, hb2⟩ := smalls_l0 l (by omega) l 0 k rfl (by omega)
    exact ⟨b, hb, fun h => ⟨by omega, hb2 h⟩⟩

theorem takes_l0 (l : List (List S42)) (hl : l.length ≤ 12) (hs : ∀ r ∈ l, r.length ≤ 40) : ∀ (rs : List (List S42)) (i k : Nat) (s : List S42), l.drop i = rs → (∀ p ∈ s, Fit p) → s.length + 80 * rs.length ≤ 960 → rs.length + 2000 < k → plenumlaw42_CollectTakes.l0 k l s i s = some true
  | [], i, k, s, h, hf, hsl, hk => by
    obtain ⟨k, rfl, _⟩ := kof hk
    have : l.length ≤ i := by simpa using h
    simp only [plenumlaw42_CollectTakes.l0]
    rw [if_neg (by omega)]
  | r :: rs, i, k, s, h, hf, hsl, hk => by
    obtain ⟨k, rfl, hk⟩ := kof hk
    obtain ⟨h1, h2, h3⟩ := at_dropL h
    have hw : wrap64 ((i : Int) + 1) = ((i + 1 : Nat) : Int) := by rw [w64 (by omega) (by omega)]; simp
    simp only [List.length_cons] at hk hsl
    have hr : r.length ≤ 40 := hs r (List.mem_of_mem_drop (by rw [h]; exact List.mem_cons_self))
    have hf2 := takeR_fit (s := s) (l := r) hf
    have hlen := takeR_len s r
    obtain ⟨v, hv1, hv2⟩ := lost_f (l := (takeR s r).1) (by omega) (k := k) (by omega)
    simp only [plenumlaw42_CollectTakes.l0]
    rw [if_pos (by omega), if_pos (by omega), h2, hw, ctake_f (s := s) (l := r) (k := k) (by omega) (by omega) hf (by omega)]
    simp only [Option.bind_some]
    rw [rtake_f (s := s) (l := r) (k := k) (by omega) (by omega) hf (by omega)]
    simp only [Option.bind_some, if_true]
    rw [from_f _ (by omega) hf2]
    simp only [Option.bind_some]
    rw [asks_f _ (by omega) hf2]
    simp only [Option.bind_some, if_true]
    rw [hv1]
    simp only [Option.bind_some]
    rw [hv2]
    simp only [Option.bind_some, if_true]
    rw [records_f (by omega)]
    simp only [Option.bind_some]
    rw [same_f (by omega) (by omega)]
    simp only [Option.bind_some, if_true]
    exact takes_l0 l hl hs rs (i + 1) k _ h3 hf2 (by omega) (by omega)
theorem CollectTakes (l : List (List S42)) (k : Nat) (hk : 3000 ≤ k) : plenumlaw42_CollectTakes.f k l = some true := by
  unfold plenumlaw42_CollectTakes.f
  rw [awake_f (by omega)]
  simp only [Option.bind_some, if_true]
  obtain ⟨b, hb, hb2⟩ := smalls_f l k (by omega)
  rw [hb]
  simp only [Option.bind_some]
  cases b with
  | false => rfl
  | true =>
    obtain ⟨h1, h2⟩ := hb2 rfl
    rw [if_pos rfl]
    show (some []).bind _ = _
    simp only [Option.bind_some]
    exact takes_l0 l h1 h2 l 0 k [] rfl (fun p hp => by cases hp) (by simp; omega) (by omega)
end Go.Proofs.Yteclemahimldeaa.PT
