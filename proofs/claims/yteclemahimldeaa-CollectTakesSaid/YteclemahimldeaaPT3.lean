/- Taking a portion: the program's Take and the reference's. -/
import Derived.Test.YteclemahimldeaaPT2
import Derived.Test.YteclemahimldeaaQx12
set_option linter.unusedVariables false
set_option linter.unusedSimpArgs false
namespace Go.Proofs.Yteclemahimldeaa.PT
open Go.RowKit Go.Proofs.Yteclemahimldeaa.Q Go.Proofs.YteclemahimldeaaW.PrintWords Go.Proofs.YteclemahimldeaaW.PrintLast Go.Proofs.YteclemahimldeaaW.PrintMore

theorem asks_bd {l : List S42} (h : ∀ p ∈ l, Fit p) : 1 ≤ asks l ∧ asks l ≤ 1000000001 := by
  rcases List.eq_nil_or_concat l with rfl | ⟨l, p, rfl⟩
  · rw [asks_nil]
    omega
  · rw [List.concat_eq_append] at *
    obtain ⟨h1, h2, h3, h4⟩ := h p (by simp)
    rw [asks_last]
    omega
theorem gap_fit {a b : Int} (h1 : 1 ≤ a) (h2 : a ≤ b) (h3 : b ≤ 1000000000) : Fit (gapS a b) := by
  refine ⟨?_, ?_, ?_, ?_⟩ <;> simp only [gapS] <;> omega
theorem gap_pure (a b : Int) : Pure (gapS a b) := fun _ => ⟨rfl, rfl, rfl, rfl⟩
theorem gap_fst {a b : Int} (h : a ≤ b) : fst (gapS a b) = a := by
  unfold fst gapS
  simp only
  rw [if_pos (by omega)]
  omega
theorem add_fit {l : List S42} {r : S42} (hr : Fit r) (hp : ∀ p ∈ l, Fit p) (hf : fst r = asks l) : ∀ q ∈ add l r, Fit q := by
  rcases List.eq_nil_or_concat l with rfl | ⟨l, p, rfl⟩
  · intro q hq
    rw [add_nil, List.mem_singleton] at hq
    rw [hq]
    exact hr
  · rw [List.concat_eq_append] at *
    rw [add_last]
    rw [asks_last] at hf
    obtain ⟨b1, b2, b3, b4⟩ := hp p (by simp)
    split
    · rename_i c
      intro q hq
      rcases List.mem_append.1 hq with hq | hq
      · exact hp q (by simp [hq])
      · rw [List.mem_singleton] at hq
        subst hq
        obtain ⟨a1, a2, a3, a4⟩ := hr
        unfold fst at hf
        rw [if_pos c.2] at hf
        refine ⟨a1, a2, ?_, ?_⟩ <;> simp only <;> omega
    · intro q hq
      rcases List.mem_append.1 hq with hq | hq
      · exact hp q hq
      · rw [List.mem_singleton] at hq
        rw [hq]
        exact hr
theorem add_pure {l : List S42} {r : S42} (hr : Pure r) (hp : ∀ p ∈ l, Pure p) : ∀ q ∈ add l r, Pure q := by
  rcases List.eq_nil_or_concat l with rfl | ⟨l, p, rfl⟩
  · intro q hq
    rw [add_nil, List.mem_singleton] at hq
    rw [hq]
    exact hr
  · rw [List.concat_eq_append] at *
    rw [add_last]
    split
    · rename_i c
      intro q hq
      rcases List.mem_append.1 hq with hq | hq
      · exact hp q (by simp [hq])
      · rw [List.mem_singleton] at hq
        subst hq
        exact fun _ => hr c.2
    · intro q hq
      rcases List.mem_append.1 hq with hq | hq
      · exact hp q hq
      · rw [List.mem_singleton] at hq
        rw [hq]
        exact hr

/-- The record as it is taken: a gap begins where the collection ends. -/
def cutR (a : Int) (r : S42) : S42 := if 0 < r.f4 ∧ fst r < a then gapS a r.f0 else r
def stepS (out : List S42) (r : S42) : List S42 := if r.f0 < asks out then out else
  (if asks out < fst r then add (add out (gapS (asks out) (fst r - 1))) (cutR (asks out) r) else add out (cutR (asks out) r))
def cntS (out : List S42) (r : S42) (n : Int) : Int := if r.f0 < asks out then n else if 0 < r.f4 then n else n + 1
def takeS : List S42 → Int → List S42 → List S42 × Int
  | out, n, [] => (out, n)
  | out, n, r :: rs => takeS (stepS out r) (cntS out r n) rs
theorem cut_num (a : Int) (r : S42) : (cutR a r).f0 = r.f0 := by unfold cutR gapS; split <;> rfl
theorem cut_fit {a : Int} {r : S42} (ha : 1 ≤ a) (h : Fit r) (hn : a ≤ r.f0) : Fit (cutR a r) := by
  unfold cutR
  split
  · exact gap_fit ha hn h.2.1
  · exact h
theorem cut_pure {a : Int} {r : S42} (h : Pure r) : Pure (cutR a r) := by
  unfold cutR
  split
  · exact gap_pure _ _
  · exact h
theorem cut_fst {a : Int} {r : S42} (h : Fit r) (hn : a ≤ r.f0) : fst (cutR a r) = if a < fst r then fst r else a := by
  unfold cutR
  obtain ⟨h1, h2, h3, h4⟩ := h
  split
  · rename_i c
    rw [gap_fst hn, if_neg (by omega)]
  · rename_i c
    split
    · rfl
    · unfold fst at *
      split <;> simp_all <;> omega
theorem cut_gap {a : Int} {r : S42} (hr : Fit r) (hn : a ≤ r.f0) : 0 < (cutR a r).f4 ↔ 0 < r.f4 := by
  unfold cutR
  split
  · rename_i c
    simp only [gapS]
    constructor
    · intro _; exact c.1
    · intro _; omega
  · exact Iff.rfl
/-- What is put at last follows at once. -/
theorem cut_next {out : List S42} {r : S42} (h : Fit r) (hn : asks out ≤ r.f0) : fst (cutR (asks out) r) = asks (if asks out < fst r then add out (gapS (asks out) (fst r - 1)) else out) := by
  rw [cut_fst h hn]
  split
  · rw [add_asks]
    simp [gapS]
  · rfl
theorem step_eq (out : List S42) (r : S42) (hn : ¬ r.f0 < asks out) : stepS out r = add (if asks out < fst r then add out (gapS (asks out) (fst r - 1)) else out) (cutR (asks out) r) := by
  unfold stepS
  rw [if_neg hn]
  split <;> rfl
theorem mid_fit {out : List S42} {r : S42} (ho : ∀ p ∈ out, Fit p) (h : Fit r) : ∀ p ∈ (if asks out < fst r then add out (gapS (asks out) (fst r - 1)) else out), Fit p := by
  have ha := asks_bd ho
  have hf := fst_ok h
  have h2 := h.2.1
  split
  · exact add_fit (gap_fit ha.1 (by omega) (by omega)) ho (gap_fst (by omega))
  · exact ho
theorem mid_pure {out : List S42} {r : S42} (ho : ∀ p ∈ out, Pure p) : ∀ p ∈ (if asks out < fst r then add out (gapS (asks out) (fst r - 1)) else out), Pure p := by
  split
  · exact add_pure (gap_pure _ _) ho
  · exact ho
theorem mid_len (out : List S42) (r : S42) : (if asks out < fst r then add out (gapS (asks out) (fst r - 1)) else out).length ≤ out.length + 1 := by
  split
  · exact add_len _ _
  · omega
theorem step_fit {out : List S42} {r : S42} (ho : ∀ p ∈ out, Fit p) (h : Fit r) : ∀ p ∈ stepS out r, Fit p := by
  by_cases c : r.f0 < asks out
  · unfold stepS
    rw [if_pos c]
    exact ho
  · rw [step_eq _ _ c]
    exact add_fit (cut_fit (asks_bd ho).1 h (by omega)) (mid_fit ho h) (cut_next h (by omega))
theorem step_pure {out : List S42} {r : S42} (ho : ∀ p ∈ out, Pure p) (h : Pure r) : ∀ p ∈ stepS out r, Pure p := by
  by_cases c : r.f0 < asks out
  · unfold stepS
    rw [if_pos c]
    exact ho
  · rw [step_eq _ _ c]
    exact add_pure (cut_pure h) (mid_pure ho)
theorem step_len (out : List S42) (r : S42) : (stepS out r).length ≤ out.length + 2 := by
  by_cases c : r.f0 < asks out
  · unfold stepS
    rw [if_pos c]
    omega
  · rw [step_eq _ _ c]
    have := mid_len out r
    have := add_len (if asks out < fst r then add out (gapS (asks out) (fst r - 1)) else out) (cutR (asks out) r)
    omega
theorem step_asks {out : List S42} {r : S42} (c : ¬ r.f0 < asks out) : asks (stepS out r) = r.f0 + 1 := by
  rw [step_eq _ _ c, add_asks, cut_num]
theorem take_fit : ∀ (rs out : List S42) (n : Int), (∀ p ∈ out, Fit p) → (∀ r ∈ rs, Fit r) → ∀ p ∈ (takeS out n rs).1, Fit p
  | [], out, n, ho, hr => ho
  | r :: rs, out, n, ho, hr => take_fit rs _ _ (step_fit ho (hr r List.mem_cons_self)) (fun q hq => hr q (List.mem_cons_of_mem _ hq))
theorem take_pure : ∀ (rs out : List S42) (n : Int), (∀ p ∈ out, Pure p) → (∀ r ∈ rs, Pure r) → ∀ p ∈ (takeS out n rs).1, Pure p
  | [], out, n, ho, hr => ho
  | r :: rs, out, n, ho, hr => take_pure rs _ _ (step_pure ho (hr r List.mem_cons_self)) (fun q hq => hr q (List.mem_cons_of_mem _ hq))
theorem take_len : ∀ (rs out : List S42) (n : Int), (takeS out n rs).1.length ≤ out.length + 2 * rs.length
  | [], out, n => by simp [takeS]
  | r :: rs, out, n => by
    have h1 := take_len rs (stepS out r) (cntS out r n)
    have h2 := step_len out r
    simp only [takeS, List.length_cons]
    omega

/-! ### The program's rounds -/
theorem j2_f (out l : List S42) (n : Int) (i : Nat) (q : S42) (k : Nat) (hq : Fit q) (ho : ∀ p ∈ out, Fit p) (hl : out.length < 900000000000) (hn : 0 ≤ n ∧ n < 1000000000000) (hi : i < 1000000000000) (hge : asks out ≤ fst q) :
    collect_Collector_Take.j2 (k + 1) out (asks out) n l l.length i q.f0 q.f1 q.f2.f0 q.f2.f1 q.f3 q.f4 =
      collect_Collector_Take.l0 k (add (if asks out < fst q then add out (gapS (asks out) (fst q - 1)) else out) q) (q.f0 + 1) (if 0 < q.f4 then n else n + 1) l l.length ((i + 1 : Nat) : Int) := by
  have ha := asks_bd ho
  have hf := fst_ok hq
  have h2 := hq.2.1
  have h1 := hq.1
  have h4 := hq.2.2.1
  have hw : wrap64 ((i : Int) + 1) = ((i + 1 : Nat) : Int) := by rw [w64 (by omega) (by omega)]; simp
  have hw2 : wrap64 (q.f0 + 1) = q.f0 + 1 := w64 (by omega) (by omega)
  have hw3 : wrap64 (n + 1) = n + 1 := w64 (by omega) (by omega)
  simp only [collect_Collector_Take.j2]
  rw [cleast_f q hq]
  simp only [Option.bind_some]
  rw [hw, hw2, hw3]
  by_cases c : asks out < fst q
  · have hg : Fit (gapS (asks out) (fst q - 1)) := gap_fit ha.1 (by omega) (by omega)
    rw [if_pos (show fst q > asks out from c), if_pos c, w64 (x := fst q - 1) (by omega) (by omega), cgap_f (by omega) (by omega)]
    simp only [Option.bind_some]
    rw [put_f out _ (by omega) hg ho]
    simp only [Option.bind_some]
    have ho2 := add_fit hg ho (gap_fst (by omega))
    have hl2 := add_len out (gapS (asks out) (fst q - 1))
    rw [put_f _ q (by omega) hq ho2]
    simp only [Option.bind_some]
    by_cases d : q.f4 = 0
    · rw [if_pos d, if_neg (by omega)]
    · rw [if_neg d, if_pos (by omega)]
  · rw [if_neg (show ¬ fst q > asks out from c), if_neg c, put_f out q (by omega) hq ho]
    simp only [Option.bind_some]
    by_cases d : q.f4 = 0
    · rw [if_pos d, if_neg (by omega)]
    · rw [if_neg d, if_pos (by omega)]
theorem ctake_l0 (l : List S42) (hl : l.length < 100000000000) : ∀ (rs : List S42) (i : Nat) (out : List S42) (n : Int) (k : Nat), l.drop i = rs → (∀ r ∈ rs, Ok r ∧ Pure r) → (∀ p ∈ out, Fit p) → out.length + 2 * rs.length < 900000000000 → 0 ≤ n → n + rs.length < 1000000000000 → 5 * rs.length + out.length + 1 < k →
    collect_Collector_Take.l0 k out (asks out) n l l.length i = some (if ris 0 (takeS out n rs).1 = true then ((takeS out n rs).2, 0, (takeS out n rs).1) else (0, 15, (takeS out n rs).1))
  | [], i, out, n, k, h, hr, ho, hlo, hn, hn2, hk => by
    obtain ⟨k, rfl, hk⟩ := kof hk
    have := at_end h
    rw [show takeS out n [] = (out, n) from rfl]
    simp only [collect_Collector_Take.l0]
    rw [if_neg (by omega)]
    obtain ⟨v, hv, hv2⟩ := late_f (l := out) (by simp at hlo; omega) (k := k) (by simp at hk; omega)
    rw [hv]
    simp only [Option.bind_some]
    by_cases c : v ≥ 0
    · rw [if_pos c, if_neg (by rw [hv2.1 c]; simp)]
    · rw [if_neg c, if_pos (by cases e : ris 0 out <;> simp_all)]
  | r :: rs, i, out, n, k, h, hr, ho, hlo, hn, hn2, hk => by
    obtain ⟨k, rfl⟩ : ∃ k', k = k' + 1 := ⟨k - 1, by omega⟩
    obtain ⟨h1, h2, h3⟩ := at_drop h
    obtain ⟨hO, hP⟩ := hr r List.mem_cons_self
    have hF : Fit r := ⟨hO.1, hO.2.1, hO.2.2.1, hO.2.2.2.1⟩
    have ha := asks_bd ho
    have hw : wrap64 ((i : Int) + 1) = ((i + 1 : Nat) : Int) := by rw [w64 (by omega) (by omega)]; simp
    simp only [List.length_cons] at hlo hn2 hk
    have hsl := step_len out r
    have hc : 0 ≤ cntS out r n ∧ cntS out r n ≤ n + 1 := by unfold cntS; (repeat' split) <;> omega
    have ih := fun k hk => ctake_l0 l hl rs (i + 1) (stepS out r) (cntS out r n) k h3 (fun q hq => hr q (List.mem_cons_of_mem _ hq)) (step_fit ho hF) (by omega) hc.1 (by omega) hk
    rw [show takeS out n (r :: rs) = takeS (stepS out r) (cntS out r n) rs from rfl]
    simp only [collect_Collector_Take.l0]
    rw [if_pos (by omega), if_pos (by omega), if_pos (by omega), h2]
    by_cases c : r.f0 < asks out
    · rw [if_pos c, hw]
      have hs : stepS out r = out := by unfold stepS; rw [if_pos c]
      have hs2 : cntS out r n = n := by unfold cntS; rw [if_pos c]
      rw [hs, hs2] at ih
      rw [hs, hs2]
      exact ih k (by omega)
    · rw [if_neg c]
      have key : ∀ q, q = cutR (asks out) r → collect_Collector_Take.j2 (k - 2 + 1) out (asks out) n l l.length i q.f0 q.f1 q.f2.f0 q.f2.f1 q.f3 q.f4 = some (if ris 0 (takeS (stepS out r) (cntS out r n) rs).1 = true then ((takeS (stepS out r) (cntS out r n) rs).2, 0, (takeS (stepS out r) (cntS out r n) rs).1) else (0, 15, (takeS (stepS out r) (cntS out r n) rs).1)) := by
        intro q hq
        have hqf : Fit q := by rw [hq]; exact cut_fit ha.1 hF (by omega)
        have hqs : fst q = if asks out < fst r then fst r else asks out := by rw [hq]; exact cut_fst hF (by omega)
        have hq0 : q.f0 = r.f0 := by rw [hq]; exact cut_num _ _
        have hq4 : 0 < q.f4 ↔ 0 < r.f4 := by rw [hq]; exact cut_gap hF (by omega)
        rw [j2_f out l n i q (k - 2) hqf ho (by omega) (by omega) (by omega) (by rw [hqs]; split <;> omega)]
        have e1 : (if asks out < fst q then add out (gapS (asks out) (fst q - 1)) else out) = (if asks out < fst r then add out (gapS (asks out) (fst r - 1)) else out) := by
          rw [hqs]
          by_cases d : asks out < fst r
          · simp only [if_pos d]
          · simp only [if_neg d]
            rw [if_neg (by omega)]
        have e2 : (if 0 < q.f4 then n else n + 1) = cntS out r n := by
          unfold cntS
          rw [if_neg c]
          by_cases d : 0 < r.f4
          · rw [if_pos d, if_pos (hq4.2 d)]
          · rw [if_neg d, if_neg (fun e => d (hq4.1 e))]
        rw [e1, e2, hq, ← step_eq _ _ c, ← hq, hq0, ← step_asks c]
        exact ih _ (by omega)
      have k1 : k = k - 2 + 1 + 1 := by omega
      by_cases d : r.f4 > 0
      · rw [if_pos d, cleast_f r hF]
        simp only [Option.bind_some]
        rw [k1]
        simp only [collect_Collector_Take.j1]
        by_cases e : fst r < asks out
        · rw [if_pos (by simpa using e), cgap_f (by omega) (by have := hF.1; have := hF.2.1; omega)]
          simp only [Option.bind_some]
          exact key (gapS (asks out) r.f0) (by unfold cutR; rw [if_pos ⟨d, e⟩])
        · rw [if_neg (by simpa using e)]
          exact key r (by unfold cutR; rw [if_neg (fun x => e x.2)])
      · rw [if_neg d]
        rw [k1]
        simp only [collect_Collector_Take.j1]
        rw [if_neg (by simp)]
        exact key r (by unfold cutR; rw [if_neg (fun x => d x.1)])

/-! ### The reference's rounds -/
theorem asks_f (l : List S42) (hl : l.length < 1000000000000) (hp : ∀ p ∈ l, Fit p) : plenumref42_Asks.f l = some (asks l) := by
  unfold plenumref42_Asks.f
  rcases List.eq_nil_or_concat l with rfl | ⟨l, p, rfl⟩
  · rw [if_pos (by simp)]
    rfl
  · rw [List.concat_eq_append] at *
    obtain ⟨b1, b2, b3, b4⟩ := hp p (by simp)
    have hw : wrap64 (((l ++ [p]).length : Int) - 1) = (l.length : Int) := by
      rw [w64 (by simp) (by simp at *; omega)]
      simp
    rw [if_neg (by simp; omega), hw, if_pos (by omega), if_pos (by simp; omega), rd_last, asks_last, w64 (by omega) (by omega)]
theorem from_g (l : List S42) (hl : l.length < 1000000000000) (hp : ∀ p ∈ l, Fit p) : collect_Collector_From.g l = some (asks l) := by
  unfold collect_Collector_From.g
  rcases List.eq_nil_or_concat l with rfl | ⟨l, p, rfl⟩
  · rw [if_pos (by simp)]
    rfl
  · rw [List.concat_eq_append] at *
    obtain ⟨b1, b2, b3, b4⟩ := hp p (by simp)
    have hw : wrap64 (((l ++ [p]).length : Int) - 1) = (l.length : Int) := by
      rw [w64 (by simp) (by simp at *; omega)]
      simp
    rw [if_neg (by simp; omega), hw, if_pos (by omega), if_pos (by simp; omega), rd_last, asks_last, w64 (by omega) (by omega)]
theorem rj1_f (x0 l out0 out : List S42) (n : Int) (i : Nat) (r : S42) (k : Nat) (hF : Fit r) (hP : Pure r) (ho : ∀ p ∈ out, Fit p) (hl : out.length < 900000000000) (hn : 0 ≤ n ∧ n < 1000000000000) (hi : i < 1000000000000) (ha : 1 ≤ asks out0 ∧ asks out0 ≤ 1000000001) (hge : asks out0 ≤ r.f0)
    (hf : fst (cutR (asks out0) r) = asks out) (hk : 1 ≤ k) :
    plenumref42_Take.j1 (k + 1) x0 l out n i (asks out0) r.f0 r.f1 r.f2.f0 r.f2.f1 r.f3 r.f4 = plenumref42_Take.l0 k x0 l (add out (cutR (asks out0) r)) (if 0 < r.f4 then n else n + 1) ((i + 1 : Nat) : Int) := by
  have hfr := fst_ok hF
  have h2 := hF.2.1
  have hw : wrap64 ((i : Int) + 1) = ((i + 1 : Nat) : Int) := by rw [w64 (by omega) (by omega)]; simp
  have hw3 : wrap64 (n + 1) = n + 1 := w64 (by omega) (by omega)
  simp only [plenumref42_Take.j1]
  rw [hw, hw3]
  by_cases d : r.f4 > 0
  · have e : gapS (mx (asks out0) (fst r)) r.f0 = cutR (asks out0) r := by
      unfold cutR mx
      by_cases c : fst r < asks out0
      · rw [if_pos (show 0 < r.f4 ∧ fst r < asks out0 from ⟨d, c⟩), if_neg (show ¬ asks out0 < fst r by omega)]
      · rw [if_neg (show ¬ (0 < r.f4 ∧ fst r < asks out0) from fun x => c x.2)]
        by_cases c2 : asks out0 < fst r
        · rw [if_pos c2]
          exact gapS_pure r d hP _ rfl
        · rw [if_neg c2]
          exact gapS_pure r d hP _ (by omega)
    have hmx : mx (asks out0) (fst r) ≤ 1000000001 ∧ 1 ≤ mx (asks out0) (fst r) := by unfold mx; split <;> omega
    rw [if_pos d, rfirst_f r hF]
    simp only [Option.bind_some]
    rw [rgap_f (by omega) (by omega), e]
    simp only [Option.bind_some]
    rw [radd_f out _ k (by omega) (cut_fit ha.1 hF hge) (cut_pure hP) ho hf hk, if_pos d]
    rfl
  · have e : cutR (asks out0) r = r := by unfold cutR; rw [if_neg (fun x => d x.1)]
    rw [e] at hf
    rw [if_neg d, radd_f out r k (by omega) hF hP ho hf hk, e, if_neg d]
    rfl
theorem rtake_l0 (x0 l : List S42) (hl : l.length < 100000000000) : ∀ (rs : List S42) (i : Nat) (out : List S42) (n : Int) (k : Nat), l.drop i = rs → (∀ r ∈ rs, Ok r ∧ Pure r) → (∀ p ∈ out, Fit p) → out.length + 2 * rs.length < 900000000000 → 0 ≤ n → n + rs.length < 1000000000000 → 5 * rs.length + out.length + 3 < k →
    plenumref42_Take.l0 k x0 l out n i = some (if ris 0 (takeS out n rs).1 = true then ((takeS out n rs).1, (takeS out n rs).2, 0) else (x0, 0, 15))
  | [], i, out, n, k, h, hr, ho, hlo, hn, hn2, hk => by
    obtain ⟨k, rfl, hk⟩ := kof hk
    have := at_end h
    rw [show takeS out n [] = (out, n) from rfl]
    simp only [plenumref42_Take.l0]
    rw [if_neg (by omega), ris_f (by simp at hlo; omega) (by simp at hk; omega)]
    simp only [Option.bind_some]
    split <;> rfl
  | r :: rs, i, out, n, k, h, hr, ho, hlo, hn, hn2, hk => by
    obtain ⟨k, rfl⟩ : ∃ k', k = k' + 1 := ⟨k - 1, by omega⟩
    obtain ⟨h1, h2, h3⟩ := at_drop h
    obtain ⟨hO, hP⟩ := hr r List.mem_cons_self
    have hF : Fit r := ⟨hO.1, hO.2.1, hO.2.2.1, hO.2.2.2.1⟩
    have ha := asks_bd ho
    have hfr := fst_ok hF
    have hF2 := hF.2.1
    have hw : wrap64 ((i : Int) + 1) = ((i + 1 : Nat) : Int) := by rw [w64 (by omega) (by omega)]; simp
    simp only [List.length_cons] at hlo hn2 hk
    have hsl := step_len out r
    have hc : 0 ≤ cntS out r n ∧ cntS out r n ≤ n + 1 := by unfold cntS; (repeat' split) <;> omega
    have ih := fun k hk => rtake_l0 x0 l hl rs (i + 1) (stepS out r) (cntS out r n) k h3 (fun q hq => hr q (List.mem_cons_of_mem _ hq)) (step_fit ho hF) (by omega) hc.1 (by omega) hk
    rw [show takeS out n (r :: rs) = takeS (stepS out r) (cntS out r n) rs from rfl]
    simp only [plenumref42_Take.l0]
    rw [if_pos (by omega), if_pos (by omega), h2, asks_f out (by omega) ho]
    simp only [Option.bind_some]
    by_cases c : r.f0 < asks out
    · rw [if_pos c, hw]
      have hs : stepS out r = out := by unfold stepS; rw [if_pos c]
      have hs2 : cntS out r n = n := by unfold cntS; rw [if_pos c]
      rw [hs, hs2] at ih
      rw [hs, hs2]
      exact ih k (by omega)
    · rw [if_neg c, rfirst_f r hF]
      simp only [Option.bind_some]
      have hcn : (if 0 < r.f4 then n else n + 1) = cntS out r n := by unfold cntS; rw [if_neg c]
      have hse := step_eq out r c
      have hcx := cut_next (out := out) hF (by omega)
      have hmf := mid_fit ho hF
      have hml := mid_len out r
      obtain ⟨k2, rfl⟩ : ∃ k2, k = k2 + 1 := ⟨k - 1, by omega⟩
      by_cases d : fst r > asks out
      · simp only [if_pos (show asks out < fst r from d)] at hse hcx hmf hml
        rw [if_pos d, w64 (x := fst r - 1) (by omega) (by omega), rgap_f (by omega) (by omega)]
        simp only [Option.bind_some]
        rw [radd_f out _ (k2 + 1) (by omega) (gap_fit ha.1 (by omega) (by omega)) (gap_pure _ _) ho (gap_fst (by omega)) (by omega)]
        simp only [Option.bind_some]
        rw [rj1_f x0 l out _ n i r k2 hF hP hmf (by omega) (by omega) (by omega) ha (by omega) hcx (by omega), hcn, ← hse]
        exact ih _ (by omega)
      · simp only [if_neg (show ¬ asks out < fst r from d)] at hse hcx hmf hml
        rw [if_neg d, rj1_f x0 l out out n i r k2 hF hP ho (by omega) (by omega) (by omega) ha (by omega) hcx (by omega), hcn, ← hse]
        exact ih _ (by omega)

/-! ### Take -/
def takeR (have_ l : List S42) : List S42 × Int × Int := if ck l = 0 then (if ris 0 (takeS have_ 0 l).1 = true then ((takeS have_ 0 l).1, (takeS have_ 0 l).2, 0) else (have_, 0, 15)) else (have_, 0, ck l)
theorem clone_f (l : List S42) (hl : l.length < 1000000000000) : api_Record.f l = some l := by
  unfold api_Record.f
  simp only [Option.bind_some, List.length_nil, List.nil_append]
  rw [if_pos (by omega)]
theorem elems_of_ck {l : List S42} (h : ck l = 0) : ∀ r ∈ l, Ok r ∧ Pure r := fun r hr => ⟨allOk_mem (ck_ok h).1 r hr, fun h4 => clean_mem (ck_ok h).2.1 r hr h4⟩
theorem ctake_f {s l : List S42} {k : Nat} (hl : l.length < 100000000) (hs : s.length < 100000000) (hf : ∀ p ∈ s, Fit p) (hk : 5 * l.length + s.length + 10 < k) : collect_Collector_Take.f k s l = some ((takeR s l).2.1, (takeR s l).2.2, (takeR s l).1) := by
  unfold collect_Collector_Take.f collect_Collector_Take.g takeR
  rw [check_f (by omega) (by omega)]
  simp only [Option.bind_some]
  by_cases c : ck l = 0
  · simp only [if_pos c]
    rw [clone_f s (by omega)]
    simp only [Option.bind_some]
    rw [from_g s (by omega) hf]
    simp only [Option.bind_some]
    have h := ctake_l0 l (by omega) l 0 s 0 k rfl (elems_of_ck c) hf (by omega) (by omega) (by omega) (by omega)
    rw [show ((0 : Nat) : Int) = 0 from rfl] at h
    rw [h]
    simp only [Option.bind_some]
    by_cases d : ris 0 (takeS s 0 l).1 = true
    · simp only [if_pos d]
      rfl
    · simp only [if_neg d]
      rfl
  · simp only [if_neg c, Option.bind_some]
theorem rtake_f {s l : List S42} {k : Nat} (hl : l.length < 100000000) (hs : s.length < 100000000) (hf : ∀ p ∈ s, Fit p) (hk : 5 * l.length + s.length + 10 < k) : plenumref42_Take.f k s l = some (takeR s l) := by
  unfold plenumref42_Take.f takeR
  rw [rcheck_f (by omega) (by omega)]
  simp only [Option.bind_some]
  by_cases c : ck l = 0
  · simp only [if_pos c]
    have h := rtake_l0 s l (by omega) l 0 s 0 k rfl (elems_of_ck c) hf (by omega) (by omega) (by omega) (by omega)
    rw [show ((0 : Nat) : Int) = 0 from rfl] at h
    exact h
  · simp only [if_neg c]
theorem takeR_fit {s l : List S42} (hf : ∀ p ∈ s, Fit p) : ∀ p ∈ (takeR s l).1, Fit p := by
  unfold takeR
  split
  · rename_i c
    split
    · exact take_fit l s 0 hf (fun r hr => have h := (elems_of_ck c r hr).1; ⟨h.1, h.2.1, h.2.2.1, h.2.2.2.1⟩)
    · exact hf
  · exact hf
theorem takeR_len (s l : List S42) : (takeR s l).1.length ≤ s.length + 2 * l.length := by
  have h := take_len l s 0
  unfold takeR
  (repeat' split) <;> simp only <;> omega
end Go.Proofs.Yteclemahimldeaa.PT
