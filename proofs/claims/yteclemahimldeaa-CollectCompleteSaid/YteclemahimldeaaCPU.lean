/- CollectComplete answers true: the plain proof. -/
import Derived.Test.YteclemahimldeaaCPT
set_option linter.unusedVariables false
set_option linter.unusedSimpArgs false
namespace Go.Proofs.Yteclemahimldeaa.PTC
open Go.RowKit Go.Proofs.Yteclemahimldeaa.C Go.Proofs.YteclemahimldeaaW.PrintWords Go.Proofs.YteclemahimldeaaW.PrintLast Go.Proofs.YteclemahimldeaaW.PrintMore

theorem u64_w (x : Int) : IntKind.u64.wrap x = x % 18446744073709551616 := by
  have h1 : IntKind.u64.signed = false := rfl
  have h2 : (2 : Int) ^ IntKind.u64.bits = 18446744073709551616 := by decide +kernel
  unfold IntKind.wrap
  simp [h1, h2]
theorem rem_bd (c : Int) {n : Int} (h0 : 0 ≤ n) (h1 : n ≤ 1000) : ∃ F : Nat, wrap64 (Int.tmod (IntKind.u64.wrap c) (IntKind.u64.wrap (wrap64 (n + 1)))) = (F : Int) ∧ (F : Int) ≤ n := by
  rw [u64_w, u64_w, w64 (x := n + 1) (by omega) (by omega), Int.emod_eq_of_lt (a := n + 1) (by omega) (by omega), Int.tmod_eq_emod_of_nonneg (by omega)]
  have h2 := Int.emod_nonneg (c % 18446744073709551616) (b := n + 1) (by omega)
  have h3 := Int.emod_lt_of_pos (c % 18446744073709551616) (b := n + 1) (by omega)
  rw [w64 (by omega) (by omega)]
  exact ⟨(c % 18446744073709551616 % (n + 1)).toNat, by omega, by omega⟩
theorem nz_bd {n : Int} (h0 : 0 ≤ n) (h1 : n ≤ 1000) : ¬ IntKind.u64.wrap (wrap64 (n + 1)) = 0 := by
  rw [u64_w, w64 (x := n + 1) (by omega) (by omega), Int.emod_eq_of_lt (by omega) (by omega)]
  omega
theorem plain_l0 (n : Int) (hn : n ≤ 1000) : ∀ (m : Nat) (j : Int) (out : List S42) (k : Nat), j + m = n + 1 → 1 ≤ j → m < k → out.length + m < 1000000 → plenumlaw42_plain.l0 k n out j = some (out ++ trendF j m)
  | 0, j, out, k, h, h1, hk, ho => by
    obtain ⟨k, rfl, _⟩ := kof hk
    simp only [plenumlaw42_plain.l0]
    rw [if_neg (by omega)]
    simp [trendF]
  | m + 1, j, out, k, h, h1, hk, ho => by
    obtain ⟨k, rfl, hk⟩ := kof hk
    have hw : wrap64 (j + 1) = j + 1 := w64 (by omega) (by omega)
    have hw2 : wrap64 (10 * j) = 10 * j := w64 (by omega) (by omega)
    simp only [plenumlaw42_plain.l0]
    rw [if_pos (by omega), if_pos (by omega), hw, hw2, plain_l0 n hn m (j + 1) _ k (by omega) (by omega) (by omega) (by simp; omega)]
    simp [trendF, pl]
theorem plain_f {n : Int} (h0 : 0 ≤ n) (hn : n ≤ 1000) {k : Nat} (hk : 1002 ≤ k) : plenumlaw42_plain.f k 1 n = some (trendF 1 n.toNat) := by
  unfold plenumlaw42_plain.f
  rw [plain_l0 n hn n.toNat 1 [] k (by omega) (by omega) (by omega) (by simp; omega)]
  simp
theorem rd_trend {m : Nat} {j : Int} (h1 : 1 ≤ j) (h2 : j ≤ m) : rd_T42 (trendF 1 m) (j - 1) = pl j := by
  have hd := trendF_drop (j - 1).toNat m 1 (by omega)
  obtain ⟨q, hq⟩ : ∃ q, m - (j - 1).toNat = q + 1 := ⟨m - (j - 1).toNat - 1, by omega⟩
  rw [hq] at hd
  obtain ⟨_, h3, _⟩ := at_drop hd
  rw [show ((j - 1).toNat : Int) = j - 1 by omega] at h3
  rw [h3]
  congr 1
  omega
theorem lost_val (l : List S42) (hl : l.length < 100000) : ∀ (rs : List S42) (i : Nat) (a : Int) (k : Nat), l.drop i = rs → (∀ r ∈ rs, Ok r) → 0 ≤ a → a + 1000000000 * rs.length ≤ 1000000000000000 → rs.length < k → collect_Collector_Lost.l0 k l a i = some (a + lostS rs)
  | [], i, a, k, h, ho, h0, h1, hk => by
    obtain ⟨k, rfl, _⟩ := kof hk
    have := at_end h
    simp only [collect_Collector_Lost.l0]
    rw [if_neg (by omega)]
    simp [lostS]
  | r :: rs, i, a, k, h, ho, h0, h1, hk => by
    obtain ⟨k, rfl, hk⟩ := kof hk
    obtain ⟨g1, g2, g3⟩ := at_drop h
    have hw : wrap64 ((i : Int) + 1) = ((i + 1 : Nat) : Int) := by rw [w64 (by omega) (by omega)]; simp
    obtain ⟨o1, o2, o3, o4, _⟩ := ho r List.mem_cons_self
    simp only [List.length_cons] at h1 hk
    simp only [collect_Collector_Lost.l0]
    rw [if_pos (by omega), if_pos (by omega), g2, hw, w64 (x := a + r.f4) (by omega) (by omega), lost_val l hl rs (i + 1) _ k g3 (fun q hq => ho q (List.mem_cons_of_mem _ hq)) (by omega) (by omega) (by omega)]
    simp only [lostS]
    congr 1
    omega
theorem complete_l1 (n : Int) (hn : 0 ≤ n) (hn2 : n ≤ 1000) (s : List S42) (hl : s.length < 100000) (hp : ∀ r ∈ s, r.f4 = 0 → r = pl r.f0 ∧ 1 ≤ r.f0 ∧ r.f0 ≤ n) : ∀ (rs : List S42) (i k : Nat), s.drop i = rs → rs.length < k → plenumlaw42_CollectComplete.l1 k n (trendF 1 n.toNat) s i = some true
  | [], i, k, h, hk => by
    obtain ⟨k, rfl, _⟩ := kof hk
    have := at_end h
    simp only [plenumlaw42_CollectComplete.l1]
    rw [if_neg (by omega)]
  | r :: rs, i, k, h, hk => by
    obtain ⟨k, rfl, hk⟩ := kof hk
    obtain ⟨g1, g2, g3⟩ := at_drop h
    have hw : wrap64 ((i : Int) + 1) = ((i + 1 : Nat) : Int) := by rw [w64 (by omega) (by omega)]; simp
    have ih := complete_l1 n hn hn2 s hl hp rs (i + 1) k g3 (by simpa using hk)
    simp only [plenumlaw42_CollectComplete.l1]
    rw [if_pos (by omega), if_pos (by omega), g2, hw]
    by_cases c : r.f4 = 0
    · obtain ⟨p1, p2, p3⟩ := hp r (List.mem_of_mem_drop (by rw [h]; exact List.mem_cons_self)) c
      rw [if_pos c, if_neg (by omega), w64 (x := r.f0 - 1) (by omega) (by omega), if_pos (by omega), if_pos (by rw [trendF_len]; omega), rd_trend p2 (by omega), ← p1, if_neg (by simp)]
      exact ih
    · rw [if_neg c]
      exact ih
theorem drop46 {l rs : List S46} {r : S46} {i : Nat} (h : l.drop i = r :: rs) : i < l.length ∧ l.drop (i + 1) = rs := by
  have hi : i < l.length := by
    rcases Nat.lt_or_ge i l.length with h1 | h1
    · exact h1
    · rw [List.drop_eq_nil_of_le h1] at h
      cases h
  rw [List.drop_eq_getElem_cons hi] at h
  injection h with h1 h2
  exact ⟨hi, h2⟩
set_option maxHeartbeats 4000000 in
theorem complete_l0 (n : Int) (hn : 0 ≤ n) (hn2 : n ≤ 40) (l : List S46) (hl : l.length ≤ 12) : ∀ (rs : List S46) (i k : Nat) (s : List S42) (seen lost : Int), l.drop i = rs → Cmp s seen lost → seen ≤ n → 0 ≤ lost → lost ≤ 1000 * i → s.length + 80 * rs.length ≤ 960 → rs.length + 20000 < k → plenumlaw42_CollectComplete.l0 k n l (trendF 1 n.toNat) seen lost i s = some true
  | [], i, k, s, seen, lost, h, hc, h1, h2, h3, hsl, hk => by
    obtain ⟨k, rfl, hk⟩ := kof hk
    have hi : l.length ≤ i := by simpa using h
    have hnn := hc.nn
    have hlen : s.length ≤ 960 := by simp at hsl; omega
    have hlv := lost_val s (by omega) s 0 0 k rfl hc.inv.ok (by omega) (by omega) (by simp at hk; omega)
    rw [hc.ls, show ((0 : Nat) : Int) = 0 from rfl] at hlv
    simp only [plenumlaw42_CollectComplete.l0]
    rw [if_neg (by omega), from_f s (by omega) hc.inv.fit]
    simp only [Option.bind_some]
    rw [hc.as_, w64 (x := seen + 1) (by omega) (by omega), if_pos rfl]
    unfold collect_Collector_Lost.f
    rw [hlv]
    simp only [Option.bind_some, Int.zero_add]
    obtain ⟨k, rfl⟩ : ∃ k', k = k' + 2 := ⟨k - 2, by omega⟩
    simp only [plenumlaw42_CollectComplete.j2]
    rw [if_neg (by simp), records_f (by omega)]
    simp only [Option.bind_some]
    have hfin : plenumlaw42_CollectComplete.j3 (k + 1) n (trendF 1 n.toNat) s false = some true := by
      simp only [plenumlaw42_CollectComplete.j3]
      rw [if_neg (by simp)]
      exact complete_l1 n hn (by omega) s (by omega) (fun r hr h0 => by
        obtain ⟨a, b, c⟩ := hc.pln r hr h0
        exact ⟨a, b, by omega⟩) s 0 k rfl (by simp at hk; omega)
    by_cases c : lost = 0
    · rw [if_pos c, if_pos hnn, if_pos (by rw [trendF_len]; omega), trendF_take seen.toNat n.toNat 1 (by omega), ← hc.z c, same_f (by omega) (by simp at hk; omega)]
      simp only [Option.bind_some, Bool.not_true]
      exact hfin
    · rw [if_neg c]
      exact hfin
  | r :: rs, i, k, s, seen, lost, h, hc, h1, h2, h3, hsl, hk => by
    obtain ⟨k, rfl, hk⟩ := kof hk
    obtain ⟨g1, g2⟩ := drop46 h
    have hnn := hc.nn
    simp only [List.length_cons] at hsl hk
    have hw := Aside0.mk (show wrap64 ((i : Int) + 1) = ((i + 1 : Nat) : Int) by rw [w64 (by omega) (by omega)]; simp)
    obtain ⟨F, hF0, hFn⟩ := rem_bd (rd_T46 l (i : Int)).f0 hn (by omega)
    have hF := Aside0.mk hF0
    clear hF0
    obtain ⟨T, hT0, hTn⟩ := rem_bd (rd_T46 l (i : Int)).f1 (n := n - F) (by omega) (by omega)
    have hT := Aside0.mk hT0
    clear hT0
    have hwF := Aside0.mk (show wrap64 (n - (F : Int)) = n - F from w64 (by omega) (by omega))
    have hwT := Aside0.mk (show wrap64 ((F : Int) + T) = ((F + T : Nat) : Int) by rw [w64 (by omega) (by omega)]; simp)
    have hz1 := Aside0.mk (nz_bd hn (by omega))
    have hz2 := Aside0.mk (nz_bd (n := n - (F : Int)) (by omega) (by omega))
    have hp : ((trendF 1 n.toNat).take (F + T)).drop F = trendF (1 + F) T := by
      rw [trendF_take (F + T) n.toNat 1 (by omega), trendF_drop F (F + T) 1 (by omega)]
      congr 1
      omega
    have hrun := Cmp.run T (n := 0) (a := 1 + (F : Int)) hc (by omega) (by omega)
    have htr : takeR s (trendF (1 + F) T) = ((takeS s 0 (trendF (1 + F) T)).1, (takeS s 0 (trendF (1 + F) T)).2, 0) := by
      unfold takeR
      rw [if_pos (trendF_ck (by omega) (by omega)), if_pos hrun.ri]
    have hlen := takeR_len s (trendF (1 + (F : Int)) T)
    rw [htr, trendF_len] at hlen
    simp only at hlen
    simp only [plenumlaw42_CollectComplete.l0, hF.out, hwF.out, hT.out, hwT.out, hw.out]
    rw [if_pos (by omega), if_pos (by omega), if_neg hz1.out, if_neg hz2.out, if_pos (by omega), if_pos (by omega), if_pos (by rw [trendF_len]; omega), Int.toNat_natCast, Int.toNat_natCast, hp, ctake_f (s := s) (l := trendF (1 + F) T) (k := k) (by rw [trendF_len]; omega) (by omega) hc.inv.fit (by rw [trendF_len]; omega), htr]
    simp only [Option.bind_some, if_true]
    by_cases c : seen < 1 + (F : Int) + T - 1 ∧ 0 < T
    · rw [if_pos c, if_pos c] at hrun
      have hm : wrap64 (lost + mx 0 (wrap64 ((F : Int) - seen))) = lost + (if 1 + (F : Int) - 1 - seen < 0 then 0 else 1 + (F : Int) - 1 - seen) := by
        rw [w64 (x := (F : Int) - seen) (by omega) (by omega)]
        unfold mx
        rw [w64 (by split <;> omega) (by split <;> omega)]
        (repeat' split) <;> omega
      rw [if_pos (by omega), if_pos (by omega), hm, show ((F + T : Nat) : Int) = 1 + (F : Int) + T - 1 by omega]
      exact complete_l0 n hn hn2 l hl rs (i + 1) k _ _ _ g2 hrun (by omega) (by split <;> omega) (by split <;> omega) (by omega) (by omega)
    · rw [if_neg c, if_neg c] at hrun
      have ih := complete_l0 n hn hn2 l hl rs (i + 1) k _ _ _ g2 hrun (by omega) (by omega) (by omega) (by omega) (by omega)
      by_cases d : ((F + T : Nat) : Int) > (F : Int)
      · rw [if_pos d, if_neg (by omega)]
        exact ih
      · rw [if_neg d]
        exact ih
theorem CollectComplete (n : Int) (l : List S46) (k : Nat) (hk : 30000 ≤ k) : plenumlaw42_CollectComplete.f k n l = some true := by
  unfold plenumlaw42_CollectComplete.f
  rw [awake_f (by omega)]
  simp only [Option.bind_some, if_true]
  obtain ⟨k, rfl⟩ : ∃ k', k = k' + 1 := ⟨k - 1, by omega⟩
  have hno : plenumlaw42_CollectComplete.j0 (k + 1) n l true = some true := by
    simp [plenumlaw42_CollectComplete.j0]
  by_cases c1 : n < 0
  · rw [if_pos c1]
    exact hno
  · rw [if_neg c1]
    by_cases c2 : n > 40
    · rw [if_pos c2]
      exact hno
    · rw [if_neg c2]
      by_cases c3 : (l.length : Int) > 12
      · rw [decide_eq_true c3]
        exact hno
      · rw [decide_eq_false c3]
        simp only [plenumlaw42_CollectComplete.j0]
        rw [if_neg (by simp), plain_f (by omega) (by omega) (by omega)]
        simp only [Option.bind_some]
        show (some []).bind _ = _
        simp only [Option.bind_some]
        exact complete_l0 n (by omega) (by omega) l (by omega) l 0 k [] 0 0 rfl Cmp.nil (by omega) (by omega) (by omega) (by simp; omega) (by omega)
end Go.Proofs.Yteclemahimldeaa.PTC
