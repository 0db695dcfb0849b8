/- The law of fairness. -/
import Derived.Test.YtbecejhjdagkdaaLQ6
import Derived.Test.YtbecejhjdagkdaaLF
set_option linter.unusedVariables false
set_option linter.unusedSimpArgs false
set_option maxRecDepth 100000
namespace Go.Proofs.Ytbecejhjdagkdaa.PL
open Go.RowKit Go.Proofs.Ytbecejhjdagkdaa.L Go.Proofs.YtbecejhjdagkdaaW.PrintWords Go.Proofs.YtbecejhjdagkdaaW.PrintLast Go.Proofs.YtbecejhjdagkdaaW.PrintMore

theorem awake_n : plenumlaw55_awake.f 1500 = some true := by decide +kernel
theorem awake_f {k : Nat} (hk : 1500 ≤ k) : plenumlaw55_awake.f k = some true := by
  obtain ⟨g, hg⟩ : ∃ g : Nat → Option Bool, ∀ k, g k = plenumlaw55_awake.f k := ⟨_, fun k => rfl⟩
  obtain ⟨n, hn⟩ : ∃ n, n = 1500 := ⟨_, rfl⟩
  have h : plenumlaw55_awake.f n = some true := by
    rw [hn]
    exact awake_n
  have hm : ∀ k, LeO (g k) (g (k + 1)) := fun k => by
    rw [hg, hg]
    exact plenumlaw55_awake.mono k
  rw [← hg] at h ⊢
  exact up_to hm h k (by omega)
theorem inst_f {x : Int} (h1 : 0 ≤ x) (h2 : x ≤ 6311433599) : leadlag_instant.f x = some true := by
  unfold leadlag_instant.f
  rw [if_pos (by omega), decide_eq_true (by omega)]
/-- A machine as the watch wants it. -/
def Ok (u : S62) : Prop := 0 ≤ u.f0 ∧ u.f0 ≤ 6311433599 ∧ (u.f1 = true → u.f2 = false)
theorem bad_f {u : S62} (h : Ok u) : leadlag_Check_1.f u.f0 u.f1 u.f2 = some false := by
  obtain ⟨h1, h2, h3⟩ := h
  unfold leadlag_Check_1.f
  rw [inst_f h1 h2]
  simp only [Option.bind_some, if_true]
  by_cases c : u.f1 = true
  · rw [if_pos c, h3 c]
  · rw [if_neg c]
theorem bad_l0 (us : List S62) (hl : us.length ≤ 1000) : ∀ (rs : List S62) (i k : Nat), us.drop i = rs → (∀ u ∈ rs, Ok u) → rs.length < k → leadlag_Unit_45.l0 leadlag_Check_1.f k us us.length i = some (-1)
  | [], i, k, h, ho, hk => by
    obtain ⟨k, rfl, _⟩ := kof hk
    have := at_end h
    simp only [leadlag_Unit_45.l0]
    rw [if_neg (by omega)]
  | r :: rs, i, k, h, ho, hk => by
    obtain ⟨k, rfl, hk⟩ := kof hk
    obtain ⟨h1, h2, h3⟩ := at_drop h
    simp only [List.length_cons] at hk
    have hw : wrap64 ((i : Int) + 1) = ((i + 1 : Nat) : Int) := by rw [w64 (by omega) (by omega)]; simp
    simp only [leadlag_Unit_45.l0]
    rw [if_pos (by omega), if_pos (by omega), if_pos (by omega), h2, hw, bad_f (ho r List.mem_cons_self)]
    simp only [Option.bind_some]
    rw [if_neg (by simp)]
    exact bad_l0 us hl rs (i + 1) k h3 (fun u hu => ho u (List.mem_cons_of_mem _ hu)) (by omega)
theorem someBad_f {us : List S62} (hl : us.length ≤ 1000) (ho : ∀ u ∈ us, Ok u) {k : Nat} (hk : us.length < k) : leadlag_someBad.f k us = some false := by
  have := bad_l0 us hl us 0 k rfl ho hk
  unfold leadlag_someBad.f leadlag_Unit_34.f leadlag_Unit_45.f
  rw [show (0 : Int) = ((0 : Nat) : Int) from rfl, this]
  rfl
def Rule (R G : Int) : Prop := 1 ≤ R ∧ R ≤ 2678400 ∧ 0 ≤ G ∧ G ≤ 3600
theorem check_f {us : List S62} (h1 : 1 ≤ us.length) (h2 : us.length ≤ 16) (ho : ∀ u ∈ us, Ok u) {S T : Int} (hS : -1 ≤ S) (hS2 : S ≤ 6311433599) (hT : 0 ≤ T) (hT2 : T ≤ 6311433599) (R G : Int) {k : Nat} (hk : 100 ≤ k) :
    ∃ c, leadlag_Check.f k R G us S T = some c ∧ (c = 0 → Rule R G) ∧ (Rule R G → c = 0) := by
  obtain ⟨k, rfl, hk⟩ := kof (n := 99) (k := k) (by omega)
  have hin : ∀ b : Bool, leadlag_Check.j0 (k + 1) b us S T = some (if b = true then 6 else 0) := fun b => by
    simp only [leadlag_Check.j0]
    cases b with
    | true => rfl
    | false =>
      rw [if_neg (by simp), if_neg (by omega), if_neg (by omega), someBad_f (by omega) ho (by omega)]
      simp only [Option.bind_some]
      rw [if_neg (by simp), if_neg (by omega), if_neg (by omega), inst_f hT hT2]
      rfl
  unfold leadlag_Check.f Rule
  simp only [hin]
  by_cases a : R < 1
  · rw [if_pos a]
    exact ⟨_, rfl, fun h => by simp at h, fun h => by omega⟩
  rw [if_neg a]
  by_cases b : R > 2678400
  · rw [if_pos b]
    exact ⟨_, rfl, fun h => by simp at h, fun h => by omega⟩
  rw [if_neg b]
  by_cases c : G < 0
  · rw [if_pos c]
    exact ⟨_, rfl, fun h => by simp at h, fun h => by omega⟩
  rw [if_neg c]
  by_cases d : G > 3600
  · rw [decide_eq_true d]
    exact ⟨_, rfl, fun h => by simp at h, fun h => by omega⟩
  · rw [decide_eq_false d]
    exact ⟨_, rfl, fun h => by omega, fun h => rfl⟩
theorem upd_ok {u : S62} (h : Ok u) (f : Bool) : u.f0 ≤ (upd u f).f0 ∧ (upd u f).f0 ≤ 6311433599 := by
  obtain ⟨h1, h2, h3⟩ := h
  have hm := mxmn (wrap64 (u.f0 + 1)) 6311433599
  rw [w64 (x := u.f0 + 1) (by omega) (by omega)] at hm
  unfold upd
  rw [w64 (x := u.f0 + 1) (by omega) (by omega)]
  show u.f0 ≤ (if u.f1 = true then mn (u.f0 + 1) 6311433599 else u.f0) ∧ (if u.f1 = true then mn (u.f0 + 1) 6311433599 else u.f0) ≤ 6311433599
  split <;> omega
theorem ok_rd {us : List S62} (h : ∀ u ∈ us, Ok u) {o : Int} (h1 : 0 ≤ o) (h2 : o < us.length) : Ok (rd_T62 us o) := by
  obtain ⟨i, rfl⟩ := Int.eq_ofNat_of_zero_le h1
  rw [rd_get (by omega)]
  exact h _ (List.getElem_mem _)
theorem rd_f2 {l : List S62} (h : ∀ o : Int, 0 ≤ o → o < l.length → (rd_T62 l o).f2 = false) (o : Int) : (rd_T62 l o).f2 = false := by
  by_cases c : o.toNat < l.length
  · have := h (o.toNat : Int) (by omega) (by omega)
    unfold rd_T62 at this ⊢
    rw [Int.toNat_natCast] at this
    exact this
  · unfold rd_T62
    rw [List.getD_eq_getElem?_getD, List.getElem?_eq_none (by omega)]
    rfl
/-- A state of the fair game: c is what who is on may be ahead of who is off. -/
structure Fr (n : Nat) (R c : Int) (us : List S62) : Prop where
  len : us.length = n
  ok : ∀ u ∈ us, Ok u
  well : ∀ o : Int, (rd_T62 us o).f2 = false
  all : ∀ o p : Int, 0 ≤ o → o < n → 0 ≤ p → p < n → (rd_T62 us o).f0 - (rd_T62 us p).f0 ≤ R
  pr : Pr n (fun o => (rd_T62 us o).f0) c us
theorem upd_off {u : S62} (h : Ok u) : (upd u false).f1 = u.f1 ∧ u.f0 ≤ (upd u false).f0 ∧ (upd u false).f0 ≤ u.f0 + 1 ∧ (u.f1 = false → (upd u false).f0 = u.f0) ∧ (u.f1 = true → (upd u false).f0 = u.f0 + 1 ∨ (upd u false).f0 = 6311433599) ∧ (upd u false).f0 ≤ 6311433599 := by
  obtain ⟨h1, h2, h3⟩ := h
  have hw : wrap64 (u.f0 + 1) = u.f0 + 1 := w64 (by omega) (by omega)
  have hm := mxmn (u.f0 + 1) 6311433599
  unfold upd
  rw [hw]
  clear hw
  show (u.f1 && !false) = u.f1 ∧ u.f0 ≤ (if u.f1 = true then mn (u.f0 + 1) 6311433599 else u.f0) ∧ (if u.f1 = true then mn (u.f0 + 1) 6311433599 else u.f0) ≤ u.f0 + 1 ∧ (u.f1 = false → (if u.f1 = true then mn (u.f0 + 1) 6311433599 else u.f0) = u.f0) ∧ (u.f1 = true → (if u.f1 = true then mn (u.f0 + 1) 6311433599 else u.f0) = u.f0 + 1 ∨ (if u.f1 = true then mn (u.f0 + 1) 6311433599 else u.f0) = 6311433599) ∧ (if u.f1 = true then mn (u.f0 + 1) 6311433599 else u.f0) ≤ 6311433599
  cases u.f1 with
  | true =>
    rw [if_pos rfl]
    refine ⟨rfl, by omega, by omega, (fun h => absurd h (by simp)), (fun _ => by omega), by omega⟩
  | false =>
    rw [if_neg (by simp)]
    exact ⟨rfl, by omega, by omega, (fun _ => rfl), (fun h => absurd h (by simp)), by omega⟩
theorem fair_step {n : Nat} (hn : n ≤ 16) {us : List S62} (fl : List Bool) (hfn : fl.length = n) (hfl : ∀ o : Int, rdOf false fl o = false) (R G S T need now : Int) (hr : Rule R G) (hS : -1 ≤ S) (hS2 : S ≤ 6311433599) (hT : 0 ≤ T) (hT2 : T ≤ now) (hT3 : now ≤ T + R) (hM : now ≤ 6311433599) (h : Fr n R (now - 1 - T) us) {k : Nat} (hk : 2000 ≤ k) :
    ∃ us' S' T', leadlag_step.f k R G us S T need fl now = some (us', S', T') ∧ Fr n R (now - T') us' ∧ (S' = S ∨ S' = now) ∧ 0 ≤ T' ∧ T' ≤ now ∧ now + 1 ≤ T' + R := by
  obtain ⟨r1, r2, r3, r4⟩ := hr
  obtain ⟨hl, hok, hw, hall, hpr⟩ := h
  have hf : fl.length = us.length := by omega
  have hul := upd_len hf
  have hud : ∀ o : Int, 0 ≤ o → o < us.length → rd_T62 (List.zipWith upd us fl) o = upd (rd_T62 us o) false := fun o o1 o2 => by rw [upd_rd hf o1 o2, hfl]
  have huo := fun (o : Int) (o1 : 0 ≤ o) (o2 : o < us.length) => upd_off (ok_rd hok o1 o2)
  have hf2 : ∀ o : Int, (rd_T62 (List.zipWith upd us fl) o).f2 = false := rd_f2 (fun o o1 o2 => by
    rw [hul] at o2
    rw [hud o o1 o2]
    rfl)
  have hp2 : Pr us.length (fun o => (rd_T62 (List.zipWith upd us fl) o).f0) (now - T) (List.zipWith upd us fl) := fun o p o1 o2 p1 p2 o3 p3 => by
    have a := huo o o1 o2
    have b := huo p p1 p2
    rw [hud o o1 o2, a.1] at o3
    rw [hud p p1 p2, b.1] at p3
    have e := hpr o p o1 (by omega) p1 (by omega) o3 p3
    have e' : (rd_T62 us o).f0 - (rd_T62 us p).f0 ≤ now - 1 - T := e
    show (rd_T62 (List.zipWith upd us fl) o).f0 - (rd_T62 (List.zipWith upd us fl) p).f0 ≤ now - T
    rw [hud o o1 o2, hud p p1 p2, b.2.2.2.1 p3]
    have := a.2.2.1
    omega
  obtain ⟨us', S', T', g0, g1, g2, _⟩ := step_f us fl (by omega) hf R G S T need now r1 r2 r3 r4 hS hS2 hT (by omega) hk
  obtain ⟨us2, S2, T2, k0, k1, k2⟩ := step_g us fl (by omega) hf R G S T need now r1 r2 r3 r4 hS hS2 hT (by omega) hf2 (now - T) (by omega) hp2 hk
  rw [g0] at k0
  injection k0 with k0
  injection k0 with e1 k0
  injection k0 with e2 e3
  subst e1 e2 e3
  have h0 : ∀ o : Int, 0 ≤ o → o < us.length → (rd_T62 us' o).f0 = (upd (rd_T62 us o) false).f0 := fun o o1 o2 => by rw [(g2 o o1 o2).1, hfl]
  have h0' : ∀ o : Int, 0 ≤ o → o < us.length → (rd_T62 us' o).f0 = (rd_T62 (List.zipWith upd us fl) o).f0 := fun o o1 o2 => by rw [h0 o o1 o2, hud o o1 o2]
  have hprs : ∀ c, Pr us.length (fun o => (rd_T62 (List.zipWith upd us fl) o).f0) c us' → Pr n (fun o => (rd_T62 us' o).f0) c us' := fun c hh o p o1 o2 p1 p2 o3 p3 => by
    have e := hh o p o1 (by omega) p1 (by omega) o3 p3
    show (rd_T62 us' o).f0 - (rd_T62 us' p).f0 ≤ c
    rw [h0' o o1 (by omega), h0' p p1 (by omega)]
    exact e
  have hF : ∀ c, Pr us.length (fun o => (rd_T62 (List.zipWith upd us fl) o).f0) c us' → Fr n R c us' := fun c hh => by
    refine ⟨by omega, fun u hu => ?_, rd_f2 (fun o o1 o2 => by rw [(g2 o o1 (by omega)).2.1, hfl]), fun o p o1 o2 p1 p2 => ?_, hprs c hh⟩
    · obtain ⟨i, hi, rfl⟩ := List.getElem_of_mem hu
      obtain ⟨a, b, d⟩ := g2 i (by omega) (by omega)
      have hi2 : rd_T62 us' (i : Int) = us'[i] := rd_get hi
      have hu0 := (ok_rd hok (o := (i : Int)) (by omega) (by omega)).1
      have hu1 := huo (i : Int) (by omega) (by omega)
      have hu2 := h0 (i : Int) (by omega) (by omega)
      rw [← hi2]
      exact ⟨by omega, by omega, d⟩
    · rw [h0 o o1 (by omega), h0 p p1 (by omega)]
      have a := huo o o1 (by omega)
      have b := huo p p1 (by omega)
      have e := hall o p o1 o2 p1 p2
      cases ho : (rd_T62 us o).f1 with
      | false =>
        have := a.2.2.2.1 ho
        have := b.2.1
        omega
      | true =>
        cases hp : (rd_T62 us p).f1 with
        | false =>
          have e2 : (rd_T62 us o).f0 - (rd_T62 us p).f0 ≤ now - 1 - T := hpr o p o1 o2 p1 p2 ho hp
          have := b.2.2.2.1 hp
          have := a.2.2.1
          omega
        | true =>
          have a1 := a.2.2.1
          have a2 := a.2.2.2.2.2
          rcases b.2.2.2.2.1 hp with x | x <;> omega
  refine ⟨us', S', T', g0, ?_, k1, ?_⟩
  · rcases k2 with ⟨d1, d2, d3⟩ | ⟨d1, d2, d3⟩
    · rw [d2, Int.sub_self]
      exact hF 0 d3
    · rw [d2]
      exact hF _ d3
  · rcases k2 with ⟨d1, d2, d3⟩ | ⟨d1, d2, d3⟩ <;> omega
def Gd (n : Nat) (R : Int) (s : S32) : Prop := ∃ c, Fr n R c s.f0
theorem play_l1 (needs : List Int) (now R G : Int) (hr : Rule R G) {n : Nat} (hn : n ≤ 16) (fl : List Bool) (hfn : fl.length = n) (hfl : ∀ o : Int, rdOf false fl o = false) (hnow : 0 ≤ now) (hM : now + needs.length - 1 ≤ 6311433599) (hnl : needs.length ≤ 400) :
    ∀ (m i k : Nat) (acc : List S32) (us : List S62) (S T : Int), i + m = needs.length → acc.length = i → (∀ s ∈ acc, Gd n R s) → Fr n R (now + i - 1 - T) us → -1 ≤ S → S ≤ now + i → 0 ≤ T → T ≤ now + i → now + i ≤ T + R → 2001 + m < k →
      ∃ l, leadlag_Play.l1 k now fl acc needs needs.length i R G us S T = some (l, 0) ∧ l.length = needs.length ∧ ∀ s ∈ l, Gd n R s
  | 0, i, k, acc, us, S, T, h, ha, hg, _, _, _, _, _, _, hk => by
    obtain ⟨k, rfl, hk⟩ := kof hk
    simp only [leadlag_Play.l1]
    rw [if_neg (by omega)]
    exact ⟨acc, rfl, by omega, hg⟩
  | m + 1, i, k, acc, us, S, T, h, ha, hg, hF, hS, hS2, hT, hT2, hT3, hk => by
    obtain ⟨k, rfl, hk⟩ := kof hk
    obtain ⟨us', S', T', e, f1, f2, f3, f4, f5⟩ := fair_step hn fl hfn hfl R G S T (rd needs i) (now + i) hr hS (by omega) hT hT2 hT3 (by omega) hF (k := k) (by omega)
    have hw1 : Aside0 (wrap64 (now + (i : Int)) = now + i) := ⟨w64 (by omega) (by omega)⟩
    have hw2 : Aside0 (wrap64 ((i : Int) + 1) = ((i + 1 : Nat) : Int)) := ⟨by rw [w64 (by omega) (by omega)]; simp⟩
    simp only [leadlag_Play.l1]
    rw [if_pos (by omega), if_pos (by omega), if_pos (by omega), hw1.out, hw2.out, e]
    simp only [Option.bind_some]
    rw [if_pos (by omega)]
    have ec : now + ((i + 1 : Nat) : Int) - 1 - T' = now + i - T' := by omega
    refine play_l1 needs now R G hr hn fl hfn hfl hnow hM hnl m (i + 1) k _ us' S' T' (by omega) (by simp [ha]) (fun s hs => ?_) (by rw [ec]; exact f1) (by omega) (by omega) f3 (by omega) (by omega) (by omega)
    rcases List.mem_append.1 hs with hs | hs
    · exact hg s hs
    · rw [List.mem_singleton.1 hs]
      exact ⟨_, f1⟩
theorem max_l0 (x : List Int) (hx : x.length ≤ 1000) : ∀ (rs : List Int) (i k : Nat) (m : Int), x.drop i = rs → m ∈ x → rs.length < k → ∃ v ∈ x, slices_Max_int_int.l0 k x m i = some v
  | [], i, k, m, h, hm, hk => by
    obtain ⟨k, rfl, _⟩ := kof hk
    have : x.length ≤ i := by simpa using h
    simp only [slices_Max_int_int.l0]
    rw [if_neg (by omega)]
    exact ⟨m, hm, rfl⟩
  | r :: rs, i, k, m, h, hm, hk => by
    obtain ⟨k, rfl, hk⟩ := kof hk
    obtain ⟨h1, h2, h3⟩ := at_dropI h
    simp only [List.length_cons] at hk
    have hw : wrap64 ((i : Int) + 1) = ((i + 1 : Nat) : Int) := by rw [w64 (by omega) (by omega)]; simp
    simp only [slices_Max_int_int.l0]
    rw [if_pos (by omega), if_pos (by omega), h2, hw]
    refine max_l0 x hx rs (i + 1) k _ h3 ?_ (by omega)
    have hr : r ∈ x := List.mem_of_mem_drop (i := i) (by rw [h]; exact List.mem_cons_self)
    rcases (mxmn m r).1 with e | e <;> rw [e] <;> assumption
theorem min_l0 (x : List Int) (hx : x.length ≤ 1000) : ∀ (rs : List Int) (i k : Nat) (m : Int), x.drop i = rs → m ∈ x → rs.length < k → ∃ v ∈ x, slices_Min_int_int.l0 k x m i = some v
  | [], i, k, m, h, hm, hk => by
    obtain ⟨k, rfl, _⟩ := kof hk
    have : x.length ≤ i := by simpa using h
    simp only [slices_Min_int_int.l0]
    rw [if_neg (by omega)]
    exact ⟨m, hm, rfl⟩
  | r :: rs, i, k, m, h, hm, hk => by
    obtain ⟨k, rfl, hk⟩ := kof hk
    obtain ⟨h1, h2, h3⟩ := at_dropI h
    simp only [List.length_cons] at hk
    have hw : wrap64 ((i : Int) + 1) = ((i + 1 : Nat) : Int) := by rw [w64 (by omega) (by omega)]; simp
    simp only [slices_Min_int_int.l0]
    rw [if_pos (by omega), if_pos (by omega), h2, hw]
    refine min_l0 x hx rs (i + 1) k _ h3 ?_ (by omega)
    have hr : r ∈ x := List.mem_of_mem_drop (i := i) (by rw [h]; exact List.mem_cons_self)
    rcases (mxmn m r).2.2.2.1 with e | e <;> rw [e] <;> assumption
theorem rd_zero {x : List Int} (h : 0 < x.length) : rd x 0 ∈ x := by
  cases x with
  | nil => simp at h
  | cons a l => exact List.mem_cons_self
theorem spread_l0 (us : List S62) (hl : us.length ≤ 100) (R : Int) (hR : R ≤ 2678400) (hb : ∀ u ∈ us, Ok u) (hall : ∀ u ∈ us, ∀ v ∈ us, u.f0 - v.f0 ≤ R) : ∀ (rs : List S62) (i k : Nat) (acc : List Int), us.drop i = rs → (∀ u ∈ rs, u.f2 = false) → acc.length + rs.length ≤ 100 → (∀ a ∈ acc, ∃ u ∈ us, a = u.f0) → 0 < acc.length + rs.length → 200 + rs.length < k → ∃ v, leadlag_Spread.l0 k acc us us.length i = some (v, 0) ∧ v ≤ R
  | [], i, k, acc, h, hw, ha, hm, h0, hk => by
    obtain ⟨k, rfl, hk⟩ := kof hk
    have := at_end h
    simp only [List.length_nil] at ha h0 hk
    obtain ⟨v, v1, v2⟩ := max_l0 acc (by omega) (acc.drop 1) 1 k (rd acc 0) rfl (rd_zero (by omega)) (by simp; omega)
    obtain ⟨u, u1, u2⟩ := min_l0 acc (by omega) (acc.drop 1) 1 k (rd acc 0) rfl (rd_zero (by omega)) (by simp; omega)
    have v2' : slices_Max_int_int.l0 k acc (rd acc 0) 1 = some v := v2
    have u2' : slices_Min_int_int.l0 k acc (rd acc 0) 1 = some u := u2
    obtain ⟨x, x1, x2⟩ := hm v v1
    obtain ⟨y, y1, y2⟩ := hm u u1
    have := hall x x1 y y1
    have := (hb x x1).1
    have := (hb y y1).2.1
    simp only [leadlag_Spread.l0]
    rw [if_neg (by omega), if_neg (by omega)]
    unfold slices_Max_int_int.f slices_Min_int_int.f
    rw [if_neg (by omega), if_pos (by omega), if_neg (by omega), if_pos (by omega), v2', u2']
    exact ⟨_, rfl, by rw [w64 (by omega) (by omega)]; omega⟩
  | r :: rs, i, k, acc, h, hw, ha, hm, h0, hk => by
    obtain ⟨k, rfl, hk⟩ := kof hk
    obtain ⟨h1, h2, h3⟩ := at_drop h
    simp only [List.length_cons] at hk ha
    have hr : r ∈ us := List.mem_of_mem_drop (i := i) (by rw [h]; exact List.mem_cons_self)
    have hw1 : Aside0 (wrap64 ((i : Int) + 1) = ((i + 1 : Nat) : Int)) := ⟨by rw [w64 (by omega) (by omega)]; simp⟩
    simp only [leadlag_Spread.l0]
    rw [if_pos (by omega), if_pos (by omega), if_pos (by omega), h2, hw1.out, if_neg (by rw [hw r List.mem_cons_self]; simp), if_pos (by omega)]
    refine spread_l0 us hl R hR hb hall rs (i + 1) k _ h3 (fun u hu => hw u (List.mem_cons_of_mem _ hu)) (by simp; omega) (fun a ha => ?_) (by simp; omega) (by omega)
    rcases List.mem_append.1 ha with ha | ha
    · exact hm a ha
    · exact ⟨r, hr, List.mem_singleton.1 ha⟩
theorem spread_f {n : Nat} (h1 : 1 ≤ n) (h2 : n ≤ 16) {R c : Int} (hR : R ≤ 2678400) {us : List S62} (h : Fr n R c us) (s t : Int) {k : Nat} (hk : 300 ≤ k) : ∃ v, leadlag_Spread.f k us s t = some (v, 0) ∧ v ≤ R := by
  obtain ⟨hl, hok, hw, hall, hpr⟩ := h
  have hm : ∀ u ∈ us, ∃ o : Int, 0 ≤ o ∧ o < n ∧ rd_T62 us o = u := fun u hu => by
    obtain ⟨i, hi, rfl⟩ := List.getElem_of_mem hu
    exact ⟨i, by omega, by omega, rd_get hi⟩
  exact spread_l0 us (by omega) R hR hok (fun u hu v hv => by
    obtain ⟨o, o1, o2, rfl⟩ := hm u hu
    obtain ⟨p, p1, p2, rfl⟩ := hm v hv
    exact hall o p o1 o2 p1 p2) us 0 k [] rfl (fun u hu => by
    obtain ⟨o, o1, o2, rfl⟩ := hm u hu
    exact hw o) (by simp; omega) (fun a ha => by cases ha) (by simp; omega) (by omega)
theorem fair_l1 (needs : List Int) {n : Nat} (h1 : 1 ≤ n) (h2 : n ≤ 16) (R G : Int) (hr : Rule R G) (l : List S32) (hl : l.length = needs.length) (hn : needs.length ≤ 400) (hg : ∀ s ∈ l, Gd n R s) : ∀ (m i k : Nat), i + m = l.length → 301 + m < k → plenumlaw55_LeadlagFair.l1 k needs l i R G = some true
  | 0, i, k, h, hk => by
    obtain ⟨k, rfl, hk⟩ := kof hk
    simp only [plenumlaw55_LeadlagFair.l1]
    rw [if_neg (by omega), hl]
    simp
  | m + 1, i, k, h, hk => by
    obtain ⟨k, rfl, hk⟩ := kof hk
    obtain ⟨r1, r2, r3, r4⟩ := id hr
    have hi : i < l.length := by omega
    have hrd : rd_T32 l (i : Int) = l[i] := by
      unfold rd_T32
      rw [Int.toNat_natCast, List.getD_eq_getElem?_getD, List.getElem?_eq_getElem hi]
      rfl
    obtain ⟨c, hc⟩ := hg l[i] (List.getElem_mem _)
    obtain ⟨v, hv, hvR⟩ := spread_f h1 h2 r2 hc l[i].f1 l[i].f2 (k := k) (by omega)
    have hw1 : Aside0 (wrap64 ((i : Int) + 1) = ((i + 1 : Nat) : Int)) := ⟨by rw [w64 (by omega) (by omega)]; simp⟩
    have hw2 : Aside0 (wrap64 (R + 1) = R + 1) := ⟨w64 (by omega) (by omega)⟩
    simp only [plenumlaw55_LeadlagFair.l1]
    rw [if_pos (by omega), if_pos (by omega), hrd, hv]
    simp only [Option.bind_some, if_true]
    rw [hw2.out, if_neg (by omega), hw1.out]
    exact fair_l1 needs h1 h2 R G hr l hl hn hg m (i + 1) k (by omega) (by omega)
theorem fair_l0 (run now R G S T : Int) (needs : List Int) (n : Nat) (hn : n ≤ 16) (N : Nat) (V : Option Bool) (hV : ∀ k', N < k' → plenumlaw55_LeadlagFair.l0 k' run needs now n R G (List.replicate n ⟨run, false, false⟩) S T = V) : ∀ (m i k : Nat), i + m = n → N + m < k → plenumlaw55_LeadlagFair.l0 k run needs now i R G (List.replicate i ⟨run, false, false⟩ ++ List.replicate m z62) S T = V
  | 0, i, k, h, hk => by
    have e : i = n := by omega
    subst e
    rw [List.replicate_zero, List.append_nil]
    exact hV k (by omega)
  | m + 1, i, k, h, hk => by
    obtain ⟨k, rfl, hk⟩ := kof hk
    have hw1 : Aside0 (wrap64 ((i : Int) + 1) = ((i + 1 : Nat) : Int)) := ⟨by rw [w64 (by omega) (by omega)]; simp⟩
    have hlen : ((List.replicate i (⟨run, false, false⟩ : S62) ++ List.replicate (m + 1) z62).length : Int) = i + m + 1 := by
      simp
      omega
    have hrd : rd_T62 (List.replicate i (⟨run, false, false⟩ : S62) ++ List.replicate (m + 1) z62) (i : Int) = z62 := by
      rw [List.replicate_succ]
      exact rd62_mid _ _ _ _ (by simp)
    have hset : (List.replicate i (⟨run, false, false⟩ : S62) ++ List.replicate (m + 1) z62).set i ⟨run, false, false⟩ = List.replicate (i + 1) ⟨run, false, false⟩ ++ List.replicate m z62 := by
      rw [List.replicate_succ]
      have := set_mid (List.replicate m z62) z62 (⟨run, false, false⟩ : S62) (List.replicate i ⟨run, false, false⟩)
      rw [List.length_replicate] at this
      rw [this, List.replicate_succ', List.append_assoc]
      rfl
    have := fair_l0 run now R G S T needs n hn N V hV m (i + 1) k (by omega) (by omega)
    simp only [plenumlaw55_LeadlagFair.l0]
    rw [if_pos (by rw [hlen]; omega), if_pos (by omega), hrd, hw1.out, Int.toNat_natCast]
    show plenumlaw55_LeadlagFair.l0 k run needs now ((i + 1 : Nat) : Int) R G ((List.replicate i (⟨run, false, false⟩ : S62) ++ List.replicate (m + 1) z62).set i ⟨run, false, false⟩) S T = V
    rw [hset]
    exact this
theorem play_l0 (needs : List Int) (now R G S T : Int) (us : List S62) (hu : us.length ≤ 16) (hw : ∀ o : Int, (rd_T62 us o).f2 = false) (N : Nat) (V : Option (List S32 × Int)) (hV : ∀ k', N < k' → leadlag_Play.l1 k' now (List.replicate us.length false) [] needs needs.length 0 R G us S T = V) : ∀ (m i k : Nat), i + m = us.length → N + m + 1 < k → leadlag_Play.l0 k needs now (List.replicate us.length false) us us.length i R G us S T = V
  | 0, i, k, h, hk => by
    obtain ⟨k, rfl, hk⟩ := kof hk
    simp only [leadlag_Play.l0]
    rw [if_neg (by omega)]
    exact hV k (by omega)
  | m + 1, i, k, h, hk => by
    obtain ⟨k, rfl, hk⟩ := kof hk
    have hw1 : Aside0 (wrap64 ((i : Int) + 1) = ((i + 1 : Nat) : Int)) := ⟨by rw [w64 (by omega) (by omega)]; simp⟩
    have hset : (List.replicate us.length false).set i false = List.replicate us.length false := by
      rw [List.set_replicate_self]
    simp only [leadlag_Play.l0]
    rw [if_pos (by omega), if_pos (by omega), if_pos (by omega), if_pos (by simp; omega), hw, hw1.out, Int.toNat_natCast, hset]
    exact play_l0 needs now R G S T us hu hw N V hV m (i + 1) k (by omega) (by omega)
theorem rd_rep {n : Nat} (u : S62) {o : Int} (h1 : 0 ≤ o) (h2 : o < n) : rd_T62 (List.replicate n u) o = u := by
  unfold rd_T62
  rw [List.getD_eq_getElem?_getD, List.getElem?_replicate, if_pos (by omega)]
  rfl
theorem play_f (R G : Int) {n : Nat} (h1 : 1 ≤ n) (h2 : n ≤ 16) (run : Int) (hr1 : 0 ≤ run) (hr2 : run ≤ 1000000) (needs : List Int) (hnl : needs.length ≤ 400) (now : Int) (hnow : 0 ≤ now) (hnow2 : now ≤ 6311433599) {k : Nat} (hk : 3500 ≤ k) :
    (∃ e, e ≠ 0 ∧ leadlag_Play.f k R G (List.replicate n ⟨run, false, false⟩) (-1) now needs now = some ([], e)) ∨ (Rule R G ∧ ∃ l, leadlag_Play.f k R G (List.replicate n ⟨run, false, false⟩) (-1) now needs now = some (l, 0) ∧ l.length = needs.length ∧ ∀ s ∈ l, Gd n R s) := by
  obtain ⟨k, rfl, hk⟩ := kof (n := 3499) (k := k) (by omega)
  have hlen : (List.replicate n (⟨run, false, false⟩ : S62)).length = n := List.length_replicate
  have hrd := fun (o : Int) (o1 : 0 ≤ o) (o2 : o < n) => rd_rep (⟨run, false, false⟩ : S62) o1 o2
  have hok : ∀ u ∈ List.replicate n (⟨run, false, false⟩ : S62), Ok u := fun u hu => by
    rw [List.eq_of_mem_replicate hu]
    exact ⟨hr1, by show run ≤ 6311433599; omega, fun h => rfl⟩
  have hw : ∀ o : Int, (rd_T62 (List.replicate n (⟨run, false, false⟩ : S62)) o).f2 = false := rd_f2 (fun o o1 o2 => by rw [hrd o o1 (by omega)])
  obtain ⟨c, hc, hc0, hc1⟩ := check_f (us := List.replicate n ⟨run, false, false⟩) (by omega) (by omega) hok (S := -1) (T := now) (by omega) (by omega) hnow hnow2 R G (k := k + 1) (by omega)
  unfold leadlag_Play.f
  rw [hc]
  simp only [Option.bind_some]
  by_cases z : c = 0
  · subst z
    have hrule := hc0 rfl
    rw [if_pos rfl, if_neg (by omega)]
    have hF : Fr n R (now + ((0 : Nat) : Int) - 1 - now) (List.replicate n ⟨run, false, false⟩) := by
      refine ⟨hlen, hok, hw, fun o p o1 o2 p1 p2 => ?_, fun o p o1 o2 p1 p2 o3 p3 => ?_⟩
      · rw [hrd o o1 o2, hrd p p1 p2]
        have := hrule.1
        show run - run ≤ R
        omega
      · rw [hrd o o1 o2] at o3
        cases o3
    have hfl : ∀ o : Int, rdOf false (List.replicate n false) o = false := fun o => by
      unfold rdOf
      rw [List.getD_eq_getElem?_getD, List.getElem?_replicate]
      split <;> rfl
    have hgo : ∀ b : Bool, (b = false → now + needs.length - 1 ≤ 6311433599) → (∃ e, e ≠ 0 ∧ leadlag_Play.j0 (k + 1) needs now b R G (List.replicate n ⟨run, false, false⟩) (-1) now = some ([], e)) ∨ (Rule R G ∧ ∃ l, leadlag_Play.j0 (k + 1) needs now b R G (List.replicate n ⟨run, false, false⟩) (-1) now = some (l, 0) ∧ l.length = needs.length ∧ ∀ s ∈ l, Gd n R s) := fun b hb => by
      simp only [leadlag_Play.j0]
      cases b with
      | true => exact .inl ⟨6, by decide, rfl⟩
      | false =>
        obtain ⟨l, l1, l2, l3⟩ := play_l1 needs now R G hrule h2 (List.replicate n false) List.length_replicate hfl hnow (hb rfl) hnl needs.length 0 (2002 + needs.length) [] (List.replicate n ⟨run, false, false⟩) (-1) now (by omega) rfl (fun s hs => by cases hs) hF (by omega) (by omega) hnow (by omega) (by have := hrule.1; omega) (by omega)
        refine .inr ⟨hrule, l, ?_, l2, l3⟩
        rw [if_neg (by simp), if_pos (by omega), if_pos (by omega), hlen, Int.toNat_natCast]
        have := play_l0 needs now R G (-1) now (List.replicate n ⟨run, false, false⟩) (by omega) hw (2002 + needs.length) (some (l, 0)) (fun k' hk' => by
          rw [hlen]
          exact up_to (g := fun k => leadlag_Play.l1 k now (List.replicate n false) [] needs needs.length 0 R G (List.replicate n ⟨run, false, false⟩) (-1) now) (fun k => (leadlag_Play.mono_l k).2.2 _ _ _ _ _ _ _ _ _ _ _) l1 k' (by omega)) n 0 k (by omega) (by omega)
        rw [hlen] at this
        exact this
    by_cases y : (needs.length : Int) > 0
    · rw [if_pos y]
      have htime : leadlag_timely.f (List.replicate n ⟨run, false, false⟩) (-1) now now = some true := by
        unfold leadlag_timely.f
        rw [inst_f hnow hnow2]
        simp only [Option.bind_some, if_true]
        rw [if_pos (by omega), decide_eq_true (by omega)]
      rw [htime]
      simp only [Option.bind_some, if_true]
      rw [w64 (x := now + (needs.length : Int)) (by omega) (by omega), w64 (x := now + (needs.length : Int) - 1) (by omega) (by omega)]
      exact hgo _ (fun h => by
        have := of_decide_eq_false h
        omega)
    · rw [if_neg y]
      exact hgo false (fun _ => by omega)
  · rw [if_neg z]
    exact .inl ⟨c, z, rfl⟩
/-- The law: fairness holds at every input. -/
theorem fair_f (R G x1 run : Int) (needs : List Int) (now : Int) {k : Nat} (hk : 7000 ≤ k) : plenumlaw55_LeadlagFair.f k R G x1 run needs now = some true := by
  have hj : ∀ k b, 6800 ≤ k → (b = false → needs.length ≤ 400 ∧ 0 ≤ run ∧ run ≤ 1000000) → plenumlaw55_LeadlagFair.j0 k x1 run needs now b R G = some true := fun k b hk hb => by
    obtain ⟨k, rfl, hk⟩ := kof (n := 6799) (k := k) (by omega)
    simp only [plenumlaw55_LeadlagFair.j0]
    cases b with
    | true => rfl
    | false =>
      obtain ⟨b1, b2, b3⟩ := hb rfl
      obtain ⟨k, rfl, hk⟩ := kof (n := 6798) (k := k) (by omega)
      rw [if_neg (by simp)]
      have hnew : (∃ s t e, leadlag_New.f (k + 1) x1 now = some ([], s, t, e) ∧ e ≠ 0) ∨ (1 ≤ x1 ∧ x1 ≤ 16 ∧ 0 ≤ now ∧ now ≤ 6311433599 ∧ leadlag_New.f (k + 1) x1 now = some (List.replicate x1.toNat z62, -1, now, 0)) := by
        unfold leadlag_New.f
        simp only [leadlag_New.j0]
        by_cases a : x1 < 1
        · rw [if_pos a]
          exact .inl ⟨_, _, _, rfl, by decide⟩
        rw [if_neg a]
        by_cases c : x1 > 16
        · rw [decide_eq_true c]
          exact .inl ⟨_, _, _, rfl, by decide⟩
        rw [decide_eq_false c, if_neg (by simp)]
        by_cases d : 0 ≤ now ∧ now ≤ 6311433599
        · rw [inst_f d.1 d.2]
          simp only [Option.bind_some, if_true]
          rw [if_pos (by omega), if_pos (by omega)]
          exact .inr ⟨by omega, by omega, d.1, d.2, rfl⟩
        · have : leadlag_instant.f now = some false := by
            unfold leadlag_instant.f
            by_cases e : now ≥ 0
            · rw [if_pos e, decide_eq_false (by omega)]
            · rw [if_neg e]
          rw [this]
          exact .inl ⟨_, _, _, rfl, by decide⟩
      rcases hnew with ⟨s, t, e, he, hne⟩ | ⟨n1, n2, n3, n4, he⟩
      · rw [he]
        simp only [Option.bind_some]
        rw [if_neg hne]
        rfl
      · rw [he]
        simp only [Option.bind_some, if_true]
        have := fair_l0 run now R G (-1) now needs x1.toNat (by omega) 4000 (some true) (fun k' hk' => ?_) x1.toNat 0 (k + 1) (by omega) (by omega)
        · simpa using this
        · obtain ⟨k', rfl, hk'⟩ := kof hk'
          simp only [plenumlaw55_LeadlagFair.l0]
          rw [if_neg (by simp)]
          unfold plenumlaw55_rule.f
          simp only [Option.bind_some]
          rcases play_f R G (n := x1.toNat) (by omega) (by omega) run b2 b3 needs b1 now n3 n4 (k := k') (by omega) with ⟨e, e1, e2⟩ | ⟨hr, l, l1, l2, l3⟩
          · rw [e2]
            simp only [Option.bind_some]
            rw [if_neg e1]
            rfl
          · rw [l1]
            simp only [Option.bind_some, if_true]
            exact fair_l1 needs (n := x1.toNat) (by omega) (by omega) R G hr l l2 b1 l3 l.length 0 k' (by omega) (by omega)
  unfold plenumlaw55_LeadlagFair.f
  rw [awake_f (by omega)]
  simp only [Option.bind_some, if_true]
  by_cases a : (needs.length : Int) > 400
  · rw [if_pos a, hj k true (by omega) (fun h => by cases h)]
  rw [if_neg a]
  by_cases b : run < 0
  · rw [if_pos b, hj k true (by omega) (fun h => by cases h)]
  · rw [if_neg b, hj k _ (by omega) (fun h => ⟨by omega, by omega, by have := of_decide_eq_false h; omega⟩)]
end Go.Proofs.Ytbecejhjdagkdaa.PL
