/- Leadlag, pure, 3: counts, the machines that run. -/
import Derived.Test.YtbecejhjdagkdaaUD
import Derived.Test.YtbecejhjdagkdaaFn1
import Derived.Test.YtbecejhjdagkdaaFn2
set_option linter.unusedVariables false
set_option linter.unusedSimpArgs false
namespace Go.Eng.N
open Go Go.Eng
def Un.no : Un := ⟨0, false, false⟩
def cntW (us : List Un) : Nat := us.countP fun u => !u.fl
def cntO (us : List Un) : Nat := us.countP fun u => u.on
theorem countP_take {α : Type} (p : α → Bool) (l : List α) {j : Nat} (hj : j < l.length) : (l.take (j + 1)).countP p = (l.take j).countP p + if p l[j] = true then 1 else 0 := by
  rw [List.take_succ_eq_append_getElem hj, List.countP_append, List.countP_singleton]
theorem cnt_le {α : Type} (p : α → Bool) (l : List α) : l.countP p ≤ l.length := List.countP_le_length
theorem f39_ok {us : List Un} {f : Bool} (hl : us.length < 2 ^ 40) {st tu : Int} {K : Int → Prop} (h : K (cntW us : Nat)) : f39 (us.map Un.c) f st tu K := by
  refine ⟨?_⟩
  unfold f39_d f39_p6
  rw [List.length_map]
  refine LoopP.inv us.length (fun j x => x = ((((us.take j).countP fun u => !u.fl : Nat) : Int), (j : Int))) 0 rfl (Nat.zero_le _) (by omega) ?_ ?_
  · rintro j x _ hj rfl N hN
    have hc := countP_take (fun u : Un => !u.fl) us hj
    have hb := cnt_le (fun u : Un => !u.fl) (us.take j)
    rw [List.length_take] at hb
    unfold f39_p6b0
    dsimp only
    refine bB_t (ltL hj) ⟨rngM _ _ hj, ?_⟩
    rw [toNat_c, getD_map _ _ _ hj]
    simp only [Un.c, ext_0, ext_s, ext_z, cS_c, cI_c, cB_c, cL_c, cO_c, oS_c, oI_c, oB_c, oL_c, nilC_c, toNat_c]
    rw [w64_s j (by omega), w64_s _ (by omega)]
    refine ⟨?_⟩
    unfold f48_d
    refine bB_of (fun h1 => hN _ ?_) fun h1 => hN _ ?_
    · rw [hc, if_pos h1]
    · rw [hc, if_neg (by rw [h1]; decide)]; rfl
  · rintro x rfl N
    unfold f39_p6b0
    dsimp only
    rw [List.take_length]
    exact bB_f (stopL _) h
theorem f39_1_ok {us : List Un} {f : Bool} (hl : us.length < 2 ^ 40) {st tu : Int} {K : Int → Prop} (h : K (cntO us : Nat)) : f39_1 (us.map Un.c) f st tu K := by
  refine ⟨?_⟩
  unfold f39_1_d f39_1_p6
  rw [List.length_map]
  refine LoopP.inv us.length (fun j x => x = ((((us.take j).countP fun u => u.on : Nat) : Int), (j : Int))) 0 rfl (Nat.zero_le _) (by omega) ?_ ?_
  · rintro j x _ hj rfl N hN
    have hc := countP_take (fun u : Un => u.on) us hj
    have hb := cnt_le (fun u : Un => u.on) (us.take j)
    rw [List.length_take] at hb
    unfold f39_1_p6b0
    dsimp only
    refine bB_t (ltL hj) ⟨rngM _ _ hj, ?_⟩
    rw [toNat_c, getD_map _ _ _ hj]
    simp only [Un.c, ext_0, ext_s, ext_z, cS_c, cI_c, cB_c, cL_c, cO_c, oS_c, oI_c, oB_c, oL_c, nilC_c, toNat_c]
    rw [w64_s j (by omega), w64_s _ (by omega)]
    refine ⟨?_⟩
    unfold f40_d
    refine bB_of (fun h1 => hN _ ?_) fun h1 => hN _ ?_
    · rw [hc, if_pos h1]
    · rw [hc, if_neg (by rw [h1]; decide)]; rfl
  · rintro x rfl N
    unfold f39_1_p6b0
    dsimp only
    rw [List.take_length]
    exact bB_f (stopL _) h
/-- The machines that run: of the first ones. -/
def runs (us : List Un) (j : Nat) : List Nat := (List.range j).filter fun i => (us.getD i Un.no).on
theorem runs_s (us : List Un) {j : Nat} (hj : j < us.length) : runs us (j + 1) = if us[j].on = true then runs us j ++ [j] else runs us j := by
  unfold runs
  rw [List.range_succ, List.filter_append]
  have : (us.getD j Un.no) = us[j] := getD_in _ _ hj
  by_cases h : us[j].on = true
  · rw [if_pos h, List.filter_cons_of_pos (by rw [this]; exact h)]; rfl
  · rw [if_neg h, List.filter_cons_of_neg (by rw [this]; exact h)]; simp
theorem runs_len (us : List Un) : ∀ j, j ≤ us.length → (runs us j).length = (us.take j).countP fun u => u.on
  | 0, _ => rfl
  | j + 1, h => by
    rw [runs_s us (by omega), countP_take _ _ (by omega)]
    have ih := runs_len us j (by omega)
    split <;> simp [ih]
theorem runs_le (us : List Un) (j : Nat) : (runs us j).length ≤ j := by
  unfold runs
  have := List.length_filter_le (fun i => (us.getD i Un.no).on) (List.range j)
  rwa [List.length_range] at this
def runN (us : List Un) : List Nat := runs us us.length
theorem runN_len (us : List Un) : (runN us).length = cntO us := by
  unfold runN cntO
  rw [runs_len us _ (Nat.le_refl _), List.take_length]
theorem f23_ok {us : List Un} {ui un : Nat} {ue : List (List PC)} (hu : SlP ui un ue (us.map Un.c)) (hl : us.length < 2 ^ 40) {st tu : Int} {K : Nat → Nat → List (List PC) → List (List PC) → Prop}
    (h : ∀ i es, SlR i (cntO us) es ((runN us).map ixc) → K i (cntO us) ue es) : f23 ui un st tu ue K := by
  refine ⟨?_⟩
  unfold f23_d f23_p6
  have hn := hu.n
  rw [List.length_map] at hn
  refine LoopP.inv un (fun j x => x.2.2.1 = (j : Int) ∧ SlR x.1 x.2.1 x.2.2.2 ((runs us j).map ixc)) 0 ⟨rfl, SlR.nil⟩ (Nat.zero_le _) (by omega) ?_ ?_
  · rintro j ⟨i, n, x, es⟩ _ hj ⟨rfl, hr⟩ N hN
    have hr : SlR i n es _ := hr
    have hnn := hr.n
    have hrl := runs_le us j
    rw [List.length_map] at hnn
    have hj2 : j < us.length := by omega
    have hs := runs_s us hj2
    have a := hu.atP hj2
    unfold f23_p6b0
    dsimp only
    refine bB_t (decide_eq_true (by omega)) ⟨by omega, ?_⟩
    rw [toNat_c, a.1]
    simp only [Un.c, ext_0, ext_s, ext_z, cS_c, cI_c, cB_c, cL_c, cO_c, oS_c, oI_c, oB_c, oL_c, nilC_c, toNat_c]
    rw [w64_s j (by omega)]
    refine bB_of (fun h1 => ⟨Nat.le_of_eq hr.len, by omega, by omega, hN _ ⟨rfl, ?_⟩⟩) fun h1 => hN _ ⟨rfl, ?_⟩
    · rw [hs, if_pos h1, List.map_append]
      exact hr.push _
    · rw [hs, if_neg (by rw [h1]; decide)]
      exact hr
  · rintro ⟨i, n, x, es⟩ ⟨rfl, hr⟩ N
    have hr : SlR i n es _ := hr
    unfold f23_p6b0
    dsimp only
    refine bB_f (decide_eq_false (by omega)) ?_
    have hnn := hr.n
    rw [hn] at hr hnn
    rw [List.length_map, show runs us us.length = runN us from rfl, runN_len] at hnn
    subst hnn
    exact h _ _ hr
theorem f23_1_ok {us : List Un} {f : Bool} (hl : us.length < 2 ^ 40) {st tu : Int} {K : Nat → Nat → List (List PC) → Prop}
    (h : ∀ i es, SlR i (cntO us) es ((runN us).map ixc) → K i (cntO us) es) : f23_1 (us.map Un.c) f st tu K := by
  refine ⟨?_⟩
  unfold f23_1_d f23_1_p6
  refine LoopP.inv us.length (fun j x => x.2.2.1 = (j : Int) ∧ SlR x.1 x.2.1 x.2.2.2 ((runs us j).map ixc)) 0 ⟨rfl, SlR.nil⟩ (Nat.zero_le _) (by omega) ?_ ?_
  · rintro j ⟨i, n, x, es⟩ _ hj ⟨rfl, hr⟩ N hN
    have hr : SlR i n es _ := hr
    have hnn := hr.n
    have hrl := runs_le us j
    rw [List.length_map] at hnn
    have hs := runs_s us hj
    unfold f23_1_p6b0
    dsimp only
    refine bB_t (ltM _ _ hj) ⟨rngM _ _ hj, ?_⟩
    rw [toNat_c, getD_map _ _ _ hj]
    simp only [Un.c, ext_0, ext_s, ext_z, cS_c, cI_c, cB_c, cL_c, cO_c, oS_c, oI_c, oB_c, oL_c, nilC_c, toNat_c]
    rw [w64_s j (by omega)]
    refine bB_of (fun h1 => ⟨Nat.le_of_eq hr.len, by omega, by omega, hN _ ⟨rfl, ?_⟩⟩) fun h1 => hN _ ⟨rfl, ?_⟩
    · rw [hs, if_pos h1, List.map_append]
      exact hr.push _
    · rw [hs, if_neg (by rw [h1]; decide)]
      exact hr
  · rintro ⟨i, n, x, es⟩ ⟨rfl, hr⟩ N
    have hr : SlR i n es _ := hr
    unfold f23_1_p6b0
    dsimp only
    refine bB_f (stopM _ _) ?_
    have hnn := hr.n
    rw [List.length_map, show runs us us.length = runN us from rfl, runN_len] at hnn
    subst hnn
    exact h _ _ hr
theorem f22_ok {us : List Un} {f : Bool} (hl : us.length < 2 ^ 40) {st tu : Int} {K : List (List PC) → Bool → Prop}
    (h : K ((runN us).map ixc) false) : f22 (us.map Un.c) f st tu K := by
  refine ⟨?_⟩
  unfold f22_d f22_p6
  rw [List.length_map]
  refine LoopP.inv us.length (fun j x => x.2.2.1 = (j : Int) ∧ SlR x.1 x.2.1 x.2.2.2 ((runs us j).map ixc)) 0 ⟨rfl, SlR.nil⟩ (Nat.zero_le _) (by omega) ?_ ?_
  · rintro j ⟨i, n, x, es⟩ _ hj ⟨rfl, hr⟩ N hN
    have hr : SlR i n es _ := hr
    have hnn := hr.n
    have hrl := runs_le us j
    rw [List.length_map] at hnn
    have hs := runs_s us hj
    unfold f22_p6b0
    dsimp only
    refine bB_t (ltL hj) ⟨rngM _ _ hj, ?_⟩
    rw [toNat_c, getD_map _ _ _ hj]
    simp only [Un.c, ext_0, ext_s, ext_z, cS_c, cI_c, cB_c, cL_c, cO_c, oS_c, oI_c, oB_c, oL_c, nilC_c, toNat_c]
    rw [w64_s j (by omega)]
    refine bB_of (fun h1 => ⟨Nat.le_of_eq hr.len, by omega, by omega, hN _ ⟨rfl, ?_⟩⟩) fun h1 => hN _ ⟨rfl, ?_⟩
    · rw [hs, if_pos h1, List.map_append]
      exact hr.push _
    · rw [hs, if_neg (by rw [h1]; decide)]
      exact hr
  · rintro ⟨i, n, x, es⟩ ⟨rfl, hr⟩ N
    have hr : SlR i n es _ := hr
    unfold f22_p6b0
    dsimp only
    refine bB_f (stopL _) ?_
    rw [hr.take]
    exact h
theorem f21_1_ok {us : List Un} {f : Bool} (hl : us.length < 2 ^ 40) {st tu : Int} {K : Nat → Nat → List (List PC) → Prop}
    (h : ∀ i n es, SlR i n es ((ordN us).map ixc) → K i n es) : f21_1 (us.map Un.c) f st tu K := by
  refine ⟨?_⟩
  unfold f21_1_d f21_1_p6
  refine LoopP.inv us.length (fun j x => ∃ acc : List (Ix us), x.2.2.1 = (j : Int) ∧ SlR x.1 x.2.1 x.2.2.2 (acc.map Ix.c) ∧ Srt (ltI us) acc ∧ Stb (ltI us) ((List.finRange us.length).take j) acc) 0 ⟨[], rfl, SlR.nil, .nil, by simp; exact .refl _⟩ (Nat.zero_le _) (by omega) ?_ ?_
  · rintro j ⟨i, n, x, es⟩ _ hj ⟨acc, rfl, hr, hs, ht⟩ N hN
    have hr : SlR i n es _ := hr
    have hnn := hr.n
    have htl := ht.len
    rw [List.length_take, List.length_finRange] at htl
    rw [List.length_map] at hnn
    unfold f21_1_p6b0
    dsimp only
    have key : ∀ {K' : Int → Prop}, (∀ s t, acc = s ++ t → (∀ y ∈ t, ltI us (⟨j, hj⟩ : Ix us) y = true) → (∀ y ∈ s, ltI us (⟨j, hj⟩ : Ix us) y = false) → K' (s.length : Int)) → f21_1_p12 i n (j : Int) (us.map Un.c) f st tu es K' (n : Int) := by
      intro K' hK
      unfold f21_1_p12
      refine LoopP.inv acc.length (fun d y => ∃ s t, acc = s ++ t ∧ t.length = d ∧ y = (s.length : Int) ∧ (∀ y ∈ t, ltI us (⟨j, hj⟩ : Ix us) y = true)) 0 ⟨acc, [], by simp, rfl, by rw [hnn], fun _ h => by cases h⟩ (Nat.zero_le _) (by omega) ?_ ?_
      · have hn0 : n < 2 ^ 41 := by omega
        rintro d y _ hd ⟨s, t, rfl, ht2, rfl, h1⟩ N2 hN2
        rw [List.length_append] at hd
        obtain ⟨T, z, rfl⟩ : ∃ T z, s = T ++ [z] := by
          rcases List.eq_nil_or_concat s with h | ⟨T, z, h⟩
          · subst h; rw [List.length_nil] at hd; omega
          · exact ⟨T, z, by rw [h, List.concat_eq_append]⟩
        simp only [List.length_append, List.length_singleton] at hnn hd
        have e : T ++ [z] ++ t = T ++ z :: t := by simp
        have az := hr.atO (j := T.length) (x := z) (by rw [e]; exact at_mid rfl)
        unfold f21_1_p12b0
        rw [List.length_append, List.length_singleton]
        have e1 : w64 (((T.length + 1 : Nat) : Int) - 1) = ((T.length : Nat) : Int) := by rw [w64_sub1 _ (by omega) (by omega), Nat.add_sub_cancel]
        rw [e1]
        refine bB_t (decide_eq_true (by omega)) ⟨by omega, ?_⟩
        rw [toNat_c, az.1]
        simp only [Ix.c, ext_0, ext_s, ext_z, cS_c, cI_c, cB_c, cL_c, cO_c, oS_c, oI_c, oB_c, oL_c, nilC_c, toNat_c]
        have hz : z.1 < j := fin_mem (ht.mem.2 (by simp))
        refine f38_ok (x := (⟨j, hj⟩ : Ix us)) hz (bB_of (fun h2 => hN2 _ ⟨T, z :: t, by simp, by rw [List.length_cons, ht2], rfl, fun y hy => ?_⟩) fun h2 => ?_)
        · rcases List.mem_cons.1 hy with rfl | hy
          · exact h2
          · exact h1 y hy
        · have := hK (T ++ [z]) t rfl h1 (last_all ltI_o (Srt.app.1 hs).1 h2)
          rw [List.length_append, List.length_singleton] at this
          exact this
      · rintro y ⟨s, t, rfl, ht2, rfl, h1⟩ N2
        rw [List.length_append] at ht2
        obtain rfl : s = [] := List.length_eq_zero_iff.1 (by omega)
        unfold f21_1_p12b0
        exact bB_f (decide_eq_false (by simp)) (hK [] t rfl h1 fun _ h => by cases h)
    refine bB_t (ltM _ _ hj) (key fun s t e h1 h2 => ?_)
    subst e
    rw [List.length_append] at hnn htl
    rw [w64_s j (by omega)]
    refine ⟨by omega, by omega, ?_⟩
    have hr2 : SlR i n es (s.map Ix.c ++ t.map Ix.c) := by rw [← List.map_append]; exact hr
    have T := hr2.ins3 (x := Ix.c (⟨j, hj⟩ : Ix us)) (k := (s.length : Int)) (B := 8) (N := fun a b es => N (a, b, ((j + 1 : Nat) : Int), es)) (by rw [List.length_map]) (by omega) (by omega) fun es' hr' => hN _ ⟨s ++ ⟨j, hj⟩ :: t, rfl, ?_, place_srt ltI_o hs h1 h2, ?_⟩
    · exact ⟨⟨T, T⟩, T⟩
    · show SlR 0 (n + 1) es' _
      rw [List.map_append, List.map_cons]; exact hr'
    · rw [fin_take _ hj]
      exact (ht.app (.refl [(⟨j, hj⟩ : Ix us)])).trans (place_stb ltI_o h1)
  · rintro ⟨i, n, x, es⟩ ⟨acc, rfl, hr, hs, ht⟩ N
    unfold f21_1_p6b0
    dsimp only
    have : (List.finRange us.length).take us.length = List.finRange us.length := List.take_of_length_le (by simp)
    rw [this] at ht
    refine bB_f (stopM _ _) (h _ _ _ ?_)
    rw [← ord_c]
    unfold ordI
    rw [← isortL_of ltI_o hs ht]
    exact hr
end Go.Eng.N
