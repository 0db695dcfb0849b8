/- Leadlag, pure, 2: the order, by the program and by the reference. -/
import Derived.Test.YtbecejhjdagkdaaUB
import Derived.Test.YtbecejhjdagkdaaUC
import Derived.Test.YtbecejhjdagkdaaFn1
set_option linter.unusedVariables false
set_option linter.unusedSimpArgs false
namespace Go.Eng.N
open Go Go.Eng
def ixc (k : Nat) : List PC := [pI (k : Int)]
theorem ixc_len (k : Nat) : (ixc k).length = 1 := rfl
def ordI (us : List Un) : List (Ix us) := isortL (ltI us) (List.finRange us.length)
def ordN (us : List Un) : List Nat := (ordI us).map Fin.val
theorem fin_val (n : Nat) : (List.finRange n).map Fin.val = List.range n := by
  apply List.ext_getElem
  · simp
  · intro i h1 h2
    simp
theorem ordN_perm (us : List Un) : (ordN us).Perm (List.range us.length) := by
  have := ((isortL_stb ltI_o (List.finRange us.length)).perm.map Fin.val).symm
  rwa [fin_val] at this
theorem ord_c (us : List Un) : (ordI us).map Ix.c = (ordN us).map ixc := by
  unfold ordN
  rw [List.map_map]; rfl
theorem fin_c (us : List Un) : (List.finRange us.length).map (Ix.c (us := us)) = (List.range us.length).map ixc := by
  rw [← fin_val, List.map_map]; rfl
theorem ordN_lt {us : List Un} {x : Nat} (h : x ∈ ordN us) : x < us.length := List.mem_range.1 ((ordN_perm us).mem_iff.1 h)
theorem ordN_len (us : List Un) : (ordN us).length = us.length := by rw [(ordN_perm us).length_eq, List.length_range]
theorem f20_ok {us : List Un} {ui un : Nat} {ue : List (List PC)} (hu : SlP ui un ue (us.map Un.c)) (hl : us.length < 2 ^ 40) {st tu : Int} {K : Nat → Nat → List (List PC) → List (List PC) → Prop}
    (h : ∀ i n es, SlR i n es ((ordN us).map ixc) → K i n ue es) : f20 ui un st tu ue K := by
  refine ⟨?_⟩
  unfold f20_d f20_p6
  have hn := hu.n
  rw [List.length_map] at hn
  refine LoopP.inv un (fun j x => x.2.2.1 = (j : Int) ∧ SlR x.1 x.2.1 x.2.2.2 ((List.range j).map ixc)) 0 ⟨rfl, SlR.nil⟩ (Nat.zero_le _) (by omega) ?_ ?_
  · rintro j ⟨i, n, x, es⟩ _ hj ⟨rfl, hr⟩ N hN
    have hr : SlR i n es _ := hr
    have hnn := hr.n
    rw [List.length_map, List.length_range] at hnn
    unfold f20_p6b0
    dsimp only
    refine bB_t (decide_eq_true (by omega)) ⟨Nat.le_of_eq hr.len, by omega, by omega, hN _ ⟨w64_s j (by omega), ?_⟩⟩
    rw [List.range_succ, List.map_append]
    exact hr.push _
  · rintro ⟨i, n, x, es⟩ ⟨rfl, hr⟩ N
    have hr : SlR i n es _ := hr
    have hnn := hr.n
    rw [List.length_map, List.length_range] at hnn
    unfold f20_p6b0
    dsimp only
    refine bB_f (decide_eq_false (by omega)) ?_
    rw [hn, ← fin_c us] at hr
    refine so_top hu (by omega) hr fun es' hr' => h _ _ _ ?_
    rw [← ord_c]; exact hr'
theorem f20_1_ok {us : List Un} {f : Bool} (hl : us.length < 2 ^ 40) {st tu : Int} {K : Nat → Nat → List (List PC) → Prop}
    (h : ∀ i n es, SlR i n es ((ordN us).map ixc) → K i n es) : f20_1 (us.map Un.c) f st tu K := by
  refine ⟨?_⟩
  unfold f20_1_d f20_1_p6
  rw [List.length_map]
  refine LoopP.inv us.length (fun j x => x.2.2.1 = (j : Int) ∧ SlR x.1 x.2.1 x.2.2.2 ((List.range j).map ixc)) 0 ⟨rfl, SlR.nil⟩ (Nat.zero_le _) (by omega) ?_ ?_
  · rintro j ⟨i, n, x, es⟩ _ hj ⟨rfl, hr⟩ N hN
    have hr : SlR i n es _ := hr
    have hnn := hr.n
    rw [List.length_map, List.length_range] at hnn
    unfold f20_1_p6b0
    dsimp only
    refine bB_t (decide_eq_true (by omega)) ⟨Nat.le_of_eq hr.len, by omega, by omega, hN _ ⟨w64_s j (by omega), ?_⟩⟩
    rw [List.range_succ, List.map_append]
    exact hr.push _
  · rintro ⟨i, n, x, es⟩ ⟨rfl, hr⟩ N
    have hr : SlR i n es _ := hr
    have hnn := hr.n
    rw [List.length_map, List.length_range] at hnn
    unfold f20_1_p6b0
    dsimp only
    refine bB_f (decide_eq_false (by omega)) ?_
    rw [← fin_c us] at hr
    refine sp_top (us := us) rfl (by omega) hr fun es' hr' => h _ _ _ ?_
    rw [← ord_c]; exact hr'
/-- What the reference's search from behind finds. -/
theorem split_behind {us : List Un} {acc : List (Ix us)} (hs : Srt (ltI us) acc) {x : Ix us} : ∃ s t, acc = s ++ t ∧ (∀ y ∈ t, ltI us x y = true) ∧ ∀ y ∈ s, ltI us x y = false := by
  induction acc with
  | nil => exact ⟨[], [], rfl, fun _ h => (by cases h), fun _ h => (by cases h)⟩
  | cons z acc ih =>
    obtain ⟨h1, h2⟩ := Srt.cons.1 hs
    obtain ⟨s, t, e, k1, k2⟩ := ih h2
    by_cases hz : ltI us x z = true
    · refine ⟨[], z :: acc, rfl, fun y hy => ?_, fun _ h => by cases h⟩
      rcases List.mem_cons.1 hy with rfl | hy
      · exact hz
      · exact ltI_o.lt_le hz (h1 y hy)
    · refine ⟨z :: s, t, by rw [e]; rfl, k1, fun y hy => ?_⟩
      rcases List.mem_cons.1 hy with rfl | hy
      · simpa using hz
      · exact k2 y hy
theorem f21_p12_sp {us : List Un} {ui un i n : Nat} {ue es : List (List PC)} (hu : SlP ui un ue (us.map Un.c)) {st tu : Int} {acc : List (Ix us)} (hr : SlR i n es (acc.map Ix.c)) (hn : n < 2 ^ 58) (hs : Srt (ltI us) acc) {x : Ix us} (hx : ∀ y ∈ acc, y.1 < x.1) {K : Int → Prop}
    (h : ∀ s t, acc = s ++ t → (∀ y ∈ t, ltI us x y = true) → (∀ y ∈ s, ltI us x y = false) → K (s.length : Int)) : f21_p12 i n (x.1 : Int) ue ui un st tu es K (n : Int) := by
  unfold f21_p12
  have hl := hr.n
  rw [List.length_map] at hl
  refine LoopP.inv acc.length (fun d y => ∃ s t, acc = s ++ t ∧ t.length = d ∧ y = (s.length : Int) ∧ (∀ y ∈ t, ltI us x y = true)) 0 ⟨acc, [], by simp, rfl, by rw [hl], fun _ h => by cases h⟩ (Nat.zero_le _) (by omega) ?_ ?_
  · rintro d y _ hd ⟨s, t, rfl, ht, rfl, h1⟩ N hN
    rw [List.length_append] at hd hl
    obtain ⟨T, z, rfl⟩ : ∃ T z, s = T ++ [z] := by
      rcases List.eq_nil_or_concat s with h | ⟨T, z, h⟩
      · subst h; rw [List.length_nil] at hd; omega
      · exact ⟨T, z, by rw [h, List.concat_eq_append]⟩
    rw [List.length_append, List.length_singleton] at hl hd
    have e : T ++ [z] ++ t = T ++ z :: t := by simp
    have az := hr.atO (j := T.length) (x := z) (by rw [e]; exact at_mid rfl)
    unfold f21_p12b0
    rw [List.length_append, List.length_singleton]
    have e1 : w64 (((T.length + 1 : Nat) : Int) - 1) = ((T.length : Nat) : Int) := by rw [w64_sub1 _ (by omega) (by omega), Nat.add_sub_cancel]
    rw [e1]
    refine bB_t (decide_eq_true (by omega)) ⟨by omega, ?_⟩
    rw [toNat_c, az.1]
    simp only [Ix.c, ext_0, ext_s, ext_z, cS_c, cI_c, cB_c, cL_c, cO_c, oS_c, oI_c, oB_c, oL_c, nilC_c, toNat_c]
    rw [hu.take]
    refine f38_ok (hx z (by simp)) (bB_of (fun h2 => hN _ ⟨T, z :: t, by simp, by rw [List.length_cons, ht], rfl, fun y hy => ?_⟩) fun h2 => ?_)
    · rcases List.mem_cons.1 hy with rfl | hy
      · exact h2
      · exact h1 y hy
    · have := h (T ++ [z]) t rfl h1 (last_all ltI_o (Srt.app.1 hs).1 h2)
      rw [List.length_append, List.length_singleton] at this
      exact this
  · rintro y ⟨s, t, rfl, ht, rfl, h1⟩ N
    rw [List.length_append] at ht
    obtain rfl : s = [] := List.length_eq_zero_iff.1 (by omega)
    unfold f21_p12b0
    exact bB_f (decide_eq_false (by simp)) (h [] t rfl h1 fun _ h => by cases h)
theorem fin_take (m : Nat) {j : Nat} (hj : j < m) : (List.finRange m).take (j + 1) = (List.finRange m).take j ++ [⟨j, hj⟩] := by
  rw [List.take_succ_eq_append_getElem (by simpa using hj)]
  simp
theorem fin_mem {m j : Nat} {y : Fin m} (h : y ∈ (List.finRange m).take j) : y.1 < j := by
  obtain ⟨k, hk, e⟩ := List.getElem_of_mem h
  rw [List.length_take] at hk
  rw [List.getElem_take] at e
  simp at e
  rw [← e]
  show k < j
  omega
theorem f21_ok {us : List Un} {ui un : Nat} {ue : List (List PC)} (hu : SlP ui un ue (us.map Un.c)) (hl : us.length < 2 ^ 40) {st tu : Int} {K : Nat → Nat → List (List PC) → List (List PC) → Prop}
    (h : ∀ i n es, SlR i n es ((ordN us).map ixc) → K i n ue es) : f21 ui un st tu ue K := by
  refine ⟨?_⟩
  unfold f21_d f21_p6
  have hn := hu.n
  rw [List.length_map] at hn
  refine LoopP.inv un (fun j x => ∃ acc : List (Ix us), x.2.2.1 = (j : Int) ∧ SlR x.1 x.2.1 x.2.2.2 (acc.map Ix.c) ∧ Srt (ltI us) acc ∧ Stb (ltI us) ((List.finRange us.length).take j) acc) 0 ⟨[], rfl, SlR.nil, .nil, by simp; exact .refl _⟩ (Nat.zero_le _) (by omega) ?_ ?_
  · rintro j ⟨i, n, x, es⟩ _ hj ⟨acc, rfl, hr, hs, ht⟩ N hN
    have hr : SlR i n es _ := hr
    have hnn := hr.n
    have htl := ht.len
    rw [List.length_take, List.length_finRange] at htl
    rw [List.length_map] at hnn
    unfold f21_p6b0
    dsimp only
    have hj2 : j < us.length := by omega
    refine bB_t (decide_eq_true (by omega)) (f21_p12_sp hu hr (by omega) hs (x := (⟨j, hj2⟩ : Ix us)) (fun y hy => fin_mem (ht.mem.2 hy)) fun s t e h1 h2 => ?_)
    subst e
    rw [List.length_append] at hnn htl
    rw [w64_s j (by omega)]
    refine ⟨by omega, by omega, ?_⟩
    have hr2 : SlR i n es (s.map Ix.c ++ t.map Ix.c) := by rw [← List.map_append]; exact hr
    have T := hr2.ins3 (x := Ix.c (⟨j, hj2⟩ : Ix us)) (k := (s.length : Int)) (B := 8) (N := fun a b es => N (a, b, ((j + 1 : Nat) : Int), es)) (by rw [List.length_map]) (by omega) (by omega) fun es' hr' => hN _ ⟨s ++ ⟨j, hj2⟩ :: t, rfl, ?_, place_srt ltI_o hs h1 h2, ?_⟩
    · exact ⟨⟨T, T⟩, T⟩
    · show SlR 0 (n + 1) es' _
      rw [List.map_append, List.map_cons]; exact hr'
    · rw [fin_take _ hj2]
      exact (ht.app (.refl [(⟨j, hj2⟩ : Ix us)])).trans (place_stb ltI_o h1)
  · rintro ⟨i, n, x, es⟩ ⟨acc, rfl, hr, hs, ht⟩ N
    unfold f21_p6b0
    dsimp only
    have : (List.finRange us.length).take un = List.finRange us.length := List.take_of_length_le (by simp; omega)
    rw [this] at ht
    refine bB_f (decide_eq_false (by omega)) (h _ _ _ ?_)
    rw [← ord_c]
    unfold ordI
    rw [← isortL_of ltI_o hs ht]
    exact hr
end Go.Eng.N
