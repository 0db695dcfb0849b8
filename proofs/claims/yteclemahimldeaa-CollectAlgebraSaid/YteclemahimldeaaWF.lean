/- Collect, pure, 5: the program's merge. -/
import Derived.Test.YteclemahimldeaaWE
set_option linter.unusedVariables false
set_option linter.unusedSimpArgs false
namespace Go.Eng.N
open Go Go.Eng
theorem pre_cons (n : Int) (r : Rec) (l : List Rec) : pre n (r :: l) = (if r.no > n then [gapR n (r.no - 1)] else []) ++ r :: pre (r.no + 1) l := rfl
theorem okS_cons (n : Int) (r : Rec) (l : List Rec) : okS n (r :: l) = if r.no < n then false else okS (r.no + 1) l := rfl
theorem nxt_cons (n : Int) (r : Rec) (l : List Rec) : nxt n (r :: l) = nxt (r.no + 1) l := rfl
theorem f34_ok {a b : Int} (h1 : -4611686018427387904 ≤ a) (h2 : a ≤ 2305843009213693952) (h3 : -2305843009213693952 ≤ b) (h4 : b ≤ 2305843009213693952) {K : Int → Int → Int → Int → Int → Int → Prop} (h : K b 0 0 0 0 (b - a + 1)) : f34 a b K := by
  refine ⟨?_⟩
  unfold f34_d
  rw [w64_in (n := b - a) (by omega) (by omega), w64_in (by omega) (by omega)]
  exact h
theorem f38_ok {a b : Int} (h1 : -4611686018427387904 ≤ a) (h2 : a ≤ 2305843009213693952) (h3 : -2305843009213693952 ≤ b) (h4 : b ≤ 2305843009213693952) {K : Int → Int → Int → Int → Int → Int → Prop} (h : K b 0 0 0 0 (b - a + 1)) : f38 a b K := by
  refine ⟨?_⟩
  unfold f38_d
  rw [w64_in (n := b - a) (by omega) (by omega), w64_in (by omega) (by omega)]
  exact h
theorem f30_p24_sp {l : List Rec} {i n : Nat} {es : List (List PC)} (hr : SlP i n es (l.map Rec.c)) (hl : l.length < 2 ^ 40) (ha : allR l) {a b : Nat} {K : Int → Int → Prop} (h : K (loV l) (hiV l)) : f30_p24 a b i n ((n : Nat) : Int) es K (1000000000, 0, 0) := by
  unfold f30_p24
  have hn := hr.n
  rw [List.length_map] at hn
  refine LoopP.inv l.length (fun j x => x = ((l.take j).foldl loF 1000000000, (l.take j).foldl hiF 0, (j : Int))) 0 rfl (Nat.zero_le _) (by omega) ?_ ?_
  · rintro j _ _ hj rfl N hN
    have a := hr.atO (List.getElem?_eq_getElem hj)
    have hrr := ha _ (List.getElem_mem hj)
    rw [List.take_succ_eq_append_getElem hj, List.foldl_append, List.foldl_append] at hN
    unfold f30_p24b0
    dsimp only
    refine bB_t (decide_eq_true (by omega)) ⟨by omega, ?_⟩
    rw [toNat_c, a.1, w64_s j (by omega)]
    generalize l[j] = r at hrr hN ⊢
    simp only [Rec.c, ext_0, ext_s, ext_z, cS_c, cI_c, cB_c, cL_c, cO_c, oS_c, oI_c, oB_c, oL_c, nilC_c, toNat_c]
    exact f33_ok hrr (hN _ rfl)
  · rintro _ rfl N
    unfold f30_p24b0
    dsimp only
    rw [List.take_of_length_le (Nat.le_refl _)]
    exact bB_f (decide_eq_false (by omega)) h
theorem f30_p42_sp {ps : List Rec} {i n : Nat} {es : List (List PC)} (hp : SlP i n es (ps.map Rec.c)) (hl : ps.length < 2 ^ 39) (ha : allR ps) {lo m : Int} (hlo : 0 ≤ lo ∧ lo ≤ 1000000001) {K0 : Int → Prop} {K1 : Int → Nat → Nat → List (List PC) → Prop}
    (h0 : okS lo ps = false → K0 10) (h1 : okS lo ps = true → ∀ i n es, SlR i n es ((pre lo ps).map Rec.c) → (pre lo ps).length ≤ 2 * ps.length → 0 ≤ nxt lo ps ∧ nxt lo ps ≤ 1000000001 → K1 (nxt lo ps) i n es) : f30_p42 m i n ((n : Nat) : Int) es K0 K1 (lo, 0, 0, 0, []) := by
  unfold f30_p42
  have hn := hp.n
  rw [List.length_map] at hn
  refine LoopP.inv ps.length (fun j x => ∃ next i' n' out es', x = (next, i', n', (j : Int), es') ∧ SlR i' n' es' (out.map Rec.c) ∧ out ++ pre next (ps.drop j) = pre lo ps ∧ okS next (ps.drop j) = okS lo ps ∧ nxt next (ps.drop j) = nxt lo ps ∧ (0 ≤ next ∧ next ≤ 1000000001) ∧ out.length ≤ 2 * j) 0
    ⟨lo, 0, 0, [], [], rfl, SlR.nil, rfl, rfl, rfl, hlo, by simp⟩ (Nat.zero_le _) (by omega) ?_ ?_
  · rintro j _ _ hj ⟨next, i', n', out, es', rfl, hr, e1, e2, e3, hx, hlen⟩ N hN
    have a := hp.atO (List.getElem?_eq_getElem hj)
    have hrr := rng_t (ha _ (List.getElem_mem hj))
    rw [List.drop_eq_getElem_cons hj] at e1 e2 e3
    have hnn := hr.n
    rw [List.length_map] at hnn
    unfold f30_p42b0
    dsimp only
    refine bB_t (decide_eq_true (by omega)) ⟨by omega, ?_⟩
    rw [toNat_c, a.1, w64_s j (by omega)]
    generalize ps[j] = r at hrr e1 e2 e3 ⊢
    rw [pre_cons] at e1
    rw [okS_cons] at e2
    rw [nxt_cons] at e3
    simp only [Rec.c, ext_0, ext_s, ext_z, cS_c, cI_c, cB_c, cL_c, cO_c, oS_c, oI_c, oB_c, oL_c, nilC_c, toNat_c]
    have ew : w64 (r.no + 1) = r.no + 1 := w64_in (by omega) (by omega)
    have ew2 : w64 (r.no - 1) = r.no - 1 := w64_in (by omega) (by omega)
    refine bB_of (fun q => h0 ?_) fun q => ?_
    · rw [if_pos (of_decide_eq_true q)] at e2; exact e2.symm
    have q := of_decide_eq_false q
    rw [if_neg q] at e2
    unfold f30_p55
    refine bB_of (fun q2 => ?_) fun q2 => ?_
    · rw [if_pos (of_decide_eq_true q2)] at e1
      rw [ew2, ew]
      refine f34_ok (by omega) (by omega) (by omega) (by omega) ⟨Nat.le_of_eq hr.len, by omega, by omega, ?_⟩
      have p1 := hr.push (gapR next (r.no - 1)).c
      have p2 := p1.push r.c
      refine ⟨Nat.le_of_eq p1.len, by omega, by omega, hN _ ⟨r.no + 1, _, _, out ++ [gapR next (r.no - 1)] ++ [r], _, rfl, ?_, ?_, e2, e3, by omega, by simp; omega⟩⟩
      · rw [List.map_append, List.map_append]; exact p2
      · rw [← e1]; simp
    · rw [if_neg (of_decide_eq_false q2)] at e1
      rw [ew]
      have p1 := hr.push r.c
      refine ⟨Nat.le_of_eq hr.len, by omega, by omega, hN _ ⟨r.no + 1, _, _, out ++ [r], _, rfl, ?_, ?_, e2, e3, by omega, by simp; omega⟩⟩
      · rw [List.map_append]; exact p1
      · rw [← e1]; simp
  · rintro _ ⟨next, i', n', out, es', rfl, hr, e1, e2, e3, hx, hlen⟩ N
    unfold f30_p42b0
    dsimp only
    rw [List.drop_eq_nil_of_le (Nat.le_refl _)] at e1 e2 e3
    have e3 : next = nxt lo ps := e3
    have e1 : out = pre lo ps := by simpa [pre] using e1
    have e2 : true = okS lo ps := e2
    subst e1 e3
    exact bB_f (decide_eq_false (by omega)) (h1 e2.symm _ _ _ hr hlen hx)
theorem f30_p65_sp {l : List Rec} {i n : Nat} {es : List (List PC)} (hr : SlR i n es (l.map Rec.c)) (hl : l.length < 2 ^ 40) {K0 K1 : Int → Prop} (h0 : risV 0 l = false → K0 15) (h1 : risV 0 l = true → K1 0) : f30_p65 i n es K0 K1 := by
  unfold f30_p65
  rw [hr.take]
  refine f36_ok hl fun m hm => ?_
  rw [hm]
  exact bB_of (fun q => h0 (by simpa using q)) fun q => h1 (by simpa using q)
theorem checkV_all {l : List Rec} (h : checkV l = 0) : allR l := (Ok.of h).all
theorem f30_ok {a b : List Rec} {f g : Bool} (ha : a.length < 2 ^ 30) (hb : b.length < 2 ^ 30) {K : List (List PC) → Bool → Int → Prop}
    (h : ∀ r f, r = mergeV a b → r.1.length ≤ 2 * (a.length + b.length) + 1 → K (r.1.map Rec.c) f r.2) : f30 (a.map Rec.c) f (b.map Rec.c) g K := by
  refine ⟨?_⟩
  unfold f30_d
  refine f21_ok (by omega) (bB_of (fun q => ?_) fun q => ?_)
  · have := h ([], checkV a) true (by unfold mergeV; rw [if_pos (by simpa using q)]) (by simp)
    exact this
  have qa : checkV a = 0 := by simpa using q
  refine f21_ok (by omega) (bB_of (fun q => ?_) fun q => ?_)
  · have := h ([], checkV b) true (by unfold mergeV; rw [if_neg (by rw [qa]; decide), if_pos (by simpa using q)]) (by simp)
    exact this
  have qb : checkV b = 0 := by simpa using q
  rw [mergeV_ok qa qb] at h
  refine f43_ok ha hb fun i n es hr => ?_
  have hall := all_app (checkV_all qa) (checkV_all qb)
  have hlen : (a ++ b).length = a.length + b.length := List.length_append
  rw [← hlen] at h
  generalize a ++ b = L at *
  have hn := hr.n
  rw [List.length_map] at hn
  refine bB_of (fun q => ?_) fun q => ?_
  · have hL : L = [] := List.eq_nil_of_length_eq_zero (by simp at q; omega)
    subst hL
    rw [if_pos (by decide), if_pos (by decide)] at h
    exact h _ true rfl (by simp [mrg_nil])
  have hL : L ≠ [] := by rintro rfl; subst hn; simp at q
  have hlh := lo_hi hall hL
  have hlo1 : 0 ≤ loV L := by
    rcases loF_at L 1000000000 with e | ⟨r, hr, e⟩
    · unfold loV; omega
    · have := rng_t (hall r hr)
      have e2 : 0 ≤ fst r := by unfold fst; split <;> omega
      unfold loV; omega
  have hhi1 : hiV L ≤ 1000000000 := by
    rcases hiF_at L 0 with e | ⟨r, hr, e⟩
    · unfold hiV; omega
    · have := rng_t (hall r hr)
      unfold hiV; omega
  refine f30_p24_sp hr (by omega) hall ?_
  refine f42_ok hr (by omega) fun m1 es1 hr1 => ?_
  have hpl : (plain L).length ≤ L.length := List.length_filter_le _ _
  have hn1 := hr1.n
  rw [List.length_map] at hn1
  refine so_top (by omega) hr1 fun es2 hr2 => ?_
  have hil := (isortL_stb ltR_o (plain L)).len
  refine f48_ok hr2 (by omega) fun m3 es3 hr3 => ?_
  change SlP _ _ _ ((unq L).map Rec.c) at hr3
  have hul := unq_len L
  have hua : allR (unq L) := fun r hr => hall r (mem_plain.1 ((unq_mem r).1 hr)).1
  refine f30_p42_sp hr3 (by omega) hua (by omega) (fun q => ?_) fun q i4 n4 es4 hr4 hl4 hx => ?_
  · rw [if_neg (fun hc => by rw [(ok_unq hall).2 hc] at q; cases q)] at h
    exact h _ true rfl (by simp)
  · rw [if_pos ((ok_unq hall).1 q)] at h
    have hM := fill_pre (hiV L) (loV L) (unq L)
    have hM : mrg L = _ := hM
    have hn4 := hr4.n
    rw [List.length_map] at hn4
    have fin : ∀ {i n : Nat} {es : List (List PC)}, SlR i n es ((mrg L).map Rec.c) → (mrg L).length ≤ 2 * L.length + 1 → f30_p65 i n es (fun n => K [] true n) (fun n' => K (List.take n (List.drop i es)) false n') := fun {i n es} hr5 hl5 => by
      refine f30_p65_sp hr5 (by omega) (fun q => ?_) fun q => ?_
      · rw [if_neg (by rw [q]; decide)] at h
        exact h _ true rfl (by simp)
      · rw [if_pos q] at h
        rw [hr5.take]
        exact h _ false rfl hl5
    refine bB_of (fun q2 => ?_) fun q2 => ?_
    · rw [if_pos (of_decide_eq_true q2)] at hM
      refine f34_ok (by omega) (by omega) (by omega) (by omega) ⟨Nat.le_of_eq hr4.len, by omega, by omega, fin ?_ (by rw [hM]; simp; omega)⟩
      rw [hM, List.map_append]
      exact hr4.push (gapR (nxt (loV L) (unq L)) (hiV L)).c
    · rw [if_neg (of_decide_eq_false q2), List.append_nil] at hM
      exact fin (by rw [hM]; exact hr4) (by rw [hM]; omega)
end Go.Eng.N
