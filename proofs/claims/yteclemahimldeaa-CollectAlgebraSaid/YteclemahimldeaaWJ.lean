/- Collect, pure, 9: the laws of merging. -/
import Derived.Test.YteclemahimldeaaWI
import Derived.Test.YteclemahimldeaaCR
import Derived.Test.YteclemahimldeaaFn1
set_option linter.unusedVariables false
set_option linter.unusedSimpArgs false
namespace Go.Eng.N
open Go Go.Eng
theorem merge_nil {a b : List Rec} (ha : checkV a = 0) (hb : checkV b = 0) (h : a = [] ∨ b = []) : mergeV a b = (a ++ b, 0) := by
  have go : ∀ {l : List Rec}, checkV l = 0 → a ++ b = l → mergeV a b = (a ++ b, 0) := fun {l} hl e => by
    have ho := Ok.of hl
    rw [mergeV_ok ha hb, e, if_pos ho.plain_si.cf, ho.mrg, if_pos ho.ris]
  rcases h with h | h
  · exact go hb (by rw [h]; rfl)
  · exact go ha (by rw [h, List.append_nil])
theorem app_val (A B : List (List PC)) : List.take ((0 + A.length) + B.length) (List.drop 0 ((List.take (0 + A.length) (List.drop 0 ([] ++ A))) ++ B)) = A ++ B := by
  rw [Nat.zero_add, List.nil_append, List.drop_zero, List.drop_zero, List.take_length, List.take_of_length_le (by rw [List.length_append]; exact Nat.le_refl _)]
theorem f31_ok {a b : List Rec} {f g : Bool} (ha : a.length < 2 ^ 30) (hb : b.length < 2 ^ 30) {K : List (List PC) → Bool → Int → Prop}
    (h : ∀ r f, r = mergeV a b → K (r.1.map Rec.c) f r.2) : f31 (a.map Rec.c) f (b.map Rec.c) g K := by
  refine ⟨?_⟩
  unfold f31_d
  refine f25_ok (by omega) (bB_of (fun q => ?_) fun q => ?_)
  · have := h ([], checkV a) true (by unfold mergeV; rw [if_pos (by simpa using q)])
    exact this
  have qa : checkV a = 0 := by simpa using q
  refine f25_ok (by omega) (bB_of (fun q => ?_) fun q => ?_)
  · have := h ([], checkV b) true (by unfold mergeV; rw [if_neg (by rw [qa]; decide), if_pos (by simpa using q)])
    exact this
  have qb : checkV b = 0 := by simpa using q
  have nil : (a = [] ∨ b = []) → (0 ≤ 0 ∧ (0 + (a.map Rec.c).length) * 48 ≤ 2 ^ 46 ∧ (0 + (a.map Rec.c).length) ≤ 2 ^ 46 ∧ (0 + (0 + (a.map Rec.c).length)) ≤ ([] ++ (a.map Rec.c)).length ∧ ((0 + (a.map Rec.c).length) + (b.map Rec.c).length) * 48 ≤ 2 ^ 46 ∧ ((0 + (a.map Rec.c).length) + (b.map Rec.c).length) ≤ 2 ^ 46 ∧ K (List.take ((0 + (a.map Rec.c).length) + (b.map Rec.c).length) (List.drop 0 ((List.take (0 + (a.map Rec.c).length) (List.drop 0 ([] ++ (a.map Rec.c)))) ++ (b.map Rec.c)))) false 0) := fun hn => by
    have e := merge_nil qa qb hn
    rw [e] at h
    rw [app_val]
    refine ⟨Nat.le_refl _, by simp only [List.length_map]; omega, by simp only [List.length_map]; omega, by simp, by simp only [List.length_map]; omega, by simp only [List.length_map]; omega, ?_⟩
    have := h _ false rfl
    rw [List.map_append] at this
    exact this
  refine bB_of (fun q => nil (.inl (by simpa using q))) fun q => ?_
  have hna : a ≠ [] := by simpa using q
  refine bB_of (fun q => nil (.inr (by simpa using q))) fun q => ?_
  have hnb : b ≠ [] := by simpa using q
  have oa := Ok.of qa
  have ob := Ok.of qb
  rw [mergeV_ok qa qb] at h
  obtain ⟨x, l, rfl⟩ := List.exists_cons_of_ne_nil hna
  obtain ⟨y, k, rfl⟩ := List.exists_cons_of_ne_nil hnb
  have ea := oa.ends
  have eb := ob.ends
  have rx := oa.all x (by simp)
  have ry := ob.all y (by simp)
  have hall := all_app oa.all ob.all
  have hlh := lo_hi hall (by simp)
  have hlo : (if fst y < fst x then fst y else fst x) = loV (x :: l ++ (y :: k)) := by rw [loV_app, ea.1, eb.1]; split <;> omega
  have hhi : (if ((y :: k).getLast hnb).no > ((x :: l).getLast hna).no then ((y :: k).getLast hnb).no else ((x :: l).getLast hna).no) = hiV (x :: l ++ (y :: k)) := by rw [hiV_app, ea.2, eb.2]; split <;> omega
  have hlo1 : 0 ≤ loV (x :: l ++ (y :: k)) := by
    rw [← hlo]
    have r1 := rng_t rx
    have r2 := rng_t ry
    have h1 : 0 ≤ fst x := by unfold fst; split <;> omega
    have h2 : 0 ≤ fst y := by unfold fst; split <;> omega
    split <;> omega
  unfold f31_p19
  have gx : List.getD ((x :: l).map Rec.c) 0 [] = x.c := rfl
  have gy : List.getD ((y :: k).map Rec.c) 0 [] = y.c := rfl
  rw [gx, gy]
  have cx : x.c = [pI x.no, pI x.at_, pI x.k, pI x.v, pI x.q, pI x.g] := rfl
  have cy : y.c = [pI y.no, pI y.at_, pI y.k, pI y.v, pI y.q, pI y.g] := rfl
  rw [cx, cy]
  simp only [ext_0, ext_s, ext_z, cS_c, cI_c, cB_c, cL_c, cO_c, oS_c, oI_c, oB_c, oL_c, nilC_c, toNat_c]
  refine ⟨by rw [List.length_map]; simp <;> omega, by rw [List.length_map]; simp <;> omega, f22_ok rx (f22_ok ry ?_)⟩
  rw [hlo]
  obtain ⟨D, hD⟩ : ∃ D : Nat, loV (x :: l ++ (y :: k)) + (D : Int) = hiV (x :: l ++ (y :: k)) + 1 := ⟨(hiV (x :: l ++ (y :: k)) + 1 - loV (x :: l ++ (y :: k))).toNat, by omega⟩
  have hgo := go_eq oa ob hD
  refine f31_p22_sp oa ob ha hb hna hnb rfl rfl hlo1 (by rw [hhi]; exact hD) (by omega) (fun q => ?_) fun o q hol => ?_
  · rw [hgo] at q
    by_cases hc : cf (plain (x :: l ++ (y :: k)))
    · rw [if_pos hc] at q; cases q
    · rw [if_neg hc] at h
      exact h _ true rfl
  · rw [hgo] at q
    by_cases hc : cf (plain (x :: l ++ (y :: k)))
    · rw [if_pos hc] at q h
      have q := Option.some.inj q
      subst q
      refine f39_ok (by omega) (bB_of (fun q2 => ?_) fun q2 => ?_)
      · rw [if_neg (by rw [Bool.not_eq_true'] at q2; rw [q2]; decide)] at h
        exact h _ true rfl
      · rw [Bool.not_eq_false'] at q2
        rw [if_pos q2] at h
        exact h _ false rfl
    · rw [if_neg hc] at q; cases q
set_option maxHeartbeats 40000000 in
set_option maxRecDepth 10000 in
theorem f10_ok {K : Bool → Prop} (h : K true) : f10 K := by
  repeat (first
    | exact h
    | (refine LoopP.of128 ?_; conv => rhs; reduce)
    | refine And.intro (by decide) ?_
    | (refine And.intro (fun hc => absurd hc (by decide)) ?_)
    | (apply_assumption; conv => rhs; reduce)
    | constructor
    | (intro N hN)
    | (intro hc)
    | (conv => whnf))
theorem small_len {l : List Rec} (h : smallV l = true) : l.length ≤ 40 := by
  unfold smallV at h
  simp only [Bool.and_eq_true, decide_eq_true_eq] at h
  exact h.1
section
variable {a b c : List Rec} {f1 f2 f3 : Bool} {K : Bool → Prop}
theorem f7_ok (h : K true) : f7 (a.map Rec.c) f1 (b.map Rec.c) f2 K := by
  refine ⟨?_⟩
  unfold f7_d
  refine f10_ok (bB_f rfl (f24_ok (bB_of (fun _ => h) fun sa => f24_ok (bB_of (fun _ => h) fun sb => ?_))))
  rw [Bool.not_eq_false'] at sa sb
  have la := small_len sa
  have lb := small_len sb
  unfold f7_p11
  refine f30_ok (by omega) (by omega) fun r f hr hl => f31_ok (by omega) (by omega) fun r' f' hr' => ?_
  obtain rfl : r = r' := hr.trans hr'.symm
  exact bB_t (by simp) (f19_ok (by omega) h)
theorem f8_ok (h : K true) : f8 (a.map Rec.c) f1 (b.map Rec.c) f2 (c.map Rec.c) f3 K := by
  refine ⟨?_⟩
  unfold f8_d
  refine f10_ok (bB_f rfl (f24_ok (bB_of (fun _ => h) fun sa => f24_ok (bB_of (fun _ => h) fun sb => f24_ok (bB_of (fun _ => h) fun sc => ?_)))))
  rw [Bool.not_eq_false'] at sa sb sc
  have la := small_len sa
  have lb := small_len sb
  have lc := small_len sc
  refine f21_ok (by omega) (bB_of (fun _ => h) fun qa => f21_ok (by omega) (bB_of (fun _ => h) fun qb => f21_ok (by omega) (bB_of (fun _ => h) fun qc => ?_)))
  have qa : checkV a = 0 := by simpa using qa
  have qb : checkV b = 0 := by simpa using qb
  have qc : checkV c = 0 := by simpa using qc
  unfold f8_p11
  refine f30_ok (by omega) (by omega) fun r f hr hl => ?_
  rw [merge_self qa] at hr
  subst hr
  refine bB_f (by simp) (f19_ok (by omega) (bB_f rfl ?_))
  unfold f8_p17
  refine f30_ok (by omega) (by omega) fun r f hr hl => f30_ok (by omega) (by omega) fun r' f' hr' hl' => ?_
  obtain rfl : r = r' := hr.trans ((merge_comm qa qb).trans hr'.symm)
  refine bB_f (by simp) (f19_ok (by omega) (bB_f rfl ?_))
  unfold f8_p25
  refine f30_ok (by omega) (by omega) fun z fz hz hlz => bB_of (fun _ => h) fun q1 => bB_of (fun _ => h) fun q2 => ?_
  unfold f8_p31
  refine f30_ok (by omega) (by omega) fun s fs hs hls => f30_ok (by omega) (by omega) fun t ft ht hlt => bB_of (fun _ => h) fun q3 => bB_of (fun _ => h) fun q4 => ?_
  have e : s.1 = t.1 := by
    have q1 : r.2 = 0 := by simpa using q1
    have q2 : z.2 = 0 := by simpa using q2
    have q3 : s.2 = 0 := by simpa using q3
    have q4 : t.2 = 0 := by simpa using q4
    rw [hs, ht, hr, hz]
    rw [hr] at q1
    rw [hz] at q2
    rw [hs, hr] at q3
    rw [ht, hz] at q4
    exact merge_assoc q1 q2 q3 q4
  rw [e]
  exact f19_ok (by omega) h
end
end Go.Eng.N
