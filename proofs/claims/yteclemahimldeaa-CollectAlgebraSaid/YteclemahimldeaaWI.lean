/- Collect, pure, 8: the reference's loop; the laws. -/
import Derived.Test.YteclemahimldeaaWH
set_option linter.unusedVariables false
set_option linter.unusedSimpArgs false
namespace Go.Eng.N
open Go Go.Eng
section
variable {a b : List Rec} {f1 f2 f3 : Bool}
/-- The end of a round: what is put in. -/
theorem f31_p37_sp {i n : Nat} {es : List (List PC)} {out : List Rec} (hes : List.take n (List.drop i es) = out.map Rec.c) (hl : out.length < 2 ^ 38) (hbd : ∀ x ∈ out, Bd x) (ha : allR a) (hb : allR b) {m : Int} (h0 : 0 ≤ m) (h1 : m ≤ 1000000000) {x y : Rec} (hx : x = (fnd a m).getD r0) (hy : y = (fnd b m).getD r0)
    (hxy : ∀ x y, fnd a m = some x → fnd b m = some y → x = y) {K : List (List PC) → Bool → List (List PC) → Bool → List (List PC) → Bool → Int → Prop} (h : ∀ o, step1 a b m out = some o → K (a.map Rec.c) f1 (b.map Rec.c) f2 (o.map Rec.c) false m) :
    f31_p37_0 (a.map Rec.c) f1 (b.map Rec.c) f2 i n m (fnd a m).isSome (fnd b m).isSome es x.no x.at_ x.k x.v x.q x.g y.no y.at_ y.k y.v y.q y.g K := by
  unfold f31_p37_0
  rw [hes]
  unfold step1 at h
  cases fa : fnd a m with
  | some x' =>
    have e : x = x' := by rw [hx, fa]; rfl
    subst e
    have hxx := fnd_t fa
    have hr := rng_t (ha _ hxx.1)
    refine bB_t rfl (f37_ok hl hbd (by omega) (h _ ?_))
    rw [fa]
    cases fb : fnd b m with
    | none => rfl
    | some y' => dsimp only; rw [if_pos (hxy _ _ fa fb)]
  | none =>
    cases fb : fnd b m with
    | some y' =>
      have e : y = y' := by rw [hy, fb]; rfl
      subst e
      have hyy := fnd_t fb
      have hr := rng_t (hb _ hyy.1)
      refine bB_f rfl (bB_t rfl (f37_ok hl hbd (by omega) (h _ ?_)))
      rw [fa, fb]
    | none =>
      refine bB_f rfl (bB_f rfl (f38_ok (by omega) (by omega) (by omega) (by omega) ?_))
      have := f37_ok (f := false) hl hbd (r := gapR m m) ⟨h0, h1⟩ (K := fun es85 full86 => K (a.map Rec.c) f1 (b.map Rec.c) f2 es85 full86 m) (h _ (by rw [fa, fb]))
      exact this
theorem f31_p37_1_eq {x y : Rec} {m : Int} {es : List (List PC)} {bx bY : Bool} {K : List (List PC) → Bool → List (List PC) → Bool → List (List PC) → Bool → Int → Prop}
    (h : f31_p37_0 (a.map Rec.c) f1 (b.map Rec.c) f2 0 es.length m bx bY es x.no x.at_ x.k x.v x.q x.g y.no y.at_ y.k y.v y.q y.g K) (hf : f3 = false) :
    f31_p37_1 (a.map Rec.c) f1 (b.map Rec.c) f2 es f3 m bx bY x.no x.at_ x.k x.v x.q x.g y.no y.at_ y.k y.v y.q y.g K := by
  subst hf
  unfold f31_p37_0 at h
  unfold f31_p37_1
  rw [List.drop_zero, List.take_length] at h
  exact h
theorem last_at {l : List Rec} (h : l ≠ []) : (0 ≤ (((l.length - 1 : Nat)) : Int) ∧ (((l.length - 1 : Nat)) : Int) < (((l.map Rec.c).length : Nat) : Int)) ∧ w64 ((((l.map Rec.c).length : Nat) : Int) - 1) = w64 (((l.length : Nat) : Int) - 1) ∧ List.getD (l.map Rec.c) (l.length - 1) [] = (l.getLast h).c := by
  have hp := List.length_pos_iff.2 h
  refine ⟨by rw [List.length_map]; omega, by rw [List.length_map], ?_⟩
  rw [getD_map _ _ _ (by omega), List.getLast_eq_getElem]
theorem f31_p22_sp (ha : Ok a) (hb : Ok b) (hal : a.length < 2 ^ 30) (hbl : b.length < 2 ^ 30) (hna : a ≠ []) (hnb : b ≠ []) {la lb : Int} (hla : la = (a.getLast hna).no) (hlb : lb = (b.getLast hnb).no) {lo : Int} {D : Nat} (hlo : 0 ≤ lo) (hd : lo + (D : Int) = (if lb > la then lb else la) + 1) (hD : 0 < D)
    {K0 : Int → Prop} {K1 : Nat → Nat → List (List PC) → Prop} {K2 : List (List PC) → Bool → Prop}
    (h0 : refGo a b lo D [] = none → K0 10) (h2 : ∀ o, refGo a b lo D [] = some o → o.length < 2 ^ 38 → K2 (o.map Rec.c) false) :
    f31_p22 K0 K1 K2 (.inl (a.map Rec.c, f1, b.map Rec.c, f2, 0, 0, lo, [])) := by
  unfold f31_p22
  have hra := rng_t (ha.all _ (List.getLast_mem hna))
  have hrb := rng_t (hb.all _ (List.getLast_mem hnb))
  rw [← hla] at hra
  rw [← hlb] at hrb
  have hhi : (if lb > la then lb else la) ≤ 1000000000 ∧ 1 ≤ (if lb > la then lb else la) := by split <;> omega
  have la1 := last_at hna
  have lb1 := last_at hnb
  have hpa := List.length_pos_iff.2 hna
  have hpb := List.length_pos_iff.2 hnb
  have wa : w64 ((((a.map Rec.c).length : Nat) : Int) - 1) = ((a.length - 1 : Nat) : Int) := by rw [la1.2.1, w64_sub1 _ (by omega) (by omega)]
  have wb : w64 ((((b.map Rec.c).length : Nat) : Int) - 1) = ((b.length - 1 : Nat) : Int) := by rw [lb1.2.1, w64_sub1 _ (by omega) (by omega)]
  refine LoopP.inv D (fun j x => ∃ out, refGo a b (lo + (j : Int)) (D - j) out = refGo a b lo D [] ∧ out.length ≤ j ∧ (∀ x ∈ out, Bd x) ∧ (∀ x ∈ out, x.no ≤ lo + (j : Int)) ∧ ((j = 0 ∧ out = [] ∧ x = .inl (a.map Rec.c, f1, b.map Rec.c, f2, 0, 0, lo, [])) ∨ (0 < j ∧ x = .inr (a.map Rec.c, f1, b.map Rec.c, f2, out.map Rec.c, false, lo + (j : Int))))) 0
    ⟨[], by simp, Nat.zero_le _, (fun x hx => by cases hx), (fun x hx => by cases hx), .inl ⟨rfl, rfl, rfl⟩⟩ (Nat.zero_le _) (by omega) ?_ ?_
  · rintro j x _ hj ⟨out, hgo, hlen, hbd, hno, hx⟩ N hN
    obtain ⟨e, he⟩ : ∃ e, D - j = e + 1 := ⟨D - j - 1, by omega⟩
    have he2 : D - (j + 1) = e := by omega
    rw [he, go_step] at hgo
    have hm0 : 0 ≤ lo + (j : Int) := by omega
    have hm1 : lo + (j : Int) ≤ 1000000000 := by omega
    have hin : lo + (j : Int) ≤ if lb > la then lb else la := by omega
    have ew : w64 (lo + (j : Int) + 1) = lo + ((j + 1 : Nat) : Int) := by rw [w64_in (by omega) (by omega)]; omega
    have nxt : ∀ o, step1 a b (lo + (j : Int)) out = some o → N (.inr (a.map Rec.c, f1, b.map Rec.c, f2, o.map Rec.c, false, w64 (lo + (j : Int) + 1))) := fun o ho => by
      rw [ew]
      have hs := step_ok ha.all hb.all hm0 hm1 hbd hno ho
      refine hN _ ⟨o, ?_, by omega, hs.2.1, fun x hx => by have := hs.2.2 x hx; omega, .inr ⟨by omega, rfl⟩⟩
      rw [ho, Option.bind_some] at hgo
      rw [he2, show lo + ((j + 1 : Nat) : Int) = lo + (j : Int) + 1 by omega]
      exact hgo
    have body : ∀ (i n : Nat) (es : List (List PC)), List.take n (List.drop i es) = out.map Rec.c →
        f49 (a.map Rec.c) f1 (lo + (j : Int)) (fun n47 n48 n49 n50 n51 n52 b53 => f49 (b.map Rec.c) f2 (lo + (j : Int)) (fun n54 n55 n56 n57 n58 n59 b60 => bB b53 (bB b60 (bB (!((n47 == n54) && ((n48 == n55) && ((n49 == n56) && ((n50 == n57) && ((n51 == n58) && ((n52 == n59) && true))))))) (K0 10) (f31_p37_0 (a.map Rec.c) f1 (b.map Rec.c) f2 i n (lo + (j : Int)) b53 b60 es n47 n48 n49 n50 n51 n52 n54 n55 n56 n57 n58 n59 (fun es128 full129 es130 full131 es132 full133 n134 => N (.inr (es128, full129, es130, full131, es132, full133, (w64 (n134 + 1))))))) (f31_p37_0 (a.map Rec.c) f1 (b.map Rec.c) f2 i n (lo + (j : Int)) b53 b60 es n47 n48 n49 n50 n51 n52 n54 n55 n56 n57 n58 n59 (fun es135 full136 es137 full138 es139 full140 n141 => N (.inr (es135, full136, es137, full138, es139, full140, (w64 (n141 + 1))))))) (f31_p37_0 (a.map Rec.c) f1 (b.map Rec.c) f2 i n (lo + (j : Int)) b53 b60 es n47 n48 n49 n50 n51 n52 n54 n55 n56 n57 n58 n59 (fun es142 full143 es144 full145 es146 full147 n148 => N (.inr (es142, full143, es144, full145, es146, full147, (w64 (n148 + 1)))))))) := by
      intro i n es hes
      refine f49_ok (by omega) fun x hx => f49_ok (by omega) fun y hy => ?_
      have go : (∀ x y, fnd a (lo + (j : Int)) = some x → fnd b (lo + (j : Int)) = some y → x = y) → f31_p37_0 (a.map Rec.c) f1 (b.map Rec.c) f2 i n (lo + (j : Int)) (fnd a (lo + (j : Int))).isSome (fnd b (lo + (j : Int))).isSome es x.no x.at_ x.k x.v x.q x.g y.no y.at_ y.k y.v y.q y.g (fun es128 full129 es130 full131 es132 full133 n134 => N (.inr (es128, full129, es130, full131, es132, full133, (w64 (n134 + 1))))) := fun hq =>
        f31_p37_sp hes (by omega) hbd ha.all hb.all hm0 hm1 hx hy hq nxt
      refine bB_of (fun q1 => bB_of (fun q2 => ?_) fun q2 => go fun x y h1 h2 => by rw [h2] at q2; cases q2) fun q1 => go fun x y h1 h2 => by rw [h1] at q1; cases q1
      rw [eq6]
      obtain ⟨x', fx⟩ := Option.isSome_iff_exists.1 q1
      obtain ⟨y', fy⟩ := Option.isSome_iff_exists.1 q2
      have hx' : x = x' := by rw [hx, fx]; rfl
      have hy' : y = y' := by rw [hy, fy]; rfl
      refine bB_of (fun q3 => h0 ?_) fun q3 => go fun x2 y2 h1 h2 => ?_
      · rw [← hgo]
        unfold step1
        rw [fx, fy]
        dsimp only
        rw [if_neg (by rw [← hx', ← hy']; simpa using q3)]; rfl
      · rw [fx] at h1
        rw [fy] at h2
        rw [← Option.some.inj h1, ← Option.some.inj h2, ← hx', ← hy']
        simpa using q3
    rcases hx with ⟨rfl, rfl, rfl⟩ | ⟨hj0, rfl⟩
    · have body := body 0 0 [] rfl
      unfold f31_p22b0
      dsimp only
      rw [wa, wb, toNat_c, toNat_c, la1.2.2, lb1.2.2]
      simp only [Rec.c, ext_0, ext_s, ext_z, cS_c, cI_c, cB_c, cL_c, cO_c, oS_c, oI_c, oB_c, oL_c, nilC_c, toNat_c]
      rw [← hla, ← hlb]
      have e0 : lo + ((0 : Nat) : Int) = lo := by omega
      rw [e0] at body hin
      exact ⟨la1.1, lb1.1, bB_t (decide_eq_true hin) body⟩
    · have body := body 0 (out.map Rec.c).length (out.map Rec.c) (by rw [List.drop_zero, List.take_length])
      unfold f31_p22b1
      dsimp only
      rw [wa, wb, toNat_c, toNat_c, la1.2.2, lb1.2.2]
      simp only [Rec.c, ext_0, ext_s, ext_z, cS_c, cI_c, cB_c, cL_c, cO_c, oS_c, oI_c, oB_c, oL_c, nilC_c, toNat_c]
      rw [← hla, ← hlb]
      refine ⟨la1.1, lb1.1, bB_t (decide_eq_true hin) ?_⟩
      have hp1 : f31_p37_1 = fun es149 full150 es151 full152 es153 full154 n155 b164 b171 n158 n159 n160 n161 n162 n163 n165 n166 n167 n168 n169 n170 k0 => f31_p37_1 es149 full150 es151 full152 es153 full154 n155 b164 b171 n158 n159 n160 n161 n162 n163 n165 n166 n167 n168 n169 n170 k0 := rfl
      have hq : ∀ m b1 b2 n1 n2 n3 n4 n5 n6 m1 m2 m3 m4 m5 m6 K, f31_p37_0 (a.map Rec.c) f1 (b.map Rec.c) f2 0 (out.map Rec.c).length m b1 b2 (out.map Rec.c) n1 n2 n3 n4 n5 n6 m1 m2 m3 m4 m5 m6 K = f31_p37_1 (a.map Rec.c) f1 (b.map Rec.c) f2 (out.map Rec.c) false m b1 b2 n1 n2 n3 n4 n5 n6 m1 m2 m3 m4 m5 m6 K := by
        intros
        unfold f31_p37_0 f31_p37_1
        rw [List.drop_zero, List.take_length]
      simp only [hq] at body
      exact body
  · rintro x ⟨out, hgo, hlen, hbd, hno, hx⟩ N
    rw [Nat.sub_self] at hgo
    rcases hx with ⟨h, _, _⟩ | ⟨hj0, rfl⟩
    · omega
    · unfold f31_p22b1
      dsimp only
      rw [wa, wb, toNat_c, toNat_c, la1.2.2, lb1.2.2]
      simp only [Rec.c, ext_0, ext_s, ext_z, cS_c, cI_c, cB_c, cL_c, cO_c, oS_c, oI_c, oB_c, oL_c, nilC_c, toNat_c]
      rw [← hla, ← hlb]
      refine ⟨la1.1, lb1.1, bB_f (decide_eq_false (by omega)) (h2 out ?_ (by omega))⟩
      rw [← hgo]; rfl
end
end Go.Eng.N
