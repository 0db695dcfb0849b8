/- Collect, pure, 6: the reference's merge. -/
import Derived.Test.YteclemahimldeaaWF
set_option linter.unusedVariables false
set_option linter.unusedSimpArgs false
namespace Go.Eng.N
open Go Go.Eng
def fnd (l : List Rec) (n : Int) : Option Rec := l.find? fun r => r.g == 0 && r.no == n
theorem fnd_t {l : List Rec} {n : Int} {x : Rec} (h : fnd l n = some x) : x ∈ l ∧ x.g = 0 ∧ x.no = n := by
  unfold fnd at h
  have h1 := List.mem_of_find?_eq_some h
  have h2 := List.find?_some h
  exact ⟨h1, by simpa using h2⟩
theorem fnd_f {l : List Rec} {n : Int} (h : fnd l n = none) : ∀ x ∈ l, x.g = 0 → x.no ≠ n := by
  unfold fnd at h
  rw [List.find?_eq_none] at h
  intro x hx hg e
  exact h x hx (by simp [hg, e])
theorem f49_ok {l : List Rec} {f : Bool} (hl : l.length < 2 ^ 40) {n : Int} {K : Int → Int → Int → Int → Int → Int → Bool → Prop}
    (h : ∀ x, x = (fnd l n).getD r0 → K x.no x.at_ x.k x.v x.q x.g (fnd l n).isSome) : f49 (l.map Rec.c) f n K := by
  refine ⟨?_⟩
  unfold f49_d f49_p4
  refine LoopP.find l (fun r => r.g == 0 && r.no == n) (A := fun j => ∀ hj : j < l.length, K l[j].no l[j].at_ l[j].k l[j].v l[j].q l[j].g true) (B := K 0 0 0 0 0 0 false) (by omega) (fun j hj hq hb hj2 => ?_) (fun hq => ?_) (fun j hj N hA hN => ?_) fun N hB => ?_
  · have e : fnd l n = some l[j] := by
      unfold fnd
      rw [List.find?_eq_some_iff_getElem]
      exact ⟨hq, j, hj, rfl, fun i hi => by rw [hb i hi]; rfl⟩
    rw [e] at h
    exact h _ rfl
  · have e : fnd l n = none := by
      unfold fnd
      rw [List.find?_eq_none]
      intro x hx
      rw [hq x hx]; decide
    rw [e] at h
    exact h r0 rfl
  · unfold f49_p4b0
    refine bB_t (ltM _ _ hj) ⟨rngM _ _ hj, ?_⟩
    have hA2 := fun q => hA q hj
    rw [toNat_c, getD_map _ _ _ hj, w64_s j (by omega)]
    generalize l[j] = r at hA2 hN ⊢
    simp only [Rec.c, ext_0, ext_s, ext_z, cS_c, cI_c, cB_c, cL_c, cO_c, oS_c, oI_c, oB_c, oL_c, nilC_c, toNat_c]
    refine bB_of (fun q1 => ⟨rngM _ _ hj, bB_of (fun q2 => ⟨rngM _ _ hj, hA2 (by rw [q1, q2]; rfl)⟩) fun q2 => hN (by rw [q2]; simp)⟩) fun q1 => hN (by rw [q1]; rfl)
  · unfold f49_p4b0
    exact bB_f (stopM _ _) hB
def addR (out : List Rec) (r : Rec) : List Rec := if out ≠ [] ∧ (out.getLast?.getD r0).g > 0 ∧ r.g > 0 then out.dropLast ++ [gapR (fst (out.getLast?.getD r0)) r.no] else out ++ [r]
/-- What the reference's list holds while it grows. -/
structure Bd (x : Rec) : Prop where
  lo : 0 ≤ fst x
  le : fst x ≤ x.no
  hi : x.no ≤ 1000000000
  g : 0 ≤ x.g
theorem f22_ok' {r : Rec} (hr : Bd r) {K : Int → Prop} (h : K (fst r)) : f22 r.no r.at_ r.k r.v r.q r.g K := by
  refine ⟨?_⟩
  unfold f22_d
  have h1 := hr.lo
  have h2 := hr.le
  have h3 := hr.hi
  have h4 := hr.g
  unfold fst at h h1 h2
  refine bB_of (fun q => ?_) fun q => ?_
  · have q := of_decide_eq_true q
    rw [if_pos q] at h h1 h2
    rw [w64_in (n := r.no - r.g) (by omega) (by omega), w64_in (by omega) (by omega)]
    exact h
  · rw [if_neg (of_decide_eq_false q)] at h; exact h
theorem f37_ok {l : List Rec} {f : Bool} (hl : l.length < 2 ^ 38) (hb : ∀ x ∈ l, Bd x) {r : Rec} (hr : 0 ≤ r.no ∧ r.no ≤ 1000000000) {K : List (List PC) → Bool → Prop} (h : K ((addR l r).map Rec.c) false) : f37 (l.map Rec.c) f r.no r.at_ r.k r.v r.q r.g K := by
  refine ⟨?_⟩
  unfold f37_d
  have ap : ¬ (l ≠ [] ∧ (l.getLast?.getD r0).g > 0 ∧ r.g > 0) → (0 ≤ 0 ∧ (0 + (l.map Rec.c).length) * 48 ≤ 2 ^ 46 ∧ (0 + (l.map Rec.c).length) ≤ 2 ^ 46 ∧ (0 + (0 + (l.map Rec.c).length)) ≤ ([] ++ (l.map Rec.c)).length ∧ ((0 + (l.map Rec.c).length) + 1) * 48 ≤ 2 ^ 46 ∧ ((0 + (l.map Rec.c).length) + 1) ≤ 2 ^ 46 ∧
      K (List.take ((0 + (l.map Rec.c).length) + 1) (List.drop 0 ((List.take (0 + (l.map Rec.c).length) (List.drop 0 ([] ++ (l.map Rec.c)))) ++ [[pI r.no, pI r.at_, pI r.k, pI r.v, pI r.q, pI r.g]]))) false) := by
    intro hc
    unfold addR at h
    rw [if_neg hc] at h
    refine ⟨Nat.le_refl _, by rw [List.length_map]; omega, by rw [List.length_map]; omega, by simp, by rw [List.length_map]; omega, by rw [List.length_map]; omega, ?_⟩
    have e : List.take ((0 + (l.map Rec.c).length) + 1) (List.drop 0 ((List.take (0 + (l.map Rec.c).length) (List.drop 0 ([] ++ (l.map Rec.c)))) ++ [[pI r.no, pI r.at_, pI r.k, pI r.v, pI r.q, pI r.g]])) = (l ++ [r]).map Rec.c := by
      rw [Nat.zero_add, List.nil_append, List.drop_zero, List.drop_zero, List.take_length, List.take_of_length_le (by simp), List.map_append]
      rfl
    rw [e]; exact h
  refine bB_of (fun q => ?_) fun q => ?_
  · have q := of_decide_eq_true q
    rw [List.length_map] at q ⊢
    have hlp : 0 < l.length := by omega
    have hne : l ≠ [] := List.length_pos_iff.1 hlp
    have hj : l.length - 1 < l.length := by omega
    have hgl : l.getLast?.getD r0 = l[l.length - 1] := by
      rw [List.getLast?_eq_getElem?, List.getElem?_eq_getElem hj]; rfl
    have hbd := hb _ (List.getElem_mem hj)
    rw [w64_sub1 _ (by omega) (by omega), toNat_c, getD_map _ _ _ hj]
    rw [hgl] at ap
    have hlast : l.dropLast = l.take (l.length - 1) := List.dropLast_eq_take ..
    refine ⟨by omega, ?_⟩
    unfold addR at h
    rw [hgl] at h
    generalize l[l.length - 1] = x at h ap hbd ⊢
    have e5 : oI IntKind.i64 (ext x.c 5 1) = oI .i64 [pI x.g] := rfl
    rw [e5]
    simp only [ext_0, ext_s, ext_z, cS_c, cI_c, cB_c, cL_c, cO_c, oS_c, oI_c, oB_c, oL_c, nilC_c, toNat_c]
    refine bB_of (fun q1 => bB_of (fun q2 => ?_) fun q2 => ?_) fun q1 => ?_
    · have q1 := of_decide_eq_true q1
      have q2 := of_decide_eq_true q2
      rw [if_pos ⟨hne, q1, q2⟩, hlast] at h
      simp only [Rec.c, ext_0, ext_s, ext_z, cS_c, cI_c, cB_c, cL_c, cO_c, oS_c, oI_c, oB_c, oL_c, nilC_c, toNat_c]
      have e6 : ext (l.map Rec.c) 0 (l.length - 1 - 0) = (l.take (l.length - 1)).map Rec.c := by unfold ext; simp
      have e6' : ext (List.map (fun r => [pI r.no, pI r.at_, pI r.k, pI r.v, pI r.q, pI r.g]) l) 0 (l.length - 1 - 0) = (l.take (l.length - 1)).map Rec.c := e6
      have hlo := hbd.lo
      have hle := hbd.le
      have hhi := hbd.hi
      simp only [e6', e6]
      have hll : ((l.take (l.length - 1)).map Rec.c).length = l.length - 1 := by simp <;> omega
      refine ⟨by omega, by omega, Nat.le_refl _, by omega, by omega, f22_ok' hbd (f38_ok (by omega) (by omega) (by omega) (by omega) ⟨by simp, by omega, by omega, ?_⟩)⟩
      rw [Nat.zero_add, List.nil_append, List.drop_zero, List.drop_zero, List.take_length, List.take_of_length_le (by simp)]
      rw [List.map_append] at h
      exact h
    · have ap := ap (fun hc => by have := of_decide_eq_false q2; exact this hc.2.2)
      simp only [List.length_map] at ap
      exact ⟨⟨ap, ap⟩, ap⟩
    · have ap := ap (fun hc => by have := of_decide_eq_false q1; exact this hc.2.1)
      simp only [List.length_map] at ap
      exact ⟨⟨ap, ap⟩, ap⟩
  · have q := of_decide_eq_false q
    rw [List.length_map] at q
    have ap := ap (fun hc => by have := List.length_pos_iff.2 hc.1; omega)
    exact ⟨⟨ap, ap⟩, ap⟩
/-! ### The walk over the numbers -/
def refGo (a b : List Rec) : Int → Nat → List Rec → Option (List Rec)
  | _, 0, out => some out
  | n, d + 1, out => match fnd a n, fnd b n with
    | some x, some y => if x = y then refGo a b (n + 1) d (addR out x) else none
    | some x, none => refGo a b (n + 1) d (addR out x)
    | none, some y => refGo a b (n + 1) d (addR out y)
    | none, none => refGo a b (n + 1) d (addR out (gapR n n))
def pick (a b : List Rec) (n : Int) : List Rec := match fnd a n with
  | some x => [x]
  | none => match fnd b n with
    | some y => [y]
    | none => []
def psF (a b : List Rec) : Int → Nat → List Rec
  | _, 0 => []
  | n, d + 1 => pick a b n ++ psF a b (n + 1) d
def noC (a b : List Rec) (n : Int) (d : Nat) : Prop := ∀ m : Int, n ≤ m → m < n + (d : Int) → ∀ x y, fnd a m = some x → fnd b m = some y → x = y
theorem addR_p {out : List Rec} {x : Rec} (h : x.g = 0) : addR out x = out ++ [x] := by
  unfold addR
  rw [if_neg (by omega)]
theorem addR_g {out : List Rec} {s n : Int} (h : s ≤ n - 1) : addR (out ++ [gapR s (n - 1)]) (gapR n n) = out ++ [gapR s n] := by
  unfold addR
  rw [List.getLast?_concat, if_pos ⟨by simp, by show (n - 1) - s + 1 > 0; omega, by show n - n + 1 > 0; omega⟩, List.dropLast_concat]
  show out ++ [gapR (fst (gapR s (n - 1))) n] = _
  rw [gap_fst h]
theorem fill_cons_eq {n last : Int} {x : Rec} {l : List Rec} (h : x.no = n) : fillL n last (x :: l) = x :: fillL (n + 1) last l := by
  rw [fillL, if_neg (by omega), h]; rfl
theorem fill_cons_gt {s n last : Int} {x : Rec} {l : List Rec} (h : x.no = n) (hs : s ≤ n - 1) : fillL s last (x :: l) = gapR s (n - 1) :: x :: fillL (n + 1) last l := by
  rw [fillL, if_pos (by omega), h]; rfl
theorem go_some {a b : List Rec} : ∀ (d : Nat) (n : Int), noC a b n d →
    (∀ out : List Rec, (out = [] ∨ ((out.getLast?).getD r0).g = 0) → refGo a b n d out = some (out ++ fillL n (n + (d : Int) - 1) (psF a b n d))) ∧
    ∀ (out : List Rec) (s : Int), s ≤ n - 1 → refGo a b n d (out ++ [gapR s (n - 1)]) = some (out ++ fillL s (n + (d : Int) - 1) (psF a b n d))
  | 0, n, _ => by
    refine ⟨fun out _ => ?_, fun out s hs => ?_⟩
    · show some out = some (out ++ fillL n (n + ((0 : Nat) : Int) - 1) [])
      unfold fillL
      rw [if_neg (by omega), List.append_nil]
    · show some _ = some (out ++ fillL s (n + ((0 : Nat) : Int) - 1) [])
      unfold fillL
      rw [if_pos (by omega), show n + ((0 : Nat) : Int) - 1 = n - 1 by omega]
  | d + 1, n, hc => by
    obtain ⟨ih1, ih2⟩ := go_some (a := a) (b := b) d (n + 1) fun m h1 h2 => hc m (by omega) (by omega)
    have eL : n + 1 + (d : Int) - 1 = n + ((d + 1 : Nat) : Int) - 1 := by omega
    rw [eL] at ih1 ih2
    have plain : ∀ x : Rec, x.g = 0 → x.no = n → pick a b n = [x] → (∀ out, refGo a b n (d + 1) out = refGo a b (n + 1) d (addR out x)) → _ := fun x hg hno hp hgo =>
      (show (∀ out : List Rec, (out = [] ∨ ((out.getLast?).getD r0).g = 0) → refGo a b n (d + 1) out = some (out ++ fillL n (n + ((d + 1 : Nat) : Int) - 1) (psF a b n (d + 1)))) ∧
        ∀ (out : List Rec) (s : Int), s ≤ n - 1 → refGo a b n (d + 1) (out ++ [gapR s (n - 1)]) = some (out ++ fillL s (n + ((d + 1 : Nat) : Int) - 1) (psF a b n (d + 1))) from by
      have e : psF a b n (d + 1) = x :: psF a b (n + 1) d := by rw [psF, hp]; rfl
      refine ⟨fun out _ => ?_, fun out s hs => ?_⟩
      · rw [hgo, addR_p hg, ih1 _ (.inr (by rw [List.getLast?_concat]; exact hg)), e, fill_cons_eq hno]; simp
      · rw [hgo, addR_p hg, ih1 _ (.inr (by rw [List.getLast?_concat]; exact hg)), e, fill_cons_gt hno hs]; simp)
    cases ha : fnd a n with
    | some x =>
      have hx := fnd_t ha
      refine plain x hx.2.1 hx.2.2 (by unfold pick; rw [ha]) fun out => ?_
      rw [refGo, ha]
      cases hb : fnd b n with
      | none => rfl
      | some y =>
        have : x = y := hc n (Int.le_refl _) (by omega) x y ha hb
        show (if x = y then _ else _) = _
        rw [if_pos this]
    | none =>
      cases hb : fnd b n with
      | some y =>
        have hy := fnd_t hb
        refine plain y hy.2.1 hy.2.2 (by unfold pick; rw [ha, hb]) fun out => ?_
        rw [refGo, ha, hb]
      | none =>
        have hgo : ∀ out, refGo a b n (d + 1) out = refGo a b (n + 1) d (addR out (gapR n n)) := fun out => by rw [refGo, ha, hb]
        have e : psF a b n (d + 1) = psF a b (n + 1) d := by rw [psF]; unfold pick; rw [ha, hb]; rfl
        have e1 : n + 1 - 1 = n := by omega
        rw [e1] at ih2
        refine ⟨fun out ho => ?_, fun out s hs => ?_⟩
        · have : addR out (gapR n n) = out ++ [gapR n n] := by
            unfold addR
            rw [if_neg]
            rintro ⟨h1, h2, _⟩
            rcases ho with h3 | h3
            · exact h1 h3
            · omega
          rw [hgo, this, ih2 _ n (Int.le_refl _), e]
        · rw [hgo, addR_g hs, ih2 _ s (by omega), e]
theorem go_none {a b : List Rec} : ∀ (d : Nat) (n : Int) (out : List Rec), ¬ noC a b n d → refGo a b n d out = none
  | 0, n, out, h => absurd (fun m h1 h2 => by omega) h
  | d + 1, n, out, h => by
    have tl : (∀ x y, fnd a n = some x → fnd b n = some y → x = y) → ¬ noC a b (n + 1) d := fun h1 h2 => h fun m h3 h4 x y hx hy => by
      rcases Int.lt_or_eq_of_le h3 with h5 | h5
      · exact h2 m (by omega) (by omega) x y hx hy
      · subst h5; exact h1 x y hx hy
    rw [refGo]
    cases ha : fnd a n with
    | some x =>
      cases hb : fnd b n with
      | some y =>
        by_cases hxy : x = y
        · show (if x = y then _ else _) = _
          rw [if_pos hxy]
          exact go_none d _ _ (tl fun x' y' h1 h2 => by rw [ha] at h1; rw [hb] at h2; rw [← Option.some.inj h1, ← Option.some.inj h2]; exact hxy)
        · show (if x = y then _ else _) = _
          rw [if_neg hxy]
      | none => exact go_none d _ _ (tl fun x' y' h1 h2 => by rw [hb] at h2; cases h2)
    | none =>
      cases hb : fnd b n with
      | some y => exact go_none d _ _ (tl fun x' y' h1 h2 => by rw [ha] at h1; cases h1)
      | none => exact go_none d _ _ (tl fun x' y' h1 h2 => by rw [ha] at h1; cases h1)
end Go.Eng.N
