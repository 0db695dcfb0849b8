/- Collect, pure, 2: lists joined, thinned, compacted. -/
import Derived.Test.YteclemahimldeaaWB
set_option linter.unusedVariables false
set_option linter.unusedSimpArgs false
namespace Go.Eng.N
open Go Go.Eng
theorem _root_.Go.Eng.SlP.cut {i n m : Nat} {es l k : List (List PC)} (h : SlP i n es (l ++ k)) (hm : m = l.length) (z : List (List PC)) (hz : z.length = n - m) : SlP i m (splice es (i + m) z) l := by
  have h1 := h.n
  have h2 := h.len
  rw [List.length_append] at h1
  refine ⟨?_, ?_⟩
  · rw [splice_len _ _ _ (by omega)]; omega
  · unfold splice
    rw [List.drop_append_of_le_length (by rw [List.length_take]; omega), List.take_append_of_le_length (by rw [List.length_drop, List.length_take]; omega)]
    have e := h.take
    have : l = (List.take n (List.drop i es)).take m := by rw [e, hm]; simp
    rw [this, List.take_take, Nat.min_eq_left (by omega), List.drop_take, List.take_take, Nat.min_eq_left (by omega)]
theorem _root_.Go.Eng.SlP.pushL {i n : Nat} {es l xs : List (List PC)} (h : SlP i n es l) : SlR 0 (n + xs.length) (List.take n (List.drop i es) ++ xs) (l ++ xs) :=
  ⟨by rw [h.take, List.length_append, ← h.n]; simp, by rw [h.take, List.drop_zero]⟩
theorem _root_.Go.Eng.SlP.push {i n : Nat} {es l : List (List PC)} (h : SlP i n es l) (x : List PC) : SlR 0 (n + 1) (List.take n (List.drop i es) ++ [x]) (l ++ [x]) := h.pushL (xs := [x])
/-- The records that are no gaps. -/
def pln (r : Rec) : Bool := !decide (r.g > 0)
def plain (l : List Rec) : List Rec := l.filter pln
theorem f44_ok {r : Rec} {K : Bool → Prop} (h : K (!pln r)) : f44 r.no r.at_ r.k r.v r.q r.g K := by
  refine ⟨?_⟩
  unfold pln at h
  rw [Bool.not_not] at h
  exact h
theorem f50_ok {l : List Rec} {f : Bool} (hl : l.length < 2 ^ 40) {K : Int → Prop} (h : K (ixI (l.findIdx? fun r => !pln r))) : f50 (l.map Rec.c) f K := by
  refine ⟨?_⟩
  unfold f50_d f50_p4
  rw [List.length_map]
  refine LoopP.find l (fun r => !pln r) (A := fun j => K (j : Int)) (B := K (-1)) (by omega) (fun j hj hq hb => ?_) (fun hq => ?_) (fun j hj N hA hN => ?_) fun N hB => ?_
  · rw [findIx (q := fun r : Rec => !pln r) hj hq hb] at h; exact h
  · rw [findNo (q := fun r : Rec => !pln r) hq] at h; exact h
  · unfold f50_p4b0
    refine bB_t (ltL hj) ⟨rngM _ _ hj, ?_⟩
    rw [toNat_c, getD_map _ _ _ hj, w64_s j (by omega)]
    generalize l[j] = r at hA hN ⊢
    simp only [Rec.c, ext_0, ext_s, ext_z, cS_c, cI_c, cB_c, cL_c, cO_c, oS_c, oI_c, oB_c, oL_c, nilC_c, toNat_c]
    exact f44_ok (bB_of hA hN)
  · unfold f50_p4b0
    exact bB_f (stopL _) hB
theorem f42_ok {l : List Rec} {i n : Nat} {es : List (List PC)} (hr : SlP i n es (l.map Rec.c)) (hl : l.length < 2 ^ 40) {K : Nat → Nat → List (List PC) → Prop}
    (h : ∀ m es', SlP i m es' ((plain l).map Rec.c) → K i m es') : f42 i n es K := by
  refine ⟨?_⟩
  unfold f42_d
  rw [hr.take]
  have hn := hr.n
  rw [List.length_map] at hn
  refine f50_ok hl ?_
  cases hf : l.findIdx? fun r => !pln r with
  | none =>
    refine bB_t rfl (h _ _ ?_)
    rw [List.findIdx?_eq_none_iff] at hf
    have : plain l = l := List.filter_eq_self.2 fun x hx => by have := hf x hx; simpa using this
    rw [this]; exact hr
  | some k =>
    have hk := List.findIdx?_eq_some_iff_getElem.1 hf
    obtain ⟨hkl, hkq, hkb⟩ := hk
    have hb : ((k : Int) == -1) = false := by
      rw [beqD]; exact decide_eq_false (by omega)
    refine bB_f hb ?_
    have e0 : (ixI (some k)) = (k : Int) := rfl
    rw [e0, w64_s k (by omega)]
    unfold f42_p10
    refine LoopP.inv' l.length (fun j x => ∃ A B es, A = plain (l.take j) ∧ B ≠ [] ∧ A.length + B.length = j ∧ x = (((A.length : Nat) : Int), (j : Int), es) ∧ SlP i n es ((A ++ (B ++ l.drop j)).map Rec.c)) (k + 1)
      ⟨l.take k, [l[k]], es, ?_, by simp, by simp; omega, by rw [List.length_take, Nat.min_eq_left (by omega)], ?_⟩ (by omega) (by omega) ?_ ?_
    · unfold plain
      rw [List.take_succ_eq_append_getElem hkl, List.filter_append, List.filter_eq_self.2 fun x hx => ?_]
      · have hkq' : pln l[k] = false := by simpa using hkq
        simp [hkq']
      · obtain ⟨q, hq, rfl⟩ := List.getElem_of_mem hx
        rw [List.length_take] at hq
        have := hkb q (by omega)
        rw [List.getElem_take]
        simpa using this
    · rw [List.singleton_append, ← List.drop_eq_getElem_cons hkl, List.take_append_drop]; exact hr
    · rintro j x _ hj ⟨A, B, es, hA, hB, hAB, rfl, hr⟩ N hN
      rw [List.drop_eq_getElem_cons hj] at hr
      have a := hr.atO (j := j) (x := l[j]) (by rw [← List.append_assoc]; exact at_mid (by rw [List.length_append]; omega))
      have hpl : plain (l.take (j + 1)) = plain (l.take j) ++ if pln l[j] = true then [l[j]] else [] := by
        unfold plain
        rw [List.take_succ_eq_append_getElem hj, List.filter_append]
        congr 1
        cases hp : pln l[j] <;> simp [hp]
      unfold f42_p10b0
      dsimp only
      refine bB_t (decide_eq_true (by omega)) ⟨by omega, ?_⟩
      rw [toNat_c, a.1, w64_s j (by omega)]
      generalize l[j] = r at hr hpl ⊢
      obtain ⟨b, B', rfl⟩ : ∃ b B', B = b :: B' := by cases B with
        | nil => exact absurd rfl hB
        | cons b B' => exact ⟨b, B', rfl⟩
      have hset : SlP i n (List.set es (i + A.length) r.c) (((A ++ [r]) ++ ((B' ++ [r]) ++ l.drop (j + 1))).map Rec.c) := by
        have := hr.set A.length r.c
        rw [← List.map_set, List.cons_append, set_mid rfl] at this
        simpa using this
      have hsp : splice (List.getD es (i + A.length) []) 0 r.c = r.c := by
        have := hr.atO (j := A.length) (x := b) (by rw [List.cons_append]; exact at_mid rfl)
        rw [this.1]; rfl
      have hl3 := a.2.2
      simp only [List.length_cons] at hAB
      simp only [Rec.c, ext_0, ext_s, ext_z, cS_c, cI_c, cB_c, cL_c, cO_c, oS_c, oI_c, oB_c, oL_c, nilC_c, toNat_c]
      refine f44_ok (bB_of (fun h1 => ⟨by omega, by omega, ?_⟩) fun h1 => hN (j + 1) _ (by omega) (by omega) ⟨A, (b :: B') ++ [r], es, ?_, by simp, by simp; omega, rfl, ?_⟩)
      · rw [w64_s _ (by omega)]
        have hsp2 : splice (List.getD es (i + A.length) []) 0 [pI r.no, pI r.at_, pI r.k, pI r.v, pI r.q, pI r.g] = r.c := hsp
        rw [hsp2]
        refine hN (j + 1) _ (by omega) (by omega) ⟨A ++ [r], B' ++ [r], _, ?_, by simp, by simp; omega, by rw [List.length_append]; rfl, hset⟩
        rw [hpl, ← hA, if_pos (by simpa using h1)]
      · rw [hpl, ← hA, if_neg (by rw [Bool.not_eq_false'] at h1; simpa using h1), List.append_nil]
      · simpa using hr
    · rintro x ⟨A, B, es, hA, hB, hAB, rfl, hr⟩ N
      unfold f42_p10b0
      dsimp only
      refine bB_f (decide_eq_false (by omega)) ?_
      rw [List.drop_eq_nil_of_le (Nat.le_refl _), List.append_nil] at hr
      rw [List.take_of_length_le (Nat.le_refl _)] at hA
      have h2 := hr.len
      rw [toNat_c, toNat_c, Nat.add_zero, Nat.sub_zero]
      refine ⟨by omega, by omega, by omega, h _ _ ?_⟩
      rw [← hA]
      rw [List.map_append] at hr
      exact hr.cut (by simp) _ (by simp)
/-! ### Compact -/
def cmpS (A : List Rec) (p : Rec) : List Rec → List Rec
  | [] => A
  | x :: l => if x = p then cmpS A p l else cmpS (A ++ [x]) x l
def cmpct : List Rec → List Rec
  | [] => []
  | x :: l => cmpS [x] x l
theorem eq6 (x y : Rec) : ((x.no == y.no) && ((x.at_ == y.at_) && ((x.k == y.k) && ((x.v == y.v) && ((x.q == y.q) && ((x.g == y.g) && true)))))) = decide (x = y) := by
  cases x; cases y
  simp only [beqD, dec_and, Bool.and_true, Rec.mk.injEq]
theorem f48_p18_sp {l : List Rec} {i n k : Nat} {es : List (List PC)} (hk : k < l.length) (hk0 : 0 < k) (hc : cmpS (l.take k) l[k] (l.drop (k + 1)) = cmpct l) (hr : SlP i n es (l.map Rec.c)) (hl : l.length < 2 ^ 40) {K : Int → List (List PC) → Prop}
    (h : ∀ es' B, SlP i n es' ((cmpct l ++ B).map Rec.c) → K (((cmpct l).length : Nat) : Int) es') : f48_p18 i n (i + k) (n - k) K ((k : Int), 1, es) := by
  unfold f48_p18
  have hn := hr.n
  rw [List.length_map] at hn
  refine LoopP.inv (l.length - k) (fun t x => ∃ A Y p es, A.length + (Y.length + 1) = k + t ∧ cmpS A p (l.drop (k + t)) = cmpct l ∧ x = (((A.length : Nat) : Int), (t : Int), es) ∧ SlP i n es ((A ++ (Y ++ p :: l.drop (k + t))).map Rec.c)) 1
    ⟨l.take k, [], l[k], es, by rw [List.length_take]; simp; omega, hc, by rw [List.length_take, Nat.min_eq_left (by omega)]; rfl, ?_⟩ (by omega) (by omega) ?_ ?_
  · rw [List.nil_append, ← List.drop_eq_getElem_cons hk, List.take_append_drop]; exact hr
  · rintro t x ht0 ht ⟨A, Y, p, es, hA, hcc, rfl, hr⟩ N hN
    have hkt : k + t < l.length := by omega
    rw [List.drop_eq_getElem_cons hkt] at hr hcc
    have a := hr.atO (j := k + t) (x := l[k + t]) (by
      rw [show A ++ (Y ++ p :: l[k + t] :: l.drop (k + t + 1)) = (A ++ (Y ++ [p])) ++ l[k + t] :: l.drop (k + t + 1) by simp]
      exact at_mid (by simp; omega))
    have b := hr.atO (j := k + (t - 1)) (x := p) (by
      rw [← List.append_assoc]
      exact at_mid (by simp; omega))
    have hl3 := a.2.2
    unfold f48_p18b0
    dsimp only
    refine bB_t (decide_eq_true (by omega)) ⟨by omega, ?_⟩
    rw [w64_sub1 t (by omega) (by omega), toNat_c, toNat_c, Nat.add_assoc, Nat.add_assoc, a.1, b.1, w64_s t (by omega)]
    generalize l[k + t] = x at hr hcc ⊢
    simp only [Rec.c, ext_0, ext_s, ext_z, cS_c, cI_c, cB_c, cL_c, cO_c, oS_c, oI_c, oB_c, oL_c, nilC_c, toNat_c]
    refine ⟨by omega, ?_⟩
    rw [eq6]
    unfold cmpS at hcc
    refine bB_of (fun h1 => ⟨by omega, ⟨by omega, by omega, ?_⟩⟩) fun h1 => hN _ ⟨A, Y ++ [p], x, es, by simp; omega, ?_, rfl, ?_⟩
    · have hne : ¬ x = p := by simpa using h1
      rw [if_neg hne] at hcc
      rw [w64_s _ (by omega)]
      obtain ⟨y, Z, hZ⟩ : ∃ y Z, Y ++ [p] = y :: Z := by
        cases Y with
        | nil => exact ⟨p, [], rfl⟩
        | cons y Z => exact ⟨y, Z ++ [p], rfl⟩
      have hr1 : SlP i n es ((A ++ y :: (Z ++ x :: l.drop (k + t + 1))).map Rec.c) := by
        rw [show A ++ (Y ++ p :: x :: l.drop (k + t + 1)) = A ++ ((Y ++ [p]) ++ x :: l.drop (k + t + 1)) by simp, hZ] at hr
        exact hr
      have hzl : Z.length = Y.length := by have := congrArg List.length hZ; simp at this; omega
      have hsp : splice (List.getD es (i + A.length) []) 0 [pI x.no, pI x.at_, pI x.k, pI x.v, pI x.q, pI x.g] = x.c := by
        rw [(hr1.atO (j := A.length) (x := y) (at_mid rfl)).1]; rfl
      rw [hsp]
      refine hN _ ⟨A ++ [x], Z, x, _, by simp; omega, hcc, by rw [List.length_append]; rfl, ?_⟩
      have := hr1.set A.length x.c
      rw [← List.map_set, set_mid rfl] at this
      rw [← Nat.add_assoc]
      simpa using this
    · have he : x = p := by simpa using h1
      rw [if_pos he] at hcc
      rw [he]; exact hcc
    · have he : x = p := by simpa using h1
      subst he
      rw [← Nat.add_assoc]
      simpa using hr
  · rintro x ⟨A, Y, p, es, hA, hcc, rfl, hr⟩ N
    unfold f48_p18b0
    dsimp only
    rw [List.drop_eq_nil_of_le (by omega)] at hcc hr
    have hcc : A = cmpct l := hcc
    subst hcc
    exact bB_f (decide_eq_false (by omega)) (h _ _ hr)
theorem f48_ok {l : List Rec} {i n : Nat} {es : List (List PC)} (hr : SlP i n es (l.map Rec.c)) (hl : l.length < 2 ^ 40) {K : Nat → Nat → List (List PC) → Prop}
    (h : ∀ m es', SlP i m es' ((cmpct l).map Rec.c) → K i m es') : f48 i n es K := by
  refine ⟨?_⟩
  unfold f48_d
  have hn := hr.n
  rw [List.length_map] at hn
  refine bB_of (fun h1 => h _ _ ?_) fun h1 => ?_
  · have h1 := of_decide_eq_true h1
    have : cmpct l = l := by
      cases l with
      | nil => rfl
      | cons x t =>
        cases t with
        | nil => rfl
        | cons y t => simp at hn; omega
    rw [this]; exact hr
  have h1 := of_decide_eq_false h1
  unfold f48_p8
  change LoopP _ (((1 : Nat) : Int))
  refine LoopP.inv l.length (fun j x => x = (j : Int) ∧ ∀ hj : j - 1 < l.length, 1 ≤ j ∧ cmpS (l.take j) l[j - 1] (l.drop j) = cmpct l) 1 ⟨rfl, fun hj => ⟨Nat.le_refl _, ?_⟩⟩ (by omega) (by omega) ?_ ?_
  · cases l with
    | nil => simp at hj
    | cons x t => rfl
  · rintro j x hj1 hj ⟨rfl, hc⟩ N hN
    have hj0 : j - 1 < l.length := by omega
    obtain ⟨_, hc⟩ := hc hj0
    rw [List.drop_eq_getElem_cons hj] at hc
    have a := hr.atO (j := j) (x := l[j]) (List.getElem?_eq_getElem hj)
    have b := hr.atO (j := j - 1) (x := l[j - 1]) (List.getElem?_eq_getElem hj0)
    unfold f48_p8b0
    dsimp only
    refine bB_t (decide_eq_true (by omega)) ⟨by omega, ?_⟩
    rw [w64_sub1 j (by omega) (by omega), toNat_c, toNat_c, a.1, b.1, w64_s j (by omega)]
    have ht := List.take_succ_eq_append_getElem hj
    have hstep := hN ((j + 1 : Nat) : Int)
    have hgo := f48_p18_sp (i := i) (n := n) (es := es) hj (by omega) (K := fun n75 es76 => (0 ≤ n75 ∧ n75 ≤ ((n : Nat) : Int) ∧ ((n : Nat) : Int) ≤ ((n : Nat) : Int)) ∧ ((i + (Int.toNat n75)) + ((Int.toNat ((n : Nat) : Int)) - (Int.toNat n75))) ≤ es76.length ∧ (0 ≤ (0 : Int) ∧ (0 : Int) ≤ n75 ∧ n75 ≤ ((n : Nat) : Int)) ∧ K (i + 0) ((Int.toNat n75) - 0) (splice es76 (i + (Int.toNat n75)) (List.replicate ((Int.toNat ((n : Nat) : Int)) - (Int.toNat n75)) [pI 0, pI 0, pI 0, pI 0, pI 0, pI 0]))) (l := l)
    have hjj : l[j + 1 - 1]'(by omega) = l[j] := by simp
    generalize hx : l[j] = x at hc ht hgo hjj ⊢
    generalize hp : l[j - 1] = p at hc ⊢
    simp only [Rec.c, ext_0, ext_s, ext_z, cS_c, cI_c, cB_c, cL_c, cO_c, oS_c, oI_c, oB_c, oL_c, nilC_c, toNat_c]
    refine ⟨by omega, ?_⟩
    rw [eq6]
    unfold cmpS at hc
    refine bB_of (fun h2 => ⟨by omega, ?_⟩) fun h2 => hstep ⟨rfl, fun hjx => ⟨by omega, ?_⟩⟩
    · have h2 : x = p := of_decide_eq_true h2
      rw [if_pos h2] at hc
      refine hgo (by rw [h2]; exact hc) hr hl fun es' B hr' => ?_
      have hnn := hr'.n
      have hle := hr'.len
      rw [List.length_map, List.length_append] at hnn
      rw [toNat_c, toNat_c, Nat.add_zero, Nat.sub_zero]
      refine ⟨by omega, by omega, by omega, h _ _ ?_⟩
      rw [List.map_append] at hr'
      exact hr'.cut (by simp) _ (by simp)
    · have h2 : ¬ x = p := of_decide_eq_false h2
      rw [if_neg h2] at hc
      rw [hjj, ht]; exact hc
  · rintro x ⟨rfl, hc⟩ N
    unfold f48_p8b0
    dsimp only
    refine bB_f (decide_eq_false (by omega)) (h _ _ ?_)
    obtain ⟨_, hc⟩ := hc (by omega)
    rw [List.take_of_length_le (Nat.le_refl _), List.drop_eq_nil_of_le (Nat.le_refl _)] at hc
    have hc : l = cmpct l := hc
    rw [← hc]; exact hr
/-! ### Concat -/
def catJ (a b : List Rec) : Nat → List Rec
  | 0 => []
  | 1 => a
  | _ => a ++ b
theorem f51_ok {m : Nat} (hm : m < 2 ^ 40) {K : Nat → Nat → List (List PC) → Prop} (h : ∀ es, SlP 0 0 es ([].map Rec.c) → K 0 0 es) : f51 (m : Int) K := by
  refine ⟨?_⟩
  unfold f51_d
  refine bB_f (decide_eq_false (by omega)) ?_
  unfold f51_p7
  rw [Int.sub_zero, w64_in (by omega) (by omega)]
  refine bB_of (fun h1 => ?_) fun h1 => h _ ⟨Nat.le_refl _, rfl⟩
  have h1 := of_decide_eq_true h1
  exact ⟨by omega, by omega, by omega, h _ ⟨Nat.zero_le _, by simp⟩⟩
theorem f43_ok {a b : List Rec} {f g : Bool} (ha : a.length < 2 ^ 30) (hb : b.length < 2 ^ 30) {K : Nat → Nat → List (List PC) → List (List PC) → Prop}
    (h : ∀ i n es, SlP i n es ((a ++ b).map Rec.c) → K i n [[.sl 6 (a.map Rec.c) f], [.sl 6 (b.map Rec.c) g]] es) : f43 0 2 [[.sl 6 (a.map Rec.c) f], [.sl 6 (b.map Rec.c) g]] K := by
  refine ⟨?_⟩
  unfold f43_d f43_p6
  refine LoopP.seq 2 (fun j => ((((catJ a b j).length : Nat) : Int), (j : Int))) rfl (by decide) (fun j hj N hN => ?_) fun N => ?_
  · unfold f43_p6b0
    dsimp only
    refine bB_t (decide_eq_true (by omega)) ⟨by omega, ?_⟩
    rw [toNat_c, Nat.zero_add, w64_s j (by omega)]
    rcases (by omega : j = 0 ∨ j = 1) with rfl | rfl
    · have e : List.getD [[PC.sl 6 (a.map Rec.c) f], [.sl 6 (b.map Rec.c) g]] 0 [] = [.sl 6 (a.map Rec.c) f] := rfl
      rw [e]
      simp only [catJ, ext_0, ext_s, ext_z, cS_c, cI_c, cB_c, cL_c, cO_c, oS_c, oI_c, oB_c, oL_c, nilC_c, toNat_c]
      rw [List.length_map, w64_in (by simp <;> omega) (by simp <;> omega)]
      refine bB_f (decide_eq_false (by simp <;> omega)) ?_
      simpa [catJ] using hN
    · have e : List.getD [[PC.sl 6 (a.map Rec.c) f], [.sl 6 (b.map Rec.c) g]] 1 [] = [.sl 6 (b.map Rec.c) g] := rfl
      rw [e]
      simp only [catJ, ext_0, ext_s, ext_z, cS_c, cI_c, cB_c, cL_c, cO_c, oS_c, oI_c, oB_c, oL_c, nilC_c, toNat_c]
      rw [List.length_map, w64_in (by omega) (by omega)]
      refine bB_f (decide_eq_false (by omega)) ?_
      have hN : N ((((a ++ b).length : Nat) : Int), ((2 : Nat) : Int)) := hN
      rw [List.length_append, Int.natCast_add] at hN
      exact hN
  · unfold f43_p6b0
    dsimp only
    refine bB_f (decide_eq_false (Int.lt_irrefl _)) (f51_ok (by simp [catJ]; omega) fun es hr => ?_)
    unfold f43_p22
    refine LoopP.inv 2 (fun j x => x.2.2.1 = (j : Int) ∧ SlP x.1 x.2.1 x.2.2.2 ((catJ a b j).map Rec.c)) 0 ⟨rfl, hr⟩ (Nat.zero_le _) (by decide) ?_ ?_
    · rintro j ⟨i, n, x, es⟩ _ hj ⟨rfl, hr⟩ N hN
      have hr : SlP i n es _ := hr
      have hn := hr.n
      rw [List.length_map] at hn
      unfold f43_p22b0
      dsimp only
      refine bB_t (decide_eq_true (by omega)) ⟨by omega, ?_⟩
      rw [toNat_c, Nat.zero_add, w64_s j (by omega)]
      rcases (by omega : j = 0 ∨ j = 1) with rfl | rfl
      · have e : List.getD [[PC.sl 6 (a.map Rec.c) f], [.sl 6 (b.map Rec.c) g]] 0 [] = [.sl 6 (a.map Rec.c) f] := rfl
        rw [e]
        simp only [ext_0, ext_s, ext_z, cS_c, cI_c, cB_c, cL_c, cO_c, oS_c, oI_c, oB_c, oL_c, nilC_c, toNat_c]
        have hn : n = 0 := hn
        rw [List.length_map]
        have hp := (hr.pushL (xs := a.map Rec.c)).p
        rw [List.length_map] at hp
        exact ⟨hr.len, by omega, by omega, hN _ ⟨rfl, hp⟩⟩
      · have e : List.getD [[PC.sl 6 (a.map Rec.c) f], [.sl 6 (b.map Rec.c) g]] 1 [] = [.sl 6 (b.map Rec.c) g] := rfl
        rw [e]
        simp only [ext_0, ext_s, ext_z, cS_c, cI_c, cB_c, cL_c, cO_c, oS_c, oI_c, oB_c, oL_c, nilC_c, toNat_c]
        have hn : n = a.length := hn
        rw [List.length_map]
        have hp := (hr.pushL (xs := b.map Rec.c)).p
        rw [List.length_map] at hp
        refine ⟨hr.len, by omega, by omega, hN _ ⟨rfl, ?_⟩⟩
        show SlP _ _ _ ((a ++ b).map Rec.c)
        rw [List.map_append]; exact hp
    · rintro ⟨i, n, x, es⟩ ⟨rfl, hr⟩ N
      unfold f43_p22b0
      dsimp only
      exact bB_f (decide_eq_false (Int.lt_irrefl _)) (h _ _ _ hr)
end Go.Eng.N
