/- Collect, pure, 7: the reference's merge is the program's. -/
import Derived.Test.YteclemahimldeaaWG
set_option linter.unusedVariables false
set_option linter.unusedSimpArgs false
namespace Go.Eng.N
open Go Go.Eng
theorem mem_pick {a b : List Rec} (hr : allR (a ++ b)) (hc : cf (plain (a ++ b))) {n : Int} {x : Rec} : x ∈ pick a b n ↔ x ∈ plain (a ++ b) ∧ x.no = n := by
  have pl : ∀ {y : Rec}, y ∈ a ++ b → y.g = 0 → y ∈ plain (a ++ b) := fun {y} hy hg => mem_plain.2 ⟨hy, (pln_0 (by omega)).2 hg⟩
  unfold pick
  constructor
  · intro h
    cases ha : fnd a n with
    | some y =>
      rw [ha] at h
      have hy := fnd_t ha
      have h : x = y := List.mem_singleton.1 h
      subst h
      exact ⟨pl (by simp [hy.1]) hy.2.1, hy.2.2⟩
    | none =>
      rw [ha] at h
      cases hb : fnd b n with
      | some y =>
        rw [hb] at h
        have hy := fnd_t hb
        have h : x = y := List.mem_singleton.1 h
        subst h
        exact ⟨pl (by simp [hy.1]) hy.2.1, hy.2.2⟩
      | none => rw [hb] at h; cases h
  · rintro ⟨h1, h2⟩
    have hx := mem_plain.1 h1
    have hg : x.g = 0 := (pln_0 (rng_t (hr x hx.1)).2.2.1).1 hx.2
    cases ha : fnd a n with
    | some y =>
      have hy := fnd_t ha
      rw [hc x h1 y (pl (by simp [hy.1]) hy.2.1) (by omega)]
      exact List.mem_singleton.2 rfl
    | none =>
      have hxb : x ∈ b := (List.mem_append.1 hx.1).resolve_left fun q => fnd_f ha x q hg h2
      cases hb : fnd b n with
      | some y =>
        have hy := fnd_t hb
        rw [hc x h1 y (pl (by simp [hy.1]) hy.2.1) (by omega)]
        exact List.mem_singleton.2 rfl
      | none => exact absurd h2 (fnd_f hb x hxb hg)
theorem pick_one (a b : List Rec) (n : Int) : pick a b n = [] ∨ ∃ x, pick a b n = [x] := by
  unfold pick
  cases fnd a n with
  | some x => exact .inr ⟨x, rfl⟩
  | none =>
    cases fnd b n with
    | some y => exact .inr ⟨y, rfl⟩
    | none => exact .inl rfl
theorem psF_mem {a b : List Rec} (hr : allR (a ++ b)) (hc : cf (plain (a ++ b))) : ∀ (d : Nat) (n : Int) (x : Rec), x ∈ psF a b n d ↔ x ∈ plain (a ++ b) ∧ n ≤ x.no ∧ x.no < n + (d : Int)
  | 0, n, x => ⟨fun h => (by cases h), fun h => (by omega)⟩
  | d + 1, n, x => by
    rw [psF, List.mem_append, mem_pick hr hc, psF_mem hr hc d]
    constructor
    · rintro (h | h)
      · exact ⟨h.1, by omega, by omega⟩
      · exact ⟨h.1, by omega, by omega⟩
    · rintro ⟨h1, h2, h3⟩
      by_cases e : x.no = n
      · exact .inl ⟨h1, e⟩
      · exact .inr ⟨h1, by omega, by omega⟩
theorem psF_si {a b : List Rec} (hr : allR (a ++ b)) (hc : cf (plain (a ++ b))) : ∀ (d : Nat) (n : Int), SI (psF a b n d)
  | 0, n => List.Pairwise.nil
  | d + 1, n => by
    unfold SI
    rw [psF, List.pairwise_append]
    refine ⟨?_, psF_si hr hc d (n + 1), fun x hx y hy => ?_⟩
    · rcases pick_one a b n with h | ⟨x, h⟩
      · rw [h]; exact List.Pairwise.nil
      · rw [h]; exact List.pairwise_singleton _ _
    · have h1 := (mem_pick hr hc).1 hx
      have h2 := (psF_mem hr hc d (n + 1) y).1 hy
      omega
theorem hi_plain {l : List Rec} {x : Rec} (h : x ∈ plain l) : x.no ≤ hiV l := (hiF_ge l 0).2 x (mem_plain.1 h).1
theorem lo_plain {l : List Rec} (hr : allR l) {x : Rec} (h : x ∈ plain l) : loV l ≤ x.no := by
  have hx := mem_plain.1 h
  have h2 := (loF_le l 1000000000).2 x hx.1
  rw [fst_0 ((pln_0 (rng_t (hr x hx.1)).2.2.1).1 hx.2)] at h2
  exact h2
theorem noC_iff {a b : List Rec} (ha : Ok a) (hb : Ok b) {d : Nat} (hd : loV (a ++ b) + (d : Int) = hiV (a ++ b) + 1) : noC a b (loV (a ++ b)) d ↔ cf (plain (a ++ b)) := by
  have hr := all_app ha.all hb.all
  have sia := ha.plain_si
  have sib := hb.plain_si
  constructor
  · intro h
    have key : ∀ x ∈ plain a, ∀ y ∈ plain b, x.no = y.no → x = y := fun x hx y hy e => by
      have hxa := mem_plain.1 hx
      have hyb := mem_plain.1 hy
      have hxg : x.g = 0 := (pln_0 (rng_t (ha.all x hxa.1)).2.2.1).1 hxa.2
      have hyg : y.g = 0 := (pln_0 (rng_t (hb.all y hyb.1)).2.2.1).1 hyb.2
      have hxL : x ∈ plain (a ++ b) := by rw [plain_app]; exact List.mem_append_left _ hx
      have h1 := lo_plain hr hxL
      have h2 := hi_plain hxL
      cases fa : fnd a x.no with
      | none => exact absurd rfl (fnd_f fa x hxa.1 hxg)
      | some x' =>
        cases fb : fnd b x.no with
        | none => exact absurd e.symm (fnd_f fb y hyb.1 hyg)
        | some y' =>
          have hx' := fnd_t fa
          have hy' := fnd_t fb
          have e1 : x = x' := sia.cf x hx x' (mem_plain.2 ⟨hx'.1, (pln_0 (by omega)).2 hx'.2.1⟩) hx'.2.2.symm
          have e2 : y = y' := sib.cf y hy y' (mem_plain.2 ⟨hy'.1, (pln_0 (by omega)).2 hy'.2.1⟩) (by omega)
          rw [e1, e2]
          exact h x.no h1 (by omega) x' y' fa fb
    intro x hx y hy e
    rw [plain_app] at hx hy
    rcases List.mem_append.1 hx with h1 | h1 <;> rcases List.mem_append.1 hy with h2 | h2
    · exact sia.cf x h1 y h2 e
    · exact key x h1 y h2 e
    · exact (key y h2 x h1 e.symm).symm
    · exact sib.cf x h1 y h2 e
  · intro h m _ _ x y fa fb
    have hx := fnd_t fa
    have hy := fnd_t fb
    exact h x (mem_plain.2 ⟨by simp [hx.1], (pln_0 (by omega)).2 hx.2.1⟩) y (mem_plain.2 ⟨by simp [hy.1], (pln_0 (by omega)).2 hy.2.1⟩) (by omega)
theorem go_eq {a b : List Rec} (ha : Ok a) (hb : Ok b) {d : Nat} (hd : loV (a ++ b) + (d : Int) = hiV (a ++ b) + 1) : refGo a b (loV (a ++ b)) d [] = if cf (plain (a ++ b)) then some (mrg (a ++ b)) else none := by
  have hr := all_app ha.all hb.all
  by_cases hc : cf (plain (a ++ b))
  · rw [if_pos hc, (go_some d _ ((noC_iff ha hb hd).2 hc)).1 [] (.inl rfl), List.nil_append]
    unfold mrg
    rw [show loV (a ++ b) + (d : Int) - 1 = hiV (a ++ b) by omega, SI.uniq (psF_si hr hc d _) (unq_si hc) fun x => ?_]
    rw [psF_mem hr hc, unq_mem]
    exact ⟨fun h => h.1, fun h => ⟨h, lo_plain hr h, by have := hi_plain h; omega⟩⟩
  · rw [if_neg hc, go_none d _ _ fun q => hc ((noC_iff ha hb hd).1 q)]
/-! ### The loop -/
theorem addR_len (out : List Rec) (r : Rec) : (addR out r).length ≤ out.length + 1 := by
  unfold addR
  split <;> simp
theorem addR_bd {out : List Rec} {r : Rec} (h : ∀ x ∈ out, Bd x) (hr : Bd r) (hs : ∀ x ∈ out, x.no ≤ r.no) : ∀ x ∈ addR out r, Bd x := by
  unfold addR
  split
  · rename_i hc
    intro x hx
    rcases List.mem_append.1 hx with h1 | h1
    · exact h x ((List.dropLast_sublist out).subset h1)
    · have h1 : x = _ := List.mem_singleton.1 h1
      subst h1
      have hm : out.getLast?.getD r0 ∈ out := by
        cases ho : out.getLast? with
        | none => exact absurd (List.getLast?_eq_none_iff.1 ho) hc.1
        | some z => exact List.mem_of_getLast? ho
      have b := h _ hm
      have b1 := b.lo
      have b2 := b.le
      have b3 := hs _ hm
      have r3 := hr.hi
      have hle : fst (out.getLast?.getD r0) ≤ r.no := by omega
      exact ⟨by rw [gap_fst hle]; exact b1, by rw [gap_fst hle]; exact hle, r3, by rw [gap_g]; omega⟩
  · intro x hx
    rcases List.mem_append.1 hx with h1 | h1
    · exact h x h1
    · have h1 : x = r := List.mem_singleton.1 h1
      subst h1; exact hr
theorem addR_no {out : List Rec} {r : Rec} (hs : ∀ x ∈ out, x.no ≤ r.no) : ∀ x ∈ addR out r, x.no ≤ r.no := by
  unfold addR
  split
  · intro x hx
    rcases List.mem_append.1 hx with h1 | h1
    · exact hs x ((List.dropLast_sublist out).subset h1)
    · have h1 : x = _ := List.mem_singleton.1 h1
      subst h1; exact Int.le_refl _
  · intro x hx
    rcases List.mem_append.1 hx with h1 | h1
    · exact hs x h1
    · have h1 : x = r := List.mem_singleton.1 h1
      subst h1; exact Int.le_refl _
theorem bd_plain {r : Rec} (h : rng r = true) (hg : r.g = 0) : Bd r := by
  have := rng_t h
  exact ⟨by rw [fst_0 hg]; omega, by rw [fst_0 hg]; exact Int.le_refl _, by omega, by omega⟩
theorem bd_gap {n : Int} (h : 0 ≤ n) (h2 : n ≤ 1000000000) : Bd (gapR n n) := ⟨by rw [gap_fst (Int.le_refl _)]; exact h, by rw [gap_fst (Int.le_refl _)]; exact Int.le_refl _, h2, by rw [gap_g]; omega⟩
/-- One number more. -/
def step1 (a b : List Rec) (n : Int) (out : List Rec) : Option (List Rec) := match fnd a n, fnd b n with
  | some x, some y => if x = y then some (addR out x) else none
  | some x, none => some (addR out x)
  | none, some y => some (addR out y)
  | none, none => some (addR out (gapR n n))
theorem go_step (a b : List Rec) (n : Int) (d : Nat) (out : List Rec) : refGo a b n (d + 1) out = (step1 a b n out).bind (refGo a b (n + 1) d) := by
  rw [refGo]
  unfold step1
  cases fnd a n <;> cases fnd b n
  · rfl
  · rfl
  · rfl
  · dsimp only
    split <;> rfl
theorem step_ok {a b : List Rec} (ha : allR a) (hb : allR b) {n : Int} (h0 : 0 ≤ n) (h1 : n ≤ 1000000000) {out o : List Rec} (hbd : ∀ x ∈ out, Bd x) (hs : ∀ x ∈ out, x.no ≤ n) (h : step1 a b n out = some o) : o.length ≤ out.length + 1 ∧ (∀ x ∈ o, Bd x) ∧ ∀ x ∈ o, x.no ≤ n := by
  have pl : ∀ {l : List Rec} {x : Rec}, allR l → fnd l n = some x → Bd x ∧ x.no = n := fun hl hf => by
    have hx := fnd_t hf
    exact ⟨bd_plain (hl _ hx.1) hx.2.1, hx.2.2⟩
  have go : ∀ x : Rec, Bd x → x.no = n → (addR out x).length ≤ out.length + 1 ∧ (∀ y ∈ addR out x, Bd y) ∧ ∀ y ∈ addR out x, y.no ≤ n := fun x hx e => by
    subst e
    exact ⟨addR_len _ _, addR_bd hbd hx hs, addR_no hs⟩
  unfold step1 at h
  cases fa : fnd a n with
  | some x =>
    have hx := pl ha fa
    cases fb : fnd b n with
    | some y =>
      rw [fa, fb] at h
      dsimp only at h
      split at h
      · rw [← Option.some.inj h]; exact go x hx.1 hx.2
      · cases h
    | none =>
      rw [fa, fb] at h
      rw [← Option.some.inj h]; exact go x hx.1 hx.2
  | none =>
    cases fb : fnd b n with
    | some y =>
      have hy := pl hb fb
      rw [fa, fb] at h
      rw [← Option.some.inj h]; exact go y hy.1 hy.2
    | none =>
      rw [fa, fb] at h
      rw [← Option.some.inj h]; exact go (gapR n n) (bd_gap h0 h1) rfl
end Go.Eng.N
