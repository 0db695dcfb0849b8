/- Collect, pure, 3: the plain law of merging. -/
import Derived.Test.YteclemahimldeaaWC
set_option linter.unusedVariables false
set_option linter.unusedSimpArgs false
namespace Go.Eng.N
open Go Go.Eng
/-! ### Lists whose numbers rise -/
def SI (l : List Rec) : Prop := l.Pairwise fun x y => x.no < y.no
def cf (l : List Rec) : Prop := ∀ x ∈ l, ∀ y ∈ l, x.no = y.no → x = y
theorem SI.cf {l : List Rec} (h : SI l) : cf l := by
  induction l with
  | nil => intro x hx; cases hx
  | cons a t ih =>
    have h := List.pairwise_cons.1 h
    intro x hx y hy e
    rcases List.mem_cons.1 hx with h1 | h1 <;> rcases List.mem_cons.1 hy with h2 | h2
    · rw [h1, h2]
    · subst h1; have := h.1 y h2; omega
    · subst h2; have := h.1 x h1; omega
    · exact ih h.2 x h1 y h2 e
theorem SI.uniq : ∀ {a b : List Rec}, SI a → SI b → (∀ x, x ∈ a ↔ x ∈ b) → a = b
  | [], b, _, _, h => by
    cases b with
    | nil => rfl
    | cons y t => exact absurd ((h y).2 (by simp)) (by simp)
  | x :: s, [], _, _, h => absurd ((h x).1 (by simp)) (by simp)
  | x :: s, y :: t, ha, hb, h => by
    have ha' := List.pairwise_cons.1 ha
    have hb' := List.pairwise_cons.1 hb
    have hxy : x = y := by
      rcases List.mem_cons.1 ((h x).1 (by simp)) with h1 | h1
      · exact h1
      · rcases List.mem_cons.1 ((h y).2 (by simp)) with h2 | h2
        · exact h2.symm
        · have := ha'.1 y h2; have := hb'.1 x h1; omega
    subst hxy
    have ht : s = t := SI.uniq ha'.2 hb'.2 fun z => by
      constructor
      · intro hz
        rcases List.mem_cons.1 ((h z).1 (by simp [hz])) with h1 | h1
        · subst h1; have := ha'.1 z hz; omega
        · exact h1
      · intro hz
        rcases List.mem_cons.1 ((h z).2 (by simp [hz])) with h1 | h1
        · subst h1; have := hb'.1 z hz; omega
        · exact h1
    rw [ht]
/-! ### Compact -/
theorem cmpS_mem : ∀ {l A : List Rec} {p : Rec}, p ∈ A → ∀ x, x ∈ cmpS A p l ↔ x ∈ A ∨ x ∈ l
  | [], A, p, _, x => by simp [cmpS]
  | y :: l, A, p, hp, x => by
    unfold cmpS
    split
    · rename_i h
      rw [cmpS_mem hp]
      constructor
      · rintro (h1 | h1)
        · exact .inl h1
        · exact .inr (by simp [h1])
      · rintro (h1 | h1)
        · exact .inl h1
        · rcases List.mem_cons.1 h1 with h2 | h2
          · exact .inl (by rw [h2, h]; exact hp)
          · exact .inr h2
    · rw [cmpS_mem (by simp)]
      simp only [List.mem_append, List.mem_cons, List.not_mem_nil, false_or, or_assoc]
theorem cmpct_mem : ∀ {l : List Rec} (x : Rec), x ∈ cmpct l ↔ x ∈ l
  | [], x => Iff.rfl
  | y :: l, x => by
    unfold cmpct
    rw [cmpS_mem (by simp)]
    simp
theorem cmpS_len : ∀ {l A : List Rec} {p : Rec}, (cmpS A p l).length ≤ A.length + l.length
  | [], A, p => by simp [cmpS]
  | y :: l, A, p => by
    unfold cmpS
    split
    · have := cmpS_len (l := l) (A := A) (p := p); simp; omega
    · have := cmpS_len (l := l) (A := A ++ [y]) (p := y); simp at this ⊢; omega
theorem cmpct_len (l : List Rec) : (cmpct l).length ≤ l.length := by
  cases l with
  | nil => exact Nat.le_refl _
  | cons x t => unfold cmpct; have := cmpS_len (l := t) (A := [x]) (p := x); simp at this ⊢; omega
theorem cmpS_si : ∀ {l A : List Rec} {p : Rec}, SI A → p ∈ A → (∀ x ∈ A, x.no ≤ p.no) → (∀ x ∈ l, p.no ≤ x.no) → l.Pairwise (fun x y => x.no ≤ y.no) → (∀ x ∈ l, x.no = p.no → x = p) → cf l → SI (cmpS A p l)
  | [], A, p, h, _, _, _, _, _, _ => h
  | y :: l, A, p, h, hp, hA, hl, hs, hc, hcl => by
    have hs' := List.pairwise_cons.1 hs
    unfold cmpS
    split
    · exact cmpS_si h hp hA (fun x hx => hl x (by simp [hx])) hs'.2 (fun x hx => hc x (by simp [hx])) fun x hx z hz => hcl x (by simp [hx]) z (by simp [hz])
    · rename_i hne
      have hlt : p.no < y.no := by
        have h1 := hl y (by simp)
        rcases Int.lt_or_eq_of_le h1 with h2 | h2
        · exact h2
        · exact absurd (hc y (by simp) h2.symm) hne
      refine cmpS_si ?_ (by simp) (fun x hx => ?_) hs'.1 hs'.2 (fun x hx e => hcl x (by simp [hx]) y (by simp) e) fun x hx z hz => hcl x (by simp [hx]) z (by simp [hz])
      · unfold SI
        rw [List.pairwise_append]
        exact ⟨h, List.pairwise_singleton _ _, fun x hx z hz => by have := hA x hx; simp at hz; subst hz; omega⟩
      · rcases List.mem_append.1 hx with h1 | h1
        · have := hA x h1; omega
        · simp at h1; subst h1; exact Int.le_refl _
theorem cmpct_si {l : List Rec} (hs : l.Pairwise (fun x y => x.no ≤ y.no)) (hc : cf l) : SI (cmpct l) := by
  cases l with
  | nil => exact List.Pairwise.nil
  | cons y l =>
    have hs' := List.pairwise_cons.1 hs
    exact cmpS_si (List.pairwise_singleton _ _) (by simp) (by simp) hs'.1 hs'.2 (fun x hx e => hc x (by simp [hx]) y (by simp) e) fun x hx z hz => hc x (by simp [hx]) z (by simp [hz])
/-- The plain records, sorted, once each. -/
def unq (l : List Rec) : List Rec := cmpct (isortL ltR (plain l))
theorem unq_mem {l : List Rec} (x : Rec) : x ∈ unq l ↔ x ∈ plain l := by
  unfold unq
  rw [cmpct_mem, (isortL_stb ltR_o (plain l)).mem.symm]
theorem unq_si {l : List Rec} (h : cf (plain l)) : SI (unq l) := by
  have hm := fun x => (isortL_stb ltR_o (plain l)).mem (x := x)
  refine cmpct_si ?_ fun x hx y hy => h x ((hm x).2 hx) y ((hm y).2 hy)
  refine (isortL_srt ltR_o (plain l)).imp fun {x y} h => ?_
  have : ¬ y.no < x.no := of_decide_eq_false h
  omega
theorem unq_len (l : List Rec) : (unq l).length ≤ l.length := by
  unfold unq
  have h1 := cmpct_len (isortL ltR (plain l))
  have h2 := (isortL_stb ltR_o (plain l)).len
  have h3 : (plain l).length ≤ l.length := List.length_filter_le _ _
  omega
/-! ### What is filled up -/
def okS (next : Int) : List Rec → Bool
  | [] => true
  | r :: l => if r.no < next then false else okS (r.no + 1) l
def pre (next : Int) : List Rec → List Rec
  | [] => []
  | r :: l => (if r.no > next then [gapR next (r.no - 1)] else []) ++ r :: pre (r.no + 1) l
def nxt (next : Int) : List Rec → Int
  | [] => next
  | r :: l => nxt (r.no + 1) l
def fillL (next last : Int) : List Rec → List Rec
  | [] => if next ≤ last then [gapR next last] else []
  | r :: l => (if r.no > next then [gapR next (r.no - 1)] else []) ++ r :: fillL (r.no + 1) last l
theorem fill_pre (last : Int) : ∀ (next : Int) (l : List Rec), fillL next last l = pre next l ++ if nxt next l ≤ last then [gapR (nxt next l) last] else []
  | _, [] => rfl
  | next, r :: l => by
    unfold fillL pre nxt
    rw [fill_pre last (r.no + 1) l]
    simp
theorem okS_iff : ∀ {next : Int} {l : List Rec}, okS next l = true ↔ SI l ∧ ∀ x ∈ l, next ≤ x.no
  | next, [] => by simp [okS, SI]
  | next, r :: l => by
    unfold okS
    unfold SI
    rw [List.pairwise_cons]
    have ih := okS_iff (next := r.no + 1) (l := l)
    unfold SI at ih
    split
    · constructor
      · intro h; cases h
      · rintro ⟨_, h⟩; have := h r (by simp); omega
    · rw [ih]
      constructor
      · rintro ⟨h1, h2⟩
        exact ⟨⟨fun x hx => by have := h2 x hx; omega, h1⟩, fun x hx => by
          rcases List.mem_cons.1 hx with h3 | h3
          · subst h3; omega
          · have := h2 x h3; omega⟩
      · rintro ⟨⟨h1, h2⟩, h3⟩
        exact ⟨h2, fun x hx => by have := h1 x hx; omega⟩
theorem fill_len (last : Int) : ∀ (next : Int) (l : List Rec), (fillL next last l).length ≤ 2 * l.length + 1
  | next, [] => by unfold fillL; split <;> simp
  | next, r :: l => by
    unfold fillL
    have := fill_len last (r.no + 1) l
    split <;> (simp; omega)
theorem gap_no (a b : Int) : (gapR a b).no = b := rfl
theorem gap_g (a b : Int) : (gapR a b).g = b - a + 1 := rfl
theorem gap_fst {a b : Int} (h : a ≤ b) : fst (gapR a b) = a := by unfold fst gapR; dsimp only; rw [if_pos (by omega)]; omega
theorem gap_pln {a b : Int} (h : a ≤ b) : pln (gapR a b) = false := by
  unfold pln
  rw [gap_g, decide_eq_true (by omega)]; rfl
theorem fst_0 {r : Rec} (h : r.g = 0) : fst r = r.no := by unfold fst; rw [if_neg (by omega)]
theorem pln_0 {r : Rec} (h : 0 ≤ r.g) : pln r = true ↔ r.g = 0 := by
  unfold pln
  simp only [Bool.not_eq_true', decide_eq_false_iff_not]
  omega
/-- What stands in a filled list. -/
theorem fill_all {last : Int} : ∀ {next : Int} {l : List Rec}, okS next l = true → (∀ x ∈ l, x.g = 0 ∧ x.no ≤ last) → (∀ r ∈ fillL next last l, next ≤ fst r ∧ r.no ≤ last ∧ fst r ≤ r.no) ∧ plain (fillL next last l) = l ∧ (next ≤ last → (∃ r ∈ fillL next last l, fst r = next) ∧ ∃ r ∈ fillL next last l, r.no = last)
  | next, [], _, _ => by
    unfold fillL
    split
    · rename_i h
      refine ⟨fun r hr => ?_, ?_, fun _ => ⟨⟨gapR next last, by simp, gap_fst h⟩, gapR next last, by simp, rfl⟩⟩
      · simp at hr; subst hr; rw [gap_fst h, gap_no]; omega
      · unfold plain; simp [gap_pln h]
    · rename_i h
      exact ⟨fun r hr => (by cases hr), rfl, fun h' => absurd h' h⟩
  | next, r :: l, ho, hl => by
    unfold okS at ho
    split at ho
    · cases ho
    rename_i hlt
    have hr := hl r (by simp)
    obtain ⟨i1, i2, i3⟩ := fill_all (last := last) ho fun x hx => hl x (by simp [hx])
    have hp : pln r = true := (pln_0 (by omega)).2 hr.1
    have hf := fst_0 hr.1
    unfold fillL
    by_cases h : r.no > next
    · rw [if_pos h]
      have hg : next ≤ r.no - 1 := by omega
      refine ⟨fun x hx => ?_, ?_, fun _ => ⟨⟨_, by simp, gap_fst hg⟩, ?_⟩⟩
      · simp only [List.singleton_append, List.mem_cons] at hx
        rcases hx with h1 | h1 | h1
        · subst h1; rw [gap_fst hg, gap_no]; omega
        · subst h1; omega
        · have := i1 x h1; omega
      · have : plain ([gapR next (r.no - 1)] ++ r :: fillL (r.no + 1) last l) = r :: plain (fillL (r.no + 1) last l) := by
          unfold plain
          simp [gap_pln hg, hp]
        rw [this, i2]
      · rcases Int.lt_or_le last (r.no + 1) with h2 | h2
        · exact ⟨r, by simp, by omega⟩
        · obtain ⟨x, hx, e⟩ := (i3 h2).2
          exact ⟨x, by simp [hx], e⟩
    · rw [if_neg h, List.nil_append]
      refine ⟨fun x hx => ?_, ?_, fun _ => ⟨⟨r, by simp, by omega⟩, ?_⟩⟩
      · rcases List.mem_cons.1 hx with h1 | h1
        · subst h1; omega
        · have := i1 x h1; omega
      · have : plain (r :: fillL (r.no + 1) last l) = r :: plain (fillL (r.no + 1) last l) := by
          unfold plain
          simp [hp]
        rw [this, i2]
      · rcases Int.lt_or_le last (r.no + 1) with h2 | h2
        · exact ⟨r, by simp, by omega⟩
        · obtain ⟨x, hx, e⟩ := (i3 h2).2
          exact ⟨x, by simp [hx], e⟩
/-! ### The least and the greatest number -/
def loF (m : Int) (r : Rec) : Int := if fst r < m then fst r else m
def hiF (m : Int) (r : Rec) : Int := if r.no > m then r.no else m
def loV (l : List Rec) : Int := l.foldl loF 1000000000
def hiV (l : List Rec) : Int := l.foldl hiF 0
theorem loF_le : ∀ (l : List Rec) (m : Int), l.foldl loF m ≤ m ∧ ∀ r ∈ l, l.foldl loF m ≤ fst r
  | [], m => ⟨Int.le_refl _, fun r hr => by cases hr⟩
  | x :: l, m => by
    have ih := loF_le l (loF m x)
    rw [List.foldl_cons]
    have h1 : loF m x ≤ m ∧ loF m x ≤ fst x := by unfold loF; split <;> omega
    exact ⟨by omega, fun r hr => by
      rcases List.mem_cons.1 hr with h | h
      · subst h; omega
      · exact ih.2 r h⟩
theorem loF_at : ∀ (l : List Rec) (m : Int), l.foldl loF m = m ∨ ∃ r ∈ l, l.foldl loF m = fst r
  | [], m => .inl rfl
  | x :: l, m => by
    rw [List.foldl_cons]
    rcases loF_at l (loF m x) with h | ⟨r, hr, h⟩
    · rw [h]
      unfold loF
      split
      · exact .inr ⟨x, by simp, rfl⟩
      · exact .inl rfl
    · exact .inr ⟨r, by simp [hr], h⟩
theorem hiF_ge : ∀ (l : List Rec) (m : Int), m ≤ l.foldl hiF m ∧ ∀ r ∈ l, r.no ≤ l.foldl hiF m
  | [], m => ⟨Int.le_refl _, fun r hr => by cases hr⟩
  | x :: l, m => by
    have ih := hiF_ge l (hiF m x)
    rw [List.foldl_cons]
    have h1 : m ≤ hiF m x ∧ x.no ≤ hiF m x := by unfold hiF; split <;> omega
    exact ⟨by omega, fun r hr => by
      rcases List.mem_cons.1 hr with h | h
      · subst h; omega
      · exact ih.2 r h⟩
theorem hiF_at : ∀ (l : List Rec) (m : Int), l.foldl hiF m = m ∨ ∃ r ∈ l, l.foldl hiF m = r.no
  | [], m => .inl rfl
  | x :: l, m => by
    rw [List.foldl_cons]
    rcases hiF_at l (hiF m x) with h | ⟨r, hr, h⟩
    · rw [h]
      unfold hiF
      split
      · exact .inr ⟨x, by simp, rfl⟩
      · exact .inl rfl
    · exact .inr ⟨r, by simp [hr], h⟩
theorem loV_is {l : List Rec} {a : Int} (h1 : ∀ r ∈ l, a ≤ fst r) (h2 : ∃ r ∈ l, fst r = a) (h3 : a ≤ 1000000000) : loV l = a := by
  obtain ⟨r, hr, e⟩ := h2
  have h4 := (loF_le l 1000000000).2 r hr
  rcases loF_at l 1000000000 with h5 | ⟨x, hx, h5⟩
  · unfold loV; omega
  · have := h1 x hx; unfold loV; omega
theorem hiV_is {l : List Rec} {a : Int} (h1 : ∀ r ∈ l, r.no ≤ a) (h2 : ∃ r ∈ l, r.no = a) (h3 : 0 ≤ a) : hiV l = a := by
  obtain ⟨r, hr, e⟩ := h2
  have h4 := (hiF_ge l 0).2 r hr
  rcases hiF_at l 0 with h5 | ⟨x, hx, h5⟩
  · unfold hiV; omega
  · have := h1 x hx; unfold hiV; omega
theorem loV_app (p q : List Rec) : loV (p ++ q) = min (loV p) (loV q) := by
  have a := loF_le (p ++ q) 1000000000
  have b := loF_le p 1000000000
  have c := loF_le q 1000000000
  have d1 : loV (p ++ q) ≤ loV p := by
    rcases loF_at p 1000000000 with h | ⟨r, hr, h⟩
    · unfold loV; omega
    · have := a.2 r (by simp [hr]); unfold loV; omega
  have d2 : loV (p ++ q) ≤ loV q := by
    rcases loF_at q 1000000000 with h | ⟨r, hr, h⟩
    · unfold loV; omega
    · have := a.2 r (by simp [hr]); unfold loV; omega
  have d3 : loV p ≤ loV (p ++ q) ∨ loV q ≤ loV (p ++ q) := by
    rcases loF_at (p ++ q) 1000000000 with h | ⟨r, hr, h⟩
    · unfold loV; omega
    · rcases List.mem_append.1 hr with h1 | h1
      · have := b.2 r h1; unfold loV; omega
      · have := c.2 r h1; unfold loV; omega
  omega
theorem hiV_app (p q : List Rec) : hiV (p ++ q) = max (hiV p) (hiV q) := by
  have a := hiF_ge (p ++ q) 0
  have b := hiF_ge p 0
  have c := hiF_ge q 0
  have d1 : hiV p ≤ hiV (p ++ q) := by
    rcases hiF_at p 0 with h | ⟨r, hr, h⟩
    · unfold hiV; omega
    · have := a.2 r (by simp [hr]); unfold hiV; omega
  have d2 : hiV q ≤ hiV (p ++ q) := by
    rcases hiF_at q 0 with h | ⟨r, hr, h⟩
    · unfold hiV; omega
    · have := a.2 r (by simp [hr]); unfold hiV; omega
  have d3 : hiV (p ++ q) ≤ hiV p ∨ hiV (p ++ q) ≤ hiV q := by
    rcases hiF_at (p ++ q) 0 with h | ⟨r, hr, h⟩
    · unfold hiV; omega
    · rcases List.mem_append.1 hr with h1 | h1
      · have := b.2 r h1; unfold hiV; omega
      · have := c.2 r h1; unfold hiV; omega
  omega
end Go.Eng.N
