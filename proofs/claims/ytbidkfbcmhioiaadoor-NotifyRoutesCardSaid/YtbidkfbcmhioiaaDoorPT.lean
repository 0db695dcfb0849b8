/- THE PURE KIT, 2: tables of bools. -/
import Derived.Test.YtbidkfbcmhioiaaDoorPK
set_option linter.unusedVariables false
set_option linter.unusedSimpArgs false
namespace Go.Eng
theorem pair_eq {α β : Type} {a b : α} {x y : β} (h1 : a = b) (h2 : x = y) : (a, x) = (b, y) := by rw [h1, h2]
/-- A table of bools, as cells. -/
@[irreducible] def tabC (n : Nat) (g : Nat → Bool) : List PC := (List.range n).map fun i => pB (g i)
theorem tab_len (n : Nat) (g : Nat → Bool) : (tabC n g).length = n := by unfold tabC; simp
theorem tab_get (n : Nat) (g : Nat → Bool) {i : Nat} (h : i < n) : (tabC n g)[i]? = some (pB (g i)) := by
  unfold tabC
  rw [List.getElem?_map, List.getElem?_range h]
  rfl
theorem tab_congr {n : Nat} {g h : Nat → Bool} (e : ∀ i, i < n → g i = h i) : tabC n g = tabC n h := by
  unfold tabC
  refine List.map_congr_left fun i hi => ?_
  rw [e i (List.mem_range.1 hi)]
theorem tab_eq {n : Nat} {g : Nat → Bool} {l : List PC} (hl : l.length = n) (h : ∀ i, i < n → l[i]? = some (pB (g i))) : l = tabC n g := by
  apply List.ext_getElem?
  intro i
  rcases Nat.lt_or_ge i n with hi | hi
  · rw [h i hi, tab_get n g hi]
  · rw [List.getElem?_eq_none (by omega), List.getElem?_eq_none (by rw [tab_len]; omega)]
theorem tab_rep (n : Nat) : List.replicate n (pB false) = tabC n fun _ => false :=
  tab_eq (by simp) fun i hi => by simp [hi]
theorem tab_ext1 (n : Nat) (g : Nat → Bool) {i : Nat} (h : i < n) : ext (tabC n g) i 1 = [pB (g i)] := by
  unfold ext
  have hl : i < (tabC n g).length := by rw [tab_len]; exact h
  rw [List.drop_eq_getElem_cons hl]
  have := tab_get n g h
  rw [List.getElem?_eq_getElem hl] at this
  rw [Option.some.inj this]
  rfl
theorem tab_row (n : Nat) (g : Nat → Bool) {o m : Nat} (h : o + m ≤ n) : ext (tabC n g) o m = tabC m fun i => g (o + i) := by
  refine tab_eq ?_ fun i hi => ?_
  · unfold ext
    rw [List.length_take, List.length_drop, tab_len]; omega
  · unfold ext
    rw [List.getElem?_take, if_pos hi, List.getElem?_drop, tab_get n g (by omega)]
theorem tab_all (n : Nat) (g : Nat → Bool) : ext (tabC n g) 0 n = tabC n g := by
  rw [tab_row n g (by omega)]
  exact tab_congr fun i _ => by rw [Nat.zero_add]
theorem tab_set (n : Nat) (g : Nat → Bool) {i : Nat} (h : i < n) (b : Bool) : splice (tabC n g) i [pB b] = tabC n fun j => if j = i then b else g j := by
  refine tab_eq ?_ fun j hj => ?_
  · unfold splice
    simp only [List.length_append, List.length_take, List.length_drop, tab_len, List.length_cons, List.length_nil]
    omega
  · unfold splice
    rw [List.getElem?_append]
    simp only [List.length_take, tab_len]
    split
    · rw [List.getElem?_take, if_pos (by omega), tab_get n g hj, if_neg (by omega)]
    · by_cases e : j = i
      · subst e
        rw [if_pos rfl, Nat.min_eq_left (by omega), Nat.sub_self]
        rfl
      · rw [if_neg e, Nat.min_eq_left (by omega), List.getElem?_append_right (by simp; omega), List.getElem?_drop]
        simp only [List.length_cons, List.length_nil]
        rw [show i + (0 + 1) + (j - i - (0 + 1)) = j by omega, tab_get n g hj]
theorem splice_all {l xs : List PC} (h : l.length = xs.length) : splice l 0 xs = xs := by
  unfold splice
  rw [List.take_zero, List.nil_append, Nat.zero_add, List.drop_eq_nil_of_le (by omega), List.append_nil]
theorem eqCells_bools : ∀ (a b : List Bool), a.length = b.length → eqCells (List.replicate a.length .bool) (a.map fun x => pB x) (b.map fun x => pB x) = some (a == b)
  | [], [], _ => rfl
  | x :: a, y :: b, h => by
    simp only [List.length_cons, List.replicate_succ, List.map_cons, eqCells, eqCell]
    rw [eqCells_bools a b (by simpa using h)]
    rfl
  | [], _ :: _, h => by simp at h
  | _ :: _, [], h => by simp at h
/-- Are two tables the same? -/
@[irreducible] def sameT (n : Nat) (g h : Nat → Bool) : Bool := decide (∀ i, i < n → g i = h i)
theorem sameT_iff {n : Nat} {g h : Nat → Bool} : sameT n g h = true ↔ ∀ i, i < n → g i = h i := by unfold sameT; exact decide_eq_true_iff
theorem eqCells_tab (n : Nat) (g h : Nat → Bool) : eqCells (List.replicate n .bool) (tabC n g) (tabC n h) = some (sameT n g h) := by
  unfold sameT
  have e1 : tabC n g = ((List.range n).map g).map fun x => pB x := by unfold tabC; simp
  have e2 : tabC n h = ((List.range n).map h).map fun x => pB x := by unfold tabC; simp
  have e3 := eqCells_bools ((List.range n).map g) ((List.range n).map h) (by simp)
  rw [List.length_map, List.length_range] at e3
  rw [e1, e2, e3, beqD]
  congr 1
  rw [decide_eq_decide]
  constructor
  · intro e i hi
    have := congrArg (fun l => l[i]?) e
    simpa [hi] using this
  · intro e
    refine List.map_congr_left fun i hi => e i (List.mem_range.1 hi)
end Go.Eng
