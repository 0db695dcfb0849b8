/- Notify, pure, 6: the gaps. -/
import Derived.Test.YtbidkfbcmhioiaaDoorPE
import Derived.Test.YtbidkfbcmhioiaaDoorFn2
set_option linter.unusedVariables false
set_option linter.unusedSimpArgs false
set_option maxRecDepth 100000
namespace Go.Eng.N
open Go Go.Eng
/-- Runs of what is false: those that ended, and where the one that goes on began. -/
def runG (f : Nat → Bool) (d : Nat) : Nat → List (Nat × Nat × Nat) × Option Nat
  | 0 => ([], none)
  | j + 1 => match runG f d j with
    | (acc, cur) => if f j = true then (match cur with
        | some a => (acc ++ [(d, a, j - 1)], none)
        | none => (acc, none)) else (acc, some (cur.getD j))
def flushG (f : Nat → Bool) (d j : Nat) : List (Nat × Nat × Nat) := (runG f d j).1 ++ (match (runG f d j).2 with
  | some a => [(d, a, j - 1)]
  | none => [])
/-- A gap's cells. -/
def gcl (x : Nat × Nat × Nat) : List PC := [pI ((x.1 : Int) + 1), pI x.2.1, pI x.2.2]
theorem run_cur (f : Nat → Bool) (d j : Nat) : (runG f d j).2 = none ↔ (j = 0 ∨ f (j - 1) = true) := by
  cases j with
  | zero => simp [runG]
  | succ j =>
    unfold runG
    cases runG f d j with
    | mk acc cur =>
      simp only [Nat.add_sub_cancel, Nat.succ_ne_zero, false_or, reduceCtorEq]
      cases hf : f j <;> cases cur <;> simp
theorem run_len (f : Nat → Bool) (d : Nat) : ∀ j, (runG f d j).1.length + (if (runG f d j).2.isSome then 1 else 0) ≤ j
  | 0 => by simp [runG]
  | j + 1 => by
    have ih := run_len f d j
    unfold runG
    cases h : runG f d j with
    | mk acc cur =>
      rw [h] at ih
      simp only at ih ⊢
      cases hf : f j <;> cases cur <;> simp at ih ⊢ <;> omega
theorem flush_len (f : Nat → Bool) (d j : Nat) : (flushG f d j).length ≤ j := by
  have := run_len f d j
  unfold flushG
  cases h : (runG f d j).2 <;> rw [h] at this <;> simp at this ⊢ <;> omega
theorem flush_t {f : Nat → Bool} {d j : Nat} (h : f j = true) : flushG f d (j + 1) = flushG f d j := by
  unfold flushG
  conv => lhs; unfold runG
  cases hr : runG f d j with
  | mk acc cur => cases cur <;> simp [h]
theorem flush_new {f : Nat → Bool} {d j : Nat} (h : f j = false) (hc : j = 0 ∨ f (j - 1) = true) : flushG f d (j + 1) = flushG f d j ++ [(d, j, j)] := by
  have := (run_cur f d j).2 hc
  unfold flushG
  conv => lhs; unfold runG
  cases hr : runG f d j with
  | mk acc cur =>
    rw [hr] at this
    simp only at this
    subst this
    simp [h]
theorem flush_on {f : Nat → Bool} {d j : Nat} (h : f j = false) (hj : 0 < j) (hc : f (j - 1) = false) : ∃ l a, flushG f d j = l ++ [(d, a, j - 1)] ∧ flushG f d (j + 1) = l ++ [(d, a, j)] := by
  have h1 : (runG f d j).2 ≠ none := fun e => by
    rcases (run_cur f d j).1 e with e | e
    · omega
    · rw [hc] at e; cases e
  unfold flushG
  cases hr : runG f d j with
  | mk acc cur =>
    rw [hr] at h1
    cases cur with
    | none => exact absurd rfl h1
    | some a =>
      refine ⟨acc, a, rfl, ?_⟩
      conv => lhs; unfold runG
      rw [hr]
      simp [h]
/-- Is somebody told, or is the day over? -/
def rowB (rs : List Rc) (k d m : Nat) : Bool := decide (1440 ≤ m) || anyB rs d (m : Int) k
theorem row_in {rs : List Rc} {k d m : Nat} (h : m < 1440) : rowB rs k d m = anyB rs d (m : Int) k := by
  unfold rowB
  rw [decide_eq_false (by omega)]; rfl
theorem wk_row {rs : List Rc} {k d : Nat} {m : Nat} (h : m < 1440) : wk rs k (d * 1440 + m) = rowB rs k d m := by
  rw [row_in h]
  unfold wk
  rw [show (d * 1440 + m) / 1440 = d by omega, show (d * 1440 + m) % 1440 = m by omega]
/-- The gaps of the first days. -/
@[irreducible] def gapsN (rs : List Rc) (k n : Nat) : List (Nat × Nat × Nat) := (List.range n).flatMap fun d => flushG (rowB rs k d) d 1440
theorem gaps_s (rs : List Rc) (k n : Nat) : gapsN rs k (n + 1) = gapsN rs k n ++ flushG (rowB rs k n) n 1440 := by
  unfold gapsN
  rw [List.range_succ, List.flatMap_append]
  simp
theorem gaps_0 (rs : List Rc) (k : Nat) : gapsN rs k 0 = [] := by unfold gapsN; rfl
theorem gaps_len (rs : List Rc) (k : Nat) : ∀ n, (gapsN rs k n).length ≤ n * 1440
  | 0 => by simp [gapsN]
  | n + 1 => by
    rw [gaps_s, List.length_append]
    have := gaps_len rs k n
    have := flush_len (rowB rs k n) n 1440
    omega
theorem f25_p22_sp {rs : List Rc} {k d : Nat} (hd : d < 7) {cs : List PC} {n1 : Int} {i0 n0 : Nat} {es0 : List (List PC)} {A : List (Nat × Nat × Nat)} (hA : A.length ≤ d * 1440) (h0 : SlR i0 n0 es0 (A.map gcl)) {K : Nat → Nat → List (List PC) → Prop}
    (h : ∀ i n es, SlR i n es ((A ++ flushG (rowB rs k d) d 1440).map gcl) → K i n es) : f25_p22 (d : Int) cs n1 (tabC 1440 (rowB rs k d)) (tabC 1440 (rowB rs k d)) K (i0, n0, 0, es0) := by
  unfold f25_p22
  refine LoopP.inv 1440 (fun j x => x.2.2.1 = (j : Int) ∧ SlR x.1 x.2.1 x.2.2.2 ((A ++ flushG (rowB rs k d) d j).map gcl)) 0 ⟨rfl, by simpa [flushG, runG] using h0⟩ (by omega) (by omega) ?_ ?_
  · rintro j ⟨i, n, x, es⟩ _ hj ⟨rfl, hr⟩ N hN
    have hr : SlR i n es _ := hr
    unfold f25_p22b0
    dsimp only
    have hrm : 0 ≤ (j : Int) ∧ (j : Int) < 1440 := by omega
    have hn := hr.n
    have hfl := flush_len (rowB rs k d) d j
    rw [List.length_map, List.length_append] at hn
    have new : rowB rs k d j = false → (j = 0 ∨ rowB rs k d (j - 1) = true) → (i + n) = es.length ∧ (n + 1) * 24 ≤ 2 ^ 46 ∧ (n + 1) ≤ 2 ^ 46 ∧ N (0, n + 1, w64 ((j : Int) + 1), List.drop i es ++ [[pI (w64 ((d : Int) + 1)), pI j, pI j]]) := fun h1 h2 => by
      refine ⟨hr.len, by omega, by omega, hN _ ⟨w64_s j (by omega), ?_⟩⟩
      rw [flush_new h1 h2, ← List.append_assoc, List.map_append]
      show SlR 0 (n + 1) (List.drop i es ++ [[pI (w64 ((d : Int) + 1)), pI j, pI j]]) _
      rw [w64_in (n := (d : Int) + 1) (by omega) (by omega)]
      exact hr.push _
    refine bB_t (decide_eq_true (by omega)) ⟨hrm, ?_⟩
    rw [toNat_c, Nat.mul_one, tab_ext1 _ _ hj, oB_c]
    refine bB_of (fun h1 => hN _ ⟨w64_s j (by omega), ?_⟩) fun h1 => bB_of (fun h2 => ?_) fun h2 => new h1 (.inl ?_)
    · rw [flush_t h1]; exact hr
    · simp only [decide_eq_true_eq, gt_iff_lt] at h2
      have e : w64 ((j : Int) - 1) = ((j - 1 : Nat) : Int) := by rw [w64_in (by omega) (by omega)]; omega
      rw [e, toNat_c, Nat.zero_add, Nat.mul_one, tab_ext1 _ _ (by omega), oB_c]
      refine ⟨by omega, bB_of (fun h3 => ?_) fun h3 => new h1 (.inr (by simpa using h3))⟩
      obtain ⟨l, a, e1, e2⟩ := flush_on (d := d) h1 (by omega) (by simpa using h3)
      rw [e1, ← List.append_assoc, List.map_append] at hr
      have hr : SlR i n es ((A ++ l).map gcl ++ [gcl (d, a, j - 1)]) := hr
      have hn2 := hr.n
      rw [List.length_append, List.length_singleton] at hn2
      rw [e1, List.length_append, List.length_singleton] at hfl
      have hn3 : n = A.length + l.length + 1 := by rw [hn2, List.length_map, List.length_append]
      have e3 : w64 (((n : Nat) : Int) - 1) = ((n - 1 : Nat) : Int) := by
        rw [w64_in (by omega) (by omega)]; omega
      have hlen := hr.len
      rw [e3, toNat_c, hr.at (by rw [List.length_append, List.length_singleton]; omega)]
      have e4 : ∀ (h9 : n - 1 < ((A ++ l).map gcl ++ [gcl (d, a, j - 1)]).length), ((A ++ l).map gcl ++ [gcl (d, a, j - 1)])[n - 1] = gcl (d, a, j - 1) := fun h9 => by
        have : n - 1 = ((A ++ l).map gcl).length := by omega
        simp only [this, List.getElem_concat_length]
      rw [e4]
      refine ⟨by omega, by omega, hN _ ⟨w64_s j (by omega), ?_⟩⟩
      rw [e2, ← List.append_assoc, List.map_append]
      exact hr.last (gcl (d, a, j))
    · simp only [decide_eq_false_iff_not, gt_iff_lt] at h2
      omega
  · rintro ⟨i, n, x, es⟩ ⟨rfl, hr⟩ N
    unfold f25_p22b0
    dsimp only
    exact bB_f (decide_eq_false (by omega)) (h _ _ _ hr)
/-- What Gaps answers. -/
def gapsV (nm : ByteArray) (pri acks : Int) (rs : List Rc) (s : Int) : List (Nat × Nat × Nat) × Int :=
  if checkV nm pri acks rs ≠ 0 then ([], checkV nm pri acks rs) else if stateB s = true then (gapsN rs (kindIx s) 7, 0) else ([], 6)
theorem f25_ok {nm : ByteArray} {pri acks : Int} {rs : List Rc} {full : Bool} (hn : nm.size < 2 ^ 59) (hs : Sz rs) {s : Int} {K : List (List PC) → Bool → Int → Prop}
    (h : ∀ fl, K ((gapsV nm pri acks rs s).1.map gcl) fl (gapsV nm pri acks rs s).2) : f25 nm pri acks (rs.map Rc.c) full s K := by
  refine ⟨?_⟩
  unfold f25_d
  unfold gapsV at h
  refine f16_ok hn hs (bB_of (fun h1 => ?_) fun h1 => f57_ok (bB_of (fun h2 => ?_) fun h2 => ?_))
  · rw [if_pos (by simpa using h1)] at h; exact h true
  · rw [if_neg (by simpa using h1), if_neg (by simpa using h2)] at h
    exact h true
  · rw [if_neg (by simpa using h1), if_pos (by simpa using h2)] at h
    have hg := check_good (by simpa using h1)
    refine f59_ok (f58_ok (by have := hg.1; omega) hg.2.2.2.1 (kindIx_le s) ?_)
    unfold f25_p16
    refine LoopP.inv 7 (fun d x => x.2.2.1 = (d : Int) ∧ SlR x.1 x.2.1 x.2.2.2 ((gapsN rs (kindIx s) d).map gcl)) 0 ⟨rfl, by rw [gaps_0]; exact SlR.nil⟩ (by omega) (by omega) ?_ ?_
    · rintro d ⟨i, n, x, es⟩ _ hd ⟨rfl, hr⟩ N hN
      unfold f25_p16b0
      dsimp only
      have e : ext (tabC 10080 (wk rs (kindIx s))) (Int.toNat (d : Int) * 1440) 1440 = tabC 1440 (rowB rs (kindIx s) d) := by
        rw [toNat_c, tab_row _ _ (by omega)]
        exact tab_congr fun m hm => wk_row hm
      rw [e, splice_all (by rw [tab_len, List.length_replicate]), tab_all, tab_len]
      refine bB_t (decide_eq_true (by omega)) ⟨by omega, rfl, rfl, Nat.le_refl _, rfl, ?_⟩
      refine f25_p22_sp hd (gaps_len rs (kindIx s) d) hr fun i' n' es' hr' => hN _ ⟨w64_s d (by omega), ?_⟩
      rw [gaps_s]
      exact hr'
    · rintro ⟨i, n, x, es⟩ ⟨rfl, hr⟩ N
      unfold f25_p16b0
      dsimp only
      refine bB_f (decide_eq_false (by omega)) ?_
      show K (List.take n (List.drop i es)) false 0
      rw [SlR.take hr]
      have h := h false
      dsimp only at h
      exact h
theorem f60_ok {nm : ByteArray} {pri acks : Int} {rs : List Rc} {full : Bool} (hl : rs.length ≤ 2 ^ 40) (hg : ∀ r ∈ rs, Good r) {d m : Nat} (hd : d < 7) {k : Nat} (hk : k ≤ 2) {K : Bool → Prop} (h : K (anyB rs d m k)) : f60 nm pri acks (rs.map Rc.c) full (d : Int) (m : Int) ((2 ^ k : Nat) : Int) K := by
  refine ⟨?_⟩
  unfold f60_d f60_p4
  refine LoopP.any rs (fun r => tellB r d m k) (A := K true) (B := K false) (by omega) (fun e => by unfold anyB at h; rwa [e] at h) (fun e => by unfold anyB at h; rwa [e] at h) (fun j hj N hA hN => ?_) fun N hB => ?_
  · unfold f60_p4b0
    refine bB_t (ltM _ _ hj) ⟨rngM _ _ hj, ?_⟩
    rw [toNat_c, getD_map _ _ _ hj]
    simp only [Rc.c, ext_0, ext_s, ext_z, cS_c, cI_c, cB_c, cL_c, cO_c, oS_c, oI_c, oB_c, oL_c, nilC_c, toNat_c]
    rw [w64_s j (by omega)]
    exact f94_ok (hg _ (List.getElem_mem hj)) hd hk (bB_of hA hN)
  · unfold f60_p4b0
    exact bB_f (stopM _ _) hB
/-- What the reference keeps as the beginning of a gap. -/
def curI : Option Nat → Int
  | some a => a
  | none => -1
theorem f26_p24_sp {nm : ByteArray} {pri acks : Int} {rs : List Rc} {full : Bool} (hl : rs.length ≤ 2 ^ 40) (hg : ∀ r ∈ rs, Good r) {s : Int} {d : Nat} (hd : d < 7) {i0 n0 : Nat} {es0 : List (List PC)} {A : List (Nat × Nat × Nat)} (hA : A.length ≤ d * 1440) (h0 : SlR i0 n0 es0 (A.map gcl)) {K : Nat → Nat → List (List PC) → Prop}
    (h : ∀ i n es, SlR i n es ((A ++ flushG (rowB rs (kindIx s) d) d 1440).map gcl) → K i n es) : f26_p24 s (d : Int) nm pri acks (rs.map Rc.c) full K (i0, n0, -1, 0, es0) := by
  unfold f26_p24
  refine LoopP.inv 1441 (fun j x => x.2.2.2.1 = (j : Int) ∧ x.2.2.1 = curI (runG (rowB rs (kindIx s) d) d j).2 ∧ SlR x.1 x.2.1 x.2.2.2.2 ((A ++ (runG (rowB rs (kindIx s) d) d j).1).map gcl)) 0 ⟨rfl, rfl, by simpa [runG] using h0⟩ (by omega) (by omega) ?_ ?_
  · rintro j ⟨i, n, c, x, es⟩ _ hj ⟨rfl, rfl, hr⟩ N hN
    have hr : SlR i n es _ := hr
    unfold f26_p24b0
    dsimp only
    have hn := hr.n
    have hfl := run_len (rowB rs (kindIx s) d) d j
    rw [List.length_map, List.length_append] at hn
    have hstep : runG (rowB rs (kindIx s) d) d (j + 1) = _ := rfl
    conv at hstep => rhs; unfold runG
    have hw : w64 ((j : Int) + 1) = ((j + 1 : Nat) : Int) := w64_s j (by omega)
    have hcur : ∀ a, (runG (rowB rs (kindIx s) d) d j).2 = some a → 0 < j := fun a ha => by
      rcases Nat.eq_zero_or_pos j with e | e
      · subst e; simp [runG] at ha
      · exact e
    cases hr0 : runG (rowB rs (kindIx s) d) d j with
    | mk acc cur =>
      rw [hr0] at hr hfl hstep hn hcur
      simp only at hr hfl hstep hn hcur ⊢
      have fin : ∀ c' b, rowB rs (kindIx s) d j = !b → (b = true → c' = curI (some (cur.getD j))) → (b = false → c' = curI cur) → f26_p35 s i n (d : Int) c' (j : Int) b nm pri acks (rs.map Rc.c) full es (fun i71 n72 n73 es74 => N (i71, n72, n73, w64 ((j : Int) + 1), es74)) := fun c' b hb h1 h2 => by
        unfold f26_p35
        rw [hb] at hstep
        cases b with
        | true =>
          refine bB_f rfl (hN _ ⟨hw, ?_, ?_⟩)
          · rw [hstep]; exact h1 rfl
          · rw [hstep]; exact hr
        | false =>
          obtain rfl := h2 rfl
          refine bB_t rfl ?_
          cases cur with
          | some a =>
            have hj0 := hcur a rfl
            have hl2 : acc.length + 1 ≤ j := by simpa using hfl
            refine bB_t (decide_eq_true (by simp only [curI]; omega)) ⟨hr.len, by omega, by omega, hN _ ⟨hw, ?_, ?_⟩⟩
            · rw [hstep]; rfl
            · rw [hstep]
              simp only [Bool.not_false, if_true]
              rw [← List.append_assoc, List.map_append, w64_in (by omega) (by omega), w64_in (n := (j : Int) - 1) (by omega) (by omega)]
              have := hr.push (gcl (d, a, j - 1))
              have e9 : gcl (d, a, j - 1) = [pI ((d : Int) + 1), pI (curI (some a)), pI ((j : Int) - 1)] := by
                simp only [gcl, curI]
                rw [show ((j - 1 : Nat) : Int) = (j : Int) - 1 by omega]
              rw [List.map_singleton, ← e9]
              exact this
          | none =>
            refine bB_f (by decide) (hN _ ⟨hw, ?_, ?_⟩)
            · rw [hstep]; rfl
            · rw [hstep]; exact hr
      have p31 : ∀ b, rowB rs (kindIx s) d j = !b → f26_p31 s i n (d : Int) (curI cur) (j : Int) b nm pri acks (rs.map Rc.c) full es (fun i71 n72 n73 es74 => N (i71, n72, n73, w64 ((j : Int) + 1), es74)) := fun b hb => by
        unfold f26_p31
        refine bB_of (fun h1 => bB_of (fun h2 => ?_) fun h2 => ?_) fun h1 => ?_
        · refine fin _ b hb (fun _ => ?_) fun e => absurd (h1.symm.trans e) (by decide)
          cases cur with
          | some a =>
            have h3 : curI (some a) < 0 := of_decide_eq_true h2
            exact absurd (show (a : Int) < 0 from h3) (by omega)
          | none => rfl
        · refine fin _ b hb (fun _ => ?_) fun e => absurd (h1.symm.trans e) (by decide)
          cases cur with
          | some a => rfl
          | none => exact absurd h2 (by decide)
        · exact fin _ b hb (fun e => absurd (h1.symm.trans e) (by decide)) fun _ => rfl
      refine bB_t (decide_eq_true (by omega)) (bB_of (fun h1 => ?_) fun h1 => ?_)
      · simp only [decide_eq_true_eq] at h1
        refine f56_ok (f60_ok hl hg hd (kindIx_le s) (p31 _ ?_))
        rw [row_in (by omega), Bool.not_not]
      · simp only [decide_eq_false_iff_not] at h1
        refine p31 _ ?_
        unfold rowB
        rw [decide_eq_true (by omega)]; rfl
  · rintro ⟨i, n, c, x, es⟩ ⟨rfl, rfl, hr⟩ N
    unfold f26_p24b0
    dsimp only
    refine bB_f (decide_eq_false (by omega)) (h _ _ _ ?_)
    have e : (runG (rowB rs (kindIx s) d) d 1441).1 = flushG (rowB rs (kindIx s) d) d 1440 := by
      have e1 : rowB rs (kindIx s) d 1440 = true := by unfold rowB; rw [decide_eq_true (by omega)]; rfl
      unfold flushG
      conv => lhs; unfold runG
      cases runG (rowB rs (kindIx s) d) d 1440 with
      | mk acc cur => cases cur <;> simp [e1]
    rw [← e]
    exact hr
theorem f26_ok {nm : ByteArray} {pri acks : Int} {rs : List Rc} {full : Bool} (hn : nm.size < 2 ^ 59) (hs : Sz rs) {s : Int} {K : List (List PC) → Bool → Int → Prop}
    (h : ∀ fl, K ((gapsV nm pri acks rs s).1.map gcl) fl (gapsV nm pri acks rs s).2) : f26 nm pri acks (rs.map Rc.c) full s K := by
  refine ⟨?_⟩
  unfold f26_d
  unfold gapsV at h
  refine f17_ok hn hs (bB_of (fun h1 => ?_) fun h1 => f53_ok (bB_of (fun h2 => ?_) fun h2 => ?_))
  · rw [if_pos (by simpa using h1)] at h; exact h true
  · rw [if_neg (by simpa using h1), if_neg (by simpa [timedB] using h2)] at h
    exact h true
  · rw [if_neg (by simpa using h1), if_pos (by simpa [timedB] using h2)] at h
    have hg := check_good (by simpa using h1)
    unfold f26_p16
    refine LoopP.inv 7 (fun d x => x.2.2.1 = (d : Int) ∧ SlR x.1 x.2.1 x.2.2.2 ((gapsN rs (kindIx s) d).map gcl)) 0 ⟨rfl, by rw [gaps_0]; exact SlR.nil⟩ (by omega) (by omega) ?_ ?_
    · rintro d ⟨i, n, x, es⟩ _ hd ⟨rfl, hr⟩ N hN
      unfold f26_p16b0
      dsimp only
      refine bB_t (decide_eq_true (by omega)) (f26_p24_sp (by have := hg.1; omega) hg.2.2.2.1 hd (gaps_len rs (kindIx s) d) hr fun i' n' es' hr' => hN _ ⟨w64_s d (by omega), ?_⟩)
      rw [gaps_s]
      exact hr'
    · rintro ⟨i, n, x, es⟩ ⟨rfl, hr⟩ N
      unfold f26_p16b0
      dsimp only
      refine bB_f (decide_eq_false (by omega)) ?_
      show K (List.take n (List.drop i es)) false 0
      rw [SlR.take hr]
      have h := h false
      dsimp only at h
      exact h
end Go.Eng.N
