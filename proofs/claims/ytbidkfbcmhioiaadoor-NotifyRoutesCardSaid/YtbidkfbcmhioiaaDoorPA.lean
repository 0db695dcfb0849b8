/- Notify, pure, 1: names, Check. -/
import Derived.Test.YtbidkfbcmhioiaaDoorPK
import Derived.Test.YtbidkfbcmhioiaaDoorFn1
set_option linter.unusedVariables false
set_option linter.unusedSimpArgs false
namespace Go.Eng.N
open Go Go.Eng
def low (b : UInt8) : Bool := 97 ≤ b.toNat && b.toNat ≤ 122
def dig (b : UInt8) : Bool := 48 ≤ b.toNat && b.toNat ≤ 57
def nc (b : UInt8) : Bool := low b || dig b || b.toNat == 95
/-- Is it a name? -/
def nameB (s : ByteArray) : Bool := match lst s with
  | [] => false
  | x :: r => (r.length < 24) && low x && r.all nc
theorem f87_ok {n : Int} {K : Bool → Prop} (h : K (decide (48 ≤ n ∧ n ≤ 57))) : f87 n K := by
  refine ⟨?_⟩
  unfold f87_d
  refine bB_of (fun h1 => ?_) fun h1 => ?_
  · simp only [decide_eq_true_eq, ge_iff_le] at h1
    simpa [h1] using h
  · simp only [decide_eq_false_iff_not, ge_iff_le] at h1
    simpa [h1] using h
theorem f90_ok {n : Int} {K : Bool → Prop} (h : K (decide (48 ≤ n ∧ n ≤ 57))) : f90 n K := by
  refine ⟨?_⟩
  unfold f90_d
  refine bB_of (fun h1 => ?_) fun h1 => ?_
  · simp only [decide_eq_true_eq, ge_iff_le] at h1
    simpa [h1] using h
  · simp only [decide_eq_false_iff_not, ge_iff_le] at h1
    simpa [h1] using h
theorem f89_ok {n : Int} {K : Bool → Prop} (h : K (decide (97 ≤ n ∧ n ≤ 122))) : f89 n K := by
  refine ⟨?_⟩
  unfold f89_d
  refine bB_of (fun h1 => ?_) fun h1 => ?_
  · simp only [decide_eq_true_eq, ge_iff_le] at h1
    simpa [h1] using h
  · simp only [decide_eq_false_iff_not, ge_iff_le] at h1
    simpa [h1] using h
theorem nc_eq (b : UInt8) : nc b = (decide (97 ≤ ((b.toNat : Nat) : Int) ∧ ((b.toNat : Nat) : Int) ≤ 122) || decide (48 ≤ ((b.toNat : Nat) : Int) ∧ ((b.toNat : Nat) : Int) ≤ 57) || decide (((b.toNat : Nat) : Int) = 95)) := by
  unfold nc low dig
  rw [Bool.eq_iff_iff]
  simp only [Bool.or_eq_true, Bool.and_eq_true, decide_eq_true_eq, beq_iff_eq]
  omega
theorem f86_ok {s : ByteArray} {j : Nat} (hj : j < (lst s).length) {K : Bool → ByteArray → Prop} (h : K (nc (lst s)[j]) s) : f86 (j : Int) s K := by
  refine ⟨?_⟩
  unfold f86_d
  have hr : 0 ≤ (j : Int) ∧ (j : Int) < ((s.size : Nat) : Int) := by rw [size_lst]; omega
  rw [byteAt_in s hj]
  rw [nc_eq] at h
  generalize (((lst s)[j].toNat : Nat) : Int) = n at h ⊢
  have hd : ∀ {K : Bool → ByteArray → Prop}, K (decide (48 ≤ n ∧ n ≤ 57) || decide (n = 95)) s → ((0 ≤ (j : Int) ∧ (j : Int) < ((s.size : Nat) : Int)) ∧ f87 n (fun b4 => bB b4 (K true s) ((0 ≤ (j : Int) ∧ (j : Int) < ((s.size : Nat) : Int)) ∧ K (n == 95) s))) := by
    intro K hK
    refine ⟨hr, f87_ok (bB_of (fun h1 => ?_) fun h1 => ⟨hr, ?_⟩)⟩
    · rw [h1] at hK; exact hK
    · rw [h1] at hK; simpa [Bool.beq_eq_decide_eq] using hK
  refine ⟨hr, bB_of (fun h1 => ⟨hr, bB_of (fun h2 => ?_) fun h2 => hd ?_⟩) fun h1 => hd ?_⟩
  · simp only [decide_eq_true_eq, ge_iff_le] at h1 h2
    simpa [h1, h2] using h
  · simp only [decide_eq_true_eq, decide_eq_false_iff_not, ge_iff_le] at h1 h2
    simpa [h1, h2] using h
  · simp only [decide_eq_true_eq, decide_eq_false_iff_not, ge_iff_le] at h1
    simpa [h1] using h
/-- How far a name's letters go. -/
theorem f85_ok {s : ByteArray} (hs : s.size < 2 ^ 59) {K : Int → ByteArray → Prop} (h : ∀ j : Nat, (decide (j = (lst s).length) = (lst s).all nc) → K j s) : f85 s 0 s K := by
  refine ⟨?_⟩
  unfold f85_d f85_p2
  refine LoopP.inv (lst s).length (fun j x => x = ((j : Int), s) ∧ ((lst s).take j).all nc = true) 0 ⟨rfl, by simp⟩ (Nat.zero_le _) (by rw [← size_lst]; exact hs) ?_ ?_
  · rintro j x _ hj ⟨rfl, hx⟩ N hN
    unfold f85_p2b0
    refine bB_t (by rw [size_lst]; simp; exact hj) (f86_ok hj (bB_of (fun h1 => ?_) fun h1 => h j ?_))
    · rw [w64_s j (by rw [size_lst] at hs; omega)]
      refine hN _ ⟨rfl, ?_⟩
      rw [List.take_succ_eq_append_getElem hj, List.all_append, hx]
      simpa using h1
    · rw [decide_eq_false (Nat.ne_of_lt hj), eq_comm, Bool.eq_false_iff]
      intro hc
      rw [List.all_eq_true.1 hc _ (List.getElem_mem hj)] at h1
      cases h1
  · rintro x ⟨rfl, hx⟩ N
    unfold f85_p2b0
    refine bB_f (by simp [size_lst]) (h _ ?_)
    rw [List.take_length] at hx
    simp [hx]
theorem f45_ok {s : ByteArray} (hs : s.size < 2 ^ 59) {K : Bool → Prop} (h : K (nameB s)) : f45 s K := by
  refine ⟨?_⟩
  unfold f45_d
  unfold nameB at h
  have hz := size_lst s
  refine bB_of (fun h1 => ?_) fun h1 => bB_of (fun h2 => ?_) fun h2 => ?_
  · simp only [decide_eq_true_eq] at h1
    have : lst s = [] := List.eq_nil_of_length_eq_zero (by omega)
    rw [this] at h; exact h
  · simp only [decide_eq_true_eq] at h2
    cases e : lst s with
    | nil => rw [e] at h; exact h
    | cons x r =>
      rw [e] at h hz
      simp only [List.length_cons] at hz
      have : ¬ r.length < 24 := by omega
      simpa [this] using h
  · simp only [decide_eq_false_iff_not] at h1 h2
    have hr : 0 ≤ (0 : Int) ∧ (0 : Int) < ((s.size : Nat) : Int) := by rw [size_lst]; omega
    have hl : 0 < (lst s).length := by omega
    have hb : byteAt s 0 = (((lst s)[0].toNat : Nat) : Int) := byteAt_in s (j := 0) hl
    have hK : K (low (lst s)[0] && (lst s).all nc) := by
      clear hb hr h1
      revert hl h hz
      cases lst s with
      | nil => intro _ _ hl; exact absurd hl (by simp)
      | cons x r =>
        intro h hz hl
        simp only [List.length_cons] at hz
        have h3 : r.length < 24 := by omega
        have h4 : (low x && (x :: r).all nc) = (decide (r.length < 24) && low x && r.all nc) := by
          simp only [h3, decide_true, Bool.true_and, List.all_cons]
          cases hx : low x with
          | false => rfl
          | true => simp [nc, hx]
        simp only [List.getElem_cons_zero]
        rw [h4]; exact h
    rw [hb]
    generalize hn : (lst s)[0].toNat = n
    have hlow : low (lst s)[0] = decide (97 ≤ n ∧ n ≤ 122) := by unfold low; rw [hn]; simp
    rw [hlow] at hK
    refine ⟨hr, bB_of (fun h3 => ?_) fun h3 => ⟨hr, bB_of (fun h4 => ?_) fun h4 => ?_⟩⟩
    · simp only [decide_eq_true_eq] at h3
      have : ¬ 97 ≤ n := by omega
      simpa [this] using hK
    · simp only [decide_eq_true_eq] at h4
      have : ¬ n ≤ 122 := by omega
      simpa [this] using hK
    · simp only [decide_eq_false_iff_not] at h3 h4
      have h5 : 97 ≤ n ∧ n ≤ 122 := by omega
      simp only [h5, and_self, decide_true, Bool.true_and] at hK
      have fin : ∀ j : Nat, (decide (j = (lst s).length) = (lst s).all nc) → K (((j : Int)) == ((s.size : Nat) : Int)) := fun j hj => by
        rw [← hj] at hK
        rw [size_lst]
        rwa [show (((j : Int)) == (((lst s).length : Nat) : Int)) = decide (j = (lst s).length) by rw [Bool.beq_eq_decide_eq, decide_eq_decide]; omega]
      exact ⟨f85_ok hs fin, f85_ok hs fin⟩
theorem f50_ok {s : ByteArray} (hs : s.size < 2 ^ 59) {K : Bool → Prop} (h : K (nameB s)) : f50 s K := by
  refine ⟨?_⟩
  unfold f50_d
  unfold nameB at h
  have hz := size_lst s
  refine bB_of (fun h1 => ?_) fun h1 => bB_of (fun h2 => ?_) fun h2 => ?_
  · simp only [decide_eq_true_eq] at h1
    have : lst s = [] := List.eq_nil_of_length_eq_zero (by omega)
    rw [this] at h; exact h
  · simp only [decide_eq_true_eq] at h2
    cases e : lst s with
    | nil => rw [e] at h; exact h
    | cons x r =>
      rw [e] at h hz
      simp only [List.length_cons] at hz
      have : ¬ r.length < 24 := by omega
      simpa [this] using h
  · simp only [decide_eq_false_iff_not] at h1 h2
    have hr : 0 ≤ (0 : Int) ∧ (0 : Int) < ((s.size : Nat) : Int) := by rw [size_lst]; omega
    have hl : 0 < (lst s).length := by omega
    have hb : byteAt s 0 = (((lst s)[0].toNat : Nat) : Int) := byteAt_in s (j := 0) hl
    have hK : K (low (lst s)[0] && ((lst s).drop 1).all nc) := by
      clear hb hr h1
      revert hl h hz
      cases lst s with
      | nil => intro _ _ hl; exact absurd hl (by simp)
      | cons x r =>
        intro h hz hl
        simp only [List.length_cons] at hz
        have h3 : r.length < 24 := by omega
        simpa [h3] using h
    rw [hb]
    generalize hn : (lst s)[0].toNat = n
    have hlow : low (lst s)[0] = decide (97 ≤ n ∧ n ≤ 122) := by unfold low; rw [hn]; simp
    rw [hlow] at hK
    have he : decide (97 ≤ (n : Int) ∧ (n : Int) ≤ 122) = decide (97 ≤ n ∧ n ≤ 122) := by
      rw [decide_eq_decide]; omega
    refine ⟨hr, f89_ok ?_⟩
    rw [he]
    refine bB_of (fun h3 => ?_) fun h3 => ?_
    · simp only [Bool.not_eq_true'] at h3
      rw [h3] at hK; exact hK
    · simp only [Bool.not_eq_false'] at h3
      rw [h3] at hK
      simp only [Bool.true_and] at hK
      unfold f50_p7 f50_p8
      refine LoopP.inv (lst s).length (fun j x => x = (j : Int) ∧ (((lst s).take j).drop 1).all nc = true) 1 ⟨rfl, by simp [List.drop_take]⟩ hl (by rw [← size_lst]; exact hs) ?_ ?_
      · rintro j x hj1 hj ⟨rfl, hx⟩ N hN
        unfold f50_p8b0
        have hr' : 0 ≤ (j : Int) ∧ (j : Int) < ((s.size : Nat) : Int) := by rw [size_lst]; omega
        rw [byteAt_in s hj]
        have next : nc (lst s)[j] = true → N (w64 ((j : Int) + 1)) := fun h1 => by
          rw [w64_s j (by rw [size_lst] at hs; omega)]
          refine hN _ ⟨rfl, ?_⟩
          rw [List.take_succ_eq_append_getElem hj, List.drop_append_of_le_length (by simp; omega), List.all_append, hx]
          simpa using h1
        have stop : nc (lst s)[j] = false → K false := fun h1 => by
          have : ((lst s).drop 1).all nc = false := by
            rw [Bool.eq_false_iff]
            intro hc
            have h6 := List.all_eq_true.1 hc (lst s)[j] (by
              rw [List.mem_iff_getElem]
              exact ⟨j - 1, by simp; omega, by rw [List.getElem_drop]; congr 1; omega⟩)
            rw [h1] at h6; cases h6
          rw [this] at hK; exact hK
        rw [nc_eq] at next stop
        generalize (((lst s)[j].toNat : Nat) : Int) = m at next stop ⊢
        refine bB_t (by rw [size_lst]; simp; exact hj) ⟨hr', f89_ok (bB_of (fun h4 => ⟨hr', f90_ok (bB_of (fun h5 => ⟨hr', bB_of (fun h6 => stop ?_) fun h6 => next ?_⟩) fun h5 => next ?_)⟩) fun h4 => next ?_)⟩
        · simp only [Bool.not_eq_true'] at h4 h5
          simp only [h4, h5, Bool.false_or]
          simpa using h6
        · simp only [Bool.not_eq_true'] at h4 h5
          simp only [h4, h5, Bool.false_or]
          simpa using h6
        · simp only [Bool.not_eq_false'] at h5
          simp [h5]
        · simp only [Bool.not_eq_false'] at h4
          simp [h4]
      · rintro x ⟨rfl, hx⟩ N
        unfold f50_p8b0
        refine bB_f (by simp [size_lst]) ?_
        rw [List.take_length] at hx
        rw [hx] at hK
        exact hK
end Go.Eng.N
