/- Notify, pure, 3: the reference's Check; who is told. -/
import Derived.Test.YtbidkfbcmhioiaaDoorPB
import Derived.Test.YtbidkfbcmhioiaaDoorFn1
set_option linter.unusedVariables false
set_option linter.unusedSimpArgs false
namespace Go.Eng.N
open Go Go.Eng
theorem dup_take (rs : List Rc) : (List.range rs.length).any (fun j => match rs[j]? with
    | some r => (rs.take j).any fun x => decide (r = x)
    | none => false) = dupB rs := by
  unfold dupB
  rw [Bool.eq_iff_iff]
  simp only [List.any_eq_true, Bool.not_eq_true', decide_eq_false_iff_not, List.mem_range, List.nodup_iff_pairwise_ne, List.pairwise_iff_getElem]
  constructor
  · rintro ⟨j, hj, h⟩ hc
    rw [List.getElem?_eq_getElem hj] at h
    obtain ⟨x, hx, h2⟩ := List.any_eq_true.1 h
    obtain ⟨i, hi, rfl⟩ := List.getElem_of_mem hx
    simp only [List.length_take] at hi
    simp only [List.getElem_take, decide_eq_true_eq] at h2
    exact hc i j (by omega) hj (by omega) h2.symm
  · intro h
    apply Classical.byContradiction
    intro hc
    refine h fun i j hi hj hij e => hc ⟨j, hj, ?_⟩
    rw [List.getElem?_eq_getElem hj]
    refine List.any_eq_true.2 ⟨rs[i], List.mem_take_iff_getElem.2 ⟨i, by omega, rfl⟩, by simp [e]⟩
theorem f17_ok {nm : ByteArray} {pri acks : Int} {rs : List Rc} {full : Bool} (hn : nm.size < 2 ^ 59) (hs : Sz rs) {K : Int → Prop} (h : K (checkV nm pri acks rs)) : f17 nm pri acks (rs.map Rc.c) full K := by
  refine ⟨?_⟩
  unfold f17_d
  unfold checkV at h
  have hlen := hs.len
  refine bB_of (fun h1 => ?_) fun h1 => f50_ok hn (bB_of (fun h2 => ?_) fun h2 => ?_)
  all_goals (simp only [List.length_map, decide_eq_true_eq, decide_eq_false_iff_not, Bool.not_eq_true', Bool.not_eq_false'] at *)
  · rwa [if_pos (by omega)] at h
  · rwa [if_neg (by omega), if_pos h2] at h
  · rw [if_neg (by omega), if_neg (by simp [h2])] at h
    unfold f17_p12
    refine LoopP.any rs (fun r => !nameB r.nm) (A := K 4) (B := rs.any (fun r => !nameB r.nm) = false) hs.len (fun e => by rwa [if_pos e] at h) (fun e => e) (fun j hj N hA hN => ?_) fun N hB => ?_
    · unfold f17_p12b0
      refine bB_t (ltM _ _ hj) ⟨rngM _ _ hj, ?_⟩
      rw [toNat_c, getD_map _ _ _ hj]
      simp only [Rc.c, ext_0, ext_s, ext_z, cS_c, cI_c, cB_c, cL_c, cO_c, oS_c, oI_c, oB_c, oL_c, nilC_c, toNat_c]
      refine f50_ok (hs.nms _ (List.getElem_mem hj)) (bB_of hA fun h1 => ?_)
      rw [w64_s j (by omega)]; exact hN h1
    · unfold f17_p12b0
      rw [if_neg (by simp [hB])] at h
      refine bB_f (stopM _ _) (bB_of (fun h4 => ?_) fun h4 => bB_of (fun h5 => ?_) fun h5 => bB_of (fun h6 => ?_) fun h6 => bB_of (fun h7 => ?_) fun h7 => ?_)
      all_goals (simp only [decide_eq_true_eq, decide_eq_false_iff_not] at *)
      · rwa [if_pos h4] at h
      · rwa [if_neg h4, if_pos h5] at h
      · rwa [if_neg h4, if_neg h5, if_pos h6] at h
      · rwa [if_neg h4, if_neg h5, if_neg h6, if_pos h7] at h
      · rw [if_neg h4, if_neg h5, if_neg h6, if_neg h7] at h
        unfold f17_p25 f17_p26
        refine LoopP.any rs badB (A := K 6) (B := rs.any badB = false) hs.len (fun e => by rwa [if_pos e] at h) (fun e => e) (fun j hj N hA hN => ?_) fun N hB => ?_
        · unfold f17_p26b0
          refine bB_t (ltM _ _ hj) ⟨rngM _ _ hj, ?_⟩
          rw [toNat_c, getD_map _ _ _ hj]
          simp only [Rc.c, ext_0, ext_s, ext_z, cS_c, cI_c, cB_c, cL_c, cO_c, oS_c, oI_c, oB_c, oL_c, nilC_c, toNat_c]
          rw [w64_s j (by omega)]
          unfold badB at hA hN
          simp only [bB_ite]
          revert hA hN
          cases decide ((rs[j]).days < 1) <;> cases decide ((rs[j]).days > 127) <;> cases decide ((rs[j]).kinds < 1) <;> cases decide ((rs[j]).kinds > 7) <;> cases decide ((rs[j]).fr < 0) <;> cases decide ((rs[j]).fr > (rs[j]).to) <;> cases decide ((rs[j]).to ≥ 1440) <;> intro hA hN <;> first | exact hA rfl | exact hN rfl
        · unfold f17_p26b0
          rw [if_neg (by simp [hB])] at h
          refine bB_f (stopM _ _) ?_
          rw [← dup_take] at h
          unfold f17_p38
          refine LoopP.any (List.range rs.length) (fun j => match rs[j]? with
            | some r => (rs.take j).any fun x => decide (r = x)
            | none => false) (A := K 5) (B := K 0) (by simpa using hs.len) (fun e => by rw [e] at h; exact h) (fun e => by rw [e] at h; exact h) (fun j hj N hA hN => ?_) fun N hB => ?_
          · have hj' : j < rs.length := by simpa using hj
            simp only [List.getElem_range, List.getElem?_eq_getElem hj'] at hA hN
            unfold f17_p38b0
            refine bB_t (ltM _ _ hj') ?_
            unfold f17_p44
            rw [w64_s j (by omega)]
            refine LoopP.any (rs.take j) (fun x => decide (rs[j] = x)) (A := K 5) (B := N ((j + 1 : Nat) : Int)) (by rw [List.length_take]; omega) hA hN (fun i hi N' hA' hN' => ?_) fun N' hB' => ?_
            · have hi' : i < j := by rw [List.length_take] at hi; omega
              have hi2 : i < rs.length := by omega
              unfold f17_p44b0
              refine bB_t (ltL hi') ⟨rngM _ _ hj', ?_⟩
              rw [toNat_c, getD_map _ _ _ hj']
              simp only [Rc.c, ext_0, ext_s, ext_z, cS_c, cI_c, cB_c, cL_c, cO_c, oS_c, oI_c, oB_c, oL_c, nilC_c, toNat_c]
              refine ⟨rngM _ _ hi2, ?_⟩
              rw [getD_map _ _ _ hi2]
              simp only [Rc.c, ext_0, ext_s, ext_z, cS_c, cI_c, cB_c, cL_c, cO_c, oS_c, oI_c, oB_c, oL_c, nilC_c, toNat_c]
              rw [eqRc]
              rw [List.getElem_take] at hA' hN'
              refine bB_of hA' fun h1 => ?_
              rw [w64_s i (by omega)]
              exact hN' h1
            · unfold f17_p44b0
              have e : (rs.take j).length = j := by rw [List.length_take]; omega
              rw [e]
              exact bB_f (stopL _) hB'
          · unfold f17_p38b0
            rw [List.length_range]
            exact bB_f (stopM _ _) hB
/-- The place of a state's kind: alarm, fault, normal. -/
def kindIx (s : Int) : Nat := if s = 0 then 2 else if s = 4 then 1 else 0
theorem f59_ok {s : Int} {K : Int → Prop} (h : K ((2 ^ kindIx s : Nat) : Int)) : f59 s K := by
  refine ⟨?_⟩
  unfold f59_d
  unfold kindIx at h
  rw [beqD, beqD, bB_ite, bB_ite]
  simp only [decide_eq_true_eq]
  split
  · rename_i e; rw [if_pos e] at h; exact h
  · rename_i e; rw [if_neg e] at h
    split
    · rename_i e; rw [if_pos e] at h; exact h
    · rename_i e; rw [if_neg e] at h; exact h
theorem f56_ok {s : Int} {K : Int → Prop} (h : K ((2 ^ kindIx s : Nat) : Int)) : f56 s K := by
  refine ⟨?_⟩
  unfold f56_d
  unfold kindIx at h
  rw [beqD, beqD, bB_ite, bB_ite]
  simp only [decide_eq_true_eq]
  split
  · rename_i e; rw [if_pos e] at h; exact h
  · rename_i e; rw [if_neg e] at h
    split
    · rename_i e; rw [if_pos e] at h; exact h
    · rename_i e; rw [if_neg e] at h; exact h
theorem kindIx_le (s : Int) : kindIx s ≤ 2 := by
  unfold kindIx
  split
  · decide
  · split <;> decide
def stateB (s : Int) : Bool := decide (0 ≤ s) && decide (s ≤ 4)
def timedB (t s : Int) : Bool := decide (0 ≤ t) && decide (t ≤ 6311433599) && stateB s
theorem f57_ok {s : Int} {K : Bool → Prop} (h : K (stateB s)) : f57 s K := by
  refine ⟨?_⟩
  unfold f57_d
  unfold stateB at h
  simp only [ge_iff_le]
  cases hd : decide (0 ≤ s) with
  | true => rw [hd] at h; exact h
  | false => rw [hd] at h; exact h
theorem f51_ok {t s : Int} {K : Int → Prop} (h : K (if timedB t s = true then 0 else 6)) : f51 t s K := by
  refine ⟨?_⟩
  unfold f51_d
  unfold timedB at h
  refine bB_of (fun h1 => ?_) fun h1 => bB_of (fun h2 => ?_) fun h2 => f57_ok (bB_of (fun h3 => ?_) fun h3 => ?_)
  all_goals (simp only [decide_eq_true_eq, decide_eq_false_iff_not, Bool.not_eq_true', Bool.not_eq_false'] at *)
  · rwa [if_neg (by simp; omega)] at h
  · rwa [if_neg (by simp; omega)] at h
  · rwa [if_neg (by simp [h3])] at h
  · rwa [if_pos (by simp [h3]; omega)] at h
theorem f53_ok {t s : Int} {K : Bool → Prop} (h : K (timedB t s)) : f53 t s K := by
  refine ⟨?_⟩
  unfold f53_d
  unfold timedB stateB at h
  simp only [ge_iff_le, bB_ite]
  cases h1 : decide (0 ≤ t) <;> cases h2 : decide (t ≤ 6311433599) <;> cases h3 : decide (0 ≤ s) <;> simpa [h1, h2, h3] using h
/-- Is a recipient told at a weekday from 0 on, a minute, of a kind? -/
def tellB (r : Rc) (d : Nat) (m : Int) (k : Nat) : Bool := r.days.toNat.testBit d && (decide (m ≥ r.fr) && (decide (m ≤ r.to) && r.kinds.toNat.testBit k))
structure Good (r : Rc) : Prop where
  d1 : 1 ≤ r.days
  d2 : r.days ≤ 127
  k1 : 1 ≤ r.kinds
  k2 : r.kinds ≤ 7
  f1 : 0 ≤ r.fr
  f2 : r.fr ≤ r.to
  t : r.to < 1440
theorem good_of {r : Rc} (h : badB r = false) : Good r := by
  unfold badB at h
  simp only [Bool.or_eq_false_iff, decide_eq_false_iff_not] at h
  exact ⟨by omega, by omega, by omega, by omega, by omega, by omega, by omega⟩
theorem f91_ok {r : Rc} (hr : Good r) {d : Nat} (hd : d < 7) {m : Int} {k : Nat} (hk : k ≤ 2) {K : Bool → Prop} (h : K (tellB r d m k)) : f91 r.nm r.days r.fr r.to r.kinds ((d : Int) + 1) m ((2 ^ k : Nat) : Int) K := by
  refine ⟨?_⟩
  unfold f91_d
  unfold tellB at h
  have e1 : w64 ((d : Int) + 1 - 1) = (d : Int) := by rw [Int.add_sub_cancel]; exact w64_in (by omega) (by omega)
  have e2 : r.days = ((r.days.toNat : Nat) : Int) := by have := hr.d1; omega
  have e3 : r.kinds = ((r.kinds.toNat : Nat) : Int) := by have := hr.k1; omega
  have hk2 : 2 ^ k ≤ 2 ^ 2 := Nat.pow_le_pow_right (by decide) hk
  have hd2 := hr.d2
  have hk3 := hr.k2
  rw [e1]
  generalize hN : r.days.toNat = n at h
  generalize hM : r.kinds.toNat = l at h
  rw [hN] at e2
  rw [hM] at e3
  rw [e2, e3, shrI _ _ (by omega), show (1 : Int) = ((1 : Nat) : Int) from rfl, andI _ _ (Nat.lt_of_le_of_lt (Nat.div_le_self _ _) (by omega)) (by omega), andI _ _ (by omega) (by omega), bit3]
  rw [show (((n / 2 ^ d &&& 1 : Nat) : Int) == ((1 : Nat) : Int)) = n.testBit d by rw [← bit1, beqD, beqD, decide_eq_decide]; omega]
  refine ⟨by omega, ?_⟩
  cases hx : n.testBit d <;> cases hy : decide (m ≥ r.fr) <;> cases hz : decide (m ≤ r.to) <;> rw [hx, hy, hz] at h <;> exact h
theorem f84_ok {n d : Nat} (hd : d < 7) {K : Bool → Prop} (h : K (n.testBit d)) : f84 (n : Int) (d : Int) K := by
  refine ⟨?_⟩
  unfold f84_d
  rw [IntWalk.u64_in _ (by omega), shrI _ _ (by omega), bit2]
  exact ⟨by omega, by decide, h⟩
theorem f94_ok {r : Rc} (hr : Good r) {d : Nat} (hd : d < 7) {m : Int} {k : Nat} (hk : k ≤ 2) {K : Bool → Prop} (h : K (tellB r d m k)) : f94 r.nm r.days r.fr r.to r.kinds (d : Int) m ((2 ^ k : Nat) : Int) K := by
  refine ⟨?_⟩
  unfold f94_d
  unfold tellB at h
  have e2 : r.days = ((r.days.toNat : Nat) : Int) := by have := hr.d1; omega
  have e3 : r.kinds = ((r.kinds.toNat : Nat) : Int) := by have := hr.k1; omega
  have hd2 := hr.d2
  have hk3 := hr.k2
  have hp : 0 < 2 ^ k := Nat.two_pow_pos k
  generalize hN : r.days.toNat = n at h
  generalize hM : r.kinds.toNat = l at h
  rw [hN] at e2
  rw [hM] at e3
  rw [e2, e3]
  refine f84_ok hd ?_
  have e4 : Int.tdiv (l : Int) ((2 ^ k : Nat) : Int) = ((l / 2 ^ k : Nat) : Int) := (Int.ofNat_tdiv _ _).symm
  have e5 : l / 2 ^ k ≤ l := Nat.div_le_self _ _
  have e6 : w64 (Int.tdiv (l : Int) ((2 ^ k : Nat) : Int)) = ((l / 2 ^ k : Nat) : Int) := by
    rw [e4]
    generalize l / 2 ^ k = z at e5 ⊢
    exact w64_in (by omega) (by omega)
  rw [e6, bit2]
  have h0 : ((2 ^ k : Nat) : Int) ≠ 0 ∧ (2 : Int) ≠ 0 := ⟨by omega, by decide⟩
  cases hx : n.testBit d <;> cases hy : decide (m ≥ r.fr) <;> cases hz : decide (m ≤ r.to) <;> rw [hx, hy, hz] at h <;> first | exact h | exact ⟨h0.1, h0.2, h⟩
end Go.Eng.N
