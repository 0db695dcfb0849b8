/- Notify, pure, 2: Check, the program's and the reference's. -/
import Derived.Test.YtbidkfbcmhioiaaDoorPA
set_option linter.unusedVariables false
set_option linter.unusedSimpArgs false
namespace Go.Eng.N
open Go Go.Eng
structure Rc where
  nm : ByteArray
  days : Int
  fr : Int
  to : Int
  kinds : Int
  deriving DecidableEq
/-- A recipient's cells. -/
def Rc.c (r : Rc) : List PC := [pS r.nm, pI r.days, pI r.fr, pI r.to, pI r.kinds]
def badB (r : Rc) : Bool := decide (r.days < 1) || decide (r.days > 127) || decide (r.kinds < 1) || decide (r.kinds > 7) || decide (r.fr < 0) || decide (r.fr > r.to) || decide (r.to ≥ 1440)
def dupB (rs : List Rc) : Bool := !decide rs.Nodup
def checkV (nm : ByteArray) (pri acks : Int) (rs : List Rc) : Int :=
  if rs.length > 8 then 7 else if nameB nm = false then 4 else if rs.any (fun r => !nameB r.nm) = true then 4 else if pri < 0 then 6 else if pri > 255 then 6 else if acks < 0 then 6 else if acks > 7 then 6
  else if rs.any badB = true then 6 else if dupB rs = true then 5 else 0
/-- Sizes that can be. -/
structure Sz (rs : List Rc) : Prop where
  len : rs.length < 2 ^ 59
  nms : ∀ r ∈ rs, r.nm.size < 2 ^ 59
theorem eqRc (a b : Rc) : ((a.nm == b.nm) && ((a.days == b.days) && ((a.fr == b.fr) && ((a.to == b.to) && ((a.kinds == b.kinds) && true))))) = decide (a = b) := by
  rw [beqB, Bool.eq_iff_iff]
  cases a; cases b
  simp
theorem f47_ok {r : Rc} (hs : r.nm.size < 2 ^ 59) {K : Bool → Prop} (h : K (!nameB r.nm)) : f47 r.nm r.days r.fr r.to r.kinds K := by
  refine ⟨?_⟩
  unfold f47_d
  exact f45_ok hs h
theorem f46_ok {rs : List Rc} {full : Bool} (hs : Sz rs) {K : Bool → Prop} (h : K (rs.any fun r => !nameB r.nm)) : f46 (rs.map Rc.c) full K := by
  refine ⟨?_⟩
  unfold f46_d
  refine ⟨?_⟩
  unfold f88_d f88_p4
  refine LoopP.any rs (fun r => !nameB r.nm) (A := K true) (B := K false) hs.len (fun e => e ▸ h) (fun e => e ▸ h) (fun j hj N hA hN => ?_) fun N hB => ?_
  · unfold f88_p4b0
    refine bB_t (ltM _ _ hj) ⟨rngM _ _ hj, ?_⟩
    rw [toNat_c, getD_map _ _ _ hj]
    simp only [Rc.c, ext_0, ext_s, ext_z, cS_c, cI_c, cB_c, cL_c, cO_c, oS_c, oI_c, oB_c, oL_c, nilC_c, toNat_c]
    refine f47_ok (hs.nms _ (List.getElem_mem hj)) (bB_of (fun h1 => ?_) fun h1 => ?_)
    · rw [decide_eq_true (by omega)]; exact hA h1
    · rw [w64_s j (by have := hs.len; omega)]; exact hN h1
  · unfold f88_p4b0
    exact bB_f (stopM _ _) hB
theorem f48_ok {r : Rc} {K : Bool → Prop} (h : K (badB r)) : f48 r.nm r.days r.fr r.to r.kinds K := by
  refine ⟨?_⟩
  unfold f48_d
  unfold badB at h
  simp only [bB_ite]
  revert h
  cases decide (r.days < 1) <;> cases decide (r.days > 127) <;> cases decide (r.kinds < 1) <;> cases decide (r.kinds > 7) <;> cases decide (r.fr < 0) <;> cases decide (r.fr > r.to) <;> exact fun h => h
theorem f46_1_ok {rs : List Rc} {full : Bool} (hs : Sz rs) {K : Bool → Prop} (h : K (rs.any badB)) : f46_1 (rs.map Rc.c) full K := by
  refine ⟨?_⟩
  unfold f46_1_d
  refine ⟨?_⟩
  unfold f88_1_d f88_1_p4
  refine LoopP.any rs badB (A := K true) (B := K false) hs.len (fun e => e ▸ h) (fun e => e ▸ h) (fun j hj N hA hN => ?_) fun N hB => ?_
  · unfold f88_1_p4b0
    refine bB_t (ltM _ _ hj) ⟨rngM _ _ hj, ?_⟩
    rw [toNat_c, getD_map _ _ _ hj]
    simp only [Rc.c, ext_0, ext_s, ext_z, cS_c, cI_c, cB_c, cL_c, cO_c, oS_c, oI_c, oB_c, oL_c, nilC_c, toNat_c]
    refine f48_ok (r := rs[j]) (bB_of (fun h1 => ?_) fun h1 => ?_)
    · rw [decide_eq_true (by omega)]; exact hA h1
    · rw [w64_s j (by have := hs.len; omega)]; exact hN h1
  · unfold f88_1_p4b0
    exact bB_f (stopM _ _) hB
theorem f49_ok {rs : List Rc} {full : Bool} (hs : Sz rs) {r : Rc} {K : Int → Prop} (hr : r ∈ rs) (h : K (rs.idxOf r : Nat)) : f49 (rs.map Rc.c) full r.nm r.days r.fr r.to r.kinds K := by
  refine ⟨?_⟩
  unfold f49_d f49_p4
  refine LoopP.find rs (fun x => decide (r = x)) (A := fun j => K (j : Int)) (B := False) hs.len (fun j hj hq hb => ?_) (fun hq => ?_) (fun j hj N hA hN => ?_) fun N hB => hB.elim
  · have : rs.idxOf r = j := by
      unfold List.idxOf
      rw [List.findIdx_eq hj]
      refine ⟨?_, fun i hi => ?_⟩
      · rw [beqD]; exact (decide_eq_decide.2 eq_comm).trans hq
      · rw [beqD]; exact (decide_eq_decide.2 eq_comm).trans (hb i hi)
    rwa [this] at h
  · have := hq r hr
    simp at this
  · unfold f49_p4b0
    refine bB_t (ltM _ _ hj) ⟨rngM _ _ hj, ?_⟩
    rw [toNat_c, getD_map _ _ _ hj]
    simp only [Rc.c, ext_0, ext_s, ext_z, cS_c, cI_c, cB_c, cL_c, cO_c, oS_c, oI_c, oB_c, oL_c, nilC_c, toNat_c]
    rw [eqRc]
    refine bB_of hA fun h1 => ?_
    rw [w64_s j (by have := hs.len; omega)]
    exact hN h1
theorem nodup_idx {α : Type} [DecidableEq α] : ∀ l : List α, l.Nodup ↔ ∀ j (hj : j < l.length), l.idxOf l[j] = j := by
  intro l
  constructor
  · intro h j hj
    have h1 : l.idxOf l[j] < l.length := List.idxOf_lt_length_of_mem (List.getElem_mem hj)
    have h2 : l[l.idxOf l[j]] = l[j] := List.getElem_idxOf h1
    have h3 := List.pairwise_iff_getElem.1 (List.nodup_iff_pairwise_ne.1 h)
    rcases Nat.lt_trichotomy (l.idxOf l[j]) j with h4 | h4 | h4
    · exact absurd h2 (h3 _ _ h1 hj h4)
    · exact h4
    · exact absurd h2.symm (h3 _ _ hj h1 h4)
  · intro h
    rw [List.nodup_iff_pairwise_ne, List.pairwise_iff_getElem]
    intro i j hi hj hij e
    have h1 := h i hi
    have h2 := h j hj
    rw [e] at h1
    omega
theorem any_idx (rs : List Rc) : (List.range rs.length).any (fun j => match rs[j]? with
    | some r => rs.idxOf r != j
    | none => false) = dupB rs := by
  unfold dupB
  rw [Bool.eq_iff_iff]
  simp only [List.any_eq_true, Bool.not_eq_true', decide_eq_false_iff_not, nodup_idx, List.mem_range]
  constructor
  · rintro ⟨j, hj, h⟩ hc
    rw [List.getElem?_eq_getElem hj] at h
    simp only [hc j hj, bne_self_eq_false] at h
    cases h
  · intro h
    apply Classical.byContradiction
    intro hc
    refine h fun j hj => ?_
    apply Classical.byContradiction
    intro h1
    exact hc ⟨j, hj, by rw [List.getElem?_eq_getElem hj]; simpa using h1⟩
theorem f16_ok {nm : ByteArray} {pri acks : Int} {rs : List Rc} {full : Bool} (hn : nm.size < 2 ^ 59) (hs : Sz rs) {K : Int → Prop} (h : K (checkV nm pri acks rs)) : f16 nm pri acks (rs.map Rc.c) full K := by
  refine ⟨?_⟩
  unfold f16_d
  unfold checkV at h
  refine bB_of (fun h1 => ?_) fun h1 => f45_ok hn (bB_of (fun h2 => ?_) fun h2 => f46_ok hs (bB_of (fun h3 => ?_) fun h3 => bB_of (fun h4 => ?_) fun h4 => bB_of (fun h5 => ?_) fun h5 => bB_of (fun h6 => ?_) fun h6 => bB_of (fun h7 => ?_) fun h7 => f46_1_ok hs (bB_of (fun h8 => ?_) fun h8 => ?_)))
  all_goals (simp only [List.length_map, decide_eq_true_eq, decide_eq_false_iff_not, Bool.not_eq_true', Bool.not_eq_false'] at *)
  · rwa [if_pos (by omega)] at h
  · rwa [if_neg (by omega), if_pos h2] at h
  · rwa [if_neg (by omega), if_neg (by simp [h2]), if_pos h3] at h
  · rwa [if_neg (by omega), if_neg (by simp [h2]), if_neg (by simp [h3]), if_pos h4] at h
  · rwa [if_neg (by omega), if_neg (by simp [h2]), if_neg (by simp [h3]), if_neg h4, if_pos h5] at h
  · rwa [if_neg (by omega), if_neg (by simp [h2]), if_neg (by simp [h3]), if_neg h4, if_neg h5, if_pos h6] at h
  · rwa [if_neg (by omega), if_neg (by simp [h2]), if_neg (by simp [h3]), if_neg h4, if_neg h5, if_neg h6, if_pos h7] at h
  · rwa [if_neg (by omega), if_neg (by simp [h2]), if_neg (by simp [h3]), if_neg h4, if_neg h5, if_neg h6, if_neg h7, if_pos h8] at h
  · rw [if_neg (by omega), if_neg (by simp [h2]), if_neg (by simp [h3]), if_neg h4, if_neg h5, if_neg h6, if_neg h7, if_neg (by simp [h8])] at h
    unfold f16_p15 f16_p16
    rw [← any_idx] at h
    refine LoopP.any (List.range rs.length) (fun j => match rs[j]? with
      | some r => rs.idxOf r != j
      | none => false) (A := K 5) (B := K 0) (by simpa using hs.len) (fun e => by rw [e] at h; exact h) (fun e => by rw [e] at h; exact h) (fun j hj N hA hN => ?_) fun N hB => ?_
    · have hj' : j < rs.length := by simpa using hj
      unfold f16_p16b0
      refine bB_t (ltM _ _ hj') ⟨rngM _ _ hj', ?_⟩
      rw [toNat_c, getD_map _ _ _ hj']
      simp only [Rc.c, ext_0, ext_s, ext_z, cS_c, cI_c, cB_c, cL_c, cO_c, oS_c, oI_c, oB_c, oL_c, nilC_c, toNat_c]
      simp only [List.getElem_range, List.getElem?_eq_getElem hj'] at hA hN
      refine f49_ok hs (List.getElem_mem hj') (bB_of (fun h9 => hA ?_) fun h9 => ?_)
      · simp only [bne_iff_ne, ne_eq] at h9 ⊢; omega
      · rw [w64_s j (by have := hs.len; omega)]
        exact hN (by simp only [bne_eq_false_iff_eq] at h9 ⊢; omega)
    · unfold f16_p16b0
      rw [List.length_range]
      exact bB_f (stopM _ _) hB
end Go.Eng.N
