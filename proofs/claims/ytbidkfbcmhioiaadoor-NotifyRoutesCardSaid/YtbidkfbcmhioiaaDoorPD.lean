/- Notify, pure, 4: the names and notices. -/
import Derived.Test.YtbidkfbcmhioiaaDoorPC
import Derived.Test.YtbidkfbcmhioiaaDoorPR
import Derived.Test.YtbidkfbcmhioiaaDoorFn1
set_option linter.unusedVariables false
set_option linter.unusedSimpArgs false
namespace Go.Eng.N
open Go Go.Eng
/-- A string's cells. -/
def sc (s : ByteArray) : List PC := [pS s]
theorem f92_ok {l : List ByteArray} {full : Bool} (hl : l.length < 2 ^ 59) {s : ByteArray} {K : Bool → Prop} (h : K (decide (s ∈ l))) : f92 (l.map sc) full s K := by
  refine ⟨?_⟩
  unfold f92_d
  refine ⟨?_⟩
  unfold f97_d f97_p4
  have e : l.any (fun x => decide (s = x)) = decide (s ∈ l) := by
    rw [Bool.eq_iff_iff]; simp
  rw [← e] at h
  refine LoopP.any l (fun x => decide (s = x)) (A := K true) (B := K false) hl (fun e => e ▸ h) (fun e => e ▸ h) (fun j hj N hA hN => ?_) fun N hB => ?_
  · unfold f97_p4b0
    refine bB_t (ltM _ _ hj) ⟨rngM _ _ hj, ?_⟩
    rw [toNat_c, getD_map _ _ _ hj]
    simp only [sc, ext_0, ext_s, ext_z, cS_c, cI_c, cB_c, cL_c, cO_c, oS_c, oI_c, oB_c, oL_c, nilC_c, toNat_c]
    rw [beqL, decide_eq_true (show ((j : Nat) : Int) ≥ 0 by omega), w64_s j (by omega)]
    exact bB_of hA hN
  · unfold f97_p4b0
    exact bB_f (stopM _ _) hB
theorem f95_ok {l : List ByteArray} {full : Bool} (hl : l.length < 2 ^ 59) {s : ByteArray} {K : Bool → Prop} (h : K (decide (s ∈ l))) : f95 (l.map sc) full s K := by
  refine ⟨?_⟩
  unfold f95_d f95_p4
  have e : l.any (fun x => decide (x = s)) = decide (s ∈ l) := by
    rw [Bool.eq_iff_iff]; simp
  rw [← e] at h
  refine LoopP.any l (fun x => decide (x = s)) (A := K true) (B := K false) hl (fun e => e ▸ h) (fun e => e ▸ h) (fun j hj N hA hN => ?_) fun N hB => ?_
  · unfold f95_p4b0
    refine bB_t (ltM _ _ hj) ⟨rngM _ _ hj, ?_⟩
    rw [toNat_c, getD_map _ _ _ hj]
    simp only [sc, ext_0, ext_s, ext_z, cS_c, cI_c, cB_c, cL_c, cO_c, oS_c, oI_c, oB_c, oL_c, nilC_c, toNat_c]
    rw [beqL, w64_s j (by omega)]
    exact bB_of hA hN
  · unfold f95_p4b0
    exact bB_f (stopM _ _) hB
def stepN (d : Nat) (m : Int) (k : Nat) (acc : List ByteArray) (r : Rc) : List ByteArray := if tellB r d m k = true ∧ r.nm ∉ acc then acc ++ [r.nm] else acc
/-- The names of those who are told. -/
def namesV (d : Nat) (m : Int) (k : Nat) (rs : List Rc) : List ByteArray := rs.foldl (stepN d m k) []
theorem stepN_len (d : Nat) (m : Int) (k : Nat) (acc : List ByteArray) (r : Rc) : (stepN d m k acc r).length ≤ acc.length + 1 := by
  unfold stepN
  split
  · simp
  · omega
theorem foldN_len (d : Nat) (m : Int) (k : Nat) : ∀ (rs : List Rc) (acc : List ByteArray), (rs.foldl (stepN d m k) acc).length ≤ acc.length + rs.length
  | [], acc => by simp
  | r :: rs, acc => by
    have h1 := foldN_len d m k rs (stepN d m k acc r)
    have h2 := stepN_len d m k acc r
    simp only [List.foldl_cons, List.length_cons]
    omega
theorem names_len (d : Nat) (m : Int) (k : Nat) (rs : List Rc) : (namesV d m k rs).length ≤ rs.length := by
  have := foldN_len d m k rs []
  simpa [namesV] using this
theorem names_take (d : Nat) (m : Int) (k : Nat) (rs : List Rc) {j : Nat} (hj : j < rs.length) : namesV d m k (rs.take (j + 1)) = stepN d m k (namesV d m k (rs.take j)) rs[j] := by
  rw [List.take_succ_eq_append_getElem hj, namesV, List.foldl_append]
  rfl
def dayOf (t : Int) : Nat := ((t / 86400 + 5) % 7).toNat
def minOf (t : Int) : Int := t % 86400 / 60
theorem dayOf_lt (t : Int) : dayOf t < 7 := by unfold dayOf; omega
theorem day_eq {t : Int} (h1 : 0 ≤ t) (h2 : t ≤ 6311433599) : Int.tmod (w64 ((w64 (Int.tdiv t 86400)) + 5)) 7 = ((dayOf t : Nat) : Int) := by
  unfold dayOf
  have e : w64 (Int.tdiv t 86400) = t / 86400 := by rw [Int.tdiv_eq_ediv_of_nonneg h1, w64_in (by omega) (by omega)]
  rw [e, w64_in (by omega) (by omega), Int.tmod_eq_emod_of_nonneg (by omega)]
  omega
theorem min_eq {t : Int} (h1 : 0 ≤ t) : w64 (Int.tdiv (Int.tmod t 86400) 60) = minOf t := by
  unfold minOf
  rw [Int.tmod_eq_emod_of_nonneg h1, Int.tdiv_eq_ediv_of_nonneg (by omega), w64_in (by omega) (by omega)]
theorem f52_ok {nm : ByteArray} {pri acks : Int} {rs : List Rc} {full : Bool} (hl : rs.length ≤ 8) (hg : ∀ r ∈ rs, Good r) {t s : Int} (h1 : 0 ≤ t) (h2 : t ≤ 6311433599) {K : List (List PC) → Bool → Prop}
    (h : K ((namesV (dayOf t) (minOf t) (kindIx s) rs).map sc) false) : f52 nm pri acks (rs.map Rc.c) full t s K := by
  refine ⟨?_⟩
  unfold f52_d f52_p10
  rw [day_eq h1 h2, min_eq h1, w64_in (by have := dayOf_lt t; omega) (by have := dayOf_lt t; omega)]
  refine ⟨by decide, by decide, by decide, by decide, ?_⟩
  refine LoopP.inv rs.length (fun j x => x.2.2.1 = (j : Int) ∧ SlR x.1 x.2.1 x.2.2.2 ((namesV (dayOf t) (minOf t) (kindIx s) (rs.take j)).map sc)) 0 ⟨rfl, SlR.nil⟩ (Nat.zero_le _) (by omega) ?_ ?_
  · rintro j ⟨i, n, x, es⟩ _ hj ⟨rfl, hr⟩ N hN
    have hr : SlR i n es _ := hr
    unfold f52_p10b0
    refine bB_t (ltM _ _ hj) ⟨rngM _ _ hj, ?_⟩
    rw [toNat_c, getD_map _ _ _ hj]
    simp only [Rc.c, ext_0, ext_s, ext_z, cS_c, cI_c, cB_c, cL_c, cO_c, oS_c, oI_c, oB_c, oL_c, nilC_c, toNat_c]
    have hl2 := names_len (dayOf t) (minOf t) (kindIx s) (rs.take j)
    rw [List.length_take] at hl2
    have hn := hr.n
    rw [List.length_map] at hn
    have hstep := names_take (dayOf t) (minOf t) (kindIx s) rs hj
    rw [w64_s j (by omega)]
    refine f59_ok (f91_ok (hg _ (List.getElem_mem hj)) (dayOf_lt t) (kindIx_le s) (bB_of (fun h3 => ?_) fun h3 => hN _ ⟨rfl, ?_⟩))
    · rw [hr.take]
      refine f92_ok (by omega) (bB_of (fun h4 => ⟨hr.len, by omega, by omega, hN _ ⟨rfl, ?_⟩⟩) fun h4 => hN _ ⟨rfl, ?_⟩)
      · rw [hstep, stepN, if_pos ⟨h3, by simpa using h4⟩, List.map_append]
        exact hr.push _
      · rw [hstep, stepN, if_neg (fun hc => hc.2 (by simpa using h4))]
        exact hr
    · rw [hstep, stepN, if_neg (fun hc => by rw [hc.1] at h3; cases h3)]
      exact hr
  · rintro ⟨i, n, x, es⟩ ⟨rfl, hr⟩ N
    have hr : SlR i n es _ := hr
    unfold f52_p10b0
    refine bB_f (stopM _ _) ?_
    show K (List.take n (List.drop i es)) false
    rw [hr.take, List.take_length]
    exact h
theorem f54_ok {nm : ByteArray} {pri acks : Int} {rs : List Rc} {full : Bool} (hl : rs.length ≤ 8) (hg : ∀ r ∈ rs, Good r) {t s : Int} (h1 : 0 ≤ t) (h2 : t ≤ 6311433599) {K : List (List PC) → Bool → Prop}
    (h : K ((namesV (dayOf t) (minOf t) (kindIx s) rs).map sc) false) : f54 nm pri acks (rs.map Rc.c) full t s K := by
  refine ⟨?_⟩
  unfold f54_d f54_p8
  refine ⟨?_⟩
  unfold f93_d
  rw [day_eq h1 h2, min_eq h1]
  refine ⟨by decide, by decide, by decide, by decide, ?_⟩
  refine LoopP.inv rs.length (fun j x => x.2.2.1 = (j : Int) ∧ SlR x.1 x.2.1 x.2.2.2 ((namesV (dayOf t) (minOf t) (kindIx s) (rs.take j)).map sc)) 0 ⟨rfl, SlR.nil⟩ (Nat.zero_le _) (by omega) ?_ ?_
  · rintro j ⟨i, n, x, es⟩ _ hj ⟨rfl, hr⟩ N hN
    have hr : SlR i n es _ := hr
    unfold f54_p8b0
    refine bB_t (ltM _ _ hj) ⟨rngM _ _ hj, ?_⟩
    rw [toNat_c, getD_map _ _ _ hj]
    simp only [Rc.c, ext_0, ext_s, ext_z, cS_c, cI_c, cB_c, cL_c, cO_c, oS_c, oI_c, oB_c, oL_c, nilC_c, toNat_c]
    have hl2 := names_len (dayOf t) (minOf t) (kindIx s) (rs.take j)
    rw [List.length_take] at hl2
    have hn := hr.n
    rw [List.length_map] at hn
    have hstep := names_take (dayOf t) (minOf t) (kindIx s) rs hj
    rw [w64_s j (by omega)]
    refine f56_ok (f94_ok (hg _ (List.getElem_mem hj)) (dayOf_lt t) (kindIx_le s) (bB_of (fun h3 => ?_) fun h3 => hN _ ⟨rfl, ?_⟩))
    · rw [hr.take]
      refine f95_ok (by omega) (bB_of (fun h4 => ⟨hr.len, by omega, by omega, hN _ ⟨rfl, ?_⟩⟩) fun h4 => hN _ ⟨rfl, ?_⟩)
      · rw [hstep, stepN, if_pos ⟨h3, by simpa using h4⟩, List.map_append]
        exact hr.push _
      · rw [hstep, stepN, if_neg (fun hc => hc.2 (by simpa using h4))]
        exact hr
    · rw [hstep, stepN, if_neg (fun hc => by rw [hc.1] at h3; cases h3)]
      exact hr
  · rintro ⟨i, n, x, es⟩ ⟨rfl, hr⟩ N
    have hr : SlR i n es _ := hr
    unfold f54_p8b0
    refine bB_f (stopM _ _) ?_
    show K (List.take n (List.drop i es)) false
    rw [hr.take, List.take_length]
    exact h
/-- What Check answers with 0 of. -/
theorem check_good {nm : ByteArray} {pri acks : Int} {rs : List Rc} (h : checkV nm pri acks rs = 0) : rs.length ≤ 8 ∧ (0 ≤ acks ∧ acks ≤ 7) ∧ (0 ≤ pri ∧ pri ≤ 255) ∧ (∀ r ∈ rs, Good r) ∧ rs.Nodup ∧ nameB nm = true ∧ ∀ r ∈ rs, nameB r.nm = true := by
  unfold checkV at h
  repeat' (split at h <;> first | (exact absurd h (by decide)) | skip)
  rename_i h1 h2 h3 h4 h5 h6 h7 h8 h9
  refine ⟨by omega, by omega, by omega, fun r hr => good_of ?_, ?_, by simpa using h2, fun r hr => ?_⟩
  · rw [Bool.eq_false_iff]
    exact fun hc => h8 (List.any_eq_true.2 ⟨r, hr, hc⟩)
  · simpa [dupB] using h9
  · cases hx : nameB r.nm with
    | true => rfl
    | false => exact absurd (List.any_eq_true.2 ⟨r, hr, by rw [hx]; rfl⟩) h3
/-- What Told answers. -/
def toldV (nm : ByteArray) (pri acks : Int) (rs : List Rc) (t s : Int) : List ByteArray × Int :=
  if checkV nm pri acks rs ≠ 0 then ([], checkV nm pri acks rs) else if timedB t s = true then (namesV (dayOf t) (minOf t) (kindIx s) rs, 0) else ([], 6)
theorem timed_of {t s : Int} (h : timedB t s = true) : 0 ≤ t ∧ t ≤ 6311433599 ∧ 0 ≤ s ∧ s ≤ 4 := by
  simp only [timedB, stateB, Bool.and_eq_true, decide_eq_true_eq] at h
  omega
theorem f19_ok {nm : ByteArray} {pri acks : Int} {rs : List Rc} {full : Bool} (hn : nm.size < 2 ^ 59) (hs : Sz rs) {t s : Int} {K : List (List PC) → Bool → Int → Prop}
    (h : ∀ fl, K ((toldV nm pri acks rs t s).1.map sc) fl (toldV nm pri acks rs t s).2) : f19 nm pri acks (rs.map Rc.c) full t s K := by
  refine ⟨?_⟩
  unfold f19_d
  unfold toldV at h
  refine f16_ok hn hs (bB_of (fun h1 => ?_) fun h1 => f51_ok (bB_of (fun h2 => ?_) fun h2 => ?_))
  · rw [if_pos (by simpa using h1)] at h; exact h true
  · rw [if_neg (by simpa using h1)] at h
    cases ht : timedB t s with
    | true => rw [ht] at h2; cases h2
    | false => rw [ht] at h; exact h true
  · rw [if_neg (by simpa using h1)] at h
    cases ht : timedB t s with
    | false => rw [ht] at h2; cases h2
    | true =>
      rw [ht, if_pos rfl] at h
      have ⟨a, b, _⟩ := timed_of ht
      have hg := check_good (by simpa using h1)
      exact f52_ok hg.1 hg.2.2.2.1 a b (h false)
theorem f20_ok {nm : ByteArray} {pri acks : Int} {rs : List Rc} {full : Bool} (hn : nm.size < 2 ^ 59) (hs : Sz rs) {t s : Int} {K : List (List PC) → Bool → Int → Prop}
    (h : ∀ fl, K ((toldV nm pri acks rs t s).1.map sc) fl (toldV nm pri acks rs t s).2) : f20 nm pri acks (rs.map Rc.c) full t s K := by
  refine ⟨?_⟩
  unfold f20_d
  unfold toldV at h
  refine f17_ok hn hs (bB_of (fun h1 => ?_) fun h1 => f53_ok (bB_of (fun h2 => ?_) fun h2 => ?_))
  · rw [if_pos (by simpa using h1)] at h; exact h true
  · rw [if_neg (by simpa using h1), if_neg (by simpa using h2)] at h
    exact h true
  · rw [if_neg (by simpa using h1), if_pos (by simpa using h2)] at h
    have ⟨a, b, _⟩ := timed_of (t := t) (s := s) (by simpa using h2)
    have hg := check_good (by simpa using h1)
    exact f54_ok hg.1 hg.2.2.2.1 a b (h false)
/-- A notice's cells. -/
def ncells (e : Ev) (pri : Int) (cf : Bool) (s : ByteArray) : List PC := pS s :: (e.c ++ [pI pri, pB cf])
/-- Is a notice to be confirmed? -/
def confB (acks : Int) (s : Int) : Bool := acks.toNat.testBit (kindIx s)
theorem conf1 {acks : Int} (h1 : 0 ≤ acks) (h2 : acks ≤ 7) (s : Int) : ((IntKind.wrap .i64 (BitVec.toNat (BitVec.ofInt 64 acks &&& BitVec.ofInt 64 ((2 ^ kindIx s : Nat) : Int)))) != 0) = confB acks s := by
  unfold confB
  have e : acks = ((acks.toNat : Nat) : Int) := by omega
  have hk := kindIx_le s
  have hp : 2 ^ kindIx s ≤ 2 ^ 2 := Nat.pow_le_pow_right (by decide) hk
  generalize acks.toNat = a at e ⊢
  rw [e, andI _ _ (by omega) (by omega), bit3]
theorem conf2 {acks : Int} (h1 : 0 ≤ acks) (h2 : acks ≤ 7) (s : Int) : ((Int.tmod (w64 (Int.tdiv acks ((2 ^ kindIx s : Nat) : Int))) 2) == 1) = confB acks s := by
  unfold confB
  have e : acks = ((acks.toNat : Nat) : Int) := by omega
  generalize acks.toNat = a at e ⊢
  have e4 : Int.tdiv (a : Int) ((2 ^ kindIx s : Nat) : Int) = ((a / 2 ^ kindIx s : Nat) : Int) := (Int.ofNat_tdiv _ _).symm
  have e5 : a / 2 ^ kindIx s ≤ a := Nat.div_le_self _ _
  have e6 : w64 (Int.tdiv (a : Int) ((2 ^ kindIx s : Nat) : Int)) = ((a / 2 ^ kindIx s : Nat) : Int) := by
    rw [e4]
    generalize a / 2 ^ kindIx s = z at e5 ⊢
    exact w64_in (by omega) (by omega)
  rw [e, e6, bit2]
theorem f55_ok {nm : ByteArray} {pri acks : Int} {rs : List Rc} {full : Bool} (hl : rs.length ≤ 8) (hg : ∀ r ∈ rs, Good r) (ha1 : 0 ≤ acks) (ha2 : acks ≤ 7) {e : Ev} (h1 : 0 ≤ e.at_) (h2 : e.at_ ≤ 6311433599) {K : List (List PC) → Bool → Prop}
    (h : K ((namesV (dayOf e.at_) (minOf e.at_) (kindIx e.to) rs).map (ncells e pri (confB acks e.to))) false) : f55 nm pri acks (rs.map Rc.c) full e.no e.pt e.at_ e.frm e.to e.va e.vb K := by
  refine ⟨?_⟩
  unfold f55_d f55_p6
  refine f52_ok hl hg h1 h2 ?_
  have hl2 := names_len (dayOf e.at_) (minOf e.at_) (kindIx e.to) rs
  generalize namesV (dayOf e.at_) (minOf e.at_) (kindIx e.to) rs = l at h hl2
  refine LoopP.inv l.length (fun j x => x.2.2.1 = (j : Int) ∧ SlR x.1 x.2.1 x.2.2.2 ((l.take j).map (ncells e pri (confB acks e.to)))) 0 ⟨rfl, SlR.nil⟩ (Nat.zero_le _) (by omega) ?_ ?_
  · rintro j ⟨i, n, x, es⟩ _ hj ⟨rfl, hr⟩ N hN
    have hr : SlR i n es _ := hr
    have hn := hr.n
    rw [List.length_map, List.length_take] at hn
    unfold f55_p6b0
    refine bB_t (ltM _ _ hj) ⟨rngM _ _ hj, ?_⟩
    rw [toNat_c, getD_map _ _ _ hj]
    simp only [sc, ext_0, ext_s, ext_z, cS_c, cI_c, cB_c, cL_c, cO_c, oS_c, oI_c, oB_c, oL_c, nilC_c, toNat_c]
    rw [w64_s j (by omega)]
    refine f59_ok ⟨hr.len, by omega, by omega, hN _ ⟨rfl, ?_⟩⟩
    rw [conf1 ha1 ha2, List.take_succ_eq_append_getElem hj, List.map_append]
    exact hr.push _
  · rintro ⟨i, n, x, es⟩ ⟨rfl, hr⟩ N
    have hr : SlR i n es _ := hr
    unfold f55_p6b0
    refine bB_f (stopM _ _) ?_
    show K (List.take n (List.drop i es)) false
    rw [hr.take, List.take_length]
    exact h
/-- What Notices answers. -/
def notesV (nm : ByteArray) (pri acks : Int) (rs : List Rc) (e : Ev) : List (List PC) × Int := ((toldV nm pri acks rs e.at_ e.to).1.map (ncells e pri (confB acks e.to)), (toldV nm pri acks rs e.at_ e.to).2)
theorem f21_ok {nm : ByteArray} {pri acks : Int} {rs : List Rc} {full : Bool} (hn : nm.size < 2 ^ 59) (hs : Sz rs) {e : Ev} {K : List (List PC) → Bool → Int → Prop}
    (h : ∀ fl, K (notesV nm pri acks rs e).1 fl (notesV nm pri acks rs e).2) : f21 nm pri acks (rs.map Rc.c) full e.no e.pt e.at_ e.frm e.to e.va e.vb K := by
  refine ⟨?_⟩
  unfold f21_d
  unfold notesV toldV at h
  refine f16_ok hn hs (bB_of (fun h1 => ?_) fun h1 => f51_ok (bB_of (fun h2 => ?_) fun h2 => ?_))
  · rw [if_pos (by simpa using h1)] at h; exact h true
  · rw [if_neg (by simpa using h1)] at h
    cases ht : timedB e.at_ e.to with
    | true => rw [ht] at h2; cases h2
    | false => rw [ht] at h; exact h true
  · rw [if_neg (by simpa using h1)] at h
    cases ht : timedB e.at_ e.to with
    | false => rw [ht] at h2; cases h2
    | true =>
      rw [ht, if_pos rfl] at h
      have ⟨a, b, _⟩ := timed_of ht
      have hg := check_good (by simpa using h1)
      exact f55_ok hg.1 hg.2.2.2.1 hg.2.1.1 hg.2.1.2 a b (h false)
theorem told_ok {nm : ByteArray} {pri acks : Int} {rs : List Rc} {t s : Int} (h : (toldV nm pri acks rs t s).2 = 0) : checkV nm pri acks rs = 0 ∧ timedB t s = true ∧ (toldV nm pri acks rs t s).1 = namesV (dayOf t) (minOf t) (kindIx s) rs := by
  unfold toldV at h ⊢
  by_cases h1 : checkV nm pri acks rs = 0
  · rw [if_neg (by simpa using h1)] at h ⊢
    by_cases h2 : timedB t s = true
    · rw [if_pos h2] at h ⊢
      exact ⟨h1, h2, rfl⟩
    · rw [if_neg h2] at h; exact absurd h (by decide)
  · rw [if_pos h1] at h; exact absurd h h1
theorem f22_ok {nm : ByteArray} {pri acks : Int} {rs : List Rc} {full : Bool} (hn : nm.size < 2 ^ 59) (hs : Sz rs) {e : Ev} {K : List (List PC) → Bool → Int → Prop}
    (h : ∀ fl, K (notesV nm pri acks rs e).1 fl (notesV nm pri acks rs e).2) : f22 nm pri acks (rs.map Rc.c) full e.no e.pt e.at_ e.frm e.to e.va e.vb K := by
  refine ⟨?_⟩
  unfold f22_d f22_p12
  refine f20_ok hn hs fun fl => ?_
  unfold notesV at h
  refine bB_of (fun h1 => ?_) fun h1 => ?_
  · have : (toldV nm pri acks rs e.at_ e.to).1 = [] := by
      unfold toldV at h1 ⊢
      split
      · rfl
      · split
        · rename_i h2 h3
          rw [if_neg h2, if_pos h3] at h1; cases h1
        · rfl
    rw [this] at h
    exact h true
  · have h2 := told_ok (by simpa using h1)
    have hg := check_good h2.1
    have hl2 : (toldV nm pri acks rs e.at_ e.to).1.length ≤ 8 := by
      rw [h2.2.2]
      have := names_len (dayOf e.at_) (minOf e.at_) (kindIx e.to) rs
      have := hg.1
      omega
    have h0 : (toldV nm pri acks rs e.at_ e.to).2 = 0 := by simpa using h1
    rw [h0] at h
    generalize (toldV nm pri acks rs e.at_ e.to).1 = l at h hl2
    refine LoopP.inv l.length (fun j x => x.2.2.1 = (j : Int) ∧ SlR x.1 x.2.1 x.2.2.2 ((l.take j).map (ncells e pri (confB acks e.to)))) 0 ⟨rfl, SlR.nil⟩ (Nat.zero_le _) (by omega) ?_ ?_
    · rintro j ⟨i, n, x, es⟩ _ hj ⟨rfl, hr⟩ N hN
      have hr : SlR i n es _ := hr
      have hn := hr.n
      rw [List.length_map, List.length_take] at hn
      unfold f22_p12b0
      refine bB_t (ltM _ _ hj) ⟨rngM _ _ hj, ?_⟩
      rw [toNat_c, getD_map _ _ _ hj]
      simp only [sc, ext_0, ext_s, ext_z, cS_c, cI_c, cB_c, cL_c, cO_c, oS_c, oI_c, oB_c, oL_c, nilC_c, toNat_c]
      rw [w64_s j (by omega)]
      have hp : 0 < 2 ^ kindIx e.to := Nat.two_pow_pos _
      refine f56_ok ⟨by omega, by decide, hr.len, by omega, by omega, hN _ ⟨rfl, ?_⟩⟩
      rw [conf2 hg.2.1.1 hg.2.1.2, List.take_succ_eq_append_getElem hj, List.map_append]
      exact hr.push _
    · rintro ⟨i, n, x, es⟩ ⟨rfl, hr⟩ N
      have hr : SlR i n es _ := hr
      unfold f22_p12b0
      refine bB_f (stopM _ _) ?_
      show K (List.take n (List.drop i es)) false 0
      rw [hr.take, List.take_length]
      exact h false
theorem told_len (nm : ByteArray) (pri acks : Int) (rs : List Rc) (t s : Int) : (toldV nm pri acks rs t s).1.length ≤ rs.length := by
  unfold toldV
  split
  · simp
  · split
    · exact names_len _ _ _ _
    · simp
end Go.Eng.N
