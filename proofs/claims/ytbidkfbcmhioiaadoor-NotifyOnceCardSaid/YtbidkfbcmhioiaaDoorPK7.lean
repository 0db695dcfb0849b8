/- Notify, pure: the law NotifyLeft. -/
import Derived.Test.YtbidkfbcmhioiaaDoorPJ
import Derived.Test.YtbidkfbcmhioiaaDoorFn2
set_option linter.unusedVariables false
set_option linter.unusedSimpArgs false
namespace Go.Eng.N
open Go Go.Eng
theorem nodup_filter {α : Type} (p : α → Bool) {l : List α} (h : l.Nodup) : (l.filter p).Nodup := by
  rw [List.nodup_iff_pairwise_ne] at h ⊢
  exact h.filter p
theorem check_keep {nm : ByteArray} {pri acks : Int} {rs : List Rc} (who : ByteArray) (h : checkV nm pri acks rs = 0) : checkV nm pri acks (keepV who rs) = 0 := by
  have hg := check_good h
  have h1 : (keepV who rs).length ≤ rs.length := List.length_filter_le _ _
  unfold checkV
  rw [if_neg (by have := hg.1; omega), if_neg (by rw [hg.2.2.2.2.2.1]; decide), if_neg, if_neg (by omega), if_neg (by omega), if_neg (by omega), if_neg (by omega), if_neg, if_neg]
  · have := nodup_filter (fun r : Rc => decide (r.nm ≠ who)) hg.2.2.2.2.1
    unfold dupB keepV
    rw [decide_eq_true this]; decide
  · intro hc
    obtain ⟨r, hr, hb⟩ := List.any_eq_true.1 hc
    have := hg.2.2.2.1 r (keep_sub hr)
    unfold badB at hb
    simp only [Bool.or_eq_true, decide_eq_true_eq] at hb
    obtain ⟨a1, a2, a3, a4, a5, a6, a7⟩ := this
    omega
  · intro hc
    obtain ⟨r, hr, hb⟩ := List.any_eq_true.1 hc
    rw [hg.2.2.2.2.2.2 r (keep_sub hr)] at hb
    cases hb
/-- The names without one. -/
theorem names_keep (who : ByteArray) (d : Nat) (m : Int) (k : Nat) : ∀ (rs : List Rc) (acc : List ByteArray), (keepV who rs).foldl (stepN d m k) (acc.filter fun s => decide (s ≠ who)) = (rs.foldl (stepN d m k) acc).filter fun s => decide (s ≠ who)
  | [], acc => rfl
  | r :: rs, acc => by
    have ih := names_keep who d m k rs (stepN d m k acc r)
    unfold keepV at ih ⊢
    rw [List.foldl_cons, ← ih, List.filter_cons]
    by_cases hw : r.nm = who
    · rw [if_neg (by simp [hw])]
      congr 1
      unfold stepN
      split
      · rw [List.filter_append]; simp [hw]
      · rfl
    · rw [if_pos (by simp [hw]), List.foldl_cons]
      congr 1
      unfold stepN
      have hm : (r.nm ∈ acc.filter fun s => decide (s ≠ who)) ↔ r.nm ∈ acc := by
        rw [List.mem_filter]; simp [hw]
      by_cases h1 : tellB r d m k = true ∧ r.nm ∉ acc
      · rw [if_pos h1, if_pos ⟨h1.1, fun hc => h1.2 (hm.1 hc)⟩, List.filter_append]
        simp [hw]
      · rw [if_neg h1, if_neg (fun hc => h1 ⟨hc.1, fun h => hc.2 (hm.2 h)⟩)]
theorem names_any (d : Nat) (m : Int) (k : Nat) : ∀ (rs : List Rc) (acc : List ByteArray), (rs.foldl (stepN d m k) acc = [] ↔ acc = [] ∧ anyB rs d m k = false)
  | [], acc => by simp [anyB]
  | r :: rs, acc => by
    rw [List.foldl_cons, names_any d m k rs]
    have h : stepN d m k acc r = [] ↔ acc = [] ∧ tellB r d m k = false := by
      unfold stepN
      split
      · rename_i h; simp [h.1]
      · rename_i h
        constructor
        · intro e
          subst e
          refine ⟨rfl, ?_⟩
          rw [Bool.eq_false_iff]
          exact fun hc => h ⟨hc, by simp⟩
        · exact fun e => e.1
    rw [h]
    unfold anyB
    rw [List.any_cons, Bool.or_eq_false_iff]
    constructor
    · rintro ⟨⟨a, b⟩, c⟩; exact ⟨a, b, c⟩
    · rintro ⟨a, b, c⟩; exact ⟨⟨a, b⟩, c⟩
theorem told_0 {nm : ByteArray} {pri acks : Int} {rs : List Rc} (h : checkV nm pri acks rs = 0) (t s : Int) : toldV nm pri acks rs t s = if timedB t s = true then (namesV (dayOf t) (minOf t) (kindIx s) rs, 0) else ([], 6) := by
  unfold toldV
  rw [if_neg (by simpa using h)]
theorem minOf_rng {t : Int} (h : 0 ≤ t) : ∃ m : Nat, minOf t = m ∧ m < 1440 := ⟨(minOf t).toNat, by unfold minOf; omega, by unfold minOf; omega⟩
theorem f7_p29_sp {who : ByteArray} {a b : List ByteArray} {f1 f2 : Bool} (hl : a.length ≤ 2 ^ 30) (he : a.filter (fun s => decide (s ≠ who)) = b) {K : Bool → Prop} (h : K true) : f7_p29 who (a.map sc) f1 (b.map sc) f2 K := by
  unfold f7_p29 f7_p32
  refine LoopP.inv a.length (fun j x => x.2.2.1 = (j : Int) ∧ SlR x.1 x.2.1 x.2.2.2 (((a.take j).filter fun s => decide (s ≠ who)).map sc)) 0 ⟨rfl, SlR.nil⟩ (Nat.zero_le _) (by omega) ?_ ?_
  · rintro j ⟨i, n, x, es⟩ _ hj ⟨rfl, hr⟩ N hN
    have hr : SlR i n es _ := hr
    have hn := hr.n
    have hl3 : ((a.take j).filter fun s => decide (s ≠ who)).length ≤ (a.take j).length := List.length_filter_le _ _
    rw [List.length_map] at hn
    rw [List.length_take] at hl3
    have hsp : (a.take (j + 1)).filter (fun s => decide (s ≠ who)) = (a.take j).filter (fun s => decide (s ≠ who)) ++ (if a[j] = who then [] else [a[j]]) := by
      rw [List.take_succ_eq_append_getElem hj, List.filter_append]
      congr 1
      by_cases e : a[j] = who <;> simp [e]
    unfold f7_p32b0
    dsimp only
    refine bB_t (ltM _ _ hj) ⟨rngM _ _ hj, ?_⟩
    rw [toNat_c, getD_map _ _ _ hj]
    simp only [sc, ext_0, ext_s, ext_z, cS_c, cI_c, cB_c, cL_c, cO_c, oS_c, oI_c, oB_c, oL_c, nilC_c, toNat_c]
    rw [beqL, w64_s j (by omega)]
    refine bB_of (fun h3 => ⟨rngM _ _ hj, hr.len, by omega, by omega, hN _ ⟨rfl, ?_⟩⟩) fun h3 => hN _ ⟨rfl, ?_⟩
    · have h4 : ¬ a[j] = who := by simpa using h3
      rw [hsp, if_neg h4, List.map_append]
      exact hr.push _
    · have h4 : a[j] = who := by simpa using h3
      rw [hsp, if_pos h4, List.append_nil]
      exact hr
  · rintro ⟨i, n, x, es⟩ ⟨rfl, hr⟩ N
    have hr : SlR i n es _ := hr
    rw [List.take_length] at hr
    unfold f7_p32b0
    dsimp only
    refine bB_f (stopM _ _) ?_
    rw [hr.take, he]
    refine f23_ok ?_ (by rw [decide_eq_true rfl]; exact h)
    rw [← he]
    exact Nat.lt_of_le_of_lt (List.length_filter_le _ _) (by omega)
theorem f7_ok {c : Cls} {full : Bool} (hn : c.nm.size < 2 ^ 59) (hs : Sz c.rs) {who : ByteArray} {t s : Int} {K : Bool → Prop} (h : K true) : f7 c.nm c.pri c.acks (c.rs.map Rc.c) full who t s K := by
  refine ⟨?_⟩
  unfold f7_d
  refine f12_ok (bB_f rfl (f13_ok hs.len (bB_of (fun _ => h) fun h1 => bB_of (fun _ => h) fun _ => ?_)))
  unfold f7_p11
  refine f27_ok hn hs fun _ => ?_
  show bB _ _ _
  unfold withoutV
  by_cases hc : checkV c.nm c.pri c.acks c.rs = 0
  · rw [if_neg (by simpa using hc)]
    have hg := check_good hc
    by_cases hl : (keepV who c.rs).length = c.rs.length
    · rw [if_pos hl]
      exact bB_t rfl (f29_ok (a := noCls) (b := noCls) (by decide) h)
    · rw [if_neg hl]
      cases hcf : confl c.rs (keepV who c.rs) with
      | true => exact bB_t rfl (f29_ok (a := noCls) (b := noCls) (by decide) h)
      | false =>
        rw [if_neg Bool.false_ne_true]
        refine bB_f rfl ?_
        have hs2 : Sz (keepV who c.rs) := ⟨Nat.lt_of_le_of_lt (List.length_filter_le _ _) hs.len, fun r hr => hs.nms r (keep_sub hr)⟩
        have hck := check_keep who hc
        refine f19_ok hn hs fun _ => f19_ok hn hs2 fun _ => ?_
        have e1 : (toldV c.nm c.pri c.acks (keepV who c.rs) t s).2 = (toldV c.nm c.pri c.acks c.rs t s).2 := by
          rw [told_0 hc, told_0 hck]
          split <;> rfl
        have e2 : (toldV c.nm c.pri c.acks c.rs t s).1.filter (fun s => decide (s ≠ who)) = (toldV c.nm c.pri c.acks (keepV who c.rs) t s).1 := by
          rw [told_0 hc, told_0 hck]
          split
          · exact (names_keep who _ _ _ c.rs []).symm
          · rfl
        have hlen : (toldV c.nm c.pri c.acks c.rs t s).1.length ≤ 2 ^ 30 := by
          have := told_len c.nm c.pri c.acks c.rs t s
          have := hg.1
          omega
        refine bB_f (by rw [e1]; simp) (f16_ok hn hs2 ?_)
        rw [hck]
        refine bB_f rfl ?_
        unfold f7_p25
        refine bB_of (fun h2 => ?_) fun h2 => f7_p29_sp hlen e2 h
        refine bB_f ?_ (f7_p29_sp hlen e2 h)
        have h0 := told_ok (by simpa using h2)
        have ht := timed_of h0.2.1
        have e3 : (toldV c.nm c.pri c.acks (keepV who c.rs) t s).1 = namesV (dayOf t) (minOf t) (kindIx s) (keepV who c.rs) := by
          unfold toldV
          rw [if_neg (by simpa using hck), if_pos h0.2.1]
        rw [h0.2.2, e3]
        obtain ⟨m, hm, hm2⟩ := minOf_rng ht.1
        have hsame : anyB c.rs (dayOf t) (minOf t) (kindIx s) = anyB (keepV who c.rs) (dayOf t) (minOf t) (kindIx s) := by
          cases ha : anyB c.rs (dayOf t) (minOf t) (kindIx s) with
          | false =>
            cases hb : anyB (keepV who c.rs) (dayOf t) (minOf t) (kindIx s) with
            | false => rfl
            | true => rw [anyB_keep hb] at ha; cases ha
          | true =>
            cases hb : anyB (keepV who c.rs) (dayOf t) (minOf t) (kindIx s) with
            | true => rfl
            | false =>
              exfalso
              rw [confl_eq] at hcf
              have hq : ((List.range 7).any fun d => (List.range 1440).any fun m => (List.range 3).any fun k => lostB c.rs (keepV who c.rs) d m k) = true := by
                refine List.any_eq_true.2 ⟨dayOf t, List.mem_range.2 (dayOf_lt t), List.any_eq_true.2 ⟨m, List.mem_range.2 hm2, List.any_eq_true.2 ⟨kindIx s, List.mem_range.2 (by have := kindIx_le s; omega), ?_⟩⟩⟩
                unfold lostB
                rw [← hm, ha, hb]; rfl
              rw [hq] at hcf; cases hcf
        have hne : ∀ rs, (decide ((((namesV (dayOf t) (minOf t) (kindIx s) rs).map sc).length : Int) > 0)) = anyB rs (dayOf t) (minOf t) (kindIx s) := fun rs => by
          have := names_any (dayOf t) (minOf t) (kindIx s) rs []
          rw [List.length_map, Bool.eq_iff_iff]
          simp only [decide_eq_true_eq]
          constructor
          · intro hp
            cases hb : anyB rs (dayOf t) (minOf t) (kindIx s) with
            | true => rfl
            | false =>
              have e := this.2 ⟨rfl, hb⟩
              have e' : namesV (dayOf t) (minOf t) (kindIx s) rs = [] := e
              rw [e'] at hp; simp at hp
          · intro hb
            have hn0 : namesV (dayOf t) (minOf t) (kindIx s) rs ≠ [] := fun e => by
              have := (this.1 e).2
              rw [hb] at this; cases this
            have := List.length_pos_iff.2 hn0
            omega
        rw [hne, hne, hsame]
        simp
  · rw [if_pos (by simpa using hc)]
    refine bB_t (by simpa using hc) (f29_ok (a := noCls) (b := noCls) (by decide) h)
end Go.Eng.N
