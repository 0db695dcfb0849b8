/- Notify, pure: the reader of tokens, 14: Load of the reference. -/
import Derived.Test.YtbidkfbcmhioiaaDoorQM
set_option linter.unusedVariables false
set_option linter.unusedSimpArgs false
namespace Go.Eng.N
open Go Go.Eng
section
variable {ts : List Tk} {full full2 hd : Bool} {la : Int} {kids : List Kid}
theorem f32_p38_sp {acc : List Rc} {i n : Nat} {es : List (List PC)} (hr : SlR i n es (acc.map Rc.c)) (ha : acc.length ≤ 8) {z1 z2 z3 z4 z5 z6 z7 z8 z9 : Int} {tl kl : List (List PC)} {b1 b2 b3 b4 b5 b6 : Bool} {y1 y2 : ByteArray} {r : Rc} {k : Kid} (hk : KidOk k) {K0 : ByteArray → Int → Int → Int → Int → Int → Prop} {K1 : Unit → Prop}
    (h1 : r ∈ acc → K0 emp 0 0 5 k.la (colV k.ts 0)) (h2 : r ∉ acc → K1 ()) :
    f32_p38 z1 tl b1 b2 kl b3 z2 y1 z3 z4 z5 z6 z7 y2 z8 z9 i n (k.ts.map Tk.c) b4 b5 k.ks b6 k.la r.nm r.days r.fr r.to r.kinds es K0 K1 0 := by
  unfold f32_p38
  have hn := hr.n
  rw [List.length_map] at hn
  refine LoopP.any acc (fun x => decide (x = r)) (A := K0 emp 0 0 5 k.la (colV k.ts 0)) (B := K1 ()) (by omega) (fun h => h1 ?_) (fun h => h2 fun hc => ?_) (fun j hj N hA hN => ?_) fun N hB => ?_
  · obtain ⟨x, hx, he⟩ := List.any_eq_true.1 h
    rw [← of_decide_eq_true he]; exact hx
  · rw [Bool.eq_false_iff] at h
    exact h (List.any_eq_true.2 ⟨r, hc, by simp⟩)
  · unfold f32_p38b0
    refine bB_t (by rw [hn]; exact ltL hj) ⟨by omega, ?_⟩
    rw [toNat_c, hr.at (by rw [List.length_map]; exact hj), List.getElem_map]
    simp only [Rc.c, ext_0, ext_s, ext_z, cS_c, cI_c, cB_c, cL_c, cO_c, oS_c, oI_c, oB_c, oL_c, nilC_c, toNat_c]
    rw [w64_s j (by omega)]
    have e : (acc[j].nm == r.nm && (acc[j].days == r.days && (acc[j].fr == r.fr && (acc[j].to == r.to && (acc[j].kinds == r.kinds && true))))) = decide (acc[j] = r) := by
      generalize acc[j] = x
      cases r; cases x
      simp only [beqB, beqD, Bool.and_true, dec_and, Rc.mk.injEq]
    rw [e]
    refine bB_of (fun h => f74_ok hk.tk.len (p := 0) (hA h)) hN
  · unfold f32_p38b0
    exact bB_f (by rw [hn]; exact stopL _) hB
theorem f32_p10_sp (hk : ∀ k ∈ kids, KidOk k) (hl : kids.length < 2 ^ 58) {tl : List (List PC)} {b1 b2 b3 : Bool} {s1 s2 : ByteArray} {a0 a1 a2 a3 a4 a5 p a : Int} {K0 : ByteArray → Int → Int → Int → Int → Int → Prop} {K1 : Nat → Nat → (List (List PC)) → Prop}
    (h1 : ∀ acc, loadK kids [] = .ok acc → acc.length ≤ 8 → ∀ i n es, SlR i n es (acc.map Rc.c) → K1 i n es) (h2 : ∀ c l o, loadK kids [] = .error (c, l, o) → c ≠ 0 → K0 emp 0 0 c l o) :
    f32_p10 tl b1 b2 (kids.map Kid.c) b3 a0 s1 a1 a2 a3 a4 a5 s2 p a K0 K1 (0, 0, 0, []) := by
  unfold f32_p10
  refine LoopP.inv kids.length (fun j x => x.1 = (j : Int) ∧ ∃ acc : List Rc, SlR x.2.1 x.2.2.1 x.2.2.2 (acc.map Rc.c) ∧ acc.length ≤ 8 ∧ loadK kids [] = loadK (kids.drop j) acc) 0 ⟨rfl, [], SlR.nil, by decide, rfl⟩ (Nat.zero_le _) (by omega) ?_ ?_
  · rintro j ⟨x, i, n, es⟩ _ hj ⟨rfl, acc, hr, ha, hq⟩ N hN
    have hr : SlR i n es _ := hr
    have hn := hr.n
    rw [List.length_map] at hn
    unfold f32_p10b0
    dsimp only
    refine bB_t (ltM _ _ hj) ⟨rngM _ _ hj, ?_⟩
    rw [toNat_c, getD_map _ _ _ hj]
    simp only [Kid.c, ext_0, ext_s, ext_z, cS_c, cI_c, cB_c, cL_c, cO_c, oS_c, oI_c, oB_c, oL_c, nilC_c, toNat_c]
    have hko := hk _ (List.getElem_mem hj)
    rw [List.drop_eq_getElem_cons hj] at hq
    generalize kids[j] = k at hko hq ⊢
    rw [loadK] at hq
    have err : ∀ c q, kidR k.ts k.hd k.ks.length acc = .error (c, q) → c ≠ 0 → K0 emp 0 0 c k.la (colV k.ts q) := fun c q he hc => by
      rw [he] at hq
      exact h2 _ _ _ hq hc
    unfold kidR at hq err
    refine f73_ok hko.tk (i := 0) (w := sRec) (bB_of (fun g => ?_) fun g => ?_)
    · have g1 : (expV k.ts 0 sRec).1 ≠ 0 := by simpa using g
      rw [if_pos g1] at err
      rw [show lnV k.la (expV k.ts 0 sRec).1 = k.la from if_neg g1, show clV k.ts (expV k.ts 0 sRec).1 (expV k.ts 0 sRec).2 = colV k.ts (expV k.ts 0 sRec).2 from if_neg g1]
      exact err _ _ rfl g1
    have g1 : (expV k.ts 0 sRec).1 = 0 := by simpa using g
    have hlen := exp_le g1
    rw [if_neg (fun hc => hc g1)] at hq err
    refine bB_of (fun g2 => ?_) fun g2 => ?_
    · rw [if_pos (by simp at g2; omega)] at err
      exact f74_ok hko.tk.len (p := 0) (err _ _ rfl (by decide))
    have h8 : acc.length < 8 := by simp at g2; omega
    rw [if_neg (by omega)] at hq err
    refine f75_ok hko.tk hko.len (fun r hrr => ?_) fun c q hrr hc _ _ _ _ _ => ?_
    · rw [hrr] at hq err
      dsimp only at hq err
      refine bB_f rfl ?_
      have ecol : colV k.ts k.ts.length = colV k.ts (k.ts.length - 1) := by
        unfold colV
        rw [if_neg (by omega), if_neg (by omega), Nat.min_eq_right (by omega), Nat.min_self]
      have bad : (k.hd = true ∨ k.ks.length > 0) → f74 2 (k.ts.map Tk.c) k.f k.hd k.ks k.g k.la (((k.ts.map Tk.c).length : Nat) : Int) (fun n56 n57 n58 => K0 (⟨#[]⟩ : ByteArray) 0 0 n56 n57 n58) := fun hb => by
        rw [if_pos hb] at err
        rw [List.length_map]
        refine f74_ok hko.tk.len ?_
        rw [ecol]
        exact err _ _ rfl (by decide)
      refine bB_of (fun g3 => bad (Or.inl g3)) fun g3 => bB_of (fun g4 => bad (Or.inr (by simpa using g4))) fun g4 => ?_
      have hnb : ¬ (k.hd = true ∨ k.ks.length > 0) := by
        rintro (h | h)
        · rw [h] at g3; cases g3
        · rw [decide_eq_false_iff_not] at g4; omega
      rw [if_neg hnb] at hq err
      unfold f32_p37
      refine f32_p38_sp hr ha hko (fun hm => ?_) fun hm => ⟨hr.len, by omega, by omega, hN _ ⟨w64_s j (by omega), acc ++ [r], ?_, by rw [List.length_append, List.length_singleton]; omega, ?_⟩⟩
      · rw [if_pos hm] at err
        exact err _ _ rfl (by decide)
      · rw [List.map_append]
        exact hr.push (Rc.c r)
      · rw [if_neg hm] at hq
        exact hq
    · rw [hrr] at err
      exact bB_t (by simpa using hc) (err _ _ rfl hc)
  · rintro ⟨x, i, n, es⟩ ⟨rfl, acc, hr, ha, hq⟩ N
    unfold f32_p10b0
    dsimp only
    rw [List.drop_length] at hq
    exact bB_f (stopM _ _) (h1 _ hq ha _ _ _ hr)
theorem f32_ok (ht : Tks ts) (hll : ts.length < 2 ^ 58) (hk : ∀ k ∈ kids, KidOk k) (hl : kids.length < 2 ^ 58) {K : ByteArray → Int → Int → (List (List PC)) → Bool → Int → Int → Int → Prop}
    (h1 : ∀ c : Cls, loadR ts la kids = .ok c → c.rs.length ≤ 8 → ∀ f, K c.nm c.pri c.acks (c.rs.map Rc.c) f 0 0 0)
    (h2 : ∀ c l o, loadR ts la kids = .error (c, l, o) → c ≠ 0 → K emp 0 0 [] true c l o) :
    f32 (ts.map Tk.c) full hd (kids.map Kid.c) full2 la K := by
  refine ⟨?_⟩
  unfold f32_d
  unfold loadR at h1 h2
  refine f72_ok ht hll (fun v hv => ?_) fun c q hv hc _ _ _ => ?_
  · rw [hv] at h1 h2
    dsimp only at h1 h2
    refine bB_f rfl (f32_p10_sp hk hl (fun acc ha h8 i n es hr => ?_) fun c l o he hc => ?_)
    · rw [ha] at h1
      rw [hr.take]
      exact h1 _ rfl h8 false
    · rw [he] at h2
      exact h2 _ _ _ rfl hc
  · rw [hv] at h2
    exact bB_t (by simpa using hc) (h2 _ _ _ rfl hc)
end
end Go.Eng.N
