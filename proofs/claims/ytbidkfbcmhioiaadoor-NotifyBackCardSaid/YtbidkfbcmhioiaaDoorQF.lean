/- Notify, pure: the reader of tokens, 6: a recipient, by the program. -/
import Derived.Test.YtbidkfbcmhioiaaDoorQE
import Derived.Test.YtbidkfbcmhioiaaDoorFn3
set_option linter.unusedVariables false
set_option linter.unusedSimpArgs false
namespace Go.Eng.N
open Go Go.Eng
theorem f98_ok {rs : List Rc} {full : Bool} (hs : rs.length < 2 ^ 59) {r : Rc} {K : Bool → Prop} (h : K (decide (r ∈ rs))) : f98 (rs.map Rc.c) full r.nm r.days r.fr r.to r.kinds K := by
  refine ⟨?_⟩
  unfold f98_d
  refine ⟨?_⟩
  unfold f49_d f49_p4
  refine LoopP.find rs (fun x => decide (r = x)) (A := fun j => K true) (B := K false) hs (fun j hj hq hb => ?_) (fun hq => ?_) (fun j hj N hA hN => ?_) fun N hB => ?_
  · rw [decide_eq_true (by rw [of_decide_eq_true hq]; exact List.getElem_mem hj)] at h; exact h
  · rw [decide_eq_false (fun hc => by have := hq _ hc; simp at this)] at h; exact h
  · unfold f49_p4b0
    refine bB_t (ltM _ _ hj) ⟨rngM _ _ hj, ?_⟩
    rw [toNat_c, getD_map _ _ _ hj]
    simp only [Rc.c, ext_0, ext_s, ext_z, cS_c, cI_c, cB_c, cL_c, cO_c, oS_c, oI_c, oB_c, oL_c, nilC_c, toNat_c]
    rw [w64_s j (by omega)]
    have e : (r.nm == rs[j].nm && (r.days == rs[j].days && (r.fr == rs[j].fr && (r.to == rs[j].to && (r.kinds == rs[j].kinds && true))))) = decide (r = rs[j]) := by
      generalize rs[j] = x
      cases r; cases x
      simp only [beqB, beqD, Bool.and_true, dec_and, Rc.mk.injEq]
    rw [e]
    refine bB_of (fun h1 => ?_) fun h1 => hN h1
    have := hA h1
    simpa using this
  · unfold f49_p4b0
    exact bB_f (stopM _ _) (by simpa using hB)
section
variable {ts : List Tk} {full b full2 : Bool} {ks : List (List PC)} {la : Int} {s : St}
theorem f68_dead (h0 : s.code ≠ 0) {e p : Int} {K : RK} (h : K (ts.map Tk.c) full b ks full2 la s.i s.code (s.ln la) (s.col ts)) :
    f68 e p (ts.map Tk.c) full b ks full2 la s.i s.code (s.ln la) (s.col ts) K := by
  refine ⟨?_⟩
  unfold f68_d
  exact f67_ok (bB_t (by simpa using h0) h)
theorem failS_i (c : Int) (p : Nat) : (failS c p s).i = s.i := by unfold failS; split <;> rfl
theorem takeS_le {k : Int} {w : ByteArray} (h : (takeS ts k w s).2.code = 0) : (takeS ts k w s).2.i ≤ ts.length ∧ 1 ≤ (takeS ts k w s).2.i := by
  have h1 := takeS_pos h
  have h2 := isT_lt h1.2.1
  rw [h1.2.2]
  exact ⟨h2, by simp⟩
end
/-! ### The program's steps -/
/-- From the name to the end of the times. -/
def timeS (ts : List Tk) (s : St) : (ByteArray × Int × Int × Int) × St :=
  let p3 := nameS ts s
  let p5 := setS daysL sFrom ts (takeS ts 1 sDays p3.2).2
  let p7 := takeS ts 4 emp (takeS ts 1 sFrom p5.2).2
  let p9 := takeS ts 4 emp (takeS ts 1 sTo p7.2).2
  ((p3.1, (p5.1 : Int), p7.1.n, p9.1.n), if p9.2.code = 0 ∧ p9.1.n < p7.1.n then failS 6 (p9.2.i - 1) p9.2 else p9.2)
/-- The kinds, and what the line must not have. -/
def lastS (ts : List Tk) (hd : Bool) (nk : Nat) (s : St) : Nat × St :=
  let p := setS kindsL emp ts (takeS ts 1 sFor s).2
  (p.1, if hd = true ∨ nk > 0 then failS 2 (ts.length - 1) p.2 else p.2)
def dupS (rs : List Rc) (r : Rc) (s : St) : St := if s.code = 0 ∧ r ∈ rs then failS 5 0 s else s
/-- A recipient, as the program reads it. -/
def progR (ts : List Tk) (hd : Bool) (nk : Nat) (rs : List Rc) : Rc × St :=
  let s1 := (takeS ts 1 sRec ⟨0, 0, 0⟩).2
  let p := timeS ts (if rs.length ≥ 8 then failS 7 0 s1 else s1)
  let q := lastS ts hd nk p.2
  (⟨p.1.1, p.1.2.1, p.1.2.2.1, p.1.2.2.2, q.1⟩, dupS rs ⟨p.1.1, p.1.2.1, p.1.2.2.1, p.1.2.2.2, q.1⟩ q.2)
section
variable {ts : List Tk} {full b full2 f3 : Bool} {ks : List (List PC)} {la : Int} {s : St} {rs : List Rc}
theorem f71_p39_sp (hl : ts.length < 2 ^ 58) (hs : rs.length < 2 ^ 59) {z0 z1 z2 : ByteArray} {a1 a2 b1 b2 b3 b4 b5 b6 b7 c1 c2 c3 : Int} {r : Rc} {K : Int → Int → Int → Prop}
    (h : K (dupS rs r s).code ((dupS rs r s).ln la) ((dupS rs r s).col ts)) : f71_p39 z0 a1 a2 (rs.map Rc.c) f3 z1 b1 b2 b3 b4 b5 b6 b7 (ts.map Tk.c) full b ks full2 la s.i s.code (s.ln la) (s.col ts) r.nm r.days r.fr r.to r.kinds K := by
  unfold f71_p39
  unfold dupS at h
  refine f67_ok (bB_of (fun h1 => f98_ok hs (bB_of (fun h2 => ?_) fun h2 => ?_)) fun h1 => ?_)
  · rw [if_pos ⟨by simpa using h1, by simpa using h2⟩] at h
    exact f68_ok (p := 0) (by omega) (by decide) h
  · rw [if_neg (fun hc => by simp [hc.2] at h2)] at h
    exact h
  · rw [if_neg (fun hc => by simp [hc.1] at h1)] at h
    exact h
theorem f71_p31_sp (hl : ts.length < 2 ^ 58) (hk : ks.length < 2 ^ 59) (hs : rs.length < 2 ^ 59) {hd f4 f5 : Bool} {z0 z1 : ByteArray} {a1 a2 b1 b2 b3 b4 b5 b6 b7 : Int} {x : ByteArray} {d fr to k0 : Int} {K : Int → Int → Int → Int → Prop}
    (h : K (lastS ts hd ks.length s).1 (dupS rs ⟨x, d, fr, to, (lastS ts hd ks.length s).1⟩ (lastS ts hd ks.length s).2).code ((dupS rs ⟨x, d, fr, to, (lastS ts hd ks.length s).1⟩ (lastS ts hd ks.length s).2).ln la) ((dupS rs ⟨x, d, fr, to, (lastS ts hd ks.length s).1⟩ (lastS ts hd ks.length s).2).col ts)) :
    f71_p31 (ts.map Tk.c) f4 hd ks f5 la z0 a1 a2 (rs.map Rc.c) f3 z1 b1 b2 b3 b4 b5 b6 b7 (ts.map Tk.c) full b ks full2 la s.i s.code (s.ln la) (s.col ts) x d fr to k0 K := by
  unfold f71_p31
  unfold lastS at h
  dsimp only at h
  refine f65_ok (k := 1) (tx := sFor) (by omega) ?_
  refine f70_ok (ws := kindsL) (e := emp) hl (by decide) (fun h0 => (takeS_le h0).1) ?_
  have hz : (setS kindsL emp ts (takeS ts 1 sFor s).2).2.code = 0 → 0 < ts.length := fun h0 => by
    have h1 : (takeS ts 1 sFor s).2.code = 0 := by
      by_cases h2 : (takeS ts 1 sFor s).2.code = 0
      · exact h2
      · rw [setS_dead h2] at h0; exact absurd h0 h2
    have := takeS_le h1
    omega
  generalize setS kindsL emp ts (takeS ts 1 sFor s).2 = p at h hz ⊢
  have go : (hd = true ∨ ks.length > 0) → f68 2 (w64 ((((ts.map Tk.c).length : Nat) : Int) - 1)) (ts.map Tk.c) full b ks full2 la p.2.i p.2.code (p.2.ln la) (p.2.col ts) (fun es242 full243 b244 es245 full246 n247 n248 n249 n250 n251 => f71_p39 z0 a1 a2 (rs.map Rc.c) f3 z1 b1 b2 b3 b4 b5 b6 b7 es242 full243 b244 es245 full246 n247 n248 n249 n250 n251 x d fr to p.1 (fun n302 n303 n304 => K p.1 n302 n303 n304)) := by
    intro hb
    rw [if_pos hb] at h
    by_cases h0 : p.2.code = 0
    · have hz := hz h0
      rw [List.length_map, show w64 ((ts.length : Int) - 1) = ((ts.length - 1 : Nat) : Int) by rw [w64_in (by omega) (by omega)]; omega]
      refine f68_ok (by omega) (by decide) ?_
      have := f71_p39_sp (ts := ts) (full := full) (b := b) (full2 := full2) (ks := ks) (la := la) (s := failS 2 (ts.length - 1) p.2) (rs := rs) (f3 := f3) hl hs (z0 := z0) (z1 := z1) (a1 := a1) (a2 := a2) (b1 := b1) (b2 := b2) (b3 := b3) (b4 := b4) (b5 := b5) (b6 := b6) (b7 := b7) (z2 := z0) (c1 := 0) (c2 := 0) (c3 := 0) (r := ⟨x, d, fr, to, p.1⟩) (K := fun a b c => K p.1 a b c) h
      rw [failS_i] at this
      exact this
    · rw [failS_dead h0] at h
      exact f68_dead h0 (f71_p39_sp hl hs (z2 := z0) (c1 := 0) (c2 := 0) (c3 := 0) (r := ⟨x, d, fr, to, p.1⟩) (K := fun a b c => K p.1 a b c) h)
  refine bB_of (fun h1 => go (Or.inl h1)) fun h1 => bB_of (fun h2 => go (Or.inr ?_)) fun h2 => ?_
  · simpa using h2
  · have h3 : ¬ (hd = true ∨ ks.length > 0) := by
      rintro (h3 | h3)
      · rw [h3] at h1; cases h1
      · simp at h2; simp [h2] at h3
    rw [if_neg h3] at h
    exact f71_p39_sp hl hs (z2 := z0) (c1 := 0) (c2 := 0) (c3 := 0) (r := ⟨x, d, fr, to, p.1⟩) (K := fun a b c => K p.1 a b c) h
end
end Go.Eng.N
