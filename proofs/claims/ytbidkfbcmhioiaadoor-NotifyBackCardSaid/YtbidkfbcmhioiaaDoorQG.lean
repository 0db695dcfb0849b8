/- Notify, pure: the reader of tokens, 7: a recipient, by the program; what it answers. -/
import Derived.Test.YtbidkfbcmhioiaaDoorQF
set_option linter.unusedVariables false
set_option linter.unusedSimpArgs false
namespace Go.Eng.N
open Go Go.Eng
section
variable {ts : List Tk} {full b full2 f3 : Bool} {ks : List (List PC)} {la : Int} {s : St} {rs : List Rc}
theorem nameS_le (h : (nameS ts s).2.code = 0) : (nameS ts s).2.i ≤ ts.length := by
  unfold nameS at h ⊢
  dsimp only at h ⊢
  split at h
  · rename_i h1
    rw [failS_ok h1.1] at h; cases h
  · rename_i h1
    rw [if_neg h1]
    exact (takeS_le h).1
theorem f71_p13_sp (ht : Tks ts) (hl : ts.length < 2 ^ 58) (hk : ks.length < 2 ^ 59) (hs : rs.length < 2 ^ 59) {hd f4 f5 : Bool} {z0 z1 z2 : ByteArray} {a1 a2 b1 b2 b3 b4 b5 b6 b7 c1 c2 c3 : Int} {K : ByteArray → Int → Int → Int → Int → Int → Int → Int → Prop}
    (h : ∀ (p : (ByteArray × Int × Int × Int) × St) (q : Nat × St) (e : St), p = timeS ts s → q = lastS ts hd ks.length p.2 → e = dupS rs ⟨p.1.1, p.1.2.1, p.1.2.2.1, p.1.2.2.2, q.1⟩ q.2 → K p.1.1 p.1.2.1 p.1.2.2.1 p.1.2.2.2 q.1 e.code (e.ln la) (e.col ts)) :
    f71_p13 (ts.map Tk.c) f4 hd ks f5 la z0 a1 a2 (rs.map Rc.c) f3 z1 b1 b2 b3 b4 b5 b6 b7 (ts.map Tk.c) full b ks full2 la s.i s.code (s.ln la) (s.col ts) z2 c1 c2 c3 0 K := by
  have h := h _ _ _ rfl rfl rfl
  unfold f71_p13
  have hl2 : ts.length < 2 ^ 59 := by omega
  refine f66_ok ht ?_
  refine f65_ok (k := 1) (tx := sDays) hl2 ?_
  refine f70_ok (ws := daysL) (e := sFrom) hl (by decide) (fun h0 => (takeS_le h0).1) ?_
  refine f65_ok (k := 1) (tx := sFrom) hl2 ?_
  refine f65_ok (k := 4) (tx := emp) hl2 ?_
  refine f65_ok (k := 1) (tx := sTo) hl2 ?_
  refine f65_ok (k := 4) (tx := emp) hl2 ?_
  unfold timeS at h
  dsimp only at h
  generalize nameS ts s = p3 at h ⊢
  generalize setS daysL sFrom ts (takeS ts 1 sDays p3.2).2 = p5 at h ⊢
  generalize takeS ts 4 emp (takeS ts 1 sFrom p5.2).2 = p7 at h ⊢
  have hp : (takeS ts 4 emp (takeS ts 1 sTo p7.2).2).2.code = 0 → 1 ≤ (takeS ts 4 emp (takeS ts 1 sTo p7.2).2).2.i ∧ (takeS ts 4 emp (takeS ts 1 sTo p7.2).2).2.i ≤ ts.length := fun h0 => ⟨(takeS_le h0).2, (takeS_le h0).1⟩
  generalize takeS ts 4 emp (takeS ts 1 sTo p7.2).2 = p9 at h hp ⊢
  refine f67_ok (bB_of (fun h1 => bB_of (fun h2 => ?_) fun h2 => ?_) fun h1 => ?_)
  · have h0 : p9.2.code = 0 := by simpa using h1
    rw [if_pos ⟨h0, by simpa using h2⟩] at h
    have hp := hp h0
    rw [show w64 ((p9.2.i : Int) - 1) = ((p9.2.i - 1 : Nat) : Int) by rw [w64_in (by omega) (by omega)]; omega]
    refine f68_ok hl2 (by decide) ?_
    have := f71_p31_sp (ts := ts) (full := full) (b := b) (full2 := full2) (ks := ks) (la := la) (s := failS 6 (p9.2.i - 1) p9.2) (rs := rs) (f3 := f3) hl hk hs (hd := hd) (f4 := f4) (f5 := f5) (z0 := z0) (z1 := z1) (a1 := a1) (a2 := a2) (b1 := b1) (b2 := b2) (b3 := b3) (b4 := b4) (b5 := b5) (b6 := b6) (b7 := b7) (x := p3.1) (d := p5.1) (fr := p7.1.n) (to := p9.1.n) (k0 := 0) (K := fun m a b c => K p3.1 p5.1 p7.1.n p9.1.n m a b c) h
    rw [failS_i] at this
    exact this
  · rw [if_neg (fun hc => by simp [hc.2] at h2)] at h
    exact f71_p31_sp hl hk hs (K := fun m a b c => K p3.1 p5.1 p7.1.n p9.1.n m a b c) h
  · rw [if_neg (fun hc => by simp [hc.1] at h1)] at h
    exact f71_p31_sp hl hk hs (K := fun m a b c => K p3.1 p5.1 p7.1.n p9.1.n m a b c) h
theorem f71_sp (ht : Tks ts) (hl : ts.length < 2 ^ 58) (hk : ks.length < 2 ^ 59) (hs : rs.length < 2 ^ 59) {hd : Bool} {z0 : ByteArray} {a1 a2 : Int} {K : ByteArray → Int → Int → Int → Int → Int → Int → Int → Prop}
    (h : ∀ (p : Rc × St), p = progR ts hd ks.length rs → K p.1.nm p.1.days p.1.fr p.1.to p.1.kinds p.2.code (p.2.ln la) (p.2.col ts)) : f71 (ts.map Tk.c) full hd ks full2 la z0 a1 a2 (rs.map Rc.c) f3 K := by
  refine ⟨?_⟩
  unfold f71_d
  have h := h _ rfl
  unfold progR at h
  dsimp only at h
  have hl2 : ts.length < 2 ^ 59 := by omega
  refine f65_ok (k := 1) (tx := sRec) (s := ⟨0, 0, 0⟩) hl2 ?_
  generalize (takeS ts 1 sRec ⟨0, 0, 0⟩).2 = s1 at h ⊢
  refine bB_of (fun h1 => ?_) fun h1 => ?_
  · rw [List.length_map, decide_eq_true_eq] at h1
    rw [if_pos (by omega)] at h
    refine f68_ok (p := 0) hl2 (by decide) ?_
    have := f71_p13_sp (ts := ts) (full := full) (b := hd) (full2 := full2) (ks := ks) (la := la) (s := failS 7 0 s1) (rs := rs) (f3 := f3) ht hl hk hs (hd := hd) (f4 := full) (f5 := full2) (z0 := z0) (z1 := ⟨#[]⟩) (z2 := ⟨#[]⟩) (a1 := a1) (a2 := a2) (b1 := 0) (b2 := 0) (b3 := 0) (b4 := 0) (b5 := 0) (b6 := 0) (b7 := 0) (c1 := 0) (c2 := 0) (c3 := 0) (K := K) (fun p q e hp hq he => by subst hp; subst hq; subst he; exact h)
    rw [failS_i] at this
    exact this
  · rw [List.length_map, decide_eq_false_iff_not] at h1
    rw [if_neg (by omega)] at h
    exact f71_p13_sp ht hl hk hs (fun p q e hp hq he => by subst hp; subst hq; subst he; exact h)
end
end Go.Eng.N
