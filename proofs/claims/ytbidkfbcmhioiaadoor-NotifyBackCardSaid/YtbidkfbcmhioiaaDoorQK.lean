/- Notify, pure: the reader of tokens, 11: the head of a class, by the program. -/
import Derived.Test.YtbidkfbcmhioiaaDoorQJ
set_option linter.unusedVariables false
set_option linter.unusedSimpArgs false
namespace Go.Eng.N
open Go Go.Eng
def badN (n : Int) : Prop := Int.tmod n 1000 ≠ 0 ∨ n < 0 ∨ n > 255000
instance (n : Int) : Decidable (badN n) := by unfold badN; exact inferInstance
def ackS (ts : List Tk) (s : St) : Nat × St := if s.code = 0 ∧ s.i < ts.length then setS kindsL emp ts (takeS ts 1 sAck s).2 else (0, s)
/-- The head of a class, as the program reads it. -/
def headP (ts : List Tk) : (ByteArray × Int × Nat) × St :=
  let p2 := nameS ts (takeS ts 1 sClass ⟨0, 0, 0⟩).2
  let p4 := takeS ts 2 emp (takeS ts 1 sPrio p2.2).2
  let q := ackS ts (if p4.2.code = 0 ∧ badN p4.1.n then failS 6 (p4.2.i - 1) p4.2 else p4.2)
  ((p2.1, p4.1.n, q.1), q.2)
section
variable {ts : List Tk} {full b full2 f4 f5 hd : Bool} {la : Int} {s : St} {kids : List Kid}
theorem f31_p27_sp (hk : ∀ k ∈ kids, KidOk k) (hl : kids.length < 2 ^ 58) {tl : List (List PC)} {kl : List (List PC)} {s1 s2 : ByteArray} {a1 a2 a3 a4 a5 p a : Int} {K0 : ByteArray → Int → Int → Int → Int → Int → Prop} {K1 : Nat → Nat → Int → Int → Int → (List (List PC)) → Prop}
    (h0 : s.code ≠ 0 → K0 emp 0 0 s.code la (colV ts s.pos))
    (h1 : s.code = 0 → ∀ acc, loadK kids [] = .ok acc → acc.length ≤ 8 → ∀ i n es, SlR i n es (acc.map Rc.c) → K1 i n 0 0 0 es) (h2 : s.code = 0 → ∀ c l o, loadK kids [] = .error (c, l, o) → c ≠ 0 → K0 emp 0 0 c l o) :
    f31_p27 tl f4 hd (kids.map Kid.c) f5 la s1 a1 a2 a3 a4 a5 (ts.map Tk.c) full b kl full2 la s.i s.code (s.ln la) (s.col ts) s2 p a K0 K1 := by
  unfold f31_p27
  refine f67_ok (bB_of (fun g => ?_) fun g => ?_)
  · have hc : s.code ≠ 0 := by simpa using g
    rw [St.ln, St.col, if_neg hc, if_neg hc]
    exact h0 hc
  · have hc : s.code = 0 := by simpa using g
    exact f31_p32_sp hk hl (h1 hc) (h2 hc)
theorem f31_p19_sp (ht : Tks ts) (hll : ts.length < 2 ^ 58) (hk : ∀ k ∈ kids, KidOk k) (hl : kids.length < 2 ^ 58) {tl : List (List PC)} {kl : List (List PC)} {s1 s2 : ByteArray} {a1 a2 a3 a4 a5 p num : Int} {K0 : ByteArray → Int → Int → Int → Int → Int → Prop} {K1 : Int → Int → Nat → Nat → Int → Int → Int → (List (List PC)) → Prop}
    (h0 : (ackS ts s).2.code ≠ 0 → K0 emp 0 0 (ackS ts s).2.code la (colV ts (ackS ts s).2.pos))
    (h1 : (ackS ts s).2.code = 0 → ∀ acc, loadK kids [] = .ok acc → acc.length ≤ 8 → ∀ i n es, SlR i n es (acc.map Rc.c) → K1 (w64 (Int.tdiv num 1000)) (ackS ts s).1 i n 0 0 0 es)
    (h2 : (ackS ts s).2.code = 0 → ∀ c l o, loadK kids [] = .error (c, l, o) → c ≠ 0 → K0 emp 0 0 c l o) :
    f31_p19 num tl f4 hd (kids.map Kid.c) f5 la s1 a1 a2 a3 a4 a5 (ts.map Tk.c) full b kl full2 la s.i s.code (s.ln la) (s.col ts) s2 p 0 K0 K1 := by
  unfold f31_p19
  unfold ackS at h0 h1 h2
  refine ⟨by decide, f69_ok (bB_of (fun g => ?_) fun g => ?_)⟩
  · have g2 : s.code = 0 ∧ s.i < ts.length := by simpa using g
    simp only [if_pos g2] at h0 h1 h2
    refine f65_ok (k := 1) (tx := sAck) (by omega) ?_
    refine f70_ok (ws := kindsL) (e := emp) hll (by decide) (fun hc => (takeS_le hc).1) ?_
    exact f31_p27_sp hk hl h0 h1 h2
  · have g2 : ¬ (s.code = 0 ∧ s.i < ts.length) := by
      rintro ⟨a, b⟩
      rw [decide_eq_true a, decide_eq_true b] at g
      cases g
    simp only [if_neg g2] at h0 h1 h2
    exact f31_p27_sp hk hl h0 h1 h2
theorem f31_sp (ht : Tks ts) (hll : ts.length < 2 ^ 58) (hk : ∀ k ∈ kids, KidOk k) (hl : kids.length < 2 ^ 58) {K : ByteArray → Int → Int → (List (List PC)) → Bool → Int → Int → Int → Prop}
    (h0 : (headP ts).2.code ≠ 0 → K emp 0 0 [] true (headP ts).2.code la (colV ts (headP ts).2.pos))
    (h1 : (headP ts).2.code = 0 → ∀ acc, loadK kids [] = .ok acc → acc.length ≤ 8 → K (headP ts).1.1 (w64 (Int.tdiv (headP ts).1.2.1 1000)) (headP ts).1.2.2 (acc.map Rc.c) false 0 0 0)
    (h2 : (headP ts).2.code = 0 → ∀ c l o, loadK kids [] = .error (c, l, o) → c ≠ 0 → K emp 0 0 [] true c l o) :
    f31 (ts.map Tk.c) full hd (kids.map Kid.c) full2 la K := by
  refine ⟨?_⟩
  unfold f31_d
  have hl2 : ts.length < 2 ^ 59 := by omega
  unfold headP at h0 h1 h2
  dsimp only at h0 h1 h2
  refine f65_ok (k := 1) (tx := sClass) (s := ⟨0, 0, 0⟩) hl2 ?_
  refine f66_ok ht ?_
  refine f65_ok (k := 1) (tx := sPrio) hl2 ?_
  refine f65_ok (k := 2) (tx := emp) hl2 ?_
  generalize nameS ts (takeS ts 1 sClass ⟨0, 0, 0⟩).2 = p2 at h0 h1 h2 ⊢
  have hp : (takeS ts 2 emp (takeS ts 1 sPrio p2.2).2).2.code = 0 → 1 ≤ (takeS ts 2 emp (takeS ts 1 sPrio p2.2).2).2.i ∧ (takeS ts 2 emp (takeS ts 1 sPrio p2.2).2).2.i ≤ ts.length := fun h0 => ⟨(takeS_le h0).2, (takeS_le h0).1⟩
  generalize takeS ts 2 emp (takeS ts 1 sPrio p2.2).2 = p4 at h0 h1 h2 hp ⊢
  have fin : ∀ st : St, (if p4.2.code = 0 ∧ badN p4.1.n then failS 6 (p4.2.i - 1) p4.2 else p4.2) = st → f31_p19 p4.1.n (ts.map Tk.c) full hd (kids.map Kid.c) full2 la (⟨#[]⟩ : ByteArray) 0 0 0 0 0 (ts.map Tk.c) full hd (kids.map Kid.c) full2 la st.i st.code (st.ln la) (st.col ts) p2.1 0 0 (fun s246 n247 n248 n249 n250 n251 => K s246 n247 n248 [] true n249 n250 n251) (fun n252 n253 i254 n255 n256 n257 n258 es259 => K p2.1 n252 n253 (List.take n255 (List.drop i254 es259)) false n256 n257 n258) := by
    intro st hst
    rw [hst] at h0 h1 h2
    exact f31_p19_sp ht hll hk hl h0 (fun hc acc h3 h4 i n es hr => by rw [hr.take]; exact h1 hc acc h3 h4) h2
  have bad : p4.2.code = 0 → badN p4.1.n → f68 6 (w64 ((p4.2.i : Int) - 1)) (ts.map Tk.c) full hd (kids.map Kid.c) full2 la p4.2.i p4.2.code (p4.2.ln la) (p4.2.col ts) (fun es71 full72 b73 es74 full75 n76 n77 n78 n79 n80 => f31_p19 p4.1.n (ts.map Tk.c) full hd (kids.map Kid.c) full2 la (⟨#[]⟩ : ByteArray) 0 0 0 0 0 es71 full72 b73 es74 full75 n76 n77 n78 n79 n80 p2.1 0 0 (fun s246 n247 n248 n249 n250 n251 => K s246 n247 n248 [] true n249 n250 n251) (fun n252 n253 i254 n255 n256 n257 n258 es259 => K p2.1 n252 n253 (List.take n255 (List.drop i254 es259)) false n256 n257 n258)) := by
    intro hc hb
    have hp := hp hc
    rw [show w64 ((p4.2.i : Int) - 1) = ((p4.2.i - 1 : Nat) : Int) by rw [w64_in (by omega) (by omega)]; omega]
    refine f68_ok hl2 (by decide) ?_
    have := fin _ (if_pos ⟨hc, hb⟩)
    rw [failS_i] at this
    exact this
  refine f67_ok (bB_of (fun g1 => ?_) fun g1 => ?_)
  · have hc : p4.2.code = 0 := by simpa using g1
    refine ⟨by decide, bB_of (fun g2 => bad hc (Or.inl (by simpa using g2))) fun g2 => bB_of (fun g3 => bad hc (Or.inr (Or.inl (by simpa using g3)))) fun g3 => bB_of (fun g4 => bad hc (Or.inr (Or.inr (by simpa using g4)))) fun g4 => fin _ (if_neg ?_)⟩
    rintro ⟨_, hb | hb | hb⟩
    · exact hb (by simpa using g2)
    · rw [decide_eq_true hb] at g3; cases g3
    · rw [decide_eq_true hb] at g4; cases g4
  · have hc : p4.2.code ≠ 0 := by simpa using g1
    exact fin _ (if_neg (fun h => hc h.1))
end
end Go.Eng.N
