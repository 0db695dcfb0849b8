/- Notify, pure, 9: the canonical lines, the program's. -/
import Derived.Test.YtbidkfbcmhioiaaDoorPH
import Derived.Test.YtbidkfbcmhioiaaDoorFn2
set_option linter.unusedVariables false
set_option linter.unusedSimpArgs false
namespace Go.Eng.N
open Go Go.Eng
/-- Tokens: a word, a number, a time. -/
def tkW (s : ByteArray) : List PC := [pI 1, pS s, pI 0, pI 0]
def tkN (n : Int) : List PC := [pI 2, pS ⟨#[]⟩, pI n, pI 0]
def tkT (n : Int) : List PC := [pI 4, pS ⟨#[]⟩, pI n, pI 0]
def sClass : ByteArray := ⟨#[99, 108, 97, 115, 115]⟩
def sPrio : ByteArray := ⟨#[112, 114, 105, 111, 114, 105, 116, 121]⟩
def sAck : ByteArray := ⟨#[97, 99, 107]⟩
def sRec : ByteArray := ⟨#[114, 101, 99, 105, 112, 105, 101, 110, 116]⟩
def sDays : ByteArray := ⟨#[100, 97, 121, 115]⟩
def sFrom : ByteArray := ⟨#[102, 114, 111, 109]⟩
def sTo : ByteArray := ⟨#[116, 111]⟩
def sFor : ByteArray := ⟨#[102, 111, 114]⟩
def daysL : List ByteArray := [⟨#[109, 111, 110]⟩, ⟨#[116, 117, 101]⟩, ⟨#[119, 101, 100]⟩, ⟨#[116, 104, 117]⟩, ⟨#[102, 114, 105]⟩, ⟨#[115, 97, 116]⟩, ⟨#[115, 117, 110]⟩]
def kindsL : List ByteArray := [⟨#[97, 108, 97, 114, 109]⟩, ⟨#[102, 97, 117, 108, 116]⟩, ⟨#[110, 111, 114, 109, 97, 108]⟩]
theorem f38_ok {s : ByteArray} {K : Int → ByteArray → Int → Int → Prop} (h : K 1 s 0 0) : f38 s K := ⟨h⟩
theorem f37_ok {n : Int} {K : Int → ByteArray → Int → Int → Prop} (h : K 4 ⟨#[]⟩ n 0) : f37 n K := ⟨h⟩
/-- The words of a set: the first ones. -/
def spellN (ws : List ByteArray) (set : Nat) : Nat → List (List PC)
  | 0 => []
  | j + 1 => if set.testBit j = true then spellN ws set j ++ [tkW (ws.getD j ⟨#[]⟩)] else spellN ws set j
theorem spell_len (ws : List ByteArray) (set : Nat) : ∀ j, (spellN ws set j).length ≤ j
  | 0 => Nat.le_refl _
  | j + 1 => by
    have := spell_len ws set j
    unfold spellN
    split
    · rw [List.length_append, List.length_singleton]; omega
    · omega
def spellV (ws : List ByteArray) (set : Int) : List (List PC) := spellN ws set.toNat ws.length
theorem f39_ok {i n : Nat} {es l : List (List PC)} (hr : SlR i n es l) (hl : l.length ≤ 100) {ws : List ByteArray} (hw : ws.length ≤ 10) {full : Bool} {set : Int} (h1 : 0 ≤ set) (h2 : set ≤ 1000) {K : Nat → Nat → List (List PC) → Prop}
    (h : ∀ i n es, SlR i n es (l ++ spellV ws set) → K i n es) : f39 i n (ws.map sc) full set es K := by
  refine ⟨?_⟩
  unfold f39_d f39_p4
  refine LoopP.inv ws.length (fun j x => x.2.2.1 = (j : Int) ∧ SlR x.1 x.2.1 x.2.2.2 (l ++ spellN ws set.toNat j)) 0 ⟨rfl, ?_⟩ (Nat.zero_le _) (by omega) ?_ ?_
  · show SlR 0 n (List.drop i es) (l ++ [])
    rw [List.append_nil, hr.drop, hr.n]
    exact SlR.all l
  · rintro j ⟨i, n, x, es⟩ _ hj ⟨rfl, hr⟩ N hN
    have hr : SlR i n es _ := hr
    have hn := hr.n
    have hsl := spell_len ws set.toNat j
    rw [List.length_append] at hn
    unfold f39_p4b0
    dsimp only
    refine bB_t (ltM _ _ hj) ⟨rngM _ _ hj, ?_⟩
    rw [toNat_c, getD_map _ _ _ hj]
    simp only [sc, ext_0, ext_s, ext_z, cS_c, cI_c, cB_c, cL_c, cO_c, oS_c, oI_c, oB_c, oL_c, nilC_c, toNat_c]
    have e1 : set = ((set.toNat : Nat) : Int) := by omega
    rw [w64_s j (by omega)]
    have e2 : ((IntKind.wrap .i64 (BitVec.toNat (BitVec.ofInt 64 (Int.fdiv set (2 ^ (min j 64))) &&& BitVec.ofInt 64 1))) == 1) = set.toNat.testBit j := by
      have e3 := shrI set.toNat j (by omega)
      rw [toNat_c, ← e1] at e3
      rw [e3, show (1 : Int) = ((1 : Nat) : Int) from rfl, andI _ _ (Nat.lt_of_le_of_lt (Nat.div_le_self _ _) (by omega)) (by omega), ← bit1, beqD, beqD, decide_eq_decide]
      omega
    rw [e2]
    refine ⟨by omega, bB_of (fun h3 => f38_ok ⟨hr.len, by omega, by omega, hN _ ⟨rfl, ?_⟩⟩) fun h3 => hN _ ⟨rfl, ?_⟩⟩
    · rw [spellN, if_pos h3, ← List.append_assoc, getD_in _ _ hj]
      exact hr.push _
    · rw [spellN, if_neg (by rw [h3]; decide)]
      exact hr
  · rintro ⟨i, n, x, es⟩ ⟨rfl, hr⟩ N
    unfold f39_p4b0
    dsimp only
    exact bB_f (stopM _ _) (h _ _ _ hr)
/-- The tokens of a recipient, of a class. -/
def recV (r : Rc) : List (List PC) := ([tkW sRec, tkW r.nm, tkW sDays] ++ spellV daysL r.days) ++ [tkW sFrom, tkT r.fr, tkW sTo, tkT r.to, tkW sFor] ++ spellV kindsL r.kinds
def kidV (r : Rc) : List PC := [.sl 4 (recV r) false, pB false, .sl 4 [] true, pI 0]
def headV (c : Cls) : List (List PC) := [tkW sClass, tkW c.nm, tkW sPrio, tkN (1000 * c.pri)] ++ (if c.acks = 0 then [] else tkW sAck :: spellV kindsL c.acks)
theorem f14_p17_sp {nm : ByteArray} {pri acks : Int} {rs : List Rc} {full : Bool} (hl : rs.length ≤ 8) (hg : ∀ r ∈ rs, Good r) {b1 b2 : Bool} {n1 n2 : Int} {i0 n0 : Nat} {es0 : List (List PC)} {K : Int → Nat → Nat → List (List PC) → Prop}
    (h : ∀ i n es, SlR i n es (rs.map kidV) → K 0 i n es) : f14_p17 nm pri acks (rs.map Rc.c) full b1 n1 i0 n0 b2 n2 es0 K := by
  unfold f14_p17 f14_p18
  refine LoopP.inv rs.length (fun j x => x.1 = (j : Int) ∧ SlR x.2.1 x.2.2.1 x.2.2.2 ((rs.take j).map kidV)) 0 ⟨rfl, SlR.nil⟩ (Nat.zero_le _) (by omega) ?_ ?_
  · rintro j ⟨x, i, n, es⟩ _ hj ⟨rfl, hr⟩ N hN
    have hr : SlR i n es _ := hr
    have hn := hr.n
    rw [List.length_map, List.length_take] at hn
    unfold f14_p18b0
    dsimp only
    refine bB_t (ltM _ _ hj) ⟨rngM _ _ hj, ?_⟩
    rw [toNat_c, getD_map _ _ _ hj]
    simp only [Rc.c, ext_0, ext_s, ext_z, cS_c, cI_c, cB_c, cL_c, cO_c, oS_c, oI_c, oB_c, oL_c, nilC_c, toNat_c]
    have hj2 := hg _ (List.getElem_mem hj)
    have hstep := List.take_succ_eq_append_getElem hj
    generalize rs[j] = r at hj2 hstep ⊢
    have g1 := hj2.d1
    have g2 := hj2.d2
    have g3 := hj2.k1
    have g4 := hj2.k2
    have hd := spell_len daysL r.days.toNat daysL.length
    refine f38_ok (f38_ok (f38_ok (f39_ok (l := [tkW sRec, tkW r.nm, tkW sDays]) (SlR.all _) (by simp) (ws := daysL) (by decide) (by omega) (by omega) fun i2 n2 es2 hr2 => ?_)))
    have hn2 := hr2.n
    rw [List.length_append] at hn2
    have hd2 : (spellV daysL r.days).length ≤ 7 := hd
    refine f38_ok (f37_ok (f38_ok (f37_ok (f38_ok ⟨hr2.len, by simp at hn2; omega, by simp at hn2; omega, ?_⟩))))
    have hr3 : SlR 0 (n2 + 5) (List.drop i2 es2 ++ [tkW sFrom, tkT r.fr, tkW sTo, tkT r.to, tkW sFor]) (([tkW sRec, tkW r.nm, tkW sDays] ++ spellV daysL r.days) ++ [tkW sFrom, tkT r.fr, tkW sTo, tkT r.to, tkW sFor]) := by
      refine ⟨?_, ?_⟩
      · rw [hr2.drop, List.length_append, ← hr2.n]; simp
      · rw [hr2.drop, List.drop_zero]
    refine f39_ok hr3 (by simp; omega) (ws := kindsL) (by decide) (by omega) (by omega) fun i4 n4 es4 hr4 => ⟨hr.len, by omega, by omega, hN _ ⟨w64_s j (by omega), ?_⟩⟩
    rw [hr4.take, hstep, List.map_append]
    exact hr.push (kidV r)
  · rintro ⟨x, i, n, es⟩ ⟨rfl, hr⟩ N
    unfold f14_p18b0
    dsimp only
    rw [List.take_length] at hr
    exact bB_f (stopM _ _) (h _ _ _ hr)
/-- A line as it is handed back. -/
structure LineV where
  toks : List (List PC)
  head : Bool
  kids : List (List PC)
/-- What Line answers. -/
def lineV (c : Cls) : LineV × Int := if checkV c.nm c.pri c.acks c.rs ≠ 0 then (⟨[], false, []⟩, checkV c.nm c.pri c.acks c.rs) else (⟨headV c, decide (c.rs.length > 0), c.rs.map kidV⟩, 0)
theorem f14_ok {c : Cls} {full : Bool} (hn : c.nm.size < 2 ^ 59) (hs : Sz c.rs) {K : List (List PC) → Bool → Bool → List (List PC) → Bool → Int → Int → Prop}
    (h : ∀ f1 f2, K (lineV c).1.toks f1 (lineV c).1.head (lineV c).1.kids f2 0 (lineV c).2) : f14 c.nm c.pri c.acks (c.rs.map Rc.c) full K := by
  refine ⟨?_⟩
  unfold f14_d
  unfold lineV at h
  refine f16_ok hn hs (bB_of (fun h1 => ?_) fun h1 => ?_)
  · rw [if_pos (by simpa using h1)] at h; exact h true true
  · rw [if_neg (by simpa using h1)] at h
    have hg := check_good (by simpa using h1)
    have e0 : w64 (1000 * c.pri) = 1000 * c.pri := w64_in (by omega) (by omega)
    have e1 : (decide ((((c.rs.map Rc.c).length : Nat) : Int) > 0)) = decide (c.rs.length > 0) := by rw [List.length_map, decide_eq_decide]; omega
    have e2 : c.acks = 0 → headV c = [tkW sClass, tkW c.nm, tkW sPrio, tkN (1000 * c.pri)] := fun e => by unfold headV; rw [if_pos e, List.append_nil]
    have e3 : c.acks ≠ 0 → headV c = [tkW sClass, tkW c.nm, tkW sPrio, tkN (1000 * c.pri), tkW sAck] ++ spellV kindsL c.acks := fun e => by unfold headV; rw [if_neg e]; rfl
    rw [e0, e1]
    have T : bB (c.acks != 0) (f38 (⟨#[97, 99, 107]⟩ : ByteArray) (fun n19 s20 n21 n22 => 4 = 4 ∧ 5 * 40 ≤ 2 ^ 46 ∧ 5 ≤ 2 ^ 46 ∧ f39 0 5 (kindsL.map sc) false c.acks [tkW sClass, tkW c.nm, tkW sPrio, tkN (1000 * c.pri), [pI n19, pS s20, pI n21, pI n22]] (fun i23 n24 es25 => f14_p17 c.nm c.pri c.acks (c.rs.map Rc.c) full false 0 i23 n24 (decide (c.rs.length > 0)) 0 es25 (fun n103 i104 n105 es106 => K (List.take n24 (List.drop i23 es25)) false (decide (c.rs.length > 0)) (List.take n105 (List.drop i104 es106)) false 0 n103))))
        (f14_p17 c.nm c.pri c.acks (c.rs.map Rc.c) full false 0 0 4 (decide (c.rs.length > 0)) 0 [tkW sClass, tkW c.nm, tkW sPrio, tkN (1000 * c.pri)] (fun n107 i108 n109 es110 => K (List.take 4 (List.drop 0 [tkW sClass, tkW c.nm, tkW sPrio, tkN (1000 * c.pri)])) false (decide (c.rs.length > 0)) (List.take n109 (List.drop i108 es110)) false 0 n107)) := by
      refine bB_of (fun h2 => f38_ok ⟨rfl, by decide, by decide, ?_⟩) fun h2 => ?_
      · have h3 : c.acks ≠ 0 := by simpa using h2
        refine f39_ok (l := [tkW sClass, tkW c.nm, tkW sPrio, tkN (1000 * c.pri), tkW sAck]) (SlR.all _) (by simp) (ws := kindsL) (by decide) (by omega) (by omega) fun i2 n2 es2 hr2 => ?_
        refine f14_p17_sp hg.1 hg.2.2.2.1 fun i4 n4 es4 hr4 => ?_
        rw [hr2.take, hr4.take, ← e3 h3]
        exact h false false
      · have h3 : c.acks = 0 := by simpa using h2
        refine f14_p17_sp hg.1 hg.2.2.2.1 fun i4 n4 es4 hr4 => ?_
        rw [hr4.take]
        have := h false false
        rw [e2 h3] at this
        exact this
    exact ⟨f38_ok ⟨f38_ok ⟨f38_ok ⟨T, T⟩, f38_ok T⟩, f38_ok (f38_ok T)⟩, f38_ok (f38_ok (f38_ok T))⟩
end Go.Eng.N
