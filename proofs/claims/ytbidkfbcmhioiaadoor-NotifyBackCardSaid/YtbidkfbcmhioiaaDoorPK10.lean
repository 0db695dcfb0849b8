/- Notify, pure: the law NotifyBack. -/
import Derived.Test.YtbidkfbcmhioiaaDoorQM
import Derived.Test.YtbidkfbcmhioiaaDoorFn3
set_option linter.unusedVariables false
set_option linter.unusedSimpArgs false
namespace Go.Eng.N
open Go Go.Eng
theorem eqCls_same (c : Cls) : eqCls c c = true := by unfold eqCls; simp
def wT (s : ByteArray) : Tk := ⟨1, s, 0, 0⟩
def nT (n : Int) : Tk := ⟨2, emp, n, 0⟩
def tT (n : Int) : Tk := ⟨4, emp, n, 0⟩
/-- The places of a set. -/
def bitsOf (m n : Nat) : List Nat := (List.range n).filter fun k => m.testBit k
def spellT (ws : List ByteArray) (m : Nat) : List Tk := (bitsOf m ws.length).map fun k => wT (ws.getD k ⟨#[]⟩)
theorem spellN_eq (ws : List ByteArray) (m : Nat) : ∀ j, spellN ws m j = ((bitsOf m j).map fun k => wT (ws.getD k ⟨#[]⟩)).map Tk.c
  | 0 => rfl
  | j + 1 => by
    have ih := spellN_eq ws m j
    unfold bitsOf at ih ⊢
    rw [spellN, List.range_succ, List.filter_append]
    by_cases h : m.testBit j = true
    · rw [if_pos h, ih, List.filter_cons_of_pos h]
      simp [wT, Tk.c, tkW]
    · rw [if_neg h, ih, List.filter_cons_of_neg h]
      simp
theorem spellV_eq (ws : List ByteArray) (s : Int) : spellV ws s = (spellT ws s.toNat).map Tk.c := spellN_eq _ _ _
theorem setL_ks {ws : List ByteArray} {e : ByteArray} {wd : Nat → ByteArray} {rest : List Tk} (hr : ∀ out i, setL ws e false out i rest = (out, ⟨i, 0, 0⟩)) :
    ∀ (ks : List Nat) (first : Bool) (out i : Nat), (∀ k ∈ ks, idxW ws (wd k) = some k) → (∀ k ∈ ks, wd k ≠ e) → ks.Pairwise (· ≠ ·) → (∀ k ∈ ks, out.testBit k = false) → (first = true → ks ≠ []) →
      setL ws e first out i (ks.map (fun k => wT (wd k)) ++ rest) = (ks.foldl (fun o k => o ||| 2 ^ k) out, ⟨i + ks.length, 0, 0⟩)
  | [], first, out, i, _, _, _, _, hf => by
    cases first
    · exact hr out i
    · exact absurd rfl (hf rfl)
  | k :: ks, first, out, i, h1, h2, h3, h4, hf => by
    rw [List.map_cons, List.cons_append, setL, if_neg (fun hc => h2 k (List.mem_cons_self ..) hc.2.2.2), if_neg (fun hc => hc rfl)]
    rw [show (wT (wd k)).tx = wd k from rfl, h1 k (List.mem_cons_self ..)]
    dsimp only
    rw [if_neg (by rw [h4 k (List.mem_cons_self ..)]; decide)]
    rw [setL_ks hr ks false _ _ (fun x hx => h1 x (List.mem_cons_of_mem _ hx)) (fun x hx => h2 x (List.mem_cons_of_mem _ hx)) (List.pairwise_cons.1 h3).2 (fun x hx => ?_) (fun hc => by cases hc)]
    · rw [List.foldl_cons, List.length_cons, Nat.add_assoc, Nat.add_comm 1]
    · have hne := (List.pairwise_cons.1 h3).1 x hx
      rw [Nat.testBit_or, h4 x (List.mem_cons_of_mem _ hx), Nat.testBit_two_pow, decide_eq_false hne]; rfl
theorem bits_pw (m n : Nat) : (bitsOf m n).Pairwise (· ≠ ·) := (List.nodup_range (n := n)).filter _
theorem bits7 {m : Nat} (h : m < 128) (h0 : 1 ≤ m) : (bitsOf m 7).foldl (fun o k => o ||| 2 ^ k) 0 = m ∧ bitsOf m 7 ≠ [] ∧ ∀ k ∈ bitsOf m 7, k < 7 := by
  have : ∀ m : Fin 128, 1 ≤ m.1 → (bitsOf m.1 7).foldl (fun o k => o ||| 2 ^ k) 0 = m.1 ∧ bitsOf m.1 7 ≠ [] ∧ ∀ k ∈ bitsOf m.1 7, k < 7 := by decide +kernel
  exact this ⟨m, h⟩ h0
theorem bits3 {m : Nat} (h : m < 8) (h0 : 1 ≤ m) : (bitsOf m 3).foldl (fun o k => o ||| 2 ^ k) 0 = m ∧ bitsOf m 3 ≠ [] ∧ ∀ k ∈ bitsOf m 3, k < 3 := by
  have : ∀ m : Fin 8, 1 ≤ m.1 → (bitsOf m.1 3).foldl (fun o k => o ||| 2 ^ k) 0 = m.1 ∧ bitsOf m.1 3 ≠ [] ∧ ∀ k ∈ bitsOf m.1 3, k < 3 := by decide +kernel
  exact this ⟨m, h⟩ h0
theorem idx7 {k : Nat} (h : k < 7) : idxW daysL (daysL.getD k ⟨#[]⟩) = some k ∧ daysL.getD k ⟨#[]⟩ ≠ sFrom := by
  have : ∀ k : Fin 7, idxW daysL (daysL.getD k.1 ⟨#[]⟩) = some k.1 ∧ daysL.getD k.1 ⟨#[]⟩ ≠ sFrom := by decide +kernel
  exact this ⟨k, h⟩
theorem idx3 {k : Nat} (h : k < 3) : idxW kindsL (kindsL.getD k ⟨#[]⟩) = some k ∧ kindsL.getD k ⟨#[]⟩ ≠ emp := by
  have : ∀ k : Fin 3, idxW kindsL (kindsL.getD k.1 ⟨#[]⟩) = some k.1 ∧ kindsL.getD k.1 ⟨#[]⟩ ≠ emp := by decide +kernel
  exact this ⟨k, h⟩
theorem set_days {m : Int} (h0 : 1 ≤ m) (h : m ≤ 127) (i : Nat) (r : List Tk) :
    setL daysL sFrom true 0 i (spellT daysL m.toNat ++ wT sFrom :: r) = (m.toNat, ⟨i + (spellT daysL m.toNat).length, 0, 0⟩) := by
  obtain ⟨a, b, c⟩ := bits7 (m := m.toNat) (by omega) (by omega)
  have := setL_ks (ws := daysL) (e := sFrom) (wd := fun k => daysL.getD k ⟨#[]⟩) (rest := wT sFrom :: r) (fun out i => by
    rw [setL, if_pos ⟨rfl, by decide, rfl, rfl⟩]) (bitsOf m.toNat 7) true 0 i (fun k hk => (idx7 (c k hk)).1) (fun k hk => (idx7 (c k hk)).2) (bits_pw _ _) (fun k _ => Nat.zero_testBit k) (fun _ => b)
  rw [a] at this
  unfold spellT
  rw [List.length_map]
  exact this
theorem set_kinds {m : Int} (h0 : 1 ≤ m) (h : m ≤ 7) (i : Nat) :
    setL kindsL emp true 0 i (spellT kindsL m.toNat) = (m.toNat, ⟨i + (spellT kindsL m.toNat).length, 0, 0⟩) := by
  obtain ⟨a, b, c⟩ := bits3 (m := m.toNat) (by omega) (by omega)
  have := setL_ks (ws := kindsL) (e := emp) (wd := fun k => kindsL.getD k ⟨#[]⟩) (rest := []) (fun out i => rfl) (bitsOf m.toNat 3) true 0 i (fun k hk => (idx3 (c k hk)).1) (fun k hk => (idx3 (c k hk)).2) (bits_pw _ _) (fun k _ => Nat.zero_testBit k) (fun _ => b)
  rw [a, List.append_nil] at this
  unfold spellT
  rw [List.length_map]
  exact this
theorem setR_kinds {m : Int} (h0 : 1 ≤ m) (h : m ≤ 7) {ts : List Tk} {i : Nat} (hd : ts.drop i = spellT kindsL m.toNat) : setR kindsL emp ts i = (m.toNat, ⟨i + (spellT kindsL m.toNat).length, 0, 0⟩) := by
  unfold setR
  rw [hd, set_kinds h0 h, if_neg (fun hc => hc rfl), if_neg (fun hc => hc.1 rfl)]
theorem setR_days {m : Int} (h0 : 1 ≤ m) (h : m ≤ 127) {ts r : List Tk} {i : Nat} (hd : ts.drop i = spellT daysL m.toNat ++ wT sFrom :: r) (hl : i + (spellT daysL m.toNat).length < ts.length) : setR daysL sFrom ts i = (m.toNat, ⟨i + (spellT daysL m.toNat).length, 0, 0⟩) := by
  unfold setR
  rw [hd, set_days h0 h, if_neg (fun hc => hc rfl), if_neg (fun hc => by have : i + (spellT daysL m.toNat).length = ts.length := hc.2; omega)]
theorem isT_at {ts : List Tk} {i : Nat} {s w : ByteArray} (h : ts[i]? = some (wT s)) (hw : w = emp ∨ s = w) : isT ts 1 w ⟨i, 0, 0⟩ = true := by
  unfold isT
  dsimp only
  rw [h]
  rcases hw with h | h <;> simp [wT, h]
theorem exp_w {ts : List Tk} {i : Nat} {w : ByteArray} (h : ts[i]? = some (wT w)) (hw : w ≠ emp) : expV ts i w = (0, 0) := expV_t (isT_at h (.inr rfl)) (.inl hw)
theorem getD_at {ts : List Tk} {i : Nat} {t : Tk} (h : ts[i]? = some t) : ts.getD i Tk.no = t := by rw [List.getD_eq_getElem?_getD, h]; rfl
theorem exp_nm {ts : List Tk} {i : Nat} {s : ByteArray} (h : ts[i]? = some (wT s)) (hs : nameB s = true) : expV ts i emp = (0, 0) := expV_t (isT_at h (.inl rfl)) (.inr (by rw [getD_at h]; exact hs))
def headT (c : Cls) : List Tk := [wT sClass, wT c.nm, wT sPrio, nT (1000 * c.pri)] ++ (if c.acks = 0 then [] else wT sAck :: spellT kindsL c.acks.toNat)
def recT (r : Rc) : List Tk := [wT sRec, wT r.nm, wT sDays] ++ (spellT daysL r.days.toNat ++ wT sFrom :: ([tT r.fr, wT sTo, tT r.to, wT sFor] ++ spellT kindsL r.kinds.toNat))
theorem headV_eq (c : Cls) : headV c = (headT c).map Tk.c := by
  unfold headV headT
  rw [List.map_append]
  congr 1
  split
  · rfl
  · rw [spellV_eq]; rfl
theorem recV_eq (r : Rc) : recV r = (recT r).map Tk.c := by
  unfold recV recT
  rw [spellV_eq, spellV_eq]
  simp [wT, tT, Tk.c, tkW, tkT, emp]
theorem head_back {c : Cls} (h1 : nameB c.nm = true) (h2 : 0 ≤ c.pri) (h3 : c.pri ≤ 255) (h4 : 0 ≤ c.acks) (h5 : c.acks ≤ 7) : headR (headT c) = .ok (c.nm, c.pri, c.acks) := by
  have a0 : (headT c)[0]? = some (wT sClass) := rfl
  have a1 : (headT c)[1]? = some (wT c.nm) := rfl
  have a2 : (headT c)[2]? = some (wT sPrio) := rfl
  have a3 : (headT c)[3]? = some (nT (1000 * c.pri)) := rfl
  have e3 := getD_at a3
  unfold headR
  rw [exp_w a0 (by decide), if_neg (fun hc => hc rfl), exp_nm a1 h1, if_neg (fun hc => hc rfl), exp_w a2 (by decide), if_neg (fun hc => hc rfl), e3, getD_at a1]
  have hl : 3 < (headT c).length := (List.getElem?_eq_some_iff.1 a3).1
  rw [if_neg (fun hc => hc ⟨hl, rfl⟩)]
  have hn : (nT (1000 * c.pri)).n = 1000 * c.pri := rfl
  rw [hn, if_neg (by rw [Int.tmod_eq_emod_of_nonneg (by omega)]; omega)]
  have hd : Int.tdiv (1000 * c.pri) 1000 = c.pri := by rw [Int.tdiv_eq_ediv_of_nonneg (by omega)]; omega
  rw [hd]
  by_cases hk : c.acks = 0
  · have : (headT c).length = 4 := by unfold headT; rw [if_pos hk]; rfl
    rw [if_pos this, hk]; rfl
  · have e : headT c = [wT sClass, wT c.nm, wT sPrio, nT (1000 * c.pri)] ++ wT sAck :: spellT kindsL c.acks.toNat := by unfold headT; rw [if_neg hk]
    have a4 : (headT c)[4]? = some (wT sAck) := by rw [e]; rfl
    have hl4 : 4 < (headT c).length := (List.getElem?_eq_some_iff.1 a4).1
    have hd5 : (headT c).drop 5 = spellT kindsL c.acks.toNat := by rw [e]; rfl
    rw [if_neg (by omega), exp_w a4 (by decide), if_neg (fun hc => hc rfl), setR_kinds (by omega) h5 hd5, if_neg (fun hc => hc rfl)]
    dsimp only
    rw [show ((c.acks.toNat : Nat) : Int) = c.acks by omega]; rfl
theorem rec_back {r : Rc} (hg : Good r) (hn : nameB r.nm = true) : recR (recT r) = .ok r := by
  have g1 := hg.d1
  have g2 := hg.d2
  have g3 := hg.k1
  have g4 := hg.k2
  have g5 := hg.f2
  have a1 : (recT r)[1]? = some (wT r.nm) := rfl
  have a2 : (recT r)[2]? = some (wT sDays) := rfl
  have hd : (recT r).drop 3 = spellT daysL r.days.toNat ++ wT sFrom :: ([tT r.fr, wT sTo, tT r.to, wT sFor] ++ spellT kindsL r.kinds.toNat) := rfl
  have hl : (recT r).length = 8 + (spellT daysL r.days.toNat).length + (spellT kindsL r.kinds.toNat).length := by unfold recT; simp; omega
  unfold recR
  rw [exp_nm a1 hn, if_neg (fun hc => hc rfl), exp_w a2 (by decide), if_neg (fun hc => hc rfl), setR_days g1 g2 hd (by omega), if_neg (fun hc => hc rfl), getD_at a1]
  dsimp only
  have at_ : ∀ j, (recT r)[3 + (spellT daysL r.days.toNat).length + j]? = (wT sFrom :: ([tT r.fr, wT sTo, tT r.to, wT sFor] ++ spellT kindsL r.kinds.toNat))[j]? := fun j => by
    have : (recT r)[3 + (spellT daysL r.days.toNat).length + j]? = ((recT r).drop 3)[(spellT daysL r.days.toNat).length + j]? := by rw [List.getElem?_drop, Nat.add_assoc]
    rw [this, hd, List.getElem?_append_right (by omega), Nat.add_sub_cancel_left]
  have hdk : (recT r).drop (3 + (spellT daysL r.days.toNat).length + 5) = spellT kindsL r.kinds.toNat := by
    rw [Nat.add_assoc, ← List.drop_drop, hd, ← List.drop_drop, List.drop_left]
    rfl
  generalize hi : 3 + (spellT daysL r.days.toNat).length = i at at_ hdk ⊢
  have b1 : (recT r)[i + 1]? = some (tT r.fr) := at_ 1
  have b2 : (recT r)[i + 2]? = some (wT sTo) := at_ 2
  have b3 : (recT r)[i + 3]? = some (tT r.to) := at_ 3
  have b4 : (recT r)[i + 4]? = some (wT sFor) := at_ 4
  unfold recR2
  rw [getD_at b1, getD_at b3, if_neg (fun hc => hc ⟨(List.getElem?_eq_some_iff.1 b1).1, rfl⟩), exp_w b2 (by decide), if_neg (fun hc => hc rfl), if_neg (fun hc => hc ⟨(List.getElem?_eq_some_iff.1 b3).1, rfl⟩),
    if_neg (show ¬ (tT r.to).n < (tT r.fr).n by show ¬ r.to < r.fr; omega), exp_w b4 (by decide), if_neg (fun hc => hc rfl), setR_kinds g3 g4 hdk, if_neg (fun hc => hc rfl)]
  congr 1
  cases r
  simp only [tT] at *
  congr 1 <;> omega
def kidT (r : Rc) : Kid := ⟨recT r, false, false, [], true, 0⟩
theorem kidT_c (r : Rc) : (kidT r).c = kidV r := by
  unfold kidT Kid.c kidV
  rw [recV_eq]
theorem load_back : ∀ (l acc : List Rc), (∀ r ∈ l, Good r ∧ nameB r.nm = true) → (acc ++ l).Nodup → (acc ++ l).length ≤ 8 → loadK (l.map kidT) acc = .ok (acc ++ l)
  | [], acc, _, _, _ => by rw [List.append_nil]; rfl
  | r :: l, acc, h1, h2, h3 => by
    have hr := h1 r (List.mem_cons_self ..)
    have hnm : r ∉ acc := fun hc => by
      have := (List.nodup_append.1 h2).2.2 r hc r (List.mem_cons_self ..)
      exact this rfl
    rw [List.length_append, List.length_cons] at h3
    have hk : kidR (recT r) false 0 acc = .ok r := by
      unfold kidR
      rw [exp_w (show (recT r)[0]? = some (wT sRec) from rfl) (by decide), if_neg (fun hc => hc rfl), if_neg (by omega), rec_back hr.1 hr.2]
      dsimp only
      rw [if_neg (by simp), if_neg hnm]
    rw [List.map_cons, loadK, show kidR (kidT r).ts (kidT r).hd (kidT r).ks.length acc = .ok r from hk]
    dsimp only
    have e : acc ++ r :: l = (acc ++ [r]) ++ l := by simp
    rw [e] at h2 ⊢
    exact load_back l _ (fun x hx => h1 x (List.mem_cons_of_mem _ hx)) h2 (by simp; omega)
theorem tks_spell {ws : List ByteArray} {m : Nat} (h : ∀ k, (ws.getD k ⟨#[]⟩).size < 2 ^ 59) : ∀ t ∈ spellT ws m, t.tx.size < 2 ^ 59 := by
  intro t ht
  obtain ⟨k, _, rfl⟩ := List.mem_map.1 ht
  exact h k
theorem words_sz {ws : List ByteArray} (h : ∀ w ∈ ws, w.size < 2 ^ 59) (k : Nat) : (ws.getD k ⟨#[]⟩).size < 2 ^ 59 := by
  rw [List.getD_eq_getElem?_getD]
  cases hx : ws[k]? with
  | none => show (0 : Nat) < _; decide
  | some w => exact h w (List.mem_of_getElem? hx)
theorem days_sz : ∀ w ∈ daysL, w.size < 2 ^ 59 := by decide
theorem kinds_sz : ∀ w ∈ kindsL, w.size < 2 ^ 59 := by decide
theorem spellT_len (ws : List ByteArray) (m : Nat) : (spellT ws m).length ≤ ws.length := by
  unfold spellT bitsOf
  rw [List.length_map]
  exact Nat.le_trans (List.length_filter_le _ _) (by simp)
theorem head_tks {c : Cls} (hn : c.nm.size < 2 ^ 59) : Tks (headT c) ∧ (headT c).length < 2 ^ 58 := by
  have hk := spellT_len kindsL c.acks.toNat
  have e : kindsL.length = 3 := rfl
  have hl : (headT c).length ≤ 8 := by
    unfold headT
    split <;> simp <;> omega
  refine ⟨⟨by omega, fun t ht => ?_⟩, by omega⟩
  unfold headT at ht
  simp only [List.mem_append, List.mem_cons, List.not_mem_nil, or_false] at ht
  have hsp := tks_spell (ws := kindsL) (m := c.acks.toNat) (words_sz kinds_sz)
  rcases ht with (rfl | rfl | rfl | rfl) | ht
  · show sClass.size < _; decide
  · exact hn
  · show sPrio.size < _; decide
  · show emp.size < _; decide
  · split at ht
    · simp at ht
    · rcases List.mem_cons.1 ht with rfl | ht
      · show sAck.size < _; decide
      · exact hsp t ht
theorem rec_tks {r : Rc} (hn : r.nm.size < 2 ^ 59) : KidOk (kidT r) := by
  have hk := spellT_len kindsL r.kinds.toNat
  have hd := spellT_len daysL r.days.toNat
  have e : kindsL.length = 3 := rfl
  have e2 : daysL.length = 7 := rfl
  have hl : (recT r).length ≤ 18 := by
    unfold recT
    simp; omega
  refine ⟨⟨by show (recT r).length < _; omega, fun t ht => ?_⟩, by show (recT r).length < _; omega, by show (0 : Nat) < _; decide⟩
  have ht : t ∈ recT r := ht
  unfold recT at ht
  have hsk := tks_spell (ws := kindsL) (m := r.kinds.toNat) (words_sz kinds_sz)
  have hsd := tks_spell (ws := daysL) (m := r.days.toNat) (words_sz days_sz)
  simp only [List.mem_append, List.mem_cons, List.not_mem_nil, or_false] at ht
  rcases ht with (rfl | rfl | rfl) | ht | rfl | (rfl | rfl | rfl | rfl) | ht
  · show sRec.size < _; decide
  · exact hn
  · show sDays.size < _; decide
  · exact hsd t ht
  · show sFrom.size < _; decide
  · show emp.size < _; decide
  · show sTo.size < _; decide
  · show emp.size < _; decide
  · show sFor.size < _; decide
  · exact hsk t ht
theorem f10_ok {c : Cls} {full : Bool} (hn : c.nm.size < 2 ^ 59) (hs : Sz c.rs) {K : Bool → Prop} (h : K true) : f10 c.nm c.pri c.acks (c.rs.map Rc.c) full K := by
  refine ⟨?_⟩
  unfold f10_d
  refine f12_ok (bB_f rfl (f13_ok hs.len (bB_of (fun _ => h) fun _ => f14_ok hn hs fun fl1 fl2 => ?_)))
  unfold lineV
  by_cases hc : checkV c.nm c.pri c.acks c.rs = 0
  · rw [if_neg (by simpa using hc)]
    refine bB_f rfl ?_
    dsimp only
    obtain ⟨g1, ⟨g2, g3⟩, ⟨g4, g5⟩, g6, g7, g8, g9⟩ := check_good hc
    have ek : c.rs.map kidV = (c.rs.map kidT).map Kid.c := by
      rw [List.map_map]
      exact List.map_congr_left fun r _ => (kidT_c r).symm
    rw [headV_eq, ek]
    obtain ⟨t1, t2⟩ := head_tks (c := c) hn
    have el : loadR (headT c) 0 (c.rs.map kidT) = .ok c := by
      unfold loadR
      rw [head_back g8 g4 g5 g2 g3]
      dsimp only
      rw [load_back c.rs [] (fun r hr => ⟨g6 r hr, g9 r hr⟩) (by simpa using g7) (by simpa using g1)]
      rfl
    refine f31_ok t1 t2 (fun k hk => ?_) (by rw [List.length_map]; omega) (fun c' hc' h8 f1 => ?_) fun c' l o hc' _ => ?_
    · obtain ⟨r, hr, rfl⟩ := List.mem_map.1 hk
      exact rec_tks (hs.nms r hr)
    · rw [el] at hc'
      obtain rfl := Except.ok.inj hc'
      refine f16_ok hn hs ?_
      rw [hc]
      refine bB_t rfl (bB_t rfl (f29_ok (a := c) (b := c) (by omega) ?_))
      rw [eqCls_same]; exact h
    · rw [el] at hc'; cases hc'
  · rw [if_pos hc]
    dsimp only
    refine bB_t (by simpa using hc) (f16_ok hn hs ?_)
    simpa using h
end Go.Eng.N
