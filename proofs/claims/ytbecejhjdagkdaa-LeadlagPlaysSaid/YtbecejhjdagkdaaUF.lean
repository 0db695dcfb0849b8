/- Leadlag, pure, 4: one second. -/
import Derived.Test.YtbecejhjdagkdaaUE
import Derived.Test.YtbecejhjdagkdaaFn2
set_option linter.unusedVariables false
set_option linter.unusedSimpArgs false
namespace Go.Eng.N
open Go Go.Eng
def updU (u : Un) (f : Bool) : Un := ⟨if u.on = true then (if u.run + 1 < 6311433599 then u.run + 1 else 6311433599) else u.run, u.on && !f, f⟩
def setOn (us : List Un) (j : Nat) (b : Bool) : List Un := us.set j ⟨(us.getD j Un.no).run, b, (us.getD j Un.no).fl⟩
theorem setOn_len (us : List Un) (j : Nat) (b : Bool) : (setOn us j b).length = us.length := by unfold setOn; simp
/-- The first k machines of an order are turned on or off. -/
def rotK (t : Int) (ord : List Nat) (us : List Un) : Nat → List Un
  | 0 => us
  | k + 1 => setOn (rotK t ord us k) (ord.getD k 0) (decide ((k : Int) < t))
theorem rotK_len (t : Int) (ord : List Nat) (us : List Un) : ∀ k, (rotK t ord us k).length = us.length
  | 0 => rfl
  | k + 1 => by rw [rotK, setOn_len, rotK_len t ord us k]
/-- Machines are turned off from the last one of an order on, while too many run. -/
def offK (n : Int) (ord : List Nat) : Nat → List Un → List Un
  | 0, us => us
  | k + 1, us => if n < (cntO us : Int) then offK n ord k (setOn us (ord.getD k 0) false) else us
theorem offK_len (n : Int) (ord : List Nat) : ∀ k us, (offK n ord k us).length = us.length
  | 0, _ => rfl
  | k + 1, us => by
    unfold offK
    split
    · rw [offK_len n ord k, setOn_len]
    · rfl
def foff (ord : List Nat) (us : List Un) : Option Nat := ord.findIdx? fun i => !(us.getD i Un.no).on
def capN (need : Int) (w : Nat) : Int := if (if (w : Int) < need then (w : Int) else need) > 0 then (if (w : Int) < need then (w : Int) else need) else 0
def lesI (a : Nat) (n : Int) : Int := if (a : Int) < n then (a : Int) else n
structure Ss where
  us : List Un
  st : Int
  tu : Int
def startU (gap n now : Int) (ord : List Nat) (s : Ss) : Ss :=
  if (cntO s.us : Int) < n ∧ (s.st = -1 ∨ s.st + gap ≤ now) then (match foff ord s.us with
    | some k => ⟨setOn s.us (ord.getD k 0) true, now, s.tu⟩
    | none => s) else s
def stepU (rot gap : Int) (s : Ss) (need : Int) (fs : List Bool) (now : Int) : Ss :=
  let us1 := List.zipWith updU s.us fs
  let ord := ordN us1
  let n := capN need (cntW us1)
  startU gap n now ord (if s.tu + rot ≤ now then ⟨rotK (lesI (cntO us1) n) ord us1 ord.length, s.st, now⟩ else ⟨offK n ord ord.length us1, s.st, s.tu⟩)
structure Gd (u : Un) : Prop where
  lo : 0 ≤ u.run
  hi : u.run ≤ 6311433599
def fbc (b : Bool) : List PC := [pB b]
theorem getD_mem' {l : List Nat} {k : Nat} (h : k < l.length) : l.getD k 0 ∈ l := by rw [getD_in _ _ h]; exact List.getElem_mem h
theorem _root_.Go.Eng.SlR.setOn {i n : Nat} {es : List (List PC)} {us : List Un} (hr : SlR i n es (us.map Un.c)) {j : Nat} (hj : j < us.length) (b : Bool) :
    SlR i n (List.set es (i + j) (splice (List.getD es (i + j) []) 1 [pB b])) ((setOn us j b).map Un.c) := by
  have a := hr.atO (List.getElem?_eq_getElem hj)
  rw [a.1]
  unfold Go.Eng.N.setOn
  rw [getD_in _ _ hj, List.map_set]
  exact hr.set j _
/-- One machine after a second. -/
theorem zip_s {us : List Un} {fs : List Bool} (hl : fs.length = us.length) {j : Nat} (hj : j < us.length) : List.zipWith updU (us.take (j + 1)) (fs.take (j + 1)) = List.zipWith updU (us.take j) (fs.take j) ++ [updU us[j] (fs[j]'(by omega))] := by
  rw [List.take_succ_eq_append_getElem hj, List.take_succ_eq_append_getElem (by omega), List.zipWith_append (by simp; omega)]
  rfl
theorem f42_p19_sp {a1 a2 a3 a4 a5 a6 a7 a8 a9 a10 : Int} {n1 n2 : Nat} {fl : Bool} {fs : List Bool} {i n : Nat} {es : List (List PC)} {p q : List Un} {x : Un} (hr : SlR i n es ((p ++ x :: q).map Un.c)) {j : Nat} (hj : j = p.length) (hf : j < fs.length) {K : List (List PC) → Prop}
    (h : ∀ es', SlR i n es' ((p ++ ⟨x.run, x.on && !fs[j], fs[j]⟩ :: q).map Un.c) → K es') : f42_p19 a1 (fs.map fbc) fl a2 (j : Int) a3 a4 a5 a6 n1 n2 a7 a8 a9 a10 i n es K := by
  unfold f42_p19
  have a := hr.atO (j := j) (x := x) (at_mid hj)
  have hn := a.2.1
  refine ⟨rngM _ _ hf, ?_⟩
  rw [toNat_c, getD_map _ _ _ hf]
  generalize fs[j] = b at h
  simp only [fbc, ext_0, ext_s, ext_z, cS_c, cI_c, cB_c, cL_c, cO_c, oS_c, oI_c, oB_c, oL_c, nilC_c, toNat_c]
  have e1 : splice (List.getD es (i + j) []) 2 [pB b] = Un.c ⟨x.run, x.on, b⟩ := by rw [a.1]; rfl
  rw [e1]
  have h1 : SlR i n (List.set es (i + j) (Un.c ⟨x.run, x.on, b⟩)) ((p ++ ⟨x.run, x.on, b⟩ :: q).map Un.c) := by
    have := hr.set j (Un.c ⟨x.run, x.on, b⟩)
    rwa [← List.map_set, set_mid hj] at this
  have b1 := h1.atO (j := j) (at_mid hj)
  refine ⟨by omega, a.2.2, by omega, ?_⟩
  rw [b1.1]
  simp only [Un.c, ext_0, ext_s, ext_z, cS_c, cI_c, cB_c, cL_c, cO_c, oS_c, oI_c, oB_c, oL_c, nilC_c, toNat_c]
  have fin : ∀ b' : Bool, SlR i n (List.set (List.set es (i + j) (Un.c ⟨x.run, x.on, b⟩)) (i + j) (Un.c ⟨x.run, b', b⟩)) ((p ++ ⟨x.run, b', b⟩ :: q).map Un.c) := fun b' => by
    have := h1.set j (Un.c ⟨x.run, b', b⟩)
    rwa [← List.map_set, set_mid hj] at this
  refine bB_of (fun h2 => ⟨rngM _ _ hf, by omega, by rw [List.length_set]; exact a.2.2, h _ ?_⟩) fun h2 => ⟨by omega, by rw [List.length_set]; exact a.2.2, h _ ?_⟩
  · have := fin (!b)
    rw [h2] at this ⊢
    exact this
  · have := fin false
    rw [h2] at this ⊢
    exact this
theorem f42_p10_sp {a1 a2 a5 a6 a7 a8 a9 a10 : Int} {n1 n2 : Nat} {fl : Bool} {fs : List Bool} {us : List Un} (hf : fs.length = us.length) (hl : us.length < 2 ^ 40) (hg : ∀ u ∈ us, Gd u) {i n : Nat} {es : List (List PC)} (hr : SlR i n es (us.map Un.c)) {K : List (List PC) → Prop}
    (h : ∀ es', SlR i n es' ((List.zipWith updU us fs).map Un.c) → K es') : f42_p10 a1 (fs.map fbc) fl a2 (n : Int) a5 a6 n1 n2 a7 a8 a9 a10 i n K (0, es) := by
  unfold f42_p10
  have hn := hr.n
  rw [List.length_map] at hn
  refine LoopP.inv n (fun j x => x.1 = (j : Int) ∧ SlR i n x.2 ((List.zipWith updU (us.take j) (fs.take j) ++ us.drop j).map Un.c)) 0 ⟨rfl, hr⟩ (Nat.zero_le _) (by omega) ?_ ?_
  · rintro j ⟨x, es⟩ _ hj ⟨rfl, hr⟩ N hN
    have hj2 : j < us.length := by omega
    have hzl : (List.zipWith updU (us.take j) (fs.take j)).length = j := by simp; omega
    dsimp only at hr
    rw [List.drop_eq_getElem_cons hj2] at hr
    have a := hr.atO (j := j) (at_mid hzl.symm)
    have hz := zip_s hf hj2
    have g := hg _ (List.getElem_mem hj2)
    unfold f42_p10b0
    dsimp only
    refine bB_t (decide_eq_true (by omega)) ⟨by omega, ?_⟩
    rw [toNat_c, a.1, w64_s j (by omega)]
    generalize us[j] = u at hr a hz g ⊢
    have g1 := g.lo
    have g2 := g.hi
    have e1 : ∀ r, splice (Un.c u) 0 [pI r] = Un.c ⟨r, u.on, u.fl⟩ := fun r => rfl
    simp only [e1]
    simp only [Un.c, ext_0, ext_s, ext_z, cS_c, cI_c, cB_c, cL_c, cO_c, oS_c, oI_c, oB_c, oL_c, nilC_c, toNat_c]
    have fin : ∀ es', SlR i n es' ((List.zipWith updU (us.take j) (fs.take j) ++ updU u (fs[j]'(by omega)) :: us.drop (j + 1)).map Un.c) → N (((j + 1 : Nat) : Int), es') := fun es' hr' => hN _ ⟨rfl, by
      rw [hz, List.append_assoc]; exact hr'⟩
    refine bB_of (fun h1 => ⟨by omega, by omega, a.2.2, ?_⟩) fun h1 => ?_
    · rw [w64_in (by omega) (by omega)]
      have ew : (if (6311433599 : Int) < u.run + 1 then 6311433599 else u.run + 1) = (if u.run + 1 < 6311433599 then u.run + 1 else 6311433599) := by split <;> split <;> omega
      rw [ew]
      have h2 : SlR i n (List.set es (i + j) (Un.c ⟨(if u.run + 1 < 6311433599 then u.run + 1 else 6311433599), u.on, u.fl⟩)) ((List.zipWith updU (us.take j) (fs.take j) ++ ⟨(if u.run + 1 < 6311433599 then u.run + 1 else 6311433599), u.on, u.fl⟩ :: us.drop (j + 1)).map Un.c) := by
        have := hr.set j (Un.c ⟨(if u.run + 1 < 6311433599 then u.run + 1 else 6311433599), u.on, u.fl⟩)
        rwa [← List.map_set, set_mid hzl.symm] at this
      refine f42_p19_sp h2 hzl.symm (by omega) fun es' hr' => fin es' ?_
      unfold updU
      rw [if_pos h1]
      exact hr'
    · refine f42_p19_sp hr hzl.symm (by omega) fun es' hr' => fin es' ?_
      unfold updU
      rw [if_neg (by rw [h1]; decide)]
      exact hr'
  · rintro ⟨x, es⟩ ⟨rfl, hr⟩ N
    unfold f42_p10b0
    dsimp only at hr ⊢
    have e1 : us.take n = us := List.take_of_length_le (by omega)
    have e2 : fs.take n = fs := List.take_of_length_le (by omega)
    have e3 : us.drop n = [] := List.drop_eq_nil_of_le (by omega)
    rw [e1, e2, e3, List.append_nil] at hr
    exact bB_f (decide_eq_false (Int.lt_irrefl _)) (h es hr)
theorem ord_at {ord : List Nat} {oi on : Nat} {oe : List (List PC)} (ho : SlR oi on oe (ord.map ixc)) {k : Nat} (hk : k < ord.length) : List.getD oe (oi + k) [] = [pI ((ord.getD k 0 : Nat) : Int)] ∧ k < on := by
  have a := ho.atO (List.getElem?_eq_getElem hk)
  rw [getD_in _ _ hk]
  exact ⟨a.1, a.2.1⟩
section
variable {us : List Un} {ord : List Nat} {i n oi on : Nat} {es oe : List (List PC)} {a1 a2 a3 a4 a5 a6 a7 a8 a9 : Int} {n1 n2 n3 n4 : Nat}
theorem f42_p34_sp (ho : SlR oi on oe (ord.map ixc)) (hol : ord.length < 2 ^ 40) (hlt : ∀ x ∈ ord, x < us.length) (hr : SlR i n es (us.map Un.c)) {t : Int} {K : List (List PC) → Prop}
    (h : ∀ es', SlR i n es' ((rotK t ord us ord.length).map Un.c) → K es') : f42_p34 a1 a2 n1 n2 t oi on (on : Int) a3 a4 n3 n4 a5 a6 a7 a8 i n oe K (0, es) := by
  unfold f42_p34
  have hon := ho.n
  rw [List.length_map] at hon
  refine LoopP.inv ord.length (fun j x => x.1 = (j : Int) ∧ SlR i n x.2 ((rotK t ord us j).map Un.c)) 0 ⟨rfl, hr⟩ (Nat.zero_le _) (by omega) ?_ ?_
  · rintro j ⟨x, es⟩ _ hj ⟨rfl, hr⟩ N hN
    have a := ord_at ho hj
    have hx : ord.getD j 0 < (rotK t ord us j).length := by rw [rotK_len]; exact hlt _ (getD_mem' hj)
    dsimp only at hr
    have hn := hr.n
    rw [List.length_map] at hn
    have hr2 := hr.setOn hx (decide ((j : Int) < t))
    unfold f42_p34b0
    dsimp only
    refine bB_t (decide_eq_true (by omega)) ⟨by omega, ?_⟩
    rw [toNat_c, a.1, w64_s j (by omega)]
    simp only [ext_0, ext_s, ext_z, cS_c, cI_c, cB_c, cL_c, cO_c, oS_c, oI_c, oB_c, oL_c, nilC_c, toNat_c]
    exact ⟨by omega, by have := hr.len; omega, hN _ ⟨rfl, hr2⟩⟩
  · rintro ⟨x, es⟩ ⟨rfl, hr⟩ N
    unfold f42_p34b0
    dsimp only
    exact bB_f (decide_eq_false (by omega)) (h es hr)
theorem f42_p46_sp (ho : SlR oi on oe (ord.map ixc)) (hol : ord.length < 2 ^ 40) (hl : us.length < 2 ^ 40) (hlt : ∀ x ∈ ord, x < us.length) (hr : SlR i n es (us.map Un.c)) {m : Int} {K : List (List PC) → Prop}
    (h : ∀ es', SlR i n es' ((offK m ord ord.length us).map Un.c) → K es') : f42_p46 a1 m oi on a3 a4 i n a5 a6 a7 a8 i n oe K (((ord.length : Nat) : Int) - 1, es) := by
  unfold f42_p46
  have hon := ho.n
  rw [List.length_map] at hon
  refine LoopP.inv ord.length (fun d x => ∃ k us' es, d + k = ord.length ∧ x = (((k : Nat) : Int) - 1, es) ∧ us'.length = us.length ∧ SlR i n es (us'.map Un.c) ∧ offK m ord k us' = offK m ord ord.length us) 0 ⟨ord.length, us, es, Nat.zero_add _, rfl, rfl, hr, rfl⟩ (Nat.zero_le _) (by omega) ?_ ?_
  · rintro d x _ hd ⟨k, us', es, hk, rfl, hl', hr, he⟩ N hN
    obtain ⟨k, rfl⟩ : ∃ k', k = k' + 1 := ⟨k - 1, by omega⟩
    have e1 : ((k + 1 : Nat) : Int) - 1 = (k : Int) := by omega
    rw [e1]
    unfold f42_p46b0
    dsimp only
    refine bB_t (decide_eq_true (by omega)) ?_
    rw [hr.take]
    refine f39_1_ok (by omega) (bB_of (fun h1 => ?_) fun h1 => ?_)
    · have a := ord_at ho (k := k) (by omega)
      have hx : ord.getD k 0 < us'.length := by rw [hl']; exact hlt _ (getD_mem' (by omega))
      have hn := hr.n
      rw [List.length_map] at hn
      have hr2 := hr.setOn hx false
      unfold f42_p51
      refine ⟨by omega, ?_⟩
      rw [toNat_c, a.1]
      simp only [ext_0, ext_s, ext_z, cS_c, cI_c, cB_c, cL_c, cO_c, oS_c, oI_c, oB_c, oL_c, nilC_c, toNat_c]
      refine ⟨by omega, by have := hr.len; omega, hN _ ⟨k, _, _, by omega, ?_, by rw [setOn_len]; exact hl', hr2, ?_⟩⟩
      · rw [w64_in (by omega) (by omega)]
      · rw [← he, offK, if_pos (by simpa using h1)]
    · refine h es ?_
      rw [offK, if_neg (by simpa using h1)] at he
      rw [← he]; exact hr
  · rintro x ⟨k, us', es, hk, rfl, hl', hr, he⟩ N
    obtain rfl : k = 0 := by omega
    unfold f42_p46b0
    dsimp only
    refine bB_f (decide_eq_false (by omega)) (h es ?_)
    rw [← he]; exact hr
theorem f49_ok {f : Bool} (hol : ord.length < 2 ^ 40) (hlt : ∀ x ∈ ord, x < us.length) (hu : SlP i n es (us.map Un.c)) {K : Int → Nat → Nat → List (List PC) → Prop} (h : K (ixI (foff ord us)) i n es) : f49 (ord.map ixc) f i n es K := by
  refine ⟨?_⟩
  unfold f49_d f49_p4
  rw [List.length_map]
  refine LoopP.findS (fun j => ((j : Int), i, n, es)) rfl ord (fun x => !(us.getD x Un.no).on) (A := fun j => K (j : Int) i n es) (B := K (-1) i n es) (by omega) (fun j hj hq hb => ?_) (fun hq => ?_) (fun j hj N hA hN => ?_) fun N hB => ?_
  · have := findIx (q := fun x : Nat => !(us.getD x Un.no).on) hj hq hb
    unfold foff at h; rw [this] at h; exact h
  · have := findNo (q := fun x : Nat => !(us.getD x Un.no).on) hq
    unfold foff at h; rw [this] at h; exact h
  · unfold f49_p4b0
    dsimp only
    refine bB_t (ltL hj) ⟨rngM _ _ hj, ?_⟩
    have hx := hlt _ (List.getElem_mem hj)
    have a := hu.atP hx
    rw [toNat_c, getD_map _ _ _ hj, w64_s j (by omega)]
    rw [getD_in _ _ hx] at hA hN
    generalize ord[j] = x at hx a hA hN ⊢
    simp only [ixc, ext_0, ext_s, ext_z, cS_c, cI_c, cB_c, cL_c, cO_c, oS_c, oI_c, oB_c, oL_c, nilC_c, toNat_c]
    refine ⟨⟨by omega, ?_⟩⟩
    rw [toNat_c, a.1]
    simp only [Un.c, ext_0, ext_s, ext_z, cS_c, cI_c, cB_c, cL_c, cO_c, oS_c, oI_c, oB_c, oL_c, nilC_c, toNat_c]
    exact bB_of hA hN
  · unfold f49_p4b0
    exact bB_f (stopL _) hB
theorem foff_some (hall : ∀ j, j < us.length → j ∈ ord) {m : Int} (h1 : (cntO us : Int) < m) (h2 : m ≤ us.length) : ∃ k, foff ord us = some k ∧ k < ord.length := by
  cases hf : foff ord us with
  | some k => exact ⟨k, rfl, (List.findIdx?_eq_some_iff_findIdx_eq.1 hf).1⟩
  | none =>
    exfalso
    unfold foff at hf
    rw [List.findIdx?_eq_none_iff] at hf
    have : cntO us = us.length := by
      unfold cntO
      rw [List.countP_eq_length]
      intro u hu
      obtain ⟨j, hj, rfl⟩ := List.getElem_of_mem hu
      have := hf j (hall j hj)
      rw [getD_in _ _ hj] at this
      simpa using this
    omega
theorem f42_p53_sp {ss : Ss} (hss : ss.us = us) (ho : SlR oi on oe (ord.map ixc)) (hol : ord.length < 2 ^ 40) (hl : us.length < 2 ^ 40) (hlt : ∀ x ∈ ord, x < us.length) (hall : ∀ j, j < us.length → j ∈ ord) (hr : SlR i n es (us.map Un.c)) {m gap now : Int} (hm : m ≤ us.length)
    (h1 : -1 ≤ ss.st) (h2 : ss.st ≤ 6311433599) (h3 : 0 ≤ gap) (h4 : gap ≤ 3600) {K : Int → List (List PC) → Prop}
    (h : ∀ es', SlR i n es' ((startU gap m now ord ss).us.map Un.c) → K (startU gap m now ord ss).st es') : f42_p53 now m oi on a3 gap i n ss.st a4 n1 n2 i n oe es K := by
  subst hss
  unfold f42_p53
  rw [hr.take]
  have hon := ho.n
  rw [List.length_map] at hon
  have ew : w64 (ss.st + gap) = ss.st + gap := w64_in (by omega) (by omega)
  unfold startU at h
  refine f39_1_ok (by omega) (bB_of (fun k1 => ?_) fun k1 => ?_)
  · have k1 : (cntO ss.us : Int) < m := by simpa using k1
    obtain ⟨k, hk, hkl⟩ := foff_some hall k1 hm
    have go : (ss.st = -1 ∨ ss.st + gap ≤ now) → f49 (List.take on (List.drop oi oe)) false i n es (fun n100 i101 n102 es103 => (0 ≤ n100 ∧ n100 < ((on : Nat) : Int)) ∧ oI .i64 (ext (List.getD oe (oi + (Int.toNat n100)) []) 0 1) fun n104 => (0 ≤ n104 ∧ n104 < ((n102 : Nat) : Int)) ∧ (i101 + (Int.toNat n104)) < es103.length ∧ K now (List.set es103 (i101 + (Int.toNat n104)) (splice (List.getD es103 (i101 + (Int.toNat n104)) []) 1 [pB true]))) := by
      intro hc
      rw [if_pos ⟨k1, hc⟩, hk] at h
      rw [ho.take]
      refine f49_ok hol hlt hr.p ?_
      rw [hk]
      have a := ord_at ho hkl
      have hx := hlt _ (getD_mem' hkl)
      have hn := hr.n
      rw [List.length_map] at hn
      refine ⟨by unfold ixI; dsimp only; omega, ?_⟩
      unfold ixI
      dsimp only
      rw [toNat_c, a.1]
      simp only [ext_0, ext_s, ext_z, cS_c, cI_c, cB_c, cL_c, cO_c, oS_c, oI_c, oB_c, oL_c, nilC_c, toNat_c]
      exact ⟨by omega, by have := hr.len; omega, h _ (hr.setOn hx true)⟩
    refine bB_of (fun k2 => go (.inl (by simpa using k2))) fun k2 => ?_
    rw [ew]
    refine bB_of (fun k3 => go (.inr (by simpa using k3))) fun k3 => ?_
    rw [if_neg (by rintro ⟨_, q | q⟩; · simp [q] at k2
                   · simp at k3; omega)] at h
    exact h _ hr
  · have k1 : ¬ (cntO ss.us : Int) < m := by simpa using k1
    rw [if_neg (fun hc => k1 hc.1)] at h
    exact h _ hr
end
theorem capN_le (need : Int) (w : Nat) : capN need w ≤ w ∧ 0 ≤ capN need w := by
  unfold capN
  split <;> split <;> (constructor <;> omega)
theorem zip_len {us : List Un} {fs : List Bool} (hf : fs.length = us.length) : (List.zipWith updU us fs).length = us.length := by simp; omega
theorem f42_ok {s : Ss} {fs : List Bool} {full fl : Bool} (hf : fs.length = s.us.length) (hl : s.us.length < 2 ^ 40) (hg : ∀ u ∈ s.us, Gd u) {rot gap need now : Int} (h1 : -1 ≤ s.st) (h2 : s.st ≤ 6311433599) (h3 : 0 ≤ s.tu) (h4 : s.tu ≤ 6311433599) (h5 : 1 ≤ rot) (h6 : rot ≤ 2678400) (h7 : 0 ≤ gap) (h8 : gap ≤ 3600)
    {K : List (List PC) → Bool → Int → Int → Prop} (h : K ((stepU rot gap s need fs now).us.map Un.c) false (stepU rot gap s need fs now).st (stepU rot gap s need fs now).tu) :
    f42 rot gap (s.us.map Un.c) full s.st s.tu need (fs.map fbc) fl now K := by
  refine ⟨?_⟩
  unfold f42_d
  rw [List.length_map, toNat_c]
  refine ⟨by omega, by simp, ?_⟩
  have e0 : splice (List.replicate s.us.length [pI 0, pB false, pB false]) 0 (List.take s.us.length (s.us.map Un.c)) = s.us.map Un.c := by
    rw [List.take_of_length_le (by simp)]
    simp [splice]
  rw [e0]
  have hr0 : SlR 0 s.us.length (s.us.map Un.c) (s.us.map Un.c) := ⟨by simp, rfl⟩
  refine f42_p10_sp hf hl hg hr0 fun es1 hr1 => ?_
  have hzl := zip_len hf
  have hq : ∀ es', SlR 0 s.us.length es' (es' : List (List PC)) → True := fun _ _ => trivial
  rw [hr1.take]
  unfold stepU at h
  dsimp only at h
  generalize hus : List.zipWith updU s.us fs = us1 at hr1 h hzl
  refine f39_ok (by omega) (f20_ok hr1.p (by omega) fun oi on oe ho => ?_)
  have hlt : ∀ x ∈ ordN us1, x < us1.length := fun x hx => ordN_lt hx
  have hall : ∀ j, j < us1.length → j ∈ ordN us1 := fun j hj => (ordN_perm us1).mem_iff.2 (List.mem_range.2 hj)
  have hol := ordN_len us1
  have hon := ho.n
  rw [List.length_map] at hon
  have hcap := capN_le need (cntW us1)
  have hcw : cntW us1 ≤ us1.length := cnt_le _ _
  have ew : w64 (s.tu + rot) = s.tu + rot := w64_in (by omega) (by omega)
  rw [ew]
  change bB (decide (now ≥ s.tu + rot)) _ _
  refine bB_of (fun k1 => ?_) fun k1 => ?_
  · have k1 : s.tu + rot ≤ now := by simpa using k1
    rw [if_pos k1] at h
    rw [hr1.take]
    refine f39_1_ok (by omega) ?_
    refine f42_p34_sp ho (by omega) hlt hr1 fun es2 hr2 => ?_
    have hrl := rotK_len (lesI (cntO us1) (capN need (cntW us1))) (ordN us1) us1 (ordN us1).length
    refine f42_p53_sp (ss := ⟨rotK (lesI (cntO us1) (capN need (cntW us1))) (ordN us1) us1 (ordN us1).length, s.st, now⟩) rfl ho (by omega) (by rw [hrl]; omega) (fun x hx => by rw [hrl]; exact hlt x hx) (fun j hj => hall j (by rw [hrl] at hj; exact hj)) hr2 (m := capN need (cntW us1)) (by rw [hrl]; omega) h1 h2 h7 h8 fun es3 hr3 => ?_
    rw [hr3.take]
    have etu : (startU gap (capN need (cntW us1)) now (ordN us1) ⟨rotK (lesI (cntO us1) (capN need (cntW us1))) (ordN us1) us1 (ordN us1).length, s.st, now⟩).tu = now := by
      unfold startU
      split
      · split <;> rfl
      · rfl
    rw [etu] at h
    exact h
  · have k1 : ¬ s.tu + rot ≤ now := by simpa using k1
    rw [if_neg k1] at h
    have ew2 : w64 (((on : Nat) : Int) - 1) = (((ordN us1).length : Nat) : Int) - 1 := by rw [w64_in (by omega) (by omega), hon]
    rw [ew2]
    refine f42_p46_sp ho (by omega) (by omega) hlt hr1 (m := capN need (cntW us1)) fun es2 hr2 => ?_
    have hrl := offK_len (capN need (cntW us1)) (ordN us1) (ordN us1).length us1
    refine f42_p53_sp (ss := ⟨offK (capN need (cntW us1)) (ordN us1) (ordN us1).length us1, s.st, s.tu⟩) rfl ho (by omega) (by rw [hrl]; omega) (fun x hx => by rw [hrl]; exact hlt x hx) (fun j hj => hall j (by rw [hrl] at hj; exact hj)) hr2 (m := capN need (cntW us1)) (by rw [hrl]; omega) h1 h2 h7 h8 fun es3 hr3 => ?_
    rw [hr3.take]
    have etu : (startU gap (capN need (cntW us1)) now (ordN us1) ⟨offK (capN need (cntW us1)) (ordN us1) (ordN us1).length us1, s.st, s.tu⟩).tu = s.tu := by
      unfold startU
      split
      · split <;> rfl
      · rfl
    rw [etu] at h
    exact h
end Go.Eng.N
