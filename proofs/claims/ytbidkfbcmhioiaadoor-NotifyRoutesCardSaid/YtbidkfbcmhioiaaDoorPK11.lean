/- Notify, pure: the law NotifyRoutes. -/
import Derived.Test.YtbidkfbcmhioiaaDoorSO
import Derived.Test.YtbidkfbcmhioiaaDoorPR
import Derived.Test.YtbidkfbcmhioiaaDoorPJ
import Derived.Test.YtbidkfbcmhioiaaDoorFn2
set_option linter.unusedVariables false
set_option linter.unusedSimpArgs false
namespace Go.Eng.N
open Go Go.Eng
structure Ru where
  nm : ByteArray
  pt : ByteArray
  hi : Int
  lo : Int
  db : Int
  off : List Int
  dl : Int
  bk : Int
  cl : ByteArray
def Ru.c (r : Ru) : List PC := [pS r.nm, pS r.pt, pI r.hi, pI r.lo, pI r.db, .sl 1 (r.off.map fun x => [pI x]) false, pI r.dl, pI r.bk, pS r.cl]
def Ru.no : Ru := ⟨⟨#[]⟩, ⟨#[]⟩, 0, 0, 0, [], 0, 0, ⟨#[]⟩⟩
def Cls.no : Cls := ⟨⟨#[]⟩, 0, 0, []⟩
def ruIx (rules : List Ru) (p : ByteArray) : Option Nat := rules.findIdx? fun r => decide (r.pt = p)
def clIx (cs : List Cls) (n : ByteArray) : Option Nat := cs.findIdx? fun c => decide (c.nm = n)
def noteL (c : Cls) (e : Ev) : List Nt := (namesV (dayOf e.at_) (minOf e.at_) (kindIx e.to) c.rs).map fun s => ⟨s, e.no, e.pt, e.at_, e.frm, e.to, e.va, e.vb, c.pri, confB c.acks e.to⟩
def routeR (cs : List Cls) (rules : List Ru) : List Ev → List Nt → Except Int (List Nt)
  | [], acc => .ok acc
  | e :: r, acc => match ruIx rules e.pt with
    | none => .error 3
    | some i => match clIx cs (rules.getD i Ru.no).cl with
      | none => .error 3
      | some k => if timedB e.at_ e.to = true then routeR cs rules r (acc ++ noteL (cs.getD k Cls.no) e) else .error 6
theorem routeR_cons (cs : List Cls) (rules : List Ru) (e : Ev) (r : List Ev) (acc : List Nt) : routeR cs rules (e :: r) acc = match ruIx rules e.pt with
    | none => .error 3
    | some i => match clIx cs (rules.getD i Ru.no).cl with
      | none => .error 3
      | some k => if timedB e.at_ e.to = true then routeR cs rules r (acc ++ noteL (cs.getD k Cls.no) e) else .error 6 := rfl
def chk (c : Cls) : Int := checkV c.nm c.pri c.acks c.rs
def routeV (cs : List Cls) (rules : List Ru) (evs : List Ev) : Except Int (List Nt) := match cs.find? (fun c => decide (chk c ≠ 0)) with
  | some c => .error (chk c)
  | none => routeR cs rules evs []
structure Cs (cs : List Cls) : Prop where
  len : cs.length < 2 ^ 58
  nm : ∀ c ∈ cs, c.nm.size < 2 ^ 59
  sz : ∀ c ∈ cs, Sz c.rs
theorem f77_ok {r : Ru} {f : Bool} {e : Ev} {K : Bool → Int → ByteArray → Int → Int → Int → Int → Int → Prop} (h : K (decide (r.pt = e.pt)) e.no e.pt e.at_ e.frm e.to e.va e.vb) :
    f77 r.nm r.pt r.hi r.lo r.db (r.off.map fun x => [pI x]) f r.dl r.bk r.cl e.no e.pt e.at_ e.frm e.to e.va e.vb K := by
  refine ⟨?_⟩
  unfold f77_d
  rw [beqL]; exact h
theorem f76_ok {rules : List Ru} {f : Bool} (hl : rules.length < 2 ^ 58) {e : Ev} {K : Int → Int → ByteArray → Int → Int → Int → Int → Int → Prop} (h : K (ixI (ruIx rules e.pt)) e.no e.pt e.at_ e.frm e.to e.va e.vb) :
    f76 (rules.map Ru.c) f e.no e.pt e.at_ e.frm e.to e.va e.vb K := by
  refine ⟨?_⟩
  unfold f76_d f76_p4
  refine LoopP.findS (fun j => ((j : Int), e.no, e.pt, e.at_, e.frm, e.to, e.va, e.vb)) rfl rules (fun r => decide (r.pt = e.pt)) (A := fun j => K (j : Int) e.no e.pt e.at_ e.frm e.to e.va e.vb) (B := K (-1) e.no e.pt e.at_ e.frm e.to e.va e.vb) (by omega)
    (fun j hj hq hb => ?_) (fun hq => ?_) (fun j hj N hA hN => ?_) fun N hB => ?_
  · have := findIx (q := fun r : Ru => decide (r.pt = e.pt)) hj hq hb
    unfold ruIx at h; rw [this] at h; exact h
  · have := findNo (q := fun r : Ru => decide (r.pt = e.pt)) hq
    unfold ruIx at h; rw [this] at h; exact h
  · unfold f76_p4b0
    dsimp only
    refine bB_t (ltM _ _ hj) ⟨rngM _ _ hj, ?_⟩
    rw [toNat_c, getD_map _ _ _ hj]
    simp only [Ru.c, ext_0, ext_s, ext_z, cS_c, cI_c, cB_c, cL_c, cO_c, oS_c, oI_c, oB_c, oL_c, nilC_c, toNat_c]
    rw [w64_s j (by omega)]
    exact f77_ok (bB_of hA hN)
  · unfold f76_p4b0
    exact bB_f (stopM _ _) hB
theorem f78_ok {cs : List Cls} {rules : List Ru} {f f2 : Bool} (hl : cs.length < 2 ^ 58) {i : Nat} (hi : i < rules.length) {K : Int → List (List PC) → Bool → Int → Prop} (h : K (ixI (clIx cs (rules.getD i Ru.no).cl)) (rules.map Ru.c) f2 i) :
    f78 (cs.map Cls.c) f (rules.map Ru.c) f2 i K := by
  refine ⟨?_⟩
  rw [getD_in _ _ hi] at h
  unfold f78_d f78_p4
  refine LoopP.findS (fun j => ((j : Int), rules.map Ru.c, f2, (i : Int))) rfl cs (fun c => decide (c.nm = rules[i].cl)) (A := fun j => K (j : Int) (rules.map Ru.c) f2 i) (B := K (-1) (rules.map Ru.c) f2 i) (by omega)
    (fun j hj hq hb => ?_) (fun hq => ?_) (fun j hj N hA hN => ?_) fun N hB => ?_
  · have := findIx (q := fun c : Cls => decide (c.nm = rules[i].cl)) hj hq hb
    unfold clIx at h; rw [this] at h; exact h
  · have := findNo (q := fun c : Cls => decide (c.nm = rules[i].cl)) hq
    unfold clIx at h; rw [this] at h; exact h
  · unfold f78_p4b0
    dsimp only
    refine bB_t (ltM _ _ hj) ⟨rngM _ _ hj, ?_⟩
    rw [toNat_c, getD_map _ _ _ hj]
    simp only [Cls.c, ext_0, ext_s, ext_z, cS_c, cI_c, cB_c, cL_c, cO_c, oS_c, oI_c, oB_c, oL_c, nilC_c, toNat_c]
    rw [w64_s j (by omega)]
    refine ⟨⟨rngM _ _ hi, ?_⟩⟩
    rw [toNat_c, getD_map _ _ _ hi]
    simp only [Ru.c, ext_0, ext_s, ext_z, cS_c, cI_c, cB_c, cL_c, cO_c, oS_c, oI_c, oB_c, oL_c, nilC_c, toNat_c]
    rw [beqL]
    exact bB_of hA hN
  · unfold f78_p4b0
    exact bB_f (stopM _ _) hB
theorem f83_ok {cs : List Cls} {rules : List Ru} {f f2 : Bool} (hl : cs.length < 2 ^ 58) (hl2 : rules.length < 2 ^ 58) {p : ByteArray} {K : Int → Prop} (h : K (ixI ((ruIx rules p).bind fun i => clIx cs (rules.getD i Ru.no).cl))) :
    f83 (cs.map Cls.c) f (rules.map Ru.c) f2 p K := by
  refine ⟨?_⟩
  unfold f83_d f83_p4
  refine LoopP.find rules (fun r => decide (r.pt = p)) (A := fun j => f83_p12 (cs.map Cls.c) f (rules.map Ru.c) f2 (j : Int) (fun n21 => K n21) (fun (_ : Unit) => K (-1)) 0) (B := K (-1)) (by omega)
    (fun j hj hq hb => ?_) (fun hq => ?_) (fun j hj N hA hN => ?_) fun N hB => ?_
  · have := findIx (q := fun r : Ru => decide (r.pt = p)) hj hq hb
    unfold ruIx at h; rw [this] at h
    dsimp only [Option.bind] at h
    rw [getD_in _ _ hj] at h
    unfold f83_p12
    refine LoopP.find cs (fun c => decide (c.nm = rules[j].cl)) (A := fun q => K (q : Int)) (B := K (-1)) (by omega) (fun q hq1 hq2 hq3 => ?_) (fun hq1 => ?_) (fun q hq1 N hA hN => ?_) fun N hB => ?_
    · have := findIx (q := fun c : Cls => decide (c.nm = rules[j].cl)) hq1 hq2 hq3
      unfold clIx at h; rw [this] at h; exact h
    · have := findNo (q := fun c : Cls => decide (c.nm = rules[j].cl)) hq1
      unfold clIx at h; rw [this] at h; exact h
    · unfold f83_p12b0
      refine bB_t (ltM _ _ hq1) ⟨rngM _ _ hq1, ?_⟩
      rw [toNat_c, getD_map _ _ _ hq1]
      simp only [Cls.c, ext_0, ext_s, ext_z, cS_c, cI_c, cB_c, cL_c, cO_c, oS_c, oI_c, oB_c, oL_c, nilC_c, toNat_c]
      refine ⟨rngM _ _ hj, ?_⟩
      rw [getD_map _ _ _ hj]
      simp only [Ru.c, ext_0, ext_s, ext_z, cS_c, cI_c, cB_c, cL_c, cO_c, oS_c, oI_c, oB_c, oL_c, nilC_c, toNat_c]
      rw [beqL, w64_s q (by omega)]
      exact bB_of hA hN
    · unfold f83_p12b0
      exact bB_f (stopM _ _) hB
  · have := findNo (q := fun r : Ru => decide (r.pt = p)) hq
    unfold ruIx at h; rw [this] at h; exact h
  · unfold f83_p4b0
    refine bB_t (ltM _ _ hj) ⟨rngM _ _ hj, ?_⟩
    rw [toNat_c, getD_map _ _ _ hj]
    simp only [Ru.c, ext_0, ext_s, ext_z, cS_c, cI_c, cB_c, cL_c, cO_c, oS_c, oI_c, oB_c, oL_c, nilC_c, toNat_c]
    rw [beqL, w64_s j (by omega)]
    refine bB_of (fun h1 => hN ?_) fun h1 => hA ?_
    · simpa using h1
    · simpa using h1
  · unfold f83_p4b0
    exact bB_f (stopM _ _) hB
theorem noteL_c (c : Cls) (e : Ev) : (noteL c e).map Nt.c = (namesV (dayOf e.at_) (minOf e.at_) (kindIx e.to) c.rs).map (ncells e c.pri (confB c.acks e.to)) := by
  unfold noteL
  rw [List.map_map]
  rfl
theorem noteL_len (c : Cls) (e : Ev) : (noteL c e).length ≤ c.rs.length := by
  unfold noteL
  rw [List.length_map]
  exact names_len ..
theorem chk_none {cs : List Cls} (h : cs.find? (fun c => decide (chk c ≠ 0)) = none) : ∀ c ∈ cs, chk c = 0 := by
  intro c hc
  simpa using List.find?_eq_none.1 h c hc
theorem getD_mem {α : Type} {l : List α} {d : α} {k : Nat} (h : k < l.length) : l.getD k d ∈ l := by rw [getD_in _ _ h]; exact List.getElem_mem h
theorem ix_lt {α : Type} {l : List α} {q : α → Bool} {k : Nat} (h : l.findIdx? q = some k) : k < l.length := (List.findIdx?_eq_some_iff_findIdx_eq.1 h).1
theorem drop_at {α : Type} {l : List α} {j : Nat} (h : j < l.length) : l.drop j = l[j] :: l.drop (j + 1) := List.drop_eq_getElem_cons h
theorem find_chk {cs : List Cls} {j : Nat} (hj : j < cs.length) (hq : decide (chk cs[j] ≠ 0) = true) (hb : ∀ i (hi : i < j), decide (chk (cs[i]'(Nat.lt_trans hi hj)) ≠ 0) = false) : cs.find? (fun c => decide (chk c ≠ 0)) = some cs[j] := by
  rw [List.find?_eq_some_iff_getElem]
  exact ⟨hq, j, hj, rfl, fun i hi => by simpa using hb i hi⟩
theorem f34_ok {cs : List Cls} (hc : Cs cs) {rules : List Ru} (hl : rules.length < 2 ^ 58) {evs : List Ev} (he : evs.length ≤ 12) {f1 f2 f3 : Bool} {K : List (List PC) → Bool → Int → Prop}
    (h1 : ∀ c, routeV cs rules evs = .error c → c ≠ 0 → K [] true c) (h2 : ∀ l, routeV cs rules evs = .ok l → K ((isortL ltN l).map Nt.c) false 0) :
    f34 (cs.map Cls.c) f1 (rules.map Ru.c) f2 (evs.map Ev.c) f3 K := by
  refine ⟨?_⟩
  have hcl := hc.len
  unfold f34_d f34_p4
  rw [List.length_map]
  refine LoopP.find cs (fun c => decide (chk c ≠ 0)) (A := fun j => K [] true (chk (cs.getD j Cls.no))) (B := f34_p20 (cs.map Cls.c) f1 (evs.map Ev.c) f3 (((evs.map Ev.c).length : Nat) : Int) (fun n77 => K [] true n77) (fun i78 n79 es80 => f80 i78 n79 es80 (fun es81 => K (List.take n79 (List.drop i78 es81)) false 0)) (0, 0, 0, (rules.map Ru.c), f2, []))
    (by omega) (fun j hj hq hb => ?_) (fun hq => ?_) (fun j hj N hA hN => ?_) fun N hB => ?_
  · have := find_chk hj hq hb
    unfold routeV at h1; rw [this] at h1
    rw [getD_in _ _ hj]
    exact h1 _ rfl (by simpa using hq)
  · have hno : cs.find? (fun c => decide (chk c ≠ 0)) = none := List.find?_eq_none.2 fun x hx => by simpa using hq x hx
    have hck := chk_none hno
    unfold routeV at h1 h2; rw [hno] at h1 h2
    dsimp only at h1 h2
    unfold f34_p20
    refine LoopP.inv evs.length (fun j x => ∃ acc fl, x.2.2.1 = (j : Int) ∧ x.2.2.2.1 = rules.map Ru.c ∧ x.2.2.2.2.1 = fl ∧ SlR x.1 x.2.1 x.2.2.2.2.2 (acc.map Nt.c) ∧ acc.length ≤ 8 * j ∧ routeR cs rules evs [] = routeR cs rules (evs.drop j) acc) 0 ⟨[], f2, rfl, rfl, rfl, SlR.nil, Nat.zero_le _, rfl⟩ (Nat.zero_le _) (by omega) ?_ ?_
    · rintro j ⟨i, n, x, rs, fl, es⟩ _ hj ⟨acc, fl', rfl, rfl, rfl, hr, ha, heq⟩ N hN
      have hr : SlR i n es _ := hr
      unfold f34_p20b0
      dsimp only
      rw [drop_at hj] at heq
      rw [routeR_cons] at heq
      refine bB_t (ltM _ _ hj) ⟨rngM _ _ hj, ?_⟩
      rw [toNat_c, getD_map _ _ _ hj]
      generalize evs[j] = e at heq ⊢
      simp only [Ev.c, ext_0, ext_s, ext_z, cS_c, cI_c, cB_c, cL_c, cO_c, oS_c, oI_c, oB_c, oL_c, nilC_c, toNat_c]
      rw [w64_s j (by omega)]
      refine f76_ok hl ?_
      cases hi : ruIx rules e.pt with
      | none =>
        rw [hi] at heq
        exact bB_t rfl (h1 3 heq (by decide))
      | some q =>
        rw [hi] at heq
        have hq := ix_lt hi
        refine bB_f (decide_eq_false (by unfold ixI; simp)) (f78_ok (by omega) hq ?_)
        dsimp only at heq
        cases hk : clIx cs (rules.getD q Ru.no).cl with
        | none =>
          rw [hk] at heq
          exact bB_t rfl (h1 3 heq (by decide))
        | some k =>
          rw [hk] at heq
          have hk := ix_lt hk
          refine bB_f (decide_eq_false (by unfold ixI; simp)) (f51_ok ?_)
          dsimp only at heq
          by_cases ht : timedB e.at_ e.to = true
          · rw [if_pos ht] at heq ⊢
            obtain ⟨t1, t2, _⟩ := timed_of ht
            refine bB_f rfl ?_
            unfold ixI
            dsimp only
            have hcm : cs.getD k Cls.no ∈ cs := getD_mem hk
            have hg := check_good (hck _ hcm)
            have hnl := noteL_len (cs.getD k Cls.no) e
            have hnc := noteL_c (cs.getD k Cls.no) e
            rw [getD_in _ _ hk] at hg hnl hnc heq
            refine ⟨rngM _ _ hk, ?_⟩
            rw [toNat_c, getD_map _ _ _ hk]
            generalize cs[k] = c at hg hnl hnc heq ⊢
            simp only [Cls.c, ext_0, ext_s, ext_z, cS_c, cI_c, cB_c, cL_c, cO_c, oS_c, oI_c, oB_c, oL_c, nilC_c, toNat_c]
            refine f55_ok hg.1 hg.2.2.2.1 hg.2.1.1 hg.2.1.2 (e := e) t1 t2 ?_
            rw [← hnc]
            have hn := hr.n
            rw [List.length_map] at hn
            have hg1 := hg.1
            rw [List.length_map]
            refine ⟨hr.len, by omega, by omega, hN _ ⟨acc ++ noteL c e, _, rfl, rfl, rfl, ?_, by rw [List.length_append]; omega, heq⟩⟩
            show SlR 0 (n + (noteL c e).length) (List.drop i es ++ (noteL c e).map Nt.c) _
            refine ⟨?_, ?_⟩
            · rw [hr.drop, List.length_append, List.length_map, List.length_map]; omega
            · rw [hr.drop, List.drop_zero, List.map_append]
          · rw [if_neg ht] at heq ⊢
            exact bB_t rfl (h1 6 heq (by decide))
    · rintro ⟨i, n, x, rs, fl, es⟩ ⟨acc, fl', rfl, rfl, rfl, hr, ha, heq⟩ N
      have hr : SlR i n es _ := hr
      have hn := hr.n
      rw [List.length_map] at hn
      unfold f34_p20b0
      dsimp only
      rw [List.drop_length] at heq
      refine bB_f (stopM _ _) (sn_top (l := acc) (by omega) hr fun es' hr' => ?_)
      rw [hr'.take]
      exact h2 acc heq
  · unfold f34_p4b0
    refine bB_t (ltL hj) ⟨rngM _ _ hj, ?_⟩
    rw [toNat_c, getD_map _ _ _ hj]
    rw [getD_in _ _ hj] at hA
    have hm := List.getElem_mem hj
    generalize cs[j] = c at hA hN hm ⊢
    simp only [Cls.c, ext_0, ext_s, ext_z, cS_c, cI_c, cB_c, cL_c, cO_c, oS_c, oI_c, oB_c, oL_c, nilC_c, toNat_c]
    rw [w64_s j (by omega)]
    refine f16_ok (hc.nm _ hm) (hc.sz _ hm) (bB_of (fun h3 => hA (by unfold chk; simpa using h3)) fun h3 => hN (by unfold chk; simpa using h3))
  · unfold f34_p4b0
    exact bB_f (stopL _) hB
theorem f35_p42_sp {es76 es78 es80 : List (List PC)} {f77 f79 f81 full : Bool} {n84 n87 : Int} {es85 : List (List PC)} {acc : List Nt} {i n : Nat} {es : List (List PC)} (hr : SlR i n es (acc.map Nt.c)) (hn : n < 2 ^ 58) (hs : Srt ltN acc) {x : Nt} (h87 : 0 ≤ n87 ∧ n87 < ((es85.length : Nat) : Int)) (hx : List.getD es85 (Int.toNat n87) [] = x.c) {K : Int → Prop}
    (h : ∀ s t, acc = s ++ t → (∀ y ∈ t, ltN x y = true) → (∀ y ∈ s, ltN x y = false) → K (s.length : Int)) : f35_p42 es76 f77 es78 f79 es80 f81 i n n84 es85 full n87 es K (n : Int) := by
  unfold f35_p42
  have hl := hr.n
  rw [List.length_map] at hl
  refine LoopP.inv acc.length (fun d y => ∃ s t, acc = s ++ t ∧ t.length = d ∧ y = (s.length : Int) ∧ (∀ y ∈ t, ltN x y = true)) 0 ⟨acc, [], by simp, rfl, by rw [hl], fun _ h => by cases h⟩ (Nat.zero_le _) (by omega) ?_ ?_
  · rintro d y _ hd ⟨s, t, rfl, ht, rfl, h1⟩ N hN
    rw [List.length_append] at hd hl
    obtain ⟨T, z, rfl⟩ : ∃ T z, s = T ++ [z] := by
      rcases List.eq_nil_or_concat s with h | ⟨T, z, h⟩
      · subst h; rw [List.length_nil] at hd; omega
      · exact ⟨T, z, by rw [h, List.concat_eq_append]⟩
    rw [List.length_append, List.length_singleton] at hl hd
    have e : T ++ [z] ++ t = T ++ z :: t := by simp
    have az := hr.atO (j := T.length) (x := z) (by rw [e]; exact at_mid rfl)
    unfold f35_p42b0
    rw [List.length_append, List.length_singleton]
    have e1 : w64 (((T.length + 1 : Nat) : Int) - 1) = ((T.length : Nat) : Int) := by rw [w64_sub1 _ (by omega) (by omega), Nat.add_sub_cancel]
    rw [e1]
    refine bB_t (decide_eq_true (by omega)) ⟨by omega, ?_⟩
    rw [toNat_c, az.1]
    simp only [Nt.c, ext_0, ext_s, ext_z, cS_c, cI_c, cB_c, cL_c, cO_c, oS_c, oI_c, oB_c, oL_c, nilC_c, toNat_c]
    refine ⟨h87, ?_⟩
    rw [hx]
    simp only [Nt.c, ext_0, ext_s, ext_z, cS_c, cI_c, cB_c, cL_c, cO_c, oS_c, oI_c, oB_c, oL_c, nilC_c, toNat_c]
    refine bB_of (fun h2 => hN _ ⟨T, z :: t, by simp, by rw [List.length_cons, ht], rfl, fun y hy => ?_⟩) fun h2 => ?_
    · rcases List.mem_cons.1 hy with rfl | hy
      · exact h2
      · exact h1 y hy
    · have := h (T ++ [z]) t rfl h1 (last_all ltN_o (Srt.app.1 hs).1 h2)
      rw [List.length_append, List.length_singleton] at this
      exact this
  · rintro y ⟨s, t, rfl, ht, rfl, h1⟩ N
    rw [List.length_append] at ht
    obtain rfl : s = [] := List.length_eq_zero_iff.1 (by omega)
    unfold f35_p42b0
    exact bB_f (decide_eq_false (by simp)) (h [] t rfl h1 fun _ h => by cases h)
theorem f35_p36_sp {es63 es65 es67 : List (List PC)} {f64 f66 f68 full : Bool} {n71 : Int} {l acc : List Nt} {i n : Nat} {es : List (List PC)} (hr : SlR i n es (acc.map Nt.c)) (hn : acc.length + l.length ≤ 200) (hs : Srt ltN acc) {K : Nat → Nat → List (List PC) → Prop}
    (h : ∀ acc' i n es, SlR i n es (acc'.map Nt.c) → Srt ltN acc' → Stb ltN (acc ++ l) acc' → K i n es) : f35_p36 es63 f64 es65 f66 es67 f68 n71 (l.map Nt.c) full K (i, n, 0, es) := by
  unfold f35_p36
  refine LoopP.inv l.length (fun j x => ∃ acc', x.2.2.1 = (j : Int) ∧ SlR x.1 x.2.1 x.2.2.2 (acc'.map Nt.c) ∧ Srt ltN acc' ∧ Stb ltN (acc ++ l.take j) acc') 0 ⟨acc, rfl, hr, hs, by simp; exact .refl _⟩ (Nat.zero_le _) (by omega) ?_ ?_
  · rintro j ⟨i, n, x, es⟩ _ hj ⟨acc', rfl, hr, hs, ht⟩ N hN
    have hr : SlR i n es _ := hr
    have hl := hr.n
    have htl := ht.len
    rw [List.length_append, List.length_take] at htl
    rw [List.length_map] at hl
    unfold f35_p36b0
    dsimp only
    refine bB_t (ltM _ _ hj) (f35_p42_sp hr (by omega) hs (x := l[j]) (rngM _ _ hj) (by rw [toNat_c, getD_map _ _ _ hj]) fun s t e h1 h2 => ?_)
    subst e
    rw [List.length_append] at hl htl
    refine ⟨by omega, rngM _ _ hj, ?_⟩
    rw [toNat_c, getD_map _ _ _ hj]
    simp only [Nt.c, ext_0, ext_s, ext_z, cS_c, cI_c, cB_c, cL_c, cO_c, oS_c, oI_c, oB_c, oL_c, nilC_c, toNat_c]
    rw [w64_s j (by omega)]
    refine ⟨by omega, ?_⟩
    have hr2 : SlR i n es (s.map Nt.c ++ t.map Nt.c) := by rw [← List.map_append]; exact hr
    have T := hr2.ins3 (x := Nt.c l[j]) (k := (s.length : Int)) (B := 96) (N := fun a b es => N (a, b, ((j + 1 : Nat) : Int), es)) (by rw [List.length_map]) (by omega) (by omega) fun es' hr' => hN _ ⟨s ++ l[j] :: t, rfl, ?_, place_srt ltN_o hs h1 h2, ?_⟩
    · exact ⟨⟨⟨trivial, T.2⟩, ⟨trivial, T.2⟩⟩, ⟨trivial, T.2⟩⟩
    · show SlR 0 (n + 1) es' _
      rw [List.map_append, List.map_cons]; exact hr'
    · rw [List.take_succ_eq_append_getElem hj, ← List.append_assoc]
      exact (ht.app (.refl [l[j]])).trans (place_stb ltN_o h1)
  · rintro ⟨i, n, x, es⟩ ⟨acc', rfl, hr, hs, ht⟩ N
    unfold f35_p36b0
    dsimp only
    rw [List.take_length] at ht
    exact bB_f (stopM _ _) (h acc' _ _ _ hr hs ht)
theorem f35_ok {cs : List Cls} (hc : Cs cs) {rules : List Ru} (hl : rules.length < 2 ^ 58) {evs : List Ev} (he : evs.length ≤ 12) {f1 f2 f3 : Bool} {K : List (List PC) → Bool → Int → Prop}
    (h1 : ∀ c, routeV cs rules evs = .error c → c ≠ 0 → K [] true c) (h2 : ∀ l, routeV cs rules evs = .ok l → l.length ≤ 200 → K ((isortL ltN l).map Nt.c) false 0) :
    f35 (cs.map Cls.c) f1 (rules.map Ru.c) f2 (evs.map Ev.c) f3 K := by
  refine ⟨?_⟩
  have hcl := hc.len
  unfold f35_d f35_p4
  refine LoopP.find cs (fun c => decide (chk c ≠ 0)) (A := fun j => K [] true (chk (cs.getD j Cls.no))) (B := f35_p18 (cs.map Cls.c) f1 (rules.map Ru.c) f2 (evs.map Ev.c) f3 (fun n116 => K [] true n116) (fun i117 n118 es119 => K (List.take n118 (List.drop i117 es119)) false 0) (0, 0, 0, []))
    (by omega) (fun j hj hq hb => ?_) (fun hq => ?_) (fun j hj N hA hN => ?_) fun N hB => ?_
  · have := find_chk hj hq hb
    unfold routeV at h1; rw [this] at h1
    rw [getD_in _ _ hj]
    exact h1 _ rfl (by simpa using hq)
  · have hno : cs.find? (fun c => decide (chk c ≠ 0)) = none := List.find?_eq_none.2 fun x hx => by simpa using hq x hx
    have hck := chk_none hno
    unfold routeV at h1 h2; rw [hno] at h1 h2
    dsimp only at h1 h2
    unfold f35_p18
    refine LoopP.inv evs.length (fun j x => ∃ acc acc', x.2.2.1 = (j : Int) ∧ SlR x.1 x.2.1 x.2.2.2 (acc'.map Nt.c) ∧ Srt ltN acc' ∧ Stb ltN acc acc' ∧ acc.length ≤ 8 * j ∧ routeR cs rules evs [] = routeR cs rules (evs.drop j) acc) 0 ⟨[], [], rfl, SlR.nil, .nil, .refl _, Nat.zero_le _, rfl⟩ (Nat.zero_le _) (by omega) ?_ ?_
    · rintro j ⟨i, n, x, es⟩ _ hj ⟨acc, acc', rfl, hr, hs, hst, ha, heq⟩ N hN
      have hr : SlR i n es _ := hr
      unfold f35_p18b0
      dsimp only
      rw [drop_at hj] at heq
      rw [routeR_cons] at heq
      refine bB_t (ltM _ _ hj) ⟨rngM _ _ hj, ?_⟩
      rw [toNat_c, getD_map _ _ _ hj]
      generalize evs[j] = e at heq ⊢
      have rng := rngM Ev.c evs hj
      simp only [Ev.c, ext_0, ext_s, ext_z, cS_c, cI_c, cB_c, cL_c, cO_c, oS_c, oI_c, oB_c, oL_c, nilC_c, toNat_c]
      cases hi : ruIx rules e.pt with
      | none =>
        rw [hi] at heq
        refine f83_ok (by omega) hl ?_
        rw [hi]
        exact bB_t rfl (h1 3 heq (by decide))
      | some q =>
        rw [hi] at heq
        have hq := ix_lt hi
        dsimp only at heq
        cases hk : clIx cs (rules.getD q Ru.no).cl with
        | none =>
          rw [hk] at heq
          have key : ((ruIx rules e.pt).bind fun i => clIx cs (rules.getD i Ru.no).cl) = none := by rw [hi]; exact hk
          refine f83_ok (by omega) hl ?_
          rw [key]
          exact bB_t rfl (h1 3 heq (by decide))
        | some k =>
          rw [hk] at heq
          have key : ((ruIx rules e.pt).bind fun i => clIx cs (rules.getD i Ru.no).cl) = some k := by rw [hi]; exact hk
          refine f83_ok (by omega) hl ?_
          rw [key]
          have hk := ix_lt hk
          refine bB_f (decide_eq_false (by unfold ixI; simp)) ?_
          dsimp only at heq
          unfold ixI
          dsimp only
          have hcm : cs.getD k Cls.no ∈ cs := getD_mem hk
          have h0 := hck _ hcm
          have hnl := noteL_len (cs.getD k Cls.no) e
          have hnc := noteL_c (cs.getD k Cls.no) e
          have hz1 := hc.nm _ hcm
          have hz2 := hc.sz _ hcm
          rw [getD_in _ _ hk] at h0 hnl hnc heq hz1 hz2
          refine ⟨rngM _ _ hk, ?_⟩
          rw [toNat_c, getD_map _ _ _ hk]
          generalize cs[k] = c at h0 hnl hnc heq hz1 hz2 ⊢
          simp only [Cls.c, ext_0, ext_s, ext_z, cS_c, cI_c, cB_c, cL_c, cO_c, oS_c, oI_c, oB_c, oL_c, nilC_c, toNat_c]
          refine ⟨by rw [List.length_map] at rng ⊢; exact rng, ?_⟩
          rw [w64_s j (by omega)]
          refine f22_ok hz1 hz2 (e := e) fun fl => ?_
          have hg := check_good h0
          unfold chk at h0
          unfold notesV toldV
          rw [if_neg (by rw [h0]; decide)]
          by_cases ht : timedB e.at_ e.to = true
          · rw [if_pos ht] at heq ⊢
            refine bB_f rfl ?_
            dsimp only
            rw [← hnc]
            have hg1 := hg.1
            have hal := hst.len
            refine f35_p36_sp hr (by omega) hs fun acc2 i2 n2 es2 r1 r2 r3 => hN _ ⟨acc ++ noteL c e, acc2, rfl, r1, r2, ?_, by rw [List.length_append]; omega, heq⟩
            exact (hst.app (.refl _)).trans r3
          · rw [if_neg ht] at heq ⊢
            exact bB_t rfl (h1 6 heq (by decide))
    · rintro ⟨i, n, x, es⟩ ⟨acc, acc', rfl, hr, hs, hst, ha, heq⟩ N
      have hr : SlR i n es _ := hr
      unfold f35_p18b0
      dsimp only
      rw [List.drop_length] at heq
      refine bB_f (stopM _ _) ?_
      rw [hr.take, isortL_of ltN_o hs hst]
      exact h2 acc heq (by omega)
  · unfold f35_p4b0
    refine bB_t (ltM _ _ hj) ⟨rngM _ _ hj, ?_⟩
    rw [toNat_c, getD_map _ _ _ hj]
    rw [getD_in _ _ hj] at hA
    have hm := List.getElem_mem hj
    generalize cs[j] = c at hA hN hm ⊢
    simp only [Cls.c, ext_0, ext_s, ext_z, cS_c, cI_c, cB_c, cL_c, cO_c, oS_c, oI_c, oB_c, oL_c, nilC_c, toNat_c]
    rw [w64_s j (by omega)]
    refine f17_ok (hc.nm _ hm) (hc.sz _ hm) (bB_of (fun h3 => hA (by unfold chk; simpa using h3)) fun h3 => hN (by unfold chk; simpa using h3))
  · unfold f35_p4b0
    exact bB_f (stopM _ _) hB
theorem f33_ok {cs : List Cls} (hc : Cs cs) {es : List (List PC)} {evs : List Ev} {f1 f2 f3 : Bool} {K : Bool → Prop} (h : ∀ b, (b = true → cs.length ≤ 8 ∧ es.length ≤ 12 ∧ evs.length ≤ 12) → K b) : f33 (cs.map Cls.c) f1 es f2 (evs.map Ev.c) f3 K := by
  refine ⟨?_⟩
  unfold f33_d
  have F := h false (fun h => by cases h)
  refine bB_of (fun _ => F) fun h1 => bB_of (fun _ => F) fun h2 => bB_of (fun _ => F) fun h3 => ?_
  simp only [List.length_map, decide_eq_false_iff_not] at h1 h2 h3
  have G := h true fun _ => ⟨by omega, by omega, by omega⟩
  unfold f33_p7 f33_p8
  refine LoopP.inv cs.length (fun j x => x = (j : Int)) 0 rfl (Nat.zero_le _) (by omega) ?_ ?_
  · rintro j x _ hj rfl N hN
    unfold f33_p8b0
    refine bB_t (ltM _ _ hj) ⟨rngM _ _ hj, ?_⟩
    rw [toNat_c, getD_map _ _ _ hj]
    have hm := hc.sz _ (List.getElem_mem hj)
    generalize cs[j] = c at hm ⊢
    simp only [Cls.c, ext_0, ext_s, ext_z, cS_c, cI_c, cB_c, cL_c, cO_c, oS_c, oI_c, oB_c, oL_c, nilC_c, toNat_c]
    rw [w64_s j (by omega)]
    exact f13_ok hm.len (bB_of (fun _ => F) fun _ => hN _ rfl)
  · rintro x rfl N
    unfold f33_p8b0
    refine bB_f (stopM _ _) ?_
    unfold f33_p18
    refine LoopP.inv evs.length (fun j x => x = (j : Int)) 0 rfl (Nat.zero_le _) (by omega) ?_ ?_
    · rintro j x _ hj rfl N hN
      unfold f33_p18b0
      refine bB_t (ltM _ _ hj) ⟨rngM _ _ hj, ?_⟩
      rw [toNat_c, getD_map _ _ _ hj]
      simp only [Ev.c, ext_0, ext_s, ext_z, cS_c, cI_c, cB_c, cL_c, cO_c, oS_c, oI_c, oB_c, oL_c, nilC_c, toNat_c]
      rw [w64_s j (by omega)]
      exact bB_of (fun _ => F) fun _ => hN _ rfl
    · rintro x rfl N
      unfold f33_p18b0
      exact bB_f (stopM _ _) G
theorem f24_same {l : List Nt} {f1 f2 : Bool} (hl : l.length < 2 ^ 59) {K : Bool → Prop} (h : K true) : f24 (l.map Nt.c) f1 (l.map Nt.c) f2 K := by
  refine ⟨?_⟩
  unfold f24_d
  refine bB_f (by simp) ?_
  unfold f24_p8
  refine LoopP.inv l.length (fun j x => x = (j : Int)) 0 rfl (Nat.zero_le _) hl ?_ ?_
  · rintro j x _ hj rfl N hN
    unfold f24_p8b0
    refine bB_t (ltM _ _ hj) ?_
    rw [toNat_c, getD_map _ _ _ hj]
    have hr2 : 0 ≤ (j : Int) ∧ (j : Int) < ((l.length : Nat) : Int) := by omega
    generalize l[j] = y
    simp only [Nt.c, ext_0, ext_s, ext_z, cS_c, cI_c, cB_c, cL_c, cO_c, oS_c, oI_c, oB_c, oL_c, nilC_c, toNat_c]
    rw [w64_s j (by omega)]
    have hN := hN _ rfl
    simp only [beq_self_eq_true, Bool.not_true, Bool.and_self, bne_self_eq_false, bB]
    simp only [List.length_map]
    repeat' (first | exact hr2 | exact hN | refine ⟨hr2, ?_⟩)
  · rintro x rfl N
    unfold f24_p8b0
    exact bB_f (stopM _ _) h
theorem f11_ok {cs : List Cls} (hc : Cs cs) {rules : List Ru} (hl : rules.length < 2 ^ 58) {evs : List Ev} {f1 f2 f3 : Bool} {K : Bool → Prop} (h : K true) : f11 (cs.map Cls.c) f1 (rules.map Ru.c) f2 (evs.map Ev.c) f3 K := by
  refine ⟨?_⟩
  unfold f11_d
  refine f12_ok (bB_f rfl (f33_ok hc fun b hb => bB_of (fun _ => h) fun h1 => ?_))
  have h2 := hb (by simpa using h1)
  refine f34_ok hc hl h2.2.2 (fun c e hne => ?_) fun l e => ?_
  · refine f35_ok hc hl h2.2.2 (fun c' e' _ => ?_) fun l e' => ?_
    · rw [e] at e'
      obtain rfl := Except.error.inj e'
      exact bB_t (by simp) (f24_same (l := []) (by decide) h)
    · rw [e] at e'; cases e'
  · refine f35_ok hc hl h2.2.2 (fun c' e' _ => ?_) fun l' e' hl' => ?_
    · rw [e] at e'; cases e'
    · rw [e] at e'
      obtain rfl := Except.ok.inj e'
      refine bB_t rfl (f24_same ?_ h)
      have := (isortL_stb ltN_o l).len
      omega
end Go.Eng.N
