/- Notify, pure: the law NotifyOnce. -/
import Derived.Test.YtbidkfbcmhioiaaDoorPK7
import Derived.Test.YtbidkfbcmhioiaaDoorFn2
set_option linter.unusedVariables false
set_option linter.unusedSimpArgs false
namespace Go.Eng.N
open Go Go.Eng
theorem names_nodup (d : Nat) (m : Int) (k : Nat) : ∀ (rs : List Rc) (acc : List ByteArray), acc.Nodup → (rs.foldl (stepN d m k) acc).Nodup
  | [], acc, h => h
  | r :: rs, acc, h => by
    rw [List.foldl_cons]
    refine names_nodup d m k rs _ ?_
    unfold stepN
    split
    · rename_i hc
      rw [List.nodup_iff_pairwise_ne] at h ⊢
      refine List.pairwise_append.2 ⟨h, List.pairwise_singleton _ _, fun x hx y hy => ?_⟩
      obtain rfl := List.mem_singleton.1 hy
      exact fun e => hc.2 (e ▸ hx)
    · exact h
theorem told_nodup (nm : ByteArray) (pri acks : Int) (rs : List Rc) (t s : Int) : (toldV nm pri acks rs t s).1.Nodup := by
  unfold toldV
  split
  · simp
  · split
    · exact names_nodup _ _ _ rs [] (by simp)
    · simp
/-- A notice's first cell. -/
theorem eqN (s u : ByteArray) (e : Ev) (pri : Int) (cf : Bool) : ((s == u) && ((e.no == e.no) && ((e.pt == e.pt) && ((e.at_ == e.at_) && ((e.frm == e.frm) && ((e.to == e.to) && ((e.va == e.va) && ((e.vb == e.vb) && ((pri == pri) && ((cf == cf) && true)))))))))) = decide (s = u) := by
  rw [beqB]; simp
theorem f8_p14_sp {l : List ByteArray} (hl : l.length ≤ 2 ^ 30) (hnd : l.Nodup) {f1 full : Bool} {n : Int} {nm : ByteArray} {pri acks : Int} {es : List (List PC)} {e : Ev} {cf : Bool} {r : Rc} {K0 : Bool → Prop} {K1 : Unit → Prop}
    (h : K1 ()) : f8_p14 (l.map (ncells e pri cf)) f1 n nm pri acks es full e.no e.pt e.at_ e.frm e.to e.va e.vb r.nm r.days r.fr r.to r.kinds K0 K1 0 := by
  unfold f8_p14
  refine LoopP.inv l.length (fun j x => x = (j : Int)) 0 rfl (Nat.zero_le _) (by omega) ?_ ?_
  · rintro j x _ hj rfl N hN
    unfold f8_p14b0
    refine bB_t (ltM _ _ hj) ⟨rngM _ _ hj, ?_⟩
    have hr := rngM (ncells e pri cf) l hj
    rw [toNat_c, getD_map _ _ _ hj]
    simp only [ncells, Ev.c, List.cons_append, List.nil_append, ext_0, ext_s, ext_z, cS_c, cI_c, cB_c, cL_c, cO_c, oS_c, oI_c, oB_c, oL_c, nilC_c, toNat_c]
    refine bB_f (by simp) ⟨hr, bB_f (by simp) ?_⟩
    unfold f8_p23 f8_p24
    rw [w64_s j (by omega)]
    refine LoopP.inv j (fun k x => x = (k : Int)) 0 rfl (Nat.zero_le _) (by omega) ?_ ?_
    · rintro k x _ hk rfl N2 hN2
      have hk2 : k < l.length := by omega
      unfold f8_p24b0
      refine bB_t (decide_eq_true (by omega)) ⟨hr, ?_⟩
      rw [toNat_c, getD_map _ _ _ hj]
      simp only [ncells, Ev.c, List.cons_append, List.nil_append, ext_0, ext_s, ext_z, cS_c, cI_c, cB_c, cL_c, cO_c, oS_c, oI_c, oB_c, oL_c, nilC_c, toNat_c]
      refine ⟨rngM (ncells e pri cf) l hk2, ?_⟩
      rw [getD_map _ _ _ hk2]
      simp only [ncells, Ev.c, List.cons_append, List.nil_append, ext_0, ext_s, ext_z, cS_c, cI_c, cB_c, cL_c, cO_c, oS_c, oI_c, oB_c, oL_c, nilC_c, toNat_c]
      rw [beqL, w64_s k (by omega)]
      refine bB_f (decide_eq_false fun e => ?_) (hN2 _ rfl)
      exact List.pairwise_iff_getElem.1 (List.nodup_iff_pairwise_ne.1 hnd) k j hk2 hj hk e.symm
    · rintro x rfl N2
      unfold f8_p24b0
      exact bB_f (decide_eq_false (by omega)) (hN _ rfl)
  · rintro x rfl N
    unfold f8_p14b0
    exact bB_f (stopM _ _) h
theorem f8_p41_sp {l l' : List ByteArray} (hl : l.length ≤ 2 ^ 30) {r : Rc} (hll : l' = l ∨ l' = l ++ [r.nm]) {f1 f2 : Bool} {e : Ev} {pri : Int} {cf : Bool} {K : Bool → Prop} (h : K true) :
    f8_p41 (l.map (ncells e pri cf)) f1 (l'.map (ncells e pri cf)) f2 r.nm r.days r.fr r.to r.kinds K := by
  have hlen : l.length ≤ l'.length ∧ l'.length ≤ l.length + 1 := by rcases hll with rfl | rfl <;> simp
  have hpre : ∀ j (hj : j < l.length) (hj' : j < l'.length), l'[j] = l[j] := fun j hj hj' => by
    rcases hll with rfl | rfl
    · rfl
    · rw [List.getElem_append_left hj]
  have m1 : (l.map (ncells e pri cf)).length = l.length := List.length_map _
  have m2 : (l'.map (ncells e pri cf)).length = l'.length := List.length_map _
  unfold f8_p41
  refine bB_f (decide_eq_false (by omega)) (bB_f (decide_eq_false (by rw [w64_in (by omega) (by omega)]; omega)) ?_)
  unfold f8_p45 f8_p46
  refine LoopP.inv l.length (fun j x => x = (j : Int)) 0 rfl (Nat.zero_le _) (by omega) ?_ ?_
  · rintro j x _ hj rfl N hN
    have hj' : j < l'.length := by omega
    unfold f8_p46b0
    refine bB_t (ltM _ _ hj) ⟨rngM _ _ hj, ?_⟩
    rw [toNat_c, getD_map _ _ _ hj]
    simp only [ncells, Ev.c, List.cons_append, List.nil_append, ext_0, ext_s, ext_z, cS_c, cI_c, cB_c, cL_c, cO_c, oS_c, oI_c, oB_c, oL_c, nilC_c, toNat_c]
    refine ⟨rngM (ncells e pri cf) l' hj', ?_⟩
    rw [getD_map _ _ _ hj']
    simp only [ncells, Ev.c, List.cons_append, List.nil_append, ext_0, ext_s, ext_z, cS_c, cI_c, cB_c, cL_c, cO_c, oS_c, oI_c, oB_c, oL_c, nilC_c, toNat_c]
    rw [eqN, hpre j hj hj', w64_s j (by omega)]
    exact bB_f (by simp) (hN _ rfl)
  · rintro x rfl N
    unfold f8_p46b0
    refine bB_f (stopM _ _) (bB_of (fun _ => h) fun h1 => ?_)
    rcases hll with rfl | rfl
    · simp at h1
    · rw [m1]
      refine ⟨by rw [m2, List.length_append, List.length_singleton]; omega, ?_⟩
      rw [toNat_c, getD_map _ _ _ (by simp)]
      simp only [ncells, Ev.c, List.cons_append, List.nil_append, ext_0, ext_s, ext_z, cS_c, cI_c, cB_c, cL_c, cO_c, oS_c, oI_c, oB_c, oL_c, nilC_c, toNat_c]
      rw [beqL, List.getElem_concat_length rfl, decide_eq_true rfl]
      exact h
theorem f8_ok {c : Cls} {full : Bool} (hn : c.nm.size < 2 ^ 59) (hs : Sz c.rs) {e : Ev} {r : Rc} (hr : r.nm.size < 2 ^ 59) {K : Bool → Prop} (h : K true) : f8 c.nm c.pri c.acks (c.rs.map Rc.c) full e.no e.pt e.at_ e.frm e.to e.va e.vb r.nm r.days r.fr r.to r.kinds K := by
  refine ⟨?_⟩
  unfold f8_d
  refine f12_ok (bB_f rfl (f13_ok hs.len (bB_of (fun _ => h) fun _ => bB_of (fun _ => h) fun h1 => bB_of (fun _ => h) fun _ => bB_of (fun _ => h) fun _ => ?_)))
  have hl7 : (c.rs.map Rc.c).length ≤ 7 := by simp only [decide_eq_false_iff_not] at h1; omega
  have hl7' : c.rs.length ≤ 7 := by rwa [List.length_map] at hl7
  unfold f8_p11
  refine f21_ok hn hs fun _ => ?_
  have hlen : (toldV c.nm c.pri c.acks c.rs e.at_ e.to).1.length ≤ 2 ^ 30 := by
    have := told_len c.nm c.pri c.acks c.rs e.at_ e.to
    omega
  refine f8_p14_sp hlen (told_nodup _ _ _ _ _ _) ?_
  have e1 : List.take ((0 + (c.rs.map Rc.c).length) + 1) (List.drop 0 (List.drop 0 (List.drop 0 [] ++ c.rs.map Rc.c) ++ [[pS r.nm, pI r.days, pI r.fr, pI r.to, pI r.kinds]])) = (c.rs ++ [r]).map Rc.c := by
    simp only [List.drop_zero, List.nil_append, List.map_append]
    rw [List.take_of_length_le (by simp)]
    rfl
  rw [e1]
  have hs2 : Sz (c.rs ++ [r]) := ⟨by simp; omega, fun x hx => by
    rcases List.mem_append.1 hx with hx | hx
    · exact hs.nms x hx
    · obtain rfl := List.mem_singleton.1 hx
      exact hr⟩
  have T : f21 c.nm c.pri c.acks ((c.rs ++ [r]).map Rc.c) false e.no e.pt e.at_ e.frm e.to e.va e.vb (fun es124 full125 n126 => bB ((notesV c.nm c.pri c.acks c.rs e).2 != 0) (K true) (bB (n126 != 0) (K true) (f8_p41 (notesV c.nm c.pri c.acks c.rs e).1 ‹Bool› es124 full125 r.nm r.days r.fr r.to r.kinds (fun b198 => K b198)))) := by
    refine f21_ok hn hs2 fun _ => bB_of (fun _ => h) fun h2 => bB_of (fun _ => h) fun h3 => ?_
    have h0 := told_ok (nm := c.nm) (pri := c.pri) (acks := c.acks) (rs := c.rs) (t := e.at_) (s := e.to) (by simpa [notesV] using h2)
    have h0' := told_ok (nm := c.nm) (pri := c.pri) (acks := c.acks) (rs := c.rs ++ [r]) (t := e.at_) (s := e.to) (by simpa [notesV] using h3)
    refine f8_p41_sp hlen ?_ h
    rw [h0.2.2, h0'.2.2]
    unfold namesV
    rw [List.foldl_append]
    simp only [List.foldl_cons, List.foldl_nil]
    unfold stepN
    split
    · exact .inr rfl
    · exact .inl rfl
  have b1 : (0 + (c.rs.map Rc.c).length) * 48 ≤ 2 ^ 46 := by omega
  have b2 : (0 + (c.rs.map Rc.c).length) ≤ 2 ^ 46 := by omega
  have b3 : (0 + (0 + (c.rs.map Rc.c).length)) = (List.drop 0 [] ++ c.rs.map Rc.c).length := by simp
  have b4 : ((0 + (c.rs.map Rc.c).length) + 1) * 48 ≤ 2 ^ 46 := by omega
  have b5 : ((0 + (c.rs.map Rc.c).length) + 1) ≤ 2 ^ 46 := by omega
  repeat' (first | exact T | exact b1 | exact b2 | exact b3 | exact b4 | exact b5 | rfl | refine And.intro ?_ ?_)
end Go.Eng.N
