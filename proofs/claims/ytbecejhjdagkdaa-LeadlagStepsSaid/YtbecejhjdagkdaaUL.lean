/- Leadlag, pure, 10: what the laws look at once; the three laws. -/
import Derived.Test.YtbecejhjdagkdaaUK
import Derived.Test.YtbecejhjdagkdaaFn3
import Derived.KernelRfl
set_option linter.unusedVariables false
set_option linter.unusedSimpArgs false
namespace Go.Eng.N
open Go Go.Eng
def s0 : Ss := ⟨List.replicate 2 Un.no, -1, 0⟩
def nsA : List Int := List.replicate 101 1
def nsB : List Int := List.replicate 50 2 ++ [1]
def stA (k : Nat) : Ss := sAt 100 10 (fls s0.us) s0 nsA 0 k
def stB (k : Nat) : Ss := sAt 100 10 (fls s0.us) s0 nsB 0 k
theorem newE_0 : newE 2 0 = (s0, false, 0) := rfl
theorem outU_at {rot gap : Int} {s : Ss} {ns : List Int} {now : Int} {m j : Nat} (h : j < m) : (outU rot gap s ns now m)[j]? = some (sAt rot gap (fls s.us) s ns now (j + 1)) := by
  unfold outU
  rw [List.getElem?_map, List.getElem?_range h]; rfl
theorem playA : playE 100 10 s0 nsA 0 = (outU 100 10 s0 nsA 0 101, 0) := by
  unfold playE
  rw [if_neg (by decide +kernel), if_neg (by decide +kernel), if_neg (by decide +kernel), if_pos (by decide +kernel)]; rfl
theorem playB : playE 100 10 s0 nsB 0 = (outU 100 10 s0 nsB 0 51, 0) := by
  unfold playE
  rw [if_neg (by decide +kernel), if_neg (by decide +kernel), if_neg (by decide +kernel), if_pos (by decide +kernel)]; rfl
theorem a100 : runN (stA 100).us = [0] ∧ (stA 100).us.length = 2 := by decide +kernel
theorem a101 : runN (stA 101).us = [1] ∧ (stA 101).us.length = 2 ∧ ((stA 101).us.map Un.run)[0]? = some 100 := by decide +kernel
theorem b6 : shoV 2 (stB 6).us = 1 ∧ (stB 6).us.length = 2 := by decide +kernel
theorem b11 : (runN (stB 11).us).length = 2 ∧ (stB 11).us.length = 2 := by decide +kernel
theorem b51 : runN (stB 51).us = [1] ∧ (stB 51).us.length = 2 ∧ sprV (stB 51).us = (10, 0) ∧ ordN (stB 51).us = [1, 0] := by decide +kernel
theorem c0 : checkV 100 10 s0.us s0.st s0.tu = 0 := by decide +kernel
theorem setRep (a b : Int) (j k : Nat) : List.set ((List.replicate j a ++ List.replicate (k + 1) b).map nic) j (nic a) = (List.replicate (j + 1) a ++ List.replicate k b).map nic := by
  rw [← List.map_set, List.replicate_succ (n := k), set_mid (by simp), List.replicate_succ' (n := j), List.append_assoc]; rfl
theorem getRep (a b : Int) (j k : Nat) : List.getD ((List.replicate j a ++ List.replicate (k + 1) b).map nic) j [] = nic b := by
  rw [List.getD_eq_getElem?_getD, List.getElem?_map, List.replicate_succ, at_mid (by simp)]; rfl
section
variable {a1 a2 a3 a4 a5 a6 : Int} {e1 e2 e3 e4 : List (List PC)} {f1 f2 f3 f4 : Bool} {n1 n2 n3 n4 : Nat}
theorem f8_p10_sp {K : List (List PC) → Prop} (h : K (nsA.map nic)) : f8_p10 a1 0 101 e1 f1 a2 a3 a4 a5 K (0, List.replicate 101 [pI 0]) := by
  unfold f8_p10
  have e0 : List.replicate 101 [pI 0] = (List.replicate 0 (1 : Int) ++ List.replicate (101 - 0) (0 : Int)).map nic := by simp [nic]
  rw [e0]
  refine LoopP.seq 101 (fun j => ((j : Int), (List.replicate j (1 : Int) ++ List.replicate (101 - j) (0 : Int)).map nic)) rfl (by decide) (fun j hj N hN => ?_) fun N => ?_
  · unfold f8_p10b0
    dsimp only
    obtain ⟨k, hk⟩ : ∃ k, 101 - j = k + 1 := ⟨100 - j, by omega⟩
    have hk2 : 101 - (j + 1) = k := by omega
    rw [hk2] at hN
    rw [hk]
    refine bB_t (ltL hj) ⟨by omega, by simp <;> omega, ?_⟩
    rw [toNat_c, w64_s j (by omega), Nat.zero_add, getRep]
    have e1 : splice (nic 0) 0 [pI 1] = nic 1 := rfl
    rw [e1, setRep]
    exact hN
  · unfold f8_p10b0
    dsimp only
    exact bB_f (stopL 101) h
theorem f8_p26_sp {K : List (List PC) → Prop} (h : K ((List.replicate 50 (2 : Int) ++ List.replicate 51 1).map nic)) : f8_p26 0 101 n1 n2 e1 f1 e2 f2 e3 f3 a1 a2 a3 a4 e4 K (0, nsA.map nic) := by
  unfold f8_p26
  refine LoopP.seq 50 (fun j => ((j : Int), (List.replicate j (2 : Int) ++ List.replicate (101 - j) (1 : Int)).map nic)) rfl (by decide) (fun j hj N hN => ?_) fun N => ?_
  · unfold f8_p26b0
    dsimp only
    obtain ⟨k, hk⟩ : ∃ k, 101 - j = k + 1 := ⟨100 - j, by omega⟩
    have hk2 : 101 - (j + 1) = k := by omega
    rw [hk2] at hN
    rw [hk]
    refine bB_t (decide_eq_true (by omega)) ⟨by omega, by simp <;> omega, ?_⟩
    rw [toNat_c, w64_s j (by omega), Nat.zero_add, getRep]
    have e1 : splice (nic 1) 0 [pI 2] = nic 2 := rfl
    rw [e1, setRep]
    exact hN
  · unfold f8_p26b0
    dsimp only
    exact bB_f (decide_eq_false (by decide)) h
end
theorem f8_ok {K : Bool → Prop} (h : K true) : f8 K := by
  refine ⟨?_⟩
  unfold f8_d
  refine f10_ok fun r hr => ?_
  rw [newE_0] at hr
  subst hr
  dsimp only
  refine ⟨by omega, f8_p10_sp ?_⟩
  have hA : SlP 0 101 (nsA.map nic) (nsA.map nic) := ⟨by decide, rfl⟩
  refine f26_ok hA fun r hr i es hR => ?_
  rw [playA] at hr
  subst hr
  dsimp only at hR ⊢
  rw [outU_len] at hR ⊢
  refine bB_f rfl (bB_f rfl (bB_f rfl ?_))
  unfold f8_p23
  have q100 := hR.atO (outU_at (m := 101) (j := 99) (by omega))
  have q101 := hR.atO (outU_at (m := 101) (j := 100) (by omega))
  have A100 := a100
  have A101 := a101
  unfold stA at A100 A101
  rw [q100.1, q101.1]
  simp only [sc, ext_0, ext_s, ext_z, cS_c, cI_c, cB_c, cL_c, cO_c, oS_c, oI_c, oB_c, oL_c, nilC_c, toNat_c]
  refine ⟨by omega, by omega, ?_⟩
  refine f22_ok (by rw [A100.2]; decide) (f22_ok (by rw [A101.2.1]; decide) ?_)
  rw [A100.1, A101.1]
  refine f8_p26_sp ?_
  have hB : SlP (0 + 0) 51 ((List.replicate 50 (2 : Int) ++ List.replicate 51 1).map nic) (nsB.map nic) := ⟨by decide, rfl⟩
  refine ⟨by omega, f26_ok hB fun r hr i2 es2 hR2 => ?_⟩
  rw [playB] at hr
  subst hr
  dsimp only at hR2 ⊢
  rw [outU_len] at hR2 ⊢
  refine bB_f rfl (bB_f rfl (bB_f rfl (bB_f rfl ?_)))
  unfold f8_p39
  have q6 := hR2.atO (outU_at (m := 51) (j := 5) (by omega))
  have q11 := hR2.atO (outU_at (m := 51) (j := 10) (by omega))
  have q51 := hR2.atO (outU_at (m := 51) (j := 50) (by omega))
  have B6 := b6
  have B11 := b11
  have B51 := b51
  unfold stB at B6 B11 B51
  rw [q6.1, q11.1, q51.1, q101.1]
  simp only [sc, ext_0, ext_s, ext_z, cS_c, cI_c, cB_c, cL_c, cO_c, oS_c, oI_c, oB_c, oL_c, nilC_c, toNat_c]
  refine ⟨by omega, f22_ok (by rw [B51.2.1]; decide) ⟨by omega, f12_ok (by rw [B51.2.1]; decide) ?_⟩⟩
  rw [B51.2.2.1, B51.1]
  have g0 : List.getD ([0].map ixc) 0 [] = [pI 0] := rfl
  have g1 : List.getD ([1].map ixc) 0 [] = [pI 1] := rfl
  rw [g0, g1]
  simp only [ext_0, ext_s, ext_z, cS_c, cI_c, cB_c, cL_c, cO_c, oS_c, oI_c, oB_c, oL_c, nilC_c, toNat_c]
  refine ⟨by decide, bB_t rfl ⟨by decide, bB_t rfl ⟨by omega, ?_⟩⟩⟩
  have gr : List.getD ((sAt 100 10 (fls s0.us) s0 nsA 0 101).us.map Un.c) 0 [] = Un.c ((sAt 100 10 (fls s0.us) s0 nsA 0 101).us[0]'(by rw [A101.2.1]; decide)) := getD_map _ _ _ _
  have gr2 : ((sAt 100 10 (fls s0.us) s0 nsA 0 101).us[0]'(by rw [A101.2.1]; decide)).run = 100 := by
    have := A101.2.2
    rw [List.getElem?_map, List.getElem?_eq_getElem (by rw [A101.2.1]; decide)] at this
    exact Option.some.inj this
  rw [gr]
  simp only [Un.c, ext_0, ext_s, ext_z, cS_c, cI_c, cB_c, cL_c, cO_c, oS_c, oI_c, oB_c, oL_c, nilC_c, toNat_c]
  rw [gr2]
  refine ⟨by rw [List.length_map, A101.2.1]; decide, bB_t rfl (bB_t rfl ⟨by decide, bB_t rfl (bB_t rfl (bB_t rfl ⟨by omega, f24_ok (by rw [B6.2]; decide) ?_⟩))⟩)⟩
  rw [B6.1]
  refine bB_t rfl ⟨by omega, f22_ok (by rw [B11.2]; decide) ?_⟩
  rw [List.length_map, B11.1]
  refine bB_t rfl ⟨by omega, f20_1_ok (by rw [B51.2.1]; decide) fun i3 n3 es3 hr3 => ?_⟩
  rw [B51.2.2.2] at hr3
  have g3 := hr3.atO (j := 0) (x := 1) rfl
  rw [Nat.add_zero] at g3
  rw [g3.1]
  simp only [ixc, ext_0, ext_s, ext_z, cS_c, cI_c, cB_c, cL_c, cO_c, oS_c, oI_c, oB_c, oL_c, nilC_c, toNat_c]
  refine ⟨by omega, bB_t rfl (f14_ok ?_)⟩
  rw [c0]
  exact h
/-! ### The laws -/
section
variable {rot gap : Int} {us : List Un} {f : Bool} {st tu : Int}
theorem f6_ok {need : Int} {fs : List Bool} {fl : Bool} {now : Int} {K : Bool → Prop} (h : K true) : f6 rot gap (us.map Un.c) f st tu need (fs.map fbc) fl now K := by
  refine ⟨?_⟩
  unfold f6_d
  refine f8_ok (bB_f rfl ?_)
  rw [List.length_map]
  refine bB_of (fun _ => h) fun h1 => bB_of (fun _ => h) fun h2 => ?_
  have h1 := of_decide_eq_false h1
  have hl : us.length < 2 ^ 40 := by omega
  unfold f6_p11
  have cmp : f28 rot gap (us.map Un.c) false st tu need (fs.map fbc) fl now (fun es28 full29 n30 n31 n32 => f29 rot gap (us.map Un.c) f st tu need (fs.map fbc) fl now (fun es33 full34 n35 n36 n37 => bB (n32 == n37) (f18 es28 full29 n30 n31 (fun es38 full39 n40 n41 => f17 es38 full39 n40 n41 es33 full34 n35 n36 (fun b42 => K b42))) (K false))) := by
    refine f28_ok (s := ⟨us, st, tu⟩) fun r hr hrl => ?_
    refine f29_ok (s := ⟨us, st, tu⟩) fun r' hr' _ => ?_
    obtain rfl : r = r' := hr.trans hr'.symm
    exact bB_t (by simp) (f18_ok hrl (f17_ok hrl h))
  exact ⟨f15_ok ⟨f9_ok hl ⟨cmp, cmp⟩, f9_ok hl cmp⟩, f15_ok (f9_ok hl cmp)⟩
theorem playE_len {rot gap : Int} {s : Ss} {ns : List Int} {now : Int} : ∀ x ∈ (playE rot gap s ns now).1, x.us.length < 2 ^ 40 := by
  unfold playE
  split
  · simp
  next h1 =>
    split
    · simp
    · split
      · simp
      · split
        next h2 =>
          intro x hx
          have hc := checkV_0 (by simpa using h1)
          have hs := okS_t hc.2
          unfold outU at hx
          obtain ⟨k, hk, rfl⟩ := List.mem_map.1 hx
          have hk := List.mem_range.1 hk
          have ht := timV_t.1 h2.1
          have hG : Gs s.us.length s := Gs.of hc.2
          have g := sAt_gs (rot := rot) (gap := gap) (ns := ns) (now := now) (fs := fls s.us) hG (by unfold fls; simp) ht.1.1 (k + 1) (by omega)
          have := g.len
          omega
        · simp
theorem f4_p20_sp {i n : Nat} {es : List (List PC)} {l : List Ss} (hr : SlR i n es (l.map sc)) (hl : l.length < 2 ^ 40) (hx : ∀ x ∈ l, x.us.length < 2 ^ 40) {K : Bool → Prop} (h : K true) : f4_p19 i n (l.map sc) f es K := by
  unfold f4_p19 f4_p20
  have hn := hr.n
  rw [List.length_map] at hn
  subst hn
  refine LoopP.seq l.length (fun j => (j : Int)) rfl (by omega) (fun j hj N hN => ?_) fun N => ?_
  · unfold f4_p20b0
    have a := hr.atO (List.getElem?_eq_getElem hj)
    have b := hx _ (List.getElem_mem hj)
    refine bB_t (ltL hj) ⟨by omega, ?_⟩
    rw [toNat_c, a.1, getD_map _ _ _ hj, w64_s j (by omega)]
    generalize l[j] = x at b ⊢
    simp only [sc, ext_0, ext_s, ext_z, cS_c, cI_c, cB_c, cL_c, cO_c, oS_c, oI_c, oB_c, oL_c, nilC_c, toNat_c]
    exact ⟨by rw [List.length_map]; omega, f18_ok b (f17_ok b (bB_f rfl hN))⟩
  · unfold f4_p20b0
    exact bB_f (stopL _) h
theorem f4_ok {ns : List Int} {fl : Bool} {now : Int} {K : Bool → Prop} (h : K true) : f4 rot gap (us.map Un.c) f st tu (ns.map nic) fl now K := by
  refine ⟨?_⟩
  unfold f4_d
  refine f8_ok (bB_f rfl ?_)
  rw [List.length_map]
  refine bB_of (fun _ => h) fun h1 => ?_
  have h1 := of_decide_eq_false h1
  have hl : us.length < 2 ^ 40 := by omega
  have go : f4_p11 (ns.map nic) fl now rot gap (us.map Un.c) f st tu (fun b => K b) := by
    unfold f4_p11
    refine f15_ok (f9_ok hl (f26_1_ok (s := ⟨us, st, tu⟩) fun r hr i es hR => f27_ok (s := ⟨us, st, tu⟩) fun r' g hr' => ?_))
    obtain rfl : r = r' := hr.trans hr'.symm
    refine bB_f (by simp) (bB_f (by simp) ?_)
    have hll : r.1.length < 2 ^ 40 := by
      rw [hr]
      unfold playE
      split
      · simp
      · split
        · simp
        · split
          · simp
          · split
            · rw [outU_len]; omega
            · simp
    exact f4_p20_sp hR hll (by rw [hr]; exact playE_len) h
  exact bB_of (fun _ => bB_of (fun _ => h) fun _ => go) fun _ => go
theorem f3_p12_sp {a1 a2 a3 a4 a5 : Int} (hl : us.length < 2 ^ 40) {K0 : Bool → Prop} {K1 : Unit → Prop} (h0 : K0 true) (h1 : K1 ()) : f3_p12 a1 a2 a3 a4 a5 (us.map Un.c) f st tu K0 K1 0 := by
  unfold f3_p12
  refine LoopP.any us (fun u => decide (u.run < -1000000000000) || decide (u.run > 1000000000000)) (A := K0 true) (B := K1 ()) (by omega) (fun _ => h0) (fun _ => h1) (fun j hj N hA hN => ?_) fun N hB => ?_
  · unfold f3_p12b0
    refine bB_t (ltM _ _ hj) ⟨rngM _ _ hj, ?_⟩
    rw [toNat_c, getD_map _ _ _ hj, w64_s j (by omega)]
    generalize us[j] = u at hA hN ⊢
    simp only [Un.c, ext_0, ext_s, ext_z, cS_c, cI_c, cB_c, cL_c, cO_c, oS_c, oI_c, oB_c, oL_c, nilC_c, toNat_c]
    refine bB_of (fun q => hA (by rw [q]; rfl)) fun q => ⟨rngM _ _ hj, bB_of (fun q2 => hA (by rw [q2]; simp)) fun q2 => hN (by rw [q, q2]; rfl)⟩
  · unfold f3_p12b0
    exact bB_f (stopM _ _) hB
theorem f3_ok {n now need : Int} {K : Bool → Prop} (h : K true) : f3 rot gap (us.map Un.c) f st tu n now need K := by
  refine ⟨?_⟩
  unfold f3_d
  refine f8_ok (bB_f rfl ?_)
  rw [List.length_map]
  refine bB_of (fun _ => h) fun h1 => ?_
  have h1 := of_decide_eq_false h1
  have hl : us.length < 2 ^ 40 := by omega
  refine f3_p12_sp hl h ?_
  refine bB_of (fun _ => h) fun _ => ?_
  refine f9_ok hl (f10_ok fun r hr => f11_ok fun r' hr' => ?_)
  obtain rfl : r = r' := hr.trans hr'.symm
  have hrl : r.1.us.length < 2 ^ 40 := by rw [hr]; exact newE_len _ _
  refine f12_ok hl (f13_ok hl (f15_ok (f14_ok (f16_ok ?_))))
  refine bB_t (by simp) (bB_t (by simp) (f18_ok hrl (f17_ok hrl (bB_t rfl (bB_t (by simp) (bB_t (by simp) ?_))))))
  refine f20_1_ok hl fun i1 n1 es1 hr1 => f21_1_ok hl fun i2 n2 es2 hr2 => ?_
  rw [hr1.take, hr2.take]
  refine f19_ok (by rw [ordN_len]; omega) (bB_t rfl (f22_ok hl (f23_1_ok hl fun i3 es3 hr3 => ?_)))
  rw [hr3.take]
  refine f19_ok (by rw [runN_len]; have := cnt_le (fun u : Un => u.on) us; unfold cntO; omega) (bB_t rfl (f24_ok hl (f25_ok hl ?_)))
  rw [show (shoV need us == shoV need us) = true by simp]
  exact h
end
end Go.Eng.N
