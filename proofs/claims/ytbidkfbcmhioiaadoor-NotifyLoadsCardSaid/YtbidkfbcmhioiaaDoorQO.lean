/- Notify, pure: how much room lines take. -/
import Derived.Test.YtbidkfbcmhioiaaDoorQN
import Derived.Test.YtbidkfbcmhioiaaDoorFn3
set_option linter.unusedVariables false
set_option linter.unusedSimpArgs false
namespace Go.Eng.N
open Go Go.Eng
/-- A line's cells. -/
inductive IsLn : List PC → Prop
  | mk (ts : List Tk) (f hd : Bool) (ks : List (List PC)) (g : Bool) (la : Int) : Tks ts → ts.length < 2 ^ 58 → ks.length < 2 ^ 58 → (∀ x ∈ ks, IsLn x) → IsLn [.sl 4 (ts.map Tk.c) f, pB hd, .sl 4 ks g, pI la]
theorem f64_sp : ∀ (d : Nat) {n : Int} {ts : List Tk} {f hd g : Bool} {ks : List (List PC)} {la : Int}, 0 ≤ n → n ≤ d → d ≤ 1000 → ts.length < 2 ^ 58 → ks.length < 2 ^ 58 → (∀ x ∈ ks, IsLn x) → ∀ {K : Int → Prop}, (∀ m, -1 ≤ m → m ≤ n - 1 → K m) → f64_n (d + 1) (ts.map Tk.c) f hd ks g la n K := by
  intro d
  induction d with
  | zero =>
    intro n ts f hd g ks la h0 h1 _ hl hkl hk K h
    obtain rfl : n = 0 := by omega
    show f64_d (f64_n 0) (ts.map Tk.c) f hd ks g la 0 K
    unfold f64_d
    rw [List.length_map, show w64 (0 - 1) = -1 by decide, w64_in (by omega) (by omega)]
    unfold f64_p6
    refine LoopP.inv 0 (fun j x => x = 0) 0 rfl (Nat.le_refl _) (by decide) (fun j x _ hj => by omega) ?_
    rintro x rfl N
    unfold f64_p6b0
    refine bB_of (fun _ => bB_f (by simp; omega) ?_) fun _ => ?_
    all_goals
      unfold f64_p16
      refine LoopP.inv 0 (fun j x => x = (-1 - (ts.length : Int), 0)) 0 rfl (Nat.le_refl _) (by decide) (fun j x _ hj => by omega) ?_
      rintro x rfl N
      unfold f64_p16b0
      dsimp only
      have e : K (if (-1 : Int) > -1 - (ts.length : Int) then -1 else -1 - (ts.length : Int)) := by
        split
        · exact h _ (by omega) (by omega)
        · exact h _ (by omega) (by omega)
      exact bB_of (fun _ => bB_f (by simp; omega) e) fun _ => e
  | succ d ih =>
    intro n ts f hd g ks la h0 h1 hd2 hl hkl hk K h
    show f64_d (f64_n (d + 1)) (ts.map Tk.c) f hd ks g la n K
    unfold f64_d
    rw [List.length_map, w64_in (n := n - 1) (by omega) (by omega), w64_in (by omega) (by omega)]
    have hks : (f64_p16 (f64_n (d + 1))) (ts.map Tk.c) f hd ks g la (fun n57 => K (if (-1 : Int) > n57 then (-1) else n57)) (n - 1 - (ts.length : Int), 0) := by
      unfold f64_p16
      refine LoopP.inv ks.length (fun j x => x.2 = (j : Int) ∧ x.1 ≤ n - 1 ∧ -2 ^ 60 ≤ x.1) 0 ⟨rfl, by simp; omega, by simp; omega⟩ (Nat.zero_le _) (by omega) ?_ ?_
      · rintro j ⟨v, x⟩ _ hj ⟨rfl, hv, hv2⟩ N hN
        unfold f64_p16b0
        dsimp only at hv hv2 ⊢
        have e : K (if (-1 : Int) > v then -1 else v) := by
          split
          · exact h _ (by omega) (by omega)
          · exact h _ (by omega) (by omega)
        refine bB_of (fun _ => bB_of (fun hp => ?_) fun _ => e) fun _ => e
        have hp : 0 ≤ v := by simpa using hp
        unfold f64_p21
        refine ⟨rngL _ hj, ?_⟩
        rw [toNat_c, getD_in _ _ hj]
        have hx := hk _ (List.getElem_mem hj)
        generalize ks[j] = c at hx ⊢
        obtain ⟨ts2, f2, hd3, ks2, g2, la2, t1, t2, t3, t4⟩ := hx
        simp only [ext_0, ext_s, ext_z, cS_c, cI_c, cB_c, cL_c, cO_c, oS_c, oI_c, oB_c, oL_c, nilC_c, toNat_c]
        refine ih hp (by omega) (by omega) t2 t3 t4 fun m m1 m2 => hN _ ⟨w64_s j (by omega), ?_, ?_⟩
        · show m ≤ n - 1; omega
        · show -2 ^ 60 ≤ m; omega
      · rintro ⟨v, x⟩ ⟨rfl, hv, hv2⟩ N
        unfold f64_p16b0
        dsimp only at hv hv2 ⊢
        refine bB_f (stopL _) ?_
        split
        · exact h _ (by omega) (by omega)
        · exact h _ (by omega) (by omega)
    unfold f64_p6
    refine LoopP.inv ts.length (fun j x => x = (j : Int)) 0 rfl (Nat.zero_le _) (by omega) ?_ ?_
    · rintro j x _ hj rfl N hN
      unfold f64_p6b0
      refine bB_t (ltM _ _ hj) (bB_of (fun _ => ?_) fun _ => hks)
      unfold f64_p11
      refine ⟨rngM _ _ hj, ?_⟩
      rw [toNat_c, getD_map _ _ _ hj]
      simp only [Tk.c, ext_0, ext_s, ext_z, cS_c, cI_c, cB_c, cL_c, cO_c, oS_c, oI_c, oB_c, oL_c, nilC_c, toNat_c]
      exact bB_of (fun _ => h _ (by omega) (by omega)) fun _ => hN _ (w64_s j (by omega))
    · rintro x rfl N
      unfold f64_p6b0
      exact bB_f (stopM _ _) hks
theorem f30_ok {ts : List Tk} {f hd g : Bool} {ks : List (List PC)} {la : Int} (hl : ts.length < 2 ^ 58) (hkl : ks.length < 2 ^ 58) (hk : ∀ x ∈ ks, IsLn x) {K : Bool → Prop} (h : ∀ b, K b) : f30 (ts.map Tk.c) f hd ks g la 200 K := by
  refine ⟨?_⟩
  unfold f30_d
  exact ⟨201, f64_sp 200 (by decide) (by decide) (by decide) hl hkl hk fun m _ _ => h _⟩
end Go.Eng.N
