/- Notify, pure: the reader of tokens, 10: the kids of a class, by the program. -/
import Derived.Test.YtbidkfbcmhioiaaDoorQI
import Derived.Test.YtbidkfbcmhioiaaDoorFn3
set_option linter.unusedVariables false
set_option linter.unusedSimpArgs false
namespace Go.Eng.N
open Go Go.Eng
/-- A line below a class. -/
structure Kid where
  ts : List Tk
  f : Bool
  hd : Bool
  ks : List (List PC)
  g : Bool
  la : Int
def Kid.c (k : Kid) : List PC := [.sl 4 (k.ts.map Tk.c) k.f, pB k.hd, .sl 4 k.ks k.g, pI k.la]
structure KidOk (k : Kid) : Prop where
  tk : Tks k.ts
  len : k.ts.length < 2 ^ 58
  kl : k.ks.length < 2 ^ 59
def loadK : List Kid → List Rc → Except (Int × Int × Int) (List Rc)
  | [], acc => .ok acc
  | k :: r, acc => match kidR k.ts k.hd k.ks.length acc with
    | .error e => .error (e.1, k.la, colV k.ts e.2)
    | .ok x => loadK r (acc ++ [x])
theorem kidR_len {ts : List Tk} {hd : Bool} {nk : Nat} {rs : List Rc} {x : Rc} (h : kidR ts hd nk rs = .ok x) : rs.length < 8 := by
  unfold kidR at h
  split at h
  · cases h
  · split at h
    · cases h
    · omega
theorem f31_p32_sp {kids : List Kid} (hk : ∀ k ∈ kids, KidOk k) (hl : kids.length < 2 ^ 58) {full : Bool} {s1 s2 : ByteArray} {a1 a2 a3 a4 a5 p a : Int} {K0 : ByteArray → Int → Int → Int → Int → Int → Prop} {K1 : Nat → Nat → (List (List PC)) → Prop}
    (h1 : ∀ acc, loadK kids [] = .ok acc → acc.length ≤ 8 → ∀ i n es, SlR i n es (acc.map Rc.c) → K1 i n es) (h2 : ∀ c l o, loadK kids [] = .error (c, l, o) → c ≠ 0 → K0 emp 0 0 c l o) :
    f31_p32 (kids.map Kid.c) full (((kids.map Kid.c).length : Nat) : Int) s1 a1 a2 a3 a4 a5 s2 p a K0 K1 (0, 0, 0, []) := by
  unfold f31_p32
  refine LoopP.inv kids.length (fun j x => x.1 = (j : Int) ∧ ∃ acc : List Rc, SlR x.2.1 x.2.2.1 x.2.2.2 (acc.map Rc.c) ∧ acc.length ≤ 8 ∧ loadK kids [] = loadK (kids.drop j) acc) 0 ⟨rfl, [], SlR.nil, by decide, rfl⟩ (Nat.zero_le _) (by omega) ?_ ?_
  · rintro j ⟨x, i, n, es⟩ _ hj ⟨rfl, acc, hr, ha, hq⟩ N hN
    have hr : SlR i n es _ := hr
    have hn := hr.n
    rw [List.length_map] at hn
    unfold f31_p32b0
    dsimp only
    refine bB_t (by rw [List.length_map]; exact ltL hj) ⟨rngM _ _ hj, ?_⟩
    rw [toNat_c, getD_map _ _ _ hj, hr.take]
    simp only [Kid.c, ext_0, ext_s, ext_z, cS_c, cI_c, cB_c, cL_c, cO_c, oS_c, oI_c, oB_c, oL_c, nilC_c, toNat_c]
    have hko := hk _ (List.getElem_mem hj)
    rw [List.drop_eq_getElem_cons hj] at hq
    generalize kids[j] = k at hko hq ⊢
    rw [loadK] at hq
    refine f71_ok hko.tk hko.len hko.kl (by omega) (fun r hkr => ?_) fun c p hkr hc _ _ _ _ _ => ?_
    · rw [hkr] at hq
      dsimp only at hq
      have h8 := kidR_len hkr
      refine bB_f rfl ⟨hr.len, by omega, by omega, hN _ ⟨w64_s j (by omega), acc ++ [r], ?_, by rw [List.length_append, List.length_singleton]; omega, hq⟩⟩
      rw [List.map_append]
      exact hr.push (Rc.c r)
    · rw [hkr] at hq
      dsimp only at hq
      exact bB_t (by simpa using hc) (h2 _ _ _ hq hc)
  · rintro ⟨x, i, n, es⟩ ⟨rfl, acc, hr, ha, hq⟩ N
    unfold f31_p32b0
    dsimp only
    rw [List.drop_length] at hq
    exact bB_f (by rw [List.length_map]; exact stopL _) (h1 _ hq ha _ _ _ hr)
end Go.Eng.N
