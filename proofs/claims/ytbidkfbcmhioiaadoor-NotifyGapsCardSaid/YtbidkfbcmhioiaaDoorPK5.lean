/- Notify, pure: the law NotifyGaps. -/
import Derived.Test.YtbidkfbcmhioiaaDoorPJ
import Derived.Test.YtbidkfbcmhioiaaDoorFn2
set_option linter.unusedVariables false
set_option linter.unusedSimpArgs false
set_option maxRecDepth 100000
namespace Go.Eng.N
open Go Go.Eng
theorem f5_ok {c : Cls} {full : Bool} (hn : c.nm.size < 2 ^ 59) (hs : Sz c.rs) {s : Int} {who : ByteArray} {K : Bool → Prop} (h : K true) : f5 c.nm c.pri c.acks (c.rs.map Rc.c) full s who K := by
  refine ⟨?_⟩
  unfold f5_d
  refine f12_ok (bB_f rfl (f13_ok hs.len (bB_of (fun _ => h) fun h1 => bB_of (fun _ => h) fun _ => ?_)))
  unfold f5_p11
  refine f25_ok hn hs fun _ => f26_ok hn hs fun _ => bB_f (by simp) (bB_f (by simp) ?_)
  have hl : (gapsV c.nm c.pri c.acks c.rs s).1.length < 2 ^ 59 := by
    unfold gapsV
    split
    · simp
    · split
      · exact Nat.lt_of_le_of_lt (gaps_len c.rs (kindIx s) 7) (by decide)
      · simp
  generalize (gapsV c.nm c.pri c.acks c.rs s).1 = l at hl
  unfold f5_p19 f5_p20
  refine LoopP.inv l.length (fun j x => x = (j : Int)) 0 rfl (Nat.zero_le _) hl ?_ ?_
  · rintro j x _ hj rfl N hN
    unfold f5_p20b0
    refine bB_t (ltM _ _ hj) ?_
    rw [toNat_c, getD_map _ _ _ hj]
    have hr := rngM gcl l hj
    simp only [gcl, ext_0, ext_s, ext_z, cS_c, cI_c, cB_c, cL_c, cO_c, oS_c, oI_c, oB_c, oL_c, nilC_c, toNat_c]
    rw [w64_s j (by omega)]
    have hr2 : 0 ≤ (j : Int) ∧ (j : Int) < (((l.map gcl).length : Nat) : Int) := hr
    exact ⟨hr2, hr2, bB_f (by simp) ⟨hr2, hr2, bB_f (by simp) ⟨hr2, hr2, bB_f (by simp) (hN _ rfl)⟩⟩⟩
  · rintro x rfl N
    unfold f5_p20b0
    refine bB_f (stopM _ _) (f27_ok hn hs fun _ => f28_ok hn hs fun _ => bB_t (by simp) (f29_ok (a := (withoutV c who).1) (b := (withoutV c who).1) ?_ ?_))
    · have h1 : (withoutV c who).1.rs.length ≤ c.rs.length := by
        unfold withoutV
        split
        · simp [noCls]
        · split
          · simp [noCls]
          · split
            · simp [noCls]
            · exact List.length_filter_le _ _
      have := hs.len
      omega
    · have : eqCls (withoutV c who).1 (withoutV c who).1 = true := by simp [eqCls]
      rw [this]; exact h
end Go.Eng.N
