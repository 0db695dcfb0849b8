/- Notify, pure, 10: the examples of the chapter. -/
import Derived.Test.YtbidkfbcmhioiaaDoorPI
import Derived.Test.YtbidkfbcmhioiaaDoorFn2
set_option linter.unusedVariables false
set_option linter.unusedSimpArgs false
namespace Go.Eng.N
open Go Go.Eng
def sDay : ByteArray := ⟨#[100, 97, 121]⟩
def sWatch : ByteArray := ⟨#[119, 97, 116, 99, 104]⟩
def hvRs : List Rc := [⟨sDay, 31, 480, 1019, 7⟩, ⟨sWatch, 127, 0, 1439, 3⟩]
def hv : Cls := ⟨⟨#[104, 118, 97, 99]⟩, 20, 3, hvRs⟩
theorem hv_check : checkV hv.nm hv.pri hv.acks hv.rs = 0 := by kernel_rfl
theorem hv_told1 : toldV hv.nm hv.pri hv.acks hv.rs 43200 1 = ([sWatch], 0) := by kernel_rfl
theorem hv_told2 : toldV hv.nm hv.pri hv.acks hv.rs 43200 0 = ([], 0) := by kernel_rfl
theorem hv_told3 : toldV hv.nm hv.pri hv.acks hv.rs 201600 3 = ([sDay, sWatch], 0) := by kernel_rfl
theorem hv_gaps1 : gapsV hv.nm hv.pri hv.acks hv.rs 0 = ((0, 0, 479) :: (0, 1020, 1439) :: (gapsN hv.rs 2 7).drop 2, 0) := by kernel_rfl
theorem hv_gaps1l : (gapsN hv.rs 2 7).length = 12 := by kernel_rfl
theorem hv_gaps2 : gapsV hv.nm hv.pri hv.acks hv.rs 4 = ([], 0) := by kernel_rfl
theorem hv_conf : confl hv.rs (keepV sDay hv.rs) = true := by
  rw [confl_eq]
  exact List.any_eq_true.2 ⟨0, by simp, List.any_eq_true.2 ⟨480, by simp, List.any_eq_true.2 ⟨2, by simp, by kernel_rfl⟩⟩⟩
theorem hv_without : withoutV hv sDay = (noCls, 10) := by
  unfold withoutV
  have h1 : (keepV sDay hv.rs).length = 1 := by kernel_rfl
  have h2 : hv.rs.length = 2 := by kernel_rfl
  rw [if_neg (by rw [hv_check]; decide), if_neg (by rw [h1, h2]; decide), if_pos hv_conf]
theorem hv_sz : Sz hv.rs := ⟨by decide, fun r hr => by
  simp only [hv, hvRs, List.mem_cons, List.not_mem_nil, or_false] at hr
  rcases hr with rfl | rfl <;> decide⟩
theorem f12_ok {K : Bool → Prop} (h : K true) : f12 K := by
  refine ⟨?_⟩
  unfold f12_d
  refine ⟨?_⟩
  unfold f36_d
  have hn : hv.nm.size < 2 ^ 59 := by decide
  refine f19_ok (nm := hv.nm) (pri := hv.pri) (acks := hv.acks) (rs := hv.rs) hn hv_sz fun _ => ?_
  rw [hv_told1]
  refine f19_ok (nm := hv.nm) (pri := hv.pri) (acks := hv.acks) (rs := hv.rs) hn hv_sz fun _ => ?_
  rw [hv_told2]
  refine f19_ok (nm := hv.nm) (pri := hv.pri) (acks := hv.acks) (rs := hv.rs) hn hv_sz fun _ => ?_
  rw [hv_told3]
  refine f21_ok (nm := hv.nm) (pri := hv.pri) (acks := hv.acks) (rs := hv.rs) (e := ⟨0, ⟨#[]⟩, 43200, 0, 4, 0, 0⟩) hn hv_sz fun _ => ?_
  have hno : notesV hv.nm hv.pri hv.acks hv.rs ⟨0, ⟨#[]⟩, 43200, 0, 4, 0, 0⟩ = ([ncells ⟨0, ⟨#[]⟩, 43200, 0, 4, 0, 0⟩ 20 true sWatch], 0) := by kernel_rfl
  rw [hno]
  refine f25_ok (nm := hv.nm) (pri := hv.pri) (acks := hv.acks) (rs := hv.rs) hn hv_sz fun _ => ?_
  rw [hv_gaps1]
  refine f25_ok (nm := hv.nm) (pri := hv.pri) (acks := hv.acks) (rs := hv.rs) hn hv_sz fun _ => ?_
  rw [hv_gaps2]
  refine f27_ok (nm := hv.nm) (pri := hv.pri) (acks := hv.acks) (rs := hv.rs) hn hv_sz fun _ => ?_
  rw [show withoutV ⟨hv.nm, hv.pri, hv.acks, hv.rs⟩ ⟨#[100, 97, 121]⟩ = (noCls, 10) from hv_without]
  refine f14_ok (c := hv) hn hv_sz fun _ _ => ?_
  have hl : lineV hv = (⟨headV hv, true, hv.rs.map kidV⟩, 0) := by unfold lineV; rw [if_neg (by rw [hv_check]; decide)]; rfl
  rw [hl]
  simp only [List.length_cons, List.length_map, List.length_drop, hv_gaps1l, List.map_cons, List.getD_cons_zero, List.getD_cons_succ, ncells, Ev.c, List.cons_append, List.nil_append, gcl, sc, ext_0, ext_s, ext_z, cS_c, cI_c, cB_c, cL_c, cO_c, oS_c, oI_c, oB_c, oL_c, nilC_c, toNat_c]
  refine bB_t (by kernel_rfl) ?_
  refine bB_t (by kernel_rfl) ?_
  refine And.intro (by decide) ?_
  refine bB_t (by kernel_rfl) ?_
  refine bB_t (by kernel_rfl) ?_
  refine bB_t (by kernel_rfl) ?_
  refine bB_t (by kernel_rfl) ?_
  refine bB_t (by kernel_rfl) ?_
  refine And.intro (by decide) ?_
  refine bB_t (by kernel_rfl) ?_
  refine bB_t (by kernel_rfl) ?_
  refine bB_t (by kernel_rfl) ?_
  refine And.intro (by decide) ?_
  refine bB_t (by kernel_rfl) ?_
  refine And.intro (by decide) ?_
  refine bB_t (by kernel_rfl) ?_
  refine bB_t (by kernel_rfl) ?_
  refine bB_t (by kernel_rfl) ?_
  refine And.intro (by decide) ?_
  refine bB_t (by kernel_rfl) ?_
  refine bB_t (by kernel_rfl) ?_
  refine bB_t (by kernel_rfl) ?_
  refine bB_t (by kernel_rfl) ?_
  refine bB_t (by kernel_rfl) ?_
  refine bB_t (by kernel_rfl) ?_
  refine f16_ok (nm := hv.nm) (pri := hv.pri) (acks := hv.acks) (rs := hv.rs) hn hv_sz ?_
  rw [hv_check]
  exact h
end Go.Eng.N
