/- Notify, pure: the law NotifyLoads. -/
import Derived.Test.YtbidkfbcmhioiaaDoorQO
set_option linter.unusedVariables false
set_option linter.unusedSimpArgs false
namespace Go.Eng.N
open Go Go.Eng
theorem kids_of : ∀ {ks : List (List PC)}, (∀ x ∈ ks, IsLn x) → ∃ kids : List Kid, ks = kids.map Kid.c ∧ ∀ k ∈ kids, KidOk k := by
  intro ks
  induction ks with
  | nil => exact fun _ => ⟨[], rfl, fun _ h => by cases h⟩
  | cons x r ih =>
    intro h
    obtain ⟨kids, h1, h2⟩ := ih fun y hy => h y (List.mem_cons_of_mem _ hy)
    obtain ⟨ts, f, hd, ks, g, la, t1, t2, t3, _⟩ := h x (List.mem_cons_self ..)
    refine ⟨⟨ts, f, hd, ks, g, la⟩ :: kids, by rw [h1]; rfl, fun k hk => ?_⟩
    rcases List.mem_cons.1 hk with rfl | hk
    · exact ⟨t1, t2, by show ks.length < _; omega⟩
    · exact h2 k hk
theorem eqCls_self (c : Cls) : eqCls c c = true := by unfold eqCls; simp
theorem f9_ok {ts : List Tk} {f hd g : Bool} {ks : List (List PC)} {la : Int} (ht : Tks ts) (hl : ts.length < 2 ^ 58) (hkl : ks.length < 2 ^ 58) (hk : ∀ x ∈ ks, IsLn x) {K : Bool → Prop} (h : K true) : f9 (ts.map Tk.c) f hd ks g la K := by
  refine ⟨?_⟩
  unfold f9_d
  refine f12_ok (bB_f rfl (f30_ok hl hkl hk fun b => bB_of (fun _ => h) fun _ => ?_))
  obtain ⟨kids, rfl, hko⟩ := kids_of hk
  rw [List.length_map] at hkl
  refine f31_ok ht hl hko hkl (fun c hc h8 f1 => ?_) fun c l o hc hne => ?_
  · refine f32_ok ht hl hko hkl (fun c' hc' _ f2 => ?_) fun c' l o hc' _ => ?_
    · rw [hc] at hc'
      obtain rfl := Except.ok.inj hc'
      exact bB_t (by simp) (f29_ok (a := c) (b := c) (by omega) (by rw [eqCls_self]; exact h))
    · rw [hc] at hc'; cases hc'
  · refine f32_ok ht hl hko hkl (fun c' hc' _ f2 => ?_) fun c' l' o' hc' _ => ?_
    · rw [hc] at hc'; cases hc'
    · rw [hc] at hc'
      obtain ⟨rfl, rfl, rfl⟩ : c = c' ∧ l = l' ∧ o = o' := by simpa using Except.error.inj hc'
      exact bB_t (by simp) (f29_ok (a := noCls) (b := noCls) (by decide) (by rw [eqCls_self]; exact h))
end Go.Eng.N
