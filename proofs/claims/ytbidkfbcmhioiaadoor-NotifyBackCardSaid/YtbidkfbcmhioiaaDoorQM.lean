/- Notify, pure: the reader of tokens, 13: Load of the program. -/
import Derived.Test.YtbidkfbcmhioiaaDoorQL
set_option linter.unusedVariables false
set_option linter.unusedSimpArgs false
namespace Go.Eng.N
open Go Go.Eng
/-- The class of lines, or the first fault. -/
def loadR (ts : List Tk) (la : Int) (kids : List Kid) : Except (Int × Int × Int) Cls :=
  match headR ts with
  | .error e => .error (e.1, la, colV ts e.2)
  | .ok v => match loadK kids [] with
    | .error e => .error e
    | .ok acc => .ok ⟨v.1, v.2.1, v.2.2, acc⟩
section
variable {ts : List Tk} {full full2 hd : Bool} {la : Int} {kids : List Kid}
theorem f31_ok (ht : Tks ts) (hll : ts.length < 2 ^ 58) (hk : ∀ k ∈ kids, KidOk k) (hl : kids.length < 2 ^ 58) {K : ByteArray → Int → Int → (List (List PC)) → Bool → Int → Int → Int → Prop}
    (h1 : ∀ c : Cls, loadR ts la kids = .ok c → c.rs.length ≤ 8 → ∀ f, K c.nm c.pri c.acks (c.rs.map Rc.c) f 0 0 0)
    (h2 : ∀ c l o, loadR ts la kids = .error (c, l, o) → c ≠ 0 → K emp 0 0 [] true c l o) :
    f31 (ts.map Tk.c) full hd (kids.map Kid.c) full2 la K := by
  have hh := head_law (ts := ts)
  unfold loadR at h1 h2
  refine f31_sp ht hll hk hl (fun hc => ?_) (fun hc acc ha h8 => ?_) fun hc c l o he hne => ?_
  · rw [hh.2 hc] at h2
    exact h2 _ _ _ rfl hc
  · obtain ⟨g1, g2, g3⟩ := hh.1 hc
    rw [g1, ha] at h1
    have ew : w64 (Int.tdiv (headP ts).1.2.1 1000) = Int.tdiv (headP ts).1.2.1 1000 := by
      rw [Int.tdiv_eq_ediv_of_nonneg g2, w64_in (by omega) (by omega)]
    rw [ew]
    exact h1 _ rfl h8 false
  · obtain ⟨g1, _, _⟩ := hh.1 hc
    rw [g1, he] at h2
    exact h2 _ _ _ rfl hne
end
end Go.Eng.N
