/- Exceptions: the law of checks. -/
import Derived.Test.YtcklpjecelnamaaGreatDoorXP
import Derived.Test.YtcklpjecelnamaaGreatDoorFn3
set_option linter.unusedVariables false
set_option linter.unusedSimpArgs false
namespace Go.Eng.N
open Go Go.Eng
theorem f4_ok {l : List Exc} {all : List Cal} {f g : Bool} (he : ∀ x∈l,x.es.length≤2 ^ 48) (hc : ∀ c∈all,c.ps.length≤2 ^ 48) {K : Bool→Prop} (h : K true) : f4 (l.map Exc.c) f (all.map Cal.c) g K:=by
  refine ⟨?_⟩
  unfold f4_d
  refine f17_ok he hc (bB_not (bB_of (fun q=>f7_ok (bB_t rfl ?_)) fun q=>f7_ok h))
  have hs:=smB_t q
  refine f18_ok hs (f19_ok hs ?_)
  rw [BEq.rfl]; exact h
end Go.Eng.N
