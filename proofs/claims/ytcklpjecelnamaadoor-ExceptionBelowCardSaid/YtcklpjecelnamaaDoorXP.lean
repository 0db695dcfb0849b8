/- Exceptions: the laws' example. -/
import Derived.Test.YtcklpjecelnamaaDoorXN
import Derived.Test.YtcklpjecelnamaaDoorFn2
set_option linter.unusedVariables false
set_option linter.unusedSimpArgs false
namespace Go.Eng.N
open Go Go.Eng
def exH : ByteArray:=⟨#[104,111,108,105,100,97,121,115]⟩
def exC : Cal:=⟨exH,[⟨0,0,0,0,0,2026,12,24,2026,12,31⟩,⟨0,1,1,0,0,0,0,0,0,0,0⟩],false⟩
def exL : List Exc:=[⟨⟨#[119,111,114,107,115]⟩,⟨0,0,0,0,0,0,0,0,0,0,0⟩,exH,5,[⟨0,2,0⟩],false⟩,⟨⟨#[112,97,114,116,121]⟩,⟨2026,12,31,0,0,0,0,0,0,0,0⟩,⟨#[]⟩,3,[⟨1080,2,1⟩,⟨1380,0,0⟩],false⟩]
theorem ex_sm : Sm exL [exC]:=by
  refine ⟨by decide,by decide,by decide +kernel,by decide +kernel⟩
theorem ex_chk : chkV exL [exC] = 0:=by decide +kernel
theorem ex_held : (held exL [exC] 9861).map Ix.c = [1,0].map zc:=by
  have : (held exL [exC] 9861) = [⟨1,by decide⟩,⟨0,by decide⟩]:=by decide +kernel
  rw [this]; rfl
theorem ex_g1 : gv exL [exC] 9861 720 = (0,2,0):=by decide +kernel
theorem ex_g2 : gv exL [exC] 9861 1080 = (1,2,1):=by decide +kernel
theorem ex_c1 : chgV exL [exC] 9861 = [1080,1380]:=by decide +kernel
theorem ex_c2 : chgV exL [exC] 9862 = []:=by decide +kernel
theorem ex_n : nextC exC 9863 = 10227:=by decide +kernel
theorem ex_cal : calchk exC = 0:=by decide +kernel
theorem ex_d {d : Int} (h : 0≤d∧d≤73048) : chkD exL [exC] d = 0:=by
  unfold chkD
  rw [if_neg (fun z=>z ex_chk),if_pos h]
theorem f8_ok {K : Bool→Prop} (h : K true) : f8 K:=by
  refine ⟨?_⟩
  unfold f8_d
  refine f17_ok (l:=exL) (all:=[exC]) (f:=false) (g:=false) ex_sm ?_
  rw [if_pos (ex_d (by decide)),ex_held]
  refine f14_ok (l:=exL) (all:=[exC]) (f:=false) (g:=false) ex_sm ?_
  rw [if_pos (ex_d (by decide)),if_pos (by decide),ex_g1]
  refine f14_ok (l:=exL) (all:=[exC]) (f:=false) (g:=false) ex_sm ?_
  rw [if_pos (ex_d (by decide)),if_pos (by decide),ex_g2]
  refine f13_ok (l:=exL) (all:=[exC]) (f:=false) (g:=false) ex_sm ?_
  rw [if_pos (ex_d (by decide)),ex_c1]
  refine f13_ok (l:=exL) (all:=[exC]) (f:=false) (g:=false) ex_sm ?_
  rw [if_pos (ex_d (by decide)),ex_c2]
  refine ⟨by decide,?_⟩
  refine f10_ok (c:=exC) ?_
  rw [if_pos ex_cal,if_pos (by decide),ex_n,if_neg (by decide)]
  refine bB_t rfl ?_
  refine f18_ok (l:=[1,0]) (m:=[1,0]) (by decide) ?_
  refine bB_t (by decide) (bB_t rfl (bB_t rfl (bB_t rfl (bB_t rfl (bB_t rfl (bB_t rfl (bB_t rfl ?_)))))))
  refine f18_ok (l:=[1080,1380]) (m:=[1080,1380]) (by decide) ?_
  exact bB_t (by decide) (bB_t rfl (bB_t rfl (bB_t rfl h)))
end Go.Eng.N
