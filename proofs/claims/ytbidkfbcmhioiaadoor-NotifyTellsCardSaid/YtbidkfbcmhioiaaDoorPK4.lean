/- Notify, pure: the law NotifyTells. -/
import Derived.Test.YtbidkfbcmhioiaaDoorPJ
import Derived.Test.YtbidkfbcmhioiaaDoorFn2
set_option linter.unusedVariables false
set_option linter.unusedSimpArgs false
namespace Go.Eng.N
open Go Go.Eng
theorem told_len (nm : ByteArray) (pri acks : Int) (rs : List Rc) (t s : Int) : (toldV nm pri acks rs t s).1.length ≤ rs.length := by
  unfold toldV
  split
  · simp
  · split
    · exact names_len _ _ _ _
    · simp
theorem f4_ok {c : Cls} {full : Bool} (hn : c.nm.size < 2 ^ 59) (hs : Sz c.rs) {e : Ev} {K : Bool → Prop} (h : K true) : f4 c.nm c.pri c.acks (c.rs.map Rc.c) full e.no e.pt e.at_ e.frm e.to e.va e.vb K := by
  refine ⟨?_⟩
  unfold f4_d
  refine f12_ok (bB_f rfl (f13_ok hs.len (bB_of (fun _ => h) fun h1 => bB_of (fun _ => h) fun _ => ?_)))
  unfold f4_p11
  refine f19_ok hn hs fun _ => f20_ok hn hs fun _ => f21_ok hn hs fun _ => f22_ok hn hs fun _ => bB_t (by simp) ?_
  have hl : (toldV c.nm c.pri c.acks c.rs e.at_ e.to).1.length < 2 ^ 59 := Nat.lt_of_le_of_lt (told_len _ _ _ _ _ _) hs.len
  refine f23_ok hl (bB_t (by simp) (bB_t (by simp) ?_))
  unfold notesV
  exact f24_ok hl h
end Go.Eng.N
