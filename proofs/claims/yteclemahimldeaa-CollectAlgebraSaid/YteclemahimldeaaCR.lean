/- Runs on given data. -/
import Derived.Test.YteclemahimldeaaPK
namespace Go.Eng
theorem itP_le {X : Type} {R : X → (X → Prop) → Prop} : ∀ {n m : Nat}, n ≤ m → ∀ {x : X}, itP R n x → itP R m x
  | 0, _, _, _, h => h.elim
  | n + 1, 0, hm, _, _ => absurd hm (by omega)
  | n + 1, m + 1, hm, x, h => fun N hN => h N fun y hy => hN y (itP_le (by omega) hy)
theorem LoopP.of128 {X : Type} {R : X → (X → Prop) → Prop} {x : X} (h : itP R 128 x) : LoopP R x := ⟨itP_le (by unfold rounds; omega) h⟩
end Go.Eng
