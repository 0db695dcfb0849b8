/- THE PURE KIT: maps. -/
import Derived.Test.YtcklpjecelnamaaDoorPK
set_option linter.unusedVariables false
set_option linter.unusedSimpArgs false
namespace Go.Eng
theorem keyEq_s (a b : ByteArray) : keyEq (.string a) (.string b) = decide (a = b):=beqB a b
structure KeyL {κ : Type} [DecidableEq κ] (kv : κ→Value) : Prop where
  eq : ∀ a b,keyEq (kv a) (kv b) = decide (a = b)
theorem keyS : KeyL Value.string:=⟨keyEq_s⟩
section
variable {κ : Type} [DecidableEq κ] {kv : κ→Value} (hk : KeyL kv)
include hk
theorem mget_mput (k k' : κ) (x : List PC) (cl : Nat) : ∀ (es : List (Nat×Value×List PC)),mget (kv k') (mput (kv k) x cl es) = if k' = k then some x else mget (kv k') es
  | []=>by
    show (bif keyEq (kv k') (kv k) then some x else none) = _
    rw [hk.eq]
    by_cases h : k' = k <;> simp [h,mget]
  | p :: r=>by
    unfold mput
    cases hp : keyEq (kv k) p.2.1 with
    | true =>
      show (bif keyEq (kv k') (kv k) then some x else mget (kv k') r) = _
      rw [hk.eq]
      by_cases h : k' = k
      · simp [h]
      · simp only [h,decide_false,cond_false,if_false]
        show _ = (bif keyEq (kv k') p.2.1 then some p.2.2 else mget (kv k') r)
        have : keyEq (kv k') p.2.1 = false:=by
          cases hq : keyEq (kv k') p.2.1 with
          | false=>rfl
          | true =>
            exfalso
            revert hp hq
            generalize p.2.1 = q
            intro hp hq
            have e1:=hk.eq k k'
            rw [decide_eq_false (fun e=>h e.symm)] at e1
            revert hp hq e1
            generalize kv k = a
            generalize kv k' = b
            intro hp hq e1
            cases a <;> cases q <;> simp only [keyEq,Bool.false_eq_true,reduceCtorEq] at hp <;> cases b <;> simp only [keyEq,Bool.false_eq_true,reduceCtorEq] at hq <;> simp_all [keyEq]
        rw [this]
        rfl
    | false =>
      show (bif keyEq (kv k') p.2.1 then some p.2.2 else mget (kv k') (mput (kv k) x cl r)) = if k' = k then some x else (bif keyEq (kv k') p.2.1 then some p.2.2 else mget (kv k') r)
      rw [mget_mput k k' x cl r]
      by_cases h : k' = k
      · subst h; simp [hp]
      · simp [h]
theorem MP.get_put (k k' : κ) (x : List PC) (m : MP) : MP.get (kv k') (MP.put (kv k) x m) = if k' = k then some x else MP.get (kv k') m:=mget_mput hk k k' x m.cl m.es
end
theorem MP.get_new (k : Value) : MP.get k MP.new = none:=rfl
end Go.Eng
