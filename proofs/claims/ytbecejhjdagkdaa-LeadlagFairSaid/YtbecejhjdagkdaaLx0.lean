-- Written by pp.py (a program of this session, over the kit's print.py) out of the translation. Not trusted: Lean checks it.
import Derived.Test.YtbecejhjdagkdaaProg
import Derived.Test.YtbecejhjdagkdaaWAll
import Derived.Below
import Derived.Deep.Draws
import Derived.Deep.AppendLies
import Derived.Maps.AppendAt
import Derived.OwnWalk
import Derived.Laws.BytesArg
import Derived.Laws.MakeOwn
import Derived.Laws.OwnMore
import Derived.Deep.OwnRows
import Derived.Tactics
import Derived.Lib.ConvBytes
import Derived.Laws.Slices
import Derived.WalkKit
import Derived.KernelRfl
import Derived.RowKit3
import Derived.Deep.LoopGhost
import Derived.Deep.QuietTactic
import Derived.BigQuiet
import Derived.WideLaws
import Derived.Deep.DeepCutAuto
import Derived.Deep.CutBlock
import Derived.Deep.RegionHeld3
import Derived.Laws.Rows
import Derived.Lib.AppendStr
import Derived.ArgAppend
import Derived.Laws.IdiomCopy
import Derived.OrdersHeld
import Derived.Laws.BitsLemmas
import Derived.RowKit
import Derived.Laws.Cover1
import Derived.Lib.LazyBuf
import Derived.Lib.SliceRun
import Derived.Laws.IdiomCopy
namespace Go.Proofs.Ytbecejhjdagkdaa.L
open Go.RowKit Go.Proofs.YtbecejhjdagkdaaW.PrintWords Go.Proofs.YtbecejhjdagkdaaW.PrintLast Go.Proofs.YtbecejhjdagkdaaW.PrintMore
attribute [local go_sem] max2_int min2_int max_two min_two max_three min_three max_four min_four   -- for this text's walks alone
set_option linter.unusedVariables false
set_option linter.unusedSimpArgs false



def errW : Option Int→Value
 | none => .nilIface
 | some c => .iface 0 (.int .i64 c)
theorem errW_none : errW none = .nilIface:=rfl
theorem errW_some (c : Int) : errW (some c) = .iface 0 (.int .i64 c):=rfl

theorem info3 : (Try.prog.info? 3).map (fun i => (i.zero,i.size,i.bytes)) = some (some (.int .i64 0),1,8):=by kernel_rfl
theorem info4 : (Try.prog.info? 4).map (fun i => (i.zero,i.size,i.bytes)) = some (some (.bool false),1,1):=by kernel_rfl
theorem info32 : (Try.prog.info? 32).map (fun i => (i.zero,i.size,i.bytes)) = some (some (.agg #[(.slice none 0 0),(.int .i64 0),(.int .i64 0)]),3,40):=by kernel_rfl
theorem info62 : (Try.prog.info? 62).map (fun i => (i.zero,i.size,i.bytes)) = some (some (.agg #[(.int .i64 0),(.bool false),(.bool false)]),3,16):=by kernel_rfl
-- the values' own types
/-! #### struct type 62 -/
structure S62 where
 f0 : Int
 f1 : Bool
 f2 : Bool
def z62 : S62:=⟨(0 : Int),false,false⟩
def k62 : Kd S62:=Kd.iso (Kd.pair (Kd.int .i64) (Kd.pair Kd.bool Kd.bool)) (fun x : S62 => (x.f0,x.f1,x.f2))
theorem k62_heap : Kd.Heap k62:=Kd.heap_iso _ (Kd.heap_pair (Kd.heap_int .i64) (Kd.heap_pair Kd.heap_bool Kd.heap_bool))
theorem k62_open {w : World} {x : S62} {cs : List Value} (h : k62.K w x cs) : cs = [.int .i64 x.f0,.bool x.f1,.bool x.f2]:=by
 obtain ⟨_,_,rfl,rfl,⟨_,_,rfl,rfl,rfl⟩⟩:=h
 exact rfl
theorem k62_openM {w : World} {base : Nat} {ok : Nat→Prop} {x : S62} {cs : List Value} (h : k62.M w base ok x cs) : cs = [.int .i64 x.f0,.bool x.f1,.bool x.f2]:=by
 obtain ⟨_,_,rfl,rfl,⟨_,_,rfl,rfl,rfl⟩⟩:=h
 exact rfl
theorem k62_mk (w : World) (x : S62)  : k62.K w x [.int .i64 x.f0,.bool x.f1,.bool x.f2]:=⟨[.int .i64 x.f0],[.bool x.f1,.bool x.f2],rfl,rfl,⟨[.bool x.f1],[.bool x.f2],rfl,rfl,rfl⟩⟩
theorem k62_mkM (w : World) (base : Nat) (ok : Nat→Prop) (x : S62)  : k62.M w base ok x [.int .i64 x.f0,.bool x.f1,.bool x.f2]:=⟨[.int .i64 x.f0],[.bool x.f1,.bool x.f2],rfl,rfl,⟨[.bool x.f1],[.bool x.f2],rfl,rfl,rfl⟩⟩
def rd_T62 (xs : List S62) (i : Int) : S62:=xs.getD i.toNat z62
theorem at_T62 {w : World} {A : Option Addr} {n : Nat} {xs : List S62} (h : Kd.C k62 w A n xs) (i : Int) (h0 : 0 ≤ i) (h1 : i < n) : ∃ ad ,A = some ad∧w.cell? (ad.add (i.toNat * 3)) = some (.int .i64 (rd_T62 xs i).f0)∧w.cell? ⟨(ad.add (i.toNat * 3)).block,(ad.add (i.toNat * 3)).off + 1,none⟩ = some (.bool (rd_T62 xs i).f1)∧w.cell? ⟨(ad.add (i.toNat * 3)).block,(ad.add (i.toNat * 3)).off + 2,none⟩ = some (.bool (rd_T62 xs i).f2):=by
 obtain ⟨ad,c,e,_,hK,hc0⟩:=Kd.C_get h z62 i h0 h1
 have hc : ∀ j u,c[j]? = some u→w.cell? (ad.add (i.toNat * 3 + j)) = some u:=hc0
 obtain rfl:=k62_open hK
 exact ⟨ad,e,hc 0 _ rfl,by rw [← add_field _ _ 1 (by omega)];exact hc 1 _ rfl,by rw [← add_field _ _ 2 (by omega)];exact hc 2 _ rfl⟩

def rd_L3 (xs : List (List S62)) (i : Int) : (List S62):=xs.getD i.toNat ([] : List S62)
theorem at_L3 {w : World} {A : Option Addr} {n : Nat} {xs : List (List S62)} (h : Kd.C (Kd.slice 62 k62) w A n xs) (i : Int) (h0 : 0 ≤ i) (h1 : i < n) : ∃ ad A0 c0,A = some ad∧w.cell? (ad.add i.toNat) = some (.slice A0 (rd_L3 xs i).length c0)∧(rd_L3 xs i).length ≤ c0∧k62.C w A0 (rd_L3 xs i).length (rd_L3 xs i):=by
 obtain ⟨ad,c,e,_,hK,hc0⟩:=Kd.C_get h ([] : List S62) i h0 h1
 have hc : ∀ j u,c[j]? = some u→w.cell? (ad.add (i.toNat * 1 + j)) = some u:=hc0
 obtain ⟨A0,c0,rfl,l0,g0⟩:=hK
 exact ⟨ad,A0,c0,e,by have hq:=hc 0 _ rfl;rwa [Nat.mul_one,Nat.add_zero] at hq,l0,g0⟩

def rd_L4 (xs : List (List Int)) (i : Int) : (List Int):=xs.getD i.toNat ([] : List Int)
theorem at_L4 {w : World} {A : Option Addr} {n : Nat} {xs : List (List Int)} (h : Kd.C (Kd.slice 3 (Kd.int .i64)) w A n xs) (i : Int) (h0 : 0 ≤ i) (h1 : i < n) : ∃ ad A0 c0,A = some ad∧w.cell? (ad.add i.toNat) = some (.slice A0 (rd_L4 xs i).length c0)∧(rd_L4 xs i).length ≤ c0∧(Kd.int .i64).C w A0 (rd_L4 xs i).length (rd_L4 xs i):=by
 obtain ⟨ad,c,e,_,hK,hc0⟩:=Kd.C_get h ([] : List Int) i h0 h1
 have hc : ∀ j u,c[j]? = some u→w.cell? (ad.add (i.toNat * 1 + j)) = some u:=hc0
 obtain ⟨A0,c0,rfl,l0,g0⟩:=hK
 exact ⟨ad,A0,c0,e,by have hq:=hc 0 _ rfl;rwa [Nat.mul_one,Nat.add_zero] at hq,l0,g0⟩

/-! #### struct type 32 -/
structure S32 where
 f0 : (List S62)
 f1 : Int
 f2 : Int
def z32 : S32:=⟨([] : List S62),(0 : Int),(0 : Int)⟩
def k32 : Kd S32:=Kd.iso (Kd.pair (Kd.slice 62 k62) (Kd.pair (Kd.int .i64) (Kd.int .i64))) (fun x : S32 => (x.f0,x.f1,x.f2))
theorem k32_heap : Kd.Heap k32:=Kd.heap_iso _ (Kd.heap_pair (Kd.heap_slice 62 k62_heap) (Kd.heap_pair (Kd.heap_int .i64) (Kd.heap_int .i64)))
theorem k32_open {w : World} {x : S32} {cs : List Value} (h : k32.K w x cs) : ∃ A0 c0,cs = [.slice A0 x.f0.length c0,.int .i64 x.f1,.int .i64 x.f2]∧x.f0.length ≤ c0∧k62.C w A0 x.f0.length x.f0:=by
 obtain ⟨_,_,rfl,⟨A0,c0,rfl,l0,g0⟩,⟨_,_,rfl,rfl,rfl⟩⟩:=h
 exact ⟨A0,c0,rfl,l0,g0⟩
theorem k32_openM {w : World} {base : Nat} {ok : Nat→Prop} {x : S32} {cs : List Value} (h : k32.M w base ok x cs) : ∃ v0,cs = [v0,.int .i64 x.f1,.int .i64 x.f2]∧k62.R 62 w base ok v0 x.f0:=by
 obtain ⟨_,_,rfl,⟨v0,rfl,g0⟩,⟨_,_,rfl,rfl,rfl⟩⟩:=h
 exact ⟨v0,rfl,g0⟩
theorem k32_mk (w : World) (x : S32) {A0 : Option Addr} {c0 : Nat} (l0 : x.f0.length ≤ c0) (g0 : k62.C w A0 x.f0.length x.f0) : k32.K w x [.slice A0 x.f0.length c0,.int .i64 x.f1,.int .i64 x.f2]:=⟨[.slice A0 x.f0.length c0],[.int .i64 x.f1,.int .i64 x.f2],rfl,⟨A0,c0,rfl,l0,g0⟩,⟨[.int .i64 x.f1],[.int .i64 x.f2],rfl,rfl,rfl⟩⟩
theorem k32_mkM (w : World) (base : Nat) (ok : Nat→Prop) (x : S32) {v0 : Value} (g0 : k62.R 62 w base ok v0 x.f0) : k32.M w base ok x [v0,.int .i64 x.f1,.int .i64 x.f2]:=⟨[v0],[.int .i64 x.f1,.int .i64 x.f2],rfl,⟨v0,rfl,g0⟩,⟨[.int .i64 x.f1],[.int .i64 x.f2],rfl,rfl,rfl⟩⟩
def rd_T32 (xs : List S32) (i : Int) : S32:=xs.getD i.toNat z32
theorem at_T32 {w : World} {A : Option Addr} {n : Nat} {xs : List S32} (h : Kd.C k32 w A n xs) (i : Int) (h0 : 0 ≤ i) (h1 : i < n) : ∃ ad A0 c0,A = some ad∧w.cell? (ad.add (i.toNat * 3)) = some (.slice A0 (rd_T32 xs i).f0.length c0)∧w.cell? ⟨(ad.add (i.toNat * 3)).block,(ad.add (i.toNat * 3)).off + 1,none⟩ = some (.int .i64 (rd_T32 xs i).f1)∧w.cell? ⟨(ad.add (i.toNat * 3)).block,(ad.add (i.toNat * 3)).off + 2,none⟩ = some (.int .i64 (rd_T32 xs i).f2)∧(rd_T32 xs i).f0.length ≤ c0∧k62.C w A0 (rd_T32 xs i).f0.length (rd_T32 xs i).f0:=by
 obtain ⟨ad,c,e,_,hK,hc0⟩:=Kd.C_get h z32 i h0 h1
 have hc : ∀ j u,c[j]? = some u→w.cell? (ad.add (i.toNat * 3 + j)) = some u:=hc0
 obtain ⟨A0,c0,rfl,l0,g0⟩:=k32_open hK
 exact ⟨ad,A0,c0,e,hc 0 _ rfl,by rw [← add_field _ _ 1 (by omega)];exact hc 1 _ rfl,by rw [← add_field _ _ 2 (by omega)];exact hc 2 _ rfl,l0,g0⟩

def rd_L6 (xs : List (List Bool)) (i : Int) : (List Bool):=xs.getD i.toNat ([] : List Bool)
theorem at_L6 {w : World} {A : Option Addr} {n : Nat} {xs : List (List Bool)} (h : Kd.C (Kd.slice 4 Kd.bool) w A n xs) (i : Int) (h0 : 0 ≤ i) (h1 : i < n) : ∃ ad A0 c0,A = some ad∧w.cell? (ad.add i.toNat) = some (.slice A0 (rd_L6 xs i).length c0)∧(rd_L6 xs i).length ≤ c0∧Kd.bool.C w A0 (rd_L6 xs i).length (rd_L6 xs i):=by
 obtain ⟨ad,c,e,_,hK,hc0⟩:=Kd.C_get h ([] : List Bool) i h0 h1
 have hc : ∀ j u,c[j]? = some u→w.cell? (ad.add (i.toNat * 1 + j)) = some u:=hc0
 obtain ⟨A0,c0,rfl,l0,g0⟩:=hK
 exact ⟨ad,A0,c0,e,by have hq:=hc 0 _ rfl;rwa [Nat.mul_one,Nat.add_zero] at hq,l0,g0⟩

theorem pp_mod256 (x : Int) : wrap64 (x % 256) = x % 256:=by
 unfold wrap64
 omega
theorem pp_mod256_w (x : Int) : IntKind.i64.wrap (x % 256) = x % 256:=(i64_w _).trans (pp_mod256 x)
end Go.Proofs.Ytbecejhjdagkdaa.L
