/- The engine: a small machine over pure values, and that what it walks the model walks. -/
import Derived.Orders
import Derived.Laws.Sem
import Derived.Below
import Derived.ChangeKeysEq
import Derived.Laws.Cells
import Derived.Laws.Cover3
import Derived.Laws.Pointers
import Derived.Laws.Tables
import Derived.Laws.IdiomRangeMap
set_option linter.unusedVariables false
namespace Go.Eng
inductive PC where
  | c (v : Value)
  | sl (sz : Nat) (es : List (List PC)) (full : Bool)
inductive TC where
  | p (x : PC)
  | ref (b i n : Nat)
  | ptr (b i o : Nat)
  | fptr (cs : List PC) (o : Nat)
  | clo (f : FuncId) (first cap : List TC)
  | mref (b : Nat)
  | junk
inductive TW where
  | one (x : TC)
  | agg (xs : List TC)
  | pagg (xs : List PC)
inductive TV where
  | w (x : TW)
  | tup (xs : List TW)
inductive CK where
  | int (k : IntKind)
  | bool
  | str
  | slice (sz : Nat)
  | other
  deriving DecidableEq
structure MP where
  cl : Nat
  es : List (Nat×Value×List PC)
inductive Entry where
  | box (cs : List TC)
  | pbox (cs : List PC)
  | vec (sz : Nat) (es : List (List PC)) (wr : Bool)
  | mp (kt : CK) (ag : Bool) (m : MP)
  | mit (b : Option Nat) (et : TypeId) (since : Nat) (seen : List Nat) (last : Nat)
  | gone
inductive TK where
  | int (k : IntKind)
  | bool
  | str
  | slice (e : TypeId)
  | array (n : Nat) (e : TypeId)
  | struct (fs : List (Nat×TypeId))
  | ptr (e : TypeId)
  | func
  | map (k e : TypeId)
  | other
structure TI where
  kind : TK
  size : Nat
  bytes : Nat
  zero : List PC
  cks : List CK
structure St where
  tmps : List TV
  heap : List Entry
inductive TExit where
  | normal
  | exit (id : Nat)
  | ret
structure Ctx where
  ty : TypeId→Option TI
  glob : Nat→Option (List PC)
  byRef : FuncId→Bool
  keep : Nat→Nat→List Nat
  late : Nat→List Nat
  nref : Nat→List Nat
  nbox : Nat→List (Nat×Nat)
  take : List Nat
  rnil : Bool
  m : Nat
  fz : Bool
  loops : Nat→Option (St→(TExit→St→Prop)→Prop)
  call : FuncId→List TV→List Entry→(TV→List Entry→Prop)→Prop
abbrev TV.c (v : Value) : TV:=.w (.one (.p (.c v)))
abbrev I (n : Int) : TV:=.c (.int .i64 n)
abbrev B (b : Bool) : TV:=.c (.bool b)
abbrev S (s : ByteArray) : TV:=.c (.string s)
abbrev junk : TV:=.w (.one .junk)
abbrev undefT : TV:=.tup []
def TW.cells : TW→List TC
  | .one x=>[x]
  | .agg xs=>xs
  | .pagg xs=>xs.map .p
def pures : List TC→Option (List PC)
  | []=>some []
  | .p x :: r=>match pures r with
    | some xs=>some (x :: xs)
    | none=>none
  | _ :: _=>none
def okW : TW→Bool
  | .one .junk=>false
  | _=>true
def mkAgg (xs : List TC) : TW:=match pures xs with
  | some ps=>.pagg ps
  | none=>.agg xs
def ofCell (ck : CK) (v : Value) : PC:=match ck,v with
  | .slice sz,.slice none 0 0=>.sl sz [] true
  | _,v=>.c v
def ofCells : List CK→List Value→List PC
  | ck :: r,v :: vs=>ofCell ck v :: ofCells r vs
  | [],v :: vs=>.c v :: ofCells [] vs
  | _,[]=>[]
def ofConst (ti : Option TI) (v : Value) : TV:=bif v.oneCell' then (match ti with
    | some i=>match i.cks with
      | [ck]=>.w (.one (.p (ofCell ck v)))
      | _=>.c v
    | none=>.c v)
  else match v with
    | .agg cs=>bif cs.all (·.oneCell') then .w (.pagg (ofCells (match ti with
        | some i=>i.cks
        | none=>[]) cs.toList)) else junk
    | _=>junk
noncomputable def getT (l : List TV) : Nat→TV:=List.rec (motive:=fun _=>Nat→TV) (fun _=>junk) (fun x _ ih n=>Nat.casesOn n x ih) l
theorem getT_eq : ∀ (l : List TV) (n : Nat),getT l n = l.getD n junk
  | [],_=>rfl
  | _ :: _,0=>rfl
  | _ :: r,n + 1=>getT_eq r n
section
variable (C : Ctx)
noncomputable def opd (tmps : List TV) (t : Option TypeId) : Operand→TV
  | .tmp i=>getT tmps i
  | .const v=>ofConst (t.bind C.ty) v
  | .global g=>match C.glob g with
    | some cs=>.w (.one (.fptr cs 0))
    | none=>junk
  | .func f=>.c (.func (.func f) #[] #[])
def br (b : Bool) (f : Bool→Prop) : Prop:=match b with
  | true=>f true
  | false=>f false
def asIntC (k : IntKind) (x : PC) (K : Int→Prop) : Prop:=match x with
  | .c v=>match v with
    | .int k' n=>if k' = k then K n else False
    | _=>False
  | _=>False
def asBoolC (x : PC) (K : Bool→Prop) : Prop:=match x with
  | .c v=>match v with
    | .bool b=>K b
    | _=>False
  | _=>False
def asStrC (x : PC) (K : ByteArray→Prop) : Prop:=match x with
  | .c v=>match v with
    | .string s=>K s
    | _=>False
  | _=>False
def asSlC (sz : Nat) (x : PC) (K : List (List PC)→Bool→Prop) : Prop:=match x with
  | .sl sz' es full=>if sz' = sz then K es full else False
  | _=>False
def unconsC (l : List PC) (K : PC→List PC→Prop) : Prop:=match l with
  | x :: xs=>K x xs
  | []=>False
def nilC (l : List PC) (K : Prop) : Prop:=match l with
  | []=>K
  | _=>False
def castCK (ck : CK) (x : PC) (K : PC→Prop) : Prop:=match ck with
  | .int k=>asIntC k x fun n=>K (.c (.int k n))
  | .bool=>asBoolC x fun b=>K (.c (.bool b))
  | .str=>asStrC x fun s=>K (.c (.string s))
  | .slice sz=>asSlC sz x fun es full=>K (.sl sz es full)
  | .other=>K x
def castCKs : List CK→List PC→(List PC→Prop)→Prop
  | [],l,K=>nilC l (K [])
  | ck :: r,l,K=>unconsC l fun x xs=>castCK ck x fun y=>castCKs r xs fun ys=>K (y :: ys)
def asType (ti : TI) (cs : List PC) (K : TV→Prop) : Prop:=match ti.kind with
  | .array _ _=>cs.length = ti.size∧K (.w (.pagg cs))
  | .struct _=>castCKs ti.cks cs fun ys=>K (.w (.pagg ys))
  | _=>match ti.cks with
    | [ck]=>unconsC cs fun x xs=>nilC xs (castCK ck x fun y=>K (.w (.one (.p y))))
    | _=>False
def asTypeT (ti : TI) (cs : List TC) (K : TV→Prop) : Prop:=match ti.kind with
  | .array _ _ | .struct _=>match pures cs with
    | some ps=>asType ti ps K
    | none=>if cs.length = ti.size then K (.w (.agg cs)) else False
  | _=>match cs with
    | [.p x]=>asType ti [x] K
    | [x]=>K (.w (.one x))
    | _=>False
def freeze : List TC→List Entry→Option (List PC×List Entry)
  | [],H=>some ([],H)
  | .p x :: r,H=>match freeze r H with
    | some (xs,H')=>some (x :: xs,H')
    | none=>none
  | .ref b i n :: r,H=>match H[b]? with
    | some (.vec sz es _)=>match freeze r (H.set b (.vec sz es false)) with
      | some (xs,H')=>some (.sl sz ((es.drop i).take n) false :: xs,H')
      | none=>none
    | _=>none
  | _ :: _,_=>none
def ext {α : Type} (l : List α) (o n : Nat) : List α:=(l.drop o).take n
def splice {α : Type} (l : List α) (o : Nat) (xs : List α) : List α:=l.take o ++ (xs ++ l.drop (o + xs.length))
def loadT (ti : TI) (x : TC) (H : List Entry) (K : TV→Prop) : Prop:=match x with
  | .ptr b i o=>match H[b]? with
    | some (.box cs)=>if i = 0 then asTypeT ti (ext cs o ti.size) K else False
    | some (.pbox cs)=>if i = 0 then asType ti (ext cs o ti.size) K else False
    | some (.vec _ es _)=>asType ti (ext (es.getD i []) o ti.size) K
    | _=>False
  | .fptr cs o=>asType ti (ext cs o ti.size) K
  | _=>False
def cellsP : TW→Option (List PC)
  | .pagg ps=>some ps
  | w=>pures w.cells
theorem pures_map : ∀ ps : List PC,pures (ps.map .p) = some ps
  | []=>rfl
  | p :: r=>by simp [pures,pures_map r]
theorem cellsP_eq {v : TW} {ps : List PC} (h : cellsP v = some ps) : pures v.cells = some ps:=by
  cases v with
  | pagg xs =>
    simp only [cellsP,Option.some.injEq] at h
    subst h
    exact pures_map xs
  | one x=>exact h
  | agg xs=>exact h
def storeT (ti : TI) (x : TC) (v : TW) (H : List Entry) (K : List Entry→Prop) : Prop:=match x with
  | .ptr b i o=>match H[b]? with
    | some (.box cs)=>if i = 0∧v.cells.length = ti.size∧o + ti.size≤cs.length then K (H.set b (.box (splice cs o v.cells))) else False
    | some (.pbox cs)=>match cellsP v with
      | some ps=>if i = 0 then ps.length = ti.size∧o + ti.size≤cs.length∧K (H.set b (.pbox (splice cs o ps))) else False
      | none=>False
    | some (.vec _ _ wr0)=>bif !wr0 then False else match freeze v.cells H with
      | some (ps,H')=>match H'[b]? with
        | some (.vec sz es true)=>if ps.length = ti.size∧o + ti.size≤sz then i < es.length∧K (H'.set b (.vec sz (es.set i (splice (es.getD i []) o ps)) true)) else False
        | _=>False
      | none=>False
    | _=>False
  | _=>False
def byteAt (s : ByteArray) (i : Int) : Int:=((s.data.toList.getD i.toNat 0).toNat : Int)
def eqCell (ck : CK) (x y : Value) : Option Bool:=match ck,x,y with
  | .int _,.int k a,.int k' b=>if k = k' then some (a == b) else none
  | .bool,.bool a,.bool b=>some (a == b)
  | .str,.string a,.string b=>some (a == b)
  | _,_,_=>none
def eqCells : List CK→List PC→List PC→Option Bool
  | [],[],[]=>some true
  | ck :: r,.c x :: xs,.c y :: ys=>match eqCell ck x y,eqCells r xs ys with
    | some a,some b=>some (a && b)
    | _,_=>none
  | _,_,_=>none
def optP {α : Type} (o : Option α) (K : α→Prop) : Prop:=match o with
  | some x=>K x
  | none=>False
def intOpT (op : BinOp) (k : IntKind) (a b : Int) (K : TV→Prop) : Prop:=match op with
  | .add=>K (.c (.int k (k.wrap (a + b))))
  | .sub=>K (.c (.int k (k.wrap (a - b))))
  | .mul=>K (.c (.int k (k.wrap (a * b))))
  | .quo=>b≠0∧K (.c (.int k (k.wrap (a.tdiv b))))
  | .rem=>b≠0∧K (.c (.int k (a.tmod b)))
  | .and=>K (.c (.int k (k.wrap (BitVec.ofInt k.bits a &&& BitVec.ofInt k.bits b).toNat)))
  | .or=>K (.c (.int k (k.wrap (BitVec.ofInt k.bits a ||| BitVec.ofInt k.bits b).toNat)))
  | .xor=>K (.c (.int k (k.wrap (BitVec.ofInt k.bits a ^^^ BitVec.ofInt k.bits b).toNat)))
  | .andNot=>K (.c (.int k (k.wrap (BitVec.ofInt k.bits a &&& ~~~BitVec.ofInt k.bits b).toNat)))
  | .eql=>K (.c (.bool (a == b)))
  | .neq=>K (.c (.bool (a != b)))
  | .lss=>K (.c (.bool (a < b)))
  | .leq=>K (.c (.bool (a≤b)))
  | .gtr=>K (.c (.bool (a > b)))
  | .geq=>K (.c (.bool (a≥b)))
  | _=>False
def strOpT (op : BinOp) (x y : ByteArray) (K : TV→Prop) : Prop:=match op with
  | .add=>((x.size + y.size : Nat) : Int)≤IntKind.i64.max∧K (.c (.string (x ++ y)))
  | .eql=>K (.c (.bool (x.toList == y.toList)))
  | .neq=>K (.c (.bool !(x.toList == y.toList)))
  | .lss=>K (.c (.bool (Op.bytesLess x.toList y.toList)))
  | .leq=>K (.c (.bool (Op.bytesLess x.toList y.toList || x.toList == y.toList)))
  | .gtr=>K (.c (.bool !(Op.bytesLess x.toList y.toList || x.toList == y.toList)))
  | .geq=>K (.c (.bool !(Op.bytesLess x.toList y.toList)))
  | _=>False
def scal : List CK→Bool
  | []=>true
  | .int _ :: r=>scal r
  | .bool :: r=>scal r
  | .str :: r=>scal r
  | _ :: _=>false
def isAggB : TK→Bool
  | .struct _=>true
  | .array _ _=>true
  | _=>false
def asBoolV (x : TV) (K : Bool→Prop) : Prop:=match x with
  | .w (.one (.p (.c (.bool a))))=>K a
  | _=>False
def asPaggV (x : TV) (K : List PC→Prop) : Prop:=match x with
  | .w (.pagg xs)=>K xs
  | _=>False
def isArrB : TK→Bool
  | .array _ _=>true
  | _=>false
def uniT (i : TI) (x y : TV) (K : Bool→Prop) : Prop:=match i.cks with
  | [ck]=>bif isArrB i.kind && scal [ck] then asPaggV x fun xs=>asPaggV y fun ys=>∃ b,eqCells (List.replicate i.size ck) xs ys = some b∧K b else False
  | _=>False
def eqT (ti : Option TI) (x y : TV) (K : Bool→Prop) : Prop:=match ti with
  | none=>False
  | some i=>match i.kind with
    | .bool=>asBoolV x fun a=>asBoolV y fun b=>K (a == b)
    | _=>bif isAggB i.kind && scal i.cks && i.cks.length == i.size then asPaggV x fun xs=>asPaggV y fun ys=>optP (eqCells i.cks xs ys) K else uniT i x y K
def isNilK : Operand→Bool
  | .const v=>match v with
    | .slice none 0 0=>true
    | _=>false
  | _=>false
def nilK (op : BinOp) (p : Prop) (K : TV→Prop) : Prop:=match op with
  | .eql=>(p→K (.c (.bool true)))∧K (.c (.bool false))
  | .neq=>(p→K (.c (.bool false)))∧K (.c (.bool true))
  | _=>False
def nilEqT (op : BinOp) (t : TypeId) (x : TV) (H : List Entry) (K : TV→Prop) : Prop:=match C.ty t with
  | some i=>match i.kind with
    | .slice _=>match x with
      | .w (.one (.p (.sl _ es _)))=>nilK op (es = []) K
      | .w (.one (.ref b _ n))=>match H[b]? with
        | some (.vec _ _ _)=>nilK op (n = 0) K
        | _=>False
      | _=>False
    | _=>False
  | none=>False
def isNilP : Operand→Bool
  | .const v=>match v with
    | .pointer none=>true
    | _=>false
  | _=>false
def nilB (op : BinOp) (b : Bool) (K : TV→Prop) : Prop:=match op with
  | .eql=>K (.c (.bool b))
  | .neq=>K (.c (.bool !b))
  | _=>False
def nilPT (op : BinOp) (t : TypeId) (x : TV) (K : TV→Prop) : Prop:=match C.ty t with
  | some i=>match i.kind with
    | .ptr _=>match x with
      | .w (.one (.ptr _ _ _))=>nilB op false K
      | .w (.one (.fptr _ _))=>nilB op false K
      | .w (.one (.p (.c v)))=>match v with
        | .pointer none=>nilB op true K
        | _=>False
      | _=>False
    | _=>False
  | none=>False
def binT (op : BinOp) (t : TypeId) (x y : TV) (K : TV→Prop) : Prop:=match x,y with
  | .w (.one (.p (.c (.int k a)))),.w (.one (.p (.c (.int k' b))))=>match op with
    | .shl=>0≤b∧K (.c (.int k (k.wrap (a * 2 ^ (min b.toNat k.bits)))))
    | .shr=>0≤b∧K (.c (.int k (a.fdiv (2 ^ (min b.toNat k.bits)))))
    | op=>if k = k' then intOpT op k a b K else False
  | .w (.one (.p (.c (.string a)))),.w (.one (.p (.c (.string b))))=>strOpT op a b K
  | x,y=>match op with
    | .eql=>eqT (C.ty t) x y fun b=>K (.c (.bool b))
    | .neq=>eqT (C.ty t) x y fun b=>K (.c (.bool !b))
    | _=>False
def unT (op : UnOp) (x : TV) (K : TV→Prop) : Prop:=match x with
  | .w (.one (.p (.c (.int k n))))=>match op with
    | .neg=>intOpT .sub k 0 n K
    | .xor=>intOpT .xor k (if k.signed then -1 else k.max) n K
    | _=>False
  | .w (.one (.p (.c (.bool b))))=>match op with
    | .not=>K (.c (.bool !b))
    | _=>False
  | _=>False
def convT (src dst : TypeId) (x : TV) (K : TV→Prop) : Prop:=match C.ty src with
  | none=>False
  | some _=>match x with
  | .w (.one (.p (.c (.int _ n))))=>match C.ty dst with
    | some ⟨.int k,_,_,_,_⟩=>K (.c (.int k (k.wrap n)))
    | _=>False
  | .w (.one (.p (.c (.string s))))=>match C.ty dst with
    | some ⟨.str,_,_,_,_⟩=>K (.c (.string s))
    | _=>False
  | _=>False
def fillT (place : Nat→Option (Nat×Nat)) (cs : List TC) : List (Nat×TV)→Option (List TC)
  | []=>some cs
  | (i,.w v) :: rest=>match place i with
    | none=>none
    | some (off,size)=>if okW v = true∧v.cells.length = size∧off + size≤cs.length then fillT place (splice cs off v.cells) rest else none
  | _=>none
def placesT : List (Nat×TypeId)→Option (List (Nat×Nat))
  | []=>some []
  | (o,ft) :: r=>match C.ty ft with
    | some fi=>match placesT r with
      | some ps=>some ((o,fi.size) :: ps)
      | none=>none
    | none=>none
def buildT (t : TypeId) (parts : List (Nat×TV)) (K : TV→Prop) : Prop:=match C.ty t with
  | some ti=>match ti.kind with
    | .struct fs=>match placesT C fs with
      | some ps=>match fillT (fun i=>ps[i]?) (ti.zero.map .p) parts with
        | some cs=>K (.w (mkAgg cs))
        | none=>False
      | none=>False
    | .array _ e=>match C.ty e with
      | some ei=>match fillT (fun i=>some (i * ei.size,ei.size)) (ti.zero.map .p) parts with
        | some cs=>K (.w (mkAgg cs))
        | none=>False
      | none=>False
    | _=>False
  | none=>False
def fillS (size : Nat) (es : List (List PC)) (H : List Entry) : List (Nat×TV)→Option (List (List PC)×List Entry)
  | []=>some (es,H)
  | (i,.w v) :: rest=>match freeze v.cells H with
    | some (ps,H')=>if ps.length = size∧i < es.length then fillS size (es.set i ps) H' rest else none
    | none=>none
  | _=>none
def buildSliceT (t : TypeId) (len : Nat) (parts : List (Nat×TV)) (H : List Entry) (K : TV→List Entry→Prop) : Prop:=match C.ty t with
  | some ti=>match ti.kind with
    | .slice e=>match C.ty e with
      | some ei=>match fillS ei.size (List.replicate len ei.zero) H parts with
        | some (es,H')=>if len * ei.size≤2 ^ 24 then K (.w (.one (.ref H'.length 0 len))) (H' ++ [.vec ei.size es true]) else False
        | none=>False
      | none=>False
    | _=>False
  | none=>False
def boxT (t : TypeId) (v : TV) (H : List Entry) (K : TV→List Entry→Prop) : Prop:=match C.ty t,v with
  | some ti,.w (.pagg ps)=>match ti.kind with
    | .array _ _=>ps.length = ti.size∧K (.w (.one (.ptr H.length 0 0))) (H ++ [.pbox ps])
    | _=>if ps.length = ti.size then K (.w (.one (.ptr H.length 0 0))) (H ++ [.box (ps.map .p)]) else False
  | some ti,.w v=>bif !okW v then False else if v.cells.length = ti.size then K (.w (.one (.ptr H.length 0 0))) (H ++ [.box v.cells]) else False
  | _,_=>False
def allocT (t : TypeId) (H : List Entry) (K : TV→List Entry→Prop) : Prop:=match C.ty t with
  | some ti=>match ti.kind with
    | .array _ _=>K (.w (.one (.ptr H.length 0 0))) (H ++ [.pbox ti.zero])
    | _=>K (.w (.one (.ptr H.length 0 0))) (H ++ [.box (ti.zero.map .p)])
  | none=>False
def fieldAddrT (t : TypeId) (x : TV) (f : Nat) (K : TV→Prop) : Prop:=match C.ty t with
  | some ⟨.struct fs,_,_,_,_⟩=>match fs[f]? with
    | some (o,ft)=>match C.ty ft with
      | some fi=>bif fi.size == 0 then False else match x with
        | .w (.one (.ptr b i o'))=>K (.w (.one (.ptr b i (o' + o))))
        | .w (.one (.fptr cs o'))=>K (.w (.one (.fptr cs (o' + o))))
        | _=>False
      | none=>False
    | none=>False
  | _=>False
def fieldT (t : TypeId) (x : TV) (f : Nat) (K : TV→Prop) : Prop:=match C.ty t with
  | some ⟨.struct fs,_,_,_,_⟩=>match fs[f]? with
    | some (o,ft)=>match C.ty ft with
      | some fi=>match x with
        | .w (.pagg cs)=>asType fi (ext cs o fi.size) K
        | .w (.agg cs)=>asTypeT fi (ext cs o fi.size) K
        | _=>False
      | none=>False
    | none=>False
  | _=>False
def asI : TV→Option Int
  | .w (.one (.p (.c (.int _ j))))=>some j
  | _=>none
def indexAddrT (t : TypeId) (x ix : TV) (H : List Entry) (K : TV→Prop) : Prop:=match C.ty t with
  | some ti=>match asI ix with
    | some j=>match ti.kind with
      | .slice e=>match C.ty e with
        | some ei=>match x with
          | .w (.one (.ref b i n))=>match H[b]? with
            | some (.vec sz _ _)=>if sz = ei.size then (0≤j∧j < n)∧K (.w (.one (.ptr b (i + j.toNat) 0))) else False
            | _=>False
          | .w (.one (.p (.sl sz es _)))=>if sz = ei.size then (0≤j∧j < es.length)∧K (.w (.one (.fptr (es.getD j.toNat []) 0))) else False
          | _=>False
        | none=>False
      | .array n e=>match C.ty e with
        | some ei=>match x with
          | .w (.one (.ptr b i o))=>(0≤j∧j < n)∧K (.w (.one (.ptr b i (o + j.toNat * ei.size))))
          | .w (.one (.fptr cs o))=>(0≤j∧j < n)∧K (.w (.one (.fptr cs (o + j.toNat * ei.size))))
          | _=>False
        | none=>False
      | _=>False
    | none=>False
  | none=>False
def indexT (t : TypeId) (x ix : TV) (K : TV→Prop) : Prop:=match C.ty t with
  | some ti=>match asI ix with
    | some j=>match ti.kind with
      | .str=>match x with
        | .w (.one (.p (.c (.string s))))=>(0≤j∧j < s.size)∧K (.c (.int .u8 (byteAt s j)))
        | _=>False
      | .array n e=>match C.ty e with
        | some ei=>match x with
          | .w (.pagg cs)=>(0≤j∧j < n)∧asType ei (ext cs (j.toNat * ei.size) ei.size) K
          | _=>False
        | none=>False
      | _=>False
    | none=>False
  | none=>False
def bound (d : Int) (x : Option TV) (K : Int→Prop) : Prop:=match x with
  | none=>K d
  | some v=>match asI v with
    | some n=>K n
    | none=>False
def isNilB (es : List (List PC)) : Bool:=match es with
  | []=>true
  | _ :: _=>false
def sliceT (t : TypeId) (x : TV) (lo hi mx : Option TV) (H : List Entry) (K : TV→Prop) : Prop:=match C.ty t with
  | some ti=>match ti.kind with
    | .str=>match x with
      | .w (.one (.p (.c (.string s))))=>match mx with
        | none=>bound 0 lo fun l=>bound s.size hi fun h=>(0≤l∧l≤h∧h≤s.size)∧K (.c (.string (s.extract l.toNat h.toNat)))
        | some _=>False
      | _=>False
    | .slice e=>match C.ty e with
      | some ei=>match x with
        | .w (.one (.p (.sl sz es full)))=>if sz = ei.size then (match mx with
          | none=>bound 0 lo fun l=>bound es.length hi fun h=>(0≤l∧l≤h∧h≤es.length)∧K (.w (.one (.p (.sl sz (ext es l.toNat (h.toNat - l.toNat)) (isNilB es && full)))))
          | some m=>match hi with
            | none=>False
            | some _=>bound 0 lo fun l=>bound es.length hi fun h=>bound 0 (some m) fun m=>(0≤l∧l≤h∧h = m∧h≤es.length)∧K (.w (.one (.p (.sl sz (ext es l.toNat (h.toNat - l.toNat)) true))))) else False
        | .w (.one (.ref b i n))=>match H[b]? with
          | some (.vec sz _ _)=>if sz = ei.size then (match mx with
            | none=>bound 0 lo fun l=>bound n hi fun h=>(0≤l∧l≤h∧h≤n)∧K (.w (.one (.ref b (i + l.toNat) (h.toNat - l.toNat))))
            | some m=>match hi with
              | none=>False
              | some _=>bound 0 lo fun l=>bound n hi fun h=>bound 0 (some m) fun m=>(0≤l∧l = h∧h = m∧h≤n)∧K (.w (.one (.p (.sl sz [] true))))) else False
          | _=>False
        | _=>False
      | none=>False
    | _=>False
  | none=>False
def makeSliceT (t : TypeId) (len cap : TV) (H : List Entry) (K : TV→List Entry→Prop) : Prop:=match C.ty t,len,cap with
  | some ⟨.slice e,_,_,_,_⟩,.w (.one (.p (.c (.int .i64 n)))),.w (.one (.p (.c (.int .i64 m))))=>match C.ty e with
    | some ei=>(0≤n∧n≤m∧m * ei.bytes≤2 ^ 46∧m≤2 ^ 46)∧K (.w (.one (.ref H.length 0 n.toNat))) (H ++ [.vec ei.size (List.replicate n.toNat ei.zero) true])
    | none=>False
  | _,_,_=>False
def keyEq : Value→Value→Bool
  | .int _ a,.int _ b=>a == b
  | .string a,.string b=>a == b
  | .bool a,.bool b=>a == b
  | _,_=>false
def mget (k : Value) : List (Nat×Value×List PC)→Option (List PC)
  | []=>none
  | p :: r=>bif keyEq k p.2.1 then some p.2.2 else mget k r
def mput (k : Value) (x : List PC) (cl : Nat) : List (Nat×Value×List PC)→List (Nat×Value×List PC)
  | []=>[(cl,k,x)]
  | p :: r=>bif keyEq k p.2.1 then (p.1,k,x) :: r else p :: mput k x cl r
def mdel (k : Value) : List (Nat×Value×List PC)→List (Nat×Value×List PC)
  | []=>[]
  | p :: r=>bif keyEq k p.2.1 then r else p :: mdel k r
def MP.new : MP:=⟨0,[]⟩
def MP.get (k : Value) (m : MP) : Option (List PC):=mget k m.es
def MP.put (k : Value) (x : List PC) (m : MP) : MP:=⟨bif (mget k m.es).isSome then m.cl else m.cl + 1,mput k x m.cl m.es⟩
def MP.del (k : Value) (m : MP) : MP:=⟨m.cl,mdel k m.es⟩
def MP.len (m : MP) : Nat:=m.es.length
def MP.left (seen : List Nat) (m : MP) : List (Nat×Value×List PC):=m.es.filter fun p=>!seen.contains p.1
def MP.at (seen : List Nat) (m : MP) : Option (Nat×Value×List PC):=match seen.getLast? with
  | some s=>m.es.find? fun p=>p.1 == s
  | none=>none
def lenT (t : TypeId) (x : TV) (H : List Entry) (K : TV→Prop) : Prop:=match C.ty t with
  | some ti=>match ti.kind with
    | .str=>match x with
      | .w (.one (.p (.c (.string s))))=>K (I s.size)
      | _=>False
    | .slice _=>match x with
      | .w (.one (.p (.sl _ es _)))=>K (I es.length)
      | .w (.one (.ref _ _ n))=>K (I n)
      | _=>False
    | .array n _=>K (I n)
    | .map _ _=>match x with
      | .w (.one (.mref b))=>match H[b]? with
        | some (.mp _ _ m)=>K (I m.len)
        | _=>False
      | .w (.one (.p (.c (.map none))))=>K (I 0)
      | _=>False
    | _=>False
  | none=>False
def capT (t : TypeId) (x : TV) (K : TV→Prop) : Prop:=match C.ty t with
  | some ti=>match ti.kind with
    | .slice _=>match x with
      | .w (.one (.p (.sl _ es full)))=>bif full then K (I es.length) else False
      | _=>False
    | _=>False
  | none=>False
def elemsT (sz : Nat) (x : TV) (H : List Entry) : Option (List (List PC)):=match x with
  | .w (.one (.p (.sl sz' es _)))=>if sz' = sz then some es else none
  | .w (.one (.ref b i n))=>match H[b]? with
    | some (.vec sz' es _)=>if sz' = sz then some ((es.drop i).take n) else none
    | _=>none
  | _=>none
def isSl (ti : Option TI) : Bool:=match ti with
  | some i=>match i.kind with
    | .slice _=>true
    | _=>false
  | none=>false
def appendT (t t' : TypeId) (s x : TV) (H : List Entry) (K : TV→List Entry→Prop) : Prop:=match C.ty t with
  | some ⟨.slice e,_,_,_,_⟩=>match C.ty e with
    | some ei=>match elemsT ei.size x H with
      | some xs=>bif !isSl (C.ty t') then False else match s with
        | .w (.one (.p (.sl _ [] full)))=>bif !full then False else xs.length * ei.bytes≤2 ^ 47 + 2 ^ 30∧xs.length≤2 ^ 47 + 2 ^ 30 ∧
            K (.w (.one (.ref H.length 0 xs.length))) (H ++ [.vec ei.size xs true])
        | .w (.one (.ref b i n))=>match H[b]? with
          | some (.vec sz es wr)=>bif !wr then False else if sz = ei.size then i + n≤es.length∧(n + xs.length) * ei.bytes≤2 ^ 47 + 2 ^ 30∧n + xs.length≤2 ^ 47 + 2 ^ 30 ∧
              K (.w (.one (.ref H.length 0 (n + xs.length)))) (H.set b .gone ++ [.vec ei.size ((es.drop i).take n ++ xs) true]) else False
          | _=>False
        | _=>False
      | none=>False
    | none=>False
  | _=>False
def ckOf : TK→Option CK
  | .int k=>some (.int k)
  | .bool=>some .bool
  | .str=>some .str
  | _=>none
def isKey (kt : CK) (v : Value) : Bool:=match kt,v with
  | .int k,.int k' _=>k == k'
  | .bool,.bool _=>true
  | .str,.string _=>true
  | _,_=>false
def aggK : TK→Bool
  | .array _ _=>true
  | .struct _=>true
  | _=>false
def makeMapT (t : TypeId) (H : List Entry) (K : TV→List Entry→Prop) : Prop:=match C.ty t with
  | some ⟨.map k e,_,_,_,_⟩=>match C.ty k,C.ty e with
    | some ki,some ei=>match ckOf ki.kind with
      | some ck=>K (.w (.one (.mref H.length))) (H ++ [.mp ck (aggK ei.kind) .new])
      | none=>False
    | _,_=>False
  | _=>False
def mapOf (H : List Entry) (ck : CK) (ag : Bool) : TV→Option (Option Nat×MP)
  | .w (.one (.p (.c (.map none))))=>some (none,.new)
  | .w (.one (.mref b))=>match H[b]? with
    | some (.mp ck' ag' es)=>if ck' = ck∧ag' = ag then some (some b,es) else none
    | _=>none
  | _=>none
def mapIds : TV→List Nat
  | .w (.one (.mref b))=>[b]
  | _=>[]
def okTup (ok : Bool) (v : TV) (b : Bool) : TV:=match ok,v with
  | true,.w x=>.tup [x,.one (.p (.c (.bool b)))]
  | _,v=>v
def lookupT (t : TypeId) (m k : TV) (ok : Bool) (H : List Entry) (K : TV→Prop) : Prop:=match C.ty t with
  | some ⟨.map kt e,_,_,_,_⟩=>match C.ty kt,C.ty e with
    | some ki,some ei=>match ckOf ki.kind,k with
      | some ck,.w (.one (.p (.c kv)))=>bif !isKey ck kv then False else match mapOf H ck (aggK ei.kind) m with
        | some (_,m)=>asType ei ((m.get kv).getD ei.zero) fun v=>K (okTup ok v (m.get kv).isSome)
        | none=>False
      | _,_=>False
    | _,_=>False
  | _=>False
def shapeOk : Bool→TW→Bool
  | true,.pagg _=>true
  | true,.agg _=>true
  | false,.one _=>true
  | _,_=>false
def mapUpdateT (t : TypeId) (m k x : TV) (H : List Entry) (K : List Entry→Prop) : Prop:=match C.ty t with
  | some ⟨.map kt e,_,_,_,_⟩=>match C.ty kt,C.ty e with
    | some ki,some ei=>match ckOf ki.kind,k,x with
      | some ck,.w (.one (.p (.c kv))),.w y=>bif !isKey ck kv then False else match pures y.cells with
        | some ps=>bif ps.length == ei.size && shapeOk (aggK ei.kind) y then match mapOf H ck (aggK ei.kind) m with
          | some (some b,m)=>K (H.set b (.mp ck (aggK ei.kind) (m.put kv ps)))
          | _=>False else False
        | none=>False
      | _,_,_=>False
    | _,_=>False
  | _=>False
def deleteT (t : TypeId) (m k : TV) (H : List Entry) (K : TV→List Entry→Prop) : Prop:=match C.ty t with
  | some ⟨.map kt e,_,_,_,_⟩=>match C.ty kt,C.ty e with
    | some ki,some ei=>match ckOf ki.kind,k with
      | some ck,.w (.one (.p (.c kv)))=>bif !isKey ck kv then False else match mapOf H ck (aggK ei.kind) m with
        | some (some b,m)=>K undefT (H.set b (.mp ck (aggK ei.kind) (m.del kv)))
        | _=>False
      | _,_=>False
    | _,_=>False
  | _=>False
def rangeT (t : TypeId) (m : TV) (H : List Entry) (K : TV→List Entry→Prop) : Prop:=match C.ty t with
  | some ⟨.map _ e,_,_,_,_⟩=>match m with
    | .w (.one (.mref b))=>match H[b]? with
      | some (.mp _ _ m)=>K (.w (.one (.ptr H.length 0 0))) (H ++ [.mit (some b) e m.cl [] m.cl])
      | _=>False
    | _=>False
  | _=>False
def pairT (x : PC) (v : TV) (l : List TW) (K : TV→Prop) : Prop:=match v with
  | .w y=>K (.tup (l ++ [.one (.p x),y]))
  | _=>False
def nextT (x : TV) (H : List Entry) (K : TV→List Entry→Prop) : Prop:=match x with
  | .w (.one (.ptr b 0 0))=>match H[b]? with
    | some (.mit (some bm) et since seen last)=>match H[bm]?,C.ty et with
      | some (.mp ck ag m),some ei=>bif ag == aggK ei.kind then (∀ p∈m.es,p.1 < since)∧since≤m.cl∧(m.left seen = []→K (.tup [.one (.p (.c (.bool false)))]) H) ∧
          ∀ p∈m.left seen,castCK ck (.c p.2.1) fun kc=>asType ei p.2.2 fun v=>pairT kc v [.one (.p (.c (.bool true)))] fun r=>K r (H.set b (.mit (some bm) et since (seen ++ [p.1]) m.cl)) else False
      | _,_=>False
    | _=>False
  | _=>False
def entryT (x : TV) (H : List Entry) (K : TV→Prop) : Prop:=match x with
  | .w (.one (.ptr b 0 0))=>match H[b]? with
    | some (.mit (some bm) et since seen last)=>match H[bm]?,C.ty et with
      | some (.mp ck ag m),some ei=>bif ag == aggK ei.kind then last = m.cl∧optP (m.at seen) fun p=>castCK ck (.c p.2.1) fun kc=>asType ei p.2.2 fun v=>pairT kc v [] K else False
      | _,_=>False
    | _=>False
  | _=>False
def appendZ (t t' : TypeId) (s : TV) (m : Int) (H : List Entry) (K : TV→List Entry→Prop) : Prop:=match C.ty t with
  | some ⟨.slice e,_,_,_,_⟩=>match C.ty e with
    | some ei=>match C.ty t' with
      | some ⟨.int .i64,_,_,_,_⟩=>match s with
        | .w (.one (.p (.sl _ [] full)))=>bif !full then False else (0 < m∧m * ei.bytes≤2 ^ 46∧m≤2 ^ 46) ∧
            K (.w (.one (.ref H.length 0 m.toNat))) (H ++ [.vec ei.size (List.replicate m.toNat ei.zero) true])
        | _=>False
      | _=>False
    | none=>False
  | _=>False
def appendD (t t' : TypeId) (s x : TV) (H : List Entry) (K : TV→List Entry→Prop) : Prop:=match x with
  | .w (.one (.p (.c (.int .i64 m))))=>appendZ C t t' s m H K
  | _=>appendT C t t' s x H K
def copyT (t : TypeId) (d x : TV) (H : List Entry) (K : TV→List Entry→Prop) : Prop:=match C.ty t with
  | some ⟨.slice e,_,_,_,_⟩=>match C.ty e with
    | some ei=>match elemsT ei.size x H,d with
      | some xs,.w (.one (.ref b i n))=>match H[b]? with
        | some (.vec sz es wr)=>bif !wr then False else if sz = ei.size then i + n≤es.length∧K (I (Nat.min xs.length n)) (H.set b (.vec sz (splice es i (xs.take n)) true)) else False
        | _=>False
      | _,_=>False
    | none=>False
  | _=>False
def clearT (t : TypeId) (x : TV) (H : List Entry) (K : TV→List Entry→Prop) : Prop:=match C.ty t with
  | some ⟨.slice e,_,_,_,_⟩=>match C.ty e with
    | some ei=>match x with
      | .w (.one (.ref b i n))=>match H[b]? with
        | some (.vec sz es wr)=>bif !wr then False else if sz = ei.size then i + n≤es.length∧K undefT (H.set b (.vec sz (splice es i (List.replicate n ei.zero)) true)) else False
        | _=>False
      | _=>False
    | none=>False
  | _=>False
def minmaxT (mx : Bool) : TV→List TV→(TV→Prop)→Prop
  | x,[],K=>K x
  | .w (.one (.p (.c (.int k x)))),.w (.one (.p (.c (.int _ y)))) :: r,K=>match mx with
    | true=>minmaxT mx (.c (.int k (if y > x then y else x))) r K
    | false=>minmaxT mx (.c (.int k (if y < x then y else x))) r K
  | _,_,_=>False
def tcIds : TC→List Nat
  | .ref b _ _=>[b]
  | .ptr b _ _=>[b]
  | .mref b=>[b]
  | .clo _ fs cs=>tcsIds fs ++ tcsIds cs
  | _=>[]
where tcsIds : List TC→List Nat
  | []=>[]
  | x :: r=>tcIds x ++ tcsIds r
def twIds : TW→List Nat
  | .one x=>tcIds x
  | .agg xs=>tcIds.tcsIds xs
  | .pagg _=>[]
def tvIds : TV→List Nat
  | .w x=>twIds x
  | .tup xs=>xs.flatMap twIds
def addNew (n : Nat) : List Nat→List Nat→List Nat
  | acc,[]=>acc
  | acc,x :: r=>bif acc.elem x || !Nat.blt x n then addNew n acc r else addNew n (acc ++ [x]) r
def entryIds : Option Entry→List Nat
  | some (.box cs)=>tcIds.tcsIds cs
  | some (.mit (some b) _ _ _ _)=>[b]
  | _=>[]
def reachFrom (H : List Entry) : Nat→Nat→List Nat→List Nat
  | 0,_,acc=>acc
  | n + 1,k,acc=>match acc[k]? with
    | some b=>reachFrom H n (k + 1) (addNew H.length acc (entryIds H[b]?))
    | none=>acc
def idxOf (b : Nat) : Nat→List Nat→Option Nat
  | _,[]=>none
  | k,x :: r=>bif x == b then some k else idxOf b (k + 1) r
def renTC (f : Nat→Option Nat) : TC→TC
  | .ref b i n=>match f b with
    | some b'=>.ref b' i n
    | none=>.junk
  | .ptr b i o=>match f b with
    | some b'=>.ptr b' i o
    | none=>.junk
  | .mref b=>match f b with
    | some b'=>.mref b'
    | none=>.junk
  | .clo g fs cs=>.clo g (renTCs f fs) (renTCs f cs)
  | x=>x
where renTCs (f : Nat→Option Nat) : List TC→List TC
  | []=>[]
  | x :: r=>renTC f x :: renTCs f r
def renTW (f : Nat→Option Nat) : TW→TW
  | .one x=>.one (renTC f x)
  | .agg xs=>.agg (renTC.renTCs f xs)
  | .pagg xs=>.pagg xs
def renTV (f : Nat→Option Nat) : TV→TV
  | .w x=>.w (renTW f x)
  | .tup xs=>.tup (xs.map (renTW f))
def renEntry (f : Nat→Option Nat) : Entry→Entry
  | .box cs=>.box (renTC.renTCs f cs)
  | .mit b t s seen l=>.mit (b.bind f) t s seen l
  | e=>e
def entAt (f : Nat→Option Nat) : Option Entry→Entry
  | some e=>renEntry f e
  | none=>.gone
def sub (H : List Entry) (f : Nat→Option Nat) : List Nat→List Entry
  | []=>[]
  | b :: r=>entAt f H[b]? :: sub H f r
def snapTC (H : List Entry) : TC→TC
  | .ref b i n=>match H[b]? with
    | some (.vec sz es _)=>.p (.sl sz ((es.drop i).take n) false)
    | _=>.junk
  | x=>x
def snapTV (H : List Entry) : TV→TV
  | .w (.one x)=>.w (.one (snapTC H x))
  | .w (.agg xs)=>.w (mkAgg (xs.map (snapTC H)))
  | x=>x
def refIds : List TC→List Nat
  | []=>[]
  | .ref b _ _ :: r=>b :: refIds r
  | _ :: r=>refIds r
def refsTV : TV→List Nat
  | .w x=>refIds x.cells
  | .tup _=>[]
def flatPC : PC→Bool
  | .c _=>true
  | _=>false
def flatTC : TC→Bool
  | .p x=>flatPC x
  | _=>false
def flatTW : TW→Bool
  | .one x=>flatTC x
  | .agg xs=>xs.all flatTC
  | .pagg xs=>xs.all flatPC
def flatTV : TV→Bool
  | .w x=>flatTW x
  | .tup xs=>xs.all flatTW
def lock1 (b : Nat) (H : List Entry) : List Entry:=match H[b]? with
  | some (.vec sz es _)=>H.set b (.vec sz es false)
  | _=>H
def lockAll : List Nat→List Entry→List Entry
  | [],H=>H
  | b :: r,H=>lockAll r (lock1 b H)
def putBack (ids : List Nat) (f : Nat→Option Nat) : List Nat→List Entry→List Entry→List Entry
  | b :: r,e :: H',H=>putBack ids f r H' (H.set b (renEntry f e))
  | _,H',H=>H ++ H'.map (renEntry f)
def snapAll (g : FuncId) (args : List TV) (H : List Entry) : List TV:=bif C.byRef g then args else args.map (snapTV H)
def passed (g : FuncId) (args : List TV) (H : List Entry) : List Nat:=reachFrom H H.length 0 (addNew H.length [] ((snapAll C g args H).flatMap tvIds))
def back (ids : List Nat) (n : Nat) (j : Nat) : Option Nat:=match ids[j]? with
  | some b=>some b
  | none=>some (n + (j - ids.length))
def lentIds (g : FuncId) (args : List TV) : List Nat:=bif C.byRef g then [] else args.flatMap refsTV
def callT (g : FuncId) (args : List TV) (H : List Entry) (K : TV→List Entry→Prop) : Prop :=
  let H1:=lockAll (lentIds C g args) H
  let ids:=passed C g args H
  C.call g ((snapAll C g args H).map (renTV fun b=>idxOf b 0 ids)) (sub H1 (fun b=>idxOf b 0 ids) ids) fun r H' =>
    K (renTV (back ids H.length) r) (bif !(lentIds C g args).isEmpty && (ids.isEmpty && flatTV r && H'.isEmpty) then H else putBack ids (back ids H.length) ids H' H1)
def isFn : Value→Option FuncId
  | .func (.func g) vs us=>bif vs.isEmpty && us.isEmpty then some g else none
  | _=>none
def argsT (c : Call) (ρ : Option TypeId→Operand→TV) : List TV:=(List.range c.args.size).map fun i=>match c.args[i]? with
  | some x=>ρ (c.argTypes[i]?) x
  | none=>junk
def calleeArgs (c : Call) (ρ : Option TypeId→Operand→TV) : Option (FuncId×List TV) :=
  match c.callee with
  | .value x=>match ρ none x with
    | .w (.one (.p (.c v)))=>match isFn v with
      | some g=>some (g,argsT c ρ)
      | none=>none
    | .w (.one (.clo g fs cs))=>some (g,fs.map (fun x=>.w (.one x)) ++ argsT c ρ ++ cs.map (fun x=>.w (.one x)))
    | _=>none
  | _=>none
def argT (c : Call) (ρ : Option TypeId→Operand→TV) (i : Nat) (K : TypeId→TV→Prop) : Prop:=match c.argTypes[i]? with
  | some t=>match c.args[i]? with
    | some x=>K t (ρ (some t) x)
    | none=>False
  | none=>False
def callOp (c : Call) (ρ : Option TypeId→Operand→TV) (H : List Entry) (K : TV→List Entry→Prop) : Prop :=
  match c.callee with
  | .builtin b=>match b with
    | .len=>argT c ρ 0 fun t x=>lenT C t x H fun v=>K v H
    | .cap=>argT c ρ 0 fun t x=>capT C t x fun v=>K v H
    | .append=>argT c ρ 0 fun t s=>argT c ρ 1 fun t' x=>appendD C t t' s x H K
    | .copy=>argT c ρ 0 fun t d=>argT c ρ 1 fun _ x=>copyT C t d x H K
    | .clear=>argT c ρ 0 fun t x=>clearT C t x H K
    | .delete=>argT c ρ 0 fun t x=>argT c ρ 1 fun _ k=>deleteT C t x k H K
    | .min=>match argsT c ρ with
      | x :: r=>minmaxT false x r fun v=>K v H
      | []=>False
    | .max=>match argsT c ρ with
      | x :: r=>minmaxT true x r fun v=>K v H
      | []=>False
    | _=>False
  | .value _=>match calleeArgs c ρ with
    | some (g,args)=>callT C g args H K
    | none=>False
  | .invoke _ _=>False
def asOne : TV→Option TC
  | .w (.one .junk)=>none
  | .w (.one x)=>some x
  | _=>none
def asOnes : List TV→Option (List TC)
  | []=>some []
  | x :: r=>match asOne x,asOnes r with
    | some y,some ys=>some (y :: ys)
    | _,_=>none
def partTy (t : TypeId) (i : Nat) : Option TypeId:=match C.ty t with
  | some ti=>match ti.kind with
    | .struct fs=>(fs[i]?).map (·.2)
    | .array _ e=>some e
    | .slice e=>some e
    | .map _ e=>some e
    | _=>none
  | none=>none
def opT (o : Oper) (tmps : List TV) (H : List Entry) (K : TV→List Entry→Prop) : Prop :=
  let ρ:=opd C tmps
  match o.op with
  | .move x | .assign x=>K (ρ (some o.type) x) H
  | .pick c a b=>match ρ none c with
    | .w (.one (.p (.c (.bool v))))=>br v fun v'=>match v' with
      | true=>K (ρ (some o.type) a) H
      | false=>K (ρ (some o.type) b) H
    | _=>False
  | .alloc t=>allocT C t H K
  | .box t x=>boxT C t (ρ (some t) x) H K
  | .build t parts=>buildT C t (parts.toList.map fun p=>(p.1,ρ (partTy C t p.1) p.2)) fun v=>K v H
  | .buildSlice t len parts=>buildSliceT C t len (parts.toList.map fun p=>(p.1,ρ (partTy C t p.1) p.2)) H K
  | .load t a=>match C.ty t,ρ none a with
    | some ti,.w (.one x)=>loadT ti x H fun v=>K v H
    | _,_=>False
  | .store t a x=>match C.ty t,ρ none a,ρ (some t) x with
    | some ti,.w (.one p),.w v=>bif okW v then storeT ti p v H fun H'=>K undefT H' else False
    | _,_,_=>False
  | .nilCheck x=>match ρ none x with
    | .w (.one (.ptr b i o))=>K (.w (.one (.ptr b i o))) H
    | .w (.one (.fptr cs o))=>K (.w (.one (.fptr cs o))) H
    | .w (.one (.clo g fs cs))=>K (.w (.one (.clo g fs cs))) H
    | .w (.one (.p (.c v)))=>match isFn v with
      | some g=>K (.c (.func (.func g) #[] #[])) H
      | none=>False
    | _=>False
  | .binOp op t x y _=>bif isNilK y then nilEqT C op t (ρ (some t) x) H fun v=>K v H else bif isNilP y then nilPT C op t (ρ (some t) x) fun v=>K v H else binT C op t (ρ (some t) x) (ρ (some t) y) fun v=>K v H
  | .unOp op _ x=>unT op (ρ none x) fun v=>K v H
  | .convert s d x=>convT C s d (ρ (some s) x) fun v=>K v H
  | .extract x i=>match ρ none x with
    | .tup xs=>match xs[i]? with
      | some y=>K (.w y) H
      | none=>False
    | _=>False
  | .fieldAddr t x f=>fieldAddrT C t (ρ none x) f fun v=>K v H
  | .field t x f=>fieldT C t (ρ (some t) x) f fun v=>K v H
  | .indexAddr t x i=>indexAddrT C t (ρ (some t) x) (ρ none i) H fun v=>K v H
  | .index t x i=>indexT C t (ρ (some t) x) (ρ none i) fun v=>K v H
  | .slice t x lo hi mx=>sliceT C t (ρ (some t) x) (lo.map (ρ none)) (hi.map (ρ none)) (mx.map (ρ none)) H fun v=>K v H
  | .makeSlice t l c=>makeSliceT C t (ρ none l) (ρ none c) H K
  | .makeFunc (.func g) first cap=>match asOnes (first.toList.map (ρ none)),asOnes (cap.toList.map (ρ none)) with
    | some fs,some cs=>K (.w (.one (.clo g fs cs))) H
    | _,_=>False
  | .makeMap t r=>match r with
    | none=>makeMapT C t H K
    | some _=>False
  | .range t x=>rangeT C t (ρ (some t) x) H K
  | .next x s=>bif s then False else nextT C (ρ none x) H K
  | .entry x=>entryT C (ρ none x) H fun v=>K v H
  | .lookup t x k ok=>lookupT C t (ρ (some t) x) (ρ none k) ok H fun v=>K v H
  | .mapUpdate t m k x | .insert t m k x=>mapUpdateT C t (ρ (some t) m) (ρ none k) (ρ (partTy C t 0) x) H fun H'=>K undefT H'
  | .call c=>callOp C c ρ H K
  | _=>False
def St.put (σ : List TV) (d : Option Tmp) (v : TV) : List TV:=match d with
  | some d=>σ.set d v
  | none=>σ
noncomputable def setK (l : List TV) : Nat→TV→(List TV→Prop)→Prop:=List.rec (motive:=fun _=>Nat→TV→(List TV→Prop)→Prop) (fun _ _ K=>K []) (fun x r ih n v K=>Nat.casesOn n (K (v :: r)) fun m=>ih m v fun l=>K (x :: l)) l
theorem setK_eq : ∀ (l : List TV) (n : Nat) (v : TV) (K : List TV→Prop),setK l n v K = K (l.set n v)
  | [],_,_,_=>rfl
  | _ :: _,0,_,_=>rfl
  | x :: r,n + 1,v,K=>setK_eq r n v fun l=>K (x :: l)
noncomputable def St.putK (σ : List TV) (d : Option Tmp) (v : TV) (K : List TV→Prop) : Prop:=match d with
  | some d=>setK σ d v K
  | none=>K σ
theorem putK_eq (σ : List TV) (d : Option Tmp) (v : TV) (K : List TV→Prop) : St.putK σ d v K = K (St.put σ d v):=by
  cases d with
  | none=>rfl
  | some d=>exact setK_eq σ d v K
noncomputable def stepT (ops : Array Oper) (i : Nat) (σ : St) (K : St→Prop) : Prop:=match ops[i]? with
  | none=>K σ
  | some o=>match o.guard with
    | none=>opT C o σ.tmps σ.heap fun v H=>St.putK σ.tmps o.dst v fun t=>K ⟨t,H⟩
    | some (g,want)=>match (ops[g]?).bind (·.dst) with
      | some d=>match σ.tmps[d]? with
        | some (.w (.one (.p (.c (.bool b)))))=>br b fun b'=>setK σ.tmps d (B b') fun tm =>
            bif b' == want then opT C o tm σ.heap fun v H=>St.putK tm o.dst v fun t=>K ⟨t,H⟩
            else St.putK tm o.dst undefT fun t=>K ⟨t,σ.heap⟩
        | some (.tup [])=>St.putK σ.tmps o.dst undefT fun t=>K ⟨t,σ.heap⟩
        | _=>False
      | none=>False
def stepT0 (ops : Array Oper) (i : Nat) (σ : St) (K : St→Prop) : Prop:=match ops[i]? with
  | none=>K σ
  | some o=>match o.guard with
    | none=>opT C o σ.tmps σ.heap fun v H=>K ⟨St.put σ.tmps o.dst v,H⟩
    | some (g,want)=>match (ops[g]?).bind (·.dst) with
      | some d=>match σ.tmps[d]? with
        | some (.w (.one (.p (.c (.bool b)))))=>br b fun b' =>
            let tm:=σ.tmps.set d (B b')
            bif b' == want then opT C o tm σ.heap fun v H=>K ⟨St.put tm o.dst v,H⟩
            else K ⟨St.put tm o.dst undefT,σ.heap⟩
        | some (.tup [])=>K ⟨St.put σ.tmps o.dst undefT,σ.heap⟩
        | _=>False
      | none=>False
theorem stepT_eq (ops : Array Oper) (i : Nat) (σ : St) (K : St→Prop) : stepT C ops i σ K = stepT0 C ops i σ K:=by
  unfold stepT stepT0
  simp only [putK_eq,setK_eq]
noncomputable def stepsT (ops : Array Oper) : List Nat→St→(St→Prop)→Prop
  | [],σ,K=>K σ
  | i :: r,σ,K=>stepT C ops i σ fun σ'=>stepsT ops r σ' K
noncomputable def nthD (l : List Oper) : Nat→Option Tmp:=List.rec (motive:=fun _=>Nat→Option Tmp) (fun _=>none) (fun x _ ih n=>Nat.casesOn n x.dst ih) l
theorem nthD_eq : ∀ (l : List Oper) (n : Nat),nthD l n = (l[n]?).bind (·.dst)
  | [],_=>rfl
  | _ :: _,0=>rfl
  | _ :: r,n + 1=>(nthD_eq r n).trans (by simp)
noncomputable def stepO (ds : List Oper) (o : Oper) (σ : St) (K : St→Prop) : Prop:=match o.guard with
  | none=>opT C o σ.tmps σ.heap fun v H=>St.putK σ.tmps o.dst v fun t=>K ⟨t,H⟩
  | some (g,want)=>match nthD ds g with
    | some d=>match getT σ.tmps d with
      | .w (.one (.p (.c (.bool b))))=>br b fun b'=>setK σ.tmps d (B b') fun tm =>
          bif b' == want then opT C o tm σ.heap fun v H=>St.putK tm o.dst v fun t=>K ⟨t,H⟩
          else St.putK tm o.dst undefT fun t=>K ⟨t,σ.heap⟩
      | .tup []=>St.putK σ.tmps o.dst undefT fun t=>K ⟨t,σ.heap⟩
      | _=>False
    | none=>False
theorem stepO_eq {ops : Array Oper} {i : Nat} {o : Oper} (ho : ops[i]? = some o) (σ : St) (K : St→Prop) : stepO C ops.toList o σ K = stepT C ops i σ K:=by
  unfold stepO stepT
  simp only [ho]
  cases o.guard with
  | none=>rfl
  | some gw =>
    obtain ⟨g,want⟩:=gw
    simp only [nthD_eq,Array.getElem?_toList]
    cases (ops[g]?).bind (·.dst) with
    | none=>rfl
    | some d =>
      simp only [getT_eq,List.getD_eq_getElem?_getD]
      cases σ.tmps[d]? with
      | none=>rfl
      | some x =>
        cases x with
        | tup xs=>cases xs <;> rfl
        | w y=>cases y with
          | one z=>cases z with
            | p q=>cases q with
              | c v=>cases v <;> rfl
              | sl _ _ _=>rfl
            | _=>rfl
          | _=>rfl
noncomputable def walkO (ds : List Oper) (K : St→Prop) (l : List Oper) : St→Prop:=List.rec (motive:=fun _=>St→Prop) K (fun o _ ih σ=>stepO C ds o σ ih) l
noncomputable def walkT (ops : Array Oper) (σ : St) (K : St→Prop) : Prop:=walkO C ops.toList K ops.toList σ
theorem walkO_eq {ops : Array Oper} (K : St→Prop) : ∀ (n i : Nat),i + n = ops.size→∀ σ,walkO C ops.toList K (ops.toList.drop i) σ = stepsT C ops (List.range' i n) σ K
  | 0,i,h,σ=>by
    rw [List.drop_eq_nil_of_le (by simpa using (by omega : ops.size≤i))]
    rfl
  | n + 1,i,h,σ=>by
    have hi : i < ops.toList.length:=by simpa using (by omega : i < ops.size)
    rw [List.drop_eq_getElem_cons hi,List.range'_succ]
    have ho : ops[i]? = some ops.toList[i]:=by rw [← Array.getElem?_toList,List.getElem?_eq_getElem hi]
    show stepO C ops.toList ops.toList[i] σ (walkO C ops.toList K (ops.toList.drop (i + 1))) = stepT C ops i σ fun σ'=>stepsT C ops (List.range' (i + 1) n) σ' K
    rw [stepO_eq C ho]
    congr 1
    funext σ'
    exact walkO_eq K n (i + 1) (by omega) σ'
theorem walkT_eq (ops : Array Oper) (σ : St) (K : St→Prop) : walkT C ops σ K = stepsT C ops (List.range ops.size) σ K:=by
  rw [List.range_eq_range']
  exact walkO_eq C K ops.size 0 (by omega) σ
noncomputable def firstRegion : Code→Nat:=fun c=>Code.rec (motive:=fun _=>Nat) 0 (fun id _ _=>id) (fun _ _ a _=>a) (fun _ _ _ a b=>bif a == 0 then b else a) (fun _ _ a=>a) (fun _ a=>a)
  (fun _ _ _ _ _ _=>0) (fun _=>0) (fun _ _=>0) (fun _=>0) (fun _=>0) 0 (fun _=>0) c
def keepFrom (ks : List Nat) : Nat→List TV→List TV
  | _,[]=>[]
  | k,x :: r=>(bif ks.elem k then x else junk) :: keepFrom ks (k + 1) r
def gc (m : Nat) (tmps : List TV) (H : List Entry) : St :=
  let ids:=reachFrom H H.length 0 (addNew H.length (List.range m) (tmps.flatMap tvIds))
  let f:=fun b=>idxOf b 0 ids
  ⟨tmps.map (renTV f),sub H f ids⟩
def iter (f : St→(TExit→St→Prop)→Prop) (norm : St→St) : Nat→St→(TExit→St→Prop)→Prop
  | 0,_,_=>False
  | n + 1,σ,K=>f (norm σ) fun e σ'=>match e with
    | .normal=>iter f norm n σ' K
    | e=>K e σ'
def rounds : Nat:=2 ^ 60
def simpleB : Op→Bool
  | .move _ | .pick .. | .load .. | .nilCheck _ | .binOp .. | .unOp .. | .convert .. | .makeFunc .. | .fieldAddr .. | .field .. | .indexAddr .. | .index .. | .slice .. | .extract .. | .build ..=>true
  | .call c=>match c.callee with
    | .builtin .len | .builtin .cap | .builtin .min | .builtin .max=>true
    | _=>false
  | _=>false
def lenRd : TV→Option Nat
  | .w (.one (.mref b))=>some b
  | _=>none
noncomputable def readsT (o : Oper) (tmps : List TV) : Option Nat:=match o.op with
  | .load _ a=>match opd C tmps none a with
    | .w (.one (.ptr b _ _))=>some b
    | _=>none
  | .call c=>match c.callee with
    | .builtin .len=>match c.args[0]? with
      | some x=>lenRd (opd C tmps none x)
      | none=>none
    | _=>none
  | _=>none
def ptrIds : TV→List Nat
  | .w (.one (.ptr b _ _))=>[b]
  | _=>[]
def ownIds : TV→List Nat
  | .w (.one (.ref b _ _))=>[b]
  | .w (.one (.mref b))=>[b]
  | _=>[]
noncomputable def modsT (o : Oper) (tmps : List TV) (H : List Entry) : List Nat:=match o.op with
  | .store _ a _=>ptrIds (opd C tmps none a)
  | .mapUpdate t m _ _ | .insert t m _ _=>mapIds (opd C tmps (some t) m)
  | .next x _=>ptrIds (opd C tmps none x)
  | .call c=>match c.callee with
    | .builtin _=>match c.args[0]? with
      | some x=>ownIds (opd C tmps none x)
      | none=>[]
    | _=>match calleeArgs c (opd C tmps) with
      | some (g,args)=>passed C g args H
      | none=>[]
  | _=>[]
def isLive : Option Entry→Bool
  | some .gone=>false
  | some _=>true
  | none=>false
def calm (H : List Entry) (bef : Array Nat) (j : Nat) (mods : List Nat) : List (Nat×Nat)→Bool
  | []=>true
  | (i,b) :: r=>((bef.getD j 0).testBit i || (!mods.elem b && isLive H[b]?)) && calm H bef j mods r
def allT : List Nat→(Nat→Prop)→Prop
  | [],_=>True
  | [i],f=>f i
  | i :: r,f=>f i∧allT r f
def simpleAt : Option Oper→Bool
  | some o=>simpleB o.op
  | none=>false
def pickT (ops : Array Oper) (late : List Nat) (listed : Array Bool) : List Nat→Option Nat
  | []=>none
  | i :: r=>bif (simpleAt ops[i]? && !late.elem i && Region.free .any ops listed i) then some i else pickT ops late listed r
noncomputable def drawnT (ops : Array Oper) (late : List Nat) (bef : Array Nat) : Nat→Array Bool→List (Nat×Nat)→Bool→St→(St→Prop)→Prop
  | 0,listed,_,many,σ,K=>match Region.ready .any ops listed with
    | []=>K (bif many then gc C.m σ.tmps σ.heap else σ)
    | _=>False
  | n + 1,listed,log,many,σ,K=>match Region.ready .any ops listed with
    | []=>K (bif many then gc C.m σ.tmps σ.heap else σ)
    | rs=>match pickT ops late listed rs with
      | some i=>stepT C ops i σ fun σ'=>drawnT ops late bef n (listed.setIfInBounds i true) (match ops[i]? with
          | some o=>match readsT C o σ.tmps with
            | some b=>(i,b) :: log
            | none=>log
          | none=>log) many σ' K
      | none=>allT rs fun i=>match ops[i]? with
        | some o=>bif calm σ.heap bef i (modsT C o σ.tmps σ.heap) log then
            stepT C ops i σ fun σ'=>drawnT ops late bef n (listed.setIfInBounds i true) log (many || 1 < rs.length) σ' K
          else False
        | none=>False
noncomputable def loopKey (body : Code) : Nat:=2 * firstRegion body
noncomputable def joinKey (c : Code) : Nat:=2 * firstRegion c + 1
def refNil1 (k : Nat) (σ : St) : St:=match σ.tmps[k]? with
  | some (.w (.one (.p x)))=>match x with
    | .sl sz es full=>match es with
      | []=>match full with
        | true=>⟨σ.tmps.set k (.w (.one (.ref σ.heap.length 0 0))),σ.heap ++ [.vec sz [] true]⟩
        | false=>σ
      | _=>σ
    | _=>σ
  | _=>σ
def refNil : List Nat→St→St
  | [],σ=>σ
  | k :: r,σ=>refNil r (refNil1 k σ)
def refBox1 (b c : Nat) (σ : St) : St:=match σ.heap[b]? with
  | some (.box cs)=>match cs[c]? with
    | some (.p x)=>match x with
      | .sl sz es full=>match es with
        | []=>match full with
          | true=>⟨σ.tmps,(σ.heap ++ [Entry.vec sz [] true]).set b (.box (cs.set c (.ref σ.heap.length 0 0)))⟩
          | false=>σ
        | _=>σ
      | _=>σ
    | _=>σ
  | _=>σ
def refBox : List (Nat×Nat)→St→St
  | [],σ=>σ
  | p :: r,σ=>refBox r (refBox1 p.1 p.2 σ)
def gcSt (m : Nat) (σ : St) : St:=gc m σ.tmps σ.heap
def boxNorm (m : Nat) (l : List (Nat×Nat)) (σ : St) : St:=match l with
  | []=>σ
  | _=>gcSt m (refBox l σ)
def normK (k : Nat) (σ : St) : St:=boxNorm C.m (C.nbox k) (gc C.m (keepFrom (C.keep k 0) 0 (refNil (C.nref k) σ).tmps) (refNil (C.nref k) σ).heap)
def outNo : TExit→Nat
  | .normal=>1
  | .ret=>2
  | .exit i=>i + 3
def normOut (k : Nat) (e : TExit) (σ : St) : St:=gc C.m (keepFrom (C.keep k (outNo e)) 0 σ.tmps) σ.heap
def setCond (x : Operand) (σ : St) (v : Bool) : St:=match x with
  | .tmp t=>⟨σ.tmps.set t (B v),σ.heap⟩
  | _=>σ
noncomputable def execT : Code→St→(TExit→St→Prop)→Prop:=fun c=>Code.rec (motive:=fun _=>St→(TExit→St→Prop)→Prop)
  (fun σ K=>K .normal σ)
  (fun id ops draw σ K=>match draw with
    | false=>walkT C ops σ (K .normal)
    | true=>bif Region.noSelect ops then drawnT C ops (C.late id) (Region.before ops) ops.size (Array.replicate ops.size false) [] false σ (K .normal) else False)
  (fun _ y a b σ K=>a σ fun e σ'=>match e with
    | .normal=>match C.loops (joinKey y) with
      | some J=>J (normK C (joinKey y) σ') K
      | none=>b σ' K
    | e=>K e σ')
  (fun x _ _ a b σ K=>match opd C σ.tmps none x with
    | .w (.one (.p (.c (.bool v))))=>br v fun v'=>match v' with
        | true=>a (setCond x σ true) K
        | false=>b (setCond x σ false) K
    | _=>False)
  (fun id _ a σ K=>a σ fun e σ'=>match e with
    | .exit id'=>bif id' == id then K .normal σ' else K (.exit id') σ'
    | e=>K e σ')
  (fun body a σ K=>match C.loops (loopKey body) with
    | some L=>L (normK C (loopKey body) σ) K
    | none=>iter a (normK C (loopKey body)) rounds σ K)
  (fun _ _ _ _ _ _ _ _=>False)
  (fun id σ K=>K (.exit id) σ)
  (fun _ _ _ _=>False)
  (fun _ _ _=>False)
  (fun _ _ _=>False)
  (fun σ K=>K .ret σ)
  (fun _ _ _=>False) c
def resultT (C : Ctx) (σ : St) : ResultVar→(TV→Prop)→Prop
  | .tmp t,K=>K (σ.tmps.getD t junk)
  | .cell a t,K=>match C.ty t,σ.tmps.getD a junk with
    | some ti,.w (.one x)=>loadT ti x σ.heap K
    | _,_=>False
def resultsT (C : Ctx) (σ : St) : List ResultVar→(List TV→Prop)→Prop
  | [],K=>K []
  | r :: rs,K=>resultT C σ r fun v=>resultsT C σ rs fun vs=>K (v :: vs)
def asWs : List TV→Option (List TW)
  | []=>some []
  | .w x :: r=>match asWs r with
    | some xs=>some (x :: xs)
    | none=>none
  | _=>none
def freezeW : TW→List Entry→Option (TW×List Entry)
  | .pagg xs,H=>some (.pagg xs,H)
  | .one x,H=>match freeze [x] H with
    | some ([p],H')=>some (.one (.p p),H')
    | _=>none
  | .agg xs,H=>match freeze xs H with
    | some (ps,H')=>some (.pagg ps,H')
    | none=>none
def freezeWs : List TW→List Entry→Option (List TW×List Entry)
  | [],H=>some ([],H)
  | x :: r,H=>match freezeW x H with
    | some (y,H1)=>match freezeWs r H1 with
      | some (ys,H2)=>some (y :: ys,H2)
      | none=>none
    | none=>none
def refRes : List TW→List Entry→List TW×List Entry
  | [],H=>([],H)
  | x :: r,H=>match x with
    | .one (.p (.sl sz [] true))=>(.one (.ref H.length 0 0) :: (refRes r (H ++ [Entry.vec sz [] true])).1,(refRes r (H ++ [Entry.vec sz [] true])).2)
    | x=>(x :: (refRes r H).1,(refRes r H).2)
def resW (fz rn : Bool) (xs : List TW) (H : List Entry) : Option (List TW×List Entry):=bif fz then freezeWs xs H else bif rn then some (refRes xs H) else some (xs,H)
def moveRef1 (k : Nat) (σ : St) : St:=match σ.tmps[k]? with
  | some (.w (.one (.ref b i n)))=>match σ.heap[b]? with
    | some (.vec sz es wr)=>bif wr then ⟨σ.tmps.set k (.w (.one (.ref σ.heap.length 0 n))),σ.heap.set b .gone ++ [Entry.vec sz (es.drop i) true]⟩ else σ
    | _=>σ
  | _=>σ
def moveRef : List Nat→St→St
  | [],σ=>σ
  | k :: r,σ=>moveRef r (moveRef1 k σ)
def oneOf : List TW→TV
  | [x]=>.w x
  | xs=>.tup xs
def retT (C : Ctx) (rs : List ResultVar) (σ : St) (K : TV→List Entry→Prop) : Prop :=
  resultsT C σ rs fun vs=>match asWs vs with
    | some xs=>match resW C.fz C.rnil xs σ.heap with
      | some (ys,H1)=>match gc C.m [oneOf ys] H1 with
        | ⟨[v'],H'⟩=>K v' H'
        | _=>False
      | none=>False
    | none=>False
noncomputable def funcT (fn : Func) (args : List TV) (H : List Entry) (K : TV→List Entry→Prop) : Prop:=match fn.body with
  | some c=>bif H.length == C.m then execT C c (moveRef C.take ⟨args ++ List.replicate (fn.ntmps - args.length) undefT,H⟩) fun e σ=>match e with
    | .exit _=>False
    | _=>retT C fn.results.toList σ K
    else False
  | none=>False
end
end Go.Eng
set_option linter.unusedSimpArgs false
namespace Go.Eng
open Go.RowKit
structure Place where
  blk : Nat
  off : Nat
  lim : Nat
theorem add_none (b o n : Nat) : (⟨b,o,none⟩ : Addr).add n = ⟨b,o + n,none⟩:=by
  unfold Addr.add; split <;> simp_all
inductive RepC (F : Nat→Prop) (w : World) : PC→Value→Prop where
  | c (v : Value) : v.oneCell' = true→RepC F w (.c v) v
  | nil (sz : Nat) (full : Bool) : RepC F w (.sl sz [] full) (.slice none 0 0)
  | sl (sz : Nat) (es : List (List PC)) (full : Bool) (a : Addr) (cap : Nat) (val : Nat→Nat→Value) :
      (es = []∨a.spot = none)→es.length≤cap→(full = true→cap = es.length)→(∀ e∈es,e.length = sz) →
      (∀ i e j x,es[i]? = some e→e[j]? = some x→F a.block∧w.cell? ⟨a.block,a.off + i * sz + j,none⟩ = some (val i j)) →
      (∀ i e j x,es[i]? = some e→e[j]? = some x→RepC F w x (val i j)) →
      RepC F w (.sl sz es full) (.slice (some a) es.length cap)
theorem RepC.one {F : Nat→Prop} {w : World} {x : PC} {v : Value} (h : RepC F w x v) : v.oneCell' = true:=by
  cases h with
  | c _ h=>exact h
  | nil=>rfl
  | sl=>rfl
theorem RepC.mono {F F' : Nat→Prop} {w w' : World} (hF : ∀ n,F n→F' n) (hw : ∀ n,F n→w'.heap[n]? = w.heap[n]?) {x : PC} {v : Value} (h : RepC F w x v) : RepC F' w' x v:=by
  induction h with
  | c v h=>exact .c v h
  | nil=>exact .nil _ _
  | sl sz es full a cap val h1 h2 h3 h6 h4 h5 ih =>
    refine .sl sz es full a cap val h1 h2 h3 h6 (fun i e j x he hx=>?_) ih
    obtain ⟨hf,hc⟩:=h4 i e j x he hx
    exact ⟨hF _ hf,(World.cell?_of_block (w:=w) (a:=⟨a.block,a.off + i * sz + j,none⟩) (hw _ hf)).trans hc⟩
def RepCs (F : Nat→Prop) (w : World) : List PC→List Value→Prop
  | [],[]=>True
  | x :: xs,v :: vs=>RepC F w x v∧RepCs F w xs vs
  | _,_=>False
theorem RepCs.mono {F F' : Nat→Prop} {w w' : World} (hF : ∀ n,F n→F' n) (hw : ∀ n,F n→w'.heap[n]? = w.heap[n]?) :
    ∀ {xs : List PC} {vs : List Value},RepCs F w xs vs→RepCs F' w' xs vs
  | [],[],_=>trivial
  | _ :: _,_ :: _,h=>⟨h.1.mono hF hw,RepCs.mono hF hw h.2⟩
  | [],_ :: _,h=>h.elim
  | _ :: _,[],h=>h.elim
theorem RepCs.length {F : Nat→Prop} {w : World} : ∀ {xs : List PC} {vs : List Value},RepCs F w xs vs→xs.length = vs.length
  | [],[],_=>rfl
  | _ :: _,_ :: _,h=>by simp [RepCs.length h.2]
  | [],_ :: _,h=>h.elim
  | _ :: _,[],h=>h.elim
theorem RepCs.get {F : Nat→Prop} {w : World} : ∀ {xs : List PC} {vs : List Value},RepCs F w xs vs→∀ {j : Nat} {x : PC},xs[j]? = some x→∃ v,vs[j]? = some v∧RepC F w x v
  | [],[],_,j,x,hx=>by simp at hx
  | x0 :: xs,v0 :: vs,h,0,x,hx=>by
    simp only [List.getElem?_cons_zero,Option.some.injEq] at hx
    subst hx
    exact ⟨v0,rfl,h.1⟩
  | x0 :: xs,v0 :: vs,h,j + 1,x,hx=>by
    simp only [List.getElem?_cons_succ] at hx ⊢
    exact RepCs.get h.2 hx
  | [],_ :: _,h,_,_,_=>h.elim
  | _ :: _,[],h,_,_,_=>h.elim
theorem RepCs.of_get {F : Nat→Prop} {w : World} : ∀ {xs : List PC} {vs : List Value},xs.length = vs.length→(∀ (j : Nat) (x : PC),xs[j]? = some x→∃ v,vs[j]? = some v∧RepC F w x v)→RepCs F w xs vs
  | [],[],_,_=>trivial
  | x :: xs,v :: vs,hl,h=>by
    refine ⟨?_,RepCs.of_get (by simpa using hl) fun j y hy=>?_⟩
    · obtain ⟨u,h1,h2⟩:=h 0 x rfl
      simp only [List.getElem?_cons_zero,Option.some.injEq] at h1
      exact h1▸h2
    · obtain ⟨u,h1,h2⟩:=h (j + 1) y (by simpa using hy)
      exact ⟨u,by simpa using h1,h2⟩
  | [],_ :: _,hl,_=>by simp at hl
  | _ :: _,[],hl,_=>by simp at hl
theorem RepCs.append {F : Nat→Prop} {w : World} : ∀ {xs ys : List PC} {vs us : List Value},RepCs F w xs vs→RepCs F w ys us→RepCs F w (xs ++ ys) (vs ++ us)
  | [],_,[],_,_,h=>h
  | _ :: _,_,_ :: _,_,h,h'=>⟨h.1,RepCs.append h.2 h'⟩
  | [],_,_ :: _,_,h,_=>h.elim
  | _ :: _,_,[],_,h,_=>h.elim
theorem RepCs.take {F : Nat→Prop} {w : World} : ∀ {xs : List PC} {vs : List Value} (n : Nat),RepCs F w xs vs→RepCs F w (xs.take n) (vs.take n)
  | _,_,0,_=>by simp [RepCs]
  | [],[],_ + 1,_=>trivial
  | _ :: _,_ :: _,n + 1,h=>⟨h.1,RepCs.take n h.2⟩
  | [],_ :: _,_ + 1,h=>h.elim
  | _ :: _,[],_ + 1,h=>h.elim
theorem RepCs.drop {F : Nat→Prop} {w : World} : ∀ {xs : List PC} {vs : List Value} (n : Nat),RepCs F w xs vs→RepCs F w (xs.drop n) (vs.drop n)
  | _,_,0,h=>h
  | [],[],_ + 1,_=>trivial
  | _ :: _,_ :: _,n + 1,h=>RepCs.drop n h.2
  | [],_ :: _,_ + 1,h=>h.elim
  | _ :: _,[],_ + 1,h=>h.elim
theorem RepCs.one {F : Nat→Prop} {w : World} : ∀ {xs : List PC} {vs : List Value},RepCs F w xs vs→∀ v∈vs,v.oneCell' = true
  | [],[],_,v,hv=>by cases hv
  | _ :: _,_ :: _,h,v,hv=>by
    rcases List.mem_cons.1 hv with rfl | hv
    · exact h.1.one
    · exact RepCs.one h.2 v hv
  | [],_ :: _,h,_,_=>h.elim
  | _ :: _,[],h,_,_=>h.elim
def Entry.sz : Entry→Nat
  | .vec sz _ _=>sz
  | _=>0
def Entry.cnt : Entry→Nat
  | .vec _ es _=>es.length
  | _=>0
def Entry.live : Entry→Bool
  | .gone=>false
  | _=>true
def Entry.isVec : Entry→Bool
  | .vec ..=>true
  | _=>false
section
variable (F : Nat→Prop) (μ : List (Option Place)) (H : List Entry) (w : World)
def RefOk (b i n : Nat) (v : Value) : Prop :=
  b < H.length∧∃ base cap,v = .slice base n cap∧n≤cap∧∀ sz es wr,H[b]? = some (.vec sz es wr)→i + n≤es.length ∧
    (cap = 0∨∃ pl,μ[b]? = some (some pl)∧base = some ⟨pl.blk,pl.off + i * sz,none⟩∧pl.off + (i + cap) * sz≤pl.lim)
def PtrOk (b i o : Nat) (v : Value) : Prop :=
  b < H.length∧∃ B O,v = .pointer (some ⟨B,O,none⟩)∧∀ e,H[b]? = some e→e.live = true→∃ pl,μ[b]? = some (some pl)∧B = pl.blk∧O = pl.off + i * e.sz + o
def MapOk (b : Nat) (v : Value) : Prop :=
  b < H.length∧∃ B,v = .map (some B)∧∀ e,H[b]? = some e→e.live = true→∃ pl,μ[b]? = some (some pl)∧B = pl.blk
def FptrOk (cs : List PC) (o : Nat) (v : Value) : Prop :=
  ∃ a : Addr,v = .pointer (some ⟨a.block,a.off + o,none⟩)∧∀ j x,cs[j]? = some x→F a.block∧∃ u,w.cell? ⟨a.block,a.off + j,none⟩ = some u∧RepC F w x u
def RepT : TC→Value→Prop
  | .p x,v=>RepC F w x v
  | .ref b i n,v=>RefOk μ H b i n v
  | .ptr b i o,v=>PtrOk μ H b i o v
  | .fptr cs o,v=>FptrOk F w cs o v
  | .clo f fs cs,v=>∃ vs us : Array Value,v = .func (.func f) vs us∧RepTs fs vs.toList∧RepTs cs us.toList
  | .mref b,v=>MapOk μ H b v
  | .junk,_=>True
where RepTs : List TC→List Value→Prop
  | [],[]=>True
  | x :: xs,v :: vs=>(v.oneCell' = true∧RepT x v)∧RepTs xs vs
  | _,_=>False
abbrev RepTs:=@RepT.RepTs
def RepW : TW→Value→Prop
  | .one x,v=>RepT F μ H w x v
  | .agg xs,v=>∃ cs : Array Value,v = .agg cs∧RepTs F μ H w xs cs.toList
  | .pagg xs,v=>∃ cs : Array Value,v = .agg cs∧RepCs F w xs cs.toList
def RepWs : List TW→List Value→Prop
  | [],[]=>True
  | x :: xs,v :: vs=>RepW F μ H w x v∧RepWs xs vs
  | _,_=>False
def RepV : TV→Value→Prop
  | .w x,v=>RepW F μ H w x v
  | .tup xs,v=>∃ vs : Array Value,v = .tuple vs∧RepWs F μ H w xs vs.toList
def RepVs : List TV→List Value→Prop
  | [],[]=>True
  | x :: xs,v :: vs=>RepV F μ H w x v∧RepVs xs vs
  | _,_=>False
end
theorem RepT.one {F : Nat→Prop} {μ : List (Option Place)} {H : List Entry} {w : World} {x : TC} {v : Value} (h : RepT F μ H w x v) (hx : x≠.junk) : v.oneCell' = true:=by
  cases x with
  | p x=>exact RepC.one h
  | ref b i n=>obtain ⟨_,_,_,rfl,_⟩:=h; rfl
  | ptr b i o=>obtain ⟨_,_,_,rfl,_⟩:=h; rfl
  | fptr cs o=>obtain ⟨a,rfl,_⟩:=h; rfl
  | clo f fs cs=>obtain ⟨vs,us,rfl,_⟩:=h; rfl
  | mref b=>obtain ⟨_,_,rfl,_⟩:=h; rfl
  | junk=>exact absurd rfl hx
structure Le (F : Nat→Prop) (μ : List (Option Place)) (H : List Entry) (w : World) (F' : Nat→Prop) (μ' : List (Option Place)) (H' : List Entry) (w' : World) : Prop where
  fr : ∀ n,F n→F' n
  heap : ∀ n,F n→w'.heap[n]? = w.heap[n]?
  len : H.length≤H'.length
  ent : ∀ b e',b < H.length→H'[b]? = some e'→e'.live = true→∃ e,H[b]? = some e∧e.live = true∧e.sz = e'.sz∧e.isVec = e'.isVec∧e.cnt≤e'.cnt∧μ'[b]? = μ[b]?
section
variable {F F' F'' : Nat→Prop} {μ μ' μ'' : List (Option Place)} {H H' H'' : List Entry} {w w' w'' : World}
theorem Le.refl : Le F μ H w F μ H w:=⟨fun _ h=>h,fun _ _=>rfl,Nat.le_refl _,fun _ e' _ h h'=>⟨e',h,h',rfl,rfl,Nat.le_refl _,rfl⟩⟩
theorem Le.trans (h : Le F μ H w F' μ' H' w') (k : Le F' μ' H' w' F'' μ'' H'' w'') : Le F μ H w F'' μ'' H'' w'' :=
  ⟨fun n hn=>k.fr n (h.fr n hn),fun n hn=>(k.heap n (h.fr n hn)).trans (h.heap n hn),Nat.le_trans h.len k.len,fun b e' hb he' hl=>by
    obtain ⟨e1,a1,a2,a3,a4,a6,a5⟩:=k.ent b e' (Nat.lt_of_lt_of_le hb h.len) he' hl
    obtain ⟨e2,b1,b2,b3,b4,b6,b5⟩:=h.ent b e1 hb a1 a2
    exact ⟨e2,b1,b2,b3.trans a3,b4.trans a4,Nat.le_trans b6 a6,a5.trans b5⟩⟩
theorem RefOk.le (h : Le F μ H w F' μ' H' w') {b i n : Nat} {v : Value} (r : RefOk μ H b i n v) : RefOk μ' H' b i n v:=by
  obtain ⟨hb,base,cap,k1,k2,k3⟩:=r
  refine ⟨Nat.lt_of_lt_of_le hb h.len,base,cap,k1,k2,fun sz es wr he=>?_⟩
  obtain ⟨e,h1,h2,h3,h4,h6,h5⟩:=h.ent b _ hb he rfl
  cases e with
  | vec sz' es' wr' =>
    have : sz' = sz:=h3
    subst this
    have h6 : es'.length≤es.length:=h6
    refine ⟨Nat.le_trans (k3 _ _ _ h1).1 h6,?_⟩
    exact (k3 _ _ _ h1).2.imp id fun ⟨pl,q1,q2,q3⟩=>⟨pl,by rw [h5]; exact q1,q2,q3⟩
  | _=>simp [Entry.isVec] at h4
theorem PtrOk.le (h : Le F μ H w F' μ' H' w') {b i o : Nat} {v : Value} (r : PtrOk μ H b i o v) : PtrOk μ' H' b i o v:=by
  obtain ⟨hb,B,O,k1,k2⟩:=r
  refine ⟨Nat.lt_of_lt_of_le hb h.len,B,O,k1,fun e he hl=>?_⟩
  obtain ⟨e',h1,h2,h3,h4,h6,h5⟩:=h.ent b _ hb he hl
  obtain ⟨pl,q1,q2,q3⟩:=k2 _ h1 h2
  exact ⟨pl,by rw [h5]; exact q1,q2,by rw [← h3]; exact q3⟩
theorem MapOk.le (h : Le F μ H w F' μ' H' w') {b : Nat} {v : Value} (r : MapOk μ H b v) : MapOk μ' H' b v:=by
  obtain ⟨hb,B,k1,k2⟩:=r
  refine ⟨Nat.lt_of_lt_of_le hb h.len,B,k1,fun e he hl=>?_⟩
  obtain ⟨e',h1,h2,h3,h4,h6,h5⟩:=h.ent b _ hb he hl
  obtain ⟨pl,q1,q2⟩:=k2 _ h1 h2
  exact ⟨pl,by rw [h5]; exact q1,q2⟩
theorem FptrOk.le (h : Le F μ H w F' μ' H' w') {cs : List PC} {o : Nat} {v : Value} (r : FptrOk F w cs o v) : FptrOk F' w' cs o v:=by
  obtain ⟨a,rfl,h2⟩:=r
  refine ⟨a,rfl,fun j x hx=>?_⟩
  obtain ⟨hf,u,hu,hr⟩:=h2 j x hx
  exact ⟨h.fr _ hf,u,(World.cell?_of_block (w:=w) (a:=⟨a.block,a.off + j,none⟩) (h.heap _ hf)).trans hu,hr.mono h.fr h.heap⟩
mutual
theorem RepT.le (h : Le F μ H w F' μ' H' w') : ∀ {x : TC} {v : Value},RepT F μ H w x v→RepT F' μ' H' w' x v
  | .p _,_,r=>RepC.mono h.fr h.heap r
  | .ref _ _ _,_,r=>RefOk.le h r
  | .ptr _ _ _,_,r=>PtrOk.le h r
  | .fptr _ _,_,r=>FptrOk.le h r
  | .clo _ _ _,_,⟨vs,us,e,r1,r2⟩=>⟨vs,us,e,RepTs.le h r1,RepTs.le h r2⟩
  | .mref _,_,r=>MapOk.le h r
  | .junk,_,_=>trivial
theorem RepTs.le (h : Le F μ H w F' μ' H' w') : ∀ {xs : List TC} {vs : List Value},RepTs F μ H w xs vs→RepTs F' μ' H' w' xs vs
  | [],[],_=>trivial
  | _ :: _,_ :: _,r=>⟨⟨r.1.1,RepT.le h r.1.2⟩,RepTs.le h r.2⟩
  | [],_ :: _,r=>r.elim
  | _ :: _,[],r=>r.elim
end
theorem RepW.le (h : Le F μ H w F' μ' H' w') {x : TW} {v : Value} (r : RepW F μ H w x v) : RepW F' μ' H' w' x v:=by
  cases x with
  | one x=>exact RepT.le h r
  | agg xs=>obtain ⟨cs,e,r⟩:=r; exact ⟨cs,e,RepTs.le h r⟩
  | pagg xs=>obtain ⟨cs,e,r⟩:=r; exact ⟨cs,e,r.mono h.fr h.heap⟩
theorem RepWs.le (h : Le F μ H w F' μ' H' w') : ∀ {xs : List TW} {vs : List Value},RepWs F μ H w xs vs→RepWs F' μ' H' w' xs vs
  | [],[],_=>trivial
  | _ :: _,_ :: _,r=>⟨r.1.le h,RepWs.le h r.2⟩
  | [],_ :: _,r=>r.elim
  | _ :: _,[],r=>r.elim
theorem RepV.le (h : Le F μ H w F' μ' H' w') {x : TV} {v : Value} (r : RepV F μ H w x v) : RepV F' μ' H' w' x v:=by
  cases x with
  | w x=>exact RepW.le h r
  | tup xs=>obtain ⟨vs,e,r⟩:=r; exact ⟨vs,e,r.le h⟩
theorem RepVs.le (h : Le F μ H w F' μ' H' w') : ∀ {xs : List TV} {vs : List Value},RepVs F μ H w xs vs→RepVs F' μ' H' w' xs vs
  | [],[],_=>trivial
  | _ :: _,_ :: _,r=>⟨r.1.le h,RepVs.le h r.2⟩
  | [],_ :: _,r=>r.elim
  | _ :: _,[],r=>r.elim
theorem RepTs.length : ∀ {xs : List TC} {vs : List Value},RepTs F μ H w xs vs→xs.length = vs.length
  | [],[],_=>rfl
  | _ :: _,_ :: _,r=>by simp [RepTs.length r.2]
  | [],_ :: _,r=>r.elim
  | _ :: _,[],r=>r.elim
theorem RepTs.get : ∀ {xs : List TC} {vs : List Value},RepTs F μ H w xs vs→∀ {j : Nat} {x : TC},xs[j]? = some x→∃ v,vs[j]? = some v∧v.oneCell' = true∧RepT F μ H w x v
  | [],[],_,j,x,hx=>by simp at hx
  | x0 :: xs,v0 :: vs,h,0,x,hx=>by
    simp only [List.getElem?_cons_zero,Option.some.injEq] at hx
    subst hx
    exact ⟨v0,rfl,h.1⟩
  | x0 :: xs,v0 :: vs,h,j + 1,x,hx=>by
    simp only [List.getElem?_cons_succ] at hx ⊢
    exact RepTs.get h.2 hx
  | [],_ :: _,h,_,_,_=>h.elim
  | _ :: _,[],h,_,_,_=>h.elim
theorem RepTs.of_get : ∀ {xs : List TC} {vs : List Value},xs.length = vs.length→(∀ (j : Nat) (x : TC),xs[j]? = some x→∃ v,vs[j]? = some v∧v.oneCell' = true∧RepT F μ H w x v)→RepTs F μ H w xs vs
  | [],[],_,_=>trivial
  | x :: xs,v :: vs,hl,h=>by
    refine ⟨?_,RepTs.of_get (by simpa using hl) fun j y hy=>?_⟩
    · obtain ⟨u,h1,h2⟩:=h 0 x rfl
      simp only [List.getElem?_cons_zero,Option.some.injEq] at h1
      exact h1▸h2
    · obtain ⟨u,h1,h2⟩:=h (j + 1) y (by simpa using hy)
      exact ⟨u,by simpa using h1,h2⟩
  | [],_ :: _,hl,_=>by simp at hl
  | _ :: _,[],hl,_=>by simp at hl
theorem RepTs.append : ∀ {xs ys : List TC} {vs us : List Value},RepTs F μ H w xs vs→RepTs F μ H w ys us→RepTs F μ H w (xs ++ ys) (vs ++ us)
  | [],_,[],_,_,h=>h
  | _ :: _,_,_ :: _,_,h,h'=>⟨h.1,RepTs.append h.2 h'⟩
  | [],_,_ :: _,_,h,_=>h.elim
  | _ :: _,_,[],_,h,_=>h.elim
theorem RepTs.take : ∀ {xs : List TC} {vs : List Value} (n : Nat),RepTs F μ H w xs vs→RepTs F μ H w (xs.take n) (vs.take n)
  | _,_,0,_=>by simp [RepTs,RepT.RepTs]
  | [],[],_ + 1,_=>trivial
  | _ :: _,_ :: _,n + 1,h=>⟨h.1,RepTs.take n h.2⟩
  | [],_ :: _,_ + 1,h=>h.elim
  | _ :: _,[],_ + 1,h=>h.elim
theorem RepTs.drop : ∀ {xs : List TC} {vs : List Value} (n : Nat),RepTs F μ H w xs vs→RepTs F μ H w (xs.drop n) (vs.drop n)
  | _,_,0,h=>h
  | [],[],_ + 1,_=>trivial
  | _ :: _,_ :: _,n + 1,h=>RepTs.drop n h.2
  | [],_ :: _,_ + 1,h=>h.elim
  | _ :: _,[],_ + 1,h=>h.elim
theorem RepTs.one : ∀ {xs : List TC} {vs : List Value},RepTs F μ H w xs vs→∀ v∈vs,v.oneCell' = true
  | [],[],_,v,hv=>by cases hv
  | _ :: _,_ :: _,h,v,hv=>by
    rcases List.mem_cons.1 hv with rfl | hv
    · exact h.1.1
    · exact RepTs.one h.2 v hv
  | [],_ :: _,h,_,_=>h.elim
  | _ :: _,[],h,_,_=>h.elim
theorem RepTs.of_pure : ∀ {xs : List PC} {vs : List Value},RepCs F w xs vs→RepTs F μ H w (xs.map .p) vs
  | [],[],_=>trivial
  | _ :: _,_ :: _,h=>⟨⟨h.1.one,h.1⟩,RepTs.of_pure h.2⟩
  | [],_ :: _,h=>h.elim
  | _ :: _,[],h=>h.elim
theorem RepTs.pures : ∀ {xs : List TC} {ps : List PC} {vs : List Value},pures xs = some ps→RepTs F μ H w xs vs→RepCs F w ps vs
  | [],ps,[],hp,_=>by simp only [Eng.pures,Option.some.injEq] at hp; subst hp; trivial
  | x :: xs,ps,v :: vs,hp,h=>by
    cases x with
    | p x =>
      simp only [Eng.pures] at hp
      cases hq : Eng.pures xs with
      | none=>simp [hq] at hp
      | some qs =>
        simp only [hq,Option.some.injEq] at hp
        subst hp
        exact ⟨h.1.2,RepTs.pures hq h.2⟩
    | _=>simp [Eng.pures] at hp
  | [],_,_ :: _,_,h=>h.elim
  | _ :: _,_,[],_,h=>h.elim
theorem RepW.cells {x : TW} {v : Value} (h : RepW F μ H w x v) (hx : okW x = true) : RepTs F μ H w x.cells v.cells.toList:=by
  cases x with
  | one x =>
    have hn : x≠.junk:=fun e=>by subst e; simp [okW] at hx
    have h1:=RepT.one h hn
    have : v.cells = #[v]:=by cases v <;> first | rfl | simp [Value.oneCell'] at h1
    rw [this]
    exact ⟨⟨h1,h⟩,trivial⟩
  | agg xs=>obtain ⟨cs,rfl,r⟩:=h; exact r
  | pagg xs=>obtain ⟨cs,rfl,r⟩:=h; exact RepTs.of_pure r
theorem RepW.mkAgg {xs : List TC} {cs : Array Value} (h : RepTs F μ H w xs cs.toList) : RepW F μ H w (mkAgg xs) (.agg cs):=by
  unfold Eng.mkAgg
  split
  · rename_i ps hp; exact ⟨cs,rfl,RepTs.pures hp h⟩
  · exact ⟨cs,rfl,h⟩
def RepE (F : Nat→Prop) (w : World) (ag : Bool) (cs : List PC) (v : Value) : Prop:=∃ vs : List Value,v = (bif ag then .agg vs.toArray else vs.headD undef)∧RepCs F w cs vs
def RepEs (F : Nat→Prop) (w : World) (kt : CK) (ag : Bool) : List (Nat×Value×List PC)→List MapEntry→Prop
  | [],[]=>True
  | p :: ps,e :: es=>(e.born = p.1∧e.key = p.2.1∧isKey kt p.2.1 = true∧RepE F w ag p.2.2 e.val)∧RepEs F w kt ag ps es
  | _,_=>False
theorem RepE.mono {F F' : Nat→Prop} {w w' : World} (h1 : ∀ n,F n→F' n) (h2 : ∀ n,F n→w'.heap[n]? = w.heap[n]?) {ag : Bool} {cs : List PC} {v : Value} (h : RepE F w ag cs v) : RepE F' w' ag cs v:=by
  obtain ⟨vs,e,r⟩:=h
  exact ⟨vs,e,r.mono h1 h2⟩
theorem RepEs.mono {F F' : Nat→Prop} {w w' : World} (h1 : ∀ n,F n→F' n) (h2 : ∀ n,F n→w'.heap[n]? = w.heap[n]?) {kt : CK} {ag : Bool} : ∀ {ps : List (Nat×Value×List PC)} {es : List MapEntry},RepEs F w kt ag ps es→RepEs F' w' kt ag ps es
  | [],[],_=>trivial
  | _ :: _,_ :: _,h=>⟨⟨h.1.1,h.1.2.1,h.1.2.2.1,h.1.2.2.2.mono h1 h2⟩,RepEs.mono h1 h2 h.2⟩
  | [],_ :: _,h=>h.elim
  | _ :: _,[],h=>h.elim
theorem RepEs.length {F : Nat→Prop} {w : World} {ck : CK} {ag : Bool} : ∀ {ps : List (Nat×Value×List PC)} {es : List MapEntry},RepEs F w ck ag ps es→ps.length = es.length
  | [],[],_=>rfl
  | _ :: _,_ :: _,h=>by simp [RepEs.length h.2]
  | [],_ :: _,h=>h.elim
  | _ :: _,[],h=>h.elim
def EntOk (F : Nat→Prop) (μ : List (Option Place)) (H : List Entry) (w : World) (e : Entry) (mb : Option Place) : Prop:=match e with
  | .gone=>True
  | .box cs=>∃ pl vs ty,mb = some pl∧w.heap[pl.blk]? = some (.cells vs ty (0,0))∧(vs.size = pl.lim∧pl.off≤vs.size)∧¬ F pl.blk∧RepTs F μ H w cs ((vs.toList.drop pl.off).take cs.length)
  | .pbox cs=>∃ pl vs ty,mb = some pl∧w.heap[pl.blk]? = some (.cells vs ty (0,0))∧(vs.size = pl.lim∧pl.off≤vs.size)∧¬ F pl.blk∧RepCs F w cs ((vs.toList.drop pl.off).take cs.length)
  | .vec sz es wr=>(∀ x∈es,x.length = sz)∧((mb = none∧es = [])∨∃ pl vs ty fz,mb = some pl∧w.heap[pl.blk]? = some (.cells vs ty fz)∧(vs.size = pl.lim∧pl.off≤vs.size) ∧
      (wr = true→fz = (0,0)∧¬ F pl.blk)∧(wr = false→F pl.blk)∧RepCs F w es.flatten ((vs.toList.drop pl.off).take (es.length * sz)))
  | .mp kt ag m=>∃ pl arr,mb = some pl∧w.heap[pl.blk]? = some (.map arr m.cl)∧¬ F pl.blk∧RepEs F w kt ag m.es arr.toList
  | .mit b et since seen last=>∃ pl B,mb = some pl∧pl.off = 0∧w.heap[pl.blk]? = some (.mapIter (some B) since seen.toArray last)∧¬ F pl.blk∧since≤last∧∀ b0,b = some b0→MapOk μ H b0 (.map (some B))
def Entry.owned : Entry→Bool
  | .gone=>false
  | .vec _ _ wr=>wr
  | _=>true
structure Base where
  w0 : World
  OW : Nat→Prop
  F0 : Nat→Prop
  μ0 : List (Option Place)
  H0 : List Entry
  m : Nat
structure HeapOk (A : Base) (F : Nat→Prop) (μ : List (Option Place)) (H : List Entry) (w : World) : Prop where
  len : μ.length = H.length
  ent : ∀ b e,H[b]? = some e→EntOk F μ H w e (μ.getD b none)
  dist : ∀ (b c : Nat) (e f : Entry) (pl ql : Place),b≠c→H[b]? = some e→e.owned = true→μ[b]? = some (some pl)→H[c]? = some f→f.owned = true→μ[c]? = some (some ql)→pl.blk≠ql.blk
  os : w.os = A.w0.os
  tape : w.tape = A.w0.tape
  output : w.output = A.w0.output
  size : A.w0.heap.size≤w.heap.size
  block : ∀ n,n < A.w0.heap.size→¬ A.OW n→w.heap[n]? = A.w0.heap[n]?
  own : ∀ (b : Nat) (e : Entry) (pl : Place),H[b]? = some e→e.owned = true→μ[b]? = some (some pl)→A.OW pl.blk∨A.w0.heap.size≤pl.blk
  fr0 : ∀ n,A.F0 n→F n
  fr1 : ∀ n,F n→A.F0 n∨A.OW n∨A.w0.heap.size≤n
  frlt : ∀ n,F n→n < w.heap.size
  held : ∀ (b : Nat) (e : Entry),b < A.m→H[b]? = some e→e.live = true→μ[b]? = A.μ0[b]?∧∃ e0,A.H0[b]? = some e0∧e0.live = true∧e0.sz = e.sz∧e0.isVec = e.isVec∧e0.cnt≤e.cnt
  mle : A.m≤H.length
end
end Go.Eng
namespace Go.Eng
open Go.RowKit
def kindOf : TypeDesc→TK
  | .int k=>.int k
  | .bool=>.bool
  | .string=>.str
  | .slice e=>.slice e
  | .array n e=>.array n e
  | .struct fs=>.struct (fs.toList.map fun f=>(f.offset,f.type))
  | .pointer e=>.ptr e
  | .func _ _ _=>.func
  | .map k e=>.map k e
  | _=>.other
theorem kind_map {d : TypeDesc} {k e : TypeId} (h : kindOf d = .map k e) : d = .map k e:=by
  cases d <;> simp [kindOf] at h
  rw [h.1,h.2]
def oneCK : List CK→List CK
  | [ck]=>[ck]
  | _=>[]
def cksOf (P : Program) : Nat→TypeId→List CK
  | 0,_=>[]
  | d + 1,t=>match P.underlying t with
    | some (.int k)=>[.int k]
    | some .bool=>[.bool]
    | some .string=>[.str]
    | some (.slice e)=>[.slice (P.cellsOf e)]
    | some (.struct fs)=>fs.toList.flatMap fun f=>cksOf P d f.type
    | some (.array n e)=>bif Nat.blt (n * P.cellsOf e) 65 then (List.replicate n (cksOf P d e)).flatten else oneCK (cksOf P d e)
    | _=>[.other]
def eqFieldsT (rec : TypeId→Option (List CK)) : Nat→List Field→Option (List CK)
  | _,[]=>some []
  | o, f :: fs => bif f.name == "_" || !(f.offset == o) then none else match rec f.type with
    | some cs=>match eqFieldsT rec (o + cs.length) fs with
      | some r=>some (cs ++ r)
      | none=>none
    | none=>none
def eqCore (P : Program) (rec : TypeId→Option (List CK)) (t : TypeId) : Option (List CK):=match P.underlying t with
  | some (.int k)=>some [.int k]
  | some .bool=>some [.bool]
  | some .string=>some [.str]
  | some (.struct fs)=>bif P.stoodInHeld t then none else eqFieldsT rec 0 fs.toList
  | some (.array n e)=>match rec e with
    | some cs=>bif P.cellsOf e == cs.length then some (List.replicate n cs).flatten else none
    | none=>none
  | _=>none
def eqType (P : Program) : Nat→TypeId→Option (List CK)
  | 0,_=>none
  | d + 1,t=>match P.info? t with
    | some i=>match eqCore P (eqType P d) t with
      | some cs=>bif i.size == cs.length then some cs else none
      | none=>none
    | none=>none
def eqUni (P : Program) : Nat→TypeId→Option (CK×Nat)
  | 0,_=>none
  | d + 1,t=>match P.info? t with
    | some i=>match P.underlying t with
      | some (.int k)=>bif i.size == 1 then some (.int k,1) else none
      | some .bool=>bif i.size == 1 then some (.bool,1) else none
      | some .string=>bif i.size == 1 then some (.str,1) else none
      | some (.array n e)=>match eqUni P d e with
        | some (ck,m)=>bif i.size == n * m && P.cellsOf e == m then some (ck,n * m) else none
        | none=>none
      | _=>none
    | none=>none
def eqGood (P : Program) (t : TypeId) (i : TI) : Bool:=!(isAggB i.kind && scal i.cks && i.cks.length == i.size) || (eqType P 12 t == some i.cks && !P.eqGuardType P.depth t)
def uniGood (P : Program) (t : TypeId) (i : TI) : Bool:=match i.cks with
  | [ck]=>!(isArrB i.kind && scal [ck]) || (eqUni P 12 t == some (ck,i.size) && !P.eqGuardType P.depth t)
  | _=>true
def isAggV : Value→Bool
  | .agg _=>true
  | _=>false
theorem isAggV_is {z : Value} {ag : Bool} (h : isAggV z = ag) : z = (bif ag then .agg z.cells.toList.toArray else z.cells.toList.headD undef):=by
  subst h
  cases z <;> rfl
def goodTI (z : Value) (i : TI) : Bool:=z.cells.size == i.size && z.cells.all (·.oneCell') && (match i.kind with
  | .array _ _=>true
  | .struct _=>i.cks.length == i.size
  | _=>i.cks.length == i.size && i.size == 1) && isAggV z == aggK i.kind
def mkTI (P : Program) (t : TypeId) : Option TI:=match P.info? t,P.underlying t with
  | some i,some d=>match i.zero with
    | some z=>bif goodTI z ⟨kindOf d,i.size,i.bytes,ofCells (cksOf P 12 t) z.cells.toList,cksOf P 12 t⟩ && (eqGood P t ⟨kindOf d,i.size,i.bytes,ofCells (cksOf P 12 t) z.cells.toList,cksOf P 12 t⟩ && uniGood P t ⟨kindOf d,i.size,i.bytes,ofCells (cksOf P 12 t) z.cells.toList,cksOf P 12 t⟩) then some ⟨kindOf d,i.size,i.bytes,ofCells (cksOf P 12 t) z.cells.toList,cksOf P 12 t⟩ else none
    | none=>none
  | _,_=>none
structure TIOk (P : Program) (t : TypeId) (i : TI) : Prop where
  info : ∃ f z,P.info? t = some f∧f.size = i.size∧f.bytes = i.bytes∧f.zero = some z∧z.cells.size = i.size∧∀ F w,RepCs F w i.zero z.cells.toList
  kind : ∃ d,P.underlying t = some d∧kindOf d = i.kind
  cks : (∀ n e,i.kind≠.array n e)→i.cks.length = i.size
  size : (∀ n e,i.kind≠.array n e)→(∀ fs,i.kind≠.struct fs)→i.size = 1
  eq : eqGood P t i = true
  uni : uniGood P t i = true
  zsh : ∀ f z,P.info? t = some f→f.zero = some z→isAggV z = aggK i.kind
theorem ofCell_rep {F : Nat→Prop} {w : World} {ck : CK} {v : Value} (h : v.oneCell' = true) : RepC F w (ofCell ck v) v:=by
  unfold ofCell
  split
  · exact .nil _ _
  · exact .c v h
theorem ofCells_rep (F : Nat→Prop) (w : World) : ∀ (cks : List CK) (vs : List Value),(∀ v∈vs,v.oneCell' = true)→RepCs F w (ofCells cks vs) vs
  | [],[],_=>trivial
  | _ :: _,[],_=>trivial
  | [],v :: vs,h=>⟨.c v (h v (by simp)),ofCells_rep F w [] vs fun u hu=>h u (by simp [hu])⟩
  | ck :: cks,v :: vs,h=>by
    refine ⟨?_,ofCells_rep F w cks vs fun u hu=>h u (by simp [hu])⟩
    unfold ofCell
    split
    · exact .nil _ _
    · exact .c v (h v (by simp))
theorem mkTI_ok {P : Program} {t : TypeId} {i : TI} (h : mkTI P t = some i) : TIOk P t i:=by
  unfold mkTI at h
  split at h
  · rename_i f d hf hd
    split at h
    · rename_i z hz
      generalize hc : (goodTI z ⟨kindOf d,f.size,f.bytes,ofCells (cksOf P 12 t) z.cells.toList,cksOf P 12 t⟩ && (eqGood P t ⟨kindOf d,f.size,f.bytes,ofCells (cksOf P 12 t) z.cells.toList,cksOf P 12 t⟩ && uniGood P t ⟨kindOf d,f.size,f.bytes,ofCells (cksOf P 12 t) z.cells.toList,cksOf P 12 t⟩)) = c at h
      cases c with
      | true =>
        simp only [cond_true,Option.some.injEq] at h
        rw [h] at hc
        rw [Bool.and_eq_true] at hc
        obtain ⟨hc,ce⟩:=hc
        rw [Bool.and_eq_true] at ce
        unfold goodTI at hc
        simp only [Bool.and_eq_true,beq_iff_eq,Array.all_eq_true_iff_forall_mem] at hc
        obtain ⟨⟨⟨c1,c2⟩,c3⟩,c4⟩:=hc
        refine ⟨⟨f,z,hf,by rw [← h],by rw [← h],hz,c1,fun F w=>by rw [← h]; exact ofCells_rep F w _ _ fun v hv=>c2 v (by simpa using hv)⟩,⟨d,hd,by rw [← h]⟩,fun hn=>?_,fun hn hs=>?_,ce.1,ce.2,fun f' z' hf' hz'=>by
          obtain rfl:=Option.some.inj (hf.symm.trans hf')
          obtain rfl:=Option.some.inj (hz.symm.trans hz')
          exact c4⟩
        · split at c3
          · rename_i n e hk; exact absurd hk (hn n e)
          · exact beq_iff_eq.1 c3
          · simp only [Bool.and_eq_true,beq_iff_eq] at c3; exact c3.1
        · split at c3
          · rename_i n e hk; exact absurd hk (hn n e)
          · rename_i fs hk; exact absurd hk (hs fs)
          · simp only [Bool.and_eq_true,beq_iff_eq] at c3; exact c3.2
      | false=>cases h
    · cases h
  · cases h
def tyOf : List (TypeId×TI)→TypeId→Option TI
  | [],_=>none
  | (t,i) :: r,u=>bif t == u then some i else tyOf r u
def TabOk (P : Program) : List (TypeId×TI)→Prop
  | []=>True
  | (t,i) :: r=>TIOk P t i∧TabOk P r
theorem TabOk.ok {P : Program} : ∀ {tab : List (TypeId×TI)},TabOk P tab→∀ t i,tyOf tab t = some i→TIOk P t i
  | [],_,t,i,h=>by simp [tyOf] at h
  | (u,j) :: r,hk,t,i,h=>by
    unfold tyOf at h
    by_cases e : (u == t) = true
    · rw [e] at h
      simp only [cond_true,Option.some.injEq] at h
      obtain rfl:=beq_iff_eq.1 e
      exact h▸hk.1
    · rw [Bool.eq_false_iff.mpr e] at h
      exact TabOk.ok hk.2 t i h
structure CtxOk (P : Program) (C : Ctx) (F : Nat→Prop) (w : World) : Prop where
  ty : ∀ t i,C.ty t = some i→TIOk P t i
  glob : ∀ g cs,C.glob g = some cs→∀ j x,cs[j]? = some x→F g∧∃ u,w.cell? ⟨g,j,none⟩ = some u∧RepC F w x u
section
variable {P : Program} {C : Ctx} {F : Nat→Prop} {μ : List (Option Place)} {H : List Entry} {w : World}
theorem TIOk.run_size {t : TypeId} {i : TI} (h : TIOk P t i) (w : World) : (sizeOf t).run P w = .ok i.size w:=by
  obtain ⟨f,z,hf,h1,_⟩:=h.info
  simp [sizeOf,typeInfo,hf,h1]
theorem TIOk.run_zero {t : TypeId} {i : TI} (h : TIOk P t i) : ∃ z,(∀ w,(zeroValue t).run P w = .ok z w)∧z.cells.size = i.size∧∀ F w,RepCs F w i.zero z.cells.toList:=by
  obtain ⟨f,z,hf,h1,h2,h3,h4,h5⟩:=h.info
  exact ⟨z,fun w=>by simp [zeroValue,typeInfo,hf,h3],h4,h5⟩
theorem TIOk.zlen {t : TypeId} {i : TI} (h : TIOk P t i) : i.zero.length = i.size:=by
  obtain ⟨z,_,h1,h2⟩:=h.run_zero
  rw [(h2 (fun _=>False) default).length]
  simpa using h1
theorem TIOk.run_und {t : TypeId} {i : TI} (h : TIOk P t i) : ∃ d,P.underlying t = some d∧kindOf d = i.kind∧∀ w,(underlying t).run P w = .ok d w:=by
  obtain ⟨d,h1,h2⟩:=h.kind
  exact ⟨d,h1,h2,fun w=>run_underlying h1 w⟩
theorem ofConst_rep (ti : Option TI) (v : Value) : RepV F μ H w (ofConst ti v) v:=by
  unfold ofConst
  cases h : v.oneCell' with
  | true =>
    simp only [cond_true]
    split
    · split
      · exact ofCell_rep h
      · exact RepC.c _ h
    · exact RepC.c _ h
  | false =>
    simp only [cond_false]
    split
    · rename_i cs
      cases hc : cs.all (·.oneCell') with
      | true=>exact ⟨cs,rfl,ofCells_rep F w _ _ fun v hv=>Array.all_eq_true_iff_forall_mem.1 hc v (by simpa using hv)⟩
      | false=>exact trivial
    · exact trivial
theorem opd_rep (hC : CtxOk P C F w) {tmps : List TV} {a : Act} (hl : a.tmps.size = tmps.length) (ht : ∀ t tv,tmps[t]? = some tv→RepV F μ H w tv (a.tmps.getD t undef)) (t : Option TypeId) (x : Operand) :
    RepV F μ H w (opd C tmps t x) (a.eval x):=by
  cases x with
  | tmp i =>
    show RepV F μ H w (getT tmps i) (a.tmps.getD i undef)
    rw [getT_eq]
    rcases Nat.lt_or_ge i tmps.length with hi | hi
    · have:=ht i tmps[i] (List.getElem?_eq_getElem hi)
      rw [List.getD_eq_getElem?_getD,List.getElem?_eq_getElem hi]
      exact this
    · rw [List.getD_eq_getElem?_getD,List.getElem?_eq_none hi]
      exact trivial
  | const v=>exact ofConst_rep _ v
  | global g =>
    show RepV F μ H w (match C.glob g with | some cs=>.w (.one (.fptr cs 0)) | none=>junk) (.pointer (some ⟨g,0,none⟩))
    split
    · rename_i cs hg
      exact ⟨⟨g,0,none⟩,rfl,fun j x hx=>by
        obtain ⟨h1,u,h2,h3⟩:=hC.glob g cs hg j x hx
        exact ⟨h1,u,by simpa using h2,h3⟩⟩
    · exact trivial
  | func f=>exact RepC.c _ rfl
def Same (F : Nat→Prop) (μ : List (Option Place)) (rd : Option Nat) (w w' : World) : Prop :=
  (∀ n,F n→w'.heap[n]? = w.heap[n]?)∧∀ b pl,rd = some b→μ[b]? = some (some pl)→w'.heap[pl.blk]? = w.heap[pl.blk]?
theorem Same.refl {rd : Option Nat} : Same F μ rd w w:=⟨fun _ _=>rfl,fun _ _ _ _=>rfl⟩
def SOk (P : Program) (F : Nat→Prop) (μ : List (Option Place)) (H : List Entry) (w : World) (rd : Option Nat) (s : Sem Value) (K : TV→Prop) : Prop :=
  ∃ v tv,(∀ w',Same F μ rd w w'→s.run P w' = .ok v w')∧RepV F μ H w tv v∧K tv
theorem castCK_rep {ck : CK} {x : PC} {v : Value} {K : PC→Prop} (h : castCK ck x K) (r : RepC F w x v) : ∃ y,RepC F w y v∧K y:=by
  unfold castCK at h
  split at h
  · unfold asIntC at h
    split at h
    · split at h
      · split at h
        · rename_i he; subst he; exact ⟨_,r,h⟩
        · exact h.elim
      · exact h.elim
    · exact h.elim
  · unfold asBoolC at h
    split at h
    · split at h
      · exact ⟨_,r,h⟩
      · exact h.elim
    · exact h.elim
  · unfold asStrC at h
    split at h
    · split at h
      · exact ⟨_,r,h⟩
      · exact h.elim
    · exact h.elim
  · unfold asSlC at h
    split at h
    · split at h
      · rename_i he; subst he; exact ⟨_,r,h⟩
      · exact h.elim
    · exact h.elim
  · exact ⟨_,r,h⟩
theorem castCKs_rep : ∀ {cks : List CK} {xs : List PC} {vs : List Value} {K : List PC→Prop},castCKs cks xs K→RepCs F w xs vs→xs.length = cks.length∧∃ ys,RepCs F w ys vs∧K ys
  | [],xs,vs,K,h,r=>by
    unfold castCKs nilC at h
    split at h
    · exact ⟨rfl,[],r,h⟩
    · exact h.elim
  | ck :: cks,xs,vs,K,h,r=>by
    unfold castCKs unconsC at h
    split at h
    · rename_i x xs
      cases vs with
      | nil=>exact r.elim
      | cons v vs =>
        obtain ⟨y,hy,h⟩:=castCK_rep h r.1
        obtain ⟨hl,ys,hys,h⟩:=castCKs_rep h r.2
        exact ⟨by simp [hl],y :: ys,⟨hy,hys⟩,h⟩
    · exact h.elim
def isAggK : TK→Bool
  | .array _ _ | .struct _=>true
  | _=>false
def valOf (k : TK) (vs : List Value) : Value:=bif isAggK k then .agg vs.toArray else vs.headD undef
theorem asType_rep {t : TypeId} {ti : TI} (hT : TIOk P t ti) {cs : List PC} {vs : List Value} {K : TV→Prop} (h : asType ti cs K) (r : RepCs F w cs vs) :
    vs.length = ti.size∧∃ tv,RepV F μ H w tv (valOf ti.kind vs)∧K tv:=by
  unfold asType at h
  have hl:=r.length
  split at h
  · rename_i n e hk
    exact ⟨by omega,.w (.pagg cs),⟨vs.toArray,by simp [valOf,isAggK,hk],by simpa using r⟩,h.2⟩
  · rename_i fs hk
    obtain ⟨h1,ys,hys,h⟩:=castCKs_rep h r
    have h2:=hT.cks (fun n e he=>by rw [hk] at he; cases he)
    exact ⟨by omega,.w (.pagg ys),⟨vs.toArray,by simp [valOf,isAggK,hk],by simpa using hys⟩,h⟩
  · rename_i hn hs
    split at h
    · rename_i ck
      unfold unconsC at h
      split at h
      · rename_i x xs
        unfold nilC at h
        split at h
        · cases vs with
          | nil=>exact r.elim
          | cons v vs =>
            cases vs with
            | cons _ _=>exact r.2.elim
            | nil =>
              obtain ⟨y,hy,h⟩:=castCK_rep h r.1
              have h1:=hT.size hn hs
              refine ⟨by simp [h1],_,?_,h⟩
              have : isAggK ti.kind = false:=by
                cases hk : ti.kind <;> first | rfl | exact absurd hk (hn _ _) | exact absurd hk (hs _)
              simp only [valOf,this,cond_false,List.headD_cons]
              exact hy
        · exact h.elim
      · exact h.elim
    · exact h.elim
theorem asTypeT_rep {t : TypeId} {ti : TI} (hT : TIOk P t ti) {cs : List TC} {vs : List Value} {K : TV→Prop} (h : asTypeT ti cs K) (r : RepTs F μ H w cs vs) :
    vs.length = ti.size∧∃ tv,RepV F μ H w tv (valOf ti.kind vs)∧K tv:=by
  unfold asTypeT at h
  have hl:=r.length
  split at h
  · rename_i n e hk
    split at h
    · rename_i ps hp; exact asType_rep hT h (r.pures hp)
    · split at h
      · exact ⟨by omega,.w (.agg cs),⟨vs.toArray,by simp [valOf,isAggK,hk],by simpa using r⟩,h⟩
      · exact h.elim
  · rename_i fs hk
    split at h
    · rename_i ps hp; exact asType_rep hT h (r.pures hp)
    · split at h
      · exact ⟨by omega,.w (.agg cs),⟨vs.toArray,by simp [valOf,isAggK,hk],by simpa using r⟩,h⟩
      · exact h.elim
  · rename_i hn hs
    have h1:=hT.size hn hs
    have hk : isAggK ti.kind = false:=by
      cases hk : ti.kind <;> first | rfl | exact absurd hk (hn _ _) | exact absurd hk (hs _)
    split at h
    · rename_i x
      cases vs with
      | nil=>exact r.elim
      | cons v vs=>exact asType_rep hT h (RepTs.pures (xs:=[.p x]) (ps:=[x]) rfl r)
    · rename_i x _
      cases vs with
      | nil=>exact r.elim
      | cons v vs =>
        cases vs with
        | cons _ _=>exact r.2.elim
        | nil=>exact ⟨by simp [h1],_,by simp only [valOf,hk,cond_false,List.headD_cons]; exact r.1.2,h⟩
    · exact h.elim
def At (w : World) (b o : Nat) (vs : List Value) : Prop:=∀ j v,vs[j]? = some v→w.cell? ⟨b,o + j,none⟩ = some v
theorem At.ext {b o k n : Nat} {vs : List Value} (h : At w b o vs) : At w b (o + k) (ext vs k n):=by
  intro j v hv
  unfold Eng.ext at hv
  rw [List.getElem?_take] at hv
  split at hv
  · rw [List.getElem?_drop] at hv
    rw [Nat.add_assoc]
    exact h _ v hv
  · cases hv
theorem At.of_cells {b : Nat} {vs : Array Value} {ty : TypeId} {fz : Nat×Nat} (h : w.heap[b]? = some (.cells vs ty fz)) (o n : Nat) : At w b o ((vs.toList.drop o).take n):=by
  intro j v hv
  rw [List.getElem?_take] at hv
  split at hv
  · rw [List.getElem?_drop] at hv
    simp only [World.cell?,h,Option.isSome_none,Bool.false_eq_true,if_false]
    simpa using hv
  · cases hv
theorem At.same {b o : Nat} {vs : List Value} {w' : World} (h : At w b o vs) (hs : w'.heap[b]? = w.heap[b]?) : At w' b o vs :=
  fun j v hv=>(World.cell?_of_block (w:=w) (a:=⟨b,o + j,none⟩) hs).trans (h j v hv)
theorem run_loadVarAt {t : TypeId} {ti : TI} (hT : TIOk P t ti) {b o : Nat} {vs : List Value} (h : At w b o vs) (hl : vs.length = ti.size) :
    (loadVar t ⟨b,o,none⟩).run P w = .ok (valOf ti.kind vs) w:=by
  obtain ⟨d,hd,hk,hu⟩:=hT.run_und
  have hload : (loadCells ⟨b,o,none⟩ ti.size).run P w = .ok vs.toArray w:=by
    rw [← hl]
    exact run_loadCells_list w _ vs fun j v hv=>by rw [add_none]; exact h j v hv
  have hag : (isAgg t).run P w = .ok (isAggK ti.kind) w:=by
    unfold isAgg
    rw [Sem.run_bind,hu w,Result.andThen_ok,← hk]
    cases d <;> rfl
  unfold loadVar
  rw [Sem.run_bind,hag,Result.andThen_ok]
  cases hg : isAggK ti.kind with
  | true =>
    simp only [if_true,Sem.run_bind,hT.run_size,Result.andThen_ok,hload,Sem.run_pure,valOf,hg,cond_true]
  | false =>
    have h1 : ti.size = 1:=hT.size (fun n e he=>by rw [he] at hg; cases hg) (fun fs he=>by rw [he] at hg; cases hg)
    cases vs with
    | nil=>simp [h1] at hl
    | cons v vs =>
      have:=h 0 v rfl
      simp only [Nat.add_zero] at this
      simp only [Bool.false_eq_true,if_false,run_load,this,valOf,hg,cond_false,List.headD_cons]
theorem RepCs.ext {cs : List PC} {vs : List Value} (r : RepCs F w cs vs) (k n : Nat) : RepCs F w (ext cs k n) (ext vs k n):=(r.drop k).take n
theorem RepTs.ext {cs : List TC} {vs : List Value} (r : RepTs F μ H w cs vs) (k n : Nat) : RepTs F μ H w (ext cs k n) (ext vs k n):=(r.drop k).take n
theorem FptrOk.at {cs : List PC} {o : Nat} {v : Value} (h : FptrOk F w cs o v) : ∃ b o' vs,v = .pointer (some ⟨b,o' + o,none⟩)∧RepCs F w cs vs∧At w b o' vs∧(cs = []∨F b):=by
  obtain ⟨a,rfl,h⟩:=h
  refine ⟨a.block,a.off,(List.range cs.length).map fun j=>(w.cell? ⟨a.block,a.off + j,none⟩).getD undef,rfl,RepCs.of_get (by simp) fun j x hx=>?_,fun j v hv=>?_,?_⟩
  · obtain ⟨_,u,hu,hr⟩:=h j x hx
    have hj : j < cs.length:=(List.getElem?_eq_some_iff.1 hx).1
    exact ⟨u,by simp [hj,hu],hr⟩
  · have hj : j < cs.length:=by have:=(List.getElem?_eq_some_iff.1 hv).1; simpa using this
    obtain ⟨_,u,hu,_⟩:=h j cs[j] (List.getElem?_eq_getElem hj)
    simp [hj,hu] at hv
    rw [hu,hv]
  · cases cs with
    | nil=>exact .inl rfl
    | cons x cs=>exact .inr (h 0 x rfl).1
theorem flat_elem {es : List (List PC)} {sz : Nat} (hs : ∀ x∈es,x.length = sz) : ∀ {i : Nat} {e : List PC},es[i]? = some e→(es.flatten.drop (i * sz)).take sz = e:=by
  induction es with
  | nil=>intro i e h; simp at h
  | cons x xs ih =>
    intro i e h
    have hx : x.length = sz:=hs x (by simp)
    cases i with
    | zero =>
      simp only [List.getElem?_cons_zero,Option.some.injEq] at h
      subst h
      simp only [List.flatten_cons,Nat.zero_mul,List.drop_zero]
      rw [← hx]
      exact List.take_left
    | succ i =>
      simp only [List.getElem?_cons_succ] at h
      have:=ih (fun y hy=>hs y (by simp [hy])) h
      rw [List.flatten_cons,Nat.add_mul,Nat.one_mul,show i * sz + sz = x.length + i * sz by omega,← List.drop_drop,List.drop_left]
      exact this
theorem flat_len {es : List (List PC)} {sz : Nat} (hs : ∀ x∈es,x.length = sz) : es.flatten.length = es.length * sz:=by
  induction es with
  | nil=>simp
  | cons x xs ih =>
    rw [List.flatten_cons,List.length_append,ih fun y hy=>hs y (by simp [hy]),hs x (by simp),List.length_cons,Nat.add_mul]
    omega
def rdOf : TC→Option Nat
  | .ptr b _ _=>some b
  | _=>none
theorem load_ok {A : Base} (hC : CtxOk P C F w) (hH : HeapOk A F μ H w) {t : TypeId} {ti : TI} (hT : TIOk P t ti) {x : TC} {v : Value} {K : TV→Prop} (h : loadT ti x H K) (r : RepT F μ H w x v) :
    SOk P F μ H w (rdOf x) (Instr.loadAt t v) K:=by
  cases x with
  | ptr b i o =>
    replace h : (match H[b]? with
      | some (.box cs)=>if i = 0 then asTypeT ti (ext cs o ti.size) K else False
      | some (.pbox cs)=>if i = 0 then asType ti (ext cs o ti.size) K else False
      | some (.vec _ es _)=>asType ti (ext (es.getD i []) o ti.size) K
      | _=>False : Prop):=h
    cases he : H[b]? with
    | none=>rw [he] at h; exact h.elim
    | some e =>
      have hent:=hH.ent b e he
      have hsome : ∀ pl,μ.getD b none = some pl→μ[b]? = some (some pl):=fun pl hp=>by
        rw [List.getD_eq_getElem?_getD] at hp
        cases hm : μ[b]? with
        | none=>simp [hm] at hp
        | some q=>simp [hm] at hp; rw [hp]
      rw [he] at h
      cases e with
      | box cs =>
        simp only [] at h
        split at h
        · rename_i hi
          subst hi
          obtain ⟨pl,vs,ty,hm,hb,hlim,hF,hr⟩:=hent
          obtain ⟨_,B,O,rfl,hpl⟩:=r
          obtain ⟨pl',hm',rfl,rfl⟩:=hpl _ he rfl
          obtain rfl : pl = pl':=by have:=hsome pl hm; rw [hm'] at this; simpa using this.symm
          have hat:=At.of_cells hb pl.off cs.length
          obtain ⟨hl,tv,htv,hK⟩:=asTypeT_rep hT h (hr.ext o ti.size)
          refine ⟨_,tv,fun w' hs=>?_,htv,hK⟩
          have h2:=run_loadVarAt (P:=P) hT ((hat.ext (k:=o) (n:=ti.size)).same (hs.2 b pl rfl hm')) hl
          simpa [Instr.loadAt,Instr.sureAddr,Entry.sz] using h2
        · exact h.elim
      | pbox cs =>
        simp only [] at h
        split at h
        · rename_i hi
          subst hi
          obtain ⟨pl,vs,ty,hm,hb,hlim,hF,hr⟩:=hent
          obtain ⟨_,B,O,rfl,hpl⟩:=r
          obtain ⟨pl',hm',rfl,rfl⟩:=hpl _ he rfl
          obtain rfl : pl = pl':=by have:=hsome pl hm; rw [hm'] at this; simpa using this.symm
          have hat:=At.of_cells hb pl.off cs.length
          obtain ⟨hl,tv,htv,hK⟩:=asType_rep (μ:=μ) (H:=H) hT h (hr.ext o ti.size)
          refine ⟨_,tv,fun w' hs=>?_,htv,hK⟩
          have h2:=run_loadVarAt (P:=P) hT ((hat.ext (k:=o) (n:=ti.size)).same (hs.2 b pl rfl hm')) hl
          simpa [Instr.loadAt,Instr.sureAddr,Entry.sz] using h2
        · exact h.elim
      | vec sz es wr =>
        simp only [] at h
        obtain ⟨_,B,O,rfl,hpl⟩:=r
        obtain ⟨pl',hm',rfl,rfl⟩:=hpl _ he rfl
        obtain ⟨hes,hor⟩:=hent
        have hloc : ∃ vs,RepCs F w (es.getD i []) vs∧At w pl'.blk (pl'.off + i * sz) vs:=by
          cases hi : es[i]? with
          | none=>rw [List.getD_eq_getElem?_getD,hi]; exact ⟨[],trivial,fun j v hv=>by simp at hv⟩
          | some e =>
            rw [List.getD_eq_getElem?_getD,hi]
            rcases hor with ⟨_,rfl⟩ | ⟨pl,vs,ty,fz,hm,hb,hlim,h1,h2,hr⟩
            · simp at hi
            · obtain rfl : pl = pl':=by have:=hsome pl hm; rw [hm'] at this; simpa using this.symm
              have hat:=At.of_cells hb pl.off (es.length * sz)
              have h3:=hr.ext (i * sz) sz
              unfold Eng.ext at h3
              rw [flat_elem hes hi] at h3
              exact ⟨_,h3,hat.ext (k:=i * sz) (n:=sz)⟩
        obtain ⟨vs,hr,hat⟩:=hloc
        obtain ⟨hl,tv,htv,hK⟩:=asType_rep (μ:=μ) (H:=H) hT h (hr.ext o ti.size)
        refine ⟨_,tv,fun w' hs=>?_,htv,hK⟩
        have h2:=run_loadVarAt (P:=P) hT ((hat.ext (k:=o) (n:=ti.size)).same (hs.2 b pl' rfl hm')) hl
        simpa [Instr.loadAt,Instr.sureAddr,Entry.sz] using h2
      | gone=>exact h.elim
      | mp _ _ _=>exact h.elim
      | mit _ _ _ _ _=>exact h.elim
  | fptr cs o =>
    obtain ⟨b,o',vs,rfl,hr,hat,hF⟩:=FptrOk.at r
    obtain ⟨hl,tv,htv,hK⟩:=asType_rep (μ:=μ) (H:=H) hT h (hr.ext o ti.size)
    refine ⟨_,tv,fun w' hs=>?_,htv,hK⟩
    have hat' : At w' b o' vs:=by
      rcases hF with rfl | hF
      · have : vs = []:=List.eq_nil_of_length_eq_zero (by have:=hr.length; simpa using this.symm)
        subst this
        exact fun j v hv=>by simp at hv
      · exact hat.same (hs.1 b hF)
    have h2:=run_loadVarAt (P:=P) hT (hat'.ext (k:=o) (n:=ti.size)) hl
    simpa [Instr.loadAt,Instr.sureAddr] using h2
  | _=>exact h.elim
end
end Go.Eng
namespace Go.Eng
open Go.RowKit
section
variable {P : Program} {C : Ctx} {F : Nat→Prop} {μ : List (Option Place)} {H : List Entry} {w : World}
theorem eqCells_len : ∀ {cks : List CK} {xs ys : List PC} {b : Bool},eqCells cks xs ys = some b→xs.length = cks.length∧ys.length = cks.length
  | [],[],[],b,_=>⟨rfl,rfl⟩
  | [],[],_ :: _,b,h=>by cases h
  | [],_ :: _,_,b,h=>by cases h
  | ck :: r,[],_,b,h=>by cases h
  | ck :: r,x :: xs,[],b,h=>by cases x <;> cases h
  | ck :: r,x :: xs,y :: ys,b,h=>by
    cases x with
    | sl _ _ _=>cases h
    | c u=>cases y with
      | sl _ _ _=>cases h
      | c v =>
        simp only [eqCells] at h
        split at h
        · rename_i b1 b2 h1 h2
          have:=eqCells_len h2
          simp [this.1,this.2]
        · cases h
theorem eqCells_app : ∀ {c1 c2 : List CK} {xs ys : List PC} {b : Bool},eqCells (c1 ++ c2) xs ys = some b →
    ∃ b1 b2,eqCells c1 (xs.take c1.length) (ys.take c1.length) = some b1∧eqCells c2 (xs.drop c1.length) (ys.drop c1.length) = some b2∧b = (b1 && b2)
  | [],c2,xs,ys,b,h=>⟨true,b,by simp [eqCells],by simpa using h,by simp⟩
  | ck :: r,c2,[],_,b,h=>by cases h
  | ck :: r,c2,x :: xs,[],b,h=>by cases x <;> cases h
  | ck :: r,c2,x :: xs,y :: ys,b,h=>by
    cases x with
    | sl _ _ _=>cases h
    | c u=>cases y with
      | sl _ _ _=>cases h
      | c v =>
        simp only [List.cons_append,eqCells] at h
        split at h
        · rename_i b1 b2 h1 h2
          obtain ⟨d1,d2,e1,e2,rfl⟩:=eqCells_app h2
          simp only [Option.some.injEq] at h
          refine ⟨b1 && d1,d2,?_,by simpa using e2,by rw [← h,Bool.and_assoc]⟩
          simp only [List.length_cons,List.take_succ_cons,eqCells,e1]
          rw [h1]
        · cases h
theorem part_run {t : TypeId} {i : TypeInfo} {d : TypeDesc} (hi : P.info? t = some i) (hd : P.underlying t = some d) (h1 : isAggK (kindOf d) = false→i.size = 1) {cs : Array Value} {o : Nat} (hl : (ext cs.toList o i.size).length = i.size) (w : World) :
    (part t cs o).run P w = .ok (valOf (kindOf d) (ext cs.toList o i.size)) w:=by
  have hag : (isAgg t).run P w = .ok (isAggK (kindOf d)) w:=by
    unfold isAgg
    rw [Sem.run_bind,run_underlying hd,Result.andThen_ok]
    cases d <;> rfl
  have hsz : (sizeOf t).run P w = .ok i.size w:=by simp [sizeOf,typeInfo,hi]
  unfold part
  rw [Sem.run_bind,hag,Result.andThen_ok]
  have hl' : i.size = 0∨o + i.size≤cs.size:=by
    unfold ext at hl
    rw [List.length_take,List.length_drop,Array.length_toList] at hl
    omega
  cases hg : isAggK (kindOf d) with
  | true =>
    simp only [if_true,Sem.run_bind,hsz,Result.andThen_ok,Sem.run_pure,valOf,hg,cond_true]
    congr 2
    apply Array.ext'
    simp only [Array.toList_extract,ext,List.extract_eq_take_drop]
    congr 1
    omega
  | false =>
    have h1 : i.size = 1:=h1 hg
    have ho : o < cs.size:=by omega
    have he : ext cs.toList o i.size = [cs[o]]:=by
      unfold ext
      rw [h1,List.drop_eq_getElem_cons (by simpa using ho)]
      simp
    simp only [Bool.false_eq_true,if_false,Array.getElem?_eq_getElem ho,valOf,hg,cond_false,he,List.headD_cons,Sem.run_pure]
def EqOk (P : Program) (t : TypeId) (cks : List CK) : Prop:=∃ i d,P.info? t = some i∧i.size = cks.length∧P.underlying t = some d∧(isAggK (kindOf d) = false→i.size = 1)
def EqRun (P : Program) (dd : Nat) (t : TypeId) (cks : List CK) : Prop:=∀ (F : Nat→Prop) (w : World) (xs ys : List PC) (vs us : List Value) (b : Bool) (d : TypeDesc),P.underlying t = some d→RepCs F w xs vs→RepCs F w ys us→eqCells cks xs ys = some b →
  ∀ w',(Op.equalIn dd t (valOf (kindOf d) vs) (valOf (kindOf d) us)).run P w' = .ok b w'
theorem fields_run {dd : Nat} {rec : TypeId→Option (List CK)} (IH : ∀ t cks,rec t = some cks→EqOk P t cks∧EqRun P dd t cks) {F : Nat→Prop} {w : World} : ∀ (fs : List Field) (o : Nat) (cks : List CK) (X Y : List PC) (V U : Array Value) (b : Bool),
    eqFieldsT rec o fs = some cks→RepCs F w X V.toList→RepCs F w Y U.toList→eqCells cks (X.drop o) (Y.drop o) = some b→∀ w',(Op.eqFields dd V U fs).run P w' = .ok b w'
  | [],o,cks,X,Y,V,U,b,h,hX,hY,hb,w'=>by
    simp only [eqFieldsT,Option.some.injEq] at h
    subst h
    have hl:=eqCells_len hb
    simp only [List.length_nil,List.length_eq_zero_iff] at hl
    rw [hl.1,hl.2] at hb
    simp only [eqCells,Option.some.injEq] at hb
    subst hb
    simp [Op.eqFields]
  | f :: fs,o,cks,X,Y,V,U,b,h,hX,hY,hb,w'=>by
    unfold eqFieldsT at h
    cases hc : (f.name == "_" || !(f.offset == o)) with
    | true=>rw [hc] at h; cases h
    | false =>
      rw [hc] at h
      simp only [cond_false] at h
      simp only [Bool.or_eq_false_iff,Bool.not_eq_eq_eq_not,Bool.not_false,beq_iff_eq,beq_eq_false_iff_ne] at hc
      obtain ⟨hn,ho⟩:=hc
      split at h
      · rename_i cs hcs
        split at h
        · rename_i r hr
          simp only [Option.some.injEq] at h
          subst h
          obtain ⟨⟨i,d,h1,h2,h3,h4⟩,hrun⟩:=IH _ _ hcs
          obtain ⟨b1,b2,e1,e2,rfl⟩:=eqCells_app hb
          rw [List.drop_drop,List.drop_drop] at e2
          have hl1:=eqCells_len e1
          have RX : RepCs F w (ext X o cs.length) (ext V.toList o cs.length):=hX.ext o cs.length
          have RY : RepCs F w (ext Y o cs.length) (ext U.toList o cs.length):=hY.ext o cs.length
          have p1:=part_run (P:=P) h1 h3 h4 (cs:=V) (o:=f.offset) (by rw [h2,ho,← RX.length]; exact hl1.1) w'
          have p2:=part_run (P:=P) h1 h3 h4 (cs:=U) (o:=f.offset) (by rw [h2,ho,← RY.length]; exact hl1.2) w'
          rw [h2,ho] at p1 p2
          have p3:=hrun F w _ _ _ _ b1 d h3 RX RY e1 w'
          have p4:=fields_run IH fs _ _ X Y V U b2 hr hX hY e2 w'
          simp only [Op.eqFields,ne_eq,hn,not_false_eq_true,if_true,Sem.run_bind]
          rw [ho,p1,Result.andThen_ok,p2,Result.andThen_ok,p3,Result.andThen_ok]
          cases b1 with
          | true=>simpa using p4
          | false=>simp
        · cases h
      · cases h
theorem items_run {dd : Nat} {e : TypeId} {cs : List CK} (hok : EqOk P e cs) (hrun : EqRun P dd e cs) {F : Nat→Prop} {w : World} : ∀ (k n : Nat) (X Y : List PC) (V U : Array Value) (b : Bool),
    RepCs F w X V.toList→RepCs F w Y U.toList→eqCells (List.replicate n cs).flatten (X.drop (k * cs.length)) (Y.drop (k * cs.length)) = some b→∀ w',(Op.eqItems dd e cs.length V U (List.range' k n)).run P w' = .ok b w'
  | k,0,X,Y,V,U,b,hX,hY,hb,w'=>by
    simp only [List.replicate_zero,List.flatten_nil] at hb
    have hl:=eqCells_len hb
    simp only [List.length_nil,List.length_eq_zero_iff] at hl
    rw [hl.1,hl.2] at hb
    simp only [eqCells,Option.some.injEq] at hb
    subst hb
    simp [Op.eqItems]
  | k,n + 1,X,Y,V,U,b,hX,hY,hb,w'=>by
    rw [List.replicate_succ,List.flatten_cons] at hb
    obtain ⟨i,d,h1,h2,h3,h4⟩:=hok
    obtain ⟨b1,b2,e1,e2,rfl⟩:=eqCells_app hb
    rw [List.drop_drop,List.drop_drop] at e2
    have hl1:=eqCells_len e1
    have RX : RepCs F w (ext X (k * cs.length) cs.length) (ext V.toList (k * cs.length) cs.length):=hX.ext _ _
    have RY : RepCs F w (ext Y (k * cs.length) cs.length) (ext U.toList (k * cs.length) cs.length):=hY.ext _ _
    have p1:=part_run (P:=P) h1 h3 h4 (cs:=V) (o:=k * cs.length) (by rw [h2,← RX.length]; exact hl1.1) w'
    have p2:=part_run (P:=P) h1 h3 h4 (cs:=U) (o:=k * cs.length) (by rw [h2,← RY.length]; exact hl1.2) w'
    rw [h2] at p1 p2
    have p3:=hrun F w _ _ _ _ b1 d h3 RX RY e1 w'
    have p4:=items_run ⟨i,d,h1,h2,h3,h4⟩ hrun (k + 1) n X Y V U b2 hX hY (by rw [Nat.succ_mul]; exact e2) w'
    rw [List.range'_succ]
    simp only [Op.eqItems,Sem.run_bind]
    rw [p1,Result.andThen_ok,p2,Result.andThen_ok,p3,Result.andThen_ok]
    cases b1 with
    | true=>simpa using p4
    | false=>simp
theorem eqOne {ck : CK} {xs ys : List PC} {b : Bool} (h : eqCells [ck] xs ys = some b) : ∃ u v,xs = [.c u]∧ys = [.c v]∧eqCell ck u v = some b:=by
  obtain ⟨h1,h2⟩:=eqCells_len h
  match xs,ys,h1,h2 with
  | [x],[y],_,_ =>
    cases x with
    | sl _ _ _=>cases h
    | c u=>cases y with
      | sl _ _ _=>cases h
      | c v =>
        refine ⟨u,v,rfl,rfl,?_⟩
        simp only [eqCells] at h
        cases hc : eqCell ck u v with
        | none=>rw [hc] at h; cases h
        | some b1 =>
          rw [hc] at h
          simpa using h
theorem one_rep {u : Value} {vs : List Value} (h : RepCs F w [.c u] vs) : vs = [u]:=by
  match vs,h with
  | [q],h=>cases h.1; rfl
theorem eqIn_ok (P : Program) (e : Nat) : ∀ (m : Nat) (t : TypeId) (cks : List CK),eqType P m t = some cks→EqOk P t cks∧EqRun P (e + m) t cks
  | 0,t,cks,h=>by cases h
  | m + 1,t,cks,h=>by
    unfold eqType at h
    split at h
    · rename_i i hi
      split at h
      · rename_i cs hcs
        cases hc : (i.size == cs.length) with
        | false=>rw [hc] at h; cases h
        | true =>
          rw [hc] at h
          simp only [cond_true,Option.some.injEq] at h
          subst h
          have hc:=beq_iff_eq.1 hc
          have IH:=eqIn_ok P e m
          unfold eqCore at hcs
          split at hcs
          · rename_i k hu
            simp only [Option.some.injEq] at hcs
            subst hcs
            refine ⟨⟨i,_,hi,hc,hu,fun _=>hc⟩,fun F w xs ys vs us b d hd hX hY hb w'=>?_⟩
            rw [hu] at hd
            obtain rfl:=Option.some.inj hd
            obtain ⟨u,v,rfl,rfl,hm⟩:=eqOne hb
            obtain rfl:=one_rep hX
            obtain rfl:=one_rep hY
            unfold eqCell at hm
            split at hm
            · split at hm
              · rename_i hk
                subst hk
                cases hm
                exact run_equalIn_int w' (e + m) t _ _ _ _ hu
              · cases hm
            · rename_i h1; cases h1
            · rename_i h1; cases h1
            · cases hm
          · rename_i hu
            simp only [Option.some.injEq] at hcs
            subst hcs
            refine ⟨⟨i,_,hi,hc,hu,fun _=>hc⟩,fun F w xs ys vs us b d hd hX hY hb w'=>?_⟩
            rw [hu] at hd
            obtain rfl:=Option.some.inj hd
            obtain ⟨u,v,rfl,rfl,hm⟩:=eqOne hb
            obtain rfl:=one_rep hX
            obtain rfl:=one_rep hY
            unfold eqCell at hm
            split at hm
            · rename_i h1; cases h1
            · cases hm
              exact run_equalIn_bool' w' (e + m) t _ _ hu
            · rename_i h1; cases h1
            · cases hm
          · rename_i hu
            simp only [Option.some.injEq] at hcs
            subst hcs
            refine ⟨⟨i,_,hi,hc,hu,fun _=>hc⟩,fun F w xs ys vs us b d hd hX hY hb w'=>?_⟩
            rw [hu] at hd
            obtain rfl:=Option.some.inj hd
            obtain ⟨u,v,rfl,rfl,hm⟩:=eqOne hb
            obtain rfl:=one_rep hX
            obtain rfl:=one_rep hY
            unfold eqCell at hm
            split at hm
            · rename_i h1; cases h1
            · rename_i h1; cases h1
            · cases hm
              rename_i s1 s2 _
              have:=run_equalIn_string w' (e + m) t s1 s2 hu
              rw [beq_toListBytes]
              exact this
            · cases hm
          · rename_i fs hu
            cases hst : P.stoodInHeld t with
            | true=>rw [hst] at hcs; cases hcs
            | false =>
              rw [hst] at hcs
              simp only [cond_false] at hcs
              refine ⟨⟨i,_,hi,hc,hu,fun hg=>by cases hg⟩,fun F w xs ys vs us b d hd hX hY hb w'=>?_⟩
              rw [hu] at hd
              obtain rfl:=Option.some.inj hd
              have hfs : P.fieldsOf t = fs:=by unfold Program.fieldsOf; rw [hu]
              show (Op.equalIn (e + m + 1) t (.agg vs.toArray) (.agg us.toArray)).run P w' = _
              rw [run_equalIn_struct w' (e + m) t _ _ (by rw [hfs]; exact hu) hst,hfs]
              exact fields_run IH fs.toList 0 _ xs ys vs.toArray us.toArray b hcs (by simpa using hX) (by simpa using hY) (by simpa using hb) w'
          · rename_i n el hu
            split at hcs
            · rename_i cs' hcs'
              cases hco : (P.cellsOf el == cs'.length) with
              | false=>rw [hco] at hcs; cases hcs
              | true =>
                rw [hco] at hcs
                simp only [cond_true,Option.some.injEq] at hcs
                subst hcs
                have hco:=beq_iff_eq.1 hco
                obtain ⟨h1,h2⟩:=IH _ _ hcs'
                refine ⟨⟨i,_,hi,hc,hu,fun hg=>by cases hg⟩,fun F w xs ys vs us b d hd hX hY hb w'=>?_⟩
                rw [hu] at hd
                obtain rfl:=Option.some.inj hd
                show (Op.equalIn (e + m + 1) t (.agg vs.toArray) (.agg us.toArray)).run P w' = _
                obtain ⟨ie,_,hie,_⟩:=id h1
                rw [run_equalIn_array w' (e + m) _ _ hu hie,hco,List.range_eq_range']
                exact items_run h1 h2 0 n xs ys vs.toArray us.toArray b (by simpa using hX) (by simpa using hY) (by simpa using hb) w'
            · cases hcs
          · cases hcs
      · cases h
    · cases h
theorem flat_rep (ck : CK) (m : Nat) : ∀ n : Nat,(List.replicate n (List.replicate m ck)).flatten = List.replicate (n * m) ck
  | 0=>by simp
  | n + 1=>by rw [List.replicate_succ,List.flatten_cons,flat_rep ck m n,List.replicate_append_replicate,Nat.succ_mul,Nat.add_comm]
theorem eqUni_ok (P : Program) (e : Nat) : ∀ (m : Nat) (t : TypeId) (ck : CK) (n : Nat),eqUni P m t = some (ck,n)→EqOk P t (List.replicate n ck)∧EqRun P (e + m) t (List.replicate n ck)
  | 0,t,ck,n,h=>by cases h
  | m + 1,t,ck,n,h=>by
    unfold eqUni at h
    split at h
    · rename_i i hi
      have one : ∀ c,eqCore P (eqType P 0) t = some [c]→(bif i.size == 1 then some (c,1) else none) = some (ck,n)→EqOk P t (List.replicate n ck)∧EqRun P (e + (m + 1)) t (List.replicate n ck):=by
        intro c hc h
        cases hs : (i.size == 1) with
        | false=>rw [hs] at h; cases h
        | true =>
          rw [hs] at h
          cases h
          have ht : eqType P 1 t = some [ck]:=by
            unfold eqType
            rw [hi]
            simp only [hc,List.length_singleton,hs,cond_true]
          exact eqIn_ok P (e + m) 1 t [ck] ht
      split at h
      · rename_i k hu; exact one _ (by unfold eqCore; rw [hu]) h
      · rename_i hu; exact one _ (by unfold eqCore; rw [hu]) h
      · rename_i hu; exact one _ (by unfold eqCore; rw [hu]) h
      · rename_i k el hu
        split at h
        · rename_i ck' m' hm
          cases hs : (i.size == k * m' && P.cellsOf el == m') with
          | false=>rw [hs] at h; cases h
          | true =>
            rw [hs] at h
            cases h
            simp only [Bool.and_eq_true,beq_iff_eq] at hs
            obtain ⟨h1,h2⟩:=eqUni_ok P e m el _ _ hm
            refine ⟨⟨i,_,hi,by rw [List.length_replicate]; exact hs.1,hu,fun hg=>by cases hg⟩,fun F w xs ys vs us b d hd hX hY hb w'=>?_⟩
            rw [hu] at hd
            obtain rfl:=Option.some.inj hd
            show (Op.equalIn (e + m + 1) t (.agg vs.toArray) (.agg us.toArray)).run P w' = _
            obtain ⟨ie,_,hie,_⟩:=id h1
            rw [run_equalIn_array w' (e + m) _ _ hu hie,hs.2,List.range_eq_range']
            have:=items_run h1 h2 0 k xs ys vs.toArray us.toArray b (by simpa using hX) (by simpa using hY) (by rw [flat_rep]; simpa using hb) w'
            rwa [List.length_replicate] at this
        · cases h
      · cases h
    · cases h
end
end Go.Eng
namespace Go.Eng
open Go.RowKit
section
variable {P : Program} {C : Ctx} {F : Nat→Prop} {μ : List (Option Place)} {H : List Entry} {w : World}
theorem SOk.pure {rd : Option Nat} {v : Value} {tv : TV} {K : TV→Prop} {s : Sem Value} (hs : ∀ w',s.run P w' = .ok v w') (hr : RepV F μ H w tv v) (hK : K tv) : SOk P F μ H w rd s K :=
  ⟨v,tv,fun w' _=>hs w',hr,hK⟩
theorem SOk.c {rd : Option Nat} {K : TV→Prop} {s : Sem Value} {v : Value} (hK : K (.c v)) (hv : v.oneCell' = true) (hs : ∀ w',s.run P w' = .ok v w') : SOk P F μ H w rd s K :=
  ⟨v,.c v,fun w' _=>hs w',RepC.c v hv,hK⟩
theorem SOk.r {rd : Option Nat} {K : TV→Prop} {s : Sem Value} {v : Value} {tv : TV} (hK : K tv) (hs : ∀ w',s.run P w' = .ok v w') (hr : RepV F μ H w tv v) : SOk P F μ H w rd s K :=
  ⟨v,tv,fun w' _=>hs w',hr,hK⟩
def intBody (op : BinOp) (k : IntKind) (x y : Int) : Sem Value:=match op with
  | .add | .sub | .mul=>Op.intArith op k x y
  | .quo | .rem=>Op.intDiv op k x y
  | .and | .or | .xor | .andNot=>Op.intBits op k x y
  | _=>Op.intCmp op x y
theorem rep_c {v v' : Value} (h : RepV F μ H w (.c v) v') : v' = v∧v.oneCell' = true:=by
  have h' : RepC F w (.c v) v':=h
  cases h' with
  | c _ h1=>exact ⟨rfl,h1⟩
theorem intOp_ok {rd : Option Nat} {op : BinOp} {k : IntKind} {x y : Int} {K : TV→Prop} (h : intOpT op k x y K) (ho : op≠.shl) (ho' : op≠.shr) :
    SOk P F μ H w rd (intBody op k x y) K:=by
  cases op <;> first
    | exact h.elim
    | exact SOk.c h rfl (fun _=>rfl)
    | exact SOk.c h.2 rfl (fun _=>by simp [intBody,Op.intDiv,h.1])
theorem strOp_ok {rd : Option Nat} {op : BinOp} {x y : ByteArray} {K : TV→Prop} (h : strOpT op x y K) : SOk P F μ H w rd (Op.stringOp op x y) K:=by
  cases op <;> first
    | exact h.elim
    | exact SOk.c h rfl (fun _=>rfl)
    | exact SOk.c h.2 rfl (fun _=>by
        unfold Op.stringOp
        simp only []
        rw [if_neg (by have:=h.1; omega)]
        rfl)
theorem asBoolV_elim {x : TV} {K : Bool→Prop} (h : asBoolV x K) : ∃ a,x = .w (.one (.p (.c (.bool a))))∧K a:=by
  unfold asBoolV at h
  split at h
  · exact ⟨_,rfl,h⟩
  · exact h.elim
theorem asPaggV_elim {x : TV} {K : List PC→Prop} (h : asPaggV x K) : ∃ a,x = .w (.pagg a)∧K a:=by
  unfold asPaggV at h
  split at h
  · exact ⟨_,rfl,h⟩
  · exact h.elim
theorem eqT_ok (hC : CtxOk P C F w) {op : BinOp} {t : TypeId} {x y : TV} {u v : Value} {xo yo : Operand} {K : Bool→Prop} (h : eqT (C.ty t) x y K) (hx : RepV F μ H w x u) (hy : RepV F μ H w y v) :
    ∃ b,K b∧(∀ w',(do eqGuard op t xo yo u v; Op.equal t u v : Sem Bool).run P w' = .ok b w')∧(∀ k a,u≠.int k a)∧(∀ s,u≠.string s)∧(∀ k a,u≠.float k a)∧(∀ k a b,u≠.complex k a b)∧(∀ p,u≠.pointer p)∧(∀ k a,v≠.int k a)∧(∀ p,v≠.pointer p):=by
  unfold eqT at h
  split at h
  · exact h.elim
  · rename_i i hi
    have hT:=hC.ty t i hi
    obtain ⟨d,hd,hk⟩:=hT.kind
    split at h
    · rename_i hb
      replace h:=asBoolV_elim h
      obtain ⟨a,rfl,h⟩:=h
      replace h:=asBoolV_elim h
      obtain ⟨b,rfl,h⟩:=h
      obtain ⟨rfl,_⟩:=rep_c hx
      obtain ⟨rfl,_⟩:=rep_c hy
      have hdb : P.underlying t = some .bool:=by
        rw [hb] at hk
        cases d <;> first | exact hd | cases hk
      refine ⟨_,h,fun w'=>?_,by simp,by simp,by simp,by simp,by simp,by simp,by simp⟩
      have hg : eqGuard op t xo yo (.bool a) (.bool b) = pure ():=by unfold eqGuard; cases op <;> rfl
      rw [hg]
      simp only [pure_bind]
      exact run_equal_bool w' t a b hdb
    · cases hc : (isAggB i.kind && scal i.cks && i.cks.length == i.size) with
      | false =>
        rw [hc] at h
        simp only [cond_false] at h
        unfold uniT at h
        split at h
        · rename_i ck hck
          cases hc2 : (isArrB i.kind && scal [ck]) with
          | false=>rw [hc2] at h; exact h.elim
          | true =>
            rw [hc2] at h
            simp only [cond_true] at h
            replace h:=asPaggV_elim h
            obtain ⟨xs,rfl,h⟩:=h
            replace h:=asPaggV_elim h
            obtain ⟨ys,rfl,h⟩:=h
            obtain ⟨b,hb,h⟩:=h
            obtain ⟨vs,rfl,hX⟩:=hx
            obtain ⟨us,rfl,hY⟩:=hy
            have he:=hT.uni
            unfold uniGood at he
            rw [hck] at he
            simp only [hc2,Bool.not_true,Bool.false_or,Bool.and_eq_true,beq_iff_eq,Bool.not_eq_eq_eq_not] at he
            obtain ⟨he1,he2⟩:=he
            refine ⟨b,h,fun w'=>?_,by simp,by simp,by simp,by simp,by simp,by simp,by simp⟩
            rw [Sem.run_bind,run_eqGuard_agg w' op t xo yo vs us he2,Result.andThen_ok]
            have hag : isAggK (kindOf d) = true:=by
              rw [hk]
              simp only [Bool.and_eq_true] at hc2
              have:=hc2.1
              cases hq : i.kind <;> rw [hq] at this <;> first | rfl | cases this
            have:=(eqUni_ok P 9988 12 t _ _ he1).2 F w xs ys vs.toList us.toList b d hd hX hY hb w'
            simp only [valOf,hag,cond_true,Array.toArray_toList] at this
            exact this
        · exact h.elim
      | true =>
        rw [hc] at h
        simp only [cond_true] at h
        replace h:=asPaggV_elim h
        obtain ⟨xs,rfl,h⟩:=h
        replace h:=asPaggV_elim h
        obtain ⟨ys,rfl,h⟩:=h
        unfold optP at h
        split at h
        · rename_i b hb
          obtain ⟨vs,rfl,hX⟩:=hx
          obtain ⟨us,rfl,hY⟩:=hy
          have he:=hT.eq
          unfold eqGood at he
          rw [hc] at he
          simp only [Bool.not_true,Bool.false_or,Bool.and_eq_true,beq_iff_eq,Bool.not_eq_eq_eq_not] at he
          obtain ⟨he1,he2⟩:=he
          refine ⟨b,h,fun w'=>?_,by simp,by simp,by simp,by simp,by simp,by simp,by simp⟩
          rw [Sem.run_bind,run_eqGuard_agg w' op t xo yo vs us he2,Result.andThen_ok]
          have hag : isAggK (kindOf d) = true:=by
            rw [hk]
            simp only [Bool.and_eq_true] at hc
            have:=hc.1.1
            cases hq : i.kind <;> rw [hq] at this <;> first | rfl | cases this
          have:=(eqIn_ok P 9988 12 t _ he1).2 F w xs ys vs.toList us.toList b d hd hX hY hb w'
          simp only [valOf,hag,cond_true,Array.toArray_toList] at this
          exact this
        · exact h.elim
theorem nil_ok (hC : CtxOk P C F w) {rd : Option Nat} {op : BinOp} {t : TypeId} {x : TV} {u : Value} {xo yo : Operand} {K : TV→Prop} (h : nilEqT C op t x H K) (hx : RepV F μ H w x u) :
    SOk P F μ H w rd (do eqGuard op t xo yo u (.slice none 0 0); binOp op t u (.slice none 0 0)) K:=by
  unfold nilEqT at h
  split at h
  · rename_i i hi
    obtain ⟨d,hd,hk⟩:=(hC.ty t i hi).kind
    split at h
    · rename_i e he
      have hde : P.underlying t = some (.slice e):=by
        rw [he] at hk
        cases d <;> first | (cases hk; exact hd) | cases hk
      have fin : ∀ (p : Prop) (a : Option Addr) (n c : Nat),(a = none→p)→u = .slice a n c→nilK op p K→SOk P F μ H w rd (do eqGuard op t xo yo u (.slice none 0 0); binOp op t u (.slice none 0 0)) K:=by
        intro p a n c hp hu hn
        subst hu
        have hg : eqGuard op t xo yo (.slice a n c) (.slice none 0 0) = pure ():=by unfold eqGuard; cases op <;> rfl
        rw [hg]
        simp only [pure_bind]
        cases op <;> first | exact hn.elim | skip
        · refine SOk.c (v:=.bool a.isNone) ?_ rfl fun w'=>?_
          · cases a with
            | none=>exact hn.1 (hp rfl)
            | some _=>exact hn.2
          · have:=run_equal_slice_nil w' t e a n c hde
            show (do pure (.bool (← Op.equal t (.slice a n c) (.slice none 0 0))) : Sem Value).run P w' = _
            rw [Sem.run_bind,this]
            rfl
        · refine SOk.c (v:=.bool (!a.isNone)) ?_ rfl fun w'=>?_
          · cases a with
            | none=>exact hn.1 (hp rfl)
            | some _=>exact hn.2
          · have:=run_equal_slice_nil w' t e a n c hde
            show (do pure (.bool (!(← Op.equal t (.slice a n c) (.slice none 0 0)))) : Sem Value).run P w' = _
            rw [Sem.run_bind,this]
            rfl
      split at h
      · rename_i sz es full
        have hr : RepC F w (.sl sz es full) u:=hx
        cases hr with
        | nil=>exact fin _ none 0 0 (fun _=>rfl) rfl h
        | sl _ _ _ a cap val=>exact fin _ (some a) _ _ (fun q=>by cases q) rfl h
      · rename_i b i' n
        split at h
        · rename_i sz es wr hb
          obtain ⟨h1,base,cap,rfl,h2,h3⟩:=hx
          obtain ⟨h4,h5⟩:=h3 _ _ _ hb
          refine fin _ base n cap (fun q=>?_) rfl h
          rcases h5 with h5 | ⟨pl,_,h6,_⟩
          · omega
          · rw [h6] at q; cases q
        · exact h.elim
      · exact h.elim
    · exact h.elim
  · exact h.elim
theorem nilp_ok (hC : CtxOk P C F w) {rd : Option Nat} {op : BinOp} {t : TypeId} {x : TV} {u : Value} {xo yo : Operand} {K : TV→Prop} (h : nilPT C op t x K) (hx : RepV F μ H w x u) :
    SOk P F μ H w rd (do eqGuard op t xo yo u (.pointer none); binOp op t u (.pointer none)) K:=by
  unfold nilPT at h
  split at h
  · rename_i i hi
    obtain ⟨d,hd,hk⟩:=(hC.ty t i hi).kind
    split at h
    · rename_i e he
      have hde : P.underlying t = some (.pointer e):=by
        rw [he] at hk
        cases d <;> first | (cases hk; exact hd) | cases hk
      have fin : ∀ (a : Option Addr),u = .pointer a→nilB op a.isNone K→SOk P F μ H w rd (do eqGuard op t xo yo u (.pointer none); binOp op t u (.pointer none)) K:=by
        intro a hu hn
        subst hu
        have hg : eqGuard op t xo yo (.pointer a) (.pointer none) = pure ():=by unfold eqGuard; cases op <;> rfl
        rw [hg]
        simp only [pure_bind]
        have he : ∀ w',(Op.equal t (.pointer a) (.pointer none)).run P w' = .ok a.isNone w':=fun w'=>by
          have hp : P.pointee t = e:=by unfold Program.pointee; rw [hde]
          exact run_equal_pointer_nil w' t a (by rw [hp]; exact hde)
        cases op <;> first | exact hn.elim | skip
        · refine SOk.c (v:=.bool a.isNone) hn rfl fun w'=>?_
          show (do pure (.bool (← Op.equal t (.pointer a) (.pointer none))) : Sem Value).run P w' = _
          rw [Sem.run_bind,he w']
          rfl
        · refine SOk.c (v:=.bool (!a.isNone)) hn rfl fun w'=>?_
          show (do pure (.bool (!(← Op.equal t (.pointer a) (.pointer none)))) : Sem Value).run P w' = _
          rw [Sem.run_bind,he w']
          rfl
      split at h
      · obtain ⟨_,B,O,rfl,_⟩:=hx
        exact fin (some _) rfl h
      · obtain ⟨a,rfl,_⟩:=hx
        exact fin (some _) rfl h
      · split at h
        · obtain ⟨rfl,_⟩:=rep_c hx
          exact fin none rfl h
        · exact h.elim
      · exact h.elim
    · exact h.elim
  · exact h.elim
theorem bin_ok (hC : CtxOk P C F w) {rd : Option Nat} {op : BinOp} {t : TypeId} {x y : TV} {u v : Value} {xo yo : Operand} {K : TV→Prop} (h : binT C op t x y K) (hx : RepV F μ H w x u) (hy : RepV F μ H w y v) :
    SOk P F μ H w rd (do eqGuard op t xo yo u v; binOp op t u v) K:=by
  unfold binT at h
  split at h
  · rename_i k a k' b
    obtain ⟨rfl,_⟩:=rep_c hx
    obtain ⟨rfl,_⟩:=rep_c hy
    have hg : ∀ op,eqGuard op t xo yo (.int k a) (.int k' b) = pure ():=fun op=>by unfold eqGuard; cases op <;> rfl
    rw [hg]
    simp only [pure_bind]
    split at h
    · exact SOk.c h.2 rfl (fun _=>by
        show (Op.shift .shl k a k' b).run P _ = _
        unfold Op.shift
        rw [if_neg (by have:=h.1; omega)]
        rfl)
    · exact SOk.c h.2 rfl (fun _=>by
        show (Op.shift .shr k a k' b).run P _ = _
        unfold Op.shift
        rw [if_neg (by have:=h.1; omega)]
        rfl)
    · rename_i h1 h2
      split at h
      · rename_i he
        subst he
        have hb : binOp op t (.int k a) (.int k b) = intBody op k a b:=by
          cases op <;> first
            | exact absurd rfl h1
            | exact absurd rfl h2
            | (unfold binOp intBody; simp only [ne_eq,not_true_eq_false,if_false])
        rw [hb]
        exact intOp_ok h h1 h2
      · exact h.elim
  · rename_i a b
    obtain ⟨rfl,_⟩:=rep_c hx
    obtain ⟨rfl,_⟩:=rep_c hy
    have hg : ∀ op,eqGuard op t xo yo (.string a) (.string b) = pure ():=fun op=>by unfold eqGuard; cases op <;> rfl
    rw [hg]
    simp only [pure_bind]
    have hb : binOp op t (.string a) (.string b) = Op.stringOp op a b:=by cases op <;> rfl
    rw [hb]
    exact strOp_ok h
  · split at h
    · obtain ⟨b,hK,hr,n1,n2,n3,n4,n5,n6,n7⟩:=eqT_ok (op:=.eql) (xo:=xo) (yo:=yo) hC h hx hy
      have hb : binOp .eql t u v = (do pure (.bool (← Op.equal t u v))):=by
        cases u <;> first
          | exact absurd rfl (n1 _ _)
          | exact absurd rfl (n2 _)
          | exact absurd rfl (n3 _ _)
          | exact absurd rfl (n4 _ _ _)
          | exact absurd rfl (n5 _)
          | (cases v <;> first | rfl | exact absurd rfl (n6 _ _) | exact absurd rfl (n7 _))
      refine SOk.c hK rfl (fun w'=>?_)
      have:=hr w'
      rw [hb]
      simp only [Sem.run_bind] at this ⊢
      generalize (eqGuard BinOp.eql t xo yo u v).run P w' = r at this ⊢
      cases r with
      | ok x w1=>simp only [Result.andThen_ok] at this ⊢; rw [this]; rfl
      | halt x w1=>simp at this
    · obtain ⟨b,hK,hr,n1,n2,n3,n4,n5,n6,n7⟩:=eqT_ok (op:=.neq) (xo:=xo) (yo:=yo) hC h hx hy
      have hb : binOp .neq t u v = (do pure (.bool (!(← Op.equal t u v)))):=by
        cases u <;> first
          | exact absurd rfl (n1 _ _)
          | exact absurd rfl (n2 _)
          | exact absurd rfl (n3 _ _)
          | exact absurd rfl (n4 _ _ _)
          | exact absurd rfl (n5 _)
          | (cases v <;> first | rfl | exact absurd rfl (n6 _ _) | exact absurd rfl (n7 _))
      refine SOk.c hK rfl (fun w'=>?_)
      have:=hr w'
      rw [hb]
      simp only [Sem.run_bind] at this ⊢
      generalize (eqGuard BinOp.neq t xo yo u v).run P w' = r at this ⊢
      cases r with
      | ok x w1=>simp only [Result.andThen_ok] at this ⊢; rw [this]; rfl
      | halt x w1=>simp at this
    · exact h.elim
theorem un_ok {rd : Option Nat} {op : UnOp} {x : TV} {u : Value} {K : TV→Prop} (h : unT op x K) (hx : RepV F μ H w x u) : SOk P F μ H w rd (Op.unary op u) K:=by
  unfold unT at h
  split at h
  · rename_i k n
    obtain ⟨rfl,_⟩:=rep_c hx
    split at h
    · exact SOk.c h rfl (fun _=>rfl)
    · exact SOk.c h rfl (fun _=>rfl)
    · exact h.elim
  · rename_i b
    obtain ⟨rfl,_⟩:=rep_c hx
    split at h
    · exact SOk.c h rfl (fun _=>rfl)
    · exact h.elim
  · exact h.elim
theorem kind_inv {d : TypeDesc} : (∀ k,kindOf d = .int k→d = .int k)∧(kindOf d = .bool→d = .bool)∧(kindOf d = .str→d = .string)∧(∀ e,kindOf d = .slice e→d = .slice e)∧(∀ n e,kindOf d = .array n e→d = .array n e) ∧
    (∀ l,kindOf d = .struct l→∃ fs,d = .struct fs∧l = fs.toList.map fun f=>(f.offset,f.type))∧(∀ e,kindOf d = .ptr e→d = .pointer e):=by
  cases d <;> simp [kindOf] <;> intros <;> simp_all
theorem conv_ok (hC : CtxOk P C F w) {rd : Option Nat} {s d : TypeId} {x : TV} {u : Value} {K : TV→Prop} (h : convT C s d x K) (hx : RepV F μ H w x u) : SOk P F μ H w rd (convert s d u) K:=by
  unfold convT at h
  split at h
  · exact h.elim
  rename_i si hsi
  obtain ⟨q,hq,_⟩:=(hC.ty _ _ hsi).kind
  split at h
  · rename_i k0 n
    obtain ⟨rfl,_⟩:=rep_c hx
    split at h
    · rename_i k a b c e ht
      obtain ⟨dd,hd,hk⟩:=(hC.ty _ _ ht).kind
      have hdd:=kind_inv.1 k hk
      subst hdd
      refine SOk.c h rfl (fun w'=>?_)
      unfold convert
      rw [Sem.run_bind,run_underlying hq,Result.andThen_ok,Sem.run_bind,run_underlying hd,Result.andThen_ok]
      cases q <;> rfl
    · exact h.elim
  · rename_i str
    obtain ⟨rfl,_⟩:=rep_c hx
    split at h
    · rename_i a b c e ht
      obtain ⟨dd,hd,hk⟩:=(hC.ty _ _ ht).kind
      have hdd:=kind_inv.2.2.1 hk
      subst hdd
      refine SOk.c h rfl (fun w'=>?_)
      unfold convert
      rw [Sem.run_bind,run_underlying hq,Result.andThen_ok,Sem.run_bind,run_underlying hd,Result.andThen_ok]
      cases q <;> rfl
    · exact h.elim
  · exact h.elim
theorem fieldAddr_ok (hC : CtxOk P C F w) {rd : Option Nat} {t : TypeId} {f : Nat} {x : TV} {u : Value} {K : TV→Prop} (h : fieldAddrT C t x f K) (hx : RepV F μ H w x u) :
    SOk P F μ H w rd (Instr.fieldAt t u f) K:=by
  unfold fieldAddrT at h
  split at h
  · rename_i fs sz by' z cks ht
    obtain ⟨d,hd,hk⟩:=(hC.ty _ _ ht).kind
    obtain ⟨fields,rfl,hfs⟩:=kind_inv.2.2.2.2.2.1 _ hk
    split at h
    · rename_i o ft hf
      split at h
      · rename_i fi hfi
        cases h0 : fi.size == 0 with
        | true=>rw [h0] at h; exact h.elim
        | false =>
          rw [h0] at h
          simp only [cond_false] at h
          have hfield : ∃ q,fields[f]? = some q∧q.offset = o∧q.type = ft:=by
            rw [hfs,List.getElem?_map] at hf
            cases hq : fields[f]? with
            | none=>simp [hq] at hf
            | some q=>simp [hq] at hf; exact ⟨q,rfl,hf.1,hf.2⟩
          obtain ⟨q,hq,rfl,rfl⟩:=hfield
          have hsz:=(hC.ty _ _ hfi).run_size
          have key : ∀ (a : Addr) (w' : World),(Instr.fieldAt t (.pointer (some a)) f).run P w' = .ok (.pointer (some (a.add q.offset))) w':=by
            intro a w'
            unfold Instr.fieldAt
            rw [Sem.run_bind,run_underlying hd,Result.andThen_ok]
            simp only [hq,Instr.sureAddr,pure_bind,fieldPlace,Sem.run_bind,hsz,Result.andThen_ok]
            rw [if_neg (by simpa using h0)]
            rfl
          split at h
          · rename_i b i o'
            obtain ⟨hb,B,O,rfl,hpl⟩:=hx
            refine SOk.r h (fun w'=>by rw [key,add_none]) ?_
            refine ⟨hb,B,O + q.offset,rfl,fun e he hl=>?_⟩
            obtain ⟨pl,h1,h2,h3⟩:=hpl e he hl
            exact ⟨pl,h1,h2,by omega⟩
          · rename_i cs o'
            obtain ⟨a,rfl,ha⟩:=hx
            refine SOk.r h (fun w'=>by rw [key,add_none]) ?_
            exact ⟨a,by rw [Nat.add_assoc],ha⟩
          · exact h.elim
      · exact h.elim
    · exact h.elim
  · exact h.elim
end
end Go.Eng
namespace Go.Eng
open Go.RowKit
section
variable {P : Program} {C : Ctx} {F : Nat→Prop} {μ : List (Option Place)} {H : List Entry} {w : World}
theorem run_part {t : TypeId} {ti : TI} (hT : TIOk P t ti) {cs : Array Value} {o : Nat} (hl : (ext cs.toList o ti.size).length = ti.size) (w : World) :
    (part t cs o).run P w = .ok (valOf ti.kind (ext cs.toList o ti.size)) w:=by
  obtain ⟨d,hd,hk,hu⟩:=hT.run_und
  have hag : (isAgg t).run P w = .ok (isAggK ti.kind) w:=by
    unfold isAgg
    rw [Sem.run_bind,hu w,Result.andThen_ok,← hk]
    cases d <;> rfl
  unfold part
  rw [Sem.run_bind,hag,Result.andThen_ok]
  have hl' : ti.size = 0∨o + ti.size≤cs.size:=by
    unfold ext at hl
    rw [List.length_take,List.length_drop,Array.length_toList] at hl
    omega
  cases hg : isAggK ti.kind with
  | true =>
    simp only [if_true,Sem.run_bind,hT.run_size,Result.andThen_ok,Sem.run_pure,valOf,hg,cond_true]
    congr 2
    apply Array.ext'
    simp only [Array.toList_extract,ext,List.extract_eq_take_drop]
    congr 1
    omega
  | false =>
    have h1 : ti.size = 1:=hT.size (fun n e he=>by rw [he] at hg; cases hg) (fun fs he=>by rw [he] at hg; cases hg)
    have ho : o < cs.size:=by omega
    have he : ext cs.toList o ti.size = [cs[o]]:=by
      unfold ext
      rw [h1,List.drop_eq_getElem_cons (by simpa using ho)]
      simp
    simp only [Bool.false_eq_true,if_false,Array.getElem?_eq_getElem ho,valOf,hg,cond_false,he,List.headD_cons,Sem.run_pure]
theorem field_ok (hC : CtxOk P C F w) {rd : Option Nat} {t : TypeId} {f : Nat} {x : TV} {u : Value} {K : TV→Prop} (h : fieldT C t x f K) (hx : RepV F μ H w x u) : SOk P F μ H w rd (Instr.field t u f) K:=by
  unfold fieldT at h
  split at h
  · rename_i fs sz by' z cks ht
    obtain ⟨d,hd,hk⟩:=(hC.ty _ _ ht).kind
    obtain ⟨fields,rfl,hfs⟩:=kind_inv.2.2.2.2.2.1 _ hk
    split at h
    · rename_i o ft hf
      split at h
      · rename_i fi hfi
        have hfield : ∃ q,fields[f]? = some q∧q.offset = o∧q.type = ft:=by
          rw [hfs,List.getElem?_map] at hf
          cases hq : fields[f]? with
          | none=>simp [hq] at hf
          | some q=>simp [hq] at hf; exact ⟨q,rfl,hf.1,hf.2⟩
        obtain ⟨q,hq,rfl,rfl⟩:=hfield
        have hT:=hC.ty _ _ hfi
        have key : ∀ (cs : Array Value) (w' : World),(ext cs.toList q.offset fi.size).length = fi.size→(Instr.field t (.agg cs) f).run P w' = .ok (valOf fi.kind (ext cs.toList q.offset fi.size)) w':=by
          intro cs w' hl
          unfold Instr.field
          rw [Sem.run_bind,run_underlying hd,Result.andThen_ok]
          simp only [hq,asAgg,pure_bind]
          exact run_part hT hl w'
        split at h
        · obtain ⟨cs,rfl,hr⟩:=hx
          obtain ⟨hl,tv,htv,hK⟩:=asType_rep (μ:=μ) (H:=H) hT h (hr.ext q.offset fi.size)
          exact SOk.r hK (fun w'=>key cs w' hl) htv
        · obtain ⟨cs,rfl,hr⟩:=hx
          obtain ⟨hl,tv,htv,hK⟩:=asTypeT_rep hT h (hr.ext q.offset fi.size)
          exact SOk.r hK (fun w'=>key cs w' hl) htv
        · exact h.elim
      · exact h.elim
    · exact h.elim
  · exact h.elim
theorem sl_inv {sz : Nat} {es : List (List PC)} {full : Bool} {v : Value} (h : RepC F w (.sl sz es full) v) :
    (es = []∧v = .slice none 0 0)∨∃ (a : Addr) (cap : Nat),v = .slice (some a) es.length cap∧(es = []∨a.spot = none)∧es.length≤cap∧(full = true→cap = es.length) ∧
      (∀ i e,es[i]? = some e→FptrOk F w e 0 (.pointer (some ⟨a.block,a.off + i * sz,none⟩))):=by
  cases h with
  | nil=>exact .inl ⟨rfl,rfl⟩
  | sl sz es full a cap val h1 h2 h3 h6 h4 h5 =>
    refine .inr ⟨a,cap,rfl,h1,h2,h3,fun i e he=>⟨⟨a.block,a.off + i * sz,none⟩,by simp,fun j x hx=>?_⟩⟩
    obtain ⟨hf,hc⟩:=h4 i e j x he hx
    exact ⟨hf,_,hc,h5 i e j x he hx⟩
theorem asI_rep {x : TV} {u : Value} {j : Int} (h : asI x = some j) (hx : RepV F μ H w x u) : ∃ k,u = .int k j:=by
  unfold asI at h
  split at h
  · rename_i k j'
    simp only [Option.some.injEq] at h
    subst h
    exact ⟨k,(rep_c hx).1⟩
  · cases h
theorem indexAddr_ok (hC : CtxOk P C F w) {rd : Option Nat} {t : TypeId} {x ix : TV} {u v : Value} {K : TV→Prop} (h : indexAddrT C t x ix H K) (hx : RepV F μ H w x u) (hi : RepV F μ H w ix v) :
    SOk P F μ H w rd (Instr.indexAt t u v) K:=by
  unfold indexAddrT at h
  split at h
  · rename_i ti ht
    obtain ⟨d,hd,hk⟩:=(hC.ty _ _ ht).kind
    split at h
    · rename_i j hj
      obtain ⟨k,rfl⟩:=asI_rep hj hi
      split at h
      · rename_i e he
        have hdd:=kind_inv.2.2.2.1 e (hk.trans he)
        subst hdd
        split at h
        · rename_i ei hei
          have hsz:=(hC.ty _ _ hei).run_size
          have key : ∀ (a : Addr) (n cap : Nat) (w' : World),0≤j→j < n→(Instr.indexAt t (.slice (some a) n cap) (.int k j)).run P w' = .ok (.pointer (some (a.add (j.toNat * ei.size)))) w':=by
            intro a n cap w' h0 h1
            unfold Instr.indexAt
            simp only [asIntOf,pure_bind,Sem.run_bind,run_underlying hd,Result.andThen_ok,Sem.run_pure]
            rw [if_pos ⟨h0,h1⟩]
            simp only [Sem.run_bind,hsz,Result.andThen_ok,Sem.run_pure]
          split at h
          · rename_i b i n
            split at h
            · rename_i sz es wr hb
              split at h
              · rename_i hse
                obtain ⟨⟨h0,h1⟩,hK⟩:=h
                obtain ⟨hbl,base,cap,rfl,hn,hpl⟩:=hx
                rcases (hpl sz es wr hb).2 with rfl | ⟨pl,hm,rfl,hlim⟩
                · omega
                · refine SOk.r hK (fun w'=>by rw [key _ _ _ w' h0 h1,add_none]) ?_
                  refine ⟨hbl,_,_,rfl,fun e' he' hl=>?_⟩
                  rw [hb] at he'
                  obtain rfl:=Option.some.inj he'
                  refine ⟨pl,hm,rfl,?_⟩
                  show pl.off + i * sz + j.toNat * ei.size = pl.off + (i + j.toNat) * sz + 0
                  rw [hse,Nat.add_mul]
                  omega
              · exact h.elim
            · exact h.elim
          · rename_i sz es full
            split at h
            · rename_i hse
              obtain ⟨⟨h0,h1⟩,hK⟩:=h
              rcases sl_inv hx with ⟨rfl,_⟩ | ⟨a,cap,rfl,hsp,hcap,hfull,hel⟩
              · simp at h1; omega
              · have hj2 : j.toNat < es.length:=by omega
                have hg : es[j.toNat]? = some (es.getD j.toNat []):=by rw [List.getD_eq_getElem?_getD,List.getElem?_eq_getElem hj2]; rfl
                have h2:=hel j.toNat _ hg
                have hspot : a.spot = none:=by
                  rcases hsp with rfl | hsp
                  · simp at hj2
                  · exact hsp
                obtain ⟨ab,ao,as⟩:=a
                simp only at hspot
                subst hspot
                refine SOk.r hK (fun w'=>by rw [key _ _ _ w' h0 h1,add_none,← hse]) h2
            · exact h.elim
          · exact h.elim
        · exact h.elim
      · rename_i n e he
        have hdd:=kind_inv.2.2.2.2.1 n e (hk.trans he)
        subst hdd
        split at h
        · rename_i ei hei
          have hsz:=(hC.ty _ _ hei).run_size
          have key : ∀ (a : Addr) (w' : World),0≤j→j < n→(Instr.indexAt t (.pointer (some a)) (.int k j)).run P w' = .ok (.pointer (some (a.add (j.toNat * ei.size)))) w':=by
            intro a w' h0 h1
            unfold Instr.indexAt
            simp only [asIntOf,pure_bind,Sem.run_bind,run_underlying hd,Result.andThen_ok,Sem.run_pure,Instr.sureAddr]
            rw [if_pos ⟨h0,h1⟩]
            simp only [Sem.run_bind,hsz,Result.andThen_ok,Sem.run_pure]
          split at h
          · rename_i b i o
            obtain ⟨⟨h0,h1⟩,hK⟩:=h
            obtain ⟨hbl,B,O,rfl,hpl⟩:=hx
            refine SOk.r hK (fun w'=>by rw [key _ w' h0 h1,add_none]) ?_
            refine ⟨hbl,_,_,rfl,fun e' he' hl=>?_⟩
            obtain ⟨pl,q1,q2,q3⟩:=hpl e' he' hl
            exact ⟨pl,q1,q2,by omega⟩
          · rename_i cs o
            obtain ⟨⟨h0,h1⟩,hK⟩:=h
            obtain ⟨a,rfl,ha⟩:=hx
            refine SOk.r hK (fun w'=>by rw [key _ w' h0 h1,add_none]) ?_
            exact ⟨a,by rw [Nat.add_assoc],ha⟩
          · exact h.elim
        · exact h.elim
      · exact h.elim
    · exact h.elim
  · exact h.elim
theorem byteAt_get (s : ByteArray) (i : Int) (h0 : 0≤i) (h1 : i < s.size) : ∃ b : UInt8,s[i.toNat]? = some b∧byteAt s i = (b.toNat : Int):=by
  have hlt : i.toNat < s.size:=by omega
  refine ⟨s[i.toNat],by simp [hlt],?_⟩
  unfold byteAt
  have : s.data.toList.getD i.toNat 0 = s[i.toNat]:=by
    rw [List.getD_eq_getElem?_getD,List.getElem?_eq_getElem (by simpa using hlt)]
    rfl
  rw [this]
theorem index_ok (hC : CtxOk P C F w) {rd : Option Nat} {t : TypeId} {x ix : TV} {u v : Value} {K : TV→Prop} (h : indexT C t x ix K) (hx : RepV F μ H w x u) (hi : RepV F μ H w ix v) :
    SOk P F μ H w rd (Instr.index t u v) K:=by
  unfold indexT at h
  split at h
  · rename_i ti ht
    obtain ⟨d,hd,hk⟩:=(hC.ty _ _ ht).kind
    split at h
    · rename_i j hj
      obtain ⟨k,rfl⟩:=asI_rep hj hi
      split at h
      · rename_i he
        have hdd:=kind_inv.2.2.1 (hk.trans he)
        subst hdd
        split at h
        · rename_i s
          obtain ⟨rfl,_⟩:=rep_c hx
          obtain ⟨⟨h0,h1⟩,hK⟩:=h
          obtain ⟨b,hb,hv⟩:=byteAt_get s j h0 h1
          rw [hv] at hK
          refine SOk.c hK rfl fun w'=>?_
          unfold Instr.index
          simp only [asIntOf,pure_bind,Sem.run_bind,run_underlying hd,Result.andThen_ok]
          rw [if_pos h0,hb]
          rfl
        · exact h.elim
      · rename_i n e he
        have hdd:=kind_inv.2.2.2.2.1 n e (hk.trans he)
        subst hdd
        split at h
        · rename_i ei hei
          have hT:=hC.ty _ _ hei
          split at h
          · rename_i cs
            obtain ⟨⟨h0,h1⟩,h2⟩:=h
            obtain ⟨vs,rfl,hr⟩:=hx
            obtain ⟨hl,tv,htv,hK⟩:=asType_rep (μ:=μ) (H:=H) hT h2 (hr.ext (j.toNat * ei.size) ei.size)
            refine SOk.r hK (fun w'=>?_) htv
            unfold Instr.index
            simp only [asIntOf,pure_bind,Sem.run_bind,run_underlying hd,Result.andThen_ok]
            rw [if_pos ⟨h0,h1⟩]
            simp only [Sem.run_bind,hT.run_size,Result.andThen_ok]
            exact run_part hT hl w'
          · exact h.elim
        · exact h.elim
      · exact h.elim
    · exact h.elim
  · exact h.elim
end
end Go.Eng
namespace Go.Eng
open Go.RowKit
section
variable {P : Program} {C : Ctx} {F : Nat→Prop} {μ : List (Option Place)} {H : List Entry} {w : World}
def RepO (F : Nat→Prop) (μ : List (Option Place)) (H : List Entry) (w : World) : Option TV→Option Value→Prop
  | none,none=>True
  | some x,some v=>RepV F μ H w x v
  | _,_=>False
theorem bound_rep {d : Int} {x : Option TV} {v : Option Value} {K : Int→Prop} (h : bound d x K) (hx : RepO F μ H w x v) : (v = none∧x = none∧K d)∨∃ k n,v = some (.int k n)∧x.isSome = true∧K n:=by
  unfold bound at h
  cases x with
  | none =>
    cases v with
    | none=>exact .inl ⟨rfl,rfl,h⟩
    | some v=>exact hx.elim
  | some x =>
    cases v with
    | none=>exact hx.elim
    | some v =>
      simp only [] at h
      split at h
      · rename_i n hn
        obtain ⟨k,rfl⟩:=asI_rep hn hx
        exact .inr ⟨k,n,rfl,rfl,h⟩
      · exact h.elim
theorem run_sliceBound (k : IntKind) (n : Int) (y : Nat) (c : BoundsCode) (w : World) (h0 : 0≤n) (h1 : n≤y) : (Instr.sliceBound (.int k n) y c).run P w = .ok n.toNat w:=by
  unfold Instr.sliceBound
  simp only [asIntOf,pure_bind]
  rw [if_pos ⟨h0,h1⟩]
  rfl
theorem run_sliceBounds {isSlice : Bool} {len cap : Nat} {lo hi mx : Option Value} {l h m : Int} (w : World)
    (hlo : (lo = none∧l = 0)∨∃ k,lo = some (.int k l)) (hhi : (hi = none∧h = len)∨∃ k,hi = some (.int k h)) (hmx : (mx = none∧m = cap)∨(hi.isSome = true∧∃ k,mx = some (.int k m)))
    (h0 : 0≤l) (h1 : l≤h) (h2 : h≤m) (h3 : m≤cap) : (Instr.sliceBounds isSlice len cap lo hi mx).run P w = .ok (l.toNat,h.toNat,m.toNat) w:=by
  unfold Instr.sliceBounds
  rcases hmx with ⟨rfl,rfl⟩ | ⟨his,km,rfl⟩
  · rcases hhi with ⟨rfl,rfl⟩ | ⟨kh,rfl⟩
    · rcases hlo with ⟨rfl,rfl⟩ | ⟨kl,rfl⟩
      · simp
      · simp only [pure_bind,Sem.run_bind,run_sliceBound kl l len _ w h0 h1,Result.andThen_ok,Sem.run_pure]
        simp
    · simp only [pure_bind,Sem.run_bind,run_sliceBound kh h cap _ w (by omega) (by omega),Result.andThen_ok]
      rcases hlo with ⟨rfl,rfl⟩ | ⟨kl,rfl⟩
      · simp
      · simp only [Sem.run_bind,run_sliceBound kl l h.toNat _ w h0 (by omega),Result.andThen_ok,Sem.run_pure]
        simp
  · rcases hhi with ⟨rfl,rfl⟩ | ⟨kh,rfl⟩
    · simp at his
    · simp only [Sem.run_bind,run_sliceBound km m cap _ w (by omega) (by omega),Result.andThen_ok,run_sliceBound kh h m.toNat _ w (by omega) (by omega)]
      rcases hlo with ⟨rfl,rfl⟩ | ⟨kl,rfl⟩
      · simp
      · simp only [Sem.run_bind,run_sliceBound kl l h.toNat _ w h0 (by omega),Result.andThen_ok,Sem.run_pure]
theorem ext_get {α : Type} (l : List α) (o n i : Nat) (x : α) (h : (ext l o n)[i]? = some x) : l[o + i]? = some x∧i < n:=by
  unfold ext at h
  rw [List.getElem?_take] at h
  split at h
  · rw [List.getElem?_drop] at h
    exact ⟨h,by assumption⟩
  · cases h
theorem ext_len {α : Type} (l : List α) (o n : Nat) (h : o + n≤l.length) : (ext l o n).length = n:=by
  unfold ext
  rw [List.length_take,List.length_drop]
  omega
theorem sl_ext {sz : Nat} {es : List (List PC)} {full full' : Bool} {a : Option Addr} {n cap : Nat} (h : RepC F w (.sl sz es full) (.slice a n cap)) {l k m : Nat} (h1 : l + k≤es.length) (h2 : l + k≤m) (h3 : m≤cap) (hf : full' = true→m = l + k) :
    RepC F w (.sl sz (ext es l k) full') (.slice (if m = l then a else a.map (·.add (l * sz))) k (m - l)):=by
  have hk : (ext es l k).length = k:=ext_len es l k h1
  cases h with
  | nil =>
    have : l = 0∧k = 0∧m = 0:=by simp at h1; omega
    obtain ⟨rfl,rfl,rfl⟩:=this
    exact .nil _ _
  | sl _ _ _ a cap val g1 g2 g3 g6 g4 g5 =>
    have hval : ∀ (A : Addr),(ext es l k = []∨(A.block = a.block∧A.off = a.off + l * sz∧A.spot = none))→RepC F w (.sl sz (ext es l k) full') (.slice (some A) k (m - l)):=by
      intro A hA
      have:=RepC.sl (F:=F) (w:=w) sz (ext es l k) full' A (m - l) (fun i j=>val (l + i) j) (hA.imp id (·.2.2)) (by omega) (fun h=>by have:=hf h; omega) (fun e he=>g6 e (List.mem_of_mem_drop (List.mem_of_mem_take he))) ?_ ?_
      · rw [hk] at this
        exact this
      · intro i e j x he hx
        rcases hA with hA | ⟨hb,ho,hs⟩
        · rw [hA] at he; simp at he
        · obtain ⟨he',hi⟩:=ext_get _ _ _ _ _ he
          obtain ⟨q1,q2⟩:=g4 (l + i) e j x he' hx
          rw [hb,ho]
          refine ⟨q1,?_⟩
          rw [← q2,Nat.add_mul]
          congr 2
          omega
      · intro i e j x he hx
        exact g5 (l + i) e j x (ext_get _ _ _ _ _ he).1 hx
    split
    · rename_i hml
      exact hval a (.inl (by
        have : k = 0:=by omega
        subst this
        simp [ext]))
    · rename_i hml
      refine hval _ ?_
      rcases g1 with rfl | g1
      · left; simp [ext]
      · right
        obtain ⟨ab,ao,as⟩:=a
        simp only at g1
        subst g1
        dsimp only
        rw [add_none]
        exact ⟨rfl,rfl,rfl⟩
theorem slice_ok (hC : CtxOk P C F w) {rd : Option Nat} {t : TypeId} {x : TV} {lo hi mx : Option TV} {u : Value} {vl vh vm : Option Value} {K : TV→Prop} (h : sliceT C t x lo hi mx H K) (hx : RepV F μ H w x u) (hl : RepO F μ H w lo vl) (hh : RepO F μ H w hi vh) (hm : RepO F μ H w mx vm) :
    SOk P F μ H w rd (Instr.sliceAt t u vl vh vm) K:=by
  unfold sliceT at h
  split at h
  · rename_i ti ht
    obtain ⟨d,hd,hk⟩:=(hC.ty _ _ ht).kind
    split at h
    · rename_i he
      have hdd:=kind_inv.2.2.1 (hk.trans he)
      subst hdd
      split at h
      · rename_i s
        obtain ⟨rfl,_⟩:=rep_c hx
        split at h
        · cases vm with
          | some _=>exact hm.elim
          | none =>
            have hlo:=bound_rep h hl
            obtain ⟨l,hlo,h⟩ : ∃ l,((vl = none∧l = 0)∨∃ k,vl = some (.int k l))∧bound s.size hi fun h=>(0≤l∧l≤h∧h≤s.size)∧K (.c (.string (s.extract l.toNat h.toNat))):=by
              rcases hlo with ⟨a,_,b⟩ | ⟨k,n,a,_,b⟩
              · exact ⟨0,.inl ⟨a,rfl⟩,b⟩
              · exact ⟨n,.inr ⟨k,a⟩,b⟩
            obtain ⟨r,hhi,h⟩ : ∃ r,((vh = none∧r = (s.size : Int))∨∃ k,vh = some (.int k r))∧(0≤l∧l≤r∧r≤s.size)∧K (.c (.string (s.extract l.toNat r.toNat))):=by
              rcases bound_rep h hh with ⟨a,_,b⟩ | ⟨k,n,a,_,b⟩
              · exact ⟨_,.inl ⟨a,rfl⟩,b⟩
              · exact ⟨n,.inr ⟨k,a⟩,b⟩
            obtain ⟨⟨h0,h1,h2⟩,hK⟩:=h
            refine SOk.c hK rfl fun w'=>?_
            unfold Instr.sliceAt
            rw [Sem.run_bind,run_underlying hd,Result.andThen_ok]
            show (Instr.slice t (.string s) vl vh none).run P w' = _
            unfold Instr.slice
            rw [Sem.run_bind,run_underlying hd,Result.andThen_ok]
            simp only [Option.isSome_none,Bool.false_eq_true,if_false,Sem.run_bind]
            have hb:=run_sliceBounds (P:=P) (isSlice:=false) (len:=s.size) (cap:=s.size) (mx:=none) (m:=s.size) w' hlo hhi (.inl ⟨rfl,rfl⟩) h0 h1 h2 (Int.le_refl _)
            simp only [Sem.run_pure,Result.andThen_ok,hb]
        · exact h.elim
      · exact h.elim
    · rename_i e he
      have hdd:=kind_inv.2.2.2.1 e (hk.trans he)
      subst hdd
      split at h
      · rename_i ei hei
        have hsz:=(hC.ty _ _ hei).run_size
        have key : ∀ (a : Option Addr) (n cap : Nat) (l r m : Int) (w' : World),(Instr.sliceBounds true n cap vl vh vm).run P w' = .ok (l.toNat,r.toNat,m.toNat) w' →
            (Instr.sliceAt t (.slice a n cap) vl vh vm).run P w' = .ok (.slice (if m.toNat = l.toNat then a else a.map (·.add (l.toNat * ei.size))) (r.toNat - l.toNat) (m.toNat - l.toNat)) w':=by
          intro a n cap l r m w' hb
          unfold Instr.sliceAt
          rw [Sem.run_bind,run_underlying hd,Result.andThen_ok]
          show (Instr.slice t (.slice a n cap) vl vh vm).run P w' = _
          unfold Instr.slice
          rw [Sem.run_bind,run_underlying hd,Result.andThen_ok]
          simp only [Sem.run_bind,hb,Result.andThen_ok,hsz,Sem.run_pure]
        split at h
        · rename_i sz es full
          split at h
          · rename_i hse
            have hx' : RepC F w (.sl sz es full) u:=hx
            obtain ⟨a,cap,rfl,hcap⟩ : ∃ a cap,u = .slice a es.length cap∧es.length≤cap:=by
              rcases sl_inv hx' with ⟨rfl,rfl⟩ | ⟨a,cap,rfl,_,hc,_⟩
              · exact ⟨none,0,rfl,by simp⟩
              · exact ⟨some a,cap,rfl,hc⟩
            split at h
            · cases vm with
              | some _=>exact hm.elim
              | none =>
                obtain ⟨l,hlo,h⟩ : ∃ l,((vl = none∧l = 0)∨∃ k,vl = some (.int k l))∧bound es.length hi fun h=>(0≤l∧l≤h∧h≤es.length)∧K (.w (.one (.p (.sl sz (ext es l.toNat (h.toNat - l.toNat)) (isNilB es && full))))):=by
                  rcases bound_rep h hl with ⟨a,_,b⟩ | ⟨k,n,a,_,b⟩
                  · exact ⟨0,.inl ⟨a,rfl⟩,b⟩
                  · exact ⟨n,.inr ⟨k,a⟩,b⟩
                obtain ⟨r,hhi,h⟩ : ∃ r,((vh = none∧r = (es.length : Int))∨∃ k,vh = some (.int k r))∧(0≤l∧l≤r∧r≤es.length)∧K (.w (.one (.p (.sl sz (ext es l.toNat (r.toNat - l.toNat)) (isNilB es && full))))):=by
                  rcases bound_rep h hh with ⟨a,_,b⟩ | ⟨k,n,a,_,b⟩
                  · exact ⟨_,.inl ⟨a,rfl⟩,b⟩
                  · exact ⟨n,.inr ⟨k,a⟩,b⟩
                obtain ⟨⟨h0,h1,h2⟩,hK⟩:=h
                have hb:=fun w'=>run_sliceBounds (P:=P) (isSlice:=true) (len:=es.length) (cap:=cap) (mx:=none) (m:=cap) w' hlo hhi (.inl ⟨rfl,rfl⟩) h0 h1 (by omega) (Int.le_refl _)
                refine SOk.r hK (fun w'=>key _ _ _ _ _ _ w' (hb w')) ?_
                have:=sl_ext (full':=isNilB es && full) hx' (l:=l.toNat) (k:=r.toNat - l.toNat) (m:=cap) (by omega) (by omega) (Nat.le_refl _) (fun h=>by
                  simp only [Bool.and_eq_true] at h
                  have he : es = []:=by
                    cases es with
                    | nil=>rfl
                    | cons _ _=>exact absurd h.1 (by simp [isNilB])
                  subst he
                  have hc0 : cap = 0:=by
                    rcases sl_inv hx' with ⟨_,q⟩ | ⟨a',cap',q,_,_,hf,_⟩
                    · simp at q; exact q.2
                    · have:=hf h.2
                      simp at q
                      simp at this
                      omega
                  simp at h0 h1 h2
                  omega)
                rw [hse] at this ⊢
                exact this
            · rename_i m
              split at h
              · exact h.elim
              · rename_i hiv
                obtain ⟨l,hlo,h⟩ : ∃ l,((vl = none∧l = 0)∨∃ k,vl = some (.int k l))∧bound es.length (some hiv) fun h=>bound 0 (some m) fun m=>(0≤l∧l≤h∧h = m∧h≤es.length)∧K (.w (.one (.p (.sl sz (ext es l.toNat (h.toNat - l.toNat)) true)))):=by
                  rcases bound_rep h hl with ⟨a,_,b⟩ | ⟨k,n,a,_,b⟩
                  · exact ⟨0,.inl ⟨a,rfl⟩,b⟩
                  · exact ⟨n,.inr ⟨k,a⟩,b⟩
                obtain ⟨r,kr,hhi,h⟩ : ∃ r k,vh = some (.int k r)∧bound 0 (some m) fun m=>(0≤l∧l≤r∧r = m∧r≤es.length)∧K (.w (.one (.p (.sl sz (ext es l.toNat (r.toNat - l.toNat)) true)))):=by
                  rcases bound_rep h hh with ⟨a,b,_⟩ | ⟨k,n,a,_,b⟩
                  · cases b
                  · exact ⟨n,k,a,b⟩
                obtain ⟨q,kq,hmx,h⟩ : ∃ q k,vm = some (.int k q)∧(0≤l∧l≤r∧r = q∧r≤es.length)∧K (.w (.one (.p (.sl sz (ext es l.toNat (r.toNat - l.toNat)) true)))):=by
                  rcases bound_rep h hm with ⟨a,b,_⟩ | ⟨k,n,a,_,b⟩
                  · cases b
                  · exact ⟨n,k,a,b⟩
                obtain ⟨⟨h0,h1,rfl,h2⟩,hK⟩:=h
                subst hhi
                subst hmx
                have hb:=fun w'=>run_sliceBounds (P:=P) (isSlice:=true) (len:=es.length) (cap:=cap) (hi:=some (.int kr r)) (mx:=some (.int kq r)) w' hlo (.inr ⟨kr,rfl⟩) (.inr ⟨rfl,kq,rfl⟩) h0 h1 (Int.le_refl _) (by omega)
                refine SOk.r hK (fun w'=>key _ _ _ _ _ _ w' (hb w')) ?_
                have:=sl_ext (full':=true) hx' (l:=l.toNat) (k:=r.toNat - l.toNat) (m:=r.toNat) (by omega) (by omega) (by omega) (fun _=>by omega)
                rw [hse] at this ⊢
                exact this
          · exact h.elim
        · rename_i b i n
          split at h
          · rename_i sz es wr hb
            split at h
            · rename_i hse
              obtain ⟨hbl,base,cap,rfl,hn,hpl⟩:=hx
              split at h
              · cases vm with
                | some _=>exact hm.elim
                | none =>
                  obtain ⟨l,hlo,h⟩ : ∃ l,((vl = none∧l = 0)∨∃ k,vl = some (.int k l))∧bound n hi fun h=>(0≤l∧l≤h∧h≤n)∧K (.w (.one (.ref b (i + l.toNat) (h.toNat - l.toNat)))):=by
                    rcases bound_rep h hl with ⟨a,_,b⟩ | ⟨k,n,a,_,b⟩
                    · exact ⟨0,.inl ⟨a,rfl⟩,b⟩
                    · exact ⟨n,.inr ⟨k,a⟩,b⟩
                  obtain ⟨r,hhi,h⟩ : ∃ r,((vh = none∧r = (n : Int))∨∃ k,vh = some (.int k r))∧(0≤l∧l≤r∧r≤n)∧K (.w (.one (.ref b (i + l.toNat) (r.toNat - l.toNat)))):=by
                    rcases bound_rep h hh with ⟨a,_,b⟩ | ⟨k,n,a,_,b⟩
                    · exact ⟨_,.inl ⟨a,rfl⟩,b⟩
                    · exact ⟨n,.inr ⟨k,a⟩,b⟩
                  obtain ⟨⟨h0,h1,h2⟩,hK⟩:=h
                  have hb':=fun w'=>run_sliceBounds (P:=P) (isSlice:=true) (len:=n) (cap:=cap) (mx:=none) (m:=cap) w' hlo hhi (.inl ⟨rfl,rfl⟩) h0 h1 (by omega) (Int.le_refl _)
                  refine SOk.r hK (fun w'=>key _ _ _ _ _ _ w' (hb' w')) ?_
                  refine ⟨hbl,_,_,rfl,by omega,fun sz' es' wr' he'=>?_⟩
                  rw [hb] at he'
                  obtain ⟨rfl,rfl,rfl⟩ : sz = sz'∧es = es'∧wr = wr':=by simpa using he'
                  refine ⟨by have:=(hpl sz es wr hb).1; omega,?_⟩
                  by_cases hcl : ((cap : Nat) : Int).toNat = l.toNat
                  · left; omega
                  · right
                    rcases (hpl sz es wr hb).2 with rfl | ⟨pl,q1,q2,q3⟩
                    · exfalso; omega
                    · refine ⟨pl,q1,?_,?_⟩
                      · rw [if_neg hcl,q2,Option.map_some,add_none,hse,Nat.add_mul,Nat.add_assoc]
                      · refine Nat.le_trans ?_ q3
                        refine Nat.add_le_add_left (Nat.mul_le_mul_right _ ?_) _
                        omega
              · rename_i m
                split at h
                · exact h.elim
                · rename_i hiv
                  obtain ⟨l,hlo,h⟩ : ∃ l,((vl = none∧l = 0)∨∃ k,vl = some (.int k l))∧bound n (some hiv) fun h=>bound 0 (some m) fun m=>(0≤l∧l = h∧h = m∧h≤n)∧K (.w (.one (.p (.sl sz [] true)))):=by
                    rcases bound_rep h hl with ⟨a,_,b⟩ | ⟨k,n,a,_,b⟩
                    · exact ⟨0,.inl ⟨a,rfl⟩,b⟩
                    · exact ⟨n,.inr ⟨k,a⟩,b⟩
                  obtain ⟨r,kr,hhi,h⟩ : ∃ r k,vh = some (.int k r)∧bound 0 (some m) fun m=>(0≤l∧l = r∧r = m∧r≤n)∧K (.w (.one (.p (.sl sz [] true)))):=by
                    rcases bound_rep h hh with ⟨a,b,_⟩ | ⟨k,n,a,_,b⟩
                    · cases b
                    · exact ⟨n,k,a,b⟩
                  obtain ⟨q,kq,hmx,h⟩ : ∃ q k,vm = some (.int k q)∧(0≤l∧l = r∧r = q∧r≤n)∧K (.w (.one (.p (.sl sz [] true)))):=by
                    rcases bound_rep h hm with ⟨a,b,_⟩ | ⟨k,n,a,_,b⟩
                    · cases b
                    · exact ⟨n,k,a,b⟩
                  obtain ⟨⟨h0,rfl,rfl,h2⟩,hK⟩:=h
                  subst hhi
                  subst hmx
                  have hb':=fun w'=>run_sliceBounds (P:=P) (isSlice:=true) (len:=n) (cap:=cap) (hi:=some (.int kr l)) (mx:=some (.int kq l)) w' hlo (.inr ⟨kr,rfl⟩) (.inr ⟨rfl,kq,rfl⟩) h0 (Int.le_refl _) (Int.le_refl _) (by omega)
                  refine SOk.r hK (fun w'=>key _ _ _ _ _ _ w' (hb' w')) ?_
                  simp only [if_true,Nat.sub_self]
                  cases base with
                  | none=>exact RepC.nil _ _
                  | some a=>exact RepC.sl (F:=F) (w:=w) sz [] true a 0 (fun _ _=>undef) (.inl rfl) (Nat.le_refl _) (fun _=>rfl) (fun e he=>by cases he) (fun i e j x he=>by simp at he) (fun i e j x he=>by simp at he)
            · exact h.elim
          · exact h.elim
        · exact h.elim
      · exact h.elim
    · exact h.elim
  · exact h.elim
end
end Go.Eng
namespace Go.Eng
open Go.RowKit
section
variable {P : Program} {C : Ctx} {F : Nat→Prop} {μ : List (Option Place)} {H : List Entry} {w : World}
theorem placesT_rep (hC : CtxOk P C F w) : ∀ {l : List Field} {ps : List (Nat×Nat)},placesT C (l.map fun f=>(f.offset,f.type)) = some ps→l.mapM (fun f=>(P.info? f.type).map fun i=>(f.offset,i.size)) = some ps
  | [],ps,h=>by simpa [placesT] using h
  | f :: l,ps,h=>by
    simp only [List.map_cons,placesT] at h
    cases hf : C.ty f.type with
    | none=>simp [hf] at h
    | some fi =>
      cases hr : placesT C (l.map fun f=>(f.offset,f.type)) with
      | none=>simp [hf,hr] at h
      | some qs =>
        simp only [hf,hr,Option.some.injEq] at h
        subst h
        obtain ⟨i,z,h1,h2,_⟩:=(hC.ty _ _ hf).info
        simp [List.mapM_cons,h1,h2,placesT_rep hC hr]
theorem foldl_splice : ∀ (l : List Value) (k : Nat) (off : Nat) (cs : Array Value),off + k + l.length≤cs.size →
    ((l.zipIdx k).foldl (fun cs (x : Value×Nat)=>cs.setIfInBounds (off + x.2) x.1) cs).toList = splice cs.toList (off + k) l
  | [],k,off,cs,h=>by simp [splice]
  | v :: l,k,off,cs,h=>by
    simp only [List.zipIdx_cons,List.foldl_cons]
    rw [foldl_splice l (k + 1) off (cs.setIfInBounds (off + k) v) (by simp at h ⊢; omega)]
    have hlt : off + k < cs.toList.length:=by simp at h ⊢; omega
    unfold splice
    have e1 : (cs.setIfInBounds (off + k) v).toList = cs.toList.set (off + k) v:=by simp
    rw [e1]
    have e2 : (cs.toList.set (off + k) v).take (off + (k + 1)) = cs.toList.take (off + k) ++ [v]:=by
      rw [show off + (k + 1) = (off + k) + 1 by omega,List.take_set,List.take_succ_eq_append_getElem hlt]
      rw [List.set_append_right _ _ (by simp; omega)]
      simp [show min (off + k) cs.size = off + k by simp at hlt; omega]
    have e3 : (cs.toList.set (off + k) v).drop (off + (k + 1) + l.length) = cs.toList.drop (off + k + (v :: l).length):=by
      rw [List.drop_set]
      rw [if_pos (by omega)]
      congr 1
      simp
      omega
    rw [e2,e3]
    simp
theorem splice_len {α : Type} (l : List α) (o : Nat) (xs : List α) (h : o + xs.length≤l.length) : (splice l o xs).length = l.length:=by
  unfold splice
  simp only [List.length_append,List.length_take,List.length_drop]
  omega
theorem RepTs.splice {xs ys : List TC} {vs us : List Value} (h : RepTs F μ H w xs vs) (h' : RepTs F μ H w ys us) (o : Nat) : RepTs F μ H w (splice xs o ys) (splice vs o us):=by
  unfold Eng.splice
  rw [h'.length]
  exact (h.take o).append (h'.append (h.drop _))
theorem RepCs.splice {xs ys : List PC} {vs us : List Value} (h : RepCs F w xs vs) (h' : RepCs F w ys us) (o : Nat) : RepCs F w (splice xs o ys) (splice vs o us):=by
  unfold Eng.splice
  rw [h'.length]
  exact (h.take o).append (h'.append (h.drop _))
def RepPs (F : Nat→Prop) (μ : List (Option Place)) (H : List Entry) (w : World) : List (Nat×TV)→List (Nat×Value)→Prop
  | [],[]=>True
  | (i,x) :: xs,(j,v) :: vs=>i = j∧RepV F μ H w x v∧RepPs F μ H w xs vs
  | _,_=>False
theorem fillT_rep {place : Nat→Option (Nat×Nat)} : ∀ {parts : List (Nat×TV)} {vparts : List (Nat×Value)} {cs cs' : List TC} {vs : Array Value},fillT place cs parts = some cs'→RepPs F μ H w parts vparts→RepTs F μ H w cs vs.toList →
    ∃ vs',Instr.fill place vs vparts = some vs'∧RepTs F μ H w cs' vs'.toList
  | [],[],cs,cs',vs,h,_,r=>by
    simp only [fillT,Option.some.injEq] at h
    subst h
    exact ⟨vs,rfl,r⟩
  | (i,.w x) :: parts,(j,v) :: vparts,cs,cs',vs,h,hp,r=>by
    obtain ⟨rfl,hv,hp⟩:=hp
    simp only [fillT] at h
    cases hpl : place i with
    | none=>simp [hpl] at h
    | some os =>
      obtain ⟨off,size⟩:=os
      simp only [hpl] at h
      split at h
      · rename_i hc
        obtain ⟨hok,hl,hb⟩:=hc
        have hcells:=RepW.cells hv hok
        have hlen:=hcells.length
        have hcl:=r.length
        simp only [Array.length_toList] at hlen hcl
        have hfold : (v.cells.zipIdx.foldl (fun cs (x : Value×Nat)=>cs.setIfInBounds (off + x.2) x.1) vs).toList = splice vs.toList off v.cells.toList:=by
          rw [← Array.foldl_toList,Array.toList_zipIdx]
          exact foldl_splice v.cells.toList 0 off vs (by simp; omega)
        obtain ⟨vs',h1,h2⟩:=fillT_rep (vs:=v.cells.zipIdx.foldl (fun cs (x : Value×Nat)=>cs.setIfInBounds (off + x.2) x.1) vs) h hp (by rw [hfold]; exact r.splice hcells off)
        refine ⟨vs',?_,h2⟩
        unfold Instr.fill
        simp only [hpl]
        rw [if_neg]
        · exact h1
        · simp only [Bool.or_eq_true,decide_eq_true_eq]
          omega
      · cases h
  | (_,.tup _) :: _,_ :: _,_,_,_,h,_,_=>by simp [fillT] at h
  | [],_ :: _,_,_,_,_,hp,_=>hp.elim
  | _ :: _,[],_,_,_,_,hp,_=>hp.elim
theorem build_ok (hC : CtxOk P C F w) {rd : Option Nat} {t : TypeId} {parts : List (Nat×TV)} {vparts : Array (Nat×Value)} {K : TV→Prop} (h : buildT C t parts K) (hp : RepPs F μ H w parts vparts.toList) : SOk P F μ H w rd (Instr.build t vparts) K:=by
  unfold buildT at h
  split at h
  · rename_i ti ht
    obtain ⟨d,hd,hk⟩:=(hC.ty _ _ ht).kind
    obtain ⟨f,z,h1,h2,h3,h4,h5,h6⟩:=(hC.ty _ _ ht).info
    have hz:=h6 F w
    split at h
    · rename_i fs he
      obtain ⟨fields,rfl,hfs⟩:=kind_inv.2.2.2.2.2.1 _ (hk.trans he)
      split at h
      · rename_i ps hps
        split at h
        · rename_i cs hcs
          obtain ⟨vs',g1,g2⟩:=fillT_rep (vs:=z.cells) hcs hp (RepTs.of_pure hz)
          refine SOk.r h (fun w'=>run_build w' t vparts vs' ?_) (RepW.mkAgg g2)
          unfold Program.built
          rw [h1,hd]
          simp only [h4]
          rw [placesT_rep hC (by rw [← hfs]; exact hps)]
          simpa using g1
        · exact h.elim
      · exact h.elim
    · rename_i n e he
      have hdd:=kind_inv.2.2.2.2.1 n e (hk.trans he)
      subst hdd
      split at h
      · rename_i ei hei
        split at h
        · rename_i cs hcs
          obtain ⟨vs',g1,g2⟩:=fillT_rep (vs:=z.cells) hcs hp (RepTs.of_pure hz)
          obtain ⟨f',z',k1,k2,_⟩:=(hC.ty _ _ hei).info
          refine SOk.r h (fun w'=>run_build w' t vparts vs' ?_) (RepW.mkAgg g2)
          unfold Program.built
          rw [h1,hd]
          simp only [h4,k1,k2]
          exact g1
        · exact h.elim
      · exact h.elim
    · exact h.elim
  · exact h.elim
theorem len_ok {A : Base} (hC : CtxOk P C F w) (hH : HeapOk A F μ H w) {rd : Option Nat} {t ty : TypeId} {x : TV} {u : Value} {ts : Array TypeId} {vs : Array Value} {K : TV→Prop} (h : lenT C t x H K) (hx : RepV F μ H w x u) (ht : ts[0]? = some t) (hv : vs[0]? = some u) (hrd : rd = lenRd x) : SOk P F μ H w rd (Builtin.len_ ts ty vs) K:=by
  unfold lenT at h
  have key : ∀ d,P.underlying t = some d→∀ n : Nat,(∀ w',((match d,u with
      | .string,.string s=>pure (goInt s.size)
      | .array n _,_=>pure (goInt n)
      | .slice _,.slice _ n _=>pure (goInt n)
      | _, _ => stuck "" : Sem Value)).run P w' = .ok (goInt n) w') → ∀ w', (Builtin.len_ ts ty vs).run P w' = .ok (.int .i64 n) w' := by
    intro d hd n hr w'
    have h1:=hr w'
    unfold Builtin.len_
    rw [ht,hv]
    simp only [Sem.run_bind,run_underlying hd,Result.andThen_ok]
    cases d <;> first
      | (simp at h1; done)
      | exact h1
      | (cases u <;> first | exact h1 | (simp at h1; done))
  split at h
  · rename_i ti hti
    obtain ⟨d,hd,hk⟩:=(hC.ty _ _ hti).kind
    split at h
    · rename_i he
      have hdd:=kind_inv.2.2.1 (hk.trans he)
      subst hdd
      split at h
      · obtain ⟨rfl,_⟩:=rep_c hx
        exact SOk.c h rfl (key _ hd _ fun _=>rfl)
      · exact h.elim
    · rename_i e he
      have hdd:=kind_inv.2.2.2.1 e (hk.trans he)
      subst hdd
      split at h
      · rename_i sz es full
        have hx' : RepC F w (.sl sz es full) u:=hx
        rcases sl_inv hx' with ⟨rfl,rfl⟩ | ⟨a,cap,rfl,_,hc,_⟩
        · exact SOk.c h rfl (key _ hd _ fun _=>rfl)
        · exact SOk.c h rfl (key _ hd _ fun _=>rfl)
      · obtain ⟨_,base,cap,rfl,_,_⟩:=hx
        exact SOk.c h rfl (key _ hd _ fun _=>rfl)
      · exact h.elim
    · rename_i n e he
      have hdd:=kind_inv.2.2.2.2.1 n e (hk.trans he)
      subst hdd
      exact SOk.c h rfl (key _ hd _ fun _=>by cases u <;> rfl)
    · rename_i k e he
      have hdd:=kind_map (hk.trans he)
      subst hdd
      split at h
      · rename_i b
        split at h
        · rename_i ck ag m hb
          obtain ⟨_,B,rfl,hpl⟩:=hx
          obtain ⟨pl,q1,rfl⟩:=hpl _ hb rfl
          obtain ⟨pl',arr,e1,e2,e3,e4⟩:=hH.ent b _ hb
          rw [List.getD_eq_getElem?_getD,q1] at e1
          obtain rfl : pl = pl':=by simpa using e1
          refine ⟨.int .i64 m.len,I m.len,fun w' hs=>?_,(show RepC F w (.c (.int .i64 m.len)) (.int .i64 m.len) from .c _ rfl),h⟩
          · have hw : w'.heap[pl.blk]? = some (.map arr m.cl):=(hs.2 b pl hrd q1).trans e2
            have hlen : arr.size = m.len:=by
              have:=e4.length
              unfold MP.len
              rw [this]
              simp
            unfold Builtin.len_
            rw [ht,hv]
            simp only [Sem.run_bind,run_underlying hd,Result.andThen_ok]
            simp only [getObj,Sem.run_bind,Sem.run,hw,Result.andThen_ok]
            rw [hlen]
            rfl
        · exact h.elim
      · obtain ⟨rfl,_⟩:=rep_c hx
        refine ⟨.int .i64 0,I 0,fun w' hs=>?_,(show RepC F w (.c (.int .i64 0)) (.int .i64 0) from .c _ rfl),h⟩
        unfold Builtin.len_
        rw [ht,hv]
        simp only [Sem.run_bind,run_underlying hd,Result.andThen_ok]
        rfl
      · exact h.elim
    · exact h.elim
  · exact h.elim
theorem cap_ok (hC : CtxOk P C F w) {rd : Option Nat} {t ty : TypeId} {x : TV} {u : Value} {ts : Array TypeId} {vs : Array Value} {K : TV→Prop} (h : capT C t x K) (hx : RepV F μ H w x u) (ht : ts[0]? = some t) (hv : vs[0]? = some u) : SOk P F μ H w rd (Builtin.cap_ ts ty vs) K:=by
  unfold capT at h
  split at h
  · rename_i ti hti
    obtain ⟨d,hd,hk⟩:=(hC.ty _ _ hti).kind
    split at h
    · rename_i e he
      have hdd:=kind_inv.2.2.2.1 e (hk.trans he)
      subst hdd
      split at h
      · rename_i sz es full
        cases full with
        | false=>exact h.elim
        | true =>
          have hx' : RepC F w (.sl sz es true) u:=hx
          have key : ∀ a n,u = .slice a n es.length→SOk P F μ H w rd (Builtin.cap_ ts ty vs) K:=fun a n hu=>by
            subst hu
            refine SOk.c h rfl fun w'=>?_
            unfold Builtin.cap_
            rw [ht,hv]
            simp only [Sem.run_bind,run_underlying hd,Result.andThen_ok]
            rfl
          rcases sl_inv hx' with ⟨rfl,rfl⟩ | ⟨a,cap,rfl,_,hc,hf,_⟩
          · exact key _ _ rfl
          · exact key (some a) es.length (by rw [hf rfl])
      · exact h.elim
    · exact h.elim
  · exact h.elim
theorem RepVs.get : ∀ {xs : List TV} {vs : List Value},RepVs F μ H w xs vs→∀ {j : Nat} {x : TV},xs[j]? = some x→∃ v,vs[j]? = some v∧RepV F μ H w x v
  | [],[],_,j,x,hx=>by simp at hx
  | x0 :: xs,v0 :: vs,h,0,x,hx=>by
    simp only [List.getElem?_cons_zero,Option.some.injEq] at hx
    subst hx
    exact ⟨v0,rfl,h.1⟩
  | x0 :: xs,v0 :: vs,h,j + 1,x,hx=>by
    simp only [List.getElem?_cons_succ] at hx ⊢
    exact RepVs.get h.2 hx
  | [],_ :: _,h,_,_,_=>h.elim
  | _ :: _,[],h,_,_,_=>h.elim
theorem RepVs.length : ∀ {xs : List TV} {vs : List Value},RepVs F μ H w xs vs→xs.length = vs.length
  | [],[],_=>rfl
  | _ :: _,_ :: _,h=>by simp [RepVs.length h.2]
  | [],_ :: _,h=>h.elim
  | _ :: _,[],h=>h.elim
theorem minmax_ok {rd : Option Nat} (mx : Bool) : ∀ (r : List TV) (x : TV) (u : Value) (vs : List Value) (K : TV→Prop),minmaxT mx x r K→RepV F μ H w x u→RepVs F μ H w r vs →
    SOk P F μ H w rd (vs.foldlM (fun a b=>match mx with | true=>Builtin.max2 a b | false=>Builtin.min2 a b) u) K
  | [],x,u,[],K,h,hx,_=>by
    have h : K x:=by unfold minmaxT at h; exact h
    exact SOk.r h (fun w'=>rfl) hx
  | y :: r,x,u,v :: vs,K,h,hx,hr=>by
    unfold minmaxT at h
    split at h
    · rename_i h1; cases h1
    · rename_i k a k' b r' hl
      obtain ⟨rfl,rfl⟩:=List.cons.inj hl
      obtain ⟨rfl,_⟩:=rep_c hx
      obtain ⟨rfl,_⟩:=rep_c hr.1
      cases mx with
      | true =>
        simp only [] at h
        obtain ⟨v,tv,g1,g2,g3⟩:=minmax_ok true r (.c (.int k (if b > a then b else a))) (.int k (if b > a then b else a)) vs _ h (RepC.c _ rfl) hr.2
        exact ⟨v,tv,fun w' hs=>by rw [List.foldlM_cons,Sem.run_bind]; exact g1 w' hs,g2,g3⟩
      | false =>
        simp only [] at h
        obtain ⟨v,tv,g1,g2,g3⟩:=minmax_ok false r (.c (.int k (if b < a then b else a))) (.int k (if b < a then b else a)) vs _ h (RepC.c _ rfl) hr.2
        exact ⟨v,tv,fun w' hs=>by rw [List.foldlM_cons,Sem.run_bind]; exact g1 w' hs,g2,g3⟩
    · exact h.elim
  | [],_,_,_ :: _,_,_,_,hr=>hr.elim
  | _ :: _,_,_,[],_,_,_,hr=>hr.elim
end
end Go.Eng
namespace Go.Eng
open Go.RowKit
structure RepA (F : Nat→Prop) (μ : List (Option Place)) (H : List Entry) (w : World) (tmps : List TV) (a : Act) : Prop where
  defers : a.defers = []
  size : a.tmps.size = tmps.length
  get : ∀ t tv,tmps[t]? = some tv→RepV F μ H w tv (a.tmps.getD t undef)
section
variable {P : Program} {C : Ctx} {F : Nat→Prop} {μ : List (Option Place)} {H : List Entry} {w : World}
theorem RepA.opd (hC : CtxOk P C F w) {tmps : List TV} {a : Act} (ha : RepA F μ H w tmps a) (t : Option TypeId) (x : Operand) : RepV F μ H w (opd C tmps t x) (a.eval x) :=
  opd_rep hC ha.size ha.get t x
theorem RepA.le {F' : Nat→Prop} {μ' : List (Option Place)} {H' : List Entry} {w' : World} (h : Le F μ H w F' μ' H' w') {tmps : List TV} {a : Act} (ha : RepA F μ H w tmps a) : RepA F' μ' H' w' tmps a :=
  ⟨ha.defers,ha.size,fun t tv ht=>(ha.get t tv ht).le h⟩
theorem RepA.put {tmps : List TV} {a : Act} (ha : RepA F μ H w tmps a) {tv : TV} {v : Value} (hv : RepV F μ H w tv v) (d : Option Tmp) : RepA F μ H w (St.put tmps d tv) (a.put d v):=by
  cases d with
  | none=>exact ha
  | some d =>
    refine ⟨ha.defers,by simp [St.put,Act.put,ha.size],fun t u hu=>?_⟩
    simp only [St.put] at hu
    rw [List.getElem?_set] at hu
    simp only [Act.put]
    by_cases hd : d = t
    · subst hd
      rw [if_pos rfl] at hu
      split at hu
      · rename_i hlt
        simp only [Option.some.injEq] at hu
        subst hu
        have : d < a.tmps.size:=by rw [ha.size]; exact hlt
        simpa [this] using hv
      · cases hu
    · rw [if_neg hd] at hu
      have:=ha.get t u hu
      simpa [Array.getElem?_setIfInBounds_ne hd] using this
def SimpleOk (P : Program) (F : Nat→Prop) (μ : List (Option Place)) (H : List Entry) (w : World) (rd : Option Nat) (s : Sem Next) (K : TV→Prop) : Prop :=
  ∃ v tv,(∀ w',Same F μ rd w w'→s.run P w' = .ok (.value v) w')∧RepV F μ H w tv v∧K tv
theorem SOk.next {rd : Option Nat} {s : Sem Value} {K : TV→Prop} (h : SOk P F μ H w rd s K) : SimpleOk P F μ H w rd (do Pure.pure (Next.value (← s)) : Sem Next) K:=by
  obtain ⟨v,tv,h1,h2,h3⟩:=h
  exact ⟨v,tv,fun w' hs=>by rw [Sem.run_bind,h1 w' hs]; rfl,h2,h3⟩
theorem SimpleOk.mk' {rd : Option Nat} {s : Sem Next} {v : Value} {tv : TV} {K : TV→Prop} (hK : K tv) (hs : s = (pure (Next.value v) : Sem Next)) (hv : RepV F μ H w tv v) : SimpleOk P F μ H w rd s K :=
  ⟨v,tv,fun w' _=>by rw [hs]; rfl,hv,hK⟩
theorem RepTs.ones : ∀ {xs : List TC} {vs : List Value},RepTs F μ H w xs vs→RepVs F μ H w (xs.map fun x=>.w (.one x)) vs
  | [],[],_=>trivial
  | _ :: _,_ :: _,h=>⟨h.1.2,RepTs.ones h.2⟩
  | [],_ :: _,h=>h.elim
  | _ :: _,[],h=>h.elim
theorem RepVs.append : ∀ {xs ys : List TV} {vs us : List Value},RepVs F μ H w xs vs→RepVs F μ H w ys us→RepVs F μ H w (xs ++ ys) (vs ++ us)
  | [],_,[],_,_,h=>h
  | _ :: _,_,_ :: _,_,h,h'=>⟨h.1,RepVs.append h.2 h'⟩
  | [],_,_ :: _,_,h,_=>h.elim
  | _ :: _,_,[],_,h,_=>h.elim
theorem RepVs.of_get : ∀ {xs : List TV} {vs : List Value},xs.length = vs.length→(∀ (j : Nat) (x : TV),xs[j]? = some x→∃ v,vs[j]? = some v∧RepV F μ H w x v)→RepVs F μ H w xs vs
  | [],[],_,_=>trivial
  | x :: xs,v :: vs,hl,h=>by
    refine ⟨?_,RepVs.of_get (by simpa using hl) fun j y hy=>?_⟩
    · obtain ⟨u,h1,h2⟩:=h 0 x rfl
      simp only [List.getElem?_cons_zero,Option.some.injEq] at h1
      exact h1▸h2
    · obtain ⟨u,h1,h2⟩:=h (j + 1) y (by simpa using hy)
      exact ⟨u,by simpa using h1,h2⟩
  | [],_ :: _,hl,_=>by simp at hl
  | _ :: _,[],hl,_=>by simp at hl
theorem argsT_rep (hC : CtxOk P C F w) {tmps : List TV} {a : Act} (ha : RepA F μ H w tmps a) (c : Call) : RepVs F μ H w (argsT c (Eng.opd C tmps)) (c.args.map a.eval).toList:=by
  refine RepVs.of_get (by simp [argsT]) fun j x hx=>?_
  unfold argsT at hx
  rw [List.getElem?_map] at hx
  have hj : j < c.args.size:=by
    cases hr : (List.range c.args.size)[j]? with
    | none=>simp [hr] at hx
    | some q =>
      have:=(List.getElem?_eq_some_iff.1 hr).1
      simpa using this
  rw [List.getElem?_range hj] at hx
  simp only [Option.map_some,Array.getElem?_eq_getElem hj,Option.some.injEq] at hx
  subst hx
  exact ⟨a.eval c.args[j],by simp [hj],ha.opd hC _ _⟩
theorem asOnes_rep : ∀ {xs : List TV} {ys : List TC} {vs : List Value},asOnes xs = some ys→RepVs F μ H w xs vs→RepTs F μ H w ys vs
  | [],ys,vs,h,r=>by
    simp only [asOnes,Option.some.injEq] at h
    subst h
    cases vs with
    | nil=>trivial
    | cons _ _=>exact r.elim
  | x :: xs,ys,[],h,r=>r.elim
  | x :: xs,ys,v :: vs,h,r=>by
    unfold asOnes at h
    split at h
    · rename_i y zs hy hz
      simp only [Option.some.injEq] at h
      subst h
      unfold asOne at hy
      split at hy
      · cases hy
      · rename_i x' hj
        simp only [Option.some.injEq] at hy
        subst hy
        exact ⟨⟨RepT.one r.1 (fun e=>hj (by rw [e])),r.1⟩,asOnes_rep hz r.2⟩
      · cases hy
    · cases h
theorem RepVs.opds (hC : CtxOk P C F w) {tmps : List TV} {a : Act} (ha : RepA F μ H w tmps a) (t : Option TypeId) : ∀ (l : List Operand),RepVs F μ H w (l.map (Eng.opd C tmps t)) (l.map a.eval)
  | []=>trivial
  | x :: l=>⟨ha.opd hC t x,RepVs.opds hC ha t l⟩
theorem RepPs.opds (hC : CtxOk P C F w) {tmps : List TV} {a : Act} (ha : RepA F μ H w tmps a) (f : Nat→Option TypeId) : ∀ (l : List (Nat×Operand)),RepPs F μ H w (l.map fun p=>(p.1,Eng.opd C tmps (f p.1) p.2)) (l.map fun p=>(p.1,a.eval p.2))
  | []=>trivial
  | x :: l=>⟨rfl,ha.opd hC _ _,RepPs.opds hC ha f l⟩
theorem RepPs.le {F' : Nat→Prop} {μ' : List (Option Place)} {H' : List Entry} {w' : World} (h : Le F μ H w F' μ' H' w') : ∀ {xs : List (Nat×TV)} {vs : List (Nat×Value)},RepPs F μ H w xs vs→RepPs F' μ' H' w' xs vs
  | [],[],_=>trivial
  | _ :: _,_ :: _,r=>⟨r.1,r.2.1.le h,RepPs.le h r.2.2⟩
  | [],_ :: _,r=>r.elim
  | _ :: _,[],r=>r.elim
theorem RepWs.get : ∀ {xs : List TW} {vs : List Value},RepWs F μ H w xs vs→∀ {j : Nat} {x : TW},xs[j]? = some x→∃ v,vs[j]? = some v∧RepW F μ H w x v
  | [],[],_,j,x,hx=>by simp at hx
  | x0 :: xs,v0 :: vs,h,0,x,hx=>by
    simp only [List.getElem?_cons_zero,Option.some.injEq] at hx
    subst hx
    exact ⟨v0,rfl,h.1⟩
  | x0 :: xs,v0 :: vs,h,j + 1,x,hx=>by
    simp only [List.getElem?_cons_succ] at hx ⊢
    exact RepWs.get h.2 hx
  | [],_ :: _,h,_,_,_=>h.elim
  | _ :: _,[],h,_,_,_=>h.elim
theorem argT_rep (hC : CtxOk P C F w) {tmps : List TV} {a : Act} (ha : RepA F μ H w tmps a) {c : Call} {i : Nat} {K : TypeId→TV→Prop} (h : argT c (Eng.opd C tmps) i K) :
    ∃ t x v,c.argTypes[i]? = some t∧(c.args.map a.eval)[i]? = some v∧RepV F μ H w x v∧K t x:=by
  unfold argT at h
  split at h
  · rename_i t ht
    split at h
    · rename_i x hx
      exact ⟨t,_,a.eval x,ht,by simp [hx],ha.opd hC _ _,h⟩
    · exact h.elim
  · exact h.elim
theorem lenRd_const (ti : Option TI) (v : Value) : lenRd (ofConst ti v) = none:=by
  unfold ofConst
  cases v.oneCell' with
  | true =>
    simp only [cond_true]
    split
    · split <;> rfl
    · rfl
  | false =>
    simp only [cond_false]
    split
    · cases (Array.all _ _) <;> rfl
    · rfl
theorem lenRd_opd (C : Ctx) (tmps : List TV) (t : Option TypeId) (x : Operand) : lenRd (Eng.opd C tmps t x) = lenRd (Eng.opd C tmps none x):=by
  cases x with
  | const v=>exact (show lenRd (ofConst (t.bind C.ty) v) = lenRd (ofConst ((none : Option TypeId).bind C.ty) v) from (lenRd_const _ v).trans (lenRd_const _ v).symm)
  | _=>rfl
theorem argT_rd (hC : CtxOk P C F w) {tmps : List TV} {a : Act} (ha : RepA F μ H w tmps a) {c : Call} {K : TypeId→TV→Prop} (h : argT c (Eng.opd C tmps) 0 K) :
    ∃ t x v,c.argTypes[0]? = some t∧(c.args.map a.eval)[0]? = some v∧RepV F μ H w x v∧(match c.args[0]? with | some x=>lenRd (Eng.opd C tmps none x) | none=>none) = lenRd x∧K t x:=by
  unfold argT at h
  split at h
  · rename_i t ht
    split at h
    · rename_i x hx
      exact ⟨t,_,a.eval x,ht,by simp [hx],ha.opd hC _ _,by first | exact (lenRd_opd C tmps _ x).symm | (rw [hx]; exact (lenRd_opd C tmps _ x).symm),h⟩
    · exact h.elim
  · exact h.elim
theorem isFn_eq {v : Value} {g : FuncId} (h : isFn v = some g) : v = .func (.func g) #[] #[]:=by
  unfold isFn at h
  split at h
  · rename_i g' vs us
    cases hc : (vs.isEmpty && us.isEmpty) with
    | true =>
      rw [hc] at h
      simp only [cond_true,Option.some.injEq] at h
      simp only [Bool.and_eq_true,Array.isEmpty_iff] at hc
      rw [h,hc.1,hc.2]
    | false=>rw [hc] at h; cases h
  · cases h
theorem simple_ok {A : Base} (hC : CtxOk P C F w) (hH : HeapOk A F μ H w) {tmps : List TV} {a : Act} (ha : RepA F μ H w tmps a) {o : Oper} (hs : simpleB o.op = true) {K : TV→List Entry→Prop} (h : opT C o tmps H K) :
    SimpleOk P F μ H w (readsT C o tmps) (execOp a.eval o) (fun tv=>K tv H):=by
  have hρ:=ha.opd hC
  unfold opT at h
  unfold execOp readsT
  cases hop : o.op with
  | move x =>
    rw [hop] at h
    exact SimpleOk.mk' h rfl (hρ _ _)
  | pick c x y =>
    rw [hop] at h
    have hc:=hρ none c
    simp only [] at h
    split at h
    · rename_i v hv
      rw [hv] at hc
      obtain ⟨hc,_⟩:=rep_c hc
      cases v with
      | true=>exact SimpleOk.mk' (v:=a.eval x) h (by simp [hc,asBool]) (hρ _ _)
      | false=>exact SimpleOk.mk' (v:=a.eval y) h (by simp [hc,asBool]) (hρ _ _)
    · exact h.elim
  | load t x =>
    rw [hop] at h
    have hx:=hρ none x
    simp only [] at h ⊢
    split at h
    · rename_i ti tc ht hv
      rw [hv] at hx ⊢
      have:=load_ok hC hH (hC.ty _ _ ht) h hx
      cases tc <;> exact this.next
    · exact h.elim
  | nilCheck x =>
    rw [hop] at h
    have hx:=hρ none x
    simp only [] at h ⊢
    split at h
    · rename_i b i off hv
      rw [hv] at hx
      obtain ⟨h1,B,O,h2,h3⟩:=hx
      exact SimpleOk.mk' h (by rw [h2]) ⟨h1,B,O,rfl,h3⟩
    · rename_i cs off hv
      rw [hv] at hx
      obtain ⟨A',h2,h3⟩:=hx
      exact SimpleOk.mk' h (by rw [h2]) ⟨A',rfl,h3⟩
    · rename_i g fs cs hv
      rw [hv] at hx
      obtain ⟨vs,us,h2,h3⟩:=hx
      exact SimpleOk.mk' h (by rw [h2]) ⟨vs,us,rfl,h3⟩
    · rename_i v hv
      rw [hv] at hx
      obtain ⟨h2,_⟩:=rep_c hx
      split at h
      · rename_i g hg
        have hv':=isFn_eq hg
        subst hv'
        exact SimpleOk.mk' h (by rw [h2]) (RepC.c _ rfl)
      · exact h.elim
    · exact h.elim
  | binOp op t x y t' =>
    rw [hop] at h
    simp only [] at h
    cases hn : isNilK y with
    | true =>
      rw [hn] at h
      simp only [cond_true] at h
      have hy : y = .const (.slice none 0 0):=by
        unfold isNilK at hn
        split at hn
        · split at hn
          · rfl
          · cases hn
        · cases hn
      subst hy
      exact (nil_ok hC h (hρ _ _)).next
    | false =>
      rw [hn] at h
      simp only [cond_false] at h
      cases hp : isNilP y with
      | true =>
        rw [hp] at h
        simp only [cond_true] at h
        have hy : y = .const (.pointer none):=by
          unfold isNilP at hp
          split at hp
          · split at hp
            · rfl
            · cases hp
          · cases hp
        subst hy
        exact (nilp_ok hC h (hρ _ _)).next
      | false =>
        rw [hp] at h
        simp only [cond_false] at h
        exact (bin_ok hC h (hρ _ _) (hρ _ _)).next
  | unOp op t x =>
    rw [hop] at h
    exact (un_ok h (hρ _ _)).next
  | convert s d x =>
    rw [hop] at h
    exact (conv_ok hC h (hρ _ _)).next
  | makeFunc fn first cap =>
    rw [hop] at h
    cases fn with
    | func g =>
      simp only [] at h ⊢
      split at h
      · rename_i fs cs hfs hcs
        have h1:=asOnes_rep hfs (RepVs.opds hC ha none first.toList)
        have h2:=asOnes_rep hcs (RepVs.opds hC ha none cap.toList)
        refine SimpleOk.mk' (v:=.func (.func g) (first.map a.eval) (cap.map a.eval)) h rfl ⟨_,_,rfl,?_,?_⟩
        · simpa using h1
        · simpa using h2
      · exact h.elim
    | _=>exact h.elim
  | fieldAddr t x f =>
    rw [hop] at h
    exact (fieldAddr_ok hC h (hρ _ _)).next
  | field t x f =>
    rw [hop] at h
    exact (field_ok hC h (hρ _ _)).next
  | indexAddr t x i =>
    rw [hop] at h
    exact (indexAddr_ok hC h (hρ _ _) (hρ _ _)).next
  | index t x i =>
    rw [hop] at h
    exact (index_ok hC h (hρ _ _) (hρ _ _)).next
  | slice t x lo hi mx =>
    rw [hop] at h
    have ho : ∀ q : Option Operand,RepO F μ H w (q.map (opd C tmps none)) (q.map a.eval):=fun q=>by cases q with | none=>trivial | some q=>exact hρ none q
    exact (slice_ok hC h (hρ _ _) (ho _) (ho _) (ho _)).next
  | extract x i =>
    rw [hop] at h
    have hx:=hρ none x
    simp only [] at h ⊢
    split at h
    · rename_i xs hv
      rw [hv] at hx
      obtain ⟨vs,h2,h3⟩:=hx
      split at h
      · rename_i y hy
        obtain ⟨v,h4,h5⟩:=RepWs.get h3 hy
        have h6 : vs[i]? = some v:=by simpa using h4
        exact SimpleOk.mk' (tv:=.w y) h (by rw [h2]; simp [Instr.extract,h6]) h5
      · exact h.elim
    · exact h.elim
  | build t parts =>
    rw [hop] at h
    refine (build_ok hC h ?_).next
    have:=RepPs.opds hC ha (partTy C t) parts.toList
    simpa using this
  | call c =>
    rw [hop] at h hs
    obtain ⟨callee,args,argTypes⟩:=c
    have hop2 : ∀ b,callee = .builtin b→((do let d ← resolve a.eval ⟨callee,args,argTypes⟩ o.type; invoke d.target d.args : Sem Next)) = builtin b argTypes o.type (args.map fun | .const _=>true | _=>false) (args.map a.eval):=by
      intro b hb
      subst hb
      rfl
    cases callee with
    | builtin b =>
      show SimpleOk P F μ H w _ (do let d ← resolve a.eval ⟨.builtin b,args,argTypes⟩ o.type; invoke d.target d.args) _
      rw [hop2 b rfl]
      cases b with
      | len =>
        have h' : argT ⟨.builtin .len,args,argTypes⟩ (opd C tmps) 0 (fun t x=>lenT C t x H fun v=>K v H):=h
        obtain ⟨t,x,v,h1,h2,h3,hrd,h4⟩:=argT_rd hC ha h'
        exact (len_ok hC hH h4 h3 h1 h2 hrd).next
      | cap =>
        have h' : argT ⟨.builtin .cap,args,argTypes⟩ (opd C tmps) 0 (fun t x=>capT C t x fun v=>K v H):=h
        obtain ⟨t,x,v,h1,h2,h3,h4⟩:=argT_rep hC ha h'
        exact (cap_ok hC h4 h3 h1 h2).next
      | min =>
        have h' : (match argsT ⟨.builtin .min,args,argTypes⟩ (opd C tmps) with
          | x :: r=>minmaxT false x r fun v=>K v H
          | []=>False : Prop):=h
        have hr:=argsT_rep hC ha ⟨.builtin .min,args,argTypes⟩
        split at h'
        · rename_i x r hx
          rw [hx] at hr
          cases hl : (args.map a.eval).toList with
          | nil=>rw [hl] at hr; exact hr.elim
          | cons u vs =>
            rw [hl] at hr
            have:=minmax_ok (P:=P) (rd:=none) false r x u vs _ h' hr.1 hr.2
            have e : Builtin.min_ argTypes o.type (args.map a.eval) = vs.foldlM Builtin.min2 u:=by
              unfold Builtin.min_
              simp only [hl]
            show SimpleOk P F μ H w _ (do pure (.value (← Builtin.min_ argTypes o.type (args.map a.eval)))) _
            rw [e]
            exact this.next
        · exact h'.elim
      | max =>
        have h' : (match argsT ⟨.builtin .max,args,argTypes⟩ (opd C tmps) with
          | x :: r=>minmaxT true x r fun v=>K v H
          | []=>False : Prop):=h
        have hr:=argsT_rep hC ha ⟨.builtin .max,args,argTypes⟩
        split at h'
        · rename_i x r hx
          rw [hx] at hr
          cases hl : (args.map a.eval).toList with
          | nil=>rw [hl] at hr; exact hr.elim
          | cons u vs =>
            rw [hl] at hr
            have:=minmax_ok (P:=P) (rd:=none) true r x u vs _ h' hr.1 hr.2
            have e : Builtin.max_ argTypes o.type (args.map a.eval) = vs.foldlM Builtin.max2 u:=by
              unfold Builtin.max_
              simp only [hl]
            show SimpleOk P F μ H w _ (do pure (.value (← Builtin.max_ argTypes o.type (args.map a.eval)))) _
            rw [e]
            exact this.next
        · exact h'.elim
      | _=>cases hs
    | _=>cases hs
  | _=>rw [hop] at hs; cases hs
end
end Go.Eng
namespace Go.Eng
open Go.RowKit
section
variable {P : Program} {C : Ctx} {A : Base} {F F' : Nat→Prop} {μ μ' : List (Option Place)} {H H' : List Entry} {w w' : World}
theorem EntOk.step (h : Le F μ H w F' μ' H' w') {e : Entry} {mb : Option Place} (ho : ∀ pl,mb = some pl→e.owned = true→w'.heap[pl.blk]? = w.heap[pl.blk]?∧(F' pl.blk→F pl.blk)) (r : EntOk F μ H w e mb) : EntOk F' μ' H' w' e mb:=by
  cases e with
  | gone=>trivial
  | mp kt ag es =>
    obtain ⟨pl,arr,hm,hb,hF,hr⟩:=r
    obtain ⟨h1,h2⟩:=ho pl hm rfl
    exact ⟨pl,arr,hm,h1.trans hb,fun q=>hF (h2 q),hr.mono h.fr h.heap⟩
  | mit b et since seen last =>
    obtain ⟨pl,B,hm,h0,hb,hF,hs,hr⟩:=r
    obtain ⟨h1,h2⟩:=ho pl hm rfl
    exact ⟨pl,B,hm,h0,h1.trans hb,fun q=>hF (h2 q),hs,fun b0 hb0=>MapOk.le h (hr b0 hb0)⟩
  | box cs =>
    obtain ⟨pl,vs,ty,hm,hb,hl,hF,hr⟩:=r
    obtain ⟨h1,h2⟩:=ho pl hm rfl
    exact ⟨pl,vs,ty,hm,h1.trans hb,hl,fun q=>hF (h2 q),hr.le h⟩
  | pbox cs =>
    obtain ⟨pl,vs,ty,hm,hb,hl,hF,hr⟩:=r
    obtain ⟨h1,h2⟩:=ho pl hm rfl
    exact ⟨pl,vs,ty,hm,h1.trans hb,hl,fun q=>hF (h2 q),hr.mono h.fr h.heap⟩
  | vec sz es wr =>
    obtain ⟨hes,hor⟩:=r
    refine ⟨hes,hor.imp id fun ⟨pl,vs,ty,fz,hm,hb,hl,h1,h2,hr⟩=>⟨pl,vs,ty,fz,hm,?_,hl,fun hw=>?_,fun hw=>h.fr _ (h2 hw),hr.mono h.fr h.heap⟩⟩
    · cases wr with
      | true=>exact (ho pl hm rfl).1.trans hb
      | false=>exact (h.heap _ (h2 rfl)).trans hb
    · subst hw
      exact ⟨(h1 rfl).1,fun q=>(h1 rfl).2 ((ho pl hm rfl).2 q)⟩
theorem getD_some {α : Type} {l : List (Option α)} {b : Nat} {x : α} (h : l.getD b none = some x) : l[b]? = some (some x):=by
  rw [List.getD_eq_getElem?_getD] at h
  cases hm : l[b]? with
  | none=>simp [hm] at h
  | some q=>simp [hm] at h; rw [h]
theorem HeapOk.blk (hH : HeapOk A F μ H w) {b : Nat} {e : Entry} {pl : Place} (he : H[b]? = some e) (hl : e.live = true) (hm : μ[b]? = some (some pl)) : pl.blk < w.heap.size:=by
  have:=hH.ent b e he
  rw [List.getD_eq_getElem?_getD,hm] at this
  cases e with
  | gone=>cases hl
  | mp kt ag es =>
    obtain ⟨pl',arr,hm',hb,_⟩:=this
    obtain rfl : pl = pl':=by simpa using hm'
    exact (Array.getElem?_eq_some_iff.1 hb).1
  | mit b et since seen last =>
    obtain ⟨pl',B,hm',_,hb,_⟩:=this
    obtain rfl : pl = pl':=by simpa using hm'
    exact (Array.getElem?_eq_some_iff.1 hb).1
  | box cs =>
    obtain ⟨pl',vs,ty,hm',hb,_⟩:=this
    obtain rfl : pl = pl':=by simpa using hm'
    exact (Array.getElem?_eq_some_iff.1 hb).1
  | pbox cs =>
    obtain ⟨pl',vs,ty,hm',hb,_⟩:=this
    obtain rfl : pl = pl':=by simpa using hm'
    exact (Array.getElem?_eq_some_iff.1 hb).1
  | vec sz es wr =>
    obtain ⟨_,⟨hm',_⟩ | ⟨pl',vs,ty,fz,hm',hb,_⟩⟩:=this
    · simp at hm'
    · obtain rfl : pl = pl':=by simpa using hm'
      exact (Array.getElem?_eq_some_iff.1 hb).1
theorem HeapOk.notF (hH : HeapOk A F μ H w) {b : Nat} {e : Entry} {pl : Place} (he : H[b]? = some e) (ho : e.owned = true) (hm : μ[b]? = some (some pl)) : ¬ F pl.blk:=by
  have:=hH.ent b e he
  rw [List.getD_eq_getElem?_getD,hm] at this
  cases e with
  | gone=>cases ho
  | mp kt ag es =>
    obtain ⟨pl',arr,hm',hb,hF,_⟩:=this
    obtain rfl : pl = pl':=by simpa using hm'
    exact hF
  | mit b et since seen last =>
    obtain ⟨pl',B,hm',_,hb,hF,_⟩:=this
    obtain rfl : pl = pl':=by simpa using hm'
    exact hF
  | box cs =>
    obtain ⟨pl',vs,ty,hm',hb,_,hF,_⟩:=this
    obtain rfl : pl = pl':=by simpa using hm'
    exact hF
  | pbox cs =>
    obtain ⟨pl',vs,ty,hm',hb,_,hF,_⟩:=this
    obtain rfl : pl = pl':=by simpa using hm'
    exact hF
  | vec sz es wr =>
    obtain ⟨_,⟨hm',_⟩ | ⟨pl',vs,ty,fz,hm',hb,_,h1,_⟩⟩:=this
    · simp at hm'
    · obtain rfl : pl = pl':=by simpa using hm'
      exact (h1 ho).2
theorem HeapOk.push (hH : HeapOk A F μ H w) (cs : Array Value) (ty : TypeId) (e : Entry) (ho : e.owned = true)
    (he : ∀ μ' H',Le F μ H w F μ' H' (w.alloc (.cells cs ty))→EntOk F μ' H' (w.alloc (.cells cs ty)) e (some ⟨w.heap.size,0,cs.size⟩)) :
    HeapOk A F (μ ++ [some ⟨w.heap.size,0,cs.size⟩]) (H ++ [e]) (w.alloc (.cells cs ty))∧Le F μ H w F (μ ++ [some ⟨w.heap.size,0,cs.size⟩]) (H ++ [e]) (w.alloc (.cells cs ty)):=by
  have hold : ∀ n,n < w.heap.size→(w.alloc (.cells cs ty)).heap[n]? = w.heap[n]?:=fun n hn=>heap_alloc_old w _ hn
  have hle : Le F μ H w F (μ ++ [some ⟨w.heap.size,0,cs.size⟩]) (H ++ [e]) (w.alloc (.cells cs ty)):=by
    refine ⟨fun _ h=>h,fun n hn=>hold n (hH.frlt n hn),by simp,fun b e' hb he' hl=>?_⟩
    rw [List.getElem?_append_left hb] at he'
    exact ⟨e',he',hl,rfl,rfl,Nat.le_refl _,by rw [List.getElem?_append_left (by rw [hH.len]; exact hb)]⟩
  have hget : ∀ b e',(H ++ [e])[b]? = some e'→(b < H.length∧H[b]? = some e')∨(b = H.length∧e' = e):=fun b e' h=>by
    rcases Nat.lt_or_ge b H.length with hb | hb
    · rw [List.getElem?_append_left hb] at h; exact .inl ⟨hb,h⟩
    · rw [List.getElem?_append_right hb] at h
      have : b - H.length = 0:=by have:=(List.getElem?_eq_some_iff.1 h).1; simpa using this
      rw [this] at h
      exact .inr ⟨by omega,by simpa using h.symm⟩
  have hmu : ∀ b,b < H.length→(μ ++ [some ⟨w.heap.size,0,cs.size⟩])[b]? = μ[b]?:=fun b hb=>List.getElem?_append_left (by rw [hH.len]; exact hb)
  have hmul : (μ ++ [some (⟨w.heap.size,0,cs.size⟩ : Place)])[H.length]? = some (some ⟨w.heap.size,0,cs.size⟩):=by rw [← hH.len]; simp
  refine ⟨⟨by simp [hH.len],fun b e' hb=>?_,fun b c e1 f1 pl ql hne h1 h2 h3 h4 h5 h6=>?_,hH.os,hH.tape,hH.output,by have:=hH.size; simp; omega,fun n hn hno=>(hold n (Nat.lt_of_lt_of_le hn hH.size)).trans (hH.block n hn hno),fun b e1 pl h1 h2 h3=>?_,hH.fr0,hH.fr1,fun n hn=>by have:=hH.frlt n hn; simp; omega,fun b e1 hb h1 hl=>?_,by have:=hH.mle; simp; omega⟩,hle⟩
  · rcases hget b e' hb with ⟨hlt,h⟩ | ⟨rfl,rfl⟩
    · rw [List.getD_eq_getElem?_getD,hmu b hlt,← List.getD_eq_getElem?_getD]
      refine EntOk.step hle (fun pl hpl hw=>⟨hold _ ?_,id⟩) (hH.ent b e' h)
      exact hH.blk h (by cases e' <;> first | rfl | cases hw) (getD_some hpl)
    · rw [List.getD_eq_getElem?_getD,hmul]
      exact he _ _ hle
  · rcases hget b e1 h1 with ⟨hlt,h1'⟩ | ⟨rfl,rfl⟩ <;> rcases hget c f1 h4 with ⟨hlt',h4'⟩ | ⟨rfl,rfl⟩
    · rw [hmu b hlt] at h3
      rw [hmu c hlt'] at h6
      exact hH.dist b c e1 f1 pl ql hne h1' h2 h3 h4' h5 h6
    · rw [hmu b hlt] at h3
      rw [hmul] at h6
      have:=hH.blk h1' (by cases e1 <;> first | rfl | cases h2) h3
      obtain rfl : (⟨w.heap.size,0,cs.size⟩ : Place) = ql:=by simpa using h6
      exact Nat.ne_of_lt this
    · rw [hmu c hlt'] at h6
      rw [hmul] at h3
      have:=hH.blk h4' (by cases f1 <;> first | rfl | cases h5) h6
      obtain rfl : (⟨w.heap.size,0,cs.size⟩ : Place) = pl:=by simpa using h3
      exact Nat.ne_of_gt this
    · exact absurd rfl hne
  · rcases hget b e1 h1 with ⟨hlt,h1'⟩ | ⟨rfl,rfl⟩
    · rw [hmu b hlt] at h3
      exact hH.own b e1 pl h1' h2 h3
    · rw [hmul] at h3
      obtain rfl : (⟨w.heap.size,0,cs.size⟩ : Place) = pl:=by simpa using h3
      exact .inr hH.size
  · have hlt : b < H.length:=Nat.lt_of_lt_of_le hb hH.mle
    rcases hget b e1 h1 with ⟨_,h1'⟩ | ⟨rfl,rfl⟩
    · exact ⟨(hmu b hlt).trans (hH.held b e1 hb h1' hl).1,(hH.held b e1 hb h1' hl).2⟩
    · omega
theorem HeapOk.pushNone (hH : HeapOk A F μ H w) (sz : Nat) : HeapOk A F (μ ++ [none]) (H ++ [.vec sz [] true]) w∧Le F μ H w F (μ ++ [none]) (H ++ [.vec sz [] true]) w:=by
  have hle : Le F μ H w F (μ ++ [none]) (H ++ [.vec sz [] true]) w:=by
    refine ⟨fun _ h=>h,fun n hn=>rfl,by simp,fun b e' hb he' hl=>?_⟩
    rw [List.getElem?_append_left hb] at he'
    exact ⟨e',he',hl,rfl,rfl,Nat.le_refl _,by rw [List.getElem?_append_left (by rw [hH.len]; exact hb)]⟩
  have hget : ∀ (b : Nat) (e' : Entry),(H ++ [.vec sz [] true])[b]? = some e'→(b < H.length∧H[b]? = some e')∨(b = H.length∧e' = .vec sz [] true):=fun b e' h=>by
    rcases Nat.lt_or_ge b H.length with hb | hb
    · rw [List.getElem?_append_left hb] at h; exact .inl ⟨hb,h⟩
    · rw [List.getElem?_append_right hb] at h
      have : b - H.length = 0:=by have:=(List.getElem?_eq_some_iff.1 h).1; simpa using this
      rw [this] at h
      exact .inr ⟨by omega,by simpa using h.symm⟩
  have hmu : ∀ b,b < H.length→(μ ++ [none])[b]? = μ[b]?:=fun b hb=>List.getElem?_append_left (by rw [hH.len]; exact hb)
  have hmul : (μ ++ [none])[H.length]? = some none:=by rw [← hH.len]; simp
  refine ⟨⟨by simp [hH.len],fun b e' hb=>?_,fun b c e1 f1 pl ql hne h1 h2 h3 h4 h5 h6=>?_,hH.os,hH.tape,hH.output,hH.size,hH.block,fun b e1 pl h1 h2 h3=>?_,hH.fr0,hH.fr1,hH.frlt,fun b e1 hb h1 hl=>?_,by have:=hH.mle; simp; omega⟩,hle⟩
  · rcases hget b e' hb with ⟨hlt,h⟩ | ⟨rfl,rfl⟩
    · rw [List.getD_eq_getElem?_getD,hmu b hlt,← List.getD_eq_getElem?_getD]
      exact EntOk.step hle (fun pl hpl hw=>⟨rfl,id⟩) (hH.ent b e' h)
    · rw [List.getD_eq_getElem?_getD,hmul]
      exact ⟨fun x hx=>(by cases hx),.inl ⟨rfl,rfl⟩⟩
  · rcases hget b e1 h1 with ⟨hlt,h1'⟩ | ⟨rfl,rfl⟩ <;> rcases hget c f1 h4 with ⟨hlt',h4'⟩ | ⟨rfl,rfl⟩
    · rw [hmu b hlt] at h3
      rw [hmu c hlt'] at h6
      exact hH.dist b c e1 f1 pl ql hne h1' h2 h3 h4' h5 h6
    · rw [hmul] at h6; simp at h6
    · rw [hmul] at h3; simp at h3
    · exact absurd rfl hne
  · rcases hget b e1 h1 with ⟨hlt,h1'⟩ | ⟨rfl,rfl⟩
    · rw [hmu b hlt] at h3
      exact hH.own b e1 pl h1' h2 h3
    · rw [hmul] at h3; simp at h3
  · have hlt : b < H.length:=Nat.lt_of_lt_of_le hb hH.mle
    rcases hget b e1 h1 with ⟨_,h1'⟩ | ⟨rfl,rfl⟩
    · exact ⟨(hmu b hlt).trans (hH.held b e1 hb h1' hl).1,(hH.held b e1 hb h1' hl).2⟩
    · omega
theorem HeapOk.moveCut (hH : HeapOk A F μ H w) {b sz i n : Nat} {es ys : List (List PC)} {pl : Place} (hys : ys = (es.drop i).take n) (hb : H[b]? = some (.vec sz es true)) (hm : μ[b]? = some (some pl)) (hi : i≤es.length) (hlim : pl.off + i * sz≤pl.lim) :
    HeapOk A F (μ ++ [some ⟨pl.blk,pl.off + i * sz,pl.lim⟩]) (H.set b .gone ++ [.vec sz ys true]) w∧Le F μ H w F (μ ++ [some ⟨pl.blk,pl.off + i * sz,pl.lim⟩]) (H.set b .gone ++ [.vec sz ys true]) w:=by
  have hblt : b < H.length:=(List.getElem?_eq_some_iff.1 hb).1
  have hget : ∀ (c : Nat) (f : Entry),(H.set b .gone ++ [.vec sz ys true])[c]? = some f→(c < H.length∧f = .gone)∨(c < H.length∧c≠b∧H[c]? = some f)∨(c = H.length∧f = .vec sz ys true):=fun c f h=>by
    rcases Nat.lt_or_ge c H.length with hc | hc
    · rw [List.getElem?_append_left (by simpa using hc),List.getElem?_set] at h
      by_cases hcb : b = c
      · subst hcb
        rw [if_pos rfl,if_pos hblt] at h
        exact .inl ⟨hc,by simpa using h.symm⟩
      · rw [if_neg hcb] at h
        exact .inr (.inl ⟨hc,fun q=>hcb q.symm,h⟩)
    · rw [List.getElem?_append_right (by simpa using hc)] at h
      have : c - (H.set b .gone).length = 0:=by have:=(List.getElem?_eq_some_iff.1 h).1; simpa using this
      rw [this] at h
      simp at this
      exact .inr (.inr ⟨by omega,by simpa using h.symm⟩)
  have hle : Le F μ H w F (μ ++ [some ⟨pl.blk,pl.off + i * sz,pl.lim⟩]) (H.set b .gone ++ [.vec sz ys true]) w:=by
    refine ⟨fun _ h=>h,fun n hn=>rfl,by simp,fun c e' hc he' hl=>?_⟩
    rcases hget c e' he' with ⟨_,rfl⟩ | ⟨_,_,h⟩ | ⟨rfl,_⟩
    · cases hl
    · exact ⟨e',h,hl,rfl,rfl,Nat.le_refl _,by rw [List.getElem?_append_left (by rw [hH.len]; exact hc)]⟩
    · omega
  have hmu : ∀ c,c < H.length→(μ ++ [some (⟨pl.blk,pl.off + i * sz,pl.lim⟩ : Place)])[c]? = μ[c]?:=fun c hc=>List.getElem?_append_left (by rw [hH.len]; exact hc)
  have hmul : (μ ++ [some (⟨pl.blk,pl.off + i * sz,pl.lim⟩ : Place)])[H.length]? = some (some ⟨pl.blk,pl.off + i * sz,pl.lim⟩):=by rw [← hH.len]; simp
  refine ⟨⟨by simp [hH.len],fun c e' hc=>?_,fun c d f g ql rl hne h1 h2 h3 h4 h5 h6=>?_,hH.os,hH.tape,hH.output,hH.size,hH.block,fun c f ql h1 h2 h3=>?_,hH.fr0,hH.fr1,hH.frlt,fun c f hc h1 hl=>?_,by have:=hH.mle; simp; omega⟩,hle⟩
  · rcases hget c e' hc with ⟨_,rfl⟩ | ⟨hlt,_,h⟩ | ⟨rfl,rfl⟩
    · trivial
    · rw [List.getD_eq_getElem?_getD,hmu c hlt,← List.getD_eq_getElem?_getD]
      exact EntOk.step hle (fun pl hpl hw=>⟨rfl,id⟩) (hH.ent c e' h)
    · rw [List.getD_eq_getElem?_getD,hmul]
      obtain ⟨hes,hor⟩:=hH.ent b _ hb
      refine ⟨fun x hx=>hes x (List.mem_of_mem_drop (List.mem_of_mem_take (hys▸hx))),.inr ?_⟩
      rcases hor with ⟨hmn,_⟩ | ⟨pl',vs,ty,fz,hm',hblk,hsz,h1,h2,hr⟩
      · rw [List.getD_eq_getElem?_getD,hm] at hmn; simp at hmn
      · have : pl' = pl:=by
          rw [List.getD_eq_getElem?_getD,hm] at hm'
          simpa using hm'.symm
        subst this
        refine ⟨_,vs,ty,fz,rfl,hblk,⟨hsz.1,by simp only; rw [hsz.1]; exact hlim⟩,h1,h2,?_⟩
        have h3:=(hr.mono hle.fr hle.heap).drop (i * sz)
        have hfd : es.flatten.drop (i * sz) = (es.drop i).flatten:=by
          have hsplit : es.flatten = (es.take i).flatten ++ (es.drop i).flatten:=by rw [← List.flatten_append,List.take_append_drop]
          have hlt : (es.take i).flatten.length = i * sz:=by
            rw [flat_len fun x hx=>hes x (List.mem_of_mem_take hx),List.length_take,Nat.min_eq_left hi]
          rw [hsplit,← hlt,List.drop_left]
        rw [hfd] at h3
        have he : ((vs.toList.drop pl'.off).take (es.length * sz)).drop (i * sz) = (vs.toList.drop (pl'.off + i * sz)).take ((es.drop i).length * sz):=by
          rw [List.drop_take,List.drop_drop,List.length_drop,Nat.sub_mul]
        rw [he] at h3
        have h4:=h3.take (n * sz)
        have hes2 : ∀ x∈es.drop i,x.length = sz:=fun x hx=>hes x (List.mem_of_mem_drop hx)
        have ht : (es.drop i).flatten.take (n * sz) = ys.flatten:=by
          rw [hys]
          rcases Nat.lt_or_ge (es.drop i).length n with hn | hn
          · have q1 : (es.drop i).take n = es.drop i:=List.take_of_length_le (by omega)
            have q2 : (es.drop i).flatten.take (n * sz) = (es.drop i).flatten:=List.take_of_length_le (by rw [flat_len hes2]; exact Nat.mul_le_mul_right _ (by omega))
            rw [q1,q2]
          · have hsplit : (es.drop i).flatten = ((es.drop i).take n).flatten ++ ((es.drop i).drop n).flatten:=by rw [← List.flatten_append,List.take_append_drop]
            have hlt : ((es.drop i).take n).flatten.length = n * sz:=by
              rw [flat_len fun x hx=>hes2 x (List.mem_of_mem_take hx),List.length_take,Nat.min_eq_left hn]
            rw [hsplit,← hlt,List.take_left]
        rw [ht,List.take_take] at h4
        have hm2 : min (n * sz) ((es.drop i).length * sz) = ys.length * sz:=by
          rw [hys,List.length_take]
          rcases Nat.lt_or_ge (es.drop i).length n with hn | hn
          · rw [Nat.min_eq_right (Nat.mul_le_mul_right _ (by omega)),Nat.min_eq_right (by omega)]
          · rw [Nat.min_eq_left (Nat.mul_le_mul_right _ hn),Nat.min_eq_left hn]
        rw [hm2] at h4
        exact h4
  · have own' : ∀ (c : Nat) (f : Entry) (ql : Place),(H.set b .gone ++ [.vec sz ys true])[c]? = some f→f.owned = true→(μ ++ [some (⟨pl.blk,pl.off + i * sz,pl.lim⟩ : Place)])[c]? = some (some ql) →
        (c < H.length∧c≠b∧H[c]? = some f∧μ[c]? = some (some ql))∨(c = H.length∧ql.blk = pl.blk):=fun c f ql h1 h2 h3=>by
      rcases hget c f h1 with ⟨_,rfl⟩ | ⟨hlt,hne,h⟩ | ⟨rfl,rfl⟩
      · cases h2
      · rw [hmu c hlt] at h3; exact .inl ⟨hlt,hne,h,h3⟩
      · rw [hmul] at h3
        obtain rfl : (⟨pl.blk,pl.off + i * sz,pl.lim⟩ : Place) = ql:=by simpa using h3
        exact .inr ⟨rfl,rfl⟩
    rcases own' c f ql h1 h2 h3 with ⟨_,n1,k1,k2⟩ | ⟨rfl,k1⟩ <;> rcases own' d g rl h4 h5 h6 with ⟨_,n2,q1,q2⟩ | ⟨rfl,q1⟩
    · exact hH.dist c d f g ql rl hne k1 h2 k2 q1 h5 q2
    · rw [q1]; exact hH.dist c b f _ ql pl n1 k1 h2 k2 hb rfl hm
    · rw [k1]; exact fun q=>hH.dist d b g _ rl pl n2 q1 h5 q2 hb rfl hm q.symm
    · exact absurd rfl hne
  · rcases hget c f h1 with ⟨_,rfl⟩ | ⟨hlt,_,h⟩ | ⟨rfl,rfl⟩
    · cases h2
    · rw [hmu c hlt] at h3; exact hH.own c f ql h h2 h3
    · rw [hmul] at h3
      obtain rfl : (⟨pl.blk,pl.off + i * sz,pl.lim⟩ : Place) = ql:=by simpa using h3
      exact hH.own b _ pl hb rfl hm
  · have hlt : c < H.length:=Nat.lt_of_lt_of_le hc hH.mle
    rcases hget c f h1 with ⟨_,rfl⟩ | ⟨_,_,h⟩ | ⟨rfl,rfl⟩
    · cases hl
    · exact ⟨(hmu c hlt).trans (hH.held c f hc h hl).1,(hH.held c f hc h hl).2⟩
    · omega
theorem HeapOk.move (hH : HeapOk A F μ H w) {b sz i : Nat} {es : List (List PC)} {pl : Place} (hb : H[b]? = some (.vec sz es true)) (hm : μ[b]? = some (some pl)) (hi : i≤es.length) (hlim : pl.off + i * sz≤pl.lim) :
    HeapOk A F (μ ++ [some ⟨pl.blk,pl.off + i * sz,pl.lim⟩]) (H.set b .gone ++ [.vec sz (es.drop i) true]) w∧Le F μ H w F (μ ++ [some ⟨pl.blk,pl.off + i * sz,pl.lim⟩]) (H.set b .gone ++ [.vec sz (es.drop i) true]) w :=
  hH.moveCut (n:=es.length) (List.take_of_length_le (by rw [List.length_drop]; omega)).symm hb hm hi hlim
theorem HeapOk.write (hH : HeapOk A F μ H w) {b : Nat} {e e' : Entry} {pl : Place} (hb : H[b]? = some e) (ho : e.owned = true) (hm : μ[b]? = some (some pl)) (hk : e'.live = true∧e'.sz = e.sz∧e'.isVec = e.isVec∧e'.owned = true∧e.cnt≤e'.cnt)
    (hw : ∀ n,n≠pl.blk→w'.heap[n]? = w.heap[n]?) (hs : w'.heap.size = w.heap.size) (hos : w'.os = w.os) (htape : w'.tape = w.tape) (hout : w'.output = w.output)
    (he : ∀ H',Le F μ H w F μ H' w'→EntOk F μ H' w' e' (some pl)) : HeapOk A F μ (H.set b e') w'∧Le F μ H w F μ (H.set b e') w':=by
  have hnF:=hH.notF hb ho hm
  have hblt : b < H.length:=(List.getElem?_eq_some_iff.1 hb).1
  have hF : ∀ n,F n→w'.heap[n]? = w.heap[n]?:=fun n hn=>hw n (fun q=>hnF (q▸hn))
  have hlive : e.live = true:=by cases e <;> first | rfl | cases ho
  have hget : ∀ c f,(H.set b e')[c]? = some f→(c = b∧f = e')∨(c≠b∧H[c]? = some f):=fun c f h=>by
    rw [List.getElem?_set] at h
    by_cases hc : b = c
    · subst hc
      rw [if_pos rfl,if_pos hblt] at h
      exact .inl ⟨rfl,by simpa using h.symm⟩
    · rw [if_neg hc] at h
      exact .inr ⟨fun q=>hc q.symm,h⟩
  have hle : Le F μ H w F μ (H.set b e') w':=by
    refine ⟨fun _ h=>h,hF,by simp,fun c f hc hf hl=>?_⟩
    rcases hget c f hf with ⟨rfl,rfl⟩ | ⟨hne,hf⟩
    · exact ⟨e,hb,hlive,hk.2.1.symm,hk.2.2.1.symm,hk.2.2.2.2,rfl⟩
    · exact ⟨f,hf,hl,rfl,rfl,Nat.le_refl _,rfl⟩
  refine ⟨⟨by simp [hH.len],fun c f hc=>?_,fun c d f g ql rl hne h1 h2 h3 h4 h5 h6=>?_,hos.trans hH.os,htape.trans hH.tape,hout.trans hH.output,by rw [hs]; exact hH.size,fun n hn hno=>?_,fun c f ql h1 h2 h3=>?_,hH.fr0,hH.fr1,fun n hn=>by rw [hs]; exact hH.frlt n hn,fun c f hc h1 hl=>?_,by simpa using hH.mle⟩,hle⟩
  · rcases hget c f hc with ⟨rfl,rfl⟩ | ⟨hne,hf⟩
    · rw [List.getD_eq_getElem?_getD,hm]
      exact he _ hle
    · refine EntOk.step hle (fun ql hql hw2=>⟨hw _ ?_,id⟩) (hH.ent c f hf)
      exact hH.dist c b f e ql pl hne hf hw2 (getD_some hql) hb ho hm
  · have own' : ∀ (c : Nat) (f : Entry),(H.set b e')[c]? = some f→f.owned = true→∃ f' : Entry,H[c]? = some f'∧f'.owned = true:=fun c f h ho'=>by
      rcases hget c f h with ⟨rfl,rfl⟩ | ⟨_,hf⟩
      · exact ⟨e,hb,ho⟩
      · exact ⟨f,hf,ho'⟩
    obtain ⟨f',k1,k2⟩:=own' c f h1 h2
    obtain ⟨g',k3,k4⟩:=own' d g h4 h5
    exact hH.dist c d f' g' ql rl hne k1 k2 h3 k3 k4 h6
  · rw [hw n ?_]
    · exact hH.block n hn hno
    · intro q
      rcases hH.own b e pl hb ho hm with h | h
      · exact hno (q▸h)
      · omega
  · rcases hget c f h1 with ⟨rfl,rfl⟩ | ⟨_,hf⟩
    · exact hH.own c e ql hb ho h3
    · exact hH.own c f ql hf h2 h3
  · rcases hget c f h1 with ⟨rfl,rfl⟩ | ⟨_,hf⟩
    · obtain ⟨k1,e0,k2,k3,k4,k5,k6⟩:=hH.held c e hc hb hlive
      exact ⟨k1,e0,k2,k3,k4.trans hk.2.1.symm,k5.trans hk.2.2.1.symm,Nat.le_trans k6 hk.2.2.2.2⟩
    · exact hH.held c f hc hf hl
def lockF (F : Nat→Prop) (μ : List (Option Place)) (b : Nat) : Nat→Prop:=fun n=>F n∨∃ pl,μ[b]? = some (some pl)∧pl.blk = n
theorem HeapOk.lock (hH : HeapOk A F μ H w) {b sz : Nat} {es : List (List PC)} {wr : Bool} (hb : H[b]? = some (.vec sz es wr)) :
    HeapOk A (lockF F μ b) μ (H.set b (.vec sz es false)) w∧Le F μ H w (lockF F μ b) μ (H.set b (.vec sz es false)) w:=by
  have hblt : b < H.length:=(List.getElem?_eq_some_iff.1 hb).1
  have hget : ∀ c f,(H.set b (.vec sz es false))[c]? = some f→(c = b∧f = .vec sz es false)∨(c≠b∧H[c]? = some f):=fun c f h=>by
    rw [List.getElem?_set] at h
    by_cases hc : b = c
    · subst hc
      rw [if_pos rfl,if_pos hblt] at h
      exact .inl ⟨rfl,by simpa using h.symm⟩
    · rw [if_neg hc] at h
      exact .inr ⟨fun q=>hc q.symm,h⟩
  have hle : Le F μ H w (lockF F μ b) μ (H.set b (.vec sz es false)) w:=by
    refine ⟨fun _ h=>.inl h,fun _ _=>rfl,by simp,fun c f hc hf hl=>?_⟩
    rcases hget c f hf with ⟨rfl,rfl⟩ | ⟨hne,hf⟩
    · exact ⟨_,hb,rfl,rfl,rfl,Nat.le_refl _,rfl⟩
    · exact ⟨f,hf,hl,rfl,rfl,Nat.le_refl _,rfl⟩
  have hent:=hH.ent b _ hb
  have hF1 : ∀ pl,μ[b]? = some (some pl)→A.F0 pl.blk∨A.OW pl.blk∨A.w0.heap.size≤pl.blk:=fun pl hm=>by
    cases wr with
    | true=>exact .inr (hH.own b _ pl hb rfl hm)
    | false =>
      obtain ⟨_,⟨hm',_⟩ | ⟨pl',vs,ty,fz,hm',_,_,_,h2,_⟩⟩:=hent
      · rw [List.getD_eq_getElem?_getD,hm] at hm'; simp at hm'
      · rw [List.getD_eq_getElem?_getD,hm] at hm'
        obtain rfl : pl = pl':=by simpa using hm'
        exact hH.fr1 _ (h2 rfl)
  refine ⟨⟨by simp [hH.len],fun c f hc=>?_,fun c d f g ql rl hne h1 h2 h3 h4 h5 h6=>?_,hH.os,hH.tape,hH.output,hH.size,hH.block,fun c f ql h1 h2 h3=>?_,fun n hn=>.inl (hH.fr0 n hn),fun n hn=>?_,fun n hn=>?_,fun c f hc h1 hl=>?_,by simpa using hH.mle⟩,hle⟩
  · rcases hget c f hc with ⟨rfl,rfl⟩ | ⟨hne,hf⟩
    · obtain ⟨hes,hor⟩:=hent
      refine ⟨hes,hor.imp id fun ⟨pl,vs,ty,fz,hm,hb',hl,h1,h2,hr⟩=>⟨pl,vs,ty,fz,hm,hb',hl,(fun q=>by cases q),fun _=>.inr ⟨pl,getD_some hm,rfl⟩,hr.mono hle.fr hle.heap⟩⟩
    · refine EntOk.step hle (fun ql hql hw2=>⟨rfl,fun q=>?_⟩) (hH.ent c f hf)
      rcases q with q | ⟨pl,hpl,hq⟩
      · exact q
      · cases wr with
        | true=>exact absurd hq.symm (hH.dist c b f _ ql pl hne hf hw2 (getD_some hql) hb rfl hpl)
        | false =>
          obtain ⟨_,⟨hm',_⟩ | ⟨pl',vs,ty,fz,hm',_,_,_,h2,_⟩⟩:=hent
          · rw [List.getD_eq_getElem?_getD,hpl] at hm'; simp at hm'
          · rw [List.getD_eq_getElem?_getD,hpl] at hm'
            obtain rfl : pl = pl':=by simpa using hm'
            exact hq▸h2 rfl
  · rcases hget c f h1 with ⟨rfl,rfl⟩ | ⟨_,hf⟩
    · cases h2
    · rcases hget d g h4 with ⟨rfl,rfl⟩ | ⟨_,hg⟩
      · cases h5
      · exact hH.dist c d f g ql rl hne hf h2 h3 hg h5 h6
  · rcases hget c f h1 with ⟨rfl,rfl⟩ | ⟨_,hf⟩
    · cases h2
    · exact hH.own c f ql hf h2 h3
  · rcases hn with hn | ⟨pl,hm,rfl⟩
    · exact hH.fr1 n hn
    · exact hF1 pl hm
  · rcases hn with hn | ⟨pl,hm,rfl⟩
    · exact hH.frlt n hn
    · exact hH.blk hb rfl hm
  · rcases hget c f h1 with ⟨rfl,rfl⟩ | ⟨_,hf⟩
    · exact hH.held c (.vec sz es wr) hc hb rfl
    · exact hH.held c f hc hf hl
theorem HeapOk.drop (hH : HeapOk A F μ H w) (b : Nat) : HeapOk A F μ (H.set b .gone) w∧Le F μ H w F μ (H.set b .gone) w:=by
  have hget : ∀ c f,(H.set b .gone)[c]? = some f→f = .gone∨(c≠b∧H[c]? = some f):=fun c f h=>by
    rw [List.getElem?_set] at h
    by_cases hc : b = c
    · subst hc
      rw [if_pos rfl] at h
      split at h
      · exact .inl (by simpa using h.symm)
      · cases h
    · rw [if_neg hc] at h
      exact .inr ⟨fun q=>hc q.symm,h⟩
  have hle : Le F μ H w F μ (H.set b .gone) w:=by
    refine ⟨fun _ h=>h,fun _ _=>rfl,by simp,fun c f hc hf hl=>?_⟩
    rcases hget c f hf with rfl | ⟨hne,hf⟩
    · cases hl
    · exact ⟨f,hf,hl,rfl,rfl,Nat.le_refl _,rfl⟩
  refine ⟨⟨by simp [hH.len],fun c f hc=>?_,fun c d f g ql rl hne h1 h2 h3 h4 h5 h6=>?_,hH.os,hH.tape,hH.output,hH.size,hH.block,fun c f ql h1 h2 h3=>?_,hH.fr0,hH.fr1,hH.frlt,fun c f hc h1 hl=>?_,by simpa using hH.mle⟩,hle⟩
  · rcases hget c f hc with rfl | ⟨hne,hf⟩
    · trivial
    · exact EntOk.step hle (fun ql hql hw2=>⟨rfl,id⟩) (hH.ent c f hf)
  · rcases hget c f h1 with rfl | ⟨_,hf⟩
    · cases h2
    · rcases hget d g h4 with rfl | ⟨_,hg⟩
      · cases h5
      · exact hH.dist c d f g ql rl hne hf h2 h3 hg h5 h6
  · rcases hget c f h1 with rfl | ⟨_,hf⟩
    · cases h2
    · exact hH.own c f ql hf h2 h3
  · rcases hget c f h1 with rfl | ⟨_,hf⟩
    · cases hl
    · exact hH.held c f hc hf hl
theorem HeapOk.drew (hH : HeapOk A F μ H w) : HeapOk A F μ H w.drew∧Le F μ H w F μ H w.drew:=by
  have hle : Le F μ H w F μ H w.drew:=⟨fun _ h=>h,fun _ _=>rfl,Nat.le_refl _,fun c f _ hf hl=>⟨f,hf,hl,rfl,rfl,Nat.le_refl _,rfl⟩⟩
  exact ⟨⟨hH.len,fun c f hf=>EntOk.step hle (fun _ _ _=>⟨rfl,id⟩) (hH.ent c f hf),hH.dist,hH.os,hH.tape,hH.output,hH.size,hH.block,hH.own,hH.fr0,hH.fr1,hH.frlt,hH.held,hH.mle⟩,hle⟩
def Fr (M : List Nat) (μ : List (Option Place)) (H : List Entry) (w w' : World) : Prop:=w.heap.size≤w'.heap.size∧∀ n,n < w.heap.size→(∀ b∈M,∀ (e : Entry) (pl : Place),H[b]? = some e→e.owned = true→μ[b]? = some (some pl)→pl.blk≠n)→w'.heap[n]? = w.heap[n]?
theorem Fr.refl {M : List Nat} : Fr M μ H w w:=⟨Nat.le_refl _,fun _ _ _=>rfl⟩
theorem Fr.alloc {M : List Nat} (o : Obj) : Fr M μ H w (w.alloc o):=⟨by simp,fun n hn _=>heap_alloc_old w o hn⟩
theorem Fr.drew {M : List Nat} : Fr M μ H w w.drew:=⟨Nat.le_refl _,fun _ _ _=>rfl⟩
def WOk (P : Program) (A : Base) (F : Nat→Prop) (μ : List (Option Place)) (H : List Entry) (w : World) (M : List Nat) (s : Sem Value) (K : TV→List Entry→Prop) : Prop :=
  ∃ v w' F' μ' H' tv,s.run P w = .ok v w'∧HeapOk A F' μ' H' w'∧Le F μ H w F' μ' H' w'∧RepV F' μ' H' w' tv v∧Fr M μ H w w'∧K tv H'
theorem ref_sl (hH : HeapOk A F μ H w) {b i n sz : Nat} {es : List (List PC)} {wr : Bool} {v : Value} (hb : H[b]? = some (.vec sz es wr)) (r : RefOk μ H b i n v) (hF : ∀ n,F n→F' n) (hF' : ∀ pl,μ[b]? = some (some pl)→F' pl.blk) :
    RepC F' w (.sl sz ((es.drop i).take n) false) v:=by
  obtain ⟨hbl,base,cap,rfl,hn,hpl⟩:=r
  obtain ⟨hin,hor⟩:=hpl sz es wr hb
  have hlen : ((es.drop i).take n).length = n:=by rw [List.length_take,List.length_drop]; omega
  have hent:=hH.ent b _ hb
  obtain ⟨hes,hent⟩:=hent
  have empty : n = 0→RepC F' w (.sl sz ((es.drop i).take n) false) (.slice base n cap):=fun h0=>by
    subst h0
    simp only [List.take_zero]
    cases base with
    | none =>
      rcases hor with rfl | ⟨pl,_,h,_⟩
      · exact .nil _ _
      · cases h
    | some a=>exact RepC.sl sz [] false a cap (fun _ _=>undef) (.inl rfl) (Nat.zero_le _) (fun q=>by cases q) (fun e he=>by cases he) (fun i e j x he=>by simp at he) (fun i e j x he=>by simp at he)
  rcases hor with rfl | ⟨pl,hm,rfl,hlim⟩
  · exact empty (by omega)
  · rcases hent with ⟨hmn,_⟩ | ⟨pl',vs,ty,fz,hm',hblk,hsz,h1,h2,hr⟩
    · rw [List.getD_eq_getElem?_getD,hm] at hmn; simp at hmn
    · have : pl' = pl:=by
        rw [List.getD_eq_getElem?_getD,hm] at hm'
        simpa using hm'.symm
      subst this
      have hat:=At.of_cells hblk pl'.off (es.length * sz)
      have hel : ∀ k e,((es.drop i).take n)[k]? = some e→es[i + k]? = some e:=fun k e he=>by
        rw [List.getElem?_take] at he
        split at he
        · rwa [List.getElem?_drop] at he
        · cases he
      have hloc : ∀ k e,es[k]? = some e→∃ us,RepCs F w e us∧At w pl'.blk (pl'.off + k * sz) us:=fun k e he=>by
        have h3:=hr.ext (k * sz) sz
        unfold Eng.ext at h3
        rw [flat_elem hes he] at h3
        exact ⟨_,h3,hat.ext (k:=k * sz) (n:=sz)⟩
      have:=RepC.sl (F:=F') (w:=w) sz ((es.drop i).take n) false ⟨pl'.blk,pl'.off + i * sz,none⟩ cap (fun k j=>(w.cell? ⟨pl'.blk,pl'.off + i * sz + k * sz + j,none⟩).getD undef) (.inr rfl) (by omega) (fun q=>by cases q) (fun e he=>hes e (List.mem_of_mem_drop (List.mem_of_mem_take he))) ?_ ?_
      · rw [hlen] at this
        exact this
      · intro k e j x he hx
        obtain ⟨us,g1,g2⟩:=hloc (i + k) e (hel k e he)
        obtain ⟨u,g3,g4⟩:=g1.get hx
        have g5:=g2 j u g3
        rw [Nat.add_mul,← Nat.add_assoc] at g5
        exact ⟨hF' pl' hm,by rw [g5]; rfl⟩
      · intro k e j x he hx
        obtain ⟨us,g1,g2⟩:=hloc (i + k) e (hel k e he)
        obtain ⟨u,g3,g4⟩:=g1.get hx
        have g5:=g2 j u g3
        rw [Nat.add_mul,← Nat.add_assoc] at g5
        simp only [g5,Option.getD_some]
        exact g4.mono hF fun _ _=>rfl
theorem freeze_ok : ∀ {xs : List TC} {H H' : List Entry} {ps : List PC} {F : Nat→Prop} {vs : List Value},HeapOk A F μ H w→RepTs F μ H w xs vs→freeze xs H = some (ps,H') →
    ∃ F',HeapOk A F' μ H' w∧Le F μ H w F' μ H' w∧RepCs F' w ps vs
  | [],H,H',ps,F,[],hH,_,h=>by
    simp only [freeze,Option.some.injEq,Prod.mk.injEq] at h
    obtain ⟨rfl,rfl⟩:=h
    exact ⟨F,hH,Le.refl,trivial⟩
  | x :: xs,H,H',ps,F,v :: vs,hH,r,h=>by
    cases x with
    | p x =>
      simp only [freeze] at h
      cases hq : freeze xs H with
      | none=>simp [hq] at h
      | some q =>
        obtain ⟨ys,H1⟩:=q
        simp only [hq,Option.some.injEq,Prod.mk.injEq] at h
        obtain ⟨rfl,rfl⟩:=h
        obtain ⟨F',h1,h2,h3⟩:=freeze_ok hH r.2 hq
        exact ⟨F',h1,h2,r.1.2.mono h2.fr h2.heap,h3⟩
    | ref b i n =>
      simp only [freeze] at h
      cases hb : H[b]? with
      | none=>simp [hb] at h
      | some e =>
        cases e with
        | vec sz es wr =>
          simp only [hb] at h
          cases hq : freeze xs (H.set b (.vec sz es false)) with
          | none=>simp [hq] at h
          | some q =>
            obtain ⟨ys,H1⟩:=q
            simp only [hq,Option.some.injEq,Prod.mk.injEq] at h
            obtain ⟨rfl,rfl⟩:=h
            obtain ⟨hH1,hle1⟩:=hH.lock hb
            obtain ⟨F',h1,h2,h3⟩:=freeze_ok hH1 (RepTs.le hle1 r.2) hq
            refine ⟨F',h1,hle1.trans h2,?_,h3⟩
            refine RepC.mono h2.fr h2.heap ?_
            obtain ⟨_,hbl,base,cap,rfl,hn,hpl⟩:=r.1
            have hb1 : (H.set b (.vec sz es false))[b]? = some (.vec sz es false):=by
              have hblt : b < H.length:=(List.getElem?_eq_some_iff.1 hb).1
              simp [hblt]
            exact ref_sl hH hb ⟨hbl,base,cap,rfl,hn,hpl⟩ (fun n hn=>hle1.fr n hn) fun pl hm=>.inr ⟨pl,hm,rfl⟩
        | _=>simp [hb] at h
    | _=>simp [freeze] at h
  | [],_,_,_,_,_ :: _,_,r,_=>r.elim
  | _ :: _,_,_,_,_,[],_,r,_=>r.elim
end
end Go.Eng
namespace Go.Eng
open Go.RowKit
section
variable {P : Program} {C : Ctx} {A : Base} {F F' : Nat→Prop} {μ μ' : List (Option Place)} {H H' : List Entry} {w w' : World}
theorem PtrOk.new (hH : HeapOk A F μ H w) (e : Entry) (pl : Place) : PtrOk (μ ++ [some pl]) (H ++ [e]) H.length 0 0 (.pointer (some ⟨pl.blk,pl.off,none⟩)):=by
  refine ⟨by simp,pl.blk,pl.off,rfl,fun e' he' _=>⟨pl,?_,rfl,by simp⟩⟩
  rw [← hH.len]
  simp
theorem take_all {α : Type} (l : List α) (n : Nat) (h : n = l.length) : (l.drop 0).take n = l:=by
  subst h; simp
theorem newVar_ok (hH : HeapOk A F μ H w) {t : TypeId} {v : Value} {s : Sem Value} {M : List Nat} {e : Entry} {K : TV→List Entry→Prop} (hs : s.run P w = .ok (.pointer (some ⟨w.heap.size,0,none⟩)) (w.alloc (.cells v.cells t)))
    (he : (∃ cs,e = .box cs∧RepTs F μ H w cs v.cells.toList)∨(∃ cs,e = .pbox cs∧RepCs F w cs v.cells.toList)) (hK : K (.w (.one (.ptr H.length 0 0))) (H ++ [e])) : WOk P A F μ H w M s K:=by
  have hown : e.owned = true:=by rcases he with ⟨cs,rfl,_⟩ | ⟨cs,rfl,_⟩ <;> rfl
  have hnF : ¬ F w.heap.size:=fun h=>by have:=hH.frlt _ h; omega
  obtain ⟨h1,h2⟩:=hH.push v.cells t e hown fun μ' H' hle=>by
    have hb : (w.alloc (.cells v.cells t)).heap[w.heap.size]? = some (.cells v.cells t):=heap_alloc_new w _
    rcases he with ⟨cs,rfl,hr⟩ | ⟨cs,rfl,hr⟩
    · refine ⟨_,v.cells,t,rfl,hb,⟨rfl,Nat.zero_le _⟩,hnF,?_⟩
      have hl:=hr.length
      rw [take_all _ _ hl]
      exact hr.le hle
    · refine ⟨_,v.cells,t,rfl,hb,⟨rfl,Nat.zero_le _⟩,hnF,?_⟩
      have hl:=hr.length
      rw [take_all _ _ hl]
      exact hr.mono hle.fr hle.heap
  exact ⟨_,_,F,_,_,.w (.one (.ptr H.length 0 0)),hs,h1,h2,PtrOk.new hH e ⟨w.heap.size,0,v.cells.size⟩,Fr.alloc _,hK⟩
theorem alloc_ok (hC : CtxOk P C F w) (hH : HeapOk A F μ H w) {M : List Nat} {t : TypeId} {K : TV→List Entry→Prop} (h : allocT C t H K) : WOk P A F μ H w M (Instr.alloc t true (.tuple #[])) K:=by
  unfold allocT at h
  split at h
  · rename_i ti ht
    obtain ⟨z,hz,hl,hr⟩:=(hC.ty _ _ ht).run_zero
    have hs : (Instr.alloc t true (.tuple #[])).run P w = .ok (.pointer (some ⟨w.heap.size,0,none⟩)) (w.alloc (.cells z.cells t)):=by
      unfold Instr.alloc
      simp only [Sem.run_bind,hz w,Result.andThen_ok,newVar,newRow,run_newObj,Sem.run_pure]
      rfl
    split at h
    · exact newVar_ok hH hs (.inr ⟨_,rfl,hr F w⟩) h
    · exact newVar_ok hH hs (.inl ⟨_,rfl,RepTs.of_pure (hr F w)⟩) h
  · exact h.elim
theorem box_ok (hC : CtxOk P C F w) (hH : HeapOk A F μ H w) {M : List Nat} {t : TypeId} {x : TV} {v : Value} {K : TV→List Entry→Prop} (h : boxT C t x H K) (hx : RepV F μ H w x v) : WOk P A F μ H w M (Instr.box t v) K:=by
  have hs : (Instr.box t v).run P w = .ok (.pointer (some ⟨w.heap.size,0,none⟩)) (w.alloc (.cells v.cells t)):=by
    unfold Instr.box
    simp only [Sem.run_bind,newVar,newRow,run_newObj,Result.andThen_ok,Sem.run_pure]
    rfl
  unfold boxT at h
  split at h
  · rename_i ti ps ht
    obtain ⟨cs,rfl,hr⟩:=hx
    split at h
    · exact newVar_ok hH hs (.inr ⟨_,rfl,hr⟩) h.2
    · split at h
      · exact newVar_ok hH hs (.inl ⟨_,rfl,RepTs.of_pure hr⟩) h
      · exact h.elim
  · rename_i ti y hy ht
    cases hok : okW y with
    | false=>rw [hok] at h; exact h.elim
    | true =>
      rw [hok] at h
      simp only [Bool.not_true,cond_false] at h
      split at h
      · exact newVar_ok hH hs (.inl ⟨_,rfl,RepW.cells hx hok⟩) h
      · exact h.elim
  · exact h.elim
theorem run_store {b o : Nat} {cur : Array Value} {ty : TypeId} {vs : List Value} (hb : w.heap[b]? = some (.cells cur ty (0,0))) (hl : o + vs.length≤cur.size) (h1 : ∀ v∈vs,v.oneCell' = true) :
    (storeCells ⟨b,o,none⟩ vs).run P w = .ok () (w.setRow b (splice cur.toList o vs).toArray):=by
  have:=run_storeCells_at P b o ty vs 0 cur w hb (by simpa using hl) h1
  rw [this]
  unfold splice
  simp
theorem run_storeVar {t : TypeId} {ti : TI} (hT : TIOk P t ti) {v : Value} {b o : Nat} {cur : Array Value} {ty : TypeId} (hv : v.cells.size = ti.size) (hb : w.heap[b]? = some (.cells cur ty (0,0))) (hl : o + ti.size≤cur.size) (h1 : ∀ x∈v.cells.toList,x.oneCell' = true) :
    (Instr.storeAt t (.pointer (some ⟨b,o,none⟩)) v).run P w = .ok () (w.setRow b (splice cur.toList o v.cells.toList).toArray):=by
  unfold Instr.storeAt
  simp only [Instr.sureAddr,pure_bind,storeVar,Sem.run_bind,hT.run_size,Result.andThen_ok]
  rw [if_neg (by omega)]
  exact run_store hb (by simpa [hv] using hl) h1
theorem ext_splice {α : Type} (l : List α) (o n k : Nat) (xs : List α) (h : k + xs.length≤n) (h2 : o + n≤l.length) : ((splice l (o + k) xs).drop o).take n = splice ((l.drop o).take n) k xs:=by
  apply List.ext_getElem?
  intro j
  unfold splice
  by_cases hj : j < n
  · rw [List.getElem?_take,if_pos hj,List.getElem?_drop]
    by_cases h3 : j < k
    · rw [List.getElem?_append_left (by rw [List.length_take]; omega),List.getElem?_append_left (by rw [List.length_take,List.length_take,List.length_drop]; omega),List.getElem?_take,List.getElem?_take,if_pos (by omega),if_pos h3,List.getElem?_take,if_pos hj,List.getElem?_drop]
    · have e1 : (l.take (o + k)).length = o + k:=by rw [List.length_take]; omega
      have e2 : (((l.drop o).take n).take k).length = k:=by rw [List.length_take,List.length_take,List.length_drop]; omega
      have r1 : (l.take (o + k) ++ (xs ++ l.drop (o + k + xs.length)))[o + j]? = (xs ++ l.drop (o + k + xs.length))[j - k]?:=by
        rw [List.getElem?_append_right (by omega),e1,show o + j - (o + k) = j - k by omega]
      have r2 : (((l.drop o).take n).take k ++ (xs ++ ((l.drop o).take n).drop (k + xs.length)))[j]? = (xs ++ ((l.drop o).take n).drop (k + xs.length))[j - k]?:=by
        rw [List.getElem?_append_right (by omega),e2]
      rw [r1,r2]
      by_cases h4 : j - k < xs.length
      · rw [List.getElem?_append_left h4,List.getElem?_append_left h4]
      · rw [List.getElem?_append_right (by omega),List.getElem?_append_right (by omega),List.getElem?_drop,List.getElem?_drop,List.getElem?_take,if_pos (by omega),List.getElem?_drop]
        congr 1
        omega
  · rw [List.getElem?_take,if_neg hj]
    symm
    apply List.getElem?_eq_none
    simp only [List.length_append,List.length_take,List.length_drop]
    omega
theorem splice_elem (es : List (List PC)) (sz : Nat) (hs : ∀ x∈es,x.length = sz) : ∀ (i o : Nat) (e : List PC) (ps : List PC),es[i]? = some e→o + ps.length≤sz→splice es.flatten (i * sz + o) ps = (es.set i (splice e o ps)).flatten:=by
  induction es with
  | nil=>intro i o e ps h; simp at h
  | cons x xs ih =>
    intro i o e ps h hl
    have hx : x.length = sz:=hs x (by simp)
    cases i with
    | zero =>
      simp only [List.getElem?_cons_zero,Option.some.injEq] at h
      subst h
      simp only [Nat.zero_mul,Nat.zero_add,List.flatten_cons,List.set_cons_zero]
      unfold splice
      rw [List.take_append_of_le_length (by omega),List.drop_append_of_le_length (by omega)]
      simp
    | succ i =>
      simp only [List.getElem?_cons_succ] at h
      have:=ih (fun y hy=>hs y (by simp [hy])) i o e ps h hl
      simp only [List.flatten_cons,List.set_cons_succ]
      rw [← this]
      unfold splice
      rw [show (i + 1) * sz + o = x.length + (i * sz + o) by rw [Nat.add_mul]; omega]
      rw [List.take_append,List.take_of_length_le (by omega),show x.length + (i * sz + o) - x.length = i * sz + o by omega,
        show x.length + (i * sz + o) + ps.length = x.length + (i * sz + o + ps.length) by omega,← List.drop_drop,List.drop_left]
      simp
theorem setRow_fr {b : Nat} {cs : Array Value} {pl : Place} {M : List Nat} {e : Entry} (he : H[b]? = some e) (ho : e.owned = true) (hm : μ[b]? = some (some pl)) (hb : b∈M) : Fr M μ H w (w.setRow pl.blk cs) :=
  ⟨by simp,fun n hn hno=>setRow_other w pl.blk n cs fun q=>hno b hb e pl he ho hm q.symm⟩
theorem store_ok (hC : CtxOk P C F w) (hH : HeapOk A F μ H w) {t : TypeId} {ti : TI} (ht : C.ty t = some ti) {x : TC} {y : TW} {u v : Value} {K : List Entry→Prop} (h : storeT ti x y H K) (hok : okW y = true) (hx : RepT F μ H w x u) (hy : RepW F μ H w y v) :
    ∃ b,rdOf x = some b∧∃ w' F' H',(Instr.storeAt t u v).run P w = .ok () w'∧HeapOk A F' μ H' w'∧Le F μ H w F' μ H' w'∧Fr [b] μ H w w'∧K H':=by
  have hT:=hC.ty _ _ ht
  have hcells:=RepW.cells hy hok
  have hclen:=hcells.length
  simp only [Array.length_toList] at hclen
  cases x with
  | ptr b i o =>
    refine ⟨b,rfl,?_⟩
    obtain ⟨hbl,B,O,rfl,hpl⟩:=hx
    unfold storeT at h
    simp only [] at h
    cases he : H[b]? with
    | none=>rw [he] at h; exact h.elim
    | some e =>
      have hent:=hH.ent b e he
      rw [he] at h
      cases e with
      | box cs =>
        simp only [] at h
        split at h
        · rename_i hc
          obtain ⟨rfl,hl,hb⟩:=hc
          obtain ⟨pl',vs,ty,hm,hblk,hlim,hF,hr⟩:=hent
          have hm':=getD_some hm
          obtain ⟨pl,hm2,rfl,rfl⟩:=hpl _ he rfl
          obtain rfl : pl' = pl:=by rw [hm'] at hm2; simpa using hm2
          have hrl:=hr.length
          have hvs : vs.toList.length = vs.size:=by simp
          have hvl : pl'.off + cs.length≤vs.size:=by
            rw [List.length_take,List.length_drop] at hrl
            omega
          have hrun:=run_storeVar (P:=P) (w:=w) hT (v:=v) (b:=pl'.blk) (o:=pl'.off + 0 * (Entry.box cs).sz + o) (by omega) hblk (by simp [Entry.sz]; omega) hcells.one
          obtain ⟨h1,h2⟩:=hH.write (w':=w.setRow pl'.blk (splice vs.toList (pl'.off + 0 * (Entry.box cs).sz + o) v.cells.toList).toArray) he rfl hm' (e':=.box (splice cs o y.cells)) ⟨rfl,rfl,rfl,rfl,Nat.le_refl _⟩ (fun n hn=>setRow_other w _ _ _ hn) (by simp) rfl rfl rfl (fun H' hle=>by
            refine ⟨pl',_,ty,rfl,setRow_heap w _ vs _ ty _ hblk,?_,hF,?_⟩
            · rw [List.size_toArray,splice_len _ _ _ (by simp [Entry.sz]; omega)]
              exact ⟨by rw [hvs]; exact hlim.1,by rw [hvs]; exact hlim.2⟩
            · have:=(hr.le hle).splice (hcells.le hle) o
              rw [splice_len _ _ _ (by omega)]
              simp only [Entry.sz,Nat.mul_zero,Nat.add_zero]
              rw [ext_splice _ _ _ _ _ (by simp; omega) (by simpa using hvl)]
              exact this)
          exact ⟨_,F,_,hrun,h1,h2,setRow_fr he rfl hm' (by simp),h⟩
        · exact h.elim
      | pbox cs =>
        simp only [] at h
        split at h
        · rename_i ps hps
          split at h
          · rename_i hi
            subst hi
            obtain ⟨hl,hb,h⟩:=h
            have hcells':=RepTs.pures (cellsP_eq hps) hcells
            have hcl':=hcells'.length
            simp only [Array.length_toList] at hcl'
            obtain ⟨pl',vs,ty,hm,hblk,hlim,hF,hr⟩:=hent
            have hm':=getD_some hm
            obtain ⟨pl,hm2,rfl,rfl⟩:=hpl _ he rfl
            obtain rfl : pl' = pl:=by rw [hm'] at hm2; simpa using hm2
            have hrl:=hr.length
            have hvs : vs.toList.length = vs.size:=by simp
            have hvl : pl'.off + cs.length≤vs.size:=by
              rw [List.length_take,List.length_drop] at hrl
              omega
            have hrun:=run_storeVar (P:=P) (w:=w) hT (v:=v) (b:=pl'.blk) (o:=pl'.off + 0 * (Entry.pbox cs).sz + o) (by omega) hblk (by simp [Entry.sz]; omega) hcells.one
            obtain ⟨h1,h2⟩:=hH.write (w':=w.setRow pl'.blk (splice vs.toList (pl'.off + 0 * (Entry.pbox cs).sz + o) v.cells.toList).toArray) he rfl hm' (e':=.pbox (splice cs o ps)) ⟨rfl,rfl,rfl,rfl,Nat.le_refl _⟩ (fun n hn=>setRow_other w _ _ _ hn) (by simp) rfl rfl rfl (fun H' hle=>by
              refine ⟨pl',_,ty,rfl,setRow_heap w _ vs _ ty _ hblk,?_,hF,?_⟩
              · rw [List.size_toArray,splice_len _ _ _ (by simp [Entry.sz]; omega)]
                exact ⟨by rw [hvs]; exact hlim.1,by rw [hvs]; exact hlim.2⟩
              · have:=(hr.mono hle.fr hle.heap).splice (hcells'.mono hle.fr hle.heap) o
                rw [splice_len _ _ _ (by omega)]
                simp only [Entry.sz,Nat.mul_zero,Nat.add_zero]
                rw [ext_splice _ _ _ _ _ (by simp; omega) (by simpa using hvl)]
                exact this)
            exact ⟨_,F,_,hrun,h1,h2,setRow_fr he rfl hm' (by simp),h⟩
          · exact h.elim
        · exact h.elim
      | vec sz0 es0 wr0 =>
        cases wr0 with
        | false=>exact h.elim
        | true =>
        simp only [Bool.not_true,cond_false] at h
        split at h
        · rename_i ps H1 hfz
          obtain ⟨F1,hH1,hle1,hps⟩:=freeze_ok hH hcells hfz
          have hpl1:=(PtrOk.le hle1 (⟨hbl,B,O,rfl,hpl⟩ : PtrOk μ H b i o (.pointer (some ⟨B,O,none⟩))))
          obtain ⟨hbl1,B',O',hBO,hpl1⟩:=hpl1
          obtain ⟨rfl,rfl⟩ : B = B'∧O = O':=by simpa using hBO
          split at h
          · rename_i sz es he1
            split at h
            · rename_i hc
              obtain ⟨hl,hb⟩:=hc
              obtain ⟨hi,h⟩:=h
              obtain ⟨hes,hor⟩:=hH1.ent b _ he1
              obtain ⟨pl,hm2,rfl,rfl⟩:=hpl1 _ he1 rfl
              have hpl':=hps.length
              simp only [Array.length_toList] at hpl'
              rcases hor with ⟨_,rfl⟩ | ⟨pl',vs,ty,fz,hm,hblk,hlim,hw,hw2,hr⟩
              · simp at hi
              · have hm':=getD_some hm
                obtain rfl : pl' = pl:=by rw [hm'] at hm2; simpa using hm2
                obtain ⟨rfl,hF⟩:=hw rfl
                have hfl:=flat_len hes
                have hrl:=hr.length
                have hmul : i * sz + sz≤es.length * sz:=by
                  have:=Nat.mul_le_mul_right sz (show i + 1≤es.length by omega)
                  rw [Nat.add_mul,Nat.one_mul] at this
                  exact this
                have hvs : vs.toList.length = vs.size:=by simp
                have hvl : pl'.off + es.length * sz≤vs.size:=by
                  rw [List.length_take,List.length_drop,hfl] at hrl
                  omega
                have hrun:=run_storeVar (P:=P) (w:=w) hT (v:=v) (b:=pl'.blk) (o:=pl'.off + i * (Entry.vec sz es true).sz + o) (by omega) hblk (by simp only [Entry.sz]; omega) hcells.one
                have hei : es[i]? = some (es.getD i []):=by rw [List.getD_eq_getElem?_getD,List.getElem?_eq_getElem hi]; rfl
                obtain ⟨h1,h2⟩:=hH1.write (w':=w.setRow pl'.blk (splice vs.toList (pl'.off + i * (Entry.vec sz es true).sz + o) v.cells.toList).toArray) he1 rfl hm' (e':=.vec sz (es.set i (splice (es.getD i []) o ps)) true) ⟨rfl,rfl,rfl,rfl,by simp [Entry.cnt]⟩ (fun n hn=>setRow_other w _ _ _ hn) (by simp) rfl rfl rfl (fun H' hle=>by
                  refine ⟨fun x hx=>?_,.inr ⟨pl',_,ty,_,rfl,setRow_heap w _ vs _ ty _ hblk,?_,fun _=>⟨rfl,hF⟩,(fun q=>by cases q),?_⟩⟩
                  · rcases List.mem_or_eq_of_mem_set hx with hx | rfl
                    · exact hes x hx
                    · rw [splice_len _ _ _ (by rw [hes _ (List.mem_of_getElem? hei)]; omega)]
                      exact hes _ (List.mem_of_getElem? hei)
                  · rw [List.size_toArray,splice_len _ _ _ (by simp only [Entry.sz,hvs,Array.length_toList]; omega)]
                    exact ⟨by rw [hvs]; exact hlim.1,by rw [hvs]; exact hlim.2⟩
                  · have:=(hr.mono hle.fr hle.heap).splice (hps.mono hle.fr hle.heap) (i * sz + o)
                    rw [splice_elem es sz hes i o _ ps hei (by omega)] at this
                    rw [List.length_set]
                    simp only [Entry.sz,Nat.add_assoc] at this ⊢
                    rw [ext_splice _ _ _ _ _ (by simp only [Array.length_toList]; omega) (by simpa using hvl)]
                    exact this)
                exact ⟨_,F1,_,hrun,h1,hle1.trans h2,setRow_fr he rfl hm' (by simp),h⟩
            · exact h.elim
          · exact h.elim
        · exact h.elim
      | gone=>exact h.elim
      | mp _ _ _=>exact h.elim
      | mit _ _ _ _ _=>exact h.elim
  | _=>exact h.elim
end
end Go.Eng
