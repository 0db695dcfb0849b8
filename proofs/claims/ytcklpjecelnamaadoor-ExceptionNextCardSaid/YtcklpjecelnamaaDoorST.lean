/- Sorting, the plain law: lists that a stable sort leaves, whatever way it goes. -/
import Derived.Test.YtcklpjecelnamaaDoorPK
set_option linter.unusedVariables false
set_option linter.unusedSimpArgs false
namespace Go.Eng
structure Cmp {α : Type} (lt : α→α→Bool) : Prop where
  asym : ∀ x y,lt x y = true→lt y x = false
  trans : ∀ x y z,lt y x = false→lt z y = false→lt z x = false
section
variable {α : Type} {lt : α→α→Bool}
theorem Cmp.key (f : α→Int) : Cmp fun x y=>decide (f x < f y) :=
  ⟨fun x y h=>by simp only [decide_eq_true_eq,decide_eq_false_iff_not] at h ⊢; omega,fun x y z h1 h2=>by simp only [decide_eq_false_iff_not] at h1 h2 ⊢; omega⟩
theorem Cmp.irr (o : Cmp lt) (x : α) : lt x x = false:=by
  cases h : lt x x with
  | false=>rfl
  | true=>rw [← h]; exact o.asym x x h
theorem Cmp.le_of_lt (o : Cmp lt) {x y : α} (h : lt x y = true) : lt y x = false:=o.asym x y h
theorem Cmp.lt_le (o : Cmp lt) {x y z : α} (h1 : lt x y = true) (h2 : lt z y = false) : lt x z = true:=by
  cases h : lt x z with
  | true=>rfl
  | false=>rw [o.trans y z x h2 h] at h1; cases h1
theorem Cmp.le_lt (o : Cmp lt) {x y z : α} (h1 : lt y x = false) (h2 : lt y z = true) : lt x z = true:=by
  cases h : lt x z with
  | true=>rfl
  | false=>rw [o.trans z x y h h1] at h2; cases h2
def Srt (lt : α→α→Bool) (l : List α) : Prop:=l.Pairwise fun x y=>lt y x = false
def eqv (lt : α→α→Bool) (x y : α) : Bool:=!lt x y && !lt y x
theorem eqv_iff {x y : α} : eqv lt x y = true↔lt x y = false∧lt y x = false:=by
  unfold eqv; cases lt x y <;> cases lt y x <;> simp
structure Stb (lt : α→α→Bool) (a b : List α) : Prop where
  perm : a.Perm b
  same : ∀ x,a.filter (eqv lt x) = b.filter (eqv lt x)
theorem Stb.refl (a : List α) : Stb lt a a:=⟨.refl _,fun _=>rfl⟩
theorem Stb.of_eq {a b : List α} (h : a = b) : Stb lt a b:=h▸.refl a
theorem Stb.symm {a b : List α} (h : Stb lt a b) : Stb lt b a:=⟨h.perm.symm,fun x=>(h.same x).symm⟩
theorem Stb.trans {a b c : List α} (h : Stb lt a b) (g : Stb lt b c) : Stb lt a c:=⟨h.perm.trans g.perm,fun x=>(h.same x).trans (g.same x)⟩
theorem Stb.app {a b c d : List α} (h : Stb lt a b) (g : Stb lt c d) : Stb lt (a ++ c) (b ++ d) :=
  ⟨h.perm.append g.perm,fun x=>by rw [List.filter_append,List.filter_append,h.same x,g.same x]⟩
theorem Stb.mid {a b p q : List α} (h : Stb lt a b) : Stb lt (p ++ a ++ q) (p ++ b ++ q):=(Stb.app (.refl p) h).app (.refl q)
theorem Stb.len {a b : List α} (h : Stb lt a b) : a.length = b.length:=h.perm.length_eq
theorem Stb.mem {a b : List α} (h : Stb lt a b) {x : α} : x∈a↔x∈b:=h.perm.mem_iff
theorem Stb.swap (o : Cmp lt) {a b : List α} (h : ∀ x∈a,∀ y∈b,lt y x = true) : Stb lt (a ++ b) (b ++ a):=by
  refine ⟨List.perm_append_comm,fun z=>?_⟩
  rw [List.filter_append,List.filter_append]
  cases ha : a.filter (eqv lt z) with
  | nil=>simp
  | cons x r =>
    have hx : x∈a.filter (eqv lt z):=by rw [ha]; exact List.mem_cons_self ..
    have hb : b.filter (eqv lt z) = []:=by
      rw [List.filter_eq_nil_iff]
      intro y hy hc
      have h1:=(eqv_iff.1 (List.mem_filter.1 hx).2)
      have h2:=(eqv_iff.1 hc)
      have h3:=h x (List.mem_filter.1 hx).1 y hy
      rw [o.trans x z y h1.1 h2.2] at h3
      cases h3
    rw [hb,List.append_nil,List.nil_append]
theorem Srt.app {a b : List α} : Srt lt (a ++ b)↔Srt lt a∧Srt lt b∧∀ x∈a,∀ y∈b,lt y x = false:=List.pairwise_append
theorem Srt.nil : Srt lt ([] : List α):=List.Pairwise.nil
theorem Srt.one (x : α) : Srt lt [x]:=List.pairwise_singleton _ _
theorem Srt.cons {x : α} {l : List α} : Srt lt (x :: l)↔(∀ y∈l,lt y x = false)∧Srt lt l:=List.pairwise_cons
theorem Stb.uniq (o : Cmp lt) : ∀ {a b : List α},Srt lt a→Srt lt b→Stb lt a b→a = b
  | [],b,_,_,h=>(List.length_eq_zero_iff.1 h.len.symm).symm
  | x :: a,[],_,_,h=>by have:=h.len; simp at this
  | x :: a,y :: b,ha,hb,h=>by
    obtain ⟨a1,a2⟩:=Srt.cons.1 ha
    obtain ⟨b1,b2⟩:=Srt.cons.1 hb
    have hxy : lt y x = false:=by
      rcases List.mem_cons.1 (h.mem.2 (List.mem_cons_self ..) : y∈x :: a) with e | e
      · rw [e]; exact o.irr x
      · exact a1 y e
    have hyx : lt x y = false:=by
      rcases List.mem_cons.1 (h.mem.1 (List.mem_cons_self ..) : x∈y :: b) with e | e
      · rw [e]; exact o.irr y
      · exact b1 x e
    have hs:=h.same x
    rw [List.filter_cons_of_pos (eqv_iff.2 ⟨o.irr x,o.irr x⟩),List.filter_cons_of_pos (eqv_iff.2 ⟨hyx,hxy⟩)] at hs
    obtain ⟨rfl,_⟩:=List.cons.inj hs
    have h2 : Stb lt a b:=⟨h.perm.cons_inv,fun z=>by
      have hz:=h.same z
      by_cases hp : eqv lt z x = true
      · rw [List.filter_cons_of_pos hp,List.filter_cons_of_pos hp] at hz
        exact (List.cons.inj hz).2
      · rw [List.filter_cons_of_neg hp,List.filter_cons_of_neg hp] at hz
        exact hz⟩
    rw [Stb.uniq o a2 b2 h2]
def insL (lt : α→α→Bool) (x : α) : List α→List α
  | []=>[x]
  | y :: l=>if lt y x = true then y :: insL lt x l else x :: y :: l
def isortL (lt : α→α→Bool) : List α→List α
  | []=>[]
  | x :: l=>insL lt x (isortL lt l)
theorem insL_mem {x : α} : ∀ {l : List α} {z : α},z∈insL lt x l↔z = x∨z∈l
  | [],z=>by simp [insL]
  | y :: l,z=>by
    unfold insL
    split
    · rw [List.mem_cons,insL_mem,List.mem_cons]
      constructor
      · rintro (h | h | h) <;> simp [h]
      · rintro (h | h | h) <;> simp [h]
    · rw [List.mem_cons]
theorem insL_srt (o : Cmp lt) {x : α} : ∀ {l : List α},Srt lt l→Srt lt (insL lt x l)
  | [],_=>Srt.one x
  | y :: l,h=>by
    obtain ⟨h1,h2⟩:=Srt.cons.1 h
    unfold insL
    split
    · rename_i hy
      refine Srt.cons.2 ⟨fun z hz=>?_,insL_srt o h2⟩
      rcases insL_mem.1 hz with rfl | hz
      · exact o.le_of_lt hy
      · exact h1 z hz
    · rename_i hy
      have hy : lt y x = false:=by simpa using hy
      refine Srt.cons.2 ⟨fun z hz=>?_,h⟩
      rcases List.mem_cons.1 hz with rfl | hz
      · exact hy
      · exact o.trans x y z hy (h1 z hz)
theorem insL_stb (o : Cmp lt) {x : α} : ∀ {l : List α},Stb lt (x :: l) (insL lt x l)
  | []=>.refl _
  | y :: l=>by
    unfold insL
    split
    · rename_i hy
      have h1 : Stb lt ([x] ++ [y]) ([y] ++ [x]):=Stb.swap o fun a ha b hb=>by rw [List.mem_singleton.1 ha,List.mem_singleton.1 hb]; exact hy
      exact (h1.app (.refl l)).trans (Stb.app (.refl [y]) (insL_stb o))
    · exact .refl _
theorem isortL_srt (o : Cmp lt) : ∀ l : List α,Srt lt (isortL lt l)
  | []=>.nil
  | x :: l=>insL_srt o (isortL_srt o l)
theorem isortL_stb (o : Cmp lt) : ∀ l : List α,Stb lt l (isortL lt l)
  | []=>.refl _
  | x :: l=>(Stb.app (.refl [x]) (isortL_stb o l)).trans (insL_stb o)
theorem isortL_of (o : Cmp lt) {a b : List α} (h : Srt lt b) (g : Stb lt a b) : b = isortL lt a:=Stb.uniq o h (isortL_srt o a) (g.symm.trans (isortL_stb o a))
theorem place_srt (o : Cmp lt) {x : α} {s t : List α} (h : Srt lt (s ++ t)) (ht : ∀ y∈t,lt x y = true) (hs : ∀ y∈s,lt x y = false) : Srt lt (s ++ x :: t):=by
  obtain ⟨h1,h2,h3⟩:=Srt.app.1 h
  refine Srt.app.2 ⟨h1,Srt.cons.2 ⟨fun y hy=>o.le_of_lt (ht y hy),h2⟩,fun y hy z hz=>?_⟩
  rcases List.mem_cons.1 hz with rfl | hz
  · exact hs y hy
  · exact h3 y hy z hz
theorem last_all (o : Cmp lt) {x z : α} {s : List α} (h : Srt lt (s ++ [z])) (hz : lt x z = false) : ∀ y∈s ++ [z],lt x y = false:=by
  obtain ⟨_,_,h3⟩:=Srt.app.1 h
  intro y hy
  rcases List.mem_append.1 hy with hy | hy
  · exact o.trans y z x (h3 y hy z (List.mem_singleton.2 rfl)) hz
  · rw [List.mem_singleton.1 hy]; exact hz
theorem place_stb (o : Cmp lt) {x : α} {s t : List α} (ht : ∀ y∈t,lt x y = true) : Stb lt (s ++ t ++ [x]) (s ++ x :: t):=by
  have:=Stb.swap o (a:=t) (b:=[x]) fun y hy z hz=>by rw [List.mem_singleton.1 hz]; exact ht y hy
  rw [List.append_assoc]
  exact Stb.app (.refl s) this
theorem merge_law (o : Cmp lt) {a1 a2 b1 b2 m1 m2 : List α} (ha : Srt lt (a1 ++ a2)) (hb : Srt lt (b1 ++ b2)) (h1 : ∀ x∈a1,∀ y∈b2,lt y x = false) (h2 : ∀ x∈b1,∀ y∈a2,lt x y = true)
    (s1 : Srt lt m1) (s2 : Srt lt m2) (e1 : Stb lt (a1 ++ b1) m1) (e2 : Stb lt (a2 ++ b2) m2) : Srt lt (m1 ++ m2)∧Stb lt ((a1 ++ a2) ++ (b1 ++ b2)) (m1 ++ m2):=by
  obtain ⟨_,_,ha3⟩:=Srt.app.1 ha
  obtain ⟨_,_,hb3⟩:=Srt.app.1 hb
  constructor
  · refine Srt.app.2 ⟨s1,s2,fun x hx y hy=>?_⟩
    rcases List.mem_append.1 (e1.mem.2 hx) with hx | hx <;> rcases List.mem_append.1 (e2.mem.2 hy) with hy | hy
    · exact ha3 x hx y hy
    · exact h1 x hx y hy
    · exact o.le_of_lt (h2 x hx y hy)
    · exact hb3 x hx y hy
  · have hs : Stb lt (a2 ++ b1) (b1 ++ a2):=Stb.swap o fun x hx y hy=>h2 y hy x hx
    have e : (a1 ++ a2) ++ (b1 ++ b2) = a1 ++ (a2 ++ b1) ++ b2:=by simp
    have e' : a1 ++ (b1 ++ a2) ++ b2 = (a1 ++ b1) ++ (a2 ++ b2):=by simp
    rw [e]
    exact hs.mid.trans ((Stb.of_eq e').trans (e1.app e2))
inductive Full (lt : α→α→Bool) (k : Nat) : List α→Prop
  | nil : Full lt k []
  | cons (c r : List α) : c.length = k→Srt lt c→Full lt k r→Full lt k (c ++ r)
inductive Blk (lt : α→α→Bool) (k : Nat) : List α→Prop
  | small (c : List α) : c.length≤k→Srt lt c→Blk lt k c
  | cons (c r : List α) : c.length = k→Srt lt c→Blk lt k r→Blk lt k (c ++ r)
theorem Full.snoc {k : Nat} {d c : List α} (h : Full lt k d) (hc : c.length = k) (hs : Srt lt c) : Full lt k (d ++ c):=by
  induction h with
  | nil=>have:=Full.cons c [] hc hs .nil; rwa [List.append_nil] at this
  | cons c' r h1 h2 h3 ih=>rw [List.append_assoc]; exact .cons c' _ h1 h2 ih
theorem Full.blk {k : Nat} {d r : List α} (h : Full lt k d) (hr : Blk lt k r) : Blk lt k (d ++ r):=by
  induction h with
  | nil=>exact hr
  | cons c' r' h1 h2 h3 ih=>rw [List.append_assoc]; exact .cons c' _ h1 h2 ih
theorem Blk.srt {k : Nat} {l : List α} (h : Blk lt k l) (hl : l.length≤k) : Srt lt l:=by
  cases h with
  | small _ _ h=>exact h
  | cons c r h1 h2 h3 =>
    rw [List.length_append] at hl
    have : r = []:=List.length_eq_zero_iff.1 (by omega)
    rw [this,List.append_nil]; exact h2
theorem Blk.cut {k : Nat} {l : List α} (h : Blk lt k l) (hk : 0 < k) (hl : k≤l.length) : ∃ c r,l = c ++ r∧c.length = k∧Srt lt c∧Blk lt k r:=by
  cases h with
  | small _ h1 h2=>exact ⟨l,[],by simp,by omega,h2,.small _ (by simp) .nil⟩
  | cons c r h1 h2 h3=>exact ⟨c,r,rfl,h1,h2,h3⟩
theorem set_mid {p q : List α} {x y : α} {j : Nat} (h : j = p.length) : (p ++ x :: q).set j y = p ++ y :: q:=by
  subst h; rw [List.set_append_right _ _ (Nat.le_refl _),Nat.sub_self]; rfl
theorem swapf {p q r : List α} {x y : α} {i j : Nat} (h : i = p.length) (g : j = p.length + 1 + q.length) : ((p ++ x :: (q ++ y :: r)).set i y).set j x = p ++ y :: (q ++ x :: r):=by
  rw [set_mid h]
  have : p ++ y :: (q ++ y :: r) = (p ++ y :: q) ++ y :: r:=by simp
  rw [this,set_mid (by simp; omega)]
  simp
def ltO (lt : α→α→Bool) (a b : Option α) : Bool:=match a,b with
  | some x,some y=>lt x y
  | _,_=>false
theorem half_ok (i j : Nat) (h : i + j < 2 ^ 62) : w64 (Int.fdiv (IntKind.wrap .u64 (w64 ((i : Int) + (j : Int)))) (2 ^ (min (Int.toNat 1) 64))) = (((i + j) / 2 : Nat) : Int):=by
  rw [w64_in (n:=(i : Int) + j) (by omega) (by omega)]
  have h1 : IntKind.wrap .u64 ((i : Int) + j) = ((i + j : Nat) : Int):=by
    show ((i : Int) + j) % 18446744073709551616 = _
    omega
  rw [h1]
  have:=shrI (i + j) 1 (by decide)
  rw [show (Int.toNat 1) = Int.toNat ((1 : Nat) : Int) from rfl,this,w64_in (by omega) (by omega)]
theorem w64_sub (i j : Nat) (h : j≤i) (h2 : i < 2 ^ 62) : w64 ((i : Int) - (j : Int)) = ((i - j : Nat) : Int):=by rw [w64_in (by omega) (by omega)]; omega
theorem w64_add (i j : Nat) (h2 : i + j < 2 ^ 62) : w64 ((i : Int) + (j : Int)) = ((i + j : Nat) : Int):=by rw [w64_in (by omega) (by omega)]; omega
theorem w64_sub1 (i : Nat) (h : 1≤i) (h2 : i < 2 ^ 62) : w64 ((i : Int) - 1) = ((i - 1 : Nat) : Int):=w64_sub i 1 h h2
theorem w64_mul2 (i : Nat) (h2 : i < 2 ^ 61) : w64 (2 * (i : Int)) = ((2 * i : Nat) : Int):=by rw [w64_in (by omega) (by omega)]; omega
theorem w64_mul2' (i : Nat) (h2 : i < 2 ^ 61) : w64 ((i : Int) * 2) = ((2 * i : Nat) : Int):=by rw [w64_in (by omega) (by omega)]; omega
theorem splice_all {a b : List PC} (h : a.length = b.length) : splice a 0 b = b:=by
  simp [splice,h]
variable {c : α→List PC} {i n : Nat} {es : List (List PC)}
theorem SlR.atO {l : List α} (h : SlR i n es (l.map c)) {j : Nat} {x : α} (hx : l[j]? = some x) : List.getD es (i + j) [] = c x∧j < n∧i + j < es.length:=by
  have h1:=h.n
  have h2:=h.len
  rw [List.length_map] at h1
  have hj:=(List.getElem?_eq_some_iff.1 hx).1
  refine ⟨?_,by omega,by omega⟩
  rw [h.at (by rw [List.length_map]; exact hj),List.getElem_map,(List.getElem?_eq_some_iff.1 hx).2]
theorem SlR.two {z : Nat} (hz : ∀ x,(c x).length = z) {l : List α} (h : SlR i n es (l.map c)) {j k : Nat} {x y : α} (hx : l[j]? = some x) (hy : l[k]? = some y) :
    SlR i n (List.set (List.set es (i + j) (splice (List.getD es (i + j) []) 0 (c y))) (i + k) (splice (List.getD (List.set es (i + j) (splice (List.getD es (i + j) []) 0 (c y))) (i + k) []) 0 (c x))) (((l.set j y).set k x).map c):=by
  have e1 : splice (List.getD es (i + j) []) 0 (c y) = c y:=by rw [(h.atO hx).1]; exact splice_all (by rw [hz,hz])
  rw [e1]
  have h1 : SlR i n (List.set es (i + j) (c y)) ((l.set j y).map c):=by rw [List.map_set]; exact h.set j (c y)
  have hk : k < (l.set j y).length:=by rw [List.length_set]; exact (List.getElem?_eq_some_iff.1 hy).1
  have e2 : splice (List.getD (List.set es (i + j) (c y)) (i + k) []) 0 (c x) = c x:=by rw [(h1.atO (List.getElem?_eq_getElem hk)).1]; exact splice_all (by rw [hz,hz])
  rw [e2,List.map_set]
  exact h1.set k (c x)
theorem at_mid {p q : List α} {x : α} {j : Nat} (h : j = p.length) : (p ++ x :: q)[j]? = some x:=by
  subst h; rw [List.getElem?_append_right (Nat.le_refl _),Nat.sub_self]; rfl
theorem at_mid2 {p q r : List α} {x y : α} {j : Nat} (h : j = p.length + 1 + q.length) : (p ++ x :: (q ++ y :: r))[j]? = some y:=by
  have : p ++ x :: (q ++ y :: r) = (p ++ x :: q) ++ y :: r:=by simp
  rw [this]
  exact at_mid (by simp; omega)
theorem SlR.swapA {z : Nat} (hz : ∀ x,(c x).length = z) {p q r : List α} {x y : α} (h : SlR i n es ((p ++ x :: (q ++ y :: r)).map c)) {j k : Nat} (hj : j = p.length) (hk : k = p.length + 1 + q.length) :
    SlR i n (List.set (List.set es (i + j) (splice (List.getD es (i + j) []) 0 (c y))) (i + k) (splice (List.getD (List.set es (i + j) (splice (List.getD es (i + j) []) 0 (c y))) (i + k) []) 0 (c x))) ((p ++ y :: (q ++ x :: r)).map c):=by
  have:=h.two hz (at_mid hj) (at_mid2 hk)
  rwa [swapf hj hk] at this
theorem SlR.swapB {z : Nat} (hz : ∀ x,(c x).length = z) {p q r : List α} {x y : α} (h : SlR i n es ((p ++ x :: (q ++ y :: r)).map c)) {j k : Nat} (hj : j = p.length) (hk : k = p.length + 1 + q.length) :
    SlR i n (List.set (List.set es (i + k) (splice (List.getD es (i + k) []) 0 (c x))) (i + j) (splice (List.getD (List.set es (i + k) (splice (List.getD es (i + k) []) 0 (c x))) (i + j) []) 0 (c y))) ((p ++ y :: (q ++ x :: r)).map c):=by
  have:=h.two hz (at_mid2 hk) (at_mid hj)
  have e : ((p ++ x :: (q ++ y :: r)).set k x).set j y = p ++ y :: (q ++ x :: r):=by rw [List.set_comm _ _ (by omega),swapf hj hk]
  rwa [e] at this
theorem SlP.set {i n : Nat} {es l : List (List PC)} (h : SlP i n es l) (j : Nat) (y : List PC) : SlP i n (List.set es (i + j) y) (l.set j y) :=
  ⟨by rw [List.length_set]; exact h.len,by rw [← h.take,← List.take_set,← List.set_drop]⟩
theorem SlP.atO {l : List α} (h : SlP i n es (l.map c)) {j : Nat} {x : α} (hx : l[j]? = some x) : List.getD es (i + j) [] = c x∧j < n∧i + j < es.length:=by
  have h1:=h.n
  have h2:=h.len
  rw [List.length_map] at h1
  have hj:=(List.getElem?_eq_some_iff.1 hx).1
  refine ⟨?_,by omega,by omega⟩
  rw [h.at (by rw [List.length_map]; exact hj),List.getElem_map,(List.getElem?_eq_some_iff.1 hx).2]
theorem SlP.two {z : Nat} (hz : ∀ x,(c x).length = z) {l : List α} (h : SlP i n es (l.map c)) {j k : Nat} {x y : α} (hx : l[j]? = some x) (hy : l[k]? = some y) :
    SlP i n (List.set (List.set es (i + j) (splice (List.getD es (i + j) []) 0 (c y))) (i + k) (splice (List.getD (List.set es (i + j) (splice (List.getD es (i + j) []) 0 (c y))) (i + k) []) 0 (c x))) (((l.set j y).set k x).map c):=by
  have e1 : splice (List.getD es (i + j) []) 0 (c y) = c y:=by rw [(h.atO hx).1]; exact splice_all (by rw [hz,hz])
  rw [e1]
  have h1 : SlP i n (List.set es (i + j) (c y)) ((l.set j y).map c):=by rw [List.map_set]; exact h.set j (c y)
  have hk : k < (l.set j y).length:=by rw [List.length_set]; exact (List.getElem?_eq_some_iff.1 hy).1
  have e2 : splice (List.getD (List.set es (i + j) (c y)) (i + k) []) 0 (c x) = c x:=by rw [(h1.atO (List.getElem?_eq_getElem hk)).1]; exact splice_all (by rw [hz,hz])
  rw [e2,List.map_set]
  exact h1.set k (c x)
theorem SlP.swapA {z : Nat} (hz : ∀ x,(c x).length = z) {p q r : List α} {x y : α} (h : SlP i n es ((p ++ x :: (q ++ y :: r)).map c)) {j k : Nat} (hj : j = p.length) (hk : k = p.length + 1 + q.length) :
    SlP i n (List.set (List.set es (i + j) (splice (List.getD es (i + j) []) 0 (c y))) (i + k) (splice (List.getD (List.set es (i + j) (splice (List.getD es (i + j) []) 0 (c y))) (i + k) []) 0 (c x))) ((p ++ y :: (q ++ x :: r)).map c):=by
  have:=h.two hz (at_mid hj) (at_mid2 hk)
  rwa [swapf hj hk] at this
theorem SlP.swapB {z : Nat} (hz : ∀ x,(c x).length = z) {p q r : List α} {x y : α} (h : SlP i n es ((p ++ x :: (q ++ y :: r)).map c)) {j k : Nat} (hj : j = p.length) (hk : k = p.length + 1 + q.length) :
    SlP i n (List.set (List.set es (i + k) (splice (List.getD es (i + k) []) 0 (c x))) (i + j) (splice (List.getD (List.set es (i + k) (splice (List.getD es (i + k) []) 0 (c x))) (i + j) []) 0 (c y))) ((p ++ y :: (q ++ x :: r)).map c):=by
  have:=h.two hz (at_mid2 hk) (at_mid hj)
  have e : ((p ++ x :: (q ++ y :: r)).set k x).set j y = p ++ y :: (q ++ x :: r):=by rw [List.set_comm _ _ (by omega),swapf hj hk]
  rwa [e] at this
theorem LoopP.bsS {X : Type} {R : X→(X→Prop)→Prop} (st : Nat→Nat→X) (g : Nat→Bool) {lo hi : Nat} {x0 : X} (hx0 : x0 = st lo hi) (h0 : lo≤hi) (hn : hi < 2 ^ 59) (hm : ∀ p q : Nat,lo≤p→p≤q→q < hi→g p = true→g q = true) {A : Nat→Prop}
    (hA : ∀ s : Nat,lo≤s→s≤hi→(∀ p : Nat,lo≤p→p < s→g p = false)→(∀ p : Nat,s≤p→p < hi→g p = true)→A s)
    (step : ∀ a b : Nat,lo≤a→a < b→b≤hi→∀ N : X→Prop,(g ((a + b) / 2) = false→N (st ((a + b) / 2 + 1) b))→(g ((a + b) / 2) = true→N (st a ((a + b) / 2)))→R (st a b) N)
    (stop : ∀ s : Nat,lo≤s→s≤hi→∀ N : X→Prop,A s→R (st s s) N) : LoopP R x0:=by
  subst hx0
  refine LoopP.inv' (hi - lo) (fun d x=>∃ a b : Nat,x = st a b∧lo≤a∧a≤b∧b≤hi∧b - a + d = hi - lo∧(∀ p : Nat,lo≤p→p < a→g p = false)∧(∀ p : Nat,b≤p→p < hi→g p = true)) 0
    ⟨lo,hi,rfl,Nat.le_refl _,h0,Nat.le_refl _,rfl,fun p h1 h2=>by omega,fun p h1 h2=>by omega⟩ (Nat.zero_le _) (by omega) ?_ ?_
  · rintro d x _ hd ⟨a,b,rfl,h1,h2,h3,h4,h5,h6⟩ N hN
    refine step a b h1 (by omega) h3 N (fun hg=>?_) fun hg=>?_
    · refine hN (hi - lo - (b - ((a + b) / 2 + 1))) _ (by omega) (by omega) ⟨(a + b) / 2 + 1,b,rfl,by omega,by omega,h3,by omega,fun p p1 p2=>?_,h6⟩
      cases hp : g p with
      | false=>rfl
      | true=>rw [hm p ((a + b) / 2) p1 (by omega) (by omega) hp] at hg; cases hg
    · refine hN (hi - lo - ((a + b) / 2 - a)) _ (by omega) (by omega) ⟨a,(a + b) / 2,rfl,h1,by omega,by omega,by omega,h5,fun p p1 p2=>?_⟩
      exact hm ((a + b) / 2) p (by omega) p1 p2 hg
  · rintro x ⟨a,b,rfl,h1,h2,h3,h4,h5,h6⟩ N
    obtain rfl : a = b:=by omega
    exact stop a h1 h3 N (hA a h1 h3 h5 h6)
theorem parted (A : List α) {k : Nat} (hk : k≤A.length) : ∃ A1 A2,A = A1 ++ A2∧A1.length = k∧(∀ y∈A1,∃ q,q < k∧A[q]? = some y)∧∀ y∈A2,∃ q,k≤q∧q < A.length∧A[q]? = some y:=by
  refine ⟨A.take k,A.drop k,(List.take_append_drop k A).symm,by rw [List.length_take]; omega,fun y hy=>?_,fun y hy=>?_⟩
  · obtain ⟨q,hq,rfl⟩:=List.getElem_of_mem hy
    rw [List.length_take] at hq
    exact ⟨q,by omega,by rw [List.getElem_take,List.getElem?_eq_getElem (by omega)]⟩
  · obtain ⟨q,hq,rfl⟩:=List.getElem_of_mem hy
    rw [List.length_drop] at hq
    exact ⟨k + q,by omega,by omega,by rw [List.getElem_drop,List.getElem?_eq_getElem (by omega)]⟩
theorem Srt.le {l : List α} (h : Srt lt l) {p q : Nat} {x y : α} (hpq : p < q) (hx : l[p]? = some x) (hy : l[q]? = some y) : lt y x = false:=by
  obtain ⟨hp,rfl⟩:=List.getElem?_eq_some_iff.1 hx
  obtain ⟨hq,rfl⟩:=List.getElem?_eq_some_iff.1 hy
  exact List.pairwise_iff_getElem.1 h p q hp hq hpq
theorem Srt.le' (o : Cmp lt) {l : List α} (h : Srt lt l) {p q : Nat} {x y : α} (hpq : p≤q) (hx : l[p]? = some x) (hy : l[q]? = some y) : lt y x = false:=by
  rcases Nat.lt_or_ge p q with h1 | h1
  · exact h.le h1 hx hy
  · obtain rfl : p = q:=by omega
    rw [hx] at hy
    obtain rfl:=Option.some.inj hy
    exact o.irr x
end
end Go.Eng
