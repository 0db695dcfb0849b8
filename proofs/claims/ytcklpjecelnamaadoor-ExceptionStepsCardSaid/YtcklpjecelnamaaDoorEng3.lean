/- The engine: a small machine over pure values, and that what it walks the model walks. -/
import Derived.Test.YtcklpjecelnamaaDoorEng2
import Derived.SizedLaws
import Derived.ChangeArms
import Derived.Deep.Slices
import Derived.WideShapes
import Derived.OpenShut
import Derived.Below
import Derived.Shelf.SortM.Plain
import Derived.Shelf.SortM.SortNone
set_option linter.unusedVariables false
set_option linter.unusedSimpArgs false
namespace Go.Eng
open Go.RowKit
abbrev old (w : World) : Nat→Prop:=fun n=>n < w.heap.size
def Rd {α : Type} (P : Program) (t : TypeId) (c : α→List PC) (ok : α→Prop) : Prop :=
  ∀ (H : Type) (enc : TypeId×Value→H) (w : World) (sp : Nat→Bool) (held : Bool) (fuel : Nat) (cs : List Value) (y : DataW H×List MemPlace),
    DataW.trod enc P w 0 sp held fuel t cs = some y→(∀ n,n∈y.1.weights P t→n≤reachBytes)→∃ x,RepCs (old w) w (c x) cs∧ok x
theorem Rd.int {P : Program} {t : TypeId} {k : IntKind} (ht : P.underlying t = some (.int k)) : Rd P t (fun n=>[.c (.int k n)]) (fun n=>(Lit.int k n).wf = true):=by
  intro H enc w sp held fuel cs y hy _
  cases fuel with
  | zero=>simp [DataW.trod] at hy
  | succ n =>
    unfold DataW.trod at hy
    rw [ht] at hy
    split at hy <;> simp_all
    exact ⟨_,⟨.c _ rfl,trivial⟩,hy.1.2⟩
theorem Rd.bool {P : Program} {t : TypeId} (ht : P.underlying t = some .bool) : Rd P t (fun b=>[.c (.bool b)]) (fun _=>True):=by
  intro H enc w sp held fuel cs y hy _
  cases fuel with
  | zero=>simp [DataW.trod] at hy
  | succ n =>
    unfold DataW.trod at hy
    rw [ht] at hy
    split at hy <;> simp_all
    rename_i b
    cases b
    · exact .inl ⟨.c _ rfl,trivial⟩
    · exact .inr ⟨.c _ rfl,trivial⟩
theorem Rd.string {P : Program} {t : TypeId} (ht : P.underlying t = some .string) : Rd P t (fun s=>[.c (.string s)]) (fun s=>s.size≤140737488351232):=by
  intro H enc w sp held fuel cs y hy hw
  cases fuel with
  | zero=>simp [DataW.trod] at hy
  | succ n =>
    unfold DataW.trod at hy
    rw [ht] at hy
    split at hy <;> simp_all
    rename_i s
    obtain ⟨_,rfl⟩:=hy
    refine ⟨s,⟨.c _ rfl,trivial⟩,?_⟩
    have:=hw s.size (by simp [DataW.weights])
    simpa [reachBytes] using this
def RdP {β : Type} (P : Program) (fs : List Field) (o sz : Nat) (c : β→List PC) (ok : β→Prop) : Prop :=
  ∀ (H : Type) (enc : TypeId×Value→H) (w : World) (sp : Nat→Bool) (held : Bool) (fuel : Nat) (cs : List Value) (ys : List (DataW H×List MemPlace)),
    (∀ (i : Nat) (f : Field),fs[i]? = some f→∃ y,ys[i]? = some y∧DataW.trod enc P w 0 sp held fuel f.type ((cs.drop f.offset).take (P.cellsOf f.type)) = some y∧(∀ n,n∈y.1.weights P f.type→n≤reachBytes)) →
    cs.length = o + sz→∃ x,RepCs (old w) w (c x) (cs.drop o)∧ok x
theorem RdP.one {β : Type} {P : Program} {f : Field} {o sz : Nat} {c : β→List PC} {ok : β→Prop} (ho : f.offset = o) (hc : P.cellsOf f.type = sz) (h : Rd P f.type c ok) : RdP P [f] o sz c ok:=by
  intro H enc w sp held fuel cs ys hy hl
  obtain ⟨y,_,h2,h3⟩:=hy 0 f rfl
  obtain ⟨x,hx,hok⟩:=h H enc w sp held fuel _ y h2 h3
  rw [ho,hc,List.take_of_length_le (by rw [List.length_drop]; omega)] at hx
  exact ⟨x,hx,hok⟩
theorem RdP.cons {α β : Type} {P : Program} {f : Field} {fs : List Field} {o sa sb : Nat} {a : α→List PC} {b : β→List PC} {oka : α→Prop} {okb : β→Prop} (ho : f.offset = o) (hc : P.cellsOf f.type = sa)
    (h : Rd P f.type a oka) (hs : RdP P fs (o + sa) sb b okb) : RdP P (f :: fs) o (sa + sb) (fun x : α×β=>a x.1 ++ b x.2) (fun x=>oka x.1∧okb x.2):=by
  intro H enc w sp held fuel cs ys hy hl
  obtain ⟨y,_,h2,h3⟩:=hy 0 f rfl
  obtain ⟨x,hx,hok⟩:=h H enc w sp held fuel _ y h2 h3
  rw [ho,hc] at hx
  obtain ⟨z,hz,hokz⟩:=hs H enc w sp held fuel cs (ys.drop 1) (fun i g hg=>by
    obtain ⟨y',k1,k2,k3⟩:=hy (i + 1) g (by simpa using hg)
    exact ⟨y',by rw [List.getElem?_drop,Nat.add_comm]; exact k1,k2,k3⟩) (by omega)
  refine ⟨(x,z),?_,hok,hokz⟩
  have e : cs.drop o = (cs.drop o).take sa ++ cs.drop (o + sa):=by
    rw [← List.drop_drop]
    exact (List.take_append_drop _ _).symm
  rw [e]
  exact RepCs.append hx hz
theorem Rd.struct {β γ : Type} {P : Program} {t : TypeId} {fs : Array Field} {sz : Nat} {c : β→List PC} {ok : β→Prop} {c' : γ→List PC} {ok' : γ→Prop} (ht : P.underlying t = some (.struct fs)) (h : RdP P fs.toList 0 sz c ok) (hc : P.cellsOf t = sz)
    (g : β→γ) (hg : ∀ b,c' (g b) = c b) (hok : ∀ b,ok b→ok' (g b)) : Rd P t c' ok':=by
  intro H enc w sp held fuel cs y hy hw
  obtain ⟨xs,n,_,rfl,hl,hxl,hx⟩:=DataW.trod_struct ht hy
  obtain ⟨x,hK,hk⟩:=h H enc w sp held n cs xs (fun i q hq=>by
    have hi : i < fs.toList.length:=(List.getElem?_eq_some_iff.1 hq).1
    have hi2 : i < xs.length:=by rw [hxl]; simpa using hi
    have e:=hx i q (by simpa using hq)
    rw [List.getElem?_eq_getElem hi2] at e
    refine ⟨xs[i],List.getElem?_eq_getElem hi2,e,fun m hm=>hw m ?_⟩
    have hqq:=DataW.weights_mem_each (P:=P) (ts:=fs.toList.map (·.type)) (ds:=xs.map (·.1)) (j:=i) (t:=q.type) (d:=(xs[i]).1) (by rw [List.getElem?_map,hq]; rfl) (by rw [List.getElem?_map,List.getElem?_eq_getElem hi2]; rfl) m hm
    simpa [DataW.weights,ht] using hqq) (by omega)
  exact ⟨g x,by rw [hg]; simpa using hK,hok x hk⟩
theorem mem_weightsAll {H : Type} {P : Program} {e : TypeId} : ∀ {ds : List (DataW H)} {j : Nat} {d : DataW H},ds[j]? = some d→∀ n∈d.weights P e,n∈DataW.weightsAll P e ds
  | d0 :: ds,0,d,hd,n,hn=>by
    simp only [List.getElem?_cons_zero,Option.some.injEq] at hd
    subst hd
    simp only [DataW.weightsAll,List.mem_append]
    exact Or.inl hn
  | d0 :: ds,j + 1,d,hd,n,hn=>by
    simp only [List.getElem?_cons_succ] at hd
    simp only [DataW.weightsAll,List.mem_append]
    exact Or.inr (mem_weightsAll hd n hn)
  | [],j,d,hd,n,hn=>by simp at hd
theorem cells_at {w : World} {a : Addr} {n : Nat} {cs : List Value} (h : w.cells? 0 a n = some cs) : cs.length = n∧∀ i u,cs[i]? = some u→w.cell? (a.add i) = some u:=by
  unfold World.cells? at h
  rw [if_pos (Nat.zero_le _)] at h
  have hl : cs.length = n:=by simpa using mapM_some_length h
  refine ⟨hl,fun i u hu=>?_⟩
  have hi : i < n:=by
    have:=(List.getElem?_eq_some_iff.1 hu).1
    omega
  have:=mapM_some_get h i i (by rw [List.getElem?_range hi])
  rw [this,hu]
theorem add_zero' (a : Addr) : a.add 0 = a:=by unfold Addr.add; rw [if_pos rfl]
theorem rep_slice {α : Type} {w : World} {a : Addr} {len cap sz : Nat} {c : α→List PC} {ok : α→Prop} (hlc : len≤cap) (hz : 0 < sz)
    (hall : ∀ i,i < len→∃ (x : α) (us : List Value),w.cells? 0 (a.add (i * sz)) sz = some us∧RepCs (old w) w (c x) us∧ok x) :
    ∃ xs : List α,RepC (old w) w (.sl sz (xs.map c) false) (.slice (some a) len cap)∧xs.length = len∧∀ x∈xs,ok x:=by
  classical
  let f : Fin len→α:=fun i=>(hall i.1 i.2).choose
  let us : Fin len→List Value:=fun i=>(hall i.1 i.2).choose_spec.choose
  have hf : ∀ i : Fin len,w.cells? 0 (a.add (i.1 * sz)) sz = some (us i)∧RepCs (old w) w (c (f i)) (us i)∧ok (f i):=fun i=>(hall i.1 i.2).choose_spec.choose_spec
  have hlen : ((List.ofFn f).map c).length = len:=by rw [List.length_map,List.length_ofFn]
  have hget : ∀ i e,((List.ofFn f).map c)[i]? = some e→∃ hi : i < len,e = c (f ⟨i,hi⟩):=fun i e he=>by
    have hi : i < len:=by
      have:=(List.getElem?_eq_some_iff.1 he).1
      omega
    refine ⟨hi,?_⟩
    rw [List.getElem?_map,List.getElem?_eq_getElem (by rw [List.length_ofFn]; exact hi),List.getElem_ofFn] at he
    exact (Option.some.inj he).symm
  refine ⟨List.ofFn f,?_,List.length_ofFn,fun x hx=>?_⟩
  · have key : ∀ i e j x,((List.ofFn f).map c)[i]? = some e→e[j]? = some x→∃ hi : i < len,∃ u,(us ⟨i,hi⟩)[j]? = some u∧w.cell? (a.add (i * sz + j)) = some u∧RepC (old w) w x u:=fun i e j x he hx=>by
      obtain ⟨hi,rfl⟩:=hget i e he
      obtain ⟨h1,h2,_⟩:=hf ⟨i,hi⟩
      obtain ⟨u,hu,hr⟩:=h2.get hx
      have h3:=(cells_at h1).2 j u hu
      exact ⟨hi,u,hu,by rw [← Go.Deep.add_add]; exact h3,hr⟩
    have hspot : len≠0→a.spot = none:=fun h0=>by
      obtain ⟨h1,h2,_⟩:=hf ⟨0,by omega⟩
      obtain ⟨h3,h4⟩:=cells_at h1
      have hu : (us ⟨0,by omega⟩)[0]? = some ((us ⟨0,by omega⟩)[0]'(by omega)):=List.getElem?_eq_getElem (by omega)
      have:=World.cell?_spot (h4 0 _ hu)
      rwa [Nat.zero_mul,add_zero',add_zero'] at this
    have h:=RepC.sl (F:=old w) (w:=w) sz ((List.ofFn f).map c) false a cap (fun i j=>if hi : i < len then (us ⟨i,hi⟩).getD j undef else undef) ?_ (by omega) (fun h=>by cases h) ?_ ?_ ?_
    · rw [hlen] at h; exact h
    · rcases Nat.eq_zero_or_pos len with h0 | h0
      · exact .inl (List.eq_nil_of_length_eq_zero (by omega))
      · exact .inr (hspot (by omega))
    · intro e he
      obtain ⟨i,hi,rfl⟩:=List.getElem_of_mem he
      obtain ⟨hi2,e2⟩:=hget i _ (List.getElem?_eq_getElem hi)
      rw [e2]
      obtain ⟨h1,h2,_⟩:=hf ⟨i,hi2⟩
      rw [h2.length]; exact (cells_at h1).1
    · intro i e j x he hx
      obtain ⟨hi,u,hu,hc,hr⟩:=key i e j x he hx
      have hsp:=hspot (by omega)
      have ea : a.add (i * sz + j) = ⟨a.block,a.off + i * sz + j,none⟩:=by
        obtain ⟨b,o,s⟩:=a
        simp only at hsp
        subst hsp
        rw [add_none,Nat.add_assoc]
      rw [ea] at hc
      refine ⟨World.block_lt_of_cell? w ⟨a.block,a.off + i * sz + j,none⟩ hc,?_⟩
      rw [hc,dif_pos hi,List.getD_eq_getElem?_getD,hu]; rfl
    · intro i e j x he hx
      obtain ⟨hi,u,hu,hc,hr⟩:=key i e j x he hx
      rw [dif_pos hi,List.getD_eq_getElem?_getD,hu]; exact hr
  · rw [List.mem_ofFn] at hx
    obtain ⟨i,rfl⟩:=hx
    exact (hf i).2.2
theorem Rd.slice {α : Type} {P : Program} {t e : TypeId} {c : α→List PC} {ok : α→Prop} {B sz : Nat} (ht : P.underlying t = some (.slice e)) (hc : P.cellsOf e = sz) (hz : 0 < sz) (hB : P.bytesOf e = B) (h : Rd P e c ok) :
    Rd P t (fun xs : List α=>[.sl sz (xs.map c) false]) (fun xs=>xs.length * B≤140737488351232∧∀ x∈xs,ok x):=by
  intro H enc w sp held fuel cs y hy hw
  rcases DataW.trod_slice ht hy with ⟨rfl,rfl⟩ | ⟨a,len,cap,elems,rest,n,_,rfl,rfl,hb,hl,hm,hlen,hel,_,_⟩
  · exact ⟨[],⟨.nil _ _,trivial⟩,by simp,by simp⟩
  · have hsz:=hw ((elems.map (·.1)).length + (rest.map (·.1)).length |> (· * P.bytesOf e)) (by simp [DataW.weights,ht])
    simp only [List.length_map,hB,reachBytes] at hsz
    have hall : ∀ i,i < len→∃ (x : α) (us : List Value),w.cells? 0 (a.add (i * sz)) sz = some us∧RepCs (old w) w (c x) us∧ok x:=by
      intro i hi
      have hi2 : i < elems.length:=by omega
      have e1:=hel i hi
      rw [List.getElem?_eq_getElem hi2] at e1
      obtain ⟨us,h1,h2⟩:=Option.bind_eq_some_iff.1 e1
      obtain ⟨x,hx,hok⟩:=h H enc w sp held n us _ h2 (fun m hm2=>hw m (by
        have:=mem_weightsAll (P:=P) (e:=e) (ds:=elems.map (·.1)) (j:=i) (d:=(elems[i]).1) (by rw [List.getElem?_map,List.getElem?_eq_getElem hi2]; rfl) m hm2
        simp only [DataW.weights,ht,List.mem_cons,List.mem_append]
        exact Or.inr (Or.inl this)))
      rw [hc] at h1
      exact ⟨x,us,h1,hx,hok⟩
    obtain ⟨xs,h1,h2,h3⟩:=rep_slice hl hz hall
    exact ⟨xs,⟨h1,trivial⟩,by rw [h2]; exact Nat.le_trans (Nat.mul_le_mul_right _ (by omega)) hsz,h3⟩
theorem Rd.arg {α : Type} {P : Program} {t : TypeId} {c : α→List PC} {ok : α→Prop} (h : Rd P t c ok) {H : Type} {enc : TypeId×Value→H} {w : World} {sp : Nat→Bool} {held : Bool} {v : Value} {y : DataW H} {ps : List MemPlace}
    (hr : DataW.Trod enc P w 0 sp held t v y ps) {ts : List TypeId} {ds : List (DataW H)} (hsz : (DataW.weightsEach P ts ds).all (·≤reachBytes) = true) {j : Nat} (ht : ts[j]? = some t) (hd : ds[j]? = some y) :
    ∃ x,RepCs (old w) w (c x) v.cells.toList∧ok x:=by
  obtain ⟨fuel,hf⟩:=hr
  refine h H enc w sp held fuel _ _ hf (fun n hn=>?_)
  have:=List.all_eq_true.1 hsz _ (DataW.weights_mem_each ht hd n hn)
  simpa using this
theorem heap_start (w : World) : HeapOk (baseOf (old w) [] [] w) (old w) [] [] w :=
  ⟨rfl,fun b e h=>by simp at h,fun b c e f pl ql hne h=>by simp at h,rfl,rfl,rfl,Nat.le_refl _,fun n _ _=>rfl,fun b e pl h=>by simp at h,fun _ h=>h,fun n h=>.inl h,fun n h=>h,fun b e hb=>by simp [baseOf] at hb,by simp [baseOf]⟩
theorem run_of {P : Program} {G : Nat→Option (List PC)} {g : FuncId} {f : List TV→List Entry→(TV→List Entry→Prop)→Prop} (hF : FnOk P G g f) {w : World} {args : List TV} {vs : Array Value} (hG : GlobOk G (old w) w) (hr : RepVs (old w) [] [] w args vs.toList)
    (h : f args [] fun r _=>r = B true) : Calls P g vs w fun e w'=>e = .returned (.bool true)∧Below w.heap.size w w':=by
  obtain ⟨_,hH⟩:=hF args [] _ h
  refine (hH (old w) [] w vs (heap_start w) hG hr).mono fun e w' ⟨v,F',μ',res,H',h1,h2,h3,h4⟩=>?_
  subst h4
  have h3 : RepC F' w' (.c (.bool true)) v:=h3
  cases h3
  exact ⟨h1,h2.os,h2.tape,h2.output,h2.size,fun k hk=>h2.block k hk fun hc=>by
    obtain ⟨b,e,pl,q,_⟩:=hc
    simp at q⟩
end Go.Eng
namespace Go.Eng
open Go.RowKit Go.Shelf Go.Proofs
abbrev zc (z : Int) : List PC:=[PC.c (.int .i64 z)]
def sortD (i n : Nat) (es : List (List PC)) (k : List (List PC)→Prop) : Prop :=
  ∃ l : List Int,(es.drop i).take n = l.map zc∧l.length = n∧n < 4611686018427387904∧k (es.take i ++ ((l.mergeSort fun x y=>decide (x≤y)).map zc ++ es.drop (i + n)))
section
variable {P : Program} {A : Base} {F F' : Nat→Prop} {μ μ' : List (Option Place)} {H H' : List Entry} {w w' : World}
theorem HeapOk.grow (hH : HeapOk A F μ H w) (hw : ∀ n,n < w.heap.size→w'.heap[n]? = w.heap[n]?) (hs : w.heap.size≤w'.heap.size) (hos : w'.os = w.os) (htape : w'.tape = w.tape) (hout : w'.output = w.output) :
    HeapOk A F μ H w'∧Le F μ H w F μ H w':=by
  have hle : Le F μ H w F μ H w':=⟨fun _ h=>h,fun n hn=>hw n (hH.frlt n hn),Nat.le_refl _,fun b e' hb he hl=>⟨e',he,hl,rfl,rfl,Nat.le_refl _,rfl⟩⟩
  exact ⟨⟨hH.len,fun b e he=>EntOk.step hle (fun pl hpl ho=>⟨hw _ (hH.blk he (by cases e <;> first | rfl | cases ho) (getD_some hpl)),id⟩) (hH.ent b e he),hH.dist,hos.trans hH.os,htape.trans hH.tape,hout.trans hH.output,Nat.le_trans hH.size hs,
    fun n hn hno=>(hw n (Nat.lt_of_lt_of_le hn hH.size)).trans (hH.block n hn hno),hH.own,hH.fr0,hH.fr1,fun n hn=>Nat.lt_of_lt_of_le (hH.frlt n hn) hs,hH.held,hH.mle⟩,hle⟩
theorem putCells_splice {cur : Array Value} {off : Nat} {d : List Int} (h : off + d.length≤cur.size) :
    (Sort.putCells (Value.int .i64) off d.toArray cur).toList = splice cur.toList off (d.map (Value.int .i64)):=by
  unfold Sort.putCells splice
  apply List.ext_getElem?
  intro k
  simp only [Array.getElem?_toList,Array.getElem?_mapIdx,List.size_toArray]
  rcases Nat.lt_or_ge k off with h1 | h1
  · rw [List.getElem?_append_left (by simp; omega),List.getElem?_take_of_lt h1]
    have : k < cur.size:=by omega
    rw [Array.getElem?_eq_getElem this]
    simp only [Option.map_some]
    rw [if_neg (by omega)]
    simp [this]
  · rw [List.getElem?_append_right (by simp; omega)]
    have e : (cur.toList.take off).length = off:=by simp; omega
    rw [e]
    rcases Nat.lt_or_ge k (off + d.length) with h2 | h2
    · rw [List.getElem?_append_left (by simp; omega)]
      have : k < cur.size:=by omega
      rw [Array.getElem?_eq_getElem this]
      simp only [Option.map_some]
      rw [if_pos (by omega)]
      have h3 : k - off < d.length:=by omega
      rw [List.getElem?_map,List.getElem?_eq_getElem h3]
      simp [getElem!_pos,h3]
    · rw [List.getElem?_append_right (by simp; omega)]
      simp only [List.length_map,List.getElem?_drop,Array.getElem?_toList]
      rw [show off + d.length + (k - off - d.length) = k by omega]
      cases hk : cur[k]? with
      | none=>rfl
      | some x =>
        simp only [Option.map_some]
        rw [if_neg (by omega)]
theorem RepCs.zs {F : Nat→Prop} {w : World} : ∀ (l : List Int),RepCs F w (l.map zc).flatten (l.map (Value.int .i64))
  | []=>trivial
  | z :: l=>⟨.c _ rfl,RepCs.zs l⟩
theorem RepCs.zs_inv {F : Nat→Prop} {w : World} : ∀ {l : List Int} {vs : List Value},RepCs F w (l.map zc).flatten vs→vs = l.map (Value.int .i64)
  | [],[],_=>rfl
  | [],_ :: _,h=>h.elim
  | z :: l,[],h=>h.elim
  | z :: l,v :: vs,h=>by
    obtain ⟨h1,h2⟩:=h
    cases h1
    rw [RepCs.zs_inv h2]
    rfl
theorem flat_take {es : List (List PC)} (h : ∀ x∈es,x.length = 1) : ∀ (n : Nat),(es.take n).flatten = es.flatten.take n:=by
  induction es with
  | nil=>simp
  | cons x r ih =>
    intro n
    cases n with
    | zero=>simp
    | succ n =>
      have h1:=h x (by simp)
      match x,h1 with
      | [a],_=>simp [ih (fun y hy=>h y (by simp [hy])) n]
theorem flat_drop {es : List (List PC)} (h : ∀ x∈es,x.length = 1) : ∀ (n : Nat),(es.drop n).flatten = es.flatten.drop n:=by
  induction es with
  | nil=>simp
  | cons x r ih =>
    intro n
    cases n with
    | zero=>simp
    | succ n =>
      have h1:=h x (by simp)
      match x,h1 with
      | [a],_=>simp [ih (fun y hy=>h y (by simp [hy])) n]
theorem flat_len1 : ∀ {es : List (List PC)},(∀ x∈es,x.length = 1)→es.flatten.length = es.length
  | [],_=>rfl
  | x :: r,h=>by
    rw [List.flatten_cons,List.length_append,List.length_cons,h x (by simp),flat_len1 fun y hy=>h y (by simp [hy])]
    omega
theorem splice_mid {α : Type} {a s : List α} {o i n N : Nat} (hs : s.length = n) (h1 : i + n≤N) (h2 : o + N≤a.length) :
    ((splice a (o + i) s).drop o).take N = ((a.drop o).take N).take i ++ (s ++ ((a.drop o).take N).drop (i + n)):=by
  unfold splice
  rw [hs,List.drop_append_of_le_length (by simp; omega),List.drop_take,show o + i - o = i by omega]
  have e1 : ((a.drop o).take i).length = i:=by simp; omega
  have e2 : ((a.drop o).take i).take N = (a.drop o).take i:=List.take_of_length_le (by omega)
  have e3 : s.take (N - i) = s:=List.take_of_length_le (by omega)
  rw [List.take_append,e1,List.take_append,hs,e2,e3,List.take_take,Nat.min_eq_left (by omega),List.drop_take,List.drop_drop]
  rw [show o + i + n = o + (i + n) by omega,show N - i - n = N - (i + n) by omega]
theorem sort_ok {ρ : Ren} (Ly : SlLaysM.n5 P ρ) {G : Nat→Option (List PC)} {i n : Nat} {es : List (List PC)} {K : TV→List Entry→Prop} (h : sortD i n es fun es'=>K undefT [.vec 1 es' true]) :
    Go.Eng.Holds P G (ρ.f 5) [.w (.one (.ref 0 i n))] [.vec 1 es true] K:=by
  intro F μ w vs hH hG hv
  obtain ⟨l,hl,hln,hlt,hK⟩:=h
  have hv1 : ∃ u,vs = #[u]∧RefOk μ [.vec 1 es true] 0 i n u:=by
    match vs with
    | ⟨[]⟩=>exact hv.elim
    | ⟨[u]⟩=>exact ⟨u,rfl,hv.1⟩
    | ⟨_ :: _ :: _⟩=>exact hv.2.elim
  obtain ⟨u,rfl,_,base,cap,rfl,hcap,href⟩:=hv1
  obtain ⟨hin,hor⟩:=href 1 es true rfl
  have hls : (l.mergeSort fun x y=>decide (x≤y)).length = n:=by rw [List.length_mergeSort,hln]
  rcases Nat.eq_zero_or_pos n with rfl | hn
  · have hl0 : l = []:=List.eq_nil_of_length_eq_zero hln
    subst hl0
    refine (AnyM.slices_Sort_int_none Ly base cap w).mono ?_
    rintro e w' ⟨rfl,rfl⟩
    refine ⟨_,F,μ,undefT,_,rfl,hH,⟨#[],rfl,trivial⟩,?_⟩
    have : es.take i ++ ((List.mergeSort [] fun (x y : Int)=>decide (x≤y)).map zc ++ es.drop (i + 0)) = es:=by simp
    rw [this] at hK
    exact hK
  · rcases hor with rfl | ⟨pl,hmu,rfl,hlim⟩
    · omega
    · obtain ⟨hes,hent⟩:=hH.ent 0 _ rfl
      rcases hent with ⟨hm,_⟩ | ⟨pl',cs,ty,fz,hm,hb,⟨hsz,hof⟩,hfz,_,hrep⟩
      · rw [List.getD_eq_getElem?_getD,hmu] at hm; cases hm
      · obtain rfl : pl = pl':=by
          rw [List.getD_eq_getElem?_getD,hmu] at hm
          simpa using hm
        obtain ⟨rfl,hnF⟩:=hfz rfl
        rw [Nat.mul_one] at hlim hrep
        have hfl:=hrep.length
        have hflen:=flat_len1 hes
        have hroom : pl.off + es.length≤cs.size:=by
          have hfl' : es.flatten.length = min es.length (cs.size - pl.off):=by simpa using hfl
          omega
        have hmid : ((cs.toList.drop (pl.off + i)).take n) = l.map (Value.int .i64):=by
          refine RepCs.zs_inv (F:=F) (w:=w) ?_
          rw [← hl]
          have h1 : RepCs F w ((es.flatten.drop i).take n) ((((cs.toList.drop pl.off).take es.length).drop i).take n):=(hrep.drop i).take n
          rw [flat_take (fun x hx=>hes x (List.mem_of_mem_drop hx)),flat_drop hes]
          have h2 : (((cs.toList.drop pl.off).take es.length).drop i).take n = (cs.toList.drop (pl.off + i)).take n:=by
            rw [List.drop_take,List.drop_drop,List.take_take]
            congr 1
            omega
          rw [h2] at h1
          exact h1
        have hHo : Sort.Holds (Value.int .i64) w pl.blk (pl.off + i * 1) l.toArray:=by
          intro j hj
          have hj : j < l.length:=by simpa using hj
          rw [Nat.mul_one]
          have h1 : ((cs.toList.drop (pl.off + i)).take n)[j]? = some (.int .i64 l[j]):=by rw [hmid]; simp [hj]
          rw [List.getElem?_take_of_lt (by omega),List.getElem?_drop,Array.getElem?_toList] at h1
          refine ⟨?_,?_⟩
          · unfold World.cell?
            simp only [hb,Option.isSome_none,Bool.false_eq_true,if_false]
            rw [h1]
            simp [getElem!_pos,hj]
          · unfold World.frozen?
            simp [hb]
        have hblk : pl.blk < w.heap.size:=(Array.getElem?_eq_some_iff.1 hb).1
        have cS:=AnyM.slices_Sort_int Ly pl.blk (pl.off + i * 1) cap l w hHo hblk (by omega)
        rw [hln] at cS
        refine cS.mono ?_
        rintro e w' ⟨rfl,m,os,rfl⟩
        generalize hsd : (l.mergeSort fun x y=>decide (x≤y)) = s at hK hls
        rw [Nat.mul_one]
        have hcells : (Sort.putRow (Value.int .i64) (Sort.ahead w m) pl.blk (pl.off + i) s.toArray).heap[pl.blk]? = some (.cells (Sort.putCells (Value.int .i64) (pl.off + i) s.toArray cs) ty (0,0)):=by
          show (w.heap.modify pl.blk _)[pl.blk]? = _
          rw [Array.getElem?_modify,if_pos rfl,hb]
          rfl
        have hoth : ∀ k,k≠pl.blk→(Sort.putRow (Value.int .i64) (Sort.ahead w m) pl.blk (pl.off + i) s.toArray).heap[k]? = w.heap[k]?:=fun k hk=>by
          show (w.heap.modify pl.blk _)[k]? = _
          rw [Array.getElem?_modify,if_neg (fun q=>hk q.symm)]
        have hput : (Sort.putCells (Value.int .i64) (pl.off + i) s.toArray cs).toList = splice cs.toList (pl.off + i) (s.map (Value.int .i64)):=putCells_splice (by omega)
        obtain ⟨p1,p2⟩:=hH.write (w':=Sort.putRow (Value.int .i64) (Sort.ahead w m) pl.blk (pl.off + i) s.toArray) (b:=0) rfl rfl hmu (e':=.vec 1 (es.take i ++ (s.map zc ++ es.drop (i + n))) true) ⟨rfl,rfl,rfl,rfl,by simp [Entry.cnt]; omega⟩ hoth (by show (w.heap.modify _ _).size = _; simp) rfl rfl rfl (fun H' hle=>by
          refine ⟨fun x hx=>?_,.inr ⟨pl,_,ty,(0,0),rfl,hcells,⟨?_,?_⟩,fun _=>⟨rfl,hnF⟩,(fun h=>by cases h),?_⟩⟩
          · rcases List.mem_append.1 hx with h | h
            · exact hes x (List.mem_of_mem_take h)
            · rcases List.mem_append.1 h with h | h
              · obtain ⟨z,_,rfl⟩:=List.mem_map.1 h
                rfl
              · exact hes x (List.mem_of_mem_drop h)
          · rw [← Array.length_toList,hput]
            have : (splice cs.toList (pl.off + i) (s.map (Value.int .i64))).length = cs.toList.length:=splice_len _ _ _ (by simp; omega)
            rw [this,Array.length_toList]
            exact hsz
          · rw [← Array.length_toList,hput]
            have : (splice cs.toList (pl.off + i) (s.map (Value.int .i64))).length = cs.toList.length:=splice_len _ _ _ (by simp; omega)
            rw [this,Array.length_toList]
            exact hof
          · rw [hput,Nat.mul_one]
            have e1 : (es.take i ++ (s.map zc ++ es.drop (i + n))).length = es.length:=by simp; omega
            rw [e1,List.flatten_append,List.flatten_append,flat_take hes,flat_drop hes]
            have e2:=splice_mid (a:=cs.toList) (s:=s.map (Value.int .i64)) (o:=pl.off) (i:=i) (n:=n) (N:=es.length) (by simpa using hls) hin (by rw [Array.length_toList]; exact hroom)
            rw [e2]
            exact ((hrep.mono hle.fr hle.heap).take i).append ((RepCs.zs s).append ((hrep.mono hle.fr hle.heap).drop (i + n))))
        obtain ⟨q1,q2⟩:=p1.grow (w':=Sort.grow (Sort.putRow (Value.int .i64) (Sort.ahead w m) pl.blk (pl.off + i) s.toArray) os) (fun k hk=>by
            show (_ ++ os)[k]? = _
            rw [Array.getElem?_append_left hk]) (by simp) rfl rfl rfl
        exact ⟨_,F,μ,undefT,_,rfl,q1,⟨#[],rfl,trivial⟩,hK⟩
end
end Go.Eng
