/- How arguments that are read as data are told as the printed functions tell them: whole numbers, bools, strings, slices, structs, nested. -/
import Derived.Test.YtbecejhjdagkdaaWAll
import Derived.SizedLaws
import Derived.ChangeArms
import Derived.Deep.Slices
import Derived.WideShapes
import Derived.OpenShut
namespace Go.Proofs.Ytbecejhjdagkdaa.Br
open Go.RowKit Go.Proofs.YtbecejhjdagkdaaW.PrintWords

/-- What reads as data of type t is of the kind d, and meets 'ok'. -/
def Rd {α : Type} (P : Program) (t : TypeId) (d : Kd α) (ok : α→Prop) : Prop :=
  ∀ (H : Type) (enc : TypeId × Value→H) (w : World) (sp : Nat→Bool) (held : Bool) (fuel : Nat) (cs : List Value) (y : DataW H × List MemPlace),
    DataW.trod enc P w 0 sp held fuel t cs = some y→(∀ n,n ∈ y.1.weights P t→n ≤ reachBytes)→∃ x,d.K w x cs∧ok x

theorem Rd.imp {α : Type} {P : Program} {t : TypeId} {d : Kd α} {ok ok' : α→Prop} (h : Rd P t d ok) (hi : ∀ x,ok x→ok' x) : Rd P t d ok' :=
  fun H enc w sp held fuel cs y hy hw => by
    obtain ⟨x,hx,ho⟩:=h H enc w sp held fuel cs y hy hw
    exact ⟨x,hx,hi _ ho⟩

theorem Rd.int {P : Program} {t : TypeId} {k : IntKind} (ht : P.underlying t = some (.int k)) : Rd P t (Kd.int k) (fun n => (Lit.int k n).wf = true):=by
  intro H enc w sp held fuel cs y hy _
  cases fuel with
  | zero => simp [DataW.trod] at hy
  | succ n =>
    unfold DataW.trod at hy
    rw [ht] at hy
    split at hy <;> simp_all
    exact ⟨_,rfl,hy.1.2⟩

theorem Rd.bool {P : Program} {t : TypeId} (ht : P.underlying t = some .bool) : Rd P t Kd.bool (fun _ => True):=by
  intro H enc w sp held fuel cs y hy _
  cases fuel with
  | zero => simp [DataW.trod] at hy
  | succ n =>
    unfold DataW.trod at hy
    rw [ht] at hy
    split at hy <;> simp_all
    rename_i b
    cases b
    · exact Or.inl rfl
    · exact Or.inr rfl

theorem Rd.string {P : Program} {t : TypeId} (ht : P.underlying t = some .string) : Rd P t Kd.string (fun s => s.size ≤ 140737488351232):=by
  intro H enc w sp held fuel cs y hy hw
  cases fuel with
  | zero => simp [DataW.trod] at hy
  | succ n =>
    unfold DataW.trod at hy
    rw [ht] at hy
    split at hy <;> simp_all
    rename_i s
    obtain ⟨_,rfl⟩:=hy
    refine ⟨s,rfl,?_⟩
    have:=hw s.size (by simp [DataW.weights])
    simpa [reachBytes] using this

/-- Fields in line: from offset o on. -/
def RdP {β : Type} (P : Program) (fs : List Field) (o : Nat) (d : Kd β) (ok : β→Prop) : Prop :=
  ∀ (H : Type) (enc : TypeId × Value→H) (w : World) (sp : Nat→Bool) (held : Bool) (fuel : Nat) (cs : List Value) (ys : List (DataW H × List MemPlace)),
    (∀ (i : Nat) (f : Field),fs[i]? = some f→∃ y,ys[i]? = some y∧DataW.trod enc P w 0 sp held fuel f.type ((cs.drop f.offset).take (P.cellsOf f.type)) = some y∧(∀ n,n ∈ y.1.weights P f.type→n ≤ reachBytes)) →
    cs.length = o + d.sz→∃ x,d.K w x (cs.drop o)∧ok x

theorem RdP.one {β : Type} {P : Program} {f : Field} {o : Nat} {d : Kd β} {ok : β→Prop} (ho : f.offset = o) (hc : P.cellsOf f.type = d.sz) (h : Rd P f.type d ok) : RdP P [f] o d ok:=by
  intro H enc w sp held fuel cs ys hy hl
  obtain ⟨y,_,h2,h3⟩:=hy 0 f rfl
  obtain ⟨x,hx,hok⟩:=h H enc w sp held fuel _ y h2 h3
  rw [ho,hc,List.take_of_length_le (by rw [List.length_drop];omega)] at hx
  exact ⟨x,hx,hok⟩

theorem RdP.cons {α β : Type} {P : Program} {f : Field} {fs : List Field} {o : Nat} {a : Kd α} {b : Kd β} {oka : α→Prop} {okb : β→Prop} (ho : f.offset = o) (hc : P.cellsOf f.type = a.sz)
    (h : Rd P f.type a oka) (hs : RdP P fs (o + a.sz) b okb) : RdP P (f :: fs) o (Kd.pair a b) (fun x => oka x.1∧okb x.2):=by
  intro H enc w sp held fuel cs ys hy hl
  have hl' : cs.length = o + (a.sz + b.sz):=hl
  obtain ⟨y,_,h2,h3⟩:=hy 0 f rfl
  obtain ⟨x,hx,hok⟩:=h H enc w sp held fuel _ y h2 h3
  rw [ho,hc] at hx
  obtain ⟨z,hz,hokz⟩:=hs H enc w sp held fuel cs (ys.drop 1) (fun i g hg => by
    obtain ⟨y', k1, k2, k3⟩ := hy (i + 1) g (by simpa using hg)
    exact ⟨y', by rw [List.getElem?_drop, Nat.add_comm]; exact k1, k2, k3⟩) (by omega)
  refine ⟨(x,z),⟨_,_,?_,hx,hz⟩,hok,hokz⟩
  rw [show cs.drop (o + a.sz) = (cs.drop o).drop a.sz by rw [List.drop_drop]]
  exact (List.take_append_drop _ _).symm

theorem mem_weightsEach {H : Type} {P : Program} : ∀ {ts : List TypeId} {ds : List (DataW H)} {j : Nat} {t : TypeId} {d : DataW H},ts[j]? = some t→ds[j]? = some d→∀ n ∈ d.weights P t,n ∈ DataW.weightsEach P ts ds:=fun h1 h2 => DataW.weights_mem_each h1 h2

theorem Rd.struct {β γ : Type} {P : Program} {t : TypeId} {fs : Array Field} {d : Kd β} {ok : β→Prop} (f : γ→β) (g : β→γ) (hg : ∀ x,f (g x) = x) (ht : P.underlying t = some (.struct fs)) (hc : P.cellsOf t = d.sz)
    (h : RdP P fs.toList 0 d ok) : Rd P t (Kd.iso d f) (fun x => ok (f x)):=by
  intro H enc w sp held fuel cs y hy hw
  obtain ⟨xs,n,_,rfl,hl,hxl,hx⟩:=DataW.trod_struct ht hy
  obtain ⟨x,hK,hok⟩:=h H enc w sp held n cs xs (fun i q hq => by
    have hi : i < fs.toList.length:=(List.getElem?_eq_some_iff.1 hq).1
    have hi2 : i < xs.length:=by rw [hxl];simpa using hi
    have e:=hx i q (by simpa using hq)
    rw [List.getElem?_eq_getElem hi2] at e
    refine ⟨xs[i],List.getElem?_eq_getElem hi2,e,fun m hm => hw m ?_⟩
    have hqq:=mem_weightsEach (P:=P) (ts:=fs.toList.map (·.type)) (ds:=xs.map (·.1)) (j:=i) (t:=q.type) (d:=(xs[i]).1) (by rw [List.getElem?_map,hq];rfl) (by rw [List.getElem?_map,List.getElem?_eq_getElem hi2];rfl) m hm
    simpa [DataW.weights,ht] using hqq) (by omega)
  refine ⟨g x,?_,?_⟩
  · show d.K w (f (g x)) cs
    rw [hg]
    simpa using hK
  · show ok (f (g x))
    rw [hg]
    exact hok

theorem mem_weightsAll {H : Type} {P : Program} {e : TypeId} : ∀ {ds : List (DataW H)} {j : Nat} {d : DataW H},ds[j]? = some d→∀ n ∈ d.weights P e,n ∈ DataW.weightsAll P e ds
  | d0 :: ds,0,d,hd,n,hn => by
    simp only [List.getElem?_cons_zero,Option.some.injEq] at hd
    subst hd
    simp only [DataW.weightsAll,List.mem_append]
    exact Or.inl hn
  | d0 :: ds,j + 1,d,hd,n,hn => by
    simp only [List.getElem?_cons_succ] at hd
    simp only [DataW.weightsAll,List.mem_append]
    exact Or.inr (mem_weightsAll hd n hn)
  | [],j,d,hd,n,hn => by simp at hd

theorem cells_at {w : World} {a : Addr} {n : Nat} {cs : List Value} (h : w.cells? 0 a n = some cs) : cs.length = n∧∀ i u,cs[i]? = some u→w.cell? (a.add i) = some u:=by
  unfold World.cells? at h
  rw [if_pos (Nat.zero_le _)] at h
  have hl : cs.length = n:=by simpa using mapM_some_length h
  refine ⟨hl,fun i u hu => ?_⟩
  have hi : i < n:=by
    have:=(List.getElem?_eq_some_iff.1 hu).1
    omega
  have:=mapM_some_get h i i (by rw [List.getElem?_range hi])
  rw [this,hu]

theorem Rd.slice {α : Type} {P : Program} {t e : TypeId} {d : Kd α} {ok : α→Prop} {B : Nat} (ht : P.underlying t = some (.slice e)) (hc : P.cellsOf e = d.sz) (hB : P.bytesOf e = B) (h : Rd P e d ok) :
    Rd P t (Kd.slice e d) (fun xs => xs.length * B ≤ 140737488351232∧∀ x ∈ xs,ok x):=by
  intro H enc w sp held fuel cs y hy hw
  rcases DataW.trod_slice ht hy with ⟨rfl,rfl⟩ | ⟨a,len,cap,elems,rest,n,_,rfl,rfl,hb,hl,hm,hlen,hel,_,_⟩
  · exact ⟨[],⟨none,0,rfl,Nat.le_refl _,rfl,by simp,fun h0 => absurd h0 (by simp)⟩,by simp,by simp⟩
  · have hsz:=hw ((elems.map (·.1)).length + (rest.map (·.1)).length |> (· * P.bytesOf e)) (by simp [DataW.weights,ht])
    simp only [List.length_map,hB,reachBytes] at hsz
    have hall : ∀ i,i < len→∃ (x : α) (c : List Value),w.cells? 0 (a.add (i * P.cellsOf e)) (P.cellsOf e) = some c∧d.K w x c∧ok x:=by
      intro i hi
      have hi2 : i < elems.length:=by omega
      have e1:=hel i hi
      rw [List.getElem?_eq_getElem hi2] at e1
      obtain ⟨c,h1,h2⟩:=Option.bind_eq_some_iff.1 e1
      obtain ⟨x,hx,hok⟩:=h H enc w sp held n c _ h2 (fun m hm2 => hw m (by
        have:=mem_weightsAll (P:=P) (e:=e) (ds:=elems.map (·.1)) (j:=i) (d:=(elems[i]).1) (by rw [List.getElem?_map,List.getElem?_eq_getElem hi2];rfl) m hm2
        simp only [DataW.weights,ht,List.mem_cons,List.mem_append]
        exact Or.inr (Or.inl this)))
      exact ⟨x,c,h1,hx,hok⟩
    classical
    have hne : ∀ i,i < len→Nonempty α:=fun i hi => ⟨(hall i hi).choose⟩
    let f : Fin len→α:=fun i => (hall i.1 i.2).choose
    have hf : ∀ i : Fin len,∃ c : List Value,w.cells? 0 (a.add (i.1 * P.cellsOf e)) (P.cellsOf e) = some c∧d.K w (f i) c∧ok (f i):=fun i => (hall i.1 i.2).choose_spec
    refine ⟨List.ofFn f,⟨some a,cap,?_,?_,?_,?_,?_⟩,?_,?_⟩
    · rw [List.length_ofFn]
    · rw [List.length_ofFn];exact hl
    · rfl
    · rw [List.length_ofFn];simp only [maxLen] at hm;omega
    · intro _
      refine ⟨a,rfl,fun j p hj => ?_⟩
      have hj2 : j < len:=by
        have:=(List.getElem?_eq_some_iff.1 hj).1
        rwa [List.length_ofFn] at this
      have hp : p = f ⟨j,hj2⟩:=by
        rw [List.getElem?_eq_getElem (by rw [List.length_ofFn];exact hj2),List.getElem_ofFn] at hj
        exact (Option.some.inj hj).symm
      obtain ⟨c,h1,h2,_⟩:=hf ⟨j,hj2⟩
      obtain ⟨h3,h4⟩:=cells_at h1
      rw [hc] at h3 h4
      refine ⟨c,h3,by rw [hp];exact h2,fun i u hu => ?_⟩
      rw [← Go.Deep.add_add]
      exact h4 i u hu
    · rw [List.length_ofFn]
      exact Nat.le_trans (Nat.mul_le_mul_right _ (by omega)) hsz
    · intro x hx
      rw [List.mem_ofFn] at hx
      obtain ⟨i,rfl⟩:=hx
      obtain ⟨_,_,_,h3⟩:=hf i
      exact h3

/-- An array, its elements told as fields in line. -/
theorem Rd.array {β γ : Type} {P : Program} {t e : TypeId} {n : Nat} {fs : List Field} {d : Kd β} {ok : β→Prop} (f : γ→β) (g : β→γ) (hg : ∀ x,f (g x) = x) (ht : P.underlying t = some (.array n e)) (hc : P.cellsOf t = d.sz)
    (hfs : fs.length = n) (hft : ∀ (i : Nat) (q : Field),fs[i]? = some q→q.type = e∧q.offset = i * P.cellsOf e) (h : RdP P fs 0 d ok) : Rd P t (Kd.iso d f) (fun x => ok (f x)):=by
  intro H enc w sp held fuel cs y hy hw
  obtain ⟨xs,m,_,rfl,hl,hxl,hx⟩:=DataW.trod_array ht hy
  obtain ⟨x,hK,hok⟩:=h H enc w sp held m cs xs (fun i q hq => by
    have hi : i < fs.length:=(List.getElem?_eq_some_iff.1 hq).1
    have hi2 : i < xs.length:=by omega
    obtain ⟨e1,e2⟩:=hft i q hq
    have e:=hx i (by omega)
    rw [List.getElem?_eq_getElem hi2] at e
    refine ⟨xs[i],List.getElem?_eq_getElem hi2,by rw [e1,e2];exact e,fun k hk => hw k ?_⟩
    rw [e1] at hk
    have:=mem_weightsAll (P:=P) (ds:=xs.map (·.1)) (j:=i) (d:=(xs[i]).1) (by rw [List.getElem?_map,List.getElem?_eq_getElem hi2];rfl) k hk
    simpa [DataW.weights,ht] using this) (by omega)
  refine ⟨g x,?_,?_⟩
  · show d.K w (f (g x)) cs
    rw [hg]
    simpa using hK
  · show ok (f (g x))
    rw [hg]
    exact hok

/-- An argument: its value's cells. -/
theorem Rd.arg {α : Type} {P : Program} {t : TypeId} {d : Kd α} {ok : α→Prop} (h : Rd P t d ok) {H : Type} {enc : TypeId × Value→H} {w : World} {sp : Nat→Bool} {held : Bool} {v : Value} {y : DataW H} {ps : List MemPlace}
    (hr : DataW.Trod enc P w 0 sp held t v y ps) {ts : List TypeId} {ds : List (DataW H)} (hsz : (DataW.weightsEach P ts ds).all (· ≤ reachBytes) = true) {j : Nat} (ht : ts[j]? = some t) (hd : ds[j]? = some y) :
    ∃ x,d.K w x v.cells.toList∧ok x:=by
  obtain ⟨fuel,hf⟩:=hr
  refine h H enc w sp held fuel _ _ hf (fun n hn => ?_)
  have:=List.all_eq_true.1 hsz _ (DataW.weights_mem_each ht hd n hn)
  simpa using this
end Go.Proofs.Ytbecejhjdagkdaa.Br
