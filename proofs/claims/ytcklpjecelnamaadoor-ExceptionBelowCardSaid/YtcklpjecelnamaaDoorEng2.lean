/- The engine: a small machine over pure values, and that what it walks the model walks. -/
import Derived.Test.YtcklpjecelnamaaDoorEng1
import Derived.Laws.Append
import Derived.IntWalk
import Derived.Laws.IdiomRangeMap
import Derived.Still
set_option linter.unusedVariables false
set_option linter.unusedSimpArgs false
namespace Go.Eng
open Go.RowKit
section
variable {P : Program} {C : Ctx} {A : Base} {F F' : Nat→Prop} {μ μ' : List (Option Place)} {H H' : List Entry} {w w' : World}
theorem flat_get {es : List (List PC)} {sz : Nat} (hs : ∀ x∈es,x.length = sz) : ∀ {k : Nat} {x : PC},es.flatten[k]? = some x→∃ i e j,es[i]? = some e∧e[j]? = some x∧k = i * sz + j:=by
  induction es with
  | nil=>intro k x h; simp at h
  | cons y ys ih =>
    intro k x h
    have hy : y.length = sz:=hs y (by simp)
    rw [List.flatten_cons] at h
    by_cases hk : k < y.length
    · rw [List.getElem?_append_left hk] at h
      exact ⟨0,y,k,rfl,h,by omega⟩
    · rw [List.getElem?_append_right (by omega)] at h
      obtain ⟨i,e,j,h1,h2,h3⟩:=ih (fun z hz=>hs z (by simp [hz])) h
      exact ⟨i + 1,e,j,by simpa using h1,h2,by rw [Nat.add_mul]; omega⟩
theorem elems_ok (hH : HeapOk A F μ H w) {sz : Nat} {x : TV} {v : Value} {xs : List (List PC)} (h : elemsT sz x H = some xs) (hx : RepV F μ H w x v) :
    ∃ a cap us,v = .slice a xs.length cap∧(∀ e∈xs,e.length = sz)∧RepCs F w xs.flatten us∧us.length = xs.length * sz ∧
      (∀ w' : World,w'.heap = w.heap→∀ (j : Nat) (u : Value),us[j]? = some u→∃ ad,a = some ad∧w'.cell? (ad.add j) = some u):=by
  unfold elemsT at h
  split at h
  · rename_i sz' es full
    split at h
    · rename_i he
      subst he
      simp only [Option.some.injEq] at h
      subst h
      have hx' : RepC F w (.sl sz' es full) v:=hx
      cases hx' with
      | nil=>exact ⟨none,0,[],rfl,(fun e he=>by cases he),trivial,by simp,fun w' _ j u hu=>by simp at hu⟩
      | sl _ _ _ a cap val g1 g2 g3 g6 g4 g5 =>
        have hfl:=flat_len g6
        refine ⟨some a,cap,(List.range (es.length * sz')).map fun k=>val (k / sz') (k % sz'),rfl,g6,?_,by simp,fun w' hw k u hu=>⟨a,rfl,?_⟩⟩
        · refine RepCs.of_get (by simp [hfl]) fun k x hk=>?_
          obtain ⟨i,e,j,h1,h2,rfl⟩:=flat_get g6 hk
          have hlt : i * sz' + j < es.flatten.length:=(List.getElem?_eq_some_iff.1 hk).1
          rw [hfl] at hlt
          have hj : j < sz':=by
            have:=(List.getElem?_eq_some_iff.1 h2).1
            rwa [g6 e (List.mem_of_getElem? h1)] at this
          have hd : (i * sz' + j) / sz' = i:=by
            rw [Nat.mul_comm,Nat.mul_add_div (by omega),Nat.div_eq_of_lt hj,Nat.add_zero]
          have hm : (i * sz' + j) % sz' = j:=by
            rw [Nat.mul_comm,Nat.mul_add_mod,Nat.mod_eq_of_lt hj]
          refine ⟨val i j,?_,g5 i e j x h1 h2⟩
          rw [List.getElem?_map,List.getElem?_range hlt,Option.map_some,hd,hm]
        · rw [List.getElem?_map] at hu
          have hk : k < es.length * sz':=by
            cases hr : (List.range (es.length * sz'))[k]? with
            | none=>simp [hr] at hu
            | some q=>have:=(List.getElem?_eq_some_iff.1 hr).1; simpa using this
          rw [List.getElem?_range hk,Option.map_some,Option.some.injEq] at hu
          have hx : k < es.flatten.length:=by rw [hfl]; exact hk
          obtain ⟨i,e,j,h1,h2,rfl⟩:=flat_get g6 (List.getElem?_eq_getElem hx)
          have hj : j < sz':=by
            have:=(List.getElem?_eq_some_iff.1 h2).1
            rwa [g6 e (List.mem_of_getElem? h1)] at this
          have hd : (i * sz' + j) / sz' = i:=by
            rw [Nat.mul_comm,Nat.mul_add_div (by omega),Nat.div_eq_of_lt hj,Nat.add_zero]
          have hm : (i * sz' + j) % sz' = j:=by
            rw [Nat.mul_comm,Nat.mul_add_mod,Nat.mod_eq_of_lt hj]
          rw [hd,hm] at hu
          subst hu
          have hsp : a.spot = none:=by
            rcases g1 with rfl | g1
            · simp at h1
            · exact g1
          obtain ⟨ab,ao,as⟩:=a
          simp only at hsp
          subst hsp
          rw [add_none]
          obtain ⟨q1,q2⟩:=g4 i e j _ h1 h2
          rw [← Nat.add_assoc]
          exact (World.cell?_of_block (w:=w) (a:=⟨ab,ao + i * sz' + j,none⟩) (by rw [hw])).trans q2
    · cases h
  · rename_i b i n
    split at h
    · rename_i sz' es wr hb
      split at h
      · rename_i he
        subst he
        simp only [Option.some.injEq] at h
        subst h
        obtain ⟨hbl,base,cap,rfl,hn,hpl⟩:=hx
        obtain ⟨hin,hor⟩:=hpl _ _ _ hb
        have hlen : ((es.drop i).take n).length = n:=by rw [List.length_take,List.length_drop]; omega
        obtain ⟨hes,hent⟩:=hH.ent b _ hb
        have hes' : ∀ e∈(es.drop i).take n,e.length = sz':=fun e he=>hes e (List.mem_of_mem_drop (List.mem_of_mem_take he))
        by_cases h0 : n = 0
        · subst h0
          refine ⟨base,cap,[],by simp,by simp,by simp [RepCs],by simp,fun w' _ j u hu=>by simp at hu⟩
        · rcases hor with rfl | ⟨pl,hm,rfl,hlim⟩
          · omega
          · rcases hent with ⟨hmn,_⟩ | ⟨pl',vs,ty,fz,hm',hblk,hsz,h1,h2,hr⟩
            · rw [List.getD_eq_getElem?_getD,hm] at hmn; simp at hmn
            · have : pl' = pl:=by
                rw [List.getD_eq_getElem?_getD,hm] at hm'
                simpa using hm'.symm
              subst this
              have hat:=At.of_cells hblk pl'.off (es.length * sz')
              have hfe : ((es.drop i).take n).flatten = ext es.flatten (i * sz') (n * sz'):=by
                have hfl:=flat_len hes
                apply List.ext_getElem?
                intro k
                unfold ext
                rw [List.getElem?_take]
                by_cases hk : k < n * sz'
                · rw [if_pos hk,List.getElem?_drop]
                  have hlt : k < ((es.drop i).take n).flatten.length:=by rw [flat_len hes',hlen]; exact hk
                  obtain ⟨i',e,j,q1,q2,rfl⟩:=flat_get hes' (List.getElem?_eq_getElem hlt)
                  rw [List.getElem?_eq_getElem hlt]
                  have q3 : es[i + i']? = some e:=by
                    rw [List.getElem?_take] at q1
                    split at q1
                    · rwa [List.getElem?_drop] at q1
                    · cases q1
                  have q4:=flat_elem hes q3
                  have q5 : ((es.flatten.drop ((i + i') * sz')).take sz')[j]? = e[j]?:=by rw [q4]
                  have hj : j < sz':=by
                    have:=(List.getElem?_eq_some_iff.1 q2).1
                    rwa [hes' e (List.mem_of_getElem? q1)] at this
                  rw [List.getElem?_take,if_pos hj,List.getElem?_drop,q2,Nat.add_mul,Nat.add_assoc] at q5
                  exact q5.symm
                · rw [if_neg hk]
                  exact List.getElem?_eq_none (by rw [flat_len hes',hlen]; omega)
              have h3:=hr.ext (i * sz') (n * sz')
              rw [← hfe] at h3
              have hl3:=h3.length
              rw [flat_len hes',hlen] at hl3
              refine ⟨_,cap,_,by rw [hlen],hes',h3,by rw [hlen]; exact hl3.symm,fun w' hw k u hu=>⟨_,rfl,?_⟩⟩
              rw [add_none]
              exact (hat.ext (k:=i * sz') (n:=n * sz')).same (by rw [hw]) k u hu
      · cases h
    · cases h
  · cases h
theorem run_first {a : Option Addr} {n cap sz : Nat} {us : List Value} (hl : us.length = n * sz) (hc : ∀ (j : Nat) (u : Value),us[j]? = some u→∃ ad,a = some ad∧w.cell? (ad.add j) = some u) (m : Nat) (hm : m≤n) :
    (Builtin.firstCells sz m (.slice a n cap)).run P w = .ok (us.take (m * sz)).toArray w:=by
  have hlt : (us.take (m * sz)).length = m * sz:=by
    rw [List.length_take,hl]
    exact Nat.min_eq_left (Nat.mul_le_mul_right _ hm)
  cases a with
  | none =>
    have : us = []:=by
      cases us with
      | nil=>rfl
      | cons u us=>obtain ⟨ad,h,_⟩:=hc 0 u rfl; cases h
    subst this
    simp [Builtin.firstCells]
  | some ad =>
    refine run_firstCells_some w sz m ad n cap _ hlt fun j u hu=>?_
    rw [List.getElem?_take] at hu
    split at hu
    · obtain ⟨ad',h1,h2⟩:=hc j u hu
      obtain rfl:=Option.some.inj h1
      exact h2
    · cases hu
theorem newVec_ok (hH : HeapOk A F μ H w) {ty : TypeId} {cs : Array Value} {sz n cap : Nat} {es : List (List PC)} (hes : ∀ e∈es,e.length = sz) (hr : RepCs F w es.flatten (cs.toList.take (es.length * sz))) (hn : n = es.length) (hc : n≤cap) (hs : cap * sz≤cs.size) :
    HeapOk A F (μ ++ [some ⟨w.heap.size,0,cs.size⟩]) (H ++ [.vec sz es true]) (w.alloc (.cells cs ty))∧Le F μ H w F (μ ++ [some ⟨w.heap.size,0,cs.size⟩]) (H ++ [.vec sz es true]) (w.alloc (.cells cs ty)) ∧
      RefOk (μ ++ [some ⟨w.heap.size,0,cs.size⟩]) (H ++ [.vec sz es true]) H.length 0 n (.slice (some ⟨w.heap.size,0,none⟩) n cap):=by
  have hnF : ¬ F w.heap.size:=fun h=>by have:=hH.frlt _ h; omega
  obtain ⟨h1,h2⟩:=hH.push cs ty (.vec sz es true) rfl fun μ' H' hle=>by
    have hb : (w.alloc (.cells cs ty)).heap[w.heap.size]? = some (.cells cs ty):=heap_alloc_new w _
    refine ⟨hes,.inr ⟨_,cs,ty,_,rfl,hb,⟨rfl,Nat.zero_le _⟩,fun _=>⟨rfl,hnF⟩,(fun q=>by cases q),?_⟩⟩
    simp only [List.drop_zero]
    exact hr.mono hle.fr hle.heap
  refine ⟨h1,h2,by simp,_,cap,rfl,hc,fun sz' es' wr' he'=>?_⟩
  rw [List.getElem?_append_right (Nat.le_refl _)] at he'
  obtain ⟨rfl,rfl,rfl⟩ : sz = sz'∧es = es'∧true = wr':=by simpa using he'
  refine ⟨by omega,.inr ⟨⟨w.heap.size,0,cs.size⟩,by rw [← hH.len]; simp,by simp,?_⟩⟩
  simpa using hs
theorem range_mod_flat (z : List Value) (n : Nat) (hz : z.length≠0∨n = 0∨True) : ∀ n : Nat,(List.range (n * z.length)).map (fun i=>z.getD (i % z.length) undef) = (List.replicate n z).flatten
  | 0=>by simp
  | n + 1=>by
    rcases Nat.eq_zero_or_pos z.length with h0 | hp
    · have : z = []:=List.eq_nil_of_length_eq_zero h0
      subst this
      simp
    · rw [List.replicate_succ',List.flatten_append,← range_mod_flat z n (.inr (.inr trivial)) n,Nat.add_mul,Nat.one_mul,List.range_add,List.map_append]
      congr 1
      rw [List.map_map]
      apply List.ext_getElem?
      intro j
      simp only [List.flatten_cons,List.flatten_nil,List.append_nil]
      by_cases hj : j < z.length
      · rw [List.getElem?_map,List.getElem?_range hj]
        simp only [Option.map_some,Function.comp]
        rw [Nat.add_comm,Nat.add_mul_mod_self_right,Nat.mod_eq_of_lt hj,List.getD_eq_getElem?_getD,List.getElem?_eq_getElem hj]
        rfl
      · rw [List.getElem?_eq_none (by simpa using hj),List.getElem?_eq_none (by omega)]
theorem RepCs.flatten_replicate {z : List PC} {vz : List Value} (h : RepCs F w z vz) : ∀ n,RepCs F w (List.replicate n z).flatten (List.replicate n vz).flatten
  | 0=>trivial
  | n + 1=>by
    rw [List.replicate_succ,List.replicate_succ,List.flatten_cons,List.flatten_cons]
    exact h.append (RepCs.flatten_replicate h n)
theorem zero_cells (z : Array Value) (m n : Nat) (hn : n = m * z.size) : ((Array.range n).map fun i=>z[i % z.size]!).toList = (List.replicate m z.toList).flatten:=by
  subst hn
  have h:=range_mod_flat z.toList m (.inr (.inr trivial)) m
  simp only [Array.length_toList] at h
  rw [← h]
  simp only [Array.toList_map,Array.toList_range]
  apply List.map_congr_left
  intro i hi
  have hi' : i < m * z.size:=by simpa using hi
  have hp : 0 < z.size:=by
    rcases Nat.eq_zero_or_pos z.size with h0 | hp
    · rw [h0] at hi'; simp at hi'
    · exact hp
  have hlt : i % z.size < z.size:=Nat.mod_lt _ hp
  rw [getElem!_pos z (i % z.size) hlt,List.getD_eq_getElem?_getD,List.getElem?_eq_getElem (by simpa using hlt)]
  rfl
theorem wrap_small {n : Int} (h0 : 0≤n) (h1 : n≤2 ^ 46) : IntKind.i64.wrap n = n:=IntWalk.i64_in n (by omega)
theorem makeSlice_ok (hC : CtxOk P C F w) (hH : HeapOk A F μ H w) {M : List Nat} {t : TypeId} {x y : TV} {u v : Value} {K : TV→List Entry→Prop} (h : makeSliceT C t x y H K) (hx : RepV F μ H w x u) (hy : RepV F μ H w y v) : WOk P A F μ H w M (Instr.makeSlice t u v) K:=by
  unfold makeSliceT at h
  split at h
  · rename_i e sz' by' z' cks' n m ht
    obtain ⟨rfl,_⟩:=rep_c hx
    obtain ⟨rfl,_⟩:=rep_c hy
    obtain ⟨d,hd,hk⟩:=(hC.ty _ _ ht).kind
    have hdd:=kind_inv.2.2.2.1 e hk
    subst hdd
    split at h
    · rename_i ei hei
      obtain ⟨⟨h0,h1,h2,h3⟩,hK⟩:=h
      have hT:=hC.ty _ _ hei
      obtain ⟨f,z,g1,g2,g3,g4,g5,g6⟩:=hT.info
      have hwn : IntKind.i64.wrap n = n:=wrap_small h0 (by omega)
      have hwm : IntKind.i64.wrap m = m:=wrap_small (by omega) h3
      have c1 : ¬ m < 0:=by omega
      have c2 : ¬ n < 0:=by omega
      have c3 : ¬ m < n:=by omega
      have c4 : ¬ (281474976710656 < (ei.bytes : Int) * m):=by
        rw [Int.mul_comm]
        omega
      have hrun : (Instr.makeSlice t (.int .i64 n) (.int .i64 m)).run P w = .ok (.slice (some ⟨w.heap.size,0,none⟩) n.toNat m.toNat) (w.alloc (.cells ((Array.range (m.toNat * ei.size)).map fun i=>z.cells[i % z.cells.size]!) e)):=by
        by_cases hz : m.toNat * ei.size = 0
        · have hz' : m.toNat * f.size = 0:=by rw [g2]; exact hz
          simp [Instr.makeSlice,run_underlying hd,asInt,asIntOf,typeInfo,g1,hwn,hwm,sizeOf,zeroValue,g4,c1,c2,c3,g3,c4,newRow,hz,hz',g2]
          have e0 : ∀ g : Nat→Value,(Array.range 0).map g = #[]:=fun g=>by simp [Array.range]
          rw [e0,e0]
        · have hz' : ¬ m.toNat * f.size = 0:=by rw [g2]; exact hz
          simp [Instr.makeSlice,run_underlying hd,asInt,asIntOf,typeInfo,g1,hwn,hwm,sizeOf,zeroValue,g4,c1,c2,c3,g3,c4,newRow,hz,hz',g2]
      have hfl : ((Array.range (m.toNat * ei.size)).map fun i=>z.cells[i % z.cells.size]!).toList = (List.replicate m.toNat z.cells.toList).flatten:=zero_cells _ _ _ (by rw [g5])
      have hzl : ei.zero.length = ei.size:=hT.zlen
      have hrz:=(g6 F w).flatten_replicate (n:=n.toNat)
      obtain ⟨k1,k2,k3⟩:=newVec_ok hH (ty:=e) (cs:=(Array.range (m.toNat * ei.size)).map fun i=>z.cells[i % z.cells.size]!) (sz:=ei.size) (n:=n.toNat) (cap:=m.toNat) (es:=List.replicate n.toNat ei.zero) (fun x hx=>by rw [List.eq_of_mem_replicate hx]; exact hzl) (by
          rw [hfl]
          have e1 : (List.replicate m.toNat z.cells.toList).flatten.take ((List.replicate n.toNat ei.zero).length * ei.size) = (List.replicate n.toNat z.cells.toList).flatten:=by
            rw [List.length_replicate,show m.toNat = n.toNat + (m.toNat - n.toNat) by omega,← List.replicate_append_replicate,List.flatten_append]
            have : (List.replicate n.toNat z.cells.toList).flatten.length = n.toNat * ei.size:=by simp [g5]
            rw [← this]
            exact List.take_left
          rw [e1]
          exact hrz) (by simp) (by omega) (by simp)
      exact ⟨_,_,F,_,_,.w (.one (.ref H.length 0 n.toNat)),hrun,k1,k2,k3,Fr.alloc _,hK⟩
    · exact h.elim
  · exact h.elim
theorem fillS_ok {size : Nat} : ∀ {parts : List (Nat×TV)} {vparts : List (Nat×Value)} {H H' : List Entry} {F : Nat→Prop} {es es' : List (List PC)} {cur : Array Value},HeapOk A F μ H w→fillS size es H parts = some (es',H')→RepPs F μ H w parts vparts →
    (∀ e∈es,e.length = size)→RepCs F w es.flatten cur.toList →
    ∃ F' cur',HeapOk A F' μ H' w∧Le F μ H w F' μ H' w∧Instr.fill (fun i=>some (i * size,size)) cur vparts = some cur'∧(∀ e∈es',e.length = size)∧es'.length = es.length∧RepCs F' w es'.flatten cur'.toList
  | [],[],H,H',F,es,es',cur,hH,h,_,hes,hr=>by
    simp only [fillS,Option.some.injEq,Prod.mk.injEq] at h
    obtain ⟨rfl,rfl⟩:=h
    exact ⟨F,cur,hH,Le.refl,rfl,hes,rfl,hr⟩
  | (i,.w x) :: parts,(j,v) :: vparts,H,H',F,es,es',cur,hH,h,hp,hes,hr=>by
    obtain ⟨rfl,hv,hp⟩:=hp
    simp only [fillS] at h
    cases hok : okW x with
    | false =>
      have : x = .one .junk:=by
        cases x with
        | one y=>cases y <;> first | rfl | simp [okW] at hok
        | _=>simp [okW] at hok
      subst this
      simp [TW.cells,freeze] at h
    | true =>
      cases hq : freeze x.cells H with
      | none=>simp [hq] at h
      | some q =>
        obtain ⟨ps,H1⟩:=q
        simp only [hq] at h
        split at h
        · rename_i hc
          obtain ⟨hl,hi⟩:=hc
          obtain ⟨F1,h1,h2,h3⟩:=freeze_ok hH (RepW.cells hv hok) hq
          have h3l:=h3.length
          simp only [Array.length_toList] at h3l
          have hei : es[i]? = some es[i]:=List.getElem?_eq_getElem hi
          have hfl:=flat_len hes
          have hrl:=hr.length
          have hcur : cur.toList.length = cur.size:=by simp
          have hmul : i * size + size≤es.length * size:=by
            have:=Nat.mul_le_mul_right size (show i + 1≤es.length by omega)
            rw [Nat.add_mul,Nat.one_mul] at this
            exact this
          have hfold : (v.cells.zipIdx.foldl (fun cs (x : Value×Nat)=>cs.setIfInBounds (i * size + x.2) x.1) cur).toList = splice cur.toList (i * size) v.cells.toList:=by
            rw [← Array.foldl_toList,Array.toList_zipIdx]
            exact foldl_splice v.cells.toList 0 (i * size) cur (by simp only [Array.length_toList]; omega)
          have hsp : (es.set i ps).flatten = splice es.flatten (i * size) ps:=by
            have:=splice_elem es size hes i 0 es[i] ps hei (by omega)
            rw [Nat.add_zero] at this
            rw [this]
            congr 2
            unfold splice
            rw [List.take_zero,List.nil_append,Nat.zero_add,List.drop_eq_nil_of_le (by rw [hes _ (List.getElem_mem hi)]; omega),List.append_nil]
          have hr1 : RepCs F1 w (es.set i ps).flatten (v.cells.zipIdx.foldl (fun cs (x : Value×Nat)=>cs.setIfInBounds (i * size + x.2) x.1) cur).toList:=by
            rw [hfold,hsp]
            exact (hr.mono h2.fr h2.heap).splice h3 (i * size)
          have hes1 : ∀ e∈es.set i ps,e.length = size:=fun e he=>by
            rcases List.mem_or_eq_of_mem_set he with he | rfl
            · exact hes e he
            · exact hl
          obtain ⟨F',cur',k1,k2,k3,k4,k5,k6⟩:=fillS_ok h1 h (RepPs.le h2 hp) hes1 hr1
          refine ⟨F',cur',k1,h2.trans k2,?_,k4,by rw [k5]; simp,k6⟩
          unfold Instr.fill
          simp only []
          rw [if_neg]
          · exact k3
          · simp only [Bool.or_eq_true,decide_eq_true_eq]
            omega
        · cases h
  | (_,.tup _) :: _,_ :: _,_,_,_,_,_,_,_,h,_,_,_=>by simp [fillS] at h
  | [],_ :: _,_,_,_,_,_,_,_,_,hp,_,_=>hp.elim
  | _ :: _,[],_,_,_,_,_,_,_,_,hp,_,_=>hp.elim
theorem buildSlice_ok (hC : CtxOk P C F w) (hH : HeapOk A F μ H w) {M : List Nat} {t : TypeId} {len : Nat} {parts : List (Nat×TV)} {vparts : Array (Nat×Value)} {K : TV→List Entry→Prop} (h : buildSliceT C t len parts H K) (hp : RepPs F μ H w parts vparts.toList) : WOk P A F μ H w M (Instr.buildSlice t len vparts) K:=by
  unfold buildSliceT at h
  split at h
  · rename_i ti ht
    obtain ⟨d,hd,hk⟩:=(hC.ty _ _ ht).kind
    split at h
    · rename_i e he
      have hdd:=kind_inv.2.2.2.1 e (hk.trans he)
      subst hdd
      split at h
      · rename_i ei hei
        have hT:=hC.ty _ _ hei
        obtain ⟨f,z,g1,g2,g3,g4,g5,g6⟩:=hT.info
        split at h
        · rename_i es H1 hes
          split at h
          · rename_i hlim
            have hzl : ei.zero.length = ei.size:=hT.zlen
            have hfl : ((Array.range (len * ei.size)).map fun i=>z.cells[i % z.cells.size]!).toList = (List.replicate len z.cells.toList).flatten:=zero_cells _ _ _ (by rw [g5])
            obtain ⟨F',cur',k1,k2,k3,k4,k5,k6⟩:=fillS_ok (cur:=(Array.range (len * ei.size)).map fun i=>z.cells[i % z.cells.size]!) hH hes hp (fun x hx=>by rw [List.eq_of_mem_replicate hx]; exact hzl) (by rw [hfl]; exact (g6 F w).flatten_replicate len)
            rw [List.length_replicate] at k5
            have k6l:=k6.length
            rw [flat_len k4,k5] at k6l
            simp only [Array.length_toList] at k6l
            have hrun : (Instr.buildSlice t len vparts).run P w = .ok (.slice (some ⟨w.heap.size,0,none⟩) len len) (w.alloc (.cells cur' e)):=by
              have hlim' : ¬ 16777216 < len * ei.size:=by omega
              by_cases hz : len * ei.size = 0
              · have e0 : ∀ g : Nat→Value,(Array.range 0).map g = #[]:=fun g=>by simp [Array.range]
                have k3' : Instr.fill (fun i=>some (i * ei.size,ei.size)) #[] vparts.toList = some cur':=by
                  rw [hz,e0] at k3
                  exact k3
                simp [Instr.buildSlice,run_underlying hd,typeInfo,g1,sizeOf,zeroValue,g4,newRow,hz,g2,e0,k3']
              · simp [Instr.buildSlice,run_underlying hd,typeInfo,g1,sizeOf,zeroValue,g4,newRow,hz,g2,k3,hlim']
            obtain ⟨q1,q2,q3⟩:=newVec_ok k1 (ty:=e) (cs:=cur') (sz:=ei.size) (n:=len) (cap:=len) (es:=es) k4 (by
                rw [k5,k6l,List.take_of_length_le (by simp)]
                exact k6) k5.symm (Nat.le_refl _) (by omega)
            exact ⟨_,_,F',_,_,.w (.one (.ref H1.length 0 len)),hrun,q1,k2.trans q2,q3,Fr.alloc _,h⟩
          · exact h.elim
        · exact h.elim
      · exact h.elim
    · exact h.elim
  · exact h.elim
end
end Go.Eng
namespace Go.Eng
open Go.RowKit
section
variable {P : Program} {C : Ctx} {A : Base} {F F' : Nat→Prop} {μ μ' : List (Option Place)} {H H' : List Entry} {w w' : World}
theorem run_append_in {t t' e e' : TypeId} {ty : TypeId} {i : TypeInfo} (ht : P.underlying t = some (.slice e)) (ht' : P.underlying t' = some (.slice e')) (hi : P.info? e = some i)
    {base : Option Addr} {n cap : Nat} {xa : Option Addr} {m xc : Nat} {news : Array Value} (hf : (Builtin.firstCells i.size m (.slice xa m xc)).run P w = .ok news w) (hroom : n + m≤cap) {w' : World}
    (hst : ∀ a,base = some a→(storeCells (a.add (n * i.size)) news.toList).run P w = .ok () w') (hno : base = none→w' = w) :
    (Builtin.append_ #[t,t'] ty #[.slice base n cap,.slice xa m xc]).run P w = .ok (.slice base (n + m) cap) w':=by
  cases base with
  | none =>
    obtain rfl:=hno rfl
    simp [Builtin.append_,run_underlying ht,run_underlying ht',sizeOf,typeInfo,hi,Builtin.lenOf,hroom,hf]
  | some a =>
    have:=hst a rfl
    simp [Builtin.append_,run_underlying ht,run_underlying ht',sizeOf,typeInfo,hi,Builtin.lenOf,hroom,hf,this]
theorem fits_more {need old bytes : Nat} (h : old < need) (hb : need * bytes≤2 ^ 47 + 2 ^ 30) : Builtin.nextslicecap need old * bytes≤281474976710656:=by
  have h1 : Builtin.nextslicecap need old≤need + need / 4 + 192∧(2≤need→Builtin.nextslicecap need old≤2 * need - 1)∧(need≤1→Builtin.nextslicecap need old≤1):=by
    unfold Builtin.nextslicecap
    split
    · omega
    · split
      · omega
      · rw [growBy_four]
        repeat' split
        all_goals omega
  obtain ⟨a1,a2,a3⟩:=h1
  by_cases hs : bytes≤2 ^ 38
  · have b1 : Builtin.nextslicecap need old * bytes≤(need + need / 4 + 192) * bytes:=Nat.mul_le_mul_right _ a1
    have b2 : (need / 4 * 4) * bytes≤need * bytes:=Nat.mul_le_mul_right _ (Nat.div_mul_le_self _ _)
    rw [Nat.mul_right_comm] at b2
    rw [Nat.add_mul,Nat.add_mul] at b1
    generalize need / 4 * bytes = B at b1 b2
    generalize need * bytes = A at b1 b2 hb
    omega
  · by_cases hn : 2≤need
    · have b1 : Builtin.nextslicecap need old * bytes≤(2 * need - 1) * bytes:=Nat.mul_le_mul_right _ (a2 hn)
      rw [Nat.sub_mul,Nat.mul_assoc,Nat.one_mul] at b1
      generalize need * bytes = A at b1 hb
      omega
    · have b1 : Builtin.nextslicecap need old * bytes≤1 * bytes:=Nat.mul_le_mul_right _ (a3 (by omega))
      have b2 : 1 * bytes≤need * bytes:=Nat.mul_le_mul_right _ (by omega)
      omega
theorem run_append_new {t t' e e' : TypeId} {ty : TypeId} {i : TypeInfo} {z : Value} (ht : P.underlying t = some (.slice e)) (ht' : P.underlying t' = some (.slice e')) (hi : P.info? e = some i) (hz : i.zero = some z)
    {base : Option Addr} {n cap : Nat} {xa : Option Addr} {m xc : Nat} {olds news : Array Value} (hf : (Builtin.firstCells i.size m (.slice xa m xc)).run P w.drew = .ok news w.drew) (ho : (Builtin.firstCells i.size n (.slice base n cap)).run P w.drew = .ok olds w.drew)
    (hroom : ¬ n + m≤cap) (hb : (n + m) * i.bytes≤2 ^ 47 + 2 ^ 30) (hl : n + m≤2 ^ 47 + 2 ^ 30) :
    (Builtin.append_ #[t,t'] ty #[.slice base n cap,.slice xa m xc]).run P w = .ok (.slice (some ⟨w.heap.size,0,none⟩) (n + m) (grownCap w (n + m) cap e))
      (w.drew.alloc (.cells (olds ++ news ++ Builtin.zeroCells z.cells (grownCap w (n + m) cap e - (n + m))) e)):=by
  have h63' : ¬ (9223372036854775807 < ((n : Int) + (m : Int))):=by omega
  have h48' : ¬ (281474976710656 < Builtin.nextslicecap (n + m) cap * i.bytes):=by
    have:=fits_more (need:=n + m) (old:=cap) (bytes:=i.bytes) (by omega) hb
    omega
  simp [Builtin.append_,run_underlying ht,run_underlying ht',sizeOf,typeInfo,zeroValue,hi,hz,Builtin.lenOf,hroom,h63',h48',Question.forced,hf,ho,newRow,grownCap]
theorem size_zero (z : Array Value) (n : Nat) : (Builtin.zeroCells z n).size = n * z.size:=by simp [Builtin.zeroCells]
theorem grownCap_ge' (w : World) (need old : Nat) (e : TypeId) : need≤grownCap w need old e:=by
  simp [grownCap,Question.cut]
theorem append_ok (hC : CtxOk P C F w) (hH : HeapOk A F μ H w) {t t' ty : TypeId} {s x : TV} {u v : Value} {K : TV→List Entry→Prop} (h : appendT C t t' s x H K) (hs : RepV F μ H w s u) (hx : RepV F μ H w x v) :
    WOk P A F μ H w (ownIds s) (Builtin.append_ #[t,t'] ty #[u,v]) K:=by
  unfold appendT at h
  split at h
  · rename_i e sz' by' z' cks' ht
    obtain ⟨d,hd,hk⟩:=(hC.ty _ _ ht).kind
    have hdd:=kind_inv.2.2.2.1 e hk
    subst hdd
    split at h
    · rename_i ei hei
      have hT:=hC.ty _ _ hei
      obtain ⟨f,z,g1,g2,g3,g4,g5,g6⟩:=hT.info
      split at h
      · rename_i xs hxs
        obtain ⟨xa,xc,us,rfl,hxl,hxr,hxn,hxc⟩:=elems_ok hH hxs hx
        have hxrun : ∀ w',w'.heap = w.heap→(Builtin.firstCells ei.size xs.length (.slice xa xs.length xc)).run P w' = .ok us.toArray w':=fun w' hw=>by
          have:=run_first (P:=P) (w:=w') (cap:=xc) hxn (hxc w' hw) xs.length (Nat.le_refl _)
          rwa [List.take_of_length_le (by omega)] at this
        cases hc : isSl (C.ty t') with
        | false=>rw [hc] at h; exact h.elim
        | true =>
          rw [hc] at h
          simp only [Bool.not_true,cond_false] at h
          have ht2 : ∃ e',P.underlying t' = some (.slice e'):=by
            unfold isSl at hc
            split at hc
            · rename_i ti2 ht2
              split at hc
              · rename_i e2 he2
                obtain ⟨dd,hdd,hkk⟩:=(hC.ty _ _ ht2).kind
                have:=kind_inv.2.2.2.1 _ (hkk.trans he2)
                subst this
                exact ⟨_,hdd⟩
              · cases hc
            · cases hc
          obtain ⟨e',ht2⟩:=ht2
          split at h
          · rename_i sz full
            cases full with
            | false=>exact h.elim
            | true =>
              simp only [Bool.not_true,cond_false] at h
              obtain ⟨hb,hl,hK⟩:=h
              have hs' : RepC F w (.sl sz [] true) u:=hs
              obtain ⟨base,rfl⟩ : ∃ base,u = .slice base 0 0:=by
                rcases sl_inv hs' with ⟨_,rfl⟩ | ⟨a,cap,rfl,_,_,hf,_⟩
                · exact ⟨none,rfl⟩
                · exact ⟨some a,by rw [hf rfl]; rfl⟩
              by_cases hx0 : xs.length = 0
              · have hxs0 : xs = []:=List.eq_nil_of_length_eq_zero hx0
                subst hxs0
                have hus : us = []:=List.eq_nil_of_length_eq_zero (by simpa using hxn)
                subst hus
                have hr0:=hxrun w rfl
                rw [← g2] at hr0
                have hrun:=run_append_in (P:=P) (w:=w) (ty:=ty) hd ht2 g1 (base:=base) (n:=0) (cap:=0) (xa:=xa) (m:=0) (xc:=xc) (news:=#[]) hr0 (Nat.le_refl _) (w':=w) (fun a _=>rfl) (fun _=>rfl)
                obtain ⟨q1,q2⟩:=hH.pushNone ei.size
                refine ⟨_,w,F,_,_,.w (.one (.ref H.length 0 0)),hrun,q1,q2,?_,Fr.refl,hK⟩
                refine ⟨by simp,base,0,rfl,Nat.le_refl _,fun sz' es' wr' he'=>⟨?_,.inl rfl⟩⟩
                simp
              · have hr0:=hxrun w.drew rfl
                rw [← g2] at hr0
                have ho : (Builtin.firstCells f.size 0 (.slice base 0 0)).run P w.drew = .ok #[] w.drew:=by cases base <;> simp [Builtin.firstCells,loadCells,loadCellsFrom]
                have hrun:=run_append_new (P:=P) (w:=w) (ty:=ty) hd ht2 g1 g4 (base:=base) (n:=0) (cap:=0) (xa:=xa) (m:=xs.length) (xc:=xc) (olds:=#[]) (news:=us.toArray) hr0 ho (by omega) (by rw [g3]; simpa using hb) (by simpa using hl)
                simp only [Nat.zero_add,Array.empty_append] at hrun
                obtain ⟨d1,d2⟩:=hH.drew
                have hge:=grownCap_ge' w xs.length 0 e
                obtain ⟨q1,q2,q3⟩:=newVec_ok d1 (ty:=e) (cs:=us.toArray ++ Builtin.zeroCells z.cells (grownCap w xs.length 0 e - xs.length)) (sz:=ei.size) (n:=xs.length) (cap:=grownCap w xs.length 0 e) (es:=xs) hxl (by
                    have : (us.toArray ++ Builtin.zeroCells z.cells (grownCap w xs.length 0 e - xs.length)).toList.take (xs.length * ei.size) = us:=by
                      rw [Array.toList_append,← hxn]
                      exact List.take_left
                    rw [this]
                    exact hxr.mono d2.fr d2.heap) rfl hge (by
                    rw [Array.size_append,size_zero,g5,List.size_toArray,hxn,← Nat.add_mul]
                    exact Nat.mul_le_mul_right _ (by omega))
                exact ⟨_,_,F,_,_,.w (.one (.ref H.length 0 xs.length)),hrun,q1,d2.trans q2,q3,⟨by simp,fun n hn _=>heap_alloc_old w.drew _ hn⟩,hK⟩
          · rename_i b i n
            split at h
            · rename_i sz es wr hb
              cases wr with
              | false=>exact h.elim
              | true =>
                simp only [Bool.not_true,cond_false] at h
                split at h
                · rename_i hsz
                  obtain ⟨hin,hby,hl,hK⟩:=h
                  subst hsz
                  obtain ⟨hbl,base,cap,rfl,hnc,hpl⟩:=hs
                  obtain ⟨_,hor⟩:=hpl _ _ _ hb
                  obtain ⟨hes,hent⟩:=hH.ent b _ hb
                  generalize hys : (es.drop i).take n = ys at hK
                  have hdl : ys.length = n:=by rw [← hys,List.length_take,List.length_drop]; omega
                  by_cases hroom : n + xs.length≤cap
                  · have hr0:=hxrun w rfl
                    rw [← g2] at hr0
                    rcases hor with rfl | ⟨pl,hm,rfl,hlim⟩
                    · have hn0 : n = 0:=by omega
                      have hx0 : xs.length = 0:=by omega
                      have hxs0 : xs = []:=List.eq_nil_of_length_eq_zero hx0
                      subst hxs0
                      subst hn0
                      have hus : us = []:=List.eq_nil_of_length_eq_zero (by simpa using hxn)
                      subst hus
                      have hrun:=run_append_in (P:=P) (w:=w) (ty:=ty) hd ht2 g1 (base:=base) (n:=0) (cap:=0) (xa:=xa) (m:=0) (xc:=xc) (news:=#[]) hr0 (Nat.le_refl _) (w':=w) (fun a _=>rfl) (fun _=>rfl)
                      obtain ⟨p1,p2⟩:=hH.drop b
                      obtain ⟨q1,q2⟩:=p1.pushNone ei.size
                      have he0 : ys ++ [] = []:=by rw [List.append_nil]; exact List.eq_nil_of_length_eq_zero hdl
                      rw [he0] at hK
                      refine ⟨_,w,F,_,_,.w (.one (.ref H.length 0 0)),hrun,q1,p2.trans q2,?_,Fr.refl,hK⟩
                      refine ⟨by simp,base,0,rfl,Nat.le_refl _,fun sz' es' wr' he'=>⟨by simp,.inl rfl⟩⟩
                    · have hil : pl.off + i * ei.size≤pl.lim:=by
                        have : i * ei.size≤(i + cap) * ei.size:=Nat.mul_le_mul_right _ (by omega)
                        omega
                      obtain ⟨p1,p2⟩:=hH.moveCut hys.symm hb hm (by omega) hil
                      have hb2 : (H.set b .gone ++ [Entry.vec ei.size ys true])[H.length]? = some (.vec ei.size ys true):=by rw [List.getElem?_append_right (by simp)]; simp
                      have hm2 : (μ ++ [some (⟨pl.blk,pl.off + i * ei.size,pl.lim⟩ : Place)])[H.length]? = some (some ⟨pl.blk,pl.off + i * ei.size,pl.lim⟩):=by rw [← hH.len]; simp
                      obtain ⟨hes2,hent2⟩:=p1.ent H.length _ hb2
                      rcases hent2 with ⟨hmn,_⟩ | ⟨pl',vs,ty',fz,hm',hblk,hszl,hw1,hw2,hr⟩
                      · rw [List.getD_eq_getElem?_getD,hm2] at hmn; simp at hmn
                      · have : pl' = ⟨pl.blk,pl.off + i * ei.size,pl.lim⟩:=by
                          rw [List.getD_eq_getElem?_getD,hm2] at hm'
                          simpa using hm'.symm
                        subst this
                        obtain ⟨rfl,hnF⟩:=hw1 rfl
                        simp only at hszl hblk hr hnF
                        have hvs : vs.toList.length = vs.size:=by simp
                        have hmul : (i + (n + xs.length)) * ei.size≤(i + cap) * ei.size:=Nat.mul_le_mul_right _ (by omega)
                        rw [hdl] at hr
                        have hsum : (i + (n + xs.length)) * ei.size = i * ei.size + n * ei.size + us.length:=by
                          rw [hxn,Nat.add_mul,Nat.add_mul]; omega
                        have hst:=run_store (P:=P) (w:=w) (b:=pl.blk) (o:=pl.off + i * ei.size + n * ei.size) (vs:=us) hblk (by omega) hxr.one
                        have hrun:=run_append_in (P:=P) (w:=w) (ty:=ty) hd ht2 g1 (base:=some ⟨pl.blk,pl.off + i * ei.size,none⟩) (n:=n) (cap:=cap) (xa:=xa) (m:=xs.length) (xc:=xc) (news:=us.toArray) hr0 hroom (w':=w.setRow pl.blk (splice vs.toList (pl.off + i * ei.size + n * ei.size) us).toArray) (fun a ha=>by
                          obtain rfl:=Option.some.inj ha
                          rw [add_none,g2]
                          exact hst) (fun q=>by cases q)
                        have hlsum : (ys ++ xs).length * ei.size = n * ei.size + us.length:=by rw [List.length_append,hdl,Nat.add_mul,hxn]
                        obtain ⟨q1,q2⟩:=p1.write (w':=w.setRow pl.blk (splice vs.toList (pl.off + i * ei.size + n * ei.size) us).toArray) hb2 rfl hm2 (e':=.vec ei.size (ys ++ xs) true) ⟨rfl,rfl,rfl,rfl,by simp [Entry.cnt]⟩ (fun k hk=>setRow_other w _ _ _ hk) (by simp) rfl rfl rfl (fun H' hle=>by
                          refine ⟨fun x hx=>?_,.inr ⟨_,_,ty',_,rfl,setRow_heap w _ vs _ ty' _ hblk,?_,fun _=>⟨rfl,hnF⟩,(fun q=>by cases q),?_⟩⟩
                          · rcases List.mem_append.1 hx with hx | hx
                            · exact hes2 x hx
                            · exact hxl x hx
                          · rw [List.size_toArray,splice_len _ _ _ (by omega)]
                            exact ⟨by rw [hvs]; exact hszl.1,by rw [hvs]; exact hszl.2⟩
                          · rw [List.flatten_append]
                            have h3:=(hr.mono hle.fr hle.heap).append ((hxr.mono p2.fr p2.heap).mono hle.fr hle.heap)
                            have he : (((splice vs.toList (pl.off + i * ei.size + n * ei.size) us).toArray).toList.drop (pl.off + i * ei.size)).take ((ys ++ xs).length * ei.size) = (vs.toList.drop (pl.off + i * ei.size)).take (n * ei.size) ++ us:=by
                              show ((splice vs.toList (pl.off + i * ei.size + n * ei.size) us).drop (pl.off + i * ei.size)).take ((ys ++ xs).length * ei.size) = _
                              rw [hlsum,ext_splice _ _ _ _ _ (Nat.le_refl _) (by omega)]
                              unfold splice
                              have hd0 : ((vs.toList.drop (pl.off + i * ei.size)).take (n * ei.size + us.length)).drop (n * ei.size + us.length) = []:=List.drop_eq_nil_of_le (by rw [List.length_take,List.length_drop]; omega)
                              rw [List.take_take,Nat.min_eq_left (by omega),hd0,List.append_nil]
                            simp only [he]
                            exact h3)
                        have hset : (H.set b .gone ++ [Entry.vec ei.size ys true]).set H.length (.vec ei.size (ys ++ xs) true) = H.set b .gone ++ [.vec ei.size (ys ++ xs) true]:=by
                          rw [List.set_append_right _ _ (by simp)]
                          simp
                        rw [hset] at q1 q2
                        refine ⟨_,_,F,_,_,.w (.one (.ref H.length 0 (n + xs.length))),hrun,q1,p2.trans q2,?_,setRow_fr hb rfl hm (by simp [ownIds]),hK⟩
                        refine ⟨by simp,_,cap,rfl,hroom,fun sz' es' wr' he'=>?_⟩
                        rw [List.getElem?_append_right (by simp)] at he'
                        simp at he'
                        obtain ⟨rfl,rfl,rfl⟩:=he'
                        refine ⟨by simp; omega,.inr ⟨⟨pl.blk,pl.off + i * ei.size,pl.lim⟩,by rw [← hH.len]; simp,by simp,?_⟩⟩
                        simp only [Nat.zero_add]
                        have : pl.off + i * ei.size + cap * ei.size = pl.off + (i + cap) * ei.size:=by rw [Nat.add_assoc,← Nat.add_mul]
                        omega
                  · obtain ⟨oa,oc,ous,ho1,ho2,ho3,ho4,ho6⟩:=elems_ok (sz:=ei.size) (x:=.w (.one (.ref b i n))) (xs:=(es.drop i).take n) hH (by simp [elemsT,hb]) (show RepV F μ H w (.w (.one (.ref b i n))) (.slice base n cap) from ⟨hbl,base,cap,rfl,hnc,hpl⟩)
                    rw [hys] at ho1 ho2 ho3 ho4
                    rw [hdl] at ho1 ho4
                    have hoa : base = oa∧cap = oc:=by simpa using ho1
                    obtain ⟨rfl,rfl⟩:=hoa
                    have ho5 : ∀ w',w'.heap = w.heap→(Builtin.firstCells ei.size n (.slice base n cap)).run P w' = .ok ous.toArray w':=fun w' hw=>by
                      have:=run_first (P:=P) (w:=w') (cap:=cap) ho4 (ho6 w' hw) n (Nat.le_refl _)
                      rwa [List.take_of_length_le (by omega)] at this
                    have hr0:=hxrun w.drew rfl
                    have ho0:=ho5 w.drew rfl
                    rw [← g2] at hr0 ho0
                    have hrun:=run_append_new (P:=P) (w:=w) (ty:=ty) hd ht2 g1 g4 (base:=base) (n:=n) (cap:=cap) (xa:=xa) (m:=xs.length) (xc:=xc) (olds:=ous.toArray) (news:=us.toArray) hr0 ho0 hroom (by rw [g3]; exact hby) hl
                    obtain ⟨p1,p2⟩:=hH.drop b
                    obtain ⟨d1,d2⟩:=p1.drew
                    have hge:=grownCap_ge' w (n + xs.length) cap e
                    have hle2:=p2.trans d2
                    obtain ⟨q1,q2,q3⟩:=newVec_ok d1 (ty:=e) (cs:=ous.toArray ++ us.toArray ++ Builtin.zeroCells z.cells (grownCap w (n + xs.length) cap e - (n + xs.length))) (sz:=ei.size) (n:=n + xs.length) (cap:=grownCap w (n + xs.length) cap e) (es:=ys ++ xs) (fun x hx=>by
                        rcases List.mem_append.1 hx with hx | hx
                        · exact ho2 x hx
                        · exact hxl x hx) (by
                        have : (ous.toArray ++ us.toArray ++ Builtin.zeroCells z.cells (grownCap w (n + xs.length) cap e - (n + xs.length))).toList.take ((ys ++ xs).length * ei.size) = ous ++ us:=by
                          rw [Array.toList_append,Array.toList_append,List.length_append,hdl,Nat.add_mul,← hxn,← ho4,← List.length_append]
                          exact List.take_left
                        rw [this,List.flatten_append]
                        exact (ho3.mono hle2.fr hle2.heap).append (hxr.mono hle2.fr hle2.heap)) (by rw [List.length_append,hdl]) hge (by
                        rw [Array.size_append,Array.size_append,size_zero,g5,List.size_toArray,List.size_toArray,hxn,ho4,← Nat.add_mul,← Nat.add_mul]
                        exact Nat.mul_le_mul_right _ (by omega))
                    have hlen' : (H.set b .gone).length = H.length:=by simp
                    rw [hlen'] at q3
                    exact ⟨_,_,F,_,_,.w (.one (.ref H.length 0 (n + xs.length))),hrun,q1,hle2.trans q2,q3,⟨by simp,fun k hk _=>heap_alloc_old w.drew _ hk⟩,hK⟩
                · exact h.elim
            · exact h.elim
          · exact h.elim
      · exact h.elim
    · exact h.elim
  · exact h.elim
theorem run_append_zero {t t' e : TypeId} {ty : TypeId} {i : TypeInfo} {z : Value} (ht : P.underlying t = some (.slice e)) (ht' : P.underlying t' = some (.int .i64)) (hi : P.info? e = some i) (hz : i.zero = some z)
    {base : Option Addr} {m : Int} (hm : 0 < m) (hsz : i.size = z.cells.size) (hb : m * i.bytes≤2 ^ 46) (hl : m≤2 ^ 46) :
    (Builtin.append_ #[t,t'] ty #[.slice base 0 0,.int .i64 m]).run P w = .ok (.slice (some ⟨w.heap.size,0,none⟩) m.toNat (grownCap w m.toNat 0 e))
      (w.drew.alloc (.cells (Builtin.zeroCells z.cells m.toNat ++ Builtin.zeroCells z.cells (grownCap w m.toNat 0 e - m.toNat)) e)):=by
  have hw : IntKind.i64.wrap m = m:=wrap_small (by omega) hl
  obtain ⟨n,rfl⟩ : ∃ n : Nat,m = (n : Int):=⟨m.toNat,by omega⟩
  have hb' : n * i.bytes≤2 ^ 46:=by exact_mod_cast hb
  have c0 : ¬ (n : Int) < 0:=by omega
  have c1 : ¬ (281474976710656 < (n : Int) * (i.bytes : Int)):=by omega
  have h63' : ¬ (9223372036854775807 < (n : Int)):=by omega
  have h48' : ¬ (281474976710656 < Builtin.nextslicecap n 0 * i.bytes):=by
    have:=growslice_fits (need:=n) (old:=0) (bytes:=i.bytes) (by omega) (by omega)
    omega
  have hn : ¬ n = 0:=by omega
  have ho : (Builtin.firstCells z.cells.size 0 (.slice base 0 0)).run P w.drew = .ok #[] w.drew:=by cases base <;> simp [Builtin.firstCells,loadCells,loadCellsFrom]
  by_cases h0 : z.cells.size = 0
  · have e0 : ∀ k,Builtin.zeroCells z.cells k = #[]:=fun k=>by apply Array.eq_empty_of_size_eq_zero; rw [size_zero,h0,Nat.mul_zero]
    simp [Builtin.append_,run_underlying ht,run_underlying ht',sizeOf,typeInfo,zeroValue,hi,hz,asInt,asIntOf,hw,c0,c1,hn,hsz,h0,h63',h48',Question.forced,newRow,grownCap,e0]
    rw [h0] at ho
    simp [ho]
  · simp [Builtin.append_,run_underlying ht,run_underlying ht',sizeOf,typeInfo,zeroValue,hi,hz,asInt,asIntOf,hw,c0,c1,hn,hsz,h0,h63',h48',Question.forced,newRow,grownCap,ho]
    intro hc
    exact absurd hc (Nat.mul_ne_zero hn h0)
theorem zeroCells_list (z : Array Value) (n : Nat) : (Builtin.zeroCells z n).toList = (List.replicate n z.toList).flatten:=zero_cells z n _ rfl
theorem appendD_ok (hC : CtxOk P C F w) (hH : HeapOk A F μ H w) {t t' ty : TypeId} {s x : TV} {u v : Value} {K : TV→List Entry→Prop} (h : appendD C t t' s x H K) (hs : RepV F μ H w s u) (hx : RepV F μ H w x v) :
    WOk P A F μ H w (ownIds s) (Builtin.append_ #[t,t'] ty #[u,v]) K:=by
  unfold appendD at h
  split at h
  · rename_i m
    obtain ⟨rfl,_⟩:=rep_c hx
    unfold appendZ at h
    split at h
    · rename_i e sz' by' z' cks' ht
      obtain ⟨d,hd,hk⟩:=(hC.ty _ _ ht).kind
      have hdd:=kind_inv.2.2.2.1 e hk
      subst hdd
      split at h
      · rename_i ei hei
        have hT:=hC.ty _ _ hei
        obtain ⟨f,z,g1,g2,g3,g4,g5,g6⟩:=hT.info
        split at h
        · rename_i ht2
          obtain ⟨d2,hd2,hk2⟩:=(hC.ty _ _ ht2).kind
          have:=kind_inv.1 _ hk2
          subst this
          split at h
          · rename_i sz full
            cases full with
            | false=>exact h.elim
            | true =>
              simp only [Bool.not_true,cond_false] at h
              obtain ⟨⟨hm,hb,hl⟩,hK⟩:=h
              have hs' : RepC F w (.sl sz [] true) u:=hs
              obtain ⟨base,rfl⟩ : ∃ base,u = .slice base 0 0:=by
                rcases sl_inv hs' with ⟨_,rfl⟩ | ⟨a,cap,rfl,_,_,hf,_⟩
                · exact ⟨none,rfl⟩
                · exact ⟨some a,by rw [hf rfl]; rfl⟩
              have hrun:=run_append_zero (P:=P) (w:=w) (ty:=ty) hd hd2 g1 g4 (base:=base) hm (by rw [g2,g5]) (by rw [g3]; exact hb) hl
              obtain ⟨d1,d2⟩:=hH.drew
              have hge:=grownCap_ge' w m.toNat 0 e
              have hrz:=(g6 F w).flatten_replicate (n:=m.toNat)
              obtain ⟨q1,q2,q3⟩:=newVec_ok d1 (ty:=e) (cs:=Builtin.zeroCells z.cells m.toNat ++ Builtin.zeroCells z.cells (grownCap w m.toNat 0 e - m.toNat)) (sz:=ei.size) (n:=m.toNat) (cap:=grownCap w m.toNat 0 e) (es:=List.replicate m.toNat ei.zero) (fun x hx=>by rw [List.eq_of_mem_replicate hx]; exact hT.zlen) (by
                  have : (Builtin.zeroCells z.cells m.toNat ++ Builtin.zeroCells z.cells (grownCap w m.toNat 0 e - m.toNat)).toList.take ((List.replicate m.toNat ei.zero).length * ei.size) = (List.replicate m.toNat z.cells.toList).flatten:=by
                    rw [Array.toList_append,List.length_replicate,zeroCells_list]
                    have : (List.replicate m.toNat z.cells.toList).flatten.length = m.toNat * ei.size:=by simp [g5]
                    rw [← this]
                    exact List.take_left
                  rw [this]
                  exact hrz.mono d2.fr d2.heap) (by simp) hge (by
                  rw [Array.size_append,size_zero,size_zero,g5,← Nat.add_mul]
                  exact Nat.mul_le_mul_right _ (by omega))
              exact ⟨_,_,F,_,_,.w (.one (.ref H.length 0 m.toNat)),hrun,q1,d2.trans q2,q3,⟨by simp,fun n hn _=>heap_alloc_old w.drew _ hn⟩,hK⟩
          · exact h.elim
        · exact h.elim
      · exact h.elim
    · exact h.elim
  · exact append_ok hC hH h hs hx
theorem splice_flat {es : List (List PC)} {sz : Nat} (hs : ∀ x∈es,x.length = sz) {ys : List (List PC)} (hy : ∀ x∈ys,x.length = sz) {i : Nat} (hi : i + ys.length≤es.length) : (splice es i ys).flatten = splice es.flatten (i * sz) ys.flatten:=by
  unfold splice
  have hsplit : es.flatten = (es.take i).flatten ++ ((es.drop i).take ys.length).flatten ++ (es.drop (i + ys.length)).flatten:=by
    rw [← List.flatten_append,← List.flatten_append,← List.drop_drop,List.append_assoc,List.take_append_drop,List.take_append_drop]
  have l1 : (es.take i).flatten.length = i * sz:=by rw [flat_len fun x hx=>hs x (List.mem_of_mem_take hx),List.length_take,Nat.min_eq_left (by omega)]
  have l2 : ((es.drop i).take ys.length).flatten.length = ys.length * sz:=by
    rw [flat_len fun x hx=>hs x (List.mem_of_mem_drop (List.mem_of_mem_take hx)),List.length_take,List.length_drop,Nat.min_eq_left (by omega)]
  have l3 : ys.flatten.length = ys.length * sz:=flat_len hy
  rw [List.flatten_append,List.flatten_append,hsplit]
  congr 1
  · rw [List.append_assoc,← l1,List.take_left]
  · congr 1
    rw [l3,show i * sz + ys.length * sz = ((es.take i).flatten ++ ((es.drop i).take ys.length).flatten).length by rw [List.length_append,l1,l2],List.drop_left]
theorem turn_ok (hH : HeapOk A F μ H w) {b i n sz : Nat} {es ys : List (List PC)} {us : List Value} {base : Option Addr} {cap : Nat} (hb : H[b]? = some (.vec sz es true)) (hr : RefOk μ H b i n (.slice base n cap)) (hy : ∀ x∈ys,x.length = sz) (hyr : RepCs F w ys.flatten us) (hyn : ys.length≤n) :
    ∃ w',(∀ a,base = some a→(storeCells a us).run P w = .ok () w')∧(base = none→w' = w)∧HeapOk A F μ (H.set b (.vec sz (splice es i ys) true)) w'∧Le F μ H w F μ (H.set b (.vec sz (splice es i ys) true)) w'∧Fr [b] μ H w w':=by
  obtain ⟨hbl,base',cap',he,hnc,hpl⟩:=hr
  obtain ⟨rfl,rfl⟩ : base = base'∧cap = cap':=by simpa using he
  obtain ⟨hin,hor⟩:=hpl _ _ _ hb
  obtain ⟨hes,hent⟩:=hH.ent b _ hb
  have hyf:=flat_len hy
  have hul:=hyr.length
  have same : ys = []→H.set b (.vec sz (splice es i ys) true) = H:=fun h=>by
    subst h
    have : splice es i [] = es:=by unfold splice; simp
    rw [this]
    apply List.ext_getElem?
    intro j
    rw [List.getElem?_set]
    split
    · rename_i hj; subst hj; exact hb.symm
    · rfl
  by_cases hy0 : ys = []
  · have hus : us = []:=List.eq_nil_of_length_eq_zero (by rw [← hul,hyf,hy0]; simp)
    rw [same hy0,hus]
    exact ⟨w,fun a _=>rfl,fun _=>rfl,hH,Le.refl,Fr.refl⟩
  · have hyp : 0 < ys.length:=List.length_pos_iff.2 hy0
    rcases hor with rfl | ⟨pl,hm,rfl,hlim⟩
    · omega
    · rcases hent with ⟨hmn,_⟩ | ⟨pl',vs,ty',fz,hm',hblk,hszl,hw1,hw2,hr⟩
      · rw [List.getD_eq_getElem?_getD,hm] at hmn; simp at hmn
      · have : pl' = pl:=by
          rw [List.getD_eq_getElem?_getD,hm] at hm'
          simpa using hm'.symm
        subst this
        obtain ⟨rfl,hnF⟩:=hw1 rfl
        have hvs : vs.toList.length = vs.size:=by simp
        have hrl:=hr.length
        have hfl:=flat_len hes
        have hmul : i * sz + ys.length * sz≤es.length * sz:=by rw [← Nat.add_mul]; exact Nat.mul_le_mul_right _ (by omega)
        have hvl : pl'.off + es.length * sz≤vs.size:=by
          rw [List.length_take,List.length_drop,hfl] at hrl
          omega
        have hst:=run_store (P:=P) (w:=w) (b:=pl'.blk) (o:=pl'.off + i * sz) (vs:=us) hblk (by omega) hyr.one
        obtain ⟨p1,p2⟩:=hH.write (w':=w.setRow pl'.blk (splice vs.toList (pl'.off + i * sz) us).toArray) hb rfl hm (e':=.vec sz (splice es i ys) true) ⟨rfl,rfl,rfl,rfl,by simp only [Entry.cnt]; rw [splice_len _ _ _ (by omega)]; exact Nat.le_refl _⟩ (fun k hk=>setRow_other w _ _ _ hk) (by simp) rfl rfl rfl (fun H' hle=>by
          refine ⟨fun x hx=>?_,.inr ⟨pl',_,ty',_,rfl,setRow_heap w _ vs _ ty' _ hblk,?_,fun _=>⟨rfl,hnF⟩,(fun q=>by cases q),?_⟩⟩
          · unfold splice at hx
            rcases List.mem_append.1 hx with hx | hx
            · exact hes x (List.mem_of_mem_take hx)
            · rcases List.mem_append.1 hx with hx | hx
              · exact hy x hx
              · exact hes x (List.mem_of_mem_drop hx)
          · rw [List.size_toArray,splice_len _ _ _ (by omega)]
            exact ⟨by rw [hvs]; exact hszl.1,by rw [hvs]; exact hszl.2⟩
          · rw [splice_flat hes hy (by omega),splice_len _ _ _ (by omega)]
            have h3:=(hr.mono hle.fr hle.heap).splice (hyr.mono hle.fr hle.heap) (i * sz)
            have he : (((splice vs.toList (pl'.off + i * sz) us).toArray).toList.drop pl'.off).take (es.length * sz) = splice ((vs.toList.drop pl'.off).take (es.length * sz)) (i * sz) us :=
              ext_splice _ _ _ _ _ (by omega) (by omega)
            rw [he]
            exact h3)
        exact ⟨_,(fun a ha=>by obtain rfl:=Option.some.inj ha; exact hst),(fun q=>by cases q),p1,p2,setRow_fr hb rfl hm (by simp)⟩
theorem copy_ok (hC : CtxOk P C F w) (hH : HeapOk A F μ H w) {t t' ty : TypeId} {d x : TV} {u v : Value} {K : TV→List Entry→Prop} (h : copyT C t d x H K) (hd : RepV F μ H w d u) (hx : RepV F μ H w x v) :
    WOk P A F μ H w (ownIds d) (Builtin.copy_ #[t,t'] ty #[u,v]) K:=by
  unfold copyT at h
  split at h
  · rename_i e sz' by' z' cks' ht
    obtain ⟨dd,hdd,hk⟩:=(hC.ty _ _ ht).kind
    have hde:=kind_inv.2.2.2.1 e hk
    subst hde
    split at h
    · rename_i ei hei
      have hT:=hC.ty _ _ hei
      obtain ⟨f,z,g1,g2,g3,g4,g5,g6⟩:=hT.info
      split at h
      · rename_i xs b i n hxs
        obtain ⟨xa,xc,us,rfl,hxl,hxr,hxn,hxc⟩:=elems_ok hH hxs hx
        split at h
        · rename_i sz es wr hb
          cases wr with
          | false=>exact h.elim
          | true =>
            simp only [Bool.not_true,cond_false] at h
            split at h
            · rename_i hsz
              subst hsz
              obtain ⟨hin,hK⟩:=h
              have hd' : RefOk μ H b i n u:=hd
              obtain ⟨hbl,base,cap,rfl,hnc,hpl⟩:=hd'
              have hmin : Nat.min xs.length n≤xs.length:=Nat.min_le_left _ _
              have hlt : (xs.take n).length = Nat.min xs.length n:=by rw [List.length_take,Nat.min_comm]
              have hyl : ∀ x∈xs.take n,x.length = ei.size:=fun x hx=>hxl x (List.mem_of_mem_take hx)
              have hyf : (xs.take n).flatten = xs.flatten.take (Nat.min xs.length n * ei.size):=by
                have hsplit : xs.flatten = (xs.take n).flatten ++ (xs.drop n).flatten:=by rw [← List.flatten_append,List.take_append_drop]
                rw [hsplit,← hlt,← flat_len hyl,List.take_left]
              obtain ⟨w',s1,s2,s3,s4,s5⟩:=turn_ok (P:=P) hH (us:=us.take (Nat.min xs.length n * ei.size)) (ys:=xs.take n) hb ⟨hbl,base,cap,rfl,hnc,hpl⟩ hyl (by rw [hyf]; exact hxr.take _) (by rw [hlt]; exact Nat.min_le_right _ _)
              have hf:=run_first (P:=P) (w:=w) (cap:=xc) hxn (hxc w rfl) _ hmin
              refine ⟨.int .i64 (Nat.min xs.length n : Nat),w',F,μ,_,I (Nat.min xs.length n : Nat),?_,s3,s4,RepC.c _ rfl,s5,hK⟩
              rw [← g2] at hf
              cases base with
              | none =>
                obtain rfl:=s2 rfl
                simp [Builtin.copy_,run_underlying hdd,Builtin.lenOf,sizeOf,typeInfo,g1,hf,goInt,← Nat.min_def]
              | some a =>
                have hst:=s1 a rfl
                rw [← g2] at hst
                simp [Builtin.copy_,run_underlying hdd,Builtin.lenOf,sizeOf,typeInfo,g1,hf,goInt,hst,← Nat.min_def]
            · exact h.elim
        · exact h.elim
      · exact h.elim
    · exact h.elim
  · exact h.elim
theorem clear_ok (hC : CtxOk P C F w) (hH : HeapOk A F μ H w) {t ty : TypeId} {x : TV} {v : Value} {K : TV→List Entry→Prop} (h : clearT C t x H K) (hx : RepV F μ H w x v) : WOk P A F μ H w (ownIds x) (Builtin.clear_ #[t] ty #[v]) K:=by
  unfold clearT at h
  split at h
  · rename_i e sz' by' z' cks' ht
    obtain ⟨dd,hdd,hk⟩:=(hC.ty _ _ ht).kind
    have hde:=kind_inv.2.2.2.1 e hk
    subst hde
    split at h
    · rename_i ei hei
      have hT:=hC.ty _ _ hei
      obtain ⟨f,z,g1,g2,g3,g4,g5,g6⟩:=hT.info
      split at h
      · rename_i b i n
        split at h
        · rename_i sz es wr hb
          cases wr with
          | false=>exact h.elim
          | true =>
            simp only [Bool.not_true,cond_false] at h
            split at h
            · rename_i hsz
              subst hsz
              obtain ⟨hin,hK⟩:=h
              have hx' : RefOk μ H b i n v:=hx
              obtain ⟨hbl,base,cap,rfl,hnc,hpl⟩:=hx'
              have hzl : ei.zero.length = ei.size:=hT.zlen
              obtain ⟨w',s1,s2,s3,s4,s5⟩:=turn_ok (P:=P) hH (us:=(List.replicate n z.cells.toList).flatten) (ys:=List.replicate n ei.zero) hb ⟨hbl,base,cap,rfl,hnc,hpl⟩ (fun x hx=>by rw [List.eq_of_mem_replicate hx]; exact hzl) ((g6 F w).flatten_replicate n) (by simp)
              have hzc : (Builtin.zeroCells z.cells n).toList = (List.replicate n z.cells.toList).flatten:=by
                unfold Builtin.zeroCells
                exact zero_cells z.cells n _ rfl
              refine ⟨.tuple #[],w',F,μ,_,undefT,?_,s3,s4,⟨#[],rfl,trivial⟩,s5,hK⟩
              by_cases h0 : n = 0
              · subst h0
                have hw : w' = w:=by
                  cases base with
                  | none=>exact s2 rfl
                  | some a =>
                    have:=s1 a rfl
                    simp [storeCells] at this
                    exact this.symm
                subst hw
                cases base <;> simp [Builtin.clear_,run_underlying hdd]
              · cases base with
                | none =>
                  exfalso
                  have:=hpl _ _ _ hb
                  rcases this.2 with rfl | ⟨pl,_,q,_⟩
                  · omega
                  · cases q
                | some a =>
                  have hst:=s1 a rfl
                  have hn : ∃ k,n = k + 1:=⟨n - 1,by omega⟩
                  obtain ⟨k,rfl⟩:=hn
                  rw [← hzc] at hst
                  simp [Builtin.clear_,run_underlying hdd,zeroValue,typeInfo,g1,g4,hst]
            · exact h.elim
        · exact h.elim
      · exact h.elim
    · exact h.elim
  · exact h.elim
end
end Go.Eng
namespace Go.Eng
open Go.RowKit
section
variable {P : Program} {C : Ctx} {A : Base} {F F' : Nat→Prop} {μ μ' : List (Option Place)} {H H' : List Entry} {w w' : World}
theorem findNow_ok {kd : TypeDesc} {ck : CK} (hk : ckOf (kindOf kd) = some ck) {ag : Bool} {kv : Value} (hkv : isKey ck kv = true) : ∀ {ps : List (Nat×Value×List PC)} {es : List MapEntry} {i : Nat},RepEs F w ck ag ps es →
    (mget kv ps = none∧Instr.findNow kd kv es i = some none)∨∃ x j e,mget kv ps = some x∧es[j]? = some e∧Instr.findNow kd kv es i = some (some (i + j,e.val))∧RepE F w ag x e.val∧(∀ i' e',i' < j→es[i']? = some e'→keyEq kv e'.key = false)∧keyEq kv e.key = true
  | [],[],i,_=>.inl ⟨rfl,rfl⟩
  | p :: ps,e :: es,i,h=>by
    obtain ⟨⟨h0,h1,h2,h3⟩,hr⟩:=h
    have hs : Instr.sameNow kd kv e.key = some (keyEq kv p.2.1):=by
      rw [h1]
      unfold isKey at hkv h2
      cases kd <;> simp [kindOf,ckOf] at hk <;> subst hk <;> cases kv <;> simp at hkv <;> (generalize p.2.1 = q at *; cases q <;> simp at h2) <;> simp_all [Instr.sameNow,keyEq]
    unfold mget Instr.findNow
    rw [hs]
    cases hq : keyEq kv p.2.1 with
    | true=>exact .inr ⟨p.2.2,0,e,rfl,rfl,rfl,h3,fun i' e' hi=>by omega,by rw [h1]; exact hq⟩
    | false =>
      rcases findNow_ok hk hkv (i:=i + 1) hr with ⟨a,b⟩ | ⟨x,j,e',a,b,c,d,d1,d2⟩
      · exact .inl ⟨a,b⟩
      · exact .inr ⟨x,j + 1,e',a,b,by rw [show i + (j + 1) = i + 1 + j by omega]; exact c,d,fun i' e1 hi he=>by
        cases i' with
        | zero =>
          obtain rfl : e = e1:=by simpa using he
          rw [h1]; exact hq
        | succ i'=>exact d1 i' e1 (by omega) (by simpa using he),d2⟩
  | [],_ :: _,_,h=>h.elim
  | _ :: _,[],_,h=>h.elim
theorem HeapOk.pushO (hH : HeapOk A F μ H w) (o : Obj) (e : Entry) (ho : e.owned = true)
    (he : ∀ μ' H',Le F μ H w F μ' H' (w.alloc o)→EntOk F μ' H' (w.alloc o) e (some ⟨w.heap.size,0,0⟩)) :
    HeapOk A F (μ ++ [some ⟨w.heap.size,0,0⟩]) (H ++ [e]) (w.alloc o)∧Le F μ H w F (μ ++ [some ⟨w.heap.size,0,0⟩]) (H ++ [e]) (w.alloc o):=by
  have hold : ∀ n,n < w.heap.size→(w.alloc o).heap[n]? = w.heap[n]?:=fun n hn=>heap_alloc_old w _ hn
  have hle : Le F μ H w F (μ ++ [some ⟨w.heap.size,0,0⟩]) (H ++ [e]) (w.alloc o):=by
    refine ⟨fun _ h=>h,fun n hn=>hold n (hH.frlt n hn),by simp,fun b e' hb he' hl=>?_⟩
    rw [List.getElem?_append_left hb] at he'
    exact ⟨e',he',hl,rfl,rfl,Nat.le_refl _,by rw [List.getElem?_append_left (by rw [hH.len]; exact hb)]⟩
  have hget : ∀ b e',(H ++ [e])[b]? = some e'→(b < H.length∧H[b]? = some e')∨(b = H.length∧e' = e):=fun b e' h=>by
    rcases Nat.lt_or_ge b H.length with hb | hb
    · rw [List.getElem?_append_left hb] at h; exact .inl ⟨hb,h⟩
    · rw [List.getElem?_append_right hb] at h
      have : b - H.length = 0:=by have:=(List.getElem?_eq_some_iff.1 h).1; simpa using this
      rw [this] at h
      exact .inr ⟨by omega,by simpa using h.symm⟩
  have hmu : ∀ b,b < H.length→(μ ++ [some ⟨w.heap.size,0,0⟩])[b]? = μ[b]?:=fun b hb=>List.getElem?_append_left (by rw [hH.len]; exact hb)
  have hmul : (μ ++ [some (⟨w.heap.size,0,0⟩ : Place)])[H.length]? = some (some ⟨w.heap.size,0,0⟩):=by rw [← hH.len]; simp
  refine ⟨⟨by simp [hH.len],fun b e' hb=>?_,fun b c e1 f1 pl ql hne h1 h2 h3 h4 h5 h6=>?_,hH.os,hH.tape,hH.output,by have:=hH.size; simp; omega,fun n hn hno=>(hold n (Nat.lt_of_lt_of_le hn hH.size)).trans (hH.block n hn hno),fun b e1 pl h1 h2 h3=>?_,hH.fr0,hH.fr1,fun n hn=>by have:=hH.frlt n hn; simp; omega,fun b e1 hb h1 hl=>?_,by have:=hH.mle; simp; omega⟩,hle⟩
  · rcases hget b e' hb with ⟨hlt,h⟩ | ⟨rfl,rfl⟩
    · rw [List.getD_eq_getElem?_getD,hmu b hlt,← List.getD_eq_getElem?_getD]
      refine EntOk.step hle (fun pl hpl hw=>⟨hold _ ?_,id⟩) (hH.ent b e' h)
      exact hH.blk h (by cases e' <;> first | rfl | cases hw) (getD_some hpl)
    · rw [List.getD_eq_getElem?_getD,hmul]
      exact he _ _ hle
  · rcases hget b e1 h1 with ⟨hlt,h1'⟩ | ⟨rfl,rfl⟩ <;> rcases hget c f1 h4 with ⟨hlt',h4'⟩ | ⟨rfl,rfl⟩
    · rw [hmu b hlt] at h3
      rw [hmu c hlt'] at h6
      exact hH.dist b c e1 f1 pl ql hne h1' h2 h3 h4' h5 h6
    · rw [hmu b hlt] at h3
      rw [hmul] at h6
      have:=hH.blk h1' (by cases e1 <;> first | rfl | cases h2) h3
      obtain rfl : (⟨w.heap.size,0,0⟩ : Place) = ql:=by simpa using h6
      exact Nat.ne_of_lt this
    · rw [hmu c hlt'] at h6
      rw [hmul] at h3
      have:=hH.blk h4' (by cases f1 <;> first | rfl | cases h5) h6
      obtain rfl : (⟨w.heap.size,0,0⟩ : Place) = pl:=by simpa using h3
      exact Nat.ne_of_gt this
    · exact absurd rfl hne
  · rcases hget b e1 h1 with ⟨hlt,h1'⟩ | ⟨rfl,rfl⟩
    · rw [hmu b hlt] at h3
      exact hH.own b e1 pl h1' h2 h3
    · rw [hmul] at h3
      obtain rfl : (⟨w.heap.size,0,0⟩ : Place) = pl:=by simpa using h3
      exact .inr hH.size
  · have hlt : b < H.length:=Nat.lt_of_lt_of_le hb hH.mle
    rcases hget b e1 h1 with ⟨_,h1'⟩ | ⟨rfl,rfl⟩
    · exact ⟨(hmu b hlt).trans (hH.held b e1 hb h1' hl).1,(hH.held b e1 hb h1' hl).2⟩
    · omega
theorem makeMap_ok (hC : CtxOk P C F w) (hH : HeapOk A F μ H w) {M : List Nat} {t : TypeId} {K : TV→List Entry→Prop} (h : makeMapT C t H K) : WOk P A F μ H w M (Instr.makeMap t none) K:=by
  unfold makeMapT at h
  split at h
  · rename_i k e sz' by' z' cks' ht
    split at h
    · rename_i ki ei hki hei
      split at h
      · rename_i ck hck
        have hrun : (Instr.makeMap t none).run P w = .ok (.map (some w.heap.size)) (w.alloc (.map #[] 0)):=rfl
        obtain ⟨k1,k2⟩:=hH.pushO (.map #[] 0) (.mp ck (aggK ei.kind) .new) rfl fun μ' H' hle=>by
          refine ⟨⟨w.heap.size,0,0⟩,#[],rfl,heap_alloc_new w _,fun q=>?_,trivial⟩
          exact absurd (hH.frlt _ q) (Nat.lt_irrefl _)
        refine ⟨_,_,F,_,_,.w (.one (.mref H.length)),hrun,k1,k2,?_,Fr.alloc _,h⟩
        refine ⟨by simp,w.heap.size,rfl,fun e he hl=>⟨⟨w.heap.size,0,0⟩,by rw [← hH.len]; simp,rfl⟩⟩
      · exact h.elim
    · exact h.elim
  · exact h.elim
theorem mapOf_ok (hH : HeapOk A F μ H w) {ck : CK} {ag : Bool} {m : TV} {u : Value} {ob : Option Nat} {es : MP} (h : mapOf H ck ag m = some (ob,es)) (hm : RepV F μ H w m u) :
    (ob = none∧es = .new∧u = .map none)∨∃ b pl arr,ob = some b∧mapIds m = [b]∧H[b]? = some (.mp ck ag es)∧μ[b]? = some (some pl)∧u = .map (some pl.blk)∧w.heap[pl.blk]? = some (.map arr es.cl)∧RepEs F w ck ag es.es arr.toList:=by
  unfold mapOf at h
  split at h
  · obtain ⟨rfl,rfl⟩ : none = ob∧.new = es:=by simpa using h
    obtain ⟨rfl,_⟩:=rep_c hm
    exact .inl ⟨rfl,rfl,rfl⟩
  · rename_i b
    split at h
    · rename_i ck' ag' es' hb
      split at h
      · rename_i hc
        obtain ⟨rfl,rfl⟩:=hc
        obtain ⟨rfl,rfl⟩ : some b = ob∧es' = es:=by simpa using h
        obtain ⟨_,B,rfl,hpl⟩:=hm
        obtain ⟨pl,q1,rfl⟩:=hpl _ hb rfl
        obtain ⟨pl',arr,e1,e2,e3,e4⟩:=hH.ent b _ hb
        rw [List.getD_eq_getElem?_getD,q1] at e1
        obtain rfl : pl = pl':=by simpa using e1
        exact .inr ⟨b,pl,arr,rfl,rfl,hb,q1,rfl,e2,e4⟩
      · cases h
    · cases h
  · cases h
theorem checkKey_ok {kt : TypeId} {kd : TypeDesc} (hd : P.underlying kt = some kd) {ck : CK} (hk : ckOf (kindOf kd) = some ck) {kv : Value} {em : Bool} {n : Nat} : (Instr.checkKey em (n + 1) kt kv).run P w = .ok () w:=by
  cases kd <;> simp [kindOf,ckOf] at hk <;> cases kv <;> simp [Instr.checkKey,run_underlying hd]
theorem findKey_ok {kt : TypeId} {kd : TypeDesc} (hd : P.underlying kt = some kd) {kv : Value} {es : List MapEntry} {r : Option (Nat×Value)} (h : Instr.findNow kd kv es 0 = some r) : (Instr.findKey kt kv es).run P w = .ok r w:=by
  simp [Instr.findKey,run_underlying hd,h]
theorem lookup_ok (hC : CtxOk P C F w) (hH : HeapOk A F μ H w) {M : List Nat} {t : TypeId} {m k : TV} {ok : Bool} {u v : Value} {K : TV→List Entry→Prop} (h : lookupT C t m k ok H fun v=>K v H) (hm : RepV F μ H w m u) (hkr : RepV F μ H w k v) : WOk P A F μ H w M (Instr.lookup t u v ok) K:=by
  unfold lookupT at h
  split at h
  · rename_i kt e sz' by' z' cks' ht
    obtain ⟨d,hd,hk⟩:=(hC.ty _ _ ht).kind
    have hdd:=kind_map hk
    subst hdd
    split at h
    · rename_i ki ei hki hei
      obtain ⟨kd,hkd,hkk⟩:=(hC.ty _ _ hki).kind
      have hT:=hC.ty _ _ hei
      obtain ⟨f,z,g1,g2,g3,g4,g5,g6⟩:=hT.info
      split at h
      · rename_i ck kv hck
        obtain ⟨rfl,_⟩:=rep_c hkr
        have hck' : ckOf (kindOf kd) = some ck:=by rw [hkk]; exact hck
        cases hik : isKey ck v with
        | false=>rw [hik] at h; exact h.elim
        | true =>
          rw [hik] at h
          simp only [Bool.not_true,cond_false] at h
          split at h
          · rename_i ob es hmo
            have hag : aggK ei.kind = isAggK ei.kind:=by cases ei.kind <;> rfl
            have fin : ∀ (cs : List PC) (x : Value) (b : Bool),RepE F w (aggK ei.kind) cs x→asType ei cs (fun v=>K (okTup ok v b) H)→∃ tv,RepV F μ H w tv (if ok = true then .tuple #[x,.bool b] else x)∧K tv H:=by
              rintro cs x b ⟨vs,e1,e2⟩ ha
              obtain ⟨hl,tv,htv,hK⟩:=asType_rep (μ:=μ) (H:=H) hT ha e2
              have hx : x = valOf ei.kind vs:=by rw [e1]; unfold valOf; rw [← hag]
              rw [← hx] at htv
              refine ⟨_,?_,hK⟩
              cases ok with
              | false=>exact htv
              | true =>
                cases tv with
                | w y=>exact ⟨_,rfl,htv,⟨.c _ rfl,trivial⟩⟩
                | tup ys =>
                  exfalso
                  obtain ⟨q,hq,_⟩:=htv
                  rw [e1] at hq
                  cases hg : aggK ei.kind with
                  | true=>rw [hg] at hq; cases hq
                  | false =>
                    rw [hg] at hq
                    cases vs with
                    | nil =>
                      have:=hT.size (fun n e q=>by rw [q] at hg; cases hg) (fun fs q=>by rw [q] at hg; cases hg)
                      rw [this] at hl; cases hl
                    | cons y _ =>
                      have h1:=RepCs.one e2 y (by simp)
                      have hq : y = _:=hq
                      rw [hq] at h1
                      cases h1
            have hz : RepE F w (aggK ei.kind) ei.zero z:=⟨z.cells.toList,isAggV_is (hT.zsh f z g1 g4),g6 F w⟩
            have hzr : ∀ w',(zeroValue e).run P w' = .ok z w':=fun w'=>by simp [zeroValue,typeInfo,g1,g4]
            rcases mapOf_ok hH hmo hm with ⟨rfl,rfl,rfl⟩ | ⟨b,pl,arr,rfl,_,hb,hmu,rfl,hobj,hre⟩
            · have hf : Instr.findNow kd v [] 0 = some none:=rfl
              have hrun : (Instr.lookup t (.map none) v ok).run P w = .ok (if ok = true then .tuple #[z,.bool false] else z) w:=by
                cases ok <;> simp [Instr.lookup,run_underlying hd,checkKey_ok hkd hck',findKey_ok hkd hf,hzr]
              obtain ⟨tv,h1,h2⟩:=fin _ _ _ hz h
              exact ⟨_,w,F,_,_,tv,hrun,hH,Le.refl,h1,Fr.refl,h2⟩
            · have hgo : (getObj pl.blk).run P w = .ok (.map arr es.cl) w:=by simp [getObj,Sem.run,hobj]
              rcases findNow_ok hck' hik (i:=0) hre with ⟨a1,a2⟩ | ⟨x,j,en,a1,a2,a3,a4,_,_⟩
              · have hrun : (Instr.lookup t (.map (some pl.blk)) v ok).run P w = .ok (if ok = true then .tuple #[z,.bool false] else z) w:=by
                  cases ok <;> simp [Instr.lookup,run_underlying hd,hgo,checkKey_ok hkd hck',findKey_ok hkd a2,hzr]
                unfold MP.get at h
                rw [a1] at h
                obtain ⟨tv,h1,h2⟩:=fin _ _ _ hz h
                exact ⟨_,w,F,_,_,tv,hrun,hH,Le.refl,h1,Fr.refl,h2⟩
              · have hrun : (Instr.lookup t (.map (some pl.blk)) v ok).run P w = .ok (if ok = true then .tuple #[en.val,.bool true] else en.val) w:=by
                  cases ok <;> simp [Instr.lookup,run_underlying hd,hgo,checkKey_ok hkd hck',findKey_ok hkd a3]
                unfold MP.get at h
                rw [a1] at h
                obtain ⟨tv,h1,h2⟩:=fin _ _ _ a4 h
                exact ⟨_,w,F,_,_,tv,hrun,hH,Le.refl,h1,Fr.refl,h2⟩
          · exact h.elim
      · exact h.elim
    · exact h.elim
  · exact h.elim
theorem beqBA (a b : ByteArray) : (a == b) = decide (a = b):=by
  cases a with
  | mk x =>
    cases b with
    | mk y =>
      show (x == y) = _
      rw [Bool.eq_iff_iff]
      simp
theorem sameBits_key {ck : CK} {k q : Value} (h1 : isKey ck k = true) (h2 : isKey ck q = true) (h : keyEq k q = true) : k = q:=by
  unfold isKey at h1 h2
  cases ck <;> cases k <;> simp at h1 <;> cases q <;> simp at h2 <;> simp_all [keyEq,beqBA]
theorem sameBits_refl {ck : CK} {k : Value} (h1 : isKey ck k = true) : Instr.sameBits 10000 k k = true:=by
  unfold isKey at h1
  cases ck <;> cases k <;> simp at h1 <;> simp [Instr.sameBits,beqBA]
theorem put_rep {ck : CK} {ag : Bool} {kv : Value} (hkv : isKey ck kv = true) {x : List PC} {v : Value} (hx : RepE F w ag x v) {clock : Nat} : ∀ {ps : List (Nat×Value×List PC)} {es : List MapEntry},RepEs F w ck ag ps es →
    (mget kv ps = none→RepEs F w ck ag (mput kv x clock ps) (es ++ [{ key:=kv,val:=v,born:=clock }])) ∧
    ∀ j e,es[j]? = some e→(∀ i e',i < j→es[i]? = some e'→keyEq kv e'.key = false)→keyEq kv e.key = true→RepEs F w ck ag (mput kv x clock ps) (es.modify j fun e=>{ e with key:=kv,val:=v })
  | [],[],_=>⟨fun _=>⟨⟨rfl,rfl,hkv,hx⟩,trivial⟩,fun j e h=>by simp at h⟩
  | p :: ps,e0 :: es,h=>by
    obtain ⟨⟨h0,h1,h2,h3⟩,hr⟩:=h
    obtain ⟨i1,i2⟩:=put_rep hkv hx (clock:=clock) hr
    refine ⟨fun hn=>?_,fun j e hj hb he=>?_⟩
    · unfold mget at hn
      unfold mput
      cases hq : keyEq kv p.2.1 with
      | true=>rw [hq] at hn; cases hn
      | false=>rw [hq] at hn; exact ⟨⟨h0,h1,h2,h3⟩,i1 hn⟩
    · unfold mput
      cases j with
      | zero =>
        obtain rfl : e0 = e:=by simpa using hj
        rw [h1] at he
        rw [he]
        exact ⟨⟨h0,rfl,hkv,hx⟩,hr⟩
      | succ j =>
        have hq:=hb 0 e0 (by omega) rfl
        rw [h1] at hq
        rw [hq]
        exact ⟨⟨h0,h1,h2,h3⟩,i2 j e (by simpa using hj) (fun i e' hi he'=>hb (i + 1) e' (by omega) (by simpa using he')) he⟩
  | [],_ :: _,h=>h.elim
  | _ :: _,[],h=>h.elim
theorem del_rep {ck : CK} {ag : Bool} {kv : Value} : ∀ {ps : List (Nat×Value×List PC)} {es : List MapEntry},RepEs F w ck ag ps es →
    (mget kv ps = none→RepEs F w ck ag (mdel kv ps) es) ∧
    ∀ j e,es[j]? = some e→(∀ i e',i < j→es[i]? = some e'→keyEq kv e'.key = false)→keyEq kv e.key = true→RepEs F w ck ag (mdel kv ps) (es.eraseIdx j)
  | [],[],_=>⟨fun _=>trivial,fun j e h=>by simp at h⟩
  | p :: ps,e0 :: es,h=>by
    obtain ⟨⟨h0,h1,h2,h3⟩,hr⟩:=h
    obtain ⟨i1,i2⟩:=del_rep (kv:=kv) hr
    refine ⟨fun hn=>?_,fun j e hj hb he=>?_⟩
    · unfold mget at hn
      unfold mdel
      cases hq : keyEq kv p.2.1 with
      | true=>rw [hq] at hn; cases hn
      | false=>rw [hq] at hn; exact ⟨⟨h0,h1,h2,h3⟩,i1 hn⟩
    · unfold mdel
      cases j with
      | zero =>
        obtain rfl : e0 = e:=by simpa using hj
        rw [h1] at he
        rw [he]
        exact hr
      | succ j =>
        have hq:=hb 0 e0 (by omega) rfl
        rw [h1] at hq
        rw [hq]
        exact ⟨⟨h0,h1,h2,h3⟩,i2 j e (by simpa using hj) (fun i e' hi he'=>hb (i + 1) e' (by omega) (by simpa using he')) he⟩
  | [],_ :: _,h=>h.elim
  | _ :: _,[],h=>h.elim
theorem val_rep {ag : Bool} {y : TW} {ps : List PC} {v : Value} (hp : pures y.cells = some ps) (hs : shapeOk ag y = true) (hy : RepW F μ H w y v) : RepE F w ag ps v:=by
  cases y with
  | one x =>
    cases ag with
    | true=>cases hs
    | false =>
      cases x with
      | p x =>
        have : [x] = ps:=by simpa [TW.cells,pures] using hp
        subst this
        exact ⟨[v],rfl,hy,trivial⟩
      | _=>simp [TW.cells,pures] at hp
  | agg xs =>
    cases ag with
    | false=>cases hs
    | true =>
      obtain ⟨cs,rfl,r⟩:=hy
      exact ⟨cs.toList,by simp,RepTs.pures hp r⟩
  | pagg xs =>
    cases ag with
    | false=>cases hs
    | true =>
      obtain ⟨cs,rfl,r⟩:=hy
      exact ⟨cs.toList,by simp,RepTs.pures hp (RepTs.of_pure (μ:=μ) (H:=H) r)⟩
theorem RepEs.key {ck : CK} {ag : Bool} : ∀ {ps : List (Nat×Value×List PC)} {es : List MapEntry},RepEs F w ck ag ps es→∀ (j : Nat) (e : MapEntry),es[j]? = some e→isKey ck e.key = true
  | [],[],_,j,e,h=>by simp at h
  | p :: ps,e0 :: es,h,0,e,he=>by
    obtain rfl : e0 = e:=by simpa using he
    rw [h.1.2.1]; exact h.1.2.2.1
  | p :: ps,e0 :: es,h,j + 1,e,he=>RepEs.key h.2 j e (by simpa using he)
  | [],_ :: _,h,_,_,_=>h.elim
  | _ :: _,[],h,_,_,_=>h.elim
theorem mapUpdate_ok (hC : CtxOk P C F w) (hH : HeapOk A F μ H w) {t : TypeId} {m k x : TV} {u v y : Value} {K : List Entry→Prop} (h : mapUpdateT C t m k x H K) (hm : RepV F μ H w m u) (hkr : RepV F μ H w k v) (hx : RepV F μ H w x y) :
    ∃ b,mapIds m = [b]∧∃ w' H',(Instr.mapUpdate t u v y).run P w = .ok () w'∧HeapOk A F μ H' w'∧Le F μ H w F μ H' w'∧Fr [b] μ H w w'∧K H':=by
  unfold mapUpdateT at h
  split at h
  · rename_i kt e sz' by' z' cks' ht
    obtain ⟨d,hd,hk⟩:=(hC.ty _ _ ht).kind
    have hdd:=kind_map hk
    subst hdd
    split at h
    · rename_i ki ei hki hei
      obtain ⟨kd,hkd,hkk⟩:=(hC.ty _ _ hki).kind
      split at h
      · rename_i ck kv yy hck
        obtain ⟨rfl,_⟩:=rep_c hkr
        have hck' : ckOf (kindOf kd) = some ck:=by rw [hkk]; exact hck
        cases hik : isKey ck v with
        | false=>rw [hik] at h; exact h.elim
        | true =>
          rw [hik] at h
          simp only [Bool.not_true,cond_false] at h
          split at h
          · rename_i ps hps
            cases hsz : (ps.length == ei.size && shapeOk (aggK ei.kind) yy) with
            | false=>rw [hsz] at h; exact h.elim
            | true =>
              rw [hsz] at h
              simp only [cond_true] at h
              rw [Bool.and_eq_true] at hsz
              split at h
              · rename_i b es hmo
                have hval:=val_rep hps hsz.2 hx
                rcases mapOf_ok hH hmo hm with ⟨q,_,_⟩ | ⟨b',pl,arr,q,hids,hb,hmu,rfl,hobj,hre⟩
                · cases q
                · obtain rfl : b = b':=by simpa using q
                  have hgo : (getObj pl.blk).run P w = .ok (.map arr es.cl) w:=by simp [getObj,Sem.run,hobj]
                  have hblk : pl.blk < w.heap.size:=(Array.getElem?_eq_some_iff.1 hobj).1
                  have fin : ∀ (arr' : Array MapEntry) (clock' : Nat),clock' = (es.put v ps).cl→RepEs F w ck (aggK ei.kind) (mput v ps es.cl es.es) arr'.toList→(Instr.mapUpdate t (.map (some pl.blk)) v y).run P w = .ok () { w with heap:=w.heap.setIfInBounds pl.blk (.map arr' clock') } →
                      ∃ b,mapIds m = [b]∧∃ w' H',(Instr.mapUpdate t (.map (some pl.blk)) v y).run P w = .ok () w'∧HeapOk A F μ H' w'∧Le F μ H w F μ H' w'∧Fr [b] μ H w w'∧K H':=fun arr' clock' hcl hr' hrun=>by
                    have hnF:=hH.notF hb rfl hmu
                    have hoth : ∀ n,n≠pl.blk→({ w with heap:=w.heap.setIfInBounds pl.blk (.map arr' clock') } : World).heap[n]? = w.heap[n]?:=fun n hn=>by
                      show (w.heap.setIfInBounds pl.blk _)[n]? = _
                      rw [Array.getElem?_setIfInBounds,if_neg (fun q=>hn q.symm)]
                    obtain ⟨p1,p2⟩:=hH.write (w':={ w with heap:=w.heap.setIfInBounds pl.blk (.map arr' clock') }) hb rfl hmu (e':=.mp ck (aggK ei.kind) (es.put v ps)) ⟨rfl,rfl,rfl,rfl,Nat.le_refl _⟩ hoth (by simp) rfl rfl rfl (fun H' hle=>by
                      refine ⟨pl,arr',rfl,?_,hnF,hr'.mono hle.fr hle.heap⟩
                      show (w.heap.setIfInBounds pl.blk _)[pl.blk]? = _
                      rw [Array.getElem?_setIfInBounds,if_pos rfl,if_pos hblk,hcl])
                    refine ⟨b,hids,_,_,hrun,p1,p2,⟨by simp,fun n hn hno=>hoth n fun q=>?_⟩,h⟩
                    subst q
                    exact hno b (by simp) _ pl hb rfl hmu rfl
                  rcases findNow_ok hck' hik (i:=0) hre with ⟨a1,a2⟩ | ⟨x',j,en,a1,a2,a3,a4,a5,a6⟩
                  · refine fin (arr.push { key:=v,val:=y,born:=es.cl }) (es.cl + 1) (by simp [MP.put,a1]) ?_ ?_
                    · have:=(put_rep hik hval (clock:=es.cl) hre).1 a1
                      simpa using this
                    · simp [Instr.mapUpdate,run_underlying hd,hgo,checkKey_ok hkd hck',findKey_ok hkd a2,setObj,Sem.run,hobj]
                  · have hek:=hre.key j en a2
                    have hkv : v = en.key:=sameBits_key hik hek a6
                    have hst : (Instr.keyThatStays v v).run P w = .ok v w:=by simp [Instr.keyThatStays,sameBits_refl hik]
                    have hget : arr[j]? = some en:=by rw [← Array.getElem?_toList]; exact a2
                    refine fin (arr.modify j fun e=>{ e with key:=v,val:=y }) es.cl (by simp [MP.put,a1]) ?_ ?_
                    · have:=(put_rep hik hval (clock:=es.cl) hre).2 j en a2 a5 a6
                      simpa using this
                    · rw [Nat.zero_add] at a3
                      simp [Instr.mapUpdate,run_underlying hd,hgo,checkKey_ok hkd hck',findKey_ok hkd a3,hget,← hkv,hst,setObj,Sem.run,hobj]
              · exact h.elim
          · exact h.elim
      · exact h.elim
    · exact h.elim
  · exact h.elim
theorem delete_ok (hC : CtxOk P C F w) (hH : HeapOk A F μ H w) {t t' ty : TypeId} {m k : TV} {u v : Value} {K : TV→List Entry→Prop} (h : deleteT C t m k H K) (hm : RepV F μ H w m u) (hkr : RepV F μ H w k v) :
    WOk P A F μ H w (ownIds m) (Builtin.delete_ #[t,t'] ty #[u,v]) K:=by
  unfold deleteT at h
  split at h
  · rename_i kt e sz' by' z' cks' ht
    obtain ⟨d,hd,hk⟩:=(hC.ty _ _ ht).kind
    have hdd:=kind_map hk
    subst hdd
    split at h
    · rename_i ki ei hki hei
      obtain ⟨kd,hkd,hkk⟩:=(hC.ty _ _ hki).kind
      split at h
      · rename_i ck kv hck
        obtain ⟨rfl,_⟩:=rep_c hkr
        have hck' : ckOf (kindOf kd) = some ck:=by rw [hkk]; exact hck
        cases hik : isKey ck v with
        | false=>rw [hik] at h; exact h.elim
        | true =>
          rw [hik] at h
          simp only [Bool.not_true,cond_false] at h
          split at h
          · rename_i b es hmo
            rcases mapOf_ok hH hmo hm with ⟨q,_,_⟩ | ⟨b',pl,arr,q,hids,hb,hmu,rfl,hobj,hre⟩
            · cases q
            · obtain rfl : b = b':=by simpa using q
              have hgo : (getObj pl.blk).run P w = .ok (.map arr es.cl) w:=by simp [getObj,Sem.run,hobj]
              have hblk : pl.blk < w.heap.size:=(Array.getElem?_eq_some_iff.1 hobj).1
              have hown : ownIds m = [b]:=by
                unfold mapIds at hids
                split at hids
                · simpa [ownIds] using hids
                · cases hids
              have fin : ∀ (arr' : Array MapEntry),RepEs F w ck (aggK ei.kind) (mdel v es.es) arr'.toList→(Builtin.delete_ #[t,t'] ty #[.map (some pl.blk),v]).run P w = .ok (.tuple #[]) { w with heap:=w.heap.setIfInBounds pl.blk (.map arr' es.cl) } →
                  WOk P A F μ H w (ownIds m) (Builtin.delete_ #[t,t'] ty #[.map (some pl.blk),v]) K:=fun arr' hr' hrun=>by
                have hnF:=hH.notF hb rfl hmu
                have hoth : ∀ n,n≠pl.blk→({ w with heap:=w.heap.setIfInBounds pl.blk (.map arr' es.cl) } : World).heap[n]? = w.heap[n]?:=fun n hn=>by
                  show (w.heap.setIfInBounds pl.blk _)[n]? = _
                  rw [Array.getElem?_setIfInBounds,if_neg (fun q=>hn q.symm)]
                obtain ⟨p1,p2⟩:=hH.write (w':={ w with heap:=w.heap.setIfInBounds pl.blk (.map arr' es.cl) }) hb rfl hmu (e':=.mp ck (aggK ei.kind) (es.del v)) ⟨rfl,rfl,rfl,rfl,Nat.le_refl _⟩ hoth (by simp) rfl rfl rfl (fun H' hle=>by
                  refine ⟨pl,arr',rfl,?_,hnF,hr'.mono hle.fr hle.heap⟩
                  show (w.heap.setIfInBounds pl.blk _)[pl.blk]? = _
                  rw [Array.getElem?_setIfInBounds,if_pos rfl,if_pos hblk]
                  rfl)
                refine ⟨_,_,F,μ,_,undefT,hrun,p1,p2,⟨#[],rfl,trivial⟩,⟨by simp,fun n hn hno=>hoth n fun q=>?_⟩,h⟩
                subst q
                exact hno b (by rw [hown]; simp) _ pl hb rfl hmu rfl
              rcases findNow_ok hck' hik (i:=0) hre with ⟨a1,a2⟩ | ⟨x',j,en,a1,a2,a3,a4,a5,a6⟩
              · refine fin arr ((del_rep hre).1 a1) ?_
                simp [Builtin.delete_,run_underlying hd,hgo,checkKey_ok hkd hck',findKey_ok hkd a2,setObj,Sem.run,hobj]
              · refine fin (arr.eraseIdxIfInBounds j) ?_ ?_
                · have:=(del_rep hre).2 j en a2 a5 a6
                  have hj : j < arr.size:=by
                    have:=(List.getElem?_eq_some_iff.1 a2).1
                    simpa using this
                  rw [Array.eraseIdxIfInBounds,dif_pos hj]
                  simpa using this
                · rw [Nat.zero_add] at a3
                  simp [Builtin.delete_,run_underlying hd,hgo,checkKey_ok hkd hck',findKey_ok hkd a3,setObj,Sem.run,hobj]
          · exact h.elim
      · exact h.elim
    · exact h.elim
  · exact h.elim
theorem range_ok (hC : CtxOk P C F w) (hH : HeapOk A F μ H w) {M : List Nat} {t : TypeId} {m : TV} {u : Value} {K : TV→List Entry→Prop} (h : rangeT C t m H K) (hm : RepV F μ H w m u) : WOk P A F μ H w M (Instr.range t u) K:=by
  unfold rangeT at h
  split at h
  · rename_i kt e sz' by' z' cks' ht
    obtain ⟨d,hd,hk⟩:=(hC.ty _ _ ht).kind
    have hdd:=kind_map hk
    subst hdd
    split at h
    · rename_i b
      split at h
      · rename_i ck ag es hb
        have hm':=hm
        obtain ⟨_,B,rfl,hpl⟩:=hm
        obtain ⟨pl,q1,rfl⟩:=hpl _ hb rfl
        obtain ⟨pl',arr,e1,e2,e3,e4⟩:=hH.ent b _ hb
        rw [List.getD_eq_getElem?_getD,q1] at e1
        obtain rfl : pl = pl':=by simpa using e1
        have hrun:=run_range_map (P:=P) w t kt e pl.blk arr es.cl hd e2
        obtain ⟨k1,k2⟩:=hH.pushO (.mapIter (some pl.blk) es.cl #[] es.cl) (.mit (some b) e es.cl [] es.cl) rfl fun μ' H' hle=>by
          refine ⟨⟨w.heap.size,0,0⟩,pl.blk,rfl,rfl,heap_alloc_new w _,fun q=>?_,Nat.le_refl _,fun b0 hb0=>?_⟩
          · exact absurd (hH.frlt _ q) (Nat.lt_irrefl _)
          · obtain rfl : b = b0:=by simpa using hb0
            exact MapOk.le hle hm'
        refine ⟨_,_,F,_,_,.w (.one (.ptr H.length 0 0)),hrun,k1,k2,?_,Fr.alloc _,h⟩
        refine ⟨by simp,w.heap.size,0,rfl,fun e he hl=>⟨⟨w.heap.size,0,0⟩,by rw [← hH.len]; simp,rfl,by simp⟩⟩
      · exact h.elim
    · exact h.elim
  · exact h.elim
theorem mit_ok (hH : HeapOk A F μ H w) {b bm : Nat} {et : TypeId} {since last : Nat} {seen : List Nat} {ck : CK} {ag : Bool} {m : MP} {u : Value} (hb : H[b]? = some (.mit (some bm) et since seen last)) (hm : H[bm]? = some (.mp ck ag m)) (hu : RepV F μ H w (.w (.one (.ptr b 0 0))) u) :
    ∃ pl pm arr,u = .pointer (some ⟨pl.blk,0,none⟩)∧pl.off = 0∧μ[b]? = some (some pl)∧μ[bm]? = some (some pm)∧w.heap[pl.blk]? = some (.mapIter (some pm.blk) since seen.toArray last)∧since≤last∧w.heap[pm.blk]? = some (.map arr m.cl)∧RepEs F w ck ag m.es arr.toList∧MapOk μ H bm (.map (some pm.blk)):=by
  obtain ⟨_,B,O,rfl,hp⟩:=hu
  obtain ⟨pl,q1,rfl,rfl⟩:=hp _ hb rfl
  obtain ⟨pl',B',e1,e2,e3,e4,e5,e6⟩:=hH.ent b _ hb
  rw [List.getD_eq_getElem?_getD,q1] at e1
  obtain rfl : pl = pl':=by simpa using e1
  have hmo:=e6 bm rfl
  obtain ⟨_,B'',hB,hp2⟩:=e6 bm rfl
  obtain rfl : B' = B'':=by simpa using hB
  obtain ⟨pm,r1,rfl⟩:=hp2 _ hm rfl
  obtain ⟨pm',arr,f1,f2,f3,f4⟩:=hH.ent bm _ hm
  rw [List.getD_eq_getElem?_getD,r1] at f1
  obtain rfl : pm = pm':=by simpa using f1
  exact ⟨pl,pm,arr,by rw [e2]; simp [Entry.sz],e2,q1,r1,e3,e5,f2,f4,hmo⟩
theorem RepEs.left {ck : CK} {ag : Bool} {seen : List Nat} : ∀ {ps : List (Nat×Value×List PC)} {es : List MapEntry},RepEs F w ck ag ps es →
    RepEs F w ck ag (ps.filter fun p=>!seen.contains p.1) (es.filter fun e=>!seen.contains e.born)
  | [],[],_=>trivial
  | p :: ps,e :: es,h=>by
    simp only [List.filter_cons,h.1.1]
    cases (!seen.contains p.1) with
    | true=>exact ⟨h.1,RepEs.left h.2⟩
    | false=>exact RepEs.left h.2
  | [],_ :: _,h=>h.elim
  | _ :: _,[],h=>h.elim
theorem RepEs.get {ck : CK} {ag : Bool} : ∀ {ps : List (Nat×Value×List PC)} {es : List MapEntry},RepEs F w ck ag ps es→∀ (j : Nat) (e : MapEntry),es[j]? = some e→∃ p,ps[j]? = some p∧e.born = p.1∧e.key = p.2.1∧isKey ck p.2.1 = true∧RepE F w ag p.2.2 e.val
  | [],[],_,j,e,h=>by simp at h
  | p :: ps,e0 :: es,h,0,e,he=>by
    obtain rfl : e0 = e:=by simpa using he
    exact ⟨p,rfl,h.1⟩
  | p :: ps,e0 :: es,h,j + 1,e,he=>by
    obtain ⟨q,h1,h2⟩:=RepEs.get h.2 j e (by simpa using he)
    exact ⟨q,by simpa using h1,h2⟩
  | [],_ :: _,h,_,_,_=>h.elim
  | _ :: _,[],h,_,_,_=>h.elim
theorem RepWs.app : ∀ {xs ys : List TW} {vs us : List Value},RepWs F μ H w xs vs→RepWs F μ H w ys us→RepWs F μ H w (xs ++ ys) (vs ++ us)
  | [],_,[],_,_,h=>h
  | _ :: _,_,_ :: _,_,h,h'=>⟨h.1,RepWs.app h.2 h'⟩
  | [],_,_ :: _,_,h,_=>h.elim
  | _ :: _,_,[],_,h,_=>h.elim
theorem pair_rep (hT0 : ∀ t i,C.ty t = some i→TIOk P t i) {et : TypeId} {ei : TI} (hei : C.ty et = some ei) {ck : CK} {p : Nat×Value×List PC} {e : MapEntry} (h1 : e.key = p.2.1) (hk : isKey ck p.2.1 = true) {ag : Bool} (hag : ag = aggK ei.kind) (hr : RepE F w ag p.2.2 e.val) {l : List TW} {us : List Value} (hl : RepWs F μ H w l us) {K : TV→Prop}
    (h : castCK ck (.c p.2.1) fun kc=>asType ei p.2.2 fun v=>pairT kc v l K) : ∃ tv,RepV F μ H w tv (.tuple (us ++ [e.key,e.val]).toArray)∧K tv:=by
  have hT:=hT0 _ _ hei
  have hag' : aggK ei.kind = isAggK ei.kind:=by cases ei.kind <;> rfl
  have hone : p.2.1.oneCell' = true:=by
    unfold isKey at hk
    cases ck <;> cases hv : p.2.1 <;> simp [hv] at hk <;> rfl
  obtain ⟨kc,hkc,h⟩:=castCK_rep h (RepC.c (F:=F) (w:=w) p.2.1 hone)
  obtain ⟨vs,e1,e2⟩:=hr
  obtain ⟨hlen,tv,htv,hK⟩:=asType_rep (μ:=μ) (H:=H) hT h e2
  have hx : e.val = valOf ei.kind vs:=by rw [e1]; unfold valOf; rw [hag,← hag']
  rw [← hx] at htv
  unfold pairT at hK
  split at hK
  · rename_i y
    refine ⟨.tup _,⟨_,rfl,?_⟩,hK⟩
    have : RepWs F μ H w [.one (.p kc),y] [e.key,e.val]:=⟨by rw [h1]; exact hkc,htv,trivial⟩
    simpa using hl.app this
  · exact hK.elim
theorem next_ok (hC : CtxOk P C F w) (hH : HeapOk A F μ H w) {x : TV} {u : Value} {ty : TypeId} {K : TV→List Entry→Prop} (h : nextT C x H K) (hx : RepV F μ H w x u) : WOk P A F μ H w (ptrIds x) (Instr.next u false ty) K:=by
  unfold nextT at h
  split at h
  · rename_i b
    split at h
    · rename_i bm et since seen last hb
      split at h
      · rename_i ck ag m ei hm hei
        obtain ⟨pl,pm,arr,rfl,h0,hmu,hmm,hit,hsl,hmap,hre,hmo⟩:=mit_ok hH hb hm hx
        cases hag : (ag == aggK ei.kind) with
        | false=>rw [hag] at h; exact h.elim
        | true =>
        rw [hag] at h
        simp only [cond_true] at h
        obtain ⟨hold,hscl,hend,hstep⟩:=h
        have hag:=beq_iff_eq.1 hag
        have hg1 : (getObj pl.blk).run P w = .ok (.mapIter (some pm.blk) since seen.toArray last) w:=by simp [getObj,Sem.run,hit]
        have hg2 : (getObj pm.blk).run P w = .ok (.map arr m.cl) w:=by simp [getObj,Sem.run,hmap]
        have hold' : ∀ e∈arr.toList,e.born < since:=fun e he=>by
          obtain ⟨j,hj,hje⟩:=List.getElem_of_mem he
          obtain ⟨p,q1,q2,_⟩:=hre.get j e (by rw [List.getElem?_eq_getElem hj,hje])
          rw [q2]
          exact hold p (List.mem_of_getElem? q1)
        have htest:=next_test_false seen.toArray arr since last hold' hsl
        have hleft : RepEs F w ck ag (m.left seen) (leftOf arr seen.toArray).toList:=by
          have:=hre.left (seen:=seen)
          unfold leftOf MP.left
          simpa using this
        have hmem : ∀ e∈(leftOf arr seen.toArray).toList,e.born < since:=fun e he=>hold' e (by unfold leftOf at he; simp at he ⊢; exact he.1)
        have e1 : (leftOf arr seen.toArray).filter (fun x=>decide (x.born < since)) = leftOf arr seen.toArray:=Array.filter_eq_self.2 (fun x hx=>by simpa using hmem x (by simpa using hx))
        have e2 : (leftOf arr seen.toArray).filter (fun x=>decide (x.born≥since)) = #[]:=by
          rw [Array.filter_eq_empty_iff]
          intro x hx
          have:=hmem x (by simpa using hx)
          simp
          omega
        unfold leftOf at e1 e2
        by_cases hz : (leftOf arr seen.toArray).size = 0
        · have hnil : m.left seen = []:=by
            have:=hleft.length
            have h1 : (leftOf arr seen.toArray).toList.length = 0:=by rw [Array.length_toList]; exact hz
            rw [h1] at this
            exact List.eq_nil_of_length_eq_zero this
          have hemp : leftOf arr seen.toArray = #[]:=Array.eq_empty_of_size_eq_zero hz
          unfold leftOf at hemp
          have hrun : (Instr.next (.pointer (some ⟨pl.blk,0,none⟩)) false ty).run P w = .ok (.tuple #[.bool false]) w:=by
            simp only [Instr.next,Sem.run_bind,hg1,Result.andThen_ok,hg2,htest,Bool.false_eq_true,if_false,e1,e2]
            rw [hemp]
            simp [choose,Sem.run,Question.forced]
          exact ⟨_,w,F,μ,H,.tup [.one (.p (.c (.bool false)))],hrun,hH,Le.refl,⟨_,rfl,⟨.c _ rfl,trivial⟩⟩,Fr.refl,hend hnil⟩
        · have hne : (leftOf arr seen.toArray).isEmpty = false:=by simp [Array.isEmpty,hz]
          have hch : ∃ (j : Nat) (w1 : World),j < (leftOf arr seen.toArray).size∧w1.Alike w∧w1.os = w.os∧w1.tape = w.tape∧w1.output = w.output∧(choose (Question.mapNext (leftOf arr seen.toArray).size)).run P w = .ok j w1:=by
            by_cases hf : (leftOf arr seen.toArray).size≤1
            · exact ⟨0,w,by omega,⟨rfl,rfl,rfl⟩,rfl,rfl,rfl,by simp [choose,Sem.run,Question.forced,hf]⟩
            · exact ⟨_,w.drew,Nat.mod_lt _ (by omega),⟨rfl,rfl,rfl⟩,rfl,rfl,rfl,by
                simp only [choose,Sem.run,Question.forced,decide_eq_true_eq,hf,if_false,Question.cut]
                rfl⟩
          obtain ⟨j,w1,hj,hal,hw1,hw2,hw3,hcr⟩:=hch
          have hheap : w1.heap = w.heap:=hal.1
          obtain ⟨e,he⟩ : ∃ e,(leftOf arr seen.toArray)[j]? = some e:=⟨_,Array.getElem?_eq_getElem hj⟩
          obtain ⟨p,hp,hborn,hkey,hisk,hval⟩:=hleft.get j e (by rw [Array.getElem?_toList]; exact he)
          have hpm : p∈m.left seen:=List.mem_of_getElem? hp
          have hblk : pl.blk < w.heap.size:=(Array.getElem?_eq_some_iff.1 hit).1
          generalize hobj : Obj.mapIter (some pm.blk) since (seen.toArray.push p.1) m.cl = ob
          have hset : (setObj pl.blk ob).run P w1 = .ok () { w1 with heap:=w1.heap.setIfInBounds pl.blk ob }:=by
            simp only [setObj,Sem.run,hheap,hit]
          have hrun : (Instr.next (.pointer (some ⟨pl.blk,0,none⟩)) false ty).run P w = .ok (.tuple #[.bool true,e.key,e.val]) { w1 with heap:=w1.heap.setIfInBounds pl.blk ob }:=by
            simp only [Instr.next,Sem.run_bind,hg1,Result.andThen_ok,hg2,htest,Bool.false_eq_true,if_false,e1,e2]
            have hne':=hne; have hcr':=hcr; have he':=he
            unfold leftOf at hne' hcr' he'
            simp only [hne',Bool.false_eq_true,if_false,Array.empty_append,Array.append_empty,Array.size_map,hcr',Array.getElem?_map,he',Option.map_some,Sem.run_bind,Result.andThen_ok,hborn,hobj,hset]
            rfl
          have hoth : ∀ n,n≠pl.blk→({ w1 with heap:=w1.heap.setIfInBounds pl.blk ob } : World).heap[n]? = w.heap[n]?:=fun n hn=>by
            show (w1.heap.setIfInBounds pl.blk _)[n]? = _
            rw [Array.getElem?_setIfInBounds,if_neg (fun q=>hn q.symm),hheap]
          obtain ⟨p1,p2⟩:=hH.write (w':={ w1 with heap:=w1.heap.setIfInBounds pl.blk ob }) hb rfl hmu (e':=.mit (some bm) et since (seen ++ [p.1]) m.cl) ⟨rfl,rfl,rfl,rfl,Nat.le_refl _⟩ hoth (by simp [hheap]) hw1 hw2 hw3 (fun H' hle=>by
            refine ⟨pl,pm.blk,rfl,h0,?_,hH.notF hb rfl hmu,?_,fun b0 hb0=>?_⟩
            · show (w1.heap.setIfInBounds pl.blk _)[pl.blk]? = _
              rw [hheap,Array.getElem?_setIfInBounds,if_pos rfl,if_pos hblk,← hobj]
              simp
            · exact hscl
            · obtain rfl : bm = b0:=by simpa using hb0
              exact MapOk.le hle hmo)
          obtain ⟨tv,t1,t2⟩:=pair_rep (H:=H.set b (.mit (some bm) et since (seen ++ [p.1]) m.cl)) (μ:=μ) (P:=P) (C:=C) hC.ty hei hkey hisk hag (hval.mono p2.fr p2.heap) (l:=[.one (.p (.c (.bool true)))]) (us:=[.bool true]) ⟨.c _ rfl,trivial⟩ (hstep p hpm)
          refine ⟨_,_,F,μ,_,tv,hrun,p1,p2,t1,⟨by simp [hheap],fun n hn hno=>hoth n fun q=>?_⟩,t2⟩
          subst q
          exact hno b (by simp [ptrIds]) _ pl hb rfl hmu rfl
      · exact h.elim
    · exact h.elim
  · exact h.elim
theorem entry_ok (hC : CtxOk P C F w) (hH : HeapOk A F μ H w) {M : List Nat} {x : TV} {u : Value} {K : TV→List Entry→Prop} (h : entryT C x H fun v=>K v H) (hx : RepV F μ H w x u) : WOk P A F μ H w M (Instr.entry u) K:=by
  unfold entryT at h
  split at h
  · rename_i b
    split at h
    · rename_i bm et since seen last hb
      split at h
      · rename_i ck ag m ei hm hei
        obtain ⟨pl,pm,arr,rfl,h0,hmu,hmm,hit,hsl,hmap,hre,hmo⟩:=mit_ok hH hb hm hx
        cases hag : (ag == aggK ei.kind) with
        | false=>rw [hag] at h; exact h.elim
        | true =>
        rw [hag] at h
        simp only [cond_true] at h
        have hag:=beq_iff_eq.1 hag
        obtain ⟨rfl,h⟩:=h
        have hg1 : (getObj pl.blk).run P w = .ok (.mapIter (some pm.blk) since seen.toArray m.cl) w:=by simp [getObj,Sem.run,hit]
        have hg2 : (getObj pm.blk).run P w = .ok (.map arr m.cl) w:=by simp [getObj,Sem.run,hmap]
        unfold optP at h
        split at h
        · rename_i p hp
          unfold MP.at at hp
          split at hp
          · rename_i s hs
            have hfind : ∀ {ps : List (Nat×Value×List PC)} {es : List MapEntry},RepEs F w ck ag ps es→ps.find? (fun p=>p.1 == s) = some p→∃ e,es.find? (fun e=>e.born == s) = some e∧e.key = p.2.1∧isKey ck p.2.1 = true∧RepE F w ag p.2.2 e.val:=by
              intro ps
              induction ps with
              | nil=>intro es _ hf; simp at hf
              | cons q ps ih =>
                intro es hr hf
                cases es with
                | nil=>exact hr.elim
                | cons e es =>
                  rw [List.find?_cons] at hf
                  rw [List.find?_cons,hr.1.1]
                  cases hq : q.1 == s with
                  | true =>
                    rw [hq] at hf
                    obtain rfl : q = p:=by simpa using hf
                    exact ⟨e,rfl,hr.1.2⟩
                  | false =>
                    rw [hq] at hf
                    exact ih hr.2 hf
            obtain ⟨e,he,hkey,hisk,hval⟩:=hfind hre hp
            have hback : seen.toArray.back? = some s:=by simpa using hs
            have hf : arr.find? (fun e=>e.born == s) = some e:=by rw [← Array.find?_toList]; exact he
            have hrun : (Instr.entry (.pointer (some ⟨pl.blk,0,none⟩))).run P w = .ok (.tuple #[e.key,e.val]) w:=by
              simp only [Instr.entry,Sem.run_bind,hg1,Result.andThen_ok,hg2,hback,bne_self_eq_false,Bool.false_eq_true,if_false,hf]
              rfl
            obtain ⟨tv,t1,t2⟩:=pair_rep (H:=H) (μ:=μ) hC.ty hei hkey hisk hag hval (l:=[]) (us:=[]) trivial h
            exact ⟨_,w,F,μ,H,tv,hrun,hH,Le.refl,t1,Fr.refl,t2⟩
          · cases hp
        · exact h.elim
      · exact h.elim
    · exact h.elim
  · exact h.elim
end
end Go.Eng
namespace Go.Eng
open Go.RowKit
section
variable {P : Program} {C : Ctx} {A : Base} {F F' : Nat→Prop} {μ μ' : List (Option Place)} {H H' : List Entry} {w w' : World}
def NOk (P : Program) (A : Base) (F : Nat→Prop) (μ : List (Option Place)) (H : List Entry) (w : World) (M : List Nat) (s : Sem Next) (K : TV→List Entry→Prop) : Prop :=
  ∃ nx v w' F' μ' H' tv,s.run P w = .ok nx w'∧(nx = .value v∨(nx = .skip∧v = undef))∧HeapOk A F' μ' H' w'∧Le F μ H w F' μ' H' w'∧RepV F' μ' H' w' tv v∧Fr M μ H w w'∧K tv H'
theorem WOk.next {M : List Nat} {s : Sem Value} {K : TV→List Entry→Prop} (h : WOk P A F μ H w M s K) : NOk P A F μ H w M (do Pure.pure (Next.value (← s)) : Sem Next) K:=by
  obtain ⟨v,w',F',μ',H',tv,h1,h2,h3,h4,h5,h6⟩:=h
  exact ⟨.value v,v,w',F',μ',H',tv,by rw [Sem.run_bind,h1]; rfl,.inl rfl,h2,h3,h4,h5,h6⟩
theorem SimpleOk.nok (hH : HeapOk A F μ H w) {rd : Option Nat} {M : List Nat} {s : Sem Next} {K : TV→List Entry→Prop} (h : SimpleOk P F μ H w rd s (fun tv=>K tv H)) : NOk P A F μ H w M s K:=by
  obtain ⟨v,tv,h1,h2,h3⟩:=h
  exact ⟨.value v,v,w,F,μ,H,tv,h1 w Same.refl,.inl rfl,hH,Le.refl,h2,Fr.refl,h3⟩
def isCall : Op→Bool
  | .call c=>match c.callee with
    | .builtin _=>false
    | _=>true
  | _=>false
theorem Fr.mono {M M' : List Nat} (h : Fr M μ H w w') (hm : ∀ b∈M,b∈M') : Fr M' μ H w w':=⟨h.1,fun n hn hno=>h.2 n hn fun b hb=>hno b (hm b hb)⟩
theorem ownIds_const (ti : Option TI) (v : Value) : ownIds (ofConst ti v) = []:=by
  unfold ofConst
  cases v.oneCell' with
  | true =>
    simp only [cond_true]
    split
    · split <;> rfl
    · rfl
  | false =>
    simp only [cond_false]
    split
    · cases (Array.all _ _) <;> rfl
    · rfl
theorem ownIds_opd (C : Ctx) (tmps : List TV) (t : Option TypeId) (x : Operand) : ownIds (Eng.opd C tmps t x) = ownIds (Eng.opd C tmps none x):=by
  cases x with
  | const v=>exact (show ownIds (ofConst (t.bind C.ty) v) = ownIds (ofConst ((none : Option TypeId).bind C.ty) v) from (ownIds_const _ v).trans (ownIds_const _ v).symm)
  | _=>rfl
theorem argT_ids (hC : CtxOk P C F w) {tmps : List TV} {a : Act} (ha : RepA F μ H w tmps a) {c : Call} {K : TypeId→TV→Prop} (h : argT c (Eng.opd C tmps) 0 K) :
    ∃ t x v,c.argTypes[0]? = some t∧(c.args.map a.eval)[0]? = some v∧RepV F μ H w x v∧ownIds x = (match c.args[0]? with | some x=>ownIds (Eng.opd C tmps none x) | none=>[])∧K t x:=by
  unfold argT at h
  split at h
  · rename_i t ht
    split at h
    · rename_i x hx
      exact ⟨t,_,a.eval x,ht,by simp [hx],ha.opd hC _ _,by rw [hx]; exact ownIds_opd C tmps _ x,h⟩
    · exact h.elim
  · exact h.elim
theorem op_ok (hC : CtxOk P C F w) (hH : HeapOk A F μ H w) {tmps : List TV} {a : Act} (ha : RepA F μ H w tmps a) {o : Oper} (hn : isCall o.op = false) {K : TV→List Entry→Prop} (h : opT C o tmps H K) :
    NOk P A F μ H w (modsT C o tmps H) (execOp a.eval o) K:=by
  cases hs : simpleB o.op with
  | true=>exact (simple_ok hC hH ha hs h).nok hH
  | false =>
    have hρ:=ha.opd hC
    unfold opT at h
    unfold execOp modsT
    cases hop : o.op with
    | assign x =>
      rw [hop] at h
      exact ⟨.value (a.eval x),_,w,F,μ,H,_,rfl,.inl rfl,hH,Le.refl,hρ _ _,Fr.refl,h⟩
    | alloc t =>
      rw [hop] at h
      exact (alloc_ok hC hH h).next
    | box t x =>
      rw [hop] at h
      exact (box_ok hC hH h (hρ _ _)).next
    | buildSlice t len parts =>
      rw [hop] at h
      refine (buildSlice_ok hC hH h ?_).next
      have:=RepPs.opds hC ha (partTy C t) parts.toList
      simpa using this
    | makeSlice t l c =>
      rw [hop] at h
      exact (makeSlice_ok hC hH h (hρ _ _) (hρ _ _)).next
    | makeMap t r =>
      rw [hop] at h
      cases r with
      | none=>exact (makeMap_ok hC hH h).next
      | some _=>exact h.elim
    | lookup t x k ok =>
      rw [hop] at h
      exact (lookup_ok hC hH h (hρ _ _) (hρ _ _)).next
    | insert t m k x =>
      rw [hop] at h
      obtain ⟨b,hb,w',H',s1,s2,s3,s4,s5⟩:=mapUpdate_ok hC hH h (hρ _ _) (hρ _ _) (hρ _ _)
      refine ⟨.skip,undef,w',F,μ,H',undefT,?_,.inr ⟨rfl,rfl⟩,s2,s3,⟨#[],rfl,trivial⟩,?_,s5⟩
      · rw [Sem.run_bind,s1]; rfl
      · show Fr (mapIds (opd C tmps (some t) m)) μ H w w'
        rw [hb]; exact s4
    | range t x =>
      rw [hop] at h
      exact (range_ok hC hH h (hρ _ _)).next
    | next x s =>
      rw [hop] at h
      cases s with
      | true=>exact h.elim
      | false=>exact (next_ok hC hH h (hρ _ _)).next
    | entry x =>
      rw [hop] at h
      exact (entry_ok hC hH h (hρ _ _)).next
    | mapUpdate t m k x =>
      rw [hop] at h
      obtain ⟨b,hb,w',H',s1,s2,s3,s4,s5⟩:=mapUpdate_ok hC hH h (hρ _ _) (hρ _ _) (hρ _ _)
      refine ⟨.skip,undef,w',F,μ,H',undefT,?_,.inr ⟨rfl,rfl⟩,s2,s3,⟨#[],rfl,trivial⟩,?_,s5⟩
      · rw [Sem.run_bind,s1]; rfl
      · show Fr (mapIds (opd C tmps (some t) m)) μ H w w'
        rw [hb]; exact s4
    | store t x y =>
      rw [hop] at h
      have hx:=hρ none x
      have hy:=hρ (some t) y
      simp only [] at h ⊢
      split at h
      · rename_i ti tc tw ht hvx hvy
        rw [hvx] at hx
        rw [hvy] at hy
        cases hok : okW tw with
        | false=>rw [hok] at h; exact h.elim
        | true =>
          rw [hok] at h
          simp only [cond_true] at h
          obtain ⟨b,hb,w',F',H',s1,s2,s3,s4,s5⟩:=store_ok hC hH ht h hok hx hy
          have hM : ptrIds (opd C tmps none x) = [b]:=by
            rw [hvx]
            cases tc <;> simp [rdOf] at hb
            simp [hb,ptrIds]
          refine ⟨.skip,undef,w',F',μ,H',undefT,?_,.inr ⟨rfl,rfl⟩,s2,s3,⟨#[],rfl,trivial⟩,?_,s5⟩
          · rw [Sem.run_bind,s1]; rfl
          · rw [hM]; exact s4
      · exact h.elim
    | call c =>
      rw [hop] at h hs hn
      obtain ⟨callee,args,argTypes⟩:=c
      cases callee with
      | builtin b =>
        show NOk P A F μ H w _ (do let d ← resolve a.eval ⟨.builtin b,args,argTypes⟩ o.type; invoke d.target d.args) _
        have hop2 : ((do let d ← resolve a.eval ⟨.builtin b,args,argTypes⟩ o.type; invoke d.target d.args : Sem Next)) = builtin b argTypes o.type (args.map fun | .const _=>true | _=>false) (args.map a.eval):=rfl
        rw [hop2]
        cases b with
        | append =>
          have h' : argT ⟨.builtin .append,args,argTypes⟩ (opd C tmps) 0 (fun t s=>argT ⟨.builtin .append,args,argTypes⟩ (opd C tmps) 1 fun t' x=>appendD C t t' s x H K):=h
          obtain ⟨t,s,u,h1,h2,h3,hM,h4⟩:=argT_ids hC ha h'
          obtain ⟨t',x,v,g1,g2,g3,g4⟩:=argT_rep hC ha h4
          have e : Builtin.append_ argTypes o.type (args.map a.eval) = Builtin.append_ #[t,t'] o.type #[u,v]:=by
            have h2' : (args.map a.eval)[0]? = some u:=h2
            have g2' : (args.map a.eval)[1]? = some v:=g2
            have h1' : argTypes[0]? = some t:=h1
            have g1' : argTypes[1]? = some t':=g1
            unfold Builtin.append_
            simp only [h1',h2',g1',g2']
            rfl
          have hok:=appendD_ok hC hH (ty:=o.type) g4 h3 g3
          rw [← e,hM] at hok
          exact hok.next
        | copy =>
          have h' : argT ⟨.builtin .copy,args,argTypes⟩ (opd C tmps) 0 (fun t d=>argT ⟨.builtin .copy,args,argTypes⟩ (opd C tmps) 1 fun _ x=>copyT C t d x H K):=h
          obtain ⟨t,s,u,h1,h2,h3,hM,h4⟩:=argT_ids hC ha h'
          obtain ⟨t',x,v,g1,g2,g3,g4⟩:=argT_rep hC ha h4
          have e : Builtin.copy_ argTypes o.type (args.map a.eval) = Builtin.copy_ #[t,t'] o.type #[u,v]:=by
            have h2' : (args.map a.eval)[0]? = some u:=h2
            have g2' : (args.map a.eval)[1]? = some v:=g2
            have h1' : argTypes[0]? = some t:=h1
            unfold Builtin.copy_
            simp only [h1',h2',g2']
            rfl
          have hok:=copy_ok (t':=t') hC hH (ty:=o.type) g4 h3 g3
          rw [← e,hM] at hok
          exact hok.next
        | clear =>
          have h' : argT ⟨.builtin .clear,args,argTypes⟩ (opd C tmps) 0 (fun t x=>clearT C t x H K):=h
          obtain ⟨t,s,u,h1,h2,h3,hM,h4⟩:=argT_ids hC ha h'
          have e : Builtin.clear_ argTypes o.type (args.map a.eval) = Builtin.clear_ #[t] o.type #[u]:=by
            have h2' : (args.map a.eval)[0]? = some u:=h2
            have h1' : argTypes[0]? = some t:=h1
            unfold Builtin.clear_
            simp only [h1',h2']
            rfl
          have hok:=clear_ok hC hH (ty:=o.type) h4 h3
          rw [← e,hM] at hok
          exact hok.next
        | delete =>
          have h' : argT ⟨.builtin .delete,args,argTypes⟩ (opd C tmps) 0 (fun t x=>argT ⟨.builtin .delete,args,argTypes⟩ (opd C tmps) 1 fun _ k=>deleteT C t x k H K):=h
          obtain ⟨t,s,u,h1,h2,h3,hM,h4⟩:=argT_ids hC ha h'
          obtain ⟨t',x,v,g1,g2,g3,g4⟩:=argT_rep hC ha h4
          have e : Builtin.delete_ argTypes o.type (args.map a.eval) = Builtin.delete_ #[t,t'] o.type #[u,v]:=by
            have h2' : (args.map a.eval)[0]? = some u:=h2
            have g2' : (args.map a.eval)[1]? = some v:=g2
            have h1' : argTypes[0]? = some t:=h1
            unfold Builtin.delete_
            simp only [h1',h2',g2']
            rfl
          have hok:=delete_ok (t':=t') hC hH (ty:=o.type) g4 h3 g3
          rw [← e,hM] at hok
          exact hok.next
        | _=>first | (cases hs; done) | exact h.elim
      | _=>cases hn
    | _=>rw [hop] at h hs; first | (cases hs; done) | exact h.elim
end
end Go.Eng
namespace Go.Eng
open Go.RowKit
section
variable {P : Program} {C : Ctx} {A : Base} {F F' : Nat→Prop} {μ μ' μ2 : List (Option Place)} {H H' H2 : List Entry} {w w' : World}
def RenOk (f : Nat→Option Nat) (μ : List (Option Place)) (H : List Entry) (μ2 : List (Option Place)) (H2 : List Entry) : Prop :=
  ∀ j b,j < H.length→f j = some b→b < H2.length∧∀ e2,H2[b]? = some e2→e2.live = true→∃ e,H[j]? = some e∧e.live = true∧e.sz = e2.sz∧e.isVec = e2.isVec∧e.cnt≤e2.cnt∧μ2[b]? = μ[j]?
mutual
theorem RepT.ren {f : Nat→Option Nat} (hf : RenOk f μ H μ2 H2) : ∀ {x : TC} {v : Value},RepT F μ H w x v→RepT F μ2 H2 w (renTC f x) v
  | .p _,_,r=>r
  | .ref b i n,v,r=>by
    unfold renTC
    cases hb : f b with
    | none=>exact trivial
    | some b' =>
      obtain ⟨hbl,base,cap,k1,k2,k3⟩:=r
      obtain ⟨h1,h2⟩:=hf b b' hbl hb
      refine ⟨h1,base,cap,k1,k2,fun sz es wr he=>?_⟩
      obtain ⟨e,q1,q2,q3,q4,q5,q6⟩:=h2 _ he rfl
      cases e with
      | vec sz' es' wr' =>
        have q3 : sz' = sz:=q3
        subst q3
        have q5 : es'.length≤es.length:=q5
        obtain ⟨z1,z2⟩:=k3 _ _ _ q1
        exact ⟨Nat.le_trans z1 q5,z2.imp id fun ⟨pl,y1,y2,y3⟩=>⟨pl,by rw [q6]; exact y1,y2,y3⟩⟩
      | _=>simp [Entry.isVec] at q4
  | .ptr b i o,v,r=>by
    unfold renTC
    cases hb : f b with
    | none=>exact trivial
    | some b' =>
      obtain ⟨hbl,B,O,k1,k2⟩:=r
      obtain ⟨h1,h2⟩:=hf b b' hbl hb
      refine ⟨h1,B,O,k1,fun e2 he hl=>?_⟩
      obtain ⟨e,q1,q2,q3,q4,q5,q6⟩:=h2 _ he hl
      obtain ⟨pl,y1,y2,y3⟩:=k2 e q1 q2
      exact ⟨pl,by rw [q6]; exact y1,y2,by rw [← q3]; exact y3⟩
  | .mref b,v,r=>by
    unfold renTC
    cases hb : f b with
    | none=>exact trivial
    | some b' =>
      obtain ⟨hbl,B,k1,k2⟩:=r
      obtain ⟨h1,h2⟩:=hf b b' hbl hb
      refine ⟨h1,B,k1,fun e2 he hl=>?_⟩
      obtain ⟨e,q1,q2,q3,q4,q5,q6⟩:=h2 _ he hl
      obtain ⟨pl,y1,y2⟩:=k2 e q1 q2
      exact ⟨pl,by rw [q6]; exact y1,y2⟩
  | .fptr _ _,_,r=>r
  | .clo g fs cs,v,r=>by
    obtain ⟨vs,us,e,r1,r2⟩:=r
    exact ⟨vs,us,e,RepTs.ren hf r1,RepTs.ren hf r2⟩
  | .junk,_,_=>trivial
theorem RepTs.ren {f : Nat→Option Nat} (hf : RenOk f μ H μ2 H2) : ∀ {xs : List TC} {vs : List Value},RepTs F μ H w xs vs→RepTs F μ2 H2 w (renTC.renTCs f xs) vs
  | [],[],_=>trivial
  | _ :: _,_ :: _,r=>⟨⟨r.1.1,RepT.ren hf r.1.2⟩,RepTs.ren hf r.2⟩
  | [],_ :: _,r=>r.elim
  | _ :: _,[],r=>r.elim
end
theorem RepW.ren {f : Nat→Option Nat} (hf : RenOk f μ H μ2 H2) {x : TW} {v : Value} (r : RepW F μ H w x v) : RepW F μ2 H2 w (renTW f x) v:=by
  cases x with
  | one x=>exact RepT.ren hf r
  | agg xs=>obtain ⟨cs,e,r⟩:=r; exact ⟨cs,e,RepTs.ren hf r⟩
  | pagg xs=>exact r
theorem RepWs.ren {f : Nat→Option Nat} (hf : RenOk f μ H μ2 H2) : ∀ {xs : List TW} {vs : List Value},RepWs F μ H w xs vs→RepWs F μ2 H2 w (xs.map (renTW f)) vs
  | [],[],_=>trivial
  | _ :: _,_ :: _,r=>⟨RepW.ren hf r.1,RepWs.ren hf r.2⟩
  | [],_ :: _,r=>r.elim
  | _ :: _,[],r=>r.elim
theorem RepV.ren {f : Nat→Option Nat} (hf : RenOk f μ H μ2 H2) {x : TV} {v : Value} (r : RepV F μ H w x v) : RepV F μ2 H2 w (renTV f x) v:=by
  cases x with
  | w x=>exact RepW.ren hf r
  | tup xs=>obtain ⟨vs,e,r⟩:=r; exact ⟨vs,e,RepWs.ren hf r⟩
theorem RepVs.ren {f : Nat→Option Nat} (hf : RenOk f μ H μ2 H2) : ∀ {xs : List TV} {vs : List Value},RepVs F μ H w xs vs→RepVs F μ2 H2 w (xs.map (renTV f)) vs
  | [],[],_=>trivial
  | _ :: _,_ :: _,r=>⟨RepV.ren hf r.1,RepVs.ren hf r.2⟩
  | [],_ :: _,r=>r.elim
  | _ :: _,[],r=>r.elim
theorem renTCs_length (f : Nat→Option Nat) : ∀ (xs : List TC),(renTC.renTCs f xs).length = xs.length
  | []=>rfl
  | _ :: xs=>by simp only [renTC.renTCs,List.length_cons,renTCs_length f xs]
theorem EntOk.ren {f : Nat→Option Nat} (hf : RenOk f μ H μ2 H2) {e : Entry} {mb : Option Place} (r : EntOk F μ H w e mb) : EntOk F μ2 H2 w (renEntry f e) mb:=by
  cases e with
  | box cs =>
    obtain ⟨pl,vs,ty,h1,h2,h3,h4,h5⟩:=r
    refine ⟨pl,vs,ty,h1,h2,h3,h4,?_⟩
    rw [renTCs_length]
    exact RepTs.ren hf h5
  | mit b et since seen last =>
    obtain ⟨pl,B,h1,h2,h3,h4,h5,h6⟩:=r
    refine ⟨pl,B,h1,h2,h3,h4,h5,fun b0 hb0=>?_⟩
    cases b with
    | none=>cases hb0
    | some b1 =>
      have hb0 : f b1 = some b0:=hb0
      have h:=RepT.ren (F:=F) (w:=w) hf (x:=.mref b1) (h6 b1 rfl)
      unfold renTC at h
      rw [hb0] at h
      exact h
  | _=>exact r
theorem renEntry_same (f : Nat→Option Nat) (e : Entry) : (renEntry f e).live = e.live∧(renEntry f e).sz = e.sz∧(renEntry f e).isVec = e.isVec∧(renEntry f e).cnt = e.cnt∧(renEntry f e).owned = e.owned:=by
  cases e <;> exact ⟨rfl,rfl,rfl,rfl,rfl⟩
theorem idxOf_spec : ∀ (l : List Nat) (b k j : Nat),idxOf b k l = some j→k≤j∧l[j - k]? = some b
  | [],b,k,j,h=>by simp [idxOf] at h
  | x :: r,b,k,j,h=>by
    unfold idxOf at h
    cases hx : x == b with
    | true =>
      rw [hx] at h
      simp only [cond_true,Option.some.injEq] at h
      subst h
      refine ⟨Nat.le_refl _,?_⟩
      rw [Nat.sub_self,beq_iff_eq.1 hx]
      rfl
    | false =>
      rw [hx] at h
      obtain ⟨h1,h2⟩:=idxOf_spec r b (k + 1) j h
      refine ⟨by omega,?_⟩
      rw [show j - k = (j - (k + 1)) + 1 by omega,List.getElem?_cons_succ]
      exact h2
def IdsOk (n : Nat) (l : List Nat) : Prop:=l.Nodup∧∀ b∈l,b < n
theorem addNew_ok (n : Nat) : ∀ (l acc : List Nat),IdsOk n acc→IdsOk n (addNew n acc l)
  | [],acc,h=>h
  | x :: r,acc,h=>by
    unfold addNew
    cases hc : (acc.elem x || !Nat.blt x n) with
    | true=>exact addNew_ok n r acc h
    | false =>
      simp only [Bool.or_eq_false_iff,Bool.not_eq_false'] at hc
      refine addNew_ok n r _ ⟨?_,fun b hb=>?_⟩
      · rw [List.nodup_append]
        refine ⟨h.1,by simp,fun a ha b hb=>?_⟩
        obtain rfl : b = x:=by simpa using hb
        intro e
        subst e
        have:=List.elem_eq_true_of_mem ha
        rw [this] at hc
        cases hc.1
      · rcases List.mem_append.1 hb with hb | hb
        · exact h.2 b hb
        · obtain rfl : b = x:=by simpa using hb
          exact Nat.le_of_ble_eq_true hc.2
theorem reach_ok (H : List Entry) : ∀ (n k : Nat) (acc : List Nat),IdsOk H.length acc→IdsOk H.length (reachFrom H n k acc)
  | 0,k,acc,h=>h
  | n + 1,k,acc,h=>by
    unfold reachFrom
    split
    · exact reach_ok H n (k + 1) _ (addNew_ok H.length _ _ h)
    · exact h
theorem sub_get (H : List Entry) (f : Nat→Option Nat) : ∀ (ids : List Nat) (k : Nat),(sub H f ids)[k]? = (ids[k]?).map fun b=>entAt f H[b]?
  | [],k=>by simp [sub]
  | b :: r,0=>by simp [sub]
  | b :: r,k + 1=>by simp [sub,sub_get H f r k]
theorem sub_len (H : List Entry) (f : Nat→Option Nat) : ∀ (ids : List Nat),(sub H f ids).length = ids.length
  | []=>rfl
  | b :: r=>by simp [sub,sub_len H f r]
def ownBlk (μ : List (Option Place)) (H : List Entry) (n : Nat) : Prop:=∃ (b : Nat) (e : Entry) (pl : Place),H[b]? = some e∧e.owned = true∧μ[b]? = some (some pl)∧pl.blk = n
def baseOf (F : Nat→Prop) (μ : List (Option Place)) (H : List Entry) (w : World) : Base:=⟨w,ownBlk μ H,F,μ,H,H.length⟩
def GlobOk (G : Nat→Option (List PC)) (F : Nat→Prop) (w : World) : Prop:=∀ g cs,G g = some cs→∀ j x,cs[j]? = some x→F g∧∃ u,w.cell? ⟨g,j,none⟩ = some u∧RepC F w x u
theorem GlobOk.mono {G : Nat→Option (List PC)} (h : GlobOk G F w) (hF : ∀ n,F n→F' n) (hw : ∀ n,F n→w'.heap[n]? = w.heap[n]?) : GlobOk G F' w':=fun g cs hg j x hx=>by
  obtain ⟨h1,u,h2,h3⟩:=h g cs hg j x hx
  exact ⟨hF _ h1,u,(World.cell?_of_block (w:=w) (a:=⟨g,j,none⟩) (hw _ h1)).trans h2,h3.mono hF hw⟩
theorem sub_ok (hH : HeapOk A F μ H w) {ids : List Nat} (hi : IdsOk H.length ids) :
    RenOk (fun b=>idxOf b 0 ids) μ H (ids.map fun b=>μ.getD b none) (sub H (fun b=>idxOf b 0 ids) ids) ∧
      HeapOk (baseOf F (ids.map fun b=>μ.getD b none) (sub H (fun b=>idxOf b 0 ids) ids) w) F (ids.map fun b=>μ.getD b none) (sub H (fun b=>idxOf b 0 ids) ids) w:=by
  have hmu : ∀ (k b : Nat),ids[k]? = some b→(ids.map fun b=>μ.getD b none)[k]? = μ[b]?:=fun k b h=>by
    have hb : b < μ.length:=by rw [hH.len]; exact hi.2 b (List.mem_of_getElem? h)
    rw [List.getElem?_map,h,Option.map_some,List.getD_eq_getElem?_getD,List.getElem?_eq_getElem hb]
    rfl
  have hs : ∀ (k : Nat) (e : Entry),(sub H (fun b=>idxOf b 0 ids) ids)[k]? = some e→∃ b e',ids[k]? = some b∧H[b]? = some e'∧e = renEntry (fun b=>idxOf b 0 ids) e':=fun k e h=>by
    rw [sub_get] at h
    cases hk : ids[k]? with
    | none=>simp [hk] at h
    | some b =>
      have hb : b < H.length:=hi.2 b (List.mem_of_getElem? hk)
      simp only [hk,Option.map_some,List.getElem?_eq_getElem hb,Option.some.injEq,entAt] at h
      exact ⟨b,H[b],rfl,List.getElem?_eq_getElem hb,h.symm⟩
  have hren : RenOk (fun b=>idxOf b 0 ids) μ H (ids.map fun b=>μ.getD b none) (sub H (fun b=>idxOf b 0 ids) ids):=fun j k hj hk=>by
    obtain ⟨_,h2⟩:=idxOf_spec ids j 0 k hk
    rw [Nat.sub_zero] at h2
    refine ⟨by rw [sub_len]; exact (List.getElem?_eq_some_iff.1 h2).1,fun e2 he hl=>?_⟩
    obtain ⟨b,e',q1,q2,rfl⟩:=hs k e2 he
    rw [h2] at q1
    obtain rfl:=Option.some.inj q1
    obtain ⟨s1,s2,s3,s4,s5⟩:=renEntry_same (fun b=>idxOf b 0 ids) e'
    exact ⟨e',q2,s1▸hl,s2.symm,s3.symm,by rw [s4]; exact Nat.le_refl _,hmu k _ h2⟩
  refine ⟨hren,⟨by simp [sub_len],fun k e he=>?_,fun k l e g pl ql hne h1 h2 h3 h4 h5 h6=>?_,rfl,rfl,rfl,Nat.le_refl _,fun _ _ _=>rfl,fun k e pl h1 h2 h3=>.inl ⟨k,e,pl,h1,h2,h3,rfl⟩,fun _ h=>h,fun _ h=>.inl h,hH.frlt,fun k e hk he hl=>⟨rfl,e,he,hl,rfl,rfl,Nat.le_refl _⟩,Nat.le_refl _⟩⟩
  · obtain ⟨b,e',q1,q2,rfl⟩:=hs k e he
    rw [List.getD_eq_getElem?_getD,hmu k b q1,← List.getD_eq_getElem?_getD]
    exact EntOk.ren hren (hH.ent b e' q2)
  · obtain ⟨b,e',q1,q2,rfl⟩:=hs k e h1
    obtain ⟨c,g',q3,q4,rfl⟩:=hs l g h4
    rw [hmu k b q1] at h3
    rw [hmu l c q3] at h6
    refine hH.dist b c e' g' pl ql (fun e=>?_) q2 ((renEntry_same _ e').2.2.2.2▸h2) h3 q4 ((renEntry_same _ g').2.2.2.2▸h5) h6
    subst e
    have hk : k < ids.length:=(List.getElem?_eq_some_iff.1 q1).1
    exact hne ((List.getElem?_inj hk hi.1).1 (q1.trans q3.symm))
theorem putBack_len (f : Nat→Option Nat) : ∀ (ids : List Nat) (ids0 : List Nat) (H' H : List Entry),ids.length≤H'.length→(putBack ids0 f ids H' H).length = H.length + (H'.length - ids.length)
  | [],ids0,H',H,h=>by simp [putBack]
  | b :: r,ids0,[],H,h=>by simp at h
  | b :: r,ids0,e :: H',H,h=>by
    simp only [putBack]
    rw [putBack_len f r ids0 H' _ (by simpa using h)]
    simp
theorem putBack_new (f : Nat→Option Nat) : ∀ (ids : List Nat) (ids0 : List Nat) (H' H : List Entry) (j : Nat),ids.length≤j→(putBack ids0 f ids H' H)[H.length + (j - ids.length)]? = (H'[j]?).map (renEntry f)
  | [],ids0,H',H,j,h=>by
    simp only [putBack,List.length_nil,Nat.sub_zero]
    rw [List.getElem?_append_right (by omega),Nat.add_sub_cancel_left,List.getElem?_map]
  | b :: r,ids0,[],H,j,h=>by
    simp only [putBack,List.map_nil,List.append_nil]
    rw [List.getElem?_eq_none (by omega)]
    simp
  | b :: r,ids0,e :: H',H,j,h=>by
    simp only [putBack]
    obtain ⟨j,rfl⟩ : ∃ i,j = i + 1:=⟨j - 1,by simp at h; omega⟩
    have:=putBack_new f r ids0 H' (H.set b (renEntry f e)) j (by simpa using h)
    simp only [List.length_set] at this
    rw [show j + 1 - (b :: r).length = j - r.length by simp,this]
    simp
theorem putBack_other (f : Nat→Option Nat) : ∀ (ids : List Nat) (ids0 : List Nat) (H' H : List Entry) (c : Nat),c < H.length→c∉ids→(putBack ids0 f ids H' H)[c]? = H[c]?
  | [],ids0,H',H,c,h,hc=>by
    simp only [putBack]
    rw [List.getElem?_append_left h]
  | b :: r,ids0,[],H,c,h,hc=>by
    simp only [putBack,List.map_nil,List.append_nil]
  | b :: r,ids0,e :: H',H,c,h,hc=>by
    simp only [putBack]
    rw [putBack_other f r ids0 H' _ c (by simpa using h) (fun q=>hc (by simp [q]))]
    rw [List.getElem?_set,if_neg (fun q=>hc (by simp [q]))]
theorem putBack_at (f : Nat→Option Nat) : ∀ (ids : List Nat) (ids0 : List Nat) (H' H : List Entry) (k b : Nat),ids.Nodup→ids.length≤H'.length→ids[k]? = some b→b < H.length→(putBack ids0 f ids H' H)[b]? = (H'[k]?).map (renEntry f)
  | [],ids0,H',H,k,b,_,_,h,_=>by simp at h
  | c :: r,ids0,[],H,k,b,_,h,_,_=>by simp at h
  | c :: r,ids0,e :: H',H,0,b,hn,hl,h,hb=>by
    simp only [List.getElem?_cons_zero,Option.some.injEq] at h
    subst h
    simp only [putBack,List.getElem?_cons_zero,Option.map_some]
    rw [putBack_other f r ids0 H' _ c (by simpa using hb) (List.nodup_cons.1 hn).1]
    simp [hb]
  | c :: r,ids0,e :: H',H,k + 1,b,hn,hl,h,hb=>by
    simp only [List.getElem?_cons_succ] at h ⊢
    simp only [putBack]
    exact putBack_at f r ids0 H' _ k b (List.nodup_cons.1 hn).2 (by simpa using hl) h (by simpa using hb)
end
end Go.Eng
namespace Go.Eng
open Go.RowKit
section
variable {P : Program} {C : Ctx} {A : Base} {F F' : Nat→Prop} {μ μ' μ2 : List (Option Place)} {H H' H2 : List Entry} {w w' : World}
theorem lock1_ok (b : Nat) (hH : HeapOk A F μ H w) : ∃ F0,HeapOk A F0 μ (lock1 b H) w∧Le F μ H w F0 μ (lock1 b H) w ∧
    (∀ (sz : Nat) (es : List (List PC)) (wr : Bool),H[b]? = some (.vec sz es wr)→∀ pl : Place,μ[b]? = some (some pl)→F0 pl.blk)∧(lock1 b H).length = H.length ∧
    (∀ (c sz : Nat) (es : List (List PC)) (wr : Bool),H[c]? = some (.vec sz es wr)→∃ wr',(lock1 b H)[c]? = some (.vec sz es wr')):=by
  cases hb : H[b]? with
  | none =>
    have e : lock1 b H = H:=by unfold lock1; rw [hb]
    rw [e]
    exact ⟨F,hH,Le.refl,(fun sz es wr h=>by cases h),rfl,fun c sz es wr h=>⟨wr,h⟩⟩
  | some e =>
    cases e with
    | vec sz es wr =>
      have e : lock1 b H = H.set b (.vec sz es false):=by unfold lock1; rw [hb]
      rw [e]
      obtain ⟨h1,h2⟩:=hH.lock hb
      refine ⟨_,h1,h2,fun _ _ _ _ pl hm=>.inr ⟨pl,hm,rfl⟩,by simp,fun c sz' es' wr' h=>?_⟩
      have hbl : b < H.length:=(List.getElem?_eq_some_iff.1 hb).1
      rw [List.getElem?_set]
      by_cases hc : b = c
      · subst hc
        rw [hb] at h
        obtain ⟨rfl,rfl,rfl⟩ : sz = sz'∧es = es'∧wr = wr':=by simpa using h
        exact ⟨false,by rw [if_pos rfl,if_pos hbl]⟩
      · rw [if_neg hc]; exact ⟨wr',h⟩
    | _ =>
      have e : lock1 b H = H:=by unfold lock1; rw [hb]
      rw [e]
      exact ⟨F,hH,Le.refl,(fun sz es wr h=>by simp at h),rfl,fun c sz es wr h=>⟨wr,h⟩⟩
theorem lockAll_ok : ∀ (l : List Nat) {H : List Entry} {F : Nat→Prop},HeapOk A F μ H w→∃ F1,HeapOk A F1 μ (lockAll l H) w∧Le F μ H w F1 μ (lockAll l H) w ∧
    (∀ b∈l,∀ (sz : Nat) (es : List (List PC)) (wr : Bool),H[b]? = some (.vec sz es wr)→∀ pl : Place,μ[b]? = some (some pl)→F1 pl.blk)∧(lockAll l H).length = H.length
  | [],H,F,hH=>⟨F,hH,Le.refl,(fun b hb=>by cases hb),rfl⟩
  | b :: r,H,F,hH=>by
    obtain ⟨F0,h1,h2,h3,h4,h5⟩:=lock1_ok b hH
    obtain ⟨F1,k1,k2,k3,k4⟩:=lockAll_ok r h1
    refine ⟨F1,k1,h2.trans k2,fun c hc sz es wr hcv pl hm=>?_,k4.trans h4⟩
    rcases List.mem_cons.1 hc with rfl | hc
    · exact k2.fr _ (h3 _ _ _ hcv pl hm)
    · obtain ⟨wr',h6⟩:=h5 c sz es wr hcv
      exact k3 c hc _ _ _ h6 pl hm
theorem snapTC_ok (hH : HeapOk A F μ H w) (hle : Le F μ H w F' μ H' w) {x : TC} {v : Value} (hF : ∀ b i n,x = .ref b i n→∀ sz es wr,H[b]? = some (.vec sz es wr)→∀ pl,μ[b]? = some (some pl)→F' pl.blk) (r : RepT F μ H w x v) : RepT F' μ H' w (snapTC H x) v:=by
  cases x with
  | ref b i n =>
    cases hb : H[b]? with
    | none =>
      have e : snapTC H (.ref b i n) = .junk:=by simp only [snapTC,hb]
      rw [e]
      exact trivial
    | some e =>
      cases e with
      | vec sz es wr =>
        have e : snapTC H (.ref b i n) = .p (.sl sz ((es.drop i).take n) false):=by simp only [snapTC,hb]
        rw [e]
        exact ref_sl hH hb r hle.fr (hF b i n rfl sz es wr hb)
      | _ =>
        have e : snapTC H (.ref b i n) = .junk:=by simp only [snapTC,hb]
        rw [e]
        exact trivial
  | _=>exact RepT.le hle r
theorem snapTCs_ok (hH : HeapOk A F μ H w) (hle : Le F μ H w F' μ H' w) : ∀ {xs : List TC} {vs : List Value},(∀ b∈refIds xs,∀ sz es wr,H[b]? = some (.vec sz es wr)→∀ pl,μ[b]? = some (some pl)→F' pl.blk)→RepTs F μ H w xs vs→RepTs F' μ H' w (xs.map (snapTC H)) vs
  | [],[],_,_=>trivial
  | x :: xs,v :: vs,hF,r=>by
    refine ⟨⟨r.1.1,snapTC_ok hH hle (fun b i n hx=>?_) r.1.2⟩,snapTCs_ok hH hle (fun b hb=>hF b ?_) r.2⟩
    · subst hx
      exact hF b (by simp [refIds])
    · cases x <;> simp [refIds,hb]
  | [],_ :: _,_,r=>r.elim
  | _ :: _,[],_,r=>r.elim
theorem snapTV_ok (hH : HeapOk A F μ H w) (hle : Le F μ H w F' μ H' w) {x : TV} {v : Value} (hF : ∀ b∈refsTV x,∀ sz es wr,H[b]? = some (.vec sz es wr)→∀ pl,μ[b]? = some (some pl)→F' pl.blk) (r : RepV F μ H w x v) : RepV F' μ H' w (snapTV H x) v:=by
  cases x with
  | w x =>
    cases x with
    | one x=>exact snapTC_ok hH hle (fun b i n hx=>by subst hx; exact hF b (by simp [refsTV,TW.cells,refIds])) r
    | agg xs =>
      obtain ⟨cs,rfl,r⟩:=r
      exact RepW.mkAgg (snapTCs_ok hH hle hF r)
    | pagg xs=>exact RepV.le hle r
  | tup xs=>exact RepV.le hle r
theorem snapAll_ok (hH : HeapOk A F μ H w) (hle : Le F μ H w F' μ H' w) (g : FuncId) {xs : List TV} {vs : List Value} (hF : ∀ b∈lentIds C g xs,∀ sz es wr,H[b]? = some (.vec sz es wr)→∀ pl,μ[b]? = some (some pl)→F' pl.blk) (r : RepVs F μ H w xs vs) : RepVs F' μ H' w (snapAll C g xs H) vs:=by
  unfold snapAll
  unfold lentIds at hF
  cases hb : C.byRef g with
  | true=>simp only [cond_true]; exact RepVs.le hle r
  | false =>
    rw [hb] at hF
    simp only [cond_false] at hF ⊢
    clear hb
    induction xs generalizing vs with
    | nil=>cases vs with
      | nil=>trivial
      | cons _ _=>exact r.elim
    | cons x xs ih=>cases vs with
      | nil=>exact r.elim
      | cons v vs=>exact ⟨snapTV_ok hH hle (fun b hb'=>hF b (by simp [hb'])) r.1,ih (fun b hb'=>hF b (by simp only [List.flatMap_cons,List.mem_append]; exact .inr hb')) r.2⟩
theorem merge_ok {F1 : Nat→Prop} {ids : List Nat} (hH : HeapOk A F1 μ H w) (hi : IdsOk H.length ids)
    (hR : HeapOk (baseOf F1 (ids.map fun b=>μ.getD b none) (sub H (fun b=>idxOf b 0 ids) ids) w) F' μ' H' w') :
    RenOk (back ids H.length) μ' H' (μ ++ μ'.drop ids.length) (putBack ids (back ids H.length) ids H' H) ∧
      HeapOk A F' (μ ++ μ'.drop ids.length) (putBack ids (back ids H.length) ids H' H) w'∧Le F1 μ H w F' (μ ++ μ'.drop ids.length) (putBack ids (back ids H.length) ids H' H) w'∧Fr ids μ H w w':=by
  obtain ⟨hren,hS⟩:=sub_ok hH hi
  have hm : ids.length≤H'.length:=by have:=hR.mle; simpa [baseOf,sub_len] using this
  have hlen2:=putBack_len (back ids H.length) ids ids H' H hm
  have hml : μ'.length = H'.length:=hR.len
  have hmu0 : ∀ b,b < H.length→(μ ++ μ'.drop ids.length)[b]? = μ[b]?:=fun b hb=>List.getElem?_append_left (by rw [hH.len]; exact hb)
  have hmu1 : ∀ j,ids.length≤j→(μ ++ μ'.drop ids.length)[H.length + (j - ids.length)]? = μ'[j]?:=fun j hj=>by
    rw [List.getElem?_append_right (by rw [hH.len]; omega),hH.len,Nat.add_sub_cancel_left,List.getElem?_drop,Nat.add_sub_cancel' hj]
  have hmus : ∀ (k b : Nat),ids[k]? = some b→(ids.map fun b=>μ.getD b none)[k]? = μ[b]?:=fun k b h=>by
    have hb : b < μ.length:=by rw [hH.len]; exact hi.2 b (List.mem_of_getElem? h)
    rw [List.getElem?_map,h,Option.map_some,List.getD_eq_getElem?_getD,List.getElem?_eq_getElem hb]
    rfl
  have hbase : ∀ (k b : Nat) (e : Entry),ids[k]? = some b→(sub H (fun b=>idxOf b 0 ids) ids)[k]? = some e→∃ e',H[b]? = some e'∧e = renEntry (fun b=>idxOf b 0 ids) e':=fun k b e hk h=>by
    rw [sub_get,hk] at h
    have hb : b < H.length:=hi.2 b (List.mem_of_getElem? hk)
    simp only [Option.map_some,List.getElem?_eq_getElem hb,Option.some.injEq,entAt] at h
    exact ⟨H[b],List.getElem?_eq_getElem hb,h.symm⟩
  have hget : ∀ (c : Nat) (f : Entry),(putBack ids (back ids H.length) ids H' H)[c]? = some f →
      (c < H.length∧c∉ids∧H[c]? = some f)∨(∃ k e,c < H.length∧ids[k]? = some c∧H'[k]? = some e∧f = renEntry (back ids H.length) e)∨(∃ j e,ids.length≤j∧c = H.length + (j - ids.length)∧H'[j]? = some e∧f = renEntry (back ids H.length) e):=fun c f h=>by
    rcases Nat.lt_or_ge c H.length with hc | hc
    · by_cases hci : c∈ids
      · obtain ⟨k,hk,hkc⟩:=List.mem_iff_getElem.1 hci
        have hk' : ids[k]? = some c:=by rw [List.getElem?_eq_getElem hk,hkc]
        rw [putBack_at (back ids H.length) ids ids H' H k c hi.1 hm hk' hc] at h
        cases he : H'[k]? with
        | none=>simp [he] at h
        | some e =>
          simp only [he,Option.map_some,Option.some.injEq] at h
          exact .inr (.inl ⟨k,e,hc,hk',he,h.symm⟩)
      · rw [putBack_other (back ids H.length) ids ids H' H c hc hci] at h
        exact .inl ⟨hc,hci,h⟩
    · have hj : c = H.length + ((c - H.length + ids.length) - ids.length):=by omega
      rw [hj,putBack_new (back ids H.length) ids ids H' H (c - H.length + ids.length) (by omega)] at h
      cases he : H'[c - H.length + ids.length]? with
      | none=>simp [he] at h
      | some e =>
        simp only [he,Option.map_some,Option.some.injEq] at h
        exact .inr (.inr ⟨_,e,by omega,hj,he,h.symm⟩)
  have hheld : ∀ (k b : Nat) (e : Entry),ids[k]? = some b→H'[k]? = some e→e.live = true→μ'[k]? = μ[b]?∧∃ e0,H[b]? = some e0∧e0.live = true∧e0.sz = e.sz∧e0.isVec = e.isVec∧e0.cnt≤e.cnt:=fun k b e hk he hl=>by
    have hkl : k < ids.length:=(List.getElem?_eq_some_iff.1 hk).1
    obtain ⟨q1,e0,q2,q3,q4,q5,q6⟩:=hR.held k e (by simpa [baseOf,sub_len] using hkl) he hl
    obtain ⟨e1,z1,rfl⟩:=hbase k b e0 hk q2
    obtain ⟨s1,s2,s3,s4,s5⟩:=renEntry_same (fun b=>idxOf b 0 ids) e1
    exact ⟨q1.trans (hmus k b hk),e1,z1,s1▸q3,s2▸q4,s3▸q5,s4▸q6⟩
  have hren2 : RenOk (back ids H.length) μ' H' (μ ++ μ'.drop ids.length) (putBack ids (back ids H.length) ids H' H):=fun j b hj hb=>by
    unfold back at hb
    cases hk : ids[j]? with
    | some c =>
      simp only [hk,Option.some.injEq] at hb
      subst hb
      have hc : c < H.length:=hi.2 c (List.mem_of_getElem? hk)
      refine ⟨by omega,fun e2 he hl=>?_⟩
      rw [putBack_at (back ids H.length) ids ids H' H j c hi.1 hm hk hc] at he
      cases he' : H'[j]? with
      | none=>simp [he'] at he
      | some e =>
        simp only [he',Option.map_some,Option.some.injEq] at he
        subst he
        obtain ⟨s1,s2,s3,s4,s5⟩:=renEntry_same (back ids H.length) e
        have hl' : e.live = true:=s1▸hl
        exact ⟨e,rfl,hl',s2.symm,s3.symm,by rw [s4]; exact Nat.le_refl _,(hmu0 c hc).trans (hheld j c e hk he' hl').1.symm⟩
    | none =>
      simp only [hk,Option.some.injEq] at hb
      subst hb
      have hjl : ids.length≤j:=by
        rcases Nat.lt_or_ge j ids.length with h | h
        · rw [List.getElem?_eq_getElem h] at hk; cases hk
        · exact h
      refine ⟨by omega,fun e2 he hl=>?_⟩
      rw [putBack_new (back ids H.length) ids ids H' H j hjl] at he
      cases he' : H'[j]? with
      | none=>simp [he'] at he
      | some e =>
        simp only [he',Option.map_some,Option.some.injEq] at he
        subst he
        obtain ⟨s1,s2,s3,s4,s5⟩:=renEntry_same (back ids H.length) e
        exact ⟨e,rfl,s1▸hl,s2.symm,s3.symm,by rw [s4]; exact Nat.le_refl _,hmu1 j hjl⟩
  have hOW : ∀ n,ownBlk (ids.map fun b=>μ.getD b none) (sub H (fun b=>idxOf b 0 ids) ids) n→∃ (b : Nat) (e : Entry) (pl : Place),b∈ids∧H[b]? = some e∧e.owned = true∧μ[b]? = some (some pl)∧pl.blk = n:=fun n ⟨k,e,pl,h1,h2,h3,h4⟩=>by
    have hk : k < ids.length:=by have:=(List.getElem?_eq_some_iff.1 h1).1; rwa [sub_len] at this
    have hk':=List.getElem?_eq_getElem hk
    obtain ⟨e',z1,rfl⟩:=hbase k _ e hk' h1
    rw [hmus k _ hk'] at h3
    exact ⟨ids[k],e',pl,List.getElem_mem hk,z1,(renEntry_same _ e').2.2.2.2▸h2,h3,h4⟩
  have hOW2 : ∀ (c : Nat) (e : Entry) (pl : Place),c∉ids→H[c]? = some e→e.owned = true→μ[c]? = some (some pl)→¬ ownBlk (ids.map fun b=>μ.getD b none) (sub H (fun b=>idxOf b 0 ids) ids) pl.blk:=fun c e pl hc h1 h2 h3 h4=>by
    obtain ⟨b,e',ql,q1,q2,q3,q4,q5⟩:=hOW _ h4
    exact hH.dist b c e' e ql pl (fun q=>hc (q▸q1)) q2 q3 q4 h1 h2 h3 q5
  have hblk : ∀ n,n < w.heap.size→¬ ownBlk (ids.map fun b=>μ.getD b none) (sub H (fun b=>idxOf b 0 ids) ids) n→w'.heap[n]? = w.heap[n]?:=fun n hn hno=>hR.block n hn hno
  have hFO : ∀ n,F1 n→¬ ownBlk (ids.map fun b=>μ.getD b none) (sub H (fun b=>idxOf b 0 ids) ids) n:=fun n hn h=>by
    obtain ⟨b,e',ql,q1,q2,q3,q4,rfl⟩:=hOW _ h
    exact hH.notF q2 q3 q4 hn
  have hle : Le F1 μ H w F' (μ ++ μ'.drop ids.length) (putBack ids (back ids H.length) ids H' H) w':=by
    refine ⟨hR.fr0,fun n hn=>hblk n (hH.frlt n hn) (hFO n hn),by omega,fun c f hc hf hl=>?_⟩
    rcases hget c f hf with ⟨_,_,h⟩ | ⟨k,e,_,hk,he,rfl⟩ | ⟨j,e,hj,hcj,_⟩
    · exact ⟨f,h,hl,rfl,rfl,Nat.le_refl _,hmu0 c hc⟩
    · obtain ⟨s1,s2,s3,s4,s5⟩:=renEntry_same (back ids H.length) e
      obtain ⟨q1,e0,q2,q3,q4,q5,q6⟩:=hheld k c e hk he (s1▸hl)
      exact ⟨e0,q2,q3,q4.trans s2.symm,q5.trans s3.symm,by rw [s4]; exact q6,hmu0 c hc⟩
    · omega
  have hFr : Fr ids μ H w w':=⟨hR.size,fun n hn hno=>hblk n hn fun h=>by
    obtain ⟨b,e',ql,q1,q2,q3,q4,q5⟩:=hOW _ h
    exact hno b q1 e' ql q2 q3 q4 q5⟩
  have hown2 : ∀ (j : Nat) (e : Entry) (pl : Place),H'[j]? = some e→e.owned = true→μ'[j]? = some (some pl)→ownBlk (ids.map fun b=>μ.getD b none) (sub H (fun b=>idxOf b 0 ids) ids) pl.blk∨w.heap.size≤pl.blk:=fun j e pl h1 h2 h3=>hR.own j e pl h1 h2 h3
  have hcase : ∀ (c : Nat) (f : Entry) (pl : Place),(putBack ids (back ids H.length) ids H' H)[c]? = some f→f.owned = true→(μ ++ μ'.drop ids.length)[c]? = some (some pl) →
      (c < H.length∧c∉ids∧H[c]? = some f∧μ[c]? = some (some pl))∨(∃ j e,H'[j]? = some e∧e.owned = true∧μ'[j]? = some (some pl)∧(ids[j]? = some c∧c < H.length∨ids.length≤j∧c = H.length + (j - ids.length))):=fun c f pl h1 h2 h3=>by
    rcases hget c f h1 with ⟨hc,hci,h⟩ | ⟨k,e,hc,hk,he,rfl⟩ | ⟨j,e,hj,rfl,he,rfl⟩
    · exact .inl ⟨hc,hci,h,by rw [← hmu0 c hc]; exact h3⟩
    · have ho:=(renEntry_same (back ids H.length) e).2.2.2.2▸h2
      have hl : e.live = true:=by cases e <;> first | rfl | cases ho
      refine .inr ⟨k,e,he,ho,?_,.inl ⟨hk,hc⟩⟩
      rw [(hheld k c e hk he hl).1,← hmu0 c hc]
      exact h3
    · rw [hmu1 j hj] at h3
      exact .inr ⟨j,e,he,(renEntry_same (back ids H.length) e).2.2.2.2▸h2,h3,.inr ⟨hj,rfl⟩⟩
  refine ⟨hren2,⟨by rw [List.length_append,List.length_drop,hH.len,hml,hlen2],fun c f hf=>?_,fun c d f g pl ql hne h1 h2 h3 h4 h5 h6=>?_,hR.os.trans hH.os,hR.tape.trans hH.tape,hR.output.trans hH.output,Nat.le_trans hH.size hR.size,fun n hn hno=>?_,fun c f pl h1 h2 h3=>?_,fun n hn=>hR.fr0 n (hH.fr0 n hn),fun n hn=>?_,hR.frlt,fun c f hc hf hl=>?_,by have:=hH.mle; omega⟩,hle,hFr⟩
  · rcases hget c f hf with ⟨hc,hci,h⟩ | ⟨k,e,hc,hk,he,rfl⟩ | ⟨j,e,hj,rfl,he,rfl⟩
    · rw [List.getD_eq_getElem?_getD,hmu0 c hc,← List.getD_eq_getElem?_getD]
      refine EntOk.step hle (fun pl hpl ho=>?_) (hH.ent c f h)
      have hl : f.live = true:=by cases f <;> first | rfl | cases ho
      have hno:=hOW2 c f pl hci h ho (getD_some hpl)
      have hlt:=hH.blk h hl (getD_some hpl)
      refine ⟨hblk _ hlt hno,fun hF=>?_⟩
      rcases hR.fr1 _ hF with q | q | q
      · exact q
      · exact absurd q hno
      · exact absurd hlt (Nat.not_lt.2 q)
    · have hent:=EntOk.ren hren2 (hR.ent k e he)
      cases hl : e.live with
      | true =>
        rw [List.getD_eq_getElem?_getD,(hheld k c e hk he hl).1] at hent
        rw [List.getD_eq_getElem?_getD,hmu0 c hc]
        exact hent
      | false =>
        have : e = .gone:=by cases e <;> first | rfl | cases hl
        subst this
        exact trivial
    · have hent:=EntOk.ren hren2 (hR.ent j e he)
      rw [List.getD_eq_getElem?_getD,hmu1 j hj,← List.getD_eq_getElem?_getD]
      exact hent
  · rcases hcase c f pl h1 h2 h3 with ⟨a1,a2,a3,a4⟩ | ⟨j,e,a1,a2,a3,a4⟩ <;> rcases hcase d g ql h4 h5 h6 with ⟨b1,b2,b3,b4⟩ | ⟨i,e',b1,b2,b3,b4⟩
    · exact hH.dist c d f g pl ql hne a3 h2 a4 b3 h5 b4
    · intro q
      have hlt:=hH.blk a3 (by cases f <;> first | rfl | cases h2) a4
      rcases hown2 i e' ql b1 b2 b3 with z | z
      · exact hOW2 c f pl a2 a3 h2 a4 (q▸z)
      · omega
    · intro q
      have hlt:=hH.blk b3 (by cases g <;> first | rfl | cases h5) b4
      rcases hown2 j e pl a1 a2 a3 with z | z
      · exact hOW2 d g ql b2 b3 h5 b4 (q▸z)
      · omega
    · refine hR.dist j i e e' pl ql (fun q=>hne ?_) a1 a2 a3 b1 b2 b3
      subst q
      rcases a4 with ⟨a4,_⟩ | ⟨a4,a5⟩ <;> rcases b4 with ⟨b4,_⟩ | ⟨b4,b5⟩
      · rw [a4] at b4; exact Option.some.inj b4
      · have:=(List.getElem?_eq_some_iff.1 a4).1; omega
      · have:=(List.getElem?_eq_some_iff.1 b4).1; omega
      · omega
  · rw [hblk n (Nat.lt_of_lt_of_le hn hH.size)]
    · exact hH.block n hn hno
    · intro h
      obtain ⟨b,e',ql,q1,q2,q3,q4,rfl⟩:=hOW _ h
      rcases hH.own b e' ql q2 q3 q4 with z | z
      · exact hno z
      · omega
  · rcases hcase c f pl h1 h2 h3 with ⟨a1,a2,a3,a4⟩ | ⟨j,e,a1,a2,a3,a4⟩
    · exact hH.own c f pl a3 h2 a4
    · rcases hown2 j e pl a1 a2 a3 with z | z
      · obtain ⟨b,e',ql,q1,q2,q3,q4,q5⟩:=hOW _ z
        rw [← q5]
        exact hH.own b e' ql q2 q3 q4
      · exact .inr (Nat.le_trans hH.size z)
  · rcases hR.fr1 n hn with q | q | q
    · exact hH.fr1 n q
    · obtain ⟨b,e',ql,q1,q2,q3,q4,rfl⟩:=hOW _ q
      exact .inr (hH.own b e' ql q2 q3 q4)
    · exact .inr (.inr (Nat.le_trans hH.size q))
  · have hcl : c < H.length:=Nat.lt_of_lt_of_le hc hH.mle
    obtain ⟨e0,q1,q2,q3,q4,q5,q6⟩:=hle.ent c f hcl hf hl
    obtain ⟨z1,e1,z2,z3,z4,z5,z6⟩:=hH.held c e0 hc q1 q2
    exact ⟨q6.trans z1,e1,z2,z3,z4.trans q3,z5.trans q4,Nat.le_trans z6 q5⟩
end
end Go.Eng
namespace Go.Eng
open Go.RowKit
def IsGo (P : Program) (g : FuncId) : Prop := ∃ fn, P.funcs[g]? = some fn ∧ (fn.name == "runtime.NumGoroutine") = false ∧ fn.body.isNone = false
def Holds (P : Program) (G : Nat→Option (List PC)) (g : FuncId) (args : List TV) (H : List Entry) (K : TV→List Entry→Prop) : Prop :=
  ∀ (F : Nat→Prop) (μ : List (Option Place)) (w : World) (vs : Array Value),HeapOk (baseOf F μ H w) F μ H w→GlobOk G F w→RepVs F μ H w args vs.toList →
    Calls P g vs w fun e w'=>∃ v F' μ' res H',e = .returned v∧HeapOk (baseOf F μ H w) F' μ' H' w'∧RepV F' μ' H' w' res v∧K res H'
def CallsOk (P : Program) (C : Ctx) : Prop:=∀ g args H (K : TV→List Entry→Prop),C.call g args H K→IsGo P g∧Holds P C.glob g args H K
section
variable {P : Program} {C : Ctx} {A : Base} {F F' : Nat→Prop} {μ μ' μ2 : List (Option Place)} {H H' H2 : List Entry} {w w' : World}
theorem flatPC_rep {x : PC} {v : Value} (h : flatPC x = true) (r : RepC F' w' x v) : RepC F w x v:=by
  cases r with
  | c v h1=>exact .c v h1
  | nil=>cases h
  | sl=>cases h
theorem flatTC_rep {x : TC} {v : Value} (h : flatTC x = true) (r : RepT F' μ' H' w' x v) (f : Nat→Option Nat) : RepT F μ H w (renTC f x) v:=by
  cases x with
  | p x=>exact flatPC_rep h r
  | _=>cases h
theorem flatTCs_rep : ∀ {xs : List TC} {vs : List Value},xs.all flatTC = true→RepTs F' μ' H' w' xs vs→∀ f : Nat→Option Nat,RepTs F μ H w (renTC.renTCs f xs) vs
  | [],[],_,_,_=>trivial
  | _ :: _,_ :: _,h,r,f=>by
    simp only [List.all_cons,Bool.and_eq_true] at h
    exact ⟨⟨r.1.1,flatTC_rep h.1 r.1.2 f⟩,flatTCs_rep h.2 r.2 f⟩
  | [],_ :: _,_,r,_=>r.elim
  | _ :: _,[],_,r,_=>r.elim
theorem flatPCs_rep : ∀ {xs : List PC} {vs : List Value},xs.all flatPC = true→RepCs F' w' xs vs→RepCs F w xs vs
  | [],[],_,_=>trivial
  | _ :: _,_ :: _,h,r=>by
    simp only [List.all_cons,Bool.and_eq_true] at h
    exact ⟨flatPC_rep h.1 r.1,flatPCs_rep h.2 r.2⟩
  | [],_ :: _,_,r=>r.elim
  | _ :: _,[],_,r=>r.elim
theorem flatTW_rep {x : TW} {v : Value} (h : flatTW x = true) (r : RepW F' μ' H' w' x v) (f : Nat→Option Nat) : RepW F μ H w (renTW f x) v:=by
  cases x with
  | one x=>exact flatTC_rep h r f
  | agg xs=>obtain ⟨cs,e,r⟩:=r; exact ⟨cs,e,flatTCs_rep h r f⟩
  | pagg xs=>obtain ⟨cs,e,r⟩:=r; exact ⟨cs,e,flatPCs_rep h r⟩
theorem flatTWs_rep : ∀ {xs : List TW} {vs : List Value},xs.all flatTW = true→RepWs F' μ' H' w' xs vs→∀ f : Nat→Option Nat,RepWs F μ H w (xs.map (renTW f)) vs
  | [],[],_,_,_=>trivial
  | _ :: _,_ :: _,h,r,f=>by
    simp only [List.all_cons,Bool.and_eq_true] at h
    exact ⟨flatTW_rep h.1 r.1 f,flatTWs_rep h.2 r.2 f⟩
  | [],_ :: _,_,r,_=>r.elim
  | _ :: _,[],_,r,_=>r.elim
theorem flatTV_rep {x : TV} {v : Value} (h : flatTV x = true) (r : RepV F' μ' H' w' x v) (f : Nat→Option Nat) : RepV F μ H w (renTV f x) v:=by
  cases x with
  | w x=>exact flatTW_rep h r f
  | tup xs=>obtain ⟨vs,e,r⟩:=r; exact ⟨vs,e,flatTWs_rep h r f⟩
def CallPost (A : Base) (F : Nat→Prop) (μ : List (Option Place)) (H : List Entry) (w : World) (M : List Nat) (K : TV→List Entry→Prop) (e : Ending) (w' : World) : Prop :=
  ∃ v F' μ' H' tv,e = .returned v∧HeapOk A F' μ' H' w'∧Le F μ H w F' μ' H' w'∧RepV F' μ' H' w' tv v∧Fr M μ H w w'∧K tv H'
theorem lock1_get {c b : Nat} {e : Entry} (h : (lock1 c H)[b]? = some e) (ho : e.owned = true) : H[b]? = some e:=by
  unfold lock1 at h
  split at h
  · rename_i sz es wr hc
    rw [List.getElem?_set] at h
    split at h
    · split at h
      · obtain rfl:=Option.some.inj h
        cases ho
      · cases h
    · exact h
  · exact h
theorem lockAll_get : ∀ (l : List Nat) {H : List Entry} {b : Nat} {e : Entry},(lockAll l H)[b]? = some e→e.owned = true→H[b]? = some e
  | [],H,b,e,h,_=>h
  | c :: l,H,b,e,h,ho=>lock1_get (lockAll_get l h ho) ho
theorem callT_ok (hC : CtxOk P C F w) (hS : CallsOk P C) (hH : HeapOk A F μ H w) {g : FuncId} {args : List TV} {vs : Array Value} {K : TV→List Entry→Prop} (h : callT C g args H K) (ha : RepVs F μ H w args vs.toList) :
    IsGo P g∧Calls P g vs w (CallPost A F μ H w (passed C g args H) K):=by
  unfold callT at h
  simp only [] at h
  obtain ⟨hgo,hh⟩:=hS _ _ _ _ h
  refine ⟨hgo,?_⟩
  obtain ⟨F1,hH1,hle1,hlent,hlen1⟩:=lockAll_ok (lentIds C g args) hH
  have hids : IdsOk H.length (passed C g args H):=reach_ok H _ _ _ (addNew_ok _ _ _ ⟨List.nodup_nil,fun b hb=>by cases hb⟩)
  have hids1 : IdsOk (lockAll (lentIds C g args) H).length (passed C g args H):=by rw [hlen1]; exact hids
  obtain ⟨hren,hsub⟩:=sub_ok hH1 hids1
  have hsn:=snapAll_ok (C:=C) hH hle1 g hlent ha
  have hargs:=RepVs.ren hren hsn
  have hglob : GlobOk C.glob F1 w:=GlobOk.mono hC.glob hle1.fr hle1.heap
  refine (hh F1 _ w vs hsub hglob hargs).mono fun e w' ⟨v,F',μ',res,H',he,hR,hv,hK⟩=>?_
  dsimp only at hK
  obtain ⟨hren2,hH2,hle2,hfr⟩:=merge_ok hH1 hids1 hR
  rw [hlen1] at hren2 hH2 hle2
  cases hc : (!(lentIds C g args).isEmpty && ((passed C g args H).isEmpty && flatTV res && H'.isEmpty)) with
  | true =>
    rw [hc] at hK
    simp only [cond_true] at hK
    simp only [Bool.and_eq_true,List.isEmpty_iff] at hc
    obtain ⟨-,⟨c1,c2⟩,c3⟩:=hc
    have hsame : ∀ n,n < w.heap.size→w'.heap[n]? = w.heap[n]?:=fun n hn=>hfr.2 n hn (by rw [c1]; intro b hb; cases hb)
    have hle : Le F μ H w F μ H w':=⟨fun _ h=>h,fun n hn=>hsame n (hH.frlt n hn),Nat.le_refl _,fun b e' _ hb hl=>⟨e',hb,hl,rfl,rfl,Nat.le_refl _,rfl⟩⟩
    refine ⟨v,F,μ,H,_,he,⟨hH.len,fun b e hb=>EntOk.step hle (fun pl hpl ho=>⟨hsame _ (hH.blk hb (by cases e <;> first | rfl | cases ho) (getD_some hpl)),id⟩) (hH.ent b e hb),hH.dist,hR.os.trans hH.os,hR.tape.trans hH.tape,hR.output.trans hH.output,Nat.le_trans hH.size hfr.1,fun n hn hno=>(hsame n (Nat.lt_of_lt_of_le hn hH.size)).trans (hH.block n hn hno),hH.own,hH.fr0,hH.fr1,fun n hn=>Nat.lt_of_lt_of_le (hH.frlt n hn) hfr.1,hH.held,hH.mle⟩,hle,flatTV_rep c2 hv _,⟨hfr.1,fun n hn _=>hsame n hn⟩,hK⟩
  | false =>
    rw [hc] at hK
    simp only [cond_false] at hK
    exact ⟨v,F',_,_,_,he,hH2,hle1.trans hle2,RepV.ren hren2 hv,⟨hfr.1,fun n hn hno=>hfr.2 n hn fun b hb e pl h1 h2 h3=>hno b hb e pl (lockAll_get _ h1 h2) h2 h3⟩,hK⟩
theorem call_ok (hC : CtxOk P C F w) (hS : CallsOk P C) (hH : HeapOk A F μ H w) {tmps : List TV} {a : Act} (ha : RepA F μ H w tmps a) {o : Oper} (hn : isCall o.op = true) {K : TV→List Entry→Prop} (h : opT C o tmps H K) :
    ∃ g vs,(execOp a.eval o).run P w = .ok (.enter g vs) w∧Calls P g vs w (CallPost A F μ H w (modsT C o tmps H) K):=by
  unfold opT at h
  unfold execOp modsT
  cases hop : o.op with
  | call c =>
    rw [hop] at h hn
    obtain ⟨callee,args,argTypes⟩:=c
    cases callee with
    | builtin b=>cases hn
    | invoke r m=>exact h.elim
    | value x =>
      have h' : (match calleeArgs ⟨.value x,args,argTypes⟩ (opd C tmps) with
        | some (g,args)=>callT C g args H K
        | none=>False : Prop):=h
      have hM : (match (⟨.value x,args,argTypes⟩ : Call).callee with
        | .builtin _=>(match (⟨.value x,args,argTypes⟩ : Call).args[0]? with
          | some x=>ownIds (opd C tmps none x)
          | none=>[])
        | _=>(match calleeArgs ⟨.value x,args,argTypes⟩ (opd C tmps) with
          | some (g,args)=>passed C g args H
          | none=>[])) = (match calleeArgs ⟨.value x,args,argTypes⟩ (opd C tmps) with
          | some (g,args)=>passed C g args H
          | none=>[]):=rfl
      show ∃ g vs,(do let d ← resolve a.eval ⟨.value x,args,argTypes⟩ o.type; invoke d.target d.args : Sem Next).run P w = _∧Calls P g vs w (CallPost A F μ H w (match calleeArgs ⟨.value x,args,argTypes⟩ (opd C tmps) with
          | some (g,args)=>passed C g args H
          | none=>[]) K)
      cases hca : calleeArgs ⟨.value x,args,argTypes⟩ (opd C tmps) with
      | none=>rw [hca] at h'; exact h'.elim
      | some ga =>
        obtain ⟨g,targs⟩:=ga
        rw [hca] at h'
        have hargs:=argsT_rep hC ha ⟨.value x,args,argTypes⟩
        have hx:=ha.opd hC none x
        have key : ∃ vs us : Array Value,a.eval x = .func (.func g) vs us∧RepVs F μ H w targs (vs ++ args.map a.eval ++ us).toList:=by
          unfold calleeArgs at hca
          simp only [] at hca
          split at hca
          · rename_i v hv
            split at hca
            · rename_i g' hg
              simp only [Option.some.injEq,Prod.mk.injEq] at hca
              obtain ⟨rfl,rfl⟩:=hca
              rw [hv] at hx
              refine ⟨#[],#[],(rep_c hx).1.trans (isFn_eq hg),?_⟩
              simpa using hargs
            · cases hca
          · rename_i g' fs cs hv
            simp only [Option.some.injEq,Prod.mk.injEq] at hca
            obtain ⟨rfl,rfl⟩:=hca
            rw [hv] at hx
            obtain ⟨vs,us,e,r1,r2⟩:=hx
            refine ⟨vs,us,e,?_⟩
            rw [Array.toList_append,Array.toList_append]
            exact ((RepTs.ones r1).append hargs).append (RepTs.ones r2)
          · cases hca
        obtain ⟨vs,us,hfn,hr⟩:=key
        obtain ⟨⟨fn,g1,g2,g3⟩,hcalls⟩:=callT_ok hC hS hH h' hr
        refine ⟨g,vs ++ args.map a.eval ++ us,?_,hcalls⟩
        have hres : (resolve a.eval ⟨.value x,args,argTypes⟩ o.type : Sem Deferred) = pure { target:=.fn (.func g) us,args:=vs ++ args.map a.eval }:=by
          show Deferred.ofValue (a.eval x) (args.map a.eval) = _
          rw [hfn]
          rfl
        rw [hres]
        simp only [pure_bind]
        show (callFunc g (vs ++ args.map a.eval ++ us)).run P w = _
        unfold callFunc
        simp only [Sem.run_bind,run_program,Result.andThen_ok,g1]
        simp only [g2,g3]
        rfl
  | _=>rw [hop] at hn; cases hn
end
end Go.Eng
namespace Go.Eng
open Go.RowKit
section
variable {P : Program} {C : Ctx} {A : Base} {F F' : Nat→Prop} {μ μ' μ2 : List (Option Place)} {H H' H2 : List Entry} {w w' : World} {ops : Array Oper}
def opGo (P : Program) (ops : Array Oper) (j : Nat) (K : Act→World→Prop) (a : Act) (w : World) : Prop :=
  match ops[j]? with
  | none=>K a w
  | some o=>if Region.wanted o (yielded ops a.tmps) = true then
      (∃ nx v w',(execOp a.eval o).run P w = .ok nx w'∧(nx = .value v∨(nx = .skip∧v = undef))∧K (a.put o.dst v) w') ∨
      (∃ f args w',(execOp a.eval o).run P w = .ok (.enter f args) w'∧Calls P f args w' fun e w''=>∃ v,e = .returned v∧K (a.put o.dst v) w'')
    else K (a.put o.dst undef) w
theorem opGo.wpOp {j : Nat} {K : Act→World→Prop} {Q : Exit→Act→World→Prop} {a : Act} (h : opGo P ops j K a w) : wpOp P ops Q j K a w:=by
  unfold opGo at h
  unfold Go.wpOp
  cases ho : ops[j]? with
  | none=>rw [ho] at h; exact h
  | some o =>
    rw [ho] at h
    simp only [] at h ⊢
    split at h
    · rename_i hw
      rw [if_pos hw]
      left
      unfold Oper.wp
      rcases h with ⟨nx,v,w1,h1,h2,h3⟩ | ⟨f,args,w1,h1,h2⟩
      · rw [h1]
        rcases h2 with rfl | ⟨rfl,rfl⟩
        · exact h3
        · exact h3
      · rw [h1]
        exact h2.mono fun e w2 ⟨v,he,hk⟩=>by subst he; exact hk
    · rename_i hw
      rw [if_neg hw]
      exact h
theorem opGo.mono {j : Nat} {K K' : Act→World→Prop} {a : Act} (hk : ∀ a w,K a w→K' a w) (h : opGo P ops j K a w) : opGo P ops j K' a w:=by
  unfold opGo at *
  cases ho : ops[j]? with
  | none=>rw [ho] at h; exact hk _ _ h
  | some o =>
    rw [ho] at h
    simp only [] at h ⊢
    split at h
    · rename_i hw
      rw [if_pos hw]
      rcases h with ⟨nx,v,w1,h1,h2,h3⟩ | ⟨f,args,w1,h1,h2⟩
      · exact .inl ⟨nx,v,w1,h1,h2,hk _ _ h3⟩
      · exact .inr ⟨f,args,w1,h1,h2.mono fun e w2 ⟨v,he,hk'⟩=>⟨v,he,hk _ _ hk'⟩⟩
    · rename_i hw
      rw [if_neg hw]
      exact hk _ _ h
structure InvAt (P : Program) (C : Ctx) (A : Base) (F : Nat→Prop) (μ : List (Option Place)) (σ : St) (a : Act) (w : World) : Prop where
  heap : HeapOk A F μ σ.heap w
  act : RepA F μ σ.heap w σ.tmps a
  ctx : CtxOk P C F w
theorem CtxOk.le (hC : CtxOk P C F w) (h : Le F μ H w F' μ' H' w') : CtxOk P C F' w':=⟨hC.ty,GlobOk.mono hC.glob h.fr h.heap⟩
noncomputable def modsAt (C : Ctx) (ops : Array Oper) (i : Nat) (σ : St) : List Nat:=match ops[i]? with
  | some o=>modsT C o σ.tmps σ.heap
  | none=>[]
theorem set_same {α : Type} {l : List α} {d : Nat} {x : α} (h : l[d]? = some x) : l.set d x = l:=by
  apply List.ext_getElem?
  intro j
  rw [List.getElem?_set]
  split
  · rename_i hj
    subst hj
    rw [if_pos (List.getElem?_eq_some_iff.1 h).1,h]
  · rfl
theorem oper_go (hS : CallsOk P C) {σ : St} {a : Act} (hi : InvAt P C A F μ σ a w) {o : Oper} {K : TV→List Entry→Prop} (h : opT C o σ.tmps σ.heap K) :
    (∃ nx v w',(execOp a.eval o).run P w = .ok nx w'∧(nx = .value v∨(nx = .skip∧v = undef))∧∃ tv F' μ' H',InvAt P C A F' μ' ⟨St.put σ.tmps o.dst tv,H'⟩ (a.put o.dst v) w'∧Le F μ σ.heap w F' μ' H' w'∧Fr (modsT C o σ.tmps σ.heap) μ σ.heap w w'∧K tv H') ∨
    (∃ f args w',(execOp a.eval o).run P w = .ok (.enter f args) w'∧Calls P f args w' fun e w''=>∃ v,e = .returned v∧∃ tv F' μ' H',InvAt P C A F' μ' ⟨St.put σ.tmps o.dst tv,H'⟩ (a.put o.dst v) w''∧Le F μ σ.heap w F' μ' H' w''∧Fr (modsT C o σ.tmps σ.heap) μ σ.heap w w''∧K tv H'):=by
  cases hc : isCall o.op with
  | false =>
    obtain ⟨nx,v,w',F',μ',H',tv,h1,h2,h3,h4,h5,h6,h7⟩:=op_ok hi.ctx hi.heap hi.act hc h
    exact .inl ⟨nx,v,w',h1,h2,tv,F',μ',H',⟨h3,(hi.act.le h4).put h5 o.dst,hi.ctx.le h4⟩,h4,h6,h7⟩
  | true =>
    obtain ⟨g,vs,h1,h2⟩:=call_ok hi.ctx hS hi.heap hi.act hc h
    refine .inr ⟨g,vs,w,h1,h2.mono fun e w' ⟨v,F',μ',H',tv,he,h3,h4,h5,h6,h7⟩=>⟨v,he,tv,F',μ',H',⟨h3,(hi.act.le h4).put h5 o.dst,hi.ctx.le h4⟩,h4,h6,h7⟩⟩
theorem yielded_of {a : Act} {σ : St} (ha : RepA F μ H w σ.tmps a) {g d : Nat} {b : Bool} (hd : (ops[g]?).bind (·.dst) = some d) (hv : σ.tmps[d]? = some (.w (.one (.p (.c (.bool b)))))) : yielded ops a.tmps g = some b:=by
  have hr:=ha.get d _ hv
  have hlt : d < a.tmps.size:=by rw [ha.size]; exact (List.getElem?_eq_some_iff.1 hv).1
  have e:=(rep_c hr).1
  unfold yielded
  rw [hd]
  simp only [Option.bind_some]
  have : a.tmps[d]? = some (.bool b):=by
    rw [Array.getElem?_eq_getElem hlt]
    rw [Array.getD_eq_getD_getElem?,Array.getElem?_eq_getElem hlt] at e
    simpa using e
  rw [this]
theorem yielded_none {a : Act} {σ : St} (ha : RepA F μ H w σ.tmps a) {g d : Nat} (hd : (ops[g]?).bind (·.dst) = some d) (hv : σ.tmps[d]? = some (.tup [])) : yielded ops a.tmps g = none:=by
  have hr:=ha.get d _ hv
  have hlt : d < a.tmps.size:=by rw [ha.size]; exact (List.getElem?_eq_some_iff.1 hv).1
  obtain ⟨vs,e,_⟩:=hr
  unfold yielded
  rw [hd]
  simp only [Option.bind_some]
  have : a.tmps[d]? = some (.tuple vs):=by
    rw [Array.getElem?_eq_getElem hlt]
    rw [Array.getD_eq_getD_getElem?,Array.getElem?_eq_getElem hlt] at e
    simpa using e
  rw [this]
theorem step_go (hS : CallsOk P C) {σ : St} {a : Act} (hi : InvAt P C A F μ σ a w) {i : Nat} {K : St→Prop} (h : stepT C ops i σ K) :
    opGo P ops i (fun a' w'=>∃ σ' F' μ',InvAt P C A F' μ' σ' a' w'∧Le F μ σ.heap w F' μ' σ'.heap w'∧Fr (modsAt C ops i σ) μ σ.heap w w'∧K σ') a w:=by
  rw [stepT_eq] at h
  unfold stepT0 at h
  unfold opGo modsAt
  cases ho : ops[i]? with
  | none =>
    rw [ho] at h
    exact ⟨σ,F,μ,hi,Le.refl,Fr.refl,h⟩
  | some o =>
    rw [ho] at h
    simp only [] at h ⊢
    have hundef : ∀ d,InvAt P C A F μ ⟨St.put σ.tmps d undefT,σ.heap⟩ (a.put d undef) w:=fun d=>⟨hi.heap,hi.act.put (tv:=undefT) ⟨#[],rfl,trivial⟩ d,hi.ctx⟩
    have run : ∀ (hw : Region.wanted o (yielded ops a.tmps) = true) (h : opT C o σ.tmps σ.heap fun v H=>K ⟨St.put σ.tmps o.dst v,H⟩),
        if Region.wanted o (yielded ops a.tmps) = true then
          (∃ nx v w',(execOp a.eval o).run P w = .ok nx w'∧(nx = .value v∨(nx = .skip∧v = undef))∧∃ σ' F' μ',InvAt P C A F' μ' σ' (a.put o.dst v) w'∧Le F μ σ.heap w F' μ' σ'.heap w'∧Fr (modsT C o σ.tmps σ.heap) μ σ.heap w w'∧K σ') ∨
          (∃ f args w',(execOp a.eval o).run P w = .ok (.enter f args) w'∧Calls P f args w' fun e w''=>∃ v,e = .returned v∧∃ σ' F' μ',InvAt P C A F' μ' σ' (a.put o.dst v) w''∧Le F μ σ.heap w F' μ' σ'.heap w''∧Fr (modsT C o σ.tmps σ.heap) μ σ.heap w w''∧K σ')
        else ∃ σ' F' μ',InvAt P C A F' μ' σ' (a.put o.dst undef) w∧Le F μ σ.heap w F' μ' σ'.heap w∧Fr (modsT C o σ.tmps σ.heap) μ σ.heap w w∧K σ':=fun hw h=>by
      rw [if_pos hw]
      rcases oper_go hS hi h with ⟨nx,v,w',h1,h2,tv,F',μ',H',h3,h4,h5,h6⟩ | ⟨f,args,w',h1,h2⟩
      · exact .inl ⟨nx,v,w',h1,h2,_,F',μ',h3,h4,h5,h6⟩
      · exact .inr ⟨f,args,w',h1,h2.mono fun e w'' ⟨v,he,tv,F',μ',H',h3,h4,h5,h6⟩=>⟨v,he,_,F',μ',h3,h4,h5,h6⟩⟩
    cases hg : o.guard with
    | none =>
      rw [hg] at h
      exact run (by unfold Region.wanted; rw [hg]) h
    | some gw =>
      obtain ⟨g,want⟩:=gw
      rw [hg] at h
      simp only [] at h
      split at h
      · rename_i d hd
        split at h
        · rename_i b hb
          have hy:=yielded_of hi.act hd hb
          have hset : σ.tmps.set d (B b) = σ.tmps:=set_same hb
          have h' : bif b == want then opT C o σ.tmps σ.heap (fun v H=>K ⟨St.put σ.tmps o.dst v,H⟩) else K ⟨St.put σ.tmps o.dst undefT,σ.heap⟩:=by
            cases b <;> (simp only [br] at h; rw [hset] at h; exact h)
          have hw : Region.wanted o (yielded ops a.tmps) = (b == want):=by
            unfold Region.wanted
            rw [hg]
            simp only [hy]
            cases b <;> cases want <;> rfl
          cases hbw : (b == want) with
          | true =>
            rw [hbw] at h'
            exact run (hw.trans hbw) h'
          | false =>
            rw [hbw] at h'
            rw [if_neg (by rw [hw,hbw]; exact Bool.false_ne_true)]
            exact ⟨_,F,μ,hundef o.dst,Le.refl,Fr.refl,h'⟩
        · rename_i hb
          have hy:=yielded_none (ops:=ops) hi.act hd hb
          have hw : Region.wanted o (yielded ops a.tmps) = false:=by
            unfold Region.wanted
            rw [hg]
            simp only [hy]
            rfl
          rw [if_neg (by rw [hw]; exact Bool.false_ne_true)]
          exact ⟨_,F,μ,hundef o.dst,Le.refl,Fr.refl,h⟩
        · exact h.elim
      · exact h.elim
def Inv (P : Program) (C : Ctx) (A : Base) (σ : St) (a : Act) (w : World) : Prop:=∃ F μ,InvAt P C A F μ σ a w
theorem steps_go (hS : CallsOk P C) {Q : Exit→Act→World→Prop} {K : St→Prop} (hQ : ∀ σ a w,Inv P C A σ a w→K σ→Q .normal a w) : ∀ (l : List Nat) {σ : St} {a : Act} {w : World},Inv P C A σ a w→stepsT C ops l σ K→wpOps P ops Q l a w
  | [],σ,a,w,hi,h=>hQ σ a w hi h
  | i :: l,σ,a,w,⟨F,μ,hi⟩,h=>by
    rw [wpOps_cons]
    have h' : stepT C ops i σ fun σ'=>stepsT C ops l σ' K:=h
    exact (opGo.mono (fun a' w' ⟨σ',F',μ',h1,_,_,h2⟩=>steps_go hS hQ l ⟨F',μ',h1⟩ h2) (step_go hS hi h')).wpOp
end
end Go.Eng
namespace Go.Eng
open Go.RowKit
section
variable {P : Program} {C : Ctx} {A : Base} {F F' : Nat→Prop} {μ μ' μ2 : List (Option Place)} {H H' H2 : List Entry} {w w' : World} {ops : Array Oper}
def wpAnyK (P : Program) (ops : Array Oper) (S : Nat→World→World→Prop) (Q : Act→World→Prop) : Nat→Array Bool→Act→World→Prop
  | 0,listed,a,w=>Region.ready .any ops listed = []∧Q a w
  | n + 1,listed,a,w=>(Region.ready .any ops listed = []→Q a w) ∧
    ∀ j∈Region.ready .any ops listed,opGo P ops j (fun a' w'=>S j w w'∧wpAnyK P ops S Q n (listed.setIfInBounds j true) a' w') a w
theorem wpAnyK.any {S : Nat→World→World→Prop} {Q : Act→World→Prop} {Q' : Exit→Act→World→Prop} (hQ : ∀ a w,Q a w→Q' .normal a w) : ∀ (n : Nat) (listed : Array Bool) (a : Act) (w : World),wpAnyK P ops S Q n listed a w→wpAny P .any ops Q' n listed a w
  | 0,_,_,_,h=>⟨h.1,hQ _ _ h.2⟩
  | n + 1,_,_,_,h=>⟨fun h0=>hQ _ _ (h.1 h0),fun j hj=>(opGo.mono (fun a' w' h'=>wpAnyK.any hQ n _ a' w' h'.2) (h.2 j hj)).wpOp⟩
theorem wpAnyK.mono {S S' : Nat→World→World→Prop} {Q : Act→World→Prop} (hS : ∀ j w w',S j w w'→S' j w w') : ∀ (n : Nat) (listed : Array Bool) (a : Act) (w : World),wpAnyK P ops S Q n listed a w→wpAnyK P ops S' Q n listed a w
  | 0,_,_,_,h=>h
  | n + 1,_,_,_,h=>⟨h.1,fun j hj=>opGo.mono (fun a' w' h'=>⟨hS _ _ _ h'.1,wpAnyK.mono hS n _ a' w' h'.2⟩) (h.2 j hj)⟩
theorem opGo_put {j : Nat} {oi oj : Oper} {v : Value} (hj : ops[j]? = some oj) (hap : oi.apart ops oj = true) (hsi : ∀ cs b,oi.op≠.select cs b) (hsj : ∀ cs b,oj.op≠.select cs b) {K : Act→World→Prop} {a : Act}
    (h : opGo P ops j K (a.put oi.dst v) w) : opGo P ops j (fun a' w'=>(execOp a'.eval oi = execOp a.eval oi∧Region.wanted oi (yielded ops a'.tmps) = Region.wanted oi (yielded ops a.tmps))∧K (a'.put oi.dst v) w') a w:=by
  obtain ⟨h1,h2,h3⟩:=Oper.apart_spec hap
  have keep : ∀ u,execOp (a.put oj.dst u).eval oi = execOp a.eval oi∧Region.wanted oi (yielded ops (a.put oj.dst u).tmps) = Region.wanted oi (yielded ops a.tmps):=fun u =>
    ⟨execOp_put oi hsi a oj.dst u h3,wanted_put oi a oj.dst u h3⟩
  unfold opGo at *
  simp only [hj] at *
  rw [wanted_put oj a oi.dst v h1] at h
  split at h
  · rename_i hw
    rw [if_pos hw]
    rw [execOp_put oj hsj a oi.dst v h1] at h
    rcases h with ⟨nx,u,w1,q1,q2,q3⟩ | ⟨f,args,w1,q1,q2⟩
    · exact .inl ⟨nx,u,w1,q1,q2,keep u,by rw [← Act.put_comm a v u h2]; exact q3⟩
    · exact .inr ⟨f,args,w1,q1,q2.mono fun e w2 ⟨u,he,hk⟩=>⟨u,he,keep u,by rw [← Act.put_comm a v u h2]; exact hk⟩⟩
  · rename_i hw
    rw [if_neg hw]
    exact ⟨keep _,by rw [← Act.put_comm a v undef h2]; exact h⟩
structure Cl (ops : Array Oper) (listed : Array Bool) : Prop where
  size : listed.size = ops.size
  closed : ∀ j oj,ops[j]? = some oj→listed.getD j false = true→∀ e∈oj.after,Region.binds .any e = true→listed.getD e.on false = true
theorem Cl.set {i : Nat} {listed : Array Bool} (h : Cl ops listed) (hi : i∈Region.ready .any ops listed) : Cl ops (listed.setIfInBounds i true):=by
  obtain ⟨_,oi,hoi,hall⟩:=mem_ready.1 hi
  refine ⟨by simp [h.size],fun j oj hj hl e he hb=>?_⟩
  by_cases hij : i = j
  · subst hij
    have : oj = oi:=Option.some.inj (hj.symm.trans hoi)
    subst this
    exact getD_set_true (hall e he hb)
  · rw [getD_set_ne false hij] at hl
    exact getD_set_true (h.closed j oj hj hl e he hb)
theorem wpAnyK_first {S : Nat→World→World→Prop} {Q : Act→World→Prop} {Stab : World→World→Prop} {i : Nat} {oi : Oper} {v : Value} (hi : ops[i]? = some oi) (hsel : ∀ (j : Nat) (o : Oper) cs b,ops[j]? = some o→o.op≠.select cs b)
    (hrefl : ∀ w,Stab w w) (htr : ∀ a b c,Stab a b→Stab b c→Stab a c) (hSi : ∀ w,S i w w)
    (hst : ∀ (listed : Array Bool) (j : Nat),Cl ops listed→i∈Region.ready .any ops listed→j∈Region.ready .any ops listed→j≠i→∀ w w',S j w w'→Stab w w') :
    ∀ (fuel : Nat) (listed : Array Bool) (a : Act) (w : World),Cl ops listed →
      (∀ j oj,ops[j]? = some oj→j≠i→listed.getD j true = false→(∀ e∈oj.after,Region.binds .any e = true→e.on≠i)→oi.apart ops oj = true) →
      i∈Region.ready .any ops listed →
      ((Region.wanted oi (yielded ops a.tmps) = true∧∀ w',Stab w w'→(execOp a.eval oi).run P w' = .ok (.value v) w')∨(Region.wanted oi (yielded ops a.tmps) = false∧v = undef)) →
      wpAnyK P ops S Q fuel (listed.setIfInBounds i true) (a.put oi.dst v) w→wpAnyK P ops S Q (fuel + 1) listed a w:=by
  have hself : ∀ (K : Act→World→Prop) (a : Act) (w : World),((Region.wanted oi (yielded ops a.tmps) = true∧∀ w',Stab w w'→(execOp a.eval oi).run P w' = .ok (.value v) w')∨(Region.wanted oi (yielded ops a.tmps) = false∧v = undef))→K (a.put oi.dst v) w→opGo P ops i K a w:=by
    intro K a w hy hk
    unfold opGo
    simp only [hi]
    rcases hy with ⟨h1,h2⟩ | ⟨h1,rfl⟩
    · rw [if_pos h1]
      exact .inl ⟨_,v,w,h2 w (hrefl w),.inl rfl,hk⟩
    · rw [if_neg (by rw [h1]; exact Bool.false_ne_true)]
      exact hk
  intro fuel
  induction fuel with
  | zero =>
    intro listed a w _ _ hr hy H
    refine ⟨fun h=>(by rw [h] at hr; cases hr),fun j hj=>?_⟩
    by_cases hji : j = i
    · subst hji; exact hself _ a w hy ⟨hSi w,H⟩
    · have:=ready_mono hj hji
      rw [H.1] at this
      cases this
  | succ fuel ih =>
    intro listed a w hcl hfree hr hy H
    refine ⟨fun h=>(by rw [h] at hr; cases hr),fun j hj=>?_⟩
    by_cases hji : j = i
    · subst hji; exact hself _ a w hy ⟨hSi w,H⟩
    · have h1:=H.2 j (ready_mono hj hji)
      obtain ⟨hjun,oj,hoj,hall⟩:=mem_ready.1 hj
      have hnot : ∀ e∈oj.after,Region.binds .any e = true→e.on≠i:=fun e he hb heq=>by
        have h1:=hall e he hb
        have h0:=(mem_ready.1 hr).1
        rw [heq] at h1
        rcases Nat.lt_or_ge i listed.size with h' | h'
        · simp [h'] at h0 h1; rw [h0] at h1; cases h1
        · simp [Array.getElem?_eq_none h'] at h1
      have h2:=opGo_put hoj (hfree j oj hoj hji hjun hnot) (fun cs b=>hsel i oi cs b hi) (fun cs b=>hsel j oj cs b hoj) h1
      have hfree' : ∀ k ok,ops[k]? = some ok→k≠i→(listed.setIfInBounds j true).getD k true = false →
          (∀ e∈ok.after,Region.binds .any e = true→e.on≠i)→oi.apart ops ok = true:=fun k ok hk hki hun hno=>by
        refine hfree k ok hk hki ?_ hno
        by_cases hjk : j = k
        · subst hjk; exact hjun
        · rw [getD_set_ne true hjk] at hun; exact hun
      refine opGo.mono (fun a' w' h3=>?_) h2
      obtain ⟨⟨e1,e2⟩,hSj,h3⟩:=h3
      refine ⟨hSj,ih (listed.setIfInBounds j true) a' w' (hcl.set hj) hfree' (ready_mono hr (Ne.symm hji)) ?_ ?_⟩
      · have hs:=hst listed j hcl hr hj hji w w' hSj
        rcases hy with ⟨y1,y2⟩ | ⟨y1,y2⟩
        · exact .inl ⟨e2.trans y1,fun w2 hw2=>by rw [e1]; exact y2 w2 (htr _ _ _ hs hw2)⟩
        · exact .inr ⟨e2.trans y1,y2⟩
      · rw [Array.setIfInBounds_comm _ _ hji]
        exact h3
theorem fold_bits (acc : Array Nat) (i : Nat) : ∀ (l : List Edge) (s : Nat),(l.foldl (fun s e=>if Region.binds .any e then s ||| 2 ^ e.on ||| acc.getD e.on 0 else s) s).testBit i = true →
    s.testBit i = true∨∃ e∈l,Region.binds .any e = true∧(e.on = i∨(acc.getD e.on 0).testBit i = true)
  | [],s,h=>.inl h
  | e :: l,s,h=>by
    simp only [List.foldl_cons] at h
    rcases fold_bits acc i l _ h with h1 | ⟨e',he',h1,h2⟩
    · split at h1
      · rename_i hb
        simp only [Nat.testBit_or,Bool.or_eq_true] at h1
        rcases h1 with (h1 | h1) | h1
        · exact .inl h1
        · refine .inr ⟨e,by simp,hb,.inl ?_⟩
          rw [Nat.testBit_two_pow] at h1
          exact of_decide_eq_true h1
        · exact .inr ⟨e,by simp,hb,.inr h1⟩
      · exact .inl h1
    · exact .inr ⟨e',by simp [he'],h1,h2⟩
theorem before_go (ops : List Oper) : ∀ (l2 l1 : List Oper) (acc : Array Nat),l1 ++ l2 = ops→acc.size = l1.length →
    (∀ (j i : Nat),(acc.getD j 0).testBit i = true→∃ oj,ops[j]? = some oj∧∃ e∈oj.after,Region.binds .any e = true∧(e.on = i∨(e.on < j∧(acc.getD e.on 0).testBit i = true))) →
    ∀ (j i : Nat),((l2.foldl (fun acc o=>acc.push (o.after.foldl (fun s e=>if Region.binds .any e then s ||| 2 ^ e.on ||| acc.getD e.on 0 else s) 0)) acc).getD j 0).testBit i = true →
      ∃ oj,ops[j]? = some oj∧∃ e∈oj.after,Region.binds .any e = true∧(e.on = i∨(e.on < j∧((l2.foldl (fun acc o=>acc.push (o.after.foldl (fun s e=>if Region.binds .any e then s ||| 2 ^ e.on ||| acc.getD e.on 0 else s) 0)) acc).getD e.on 0).testBit i = true))
  | [],l1,acc,_,_,h=>h
  | o :: l2,l1,acc,hl,hs,h=>by
    simp only [List.foldl_cons]
    refine before_go ops l2 (l1 ++ [o]) _ (by simpa using hl) (by simp [hs]) fun j i hji=>?_
    have hpush : ∀ (x k : Nat),k < acc.size→(acc.push x).getD k 0 = acc.getD k 0:=fun x k hk=>by
      simp [Array.getElem?_push,Nat.ne_of_lt hk]
    rcases Nat.lt_trichotomy j acc.size with hj | hj | hj
    · rw [hpush _ j hj] at hji
      obtain ⟨oj,h1,e,h2,h3,h4⟩:=h j i hji
      refine ⟨oj,h1,e,h2,h3,h4.imp id fun ⟨h5,h6⟩=>⟨h5,?_⟩⟩
      rw [hpush _ e.on (by omega)]
      exact h6
    · subst hj
      have e1 : ∀ x,(acc.push x).getD acc.size 0 = x:=fun x=>by simp
      rw [e1] at hji
      refine ⟨o,by rw [← hl,hs,List.getElem?_append_right (Nat.le_refl _)]; simp,?_⟩
      rw [← Array.foldl_toList] at hji
      rcases fold_bits acc i o.after.toList 0 hji with h1 | ⟨e,h1,h2,h3⟩
      · simp at h1
      · refine ⟨e,by simpa using h1,h2,h3.imp id fun h4=>?_⟩
        have hlt : e.on < acc.size:=by
          rcases Nat.lt_or_ge e.on acc.size with h5 | h5
          · exact h5
          · simp [Array.getElem?_eq_none h5] at h4
        exact ⟨hlt,by rw [hpush _ e.on hlt]; exact h4⟩
    · have : (acc.push (Array.foldl (fun s e=>if Region.binds .any e then s ||| 2 ^ e.on ||| acc.getD e.on 0 else s) 0 o.after)).getD j 0 = 0:=by
        rw [Array.getD_eq_getD_getElem?,Array.getElem?_eq_none (by simp; omega)]
        rfl
      rw [this] at hji
      simp at hji
theorem before_spec {j i : Nat} (h : ((Region.before ops).getD j 0).testBit i = true) : ∃ oj,ops[j]? = some oj∧∃ e∈oj.after,Region.binds .any e = true∧(e.on = i∨(e.on < j∧((Region.before ops).getD e.on 0).testBit i = true)):=by
  have:=before_go ops.toList ops.toList [] #[] rfl rfl (fun j i h=>by simp at h) j i
  unfold Region.before at h ⊢
  rw [← Array.foldl_toList] at h ⊢
  obtain ⟨oj,h1,h2⟩:=this h
  exact ⟨oj,by simpa using h1,h2⟩
theorem before_listed {listed : Array Bool} (hcl : Cl ops listed) {i : Nat} : ∀ (j : Nat),listed.getD j false = true→((Region.before ops).getD j 0).testBit i = true→listed.getD i false = true:=by
  intro j
  induction j using Nat.strongRecOn with
  | _ j ih =>
    intro hj h
    obtain ⟨oj,h1,e,h2,h3,h4⟩:=before_spec h
    have h5:=hcl.closed j oj h1 hj e h2 h3
    rcases h4 with rfl | ⟨h4,h6⟩
    · exact h5
    · exact ih e.on h4 h5 h6
theorem ready_not_before {listed : Array Bool} (hcl : Cl ops listed) {i j : Nat} (hi : i∈Region.ready .any ops listed) (hj : j∈Region.ready .any ops listed) : ((Region.before ops).getD j 0).testBit i = false:=by
  cases hb : ((Region.before ops).getD j 0).testBit i with
  | false=>rfl
  | true =>
    exfalso
    obtain ⟨oj,h1,e,h2,h3,h4⟩:=before_spec hb
    obtain ⟨_,oj',hoj,hall⟩:=mem_ready.1 hj
    have : oj = oj':=Option.some.inj (h1.symm.trans hoj)
    subst this
    have h5:=hall e h2 h3
    have h6 : listed.getD i false = true:=by
      rcases h4 with rfl | ⟨h4,h6⟩
      · exact h5
      · exact before_listed hcl e.on h5 h6
    have h0:=(mem_ready.1 hi).1
    rcases Nat.lt_or_ge i listed.size with h' | h'
    · simp [h'] at h0 h6; rw [h0] at h6; cases h6
    · simp [Array.getElem?_eq_none h'] at h6
end
end Go.Eng
namespace Go.Eng
open Go.RowKit
section
variable {P : Program} {C : Ctx} {A : Base} {F F' : Nat→Prop} {μ μ' μ2 : List (Option Place)} {H H' H2 : List Entry} {w w' : World} {ops : Array Oper}
theorem addNew_prefix (n : Nat) : ∀ (l acc : List Nat),∃ r,addNew n acc l = acc ++ r
  | [],acc=>⟨[],by simp [addNew]⟩
  | x :: l,acc=>by
    unfold addNew
    cases (acc.elem x || !Nat.blt x n) with
    | true=>exact addNew_prefix n l acc
    | false =>
      obtain ⟨r,hr⟩:=addNew_prefix n l (acc ++ [x])
      exact ⟨[x] ++ r,by simp only [cond_false,hr,List.append_assoc]⟩
theorem reach_prefix (H : List Entry) : ∀ (n k : Nat) (acc : List Nat),∃ r,reachFrom H n k acc = acc ++ r
  | 0,k,acc=>⟨[],by simp [reachFrom]⟩
  | n + 1,k,acc=>by
    unfold reachFrom
    split
    · rename_i b _
      obtain ⟨r1,h1⟩:=addNew_prefix H.length (entryIds H[b]?) acc
      obtain ⟨r2,h2⟩:=reach_prefix H n (k + 1) (addNew H.length acc (entryIds H[b]?))
      exact ⟨r1 ++ r2,by rw [h2,h1,List.append_assoc]⟩
    · exact ⟨[],by simp⟩
theorem sub_stay (hH : HeapOk A F μ H w) {ids : List Nat} (hi : IdsOk H.length ids) (hm : ∀ k,k < A.m→ids[k]? = some k) :
    HeapOk A F (ids.map fun b=>μ.getD b none) (sub H (fun b=>idxOf b 0 ids) ids) w:=by
  obtain ⟨hren,_⟩:=sub_ok hH hi
  have hmu : ∀ (k b : Nat),ids[k]? = some b→(ids.map fun b=>μ.getD b none)[k]? = μ[b]?:=fun k b h=>by
    have hb : b < μ.length:=by rw [hH.len]; exact hi.2 b (List.mem_of_getElem? h)
    rw [List.getElem?_map,h,Option.map_some,List.getD_eq_getElem?_getD,List.getElem?_eq_getElem hb]
    rfl
  have hs : ∀ (k : Nat) (e : Entry),(sub H (fun b=>idxOf b 0 ids) ids)[k]? = some e→∃ b e',ids[k]? = some b∧H[b]? = some e'∧e = renEntry (fun b=>idxOf b 0 ids) e':=fun k e h=>by
    rw [sub_get] at h
    cases hk : ids[k]? with
    | none=>simp [hk] at h
    | some b =>
      have hb : b < H.length:=hi.2 b (List.mem_of_getElem? hk)
      simp only [hk,Option.map_some,List.getElem?_eq_getElem hb,Option.some.injEq,entAt] at h
      exact ⟨b,H[b],rfl,List.getElem?_eq_getElem hb,h.symm⟩
  refine ⟨by simp [sub_len],fun k e he=>?_,fun k l e g pl ql hne h1 h2 h3 h4 h5 h6=>?_,hH.os,hH.tape,hH.output,hH.size,hH.block,fun k e pl h1 h2 h3=>?_,hH.fr0,hH.fr1,hH.frlt,fun k e hk he hl=>?_,?_⟩
  · obtain ⟨b,e',q1,q2,rfl⟩:=hs k e he
    rw [List.getD_eq_getElem?_getD,hmu k b q1,← List.getD_eq_getElem?_getD]
    exact EntOk.ren hren (hH.ent b e' q2)
  · obtain ⟨b,e',q1,q2,rfl⟩:=hs k e h1
    obtain ⟨c,g',q3,q4,rfl⟩:=hs l g h4
    rw [hmu k b q1] at h3
    rw [hmu l c q3] at h6
    refine hH.dist b c e' g' pl ql (fun e=>?_) q2 ((renEntry_same _ e').2.2.2.2▸h2) h3 q4 ((renEntry_same _ g').2.2.2.2▸h5) h6
    subst e
    have hk : k < ids.length:=(List.getElem?_eq_some_iff.1 q1).1
    exact hne ((List.getElem?_inj hk hi.1).1 (q1.trans q3.symm))
  · obtain ⟨b,e',q1,q2,rfl⟩:=hs k e h1
    rw [hmu k b q1] at h3
    exact hH.own b e' pl q2 ((renEntry_same _ e').2.2.2.2▸h2) h3
  · obtain ⟨b,e',q1,q2,rfl⟩:=hs k e he
    rw [hm k hk] at q1
    obtain rfl:=Option.some.inj q1
    obtain ⟨s1,s2,s3,s4,s5⟩:=renEntry_same (fun b=>idxOf b 0 ids) e'
    obtain ⟨z1,e0,z2,z3,z4,z5,z6⟩:=hH.held k e' hk q2 (s1▸hl)
    exact ⟨(hmu k k (hm k hk)).trans z1,e0,z2,z3,z4.trans s2.symm,z5.trans s3.symm,by rw [s4]; exact z6⟩
  · rw [sub_len]
    rcases Nat.lt_or_ge ids.length A.m with h | h
    · have:=hm ids.length h
      simp at this
    · exact h
theorem gcIds_ok (hH : HeapOk A F μ H w) {l : List Nat} : IdsOk H.length (reachFrom H H.length 0 (addNew H.length (List.range A.m) l))∧∀ k,k < A.m→(reachFrom H H.length 0 (addNew H.length (List.range A.m) l))[k]? = some k:=by
  refine ⟨reach_ok H _ _ _ (addNew_ok _ _ _ ⟨List.nodup_range,fun b hb=>by have:=List.mem_range.1 hb; have:=hH.mle; omega⟩),fun k hk=>?_⟩
  obtain ⟨r1,h1⟩:=addNew_prefix H.length l (List.range A.m)
  obtain ⟨r2,h2⟩:=reach_prefix H H.length 0 (addNew H.length (List.range A.m) l)
  rw [h2,h1,List.append_assoc,List.getElem?_append_left (by simpa using hk),List.getElem?_range hk]
theorem gc_ok {σ : St} {a : Act} (hi : Inv P C A σ a w) : Inv P C A (gc A.m σ.tmps σ.heap) a w:=by
  obtain ⟨F,μ,h⟩:=hi
  obtain ⟨k1,k2⟩:=gcIds_ok (l:=σ.tmps.flatMap tvIds) h.heap
  have hs:=sub_stay h.heap k1 k2
  obtain ⟨hren,_⟩:=sub_ok h.heap k1
  refine ⟨F,_,hs,⟨h.act.defers,by rw [h.act.size]; simp [gc],fun t tv ht=>?_⟩,h.ctx⟩
  simp only [gc,List.getElem?_map] at ht
  cases hq : σ.tmps[t]? with
  | none=>simp [hq] at ht
  | some x =>
    simp only [hq,Option.map_some,Option.some.injEq] at ht
    subst ht
    exact RepV.ren hren (h.act.get t x hq)
def SL (ops : Array Oper) (LN : List (Nat×(Nat→Prop))) (j : Nat) (w w' : World) : Prop:=∀ p∈LN,((Region.before ops).getD j 0).testBit p.1 = false→∀ n,p.2 n→w'.heap[n]? = w.heap[n]?
def LogOk (F : Nat→Prop) (μ : List (Option Place)) (H : List Entry) (log : List (Nat×Nat)) (LN : List (Nat×(Nat→Prop))) : Prop :=
  ∀ p∈LN,∀ n,p.2 n→F n∨∃ b,(p.1,b)∈log∧b < H.length∧∀ e : Entry,H[b]? = some e→e.live = true→∃ pl : Place,μ[b]? = some (some pl)∧pl.blk = n
theorem LogOk.le {log : List (Nat×Nat)} {LN : List (Nat×(Nat→Prop))} (h : LogOk F μ H log LN) (hle : Le F μ H w F' μ' H' w') : LogOk F' μ' H' log LN:=fun p hp n hn=>by
  rcases h p hp n hn with h1 | ⟨b,h1,h2,h3⟩
  · exact .inl (hle.fr n h1)
  · refine .inr ⟨b,h1,Nat.lt_of_lt_of_le h2 hle.len,fun e he hl=>?_⟩
    obtain ⟨e0,q1,q2,_,_,_,q3⟩:=hle.ent b e h2 he hl
    obtain ⟨pl,q4,q5⟩:=h3 e0 q1 q2
    exact ⟨pl,by rw [q3]; exact q4,q5⟩
theorem calm_spec {bef : Array Nat} {j : Nat} {mods : List Nat} : ∀ {log : List (Nat×Nat)},calm H bef j mods log = true→∀ (i b : Nat),(i,b)∈log→(bef.getD j 0).testBit i = false→b∉mods∧∃ e : Entry,H[b]? = some e∧e.live = true
  | [],_,i,b,h,_=>by cases h
  | (i0,b0) :: log,h,i,b,hm,hb=>by
    simp only [calm,Bool.and_eq_true,Bool.or_eq_true] at h
    rcases List.mem_cons.1 hm with he | hm
    · obtain ⟨rfl,rfl⟩ : i = i0∧b = b0:=by simpa using he
      rcases h.1 with h1 | ⟨h1,h2⟩
      · rw [h1] at hb; cases hb
      · refine ⟨fun q=>?_,?_⟩
        · rw [List.elem_eq_true_of_mem q] at h1; cases h1
        · cases he : H[b]? with
          | none=>rw [he] at h2; cases h2
          | some e =>
            rw [he] at h2
            cases e <;> first | exact ⟨_,rfl,rfl⟩ | cases h2
    · exact calm_spec h.2 i b hm hb
theorem calm_keeps (hH : HeapOk A F μ H w) {log : List (Nat×Nat)} {LN : List (Nat×(Nat→Prop))} (hlog : LogOk F μ H log LN) {j : Nat} {mods : List Nat} (hc : calm H (Region.before ops) j mods log = true)
    (hle : ∀ n,F n→w'.heap[n]? = w.heap[n]?) (hfr : Fr mods μ H w w') : SL ops LN j w w':=by
  intro p hp hb n hn
  rcases hlog p hp n hn with h1 | ⟨b,h1,h2,h3⟩
  · exact hle n h1
  · obtain ⟨hnm,e,he,hl⟩:=calm_spec hc p.1 b h1 hb
    obtain ⟨pl,q1,rfl⟩:=h3 e he hl
    have hlt:=hH.blk he hl q1
    by_cases hF : F pl.blk
    · exact hle _ hF
    · refine hfr.2 _ hlt fun c hcm f ql hf hof hql heq=>?_
      have hoe : e.owned = true:=by
        cases e with
        | vec sz es wr =>
          cases wr with
          | true=>rfl
          | false =>
            obtain ⟨_,⟨hm',_⟩ | ⟨pl',vs,ty,fz,hm',_,_,_,h2',_⟩⟩:=hH.ent b _ he
            · rw [List.getD_eq_getElem?_getD,q1] at hm'; simp at hm'
            · rw [List.getD_eq_getElem?_getD,q1] at hm'
              obtain rfl : pl = pl':=by simpa using hm'
              exact absurd (h2' rfl) hF
        | gone=>cases hl
        | _=>rfl
      exact hH.dist c b f e ql pl (fun q=>hnm (q▸hcm)) hf hof hql he hoe q1 heq
theorem pickT_spec {late : List Nat} {listed : Array Bool} : ∀ {rs : List Nat} {i : Nat},pickT ops late listed rs = some i→i∈rs∧∃ o,ops[i]? = some o∧simpleB o.op = true∧Region.free .any ops listed i = true
  | [],i,h=>by cases h
  | k :: rs,i,h=>by
    unfold pickT at h
    cases hc : (simpleAt ops[k]? && !late.elem k && Region.free .any ops listed k) with
    | true =>
      rw [hc] at h
      simp only [cond_true,Option.some.injEq] at h
      subst h
      simp only [Bool.and_eq_true] at hc
      refine ⟨by simp,?_⟩
      cases ho : ops[k]? with
      | none=>rw [ho] at hc; cases hc.1.1
      | some o=>rw [ho] at hc; exact ⟨o,rfl,hc.1.1,hc.2⟩
    | false =>
      rw [hc] at h
      obtain ⟨h1,h2⟩:=pickT_spec h
      exact ⟨by simp [h1],h2⟩
theorem allT_mem {f : Nat→Prop} : ∀ {rs : List Nat},allT rs f→∀ i∈rs,f i
  | [],_,i,h=>by cases h
  | [k],h,i,hi=>by
    obtain rfl : i = k:=by simpa using hi
    exact h
  | k :: l :: rs,h,i,hi=>by
    rcases List.mem_cons.1 hi with rfl | hi
    · exact h.1
    · exact allT_mem h.2 i hi
theorem step_simple (hS : CallsOk P C) {σ : St} {a : Act} (hi : InvAt P C A F μ σ a w) {i : Nat} {o : Oper} (ho : ops[i]? = some o) (hs : simpleB o.op = true) {K : St→Prop} (h : stepT C ops i σ K) :
    ∃ v σ',((Region.wanted o (yielded ops a.tmps) = true∧∀ w',Same F μ (readsT C o σ.tmps) w w'→(execOp a.eval o).run P w' = .ok (.value v) w')∨(Region.wanted o (yielded ops a.tmps) = false∧v = undef)) ∧
      InvAt P C A F μ σ' (a.put o.dst v) w∧σ'.heap = σ.heap∧K σ':=by
  rw [stepT_eq] at h
  unfold stepT0 at h
  rw [ho] at h
  simp only [] at h
  have hundef : InvAt P C A F μ ⟨St.put σ.tmps o.dst undefT,σ.heap⟩ (a.put o.dst undef) w:=⟨hi.heap,hi.act.put (tv:=undefT) ⟨#[],rfl,trivial⟩ o.dst,hi.ctx⟩
  have run : ∀ (hw : Region.wanted o (yielded ops a.tmps) = true) (h : opT C o σ.tmps σ.heap fun v H=>K ⟨St.put σ.tmps o.dst v,H⟩),∃ v σ',((Region.wanted o (yielded ops a.tmps) = true∧∀ w',Same F μ (readsT C o σ.tmps) w w'→(execOp a.eval o).run P w' = .ok (.value v) w')∨(Region.wanted o (yielded ops a.tmps) = false∧v = undef)) ∧
      InvAt P C A F μ σ' (a.put o.dst v) w∧σ'.heap = σ.heap∧K σ':=fun hw h=>by
    obtain ⟨v,tv,h1,h2,h3⟩:=simple_ok hi.ctx hi.heap hi.act hs h
    exact ⟨v,⟨St.put σ.tmps o.dst tv,σ.heap⟩,.inl ⟨hw,h1⟩,⟨hi.heap,hi.act.put h2 o.dst,hi.ctx⟩,rfl,h3⟩
  cases hg : o.guard with
  | none =>
    rw [hg] at h
    exact run (by unfold Region.wanted; rw [hg]) h
  | some gw =>
    obtain ⟨g,want⟩:=gw
    rw [hg] at h
    simp only [] at h
    split at h
    · rename_i d hd
      split at h
      · rename_i b hb
        have hy:=yielded_of hi.act hd hb
        have hset : σ.tmps.set d (B b) = σ.tmps:=set_same hb
        have h' : bif b == want then opT C o σ.tmps σ.heap (fun v H=>K ⟨St.put σ.tmps o.dst v,H⟩) else K ⟨St.put σ.tmps o.dst undefT,σ.heap⟩:=by
          cases b <;> (simp only [br] at h; rw [hset] at h; exact h)
        have hw : Region.wanted o (yielded ops a.tmps) = (b == want):=by
          unfold Region.wanted
          rw [hg]
          simp only [hy]
          cases b <;> cases want <;> rfl
        cases hbw : (b == want) with
        | true =>
          rw [hbw] at h'
          exact run (hw.trans hbw) h'
        | false =>
          rw [hbw] at h'
          exact ⟨undef,_,.inr ⟨hw.trans hbw,rfl⟩,hundef,rfl,h'⟩
      · rename_i hb
        have hy:=yielded_none (ops:=ops) hi.act hd hb
        have hw : Region.wanted o (yielded ops a.tmps) = false:=by
          unfold Region.wanted
          rw [hg]
          simp only [hy]
          rfl
        exact ⟨undef,_,.inr ⟨hw,rfl⟩,hundef,rfl,h⟩
      · exact h.elim
    · exact h.elim
theorem drawn_end {listed : Array Bool} {σ : St} {a : Act} (hm : C.m = A.m) (hi : Inv P C A σ a w) (many : Bool) : Inv P C A (bif many then gc C.m σ.tmps σ.heap else σ) a w:=by
  cases many with
  | true=>rw [hm]; exact gc_ok hi
  | false=>exact hi
theorem drawn_ok {late : List Nat} (hS : CallsOk P C) (hm : C.m = A.m) (hns : Region.noSelect ops = true) {K : St→Prop} : ∀ (n : Nat) (listed : Array Bool) (log : List (Nat×Nat)) (LN : List (Nat×(Nat→Prop))) (many : Bool) (σ : St) (a : Act) (w : World) (F : Nat→Prop) (μ : List (Option Place)),
    Cl ops listed→InvAt P C A F μ σ a w→LogOk F μ σ.heap log LN→drawnT C ops late (Region.before ops) n listed log many σ K →
    wpAnyK P ops (SL ops LN) (fun a w=>∃ σ,Inv P C A σ a w∧K σ) n listed a w
  | 0,listed,log,LN,many,σ,a,w,F,μ,hcl,hi,hlog,h=>by
    unfold drawnT at h
    cases hr : Region.ready .any ops listed with
    | nil=>rw [hr] at h; exact ⟨hr,_,drawn_end (listed:=listed) hm ⟨F,μ,hi⟩ many,h⟩
    | cons _ _=>rw [hr] at h; exact h.elim
  | n + 1,listed,log,LN,many,σ,a,w,F,μ,hcl,hi,hlog,h=>by
    unfold drawnT at h
    cases hr : Region.ready .any ops listed with
    | nil =>
      rw [hr] at h
      exact ⟨fun _=>⟨_,drawn_end (listed:=listed) hm ⟨F,μ,hi⟩ many,h⟩,fun j hj=>by rw [hr] at hj; cases hj⟩
    | cons r rs =>
      rw [hr] at h
      simp only [] at h
      cases hp : pickT ops late listed (r :: rs) with
      | some i =>
        rw [hp] at h
        simp only [] at h
        obtain ⟨him,o,ho,hsb,hfree⟩:=pickT_spec hp
        rw [← hr] at him
        obtain ⟨v,σ',hy,hi',hheap,hK⟩:=step_simple hS hi ho hsb h
        rw [ho] at hK
        simp only [] at hK
        have hlog' : LogOk F μ σ'.heap (match readsT C o σ.tmps with | some b=>(i,b) :: log | none=>log) ((i,fun n=>F n∨∃ b pl,readsT C o σ.tmps = some b∧μ[b]? = some (some pl)∧pl.blk = n) :: LN):=by
          rw [hheap]
          intro p hp n hn
          rcases List.mem_cons.1 hp with rfl | hp
          · rcases hn with hn | ⟨b,pl,h1,h2,h3⟩
            · exact .inl hn
            · refine .inr ⟨b,by rw [h1]; simp,by rw [← hi.heap.len]; exact (List.getElem?_eq_some_iff.1 h2).1,fun e _ _=>⟨pl,h2,h3⟩⟩
          · rcases hlog p hp n hn with h1 | ⟨b,h1,h2,h3⟩
            · exact .inl h1
            · refine .inr ⟨b,?_,h2,h3⟩
              split
              · exact List.mem_cons_of_mem _ h1
              · exact h1
        have ih:=drawn_ok hS hm hns n (listed.setIfInBounds i true) _ _ many σ' (a.put o.dst v) w F μ (hcl.set him) hi' hlog' hK
        refine wpAnyK.mono (S:=SL ops ((i,fun n=>F n∨∃ b pl,readsT C o σ.tmps = some b∧μ[b]? = some (some pl)∧pl.blk = n) :: LN)) (fun j w w' hs p hp=>hs p (by simp [hp])) _ _ _ _ ?_
        refine wpAnyK_first (Stab:=fun w w'=>∀ n,(F n∨∃ b pl,readsT C o σ.tmps = some b∧μ[b]? = some (some pl)∧pl.blk = n)→w'.heap[n]? = w.heap[n]?) ho (Region.noSelect_spec hns) (fun _ _ _=>rfl) (fun a b c h1 h2 n hn=>(h2 n hn).trans (h1 n hn)) (fun w p _ _ n _=>rfl) (fun listed' j hc' hi2 hj2 hne w w' hs n hn=>hs _ List.mem_cons_self (ready_not_before hc' hi2 hj2) n hn) n listed a w hcl (Region.free_spec ho hfree) him ?_ ih
        rcases hy with ⟨y1,y2⟩ | ⟨y1,y2⟩
        · exact .inl ⟨y1,fun w' hw'=>y2 w' ⟨fun n hn=>hw' n (.inl hn),fun b pl hb hm=>hw' _ (.inr ⟨b,pl,hb,hm,rfl⟩)⟩⟩
        · exact .inr ⟨y1,y2⟩
      | none =>
        rw [hp] at h
        simp only [] at h
        refine ⟨(fun h0=>by rw [hr] at h0; cases h0),fun j hj=>?_⟩
        have hj':=hj
        rw [hr] at hj'
        have h1:=allT_mem h j hj'
        cases ho : ops[j]? with
        | none=>rw [ho] at h1; exact h1.elim
        | some o =>
          rw [ho] at h1
          simp only [] at h1
          cases hc : calm σ.heap (Region.before ops) j (modsT C o σ.tmps σ.heap) log with
          | false=>rw [hc] at h1; exact h1.elim
          | true =>
            rw [hc] at h1
            simp only [cond_true] at h1
            refine opGo.mono (fun a' w' ⟨σ',F',μ',g1,g2,g3,g4⟩=>⟨?_,?_⟩) (step_go hS hi h1)
            · have hM : modsAt C ops j σ = modsT C o σ.tmps σ.heap:=by unfold modsAt; rw [ho]
              rw [hM] at g3
              exact calm_keeps hi.heap hlog hc g2.heap g3
            · exact drawn_ok hS hm hns n _ log LN _ σ' a' w' F' μ' (hcl.set hj) g1 (hlog.le g2) g4
theorem wp_drawn (hS : CallsOk P C) (hm : C.m = A.m) (hmx : P.follows .mixedOrders = true) (hns : Region.noSelect ops = true) {K : St→Prop} {Q : Exit→Act→World→Prop} {σ : St} {a : Act} {id : Nat} {late : List Nat} (hi : Inv P C A σ a w)
    (h : drawnT C ops late (Region.before ops) ops.size (Array.replicate ops.size false) [] false σ K) (hQ : ∀ σ a w,Inv P C A σ a w→K σ→Q .normal a w) : (Code.region id ops true).wp P Q a w:=by
  obtain ⟨F,μ,hi⟩:=hi
  have hd : InvAt P C A F μ σ a { w with drawn:=w.drawn + 1 }:=by
    obtain ⟨d1,d2⟩:=hi.heap.drew
    exact ⟨d1,hi.act.le d2,hi.ctx.le d2⟩
  have hcl : Cl ops (Array.replicate ops.size false):=⟨by simp,fun j oj hj hl=>by
    exfalso
    rcases Nat.lt_or_ge j ops.size with h' | h'
    · simp [h'] at hl
    · simp [Nat.not_lt.2 h'] at hl⟩
  have:=drawn_ok hS hm hns ops.size _ [] [] false σ a _ F μ hcl hd (fun p hp=>by cases hp) h
  exact wp_region_any hmx (wpAnyK.any (fun a w ⟨σ,h1,h2⟩=>hQ σ a w h1 h2) _ _ _ _ this)
end
end Go.Eng
namespace Go.Eng
open Go.RowKit
section
variable {P : Program} {C : Ctx} {A : Base} {w : World}
def exitOf : TExit→Exit
  | .normal=>.normal
  | .exit id=>.exit id
  | .ret=>.ret
theorem keepFrom_get (ks : List Nat) : ∀ (l : List TV) (k t : Nat) (x : TV),(keepFrom ks k l)[t]? = some x→∃ y,l[t]? = some y∧(x = y∨x = junk)
  | [],k,t,x,h=>by simp [keepFrom] at h
  | y :: r,k,0,x,h=>by
    simp only [keepFrom,List.getElem?_cons_zero,Option.some.injEq] at h
    refine ⟨y,rfl,?_⟩
    cases he : ks.elem k with
    | true=>rw [he] at h; exact .inl h.symm
    | false=>rw [he] at h; exact .inr h.symm
  | y :: r,k,t + 1,x,h=>by
    simp only [keepFrom,List.getElem?_cons_succ] at h ⊢
    exact keepFrom_get ks r (k + 1) t x h
theorem keepFrom_len (ks : List Nat) : ∀ (l : List TV) (k : Nat),(keepFrom ks k l).length = l.length
  | [],k=>rfl
  | y :: r,k=>by simp [keepFrom,keepFrom_len ks r (k + 1)]
theorem keep_ok {σ : St} {a : Act} (hi : Inv P C A σ a w) (ks : List Nat) : Inv P C A ⟨keepFrom ks 0 σ.tmps,σ.heap⟩ a w:=by
  obtain ⟨F,μ,h⟩:=hi
  refine ⟨F,μ,h.heap,⟨h.act.defers,by rw [keepFrom_len]; exact h.act.size,fun t tv ht=>?_⟩,h.ctx⟩
  obtain ⟨y,h1,h2⟩:=keepFrom_get ks σ.tmps 0 t tv ht
  rcases h2 with rfl | rfl
  · exact h.act.get t _ h1
  · exact trivial
theorem iter_ok {c : Code} {f : St→(TExit→St→Prop)→Prop} {norm : St→St}
    (hn : ∀ σ a w,Inv P C A σ a w→Inv P C A (norm σ) a w)
    (hf : ∀ (σ : St) (a : Act) (w : World) (K : TExit→St→Prop) (Q : Exit→Act→World→Prop),Inv P C A σ a w→f σ K→(∀ e σ a w,Inv P C A σ a w→K e σ→Q (exitOf e) a w)→c.wp P Q a w)
    {K : TExit→St→Prop} {Q : Exit→Act→World→Prop} (hQ : ∀ e σ a w,Inv P C A σ a w→K e σ→Q (exitOf e) a w) : ∀ (n : Nat) (σ : St) (a : Act) (w : World),Inv P C A σ a w→iter f norm n σ K→∀ (b : Frame) (k : List Item) (cs : List Frame),
      ∃ e a' w',Q e a' w'∧Arrives P (lone (b.at a (.code c :: .inLoop c :: k)) cs w) b k cs e a' w'
  | 0,σ,a,w,_,h,b,k,cs=>h.elim
  | n + 1,σ,a,w,hi,h,b,k,cs=>by
    unfold iter at h
    have:=hf (norm σ) a w _ (fun e a' w'=>match e with
      | .normal=>∃ σ',Inv P C A σ' a' w'∧iter f norm n σ' K
      | e=>Q e a' w') (hn σ a w hi) h (fun e σ' a' w' hi' hK=>by
        cases e with
        | normal=>exact ⟨σ',hi',hK⟩
        | exit id=>exact hQ _ σ' a' w' hi' hK
        | ret=>exact hQ _ σ' a' w' hi' hK)
    obtain ⟨e,a₁,w₁,hq,harr⟩:=this b (.inLoop c :: k) cs
    cases e with
    | normal =>
      obtain ⟨σ',hi',hK⟩:=hq
      obtain ⟨e₂,a₂,w₂,hq₂,harr₂⟩:=iter_ok hn hf hQ n σ' a₁ w₁ hi' hK b k cs
      exact ⟨e₂,a₂,w₂,hq₂,.of_steps (Steps.trans harr (.one step_inLoop)) harr₂⟩
    | exit id=>exact ⟨_,a₁,w₁,hq,.pass (x:=.inLoop c) rfl (fun _ _=>.inl (by simp)) harr⟩
    | goto l=>exact ⟨_,a₁,w₁,hq,.pass (x:=.inLoop c) rfl (fun _ _=>.inl (by simp)) harr⟩
    | ret=>exact ⟨_,a₁,w₁,hq,.pass (x:=.inLoop c) rfl (fun _ _=>.inl (by simp)) harr⟩
    | panic ch=>exact ⟨_,a₁,w₁,hq,.pass (x:=.inLoop c) rfl (fun _ _=>.inl (by simp)) harr⟩
    | outgrown=>exact ⟨_,a₁,w₁,hq,.pass (x:=.inLoop c) rfl (fun _ _=>.inl (by simp)) harr⟩
noncomputable def bodies : Code→List Code:=fun c=>Code.rec (motive:=fun _=>List Code) [] (fun _ _ _=>[]) (fun _ _ a b=>a ++ b) (fun _ _ _ a b=>a ++ b) (fun _ _ a=>a) (fun body a=>body :: a)
  (fun _ _ _ _ a b=>a ++ b) (fun _=>[]) (fun _ a=>a) (fun _=>[]) (fun _=>[]) [] (fun _=>[]) c
noncomputable def tails : Code→List Code:=fun c=>Code.rec (motive:=fun _=>List Code) [] (fun _ _ _=>[]) (fun _ y a b=>y :: (a ++ b)) (fun _ _ _ a b=>a ++ b) (fun _ _ a=>a) (fun _ a=>a)
  (fun _ _ _ _ a b=>a ++ b) (fun _=>[]) (fun _ a=>a) (fun _=>[]) (fun _=>[]) [] (fun _=>[]) c
def LoopsOk (C : Ctx) (bs : List Code) : Prop:=∀ b∈bs,∀ L,C.loops (loopKey b) = some L→∀ σ K,L (normK C (loopKey b) σ) K→iter (execT C b) (normK C (loopKey b)) rounds σ fun e σ'=>K e (normOut C (loopKey b) e σ')
def TailsOk (C : Ctx) (bs : List Code) : Prop:=∀ b∈bs,∀ J,C.loops (joinKey b) = some J→∀ σ K,J (normK C (joinKey b) σ) K→execT C b (normK C (joinKey b) σ) fun e σ'=>K e (normOut C (joinKey b) e σ')
theorem refNil1_ok {σ : St} {a : Act} (hi : Inv P C A σ a w) (k : Nat) : Inv P C A (refNil1 k σ) a w:=by
  unfold refNil1
  split
  · rename_i x hx
    split
    · rename_i sz es full
      split
      · split
        · obtain ⟨F,μ,h⟩:=hi
          obtain ⟨h1,h2⟩:=h.heap.pushNone sz
          refine ⟨F,_,h1,⟨h.act.defers,by simp [h.act.size],fun t tv ht=>?_⟩,h.ctx.le h2⟩
          simp only [List.getElem?_set] at ht
          split at ht
          · rename_i hkt
            subst hkt
            split at ht
            · obtain rfl:=Option.some.inj ht
              have hr : RepC F w (.sl sz [] true) (a.tmps.getD k undef):=h.act.get k _ hx
              refine ⟨by simp,?_⟩
              generalize a.tmps.getD k undef = v at hr
              cases hr with
              | nil =>
                refine ⟨none,0,rfl,Nat.le_refl _,fun sz' es' wr' he=>?_⟩
                simp at he
                obtain ⟨rfl,rfl,rfl⟩:=he
                exact ⟨by simp,.inl rfl⟩
              | sl _ _ _ ad cap val c1 c2 c3 c4 =>
                have hc : cap = 0:=c3 rfl
                subst hc
                refine ⟨some ad,0,rfl,Nat.le_refl _,fun sz' es' wr' he=>?_⟩
                simp at he
                obtain ⟨rfl,rfl,rfl⟩:=he
                exact ⟨by simp,.inl rfl⟩
            · cases ht
          · exact (h.act.get t tv ht).le h2
        · exact hi
      · exact hi
    · exact hi
  · exact hi
theorem refNil_ok {a : Act} : ∀ (l : List Nat) {σ : St},Inv P C A σ a w→Inv P C A (refNil l σ) a w
  | [],_,hi=>hi
  | k :: r,_,hi=>refNil_ok r (refNil1_ok hi k)
theorem refBox1_ok {σ : St} {a : Act} (hi : Inv P C A σ a w) (b c : Nat) : Inv P C A (refBox1 b c σ) a w:=by
  unfold refBox1
  split
  · rename_i cs hb
    split
    · rename_i x hx
      split
      · rename_i sz es full
        split
        · split
          · obtain ⟨F,μ,h⟩:=hi
            obtain ⟨h1,h2⟩:=h.heap.pushNone sz
            have hlt : b < σ.heap.length:=(List.getElem?_eq_some_iff.1 hb).1
            have hb' : (σ.heap ++ [Entry.vec sz [] true])[b]? = some (.box cs):=by rw [List.getElem?_append_left hlt]; exact hb
            have hbl : b < (μ ++ [none]).length:=by rw [h1.len]; simp; omega
            have he0:=h1.ent b _ hb'
            rw [List.getD_eq_getElem?_getD,List.getElem?_eq_getElem hbl] at he0
            obtain ⟨pl,vs,ty,e1,e2,e3,e4,e5⟩:=he0
            have e1 : (μ ++ [none])[b] = some pl:=e1
            have hm : (μ ++ [none])[b]? = some (some pl):=by rw [List.getElem?_eq_getElem hbl,e1]
            obtain ⟨k1,k2⟩:=h1.write (e':=.box (cs.set c (.ref σ.heap.length 0 0))) hb' rfl hm ⟨rfl,rfl,rfl,rfl,Nat.le_refl _⟩ (fun _ _=>rfl) rfl rfl rfl rfl fun H' hle=>by
              refine ⟨pl,vs,ty,rfl,e2,e3,e4,?_⟩
              have e6:=RepTs.le hle e5
              rw [List.length_set]
              refine RepTs.of_get (by rw [List.length_set]; exact e6.length) fun j y hy=>?_
              rw [List.getElem?_set] at hy
              split at hy
              · rename_i hcj
                subst hcj
                split at hy
                · obtain rfl:=Option.some.inj hy
                  obtain ⟨v,v1,v2,v3⟩:=e6.get hx
                  refine ⟨v,v1,v2,by have:=hle.len; simp at this; omega,?_⟩
                  have v3 : RepC F w (.sl sz [] true) v:=v3
                  have hfact : ∀ sz' es' wr',H'[σ.heap.length]? = some (Entry.vec sz' es' wr')→0 + 0≤es'.length:=fun _ _ _ _=>by omega
                  cases v3 with
                  | nil=>exact ⟨none,0,rfl,Nat.le_refl _,fun sz' es' wr' he=>⟨hfact _ _ _ he,.inl rfl⟩⟩
                  | sl _ _ _ ad cap val c1 c2 c3 c4 =>
                    have hc : cap = 0:=c3 rfl
                    subst hc
                    exact ⟨some ad,0,rfl,Nat.le_refl _,fun sz' es' wr' he=>⟨hfact _ _ _ he,.inl rfl⟩⟩
                · cases hy
              · exact e6.get hy
            exact ⟨F,_,k1,⟨h.act.defers,h.act.size,fun t tv ht=>((h.act.get t tv ht).le h2).le k2⟩,h.ctx.le (h2.trans k2)⟩
          · exact hi
        · exact hi
      · exact hi
    · exact hi
  · exact hi
theorem flatten_len {sz : Nat} : ∀ {es : List (List PC)},(∀ x∈es,x.length = sz)→es.flatten.length = es.length * sz
  | [],_=>by simp
  | x :: r,h=>by
    rw [List.flatten_cons,List.length_append,h x List.mem_cons_self,flatten_len fun y hy=>h y (List.mem_cons_of_mem _ hy),List.length_cons,Nat.succ_mul,Nat.add_comm]
theorem moveRef1_ok {σ : St} {a : Act} (hi : Inv P C A σ a w) (k : Nat) : Inv P C A (moveRef1 k σ) a w:=by
  unfold moveRef1
  split
  · rename_i b i n hk
    split
    · rename_i sz es wr hb
      cases wr with
      | false=>exact hi
      | true =>
        simp only [cond_true]
        obtain ⟨F,μ,h⟩:=hi
        have hr : RefOk μ σ.heap b i n (a.tmps.getD k undef):=h.act.get k _ hk
        obtain ⟨hbl,base,cap,hv,hnc,hpl⟩:=hr
        obtain ⟨hin,hor⟩:=hpl _ _ _ hb
        obtain ⟨hes,hent⟩:=h.heap.ent b _ hb
        have hml : b < μ.length:=by rw [h.heap.len]; exact hbl
        have fin : ∀ μ',HeapOk A F μ' (σ.heap.set b .gone ++ [Entry.vec sz (es.drop i) true]) w→Le F μ σ.heap w F μ' (σ.heap.set b .gone ++ [Entry.vec sz (es.drop i) true]) w →
            (cap = 0∨∃ pl,μ'[σ.heap.length]? = some (some pl)∧base = some ⟨pl.blk,pl.off + 0 * sz,none⟩∧pl.off + (0 + cap) * sz≤pl.lim) →
            Inv P C A ⟨σ.tmps.set k (.w (.one (.ref σ.heap.length 0 n))),σ.heap.set b .gone ++ [Entry.vec sz (es.drop i) true]⟩ a w:=fun μ' h1 h2 h3=>by
          refine ⟨F,μ',h1,⟨h.act.defers,by simp [h.act.size],fun t tv ht=>?_⟩,h.ctx.le h2⟩
          simp only [List.getElem?_set] at ht
          split at ht
          · rename_i hkt
            subst hkt
            split at ht
            · obtain rfl:=Option.some.inj ht
              refine ⟨by simp,base,cap,hv,hnc,fun sz' es' wr' he=>?_⟩
              have he2 : (σ.heap.set b .gone ++ [Entry.vec sz (es.drop i) true])[σ.heap.length]? = some (Entry.vec sz (es.drop i) true):=by
                rw [List.getElem?_append_right (by simp)]; simp
              rw [he2] at he
              obtain ⟨rfl,rfl,rfl⟩ : sz = sz'∧es.drop i = es'∧true = wr':=by simpa using he
              exact ⟨by rw [List.length_drop]; omega,h3⟩
            · cases ht
          · exact (h.act.get t tv ht).le h2
        have hmb : ∀ pl,μ.getD b none = some pl→μ[b]? = some (some pl):=fun pl hp=>by
          rw [List.getD_eq_getElem?_getD,List.getElem?_eq_getElem hml] at hp
          rw [List.getElem?_eq_getElem hml]; exact congrArg some hp
        rcases hent with ⟨hm,rfl⟩ | ⟨pl,vs,ty,fz,hm,e2,⟨e3,e4⟩,_,_,e5⟩
        · have hm' : μ[b]? = some none:=by
            rw [List.getD_eq_getElem?_getD,List.getElem?_eq_getElem hml] at hm
            rw [List.getElem?_eq_getElem hml]; exact congrArg some hm
          obtain ⟨d1,d2⟩:=h.heap.drop b
          obtain ⟨q1,q2⟩:=d1.pushNone sz
          have e : (σ.heap.set b .gone ++ [Entry.vec sz (([] : List (List PC)).drop i) true]) = σ.heap.set b .gone ++ [Entry.vec sz [] true]:=by simp
          rw [e]
          rw [e] at fin
          refine fin _ q1 (d2.trans q2) ?_
          rcases hor with h0 | ⟨pl,hp,_⟩
          · exact .inl h0
          · rw [hm'] at hp; cases hp
        · have hm':=hmb pl hm
          have hflen:=flatten_len hes
          have h5:=e5.length
          rw [List.length_take,List.length_drop,hflen] at h5
          have h7 : vs.toList.length = vs.size:=Array.length_toList
          have h8 : es.length * sz≤vs.toList.length - pl.off:=Nat.le_trans (Nat.le_of_eq h5) (Nat.min_le_right _ _)
          clear h5
          have h6 : i * sz≤es.length * sz:=Nat.mul_le_mul_right _ (by omega)
          obtain ⟨q1,q2⟩:=h.heap.move (i:=i) hb hm' (by omega) (by omega)
          refine fin _ q1 q2 ?_
          rcases hor with h0 | ⟨pl',hp,hbase,hlim⟩
          · exact .inl h0
          · rw [hm'] at hp
            obtain rfl : pl = pl':=by simpa using hp
            refine .inr ⟨⟨pl.blk,pl.off + i * sz,pl.lim⟩,by rw [← h.heap.len,List.getElem?_append_right (Nat.le_refl _)]; simp,?_,?_⟩
            · simp only [Nat.zero_mul,Nat.add_zero]; exact hbase
            · simp only [Nat.zero_add]; rw [Nat.add_mul] at hlim; omega
    · exact hi
  · exact hi
theorem moveRef_ok {a : Act} : ∀ (l : List Nat) {σ : St},Inv P C A σ a w→Inv P C A (moveRef l σ) a w
  | [],_,hi=>hi
  | k :: r,_,hi=>moveRef_ok r (moveRef1_ok hi k)
theorem refBox_ok {a : Act} : ∀ (l : List (Nat×Nat)) {σ : St},Inv P C A σ a w→Inv P C A (refBox l σ) a w
  | [],_,hi=>hi
  | p :: r,_,hi=>refBox_ok r (refBox1_ok hi p.1 p.2)
theorem norm_ok {σ : St} {a : Act} (hm : C.m = A.m) (hi : Inv P C A σ a w) (k : Nat) : Inv P C A (normK C k σ) a w:=by
  unfold normK
  rw [hm]
  have h1:=gc_ok (keep_ok (refNil_ok (C.nref k) hi) (C.keep k 0))
  unfold boxNorm
  split
  · exact h1
  · exact gc_ok (refBox_ok _ h1)
theorem out_ok {σ : St} {a : Act} (hm : C.m = A.m) (hi : Inv P C A σ a w) (k : Nat) (e : TExit) : Inv P C A (normOut C k e σ) a w:=by
  unfold normOut
  rw [hm]
  exact gc_ok (keep_ok hi _)
theorem exec_ok (hS : CallsOk P C) (hm : C.m = A.m) (hmx : P.follows .mixedOrders = true) : ∀ (c : Code) (σ : St) (a : Act) (w : World) (K : TExit→St→Prop) (Q : Exit→Act→World→Prop),LoopsOk C (bodies c)→TailsOk C (tails c)→Inv P C A σ a w→execT C c σ K →
    (∀ e σ a w,Inv P C A σ a w→K e σ→Q (exitOf e) a w)→c.wp P Q a w:=by
  intro c
  induction c with
  | skip=>intro σ a w K Q hL hT hi h hQ; exact wp_skip (hQ .normal σ a w hi h)
  | region id ops draw =>
    intro σ a w K Q hL hT hi h hQ
    cases draw with
    | false=>exact wp_region (steps_go hS (fun σ a w hi hK=>hQ .normal σ a w hi hK) _ hi ((walkT_eq C _ _ _).mp h))
    | true =>
      have h' : bif Region.noSelect ops then drawnT C ops (C.late id) (Region.before ops) ops.size (Array.replicate ops.size false) [] false σ (K .normal) else False:=h
      cases hns : Region.noSelect ops with
      | false=>rw [hns] at h'; exact h'.elim
      | true =>
        rw [hns] at h'
        exact wp_drawn hS hm hmx hns hi h' (fun σ a w hi hK=>hQ .normal σ a w hi hK)
  | seq x y ihx ihy =>
    intro σ a w K Q hL hT hi h hQ
    have hLx : LoopsOk C (bodies x):=fun b hb=>hL b (List.mem_append.2 (.inl hb))
    have hLy : LoopsOk C (bodies y):=fun b hb=>hL b (List.mem_append.2 (.inr hb))
    have hTx : TailsOk C (tails x):=fun b hb=>hT b (List.mem_cons_of_mem _ (List.mem_append.2 (.inl hb)))
    have hTy : TailsOk C (tails y):=fun b hb=>hT b (List.mem_cons_of_mem _ (List.mem_append.2 (.inr hb)))
    refine wp_seq (ihx σ a w _ _ hLx hTx hi h fun e σ' a' w' hi' hK=>?_)
    cases e with
    | normal =>
      have h1 : (match C.loops (joinKey y) with
        | some J=>J (normK C (joinKey y) σ') K
        | none=>execT C y σ' K : Prop):=hK
      cases hl : C.loops (joinKey y) with
      | none=>rw [hl] at h1; exact ihy σ' a' w' K Q hLy hTy hi' h1 hQ
      | some J =>
        rw [hl] at h1
        exact ihy _ a' w' _ Q hLy hTy (norm_ok hm hi' _) (hT y (by simp [tails]) J hl σ' K h1) fun e σ a w hi hK=>hQ e _ a w (out_ok hm hi _ e) hK
    | exit id=>exact hQ _ σ' a' w' hi' hK
    | ret=>exact hQ _ σ' a' w' hi' hK
  | cond x y z ihy ihz =>
    intro σ a w K Q hL hT hi h hQ
    have h' : (match opd C σ.tmps none x with
      | .w (.one (.p (.c (.bool v))))=>br v fun v'=>match v' with
          | true=>execT C y (setCond x σ true) K
          | false=>execT C z (setCond x σ false) K
      | _=>False : Prop):=h
    have hLy : LoopsOk C (bodies y):=fun b hb=>hL b (List.mem_append.2 (.inl hb))
    have hLz : LoopsOk C (bodies z):=fun b hb=>hL b (List.mem_append.2 (.inr hb))
    have hTy : TailsOk C (tails y):=fun b hb=>hT b (List.mem_append.2 (.inl hb))
    have hTz : TailsOk C (tails z):=fun b hb=>hT b (List.mem_append.2 (.inr hb))
    obtain ⟨F,μ,hi0⟩:=hi
    have hx:=hi0.act.opd hi0.ctx none x
    split at h'
    · rename_i v hv
      rw [hv] at hx
      have hxv:=(rep_c hx).1
      have hinv : ∀ (t : Tmp),x = .tmp t→Inv P C A ⟨σ.tmps.set t (B v),σ.heap⟩ a w:=fun t ht=>by
        subst ht
        refine ⟨F,μ,hi0.heap,⟨hi0.act.defers,by simp [hi0.act.size],fun s tv hs=>?_⟩,hi0.ctx⟩
        simp only [List.getElem?_set] at hs
        split at hs
        · rename_i hts
          subst hts
          split at hs
          · obtain rfl:=Option.some.inj hs
            have e : a.tmps.getD t undef = .bool v:=hxv
            rw [e]
            exact RepC.c _ rfl
          · cases hs
        · exact hi0.act.get s tv hs
      refine wp_cond (t:=v) hxv ?_
      cases v with
      | true =>
        cases x with
        | tmp t=>exact ihy _ a w K Q hLy hTy (hinv t rfl) h' hQ
        | _=>exact ihy _ a w K Q hLy hTy ⟨F,μ,hi0⟩ h' hQ
      | false =>
        cases x with
        | tmp t=>exact ihz _ a w K Q hLz hTz (hinv t rfl) h' hQ
        | _=>exact ihz _ a w K Q hLz hTz ⟨F,μ,hi0⟩ h' hQ
    · exact h'.elim
  | block id x ih =>
    intro σ a w K Q hL hT hi h hQ
    refine wp_block (ih σ a w _ _ (fun b hb=>hL b hb) (fun b hb=>hT b hb) hi h fun e σ' a' w' hi' hK=>?_)
    cases e with
    | normal=>exact hQ _ σ' a' w' hi' hK
    | exit id' =>
      have hK' : bif id' == id then K .normal σ' else K (.exit id') σ':=hK
      show (if id' = id then Q .normal a' w' else Q (.exit id') a' w')
      cases he : id' == id with
      | true =>
        rw [he] at hK'
        rw [if_pos (beq_iff_eq.1 he)]
        exact hQ .normal σ' a' w' hi' hK'
      | false =>
        rw [he] at hK'
        rw [if_neg (fun q=>by rw [beq_iff_eq.2 q] at he; cases he)]
        exact hQ (.exit id') σ' a' w' hi' hK'
    | ret=>exact hQ _ σ' a' w' hi' hK
  | loop x ih =>
    intro σ a w K Q hL hT hi h hQ b k cs
    have hLx : LoopsOk C (bodies x):=fun b hb=>hL b (List.mem_cons_of_mem _ hb)
    have hTx : TailsOk C (tails x):=fun b hb=>hT b hb
    have h1 : (match C.loops (loopKey x) with
      | some L=>L (normK C (loopKey x) σ) K
      | none=>iter (execT C x) (normK C (loopKey x)) rounds σ K : Prop):=h
    have h2 : ∃ K',iter (execT C x) (normK C (loopKey x)) rounds σ K'∧∀ e σ a w,Inv P C A σ a w→K' e σ→Q (exitOf e) a w:=by
      cases hl : C.loops (loopKey x) with
      | none=>rw [hl] at h1; exact ⟨K,h1,hQ⟩
      | some L =>
        rw [hl] at h1
        exact ⟨_,hL x (by simp [bodies]) L hl σ K h1,fun e σ a w hi hK=>hQ e _ a w (out_ok hm hi _ e) hK⟩
    obtain ⟨K',h2,hQ'⟩:=h2
    obtain ⟨e,a',w',hq,harr⟩:=iter_ok (c:=x) (f:=execT C x) (norm:=normK C (loopKey x)) (fun σ a w hi=>norm_ok hm hi _) (fun σ a w K Q hi h hQ=>ih σ a w K Q hLx hTx hi h hQ) hQ' rounds σ a w hi h2 b k cs
    exact ⟨e,a',w',hq,.of_steps (.one step_loop) harr⟩
  | exit id=>intro σ a w K Q hL hT hi h hQ; exact wp_exit (hQ (.exit id) σ a w hi h)
  | ret=>intro σ a w K Q hL hT hi h hQ; exact wp_ret (hQ .ret σ a w hi h)
  | rangeFunc f ps x y _ _=>intro σ a w K Q hL hT hi h hQ; exact h.elim
  | scope x _=>intro σ a w K Q hL hT hi h hQ; exact h.elim
  | label l=>intro σ a w K Q hL hT hi h hQ; exact h.elim
  | goto l=>intro σ a w K Q hL hT hi h hQ; exact h.elim
  | refuse why=>intro σ a w K Q hL hT hi h hQ; exact h.elim
end
end Go.Eng
namespace Go.Eng
open Go.RowKit
section
variable {P : Program} {C : Ctx} {A : Base} {F : Nat→Prop} {μ : List (Option Place)} {H : List Entry} {w : World}
theorem gc_vals (hH : HeapOk A F μ H w) {vs : List TV} {us : List Value} (hv : RepVs F μ H w vs us) : ∃ μ',HeapOk A F μ' (gc A.m vs H).heap w∧RepVs F μ' (gc A.m vs H).heap w (gc A.m vs H).tmps us:=by
  obtain ⟨k1,k2⟩:=gcIds_ok (l:=vs.flatMap tvIds) hH
  obtain ⟨hren,_⟩:=sub_ok hH k1
  exact ⟨_,sub_stay hH k1 k2,RepVs.ren hren hv⟩
def resFn (a : Act) : ResultVar→Sem Value
  | .tmp t=>pure (a.tmps.getD t undef)
  | .cell x t=>do loadVar t (← asAddr (a.tmps.getD x undef))
theorem result_ok {σ : St} {a : Act} (hi : InvAt P C A F μ σ a w) {r : ResultVar} {K : TV→Prop} (h : resultT C σ r K) :
    ∃ v tv,(resFn a r).run P w = .ok v w∧RepV F μ σ.heap w tv v∧K tv:=by
  cases r with
  | tmp t =>
    have hx:=hi.act.opd hi.ctx none (.tmp t)
    have e : opd C σ.tmps none (.tmp t) = σ.tmps.getD t junk:=getT_eq _ _
    rw [e] at hx
    exact ⟨_,_,rfl,hx,h⟩
  | cell x t =>
    have h' : (match C.ty t,σ.tmps.getD x junk with
      | some ti,.w (.one x)=>loadT ti x σ.heap K
      | _,_=>False : Prop):=h
    have hx:=hi.act.opd hi.ctx none (.tmp x)
    have e : opd C σ.tmps none (.tmp x) = σ.tmps.getD x junk:=getT_eq _ _
    rw [e] at hx
    split at h'
    · rename_i ti tc ht hv
      have hx' : RepV F μ σ.heap w (σ.tmps.getD x junk) (a.tmps.getD x undef):=hx
      rw [hv] at hx'
      obtain ⟨v,tv,h1,h2,h3⟩:=load_ok hi.ctx hi.heap (hi.ctx.ty _ _ ht) h' hx'
      refine ⟨v,tv,?_,h2,h3⟩
      have h4:=h1 w Same.refl
      have hp : ∃ ad,a.tmps.getD x undef = .pointer (some ad):=by
        cases tc with
        | ptr b i o=>obtain ⟨_,B,O,e,_⟩:=hx'; exact ⟨_,e⟩
        | fptr cs o=>obtain ⟨ad,e,_⟩:=hx'; exact ⟨_,e⟩
        | _=>exact h'.elim
      obtain ⟨ad,he⟩:=hp
      simp only [Instr.loadAt,he,Instr.sureAddr,pure_bind] at h4
      simp only [resFn,he,asAddr,pure_bind]
      exact h4
    · exact h'.elim
theorem results_ok {σ : St} {a : Act} (hi : InvAt P C A F μ σ a w) : ∀ {rs : List ResultVar} {K : List TV→Prop},resultsT C σ rs K →
    ∃ vs tvs,(rs.mapM (resFn a)).run P w = .ok vs w∧RepVs F μ σ.heap w tvs vs∧K tvs
  | [],K,h=>⟨[],[],rfl,trivial,h⟩
  | r :: rs,K,h=>by
    obtain ⟨v,tv,h1,h2,h3⟩:=result_ok hi h
    obtain ⟨vs,tvs,k1,k2,k3⟩:=results_ok hi h3
    refine ⟨v :: vs,tv :: tvs,?_,⟨h2,k2⟩,k3⟩
    rw [List.mapM_cons]
    simp only [Sem.run_bind,h1,Result.andThen_ok,k1,Sem.run_pure]
theorem asWs_rep : ∀ {tvs : List TV} {xs : List TW} {vs : List Value},asWs tvs = some xs→RepVs F μ H w tvs vs→RepWs F μ H w xs vs
  | [],xs,[],h,_=>by
    simp only [asWs,Option.some.injEq] at h
    subst h
    trivial
  | .w x :: tvs,xs,v :: vs,h,r=>by
    simp only [asWs] at h
    cases hr : asWs tvs with
    | none=>simp [hr] at h
    | some ys =>
      simp only [hr,Option.some.injEq] at h
      subst h
      exact ⟨r.1,asWs_rep hr r.2⟩
  | .tup _ :: _,_,_ :: _,h,_=>by simp [asWs] at h
  | [],_,_ :: _,_,r=>r.elim
  | _ :: _,_,[],_,r=>r.elim
theorem freezeW_ok (hH : HeapOk A F μ H w) {x y : TW} {v : Value} {H1 : List Entry} (hx : RepW F μ H w x v) (h : freezeW x H = some (y,H1)) : ∃ F1,HeapOk A F1 μ H1 w∧Le F μ H w F1 μ H1 w∧RepW F1 μ H1 w y v:=by
  cases x with
  | pagg xs =>
    simp only [freezeW,Option.some.injEq,Prod.mk.injEq] at h
    obtain ⟨rfl,rfl⟩:=h
    exact ⟨F,hH,Le.refl,hx⟩
  | one x =>
    simp only [freezeW] at h
    split at h
    · rename_i p H' hp
      simp only [Option.some.injEq,Prod.mk.injEq] at h
      obtain ⟨rfl,rfl⟩:=h
      have hj : x≠.junk:=fun e=>by subst e; simp [freeze] at hp
      have hv : RepTs F μ H w [x] [v]:=⟨⟨RepT.one hx hj,hx⟩,trivial⟩
      obtain ⟨F1,h1,h2,h3⟩:=freeze_ok hH hv hp
      exact ⟨F1,h1,h2,h3.1⟩
    · cases h
  | agg xs =>
    simp only [freezeW] at h
    split at h
    · rename_i ps H' hp
      simp only [Option.some.injEq,Prod.mk.injEq] at h
      obtain ⟨rfl,rfl⟩:=h
      obtain ⟨cs,rfl,hr⟩:=hx
      obtain ⟨F1,h1,h2,h3⟩:=freeze_ok hH hr hp
      exact ⟨F1,h1,h2,cs,rfl,h3⟩
    · cases h
theorem freezeWs_ok : ∀ {xs ys : List TW} {vs : List Value} {H H1 : List Entry} {F : Nat→Prop},HeapOk A F μ H w→RepWs F μ H w xs vs→freezeWs xs H = some (ys,H1)→∃ F1,HeapOk A F1 μ H1 w∧Le F μ H w F1 μ H1 w∧RepWs F1 μ H1 w ys vs
  | [],ys,[],H,H1,F,hH,_,h=>by
    simp only [freezeWs,Option.some.injEq,Prod.mk.injEq] at h
    obtain ⟨rfl,rfl⟩:=h
    exact ⟨F,hH,Le.refl,trivial⟩
  | x :: xs,ys,v :: vs,H,H1,F,hH,hr,h=>by
    simp only [freezeWs] at h
    split at h
    · rename_i y H2 hy
      split at h
      · rename_i zs H3 hz
        simp only [Option.some.injEq,Prod.mk.injEq] at h
        obtain ⟨rfl,rfl⟩:=h
        obtain ⟨F1,h1,h2,h3⟩:=freezeW_ok hH hr.1 hy
        obtain ⟨F2,k1,k2,k3⟩:=freezeWs_ok h1 (hr.2.le h2) hz
        exact ⟨F2,k1,h2.trans k2,h3.le k2,k3⟩
      · cases h
    · cases h
  | [],_,_ :: _,_,_,_,_,r,_=>r.elim
  | _ :: _,_,[],_,_,_,_,r,_=>r.elim
theorem refRes_ok : ∀ {xs : List TW} {vs : List Value} {H : List Entry} {μ : List (Option Place)},HeapOk A F μ H w→RepWs F μ H w xs vs→∃ μ1,HeapOk A F μ1 (refRes xs H).2 w∧Le F μ H w F μ1 (refRes xs H).2 w∧RepWs F μ1 (refRes xs H).2 w (refRes xs H).1 vs
  | [],[],H,μ,hH,_=>⟨μ,hH,Le.refl,trivial⟩
  | x :: r,v :: vs,H,μ,hH,hr=>by
    unfold refRes
    split
    · rename_i sz
      obtain ⟨q1,q2⟩:=hH.pushNone sz
      obtain ⟨μ1,k1,k2,k3⟩:=refRes_ok (xs:=r) (vs:=vs) q1 (hr.2.le q2)
      refine ⟨μ1,k1,q2.trans k2,?_,k3⟩
      have hx : RepC F w (.sl sz [] true) v:=hr.1
      have hl : H.length < (refRes r (H ++ [Entry.vec sz [] true])).2.length:=by have:=k2.len; rw [List.length_append,List.length_singleton] at this; omega
      have hz : ∀ sz' es' wr',(refRes r (H ++ [Entry.vec sz [] true])).2[H.length]? = some (Entry.vec sz' es' wr')→0 + 0≤es'.length:=fun _ _ _ _=>by omega
      cases hx with
      | nil=>exact ⟨hl,none,0,rfl,Nat.le_refl _,fun sz' es' wr' he=>⟨hz _ _ _ he,.inl rfl⟩⟩
      | sl _ _ _ ad cap val c1 c2 c3 c4 =>
        have hc : cap = 0:=c3 rfl
        subst hc
        exact ⟨hl,some ad,0,rfl,Nat.le_refl _,fun sz' es' wr' he=>⟨hz _ _ _ he,.inl rfl⟩⟩
    · obtain ⟨μ1,k1,k2,k3⟩:=refRes_ok (xs:=r) (vs:=vs) hH hr.2
      exact ⟨μ1,k1,k2,hr.1.le k2,k3⟩
  | [],_ :: _,_,_,_,h=>h.elim
  | _ :: _,[],_,_,_,h=>h.elim
theorem resW_ok (hH : HeapOk A F μ H w) {fz rn : Bool} {xs ys : List TW} {vs : List Value} {H1 : List Entry} (hr : RepWs F μ H w xs vs) (h : resW fz rn xs H = some (ys,H1)) : ∃ F1 μ1,HeapOk A F1 μ1 H1 w∧Le F μ H w F1 μ1 H1 w∧RepWs F1 μ1 H1 w ys vs:=by
  unfold resW at h
  cases fz with
  | true =>
    obtain ⟨F1,h1,h2,h3⟩:=freezeWs_ok hH hr h
    exact ⟨F1,μ,h1,h2,h3⟩
  | false =>
    cases rn with
    | true =>
      simp only [cond_false,cond_true,Option.some.injEq] at h
      obtain ⟨μ1,h1,h2,h3⟩:=refRes_ok hH hr
      rw [h] at h1 h2 h3
      exact ⟨F,μ1,h1,h2,h3⟩
    | false =>
      simp only [cond_false,Option.some.injEq,Prod.mk.injEq] at h
      obtain ⟨rfl,rfl⟩:=h
      exact ⟨F,μ,hH,Le.refl,hr⟩
theorem ret_ok {fn : Func} (hm : C.m = A.m) {σ : St} {a : Act} (hi : Inv P C A σ a w) {K : TV→List Entry→Prop} (h : retT C fn.results.toList σ K) :
    a.defers = []∧∃ v,(results fn a.tmps).run P w = .ok v w∧∃ F' μ' res H',HeapOk A F' μ' H' w∧RepV F' μ' H' w res v∧K res H':=by
  obtain ⟨F,μ,hi⟩:=hi
  refine ⟨hi.act.defers,?_⟩
  unfold retT at h
  obtain ⟨vs,tvs,h1,h2,h3⟩:=results_ok hi h
  have hrun : (results fn a.tmps).run P w = .ok (if h : vs.toArray.size = 1 then vs.toArray[0] else .tuple vs.toArray) w:=by
    have hr : results fn a.tmps = (do let vs ← fn.results.mapM (resFn a); pure (if h : vs.size = 1 then vs[0] else .tuple vs)):=rfl
    rw [hr,Array.mapM_eq_mapM_toList]
    simp only [map_eq_pure_bind,bind_assoc,pure_bind,Sem.run_bind,h1]
    rfl
  refine ⟨_,hrun,?_⟩
  split at h3
  · rename_i xs hxs
    have hw:=asWs_rep hxs h2
    split at h3
    · rename_i ys H1 hys
      obtain ⟨F1,μ1,hH1,hle,hw1⟩:=resW_ok hi.heap hw hys
      have hv : RepVs F1 μ1 H1 w [oneOf ys] [if h : vs.toArray.size = 1 then vs.toArray[0] else .tuple vs.toArray]:=by
        refine ⟨?_,trivial⟩
        cases ys with
        | nil=>cases vs with
          | nil=>exact ⟨#[],rfl,trivial⟩
          | cons _ _=>exact hw1.elim
        | cons y ys=>cases vs with
          | nil=>exact hw1.elim
          | cons u us=>cases ys with
            | nil=>cases us with
              | nil=>exact hw1.1
              | cons _ _=>exact hw1.2.elim
            | cons y' ys=>cases us with
              | nil=>exact hw1.2.elim
              | cons u' us=>exact ⟨(u :: u' :: us).toArray,by simp,by simpa using hw1⟩
      obtain ⟨μ',g1,g2⟩:=gc_vals hH1 hv
      rw [← hm] at g1 g2
      split at h3
      · rename_i v' H' hg
        rw [hg] at g1 g2
        exact ⟨F1,μ',v',H',g1,g2.1,h3⟩
      · exact h3.elim
    · exact h3.elim
  · exact h3.elim
theorem func_ok (hty : ∀ t i,C.ty t = some i→TIOk P t i) (hS : CallsOk P C) (hmx : P.follows .mixedOrders = true) {g : FuncId} {fn : Func} (hf : P.funcs[g]? = some fn) {args : List TV} {H : List Entry} {K : TV→List Entry→Prop} (hL : ∀ c,fn.body = some c→LoopsOk C (bodies c)∧TailsOk C (tails c)) (h : funcT C fn args H K) : Holds P C.glob g args H K:=by
  intro F μ w vs hH hG hargs
  unfold funcT at h
  cases hb : fn.body with
  | none=>rw [hb] at h; exact h.elim
  | some c =>
    rw [hb] at h
    simp only [] at h
    have hl:=hargs.length
    simp only [Array.length_toList] at hl
    cases hm0 : H.length == C.m with
    | false=>rw [hm0] at h; exact h.elim
    | true =>
    rw [hm0] at h
    simp only [cond_true] at h
    have hm : C.m = (baseOf F μ H w).m:=(beq_iff_eq.1 hm0).symm
    refine calls_of_wp hf hb (exec_ok (A:=baseOf F μ H w) hS hm hmx c _ _ w _ _ (hL c hb).1 (hL c hb).2 (moveRef_ok C.take (σ:=⟨args ++ List.replicate (fn.ntmps - args.length) undefT,H⟩) ⟨F,μ,hH,⟨rfl,?_,fun t tv ht=>?_⟩,⟨hty,hG⟩⟩) h fun e σ a w' hi hK=>?_)
    · simp [hl]
    · simp only [] at ht
      rcases Nat.lt_or_ge t args.length with h1 | h1
      · rw [List.getElem?_append_left h1] at ht
        obtain ⟨v,h2,h3⟩:=hargs.get ht
        have h4 : vs[t]? = some v:=by simpa using h2
        have h5 : t < vs.size:=by omega
        rw [Array.getD_eq_getD_getElem?,Array.getElem?_append_left h5,h4]
        exact h3
      · rw [List.getElem?_append_right h1] at ht
        have hu : tv = undefT:=by
          have:=List.getElem?_eq_some_iff.1 ht
          obtain ⟨_,h6⟩:=this
          simpa using h6.symm
        subst hu
        have hlt : t < args.length + (fn.ntmps - args.length):=by
          have:=(List.getElem?_eq_some_iff.1 ht).1
          simp at this
          omega
        refine ⟨#[],?_,trivial⟩
        rw [Array.getD_eq_getD_getElem?,Array.getElem?_append_right (by omega),Array.getElem?_replicate]
        rw [if_pos (by omega)]
        rfl
    · have key : retT C fn.results.toList σ K→bodyPost P fn (fun e w'=>∃ v F' μ' res H',e = .returned v∧HeapOk (baseOf F μ H w) F' μ' H' w'∧RepV F' μ' H' w' res v∧K res H') .ret a w':=fun hr=>by
        obtain ⟨h1,v,h2,F',μ',res,H',h3,h4,h5⟩:=ret_ok (fn:=fn) hm hi hr
        exact ⟨h1,v,h2,v,F',μ',res,H',rfl,h3,h4,h5⟩
      cases e with
      | normal=>exact key hK
      | ret=>exact key hK
      | exit id=>exact hK.elim
def FnOk (P : Program) (G : Nat→Option (List PC)) (g : FuncId) (f : List TV→List Entry→(TV→List Entry→Prop)→Prop) : Prop:=∀ args H K,f args H K→IsGo P g∧Holds P G g args H K
def noCalls : FuncId→List TV→List Entry→(TV→List Entry→Prop)→Prop:=fun _ _ _ _=>False
def addCall (g : FuncId) (f : List TV→List Entry→(TV→List Entry→Prop)→Prop) (old : FuncId→List TV→List Entry→(TV→List Entry→Prop)→Prop) : FuncId→List TV→List Entry→(TV→List Entry→Prop)→Prop :=
  fun g' args H K=>bif g' == g then f args H K else old g' args H K
def Known (P : Program) (G : Nat→Option (List PC)) (c : FuncId→List TV→List Entry→(TV→List Entry→Prop)→Prop) : Prop:=∀ g,FnOk P G g (c g)
theorem Known.none {G : Nat→Option (List PC)} : Known P G noCalls:=fun _ _ _ _ h=>h.elim
theorem Known.add {G : Nat→Option (List PC)} {g : FuncId} {f : List TV→List Entry→(TV→List Entry→Prop)→Prop} {old : FuncId→List TV→List Entry→(TV→List Entry→Prop)→Prop} (hf : FnOk P G g f) (h : Known P G old) : Known P G (addCall g f old):=by
  intro g' args H K hc
  unfold addCall at hc
  cases he : g' == g with
  | true =>
    rw [he] at hc
    obtain rfl:=beq_iff_eq.1 he
    exact hf args H K hc
  | false =>
    rw [he] at hc
    exact h g' args H K hc
theorem FnOk.of_text (hty : ∀ t i, C.ty t = some i → TIOk P t i) (hS : Known P C.glob C.call) (hmx : P.follows .mixedOrders = true) {g : FuncId} {fn : Func} (hf : P.funcs[g]? = some fn) (hname : (fn.name == "runtime.NumGoroutine") = false) (hbody : fn.body.isNone = false)
    (hL : ∀ c,fn.body = some c→LoopsOk C (bodies c)∧TailsOk C (tails c))
    {f : List TV→List Entry→(TV→List Entry→Prop)→Prop} (h : ∀ args H K,f args H K→funcT C fn args H K) : FnOk P C.glob g f:=fun args H K hk =>
  ⟨⟨fn,hf,hname,hbody⟩,func_ok hty hS hmx hf hL (h args H K hk)⟩
end
end Go.Eng
namespace Go.Eng
def bB (b : Bool) (A B : Prop) : Prop:=match b with
  | true=>A
  | false=>B
def mkS (n : Nat) (l : List (Nat×TV)) : List TV:=l.foldl (fun a p=>a.set p.1 p.2) (List.replicate n junk)
abbrev w64 (n : Int) : Int:=IntKind.wrap .i64 n
def cI (k : IntKind) (l : List PC) (K : Int→List PC→Prop) : Prop:=unconsC l fun x r=>asIntC k x fun n=>K n r
def cB (l : List PC) (K : Bool→List PC→Prop) : Prop:=unconsC l fun x r=>asBoolC x fun n=>K n r
def cS (l : List PC) (K : ByteArray→List PC→Prop) : Prop:=unconsC l fun x r=>asStrC x fun n=>K n r
def cL (sz : Nat) (l : List PC) (K : List (List PC)→Bool→List PC→Prop) : Prop:=unconsC l fun x r=>asSlC sz x fun es full=>K es full r
def cO (l : List PC) (K : PC→List PC→Prop) : Prop:=unconsC l K
def oI (k : IntKind) (l : List PC) (K : Int→Prop) : Prop:=unconsC l fun x r=>nilC r (asIntC k x K)
def oB (l : List PC) (K : Bool→Prop) : Prop:=unconsC l fun x r=>nilC r (asBoolC x K)
def oS (l : List PC) (K : ByteArray→Prop) : Prop:=unconsC l fun x r=>nilC r (asStrC x K)
def oL (sz : Nat) (l : List PC) (K : List (List PC)→Bool→Prop) : Prop:=unconsC l fun x r=>nilC r (asSlC sz x K)
abbrev pI (n : Int) : PC:=.c (.int .i64 n)
abbrev pB (b : Bool) : PC:=.c (.bool b)
abbrev pS (s : ByteArray) : PC:=.c (.string s)
theorem asIntC_elim {k : IntKind} {x : PC} {K : Int→Prop} (h : asIntC k x K) : ∃ n,x = .c (.int k n)∧K n:=by
  unfold asIntC at h
  split at h
  · split at h
    · split at h
      · rename_i e; subst e; exact ⟨_,rfl,h⟩
      · exact h.elim
    · exact h.elim
  · exact h.elim
theorem asBoolC_elim {x : PC} {K : Bool→Prop} (h : asBoolC x K) : ∃ n,x = .c (.bool n)∧K n:=by
  unfold asBoolC at h
  split at h
  · split at h
    · exact ⟨_,rfl,h⟩
    · exact h.elim
  · exact h.elim
theorem asStrC_elim {x : PC} {K : ByteArray→Prop} (h : asStrC x K) : ∃ n,x = .c (.string n)∧K n:=by
  unfold asStrC at h
  split at h
  · split at h
    · exact ⟨_,rfl,h⟩
    · exact h.elim
  · exact h.elim
theorem asSlC_elim {sz : Nat} {x : PC} {K : List (List PC)→Bool→Prop} (h : asSlC sz x K) : ∃ es full,x = .sl sz es full∧K es full:=by
  unfold asSlC at h
  split at h
  · split at h
    · rename_i e; subst e; exact ⟨_,_,rfl,h⟩
    · exact h.elim
  · exact h.elim
theorem unconsC_elim {l : List PC} {K : PC→List PC→Prop} (h : unconsC l K) : ∃ x r,l = x :: r∧K x r:=by
  cases l with
  | nil=>exact h.elim
  | cons x r=>exact ⟨x,r,rfl,h⟩
theorem nilC_elim {l : List PC} {K : Prop} (h : nilC l K) : l = []∧K:=by
  cases l with
  | nil=>exact ⟨rfl,h⟩
  | cons x r=>exact h.elim
def unconsV (l : List TV) (K : TV→List TV→Prop) : Prop:=match l with
  | x :: r=>K x r
  | []=>False
def nilV (l : List TV) (K : Prop) : Prop:=match l with
  | []=>K
  | _=>False
def asOneV (x : TV) (K : TC→Prop) : Prop:=match x with
  | .w a=>match a with
    | .one y=>K y
    | _=>False
  | _=>False
def asPV (x : TC) (K : PC→Prop) : Prop:=match x with
  | .p y=>K y
  | _=>False
def vJ : Nat→List TV→(List TV→Prop)→Prop
  | 0,l,K=>K l
  | n + 1,l,K=>unconsV l fun x r=>asOneV x fun y=>match y with
    | .junk=>vJ n r K
    | _=>False
def isNilS (sz : Nat) (x : PC) (K : Prop) : Prop:=match x with
  | .sl sz' es full=>if sz' = sz then (match es with
    | []=>(match full with
      | true=>K
      | false=>False)
    | _=>False) else False
  | _=>False
def vN (sz : Nat) (l : List TV) (K : List TV→Prop) : Prop:=unconsV l fun x r=>asOneV x fun y=>asPV y fun z=>isNilS sz z (K r)
def isRef (b : Nat) (x : TC) (K : Nat→Nat→Prop) : Prop:=match x with
  | .ref b' i n=>if b' = b then K i n else False
  | _=>False
def vR (b : Nat) (l : List TV) (K : Nat→Nat→List TV→Prop) : Prop:=unconsV l fun x r=>asOneV x fun y=>isRef b y fun i n=>K i n r
def isPtr (b i o : Nat) (x : TC) (K : Prop) : Prop:=match x with
  | .ptr b' i' o'=>if b' = b∧i' = i∧o' = o then K else False
  | _=>False
def vP (b i o : Nat) (l : List TV) (K : List TV→Prop) : Prop:=unconsV l fun x r=>asOneV x fun y=>isPtr b i o y (K r)
def isFun (f : FuncId) (x : PC) (K : Prop) : Prop:=match x with
  | .c v=>match v with
    | .func f' a b=>match f' with
      | .func g=>if g = f then (match a with
        | ⟨[]⟩=>(match b with
          | ⟨[]⟩=>K
          | _=>False)
        | _=>False) else False
      | _=>False
    | _=>False
  | _=>False
def vF (f : FuncId) (l : List TV) (K : List TV→Prop) : Prop:=unconsV l fun x r=>asOneV x fun y=>asPV y fun z=>isFun f z (K r)
def isClo (f : FuncId) (x : TC) (K : List TC→List TC→Prop) : Prop:=match x with
  | .clo f' a b=>if f' = f then K a b else False
  | _=>False
def vC (f : FuncId) (l : List TV) (K : List TC→List TC→List TV→Prop) : Prop:=unconsV l fun x r=>asOneV x fun y=>isClo f y fun a b=>K a b r
def asPagg (x : TV) (K : List PC→Prop) : Prop:=match x with
  | .w a=>match a with
    | .pagg cs=>K cs
    | _=>False
  | _=>False
def asAgg (x : TV) (K : List TC→Prop) : Prop:=match x with
  | .w a=>match a with
    | .agg cs=>K cs
    | _=>False
  | _=>False
def vA (l : List TV) (K : List PC→List TV→Prop) : Prop:=unconsV l fun x r=>asPagg x fun cs=>K cs r
def vG (l : List TV) (K : List TC→List TV→Prop) : Prop:=unconsV l fun x r=>asAgg x fun cs=>K cs r
def isUndef (x : TV) (K : Prop) : Prop:=match x with
  | .tup xs=>(match xs with
    | []=>K
    | _=>False)
  | _=>False
def vU (l : List TV) (K : List TV→Prop) : Prop:=unconsV l fun x r=>isUndef x (K r)
theorem unconsV_elim {l : List TV} {K : TV→List TV→Prop} (h : unconsV l K) : ∃ x r,l = x :: r∧K x r:=by
  cases l with
  | nil=>exact h.elim
  | cons x r=>exact ⟨x,r,rfl,h⟩
theorem nilV_elim {l : List TV} {K : Prop} (h : nilV l K) : l = []∧K:=by
  cases l with
  | nil=>exact ⟨rfl,h⟩
  | cons x r=>exact h.elim
theorem asOneV_elim {x : TV} {K : TC→Prop} (h : asOneV x K) : ∃ y,x = .w (.one y)∧K y:=by
  cases x with
  | w a=>cases a with
    | one y=>exact ⟨y,rfl,h⟩
    | agg _=>exact h.elim
    | pagg _=>exact h.elim
  | tup _=>exact h.elim
theorem asPV_elim {x : TC} {K : PC→Prop} (h : asPV x K) : ∃ y,x = .p y∧K y:=by
  cases x with
  | p y=>exact ⟨y,rfl,h⟩
  | _=>exact h.elim
theorem vJ_elim : ∀ {n : Nat} {l : List TV} {K : List TV→Prop},vJ n l K→∃ r,l = List.replicate n junk ++ r∧K r
  | 0,l,K,h=>⟨l,rfl,h⟩
  | n + 1,l,K,h=>by
    replace h:=unconsV_elim h
    obtain ⟨x,r,rfl,h⟩:=h
    replace h:=asOneV_elim h
    obtain ⟨y,rfl,h⟩:=h
    cases y with
    | junk =>
      replace h:=vJ_elim (n:=n) h
      obtain ⟨r',rfl,h⟩:=h
      exact ⟨r',rfl,h⟩
    | _=>exact h.elim
theorem vN_elim {sz : Nat} {l : List TV} {K : List TV→Prop} (h : vN sz l K) : ∃ r,l = .w (.one (.p (.sl sz [] true))) :: r∧K r:=by
  replace h:=unconsV_elim h
  obtain ⟨x,r,rfl,h⟩:=h
  replace h:=asOneV_elim h
  obtain ⟨y,rfl,h⟩:=h
  replace h:=asPV_elim h
  obtain ⟨z,rfl,h⟩:=h
  cases z with
  | c _=>exact h.elim
  | sl sz' es full =>
    unfold isNilS at h
    simp only [] at h
    split at h
    · rename_i e
      subst e
      cases es with
      | nil=>cases full with
        | true=>exact ⟨r,rfl,h⟩
        | false=>exact h.elim
      | cons _ _=>exact h.elim
    · exact h.elim
theorem vR_elim {b : Nat} {l : List TV} {K : Nat→Nat→List TV→Prop} (h : vR b l K) : ∃ i n r,l = .w (.one (.ref b i n)) :: r∧K i n r:=by
  replace h:=unconsV_elim h
  obtain ⟨x,r,rfl,h⟩:=h
  replace h:=asOneV_elim h
  obtain ⟨y,rfl,h⟩:=h
  cases y with
  | ref b' i n =>
    unfold isRef at h
    simp only [] at h
    split at h
    · rename_i e
      subst e
      exact ⟨i,n,r,rfl,h⟩
    · exact h.elim
  | _=>exact h.elim
theorem vP_elim {b i o : Nat} {l : List TV} {K : List TV→Prop} (h : vP b i o l K) : ∃ r,l = .w (.one (.ptr b i o)) :: r∧K r:=by
  replace h:=unconsV_elim h
  obtain ⟨x,r,rfl,h⟩:=h
  replace h:=asOneV_elim h
  obtain ⟨y,rfl,h⟩:=h
  cases y with
  | ptr b' i' o' =>
    unfold isPtr at h
    simp only [] at h
    split at h
    · rename_i e
      obtain ⟨rfl,rfl,rfl⟩:=e
      exact ⟨r,rfl,h⟩
    · exact h.elim
  | _=>exact h.elim
theorem vF_elim {f : FuncId} {l : List TV} {K : List TV→Prop} (h : vF f l K) : ∃ r,l = .c (.func (.func f) #[] #[]) :: r∧K r:=by
  replace h:=unconsV_elim h
  obtain ⟨x,r,rfl,h⟩:=h
  replace h:=asOneV_elim h
  obtain ⟨y,rfl,h⟩:=h
  replace h:=asPV_elim h
  obtain ⟨z,rfl,h⟩:=h
  cases z with
  | sl _ _ _=>exact h.elim
  | c v=>cases v with
    | func f' a b=>cases f' with
      | func g =>
        unfold isFun at h
        simp only [] at h
        split at h
        · rename_i e
          subst e
          obtain ⟨a⟩:=a
          obtain ⟨b⟩:=b
          cases a with
          | cons _ _=>exact h.elim
          | nil=>cases b with
            | cons _ _=>exact h.elim
            | nil=>exact ⟨r,rfl,h⟩
        · exact h.elim
      | _=>exact h.elim
    | _=>exact h.elim
theorem vC_elim {f : FuncId} {l : List TV} {K : List TC→List TC→List TV→Prop} (h : vC f l K) : ∃ a b r,l = .w (.one (.clo f a b)) :: r∧K a b r:=by
  replace h:=unconsV_elim h
  obtain ⟨x,r,rfl,h⟩:=h
  replace h:=asOneV_elim h
  obtain ⟨y,rfl,h⟩:=h
  cases y with
  | clo f' a b =>
    unfold isClo at h
    simp only [] at h
    split at h
    · rename_i e
      subst e
      exact ⟨a,b,r,rfl,h⟩
    · exact h.elim
  | _=>exact h.elim
theorem vA_elim {l : List TV} {K : List PC→List TV→Prop} (h : vA l K) : ∃ cs r,l = .w (.pagg cs) :: r∧K cs r:=by
  replace h:=unconsV_elim h
  obtain ⟨x,r,rfl,h⟩:=h
  cases x with
  | w a=>cases a with
    | pagg cs=>exact ⟨cs,r,rfl,h⟩
    | _=>exact h.elim
  | tup _=>exact h.elim
theorem vG_elim {l : List TV} {K : List TC→List TV→Prop} (h : vG l K) : ∃ cs r,l = .w (.agg cs) :: r∧K cs r:=by
  replace h:=unconsV_elim h
  obtain ⟨x,r,rfl,h⟩:=h
  cases x with
  | w a=>cases a with
    | agg cs=>exact ⟨cs,r,rfl,h⟩
    | _=>exact h.elim
  | tup _=>exact h.elim
theorem vU_elim {l : List TV} {K : List TV→Prop} (h : vU l K) : ∃ r,l = undefT :: r∧K r:=by
  replace h:=unconsV_elim h
  obtain ⟨x,r,rfl,h⟩:=h
  cases x with
  | w _=>exact h.elim
  | tup xs=>cases xs with
    | nil=>exact ⟨r,rfl,h⟩
    | cons _ _=>exact h.elim
def unconsT (l : List TC) (K : TC→List TC→Prop) : Prop:=match l with
  | x :: r=>K x r
  | []=>False
def nilT (l : List TC) (K : Prop) : Prop:=match l with
  | []=>K
  | _=>False
def isJunk (x : TC) (K : Prop) : Prop:=match x with
  | .junk=>K
  | _=>False
theorem unconsT_elim {l : List TC} {K : TC→List TC→Prop} (h : unconsT l K) : ∃ x r,l = x :: r∧K x r:=by
  cases l with
  | nil=>exact h.elim
  | cons x r=>exact ⟨x,r,rfl,h⟩
theorem nilT_elim {l : List TC} {K : Prop} (h : nilT l K) : l = []∧K:=by
  cases l with
  | nil=>exact ⟨rfl,h⟩
  | cons x r=>exact h.elim
def unconsH (l : List Entry) (K : Entry→List Entry→Prop) : Prop:=match l with
  | x :: r=>K x r
  | []=>False
def nilH (l : List Entry) (K : Prop) : Prop:=match l with
  | []=>K
  | _=>False
def isBox (x : Entry) (K : List TC→Prop) : Prop:=match x with
  | .box cs=>K cs
  | _=>False
def isPbox (x : Entry) (K : List PC→Prop) : Prop:=match x with
  | .pbox cs=>K cs
  | _=>False
def isVec (sz : Nat) (wr : Bool) (x : Entry) (K : List (List PC)→Prop) : Prop:=match x with
  | .vec sz' es wr'=>if sz' = sz∧wr' = wr then K es else False
  | _=>False
def isGone (x : Entry) (K : Prop) : Prop:=match x with
  | .gone=>K
  | _=>False
def hB (l : List Entry) (K : List TC→List Entry→Prop) : Prop:=unconsH l fun x r=>isBox x fun cs=>K cs r
def hP (l : List Entry) (K : List PC→List Entry→Prop) : Prop:=unconsH l fun x r=>isPbox x fun cs=>K cs r
def hV (sz : Nat) (wr : Bool) (l : List Entry) (K : List (List PC)→List Entry→Prop) : Prop:=unconsH l fun x r=>isVec sz wr x fun es=>K es r
def hG (l : List Entry) (K : List Entry→Prop) : Prop:=unconsH l fun x r=>isGone x (K r)
theorem unconsH_elim {l : List Entry} {K : Entry→List Entry→Prop} (h : unconsH l K) : ∃ x r,l = x :: r∧K x r:=by
  cases l with
  | nil=>exact h.elim
  | cons x r=>exact ⟨x,r,rfl,h⟩
theorem nilH_elim {l : List Entry} {K : Prop} (h : nilH l K) : l = []∧K:=by
  cases l with
  | nil=>exact ⟨rfl,h⟩
  | cons x r=>exact h.elim
theorem hB_elim {l : List Entry} {K : List TC→List Entry→Prop} (h : hB l K) : ∃ cs r,l = .box cs :: r∧K cs r:=by
  replace h:=unconsH_elim h
  obtain ⟨x,r,rfl,h⟩:=h
  cases x with
  | box cs=>exact ⟨cs,r,rfl,h⟩
  | _=>exact h.elim
theorem hP_elim {l : List Entry} {K : List PC→List Entry→Prop} (h : hP l K) : ∃ cs r,l = .pbox cs :: r∧K cs r:=by
  replace h:=unconsH_elim h
  obtain ⟨x,r,rfl,h⟩:=h
  cases x with
  | pbox cs=>exact ⟨cs,r,rfl,h⟩
  | _=>exact h.elim
theorem hV_elim {sz : Nat} {wr : Bool} {l : List Entry} {K : List (List PC)→List Entry→Prop} (h : hV sz wr l K) : ∃ es r,l = .vec sz es wr :: r∧K es r:=by
  replace h:=unconsH_elim h
  obtain ⟨x,r,rfl,h⟩:=h
  cases x with
  | vec sz' es wr' =>
    unfold isVec at h
    simp only [] at h
    split at h
    · rename_i e
      obtain ⟨rfl,rfl⟩:=e
      exact ⟨es,r,rfl,h⟩
    · exact h.elim
  | _=>exact h.elim
theorem hG_elim {l : List Entry} {K : List Entry→Prop} (h : hG l K) : ∃ r,l = .gone :: r∧K r:=by
  replace h:=unconsH_elim h
  obtain ⟨x,r,rfl,h⟩:=h
  cases x with
  | gone=>exact ⟨r,rfl,h⟩
  | _=>exact h.elim
def itP {X : Type} (R : X→(X→Prop)→Prop) : Nat→X→Prop
  | 0,_=>False
  | n + 1,x=>∀ N : X→Prop,(∀ y,itP R n y→N y)→R x N
structure LoopP {X : Type} (R : X→(X→Prop)→Prop) (x : X) : Prop where
  run : itP R rounds x
def iterG (f : St→(TExit→St→Prop)→Prop) (norm : St→St) (K : TExit→St→Prop) : Nat→St→Prop
  | 0,_=>False
  | n + 1,s=>f s fun e σ=>match e with
    | .normal=>iterG f norm K n (norm σ)
    | e=>K e σ
theorem iter_eq {f : St→(TExit→St→Prop)→Prop} {norm : St→St} {K : TExit→St→Prop} : ∀ (n : Nat) (σ : St),iter f norm n σ K = iterG f norm K n (norm σ)
  | 0,_=>rfl
  | n + 1,σ=>by
    unfold iter iterG
    congr 1
    funext e σ'
    cases e with
    | normal=>exact iter_eq n σ'
    | exit _=>rfl
    | ret=>rfl
def loopK (N : St→Prop) (norm : St→St) (K : TExit→St→Prop) : TExit→St→Prop:=fun e σ=>match e with
  | .normal=>N (norm σ)
  | e=>K e σ
theorem iter_of {X : Type} {f : St→(TExit→St→Prop)→Prop} {norm : St→St} {K : TExit→St→Prop} (mk : X→St) {R : X→(X→Prop)→Prop}
    (hR : ∀ (x : X) (N : St→Prop),R x (fun y=>N (mk y))→f (mk x) (loopK N norm K)) (n : Nat) (x : X) (σ : St) (hn : norm σ = mk x) (h : itP R n x) : iter f norm n σ K:=by
  have key : ∀ (n : Nat) (x : X),itP R n x→iterG f norm K n (mk x):=by
    intro n
    induction n with
    | zero=>exact fun _ h=>h
    | succ n ih =>
      intro x h
      have h1:=hR x (iterG f norm K n) (h _ fun y hy=>ih y hy)
      unfold iterG
      exact h1
  rw [iter_eq,hn]
  exact key n x h
def bodyOf (fn : Func) : Code:=match fn.body with
  | some c=>c
  | none=>.skip
def nthC (l : List Code) (i : Nat) : Code:=l.getD i .skip
def lookN {α : Type} (d : α) : List (Nat×α)→Nat→α
  | [],_=>d
  | (k,x) :: r,n=>bif k == n then x else lookN d r n
abbrev Told:=St→(TExit→St→Prop)→Prop
def lookL : List (Nat×Told)→Nat→Option Told
  | [],_=>none
  | (k,x) :: r,n=>bif k == n then some x else lookL r n
def hasL : List (Nat×Told)→Nat→Bool
  | [],_=>false
  | (k,_) :: r,n=>k == n || hasL r n
theorem lookL_none : ∀ {l : List (Nat×Told)} {k : Nat},hasL l k = false→lookL l k = none
  | [],_,_=>rfl
  | (j,x) :: r,k,h=>by
    simp only [hasL,Bool.or_eq_false_iff] at h
    simp only [lookL,h.1,cond_false]
    exact lookL_none h.2
def AllL {α : Type} (p : α→Prop) : List α→Prop
  | []=>True
  | x :: r=>p x∧AllL p r
theorem AllL.mem {α : Type} {p : α→Prop} : ∀ {l : List α},AllL p l→∀ x∈l,p x
  | [],_,x,h=>by cases h
  | y :: r,h,x,hx=>by
    rcases List.mem_cons.1 hx with rfl | hx
    · exact h.1
    · exact AllL.mem h.2 x hx
def LoopOk (C : Ctx) (b : Code) : Prop:=∀ σ K,∀ L,C.loops (loopKey b) = some L→L (normK C (loopKey b) σ) K→iter (execT C b) (normK C (loopKey b)) rounds σ fun e σ'=>K e (normOut C (loopKey b) e σ')
def TailOk (C : Ctx) (b : Code) : Prop:=∀ σ K,∀ J,C.loops (joinKey b) = some J→J (normK C (joinKey b) σ) K→execT C b (normK C (joinKey b) σ) fun e σ'=>K e (normOut C (joinKey b) e σ')
theorem LoopsOk.of {C : Ctx} {c : Code} (l : List Code) (he : bodies c = l) (h : AllL (LoopOk C) l) : LoopsOk C (bodies c):=by
  rw [he]
  exact fun b hb L hL σ K=>h.mem b hb σ K L hL
theorem TailsOk.of {C : Ctx} {c : Code} {tab : List (Nat×Told)} (ht : C.loops = lookL tab) (l : List Code) (he : (tails c).filter (fun b=>hasL tab (joinKey b)) = l) (h : AllL (TailOk C) l) : TailsOk C (tails c):=by
  intro b hb J hJ σ K
  cases hh : hasL tab (joinKey b) with
  | true=>exact h.mem b (by rw [← he]; exact List.mem_filter.2 ⟨hb,hh⟩) σ K J hJ
  | false=>rw [ht,lookL_none hh] at hJ; cases hJ
theorem LoopOk.of {C : Ctx} {b : Code} (L : Told) (hk : C.loops (loopKey b) = some L) (h : ∀ σ K,L (normK C (loopKey b) σ) K→iter (execT C b) (normK C (loopKey b)) rounds σ fun e σ'=>K e (normOut C (loopKey b) e σ')) : LoopOk C b:=by
  intro σ K L' hL' hh
  rw [hk] at hL'
  obtain rfl:=Option.some.inj hL'
  exact h σ K hh
theorem TailOk.of {C : Ctx} {b : Code} (L : Told) (hk : C.loops (joinKey b) = some L) (h : ∀ σ K,L (normK C (joinKey b) σ) K→execT C b (normK C (joinKey b) σ) fun e σ'=>K e (normOut C (joinKey b) e σ')) : TailOk C b:=by
  intro σ K L' hL' hh
  rw [hk] at hL'
  obtain rfl:=Option.some.inj hL'
  exact h σ K hh
def sigPC : PC→Nat
  | .c v=>match v with
    | .int _ _=>2
    | .bool _=>3
    | .string _=>4
    | .func f _ _=>match f with
      | .func g=>1000 + g
      | _=>6
    | _=>6
  | .sl _ _ _=>5
def sigTC : TC→Nat
  | .p x=>sigPC x
  | .ref b _ _=>100 + b
  | .ptr b _ _=>200 + b
  | .fptr _ _=>9
  | .clo f _ _=>100000 + f
  | .mref b=>500 + b
  | .junk=>0
def sigTV : TV→List Nat
  | .w x=>match x with
    | .one y=>[sigTC y]
    | .agg xs=>11 :: xs.map sigTC
    | .pagg _=>[10]
  | .tup _=>[1]
def sigE : Entry→List Nat
  | .box cs=>20 :: cs.map sigTC
  | .pbox _=>[21]
  | .vec _ _ wr=>bif wr then [22] else [23]
  | .gone=>[24]
  | .mp _ _ _=>[25]
  | .mit _ _ _ _ _=>[26]
def sigOf (l : List TV) (H : List Entry) : List Nat:=l.flatMap sigTV ++ (7 :: H.flatMap sigE)
def isSig : List Nat→List Nat→Bool
  | [],[]=>true
  | x :: r,y :: s=>x == y && isSig r s
  | _,_=>false
theorem FnOk.or {P : Program} {G : Nat→Option (List PC)} {g : FuncId} {f0 f1 : List TV→List Entry→(TV→List Entry→Prop)→Prop} (b : List TV→List Entry→Bool) (h0 : FnOk P G g f0) (h1 : FnOk P G g f1) :
    FnOk P G g (fun args H K=>bif b args H then f0 args H K else f1 args H K):=fun args H K h=>by
  dsimp only at h
  cases hb : b args H with
  | true=>rw [hb] at h; exact h0 args H K h
  | false=>rw [hb] at h; exact h1 args H K h
end Go.Eng
namespace Go.Eng
inductive PatF where
  | int (k : IntKind)
  | bool
  | str
  | sl (sz : Nat)
  | nil (sz : Nat)
  | fn (f : FuncId)
  | ref (b : Nat)
  | ptr (b i o : Nat)
  | mref (b : Nat)
  | junk
abbrev PatF.T : PatF→Type
  | .int _=>Int
  | .bool=>Bool
  | .str=>ByteArray
  | .sl _=>List (List PC)×Bool
  | .ref _=>Nat×Nat
  | _=>Unit
def isMref (b : Nat) (x : TC) (K : Prop) : Prop:=match x with
  | .mref b'=>if b' = b then K else False
  | _=>False
theorem isMref_elim {b : Nat} {x : TC} {K : Prop} (h : isMref b x K) : x = .mref b∧K:=by
  unfold isMref at h
  cases x with
  | mref b' =>
    simp only [] at h
    split at h
    · rename_i e; subst e; exact ⟨rfl,h⟩
    · exact h.elim
  | _=>exact h.elim
def PatF.mkP : (p : PatF)→p.T→PC
  | .int k,n=>.c (.int k n)
  | .bool,b=>.c (.bool b)
  | .str,s=>.c (.string s)
  | .sl sz,x=>.sl sz x.1 x.2
  | .nil sz,_=>.sl sz [] true
  | .fn f,_=>.c (.func (.func f) #[] #[])
  | _,_=>.c undef
def PatF.mk : (p : PatF)→p.T→TC
  | .ref b,x=>.ref b x.1 x.2
  | .ptr b i o,_=>.ptr b i o
  | .mref b,_=>.mref b
  | .junk,_=>.junk
  | .int k,n=>.p (.c (.int k n))
  | .bool,b=>.p (.c (.bool b))
  | .str,s=>.p (.c (.string s))
  | .sl sz,x=>.p (.sl sz x.1 x.2)
  | .nil sz,_=>.p (.sl sz [] true)
  | .fn f,_=>.p (.c (.func (.func f) #[] #[]))
def PatF.getP : (p : PatF)→PC→(p.T→Prop)→Prop
  | .int k,x,K=>asIntC k x K
  | .bool,x,K=>asBoolC x K
  | .str,x,K=>asStrC x K
  | .sl sz,x,K=>asSlC sz x fun es full=>K (es,full)
  | .nil sz,x,K=>isNilS sz x (K ())
  | .fn f,x,K=>isFun f x (K ())
  | _,_,_=>False
def PatF.get : (p : PatF)→TC→(p.T→Prop)→Prop
  | .ref b,x,K=>isRef b x fun i n=>K (i,n)
  | .ptr b i o,x,K=>isPtr b i o x (K ())
  | .mref b,x,K=>isMref b x (K ())
  | .junk,x,K=>isJunk x (K ())
  | .int k,x,K=>asPV x fun y=>asIntC k y K
  | .bool,x,K=>asPV x fun y=>asBoolC y K
  | .str,x,K=>asPV x fun y=>asStrC y K
  | .sl sz,x,K=>asPV x fun y=>asSlC sz y fun es full=>K (es,full)
  | .nil sz,x,K=>asPV x fun y=>isNilS sz y (K ())
  | .fn f,x,K=>asPV x fun y=>isFun f y (K ())
theorem isNilS_elim {sz : Nat} {x : PC} {K : Prop} (h : isNilS sz x K) : x = .sl sz [] true∧K:=by
  have h1 : vN sz [.w (.one (.p x))] fun q=>K:=h
  obtain ⟨_,h2,h3⟩:=vN_elim h1
  simp only [List.cons.injEq,TV.w.injEq,TW.one.injEq,TC.p.injEq] at h2
  exact ⟨h2.1,h3⟩
theorem isFun_elim {f : FuncId} {x : PC} {K : Prop} (h : isFun f x K) : x = .c (.func (.func f) #[] #[])∧K:=by
  have h1 : vF f [.w (.one (.p x))] fun q=>K:=h
  obtain ⟨_,h2,h3⟩:=vF_elim h1
  simp only [List.cons.injEq,TV.w.injEq,TW.one.injEq,TC.p.injEq] at h2
  exact ⟨h2.1,h3⟩
theorem isRef_elim {b : Nat} {x : TC} {K : Nat→Nat→Prop} (h : isRef b x K) : ∃ i n,x = .ref b i n∧K i n:=by
  have h1 : vR b [.w (.one x)] fun i n q=>K i n:=h
  obtain ⟨i,n,_,h2,h3⟩:=vR_elim h1
  simp only [List.cons.injEq,TV.w.injEq,TW.one.injEq] at h2
  exact ⟨i,n,h2.1,h3⟩
theorem isPtr_elim {b i o : Nat} {x : TC} {K : Prop} (h : isPtr b i o x K) : x = .ptr b i o∧K:=by
  have h1 : vP b i o [.w (.one x)] fun q=>K:=h
  obtain ⟨_,h2,h3⟩:=vP_elim h1
  simp only [List.cons.injEq,TV.w.injEq,TW.one.injEq] at h2
  exact ⟨h2.1,h3⟩
theorem isJunk_elim {x : TC} {K : Prop} (h : isJunk x K) : x = .junk∧K:=by
  cases x with
  | junk=>exact ⟨rfl,h⟩
  | _=>exact h.elim
theorem PatF.getP_elim : ∀ {p : PatF} {x : PC} {K : p.T→Prop},p.getP x K→∃ t,x = p.mkP t∧K t
  | .int k,x,K,h=>asIntC_elim h
  | .bool,x,K,h=>asBoolC_elim h
  | .str,x,K,h=>asStrC_elim h
  | .sl sz,x,K,h=>by
    obtain ⟨es,full,e,h⟩:=asSlC_elim h
    exact ⟨(es,full),e,h⟩
  | .nil sz,x,K,h=>⟨(),isNilS_elim h⟩
  | .fn f,x,K,h=>⟨(),isFun_elim h⟩
  | .ref _,_,_,h=>h.elim
  | .ptr _ _ _,_,_,h=>h.elim
  | .mref _,_,_,h=>h.elim
  | .junk,_,_,h=>h.elim
theorem PatF.get_elim : ∀ {p : PatF} {x : TC} {K : p.T→Prop},p.get x K→∃ t,x = p.mk t∧K t
  | .ref b,x,K,h=>by
    obtain ⟨i,n,e,h⟩:=isRef_elim h
    exact ⟨(i,n),e,h⟩
  | .ptr b i o,x,K,h=>⟨(),isPtr_elim h⟩
  | .mref b,x,K,h=>⟨(),isMref_elim h⟩
  | .junk,x,K,h=>⟨(),isJunk_elim h⟩
  | .int k,x,K,h=>by
    obtain ⟨y,rfl,h1⟩:=asPV_elim h
    obtain ⟨n,rfl,h2⟩:=asIntC_elim h1
    exact ⟨n,rfl,h2⟩
  | .bool,x,K,h=>by
    obtain ⟨y,rfl,h1⟩:=asPV_elim h
    obtain ⟨n,rfl,h2⟩:=asBoolC_elim h1
    exact ⟨n,rfl,h2⟩
  | .str,x,K,h=>by
    obtain ⟨y,rfl,h1⟩:=asPV_elim h
    obtain ⟨n,rfl,h2⟩:=asStrC_elim h1
    exact ⟨n,rfl,h2⟩
  | .sl sz,x,K,h=>by
    obtain ⟨y,rfl,h1⟩:=asPV_elim h
    obtain ⟨es,full,rfl,h2⟩:=asSlC_elim h1
    exact ⟨(es,full),rfl,h2⟩
  | .nil sz,x,K,h=>by
    obtain ⟨y,rfl,h1⟩:=asPV_elim h
    obtain ⟨rfl,h2⟩:=isNilS_elim h1
    exact ⟨(),rfl,h2⟩
  | .fn f,x,K,h=>by
    obtain ⟨y,rfl,h1⟩:=asPV_elim h
    obtain ⟨rfl,h2⟩:=isFun_elim h1
    exact ⟨(),rfl,h2⟩
abbrev PFs : List PatF→Type
  | []=>Unit
  | p :: r=>p.T×PFs r
def mkPs : (l : List PatF)→PFs l→List PC
  | [],_=>[]
  | p :: r,x=>p.mkP x.1 :: mkPs r x.2
def mkTs : (l : List PatF)→PFs l→List TC
  | [],_=>[]
  | p :: r,x=>p.mk x.1 :: mkTs r x.2
def getPs : (l : List PatF)→List PC→(PFs l→Prop)→Prop
  | [],cs,K=>nilC cs (K ())
  | p :: r,cs,K=>unconsC cs fun c cs=>p.getP c fun t=>getPs r cs fun ts=>K (t,ts)
def getTs : (l : List PatF)→List TC→(PFs l→Prop)→Prop
  | [],cs,K=>nilT cs (K ())
  | p :: r,cs,K=>unconsT cs fun c cs=>p.get c fun t=>getTs r cs fun ts=>K (t,ts)
theorem getPs_elim : ∀ {l : List PatF} {cs : List PC} {K : PFs l→Prop},getPs l cs K→∃ t,cs = mkPs l t∧K t
  | [],cs,K,h=>⟨(),nilC_elim h⟩
  | p :: r,cs,K,h=>by
    obtain ⟨c,cs,rfl,h1⟩:=unconsC_elim h
    obtain ⟨t,rfl,h2⟩:=PatF.getP_elim h1
    obtain ⟨ts,rfl,h3⟩:=getPs_elim h2
    exact ⟨(t,ts),rfl,h3⟩
theorem getTs_elim : ∀ {l : List PatF} {cs : List TC} {K : PFs l→Prop},getTs l cs K→∃ t,cs = mkTs l t∧K t
  | [],cs,K,h=>⟨(),nilT_elim h⟩
  | p :: r,cs,K,h=>by
    obtain ⟨c,cs,rfl,h1⟩:=unconsT_elim h
    obtain ⟨t,rfl,h2⟩:=PatF.get_elim h1
    obtain ⟨ts,rfl,h3⟩:=getTs_elim h2
    exact ⟨(t,ts),rfl,h3⟩
inductive PatV where
  | one (p : PatF)
  | clo (f : FuncId) (a b : List PatF)
  | agg (l : List PatF)
  | pagg (l : List PatF)
  | cells
  | undef
abbrev PatV.T : PatV→Type
  | .one p=>p.T
  | .clo _ a b=>PFs a×PFs b
  | .agg l=>PFs l
  | .pagg l=>PFs l
  | .cells=>List PC
  | .undef=>Unit
def PatV.mk : (p : PatV)→p.T→TV
  | .one p,x=>.w (.one (p.mk x))
  | .clo f a b,x=>.w (.one (.clo f (mkTs a x.1) (mkTs b x.2)))
  | .agg l,x=>.w (.agg (mkTs l x))
  | .pagg l,x=>.w (.pagg (mkPs l x))
  | .cells,x=>.w (.pagg x)
  | .undef,_=>undefT
def PatV.get : (p : PatV)→TV→(p.T→Prop)→Prop
  | .one p,v,K=>asOneV v fun x=>p.get x K
  | .clo f a b,v,K=>asOneV v fun x=>isClo f x fun fs cs=>getTs a fs fun s=>getTs b cs fun t=>K (s,t)
  | .agg l,v,K=>asAgg v fun cs=>getTs l cs K
  | .pagg l,v,K=>asPagg v fun cs=>getPs l cs K
  | .cells,v,K=>asPagg v K
  | .undef,v,K=>isUndef v (K ())
theorem PatV.get_elim : ∀ {p : PatV} {v : TV} {K : p.T→Prop},p.get v K→∃ t,v = p.mk t∧K t
  | .one p,v,K,h=>by
    obtain ⟨x,rfl,h1⟩:=asOneV_elim h
    obtain ⟨t,rfl,h2⟩:=PatF.get_elim h1
    exact ⟨t,rfl,h2⟩
  | .clo f a b,v,K,h=>by
    have h1 : vC f [v] (fun fs cs q=>getTs a fs fun s=>getTs b cs fun t=>K (s,t)):=h
    obtain ⟨fs,cs,r,e,h2⟩:=vC_elim h1
    simp only [List.cons.injEq] at e
    obtain ⟨rfl,_⟩:=e
    obtain ⟨s,rfl,h3⟩:=getTs_elim h2
    obtain ⟨t,rfl,h4⟩:=getTs_elim h3
    exact ⟨(s,t),rfl,h4⟩
  | .agg l,v,K,h=>by
    have h1 : vG [v] (fun cs q=>getTs l cs K):=h
    obtain ⟨cs,r,e,h2⟩:=vG_elim h1
    simp only [List.cons.injEq] at e
    obtain ⟨rfl,_⟩:=e
    obtain ⟨s,rfl,h3⟩:=getTs_elim h2
    exact ⟨s,rfl,h3⟩
  | .pagg l,v,K,h=>by
    have h1 : vA [v] (fun cs q=>getPs l cs K):=h
    obtain ⟨cs,r,e,h2⟩:=vA_elim h1
    simp only [List.cons.injEq] at e
    obtain ⟨rfl,_⟩:=e
    obtain ⟨s,rfl,h3⟩:=getPs_elim h2
    exact ⟨s,rfl,h3⟩
  | .cells,v,K,h=>by
    have h1 : vA [v] (fun cs q=>K cs):=h
    obtain ⟨cs,r,e,h2⟩:=vA_elim h1
    simp only [List.cons.injEq] at e
    exact ⟨cs,e.1,h2⟩
  | .undef,v,K,h=>by
    have h1 : vU [v] (fun q=>K ()):=h
    obtain ⟨r,e,h2⟩:=vU_elim h1
    simp only [List.cons.injEq] at e
    exact ⟨(),e.1,h2⟩
inductive PatR where
  | skip (n : Nat)
  | v (p : PatV)
abbrev PatR.T : PatR→Type
  | .skip _=>Unit
  | .v p=>p.T
abbrev PRs : List PatR→Type
  | []=>Unit
  | p :: r=>p.T×PRs r
def mkR : (l : List PatR)→PRs l→List TV
  | [],_=>[]
  | .skip n :: r,x=>List.replicate n junk ++ mkR r x.2
  | .v p :: r,x=>p.mk x.1 :: mkR r x.2
def getR : (l : List PatR)→List TV→(PRs l→Prop)→Prop
  | [],vs,K=>nilV vs (K ())
  | .skip n :: r,vs,K=>vJ n vs fun vs=>getR r vs fun ts=>K ((),ts)
  | .v p :: r,vs,K=>unconsV vs fun v vs=>p.get v fun t=>getR r vs fun ts=>K (t,ts)
theorem getR_elim : ∀ {l : List PatR} {vs : List TV} {K : PRs l→Prop},getR l vs K→∃ t,vs = mkR l t∧K t
  | [],vs,K,h=>⟨(),nilV_elim h⟩
  | .skip n :: r,vs,K,h=>by
    obtain ⟨vs,rfl,h1⟩:=vJ_elim h
    obtain ⟨ts,rfl,h3⟩:=getR_elim h1
    exact ⟨((),ts),rfl,h3⟩
  | .v p :: r,vs,K,h=>by
    obtain ⟨v,vs,rfl,h1⟩:=unconsV_elim h
    obtain ⟨t,rfl,h2⟩:=PatV.get_elim h1
    obtain ⟨ts,rfl,h3⟩:=getR_elim h2
    exact ⟨(t,ts),rfl,h3⟩
inductive PatE where
  | box (l : List PatF)
  | pbox
  | vec (sz : Nat) (wr : Bool)
  | mp (kt : CK) (ag : Bool)
  | mit (b : Nat) (et : TypeId)
  | gone
def isMp (kt : CK) (ag : Bool) (x : Entry) (K : MP→Prop) : Prop:=match x with
  | .mp kt' ag' es=>if kt' = kt∧ag' = ag then K es else False
  | _=>False
theorem isMp_elim {kt : CK} {ag : Bool} {x : Entry} {K : MP→Prop} (h : isMp kt ag x K) : ∃ es,x = .mp kt ag es∧K es:=by
  unfold isMp at h
  cases x with
  | mp kt' ag' es =>
    simp only [] at h
    split at h
    · rename_i e
      obtain ⟨rfl,rfl⟩:=e
      exact ⟨es,rfl,h⟩
    · exact h.elim
  | _=>exact h.elim
def isMit (b : Nat) (et : TypeId) (x : Entry) (K : Nat×List Nat×Nat→Prop) : Prop:=match x with
  | .mit (some b') et' s l z=>if b' = b∧et' = et then K (s,l,z) else False
  | _=>False
theorem isMit_elim {b : Nat} {et : TypeId} {x : Entry} {K : Nat×List Nat×Nat→Prop} (h : isMit b et x K) : ∃ t,x = .mit (some b) et t.1 t.2.1 t.2.2∧K t:=by
  unfold isMit at h
  split at h
  · split at h
    · rename_i e
      obtain ⟨rfl,rfl⟩:=e
      exact ⟨_,rfl,h⟩
    · exact h.elim
  · exact h.elim
abbrev PatE.T : PatE→Type
  | .box l=>PFs l
  | .pbox=>List PC
  | .vec _ _=>List (List PC)
  | .mp _ _=>MP
  | .mit _ _=>Nat×List Nat×Nat
  | .gone=>Unit
def PatE.mk : (p : PatE)→p.T→Entry
  | .box l,x=>.box (mkTs l x)
  | .pbox,x=>.pbox x
  | .vec sz wr,x=>.vec sz x wr
  | .mp kt ag,x=>.mp kt ag x
  | .mit b et,x=>.mit (some b) et x.1 x.2.1 x.2.2
  | .gone,_=>.gone
def PatE.get : (p : PatE)→Entry→(p.T→Prop)→Prop
  | .box l,e,K=>isBox e fun cs=>getTs l cs K
  | .pbox,e,K=>isPbox e K
  | .vec sz wr,e,K=>isVec sz wr e K
  | .mp kt ag,e,K=>isMp kt ag e K
  | .mit b et,e,K=>isMit b et e K
  | .gone,e,K=>isGone e (K ())
theorem PatE.get_elim : ∀ {p : PatE} {v : Entry} {K : p.T→Prop},p.get v K→∃ t,v = p.mk t∧K t
  | .box l,v,K,h=>by
    have h1 : hB [v] (fun cs q=>getTs l cs K):=h
    obtain ⟨cs,r,e,h2⟩:=hB_elim h1
    simp only [List.cons.injEq] at e
    obtain ⟨rfl,_⟩:=e
    obtain ⟨s,rfl,h3⟩:=getTs_elim h2
    exact ⟨s,rfl,h3⟩
  | .pbox,v,K,h=>by
    have h1 : hP [v] (fun cs q=>K cs):=h
    obtain ⟨cs,r,e,h2⟩:=hP_elim h1
    simp only [List.cons.injEq] at e
    exact ⟨cs,e.1,h2⟩
  | .vec sz wr,v,K,h=>by
    have h1 : hV sz wr [v] (fun cs q=>K cs):=h
    obtain ⟨cs,r,e,h2⟩:=hV_elim h1
    simp only [List.cons.injEq] at e
    exact ⟨cs,e.1,h2⟩
  | .mp kt ag,v,K,h=>isMp_elim h
  | .mit b et,v,K,h=>isMit_elim h
  | .gone,v,K,h=>by
    have h1 : hG [v] (fun q=>K ()):=h
    obtain ⟨r,e,h2⟩:=hG_elim h1
    simp only [List.cons.injEq] at e
    exact ⟨(),e.1,h2⟩
abbrev PEs : List PatE→Type
  | []=>Unit
  | p :: r=>p.T×PEs r
def mkE : (l : List PatE)→PEs l→List Entry
  | [],_=>[]
  | p :: r,x=>p.mk x.1 :: mkE r x.2
def getE : (l : List PatE)→List Entry→(PEs l→Prop)→Prop
  | [],vs,K=>nilH vs (K ())
  | p :: r,vs,K=>unconsH vs fun v vs=>p.get v fun t=>getE r vs fun ts=>K (t,ts)
theorem getE_elim : ∀ {l : List PatE} {vs : List Entry} {K : PEs l→Prop},getE l vs K→∃ t,vs = mkE l t∧K t
  | [],vs,K,h=>⟨(),nilH_elim h⟩
  | p :: r,vs,K,h=>by
    obtain ⟨v,vs,rfl,h1⟩:=unconsH_elim h
    obtain ⟨t,rfl,h2⟩:=PatE.get_elim h1
    obtain ⟨ts,rfl,h3⟩:=getE_elim h2
    exact ⟨(t,ts),rfl,h3⟩
def getS (l : List PatR) (m : List PatE) (tm : List TV) (hp : List Entry) (K : PRs l→PEs m→Prop) : Prop:=getR l tm fun x=>getE m hp fun y=>K x y
theorem getS_elim {l : List PatR} {m : List PatE} {tm : List TV} {hp : List Entry} {K : PRs l→PEs m→Prop} (h : getS l m tm hp K) : ∃ x y,tm = mkR l x∧hp = mkE m y∧K x y:=by
  obtain ⟨x,e1,h1⟩:=getR_elim h
  obtain ⟨y,e2,h2⟩:=getE_elim h1
  exact ⟨x,y,e1,e2,h2⟩
end Go.Eng
