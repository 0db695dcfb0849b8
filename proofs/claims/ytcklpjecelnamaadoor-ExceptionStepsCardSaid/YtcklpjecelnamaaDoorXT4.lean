/- Exceptions: the law of steps. -/
import Derived.Test.YtcklpjecelnamaaDoorXP
import Derived.Test.YtcklpjecelnamaaDoorFn3
import Derived.Test.YtcklpjecelnamaaDoorFn2
set_option linter.unusedVariables false
set_option linter.unusedSimpArgs false
namespace Go.Eng.N
open Go Go.Eng
theorem chg_sub (g : Int→Int×Int×Int) : ∀ (ms : List Int) (p : Int×Int×Int),(chg g ms p).Sublist ms
  | [],_=>List.Sublist.refl _
  | m :: r,p=>by
    rw [chg_s]
    split
    · exact (chg_sub g r _).cons_cons m
    · exact (chg_sub g r _).cons m
theorem chg_mem (g : Int→Int×Int×Int) : ∀ (n : Nat) (a : Int) (p : Int×Int×Int) (x : Int),x∈chg g ((List.range n).map fun (i : Nat)=>a + (i : Int)) p↔(a≤x∧x < a + n∧g x≠(if x = a then p else g (x - 1)))
  | 0,a,p,x=>by
    rw [show chg g ((List.range 0).map fun (i : Nat)=>a + (i : Int)) p = [] from rfl]
    constructor
    · intro h; cases h
    · intro h; omega
  | n + 1,a,p,x=>by
    have e : ((List.range (n + 1)).map fun (i : Nat)=>a + (i : Int)) = a :: ((List.range n).map fun (i : Nat)=>(a + 1) + (i : Int)):=by
      rw [List.range_succ_eq_map,List.map_cons,List.map_map]
      congr 1
      · simp
      · apply List.map_congr_left
        intro b _
        simp only [Function.comp]
        omega
    rw [e,chg_s]
    have ih:=chg_mem g n (a + 1) (g a) x
    have h2 : ∀ y,y = a + 1→g (y - 1) = g a:=fun y h=>by rw [h]; congr 1; omega
    by_cases hx : x = a
    · subst hx
      rw [if_pos rfl]
      have hn : ¬ x∈chg g ((List.range n).map fun (i : Nat)=>x + 1 + (i : Int)) (g x):=fun z=>by have:=(ih.1 z).1; omega
      by_cases hg : g x≠p
      · rw [if_pos hg]
        exact ⟨fun _=>⟨by omega,by omega,hg⟩,fun _=>by simp⟩
      · rw [if_neg hg]
        exact ⟨fun z=>absurd z hn,fun z=>absurd z.2.2 hg⟩
    · rw [if_neg hx]
      have ih2 : x∈chg g ((List.range n).map fun (i : Nat)=>a + 1 + (i : Int)) (g a)↔(a≤x∧x < a + ((n + 1 : Nat) : Int)∧g x≠g (x - 1)):=by
        rw [ih]
        by_cases hx1 : x = a + 1
        · rw [if_pos hx1,h2 x hx1]
          constructor
          · rintro ⟨a1,a2,a3⟩; exact ⟨by omega,by omega,a3⟩
          · rintro ⟨a1,a2,a3⟩; exact ⟨by omega,by omega,a3⟩
        · rw [if_neg hx1]
          constructor
          · rintro ⟨a1,a2,a3⟩; exact ⟨by omega,by omega,a3⟩
          · rintro ⟨a1,a2,a3⟩; exact ⟨by omega,by omega,a3⟩
      split
      · rw [List.mem_cons,ih2]
        exact ⟨fun z=>z.resolve_left hx,.inr⟩
      · exact ih2
theorem chgV_inc (l : List Exc) (all : List Cal) (day : Int) : (chgV l all day).Pairwise (· < ·):=by
  refine List.Pairwise.sublist (chg_sub _ _ _) ?_
  unfold mins1440 rangeZ
  rw [List.pairwise_map]
  exact List.pairwise_lt_range.imp fun h=>by omega
theorem chgV_mem (l : List Exc) (all : List Cal) (day : Int) {m : Int} (h1 : 1≤m) (h2 : m < 1440) : m∈chgV l all day↔gv l all day m≠gv l all day (m - 1):=by
  unfold chgV
  have e0 : mins1440 = (List.range 1440).map fun (i : Nat)=>(0 : Int) + (i : Int):=by
    unfold mins1440 rangeZ
    apply List.map_congr_left
    intro a _
    omega
  rw [e0,chg_mem,if_neg (by omega)]
  exact ⟨fun z=>z.2.2,fun z=>⟨by omega,h2,z⟩⟩
theorem f4_p27_sp {c : List Int} (hc : c.Pairwise (· < ·)) (hl : c.length < 2 ^ 40) {j : Nat} (hj : j < c.length) {a1 a2 a3 a4 a5 b1 b2 b3 b4 : Int} {f x : Bool} {K : Bool→Prop} {L : Unit→Prop} (h : L ()) :
    f4_p27 a1 (c.map zc) f a2 a3 a4 a5 x (j : Int) b1 b2 b3 b4 K L:=by
  unfold f4_p27
  refine bB_d (fun q=>?_) fun _=>h
  rw [w64_in (by omega) (by omega)]
  rw [List.length_map]
  refine ⟨by omega,?_⟩
  rw [show Int.toNat ((j : Int) - 1) = j - 1 from by omega,toNat_c,getD_map _ _ _ (by omega : j - 1 < c.length),getD_map _ _ _ hj]
  have:=List.pairwise_iff_getElem.1 hc (j - 1) j (by omega) hj (by omega)
  generalize c[j] = y at this ⊢
  generalize c[j - 1] = z at this ⊢
  simp only [zc,ext_0,ext_s,ext_z,cS_c,cI_c,cB_c,cL_c,cO_c,oS_c,oI_c,oB_c,oL_c,nilC_c,toNat_c]
  exact ⟨by omega,bB_f (decide_eq_false (by omega)) h⟩
theorem gv_ne {l : List Exc} {all : List Cal} {day m m' : Int} {x : Bool} (h : x = decide (gv l all day m'≠gv l all day m)) {K : Bool→Prop} (hK : K true) :
    bB ((gv l all day m).1 != (gv l all day m').1) (K (x == true)) (K (x == (!(((gv l all day m).2.1 == (gv l all day m').2.1) && (((gv l all day m).2.2 == (gv l all day m').2.2) && true))))):=by
  subst h
  rw [two]
  generalize gv l all day m = a
  generalize gv l all day m' = b
  have hn:=ne3 (a:=b) (b:=a)
  refine bB_n (fun z=>?_) fun z=>?_
  · rw [decide_eq_true (hn.2 (.inl fun y=>z y.symm))]; exact hK
  · refine K_eq hK ?_
    rw [eq_comm,beq_iff_eq]
    refine decide_eq_decide.2 ?_
    rw [hn]
    constructor
    · rintro (y | y)
      · exact absurd z.symm y
      · exact fun w=>y ⟨w.1.symm,w.2.symm⟩
    · exact fun y=>.inr fun w=>y ⟨w.1.symm,w.2.symm⟩
theorem f4_p20_sp {c : List Int} (hinc : c.Pairwise (· < ·)) (hlen : c.length≤1440) {m a2 a3 a4 a5 b1 b2 b3 b4 : Int} {f : Bool} {K L : Bool→Prop} (fin : ∀ x : Bool,x = decide (m∈c)→L x) : f4_p20 m (c.map zc) f a2 a3 a4 a5 b1 b2 b3 b4 K L (false,0):=by
  unfold f4_p20
  refine LoopP.inv c.length (fun j x=>x.1 = decide (m∈c.take j)∧x.2 = (j : Int)) 0 ⟨rfl,rfl⟩ (Nat.zero_le _) (by omega) ?_ ?_
  · rintro j ⟨b,t⟩ _ hj ⟨hb,ht⟩ N hN
    dsimp only at hb ht
    subst ht
    unfold f4_p20b0
    dsimp only
    rw [w64_s j (by omega)]
    refine bB_t (ltM _ _ hj) ?_
    have e : decide (m∈c.take (j + 1)) = (b || decide (c[j] = m)):=by
      rw [hb,List.take_succ_eq_append_getElem hj,← Bool.decide_or]
      refine decide_eq_decide.2 ?_
      rw [List.mem_append,List.mem_singleton]
      exact ⟨fun z=>z.elim .inl fun y=>.inr y.symm,fun z=>z.elim .inl fun y=>.inr y.symm⟩
    cases b with
    | true=>exact bB_t rfl (f4_p27_sp hinc (by omega) hj (hN _ ⟨e.symm,rfl⟩))
    | false =>
      refine bB_f rfl ⟨rngM _ _ hj,?_⟩
      rw [toNat_c,getD_map _ _ _ hj]
      rw [Bool.false_or] at e
      generalize hy : c[j] = y at e ⊢
      simp only [zc,ext_0,ext_s,ext_z,cS_c,cI_c,cB_c,cL_c,cO_c,oS_c,oI_c,oB_c,oL_c,nilC_c,toNat_c]
      rw [beqD]
      exact f4_p27_sp hinc (by omega) hj (hN _ ⟨e.symm,rfl⟩)
  · rintro ⟨b,t⟩ ⟨hb,ht⟩ N
    dsimp only at hb ht
    subst ht
    unfold f4_p20b0
    dsimp only
    rw [List.take_length] at hb
    exact bB_f (stopM _ _) (fin b hb)
theorem f4_p7_sp {l : List Exc} {all : List Cal} {f g : Bool} (hs : Sm l all) {day m : Int} (h1 : 1≤m) (h2 : m < 1440) {K : Bool→Prop} (h : K true) : f4_p7 (l.map Exc.c) f (all.map Cal.c) g day m K:=by
  unfold f4_p7
  refine f13_ok hs ?_
  by_cases hd : chkD l all day = 0
  rotate_left
  · rw [if_neg hd]
    exact bB_n (fun _=>f8_ok h) fun z=>absurd z hd
  rw [if_pos hd]
  refine bB_f rfl ?_
  rw [w64_in (by omega) (by omega)]
  refine f14_ok hs ?_
  rw [if_pos hd,if_pos (by omega)]
  refine f14_ok hs ?_
  rw [if_pos hd,if_pos (by omega)]
  have hlen : (chgV l all day).length≤1440:=Nat.le_trans (chg_len (gv l all day) mins1440 (prev l all day)) (Nat.le_of_eq mins_len)
  exact f4_p20_sp (chgV_inc l all day) hlen fun x hx=>f8_ok (bB_t rfl (bB_t rfl (bB_t rfl (gv_ne (hx.trans (decide_eq_decide.2 (chgV_mem l all day h1 h2))) h))))
theorem f4_ok {l : List Exc} {all : List Cal} {f g : Bool} (he : ∀ x∈l,x.es.length≤2 ^ 48) (hc : ∀ c∈all,c.ps.length≤2 ^ 48) {day m : Int} {K : Bool→Prop} (h : K true) : f4 (l.map Exc.c) f (all.map Cal.c) g day m K:=by
  refine ⟨?_⟩
  unfold f4_d
  exact f12_ok he hc (bB_not (bB_of (fun q=>bB_d (fun _=>f8_ok h) fun q1=>bB_d (fun _=>f8_ok h) fun q2=>f6_ok (bB_not (bB_of (fun _=>f4_p7_sp (smB_t q) (by omega) (by omega) h) fun _=>f8_ok h))) fun _=>f8_ok h))
end Go.Eng.N
