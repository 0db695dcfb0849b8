/- The law of the limits. -/
import Derived.Test.YtbecejhjdagkdaaLQ4
import Derived.Test.YtbecejhjdagkdaaLx10
set_option linter.unusedVariables false
set_option linter.unusedSimpArgs false
set_option maxRecDepth 100000
namespace Go.Proofs.Ytbecejhjdagkdaa.PL
open Go.RowKit Go.Proofs.Ytbecejhjdagkdaa.L Go.Proofs.YtbecejhjdagkdaaW.PrintWords Go.Proofs.YtbecejhjdagkdaaW.PrintLast Go.Proofs.YtbecejhjdagkdaaW.PrintMore

theorem awake_n : plenumlaw55_awake.f 1500 = some true:=by decide +kernel
theorem awake_f {k : Nat} (hk : 1500 ≤ k) : plenumlaw55_awake.f k = some true:=by
  obtain ⟨g,hg⟩ : ∃ g : Nat→Option Bool,∀ k,g k = plenumlaw55_awake.f k:=⟨_,fun k => rfl⟩
  obtain ⟨n,hn⟩ : ∃ n,n = 1500:=⟨_,rfl⟩
  have h : plenumlaw55_awake.f n = some true:=by
    rw [hn]
    exact awake_n
  have hm : ∀ k,LeO (g k) (g (k + 1)):=fun k => by
    rw [hg,hg]
    exact plenumlaw55_awake.mono k
  rw [← hg] at h ⊢
  exact up_to hm h k (by omega)
theorem inst_f {x : Int} (h1 : 0 ≤ x) (h2 : x ≤ 6311433599) : leadlag_instant.f x = some true:=by
  unfold leadlag_instant.f
  rw [if_pos (by omega),decide_eq_true (by omega)]
/-- A machine as the watch wants it. -/
def Ok (u : S62) : Prop:=0 ≤ u.f0∧u.f0 ≤ 6311433599∧(u.f1 = true→u.f2 = false)
theorem bad_f {u : S62} (h : Ok u) : leadlag_Check_1.f u.f0 u.f1 u.f2 = some false:=by
  obtain ⟨h1,h2,h3⟩:=h
  unfold leadlag_Check_1.f
  rw [inst_f h1 h2]
  simp only [Option.bind_some,if_true]
  by_cases c : u.f1 = true
  · rw [if_pos c,h3 c]
  · rw [if_neg c]
theorem bad_l0 (us : List S62) (hl : us.length ≤ 1000) : ∀ (rs : List S62) (i k : Nat),us.drop i = rs→(∀ u ∈ rs,Ok u)→rs.length < k→leadlag_Unit_45.l0 leadlag_Check_1.f k us us.length i = some (-1)
  | [],i,k,h,ho,hk => by
    obtain ⟨k,rfl,_⟩:=kof hk
    have:=at_end h
    simp only [leadlag_Unit_45.l0]
    rw [if_neg (by omega)]
  | r :: rs,i,k,h,ho,hk => by
    obtain ⟨k,rfl,hk⟩:=kof hk
    obtain ⟨h1,h2,h3⟩:=at_drop h
    simp only [List.length_cons] at hk
    have hw : wrap64 ((i : Int) + 1) = ((i + 1 : Nat) : Int):=by rw [w64 (by omega) (by omega)];simp
    simp only [leadlag_Unit_45.l0]
    rw [if_pos (by omega),if_pos (by omega),if_pos (by omega),h2,hw,bad_f (ho r List.mem_cons_self)]
    simp only [Option.bind_some]
    rw [if_neg (by simp)]
    exact bad_l0 us hl rs (i + 1) k h3 (fun u hu => ho u (List.mem_cons_of_mem _ hu)) (by omega)
theorem someBad_f {us : List S62} (hl : us.length ≤ 1000) (ho : ∀ u ∈ us,Ok u) {k : Nat} (hk : us.length < k) : leadlag_someBad.f k us = some false:=by
  have:=bad_l0 us hl us 0 k rfl ho hk
  unfold leadlag_someBad.f leadlag_Unit_34.f leadlag_Unit_45.f
  rw [show (0 : Int) = ((0 : Nat) : Int) from rfl,this]
  rfl
def Rule (R G : Int) : Prop:=1 ≤ R∧R ≤ 2678400∧0 ≤ G∧G ≤ 3600
theorem check_f {us : List S62} (h1 : 1 ≤ us.length) (h2 : us.length ≤ 16) (ho : ∀ u ∈ us,Ok u) {S T : Int} (hS : -1 ≤ S) (hS2 : S ≤ 6311433599) (hT : 0 ≤ T) (hT2 : T ≤ 6311433599) (R G : Int) {k : Nat} (hk : 100 ≤ k) :
    ∃ c,leadlag_Check.f k R G us S T = some c∧(c = 0→Rule R G)∧(Rule R G→c = 0):=by
  obtain ⟨k,rfl,hk⟩:=kof (n:=99) (k:=k) (by omega)
  have hin : ∀ b : Bool,leadlag_Check.j0 (k + 1) b us S T = some (if b = true then 6 else 0):=fun b => by
    simp only [leadlag_Check.j0]
    cases b with
    | true => rfl
    | false =>
      rw [if_neg (by simp),if_neg (by omega),if_neg (by omega),someBad_f (by omega) ho (by omega)]
      simp only [Option.bind_some]
      rw [if_neg (by simp),if_neg (by omega),if_neg (by omega),inst_f hT hT2]
      rfl
  unfold leadlag_Check.f Rule
  simp only [hin]
  by_cases a : R < 1
  · rw [if_pos a]
    exact ⟨_,rfl,fun h => by simp at h,fun h => by omega⟩
  rw [if_neg a]
  by_cases b : R > 2678400
  · rw [if_pos b]
    exact ⟨_,rfl,fun h => by simp at h,fun h => by omega⟩
  rw [if_neg b]
  by_cases c : G < 0
  · rw [if_pos c]
    exact ⟨_,rfl,fun h => by simp at h,fun h => by omega⟩
  rw [if_neg c]
  by_cases d : G > 3600
  · rw [decide_eq_true d]
    exact ⟨_,rfl,fun h => by simp at h,fun h => by omega⟩
  · rw [decide_eq_false d]
    exact ⟨_,rfl,fun h => by omega,fun h => rfl⟩
theorem running_l0 (us : List S62) (hl : us.length ≤ 1000) : ∀ (rs : List S62) (i k : Nat) (acc : List Int),us.drop i = rs→acc.length + rs.length ≤ 1000→rs.length < k→∃ q,leadlag_Running.l0 k acc us us.length i = some q∧q.length = acc.length + rs.countP (fun u => u.f1)
  | [],i,k,acc,h,ha,hk => by
    obtain ⟨k,rfl,_⟩:=kof hk
    have:=at_end h
    simp only [leadlag_Running.l0]
    rw [if_neg (by omega)]
    exact ⟨acc,rfl,by simp⟩
  | r :: rs,i,k,acc,h,ha,hk => by
    obtain ⟨k,rfl,hk⟩:=kof hk
    obtain ⟨h1,h2,h3⟩:=at_drop h
    simp only [List.length_cons] at hk ha
    have hw : wrap64 ((i : Int) + 1) = ((i + 1 : Nat) : Int):=by rw [w64 (by omega) (by omega)];simp
    simp only [leadlag_Running.l0]
    rw [if_pos (by omega),if_pos (by omega),if_pos (by omega),h2,hw]
    by_cases c : r.f1 = true
    · rw [if_pos c,if_pos (by omega),List.countP_cons_of_pos (p:=fun u : S62 => u.f1) c]
      obtain ⟨q,e,hq⟩:=running_l0 us hl rs (i + 1) k (acc ++ [(i : Int)]) h3 (by simp;omega) (by omega)
      refine ⟨q,e,?_⟩
      rw [hq]
      simp only [List.length_append,List.length_cons,List.length_nil]
      omega
    · rw [if_neg c,List.countP_cons_of_neg (p:=fun u : S62 => u.f1) c]
      exact running_l0 us hl rs (i + 1) k acc h3 (by omega) (by omega)
theorem running_f {us : List S62} (hl : us.length ≤ 100) (s t : Int) {k : Nat} (hk : 200 ≤ k) : ∃ q,leadlag_Running.f k us s t = some q∧q.length = cnt us:=by
  obtain ⟨q,e,h⟩:=running_l0 us (by omega) us 0 k [] rfl (by simp;omega) (by omega)
  refine ⟨q,e,?_⟩
  rw [h]
  simp [cnt]
theorem lim_l1 (x1 : Int) (needs : List Int) (failed : List (List Bool)) (now S R G : Int) (n : Nat) (hn : n < needs.length) (hn2 : n < failed.length) (cu : Int) (us : List S62) (s0 t0 : Int) (us' : List S62) (s1 t1 : Int) (hl : us'.length ≤ 100) (hl1 : us.length = us'.length) (hlf : (rd_L6 failed n).length = us'.length)
    (h0 : ∀ o : Int,0 ≤ o→o < us'.length→(rd_T62 us o).f0 ≤ (rd_T62 us' o).f0) (h2 : ∀ o : Int,0 ≤ o→o < us'.length→(rd_T62 us' o).f2 = rdOf false (rd_L6 failed n) o) (h1 : ∀ o : Int,0 ≤ o→o < us'.length→(rd_T62 us' o).f1 = true→(rd_T62 us' o).f2 = false)
    (hmx : (cnt us' : Int) ≤ mx 0 (rd needs n)) (N : Nat) (V : Option Bool) (hV : ∀ k', N < k' → (if (cnt us' : Int) > cu then limits.j4 k' x1 needs failed now S n cu (cnt us') true R G us' s1 t1 else limits.j4 k' x1 needs failed now S n cu (cnt us') (s1 != s0) R G us' s1 t1) = V) :
    ∀ (rs : List S62) (i k x : Nat),us'.drop i = rs→x + rs.countP (fun u => u.f1) = cnt us'→N + rs.length + 1 < k→limits.l1 k x1 needs failed now S n cu x i R G us s0 t0 us' s1 t1 = V
  | [],i,k,x,h,hx,hk => by
    obtain ⟨k,rfl,hk⟩:=kof hk
    have:=at_end h
    have hx' : x = cnt us':=by simpa using hx
    simp only [limits.l1]
    rw [if_neg (by omega), if_pos (by omega), if_pos (by omega), hx', if_neg (by omega)]
    exact hV k (by simp at hk;omega)
  | r :: rs,i,k,x,h,hx,hk => by
    obtain ⟨k,rfl,hk⟩:=kof hk
    obtain ⟨g1,g2,g3⟩:=at_drop h
    simp only [List.length_cons] at hk
    have hw : Aside0 (wrap64 ((i : Int) + 1) = ((i + 1 : Nat) : Int)):=⟨by rw [w64 (by omega) (by omega)];simp⟩
    have hc : cnt us' ≤ us'.length:=cnt_len us'
    have hw2 : Aside0 ((x : Int) < 1000→wrap64 ((x : Int) + 1) = ((x + 1 : Nat) : Int)):=⟨fun h => by rw [w64 (by omega) (by omega)];simp⟩
    have q0:=h0 i (by omega) (by omega)
    have q1:=h1 i (by omega) (by omega)
    have q2:=h2 i (by omega) (by omega)
    rw [g2] at q0 q1 q2
    simp only [limits.l1]
    rw [if_pos (by omega),if_pos (by omega),g2,← q2]
    by_cases c : r.f1 = true
    · rw [List.countP_cons_of_pos (p:=fun u : S62 => u.f1) c] at hx
      rw [if_pos c,if_pos (by omega),if_pos (by omega),if_pos (by omega),q1 c,if_neg (by simp),if_neg (by simp),if_pos (by omega),if_neg (by omega),hw.out,hw2.out (by omega)]
      exact lim_l1 x1 needs failed now S R G n hn hn2 cu us s0 t0 us' s1 t1 hl hl1 hlf h0 h2 h1 hmx N V hV rs (i + 1) k (x + 1) g3 (by omega) (by omega)
    · rw [List.countP_cons_of_neg (p:=fun u : S62 => u.f1) c] at hx
      rw [if_neg c,if_pos (by omega),if_pos (by omega),if_pos (by omega),if_neg (by simp),if_pos (by omega),if_neg (by omega),hw.out]
      exact lim_l1 x1 needs failed now S R G n hn hn2 cu us s0 t0 us' s1 t1 hl hl1 hlf h0 h2 h1 hmx N V hV rs (i + 1) k x g3 (by omega) (by omega)
theorem upd_ok {u : S62} (h : Ok u) (f : Bool) : u.f0 ≤ (upd u f).f0∧(upd u f).f0 ≤ 6311433599:=by
  obtain ⟨h1,h2,h3⟩:=h
  have hm:=mxmn (wrap64 (u.f0 + 1)) 6311433599
  rw [w64 (x:=u.f0 + 1) (by omega) (by omega)] at hm
  unfold upd
  rw [w64 (x:=u.f0 + 1) (by omega) (by omega)]
  show u.f0 ≤ (if u.f1 = true then mn (u.f0 + 1) 6311433599 else u.f0)∧(if u.f1 = true then mn (u.f0 + 1) 6311433599 else u.f0) ≤ 6311433599
  split <;> omega
theorem ok_rd {us : List S62} (h : ∀ u ∈ us,Ok u) {o : Int} (h1 : 0 ≤ o) (h2 : o < us.length) : Ok (rd_T62 us o):=by
  obtain ⟨i,rfl⟩:=Int.eq_ofNat_of_zero_le h1
  rw [rd_get (by omega)]
  exact h _ (List.getElem_mem _)
theorem lim_l0 (x1 : Int) (needs : List Int) (failed : List (List Bool)) (now R G : Int) (hnl : needs.length ≤ 100) (hfl : failed.length = needs.length) (hnow : 0 ≤ now) (hnow2 : now ≤ 1000000000) (hrule : Rule R G) :
    ∀ (m n k : Nat) (us : List S62) (S T : Int),n + m = needs.length→1 ≤ us.length→us.length ≤ 16→(us.length : Int) = x1→(∀ u ∈ us,Ok u)→-1 ≤ S→S ≤ now + n→0 ≤ T→T ≤ now + n→3000 + 30 * m < k →
      limits.l0 k x1 needs failed now S n R G us S T = some true
  | 0,n,k,us,S,T,h,_,_,_,_,_,_,_,_,hk => by
    obtain ⟨k,rfl,hk⟩:=kof hk
    simp only [limits.l0]
    rw [if_neg (by omega)]
  | m + 1,n,k,us,S,T,h,hu1,hu2,hu3,hok,hS,hS2,hT,hT2,hk => by
    obtain ⟨k,rfl,hk⟩:=kof hk
    obtain ⟨q,hq,hql⟩:=running_f (us:=us) (by omega) S T (k:=k) (by omega)
    have hw : Aside0 (wrap64 (now + (n : Int)) = now + n):=⟨w64 (by omega) (by omega)⟩
    have hwn : Aside0 (wrap64 ((n : Int) + 1) = ((n + 1 : Nat) : Int)):=⟨by rw [w64 (by omega) (by omega)];simp⟩
    obtain ⟨c,hc,_,hc0⟩:=check_f hu1 hu2 hok hS (by omega) hT (by omega) R G (k:=k) (by omega)
    have hc1:=hc0 hrule
    subst hc1
    simp only [limits.l0]
    rw [if_pos (by omega),hq]
    simp only [Option.bind_some]
    unfold plenumlaw55_rule.f
    simp only [Option.bind_some]
    rw [if_pos (by omega),if_pos (by omega),hw.out]
    unfold leadlag_Step.f
    rw [hc]
    simp only [Option.bind_some,if_true]
    by_cases e : ((rd_L6 failed n).length : Int) = us.length
    · rw [if_pos e]
      have htime : leadlag_timely.f us S T (now + n) = some true:=by
        unfold leadlag_timely.f
        rw [inst_f (by omega) (by omega)]
        simp only [Option.bind_some,if_true]
        rw [if_pos (by omega),decide_eq_true (by omega)]
      rw [htime]
      simp only [Option.bind_some,if_true]
      obtain ⟨r1,r2,r3,r4⟩:=hrule
      obtain ⟨us', S', T', g0, g1, g2, g3, g4, g5⟩ := step_f us (rd_L6 failed n) hu2 (by omega) R G S T (rd needs n) (now + n) r1 r2 r3 r4 hS (by omega) hT (by omega) (k := k) (by omega)
      rw [g0]
      simp only [Option.bind_some,if_true]
      rw [hql]
      have hok' : ∀ u ∈ us', Ok u := fun u hu => by
        obtain ⟨i,hi,rfl⟩:=List.getElem_of_mem hu
        obtain ⟨a,b,d⟩:=g2 i (by omega) (by omega)
        have hi2 : rd_T62 us' (i : Int) = us'[i]:=rd_get hi
        have hu0:=ok_rd hok (o:=(i : Int)) (by omega) (by omega)
        have hu1:=upd_ok hu0 (rdOf false (rd_L6 failed n) i)
        have hu2:=hu0.1
        rw [← hi2]
        exact ⟨by omega,by omega,d⟩
      have hrec : ∀ k', 3000 + 30 * m < k' → ∀ S'', S'' = S' → -1 ≤ S'' → S'' ≤ now + n → limits.l0 k' x1 needs failed now S'' ((n + 1 : Nat) : Int) R G us' S' T' = some true := fun k' hk' S'' e1 e2 e3 => by
        subst e1
        exact lim_l0 x1 needs failed now R G hnl hfl hnow hnow2 ⟨r1,r2,r3,r4⟩ m (n + 1) k' us' S'' T' (by omega) (by omega) (by omega) (by omega) hok' e2 (by omega) (by omega) (by omega) hk'
      have hl:=lim_l1 x1 needs failed now S R G n (by omega) (by omega) (cnt us : Int) us S T us' S' T' (by omega) (by omega) (by omega)
        (fun o o1 o2 => by
          rw [(g2 o o1 (by omega)).1]
          exact (upd_ok (ok_rd hok o1 (by omega)) _).1)
        (fun o o1 o2 => (g2 o o1 (by omega)).2.1) (fun o o1 o2 => (g2 o o1 (by omega)).2.2) g4 (3001 + 30 * m) (some true) (fun k' hk' => ?_) us' 0 k 0 rfl (by simp [cnt]) (by omega)
      · exact hl
      · obtain ⟨k', rfl, hk'⟩ := kof hk'
        have hcl : cnt us ≤ us.length:=cnt_len us
        have hwc : Aside0 (wrap64 ((cnt us : Int) + 1) = (cnt us : Int) + 1):=⟨w64 (by omega) (by omega)⟩
        have hfl : (S' = S∧cnt us' ≤ cnt us)→limits.j4 (k' + 1) x1 needs failed now S n (cnt us) (cnt us') false R G us' S' T' = some true:=fun hh => by
          simp only [limits.j4]
          rw [if_neg (by simp),hwn.out]
          exact hrec k' (by omega) S hh.1.symm hS hS2
        have htr : (S' = now + n∧(S = -1 ∨ now + n ≥ S + G)∧cnt us' ≤ cnt us + 1)→limits.j4 (k' + 1) x1 needs failed now S n (cnt us) (cnt us') true R G us' S' T' = some true:=fun hh => by
          obtain ⟨d1,d2,d3⟩:=hh
          simp only [limits.j4]
          rw [if_pos trivial,hwc.out,if_neg (by omega),hw.out,if_pos d1,hwn.out,w64 (x:=now + n - S) (by omega) (by omega)]
          have hr:=hrec k' (by omega) (now + n) d1.symm (by omega) (by omega)
          by_cases z : S ≥ 0
          · rw [if_pos z,if_neg (by omega),hr]
          · rw [if_neg z,hr]
        by_cases y : (cnt us' : Int) > cnt us
        · rw [if_pos y]
          rcases g5 with ⟨a,b⟩ | g5
          · omega
          · exact htr g5
        · rw [if_neg y]
          by_cases z : S' = S
          · rw [show (S' != S) = false from bne_eq_false_iff_eq.2 z]
            exact hfl ⟨z,by omega⟩
          · rw [show (S' != S) = true from bne_iff_ne.2 z]
            rcases g5 with ⟨a,b⟩ | g5
            · exact absurd a z
            · exact htr g5
    · rw [if_neg e]
      simp only [Option.bind_some]
      rw [if_neg (by decide),if_pos (by decide)]
      rw [← hu3]
      congr 1
      exact bne_iff_ne.2 e
/-- The law: the limits hold at every input. -/
theorem limits_f (R G x1 : Int) (needs : List Int) (failed : List (List Bool)) (now : Int) {k : Nat} (hk : 7000 ≤ k) : limits.f k R G x1 needs failed now = some true:=by
  have hj : ∀ k b,6800 ≤ k→(b = false→needs.length ≤ 100∧failed.length = needs.length∧now ≤ 1000000000)→limits.j0 k x1 needs failed now b R G = some true:=fun k b hk hb => by
    obtain ⟨k,rfl,hk⟩:=kof (n:=6799) (k:=k) (by omega)
    simp only [limits.j0]
    cases b with
    | true => rfl
    | false =>
      obtain ⟨b1,b2,b3⟩:=hb rfl
      obtain ⟨k,rfl,hk⟩:=kof (n:=6798) (k:=k) (by omega)
      rw [if_neg (by simp)]
      have hj1 : ∀ (us : List S62) (s t : Int),limits.j1 (k + 1) x1 needs failed now true R G us s t = some true:=fun us s t => by
        simp only [limits.j1]
        rfl
      have hnew : (∃ us s t e,leadlag_New.f (k + 1) x1 now = some (us,s,t,e)∧e ≠ 0) ∨ (1 ≤ x1∧x1 ≤ 16∧0 ≤ now∧leadlag_New.f (k + 1) x1 now = some (List.replicate x1.toNat z62,-1,now,0)):=by
        unfold leadlag_New.f
        simp only [leadlag_New.j0]
        by_cases a : x1 < 1
        · rw [if_pos a]
          exact .inl ⟨_,_,_,_,rfl,by decide⟩
        rw [if_neg a]
        by_cases c : x1 > 16
        · rw [decide_eq_true c]
          exact .inl ⟨_,_,_,_,rfl,by decide⟩
        rw [decide_eq_false c,if_neg (by simp)]
        unfold leadlag_instant.f
        by_cases d : now ≥ 0
        · rw [if_pos d,decide_eq_true (by omega)]
          simp only [Option.bind_some,if_true]
          rw [if_pos (by omega),if_pos (by omega)]
          exact .inr ⟨by omega,by omega,d,rfl⟩
        · rw [if_neg d]
          exact .inl ⟨_,_,_,_,rfl,by decide⟩
      rcases hnew with ⟨us,s,t,e,he,hne⟩ | ⟨n1,n2,n3,he⟩
      · rw [he]
        simp only [Option.bind_some]
        rw [if_neg hne,hj1]
      · rw [he]
        simp only [Option.bind_some,if_true]
        unfold plenumlaw55_rule.f
        simp only [Option.bind_some]
        have hlen : (List.replicate x1.toNat z62).length = x1.toNat:=List.length_replicate
        have hok : ∀ u ∈ List.replicate x1.toNat z62,Ok u:=fun u hu => by
          rw [List.eq_of_mem_replicate hu]
          exact ⟨by decide,by decide,fun h => rfl⟩
        obtain ⟨c,hc,hc0,_⟩:=check_f (us:=List.replicate x1.toNat z62) (by omega) (by omega) hok (S:=-1) (T:=now) (by omega) (by omega) n3 (by omega) R G (k:=k + 1) (by omega)
        rw [hc]
        simp only [Option.bind_some]
        by_cases z : c = 0
        · subst z
          rw [show ((0 : Int) != 0) = false from rfl]
          simp only [limits.j1]
          rw [if_neg (by simp)]
          exact lim_l0 x1 needs failed now R G b1 b2 n3 b3 (hc0 rfl) needs.length 0 k _ (-1) now (by omega) (by omega) (by omega) (by omega) hok (by omega) (by omega) n3 (by omega) (by omega)
        · rw [show (c != 0) = true from bne_iff_ne.2 z,hj1]
  unfold limits.f
  rw [awake_f (by omega)]
  simp only [Option.bind_some,if_true]
  by_cases a : (needs.length : Int) > 100
  · rw [if_pos a,hj k true (by omega) (fun h => by cases h)]
  rw [if_neg a]
  by_cases b : (failed.length : Int) = needs.length
  · rw [if_pos b,hj k _ (by omega) (fun h => ⟨by omega,by omega,by simpa using h⟩)]
  · rw [if_neg b,hj k true (by omega) (fun h => by cases h)]
end Go.Proofs.Ytbecejhjdagkdaa.PL
