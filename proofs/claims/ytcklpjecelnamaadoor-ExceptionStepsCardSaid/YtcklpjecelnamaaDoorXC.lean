/- Patterns of days: what they are, which are valid, which days they match; the functions of packages pattern and ref06. -/
import Derived.Test.YtcklpjecelnamaaDoorXB
import Derived.Test.YtcklpjecelnamaaDoorFn1
import Derived.Test.YtcklpjecelnamaaDoorFn2
set_option linter.unusedVariables false
set_option linter.unusedSimpArgs false
namespace Go.Eng
theorem bB_d {p : Prop} [Decidable p] {A B : Prop} (h1 : p→A) (h2 : ¬ p→B) : bB (decide p) A B:=bB_of (fun h=>h1 (of_decide_eq_true h)) fun h=>h2 (of_decide_eq_false h)
theorem bB_e {a b : Int} {A B : Prop} (h1 : a = b→A) (h2 : a≠b→B) : bB (a == b) A B:=bB_of (fun h=>h1 (eq_of_beq h)) fun h=>h2 (by simpa using h)
theorem bB_n {a b : Int} {A B : Prop} (h1 : a≠b→A) (h2 : a = b→B) : bB (a != b) A B:=bB_of (fun h=>h1 (by simpa using h)) fun h=>h2 (by simpa using h)
theorem bB_not {b : Bool} {A B : Prop} (h : bB b B A) : bB (!b) A B:=by cases b <;> exact h
theorem K_eq {α : Type} {K : α→Prop} {a b : α} (h : K a) (e : a = b) : K b:=e▸h
theorem three {a b c : Int} : ((a == 0) && ((b == 0) && ((c == 0) && true))) = decide (a = 0∧b = 0∧c = 0):=by
  rw [beqD,beqD,beqD,Bool.and_true,dec_and,dec_and]
end Go.Eng
namespace Go.Eng.N
open Go Go.Eng
structure Pt where
  y : Int
  mo : Int
  d : Int
  wd : Int
  wk : Int
  fy : Int
  fm : Int
  fd : Int
  ty : Int
  tm : Int
  td : Int
  deriving DecidableEq
def Pt.c (p : Pt) : List PC:=[pI p.y,pI p.mo,pI p.d,pI p.wd,pI p.wk,pI p.fy,pI p.fm,pI p.fd,pI p.ty,pI p.tm,pI p.td]
abbrev Pt.nF (p : Pt) : Prop:=p.fy = 0∧p.fm = 0∧p.fd = 0
abbrev Pt.nT (p : Pt) : Prop:=p.ty = 0∧p.tm = 0∧p.td = 0
abbrev Pt.isR (p : Pt) : Prop:=¬ p.nF∨¬ p.nT
abbrev Pt.from_ (p : Pt) : Int:=dayOf p.fy p.fm p.fd
abbrev Pt.to_ (p : Pt) : Int:=dayOf p.ty p.tm p.td
def pchk (p : Pt) : Int :=
  if p.isR then
    if p.y≠0∨p.mo≠0∨p.d≠0∨p.wd≠0∨p.wk≠0 then 10
    else if ¬ p.nF∧chk p.fy p.fm p.fd≠0 then chk p.fy p.fm p.fd
    else if ¬ p.nT∧chk p.ty p.tm p.td≠0 then chk p.ty p.tm p.td
    else if ¬ p.nF∧¬ p.nT∧p.from_ > p.to_ then 6 else 0
  else if (p.y≠0∧(p.y < 2000∨p.y > 2199))∨p.mo < 0∨p.mo > 14∨p.d < 0∨p.d > 34∨p.wd < 0∨p.wd > 7∨p.wk < 0∨p.wk > 6 then 6 else 0
def moB (mo m : Int) : Bool:=decide (mo = 0∨mo = m∨(mo = 13∧m % 2 = 1)∨(mo = 14∧m % 2 = 0))
def dB (d x last : Int) : Bool:=decide (d = 0∨d = x∨(d = 33∧x % 2 = 1)∨(d = 34∧x % 2 = 0)∨(d = 32∧x = last))
def wkB (wk x last : Int) : Bool:=decide (wk = 0∨wk = (x + 6) / 7∨(wk = 6∧x > last - 7))
def fits (p : Pt) (day : Int) : Bool :=
  if p.isR then decide ((p.nF∨day≥p.from_)∧(p.nT∨day≤p.to_))
  else decide (p.y = 0∨p.y = (ofDay day).y) && (decide (p.wd = 0∨p.wd = wd day) && (moB p.mo (ofDay day).m && (dB p.d (ofDay day).d (dim (ofDay day).y (ofDay day).m) && wkB p.wk (ofDay day).d (dim (ofDay day).y (ofDay day).m))))
theorem f31_ok (p : Pt) {K : Bool→Prop} (h : K (decide p.isR)) : f31 p.y p.mo p.d p.wd p.wk p.fy p.fm p.fd p.ty p.tm p.td K:=by
  refine ⟨?_⟩
  unfold f31_d
  rw [three,three]
  refine bB_not (bB_d (fun h1=>K_eq h ?_) fun h1=>K_eq h ?_)
  · rw [← decide_not,decide_eq_decide]; exact ⟨fun q=>q.resolve_left fun z=>z h1,.inr⟩
  · exact decide_eq_true (.inl h1)
theorem f30_ok {n hi : Int} {K : Bool→Prop} (h : K (decide (0≤n∧n≤hi))) : f30 n hi K:=by
  refine ⟨?_⟩
  unfold f30_d
  refine bB_d (fun h1=>K_eq h (decide_eq_decide.2 (by omega))) fun h1=>K_eq h (decide_eq_false (by omega))
theorem pchk_n {p : Pt} (h : ¬ p.isR) : pchk p = if (p.y≠0∧(p.y < 2000∨p.y > 2199))∨p.mo < 0∨p.mo > 14∨p.d < 0∨p.d > 34∨p.wd < 0∨p.wd > 7∨p.wk < 0∨p.wk > 6 then 6 else 0:=by
  unfold pchk; rw [if_neg h]
theorem pchk_r {p : Pt} (h : p.isR) : pchk p = if p.y≠0∨p.mo≠0∨p.d≠0∨p.wd≠0∨p.wk≠0 then 10
    else if ¬ p.nF∧chk p.fy p.fm p.fd≠0 then chk p.fy p.fm p.fd
    else if ¬ p.nT∧chk p.ty p.tm p.td≠0 then chk p.ty p.tm p.td
    else if ¬ p.nF∧¬ p.nT∧p.from_ > p.to_ then 6 else 0:=by
  unfold pchk; rw [if_pos h]
theorem day_bd {y m d : Int} (h : chk y m d = 0) : 0≤dayOf y m d∧dayOf y m d≤73048:=by
  obtain ⟨h1,h2,h3,h4,h5,h6⟩:=chk_ok h
  have a:=C_succ (y:=y) h5 h6
  have b:=C_le (y:=y) (a:=m + 1) (b:=13) (by omega) (by omega) (by omega)
  have c:=C_13 y
  have e:=B_succ y
  have f:=C_bd (y:=y) (m:=m) (by omega)
  have g : B (y + 1)≤B 2200:=B_le (by omega)
  have i : B 2000≤B y:=B_le h1
  rw [B_2200] at g
  rw [B_2000] at i
  unfold dayOf
  omega
theorem f16_ok (p : Pt) {K : Int→Prop} (h : K (pchk p)) : f16 p.y p.mo p.d p.wd p.wk p.fy p.fm p.fd p.ty p.tm p.td K:=by
  refine ⟨?_⟩
  unfold f16_d
  refine f31_ok p ?_
  by_cases hR : p.isR
  · rw [decide_eq_true hR]
    rw [pchk_r hR] at h
    refine bB_f rfl ?_
    refine bB_n (fun h1=>by rw [if_pos (by omega)] at h; exact h) fun h1=>?_
    refine bB_n (fun h2=>by rw [if_pos (by omega)] at h; exact h) fun h2=>?_
    refine bB_n (fun h3=>by rw [if_pos (by omega)] at h; exact h) fun h3=>?_
    refine bB_n (fun h4=>by rw [if_pos (by omega)] at h; exact h) fun h4=>?_
    refine bB_n (fun h5=>by rw [if_pos (by omega)] at h; exact h) fun h5=>?_
    rw [if_neg (by omega)] at h
    unfold f16_p17
    refine ⟨rfl,by decide,?_⟩
    have stop : ∀ (a b : Int),(p.nF→a = 0)→(¬ p.nF→a = p.from_∧chk p.fy p.fm p.fd = 0)→(p.nT→b = 73048)→(¬ p.nT→b = p.to_∧chk p.ty p.tm p.td = 0) →
        bB (!((p.ty == 0) && ((p.tm == 0) && ((p.td == 0) && true)))) ((0≤(0 : Int)∧(0 : Int) < 2)∧oI .i64 (ext [pI a,pI b] 0 1) fun n62=>(0≤(1 : Int)∧(1 : Int) < 2)∧oI .i64 (ext [pI a,pI b] 1 1) fun n63=>bB (decide (n62 > n63)) (K 6) (K 0)) (K 0):=fun a b ha ha' hb hb'=>by
      rw [three]
      refine bB_not (bB_d (fun hT=>?_) fun hT=>⟨by omega,?_⟩)
      · rw [if_neg (fun q=>by rcases Classical.em p.nF with z | z; exact q.1 z; exact q.2 (ha' z).2),if_neg (fun q=>q.1 hT),if_neg (fun q=>q.2.1 hT)] at h
        exact h
      · rw [if_neg (fun q=>by rcases Classical.em p.nF with z | z; exact q.1 z; exact q.2 (ha' z).2),if_neg (fun q=>q.2 (hb' hT).2)] at h
        simp only [ext_0,ext_s,ext_z,oI_c]
        refine ⟨by omega,?_⟩
        have hbd:=day_bd (hb' hT).2
        have e2:=(hb' hT).1
        refine bB_d (fun h6=>?_) fun h6=>?_
        · rcases Classical.em p.nF with z | z
          · have e1:=ha z
            unfold Pt.to_ at e2
            omega
          · rw [(ha' z).1,e2] at h6
            rw [if_pos ⟨z,hT,h6⟩] at h; exact h
        · rw [if_neg (fun q=>h6 (by rw [(ha' q.1).1,e2]; exact q.2.2))] at h; exact h
    unfold f16_p20
    refine LoopP.inv 2 (fun j x=>x.1 = (j : Int)∧(j = 0→x.2 = [pI 0,pI 73048])∧(j = 1→∃ a,x.2 = [pI a,pI 73048]∧(p.nF→a = 0)∧(¬ p.nF→a = p.from_∧chk p.fy p.fm p.fd = 0)) ∧
      (j = 2→∃ a b,x.2 = [pI a,pI b]∧(p.nF→a = 0)∧(¬ p.nF→a = p.from_∧chk p.fy p.fm p.fd = 0)∧(p.nT→b = 73048)∧(¬ p.nT→b = p.to_∧chk p.ty p.tm p.td = 0))) 0 ⟨rfl,fun _=>rfl,fun q=>by omega,fun q=>by omega⟩ (by omega) (by omega) ?_ ?_
    · rintro j ⟨i,cs⟩ _ hj ⟨rfl,g0,g1,g2⟩ N hN
      unfold f16_p20b0
      dsimp only at g0 g1 g2 ⊢
      refine bB_d (fun _=>⟨by omega,?_⟩) fun q=>absurd q (by omega)
      have hj : j = 0∨j = 1:=by omega
      rcases hj with rfl | rfl
      · simp only [toNat_c,Nat.zero_mul,ext_0,ext_s,ext_z,cS_c,cI_c,cB_c,cL_c,cO_c,oS_c,oI_c,oB_c,oL_c,nilC_c,toNat_c]
        rw [three]
        rw [g0 rfl]
        refine bB_d (fun hF=>hN _ ⟨by rw [w64_in (by omega) (by omega)]; rfl,fun q=>by omega,fun _=>⟨0,rfl,fun _=>rfl,fun z=>absurd hF z⟩,fun q=>by omega⟩) fun hF=>?_
        refine f32_ok (bB_n (fun hc=>?_) fun hc=>?_)
        · rw [if_pos ⟨hF,hc⟩] at h; exact h
        · refine f33_ok hc ⟨by omega,trivial,by simp,hN _ ⟨by rw [w64_in (by omega) (by omega)]; rfl,fun q=>by omega,fun _=>⟨_,rfl,fun z=>absurd z hF,fun _=>⟨rfl,hc⟩⟩,fun q=>by omega⟩⟩
      · simp only [toNat_c,Nat.one_mul,ext_0,ext_s,ext_z,cS_c,cI_c,cB_c,cL_c,cO_c,oS_c,oI_c,oB_c,oL_c,nilC_c,toNat_c]
        rw [three]
        obtain ⟨a,e,ha,ha'⟩:=g1 rfl
        rw [e]
        refine bB_d (fun hT=>hN _ ⟨by rw [w64_in (by omega) (by omega)]; rfl,fun q=>by omega,fun q=>by omega,fun _=>⟨a,_,rfl,ha,ha',fun _=>rfl,fun z=>absurd hT z⟩⟩) fun hT=>?_
        refine f32_ok (bB_n (fun hc=>?_) fun hc=>?_)
        · rw [if_neg (fun q=>by rcases Classical.em p.nF with z | z; exact q.1 z; exact q.2 (ha' z).2),if_pos ⟨hT,hc⟩] at h; exact h
        · refine f33_ok hc ⟨by omega,trivial,by simp,hN _ ⟨by rw [w64_in (by omega) (by omega)]; rfl,fun q=>by omega,fun q=>by omega,fun _=>⟨a,_,rfl,ha,ha',fun z=>absurd z hT,fun _=>⟨rfl,hc⟩⟩⟩⟩
    · rintro ⟨i,cs⟩ ⟨rfl,g0,g1,g2⟩ N
      unfold f16_p20b0
      dsimp only at g0 g1 g2 ⊢
      refine bB_d (fun q=>absurd q (by omega)) fun _=>?_
      obtain ⟨a,b,e,k⟩:=g2 rfl
      rw [e]
      exact stop a b k.1 k.2.1 k.2.2.1 k.2.2.2
  · rw [decide_eq_false hR]
    rw [pchk_n hR] at h
    refine bB_t rfl ?_
    have tail : (p.y≠0→¬ (p.y < 2000∨p.y > 2199))→f30 p.mo 14 fun b=>bB (!b) (K 6) (f30 p.d 34 fun b=>bB (!b) (K 6) (f30 p.wd 7 fun b=>bB (!b) (K 6) (f30 p.wk 6 fun b=>bB (!b) (K 6) (K 0)))):=fun hy=>by
      refine f30_ok (bB_not (bB_d (fun h1=>f30_ok (bB_not (bB_d (fun h2=>f30_ok (bB_not (bB_d (fun h3=>f30_ok (bB_not (bB_d (fun h4=>?_) fun h4=>?_))) fun h3=>?_))) fun h2=>?_))) fun h1=>?_))
      · rw [if_neg (by omega)] at h; exact h
      all_goals (rw [if_pos (by omega)] at h; exact h)
    refine bB_n (fun h0=>bB_d (fun h1=>?_) fun h1=>bB_d (fun h2=>?_) fun h2=>tail (by omega)) fun h0=>tail (by omega)
    all_goals (rw [if_pos (by omega)] at h; exact h)
theorem pchk_0 {p : Pt} (h : pchk p = 0) (hR : ¬ p.isR) : (p.y = 0∨2000≤p.y∧p.y≤2199)∧0≤p.mo∧p.mo≤14∧0≤p.d∧p.d≤34∧0≤p.wd∧p.wd≤7∧0≤p.wk∧p.wk≤6:=by
  rw [pchk_n hR] at h
  split at h
  · cases h
  · omega
theorem pchk_rF {p : Pt} (h : pchk p = 0) (hF : ¬ p.nF) : chk p.fy p.fm p.fd = 0:=by
  rw [pchk_r (.inl hF)] at h
  split at h
  · cases h
  · split at h
    · rename_i q; exact absurd h q.2
    · rename_i q
      rcases Classical.em (chk p.fy p.fm p.fd = 0) with z | z
      · exact z
      · exact absurd ⟨hF,z⟩ q
theorem pchk_rT {p : Pt} (h : pchk p = 0) (hT : ¬ p.nT) : chk p.ty p.tm p.td = 0:=by
  rw [pchk_r (.inr hT)] at h
  split at h
  · cases h
  · split at h
    · rename_i q; exact absurd h q.2
    · split at h
      · rename_i q; exact absurd h q.2
      · rename_i q
        rcases Classical.em (chk p.ty p.tm p.td = 0) with z | z
        · exact z
        · exact absurd ⟨hT,z⟩ q
end Go.Eng.N
