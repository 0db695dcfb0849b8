/- Exceptions, pure: the sorting of indices by precedence. -/
import Derived.Test.YtcklpjecelnamaaDoorST
import Derived.Test.YtcklpjecelnamaaDoorXI
import Derived.Test.YtcklpjecelnamaaDoorFn3
import Derived.Test.YtcklpjecelnamaaDoorFn2
import Derived.Test.YtcklpjecelnamaaDoorFn1
set_option linter.unusedVariables false
set_option linter.unusedSimpArgs false
namespace Go.Eng.N
open Go Go.Eng
abbrev Ix (us : List Exc):=Fin us.length
def Ix.c {us : List Exc} (x : Ix us) : List PC:=[pI (x.1 : Int)]
theorem Ix_len {us : List Exc} (x : Ix us) : (Ix.c x).length = 1:=rfl
def ltI (us : List Exc) (x y : Ix us) : Bool:=decide (us[x.1].pri < us[y.1].pri)
theorem ltI_o {us : List Exc} : Cmp (ltI us):=Cmp.key fun x : Ix us=>us[x.1].pri
theorem f41_ok {us : List Exc} {ue : List (List PC)} (hu : ue = us.map Exc.c) {full : Bool} {x y : Ix us} {K : Int→List (List PC)→Bool→Prop} (h : ∀ m : Int,decide (m < 0) = ltI us x y→K m ue full) : f41 (x.1 : Int) (y.1 : Int) ue full K:=by
  subst hu
  refine ⟨?_⟩
  unfold f41_d
  refine ⟨rngM _ _ x.2,?_⟩
  rw [toNat_c,getD_map _ _ _ x.2]
  simp only [Exc.c,ext_0,ext_s,ext_z,oI_c]
  refine ⟨rngM _ _ y.2,?_⟩
  rw [toNat_c,getD_map _ _ _ y.2]
  simp only [Exc.c,ext_0,ext_s,ext_z,oI_c]
  refine ⟨?_⟩
  unfold f42_d
  refine ⟨⟨?_⟩⟩
  refine bB_f (by simp) (bB_f (by simp) ?_)
  unfold ltI at h
  refine bB_of (fun q=>h _ (by rw [q]; rfl)) fun q=>bB_of (fun _=>h _ (by rw [q]; rfl)) fun _=>h _ (by rw [q]; rfl)
section
variable {i n : Nat} {es : List (List PC)} {ue : List (List PC)} {full : Bool} {us : List Exc}
theorem so_ins_p8 (hu : ue = us.map Exc.c) {P S R : List (Ix us)} {x : Ix us} (hs : Srt (ltI us) S) (hn : n < 2 ^ 58) (hr : SlR i n es ((P ++ (S ++ x :: R)).map Ix.c)) {b t : Int} {K : List (List PC)→(List (List PC))→Bool→Prop}
    (h : ∀ S1 S2 es',S = S1 ++ S2→Srt (ltI us) (S1 ++ x :: S2)→Stb (ltI us) (S ++ [x]) (S1 ++ x :: S2)→SlR i n es' ((P ++ (S1 ++ x :: (S2 ++ R))).map Ix.c)→K es' ue full) :
    f84_p8 i n (P.length : Int) b t K (((P.length + S.length : Nat) : Int),es,ue,full):=by
  unfold f84_p8
  refine LoopP.inv S.length (fun t x'=>∃ S1 S2 es,S = S1 ++ S2∧S2.length = t∧(∀ y∈S2,(ltI us) x y = true)∧x' = (((P.length + S1.length : Nat) : Int),es,ue,full)∧SlR i n es ((P ++ (S1 ++ x :: (S2 ++ R))).map Ix.c)) 0
    ⟨S,[],es,(List.append_nil S).symm,rfl,(fun _ h=>by cases h),rfl,hr⟩ (Nat.zero_le _) (by have:=hr.n; rw [List.length_map,List.length_append,List.length_append] at this; omega) ?_ ?_
  · rintro t x' _ ht ⟨S1,S2,es,rfl,h2,h3,rfl,hr⟩ N hN
    rw [List.length_append] at ht
    obtain ⟨T,z,rfl⟩ : ∃ T z,S1 = T ++ [z]:=by
      rcases List.eq_nil_or_concat S1 with h | ⟨T,z,h⟩
      · subst h; rw [List.length_nil] at ht; omega
      · exact ⟨T,z,by rw [h,List.concat_eq_append]⟩
    have e : P ++ (T ++ [z] ++ x :: (S2 ++ R)) = (P ++ T) ++ z :: ([] ++ x :: (S2 ++ R)):=by simp
    dsimp only
    rw [e] at hr
    have hnn:=hr.n
    simp only [List.length_map,List.length_append,List.length_cons,List.length_nil] at hnn ht
    have hj : P.length + (T ++ [z]).length = P.length + T.length + 1:=by simp; omega
    rw [hj]
    have a1:=hr.atO (j:=P.length + T.length + 1) (x:=x) (at_mid2 (by simp))
    have a2:=hr.atO (j:=P.length + T.length) (x:=z) (at_mid (by simp))
    have a3:=a1.2.1
    have e1 : w64 (((P.length + T.length + 1 : Nat) : Int) - 1) = ((P.length + T.length : Nat) : Int):=by rw [w64_sub1 _ (by omega) (by omega),Nat.add_sub_cancel]
    unfold f84_p8b0
    refine bB_t (decide_eq_true (by omega)) ⟨by omega,?_⟩
    rw [toNat_c,a1.1]
    simp only [Ix.c,ext_0,ext_s,ext_z,cS_c,cI_c,cB_c,cL_c,cO_c,oS_c,oI_c,oB_c,oL_c,nilC_c,toNat_c]
    rw [e1]
    refine ⟨by omega,?_⟩
    rw [toNat_c,a2.1]
    simp only [Ix.c,ext_0,ext_s,ext_z,cS_c,cI_c,cB_c,cL_c,cO_c,oS_c,oI_c,oB_c,oL_c,nilC_c,toNat_c]
    refine f41_ok hu (x:=x) (y:=z) fun m hm=>?_
    rw [hm]
    refine bB_of (fun h4=>?_) fun h4=>?_
    · unfold f84_p13
      rw [e1]
      refine ⟨by omega,?_⟩
      rw [toNat_c,toNat_c,a2.1]
      simp only [Ix.c,ext_0,ext_s,ext_z,cS_c,cI_c,cB_c,cL_c,cO_c,oS_c,oI_c,oB_c,oL_c,nilC_c,toNat_c]
      refine ⟨by omega,?_⟩
      rw [a1.1]
      simp only [Ix.c,ext_0,ext_s,ext_z,cS_c,cI_c,cB_c,cL_c,cO_c,oS_c,oI_c,oB_c,oL_c,nilC_c,toNat_c]
      refine ⟨by omega,a1.2.2,by omega,by rw [List.length_set]; exact a2.2.2,hN _ ⟨T,z :: S2,_,by simp,by rw [List.length_cons,h2],?_,rfl,?_⟩⟩
      · intro y hy
        rcases List.mem_cons.1 hy with rfl | hy
        · exact h4
        · exact h3 y hy
      · have h5:=hr.swapB (z:=1) Ix_len (j:=P.length + T.length) (k:=P.length + T.length + 1) (by simp) (by simp)
        rw [a1.1] at h5
        have e2 : (P ++ T) ++ x :: ([] ++ z :: (S2 ++ R)) = P ++ (T ++ x :: (z :: S2 ++ R)):=by simp
        rw [e2] at h5
        exact h5
    · rw [← e] at hr
      exact h (T ++ [z]) S2 es rfl (place_srt ltI_o hs h3 (last_all ltI_o (Srt.app.1 hs).1 h4)) (place_stb ltI_o h3) hr
  · rintro x' ⟨S1,S2,es,rfl,h2,h3,rfl,hr⟩ N
    rw [List.length_append] at h2
    obtain rfl : S1 = []:=List.length_eq_zero_iff.1 (by omega)
    unfold f84_p8b0
    exact bB_f (decide_eq_false (by simp)) (h [] S2 es rfl (place_srt ltI_o hs h3 (fun _ h=>by cases h)) (place_stb (s:=[]) ltI_o h3) hr)
theorem so_ins (hu : ue = us.map Exc.c) {P M Q : List (Ix us)} (hn : n < 2 ^ 58) (hr : SlR i n es ((P ++ (M ++ Q)).map Ix.c)) {K : List (List PC)→(List (List PC))→Bool→Prop}
    (h : ∀ M' es',Srt (ltI us) M'→Stb (ltI us) M M'→SlR i n es' ((P ++ (M' ++ Q)).map Ix.c)→K es' ue full) :
    f84 i n (P.length : Int) ((P.length + M.length : Nat) : Int) es ue full K:=by
  refine ⟨?_⟩
  unfold f84_d f84_p2
  have hnn:=hr.n
  simp only [List.length_map,List.length_append] at hnn
  rw [w64_s _ (by omega)]
  cases M with
  | nil =>
    refine LoopP.inv 0 (fun _ x=>x = (((P.length + 1 : Nat) : Int),es,ue,full)) 0 rfl (Nat.le_refl _) (by decide) (fun j x _ hj=>by omega) ?_
    rintro x rfl N
    unfold f84_p2b0
    exact bB_f (decide_eq_false (by rw [List.length_nil]; omega)) (h [] es .nil (.refl _) hr)
  | cons x0 M =>
    refine LoopP.inv M.length (fun t x=>∃ S M1 M2 es,M = M1 ++ M2∧M1.length = t∧Srt (ltI us) S∧Stb (ltI us) (x0 :: M1) S∧x = (((P.length + 1 + t : Nat) : Int),es,ue,full)∧SlR i n es ((P ++ (S ++ (M2 ++ Q))).map Ix.c)) 0
      ⟨[x0],[],M,es,rfl,rfl,Srt.one _,.refl _,rfl,hr⟩ (Nat.zero_le _) (by rw [List.length_cons] at hnn; omega) ?_ ?_
    · rintro t x' _ ht ⟨S,M1,M2,es,rfl,h2,h3,h4,rfl,hr⟩ N hN
      rw [List.length_append] at ht
      obtain ⟨x,R,rfl⟩ : ∃ x R,M2 = x :: R:=by
        cases M2 with
        | nil=>rw [List.length_nil] at ht; omega
        | cons x R=>exact ⟨x,R,rfl⟩
      dsimp only
      have hl:=h4.len
      rw [List.length_cons] at hl
      unfold f84_p2b0
      refine bB_t (decide_eq_true (by simp; omega)) ?_
      have e1 : ((P.length + 1 + t : Nat) : Int) = ((P.length + S.length : Nat) : Int):=by omega
      rw [e1]
      refine so_ins_p8 hu (ue:=ue) (full:=full) h3 hn hr fun S1 S2 es' k1 k2 k3 k4=>hN _ ⟨S1 ++ x :: S2,M1 ++ [x],R,es',by simp,by rw [List.length_append,h2]; rfl,k2,?_,?_,?_⟩
      · have:=(Stb.app h4 (.refl [x])).trans k3
        exact this
      · have e9 : w64 (((P.length + S.length : Nat) : Int) + 1) = ((P.length + 1 + (t + 1) : Nat) : Int):=by rw [w64_s _ (by rw [List.length_cons,List.length_append] at hnn; omega)]; omega
        rw [e9]
      · have e2 : P ++ (S1 ++ x :: (S2 ++ (R ++ Q))) = P ++ ((S1 ++ x :: S2) ++ (R ++ Q)):=by simp
        rw [← e2]; exact k4
    · rintro x' ⟨S,M1,M2,es,rfl,h2,h3,h4,rfl,hr⟩ N
      rw [List.length_append] at h2
      obtain rfl : M2 = []:=List.length_eq_zero_iff.1 (by omega)
      unfold f84_p2b0
      rw [List.append_nil] at h ⊢
      exact bB_f (decide_eq_false (by simp; omega)) (h S es h3 h4 hr)
theorem so_swp (hu : ue = us.map Exc.c) {X U W V Y : List (Ix us)} (hu : U.length = V.length) (hn : n < 2 ^ 58) (hr : SlR i n es ((X ++ (U ++ (W ++ (V ++ Y)))).map Ix.c)) {K : List (List PC)→(List (List PC))→Bool→Prop}
    (h : ∀ es',SlR i n es' ((X ++ (V ++ (W ++ (U ++ Y)))).map Ix.c)→K es' ue full) : f96 i n (X.length : Int) ((X.length + U.length + W.length : Nat) : Int) (U.length : Int) es ue full K:=by
  refine ⟨?_⟩
  unfold f96_d f96_p2
  refine LoopP.inv U.length (fun t x=>∃ U1 U2 V1 V2,U = U1 ++ U2∧V = V1 ++ V2∧U1.length = t∧V1.length = t∧x.1 = (t : Int)∧SlR i n x.2 ((X ++ (V1 ++ (U2 ++ (W ++ (U1 ++ (V2 ++ Y)))))).map Ix.c)) 0
    ⟨[],U,[],V,rfl,rfl,rfl,rfl,rfl,hr⟩ (Nat.zero_le _) (by have:=hr.n; simp only [List.length_map,List.length_append] at this; omega) ?_ ?_
  · rintro t ⟨j,es⟩ _ ht ⟨U1,U2,V1,V2,rfl,rfl,h1,h2,rfl,hr⟩ N hN
    rw [List.length_append] at ht hu
    rw [List.length_append] at hu
    obtain ⟨u,U2,rfl⟩ : ∃ x R,U2 = x :: R:=by
      cases U2 with
      | nil=>rw [List.length_nil] at ht; omega
      | cons x R=>exact ⟨x,R,rfl⟩
    obtain ⟨v,V2,rfl⟩ : ∃ x R,V2 = x :: R:=by
      cases V2 with
      | nil=>rw [List.length_nil,List.length_cons] at hu; omega
      | cons x R=>exact ⟨x,R,rfl⟩
    have e : X ++ (V1 ++ (u :: U2 ++ (W ++ (U1 ++ (v :: V2 ++ Y))))) = (X ++ V1) ++ u :: ((U2 ++ (W ++ U1)) ++ v :: (V2 ++ Y)):=by simp
    dsimp only at hr ⊢
    rw [e] at hr
    have hnn:=hr.n
    simp only [List.length_map,List.length_append,List.length_cons] at hnn
    simp only [List.length_append,List.length_cons]
    have b1 : ((X.length + (U1.length + (U2.length + 1)) + W.length : Nat) : Int) + (t : Int) = ((X.length + V1.length + 1 + (U2 ++ (W ++ U1)).length : Nat) : Int):=by simp; omega
    have b2 : ((X.length : Nat) : Int) + (t : Int) = ((X.length + V1.length : Nat) : Int):=by omega
    have a1:=hr.atO (j:=X.length + V1.length + 1 + (U2 ++ (W ++ U1)).length) (x:=v) (at_mid2 (by simp))
    have a2:=hr.atO (j:=X.length + V1.length) (x:=u) (at_mid (by simp))
    have a3:=a1.2.1
    have e1 : w64 (((X.length + (U1.length + (U2.length + 1)) + W.length : Nat) : Int) + (t : Int)) = ((X.length + V1.length + 1 + (U2 ++ (W ++ U1)).length : Nat) : Int):=by rw [b1,w64_in (by omega) (by omega)]
    have e2 : w64 (((X.length : Nat) : Int) + (t : Int)) = ((X.length + V1.length : Nat) : Int):=by rw [b2,w64_in (by omega) (by omega)]
    unfold f96_p2b0
    refine bB_t (decide_eq_true (by omega)) ?_
    rw [e1,e2]
    refine ⟨by omega,?_⟩
    rw [toNat_c,toNat_c,a1.1]
    simp only [Ix.c,ext_0,ext_s,ext_z,cS_c,cI_c,cB_c,cL_c,cO_c,oS_c,oI_c,oB_c,oL_c,nilC_c,toNat_c]
    refine ⟨by omega,?_⟩
    rw [a2.1]
    simp only [Ix.c,ext_0,ext_s,ext_z,cS_c,cI_c,cB_c,cL_c,cO_c,oS_c,oI_c,oB_c,oL_c,nilC_c,toNat_c]
    refine ⟨by omega,a2.2.2,by omega,by rw [List.length_set]; exact a1.2.2,hN _ ⟨U1 ++ [u],U2,V1 ++ [v],V2,by simp,by simp,by simp [h1],by simp [h2],w64_s t (by omega),?_⟩⟩
    have h5:=hr.swapA (z:=1) Ix_len (j:=X.length + V1.length) (k:=X.length + V1.length + 1 + (U2 ++ (W ++ U1)).length) (by simp) (by simp)
    rw [a2.1] at h5
    have e3 : (X ++ V1) ++ v :: ((U2 ++ (W ++ U1)) ++ u :: (V2 ++ Y)) = X ++ ((V1 ++ [v]) ++ (U2 ++ (W ++ ((U1 ++ [u]) ++ (V2 ++ Y))))):=by simp
    rw [e3] at h5
    exact h5
  · rintro ⟨j,es⟩ ⟨U1,U2,V1,V2,rfl,rfl,h1,h2,rfl,hr⟩ N
    rw [List.length_append] at h1 h2 hu
    rw [List.length_append] at hu
    obtain rfl : U2 = []:=List.length_eq_zero_iff.1 (by omega)
    obtain rfl : V2 = []:=List.length_eq_zero_iff.1 (by rw [List.length_nil] at hu; omega)
    unfold f96_p2b0
    simp only [List.append_nil] at h ⊢
    exact bB_f (decide_eq_false (Int.lt_irrefl _)) (h es hr)
theorem so_rot (hu : ue = us.map Exc.c) {P A B Q : List (Ix us)} (ha : 0 < A.length) (hb : 0 < B.length) (hn : n < 2 ^ 58) (hr : SlR i n es ((P ++ (A ++ (B ++ Q))).map Ix.c)) {K : List (List PC)→(List (List PC))→Bool→Prop}
    (h : ∀ es',SlR i n es' ((P ++ (B ++ (A ++ Q))).map Ix.c)→K es' ue full) : f94 i n (P.length : Int) ((P.length + A.length : Nat) : Int) ((P.length + A.length + B.length : Nat) : Int) es ue full K:=by
  refine ⟨?_⟩
  unfold f94_d f94_p4
  have hnn:=hr.n
  simp only [List.length_map,List.length_append] at hnn
  rw [w64_sub _ _ (by omega) (by omega),w64_sub _ _ (by omega) (by omega)]
  refine LoopP.inv' (A.length + B.length) (fun d x=>∃ X U V Y es,x = (((U.length : Nat) : Int),((V.length : Nat) : Int),es,ue,full)∧0 < U.length∧0 < V.length∧X.length + U.length = P.length + A.length∧d + U.length + V.length = A.length + B.length ∧
      X ++ (V ++ (U ++ Y)) = P ++ (B ++ (A ++ Q))∧SlR i n es ((X ++ (U ++ (V ++ Y))).map Ix.c)) 0 ⟨P,A,B,Q,es,by rw [show P.length + A.length - P.length = A.length by omega,show P.length + A.length + B.length - (P.length + A.length) = B.length by omega],ha,hb,rfl,by omega,rfl,hr⟩ (Nat.zero_le _) (by omega) ?_ ?_
  · rintro d x' _ hd ⟨X,U,V,Y,es,rfl,h1,h2,h3,h4,h5,hr⟩ N hN
    dsimp only
    have hnx:=hr.n
    simp only [List.length_map,List.length_append] at hnx
    unfold f94_p4b0
    have e1 : w64 (((P.length + A.length : Nat) : Int) - ((U.length : Nat) : Int)) = ((X.length : Nat) : Int):=by rw [w64_sub _ _ (by omega) (by omega)]; omega
    rw [e1]
    refine bB_of (fun h6=>?_) fun h6=>?_
    · have h6 : U.length≠V.length:=by simp at h6; omega
      refine bB_of (fun h7=>?_) fun h7=>?_
      · have h7 : V.length < U.length:=by simp only [gt_iff_lt,decide_eq_true_eq] at h7; omega
        obtain ⟨U1,U2,rfl,k1,_,_⟩:=parted U (k:=V.length) (by omega)
        rw [List.length_append] at h3 h4 h7
        have er : X ++ ((U1 ++ U2) ++ (V ++ Y)) = X ++ (U1 ++ (U2 ++ (V ++ Y))):=by simp
        rw [er] at hr
        have e2 : ((P.length + A.length : Nat) : Int) = ((X.length + U1.length + U2.length : Nat) : Int):=by omega
        rw [e2,← k1]
        refine so_swp hu (ue:=ue) (full:=full) k1 hn hr fun es' hr'=>hN (d + V.length) _ (by omega) (by omega) ⟨X ++ V,U2,U1,Y,es',?_,by omega,by omega,by rw [List.length_append]; omega,by omega,?_,?_⟩
        · rw [List.length_append,w64_sub _ _ (by omega) (by omega),show U1.length + U2.length - U1.length = U2.length by omega]
        · rw [← h5]; simp
        · have : X ++ (V ++ (U2 ++ (U1 ++ Y))) = (X ++ V) ++ (U2 ++ (U1 ++ Y)):=by simp
          rw [← this]; exact hr'
      · have h7 : U.length < V.length:=by simp only [gt_iff_lt,decide_eq_false_iff_not] at h7; omega
        obtain ⟨V1,V2,rfl,k1,_,_⟩:=parted V (k:=V.length - U.length) (by omega)
        rw [List.length_append] at h4 h7 k1
        have er : X ++ (U ++ ((V1 ++ V2) ++ Y)) = X ++ (U ++ (V1 ++ (V2 ++ Y))):=by simp
        rw [er] at hr
        have e2 : w64 (w64 (((P.length + A.length : Nat) : Int) + (((V1 ++ V2).length : Nat) : Int)) - ((U.length : Nat) : Int)) = ((X.length + U.length + V1.length : Nat) : Int):=by
          rw [List.length_append] at hnx ⊢
          rw [w64_add _ _ (by omega),w64_sub _ _ (by omega) (by omega)]; omega
        rw [e2]
        refine so_swp hu (ue:=ue) (full:=full) (by omega) hn hr fun es' hr'=>hN (d + U.length) _ (by omega) (by omega) ⟨X,V2,V1,U ++ Y,es',?_,by omega,by omega,by omega,by omega,?_,?_⟩
        · rw [List.length_append,w64_sub _ _ (by omega) (by omega),show V1.length + V2.length - U.length = V1.length by omega,show U.length = V2.length by omega]
        · rw [← h5]; simp
        · exact hr'
    · have h6 : U.length = V.length:=by simp at h6; omega
      dsimp only
      rw [e1]
      have e2 : ((P.length + A.length : Nat) : Int) = ((X.length + U.length + ([] : List (Ix us)).length : Nat) : Int):=by rw [List.length_nil]; omega
      rw [e2]
      refine so_swp hu (ue:=ue) (full:=full) (W:=[]) h6 hn hr fun es' hr'=>h es' ?_
      rw [← h5]; exact hr'
  · rintro x' ⟨X,U,V,Y,es,_,h1,h2,h3,h4,h5,hr⟩ N
    omega
def so_Spec (us : List Exc) (ue : List (List PC)) (full : Bool) (R : f85_T) (d : Nat) : Prop:=∀ {P A B Q : List (Ix us)} {i n : Nat} {es : List (List PC)} {K : List (List PC)→(List (List PC))→Bool→Prop},A.length + B.length≤d→0 < A.length→0 < B.length→Srt (ltI us) A→Srt (ltI us) B→n < 2 ^ 58→SlR i n es ((P ++ (A ++ (B ++ Q))).map Ix.c) →
  (∀ M es',Srt (ltI us) M→Stb (ltI us) (A ++ B) M→SlR i n es' ((P ++ (M ++ Q)).map Ix.c)→K es' ue full)→R i n (P.length : Int) ((P.length + A.length : Nat) : Int) ((P.length + A.length + B.length : Nat) : Int) es ue full K
section
variable {R : f85_T} {d : Nat}
theorem so_sym1 (hu : ue = us.map Exc.c) {P B Q : List (Ix us)} {x : Ix us} (hb : Srt (ltI us) B) (hn : n < 2 ^ 58) (hr : SlR i n es ((P ++ x :: (B ++ Q)).map Ix.c)) {K : List (List PC)→(List (List PC))→Bool→Prop}
    (h : ∀ M es',Srt (ltI us) M→Stb (ltI us) (x :: B) M→SlR i n es' ((P ++ (M ++ Q)).map Ix.c)→K es' ue full) :
    f85_p6 R i n (P.length : Int) es (fun n54 q0 q1=>f85_p18 R i n n54 q0 q1 (fun es9=>K es9 q0 q1) ((P.length : Int),es)) (((P.length + 1 : Nat) : Int),((P.length + 1 + B.length : Nat) : Int),ue,full):=by
  unfold f85_p6
  have hnn:=hr.n
  simp only [List.length_map,List.length_append,List.length_cons] at hnn
  have at_ : ∀ q y,B[q]? = some y→(P ++ x :: (B ++ Q))[P.length + 1 + q]? = some y:=fun q y hq=>by
    rw [List.getElem?_append_right (by omega),show P.length + 1 + q - P.length = q + 1 by omega,List.getElem?_cons_succ,List.getElem?_append_left (List.getElem?_eq_some_iff.1 hq).1,hq]
  have ax:=hr.atO (j:=P.length) (x:=x) (at_mid rfl)
  refine LoopP.bsS (fun a b=>((a : Int),(b : Int),ue,full)) (fun p=>!ltO (ltI us) B[p - (P.length + 1)]? (some x)) rfl (by omega) (by omega) (fun p q h1 h2 h3 h4=>?_) (A:=fun s=>∃ B1 B2,B = B1 ++ B2∧s = P.length + 1 + B1.length∧(∀ y∈B1,(ltI us) y x = true)∧∀ y∈B2,(ltI us) y x = false) (fun s h1 h2 h3 h4=>?_) (fun a b h1 h2 h3 N f1 f2=>?_) fun s h1 h2 N hA=>?_
  · have p1 : p - (P.length + 1) < B.length:=by omega
    have p2 : q - (P.length + 1) < B.length:=by omega
    rw [List.getElem?_eq_getElem p1] at h4
    rw [List.getElem?_eq_getElem p2]
    have h4 : (ltI us) B[p - (P.length + 1)] x = false:=by simpa [ltO] using h4
    have:=hb.le' ltI_o (p:=p - (P.length + 1)) (q:=q - (P.length + 1)) (by omega) (List.getElem?_eq_getElem p1) (List.getElem?_eq_getElem p2)
    simpa [ltO] using ltI_o.trans x _ _ h4 this
  · obtain ⟨B1,B2,e1,e2,e3,e4⟩:=parted B (k:=s - (P.length + 1)) (by omega)
    refine ⟨B1,B2,e1,by omega,fun y hy=>?_,fun y hy=>?_⟩
    · obtain ⟨q,q1,q2⟩:=e3 y hy
      have:=h3 (P.length + 1 + q) (by omega) (by omega)
      rw [Nat.add_sub_cancel_left,q2] at this
      simpa [ltO] using this
    · obtain ⟨q,q1,q2,q3⟩:=e4 y hy
      have:=h4 (P.length + 1 + q) (by omega) (by omega)
      rw [Nat.add_sub_cancel_left,q3] at this
      simpa [ltO] using this
  · unfold f85_p6b0
    dsimp only
    have hq : (a + b) / 2 - (P.length + 1) < B.length:=by omega
    have ha:=at_ _ _ (List.getElem?_eq_getElem hq)
    rw [show P.length + 1 + ((a + b) / 2 - (P.length + 1)) = (a + b) / 2 by omega] at ha
    have a1:=hr.atO ha
    have a2:=a1.2.1
    refine bB_t (decide_eq_true (by omega)) ⟨by decide,?_⟩
    rw [half_ok _ _ (by omega)]
    refine ⟨by omega,?_⟩
    rw [toNat_c,a1.1]
    simp only [Ix.c,ext_0,ext_s,ext_z,cS_c,cI_c,cB_c,cL_c,cO_c,oS_c,oI_c,oB_c,oL_c,nilC_c,toNat_c]
    refine ⟨by omega,?_⟩
    rw [ax.1]
    simp only [Ix.c,ext_0,ext_s,ext_z,cS_c,cI_c,cB_c,cL_c,cO_c,oS_c,oI_c,oB_c,oL_c,nilC_c,toNat_c]
    refine f41_ok hu (x:=B[(a + b) / 2 - (P.length + 1)]) (y:=x) fun m hm=>?_
    rw [hm,w64_s _ (by omega)]
    rw [List.getElem?_eq_getElem hq] at f1 f2
    refine bB_of (fun h5=>f1 ?_) fun h5=>f2 ?_
    · simpa [ltO] using h5
    · simpa [ltO] using h5
  · obtain ⟨B1,B2,rfl,rfl,k1,k2⟩:=hA
    unfold f85_p6b0
    dsimp only
    refine bB_f (decide_eq_false (Int.lt_irrefl _)) ?_
    unfold f85_p18
    refine LoopP.inv B1.length (fun t y=>∃ C1 C2,B1 = C1 ++ C2∧C1.length = t∧y.1 = ((P.length + t : Nat) : Int)∧SlR i n y.2 ((P ++ (C1 ++ x :: (C2 ++ (B2 ++ Q)))).map Ix.c)) 0 ⟨[],B1,rfl,rfl,rfl,?_⟩ (Nat.zero_le _) (by rw [List.length_append] at hnn; omega) ?_ ?_
    · have : P ++ ([] ++ x :: (B1 ++ (B2 ++ Q))) = P ++ x :: (B1 ++ B2 ++ Q):=by simp
      rw [this]; exact hr
    · rintro t ⟨j,es⟩ _ ht ⟨C1,C2,rfl,c1,rfl,hr⟩ N hN
      rw [List.length_append] at ht
      obtain ⟨v,C2,rfl⟩ : ∃ x R,C2 = x :: R:=by
        cases C2 with
        | nil=>rw [List.length_nil] at ht; omega
        | cons x R=>exact ⟨x,R,rfl⟩
      dsimp only at hr ⊢
      have e : P ++ (C1 ++ x :: (v :: C2 ++ (B2 ++ Q))) = (P ++ C1) ++ x :: ([] ++ v :: (C2 ++ (B2 ++ Q))):=by simp
      rw [e] at hr
      have hnx:=hr.n
      simp only [List.length_map,List.length_append,List.length_cons] at hnx
      have a1:=hr.atO (j:=P.length + t + 1) (x:=v) (at_mid2 (by simp; omega))
      have a2:=hr.atO (j:=P.length + t) (x:=x) (at_mid (by simp; omega))
      have a3:=a1.2.1
      unfold f85_p18b0
      dsimp only
      have e1 : w64 (((P.length + 1 + (C1 ++ v :: C2).length : Nat) : Int) - 1) = ((P.length + (C1.length + (C2.length + 1)) : Nat) : Int):=by rw [List.length_append,List.length_cons,w64_sub1 _ (by omega) (by omega)]; omega
      have e2 : w64 (((P.length + t : Nat) : Int) + 1) = ((P.length + t + 1 : Nat) : Int):=w64_s _ (by omega)
      rw [e1,e2]
      refine bB_t (decide_eq_true (by omega)) ⟨by omega,?_⟩
      rw [toNat_c,toNat_c,a1.1]
      simp only [Ix.c,ext_0,ext_s,ext_z,cS_c,cI_c,cB_c,cL_c,cO_c,oS_c,oI_c,oB_c,oL_c,nilC_c,toNat_c]
      refine ⟨by omega,?_⟩
      rw [a2.1]
      simp only [Ix.c,ext_0,ext_s,ext_z,cS_c,cI_c,cB_c,cL_c,cO_c,oS_c,oI_c,oB_c,oL_c,nilC_c,toNat_c]
      refine ⟨by omega,a2.2.2,by omega,by rw [List.length_set]; exact a1.2.2,hN _ ⟨C1 ++ [v],C2,by simp,by simp [c1],by dsimp only; omega,?_⟩⟩
      have h5:=hr.swapA (z:=1) Ix_len (j:=P.length + t) (k:=P.length + t + 1) (by simp; omega) (by simp; omega)
      rw [a2.1] at h5
      have e3 : (P ++ C1) ++ v :: ([] ++ x :: (C2 ++ (B2 ++ Q))) = P ++ ((C1 ++ [v]) ++ x :: (C2 ++ (B2 ++ Q))):=by simp
      rw [e3] at h5
      exact h5
    · rintro ⟨j,es⟩ ⟨C1,C2,rfl,c1,rfl,hr⟩ N
      rw [List.length_append] at c1
      obtain rfl : C2 = []:=List.length_eq_zero_iff.1 (by omega)
      unfold f85_p18b0
      dsimp only
      simp only [List.append_nil] at h hb hnn c1 k1 ⊢
      have e1 : w64 (((P.length + 1 + C1.length : Nat) : Int) - 1) = ((P.length + C1.length : Nat) : Int):=by rw [List.length_append] at hnn; rw [w64_sub1 _ (by omega) (by omega)]; omega
      rw [e1]
      refine bB_f (decide_eq_false (by omega)) (h (C1 ++ x :: B2) es ?_ ?_ ?_)
      · obtain ⟨s1,s2,s3⟩:=Srt.app.1 hb
        refine Srt.app.2 ⟨s1,Srt.cons.2 ⟨k2,s2⟩,fun y hy z hz=>?_⟩
        rcases List.mem_cons.1 hz with rfl | hz
        · exact ltI_o.le_of_lt (k1 y hy)
        · exact s3 y hy z hz
      · have:=Stb.swap ltI_o (a:=[x]) (b:=C1) fun y hy z hz=>by rw [List.mem_singleton.1 hy]; exact k1 z hz
        have e2 : C1 ++ x :: B2 = C1 ++ [x] ++ B2:=by simp
        have e3 : x :: (C1 ++ B2) = [x] ++ C1 ++ B2:=by simp
        rw [e2,e3]
        exact this.app (.refl B2)
      · have : P ++ (C1 ++ x :: B2 ++ Q) = P ++ (C1 ++ x :: ([] ++ (B2 ++ Q))):=by simp
        rw [this]; exact hr
theorem so_sym2 (hu : ue = us.map Exc.c) {P A Q : List (Ix us)} {x : Ix us} (ha : Srt (ltI us) A) (hn : n < 2 ^ 58) (hr : SlR i n es ((P ++ (A ++ x :: Q)).map Ix.c)) {K : List (List PC)→(List (List PC))→Bool→Prop}
    (h : ∀ M es',Srt (ltI us) M→Stb (ltI us) (A ++ [x]) M→SlR i n es' ((P ++ (M ++ Q)).map Ix.c)→K es' ue full) :
    f85_p30 R i n ((P.length + A.length : Nat) : Int) es (fun n54 q0 q1=>f85_p42 R i n n54 q0 q1 (fun es9=>K es9 q0 q1) (((P.length + A.length : Nat) : Int),es)) ((P.length : Int),((P.length + A.length : Nat) : Int),ue,full):=by
  unfold f85_p30
  have hnn:=hr.n
  simp only [List.length_map,List.length_append,List.length_cons] at hnn
  have at_ : ∀ q y,A[q]? = some y→(P ++ (A ++ x :: Q))[P.length + q]? = some y:=fun q y hq=>by
    rw [List.getElem?_append_right (by omega),show P.length + q - P.length = q by omega,List.getElem?_append_left (List.getElem?_eq_some_iff.1 hq).1,hq]
  have ax:=hr.atO (j:=P.length + A.length) (x:=x) (by rw [← List.append_assoc]; exact at_mid (by simp))
  refine LoopP.bsS (fun a b=>((a : Int),(b : Int),ue,full)) (fun p=>ltO (ltI us) (some x) A[p - P.length]?) rfl (by omega) (by omega) (fun p q h1 h2 h3 h4=>?_) (A:=fun s=>∃ A1 A2,A = A1 ++ A2∧s = P.length + A1.length∧(∀ y∈A1,(ltI us) x y = false)∧∀ y∈A2,(ltI us) x y = true) (fun s h1 h2 h3 h4=>?_) (fun a b h1 h2 h3 N f1 f2=>?_) fun s h1 h2 N hA=>?_
  · have p1 : p - P.length < A.length:=by omega
    have p2 : q - P.length < A.length:=by omega
    rw [List.getElem?_eq_getElem p1] at h4
    rw [List.getElem?_eq_getElem p2]
    have:=ha.le' ltI_o (p:=p - P.length) (q:=q - P.length) (by omega) (List.getElem?_eq_getElem p1) (List.getElem?_eq_getElem p2)
    exact ltI_o.lt_le h4 this
  · obtain ⟨A1,A2,e1,e2,e3,e4⟩:=parted A (k:=s - P.length) (by omega)
    refine ⟨A1,A2,e1,by omega,fun y hy=>?_,fun y hy=>?_⟩
    · obtain ⟨q,q1,q2⟩:=e3 y hy
      have:=h3 (P.length + q) (by omega) (by omega)
      rw [Nat.add_sub_cancel_left,q2] at this
      exact this
    · obtain ⟨q,q1,q2,q3⟩:=e4 y hy
      have:=h4 (P.length + q) (by omega) (by omega)
      rw [Nat.add_sub_cancel_left,q3] at this
      exact this
  · unfold f85_p30b0
    dsimp only
    have hq : (a + b) / 2 - P.length < A.length:=by omega
    have ha:=at_ _ _ (List.getElem?_eq_getElem hq)
    rw [show P.length + ((a + b) / 2 - P.length) = (a + b) / 2 by omega] at ha
    have a1:=hr.atO ha
    have a2:=a1.2.1
    refine bB_t (decide_eq_true (by omega)) ⟨by decide,by omega,?_⟩
    rw [half_ok _ _ (by omega),toNat_c,ax.1]
    simp only [Ix.c,ext_0,ext_s,ext_z,cS_c,cI_c,cB_c,cL_c,cO_c,oS_c,oI_c,oB_c,oL_c,nilC_c,toNat_c]
    refine ⟨by omega,?_⟩
    rw [a1.1]
    simp only [Ix.c,ext_0,ext_s,ext_z,cS_c,cI_c,cB_c,cL_c,cO_c,oS_c,oI_c,oB_c,oL_c,nilC_c,toNat_c]
    refine f41_ok hu (x:=x) (y:=A[(a + b) / 2 - P.length]) fun m hm=>?_
    rw [hm,w64_s _ (by omega)]
    rw [List.getElem?_eq_getElem hq] at f1 f2
    refine bB_of (fun h5=>f1 ?_) fun h5=>f2 ?_
    · simpa [ltO] using h5
    · simpa [ltO] using h5
  · obtain ⟨A1,A2,rfl,rfl,k1,k2⟩:=hA
    unfold f85_p30b0
    dsimp only
    refine bB_f (decide_eq_false (Int.lt_irrefl _)) ?_
    unfold f85_p42
    refine LoopP.inv A2.length (fun t y=>∃ C1 C2,A2 = C1 ++ C2∧C2.length = t∧y.1 = ((P.length + A1.length + C1.length : Nat) : Int)∧SlR i n y.2 ((P ++ (A1 ++ (C1 ++ x :: (C2 ++ Q)))).map Ix.c)) 0 ⟨A2,[],by simp,rfl,by rw [List.length_append,Nat.add_assoc],?_⟩ (Nat.zero_le _) (by rw [List.length_append] at hnn; omega) ?_ ?_
    · have : P ++ (A1 ++ (A2 ++ x :: ([] ++ Q))) = P ++ (A1 ++ A2 ++ x :: Q):=by simp
      rw [this]; exact hr
    · rintro t ⟨j,es⟩ _ ht ⟨C1,C2,rfl,c1,rfl,hr⟩ N hN
      rw [List.length_append] at ht
      obtain ⟨C1,v,rfl⟩ : ∃ T z,C1 = T ++ [z]:=by
        rcases List.eq_nil_or_concat C1 with h | ⟨T,z,h⟩
        · subst h; rw [List.length_nil] at ht; omega
        · exact ⟨T,z,by rw [h,List.concat_eq_append]⟩
      dsimp only at hr ⊢
      have e : P ++ (A1 ++ (C1 ++ [v] ++ x :: (C2 ++ Q))) = (P ++ (A1 ++ C1)) ++ v :: ([] ++ x :: (C2 ++ Q)):=by simp
      rw [e] at hr
      have hnx:=hr.n
      simp only [List.length_map,List.length_append,List.length_cons,List.length_nil] at hnx
      rw [show P.length + A1.length + (C1 ++ [v]).length = P.length + (A1.length + C1.length) + 1 by simp; omega]
      have a1:=hr.atO (j:=P.length + (A1.length + C1.length) + 1) (x:=x) (at_mid2 (by simp))
      have a2:=hr.atO (j:=P.length + (A1.length + C1.length)) (x:=v) (at_mid (by simp))
      have a3:=a1.2.1
      unfold f85_p42b0
      dsimp only
      have e2 : w64 (((P.length + (A1.length + C1.length) + 1 : Nat) : Int) - 1) = ((P.length + (A1.length + C1.length) : Nat) : Int):=by rw [w64_sub1 _ (by omega) (by omega),Nat.add_sub_cancel]
      rw [e2]
      refine bB_t (decide_eq_true (by omega)) ⟨by omega,?_⟩
      rw [toNat_c,toNat_c,a2.1]
      simp only [Ix.c,ext_0,ext_s,ext_z,cS_c,cI_c,cB_c,cL_c,cO_c,oS_c,oI_c,oB_c,oL_c,nilC_c,toNat_c]
      refine ⟨by omega,?_⟩
      rw [a1.1]
      simp only [Ix.c,ext_0,ext_s,ext_z,cS_c,cI_c,cB_c,cL_c,cO_c,oS_c,oI_c,oB_c,oL_c,nilC_c,toNat_c]
      refine ⟨by omega,a1.2.2,by omega,by rw [List.length_set]; exact a2.2.2,hN _ ⟨C1,v :: C2,by simp,by rw [List.length_cons,c1],by dsimp only; omega,?_⟩⟩
      have h5:=hr.swapB (z:=1) Ix_len (j:=P.length + (A1.length + C1.length)) (k:=P.length + (A1.length + C1.length) + 1) (by simp) (by simp)
      rw [a1.1] at h5
      have e3 : (P ++ (A1 ++ C1)) ++ x :: ([] ++ v :: (C2 ++ Q)) = P ++ (A1 ++ (C1 ++ x :: (v :: C2 ++ Q))):=by simp
      rw [e3] at h5
      exact h5
    · rintro ⟨j,es⟩ ⟨C1,C2,rfl,c1,rfl,hr⟩ N
      rw [List.length_append] at c1
      obtain rfl : C1 = []:=List.length_eq_zero_iff.1 (by omega)
      unfold f85_p42b0
      dsimp only
      refine bB_f (decide_eq_false (by simp)) (h (A1 ++ x :: C2) es ?_ ?_ ?_)
      · exact place_srt ltI_o ha k2 k1
      · exact place_stb ltI_o k2
      · have : P ++ (A1 ++ x :: C2 ++ Q) = P ++ (A1 ++ ([] ++ x :: (C2 ++ Q))):=by simp
        rw [this]; exact hr
theorem so_sym87 (hu : ue = us.map Exc.c) (hR : so_Spec us ue full R d) {P A B Q : List (Ix us)} (hd : A.length + B.length≤d) (ha : Srt (ltI us) A) (hb : Srt (ltI us) B) (hn : n < 2 ^ 58) (hr : SlR i n es ((P ++ (A ++ (B ++ Q))).map Ix.c)) {K : List (List PC)→(List (List PC))→Bool→Prop}
    (h : ∀ M es',Srt (ltI us) M→Stb (ltI us) (A ++ B) M→SlR i n es' ((P ++ (M ++ Q)).map Ix.c)→K es' ue full) :
    f85_p87 R i n ((P.length + A.length + B.length : Nat) : Int) (P.length : Int) ((P.length + A.length : Nat) : Int) es ue full K:=by
  unfold f85_p87
  have e : P ++ (A ++ (B ++ Q)) = P ++ (A ++ B ++ Q):=by simp
  refine bB_of (fun h1=>bB_of (fun h2=>?_) fun h2=>?_) fun h1=>?_
  · simp only [decide_eq_true_eq] at h1 h2
    exact hR hd (by omega) (by omega) ha hb hn hr h
  · simp only [decide_eq_false_iff_not] at h2
    obtain rfl : B = []:=List.length_eq_zero_iff.1 (by omega)
    rw [e] at hr
    exact h _ es (by rw [List.append_nil]; exact ha) (.refl _) hr
  · simp only [decide_eq_false_iff_not] at h1
    obtain rfl : A = []:=List.length_eq_zero_iff.1 (by omega)
    rw [e] at hr
    exact h _ es hb (.refl _) hr
theorem so_sym83 (hu : ue = us.map Exc.c) (hR : so_Spec us ue full R d) {P A1 A2 B1 B2 Q : List (Ix us)} (hd : A1.length + B1.length≤d) (hd2 : A2.length + B2.length≤d) (ha : Srt (ltI us) (A1 ++ A2)) (hb : Srt (ltI us) (B1 ++ B2))
    (c1 : ∀ x∈A1,∀ y∈B2,(ltI us) y x = false) (c2 : ∀ x∈B1,∀ y∈A2,(ltI us) x y = true) (hn : n < 2 ^ 58) (hr : SlR i n es ((P ++ (A1 ++ (B1 ++ (A2 ++ (B2 ++ Q))))).map Ix.c)) {K : List (List PC)→(List (List PC))→Bool→Prop}
    (h : ∀ M es',Srt (ltI us) M→Stb (ltI us) ((A1 ++ A2) ++ (B1 ++ B2)) M→SlR i n es' ((P ++ (M ++ Q)).map Ix.c)→K es' ue full) :
    f85_p83 R i n (P.length : Int) ((P.length + (A1.length + A2.length) + (B1.length + B2.length) : Nat) : Int) ((P.length + A1.length + B1.length : Nat) : Int) ((P.length + A1.length : Nat) : Int) ((P.length + A1.length + B1.length + A2.length : Nat) : Int) es ue full K:=by
  unfold f85_p83
  have fin : ∀ M1 es',Srt (ltI us) M1→Stb (ltI us) (A1 ++ B1) M1→SlR i n es' ((P ++ (M1 ++ (A2 ++ (B2 ++ Q)))).map Ix.c) →
      f85_p87 R i n ((P.length + (A1.length + A2.length) + (B1.length + B2.length) : Nat) : Int) ((P.length + A1.length + B1.length : Nat) : Int) ((P.length + A1.length + B1.length + A2.length : Nat) : Int) es' ue full K:=fun M1 es' s1 e1 hr'=>by
    have hl:=e1.len
    rw [List.length_append] at hl
    have e2 : P ++ (M1 ++ (A2 ++ (B2 ++ Q))) = (P ++ M1) ++ (A2 ++ (B2 ++ Q)):=by simp
    rw [e2] at hr'
    have:=so_sym87 hu (ue:=ue) (full:=full) (K:=K) hR (P:=P ++ M1) hd2 (Srt.app.1 ha).2.1 (Srt.app.1 hb).2.1 hn hr' fun M2 es2 s2 e3 hr2=>?_
    · rw [List.length_append,← hl] at this
      have q1 : P.length + (A1.length + A2.length) + (B1.length + B2.length) = P.length + (A1.length + B1.length) + A2.length + B2.length:=by omega
      have q2 : P.length + A1.length + B1.length = P.length + (A1.length + B1.length):=by omega
      rw [q1,q2]; exact this
    · obtain ⟨g1,g2⟩:=merge_law ltI_o ha hb c1 c2 s1 s2 e1 e3
      refine h (M1 ++ M2) es2 g1 g2 ?_
      have : P ++ (M1 ++ M2 ++ Q) = P ++ M1 ++ (M2 ++ Q):=by simp
      rw [this]; exact hr2
  have e : P ++ (A1 ++ (B1 ++ (A2 ++ (B2 ++ Q)))) = P ++ (A1 ++ B1 ++ (A2 ++ (B2 ++ Q))):=by simp
  refine bB_of (fun h1=>bB_of (fun h2=>?_) fun h2=>?_) fun h1=>?_
  · simp only [decide_eq_true_eq] at h1 h2
    exact hR hd (by omega) (by omega) (Srt.app.1 ha).1 (Srt.app.1 hb).1 hn hr fin
  · simp only [decide_eq_false_iff_not] at h2
    obtain rfl : B1 = []:=List.length_eq_zero_iff.1 (by omega)
    rw [e] at hr
    exact fin _ es (by rw [List.append_nil]; exact (Srt.app.1 ha).1) (.refl _) hr
  · simp only [decide_eq_false_iff_not] at h1
    obtain rfl : A1 = []:=List.length_eq_zero_iff.1 (by omega)
    rw [e] at hr
    exact fin _ es (Srt.app.1 hb).1 (.refl _) hr
theorem so_sym65 (hu : ue = us.map Exc.c) (hR : so_Spec us ue full R d) {P A B Q : List (Ix us)} (hA : 2≤A.length) (hB : 2≤B.length) (hd : A.length + B.length≤d + 1) (ha : Srt (ltI us) A) (hb : Srt (ltI us) B) (hn : n < 2 ^ 58) (hr : SlR i n es ((P ++ (A ++ (B ++ Q))).map Ix.c)) {K : List (List PC)→(List (List PC))→Bool→Prop}
    (h : ∀ M es',Srt (ltI us) M→Stb (ltI us) (A ++ B) M→SlR i n es' ((P ++ (M ++ Q)).map Ix.c)→K es' ue full) {a m b mid lo hi : Nat} (ea : a = P.length) (em : m = P.length + A.length) (eb : b = P.length + A.length + B.length) (emid : mid = (a + b) / 2)
    (hc : (mid < m∧lo = mid + m - b∧hi = mid)∨(m≤mid∧lo = a∧hi = m)) :
    f85_p65 R i n (a : Int) (m : Int) (b : Int) (mid : Int) ((mid + m : Nat) : Int) (lo : Int) (hi : Int) es ue full K:=by
  unfold f85_p65 f85_p66
  have hnn:=hr.n
  simp only [List.length_map,List.length_append] at hnn
  rw [w64_sub1 _ (by omega) (by omega)]
  have atA : ∀ q y,A[q]? = some y→(P ++ (A ++ (B ++ Q)))[P.length + q]? = some y:=fun q y hq=>by
    rw [List.getElem?_append_right (by omega),show P.length + q - P.length = q by omega,List.getElem?_append_left (List.getElem?_eq_some_iff.1 hq).1,hq]
  have atB : ∀ q y,B[q]? = some y→(P ++ (A ++ (B ++ Q)))[P.length + A.length + q]? = some y:=fun q y hq=>by
    rw [List.getElem?_append_right (by omega),List.getElem?_append_right (by omega),show P.length + A.length + q - P.length - A.length = q by omega,List.getElem?_append_left (List.getElem?_eq_some_iff.1 hq).1,hq]
  have lohi : lo≤hi:=by omega
  have hlo : a≤lo:=by omega
  have hhi : hi≤m:=by omega
  have hB1 : ∀ q : Nat,lo≤q→q < hi→m≤mid + m - 1 - q∧mid + m - 1 - q < b:=fun q h1 h2=>by omega
  refine LoopP.bsS (fun a b=>((a : Int),(b : Int),ue,full)) (fun p=>ltO (ltI us) B[mid + m - 1 - p - m]? A[p - a]?) rfl lohi (by omega) (fun p q h1 h2 h3 h4=>?_) (A:=fun s=>∃ A1 A2 B1 B2,A = A1 ++ A2∧B = B1 ++ B2∧s = a + A1.length∧mid + m = s + m + B1.length∧(∀ x∈A1,∀ y∈B2,(ltI us) y x = false)∧∀ x∈B1,∀ y∈A2,(ltI us) x y = true) (fun s h1 h2 h3 h4=>?_) (fun u v h1 h2 h3 N f1 f2=>?_) fun s h1 h2 N hA=>?_
  · have b1:=hB1 p h1 (by omega)
    have b2:=hB1 q (by omega) h3
    have p1 : p - a < A.length:=by omega
    have p2 : q - a < A.length:=by omega
    have p3 : mid + m - 1 - p - m < B.length:=by omega
    have p4 : mid + m - 1 - q - m < B.length:=by omega
    rw [List.getElem?_eq_getElem p1,List.getElem?_eq_getElem p3] at h4
    rw [List.getElem?_eq_getElem p2,List.getElem?_eq_getElem p4]
    have g1:=ha.le' ltI_o (p:=p - a) (q:=q - a) (by omega) (List.getElem?_eq_getElem p1) (List.getElem?_eq_getElem p2)
    have g2:=hb.le' ltI_o (p:=mid + m - 1 - q - m) (q:=mid + m - 1 - p - m) (by omega) (List.getElem?_eq_getElem p4) (List.getElem?_eq_getElem p3)
    exact ltI_o.le_lt g2 (ltI_o.lt_le h4 g1)
  · obtain ⟨A1,A2,e1,e2,e3,e4⟩:=parted A (k:=s - a) (by omega)
    obtain ⟨B1,B2,f1,f2,f3,f4⟩:=parted B (k:=mid + m - s - m) (by omega)
    refine ⟨A1,A2,B1,B2,e1,f1,by omega,by omega,fun x hx y hy=>?_,fun x hx y hy=>?_⟩
    · obtain ⟨q,q1,q2⟩:=e3 x hx
      obtain ⟨r,r1,r2,r3⟩:=f4 y hy
      have hs : lo < s:=by omega
      have g:=h3 (s - 1) (by omega) (by omega)
      have c1:=hB1 (s - 1) (by omega) (by omega)
      have p1 : s - 1 - a < A.length:=by omega
      have p3 : mid + m - 1 - (s - 1) - m < B.length:=by omega
      rw [List.getElem?_eq_getElem p1,List.getElem?_eq_getElem p3] at g
      have g1:=ha.le' ltI_o (p:=q) (q:=s - 1 - a) (by omega) q2 (List.getElem?_eq_getElem p1)
      have g2:=hb.le' ltI_o (p:=mid + m - 1 - (s - 1) - m) (q:=r) (by omega) (List.getElem?_eq_getElem p3) r3
      exact ltI_o.trans x _ y (ltI_o.trans x _ _ g1 g) g2
    · obtain ⟨q,q1,q2⟩:=f3 x hx
      obtain ⟨r,r1,r2,r3⟩:=e4 y hy
      have hs : s < hi:=by omega
      have g:=h4 s (by omega) (by omega)
      have c1:=hB1 s (by omega) (by omega)
      have p1 : s - a < A.length:=by omega
      have p3 : mid + m - 1 - s - m < B.length:=by omega
      rw [List.getElem?_eq_getElem p1,List.getElem?_eq_getElem p3] at g
      have g1:=ha.le' ltI_o (p:=s - a) (q:=r) (by omega) (List.getElem?_eq_getElem p1) r3
      have g2:=hb.le' ltI_o (p:=q) (q:=mid + m - 1 - s - m) (by omega) q2 (List.getElem?_eq_getElem p3)
      exact ltI_o.le_lt g2 (ltI_o.lt_le g g1)
  · unfold f85_p66b0
    dsimp only
    have b1:=hB1 ((u + v) / 2) (by omega) (by omega)
    have p1 : (u + v) / 2 - a < A.length:=by omega
    have p3 : mid + m - 1 - (u + v) / 2 - m < B.length:=by omega
    have y1:=atA _ _ (List.getElem?_eq_getElem p1)
    have y2:=atB _ _ (List.getElem?_eq_getElem p3)
    rw [show P.length + ((u + v) / 2 - a) = (u + v) / 2 by omega] at y1
    rw [show P.length + A.length + (mid + m - 1 - (u + v) / 2 - m) = mid + m - 1 - (u + v) / 2 by omega] at y2
    have a1:=hr.atO y1
    have a2:=hr.atO y2
    have a3:=a1.2.1
    have a4:=a2.2.1
    refine bB_t (decide_eq_true (by omega)) ⟨by decide,?_⟩
    rw [half_ok _ _ (by omega),w64_sub _ _ (by omega) (by omega)]
    refine ⟨by omega,?_⟩
    rw [toNat_c,a2.1]
    simp only [Ix.c,ext_0,ext_s,ext_z,cS_c,cI_c,cB_c,cL_c,cO_c,oS_c,oI_c,oB_c,oL_c,nilC_c,toNat_c]
    refine ⟨by omega,?_⟩
    rw [a1.1]
    simp only [Ix.c,ext_0,ext_s,ext_z,cS_c,cI_c,cB_c,cL_c,cO_c,oS_c,oI_c,oB_c,oL_c,nilC_c,toNat_c]
    refine f41_ok hu (x:=B[mid + m - 1 - (u + v) / 2 - m]) (y:=A[(u + v) / 2 - a]) fun z hz=>?_
    rw [hz,w64_s _ (by omega)]
    rw [List.getElem?_eq_getElem p1,List.getElem?_eq_getElem p3] at f1 f2
    refine bB_of (fun h5=>f1 ?_) fun h5=>f2 ?_
    · simpa [ltO] using h5
    · simpa [ltO] using h5
  · obtain ⟨A1,A2,B1,B2,rfl,rfl,e1,e2,c1,c2⟩:=hA
    simp only [List.length_append] at *
    unfold f85_p66b0
    dsimp only
    refine bB_f (decide_eq_false (Int.lt_irrefl _)) ?_
    rw [w64_sub _ _ (by omega) (by omega)]
    have er : P ++ (A1 ++ A2 ++ (B1 ++ B2 ++ Q)) = P ++ (A1 ++ (A2 ++ (B1 ++ (B2 ++ Q)))):=by simp
    rw [er] at hr
    have fin : ∀ es',SlR i n es' ((P ++ (A1 ++ (B1 ++ (A2 ++ (B2 ++ Q))))).map Ix.c)→f85_p83 R i n (a : Int) (b : Int) (mid : Int) (s : Int) ((mid + m - s : Nat) : Int) es' ue full K:=fun es' hr'=>by
      have:=so_sym83 hu (ue:=ue) (full:=full) (K:=K) hR (by omega) (by omega) ha hb c1 c2 hn hr' h
      rw [ea,eb,show mid = P.length + A1.length + B1.length by omega,show s = P.length + A1.length by omega,show P.length + A1.length + B1.length + m - (P.length + A1.length) = P.length + A1.length + B1.length + A2.length by omega]
      exact this
    refine bB_of (fun h5=>bB_of (fun h6=>?_) fun h6=>?_) fun h5=>?_
    · simp only [decide_eq_true_eq] at h5 h6
      have e3 : P ++ (A1 ++ (A2 ++ (B1 ++ (B2 ++ Q)))) = (P ++ A1) ++ (A2 ++ (B1 ++ (B2 ++ Q))):=by simp
      rw [e3] at hr
      have:=so_rot hu (ue:=ue) (full:=full) (K:=fun es' q0 q1=>f85_p83 R i n (a : Int) (b : Int) (mid : Int) (s : Int) ((mid + m - s : Nat) : Int) es' q0 q1 K) (by omega) (by omega) hn hr fun es' hr'=>fin es' (by
        have : P ++ (A1 ++ (B1 ++ (A2 ++ (B2 ++ Q)))) = (P ++ A1) ++ (B1 ++ (A2 ++ (B2 ++ Q))):=by simp
        rw [this]; exact hr')
      rw [List.length_append,show P.length + A1.length = s by omega,show s + A2.length = m by omega,show m + B1.length = mid + m - s by omega] at this
      exact this
    · simp only [decide_eq_false_iff_not] at h6
      obtain rfl : B1 = []:=List.length_eq_zero_iff.1 (by omega)
      exact fin es hr
    · simp only [decide_eq_false_iff_not] at h5
      obtain rfl : A2 = []:=List.length_eq_zero_iff.1 (by omega)
      exact fin es hr
theorem so_symS (hu : ue = us.map Exc.c) (hR : so_Spec us ue full R d) : so_Spec us ue full (f85_d R) (d + 1):=by
  intro P A B Q i n es K hd hA hB ha hb hn hr h
  unfold f85_d
  have hnn:=hr.n
  simp only [List.length_map,List.length_append] at hnn
  rw [w64_sub _ _ (by omega) (by omega),w64_sub _ _ (by omega) (by omega)]
  refine bB_of (fun h1=>?_) fun h1=>bB_of (fun h2=>?_) fun h2=>⟨by decide,?_⟩
  · have h1 : A.length = 1:=by rw [beq_iff_eq] at h1; omega
    obtain ⟨x,rfl⟩:=List.length_eq_one_iff.1 h1
    have:=so_sym1 hu (ue:=ue) (full:=full) (R:=R) (K:=K) hb hn hr h
    exact this
  · have h2 : B.length = 1:=by rw [beq_iff_eq] at h2; omega
    obtain ⟨x,rfl⟩:=List.length_eq_one_iff.1 h2
    exact so_sym2 hu (ue:=ue) (full:=full) ha hn hr h
  · have h1 : A.length≠1:=by rw [beq_eq_false_iff_ne] at h1; omega
    have h2 : B.length≠1:=by rw [beq_eq_false_iff_ne] at h2; omega
    rw [half_ok _ _ (by omega)]
    generalize hm : (P.length + (P.length + A.length + B.length)) / 2 = mid
    rw [w64_add mid _ (by omega)]
    refine bB_of (fun h3=>?_) fun h3=>?_
    · simp only [gt_iff_lt,decide_eq_true_eq] at h3
      rw [w64_sub _ _ (by omega) (by omega)]
      exact so_sym65 hu (ue:=ue) (full:=full) hR (by omega) (by omega) hd ha hb hn hr h rfl rfl rfl hm.symm (.inl ⟨by omega,rfl,rfl⟩)
    · simp only [gt_iff_lt,decide_eq_false_iff_not] at h3
      exact so_sym65 hu (ue:=ue) (full:=full) hR (by omega) (by omega) hd ha hb hn hr h rfl rfl rfl hm.symm (.inr ⟨by omega,rfl,rfl⟩)
end
theorem so_symN (hu : ue = us.map Exc.c) : ∀ d,so_Spec us ue full (f85_n d) d
  | 0=>by
    intros
    omega
  | d + 1=>so_symS hu (ue:=ue) (full:=full) (so_symN hu d)
theorem so_sym (hu : ue = us.map Exc.c) {P A B Q : List (Ix us)} {K : List (List PC)→(List (List PC))→Bool→Prop} (hA : 0 < A.length) (hB : 0 < B.length) (ha : Srt (ltI us) A) (hb : Srt (ltI us) B) (hn : n < 2 ^ 58) (hr : SlR i n es ((P ++ (A ++ (B ++ Q))).map Ix.c))
    (h : ∀ M es',Srt (ltI us) M→Stb (ltI us) (A ++ B) M→SlR i n es' ((P ++ (M ++ Q)).map Ix.c)→K es' ue full) : f85 i n (P.length : Int) ((P.length + A.length : Nat) : Int) ((P.length + A.length + B.length : Nat) : Int) es ue full K :=
  ⟨A.length + B.length,so_symN hu (ue:=ue) (full:=full) _ (Nat.le_refl _) hA hB ha hb hn hr h⟩
theorem so_stb18 (hu : ue = us.map Exc.c) {l : List (Ix us)} {k : Nat} (hk : 0 < k) (hk2 : k < n) (hn : n < 2 ^ 58) (hb : Blk (ltI us) k l) (hr : SlR i n es (l.map Ix.c)) {K : List (List PC)→(List (List PC))→Bool→Prop}
    (h : ∀ l' es',Blk (ltI us) (2 * k) l'→Stb (ltI us) l l'→SlR i n es' (l'.map Ix.c)→K es' ue full) :
    f65_p18 i n (n : Int) (k : Int) (fun n29 es30 q0 q1=>bB (decide ((w64 (n29 + (k : Int))) < (n : Int))) (f85 i n n29 (w64 (n29 + (k : Int))) (n : Int) es30 q0 q1 (fun es31 q0 q1=>K es31 q0 q1)) (K es30 q0 q1)) (0,((2 * k : Nat) : Int),es,ue,full):=by
  unfold f65_p18
  have hl:=hr.n
  rw [List.length_map] at hl
  refine LoopP.inv' n (fun d x=>∃ D Rr es,d = min (D.length) n∧x = (((D.length : Nat) : Int),((D.length + 2 * k : Nat) : Int),es,ue,full)∧D.length≤n∧Full (ltI us) (2 * k) D∧Blk (ltI us) k Rr∧Stb (ltI us) l (D ++ Rr)∧SlR i n es ((D ++ Rr).map Ix.c)) 0
    ⟨[],l,es,by simp,by simp,Nat.zero_le _,.nil,hb,.refl _,hr⟩ (Nat.zero_le _) (by omega) ?_ ?_
  · rintro d x' _ hd ⟨D,Rr,es,rfl,rfl,hDn,h1,h2,h3,hr⟩ N hN
    dsimp only
    have hl2:=hr.n
    rw [List.length_map,List.length_append] at hl2
    unfold f65_p18b0
    refine bB_of (fun h4=>?_) fun h4=>?_
    · simp only [decide_eq_true_eq] at h4
      obtain ⟨c1,r1,rfl,e1,s1,b1⟩:=h2.cut hk (by omega)
      rw [List.length_append] at hl2
      obtain ⟨c2,r2,rfl,e2,s2,b2⟩:=b1.cut hk (by omega)
      rw [List.length_append] at hl2
      rw [w64_add _ _ (by omega),w64_mul2 _ (by omega),w64_add _ _ (by omega)]
      have:=so_sym hu (ue:=ue) (full:=full) (P:=D) (A:=c1) (B:=c2) (Q:=r2) (K:=fun es28 q0 q1=>N (((D.length + 2 * k : Nat) : Int),((D.length + 2 * k + 2 * k : Nat) : Int),es28,q0,q1)) (by omega) (by omega) s1 s2 hn hr fun M es' m1 m2 m3=>?_
      · rw [e1,e2,show D.length + k + k = D.length + 2 * k by omega] at this
        exact this
      · have ml:=m2.len
        rw [List.length_append] at ml
        refine hN (min (D.length + 2 * k) n) _ (by omega) (by omega) ⟨D ++ M,r2,es',by rw [List.length_append]; congr 1; omega,by rw [List.length_append,show D.length + 2 * k = D.length + M.length by omega],by rw [List.length_append]; omega,h1.snoc (by omega) m1,b2,?_,?_⟩
        · refine h3.trans ?_
          have e3 : D ++ (c1 ++ (c2 ++ r2)) = D ++ (c1 ++ c2) ++ r2:=by simp
          rw [e3]
          exact m2.mid
        · rw [List.append_assoc]; exact m3
    · simp only [decide_eq_false_iff_not] at h4
      dsimp only
      rw [w64_add _ _ (by omega)]
      refine bB_of (fun h5=>?_) fun h5=>?_
      · simp only [decide_eq_true_eq] at h5
        obtain ⟨c1,r1,rfl,e1,s1,b1⟩:=h2.cut hk (by omega)
        rw [List.length_append] at hl2
        have s2:=b1.srt (by omega)
        have e0 : D ++ (c1 ++ r1) = D ++ (c1 ++ (r1 ++ [])):=by simp
        rw [e0] at hr
        have:=so_sym hu (ue:=ue) (full:=full) (P:=D) (A:=c1) (B:=r1) (Q:=[]) (K:=K) (by omega) (by omega) s1 s2 hn hr fun M es' m1 m2 m3=>?_
        · rw [e1,show D.length + k + r1.length = n by omega] at this
          exact this
        · have ml:=m2.len
          rw [List.length_append] at ml
          rw [List.append_nil] at m3
          exact h _ _ (h1.blk (.small M (by omega) m1)) (h3.trans (Stb.app (.refl D) m2)) m3
      · simp only [decide_eq_false_iff_not] at h5
        exact h _ _ (h1.blk (.small Rr (by omega) (h2.srt (by omega)))) h3 hr
  · rintro x' ⟨D,Rr,es,hd,rfl,hDn,h1,h2,h3,hr⟩ N
    dsimp only
    have hl2:=hr.n
    rw [List.length_map,List.length_append] at hl2
    unfold f65_p18b0
    refine bB_f (decide_eq_false (by omega)) ?_
    dsimp only
    rw [w64_add _ _ (by omega)]
    exact bB_f (decide_eq_false (by omega)) (h _ _ (h1.blk (.small Rr (by omega) (h2.srt (by omega)))) h3 hr)
theorem so_stbF (hu : ue = us.map Exc.c) {l D Rr : List (Ix us)} (hn : n < 2 ^ 58) (h1 : Full (ltI us) 20 D) (h3 : Stb (ltI us) l (D ++ Rr)) (hr : SlR i n es ((D ++ Rr).map Ix.c)) (hR : Rr.length < 20) {K : List (List PC)→(List (List PC))→Bool→Prop}
    (h : ∀ es',SlR i n es' ((isortL (ltI us) l).map Ix.c)→K es' ue full) : f84 i n ((D.length : Nat) : Int) (n : Int) es ue full (fun es15 q0 q1=>f65_p14 i n (n : Int) (fun es32 q0 q1=>K es32 q0 q1) (20,es15,q0,q1)):=by
  have hl2:=hr.n
  rw [List.length_map,List.length_append] at hl2
  have e0 : D ++ Rr = D ++ (Rr ++ []):=by simp
  rw [e0] at hr
  have:=so_ins hu (ue:=ue) (full:=full) (K:=fun es15 q0 q1=>f65_p14 i n (n : Int) (fun es32 q0 q1=>K es32 q0 q1) (20,es15,q0,q1)) hn hr fun M es' m1 m2 m3=>?_
  · rw [← hl2] at this
    exact this
  · have ml:=m2.len
    rw [List.append_nil] at m3
    have hb : Blk (ltI us) 20 (D ++ M):=h1.blk (.small M (by omega) m1)
    have hst : Stb (ltI us) l (D ++ M):=h3.trans (Stb.app (.refl D) m2)
    unfold f65_p14
    refine LoopP.inv' n (fun d x=>∃ k l' es,d = min k n∧20≤k∧x = (((k : Nat) : Int),es,ue,full)∧Blk (ltI us) k l'∧Stb (ltI us) l l'∧SlR i n es (l'.map Ix.c)) (min 20 n) ⟨20,D ++ M,es',rfl,Nat.le_refl _,rfl,hb,hst,m3⟩ (by omega) (by omega) ?_ ?_
    · rintro d x' _ hd ⟨k,l',es,rfl,hk,rfl,b1,b2,hr⟩ N hN
      dsimp only
      unfold f65_p14b0
      refine bB_t (decide_eq_true (by omega)) ?_
      rw [w64_mul2 _ (by omega),w64_mul2' _ (by omega)]
      refine so_stb18 hu (ue:=ue) (full:=full) (K:=fun es q0 q1=>N (((2 * k : Nat) : Int),es,q0,q1)) (by omega) (by omega) hn b1 hr fun l2 es2 g1 g2 g3=>hN (min (2 * k) n) _ (by omega) (by omega) ⟨2 * k,l2,es2,rfl,by omega,rfl,g1,b2.trans g2,g3⟩
    · rintro x' ⟨k,l',es,hd,hk,rfl,b1,b2,hr⟩ N
      dsimp only
      have hl3:=hr.n
      rw [List.length_map] at hl3
      unfold f65_p14b0
      refine bB_f (decide_eq_false (by omega)) (h es ?_)
      rw [← isortL_of ltI_o (b1.srt (by omega)) b2]
      exact hr
theorem so_stb (hu : ue = us.map Exc.c) {l : List (Ix us)} (hn : n < 2 ^ 58) (hr : SlR i n es (l.map Ix.c)) {K : List (List PC)→(List (List PC))→Bool→Prop}
    (h : ∀ es',SlR i n es' ((isortL (ltI us) l).map Ix.c)→K es' ue full) : f65 i n (n : Int) es ue full K:=by
  refine ⟨?_⟩
  unfold f65_d f65_p4
  have hl:=hr.n
  rw [List.length_map] at hl
  refine LoopP.inv' n (fun d x=>∃ D Rr es,d = min (D.length) n∧x = (((D.length : Nat) : Int),((D.length + 20 : Nat) : Int),es,ue,full)∧D.length≤n∧Full (ltI us) 20 D∧Stb (ltI us) l (D ++ Rr)∧SlR i n es ((D ++ Rr).map Ix.c)) 0
    ⟨[],l,es,by simp,rfl,Nat.zero_le _,.nil,.refl _,hr⟩ (Nat.zero_le _) (by omega) ?_ ?_
  · rintro d x' _ hd ⟨D,Rr,es,rfl,rfl,hDn,h1,h3,hr⟩ N hN
    dsimp only
    have hl2:=hr.n
    rw [List.length_map,List.length_append] at hl2
    unfold f65_p4b0
    refine bB_of (fun h4=>?_) fun h4=>?_
    · simp only [decide_eq_true_eq] at h4
      obtain ⟨c1,r1,rfl,e1,_,_⟩:=parted Rr (k:=20) (by omega)
      rw [List.length_append] at hl2
      have w20 : w64 (((D.length + 20 : Nat) : Int) + 20) = ((D.length + 20 + 20 : Nat) : Int):=w64_add _ 20 (by omega)
      dsimp only
      rw [w20]
      have i20 : ((D.length + 20 : Nat) : Int) = ((D.length + c1.length : Nat) : Int):=by rw [e1]
      rw [i20]
      refine so_ins hu (ue:=ue) (full:=full) hn hr fun M es' m1 m2 m3=>?_
      have ml:=m2.len
      refine hN (min (D.length + 20) n) _ (by omega) (by omega) ⟨D ++ M,r1,es',by rw [List.length_append]; congr 1; omega,by rw [List.length_append,← ml,e1],by rw [List.length_append]; omega,h1.snoc (by omega) m1,?_,?_⟩
      · refine h3.trans ?_
        have e3 : D ++ (c1 ++ r1) = D ++ c1 ++ r1:=by simp
        rw [e3]
        exact m2.mid
      · rw [List.append_assoc]; exact m3
    · simp only [decide_eq_false_iff_not] at h4
      exact so_stbF hu (ue:=ue) (full:=full) hn h1 h3 hr (by omega) h
  · rintro x' ⟨D,Rr,es,hd,rfl,hDn,h1,h3,hr⟩ N
    dsimp only
    have hl2:=hr.n
    rw [List.length_map,List.length_append] at hl2
    unfold f65_p4b0
    exact bB_f (decide_eq_false (by omega)) (so_stbF hu (ue:=ue) (full:=full) hn h1 h3 hr (by omega) h)
theorem so_top (hu : ue = us.map Exc.c) {l : List (Ix us)} (hn : n < 2 ^ 58) (hr : SlR i n es (l.map Ix.c)) {K : List (List PC)→(List (List PC))→Bool→Prop}
    (h : ∀ es',SlR i n es' ((isortL (ltI us) l).map Ix.c)→K es' ue full) : f40 i n es ue full K:=⟨so_stb hu (ue:=ue) (full:=full) hn hr h⟩
end
end Go.Eng.N
