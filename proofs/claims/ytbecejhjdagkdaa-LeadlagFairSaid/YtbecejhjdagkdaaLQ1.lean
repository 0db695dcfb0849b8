/- Plain facts about the order of the machines. -/
import Derived.Test.YtbecejhjdagkdaaLx6
set_option linter.unusedVariables false
set_option linter.unusedSimpArgs false
namespace Go.Proofs.Ytbecejhjdagkdaa.PL
open Go.RowKit Go.Proofs.Ytbecejhjdagkdaa.L Go.Proofs.YtbecejhjdagkdaaW.PrintWords Go.Proofs.YtbecejhjdagkdaaW.PrintLast Go.Proofs.YtbecejhjdagkdaaW.PrintMore

theorem w64 {x : Int} (h1 : -9223372036854775808 ≤ x) (h2 : x ≤ 9223372036854775807) : wrap64 x = x:=by
  unfold wrap64
  omega
theorem kof {k n : Nat} (h : n < k) : ∃ k', k = k' + 1 ∧ n ≤ k' := ⟨k - 1, by omega, by omega⟩
theorem getD_mid {α : Type} (d : α) (b : List α) (y : α) : ∀ (a : List α),(a ++ y :: b).getD a.length d = y
  | [] => rfl
  | x :: a => by
    simp
theorem rd_mid (a b : List Int) (y : Int) (i : Int) (hi : i = a.length) : rd (a ++ y :: b) i = y:=by
  subst hi
  unfold rd
  rw [Int.toNat_natCast]
  exact getD_mid 0 b y a
theorem set_mid {α : Type} (b : List α) (x y : α) : ∀ (a : List α),(a ++ x :: b).set a.length y = a ++ y :: b
  | [] => rfl
  | z :: a => by
    simp
def insr (c : Int→Int→Int) (y : Int) : List Int→List Int
  | [] => [y]
  | a :: rp => if c y a < 0 then a :: insr c y rp else y :: a :: rp
theorem insr_len (c : Int→Int→Int) (y : Int) : ∀ rp : List Int,(insr c y rp).length = rp.length + 1
  | [] => rfl
  | a :: rp => by
    unfold insr
    split
    · simp [insr_len c y rp]
    · simp
theorem insr_perm (c : Int→Int→Int) (y : Int) : ∀ rp : List Int,(insr c y rp).Perm (y :: rp)
  | [] => List.Perm.refl _
  | a :: rp => by
    unfold insr
    split
    · exact ((insr_perm c y rp).cons a).trans (List.Perm.swap y a rp)
    · exact List.Perm.refl _
def isort (c : Int→Int→Int) : List Int→List Int→List Int
  | rp,[] => rp.reverse
  | rp,y :: ys => isort c (insr c y rp) ys
theorem isort_perm (c : Int→Int→Int) : ∀ (ys rp : List Int),(isort c rp ys).Perm (rp ++ ys)
  | [],rp => by
    unfold isort
    simp
  | y :: ys,rp => by
    unfold isort
    refine (isort_perm c ys (insr c y rp)).trans ?_
    refine ((insr_perm c y rp).append_right ys).trans ?_
    exact List.perm_middle.symm
theorem insr_sorted (c : Int→Int→Int) (hT : ∀ a b d,¬ c a b < 0→¬ c b d < 0→¬ c a d < 0) (hA : ∀ a b,c a b < 0→¬ c b a < 0) (y : Int) : ∀ rp : List Int,rp.Pairwise (fun a b => ¬ c a b < 0)→(insr c y rp).Pairwise (fun a b => ¬ c a b < 0)
  | [],_ => by simp [insr]
  | a :: rp,h => by
    obtain ⟨h1,h2⟩:=List.pairwise_cons.1 h
    unfold insr
    split
    · rename_i hc
      refine List.pairwise_cons.2 ⟨fun z hz => ?_,insr_sorted c hT hA y rp h2⟩
      rcases List.mem_cons.1 ((insr_perm c y rp).mem_iff.1 hz) with rfl | hz
      · exact hA _ _ hc
      · exact h1 z hz
    · rename_i hc
      refine List.pairwise_cons.2 ⟨fun z hz => ?_,h⟩
      rcases List.mem_cons.1 hz with rfl | hz
      · exact hc
      · exact hT _ _ _ hc (h1 z hz)
theorem isort_sorted (c : Int→Int→Int) (hT : ∀ a b d,¬ c a b < 0→¬ c b d < 0→¬ c a d < 0) (hA : ∀ a b,c a b < 0→¬ c b a < 0) : ∀ (ys rp : List Int),rp.Pairwise (fun a b => ¬ c a b < 0)→(isort c rp ys).Pairwise (fun a b => ¬ c b a < 0)
  | [],rp,h => by
    unfold isort
    exact List.pairwise_reverse.2 h
  | y :: ys,rp,h => by
    unfold isort
    exact isort_sorted c hT hA ys _ (insr_sorted c hT hA y rp h)
theorem ins_l1 (pf : Int→Int→Option Int) (c : Int→Int→Int) (n : Int) (R : List Int) (N : Nat) (i : Int) (hi : wrap64 (i + 1) = i + 1) (y : Int) : ∀ (rp post : List Int) (k : Nat),
    (∀ a ∈ rp, pf y a = some (c y a)) → rp.length < 1000000 → (∀ k', N < k' → slices_insertionSortCmpFunc_int.l0 pf k' ((insr c y rp).reverse ++ post) 0 n (i + 1) = some R) → N + rp.length + 1 < k →
    slices_insertionSortCmpFunc_int.l1 pf k (rp.reverse ++ y :: post) 0 n i rp.length = some R
  | [],post,k,hp,hl,hR,hk => by
    obtain ⟨k,rfl,hk⟩:=kof hk
    simp only [slices_insertionSortCmpFunc_int.l1]
    rw [if_neg (by simp),hi]
    have:=hR k (by simp at hk;omega)
    simpa [insr] using this
  | a :: rp,post,k,hp,hl,hR,hk => by
    obtain ⟨k,rfl,hk⟩:=kof hk
    simp only [List.length_cons] at hl hk
    have hw : wrap64 (((a :: rp).length : Int) - 1) = (rp.length : Int):=by
      rw [w64 (by first | (simp;done) | (simp;omega)) (by first | (simp;done) | (simp;omega))]
      simp
    have e1 : (a :: rp).reverse ++ y :: post = (rp.reverse ++ [a]) ++ y :: post:=by simp
    have e2 : (a :: rp).reverse ++ y :: post = rp.reverse ++ a :: (y :: post):=by simp
    have r1 : rd ((a :: rp).reverse ++ y :: post) ((a :: rp).length : Int) = y:=by
      rw [e1]
      exact rd_mid _ _ _ _ (by simp)
    have r2 : rd ((a :: rp).reverse ++ y :: post) (rp.length : Int) = a:=by
      rw [e2]
      exact rd_mid _ _ _ _ (by simp)
    have hlen : (((a :: rp).reverse ++ y :: post).length : Int) = rp.length + 2 + post.length:=by first | (simp;done) | (simp;omega)
    simp only [slices_insertionSortCmpFunc_int.l1]
    rw [if_pos (by first | (simp;done) | (simp;omega)),if_pos (by omega),if_pos (by rw [hlen];first | (simp;done) | (simp;omega)),hw,if_pos (by omega),if_pos (by rw [hlen];omega),r1,r2,hp a List.mem_cons_self]
    simp only [Option.bind_some]
    by_cases hc : c y a < 0
    · rw [if_pos hc]
      have s1 : ((a :: rp).reverse ++ y :: post).set ((a :: rp).length : Int).toNat a = rp.reverse ++ a :: a :: post:=by
        rw [e1,Int.toNat_natCast]
        simp
      have s2 : (rp.reverse ++ a :: a :: post).set ((rp.length : Nat) : Int).toNat y = rp.reverse ++ y :: (a :: post):=by
        rw [Int.toNat_natCast]
        simp
      rw [s1,s2]
      refine ins_l1 pf c n R N i hi y rp (a :: post) k (fun b hb => hp b (List.mem_cons_of_mem _ hb)) (by omega) (fun k' hk' => ?_) (by omega)
      have:=hR k' hk'
      unfold insr at this
      rw [if_pos hc] at this
      simpa using this
    · rw [if_neg hc,hi]
      have:=hR k (by omega)
      unfold insr at this
      rw [if_neg hc] at this
      simpa using this
theorem ins_l0 (pf : Int→Int→Option Int) (c : Int→Int→Int) (n : Nat) (hn : n < 1000) : ∀ (ys rp : List Int) (k : Nat),(∀ a ∈ rp ++ ys,∀ b ∈ rp ++ ys,pf a b = some (c a b))→rp.length + ys.length = n→ys.length * (n + 3) + 2 < k →
    slices_insertionSortCmpFunc_int.l0 pf k (rp.reverse ++ ys) 0 n rp.length = some (isort c rp ys)
  | [],rp,k,hp,hl,hk => by
    obtain ⟨k,rfl,_⟩:=kof hk
    simp only [slices_insertionSortCmpFunc_int.l0]
    rw [if_neg (by simp at hl;omega)]
    simp [isort]
  | y :: ys,rp,k,hp,hl,hk => by
    obtain ⟨k,rfl,hk⟩:=kof hk
    simp only [List.length_cons] at hl hk
    have hm : (ys.length + 1) * (n + 3) = ys.length * (n + 3) + (n + 3):=Nat.succ_mul _ _
    simp only [slices_insertionSortCmpFunc_int.l0]
    rw [if_pos (by omega)]
    have hw : wrap64 ((rp.length : Int) + 1) = (rp.length : Int) + 1:=w64 (by omega) (by omega)
    refine ins_l1 pf c n _ (ys.length * (n + 3) + 2) rp.length hw y rp ys k (fun a ha => hp y (by simp) a (by simp [ha])) (by omega) (fun k' hk' => ?_) (by omega)
    have hq : ∀ a,a ∈ insr c y rp ++ ys ↔ a ∈ rp ++ y :: ys:=by
      intro a
      rw [List.mem_append,List.mem_append,(insr_perm c y rp).mem_iff,List.mem_cons,List.mem_cons]
      exact ⟨fun h => h.elim (fun h => h.elim (fun h => .inr (.inl h)) .inl) (fun h => .inr (.inr h)),fun h => h.elim (fun h => .inl (.inr h)) (fun h => h.elim (fun h => .inl (.inl h)) .inr)⟩
    have:=ins_l0 pf c n hn ys (insr c y rp) k' (fun a ha b hb => hp a ((hq a).1 ha) b ((hq b).1 hb)) (by rw [insr_len];omega) hk'
    rw [insr_len] at this
    simpa [isort] using this
theorem sort_f (pf : Int→Int→Option Int) (c : Int→Int→Int) (l : List Int) (hl : l.length ≤ 16) (hp : ∀ a ∈ l,∀ b ∈ l,pf a b = some (c a b)) {k : Nat} (hk : 400 ≤ k) : slices_SortStableFunc_int_int.f pf k l = some (isort c [] l):=by
  unfold slices_SortStableFunc_int_int.f slices_stableCmpFunc_int.f
  obtain ⟨k,rfl,hk⟩:=kof (n:=399) (k:=k) (by omega)
  have hm : l.length * (l.length + 3) ≤ 16 * 19:=Nat.mul_le_mul hl (by omega)
  simp only [slices_stableCmpFunc_int.l0]
  rw [if_neg (by omega)]
  have hs : slices_insertionSortCmpFunc_int.f pf k l 0 l.length = some (isort c [] l):=by
    unfold slices_insertionSortCmpFunc_int.f
    rw [show wrap64 (0 + 1) = 1 from w64 (by omega) (by omega)]
    cases l with
    | nil =>
      obtain ⟨k,rfl,_⟩:=kof (n:=300) (k:=k) (by omega)
      simp only [slices_insertionSortCmpFunc_int.l0]
      rw [if_neg (by simp)]
      rfl
    | cons y ys =>
      have h2 : ys.length * ((y :: ys).length + 3) ≤ (y :: ys).length * ((y :: ys).length + 3):=Nat.mul_le_mul_right _ (by simp)
      have:=ins_l0 pf c (y :: ys).length (by omega) ys [y] k (by simpa using hp) (by simp;omega) (by omega)
      simpa [isort,insr] using this
  rw [hs]
  obtain ⟨k,rfl,_⟩:=kof (n:=300) (k:=k) (by omega)
  simp only [Option.bind_some,slices_stableCmpFunc_int.l1]
  rw [if_neg (by omega)]
  rfl

/-! ### The comparison of machines -/
def cm (us : List S62) (a b : Int) : Int :=
  if (rd_T62 us a).f2 = true∧(rd_T62 us b).f2 = true then 0 else if (rd_T62 us a).f2 = true then 1 else if (rd_T62 us b).f2 = true then -1 else if (rd_T62 us a).f0 < (rd_T62 us b).f0 then -1 else if (rd_T62 us a).f0 > (rd_T62 us b).f0 then 1 else 0
theorem cm_lt (us : List S62) (a b : Int) : cm us a b < 0 ↔ ((rd_T62 us a).f2 = false∧((rd_T62 us b).f2 = true ∨ (rd_T62 us a).f0 < (rd_T62 us b).f0)):=by
  unfold cm
  cases (rd_T62 us a).f2 <;> cases (rd_T62 us b).f2 <;> simp
  split
  · simp;assumption
  · split <;> simp <;> omega
theorem cm_f (us : List S62) (s t a b : Int) (ha : 0 ≤ a) (ha2 : a < us.length) (hb : 0 ≤ b) (hb2 : b < us.length) : leadlag_Order_1.f 1 a b us s t = some (cm us a b):=by
  unfold leadlag_Order_1.f cm
  rw [if_pos ha,if_pos ha2,if_pos hb,if_pos hb2]
  simp only [leadlag_Order_1.j0]
  cases (rd_T62 us a).f2 <;> cases (rd_T62 us b).f2 <;> simp [cmp_Compare_int.f,cmp_isNaN_int.f]
  split
  · simp
  · split <;> simp
theorem cm_T (us : List S62) (a b d : Int) (h1 : ¬ cm us a b < 0) (h2 : ¬ cm us b d < 0) : ¬ cm us a d < 0:=by
  rw [cm_lt] at *
  cases e1 : (rd_T62 us a).f2 <;> cases e2 : (rd_T62 us b).f2 <;> cases e3 : (rd_T62 us d).f2 <;> simp_all <;> omega
theorem cm_A (us : List S62) (a b : Int) (h : cm us a b < 0) : ¬ cm us b a < 0:=by
  rw [cm_lt] at *
  cases e1 : (rd_T62 us a).f2 <;> cases e2 : (rd_T62 us b).f2 <;> simp_all <;> omega
def rng (n : Nat) : List Int:=(List.range n).map Int.ofNat
theorem rng_len (n : Nat) : (rng n).length = n:=by simp [rng]
theorem rng_mem {n : Nat} {x : Int} : x ∈ rng n ↔ 0 ≤ x∧x < n:=by
  unfold rng
  rw [List.mem_map]
  constructor
  · rintro ⟨a,ha,rfl⟩
    have:=List.mem_range.1 ha
    exact ⟨by simp,by simp;omega⟩
  · rintro ⟨h1,h2⟩
    exact ⟨x.toNat,List.mem_range.2 (by omega),by simp;omega⟩
theorem rng_succ (n : Nat) : rng (n + 1) = rng n ++ [(n : Int)]:=by
  unfold rng
  rw [List.range_succ]
  simp
def ord (us : List S62) : List Int:=isort (cm us) [] (rng us.length)
theorem ord_perm (us : List S62) : (ord us).Perm (rng us.length):=by
  have:=isort_perm (cm us) (rng us.length) []
  rwa [List.nil_append] at this
theorem ord_sorted (us : List S62) : (ord us).Pairwise (fun a b => ¬ cm us b a < 0):=isort_sorted (cm us) (cm_T us) (cm_A us) _ [] List.Pairwise.nil
theorem order_l0 (us : List S62) (hl : us.length ≤ 16) (s t : Int) : ∀ (m i : Nat) (k : Nat),i + m = us.length→m + 450 < k→leadlag_Order.l0 k (rng i) us.length i us s t = some (ord us)
  | 0,i,k,h,hk => by
    obtain ⟨k,rfl,hk⟩:=kof hk
    simp only [leadlag_Order.l0]
    rw [if_neg (by omega)]
    unfold leadlag_sortBy.f
    obtain rfl : i = us.length:=by omega
    rw [sort_f _ (cm us) (rng us.length) (by rw [rng_len];exact hl) (fun a ha b hb => cm_f us s t a b (rng_mem.1 ha).1 (rng_mem.1 ha).2 (rng_mem.1 hb).1 (rng_mem.1 hb).2) (by omega)]
    rfl
  | m + 1,i,k,h,hk => by
    obtain ⟨k,rfl,hk⟩:=kof hk
    have hw : wrap64 ((i : Int) + 1) = ((i + 1 : Nat) : Int):=by rw [w64 (by omega) (by omega)];simp
    simp only [leadlag_Order.l0]
    rw [if_pos (by omega),if_pos (by rw [rng_len];omega),hw,← rng_succ]
    exact order_l0 us hl s t m (i + 1) k (by omega) (by omega)
theorem order_f (us : List S62) (hl : us.length ≤ 16) (s t : Int) {k : Nat} (hk : 500 ≤ k) : leadlag_Order.f k us s t = some (ord us):=by
  unfold leadlag_Order.f
  exact order_l0 us hl s t us.length 0 k (by omega) (by omega)
end Go.Proofs.Ytbecejhjdagkdaa.PL
