/- What the functions that the law reaches compute, by the engine; written by program. -/
import Derived.Test.YtcklpjecelnamaaGreatDoorFn1
import Derived.Test.YtcklpjecelnamaaGreatDoorFn2
import Derived.Test.YtcklpjecelnamaaGreatDoorEng3
import Derived.Test.YtcklpjecelnamaaGreatDoorShelf
set_option linter.unusedVariables false
set_option maxRecDepth 100000
open Go Go.Eng Go.Proofs
namespace Go.Eng.N
noncomputable section
abbrev f121_T : Type:=Nat→Nat→Int→Int→Int→(LL)→(LL)→Bool→((LL)→(LL)→Bool→Prop)→Prop
def f121_p6b0 (R : f121_T) (i9 n10 : Nat) (n11 n12 n13 : Int) (es14 es15 : LL) (full16 : Bool) (N0 : Int→Int→(LL)→Bool→Prop) (k0 : Int→(LL)→Bool→Prop) : Prop:=bB (decide (n12 < n13)) (0≤(1 : Int)∧(0≤(w64 (Int.fdiv (IntKind.wrap .u64 (w64 (n12 + n13))) (2 ^ (min (Int.toNat 1) 64))))∧(w64 (Int.fdiv (IntKind.wrap .u64 (w64 (n12 + n13))) (2 ^ (min (Int.toNat 1) 64)))) < (n10 : Int))∧oI .i64 (ext (List.getD es14 (i9 + (Int.toNat (w64 (Int.fdiv (IntKind.wrap .u64 (w64 (n12 + n13))) (2 ^ (min (Int.toNat 1) 64)))))) []) 0 1) fun n17=>(0≤n11∧n11 < (n10 : Int))∧oI .i64 (ext (List.getD es14 (i9 + (Int.toNat n11)) []) 0 1) fun n18=>f91 n17 n18 es15 full16 (fun n19 es20 full21=>bB (decide (n19 < 0)) (N0 (w64 ((w64 (Int.fdiv (IntKind.wrap .u64 (w64 (n12 + n13))) (2 ^ (min (Int.toNat 1) 64)))) + 1)) n13 es20 full21) (N0 n12 (w64 (Int.fdiv (IntKind.wrap .u64 (w64 (n12 + n13))) (2 ^ (min (Int.toNat 1) 64)))) es20 full21))) (k0 n12 es15 full16)
def f121_p6 (R : f121_T) (i9 n10 : Nat) (n11 : Int) (es14 : LL) (k0 : Int→(LL)→Bool→Prop) : Int×Int×(LL)×Bool→Prop:=LoopP fun x N=>(f121_p6b0 R) i9 n10 n11 x.1 x.2.1 es14 x.2.2.1 x.2.2.2 (fun n12 n13 es15 full16=>N (n12,n13,es15,full16)) k0
def f121_p18b0 (R : f121_T) (i25 n26 : Nat) (n27 n28 : Int) (es29 es30 : LL) (full31 : Bool) (N0 : Int→(LL)→Prop) (k0 : (LL)→Prop) : Prop:=bB (decide (n28 < (w64 (n27 - 1)))) ((0≤(w64 (n28 + 1))∧(w64 (n28 + 1)) < (n26 : Int))∧oI .i64 (ext (List.getD es29 (i25 + (Int.toNat (w64 (n28 + 1)))) []) 0 1) fun n32=>(0≤n28∧n28 < (n26 : Int))∧oI .i64 (ext (List.getD es29 (i25 + (Int.toNat n28)) []) 0 1) fun n33=>(0≤n28∧n28 < (n26 : Int))∧(i25 + (Int.toNat n28)) < es29.length∧(0≤(w64 (n28 + 1))∧(w64 (n28 + 1)) < (n26 : Int))∧(i25 + (Int.toNat (w64 (n28 + 1)))) < (List.set es29 (i25 + (Int.toNat n28)) (splice (List.getD es29 (i25 + (Int.toNat n28)) []) 0 [pI n32])).length∧N0 (w64 (n28 + 1)) (List.set (List.set es29 (i25 + (Int.toNat n28)) (splice (List.getD es29 (i25 + (Int.toNat n28)) []) 0 [pI n32])) (i25 + (Int.toNat (w64 (n28 + 1)))) (splice (List.getD (List.set es29 (i25 + (Int.toNat n28)) (splice (List.getD es29 (i25 + (Int.toNat n28)) []) 0 [pI n32])) (i25 + (Int.toNat (w64 (n28 + 1)))) []) 0 [pI n33]))) (k0 es29)
def f121_p18 (R : f121_T) (i25 n26 : Nat) (n27 : Int) (es30 : LL) (full31 : Bool) (k0 : (LL)→Prop) : Int×(LL)→Prop:=LoopP fun x N=>(f121_p18b0 R) i25 n26 n27 x.1 x.2 es30 full31 (fun n28 es29=>N (n28,es29)) k0
def f121_p30b0 (R : f121_T) (i35 n36 : Nat) (n37 n38 n39 : Int) (es40 es41 : LL) (full42 : Bool) (N0 : Int→Int→(LL)→Bool→Prop) (k0 : Int→(LL)→Bool→Prop) : Prop:=bB (decide (n38 < n39)) (0≤(1 : Int)∧(0≤n37∧n37 < (n36 : Int))∧oI .i64 (ext (List.getD es40 (i35 + (Int.toNat n37)) []) 0 1) fun n43=>(0≤(w64 (Int.fdiv (IntKind.wrap .u64 (w64 (n38 + n39))) (2 ^ (min (Int.toNat 1) 64))))∧(w64 (Int.fdiv (IntKind.wrap .u64 (w64 (n38 + n39))) (2 ^ (min (Int.toNat 1) 64)))) < (n36 : Int))∧oI .i64 (ext (List.getD es40 (i35 + (Int.toNat (w64 (Int.fdiv (IntKind.wrap .u64 (w64 (n38 + n39))) (2 ^ (min (Int.toNat 1) 64)))))) []) 0 1) fun n44=>f91 n43 n44 es41 full42 (fun n45 es46 full47=>bB (!(decide (n45 < 0))) (N0 (w64 ((w64 (Int.fdiv (IntKind.wrap .u64 (w64 (n38 + n39))) (2 ^ (min (Int.toNat 1) 64)))) + 1)) n39 es46 full47) (N0 n38 (w64 (Int.fdiv (IntKind.wrap .u64 (w64 (n38 + n39))) (2 ^ (min (Int.toNat 1) 64)))) es46 full47))) (k0 n38 es41 full42)
def f121_p30 (R : f121_T) (i35 n36 : Nat) (n37 : Int) (es40 : LL) (k0 : Int→(LL)→Bool→Prop) : Int×Int×(LL)×Bool→Prop:=LoopP fun x N=>(f121_p30b0 R) i35 n36 n37 x.1 x.2.1 es40 x.2.2.1 x.2.2.2 (fun n38 n39 es41 full42=>N (n38,n39,es41,full42)) k0
def f121_p42b0 (R : f121_T) (i51 n52 : Nat) (n53 n54 : Int) (es55 es56 : LL) (full57 : Bool) (N0 : Int→(LL)→Prop) (k0 : (LL)→Prop) : Prop:=bB (decide (n54 > n53)) ((0≤(w64 (n54 - 1))∧(w64 (n54 - 1)) < (n52 : Int))∧oI .i64 (ext (List.getD es55 (i51 + (Int.toNat (w64 (n54 - 1)))) []) 0 1) fun n58=>(0≤n54∧n54 < (n52 : Int))∧oI .i64 (ext (List.getD es55 (i51 + (Int.toNat n54)) []) 0 1) fun n59=>(0≤n54∧n54 < (n52 : Int))∧(i51 + (Int.toNat n54)) < es55.length∧(0≤(w64 (n54 - 1))∧(w64 (n54 - 1)) < (n52 : Int))∧(i51 + (Int.toNat (w64 (n54 - 1)))) < (List.set es55 (i51 + (Int.toNat n54)) (splice (List.getD es55 (i51 + (Int.toNat n54)) []) 0 [pI n58])).length∧N0 (w64 (n54 - 1)) (List.set (List.set es55 (i51 + (Int.toNat n54)) (splice (List.getD es55 (i51 + (Int.toNat n54)) []) 0 [pI n58])) (i51 + (Int.toNat (w64 (n54 - 1)))) (splice (List.getD (List.set es55 (i51 + (Int.toNat n54)) (splice (List.getD es55 (i51 + (Int.toNat n54)) []) 0 [pI n58])) (i51 + (Int.toNat (w64 (n54 - 1)))) []) 0 [pI n59]))) (k0 es55)
def f121_p42 (R : f121_T) (i51 n52 : Nat) (n53 : Int) (es56 : LL) (full57 : Bool) (k0 : (LL)→Prop) : Int×(LL)→Prop:=LoopP fun x N=>(f121_p42b0 R) i51 n52 n53 x.1 x.2 es56 full57 (fun n54 es55=>N (n54,es55)) k0
def f121_p66b0 (R : f121_T) (i73 n74 : Nat) (n75 n76 : Int) (n77 n78 : Int) (n79 n80 : Int) (n81 n82 : Int) (es83 es84 : LL) (full85 : Bool) (N0 : Int→Int→(LL)→Bool→Prop) (k0 : Int→(LL)→Bool→Prop) : Prop:=bB (decide (n80 < n81)) (0≤(1 : Int)∧(0≤(w64 (n82 - (w64 (Int.fdiv (IntKind.wrap .u64 (w64 (n80 + n81))) (2 ^ (min (Int.toNat 1) 64))))))∧(w64 (n82 - (w64 (Int.fdiv (IntKind.wrap .u64 (w64 (n80 + n81))) (2 ^ (min (Int.toNat 1) 64)))))) < (n74 : Int))∧oI .i64 (ext (List.getD es83 (i73 + (Int.toNat (w64 (n82 - (w64 (Int.fdiv (IntKind.wrap .u64 (w64 (n80 + n81))) (2 ^ (min (Int.toNat 1) 64)))))))) []) 0 1) fun n86=>(0≤(w64 (Int.fdiv (IntKind.wrap .u64 (w64 (n80 + n81))) (2 ^ (min (Int.toNat 1) 64))))∧(w64 (Int.fdiv (IntKind.wrap .u64 (w64 (n80 + n81))) (2 ^ (min (Int.toNat 1) 64)))) < (n74 : Int))∧oI .i64 (ext (List.getD es83 (i73 + (Int.toNat (w64 (Int.fdiv (IntKind.wrap .u64 (w64 (n80 + n81))) (2 ^ (min (Int.toNat 1) 64)))))) []) 0 1) fun n87=>f91 n86 n87 es84 full85 (fun n88 es89 full90=>bB (!(decide (n88 < 0))) (N0 (w64 ((w64 (Int.fdiv (IntKind.wrap .u64 (w64 (n80 + n81))) (2 ^ (min (Int.toNat 1) 64)))) + 1)) n81 es89 full90) (N0 n80 (w64 (Int.fdiv (IntKind.wrap .u64 (w64 (n80 + n81))) (2 ^ (min (Int.toNat 1) 64)))) es89 full90))) (k0 n80 es84 full85)
def f121_p66 (R : f121_T) (i73 n74 : Nat) (n75 n76 : Int) (n77 n78 : Int) (n79 n82 : Int) (es83 : LL) (k0 : Int→(LL)→Bool→Prop) : Int×Int×(LL)×Bool→Prop:=LoopP fun x N=>(f121_p66b0 R) i73 n74 n75 n76 n77 n78 n79 x.1 x.2.1 n82 es83 x.2.2.1 x.2.2.2 (fun n80 n81 es84 full85=>N (n80,n81,es84,full85)) k0
def f121_p87 (R : f121_T) (i110 n111 : Nat) (n112 n113 n114 : Int) (es115 es116 : LL) (full117 : Bool) (k0 : (LL)→(LL)→Bool→Prop) : Prop:=bB (decide (n113 < n114)) (bB (decide (n114 < n112)) (R i110 n111 n113 n114 n112 es115 es116 full117 (fun es118 es119 full120=>k0 es118 es119 full120)) (k0 es115 es116 full117)) (k0 es115 es116 full117)
def f121_p83 (R : f121_T) (i97 n98 : Nat) (n99 n100 : Int) (n101 n102 n103 : Int) (es104 es105 : LL) (full106 : Bool) (k0 : (LL)→(LL)→Bool→Prop) : Prop:=bB (decide (n99 < n102)) (bB (decide (n102 < n101)) (R i97 n98 n99 n102 n101 es104 es105 full106 (fun es107 es108 full109=>(f121_p87 R) i97 n98 n100 n101 n103 es107 es108 full109 (fun es121 es122 full123=>k0 es121 es122 full123))) ((f121_p87 R) i97 n98 n100 n101 n103 es104 es105 full106 (fun es124 es125 full126=>k0 es124 es125 full126))) ((f121_p87 R) i97 n98 n100 n101 n103 es104 es105 full106 (fun es127 es128 full129=>k0 es127 es128 full129))
def f121_p65 (R : f121_T) (i61 n62 : Nat) (n63 n64 : Int) (n65 n66 : Int) (n67 n68 n69 : Int) (es70 es71 : LL) (full72 : Bool) (k0 : (LL)→(LL)→Bool→Prop) : Prop:=(f121_p66 R) i61 n62 n63 n64 n65 n66 n67 (w64 (n67 - 1)) es70 (fun n91 es92 full93=>bB (decide (n91 < n64)) (bB (decide (n64 < (w64 (n67 - n91)))) (f130 i61 n62 n91 n64 (w64 (n67 - n91)) es70 es92 full93 (fun es94 es95 full96=>(f121_p83 R) i61 n62 n63 n65 n66 n91 (w64 (n67 - n91)) es94 es95 full96 (fun es130 es131 full132=>k0 es130 es131 full132))) ((f121_p83 R) i61 n62 n63 n65 n66 n91 (w64 (n67 - n91)) es70 es92 full93 (fun es133 es134 full135=>k0 es133 es134 full135))) ((f121_p83 R) i61 n62 n63 n65 n66 n91 (w64 (n67 - n91)) es70 es92 full93 (fun es136 es137 full138=>k0 es136 es137 full138))) (n68,n69,es71,full72)
def f121_d (R : f121_T) (i1 n2 : Nat) (n3 n4 n5 : Int) (es6 es7 : LL) (full8 : Bool) (k0 : (LL)→(LL)→Bool→Prop) : Prop:=bB ((w64 (n4 - n3)) == 1) ((f121_p6 R) i1 n2 n3 es6 (fun n22 es23 full24=>(f121_p18 R) i1 n2 n22 es23 full24 (fun es34=>k0 es34 es23 full24) (n3,es6)) (n4,n5,es7,full8)) (bB ((w64 (n5 - n4)) == 1) ((f121_p30 R) i1 n2 n4 es6 (fun n48 es49 full50=>(f121_p42 R) i1 n2 n48 es49 full50 (fun es60=>k0 es60 es49 full50) (n4,es6)) (n3,n4,es7,full8)) (0≤(1 : Int)∧bB (decide (n4 > (w64 (Int.fdiv (IntKind.wrap .u64 (w64 (n3 + n5))) (2 ^ (min (Int.toNat 1) 64)))))) ((f121_p65 R) i1 n2 n3 n4 n5 (w64 (Int.fdiv (IntKind.wrap .u64 (w64 (n3 + n5))) (2 ^ (min (Int.toNat 1) 64)))) (w64 ((w64 (Int.fdiv (IntKind.wrap .u64 (w64 (n3 + n5))) (2 ^ (min (Int.toNat 1) 64)))) + n4)) (w64 ((w64 ((w64 (Int.fdiv (IntKind.wrap .u64 (w64 (n3 + n5))) (2 ^ (min (Int.toNat 1) 64)))) + n4)) - n5)) (w64 (Int.fdiv (IntKind.wrap .u64 (w64 (n3 + n5))) (2 ^ (min (Int.toNat 1) 64)))) es6 es7 full8 (fun es139 es140 full141=>k0 es139 es140 full141)) ((f121_p65 R) i1 n2 n3 n4 n5 (w64 (Int.fdiv (IntKind.wrap .u64 (w64 (n3 + n5))) (2 ^ (min (Int.toNat 1) 64)))) (w64 ((w64 (Int.fdiv (IntKind.wrap .u64 (w64 (n3 + n5))) (2 ^ (min (Int.toNat 1) 64)))) + n4)) n3 n4 es6 es7 full8 (fun es142 es143 full144=>k0 es142 es143 full144))))
def f121_n : Nat→f121_T:=fun n=>Nat.rec (motive:=fun _=>f121_T) (fun _ _ _ _ _ _ _ _ _=>False) (fun _ ih=>f121_d ih) n
structure f121 (i1 n2 : Nat) (n3 n4 n5 : Int) (es6 es7 : LL) (full8 : Bool) (k0 : (LL)→(LL)→Bool→Prop) : Prop where
  run : ∃ n,f121_n n i1 n2 n3 n4 n5 es6 es7 full8 k0
def f121_p6L (R : f121_T) : Told:=fun s K=>match s with
  | ⟨tm,hp⟩=>getS [.v (.one (.ref 0)),.v (.one (.int .i64)),.skip 2,.v (.clo 91 [] [.ptr 1 0 0]),.skip 5,.v (.one (.int .i64)),.v (.one (.int .i64)),.skip 208] [.vec 1 true,.box [.sl 15]] tm hp fun (xx : ((Nat×Nat)×(Int×(Unit×((Unit×(Unit×Unit))×(Unit×(Int×(Int×(Unit×Unit))))))))) (yy : ((LL)×(((LL×Bool)×Unit)×Unit)))=>(f121_p6 R) xx.1.1 xx.1.2 xx.2.1 yy.1 (fun n0_0 es0_1 full0_2=>K (.exit 0) ⟨mkS 220 [(0,.w (.one (.ref 0 xx.1.1 xx.1.2))),(1,I xx.2.1),(10,I n0_0)],[.vec 1 yy.1 true,.box [.p (.sl 15 es0_1 full0_2)]]⟩) (xx.2.2.2.2.2.1,xx.2.2.2.2.2.2.1,yy.2.1.1.1,yy.2.1.1.2)
def f121_p18L (R : f121_T) : Told:=fun s K=>match s with
  | ⟨tm,hp⟩=>getS [.v (.one (.ref 0)),.skip 9,.v (.one (.int .i64)),.skip 2,.v (.one (.int .i64)),.skip 206] [.vec 1 true,.box [.sl 15]] tm hp fun (xx : ((Nat×Nat)×(Unit×(Int×(Unit×(Int×(Unit×Unit))))))) (yy : ((LL)×(((LL×Bool)×Unit)×Unit)))=>(f121_p18 R) xx.1.1 xx.1.2 xx.2.2.1 yy.2.1.1.1 yy.2.1.1.2 (fun es0_3=>K (.exit 2) ⟨mkS 220 [],[.vec 1 es0_3 true,.box [.p (.sl 15 yy.2.1.1.1 yy.2.1.1.2)]]⟩) (xx.2.2.2.2.1,yy.1)
def f121_p30L (R : f121_T) : Told:=fun s K=>match s with
  | ⟨tm,hp⟩=>getS [.v (.one (.ref 0)),.skip 1,.v (.one (.int .i64)),.skip 1,.v (.clo 91 [] [.ptr 1 0 0]),.skip 9,.v (.one (.int .i64)),.v (.one (.int .i64)),.skip 204] [.vec 1 true,.box [.sl 15]] tm hp fun (xx : ((Nat×Nat)×(Unit×(Int×(Unit×((Unit×(Unit×Unit))×(Unit×(Int×(Int×(Unit×Unit)))))))))) (yy : ((LL)×(((LL×Bool)×Unit)×Unit)))=>(f121_p30 R) xx.1.1 xx.1.2 xx.2.2.1 yy.1 (fun n0_4 es0_5 full0_6=>K (.exit 4) ⟨mkS 220 [(0,.w (.one (.ref 0 xx.1.1 xx.1.2))),(2,I xx.2.2.1),(14,I n0_4)],[.vec 1 yy.1 true,.box [.p (.sl 15 es0_5 full0_6)]]⟩) (xx.2.2.2.2.2.2.1,xx.2.2.2.2.2.2.2.1,yy.2.1.1.1,yy.2.1.1.2)
def f121_p42L (R : f121_T) : Told:=fun s K=>match s with
  | ⟨tm,hp⟩=>getS [.v (.one (.ref 0)),.skip 13,.v (.one (.int .i64)),.skip 2,.v (.one (.int .i64)),.skip 202] [.vec 1 true,.box [.sl 15]] tm hp fun (xx : ((Nat×Nat)×(Unit×(Int×(Unit×(Int×(Unit×Unit))))))) (yy : ((LL)×(((LL×Bool)×Unit)×Unit)))=>(f121_p42 R) xx.1.1 xx.1.2 xx.2.2.1 yy.2.1.1.1 yy.2.1.1.2 (fun es0_7=>K (.exit 6) ⟨mkS 220 [],[.vec 1 es0_7 true,.box [.p (.sl 15 yy.2.1.1.1 yy.2.1.1.2)]]⟩) (xx.2.2.2.2.1,yy.1)
def f121_p66L (R : f121_T) : Told:=fun s K=>match s with
  | ⟨tm,hp⟩=>getS [.v (.one (.ref 0)),.v (.one (.int .i64)),.v (.one (.int .i64)),.v (.one (.int .i64)),.v (.clo 91 [] [.ptr 1 0 0]),.skip 13,.v (.one (.int .i64)),.v (.one (.int .i64)),.v (.one (.int .i64)),.v (.one (.int .i64)),.v (.one (.int .i64)),.skip 197] [.vec 1 true,.box [.sl 15]] tm hp fun (xx : ((Nat×Nat)×(Int×(Int×(Int×((Unit×(Unit×Unit))×(Unit×(Int×(Int×(Int×(Int×(Int×(Unit×Unit))))))))))))) (yy : ((LL)×(((LL×Bool)×Unit)×Unit)))=>(f121_p66 R) xx.1.1 xx.1.2 xx.2.1 xx.2.2.1 xx.2.2.2.1 xx.2.2.2.2.2.2.1 xx.2.2.2.2.2.2.2.1 xx.2.2.2.2.2.2.2.2.2.2.1 yy.1 (fun n0_8 es0_9 full0_10=>K (.exit 8) ⟨mkS 220 [(0,.w (.one (.ref 0 xx.1.1 xx.1.2))),(1,I xx.2.1),(2,I xx.2.2.1),(3,I xx.2.2.2.1),(4,.w (.one (.clo 91 [] [.ptr 1 0 0]))),(18,I xx.2.2.2.2.2.2.1),(19,I xx.2.2.2.2.2.2.2.1),(20,I n0_8)],[.vec 1 yy.1 true,.box [.p (.sl 15 es0_9 full0_10)]]⟩) (xx.2.2.2.2.2.2.2.2.1,xx.2.2.2.2.2.2.2.2.2.1,yy.2.1.1.1,yy.2.1.1.2)
def f121_p87L (R : f121_T) : Told:=fun s K=>match s with
  | ⟨tm,hp⟩=>getS [.v (.one (.ref 0)),.skip 2,.v (.one (.int .i64)),.v (.clo 91 [] [.ptr 1 0 0]),.skip 13,.v (.one (.int .i64)),.skip 5,.v (.one (.int .i64)),.skip 195] [.vec 1 true,.box [.sl 15]] tm hp fun (xx : ((Nat×Nat)×(Unit×(Int×((Unit×(Unit×Unit))×(Unit×(Int×(Unit×(Int×(Unit×Unit)))))))))) (yy : ((LL)×(((LL×Bool)×Unit)×Unit)))=>(f121_p87 R) xx.1.1 xx.1.2 xx.2.2.1 xx.2.2.2.2.2.1 xx.2.2.2.2.2.2.2.1 yy.1 yy.2.1.1.1 yy.2.1.1.2 (fun es0_11 es0_12 full0_13=>K .normal ⟨mkS 220 [],[.vec 1 es0_11 true,.box [.p (.sl 15 es0_12 full0_13)]]⟩)
def f121_p83L (R : f121_T) : Told:=fun s K=>match s with
  | ⟨tm,hp⟩=>getS [.v (.one (.ref 0)),.v (.one (.int .i64)),.skip 1,.v (.one (.int .i64)),.v (.clo 91 [] [.ptr 1 0 0]),.skip 13,.v (.one (.int .i64)),.skip 1,.v (.one (.int .i64)),.skip 3,.v (.one (.int .i64)),.skip 195] [.vec 1 true,.box [.sl 15]] tm hp fun (xx : ((Nat×Nat)×(Int×(Unit×(Int×((Unit×(Unit×Unit))×(Unit×(Int×(Unit×(Int×(Unit×(Int×(Unit×Unit))))))))))))) (yy : ((LL)×(((LL×Bool)×Unit)×Unit)))=>(f121_p83 R) xx.1.1 xx.1.2 xx.2.1 xx.2.2.2.1 xx.2.2.2.2.2.2.1 xx.2.2.2.2.2.2.2.2.1 xx.2.2.2.2.2.2.2.2.2.2.1 yy.1 yy.2.1.1.1 yy.2.1.1.2 (fun es0_14 es0_15 full0_16=>K .normal ⟨mkS 220 [],[.vec 1 es0_14 true,.box [.p (.sl 15 es0_15 full0_16)]]⟩)
def f121_p65L (R : f121_T) : Told:=fun s K=>match s with
  | ⟨tm,hp⟩=>getS [.v (.one (.ref 0)),.v (.one (.int .i64)),.v (.one (.int .i64)),.v (.one (.int .i64)),.v (.clo 91 [] [.ptr 1 0 0]),.skip 13,.v (.one (.int .i64)),.v (.one (.int .i64)),.v (.one (.int .i64)),.v (.one (.int .i64)),.skip 198] [.vec 1 true,.box [.sl 15]] tm hp fun (xx : ((Nat×Nat)×(Int×(Int×(Int×((Unit×(Unit×Unit))×(Unit×(Int×(Int×(Int×(Int×(Unit×Unit)))))))))))) (yy : ((LL)×(((LL×Bool)×Unit)×Unit)))=>(f121_p65 R) xx.1.1 xx.1.2 xx.2.1 xx.2.2.1 xx.2.2.2.1 xx.2.2.2.2.2.2.1 xx.2.2.2.2.2.2.2.1 xx.2.2.2.2.2.2.2.2.1 xx.2.2.2.2.2.2.2.2.2.1 yy.1 yy.2.1.1.1 yy.2.1.1.2 (fun es0_17 es0_18 full0_19=>K .normal ⟨mkS 220 [],[.vec 1 es0_17 true,.box [.p (.sl 15 es0_18 full0_19)]]⟩)
def f121_tab (R : f121_T) : List (Nat×Told):=[(6,(f121_p6L R)),(18,(f121_p18L R)),(30,(f121_p30L R)),(42,(f121_p42L R)),(66,(f121_p66L R)),(87,(f121_p87L R)),(83,(f121_p83L R)),(65,(f121_p65L R))]
def f121_GR (R : f121_T) : List TV→List Entry→(TV→List Entry→Prop)→Prop:=fun tm hp K=>getS [.v (.one (.ref 0)),.v (.one (.int .i64)),.v (.one (.int .i64)),.v (.one (.int .i64)),.v (.clo 91 [] [.ptr 1 0 0])] [.vec 1 true,.box [.sl 15]] tm hp fun (xx : ((Nat×Nat)×(Int×(Int×(Int×((Unit×(Unit×Unit))×Unit)))))) (yy : ((LL)×(((LL×Bool)×Unit)×Unit)))=>R xx.1.1 xx.1.2 xx.2.1 xx.2.2.1 xx.2.2.2.1 yy.1 yy.2.1.1.1 yy.2.1.1.2 (fun es0_20 es0_21 full0_22=>K undefT [.vec 1 es0_20 true,.box [.p (.sl 15 es0_21 full0_22)]])
def f121_call (R : f121_T) : FuncId→List TV→List Entry→(TV→List Entry→Prop)→Prop:=addCall 121 (f121_GR R) (addCall 130 f130_G (addCall 91 f91_G (noCalls)))
def f121_C (R : f121_T) : Ctx:={ ty:=tyOf tab,glob:=glob,byRef:=byRef,keep:=fun k i=>lookN [] (lookN [] ([(6,[(0,[0,1,4,10,11]),(2,[]),(3,[0,1,10])]),(18,[(0,[0,10,13]),(2,[]),(5,[])]),(30,[(0,[0,2,4,14,15]),(2,[]),(7,[0,2,14])]),(42,[(0,[0,14,17]),(2,[]),(9,[])]),(66,[(0,[0,1,2,3,4,18,19,20,21,22]),(2,[]),(11,[0,1,2,3,4,18,19,20])]),(87,[(0,[0,3,4,18,24]),(1,[]),(2,[])]),(83,[(0,[0,1,3,4,18,20,24]),(1,[]),(2,[])]),(65,[(0,[0,1,2,3,4,18,19,20,21]),(1,[]),(2,[])])] : List (Nat×List (Nat×List Nat))) k) i,late:=lookN [] ([] : List (Nat×List Nat)),nref:=lookN [] ([] : List (Nat×List Nat)),nbox:=lookN [] ([] : List (Nat×List (Nat×Nat))),take:=[],rnil:=true,m:=2,fz:=false,loops:=lookL (f121_tab R),call:=(f121_call R) }
def f121_p6_mk (i9 n10 : Nat) (n11 : Int) (es14 : LL) (x : Int×Int×(LL)×Bool) : St:=⟨mkS 220 [(0,.w (.one (.ref 0 i9 n10))),(1,I n11),(4,.w (.one (.clo 91 [] [.ptr 1 0 0]))),(10,I x.1),(11,I x.2.1)],[.vec 1 es14 true,.box [.p (.sl 15 x.2.2.1 x.2.2.2)]]⟩
theorem f121_p6e0 (R : f121_T) (i_31 n_32 : Nat) (n_33 n_34 n_35 : Int) (es_36 es_37 : LL) (full_38 : Bool) (N : St→Prop) (K : TExit→St→Prop) : ((f121_p6b0 R) i_31 n_32 n_33 n_34 n_35 es_36 es_37 full_38 (fun z3 z4 z6 z7=>N (f121_p6_mk i_31 n_32 n_33 es_36 (z3,z4,z6,z7))) (fun n0_39 es0_40 full0_41=>K (.exit 0) ⟨mkS 220 [(0,.w (.one (.ref 0 i_31 n_32))),(1,I n_33),(10,I n0_39)],[.vec 1 es_36 true,.box [.p (.sl 15 es0_40 full0_41)]]⟩)) = execT (f121_C R) (bd Tryz.f121 0) (f121_p6_mk i_31 n_32 n_33 es_36 (n_34,n_35,es_37,full_38)) (loopK N (normK (f121_C R) 6) fun e s=>K e (normOut (f121_C R) 6 e s)):=by kernel_rfl
def f121_p18_mk (i25 n26 : Nat) (n27 : Int) (es30 : LL) (full31 : Bool) (x : Int×(LL)) : St:=⟨mkS 220 [(0,.w (.one (.ref 0 i25 n26))),(10,I n27),(13,I x.1)],[.vec 1 x.2 true,.box [.p (.sl 15 es30 full31)]]⟩
theorem f121_p18e0 (R : f121_T) (i_49 n_50 : Nat) (n_51 n_52 : Int) (es_53 es_54 : LL) (full_55 : Bool) (N : St→Prop) (K : TExit→St→Prop) : ((f121_p18b0 R) i_49 n_50 n_51 n_52 es_53 es_54 full_55 (fun z3 z4=>N (f121_p18_mk i_49 n_50 n_51 es_54 full_55 (z3,z4))) (fun es0_56=>K (.exit 2) ⟨mkS 220 [],[.vec 1 es0_56 true,.box [.p (.sl 15 es_54 full_55)]]⟩)) = execT (f121_C R) (bd Tryz.f121 1) (f121_p18_mk i_49 n_50 n_51 es_54 full_55 (n_52,es_53)) (loopK N (normK (f121_C R) 18) fun e s=>K e (normOut (f121_C R) 18 e s)):=by kernel_rfl
def f121_p30_mk (i35 n36 : Nat) (n37 : Int) (es40 : LL) (x : Int×Int×(LL)×Bool) : St:=⟨mkS 220 [(0,.w (.one (.ref 0 i35 n36))),(2,I n37),(4,.w (.one (.clo 91 [] [.ptr 1 0 0]))),(14,I x.1),(15,I x.2.1)],[.vec 1 es40 true,.box [.p (.sl 15 x.2.2.1 x.2.2.2)]]⟩
theorem f121_p30e0 (R : f121_T) (i_65 n_66 : Nat) (n_67 n_68 n_69 : Int) (es_70 es_71 : LL) (full_72 : Bool) (N : St→Prop) (K : TExit→St→Prop) : ((f121_p30b0 R) i_65 n_66 n_67 n_68 n_69 es_70 es_71 full_72 (fun z3 z4 z6 z7=>N (f121_p30_mk i_65 n_66 n_67 es_70 (z3,z4,z6,z7))) (fun n0_73 es0_74 full0_75=>K (.exit 4) ⟨mkS 220 [(0,.w (.one (.ref 0 i_65 n_66))),(2,I n_67),(14,I n0_73)],[.vec 1 es_70 true,.box [.p (.sl 15 es0_74 full0_75)]]⟩)) = execT (f121_C R) (bd Tryz.f121 2) (f121_p30_mk i_65 n_66 n_67 es_70 (n_68,n_69,es_71,full_72)) (loopK N (normK (f121_C R) 30) fun e s=>K e (normOut (f121_C R) 30 e s)):=by kernel_rfl
def f121_p42_mk (i51 n52 : Nat) (n53 : Int) (es56 : LL) (full57 : Bool) (x : Int×(LL)) : St:=⟨mkS 220 [(0,.w (.one (.ref 0 i51 n52))),(14,I n53),(17,I x.1)],[.vec 1 x.2 true,.box [.p (.sl 15 es56 full57)]]⟩
theorem f121_p42e0 (R : f121_T) (i_83 n_84 : Nat) (n_85 n_86 : Int) (es_87 es_88 : LL) (full_89 : Bool) (N : St→Prop) (K : TExit→St→Prop) : ((f121_p42b0 R) i_83 n_84 n_85 n_86 es_87 es_88 full_89 (fun z3 z4=>N (f121_p42_mk i_83 n_84 n_85 es_88 full_89 (z3,z4))) (fun es0_90=>K (.exit 6) ⟨mkS 220 [],[.vec 1 es0_90 true,.box [.p (.sl 15 es_88 full_89)]]⟩)) = execT (f121_C R) (bd Tryz.f121 3) (f121_p42_mk i_83 n_84 n_85 es_88 full_89 (n_86,es_87)) (loopK N (normK (f121_C R) 42) fun e s=>K e (normOut (f121_C R) 42 e s)):=by kernel_rfl
def f121_p66_mk (i73 n74 : Nat) (n75 n76 : Int) (n77 n78 : Int) (n79 n82 : Int) (es83 : LL) (x : Int×Int×(LL)×Bool) : St:=⟨mkS 220 [(0,.w (.one (.ref 0 i73 n74))),(1,I n75),(2,I n76),(3,I n77),(4,.w (.one (.clo 91 [] [.ptr 1 0 0]))),(18,I n78),(19,I n79),(20,I x.1),(21,I x.2.1),(22,I n82)],[.vec 1 es83 true,.box [.p (.sl 15 x.2.2.1 x.2.2.2)]]⟩
theorem f121_p66e0 (R : f121_T) (i_104 n_105 : Nat) (n_106 n_107 : Int) (n_108 n_109 : Int) (n_110 n_111 : Int) (n_112 n_113 : Int) (es_114 es_115 : LL) (full_116 : Bool) (N : St→Prop) (K : TExit→St→Prop) : ((f121_p66b0 R) i_104 n_105 n_106 n_107 n_108 n_109 n_110 n_111 n_112 n_113 es_114 es_115 full_116 (fun z7 z8 z11 z12=>N (f121_p66_mk i_104 n_105 n_106 n_107 n_108 n_109 n_110 n_113 es_114 (z7,z8,z11,z12))) (fun n0_117 es0_118 full0_119=>K (.exit 8) ⟨mkS 220 [(0,.w (.one (.ref 0 i_104 n_105))),(1,I n_106),(2,I n_107),(3,I n_108),(4,.w (.one (.clo 91 [] [.ptr 1 0 0]))),(18,I n_109),(19,I n_110),(20,I n0_117)],[.vec 1 es_114 true,.box [.p (.sl 15 es0_118 full0_119)]]⟩)) = execT (f121_C R) (bd Tryz.f121 4) (f121_p66_mk i_104 n_105 n_106 n_107 n_108 n_109 n_110 n_113 es_114 (n_111,n_112,es_115,full_116)) (loopK N (normK (f121_C R) 66) fun e s=>K e (normOut (f121_C R) 66 e s)):=by kernel_rfl
theorem f121_p87e0 (R : f121_T) (i_120 n_121 : Nat) (n_122 n_123 n_124 : Int) (es_125 es_126 : LL) (full_127 : Bool) (K : TExit→St→Prop) : ((f121_p87 R) i_120 n_121 n_122 n_123 n_124 es_125 es_126 full_127 (fun es0_128 es0_129 full0_130=>K .normal ⟨mkS 220 [],[.vec 1 es0_128 true,.box [.p (.sl 15 es0_129 full0_130)]]⟩)) = execT (f121_C R) (nthC (tails (bodyOf Tryz.f121)) 44) ⟨mkS 220 [(0,.w (.one (.ref 0 i_120 n_121))),(3,I n_122),(4,.w (.one (.clo 91 [] [.ptr 1 0 0]))),(18,I n_123),(24,I n_124)],[.vec 1 es_125 true,.box [.p (.sl 15 es_126 full_127)]]⟩ (fun e s=>K e (normOut (f121_C R) 87 e s)):=by kernel_rfl
theorem f121_p83e0 (R : f121_T) (i_131 n_132 : Nat) (n_133 n_134 : Int) (n_135 n_136 n_137 : Int) (es_138 es_139 : LL) (full_140 : Bool) (K : TExit→St→Prop) : ((f121_p83 R) i_131 n_132 n_133 n_134 n_135 n_136 n_137 es_138 es_139 full_140 (fun es0_141 es0_142 full0_143=>K .normal ⟨mkS 220 [],[.vec 1 es0_141 true,.box [.p (.sl 15 es0_142 full0_143)]]⟩)) = execT (f121_C R) (nthC (tails (bodyOf Tryz.f121)) 42) ⟨mkS 220 [(0,.w (.one (.ref 0 i_131 n_132))),(1,I n_133),(3,I n_134),(4,.w (.one (.clo 91 [] [.ptr 1 0 0]))),(18,I n_135),(20,I n_136),(24,I n_137)],[.vec 1 es_138 true,.box [.p (.sl 15 es_139 full_140)]]⟩ (fun e s=>K e (normOut (f121_C R) 83 e s)):=by kernel_rfl
theorem f121_p65e0 (R : f121_T) (i_144 n_145 : Nat) (n_146 n_147 : Int) (n_148 n_149 : Int) (n_150 n_151 n_152 : Int) (es_153 es_154 : LL) (full_155 : Bool) (K : TExit→St→Prop) : ((f121_p65 R) i_144 n_145 n_146 n_147 n_148 n_149 n_150 n_151 n_152 es_153 es_154 full_155 (fun es0_156 es0_157 full0_158=>K .normal ⟨mkS 220 [],[.vec 1 es0_156 true,.box [.p (.sl 15 es0_157 full0_158)]]⟩)) = execT (f121_C R) (nthC (tails (bodyOf Tryz.f121)) 31) ⟨mkS 220 [(0,.w (.one (.ref 0 i_144 n_145))),(1,I n_146),(2,I n_147),(3,I n_148),(4,.w (.one (.clo 91 [] [.ptr 1 0 0]))),(18,I n_149),(19,I n_150),(20,I n_151),(21,I n_152)],[.vec 1 es_153 true,.box [.p (.sl 15 es_154 full_155)]]⟩ (fun e s=>K e (normOut (f121_C R) 65 e s)):=by kernel_rfl
set_option maxHeartbeats 4000000 in
theorem f121_p6_ok (R : f121_T) : LoopOk (f121_C R) (bd Tryz.f121 0):=by
  refine LoopOk.of (f121_p6L R) (by kernel_rfl) fun σ K h=>?_
  have hk : loopKey (bd Tryz.f121 0) = 6:=by kernel_rfl
  rw [hk] at h ⊢
  generalize hs : normK (f121_C R) 6 σ = s at h
  obtain ⟨tm,hp⟩:=s
  unfold f121_p6L at h
  dsimp only at h
  obtain ⟨xx,yy,rfl,rfl,h⟩:=getS_elim h
  refine iter_of (f121_p6_mk xx.1.1 xx.1.2 xx.2.1 yy.1) (fun x N h=>?_) rounds _ σ (hs.trans (by kernel_rfl)) (LoopP.run h)
  obtain ⟨y0,y1,y2,y3⟩:=x
  rw [← (f121_p6e0 R) xx.1.1 xx.1.2 xx.2.1 y0 y1 yy.1 y2 y3 N K]
  exact h
set_option maxHeartbeats 4000000 in
theorem f121_p18_ok (R : f121_T) : LoopOk (f121_C R) (bd Tryz.f121 1):=by
  refine LoopOk.of (f121_p18L R) (by kernel_rfl) fun σ K h=>?_
  have hk : loopKey (bd Tryz.f121 1) = 18:=by kernel_rfl
  rw [hk] at h ⊢
  generalize hs : normK (f121_C R) 18 σ = s at h
  obtain ⟨tm,hp⟩:=s
  unfold f121_p18L at h
  dsimp only at h
  obtain ⟨xx,yy,rfl,rfl,h⟩:=getS_elim h
  refine iter_of (f121_p18_mk xx.1.1 xx.1.2 xx.2.2.1 yy.2.1.1.1 yy.2.1.1.2) (fun x N h=>?_) rounds _ σ (hs.trans (by kernel_rfl)) (LoopP.run h)
  obtain ⟨y0,y1⟩:=x
  rw [← (f121_p18e0 R) xx.1.1 xx.1.2 xx.2.2.1 y0 y1 yy.2.1.1.1 yy.2.1.1.2 N K]
  exact h
set_option maxHeartbeats 4000000 in
theorem f121_p30_ok (R : f121_T) : LoopOk (f121_C R) (bd Tryz.f121 2):=by
  refine LoopOk.of (f121_p30L R) (by kernel_rfl) fun σ K h=>?_
  have hk : loopKey (bd Tryz.f121 2) = 30:=by kernel_rfl
  rw [hk] at h ⊢
  generalize hs : normK (f121_C R) 30 σ = s at h
  obtain ⟨tm,hp⟩:=s
  unfold f121_p30L at h
  dsimp only at h
  obtain ⟨xx,yy,rfl,rfl,h⟩:=getS_elim h
  refine iter_of (f121_p30_mk xx.1.1 xx.1.2 xx.2.2.1 yy.1) (fun x N h=>?_) rounds _ σ (hs.trans (by kernel_rfl)) (LoopP.run h)
  obtain ⟨y0,y1,y2,y3⟩:=x
  rw [← (f121_p30e0 R) xx.1.1 xx.1.2 xx.2.2.1 y0 y1 yy.1 y2 y3 N K]
  exact h
set_option maxHeartbeats 4000000 in
theorem f121_p42_ok (R : f121_T) : LoopOk (f121_C R) (bd Tryz.f121 3):=by
  refine LoopOk.of (f121_p42L R) (by kernel_rfl) fun σ K h=>?_
  have hk : loopKey (bd Tryz.f121 3) = 42:=by kernel_rfl
  rw [hk] at h ⊢
  generalize hs : normK (f121_C R) 42 σ = s at h
  obtain ⟨tm,hp⟩:=s
  unfold f121_p42L at h
  dsimp only at h
  obtain ⟨xx,yy,rfl,rfl,h⟩:=getS_elim h
  refine iter_of (f121_p42_mk xx.1.1 xx.1.2 xx.2.2.1 yy.2.1.1.1 yy.2.1.1.2) (fun x N h=>?_) rounds _ σ (hs.trans (by kernel_rfl)) (LoopP.run h)
  obtain ⟨y0,y1⟩:=x
  rw [← (f121_p42e0 R) xx.1.1 xx.1.2 xx.2.2.1 y0 y1 yy.2.1.1.1 yy.2.1.1.2 N K]
  exact h
set_option maxHeartbeats 4000000 in
theorem f121_p66_ok (R : f121_T) : LoopOk (f121_C R) (bd Tryz.f121 4):=by
  refine LoopOk.of (f121_p66L R) (by kernel_rfl) fun σ K h=>?_
  have hk : loopKey (bd Tryz.f121 4) = 66:=by kernel_rfl
  rw [hk] at h ⊢
  generalize hs : normK (f121_C R) 66 σ = s at h
  obtain ⟨tm,hp⟩:=s
  unfold f121_p66L at h
  dsimp only at h
  obtain ⟨xx,yy,rfl,rfl,h⟩:=getS_elim h
  refine iter_of (f121_p66_mk xx.1.1 xx.1.2 xx.2.1 xx.2.2.1 xx.2.2.2.1 xx.2.2.2.2.2.2.1 xx.2.2.2.2.2.2.2.1 xx.2.2.2.2.2.2.2.2.2.2.1 yy.1) (fun x N h=>?_) rounds _ σ (hs.trans (by kernel_rfl)) (LoopP.run h)
  obtain ⟨y0,y1,y2,y3⟩:=x
  rw [← (f121_p66e0 R) xx.1.1 xx.1.2 xx.2.1 xx.2.2.1 xx.2.2.2.1 xx.2.2.2.2.2.2.1 xx.2.2.2.2.2.2.2.1 y0 y1 xx.2.2.2.2.2.2.2.2.2.2.1 yy.1 y2 y3 N K]
  exact h
set_option maxHeartbeats 4000000 in
theorem f121_p87_ok (R : f121_T) : TailOk (f121_C R) (nthC (tails (bodyOf Tryz.f121)) 44):=by
  refine TailOk.of (f121_p87L R) (by kernel_rfl) fun σ K h=>?_
  have hk : joinKey (nthC (tails (bodyOf Tryz.f121)) 44) = 87:=by kernel_rfl
  rw [hk] at h ⊢
  generalize hs : normK (f121_C R) 87 σ = s at h
  obtain ⟨tm,hp⟩:=s
  unfold f121_p87L at h
  dsimp only at h
  obtain ⟨xx,yy,rfl,rfl,h⟩:=getS_elim h
  have q : normK (f121_C R) 87 σ = (⟨mkS 220 [(0,.w (.one (.ref 0 xx.1.1 xx.1.2))),(3,I xx.2.2.1),(4,.w (.one (.clo 91 [] [.ptr 1 0 0]))),(18,I xx.2.2.2.2.2.1),(24,I xx.2.2.2.2.2.2.2.1)],[.vec 1 yy.1 true,.box [.p (.sl 15 yy.2.1.1.1 yy.2.1.1.2)]]⟩ : St):=hs.trans (by kernel_rfl)
  rw [← hs,q,← (f121_p87e0 R) xx.1.1 xx.1.2 xx.2.2.1 xx.2.2.2.2.2.1 xx.2.2.2.2.2.2.2.1 yy.1 yy.2.1.1.1 yy.2.1.1.2 K]
  exact h
set_option maxHeartbeats 4000000 in
theorem f121_p83_ok (R : f121_T) : TailOk (f121_C R) (nthC (tails (bodyOf Tryz.f121)) 42):=by
  refine TailOk.of (f121_p83L R) (by kernel_rfl) fun σ K h=>?_
  have hk : joinKey (nthC (tails (bodyOf Tryz.f121)) 42) = 83:=by kernel_rfl
  rw [hk] at h ⊢
  generalize hs : normK (f121_C R) 83 σ = s at h
  obtain ⟨tm,hp⟩:=s
  unfold f121_p83L at h
  dsimp only at h
  obtain ⟨xx,yy,rfl,rfl,h⟩:=getS_elim h
  have q : normK (f121_C R) 83 σ = (⟨mkS 220 [(0,.w (.one (.ref 0 xx.1.1 xx.1.2))),(1,I xx.2.1),(3,I xx.2.2.2.1),(4,.w (.one (.clo 91 [] [.ptr 1 0 0]))),(18,I xx.2.2.2.2.2.2.1),(20,I xx.2.2.2.2.2.2.2.2.1),(24,I xx.2.2.2.2.2.2.2.2.2.2.1)],[.vec 1 yy.1 true,.box [.p (.sl 15 yy.2.1.1.1 yy.2.1.1.2)]]⟩ : St):=hs.trans (by kernel_rfl)
  rw [← hs,q,← (f121_p83e0 R) xx.1.1 xx.1.2 xx.2.1 xx.2.2.2.1 xx.2.2.2.2.2.2.1 xx.2.2.2.2.2.2.2.2.1 xx.2.2.2.2.2.2.2.2.2.2.1 yy.1 yy.2.1.1.1 yy.2.1.1.2 K]
  exact h
set_option maxHeartbeats 4000000 in
theorem f121_p65_ok (R : f121_T) : TailOk (f121_C R) (nthC (tails (bodyOf Tryz.f121)) 31):=by
  refine TailOk.of (f121_p65L R) (by kernel_rfl) fun σ K h=>?_
  have hk : joinKey (nthC (tails (bodyOf Tryz.f121)) 31) = 65:=by kernel_rfl
  rw [hk] at h ⊢
  generalize hs : normK (f121_C R) 65 σ = s at h
  obtain ⟨tm,hp⟩:=s
  unfold f121_p65L at h
  dsimp only at h
  obtain ⟨xx,yy,rfl,rfl,h⟩:=getS_elim h
  have q : normK (f121_C R) 65 σ = (⟨mkS 220 [(0,.w (.one (.ref 0 xx.1.1 xx.1.2))),(1,I xx.2.1),(2,I xx.2.2.1),(3,I xx.2.2.2.1),(4,.w (.one (.clo 91 [] [.ptr 1 0 0]))),(18,I xx.2.2.2.2.2.2.1),(19,I xx.2.2.2.2.2.2.2.1),(20,I xx.2.2.2.2.2.2.2.2.1),(21,I xx.2.2.2.2.2.2.2.2.2.1)],[.vec 1 yy.1 true,.box [.p (.sl 15 yy.2.1.1.1 yy.2.1.1.2)]]⟩ : St):=hs.trans (by kernel_rfl)
  rw [← hs,q,← (f121_p65e0 R) xx.1.1 xx.1.2 xx.2.1 xx.2.2.1 xx.2.2.2.1 xx.2.2.2.2.2.2.1 xx.2.2.2.2.2.2.2.1 xx.2.2.2.2.2.2.2.2.1 xx.2.2.2.2.2.2.2.2.2.1 yy.1 yy.2.1.1.1 yy.2.1.1.2 K]
  exact h
def f121_G0 : List TV→List Entry→(TV→List Entry→Prop)→Prop:=fun tm hp K=>getS [.v (.one (.ref 0)),.v (.one (.int .i64)),.v (.one (.int .i64)),.v (.one (.int .i64)),.v (.clo 91 [] [.ptr 1 0 0])] [.vec 1 true,.box [.sl 15]] tm hp fun (xx : ((Nat×Nat)×(Int×(Int×(Int×((Unit×(Unit×Unit))×Unit)))))) (yy : ((LL)×(((LL×Bool)×Unit)×Unit)))=>f121 xx.1.1 xx.1.2 xx.2.1 xx.2.2.1 xx.2.2.2.1 yy.1 yy.2.1.1.1 yy.2.1.1.2 (fun es0_20 es0_21 full0_22=>K undefT [.vec 1 es0_20 true,.box [.p (.sl 15 es0_21 full0_22)]])
theorem f121_eq (R : f121_T) (i_159 n_160 : Nat) (n_161 n_162 n_163 : Int) (es_164 es_165 : LL) (full_166 : Bool) (K : TV→List Entry→Prop) : ((f121_d R) i_159 n_160 n_161 n_162 n_163 es_164 es_165 full_166 (fun es0_20 es0_21 full0_22=>K undefT [.vec 1 es0_20 true,.box [.p (.sl 15 es0_21 full0_22)]])) = funcT (f121_C R) Tryz.f121 [.w (.one (.ref 0 i_159 n_160)),I n_161,I n_162,I n_163,.w (.one (.clo 91 [] [.ptr 1 0 0]))] [.vec 1 es_164 true,.box [.p (.sl 15 es_165 full_166)]] K:=by kernel_rfl
set_option maxHeartbeats 4000000 in
theorem f121_step (R : f121_T) (hR : FnOk Tryz.prog glob 121 (f121_GR R)) : FnOk Tryz.prog glob 121 (f121_GR (f121_d R)):=by
  refine FnOk.of_text (C:=(f121_C R)) tab_ok.ok (Known.add hR (Known.add f130_G_ok (Known.add f91_G_ok (Known.none)))) follows_ok (fn:=Tryz.f121) (by kernel_rfl) (by kernel_rfl) (by kernel_rfl) (fun c hc=>?_) fun tm hp K h=>?_
  · have e : c = bodyOf Tryz.f121:=Option.some.inj (hc.symm.trans (by kernel_rfl))
    subst e
    exact ⟨LoopsOk.of [bd Tryz.f121 0,bd Tryz.f121 1,bd Tryz.f121 2,bd Tryz.f121 3,bd Tryz.f121 4] (by kernel_rfl) ⟨(f121_p6_ok R),(f121_p18_ok R),(f121_p30_ok R),(f121_p42_ok R),(f121_p66_ok R),trivial⟩,TailsOk.of (tab:=(f121_tab R)) rfl [nthC (tails (bodyOf Tryz.f121)) 31,nthC (tails (bodyOf Tryz.f121)) 42,nthC (tails (bodyOf Tryz.f121)) 44] (by kernel_rfl) ⟨(f121_p65_ok R),(f121_p83_ok R),(f121_p87_ok R),trivial⟩⟩
  · unfold f121_GR at h
    obtain ⟨xx,yy,rfl,rfl,h⟩:=getS_elim h
    have e:=(f121_eq R xx.1.1 xx.1.2 xx.2.1 xx.2.2.1 xx.2.2.2.1 yy.1 yy.2.1.1.1 yy.2.1.1.2 K).trans (show _ = funcT (f121_C R) Tryz.f121 (mkR _ xx) (mkE _ yy) K by kernel_rfl)
    rw [← e]
    exact h
theorem f121_ok_n : ∀ n,FnOk Tryz.prog glob 121 (f121_GR (f121_n n))
  | 0=>fun tm hp K h=>by
    unfold f121_GR at h
    obtain ⟨xx,yy,rfl,rfl,h⟩:=getS_elim h
    exact False.elim h
  | n + 1=>f121_step _ (f121_ok_n n)
theorem f121_ok0 : FnOk Tryz.prog glob 121 f121_G0:=fun tm hp K h=>by
  unfold f121_G0 at h
  obtain ⟨xx,yy,rfl,rfl,h⟩:=getS_elim h
  obtain ⟨n,h⟩:=h.run
  have e : f121_GR (f121_n n) (mkR _ xx) (mkE _ yy) K = f121_n n xx.1.1 xx.1.2 xx.2.1 xx.2.2.1 xx.2.2.2.1 yy.1 yy.2.1.1.1 yy.2.1.1.2 (fun es0_20 es0_21 full0_22=>K undefT [.vec 1 es0_20 true,.box [.p (.sl 15 es0_21 full0_22)]]):=by kernel_rfl
  refine f121_ok_n n _ _ _ ?_
  rw [e]
  exact h
abbrev f121_G:=f121_G0
theorem f121_G_ok : FnOk Tryz.prog glob 121 f121_G:=f121_ok0
def f102_p4b0 (i7 n8 : Nat) (n9 n10 : Int) (n11 n12 : Int) (es13 es14 : LL) (full15 : Bool) (N0 : Int→Int→(LL)→(LL)→Bool→Prop) (k0 : Int→(LL)→(LL)→Bool→Prop) : Prop:=bB (decide (n12≤n9)) (f120 i7 n8 n11 n12 es13 es14 full15 (fun es16 es17 full18=>N0 n12 (w64 (n12 + n10)) es16 es17 full18)) (k0 n11 es13 es14 full15)
def f102_p4 (i7 n8 : Nat) (n9 n10 : Int) (k0 : Int→(LL)→(LL)→Bool→Prop) : Int×Int×(LL)×(LL)×Bool→Prop:=LoopP fun x N=>f102_p4b0 i7 n8 n9 n10 x.1 x.2.1 x.2.2.1 x.2.2.2.1 x.2.2.2.2 (fun n11 n12 es13 es14 full15=>N (n11,n12,es13,es14,full15)) k0
def f102_p18b0 (i33 n34 : Nat) (n35 n36 : Int) (n37 n38 : Int) (es39 es40 : LL) (full41 : Bool) (N0 : Int→Int→(LL)→(LL)→Bool→Prop) (k0 : Int→(LL)→(LL)→Bool→Prop) : Prop:=bB (decide (n38≤n35)) (f121 i33 n34 n37 (w64 (n37 + n36)) n38 es39 es40 full41 (fun es42 es43 full44=>N0 n38 (w64 (n38 + (w64 (2 * n36)))) es42 es43 full44)) (k0 n37 es39 es40 full41)
def f102_p18 (i33 n34 : Nat) (n35 n36 : Int) (k0 : Int→(LL)→(LL)→Bool→Prop) : Int×Int×(LL)×(LL)×Bool→Prop:=LoopP fun x N=>f102_p18b0 i33 n34 n35 n36 x.1 x.2.1 x.2.2.1 x.2.2.2.1 x.2.2.2.2 (fun n37 n38 es39 es40 full41=>N (n37,n38,es39,es40,full41)) k0
def f102_p14b0 (i26 n27 : Nat) (n28 n29 : Int) (es30 es31 : LL) (full32 : Bool) (N0 : Int→(LL)→(LL)→Bool→Prop) (k0 : (LL)→(LL)→Bool→Prop) : Prop:=bB (decide (n29 < n28)) (f102_p18 i26 n27 n28 n29 (fun n45 es46 es47 full48=>bB (decide ((w64 (n45 + n29)) < n28)) (f121 i26 n27 n45 (w64 (n45 + n29)) n28 es46 es47 full48 (fun es49 es50 full51=>N0 (w64 (n29 * 2)) es49 es50 full51)) (N0 (w64 (n29 * 2)) es46 es47 full48)) (0,(w64 (2 * n29)),es30,es31,full32)) (k0 es30 es31 full32)
def f102_p14 (i26 n27 : Nat) (n28 : Int) (k0 : (LL)→(LL)→Bool→Prop) : Int×(LL)×(LL)×Bool→Prop:=LoopP fun x N=>f102_p14b0 i26 n27 n28 x.1 x.2.1 x.2.2.1 x.2.2.2 (fun n29 es30 es31 full32=>N (n29,es30,es31,full32)) k0
def f102_d (i1 n2 : Nat) (n3 : Int) (es4 es5 : LL) (full6 : Bool) (k0 : (LL)→(LL)→Bool→Prop) : Prop:=f102_p4 i1 n2 n3 20 (fun n19 es20 es21 full22=>f120 i1 n2 n19 n3 es20 es21 full22 (fun es23 es24 full25=>f102_p14 i1 n2 n3 (fun es52 es53 full54=>k0 es52 es53 full54) (20,es23,es24,full25))) (0,20,es4,es5,full6)
structure f102 (i1 n2 : Nat) (n3 : Int) (es4 es5 : LL) (full6 : Bool) (k0 : (LL)→(LL)→Bool→Prop) : Prop where
  run : f102_d i1 n2 n3 es4 es5 full6 k0
def f102_p4L : Told:=fun s K=>match s with
  | ⟨tm,hp⟩=>getS [.v (.one (.ref 0)),.v (.one (.int .i64)),.v (.clo 91 [] [.ptr 1 0 0]),.skip 3,.v (.one (.int .i64)),.v (.one (.int .i64)),.v (.one (.int .i64)),.skip 54] [.vec 1 true,.box [.sl 15]] tm hp fun (xx : ((Nat×Nat)×(Int×((Unit×(Unit×Unit))×(Unit×(Int×(Int×(Int×(Unit×Unit))))))))) (yy : ((LL)×(((LL×Bool)×Unit)×Unit)))=>f102_p4 xx.1.1 xx.1.2 xx.2.1 xx.2.2.2.2.1 (fun n0_0 es0_1 es0_2 full0_3=>K (.exit 0) ⟨mkS 63 [(0,.w (.one (.ref 0 xx.1.1 xx.1.2))),(1,I xx.2.1),(2,.w (.one (.clo 91 [] [.ptr 1 0 0]))),(6,I xx.2.2.2.2.1),(7,I n0_0)],[.vec 1 es0_1 true,.box [.p (.sl 15 es0_2 full0_3)]]⟩) (xx.2.2.2.2.2.1,xx.2.2.2.2.2.2.1,yy.1,yy.2.1.1.1,yy.2.1.1.2)
def f102_p18L : Told:=fun s K=>match s with
  | ⟨tm,hp⟩=>getS [.v (.one (.ref 0)),.v (.one (.int .i64)),.v (.clo 91 [] [.ptr 1 0 0]),.skip 3,.v (.one (.int .i64)),.v (.one (.int .i64)),.v (.one (.int .i64)),.skip 54] [.vec 1 true,.box [.sl 15]] tm hp fun (xx : ((Nat×Nat)×(Int×((Unit×(Unit×Unit))×(Unit×(Int×(Int×(Int×(Unit×Unit))))))))) (yy : ((LL)×(((LL×Bool)×Unit)×Unit)))=>f102_p18 xx.1.1 xx.1.2 xx.2.1 xx.2.2.2.2.1 (fun n0_4 es0_5 es0_6 full0_7=>K (.exit 4) ⟨mkS 63 [(0,.w (.one (.ref 0 xx.1.1 xx.1.2))),(1,I xx.2.1),(2,.w (.one (.clo 91 [] [.ptr 1 0 0]))),(6,I xx.2.2.2.2.1),(7,I n0_4)],[.vec 1 es0_5 true,.box [.p (.sl 15 es0_6 full0_7)]]⟩) (xx.2.2.2.2.2.1,xx.2.2.2.2.2.2.1,yy.1,yy.2.1.1.1,yy.2.1.1.2)
def f102_p14L : Told:=fun s K=>match s with
  | ⟨tm,hp⟩=>getS [.v (.one (.ref 0)),.v (.one (.int .i64)),.v (.clo 91 [] [.ptr 1 0 0]),.skip 3,.v (.one (.int .i64)),.skip 56] [.vec 1 true,.box [.sl 15]] tm hp fun (xx : ((Nat×Nat)×(Int×((Unit×(Unit×Unit))×(Unit×(Int×(Unit×Unit))))))) (yy : ((LL)×(((LL×Bool)×Unit)×Unit)))=>f102_p14 xx.1.1 xx.1.2 xx.2.1 (fun es0_8 es0_9 full0_10=>K (.exit 2) ⟨mkS 63 [],[.vec 1 es0_8 true,.box [.p (.sl 15 es0_9 full0_10)]]⟩) (xx.2.2.2.2.1,yy.1,yy.2.1.1.1,yy.2.1.1.2)
def f102_tab : List (Nat×Told):=[(4,f102_p4L),(18,f102_p18L),(14,f102_p14L)]
def f102_call : FuncId→List TV→List Entry→(TV→List Entry→Prop)→Prop:=addCall 121 f121_G (addCall 120 f120_G (noCalls))
def f102_C : Ctx:=mkC [(4,[(0,[0,1,2,6,7,8]),(2,[]),(3,[0,1,2,6,7])]),(18,[(0,[0,1,2,6,7,8]),(2,[]),(5,[]),(6,[0,1,2,6]),(7,[0,1,2,6,7])]),(14,[(0,[0,1,2,6]),(2,[]),(5,[])])] [] [] [] [] true 2 false (lookL f102_tab) f102_call
def f102_p4_mk (i7 n8 : Nat) (n9 n10 : Int) (x : Int×Int×(LL)×(LL)×Bool) : St:=⟨mkS 63 [(0,.w (.one (.ref 0 i7 n8))),(1,I n9),(2,.w (.one (.clo 91 [] [.ptr 1 0 0]))),(6,I n10),(7,I x.1),(8,I x.2.1)],[.vec 1 x.2.2.1 true,.box [.p (.sl 15 x.2.2.2.1 x.2.2.2.2)]]⟩
theorem f102_p4e0 (i_23 n_24 : Nat) (n_25 n_26 : Int) (n_27 n_28 : Int) (es_29 es_30 : LL) (full_31 : Bool) (N : St→Prop) (K : TExit→St→Prop) : (f102_p4b0 i_23 n_24 n_25 n_26 n_27 n_28 es_29 es_30 full_31 (fun z4 z5 z6 z7 z8=>N (f102_p4_mk i_23 n_24 n_25 n_26 (z4,z5,z6,z7,z8))) (fun n0_32 es0_33 es0_34 full0_35=>K (.exit 0) ⟨mkS 63 [(0,.w (.one (.ref 0 i_23 n_24))),(1,I n_25),(2,.w (.one (.clo 91 [] [.ptr 1 0 0]))),(6,I n_26),(7,I n0_32)],[.vec 1 es0_33 true,.box [.p (.sl 15 es0_34 full0_35)]]⟩)) = execT f102_C (bd Tryz.f102 0) (f102_p4_mk i_23 n_24 n_25 n_26 (n_27,n_28,es_29,es_30,full_31)) (loopK N (normK f102_C 4) fun e s=>K e (normOut f102_C 4 e s)):=by kernel_rfl
def f102_p18_mk (i33 n34 : Nat) (n35 n36 : Int) (x : Int×Int×(LL)×(LL)×Bool) : St:=⟨mkS 63 [(0,.w (.one (.ref 0 i33 n34))),(1,I n35),(2,.w (.one (.clo 91 [] [.ptr 1 0 0]))),(6,I n36),(7,I x.1),(8,I x.2.1)],[.vec 1 x.2.2.1 true,.box [.p (.sl 15 x.2.2.2.1 x.2.2.2.2)]]⟩
theorem f102_p18e0 (i_45 n_46 : Nat) (n_47 n_48 : Int) (n_49 n_50 : Int) (es_51 es_52 : LL) (full_53 : Bool) (N : St→Prop) (K : TExit→St→Prop) : (f102_p18b0 i_45 n_46 n_47 n_48 n_49 n_50 es_51 es_52 full_53 (fun z4 z5 z6 z7 z8=>N (f102_p18_mk i_45 n_46 n_47 n_48 (z4,z5,z6,z7,z8))) (fun n0_54 es0_55 es0_56 full0_57=>K (.exit 4) ⟨mkS 63 [(0,.w (.one (.ref 0 i_45 n_46))),(1,I n_47),(2,.w (.one (.clo 91 [] [.ptr 1 0 0]))),(6,I n_48),(7,I n0_54)],[.vec 1 es0_55 true,.box [.p (.sl 15 es0_56 full0_57)]]⟩)) = execT f102_C (bd Tryz.f102 2) (f102_p18_mk i_45 n_46 n_47 n_48 (n_49,n_50,es_51,es_52,full_53)) (loopK N (normK f102_C 18) fun e s=>K e (normOut f102_C 18 e s)):=by kernel_rfl
def f102_p14_mk (i26 n27 : Nat) (n28 : Int) (x : Int×(LL)×(LL)×Bool) : St:=⟨mkS 63 [(0,.w (.one (.ref 0 i26 n27))),(1,I n28),(2,.w (.one (.clo 91 [] [.ptr 1 0 0]))),(6,I x.1)],[.vec 1 x.2.1 true,.box [.p (.sl 15 x.2.2.1 x.2.2.2)]]⟩
theorem f102_p14e0 (i_65 n_66 : Nat) (n_67 n_68 : Int) (es_69 es_70 : LL) (full_71 : Bool) (N : St→Prop) (K : TExit→St→Prop) : (f102_p14b0 i_65 n_66 n_67 n_68 es_69 es_70 full_71 (fun z3 z4 z5 z6=>N (f102_p14_mk i_65 n_66 n_67 (z3,z4,z5,z6))) (fun es0_72 es0_73 full0_74=>K (.exit 2) ⟨mkS 63 [],[.vec 1 es0_72 true,.box [.p (.sl 15 es0_73 full0_74)]]⟩)) = execT f102_C (bd Tryz.f102 1) (f102_p14_mk i_65 n_66 n_67 (n_68,es_69,es_70,full_71)) (loopK N (normK f102_C 14) fun e s=>K e (normOut f102_C 14 e s)):=by kernel_rfl
set_option maxHeartbeats 4000000 in
theorem f102_p4_ok : LoopOk f102_C (bd Tryz.f102 0):=by
  refine LoopOk.of f102_p4L (by kernel_rfl) fun σ K h=>?_
  have hk : loopKey (bd Tryz.f102 0) = 4:=by kernel_rfl
  rw [hk] at h ⊢
  generalize hs : normK f102_C 4 σ = s at h
  obtain ⟨tm,hp⟩:=s
  unfold f102_p4L at h
  dsimp only at h
  obtain ⟨xx,yy,rfl,rfl,h⟩:=getS_elim h
  refine iter_of (f102_p4_mk xx.1.1 xx.1.2 xx.2.1 xx.2.2.2.2.1) (fun x N h=>?_) rounds _ σ (hs.trans (by kernel_rfl)) (LoopP.run h)
  obtain ⟨y0,y1,y2,y3,y4⟩:=x
  rw [← f102_p4e0 xx.1.1 xx.1.2 xx.2.1 xx.2.2.2.2.1 y0 y1 y2 y3 y4 N K]
  exact h
set_option maxHeartbeats 4000000 in
theorem f102_p18_ok : LoopOk f102_C (bd Tryz.f102 2):=by
  refine LoopOk.of f102_p18L (by kernel_rfl) fun σ K h=>?_
  have hk : loopKey (bd Tryz.f102 2) = 18:=by kernel_rfl
  rw [hk] at h ⊢
  generalize hs : normK f102_C 18 σ = s at h
  obtain ⟨tm,hp⟩:=s
  unfold f102_p18L at h
  dsimp only at h
  obtain ⟨xx,yy,rfl,rfl,h⟩:=getS_elim h
  refine iter_of (f102_p18_mk xx.1.1 xx.1.2 xx.2.1 xx.2.2.2.2.1) (fun x N h=>?_) rounds _ σ (hs.trans (by kernel_rfl)) (LoopP.run h)
  obtain ⟨y0,y1,y2,y3,y4⟩:=x
  rw [← f102_p18e0 xx.1.1 xx.1.2 xx.2.1 xx.2.2.2.2.1 y0 y1 y2 y3 y4 N K]
  exact h
set_option maxHeartbeats 4000000 in
theorem f102_p14_ok : LoopOk f102_C (bd Tryz.f102 1):=by
  refine LoopOk.of f102_p14L (by kernel_rfl) fun σ K h=>?_
  have hk : loopKey (bd Tryz.f102 1) = 14:=by kernel_rfl
  rw [hk] at h ⊢
  generalize hs : normK f102_C 14 σ = s at h
  obtain ⟨tm,hp⟩:=s
  unfold f102_p14L at h
  dsimp only at h
  obtain ⟨xx,yy,rfl,rfl,h⟩:=getS_elim h
  refine iter_of (f102_p14_mk xx.1.1 xx.1.2 xx.2.1) (fun x N h=>?_) rounds _ σ (hs.trans (by kernel_rfl)) (LoopP.run h)
  obtain ⟨y0,y1,y2,y3⟩:=x
  rw [← f102_p14e0 xx.1.1 xx.1.2 xx.2.1 y0 y1 y2 y3 N K]
  exact h
def f102_G0 : List TV→List Entry→(TV→List Entry→Prop)→Prop:=fun tm hp K=>getS [.v (.one (.ref 0)),.v (.one (.int .i64)),.v (.clo 91 [] [.ptr 1 0 0])] [.vec 1 true,.box [.sl 15]] tm hp fun (xx : ((Nat×Nat)×(Int×((Unit×(Unit×Unit))×Unit)))) (yy : ((LL)×(((LL×Bool)×Unit)×Unit)))=>f102 xx.1.1 xx.1.2 xx.2.1 yy.1 yy.2.1.1.1 yy.2.1.1.2 (fun es0_11 es0_12 full0_13=>K undefT [.vec 1 es0_11 true,.box [.p (.sl 15 es0_12 full0_13)]])
theorem f102_eq (i_75 n_76 : Nat) (n_77 : Int) (es_78 es_79 : LL) (full_80 : Bool) (K : TV→List Entry→Prop) : (f102_d i_75 n_76 n_77 es_78 es_79 full_80 (fun es0_11 es0_12 full0_13=>K undefT [.vec 1 es0_11 true,.box [.p (.sl 15 es0_12 full0_13)]])) = funcT f102_C Tryz.f102 [.w (.one (.ref 0 i_75 n_76)),I n_77,.w (.one (.clo 91 [] [.ptr 1 0 0]))] [.vec 1 es_78 true,.box [.p (.sl 15 es_79 full_80)]] K:=by kernel_rfl
set_option maxHeartbeats 4000000 in
theorem f102_ok0 : FnOk Tryz.prog glob 102 f102_G0:=by
  refine FnOk.of_text (C:=f102_C) tab_ok.ok (Known.add f121_G_ok (Known.add f120_G_ok (Known.none))) follows_ok (fn:=Tryz.f102) (by kernel_rfl) (by kernel_rfl) (by kernel_rfl) (fun c hc=>?_) fun tm hp K h=>?_
  · have e : c = bodyOf Tryz.f102:=Option.some.inj (hc.symm.trans (by kernel_rfl))
    subst e
    exact ⟨LoopsOk.of [bd Tryz.f102 0,bd Tryz.f102 1,bd Tryz.f102 2] (by kernel_rfl) ⟨f102_p4_ok,f102_p14_ok,f102_p18_ok,trivial⟩,TailsOk.of (tab:=f102_tab) rfl [] (by kernel_rfl) trivial⟩
  · unfold f102_G0 at h
    obtain ⟨xx,yy,rfl,rfl,h⟩:=getS_elim h
    have e:=(f102_eq xx.1.1 xx.1.2 xx.2.1 yy.1 yy.2.1.1.1 yy.2.1.1.2 K).trans (show _ = funcT f102_C Tryz.f102 (mkR _ xx) (mkE _ yy) K by kernel_rfl)
    rw [← e]
    exact h.run
abbrev f102_G:=f102_G0
theorem f102_G_ok : FnOk Tryz.prog glob 102 f102_G:=f102_ok0
def f90_d (i1 n2 : Nat) (es3 es4 : LL) (full5 : Bool) (k0 : (LL)→(LL)→Bool→Prop) : Prop:=f102 i1 n2 (n2 : Int) es3 es4 full5 (fun es6 es7 full8=>k0 es6 es7 full8)
structure f90 (i1 n2 : Nat) (es3 es4 : LL) (full5 : Bool) (k0 : (LL)→(LL)→Bool→Prop) : Prop where
  run : f90_d i1 n2 es3 es4 full5 k0
def f90_tab : List (Nat×Told):=[]
def f90_call : FuncId→List TV→List Entry→(TV→List Entry→Prop)→Prop:=addCall 102 f102_G (noCalls)
def f90_C : Ctx:=mkC [] [] [] [] [] true 2 false (lookL f90_tab) f90_call
def f90_G0 : List TV→List Entry→(TV→List Entry→Prop)→Prop:=fun tm hp K=>getS [.v (.one (.ref 0)),.v (.clo 91 [] [.ptr 1 0 0])] [.vec 1 true,.box [.sl 15]] tm hp fun (xx : ((Nat×Nat)×((Unit×(Unit×Unit))×Unit))) (yy : ((LL)×(((LL×Bool)×Unit)×Unit)))=>f90 xx.1.1 xx.1.2 yy.1 yy.2.1.1.1 yy.2.1.1.2 (fun es0_0 es0_1 full0_2=>K undefT [.vec 1 es0_0 true,.box [.p (.sl 15 es0_1 full0_2)]])
theorem f90_eq (i_3 n_4 : Nat) (es_5 es_6 : LL) (full_7 : Bool) (K : TV→List Entry→Prop) : (f90_d i_3 n_4 es_5 es_6 full_7 (fun es0_0 es0_1 full0_2=>K undefT [.vec 1 es0_0 true,.box [.p (.sl 15 es0_1 full0_2)]])) = funcT f90_C Tryz.f90 [.w (.one (.ref 0 i_3 n_4)),.w (.one (.clo 91 [] [.ptr 1 0 0]))] [.vec 1 es_5 true,.box [.p (.sl 15 es_6 full_7)]] K:=by kernel_rfl
set_option maxHeartbeats 4000000 in
theorem f90_ok0 : FnOk Tryz.prog glob 90 f90_G0:=by
  refine FnOk.of_text (C:=f90_C) tab_ok.ok (Known.add f102_G_ok (Known.none)) follows_ok (fn:=Tryz.f90) (by kernel_rfl) (by kernel_rfl) (by kernel_rfl) (fun c hc=>?_) fun tm hp K h=>?_
  · have e : c = bodyOf Tryz.f90:=Option.some.inj (hc.symm.trans (by kernel_rfl))
    subst e
    exact ⟨LoopsOk.of [] (by kernel_rfl) trivial,TailsOk.of (tab:=f90_tab) rfl [] (by kernel_rfl) trivial⟩
  · unfold f90_G0 at h
    obtain ⟨xx,yy,rfl,rfl,h⟩:=getS_elim h
    have e:=(f90_eq xx.1.1 xx.1.2 yy.1 yy.2.1.1.1 yy.2.1.1.2 K).trans (show _ = funcT f90_C Tryz.f90 (mkR _ xx) (mkE _ yy) K by kernel_rfl)
    rw [← e]
    exact h.run
abbrev f90_G:=f90_G0
theorem f90_G_ok : FnOk Tryz.prog glob 90 f90_G:=f90_ok0
def f63_d (s1 : ByteArray) (n2 n3 : Int) (n4 n5 : Int) (n6 n7 : Int) (n8 n9 : Int) (n10 n11 n12 : Int) (s13 : ByteArray) (n14 : Int) (es15 : LL) (full16 : Bool) (es17 : LL) (full18 : Bool) (n19 : Int) (k0 : Bool→Prop) : Prop:=bB (s13.toList == (⟨#[]⟩ : ByteArray).toList) (f37 n19 (fun n20 n21 n22=>f38 n2 n3 n4 n5 n6 n7 n8 n9 n10 n11 n12 n19 n20 n21 n22 k0)) (f86 es17 full18 s13 (fun s24 es25 full26 b27=>f15 s24 es25 full26 n19 k0))
structure f63 (s1 : ByteArray) (n2 n3 : Int) (n4 n5 : Int) (n6 n7 : Int) (n8 n9 : Int) (n10 n11 n12 : Int) (s13 : ByteArray) (n14 : Int) (es15 : LL) (full16 : Bool) (es17 : LL) (full18 : Bool) (n19 : Int) (k0 : Bool→Prop) : Prop where
  run : f63_d s1 n2 n3 n4 n5 n6 n7 n8 n9 n10 n11 n12 s13 n14 es15 full16 es17 full18 n19 k0
def f63_tab : List (Nat×Told):=[]
def f63_call : FuncId→List TV→List Entry→(TV→List Entry→Prop)→Prop:=addCall 86 f86_G (addCall 38 f38_G (addCall 37 f37_G (addCall 15 f15_G (noCalls))))
def f63_C : Ctx:=mkC [] [] [] [] [] false 0 true (lookL f63_tab) f63_call
def f63_G0 : List TV→List Entry→(TV→List Entry→Prop)→Prop:=fun tm hp K=>getS [.v (.pagg [.str,.int .i64,.int .i64,.int .i64,.int .i64,.int .i64,.int .i64,.int .i64,.int .i64,.int .i64,.int .i64,.int .i64,.str,.int .i64,.sl 3]),.v (.one (.sl 2)),.v (.one (.int .i64))] [] tm hp fun (xx : ((ByteArray×(Int×(Int×(Int×(Int×(Int×(Int×(Int×(Int×(Int×(Int×(Int×(ByteArray×(Int×((LL×Bool)×Unit)))))))))))))))×((LL×Bool)×(Int×Unit)))) (yy : Unit)=>f63 xx.1.1 xx.1.2.1 xx.1.2.2.1 xx.1.2.2.2.1 xx.1.2.2.2.2.1 xx.1.2.2.2.2.2.1 xx.1.2.2.2.2.2.2.1 xx.1.2.2.2.2.2.2.2.1 xx.1.2.2.2.2.2.2.2.2.1 xx.1.2.2.2.2.2.2.2.2.2.1 xx.1.2.2.2.2.2.2.2.2.2.2.1 xx.1.2.2.2.2.2.2.2.2.2.2.2.1 xx.1.2.2.2.2.2.2.2.2.2.2.2.2.1 xx.1.2.2.2.2.2.2.2.2.2.2.2.2.2.1 xx.1.2.2.2.2.2.2.2.2.2.2.2.2.2.2.1.1 xx.1.2.2.2.2.2.2.2.2.2.2.2.2.2.2.1.2 xx.2.1.1 xx.2.1.2 xx.2.2.1 (fun b0_0=>K (B b0_0) [])
theorem f63_eq (s_1 : ByteArray) (n_2 n_3 : Int) (n_4 n_5 : Int) (n_6 n_7 : Int) (n_8 n_9 : Int) (n_10 n_11 n_12 : Int) (s_13 : ByteArray) (n_14 : Int) (es_15 : LL) (full_16 : Bool) (es_17 : LL) (full_18 : Bool) (n_19 : Int) (K : TV→List Entry→Prop) : (f63_d s_1 n_2 n_3 n_4 n_5 n_6 n_7 n_8 n_9 n_10 n_11 n_12 s_13 n_14 es_15 full_16 es_17 full_18 n_19 (fun b0_0=>K (B b0_0) [])) = funcT f63_C Tryz.f63 [.w (.pagg [pS s_1,pI n_2,pI n_3,pI n_4,pI n_5,pI n_6,pI n_7,pI n_8,pI n_9,pI n_10,pI n_11,pI n_12,pS s_13,pI n_14,.sl 3 es_15 full_16]),.w (.one (.p (.sl 2 es_17 full_18))),I n_19] [] K:=by kernel_rfl
set_option maxHeartbeats 4000000 in
theorem f63_ok0 : FnOk Tryz.prog glob 63 f63_G0:=by
  refine FnOk.of_text (C:=f63_C) tab_ok.ok (Known.add f86_G_ok (Known.add f38_G_ok (Known.add f37_G_ok (Known.add f15_G_ok (Known.none))))) follows_ok (fn:=Tryz.f63) (by kernel_rfl) (by kernel_rfl) (by kernel_rfl) (fun c hc=>?_) fun tm hp K h=>?_
  · have e : c = bodyOf Tryz.f63:=Option.some.inj (hc.symm.trans (by kernel_rfl))
    subst e
    exact ⟨LoopsOk.of [] (by kernel_rfl) trivial,TailsOk.of (tab:=f63_tab) rfl [] (by kernel_rfl) trivial⟩
  · unfold f63_G0 at h
    obtain ⟨xx,yy,rfl,rfl,h⟩:=getS_elim h
    have e:=(f63_eq xx.1.1 xx.1.2.1 xx.1.2.2.1 xx.1.2.2.2.1 xx.1.2.2.2.2.1 xx.1.2.2.2.2.2.1 xx.1.2.2.2.2.2.2.1 xx.1.2.2.2.2.2.2.2.1 xx.1.2.2.2.2.2.2.2.2.1 xx.1.2.2.2.2.2.2.2.2.2.1 xx.1.2.2.2.2.2.2.2.2.2.2.1 xx.1.2.2.2.2.2.2.2.2.2.2.2.1 xx.1.2.2.2.2.2.2.2.2.2.2.2.2.1 xx.1.2.2.2.2.2.2.2.2.2.2.2.2.2.1 xx.1.2.2.2.2.2.2.2.2.2.2.2.2.2.2.1.1 xx.1.2.2.2.2.2.2.2.2.2.2.2.2.2.2.1.2 xx.2.1.1 xx.2.1.2 xx.2.2.1 K).trans (show _ = funcT f63_C Tryz.f63 (mkR _ xx) (mkE _ yy) K by kernel_rfl)
    rw [← e]
    exact h.run
abbrev f63_G:=f63_G0
theorem f63_G_ok : FnOk Tryz.prog glob 63 f63_G:=f63_ok0
def f24_p12b0 (es15 : LL) (full16 : Bool) (es17 : LL) (full18 : Bool) (n19 : Int) (i20 n21 : Nat) (n22 n23 : Int) (es24 : LL) (N0 : Nat→Nat→Int→(LL)→Prop) (k0 : Nat→Nat→(LL)→Prop) : Prop:=bB (decide (n23 < (es15.length : Int))) ((0≤n23∧n23 < (es15.length : Int))∧oI .i64 (ext (List.getD es15 (Int.toNat n23) []) 13 1) fun n25=>bB (n25 == n22) ((0≤n23∧n23 < (es15.length : Int))∧cS (ext (List.getD es15 (Int.toNat n23) []) 0 15) fun s27 r26=>cI .i64 r26 fun n29 r28=>cI .i64 r28 fun n31 r30=>cI .i64 r30 fun n33 r32=>cI .i64 r32 fun n35 r34=>cI .i64 r34 fun n37 r36=>cI .i64 r36 fun n39 r38=>cI .i64 r38 fun n41 r40=>cI .i64 r40 fun n43 r42=>cI .i64 r42 fun n45 r44=>cI .i64 r44 fun n47 r46=>cI .i64 r46 fun n49 r48=>cS r48 fun s51 r50=>cI .i64 r50 fun n53 r52=>cL 3 r52 fun es55 full56 r54=>nilC r54 <| f63 s27 n29 n31 n33 n35 n37 n39 n41 n43 n45 n47 n49 s51 n53 es55 full56 es17 full18 n19 (fun b57=>bB b57 ((i20 + n21)≤es24.length∧(n21 + 1) * 8≤2 ^ 46∧(n21 + 1)≤2 ^ 46∧N0 0 (n21 + 1) (w64 (n23 + 1)) ((List.take n21 (List.drop i20 es24)) ++ [[pI n23]])) (N0 i20 n21 (w64 (n23 + 1)) es24))) (N0 i20 n21 (w64 (n23 + 1)) es24)) (k0 i20 n21 es24)
def f24_p12 (es15 : LL) (full16 : Bool) (es17 : LL) (full18 : Bool) (n19 n22 : Int) (k0 : Nat→Nat→(LL)→Prop) : Nat×Nat×Int×(LL)→Prop:=LoopP fun x N=>f24_p12b0 es15 full16 es17 full18 n19 x.1 x.2.1 n22 x.2.2.1 x.2.2.2 (fun i20 n21 n23 es24=>N (i20,n21,n23,es24)) k0
def f24_p6b0 (es6 : LL) (full7 : Bool) (es8 : LL) (full9 : Bool) (n10 : Int) (i11 n12 : Nat) (n13 : Int) (es14 : LL) (N0 : Nat→Nat→Int→(LL)→Prop) (k0 : Nat→Nat→(LL)→Prop) : Prop:=bB (decide (n13≤16)) (f24_p12 es6 full7 es8 full9 n10 n13 (fun i58 n59 es60=>N0 i58 n59 (w64 (n13 + 1)) es60) (i11,n12,0,es14)) (k0 i11 n12 es14)
def f24_p6 (es6 : LL) (full7 : Bool) (es8 : LL) (full9 : Bool) (n10 : Int) (k0 : Nat→Nat→(LL)→Prop) : Nat×Nat×Int×(LL)→Prop:=LoopP fun x N=>f24_p6b0 es6 full7 es8 full9 n10 x.1 x.2.1 x.2.2.1 x.2.2.2 (fun i11 n12 n13 es14=>N (i11,n12,n13,es14)) k0
def f24_d (es1 : LL) (full2 : Bool) (es3 : LL) (full4 : Bool) (n5 : Int) (k0 : (LL)→Bool→Prop) : Prop:=f24_p6 es1 full2 es3 full4 n5 (fun i61 n62 es63=>k0 (List.take n62 (List.drop i61 es63)) false) (0,0,1,[])
structure f24 (es1 : LL) (full2 : Bool) (es3 : LL) (full4 : Bool) (n5 : Int) (k0 : (LL)→Bool→Prop) : Prop where
  run : f24_d es1 full2 es3 full4 n5 k0
def f24_p12L : Told:=fun s K=>match s with
  | ⟨tm,hp⟩=>getS [.v (.one (.sl 15)),.v (.one (.sl 2)),.v (.one (.int .i64)),.skip 4,.v (.one (.ref 0)),.v (.one (.int .i64)),.v (.one (.int .i64)),.skip 32] [.vec 1 true] tm hp fun (xx : ((LL×Bool)×((LL×Bool)×(Int×(Unit×((Nat×Nat)×(Int×(Int×(Unit×Unit))))))))) (yy : ((LL)×Unit))=>f24_p12 xx.1.1 xx.1.2 xx.2.1.1 xx.2.1.2 xx.2.2.1 xx.2.2.2.2.2.1 (fun i0_0 n0_1 es0_2=>K (.exit 2) ⟨mkS 42 [(0,.w (.one (.p (.sl 15 xx.1.1 xx.1.2)))),(1,.w (.one (.p (.sl 2 xx.2.1.1 xx.2.1.2)))),(2,I xx.2.2.1),(7,.w (.one (.ref 0 i0_0 n0_1))),(8,I xx.2.2.2.2.2.1)],[.vec 1 es0_2 true]⟩) (xx.2.2.2.2.1.1,xx.2.2.2.2.1.2,xx.2.2.2.2.2.2.1,yy.1)
def f24_p6L : Told:=fun s K=>match s with
  | ⟨tm,hp⟩=>getS [.v (.one (.sl 15)),.v (.one (.sl 2)),.v (.one (.int .i64)),.skip 4,.v (.one (.ref 0)),.v (.one (.int .i64)),.skip 33] [.vec 1 true] tm hp fun (xx : ((LL×Bool)×((LL×Bool)×(Int×(Unit×((Nat×Nat)×(Int×(Unit×Unit)))))))) (yy : ((LL)×Unit))=>f24_p6 xx.1.1 xx.1.2 xx.2.1.1 xx.2.1.2 xx.2.2.1 (fun i0_3 n0_4 es0_5=>K (.exit 0) ⟨mkS 42 [(7,.w (.one (.ref 0 i0_3 n0_4)))],[.vec 1 es0_5 true]⟩) (xx.2.2.2.2.1.1,xx.2.2.2.2.1.2,xx.2.2.2.2.2.1,yy.1)
def f24_tab : List (Nat×Told):=[(12,f24_p12L),(6,f24_p6L)]
def f24_call : FuncId→List TV→List Entry→(TV→List Entry→Prop)→Prop:=addCall 63 f63_G (noCalls)
def f24_C : Ctx:=mkC [(12,[(0,[0,1,2,7,8,9]),(2,[6]),(3,[7]),(4,[0,1,2,7,8]),(5,[0,1,2,7,8])]),(6,[(0,[0,1,2,7,8]),(2,[6]),(3,[7])])] [] [] [] [] false 0 true (lookL f24_tab) f24_call
def f24_p12_mk (es15 : LL) (full16 : Bool) (es17 : LL) (full18 : Bool) (n19 n22 : Int) (x : Nat×Nat×Int×(LL)) : St:=⟨mkS 42 [(0,.w (.one (.p (.sl 15 es15 full16)))),(1,.w (.one (.p (.sl 2 es17 full18)))),(2,I n19),(7,.w (.one (.ref 0 x.1 x.2.1))),(8,I n22),(9,I x.2.2.1)],[.vec 1 x.2.2.2 true]⟩
theorem f24_p12e0 (es_18 : LL) (full_19 : Bool) (es_20 : LL) (full_21 : Bool) (n_22 : Int) (i_23 n_24 : Nat) (n_25 n_26 : Int) (es_27 : LL) (N : St→Prop) (K : TExit→St→Prop) : (f24_p12b0 es_18 full_19 es_20 full_21 n_22 i_23 n_24 n_25 n_26 es_27 (fun z5 z6 z8 z9=>N (f24_p12_mk es_18 full_19 es_20 full_21 n_22 n_25 (z5,z6,z8,z9))) (fun i0_28 n0_29 es0_30=>K (.exit 2) ⟨mkS 42 [(0,.w (.one (.p (.sl 15 es_18 full_19)))),(1,.w (.one (.p (.sl 2 es_20 full_21)))),(2,I n_22),(7,.w (.one (.ref 0 i0_28 n0_29))),(8,I n_25)],[.vec 1 es0_30 true]⟩)) = execT f24_C (bd Tryz.f24 1) (f24_p12_mk es_18 full_19 es_20 full_21 n_22 n_25 (i_23,n_24,n_26,es_27)) (loopK N (normK f24_C 12) fun e s=>K e (normOut f24_C 12 e s)):=by kernel_rfl
def f24_p6_mk (es6 : LL) (full7 : Bool) (es8 : LL) (full9 : Bool) (n10 : Int) (x : Nat×Nat×Int×(LL)) : St:=⟨mkS 42 [(0,.w (.one (.p (.sl 15 es6 full7)))),(1,.w (.one (.p (.sl 2 es8 full9)))),(2,I n10),(7,.w (.one (.ref 0 x.1 x.2.1))),(8,I x.2.2.1)],[.vec 1 x.2.2.2 true]⟩
theorem f24_p6e0 (es_40 : LL) (full_41 : Bool) (es_42 : LL) (full_43 : Bool) (n_44 : Int) (i_45 n_46 : Nat) (n_47 : Int) (es_48 : LL) (N : St→Prop) (K : TExit→St→Prop) : (f24_p6b0 es_40 full_41 es_42 full_43 n_44 i_45 n_46 n_47 es_48 (fun z5 z6 z7 z8=>N (f24_p6_mk es_40 full_41 es_42 full_43 n_44 (z5,z6,z7,z8))) (fun i0_49 n0_50 es0_51=>K (.exit 0) ⟨mkS 42 [(7,.w (.one (.ref 0 i0_49 n0_50)))],[.vec 1 es0_51 true]⟩)) = execT f24_C (bd Tryz.f24 0) (f24_p6_mk es_40 full_41 es_42 full_43 n_44 (i_45,n_46,n_47,es_48)) (loopK N (normK f24_C 6) fun e s=>K e (normOut f24_C 6 e s)):=by kernel_rfl
set_option maxHeartbeats 4000000 in
theorem f24_p12_ok : LoopOk f24_C (bd Tryz.f24 1):=by
  refine LoopOk.of f24_p12L (by kernel_rfl) fun σ K h=>?_
  have hk : loopKey (bd Tryz.f24 1) = 12:=by kernel_rfl
  rw [hk] at h ⊢
  generalize hs : normK f24_C 12 σ = s at h
  obtain ⟨tm,hp⟩:=s
  unfold f24_p12L at h
  dsimp only at h
  obtain ⟨xx,yy,rfl,rfl,h⟩:=getS_elim h
  refine iter_of (f24_p12_mk xx.1.1 xx.1.2 xx.2.1.1 xx.2.1.2 xx.2.2.1 xx.2.2.2.2.2.1) (fun x N h=>?_) rounds _ σ (hs.trans (by kernel_rfl)) (LoopP.run h)
  obtain ⟨y0,y1,y2,y3⟩:=x
  rw [← f24_p12e0 xx.1.1 xx.1.2 xx.2.1.1 xx.2.1.2 xx.2.2.1 y0 y1 xx.2.2.2.2.2.1 y2 y3 N K]
  exact h
set_option maxHeartbeats 4000000 in
theorem f24_p6_ok : LoopOk f24_C (bd Tryz.f24 0):=by
  refine LoopOk.of f24_p6L (by kernel_rfl) fun σ K h=>?_
  have hk : loopKey (bd Tryz.f24 0) = 6:=by kernel_rfl
  rw [hk] at h ⊢
  generalize hs : normK f24_C 6 σ = s at h
  obtain ⟨tm,hp⟩:=s
  unfold f24_p6L at h
  dsimp only at h
  obtain ⟨xx,yy,rfl,rfl,h⟩:=getS_elim h
  refine iter_of (f24_p6_mk xx.1.1 xx.1.2 xx.2.1.1 xx.2.1.2 xx.2.2.1) (fun x N h=>?_) rounds _ σ (hs.trans (by kernel_rfl)) (LoopP.run h)
  obtain ⟨y0,y1,y2,y3⟩:=x
  rw [← f24_p6e0 xx.1.1 xx.1.2 xx.2.1.1 xx.2.1.2 xx.2.2.1 y0 y1 y2 y3 N K]
  exact h
def f24_G0 : List TV→List Entry→(TV→List Entry→Prop)→Prop:=fun tm hp K=>getS [.v (.one (.sl 15)),.v (.one (.sl 2)),.v (.one (.int .i64))] [] tm hp fun (xx : ((LL×Bool)×((LL×Bool)×(Int×Unit)))) (yy : Unit)=>f24 xx.1.1 xx.1.2 xx.2.1.1 xx.2.1.2 xx.2.2.1 (fun es0_6 full0_7=>K (.w (.one (.p (.sl 1 es0_6 full0_7)))) [])
theorem f24_eq (es_52 : LL) (full_53 : Bool) (es_54 : LL) (full_55 : Bool) (n_56 : Int) (K : TV→List Entry→Prop) : (f24_d es_52 full_53 es_54 full_55 n_56 (fun es0_6 full0_7=>K (.w (.one (.p (.sl 1 es0_6 full0_7)))) [])) = funcT f24_C Tryz.f24 [.w (.one (.p (.sl 15 es_52 full_53))),.w (.one (.p (.sl 2 es_54 full_55))),I n_56] [] K:=by kernel_rfl
set_option maxHeartbeats 4000000 in
theorem f24_ok0 : FnOk Tryz.prog glob 24 f24_G0:=by
  refine FnOk.of_text (C:=f24_C) tab_ok.ok (Known.add f63_G_ok (Known.none)) follows_ok (fn:=Tryz.f24) (by kernel_rfl) (by kernel_rfl) (by kernel_rfl) (fun c hc=>?_) fun tm hp K h=>?_
  · have e : c = bodyOf Tryz.f24:=Option.some.inj (hc.symm.trans (by kernel_rfl))
    subst e
    exact ⟨LoopsOk.of [bd Tryz.f24 0,bd Tryz.f24 1] (by kernel_rfl) ⟨f24_p6_ok,f24_p12_ok,trivial⟩,TailsOk.of (tab:=f24_tab) rfl [] (by kernel_rfl) trivial⟩
  · unfold f24_G0 at h
    obtain ⟨xx,yy,rfl,rfl,h⟩:=getS_elim h
    have e:=(f24_eq xx.1.1 xx.1.2 xx.2.1.1 xx.2.1.2 xx.2.2.1 K).trans (show _ = funcT f24_C Tryz.f24 (mkR _ xx) (mkE _ yy) K by kernel_rfl)
    rw [← e]
    exact h.run
abbrev f24_G:=f24_G0
theorem f24_G_ok : FnOk Tryz.prog glob 24 f24_G:=f24_ok0
def f59_p6b0 (es6 : LL) (full7 : Bool) (n8 : Int) (i9 n10 : Nat) (es11 : LL) (full12 : Bool) (n13 n14 : Int) (es15 : LL) (full16 : Bool) (es17 : LL) (N0 : Nat→Nat→Int→(LL)→Prop) (k0 : Nat→Nat→(LL)→Prop) : Prop:=bB (decide (n14 < n13)) ((0≤n14∧n14 < (es11.length : Int))∧cS (ext (List.getD es11 (Int.toNat n14) []) 0 15) fun s19 r18=>cI .i64 r18 fun n21 r20=>cI .i64 r20 fun n23 r22=>cI .i64 r22 fun n25 r24=>cI .i64 r24 fun n27 r26=>cI .i64 r26 fun n29 r28=>cI .i64 r28 fun n31 r30=>cI .i64 r30 fun n33 r32=>cI .i64 r32 fun n35 r34=>cI .i64 r34 fun n37 r36=>cI .i64 r36 fun n39 r38=>cI .i64 r38 fun n41 r40=>cS r40 fun s43 r42=>cI .i64 r42 fun n45 r44=>cL 3 r44 fun es47 full48 r46=>nilC r46 <| f46 es6 full7 s43 (fun s49 es50 full51 b52=>bB (!(s43.toList == (⟨#[]⟩ : ByteArray).toList)) (bB b52 (f34 s49 es50 full51 n8 (fun b53=>bB b53 ((i9 + n10)≤es17.length∧(n10 + 1) * 8≤2 ^ 46∧(n10 + 1)≤2 ^ 46∧N0 0 (n10 + 1) (w64 (n14 + 1)) ((List.take n10 (List.drop i9 es17)) ++ [[pI n14]])) (bB (s43.toList == (⟨#[]⟩ : ByteArray).toList) (f79 n21 n23 n25 n27 n29 n31 n33 n35 n37 n39 n41 n8 (fun b54=>bB b54 ((i9 + n10)≤es17.length∧(n10 + 1) * 8≤2 ^ 46∧(n10 + 1)≤2 ^ 46∧N0 0 (n10 + 1) (w64 (n14 + 1)) ((List.take n10 (List.drop i9 es17)) ++ [[pI n14]])) (N0 i9 n10 (w64 (n14 + 1)) es17))) (N0 i9 n10 (w64 (n14 + 1)) es17)))) (bB (s43.toList == (⟨#[]⟩ : ByteArray).toList) (f79 n21 n23 n25 n27 n29 n31 n33 n35 n37 n39 n41 n8 (fun b55=>bB b55 ((i9 + n10)≤es17.length∧(n10 + 1) * 8≤2 ^ 46∧(n10 + 1)≤2 ^ 46∧N0 0 (n10 + 1) (w64 (n14 + 1)) ((List.take n10 (List.drop i9 es17)) ++ [[pI n14]])) (N0 i9 n10 (w64 (n14 + 1)) es17))) (N0 i9 n10 (w64 (n14 + 1)) es17))) (bB (s43.toList == (⟨#[]⟩ : ByteArray).toList) (f79 n21 n23 n25 n27 n29 n31 n33 n35 n37 n39 n41 n8 (fun b56=>bB b56 ((i9 + n10)≤es17.length∧(n10 + 1) * 8≤2 ^ 46∧(n10 + 1)≤2 ^ 46∧N0 0 (n10 + 1) (w64 (n14 + 1)) ((List.take n10 (List.drop i9 es17)) ++ [[pI n14]])) (N0 i9 n10 (w64 (n14 + 1)) es17))) (N0 i9 n10 (w64 (n14 + 1)) es17)))) (k0 i9 n10 es17)
def f59_p6 (es6 : LL) (full7 : Bool) (n8 : Int) (es11 : LL) (full12 : Bool) (n13 : Int) (es15 : LL) (full16 : Bool) (k0 : Nat→Nat→(LL)→Prop) : Nat×Nat×Int×(LL)→Prop:=LoopP fun x N=>f59_p6b0 es6 full7 n8 x.1 x.2.1 es11 full12 n13 x.2.2.1 es15 full16 x.2.2.2 (fun i9 n10 n14 es17=>N (i9,n10,n14,es17)) k0
def f59_d (es1 : LL) (full2 : Bool) (es3 : LL) (full4 : Bool) (n5 : Int) (k0 : Nat→Nat→(LL)→Prop) : Prop:=f59_p6 es3 full4 n5 es1 full2 (es1.length : Int) es1 full2 (fun i57 n58 es59=>f90 i57 n58 es59 es1 full2 (fun es60 es61 full62=>k0 i57 n58 es60)) (0,0,0,[])
structure f59 (es1 : LL) (full2 : Bool) (es3 : LL) (full4 : Bool) (n5 : Int) (k0 : Nat→Nat→(LL)→Prop) : Prop where
  run : f59_d es1 full2 es3 full4 n5 k0
def f59_p6L : Told:=fun s K=>match s with
  | ⟨tm,hp⟩=>getS [.skip 1,.v (.one (.sl 2)),.v (.one (.int .i64)),.v (.one (.ptr 0 0 0)),.skip 3,.v (.one (.ref 1)),.skip 4,.v (.one (.sl 15)),.v (.one (.int .i64)),.v (.one (.int .i64)),.skip 42] [.box [.sl 15],.vec 1 true] tm hp fun (xx : (Unit×((LL×Bool)×(Int×(Unit×(Unit×((Nat×Nat)×(Unit×((LL×Bool)×(Int×(Int×(Unit×Unit)))))))))))) (yy : (((LL×Bool)×Unit)×((LL)×Unit)))=>f59_p6 xx.2.1.1 xx.2.1.2 xx.2.2.1 xx.2.2.2.2.2.2.2.1.1 xx.2.2.2.2.2.2.2.1.2 xx.2.2.2.2.2.2.2.2.1 yy.1.1.1 yy.1.1.2 (fun i0_0 n0_1 es0_2=>K (.exit 0) ⟨mkS 57 [(3,.w (.one (.ptr 0 0 0))),(7,.w (.one (.ref 1 i0_0 n0_1)))],[.box [.p (.sl 15 yy.1.1.1 yy.1.1.2)],.vec 1 es0_2 true]⟩) (xx.2.2.2.2.2.1.1,xx.2.2.2.2.2.1.2,xx.2.2.2.2.2.2.2.2.2.1,yy.2.1)
def f59_tab : List (Nat×Told):=[(6,f59_p6L)]
def f59_call : FuncId→List TV→List Entry→(TV→List Entry→Prop)→Prop:=addCall 90 f90_G (addCall 79 f79_G (addCall 46 f46_G (addCall 34 f34_G (noCalls))))
def f59_C : Ctx:=mkC [(6,[(0,[1,2,3,7,12,13,14]),(2,[6]),(3,[3,7])])] [] [(6,[7])] [] [] true 0 false (lookL f59_tab) f59_call
def f59_p6_mk (es6 : LL) (full7 : Bool) (n8 : Int) (es11 : LL) (full12 : Bool) (n13 : Int) (es15 : LL) (full16 : Bool) (x : Nat×Nat×Int×(LL)) : St:=⟨mkS 57 [(1,.w (.one (.p (.sl 2 es6 full7)))),(2,I n8),(3,.w (.one (.ptr 0 0 0))),(7,.w (.one (.ref 1 x.1 x.2.1))),(12,.w (.one (.p (.sl 15 es11 full12)))),(13,I n13),(14,I x.2.2.1)],[.box [.p (.sl 15 es15 full16)],.vec 1 x.2.2.2 true]⟩
theorem f59_p6e0 (es_18 : LL) (full_19 : Bool) (n_20 : Int) (i_21 n_22 : Nat) (es_23 : LL) (full_24 : Bool) (n_25 n_26 : Int) (es_27 : LL) (full_28 : Bool) (es_29 : LL) (N : St→Prop) (K : TExit→St→Prop) : (f59_p6b0 es_18 full_19 n_20 i_21 n_22 es_23 full_24 n_25 n_26 es_27 full_28 es_29 (fun z3 z4 z8 z11=>N (f59_p6_mk es_18 full_19 n_20 es_23 full_24 n_25 es_27 full_28 (z3,z4,z8,z11))) (fun i0_30 n0_31 es0_32=>K (.exit 0) ⟨mkS 57 [(3,.w (.one (.ptr 0 0 0))),(7,.w (.one (.ref 1 i0_30 n0_31)))],[.box [.p (.sl 15 es_27 full_28)],.vec 1 es0_32 true]⟩)) = execT f59_C (bd Tryz.f59 0) (f59_p6_mk es_18 full_19 n_20 es_23 full_24 n_25 es_27 full_28 (i_21,n_22,n_26,es_29)) (loopK N (normK f59_C 6) fun e s=>K e (normOut f59_C 6 e s)):=by kernel_rfl
set_option maxHeartbeats 4000000 in
theorem f59_p6_ok : LoopOk f59_C (bd Tryz.f59 0):=by
  refine LoopOk.of f59_p6L (by kernel_rfl) fun σ K h=>?_
  have hk : loopKey (bd Tryz.f59 0) = 6:=by kernel_rfl
  rw [hk] at h ⊢
  generalize hs : normK f59_C 6 σ = s at h
  obtain ⟨tm,hp⟩:=s
  unfold f59_p6L at h
  dsimp only at h
  obtain ⟨xx,yy,rfl,rfl,h⟩:=getS_elim h
  refine iter_of (f59_p6_mk xx.2.1.1 xx.2.1.2 xx.2.2.1 xx.2.2.2.2.2.2.2.1.1 xx.2.2.2.2.2.2.2.1.2 xx.2.2.2.2.2.2.2.2.1 yy.1.1.1 yy.1.1.2) (fun x N h=>?_) rounds _ σ (hs.trans (by kernel_rfl)) (LoopP.run h)
  obtain ⟨y0,y1,y2,y3⟩:=x
  rw [← f59_p6e0 xx.2.1.1 xx.2.1.2 xx.2.2.1 y0 y1 xx.2.2.2.2.2.2.2.1.1 xx.2.2.2.2.2.2.2.1.2 xx.2.2.2.2.2.2.2.2.1 y2 yy.1.1.1 yy.1.1.2 y3 N K]
  exact h
def f59_G0 : List TV→List Entry→(TV→List Entry→Prop)→Prop:=fun tm hp K=>getS [.v (.one (.sl 15)),.v (.one (.sl 2)),.v (.one (.int .i64))] [] tm hp fun (xx : ((LL×Bool)×((LL×Bool)×(Int×Unit)))) (yy : Unit)=>f59 xx.1.1 xx.1.2 xx.2.1.1 xx.2.1.2 xx.2.2.1 (fun i0_3 n0_4 es0_5=>K (.w (.one (.ref 0 i0_3 n0_4))) [.vec 1 es0_5 true])
theorem f59_eq (es_33 : LL) (full_34 : Bool) (es_35 : LL) (full_36 : Bool) (n_37 : Int) (K : TV→List Entry→Prop) : (f59_d es_33 full_34 es_35 full_36 n_37 (fun i0_3 n0_4 es0_5=>K (.w (.one (.ref 0 i0_3 n0_4))) [.vec 1 es0_5 true])) = funcT f59_C Tryz.f59 [.w (.one (.p (.sl 15 es_33 full_34))),.w (.one (.p (.sl 2 es_35 full_36))),I n_37] [] K:=by kernel_rfl
set_option maxHeartbeats 4000000 in
theorem f59_ok0 : FnOk Tryz.prog glob 59 f59_G0:=by
  refine FnOk.of_text (C:=f59_C) tab_ok.ok (Known.add f90_G_ok (Known.add f79_G_ok (Known.add f46_G_ok (Known.add f34_G_ok (Known.none))))) follows_ok (fn:=Tryz.f59) (by kernel_rfl) (by kernel_rfl) (by kernel_rfl) (fun c hc=>?_) fun tm hp K h=>?_
  · have e : c = bodyOf Tryz.f59:=Option.some.inj (hc.symm.trans (by kernel_rfl))
    subst e
    exact ⟨LoopsOk.of [bd Tryz.f59 0] (by kernel_rfl) ⟨f59_p6_ok,trivial⟩,TailsOk.of (tab:=f59_tab) rfl [] (by kernel_rfl) trivial⟩
  · unfold f59_G0 at h
    obtain ⟨xx,yy,rfl,rfl,h⟩:=getS_elim h
    have e:=(f59_eq xx.1.1 xx.1.2 xx.2.1.1 xx.2.1.2 xx.2.2.1 K).trans (show _ = funcT f59_C Tryz.f59 (mkR _ xx) (mkE _ yy) K by kernel_rfl)
    rw [← e]
    exact h.run
abbrev f59_G:=f59_G0
theorem f59_G_ok : FnOk Tryz.prog glob 59 f59_G:=f59_ok0
def f25_d (es1 : LL) (full2 : Bool) (es3 : LL) (full4 : Bool) (n5 : Int) (k0 : (LL)→Bool→Int→Prop) : Prop:=f57 es1 full2 es3 full4 n5 (fun n6=>bB (n6 != 0) (k0 [] true n6) (f59 es1 full2 es3 full4 n5 (fun i7 n8 es9=>k0 (List.take n8 (List.drop i7 es9)) false 0)))
structure f25 (es1 : LL) (full2 : Bool) (es3 : LL) (full4 : Bool) (n5 : Int) (k0 : (LL)→Bool→Int→Prop) : Prop where
  run : f25_d es1 full2 es3 full4 n5 k0
def f25_tab : List (Nat×Told):=[]
def f25_call : FuncId→List TV→List Entry→(TV→List Entry→Prop)→Prop:=addCall 59 f59_G (addCall 57 f57_G (noCalls))
def f25_C : Ctx:=mkC [] [] [] [] [] false 0 true (lookL f25_tab) f25_call
def f25_G0 : List TV→List Entry→(TV→List Entry→Prop)→Prop:=fun tm hp K=>getS [.v (.one (.sl 15)),.v (.one (.sl 2)),.v (.one (.int .i64))] [] tm hp fun (xx : ((LL×Bool)×((LL×Bool)×(Int×Unit)))) (yy : Unit)=>f25 xx.1.1 xx.1.2 xx.2.1.1 xx.2.1.2 xx.2.2.1 (fun es0_0 full0_1 n0_2=>K (.tup [.one (.p (.sl 1 es0_0 full0_1)),.one (.p (pI n0_2))]) [])
theorem f25_eq (es_3 : LL) (full_4 : Bool) (es_5 : LL) (full_6 : Bool) (n_7 : Int) (K : TV→List Entry→Prop) : (f25_d es_3 full_4 es_5 full_6 n_7 (fun es0_0 full0_1 n0_2=>K (.tup [.one (.p (.sl 1 es0_0 full0_1)),.one (.p (pI n0_2))]) [])) = funcT f25_C Tryz.f25 [.w (.one (.p (.sl 15 es_3 full_4))),.w (.one (.p (.sl 2 es_5 full_6))),I n_7] [] K:=by kernel_rfl
set_option maxHeartbeats 4000000 in
theorem f25_ok0 : FnOk Tryz.prog glob 25 f25_G0:=by
  refine FnOk.of_text (C:=f25_C) tab_ok.ok (Known.add f59_G_ok (Known.add f57_G_ok (Known.none))) follows_ok (fn:=Tryz.f25) (by kernel_rfl) (by kernel_rfl) (by kernel_rfl) (fun c hc=>?_) fun tm hp K h=>?_
  · have e : c = bodyOf Tryz.f25:=Option.some.inj (hc.symm.trans (by kernel_rfl))
    subst e
    exact ⟨LoopsOk.of [] (by kernel_rfl) trivial,TailsOk.of (tab:=f25_tab) rfl [] (by kernel_rfl) trivial⟩
  · unfold f25_G0 at h
    obtain ⟨xx,yy,rfl,rfl,h⟩:=getS_elim h
    have e:=(f25_eq xx.1.1 xx.1.2 xx.2.1.1 xx.2.1.2 xx.2.2.1 K).trans (show _ = funcT f25_C Tryz.f25 (mkR _ xx) (mkE _ yy) K by kernel_rfl)
    rw [← e]
    exact h.run
abbrev f25_G:=f25_G0
theorem f25_G_ok : FnOk Tryz.prog glob 25 f25_G:=f25_ok0
def f89_p6b0 (n4 : Int) (es5 : LL) (full6 : Bool) (n7 n8 : Int) (n9 n10 : Int) (n11 n12 : Int) (N0 : Int→Int→Int→Prop) (k0 : Int→Int→Prop) : Prop:=bB (decide (n8 < n7)) ((0≤n8∧n8 < (es5.length : Int))∧cI .i64 (ext (List.getD es5 (Int.toNat n8) []) 0 3) fun n14 r13=>cI .i64 r13 fun n16 r15=>cI .i64 r15 fun n18 r17=>nilC r17 <| bB (decide (n14≤n4)) (N0 (w64 (n8 + 1)) n16 n18) (N0 (w64 (n8 + 1)) n11 n12)) (k0 n11 n12)
def f89_p6 (n4 : Int) (es5 : LL) (full6 : Bool) (n7 n9 n10 : Int) (k0 : Int→Int→Prop) : Int×Int×Int→Prop:=LoopP fun x N=>f89_p6b0 n4 es5 full6 n7 x.1 n9 n10 x.2.1 x.2.2 (fun n8 n11 n12=>N (n8,n11,n12)) k0
def f89_d (es1 : LL) (full2 : Bool) (n3 : Int) (k0 : Int→Int→Prop) : Prop:=f89_p6 n3 es1 full2 (es1.length : Int) 0 0 (fun n19 n20=>k0 n19 n20) (0,0,0)
structure f89 (es1 : LL) (full2 : Bool) (n3 : Int) (k0 : Int→Int→Prop) : Prop where
  run : f89_d es1 full2 n3 k0
def f89_p6L : Told:=fun s K=>match s with
  | ⟨tm,hp⟩=>getS [.skip 1,.v (.one (.int .i64)),.skip 2,.v (.one (.ptr 0 0 0)),.v (.one (.ptr 1 0 0)),.skip 2,.v (.one (.sl 3)),.v (.one (.int .i64)),.v (.one (.int .i64)),.skip 11] [.box [.int .i64,.int .i64],.box [.int .i64,.int .i64]] tm hp fun (xx : (Unit×(Int×(Unit×(Unit×(Unit×(Unit×((LL×Bool)×(Int×(Int×(Unit×Unit))))))))))) (yy : ((Int×(Int×Unit))×((Int×(Int×Unit))×Unit)))=>f89_p6 xx.2.1 xx.2.2.2.2.2.2.1.1 xx.2.2.2.2.2.2.1.2 xx.2.2.2.2.2.2.2.1 yy.1.1 yy.1.2.1 (fun n0_0 n0_1=>K (.exit 0) ⟨mkS 22 [(4,.w (.one (.ptr 0 0 0))),(5,.w (.one (.ptr 1 0 0)))],[.box [.p (pI yy.1.1),.p (pI yy.1.2.1)],.box [.p (pI n0_0),.p (pI n0_1)]]⟩) (xx.2.2.2.2.2.2.2.2.1,yy.2.1.1,yy.2.1.2.1)
def f89_tab : List (Nat×Told):=[(6,f89_p6L)]
def f89_call : FuncId→List TV→List Entry→(TV→List Entry→Prop)→Prop:=noCalls
def f89_C : Ctx:=mkC [(6,[(0,[1,4,5,8,9,10]),(2,[4]),(3,[4,5])])] [] [] [] [] false 0 true (lookL f89_tab) f89_call
def f89_p6_mk (n4 : Int) (es5 : LL) (full6 : Bool) (n7 n9 n10 : Int) (x : Int×Int×Int) : St:=⟨mkS 22 [(1,I n4),(4,.w (.one (.ptr 0 0 0))),(5,.w (.one (.ptr 1 0 0))),(8,.w (.one (.p (.sl 3 es5 full6)))),(9,I n7),(10,I x.1)],[.box [.p (pI n9),.p (pI n10)],.box [.p (pI x.2.1),.p (pI x.2.2)]]⟩
theorem f89_p6e0 (n_13 : Int) (es_14 : LL) (full_15 : Bool) (n_16 n_17 : Int) (n_18 n_19 : Int) (n_20 n_21 : Int) (N : St→Prop) (K : TExit→St→Prop) : (f89_p6b0 n_13 es_14 full_15 n_16 n_17 n_18 n_19 n_20 n_21 (fun z4 z7 z8=>N (f89_p6_mk n_13 es_14 full_15 n_16 n_18 n_19 (z4,z7,z8))) (fun n0_22 n0_23=>K (.exit 0) ⟨mkS 22 [(4,.w (.one (.ptr 0 0 0))),(5,.w (.one (.ptr 1 0 0)))],[.box [.p (pI n_18),.p (pI n_19)],.box [.p (pI n0_22),.p (pI n0_23)]]⟩)) = execT f89_C (bd Tryz.f89 0) (f89_p6_mk n_13 es_14 full_15 n_16 n_18 n_19 (n_17,n_20,n_21)) (loopK N (normK f89_C 6) fun e s=>K e (normOut f89_C 6 e s)):=by kernel_rfl
set_option maxHeartbeats 4000000 in
theorem f89_p6_ok : LoopOk f89_C (bd Tryz.f89 0):=by
  refine LoopOk.of f89_p6L (by kernel_rfl) fun σ K h=>?_
  have hk : loopKey (bd Tryz.f89 0) = 6:=by kernel_rfl
  rw [hk] at h ⊢
  generalize hs : normK f89_C 6 σ = s at h
  obtain ⟨tm,hp⟩:=s
  unfold f89_p6L at h
  dsimp only at h
  obtain ⟨xx,yy,rfl,rfl,h⟩:=getS_elim h
  refine iter_of (f89_p6_mk xx.2.1 xx.2.2.2.2.2.2.1.1 xx.2.2.2.2.2.2.1.2 xx.2.2.2.2.2.2.2.1 yy.1.1 yy.1.2.1) (fun x N h=>?_) rounds _ σ (hs.trans (by kernel_rfl)) (LoopP.run h)
  obtain ⟨y0,y1,y2⟩:=x
  rw [← f89_p6e0 xx.2.1 xx.2.2.2.2.2.2.1.1 xx.2.2.2.2.2.2.1.2 xx.2.2.2.2.2.2.2.1 y0 yy.1.1 yy.1.2.1 y1 y2 N K]
  exact h
def f89_G0 : List TV→List Entry→(TV→List Entry→Prop)→Prop:=fun tm hp K=>getS [.v (.one (.sl 3)),.v (.one (.int .i64))] [] tm hp fun (xx : ((LL×Bool)×(Int×Unit))) (yy : Unit)=>f89 xx.1.1 xx.1.2 xx.2.1 (fun n0_2 n0_3=>K (.w (.pagg [pI n0_2,pI n0_3])) [])
theorem f89_eq (es_24 : LL) (full_25 : Bool) (n_26 : Int) (K : TV→List Entry→Prop) : (f89_d es_24 full_25 n_26 (fun n0_2 n0_3=>K (.w (.pagg [pI n0_2,pI n0_3])) [])) = funcT f89_C Tryz.f89 [.w (.one (.p (.sl 3 es_24 full_25))),I n_26] [] K:=by kernel_rfl
set_option maxHeartbeats 4000000 in
theorem f89_ok0 : FnOk Tryz.prog glob 89 f89_G0:=by
  refine FnOk.of_text (C:=f89_C) tab_ok.ok (Known.none) follows_ok (fn:=Tryz.f89) (by kernel_rfl) (by kernel_rfl) (by kernel_rfl) (fun c hc=>?_) fun tm hp K h=>?_
  · have e : c = bodyOf Tryz.f89:=Option.some.inj (hc.symm.trans (by kernel_rfl))
    subst e
    exact ⟨LoopsOk.of [bd Tryz.f89 0] (by kernel_rfl) ⟨f89_p6_ok,trivial⟩,TailsOk.of (tab:=f89_tab) rfl [] (by kernel_rfl) trivial⟩
  · unfold f89_G0 at h
    obtain ⟨xx,yy,rfl,rfl,h⟩:=getS_elim h
    have e:=(f89_eq xx.1.1 xx.1.2 xx.2.1 K).trans (show _ = funcT f89_C Tryz.f89 (mkR _ xx) (mkE _ yy) K by kernel_rfl)
    rw [← e]
    exact h.run
abbrev f89_G:=f89_G0
theorem f89_G_ok : FnOk Tryz.prog glob 89 f89_G:=f89_ok0
def f58_p4b0 (es6 : LL) (full7 : Bool) (n8 : Int) (es9 : LL) (full10 : Bool) (n11 n12 : Int) (n13 n14 : Int) (N0 : Int→Prop) (k0 : Int→Int→Int→Prop) (k1 : Unit→Prop) : Prop:=bB (decide (n12 < n11)) ((0≤n12∧n12 < (es9.length : Int))∧oI .i64 (ext (List.getD es9 (Int.toNat n12) []) 0 1) fun n15=>(0≤n15∧n15 < (es6.length : Int))∧oL 3 (ext (List.getD es6 (Int.toNat n15) []) 14 1) fun es16 full17=>f89 es16 full17 n8 (fun n18 n19=>bB (n18 != 0) (k0 n15 n18 n19) (N0 (w64 (n12 + 1))))) (k1 ())
def f58_p4 (es6 : LL) (full7 : Bool) (n8 : Int) (es9 : LL) (full10 : Bool) (n11 n13 n14 : Int) (k0 : Int→Int→Int→Prop) (k1 : Unit→Prop) : Int→Prop:=LoopP fun x N=>f58_p4b0 es6 full7 n8 es9 full10 n11 x n13 n14 (fun n12=>N n12) k0 k1
def f58_d (es1 : LL) (full2 : Bool) (es3 : LL) (full4 : Bool) (n5 : Int) (k0 : Int→Int→Int→Prop) : Prop:=f58_p4 es1 full2 n5 es3 full4 (es3.length : Int) 0 0 (fun n20 n21 n22=>k0 n20 n21 n22) (fun (_ : Unit)=>k0 (-1) 0 0) 0
structure f58 (es1 : LL) (full2 : Bool) (es3 : LL) (full4 : Bool) (n5 : Int) (k0 : Int→Int→Int→Prop) : Prop where
  run : f58_d es1 full2 es3 full4 n5 k0
def f58_p4L : Told:=fun s K=>match s with
  | ⟨tm,hp⟩=>getS [.v (.one (.sl 15)),.skip 1,.v (.one (.int .i64)),.skip 4,.v (.one (.ptr 0 0 0)),.skip 3,.v (.one (.sl 1)),.v (.one (.int .i64)),.v (.one (.int .i64)),.skip 17] [.box [.int .i64,.int .i64]] tm hp fun (xx : ((LL×Bool)×(Unit×(Int×(Unit×(Unit×(Unit×((LL×Bool)×(Int×(Int×(Unit×Unit))))))))))) (yy : ((Int×(Int×Unit))×Unit))=>f58_p4 xx.1.1 xx.1.2 xx.2.2.1 xx.2.2.2.2.2.2.1.1 xx.2.2.2.2.2.2.1.2 xx.2.2.2.2.2.2.2.1 yy.1.1 yy.1.2.1 (fun n0_0 n0_1 n0_2=>K .ret ⟨mkS 31 [(6,I n0_0),(7,.w (.one (.ptr 0 0 0)))],[.box [.p (pI n0_1),.p (pI n0_2)]]⟩) (fun (_ : Unit)=>K (.exit 0) ⟨mkS 31 [(7,.w (.one (.ptr 0 0 0)))],[.box [.p (pI yy.1.1),.p (pI yy.1.2.1)]]⟩) xx.2.2.2.2.2.2.2.2.1
def f58_tab : List (Nat×Told):=[(4,f58_p4L)]
def f58_call : FuncId→List TV→List Entry→(TV→List Entry→Prop)→Prop:=addCall 89 f89_G (noCalls)
def f58_C : Ctx:=mkC [(4,[(0,[0,2,7,11,12,13]),(2,[6,7]),(3,[7])])] [] [] [] [] false 0 true (lookL f58_tab) f58_call
def f58_p4_mk (es6 : LL) (full7 : Bool) (n8 : Int) (es9 : LL) (full10 : Bool) (n11 n13 : Int) (n14 x : Int) : St:=⟨mkS 31 [(0,.w (.one (.p (.sl 15 es6 full7)))),(2,I n8),(7,.w (.one (.ptr 0 0 0))),(11,.w (.one (.p (.sl 1 es9 full10)))),(12,I n11),(13,I x)],[.box [.p (pI n13),.p (pI n14)]]⟩
theorem f58_p4e0 (es_15 : LL) (full_16 : Bool) (n_17 : Int) (es_18 : LL) (full_19 : Bool) (n_20 n_21 : Int) (n_22 n_23 : Int) (N : St→Prop) (K : TExit→St→Prop) : (f58_p4b0 es_15 full_16 n_17 es_18 full_19 n_20 n_21 n_22 n_23 (fun z6=>N (f58_p4_mk es_15 full_16 n_17 es_18 full_19 n_20 n_22 n_23 z6)) (fun n0_24 n0_25 n0_26=>K .ret ⟨mkS 31 [(6,I n0_24),(7,.w (.one (.ptr 0 0 0)))],[.box [.p (pI n0_25),.p (pI n0_26)]]⟩) (fun (_ : Unit)=>K (.exit 0) ⟨mkS 31 [(7,.w (.one (.ptr 0 0 0)))],[.box [.p (pI n_22),.p (pI n_23)]]⟩)) = execT f58_C (bd Tryz.f58 0) (f58_p4_mk es_15 full_16 n_17 es_18 full_19 n_20 n_22 n_23 n_21) (loopK N (normK f58_C 4) fun e s=>K e (normOut f58_C 4 e s)):=by kernel_rfl
set_option maxHeartbeats 4000000 in
theorem f58_p4_ok : LoopOk f58_C (bd Tryz.f58 0):=by
  refine LoopOk.of f58_p4L (by kernel_rfl) fun σ K h=>?_
  have hk : loopKey (bd Tryz.f58 0) = 4:=by kernel_rfl
  rw [hk] at h ⊢
  generalize hs : normK f58_C 4 σ = s at h
  obtain ⟨tm,hp⟩:=s
  unfold f58_p4L at h
  dsimp only at h
  obtain ⟨xx,yy,rfl,rfl,h⟩:=getS_elim h
  refine iter_of (f58_p4_mk xx.1.1 xx.1.2 xx.2.2.1 xx.2.2.2.2.2.2.1.1 xx.2.2.2.2.2.2.1.2 xx.2.2.2.2.2.2.2.1 yy.1.1 yy.1.2.1) (fun x N h=>?_) rounds _ σ (hs.trans (by kernel_rfl)) (LoopP.run h)
  rw [← f58_p4e0 xx.1.1 xx.1.2 xx.2.2.1 xx.2.2.2.2.2.2.1.1 xx.2.2.2.2.2.2.1.2 xx.2.2.2.2.2.2.2.1 x yy.1.1 yy.1.2.1 N K]
  exact h
def f58_G0 : List TV→List Entry→(TV→List Entry→Prop)→Prop:=fun tm hp K=>getS [.v (.one (.sl 15)),.v (.one (.sl 1)),.v (.one (.int .i64))] [] tm hp fun (xx : ((LL×Bool)×((LL×Bool)×(Int×Unit)))) (yy : Unit)=>f58 xx.1.1 xx.1.2 xx.2.1.1 xx.2.1.2 xx.2.2.1 (fun n0_3 n0_4 n0_5=>K (.tup [.one (.p (pI n0_3)),.pagg [pI n0_4,pI n0_5]]) [])
theorem f58_eq (es_27 : LL) (full_28 : Bool) (es_29 : LL) (full_30 : Bool) (n_31 : Int) (K : TV→List Entry→Prop) : (f58_d es_27 full_28 es_29 full_30 n_31 (fun n0_3 n0_4 n0_5=>K (.tup [.one (.p (pI n0_3)),.pagg [pI n0_4,pI n0_5]]) [])) = funcT f58_C Tryz.f58 [.w (.one (.p (.sl 15 es_27 full_28))),.w (.one (.p (.sl 1 es_29 full_30))),I n_31] [] K:=by kernel_rfl
set_option maxHeartbeats 4000000 in
theorem f58_ok0 : FnOk Tryz.prog glob 58 f58_G0:=by
  refine FnOk.of_text (C:=f58_C) tab_ok.ok (Known.add f89_G_ok (Known.none)) follows_ok (fn:=Tryz.f58) (by kernel_rfl) (by kernel_rfl) (by kernel_rfl) (fun c hc=>?_) fun tm hp K h=>?_
  · have e : c = bodyOf Tryz.f58:=Option.some.inj (hc.symm.trans (by kernel_rfl))
    subst e
    exact ⟨LoopsOk.of [bd Tryz.f58 0] (by kernel_rfl) ⟨f58_p4_ok,trivial⟩,TailsOk.of (tab:=f58_tab) rfl [] (by kernel_rfl) trivial⟩
  · unfold f58_G0 at h
    obtain ⟨xx,yy,rfl,rfl,h⟩:=getS_elim h
    have e:=(f58_eq xx.1.1 xx.1.2 xx.2.1.1 xx.2.1.2 xx.2.2.1 K).trans (show _ = funcT f58_C Tryz.f58 (mkR _ xx) (mkE _ yy) K by kernel_rfl)
    rw [← e]
    exact h.run
abbrev f58_G:=f58_G0
theorem f58_G_ok : FnOk Tryz.prog glob 58 f58_G:=f58_ok0
def f20_p13 (es8 : LL) (full9 : Bool) (es10 : LL) (full11 : Bool) (n12 n13 : Int) (n14 n15 : Int) (k0 : Int→Int→Int→Int→Prop) : Prop:=f59 es8 full9 es10 full11 n12 (fun i16 n17 es18=>f58 es8 full9 (List.take n17 (List.drop i16 es18)) false n13 (fun n19 n20 n21=>k0 n19 0 n20 n21))
def f20_d (es1 : LL) (full2 : Bool) (es3 : LL) (full4 : Bool) (n5 n6 : Int) (k0 : Int→Int→Int→Int→Prop) : Prop:=f57 es1 full2 es3 full4 n5 (fun n7=>bB (n7 != 0) (k0 0 0 0 n7) (bB (decide (n6 < 0)) (k0 0 0 0 6) (bB (decide (n6≥1440)) (k0 0 0 0 6) (f20_p13 es1 full2 es3 full4 n5 n6 0 0 (fun n22 n23 n24 n25=>k0 n22 n24 n25 n23)))))
structure f20 (es1 : LL) (full2 : Bool) (es3 : LL) (full4 : Bool) (n5 n6 : Int) (k0 : Int→Int→Int→Int→Prop) : Prop where
  run : f20_d es1 full2 es3 full4 n5 n6 k0
def f20_p13L : Told:=fun s K=>match s with
  | ⟨tm,hp⟩=>getS [.v (.one (.sl 15)),.v (.one (.sl 2)),.v (.one (.int .i64)),.v (.one (.int .i64)),.skip 5,.v (.one (.ptr 0 0 0)),.skip 31] [.box [.int .i64,.int .i64]] tm hp fun (xx : ((LL×Bool)×((LL×Bool)×(Int×(Int×(Unit×(Unit×(Unit×Unit)))))))) (yy : ((Int×(Int×Unit))×Unit))=>f20_p13 xx.1.1 xx.1.2 xx.2.1.1 xx.2.1.2 xx.2.2.1 xx.2.2.2.1 yy.1.1 yy.1.2.1 (fun n0_0 n0_1 n0_2 n0_3=>K .ret ⟨mkS 41 [(8,I n0_0),(9,.w (.one (.ptr 0 0 0))),(10,I n0_1)],[.box [.p (pI n0_2),.p (pI n0_3)]]⟩)
def f20_tab : List (Nat×Told):=[(13,f20_p13L)]
def f20_call : FuncId→List TV→List Entry→(TV→List Entry→Prop)→Prop:=addCall 59 f59_G (addCall 58 f58_G (addCall 57 f57_G (noCalls)))
def f20_C : Ctx:=mkC [(13,[(0,[0,1,2,3,9]),(1,[8,9,10]),(2,[8,9,10])])] [] [] [] [] false 0 true (lookL f20_tab) f20_call
theorem f20_p13e0 (es_8 : LL) (full_9 : Bool) (es_10 : LL) (full_11 : Bool) (n_12 n_13 : Int) (n_14 n_15 : Int) (K : TExit→St→Prop) : (f20_p13 es_8 full_9 es_10 full_11 n_12 n_13 n_14 n_15 (fun n0_16 n0_17 n0_18 n0_19=>K .ret ⟨mkS 41 [(8,I n0_16),(9,.w (.one (.ptr 0 0 0))),(10,I n0_17)],[.box [.p (pI n0_18),.p (pI n0_19)]]⟩)) = execT f20_C (nthC (tails (bodyOf Tryz.f20)) 5) ⟨mkS 41 [(0,.w (.one (.p (.sl 15 es_8 full_9)))),(1,.w (.one (.p (.sl 2 es_10 full_11)))),(2,I n_12),(3,I n_13),(9,.w (.one (.ptr 0 0 0)))],[.box [.p (pI n_14),.p (pI n_15)]]⟩ (fun e s=>K e (normOut f20_C 13 e s)):=by kernel_rfl
set_option maxHeartbeats 4000000 in
theorem f20_p13_ok : TailOk f20_C (nthC (tails (bodyOf Tryz.f20)) 5):=by
  refine TailOk.of f20_p13L (by kernel_rfl) fun σ K h=>?_
  have hk : joinKey (nthC (tails (bodyOf Tryz.f20)) 5) = 13:=by kernel_rfl
  rw [hk] at h ⊢
  generalize hs : normK f20_C 13 σ = s at h
  obtain ⟨tm,hp⟩:=s
  unfold f20_p13L at h
  dsimp only at h
  obtain ⟨xx,yy,rfl,rfl,h⟩:=getS_elim h
  have q : normK f20_C 13 σ = (⟨mkS 41 [(0,.w (.one (.p (.sl 15 xx.1.1 xx.1.2)))),(1,.w (.one (.p (.sl 2 xx.2.1.1 xx.2.1.2)))),(2,I xx.2.2.1),(3,I xx.2.2.2.1),(9,.w (.one (.ptr 0 0 0)))],[.box [.p (pI yy.1.1),.p (pI yy.1.2.1)]]⟩ : St):=hs.trans (by kernel_rfl)
  rw [← hs,q,← f20_p13e0 xx.1.1 xx.1.2 xx.2.1.1 xx.2.1.2 xx.2.2.1 xx.2.2.2.1 yy.1.1 yy.1.2.1 K]
  exact h
def f20_G0 : List TV→List Entry→(TV→List Entry→Prop)→Prop:=fun tm hp K=>getS [.v (.one (.sl 15)),.v (.one (.sl 2)),.v (.one (.int .i64)),.v (.one (.int .i64))] [] tm hp fun (xx : ((LL×Bool)×((LL×Bool)×(Int×(Int×Unit))))) (yy : Unit)=>f20 xx.1.1 xx.1.2 xx.2.1.1 xx.2.1.2 xx.2.2.1 xx.2.2.2.1 (fun n0_4 n0_5 n0_6 n0_7=>K (.tup [.one (.p (pI n0_4)),.pagg [pI n0_5,pI n0_6],.one (.p (pI n0_7))]) [])
theorem f20_eq (es_20 : LL) (full_21 : Bool) (es_22 : LL) (full_23 : Bool) (n_24 n_25 : Int) (K : TV→List Entry→Prop) : (f20_d es_20 full_21 es_22 full_23 n_24 n_25 (fun n0_4 n0_5 n0_6 n0_7=>K (.tup [.one (.p (pI n0_4)),.pagg [pI n0_5,pI n0_6],.one (.p (pI n0_7))]) [])) = funcT f20_C Tryz.f20 [.w (.one (.p (.sl 15 es_20 full_21))),.w (.one (.p (.sl 2 es_22 full_23))),I n_24,I n_25] [] K:=by kernel_rfl
set_option maxHeartbeats 4000000 in
theorem f20_ok0 : FnOk Tryz.prog glob 20 f20_G0:=by
  refine FnOk.of_text (C:=f20_C) tab_ok.ok (Known.add f59_G_ok (Known.add f58_G_ok (Known.add f57_G_ok (Known.none)))) follows_ok (fn:=Tryz.f20) (by kernel_rfl) (by kernel_rfl) (by kernel_rfl) (fun c hc=>?_) fun tm hp K h=>?_
  · have e : c = bodyOf Tryz.f20:=Option.some.inj (hc.symm.trans (by kernel_rfl))
    subst e
    exact ⟨LoopsOk.of [] (by kernel_rfl) trivial,TailsOk.of (tab:=f20_tab) rfl [nthC (tails (bodyOf Tryz.f20)) 5] (by kernel_rfl) ⟨f20_p13_ok,trivial⟩⟩
  · unfold f20_G0 at h
    obtain ⟨xx,yy,rfl,rfl,h⟩:=getS_elim h
    have e:=(f20_eq xx.1.1 xx.1.2 xx.2.1.1 xx.2.1.2 xx.2.2.1 xx.2.2.2.1 K).trans (show _ = funcT f20_C Tryz.f20 (mkR _ xx) (mkE _ yy) K by kernel_rfl)
    rw [← e]
    exact h.run
abbrev f20_G:=f20_G0
theorem f20_G_ok : FnOk Tryz.prog glob 20 f20_G:=f20_ok0
structure f60 (i n : Nat) (es : LL) (k0 : (LL)→Prop) : Prop where
  run : sortD i n es k0
def f60_G0 : List TV→List Entry→(TV→List Entry→Prop)→Prop:=fun tm hp K=>getS [.v (.one (.ref 0))] [.vec 1 true] tm hp fun (xx : ((Nat×Nat)×Unit)) (yy : ((LL)×Unit))=>f60 xx.1.1 xx.1.2 yy.1 (fun es0_0=>K undefT [.vec 1 es0_0 true])
theorem f60_ok0 : FnOk Tryz.prog glob 60 f60_G0:=fun tm hp K h=>by
  unfold f60_G0 at h
  obtain ⟨xx,yy,rfl,rfl,h⟩:=getS_elim h
  exact ⟨⟨Tryz.f60,Tryz.func60,by kernel_rfl,by kernel_rfl⟩,sort_ok Tryz.sortA h.run⟩
abbrev f60_G:=f60_G0
theorem f60_G_ok : FnOk Tryz.prog glob 60 f60_G:=f60_ok0
def f61_p18b0 (i10 n11 : Nat) (n12 : Int) (i13 n14 : Nat) (n15 : Int) (es16 : LL) (N0 : Int→Int→(LL)→Prop) (k0 : Int→(LL)→Prop) : Prop:=bB (decide (n15 < (n14 : Int))) ((0≤n15∧n15 < (n14 : Int))∧oI .i64 (ext (List.getD es16 (i13 + (Int.toNat n15)) []) 0 1) fun n17=>(0≤(w64 (n15 - 1))∧(w64 (n15 - 1)) < (n14 : Int))∧oI .i64 (ext (List.getD es16 (i13 + (Int.toNat (w64 (n15 - 1)))) []) 0 1) fun n18=>bB (n17 != n18) ((0≤n15∧n15 < (n14 : Int))∧oI .i64 (ext (List.getD es16 (i13 + (Int.toNat n15)) []) 0 1) fun n19=>(0≤n12∧n12 < (n11 : Int))∧(i10 + (Int.toNat n12)) < es16.length∧N0 (w64 (n12 + 1)) (w64 (n15 + 1)) (List.set es16 (i10 + (Int.toNat n12)) (splice (List.getD es16 (i10 + (Int.toNat n12)) []) 0 [pI n19]))) (N0 n12 (w64 (n15 + 1)) es16)) (k0 n12 es16)
def f61_p18 (i10 n11 : Nat) (i13 n14 : Nat) (k0 : Int→(LL)→Prop) : Int×Int×(LL)→Prop:=LoopP fun x N=>f61_p18b0 i10 n11 x.1 i13 n14 x.2.1 x.2.2 (fun n12 n15 es16=>N (n12,n15,es16)) k0
def f61_p8b0 (i4 n5 : Nat) (n6 : Int) (es7 : LL) (N0 : Int→Prop) (k0 : Nat→Nat→(LL)→Prop) (k1 : Unit→Prop) : Prop:=bB (decide (n6 < (n5 : Int))) ((0≤n6∧n6 < (n5 : Int))∧oI .i64 (ext (List.getD es7 (i4 + (Int.toNat n6)) []) 0 1) fun n8=>(0≤(w64 (n6 - 1))∧(w64 (n6 - 1)) < (n5 : Int))∧oI .i64 (ext (List.getD es7 (i4 + (Int.toNat (w64 (n6 - 1)))) []) 0 1) fun n9=>bB (n8 == n9) ((0≤n6∧n6≤(n5 : Int)∧(n5 : Int)≤(n5 : Int))∧f61_p18 i4 n5 (i4 + (Int.toNat n6)) ((Int.toNat (n5 : Int)) - (Int.toNat n6)) (fun n20 es21=>(0≤n20∧n20≤(n5 : Int)∧(n5 : Int)≤(n5 : Int))∧((i4 + (Int.toNat n20)) + ((Int.toNat (n5 : Int)) - (Int.toNat n20)))≤es21.length∧(0≤(0 : Int)∧(0 : Int)≤n20∧n20≤(n5 : Int))∧k0 (i4 + 0) ((Int.toNat n20) - 0) (splice es21 (i4 + (Int.toNat n20)) (List.replicate ((Int.toNat (n5 : Int)) - (Int.toNat n20)) [pI 0]))) (n6,1,es7)) (N0 (w64 (n6 + 1)))) (k1 ())
def f61_p8 (i4 n5 : Nat) (es7 : LL) (k0 : Nat→Nat→(LL)→Prop) (k1 : Unit→Prop) : Int→Prop:=LoopP fun x N=>f61_p8b0 i4 n5 x es7 (fun n6=>N n6) k0 k1
def f61_d (i1 n2 : Nat) (es3 : LL) (k0 : Nat→Nat→(LL)→Prop) : Prop:=bB (decide ((n2 : Int) < 2)) (k0 i1 n2 es3) (f61_p8 i1 n2 es3 (fun i22 n23 es24=>k0 i22 n23 es24) (fun (_ : Unit)=>k0 i1 n2 es3) 1)
structure f61 (i1 n2 : Nat) (es3 : LL) (k0 : Nat→Nat→(LL)→Prop) : Prop where
  run : f61_d i1 n2 es3 k0
def f61_p18L : Told:=fun s K=>match s with
  | ⟨tm,hp⟩=>getS [.v (.one (.ref 0)),.skip 2,.v (.one (.int .i64)),.v (.one (.ref 0)),.v (.one (.int .i64)),.skip 55] [.vec 1 true] tm hp fun (xx : ((Nat×Nat)×(Unit×(Int×((Nat×Nat)×(Int×(Unit×Unit))))))) (yy : ((LL)×Unit))=>f61_p18 xx.1.1 xx.1.2 xx.2.2.2.1.1 xx.2.2.2.1.2 (fun n0_0 es0_1=>K (.exit 2) ⟨mkS 61 [(0,.w (.one (.ref 0 xx.1.1 xx.1.2))),(3,I n0_0)],[.vec 1 es0_1 true]⟩) (xx.2.2.1,xx.2.2.2.2.1,yy.1)
def f61_p8L : Told:=fun s K=>match s with
  | ⟨tm,hp⟩=>getS [.v (.one (.ref 0)),.skip 2,.v (.one (.int .i64)),.skip 57] [.vec 1 true] tm hp fun (xx : ((Nat×Nat)×(Unit×(Int×(Unit×Unit))))) (yy : ((LL)×Unit))=>f61_p8 xx.1.1 xx.1.2 yy.1 (fun i0_2 n0_3 es0_4=>K .ret ⟨mkS 61 [(2,.w (.one (.ref 0 i0_2 n0_3)))],[.vec 1 es0_4 true]⟩) (fun (_ : Unit)=>K (.exit 0) ⟨mkS 61 [(0,.w (.one (.ref 0 xx.1.1 xx.1.2)))],[.vec 1 yy.1 true]⟩) xx.2.2.1
def f61_tab : List (Nat×Told):=[(18,f61_p18L),(8,f61_p8L)]
def f61_call : FuncId→List TV→List Entry→(TV→List Entry→Prop)→Prop:=noCalls
def f61_C : Ctx:=mkC [(18,[(0,[0,3,4,5]),(2,[2]),(3,[0]),(4,[0,3]),(5,[0,3])]),(8,[(0,[0,3]),(2,[2]),(3,[0])])] [] [] [] [] true 1 false (lookL f61_tab) f61_call
def f61_p18_mk (i10 n11 : Nat) (i13 n14 : Nat) (x : Int×Int×(LL)) : St:=⟨mkS 61 [(0,.w (.one (.ref 0 i10 n11))),(3,I x.1),(4,.w (.one (.ref 0 i13 n14))),(5,I x.2.1)],[.vec 1 x.2.2 true]⟩
theorem f61_p18e0 (i_15 n_16 : Nat) (n_17 : Int) (i_18 n_19 : Nat) (n_20 : Int) (es_21 : LL) (N : St→Prop) (K : TExit→St→Prop) : (f61_p18b0 i_15 n_16 n_17 i_18 n_19 n_20 es_21 (fun z2 z5 z6=>N (f61_p18_mk i_15 n_16 i_18 n_19 (z2,z5,z6))) (fun n0_22 es0_23=>K (.exit 2) ⟨mkS 61 [(0,.w (.one (.ref 0 i_15 n_16))),(3,I n0_22)],[.vec 1 es0_23 true]⟩)) = execT f61_C (bd Tryz.f61 1) (f61_p18_mk i_15 n_16 i_18 n_19 (n_17,n_20,es_21)) (loopK N (normK f61_C 18) fun e s=>K e (normOut f61_C 18 e s)):=by kernel_rfl
def f61_p8_mk (i4 n5 : Nat) (es7 : LL) (x : Int) : St:=⟨mkS 61 [(0,.w (.one (.ref 0 i4 n5))),(3,I x)],[.vec 1 es7 true]⟩
theorem f61_p8e0 (i_28 n_29 : Nat) (n_30 : Int) (es_31 : LL) (N : St→Prop) (K : TExit→St→Prop) : (f61_p8b0 i_28 n_29 n_30 es_31 (fun z2=>N (f61_p8_mk i_28 n_29 es_31 z2)) (fun i0_32 n0_33 es0_34=>K .ret ⟨mkS 61 [(2,.w (.one (.ref 0 i0_32 n0_33)))],[.vec 1 es0_34 true]⟩) (fun (_ : Unit)=>K (.exit 0) ⟨mkS 61 [(0,.w (.one (.ref 0 i_28 n_29)))],[.vec 1 es_31 true]⟩)) = execT f61_C (bd Tryz.f61 0) (f61_p8_mk i_28 n_29 es_31 n_30) (loopK N (normK f61_C 8) fun e s=>K e (normOut f61_C 8 e s)):=by kernel_rfl
set_option maxHeartbeats 4000000 in
theorem f61_p18_ok : LoopOk f61_C (bd Tryz.f61 1):=by
  refine LoopOk.of f61_p18L (by kernel_rfl) fun σ K h=>?_
  have hk : loopKey (bd Tryz.f61 1) = 18:=by kernel_rfl
  rw [hk] at h ⊢
  generalize hs : normK f61_C 18 σ = s at h
  obtain ⟨tm,hp⟩:=s
  unfold f61_p18L at h
  dsimp only at h
  obtain ⟨xx,yy,rfl,rfl,h⟩:=getS_elim h
  refine iter_of (f61_p18_mk xx.1.1 xx.1.2 xx.2.2.2.1.1 xx.2.2.2.1.2) (fun x N h=>?_) rounds _ σ (hs.trans (by kernel_rfl)) (LoopP.run h)
  obtain ⟨y0,y1,y2⟩:=x
  rw [← f61_p18e0 xx.1.1 xx.1.2 y0 xx.2.2.2.1.1 xx.2.2.2.1.2 y1 y2 N K]
  exact h
set_option maxHeartbeats 4000000 in
theorem f61_p8_ok : LoopOk f61_C (bd Tryz.f61 0):=by
  refine LoopOk.of f61_p8L (by kernel_rfl) fun σ K h=>?_
  have hk : loopKey (bd Tryz.f61 0) = 8:=by kernel_rfl
  rw [hk] at h ⊢
  generalize hs : normK f61_C 8 σ = s at h
  obtain ⟨tm,hp⟩:=s
  unfold f61_p8L at h
  dsimp only at h
  obtain ⟨xx,yy,rfl,rfl,h⟩:=getS_elim h
  refine iter_of (f61_p8_mk xx.1.1 xx.1.2 yy.1) (fun x N h=>?_) rounds _ σ (hs.trans (by kernel_rfl)) (LoopP.run h)
  rw [← f61_p8e0 xx.1.1 xx.1.2 x yy.1 N K]
  exact h
def f61_G0 : List TV→List Entry→(TV→List Entry→Prop)→Prop:=fun tm hp K=>getS [.v (.one (.ref 0))] [.vec 1 true] tm hp fun (xx : ((Nat×Nat)×Unit)) (yy : ((LL)×Unit))=>f61 xx.1.1 xx.1.2 yy.1 (fun i0_5 n0_6 es0_7=>K (.w (.one (.ref 0 i0_5 n0_6))) [.vec 1 es0_7 true])
theorem f61_eq (i_35 n_36 : Nat) (es_37 : LL) (K : TV→List Entry→Prop) : (f61_d i_35 n_36 es_37 (fun i0_5 n0_6 es0_7=>K (.w (.one (.ref 0 i0_5 n0_6))) [.vec 1 es0_7 true])) = funcT f61_C Tryz.f61 [.w (.one (.ref 0 i_35 n_36))] [.vec 1 es_37 true] K:=by kernel_rfl
set_option maxHeartbeats 4000000 in
theorem f61_ok0 : FnOk Tryz.prog glob 61 f61_G0:=by
  refine FnOk.of_text (C:=f61_C) tab_ok.ok (Known.none) follows_ok (fn:=Tryz.f61) (by kernel_rfl) (by kernel_rfl) (by kernel_rfl) (fun c hc=>?_) fun tm hp K h=>?_
  · have e : c = bodyOf Tryz.f61:=Option.some.inj (hc.symm.trans (by kernel_rfl))
    subst e
    exact ⟨LoopsOk.of [bd Tryz.f61 0,bd Tryz.f61 1] (by kernel_rfl) ⟨f61_p8_ok,f61_p18_ok,trivial⟩,TailsOk.of (tab:=f61_tab) rfl [] (by kernel_rfl) trivial⟩
  · unfold f61_G0 at h
    obtain ⟨xx,yy,rfl,rfl,h⟩:=getS_elim h
    have e:=(f61_eq xx.1.1 xx.1.2 yy.1 K).trans (show _ = funcT f61_C Tryz.f61 (mkR _ xx) (mkE _ yy) K by kernel_rfl)
    rw [← e]
    exact h.run
abbrev f61_G:=f61_G0
theorem f61_G_ok : FnOk Tryz.prog glob 61 f61_G:=f61_ok0
def f21_p20b0 (es28 : LL) (full29 : Bool) (es30 : LL) (full31 : Bool) (n32 : Int) (i33 n34 : Nat) (i35 n36 : Nat) (i37 n38 : Nat) (n39 n40 : Int) (es41 : LL) (full42 : Bool) (n43 n44 : Int) (es45 es46 : LL) (N0 : Nat→Nat→Int→(LL)→Prop) (k0 : Nat→Nat→(LL)→Prop) : Prop:=bB (decide (n44 < n43)) ((0≤n44∧n44 < (es41.length : Int))∧cI .i64 (ext (List.getD es41 (Int.toNat n44) []) 0 3) fun n48 r47=>cI .i64 r47 fun n50 r49=>cI .i64 r49 fun n52 r51=>nilC r51 <| (i35 + n36)≤es46.length∧(n36 + 1) * 8≤2 ^ 46∧(n36 + 1)≤2 ^ 46∧N0 0 (n36 + 1) (w64 (n44 + 1)) ((List.take n36 (List.drop i35 es46)) ++ [[pI n48]])) (k0 i35 n36 es46)
def f21_p20 (es28 : LL) (full29 : Bool) (es30 : LL) (full31 : Bool) (n32 : Int) (i33 n34 : Nat) (i37 n38 : Nat) (n39 n40 : Int) (es41 : LL) (full42 : Bool) (n43 : Int) (es45 : LL) (k0 : Nat→Nat→(LL)→Prop) : Nat×Nat×Int×(LL)→Prop:=LoopP fun x N=>f21_p20b0 es28 full29 es30 full31 n32 i33 n34 x.1 x.2.1 i37 n38 n39 n40 es41 full42 n43 x.2.2.1 es45 x.2.2.2 (fun i35 n36 n44 es46=>N (i35,n36,n44,es46)) k0
def f21_p14b0 (es10 : LL) (full11 : Bool) (es12 : LL) (full13 : Bool) (n14 : Int) (i15 n16 : Nat) (i17 n18 : Nat) (i19 n20 : Nat) (n21 n22 : Int) (es23 es24 : LL) (N0 : Nat→Nat→Int→(LL)→Prop) (k0 : Nat→Nat→(LL)→Prop) : Prop:=bB (decide (n22 < n21)) ((0≤n22∧n22 < (n20 : Int))∧oI .i64 (ext (List.getD es23 (i19 + (Int.toNat n22)) []) 0 1) fun n25=>(0≤n25∧n25 < (es10.length : Int))∧oL 3 (ext (List.getD es10 (Int.toNat n25) []) 14 1) fun es26 full27=>f21_p20 es10 full11 es12 full13 n14 i15 n16 i19 n20 n21 n22 es26 full27 (es26.length : Int) es23 (fun i53 n54 es55=>N0 i53 n54 (w64 (n22 + 1)) es55) (i17,n18,0,es24)) (k0 i17 n18 es24)
def f21_p14 (es10 : LL) (full11 : Bool) (es12 : LL) (full13 : Bool) (n14 : Int) (i15 n16 : Nat) (i19 n20 : Nat) (n21 : Int) (es23 : LL) (k0 : Nat→Nat→(LL)→Prop) : Nat×Nat×Int×(LL)→Prop:=LoopP fun x N=>f21_p14b0 es10 full11 es12 full13 n14 i15 n16 x.1 x.2.1 i19 n20 n21 x.2.2.1 es23 x.2.2.2 (fun i17 n18 n22 es24=>N (i17,n18,n22,es24)) k0
def f21_p42b0 (es80 : LL) (full81 : Bool) (i82 n83 : Nat) (n84 : Int) (i85 n86 : Nat) (i87 n88 : Nat) (n89 n90 : Int) (es91 : LL) (n92 n93 : Int) (es94 es95 : LL) (N0 : Int→Nat→Nat→Int→Int→Int→(LL)→Prop) (k0 : Nat→Nat→(LL)→Prop) : Prop:=bB (decide (n90 < n89)) ((0≤n90∧n90 < (n88 : Int))∧oI .i64 (ext (List.getD es95 (i87 + (Int.toNat n90)) []) 0 1) fun n96=>f58 es80 full81 (List.take n83 (List.drop i82 es91)) false n96 (fun n97 n98 n99=>bB (n97 != n84) ((i85 + n86)≤es94.length∧(n86 + 1) * 8≤2 ^ 46∧(n86 + 1)≤2 ^ 46∧N0 n97 0 (n86 + 1) (w64 (n90 + 1)) n98 n99 ((List.take n86 (List.drop i85 es94)) ++ [[pI n96]])) (bB (!((n98 == n92) && ((n99 == n93) && true))) ((i85 + n86)≤es94.length∧(n86 + 1) * 8≤2 ^ 46∧(n86 + 1)≤2 ^ 46∧N0 n97 0 (n86 + 1) (w64 (n90 + 1)) n98 n99 ((List.take n86 (List.drop i85 es94)) ++ [[pI n96]])) (N0 n97 i85 n86 (w64 (n90 + 1)) n98 n99 es94)))) (k0 i85 n86 es94)
def f21_p42 (es80 : LL) (full81 : Bool) (i82 n83 : Nat) (i87 n88 : Nat) (n89 : Int) (es91 es95 : LL) (k0 : Nat→Nat→(LL)→Prop) : Int×Nat×Nat×Int×Int×Int×(LL)→Prop:=LoopP fun x N=>f21_p42b0 es80 full81 i82 n83 x.1 x.2.1 x.2.2.1 i87 n88 n89 x.2.2.2.1 es91 x.2.2.2.2.1 x.2.2.2.2.2.1 x.2.2.2.2.2.2 es95 (fun n84 i85 n86 n90 n92 n93 es94=>N (n84,i85,n86,n90,n92,n93,es94)) k0
def f21_p39 (es66 : LL) (full67 : Bool) (i68 n69 : Nat) (i70 n71 : Nat) (n72 : Int) (es73 es74 : LL) (n75 n76 : Int) (k0 : Nat→Nat→Int→(LL)→Prop) : Prop:=f61 i70 n71 es74 (fun i77 n78 es79=>f21_p42 es66 full67 i68 n69 i77 n78 (n78 : Int) es73 es79 (fun i100 n101 es102=>k0 i100 n101 0 es102) (n72,0,0,0,n75,n76,[]))
def f21_d (es1 : LL) (full2 : Bool) (es3 : LL) (full4 : Bool) (n5 : Int) (k0 : (LL)→Bool→Int→Prop) : Prop:=f57 es1 full2 es3 full4 n5 (fun n6=>bB (n6 != 0) (k0 [] true n6) (f59 es1 full2 es3 full4 n5 (fun i7 n8 es9=>f21_p14 es1 full2 es3 full4 n5 i7 n8 i7 n8 (n8 : Int) es9 (fun i56 n57 es58=>f60 i56 n57 es58 (fun es59=>bB (decide (n5 > 0)) (f59 es1 full2 es3 full4 (w64 (n5 - 1)) (fun i60 n61 es62=>f58 es1 full2 (List.take n61 (List.drop i60 es62)) false 1439 (fun n63 n64 n65=>f21_p39 es1 full2 i7 n8 i56 n57 n63 es9 es59 n64 n65 (fun i103 n104 n105 es106=>k0 (List.take n104 (List.drop i103 es106)) false n105)))) (f21_p39 es1 full2 i7 n8 i56 n57 (-1) es9 es59 0 0 (fun i107 n108 n109 es110=>k0 (List.take n108 (List.drop i107 es110)) false n109)))) (0,1,0,[[pI 0]]))))
structure f21 (es1 : LL) (full2 : Bool) (es3 : LL) (full4 : Bool) (n5 : Int) (k0 : (LL)→Bool→Int→Prop) : Prop where
  run : f21_d es1 full2 es3 full4 n5 k0
def f21_p20L : Told:=fun s K=>match s with
  | ⟨tm,hp⟩=>getS [.v (.one (.sl 15)),.v (.one (.sl 2)),.v (.one (.int .i64)),.skip 6,.v (.one (.ref 0)),.v (.one (.ref 1)),.skip 23,.v (.one (.ref 0)),.v (.one (.int .i64)),.v (.one (.int .i64)),.skip 7,.v (.one (.sl 3)),.v (.one (.int .i64)),.v (.one (.int .i64)),.skip 55] [.vec 1 true,.vec 1 true] tm hp fun (xx : ((LL×Bool)×((LL×Bool)×(Int×(Unit×((Nat×Nat)×((Nat×Nat)×(Unit×((Nat×Nat)×(Int×(Int×(Unit×((LL×Bool)×(Int×(Int×(Unit×Unit)))))))))))))))) (yy : ((LL)×((LL)×Unit)))=>f21_p20 xx.1.1 xx.1.2 xx.2.1.1 xx.2.1.2 xx.2.2.1 xx.2.2.2.2.1.1 xx.2.2.2.2.1.2 xx.2.2.2.2.2.2.2.1.1 xx.2.2.2.2.2.2.2.1.2 xx.2.2.2.2.2.2.2.2.1 xx.2.2.2.2.2.2.2.2.2.1 xx.2.2.2.2.2.2.2.2.2.2.2.1.1 xx.2.2.2.2.2.2.2.2.2.2.2.1.2 xx.2.2.2.2.2.2.2.2.2.2.2.2.1 yy.1 (fun i0_0 n0_1 es0_2=>K (.exit 2) ⟨mkS 102 [(0,.w (.one (.p (.sl 15 xx.1.1 xx.1.2)))),(1,.w (.one (.p (.sl 2 xx.2.1.1 xx.2.1.2)))),(2,I xx.2.2.1),(9,.w (.one (.ref 0 xx.2.2.2.2.1.1 xx.2.2.2.2.1.2))),(10,.w (.one (.ref 1 i0_0 n0_1))),(34,.w (.one (.ref 0 xx.2.2.2.2.2.2.2.1.1 xx.2.2.2.2.2.2.2.1.2))),(35,I xx.2.2.2.2.2.2.2.2.1),(36,I xx.2.2.2.2.2.2.2.2.2.1)],[.vec 1 yy.1 true,.vec 1 es0_2 true]⟩) (xx.2.2.2.2.2.1.1,xx.2.2.2.2.2.1.2,xx.2.2.2.2.2.2.2.2.2.2.2.2.2.1,yy.2.1)
def f21_p14L : Told:=fun s K=>match s with
  | ⟨tm,hp⟩=>getS [.v (.one (.sl 15)),.v (.one (.sl 2)),.v (.one (.int .i64)),.skip 6,.v (.one (.ref 0)),.v (.one (.ref 1)),.skip 23,.v (.one (.ref 0)),.v (.one (.int .i64)),.v (.one (.int .i64)),.skip 65] [.vec 1 true,.vec 1 true] tm hp fun (xx : ((LL×Bool)×((LL×Bool)×(Int×(Unit×((Nat×Nat)×((Nat×Nat)×(Unit×((Nat×Nat)×(Int×(Int×(Unit×Unit)))))))))))) (yy : ((LL)×((LL)×Unit)))=>f21_p14 xx.1.1 xx.1.2 xx.2.1.1 xx.2.1.2 xx.2.2.1 xx.2.2.2.2.1.1 xx.2.2.2.2.1.2 xx.2.2.2.2.2.2.2.1.1 xx.2.2.2.2.2.2.2.1.2 xx.2.2.2.2.2.2.2.2.1 yy.1 (fun i0_3 n0_4 es0_5=>K (.exit 0) ⟨mkS 102 [(0,.w (.one (.p (.sl 15 xx.1.1 xx.1.2)))),(1,.w (.one (.p (.sl 2 xx.2.1.1 xx.2.1.2)))),(2,I xx.2.2.1),(9,.w (.one (.ref 0 xx.2.2.2.2.1.1 xx.2.2.2.2.1.2))),(10,.w (.one (.ref 1 i0_3 n0_4)))],[.vec 1 yy.1 true,.vec 1 es0_5 true]⟩) (xx.2.2.2.2.2.1.1,xx.2.2.2.2.2.1.2,xx.2.2.2.2.2.2.2.2.2.1,yy.2.1)
def f21_p42L : Told:=fun s K=>match s with
  | ⟨tm,hp⟩=>getS [.v (.one (.sl 15)),.skip 8,.v (.one (.ref 0)),.skip 5,.v (.one (.int .i64)),.v (.one (.ptr 1 0 0)),.v (.one (.ref 2)),.skip 55,.v (.one (.ref 3)),.v (.one (.int .i64)),.v (.one (.int .i64)),.skip 26] [.vec 1 true,.box [.int .i64,.int .i64],.vec 1 true,.vec 1 true] tm hp fun (xx : ((LL×Bool)×(Unit×((Nat×Nat)×(Unit×(Int×(Unit×((Nat×Nat)×(Unit×((Nat×Nat)×(Int×(Int×(Unit×Unit))))))))))))) (yy : ((LL)×((Int×(Int×Unit))×((LL)×((LL)×Unit)))))=>f21_p42 xx.1.1 xx.1.2 xx.2.2.1.1 xx.2.2.1.2 xx.2.2.2.2.2.2.2.2.1.1 xx.2.2.2.2.2.2.2.2.1.2 xx.2.2.2.2.2.2.2.2.2.1 yy.1 yy.2.2.2.1 (fun i0_6 n0_7 es0_8=>K (.exit 4) ⟨mkS 102 [(17,.w (.one (.ref 0 i0_6 n0_7)))],[.vec 1 es0_8 true]⟩) (xx.2.2.2.2.1,xx.2.2.2.2.2.2.1.1,xx.2.2.2.2.2.2.1.2,xx.2.2.2.2.2.2.2.2.2.2.1,yy.2.1.1,yy.2.1.2.1,yy.2.2.1)
def f21_p39L : Told:=fun s K=>match s with
  | ⟨tm,hp⟩=>getS [.v (.one (.sl 15)),.skip 8,.v (.one (.ref 0)),.v (.one (.ref 1)),.skip 4,.v (.one (.int .i64)),.v (.one (.ptr 2 0 0)),.skip 85] [.vec 1 true,.vec 1 true,.box [.int .i64,.int .i64]] tm hp fun (xx : ((LL×Bool)×(Unit×((Nat×Nat)×((Nat×Nat)×(Unit×(Int×(Unit×(Unit×Unit))))))))) (yy : ((LL)×((LL)×((Int×(Int×Unit))×Unit))))=>f21_p39 xx.1.1 xx.1.2 xx.2.2.1.1 xx.2.2.1.2 xx.2.2.2.1.1 xx.2.2.2.1.2 xx.2.2.2.2.2.1 yy.1 yy.2.1 yy.2.2.1.1 yy.2.2.1.2.1 (fun i0_9 n0_10 n0_11 es0_12=>K .ret ⟨mkS 102 [(6,.w (.one (.ref 0 i0_9 n0_10))),(7,I n0_11)],[.vec 1 es0_12 true]⟩)
def f21_tab : List (Nat×Told):=[(20,f21_p20L),(14,f21_p14L),(42,f21_p42L),(39,f21_p39L)]
def f21_call : FuncId→List TV→List Entry→(TV→List Entry→Prop)→Prop:=addCall 61 f61_G (addCall 60 f60_G (addCall 59 f59_G (addCall 58 f58_G (addCall 57 f57_G (noCalls)))))
def f21_C : Ctx:=mkC [(20,[(0,[0,1,2,9,10,34,35,36,44,45,46]),(2,[6,7]),(3,[0,1,2,9,10]),(4,[0,1,2,9,10,34,35,36]),(5,[0,1,2,9,10,34,35,36])]),(14,[(0,[0,1,2,9,10,34,35,36]),(2,[6,7]),(3,[0,1,2,9,10])]),(42,[(0,[0,9,15,16,17,73,74,75]),(2,[6,7]),(7,[17])]),(39,[(0,[0,9,10,15,16]),(1,[6,7]),(2,[6,7])])] [] [(42,[17])] [] [] false 0 true (lookL f21_tab) f21_call
def f21_p20_mk (es28 : LL) (full29 : Bool) (es30 : LL) (full31 : Bool) (n32 : Int) (i33 n34 : Nat) (i37 n38 : Nat) (n39 n40 : Int) (es41 : LL) (full42 : Bool) (n43 : Int) (es45 : LL) (x : Nat×Nat×Int×(LL)) : St:=⟨mkS 102 [(0,.w (.one (.p (.sl 15 es28 full29)))),(1,.w (.one (.p (.sl 2 es30 full31)))),(2,I n32),(9,.w (.one (.ref 0 i33 n34))),(10,.w (.one (.ref 1 x.1 x.2.1))),(34,.w (.one (.ref 0 i37 n38))),(35,I n39),(36,I n40),(44,.w (.one (.p (.sl 3 es41 full42)))),(45,I n43),(46,I x.2.2.1)],[.vec 1 es45 true,.vec 1 x.2.2.2 true]⟩
theorem f21_p20e0 (es_35 : LL) (full_36 : Bool) (es_37 : LL) (full_38 : Bool) (n_39 : Int) (i_40 n_41 : Nat) (i_42 n_43 : Nat) (i_44 n_45 : Nat) (n_46 n_47 : Int) (es_48 : LL) (full_49 : Bool) (n_50 n_51 : Int) (es_52 es_53 : LL) (N : St→Prop) (K : TExit→St→Prop) : (f21_p20b0 es_35 full_36 es_37 full_38 n_39 i_40 n_41 i_42 n_43 i_44 n_45 n_46 n_47 es_48 full_49 n_50 n_51 es_52 es_53 (fun z7 z8 z16 z18=>N (f21_p20_mk es_35 full_36 es_37 full_38 n_39 i_40 n_41 i_44 n_45 n_46 n_47 es_48 full_49 n_50 es_52 (z7,z8,z16,z18))) (fun i0_54 n0_55 es0_56=>K (.exit 2) ⟨mkS 102 [(0,.w (.one (.p (.sl 15 es_35 full_36)))),(1,.w (.one (.p (.sl 2 es_37 full_38)))),(2,I n_39),(9,.w (.one (.ref 0 i_40 n_41))),(10,.w (.one (.ref 1 i0_54 n0_55))),(34,.w (.one (.ref 0 i_44 n_45))),(35,I n_46),(36,I n_47)],[.vec 1 es_52 true,.vec 1 es0_56 true]⟩)) = execT f21_C (bd Tryz.f21 1) (f21_p20_mk es_35 full_36 es_37 full_38 n_39 i_40 n_41 i_44 n_45 n_46 n_47 es_48 full_49 n_50 es_52 (i_42,n_43,n_51,es_53)) (loopK N (normK f21_C 20) fun e s=>K e (normOut f21_C 20 e s)):=by kernel_rfl
def f21_p14_mk (es10 : LL) (full11 : Bool) (es12 : LL) (full13 : Bool) (n14 : Int) (i15 n16 : Nat) (i19 n20 : Nat) (n21 : Int) (es23 : LL) (x : Nat×Nat×Int×(LL)) : St:=⟨mkS 102 [(0,.w (.one (.p (.sl 15 es10 full11)))),(1,.w (.one (.p (.sl 2 es12 full13)))),(2,I n14),(9,.w (.one (.ref 0 i15 n16))),(10,.w (.one (.ref 1 x.1 x.2.1))),(34,.w (.one (.ref 0 i19 n20))),(35,I n21),(36,I x.2.2.1)],[.vec 1 es23 true,.vec 1 x.2.2.2 true]⟩
theorem f21_p14e0 (es_72 : LL) (full_73 : Bool) (es_74 : LL) (full_75 : Bool) (n_76 : Int) (i_77 n_78 : Nat) (i_79 n_80 : Nat) (i_81 n_82 : Nat) (n_83 n_84 : Int) (es_85 es_86 : LL) (N : St→Prop) (K : TExit→St→Prop) : (f21_p14b0 es_72 full_73 es_74 full_75 n_76 i_77 n_78 i_79 n_80 i_81 n_82 n_83 n_84 es_85 es_86 (fun z7 z8 z12 z14=>N (f21_p14_mk es_72 full_73 es_74 full_75 n_76 i_77 n_78 i_81 n_82 n_83 es_85 (z7,z8,z12,z14))) (fun i0_87 n0_88 es0_89=>K (.exit 0) ⟨mkS 102 [(0,.w (.one (.p (.sl 15 es_72 full_73)))),(1,.w (.one (.p (.sl 2 es_74 full_75)))),(2,I n_76),(9,.w (.one (.ref 0 i_77 n_78))),(10,.w (.one (.ref 1 i0_87 n0_88)))],[.vec 1 es_85 true,.vec 1 es0_89 true]⟩)) = execT f21_C (bd Tryz.f21 0) (f21_p14_mk es_72 full_73 es_74 full_75 n_76 i_77 n_78 i_81 n_82 n_83 es_85 (i_79,n_80,n_84,es_86)) (loopK N (normK f21_C 14) fun e s=>K e (normOut f21_C 14 e s)):=by kernel_rfl
def f21_p42_mk (es80 : LL) (full81 : Bool) (i82 n83 : Nat) (i87 n88 : Nat) (n89 : Int) (es91 es95 : LL) (x : Int×Nat×Nat×Int×Int×Int×(LL)) : St:=⟨mkS 102 [(0,.w (.one (.p (.sl 15 es80 full81)))),(9,.w (.one (.ref 0 i82 n83))),(15,I x.1),(16,.w (.one (.ptr 1 0 0))),(17,.w (.one (.ref 2 x.2.1 x.2.2.1))),(73,.w (.one (.ref 3 i87 n88))),(74,I n89),(75,I x.2.2.2.1)],[.vec 1 es91 true,.box [.p (pI x.2.2.2.2.1),.p (pI x.2.2.2.2.2.1)],.vec 1 x.2.2.2.2.2.2 true,.vec 1 es95 true]⟩
theorem f21_p42e0 (es_106 : LL) (full_107 : Bool) (i_108 n_109 : Nat) (n_110 : Int) (i_111 n_112 : Nat) (i_113 n_114 : Nat) (n_115 n_116 : Int) (es_117 : LL) (n_118 n_119 : Int) (es_120 es_121 : LL) (N : St→Prop) (K : TExit→St→Prop) : (f21_p42b0 es_106 full_107 i_108 n_109 n_110 i_111 n_112 i_113 n_114 n_115 n_116 es_117 n_118 n_119 es_120 es_121 (fun z4 z5 z6 z10 z12 z13 z14=>N (f21_p42_mk es_106 full_107 i_108 n_109 i_113 n_114 n_115 es_117 es_121 (z4,z5,z6,z10,z12,z13,z14))) (fun i0_122 n0_123 es0_124=>K (.exit 4) ⟨mkS 102 [(17,.w (.one (.ref 0 i0_122 n0_123)))],[.vec 1 es0_124 true]⟩)) = execT f21_C (bd Tryz.f21 2) (f21_p42_mk es_106 full_107 i_108 n_109 i_113 n_114 n_115 es_117 es_121 (n_110,i_111,n_112,n_116,n_118,n_119,es_120)) (loopK N (normK f21_C 42) fun e s=>K e (normOut f21_C 42 e s)):=by kernel_rfl
theorem f21_p39e0 (es_125 : LL) (full_126 : Bool) (i_127 n_128 : Nat) (i_129 n_130 : Nat) (n_131 : Int) (es_132 es_133 : LL) (n_134 n_135 : Int) (K : TExit→St→Prop) : (f21_p39 es_125 full_126 i_127 n_128 i_129 n_130 n_131 es_132 es_133 n_134 n_135 (fun i0_136 n0_137 n0_138 es0_139=>K .ret ⟨mkS 102 [(6,.w (.one (.ref 0 i0_136 n0_137))),(7,I n0_138)],[.vec 1 es0_139 true]⟩)) = execT f21_C (nthC (tails (bodyOf Tryz.f21)) 20) ⟨mkS 102 [(0,.w (.one (.p (.sl 15 es_125 full_126)))),(9,.w (.one (.ref 0 i_127 n_128))),(10,.w (.one (.ref 1 i_129 n_130))),(15,I n_131),(16,.w (.one (.ptr 2 0 0)))],[.vec 1 es_132 true,.vec 1 es_133 true,.box [.p (pI n_134),.p (pI n_135)]]⟩ (fun e s=>K e (normOut f21_C 39 e s)):=by kernel_rfl
set_option maxHeartbeats 4000000 in
theorem f21_p20_ok : LoopOk f21_C (bd Tryz.f21 1):=by
  refine LoopOk.of f21_p20L (by kernel_rfl) fun σ K h=>?_
  have hk : loopKey (bd Tryz.f21 1) = 20:=by kernel_rfl
  rw [hk] at h ⊢
  generalize hs : normK f21_C 20 σ = s at h
  obtain ⟨tm,hp⟩:=s
  unfold f21_p20L at h
  dsimp only at h
  obtain ⟨xx,yy,rfl,rfl,h⟩:=getS_elim h
  refine iter_of (f21_p20_mk xx.1.1 xx.1.2 xx.2.1.1 xx.2.1.2 xx.2.2.1 xx.2.2.2.2.1.1 xx.2.2.2.2.1.2 xx.2.2.2.2.2.2.2.1.1 xx.2.2.2.2.2.2.2.1.2 xx.2.2.2.2.2.2.2.2.1 xx.2.2.2.2.2.2.2.2.2.1 xx.2.2.2.2.2.2.2.2.2.2.2.1.1 xx.2.2.2.2.2.2.2.2.2.2.2.1.2 xx.2.2.2.2.2.2.2.2.2.2.2.2.1 yy.1) (fun x N h=>?_) rounds _ σ (hs.trans (by kernel_rfl)) (LoopP.run h)
  obtain ⟨y0,y1,y2,y3⟩:=x
  rw [← f21_p20e0 xx.1.1 xx.1.2 xx.2.1.1 xx.2.1.2 xx.2.2.1 xx.2.2.2.2.1.1 xx.2.2.2.2.1.2 y0 y1 xx.2.2.2.2.2.2.2.1.1 xx.2.2.2.2.2.2.2.1.2 xx.2.2.2.2.2.2.2.2.1 xx.2.2.2.2.2.2.2.2.2.1 xx.2.2.2.2.2.2.2.2.2.2.2.1.1 xx.2.2.2.2.2.2.2.2.2.2.2.1.2 xx.2.2.2.2.2.2.2.2.2.2.2.2.1 y2 yy.1 y3 N K]
  exact h
set_option maxHeartbeats 4000000 in
theorem f21_p14_ok : LoopOk f21_C (bd Tryz.f21 0):=by
  refine LoopOk.of f21_p14L (by kernel_rfl) fun σ K h=>?_
  have hk : loopKey (bd Tryz.f21 0) = 14:=by kernel_rfl
  rw [hk] at h ⊢
  generalize hs : normK f21_C 14 σ = s at h
  obtain ⟨tm,hp⟩:=s
  unfold f21_p14L at h
  dsimp only at h
  obtain ⟨xx,yy,rfl,rfl,h⟩:=getS_elim h
  refine iter_of (f21_p14_mk xx.1.1 xx.1.2 xx.2.1.1 xx.2.1.2 xx.2.2.1 xx.2.2.2.2.1.1 xx.2.2.2.2.1.2 xx.2.2.2.2.2.2.2.1.1 xx.2.2.2.2.2.2.2.1.2 xx.2.2.2.2.2.2.2.2.1 yy.1) (fun x N h=>?_) rounds _ σ (hs.trans (by kernel_rfl)) (LoopP.run h)
  obtain ⟨y0,y1,y2,y3⟩:=x
  rw [← f21_p14e0 xx.1.1 xx.1.2 xx.2.1.1 xx.2.1.2 xx.2.2.1 xx.2.2.2.2.1.1 xx.2.2.2.2.1.2 y0 y1 xx.2.2.2.2.2.2.2.1.1 xx.2.2.2.2.2.2.2.1.2 xx.2.2.2.2.2.2.2.2.1 y2 yy.1 y3 N K]
  exact h
set_option maxHeartbeats 4000000 in
theorem f21_p42_ok : LoopOk f21_C (bd Tryz.f21 2):=by
  refine LoopOk.of f21_p42L (by kernel_rfl) fun σ K h=>?_
  have hk : loopKey (bd Tryz.f21 2) = 42:=by kernel_rfl
  rw [hk] at h ⊢
  generalize hs : normK f21_C 42 σ = s at h
  obtain ⟨tm,hp⟩:=s
  unfold f21_p42L at h
  dsimp only at h
  obtain ⟨xx,yy,rfl,rfl,h⟩:=getS_elim h
  refine iter_of (f21_p42_mk xx.1.1 xx.1.2 xx.2.2.1.1 xx.2.2.1.2 xx.2.2.2.2.2.2.2.2.1.1 xx.2.2.2.2.2.2.2.2.1.2 xx.2.2.2.2.2.2.2.2.2.1 yy.1 yy.2.2.2.1) (fun x N h=>?_) rounds _ σ (hs.trans (by kernel_rfl)) (LoopP.run h)
  obtain ⟨y0,y1,y2,y3,y4,y5,y6⟩:=x
  rw [← f21_p42e0 xx.1.1 xx.1.2 xx.2.2.1.1 xx.2.2.1.2 y0 y1 y2 xx.2.2.2.2.2.2.2.2.1.1 xx.2.2.2.2.2.2.2.2.1.2 xx.2.2.2.2.2.2.2.2.2.1 y3 yy.1 y4 y5 y6 yy.2.2.2.1 N K]
  exact h
set_option maxHeartbeats 4000000 in
theorem f21_p39_ok : TailOk f21_C (nthC (tails (bodyOf Tryz.f21)) 20):=by
  refine TailOk.of f21_p39L (by kernel_rfl) fun σ K h=>?_
  have hk : joinKey (nthC (tails (bodyOf Tryz.f21)) 20) = 39:=by kernel_rfl
  rw [hk] at h ⊢
  generalize hs : normK f21_C 39 σ = s at h
  obtain ⟨tm,hp⟩:=s
  unfold f21_p39L at h
  dsimp only at h
  obtain ⟨xx,yy,rfl,rfl,h⟩:=getS_elim h
  have q : normK f21_C 39 σ = (⟨mkS 102 [(0,.w (.one (.p (.sl 15 xx.1.1 xx.1.2)))),(9,.w (.one (.ref 0 xx.2.2.1.1 xx.2.2.1.2))),(10,.w (.one (.ref 1 xx.2.2.2.1.1 xx.2.2.2.1.2))),(15,I xx.2.2.2.2.2.1),(16,.w (.one (.ptr 2 0 0)))],[.vec 1 yy.1 true,.vec 1 yy.2.1 true,.box [.p (pI yy.2.2.1.1),.p (pI yy.2.2.1.2.1)]]⟩ : St):=hs.trans (by kernel_rfl)
  rw [← hs,q,← f21_p39e0 xx.1.1 xx.1.2 xx.2.2.1.1 xx.2.2.1.2 xx.2.2.2.1.1 xx.2.2.2.1.2 xx.2.2.2.2.2.1 yy.1 yy.2.1 yy.2.2.1.1 yy.2.2.1.2.1 K]
  exact h
def f21_G0 : List TV→List Entry→(TV→List Entry→Prop)→Prop:=fun tm hp K=>getS [.v (.one (.sl 15)),.v (.one (.sl 2)),.v (.one (.int .i64))] [] tm hp fun (xx : ((LL×Bool)×((LL×Bool)×(Int×Unit)))) (yy : Unit)=>f21 xx.1.1 xx.1.2 xx.2.1.1 xx.2.1.2 xx.2.2.1 (fun es0_13 full0_14 n0_15=>K (.tup [.one (.p (.sl 1 es0_13 full0_14)),.one (.p (pI n0_15))]) [])
theorem f21_eq (es_140 : LL) (full_141 : Bool) (es_142 : LL) (full_143 : Bool) (n_144 : Int) (K : TV→List Entry→Prop) : (f21_d es_140 full_141 es_142 full_143 n_144 (fun es0_13 full0_14 n0_15=>K (.tup [.one (.p (.sl 1 es0_13 full0_14)),.one (.p (pI n0_15))]) [])) = funcT f21_C Tryz.f21 [.w (.one (.p (.sl 15 es_140 full_141))),.w (.one (.p (.sl 2 es_142 full_143))),I n_144] [] K:=by kernel_rfl
set_option maxHeartbeats 4000000 in
theorem f21_ok0 : FnOk Tryz.prog glob 21 f21_G0:=by
  refine FnOk.of_text (C:=f21_C) tab_ok.ok (Known.add f61_G_ok (Known.add f60_G_ok (Known.add f59_G_ok (Known.add f58_G_ok (Known.add f57_G_ok (Known.none)))))) follows_ok (fn:=Tryz.f21) (by kernel_rfl) (by kernel_rfl) (by kernel_rfl) (fun c hc=>?_) fun tm hp K h=>?_
  · have e : c = bodyOf Tryz.f21:=Option.some.inj (hc.symm.trans (by kernel_rfl))
    subst e
    exact ⟨LoopsOk.of [bd Tryz.f21 0,bd Tryz.f21 1,bd Tryz.f21 2] (by kernel_rfl) ⟨f21_p14_ok,f21_p20_ok,f21_p42_ok,trivial⟩,TailsOk.of (tab:=f21_tab) rfl [nthC (tails (bodyOf Tryz.f21)) 20] (by kernel_rfl) ⟨f21_p39_ok,trivial⟩⟩
  · unfold f21_G0 at h
    obtain ⟨xx,yy,rfl,rfl,h⟩:=getS_elim h
    have e:=(f21_eq xx.1.1 xx.1.2 xx.2.1.1 xx.2.1.2 xx.2.2.1 K).trans (show _ = funcT f21_C Tryz.f21 (mkR _ xx) (mkE _ yy) K by kernel_rfl)
    rw [← e]
    exact h.run
abbrev f21_G:=f21_G0
theorem f21_G_ok : FnOk Tryz.prog glob 21 f21_G:=f21_ok0
def f26_p22b0 (es24 : LL) (full25 : Bool) (i26 n27 : Nat) (i28 n29 : Nat) (n30 : Int) (i31 n32 : Nat) (n33 n34 : Int) (i35 n36 : Nat) (n37 n38 : Int) (es39 es40 : LL) (N0 : Nat→Nat→Int→(LL)→Prop) (k0 : Nat→Nat→(LL)→Prop) : Prop:=bB (decide (n38 < n37)) ((0≤n38∧n38 < (n36 : Int))∧oI .i64 (ext (List.getD es39 (i35 + (Int.toNat n38)) []) 0 1) fun n41=>(0≤n30∧n30 < (es24.length : Int))∧oI .i64 (ext (List.getD es24 (Int.toNat n30) []) 13 1) fun n42=>(0≤n41∧n41 < (es24.length : Int))∧oI .i64 (ext (List.getD es24 (Int.toNat n41) []) 13 1) fun n43=>bB (n42 == n43) ((i28 + n29)≤es40.length∧(n29 + 1) * 16≤2 ^ 46∧(n29 + 1)≤2 ^ 46∧N0 0 (n29 + 1) (w64 (n38 + 1)) ((List.take n29 (List.drop i28 es40)) ++ [[pI n30,pI n41]])) (N0 i28 n29 (w64 (n38 + 1)) es40)) (k0 i28 n29 es40)
def f26_p22 (es24 : LL) (full25 : Bool) (i26 n27 : Nat) (n30 : Int) (i31 n32 : Nat) (n33 n34 : Int) (i35 n36 : Nat) (n37 : Int) (es39 : LL) (k0 : Nat→Nat→(LL)→Prop) : Nat×Nat×Int×(LL)→Prop:=LoopP fun x N=>f26_p22b0 es24 full25 i26 n27 x.1 x.2.1 n30 i31 n32 n33 n34 i35 n36 n37 x.2.2.1 es39 x.2.2.2 (fun i28 n29 n38 es40=>N (i28,n29,n38,es40)) k0
def f26_p16b0 (es11 : LL) (full12 : Bool) (i13 n14 : Nat) (i15 n16 : Nat) (i17 n18 : Nat) (n19 n20 : Int) (es21 es22 : LL) (N0 : Nat→Nat→Int→(LL)→Prop) (k0 : Nat→Nat→(LL)→Prop) : Prop:=bB (decide (n20 < n19)) ((0≤n20∧n20 < (n18 : Int))∧oI .i64 (ext (List.getD es21 (i17 + (Int.toNat n20)) []) 0 1) fun n23=>(0≤(w64 (n20 + 1))∧(w64 (n20 + 1))≤(n14 : Int)∧(n14 : Int)≤(n14 : Int))∧f26_p22 es11 full12 i13 n14 n23 i17 n18 n19 n20 (i13 + (Int.toNat (w64 (n20 + 1)))) ((Int.toNat (n14 : Int)) - (Int.toNat (w64 (n20 + 1)))) ((((Int.toNat (n14 : Int)) - (Int.toNat (w64 (n20 + 1)))) : Nat) : Int) es21 (fun i44 n45 es46=>N0 i44 n45 (w64 (n20 + 1)) es46) (i15,n16,0,es22)) (k0 i15 n16 es22)
def f26_p16 (es11 : LL) (full12 : Bool) (i13 n14 : Nat) (i17 n18 : Nat) (n19 : Int) (es21 : LL) (k0 : Nat→Nat→(LL)→Prop) : Nat×Nat×Int×(LL)→Prop:=LoopP fun x N=>f26_p16b0 es11 full12 i13 n14 x.1 x.2.1 i17 n18 n19 x.2.2.1 es21 x.2.2.2 (fun i15 n16 n20 es22=>N (i15,n16,n20,es22)) k0
def f26_d (es1 : LL) (full2 : Bool) (es3 : LL) (full4 : Bool) (n5 : Int) (k0 : (LL)→Bool→Int→Prop) : Prop:=f57 es1 full2 es3 full4 n5 (fun n6=>bB (n6 != 0) (k0 [] true n6) (f59 es1 full2 es3 full4 n5 (fun i7 n8 es9=>f60 i7 n8 es9 (fun es10=>f26_p16 es1 full2 i7 n8 i7 n8 (n8 : Int) es10 (fun i47 n48 es49=>k0 (List.take n48 (List.drop i47 es49)) false 0) (0,0,0,[])))))
structure f26 (es1 : LL) (full2 : Bool) (es3 : LL) (full4 : Bool) (n5 : Int) (k0 : (LL)→Bool→Int→Prop) : Prop where
  run : f26_d es1 full2 es3 full4 n5 k0
def f26_p22L : Told:=fun s K=>match s with
  | ⟨tm,hp⟩=>getS [.v (.one (.sl 15)),.skip 8,.v (.one (.ref 0)),.v (.one (.ref 1)),.skip 1,.v (.one (.int .i64)),.skip 15,.v (.one (.ref 0)),.v (.one (.int .i64)),.v (.one (.int .i64)),.skip 7,.v (.one (.ref 0)),.v (.one (.int .i64)),.v (.one (.int .i64)),.skip 23] [.vec 1 true,.vec 2 true] tm hp fun (xx : ((LL×Bool)×(Unit×((Nat×Nat)×((Nat×Nat)×(Unit×(Int×(Unit×((Nat×Nat)×(Int×(Int×(Unit×((Nat×Nat)×(Int×(Int×(Unit×Unit)))))))))))))))) (yy : ((LL)×((LL)×Unit)))=>f26_p22 xx.1.1 xx.1.2 xx.2.2.1.1 xx.2.2.1.2 xx.2.2.2.2.2.1 xx.2.2.2.2.2.2.2.1.1 xx.2.2.2.2.2.2.2.1.2 xx.2.2.2.2.2.2.2.2.1 xx.2.2.2.2.2.2.2.2.2.1 xx.2.2.2.2.2.2.2.2.2.2.2.1.1 xx.2.2.2.2.2.2.2.2.2.2.2.1.2 xx.2.2.2.2.2.2.2.2.2.2.2.2.1 yy.1 (fun i0_0 n0_1 es0_2=>K (.exit 2) ⟨mkS 64 [(0,.w (.one (.p (.sl 15 xx.1.1 xx.1.2)))),(9,.w (.one (.ref 0 xx.2.2.1.1 xx.2.2.1.2))),(10,.w (.one (.ref 1 i0_0 n0_1))),(28,.w (.one (.ref 0 xx.2.2.2.2.2.2.2.1.1 xx.2.2.2.2.2.2.2.1.2))),(29,I xx.2.2.2.2.2.2.2.2.1),(30,I xx.2.2.2.2.2.2.2.2.2.1)],[.vec 1 yy.1 true,.vec 2 es0_2 true]⟩) (xx.2.2.2.1.1,xx.2.2.2.1.2,xx.2.2.2.2.2.2.2.2.2.2.2.2.2.1,yy.2.1)
def f26_p16L : Told:=fun s K=>match s with
  | ⟨tm,hp⟩=>getS [.v (.one (.sl 15)),.skip 8,.v (.one (.ref 0)),.v (.one (.ref 1)),.skip 17,.v (.one (.ref 0)),.v (.one (.int .i64)),.v (.one (.int .i64)),.skip 33] [.vec 1 true,.vec 2 true] tm hp fun (xx : ((LL×Bool)×(Unit×((Nat×Nat)×((Nat×Nat)×(Unit×((Nat×Nat)×(Int×(Int×(Unit×Unit)))))))))) (yy : ((LL)×((LL)×Unit)))=>f26_p16 xx.1.1 xx.1.2 xx.2.2.1.1 xx.2.2.1.2 xx.2.2.2.2.2.1.1 xx.2.2.2.2.2.1.2 xx.2.2.2.2.2.2.1 yy.1 (fun i0_3 n0_4 es0_5=>K (.exit 0) ⟨mkS 64 [(10,.w (.one (.ref 0 i0_3 n0_4)))],[.vec 2 es0_5 true]⟩) (xx.2.2.2.1.1,xx.2.2.2.1.2,xx.2.2.2.2.2.2.2.1,yy.2.1)
def f26_tab : List (Nat×Told):=[(22,f26_p22L),(16,f26_p16L)]
def f26_call : FuncId→List TV→List Entry→(TV→List Entry→Prop)→Prop:=addCall 60 f60_G (addCall 59 f59_G (addCall 57 f57_G (noCalls)))
def f26_C : Ctx:=mkC [(22,[(0,[0,9,10,12,28,29,30,38,39,40]),(2,[6,7]),(3,[10]),(4,[0,9,10,28,29,30]),(5,[0,9,10,28,29,30])]),(16,[(0,[0,9,10,28,29,30]),(2,[6,7]),(3,[10])])] [] [(22,[10]),(16,[10])] [] [] false 0 true (lookL f26_tab) f26_call
def f26_p22_mk (es24 : LL) (full25 : Bool) (i26 n27 : Nat) (n30 : Int) (i31 n32 : Nat) (n33 n34 : Int) (i35 n36 : Nat) (n37 : Int) (es39 : LL) (x : Nat×Nat×Int×(LL)) : St:=⟨mkS 64 [(0,.w (.one (.p (.sl 15 es24 full25)))),(9,.w (.one (.ref 0 i26 n27))),(10,.w (.one (.ref 1 x.1 x.2.1))),(12,I n30),(28,.w (.one (.ref 0 i31 n32))),(29,I n33),(30,I n34),(38,.w (.one (.ref 0 i35 n36))),(39,I n37),(40,I x.2.2.1)],[.vec 1 es39 true,.vec 2 x.2.2.2 true]⟩
theorem f26_p22e0 (es_26 : LL) (full_27 : Bool) (i_28 n_29 : Nat) (i_30 n_31 : Nat) (n_32 : Int) (i_33 n_34 : Nat) (n_35 n_36 : Int) (i_37 n_38 : Nat) (n_39 n_40 : Int) (es_41 es_42 : LL) (N : St→Prop) (K : TExit→St→Prop) : (f26_p22b0 es_26 full_27 i_28 n_29 i_30 n_31 n_32 i_33 n_34 n_35 n_36 i_37 n_38 n_39 n_40 es_41 es_42 (fun z4 z5 z14 z16=>N (f26_p22_mk es_26 full_27 i_28 n_29 n_32 i_33 n_34 n_35 n_36 i_37 n_38 n_39 es_41 (z4,z5,z14,z16))) (fun i0_43 n0_44 es0_45=>K (.exit 2) ⟨mkS 64 [(0,.w (.one (.p (.sl 15 es_26 full_27)))),(9,.w (.one (.ref 0 i_28 n_29))),(10,.w (.one (.ref 1 i0_43 n0_44))),(28,.w (.one (.ref 0 i_33 n_34))),(29,I n_35),(30,I n_36)],[.vec 1 es_41 true,.vec 2 es0_45 true]⟩)) = execT f26_C (bd Tryz.f26 1) (f26_p22_mk es_26 full_27 i_28 n_29 n_32 i_33 n_34 n_35 n_36 i_37 n_38 n_39 es_41 (i_30,n_31,n_40,es_42)) (loopK N (normK f26_C 22) fun e s=>K e (normOut f26_C 22 e s)):=by kernel_rfl
def f26_p16_mk (es11 : LL) (full12 : Bool) (i13 n14 : Nat) (i17 n18 : Nat) (n19 : Int) (es21 : LL) (x : Nat×Nat×Int×(LL)) : St:=⟨mkS 64 [(0,.w (.one (.p (.sl 15 es11 full12)))),(9,.w (.one (.ref 0 i13 n14))),(10,.w (.one (.ref 1 x.1 x.2.1))),(28,.w (.one (.ref 0 i17 n18))),(29,I n19),(30,I x.2.2.1)],[.vec 1 es21 true,.vec 2 x.2.2.2 true]⟩
theorem f26_p16e0 (es_58 : LL) (full_59 : Bool) (i_60 n_61 : Nat) (i_62 n_63 : Nat) (i_64 n_65 : Nat) (n_66 n_67 : Int) (es_68 es_69 : LL) (N : St→Prop) (K : TExit→St→Prop) : (f26_p16b0 es_58 full_59 i_60 n_61 i_62 n_63 i_64 n_65 n_66 n_67 es_68 es_69 (fun z4 z5 z9 z11=>N (f26_p16_mk es_58 full_59 i_60 n_61 i_64 n_65 n_66 es_68 (z4,z5,z9,z11))) (fun i0_70 n0_71 es0_72=>K (.exit 0) ⟨mkS 64 [(10,.w (.one (.ref 0 i0_70 n0_71)))],[.vec 2 es0_72 true]⟩)) = execT f26_C (bd Tryz.f26 0) (f26_p16_mk es_58 full_59 i_60 n_61 i_64 n_65 n_66 es_68 (i_62,n_63,n_67,es_69)) (loopK N (normK f26_C 16) fun e s=>K e (normOut f26_C 16 e s)):=by kernel_rfl
set_option maxHeartbeats 4000000 in
theorem f26_p22_ok : LoopOk f26_C (bd Tryz.f26 1):=by
  refine LoopOk.of f26_p22L (by kernel_rfl) fun σ K h=>?_
  have hk : loopKey (bd Tryz.f26 1) = 22:=by kernel_rfl
  rw [hk] at h ⊢
  generalize hs : normK f26_C 22 σ = s at h
  obtain ⟨tm,hp⟩:=s
  unfold f26_p22L at h
  dsimp only at h
  obtain ⟨xx,yy,rfl,rfl,h⟩:=getS_elim h
  refine iter_of (f26_p22_mk xx.1.1 xx.1.2 xx.2.2.1.1 xx.2.2.1.2 xx.2.2.2.2.2.1 xx.2.2.2.2.2.2.2.1.1 xx.2.2.2.2.2.2.2.1.2 xx.2.2.2.2.2.2.2.2.1 xx.2.2.2.2.2.2.2.2.2.1 xx.2.2.2.2.2.2.2.2.2.2.2.1.1 xx.2.2.2.2.2.2.2.2.2.2.2.1.2 xx.2.2.2.2.2.2.2.2.2.2.2.2.1 yy.1) (fun x N h=>?_) rounds _ σ (hs.trans (by kernel_rfl)) (LoopP.run h)
  obtain ⟨y0,y1,y2,y3⟩:=x
  rw [← f26_p22e0 xx.1.1 xx.1.2 xx.2.2.1.1 xx.2.2.1.2 y0 y1 xx.2.2.2.2.2.1 xx.2.2.2.2.2.2.2.1.1 xx.2.2.2.2.2.2.2.1.2 xx.2.2.2.2.2.2.2.2.1 xx.2.2.2.2.2.2.2.2.2.1 xx.2.2.2.2.2.2.2.2.2.2.2.1.1 xx.2.2.2.2.2.2.2.2.2.2.2.1.2 xx.2.2.2.2.2.2.2.2.2.2.2.2.1 y2 yy.1 y3 N K]
  exact h
set_option maxHeartbeats 4000000 in
theorem f26_p16_ok : LoopOk f26_C (bd Tryz.f26 0):=by
  refine LoopOk.of f26_p16L (by kernel_rfl) fun σ K h=>?_
  have hk : loopKey (bd Tryz.f26 0) = 16:=by kernel_rfl
  rw [hk] at h ⊢
  generalize hs : normK f26_C 16 σ = s at h
  obtain ⟨tm,hp⟩:=s
  unfold f26_p16L at h
  dsimp only at h
  obtain ⟨xx,yy,rfl,rfl,h⟩:=getS_elim h
  refine iter_of (f26_p16_mk xx.1.1 xx.1.2 xx.2.2.1.1 xx.2.2.1.2 xx.2.2.2.2.2.1.1 xx.2.2.2.2.2.1.2 xx.2.2.2.2.2.2.1 yy.1) (fun x N h=>?_) rounds _ σ (hs.trans (by kernel_rfl)) (LoopP.run h)
  obtain ⟨y0,y1,y2,y3⟩:=x
  rw [← f26_p16e0 xx.1.1 xx.1.2 xx.2.2.1.1 xx.2.2.1.2 y0 y1 xx.2.2.2.2.2.1.1 xx.2.2.2.2.2.1.2 xx.2.2.2.2.2.2.1 y2 yy.1 y3 N K]
  exact h
def f26_G0 : List TV→List Entry→(TV→List Entry→Prop)→Prop:=fun tm hp K=>getS [.v (.one (.sl 15)),.v (.one (.sl 2)),.v (.one (.int .i64))] [] tm hp fun (xx : ((LL×Bool)×((LL×Bool)×(Int×Unit)))) (yy : Unit)=>f26 xx.1.1 xx.1.2 xx.2.1.1 xx.2.1.2 xx.2.2.1 (fun es0_6 full0_7 n0_8=>K (.tup [.one (.p (.sl 2 es0_6 full0_7)),.one (.p (pI n0_8))]) [])
theorem f26_eq (es_73 : LL) (full_74 : Bool) (es_75 : LL) (full_76 : Bool) (n_77 : Int) (K : TV→List Entry→Prop) : (f26_d es_73 full_74 es_75 full_76 n_77 (fun es0_6 full0_7 n0_8=>K (.tup [.one (.p (.sl 2 es0_6 full0_7)),.one (.p (pI n0_8))]) [])) = funcT f26_C Tryz.f26 [.w (.one (.p (.sl 15 es_73 full_74))),.w (.one (.p (.sl 2 es_75 full_76))),I n_77] [] K:=by kernel_rfl
set_option maxHeartbeats 4000000 in
theorem f26_ok0 : FnOk Tryz.prog glob 26 f26_G0:=by
  refine FnOk.of_text (C:=f26_C) tab_ok.ok (Known.add f60_G_ok (Known.add f59_G_ok (Known.add f57_G_ok (Known.none)))) follows_ok (fn:=Tryz.f26) (by kernel_rfl) (by kernel_rfl) (by kernel_rfl) (fun c hc=>?_) fun tm hp K h=>?_
  · have e : c = bodyOf Tryz.f26:=Option.some.inj (hc.symm.trans (by kernel_rfl))
    subst e
    exact ⟨LoopsOk.of [bd Tryz.f26 0,bd Tryz.f26 1] (by kernel_rfl) ⟨f26_p16_ok,f26_p22_ok,trivial⟩,TailsOk.of (tab:=f26_tab) rfl [] (by kernel_rfl) trivial⟩
  · unfold f26_G0 at h
    obtain ⟨xx,yy,rfl,rfl,h⟩:=getS_elim h
    have e:=(f26_eq xx.1.1 xx.1.2 xx.2.1.1 xx.2.1.2 xx.2.2.1 K).trans (show _ = funcT f26_C Tryz.f26 (mkR _ xx) (mkE _ yy) K by kernel_rfl)
    rw [← e]
    exact h.run
abbrev f26_G:=f26_G0
theorem f26_G_ok : FnOk Tryz.prog glob 26 f26_G:=f26_ok0
def f27_p8b0 (es5 : LL) (full6 : Bool) (es7 : LL) (full8 : Bool) (n9 : Int) (N0 : Int→Prop) (k0 : Bool→Prop) (k1 : Unit→Prop) : Prop:=bB (decide (n9 < (es5.length : Int))) ((0≤n9∧n9 < (es5.length : Int))∧(ext (List.getD es5 (Int.toNat n9) []) 0 2).length = 2∧(0≤n9∧n9 < (es7.length : Int))∧(ext (List.getD es7 (Int.toNat n9) []) 0 2).length = 2∧optP (eqCells [.int .i64,.int .i64] (ext (List.getD es5 (Int.toNat n9) []) 0 2) (ext (List.getD es7 (Int.toNat n9) []) 0 2)) fun b10=>bB (!b10) (k0 false) (N0 (w64 (n9 + 1)))) (k1 ())
def f27_p8 (es5 : LL) (full6 : Bool) (es7 : LL) (full8 : Bool) (k0 : Bool→Prop) (k1 : Unit→Prop) : Int→Prop:=LoopP fun x N=>f27_p8b0 es5 full6 es7 full8 x (fun n9=>N n9) k0 k1
def f27_d (es1 : LL) (full2 : Bool) (es3 : LL) (full4 : Bool) (k0 : Bool→Prop) : Prop:=bB ((es1.length : Int) != (es3.length : Int)) (k0 false) (f27_p8 es1 full2 es3 full4 k0 (fun (_ : Unit)=>k0 true) 0)
structure f27 (es1 : LL) (full2 : Bool) (es3 : LL) (full4 : Bool) (k0 : Bool→Prop) : Prop where
  run : f27_d es1 full2 es3 full4 k0
def f27_p8L : Told:=fun s K=>match s with
  | ⟨tm,hp⟩=>getS [.v (.one (.sl 2)),.v (.one (.sl 2)),.skip 3,.v (.one (.int .i64)),.skip 20] [] tm hp fun (xx : ((LL×Bool)×((LL×Bool)×(Unit×(Int×(Unit×Unit)))))) (yy : Unit)=>f27_p8 xx.1.1 xx.1.2 xx.2.1.1 xx.2.1.2 (fun b0_0=>K .ret ⟨mkS 26 [(4,B b0_0)],[]⟩) (fun (_ : Unit)=>K (.exit 0) ⟨mkS 26 [],[]⟩) xx.2.2.2.1
def f27_tab : List (Nat×Told):=[(8,f27_p8L)]
def f27_call : FuncId→List TV→List Entry→(TV→List Entry→Prop)→Prop:=noCalls
def f27_C : Ctx:=mkC [(8,[(0,[0,1,5]),(2,[4]),(3,[])])] [] [] [] [] false 0 true (lookL f27_tab) f27_call
def f27_p8_mk (es5 : LL) (full6 : Bool) (es7 : LL) (full8 : Bool) (x : Int) : St:=⟨mkS 26 [(0,.w (.one (.p (.sl 2 es5 full6)))),(1,.w (.one (.p (.sl 2 es7 full8)))),(5,I x)],[]⟩
theorem f27_p8e0 (es_7 : LL) (full_8 : Bool) (es_9 : LL) (full_10 : Bool) (n_11 : Int) (N : St→Prop) (K : TExit→St→Prop) : (f27_p8b0 es_7 full_8 es_9 full_10 n_11 (fun z4=>N (f27_p8_mk es_7 full_8 es_9 full_10 z4)) (fun b0_12=>K .ret ⟨mkS 26 [(4,B b0_12)],[]⟩) (fun (_ : Unit)=>K (.exit 0) ⟨mkS 26 [],[]⟩)) = execT f27_C (bd Tryz.f27 0) (f27_p8_mk es_7 full_8 es_9 full_10 n_11) (loopK N (normK f27_C 8) fun e s=>K e (normOut f27_C 8 e s)):=by kernel_rfl
set_option maxHeartbeats 4000000 in
theorem f27_p8_ok : LoopOk f27_C (bd Tryz.f27 0):=by
  refine LoopOk.of f27_p8L (by kernel_rfl) fun σ K h=>?_
  have hk : loopKey (bd Tryz.f27 0) = 8:=by kernel_rfl
  rw [hk] at h ⊢
  generalize hs : normK f27_C 8 σ = s at h
  obtain ⟨tm,hp⟩:=s
  unfold f27_p8L at h
  dsimp only at h
  obtain ⟨xx,yy,rfl,rfl,h⟩:=getS_elim h
  refine iter_of (f27_p8_mk xx.1.1 xx.1.2 xx.2.1.1 xx.2.1.2) (fun x N h=>?_) rounds _ σ (hs.trans (by kernel_rfl)) (LoopP.run h)
  rw [← f27_p8e0 xx.1.1 xx.1.2 xx.2.1.1 xx.2.1.2 x N K]
  exact h
def f27_G0 : List TV→List Entry→(TV→List Entry→Prop)→Prop:=fun tm hp K=>getS [.v (.one (.sl 2)),.v (.one (.sl 2))] [] tm hp fun (xx : ((LL×Bool)×((LL×Bool)×Unit))) (yy : Unit)=>f27 xx.1.1 xx.1.2 xx.2.1.1 xx.2.1.2 (fun b0_1=>K (B b0_1) [])
theorem f27_eq (es_13 : LL) (full_14 : Bool) (es_15 : LL) (full_16 : Bool) (K : TV→List Entry→Prop) : (f27_d es_13 full_14 es_15 full_16 (fun b0_1=>K (B b0_1) [])) = funcT f27_C Tryz.f27 [.w (.one (.p (.sl 2 es_13 full_14))),.w (.one (.p (.sl 2 es_15 full_16)))] [] K:=by kernel_rfl
set_option maxHeartbeats 4000000 in
theorem f27_ok0 : FnOk Tryz.prog glob 27 f27_G0:=by
  refine FnOk.of_text (C:=f27_C) tab_ok.ok (Known.none) follows_ok (fn:=Tryz.f27) (by kernel_rfl) (by kernel_rfl) (by kernel_rfl) (fun c hc=>?_) fun tm hp K h=>?_
  · have e : c = bodyOf Tryz.f27:=Option.some.inj (hc.symm.trans (by kernel_rfl))
    subst e
    exact ⟨LoopsOk.of [bd Tryz.f27 0] (by kernel_rfl) ⟨f27_p8_ok,trivial⟩,TailsOk.of (tab:=f27_tab) rfl [] (by kernel_rfl) trivial⟩
  · unfold f27_G0 at h
    obtain ⟨xx,yy,rfl,rfl,h⟩:=getS_elim h
    have e:=(f27_eq xx.1.1 xx.1.2 xx.2.1.1 xx.2.1.2 K).trans (show _ = funcT f27_C Tryz.f27 (mkR _ xx) (mkE _ yy) K by kernel_rfl)
    rw [← e]
    exact h.run
abbrev f27_G:=f27_G0
theorem f27_G_ok : FnOk Tryz.prog glob 27 f27_G:=f27_ok0
def f28_p12b0 (es15 : LL) (full16 : Bool) (es17 : LL) (full18 : Bool) (n19 : Int) (i20 n21 : Nat) (n22 n23 : Int) (es24 : LL) (N0 : Nat→Nat→Int→(LL)→Prop) (k0 : Nat→Nat→(LL)→Prop) : Prop:=bB (decide (n23 < (es15.length : Int))) ((0≤n22∧n22 < (es15.length : Int))∧oI .i64 (ext (List.getD es15 (Int.toNat n22) []) 13 1) fun n25=>(0≤n23∧n23 < (es15.length : Int))∧oI .i64 (ext (List.getD es15 (Int.toNat n23) []) 13 1) fun n26=>bB (n25 == n26) ((0≤n22∧n22 < (es15.length : Int))∧cS (ext (List.getD es15 (Int.toNat n22) []) 0 15) fun s28 r27=>cI .i64 r27 fun n30 r29=>cI .i64 r29 fun n32 r31=>cI .i64 r31 fun n34 r33=>cI .i64 r33 fun n36 r35=>cI .i64 r35 fun n38 r37=>cI .i64 r37 fun n40 r39=>cI .i64 r39 fun n42 r41=>cI .i64 r41 fun n44 r43=>cI .i64 r43 fun n46 r45=>cI .i64 r45 fun n48 r47=>cI .i64 r47 fun n50 r49=>cS r49 fun s52 r51=>cI .i64 r51 fun n54 r53=>cL 3 r53 fun es56 full57 r55=>nilC r55 <| f63 s28 n30 n32 n34 n36 n38 n40 n42 n44 n46 n48 n50 s52 n54 es56 full57 es17 full18 n19 (fun b58=>bB b58 ((0≤n23∧n23 < (es15.length : Int))∧cS (ext (List.getD es15 (Int.toNat n23) []) 0 15) fun s60 r59=>cI .i64 r59 fun n62 r61=>cI .i64 r61 fun n64 r63=>cI .i64 r63 fun n66 r65=>cI .i64 r65 fun n68 r67=>cI .i64 r67 fun n70 r69=>cI .i64 r69 fun n72 r71=>cI .i64 r71 fun n74 r73=>cI .i64 r73 fun n76 r75=>cI .i64 r75 fun n78 r77=>cI .i64 r77 fun n80 r79=>cI .i64 r79 fun n82 r81=>cS r81 fun s84 r83=>cI .i64 r83 fun n86 r85=>cL 3 r85 fun es88 full89 r87=>nilC r87 <| f63 s60 n62 n64 n66 n68 n70 n72 n74 n76 n78 n80 n82 s84 n86 es88 full89 es17 full18 n19 (fun b90=>bB b90 ((i20 + n21)≤es24.length∧(n21 + 1) * 16≤2 ^ 46∧(n21 + 1)≤2 ^ 46∧N0 0 (n21 + 1) (w64 (n23 + 1)) ((List.take n21 (List.drop i20 es24)) ++ [[pI n22,pI n23]])) (N0 i20 n21 (w64 (n23 + 1)) es24))) (N0 i20 n21 (w64 (n23 + 1)) es24))) (N0 i20 n21 (w64 (n23 + 1)) es24)) (k0 i20 n21 es24)
def f28_p12 (es15 : LL) (full16 : Bool) (es17 : LL) (full18 : Bool) (n19 n22 : Int) (k0 : Nat→Nat→(LL)→Prop) : Nat×Nat×Int×(LL)→Prop:=LoopP fun x N=>f28_p12b0 es15 full16 es17 full18 n19 x.1 x.2.1 n22 x.2.2.1 x.2.2.2 (fun i20 n21 n23 es24=>N (i20,n21,n23,es24)) k0
def f28_p6b0 (es6 : LL) (full7 : Bool) (es8 : LL) (full9 : Bool) (n10 : Int) (i11 n12 : Nat) (n13 : Int) (es14 : LL) (N0 : Nat→Nat→Int→(LL)→Prop) (k0 : Nat→Nat→(LL)→Prop) : Prop:=bB (decide (n13 < (es6.length : Int))) (f28_p12 es6 full7 es8 full9 n10 n13 (fun i91 n92 es93=>N0 i91 n92 (w64 (n13 + 1)) es93) (i11,n12,(w64 (n13 + 1)),es14)) (k0 i11 n12 es14)
def f28_p6 (es6 : LL) (full7 : Bool) (es8 : LL) (full9 : Bool) (n10 : Int) (k0 : Nat→Nat→(LL)→Prop) : Nat×Nat×Int×(LL)→Prop:=LoopP fun x N=>f28_p6b0 es6 full7 es8 full9 n10 x.1 x.2.1 x.2.2.1 x.2.2.2 (fun i11 n12 n13 es14=>N (i11,n12,n13,es14)) k0
def f28_d (es1 : LL) (full2 : Bool) (es3 : LL) (full4 : Bool) (n5 : Int) (k0 : (LL)→Bool→Prop) : Prop:=f28_p6 es1 full2 es3 full4 n5 (fun i94 n95 es96=>k0 (List.take n95 (List.drop i94 es96)) false) (0,0,0,[])
structure f28 (es1 : LL) (full2 : Bool) (es3 : LL) (full4 : Bool) (n5 : Int) (k0 : (LL)→Bool→Prop) : Prop where
  run : f28_d es1 full2 es3 full4 n5 k0
def f28_p12L : Told:=fun s K=>match s with
  | ⟨tm,hp⟩=>getS [.v (.one (.sl 15)),.v (.one (.sl 2)),.v (.one (.int .i64)),.skip 4,.v (.one (.ref 0)),.v (.one (.int .i64)),.v (.one (.int .i64)),.skip 51] [.vec 2 true] tm hp fun (xx : ((LL×Bool)×((LL×Bool)×(Int×(Unit×((Nat×Nat)×(Int×(Int×(Unit×Unit))))))))) (yy : ((LL)×Unit))=>f28_p12 xx.1.1 xx.1.2 xx.2.1.1 xx.2.1.2 xx.2.2.1 xx.2.2.2.2.2.1 (fun i0_0 n0_1 es0_2=>K (.exit 2) ⟨mkS 61 [(0,.w (.one (.p (.sl 15 xx.1.1 xx.1.2)))),(1,.w (.one (.p (.sl 2 xx.2.1.1 xx.2.1.2)))),(2,I xx.2.2.1),(7,.w (.one (.ref 0 i0_0 n0_1))),(8,I xx.2.2.2.2.2.1)],[.vec 2 es0_2 true]⟩) (xx.2.2.2.2.1.1,xx.2.2.2.2.1.2,xx.2.2.2.2.2.2.1,yy.1)
def f28_p6L : Told:=fun s K=>match s with
  | ⟨tm,hp⟩=>getS [.v (.one (.sl 15)),.v (.one (.sl 2)),.v (.one (.int .i64)),.skip 4,.v (.one (.ref 0)),.v (.one (.int .i64)),.skip 52] [.vec 2 true] tm hp fun (xx : ((LL×Bool)×((LL×Bool)×(Int×(Unit×((Nat×Nat)×(Int×(Unit×Unit)))))))) (yy : ((LL)×Unit))=>f28_p6 xx.1.1 xx.1.2 xx.2.1.1 xx.2.1.2 xx.2.2.1 (fun i0_3 n0_4 es0_5=>K (.exit 0) ⟨mkS 61 [(7,.w (.one (.ref 0 i0_3 n0_4)))],[.vec 2 es0_5 true]⟩) (xx.2.2.2.2.1.1,xx.2.2.2.2.1.2,xx.2.2.2.2.2.1,yy.1)
def f28_tab : List (Nat×Told):=[(12,f28_p12L),(6,f28_p6L)]
def f28_call : FuncId→List TV→List Entry→(TV→List Entry→Prop)→Prop:=addCall 63 f63_G (noCalls)
def f28_C : Ctx:=mkC [(12,[(0,[0,1,2,7,8,9]),(2,[6]),(3,[7]),(4,[0,1,2,7,8]),(5,[0,1,2,7,8])]),(6,[(0,[0,1,2,7,8]),(2,[6]),(3,[7])])] [] [] [] [] false 0 true (lookL f28_tab) f28_call
def f28_p12_mk (es15 : LL) (full16 : Bool) (es17 : LL) (full18 : Bool) (n19 n22 : Int) (x : Nat×Nat×Int×(LL)) : St:=⟨mkS 61 [(0,.w (.one (.p (.sl 15 es15 full16)))),(1,.w (.one (.p (.sl 2 es17 full18)))),(2,I n19),(7,.w (.one (.ref 0 x.1 x.2.1))),(8,I n22),(9,I x.2.2.1)],[.vec 2 x.2.2.2 true]⟩
theorem f28_p12e0 (es_18 : LL) (full_19 : Bool) (es_20 : LL) (full_21 : Bool) (n_22 : Int) (i_23 n_24 : Nat) (n_25 n_26 : Int) (es_27 : LL) (N : St→Prop) (K : TExit→St→Prop) : (f28_p12b0 es_18 full_19 es_20 full_21 n_22 i_23 n_24 n_25 n_26 es_27 (fun z5 z6 z8 z9=>N (f28_p12_mk es_18 full_19 es_20 full_21 n_22 n_25 (z5,z6,z8,z9))) (fun i0_28 n0_29 es0_30=>K (.exit 2) ⟨mkS 61 [(0,.w (.one (.p (.sl 15 es_18 full_19)))),(1,.w (.one (.p (.sl 2 es_20 full_21)))),(2,I n_22),(7,.w (.one (.ref 0 i0_28 n0_29))),(8,I n_25)],[.vec 2 es0_30 true]⟩)) = execT f28_C (bd Tryz.f28 1) (f28_p12_mk es_18 full_19 es_20 full_21 n_22 n_25 (i_23,n_24,n_26,es_27)) (loopK N (normK f28_C 12) fun e s=>K e (normOut f28_C 12 e s)):=by kernel_rfl
def f28_p6_mk (es6 : LL) (full7 : Bool) (es8 : LL) (full9 : Bool) (n10 : Int) (x : Nat×Nat×Int×(LL)) : St:=⟨mkS 61 [(0,.w (.one (.p (.sl 15 es6 full7)))),(1,.w (.one (.p (.sl 2 es8 full9)))),(2,I n10),(7,.w (.one (.ref 0 x.1 x.2.1))),(8,I x.2.2.1)],[.vec 2 x.2.2.2 true]⟩
theorem f28_p6e0 (es_40 : LL) (full_41 : Bool) (es_42 : LL) (full_43 : Bool) (n_44 : Int) (i_45 n_46 : Nat) (n_47 : Int) (es_48 : LL) (N : St→Prop) (K : TExit→St→Prop) : (f28_p6b0 es_40 full_41 es_42 full_43 n_44 i_45 n_46 n_47 es_48 (fun z5 z6 z7 z8=>N (f28_p6_mk es_40 full_41 es_42 full_43 n_44 (z5,z6,z7,z8))) (fun i0_49 n0_50 es0_51=>K (.exit 0) ⟨mkS 61 [(7,.w (.one (.ref 0 i0_49 n0_50)))],[.vec 2 es0_51 true]⟩)) = execT f28_C (bd Tryz.f28 0) (f28_p6_mk es_40 full_41 es_42 full_43 n_44 (i_45,n_46,n_47,es_48)) (loopK N (normK f28_C 6) fun e s=>K e (normOut f28_C 6 e s)):=by kernel_rfl
set_option maxHeartbeats 4000000 in
theorem f28_p12_ok : LoopOk f28_C (bd Tryz.f28 1):=by
  refine LoopOk.of f28_p12L (by kernel_rfl) fun σ K h=>?_
  have hk : loopKey (bd Tryz.f28 1) = 12:=by kernel_rfl
  rw [hk] at h ⊢
  generalize hs : normK f28_C 12 σ = s at h
  obtain ⟨tm,hp⟩:=s
  unfold f28_p12L at h
  dsimp only at h
  obtain ⟨xx,yy,rfl,rfl,h⟩:=getS_elim h
  refine iter_of (f28_p12_mk xx.1.1 xx.1.2 xx.2.1.1 xx.2.1.2 xx.2.2.1 xx.2.2.2.2.2.1) (fun x N h=>?_) rounds _ σ (hs.trans (by kernel_rfl)) (LoopP.run h)
  obtain ⟨y0,y1,y2,y3⟩:=x
  rw [← f28_p12e0 xx.1.1 xx.1.2 xx.2.1.1 xx.2.1.2 xx.2.2.1 y0 y1 xx.2.2.2.2.2.1 y2 y3 N K]
  exact h
set_option maxHeartbeats 4000000 in
theorem f28_p6_ok : LoopOk f28_C (bd Tryz.f28 0):=by
  refine LoopOk.of f28_p6L (by kernel_rfl) fun σ K h=>?_
  have hk : loopKey (bd Tryz.f28 0) = 6:=by kernel_rfl
  rw [hk] at h ⊢
  generalize hs : normK f28_C 6 σ = s at h
  obtain ⟨tm,hp⟩:=s
  unfold f28_p6L at h
  dsimp only at h
  obtain ⟨xx,yy,rfl,rfl,h⟩:=getS_elim h
  refine iter_of (f28_p6_mk xx.1.1 xx.1.2 xx.2.1.1 xx.2.1.2 xx.2.2.1) (fun x N h=>?_) rounds _ σ (hs.trans (by kernel_rfl)) (LoopP.run h)
  obtain ⟨y0,y1,y2,y3⟩:=x
  rw [← f28_p6e0 xx.1.1 xx.1.2 xx.2.1.1 xx.2.1.2 xx.2.2.1 y0 y1 y2 y3 N K]
  exact h
def f28_G0 : List TV→List Entry→(TV→List Entry→Prop)→Prop:=fun tm hp K=>getS [.v (.one (.sl 15)),.v (.one (.sl 2)),.v (.one (.int .i64))] [] tm hp fun (xx : ((LL×Bool)×((LL×Bool)×(Int×Unit)))) (yy : Unit)=>f28 xx.1.1 xx.1.2 xx.2.1.1 xx.2.1.2 xx.2.2.1 (fun es0_6 full0_7=>K (.w (.one (.p (.sl 2 es0_6 full0_7)))) [])
theorem f28_eq (es_52 : LL) (full_53 : Bool) (es_54 : LL) (full_55 : Bool) (n_56 : Int) (K : TV→List Entry→Prop) : (f28_d es_52 full_53 es_54 full_55 n_56 (fun es0_6 full0_7=>K (.w (.one (.p (.sl 2 es0_6 full0_7)))) [])) = funcT f28_C Tryz.f28 [.w (.one (.p (.sl 15 es_52 full_53))),.w (.one (.p (.sl 2 es_54 full_55))),I n_56] [] K:=by kernel_rfl
set_option maxHeartbeats 4000000 in
theorem f28_ok0 : FnOk Tryz.prog glob 28 f28_G0:=by
  refine FnOk.of_text (C:=f28_C) tab_ok.ok (Known.add f63_G_ok (Known.none)) follows_ok (fn:=Tryz.f28) (by kernel_rfl) (by kernel_rfl) (by kernel_rfl) (fun c hc=>?_) fun tm hp K h=>?_
  · have e : c = bodyOf Tryz.f28:=Option.some.inj (hc.symm.trans (by kernel_rfl))
    subst e
    exact ⟨LoopsOk.of [bd Tryz.f28 0,bd Tryz.f28 1] (by kernel_rfl) ⟨f28_p6_ok,f28_p12_ok,trivial⟩,TailsOk.of (tab:=f28_tab) rfl [] (by kernel_rfl) trivial⟩
  · unfold f28_G0 at h
    obtain ⟨xx,yy,rfl,rfl,h⟩:=getS_elim h
    have e:=(f28_eq xx.1.1 xx.1.2 xx.2.1.1 xx.2.1.2 xx.2.2.1 K).trans (show _ = funcT f28_C Tryz.f28 (mkR _ xx) (mkE _ yy) K by kernel_rfl)
    rw [← e]
    exact h.run
abbrev f28_G:=f28_G0
theorem f28_G_ok : FnOk Tryz.prog glob 28 f28_G:=f28_ok0
def f7_d (k0 : Bool→Prop) : Prop:=f25 [[pS (⟨#[119,111,114,107,115]⟩ : ByteArray),pI 0,pI 0,pI 0,pI 0,pI 0,pI 0,pI 0,pI 0,pI 0,pI 0,pI 0,pS (⟨#[104,111,108,105,100,97,121,115]⟩ : ByteArray),pI 5,.sl 3 [[pI 0,pI 2,pI 0]] false],[pS (⟨#[112,97,114,116,121]⟩ : ByteArray),pI 2026,pI 12,pI 31,pI 0,pI 0,pI 0,pI 0,pI 0,pI 0,pI 0,pI 0,pS (⟨#[]⟩ : ByteArray),pI 3,.sl 3 [[pI 1080,pI 2,pI 1],[pI 1380,pI 0,pI 0]] false]] false [[pS (⟨#[104,111,108,105,100,97,121,115]⟩ : ByteArray),.sl 11 [[pI 0,pI 0,pI 0,pI 0,pI 0,pI 2026,pI 12,pI 24,pI 2026,pI 12,pI 31],[pI 0,pI 1,pI 1,pI 0,pI 0,pI 0,pI 0,pI 0,pI 0,pI 0,pI 0]] false]] false 9861 (fun es1 full2 n3=>f20 [[pS (⟨#[119,111,114,107,115]⟩ : ByteArray),pI 0,pI 0,pI 0,pI 0,pI 0,pI 0,pI 0,pI 0,pI 0,pI 0,pI 0,pS (⟨#[104,111,108,105,100,97,121,115]⟩ : ByteArray),pI 5,.sl 3 [[pI 0,pI 2,pI 0]] false],[pS (⟨#[112,97,114,116,121]⟩ : ByteArray),pI 2026,pI 12,pI 31,pI 0,pI 0,pI 0,pI 0,pI 0,pI 0,pI 0,pI 0,pS (⟨#[]⟩ : ByteArray),pI 3,.sl 3 [[pI 1080,pI 2,pI 1],[pI 1380,pI 0,pI 0]] false]] false [[pS (⟨#[104,111,108,105,100,97,121,115]⟩ : ByteArray),.sl 11 [[pI 0,pI 0,pI 0,pI 0,pI 0,pI 2026,pI 12,pI 24,pI 2026,pI 12,pI 31],[pI 0,pI 1,pI 1,pI 0,pI 0,pI 0,pI 0,pI 0,pI 0,pI 0,pI 0]] false]] false 9861 720 (fun n4 n5 n6 n7=>f20 [[pS (⟨#[119,111,114,107,115]⟩ : ByteArray),pI 0,pI 0,pI 0,pI 0,pI 0,pI 0,pI 0,pI 0,pI 0,pI 0,pI 0,pS (⟨#[104,111,108,105,100,97,121,115]⟩ : ByteArray),pI 5,.sl 3 [[pI 0,pI 2,pI 0]] false],[pS (⟨#[112,97,114,116,121]⟩ : ByteArray),pI 2026,pI 12,pI 31,pI 0,pI 0,pI 0,pI 0,pI 0,pI 0,pI 0,pI 0,pS (⟨#[]⟩ : ByteArray),pI 3,.sl 3 [[pI 1080,pI 2,pI 1],[pI 1380,pI 0,pI 0]] false]] false [[pS (⟨#[104,111,108,105,100,97,121,115]⟩ : ByteArray),.sl 11 [[pI 0,pI 0,pI 0,pI 0,pI 0,pI 2026,pI 12,pI 24,pI 2026,pI 12,pI 31],[pI 0,pI 1,pI 1,pI 0,pI 0,pI 0,pI 0,pI 0,pI 0,pI 0,pI 0]] false]] false 9861 1080 (fun n8 n9 n10 n11=>f21 [[pS (⟨#[119,111,114,107,115]⟩ : ByteArray),pI 0,pI 0,pI 0,pI 0,pI 0,pI 0,pI 0,pI 0,pI 0,pI 0,pI 0,pS (⟨#[104,111,108,105,100,97,121,115]⟩ : ByteArray),pI 5,.sl 3 [[pI 0,pI 2,pI 0]] false],[pS (⟨#[112,97,114,116,121]⟩ : ByteArray),pI 2026,pI 12,pI 31,pI 0,pI 0,pI 0,pI 0,pI 0,pI 0,pI 0,pI 0,pS (⟨#[]⟩ : ByteArray),pI 3,.sl 3 [[pI 1080,pI 2,pI 1],[pI 1380,pI 0,pI 0]] false]] false [[pS (⟨#[104,111,108,105,100,97,121,115]⟩ : ByteArray),.sl 11 [[pI 0,pI 0,pI 0,pI 0,pI 0,pI 2026,pI 12,pI 24,pI 2026,pI 12,pI 31],[pI 0,pI 1,pI 1,pI 0,pI 0,pI 0,pI 0,pI 0,pI 0,pI 0,pI 0]] false]] false 9861 (fun es12 full13 n14=>f21 [[pS (⟨#[119,111,114,107,115]⟩ : ByteArray),pI 0,pI 0,pI 0,pI 0,pI 0,pI 0,pI 0,pI 0,pI 0,pI 0,pI 0,pS (⟨#[104,111,108,105,100,97,121,115]⟩ : ByteArray),pI 5,.sl 3 [[pI 0,pI 2,pI 0]] false],[pS (⟨#[112,97,114,116,121]⟩ : ByteArray),pI 2026,pI 12,pI 31,pI 0,pI 0,pI 0,pI 0,pI 0,pI 0,pI 0,pI 0,pS (⟨#[]⟩ : ByteArray),pI 3,.sl 3 [[pI 1080,pI 2,pI 1],[pI 1380,pI 0,pI 0]] false]] false [[pS (⟨#[104,111,108,105,100,97,121,115]⟩ : ByteArray),.sl 11 [[pI 0,pI 0,pI 0,pI 0,pI 0,pI 2026,pI 12,pI 24,pI 2026,pI 12,pI 31],[pI 0,pI 1,pI 1,pI 0,pI 0,pI 0,pI 0,pI 0,pI 0,pI 0,pI 0]] false]] false 9862 (fun es15 full16 n17=>(0≤(0 : Int)∧(0 : Int) < 1)∧f12 (⟨#[104,111,108,105,100,97,121,115]⟩ : ByteArray) [[pI 0,pI 0,pI 0,pI 0,pI 0,pI 2026,pI 12,pI 24,pI 2026,pI 12,pI 31],[pI 0,pI 1,pI 1,pI 0,pI 0,pI 0,pI 0,pI 0,pI 0,pI 0,pI 0]] false 9863 (fun n18 n19=>bB (n3 == 0) (f16 es1 full2 [[pI 1],[pI 0]] false (fun b20=>bB b20 (bB (n7 == 0) (bB (n4 == 0) (bB ((n5 == 2) && ((n6 == 0) && true)) (bB (n11 == 0) (bB (n8 == 1) (bB (n10 == 1) (bB (n14 == 0) (f16 es12 full13 [[pI 1080],[pI 1380]] false (fun b21=>bB b21 (bB (n17 == 0) (bB ((es15.length : Int) == 0) (bB (n19 == 0) (k0 (n18 == 10227)) (k0 false)) (k0 false)) (k0 false)) (k0 false))) (k0 false)) (k0 false)) (k0 false)) (k0 false)) (k0 false)) (k0 false)) (k0 false)) (k0 false))) (k0 false)))))))
structure f7 (k0 : Bool→Prop) : Prop where
  run : f7_d k0
def f7_tab : List (Nat×Told):=[]
def f7_call : FuncId→List TV→List Entry→(TV→List Entry→Prop)→Prop:=addCall 25 f25_G (addCall 21 f21_G (addCall 20 f20_G (addCall 16 f16_G (addCall 12 f12_G (noCalls)))))
def f7_C : Ctx:=mkC [] [] [] [] [] false 0 true (lookL f7_tab) f7_call
def f7_G0 : List TV→List Entry→(TV→List Entry→Prop)→Prop:=fun tm hp K=>getS [] [] tm hp fun (xx : Unit) (yy : Unit)=>f7 (fun b0_0=>K (B b0_0) [])
theorem f7_eq (K : TV→List Entry→Prop) : (f7_d (fun b0_0=>K (B b0_0) [])) = funcT f7_C Tryz.f7 [] [] K:=by kernel_rfl
set_option maxHeartbeats 4000000 in
theorem f7_ok0 : FnOk Tryz.prog glob 7 f7_G0:=by
  refine FnOk.of_text (C:=f7_C) tab_ok.ok (Known.add f25_G_ok (Known.add f21_G_ok (Known.add f20_G_ok (Known.add f16_G_ok (Known.add f12_G_ok (Known.none)))))) follows_ok (fn:=Tryz.f7) (by kernel_rfl) (by kernel_rfl) (by kernel_rfl) (fun c hc=>?_) fun tm hp K h=>?_
  · have e : c = bodyOf Tryz.f7:=Option.some.inj (hc.symm.trans (by kernel_rfl))
    subst e
    exact ⟨LoopsOk.of [] (by kernel_rfl) trivial,TailsOk.of (tab:=f7_tab) rfl [] (by kernel_rfl) trivial⟩
  · unfold f7_G0 at h
    obtain ⟨xx,yy,rfl,rfl,h⟩:=getS_elim h
    have e:=(f7_eq K).trans (show _ = funcT f7_C Tryz.f7 (mkR _ xx) (mkE _ yy) K by kernel_rfl)
    rw [← e]
    exact h.run
abbrev f7_G:=f7_G0
theorem f7_G_ok : FnOk Tryz.prog glob 7 f7_G:=f7_ok0
def f3_p40b0 (n37 : Int) (es38 : LL) (full39 : Bool) (n40 : Int) (i41 n42 : Nat) (n43 : Int) (s44 : ByteArray) (es45 : LL) (full46 : Bool) (es47 : LL) (N0 : Nat→Nat→Int→(LL)→Prop) (k0 : Nat→Nat→(LL)→Prop) : Prop:=bB (decide (n43≤n37)) (f15 s44 es45 full46 n43 (fun b48=>bB b48 ((i41 + n42)≤es47.length∧(n42 + 1) * 8≤2 ^ 46∧(n42 + 1)≤2 ^ 46∧N0 0 (n42 + 1) (w64 (n43 + 1)) ((List.take n42 (List.drop i41 es47)) ++ [[pI n43]])) (N0 i41 n42 (w64 (n43 + 1)) es47))) (k0 i41 n42 es47)
def f3_p40 (n37 : Int) (es38 : LL) (full39 : Bool) (n40 : Int) (s44 : ByteArray) (es45 : LL) (full46 : Bool) (k0 : Nat→Nat→(LL)→Prop) : Nat×Nat×Int×(LL)→Prop:=LoopP fun x N=>f3_p40b0 n37 es38 full39 n40 x.1 x.2.1 x.2.2.1 s44 es45 full46 x.2.2.2 (fun i41 n42 n43 es47=>N (i41,n42,n43,es47)) k0
def f3_p33 (n27 n28 : Int) (es29 : LL) (full30 : Bool) (n31 : Int) (s32 : ByteArray) (es33 : LL) (full34 : Bool) (k0 : Bool→Prop) : Prop:=f13 n28 (fun b35=>bB (!b35) (f7 (fun b36=>bB b36 (k0 (n31 == 1)) (k0 false))) (f3_p40 n28 es29 full30 n31 s32 es33 full34 (fun i49 n50 es51=>f7 (fun b52=>bB b52 (bB (n31 == 0) (f16 es29 full30 (List.take n50 (List.drop i49 es51)) false k0) (k0 false)) (k0 false))) (0,0,n27,[])))
def f3_p7 (n8 n9 : Int) (s10 : ByteArray) (es11 : LL) (full12 : Bool) (k0 : Bool→Prop) : Prop:=f8 s10 es11 full12 (fun n13=>f9 s10 es11 full12 (fun n14=>bB (n13 != n14) (k0 false) (f10 s10 es11 full12 n8 (fun b15 n16=>f11 s10 es11 full12 n8 n9 (fun es17 full18 n19=>f12 s10 es11 full12 n8 (fun n20 n21=>bB (n13 != 0) (f7 (fun b22=>bB b22 (bB (n16 == n13) (bB (n19 == n13) (bB (n21 == n13) (bB (!b15) (bB ((es17.length : Int) == 0) (k0 (n20 == 0)) (k0 false)) (k0 false)) (k0 false)) (k0 false)) (k0 false)) (k0 false))) (f13 n8 (fun b23=>bB (!b23) (f7 (fun b24=>bB b24 (bB (n16 == 1) (bB (n19 == 1) (k0 (n21 == 1)) (k0 false)) (k0 false)) (k0 false))) (f14 s10 es11 full12 n8 (fun n25=>bB (n16 != 0) (k0 false) (f15 s10 es11 full12 n8 (fun b26=>bB (!(b15 == b26)) (k0 false) (bB (decide (n25 < 0)) (bB (n21 != 9) (k0 false) (bB (decide (n25≥0)) (bB (n21 != 0) (k0 false) (bB (n20 != n25) (k0 false) (f3_p33 n8 n9 es17 full18 n19 s10 es11 full12 k0))) (f3_p33 n8 n9 es17 full18 n19 s10 es11 full12 k0))) (bB (decide (n25≥0)) (bB (n21 != 0) (k0 false) (bB (n20 != n25) (k0 false) (f3_p33 n8 n9 es17 full18 n19 s10 es11 full12 k0))) (f3_p33 n8 n9 es17 full18 n19 s10 es11 full12 k0)))))))))))))))
def f3_d (s1 : ByteArray) (es2 : LL) (full3 : Bool) (n4 n5 : Int) (k0 : Bool→Prop) : Prop:=bB (decide ((es2.length : Int) > 40)) (f7 k0) (bB (decide ((w64 (n5 - n4)) > 800)) (bB (decide (n4≥0)) (bB (decide (n4≤73048)) (bB (decide (n5≤73048)) (f7 k0) (f3_p7 n4 n5 s1 es2 full3 k0)) (f3_p7 n4 n5 s1 es2 full3 k0)) (f3_p7 n4 n5 s1 es2 full3 k0)) (f3_p7 n4 n5 s1 es2 full3 k0))
structure f3 (s1 : ByteArray) (es2 : LL) (full3 : Bool) (n4 n5 : Int) (k0 : Bool→Prop) : Prop where
  run : f3_d s1 es2 full3 n4 n5 k0
def f3_p40L : Told:=fun s K=>match s with
  | ⟨tm,hp⟩=>getS [.skip 2,.v (.one (.int .i64)),.v (.one (.ptr 0 0 0)),.skip 6,.v (.one (.sl 1)),.v (.one (.int .i64)),.skip 3,.v (.one (.ref 1)),.v (.one (.int .i64)),.skip 160] [.box [.str,.sl 11],.vec 1 true] tm hp fun (xx : (Unit×(Int×(Unit×(Unit×((LL×Bool)×(Int×(Unit×((Nat×Nat)×(Int×(Unit×Unit))))))))))) (yy : ((ByteArray×((LL×Bool)×Unit))×((LL)×Unit)))=>f3_p40 xx.2.1 xx.2.2.2.2.1.1 xx.2.2.2.2.1.2 xx.2.2.2.2.2.1 yy.1.1 yy.1.2.1.1 yy.1.2.1.2 (fun i0_0 n0_1 es0_2=>K (.exit 0) ⟨mkS 177 [(10,.w (.one (.p (.sl 1 xx.2.2.2.2.1.1 xx.2.2.2.2.1.2)))),(11,I xx.2.2.2.2.2.1),(15,.w (.one (.ref 0 i0_0 n0_1)))],[.vec 1 es0_2 true]⟩) (xx.2.2.2.2.2.2.2.1.1,xx.2.2.2.2.2.2.2.1.2,xx.2.2.2.2.2.2.2.2.1,yy.2.1)
def f3_p33L : Told:=fun s K=>match s with
  | ⟨tm,hp⟩=>getS [.skip 1,.v (.one (.int .i64)),.v (.one (.int .i64)),.v (.one (.ptr 0 0 0)),.skip 6,.v (.one (.sl 1)),.v (.one (.int .i64)),.skip 165] [.box [.str,.sl 11]] tm hp fun (xx : (Unit×(Int×(Int×(Unit×(Unit×((LL×Bool)×(Int×(Unit×Unit))))))))) (yy : ((ByteArray×((LL×Bool)×Unit))×Unit))=>f3_p33 xx.2.1 xx.2.2.1 xx.2.2.2.2.2.1.1 xx.2.2.2.2.2.1.2 xx.2.2.2.2.2.2.1 yy.1.1 yy.1.2.1.1 yy.1.2.1.2 (fun b0_3=>K .ret ⟨mkS 177 [(6,B b0_3)],[]⟩)
def f3_p7L : Told:=fun s K=>match s with
  | ⟨tm,hp⟩=>getS [.skip 1,.v (.one (.int .i64)),.v (.one (.int .i64)),.v (.one (.ptr 0 0 0)),.skip 173] [.box [.str,.sl 11]] tm hp fun (xx : (Unit×(Int×(Int×(Unit×(Unit×Unit)))))) (yy : ((ByteArray×((LL×Bool)×Unit))×Unit))=>f3_p7 xx.2.1 xx.2.2.1 yy.1.1 yy.1.2.1.1 yy.1.2.1.2 (fun b0_4=>K .ret ⟨mkS 177 [(6,B b0_4)],[]⟩)
def f3_tab : List (Nat×Told):=[(40,f3_p40L),(33,f3_p33L),(7,f3_p7L)]
def f3_call : FuncId→List TV→List Entry→(TV→List Entry→Prop)→Prop:=addCall 16 f16_G (addCall 15 f15_G (addCall 14 f14_G (addCall 13 f13_G (addCall 12 f12_G (addCall 11 f11_G (addCall 10 f10_G (addCall 9 f9_G (addCall 8 f8_G (addCall 7 f7_G (noCalls))))))))))
def f3_C : Ctx:=mkC [(40,[(0,[2,3,10,11,15,16]),(2,[6]),(3,[10,11,15])]),(33,[(0,[1,2,3,10,11]),(1,[6]),(2,[6])]),(7,[(0,[1,2,3]),(1,[6]),(2,[6])])] [] [] [] [] false 0 true (lookL f3_tab) f3_call
def f3_p40_mk (n37 : Int) (es38 : LL) (full39 : Bool) (n40 : Int) (s44 : ByteArray) (es45 : LL) (full46 : Bool) (x : Nat×Nat×Int×(LL)) : St:=⟨mkS 177 [(2,I n37),(3,.w (.one (.ptr 0 0 0))),(10,.w (.one (.p (.sl 1 es38 full39)))),(11,I n40),(15,.w (.one (.ref 1 x.1 x.2.1))),(16,I x.2.2.1)],[.box [.p (pS s44),.p (.sl 11 es45 full46)],.vec 1 x.2.2.2 true]⟩
theorem f3_p40e0 (n_17 : Int) (es_18 : LL) (full_19 : Bool) (n_20 : Int) (i_21 n_22 : Nat) (n_23 : Int) (s_24 : ByteArray) (es_25 : LL) (full_26 : Bool) (es_27 : LL) (N : St→Prop) (K : TExit→St→Prop) : (f3_p40b0 n_17 es_18 full_19 n_20 i_21 n_22 n_23 s_24 es_25 full_26 es_27 (fun z4 z5 z6 z10=>N (f3_p40_mk n_17 es_18 full_19 n_20 s_24 es_25 full_26 (z4,z5,z6,z10))) (fun i0_28 n0_29 es0_30=>K (.exit 0) ⟨mkS 177 [(10,.w (.one (.p (.sl 1 es_18 full_19)))),(11,I n_20),(15,.w (.one (.ref 0 i0_28 n0_29)))],[.vec 1 es0_30 true]⟩)) = execT f3_C (bd Tryz.f3 0) (f3_p40_mk n_17 es_18 full_19 n_20 s_24 es_25 full_26 (i_21,n_22,n_23,es_27)) (loopK N (normK f3_C 40) fun e s=>K e (normOut f3_C 40 e s)):=by kernel_rfl
theorem f3_p33e0 (n_31 n_32 : Int) (es_33 : LL) (full_34 : Bool) (n_35 : Int) (s_36 : ByteArray) (es_37 : LL) (full_38 : Bool) (K : TExit→St→Prop) : (f3_p33 n_31 n_32 es_33 full_34 n_35 s_36 es_37 full_38 (fun b0_39=>K .ret ⟨mkS 177 [(6,B b0_39)],[]⟩)) = execT f3_C (nthC (tails (bodyOf Tryz.f3)) 17) ⟨mkS 177 [(1,I n_31),(2,I n_32),(3,.w (.one (.ptr 0 0 0))),(10,.w (.one (.p (.sl 1 es_33 full_34)))),(11,I n_35)],[.box [.p (pS s_36),.p (.sl 11 es_37 full_38)]]⟩ (fun e s=>K e (normOut f3_C 33 e s)):=by kernel_rfl
theorem f3_p7e0 (n_40 n_41 : Int) (s_42 : ByteArray) (es_43 : LL) (full_44 : Bool) (K : TExit→St→Prop) : (f3_p7 n_40 n_41 s_42 es_43 full_44 (fun b0_45=>K .ret ⟨mkS 177 [(6,B b0_45)],[]⟩)) = execT f3_C (nthC (tails (bodyOf Tryz.f3)) 1) ⟨mkS 177 [(1,I n_40),(2,I n_41),(3,.w (.one (.ptr 0 0 0)))],[.box [.p (pS s_42),.p (.sl 11 es_43 full_44)]]⟩ (fun e s=>K e (normOut f3_C 7 e s)):=by kernel_rfl
set_option maxHeartbeats 4000000 in
theorem f3_p40_ok : LoopOk f3_C (bd Tryz.f3 0):=by
  refine LoopOk.of f3_p40L (by kernel_rfl) fun σ K h=>?_
  have hk : loopKey (bd Tryz.f3 0) = 40:=by kernel_rfl
  rw [hk] at h ⊢
  generalize hs : normK f3_C 40 σ = s at h
  obtain ⟨tm,hp⟩:=s
  unfold f3_p40L at h
  dsimp only at h
  obtain ⟨xx,yy,rfl,rfl,h⟩:=getS_elim h
  refine iter_of (f3_p40_mk xx.2.1 xx.2.2.2.2.1.1 xx.2.2.2.2.1.2 xx.2.2.2.2.2.1 yy.1.1 yy.1.2.1.1 yy.1.2.1.2) (fun x N h=>?_) rounds _ σ (hs.trans (by kernel_rfl)) (LoopP.run h)
  obtain ⟨y0,y1,y2,y3⟩:=x
  rw [← f3_p40e0 xx.2.1 xx.2.2.2.2.1.1 xx.2.2.2.2.1.2 xx.2.2.2.2.2.1 y0 y1 y2 yy.1.1 yy.1.2.1.1 yy.1.2.1.2 y3 N K]
  exact h
set_option maxHeartbeats 4000000 in
theorem f3_p33_ok : TailOk f3_C (nthC (tails (bodyOf Tryz.f3)) 17):=by
  refine TailOk.of f3_p33L (by kernel_rfl) fun σ K h=>?_
  have hk : joinKey (nthC (tails (bodyOf Tryz.f3)) 17) = 33:=by kernel_rfl
  rw [hk] at h ⊢
  generalize hs : normK f3_C 33 σ = s at h
  obtain ⟨tm,hp⟩:=s
  unfold f3_p33L at h
  dsimp only at h
  obtain ⟨xx,yy,rfl,rfl,h⟩:=getS_elim h
  have q : normK f3_C 33 σ = (⟨mkS 177 [(1,I xx.2.1),(2,I xx.2.2.1),(3,.w (.one (.ptr 0 0 0))),(10,.w (.one (.p (.sl 1 xx.2.2.2.2.2.1.1 xx.2.2.2.2.2.1.2)))),(11,I xx.2.2.2.2.2.2.1)],[.box [.p (pS yy.1.1),.p (.sl 11 yy.1.2.1.1 yy.1.2.1.2)]]⟩ : St):=hs.trans (by kernel_rfl)
  rw [← hs,q,← f3_p33e0 xx.2.1 xx.2.2.1 xx.2.2.2.2.2.1.1 xx.2.2.2.2.2.1.2 xx.2.2.2.2.2.2.1 yy.1.1 yy.1.2.1.1 yy.1.2.1.2 K]
  exact h
set_option maxHeartbeats 4000000 in
theorem f3_p7_ok : TailOk f3_C (nthC (tails (bodyOf Tryz.f3)) 1):=by
  refine TailOk.of f3_p7L (by kernel_rfl) fun σ K h=>?_
  have hk : joinKey (nthC (tails (bodyOf Tryz.f3)) 1) = 7:=by kernel_rfl
  rw [hk] at h ⊢
  generalize hs : normK f3_C 7 σ = s at h
  obtain ⟨tm,hp⟩:=s
  unfold f3_p7L at h
  dsimp only at h
  obtain ⟨xx,yy,rfl,rfl,h⟩:=getS_elim h
  have q : normK f3_C 7 σ = (⟨mkS 177 [(1,I xx.2.1),(2,I xx.2.2.1),(3,.w (.one (.ptr 0 0 0)))],[.box [.p (pS yy.1.1),.p (.sl 11 yy.1.2.1.1 yy.1.2.1.2)]]⟩ : St):=hs.trans (by kernel_rfl)
  rw [← hs,q,← f3_p7e0 xx.2.1 xx.2.2.1 yy.1.1 yy.1.2.1.1 yy.1.2.1.2 K]
  exact h
def f3_G0 : List TV→List Entry→(TV→List Entry→Prop)→Prop:=fun tm hp K=>getS [.v (.pagg [.str,.sl 11]),.v (.one (.int .i64)),.v (.one (.int .i64))] [] tm hp fun (xx : ((ByteArray×((LL×Bool)×Unit))×(Int×(Int×Unit)))) (yy : Unit)=>f3 xx.1.1 xx.1.2.1.1 xx.1.2.1.2 xx.2.1 xx.2.2.1 (fun b0_5=>K (B b0_5) [])
theorem f3_eq (s_46 : ByteArray) (es_47 : LL) (full_48 : Bool) (n_49 n_50 : Int) (K : TV→List Entry→Prop) : (f3_d s_46 es_47 full_48 n_49 n_50 (fun b0_5=>K (B b0_5) [])) = funcT f3_C Tryz.f3 [.w (.pagg [pS s_46,.sl 11 es_47 full_48]),I n_49,I n_50] [] K:=by kernel_rfl
set_option maxHeartbeats 4000000 in
theorem f3_ok0 : FnOk Tryz.prog glob 3 f3_G0:=by
  refine FnOk.of_text (C:=f3_C) tab_ok.ok (Known.add f16_G_ok (Known.add f15_G_ok (Known.add f14_G_ok (Known.add f13_G_ok (Known.add f12_G_ok (Known.add f11_G_ok (Known.add f10_G_ok (Known.add f9_G_ok (Known.add f8_G_ok (Known.add f7_G_ok (Known.none))))))))))) follows_ok (fn:=Tryz.f3) (by kernel_rfl) (by kernel_rfl) (by kernel_rfl) (fun c hc=>?_) fun tm hp K h=>?_
  · have e : c = bodyOf Tryz.f3:=Option.some.inj (hc.symm.trans (by kernel_rfl))
    subst e
    exact ⟨LoopsOk.of [bd Tryz.f3 0] (by kernel_rfl) ⟨f3_p40_ok,trivial⟩,TailsOk.of (tab:=f3_tab) rfl [nthC (tails (bodyOf Tryz.f3)) 1,nthC (tails (bodyOf Tryz.f3)) 17] (by kernel_rfl) ⟨f3_p7_ok,f3_p33_ok,trivial⟩⟩
  · unfold f3_G0 at h
    obtain ⟨xx,yy,rfl,rfl,h⟩:=getS_elim h
    have e:=(f3_eq xx.1.1 xx.1.2.1.1 xx.1.2.1.2 xx.2.1 xx.2.2.1 K).trans (show _ = funcT f3_C Tryz.f3 (mkR _ xx) (mkE _ yy) K by kernel_rfl)
    rw [← e]
    exact h.run
abbrev f3_G:=f3_G0
theorem f3_G_ok : FnOk Tryz.prog glob 3 f3_G:=f3_ok0
def f4_d (es1 : LL) (full2 : Bool) (es3 : LL) (full4 : Bool) (k0 : Bool→Prop) : Prop:=f17 es1 full2 es3 full4 (fun b5=>bB (!b5) (f7 k0) (f7 (fun b7=>bB b7 (f18 es1 full2 es3 full4 (fun n8=>f19 es1 full2 es3 full4 (fun n9=>k0 (n8 == n9)))) (k0 false))))
structure f4 (es1 : LL) (full2 : Bool) (es3 : LL) (full4 : Bool) (k0 : Bool→Prop) : Prop where
  run : f4_d es1 full2 es3 full4 k0
def f4_tab : List (Nat×Told):=[]
def f4_call : FuncId→List TV→List Entry→(TV→List Entry→Prop)→Prop:=addCall 19 f19_G (addCall 18 f18_G (addCall 17 f17_G (addCall 7 f7_G (noCalls))))
def f4_C : Ctx:=mkC [] [] [] [] [] false 0 true (lookL f4_tab) f4_call
def f4_G0 : List TV→List Entry→(TV→List Entry→Prop)→Prop:=fun tm hp K=>getS [.v (.one (.sl 15)),.v (.one (.sl 2))] [] tm hp fun (xx : ((LL×Bool)×((LL×Bool)×Unit))) (yy : Unit)=>f4 xx.1.1 xx.1.2 xx.2.1.1 xx.2.1.2 (fun b0_0=>K (B b0_0) [])
theorem f4_eq (es_1 : LL) (full_2 : Bool) (es_3 : LL) (full_4 : Bool) (K : TV→List Entry→Prop) : (f4_d es_1 full_2 es_3 full_4 (fun b0_0=>K (B b0_0) [])) = funcT f4_C Tryz.f4 [.w (.one (.p (.sl 15 es_1 full_2))),.w (.one (.p (.sl 2 es_3 full_4)))] [] K:=by kernel_rfl
set_option maxHeartbeats 4000000 in
theorem f4_ok0 : FnOk Tryz.prog glob 4 f4_G0:=by
  refine FnOk.of_text (C:=f4_C) tab_ok.ok (Known.add f19_G_ok (Known.add f18_G_ok (Known.add f17_G_ok (Known.add f7_G_ok (Known.none))))) follows_ok (fn:=Tryz.f4) (by kernel_rfl) (by kernel_rfl) (by kernel_rfl) (fun c hc=>?_) fun tm hp K h=>?_
  · have e : c = bodyOf Tryz.f4:=Option.some.inj (hc.symm.trans (by kernel_rfl))
    subst e
    exact ⟨LoopsOk.of [] (by kernel_rfl) trivial,TailsOk.of (tab:=f4_tab) rfl [] (by kernel_rfl) trivial⟩
  · unfold f4_G0 at h
    obtain ⟨xx,yy,rfl,rfl,h⟩:=getS_elim h
    have e:=(f4_eq xx.1.1 xx.1.2 xx.2.1.1 xx.2.1.2 K).trans (show _ = funcT f4_C Tryz.f4 (mkR _ xx) (mkE _ yy) K by kernel_rfl)
    rw [← e]
    exact h.run
abbrev f4_G:=f4_G0
theorem f4_G_ok : FnOk Tryz.prog glob 4 f4_G:=f4_ok0
def f6_p17 (es16 : LL) (full17 : Bool) (es18 : LL) (full19 : Bool) (n20 : Int) (es21 : LL) (full22 : Bool) (n23 : Int) (es24 : LL) (full25 : Bool) (n26 n27 : Int) (k0 : Bool→Prop) : Prop:=bB (n27 != 0) (f7 (fun b28=>bB b28 (bB (n23 == n27) (bB (n26 == n27) (bB ((es21.length : Int) == 0) (k0 ((es24.length : Int) == 0)) (k0 false)) (k0 false)) (k0 false)) (k0 false))) (f7 (fun b29=>bB b29 (bB (n23 == 0) (bB (n26 == 0) (f24 es16 full17 es18 full19 n20 (fun es30 full31=>f16 es21 full22 es30 full31 (fun b32=>bB b32 (f28 es16 full17 es18 full19 n20 (fun es33 full34=>f27 es24 full25 es33 full34 k0)) (k0 false)))) (k0 false)) (k0 false)) (k0 false)))
def f6_d (es1 : LL) (full2 : Bool) (es3 : LL) (full4 : Bool) (n5 : Int) (k0 : Bool→Prop) : Prop:=f17 es1 full2 es3 full4 (fun b6=>bB (!b6) (f7 k0) (f25 es1 full2 es3 full4 n5 (fun es8 full9 n10=>f26 es1 full2 es3 full4 n5 (fun es11 full12 n13=>f19 es1 full2 es3 full4 (fun n14=>bB (n14 == 0) (f13 n5 (fun b15=>bB (!b15) (f6_p17 es1 full2 es3 full4 n5 es8 full9 n10 es11 full12 n13 1 k0) (f6_p17 es1 full2 es3 full4 n5 es8 full9 n10 es11 full12 n13 n14 k0))) (f6_p17 es1 full2 es3 full4 n5 es8 full9 n10 es11 full12 n13 n14 k0))))))
structure f6 (es1 : LL) (full2 : Bool) (es3 : LL) (full4 : Bool) (n5 : Int) (k0 : Bool→Prop) : Prop where
  run : f6_d es1 full2 es3 full4 n5 k0
def f6_p17L : Told:=fun s K=>match s with
  | ⟨tm,hp⟩=>getS [.v (.one (.sl 15)),.v (.one (.sl 2)),.v (.one (.int .i64)),.skip 4,.v (.one (.sl 1)),.v (.one (.int .i64)),.v (.one (.sl 2)),.v (.one (.int .i64)),.v (.one (.int .i64)),.skip 77] [] tm hp fun (xx : ((LL×Bool)×((LL×Bool)×(Int×(Unit×((LL×Bool)×(Int×((LL×Bool)×(Int×(Int×(Unit×Unit))))))))))) (yy : Unit)=>f6_p17 xx.1.1 xx.1.2 xx.2.1.1 xx.2.1.2 xx.2.2.1 xx.2.2.2.2.1.1 xx.2.2.2.2.1.2 xx.2.2.2.2.2.1 xx.2.2.2.2.2.2.1.1 xx.2.2.2.2.2.2.1.2 xx.2.2.2.2.2.2.2.1 xx.2.2.2.2.2.2.2.2.1 (fun b0_0=>K .ret ⟨mkS 89 [(6,B b0_0)],[]⟩)
def f6_tab : List (Nat×Told):=[(17,f6_p17L)]
def f6_call : FuncId→List TV→List Entry→(TV→List Entry→Prop)→Prop:=addCall 28 f28_G (addCall 27 f27_G (addCall 26 f26_G (addCall 25 f25_G (addCall 24 f24_G (addCall 19 f19_G (addCall 17 f17_G (addCall 16 f16_G (addCall 13 f13_G (addCall 7 f7_G (noCalls))))))))))
def f6_C : Ctx:=mkC [(17,[(0,[0,1,2,7,8,9,10,11]),(1,[6]),(2,[6])])] [] [] [] [] false 0 true (lookL f6_tab) f6_call
theorem f6_p17e0 (es_2 : LL) (full_3 : Bool) (es_4 : LL) (full_5 : Bool) (n_6 : Int) (es_7 : LL) (full_8 : Bool) (n_9 : Int) (es_10 : LL) (full_11 : Bool) (n_12 n_13 : Int) (K : TExit→St→Prop) : (f6_p17 es_2 full_3 es_4 full_5 n_6 es_7 full_8 n_9 es_10 full_11 n_12 n_13 (fun b0_14=>K .ret ⟨mkS 89 [(6,B b0_14)],[]⟩)) = execT f6_C (nthC (tails (bodyOf Tryz.f6)) 7) ⟨mkS 89 [(0,.w (.one (.p (.sl 15 es_2 full_3)))),(1,.w (.one (.p (.sl 2 es_4 full_5)))),(2,I n_6),(7,.w (.one (.p (.sl 1 es_7 full_8)))),(8,I n_9),(9,.w (.one (.p (.sl 2 es_10 full_11)))),(10,I n_12),(11,I n_13)],[]⟩ (fun e s=>K e (normOut f6_C 17 e s)):=by kernel_rfl
set_option maxHeartbeats 4000000 in
theorem f6_p17_ok : TailOk f6_C (nthC (tails (bodyOf Tryz.f6)) 7):=by
  refine TailOk.of f6_p17L (by kernel_rfl) fun σ K h=>?_
  have hk : joinKey (nthC (tails (bodyOf Tryz.f6)) 7) = 17:=by kernel_rfl
  rw [hk] at h ⊢
  generalize hs : normK f6_C 17 σ = s at h
  obtain ⟨tm,hp⟩:=s
  unfold f6_p17L at h
  dsimp only at h
  obtain ⟨xx,yy,rfl,rfl,h⟩:=getS_elim h
  have q : normK f6_C 17 σ = (⟨mkS 89 [(0,.w (.one (.p (.sl 15 xx.1.1 xx.1.2)))),(1,.w (.one (.p (.sl 2 xx.2.1.1 xx.2.1.2)))),(2,I xx.2.2.1),(7,.w (.one (.p (.sl 1 xx.2.2.2.2.1.1 xx.2.2.2.2.1.2)))),(8,I xx.2.2.2.2.2.1),(9,.w (.one (.p (.sl 2 xx.2.2.2.2.2.2.1.1 xx.2.2.2.2.2.2.1.2)))),(10,I xx.2.2.2.2.2.2.2.1),(11,I xx.2.2.2.2.2.2.2.2.1)],[]⟩ : St):=hs.trans (by kernel_rfl)
  rw [← hs,q,← f6_p17e0 xx.1.1 xx.1.2 xx.2.1.1 xx.2.1.2 xx.2.2.1 xx.2.2.2.2.1.1 xx.2.2.2.2.1.2 xx.2.2.2.2.2.1 xx.2.2.2.2.2.2.1.1 xx.2.2.2.2.2.2.1.2 xx.2.2.2.2.2.2.2.1 xx.2.2.2.2.2.2.2.2.1 K]
  exact h
def f6_G0 : List TV→List Entry→(TV→List Entry→Prop)→Prop:=fun tm hp K=>getS [.v (.one (.sl 15)),.v (.one (.sl 2)),.v (.one (.int .i64))] [] tm hp fun (xx : ((LL×Bool)×((LL×Bool)×(Int×Unit)))) (yy : Unit)=>f6 xx.1.1 xx.1.2 xx.2.1.1 xx.2.1.2 xx.2.2.1 (fun b0_1=>K (B b0_1) [])
theorem f6_eq (es_15 : LL) (full_16 : Bool) (es_17 : LL) (full_18 : Bool) (n_19 : Int) (K : TV→List Entry→Prop) : (f6_d es_15 full_16 es_17 full_18 n_19 (fun b0_1=>K (B b0_1) [])) = funcT f6_C Tryz.f6 [.w (.one (.p (.sl 15 es_15 full_16))),.w (.one (.p (.sl 2 es_17 full_18))),I n_19] [] K:=by kernel_rfl
set_option maxHeartbeats 4000000 in
theorem f6_ok0 : FnOk Tryz.prog glob 6 f6_G0:=by
  refine FnOk.of_text (C:=f6_C) tab_ok.ok (Known.add f28_G_ok (Known.add f27_G_ok (Known.add f26_G_ok (Known.add f25_G_ok (Known.add f24_G_ok (Known.add f19_G_ok (Known.add f17_G_ok (Known.add f16_G_ok (Known.add f13_G_ok (Known.add f7_G_ok (Known.none))))))))))) follows_ok (fn:=Tryz.f6) (by kernel_rfl) (by kernel_rfl) (by kernel_rfl) (fun c hc=>?_) fun tm hp K h=>?_
  · have e : c = bodyOf Tryz.f6:=Option.some.inj (hc.symm.trans (by kernel_rfl))
    subst e
    exact ⟨LoopsOk.of [] (by kernel_rfl) trivial,TailsOk.of (tab:=f6_tab) rfl [nthC (tails (bodyOf Tryz.f6)) 7] (by kernel_rfl) ⟨f6_p17_ok,trivial⟩⟩
  · unfold f6_G0 at h
    obtain ⟨xx,yy,rfl,rfl,h⟩:=getS_elim h
    have e:=(f6_eq xx.1.1 xx.1.2 xx.2.1.1 xx.2.1.2 xx.2.2.1 K).trans (show _ = funcT f6_C Tryz.f6 (mkR _ xx) (mkE _ yy) K by kernel_rfl)
    rw [← e]
    exact h.run
abbrev f6_G:=f6_G0
theorem f6_G_ok : FnOk Tryz.prog glob 6 f6_G:=f6_ok0
end
end Go.Eng.N
