import Derived.Test.YtllcnlonkloabaaSh2
set_option linter.unusedVariables false
set_option linter.unusedSimpArgs false
set_option maxRecDepth 100000
namespace Go.Proofs.Ytllcnlonkloabaa.Sh
open Go Lift Go.Proofs Go.Proofs.Try
open Go.IntKind (wrap)
def Z8r [Thr] (p0:(List Z00)) (p1:Int) (v10:Int) (v11:Int):St:={ fr:=([(.v (.one (.vw 1676 7 0 ((p0.map Z05).length)))),(ai p1),.bad,.bad,(.v (.one (.fn 38 [])))]++bads 5++[(ai v10),(ai v11)]++bads 208),obs:=[(1676,.arr 7 (p0.map Z05) true)] }
def Z4o [Thr] (p0:(List Z00)) (p1:Int) (o:Int):St:={ fr:=([(.v (.one (.vw 1676 7 0 ((p0.map Z05).length)))),(ai p1)]++bads 8++[(ai o)]++bads 209),obs:=[(1676,.arr 7 (p0.map Z05) true)] }
def Z8t [Thr] (p0:(List Z00)) (r9:(Int)) (a1676:(List Z00)) (v13:Int):St:={ fr:=([(.v (.one (.vw 1676 7 0 ((p0.map Z05).length))))]++bads 9++[(ai r9),.bad,.bad,(ai v13)]++bads 206),obs:=[(1676,.arr 7 (a1676.map Z05) true)] }
def Z4i [Thr] (p0:(List Z00)) (r9:(Int)) (o:(List Z00)):St:={ fr:=bads 220,obs:=[(1676,.arr 7 (o.map Z05) true)] }
def Z8s [Thr] (p0:(List Z00)) (p2:Int) (v14:Int) (v15:Int):St:={ fr:=([(.v (.one (.vw 1676 7 0 ((p0.map Z05).length)))),.bad,(ai p2),.bad,(.v (.one (.fn 38 [])))]++bads 9++[(ai v14),(ai v15)]++bads 204),obs:=[(1676,.arr 7 (p0.map Z05) true)] }
def Z4m [Thr] (p0:(List Z00)) (p2:Int) (o:Int):St:={ fr:=([(.v (.one (.vw 1676 7 0 ((p0.map Z05).length)))),.bad,(ai p2)]++bads 11++[(ai o)]++bads 205),obs:=[(1676,.arr 7 (p0.map Z05) true)] }
def Z8l [Thr] (p0:(List Z00)) (r28:(Int)) (a1676:(List Z00)) (v17:Int):St:={ fr:=([(.v (.one (.vw 1676 7 0 ((p0.map Z05).length))))]++bads 13++[(ai r28),.bad,.bad,(ai v17)]++bads 202),obs:=[(1676,.arr 7 (a1676.map Z05) true)] }
def Z4j [Thr] (p0:(List Z00)) (r28:(Int)) (o:(List Z00)):St:={ fr:=bads 220,obs:=[(1676,.arr 7 (o.map Z05) true)] }
def Z8m [Thr] (p0:(List Z00)) (p1:Int) (p2:Int) (p3:Int):St:={ fr:=([(.v (.one (.vw 1676 7 0 ((p0.map Z05).length)))),(ai p1),(ai p2),(ai p3),(.v (.one (.fn 38 [])))]++bads 13++[(ai (wrap .i64 (Int.fdiv (wrap .u64 (wrap .i64 (p1+p3))) (yh 1)))),(ai (wrap .i64 ((wrap .i64 (Int.fdiv (wrap .u64 (wrap .i64 (p1+p3))) (yh 1)))+p2)))]++bads 200),obs:=[(1676,.arr 7 (p0.map Z05) true)] }
def Z28 [Thr] (p0:(List Z00)) (p1:Int) (p2:Int) (p3:Int) (o:Int × Int):St:={ fr:=([(.v (.one (.vw 1676 7 0 ((p0.map Z05).length)))),(ai p1),(ai p2),(ai p3),(.v (.one (.fn 38 [])))]++bads 13++[(ai (wrap .i64 (Int.fdiv (wrap .u64 (wrap .i64 (p1+p3))) (yh 1)))),(ai (wrap .i64 ((wrap .i64 (Int.fdiv (wrap .u64 (wrap .i64 (p1+p3))) (yh 1)))+p2))),(ai o.1),(ai o.2)]++bads 198),obs:=[(1676,.arr 7 (p0.map Z05) true)] }
def Z8q [Thr] (p0:(List Z00)) (p1:Int) (p2:Int) (p3:Int) (v20:Int) (v21:Int):St:={ fr:=([(.v (.one (.vw 1676 7 0 ((p0.map Z05).length)))),(ai p1),(ai p2),(ai p3),(.v (.one (.fn 38 [])))]++bads 13++[(ai (wrap .i64 (Int.fdiv (wrap .u64 (wrap .i64 (p1+p3))) (yh 1)))),(ai (wrap .i64 ((wrap .i64 (Int.fdiv (wrap .u64 (wrap .i64 (p1+p3))) (yh 1)))+p2))),(ai v20),(ai v21),(ai (wrap .i64 ((wrap .i64 ((wrap .i64 (Int.fdiv (wrap .u64 (wrap .i64 (p1+p3))) (yh 1)))+p2)) - (1:Int))))]++bads 197),obs:=[(1676,.arr 7 (p0.map Z05) true)] }
def Z26 [Thr] (p0:(List Z00)) (p1:Int) (p2:Int) (p3:Int) (o:Int):St:={ fr:=([(.v (.one (.vw 1676 7 0 ((p0.map Z05).length)))),(ai p1),(ai p2),(ai p3),(.v (.one (.fn 38 [])))]++bads 13++[(ai (wrap .i64 (Int.fdiv (wrap .u64 (wrap .i64 (p1+p3))) (yh 1)))),(ai (wrap .i64 ((wrap .i64 (Int.fdiv (wrap .u64 (wrap .i64 (p1+p3))) (yh 1)))+p2))),(ai o)]++bads 199),obs:=[(1676,.arr 7 (p0.map Z05) true)] }
def Z8p [Thr] (p0:(List Z00)) (p1:Int) (p2:Int) (p3:Int) (r48:(Int)):St:={ fr:=([(.v (.one (.vw 1676 7 0 ((p0.map Z05).length)))),(ai p1),(ai p2),(ai p3),(.v (.one (.fn 38 [])))]++bads 13++[(ai (wrap .i64 (Int.fdiv (wrap .u64 (wrap .i64 (p1+p3))) (yh 1)))),.bad,(ai r48),.bad,.bad,.bad,(ai (wrap .i64 ((wrap .i64 ((wrap .i64 (Int.fdiv (wrap .u64 (wrap .i64 (p1+p3))) (yh 1)))+p2)) - r48)))]++bads 195),obs:=[(1676,.arr 7 (p0.map Z05) true)] }
def Z29 [Thr] (p0:(List Z00)) (p1:Int) (p2:Int) (p3:Int) (r48:(Int)) (o:(List Z00)):St:={ fr:=([(.v (.one (.vw 1676 7 0 ((p0.map Z05).length)))),(ai p1),.bad,(ai p3),(.v (.one (.fn 38 [])))]++bads 13++[(ai (wrap .i64 (Int.fdiv (wrap .u64 (wrap .i64 (p1+p3))) (yh 1)))),.bad,(ai r48),.bad,.bad,.bad,(ai (wrap .i64 ((wrap .i64 ((wrap .i64 (Int.fdiv (wrap .u64 (wrap .i64 (p1+p3))) (yh 1)))+p2)) - r48)))]++bads 195),obs:=[(1676,.arr 7 (o.map Z05) true)] }
def Z8o [Thr] (p0:(List Z00)) (p1:Int) (p2:Int) (p3:Int) (r48:(Int)) (r53:(List Z00)):St:={ fr:=([(.v (.one (.vw 1676 7 0 ((p0.map Z05).length)))),(ai p1),.bad,(ai p3),(.v (.one (.fn 38 [])))]++bads 13++[(ai (wrap .i64 (Int.fdiv (wrap .u64 (wrap .i64 (p1+p3))) (yh 1)))),.bad,(ai r48),.bad,.bad,.bad,(ai (wrap .i64 ((wrap .i64 ((wrap .i64 (Int.fdiv (wrap .u64 (wrap .i64 (p1+p3))) (yh 1)))+p2)) - r48)))]++bads 195),obs:=[(1676,.arr 7 (r53.map Z05) true)] }
def Z27 [Thr] (p0:(List Z00)) (p1:Int) (p2:Int) (p3:Int) (r48:(Int)) (r53:(List Z00)) (o:(List Z00)):St:={ fr:=([(.v (.one (.vw 1676 7 0 ((p0.map Z05).length)))),.bad,.bad,(ai p3),(.v (.one (.fn 38 [])))]++bads 13++[(ai (wrap .i64 (Int.fdiv (wrap .u64 (wrap .i64 (p1+p3))) (yh 1))))]++bads 5++[(ai (wrap .i64 ((wrap .i64 ((wrap .i64 (Int.fdiv (wrap .u64 (wrap .i64 (p1+p3))) (yh 1)))+p2)) - r48)))]++bads 195),obs:=[(1676,.arr 7 (o.map Z05) true)] }
mutual
def slices_symMergeCmpFunc_api_Term_L0:Nat→(List Z00)→Int→Int→Int→Option (Int)
 |0,_,_,_,_=>none
 |N+1,p0,p1,v10,v11=>if v10 < v11 then if 0≤wrap .i64 (Int.fdiv (wrap .u64 (wrap .i64 (v10+v11))) (yh 1))∧wrap .i64 (Int.fdiv (wrap .u64 (wrap .i64 (v10+v11))) (yh 1)) < ((((p0.map Z02).length):Nat):Int) then (p0[(Int.toNat (wrap .i64 (Int.fdiv (wrap .u64 (wrap .i64 (v10+v11))) (yh 1)))+0)]?).bind fun x3=>if 0≤p1∧p1 < ((((p0.map Z02).length):Nat):Int) then (p0[(Int.toNat p1+0)]?).bind fun x5=>(order_compare N x3 x5).bind fun r7=>if r7 < (0:Int) then slices_symMergeCmpFunc_api_Term_L0 N p0 p1 (wrap .i64 ((wrap .i64 (Int.fdiv (wrap .u64 (wrap .i64 (v10+v11))) (yh 1)))+(1:Int))) v11 else slices_symMergeCmpFunc_api_Term_L0 N p0 p1 v10 (wrap .i64 (Int.fdiv (wrap .u64 (wrap .i64 (v10+v11))) (yh 1))) else none else none else some v10
def slices_symMergeCmpFunc_api_Term_L1:Nat→(List Z00)→(Int)→(List Z00)→Int→Option (List Z00)
 |0,_,_,_,_=>none
 |N+1,p0,r9,a1676,v13=>if v13 < (wrap .i64 (r9 - (1:Int))) then if 0≤wrap .i64 (v13+(1:Int))∧wrap .i64 (v13+(1:Int)) < ((((p0.map Z02).length):Nat):Int) then (a1676[(Int.toNat (wrap .i64 (v13+(1:Int)))+0)]?).bind fun x11=>if 0≤v13∧v13 < ((((p0.map Z02).length):Nat):Int) then (a1676[(Int.toNat v13+0)]?).bind fun x13=>if 0≤v13∧v13 < ((((p0.map Z02).length):Nat):Int) then (a1676[(Int.toNat v13+0)]?).bind fun x15=>if 0≤wrap .i64 (v13+(1:Int))∧wrap .i64 (v13+(1:Int)) < ((((p0.map Z02).length):Nat):Int) then ((a1676.set (Int.toNat v13+0) x11)[(Int.toNat (wrap .i64 (v13+(1:Int)))+0)]?).bind fun x17=>slices_symMergeCmpFunc_api_Term_L1 N p0 r9 ((a1676.set (Int.toNat v13+0) x11).set (Int.toNat (wrap .i64 (v13+(1:Int)))+0) x13) (wrap .i64 (v13+(1:Int))) else none else none else none else none else some a1676
def slices_symMergeCmpFunc_api_Term_L2:Nat→(List Z00)→Int→Int→Int→Option (Int)
 |0,_,_,_,_=>none
 |N+1,p0,p2,v14,v15=>if v14 < v15 then if 0≤p2∧p2 < ((((p0.map Z02).length):Nat):Int) then (p0[(Int.toNat p2+0)]?).bind fun x22=>if 0≤wrap .i64 (Int.fdiv (wrap .u64 (wrap .i64 (v14+v15))) (yh 1))∧wrap .i64 (Int.fdiv (wrap .u64 (wrap .i64 (v14+v15))) (yh 1)) < ((((p0.map Z02).length):Nat):Int) then (p0[(Int.toNat (wrap .i64 (Int.fdiv (wrap .u64 (wrap .i64 (v14+v15))) (yh 1)))+0)]?).bind fun x24=>(order_compare N x22 x24).bind fun r26=>if ¬ (r26 < (0:Int)) then slices_symMergeCmpFunc_api_Term_L2 N p0 p2 (wrap .i64 ((wrap .i64 (Int.fdiv (wrap .u64 (wrap .i64 (v14+v15))) (yh 1)))+(1:Int))) v15 else slices_symMergeCmpFunc_api_Term_L2 N p0 p2 v14 (wrap .i64 (Int.fdiv (wrap .u64 (wrap .i64 (v14+v15))) (yh 1))) else none else none else some v14
def slices_symMergeCmpFunc_api_Term_L3:Nat→(List Z00)→(Int)→(List Z00)→Int→Option (List Z00)
 |0,_,_,_,_=>none
 |N+1,p0,r28,a1676,v17=>if v17 > r28 then if 0≤wrap .i64 (v17 - (1:Int))∧wrap .i64 (v17 - (1:Int)) < ((((p0.map Z02).length):Nat):Int) then (a1676[(Int.toNat (wrap .i64 (v17 - (1:Int)))+0)]?).bind fun x30=>if 0≤v17∧v17 < ((((p0.map Z02).length):Nat):Int) then (a1676[(Int.toNat v17+0)]?).bind fun x32=>if 0≤v17∧v17 < ((((p0.map Z02).length):Nat):Int) then (a1676[(Int.toNat v17+0)]?).bind fun x34=>if 0≤wrap .i64 (v17 - (1:Int))∧wrap .i64 (v17 - (1:Int)) < ((((p0.map Z02).length):Nat):Int) then ((a1676.set (Int.toNat v17+0) x30)[(Int.toNat (wrap .i64 (v17 - (1:Int)))+0)]?).bind fun x36=>slices_symMergeCmpFunc_api_Term_L3 N p0 r28 ((a1676.set (Int.toNat v17+0) x30).set (Int.toNat (wrap .i64 (v17 - (1:Int)))+0) x32) (wrap .i64 (v17 - (1:Int))) else none else none else none else none else some a1676
def slices_symMergeCmpFunc_api_Term_B4:Nat→(List Z00)→Int→Int→Int→Option (Int × Int)
 |0,_,_,_,_=>none
 |N+1,p0,p1,p2,p3=>if p2 > (wrap .i64 (Int.fdiv (wrap .u64 (wrap .i64 (p1+p3))) (yh 1))) then some (wrap .i64 ((wrap .i64 ((wrap .i64 (Int.fdiv (wrap .u64 (wrap .i64 (p1+p3))) (yh 1)))+p2)) - p3),wrap .i64 (Int.fdiv (wrap .u64 (wrap .i64 (p1+p3))) (yh 1))) else some (p1,p2)
def slices_symMergeCmpFunc_api_Term_L5:Nat→(List Z00)→Int→Int→Int→Int→Int→Option (Int)
 |0,_,_,_,_,_,_=>none
 |N+1,p0,p1,p2,p3,v20,v21=>if v20 < v21 then if 0≤wrap .i64 ((wrap .i64 ((wrap .i64 ((wrap .i64 (Int.fdiv (wrap .u64 (wrap .i64 (p1+p3))) (yh 1)))+p2)) - (1:Int))) - (wrap .i64 (Int.fdiv (wrap .u64 (wrap .i64 (v20+v21))) (yh 1))))∧wrap .i64 ((wrap .i64 ((wrap .i64 ((wrap .i64 (Int.fdiv (wrap .u64 (wrap .i64 (p1+p3))) (yh 1)))+p2)) - (1:Int))) - (wrap .i64 (Int.fdiv (wrap .u64 (wrap .i64 (v20+v21))) (yh 1)))) < ((((p0.map Z02).length):Nat):Int) then (p0[(Int.toNat (wrap .i64 ((wrap .i64 ((wrap .i64 ((wrap .i64 (Int.fdiv (wrap .u64 (wrap .i64 (p1+p3))) (yh 1)))+p2)) - (1:Int))) - (wrap .i64 (Int.fdiv (wrap .u64 (wrap .i64 (v20+v21))) (yh 1)))))+0)]?).bind fun x42=>if 0≤wrap .i64 (Int.fdiv (wrap .u64 (wrap .i64 (v20+v21))) (yh 1))∧wrap .i64 (Int.fdiv (wrap .u64 (wrap .i64 (v20+v21))) (yh 1)) < ((((p0.map Z02).length):Nat):Int) then (p0[(Int.toNat (wrap .i64 (Int.fdiv (wrap .u64 (wrap .i64 (v20+v21))) (yh 1)))+0)]?).bind fun x44=>(order_compare N x42 x44).bind fun r46=>if ¬ (r46 < (0:Int)) then slices_symMergeCmpFunc_api_Term_L5 N p0 p1 p2 p3 (wrap .i64 ((wrap .i64 (Int.fdiv (wrap .u64 (wrap .i64 (v20+v21))) (yh 1)))+(1:Int))) v21 else slices_symMergeCmpFunc_api_Term_L5 N p0 p1 p2 p3 v20 (wrap .i64 (Int.fdiv (wrap .u64 (wrap .i64 (v20+v21))) (yh 1))) else none else none else some v20
def slices_symMergeCmpFunc_api_Term_B6:Nat→(List Z00)→Int→Int→Int→(Int)→Option (List Z00)
 |0,_,_,_,_,_=>none
 |N+1,p0,p1,p2,p3,r48=>if r48 < p2 then if p2 < (wrap .i64 ((wrap .i64 ((wrap .i64 (Int.fdiv (wrap .u64 (wrap .i64 (p1+p3))) (yh 1)))+p2)) - r48)) then (Z2i N p0 r48 p2 (wrap .i64 ((wrap .i64 ((wrap .i64 (Int.fdiv (wrap .u64 (wrap .i64 (p1+p3))) (yh 1)))+p2)) - r48))).bind fun r51=>some r51 else some p0 else some p0
def slices_symMergeCmpFunc_api_Term_B7:Nat→(List Z00)→Int→Int→Int→(Int)→(List Z00)→Option (List Z00)
 |0,_,_,_,_,_,_=>none
 |N+1,p0,p1,p2,p3,r48,r53=>if p1 < r48 then if r48 < (wrap .i64 (Int.fdiv (wrap .u64 (wrap .i64 (p1+p3))) (yh 1))) then if p0.length=r53.length then (slices_symMergeCmpFunc_api_Term N r53 p1 r48 (wrap .i64 (Int.fdiv (wrap .u64 (wrap .i64 (p1+p3))) (yh 1)))).bind fun r57=>some r57 else none else some r53 else some r53
def slices_symMergeCmpFunc_api_Term:Nat→(List Z00)→Int→Int→Int→Option (List Z00)
 |0,_,_,_,_=>none
 |N+1,p0,p1,p2,p3=>if (wrap .i64 (p2 - p1))=(1:Int) then (slices_symMergeCmpFunc_api_Term_L0 N p0 p1 p2 p3).bind fun r9=>(slices_symMergeCmpFunc_api_Term_L1 N p0 r9 p0 p1).bind fun r19=>some r19 else if (wrap .i64 (p3 - p2))=(1:Int) then (slices_symMergeCmpFunc_api_Term_L2 N p0 p2 p1 p2).bind fun r28=>(slices_symMergeCmpFunc_api_Term_L3 N p0 r28 p0 p2).bind fun r38=>some r38 else (slices_symMergeCmpFunc_api_Term_B4 N p0 p1 p2 p3).bind fun r40=>(slices_symMergeCmpFunc_api_Term_L5 N p0 p1 p2 p3 r40.1 r40.2).bind fun r48=>(slices_symMergeCmpFunc_api_Term_B6 N p0 p1 p2 p3 r48).bind fun r53=>(slices_symMergeCmpFunc_api_Term_B7 N p0 p1 p2 p3 r48 r53).bind fun r59=>if (wrap .i64 (Int.fdiv (wrap .u64 (wrap .i64 (p1+p3))) (yh 1))) < (wrap .i64 ((wrap .i64 ((wrap .i64 (Int.fdiv (wrap .u64 (wrap .i64 (p1+p3))) (yh 1)))+p2)) - r48)) then if (wrap .i64 ((wrap .i64 ((wrap .i64 (Int.fdiv (wrap .u64 (wrap .i64 (p1+p3))) (yh 1)))+p2)) - r48)) < p3 then if p0.length=r59.length then (slices_symMergeCmpFunc_api_Term N r59 (wrap .i64 (Int.fdiv (wrap .u64 (wrap .i64 (p1+p3))) (yh 1))) (wrap .i64 ((wrap .i64 ((wrap .i64 (Int.fdiv (wrap .u64 (wrap .i64 (p1+p3))) (yh 1)))+p2)) - r48)) p3).bind fun r63=>some r63 else none else some r59 else some r59
end
structure Z8z [Thr] (N:Nat):Prop where
 slices_symMergeCmpFunc_api_Term_L0:∀ (p0:(List Z00)) (p1:Int) (v10:Int) (v11:Int) (r:(Int)),slices_symMergeCmpFunc_api_Term_L0 N p0 p1 v10 v11=some r→Zj0 prog 1676 (partOf f106 [0,1,0,1,1,0,0,0]) (Z8r p0 p1 v10 v11) (.exit 0) (Z4o p0 p1 r)
 slices_symMergeCmpFunc_api_Term_L1:∀ (p0:(List Z00)) (r9:(Int)) (a1676:(List Z00)) (v13:Int) (r:(List Z00)),slices_symMergeCmpFunc_api_Term_L1 N p0 r9 a1676 v13=some r→Zj0 prog 1676 (partOf f106 [0,1,0,1,1,1,0,1,0,0]) (Z8t p0 r9 a1676 v13) (.exit 2) (Z4i p0 r9 r)
 slices_symMergeCmpFunc_api_Term_L2:∀ (p0:(List Z00)) (p2:Int) (v14:Int) (v15:Int) (r:(Int)),slices_symMergeCmpFunc_api_Term_L2 N p0 p2 v14 v15=some r→Zj0 prog 1676 (partOf f106 [1,0,1,0,1,1,0,0,0]) (Z8s p0 p2 v14 v15) (.exit 4) (Z4m p0 p2 r)
 slices_symMergeCmpFunc_api_Term_L3:∀ (p0:(List Z00)) (r28:(Int)) (a1676:(List Z00)) (v17:Int) (r:(List Z00)),slices_symMergeCmpFunc_api_Term_L3 N p0 r28 a1676 v17=some r→Zj0 prog 1676 (partOf f106 [1,0,1,0,1,1,1,0,1,0,0]) (Z8l p0 r28 a1676 v17) (.exit 6) (Z4j p0 r28 r)
 slices_symMergeCmpFunc_api_Term_B4:∀ (p0:(List Z00)) (p1:Int) (p2:Int) (p3:Int) (r:(Int × Int)),slices_symMergeCmpFunc_api_Term_B4 N p0 p1 p2 p3=some r→Ziw prog 1676 (partOf f106 [1,1,1,1,1,0]) (Z8m p0 p1 p2 p3 ) .normal (Z28 p0 p1 p2 p3 r)
 slices_symMergeCmpFunc_api_Term_L5:∀ (p0:(List Z00)) (p1:Int) (p2:Int) (p3:Int) (v20:Int) (v21:Int) (r:(Int)),slices_symMergeCmpFunc_api_Term_L5 N p0 p1 p2 p3 v20 v21=some r→Zj0 prog 1676 (partOf f106 [1,1,1,1,1,1,1,0,0,0]) (Z8q p0 p1 p2 p3 v20 v21) (.exit 8) (Z26 p0 p1 p2 p3 r)
 slices_symMergeCmpFunc_api_Term_B6:∀ (p0:(List Z00)) (p1:Int) (p2:Int) (p3:Int) (r48:(Int)) (r:(List Z00)),slices_symMergeCmpFunc_api_Term_B6 N p0 p1 p2 p3 r48=some r→Ziw prog 1676 (partOf f106 [1,1,1,1,1,1,1,1,1,0]) (Z8p p0 p1 p2 p3 r48 ) .normal (Z29 p0 p1 p2 p3 r48 r)
 slices_symMergeCmpFunc_api_Term_B7:∀ (p0:(List Z00)) (p1:Int) (p2:Int) (p3:Int) (r48:(Int)) (r53:(List Z00)) (r:(List Z00)),slices_symMergeCmpFunc_api_Term_B7 N p0 p1 p2 p3 r48 r53=some r→Ziw prog 1676 (partOf f106 [1,1,1,1,1,1,1,1,1,1,0]) (Z8o p0 p1 p2 p3 r48 r53 ) .normal (Z27 p0 p1 p2 p3 r48 r53 r)
 slices_symMergeCmpFunc_api_Term:∀ (p0:(List Z00)) (p1:Int) (p2:Int) (p3:Int) (r:(List Z00)),slices_symMergeCmpFunc_api_Term N p0 p1 p2 p3=some r→KSpec prog 106 [.v (.one (.own 7 (p0.map Z05))),vi p1,vi p2,vi p3,.v (.one (.fn 38 []))] 7 (r.map Z05)
theorem Z74 [Thr]:∀ N,Z8z N:=by
 intro N
 induction N with
 |zero =>
  constructor
  ·intro p0 p1 v10 v11 r h; rw [slices_symMergeCmpFunc_api_Term_L0] at h; cases h
  ·intro p0 r9 a1676 v13 r h; rw [slices_symMergeCmpFunc_api_Term_L1] at h; cases h
  ·intro p0 p2 v14 v15 r h; rw [slices_symMergeCmpFunc_api_Term_L2] at h; cases h
  ·intro p0 r28 a1676 v17 r h; rw [slices_symMergeCmpFunc_api_Term_L3] at h; cases h
  ·intro p0 p1 p2 p3 r h; rw [slices_symMergeCmpFunc_api_Term_B4] at h; cases h
  ·intro p0 p1 p2 p3 v20 v21 r h; rw [slices_symMergeCmpFunc_api_Term_L5] at h; cases h
  ·intro p0 p1 p2 p3 r48 r h; rw [slices_symMergeCmpFunc_api_Term_B6] at h; cases h
  ·intro p0 p1 p2 p3 r48 r53 r h; rw [slices_symMergeCmpFunc_api_Term_B7] at h; cases h
  ·intro p0 p1 p2 p3 r h; rw [slices_symMergeCmpFunc_api_Term] at h; cases h
 |succ N ih =>
  constructor
  ·intro p0 p1 v10 v11 r h
   rw [slices_symMergeCmpFunc_api_Term_L0] at h
   try simp only [rq_len] at h
   rcases Z07 h with ⟨hb2,h⟩ | ⟨hb2,h⟩
   ·obtain ⟨hw4,h⟩:=Z1p h
    obtain ⟨x3,hx3,h⟩:=yj h
    obtain ⟨hw6,h⟩:=Z1p h
    obtain ⟨x5,hx5,h⟩:=yj h
    obtain ⟨r7,hr7,h⟩:=yj h
    rcases Z07 h with ⟨hb8,h⟩ | ⟨hb8,h⟩
    ·exact Zj0.again (y8 [ay,ah,.reg (e 7),.reg [aa,aa,aa,aa, { cast:=some (.v (.agg (Z21 x3))) },aa,aa,aa, { cast:=some (.v (.agg (Z21 x5))) }, yg [vi r7],aa],ah,ay,.adj [.keep [0,1,4,10,11] [1676]]] (.c8 (Zj8 Z06 hb2) (hw4:0≤wrap .i64 (Int.fdiv (wrap .u64 (wrap .i64 (v10+v11))) (yh 1))∧wrap .i64 (Int.fdiv (wrap .u64 (wrap .i64 (v10+v11))) (yh 1)) < ((((p0.map Z05).length):Nat):Int)) (⟨Zjy hx3,by decide⟩:(Int.toNat (wrap .i64 (Int.fdiv (wrap .u64 (wrap .i64 (v10+v11))) (yh 1)))+0) < (p0.map Z05).length∧0≤7) (Zjx (fun l=>(.v (.agg [.d (l.getD 0 .nils),.d (l.getD 1 .nils),.d (l.getD 2 .nils),.d (l.getD 3 .nils),.d (l.getD 4 .nils),.d (l.getD 5 .nils),.d (l.getD 6 .nils)]))) hx3 (Z0c x3)) (hw6:0≤p1∧p1 < ((((p0.map Z05).length):Nat):Int)) (⟨Zjy hx5,by decide⟩:(Int.toNat p1+0) < (p0.map Z05).length∧0≤7) (Zjx (fun l=>(.v (.agg [.d (l.getD 0 .nils),.d (l.getD 1 .nils),.d (l.getD 2 .nils),.d (l.getD 3 .nils),.d (l.getD 4 .nils),.d (l.getD 5 .nils),.d (l.getD 6 .nils)]))) hx5 (Z0c x5)) (Z47 N x3 x5 r7 hr7) (.cons (Zj8 Z06 hb8) y5))) (ih.slices_symMergeCmpFunc_api_Term_L0 p0 p1 (wrap .i64 ((wrap .i64 (Int.fdiv (wrap .u64 (wrap .i64 (v10+v11))) (yh 1)))+(1:Int))) v11 _ h)
    ·exact Zj0.again (y8 [ay,ah,.reg (e 7),.reg [aa,aa,aa,aa, { cast:=some (.v (.agg (Z21 x3))) },aa,aa,aa, { cast:=some (.v (.agg (Z21 x5))) }, yg [vi r7],aa],ae,af,.adj [.keep [0,1,4,10,11] [1676]]] (.c8 (Zj8 Z06 hb2) (hw4:0≤wrap .i64 (Int.fdiv (wrap .u64 (wrap .i64 (v10+v11))) (yh 1))∧wrap .i64 (Int.fdiv (wrap .u64 (wrap .i64 (v10+v11))) (yh 1)) < ((((p0.map Z05).length):Nat):Int)) (⟨Zjy hx3,by decide⟩:(Int.toNat (wrap .i64 (Int.fdiv (wrap .u64 (wrap .i64 (v10+v11))) (yh 1)))+0) < (p0.map Z05).length∧0≤7) (Zjx (fun l=>(.v (.agg [.d (l.getD 0 .nils),.d (l.getD 1 .nils),.d (l.getD 2 .nils),.d (l.getD 3 .nils),.d (l.getD 4 .nils),.d (l.getD 5 .nils),.d (l.getD 6 .nils)]))) hx3 (Z0c x3)) (hw6:0≤p1∧p1 < ((((p0.map Z05).length):Nat):Int)) (⟨Zjy hx5,by decide⟩:(Int.toNat p1+0) < (p0.map Z05).length∧0≤7) (Zjx (fun l=>(.v (.agg [.d (l.getD 0 .nils),.d (l.getD 1 .nils),.d (l.getD 2 .nils),.d (l.getD 3 .nils),.d (l.getD 4 .nils),.d (l.getD 5 .nils),.d (l.getD 6 .nils)]))) hx5 (Z0c x5)) (Z47 N x3 x5 r7 hr7) (.cons (Z01 Z06 hb8) y5))) (ih.slices_symMergeCmpFunc_api_Term_L0 p0 p1 v10 (wrap .i64 (Int.fdiv (wrap .u64 (wrap .i64 (v10+v11))) (yh 1))) _ h)
   ·obtain rfl:=yl h
    exact Zj0.out (y8 [ay,ae,.adj [.keep [0,1,10] [1676]]] (.cons (Z01 Z06 hb2) y5)) (by simp)
  ·intro p0 r9 a1676 v13 r h
   rw [slices_symMergeCmpFunc_api_Term_L1] at h
   try simp only [rq_len] at h
   rcases Z07 h with ⟨hb10,h⟩ | ⟨hb10,h⟩
   ·obtain ⟨hw12,h⟩:=Z1p h
    obtain ⟨x11,hx11,h⟩:=yj h
    obtain ⟨hw14,h⟩:=Z1p h
    obtain ⟨x13,hx13,h⟩:=yj h
    obtain ⟨hw16,h⟩:=Z1p h
    obtain ⟨x15,hx15,h⟩:=yj h
    obtain ⟨hw18,h⟩:=Z1p h
    obtain ⟨x17,hx17,h⟩:=yj h
    exact Zj0.again (y8 [.reg (e 4),ah,.reg [aa,aa,aa,aa,aa,aa,aa,aa,aa, { cast:=some (.v (.agg (Z21 x11))) },aa,aa,aa, { cast:=some (.v (.agg (Z21 x13))) },aa,aa,aa,aa],.adj [.ob 1676 (.arr 7 (((a1676.set (Int.toNat v13+0) x11).set (Int.toNat (wrap .i64 (v13+(1:Int)))+0) x13).map Z05) true)],ay,.adj [.keep [0,10,13] [1676]]] (.c8 (Zj8 Z06 hb10) (hw12:0≤wrap .i64 (v13+(1:Int))∧wrap .i64 (v13+(1:Int)) < ((((p0.map Z05).length):Nat):Int)) (⟨Zjy hx11,by decide⟩:(Int.toNat (wrap .i64 (v13+(1:Int)))+0) < (a1676.map Z05).length∧0≤7) (Zjx (fun l=>(.v (.agg [.d (l.getD 0 .nils),.d (l.getD 1 .nils),.d (l.getD 2 .nils),.d (l.getD 3 .nils),.d (l.getD 4 .nils),.d (l.getD 5 .nils),.d (l.getD 6 .nils)]))) hx11 (Z0c x11)) (hw14:0≤v13∧v13 < ((((p0.map Z05).length):Nat):Int)) (⟨Zjy hx13,by decide⟩:(Int.toNat v13+0) < (a1676.map Z05).length∧0≤7) (Zjx (fun l=>(.v (.agg [.d (l.getD 0 .nils),.d (l.getD 1 .nils),.d (l.getD 2 .nils),.d (l.getD 3 .nils),.d (l.getD 4 .nils),.d (l.getD 5 .nils),.d (l.getD 6 .nils)]))) hx13 (Z0c x13)) (hw16:0≤v13∧v13 < ((((p0.map Z05).length):Nat):Int)) (.c4 (Zjy hx15:(Int.toNat v13+0) < (a1676.map Z05).length) (AV.Le.refl (.v (.one (.vw 1676 7 0 ((p0.map Z05).length))))) (AV.Le.refl (ai v13)) (AV.Le.refl (ai (wrap .i64 (v13+(1:Int))))) (.c2 (hw18:0≤wrap .i64 (v13+(1:Int))∧wrap .i64 (v13+(1:Int)) < ((((p0.map Z05).length):Nat):Int)) (raw_lt (show ((a1676.map Z05).set (Int.toNat v13+0) (Zjw ((a1676.map Z05).getD (Int.toNat v13+0) []) 0 [.int .i64 x11.fKind,.int .i64 x11.fN,.bool x11.fNum.fNeg,.pr Thr.n 1 (x11.fNum.fMag.map (rI .u32)),.int .u64 x11.fBits,.str x11.fBytes,.pr Thr.n 7 (x11.fArgs.map Z05)] 7))=((a1676.set (Int.toNat v13+0) x11).map Z05) from (show ((a1676.map Z05).set (Int.toNat v13+0) (Zjw ((a1676.map Z05).getD (Int.toNat v13+0) []) 0 [.int .i64 x11.fKind,.int .i64 x11.fN,.bool x11.fNum.fNeg,.pr Thr.n 1 (x11.fNum.fMag.map (rI .u32)),.int .u64 x11.fBits,.str x11.fBytes,.pr Thr.n 7 (x11.fArgs.map Z05)] 7))=((a1676.set (Int.toNat v13+0) x11).map Z05) from Z89 (show (a1676.map Z05)=(a1676.map Z05) from rfl) hx15 (Z0c x15) (by rw [Z0c x11]; rfl))) hx17:(Int.toNat (wrap .i64 (v13+(1:Int)))+0) < ((a1676.map Z05).set (Int.toNat v13+0) (Zjw ((a1676.map Z05).getD (Int.toNat v13+0) []) 0 [.int .i64 x11.fKind,.int .i64 x11.fN,.bool x11.fNum.fNeg,.pr Thr.n 1 (x11.fNum.fMag.map (rI .u32)),.int .u64 x11.fBits,.str x11.fBytes,.pr Thr.n 7 (x11.fArgs.map Z05)] 7)).length) (.cons (Z42 (Eq.symm (show (((a1676.map Z05).set (Int.toNat v13+0) (Zjw ((a1676.map Z05).getD (Int.toNat v13+0) []) 0 [.int .i64 x11.fKind,.int .i64 x11.fN,.bool x11.fNum.fNeg,.pr Thr.n 1 (x11.fNum.fMag.map (rI .u32)),.int .u64 x11.fBits,.str x11.fBytes,.pr Thr.n 7 (x11.fArgs.map Z05)] 7)).set (Int.toNat (wrap .i64 (v13+(1:Int)))+0) (Zjw (((a1676.map Z05).set (Int.toNat v13+0) (Zjw ((a1676.map Z05).getD (Int.toNat v13+0) []) 0 [.int .i64 x11.fKind,.int .i64 x11.fN,.bool x11.fNum.fNeg,.pr Thr.n 1 (x11.fNum.fMag.map (rI .u32)),.int .u64 x11.fBits,.str x11.fBytes,.pr Thr.n 7 (x11.fArgs.map Z05)] 7)).getD (Int.toNat (wrap .i64 (v13+(1:Int)))+0) []) 0 [.int .i64 x13.fKind,.int .i64 x13.fN,.bool x13.fNum.fNeg,.pr Thr.n 1 (x13.fNum.fMag.map (rI .u32)),.int .u64 x13.fBits,.str x13.fBytes,.pr Thr.n 7 (x13.fArgs.map Z05)] 7))=(((a1676.set (Int.toNat v13+0) x11).set (Int.toNat (wrap .i64 (v13+(1:Int)))+0) x13).map Z05) from Z89 (show ((a1676.map Z05).set (Int.toNat v13+0) (Zjw ((a1676.map Z05).getD (Int.toNat v13+0) []) 0 [.int .i64 x11.fKind,.int .i64 x11.fN,.bool x11.fNum.fNeg,.pr Thr.n 1 (x11.fNum.fMag.map (rI .u32)),.int .u64 x11.fBits,.str x11.fBytes,.pr Thr.n 7 (x11.fArgs.map Z05)] 7))=((a1676.set (Int.toNat v13+0) x11).map Z05) from (show ((a1676.map Z05).set (Int.toNat v13+0) (Zjw ((a1676.map Z05).getD (Int.toNat v13+0) []) 0 [.int .i64 x11.fKind,.int .i64 x11.fN,.bool x11.fNum.fNeg,.pr Thr.n 1 (x11.fNum.fMag.map (rI .u32)),.int .u64 x11.fBits,.str x11.fBytes,.pr Thr.n 7 (x11.fArgs.map Z05)] 7))=((a1676.set (Int.toNat v13+0) x11).map Z05) from Z89 (show (a1676.map Z05)=(a1676.map Z05) from rfl) hx15 (Z0c x15) (by rw [Z0c x11]; rfl))) hx17 (Z0c x17) (by rw [Z0c x13]; rfl))):Ob.Le (.arr 7 (((a1676.map Z05).set (Int.toNat v13+0) (Zjw ((a1676.map Z05).getD (Int.toNat v13+0) []) 0 [.int .i64 x11.fKind,.int .i64 x11.fN,.bool x11.fNum.fNeg,.pr Thr.n 1 (x11.fNum.fMag.map (rI .u32)),.int .u64 x11.fBits,.str x11.fBytes,.pr Thr.n 7 (x11.fArgs.map Z05)] 7)).set (Int.toNat (wrap .i64 (v13+(1:Int)))+0) (Zjw (((a1676.map Z05).set (Int.toNat v13+0) (Zjw ((a1676.map Z05).getD (Int.toNat v13+0) []) 0 [.int .i64 x11.fKind,.int .i64 x11.fN,.bool x11.fNum.fNeg,.pr Thr.n 1 (x11.fNum.fMag.map (rI .u32)),.int .u64 x11.fBits,.str x11.fBytes,.pr Thr.n 7 (x11.fArgs.map Z05)] 7)).getD (Int.toNat (wrap .i64 (v13+(1:Int)))+0) []) 0 [.int .i64 x13.fKind,.int .i64 x13.fN,.bool x13.fNum.fNeg,.pr Thr.n 1 (x13.fNum.fMag.map (rI .u32)),.int .u64 x13.fBits,.str x13.fBytes,.pr Thr.n 7 (x13.fArgs.map Z05)] 7)) true) (.arr 7 (((a1676.set (Int.toNat v13+0) x11).set (Int.toNat (wrap .i64 (v13+(1:Int)))+0) x13).map Z05) true)) y5))))) (ih.slices_symMergeCmpFunc_api_Term_L1 p0 r9 ((a1676.set (Int.toNat v13+0) x11).set (Int.toNat (wrap .i64 (v13+(1:Int)))+0) x13) (wrap .i64 (v13+(1:Int))) _ h)
   ·obtain rfl:=yl h
    exact Zj0.out (y8 [.reg (e 4),ae,.adj [.keep [] [1676]]] (.cons (Z01 Z06 hb10) y5)) (by simp)
  ·intro p0 p2 v14 v15 r h
   rw [slices_symMergeCmpFunc_api_Term_L2] at h
   try simp only [rq_len] at h
   rcases Z07 h with ⟨hb21,h⟩ | ⟨hb21,h⟩
   ·obtain ⟨hw23,h⟩:=Z1p h
    obtain ⟨x22,hx22,h⟩:=yj h
    obtain ⟨hw25,h⟩:=Z1p h
    obtain ⟨x24,hx24,h⟩:=yj h
    obtain ⟨r26,hr26,h⟩:=yj h
    rcases Z07 h with ⟨hb27,h⟩ | ⟨hb27,h⟩
    ·exact Zj0.again (y8 [ay,ah,.reg (e 7),.reg [aa,aa,aa,aa, { cast:=some (.v (.agg (Z21 x22))) },aa,aa,aa, { cast:=some (.v (.agg (Z21 x24))) }, yg [vi r26],aa,aa],ah,ay,.adj [.keep [0,2,4,14,15] [1676]]] (.c8 (Zj8 Z06 hb21) (hw23:0≤p2∧p2 < ((((p0.map Z05).length):Nat):Int)) (⟨Zjy hx22,by decide⟩:(Int.toNat p2+0) < (p0.map Z05).length∧0≤7) (Zjx (fun l=>(.v (.agg [.d (l.getD 0 .nils),.d (l.getD 1 .nils),.d (l.getD 2 .nils),.d (l.getD 3 .nils),.d (l.getD 4 .nils),.d (l.getD 5 .nils),.d (l.getD 6 .nils)]))) hx22 (Z0c x22)) (hw25:0≤wrap .i64 (Int.fdiv (wrap .u64 (wrap .i64 (v14+v15))) (yh 1))∧wrap .i64 (Int.fdiv (wrap .u64 (wrap .i64 (v14+v15))) (yh 1)) < ((((p0.map Z05).length):Nat):Int)) (⟨Zjy hx24,by decide⟩:(Int.toNat (wrap .i64 (Int.fdiv (wrap .u64 (wrap .i64 (v14+v15))) (yh 1)))+0) < (p0.map Z05).length∧0≤7) (Zjx (fun l=>(.v (.agg [.d (l.getD 0 .nils),.d (l.getD 1 .nils),.d (l.getD 2 .nils),.d (l.getD 3 .nils),.d (l.getD 4 .nils),.d (l.getD 5 .nils),.d (l.getD 6 .nils)]))) hx24 (Z0c x24)) (Z47 N x22 x24 r26 hr26) (.cons (Zj8 (Z09 Z06) hb27) y5))) (ih.slices_symMergeCmpFunc_api_Term_L2 p0 p2 (wrap .i64 ((wrap .i64 (Int.fdiv (wrap .u64 (wrap .i64 (v14+v15))) (yh 1)))+(1:Int))) v15 _ h)
    ·exact Zj0.again (y8 [ay,ah,.reg (e 7),.reg [aa,aa,aa,aa, { cast:=some (.v (.agg (Z21 x22))) },aa,aa,aa, { cast:=some (.v (.agg (Z21 x24))) }, yg [vi r26],aa,aa],ae,af,.adj [.keep [0,2,4,14,15] [1676]]] (.c8 (Zj8 Z06 hb21) (hw23:0≤p2∧p2 < ((((p0.map Z05).length):Nat):Int)) (⟨Zjy hx22,by decide⟩:(Int.toNat p2+0) < (p0.map Z05).length∧0≤7) (Zjx (fun l=>(.v (.agg [.d (l.getD 0 .nils),.d (l.getD 1 .nils),.d (l.getD 2 .nils),.d (l.getD 3 .nils),.d (l.getD 4 .nils),.d (l.getD 5 .nils),.d (l.getD 6 .nils)]))) hx22 (Z0c x22)) (hw25:0≤wrap .i64 (Int.fdiv (wrap .u64 (wrap .i64 (v14+v15))) (yh 1))∧wrap .i64 (Int.fdiv (wrap .u64 (wrap .i64 (v14+v15))) (yh 1)) < ((((p0.map Z05).length):Nat):Int)) (⟨Zjy hx24,by decide⟩:(Int.toNat (wrap .i64 (Int.fdiv (wrap .u64 (wrap .i64 (v14+v15))) (yh 1)))+0) < (p0.map Z05).length∧0≤7) (Zjx (fun l=>(.v (.agg [.d (l.getD 0 .nils),.d (l.getD 1 .nils),.d (l.getD 2 .nils),.d (l.getD 3 .nils),.d (l.getD 4 .nils),.d (l.getD 5 .nils),.d (l.getD 6 .nils)]))) hx24 (Z0c x24)) (Z47 N x22 x24 r26 hr26) (.cons (Z01 (Z09 Z06) hb27) y5))) (ih.slices_symMergeCmpFunc_api_Term_L2 p0 p2 v14 (wrap .i64 (Int.fdiv (wrap .u64 (wrap .i64 (v14+v15))) (yh 1))) _ h)
   ·obtain rfl:=yl h
    exact Zj0.out (y8 [ay,ae,.adj [.keep [0,2,14] [1676]]] (.cons (Z01 Z06 hb21) y5)) (by simp)
  ·intro p0 r28 a1676 v17 r h
   rw [slices_symMergeCmpFunc_api_Term_L3] at h
   try simp only [rq_len] at h
   rcases Z07 h with ⟨hb29,h⟩ | ⟨hb29,h⟩
   ·obtain ⟨hw31,h⟩:=Z1p h
    obtain ⟨x30,hx30,h⟩:=yj h
    obtain ⟨hw33,h⟩:=Z1p h
    obtain ⟨x32,hx32,h⟩:=yj h
    obtain ⟨hw35,h⟩:=Z1p h
    obtain ⟨x34,hx34,h⟩:=yj h
    obtain ⟨hw37,h⟩:=Z1p h
    obtain ⟨x36,hx36,h⟩:=yj h
    exact Zj0.again (y8 [ay,ah,.reg [aa,aa,aa,aa,aa,aa,aa,aa,aa, { cast:=some (.v (.agg (Z21 x30))) },aa,aa,aa, { cast:=some (.v (.agg (Z21 x32))) },aa,aa,aa,aa],.adj [.ob 1676 (.arr 7 (((a1676.set (Int.toNat v17+0) x30).set (Int.toNat (wrap .i64 (v17 - (1:Int)))+0) x32).map Z05) true)],ay,.adj [.keep [0,14,17] [1676]]] (.c8 (Zj8 Z06 hb29) (hw31:0≤wrap .i64 (v17 - (1:Int))∧wrap .i64 (v17 - (1:Int)) < ((((p0.map Z05).length):Nat):Int)) (⟨Zjy hx30,by decide⟩:(Int.toNat (wrap .i64 (v17 - (1:Int)))+0) < (a1676.map Z05).length∧0≤7) (Zjx (fun l=>(.v (.agg [.d (l.getD 0 .nils),.d (l.getD 1 .nils),.d (l.getD 2 .nils),.d (l.getD 3 .nils),.d (l.getD 4 .nils),.d (l.getD 5 .nils),.d (l.getD 6 .nils)]))) hx30 (Z0c x30)) (hw33:0≤v17∧v17 < ((((p0.map Z05).length):Nat):Int)) (⟨Zjy hx32,by decide⟩:(Int.toNat v17+0) < (a1676.map Z05).length∧0≤7) (Zjx (fun l=>(.v (.agg [.d (l.getD 0 .nils),.d (l.getD 1 .nils),.d (l.getD 2 .nils),.d (l.getD 3 .nils),.d (l.getD 4 .nils),.d (l.getD 5 .nils),.d (l.getD 6 .nils)]))) hx32 (Z0c x32)) (hw35:0≤v17∧v17 < ((((p0.map Z05).length):Nat):Int)) (.c4 (Zjy hx34:(Int.toNat v17+0) < (a1676.map Z05).length) (AV.Le.refl (.v (.one (.vw 1676 7 0 ((p0.map Z05).length))))) (AV.Le.refl (ai v17)) (AV.Le.refl (ai (wrap .i64 (v17 - (1:Int))))) (.c2 (hw37:0≤wrap .i64 (v17 - (1:Int))∧wrap .i64 (v17 - (1:Int)) < ((((p0.map Z05).length):Nat):Int)) (raw_lt (show ((a1676.map Z05).set (Int.toNat v17+0) (Zjw ((a1676.map Z05).getD (Int.toNat v17+0) []) 0 [.int .i64 x30.fKind,.int .i64 x30.fN,.bool x30.fNum.fNeg,.pr Thr.n 1 (x30.fNum.fMag.map (rI .u32)),.int .u64 x30.fBits,.str x30.fBytes,.pr Thr.n 7 (x30.fArgs.map Z05)] 7))=((a1676.set (Int.toNat v17+0) x30).map Z05) from (show ((a1676.map Z05).set (Int.toNat v17+0) (Zjw ((a1676.map Z05).getD (Int.toNat v17+0) []) 0 [.int .i64 x30.fKind,.int .i64 x30.fN,.bool x30.fNum.fNeg,.pr Thr.n 1 (x30.fNum.fMag.map (rI .u32)),.int .u64 x30.fBits,.str x30.fBytes,.pr Thr.n 7 (x30.fArgs.map Z05)] 7))=((a1676.set (Int.toNat v17+0) x30).map Z05) from Z89 (show (a1676.map Z05)=(a1676.map Z05) from rfl) hx34 (Z0c x34) (by rw [Z0c x30]; rfl))) hx36:(Int.toNat (wrap .i64 (v17 - (1:Int)))+0) < ((a1676.map Z05).set (Int.toNat v17+0) (Zjw ((a1676.map Z05).getD (Int.toNat v17+0) []) 0 [.int .i64 x30.fKind,.int .i64 x30.fN,.bool x30.fNum.fNeg,.pr Thr.n 1 (x30.fNum.fMag.map (rI .u32)),.int .u64 x30.fBits,.str x30.fBytes,.pr Thr.n 7 (x30.fArgs.map Z05)] 7)).length) (.cons (Z42 (Eq.symm (show (((a1676.map Z05).set (Int.toNat v17+0) (Zjw ((a1676.map Z05).getD (Int.toNat v17+0) []) 0 [.int .i64 x30.fKind,.int .i64 x30.fN,.bool x30.fNum.fNeg,.pr Thr.n 1 (x30.fNum.fMag.map (rI .u32)),.int .u64 x30.fBits,.str x30.fBytes,.pr Thr.n 7 (x30.fArgs.map Z05)] 7)).set (Int.toNat (wrap .i64 (v17 - (1:Int)))+0) (Zjw (((a1676.map Z05).set (Int.toNat v17+0) (Zjw ((a1676.map Z05).getD (Int.toNat v17+0) []) 0 [.int .i64 x30.fKind,.int .i64 x30.fN,.bool x30.fNum.fNeg,.pr Thr.n 1 (x30.fNum.fMag.map (rI .u32)),.int .u64 x30.fBits,.str x30.fBytes,.pr Thr.n 7 (x30.fArgs.map Z05)] 7)).getD (Int.toNat (wrap .i64 (v17 - (1:Int)))+0) []) 0 [.int .i64 x32.fKind,.int .i64 x32.fN,.bool x32.fNum.fNeg,.pr Thr.n 1 (x32.fNum.fMag.map (rI .u32)),.int .u64 x32.fBits,.str x32.fBytes,.pr Thr.n 7 (x32.fArgs.map Z05)] 7))=(((a1676.set (Int.toNat v17+0) x30).set (Int.toNat (wrap .i64 (v17 - (1:Int)))+0) x32).map Z05) from Z89 (show ((a1676.map Z05).set (Int.toNat v17+0) (Zjw ((a1676.map Z05).getD (Int.toNat v17+0) []) 0 [.int .i64 x30.fKind,.int .i64 x30.fN,.bool x30.fNum.fNeg,.pr Thr.n 1 (x30.fNum.fMag.map (rI .u32)),.int .u64 x30.fBits,.str x30.fBytes,.pr Thr.n 7 (x30.fArgs.map Z05)] 7))=((a1676.set (Int.toNat v17+0) x30).map Z05) from (show ((a1676.map Z05).set (Int.toNat v17+0) (Zjw ((a1676.map Z05).getD (Int.toNat v17+0) []) 0 [.int .i64 x30.fKind,.int .i64 x30.fN,.bool x30.fNum.fNeg,.pr Thr.n 1 (x30.fNum.fMag.map (rI .u32)),.int .u64 x30.fBits,.str x30.fBytes,.pr Thr.n 7 (x30.fArgs.map Z05)] 7))=((a1676.set (Int.toNat v17+0) x30).map Z05) from Z89 (show (a1676.map Z05)=(a1676.map Z05) from rfl) hx34 (Z0c x34) (by rw [Z0c x30]; rfl))) hx36 (Z0c x36) (by rw [Z0c x32]; rfl))):Ob.Le (.arr 7 (((a1676.map Z05).set (Int.toNat v17+0) (Zjw ((a1676.map Z05).getD (Int.toNat v17+0) []) 0 [.int .i64 x30.fKind,.int .i64 x30.fN,.bool x30.fNum.fNeg,.pr Thr.n 1 (x30.fNum.fMag.map (rI .u32)),.int .u64 x30.fBits,.str x30.fBytes,.pr Thr.n 7 (x30.fArgs.map Z05)] 7)).set (Int.toNat (wrap .i64 (v17 - (1:Int)))+0) (Zjw (((a1676.map Z05).set (Int.toNat v17+0) (Zjw ((a1676.map Z05).getD (Int.toNat v17+0) []) 0 [.int .i64 x30.fKind,.int .i64 x30.fN,.bool x30.fNum.fNeg,.pr Thr.n 1 (x30.fNum.fMag.map (rI .u32)),.int .u64 x30.fBits,.str x30.fBytes,.pr Thr.n 7 (x30.fArgs.map Z05)] 7)).getD (Int.toNat (wrap .i64 (v17 - (1:Int)))+0) []) 0 [.int .i64 x32.fKind,.int .i64 x32.fN,.bool x32.fNum.fNeg,.pr Thr.n 1 (x32.fNum.fMag.map (rI .u32)),.int .u64 x32.fBits,.str x32.fBytes,.pr Thr.n 7 (x32.fArgs.map Z05)] 7)) true) (.arr 7 (((a1676.set (Int.toNat v17+0) x30).set (Int.toNat (wrap .i64 (v17 - (1:Int)))+0) x32).map Z05) true)) y5))))) (ih.slices_symMergeCmpFunc_api_Term_L3 p0 r28 ((a1676.set (Int.toNat v17+0) x30).set (Int.toNat (wrap .i64 (v17 - (1:Int)))+0) x32) (wrap .i64 (v17 - (1:Int))) _ h)
   ·obtain rfl:=yl h
    exact Zj0.out (y8 [ay,ae,.adj [.keep [] [1676]]] (.cons (Z01 Z06 hb29) y5)) (by simp)
  ·intro p0 p1 p2 p3 r h
   rw [slices_symMergeCmpFunc_api_Term_B4] at h
   try simp only [rq_len] at h
   rcases Z07 h with ⟨hb39,h⟩ | ⟨hb39,h⟩
   ·obtain rfl:=yl h
    exact y8 [ay,ah,.reg (e 4),af,.adj [.keep [0,1,2,3,4,18,19,20,21] [1676]]] (.cons (Zj8 Z06 hb39) y5)
   ·obtain rfl:=yl h
    exact y8 [ay,ae,af,af,.adj [.keep [0,1,2,3,4,18,19,20,21] [1676]]] (.cons (Z01 Z06 hb39) y5)
  ·intro p0 p1 p2 p3 v20 v21 r h
   rw [slices_symMergeCmpFunc_api_Term_L5] at h
   try simp only [rq_len] at h
   rcases Z07 h with ⟨hb41,h⟩ | ⟨hb41,h⟩
   ·obtain ⟨hw43,h⟩:=Z1p h
    obtain ⟨x42,hx42,h⟩:=yj h
    obtain ⟨hw45,h⟩:=Z1p h
    obtain ⟨x44,hx44,h⟩:=yj h
    obtain ⟨r46,hr46,h⟩:=yj h
    rcases Z07 h with ⟨hb47,h⟩ | ⟨hb47,h⟩
    ·exact Zj0.again (y8 [ay,ah,.reg (e 7),.reg [aa,aa,aa,aa,aa,aa, { cast:=some (.v (.agg (Z21 x42))) },aa,aa,aa, { cast:=some (.v (.agg (Z21 x44))) }, yg [vi r46],aa,aa],ah,ay,.adj [.keep [0,1,2,3,4,18,19,20,21,22] [1676]]] (.c8 (Zj8 Z06 hb41) (hw43:0≤wrap .i64 ((wrap .i64 ((wrap .i64 ((wrap .i64 (Int.fdiv (wrap .u64 (wrap .i64 (p1+p3))) (yh 1)))+p2)) - (1:Int))) - (wrap .i64 (Int.fdiv (wrap .u64 (wrap .i64 (v20+v21))) (yh 1))))∧wrap .i64 ((wrap .i64 ((wrap .i64 ((wrap .i64 (Int.fdiv (wrap .u64 (wrap .i64 (p1+p3))) (yh 1)))+p2)) - (1:Int))) - (wrap .i64 (Int.fdiv (wrap .u64 (wrap .i64 (v20+v21))) (yh 1)))) < ((((p0.map Z05).length):Nat):Int)) (⟨Zjy hx42,by decide⟩:(Int.toNat (wrap .i64 ((wrap .i64 ((wrap .i64 ((wrap .i64 (Int.fdiv (wrap .u64 (wrap .i64 (p1+p3))) (yh 1)))+p2)) - (1:Int))) - (wrap .i64 (Int.fdiv (wrap .u64 (wrap .i64 (v20+v21))) (yh 1)))))+0) < (p0.map Z05).length∧0≤7) (Zjx (fun l=>(.v (.agg [.d (l.getD 0 .nils),.d (l.getD 1 .nils),.d (l.getD 2 .nils),.d (l.getD 3 .nils),.d (l.getD 4 .nils),.d (l.getD 5 .nils),.d (l.getD 6 .nils)]))) hx42 (Z0c x42)) (hw45:0≤wrap .i64 (Int.fdiv (wrap .u64 (wrap .i64 (v20+v21))) (yh 1))∧wrap .i64 (Int.fdiv (wrap .u64 (wrap .i64 (v20+v21))) (yh 1)) < ((((p0.map Z05).length):Nat):Int)) (⟨Zjy hx44,by decide⟩:(Int.toNat (wrap .i64 (Int.fdiv (wrap .u64 (wrap .i64 (v20+v21))) (yh 1)))+0) < (p0.map Z05).length∧0≤7) (Zjx (fun l=>(.v (.agg [.d (l.getD 0 .nils),.d (l.getD 1 .nils),.d (l.getD 2 .nils),.d (l.getD 3 .nils),.d (l.getD 4 .nils),.d (l.getD 5 .nils),.d (l.getD 6 .nils)]))) hx44 (Z0c x44)) (Z47 N x42 x44 r46 hr46) (.cons (Zj8 (Z09 Z06) hb47) y5))) (ih.slices_symMergeCmpFunc_api_Term_L5 p0 p1 p2 p3 (wrap .i64 ((wrap .i64 (Int.fdiv (wrap .u64 (wrap .i64 (v20+v21))) (yh 1)))+(1:Int))) v21 _ h)
    ·exact Zj0.again (y8 [ay,ah,.reg (e 7),.reg [aa,aa,aa,aa,aa,aa, { cast:=some (.v (.agg (Z21 x42))) },aa,aa,aa, { cast:=some (.v (.agg (Z21 x44))) }, yg [vi r46],aa,aa],ae,af,.adj [.keep [0,1,2,3,4,18,19,20,21,22] [1676]]] (.c8 (Zj8 Z06 hb41) (hw43:0≤wrap .i64 ((wrap .i64 ((wrap .i64 ((wrap .i64 (Int.fdiv (wrap .u64 (wrap .i64 (p1+p3))) (yh 1)))+p2)) - (1:Int))) - (wrap .i64 (Int.fdiv (wrap .u64 (wrap .i64 (v20+v21))) (yh 1))))∧wrap .i64 ((wrap .i64 ((wrap .i64 ((wrap .i64 (Int.fdiv (wrap .u64 (wrap .i64 (p1+p3))) (yh 1)))+p2)) - (1:Int))) - (wrap .i64 (Int.fdiv (wrap .u64 (wrap .i64 (v20+v21))) (yh 1)))) < ((((p0.map Z05).length):Nat):Int)) (⟨Zjy hx42,by decide⟩:(Int.toNat (wrap .i64 ((wrap .i64 ((wrap .i64 ((wrap .i64 (Int.fdiv (wrap .u64 (wrap .i64 (p1+p3))) (yh 1)))+p2)) - (1:Int))) - (wrap .i64 (Int.fdiv (wrap .u64 (wrap .i64 (v20+v21))) (yh 1)))))+0) < (p0.map Z05).length∧0≤7) (Zjx (fun l=>(.v (.agg [.d (l.getD 0 .nils),.d (l.getD 1 .nils),.d (l.getD 2 .nils),.d (l.getD 3 .nils),.d (l.getD 4 .nils),.d (l.getD 5 .nils),.d (l.getD 6 .nils)]))) hx42 (Z0c x42)) (hw45:0≤wrap .i64 (Int.fdiv (wrap .u64 (wrap .i64 (v20+v21))) (yh 1))∧wrap .i64 (Int.fdiv (wrap .u64 (wrap .i64 (v20+v21))) (yh 1)) < ((((p0.map Z05).length):Nat):Int)) (⟨Zjy hx44,by decide⟩:(Int.toNat (wrap .i64 (Int.fdiv (wrap .u64 (wrap .i64 (v20+v21))) (yh 1)))+0) < (p0.map Z05).length∧0≤7) (Zjx (fun l=>(.v (.agg [.d (l.getD 0 .nils),.d (l.getD 1 .nils),.d (l.getD 2 .nils),.d (l.getD 3 .nils),.d (l.getD 4 .nils),.d (l.getD 5 .nils),.d (l.getD 6 .nils)]))) hx44 (Z0c x44)) (Z47 N x42 x44 r46 hr46) (.cons (Z01 (Z09 Z06) hb47) y5))) (ih.slices_symMergeCmpFunc_api_Term_L5 p0 p1 p2 p3 v20 (wrap .i64 (Int.fdiv (wrap .u64 (wrap .i64 (v20+v21))) (yh 1))) _ h)
   ·obtain rfl:=yl h
    exact Zj0.out (y8 [ay,ae,.adj [.keep [0,1,2,3,4,18,19,20] [1676]]] (.cons (Z01 Z06 hb41) y5)) (by simp)
  ·intro p0 p1 p2 p3 r48 r h
   rw [slices_symMergeCmpFunc_api_Term_B6] at h
   try simp only [rq_len] at h
   rcases Z07 h with ⟨hb49,h⟩ | ⟨hb49,h⟩
   ·rcases Z07 h with ⟨hb50,h⟩ | ⟨hb50,h⟩
    ·obtain ⟨r51,hr51,h⟩:=yj h
     obtain rfl:=yl h
     exact y8 [.reg [aa,aa,aa,aa,aa,aa,aa, { h:=.pick true }],ah,.reg [aa,aa,aa,aa,aa, { h:=.kcall 1676 (r51.map Z05) }],.adj [.keep [0,1,3,4,18,20,24] [1676]]] (.c4 (Zj8 Z06 hb49) (Zj8 Z06 hb49) (Zj8 Z06 hb49) (Zj8 Z06 hb49) (.c2 (Zj8 Z06 hb50) (Z9l N p0 r48 p2 (wrap .i64 ((wrap .i64 ((wrap .i64 (Int.fdiv (wrap .u64 (wrap .i64 (p1+p3))) (yh 1)))+p2)) - r48)) r51 hr51) (.cons (rfl:(p0.map Z05).length=(p0.map Z05).length) y5)))
    ·obtain rfl:=yl h
     exact y8 [.reg [aa,aa,aa,aa,aa,aa,aa, { h:=.pick true }],ae,.adj [.keep [0,1,3,4,18,20,24] [1676]]] (.c4 (Zj8 Z06 hb49) (Zj8 Z06 hb49) (Zj8 Z06 hb49) (Zj8 Z06 hb49) (.cons (Z01 Z06 hb50) y5))
   ·obtain rfl:=yl h
    exact y8 [.reg [aa,aa,aa,aa,w0,w0,w0, { h:=.pick false }],ae,.adj [.keep [0,1,3,4,18,20,24] [1676]]] (.c4 (Z01 Z06 hb49) (Z01 Z06 hb49) (Z01 Z06 hb49) (Z01 Z06 hb49) (.cons yf y5))
  ·intro p0 p1 p2 p3 r48 r53 r h
   rw [slices_symMergeCmpFunc_api_Term_B7] at h
   try simp only [rq_len] at h
   rcases Z07 h with ⟨hb54,h⟩ | ⟨hb54,h⟩
   ·rcases Z07 h with ⟨hb55,h⟩ | ⟨hb55,h⟩
    ·obtain ⟨hw56,h⟩:=Z1p h
     obtain ⟨r57,hr57,h⟩:=yj h
     obtain rfl:=yl h
     exact y8 [.reg [aa,aa,aa,aa,aa,aa,aa, { h:=.pick true }],ah,.reg [aa,aa,aa,aa,aa, { h:=.kcall 1676 (r57.map Z05) }],.adj [.keep [0,3,4,18,24] [1676]]] (.c4 (Zj8 Z06 hb54) (Zj8 Z06 hb54) (Zj8 Z06 hb54) (Zj8 Z06 hb54) (.c2 (Zj8 Z06 hb55) ((ih.slices_symMergeCmpFunc_api_Term) r53 p1 r48 (wrap .i64 (Int.fdiv (wrap .u64 (wrap .i64 (p1+p3))) (yh 1))) r57 hr57) (.cons (by simp only [xg,hw56]:((p0.map Z05).length)=(r53.map Z05).length) y5)))
    ·obtain rfl:=yl h
     exact y8 [.reg [aa,aa,aa,aa,aa,aa,aa, { h:=.pick true }],ae,.adj [.keep [0,3,4,18,24] [1676]]] (.c4 (Zj8 Z06 hb54) (Zj8 Z06 hb54) (Zj8 Z06 hb54) (Zj8 Z06 hb54) (.cons (Z01 Z06 hb55) y5))
   ·obtain rfl:=yl h
    exact y8 [.reg [aa,aa,aa,aa,w0,w0,w0, { h:=.pick false }],ae,.adj [.keep [0,3,4,18,24] [1676]]] (.c4 (Z01 Z06 hb54) (Z01 Z06 hb54) (Z01 Z06 hb54) (Z01 Z06 hb54) (.cons yf y5))
  ·intro p0 p1 p2 p3 r h
   rw [slices_symMergeCmpFunc_api_Term] at h
   try simp only [rq_len] at h
   rcases Z07 h with ⟨hb1,h⟩ | ⟨hb1,h⟩
   ·obtain ⟨r9,hr9,h⟩:=yj h
    obtain ⟨r19,hr19,h⟩:=yj h
    obtain rfl:=yl h
    exact yc 1676 [.reg (e 4),ah,af,af,.adj [.keep [0,1,4,10,11] [1676]],.cut (.exit 0) (Z4o p0 p1 r9),af,.adj [.keep [0,10,13] [1676]],.cut (.exit 2) (Z4i p0 r9 r19)] func106 (.c2 (Zj8 Z03 hb1) (Ziw.of_loop ((ih.slices_symMergeCmpFunc_api_Term_L0) p0 p1 p2 p3 r9 hr9)) (.cons (Ziw.of_loop ((ih.slices_symMergeCmpFunc_api_Term_L1) p0 r9 p0 p1 r19 hr19)) y5))
   ·rcases Z07 h with ⟨hb20,h⟩ | ⟨hb20,h⟩
    ·obtain ⟨r28,hr28,h⟩:=yj h
     obtain ⟨r38,hr38,h⟩:=yj h
     obtain rfl:=yl h
     exact yc 1676 [.reg (e 4),ae,.reg (e 4),ah,af,af,.adj [.keep [0,2,4,14,15] [1676]],.cut (.exit 4) (Z4m p0 p2 r28),af,.adj [.keep [0,14,17] [1676]],.cut (.exit 6) (Z4j p0 r28 r38)] func106 (.c4 (Z01 Z03 hb1) (Zj8 Z03 hb20) (Ziw.of_loop ((ih.slices_symMergeCmpFunc_api_Term_L2) p0 p2 p1 p2 r28 hr28)) (Ziw.of_loop ((ih.slices_symMergeCmpFunc_api_Term_L3) p0 r28 p0 p2 r38 hr38)) y5)
    ·obtain ⟨r40,hr40,h⟩:=yj h
     obtain ⟨r48,hr48,h⟩:=yj h
     obtain ⟨r53,hr53,h⟩:=yj h
     obtain ⟨r59,hr59,h⟩:=yj h
     rcases Z07 h with ⟨hb60,h⟩ | ⟨hb60,h⟩
     ·rcases Z07 h with ⟨hb61,h⟩ | ⟨hb61,h⟩
      ·obtain ⟨hw62,h⟩:=Z1p h
       obtain ⟨r63,hr63,h⟩:=yj h
       obtain rfl:=yl h
       exact yc 1676 [.reg (e 4),ae,.reg (e 4),ae,.reg (e 7),.reg (e 4),af,.deep 1 [.keep [0,1,2,3,4,18,19] [1676]] .normal (Z28 p0 p1 p2 p3 r40),ay,.adj [.keep [0,1,2,3,4,18,19,20,21,22] [1676]],.cut (.exit 8) (Z26 p0 p1 p2 p3 r48),.reg (e 4),.deep 1 [.keep [0,1,2,3,4,18,20,24] [1676]] .normal (Z29 p0 p1 p2 p3 r48 r53),.deep 1 [.keep [0,1,3,4,18,20,24] [1676]] .normal (Z27 p0 p1 p2 p3 r48 r53 r59),.reg [aa,aa,aa,aa,aa,aa,aa, { h:=.pick true }],ah,.reg [aa,aa,aa,aa,aa, { h:=.kcall 1676 (r63.map Z05) }]] func106 (.c8 (Z01 Z03 hb1) (Z01 Z03 hb20) ((ih.slices_symMergeCmpFunc_api_Term_B4) p0 p1 p2 p3 r40 hr40) (Ziw.of_loop ((ih.slices_symMergeCmpFunc_api_Term_L5) p0 p1 p2 p3 r40.1 r40.2 r48 hr48)) ((ih.slices_symMergeCmpFunc_api_Term_B6) p0 p1 p2 p3 r48 r53 hr53) ((ih.slices_symMergeCmpFunc_api_Term_B7) p0 p1 p2 p3 r48 r53 r59 hr59) (Zj8 Z06 hb60) (Zj8 Z06 hb60) (.c4 (Zj8 Z06 hb60) (Zj8 Z06 hb60) (Zj8 Z06 hb61) ((ih.slices_symMergeCmpFunc_api_Term) r59 (wrap .i64 (Int.fdiv (wrap .u64 (wrap .i64 (p1+p3))) (yh 1))) (wrap .i64 ((wrap .i64 ((wrap .i64 (Int.fdiv (wrap .u64 (wrap .i64 (p1+p3))) (yh 1)))+p2)) - r48)) p3 r63 hr63) (.cons (by simp only [xg,hw62]:((p0.map Z05).length)=(r59.map Z05).length) y5)))
      ·obtain rfl:=yl h
       exact yc 1676 [.reg (e 4),ae,.reg (e 4),ae,.reg (e 7),.reg (e 4),af,.deep 1 [.keep [0,1,2,3,4,18,19] [1676]] .normal (Z28 p0 p1 p2 p3 r40),ay,.adj [.keep [0,1,2,3,4,18,19,20,21,22] [1676]],.cut (.exit 8) (Z26 p0 p1 p2 p3 r48),.reg (e 4),.deep 1 [.keep [0,1,2,3,4,18,20,24] [1676]] .normal (Z29 p0 p1 p2 p3 r48 r53),.deep 1 [.keep [0,1,3,4,18,20,24] [1676]] .normal (Z27 p0 p1 p2 p3 r48 r53 r59),.reg [aa,aa,aa,aa,aa,aa,aa, { h:=.pick true }],ae] func106 (.c8 (Z01 Z03 hb1) (Z01 Z03 hb20) ((ih.slices_symMergeCmpFunc_api_Term_B4) p0 p1 p2 p3 r40 hr40) (Ziw.of_loop ((ih.slices_symMergeCmpFunc_api_Term_L5) p0 p1 p2 p3 r40.1 r40.2 r48 hr48)) ((ih.slices_symMergeCmpFunc_api_Term_B6) p0 p1 p2 p3 r48 r53 hr53) ((ih.slices_symMergeCmpFunc_api_Term_B7) p0 p1 p2 p3 r48 r53 r59 hr59) (Zj8 Z06 hb60) (Zj8 Z06 hb60) (.c2 (Zj8 Z06 hb60) (Zj8 Z06 hb60) (.cons (Z01 Z06 hb61) y5)))
     ·obtain rfl:=yl h
      exact yc 1676 [.reg (e 4),ae,.reg (e 4),ae,.reg (e 7),.reg (e 4),af,.deep 1 [.keep [0,1,2,3,4,18,19] [1676]] .normal (Z28 p0 p1 p2 p3 r40),ay,.adj [.keep [0,1,2,3,4,18,19,20,21,22] [1676]],.cut (.exit 8) (Z26 p0 p1 p2 p3 r48),.reg (e 4),.deep 1 [.keep [0,1,2,3,4,18,20,24] [1676]] .normal (Z29 p0 p1 p2 p3 r48 r53),.deep 1 [.keep [0,1,3,4,18,20,24] [1676]] .normal (Z27 p0 p1 p2 p3 r48 r53 r59),.reg [aa,aa,aa,aa,w0,w0,w0, { h:=.pick false }],ae] func106 (.c8 (Z01 Z03 hb1) (Z01 Z03 hb20) ((ih.slices_symMergeCmpFunc_api_Term_B4) p0 p1 p2 p3 r40 hr40) (Ziw.of_loop ((ih.slices_symMergeCmpFunc_api_Term_L5) p0 p1 p2 p3 r40.1 r40.2 r48 hr48)) ((ih.slices_symMergeCmpFunc_api_Term_B6) p0 p1 p2 p3 r48 r53 hr53) ((ih.slices_symMergeCmpFunc_api_Term_B7) p0 p1 p2 p3 r48 r53 r59 hr59) (Z01 Z06 hb60) (Z01 Z06 hb60) (.c2 (Z01 Z06 hb60) (Z01 Z06 hb60) (.cons yf y5)))
theorem Z4s [Thr] (N:Nat) (p0:(List Z00)) (p1:Int) (p2:Int) (p3:Int) (r:(List Z00)) (h:slices_symMergeCmpFunc_api_Term N p0 p1 p2 p3=some r):KSpec prog 106 [.v (.one (.own 7 (p0.map Z05))),vi p1,vi p2,vi p3,.v (.one (.fn 38 []))] 7 (r.map Z05):=(Z74 N).slices_symMergeCmpFunc_api_Term p0 p1 p2 p3 r h
def Z9k [Thr] (p0:(List Z00)) (p1:Int) (a547:(List Z00)) (v7:Int) (v8:Int):St:={ fr:=([(.v (.one (.vw 547 7 0 ((p0.map Z05).length)))),(ai p1),(.v (.one (.fn 38 []))),.bad,.bad,.bad,(ai (20:Int)),(ai v7),(ai v8)]++bads 54),obs:=[(547,.arr 7 (a547.map Z05) true)] }
def Z53 [Thr] (p0:(List Z00)) (p1:Int) (o:(List Z00) × Int):St:={ fr:=([(.v (.one (.vw 547 7 0 ((p0.map Z05).length)))),(ai p1),(.v (.one (.fn 38 []))),.bad,.bad,.bad,(ai (20:Int)),(ai o.2)]++bads 55),obs:=[(547,.arr 7 (o.1.map Z05) true)] }
def Z1e:Nat→(List Z00)→Int→(List Z00)→Int→Int→Option ((List Z00) × Int)
 |0,_,_,_,_,_=>none
 |N+1,p0,p1,a547,v7,v8=>if v8≤p1 then if p0.length=a547.length then (Z0y N a547 v7 v8).bind fun r3=>Z1e N p0 p1 r3 v8 (wrap .i64 (v8+(20:Int))) else none else some (a547,v7)
theorem Z8d [Thr]:∀ (N:Nat) (p0:(List Z00)) (p1:Int) (a547:(List Z00)) (v7:Int) (v8:Int) (r:((List Z00) × Int)),Z1e N p0 p1 a547 v7 v8=some r→Zj0 prog 547 (partOf f77 [1,1,0,0,0]) (Z9k p0 p1 a547 v7 v8) (.exit 0) (Z53 p0 p1 r):=by
 intro N
 induction N with
 |zero=>intro p0 p1 a547 v7 v8 r h; cases h
 |succ N ih =>
  intro p0 p1 a547 v7 v8 r h
  rw [Z1e] at h
  try simp only [rq_len] at h
  rcases Z07 h with ⟨hb1,h⟩ | ⟨hb1,h⟩
  ·obtain ⟨hw2,h⟩:=Z1p h
   obtain ⟨r3,hr3,h⟩:=yj h
   exact Zj0.again (y8 [ay,ah,.reg [aa,aa,aa,aa, { h:=.kcall 547 (r3.map Z05) }],af,.reg (e 4),.adj [.keep [0,1,2,6,7,8] [547]]] (.c2 (Zj8 Z06 hb1) (Z3t N a547 v7 v8 r3 hr3) (.cons (by simp only [xg,hw2]:((p0.map Z05).length)=(a547.map Z05).length) y5))) (ih p0 p1 r3 v8 (wrap .i64 (v8+(20:Int))) _ h)
  ·obtain rfl:=yl h
   exact Zj0.out (y8 [ay,ae,.adj [.keep [0,1,2,6,7] [547]]] (.cons (Z01 Z06 hb1) y5)) (by simp)
def Z9g [Thr] (p0:(List Z00)) (p1:Int) (a547:(List Z00)) (v6:Int) (a547':(List Z00)) (v7:Int) (v8:Int):St:={ fr:=([(.v (.one (.vw 547 7 0 ((p0.map Z05).length)))),(ai p1),(.v (.one (.fn 38 []))),.bad,.bad,.bad,(ai v6),(ai v7),(ai v8)]++bads 54),obs:=[(547,.arr 7 (a547'.map Z05) true)] }
def Z2z [Thr] (p0:(List Z00)) (p1:Int) (a547:(List Z00)) (v6:Int) (o:(List Z00) × Int):St:={ fr:=([(.v (.one (.vw 547 7 0 ((p0.map Z05).length)))),(ai p1),(.v (.one (.fn 38 []))),.bad,.bad,.bad,(ai v6),(ai o.2)]++bads 55),obs:=[(547,.arr 7 (o.1.map Z05) true)] }
def Z0z:Nat→(List Z00)→Int→(List Z00)→Int→(List Z00)→Int→Int→Option ((List Z00) × Int)
 |0,_,_,_,_,_,_,_=>none
 |N+1,p0,p1,a547,v6,a547',v7,v8=>if v8≤p1 then if p0.length=a547'.length then (slices_symMergeCmpFunc_api_Term N a547' v7 (wrap .i64 (v7+v6)) v8).bind fun r12=>Z0z N p0 p1 a547 v6 r12 v8 (wrap .i64 (v8+(wrap .i64 ((2:Int) * v6)))) else none else some (a547',v7)
theorem Z4l [Thr]:∀ (N:Nat) (p0:(List Z00)) (p1:Int) (a547:(List Z00)) (v6:Int) (a547':(List Z00)) (v7:Int) (v8:Int) (r:((List Z00) × Int)),Z0z N p0 p1 a547 v6 a547' v7 v8=some r→Zj0 prog 547 (partOf f77 [1,1,1,1,0,0,1,0,1,0,0,0]) (Z9g p0 p1 a547 v6 a547' v7 v8) (.exit 4) (Z2z p0 p1 a547 v6 r):=by
 intro N
 induction N with
 |zero=>intro p0 p1 a547 v6 a547' v7 v8 r h; cases h
 |succ N ih =>
  intro p0 p1 a547 v6 a547' v7 v8 r h
  rw [Z0z] at h
  try simp only [rq_len] at h
  rcases Z07 h with ⟨hb10,h⟩ | ⟨hb10,h⟩
  ·obtain ⟨hw11,h⟩:=Z1p h
   obtain ⟨r12,hr12,h⟩:=yj h
   exact Zj0.again (y8 [ay,ah,.reg [aa,aa,aa,aa,aa,aa,aa, { h:=.kcall 547 (r12.map Z05) }],af,.reg (e 5),.adj [.keep [0,1,2,6,7,8] [547]]] (.c2 (Zj8 Z06 hb10) (Z4s N a547' v7 (wrap .i64 (v7+v6)) v8 r12 hr12) (.cons (by simp only [xg,hw11]:((p0.map Z05).length)=(a547'.map Z05).length) y5))) (ih p0 p1 a547 v6 r12 v8 (wrap .i64 (v8+(wrap .i64 ((2:Int) * v6)))) _ h)
  ·obtain rfl:=yl h
   exact Zj0.out (y8 [ay,ae,.adj [.keep [0,1,2,6,7] [547]]] (.cons (Z01 Z06 hb10) y5)) (by simp)
def Z9m [Thr] (p0:(List Z00)) (p1:Int) (a547:(List Z00)) (v6:Int):St:={ fr:=([(.v (.one (.vw 547 7 0 ((p0.map Z05).length)))),(ai p1),(.v (.one (.fn 38 []))),.bad,.bad,.bad,(ai v6)]++bads 56),obs:=[(547,.arr 7 (a547.map Z05) true)] }
def Z57 [Thr] (p0:(List Z00)) (p1:Int) (o:(List Z00)):St:={ fr:=bads 63,obs:=[(547,.arr 7 (o.map Z05) true)] }
def Z10:Nat→(List Z00)→Int→(List Z00)→Int→Option (List Z00)
 |0,_,_,_,_=>none
 |N+1,p0,p1,a547,v6=>if v6 < p1 then (Z0z N p0 p1 a547 v6 a547 (0:Int) (wrap .i64 ((2:Int) * v6))).bind fun r14=>if (wrap .i64 (r14.2+v6)) < p1 then if p0.length=r14.1.length then (slices_symMergeCmpFunc_api_Term N r14.1 r14.2 (wrap .i64 (r14.2+v6)) p1).bind fun r17=>Z10 N p0 p1 r17 (wrap .i64 (v6 * (2:Int))) else none else Z10 N p0 p1 r14.1 (wrap .i64 (v6 * (2:Int))) else some a547
theorem Z8c [Thr]:∀ (N:Nat) (p0:(List Z00)) (p1:Int) (a547:(List Z00)) (v6:Int) (r:(List Z00)),Z10 N p0 p1 a547 v6=some r→Zj0 prog 547 (partOf f77 [1,1,1,1,0,0]) (Z9m p0 p1 a547 v6) (.exit 2) (Z57 p0 p1 r):=by
 intro N
 induction N with
 |zero=>intro p0 p1 a547 v6 r h; cases h
 |succ N ih =>
  intro p0 p1 a547 v6 r h
  rw [Z10] at h
  try simp only [rq_len] at h
  rcases Z07 h with ⟨hb9,h⟩ | ⟨hb9,h⟩
  ·obtain ⟨r14,hr14,h⟩:=yj h
   rcases Z07 h with ⟨hb15,h⟩ | ⟨hb15,h⟩
   ·obtain ⟨hw16,h⟩:=Z1p h
    obtain ⟨r17,hr17,h⟩:=yj h
    exact Zj0.again (y8 [ay,ah,.reg (e 4),.adj [.keep [0,1,2,6,7,8] [547]],.cut (.exit 4) (Z2z p0 p1 a547 v6 r14),.reg (e 4),ay,ah,.reg [aa,aa,aa,aa,aa, { h:=.kcall 547 (r17.map Z05) }],ay,.adj [.keep [0,1,2,6] [547]]] (.c4 (Zj8 Z06 hb9) (Ziw.of_loop (Z4l N p0 p1 a547 v6 a547 (0:Int) (wrap .i64 ((2:Int) * v6)) r14 hr14)) (Zj8 Z06 hb15) (Z4s N r14.1 r14.2 (wrap .i64 (r14.2+v6)) p1 r17 hr17) (.cons (by simp only [xg,hw16]:((p0.map Z05).length)=(r14.1.map Z05).length) y5))) (ih p0 p1 r17 (wrap .i64 (v6 * (2:Int))) _ h)
   ·exact Zj0.again (y8 [ay,ah,.reg (e 4),.adj [.keep [0,1,2,6,7,8] [547]],.cut (.exit 4) (Z2z p0 p1 a547 v6 r14),.reg (e 4),ay,ae,ay,.adj [.keep [0,1,2,6] [547]]] (.c2 (Zj8 Z06 hb9) (Ziw.of_loop (Z4l N p0 p1 a547 v6 a547 (0:Int) (wrap .i64 ((2:Int) * v6)) r14 hr14)) (.cons (Z01 Z06 hb15) y5))) (ih p0 p1 r14.1 (wrap .i64 (v6 * (2:Int))) _ h)
  ·obtain rfl:=yl h
   exact Zj0.out (y8 [ay,ae,.adj [.keep [] [547]]] (.cons (Z01 Z06 hb9) y5)) (by simp)
def Z4h (N:Nat) (p0:(List Z00)) (p1:Int):Option (List Z00):=(Z1e N p0 p1 p0 (0:Int) (20:Int)).bind fun r5=>if p0.length=r5.1.length then (Z0y N r5.1 r5.2 p1).bind fun r7=>(Z10 N p0 p1 r7 (20:Int)).bind fun r19=>some r19 else none
theorem Z9i [Thr] (N:Nat) (p0:(List Z00)) (p1:Int) (r:(List Z00)) (h:Z4h N p0 p1=some r):KSpec prog 77 [.v (.one (.own 7 (p0.map Z05))),vi p1,.v (.one (.fn 38 []))] 7 (r.map Z05):=by
 unfold Z4h at h
 try simp only [rq_len] at h
 obtain ⟨r5,hr5,h⟩:=yj h
 obtain ⟨hw6,h⟩:=Z1p h
 obtain ⟨r7,hr7,h⟩:=yj h
 obtain ⟨r19,hr19,h⟩:=yj h
 obtain rfl:=yl h
 exact yc 547 [ak,ay,.adj [.keep [0,1,2,6,7,8] [547]],.cut (.exit 0) (Z53 p0 p1 r5),.reg [aa,aa,aa,aa, { h:=.kcall 547 (r7.map Z05) }],.adj [.keep [0,1,2,6] [547]],.cut (.exit 2) (Z57 p0 p1 r19)] func77 (.c4 (Ziw.of_loop (Z8d N p0 p1 p0 (0:Int) (20:Int) r5 hr5)) (Z3t N r5.1 r5.2 p1 r7 hr7) (by simp only [xg,hw6]:((p0.map Z05).length)=(r5.1.map Z05).length) (Ziw.of_loop (Z8c N p0 p1 r7 (20:Int) r19 hr19)) y5)
def Z1j (N:Nat) (p0:(List Z00)):Option (List Z00):=(Z4h N p0 ((((p0.map Z02).length):Nat):Int)).bind fun r1=>some r1
theorem Z36 [Thr] (N:Nat) (p0:(List Z00)) (r:(List Z00)) (h:Z1j N p0=some r):KSpec prog 48 [.v (.one (.own 7 (p0.map Z05))),.v (.one (.fn 38 []))] 7 (r.map Z05):=by
 unfold Z1j at h
 try simp only [rq_len] at h
 obtain ⟨r1,hr1,h⟩:=yj h
 obtain rfl:=yl h
 exact yc 139 [.reg [aa,aa,aa,aa, { h:=.kcall 139 (r1.map Z05) }]] func48 (.c2 (Z9i N p0 ((((p0.map Z05).length):Nat):Int) r1 hr1) (rfl:(p0.map Z05).length=(p0.map Z05).length) y5)
def Z3d:Nat→(List Z00)→(List Z00)→Int→Option (List Z00)
 |0,_,_,_=>none
 |N+1,r3,a56,v11=>if v11 < (r3.length:Int) then (idx a56 v11).bind fun x5=>(order_own N x5).bind fun r6=>(idx a56 v11).bind fun x7=>Z3d N r3 (a56.set ((v11).toNat) r6) (wrap .i64 (v11+(1:Int))) else some a56
def Z86 (N:Nat) (p0:(List Z00)):Option (List Z00):=(Z1k N p0).bind fun r1=>if r1=true then some [] else (Z1t N p0).bind fun r3=>(Z3d N r3 r3 (0:Int)).bind fun r8=>(Z1j N r8).bind fun r9=>if r8.length=r9.length then some r9 else none
def Zc4 [Thr] (rows:List (List C)) (n:Nat) (v11:Int):St:={ fr:=([.bad,.bad,.bad,(.v (.one (.vw 56 7 0 rows.length)))]++bads 6++[(ai (n:Int)),(ai v11)]++bads 14),obs:=[(56,.arr 7 rows true)] }
def Z6v [Thr] (rows:List (List C)):St:={ fr:=([.bad,.bad,.bad,(.v (.one (.vw 56 7 0 rows.length)))]++bads 22),obs:=[(56,.arr 7 rows true)] }
theorem order_Sort_neg {N:Nat} {r3 a:List Z00} {v:Int} {r:List Z00} (h:Z3d N r3 a v=some r) (hv:v < 0):False:=by
 cases N with
 |zero=>rw [Z3d] at h; cases h
 |succ N =>
  rw [Z3d] at h
  rcases Z07 h with ⟨_,h⟩ | ⟨hb,h⟩
  ·obtain ⟨x,hx,h⟩:=yj h
   obtain ⟨h0,_⟩:=Z2c hx
   omega
  ·omega
theorem order_Sort_L0_q [Thr]:∀ (N:Nat) (r3:List Z00) (m:List (Bool × Z00)) (v:Int) (r:List Z00),Z3d N r3 (m.map (·.2)) v=some r→0≤v→v≤9223372036854775807→m.length=r3.length→(∀ (i:Nat) (y:Bool × Z00),m[i]? = some y→y.1=decide ((i:Int) < v)) →
  Zj0 prog 294 (partOf f23 [1,1,1,0,1,0,0]) (Zc4 (m.map Z0f) r3.length v) (.exit 0) (Z6v (r.map Z05)):=by
 intro N
 induction N with
 |zero=>intro r3 m v r h; rw [Z3d] at h; cases h
 |succ N ih =>
  intro r3 m v r h h0 h1 hl hf
  rw [Z3d] at h
  rcases Z07 h with ⟨hb3,h⟩ | ⟨hb3,h⟩
  ·obtain ⟨x4,hx4,h⟩:=yj h
   obtain ⟨r5,hr5,h⟩:=yj h
   obtain ⟨x6,hx6,h⟩:=yj h
   have hm4:=flags_at hf hx4
   rw [← List.map_set (f:=(·.2)) (a:=(true,r5))] at h
   have hw:=own_wrap h0 h1 (by
    rcases Int.lt_or_le (wrap .i64 (v+(1:Int))) 0 with hn | hn
    ·exact (order_Sort_neg h hn).elim
    ·exact hn)
   exact Zj0.again (y8 [ak,ah,af,.reg [aa,aa,aa,aa,aa, { cast:=some (.v (.agg (Ze5 x4))) }, yg [.v (.agg (Zaj r5))],aa, { post:=[.ob 56 (.arr 7 ((m.set ((v).toNat) (true,r5)).map Z0f) true),.slot 3 (.v (.one (.vw 56 7 0 (((m.set ((v).toNat) (true,r5)).map Z0f).length)))),.slot 14 (.v (.one (.vw 56 7 0 (((m.set ((v).toNat) (true,r5)).map Z0f).length)))),.slot 16 (.v (.one (.vw 56 7 0 (((m.set ((v).toNat) (true,r5)).map Z0f).length))))] }],af,.adj [.keep [3,10,11] [56]]] (.c8 (Zj8 Z06 hb3) (Z0m (r:=Z0f) hm4) (⟨Zjy (Z2c hm4).2.2,by decide⟩:(v).toNat < (m.map Z0f).length∧0≤7) (Zjx (fun l=>(.v (.agg [.d (l.getD 0 .nils),.d (l.getD 1 .nils),.d (l.getD 2 .nils),.d (l.getD 3 .nils),.d (l.getD 4 .nils),.d (l.getD 5 .nils),.d (l.getD 6 .nils)]))) (Z2c hm4).2.2 rfl:AV.Le (.v (.agg [.d (((m.map Z0f).getD ((v).toNat) []).getD 0 .nils),.d (((m.map Z0f).getD ((v).toNat) []).getD 1 .nils),.d (((m.map Z0f).getD ((v).toNat) []).getD 2 .nils),.d (((m.map Z0f).getD ((v).toNat) []).getD 3 .nils),.d (((m.map Z0f).getD ((v).toNat) []).getD 4 .nils),.d (((m.map Z0f).getD ((v).toNat) []).getD 5 .nils),.d (((m.map Z0f).getD ((v).toNat) []).getD 6 .nils)])) (.v (.agg (Ze5 x4)))) (order_own_q N x4 r5 hr5) (Z0m (r:=Z0f) hm4) (Zjy (Z2c hm4).2.2:(v).toNat < (m.map Z0f).length) (Z42 (Eq.symm (Z89 rfl (Z2c hm4).2.2 rfl (by show Zjw (Z2a x4) 0 [.int .i64 r5.fKind,.int .i64 r5.fN,.bool r5.fNum.fNeg,.pr Thr.n 1 (r5.fNum.fMag.map (rI .u32)),.int .u64 r5.fBits,.str r5.fBytes,.pr Thr.n 7 (r5.fArgs.map Z05)] 7=Z05 r5; rw [Z0c r5]; rfl))):Ob.Le (.arr 7 ((m.map Z0f).set ((v).toNat) (Zjw ((m.map Z0f).getD ((v).toNat) []) 0 [.int .i64 r5.fKind,.int .i64 r5.fN,.bool r5.fNum.fNeg,.pr Thr.n 1 (r5.fNum.fMag.map (rI .u32)),.int .u64 r5.fBits,.str r5.fBytes,.pr Thr.n 7 (r5.fArgs.map Z05)] 7)) true) (.arr 7 ((m.set ((v).toNat) (true,r5)).map Z0f) true)) (.c2 (AV.Le.of_eq (by simp only [xg,qp]):AV.Le (.v (.one (.vw 56 7 0 ((m.map Z0f).length)))) (.v (.one (.vw 56 7 0 (((m.set ((v).toNat) (true,r5)).map Z0f).length))))) (AV.Le.of_eq (by simp only [xg,qp]):AV.Le (.v (.one (.vw 56 7 0 ((m.map Z0f).length)))) (.v (.one (.vw 56 7 0 (((m.set ((v).toNat) (true,r5)).map Z0f).length))))) (.cons (AV.Le.of_eq (by simp only [xg,qp]):AV.Le (.v (.one (.vw 56 7 0 ((m.map Z0f).length)))) (.v (.one (.vw 56 7 0 (((m.set ((v).toNat) (true,r5)).map Z0f).length))))) y5)))) (ih r3 (m.set ((v).toNat) (true,r5)) (wrap .i64 (v+(1:Int))) _ h (by omega) (by omega) (by rw [qp]; exact hl) (by rw [hw.1]; exact flags_set h0 hf))
  ·obtain rfl:=yl h
   rw [← flags_all (by omega) hf]
   exact Zj0.out (y8 [ak,ae,.adj [.keep [3] [56]]] (.cons (Z01 Z06 hb3) y5)) (by simp)
def sQ [Thr]:List Z00→C
 |[]=>.sl 7 []
 |x::r=>.pr Thr.n 7 ((x::r).map Z05)
theorem contains_q [Thr] (N:Nat) (p0:(List Z00)) (r:Bool) (h:Z1k N p0=some r):Ziz prog 44 [dv (.mk false Thr.n (.sl 7 (p0.map Z02))),.v (.one (.fn 45 []))] [dv (.bool r)]:=by
 refine Ziz.le ?_ (Z6m N p0 r h)
 exact ⟨PV.Le.one (OC.Le.dat (C.Le.mk _ _ _)),PV.Le.refl _,trivial⟩
theorem own_new {w:World} {F:Nat→Prop} {n sz:Nat} {rows:List (List C)} (hne:rows ≠ []) {vs:List Value} {bs:List (Option Nat)} (hb:∀ b,some b ∈ bs→n≤b) (hp:PVs.Rep w F [.v (.one (.own sz rows))] vs bs):PVs.Rep w (fun b=>F b∨some b ∈ bs) [dv (.pr n sz rows)] vs []:=by
 cases vs with
 |nil=>exact hp.elim
 |cons v vs =>
  obtain ⟨b1,b2,rfl,h2,h3⟩:=hp
  cases vs with
  |cons _ _=>simp only [PVs.Rep] at h3
  |nil =>
   have h3:b2=[]:=h3
   subst h3
   rw [xm] at hb ⊢
   exact ⟨[],[],rfl,⟨rfl,own_pr h2 hne hb⟩,rfl⟩
theorem order_Sort_q [Thr] (N:Nat) (p0:(List Z00)) (r:(List Z00)) (h:Z86 N p0=some r):Ziz prog 23 [dv (.mk false Thr.n (.sl 7 (p0.map Z02)))] [dv (sQ r)]:=by
 unfold Z86 at h
 obtain ⟨r1,hr1,h⟩:=yj h
 rcases Z07 h with ⟨hb2,h⟩ | ⟨hb2,h⟩
 ·obtain rfl:=yl h
  exact y9 294 [ak,.reg [aa, yg [dv (.bool r1)]],ah,ak,.adj [.slot 2 (da (.sl 7 []))]] func23 (.c2 (contains_q N p0 r1 hr1) (Zj8 Z04 hb2) (.cons (AV.Le.one (AC.Le.d (C.Le.nils 7)):AV.Le (da (.nils)) (da (.sl 7 []))) y5))
 ·obtain ⟨r3,hr3,h⟩:=yj h
  obtain ⟨r8,hr8,h⟩:=yj h
  obtain ⟨r9,hr9,h⟩:=yj h
  obtain ⟨hw10,h⟩:=Z1p h
  obtain rfl:=yl h
  have e0:(r3.map fun x=>((false,x):Bool × Z00)).map (·.2)=r3:=by rw [zz]; exact List.map_id' _
  have e1:(r3.map fun x=>((false,x):Bool × Z00)).map Z0f=r3.map Z2a:=by rw [zz]; rfl
  have hloop:=order_Sort_L0_q N r3 (r3.map fun x=>(false,x)) 0 r8 (by rw [e0]; exact hr8) (by omega) (by omega) (by rw [xg]) (flags_none r3)
  rw [e1] at hloop
  by_cases hne:r9=[]
  ·subst hne
   exact y9 294 [ak,.reg [aa, yg [dv (.bool r1)]],ae,.reg [aa, { h:=.call 56 [.v (.one (.own 7 (r3.map Z2a)))] [] },aa],.reg [aa, { cast:=some (ai (r3.length:Int)) },aa],.adj [.keep [3,10,11] [56]],.cut (.exit 0) (Z6v (r8.map Z05)),.reg [aa, { h:=.kcall 56 [],post:=[.slot 3 (.v (.one (.vw 56 7 0 0))),.slot 23 (.v (.one (.vw 56 7 0 0)))] }],af,.adj [.fz 56]] func23 (.c8 (contains_q N p0 r1 hr1) (Z01 Z04 hb2) (clone_args N p0 r3 hr3:Ziz prog 46 [dv (.mk false Thr.n (.sl 7 (p0.map Z02)))] [.v (.one (.own 7 (r3.map Z2a)))]) (Zjk (r:=Z2a) (xs:=r3)) (Ziw.of_loop hloop:Ziw prog 294 (partOf f23 [1,1,1,0,1,0]) (Zc4 (r3.map Z2a) r3.length (0:Int)) (.exit 0) (Z6v (r8.map Z05))) (Z36 N r8 [] hr9) (rfl:(r8.map Z05).length=(r8.map Z05).length) (AV.Le.of_eq (by rw [xg,hw10]; rfl):AV.Le (.v (.one (.vw 56 7 0 ((r8.map Z05).length)))) (.v (.one (.vw 56 7 0 0)))) (.c4 (AV.Le.of_eq (by rw [xg,hw10]; rfl):AV.Le (.v (.one (.vw 56 7 0 ((r8.map Z05).length)))) (.v (.one (.vw 56 7 0 0)))) (⟨rfl,rfl⟩:(7:Nat)=7∧0=0) (⟨rfl,rfl⟩:(7:Nat)=7∧0=0) (⟨rfl,rfl⟩:(7:Nat)=7∧0=0) (.cons (⟨rfl,rfl⟩:(7:Nat)=7∧0=0) y5)))
  ·have hq:r9.map Z05 ≠ []:=by simpa using hne
   have e:sQ r9=.pr Thr.n 7 (r9.map Z05):=by cases r9 with
    |nil=>exact (hne rfl).elim
    |cons=>rfl
   rw [e]
   refine Ziz.new Thr.n (Ziz.of_run 294 [ak,.reg [aa, yg [dv (.bool r1)]],ae,.reg [aa, { h:=.call 56 [.v (.one (.own 7 (r3.map Z2a)))] [] },aa],.reg [aa, { cast:=some (ai (r3.length:Int)) },aa],.adj [.keep [3,10,11] [56]],.cut (.exit 0) (Z6v (r8.map Z05)),.reg [aa, { h:=.kcall 56 (r9.map Z05),post:=[.slot 3 (.v (.one (.vw 56 7 0 ((r9.map Z05).length)))),.slot 23 (.v (.one (.vw 56 7 0 ((r9.map Z05).length))))] }],af] func23 (by kernel_rfl:runF prog f23 [dv (.mk false Thr.n (.sl 7 (p0.map Z02)))] 294 _=some ([.v (.one (.own 7 (r9.map Z05)))],_)) (.c8 (contains_q N p0 r1 hr1) (Z01 Z04 hb2) (clone_args N p0 r3 hr3:Ziz prog 46 [dv (.mk false Thr.n (.sl 7 (p0.map Z02)))] [.v (.one (.own 7 (r3.map Z2a)))]) (Zjk (r:=Z2a) (xs:=r3)) (Ziw.of_loop hloop:Ziw prog 294 (partOf f23 [1,1,1,0,1,0]) (Zc4 (r3.map Z2a) r3.length (0:Int)) (.exit 0) (Z6v (r8.map Z05))) (Z36 N r8 r9 hr9) (rfl:(r8.map Z05).length=(r8.map Z05).length) (AV.Le.of_eq (by simp only [xg,hw10]):AV.Le (.v (.one (.vw 56 7 0 ((r8.map Z05).length)))) (.v (.one (.vw 56 7 0 ((r9.map Z05).length))))) (.c2 (AV.Le.of_eq (by simp only [xg,hw10]):AV.Le (.v (.one (.vw 56 7 0 ((r8.map Z05).length)))) (.v (.one (.vw 56 7 0 ((r9.map Z05).length))))) (rfl:(r9.map Z05).length=(r9.map Z05).length) y5))) rfl (fun w F vs bs hr=>old_lo hr) fun w F vs bs ho hb hp=>own_new hq hb hp
theorem sQ_le [Thr] (r:List Z00):C.Le (sQ r) (.sl 7 (r.map Z02)):=by
 cases r with
 |nil=>exact C.Le.refl _
 |cons x r=>exact C.Le.pr (Zgx (x::r))
theorem C.Le.mk0 (c:C):C.Le c (.mk false 0 c):=fun w F v h=>by
 simp only [C.Rep]
 exact ⟨.inl trivial,C.Rep.mono (fun b hb=>⟨hb,fun e=>by cases e⟩) (Zj3.refl _ _) c v h⟩
theorem Zfr (N:Nat) (p0:(List Z00)) (r:(List Z00)) (h:Z86 N p0=some r):Ziz prog 23 [dv (.sl 7 (p0.map Z02))] [dv (.sl 7 (r.map Z02))]:=by
 letI:Thr:=⟨0⟩
 have k:=order_Sort_q N p0 r h
 refine Ziz.back 0 (Ziz.le (args:=[dv (.sl 7 (p0.map Z02))]) (args':=[dv (.mk false 0 (.sl 7 (p0.map Z02)))]) ⟨PV.Le.one (OC.Le.dat (C.Le.mk0 _)),trivial⟩ k) rfl (fun _ _ _ _ _=>.inl rfl) fun w F vs bs _ hp=>?_
 cases vs with
 |nil=>exact hp.elim
 |cons v vs =>
  obtain ⟨b1,b2,rfl,⟨rfl,hc⟩,h3⟩:=hp
  exact ⟨[],b2,rfl,⟨rfl,sQ_le r w F v hc⟩,h3⟩
def Ze4 (p0:Z00) (v3:Int) (v4:Int):St:={ fr:=([.bad,(.v (.one (.ptr 1 0))),.bad,(ai v3),(ai v4)]++bads 44),obs:=[(1,.var (Z0d p0))] }
def Z6e (p0:Z00) (o:Int):St:={ fr:=([.bad,.bad,.bad,(ai o)]++bads 45),obs:=[] }
def Zdo (p0:Z00):St:={ fr:=([.bad,(.v (.one (.ptr 1 0))),.bad,(ai (1:Int))]++bads 45),obs:=[(1,.var (Z0d p0))] }
def Z9e (p0:Z00) (o:Int):St:={ fr:=([.bad,.bad,.bad,(ai o)]++bads 45),obs:=[] }
def Zag (r:Int):List PV:=[vi r]
mutual
def beehiveref3_Weight_L1:Nat→Z00→Int→Int→Option (Int)
 |0,_,_,_=>none
 |N+1,p0,v3,v4=>if v4 < (p0.fArgs.length:Int) then if v3≤(300:Int) then (idx p0.fArgs v4).bind fun x6=>(beehiveref3_Weight N x6).bind fun r7=>beehiveref3_Weight_L1 N p0 (wrap .i64 (v3+r7)) (wrap .i64 (v4+(1:Int))) else some v3 else some v3
def beehiveref3_Weight_B0:Nat→Z00→Option (Int)
 |0,_=>none
 |N+1,p0=>if p0.fKind=(2:Int) then some (wrap .i64 ((1:Int)+(if (300:Int) < (p0.fNum.fMag.length:Int) then (300:Int) else (p0.fNum.fMag.length:Int)))) else if p0.fKind=(9:Int) then some (wrap .i64 ((1:Int)+(if (300:Int) < (wrap .i64 (Int.tdiv (p0.fBytes.size:Int) (8:Int))) then (300:Int) else wrap .i64 (Int.tdiv (p0.fBytes.size:Int) (8:Int))))) else if p0.fKind=(6:Int) then (beehiveref3_Weight_L1 N p0 (1:Int) (0:Int)).bind fun r8=>some r8 else if p0.fKind=(8:Int) then (beehiveref3_Weight_L1 N p0 (1:Int) (0:Int)).bind fun r10=>some r10 else some (1:Int)
def beehiveref3_Weight:Nat→Z00→Option Int
 |0,_=>none
 |N+1,p0=>(beehiveref3_Weight_B0 N p0).bind fun r11=>some (if (301:Int) < r11 then (301:Int) else r11)
end
structure Zeh (N:Nat):Prop where
 beehiveref3_Weight_L1:∀ (p0:Z00) (v3:Int) (v4:Int) (r:(Int)),beehiveref3_Weight_L1 N p0 v3 v4=some r→Zj0 prog 473 (partOf f78 [1,1,0,1,0,1,1,1,1,1,0,1,0,0]) (Ze4 p0 v3 v4) (.exit 1) (Z6e p0 r)
 beehiveref3_Weight_B0:∀ (p0:Z00) (r:(Int)),beehiveref3_Weight_B0 N p0=some r→Ziw prog 473 (partOf f78 [1,1,0]) (Zdo p0 ) .normal (Z9e p0 r)
 beehiveref3_Weight:∀ (p0:Z00) (r:Int),beehiveref3_Weight N p0=some r→Ziz prog 78 [.v (.agg (Z0a p0))] (Zag r)
theorem Zbj:∀ N,Zeh N:=by
 intro N
 induction N with
 |zero =>
  constructor
  ·intro p0 v3 v4 r h; rw [beehiveref3_Weight_L1] at h; cases h
  ·intro p0 r h; rw [beehiveref3_Weight_B0] at h; cases h
  ·intro p0 r h; rw [beehiveref3_Weight] at h; cases h
 |succ N ih =>
  constructor
  ·intro p0 v3 v4 r h
   rw [beehiveref3_Weight_L1] at h
   rcases Z07 h with ⟨hb4,h⟩ | ⟨hb4,h⟩
   ·rcases Z07 h with ⟨hb5,h⟩ | ⟨hb5,h⟩
    ·obtain ⟨x6,hx6,h⟩:=yj h
     obtain ⟨r7,hr7,h⟩:=yj h
     exact Zj0.again (y8 [.reg [aa,aa,aa, { cast:=some (ai (p0.fArgs.length:Int)) },aa,aa,aa,aa, { h:=.pick true }],ah,.reg [aa,aa,aa,aa, { cast:=some (.v (.one (.fptr (Z13 x6)))) },aa, yg [vi r7],aa,aa],ay,.adj [.keep [1,3,4] [1]]] (.c8 y7 (Zjk (r:=Z02) (xs:=p0.fArgs)) (Zj8 Z06 hb4) (Zj8 Z06 hb4) (Zj8 Z06 hb4) (Zj8 Z06 hb5) y7 (Z0m (r:=Z02) hx6) (.c2 (Z0i hx6 (Z0b x6)) y7 (.cons ((ih.beehiveref3_Weight) x6 r7 hr7) y5)))) (ih.beehiveref3_Weight_L1 p0 (wrap .i64 (v3+r7)) (wrap .i64 (v4+(1:Int))) _ h)
    ·obtain rfl:=yl h
     exact Zj0.out (y8 [.reg [aa,aa,aa, { cast:=some (ai (p0.fArgs.length:Int)) },aa,aa,aa,aa, { h:=.pick true }],ae,.adj [.keep [3] []]] (.c4 y7 (Zjk (r:=Z02) (xs:=p0.fArgs)) (Zj8 Z06 hb4) (Zj8 Z06 hb4) (.c2 (Zj8 Z06 hb4) (Z01 Z06 hb5) y5))) (by simp)
   ·obtain rfl:=yl h
    exact Zj0.out (y8 [.reg [aa,aa,aa, { cast:=some (ai (p0.fArgs.length:Int)) },aa,aa,w0,w0, { h:=.pick false }],ae,.adj [.keep [3] []]] (.c4 y7 (Zjk (r:=Z02) (xs:=p0.fArgs)) (Z01 Z06 hb4) (Z01 Z06 hb4) (.c2 (Z01 Z06 hb4) yf y5))) (by simp)
  ·intro p0 r h
   rw [beehiveref3_Weight_B0] at h
   rcases Z07 h with ⟨hb1,h⟩ | ⟨hb1,h⟩
   ·obtain rfl:=yl h
    exact y8 [af,af,ah,.reg [aa,aa,aa,aa, { cast:=some (ai (p0.fNum.fMag.length:Int)) },aa,aa,aa],.adj [.keep [3] []]] (.c4 y7 (Zj8 Z03 hb1) y7 (Zjk:AV.Le (ai (((p0.fNum.fMag.map (rI .u32)).length:Nat):Int)) (ai (p0.fNum.fMag.length:Int))) y5)
   ·rcases Z07 h with ⟨hb2,h⟩ | ⟨hb2,h⟩
    ·obtain rfl:=yl h
     exact y8 [af,af,ae,af,ah,.reg (e 8),.adj [.keep [3] []]] (.c4 y7 (Z01 Z03 hb1) (Zj8 Z03 hb2) y7 y5)
    ·rcases Z07 h with ⟨hb3,h⟩ | ⟨hb3,h⟩
     ·obtain ⟨r8,hr8,h⟩:=yj h
      obtain rfl:=yl h
      exact y8 [af,af,ae,af,ae,af,ah,ah,ak,.adj [.keep [1,3,4] [1]],.cut (.exit 1) (Z6e p0 r8),.adj [.keep [3] []]] (.c4 y7 (Z01 Z03 hb1) (Z01 Z03 hb2) (Zj8 Z03 hb3) (.c2 (Zj8 Z03 hb3) (Ziw.of_loop ((ih.beehiveref3_Weight_L1) p0 (1:Int) (0:Int) r8 hr8)) y5))
     ·rcases Z07 h with ⟨hb9,h⟩ | ⟨hb9,h⟩
      ·obtain ⟨r10,hr10,h⟩:=yj h
       obtain rfl:=yl h
       exact y8 [af,af,ae,af,ae,af,ae,af,ah,ak,.adj [.keep [1,3,4] [1]],.cut (.exit 1) (Z6e p0 r10),.adj [.keep [3] []]] (.c4 y7 (Z01 Z03 hb1) (Z01 Z03 hb2) (Z01 Z03 hb3) (.c2 (Zj8 Z03 hb9) (Ziw.of_loop ((ih.beehiveref3_Weight_L1) p0 (1:Int) (0:Int) r10 hr10)) y5))
      ·obtain rfl:=yl h
       exact y8 [af,af,ae,af,ae,af,ae,af,ae,.adj [.keep [3] []]] (.c4 y7 (Z01 Z03 hb1) (Z01 Z03 hb2) (Z01 Z03 hb3) (.cons (Z01 Z03 hb9) y5))
  ·intro p0 r h
   rw [beehiveref3_Weight] at h
   obtain ⟨r11,hr11,h⟩:=yj h
   obtain rfl:=yl h
   exact y9 473 [af,ak,.deep 1 [.keep [1,3] [1]] .normal (Z9e p0 r11),ay] func78 (.cons ((ih.beehiveref3_Weight_B0) p0 r11 hr11) y5)
theorem Za4 (N:Nat) (p0:Z00) (r:Int) (h:beehiveref3_Weight N p0=some r):Ziz prog 78 [.v (.agg (Z0a p0))] (Zag r):=(Zbj N).beehiveref3_Weight p0 r h
end Go.Proofs.Ytllcnlonkloabaa.Sh
