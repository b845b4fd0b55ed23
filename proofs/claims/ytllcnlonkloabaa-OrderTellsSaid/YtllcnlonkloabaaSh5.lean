import Derived.Test.YtllcnlonkloabaaSh4
set_option linter.unusedVariables false
set_option linter.unusedSimpArgs false
set_option maxRecDepth 100000
namespace Go.Proofs.Ytllcnlonkloabaa.Sh
open Go Lift Go.Proofs Go.Proofs.Try
open Go.IntKind (wrap)
def Zgb (p0:Z08) (p1:Z08):St:={ fr:=([.bad,.bad,(.v (.one (.ptr 2 0))),(.v (.one (.ptr 3 0)))]++bads 39),obs:=[(3,.var [.d (.bool p1.fNeg),.d (.sl 1 (p1.fMag.map (rI .u32)))]),(2,.var [.d (.bool p0.fNeg),.d (.sl 1 (p0.fMag.map (rI .u32)))])] }
def Z2d (p0:Z08) (p1:Z08) (o:Bool):St:={ fr:=([.bad,.bad,(.v (.one (.ptr 2 0))),(.v (.one (.ptr 3 0))),.bad,(da (.bool o))]++bads 37),obs:=[(3,.var [.d (.bool p1.fNeg),.d (.sl 1 (p1.fMag.map (rI .u32)))]),(2,.var [.d (.bool p0.fNeg),.d (.sl 1 (p0.fMag.map (rI .u32)))])] }
def Z5s:Nat→Z08→Z08→Option (Bool)
 |0,_,_=>none
 |N+1,p0,p1=>(Z38 N p0).bind fun r1=>if ¬ (r1=true) then some true else (Z38 N p1).bind fun r3=>some (!r3)
theorem Z2g:∀ (N:Nat) (p0:Z08) (p1:Z08) (r:(Bool)),Z5s N p0 p1=some r→Ziw prog 419 (partOf f111 [1,0,0,0]) (Zgb p0 p1 ) .normal (Z2d p0 p1 r):=by
 intro N
 induction N with
 |zero=>intro p0 p1 r h; cases h
 |succ N ih =>
  intro p0 p1 r h
  rw [Z5s] at h
  obtain ⟨r1,hr1,h⟩:=yj h
  rcases Z07 h with ⟨hb2,h⟩ | ⟨hb2,h⟩
  ·obtain rfl:=yl h
   exact y8 [.reg [aa, yg [dv (.bool r1)],aa,aa,w0,w0,w0, { h:=.pick true },aa],.adj [.keep [2,3,5] [3,2]]] (.c4 y7 (Z0k N p0 r1 hr1) (Zj8 (Z09 Z04) hb2) (Zj8 (Z09 Z04) hb2) (.c2 (Zj8 (Z09 Z04) hb2) (Zj8 (Z09 Z04) hb2) y5))
  ·obtain ⟨r3,hr3,h⟩:=yj h
   obtain rfl:=yl h
   exact y8 [.reg [aa, yg [dv (.bool r1)],aa,aa,aa, yg [dv (.bool r3)],aa, { h:=.pick false },aa],.adj [.keep [2,3,5] [3,2]]] (.c8 y7 (Z0k N p0 r1 hr1) (Z01 (Z09 Z04) hb2) y7 (Z01 (Z09 Z04) hb2) (Z0k N p1 r3 hr3) (Z01 (Z09 Z04) hb2) (Z01 (Z09 Z04) hb2) y5)
def Zgc (p0:Z08) (p1:Z08):St:={ fr:=([.bad,.bad,(.v (.one (.ptr 2 0))),(.v (.one (.ptr 3 0)))]++bads 39),obs:=[(3,.var [.d (.bool p1.fNeg),.d (.sl 1 (p1.fMag.map (rI .u32)))]),(2,.var [.d (.bool p0.fNeg),.d (.sl 1 (p0.fMag.map (rI .u32)))])] }
def Z2o (p0:Z08) (p1:Z08) (o:Bool):St:={ fr:=([.bad,.bad,(.v (.one (.ptr 2 0))),(.v (.one (.ptr 3 0)))]++bads 10++[(da (.bool o))]++bads 28),obs:=[(3,.var [.d (.bool p1.fNeg),.d (.sl 1 (p1.fMag.map (rI .u32)))]),(2,.var [.d (.bool p0.fNeg),.d (.sl 1 (p0.fMag.map (rI .u32)))])] }
def Z5k:Nat→Z08→Z08→Option (Bool)
 |0,_,_=>none
 |N+1,p0,p1=>if p0.fNeg=true then some (!p1.fNeg) else some false
theorem Z2s:∀ (N:Nat) (p0:Z08) (p1:Z08) (r:(Bool)),Z5k N p0 p1=some r→Ziw prog 419 (partOf f111 [1,0,0,1,1,0]) (Zgc p0 p1 ) .normal (Z2o p0 p1 r):=by
 intro N
 induction N with
 |zero=>intro p0 p1 r h; cases h
 |succ N ih =>
  intro p0 p1 r h
  rw [Z5k] at h
  rcases Z07 h with ⟨hb6,h⟩ | ⟨hb6,h⟩
  ·obtain rfl:=yl h
   exact y8 [.reg [aa,aa,aa,aa,aa,aa, { h:=.pick true },aa],.adj [.keep [2,3,14] [3,2]]] (.c4 y7 (Zj8 Z04 hb6) (Zj8 Z04 hb6) y7 (.c2 (Zj8 Z04 hb6) (Zj8 Z04 hb6) y5))
  ·obtain rfl:=yl h
   exact y8 [.reg [aa,aa,aa,w0,w0,w0, { h:=.pick false },aa],.adj [.keep [2,3,14] [3,2]]] (.c4 y7 (Z01 Z04 hb6) (Z01 Z04 hb6) (Z01 Z04 hb6) (.cons (Z01 Z04 hb6) y5))
def Zbf (p0:Z08) (p1:Z08):St:={ fr:=([.bad,.bad,(.v (.one (.ptr 2 0))),(.v (.one (.ptr 3 0)))]++bads 39),obs:=[(3,.var [.d (.bool p1.fNeg),.d (.sl 1 (p1.fMag.map (rI .u32)))]),(2,.var [.d (.bool p0.fNeg),.d (.sl 1 (p0.fMag.map (rI .u32)))])] }
def Zay (p0:Z08) (p1:Z08) (o:Unit):St:={ fr:=([.bad,.bad,(.v (.one (.ptr 2 0))),(.v (.one (.ptr 3 0)))]++bads 39),obs:=[(3,.var [.d (.bool p1.fNeg),.d (.sl 1 (p1.fMag.map (rI .u32)))]),(2,.var [.d (.bool p0.fNeg),.d (.sl 1 (p0.fMag.map (rI .u32)))])] }
def Zax (p0:Z08) (p1:Z08) (o:Int):St:={ fr:=(bads 4++[(ai o)]++bads 38),obs:=[] }
def Z1w:Nat→Z08→Z08→Option ((Unit) ⊕ (Int))
 |0,_,_=>none
 |N+1,p0,p1=>(Z5s N p0 p1).bind fun r4=>if r4=true then some (.inr (0:Int)) else (Z5k N p0 p1).bind fun r7=>if r7=true then some (.inr (-1:Int)) else if ¬ (p0.fNeg=true) then if p1.fNeg=true then some (.inr (1:Int)) else if p0.fNeg=true then (Z5d N p1.fMag p0.fMag).bind fun r12=>some (.inr r12) else some (.inl ()) else if p0.fNeg=true then (Z5d N p1.fMag p0.fMag).bind fun r14=>some (.inr r14) else some (.inl ())
theorem Z9t:∀ (N:Nat) (p0:Z08) (p1:Z08) (r:((Unit) ⊕ (Int))),Z1w N p0 p1=some r→match r with | .inl o=>Ziw prog 419 (partOf f111 [1,0]) (Zbf p0 p1 ) .normal (Zay p0 p1 o) | .inr o=>Ziw prog 419 (partOf f111 [1,0]) (Zbf p0 p1 ) .ret (Zax p0 p1 o):=by
 intro N
 induction N with
 |zero=>intro p0 p1 r h; cases h
 |succ N ih =>
  intro p0 p1 r h
  rw [Z1w] at h
  obtain ⟨r4,hr4,h⟩:=yj h
  rcases Z07 h with ⟨hb5,h⟩ | ⟨hb5,h⟩
  ·obtain rfl:=yl h
   exact y8 [.adj [.keep [2,3] [3,2]],.cut .normal (Z2d p0 p1 r4),ah,ak,.adj [.keep [4] []]] (.c2 (Z2g N p0 p1 r4 hr4) (Zj8 Z04 hb5) y5)
  ·obtain ⟨r7,hr7,h⟩:=yj h
   rcases Z07 h with ⟨hb8,h⟩ | ⟨hb8,h⟩
   ·obtain rfl:=yl h
    exact y8 [.adj [.keep [2,3] [3,2]],.cut .normal (Z2d p0 p1 r4),ae,.adj [.keep [2,3] [3,2]],.cut .normal (Z2o p0 p1 r7),ah,ak,.adj [.keep [4] []]] (.c4 (Z2g N p0 p1 r4 hr4) (Z01 Z04 hb5) (Z2s N p0 p1 r7 hr7) (Zj8 Z04 hb8) y5)
   ·rcases Z07 h with ⟨hb9,h⟩ | ⟨hb9,h⟩
    ·rcases Z07 h with ⟨hb10,h⟩ | ⟨hb10,h⟩
     ·obtain rfl:=yl h
      exact y8 [.adj [.keep [2,3] [3,2]],.cut .normal (Z2d p0 p1 r4),ae,.adj [.keep [2,3] [3,2]],.cut .normal (Z2o p0 p1 r7),ae,.reg [aa,aa,aa,aa,aa,aa, { h:=.pick true },aa],ah,ak,.adj [.keep [4] []]] (.c8 (Z2g N p0 p1 r4 hr4) (Z01 Z04 hb5) (Z2s N p0 p1 r7 hr7) (Z01 Z04 hb8) y7 (Zj8 (Z09 Z04) hb9) (Zj8 (Z09 Z04) hb9) y7 (.c2 (Zj8 (Z09 Z04) hb9) (Zj8 Z04 hb10) y5))
     ·rcases Z07 h with ⟨hb11,h⟩ | ⟨hb11,h⟩
      ·obtain ⟨r12,hr12,h⟩:=yj h
       obtain rfl:=yl h
       exact y8 [.adj [.keep [2,3] [3,2]],.cut .normal (Z2d p0 p1 r4),ae,.adj [.keep [2,3] [3,2]],.cut .normal (Z2o p0 p1 r7),ae,.reg [aa,aa,aa,aa,aa,aa, { h:=.pick true },aa],ae,ay,ah,.reg [aa,aa,aa,aa, yg [vi r12],aa],.adj [.keep [4] []]] (.c8 (Z2g N p0 p1 r4 hr4) (Z01 Z04 hb5) (Z2s N p0 p1 r7 hr7) (Z01 Z04 hb8) y7 (Zj8 (Z09 Z04) hb9) (Zj8 (Z09 Z04) hb9) y7 (.c4 (Zj8 (Z09 Z04) hb9) (Z01 Z04 hb10) y7 (Zj8 Z04 hb11) (.c2 y7 y7 (.cons (Z7b N p1.fMag p0.fMag r12 hr12) y5))))
      ·obtain rfl:=yl h
       exact y8 [.adj [.keep [2,3] [3,2]],.cut .normal (Z2d p0 p1 r4),ae,.adj [.keep [2,3] [3,2]],.cut .normal (Z2o p0 p1 r7),ae,.reg [aa,aa,aa,aa,aa,aa, { h:=.pick true },aa],ae,ay,ae,.adj [.keep [2,3] [3,2]]] (.c8 (Z2g N p0 p1 r4 hr4) (Z01 Z04 hb5) (Z2s N p0 p1 r7 hr7) (Z01 Z04 hb8) y7 (Zj8 (Z09 Z04) hb9) (Zj8 (Z09 Z04) hb9) y7 (.c4 (Zj8 (Z09 Z04) hb9) (Z01 Z04 hb10) y7 (Z01 Z04 hb11) y5))
    ·rcases Z07 h with ⟨hb13,h⟩ | ⟨hb13,h⟩
     ·obtain ⟨r14,hr14,h⟩:=yj h
      obtain rfl:=yl h
      exact y8 [.adj [.keep [2,3] [3,2]],.cut .normal (Z2d p0 p1 r4),ae,.adj [.keep [2,3] [3,2]],.cut .normal (Z2o p0 p1 r7),ae,.reg [aa,aa,aa,aa,w0,w0, { h:=.pick false },aa],ae,ay,ah,.reg [aa,aa,aa,aa, yg [vi r14],aa],.adj [.keep [4] []]] (.c8 (Z2g N p0 p1 r4 hr4) (Z01 Z04 hb5) (Z2s N p0 p1 r7 hr7) (Z01 Z04 hb8) y7 (Z01 (Z09 Z04) hb9) (Z01 (Z09 Z04) hb9) (Z01 (Z09 Z04) hb9) (.c4 yf y7 (Zj8 Z04 hb13) y7 (.c2 y7 (Z7b N p1.fMag p0.fMag r14 hr14) y5)))
     ·obtain rfl:=yl h
      exact y8 [.adj [.keep [2,3] [3,2]],.cut .normal (Z2d p0 p1 r4),ae,.adj [.keep [2,3] [3,2]],.cut .normal (Z2o p0 p1 r7),ae,.reg [aa,aa,aa,aa,w0,w0, { h:=.pick false },aa],ae,ay,ae,.adj [.keep [2,3] [3,2]]] (.c8 (Z2g N p0 p1 r4 hr4) (Z01 Z04 hb5) (Z2s N p0 p1 r7 hr7) (Z01 Z04 hb8) y7 (Z01 (Z09 Z04) hb9) (Z01 (Z09 Z04) hb9) (Z01 (Z09 Z04) hb9) (.c2 yf y7 (.cons (Z01 Z04 hb13) y5)))
def Zhx (r:Int):List PV:=[vi r]
def Z7i (N:Nat) (p0:Z08) (p1:Z08):Option Int:=(Z1w N p0 p1).bind fun r15=>(match r15 with | .inl r16=>(Z5d N p0.fMag p1.fMag).bind fun r18=>some r18 | .inr r17=>some r17)
theorem Z4n (N:Nat) (p0:Z08) (p1:Z08) (r:Int) (h:Z7i N p0 p1=some r):Ziz prog 111 [az p0.fNeg p0.fMag,az p1.fNeg p1.fMag] (Zhx r):=by
 unfold Z7i at h
 obtain ⟨r15,hr15,h⟩:=yj h
 rcases r15 with r16 | r17
 ·obtain ⟨r18,hr18,h⟩:=yj h
  obtain rfl:=yl h
  exact y9 419 [ay,.deep 1 [.keep [2,3] [3,2]] .normal (Zay p0 p1 r16),.reg [aa,aa,aa,aa, yg [vi r18],aa]] func111 (.c4 (Z9t N p0 p1 (.inl r16) hr15) y7 y7 (Z7b N p0.fMag p1.fMag r18 hr18) y5)
 ·obtain rfl:=yl h
  exact y9 419 [ay,.deep 1 [.keep [2,3] [3,2]] .ret (Zax p0 p1 r17)] func111 (.cons (Z9t N p0 p1 (.inr r17) hr15) y5)
def Zew (r:Int):List PV:=[dv (.int .u64 r)]
def Z4u (N:Nat) (p0:Int):Option Int:=(Z48 N p0).bind fun r1=>if r1=true then some (9221120237041090561:Int) else some p0
theorem Z0j (N:Nat) (p0:Int) (r:Int) (h:Z4u N p0=some r):Ziz prog 130 [dv (.int .u64 p0)] (Zew r):=by
 unfold Z4u at h
 obtain ⟨r1,hr1,h⟩:=yj h
 rcases Z07 h with ⟨hb2,h⟩ | ⟨hb2,h⟩
 ·obtain rfl:=yl h
  exact y9 142 [ak,.reg [aa, yg [dv (.bool r1)]],ah,ak] func130 (.c2 (Z0s N p0 r1 hr1) (Zj8 Z04 hb2) y5)
 ·obtain rfl:=yl h
  exact y9 142 [ak,.reg [aa, yg [dv (.bool r1)]],ae,af] func130 (.c2 (Z0s N p0 r1 hr1) (Z01 Z04 hb2) y5)
def Zem (p0:Int):St:={ fr:=([(da (.int .u64 p0)),.bad,(.v (.one (.ptr 2 0))),.bad,(ai (wrap .i64 ((wrap .i64 (band .u64 (Int.fdiv p0 (yh 52)) (2047:Int))) - (1075:Int)))),(da (.int .u64 (band .u64 p0 (4503599627370495:Int))))]++bads 91),obs:=[(2,.var [.d (.bool false),.d (.nils)])] }
def Z2f (p0:Int) (o:Int × Int):St:={ fr:=([(da (.int .u64 p0)),.bad,(.v (.one (.ptr 2 0))),.bad,(ai o.1),(da (.int .u64 o.2))]++bads 91),obs:=[(2,.var [.d (.bool false),.d (.nils)])] }
def Z3l:Nat→Int→Option (Int × Int)
 |0,_=>none
 |N+1,p0=>if (wrap .i64 ((wrap .i64 (band .u64 (Int.fdiv p0 (yh 52)) (2047:Int))) - (1075:Int)))=(-1075:Int) then some (wrap .i64 ((wrap .i64 ((wrap .i64 (band .u64 (Int.fdiv p0 (yh 52)) (2047:Int))) - (1075:Int)))+(1:Int)),band .u64 p0 (4503599627370495:Int)) else some (wrap .i64 ((wrap .i64 (band .u64 (Int.fdiv p0 (yh 52)) (2047:Int))) - (1075:Int)),bor .u64 (band .u64 p0 (4503599627370495:Int)) (4503599627370496:Int))
theorem Z2k:∀ (N:Nat) (p0:Int) (r:(Int × Int)),Z3l N p0=some r→Ziw prog 857 (partOf f142 [1,1,1,0]) (Zem p0 ) .normal (Z2f p0 r):=by
 intro N
 induction N with
 |zero=>intro p0 r h; cases h
 |succ N ih =>
  intro p0 r h
  rw [Z3l] at h
  rcases Z07 h with ⟨hb1,h⟩ | ⟨hb1,h⟩
  ·obtain rfl:=yl h
   exact y8 [af,ah,ay,.adj [.keep [0,2,4,5] [2]]] (.cons (Zj8 Z03 hb1) y5)
  ·obtain rfl:=yl h
   exact y8 [af,ae,ay,.adj [.keep [0,2,4,5] [2]]] (.cons (Z01 Z03 hb1) y5)
def Zel (p0:Int) (v4:Int) (v5:Int) (v6:Bool):St:={ fr:=([(da (.int .u64 p0)),.bad,(.v (.one (.ptr 2 0))),.bad,(ai v4),(da (.int .u64 v5)),(da (.bool v6))]++bads 90),obs:=[(2,.var [.d (.bool false),.d (.nils)])] }
def Z2e (p0:Int) (o:Int × Int × Bool):St:={ fr:=([(da (.int .u64 p0)),.bad,(.v (.one (.ptr 2 0))),.bad,(ai o.1),(da (.int .u64 o.2.1)),(da (.bool o.2.2))]++bads 90),obs:=[(2,.var [.d (.bool false),.d (.nils)])] }
def Z1n:Nat→Int→Int→Int→Bool→Option (Int × Int × Bool)
 |0,_,_,_,_=>none
 |N+1,p0,v4,v5,v6=>if v4 < (0:Int) then if v5 > (0:Int) then if v6=true then Z1n N p0 (wrap .i64 (v4+(1:Int))) (Int.fdiv v5 (yh 1)) true else Z1n N p0 (wrap .i64 (v4+(1:Int))) (Int.fdiv v5 (yh 1)) ((band .u64 v5 (1:Int)) == (1:Int)) else some (v4,v5,v6) else some (v4,v5,v6)
theorem Z2j:∀ (N:Nat) (p0:Int) (v4:Int) (v5:Int) (v6:Bool) (r:(Int × Int × Bool)),Z1n N p0 v4 v5 v6=some r→Zj0 prog 857 (partOf f142 [1,1,1,1,1,0,0,0]) (Zel p0 v4 v5 v6) (.exit 0) (Z2e p0 r):=by
 intro N
 induction N with
 |zero=>intro p0 v4 v5 v6 r h; cases h
 |succ N ih =>
  intro p0 v4 v5 v6 r h
  rw [Z1n] at h
  rcases Z07 h with ⟨hb3,h⟩ | ⟨hb3,h⟩
  ·rcases Z07 h with ⟨hb4,h⟩ | ⟨hb4,h⟩
   ·rcases Z07 h with ⟨hb5,h⟩ | ⟨hb5,h⟩
    ·exact Zj0.again (y8 [.reg [aa,aa,aa,aa,aa, { h:=.pick true }],ah,.reg [aa,aa,w0,w0,w0, { h:=.pick true },aa],ay,ay,.adj [.keep [0,2,4,5,6] [2]]] (.c8 (Zj8 Z06 hb3) (Zj8 Z06 hb3) (Zj8 Z06 hb3) (Zj8 Z06 hb4) (Zj8 Z04 hb5) (Zj8 Z04 hb5) (Zj8 Z04 hb5) (Zj8 Z04 hb5) y5)) (ih p0 (wrap .i64 (v4+(1:Int))) (Int.fdiv v5 (yh 1)) true _ h)
    ·exact Zj0.again (y8 [.reg [aa,aa,aa,aa,aa, { h:=.pick true }],ah,.reg [aa,aa,aa,aa,aa, { h:=.pick false },aa],ay,ay,.adj [.keep [0,2,4,5,6] [2]]] (.c8 (Zj8 Z06 hb3) (Zj8 Z06 hb3) (Zj8 Z06 hb3) (Zj8 Z06 hb4) (Z01 Z04 hb5) (Z01 Z04 hb5) (Z01 Z04 hb5) (Z01 Z04 hb5) y5)) (ih p0 (wrap .i64 (v4+(1:Int))) (Int.fdiv v5 (yh 1)) ((band .u64 v5 (1:Int)) == (1:Int)) _ h)
   ·obtain rfl:=yl h
    exact Zj0.out (y8 [.reg [aa,aa,aa,aa,aa, { h:=.pick true }],ae,.adj [.keep [0,2,4,5,6] [2]]] (.c4 (Zj8 Z06 hb3) (Zj8 Z06 hb3) (Zj8 Z06 hb3) (Z01 Z06 hb4) y5)) (by simp)
  ·obtain rfl:=yl h
   exact Zj0.out (y8 [.reg [aa,aa,aa,w0,w0, { h:=.pick false }],ae,.adj [.keep [0,2,4,5,6] [2]]] (.c4 (Z01 Z06 hb3) (Z01 Z06 hb3) (Z01 Z06 hb3) yf y5)) (by simp)
def Zen (p0:Int) (r6:(Int × Int × Bool)) (a54:(List Int)) (v10:Int) (v11:Int):St:={ fr:=([(da (.int .u64 p0)),.bad,(.v (.one (.ptr 2 0))),.bad,.bad,.bad,(da (.bool r6.2.2)),.bad,(.v (.one (.vw 54 1 0 ((a54.map (rI .u32)).length)))),(ai (Int.tmod (if (0:Int) > r6.1 then (0:Int) else r6.1) (32:Int))),(da (.int .u64 v10)),(ai v11)]++bads 85),obs:=[(54,.arr 1 (a54.map (rI .u32)) true),(2,.var [.d (.bool false),.d (.nils)])] }
def Z3e (p0:Int) (r6:(Int × Int × Bool)) (o:(List Int) × Int):St:={ fr:=([(da (.int .u64 p0)),.bad,(.v (.one (.ptr 2 0))),.bad,.bad,.bad,(da (.bool r6.2.2)),.bad,(.v (.one (.vw 54 1 0 ((o.1.map (rI .u32)).length)))),.bad,(da (.int .u64 o.2))]++bads 86),obs:=[(54,.arr 1 (o.1.map (rI .u32)) true),(2,.var [.d (.bool false),.d (.nils)])] }
def Z2l:Nat→Int→(Int × Int × Bool)→(List Int)→Int→Int→Option ((List Int) × Int)
 |0,_,_,_,_,_=>none
 |N+1,p0,r6,a54,v10,v11=>if v11 < (a54.length:Int) then (idx a54 v11).bind fun x13=>(shl .u64 (wrap .u64 x13) (Int.tmod (if (0:Int) > r6.1 then (0:Int) else r6.1) (32:Int))).bind fun x14=>(idx a54 v11).bind fun x15=>Z2l N p0 r6 (a54.set ((v11).toNat) (wrap .u32 (bor .u64 x14 v10))) (Int.fdiv (bor .u64 x14 v10) (yh 32)) (wrap .i64 (v11+(1:Int))) else some (a54,v10)
theorem Z41:∀ (N:Nat) (p0:Int) (r6:(Int × Int × Bool)) (a54:(List Int)) (v10:Int) (v11:Int) (r:((List Int) × Int)),Z2l N p0 r6 a54 v10 v11=some r→Zj0 prog 857 (partOf f142 [1,1,1,1,1,1,1,1,1,1,1,1,0,1,0,0]) (Zen p0 r6 a54 v10 v11) (.exit 2) (Z3e p0 r6 r):=by
 intro N
 induction N with
 |zero=>intro p0 r6 a54 v10 v11 r h; cases h
 |succ N ih =>
  intro p0 r6 a54 v10 v11 r h
  rw [Z2l] at h
  rcases Z07 h with ⟨hb12,h⟩ | ⟨hb12,h⟩
  ·obtain ⟨x13,hx13,h⟩:=yj h
   obtain ⟨x14,hx14,h⟩:=yj h
   obtain ⟨x15,hx15,h⟩:=yj h
   exact Zj0.again (y8 [.reg [aa,aa, { cast:=some (ai (a54.length:Int)) },aa],ah,.reg [aa,aa,aa, { cast:=some (da (.int .u32 x13)) },aa,aa, { h:=.flat (.int .u64 x14) },aa,aa,aa],.reg [aa,aa,aa,aa,aa, { post:=[.ob 54 (.arr 1 ((a54.set ((v11).toNat) (wrap .u32 (bor .u64 x14 v10))).map (rI .u32)) true),.slot 8 (.v (.one (.vw 54 1 0 (((a54.set ((v11).toNat) (wrap .u32 (bor .u64 x14 v10))).map (rI .u32)).length)))),.slot 63 (.v (.one (.vw 54 1 0 (((a54.set ((v11).toNat) (wrap .u32 (bor .u64 x14 v10))).map (rI .u32)).length)))),.slot 68 (.v (.one (.vw 54 1 0 (((a54.set ((v11).toNat) (wrap .u32 (bor .u64 x14 v10))).map (rI .u32)).length)))),.slot 77 (.v (.one (.vw 54 1 0 (((a54.set ((v11).toNat) (wrap .u32 (bor .u64 x14 v10))).map (rI .u32)).length))))] }],ay,ay,.adj [.keep [0,2,6,8,9,10,11] [54,2]]] (.c8 (Zjk:AV.Le (ai (((a54.map (rI .u32)).length:Nat):Int)) (ai (a54.length:Int))) (Zj8 Z06 hb12) (Z0m hx13:0≤v11∧v11 < (((a54.map (rI .u32)).length:Nat):Int)) (⟨Zjy (Z2c hx13).2.2,by decide⟩:(v11).toNat < (a54.map (rI .u32)).length∧0≤1) (Zjx (fun l=>(da (l.getD 0 .nils))) (Z2c hx13).2.2 rfl:AV.Le (da (((a54.map (rI .u32)).getD ((v11).toNat) []).getD 0 .nils)) (da (.int .u32 x13))) (shl_told hx14:Zjs prog (do eqGuard .shl 27 (.tmp 72) (.tmp 73) (.int .u64 (wrap .u64 x13)) (.int .i64 (Int.tmod (if (0:Int) > r6.1 then (0:Int) else r6.1) (32:Int))); binOp .shl 27 (.int .u64 (wrap .u64 x13)) (.int .i64 (Int.tmod (if (0:Int) > r6.1 then (0:Int) else r6.1) (32:Int))):Sem Value)=some (.int .u64 x14)) (Z0m hx15:0≤v11∧v11 < (((a54.map (rI .u32)).length:Nat):Int)) (Zjy (Z2c hx15).2.2:(v11).toNat < (a54.map (rI .u32)).length) (.c4 (set_ob (Z2c hx15).2.2 rfl rfl:Ob.Le (.arr 1 ((a54.map (rI .u32)).set ((v11).toNat) (Zjw ((a54.map (rI .u32)).getD ((v11).toNat) []) 0 [.int .u32 (wrap .u32 (bor .u64 x14 v10))] 1)) true) (.arr 1 ((a54.set ((v11).toNat) (wrap .u32 (bor .u64 x14 v10))).map (rI .u32)) true)) (AV.Le.of_eq (by simp only [xg,qp]):AV.Le (.v (.one (.vw 54 1 0 ((a54.map (rI .u32)).length)))) (.v (.one (.vw 54 1 0 (((a54.set ((v11).toNat) (wrap .u32 (bor .u64 x14 v10))).map (rI .u32)).length))))) (AV.Le.of_eq (by simp only [xg,qp]):AV.Le (.v (.one (.vw 54 1 0 ((a54.map (rI .u32)).length)))) (.v (.one (.vw 54 1 0 (((a54.set ((v11).toNat) (wrap .u32 (bor .u64 x14 v10))).map (rI .u32)).length))))) (AV.Le.of_eq (by simp only [xg,qp]):AV.Le (.v (.one (.vw 54 1 0 ((a54.map (rI .u32)).length)))) (.v (.one (.vw 54 1 0 (((a54.set ((v11).toNat) (wrap .u32 (bor .u64 x14 v10))).map (rI .u32)).length))))) (.cons (AV.Le.of_eq (by simp only [xg,qp]):AV.Le (.v (.one (.vw 54 1 0 ((a54.map (rI .u32)).length)))) (.v (.one (.vw 54 1 0 (((a54.set ((v11).toNat) (wrap .u32 (bor .u64 x14 v10))).map (rI .u32)).length))))) y5)))) (ih p0 r6 (a54.set ((v11).toNat) (wrap .u32 (bor .u64 x14 v10))) (Int.fdiv (bor .u64 x14 v10) (yh 32)) (wrap .i64 (v11+(1:Int))) _ h)
  ·obtain rfl:=yl h
   exact Zj0.out (y8 [.reg [aa,aa, { cast:=some (ai (a54.length:Int)) },aa],ae,.adj [.keep [0,2,6,8,10] [54,2]]] (.c2 (Zjk:AV.Le (ai (((a54.map (rI .u32)).length:Nat):Int)) (ai (a54.length:Int))) (Z01 Z06 hb12) y5)) (by simp)
def Zeu (r:(Z08 × Bool)):List PV:=[az r.1.fNeg r.1.fMag,dv (.bool r.2)]
def Z85 (N:Nat) (p0:Int):Option (Z08 × Bool):=(Z3l N p0).bind fun r2=>(Z1n N p0 r2.1 r2.2 false).bind fun r6=>if r6.2.1 > (0:Int) then (Z5t N (wrap .i64 r6.2.1)).bind fun r8=>(mk (0:Int) (wrap .i64 (Int.tdiv (if (0:Int) > r6.1 then (0:Int) else r6.1) (32:Int)))).bind fun x9=>(app x9 r8.fMag).bind fun x10=>if r6.2.1=(0:Int) then some ((Z08.mk false []),r6.2.2) else (Z2l N p0 r6 x10 (0:Int) (0:Int)).bind fun r16=>if r16.2 > (0:Int) then (app r16.1 ([wrap .u32 r16.2]:List Int)).bind fun x18=>some ((Z08.mk ((Int.fdiv p0 (yh 63)) == (1:Int)) x18),r6.2.2) else some ((Z08.mk ((Int.fdiv p0 (yh 63)) == (1:Int)) r16.1),r6.2.2) else (mk (0:Int) (wrap .i64 (Int.tdiv (if (0:Int) > r6.1 then (0:Int) else r6.1) (32:Int)))).bind fun x19=>(app x19 ([]:List Int)).bind fun x20=>if r6.2.1=(0:Int) then some ((Z08.mk false []),r6.2.2) else (Z2l N p0 r6 x20 (0:Int) (0:Int)).bind fun r22=>if r22.2 > (0:Int) then (app r22.1 ([wrap .u32 r22.2]:List Int)).bind fun x24=>some ((Z08.mk ((Int.fdiv p0 (yh 63)) == (1:Int)) x24),r6.2.2) else some ((Z08.mk ((Int.fdiv p0 (yh 63)) == (1:Int)) r22.1),r6.2.2)
theorem Z2w (N:Nat) (p0:Int) (r:(Z08 × Bool)) (h:Z85 N p0=some r):Ziz prog 142 [dv (.int .u64 p0)] (Zeu r):=by
 unfold Z85 at h
 obtain ⟨r2,hr2,h⟩:=yj h
 obtain ⟨r6,hr6,h⟩:=yj h
 rcases Z07 h with ⟨hb7,h⟩ | ⟨hb7,h⟩
 ·obtain ⟨r8,hr8,h⟩:=yj h
  obtain ⟨x9,hx9,h⟩:=yj h
  obtain ⟨x10,hx10,h⟩:=yj h
  rcases Z07 h with ⟨hb11,h⟩ | ⟨hb11,h⟩
  ·obtain rfl:=yl h
   exact y9 857 [af,.reg (e 6),ay,.deep 1 [.keep [0,2,4,5] [2]] .normal (Z2f p0 r2),ak,.adj [.keep [0,2,4,5,6] [2]],.cut (.exit 0) (Z2e p0 r6),ay,af,ah,.reg [aa,aa, yg [az r8.fNeg r8.fMag],aa],.reg [aa,aa,aa, { cast:=some (.v (.one (.vw 51 1 0 ((x9.map (rI .u32)).length)))) },aa,aa, { cast:=some (.v (.one (.vw 54 1 0 ((x10.map (rI .u32)).length)))) },aa],.adj [.ob 54 (.arr 1 (x10.map (rI .u32)) true)],af,ah,.reg (e 4),.adj [.ob 2 (.var [.d (.bool false),.d (.sl 1 [])])]] func142 (.c8 (Z2k N p0 r2 hr2) (Ziw.of_loop (Z2j N p0 r2.1 r2.2 false r6 hr6)) y7 (Zj8 Z06 hb7) (Z4z N (wrap .i64 r6.2.1) r8 hr8) y7 y7 (mk_bnd hx9 (by decide):0≤wrap .i64 (Int.tdiv (if (0:Int) > r6.1 then (0:Int) else r6.1) (32:Int))∧wrap .i64 (Int.tdiv (if (0:Int) > r6.1 then (0:Int) else r6.1) (32:Int))≤wrap .i64 (Int.tdiv (if (0:Int) > r6.1 then (0:Int) else r6.1) (32:Int))∧(wrap .i64 (Int.tdiv (if (0:Int) > r6.1 then (0:Int) else r6.1) (32:Int))) * ((4:Nat):Int)≤281474976710656∧wrap .i64 (Int.tdiv (if (0:Int) > r6.1 then (0:Int) else r6.1) (32:Int))≤9223372036854775807) (.c8 (mk_le hx9:AV.Le (.v (.one (.vw 51 1 0 (Int.toNat (wrap .i64 (Int.tdiv (if (0:Int) > r6.1 then (0:Int) else r6.1) (32:Int))))))) (.v (.one (.vw 51 1 0 ((x9.map (rI .u32)).length))))) (AV.Le.refl (.v (.one (.ptr 7 1)))) y7 (AV.Le.refl (da (.sl 1 (r8.fMag.map (rI .u32))))) y7 (Zfj (Zjn hx9 rfl):(x9.map (rI .u32)).length=(List.replicate (Int.toNat (wrap .i64 (Int.tdiv (if (0:Int) > r6.1 then (0:Int) else r6.1) (32:Int)))) [.int .u32 (0:Int)]).length) (raw_b (Zjn hx9 rfl) (app_b hx10 (by decide)):((List.replicate (Int.toNat (wrap .i64 (Int.tdiv (if (0:Int) > r6.1 then (0:Int) else r6.1) (32:Int)))) [.int .u32 (0:Int)]).length+(r8.fMag.map (rI .u32)).length) * 4≤140737488355328) (raw_m (Zjn hx9 rfl) (app_m hx10):(List.replicate (Int.toNat (wrap .i64 (Int.tdiv (if (0:Int) > r6.1 then (0:Int) else r6.1) (32:Int)))) [.int .u32 (0:Int)]).length+(r8.fMag.map (rI .u32)).length≤9223372036854775807) (.c4 (raw_n (Zjn hx9 rfl) (app_n hx10):AV.Le (.v (.one (.vw 54 1 0 ((List.replicate (Int.toNat (wrap .i64 (Int.tdiv (if (0:Int) > r6.1 then (0:Int) else r6.1) (32:Int)))) [.int .u32 (0:Int)]).length+(r8.fMag.map (rI .u32)).length)))) (.v (.one (.vw 54 1 0 ((x10.map (rI .u32)).length))))) (raw_ob (Zjn hx9 rfl) (app_ob hx10):Ob.Le (.arr 1 ((List.replicate (Int.toNat (wrap .i64 (Int.tdiv (if (0:Int) > r6.1 then (0:Int) else r6.1) (32:Int)))) [.int .u32 (0:Int)])++(r8.fMag.map (rI .u32))) true) (.arr 1 (x10.map (rI .u32)) true)) (Zj8 Z03 hb11) y7 (.c2 (Ob.Le.var (All2.cons (AC.Le.refl _) (All2.cons (AC.Le.d (C.Le.nils 1)) (All2.nil))):Ob.Le (.var [.d (.bool false),.d (.nils)]) (.var [.d (.bool false),.d (.sl 1 [])])) y7 y5))))
  ·obtain ⟨r16,hr16,h⟩:=yj h
   rcases Z07 h with ⟨hb17,h⟩ | ⟨hb17,h⟩
   ·obtain ⟨x18,hx18,h⟩:=yj h
    obtain rfl:=yl h
    exact y9 857 [af,.reg (e 6),ay,.deep 1 [.keep [0,2,4,5] [2]] .normal (Z2f p0 r2),ak,.adj [.keep [0,2,4,5,6] [2]],.cut (.exit 0) (Z2e p0 r6),ay,af,ah,.reg [aa,aa, yg [az r8.fNeg r8.fMag],aa],.reg [aa,aa,aa, { cast:=some (.v (.one (.vw 51 1 0 ((x9.map (rI .u32)).length)))) },aa,aa, { cast:=some (.v (.one (.vw 54 1 0 ((x10.map (rI .u32)).length)))) },aa],.adj [.ob 54 (.arr 1 (x10.map (rI .u32)) true)],af,ae,.reg (e 4),ak,ak,.adj [.keep [0,2,6,8,9,10,11] [54,2]],.cut (.exit 2) (Z3e p0 r6 r16),af,ah,.reg [aa,aa,aa, { post:=[.ob 89 (.arr 1 (([wrap .u32 r16.2]:List Int).map (rI .u32)) true)] }, { cast:=some (.v (.one (.vw 90 1 0 ((x18.map (rI .u32)).length)))),post:=[.ob 90 (.arr 1 (x18.map (rI .u32)) true)] },aa],.reg (e 8),.adj [.fz 90]] func142 (.c8 (Z2k N p0 r2 hr2) (Ziw.of_loop (Z2j N p0 r2.1 r2.2 false r6 hr6)) y7 (Zj8 Z06 hb7) (Z4z N (wrap .i64 r6.2.1) r8 hr8) y7 y7 (mk_bnd hx9 (by decide):0≤wrap .i64 (Int.tdiv (if (0:Int) > r6.1 then (0:Int) else r6.1) (32:Int))∧wrap .i64 (Int.tdiv (if (0:Int) > r6.1 then (0:Int) else r6.1) (32:Int))≤wrap .i64 (Int.tdiv (if (0:Int) > r6.1 then (0:Int) else r6.1) (32:Int))∧(wrap .i64 (Int.tdiv (if (0:Int) > r6.1 then (0:Int) else r6.1) (32:Int))) * ((4:Nat):Int)≤281474976710656∧wrap .i64 (Int.tdiv (if (0:Int) > r6.1 then (0:Int) else r6.1) (32:Int))≤9223372036854775807) (.c8 (mk_le hx9:AV.Le (.v (.one (.vw 51 1 0 (Int.toNat (wrap .i64 (Int.tdiv (if (0:Int) > r6.1 then (0:Int) else r6.1) (32:Int))))))) (.v (.one (.vw 51 1 0 ((x9.map (rI .u32)).length))))) (AV.Le.refl (.v (.one (.ptr 7 1)))) y7 (AV.Le.refl (da (.sl 1 (r8.fMag.map (rI .u32))))) y7 (Zfj (Zjn hx9 rfl):(x9.map (rI .u32)).length=(List.replicate (Int.toNat (wrap .i64 (Int.tdiv (if (0:Int) > r6.1 then (0:Int) else r6.1) (32:Int)))) [.int .u32 (0:Int)]).length) (raw_b (Zjn hx9 rfl) (app_b hx10 (by decide)):((List.replicate (Int.toNat (wrap .i64 (Int.tdiv (if (0:Int) > r6.1 then (0:Int) else r6.1) (32:Int)))) [.int .u32 (0:Int)]).length+(r8.fMag.map (rI .u32)).length) * 4≤140737488355328) (raw_m (Zjn hx9 rfl) (app_m hx10):(List.replicate (Int.toNat (wrap .i64 (Int.tdiv (if (0:Int) > r6.1 then (0:Int) else r6.1) (32:Int)))) [.int .u32 (0:Int)]).length+(r8.fMag.map (rI .u32)).length≤9223372036854775807) (.c8 (raw_n (Zjn hx9 rfl) (app_n hx10):AV.Le (.v (.one (.vw 54 1 0 ((List.replicate (Int.toNat (wrap .i64 (Int.tdiv (if (0:Int) > r6.1 then (0:Int) else r6.1) (32:Int)))) [.int .u32 (0:Int)]).length+(r8.fMag.map (rI .u32)).length)))) (.v (.one (.vw 54 1 0 ((x10.map (rI .u32)).length))))) (raw_ob (Zjn hx9 rfl) (app_ob hx10):Ob.Le (.arr 1 ((List.replicate (Int.toNat (wrap .i64 (Int.tdiv (if (0:Int) > r6.1 then (0:Int) else r6.1) (32:Int)))) [.int .u32 (0:Int)])++(r8.fMag.map (rI .u32))) true) (.arr 1 (x10.map (rI .u32)) true)) (Z01 Z03 hb11) (Ziw.of_loop (Z41 N p0 r6 x10 (0:Int) (0:Int) r16 hr16)) (Zj8 Z06 hb17) (Z42 (by rfl):Ob.Le (.arr 1 [[.int .u32 (wrap .u32 r16.2)]] true) (.arr 1 (([wrap .u32 r16.2]:List Int).map (rI .u32)) true)) (lent_ok:0+(([wrap .u32 r16.2]:List Int).map (rI .u32)).length≤(([wrap .u32 r16.2]:List Int).map (rI .u32)).length) (rfl:aj r16.1) (.c8 (appv_b hx18 (by decide):((r16.1.map (rI .u32)).length+(((([wrap .u32 r16.2]:List Int).map (rI .u32)).drop 0).take (([wrap .u32 r16.2]:List Int).map (rI .u32)).length).length) * 4≤140737488355328) (appv_m hx18:(r16.1.map (rI .u32)).length+(((([wrap .u32 r16.2]:List Int).map (rI .u32)).drop 0).take (([wrap .u32 r16.2]:List Int).map (rI .u32)).length).length≤9223372036854775807) (appv_n hx18:AV.Le (.v (.one (.vw 90 1 0 ((r16.1.map (rI .u32)).length+(((([wrap .u32 r16.2]:List Int).map (rI .u32)).drop 0).take (([wrap .u32 r16.2]:List Int).map (rI .u32)).length).length)))) (.v (.one (.vw 90 1 0 ((x18.map (rI .u32)).length))))) (appv_ob hx18:Ob.Le (.arr 1 ((r16.1.map (rI .u32))++(((([wrap .u32 r16.2]:List Int).map (rI .u32)).drop 0).take (([wrap .u32 r16.2]:List Int).map (rI .u32)).length)) true) (.arr 1 (x18.map (rI .u32)) true)) y7 (⟨rfl,rfl⟩:(1:Nat)=1∧aj x18) (⟨rfl,rfl⟩:(1:Nat)=1∧aj x18) (⟨rfl,rfl⟩:(1:Nat)=1∧aj x18) (.c2 (⟨rfl,rfl⟩:(1:Nat)=1∧aj x18) (⟨rfl,rfl⟩:(1:Nat)=1∧aj x18) (.cons y7 y5))))))
   ·obtain rfl:=yl h
    exact y9 857 [af,.reg (e 6),ay,.deep 1 [.keep [0,2,4,5] [2]] .normal (Z2f p0 r2),ak,.adj [.keep [0,2,4,5,6] [2]],.cut (.exit 0) (Z2e p0 r6),ay,af,ah,.reg [aa,aa, yg [az r8.fNeg r8.fMag],aa],.reg [aa,aa,aa, { cast:=some (.v (.one (.vw 51 1 0 ((x9.map (rI .u32)).length)))) },aa,aa, { cast:=some (.v (.one (.vw 54 1 0 ((x10.map (rI .u32)).length)))) },aa],.adj [.ob 54 (.arr 1 (x10.map (rI .u32)) true)],af,ae,.reg (e 4),ak,ak,.adj [.keep [0,2,6,8,9,10,11] [54,2]],.cut (.exit 2) (Z3e p0 r6 r16),af,ae,.reg (e 8),.adj [.fz 54]] func142 (.c8 (Z2k N p0 r2 hr2) (Ziw.of_loop (Z2j N p0 r2.1 r2.2 false r6 hr6)) y7 (Zj8 Z06 hb7) (Z4z N (wrap .i64 r6.2.1) r8 hr8) y7 y7 (mk_bnd hx9 (by decide):0≤wrap .i64 (Int.tdiv (if (0:Int) > r6.1 then (0:Int) else r6.1) (32:Int))∧wrap .i64 (Int.tdiv (if (0:Int) > r6.1 then (0:Int) else r6.1) (32:Int))≤wrap .i64 (Int.tdiv (if (0:Int) > r6.1 then (0:Int) else r6.1) (32:Int))∧(wrap .i64 (Int.tdiv (if (0:Int) > r6.1 then (0:Int) else r6.1) (32:Int))) * ((4:Nat):Int)≤281474976710656∧wrap .i64 (Int.tdiv (if (0:Int) > r6.1 then (0:Int) else r6.1) (32:Int))≤9223372036854775807) (.c8 (mk_le hx9:AV.Le (.v (.one (.vw 51 1 0 (Int.toNat (wrap .i64 (Int.tdiv (if (0:Int) > r6.1 then (0:Int) else r6.1) (32:Int))))))) (.v (.one (.vw 51 1 0 ((x9.map (rI .u32)).length))))) (AV.Le.refl (.v (.one (.ptr 7 1)))) y7 (AV.Le.refl (da (.sl 1 (r8.fMag.map (rI .u32))))) y7 (Zfj (Zjn hx9 rfl):(x9.map (rI .u32)).length=(List.replicate (Int.toNat (wrap .i64 (Int.tdiv (if (0:Int) > r6.1 then (0:Int) else r6.1) (32:Int)))) [.int .u32 (0:Int)]).length) (raw_b (Zjn hx9 rfl) (app_b hx10 (by decide)):((List.replicate (Int.toNat (wrap .i64 (Int.tdiv (if (0:Int) > r6.1 then (0:Int) else r6.1) (32:Int)))) [.int .u32 (0:Int)]).length+(r8.fMag.map (rI .u32)).length) * 4≤140737488355328) (raw_m (Zjn hx9 rfl) (app_m hx10):(List.replicate (Int.toNat (wrap .i64 (Int.tdiv (if (0:Int) > r6.1 then (0:Int) else r6.1) (32:Int)))) [.int .u32 (0:Int)]).length+(r8.fMag.map (rI .u32)).length≤9223372036854775807) (.c8 (raw_n (Zjn hx9 rfl) (app_n hx10):AV.Le (.v (.one (.vw 54 1 0 ((List.replicate (Int.toNat (wrap .i64 (Int.tdiv (if (0:Int) > r6.1 then (0:Int) else r6.1) (32:Int)))) [.int .u32 (0:Int)]).length+(r8.fMag.map (rI .u32)).length)))) (.v (.one (.vw 54 1 0 ((x10.map (rI .u32)).length))))) (raw_ob (Zjn hx9 rfl) (app_ob hx10):Ob.Le (.arr 1 ((List.replicate (Int.toNat (wrap .i64 (Int.tdiv (if (0:Int) > r6.1 then (0:Int) else r6.1) (32:Int)))) [.int .u32 (0:Int)])++(r8.fMag.map (rI .u32))) true) (.arr 1 (x10.map (rI .u32)) true)) (Z01 Z03 hb11) (Ziw.of_loop (Z41 N p0 r6 x10 (0:Int) (0:Int) r16 hr16)) (Z01 Z06 hb17) y7 (⟨rfl,rfl⟩:(1:Nat)=1∧aj r16.1) (⟨rfl,rfl⟩:(1:Nat)=1∧aj r16.1) (.c2 (⟨rfl,rfl⟩:(1:Nat)=1∧aj r16.1) (⟨rfl,rfl⟩:(1:Nat)=1∧aj r16.1) (.cons y7 y5)))))
 ·obtain ⟨x19,hx19,h⟩:=yj h
  obtain ⟨x20,hx20,h⟩:=yj h
  rcases Z07 h with ⟨hb21,h⟩ | ⟨hb21,h⟩
  ·obtain rfl:=yl h
   exact y9 857 [af,.reg (e 6),ay,.deep 1 [.keep [0,2,4,5] [2]] .normal (Z2f p0 r2),ak,.adj [.keep [0,2,4,5,6] [2]],.cut (.exit 0) (Z2e p0 r6),ay,af,ae,.reg [aa,aa,aa, { cast:=some (.v (.one (.vw 51 1 0 ((x19.map (rI .u32)).length)))) },aa,aa, { cast:=some (.v (.one (.vw 54 1 0 ((x20.map (rI .u32)).length)))) },aa],.adj [.ob 54 (.arr 1 (x20.map (rI .u32)) true)],af,ah,.reg (e 4),.adj [.ob 2 (.var [.d (.bool false),.d (.sl 1 [])])]] func142 (.c8 (Z2k N p0 r2 hr2) (Ziw.of_loop (Z2j N p0 r2.1 r2.2 false r6 hr6)) y7 (Z01 Z06 hb7) y7 (mk_bnd hx19 (by decide):0≤wrap .i64 (Int.tdiv (if (0:Int) > r6.1 then (0:Int) else r6.1) (32:Int))∧wrap .i64 (Int.tdiv (if (0:Int) > r6.1 then (0:Int) else r6.1) (32:Int))≤wrap .i64 (Int.tdiv (if (0:Int) > r6.1 then (0:Int) else r6.1) (32:Int))∧(wrap .i64 (Int.tdiv (if (0:Int) > r6.1 then (0:Int) else r6.1) (32:Int))) * ((4:Nat):Int)≤281474976710656∧wrap .i64 (Int.tdiv (if (0:Int) > r6.1 then (0:Int) else r6.1) (32:Int))≤9223372036854775807) (mk_le hx19:AV.Le (.v (.one (.vw 51 1 0 (Int.toNat (wrap .i64 (Int.tdiv (if (0:Int) > r6.1 then (0:Int) else r6.1) (32:Int))))))) (.v (.one (.vw 51 1 0 ((x19.map (rI .u32)).length))))) (AV.Le.refl (.v (.one (.ptr 7 1)))) (.c8 y7 (AV.Le.refl (da (.nils))) y7 (Zfj (Zjn hx19 rfl):(x19.map (rI .u32)).length=(List.replicate (Int.toNat (wrap .i64 (Int.tdiv (if (0:Int) > r6.1 then (0:Int) else r6.1) (32:Int)))) [.int .u32 (0:Int)]).length) (raw_b (Zjn hx19 rfl) (app_b hx20 (by decide)):((List.replicate (Int.toNat (wrap .i64 (Int.tdiv (if (0:Int) > r6.1 then (0:Int) else r6.1) (32:Int)))) [.int .u32 (0:Int)]).length+(([]:List Int).map (rI .u32)).length) * 4≤140737488355328) (raw_m (Zjn hx19 rfl) (app_m hx20):(List.replicate (Int.toNat (wrap .i64 (Int.tdiv (if (0:Int) > r6.1 then (0:Int) else r6.1) (32:Int)))) [.int .u32 (0:Int)]).length+(([]:List Int).map (rI .u32)).length≤9223372036854775807) (raw_n (Zjn hx19 rfl) (app_n hx20):AV.Le (.v (.one (.vw 54 1 0 ((List.replicate (Int.toNat (wrap .i64 (Int.tdiv (if (0:Int) > r6.1 then (0:Int) else r6.1) (32:Int)))) [.int .u32 (0:Int)]).length+(([]:List Int).map (rI .u32)).length)))) (.v (.one (.vw 54 1 0 ((x20.map (rI .u32)).length))))) (raw_ob (Zjn hx19 rfl) (app_ob hx20):Ob.Le (.arr 1 ((List.replicate (Int.toNat (wrap .i64 (Int.tdiv (if (0:Int) > r6.1 then (0:Int) else r6.1) (32:Int)))) [.int .u32 (0:Int)])++(([]:List Int).map (rI .u32))) true) (.arr 1 (x20.map (rI .u32)) true)) (.c4 (Zj8 Z03 hb21) y7 (Ob.Le.var (All2.cons (AC.Le.refl _) (All2.cons (AC.Le.d (C.Le.nils 1)) (All2.nil))):Ob.Le (.var [.d (.bool false),.d (.nils)]) (.var [.d (.bool false),.d (.sl 1 [])])) y7 y5)))
  ·obtain ⟨r22,hr22,h⟩:=yj h
   rcases Z07 h with ⟨hb23,h⟩ | ⟨hb23,h⟩
   ·obtain ⟨x24,hx24,h⟩:=yj h
    obtain rfl:=yl h
    exact y9 857 [af,.reg (e 6),ay,.deep 1 [.keep [0,2,4,5] [2]] .normal (Z2f p0 r2),ak,.adj [.keep [0,2,4,5,6] [2]],.cut (.exit 0) (Z2e p0 r6),ay,af,ae,.reg [aa,aa,aa, { cast:=some (.v (.one (.vw 51 1 0 ((x19.map (rI .u32)).length)))) },aa,aa, { cast:=some (.v (.one (.vw 54 1 0 ((x20.map (rI .u32)).length)))) },aa],.adj [.ob 54 (.arr 1 (x20.map (rI .u32)) true)],af,ae,.reg (e 4),ak,ak,.adj [.keep [0,2,6,8,9,10,11] [54,2]],.cut (.exit 2) (Z3e p0 r6 r22),af,ah,.reg [aa,aa,aa, { post:=[.ob 89 (.arr 1 (([wrap .u32 r22.2]:List Int).map (rI .u32)) true)] }, { cast:=some (.v (.one (.vw 90 1 0 ((x24.map (rI .u32)).length)))),post:=[.ob 90 (.arr 1 (x24.map (rI .u32)) true)] },aa],.reg (e 8),.adj [.fz 90]] func142 (.c8 (Z2k N p0 r2 hr2) (Ziw.of_loop (Z2j N p0 r2.1 r2.2 false r6 hr6)) y7 (Z01 Z06 hb7) y7 (mk_bnd hx19 (by decide):0≤wrap .i64 (Int.tdiv (if (0:Int) > r6.1 then (0:Int) else r6.1) (32:Int))∧wrap .i64 (Int.tdiv (if (0:Int) > r6.1 then (0:Int) else r6.1) (32:Int))≤wrap .i64 (Int.tdiv (if (0:Int) > r6.1 then (0:Int) else r6.1) (32:Int))∧(wrap .i64 (Int.tdiv (if (0:Int) > r6.1 then (0:Int) else r6.1) (32:Int))) * ((4:Nat):Int)≤281474976710656∧wrap .i64 (Int.tdiv (if (0:Int) > r6.1 then (0:Int) else r6.1) (32:Int))≤9223372036854775807) (mk_le hx19:AV.Le (.v (.one (.vw 51 1 0 (Int.toNat (wrap .i64 (Int.tdiv (if (0:Int) > r6.1 then (0:Int) else r6.1) (32:Int))))))) (.v (.one (.vw 51 1 0 ((x19.map (rI .u32)).length))))) (AV.Le.refl (.v (.one (.ptr 7 1)))) (.c8 y7 (AV.Le.refl (da (.nils))) y7 (Zfj (Zjn hx19 rfl):(x19.map (rI .u32)).length=(List.replicate (Int.toNat (wrap .i64 (Int.tdiv (if (0:Int) > r6.1 then (0:Int) else r6.1) (32:Int)))) [.int .u32 (0:Int)]).length) (raw_b (Zjn hx19 rfl) (app_b hx20 (by decide)):((List.replicate (Int.toNat (wrap .i64 (Int.tdiv (if (0:Int) > r6.1 then (0:Int) else r6.1) (32:Int)))) [.int .u32 (0:Int)]).length+(([]:List Int).map (rI .u32)).length) * 4≤140737488355328) (raw_m (Zjn hx19 rfl) (app_m hx20):(List.replicate (Int.toNat (wrap .i64 (Int.tdiv (if (0:Int) > r6.1 then (0:Int) else r6.1) (32:Int)))) [.int .u32 (0:Int)]).length+(([]:List Int).map (rI .u32)).length≤9223372036854775807) (raw_n (Zjn hx19 rfl) (app_n hx20):AV.Le (.v (.one (.vw 54 1 0 ((List.replicate (Int.toNat (wrap .i64 (Int.tdiv (if (0:Int) > r6.1 then (0:Int) else r6.1) (32:Int)))) [.int .u32 (0:Int)]).length+(([]:List Int).map (rI .u32)).length)))) (.v (.one (.vw 54 1 0 ((x20.map (rI .u32)).length))))) (raw_ob (Zjn hx19 rfl) (app_ob hx20):Ob.Le (.arr 1 ((List.replicate (Int.toNat (wrap .i64 (Int.tdiv (if (0:Int) > r6.1 then (0:Int) else r6.1) (32:Int)))) [.int .u32 (0:Int)])++(([]:List Int).map (rI .u32))) true) (.arr 1 (x20.map (rI .u32)) true)) (.c8 (Z01 Z03 hb21) (Ziw.of_loop (Z41 N p0 r6 x20 (0:Int) (0:Int) r22 hr22)) (Zj8 Z06 hb23) (Z42 (by rfl):Ob.Le (.arr 1 [[.int .u32 (wrap .u32 r22.2)]] true) (.arr 1 (([wrap .u32 r22.2]:List Int).map (rI .u32)) true)) (lent_ok:0+(([wrap .u32 r22.2]:List Int).map (rI .u32)).length≤(([wrap .u32 r22.2]:List Int).map (rI .u32)).length) (rfl:aj r22.1) (appv_b hx24 (by decide):((r22.1.map (rI .u32)).length+(((([wrap .u32 r22.2]:List Int).map (rI .u32)).drop 0).take (([wrap .u32 r22.2]:List Int).map (rI .u32)).length).length) * 4≤140737488355328) (appv_m hx24:(r22.1.map (rI .u32)).length+(((([wrap .u32 r22.2]:List Int).map (rI .u32)).drop 0).take (([wrap .u32 r22.2]:List Int).map (rI .u32)).length).length≤9223372036854775807) (.c8 (appv_n hx24:AV.Le (.v (.one (.vw 90 1 0 ((r22.1.map (rI .u32)).length+(((([wrap .u32 r22.2]:List Int).map (rI .u32)).drop 0).take (([wrap .u32 r22.2]:List Int).map (rI .u32)).length).length)))) (.v (.one (.vw 90 1 0 ((x24.map (rI .u32)).length))))) (appv_ob hx24:Ob.Le (.arr 1 ((r22.1.map (rI .u32))++(((([wrap .u32 r22.2]:List Int).map (rI .u32)).drop 0).take (([wrap .u32 r22.2]:List Int).map (rI .u32)).length)) true) (.arr 1 (x24.map (rI .u32)) true)) y7 (⟨rfl,rfl⟩:(1:Nat)=1∧aj x24) (⟨rfl,rfl⟩:(1:Nat)=1∧aj x24) (⟨rfl,rfl⟩:(1:Nat)=1∧aj x24) (⟨rfl,rfl⟩:(1:Nat)=1∧aj x24) (⟨rfl,rfl⟩:(1:Nat)=1∧aj x24) (.cons y7 y5)))))
   ·obtain rfl:=yl h
    exact y9 857 [af,.reg (e 6),ay,.deep 1 [.keep [0,2,4,5] [2]] .normal (Z2f p0 r2),ak,.adj [.keep [0,2,4,5,6] [2]],.cut (.exit 0) (Z2e p0 r6),ay,af,ae,.reg [aa,aa,aa, { cast:=some (.v (.one (.vw 51 1 0 ((x19.map (rI .u32)).length)))) },aa,aa, { cast:=some (.v (.one (.vw 54 1 0 ((x20.map (rI .u32)).length)))) },aa],.adj [.ob 54 (.arr 1 (x20.map (rI .u32)) true)],af,ae,.reg (e 4),ak,ak,.adj [.keep [0,2,6,8,9,10,11] [54,2]],.cut (.exit 2) (Z3e p0 r6 r22),af,ae,.reg (e 8),.adj [.fz 54]] func142 (.c8 (Z2k N p0 r2 hr2) (Ziw.of_loop (Z2j N p0 r2.1 r2.2 false r6 hr6)) y7 (Z01 Z06 hb7) y7 (mk_bnd hx19 (by decide):0≤wrap .i64 (Int.tdiv (if (0:Int) > r6.1 then (0:Int) else r6.1) (32:Int))∧wrap .i64 (Int.tdiv (if (0:Int) > r6.1 then (0:Int) else r6.1) (32:Int))≤wrap .i64 (Int.tdiv (if (0:Int) > r6.1 then (0:Int) else r6.1) (32:Int))∧(wrap .i64 (Int.tdiv (if (0:Int) > r6.1 then (0:Int) else r6.1) (32:Int))) * ((4:Nat):Int)≤281474976710656∧wrap .i64 (Int.tdiv (if (0:Int) > r6.1 then (0:Int) else r6.1) (32:Int))≤9223372036854775807) (mk_le hx19:AV.Le (.v (.one (.vw 51 1 0 (Int.toNat (wrap .i64 (Int.tdiv (if (0:Int) > r6.1 then (0:Int) else r6.1) (32:Int))))))) (.v (.one (.vw 51 1 0 ((x19.map (rI .u32)).length))))) (AV.Le.refl (.v (.one (.ptr 7 1)))) (.c8 y7 (AV.Le.refl (da (.nils))) y7 (Zfj (Zjn hx19 rfl):(x19.map (rI .u32)).length=(List.replicate (Int.toNat (wrap .i64 (Int.tdiv (if (0:Int) > r6.1 then (0:Int) else r6.1) (32:Int)))) [.int .u32 (0:Int)]).length) (raw_b (Zjn hx19 rfl) (app_b hx20 (by decide)):((List.replicate (Int.toNat (wrap .i64 (Int.tdiv (if (0:Int) > r6.1 then (0:Int) else r6.1) (32:Int)))) [.int .u32 (0:Int)]).length+(([]:List Int).map (rI .u32)).length) * 4≤140737488355328) (raw_m (Zjn hx19 rfl) (app_m hx20):(List.replicate (Int.toNat (wrap .i64 (Int.tdiv (if (0:Int) > r6.1 then (0:Int) else r6.1) (32:Int)))) [.int .u32 (0:Int)]).length+(([]:List Int).map (rI .u32)).length≤9223372036854775807) (raw_n (Zjn hx19 rfl) (app_n hx20):AV.Le (.v (.one (.vw 54 1 0 ((List.replicate (Int.toNat (wrap .i64 (Int.tdiv (if (0:Int) > r6.1 then (0:Int) else r6.1) (32:Int)))) [.int .u32 (0:Int)]).length+(([]:List Int).map (rI .u32)).length)))) (.v (.one (.vw 54 1 0 ((x20.map (rI .u32)).length))))) (raw_ob (Zjn hx19 rfl) (app_ob hx20):Ob.Le (.arr 1 ((List.replicate (Int.toNat (wrap .i64 (Int.tdiv (if (0:Int) > r6.1 then (0:Int) else r6.1) (32:Int)))) [.int .u32 (0:Int)])++(([]:List Int).map (rI .u32))) true) (.arr 1 (x20.map (rI .u32)) true)) (.c8 (Z01 Z03 hb21) (Ziw.of_loop (Z41 N p0 r6 x20 (0:Int) (0:Int) r22 hr22)) (Z01 Z06 hb23) y7 (⟨rfl,rfl⟩:(1:Nat)=1∧aj r22.1) (⟨rfl,rfl⟩:(1:Nat)=1∧aj r22.1) (⟨rfl,rfl⟩:(1:Nat)=1∧aj r22.1) (⟨rfl,rfl⟩:(1:Nat)=1∧aj r22.1) (.cons y7 y5))))
def Zei (r:Int):List PV:=[vi r]
def Z5i (N:Nat) (p0:Z08) (p1:Int):Option Int:=(Z4u N p1).bind fun r1=>(Z38 N p0).bind fun r2=>if ¬ (r2=true) then some (0:Int) else (Z48 N r1).bind fun r4=>if r4=true then some (-1:Int) else if (band .u64 (Int.fdiv r1 (yh 52)) (2047:Int)) ≥ (1323:Int) then if (Int.fdiv r1 (yh 63))=(1:Int) then some (1:Int) else some (-1:Int) else (Z85 N r1).bind fun r8=>if (r8.1.fMag.length:Int) > (8:Int) then if (Int.fdiv r1 (yh 63))=(1:Int) then some (1:Int) else some (-1:Int) else (Z7i N p0 r8.1).bind fun r11=>if r11=(0:Int) then if r8.2=true then if (Int.fdiv r1 (yh 63))=(1:Int) then some (1:Int) else some (-1:Int) else some (-1:Int) else some r11
theorem Z9n (N:Nat) (p0:Z08) (p1:Int) (r:Int) (h:Z5i N p0 p1=some r):Ziz prog 112 [az p0.fNeg p0.fMag,dv (.int .u64 p1)] (Zei r):=by
 unfold Z5i at h
 obtain ⟨r1,hr1,h⟩:=yj h
 obtain ⟨r2,hr2,h⟩:=yj h
 rcases Z07 h with ⟨hb3,h⟩ | ⟨hb3,h⟩
 ·obtain rfl:=yl h
  exact y9 505 [af,.reg [aa, yg [dv (.int .u64 r1)],aa],.reg (e 4),.reg [aa, yg [dv (.bool r2)],aa,aa],ah,ak] func112 (.c4 (Z0j N p1 r1 hr1) y7 (Z0k N p0 r2 hr2) (Zj8 (Z09 Z04) hb3) y5)
 ·obtain ⟨r4,hr4,h⟩:=yj h
  rcases Z07 h with ⟨hb5,h⟩ | ⟨hb5,h⟩
  ·obtain rfl:=yl h
   exact y9 505 [af,.reg [aa, yg [dv (.int .u64 r1)],aa],.reg (e 4),.reg [aa, yg [dv (.bool r2)],aa,aa],ae,.reg [aa, yg [dv (.bool r4)],aa],ah,ak] func112 (.c4 (Z0j N p1 r1 hr1) y7 (Z0k N p0 r2 hr2) (Z01 (Z09 Z04) hb3) (.c2 (Z0s N r1 r4 hr4) (Zj8 Z04 hb5) y5))
  ·rcases Z07 h with ⟨hb6,h⟩ | ⟨hb6,h⟩
   ·rcases Z07 h with ⟨hb7,h⟩ | ⟨hb7,h⟩
    ·obtain rfl:=yl h
     exact y9 505 [af,.reg [aa, yg [dv (.int .u64 r1)],aa],.reg (e 4),.reg [aa, yg [dv (.bool r2)],aa,aa],ae,.reg [aa, yg [dv (.bool r4)],aa],ae,.reg (e 5),ah,ak,ah,ak] func112 (.c8 (Z0j N p1 r1 hr1) y7 (Z0k N p0 r2 hr2) (Z01 (Z09 Z04) hb3) (Z0s N r1 r4 hr4) (Z01 Z04 hb5) (Zj8 Z06 hb6) (Zj8 Z03 hb7) y5)
    ·obtain rfl:=yl h
     exact y9 505 [af,.reg [aa, yg [dv (.int .u64 r1)],aa],.reg (e 4),.reg [aa, yg [dv (.bool r2)],aa,aa],ae,.reg [aa, yg [dv (.bool r4)],aa],ae,.reg (e 5),ah,ak,ae,ak] func112 (.c8 (Z0j N p1 r1 hr1) y7 (Z0k N p0 r2 hr2) (Z01 (Z09 Z04) hb3) (Z0s N r1 r4 hr4) (Z01 Z04 hb5) (Zj8 Z06 hb6) (Z01 Z03 hb7) y5)
   ·obtain ⟨r8,hr8,h⟩:=yj h
    rcases Z07 h with ⟨hb9,h⟩ | ⟨hb9,h⟩
    ·rcases Z07 h with ⟨hb10,h⟩ | ⟨hb10,h⟩
     ·obtain rfl:=yl h
      exact y9 505 [af,.reg [aa, yg [dv (.int .u64 r1)],aa],.reg (e 4),.reg [aa, yg [dv (.bool r2)],aa,aa],ae,.reg [aa, yg [dv (.bool r4)],aa],ae,.reg (e 5),ae,.reg [aa, yg [az r8.1.fNeg r8.1.fMag,dv (.bool r8.2)],aa,aa,aa,aa,aa,aa],.reg [aa,aa, { cast:=some (ai (r8.1.fMag.length:Int)) },aa],ah,ak,ah,ak] func112 (.c8 (Z0j N p1 r1 hr1) y7 (Z0k N p0 r2 hr2) (Z01 (Z09 Z04) hb3) (Z0s N r1 r4 hr4) (Z01 Z04 hb5) (Z01 Z06 hb6) (Z2w N r1 r8 hr8) (.c4 y7 y7 (Zjk:AV.Le (ai (((r8.1.fMag.map (rI .u32)).length:Nat):Int)) (ai (r8.1.fMag.length:Int))) (Zj8 Z06 hb9) (.cons (Zj8 Z03 hb10) y5)))
     ·obtain rfl:=yl h
      exact y9 505 [af,.reg [aa, yg [dv (.int .u64 r1)],aa],.reg (e 4),.reg [aa, yg [dv (.bool r2)],aa,aa],ae,.reg [aa, yg [dv (.bool r4)],aa],ae,.reg (e 5),ae,.reg [aa, yg [az r8.1.fNeg r8.1.fMag,dv (.bool r8.2)],aa,aa,aa,aa,aa,aa],.reg [aa,aa, { cast:=some (ai (r8.1.fMag.length:Int)) },aa],ah,ak,ae,ak] func112 (.c8 (Z0j N p1 r1 hr1) y7 (Z0k N p0 r2 hr2) (Z01 (Z09 Z04) hb3) (Z0s N r1 r4 hr4) (Z01 Z04 hb5) (Z01 Z06 hb6) (Z2w N r1 r8 hr8) (.c4 y7 y7 (Zjk:AV.Le (ai (((r8.1.fMag.map (rI .u32)).length:Nat):Int)) (ai (r8.1.fMag.length:Int))) (Zj8 Z06 hb9) (.cons (Z01 Z03 hb10) y5)))
    ·obtain ⟨r11,hr11,h⟩:=yj h
     rcases Z07 h with ⟨hb12,h⟩ | ⟨hb12,h⟩
     ·rcases Z07 h with ⟨hb13,h⟩ | ⟨hb13,h⟩
      ·rcases Z07 h with ⟨hb14,h⟩ | ⟨hb14,h⟩
       ·obtain rfl:=yl h
        exact y9 505 [af,.reg [aa, yg [dv (.int .u64 r1)],aa],.reg (e 4),.reg [aa, yg [dv (.bool r2)],aa,aa],ae,.reg [aa, yg [dv (.bool r4)],aa],ae,.reg (e 5),ae,.reg [aa, yg [az r8.1.fNeg r8.1.fMag,dv (.bool r8.2)],aa,aa,aa,aa,aa,aa],.reg [aa,aa, { cast:=some (ai (r8.1.fMag.length:Int)) },aa],ae,.reg [aa,aa, yg [vi r11],aa],.reg [aa,aa,aa,aa, { h:=.pick true },aa,aa, { h:=.pick true }],ah,ak] func112 (.c8 (Z0j N p1 r1 hr1) y7 (Z0k N p0 r2 hr2) (Z01 (Z09 Z04) hb3) (Z0s N r1 r4 hr4) (Z01 Z04 hb5) (Z01 Z06 hb6) (Z2w N r1 r8 hr8) (.c8 y7 y7 (Zjk:AV.Le (ai (((r8.1.fMag.map (rI .u32)).length:Nat):Int)) (ai (r8.1.fMag.length:Int))) (Z01 Z06 hb9) y7 y7 (Z4n N p0 r8.1 r11 hr11) (Zj8 Z03 hb12) (.c4 (Zj8 Z03 hb12) (Zj8 Z04 hb13) (Zj8 Z04 hb13) (Zj8 Z03 hb14) y5)))
       ·obtain rfl:=yl h
        exact y9 505 [af,.reg [aa, yg [dv (.int .u64 r1)],aa],.reg (e 4),.reg [aa, yg [dv (.bool r2)],aa,aa],ae,.reg [aa, yg [dv (.bool r4)],aa],ae,.reg (e 5),ae,.reg [aa, yg [az r8.1.fNeg r8.1.fMag,dv (.bool r8.2)],aa,aa,aa,aa,aa,aa],.reg [aa,aa, { cast:=some (ai (r8.1.fMag.length:Int)) },aa],ae,.reg [aa,aa, yg [vi r11],aa],.reg [aa,aa,aa,aa, { h:=.pick true },aa,aa, { h:=.pick true }],ae,af,ah,ak] func112 (.c8 (Z0j N p1 r1 hr1) y7 (Z0k N p0 r2 hr2) (Z01 (Z09 Z04) hb3) (Z0s N r1 r4 hr4) (Z01 Z04 hb5) (Z01 Z06 hb6) (Z2w N r1 r8 hr8) (.c8 y7 y7 (Zjk:AV.Le (ai (((r8.1.fMag.map (rI .u32)).length:Nat):Int)) (ai (r8.1.fMag.length:Int))) (Z01 Z06 hb9) y7 y7 (Z4n N p0 r8.1 r11 hr11) (Zj8 Z03 hb12) (.c4 (Zj8 Z03 hb12) (Zj8 Z04 hb13) (Zj8 Z04 hb13) (Z01 Z03 hb14) (.cons (Zj8 Z03 hb12) y5))))
      ·obtain rfl:=yl h
       exact y9 505 [af,.reg [aa, yg [dv (.int .u64 r1)],aa],.reg (e 4),.reg [aa, yg [dv (.bool r2)],aa,aa],ae,.reg [aa, yg [dv (.bool r4)],aa],ae,.reg (e 5),ae,.reg [aa, yg [az r8.1.fNeg r8.1.fMag,dv (.bool r8.2)],aa,aa,aa,aa,aa,aa],.reg [aa,aa, { cast:=some (ai (r8.1.fMag.length:Int)) },aa],ae,.reg [aa,aa, yg [vi r11],aa],.reg [aa,aa,aa,aa, { h:=.pick true },aa,w0, { h:=.pick false }],ae,af,ah,ak] func112 (.c8 (Z0j N p1 r1 hr1) y7 (Z0k N p0 r2 hr2) (Z01 (Z09 Z04) hb3) (Z0s N r1 r4 hr4) (Z01 Z04 hb5) (Z01 Z06 hb6) (Z2w N r1 r8 hr8) (.c8 y7 y7 (Zjk:AV.Le (ai (((r8.1.fMag.map (rI .u32)).length:Nat):Int)) (ai (r8.1.fMag.length:Int))) (Z01 Z06 hb9) y7 y7 (Z4n N p0 r8.1 r11 hr11) (Zj8 Z03 hb12) (.c4 (Zj8 Z03 hb12) (Z01 Z04 hb13) (Z01 Z04 hb13) yf (.cons (Zj8 Z03 hb12) y5))))
     ·obtain rfl:=yl h
      exact y9 505 [af,.reg [aa, yg [dv (.int .u64 r1)],aa],.reg (e 4),.reg [aa, yg [dv (.bool r2)],aa,aa],ae,.reg [aa, yg [dv (.bool r4)],aa],ae,.reg (e 5),ae,.reg [aa, yg [az r8.1.fNeg r8.1.fMag,dv (.bool r8.2)],aa,aa,aa,aa,aa,aa],.reg [aa,aa, { cast:=some (ai (r8.1.fMag.length:Int)) },aa],ae,.reg [aa,aa, yg [vi r11],aa],.reg [aa,aa,aa,w0, { h:=.pick false },aa,w0, { h:=.pick false }],ae,af,ae,af] func112 (.c8 (Z0j N p1 r1 hr1) y7 (Z0k N p0 r2 hr2) (Z01 (Z09 Z04) hb3) (Z0s N r1 r4 hr4) (Z01 Z04 hb5) (Z01 Z06 hb6) (Z2w N r1 r8 hr8) (.c8 y7 y7 (Zjk:AV.Le (ai (((r8.1.fMag.map (rI .u32)).length:Nat):Int)) (ai (r8.1.fMag.length:Int))) (Z01 Z06 hb9) y7 y7 (Z4n N p0 r8.1 r11 hr11) (Z01 Z03 hb12) (.c4 (Z01 Z03 hb12) yf yf yf (.cons (Z01 Z03 hb12) y5))))
def Zhq (r:Int):List PV:=[dv (.int .u64 r)]
def Z7j (N:Nat) (p0:Int):Option Int:=(Z48 N p0).bind fun r1=>if r1=true then some (18446744073709551615:Int) else if (Int.fdiv p0 (yh 63))=(1:Int) then some (bxor .u64 (IntKind.max .u64) p0) else some (bor .u64 p0 (9223372036854775808:Int))
theorem Z3k (N:Nat) (p0:Int) (r:Int) (h:Z7j N p0=some r):Ziz prog 143 [dv (.int .u64 p0)] (Zhq r):=by
 unfold Z7j at h
 obtain ⟨r1,hr1,h⟩:=yj h
 rcases Z07 h with ⟨hb2,h⟩ | ⟨hb2,h⟩
 ·obtain rfl:=yl h
  exact y9 190 [ak,.reg [aa, yg [dv (.bool r1)]],ah,ak] func143 (.c2 (Z0s N p0 r1 hr1) (Zj8 Z04 hb2) y5)
 ·rcases Z07 h with ⟨hb3,h⟩ | ⟨hb3,h⟩
  ·obtain rfl:=yl h
   exact y9 190 [ak,.reg [aa, yg [dv (.bool r1)]],ae,ay,ah,ay] func143 (.c2 (Z0s N p0 r1 hr1) (Z01 Z04 hb2) (.cons (Zj8 Z03 hb3) y5))
  ·obtain rfl:=yl h
   exact y9 190 [ak,.reg [aa, yg [dv (.bool r1)]],ae,ay,ae,ay] func143 (.c2 (Z0s N p0 r1 hr1) (Z01 Z04 hb2) (.cons (Z01 Z03 hb3) y5))
def Zhk (r:Int):List PV:=[vi r]
def Za5 (N:Nat) (p0:Int) (p1:Int):Option Int:=(Z4u N p0).bind fun r1=>(Z7j N r1).bind fun r2=>(Z4u N p1).bind fun r3=>(Z7j N r3).bind fun r4=>if r2 < r4 then some (-1:Int) else if r2 > r4 then some (1:Int) else some (0:Int)
theorem Zgj (N:Nat) (p0:Int) (p1:Int) (r:Int) (h:Za5 N p0 p1=some r):Ziz prog 113 [dv (.int .u64 p0),dv (.int .u64 p1)] (Zhk r):=by
 unfold Za5 at h
 obtain ⟨r1,hr1,h⟩:=yj h
 obtain ⟨r2,hr2,h⟩:=yj h
 obtain ⟨r3,hr3,h⟩:=yj h
 obtain ⟨r4,hr4,h⟩:=yj h
 rcases Z07 h with ⟨hb5,h⟩ | ⟨hb5,h⟩
 ·obtain rfl:=yl h
  exact y9 241 [ak,.reg [aa, yg [dv (.int .u64 r1)], yg [dv (.int .u64 r2)],aa, yg [dv (.int .u64 r3)], yg [dv (.int .u64 r4)],aa,aa],.reg (e 4),ah,ak] func113 (.c4 (Z0j N p0 r1 hr1) (Z3k N r1 r2 hr2) (Z0j N p1 r3 hr3) (Z3k N r3 r4 hr4) (.cons (Zj8 Z06 hb5) y5))
 ·rcases Z07 h with ⟨hb6,h⟩ | ⟨hb6,h⟩
  ·obtain rfl:=yl h
   exact y9 241 [ak,.reg [aa, yg [dv (.int .u64 r1)], yg [dv (.int .u64 r2)],aa, yg [dv (.int .u64 r3)], yg [dv (.int .u64 r4)],aa,aa],.reg (e 4),ae,.reg (e 4),ah,ak] func113 (.c4 (Z0j N p0 r1 hr1) (Z3k N r1 r2 hr2) (Z0j N p1 r3 hr3) (Z3k N r3 r4 hr4) (.c2 (Z01 Z06 hb5) (Zj8 Z06 hb6) y5))
  ·obtain rfl:=yl h
   exact y9 241 [ak,.reg [aa, yg [dv (.int .u64 r1)], yg [dv (.int .u64 r2)],aa, yg [dv (.int .u64 r3)], yg [dv (.int .u64 r4)],aa,aa],.reg (e 4),ae,.reg (e 4),ae,ak] func113 (.c4 (Z0j N p0 r1 hr1) (Z3k N r1 r2 hr2) (Z0j N p1 r3 hr3) (Z3k N r3 r4 hr4) (.c2 (Z01 Z06 hb5) (Z01 Z06 hb6) y5))
def Zdx (r:Int):List PV:=[vi r]
def Z6o (N:Nat) (p0:Z00) (p1:Z00):Option Int:=(Z51 N p0).bind fun r1=>(Z51 N p1).bind fun r2=>if r1.2=true then if r2.2=true then (Z7i N r1.1 r2.1).bind fun r5=>some r5 else (Z5i N r1.1 p1.fBits).bind fun r6=>some r6 else if r2.2=true then (Z5i N r2.1 p0.fBits).bind fun r8=>some (wrap .i64 (0 - r8)) else (Za5 N p0.fBits p1.fBits).bind fun r9=>some r9
theorem Zde (N:Nat) (p0:Z00) (p1:Z00) (r:Int) (h:Z6o N p0 p1=some r):Ziz prog 82 [.v (.agg (Z0a p0)),.v (.agg (Z0a p1))] (Zdx r):=by
 unfold Z6o at h
 obtain ⟨r1,hr1,h⟩:=yj h
 obtain ⟨r2,hr2,h⟩:=yj h
 rcases Z07 h with ⟨hb3,h⟩ | ⟨hb3,h⟩
 ·rcases Z07 h with ⟨hb4,h⟩ | ⟨hb4,h⟩
  ·obtain ⟨r5,hr5,h⟩:=yj h
   obtain rfl:=yl h
   exact y9 439 [ay,.reg [aa, yg [az r1.1.fNeg r1.1.fMag,dv (.bool r1.2)],aa,aa,aa,aa,aa,aa],.reg [aa, yg [az r2.1.fNeg r2.1.fMag,dv (.bool r2.2)],aa,aa,aa,aa,aa,aa],.reg [aa,aa,aa, { h:=.pick true },aa],ah,.reg [aa,aa, yg [vi r5],aa]] func82 (.c8 y7 (Z2m N p0 r1 hr1) y7 y7 (Z2m N p1 r2 hr2) y7 (Zj8 Z04 hb3) (Zj8 Z04 hb3) (.c4 (Zj8 Z04 hb4) y7 y7 (Z4n N r1.1 r2.1 r5 hr5) y5))
  ·obtain ⟨r6,hr6,h⟩:=yj h
   obtain rfl:=yl h
   exact y9 439 [ay,.reg [aa, yg [az r1.1.fNeg r1.1.fMag,dv (.bool r1.2)],aa,aa,aa,aa,aa,aa],.reg [aa, yg [az r2.1.fNeg r2.1.fMag,dv (.bool r2.2)],aa,aa,aa,aa,aa,aa],.reg [aa,aa,aa, { h:=.pick true },aa],ae,af,ah,.reg [aa,aa,aa, yg [vi r6],aa]] func82 (.c8 y7 (Z2m N p0 r1 hr1) y7 y7 (Z2m N p1 r2 hr2) y7 (Zj8 Z04 hb3) (Zj8 Z04 hb3) (.c4 (Z01 Z04 hb4) (Zj8 Z04 hb3) y7 y7 (.cons (Z9n N r1.1 p1.fBits r6 hr6) y5)))
 ·rcases Z07 h with ⟨hb7,h⟩ | ⟨hb7,h⟩
  ·obtain ⟨r8,hr8,h⟩:=yj h
   obtain rfl:=yl h
   exact y9 439 [ay,.reg [aa, yg [az r1.1.fNeg r1.1.fMag,dv (.bool r1.2)],aa,aa,aa,aa,aa,aa],.reg [aa, yg [az r2.1.fNeg r2.1.fMag,dv (.bool r2.2)],aa,aa,aa,aa,aa,aa],.reg [aa,aa,w0, { h:=.pick false },aa],ae,af,ae,af,ah,.reg [aa,aa,aa, yg [vi r8],aa,aa]] func82 (.c8 y7 (Z2m N p0 r1 hr1) y7 y7 (Z2m N p1 r2 hr2) y7 (Z01 Z04 hb3) (Z01 Z04 hb3) (.c4 yf (Z01 Z04 hb3) (Zj8 Z04 hb7) y7 (.c2 y7 (Z9n N r2.1 p0.fBits r8 hr8) y5)))
  ·obtain ⟨r9,hr9,h⟩:=yj h
   obtain rfl:=yl h
   exact y9 439 [ay,.reg [aa, yg [az r1.1.fNeg r1.1.fMag,dv (.bool r1.2)],aa,aa,aa,aa,aa,aa],.reg [aa, yg [az r2.1.fNeg r2.1.fMag,dv (.bool r2.2)],aa,aa,aa,aa,aa,aa],.reg [aa,aa,w0, { h:=.pick false },aa],ae,af,ae,af,ae,.reg [aa,aa,aa,aa, yg [vi r9],aa]] func82 (.c8 y7 (Z2m N p0 r1 hr1) y7 y7 (Z2m N p1 r2 hr2) y7 (Z01 Z04 hb3) (Z01 Z04 hb3) (.c4 yf (Z01 Z04 hb3) (Z01 Z04 hb7) y7 (.c2 y7 (Zgj N p0.fBits p1.fBits r9 hr9) y5)))
def Zgd (p0:Z00) (p1:Z00):St:={ fr:=([.bad,.bad,(.v (.one (.ptr 2 0))),(.v (.one (.ptr 3 0)))]++bads 14++[(ai p0.fKind)]++bads 62),obs:=[(3,.var (Z0d p1)),(2,.var (Z0d p0))] }
def Z2r (p0:Z00) (p1:Z00) (o:Bool):St:={ fr:=([.bad,.bad,(.v (.one (.ptr 2 0))),(.v (.one (.ptr 3 0)))]++bads 14++[(ai p0.fKind),(da (.bool o))]++bads 61),obs:=[(3,.var (Z0d p1)),(2,.var (Z0d p0))] }
def Zge (p0:Z00) (p1:Z00):St:={ fr:=([.bad,.bad,(.v (.one (.ptr 2 0))),(.v (.one (.ptr 3 0)))]++bads 14++[(ai p0.fKind)]++bads 62),obs:=[(3,.var (Z0d p1)),(2,.var (Z0d p0))] }
def Z33 (p0:Z00) (p1:Z00) (o:Bool):St:={ fr:=([.bad,.bad,(.v (.one (.ptr 2 0))),(.v (.one (.ptr 3 0)))]++bads 14++[(ai p0.fKind)]++bads 7++[(da (.bool o))]++bads 54),obs:=[(3,.var (Z0d p1)),(2,.var (Z0d p0))] }
def Zbd (p0:Z00) (p1:Z00):St:={ fr:=([.bad,.bad,(.v (.one (.ptr 2 0))),(.v (.one (.ptr 3 0)))]++bads 77),obs:=[(3,.var (Z0d p1)),(2,.var (Z0d p0))] }
def Z5p (p0:Z00) (p1:Z00) (o:Unit):St:={ fr:=([.bad,.bad,(.v (.one (.ptr 2 0))),(.v (.one (.ptr 3 0)))]++bads 77),obs:=[(3,.var (Z0d p1)),(2,.var (Z0d p0))] }
def Zau (p0:Z00) (p1:Z00) (o:Int):St:={ fr:=(bads 4++[(ai o)]++bads 76),obs:=[] }
def Z62 (p0:Z00) (p1:Z00) (v5:Int):St:={ fr:=([.bad,.bad,(.v (.one (.ptr 2 0))),(.v (.one (.ptr 3 0))),.bad,(ai v5)]++bads 75),obs:=[(3,.var (Z0d p1)),(2,.var (Z0d p0))] }
def Zaz (p0:Z00) (p1:Z00) (o:Unit):St:={ fr:=bads 81,obs:=[] }
def Zaw (p0:Z00) (p1:Z00) (o:Int):St:={ fr:=(bads 4++[(ai o)]++bads 76),obs:=[] }
def Zby (r:Int):List PV:=[vi r]
mutual
def beehiveref5_cmp_B1:Nat→Z00→Z00→Option (Bool)
 |0,_,_=>none
 |N+1,p0,p1=>if p0.fKind=(1:Int) then some (p0.fKind == (1:Int)) else if p0.fKind=(2:Int) then some (p0.fKind == (2:Int)) else some (p0.fKind == (3:Int))
def beehiveref5_cmp_B2:Nat→Z00→Z00→Option (Bool)
 |0,_,_=>none
 |N+1,p0,p1=>if p0.fKind=(4:Int) then some (p0.fKind == (4:Int)) else some (p0.fKind == (5:Int))
def beehiveref5_cmp_B0:Nat→Z00→Z00→Option ((Unit) ⊕ (Int))
 |0,_,_=>none
 |N+1,p0,p1=>(beehiveref5_cmp_B1 N p0 p1).bind fun r9=>if r9=true then (Z6o N p0 p1).bind fun r11=>some (.inr r11) else (beehiveref5_cmp_B2 N p0 p1).bind fun r13=>if r13=true then (Z4g N p0.fN p1.fN).bind fun r15=>some (.inr r15) else if p0.fKind=(9:Int) then if Op.bytesLess p0.fBytes.toList p1.fBytes.toList=true then some (.inr (-1:Int)) else if ¬ ((Op.bytesLess p0.fBytes.toList p1.fBytes.toList || (p0.fBytes.toList == p1.fBytes.toList))=true) then some (.inr (1:Int)) else some (.inr (0:Int)) else some (.inl ())
def beehiveref5_cmp_L3:Nat→Z00→Z00→Int→Option ((Unit) ⊕ (Int))
 |0,_,_,_=>none
 |N+1,p0,p1,v5=>if v5 < (p0.fArgs.length:Int) then (idx p0.fArgs v5).bind fun x25=>(idx p1.fArgs v5).bind fun x26=>(beehiveref5_cmp N x25 x26).bind fun r27=>if r27 ≠ (0:Int) then some (.inr r27) else beehiveref5_cmp_L3 N p0 p1 (wrap .i64 (v5+(1:Int))) else some (.inl ())
def beehiveref5_cmp:Nat→Z00→Z00→Option Int
 |0,_,_=>none
 |N+1,p0,p1=>(Z6g N p0).bind fun r1=>(Z6g N p1).bind fun r2=>if r1 ≠ r2 then (Z4g N r1 r2).bind fun r6=>some r6 else (beehiveref5_cmp_B0 N p0 p1).bind fun r19=>(match r19 with | .inl r20=>if (p0.fArgs.length:Int) ≠ (p1.fArgs.length:Int) then (Z4g N (p0.fArgs.length:Int) (p1.fArgs.length:Int)).bind fun r23=>some r23 else (beehiveref5_cmp_L3 N p0 p1 (0:Int)).bind fun r29=>(match r29 with | .inl r30=>some (0:Int) | .inr r31=>some r31) | .inr r21=>some r21)
end
structure Zi2 (N:Nat):Prop where
 beehiveref5_cmp_B1:∀ (p0:Z00) (p1:Z00) (r:(Bool)),beehiveref5_cmp_B1 N p0 p1=some r→Ziw prog 733 (partOf f50 [1,1,0,1,0,0]) (Zgd p0 p1 ) .normal (Z2r p0 p1 r)
 beehiveref5_cmp_B2:∀ (p0:Z00) (p1:Z00) (r:(Bool)),beehiveref5_cmp_B2 N p0 p1=some r→Ziw prog 733 (partOf f50 [1,1,0,1,0,1,1,0]) (Zge p0 p1 ) .normal (Z33 p0 p1 r)
 beehiveref5_cmp_B0:∀ (p0:Z00) (p1:Z00) (r:((Unit) ⊕ (Int))),beehiveref5_cmp_B0 N p0 p1=some r→match r with | .inl o=>Ziw prog 733 (partOf f50 [1,1,0]) (Zbd p0 p1 ) .normal (Z5p p0 p1 o) | .inr o=>Ziw prog 733 (partOf f50 [1,1,0]) (Zbd p0 p1 ) .ret (Zau p0 p1 o)
 beehiveref5_cmp_L3:∀ (p0:Z00) (p1:Z00) (v5:Int) (r:((Unit) ⊕ (Int))),beehiveref5_cmp_L3 N p0 p1 v5=some r→match r with | .inl o=>Zj0 prog 733 (partOf f50 [1,1,1,1,0,1,0,0]) (Z62 p0 p1 v5) (.exit 1) (Zaz p0 p1 o) | .inr o=>Zj0 prog 733 (partOf f50 [1,1,1,1,0,1,0,0]) (Z62 p0 p1 v5) .ret (Zaw p0 p1 o)
 beehiveref5_cmp:∀ (p0:Z00) (p1:Z00) (r:Int),beehiveref5_cmp N p0 p1=some r→Ziz prog 50 [.v (.agg (Z0a p0)),.v (.agg (Z0a p1))] (Zby r)
theorem Zcp:∀ N,Zi2 N:=by
 intro N
 induction N with
 |zero =>
  constructor
  ·intro p0 p1 r h; rw [beehiveref5_cmp_B1] at h; cases h
  ·intro p0 p1 r h; rw [beehiveref5_cmp_B2] at h; cases h
  ·intro p0 p1 r h; rw [beehiveref5_cmp_B0] at h; cases h
  ·intro p0 p1 v5 r h; rw [beehiveref5_cmp_L3] at h; cases h
  ·intro p0 p1 r h; rw [beehiveref5_cmp] at h; cases h
 |succ N ih =>
  constructor
  ·intro p0 p1 r h
   rw [beehiveref5_cmp_B1] at h
   rcases Z07 h with ⟨hb7,h⟩ | ⟨hb7,h⟩
   ·obtain rfl:=yl h
    exact y8 [af,ah,.adj [.keep [2,3,18,19] [3,2]]] (.cons (Zj8 Z03 hb7) y5)
   ·rcases Z07 h with ⟨hb8,h⟩ | ⟨hb8,h⟩
    ·obtain rfl:=yl h
     exact y8 [af,ae,af,ah,.adj [.keep [2,3,18,19] [3,2]]] (.c2 (Z01 Z03 hb7) (Zj8 Z03 hb8) y5)
    ·obtain rfl:=yl h
     exact y8 [af,ae,af,ae,af,.adj [.keep [2,3,18,19] [3,2]]] (.c2 (Z01 Z03 hb7) (Z01 Z03 hb8) y5)
  ·intro p0 p1 r h
   rw [beehiveref5_cmp_B2] at h
   rcases Z07 h with ⟨hb12,h⟩ | ⟨hb12,h⟩
   ·obtain rfl:=yl h
    exact y8 [af,ah,.adj [.keep [2,3,18,26] [3,2]]] (.cons (Zj8 Z03 hb12) y5)
   ·obtain rfl:=yl h
    exact y8 [af,ae,af,.adj [.keep [2,3,18,26] [3,2]]] (.cons (Z01 Z03 hb12) y5)
  ·intro p0 p1 r h
   rw [beehiveref5_cmp_B0] at h
   obtain ⟨r9,hr9,h⟩:=yj h
   rcases Z07 h with ⟨hb10,h⟩ | ⟨hb10,h⟩
   ·obtain ⟨r11,hr11,h⟩:=yj h
    obtain rfl:=yl h
    exact y8 [af,.deep 2 [.keep [2,3,18] [3,2]] .normal (Z2r p0 p1 r9),ah,.reg [aa,aa, yg [vi r11],aa],.adj [.keep [4] []]] (.c4 y7 ((ih.beehiveref5_cmp_B1) p0 p1 r9 hr9) (Zj8 Z04 hb10) y7 (.c2 y7 (Zde N p0 p1 r11 hr11) y5))
   ·obtain ⟨r13,hr13,h⟩:=yj h
    rcases Z07 h with ⟨hb14,h⟩ | ⟨hb14,h⟩
    ·obtain ⟨r15,hr15,h⟩:=yj h
     obtain rfl:=yl h
     exact y8 [af,.deep 2 [.keep [2,3,18] [3,2]] .normal (Z2r p0 p1 r9),ae,.deep 1 [.keep [2,3,18] [3,2]] .normal (Z33 p0 p1 r13),ah,.reg [aa,aa,aa,aa, yg [vi r15],aa],.adj [.keep [4] []]] (.c8 y7 ((ih.beehiveref5_cmp_B1) p0 p1 r9 hr9) (Z01 Z04 hb10) ((ih.beehiveref5_cmp_B2) p0 p1 r13 hr13) (Zj8 Z04 hb14) y7 y7 (Z7w N p0.fN p1.fN r15 hr15) y5)
    ·rcases Z07 h with ⟨hb16,h⟩ | ⟨hb16,h⟩
     ·rcases Z07 h with ⟨hb17,h⟩ | ⟨hb17,h⟩
      ·obtain rfl:=yl h
       exact y8 [af,.deep 2 [.keep [2,3,18] [3,2]] .normal (Z2r p0 p1 r9),ae,.deep 1 [.keep [2,3,18] [3,2]] .normal (Z33 p0 p1 r13),ae,af,ah,.reg (e 5),ah,ak,.adj [.keep [4] []]] (.c8 y7 ((ih.beehiveref5_cmp_B1) p0 p1 r9 hr9) (Z01 Z04 hb10) ((ih.beehiveref5_cmp_B2) p0 p1 r13 hr13) (Z01 Z04 hb14) (Zj8 Z03 hb16) y7 y7 (.cons (Zj8 Z04 hb17) y5))
      ·rcases Z07 h with ⟨hb18,h⟩ | ⟨hb18,h⟩
       ·obtain rfl:=yl h
        exact y8 [af,.deep 2 [.keep [2,3,18] [3,2]] .normal (Z2r p0 p1 r9),ae,.deep 1 [.keep [2,3,18] [3,2]] .normal (Z33 p0 p1 r13),ae,af,ah,.reg (e 5),ae,.reg (e 5),ah,ak,.adj [.keep [4] []]] (.c8 y7 ((ih.beehiveref5_cmp_B1) p0 p1 r9 hr9) (Z01 Z04 hb10) ((ih.beehiveref5_cmp_B2) p0 p1 r13 hr13) (Z01 Z04 hb14) (Zj8 Z03 hb16) y7 y7 (.c4 (Z01 Z04 hb17) y7 y7 (Zj8 (Z09 Z04) hb18) y5))
       ·obtain rfl:=yl h
        exact y8 [af,.deep 2 [.keep [2,3,18] [3,2]] .normal (Z2r p0 p1 r9),ae,.deep 1 [.keep [2,3,18] [3,2]] .normal (Z33 p0 p1 r13),ae,af,ah,.reg (e 5),ae,.reg (e 5),ae,ak,.adj [.keep [4] []]] (.c8 y7 ((ih.beehiveref5_cmp_B1) p0 p1 r9 hr9) (Z01 Z04 hb10) ((ih.beehiveref5_cmp_B2) p0 p1 r13 hr13) (Z01 Z04 hb14) (Zj8 Z03 hb16) y7 y7 (.c4 (Z01 Z04 hb17) y7 y7 (Z01 (Z09 Z04) hb18) y5))
     ·obtain rfl:=yl h
      exact y8 [af,.deep 2 [.keep [2,3,18] [3,2]] .normal (Z2r p0 p1 r9),ae,.deep 1 [.keep [2,3,18] [3,2]] .normal (Z33 p0 p1 r13),ae,af,ae,.adj [.keep [2,3] [3,2]]] (.c4 y7 ((ih.beehiveref5_cmp_B1) p0 p1 r9 hr9) (Z01 Z04 hb10) ((ih.beehiveref5_cmp_B2) p0 p1 r13 hr13) (.c2 (Z01 Z04 hb14) (Z01 Z03 hb16) y5))
  ·intro p0 p1 v5 r h
   rw [beehiveref5_cmp_L3] at h
   rcases Z07 h with ⟨hb24,h⟩ | ⟨hb24,h⟩
   ·obtain ⟨x25,hx25,h⟩:=yj h
    obtain ⟨x26,hx26,h⟩:=yj h
    obtain ⟨r27,hr27,h⟩:=yj h
    rcases Z07 h with ⟨hb28,h⟩ | ⟨hb28,h⟩
    ·obtain rfl:=yl h
     exact Zj0.out (y8 [.reg [aa,aa,aa, { cast:=some (ai (p0.fArgs.length:Int)) },aa],ah,.reg [aa,aa,aa, { cast:=some (.v (.one (.fptr (Z13 x25)))) },aa,aa,aa,aa, { cast:=some (.v (.one (.fptr (Z13 x26)))) },aa, yg [vi r27],aa],af,ah,af,.adj [.keep [4] []]] (.c8 y7 (Zjk (r:=Z02) (xs:=p0.fArgs)) (Zj8 Z06 hb24) y7 (Z0m (r:=Z02) hx25) (Z0i hx25 (Z0b x25)) y7 y7 (.c4 (Z0m (r:=Z02) hx26) (Z0i hx26 (Z0b x26)) y7 ((ih.beehiveref5_cmp) x25 x26 r27 hr27) (.cons (Zj8 Z0h hb28) y5)))) (by simp)
    ·have hl:=ih.beehiveref5_cmp_L3 p0 p1 (wrap .i64 (v5+(1:Int))) _ h
     have ha:=Ziw.of_run [.reg [aa,aa,aa, { cast:=some (ai (p0.fArgs.length:Int)) },aa],ah,.reg [aa,aa,aa, { cast:=some (.v (.one (.fptr (Z13 x25)))) },aa,aa,aa,aa, { cast:=some (.v (.one (.fptr (Z13 x26)))) },aa, yg [vi r27],aa],af,ae,ay,.adj [.keep [2,3,5] [3,2]]] (by kernel_rfl:runTo prog 733 (partOf f50 [1,1,1,1,0,1,0,0]) _ (Z62 p0 p1 v5)=some (.normal,(Z62 p0 p1 (wrap .i64 (v5+(1:Int)))),_)) (.c8 y7 (Zjk (r:=Z02) (xs:=p0.fArgs)) (Zj8 Z06 hb24) y7 (Z0m (r:=Z02) hx25) (Z0i hx25 (Z0b x25)) y7 y7 (.c4 (Z0m (r:=Z02) hx26) (Z0i hx26 (Z0b x26)) y7 ((ih.beehiveref5_cmp) x25 x26 r27 hr27) (.cons (Z01 Z0h hb28) y5)))
     rcases r with o | o <;> exact Zj0.again ha hl
   ·obtain rfl:=yl h
    exact Zj0.out (y8 [.reg [aa,aa,aa, { cast:=some (ai (p0.fArgs.length:Int)) },aa],ae,.adj [.keep [] []]] (.c2 y7 (Zjk (r:=Z02) (xs:=p0.fArgs)) (.cons (Z01 Z06 hb24) y5))) (by simp)
  ·intro p0 p1 r h
   rw [beehiveref5_cmp] at h
   obtain ⟨r1,hr1,h⟩:=yj h
   obtain ⟨r2,hr2,h⟩:=yj h
   rcases Z07 h with ⟨hb3,h⟩ | ⟨hb3,h⟩
   ·obtain ⟨r6,hr6,h⟩:=yj h
    obtain rfl:=yl h
    exact y9 733 [ay,.reg [aa, yg [vi r1],aa, yg [vi r2],aa],ah,.reg [aa, yg [vi r1],aa, yg [vi r2], yg [vi r6],aa]] func50 (.c8 y7 (Z14 N p0 r1 hr1) y7 (Z14 N p1 r2 hr2) (Zj8 Z0h hb3) y7 (Z14 N p0 r1 hr1) y7 (.c2 (Z14 N p1 r2 hr2) (Z7w N r1 r2 r6 hr6) y5))
   ·obtain ⟨r19,hr19,h⟩:=yj h
    rcases r19 with r20 | r21
    ·rcases Z07 h with ⟨hb22,h⟩ | ⟨hb22,h⟩
     ·obtain ⟨r23,hr23,h⟩:=yj h
      obtain rfl:=yl h
      exact y9 733 [ay,.reg [aa, yg [vi r1],aa, yg [vi r2],aa],ae,.deep 1 [.keep [2,3] [3,2]] .normal (Z5p p0 p1 r20),.reg [aa,aa, { cast:=some (ai (p0.fArgs.length:Int)) },aa,aa, { cast:=some (ai (p1.fArgs.length:Int)) },aa],ah,.reg [aa,aa, { cast:=some (ai (p0.fArgs.length:Int)) },aa,aa, { cast:=some (ai (p1.fArgs.length:Int)) }, yg [vi r23],aa]] func50 (.c8 y7 (Z14 N p0 r1 hr1) y7 (Z14 N p1 r2 hr2) (Z01 Z0h hb3) ((ih.beehiveref5_cmp_B0) p0 p1 (.inl r20) hr19) y7 (Zjk (r:=Z02) (xs:=p0.fArgs)) (.c8 y7 (Zjk (r:=Z02) (xs:=p1.fArgs)) (Zj8 Z0h hb22) y7 (Zjk (r:=Z02) (xs:=p0.fArgs)) y7 (Zjk (r:=Z02) (xs:=p1.fArgs)) (Z7w N (p0.fArgs.length:Int) (p1.fArgs.length:Int) r23 hr23) y5))
     ·obtain ⟨r29,hr29,h⟩:=yj h
      rcases r29 with r30 | r31
      ·obtain rfl:=yl h
       exact y9 733 [ay,.reg [aa, yg [vi r1],aa, yg [vi r2],aa],ae,.deep 1 [.keep [2,3] [3,2]] .normal (Z5p p0 p1 r20),.reg [aa,aa, { cast:=some (ai (p0.fArgs.length:Int)) },aa,aa, { cast:=some (ai (p1.fArgs.length:Int)) },aa],ae,ak,.adj [.keep [2,3,5] [3,2]],.cut (.exit 1) (Zaz p0 p1 r30),ak] func50 (.c8 y7 (Z14 N p0 r1 hr1) y7 (Z14 N p1 r2 hr2) (Z01 Z0h hb3) ((ih.beehiveref5_cmp_B0) p0 p1 (.inl r20) hr19) y7 (Zjk (r:=Z02) (xs:=p0.fArgs)) (.c4 y7 (Zjk (r:=Z02) (xs:=p1.fArgs)) (Z01 Z0h hb22) (Ziw.of_loop ((ih.beehiveref5_cmp_L3) p0 p1 (0:Int) (.inl r30) hr29)) y5))
      ·obtain rfl:=yl h
       exact y9 733 [ay,.reg [aa, yg [vi r1],aa, yg [vi r2],aa],ae,.deep 1 [.keep [2,3] [3,2]] .normal (Z5p p0 p1 r20),.reg [aa,aa, { cast:=some (ai (p0.fArgs.length:Int)) },aa,aa, { cast:=some (ai (p1.fArgs.length:Int)) },aa],ae,ak,.adj [.keep [2,3,5] [3,2]],.cut .ret (Zaw p0 p1 r31)] func50 (.c8 y7 (Z14 N p0 r1 hr1) y7 (Z14 N p1 r2 hr2) (Z01 Z0h hb3) ((ih.beehiveref5_cmp_B0) p0 p1 (.inl r20) hr19) y7 (Zjk (r:=Z02) (xs:=p0.fArgs)) (.c4 y7 (Zjk (r:=Z02) (xs:=p1.fArgs)) (Z01 Z0h hb22) (Ziw.of_loop ((ih.beehiveref5_cmp_L3) p0 p1 (0:Int) (.inr r31) hr29)) y5))
    ·obtain rfl:=yl h
     exact y9 733 [ay,.reg [aa, yg [vi r1],aa, yg [vi r2],aa],ae,.deep 1 [.keep [2,3] [3,2]] .ret (Zau p0 p1 r21)] func50 (.c4 y7 (Z14 N p0 r1 hr1) y7 (Z14 N p1 r2 hr2) (.c2 (Z01 Z0h hb3) ((ih.beehiveref5_cmp_B0) p0 p1 (.inr r21) hr19) y5))
theorem Zgo (N:Nat) (p0:Z00) (p1:Z00) (r:Int) (h:beehiveref5_cmp N p0 p1=some r):Ziz prog 50 [.v (.agg (Z0a p0)),.v (.agg (Z0a p1))] (Zby r):=(Zcp N).beehiveref5_cmp p0 p1 r h
def Zh7 (r:Int):List PV:=[vi r]
def Z67 (N:Nat) (p0:Z00) (p1:Z00):Option Int:=(Z4x N p0).bind fun r1=>if ¬ (r1=true) then some (0:Int) else (Z4x N p1).bind fun r3=>if ¬ (r3=true) then some (0:Int) else (beehiveref5_cmp N p0 p1).bind fun r5=>some r5
theorem Z5z (N:Nat) (p0:Z00) (p1:Z00) (r:Int) (h:Z67 N p0 p1=some r):Ziz prog 24 [.v (.agg (Z0a p0)),.v (.agg (Z0a p1))] (Zh7 r):=by
 unfold Z67 at h
 obtain ⟨r1,hr1,h⟩:=yj h
 rcases Z07 h with ⟨hb2,h⟩ | ⟨hb2,h⟩
 ·obtain rfl:=yl h
  exact y9 212 [ay,.reg [aa, yg [dv (.bool r1)],aa,aa,w0,w0,w0, { h:=.pick true }],ah,ak] func24 (.c4 y7 (Z19 N p0 r1 hr1) (Zj8 (Z09 Z04) hb2) (Zj8 (Z09 Z04) hb2) (.c2 (Zj8 (Z09 Z04) hb2) (Zj8 (Z09 Z04) hb2) (.cons (Eq.refl true) y5)))
 ·obtain ⟨r3,hr3,h⟩:=yj h
  rcases Z07 h with ⟨hb4,h⟩ | ⟨hb4,h⟩
  ·obtain rfl:=yl h
   exact y9 212 [ay,.reg [aa, yg [dv (.bool r1)],aa,aa,aa, yg [dv (.bool r3)],aa, { h:=.pick false }],ah,ak] func24 (.c8 y7 (Z19 N p0 r1 hr1) (Z01 (Z09 Z04) hb2) y7 (Z01 (Z09 Z04) hb2) (Z19 N p1 r3 hr3) (Z01 (Z09 Z04) hb2) (Z01 (Z09 Z04) hb2) (.cons (Zj8 (Z09 Z04) hb4) y5))
  ·obtain ⟨r5,hr5,h⟩:=yj h
   obtain rfl:=yl h
   exact y9 212 [ay,.reg [aa, yg [dv (.bool r1)],aa,aa,aa, yg [dv (.bool r3)],aa, { h:=.pick false }],ae,.reg [aa,aa, yg [vi r5],aa]] func24 (.c8 y7 (Z19 N p0 r1 hr1) (Z01 (Z09 Z04) hb2) y7 (Z01 (Z09 Z04) hb2) (Z19 N p1 r3 hr3) (Z01 (Z09 Z04) hb2) (Z01 (Z09 Z04) hb2) (.c4 (Z01 (Z09 Z04) hb4) y7 y7 (Zgo N p0 p1 r5 hr5) y5))
def Zgp (r:Bool):List PV:=[dv (.bool r)]
def Z5e (N:Nat) (p0:Z00) (p1:Z00):Option Bool:=(Z67 N p0 p1).bind fun r1=>some (decide (r1 < (0:Int)))
theorem Z5q (N:Nat) (p0:Z00) (p1:Z00) (r:Bool) (h:Z5e N p0 p1=some r):Ziz prog 25 [.v (.agg (Z0a p0)),.v (.agg (Z0a p1))] (Zgp r):=by
 unfold Z5e at h
 obtain ⟨r1,hr1,h⟩:=yj h
 obtain rfl:=yl h
 exact y9 157 [ay,.reg [aa,aa, yg [vi r1],aa,aa]] func25 (.c2 y7 y7 (.cons (Z5z N p0 p1 r1 hr1) y5))
end Go.Proofs.Ytllcnlonkloabaa.Sh
