import Derived.Test.YtllcnlonkloabaaSh3
set_option linter.unusedVariables false
set_option linter.unusedSimpArgs false
set_option maxRecDepth 100000
namespace Go.Proofs.Ytllcnlonkloabaa.Sh
open Go Lift Go.Proofs Go.Proofs.Try
open Go.IntKind (wrap)
def Zes (p0:Z00):St:={ fr:=([.bad,(.v (.one (.ptr 1 0))),.bad,(.v (.one (.ptr 3 0)))]++bads 4++[(ai p0.fKind)]++bads 76),obs:=[(3,.var [.d (.int .i64 p0.fKind),.d (.int .i64 (0:Int)),.d (.bool false),.d (.nils),.d (.int .u64 (0:Int)),.d (.str (ByteArray.mk #[])),.d (.nils)]),(1,.var (Z0d p0))] }
def Z1x (p0:Z00) (o:Bool):St:={ fr:=([.bad,(.v (.one (.ptr 1 0))),.bad,(.v (.one (.ptr 3 0)))]++bads 4++[(ai p0.fKind),(da (.bool o))]++bads 75),obs:=[(3,.var [.d (.int .i64 p0.fKind),.d (.int .i64 (0:Int)),.d (.bool false),.d (.nils),.d (.int .u64 (0:Int)),.d (.str (ByteArray.mk #[])),.d (.nils)]),(1,.var (Z0d p0))] }
def Z5x:Nat→Z00→Option (Bool)
 |0,_=>none
 |N+1,p0=>if p0.fKind=(1:Int) then some (p0.fKind == (1:Int)) else if p0.fKind=(4:Int) then some (p0.fKind == (4:Int)) else some (p0.fKind == (5:Int))
theorem Z20:∀ (N:Nat) (p0:Z00) (r:(Bool)),Z5x N p0=some r→Ziw prog 749 (partOf f107 [1,1,0,1,0,0]) (Zes p0 ) .normal (Z1x p0 r):=by
 intro N
 induction N with
 |zero=>intro p0 r h; cases h
 |succ N ih =>
  intro p0 r h
  rw [Z5x] at h
  rcases Z07 h with ⟨hb1,h⟩ | ⟨hb1,h⟩
  ·obtain rfl:=yl h
   exact y8 [af,ah,.adj [.keep [1,3,8,9] [3,1]]] (.cons (Zj8 Z03 hb1) y5)
  ·rcases Z07 h with ⟨hb2,h⟩ | ⟨hb2,h⟩
   ·obtain rfl:=yl h
    exact y8 [af,ae,af,ah,.adj [.keep [1,3,8,9] [3,1]]] (.c2 (Z01 Z03 hb1) (Zj8 Z03 hb2) y5)
   ·obtain rfl:=yl h
    exact y8 [af,ae,af,ae,af,.adj [.keep [1,3,8,9] [3,1]]] (.c2 (Z01 Z03 hb1) (Z01 Z03 hb2) y5)
def Zep (p0:Z00):St:={ fr:=([.bad,(.v (.one (.ptr 1 0))),.bad,(.v (.one (.ptr 3 0)))]++bads 81),obs:=[(3,.var [.d (.int .i64 p0.fKind),.d (.int .i64 (0:Int)),.d (.bool false),.d (.nils),.d (.int .u64 (0:Int)),.d (.str (ByteArray.mk #[])),.d (.nils)]),(1,.var (Z0d p0))] }
def Za7 (p0:Z00) (o:Int × Bool × (List Int) × Int × ByteArray × (List Z00)):St:={ fr:=([.bad,(.v (.one (.ptr 1 0))),.bad,(.v (.one (.ptr 3 0)))]++bads 81),obs:=[(3,.var [.d (.int .i64 p0.fKind),.d (.int .i64 o.1),.d (.bool o.2.1),.d (.sl 1 (o.2.2.1.map (rI .u32))),.d (.int .u64 o.2.2.2.1),.d (.str o.2.2.2.2.1),.d (.sl 7 (o.2.2.2.2.2.map Z02))]),(1,.var (Z0d p0))] }
def Z5y:Nat→Z00→Option (Int × Bool × (List Int) × Int × ByteArray × (List Z00))
 |0,_=>none
 |N+1,p0=>(Z5x N p0).bind fun r3=>if r3=true then some (p0.fN,false,[],(0:Int),(ByteArray.mk #[]),[]) else if p0.fKind=(2:Int) then some ((0:Int),p0.fNum.fNeg,p0.fNum.fMag,(0:Int),(ByteArray.mk #[]),[]) else if p0.fKind=(3:Int) then some ((0:Int),false,[],p0.fBits,(ByteArray.mk #[]),[]) else if p0.fKind=(6:Int) then some ((0:Int),false,[],(0:Int),(ByteArray.mk #[]),p0.fArgs) else if p0.fKind=(8:Int) then some ((0:Int),false,[],(0:Int),(ByteArray.mk #[]),p0.fArgs) else if p0.fKind=(9:Int) then some ((0:Int),false,[],(0:Int),p0.fBytes,[]) else some ((0:Int),false,[],(0:Int),(ByteArray.mk #[]),[])
theorem Zcr:∀ (N:Nat) (p0:Z00) (r:(Int × Bool × (List Int) × Int × ByteArray × (List Z00))),Z5y N p0=some r→Ziw prog 749 (partOf f107 [1,1,0]) (Zep p0 ) .normal (Za7 p0 r):=by
 intro N
 induction N with
 |zero=>intro p0 r h; cases h
 |succ N ih =>
  intro p0 r h
  rw [Z5y] at h
  obtain ⟨r3,hr3,h⟩:=yj h
  rcases Z07 h with ⟨hb4,h⟩ | ⟨hb4,h⟩
  ·obtain rfl:=yl h
   exact y8 [af,.deep 2 [.keep [1,3,8] [3,1]] .normal (Z1x p0 r3),ah,.reg (e 4),.adj [.ob 3 (.var [.d (.int .i64 p0.fKind),.d (.int .i64 p0.fN),.d (.bool false),.d (.sl 1 []),.d (.int .u64 (0:Int)),.d (.str (ByteArray.mk #[])),.d (.nils)]),.ob 3 (.var [.d (.int .i64 p0.fKind),.d (.int .i64 p0.fN),.d (.bool false),.d (.sl 1 []),.d (.int .u64 (0:Int)),.d (.str (ByteArray.mk #[])),.d (.sl 7 [])]),.keep [1,3] [3,1]]] (.c4 y7 (Z20 N p0 r3 hr3) (Zj8 Z04 hb4) y7 (.c2 y7 (Ob.Le.var (All2.cons (AC.Le.refl _) (All2.cons (AC.Le.refl _) (All2.cons (AC.Le.refl _) (All2.cons (AC.Le.d (C.Le.nils 1)) (All2.cons (AC.Le.refl _) (All2.cons (AC.Le.refl _) (All2.cons (AC.Le.refl _) (All2.nil)))))))):Ob.Le (.var [.d (.int .i64 p0.fKind),.d (.int .i64 p0.fN),.d (.bool false),.d (.nils),.d (.int .u64 (0:Int)),.d (.str (ByteArray.mk #[])),.d (.nils)]) (.var [.d (.int .i64 p0.fKind),.d (.int .i64 p0.fN),.d (.bool false),.d (.sl 1 []),.d (.int .u64 (0:Int)),.d (.str (ByteArray.mk #[])),.d (.nils)])) (.cons (Ob.Le.var (All2.cons (AC.Le.refl _) (All2.cons (AC.Le.refl _) (All2.cons (AC.Le.refl _) (All2.cons (AC.Le.refl _) (All2.cons (AC.Le.refl _) (All2.cons (AC.Le.refl _) (All2.cons (AC.Le.d (C.Le.nils 7)) (All2.nil)))))))):Ob.Le (.var [.d (.int .i64 p0.fKind),.d (.int .i64 p0.fN),.d (.bool false),.d (.sl 1 []),.d (.int .u64 (0:Int)),.d (.str (ByteArray.mk #[])),.d (.nils)]) (.var [.d (.int .i64 p0.fKind),.d (.int .i64 p0.fN),.d (.bool false),.d (.sl 1 []),.d (.int .u64 (0:Int)),.d (.str (ByteArray.mk #[])),.d (.sl 7 [])])) y5)))
  ·rcases Z07 h with ⟨hb5,h⟩ | ⟨hb5,h⟩
   ·obtain rfl:=yl h
    exact y8 [af,.deep 2 [.keep [1,3,8] [3,1]] .normal (Z1x p0 r3),ae,af,ah,.reg (e 4),.adj [.ob 3 (.var [.d (.int .i64 p0.fKind),.d (.int .i64 (0:Int)),.d (.bool p0.fNum.fNeg),.d (.sl 1 (p0.fNum.fMag.map (rI .u32))),.d (.int .u64 (0:Int)),.d (.str (ByteArray.mk #[])),.d (.sl 7 [])]),.keep [1,3] [3,1]]] (.c4 y7 (Z20 N p0 r3 hr3) (Z01 Z04 hb4) (Zj8 Z03 hb5) (.c2 y7 y7 (.cons (Ob.Le.var (All2.cons (AC.Le.refl _) (All2.cons (AC.Le.refl _) (All2.cons (AC.Le.refl _) (All2.cons (AC.Le.refl _) (All2.cons (AC.Le.refl _) (All2.cons (AC.Le.refl _) (All2.cons (AC.Le.d (C.Le.nils 7)) (All2.nil)))))))):Ob.Le (.var [.d (.int .i64 p0.fKind),.d (.int .i64 (0:Int)),.d (.bool p0.fNum.fNeg),.d (.sl 1 (p0.fNum.fMag.map (rI .u32))),.d (.int .u64 (0:Int)),.d (.str (ByteArray.mk #[])),.d (.nils)]) (.var [.d (.int .i64 p0.fKind),.d (.int .i64 (0:Int)),.d (.bool p0.fNum.fNeg),.d (.sl 1 (p0.fNum.fMag.map (rI .u32))),.d (.int .u64 (0:Int)),.d (.str (ByteArray.mk #[])),.d (.sl 7 [])])) y5)))
   ·rcases Z07 h with ⟨hb6,h⟩ | ⟨hb6,h⟩
    ·obtain rfl:=yl h
     exact y8 [af,.deep 2 [.keep [1,3,8] [3,1]] .normal (Z1x p0 r3),ae,af,ae,af,ah,.reg (e 4),.adj [.ob 3 (.var [.d (.int .i64 p0.fKind),.d (.int .i64 (0:Int)),.d (.bool false),.d (.sl 1 []),.d (.int .u64 p0.fBits),.d (.str (ByteArray.mk #[])),.d (.nils)]),.ob 3 (.var [.d (.int .i64 p0.fKind),.d (.int .i64 (0:Int)),.d (.bool false),.d (.sl 1 []),.d (.int .u64 p0.fBits),.d (.str (ByteArray.mk #[])),.d (.sl 7 [])]),.keep [1,3] [3,1]]] (.c8 y7 (Z20 N p0 r3 hr3) (Z01 Z04 hb4) (Z01 Z03 hb5) (Zj8 Z03 hb6) y7 y7 (Ob.Le.var (All2.cons (AC.Le.refl _) (All2.cons (AC.Le.refl _) (All2.cons (AC.Le.refl _) (All2.cons (AC.Le.d (C.Le.nils 1)) (All2.cons (AC.Le.refl _) (All2.cons (AC.Le.refl _) (All2.cons (AC.Le.refl _) (All2.nil)))))))):Ob.Le (.var [.d (.int .i64 p0.fKind),.d (.int .i64 (0:Int)),.d (.bool false),.d (.nils),.d (.int .u64 p0.fBits),.d (.str (ByteArray.mk #[])),.d (.nils)]) (.var [.d (.int .i64 p0.fKind),.d (.int .i64 (0:Int)),.d (.bool false),.d (.sl 1 []),.d (.int .u64 p0.fBits),.d (.str (ByteArray.mk #[])),.d (.nils)])) (.cons (Ob.Le.var (All2.cons (AC.Le.refl _) (All2.cons (AC.Le.refl _) (All2.cons (AC.Le.refl _) (All2.cons (AC.Le.refl _) (All2.cons (AC.Le.refl _) (All2.cons (AC.Le.refl _) (All2.cons (AC.Le.d (C.Le.nils 7)) (All2.nil)))))))):Ob.Le (.var [.d (.int .i64 p0.fKind),.d (.int .i64 (0:Int)),.d (.bool false),.d (.sl 1 []),.d (.int .u64 p0.fBits),.d (.str (ByteArray.mk #[])),.d (.nils)]) (.var [.d (.int .i64 p0.fKind),.d (.int .i64 (0:Int)),.d (.bool false),.d (.sl 1 []),.d (.int .u64 p0.fBits),.d (.str (ByteArray.mk #[])),.d (.sl 7 [])])) y5))
    ·rcases Z07 h with ⟨hb7,h⟩ | ⟨hb7,h⟩
     ·obtain rfl:=yl h
      exact y8 [af,.deep 2 [.keep [1,3,8] [3,1]] .normal (Z1x p0 r3),ae,af,ae,af,ae,af,ah,ah,.reg (e 4),.adj [.ob 3 (.var [.d (.int .i64 p0.fKind),.d (.int .i64 (0:Int)),.d (.bool false),.d (.sl 1 []),.d (.int .u64 (0:Int)),.d (.str (ByteArray.mk #[])),.d (.sl 7 (p0.fArgs.map Z02))]),.keep [1,3] [3,1]]] (.c8 y7 (Z20 N p0 r3 hr3) (Z01 Z04 hb4) (Z01 Z03 hb5) (Z01 Z03 hb6) (Zj8 Z03 hb7) (Zj8 Z03 hb7) y7 (.c2 y7 (Ob.Le.var (All2.cons (AC.Le.refl _) (All2.cons (AC.Le.refl _) (All2.cons (AC.Le.refl _) (All2.cons (AC.Le.d (C.Le.nils 1)) (All2.cons (AC.Le.refl _) (All2.cons (AC.Le.refl _) (All2.cons (AC.Le.refl _) (All2.nil)))))))):Ob.Le (.var [.d (.int .i64 p0.fKind),.d (.int .i64 (0:Int)),.d (.bool false),.d (.nils),.d (.int .u64 (0:Int)),.d (.str (ByteArray.mk #[])),.d (.sl 7 (p0.fArgs.map Z02))]) (.var [.d (.int .i64 p0.fKind),.d (.int .i64 (0:Int)),.d (.bool false),.d (.sl 1 []),.d (.int .u64 (0:Int)),.d (.str (ByteArray.mk #[])),.d (.sl 7 (p0.fArgs.map Z02))])) y5))
     ·rcases Z07 h with ⟨hb8,h⟩ | ⟨hb8,h⟩
      ·obtain rfl:=yl h
       exact y8 [af,.deep 2 [.keep [1,3,8] [3,1]] .normal (Z1x p0 r3),ae,af,ae,af,ae,af,ae,af,ah,.reg (e 4),.adj [.ob 3 (.var [.d (.int .i64 p0.fKind),.d (.int .i64 (0:Int)),.d (.bool false),.d (.sl 1 []),.d (.int .u64 (0:Int)),.d (.str (ByteArray.mk #[])),.d (.sl 7 (p0.fArgs.map Z02))]),.keep [1,3] [3,1]]] (.c8 y7 (Z20 N p0 r3 hr3) (Z01 Z04 hb4) (Z01 Z03 hb5) (Z01 Z03 hb6) (Z01 Z03 hb7) (Zj8 Z03 hb8) y7 (.c2 y7 (Ob.Le.var (All2.cons (AC.Le.refl _) (All2.cons (AC.Le.refl _) (All2.cons (AC.Le.refl _) (All2.cons (AC.Le.d (C.Le.nils 1)) (All2.cons (AC.Le.refl _) (All2.cons (AC.Le.refl _) (All2.cons (AC.Le.refl _) (All2.nil)))))))):Ob.Le (.var [.d (.int .i64 p0.fKind),.d (.int .i64 (0:Int)),.d (.bool false),.d (.nils),.d (.int .u64 (0:Int)),.d (.str (ByteArray.mk #[])),.d (.sl 7 (p0.fArgs.map Z02))]) (.var [.d (.int .i64 p0.fKind),.d (.int .i64 (0:Int)),.d (.bool false),.d (.sl 1 []),.d (.int .u64 (0:Int)),.d (.str (ByteArray.mk #[])),.d (.sl 7 (p0.fArgs.map Z02))])) y5))
      ·rcases Z07 h with ⟨hb9,h⟩ | ⟨hb9,h⟩
       ·obtain rfl:=yl h
        exact y8 [af,.deep 2 [.keep [1,3,8] [3,1]] .normal (Z1x p0 r3),ae,af,ae,af,ae,af,ae,af,ae,af,ah,.reg (e 4),.adj [.ob 3 (.var [.d (.int .i64 p0.fKind),.d (.int .i64 (0:Int)),.d (.bool false),.d (.sl 1 []),.d (.int .u64 (0:Int)),.d (.str p0.fBytes),.d (.nils)]),.ob 3 (.var [.d (.int .i64 p0.fKind),.d (.int .i64 (0:Int)),.d (.bool false),.d (.sl 1 []),.d (.int .u64 (0:Int)),.d (.str p0.fBytes),.d (.sl 7 [])]),.keep [1,3] [3,1]]] (.c8 y7 (Z20 N p0 r3 hr3) (Z01 Z04 hb4) (Z01 Z03 hb5) (Z01 Z03 hb6) (Z01 Z03 hb7) (Z01 Z03 hb8) (Zj8 Z03 hb9) (.c4 y7 y7 (Ob.Le.var (All2.cons (AC.Le.refl _) (All2.cons (AC.Le.refl _) (All2.cons (AC.Le.refl _) (All2.cons (AC.Le.d (C.Le.nils 1)) (All2.cons (AC.Le.refl _) (All2.cons (AC.Le.refl _) (All2.cons (AC.Le.refl _) (All2.nil)))))))):Ob.Le (.var [.d (.int .i64 p0.fKind),.d (.int .i64 (0:Int)),.d (.bool false),.d (.nils),.d (.int .u64 (0:Int)),.d (.str p0.fBytes),.d (.nils)]) (.var [.d (.int .i64 p0.fKind),.d (.int .i64 (0:Int)),.d (.bool false),.d (.sl 1 []),.d (.int .u64 (0:Int)),.d (.str p0.fBytes),.d (.nils)])) (Ob.Le.var (All2.cons (AC.Le.refl _) (All2.cons (AC.Le.refl _) (All2.cons (AC.Le.refl _) (All2.cons (AC.Le.refl _) (All2.cons (AC.Le.refl _) (All2.cons (AC.Le.refl _) (All2.cons (AC.Le.d (C.Le.nils 7)) (All2.nil)))))))):Ob.Le (.var [.d (.int .i64 p0.fKind),.d (.int .i64 (0:Int)),.d (.bool false),.d (.sl 1 []),.d (.int .u64 (0:Int)),.d (.str p0.fBytes),.d (.nils)]) (.var [.d (.int .i64 p0.fKind),.d (.int .i64 (0:Int)),.d (.bool false),.d (.sl 1 []),.d (.int .u64 (0:Int)),.d (.str p0.fBytes),.d (.sl 7 [])])) y5))
       ·obtain rfl:=yl h
        exact y8 [af,.deep 2 [.keep [1,3,8] [3,1]] .normal (Z1x p0 r3),ae,af,ae,af,ae,af,ae,af,ae,af,ae,.adj [.ob 3 (.var [.d (.int .i64 p0.fKind),.d (.int .i64 (0:Int)),.d (.bool false),.d (.sl 1 []),.d (.int .u64 (0:Int)),.d (.str (ByteArray.mk #[])),.d (.nils)]),.ob 3 (.var [.d (.int .i64 p0.fKind),.d (.int .i64 (0:Int)),.d (.bool false),.d (.sl 1 []),.d (.int .u64 (0:Int)),.d (.str (ByteArray.mk #[])),.d (.sl 7 [])]),.keep [1,3] [3,1]]] (.c8 y7 (Z20 N p0 r3 hr3) (Z01 Z04 hb4) (Z01 Z03 hb5) (Z01 Z03 hb6) (Z01 Z03 hb7) (Z01 Z03 hb8) (Z01 Z03 hb9) (.c2 (Ob.Le.var (All2.cons (AC.Le.refl _) (All2.cons (AC.Le.refl _) (All2.cons (AC.Le.refl _) (All2.cons (AC.Le.d (C.Le.nils 1)) (All2.cons (AC.Le.refl _) (All2.cons (AC.Le.refl _) (All2.cons (AC.Le.refl _) (All2.nil)))))))):Ob.Le (.var [.d (.int .i64 p0.fKind),.d (.int .i64 (0:Int)),.d (.bool false),.d (.nils),.d (.int .u64 (0:Int)),.d (.str (ByteArray.mk #[])),.d (.nils)]) (.var [.d (.int .i64 p0.fKind),.d (.int .i64 (0:Int)),.d (.bool false),.d (.sl 1 []),.d (.int .u64 (0:Int)),.d (.str (ByteArray.mk #[])),.d (.nils)])) (Ob.Le.var (All2.cons (AC.Le.refl _) (All2.cons (AC.Le.refl _) (All2.cons (AC.Le.refl _) (All2.cons (AC.Le.refl _) (All2.cons (AC.Le.refl _) (All2.cons (AC.Le.refl _) (All2.cons (AC.Le.d (C.Le.nils 7)) (All2.nil)))))))):Ob.Le (.var [.d (.int .i64 p0.fKind),.d (.int .i64 (0:Int)),.d (.bool false),.d (.sl 1 []),.d (.int .u64 (0:Int)),.d (.str (ByteArray.mk #[])),.d (.nils)]) (.var [.d (.int .i64 p0.fKind),.d (.int .i64 (0:Int)),.d (.bool false),.d (.sl 1 []),.d (.int .u64 (0:Int)),.d (.str (ByteArray.mk #[])),.d (.sl 7 [])])) y5))
def Zeq (p0:Z00) (r10:(Int × Bool × (List Int) × Int × ByteArray × (List Z00))):St:={ fr:=([.bad,(.v (.one (.ptr 1 0))),.bad,(.v (.one (.ptr 3 0)))]++bads 81),obs:=[(3,.var [.d (.int .i64 p0.fKind),.d (.int .i64 r10.1),.d (.bool r10.2.1),.d (.sl 1 (r10.2.2.1.map (rI .u32))),.d (.int .u64 r10.2.2.2.1),.d (.str r10.2.2.2.2.1),.d (.sl 7 (r10.2.2.2.2.2.map Z02))]),(1,.var (Z0d p0))] }
def Z9r (p0:Z00) (r10:(Int × Bool × (List Int) × Int × ByteArray × (List Z00))) (o:Bool):St:={ fr:=([.bad,.bad,(da (.bool o))]++bads 82),obs:=[] }
def Z63:Nat→Z00→(Int × Bool × (List Int) × Int × ByteArray × (List Z00))→Option (Bool)
 |0,_,_=>none
 |N+1,p0,r10=>if p0.fN=r10.1 then if (p0.fNum.fMag.length:Int)=(r10.2.2.1.length:Int) then if p0.fNum.fNeg=r10.2.1 then if p0.fBits=r10.2.2.2.1 then if p0.fBytes=r10.2.2.2.2.1 then some ((p0.fArgs.length:Int) == (r10.2.2.2.2.2.length:Int)) else some false else some false else some false else some false else some false
theorem Zcx:∀ (N:Nat) (p0:Z00) (r10:(Int × Bool × (List Int) × Int × ByteArray × (List Z00))) (r:(Bool)),Z63 N p0 r10=some r→Ziw prog 749 (partOf f107 [1,1,1,0]) (Zeq p0 r10 ) .normal (Z9r p0 r10 r):=by
 intro N
 induction N with
 |zero=>intro p0 r10 r h; cases h
 |succ N ih =>
  intro p0 r10 r h
  rw [Z63] at h
  rcases Z07 h with ⟨hb11,h⟩ | ⟨hb11,h⟩
  ·rcases Z07 h with ⟨hb12,h⟩ | ⟨hb12,h⟩
   ·rcases Z07 h with ⟨hb13,h⟩ | ⟨hb13,h⟩
    ·rcases Z07 h with ⟨hb14,h⟩ | ⟨hb14,h⟩
     ·rcases Z07 h with ⟨hb15,h⟩ | ⟨hb15,h⟩
      ·obtain rfl:=yl h
       exact y8 [.reg [aa,aa,aa,aa,aa,aa,aa,aa,aa, { cast:=some (ai (p0.fNum.fMag.length:Int)) },aa,aa,aa, { cast:=some (ai (r10.2.2.1.length:Int)) },aa, { h:=.pick true },aa,aa,aa,aa,aa,aa,aa,aa, { h:=.pick true },aa,aa,aa,aa,aa,aa, { h:=.pick true },aa,aa,aa,aa,aa,aa, { h:=.pick true },aa,aa,aa, { cast:=some (ai (p0.fArgs.length:Int)) },aa,aa, { cast:=some (ai (r10.2.2.2.2.2.length:Int)) },aa, { h:=.pick true },aa],.adj [.keep [2] []]] (.c8 y7 y7 (Zj8 Z03 hb11) (Zj8 Z03 hb11) (Zj8 Z03 hb11) y7 (Zj8 Z03 hb11) (Zjk:AV.Le (ai (((p0.fNum.fMag.map (rI .u32)).length:Nat):Int)) (ai (p0.fNum.fMag.length:Int))) (.c8 (Zj8 Z03 hb11) (Zj8 Z03 hb11) (Zj8 Z03 hb11) y7 (Zj8 Z03 hb11) (Zjk:AV.Le (ai (((r10.2.2.1.map (rI .u32)).length:Nat):Int)) (ai (r10.2.2.1.length:Int))) (Zj8 Z03 hb11) (Zj8 Z03 hb11) (.c8 (Zj8 Z03 hb12) (Zj8 Z03 hb12) (Zj8 Z03 hb12) y7 (Zj8 Z03 hb12) (Zj8 Z03 hb12) (Zj8 Z03 hb12) y7 (.c8 (Zj8 Z03 hb12) (Zj8 Z03 hb12) (Zj8 Z16 hb13) (Zj8 Z16 hb13) y7 (Zj8 Z16 hb13) (Zj8 Z16 hb13) y7 (.c8 (Zj8 Z16 hb13) (Zj8 Z16 hb13) (Zj8 Z03 hb14) (Zj8 Z03 hb14) y7 (Zj8 Z03 hb14) (Zj8 Z03 hb14) y7 (.c8 (Zj8 Z03 hb14) (Zj8 Z03 hb14) (Zj8 Z0u hb15) (Zj8 Z0u hb15) y7 (Zj8 Z0u hb15) (Zjk (r:=Z02) (xs:=p0.fArgs)) (Zj8 Z0u hb15) (.c4 (Zj8 Z0u hb15) y7 (Zj8 Z0u hb15) (Zjk (r:=Z02) (xs:=r10.2.2.2.2.2)) (.c2 (Zj8 Z0u hb15) (Zj8 Z0u hb15) y5))))))))
      ·obtain rfl:=yl h
       exact y8 [.reg [aa,aa,aa,aa,aa,aa,aa,aa,aa, { cast:=some (ai (p0.fNum.fMag.length:Int)) },aa,aa,aa, { cast:=some (ai (r10.2.2.1.length:Int)) },aa, { h:=.pick true },aa,aa,aa,aa,aa,aa,aa,aa, { h:=.pick true },aa,aa,aa,aa,aa,aa, { h:=.pick true },aa,aa,aa,aa,aa,aa, { h:=.pick true },aa,w0,w0,w0,w0,w0,w0,w0, { h:=.pick false },aa],.adj [.keep [2] []]] (.c8 y7 y7 (Zj8 Z03 hb11) (Zj8 Z03 hb11) (Zj8 Z03 hb11) y7 (Zj8 Z03 hb11) (Zjk:AV.Le (ai (((p0.fNum.fMag.map (rI .u32)).length:Nat):Int)) (ai (p0.fNum.fMag.length:Int))) (.c8 (Zj8 Z03 hb11) (Zj8 Z03 hb11) (Zj8 Z03 hb11) y7 (Zj8 Z03 hb11) (Zjk:AV.Le (ai (((r10.2.2.1.map (rI .u32)).length:Nat):Int)) (ai (r10.2.2.1.length:Int))) (Zj8 Z03 hb11) (Zj8 Z03 hb11) (.c8 (Zj8 Z03 hb12) (Zj8 Z03 hb12) (Zj8 Z03 hb12) y7 (Zj8 Z03 hb12) (Zj8 Z03 hb12) (Zj8 Z03 hb12) y7 (.c8 (Zj8 Z03 hb12) (Zj8 Z03 hb12) (Zj8 Z16 hb13) (Zj8 Z16 hb13) y7 (Zj8 Z16 hb13) (Zj8 Z16 hb13) y7 (.c8 (Zj8 Z16 hb13) (Zj8 Z16 hb13) (Zj8 Z03 hb14) (Zj8 Z03 hb14) y7 (Zj8 Z03 hb14) (Zj8 Z03 hb14) y7 (.c8 (Zj8 Z03 hb14) (Zj8 Z03 hb14) (Z01 Z0u hb15) (Z01 Z0u hb15) (Z01 Z0u hb15) (Z01 Z0u hb15) (Z01 Z0u hb15) (Z01 Z0u hb15) (.c2 (Z01 Z0u hb15) (Z01 Z0u hb15) y5)))))))
     ·obtain rfl:=yl h
      exact y8 [.reg [aa,aa,aa,aa,aa,aa,aa,aa,aa, { cast:=some (ai (p0.fNum.fMag.length:Int)) },aa,aa,aa, { cast:=some (ai (r10.2.2.1.length:Int)) },aa, { h:=.pick true },aa,aa,aa,aa,aa,aa,aa,aa, { h:=.pick true },aa,aa,aa,aa,aa,aa, { h:=.pick true },aa,w0,w0,w0,w0,w0, { h:=.pick false },aa,w0,w0,w0,w0,w0,w0,w0, { h:=.pick false },aa],.adj [.keep [2] []]] (.c8 y7 y7 (Zj8 Z03 hb11) (Zj8 Z03 hb11) (Zj8 Z03 hb11) y7 (Zj8 Z03 hb11) (Zjk:AV.Le (ai (((p0.fNum.fMag.map (rI .u32)).length:Nat):Int)) (ai (p0.fNum.fMag.length:Int))) (.c8 (Zj8 Z03 hb11) (Zj8 Z03 hb11) (Zj8 Z03 hb11) y7 (Zj8 Z03 hb11) (Zjk:AV.Le (ai (((r10.2.2.1.map (rI .u32)).length:Nat):Int)) (ai (r10.2.2.1.length:Int))) (Zj8 Z03 hb11) (Zj8 Z03 hb11) (.c8 (Zj8 Z03 hb12) (Zj8 Z03 hb12) (Zj8 Z03 hb12) y7 (Zj8 Z03 hb12) (Zj8 Z03 hb12) (Zj8 Z03 hb12) y7 (.c8 (Zj8 Z03 hb12) (Zj8 Z03 hb12) (Zj8 Z16 hb13) (Zj8 Z16 hb13) y7 (Zj8 Z16 hb13) (Zj8 Z16 hb13) y7 (.c8 (Zj8 Z16 hb13) (Zj8 Z16 hb13) (Z01 Z03 hb14) (Z01 Z03 hb14) (Z01 Z03 hb14) (Z01 Z03 hb14) (Z01 Z03 hb14) (Z01 Z03 hb14) (.c8 yf yf yf yf yf yf yf yf y5))))))
    ·obtain rfl:=yl h
     exact y8 [.reg [aa,aa,aa,aa,aa,aa,aa,aa,aa, { cast:=some (ai (p0.fNum.fMag.length:Int)) },aa,aa,aa, { cast:=some (ai (r10.2.2.1.length:Int)) },aa, { h:=.pick true },aa,aa,aa,aa,aa,aa,aa,aa, { h:=.pick true },aa,w0,w0,w0,w0,w0, { h:=.pick false },aa,w0,w0,w0,w0,w0, { h:=.pick false },aa,w0,w0,w0,w0,w0,w0,w0, { h:=.pick false },aa],.adj [.keep [2] []]] (.c8 y7 y7 (Zj8 Z03 hb11) (Zj8 Z03 hb11) (Zj8 Z03 hb11) y7 (Zj8 Z03 hb11) (Zjk:AV.Le (ai (((p0.fNum.fMag.map (rI .u32)).length:Nat):Int)) (ai (p0.fNum.fMag.length:Int))) (.c8 (Zj8 Z03 hb11) (Zj8 Z03 hb11) (Zj8 Z03 hb11) y7 (Zj8 Z03 hb11) (Zjk:AV.Le (ai (((r10.2.2.1.map (rI .u32)).length:Nat):Int)) (ai (r10.2.2.1.length:Int))) (Zj8 Z03 hb11) (Zj8 Z03 hb11) (.c8 (Zj8 Z03 hb12) (Zj8 Z03 hb12) (Zj8 Z03 hb12) y7 (Zj8 Z03 hb12) (Zj8 Z03 hb12) (Zj8 Z03 hb12) y7 (.c8 (Zj8 Z03 hb12) (Zj8 Z03 hb12) (Z01 Z16 hb13) (Z01 Z16 hb13) (Z01 Z16 hb13) (Z01 Z16 hb13) (Z01 Z16 hb13) (Z01 Z16 hb13) (.c8 yf yf yf yf yf yf yf yf (.c4 yf yf yf yf (.c2 yf yf y5)))))))
   ·obtain rfl:=yl h
    exact y8 [.reg [aa,aa,aa,aa,aa,aa,aa,aa,aa, { cast:=some (ai (p0.fNum.fMag.length:Int)) },aa,aa,aa, { cast:=some (ai (r10.2.2.1.length:Int)) },aa, { h:=.pick true },aa,w0,w0,w0,w0,w0,w0,w0, { h:=.pick false },aa,w0,w0,w0,w0,w0, { h:=.pick false },aa,w0,w0,w0,w0,w0, { h:=.pick false },aa,w0,w0,w0,w0,w0,w0,w0, { h:=.pick false },aa],.adj [.keep [2] []]] (.c8 y7 y7 (Zj8 Z03 hb11) (Zj8 Z03 hb11) (Zj8 Z03 hb11) y7 (Zj8 Z03 hb11) (Zjk:AV.Le (ai (((p0.fNum.fMag.map (rI .u32)).length:Nat):Int)) (ai (p0.fNum.fMag.length:Int))) (.c8 (Zj8 Z03 hb11) (Zj8 Z03 hb11) (Zj8 Z03 hb11) y7 (Zj8 Z03 hb11) (Zjk:AV.Le (ai (((r10.2.2.1.map (rI .u32)).length:Nat):Int)) (ai (r10.2.2.1.length:Int))) (Zj8 Z03 hb11) (Zj8 Z03 hb11) (.c8 (Z01 Z03 hb12) (Z01 Z03 hb12) (Z01 Z03 hb12) (Z01 Z03 hb12) (Z01 Z03 hb12) (Z01 Z03 hb12) (Z01 Z03 hb12) (Z01 Z03 hb12) (.c8 yf yf yf yf yf yf yf yf (.c8 yf yf yf yf yf yf yf yf (.c4 yf yf yf yf y5))))))
  ·obtain rfl:=yl h
   exact y8 [.reg [aa,aa,aa,aa,aa,aa,w0,w0,w0,w0,w0,w0,w0,w0,w0, { h:=.pick false },aa,w0,w0,w0,w0,w0,w0,w0, { h:=.pick false },aa,w0,w0,w0,w0,w0, { h:=.pick false },aa,w0,w0,w0,w0,w0, { h:=.pick false },aa,w0,w0,w0,w0,w0,w0,w0, { h:=.pick false },aa],.adj [.keep [2] []]] (.c8 y7 y7 (Z01 Z03 hb11) (Z01 Z03 hb11) (Z01 Z03 hb11) (Z01 Z03 hb11) (Z01 Z03 hb11) (Z01 Z03 hb11) (.c8 (Z01 Z03 hb11) (Z01 Z03 hb11) (Z01 Z03 hb11) (Z01 Z03 hb11) yf yf yf yf (.c8 yf yf yf yf yf yf yf yf (.c8 yf yf yf yf yf yf yf yf (.c8 yf yf yf yf yf yf yf yf y5)))))
def Zez (r:Bool):List PV:=[dv (.bool r)]
def Z65 (N:Nat) (p0:Z00):Option Bool:=(Z5y N p0).bind fun r10=>(Z63 N p0 r10).bind fun r16=>some r16
theorem Z0e (N:Nat) (p0:Z00) (r:Bool) (h:Z65 N p0=some r):Ziz prog 107 [.v (.agg (Z0a p0))] (Zez r):=by
 unfold Z65 at h
 obtain ⟨r10,hr10,h⟩:=yj h
 obtain ⟨r16,hr16,h⟩:=yj h
 obtain rfl:=yl h
 exact y9 749 [af,.reg (e 5),.deep 1 [.keep [1,3] [3,1]] .normal (Za7 p0 r10),.adj [.keep [1,3] [3,1]],.cut .normal (Z9r p0 r10 r16)] func107 (.c4 y7 y7 (Zcr N p0 r10 hr10) (Zcx N p0 r10 r16 hr16) y5)
def Zhv (r:Bool):List PV:=[dv (.bool r)]
def Z38 (N:Nat) (p0:Z08):Option Bool:=if (p0.fMag.length:Int)≤(8:Int) then if (p0.fMag.length:Int)=(0:Int) then if ¬ (p0.fNeg=true) then some true else if (p0.fMag.length:Int) > (0:Int) then (idx p0.fMag (wrap .i64 ((p0.fMag.length:Int) - (1:Int)))).bind fun x5=>some (x5 != (0:Int)) else some false else if (p0.fMag.length:Int) > (0:Int) then (idx p0.fMag (wrap .i64 ((p0.fMag.length:Int) - (1:Int)))).bind fun x7=>some (x7 != (0:Int)) else some false else some false
theorem Z0k (N:Nat) (p0:Z08) (r:Bool) (h:Z38 N p0=some r):Ziz prog 109 [az p0.fNeg p0.fMag] (Zhv r):=by
 unfold Z38 at h
 rcases Z07 h with ⟨hb1,h⟩ | ⟨hb1,h⟩
 ·rcases Z07 h with ⟨hb2,h⟩ | ⟨hb2,h⟩
  ·rcases Z07 h with ⟨hb3,h⟩ | ⟨hb3,h⟩
   ·obtain rfl:=yl h
    exact y9 317 [af,.reg [aa,aa, { cast:=some (ai (p0.fMag.length:Int)) },aa],.reg [aa,aa,aa,aa,aa,aa,aa,aa,aa, { h:=.pick true },aa,w0,w0,w0,w0,w0,w0,w0,w0,w0,w0,w0, { h:=.pick true }, { h:=.pick true },aa]] func109 (.c8 y7 (Zjk:AV.Le (ai (((p0.fMag.map (rI .u32)).length:Nat):Int)) (ai (p0.fMag.length:Int))) (Zj8 Z06 hb1) (Zj8 Z06 hb1) (Zj8 Z06 hb1) (Zj8 Z03 hb2) (Zj8 Z03 hb2) y7 (.c8 (Zj8 Z03 hb2) (Zj8 Z06 hb1) (Zj8 Z03 hb2) (Zj8 Z06 hb1) (Zj8 (Z09 Z04) hb3) (Zj8 (Z09 Z04) hb3) (Zj8 (Z09 Z04) hb3) (Zj8 (Z09 Z04) hb3) (.c2 (Zj8 Z06 hb1) (Zj8 (Z09 Z04) hb3) (.cons (Zj8 Z06 hb1) y5))))
   ·rcases Z07 h with ⟨hb4,h⟩ | ⟨hb4,h⟩
    ·obtain ⟨x5,hx5,h⟩:=yj h
     obtain rfl:=yl h
     exact y9 317 [af,.reg [aa,aa, { cast:=some (ai (p0.fMag.length:Int)) },aa],.reg [aa,aa,aa,aa,aa,aa,aa,aa,aa, { h:=.pick true },aa,aa,aa,aa,aa,aa,aa,aa, { cast:=some (.v (.one (.fptr [.int .u32 x5]))) },aa,aa, { h:=.pick true }, { h:=.pick false }, { h:=.pick true },aa]] func109 (.c8 y7 (Zjk:AV.Le (ai (((p0.fMag.map (rI .u32)).length:Nat):Int)) (ai (p0.fMag.length:Int))) (Zj8 Z06 hb1) (Zj8 Z06 hb1) (Zj8 Z06 hb1) (Zj8 Z03 hb2) (Zj8 Z03 hb2) y7 (.c8 (Zj8 Z03 hb2) (Zj8 Z06 hb1) (Zj8 Z03 hb2) (Zj8 Z06 hb1) (Z01 (Z09 Z04) hb3) (Z01 (Z09 Z04) hb3) (Z01 (Z09 Z04) hb3) (Zj8 Z06 hb4) (.c8 (Zj8 Z06 hb4) y7 (Zj8 Z06 hb4) (Zj8 Z06 hb4) (Zj8 Z06 hb4) (Z0m hx5:0≤wrap .i64 ((p0.fMag.length:Int) - (1:Int))∧wrap .i64 ((p0.fMag.length:Int) - (1:Int)) < (((p0.fMag.map (rI .u32)).length:Nat):Int)) (Z0i hx5 rfl:AV.Le (.v (.one (.fptr ((List.range 1).map fun j=>((p0.fMag.map (rI .u32)).getD (Int.toNat (wrap .i64 ((p0.fMag.length:Int) - (1:Int)))) []).getD j .nils)))) (.v (.one (.fptr [.int .u32 x5])))) (Zj8 Z06 hb4) (.c4 y7 (Zj8 Z06 hb4) (Z01 (Z09 Z04) hb3) (Zj8 Z06 hb4) (.c2 (Zj8 Z06 hb1) (Z01 (Z09 Z04) hb3) (.cons (Zj8 Z06 hb1) y5))))))
    ·obtain rfl:=yl h
     exact y9 317 [af,.reg [aa,aa, { cast:=some (ai (p0.fMag.length:Int)) },aa],.reg [aa,aa,aa,aa,aa,aa,aa,aa,aa, { h:=.pick true },aa,aa,aa,aa,w0,w0,w0,w0,w0,w0,w0, { h:=.pick false }, { h:=.pick false }, { h:=.pick true },aa]] func109 (.c8 y7 (Zjk:AV.Le (ai (((p0.fMag.map (rI .u32)).length:Nat):Int)) (ai (p0.fMag.length:Int))) (Zj8 Z06 hb1) (Zj8 Z06 hb1) (Zj8 Z06 hb1) (Zj8 Z03 hb2) (Zj8 Z03 hb2) y7 (.c8 (Zj8 Z03 hb2) (Zj8 Z06 hb1) (Zj8 Z03 hb2) (Zj8 Z06 hb1) (Z01 (Z09 Z04) hb3) (Z01 (Z09 Z04) hb3) (Z01 (Z09 Z04) hb3) (Z01 Z06 hb4) (.c8 (Z01 Z06 hb4) (Z01 Z06 hb4) (Z01 Z06 hb4) (Z01 Z06 hb4) (Z01 Z06 hb4) (Z01 Z06 hb4) (Z01 (Z09 Z04) hb3) (Z01 Z06 hb4) (.c2 (Zj8 Z06 hb1) (Z01 (Z09 Z04) hb3) (.cons (Zj8 Z06 hb1) y5)))))
  ·rcases Z07 h with ⟨hb6,h⟩ | ⟨hb6,h⟩
   ·obtain ⟨x7,hx7,h⟩:=yj h
    obtain rfl:=yl h
    exact y9 317 [af,.reg [aa,aa, { cast:=some (ai (p0.fMag.length:Int)) },aa],.reg [aa,aa,aa,aa,aa,aa,w0,w0,w0, { h:=.pick false },aa,aa,aa,aa,aa,aa,aa,aa, { cast:=some (.v (.one (.fptr [.int .u32 x7]))) },aa,aa, { h:=.pick true }, { h:=.pick false }, { h:=.pick true },aa]] func109 (.c8 y7 (Zjk:AV.Le (ai (((p0.fMag.map (rI .u32)).length:Nat):Int)) (ai (p0.fMag.length:Int))) (Zj8 Z06 hb1) (Zj8 Z06 hb1) (Zj8 Z06 hb1) (Z01 Z03 hb2) (Z01 Z03 hb2) (Z01 Z03 hb2) (.c8 (Zj8 Z06 hb1) (Z01 Z03 hb2) (Zj8 Z06 hb1) yf yf yf (Zj8 Z06 hb6) (Zj8 Z06 hb6) (.c8 y7 (Zj8 Z06 hb6) (Zj8 Z06 hb6) (Zj8 Z06 hb6) (Z0m hx7:0≤wrap .i64 ((p0.fMag.length:Int) - (1:Int))∧wrap .i64 ((p0.fMag.length:Int) - (1:Int)) < (((p0.fMag.map (rI .u32)).length:Nat):Int)) (Z0i hx7 rfl:AV.Le (.v (.one (.fptr ((List.range 1).map fun j=>((p0.fMag.map (rI .u32)).getD (Int.toNat (wrap .i64 ((p0.fMag.length:Int) - (1:Int)))) []).getD j .nils)))) (.v (.one (.fptr [.int .u32 x7])))) (Zj8 Z06 hb6) y7 (.c4 (Zj8 Z06 hb6) yf (Zj8 Z06 hb6) (Zj8 Z06 hb1) (.c2 yf (Zj8 Z06 hb1) y5)))))
   ·obtain rfl:=yl h
    exact y9 317 [af,.reg [aa,aa, { cast:=some (ai (p0.fMag.length:Int)) },aa],.reg [aa,aa,aa,aa,aa,aa,w0,w0,w0, { h:=.pick false },aa,aa,aa,aa,w0,w0,w0,w0,w0,w0,w0, { h:=.pick false }, { h:=.pick false }, { h:=.pick true },aa]] func109 (.c8 y7 (Zjk:AV.Le (ai (((p0.fMag.map (rI .u32)).length:Nat):Int)) (ai (p0.fMag.length:Int))) (Zj8 Z06 hb1) (Zj8 Z06 hb1) (Zj8 Z06 hb1) (Z01 Z03 hb2) (Z01 Z03 hb2) (Z01 Z03 hb2) (.c8 (Zj8 Z06 hb1) (Z01 Z03 hb2) (Zj8 Z06 hb1) yf yf yf (Z01 Z06 hb6) (Z01 Z06 hb6) (.c8 (Z01 Z06 hb6) (Z01 Z06 hb6) (Z01 Z06 hb6) (Z01 Z06 hb6) (Z01 Z06 hb6) yf (Z01 Z06 hb6) (Zj8 Z06 hb1) (.c2 yf (Zj8 Z06 hb1) y5))))
 ·obtain rfl:=yl h
  exact y9 317 [af,.reg [aa,aa, { cast:=some (ai (p0.fMag.length:Int)) },aa],.reg [aa,aa,aa,w0,w0,w0,w0,w0,w0,w0,w0,w0,w0,w0,w0,w0,w0,w0,w0,w0,w0,w0,w0, { h:=.pick false },aa]] func109 (.c8 y7 (Zjk:AV.Le (ai (((p0.fMag.map (rI .u32)).length:Nat):Int)) (ai (p0.fMag.length:Int))) (Z01 Z06 hb1) (Z01 Z06 hb1) (Z01 Z06 hb1) (Z01 Z06 hb1) (Z01 Z06 hb1) (Z01 Z06 hb1) (.cons (Z01 Z06 hb1) y5))
def Zaa (p0:Z08):St:={ fr:=([.bad,(.v (.one (.ptr 1 0)))]++bads 48),obs:=[(1,.var [.d (.bool p0.fNeg),.d (.sl 1 (p0.fMag.map (rI .u32)))])] }
def Z3h (p0:Z08) (o:Unit):St:={ fr:=([.bad,(.v (.one (.ptr 1 0)))]++bads 48),obs:=[(1,.var [.d (.bool p0.fNeg),.d (.sl 1 (p0.fMag.map (rI .u32)))])] }
def Za3 (p0:Z08) (o:Unit):St:={ fr:=([.bad,.bad,(ai (0:Int)),(da (.bool false))]++bads 46),obs:=[] }
def Z3m:Nat→Z08→Option ((Unit) ⊕ (Unit))
 |0,_=>none
 |N+1,p0=>(Z38 N p0).bind fun r1=>if ¬ (r1=true) then some (.inr ()) else if (p0.fMag.length:Int) > (2:Int) then some (.inr ()) else some (.inl ())
theorem Z2y:∀ (N:Nat) (p0:Z08) (r:((Unit) ⊕ (Unit))),Z3m N p0=some r→match r with | .inl o=>Ziw prog 504 (partOf f108 [1,0]) (Zaa p0 ) .normal (Z3h p0 o) | .inr o=>Ziw prog 504 (partOf f108 [1,0]) (Zaa p0 ) .ret (Za3 p0 o):=by
 intro N
 induction N with
 |zero=>intro p0 r h; cases h
 |succ N ih =>
  intro p0 r h
  rw [Z3m] at h
  obtain ⟨r1,hr1,h⟩:=yj h
  rcases Z07 h with ⟨hb2,h⟩ | ⟨hb2,h⟩
  ·obtain rfl:=yl h
   exact y8 [.reg [aa, yg [dv (.bool r1)],aa,aa,w0,w0,w0,w0, { h:=.pick true }],ah,af,.adj [.keep [2,3] []]] (.c8 y7 (Z0k N p0 r1 hr1) (Zj8 (Z09 Z04) hb2) (Zj8 (Z09 Z04) hb2) (Zj8 (Z09 Z04) hb2) (Zj8 (Z09 Z04) hb2) (Zj8 (Z09 Z04) hb2) (Eq.refl true) y5)
  ·rcases Z07 h with ⟨hb3,h⟩ | ⟨hb3,h⟩
   ·obtain rfl:=yl h
    exact y8 [.reg [aa, yg [dv (.bool r1)],aa,aa,aa,aa, { cast:=some (ai (p0.fMag.length:Int)) },aa, { h:=.pick false }],ah,af,.adj [.keep [2,3] []]] (.c8 y7 (Z0k N p0 r1 hr1) (Z01 (Z09 Z04) hb2) (Z01 (Z09 Z04) hb2) y7 (Z01 (Z09 Z04) hb2) (Zjk:AV.Le (ai (((p0.fMag.map (rI .u32)).length:Nat):Int)) (ai (p0.fMag.length:Int))) (Z01 (Z09 Z04) hb2) (.c2 (Z01 (Z09 Z04) hb2) (Zj8 Z06 hb3) y5))
   ·obtain rfl:=yl h
    exact y8 [.reg [aa, yg [dv (.bool r1)],aa,aa,aa,aa, { cast:=some (ai (p0.fMag.length:Int)) },aa, { h:=.pick false }],ae,.adj [.keep [1] [1]]] (.c8 y7 (Z0k N p0 r1 hr1) (Z01 (Z09 Z04) hb2) (Z01 (Z09 Z04) hb2) y7 (Z01 (Z09 Z04) hb2) (Zjk:AV.Le (ai (((p0.fMag.map (rI .u32)).length:Nat):Int)) (ai (p0.fMag.length:Int))) (Z01 (Z09 Z04) hb2) (.c2 (Z01 (Z09 Z04) hb2) (Z01 Z06 hb3) y5))
def Zeo (p0:Z08) (v4:Int) (v5:Int):St:={ fr:=([.bad,(.v (.one (.ptr 1 0))),.bad,.bad,(da (.int .u64 v4)),(ai v5)]++bads 44),obs:=[(1,.var [.d (.bool p0.fNeg),.d (.sl 1 (p0.fMag.map (rI .u32)))])] }
def Z3i (p0:Z08) (o:Int):St:={ fr:=([.bad,(.v (.one (.ptr 1 0))),.bad,.bad,(da (.int .u64 o))]++bads 45),obs:=[(1,.var [.d (.bool p0.fNeg),.d (.sl 1 (p0.fMag.map (rI .u32)))])] }
def Z12:Nat→Z08→Int→Int→Option (Int)
 |0,_,_,_=>none
 |N+1,p0,v4,v5=>if v5 ≥ (0:Int) then (idx p0.fMag v5).bind fun x8=>Z12 N p0 (bor .u64 (wrap .u64 (v4 * yh 32)) (wrap .u64 x8)) (wrap .i64 (v5 - (1:Int))) else some v4
theorem Z45:∀ (N:Nat) (p0:Z08) (v4:Int) (v5:Int) (r:(Int)),Z12 N p0 v4 v5=some r→Zj0 prog 504 (partOf f108 [1,1,1,0,1,0,0]) (Zeo p0 v4 v5) (.exit 0) (Z3i p0 r):=by
 intro N
 induction N with
 |zero=>intro p0 v4 v5 r h; cases h
 |succ N ih =>
  intro p0 v4 v5 r h
  rw [Z12] at h
  rcases Z07 h with ⟨hb7,h⟩ | ⟨hb7,h⟩
  ·obtain ⟨x8,hx8,h⟩:=yj h
   exact Zj0.again (y8 [af,ah,.reg [aa,aa,aa,aa,aa, { cast:=some (.v (.one (.fptr [.int .u32 x8]))) },aa,aa,aa,aa],ay,.adj [.keep [1,4,5] [1]]] (.c4 (Zj8 Z06 hb7) y7 (Z0m hx8:0≤v5∧v5 < (((p0.fMag.map (rI .u32)).length:Nat):Int)) (Z0i hx8 rfl:AV.Le (.v (.one (.fptr ((List.range 1).map fun j=>((p0.fMag.map (rI .u32)).getD (Int.toNat v5) []).getD j .nils)))) (.v (.one (.fptr [.int .u32 x8])))) (.cons y7 y5))) (ih p0 (bor .u64 (wrap .u64 (v4 * yh 32)) (wrap .u64 x8)) (wrap .i64 (v5 - (1:Int))) _ h)
  ·obtain rfl:=yl h
   exact Zj0.out (y8 [af,ae,.adj [.keep [1,4] [1]]] (.cons (Z01 Z06 hb7) y5)) (by simp)
def Zfg (r:(Int × Bool)):List PV:=[vi r.1,dv (.bool r.2)]
def Z7z (N:Nat) (p0:Z08):Option (Int × Bool):=(Z3m N p0).bind fun r4=>(match r4 with | .inl r5=>(Z12 N p0 (0:Int) (wrap .i64 ((p0.fMag.length:Int) - (1:Int)))).bind fun r9=>if p0.fNeg=true then if r9≤(1152921504606846976:Int) then some (wrap .i64 (0 - wrap .i64 r9),true) else some ((0:Int),false) else if r9 < (1152921504606846976:Int) then some (wrap .i64 r9,true) else some ((0:Int),false) | .inr r6=>some ((0:Int),false))
theorem Zac (N:Nat) (p0:Z08) (r:(Int × Bool)) (h:Z7z N p0=some r):Ziz prog 108 [az p0.fNeg p0.fMag] (Zfg r):=by
 unfold Z7z at h
 obtain ⟨r4,hr4,h⟩:=yj h
 rcases r4 with r5 | r6
 ·obtain ⟨r9,hr9,h⟩:=yj h
  rcases Z07 h with ⟨hb10,h⟩ | ⟨hb10,h⟩
  ·rcases Z07 h with ⟨hb11,h⟩ | ⟨hb11,h⟩
   ·obtain rfl:=yl h
    exact y9 504 [ay,.deep 1 [.keep [1] [1]] .normal (Z3h p0 r5),ak,.reg [aa,aa, { cast:=some (ai (p0.fMag.length:Int)) },aa,aa],.adj [.keep [1,4,5] [1]],.cut (.exit 0) (Z3i p0 r9),.reg [aa,aa,aa,aa,aa, { h:=.pick true }],ah,.reg (e 5)] func108 (.c8 (Z2y N p0 (.inl r5) hr4) y7 (Zjk:AV.Le (ai (((p0.fMag.map (rI .u32)).length:Nat):Int)) (ai (p0.fMag.length:Int))) (Ziw.of_loop (Z45 N p0 (0:Int) (wrap .i64 ((p0.fMag.length:Int) - (1:Int))) r9 hr9)) y7 (Zj8 Z04 hb10) (Zj8 Z04 hb10) (Zj8 Z04 hb10) (.cons (Zj8 Z06 hb11) y5))
   ·obtain rfl:=yl h
    exact y9 504 [ay,.deep 1 [.keep [1] [1]] .normal (Z3h p0 r5),ak,.reg [aa,aa, { cast:=some (ai (p0.fMag.length:Int)) },aa,aa],.adj [.keep [1,4,5] [1]],.cut (.exit 0) (Z3i p0 r9),.reg [aa,aa,aa,aa,aa, { h:=.pick true }],ae,.reg [aa,aa,aa,aa,w0,w0, { h:=.pick false }],ae,af] func108 (.c8 (Z2y N p0 (.inl r5) hr4) y7 (Zjk:AV.Le (ai (((p0.fMag.map (rI .u32)).length:Nat):Int)) (ai (p0.fMag.length:Int))) (Ziw.of_loop (Z45 N p0 (0:Int) (wrap .i64 ((p0.fMag.length:Int) - (1:Int))) r9 hr9)) y7 (Zj8 Z04 hb10) (Zj8 Z04 hb10) (Zj8 Z04 hb10) (.c4 (Z01 Z06 hb11) y7 (congrArg Bool.not (Zj8 Z04 hb10):(!p0.fNeg)=false) (congrArg Bool.not (Zj8 Z04 hb10):(!p0.fNeg)=false) (.c2 (congrArg Bool.not (Zj8 Z04 hb10):(!p0.fNeg)=false) yf y5)))
  ·rcases Z07 h with ⟨hb12,h⟩ | ⟨hb12,h⟩
   ·obtain rfl:=yl h
    exact y9 504 [ay,.deep 1 [.keep [1] [1]] .normal (Z3h p0 r5),ak,.reg [aa,aa, { cast:=some (ai (p0.fMag.length:Int)) },aa,aa],.adj [.keep [1,4,5] [1]],.cut (.exit 0) (Z3i p0 r9),.reg [aa,aa,aa,w0,w0, { h:=.pick false }],ae,.reg [aa,aa,aa,aa,aa,aa, { h:=.pick true }],ah,.reg (e 4)] func108 (.c8 (Z2y N p0 (.inl r5) hr4) y7 (Zjk:AV.Le (ai (((p0.fMag.map (rI .u32)).length:Nat):Int)) (ai (p0.fMag.length:Int))) (Ziw.of_loop (Z45 N p0 (0:Int) (wrap .i64 ((p0.fMag.length:Int) - (1:Int))) r9 hr9)) y7 (Z01 Z04 hb10) (Z01 Z04 hb10) (Z01 Z04 hb10) (.c4 yf y7 (congrArg Bool.not (Z01 Z04 hb10):(!p0.fNeg)=true) (congrArg Bool.not (Z01 Z04 hb10):(!p0.fNeg)=true) (.c2 (congrArg Bool.not (Z01 Z04 hb10):(!p0.fNeg)=true) (Zj8 Z06 hb12) y5)))
   ·obtain rfl:=yl h
    exact y9 504 [ay,.deep 1 [.keep [1] [1]] .normal (Z3h p0 r5),ak,.reg [aa,aa, { cast:=some (ai (p0.fMag.length:Int)) },aa,aa],.adj [.keep [1,4,5] [1]],.cut (.exit 0) (Z3i p0 r9),.reg [aa,aa,aa,w0,w0, { h:=.pick false }],ae,.reg [aa,aa,aa,aa,aa,aa, { h:=.pick true }],ae,af] func108 (.c8 (Z2y N p0 (.inl r5) hr4) y7 (Zjk:AV.Le (ai (((p0.fMag.map (rI .u32)).length:Nat):Int)) (ai (p0.fMag.length:Int))) (Ziw.of_loop (Z45 N p0 (0:Int) (wrap .i64 ((p0.fMag.length:Int) - (1:Int))) r9 hr9)) y7 (Z01 Z04 hb10) (Z01 Z04 hb10) (Z01 Z04 hb10) (.c4 yf y7 (congrArg Bool.not (Z01 Z04 hb10):(!p0.fNeg)=true) (congrArg Bool.not (Z01 Z04 hb10):(!p0.fNeg)=true) (.c2 (congrArg Bool.not (Z01 Z04 hb10):(!p0.fNeg)=true) (Z01 Z06 hb12) y5)))
 ·obtain rfl:=yl h
  exact y9 504 [ay,.deep 1 [.keep [1] [1]] .ret (Za3 p0 r6)] func108 (.cons (Z2y N p0 (.inr r6) hr4) y5)
def Zha (r:Bool):List PV:=[dv (.bool r)]
def Z48 (N:Nat) (p0:Int):Option Bool:=some (decide ((bandn .u64 p0 (9223372036854775808:Int)) > (9218868437227405312:Int)))
theorem Z0s (N:Nat) (p0:Int) (r:Bool) (h:Z48 N p0=some r):Ziz prog 141 [dv (.int .u64 p0)] (Zha r):=by
 unfold Z48 at h
 obtain rfl:=yl h
 exact y9 136 [ak,.reg (e 4)] func141 y5
def Zhg (r:Bool):List PV:=[dv (.bool r)]
def Z9s (N:Nat) (p0:Int):Option Bool:=(Z48 N p0).bind fun r1=>if ¬ (r1=true) then some true else some (p0 == (9221120237041090561:Int))
theorem Zgl (N:Nat) (p0:Int) (r:Bool) (h:Z9s N p0=some r):Ziz prog 110 [dv (.int .u64 p0)] (Zhg r):=by
 unfold Z9s at h
 obtain ⟨r1,hr1,h⟩:=yj h
 rcases Z07 h with ⟨hb2,h⟩ | ⟨hb2,h⟩
 ·obtain rfl:=yl h
  exact y9 164 [ak,.reg [aa, yg [dv (.bool r1)],aa,aa,w0,w0, { h:=.pick true },aa]] func110 (.c4 (Z0s N p0 r1 hr1) (Zj8 (Z09 Z04) hb2) (Zj8 (Z09 Z04) hb2) (Zj8 (Z09 Z04) hb2) y5)
 ·obtain rfl:=yl h
  exact y9 164 [ak,.reg [aa, yg [dv (.bool r1)],aa,aa,aa,aa, { h:=.pick false },aa]] func110 (.c4 (Z0s N p0 r1 hr1) (Z01 (Z09 Z04) hb2) (Z01 (Z09 Z04) hb2) (Z01 (Z09 Z04) hb2) y5)
def Z5j (p0:Z00) (v5:Int):St:={ fr:=([.bad,(.v (.one (.ptr 1 0))),.bad,.bad,.bad,(ai v5)]++bads 89),obs:=[(1,.var (Z0d p0))] }
def Z75 (p0:Z00) (o:Unit):St:={ fr:=bads 95,obs:=[] }
def Z73 (p0:Z00) (o:Unit):St:={ fr:=([.bad,.bad,(da (.bool false))]++bads 92),obs:=[] }
def Zbc (r:Bool):List PV:=[dv (.bool r)]
mutual
def beehiveref4_form_L0:Nat→Z00→Int→Option ((Unit) ⊕ (Unit))
 |0,_,_=>none
 |N+1,p0,v5=>if v5 < (p0.fArgs.length:Int) then (idx p0.fArgs v5).bind fun x20=>(beehiveref4_form N x20).bind fun r21=>if ¬ (r21=true) then some (.inr ()) else beehiveref4_form_L0 N p0 (wrap .i64 (v5+(1:Int))) else some (.inl ())
def beehiveref4_form:Nat→Z00→Option Bool
 |0,_=>none
 |N+1,p0=>(Z65 N p0).bind fun r1=>if ¬ (r1=true) then some false else if p0.fKind=(1:Int) then if p0.fN ≥ (-1152921504606846976:Int) then some (decide (p0.fN≤(1152921504606846975:Int))) else some false else if p0.fKind=(2:Int) then (Z7z N p0.fNum).bind fun r6=>(Z38 N p0.fNum).bind fun r7=>if r7=true then some (!r6.2) else some false else if p0.fKind=(3:Int) then (Z9s N p0.fBits).bind fun r10=>some r10 else if p0.fKind=(4:Int) then if p0.fN ≥ (0:Int) then some (decide (p0.fN≤(255:Int))) else some false else if p0.fKind=(5:Int) then if p0.fN ≥ (0:Int) then some (decide (p0.fN≤(63:Int))) else some false else if p0.fKind=(7:Int) then some true else if p0.fKind=(9:Int) then some (decide ((p0.fBytes.size:Int)≤(400:Int))) else if p0.fKind=(6:Int) then if (p0.fArgs.length:Int) > (8:Int) then some false else (beehiveref4_form_L0 N p0 (0:Int)).bind fun r23=>(match r23 with | .inl r24=>some true | .inr r25=>some false) else if p0.fKind=(8:Int) then if (p0.fArgs.length:Int) ≠ (2:Int) then some false else (beehiveref4_form_L0 N p0 (0:Int)).bind fun r28=>(match r28 with | .inl r29=>some true | .inr r30=>some false) else some false
end
structure Zgf (N:Nat):Prop where
 beehiveref4_form_L0:∀ (p0:Z00) (v5:Int) (r:((Unit) ⊕ (Unit))),beehiveref4_form_L0 N p0 v5=some r→match r with | .inl o=>Zj0 prog 843 (partOf f79 [1,1,1,0,1,0,0]) (Z5j p0 v5) (.exit 1) (Z75 p0 o) | .inr o=>Zj0 prog 843 (partOf f79 [1,1,1,0,1,0,0]) (Z5j p0 v5) .ret (Z73 p0 o)
 beehiveref4_form:∀ (p0:Z00) (r:Bool),beehiveref4_form N p0=some r→Ziz prog 79 [.v (.agg (Z0a p0))] (Zbc r)
theorem Zc6:∀ N,Zgf N:=by
 intro N
 induction N with
 |zero =>
  constructor
  ·intro p0 v5 r h; rw [beehiveref4_form_L0] at h; cases h
  ·intro p0 r h; rw [beehiveref4_form] at h; cases h
 |succ N ih =>
  constructor
  ·intro p0 v5 r h
   rw [beehiveref4_form_L0] at h
   rcases Z07 h with ⟨hb19,h⟩ | ⟨hb19,h⟩
   ·obtain ⟨x20,hx20,h⟩:=yj h
    obtain ⟨r21,hr21,h⟩:=yj h
    rcases Z07 h with ⟨hb22,h⟩ | ⟨hb22,h⟩
    ·obtain rfl:=yl h
     exact Zj0.out (y8 [.reg [aa,aa,aa, { cast:=some (ai (p0.fArgs.length:Int)) },aa],ah,.reg [aa,aa,aa, { cast:=some (.v (.one (.fptr (Z13 x20)))) },aa, yg [dv (.bool r21)],aa],ah,ak,.adj [.keep [2] []]] (.c8 y7 (Zjk (r:=Z02) (xs:=p0.fArgs)) (Zj8 Z06 hb19) y7 (Z0m (r:=Z02) hx20) (Z0i hx20 (Z0b x20)) y7 ((ih.beehiveref4_form) x20 r21 hr21) (.cons (Zj8 (Z09 Z04) hb22) y5))) (by simp)
    ·have hl:=ih.beehiveref4_form_L0 p0 (wrap .i64 (v5+(1:Int))) _ h
     have ha:=Ziw.of_run [.reg [aa,aa,aa, { cast:=some (ai (p0.fArgs.length:Int)) },aa],ah,.reg [aa,aa,aa, { cast:=some (.v (.one (.fptr (Z13 x20)))) },aa, yg [dv (.bool r21)],aa],ae,ay,.adj [.keep [1,5] [1]]] (by kernel_rfl:runTo prog 843 (partOf f79 [1,1,1,0,1,0,0]) _ (Z5j p0 v5)=some (.normal,(Z5j p0 (wrap .i64 (v5+(1:Int)))),_)) (.c8 y7 (Zjk (r:=Z02) (xs:=p0.fArgs)) (Zj8 Z06 hb19) y7 (Z0m (r:=Z02) hx20) (Z0i hx20 (Z0b x20)) y7 ((ih.beehiveref4_form) x20 r21 hr21) (.cons (Z01 (Z09 Z04) hb22) y5))
     rcases r with o | o <;> exact Zj0.again ha hl
   ·obtain rfl:=yl h
    exact Zj0.out (y8 [.reg [aa,aa,aa, { cast:=some (ai (p0.fArgs.length:Int)) },aa],ae,.adj [.keep [] []]] (.c2 y7 (Zjk (r:=Z02) (xs:=p0.fArgs)) (.cons (Z01 Z06 hb19) y5))) (by simp)
  ·intro p0 r h
   rw [beehiveref4_form] at h
   obtain ⟨r1,hr1,h⟩:=yj h
   rcases Z07 h with ⟨hb2,h⟩ | ⟨hb2,h⟩
   ·obtain rfl:=yl h
    exact y9 843 [af,.reg [aa, yg [dv (.bool r1)],aa],ah,ak] func79 (.c2 y7 (Z0e N p0 r1 hr1) (.cons (Zj8 (Z09 Z04) hb2) y5))
   ·rcases Z07 h with ⟨hb3,h⟩ | ⟨hb3,h⟩
    ·rcases Z07 h with ⟨hb4,h⟩ | ⟨hb4,h⟩
     ·obtain rfl:=yl h
      exact y9 843 [af,.reg [aa, yg [dv (.bool r1)],aa],ae,af,af,ah,.reg [aa,aa,aa,aa,aa,aa,aa, { h:=.pick true },aa]] func79 (.c8 y7 (Z0e N p0 r1 hr1) (Z01 (Z09 Z04) hb2) y7 (Zj8 Z03 hb3) y7 (Zj8 Z06 hb4) (Zj8 Z06 hb4) (.c2 y7 (Zj8 Z06 hb4) (.cons (Zj8 Z06 hb4) y5)))
     ·obtain rfl:=yl h
      exact y9 843 [af,.reg [aa, yg [dv (.bool r1)],aa],ae,af,af,ah,.reg [aa,aa,aa,aa,w0,w0,w0, { h:=.pick false },aa]] func79 (.c8 y7 (Z0e N p0 r1 hr1) (Z01 (Z09 Z04) hb2) y7 (Zj8 Z03 hb3) y7 (Z01 Z06 hb4) (Z01 Z06 hb4) (.c2 (Z01 Z06 hb4) (Z01 Z06 hb4) y5))
    ·rcases Z07 h with ⟨hb5,h⟩ | ⟨hb5,h⟩
     ·obtain ⟨r6,hr6,h⟩:=yj h
      obtain ⟨r7,hr7,h⟩:=yj h
      rcases Z07 h with ⟨hb8,h⟩ | ⟨hb8,h⟩
      ·obtain rfl:=yl h
       exact y9 843 [af,.reg [aa, yg [dv (.bool r1)],aa],ae,af,af,ae,af,ah,.reg [aa,aa, yg [vi r6.1,dv (.bool r6.2)],aa,aa,aa,aa,aa],.reg [aa,aa, yg [dv (.bool r7)],aa,aa,aa, { h:=.pick true },aa]] func79 (.c8 y7 (Z0e N p0 r1 hr1) (Z01 (Z09 Z04) hb2) y7 (Z01 Z03 hb3) (Zj8 Z03 hb5) y7 (Zac N p0.fNum r6 hr6) (.c4 y7 (Z0k N p0.fNum r7 hr7) (Zj8 Z04 hb8) (Zj8 Z04 hb8) (.cons (Zj8 Z04 hb8) y5)))
      ·obtain rfl:=yl h
       exact y9 843 [af,.reg [aa, yg [dv (.bool r1)],aa],ae,af,af,ae,af,ah,.reg [aa,aa, yg [vi r6.1,dv (.bool r6.2)],aa,aa,aa,aa,aa],.reg [aa,aa, yg [dv (.bool r7)],aa,w0,w0, { h:=.pick false },aa]] func79 (.c8 y7 (Z0e N p0 r1 hr1) (Z01 (Z09 Z04) hb2) y7 (Z01 Z03 hb3) (Zj8 Z03 hb5) y7 (Zac N p0.fNum r6 hr6) (.c4 y7 (Z0k N p0.fNum r7 hr7) (Z01 Z04 hb8) (Z01 Z04 hb8) (.cons (Z01 Z04 hb8) y5)))
     ·rcases Z07 h with ⟨hb9,h⟩ | ⟨hb9,h⟩
      ·obtain ⟨r10,hr10,h⟩:=yj h
       obtain rfl:=yl h
       exact y9 843 [af,.reg [aa, yg [dv (.bool r1)],aa],ae,af,af,ae,af,ae,af,ah,.reg [aa,aa, yg [dv (.bool r10)],aa]] func79 (.c8 y7 (Z0e N p0 r1 hr1) (Z01 (Z09 Z04) hb2) y7 (Z01 Z03 hb3) (Z01 Z03 hb5) (Zj8 Z03 hb9) y7 (.cons (Zgl N p0.fBits r10 hr10) y5))
      ·rcases Z07 h with ⟨hb11,h⟩ | ⟨hb11,h⟩
       ·rcases Z07 h with ⟨hb12,h⟩ | ⟨hb12,h⟩
        ·obtain rfl:=yl h
         exact y9 843 [af,.reg [aa, yg [dv (.bool r1)],aa],ae,af,af,ae,af,ae,af,ae,af,ah,.reg [aa,aa,aa,aa,aa,aa,aa, { h:=.pick true },aa]] func79 (.c8 y7 (Z0e N p0 r1 hr1) (Z01 (Z09 Z04) hb2) y7 (Z01 Z03 hb3) (Z01 Z03 hb5) (Z01 Z03 hb9) (Zj8 Z03 hb11) (.c4 y7 (Zj8 Z06 hb12) (Zj8 Z06 hb12) y7 (.c2 (Zj8 Z06 hb12) (Zj8 Z06 hb12) y5)))
        ·obtain rfl:=yl h
         exact y9 843 [af,.reg [aa, yg [dv (.bool r1)],aa],ae,af,af,ae,af,ae,af,ae,af,ah,.reg [aa,aa,aa,aa,w0,w0,w0, { h:=.pick false },aa]] func79 (.c8 y7 (Z0e N p0 r1 hr1) (Z01 (Z09 Z04) hb2) y7 (Z01 Z03 hb3) (Z01 Z03 hb5) (Z01 Z03 hb9) (Zj8 Z03 hb11) (.c4 y7 (Z01 Z06 hb12) (Z01 Z06 hb12) (Z01 Z06 hb12) (.cons (Z01 Z06 hb12) y5)))
       ·rcases Z07 h with ⟨hb13,h⟩ | ⟨hb13,h⟩
        ·rcases Z07 h with ⟨hb14,h⟩ | ⟨hb14,h⟩
         ·obtain rfl:=yl h
          exact y9 843 [af,.reg [aa, yg [dv (.bool r1)],aa],ae,af,af,ae,af,ae,af,ae,af,ae,af,ah,.reg [aa,aa,aa,aa,aa,aa,aa, { h:=.pick true },aa]] func79 (.c8 y7 (Z0e N p0 r1 hr1) (Z01 (Z09 Z04) hb2) y7 (Z01 Z03 hb3) (Z01 Z03 hb5) (Z01 Z03 hb9) (Z01 Z03 hb11) (.c4 (Zj8 Z03 hb13) y7 (Zj8 Z06 hb14) (Zj8 Z06 hb14) (.c2 y7 (Zj8 Z06 hb14) (.cons (Zj8 Z06 hb14) y5))))
         ·obtain rfl:=yl h
          exact y9 843 [af,.reg [aa, yg [dv (.bool r1)],aa],ae,af,af,ae,af,ae,af,ae,af,ae,af,ah,.reg [aa,aa,aa,aa,w0,w0,w0, { h:=.pick false },aa]] func79 (.c8 y7 (Z0e N p0 r1 hr1) (Z01 (Z09 Z04) hb2) y7 (Z01 Z03 hb3) (Z01 Z03 hb5) (Z01 Z03 hb9) (Z01 Z03 hb11) (.c4 (Zj8 Z03 hb13) y7 (Z01 Z06 hb14) (Z01 Z06 hb14) (.c2 (Z01 Z06 hb14) (Z01 Z06 hb14) y5)))
        ·rcases Z07 h with ⟨hb15,h⟩ | ⟨hb15,h⟩
         ·obtain rfl:=yl h
          exact y9 843 [af,.reg [aa, yg [dv (.bool r1)],aa],ae,af,af,ae,af,ae,af,ae,af,ae,af,ae,af,ah,ak] func79 (.c8 y7 (Z0e N p0 r1 hr1) (Z01 (Z09 Z04) hb2) y7 (Z01 Z03 hb3) (Z01 Z03 hb5) (Z01 Z03 hb9) (Z01 Z03 hb11) (.c2 (Z01 Z03 hb13) (Zj8 Z03 hb15) y5))
         ·rcases Z07 h with ⟨hb16,h⟩ | ⟨hb16,h⟩
          ·obtain rfl:=yl h
           exact y9 843 [af,.reg [aa, yg [dv (.bool r1)],aa],ae,af,af,ae,af,ae,af,ae,af,ae,af,ae,af,ae,af,ah,.reg (e 5)] func79 (.c8 y7 (Z0e N p0 r1 hr1) (Z01 (Z09 Z04) hb2) y7 (Z01 Z03 hb3) (Z01 Z03 hb5) (Z01 Z03 hb9) (Z01 Z03 hb11) (.c4 (Z01 Z03 hb13) (Z01 Z03 hb15) (Zj8 Z03 hb16) y7 y5))
          ·rcases Z07 h with ⟨hb17,h⟩ | ⟨hb17,h⟩
           ·rcases Z07 h with ⟨hb18,h⟩ | ⟨hb18,h⟩
            ·obtain rfl:=yl h
             exact y9 843 [af,.reg [aa, yg [dv (.bool r1)],aa],ae,af,af,ae,af,ae,af,ae,af,ae,af,ae,af,ae,af,ae,af,ah,.reg [aa,aa, { cast:=some (ai (p0.fArgs.length:Int)) },aa],ah,ak] func79 (.c8 y7 (Z0e N p0 r1 hr1) (Z01 (Z09 Z04) hb2) y7 (Z01 Z03 hb3) (Z01 Z03 hb5) (Z01 Z03 hb9) (Z01 Z03 hb11) (.c4 (Z01 Z03 hb13) (Z01 Z03 hb15) (Z01 Z03 hb16) (Zj8 Z03 hb17) (.c2 y7 (Zjk (r:=Z02) (xs:=p0.fArgs)) (.cons (Zj8 Z06 hb18) y5))))
            ·obtain ⟨r23,hr23,h⟩:=yj h
             rcases r23 with r24 | r25
             ·obtain rfl:=yl h
              exact y9 843 [af,.reg [aa, yg [dv (.bool r1)],aa],ae,af,af,ae,af,ae,af,ae,af,ae,af,ae,af,ae,af,ae,af,ah,.reg [aa,aa, { cast:=some (ai (p0.fArgs.length:Int)) },aa],ae,ak,.adj [.keep [1,5] [1]],.cut (.exit 1) (Z75 p0 r24),ak] func79 (.c8 y7 (Z0e N p0 r1 hr1) (Z01 (Z09 Z04) hb2) y7 (Z01 Z03 hb3) (Z01 Z03 hb5) (Z01 Z03 hb9) (Z01 Z03 hb11) (.c8 (Z01 Z03 hb13) (Z01 Z03 hb15) (Z01 Z03 hb16) (Zj8 Z03 hb17) y7 (Zjk (r:=Z02) (xs:=p0.fArgs)) (Z01 Z06 hb18) (Ziw.of_loop ((ih.beehiveref4_form_L0) p0 (0:Int) (.inl r24) hr23)) y5))
             ·obtain rfl:=yl h
              exact y9 843 [af,.reg [aa, yg [dv (.bool r1)],aa],ae,af,af,ae,af,ae,af,ae,af,ae,af,ae,af,ae,af,ae,af,ah,.reg [aa,aa, { cast:=some (ai (p0.fArgs.length:Int)) },aa],ae,ak,.adj [.keep [1,5] [1]],.cut .ret (Z73 p0 r25)] func79 (.c8 y7 (Z0e N p0 r1 hr1) (Z01 (Z09 Z04) hb2) y7 (Z01 Z03 hb3) (Z01 Z03 hb5) (Z01 Z03 hb9) (Z01 Z03 hb11) (.c8 (Z01 Z03 hb13) (Z01 Z03 hb15) (Z01 Z03 hb16) (Zj8 Z03 hb17) y7 (Zjk (r:=Z02) (xs:=p0.fArgs)) (Z01 Z06 hb18) (Ziw.of_loop ((ih.beehiveref4_form_L0) p0 (0:Int) (.inr r25) hr23)) y5))
           ·rcases Z07 h with ⟨hb26,h⟩ | ⟨hb26,h⟩
            ·rcases Z07 h with ⟨hb27,h⟩ | ⟨hb27,h⟩
             ·obtain rfl:=yl h
              exact y9 843 [af,.reg [aa, yg [dv (.bool r1)],aa],ae,af,af,ae,af,ae,af,ae,af,ae,af,ae,af,ae,af,ae,af,ae,af,ah,.reg [aa,aa, { cast:=some (ai (p0.fArgs.length:Int)) },aa],ah,ak] func79 (.c8 y7 (Z0e N p0 r1 hr1) (Z01 (Z09 Z04) hb2) y7 (Z01 Z03 hb3) (Z01 Z03 hb5) (Z01 Z03 hb9) (Z01 Z03 hb11) (.c8 (Z01 Z03 hb13) (Z01 Z03 hb15) (Z01 Z03 hb16) (Z01 Z03 hb17) (Zj8 Z03 hb26) y7 (Zjk (r:=Z02) (xs:=p0.fArgs)) (Zj8 Z0h hb27) y5))
             ·obtain ⟨r28,hr28,h⟩:=yj h
              rcases r28 with r29 | r30
              ·obtain rfl:=yl h
               exact y9 843 [af,.reg [aa, yg [dv (.bool r1)],aa],ae,af,af,ae,af,ae,af,ae,af,ae,af,ae,af,ae,af,ae,af,ae,af,ah,.reg [aa,aa, { cast:=some (ai (p0.fArgs.length:Int)) },aa],ae,ak,.adj [.keep [1,5] [1]],.cut (.exit 1) (Z75 p0 r29),ak] func79 (.c8 y7 (Z0e N p0 r1 hr1) (Z01 (Z09 Z04) hb2) y7 (Z01 Z03 hb3) (Z01 Z03 hb5) (Z01 Z03 hb9) (Z01 Z03 hb11) (.c8 (Z01 Z03 hb13) (Z01 Z03 hb15) (Z01 Z03 hb16) (Z01 Z03 hb17) (Zj8 Z03 hb26) y7 (Zjk (r:=Z02) (xs:=p0.fArgs)) (Z01 Z0h hb27) (.cons (Ziw.of_loop ((ih.beehiveref4_form_L0) p0 (0:Int) (.inl r29) hr28)) y5)))
              ·obtain rfl:=yl h
               exact y9 843 [af,.reg [aa, yg [dv (.bool r1)],aa],ae,af,af,ae,af,ae,af,ae,af,ae,af,ae,af,ae,af,ae,af,ae,af,ah,.reg [aa,aa, { cast:=some (ai (p0.fArgs.length:Int)) },aa],ae,ak,.adj [.keep [1,5] [1]],.cut .ret (Z73 p0 r30)] func79 (.c8 y7 (Z0e N p0 r1 hr1) (Z01 (Z09 Z04) hb2) y7 (Z01 Z03 hb3) (Z01 Z03 hb5) (Z01 Z03 hb9) (Z01 Z03 hb11) (.c8 (Z01 Z03 hb13) (Z01 Z03 hb15) (Z01 Z03 hb16) (Z01 Z03 hb17) (Zj8 Z03 hb26) y7 (Zjk (r:=Z02) (xs:=p0.fArgs)) (Z01 Z0h hb27) (.cons (Ziw.of_loop ((ih.beehiveref4_form_L0) p0 (0:Int) (.inr r30) hr28)) y5)))
            ·obtain rfl:=yl h
             exact y9 843 [af,.reg [aa, yg [dv (.bool r1)],aa],ae,af,af,ae,af,ae,af,ae,af,ae,af,ae,af,ae,af,ae,af,ae,af,ae,ak] func79 (.c8 y7 (Z0e N p0 r1 hr1) (Z01 (Z09 Z04) hb2) y7 (Z01 Z03 hb3) (Z01 Z03 hb5) (Z01 Z03 hb9) (Z01 Z03 hb11) (.c4 (Z01 Z03 hb13) (Z01 Z03 hb15) (Z01 Z03 hb16) (Z01 Z03 hb17) (.cons (Z01 Z03 hb26) y5)))
theorem Zff (N:Nat) (p0:Z00) (r:Bool) (h:beehiveref4_form N p0=some r):Ziz prog 79 [.v (.agg (Z0a p0))] (Zbc r):=(Zc6 N).beehiveref4_form p0 r h
def Zh5 (r:Bool):List PV:=[dv (.bool r)]
def Z4x (N:Nat) (p0:Z00):Option Bool:=(beehiveref3_Weight N p0).bind fun r1=>if r1≤(300:Int) then (beehiveref4_form N p0).bind fun r3=>some r3 else some false
theorem Z19 (N:Nat) (p0:Z00) (r:Bool) (h:Z4x N p0=some r):Ziz prog 49 [.v (.agg (Z0a p0))] (Zh5 r):=by
 unfold Z4x at h
 obtain ⟨r1,hr1,h⟩:=yj h
 rcases Z07 h with ⟨hb2,h⟩ | ⟨hb2,h⟩
 ·obtain ⟨r3,hr3,h⟩:=yj h
  obtain rfl:=yl h
  exact y9 170 [af,.reg [aa, yg [vi r1],aa,aa,aa, yg [dv (.bool r3)], { h:=.pick true },aa]] func49 (.c4 y7 (Za4 N p0 r1 hr1) (Zj8 Z06 hb2) y7 (.c2 (Zj8 Z06 hb2) (Zff N p0 r3 hr3) (.cons (Zj8 Z06 hb2) y5)))
 ·obtain rfl:=yl h
  exact y9 170 [af,.reg [aa, yg [vi r1],aa,aa,w0,w0, { h:=.pick false },aa]] func49 (.c4 y7 (Za4 N p0 r1 hr1) (Z01 Z06 hb2) (Z01 Z06 hb2) (.cons (Z01 Z06 hb2) y5))
def Zf5 (r:Int):List PV:=[vi r]
def Z6g (N:Nat) (p0:Z00):Option Int:=(idx ([(0:Int),(1:Int),(1:Int),(1:Int),(2:Int),(3:Int),(4:Int),(5:Int),(6:Int),(7:Int)]:List Int) p0.fKind).bind fun x1=>some x1
theorem Z14 (N:Nat) (p0:Z00) (r:Int) (h:Z6g N p0=some r):Ziz prog 80 [.v (.agg (Z0a p0))] (Zf5 r):=by
 unfold Z6g at h
 obtain ⟨x1,hx1,h⟩:=yj h
 obtain rfl:=yl h
 exact y9 170 [af,.reg [{ post:=[.ob 4 (.arr 1 (([(0:Int),(1:Int),(1:Int),(1:Int),(2:Int),(3:Int),(4:Int),(5:Int),(6:Int),(7:Int)]:List Int).map (rI .i64)) true)] },aa],.reg [aa,aa,aa,aa, { cast:=some (ai x1) },aa]] func80 (.c4 (Z42 (by rfl):Ob.Le (.arr 1 [[.int .i64 (0:Int)],[.int .i64 (1:Int)],[.int .i64 (1:Int)],[.int .i64 (1:Int)],[.int .i64 (2:Int)],[.int .i64 (3:Int)],[.int .i64 (4:Int)],[.int .i64 (5:Int)],[.int .i64 (6:Int)],[.int .i64 (7:Int)]] true) (.arr 1 (([(0:Int),(1:Int),(1:Int),(1:Int),(2:Int),(3:Int),(4:Int),(5:Int),(6:Int),(7:Int)]:List Int).map (rI .i64)) true)) y7 (Z0m hx1:0≤p0.fKind∧p0.fKind < (((([(0:Int),(1:Int),(1:Int),(1:Int),(2:Int),(3:Int),(4:Int),(5:Int),(6:Int),(7:Int)]:List Int).map (rI .i64)).length:Nat):Int)) (⟨Zjy (Z2c hx1).2.2,by decide⟩:(p0.fKind).toNat < (([(0:Int),(1:Int),(1:Int),(1:Int),(2:Int),(3:Int),(4:Int),(5:Int),(6:Int),(7:Int)]:List Int).map (rI .i64)).length∧0≤1) (.cons (Zjx (fun l=>(da (l.getD 0 .nils))) (Z2c hx1).2.2 rfl:AV.Le (da (((([(0:Int),(1:Int),(1:Int),(1:Int),(2:Int),(3:Int),(4:Int),(5:Int),(6:Int),(7:Int)]:List Int).map (rI .i64)).getD ((p0.fKind).toNat) []).getD 0 .nils)) (ai x1)) y5))
def Zgm (r:Int):List PV:=[vi r]
def Z4g (N:Nat) (p0:Int) (p1:Int):Option Int:=if p0 < p1 then some (-1:Int) else if p0 > p1 then some (1:Int) else some (0:Int)
theorem Z7w (N:Nat) (p0:Int) (p1:Int) (r:Int) (h:Z4g N p0 p1=some r):Ziz prog 81 [vi p0,vi p1] (Zgm r):=by
 unfold Z4g at h
 rcases Z07 h with ⟨hb1,h⟩ | ⟨hb1,h⟩
 ·obtain rfl:=yl h
  exact y9 185 [ak,.reg (e 4),ah,ak] func81 (.cons (Zj8 Z06 hb1) y5)
 ·rcases Z07 h with ⟨hb2,h⟩ | ⟨hb2,h⟩
  ·obtain rfl:=yl h
   exact y9 185 [ak,.reg (e 4),ae,.reg (e 4),ah,ak] func81 (.c2 (Z01 Z06 hb1) (Zj8 Z06 hb2) y5)
  ·obtain rfl:=yl h
   exact y9 185 [ak,.reg (e 4),ae,.reg (e 4),ae,ak] func81 (.c2 (Z01 Z06 hb1) (Z01 Z06 hb2) y5)
def Zgh (p0:Bool) (p1:(List Int)) (v5:Int):St:={ fr:=([(da (.bool p0)),(da (.sl 1 (p1.map (rI .u32)))),.bad,.bad,(.v (.one (.ptr 4 0))),(ai v5)]++bads 23),obs:=[(4,.var [.d (.bool false),.d (.nils)])] }
def Z7r (p0:Bool) (p1:(List Int)) (o:Int):St:={ fr:=([(da (.bool p0)),(da (.sl 1 (p1.map (rI .u32)))),.bad,.bad,(.v (.one (.ptr 4 0))),(ai o)]++bads 23),obs:=[(4,.var [.d (.bool false),.d (.nils)])] }
def Z1l:Nat→Bool→(List Int)→Int→Option (Int)
 |0,_,_,_=>none
 |N+1,p0,p1,v5=>if v5 > (0:Int) then (idx p1 (wrap .i64 (v5 - (1:Int)))).bind fun x2=>if x2=(0:Int) then Z1l N p0 p1 (wrap .i64 (v5 - (1:Int))) else some v5 else some v5
theorem Za6:∀ (N:Nat) (p0:Bool) (p1:(List Int)) (v5:Int) (r:(Int)),Z1l N p0 p1 v5=some r→Zj0 prog 297 (partOf f123 [1,1,0,0,0]) (Zgh p0 p1 v5) (.exit 0) (Z7r p0 p1 r):=by
 intro N
 induction N with
 |zero=>intro p0 p1 v5 r h; cases h
 |succ N ih =>
  intro p0 p1 v5 r h
  rw [Z1l] at h
  rcases Z07 h with ⟨hb1,h⟩ | ⟨hb1,h⟩
  ·obtain ⟨x2,hx2,h⟩:=yj h
   rcases Z07 h with ⟨hb3,h⟩ | ⟨hb3,h⟩
   ·exact Zj0.again (y8 [.reg [aa,aa,aa,aa,aa,aa, { cast:=some (.v (.one (.fptr [.int .u32 x2]))) },aa,aa, { h:=.pick true }],ah,ay,.adj [.keep [0,1,4,5] [4]]] (.c8 (Zj8 Z06 hb1) (Zj8 Z06 hb1) (Zj8 Z06 hb1) (Zj8 Z06 hb1) (Z0m hx2:0≤wrap .i64 (v5 - (1:Int))∧wrap .i64 (v5 - (1:Int)) < (((p1.map (rI .u32)).length:Nat):Int)) (Z0i hx2 rfl:AV.Le (.v (.one (.fptr ((List.range 1).map fun j=>((p1.map (rI .u32)).getD (Int.toNat (wrap .i64 (v5 - (1:Int)))) []).getD j .nils)))) (.v (.one (.fptr [.int .u32 x2])))) (Zj8 Z06 hb1) y7 (.c2 (Zj8 Z06 hb1) (Zj8 Z06 hb1) (.cons (Zj8 Z03 hb3) y5)))) (ih p0 p1 (wrap .i64 (v5 - (1:Int))) _ h)
   ·obtain rfl:=yl h
    exact Zj0.out (y8 [.reg [aa,aa,aa,aa,aa,aa, { cast:=some (.v (.one (.fptr [.int .u32 x2]))) },aa,aa, { h:=.pick true }],ae,.adj [.keep [0,1,4,5] [4]]] (.c8 (Zj8 Z06 hb1) (Zj8 Z06 hb1) (Zj8 Z06 hb1) (Zj8 Z06 hb1) (Z0m hx2:0≤wrap .i64 (v5 - (1:Int))∧wrap .i64 (v5 - (1:Int)) < (((p1.map (rI .u32)).length:Nat):Int)) (Z0i hx2 rfl:AV.Le (.v (.one (.fptr ((List.range 1).map fun j=>((p1.map (rI .u32)).getD (Int.toNat (wrap .i64 (v5 - (1:Int)))) []).getD j .nils)))) (.v (.one (.fptr [.int .u32 x2])))) (Zj8 Z06 hb1) y7 (.c2 (Zj8 Z06 hb1) (Zj8 Z06 hb1) (.cons (Z01 Z03 hb3) y5)))) (by simp)
  ·obtain rfl:=yl h
   exact Zj0.out (y8 [.reg [aa,aa,aa,w0,w0,w0,w0,w0,w0, { h:=.pick false }],ae,.adj [.keep [0,1,4,5] [4]]] (.c8 (Z01 Z06 hb1) (Z01 Z06 hb1) (Z01 Z06 hb1) (Z01 Z06 hb1) (Z01 Z06 hb1) (Z01 Z06 hb1) (Z01 Z06 hb1) yf y5)) (by simp)
def Zhw (r:Z08):List PV:=[az r.fNeg r.fMag]
def Z66 (N:Nat) (p0:Bool) (p1:(List Int)):Option Z08:=(Z1l N p0 p1 (p1.length:Int)).bind fun r4=>if r4=(0:Int) then some (Z08.mk false []) else (Lift.cut p1 (0:Int) r4).bind fun x6=>(app0 x6).bind fun x7=>some (Z08.mk p0 x7)
theorem Zbe (N:Nat) (p0:Bool) (p1:(List Int)) (r:Z08) (h:Z66 N p0 p1=some r):Ziz prog 123 [dv (.bool p0),dv (.sl 1 (p1.map (rI .u32)))] (Zhw r):=by
 unfold Z66 at h
 obtain ⟨r4,hr4,h⟩:=yj h
 rcases Z07 h with ⟨hb5,h⟩ | ⟨hb5,h⟩
 ·obtain rfl:=yl h
  exact y9 297 [ak,.reg [aa, { cast:=some (ai (p1.length:Int)) },aa],.adj [.keep [0,1,4,5] [4]],.cut (.exit 0) (Z7r p0 p1 r4),af,ah,af,.adj [.ob 4 (.var [.d (.bool false),.d (.sl 1 [])])]] func123 (.c4 (Zjk:AV.Le (ai (((p1.map (rI .u32)).length:Nat):Int)) (ai (p1.length:Int))) (Ziw.of_loop (Za6 N p0 p1 (p1.length:Int) r4 hr4)) (Zj8 Z03 hb5) y7 (.c2 (Ob.Le.var (All2.cons (AC.Le.refl _) (All2.cons (AC.Le.d (C.Le.nils 1)) (All2.nil))):Ob.Le (.var [.d (.bool false),.d (.nils)]) (.var [.d (.bool false),.d (.sl 1 [])])) y7 y5))
 ·obtain ⟨x6,hx6,h⟩:=yj h
  obtain ⟨x7,hx7,h⟩:=yj h
  obtain rfl:=yl h
  exact y9 297 [ak,.reg [aa, { cast:=some (ai (p1.length:Int)) },aa],.adj [.keep [0,1,4,5] [4]],.cut (.exit 0) (Z7r p0 p1 r4),af,ae,.reg [aa,aa,aa, { cast:=some (da (.sl 1 (x6.map (rI .u32)))) }, { cast:=some (.v (.one (.vw 27 1 0 ((x7.map (rI .u32)).length)))),post:=[.ob 27 (.arr 1 (x7.map (rI .u32)) true)] },aa,aa],.adj [.fz 27]] func123 (.c8 (Zjk:AV.Le (ai (((p1.map (rI .u32)).length:Nat):Int)) (ai (p1.length:Int))) (Ziw.of_loop (Za6 N p0 p1 (p1.length:Int) r4 hr4)) (Z01 Z03 hb5) (cut_bnd hx6:0≤(0:Int)∧(0:Int)≤r4∧r4≤(((p1.map (rI .u32)).length:Nat):Int)) (cut_le hx6:AV.Le (da (.sl 1 (((p1.map (rI .u32)).drop (Int.toNat (0:Int))).take (Int.toNat r4 - Int.toNat (0:Int))))) (da (.sl 1 (x6.map (rI .u32))))) y7 (app0_b hx7 (by decide):(x6.map (rI .u32)).length * 4≤140737488355328) (app0_m hx7:(x6.map (rI .u32)).length≤9223372036854775807) (.c4 (app0_n hx7:AV.Le (.v (.one (.vw 27 1 0 (x6.map (rI .u32)).length))) (.v (.one (.vw 27 1 0 ((x7.map (rI .u32)).length))))) (app0_ob hx7:Ob.Le (.arr 1 (x6.map (rI .u32)) true) (.arr 1 (x7.map (rI .u32)) true)) y7 (⟨rfl,rfl⟩:(1:Nat)=1∧aj x7) (.c2 (⟨rfl,rfl⟩:(1:Nat)=1∧aj x7) (⟨rfl,rfl⟩:(1:Nat)=1∧aj x7) (.cons y7 y5))))
def Zi9 (r:Z08):List PV:=[az r.fNeg r.fMag]
def Z5t (N:Nat) (p0:Int):Option Z08:=if p0 < (0:Int) then (Z66 N (decide (p0 < (0:Int))) ([wrap .u32 (wrap .u64 (0 - wrap .u64 p0)),wrap .u32 (Int.fdiv (wrap .u64 (0 - wrap .u64 p0)) (yh 32))]:List Int)).bind fun r2=>some r2 else (Z66 N (decide (p0 < (0:Int))) ([wrap .u32 (wrap .u64 p0),wrap .u32 (Int.fdiv (wrap .u64 p0) (yh 32))]:List Int)).bind fun r3=>some r3
theorem Z4z (N:Nat) (p0:Int) (r:Z08) (h:Z5t N p0=some r):Ziz prog 91 [vi p0] (Zi9 r):=by
 unfold Z5t at h
 rcases Z07 h with ⟨hb1,h⟩ | ⟨hb1,h⟩
 ·obtain ⟨r2,hr2,h⟩:=yj h
  obtain rfl:=yl h
  exact y9 233 [ak,ay,af,ah,ay,.reg [aa,aa,aa,aa,aa,aa,aa, { post:=[.ob 17 (.arr 1 (([wrap .u32 (wrap .u64 (0 - wrap .u64 p0)),wrap .u32 (Int.fdiv (wrap .u64 (0 - wrap .u64 p0)) (yh 32))]:List Int).map (rI .u32)) true)] }, { pre:=[.fz 17],h:=.pcall [az r2.fNeg r2.fMag] },aa]] func91 (.c4 (Zj8 Z06 hb1) (Z42 (by rfl):Ob.Le (.arr 1 [[.int .u32 (wrap .u32 (wrap .u64 (0 - wrap .u64 p0)))],[.int .u32 (wrap .u32 (Int.fdiv (wrap .u64 (0 - wrap .u64 p0)) (yh 32)))]] true) (.arr 1 (([wrap .u32 (wrap .u64 (0 - wrap .u64 p0)),wrap .u32 (Int.fdiv (wrap .u64 (0 - wrap .u64 p0)) (yh 32))]:List Int).map (rI .u32)) true)) (⟨rfl,rfl⟩:(1:Nat)=1∧(([wrap .u32 (wrap .u64 (0 - wrap .u64 p0)),wrap .u32 (Int.fdiv (wrap .u64 (0 - wrap .u64 p0)) (yh 32))]:List Int).map (rI .u32)).length=(([wrap .u32 (wrap .u64 (0 - wrap .u64 p0)),wrap .u32 (Int.fdiv (wrap .u64 (0 - wrap .u64 p0)) (yh 32))]:List Int).map (rI .u32)).length) (Zbe N (decide (p0 < (0:Int))) ([wrap .u32 (wrap .u64 (0 - wrap .u64 p0)),wrap .u32 (Int.fdiv (wrap .u64 (0 - wrap .u64 p0)) (yh 32))]:List Int) r2 hr2) (.c2 y7 y7 y5))
 ·obtain ⟨r3,hr3,h⟩:=yj h
  obtain rfl:=yl h
  exact y9 233 [ak,ay,af,ae,.reg [aa,aa,aa,aa,aa,aa,aa, { post:=[.ob 17 (.arr 1 (([wrap .u32 (wrap .u64 p0),wrap .u32 (Int.fdiv (wrap .u64 p0) (yh 32))]:List Int).map (rI .u32)) true)] }, { pre:=[.fz 17],h:=.pcall [az r3.fNeg r3.fMag] },aa]] func91 (.c4 (Z01 Z06 hb1) (Z42 (by rfl):Ob.Le (.arr 1 [[.int .u32 (wrap .u32 (wrap .u64 p0))],[.int .u32 (wrap .u32 (Int.fdiv (wrap .u64 p0) (yh 32)))]] true) (.arr 1 (([wrap .u32 (wrap .u64 p0),wrap .u32 (Int.fdiv (wrap .u64 p0) (yh 32))]:List Int).map (rI .u32)) true)) (⟨rfl,rfl⟩:(1:Nat)=1∧(([wrap .u32 (wrap .u64 p0),wrap .u32 (Int.fdiv (wrap .u64 p0) (yh 32))]:List Int).map (rI .u32)).length=(([wrap .u32 (wrap .u64 p0),wrap .u32 (Int.fdiv (wrap .u64 p0) (yh 32))]:List Int).map (rI .u32)).length) (Zbe N (decide (p0 < (0:Int))) ([wrap .u32 (wrap .u64 p0),wrap .u32 (Int.fdiv (wrap .u64 p0) (yh 32))]:List Int) r3 hr3) (.c2 y7 y7 y5))
def Zht (r:(Z08 × Bool)):List PV:=[az r.1.fNeg r.1.fMag,dv (.bool r.2)]
def Z51 (N:Nat) (p0:Z00):Option (Z08 × Bool):=(Z4x N p0).bind fun r1=>if ¬ (r1=true) then some ((Z08.mk false []),false) else if p0.fKind ≠ (1:Int) then if p0.fKind ≠ (2:Int) then some ((Z08.mk false []),false) else if p0.fKind=(1:Int) then (Z5t N p0.fN).bind fun r6=>some (r6,true) else (app0 p0.fNum.fMag).bind fun x7=>some ((Z08.mk p0.fNum.fNeg x7),true) else if p0.fKind=(1:Int) then (Z5t N p0.fN).bind fun r9=>some (r9,true) else (app0 p0.fNum.fMag).bind fun x10=>some ((Z08.mk p0.fNum.fNeg x10),true)
theorem Z2m (N:Nat) (p0:Z00) (r:(Z08 × Bool)) (h:Z51 N p0=some r):Ziz prog 56 [.v (.agg (Z0a p0))] (Zht r):=by
 unfold Z51 at h
 obtain ⟨r1,hr1,h⟩:=yj h
 rcases Z07 h with ⟨hb2,h⟩ | ⟨hb2,h⟩
 ·obtain rfl:=yl h
  exact y9 354 [ay,.reg [aa, yg [dv (.bool r1)],aa,aa,w0,w0,w0,w0,w0,w0,w0,w0, { h:=.pick true }],ah,ay,.adj [.ob 2 (.var [.d (.bool false),.d (.sl 1 [])])]] func56 (.c8 y7 (Z19 N p0 r1 hr1) (Zj8 (Z09 Z04) hb2) (Zj8 (Z09 Z04) hb2) (Zj8 (Z09 Z04) hb2) (Zj8 (Z09 Z04) hb2) (Zj8 (Z09 Z04) hb2) (Zj8 (Z09 Z04) hb2) (.c4 (Eq.refl true) y7 (Ob.Le.var (All2.cons (AC.Le.refl _) (All2.cons (AC.Le.d (C.Le.nils 1)) (All2.nil))):Ob.Le (.var [.d (.bool false),.d (.nils)]) (.var [.d (.bool false),.d (.sl 1 [])])) y7 y5))
 ·rcases Z07 h with ⟨hb3,h⟩ | ⟨hb3,h⟩
  ·rcases Z07 h with ⟨hb4,h⟩ | ⟨hb4,h⟩
   ·obtain rfl:=yl h
    exact y9 354 [ay,.reg [aa, yg [dv (.bool r1)],aa,aa,aa,aa,aa,aa,aa,aa,aa, { h:=.pick true }, { h:=.pick false }],ah,ay,.adj [.ob 2 (.var [.d (.bool false),.d (.sl 1 [])])]] func56 (.c8 y7 (Z19 N p0 r1 hr1) (Z01 (Z09 Z04) hb2) (Z01 (Z09 Z04) hb2) y7 (Z01 (Z09 Z04) hb2) (Z01 (Z09 Z04) hb2) (Zj8 Z0h hb3) (.c8 (Zj8 Z0h hb3) y7 (Zj8 Z0h hb3) (Z01 (Z09 Z04) hb2) (Zj8 Z0h hb3) (Z01 (Z09 Z04) hb2) (Zj8 Z0h hb4) y7 (.c2 (Ob.Le.var (All2.cons (AC.Le.refl _) (All2.cons (AC.Le.d (C.Le.nils 1)) (All2.nil))):Ob.Le (.var [.d (.bool false),.d (.nils)]) (.var [.d (.bool false),.d (.sl 1 [])])) y7 y5)))
   ·rcases Z07 h with ⟨hb5,h⟩ | ⟨hb5,h⟩
    ·obtain ⟨r6,hr6,h⟩:=yj h
     obtain rfl:=yl h
     exact y9 354 [ay,.reg [aa, yg [dv (.bool r1)],aa,aa,aa,aa,aa,aa,aa,aa,aa, { h:=.pick true }, { h:=.pick false }],ae,ay,ah,.reg [aa,aa, yg [az r6.fNeg r6.fMag],aa,aa]] func56 (.c8 y7 (Z19 N p0 r1 hr1) (Z01 (Z09 Z04) hb2) (Z01 (Z09 Z04) hb2) y7 (Z01 (Z09 Z04) hb2) (Z01 (Z09 Z04) hb2) (Zj8 Z0h hb3) (.c8 (Zj8 Z0h hb3) y7 (Zj8 Z0h hb3) (Z01 (Z09 Z04) hb2) (Zj8 Z0h hb3) (Z01 (Z09 Z04) hb2) (Z01 Z0h hb4) y7 (.c4 (Zj8 Z03 hb5) y7 (Z4z N p0.fN r6 hr6) y7 (.cons y7 y5))))
    ·obtain ⟨x7,hx7,h⟩:=yj h
     obtain rfl:=yl h
     exact y9 354 [ay,.reg [aa, yg [dv (.bool r1)],aa,aa,aa,aa,aa,aa,aa,aa,aa, { h:=.pick true }, { h:=.pick false }],ae,ay,ae,.reg [aa,aa,aa,aa,aa,aa, { cast:=some (.v (.one (.vw 30 1 0 ((x7.map (rI .u32)).length)))) },aa,aa,aa],.adj [.ob 30 (.arr 1 (x7.map (rI .u32)) true),.fz 30]] func56 (.c8 y7 (Z19 N p0 r1 hr1) (Z01 (Z09 Z04) hb2) (Z01 (Z09 Z04) hb2) y7 (Z01 (Z09 Z04) hb2) (Z01 (Z09 Z04) hb2) (Zj8 Z0h hb3) (.c8 (Zj8 Z0h hb3) y7 (Zj8 Z0h hb3) (Z01 (Z09 Z04) hb2) (Zj8 Z0h hb3) (Z01 (Z09 Z04) hb2) (Z01 Z0h hb4) y7 (.c8 (Z01 Z03 hb5) y7 y7 y7 (app0_b hx7 (by decide):(p0.fNum.fMag.map (rI .u32)).length * 4≤140737488355328) (app0_m hx7:(p0.fNum.fMag.map (rI .u32)).length≤9223372036854775807) (app0_n hx7:AV.Le (.v (.one (.vw 30 1 0 (p0.fNum.fMag.map (rI .u32)).length))) (.v (.one (.vw 30 1 0 ((x7.map (rI .u32)).length))))) (AV.Le.refl (.v (.one (.ptr 1 2)))) (.c8 (AV.Le.refl (.v (.one (.ptr 1 2)))) y7 (AV.Le.refl (da (.bool p0.fNum.fNeg))) y7 (app0_ob hx7:Ob.Le (.arr 1 (p0.fNum.fMag.map (rI .u32)) true) (.arr 1 (x7.map (rI .u32)) true)) (⟨rfl,rfl⟩:(1:Nat)=1∧aj x7) (⟨rfl,rfl⟩:(1:Nat)=1∧aj x7) (⟨rfl,rfl⟩:(1:Nat)=1∧aj x7) (.cons y7 y5)))))
  ·rcases Z07 h with ⟨hb8,h⟩ | ⟨hb8,h⟩
   ·obtain ⟨r9,hr9,h⟩:=yj h
    obtain rfl:=yl h
    exact y9 354 [ay,.reg [aa, yg [dv (.bool r1)],aa,aa,aa,aa,aa,aa,w0,w0,w0, { h:=.pick false }, { h:=.pick false }],ae,ay,ah,.reg [aa,aa, yg [az r9.fNeg r9.fMag],aa,aa]] func56 (.c8 y7 (Z19 N p0 r1 hr1) (Z01 (Z09 Z04) hb2) (Z01 (Z09 Z04) hb2) y7 (Z01 (Z09 Z04) hb2) (Z01 (Z09 Z04) hb2) (Z01 Z0h hb3) (.c8 (Z01 Z0h hb3) (Z01 Z0h hb3) (Z01 (Z09 Z04) hb2) (Z01 Z0h hb3) (Z01 (Z09 Z04) hb2) yf y7 (Zj8 Z03 hb8) (.c4 y7 (Z4z N p0.fN r9 hr9) y7 y7 y5)))
   ·obtain ⟨x10,hx10,h⟩:=yj h
    obtain rfl:=yl h
    exact y9 354 [ay,.reg [aa, yg [dv (.bool r1)],aa,aa,aa,aa,aa,aa,w0,w0,w0, { h:=.pick false }, { h:=.pick false }],ae,ay,ae,.reg [aa,aa,aa,aa,aa,aa, { cast:=some (.v (.one (.vw 30 1 0 ((x10.map (rI .u32)).length)))) },aa,aa,aa],.adj [.ob 30 (.arr 1 (x10.map (rI .u32)) true),.fz 30]] func56 (.c8 y7 (Z19 N p0 r1 hr1) (Z01 (Z09 Z04) hb2) (Z01 (Z09 Z04) hb2) y7 (Z01 (Z09 Z04) hb2) (Z01 (Z09 Z04) hb2) (Z01 Z0h hb3) (.c8 (Z01 Z0h hb3) (Z01 Z0h hb3) (Z01 (Z09 Z04) hb2) (Z01 Z0h hb3) (Z01 (Z09 Z04) hb2) yf y7 (Z01 Z03 hb8) (.c8 y7 y7 y7 (app0_b hx10 (by decide):(p0.fNum.fMag.map (rI .u32)).length * 4≤140737488355328) (app0_m hx10:(p0.fNum.fMag.map (rI .u32)).length≤9223372036854775807) (app0_n hx10:AV.Le (.v (.one (.vw 30 1 0 (p0.fNum.fMag.map (rI .u32)).length))) (.v (.one (.vw 30 1 0 ((x10.map (rI .u32)).length))))) (AV.Le.refl (.v (.one (.ptr 1 2)))) (AV.Le.refl (.v (.one (.ptr 1 2)))) (.c8 y7 (AV.Le.refl (da (.bool p0.fNum.fNeg))) y7 (app0_ob hx10:Ob.Le (.arr 1 (p0.fNum.fMag.map (rI .u32)) true) (.arr 1 (x10.map (rI .u32)) true)) (⟨rfl,rfl⟩:(1:Nat)=1∧aj x10) (⟨rfl,rfl⟩:(1:Nat)=1∧aj x10) (⟨rfl,rfl⟩:(1:Nat)=1∧aj x10) y7 y5))))
def Z5r (p0:(List Int)) (p1:(List Int)) (v5:Int):St:={ fr:=([(da (.sl 1 (p0.map (rI .u32)))),(da (.sl 1 (p1.map (rI .u32)))),.bad,.bad,.bad,(ai v5)]++bads 35),obs:=[] }
def Zah (p0:(List Int)) (p1:(List Int)) (o:Unit):St:={ fr:=bads 41,obs:=[] }
def Zab (p0:(List Int)) (p1:(List Int)) (o:Int):St:={ fr:=(bads 4++[(ai o)]++bads 36),obs:=[] }
def Z2h:Nat→(List Int)→(List Int)→Int→Option ((Unit) ⊕ (Int))
 |0,_,_,_=>none
 |N+1,p0,p1,v5=>if v5 ≥ (0:Int) then (idx p0 v5).bind fun x4=>(idx p1 v5).bind fun x5=>if x4 < x5 then some (.inr (-1:Int)) else if x4 > x5 then some (.inr (1:Int)) else Z2h N p0 p1 (wrap .i64 (v5 - (1:Int))) else some (.inl ())
theorem Z9c:∀ (N:Nat) (p0:(List Int)) (p1:(List Int)) (v5:Int) (r:((Unit) ⊕ (Int))),Z2h N p0 p1 v5=some r→match r with | .inl o=>Zj0 prog 399 (partOf f126 [1,1,0,1,0,0]) (Z5r p0 p1 v5) (.exit 0) (Zah p0 p1 o) | .inr o=>Zj0 prog 399 (partOf f126 [1,1,0,1,0,0]) (Z5r p0 p1 v5) .ret (Zab p0 p1 o):=by
 intro N
 induction N with
 |zero=>intro p0 p1 v5 r h; cases h
 |succ N ih =>
  intro p0 p1 v5 r h
  rw [Z2h] at h
  rcases Z07 h with ⟨hb3,h⟩ | ⟨hb3,h⟩
  ·obtain ⟨x4,hx4,h⟩:=yj h
   obtain ⟨x5,hx5,h⟩:=yj h
   rcases Z07 h with ⟨hb6,h⟩ | ⟨hb6,h⟩
   ·obtain rfl:=yl h
    exact Zj0.out (y8 [af,ah,.reg [aa,aa, { cast:=some (.v (.one (.fptr [.int .u32 x4]))) },aa,aa,aa, { cast:=some (.v (.one (.fptr [.int .u32 x5]))) },aa,aa],ah,ak,.adj [.keep [4] []]] (.c8 (Zj8 Z06 hb3) (Z0m hx4:0≤v5∧v5 < (((p0.map (rI .u32)).length:Nat):Int)) (Z0i hx4 rfl:AV.Le (.v (.one (.fptr ((List.range 1).map fun j=>((p0.map (rI .u32)).getD (Int.toNat v5) []).getD j .nils)))) (.v (.one (.fptr [.int .u32 x4])))) y7 (Z0m hx5:0≤v5∧v5 < (((p1.map (rI .u32)).length:Nat):Int)) (Z0i hx5 rfl:AV.Le (.v (.one (.fptr ((List.range 1).map fun j=>((p1.map (rI .u32)).getD (Int.toNat v5) []).getD j .nils)))) (.v (.one (.fptr [.int .u32 x5])))) y7 (Zj8 Z06 hb6) y5)) (by simp)
   ·rcases Z07 h with ⟨hb9,h⟩ | ⟨hb9,h⟩
    ·obtain rfl:=yl h
     exact Zj0.out (y8 [af,ah,.reg [aa,aa, { cast:=some (.v (.one (.fptr [.int .u32 x4]))) },aa,aa,aa, { cast:=some (.v (.one (.fptr [.int .u32 x5]))) },aa,aa],ae,.reg [aa,aa, { cast:=some (.v (.one (.fptr [.int .u32 x4]))) },aa,aa,aa, { cast:=some (.v (.one (.fptr [.int .u32 x5]))) },aa,aa],ah,ak,.adj [.keep [4] []]] (.c8 (Zj8 Z06 hb3) (Z0m hx4:0≤v5∧v5 < (((p0.map (rI .u32)).length:Nat):Int)) (Z0i hx4 rfl:AV.Le (.v (.one (.fptr ((List.range 1).map fun j=>((p0.map (rI .u32)).getD (Int.toNat v5) []).getD j .nils)))) (.v (.one (.fptr [.int .u32 x4])))) y7 (Z0m hx5:0≤v5∧v5 < (((p1.map (rI .u32)).length:Nat):Int)) (Z0i hx5 rfl:AV.Le (.v (.one (.fptr ((List.range 1).map fun j=>((p1.map (rI .u32)).getD (Int.toNat v5) []).getD j .nils)))) (.v (.one (.fptr [.int .u32 x5])))) y7 (Z01 Z06 hb6) (.c4 (Z0m hx4:0≤v5∧v5 < (((p0.map (rI .u32)).length:Nat):Int)) (Z0i hx4 rfl:AV.Le (.v (.one (.fptr ((List.range 1).map fun j=>((p0.map (rI .u32)).getD (Int.toNat v5) []).getD j .nils)))) (.v (.one (.fptr [.int .u32 x4])))) y7 (Z0m hx5:0≤v5∧v5 < (((p1.map (rI .u32)).length:Nat):Int)) (.c2 (Z0i hx5 rfl:AV.Le (.v (.one (.fptr ((List.range 1).map fun j=>((p1.map (rI .u32)).getD (Int.toNat v5) []).getD j .nils)))) (.v (.one (.fptr [.int .u32 x5])))) y7 (.cons (Zj8 Z06 hb9) y5))))) (by simp)
    ·have hl:=ih p0 p1 (wrap .i64 (v5 - (1:Int))) _ h
     have ha:=Ziw.of_run [af,ah,.reg [aa,aa, { cast:=some (.v (.one (.fptr [.int .u32 x4]))) },aa,aa,aa, { cast:=some (.v (.one (.fptr [.int .u32 x5]))) },aa,aa],ae,.reg [aa,aa, { cast:=some (.v (.one (.fptr [.int .u32 x4]))) },aa,aa,aa, { cast:=some (.v (.one (.fptr [.int .u32 x5]))) },aa,aa],ae,ay,.adj [.keep [0,1,5] []]] (by kernel_rfl:runTo prog 399 (partOf f126 [1,1,0,1,0,0]) _ (Z5r p0 p1 v5)=some (.normal,(Z5r p0 p1 (wrap .i64 (v5 - (1:Int)))),_)) (.c8 (Zj8 Z06 hb3) (Z0m hx4:0≤v5∧v5 < (((p0.map (rI .u32)).length:Nat):Int)) (Z0i hx4 rfl:AV.Le (.v (.one (.fptr ((List.range 1).map fun j=>((p0.map (rI .u32)).getD (Int.toNat v5) []).getD j .nils)))) (.v (.one (.fptr [.int .u32 x4])))) y7 (Z0m hx5:0≤v5∧v5 < (((p1.map (rI .u32)).length:Nat):Int)) (Z0i hx5 rfl:AV.Le (.v (.one (.fptr ((List.range 1).map fun j=>((p1.map (rI .u32)).getD (Int.toNat v5) []).getD j .nils)))) (.v (.one (.fptr [.int .u32 x5])))) y7 (Z01 Z06 hb6) (.c4 (Z0m hx4:0≤v5∧v5 < (((p0.map (rI .u32)).length:Nat):Int)) (Z0i hx4 rfl:AV.Le (.v (.one (.fptr ((List.range 1).map fun j=>((p0.map (rI .u32)).getD (Int.toNat v5) []).getD j .nils)))) (.v (.one (.fptr [.int .u32 x4])))) y7 (Z0m hx5:0≤v5∧v5 < (((p1.map (rI .u32)).length:Nat):Int)) (.c2 (Z0i hx5 rfl:AV.Le (.v (.one (.fptr ((List.range 1).map fun j=>((p1.map (rI .u32)).getD (Int.toNat v5) []).getD j .nils)))) (.v (.one (.fptr [.int .u32 x5])))) y7 (.cons (Z01 Z06 hb9) y5))))
     rcases r with o | o <;> exact Zj0.again ha hl
  ·obtain rfl:=yl h
   exact Zj0.out (y8 [af,ae,.adj [.keep [] []]] (.cons (Z01 Z06 hb3) y5)) (by simp)
def Zgk (r:Int):List PV:=[vi r]
def Z5d (N:Nat) (p0:(List Int)) (p1:(List Int)):Option Int:=if (p0.length:Int) ≠ (p1.length:Int) then if (p0.length:Int) < (p1.length:Int) then some (-1:Int) else some (1:Int) else (Z2h N p0 p1 (wrap .i64 ((p0.length:Int) - (1:Int)))).bind fun r10=>(match r10 with | .inl r11=>some (0:Int) | .inr r12=>some r12)
theorem Z7b (N:Nat) (p0:(List Int)) (p1:(List Int)) (r:Int) (h:Z5d N p0 p1=some r):Ziz prog 126 [dv (.sl 1 (p0.map (rI .u32))),dv (.sl 1 (p1.map (rI .u32)))] (Zgk r):=by
 unfold Z5d at h
 rcases Z07 h with ⟨hb1,h⟩ | ⟨hb1,h⟩
 ·rcases Z07 h with ⟨hb2,h⟩ | ⟨hb2,h⟩
  ·obtain rfl:=yl h
   exact y9 399 [ak,.reg [aa, { cast:=some (ai (p0.length:Int)) },aa, { cast:=some (ai (p1.length:Int)) },aa],ah,.reg [aa, { cast:=some (ai (p0.length:Int)) },aa, { cast:=some (ai (p1.length:Int)) },aa],ah,ak] func126 (.c4 (Zjk:AV.Le (ai (((p0.map (rI .u32)).length:Nat):Int)) (ai (p0.length:Int))) (Zjk:AV.Le (ai (((p1.map (rI .u32)).length:Nat):Int)) (ai (p1.length:Int))) (Zj8 Z0h hb1) (Zjk:AV.Le (ai (((p0.map (rI .u32)).length:Nat):Int)) (ai (p0.length:Int))) (.c2 (Zjk:AV.Le (ai (((p1.map (rI .u32)).length:Nat):Int)) (ai (p1.length:Int))) (Zj8 Z06 hb2) y5))
  ·obtain rfl:=yl h
   exact y9 399 [ak,.reg [aa, { cast:=some (ai (p0.length:Int)) },aa, { cast:=some (ai (p1.length:Int)) },aa],ah,.reg [aa, { cast:=some (ai (p0.length:Int)) },aa, { cast:=some (ai (p1.length:Int)) },aa],ae,ak] func126 (.c4 (Zjk:AV.Le (ai (((p0.map (rI .u32)).length:Nat):Int)) (ai (p0.length:Int))) (Zjk:AV.Le (ai (((p1.map (rI .u32)).length:Nat):Int)) (ai (p1.length:Int))) (Zj8 Z0h hb1) (Zjk:AV.Le (ai (((p0.map (rI .u32)).length:Nat):Int)) (ai (p0.length:Int))) (.c2 (Zjk:AV.Le (ai (((p1.map (rI .u32)).length:Nat):Int)) (ai (p1.length:Int))) (Z01 Z06 hb2) y5))
 ·obtain ⟨r10,hr10,h⟩:=yj h
  rcases r10 with r11 | r12
  ·obtain rfl:=yl h
   exact y9 399 [ak,.reg [aa, { cast:=some (ai (p0.length:Int)) },aa, { cast:=some (ai (p1.length:Int)) },aa],ae,.reg [aa, { cast:=some (ai (p0.length:Int)) },aa,aa],.adj [.keep [0,1,5] []],.cut (.exit 0) (Zah p0 p1 r11),ak] func126 (.c4 (Zjk:AV.Le (ai (((p0.map (rI .u32)).length:Nat):Int)) (ai (p0.length:Int))) (Zjk:AV.Le (ai (((p1.map (rI .u32)).length:Nat):Int)) (ai (p1.length:Int))) (Z01 Z0h hb1) (Zjk:AV.Le (ai (((p0.map (rI .u32)).length:Nat):Int)) (ai (p0.length:Int))) (.cons (Ziw.of_loop (Z9c N p0 p1 (wrap .i64 ((p0.length:Int) - (1:Int))) (.inl r11) hr10)) y5))
  ·obtain rfl:=yl h
   exact y9 399 [ak,.reg [aa, { cast:=some (ai (p0.length:Int)) },aa, { cast:=some (ai (p1.length:Int)) },aa],ae,.reg [aa, { cast:=some (ai (p0.length:Int)) },aa,aa],.adj [.keep [0,1,5] []],.cut .ret (Zab p0 p1 r12)] func126 (.c4 (Zjk:AV.Le (ai (((p0.map (rI .u32)).length:Nat):Int)) (ai (p0.length:Int))) (Zjk:AV.Le (ai (((p1.map (rI .u32)).length:Nat):Int)) (ai (p1.length:Int))) (Z01 Z0h hb1) (Zjk:AV.Le (ai (((p0.map (rI .u32)).length:Nat):Int)) (ai (p0.length:Int))) (.cons (Ziw.of_loop (Z9c N p0 p1 (wrap .i64 ((p0.length:Int) - (1:Int))) (.inr r12) hr10)) y5))
end Go.Proofs.Ytllcnlonkloabaa.Sh
