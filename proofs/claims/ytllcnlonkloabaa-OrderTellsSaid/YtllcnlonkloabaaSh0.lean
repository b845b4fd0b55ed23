import Derived.Test.YtllcnlonkloabaaChecked
import Derived.Test.YtllcnlonkloabaaLift4
import Derived.Test.YtllcnlonkloabaaLift3
import Derived.KernelRfl
set_option linter.unusedVariables false
set_option linter.unusedSimpArgs false
set_option maxRecDepth 100000
namespace Go.Proofs.Ytllcnlonkloabaa.Sh
open Go Lift Go.Proofs Go.Proofs.Try
open Go.IntKind (wrap)
structure Z08 where
 fNeg:Bool
 fMag:(List Int)
 deriving Inhabited
structure Z00 where
 fKind:Int
 fN:Int
 fNum:Z08
 fBits:Int
 fBytes:ByteArray
 fArgs:(List Z00)
mutual
def Z02:Z00→List C
 |⟨Kind,N,Num,Bits,Bytes,Args⟩=>[.int .i64 Kind,.int .i64 N,.bool Num.fNeg,.sl 1 (Num.fMag.map (rI .u32)),.int .u64 Bits,.str Bytes,.sl 7 (Z6s Args)]
def Z6s:List Z00→List (List C)
 |[]=>[]
 |x::xs=>Z02 x::Z6s xs
end
theorem Zbb:∀ xs:List Z00,Z6s xs=xs.map Z02
 |[]=>rfl
 |x::xs=>by rw [Z6s,Zbb xs]; rfl
theorem Z0b (x:Z00):Z02 x=[.int .i64 x.fKind,.int .i64 x.fN,.bool x.fNum.fNeg,.sl 1 (x.fNum.fMag.map (rI .u32)),.int .u64 x.fBits,.str x.fBytes,.sl 7 (x.fArgs.map Z02)]:=by
 cases x
 rw [Z02,Zbb]
class Thr where
 n:Nat
mutual
def Z05 [Thr]:Z00→List C
 |⟨Kind,N,Num,Bits,Bytes,Args⟩=>[.int .i64 Kind,.int .i64 N,.bool Num.fNeg,.pr Thr.n 1 (Num.fMag.map (rI .u32)),.int .u64 Bits,.str Bytes,.pr Thr.n 7 (Z5u Args)]
def Z5u [Thr]:List Z00→List (List C)
 |[]=>[]
 |x::xs=>Z05 x::Z5u xs
end
theorem Z8k [Thr]:∀ xs:List Z00,Z5u xs=xs.map Z05
 |[]=>rfl
 |x::xs=>by rw [Z5u,Z8k xs]; rfl
theorem Z0c [Thr] (x:Z00):Z05 x=[.int .i64 x.fKind,.int .i64 x.fN,.bool x.fNum.fNeg,.pr Thr.n 1 (x.fNum.fMag.map (rI .u32)),.int .u64 x.fBits,.str x.fBytes,.pr Thr.n 7 (x.fArgs.map Z05)]:=by
 cases x
 rw [Z05,Z8k]
def Z21 [Thr] (x:Z00):List AC:=[.d (.int .i64 x.fKind),.d (.int .i64 x.fN),.d (.bool x.fNum.fNeg),.d (.pr Thr.n 1 (x.fNum.fMag.map (rI .u32))),.d (.int .u64 x.fBits),.d (.str x.fBytes),.d (.pr Thr.n 7 (x.fArgs.map Z05))]
def Zaj [Thr] (x:Z00):List OC:=[di x.fKind,di x.fN,.dat (.bool x.fNum.fNeg),.dat (.pr Thr.n 1 (x.fNum.fMag.map (rI .u32))),.dat (.int .u64 x.fBits),.dat (.str x.fBytes),.dat (.pr Thr.n 7 (x.fArgs.map Z05))]
def Z2a [Thr] (x:Z00):List C:=[.int .i64 x.fKind,.int .i64 x.fN,.bool x.fNum.fNeg,.mk false Thr.n (.sl 1 (x.fNum.fMag.map (rI .u32))),.int .u64 x.fBits,.str x.fBytes,.mk false Thr.n (.sl 7 (x.fArgs.map Z02))]
def Ze5 [Thr] (x:Z00):List AC:=[.d (.int .i64 x.fKind),.d (.int .i64 x.fN),.d (.bool x.fNum.fNeg),.d (.mk false Thr.n (.sl 1 (x.fNum.fMag.map (rI .u32)))),.d (.int .u64 x.fBits),.d (.str x.fBytes),.d (.mk false Thr.n (.sl 7 (x.fArgs.map Z02)))]
def Zi1 [Thr] (x:Z00):List OC:=[di x.fKind,di x.fN,.dat (.bool x.fNum.fNeg),.dat (.mk false Thr.n (.sl 1 (x.fNum.fMag.map (rI .u32)))),.dat (.int .u64 x.fBits),.dat (.str x.fBytes),.dat (.mk false Thr.n (.sl 7 (x.fArgs.map Z02)))]
def Z0f [Thr] (x:Bool × Z00):List C:=bif x.1 then Z05 x.2 else Z2a x.2
mutual
theorem qTapi_Term_le [Thr]:∀ x:Z00,All2 C.Le (Z05 x) (Z02 x)
 |⟨Kind,N,Num,Bits,Bytes,Args⟩=>by
  rw [Z05,Z02]
  exact ⟨C.Le.refl _,C.Le.refl _,C.Le.refl _,C.Le.pr (All2.refl' (fun l=>All2.refl' C.Le.refl l) _),C.Le.refl _,C.Le.refl _,C.Le.pr (Zcu Args),trivial⟩
theorem Zcu [Thr]:∀ xs:List Z00,All2 (All2 C.Le) (Z5u xs) (Z6s xs)
 |[]=>by rw [Z5u,Z6s]; trivial
 |x::xs=>by rw [Z5u,Z6s]; exact ⟨qTapi_Term_le x,Zcu xs⟩
end
theorem Zgx [Thr] (xs:List Z00):All2 (All2 C.Le) (xs.map Z05) (xs.map Z02):=by
 have:=Zcu xs
 rwa [Z8k,Zbb] at this
theorem Zih [Thr] (x:Z00):PV.Le (.v (.agg (Zaj x))) (.v (.agg [di x.fKind,di x.fN,.dat (.bool x.fNum.fNeg),au x.fNum.fMag,.dat (.int .u64 x.fBits),.dat (.str x.fBytes),.dat (.sl 7 (x.fArgs.map Z02))])) :=
 PV.Le.agg ⟨OC.Le.refl _,OC.Le.refl _,OC.Le.refl _,OC.Le.dat (C.Le.pr (All2.refl' (fun l=>All2.refl' C.Le.refl l) _)),OC.Le.refl _,OC.Le.refl _,OC.Le.dat (C.Le.pr (Zgx _)),trivial⟩
theorem rq_len [Thr] (l:List Z00):(l.map Z02).length=(l.map Z05).length:=by rw [xg,xg]
def Z13 (x:Z00):List C:=[.int .i64 x.fKind,.int .i64 x.fN,.bool x.fNum.fNeg,.sl 1 (x.fNum.fMag.map (rI .u32)),.int .u64 x.fBits,.str x.fBytes,.sl 7 (x.fArgs.map Z02)]
def Z0d (x:Z00):List AC:=[.d (.int .i64 x.fKind),.d (.int .i64 x.fN),.d (.bool x.fNum.fNeg),.d (.sl 1 (x.fNum.fMag.map (rI .u32))),.d (.int .u64 x.fBits),.d (.str x.fBytes),.d (.sl 7 (x.fArgs.map Z02))]
def Z0a (x:Z00):List OC:=[di x.fKind,di x.fN,.dat (.bool x.fNum.fNeg),au x.fNum.fMag,.dat (.int .u64 x.fBits),.dat (.str x.fBytes),.dat (.sl 7 (x.fArgs.map Z02))]
structure Z17 where
 fn:Int
 deriving Inhabited
def Z59 (p0:(List Z00)) (p1:Int) (v5:Int) (v6:Int):St:={ fr:=([(da (.sl 7 (p0.map Z02))),(ai p1),.bad,.bad,.bad,(ai v5),(ai v6)]++bads 44),obs:=[] }
def Z9q (p0:(List Z00)) (p1:Int) (o:Int):St:={ fr:=(bads 5++[(ai o)]++bads 45),obs:=[] }
def Z9y (p0:(List Z00)) (p1:Int) (o:Unit):St:={ fr:=(bads 4++[(ai (wrap .i64 (p1+(1:Int))))]++bads 46),obs:=[] }
def Zb4 (r:Int):List PV:=[vi r]
mutual
def beehivelaw0_parts_L0:Nat→(List Z00)→Int→Int→Int→Option ((Int) ⊕ (Unit))
 |0,_,_,_,_=>none
 |N+1,p0,p1,v5,v6=>if v6 < (p0.length:Int) then if v5≤p1 then (idx p0 v6).bind fun x3=>if (x3.fBytes.size:Int) > (1000:Int) then some (.inr ()) else if (x3.fNum.fMag.length:Int) > (40:Int) then some (.inr ()) else (beehivelaw0_parts N x3.fArgs (wrap .i64 ((wrap .i64 (p1 - v5)) - (1:Int)))).bind fun r8=>beehivelaw0_parts_L0 N p0 p1 (wrap .i64 ((wrap .i64 (v5+(1:Int)))+r8)) (wrap .i64 (v6+(1:Int))) else some (.inl v5) else some (.inl v5)
def beehivelaw0_parts:Nat→(List Z00)→Int→Option Int
 |0,_,_=>none
 |N+1,p0,p1=>(beehivelaw0_parts_L0 N p0 p1 (0:Int) (0:Int)).bind fun r9=>(match r9 with | .inl r10=>some r10 | .inr r11=>some (wrap .i64 (p1+(1:Int))))
end
structure Zfh (N:Nat):Prop where
 beehivelaw0_parts_L0:∀ (p0:(List Z00)) (p1:Int) (v5:Int) (v6:Int) (r:((Int) ⊕ (Unit))),beehivelaw0_parts_L0 N p0 p1 v5 v6=some r→match r with | .inl o=>Zj0 prog 457 (partOf f40 [1,1,0,1,0,0]) (Z59 p0 p1 v5 v6) (.exit 0) (Z9q p0 p1 o) | .inr o=>Zj0 prog 457 (partOf f40 [1,1,0,1,0,0]) (Z59 p0 p1 v5 v6) .ret (Z9y p0 p1 o)
 beehivelaw0_parts:∀ (p0:(List Z00)) (p1:Int) (r:Int),beehivelaw0_parts N p0 p1=some r→Ziz prog 40 [dv (.sl 7 (p0.map Z02)),vi p1] (Zb4 r)
theorem Zbq:∀ N,Zfh N:=by
 intro N
 induction N with
 |zero =>
  constructor
  ·intro p0 p1 v5 v6 r h; rw [beehivelaw0_parts_L0] at h; cases h
  ·intro p0 p1 r h; rw [beehivelaw0_parts] at h; cases h
 |succ N ih =>
  constructor
  ·intro p0 p1 v5 v6 r h
   rw [beehivelaw0_parts_L0] at h
   rcases Z07 h with ⟨hb1,h⟩ | ⟨hb1,h⟩
   ·rcases Z07 h with ⟨hb2,h⟩ | ⟨hb2,h⟩
    ·obtain ⟨x3,hx3,h⟩:=yj h
     rcases Z07 h with ⟨hb4,h⟩ | ⟨hb4,h⟩
     ·obtain rfl:=yl h
      exact Zj0.out (y8 [.reg [aa,aa, { cast:=some (ai (p0.length:Int)) },aa,aa,aa,aa,aa, { h:=.pick true }],ah,.reg [aa,aa, { cast:=some (.v (.one (.fptr (Z13 x3)))) },aa,aa,aa,aa,aa,w0,w0,w0,w0,w0,w0,w0,w0, { h:=.pick true }],ah,ay,.adj [.keep [4] []]] (.c8 (Zjk (r:=Z02) (xs:=p0)) (Zj8 Z06 hb1) (Zj8 Z06 hb1) (Zj8 Z06 hb1) (Zj8 Z06 hb1) (Zj8 Z06 hb2) (Z0m (r:=Z02) hx3) (Z0i hx3 (Z0b x3)) (.c8 y7 (Zj8 Z06 hb4) (Zj8 Z06 hb4) (Zj8 Z06 hb4) (Zj8 Z06 hb4) (Zj8 Z06 hb4) (Zj8 Z06 hb4) (Zj8 Z06 hb4) (.c2 (Zj8 Z06 hb4) (Zj8 Z06 hb4) (.cons (Eq.refl true) y5))))) (by simp)
     ·rcases Z07 h with ⟨hb6,h⟩ | ⟨hb6,h⟩
      ·obtain rfl:=yl h
       exact Zj0.out (y8 [.reg [aa,aa, { cast:=some (ai (p0.length:Int)) },aa,aa,aa,aa,aa, { h:=.pick true }],ah,.reg [aa,aa, { cast:=some (.v (.one (.fptr (Z13 x3)))) },aa,aa,aa,aa,aa,aa,aa, { cast:=some (.v (.one (.fptr (Z13 x3)))) },aa,aa,aa, { cast:=some (ai (x3.fNum.fMag.length:Int)) },aa, { h:=.pick false }],ah,ay,.adj [.keep [4] []]] (.c8 (Zjk (r:=Z02) (xs:=p0)) (Zj8 Z06 hb1) (Zj8 Z06 hb1) (Zj8 Z06 hb1) (Zj8 Z06 hb1) (Zj8 Z06 hb2) (Z0m (r:=Z02) hx3) (Z0i hx3 (Z0b x3)) (.c8 y7 (Z01 Z06 hb4) (Z01 Z06 hb4) (Z01 Z06 hb4) (Z0m (r:=Z02) hx3) (Z0i hx3 (Z0b x3)) (Z01 Z06 hb4) (Z01 Z06 hb4) (.c4 (Z01 Z06 hb4) y7 (Z01 Z06 hb4) (Zjk:AV.Le (ai (((x3.fNum.fMag.map (rI .u32)).length:Nat):Int)) (ai (x3.fNum.fMag.length:Int))) (.c2 (Z01 Z06 hb4) (Z01 Z06 hb4) (.cons (Zj8 Z06 hb6) y5)))))) (by simp)
      ·obtain ⟨r8,hr8,h⟩:=yj h
       have hl:=ih.beehivelaw0_parts_L0 p0 p1 (wrap .i64 ((wrap .i64 (v5+(1:Int)))+r8)) (wrap .i64 (v6+(1:Int))) _ h
       have ha:=Ziw.of_run [.reg [aa,aa, { cast:=some (ai (p0.length:Int)) },aa,aa,aa,aa,aa, { h:=.pick true }],ah,.reg [aa,aa, { cast:=some (.v (.one (.fptr (Z13 x3)))) },aa,aa,aa,aa,aa,aa,aa, { cast:=some (.v (.one (.fptr (Z13 x3)))) },aa,aa,aa, { cast:=some (ai (x3.fNum.fMag.length:Int)) },aa, { h:=.pick false }],ae,.reg [aa,aa,aa,aa, { cast:=some (.v (.one (.fptr (Z13 x3)))) },aa,aa,aa,aa,aa,aa, yg [vi r8],aa,aa],ay,.adj [.keep [0,1,5,6] []]] (by kernel_rfl:runTo prog 457 (partOf f40 [1,1,0,1,0,0]) _ (Z59 p0 p1 v5 v6)=some (.normal,(Z59 p0 p1 (wrap .i64 ((wrap .i64 (v5+(1:Int)))+r8)) (wrap .i64 (v6+(1:Int)))),_)) (.c8 (Zjk (r:=Z02) (xs:=p0)) (Zj8 Z06 hb1) (Zj8 Z06 hb1) (Zj8 Z06 hb1) (Zj8 Z06 hb1) (Zj8 Z06 hb2) (Z0m (r:=Z02) hx3) (Z0i hx3 (Z0b x3)) (.c8 y7 (Z01 Z06 hb4) (Z01 Z06 hb4) (Z01 Z06 hb4) (Z0m (r:=Z02) hx3) (Z0i hx3 (Z0b x3)) (Z01 Z06 hb4) (Z01 Z06 hb4) (.c8 (Z01 Z06 hb4) y7 (Z01 Z06 hb4) (Zjk:AV.Le (ai (((x3.fNum.fMag.map (rI .u32)).length:Nat):Int)) (ai (x3.fNum.fMag.length:Int))) (Z01 Z06 hb4) (Z01 Z06 hb4) (Z01 Z06 hb6) (Z0m (r:=Z02) hx3) (.c2 (Z0i hx3 (Z0b x3)) y7 (.cons ((ih.beehivelaw0_parts) x3.fArgs (wrap .i64 ((wrap .i64 (p1 - v5)) - (1:Int))) r8 hr8) y5)))))
       rcases r with o | o <;> exact Zj0.again ha hl
    ·obtain rfl:=yl h
     exact Zj0.out (y8 [.reg [aa,aa, { cast:=some (ai (p0.length:Int)) },aa,aa,aa,aa,aa, { h:=.pick true }],ae,.adj [.keep [5] []]] (.c4 (Zjk (r:=Z02) (xs:=p0)) (Zj8 Z06 hb1) (Zj8 Z06 hb1) (Zj8 Z06 hb1) (.c2 (Zj8 Z06 hb1) (Z01 Z06 hb2) y5))) (by simp)
   ·obtain rfl:=yl h
    exact Zj0.out (y8 [.reg [aa,aa, { cast:=some (ai (p0.length:Int)) },aa,aa,w0,w0,w0, { h:=.pick false }],ae,.adj [.keep [5] []]] (.c4 (Zjk (r:=Z02) (xs:=p0)) (Z01 Z06 hb1) (Z01 Z06 hb1) (Z01 Z06 hb1) (.c2 (Z01 Z06 hb1) yf y5))) (by simp)
  ·intro p0 p1 r h
   rw [beehivelaw0_parts] at h
   obtain ⟨r9,hr9,h⟩:=yj h
   rcases r9 with r10 | r11
   ·obtain rfl:=yl h
    exact y9 457 [ak,ak,ak,.adj [.keep [0,1,5,6] []],.cut (.exit 0) (Z9q p0 p1 r10),af] func40 (.cons (Ziw.of_loop ((ih.beehivelaw0_parts_L0) p0 p1 (0:Int) (0:Int) (.inl r10) hr9)) y5)
   ·obtain rfl:=yl h
    exact y9 457 [ak,ak,ak,.adj [.keep [0,1,5,6] []],.cut .ret (Z9y p0 p1 r11)] func40 (.cons (Ziw.of_loop ((ih.beehivelaw0_parts_L0) p0 p1 (0:Int) (0:Int) (.inr r11) hr9)) y5)
theorem Zad (N:Nat) (p0:(List Z00)) (p1:Int) (r:Int) (h:beehivelaw0_parts N p0 p1=some r):Ziz prog 40 [dv (.sl 7 (p0.map Z02)),vi p1] (Zb4 r):=(Zbq N).beehivelaw0_parts p0 p1 r h
def Zd0 (r:Bool):List PV:=[dv (.bool r)]
def Z46 (N:Nat) (p0:Z00) (p1:Int):Option Bool:=(beehivelaw0_parts N ([p0]:List Z00) p1).bind fun r1=>some (decide (r1 > p1))
theorem Z1v (N:Nat) (p0:Z00) (p1:Int) (r:Bool) (h:Z46 N p0 p1=some r):Ziz prog 20 [.v (.agg (Z0a p0)),vi p1] (Zd0 r):=by
 unfold Z46 at h
 obtain ⟨r1,hr1,h⟩:=yj h
 obtain rfl:=yl h
 exact y9 165 [af,.reg [aa, { post:=[.ob 6 (.arr 7 (([p0]:List Z00).map Z02) true)] },aa, { h:=.lcall [vi r1] },aa,aa,aa]] func20 (.c4 y7 (Z42 (by simp only [qh,uw,Z0b]):Ob.Le (.arr 7 [[.int .i64 p0.fKind,.int .i64 p0.fN,.bool p0.fNum.fNeg,.sl 1 (p0.fNum.fMag.map (rI .u32)),.int .u64 p0.fBits,.str p0.fBytes,.sl 7 (p0.fArgs.map Z02)]] true) (.arr 7 (([p0]:List Z00).map Z02) true)) (Zad N ([p0]:List Z00) p1 r1 hr1) (rfl:(([p0]:List Z00).map Z02).length=(([p0]:List Z00).map Z02).length) y5)
def num_trim_L0_H (v0:(List Int)):St:={ fr:=([(da (.sl 1 (v0.map (rI .u32))))]++bads 20),obs:=[] }
def Zh1 (o:(List Int)):St:={ fr:=([(da (.sl 1 (o.map (rI .u32))))]++bads 20),obs:=[] }
def Z93:Nat→(List Int)→Option (List Int)
 |0,_=>none
 |N+1,v0=>if (v0.length:Int) > (0:Int) then (idx v0 (wrap .i64 ((v0.length:Int) - (1:Int)))).bind fun x2=>if x2=(0:Int) then (Lift.cut v0 (0:Int) (wrap .i64 ((v0.length:Int) - (1:Int)))).bind fun x4=>Z93 N  x4 else some v0 else some v0
theorem num_trim_L0_spec:∀ (N:Nat) (v0:(List Int)) (r:(List Int)),Z93 N v0=some r→Zj0 prog 247 (partOf f98 [1,0,0,0]) (num_trim_L0_H  v0) (.exit 0) (Zh1  r):=by
 intro N
 induction N with
 |zero=>intro v0 r h; cases h
 |succ N ih =>
  intro v0 r h
  rw [Z93] at h
  rcases Z07 h with ⟨hb1,h⟩ | ⟨hb1,h⟩
  ·obtain ⟨x2,hx2,h⟩:=yj h
   rcases Z07 h with ⟨hb3,h⟩ | ⟨hb3,h⟩
   ·obtain ⟨x4,hx4,h⟩:=yj h
    exact Zj0.again (y8 [.reg [aa, { cast:=some (ai (v0.length:Int)) },aa,aa,aa,aa, { cast:=some (ai (v0.length:Int)) },aa, { cast:=some (.v (.one (.fptr [.int .u32 x2]))) },aa,aa, { h:=.pick true }],ah,.reg [aa,aa, { cast:=some (ai (v0.length:Int)) },aa, { cast:=some (da (.sl 1 (x4.map (rI .u32)))) },aa],.adj [.keep [0] []]] (.c8 (Zjk:AV.Le (ai (((v0.map (rI .u32)).length:Nat):Int)) (ai (v0.length:Int))) (Zj8 Z06 hb1) (Zj8 Z06 hb1) (Zj8 Z06 hb1) (Zjk:AV.Le (ai (((v0.map (rI .u32)).length:Nat):Int)) (ai (v0.length:Int))) (Zj8 Z06 hb1) (Zj8 Z06 hb1) (Z0m hx2:0≤wrap .i64 ((v0.length:Int) - (1:Int))∧wrap .i64 ((v0.length:Int) - (1:Int)) < (((v0.map (rI .u32)).length:Nat):Int)) (.c8 (Z0i hx2 rfl:AV.Le (.v (.one (.fptr ((List.range 1).map fun j=>((v0.map (rI .u32)).getD (Int.toNat (wrap .i64 ((v0.length:Int) - (1:Int)))) []).getD j .nils)))) (.v (.one (.fptr [.int .u32 x2])))) (Zj8 Z06 hb1) y7 (Zj8 Z06 hb1) (Zj8 Z06 hb1) (Zj8 Z03 hb3) (Zjk:AV.Le (ai (((v0.map (rI .u32)).length:Nat):Int)) (ai (v0.length:Int))) (cut_bnd hx4:0≤(0:Int)∧(0:Int)≤wrap .i64 ((v0.length:Int) - (1:Int))∧wrap .i64 ((v0.length:Int) - (1:Int))≤(((v0.map (rI .u32)).length:Nat):Int)) (.cons (cut_le hx4:AV.Le (da (.sl 1 (((v0.map (rI .u32)).drop (Int.toNat (0:Int))).take (Int.toNat (wrap .i64 ((v0.length:Int) - (1:Int))) - Int.toNat (0:Int))))) (da (.sl 1 (x4.map (rI .u32))))) y5)))) (ih  x4 _ h)
   ·obtain rfl:=yl h
    exact Zj0.out (y8 [.reg [aa, { cast:=some (ai (v0.length:Int)) },aa,aa,aa,aa, { cast:=some (ai (v0.length:Int)) },aa, { cast:=some (.v (.one (.fptr [.int .u32 x2]))) },aa,aa, { h:=.pick true }],ae,.adj [.keep [0] []]] (.c8 (Zjk:AV.Le (ai (((v0.map (rI .u32)).length:Nat):Int)) (ai (v0.length:Int))) (Zj8 Z06 hb1) (Zj8 Z06 hb1) (Zj8 Z06 hb1) (Zjk:AV.Le (ai (((v0.map (rI .u32)).length:Nat):Int)) (ai (v0.length:Int))) (Zj8 Z06 hb1) (Zj8 Z06 hb1) (Z0m hx2:0≤wrap .i64 ((v0.length:Int) - (1:Int))∧wrap .i64 ((v0.length:Int) - (1:Int)) < (((v0.map (rI .u32)).length:Nat):Int)) (.c4 (Z0i hx2 rfl:AV.Le (.v (.one (.fptr ((List.range 1).map fun j=>((v0.map (rI .u32)).getD (Int.toNat (wrap .i64 ((v0.length:Int) - (1:Int)))) []).getD j .nils)))) (.v (.one (.fptr [.int .u32 x2])))) (Zj8 Z06 hb1) y7 (Zj8 Z06 hb1) (.c2 (Zj8 Z06 hb1) (Z01 Z03 hb3) y5)))) (by simp)
  ·obtain rfl:=yl h
   exact Zj0.out (y8 [.reg [aa, { cast:=some (ai (v0.length:Int)) },aa,aa,w0,w0,w0,w0,w0,w0,w0, { h:=.pick false }],ae,.adj [.keep [0] []]] (.c8 (Zjk:AV.Le (ai (((v0.map (rI .u32)).length:Nat):Int)) (ai (v0.length:Int))) (Z01 Z06 hb1) (Z01 Z06 hb1) (Z01 Z06 hb1) (Z01 Z06 hb1) (Z01 Z06 hb1) (Z01 Z06 hb1) (Z01 Z06 hb1) (.c2 (Z01 Z06 hb1) yf y5))) (by simp)
def num_trim_fin (r:(List Int)):List PV:=[dv (.sl 1 (r.map (rI .u32)))]
def num_trim (N:Nat) (p0:(List Int)):Option (List Int):=(Z93 N p0).bind fun r5=>some r5
theorem Zdp (N:Nat) (p0:(List Int)) (r:(List Int)) (h:num_trim N p0=some r):Ziz prog 98 [dv (.sl 1 (p0.map (rI .u32)))] (num_trim_fin r):=by
 unfold num_trim at h
 obtain ⟨r5,hr5,h⟩:=yj h
 obtain rfl:=yl h
 exact y9 247 [ak,.adj [.keep [0] []],.cut (.exit 0) (Zh1  r5),af] func98 (.cons (Ziw.of_loop (num_trim_L0_spec N p0 r5 hr5)) y5)
def num_made_fin (r:(Z08 × Bool)):List PV:=[az r.1.fNeg r.1.fMag,dv (.bool r.2)]
def Zin (N:Nat) (p0:Bool) (p1:(List Int)):Option (Z08 × Bool):=(num_trim N p1).bind fun r1=>if (r1.length:Int) > (8:Int) then some ((Z08.mk false []),false) else if p0=true then some ((Z08.mk (decide ((r1.length:Int) > (0:Int))) r1),true) else some ((Z08.mk false r1),true)
theorem Zi8 (N:Nat) (p0:Bool) (p1:(List Int)) (r:(Z08 × Bool)) (h:Zin N p0 p1=some r):Ziz prog 66 [dv (.bool p0),dv (.sl 1 (p1.map (rI .u32)))] (num_made_fin r):=by
 unfold Zin at h
 obtain ⟨r1,hr1,h⟩:=yj h
 rcases Z07 h with ⟨hb2,h⟩ | ⟨hb2,h⟩
 ·obtain rfl:=yl h
  exact y9 246 [af,.reg [aa, yg [dv (.sl 1 (r1.map (rI .u32)))],aa],.reg [aa, { cast:=some (ai (r1.length:Int)) },aa],ah,ay,.adj [.ob 4 (.var [.d (.bool false),.d (.sl 1 [])])]] func66 (.c4 (Zdp N p1 r1 hr1) (Zjk:AV.Le (ai (((r1.map (rI .u32)).length:Nat):Int)) (ai (r1.length:Int))) (Zj8 Z06 hb2) y7 (.c2 (Ob.Le.var (All2.cons (AC.Le.refl _) (All2.cons (AC.Le.d (C.Le.nils 1)) (All2.nil))):Ob.Le (.var [.d (.bool false),.d (.nils)]) (.var [.d (.bool false),.d (.sl 1 [])])) y7 y5))
 ·rcases Z07 h with ⟨hb3,h⟩ | ⟨hb3,h⟩
  ·obtain rfl:=yl h
   exact y9 246 [af,.reg [aa, yg [dv (.sl 1 (r1.map (rI .u32)))],aa],.reg [aa, { cast:=some (ai (r1.length:Int)) },aa],ae,.reg [aa,aa,aa, { cast:=some (ai (r1.length:Int)) },aa, { h:=.pick true },aa,aa,aa,aa]] func66 (.c8 (Zdp N p1 r1 hr1) (Zjk:AV.Le (ai (((r1.map (rI .u32)).length:Nat):Int)) (ai (r1.length:Int))) (Z01 Z06 hb2) (Zj8 Z04 hb3) (Zj8 Z04 hb3) (Zjk:AV.Le (ai (((r1.map (rI .u32)).length:Nat):Int)) (ai (r1.length:Int))) (Zj8 Z04 hb3) (Zj8 Z04 hb3) (.c2 y7 y7 y5))
  ·obtain rfl:=yl h
   exact y9 246 [af,.reg [aa, yg [dv (.sl 1 (r1.map (rI .u32)))],aa],.reg [aa, { cast:=some (ai (r1.length:Int)) },aa],ae,.reg [aa,aa,w0,w0,w0, { h:=.pick false },aa,aa,aa,aa]] func66 (.c8 (Zdp N p1 r1 hr1) (Zjk:AV.Le (ai (((r1.map (rI .u32)).length:Nat):Int)) (ai (r1.length:Int))) (Z01 Z06 hb2) (Z01 Z04 hb3) (Z01 Z04 hb3) (Z01 Z04 hb3) (Z01 Z04 hb3) y7 (.cons y7 y5))
def num_Of_fin (r:Z08):List PV:=[az r.fNeg r.fMag]
def num_Of (N:Nat) (p0:Int):Option Z08:=if p0 < (0:Int) then (Zin N (decide (p0 < (0:Int))) ([wrap .u32 (wrap .u64 (0 - wrap .u64 p0)),wrap .u32 (Int.fdiv (wrap .u64 (0 - wrap .u64 p0)) (yh 32))]:List Int)).bind fun r2=>some r2.1 else (Zin N (decide (p0 < (0:Int))) ([wrap .u32 (wrap .u64 p0),wrap .u32 (Int.fdiv (wrap .u64 p0) (yh 32))]:List Int)).bind fun r3=>some r3.1
theorem num_Of_spec (N:Nat) (p0:Int) (r:Z08) (h:num_Of N p0=some r):Ziz prog 35 [vi p0] (num_Of_fin r):=by
 unfold num_Of at h
 rcases Z07 h with ⟨hb1,h⟩ | ⟨hb1,h⟩
 ·obtain ⟨r2,hr2,h⟩:=yj h
  obtain rfl:=yl h
  exact y9 281 [ak,ay,af,ah,ay,.reg [aa,aa,aa,aa,aa,aa,aa, { post:=[.ob 20 (.arr 1 (([wrap .u32 (wrap .u64 (0 - wrap .u64 p0)),wrap .u32 (Int.fdiv (wrap .u64 (0 - wrap .u64 p0)) (yh 32))]:List Int).map (rI .u32)) true)] }, { pre:=[.fz 20],h:=.pcall [az r2.1.fNeg r2.1.fMag,dv (.bool r2.2)] },aa,aa,aa,aa,aa,aa],af] func35 (.c8 (Zj8 Z06 hb1) (Z42 (by rfl):Ob.Le (.arr 1 [[.int .u32 (wrap .u32 (wrap .u64 (0 - wrap .u64 p0)))],[.int .u32 (wrap .u32 (Int.fdiv (wrap .u64 (0 - wrap .u64 p0)) (yh 32)))]] true) (.arr 1 (([wrap .u32 (wrap .u64 (0 - wrap .u64 p0)),wrap .u32 (Int.fdiv (wrap .u64 (0 - wrap .u64 p0)) (yh 32))]:List Int).map (rI .u32)) true)) (⟨rfl,rfl⟩:(1:Nat)=1∧(([wrap .u32 (wrap .u64 (0 - wrap .u64 p0)),wrap .u32 (Int.fdiv (wrap .u64 (0 - wrap .u64 p0)) (yh 32))]:List Int).map (rI .u32)).length=(([wrap .u32 (wrap .u64 (0 - wrap .u64 p0)),wrap .u32 (Int.fdiv (wrap .u64 (0 - wrap .u64 p0)) (yh 32))]:List Int).map (rI .u32)).length) (Zi8 N (decide (p0 < (0:Int))) ([wrap .u32 (wrap .u64 (0 - wrap .u64 p0)),wrap .u32 (Int.fdiv (wrap .u64 (0 - wrap .u64 p0)) (yh 32))]:List Int) r2 hr2) y7 y7 y7 y7 y5)
 ·obtain ⟨r3,hr3,h⟩:=yj h
  obtain rfl:=yl h
  exact y9 281 [ak,ay,af,ae,.reg [aa,aa,aa,aa,aa,aa,aa, { post:=[.ob 20 (.arr 1 (([wrap .u32 (wrap .u64 p0),wrap .u32 (Int.fdiv (wrap .u64 p0) (yh 32))]:List Int).map (rI .u32)) true)] }, { pre:=[.fz 20],h:=.pcall [az r3.1.fNeg r3.1.fMag,dv (.bool r3.2)] },aa,aa,aa,aa,aa,aa],af] func35 (.c8 (Z01 Z06 hb1) (Z42 (by rfl):Ob.Le (.arr 1 [[.int .u32 (wrap .u32 (wrap .u64 p0))],[.int .u32 (wrap .u32 (Int.fdiv (wrap .u64 p0) (yh 32)))]] true) (.arr 1 (([wrap .u32 (wrap .u64 p0),wrap .u32 (Int.fdiv (wrap .u64 p0) (yh 32))]:List Int).map (rI .u32)) true)) (⟨rfl,rfl⟩:(1:Nat)=1∧(([wrap .u32 (wrap .u64 p0),wrap .u32 (Int.fdiv (wrap .u64 p0) (yh 32))]:List Int).map (rI .u32)).length=(([wrap .u32 (wrap .u64 p0),wrap .u32 (Int.fdiv (wrap .u64 p0) (yh 32))]:List Int).map (rI .u32)).length) (Zi8 N (decide (p0 < (0:Int))) ([wrap .u32 (wrap .u64 p0),wrap .u32 (Int.fdiv (wrap .u64 p0) (yh 32))]:List Int) r3 hr3) y7 y7 y7 y7 y5)
def num_May_fin (r:Bool):List PV:=[dv (.bool r)]
def Zbr (N:Nat) (p0:Z08):Option Bool:=if (p0.fMag.length:Int)≤(8:Int) then if (p0.fMag.length:Int) > (0:Int) then (idx p0.fMag (wrap .i64 ((p0.fMag.length:Int) - (1:Int)))).bind fun x3=>if x3 ≠ (0:Int) then some true else if (p0.fMag.length:Int)=(0:Int) then some (!p0.fNeg) else some false else if (p0.fMag.length:Int)=(0:Int) then some (!p0.fNeg) else some false else some false
theorem Z25 (N:Nat) (p0:Z08) (r:Bool) (h:Zbr N p0=some r):Ziz prog 63 [az p0.fNeg p0.fMag] (num_May_fin r):=by
 unfold Zbr at h
 rcases Z07 h with ⟨hb1,h⟩ | ⟨hb1,h⟩
 ·rcases Z07 h with ⟨hb2,h⟩ | ⟨hb2,h⟩
  ·obtain ⟨x3,hx3,h⟩:=yj h
   rcases Z07 h with ⟨hb4,h⟩ | ⟨hb4,h⟩
   ·obtain rfl:=yl h
    exact y9 317 [af,.reg [aa,aa, { cast:=some (ai (p0.fMag.length:Int)) },aa],.reg [aa,aa,aa,aa,aa,aa,aa,aa,aa,aa, { cast:=some (.v (.one (.fptr [.int .u32 x3]))) },aa,aa, { h:=.pick true },aa,w0,w0,w0,w0,w0,w0,w0, { h:=.pick true }, { h:=.pick true },aa]] func63 (.c8 y7 (Zjk:AV.Le (ai (((p0.fMag.map (rI .u32)).length:Nat):Int)) (ai (p0.fMag.length:Int))) (Zj8 Z06 hb1) (Zj8 Z06 hb1) (Zj8 Z06 hb1) (Zj8 Z06 hb2) (Zj8 Z06 hb2) y7 (.c8 (Zj8 Z06 hb2) (Zj8 Z06 hb2) (Zj8 Z06 hb2) (Z0m hx3:0≤wrap .i64 ((p0.fMag.length:Int) - (1:Int))∧wrap .i64 ((p0.fMag.length:Int) - (1:Int)) < (((p0.fMag.map (rI .u32)).length:Nat):Int)) (Z0i hx3 rfl:AV.Le (.v (.one (.fptr ((List.range 1).map fun j=>((p0.fMag.map (rI .u32)).getD (Int.toNat (wrap .i64 ((p0.fMag.length:Int) - (1:Int)))) []).getD j .nils)))) (.v (.one (.fptr [.int .u32 x3])))) (Zj8 Z06 hb2) y7 (Zj8 Z06 hb2) (.c8 (Zj8 Z06 hb1) (Zj8 Z06 hb2) (Zj8 Z06 hb1) (Zj8 Z0h hb4) (Zj8 Z0h hb4) (Zj8 Z0h hb4) (Zj8 Z0h hb4) (Zj8 Z06 hb1) (.c2 (Zj8 Z0h hb4) (Zj8 Z06 hb1) y5))))
   ·rcases Z07 h with ⟨hb5,h⟩ | ⟨hb5,h⟩
    ·obtain rfl:=yl h
     exact y9 317 [af,.reg [aa,aa, { cast:=some (ai (p0.fMag.length:Int)) },aa],.reg [aa,aa,aa,aa,aa,aa,aa,aa,aa,aa, { cast:=some (.v (.one (.fptr [.int .u32 x3]))) },aa,aa, { h:=.pick true },aa,aa,aa,aa,aa,aa,aa, { h:=.pick true }, { h:=.pick false }, { h:=.pick true },aa]] func63 (.c8 y7 (Zjk:AV.Le (ai (((p0.fMag.map (rI .u32)).length:Nat):Int)) (ai (p0.fMag.length:Int))) (Zj8 Z06 hb1) (Zj8 Z06 hb1) (Zj8 Z06 hb1) (Zj8 Z06 hb2) (Zj8 Z06 hb2) y7 (.c8 (Zj8 Z06 hb2) (Zj8 Z06 hb2) (Zj8 Z06 hb2) (Z0m hx3:0≤wrap .i64 ((p0.fMag.length:Int) - (1:Int))∧wrap .i64 ((p0.fMag.length:Int) - (1:Int)) < (((p0.fMag.map (rI .u32)).length:Nat):Int)) (Z0i hx3 rfl:AV.Le (.v (.one (.fptr ((List.range 1).map fun j=>((p0.fMag.map (rI .u32)).getD (Int.toNat (wrap .i64 ((p0.fMag.length:Int) - (1:Int)))) []).getD j .nils)))) (.v (.one (.fptr [.int .u32 x3])))) (Zj8 Z06 hb2) y7 (Zj8 Z06 hb2) (.c8 (Zj8 Z06 hb1) (Zj8 Z06 hb2) (Zj8 Z06 hb1) (Z01 Z0h hb4) (Z01 Z0h hb4) (Z01 Z0h hb4) (Zj8 Z03 hb5) (Zj8 Z03 hb5) (.c4 y7 (Zj8 Z03 hb5) (Z01 Z0h hb4) (Zj8 Z03 hb5) (.c2 (Zj8 Z06 hb1) (Z01 Z0h hb4) (.cons (Zj8 Z06 hb1) y5))))))
    ·obtain rfl:=yl h
     exact y9 317 [af,.reg [aa,aa, { cast:=some (ai (p0.fMag.length:Int)) },aa],.reg [aa,aa,aa,aa,aa,aa,aa,aa,aa,aa, { cast:=some (.v (.one (.fptr [.int .u32 x3]))) },aa,aa, { h:=.pick true },aa,aa,aa,aa,w0,w0,w0, { h:=.pick false }, { h:=.pick false }, { h:=.pick true },aa]] func63 (.c8 y7 (Zjk:AV.Le (ai (((p0.fMag.map (rI .u32)).length:Nat):Int)) (ai (p0.fMag.length:Int))) (Zj8 Z06 hb1) (Zj8 Z06 hb1) (Zj8 Z06 hb1) (Zj8 Z06 hb2) (Zj8 Z06 hb2) y7 (.c8 (Zj8 Z06 hb2) (Zj8 Z06 hb2) (Zj8 Z06 hb2) (Z0m hx3:0≤wrap .i64 ((p0.fMag.length:Int) - (1:Int))∧wrap .i64 ((p0.fMag.length:Int) - (1:Int)) < (((p0.fMag.map (rI .u32)).length:Nat):Int)) (Z0i hx3 rfl:AV.Le (.v (.one (.fptr ((List.range 1).map fun j=>((p0.fMag.map (rI .u32)).getD (Int.toNat (wrap .i64 ((p0.fMag.length:Int) - (1:Int)))) []).getD j .nils)))) (.v (.one (.fptr [.int .u32 x3])))) (Zj8 Z06 hb2) y7 (Zj8 Z06 hb2) (.c8 (Zj8 Z06 hb1) (Zj8 Z06 hb2) (Zj8 Z06 hb1) (Z01 Z0h hb4) (Z01 Z0h hb4) (Z01 Z0h hb4) (Z01 Z03 hb5) (Z01 Z03 hb5) (.c4 (Z01 Z03 hb5) (Z01 Z0h hb4) (Z01 Z03 hb5) (Zj8 Z06 hb1) (.c2 (Z01 Z0h hb4) (Zj8 Z06 hb1) y5)))))
  ·rcases Z07 h with ⟨hb6,h⟩ | ⟨hb6,h⟩
   ·obtain rfl:=yl h
    exact y9 317 [af,.reg [aa,aa, { cast:=some (ai (p0.fMag.length:Int)) },aa],.reg [aa,aa,aa,aa,aa,aa,w0,w0,w0,w0,w0,w0,w0, { h:=.pick false },aa,aa,aa,aa,aa,aa,aa, { h:=.pick true }, { h:=.pick false }, { h:=.pick true },aa]] func63 (.c8 y7 (Zjk:AV.Le (ai (((p0.fMag.map (rI .u32)).length:Nat):Int)) (ai (p0.fMag.length:Int))) (Zj8 Z06 hb1) (Zj8 Z06 hb1) (Zj8 Z06 hb1) (Z01 Z06 hb2) (Z01 Z06 hb2) (Z01 Z06 hb2) (.c8 (Z01 Z06 hb2) (Z01 Z06 hb2) (Z01 Z06 hb2) (Z01 Z06 hb2) (Zj8 Z06 hb1) (Z01 Z06 hb2) (Zj8 Z06 hb1) yf (.c8 yf yf (Zj8 Z03 hb6) (Zj8 Z03 hb6) y7 (Zj8 Z03 hb6) yf (Zj8 Z03 hb6) (.c2 (Zj8 Z06 hb1) yf (.cons (Zj8 Z06 hb1) y5)))))
   ·obtain rfl:=yl h
    exact y9 317 [af,.reg [aa,aa, { cast:=some (ai (p0.fMag.length:Int)) },aa],.reg [aa,aa,aa,aa,aa,aa,w0,w0,w0,w0,w0,w0,w0, { h:=.pick false },aa,aa,aa,aa,w0,w0,w0, { h:=.pick false }, { h:=.pick false }, { h:=.pick true },aa]] func63 (.c8 y7 (Zjk:AV.Le (ai (((p0.fMag.map (rI .u32)).length:Nat):Int)) (ai (p0.fMag.length:Int))) (Zj8 Z06 hb1) (Zj8 Z06 hb1) (Zj8 Z06 hb1) (Z01 Z06 hb2) (Z01 Z06 hb2) (Z01 Z06 hb2) (.c8 (Z01 Z06 hb2) (Z01 Z06 hb2) (Z01 Z06 hb2) (Z01 Z06 hb2) (Zj8 Z06 hb1) (Z01 Z06 hb2) (Zj8 Z06 hb1) yf (.c8 yf yf (Z01 Z03 hb6) (Z01 Z03 hb6) (Z01 Z03 hb6) yf (Z01 Z03 hb6) (Zj8 Z06 hb1) (.c2 yf (Zj8 Z06 hb1) y5))))
 ·obtain rfl:=yl h
  exact y9 317 [af,.reg [aa,aa, { cast:=some (ai (p0.fMag.length:Int)) },aa],.reg [aa,aa,aa,w0,w0,w0,w0,w0,w0,w0,w0,w0,w0,w0,w0,w0,w0,w0,w0,w0,w0,w0,w0, { h:=.pick false },aa]] func63 (.c8 y7 (Zjk:AV.Le (ai (((p0.fMag.map (rI .u32)).length:Nat):Int)) (ai (p0.fMag.length:Int))) (Z01 Z06 hb1) (Z01 Z06 hb1) (Z01 Z06 hb1) (Z01 Z06 hb1) (Z01 Z06 hb1) (Z01 Z06 hb1) (.cons (Z01 Z06 hb1) y5))
def Zh2 (p0:Z08):St:={ fr:=([.bad,(.v (.one (.ptr 1 0)))]++bads 50),obs:=[(1,.var [.d (.bool p0.fNeg),.d (.sl 1 (p0.fMag.map (rI .u32)))])] }
def Z7m (p0:Z08) (o:Unit):St:={ fr:=([.bad,(.v (.one (.ptr 1 0)))]++bads 50),obs:=[(1,.var [.d (.bool p0.fNeg),.d (.sl 1 (p0.fMag.map (rI .u32)))])] }
def Zf7 (p0:Z08) (o:Unit):St:={ fr:=([.bad,.bad,(ai (0:Int)),(da (.bool false))]++bads 48),obs:=[] }
def Z98:Nat→Z08→Option ((Unit) ⊕ (Unit))
 |0,_=>none
 |N+1,p0=>(Zbr N p0).bind fun r1=>if ¬ (r1=true) then some (.inr ()) else if (p0.fMag.length:Int) > (2:Int) then some (.inr ()) else some (.inl ())
theorem Z6a:∀ (N:Nat) (p0:Z08) (r:((Unit) ⊕ (Unit))),Z98 N p0=some r→match r with | .inl o=>Ziw prog 518 (partOf f64 [1,0]) (Zh2 p0 ) .normal (Z7m p0 o) | .inr o=>Ziw prog 518 (partOf f64 [1,0]) (Zh2 p0 ) .ret (Zf7 p0 o):=by
 intro N
 induction N with
 |zero=>intro p0 r h; cases h
 |succ N ih =>
  intro p0 r h
  rw [Z98] at h
  obtain ⟨r1,hr1,h⟩:=yj h
  rcases Z07 h with ⟨hb2,h⟩ | ⟨hb2,h⟩
  ·obtain rfl:=yl h
   exact y8 [.reg [aa, yg [dv (.bool r1)],aa,aa,w0,w0,w0,w0, { h:=.pick true }],ah,af,.adj [.keep [2,3] []]] (.c8 y7 (Z25 N p0 r1 hr1) (Zj8 (Z09 Z04) hb2) (Zj8 (Z09 Z04) hb2) (Zj8 (Z09 Z04) hb2) (Zj8 (Z09 Z04) hb2) (Zj8 (Z09 Z04) hb2) (Eq.refl true) y5)
  ·rcases Z07 h with ⟨hb3,h⟩ | ⟨hb3,h⟩
   ·obtain rfl:=yl h
    exact y8 [.reg [aa, yg [dv (.bool r1)],aa,aa,aa,aa, { cast:=some (ai (p0.fMag.length:Int)) },aa, { h:=.pick false }],ah,af,.adj [.keep [2,3] []]] (.c8 y7 (Z25 N p0 r1 hr1) (Z01 (Z09 Z04) hb2) (Z01 (Z09 Z04) hb2) y7 (Z01 (Z09 Z04) hb2) (Zjk:AV.Le (ai (((p0.fMag.map (rI .u32)).length:Nat):Int)) (ai (p0.fMag.length:Int))) (Z01 (Z09 Z04) hb2) (.c2 (Z01 (Z09 Z04) hb2) (Zj8 Z06 hb3) y5))
   ·obtain rfl:=yl h
    exact y8 [.reg [aa, yg [dv (.bool r1)],aa,aa,aa,aa, { cast:=some (ai (p0.fMag.length:Int)) },aa, { h:=.pick false }],ae,.adj [.keep [1] [1]]] (.c8 y7 (Z25 N p0 r1 hr1) (Z01 (Z09 Z04) hb2) (Z01 (Z09 Z04) hb2) y7 (Z01 (Z09 Z04) hb2) (Zjk:AV.Le (ai (((p0.fMag.map (rI .u32)).length:Nat):Int)) (ai (p0.fMag.length:Int))) (Z01 (Z09 Z04) hb2) (.c2 (Z01 (Z09 Z04) hb2) (Z01 Z06 hb3) y5))
def num_Small_L1_H (p0:Z08) (v19:Int) (v4:Int):St:={ fr:=([.bad,(.v (.one (.ptr 1 0))),.bad,.bad,(da (.int .u64 v4))]++bads 12++[(da (.sl 1 (p0.fMag.map (rI .u32)))),(ai (p0.fMag.length:Int)),(ai v19)]++bads 32),obs:=[(1,.var [.d (.bool p0.fNeg),.d (.sl 1 (p0.fMag.map (rI .u32)))])] }
def Z7t (p0:Z08) (o:Int):St:={ fr:=([.bad,(.v (.one (.ptr 1 0))),.bad,.bad,(da (.int .u64 o))]++bads 47),obs:=[(1,.var [.d (.bool p0.fNeg),.d (.sl 1 (p0.fMag.map (rI .u32)))])] }
def Z4a:Nat→Z08→Int→Int→Option (Int)
 |0,_,_,_=>none
 |N+1,p0,v19,v4=>if v19 < (p0.fMag.length:Int) then (idx p0.fMag v19).bind fun x8=>(shl .u64 (wrap .u64 x8) (wrap .i64 ((32:Int) * v19))).bind fun x9=>Z4a N p0 (wrap .i64 (v19+(1:Int))) (bor .u64 v4 x9) else some v4
theorem Z83:∀ (N:Nat) (p0:Z08) (v19:Int) (v4:Int) (r:(Int)),Z4a N p0 v19 v4=some r→Zj0 prog 518 (partOf f64 [1,1,1,0,1,0,0]) (num_Small_L1_H p0 v19 v4) (.exit 0) (Z7t p0 r):=by
 intro N
 induction N with
 |zero=>intro p0 v19 v4 r h; cases h
 |succ N ih =>
  intro p0 v19 v4 r h
  rw [Z4a] at h
  rcases Z07 h with ⟨hb7,h⟩ | ⟨hb7,h⟩
  ·obtain ⟨x8,hx8,h⟩:=yj h
   obtain ⟨x9,hx9,h⟩:=yj h
   exact Zj0.again (y8 [ak,ah,.reg [aa, { cast:=some (.v (.one (.fptr [.int .u32 x8]))) },aa,aa,aa],.reg [aa,aa,aa,aa,aa, { h:=.flat (.int .u64 x9) },aa,aa],af,.adj [.keep [1,4,17,18,19] [1]]] (.c4 (Zj8 Z06 hb7) (Z0m hx8:0≤v19∧v19 < (((p0.fMag.map (rI .u32)).length:Nat):Int)) (Z0i hx8 rfl:AV.Le (.v (.one (.fptr ((List.range 1).map fun j=>((p0.fMag.map (rI .u32)).getD (Int.toNat v19) []).getD j .nils)))) (.v (.one (.fptr [.int .u32 x8])))) y7 (.cons (shl_told hx9:Zjs prog (do eqGuard .shl 27 (.tmp 26) (.tmp 28) (.int .u64 (wrap .u64 x8)) (.int .i64 (wrap .i64 ((32:Int) * v19))); binOp .shl 27 (.int .u64 (wrap .u64 x8)) (.int .i64 (wrap .i64 ((32:Int) * v19))):Sem Value)=some (.int .u64 x9)) y5))) (ih p0 (wrap .i64 (v19+(1:Int))) (bor .u64 v4 x9) _ h)
  ·obtain rfl:=yl h
   exact Zj0.out (y8 [ak,ae,.adj [.keep [1,4] [1]]] (.cons (Z01 Z06 hb7) y5)) (by simp)
def num_Small_B2_H (p0:Z08) (r10:(Int)):St:={ fr:=([.bad,(.v (.one (.ptr 1 0))),.bad,.bad,(da (.int .u64 r10))]++bads 47),obs:=[(1,.var [.d (.bool p0.fNeg),.d (.sl 1 (p0.fMag.map (rI .u32)))])] }
def Z7n (p0:Z08) (r10:(Int)) (o:Bool):St:={ fr:=([.bad,(.v (.one (.ptr 1 0))),.bad,.bad,(da (.int .u64 r10))]++bads 27++[(da (.bool o))]++bads 19),obs:=[(1,.var [.d (.bool p0.fNeg),.d (.sl 1 (p0.fMag.map (rI .u32)))])] }
def Z7c:Nat→Z08→(Int)→Option (Bool)
 |0,_,_=>none
 |N+1,p0,r10=>if ¬ (p0.fNeg=true) then some (decide (r10≤(1152921504606846975:Int))) else some false
theorem Z82:∀ (N:Nat) (p0:Z08) (r10:(Int)) (r:(Bool)),Z7c N p0 r10=some r→Ziw prog 518 (partOf f64 [1,1,1,1,0,0,0]) (num_Small_B2_H p0 r10 ) .normal (Z7n p0 r10 r):=by
 intro N
 induction N with
 |zero=>intro p0 r10 r h; cases h
 |succ N ih =>
  intro p0 r10 r h
  rw [Z7c] at h
  rcases Z07 h with ⟨hb11,h⟩ | ⟨hb11,h⟩
  ·obtain rfl:=yl h
   exact y8 [.reg [aa,aa,aa,aa,aa,aa, { h:=.pick true },aa],.adj [.keep [1,4,32] [1]]] (.c4 y7 (Zj8 (Z09 Z04) hb11) (Zj8 (Z09 Z04) hb11) (Zj8 (Z09 Z04) hb11) y5)
  ·obtain rfl:=yl h
   exact y8 [.reg [aa,aa,aa,aa,w0,w0, { h:=.pick false },aa],.adj [.keep [1,4,32] [1]]] (.c4 y7 (Z01 (Z09 Z04) hb11) (Z01 (Z09 Z04) hb11) (Z01 (Z09 Z04) hb11) y5)
def num_Small_fin (r:(Int × Bool)):List PV:=[vi r.1,dv (.bool r.2)]
def Zey (N:Nat) (p0:Z08):Option (Int × Bool):=(Z98 N p0).bind fun r4=>(match r4 with | .inl r5=>(Z4a N p0 (0:Int) (0:Int)).bind fun r10=>(Z7c N p0 r10).bind fun r12=>if r12=true then some (wrap .i64 r10,true) else if p0.fNeg=true then if r10≤(1152921504606846976:Int) then some (wrap .i64 (0 - wrap .i64 r10),true) else some ((0:Int),false) else some ((0:Int),false) | .inr r6=>some ((0:Int),false))
theorem Zat (N:Nat) (p0:Z08) (r:(Int × Bool)) (h:Zey N p0=some r):Ziz prog 64 [az p0.fNeg p0.fMag] (num_Small_fin r):=by
 unfold Zey at h
 obtain ⟨r4,hr4,h⟩:=yj h
 rcases r4 with r5 | r6
 ·obtain ⟨r10,hr10,h⟩:=yj h
  obtain ⟨r12,hr12,h⟩:=yj h
  rcases Z07 h with ⟨hb13,h⟩ | ⟨hb13,h⟩
  ·obtain rfl:=yl h
   exact y9 518 [ay,.deep 1 [.keep [1] [1]] .normal (Z7m p0 r5),ak,.reg [aa,aa, { cast:=some (ai (p0.fMag.length:Int)) },aa],.adj [.keep [1,4,17,18,19] [1]],.cut (.exit 0) (Z7t p0 r10),.adj [.keep [1,4] [1]],.cut .normal (Z7n p0 r10 r12),ah,.reg (e 4)] func64 (.c4 (Z6a N p0 (.inl r5) hr4) y7 (Zjk:AV.Le (ai (((p0.fMag.map (rI .u32)).length:Nat):Int)) (ai (p0.fMag.length:Int))) (Ziw.of_loop (Z83 N p0 (0:Int) (0:Int) r10 hr10)) (.c2 (Z82 N p0 r10 r12 hr12) (Zj8 Z04 hb13) y5))
  ·rcases Z07 h with ⟨hb14,h⟩ | ⟨hb14,h⟩
   ·rcases Z07 h with ⟨hb15,h⟩ | ⟨hb15,h⟩
    ·obtain rfl:=yl h
     exact y9 518 [ay,.deep 1 [.keep [1] [1]] .normal (Z7m p0 r5),ak,.reg [aa,aa, { cast:=some (ai (p0.fMag.length:Int)) },aa],.adj [.keep [1,4,17,18,19] [1]],.cut (.exit 0) (Z7t p0 r10),.adj [.keep [1,4] [1]],.cut .normal (Z7n p0 r10 r12),ae,.reg [aa,aa,aa,aa,aa, { h:=.pick true },aa],ah,.reg (e 5)] func64 (.c8 (Z6a N p0 (.inl r5) hr4) y7 (Zjk:AV.Le (ai (((p0.fMag.map (rI .u32)).length:Nat):Int)) (ai (p0.fMag.length:Int))) (Ziw.of_loop (Z83 N p0 (0:Int) (0:Int) r10 hr10)) (Z82 N p0 r10 r12 hr12) (Z01 Z04 hb13) y7 (Zj8 Z04 hb14) (.c2 (Zj8 Z04 hb14) (Zj8 Z04 hb14) (.cons (Zj8 Z06 hb15) y5)))
    ·obtain rfl:=yl h
     exact y9 518 [ay,.deep 1 [.keep [1] [1]] .normal (Z7m p0 r5),ak,.reg [aa,aa, { cast:=some (ai (p0.fMag.length:Int)) },aa],.adj [.keep [1,4,17,18,19] [1]],.cut (.exit 0) (Z7t p0 r10),.adj [.keep [1,4] [1]],.cut .normal (Z7n p0 r10 r12),ae,.reg [aa,aa,aa,aa,aa, { h:=.pick true },aa],ae,af] func64 (.c8 (Z6a N p0 (.inl r5) hr4) y7 (Zjk:AV.Le (ai (((p0.fMag.map (rI .u32)).length:Nat):Int)) (ai (p0.fMag.length:Int))) (Ziw.of_loop (Z83 N p0 (0:Int) (0:Int) r10 hr10)) (Z82 N p0 r10 r12 hr12) (Z01 Z04 hb13) y7 (Zj8 Z04 hb14) (.c2 (Zj8 Z04 hb14) (Zj8 Z04 hb14) (.cons (Z01 Z06 hb15) y5)))
   ·obtain rfl:=yl h
    exact y9 518 [ay,.deep 1 [.keep [1] [1]] .normal (Z7m p0 r5),ak,.reg [aa,aa, { cast:=some (ai (p0.fMag.length:Int)) },aa],.adj [.keep [1,4,17,18,19] [1]],.cut (.exit 0) (Z7t p0 r10),.adj [.keep [1,4] [1]],.cut .normal (Z7n p0 r10 r12),ae,.reg [aa,aa,aa,w0,w0, { h:=.pick false },aa],ae,af] func64 (.c8 (Z6a N p0 (.inl r5) hr4) y7 (Zjk:AV.Le (ai (((p0.fMag.map (rI .u32)).length:Nat):Int)) (ai (p0.fMag.length:Int))) (Ziw.of_loop (Z83 N p0 (0:Int) (0:Int) r10 hr10)) (Z82 N p0 r10 r12 hr12) (Z01 Z04 hb13) y7 (Z01 Z04 hb14) (.c2 (Z01 Z04 hb14) (Z01 Z04 hb14) (.cons yf y5)))
 ·obtain rfl:=yl h
  exact y9 518 [ay,.deep 1 [.keep [1] [1]] .ret (Zf7 p0 r6)] func64 (.cons (Z6a N p0 (.inr r6) hr4) y5)
def Zav (r:(List Int)):List PV:=[.v (.one (ax r))]
def Z88 (N:Nat):Option (List Int):=some ([]:List Int)
theorem Zan (N:Nat) (r:(List Int)) (h:Z88 N=some r):Ziz prog 65 [dv .nils] (Zav r):=by
 unfold Z88 at h
 obtain rfl:=yl h
 exact y9 156 [ak,af,ah,ak,.adj [.new 57 1 2]] func65 (.c2 (Eq.refl true) (rfl:aj ([]:List Int)) y5)
def Zam (r:(List Int)):List PV:=[.v (.one (ax r))]
def Z7f (N:Nat):Option (List Int):=(app ([]:List Int) ([]:List Int)).bind fun x1=>some x1
theorem Za9 (N:Nat) (r:(List Int)) (h:Z7f N=some r):Ziz prog 65 [dv .sl0] (Zam r):=by
 unfold Z7f at h
 obtain ⟨x1,hx1,h⟩:=yj h
 obtain rfl:=yl h
 exact y9 156 [ak,af,ae,.reg [{ post:=[.ob 5 (.arr 1 (([]:List Int).map (rI .u32)) true)] },aa, { pre:=[.slot 6 (da (.sl 1 (([]:List Int).map (rI .u32))))],cast:=some (.v (.one (.vw 7 1 0 ((x1.map (rI .u32)).length)))),post:=[.ob 7 (.arr 1 (x1.map (rI .u32)) true)] },aa]] func65 (.c8 yf (Z42 (by rfl):Ob.Le (.arr 1 [] true) (.arr 1 (([]:List Int).map (rI .u32)) true)) (AV.Le.one (AC.Le.d (C.Le.sl0 1)):AV.Le (da .sl0) (da (.sl 1 (([]:List Int).map (rI .u32))))) y7 (rfl:aj ([]:List Int)) (app_b hx1 (by decide):((([]:List Int).map (rI .u32)).length+(([]:List Int).map (rI .u32)).length) * 4≤140737488355328) (app_m hx1:(([]:List Int).map (rI .u32)).length+(([]:List Int).map (rI .u32)).length≤9223372036854775807) (app_n hx1:AV.Le (.v (.one (.vw 7 1 0 ((([]:List Int).map (rI .u32)).length+(([]:List Int).map (rI .u32)).length)))) (.v (.one (.vw 7 1 0 ((x1.map (rI .u32)).length))))) (.c2 (app_ob hx1:Ob.Le (.arr 1 ((([]:List Int).map (rI .u32))++(([]:List Int).map (rI .u32))) true) (.arr 1 (x1.map (rI .u32)) true)) (rfl:aj x1) y5))
def Z5v (r:(List Int)):List PV:=[.v (.one (ax r))]
def Z4p (N:Nat) (p0_h:Int) (p0_t:(List Int)):Option (List Int):=(app ([]:List Int) (p0_h::p0_t)).bind fun x1=>some x1
theorem Z9x (N:Nat) (p0_h:Int) (p0_t:(List Int)) (r:(List Int)) (h:Z4p N p0_h p0_t=some r):Ziz prog 65 [dv (.sl 1 ((p0_h::p0_t).map (rI .u32)))] (Z5v r):=by
 unfold Z4p at h
 obtain ⟨x1,hx1,h⟩:=yj h
 obtain rfl:=yl h
 exact y9 156 [ak,af,ae,.reg [{ post:=[.ob 5 (.arr 1 (([]:List Int).map (rI .u32)) true)] },aa, { cast:=some (.v (.one (.vw 7 1 0 ((x1.map (rI .u32)).length)))),post:=[.ob 7 (.arr 1 (x1.map (rI .u32)) true)] },aa]] func65 (.c8 yf (Z42 (by rfl):Ob.Le (.arr 1 [] true) (.arr 1 (([]:List Int).map (rI .u32)) true)) y7 (rfl:aj ([]:List Int)) (app_b hx1 (by decide):((([]:List Int).map (rI .u32)).length+((p0_h::p0_t).map (rI .u32)).length) * 4≤140737488355328) (app_m hx1:(([]:List Int).map (rI .u32)).length+((p0_h::p0_t).map (rI .u32)).length≤9223372036854775807) (app_n hx1:AV.Le (.v (.one (.vw 7 1 0 ((([]:List Int).map (rI .u32)).length+((p0_h::p0_t).map (rI .u32)).length)))) (.v (.one (.vw 7 1 0 ((x1.map (rI .u32)).length))))) (app_ob hx1:Ob.Le (.arr 1 ((([]:List Int).map (rI .u32))++((p0_h::p0_t).map (rI .u32))) true) (.arr 1 (x1.map (rI .u32)) true)) (.cons (rfl:aj x1) y5))
def Z1s (N:Nat):List Int→Option (List Int)
 |[]=>some []
 |x::xs=>Z4p N x xs
theorem Z31 (N:Nat) (p0:List Int) (r:List Int) (h:Z1s N p0=some r):Ziz prog 65 [dv (.sl 1 (p0.map (rI .u32)))] (Z5v r):=by
 cases p0 with
 |nil =>
  obtain rfl:=yl h
  exact Ziz.split0 (Zan N [] rfl) (Za9 N [] rfl)
 |cons x xs=>exact Z9x N x xs r h
def term_OfNum_fin (r:(Z00 × Bool)):List PV:=[.v (.agg (Z0a r.1)),dv (.bool r.2)]
def term_OfNum (N:Nat) (p0:Z08):Option (Z00 × Bool):=(Zbr N p0).bind fun r1=>if ¬ (r1=true) then some ((Z00.mk (0:Int) (0:Int) (Z08.mk false []) (0:Int) (ByteArray.mk #[]) []),false) else (Zey N p0).bind fun r3=>if r3.2=true then some ((Z00.mk (1:Int) r3.1 (Z08.mk false []) (0:Int) (ByteArray.mk #[]) []),true) else (Z1s N p0.fMag).bind fun r5=>some ((Z00.mk (2:Int) (0:Int) (Z08.mk p0.fNeg r5) (0:Int) (ByteArray.mk #[]) []),true)
theorem term_OfNum_spec (N:Nat) (p0:Z08) (r:(Z00 × Bool)) (h:term_OfNum N p0=some r):Ziz prog 34 [az p0.fNeg p0.fMag] (term_OfNum_fin r):=by
 unfold term_OfNum at h
 obtain ⟨r1,hr1,h⟩:=yj h
 rcases Z07 h with ⟨hb2,h⟩ | ⟨hb2,h⟩
 ·obtain rfl:=yl h
  exact y9 305 [ay,.reg [aa, yg [dv (.bool r1)],aa],ah,ay,.adj [.ob 2 (.var [.d (.int .i64 (0:Int)),.d (.int .i64 (0:Int)),.d (.bool false),.d (.sl 1 []),.d (.int .u64 (0:Int)),.d (.str (ByteArray.mk #[])),.d (.nils)]),.ob 2 (.var [.d (.int .i64 (0:Int)),.d (.int .i64 (0:Int)),.d (.bool false),.d (.sl 1 []),.d (.int .u64 (0:Int)),.d (.str (ByteArray.mk #[])),.d (.sl 7 [])])]] func34 (.c4 y7 (Z25 N p0 r1 hr1) (Zj8 (Z09 Z04) hb2) y7 (.c2 (Ob.Le.var (All2.cons (AC.Le.refl _) (All2.cons (AC.Le.refl _) (All2.cons (AC.Le.refl _) (All2.cons (AC.Le.d (C.Le.nils 1)) (All2.cons (AC.Le.refl _) (All2.cons (AC.Le.refl _) (All2.cons (AC.Le.refl _) (All2.nil)))))))):Ob.Le (.var [.d (.int .i64 (0:Int)),.d (.int .i64 (0:Int)),.d (.bool false),.d (.nils),.d (.int .u64 (0:Int)),.d (.str (ByteArray.mk #[])),.d (.nils)]) (.var [.d (.int .i64 (0:Int)),.d (.int .i64 (0:Int)),.d (.bool false),.d (.sl 1 []),.d (.int .u64 (0:Int)),.d (.str (ByteArray.mk #[])),.d (.nils)])) (Ob.Le.var (All2.cons (AC.Le.refl _) (All2.cons (AC.Le.refl _) (All2.cons (AC.Le.refl _) (All2.cons (AC.Le.refl _) (All2.cons (AC.Le.refl _) (All2.cons (AC.Le.refl _) (All2.cons (AC.Le.d (C.Le.nils 7)) (All2.nil)))))))):Ob.Le (.var [.d (.int .i64 (0:Int)),.d (.int .i64 (0:Int)),.d (.bool false),.d (.sl 1 []),.d (.int .u64 (0:Int)),.d (.str (ByteArray.mk #[])),.d (.nils)]) (.var [.d (.int .i64 (0:Int)),.d (.int .i64 (0:Int)),.d (.bool false),.d (.sl 1 []),.d (.int .u64 (0:Int)),.d (.str (ByteArray.mk #[])),.d (.sl 7 [])])) (.cons y7 y5)))
 ·obtain ⟨r3,hr3,h⟩:=yj h
  rcases Z07 h with ⟨hb4,h⟩ | ⟨hb4,h⟩
  ·obtain rfl:=yl h
   exact y9 305 [ay,.reg [aa, yg [dv (.bool r1)],aa],ae,.reg [aa, yg [vi r3.1,dv (.bool r3.2)],aa,aa,aa,aa,aa],ak,ah,.reg (e 4),.adj [.ob 2 (.var [.d (.int .i64 (1:Int)),.d (.int .i64 r3.1),.d (.bool false),.d (.sl 1 []),.d (.int .u64 (0:Int)),.d (.str (ByteArray.mk #[])),.d (.nils)]),.ob 2 (.var [.d (.int .i64 (1:Int)),.d (.int .i64 r3.1),.d (.bool false),.d (.sl 1 []),.d (.int .u64 (0:Int)),.d (.str (ByteArray.mk #[])),.d (.sl 7 [])])]] func34 (.c8 y7 (Z25 N p0 r1 hr1) (Z01 (Z09 Z04) hb2) y7 (Zat N p0 r3 hr3) (Zj8 Z04 hb4) y7 (Ob.Le.var (All2.cons (AC.Le.refl _) (All2.cons (AC.Le.refl _) (All2.cons (AC.Le.refl _) (All2.cons (AC.Le.d (C.Le.nils 1)) (All2.cons (AC.Le.refl _) (All2.cons (AC.Le.refl _) (All2.cons (AC.Le.refl _) (All2.nil)))))))):Ob.Le (.var [.d (.int .i64 (1:Int)),.d (.int .i64 r3.1),.d (.bool false),.d (.nils),.d (.int .u64 (0:Int)),.d (.str (ByteArray.mk #[])),.d (.nils)]) (.var [.d (.int .i64 (1:Int)),.d (.int .i64 r3.1),.d (.bool false),.d (.sl 1 []),.d (.int .u64 (0:Int)),.d (.str (ByteArray.mk #[])),.d (.nils)])) (.c2 (Ob.Le.var (All2.cons (AC.Le.refl _) (All2.cons (AC.Le.refl _) (All2.cons (AC.Le.refl _) (All2.cons (AC.Le.refl _) (All2.cons (AC.Le.refl _) (All2.cons (AC.Le.refl _) (All2.cons (AC.Le.d (C.Le.nils 7)) (All2.nil)))))))):Ob.Le (.var [.d (.int .i64 (1:Int)),.d (.int .i64 r3.1),.d (.bool false),.d (.sl 1 []),.d (.int .u64 (0:Int)),.d (.str (ByteArray.mk #[])),.d (.nils)]) (.var [.d (.int .i64 (1:Int)),.d (.int .i64 r3.1),.d (.bool false),.d (.sl 1 []),.d (.int .u64 (0:Int)),.d (.str (ByteArray.mk #[])),.d (.sl 7 [])])) y7 y5))
  ·obtain ⟨r5,hr5,h⟩:=yj h
   obtain rfl:=yl h
   exact y9 305 [ay,.reg [aa, yg [dv (.bool r1)],aa],ae,.reg [aa, yg [vi r3.1,dv (.bool r3.2)],aa,aa,aa,aa,aa],ak,ae,.reg [aa,aa,aa,aa, { h:=.call 175 [.v (.one (ax r5))] [] },aa,aa,aa,aa],.adj [.fz 175,.ob 2 (.var [.d (.int .i64 (2:Int)),.d (.int .i64 (0:Int)),.d (.bool p0.fNeg),.d (.sl 1 (r5.map (rI .u32))),.d (.int .u64 (0:Int)),.d (.str (ByteArray.mk #[])),.d (.sl 7 [])])]] func34 (.c8 y7 (Z25 N p0 r1 hr1) (Z01 (Z09 Z04) hb2) y7 (Zat N p0 r3 hr3) (Z01 Z04 hb4) y7 y7 (.c8 (Z31 N p0.fMag r5 hr5) (AV.Le.refl (.v (.one (.ptr 1 0)))) y7 (AV.Le.refl (da (.bool p0.fNeg))) y7 (⟨rfl,rfl⟩:(1:Nat)=1∧aj r5) (⟨rfl,rfl⟩:(1:Nat)=1∧aj r5) (⟨rfl,rfl⟩:(1:Nat)=1∧aj r5) (.c2 (⟨rfl,rfl⟩:(1:Nat)=1∧aj r5) (Ob.Le.var (All2.cons (AC.Le.refl _) (All2.cons (AC.Le.refl _) (All2.cons (AC.Le.refl _) (All2.cons (AC.Le.refl _) (All2.cons (AC.Le.refl _) (All2.cons (AC.Le.refl _) (All2.cons (AC.Le.d (C.Le.nils 7)) (All2.nil)))))))):Ob.Le (.var [.d (.int .i64 (2:Int)),.d (.int .i64 (0:Int)),.d (.bool p0.fNeg),.d (.sl 1 (r5.map (rI .u32))),.d (.int .u64 (0:Int)),.d (.str (ByteArray.mk #[])),.d (.nils)]) (.var [.d (.int .i64 (2:Int)),.d (.int .i64 (0:Int)),.d (.bool p0.fNeg),.d (.sl 1 (r5.map (rI .u32))),.d (.int .u64 (0:Int)),.d (.str (ByteArray.mk #[])),.d (.sl 7 [])])) (.cons y7 y5))))
def term_Int_fin (r:Z00):List PV:=[.v (.agg (Z0a r))]
def term_Int (N:Nat) (p0:Int):Option Z00:=(num_Of N p0).bind fun r1=>(term_OfNum N r1).bind fun r2=>some r2.1
theorem Z1i (N:Nat) (p0:Int) (r:Z00) (h:term_Int N p0=some r):Ziz prog 14 [vi p0] (term_Int_fin r):=by
 unfold term_Int at h
 obtain ⟨r1,hr1,h⟩:=yj h
 obtain ⟨r2,hr2,h⟩:=yj h
 obtain rfl:=yl h
 exact y9 184 [ak,.reg [aa, yg [az r1.fNeg r1.fMag], yg [.v (.agg (Z0a r2.1)),dv (.bool r2.2)],aa,aa,aa,aa,aa,aa],af] func14 (.c4 (num_Of_spec N p0 r1 hr1) (term_OfNum_spec N r1 r2 hr2) y7 y7 (.c2 y7 y7 y5))
def Z60 (p1:Z00) (o532_0:Int) (v47:Int):St:={ fr:=([(.v (.one (.ptr 532 0)))]++bads 44++[(da (.sl 7 (p1.fArgs.map Z02))),(ai (p1.fArgs.length:Int)),(ai v47)]++bads 12),obs:=[(532,.var [.d (.int .i64 o532_0)])] }
def Z7h (p1:Z00) (o:Int):St:={ fr:=bads 60,obs:=[(532,.var [.d (.int .i64 o)])] }
def Z7g (p1:Z00) (o:Int):St:={ fr:=bads 60,obs:=[(532,.var [.d (.int .i64 o)])] }
def Zbp (r:Z17):List PV:=[.obj [di r.fn]]
mutual
def weigh_scale_add_L0:Nat→Z00→Int→Int→Option ((Int) ⊕ (Int))
 |0,_,_,_=>none
 |N+1,p1,o532_0,v47=>if v47 < (p1.fArgs.length:Int) then (idx p1.fArgs v47).bind fun x5=>if o532_0 > (300:Int) then some (.inr o532_0) else (weigh_scale_add N (Z17.mk o532_0) x5).bind fun r7=>weigh_scale_add_L0 N p1 r7.fn (wrap .i64 (v47+(1:Int))) else some (.inl o532_0)
def weigh_scale_add:Nat→Z17→Z00→Option Z17
 |0,_,_=>none
 |N+1,p0,p1=>if p1.fKind=(2:Int) then some (Z17.mk (wrap .i64 ((wrap .i64 (p0.fn+(1:Int)))+(p1.fNum.fMag.length:Int)))) else if p1.fKind=(9:Int) then some (Z17.mk (wrap .i64 ((wrap .i64 (p0.fn+(1:Int)))+(wrap .i64 (Int.tdiv (p1.fBytes.size:Int) (8:Int)))))) else if p1.fKind=(6:Int) then (weigh_scale_add_L0 N p1 (wrap .i64 (p0.fn+(1:Int))) (0:Int)).bind fun r8=>(match r8 with | .inl r9=>some (Z17.mk r9) | .inr r10=>some (Z17.mk r10)) else if p1.fKind=(8:Int) then (weigh_scale_add_L0 N p1 (wrap .i64 (p0.fn+(1:Int))) (0:Int)).bind fun r12=>(match r12 with | .inl r13=>some (Z17.mk r13) | .inr r14=>some (Z17.mk r14)) else some (Z17.mk (wrap .i64 (p0.fn+(1:Int))))
end
structure Zh8 (N:Nat):Prop where
 weigh_scale_add_L0:∀ (p1:Z00) (o532_0:Int) (v47:Int) (r:((Int) ⊕ (Int))),weigh_scale_add_L0 N p1 o532_0 v47=some r→match r with | .inl o=>Zj0 prog 532 (partOf f67 [1,1,1,0,1,1,1,1,1,0,1,0,0]) (Z60 p1 o532_0 v47) (.exit 1) (Z7h p1 o) | .inr o=>Zj0 prog 532 (partOf f67 [1,1,1,0,1,1,1,1,1,0,1,0,0]) (Z60 p1 o532_0 v47) .ret (Z7g p1 o)
 weigh_scale_add:∀ (p0:Z17) (p1:Z00) (r:Z17),weigh_scale_add N p0 p1=some r→Ziz prog 67 [.obj [di p0.fn],.v (.agg (Z0a p1))] (Zbp r)
theorem Zcy:∀ N,Zh8 N:=by
 intro N
 induction N with
 |zero =>
  constructor
  ·intro p1 o532_0 v47 r h; rw [weigh_scale_add_L0] at h; cases h
  ·intro p0 p1 r h; rw [weigh_scale_add] at h; cases h
 |succ N ih =>
  constructor
  ·intro p1 o532_0 v47 r h
   rw [weigh_scale_add_L0] at h
   rcases Z07 h with ⟨hb4,h⟩ | ⟨hb4,h⟩
   ·obtain ⟨x5,hx5,h⟩:=yj h
    rcases Z07 h with ⟨hb6,h⟩ | ⟨hb6,h⟩
    ·obtain rfl:=yl h
     exact Zj0.out (y8 [ak,ah,.reg [{ cast:=some (.v (.one (.fptr (Z13 x5)))) },aa,aa,aa],.reg (e 5),ah,.adj [.keep [] [532]]] (.c4 (Zj8 Z06 hb4) (Z0m (r:=Z02) hx5) (Z0i hx5 (Z0b x5)) y7 (.c2 y7 y7 (.cons (Zj8 Z06 hb6) y5)))) (by simp)
    ·obtain ⟨r7,hr7,h⟩:=yj h
     have hl:=ih.weigh_scale_add_L0 p1 r7.fn (wrap .i64 (v47+(1:Int))) _ h
     have ha:=Ziw.of_run [ak,ah,.reg [{ cast:=some (.v (.one (.fptr (Z13 x5)))) },aa,aa,aa],.reg (e 5),ae,.reg [aa,aa, { h:=.call 414 [] [.obj [di r7.fn]] }],af,.adj [.keep [0,45,46,47] [532]]] (by kernel_rfl:runTo prog 532 (partOf f67 [1,1,1,0,1,1,1,1,1,0,1,0,0]) _ (Z60 p1 o532_0 v47)=some (.normal,(Z60 p1 r7.fn (wrap .i64 (v47+(1:Int)))),_)) (.c8 (Zj8 Z06 hb4) (Z0m (r:=Z02) hx5) (Z0i hx5 (Z0b x5)) y7 y7 y7 (Z01 Z06 hb6) y7 (.cons ((ih.weigh_scale_add) (Z17.mk o532_0) x5 r7 hr7) y5))
     rcases r with o | o <;> exact Zj0.again ha hl
   ·obtain rfl:=yl h
    exact Zj0.out (y8 [ak,ae,.adj [.keep [] [532]]] (.cons (Z01 Z06 hb4) y5)) (by simp)
  ·intro p0 p1 r h
   rw [weigh_scale_add] at h
   rcases Z07 h with ⟨hb1,h⟩ | ⟨hb1,h⟩
   ·obtain rfl:=yl h
    exact y9 532 [ak,.reg (e 8),af,af,ah,.reg [aa,aa,aa,aa,aa,aa,aa, { cast:=some (ai (p1.fNum.fMag.length:Int)) },aa,aa,aa,aa]] func67 (.c8 y7 y7 y7 (Zj8 Z03 hb1) y7 y7 (Zjk:AV.Le (ai (((p1.fNum.fMag.map (rI .u32)).length:Nat):Int)) (ai (p1.fNum.fMag.length:Int))) y7 y5)
   ·rcases Z07 h with ⟨hb2,h⟩ | ⟨hb2,h⟩
    ·obtain rfl:=yl h
     exact y9 532 [ak,.reg (e 8),af,af,ae,af,ah,.reg (e 12)] func67 (.c8 y7 y7 y7 (Z01 Z03 hb1) (Zj8 Z03 hb2) y7 y7 y7 y5)
    ·rcases Z07 h with ⟨hb3,h⟩ | ⟨hb3,h⟩
     ·obtain ⟨r8,hr8,h⟩:=yj h
      rcases r8 with r9 | r10
      ·obtain rfl:=yl h
       exact y9 532 [ak,.reg (e 8),af,af,ae,af,ae,af,ah,ah,.reg [aa,aa, { cast:=some (ai (p1.fArgs.length:Int)) },aa],.adj [.keep [0,45,46,47] [532]],.cut (.exit 1) (Z7h p1 r9)] func67 (.c8 y7 y7 y7 (Z01 Z03 hb1) (Z01 Z03 hb2) (Zj8 Z03 hb3) (Zj8 Z03 hb3) y7 (.c2 (Zjk (r:=Z02) (xs:=p1.fArgs)) (Ziw.of_loop ((ih.weigh_scale_add_L0) p1 (wrap .i64 (p0.fn+(1:Int))) (0:Int) (.inl r9) hr8)) y5))
      ·obtain rfl:=yl h
       exact y9 532 [ak,.reg (e 8),af,af,ae,af,ae,af,ah,ah,.reg [aa,aa, { cast:=some (ai (p1.fArgs.length:Int)) },aa],.adj [.keep [0,45,46,47] [532]],.cut .ret (Z7g p1 r10)] func67 (.c8 y7 y7 y7 (Z01 Z03 hb1) (Z01 Z03 hb2) (Zj8 Z03 hb3) (Zj8 Z03 hb3) y7 (.c2 (Zjk (r:=Z02) (xs:=p1.fArgs)) (Ziw.of_loop ((ih.weigh_scale_add_L0) p1 (wrap .i64 (p0.fn+(1:Int))) (0:Int) (.inr r10) hr8)) y5))
     ·rcases Z07 h with ⟨hb11,h⟩ | ⟨hb11,h⟩
      ·obtain ⟨r12,hr12,h⟩:=yj h
       rcases r12 with r13 | r14
       ·obtain rfl:=yl h
        exact y9 532 [ak,.reg (e 8),af,af,ae,af,ae,af,ae,af,ah,.reg [aa,aa, { cast:=some (ai (p1.fArgs.length:Int)) },aa],.adj [.keep [0,45,46,47] [532]],.cut (.exit 1) (Z7h p1 r13)] func67 (.c8 y7 y7 y7 (Z01 Z03 hb1) (Z01 Z03 hb2) (Z01 Z03 hb3) (Zj8 Z03 hb11) y7 (.c2 (Zjk (r:=Z02) (xs:=p1.fArgs)) (Ziw.of_loop ((ih.weigh_scale_add_L0) p1 (wrap .i64 (p0.fn+(1:Int))) (0:Int) (.inl r13) hr12)) y5))
       ·obtain rfl:=yl h
        exact y9 532 [ak,.reg (e 8),af,af,ae,af,ae,af,ae,af,ah,.reg [aa,aa, { cast:=some (ai (p1.fArgs.length:Int)) },aa],.adj [.keep [0,45,46,47] [532]],.cut .ret (Z7g p1 r14)] func67 (.c8 y7 y7 y7 (Z01 Z03 hb1) (Z01 Z03 hb2) (Z01 Z03 hb3) (Zj8 Z03 hb11) y7 (.c2 (Zjk (r:=Z02) (xs:=p1.fArgs)) (Ziw.of_loop ((ih.weigh_scale_add_L0) p1 (wrap .i64 (p0.fn+(1:Int))) (0:Int) (.inr r14) hr12)) y5))
      ·obtain rfl:=yl h
       exact y9 532 [ak,.reg (e 8),af,af,ae,af,ae,af,ae,af,ae] func67 (.c4 y7 y7 y7 (Z01 Z03 hb1) (.c2 (Z01 Z03 hb2) (Z01 Z03 hb3) (.cons (Z01 Z03 hb11) y5)))
theorem Zgi (N:Nat) (p0:Z17) (p1:Z00) (r:Z17) (h:weigh_scale_add N p0 p1=some r):Ziz prog 67 [.obj [di p0.fn],.v (.agg (Z0a p1))] (Zbp r):=(Zcy N).weigh_scale_add p0 p1 r h
def weigh_Weight_fin (r:Int):List PV:=[vi r]
def Zc8 (N:Nat) (p0:Z00):Option Int:=(weigh_scale_add N (Z17.mk (0:Int)) p0).bind fun r1=>some (if (301:Int) < r1.fn then (301:Int) else r1.fn)
theorem Zd9 (N:Nat) (p0:Z00) (r:Int) (h:Zc8 N p0=some r):Ziz prog 36 [.v (.agg (Z0a p0))] (weigh_Weight_fin r):=by
 unfold Zc8 at h
 obtain ⟨r1,hr1,h⟩:=yj h
 obtain rfl:=yl h
 exact y9 198 [af,ay,.reg [aa,aa, { h:=.call 56 [] [.obj [di r1.fn]] }],.reg (e 6)] func36 (.c2 y7 (Zgi N (Z17.mk (0:Int)) p0 r1 hr1) (.cons y7 y5))
def math_IsNaN_fin (r:Bool):List PV:=[dv (.bool r)]
def Zg3 (N:Nat) (p0:Nat):Option Bool:=some (Lift.fne p0 p0)
theorem Zbo (N:Nat) (p0:Nat) (r:Bool) (h:Zg3 N p0=some r):Ziz prog 133 [dv (.flt .f64 p0)] (math_IsNaN_fin r):=by
 unfold Zg3 at h
 obtain rfl:=yl h
 exact y9 136 [ak,.reg (e 4)] func133 y5
def real_none_fin (r:Bool):List PV:=[dv (.bool r)]
def Z9o (N:Nat) (p0:Int):Option Bool:=(Zg3 N (Int.toNat p0)).bind fun r1=>some r1
theorem Z18 (N:Nat) (p0:Int) (r:Bool) (h:Z9o N p0=some r):Ziz prog 99 [dv (.int .u64 p0)] (real_none_fin r):=by
 unfold Z9o at h
 obtain ⟨r1,hr1,h⟩:=yj h
 obtain rfl:=yl h
 exact y9 136 [ak,.reg [aa, { h:=.ext (.float .f64 (Int.toNat p0)) }, yg [dv (.bool r1)],aa]] func99 (.c2 (Z23 func132 (by kernel_rfl) (by kernel_rfl) (by kernel_rfl) (by kernel_rfl):Ziy prog 132 #[.int .u64 p0] (.float .f64 (Int.toNat p0))) (Zbo N (Int.toNat p0) r1 hr1) y5)
def real_May_fin (r:Bool):List PV:=[dv (.bool r)]
def real_May (N:Nat) (p0:Int):Option Bool:=if p0=(9221120237041090561:Int) then some true else (Z9o N p0).bind fun r2=>some (!r2)
theorem real_May_spec (N:Nat) (p0:Int) (r:Bool) (h:real_May N p0=some r):Ziz prog 68 [dv (.int .u64 p0)] (real_May_fin r):=by
 unfold real_May at h
 rcases Z07 h with ⟨hb1,h⟩ | ⟨hb1,h⟩
 ·obtain rfl:=yl h
  exact y9 164 [ak,.reg [aa,aa,aa,w0,w0,w0, { h:=.pick true },aa]] func68 (.c4 (Zj8 Z03 hb1) (Zj8 Z03 hb1) (Zj8 Z03 hb1) (Zj8 Z03 hb1) y5)
 ·obtain ⟨r2,hr2,h⟩:=yj h
  obtain rfl:=yl h
  exact y9 164 [ak,.reg [aa,aa,aa,aa, yg [dv (.bool r2)],aa, { h:=.pick false },aa]] func68 (.c4 (Z01 Z03 hb1) (Z01 Z03 hb1) (Z18 N p0 r2 hr2) (Z01 Z03 hb1) (.cons (Z01 Z03 hb1) y5))
def term_bare_B0_H (p0:Z00):St:={ fr:=([.bad,(.v (.one (.ptr 1 0)))]++bads 136),obs:=[(1,.var (Z0d p0))] }
def Z54 (p0:Z00) (o:Bool):St:={ fr:=([.bad,(.v (.one (.ptr 1 0))),.bad,(da (.bool o))]++bads 134),obs:=[(1,.var (Z0d p0))] }
def Zb2:Nat→Z00→Option (Bool)
 |0,_=>none
 |N+1,p0=>if (p0.fNum.fMag.length:Int)=(0:Int) then some (!p0.fNum.fNeg) else some false
theorem Z4t:∀ (N:Nat) (p0:Z00) (r:(Bool)),Zb2 N p0=some r→Ziw prog 1114 (partOf f69 [1,0]) (term_bare_B0_H p0 ) .normal (Z54 p0 r):=by
 intro N
 induction N with
 |zero=>intro p0 r h; cases h
 |succ N ih =>
  intro p0 r h
  rw [Zb2] at h
  rcases Z07 h with ⟨hb1,h⟩ | ⟨hb1,h⟩
  ·obtain rfl:=yl h
   exact y8 [.reg [aa,aa,aa, { cast:=some (ai (p0.fNum.fMag.length:Int)) },aa,aa,aa,aa,aa,aa, { h:=.pick true },aa],.adj [.keep [1,3] [1]]] (.c8 y7 (Zjk:AV.Le (ai (((p0.fNum.fMag.map (rI .u32)).length:Nat):Int)) (ai (p0.fNum.fMag.length:Int))) (Zj8 Z03 hb1) (Zj8 Z03 hb1) (Zj8 Z03 hb1) y7 (Zj8 Z03 hb1) (Zj8 Z03 hb1) y5)
  ·obtain rfl:=yl h
   exact y8 [.reg [aa,aa,aa, { cast:=some (ai (p0.fNum.fMag.length:Int)) },aa,aa,w0,w0,w0,w0, { h:=.pick false },aa],.adj [.keep [1,3] [1]]] (.c4 y7 (Zjk:AV.Le (ai (((p0.fNum.fMag.map (rI .u32)).length:Nat):Int)) (ai (p0.fNum.fMag.length:Int))) (Z01 Z03 hb1) (Z01 Z03 hb1) (.c2 (Z01 Z03 hb1) (Z01 Z03 hb1) (.cons (Z01 Z03 hb1) y5)))
def term_bare_B2_H (p0:Z00) (r2:(Bool)):St:={ fr:=([.bad,(.v (.one (.ptr 1 0))),.bad,(da (.bool r2))]++bads 12++[(ai p0.fKind)]++bads 121),obs:=[(1,.var (Z0d p0))] }
def Z0x (p0:Z00) (r2:(Bool)) (o:Bool):St:={ fr:=([.bad,(.v (.one (.ptr 1 0))),.bad,(da (.bool r2))]++bads 12++[(ai p0.fKind),(da (.bool o))]++bads 120),obs:=[(1,.var (Z0d p0))] }
def Zcd:Nat→Z00→(Bool)→Option (Bool)
 |0,_,_=>none
 |N+1,p0,r2=>if p0.fKind=(1:Int) then some (p0.fKind == (1:Int)) else if p0.fKind=(4:Int) then some (p0.fKind == (4:Int)) else some (p0.fKind == (5:Int))
theorem Z0o:∀ (N:Nat) (p0:Z00) (r2:(Bool)) (r:(Bool)),Zcd N p0 r2=some r→Ziw prog 1114 (partOf f69 [1,1,0,1,0,0]) (term_bare_B2_H p0 r2 ) .normal (Z0x p0 r2 r):=by
 intro N
 induction N with
 |zero=>intro p0 r2 r h; cases h
 |succ N ih =>
  intro p0 r2 r h
  rw [Zcd] at h
  rcases Z07 h with ⟨hb3,h⟩ | ⟨hb3,h⟩
  ·obtain rfl:=yl h
   exact y8 [af,ah,.adj [.keep [1,3,16,17] [1]]] (.cons (Zj8 Z03 hb3) y5)
  ·rcases Z07 h with ⟨hb4,h⟩ | ⟨hb4,h⟩
   ·obtain rfl:=yl h
    exact y8 [af,ae,af,ah,.adj [.keep [1,3,16,17] [1]]] (.c2 (Z01 Z03 hb3) (Zj8 Z03 hb4) y5)
   ·obtain rfl:=yl h
    exact y8 [af,ae,af,ae,af,.adj [.keep [1,3,16,17] [1]]] (.c2 (Z01 Z03 hb3) (Z01 Z03 hb4) y5)
def term_bare_B3_H (p0:Z00) (r2:(Bool)):St:={ fr:=([.bad,(.v (.one (.ptr 1 0))),.bad,(da (.bool r2))]++bads 12++[(ai p0.fKind)]++bads 121),obs:=[(1,.var (Z0d p0))] }
def Z69 (p0:Z00) (r2:(Bool)) (o:Bool):St:={ fr:=([.bad,(.v (.one (.ptr 1 0))),.bad,(da (.bool r2))]++bads 93++[(da (.bool o))]++bads 40),obs:=[(1,.var (Z0d p0))] }
def Zcg:Nat→Z00→(Bool)→Option (Bool)
 |0,_,_=>none
 |N+1,p0,r2=>if p0.fKind=(6:Int) then some (p0.fKind == (6:Int)) else some (p0.fKind == (8:Int))
theorem Z6d:∀ (N:Nat) (p0:Z00) (r2:(Bool)) (r:(Bool)),Zcg N p0 r2=some r→Ziw prog 1114 (partOf f69 [1,1,0,1,0,1,1,1,1,1,1,1,1,0]) (term_bare_B3_H p0 r2 ) .normal (Z69 p0 r2 r):=by
 intro N
 induction N with
 |zero=>intro p0 r2 r h; cases h
 |succ N ih =>
  intro p0 r2 r h
  rw [Zcg] at h
  rcases Z07 h with ⟨hb22,h⟩ | ⟨hb22,h⟩
  ·obtain rfl:=yl h
   exact y8 [af,ah,.adj [.keep [1,3,97] [1]]] (.cons (Zj8 Z03 hb22) y5)
  ·obtain rfl:=yl h
   exact y8 [af,ae,af,.adj [.keep [1,3,97] [1]]] (.cons (Z01 Z03 hb22) y5)
def Zgs (p0:Z00) (r2:(Bool)):St:={ fr:=([.bad,(.v (.one (.ptr 1 0))),.bad,(da (.bool r2))]++bads 134),obs:=[(1,.var (Z0d p0))] }
def Z68 (p0:Z00) (r2:(Bool)) (o:Unit):St:={ fr:=([.bad,(.v (.one (.ptr 1 0))),.bad,(da (.bool r2))]++bads 134),obs:=[(1,.var (Z0d p0))] }
def Zfo (p0:Z00) (r2:(Bool)) (o:Bool):St:={ fr:=([.bad,.bad,(da (.bool o))]++bads 135),obs:=[] }
def Zcb:Nat→Z00→(Bool)→Option ((Unit) ⊕ (Bool))
 |0,_,_=>none
 |N+1,p0,r2=>(Zcd N p0 r2).bind fun r5=>if r5=true then if r2=true then if p0.fBits=(0:Int) then if p0.fBytes=(ByteArray.mk #[]) then some (.inr ((p0.fArgs.length:Int) == (0:Int))) else some (.inr false) else some (.inr false) else some (.inr false) else if p0.fKind=(2:Int) then if p0.fN=(0:Int) then if p0.fBits=(0:Int) then if p0.fBytes=(ByteArray.mk #[]) then some (.inr ((p0.fArgs.length:Int) == (0:Int))) else some (.inr false) else some (.inr false) else some (.inr false) else if p0.fKind=(3:Int) then if p0.fN=(0:Int) then if r2=true then if p0.fBytes=(ByteArray.mk #[]) then some (.inr ((p0.fArgs.length:Int) == (0:Int))) else some (.inr false) else some (.inr false) else some (.inr false) else if p0.fKind=(9:Int) then if p0.fN=(0:Int) then if r2=true then if p0.fBits=(0:Int) then some (.inr ((p0.fArgs.length:Int) == (0:Int))) else some (.inr false) else some (.inr false) else some (.inr false) else (Zcg N p0 r2).bind fun r23=>if r23=true then if p0.fN=(0:Int) then if r2=true then if p0.fBits=(0:Int) then some (.inr (p0.fBytes.toList == (ByteArray.mk #[]).toList)) else some (.inr false) else some (.inr false) else some (.inr false) else some (.inl ())
theorem Z4w:∀ (N:Nat) (p0:Z00) (r2:(Bool)) (r:((Unit) ⊕ (Bool))),Zcb N p0 r2=some r→match r with | .inl o=>Ziw prog 1114 (partOf f69 [1,1,0]) (Zgs p0 r2 ) .normal (Z68 p0 r2 o) | .inr o=>Ziw prog 1114 (partOf f69 [1,1,0]) (Zgs p0 r2 ) .ret (Zfo p0 r2 o):=by
 intro N
 induction N with
 |zero=>intro p0 r2 r h; cases h
 |succ N ih =>
  intro p0 r2 r h
  rw [Zcb] at h
  obtain ⟨r5,hr5,h⟩:=yj h
  rcases Z07 h with ⟨hb6,h⟩ | ⟨hb6,h⟩
  ·rcases Z07 h with ⟨hb7,h⟩ | ⟨hb7,h⟩
   ·rcases Z07 h with ⟨hb8,h⟩ | ⟨hb8,h⟩
    ·rcases Z07 h with ⟨hb9,h⟩ | ⟨hb9,h⟩
     ·obtain rfl:=yl h
      exact y8 [af,.deep 2 [.keep [1,3,16] [1]] .normal (Z0x p0 r2 r5),ah,.reg [aa,aa,aa,aa,aa, { h:=.pick true },aa,aa,aa,aa, { h:=.pick true },aa,aa,aa, { cast:=some (ai (p0.fArgs.length:Int)) },aa, { h:=.pick true },aa],.adj [.keep [2] []]] (.c8 y7 (Z0o N p0 r2 r5 hr5) (Zj8 Z04 hb6) (Zj8 Z04 hb7) (Zj8 Z04 hb7) y7 (Zj8 Z04 hb7) (Zj8 Z04 hb7) (.c8 (Zj8 Z03 hb8) (Zj8 Z03 hb8) y7 (Zj8 Z03 hb8) (Zj8 Z03 hb8) (Zj8 Z0u hb9) (Zj8 Z0u hb9) y7 (.c4 (Zj8 Z0u hb9) (Zjk (r:=Z02) (xs:=p0.fArgs)) (Zj8 Z0u hb9) (Zj8 Z0u hb9) y5)))
     ·obtain rfl:=yl h
      exact y8 [af,.deep 2 [.keep [1,3,16] [1]] .normal (Z0x p0 r2 r5),ah,.reg [aa,aa,aa,aa,aa, { h:=.pick true },aa,aa,aa,aa, { h:=.pick true },aa,w0,w0,w0,w0, { h:=.pick false },aa],.adj [.keep [2] []]] (.c8 y7 (Z0o N p0 r2 r5 hr5) (Zj8 Z04 hb6) (Zj8 Z04 hb7) (Zj8 Z04 hb7) y7 (Zj8 Z04 hb7) (Zj8 Z04 hb7) (.c8 (Zj8 Z03 hb8) (Zj8 Z03 hb8) y7 (Zj8 Z03 hb8) (Zj8 Z03 hb8) (Z01 Z0u hb9) (Z01 Z0u hb9) (Z01 Z0u hb9) (.c2 (Z01 Z0u hb9) (Z01 Z0u hb9) y5)))
    ·obtain rfl:=yl h
     exact y8 [af,.deep 2 [.keep [1,3,16] [1]] .normal (Z0x p0 r2 r5),ah,.reg [aa,aa,aa,aa,aa, { h:=.pick true },aa,w0,w0,w0, { h:=.pick false },aa,w0,w0,w0,w0, { h:=.pick false },aa],.adj [.keep [2] []]] (.c8 y7 (Z0o N p0 r2 r5 hr5) (Zj8 Z04 hb6) (Zj8 Z04 hb7) (Zj8 Z04 hb7) y7 (Zj8 Z04 hb7) (Zj8 Z04 hb7) (.c8 (Z01 Z03 hb8) (Z01 Z03 hb8) (Z01 Z03 hb8) (Z01 Z03 hb8) yf yf yf yf (.cons yf y5)))
   ·obtain rfl:=yl h
    exact y8 [af,.deep 2 [.keep [1,3,16] [1]] .normal (Z0x p0 r2 r5),ah,.reg [aa,aa,w0,w0,w0, { h:=.pick false },aa,w0,w0,w0, { h:=.pick false },aa,w0,w0,w0,w0, { h:=.pick false },aa],.adj [.keep [2] []]] (.c8 y7 (Z0o N p0 r2 r5 hr5) (Zj8 Z04 hb6) (Z01 Z04 hb7) (Z01 Z04 hb7) (Z01 Z04 hb7) (Z01 Z04 hb7) yf (.c8 yf yf yf yf yf yf yf yf y5))
  ·rcases Z07 h with ⟨hb10,h⟩ | ⟨hb10,h⟩
   ·rcases Z07 h with ⟨hb11,h⟩ | ⟨hb11,h⟩
    ·rcases Z07 h with ⟨hb12,h⟩ | ⟨hb12,h⟩
     ·rcases Z07 h with ⟨hb13,h⟩ | ⟨hb13,h⟩
      ·obtain rfl:=yl h
       exact y8 [af,.deep 2 [.keep [1,3,16] [1]] .normal (Z0x p0 r2 r5),ae,af,ah,.reg [aa,aa,aa,aa,aa,aa,aa, { h:=.pick true },aa,aa,aa,aa, { h:=.pick true },aa,aa,aa, { cast:=some (ai (p0.fArgs.length:Int)) },aa, { h:=.pick true },aa],.adj [.keep [2] []]] (.c8 y7 (Z0o N p0 r2 r5 hr5) (Z01 Z04 hb6) (Zj8 Z03 hb10) y7 (Zj8 Z03 hb11) (Zj8 Z03 hb11) y7 (.c8 (Zj8 Z03 hb11) (Zj8 Z03 hb11) (Zj8 Z03 hb12) (Zj8 Z03 hb12) y7 (Zj8 Z03 hb12) (Zj8 Z03 hb12) (Zj8 Z0u hb13) (.c4 (Zj8 Z0u hb13) y7 (Zj8 Z0u hb13) (Zjk (r:=Z02) (xs:=p0.fArgs)) (.c2 (Zj8 Z0u hb13) (Zj8 Z0u hb13) y5))))
      ·obtain rfl:=yl h
       exact y8 [af,.deep 2 [.keep [1,3,16] [1]] .normal (Z0x p0 r2 r5),ae,af,ah,.reg [aa,aa,aa,aa,aa,aa,aa, { h:=.pick true },aa,aa,aa,aa, { h:=.pick true },aa,w0,w0,w0,w0, { h:=.pick false },aa],.adj [.keep [2] []]] (.c8 y7 (Z0o N p0 r2 r5 hr5) (Z01 Z04 hb6) (Zj8 Z03 hb10) y7 (Zj8 Z03 hb11) (Zj8 Z03 hb11) y7 (.c8 (Zj8 Z03 hb11) (Zj8 Z03 hb11) (Zj8 Z03 hb12) (Zj8 Z03 hb12) y7 (Zj8 Z03 hb12) (Zj8 Z03 hb12) (Z01 Z0u hb13) (.c4 (Z01 Z0u hb13) (Z01 Z0u hb13) (Z01 Z0u hb13) (Z01 Z0u hb13) y5)))
     ·obtain rfl:=yl h
      exact y8 [af,.deep 2 [.keep [1,3,16] [1]] .normal (Z0x p0 r2 r5),ae,af,ah,.reg [aa,aa,aa,aa,aa,aa,aa, { h:=.pick true },aa,w0,w0,w0, { h:=.pick false },aa,w0,w0,w0,w0, { h:=.pick false },aa],.adj [.keep [2] []]] (.c8 y7 (Z0o N p0 r2 r5 hr5) (Z01 Z04 hb6) (Zj8 Z03 hb10) y7 (Zj8 Z03 hb11) (Zj8 Z03 hb11) y7 (.c8 (Zj8 Z03 hb11) (Zj8 Z03 hb11) (Z01 Z03 hb12) (Z01 Z03 hb12) (Z01 Z03 hb12) (Z01 Z03 hb12) yf yf (.c2 yf yf (.cons yf y5))))
    ·obtain rfl:=yl h
     exact y8 [af,.deep 2 [.keep [1,3,16] [1]] .normal (Z0x p0 r2 r5),ae,af,ah,.reg [aa,aa,aa,aa,w0,w0,w0, { h:=.pick false },aa,w0,w0,w0, { h:=.pick false },aa,w0,w0,w0,w0, { h:=.pick false },aa],.adj [.keep [2] []]] (.c8 y7 (Z0o N p0 r2 r5 hr5) (Z01 Z04 hb6) (Zj8 Z03 hb10) y7 (Z01 Z03 hb11) (Z01 Z03 hb11) (Z01 Z03 hb11) (.c8 (Z01 Z03 hb11) yf yf yf yf yf yf yf (.c2 yf yf y5)))
   ·rcases Z07 h with ⟨hb14,h⟩ | ⟨hb14,h⟩
    ·rcases Z07 h with ⟨hb15,h⟩ | ⟨hb15,h⟩
     ·rcases Z07 h with ⟨hb16,h⟩ | ⟨hb16,h⟩
      ·rcases Z07 h with ⟨hb17,h⟩ | ⟨hb17,h⟩
       ·obtain rfl:=yl h
        exact y8 [af,.deep 2 [.keep [1,3,16] [1]] .normal (Z0x p0 r2 r5),ae,af,ae,af,ah,.reg [aa,aa,aa,aa,aa, { h:=.pick true },aa,aa,aa,aa, { h:=.pick true },aa,aa,aa, { cast:=some (ai (p0.fArgs.length:Int)) },aa, { h:=.pick true },aa],.adj [.keep [2] []]] (.c8 y7 (Z0o N p0 r2 r5 hr5) (Z01 Z04 hb6) (Z01 Z03 hb10) (Zj8 Z03 hb14) y7 (Zj8 Z03 hb15) (Zj8 Z03 hb15) (.c8 (Zj8 Z04 hb16) (Zj8 Z04 hb16) y7 (Zj8 Z04 hb16) (Zj8 Z04 hb16) (Zj8 Z0u hb17) (Zj8 Z0u hb17) y7 (.c4 (Zj8 Z0u hb17) (Zjk (r:=Z02) (xs:=p0.fArgs)) (Zj8 Z0u hb17) (Zj8 Z0u hb17) y5)))
       ·obtain rfl:=yl h
        exact y8 [af,.deep 2 [.keep [1,3,16] [1]] .normal (Z0x p0 r2 r5),ae,af,ae,af,ah,.reg [aa,aa,aa,aa,aa, { h:=.pick true },aa,aa,aa,aa, { h:=.pick true },aa,w0,w0,w0,w0, { h:=.pick false },aa],.adj [.keep [2] []]] (.c8 y7 (Z0o N p0 r2 r5 hr5) (Z01 Z04 hb6) (Z01 Z03 hb10) (Zj8 Z03 hb14) y7 (Zj8 Z03 hb15) (Zj8 Z03 hb15) (.c8 (Zj8 Z04 hb16) (Zj8 Z04 hb16) y7 (Zj8 Z04 hb16) (Zj8 Z04 hb16) (Z01 Z0u hb17) (Z01 Z0u hb17) (Z01 Z0u hb17) (.c2 (Z01 Z0u hb17) (Z01 Z0u hb17) y5)))
      ·obtain rfl:=yl h
       exact y8 [af,.deep 2 [.keep [1,3,16] [1]] .normal (Z0x p0 r2 r5),ae,af,ae,af,ah,.reg [aa,aa,aa,aa,aa, { h:=.pick true },aa,w0,w0,w0, { h:=.pick false },aa,w0,w0,w0,w0, { h:=.pick false },aa],.adj [.keep [2] []]] (.c8 y7 (Z0o N p0 r2 r5 hr5) (Z01 Z04 hb6) (Z01 Z03 hb10) (Zj8 Z03 hb14) y7 (Zj8 Z03 hb15) (Zj8 Z03 hb15) (.c8 (Z01 Z04 hb16) (Z01 Z04 hb16) (Z01 Z04 hb16) (Z01 Z04 hb16) yf yf yf yf (.cons yf y5)))
     ·obtain rfl:=yl h
      exact y8 [af,.deep 2 [.keep [1,3,16] [1]] .normal (Z0x p0 r2 r5),ae,af,ae,af,ah,.reg [aa,aa,aa,aa,w0, { h:=.pick false },aa,w0,w0,w0, { h:=.pick false },aa,w0,w0,w0,w0, { h:=.pick false },aa],.adj [.keep [2] []]] (.c8 y7 (Z0o N p0 r2 r5 hr5) (Z01 Z04 hb6) (Z01 Z03 hb10) (Zj8 Z03 hb14) y7 (Z01 Z03 hb15) (Z01 Z03 hb15) (.c8 yf yf yf yf yf yf yf yf (.cons yf y5)))
    ·rcases Z07 h with ⟨hb18,h⟩ | ⟨hb18,h⟩
     ·rcases Z07 h with ⟨hb19,h⟩ | ⟨hb19,h⟩
      ·rcases Z07 h with ⟨hb20,h⟩ | ⟨hb20,h⟩
       ·rcases Z07 h with ⟨hb21,h⟩ | ⟨hb21,h⟩
        ·obtain rfl:=yl h
         exact y8 [af,.deep 2 [.keep [1,3,16] [1]] .normal (Z0x p0 r2 r5),ae,af,ae,af,ae,af,ah,.reg [aa,aa,aa,aa,aa, { h:=.pick true },aa,aa,aa,aa, { h:=.pick true },aa,aa,aa, { cast:=some (ai (p0.fArgs.length:Int)) },aa, { h:=.pick true },aa],.adj [.keep [2] []]] (.c8 y7 (Z0o N p0 r2 r5 hr5) (Z01 Z04 hb6) (Z01 Z03 hb10) (Z01 Z03 hb14) (Zj8 Z03 hb18) y7 (Zj8 Z03 hb19) (.c8 (Zj8 Z03 hb19) (Zj8 Z04 hb20) (Zj8 Z04 hb20) y7 (Zj8 Z04 hb20) (Zj8 Z04 hb20) (Zj8 Z03 hb21) (Zj8 Z03 hb21) (.c4 y7 (Zj8 Z03 hb21) (Zjk (r:=Z02) (xs:=p0.fArgs)) (Zj8 Z03 hb21) (.cons (Zj8 Z03 hb21) y5))))
        ·obtain rfl:=yl h
         exact y8 [af,.deep 2 [.keep [1,3,16] [1]] .normal (Z0x p0 r2 r5),ae,af,ae,af,ae,af,ah,.reg [aa,aa,aa,aa,aa, { h:=.pick true },aa,aa,aa,aa, { h:=.pick true },aa,w0,w0,w0,w0, { h:=.pick false },aa],.adj [.keep [2] []]] (.c8 y7 (Z0o N p0 r2 r5 hr5) (Z01 Z04 hb6) (Z01 Z03 hb10) (Z01 Z03 hb14) (Zj8 Z03 hb18) y7 (Zj8 Z03 hb19) (.c8 (Zj8 Z03 hb19) (Zj8 Z04 hb20) (Zj8 Z04 hb20) y7 (Zj8 Z04 hb20) (Zj8 Z04 hb20) (Z01 Z03 hb21) (Z01 Z03 hb21) (.c2 (Z01 Z03 hb21) (Z01 Z03 hb21) (.cons (Z01 Z03 hb21) y5))))
       ·obtain rfl:=yl h
        exact y8 [af,.deep 2 [.keep [1,3,16] [1]] .normal (Z0x p0 r2 r5),ae,af,ae,af,ae,af,ah,.reg [aa,aa,aa,aa,aa, { h:=.pick true },aa,w0,w0,w0, { h:=.pick false },aa,w0,w0,w0,w0, { h:=.pick false },aa],.adj [.keep [2] []]] (.c8 y7 (Z0o N p0 r2 r5 hr5) (Z01 Z04 hb6) (Z01 Z03 hb10) (Z01 Z03 hb14) (Zj8 Z03 hb18) y7 (Zj8 Z03 hb19) (.c8 (Zj8 Z03 hb19) (Z01 Z04 hb20) (Z01 Z04 hb20) (Z01 Z04 hb20) (Z01 Z04 hb20) yf yf yf (.c2 yf yf y5)))
      ·obtain rfl:=yl h
       exact y8 [af,.deep 2 [.keep [1,3,16] [1]] .normal (Z0x p0 r2 r5),ae,af,ae,af,ae,af,ah,.reg [aa,aa,aa,aa,w0, { h:=.pick false },aa,w0,w0,w0, { h:=.pick false },aa,w0,w0,w0,w0, { h:=.pick false },aa],.adj [.keep [2] []]] (.c8 y7 (Z0o N p0 r2 r5 hr5) (Z01 Z04 hb6) (Z01 Z03 hb10) (Z01 Z03 hb14) (Zj8 Z03 hb18) y7 (Z01 Z03 hb19) (.c8 (Z01 Z03 hb19) yf yf yf yf yf yf yf (.c2 yf yf y5)))
     ·obtain ⟨r23,hr23,h⟩:=yj h
      rcases Z07 h with ⟨hb24,h⟩ | ⟨hb24,h⟩
      ·rcases Z07 h with ⟨hb25,h⟩ | ⟨hb25,h⟩
       ·rcases Z07 h with ⟨hb26,h⟩ | ⟨hb26,h⟩
        ·rcases Z07 h with ⟨hb27,h⟩ | ⟨hb27,h⟩
         ·obtain rfl:=yl h
          exact y8 [af,.deep 2 [.keep [1,3,16] [1]] .normal (Z0x p0 r2 r5),ae,af,ae,af,ae,af,ae,.deep 1 [.keep [1,3,16] [1]] .normal (Z69 p0 r2 r23),ah,.reg [aa,aa,aa,aa,aa, { h:=.pick true },aa,aa,aa,aa, { h:=.pick true },aa,aa,aa,aa, { h:=.pick true },aa],.adj [.keep [2] []]] (.c8 y7 (Z0o N p0 r2 r5 hr5) (Z01 Z04 hb6) (Z01 Z03 hb10) (Z01 Z03 hb14) (Z01 Z03 hb18) (Z6d N p0 r2 r23 hr23) (Zj8 Z04 hb24) (.c8 y7 (Zj8 Z03 hb25) (Zj8 Z03 hb25) (Zj8 Z04 hb26) (Zj8 Z04 hb26) y7 (Zj8 Z04 hb26) (Zj8 Z04 hb26) (.c4 (Zj8 Z03 hb27) (Zj8 Z03 hb27) y7 (Zj8 Z03 hb27) (.cons (Zj8 Z03 hb27) y5))))
         ·obtain rfl:=yl h
          exact y8 [af,.deep 2 [.keep [1,3,16] [1]] .normal (Z0x p0 r2 r5),ae,af,ae,af,ae,af,ae,.deep 1 [.keep [1,3,16] [1]] .normal (Z69 p0 r2 r23),ah,.reg [aa,aa,aa,aa,aa, { h:=.pick true },aa,aa,aa,aa, { h:=.pick true },aa,w0,w0,w0, { h:=.pick false },aa],.adj [.keep [2] []]] (.c8 y7 (Z0o N p0 r2 r5 hr5) (Z01 Z04 hb6) (Z01 Z03 hb10) (Z01 Z03 hb14) (Z01 Z03 hb18) (Z6d N p0 r2 r23 hr23) (Zj8 Z04 hb24) (.c8 y7 (Zj8 Z03 hb25) (Zj8 Z03 hb25) (Zj8 Z04 hb26) (Zj8 Z04 hb26) y7 (Zj8 Z04 hb26) (Zj8 Z04 hb26) (.c4 (Z01 Z03 hb27) (Z01 Z03 hb27) (Z01 Z03 hb27) (Z01 Z03 hb27) y5)))
        ·obtain rfl:=yl h
         exact y8 [af,.deep 2 [.keep [1,3,16] [1]] .normal (Z0x p0 r2 r5),ae,af,ae,af,ae,af,ae,.deep 1 [.keep [1,3,16] [1]] .normal (Z69 p0 r2 r23),ah,.reg [aa,aa,aa,aa,aa, { h:=.pick true },aa,w0,w0,w0, { h:=.pick false },aa,w0,w0,w0, { h:=.pick false },aa],.adj [.keep [2] []]] (.c8 y7 (Z0o N p0 r2 r5 hr5) (Z01 Z04 hb6) (Z01 Z03 hb10) (Z01 Z03 hb14) (Z01 Z03 hb18) (Z6d N p0 r2 r23 hr23) (Zj8 Z04 hb24) (.c8 y7 (Zj8 Z03 hb25) (Zj8 Z03 hb25) (Z01 Z04 hb26) (Z01 Z04 hb26) (Z01 Z04 hb26) (Z01 Z04 hb26) yf (.c2 yf yf (.cons yf y5))))
       ·obtain rfl:=yl h
        exact y8 [af,.deep 2 [.keep [1,3,16] [1]] .normal (Z0x p0 r2 r5),ae,af,ae,af,ae,af,ae,.deep 1 [.keep [1,3,16] [1]] .normal (Z69 p0 r2 r23),ah,.reg [aa,aa,aa,aa,w0, { h:=.pick false },aa,w0,w0,w0, { h:=.pick false },aa,w0,w0,w0, { h:=.pick false },aa],.adj [.keep [2] []]] (.c8 y7 (Z0o N p0 r2 r5 hr5) (Z01 Z04 hb6) (Z01 Z03 hb10) (Z01 Z03 hb14) (Z01 Z03 hb18) (Z6d N p0 r2 r23 hr23) (Zj8 Z04 hb24) (.c8 y7 (Z01 Z03 hb25) (Z01 Z03 hb25) yf yf yf yf yf (.c2 yf yf (.cons yf y5))))
      ·obtain rfl:=yl h
       exact y8 [af,.deep 2 [.keep [1,3,16] [1]] .normal (Z0x p0 r2 r5),ae,af,ae,af,ae,af,ae,.deep 1 [.keep [1,3,16] [1]] .normal (Z69 p0 r2 r23),ae,.adj [.keep [1,3] [1]]] (.c8 y7 (Z0o N p0 r2 r5 hr5) (Z01 Z04 hb6) (Z01 Z03 hb10) (Z01 Z03 hb14) (Z01 Z03 hb18) (Z6d N p0 r2 r23 hr23) (Z01 Z04 hb24) y5)
def term_bare_fin (r:Bool):List PV:=[dv (.bool r)]
def Zif (N:Nat) (p0:Z00):Option Bool:=(Zb2 N p0).bind fun r2=>(Zcb N p0 r2).bind fun r28=>(match r28 with | .inl r29=>if p0.fN=(0:Int) then if r2=true then if p0.fBits=(0:Int) then if p0.fBytes=(ByteArray.mk #[]) then some ((p0.fArgs.length:Int) == (0:Int)) else some false else some false else some false else some false | .inr r30=>some r30)
theorem Zgz (N:Nat) (p0:Z00) (r:Bool) (h:Zif N p0=some r):Ziz prog 69 [.v (.agg (Z0a p0))] (term_bare_fin r):=by
 unfold Zif at h
 obtain ⟨r2,hr2,h⟩:=yj h
 obtain ⟨r28,hr28,h⟩:=yj h
 rcases r28 with r29 | r30
 ·rcases Z07 h with ⟨hb31,h⟩ | ⟨hb31,h⟩
  ·rcases Z07 h with ⟨hb32,h⟩ | ⟨hb32,h⟩
   ·rcases Z07 h with ⟨hb33,h⟩ | ⟨hb33,h⟩
    ·rcases Z07 h with ⟨hb34,h⟩ | ⟨hb34,h⟩
     ·obtain rfl:=yl h
      exact y9 1114 [af,.adj [.keep [1] [1]],.cut .normal (Z54 p0 r2),.deep 1 [.keep [1,3] [1]] .normal (Z68 p0 r2 r29),.reg [aa,aa,aa,aa,aa, { h:=.pick true },aa,aa,aa,aa, { h:=.pick true },aa,aa,aa,aa, { h:=.pick true },aa,aa,aa, { cast:=some (ai (p0.fArgs.length:Int)) },aa, { h:=.pick true },aa]] func69 (.c8 (Z4t N p0 r2 hr2) (Z4w N p0 r2 (.inl r29) hr28) y7 (Zj8 Z03 hb31) (Zj8 Z03 hb31) (Zj8 Z04 hb32) (Zj8 Z04 hb32) y7 (.c8 (Zj8 Z04 hb32) (Zj8 Z04 hb32) (Zj8 Z03 hb33) (Zj8 Z03 hb33) y7 (Zj8 Z03 hb33) (Zj8 Z03 hb33) (Zj8 Z0u hb34) (.c4 (Zj8 Z0u hb34) y7 (Zj8 Z0u hb34) (Zjk (r:=Z02) (xs:=p0.fArgs)) (.c2 (Zj8 Z0u hb34) (Zj8 Z0u hb34) y5))))
     ·obtain rfl:=yl h
      exact y9 1114 [af,.adj [.keep [1] [1]],.cut .normal (Z54 p0 r2),.deep 1 [.keep [1,3] [1]] .normal (Z68 p0 r2 r29),.reg [aa,aa,aa,aa,aa, { h:=.pick true },aa,aa,aa,aa, { h:=.pick true },aa,aa,aa,aa, { h:=.pick true },aa,w0,w0,w0,w0, { h:=.pick false },aa]] func69 (.c8 (Z4t N p0 r2 hr2) (Z4w N p0 r2 (.inl r29) hr28) y7 (Zj8 Z03 hb31) (Zj8 Z03 hb31) (Zj8 Z04 hb32) (Zj8 Z04 hb32) y7 (.c8 (Zj8 Z04 hb32) (Zj8 Z04 hb32) (Zj8 Z03 hb33) (Zj8 Z03 hb33) y7 (Zj8 Z03 hb33) (Zj8 Z03 hb33) (Z01 Z0u hb34) (.c4 (Z01 Z0u hb34) (Z01 Z0u hb34) (Z01 Z0u hb34) (Z01 Z0u hb34) y5)))
    ·obtain rfl:=yl h
     exact y9 1114 [af,.adj [.keep [1] [1]],.cut .normal (Z54 p0 r2),.deep 1 [.keep [1,3] [1]] .normal (Z68 p0 r2 r29),.reg [aa,aa,aa,aa,aa, { h:=.pick true },aa,aa,aa,aa, { h:=.pick true },aa,w0,w0,w0, { h:=.pick false },aa,w0,w0,w0,w0, { h:=.pick false },aa]] func69 (.c8 (Z4t N p0 r2 hr2) (Z4w N p0 r2 (.inl r29) hr28) y7 (Zj8 Z03 hb31) (Zj8 Z03 hb31) (Zj8 Z04 hb32) (Zj8 Z04 hb32) y7 (.c8 (Zj8 Z04 hb32) (Zj8 Z04 hb32) (Z01 Z03 hb33) (Z01 Z03 hb33) (Z01 Z03 hb33) (Z01 Z03 hb33) yf yf (.c2 yf yf (.cons yf y5))))
   ·obtain rfl:=yl h
    exact y9 1114 [af,.adj [.keep [1] [1]],.cut .normal (Z54 p0 r2),.deep 1 [.keep [1,3] [1]] .normal (Z68 p0 r2 r29),.reg [aa,aa,aa,aa,aa, { h:=.pick true },aa,w0,w0,w0, { h:=.pick false },aa,w0,w0,w0, { h:=.pick false },aa,w0,w0,w0,w0, { h:=.pick false },aa]] func69 (.c8 (Z4t N p0 r2 hr2) (Z4w N p0 r2 (.inl r29) hr28) y7 (Zj8 Z03 hb31) (Zj8 Z03 hb31) (Z01 Z04 hb32) (Z01 Z04 hb32) (Z01 Z04 hb32) (.c8 (Z01 Z04 hb32) yf yf yf yf yf yf yf (.c2 yf yf y5)))
  ·obtain rfl:=yl h
   exact y9 1114 [af,.adj [.keep [1] [1]],.cut .normal (Z54 p0 r2),.deep 1 [.keep [1,3] [1]] .normal (Z68 p0 r2 r29),.reg [aa,aa,aa,aa,w0, { h:=.pick false },aa,w0,w0,w0, { h:=.pick false },aa,w0,w0,w0, { h:=.pick false },aa,w0,w0,w0,w0, { h:=.pick false },aa]] func69 (.c8 (Z4t N p0 r2 hr2) (Z4w N p0 r2 (.inl r29) hr28) y7 (Z01 Z03 hb31) (Z01 Z03 hb31) yf yf yf (.c8 yf yf yf yf yf yf yf yf (.c2 yf yf y5)))
 ·obtain rfl:=yl h
  exact y9 1114 [af,.adj [.keep [1] [1]],.cut .normal (Z54 p0 r2),.deep 1 [.keep [1,3] [1]] .ret (Zfo p0 r2 r30)] func69 (.c2 (Z4t N p0 r2 hr2) (Z4w N p0 r2 (.inr r30) hr28) y5)
end Go.Proofs.Ytllcnlonkloabaa.Sh
