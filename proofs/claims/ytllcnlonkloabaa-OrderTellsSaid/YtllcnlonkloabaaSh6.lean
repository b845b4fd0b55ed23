import Derived.Test.YtllcnlonkloabaaSh5
set_option linter.unusedVariables false
set_option linter.unusedSimpArgs false
set_option maxRecDepth 100000
namespace Go.Proofs.Ytllcnlonkloabaa.Sh
open Go Lift Go.Proofs Go.Proofs.Try
open Go.IntKind (wrap)
def Zf1 (p0:(List Z00)) (a49:(List Z00)) (v4:Int) (v5:Int):St:={ fr:=([(da (.sl 7 (p0.map Z02))),.bad,.bad,(.v (.one (.vw 49 7 0 ((a49.map Z02).length)))),(ai v4),(ai v5)]++bads 45),obs:=[(49,.arr 7 (a49.map Z02) true)] }
def Zaf (p0:(List Z00)) (a49:(List Z00)) (v4:Int) (o:Int):St:={ fr:=([(da (.sl 7 (p0.map Z02))),.bad,.bad,(.v (.one (.vw 49 7 0 ((a49.map Z02).length)))),(ai v4),(ai o)]++bads 45),obs:=[(49,.arr 7 (a49.map Z02) true)] }
def Z2q:Nat→(List Z00)→(List Z00)→Int→Int→Option (Int)
 |0,_,_,_,_=>none
 |N+1,p0,a49,v4,v5=>if v5 > (0:Int) then (idx p0 v4).bind fun x6=>(idx a49 (wrap .i64 (v5 - (1:Int)))).bind fun x7=>(Z5e N x6 x7).bind fun r8=>if r8=true then Z2q N p0 a49 v4 (wrap .i64 (v5 - (1:Int))) else some v5 else some v5
theorem Zdg:∀ (N:Nat) (p0:(List Z00)) (a49:(List Z00)) (v4:Int) (v5:Int) (r:(Int)),Z2q N p0 a49 v4 v5=some r→Zj0 prog 475 (partOf f27 [1,1,0,1,0,0,1,0,0,1,1,0,0,0]) (Zf1 p0 a49 v4 v5) (.exit 2) (Zaf p0 a49 v4 r):=by
 intro N
 induction N with
 |zero=>intro p0 a49 v4 v5 r h; cases h
 |succ N ih =>
  intro p0 a49 v4 v5 r h
  rw [Z2q] at h
  rcases Z07 h with ⟨hb5,h⟩ | ⟨hb5,h⟩
  ·obtain ⟨x6,hx6,h⟩:=yj h
   obtain ⟨x7,hx7,h⟩:=yj h
   obtain ⟨r8,hr8,h⟩:=yj h
   rcases Z07 h with ⟨hb9,h⟩ | ⟨hb9,h⟩
   ·exact Zj0.again (y8 [.reg [aa,aa,aa,aa,aa, { cast:=some (.v (.one (.fptr (Z13 x6)))) },aa,aa,aa,aa,aa, { cast:=some (.v (.agg (Z0d x7))) }, yg [dv (.bool r8)], { h:=.pick true }],ah,ay,.adj [.keep [0,3,4,5] [49]]] (.c8 (Zj8 Z06 hb5) (Zj8 Z06 hb5) (Zj8 Z06 hb5) (Z0m (r:=Z02) hx6) (Z0i hx6 (Z0b x6)) (Zj8 Z06 hb5) y7 (Zj8 Z06 hb5) (.c8 (Zj8 Z06 hb5) (Zj8 Z06 hb5) (Zj8 Z06 hb5) (Z0m (r:=Z02) hx7) (Zj8 Z06 hb5) (⟨Zjy (Z2c hx7).2.2,by decide⟩:(wrap .i64 (v5 - (1:Int))).toNat < (a49.map Z02).length∧0≤7) (Zjx (fun l=>(.v (.agg [.d (l.getD 0 .nils),.d (l.getD 1 .nils),.d (l.getD 2 .nils),.d (l.getD 3 .nils),.d (l.getD 4 .nils),.d (l.getD 5 .nils),.d (l.getD 6 .nils)]))) (Z2c hx7).2.2 (Z0b x7)) (Zj8 Z06 hb5) (.c2 (Z5q N x6 x7 r8 hr8) (Zj8 Z06 hb5) (.cons (Zj8 Z04 hb9) y5))))) (ih p0 a49 v4 (wrap .i64 (v5 - (1:Int))) _ h)
   ·obtain rfl:=yl h
    exact Zj0.out (y8 [.reg [aa,aa,aa,aa,aa, { cast:=some (.v (.one (.fptr (Z13 x6)))) },aa,aa,aa,aa,aa, { cast:=some (.v (.agg (Z0d x7))) }, yg [dv (.bool r8)], { h:=.pick true }],ae,.adj [.keep [0,3,4,5] [49]]] (.c8 (Zj8 Z06 hb5) (Zj8 Z06 hb5) (Zj8 Z06 hb5) (Z0m (r:=Z02) hx6) (Z0i hx6 (Z0b x6)) (Zj8 Z06 hb5) y7 (Zj8 Z06 hb5) (.c8 (Zj8 Z06 hb5) (Zj8 Z06 hb5) (Zj8 Z06 hb5) (Z0m (r:=Z02) hx7) (Zj8 Z06 hb5) (⟨Zjy (Z2c hx7).2.2,by decide⟩:(wrap .i64 (v5 - (1:Int))).toNat < (a49.map Z02).length∧0≤7) (Zjx (fun l=>(.v (.agg [.d (l.getD 0 .nils),.d (l.getD 1 .nils),.d (l.getD 2 .nils),.d (l.getD 3 .nils),.d (l.getD 4 .nils),.d (l.getD 5 .nils),.d (l.getD 6 .nils)]))) (Z2c hx7).2.2 (Z0b x7)) (Zj8 Z06 hb5) (.c2 (Z5q N x6 x7 r8 hr8) (Zj8 Z06 hb5) (.cons (Z01 Z04 hb9) y5))))) (by simp)
  ·obtain rfl:=yl h
   exact Zj0.out (y8 [.reg [aa,aa,aa,w0,w0,w0,w0,w0,w0,w0,w0,w0, { want:=false,h:=.pcall [] }, { h:=.pick false }],ae,.adj [.keep [0,3,4,5] [49]]] (.c8 (Z01 Z06 hb5) (Z01 Z06 hb5) (Z01 Z06 hb5) (Z01 Z06 hb5) (Z01 Z06 hb5) (Z01 Z06 hb5) (Z01 Z06 hb5) (Z01 Z06 hb5) (.c4 (Z01 Z06 hb5) (Z01 Z06 hb5) (Z01 Z06 hb5) yf y5))) (by simp)
def Z5g (p0:(List Z00)) (a49:(List Z00)) (v4:Int):St:={ fr:=([(da (.sl 7 (p0.map Z02))),.bad,.bad,(.v (.one (.vw 49 7 0 ((a49.map Z02).length)))),(ai v4)]++bads 46),obs:=[(49,.arr 7 (a49.map Z02) true)] }
def Zae (p0:(List Z00)) (o:(List Z00)):St:={ fr:=([.bad,.bad,.bad,(.v (.one (.vw 49 7 0 ((o.map Z02).length))))]++bads 47),obs:=[(49,.arr 7 (o.map Z02) true)] }
def Zai (p0:(List Z00)) (o:Unit):St:={ fr:=([.bad,.bad,(da (.nils))]++bads 48),obs:=[] }
def Z32:Nat→(List Z00)→(List Z00)→Int→Option (((List Z00)) ⊕ (Unit))
 |0,_,_,_=>none
 |N+1,p0,a49,v4=>if v4 < (p0.length:Int) then (idx p0 v4).bind fun x2=>(Z4x N x2).bind fun r3=>if ¬ (r3=true) then some (.inr ()) else (Z2q N p0 a49 v4 (a49.length:Int)).bind fun r10=>(Lift.cut a49 (0:Int) r10).bind fun x11=>(Lift.cut a49 r10 (a49.length:Int)).bind fun x13=>(app0 x11).bind fun x14=>(app x14 ([x2]:List Z00)).bind fun x15=>(app x15 x13).bind fun x16=>Z32 N p0 x16 (wrap .i64 (v4+(1:Int))) else some (.inl a49)
theorem Z9a:∀ (N:Nat) (p0:(List Z00)) (a49:(List Z00)) (v4:Int) (r:(((List Z00)) ⊕ (Unit))),Z32 N p0 a49 v4=some r→match r with | .inl o=>Zj0 prog 475 (partOf f27 [1,1,0,1,0,0]) (Z5g p0 a49 v4) (.exit 0) (Zae p0 o) | .inr o=>Zj0 prog 475 (partOf f27 [1,1,0,1,0,0]) (Z5g p0 a49 v4) .ret (Zai p0 o):=by
 intro N
 induction N with
 |zero=>intro p0 a49 v4 r h; cases h
 |succ N ih =>
  intro p0 a49 v4 r h
  rw [Z32] at h
  rcases Z07 h with ⟨hb1,h⟩ | ⟨hb1,h⟩
  ·obtain ⟨x2,hx2,h⟩:=yj h
   obtain ⟨r3,hr3,h⟩:=yj h
   rcases Z07 h with ⟨hb4,h⟩ | ⟨hb4,h⟩
   ·obtain rfl:=yl h
    exact Zj0.out (y8 [.reg [aa,aa, { cast:=some (ai (p0.length:Int)) },aa],ah,.reg [aa,aa, { cast:=some (.v (.one (.fptr (Z13 x2)))) },aa, yg [dv (.bool r3)],aa],ah,ak,.adj [.keep [2] []]] (.c4 (Zjk (r:=Z02) (xs:=p0)) (Zj8 Z06 hb1) (Z0m (r:=Z02) hx2) (Z0i hx2 (Z0b x2)) (.c2 y7 (Z19 N x2 r3 hr3) (.cons (Zj8 (Z09 Z04) hb4) y5)))) (by simp)
   ·obtain ⟨r10,hr10,h⟩:=yj h
    obtain ⟨x11,hx11,h⟩:=yj h
    obtain ⟨x13,hx13,h⟩:=yj h
    obtain ⟨x14,hx14,h⟩:=yj h
    obtain ⟨x15,hx15,h⟩:=yj h
    obtain ⟨x16,hx16,h⟩:=yj h
    have hl:=ih p0 x16 (wrap .i64 (v4+(1:Int))) _ h
    have ha:=Ziw.of_run [.reg [aa,aa, { cast:=some (ai (p0.length:Int)) },aa],ah,.reg [aa,aa, { cast:=some (.v (.one (.fptr (Z13 x2)))) },aa, yg [dv (.bool r3)],aa],ae,.reg [aa, { cast:=some (ai (a49.length:Int)) },aa],.adj [.keep [0,3,4,5] [49]],.cut (.exit 2) (Zaf p0 a49 v4 r10),.adj [.fz 49],.reg [aa,aa, { cast:=some (da (.sl 7 (x11.map Z02))) }, { cast:=some (.v (.one (.vw 39 7 0 ((x14.map Z02).length)))) },aa,aa, { cast:=some (.v (.one (.fptr (Z13 x2)))) },aa,aa, { cast:=some (.v (.one (.vw 45 7 0 ((x15.map Z02).length)))) },aa,aa, { cast:=some (da (.sl 7 (x13.map Z02))) }, { cast:=some (.v (.one (.vw 49 7 0 ((x16.map Z02).length)))) },aa],.adj [.ob 44 (.arr 7 (([x2]:List Z00).map Z02) true),.ob 49 (.arr 7 (x16.map Z02) true)],ay,.adj [.keep [0,3,4] [49]]] (by kernel_rfl:runTo prog 475 (partOf f27 [1,1,0,1,0,0]) _ (Z5g p0 a49 v4)=some (.normal,(Z5g p0 x16 (wrap .i64 (v4+(1:Int)))),_)) (.c8 (Zjk (r:=Z02) (xs:=p0)) (Zj8 Z06 hb1) (Z0m (r:=Z02) hx2) (Z0i hx2 (Z0b x2)) y7 (Z19 N x2 r3 hr3) (Z01 (Z09 Z04) hb4) (Zjk (r:=Z02) (xs:=a49)) (.c8 (Ziw.of_loop (Zdg N p0 a49 v4 (a49.length:Int) r10 hr10)) (⟨rfl,rfl⟩:(7:Nat)=7∧(a49.map Z02).length=(a49.map Z02).length) (cut_bnd hx11:0≤(0:Int)∧(0:Int)≤r10∧r10≤((a49.map Z02).length:Int)) (cut_le hx11:AV.Le (da (.sl 7 (((a49.map Z02).drop (Int.toNat (0:Int))).take (Int.toNat r10 - Int.toNat (0:Int))))) (da (.sl 7 (x11.map Z02)))) (Z0m (r:=Z02) hx2) (Z0i hx2 (Z0b x2)) y7 (Zft hx13:0≤r10∧r10≤((a49.map Z02).length:Int)∧((a49.map Z02).length:Int)≤((a49.map Z02).length:Int)) (.c8 (cut_le' hx13:AV.Le (da (.sl 7 (((a49.map Z02).drop (Int.toNat r10)).take (Int.toNat ((a49.map Z02).length:Int) - Int.toNat r10)))) (da (.sl 7 (x13.map Z02)))) y7 (app0_b hx14 (by decide):(x11.map Z02).length * 96≤140737488355328) (app0_m hx14:(x11.map Z02).length≤9223372036854775807) (app0_n hx14:AV.Le (.v (.one (.vw 39 7 0 (x11.map Z02).length))) (.v (.one (.vw 39 7 0 ((x14.map Z02).length))))) (AV.Le.refl (da (.sl 7 (p0.map Z02)))) (AV.Le.refl (ai v4)) (Z0m (r:=Z02) hx2) (.c8 (Z0i hx2 (Z0b x2)) (AV.Le.refl (.v (.one (.fptr (Z13 x2))))) y7 (AV.Le.refl (.v (.agg (Z0d x2)))) (AV.Le.refl (da (.sl 7 (a49.map Z02)))) (AV.Le.refl (ai r10)) (Zft hx13:0≤r10∧r10≤((a49.map Z02).length:Int)∧((a49.map Z02).length:Int)≤((a49.map Z02).length:Int)) (cut_le' hx13:AV.Le (da (.sl 7 (((a49.map Z02).drop (Int.toNat r10)).take (Int.toNat ((a49.map Z02).length:Int) - Int.toNat r10)))) (da (.sl 7 (x13.map Z02)))) (.c8 (AV.Le.refl (da (.sl 7 (x13.map Z02)))) (AV.Le.refl (da (.sl 7 (a49.map Z02)))) (AV.Le.refl (ai r10)) (cut_bnd hx11:0≤(0:Int)∧(0:Int)≤r10∧r10≤((a49.map Z02).length:Int)) (cut_le hx11:AV.Le (da (.sl 7 (((a49.map Z02).drop (Int.toNat (0:Int))).take (Int.toNat r10 - Int.toNat (0:Int))))) (da (.sl 7 (x11.map Z02)))) (AV.Le.refl (da (.sl 7 (x11.map Z02)))) (AV.Le.refl (da (.sl 7 (a49.map Z02)))) (AV.Le.refl (ai r10)) (.c8 (Zft hx13:0≤r10∧r10≤((a49.map Z02).length:Int)∧((a49.map Z02).length:Int)≤((a49.map Z02).length:Int)) (cut_le' hx13:AV.Le (da (.sl 7 (((a49.map Z02).drop (Int.toNat r10)).take (Int.toNat ((a49.map Z02).length:Int) - Int.toNat r10)))) (da (.sl 7 (x13.map Z02)))) (AV.Le.refl (da (.sl 7 (x13.map Z02)))) (AV.Le.refl (da (.sl 7 (a49.map Z02)))) (AV.Le.refl (ai r10)) (Zft hx13:0≤r10∧r10≤((a49.map Z02).length:Int)∧((a49.map Z02).length:Int)≤((a49.map Z02).length:Int)) (cut_le' hx13:AV.Le (da (.sl 7 (((a49.map Z02).drop (Int.toNat r10)).take (Int.toNat ((a49.map Z02).length:Int) - Int.toNat r10)))) (da (.sl 7 (x13.map Z02)))) (AV.Le.refl (da (.sl 7 (x13.map Z02)))) (.c8 y7 (app0_b hx14 (by decide):(x11.map Z02).length * 96≤140737488355328) (app0_m hx14:(x11.map Z02).length≤9223372036854775807) (app0_n hx14:AV.Le (.v (.one (.vw 39 7 0 (x11.map Z02).length))) (.v (.one (.vw 39 7 0 ((x14.map Z02).length))))) (AV.Le.refl (da (.sl 7 (a49.map Z02)))) (AV.Le.refl (ai r10)) (Zft hx13:0≤r10∧r10≤((a49.map Z02).length:Int)∧((a49.map Z02).length:Int)≤((a49.map Z02).length:Int)) (cut_le' hx13:AV.Le (da (.sl 7 (((a49.map Z02).drop (Int.toNat r10)).take (Int.toNat ((a49.map Z02).length:Int) - Int.toNat r10)))) (da (.sl 7 (x13.map Z02)))) (.c8 (AV.Le.refl (da (.sl 7 (x13.map Z02)))) (AV.Le.refl (da (.sl 7 (p0.map Z02)))) (AV.Le.refl (da (.sl 7 (a49.map Z02)))) (AV.Le.refl (ai v4)) (AV.Le.refl (ai r10)) (AV.Le.refl (da (.sl 7 (a49.map Z02)))) (AV.Le.refl (ai r10)) (AV.Le.refl (da (.sl 7 (x11.map Z02)))) (.c8 (AV.Le.refl (.v (.one (.vw 39 7 0 ((x14.map Z02).length))))) (AV.Le.refl (da (.sl 7 (p0.map Z02)))) (AV.Le.refl (ai v4)) (AV.Le.refl (.v (.one (.fptr (Z13 x2))))) (AV.Le.refl (.v (.agg (Z0d x2)))) (AV.Le.refl (.v (.one (.vw 44 7 0 ((([x2]:List Z00).map Z02).length))))) (AV.Le.refl (da (.sl 7 (a49.map Z02)))) (AV.Le.refl (ai r10)) (.c8 (AV.Le.refl (da (.sl 7 (x13.map Z02)))) (Ob.Le.refl _:Ob.Le (.arr 7 ([[.int .i64 x2.fKind,.int .i64 x2.fN,.bool x2.fNum.fNeg,.sl 1 (x2.fNum.fMag.map (rI .u32)),.int .u64 x2.fBits,.str x2.fBytes,.sl 7 (x2.fArgs.map Z02)]]:List (List C)) true) (.arr 7 ([[.int .i64 x2.fKind,.int .i64 x2.fN,.bool x2.fNum.fNeg,.sl 1 (x2.fNum.fMag.map (rI .u32)),.int .u64 x2.fBits,.str x2.fBytes,.sl 7 (x2.fArgs.map Z02)]]:List (List C)) true)) (Ob.Le.refl _:Ob.Le (.arr 7 (x11.map Z02) true) (.arr 7 (x11.map Z02) true)) (by rw [(show ([[.int .i64 x2.fKind,.int .i64 x2.fN,.bool x2.fNum.fNeg,.sl 1 (x2.fNum.fMag.map (rI .u32)),.int .u64 x2.fBits,.str x2.fBytes,.sl 7 (x2.fArgs.map Z02)]]:List (List C))=(([x2]:List Z00).map Z02) from Eq.symm (by simp only [qh,uw,Z0b]))]; exact lent_ok:0+(([x2]:List Z00).map Z02).length≤([[.int .i64 x2.fKind,.int .i64 x2.fN,.bool x2.fNum.fNeg,.sl 1 (x2.fNum.fMag.map (rI .u32)),.int .u64 x2.fBits,.str x2.fBytes,.sl 7 (x2.fArgs.map Z02)]]:List (List C)).length) (Zfj (show (x11.map Z02)=(x14.map Z02) from (Zbh hx14)):(x14.map Z02).length=(x11.map Z02).length) (by rw [(show ([[.int .i64 x2.fKind,.int .i64 x2.fN,.bool x2.fNum.fNeg,.sl 1 (x2.fNum.fMag.map (rI .u32)),.int .u64 x2.fBits,.str x2.fBytes,.sl 7 (x2.fArgs.map Z02)]]:List (List C))=(([x2]:List Z00).map Z02) from Eq.symm (by simp only [qh,uw,Z0b]))]; exact raw_b (show (x11.map Z02)=(x14.map Z02) from (Zbh hx14)) (appv_b hx15 (by decide)):((x11.map Z02).length+((([[.int .i64 x2.fKind,.int .i64 x2.fN,.bool x2.fNum.fNeg,.sl 1 (x2.fNum.fMag.map (rI .u32)),.int .u64 x2.fBits,.str x2.fBytes,.sl 7 (x2.fArgs.map Z02)]]:List (List C)).drop 0).take (([x2]:List Z00).map Z02).length).length) * 96≤140737488355328) (by rw [(show ([[.int .i64 x2.fKind,.int .i64 x2.fN,.bool x2.fNum.fNeg,.sl 1 (x2.fNum.fMag.map (rI .u32)),.int .u64 x2.fBits,.str x2.fBytes,.sl 7 (x2.fArgs.map Z02)]]:List (List C))=(([x2]:List Z00).map Z02) from Eq.symm (by simp only [qh,uw,Z0b]))]; exact raw_m (show (x11.map Z02)=(x14.map Z02) from (Zbh hx14)) (appv_m hx15):(x11.map Z02).length+((([[.int .i64 x2.fKind,.int .i64 x2.fN,.bool x2.fNum.fNeg,.sl 1 (x2.fNum.fMag.map (rI .u32)),.int .u64 x2.fBits,.str x2.fBytes,.sl 7 (x2.fArgs.map Z02)]]:List (List C)).drop 0).take (([x2]:List Z00).map Z02).length).length≤9223372036854775807) (by rw [(show ([[.int .i64 x2.fKind,.int .i64 x2.fN,.bool x2.fNum.fNeg,.sl 1 (x2.fNum.fMag.map (rI .u32)),.int .u64 x2.fBits,.str x2.fBytes,.sl 7 (x2.fArgs.map Z02)]]:List (List C))=(([x2]:List Z00).map Z02) from Eq.symm (by simp only [qh,uw,Z0b]))]; exact raw_n (show (x11.map Z02)=(x14.map Z02) from (Zbh hx14)) (appv_n hx15):AV.Le (.v (.one (.vw 45 7 0 ((x11.map Z02).length+((([[.int .i64 x2.fKind,.int .i64 x2.fN,.bool x2.fNum.fNeg,.sl 1 (x2.fNum.fMag.map (rI .u32)),.int .u64 x2.fBits,.str x2.fBytes,.sl 7 (x2.fArgs.map Z02)]]:List (List C)).drop 0).take (([x2]:List Z00).map Z02).length).length)))) (.v (.one (.vw 45 7 0 ((x15.map Z02).length))))) (.c8 (AV.Le.refl (da (.sl 7 (a49.map Z02)))) (AV.Le.refl (ai r10)) (Zft hx13:0≤r10∧r10≤((a49.map Z02).length:Int)∧((a49.map Z02).length:Int)≤((a49.map Z02).length:Int)) (cut_le' hx13:AV.Le (da (.sl 7 (((a49.map Z02).drop (Int.toNat r10)).take (Int.toNat ((a49.map Z02).length:Int) - Int.toNat r10)))) (da (.sl 7 (x13.map Z02)))) (AV.Le.refl (da (.sl 7 (x13.map Z02)))) y7 (Zfj (show ((x11.map Z02)++((([[.int .i64 x2.fKind,.int .i64 x2.fN,.bool x2.fNum.fNeg,.sl 1 (x2.fNum.fMag.map (rI .u32)),.int .u64 x2.fBits,.str x2.fBytes,.sl 7 (x2.fArgs.map Z02)]]:List (List C)).drop 0).take (([x2]:List Z00).map Z02).length))=(x15.map Z02) from (by rw [(show ([[.int .i64 x2.fKind,.int .i64 x2.fN,.bool x2.fNum.fNeg,.sl 1 (x2.fNum.fMag.map (rI .u32)),.int .u64 x2.fBits,.str x2.fBytes,.sl 7 (x2.fArgs.map Z02)]]:List (List C))=(([x2]:List Z00).map Z02) from Eq.symm (by simp only [qh,uw,Z0b]))]; exact (Zf3 (show (x11.map Z02)=(x14.map Z02) from (Zbh hx14)) (Zie hx15)))):(x15.map Z02).length=((x11.map Z02)++((([[.int .i64 x2.fKind,.int .i64 x2.fN,.bool x2.fNum.fNeg,.sl 1 (x2.fNum.fMag.map (rI .u32)),.int .u64 x2.fBits,.str x2.fBytes,.sl 7 (x2.fArgs.map Z02)]]:List (List C)).drop 0).take (([x2]:List Z00).map Z02).length)).length) (raw_b (show ((x11.map Z02)++((([[.int .i64 x2.fKind,.int .i64 x2.fN,.bool x2.fNum.fNeg,.sl 1 (x2.fNum.fMag.map (rI .u32)),.int .u64 x2.fBits,.str x2.fBytes,.sl 7 (x2.fArgs.map Z02)]]:List (List C)).drop 0).take (([x2]:List Z00).map Z02).length))=(x15.map Z02) from (by rw [(show ([[.int .i64 x2.fKind,.int .i64 x2.fN,.bool x2.fNum.fNeg,.sl 1 (x2.fNum.fMag.map (rI .u32)),.int .u64 x2.fBits,.str x2.fBytes,.sl 7 (x2.fArgs.map Z02)]]:List (List C))=(([x2]:List Z00).map Z02) from Eq.symm (by simp only [qh,uw,Z0b]))]; exact (Zf3 (show (x11.map Z02)=(x14.map Z02) from (Zbh hx14)) (Zie hx15)))) (app_b hx16 (by decide)):(((x11.map Z02)++((([[.int .i64 x2.fKind,.int .i64 x2.fN,.bool x2.fNum.fNeg,.sl 1 (x2.fNum.fMag.map (rI .u32)),.int .u64 x2.fBits,.str x2.fBytes,.sl 7 (x2.fArgs.map Z02)]]:List (List C)).drop 0).take (([x2]:List Z00).map Z02).length)).length+(x13.map Z02).length) * 96≤140737488355328) (.c4 (raw_m (show ((x11.map Z02)++((([[.int .i64 x2.fKind,.int .i64 x2.fN,.bool x2.fNum.fNeg,.sl 1 (x2.fNum.fMag.map (rI .u32)),.int .u64 x2.fBits,.str x2.fBytes,.sl 7 (x2.fArgs.map Z02)]]:List (List C)).drop 0).take (([x2]:List Z00).map Z02).length))=(x15.map Z02) from (by rw [(show ([[.int .i64 x2.fKind,.int .i64 x2.fN,.bool x2.fNum.fNeg,.sl 1 (x2.fNum.fMag.map (rI .u32)),.int .u64 x2.fBits,.str x2.fBytes,.sl 7 (x2.fArgs.map Z02)]]:List (List C))=(([x2]:List Z00).map Z02) from Eq.symm (by simp only [qh,uw,Z0b]))]; exact (Zf3 (show (x11.map Z02)=(x14.map Z02) from (Zbh hx14)) (Zie hx15)))) (app_m hx16):((x11.map Z02)++((([[.int .i64 x2.fKind,.int .i64 x2.fN,.bool x2.fNum.fNeg,.sl 1 (x2.fNum.fMag.map (rI .u32)),.int .u64 x2.fBits,.str x2.fBytes,.sl 7 (x2.fArgs.map Z02)]]:List (List C)).drop 0).take (([x2]:List Z00).map Z02).length)).length+(x13.map Z02).length≤9223372036854775807) (raw_n (show ((x11.map Z02)++((([[.int .i64 x2.fKind,.int .i64 x2.fN,.bool x2.fNum.fNeg,.sl 1 (x2.fNum.fMag.map (rI .u32)),.int .u64 x2.fBits,.str x2.fBytes,.sl 7 (x2.fArgs.map Z02)]]:List (List C)).drop 0).take (([x2]:List Z00).map Z02).length))=(x15.map Z02) from (by rw [(show ([[.int .i64 x2.fKind,.int .i64 x2.fN,.bool x2.fNum.fNeg,.sl 1 (x2.fNum.fMag.map (rI .u32)),.int .u64 x2.fBits,.str x2.fBytes,.sl 7 (x2.fArgs.map Z02)]]:List (List C))=(([x2]:List Z00).map Z02) from Eq.symm (by simp only [qh,uw,Z0b]))]; exact (Zf3 (show (x11.map Z02)=(x14.map Z02) from (Zbh hx14)) (Zie hx15)))) (app_n hx16):AV.Le (.v (.one (.vw 49 7 0 (((x11.map Z02)++((([[.int .i64 x2.fKind,.int .i64 x2.fN,.bool x2.fNum.fNeg,.sl 1 (x2.fNum.fMag.map (rI .u32)),.int .u64 x2.fBits,.str x2.fBytes,.sl 7 (x2.fArgs.map Z02)]]:List (List C)).drop 0).take (([x2]:List Z00).map Z02).length)).length+(x13.map Z02).length)))) (.v (.one (.vw 49 7 0 ((x16.map Z02).length))))) (Z42 (by simp only [qh,uw,Z0b]):Ob.Le (.arr 7 [[.int .i64 x2.fKind,.int .i64 x2.fN,.bool x2.fNum.fNeg,.sl 1 (x2.fNum.fMag.map (rI .u32)),.int .u64 x2.fBits,.str x2.fBytes,.sl 7 (x2.fArgs.map Z02)]] true) (.arr 7 (([x2]:List Z00).map Z02) true)) (raw_ob (show ((x11.map Z02)++((([[.int .i64 x2.fKind,.int .i64 x2.fN,.bool x2.fNum.fNeg,.sl 1 (x2.fNum.fMag.map (rI .u32)),.int .u64 x2.fBits,.str x2.fBytes,.sl 7 (x2.fArgs.map Z02)]]:List (List C)).drop 0).take (([x2]:List Z00).map Z02).length))=(x15.map Z02) from (by rw [(show ([[.int .i64 x2.fKind,.int .i64 x2.fN,.bool x2.fNum.fNeg,.sl 1 (x2.fNum.fMag.map (rI .u32)),.int .u64 x2.fBits,.str x2.fBytes,.sl 7 (x2.fArgs.map Z02)]]:List (List C))=(([x2]:List Z00).map Z02) from Eq.symm (by simp only [qh,uw,Z0b]))]; exact (Zf3 (show (x11.map Z02)=(x14.map Z02) from (Zbh hx14)) (Zie hx15)))) (app_ob hx16):Ob.Le (.arr 7 (((x11.map Z02)++((([[.int .i64 x2.fKind,.int .i64 x2.fN,.bool x2.fNum.fNeg,.sl 1 (x2.fNum.fMag.map (rI .u32)),.int .u64 x2.fBits,.str x2.fBytes,.sl 7 (x2.fArgs.map Z02)]]:List (List C)).drop 0).take (([x2]:List Z00).map Z02).length))++(x13.map Z02)) true) (.arr 7 (x16.map Z02) true)) y5))))))))))))
    rcases r with o | o <;> exact Zj0.again ha hl
  ·obtain rfl:=yl h
   exact Zj0.out (y8 [.reg [aa,aa, { cast:=some (ai (p0.length:Int)) },aa],ae,.adj [.keep [3] [49]]] (.c2 (Zjk (r:=Z02) (xs:=p0)) (Z01 Z06 hb1) y5)) (by simp)
def Zgr (r:(List Z00)):List PV:=[.v (.one (.own 7 (r.map Z02)))]
def Z4f (N:Nat) (p0:(List Z00)):Option (List Z00):=(Z32 N p0 ([]:List Z00) (0:Int)).bind fun r17=>(match r17 with | .inl r18=>some r18 | .inr r19=>some ([]:List Z00))
theorem Z7l (N:Nat) (p0:(List Z00)) (r:(List Z00)) (h:Z4f N p0=some r):Ziz prog 27 [dv (.sl 7 (p0.map Z02))] (Zgr r):=by
 unfold Z4f at h
 obtain ⟨r17,hr17,h⟩:=yj h
 rcases r17 with r18 | r19
 ·obtain rfl:=yl h
  exact y9 475 [ak,ak,ak,.adj [.new 49 7 3,.keep [0,3,4] [49]],.cut (.exit 0) (Zae p0 r18),af] func27 (.c2 (Ziw.of_loop (Z9a N p0 ([]:List Z00) (0:Int) (.inl r18) hr17)) (rfl:(r18.map Z02).length=(r18.map Z02).length) y5)
 ·obtain rfl:=yl h
  exact y9 475 [ak,ak,ak,.adj [.new 49 7 3,.keep [0,3,4] [49]],.cut .ret (Zai p0 r19),.adj [.new 376 7 2]] func27 (.c2 (Ziw.of_loop (Z9a N p0 ([]:List Z00) (0:Int) (.inr r19) hr17)) (rfl:(([]:List Z00).map Z02).length=(([]:List Z00).map Z02).length) y5)
def Z3r (p0:(List Int)) (p1:(List Int)) (v5:Int):St:={ fr:=([(da (.sl 1 (p0.map (rI .u32)))),(da (.sl 1 (p1.map (rI .u32)))),.bad,.bad,.bad,(ai v5)]++bads 20),obs:=[] }
def Z7p (p0:(List Int)) (p1:(List Int)) (o:Unit):St:={ fr:=bads 26,obs:=[] }
def Z7u (p0:(List Int)) (p1:(List Int)) (o:Unit):St:={ fr:=(bads 4++[(da (.bool false))]++bads 21),obs:=[] }
def Z2b:Nat→(List Int)→(List Int)→Int→Option ((Unit) ⊕ (Unit))
 |0,_,_,_=>none
 |N+1,p0,p1,v5=>if v5 < (p0.length:Int) then (idx p0 v5).bind fun x3=>(idx p1 v5).bind fun x4=>if x3 ≠ x4 then some (.inr ()) else Z2b N p0 p1 (wrap .i64 (v5+(1:Int))) else some (.inl ())
theorem Z6u:∀ (N:Nat) (p0:(List Int)) (p1:(List Int)) (v5:Int) (r:((Unit) ⊕ (Unit))),Z2b N p0 p1 v5=some r→match r with | .inl o=>Zj0 prog 282 (partOf f83 [1,1,0,1,0,0]) (Z3r p0 p1 v5) (.exit 0) (Z7p p0 p1 o) | .inr o=>Zj0 prog 282 (partOf f83 [1,1,0,1,0,0]) (Z3r p0 p1 v5) .ret (Z7u p0 p1 o):=by
 intro N
 induction N with
 |zero=>intro p0 p1 v5 r h; cases h
 |succ N ih =>
  intro p0 p1 v5 r h
  rw [Z2b] at h
  rcases Z07 h with ⟨hb2,h⟩ | ⟨hb2,h⟩
  ·obtain ⟨x3,hx3,h⟩:=yj h
   obtain ⟨x4,hx4,h⟩:=yj h
   rcases Z07 h with ⟨hb5,h⟩ | ⟨hb5,h⟩
   ·obtain rfl:=yl h
    exact Zj0.out (y8 [.reg [aa,aa, { cast:=some (ai (p0.length:Int)) },aa],ah,.reg [aa,aa, { cast:=some (.v (.one (.fptr [.int .u32 x3]))) },aa,aa,aa, { cast:=some (.v (.one (.fptr [.int .u32 x4]))) },aa,aa],ah,ak,.adj [.keep [4] []]] (.c8 (Zjk:AV.Le (ai (((p0.map (rI .u32)).length:Nat):Int)) (ai (p0.length:Int))) (Zj8 Z06 hb2) (Z0m hx3:0≤v5∧v5 < (((p0.map (rI .u32)).length:Nat):Int)) (Z0i hx3 rfl:AV.Le (.v (.one (.fptr ((List.range 1).map fun j=>((p0.map (rI .u32)).getD (Int.toNat v5) []).getD j .nils)))) (.v (.one (.fptr [.int .u32 x3])))) y7 (Z0m hx4:0≤v5∧v5 < (((p1.map (rI .u32)).length:Nat):Int)) (Z0i hx4 rfl:AV.Le (.v (.one (.fptr ((List.range 1).map fun j=>((p1.map (rI .u32)).getD (Int.toNat v5) []).getD j .nils)))) (.v (.one (.fptr [.int .u32 x4])))) y7 (.cons (Zj8 Z0h hb5) y5))) (by simp)
   ·have hl:=ih p0 p1 (wrap .i64 (v5+(1:Int))) _ h
    have ha:=Ziw.of_run [.reg [aa,aa, { cast:=some (ai (p0.length:Int)) },aa],ah,.reg [aa,aa, { cast:=some (.v (.one (.fptr [.int .u32 x3]))) },aa,aa,aa, { cast:=some (.v (.one (.fptr [.int .u32 x4]))) },aa,aa],ae,ay,.adj [.keep [0,1,5] []]] (by kernel_rfl:runTo prog 282 (partOf f83 [1,1,0,1,0,0]) _ (Z3r p0 p1 v5)=some (.normal,(Z3r p0 p1 (wrap .i64 (v5+(1:Int)))),_)) (.c8 (Zjk:AV.Le (ai (((p0.map (rI .u32)).length:Nat):Int)) (ai (p0.length:Int))) (Zj8 Z06 hb2) (Z0m hx3:0≤v5∧v5 < (((p0.map (rI .u32)).length:Nat):Int)) (Z0i hx3 rfl:AV.Le (.v (.one (.fptr ((List.range 1).map fun j=>((p0.map (rI .u32)).getD (Int.toNat v5) []).getD j .nils)))) (.v (.one (.fptr [.int .u32 x3])))) y7 (Z0m hx4:0≤v5∧v5 < (((p1.map (rI .u32)).length:Nat):Int)) (Z0i hx4 rfl:AV.Le (.v (.one (.fptr ((List.range 1).map fun j=>((p1.map (rI .u32)).getD (Int.toNat v5) []).getD j .nils)))) (.v (.one (.fptr [.int .u32 x4])))) y7 (.cons (Z01 Z0h hb5) y5))
    rcases r with o | o <;> exact Zj0.again ha hl
  ·obtain rfl:=yl h
   exact Zj0.out (y8 [.reg [aa,aa, { cast:=some (ai (p0.length:Int)) },aa],ae,.adj [.keep [] []]] (.c2 (Zjk:AV.Le (ai (((p0.map (rI .u32)).length:Nat):Int)) (ai (p0.length:Int))) (Z01 Z06 hb2) y5)) (by simp)
def Zcw (r:Bool):List PV:=[dv (.bool r)]
def Z7d (N:Nat) (p0:(List Int)) (p1:(List Int)):Option Bool:=if (p0.length:Int) ≠ (p1.length:Int) then some false else (Z2b N p0 p1 (0:Int)).bind fun r6=>(match r6 with | .inl r7=>some true | .inr r8=>some false)
theorem Zc7 (N:Nat) (p0:(List Int)) (p1:(List Int)) (r:Bool) (h:Z7d N p0 p1=some r):Ziz prog 83 [dv (.sl 1 (p0.map (rI .u32))),dv (.sl 1 (p1.map (rI .u32)))] (Zcw r):=by
 unfold Z7d at h
 rcases Z07 h with ⟨hb1,h⟩ | ⟨hb1,h⟩
 ·obtain rfl:=yl h
  exact y9 282 [ak,.reg [aa, { cast:=some (ai (p0.length:Int)) },aa, { cast:=some (ai (p1.length:Int)) },aa],ah,ak] func83 (.c2 (Zjk:AV.Le (ai (((p0.map (rI .u32)).length:Nat):Int)) (ai (p0.length:Int))) (Zjk:AV.Le (ai (((p1.map (rI .u32)).length:Nat):Int)) (ai (p1.length:Int))) (.cons (Zj8 Z0h hb1) y5))
 ·obtain ⟨r6,hr6,h⟩:=yj h
  rcases r6 with r7 | r8
  ·obtain rfl:=yl h
   exact y9 282 [ak,.reg [aa, { cast:=some (ai (p0.length:Int)) },aa, { cast:=some (ai (p1.length:Int)) },aa],ae,ak,.adj [.keep [0,1,5] []],.cut (.exit 0) (Z7p p0 p1 r7),ak] func83 (.c4 (Zjk:AV.Le (ai (((p0.map (rI .u32)).length:Nat):Int)) (ai (p0.length:Int))) (Zjk:AV.Le (ai (((p1.map (rI .u32)).length:Nat):Int)) (ai (p1.length:Int))) (Z01 Z0h hb1) (Ziw.of_loop (Z6u N p0 p1 (0:Int) (.inl r7) hr6)) y5)
  ·obtain rfl:=yl h
   exact y9 282 [ak,.reg [aa, { cast:=some (ai (p0.length:Int)) },aa, { cast:=some (ai (p1.length:Int)) },aa],ae,ak,.adj [.keep [0,1,5] []],.cut .ret (Z7u p0 p1 r8)] func83 (.c4 (Zjk:AV.Le (ai (((p0.map (rI .u32)).length:Nat):Int)) (ai (p0.length:Int))) (Zjk:AV.Le (ai (((p1.map (rI .u32)).length:Nat):Int)) (ai (p1.length:Int))) (Z01 Z0h hb1) (Ziw.of_loop (Z6u N p0 p1 (0:Int) (.inr r8) hr6)) y5)
def Zdu (r:Bool):List PV:=[dv (.bool r)]
def Z6r (N:Nat) (p0:Z08) (p1:Z08):Option Bool:=if p0.fNeg=p1.fNeg then (Z7d N p0.fMag p1.fMag).bind fun r2=>some r2 else some false
theorem Z4e (N:Nat) (p0:Z08) (p1:Z08) (r:Bool) (h:Z6r N p0 p1=some r):Ziz prog 52 [az p0.fNeg p0.fMag,az p1.fNeg p1.fMag] (Zdu r):=by
 unfold Z6r at h
 rcases Z07 h with ⟨hb1,h⟩ | ⟨hb1,h⟩
 ·obtain ⟨r2,hr2,h⟩:=yj h
  obtain rfl:=yl h
  exact y9 213 [ay,.reg [aa,aa,aa,aa,aa,aa,aa,aa,aa,aa, yg [dv (.bool r2)], { h:=.pick true },aa]] func52 (.c8 y7 y7 (Zj8 Z16 hb1) (Zj8 Z16 hb1) y7 (Zj8 Z16 hb1) (Zj8 Z16 hb1) y7 (.c2 (Zj8 Z16 hb1) (Zc7 N p0.fMag p1.fMag r2 hr2) (.cons (Zj8 Z16 hb1) y5)))
 ·obtain rfl:=yl h
  exact y9 213 [ay,.reg [aa,aa,aa,aa,aa,aa,w0,w0,w0,w0,w0, { h:=.pick false },aa]] func52 (.c8 y7 y7 (Z01 Z16 hb1) (Z01 Z16 hb1) (Z01 Z16 hb1) (Z01 Z16 hb1) (Z01 Z16 hb1) (Z01 Z16 hb1) y5)
def Zcv (p0:Z00) (p1:Z00):St:={ fr:=([.bad,.bad,(.v (.one (.ptr 2 0))),(.v (.one (.ptr 3 0)))]++bads 41),obs:=[(3,.var (Z0d p1)),(2,.var (Z0d p0))] }
def Z87 (p0:Z00) (p1:Z00) (o:Bool):St:={ fr:=(bads 4++[(da (.bool o))]++bads 40),obs:=[] }
def Zd7 (r:Bool):List PV:=[dv (.bool r)]
def Z3q (p0:(List Z00)) (p1:(List Z00)) (v5:Int):St:={ fr:=([(da (.sl 7 (p0.map Z02))),(da (.sl 7 (p1.map Z02))),.bad,.bad,.bad,(ai v5)]++bads 21),obs:=[] }
def Z7q (p0:(List Z00)) (p1:(List Z00)) (o:Unit):St:={ fr:=bads 27,obs:=[] }
def Z7k (p0:(List Z00)) (p1:(List Z00)) (o:Unit):St:={ fr:=(bads 4++[(da (.bool false))]++bads 22),obs:=[] }
def Z8j (r:Bool):List PV:=[dv (.bool r)]
mutual
def beehivelaw0_SameTerm_B0:Nat→Z00→Z00→Option (Bool)
 |0,_,_=>none
 |N+1,p0,p1=>if p0.fKind=p1.fKind then if p0.fN=p1.fN then (Z6r N p0.fNum p1.fNum).bind fun r3=>if r3=true then if p0.fBits=p1.fBits then if p0.fBytes=p1.fBytes then (beehivelaw0_SameTerms N p0.fArgs p1.fArgs).bind fun r7=>some r7 else some false else some false else some false else some false else some false
def beehivelaw0_SameTerm:Nat→Z00→Z00→Option Bool
 |0,_,_=>none
 |N+1,p0,p1=>(beehivelaw0_SameTerm_B0 N p0 p1).bind fun r8=>some r8
def beehivelaw0_SameTerms_L0:Nat→(List Z00)→(List Z00)→Int→Option ((Unit) ⊕ (Unit))
 |0,_,_,_=>none
 |N+1,p0,p1,v5=>if v5 < (p0.length:Int) then (idx p0 v5).bind fun x3=>(idx p1 v5).bind fun x4=>(beehivelaw0_SameTerm N x3 x4).bind fun r5=>if ¬ (r5=true) then some (.inr ()) else beehivelaw0_SameTerms_L0 N p0 p1 (wrap .i64 (v5+(1:Int))) else some (.inl ())
def beehivelaw0_SameTerms:Nat→(List Z00)→(List Z00)→Option Bool
 |0,_,_=>none
 |N+1,p0,p1=>if (p0.length:Int) ≠ (p1.length:Int) then some false else (beehivelaw0_SameTerms_L0 N p0 p1 (0:Int)).bind fun r7=>(match r7 with | .inl r8=>some true | .inr r9=>some false)
end
structure Zdc (N:Nat):Prop where
 beehivelaw0_SameTerm_B0:∀ (p0:Z00) (p1:Z00) (r:(Bool)),beehivelaw0_SameTerm_B0 N p0 p1=some r→Ziw prog 409 (partOf f29 [1,0]) (Zcv p0 p1 ) .normal (Z87 p0 p1 r)
 beehivelaw0_SameTerm:∀ (p0:Z00) (p1:Z00) (r:Bool),beehivelaw0_SameTerm N p0 p1=some r→Ziz prog 29 [.v (.agg (Z0a p0)),.v (.agg (Z0a p1))] (Zd7 r)
 beehivelaw0_SameTerms_L0:∀ (p0:(List Z00)) (p1:(List Z00)) (v5:Int) (r:((Unit) ⊕ (Unit))),beehivelaw0_SameTerms_L0 N p0 p1 v5=some r→match r with | .inl o=>Zj0 prog 289 (partOf f26 [1,1,0,1,0,0]) (Z3q p0 p1 v5) (.exit 0) (Z7q p0 p1 o) | .inr o=>Zj0 prog 289 (partOf f26 [1,1,0,1,0,0]) (Z3q p0 p1 v5) .ret (Z7k p0 p1 o)
 beehivelaw0_SameTerms:∀ (p0:(List Z00)) (p1:(List Z00)) (r:Bool),beehivelaw0_SameTerms N p0 p1=some r→Ziz prog 26 [dv (.sl 7 (p0.map Z02)),dv (.sl 7 (p1.map Z02))] (Z8j r)
theorem Zb1:∀ N,Zdc N:=by
 intro N
 induction N with
 |zero =>
  constructor
  ·intro p0 p1 r h; rw [beehivelaw0_SameTerm_B0] at h; cases h
  ·intro p0 p1 r h; rw [beehivelaw0_SameTerm] at h; cases h
  ·intro p0 p1 v5 r h; rw [beehivelaw0_SameTerms_L0] at h; cases h
  ·intro p0 p1 r h; rw [beehivelaw0_SameTerms] at h; cases h
 |succ N ih =>
  constructor
  ·intro p0 p1 r h
   rw [beehivelaw0_SameTerm_B0] at h
   rcases Z07 h with ⟨hb1,h⟩ | ⟨hb1,h⟩
   ·rcases Z07 h with ⟨hb2,h⟩ | ⟨hb2,h⟩
    ·obtain ⟨r3,hr3,h⟩:=yj h
     rcases Z07 h with ⟨hb4,h⟩ | ⟨hb4,h⟩
     ·rcases Z07 h with ⟨hb5,h⟩ | ⟨hb5,h⟩
      ·rcases Z07 h with ⟨hb6,h⟩ | ⟨hb6,h⟩
       ·obtain ⟨r7,hr7,h⟩:=yj h
        obtain rfl:=yl h
        exact y8 [.reg [aa,aa,aa,aa,aa,aa,aa,aa,aa,aa,aa, { h:=.pick true },aa,aa,aa,aa,aa, yg [dv (.bool r3)], { h:=.pick true },aa,aa,aa,aa,aa,aa, { h:=.pick true },aa,aa,aa,aa,aa,aa, { h:=.pick true },aa,aa,aa,aa,aa, yg [dv (.bool r7)], { h:=.pick true },aa],.adj [.keep [4] []]] (.c8 y7 y7 (Zj8 Z03 hb1) (Zj8 Z03 hb1) y7 (Zj8 Z03 hb1) (Zj8 Z03 hb1) y7 (.c8 (Zj8 Z03 hb1) (Zj8 Z03 hb1) (Zj8 Z03 hb2) (Zj8 Z03 hb2) y7 (Zj8 Z03 hb2) (Zj8 Z03 hb2) y7 (.c8 (Zj8 Z03 hb2) (Z4e N p0.fNum p1.fNum r3 hr3) (Zj8 Z03 hb2) (Zj8 Z04 hb4) (Zj8 Z04 hb4) y7 (Zj8 Z04 hb4) (Zj8 Z04 hb4) (.c8 y7 (Zj8 Z04 hb4) (Zj8 Z04 hb4) (Zj8 Z03 hb5) (Zj8 Z03 hb5) y7 (Zj8 Z03 hb5) (Zj8 Z03 hb5) (.c8 y7 (Zj8 Z03 hb5) (Zj8 Z03 hb5) (Zj8 Z0u hb6) (Zj8 Z0u hb6) y7 (Zj8 Z0u hb6) (Zj8 Z0u hb6) (.c4 y7 (Zj8 Z0u hb6) ((ih.beehivelaw0_SameTerms) p0.fArgs p1.fArgs r7 hr7) (Zj8 Z0u hb6) y5))))))
       ·obtain rfl:=yl h
        exact y8 [.reg [aa,aa,aa,aa,aa,aa,aa,aa,aa,aa,aa, { h:=.pick true },aa,aa,aa,aa,aa, yg [dv (.bool r3)], { h:=.pick true },aa,aa,aa,aa,aa,aa, { h:=.pick true },aa,aa,aa,aa,aa,aa, { h:=.pick true },aa,w0,w0,w0,w0,w0, { h:=.pick false },aa],.adj [.keep [4] []]] (.c8 y7 y7 (Zj8 Z03 hb1) (Zj8 Z03 hb1) y7 (Zj8 Z03 hb1) (Zj8 Z03 hb1) y7 (.c8 (Zj8 Z03 hb1) (Zj8 Z03 hb1) (Zj8 Z03 hb2) (Zj8 Z03 hb2) y7 (Zj8 Z03 hb2) (Zj8 Z03 hb2) y7 (.c8 (Zj8 Z03 hb2) (Z4e N p0.fNum p1.fNum r3 hr3) (Zj8 Z03 hb2) (Zj8 Z04 hb4) (Zj8 Z04 hb4) y7 (Zj8 Z04 hb4) (Zj8 Z04 hb4) (.c8 y7 (Zj8 Z04 hb4) (Zj8 Z04 hb4) (Zj8 Z03 hb5) (Zj8 Z03 hb5) y7 (Zj8 Z03 hb5) (Zj8 Z03 hb5) (.c8 y7 (Zj8 Z03 hb5) (Zj8 Z03 hb5) (Z01 Z0u hb6) (Z01 Z0u hb6) (Z01 Z0u hb6) (Z01 Z0u hb6) (Z01 Z0u hb6) (.cons (Z01 Z0u hb6) y5))))))
      ·obtain rfl:=yl h
       exact y8 [.reg [aa,aa,aa,aa,aa,aa,aa,aa,aa,aa,aa, { h:=.pick true },aa,aa,aa,aa,aa, yg [dv (.bool r3)], { h:=.pick true },aa,aa,aa,aa,aa,aa, { h:=.pick true },aa,w0,w0,w0,w0,w0, { h:=.pick false },aa,w0,w0,w0,w0,w0, { h:=.pick false },aa],.adj [.keep [4] []]] (.c8 y7 y7 (Zj8 Z03 hb1) (Zj8 Z03 hb1) y7 (Zj8 Z03 hb1) (Zj8 Z03 hb1) y7 (.c8 (Zj8 Z03 hb1) (Zj8 Z03 hb1) (Zj8 Z03 hb2) (Zj8 Z03 hb2) y7 (Zj8 Z03 hb2) (Zj8 Z03 hb2) y7 (.c8 (Zj8 Z03 hb2) (Z4e N p0.fNum p1.fNum r3 hr3) (Zj8 Z03 hb2) (Zj8 Z04 hb4) (Zj8 Z04 hb4) y7 (Zj8 Z04 hb4) (Zj8 Z04 hb4) (.c8 y7 (Zj8 Z04 hb4) (Zj8 Z04 hb4) (Z01 Z03 hb5) (Z01 Z03 hb5) (Z01 Z03 hb5) (Z01 Z03 hb5) (Z01 Z03 hb5) (.c4 (Z01 Z03 hb5) yf yf yf (.c2 yf yf (.cons yf y5)))))))
     ·obtain rfl:=yl h
      exact y8 [.reg [aa,aa,aa,aa,aa,aa,aa,aa,aa,aa,aa, { h:=.pick true },aa,aa,aa,aa,aa, yg [dv (.bool r3)], { h:=.pick true },aa,w0,w0,w0,w0,w0, { h:=.pick false },aa,w0,w0,w0,w0,w0, { h:=.pick false },aa,w0,w0,w0,w0,w0, { h:=.pick false },aa],.adj [.keep [4] []]] (.c8 y7 y7 (Zj8 Z03 hb1) (Zj8 Z03 hb1) y7 (Zj8 Z03 hb1) (Zj8 Z03 hb1) y7 (.c8 (Zj8 Z03 hb1) (Zj8 Z03 hb1) (Zj8 Z03 hb2) (Zj8 Z03 hb2) y7 (Zj8 Z03 hb2) (Zj8 Z03 hb2) y7 (.c8 (Zj8 Z03 hb2) (Z4e N p0.fNum p1.fNum r3 hr3) (Zj8 Z03 hb2) (Z01 Z04 hb4) (Z01 Z04 hb4) (Z01 Z04 hb4) (Z01 Z04 hb4) (Z01 Z04 hb4) (.c8 (Z01 Z04 hb4) yf yf yf yf yf yf yf (.c4 yf yf yf yf (.cons yf y5))))))
    ·obtain rfl:=yl h
     exact y8 [.reg [aa,aa,aa,aa,aa,aa,aa,aa,aa,aa,aa, { h:=.pick true },aa,w0,w0,w0,w0,w0, { h:=.pick false },aa,w0,w0,w0,w0,w0, { h:=.pick false },aa,w0,w0,w0,w0,w0, { h:=.pick false },aa,w0,w0,w0,w0,w0, { h:=.pick false },aa],.adj [.keep [4] []]] (.c8 y7 y7 (Zj8 Z03 hb1) (Zj8 Z03 hb1) y7 (Zj8 Z03 hb1) (Zj8 Z03 hb1) y7 (.c8 (Zj8 Z03 hb1) (Zj8 Z03 hb1) (Z01 Z03 hb2) (Z01 Z03 hb2) (Z01 Z03 hb2) (Z01 Z03 hb2) (Z01 Z03 hb2) (Z01 Z03 hb2) (.c8 yf yf yf yf yf yf yf yf (.c8 yf yf yf yf yf yf yf yf (.c2 yf yf y5)))))
   ·obtain rfl:=yl h
    exact y8 [.reg [aa,aa,aa,aa,aa,aa,w0,w0,w0,w0,w0, { h:=.pick false },aa,w0,w0,w0,w0,w0, { h:=.pick false },aa,w0,w0,w0,w0,w0, { h:=.pick false },aa,w0,w0,w0,w0,w0, { h:=.pick false },aa,w0,w0,w0,w0,w0, { h:=.pick false },aa],.adj [.keep [4] []]] (.c8 y7 y7 (Z01 Z03 hb1) (Z01 Z03 hb1) (Z01 Z03 hb1) (Z01 Z03 hb1) (Z01 Z03 hb1) (Z01 Z03 hb1) (.c8 yf yf yf yf yf yf yf yf (.c8 yf yf yf yf yf yf yf yf (.c8 yf yf yf yf yf yf yf yf y5))))
  ·intro p0 p1 r h
   rw [beehivelaw0_SameTerm] at h
   obtain ⟨r8,hr8,h⟩:=yj h
   obtain rfl:=yl h
   exact y9 409 [ay,.adj [.keep [2,3] [3,2]],.cut .normal (Z87 p0 p1 r8)] func29 (.cons ((ih.beehivelaw0_SameTerm_B0) p0 p1 r8 hr8) y5)
  ·intro p0 p1 v5 r h
   rw [beehivelaw0_SameTerms_L0] at h
   rcases Z07 h with ⟨hb2,h⟩ | ⟨hb2,h⟩
   ·obtain ⟨x3,hx3,h⟩:=yj h
    obtain ⟨x4,hx4,h⟩:=yj h
    obtain ⟨r5,hr5,h⟩:=yj h
    rcases Z07 h with ⟨hb6,h⟩ | ⟨hb6,h⟩
    ·obtain rfl:=yl h
     exact Zj0.out (y8 [.reg [aa,aa, { cast:=some (ai (p0.length:Int)) },aa],ah,.reg [aa,aa, { cast:=some (.v (.one (.fptr (Z13 x3)))) },aa,aa,aa, { cast:=some (.v (.one (.fptr (Z13 x4)))) },aa, yg [dv (.bool r5)],aa],ah,ak,.adj [.keep [4] []]] (.c8 (Zjk (r:=Z02) (xs:=p0)) (Zj8 Z06 hb2) (Z0m (r:=Z02) hx3) (Z0i hx3 (Z0b x3)) y7 (Z0m (r:=Z02) hx4) (Z0i hx4 (Z0b x4)) y7 (.c2 ((ih.beehivelaw0_SameTerm) x3 x4 r5 hr5) (Zj8 (Z09 Z04) hb6) y5))) (by simp)
    ·have hl:=ih.beehivelaw0_SameTerms_L0 p0 p1 (wrap .i64 (v5+(1:Int))) _ h
     have ha:=Ziw.of_run [.reg [aa,aa, { cast:=some (ai (p0.length:Int)) },aa],ah,.reg [aa,aa, { cast:=some (.v (.one (.fptr (Z13 x3)))) },aa,aa,aa, { cast:=some (.v (.one (.fptr (Z13 x4)))) },aa, yg [dv (.bool r5)],aa],ae,ay,.adj [.keep [0,1,5] []]] (by kernel_rfl:runTo prog 289 (partOf f26 [1,1,0,1,0,0]) _ (Z3q p0 p1 v5)=some (.normal,(Z3q p0 p1 (wrap .i64 (v5+(1:Int)))),_)) (.c8 (Zjk (r:=Z02) (xs:=p0)) (Zj8 Z06 hb2) (Z0m (r:=Z02) hx3) (Z0i hx3 (Z0b x3)) y7 (Z0m (r:=Z02) hx4) (Z0i hx4 (Z0b x4)) y7 (.c2 ((ih.beehivelaw0_SameTerm) x3 x4 r5 hr5) (Z01 (Z09 Z04) hb6) y5))
     rcases r with o | o <;> exact Zj0.again ha hl
   ·obtain rfl:=yl h
    exact Zj0.out (y8 [.reg [aa,aa, { cast:=some (ai (p0.length:Int)) },aa],ae,.adj [.keep [] []]] (.c2 (Zjk (r:=Z02) (xs:=p0)) (Z01 Z06 hb2) y5)) (by simp)
  ·intro p0 p1 r h
   rw [beehivelaw0_SameTerms] at h
   rcases Z07 h with ⟨hb1,h⟩ | ⟨hb1,h⟩
   ·obtain rfl:=yl h
    exact y9 289 [ak,.reg [aa, { cast:=some (ai (p0.length:Int)) },aa, { cast:=some (ai (p1.length:Int)) },aa],ah,ak] func26 (.c2 (Zjk (r:=Z02) (xs:=p0)) (Zjk (r:=Z02) (xs:=p1)) (.cons (Zj8 Z0h hb1) y5))
   ·obtain ⟨r7,hr7,h⟩:=yj h
    rcases r7 with r8 | r9
    ·obtain rfl:=yl h
     exact y9 289 [ak,.reg [aa, { cast:=some (ai (p0.length:Int)) },aa, { cast:=some (ai (p1.length:Int)) },aa],ae,ak,.adj [.keep [0,1,5] []],.cut (.exit 0) (Z7q p0 p1 r8),ak] func26 (.c4 (Zjk (r:=Z02) (xs:=p0)) (Zjk (r:=Z02) (xs:=p1)) (Z01 Z0h hb1) (Ziw.of_loop ((ih.beehivelaw0_SameTerms_L0) p0 p1 (0:Int) (.inl r8) hr7)) y5)
    ·obtain rfl:=yl h
     exact y9 289 [ak,.reg [aa, { cast:=some (ai (p0.length:Int)) },aa, { cast:=some (ai (p1.length:Int)) },aa],ae,ak,.adj [.keep [0,1,5] []],.cut .ret (Z7k p0 p1 r9)] func26 (.c4 (Zjk (r:=Z02) (xs:=p0)) (Zjk (r:=Z02) (xs:=p1)) (Z01 Z0h hb1) (Ziw.of_loop ((ih.beehivelaw0_SameTerms_L0) p0 p1 (0:Int) (.inr r9) hr7)) y5)
theorem Z5b (N:Nat) (p0:(List Z00)) (p1:(List Z00)) (r:Bool) (h:beehivelaw0_SameTerms N p0 p1=some r):Ziz prog 26 [dv (.sl 7 (p0.map Z02)),dv (.sl 7 (p1.map Z02))] (Z8j r):=(Zb1 N).beehivelaw0_SameTerms p0 p1 r h
def Z39 (p0:Z00) (p1:Z00) (p2:(List Z00)):St:={ fr:=([.bad,.bad,(da (.sl 7 (p2.map Z02))),(.v (.one (.ptr 3 0))),(.v (.one (.ptr 4 0)))]++bads 62),obs:=[(4,.var (Z0d p1)),(3,.var (Z0d p0))] }
def Z1o (p0:Z00) (p1:Z00) (p2:(List Z00)) (o:Unit):St:={ fr:=([.bad,.bad,(da (.sl 7 (p2.map Z02))),(.v (.one (.ptr 3 0))),(.v (.one (.ptr 4 0)))]++bads 62),obs:=[(4,.var (Z0d p1)),(3,.var (Z0d p0))] }
def Z0q (p0:Z00) (p1:Z00) (p2:(List Z00)) (o:Bool):St:={ fr:=(bads 6++[(da (.bool o))]++bads 60),obs:=[] }
def Z1h:Nat→Z00→Z00→(List Z00)→Option ((Unit) ⊕ (Bool))
 |0,_,_,_=>none
 |N+1,p0,p1,p2=>(Z46 N p0 (400:Int)).bind fun r1=>if r1=true then (Z35 N).bind fun r3=>some (.inr r3) else (Z46 N p1 (400:Int)).bind fun r4=>if r4=true then (Z35 N).bind fun r6=>some (.inr r6) else (Z5a N p2 (400:Int)).bind fun r7=>if r7=true then (Z35 N).bind fun r9=>some (.inr r9) else some (.inl ())
theorem Z6k:∀ (N:Nat) (p0:Z00) (p1:Z00) (p2:(List Z00)) (r:((Unit) ⊕ (Bool))),Z1h N p0 p1 p2=some r→match r with | .inl o=>Ziw prog 491 (partOf f6 [1,0]) (Z39 p0 p1 p2 ) .normal (Z1o p0 p1 p2 o) | .inr o=>Ziw prog 491 (partOf f6 [1,0]) (Z39 p0 p1 p2 ) .ret (Z0q p0 p1 p2 o):=by
 intro N
 induction N with
 |zero=>intro p0 p1 p2 r h; cases h
 |succ N ih =>
  intro p0 p1 p2 r h
  rw [Z1h] at h
  obtain ⟨r1,hr1,h⟩:=yj h
  rcases Z07 h with ⟨hb2,h⟩ | ⟨hb2,h⟩
  ·obtain ⟨r3,hr3,h⟩:=yj h
   obtain rfl:=yl h
   exact y8 [.reg [aa, yg [dv (.bool r1)],aa,w0,w0, { h:=.pick true },aa,w0,w0, { h:=.pick true }],ah,.reg [yg [dv (.bool r3)],aa],.adj [.keep [6] []]] (.c8 y7 (Z1v N p0 (400:Int) r1 hr1) (Zj8 Z04 hb2) (Zj8 Z04 hb2) (Zj8 Z04 hb2) (Eq.refl true) (Eq.refl true) (Eq.refl true) (.c2 (Eq.refl true) (Z58 N r3 hr3) y5))
  ·obtain ⟨r4,hr4,h⟩:=yj h
   rcases Z07 h with ⟨hb5,h⟩ | ⟨hb5,h⟩
   ·obtain ⟨r6,hr6,h⟩:=yj h
    obtain rfl:=yl h
    exact y8 [.reg [aa, yg [dv (.bool r1)],aa,aa, yg [dv (.bool r4)], { h:=.pick false },aa,w0,w0, { h:=.pick true }],ah,.reg [yg [dv (.bool r6)],aa],.adj [.keep [6] []]] (.c8 y7 (Z1v N p0 (400:Int) r1 hr1) (Z01 Z04 hb2) y7 (Z01 Z04 hb2) (Z1v N p1 (400:Int) r4 hr4) (Z01 Z04 hb2) (Zj8 Z04 hb5) (.c4 (Zj8 Z04 hb5) (Zj8 Z04 hb5) (Eq.refl true) (Z58 N r6 hr6) y5))
   ·obtain ⟨r7,hr7,h⟩:=yj h
    rcases Z07 h with ⟨hb8,h⟩ | ⟨hb8,h⟩
    ·obtain ⟨r9,hr9,h⟩:=yj h
     obtain rfl:=yl h
     exact y8 [.reg [aa, yg [dv (.bool r1)],aa,aa, yg [dv (.bool r4)], { h:=.pick false },aa,aa, yg [dv (.bool r7)], { h:=.pick false }],ah,.reg [yg [dv (.bool r9)],aa],.adj [.keep [6] []]] (.c8 y7 (Z1v N p0 (400:Int) r1 hr1) (Z01 Z04 hb2) y7 (Z01 Z04 hb2) (Z1v N p1 (400:Int) r4 hr4) (Z01 Z04 hb2) (Z01 Z04 hb5) (.c4 (Z01 Z04 hb5) (Z7a N p2 (400:Int) r7 hr7) (Z01 Z04 hb5) (Zj8 Z04 hb8) (.cons (Z58 N r9 hr9) y5)))
    ·obtain rfl:=yl h
     exact y8 [.reg [aa, yg [dv (.bool r1)],aa,aa, yg [dv (.bool r4)], { h:=.pick false },aa,aa, yg [dv (.bool r7)], { h:=.pick false }],ae,.adj [.keep [2,3,4] [4,3]]] (.c8 y7 (Z1v N p0 (400:Int) r1 hr1) (Z01 Z04 hb2) y7 (Z01 Z04 hb2) (Z1v N p1 (400:Int) r4 hr4) (Z01 Z04 hb2) (Z01 Z04 hb5) (.c4 (Z01 Z04 hb5) (Z7a N p2 (400:Int) r7 hr7) (Z01 Z04 hb5) (Z01 Z04 hb8) y5))
def Z2p (p0:Z00) (p1:Z00) (p2:(List Z00)) (r13:(List Z00)):St:={ fr:=([.bad,.bad,(da (.sl 7 (p2.map Z02))),(.v (.one (.ptr 3 0))),(.v (.one (.ptr 4 0))),.bad,.bad,(da (.sl 7 (r13.map Z02)))]++bads 59),obs:=[(4,.var (Z0d p1)),(3,.var (Z0d p0))] }
def Z2n (p0:Z00) (p1:Z00) (p2:(List Z00)) (r13:(List Z00)) (o:Bool):St:={ fr:=([.bad,.bad,(da (.sl 7 (p2.map Z02)))]++bads 5++[(da (.bool o))]++bads 58),obs:=[] }
def Z2x:Nat→Z00→Z00→(List Z00)→(List Z00)→Option (Bool)
 |0,_,_,_,_=>none
 |N+1,p0,p1,p2,r13=>(Z8h N p0 p1).bind fun r14=>(Z67 N p0 p1).bind fun r15=>if r14=r15 then (Zbl N p0 p1).bind fun r17=>(Z5e N p0 p1).bind fun r18=>if r17=r18 then (Z4f N p2).bind fun r20=>(beehivelaw0_SameTerms N r13 r20).bind fun r21=>some r21 else some false else some false
theorem Zb0:∀ (N:Nat) (p0:Z00) (p1:Z00) (p2:(List Z00)) (r13:(List Z00)) (r:(Bool)),Z2x N p0 p1 p2 r13=some r→LookTo prog 491 (partOf f6 [1,1,1,0]) (Z2p p0 p1 p2 r13 ) 8 (.bool r):=by
 intro N
 induction N with
 |zero=>intro p0 p1 p2 r13 r h; cases h
 |succ N ih =>
  intro p0 p1 p2 r13 r h
  rw [Z2x] at h
  obtain ⟨r14,hr14,h⟩:=yj h
  obtain ⟨r15,hr15,h⟩:=yj h
  rcases Z07 h with ⟨hb16,h⟩ | ⟨hb16,h⟩
  ·obtain ⟨r17,hr17,h⟩:=yj h
   obtain ⟨r18,hr18,h⟩:=yj h
   rcases Z07 h with ⟨hb19,h⟩ | ⟨hb19,h⟩
   ·obtain ⟨r20,hr20,h⟩:=yj h
    obtain ⟨r21,hr21,h⟩:=yj h
    obtain rfl:=yl h
    exact LookTo.of_bor [] [4,3] [aa,aa, yg [vi r14],aa,aa, yg [vi r15],aa,aa,aa,aa, yg [dv (.bool r17)],aa,aa, yg [dv (.bool r18)],aa, { h:=.pick true },aa,aa,aa, { h:=.call 289 [.v (.one (.own 7 (r20.map Z02)))] [] }, { h:=.lcall [dv (.bool r21)] }, { h:=.pick true },aa] (by kernel_rfl:runBor prog 491 (partOf f6 [1,1,1,0]) [] [4,3] [aa,aa, yg [vi r14],aa,aa, yg [vi r15],aa,aa,aa,aa, yg [dv (.bool r17)],aa,aa, yg [dv (.bool r18)],aa, { h:=.pick true },aa,aa,aa, { h:=.call 289 [.v (.one (.own 7 (r20.map Z02)))] [] }, { h:=.lcall [dv (.bool r21)] }, { h:=.pick true },aa] { fr:=([.bad,.bad,(da (.sl 7 (p2.map Z02))),(.v (.one (.ptr 3 0))),(.v (.one (.ptr 4 0))),.bad,.bad,(da (.sl 7 (r13.map Z02)))]++bads 59),obs:=[(4,.var (Z0d p1)),(3,.var (Z0d p0))] }=some ({ fr:=([.bad,.bad,(da (.sl 7 (p2.map Z02))),(.v (.one (.ptr 3 0))),(.v (.one (.ptr 4 0))),.bad,.bad,(da (.sl 7 (r13.map Z02))),(da (.bool r21))]++bads 16++[(ai r14),.bad,.bad,(ai r15),(da (.bool (r14 == r15))),(da (.bool (r14 == r15))),.bad,.bad,(da (.bool r17)),.bad,.bad,(da (.bool r18)),(da (.bool (r17 == r18))),(da (.bool (r17 == r18))),(da (.bool (r17 == r18))),.bad,.bad,.bad,(da (.bool r21)),(da (.bool r21))]++bads 22),obs:=[(4,.var (Z0d p1)),(3,.var (Z0d p0))] },[True,True,Ziz prog 16 [.v (.agg (Z0a p0)),.v (.agg (Z0a p1))] [vi r14],True,True,Ziz prog 24 [.v (.agg (Z0a p0)),.v (.agg (Z0a p1))] [vi r15],(r14 == r15)=true,True,(r14 == r15)=true,True,(r14 == r15)=true,Ziz prog 17 [.v (.agg (Z0a p0)),.v (.agg (Z0a p1))] [dv (.bool r17)],(r14 == r15)=true,True,(r14 == r15)=true,True,(r14 == r15)=true,Ziz prog 25 [.v (.agg (Z0a p0)),.v (.agg (Z0a p1))] [dv (.bool r18)],(r14 == r15)=true,(r14 == r15)=true,(r17 == r18)=true,(r17 == r18)=true,(r17 == r18)=true,Ziz prog 27 [dv (.sl 7 (p2.map Z02))] [.v (.one (.own 7 (r20.map Z02)))],(r17 == r18)=true,AV.Le (da (.sl 7 (r13.map Z02))) (da (.sl 7 (r13.map Z02))),(r17 == r18)=true,Ziz prog 26 [dv (.sl 7 (r13.map Z02)),dv (.sl 7 (r20.map Z02))] [dv (.bool r21)],(r20.map Z02).length=(r20.map Z02).length,(r17 == r18)=true])) (.c8 y7 y7 (Z1m N p0 p1 r14 hr14) y7 y7 (Z5z N p0 p1 r15 hr15) (Zj8 Z03 hb16) y7 (.c8 (Zj8 Z03 hb16) y7 (Zj8 Z03 hb16) (Z3b N p0 p1 r17 hr17) (Zj8 Z03 hb16) y7 (Zj8 Z03 hb16) y7 (.c8 (Zj8 Z03 hb16) (Z5q N p0 p1 r18 hr18) (Zj8 Z03 hb16) (Zj8 Z03 hb16) (Zj8 Z16 hb19) (Zj8 Z16 hb19) (Zj8 Z16 hb19) (Z7l N p2 r20 hr20) (.c4 (Zj8 Z16 hb19) (AV.Le.refl _) (Zj8 Z16 hb19) (Z5b N r13 r20 r21 hr21) (.c2 rfl (Zj8 Z16 hb19) y5))))) 8 r21 rfl
   ·obtain rfl:=yl h
    exact LookTo.of_bor [] [4,3] [aa,aa, yg [vi r14],aa,aa, yg [vi r15],aa,aa,aa,aa, yg [dv (.bool r17)],aa,aa, yg [dv (.bool r18)],aa, { h:=.pick true },aa,w0,w0,w0, { want:=false,h:=.pcall [] }, { h:=.pick false },aa] (by kernel_rfl:runBor prog 491 (partOf f6 [1,1,1,0]) [] [4,3] [aa,aa, yg [vi r14],aa,aa, yg [vi r15],aa,aa,aa,aa, yg [dv (.bool r17)],aa,aa, yg [dv (.bool r18)],aa, { h:=.pick true },aa,w0,w0,w0, { want:=false,h:=.pcall [] }, { h:=.pick false },aa] { fr:=([.bad,.bad,(da (.sl 7 (p2.map Z02))),(.v (.one (.ptr 3 0))),(.v (.one (.ptr 4 0))),.bad,.bad,(da (.sl 7 (r13.map Z02)))]++bads 59),obs:=[(4,.var (Z0d p1)),(3,.var (Z0d p0))] }=some ({ fr:=([.bad,.bad,(da (.sl 7 (p2.map Z02))),(.v (.one (.ptr 3 0))),(.v (.one (.ptr 4 0))),.bad,.bad,(da (.sl 7 (r13.map Z02))),(da (.bool false))]++bads 16++[(ai r14),.bad,.bad,(ai r15),(da (.bool (r14 == r15))),(da (.bool (r14 == r15))),.bad,.bad,(da (.bool r17)),.bad,.bad,(da (.bool r18)),(da (.bool (r17 == r18))),(da (.bool (r17 == r18))),(da (.bool (r17 == r18)))]++bads 4++[(da (.bool false))]++bads 22),obs:=[(4,.var (Z0d p1)),(3,.var (Z0d p0))] },[True,True,Ziz prog 16 [.v (.agg (Z0a p0)),.v (.agg (Z0a p1))] [vi r14],True,True,Ziz prog 24 [.v (.agg (Z0a p0)),.v (.agg (Z0a p1))] [vi r15],(r14 == r15)=true,True,(r14 == r15)=true,True,(r14 == r15)=true,Ziz prog 17 [.v (.agg (Z0a p0)),.v (.agg (Z0a p1))] [dv (.bool r17)],(r14 == r15)=true,True,(r14 == r15)=true,True,(r14 == r15)=true,Ziz prog 25 [.v (.agg (Z0a p0)),.v (.agg (Z0a p1))] [dv (.bool r18)],(r14 == r15)=true,(r14 == r15)=true,(r17 == r18)=false,(r17 == r18)=false,(r17 == r18)=false,(r17 == r18)=false,AV.Le (.tup []) (.tup []),(r17 == r18)=false,(r17 == r18)=false])) (.c8 y7 y7 (Z1m N p0 p1 r14 hr14) y7 y7 (Z5z N p0 p1 r15 hr15) (Zj8 Z03 hb16) y7 (.c8 (Zj8 Z03 hb16) y7 (Zj8 Z03 hb16) (Z3b N p0 p1 r17 hr17) (Zj8 Z03 hb16) y7 (Zj8 Z03 hb16) y7 (.c8 (Zj8 Z03 hb16) (Z5q N p0 p1 r18 hr18) (Zj8 Z03 hb16) (Zj8 Z03 hb16) (Z01 Z16 hb19) (Z01 Z16 hb19) (Z01 Z16 hb19) (Z01 Z16 hb19) (.c2 (AV.Le.refl _) (Z01 Z16 hb19) (.cons (Z01 Z16 hb19) y5))))) 8 false rfl
  ·obtain rfl:=yl h
   exact LookTo.of_bor [] [4,3] [aa,aa, yg [vi r14],aa,aa, yg [vi r15],aa,aa,w0,w0, { want:=false,h:=.pcall [] },w0,w0, { want:=false,h:=.pcall [] },w0, { h:=.pick false },aa,w0,w0,w0, { want:=false,h:=.pcall [] }, { h:=.pick false },aa] (by kernel_rfl:runBor prog 491 (partOf f6 [1,1,1,0]) [] [4,3] [aa,aa, yg [vi r14],aa,aa, yg [vi r15],aa,aa,w0,w0, { want:=false,h:=.pcall [] },w0,w0, { want:=false,h:=.pcall [] },w0, { h:=.pick false },aa,w0,w0,w0, { want:=false,h:=.pcall [] }, { h:=.pick false },aa] { fr:=([.bad,.bad,(da (.sl 7 (p2.map Z02))),(.v (.one (.ptr 3 0))),(.v (.one (.ptr 4 0))),.bad,.bad,(da (.sl 7 (r13.map Z02)))]++bads 59),obs:=[(4,.var (Z0d p1)),(3,.var (Z0d p0))] }=some ({ fr:=([.bad,.bad,(da (.sl 7 (p2.map Z02))),(.v (.one (.ptr 3 0))),(.v (.one (.ptr 4 0))),.bad,.bad,(da (.sl 7 (r13.map Z02))),(da (.bool false))]++bads 16++[(ai r14),.bad,.bad,(ai r15),(da (.bool (r14 == r15))),(da (.bool (r14 == r15)))]++bads 7++[(da (.bool false)),(da (.bool false))]++bads 4++[(da (.bool false))]++bads 22),obs:=[(4,.var (Z0d p1)),(3,.var (Z0d p0))] },[True,True,Ziz prog 16 [.v (.agg (Z0a p0)),.v (.agg (Z0a p1))] [vi r14],True,True,Ziz prog 24 [.v (.agg (Z0a p0)),.v (.agg (Z0a p1))] [vi r15],(r14 == r15)=false,(r14 == r15)=false,(r14 == r15)=false,(r14 == r15)=false,(r14 == r15)=false,(r14 == r15)=false,(r14 == r15)=false,(r14 == r15)=false,ag,ag,ag,ag,AV.Le (.tup []) (.tup []),ag,ag])) (.c8 y7 y7 (Z1m N p0 p1 r14 hr14) y7 y7 (Z5z N p0 p1 r15 hr15) (Z01 Z03 hb16) (Z01 Z03 hb16) (.c8 (Z01 Z03 hb16) (Z01 Z03 hb16) (Z01 Z03 hb16) (Z01 Z03 hb16) (Z01 Z03 hb16) (Z01 Z03 hb16) rfl rfl (.c4 rfl rfl (AV.Le.refl _) rfl (.cons rfl y5)))) 8 false rfl
def Z5c (r:Bool):List PV:=[dv (.bool r)]
end Go.Proofs.Ytllcnlonkloabaa.Sh
