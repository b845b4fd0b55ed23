import Derived.Test.YtllcnlonkloabaaSh0
set_option linter.unusedVariables false
set_option linter.unusedSimpArgs false
set_option maxRecDepth 100000
namespace Go.Proofs.Ytllcnlonkloabaa.Sh
open Go Lift Go.Proofs Go.Proofs.Try
open Go.IntKind (wrap)
def term_right_1_fin (r:Bool):List PV:=[dv (.bool r)]
def Z1y (p0:(List Z00)) (v8:Int):St:={ fr:=([(da (.sl 7 (p0.map Z02))),(.v (.one (.fn 70 [])))]++bads 5++[(ai (p0.length:Int)),(ai v8)]++bads 10),obs:=[] }
def Z3x (p0:(List Z00)) (o:Unit):St:={ fr:=bads 19,obs:=[] }
def Z3y (p0:(List Z00)) (o:Int):St:={ fr:=(bads 4++[(ai o)]++bads 14),obs:=[] }
def Z7x (r:Int):List PV:=[vi r]
def Z71 (r:Bool):List PV:=[dv (.bool r)]
def term_right_B0_H (p0:Z00):St:={ fr:=([.bad,(.v (.one (.ptr 1 0))),.bad,(da (.bool false))]++bads 85),obs:=[(1,.var (Z0d p0))] }
def Z8v (p0:Z00) (o:Bool):St:={ fr:=([.bad,(.v (.one (.ptr 1 0))),.bad,(da (.bool o))]++bads 85),obs:=[(1,.var (Z0d p0))] }
def Zh3 (r:Bool):List PV:=[dv (.bool r)]
mutual
def term_right_1:Nat→Z00→Option Bool
 |0,_=>none
 |N+1,p0=>(term_right N p0).bind fun r1=>some (!r1)
def slices_IndexFunc_api_Term_api_Term_L0:Nat→(List Z00)→Int→Option ((Unit) ⊕ (Int))
 |0,_,_=>none
 |N+1,p0,v8=>if v8 < (p0.length:Int) then (idx p0 v8).bind fun x2=>(term_right_1 N x2).bind fun r3=>if r3=true then some (.inr v8) else slices_IndexFunc_api_Term_api_Term_L0 N p0 (wrap .i64 (v8+(1:Int))) else some (.inl ())
def slices_IndexFunc_api_Term_api_Term:Nat→(List Z00)→Option Int
 |0,_=>none
 |N+1,p0=>(slices_IndexFunc_api_Term_api_Term_L0 N p0 (0:Int)).bind fun r5=>(match r5 with | .inl r6=>some (-1:Int) | .inr r7=>some r7)
def slices_ContainsFunc_api_Term_api_Term:Nat→(List Z00)→Option Bool
 |0,_=>none
 |N+1,p0=>(slices_IndexFunc_api_Term_api_Term N p0).bind fun r1=>some (decide (r1 ≥ (0:Int)))
def term_right_B0:Nat→Z00→Option (Bool)
 |0,_=>none
 |N+1,p0=>if p0.fKind=(1:Int) then if p0.fN ≥ (-1152921504606846976:Int) then some (decide (p0.fN≤(1152921504606846975:Int))) else some false else if p0.fKind=(2:Int) then (Zey N p0.fNum).bind fun r4=>(Zbr N p0.fNum).bind fun r5=>if r5=true then some (!r4.2) else some false else if p0.fKind=(3:Int) then (real_May N p0.fBits).bind fun r8=>some r8 else if p0.fKind=(4:Int) then if p0.fN ≥ (0:Int) then some (decide (p0.fN≤(255:Int))) else some false else if p0.fKind=(5:Int) then if p0.fN ≥ (0:Int) then some (decide (p0.fN≤(63:Int))) else some false else if p0.fKind=(6:Int) then some (decide ((p0.fArgs.length:Int)≤(8:Int))) else if p0.fKind=(8:Int) then some ((p0.fArgs.length:Int) == (2:Int)) else if p0.fKind=(7:Int) then some true else if p0.fKind=(9:Int) then some (decide ((p0.fBytes.size:Int)≤(400:Int))) else some false
def term_right:Nat→Z00→Option Bool
 |0,_=>none
 |N+1,p0=>(term_right_B0 N p0).bind fun r17=>if r17=true then (Zif N p0).bind fun r19=>if r19=true then (slices_ContainsFunc_api_Term_api_Term N p0.fArgs).bind fun r21=>some (!r21) else some false else some false
end
structure term_right_1_all (N:Nat):Prop where
 term_right_1:∀ (p0:Z00) (r:Bool),term_right_1 N p0=some r→Ziz prog 70 [.v (.agg (Z0a p0))] (term_right_1_fin r)
 slices_IndexFunc_api_Term_api_Term_L0:∀ (p0:(List Z00)) (v8:Int) (r:((Unit) ⊕ (Int))),slices_IndexFunc_api_Term_api_Term_L0 N p0 v8=some r→match r with | .inl o=>Zj0 prog 227 (partOf f76 [1,0,1,0,0]) (Z1y p0 v8) (.exit 0) (Z3x p0 o) | .inr o=>Zj0 prog 227 (partOf f76 [1,0,1,0,0]) (Z1y p0 v8) .ret (Z3y p0 o)
 slices_IndexFunc_api_Term_api_Term:∀ (p0:(List Z00)) (r:Int),slices_IndexFunc_api_Term_api_Term N p0=some r→Ziz prog 76 [dv (.sl 7 (p0.map Z02)),.v (.one (.fn 70 []))] (Z7x r)
 slices_ContainsFunc_api_Term_api_Term:∀ (p0:(List Z00)) (r:Bool),slices_ContainsFunc_api_Term_api_Term N p0=some r→Ziz prog 44 [dv (.sl 7 (p0.map Z02)),.v (.one (.fn 70 []))] (Z71 r)
 term_right_B0:∀ (p0:Z00) (r:(Bool)),term_right_B0 N p0=some r→Ziw prog 777 (partOf f37 [1,1,0]) (term_right_B0_H p0 ) .normal (Z8v p0 r)
 term_right:∀ (p0:Z00) (r:Bool),term_right N p0=some r→Ziz prog 37 [.v (.agg (Z0a p0))] (Zh3 r)
theorem Zek:∀ N,term_right_1_all N:=by
 intro N
 induction N with
 |zero =>
  constructor
  ·intro p0 r h; rw [term_right_1] at h; cases h
  ·intro p0 v8 r h; rw [slices_IndexFunc_api_Term_api_Term_L0] at h; cases h
  ·intro p0 r h; rw [slices_IndexFunc_api_Term_api_Term] at h; cases h
  ·intro p0 r h; rw [slices_ContainsFunc_api_Term_api_Term] at h; cases h
  ·intro p0 r h; rw [term_right_B0] at h; cases h
  ·intro p0 r h; rw [term_right] at h; cases h
 |succ N ih =>
  constructor
  ·intro p0 r h
   rw [term_right_1] at h
   obtain ⟨r1,hr1,h⟩:=yj h
   obtain rfl:=yl h
   exact y9 142 [af,.reg [aa, yg [dv (.bool r1)],aa,aa]] func70 (.c2 y7 ((ih.term_right) p0 r1 hr1) y5)
  ·intro p0 v8 r h
   rw [slices_IndexFunc_api_Term_api_Term_L0] at h
   rcases Z07 h with ⟨hb1,h⟩ | ⟨hb1,h⟩
   ·obtain ⟨x2,hx2,h⟩:=yj h
    obtain ⟨r3,hr3,h⟩:=yj h
    rcases Z07 h with ⟨hb4,h⟩ | ⟨hb4,h⟩
    ·obtain rfl:=yl h
     exact Zj0.out (y8 [ak,ah,af,.reg [aa,aa,aa, { cast:=some (.v (.one (.fptr (Z13 x2)))) },aa, yg [dv (.bool r3)]],ah,af,.adj [.keep [4] []]] (.c4 (Zj8 Z06 hb1) (Z0m (r:=Z02) hx2) (Z0i hx2 (Z0b x2)) y7 (.c2 ((ih.term_right_1) x2 r3 hr3) (Zj8 Z04 hb4) y5))) (by simp)
    ·have hl:=ih.slices_IndexFunc_api_Term_api_Term_L0 p0 (wrap .i64 (v8+(1:Int))) _ h
     have ha:=Ziw.of_run [ak,ah,af,.reg [aa,aa,aa, { cast:=some (.v (.one (.fptr (Z13 x2)))) },aa, yg [dv (.bool r3)]],ae,af,.adj [.keep [0,1,7,8] []]] (by kernel_rfl:runTo prog 227 (partOf f76 [1,0,1,0,0]) _ (Z1y p0 v8)=some (.normal,(Z1y p0 (wrap .i64 (v8+(1:Int)))),_)) (.c4 (Zj8 Z06 hb1) (Z0m (r:=Z02) hx2) (Z0i hx2 (Z0b x2)) y7 (.c2 ((ih.term_right_1) x2 r3 hr3) (Z01 Z04 hb4) y5))
     rcases r with o | o <;> exact Zj0.again ha hl
   ·obtain rfl:=yl h
    exact Zj0.out (y8 [ak,ae,.adj [.keep [] []]] (.cons (Z01 Z06 hb1) y5)) (by simp)
  ·intro p0 r h
   rw [slices_IndexFunc_api_Term_api_Term] at h
   obtain ⟨r5,hr5,h⟩:=yj h
   rcases r5 with r6 | r7
   ·obtain rfl:=yl h
    exact y9 227 [ak,.reg [aa, { cast:=some (ai (p0.length:Int)) },aa],.adj [.keep [0,1,7,8] []],.cut (.exit 0) (Z3x p0 r6),ak] func76 (.c2 (Zjk (r:=Z02) (xs:=p0)) (Ziw.of_loop ((ih.slices_IndexFunc_api_Term_api_Term_L0) p0 (0:Int) (.inl r6) hr5)) y5)
   ·obtain rfl:=yl h
    exact y9 227 [ak,.reg [aa, { cast:=some (ai (p0.length:Int)) },aa],.adj [.keep [0,1,7,8] []],.cut .ret (Z3y p0 r7)] func76 (.c2 (Zjk (r:=Z02) (xs:=p0)) (Ziw.of_loop ((ih.slices_IndexFunc_api_Term_api_Term_L0) p0 (0:Int) (.inr r7) hr5)) y5)
  ·intro p0 r h
   rw [slices_ContainsFunc_api_Term_api_Term] at h
   obtain ⟨r1,hr1,h⟩:=yj h
   obtain rfl:=yl h
   exact y9 145 [ak,.reg [aa,aa, yg [vi r1],aa,aa]] func44 (.cons ((ih.slices_IndexFunc_api_Term_api_Term) p0 r1 hr1) y5)
  ·intro p0 r h
   rw [term_right_B0] at h
   rcases Z07 h with ⟨hb1,h⟩ | ⟨hb1,h⟩
   ·rcases Z07 h with ⟨hb2,h⟩ | ⟨hb2,h⟩
    ·obtain rfl:=yl h
     exact y8 [af,af,ah,.reg [aa,aa,aa,aa,aa,aa,aa, { h:=.pick true },aa],.adj [.keep [1,3] [1]]] (.c8 y7 (Zj8 Z03 hb1) y7 (Zj8 Z06 hb2) (Zj8 Z06 hb2) y7 (Zj8 Z06 hb2) (Zj8 Z06 hb2) y5)
    ·obtain rfl:=yl h
     exact y8 [af,af,ah,.reg [aa,aa,aa,aa,w0,w0,w0, { h:=.pick false },aa],.adj [.keep [1,3] [1]]] (.c4 y7 (Zj8 Z03 hb1) y7 (Z01 Z06 hb2) (.c2 (Z01 Z06 hb2) (Z01 Z06 hb2) (.cons (Z01 Z06 hb2) y5)))
   ·rcases Z07 h with ⟨hb3,h⟩ | ⟨hb3,h⟩
    ·obtain ⟨r4,hr4,h⟩:=yj h
     obtain ⟨r5,hr5,h⟩:=yj h
     rcases Z07 h with ⟨hb6,h⟩ | ⟨hb6,h⟩
     ·obtain rfl:=yl h
      exact y8 [af,af,ae,af,ah,.reg [aa,aa, yg [vi r4.1,dv (.bool r4.2)],aa,aa,aa,aa,aa],.reg [aa,aa, yg [dv (.bool r5)],aa,aa,aa, { h:=.pick true },aa],.adj [.keep [1,3] [1]]] (.c8 y7 (Z01 Z03 hb1) (Zj8 Z03 hb3) y7 (Zat N p0.fNum r4 hr4) y7 (Z25 N p0.fNum r5 hr5) (Zj8 Z04 hb6) (.c2 (Zj8 Z04 hb6) (Zj8 Z04 hb6) y5))
     ·obtain rfl:=yl h
      exact y8 [af,af,ae,af,ah,.reg [aa,aa, yg [vi r4.1,dv (.bool r4.2)],aa,aa,aa,aa,aa],.reg [aa,aa, yg [dv (.bool r5)],aa,w0,w0, { h:=.pick false },aa],.adj [.keep [1,3] [1]]] (.c8 y7 (Z01 Z03 hb1) (Zj8 Z03 hb3) y7 (Zat N p0.fNum r4 hr4) y7 (Z25 N p0.fNum r5 hr5) (Z01 Z04 hb6) (.c2 (Z01 Z04 hb6) (Z01 Z04 hb6) y5))
    ·rcases Z07 h with ⟨hb7,h⟩ | ⟨hb7,h⟩
     ·obtain ⟨r8,hr8,h⟩:=yj h
      obtain rfl:=yl h
      exact y8 [af,af,ae,af,ae,af,ah,.reg [aa,aa, yg [dv (.bool r8)],aa],.adj [.keep [1,3] [1]]] (.c4 y7 (Z01 Z03 hb1) (Z01 Z03 hb3) (Zj8 Z03 hb7) (.c2 y7 (real_May_spec N p0.fBits r8 hr8) y5))
     ·rcases Z07 h with ⟨hb9,h⟩ | ⟨hb9,h⟩
      ·rcases Z07 h with ⟨hb10,h⟩ | ⟨hb10,h⟩
       ·obtain rfl:=yl h
        exact y8 [af,af,ae,af,ae,af,ae,af,ah,.reg [aa,aa,aa,aa,aa,aa,aa, { h:=.pick true },aa],.adj [.keep [1,3] [1]]] (.c8 y7 (Z01 Z03 hb1) (Z01 Z03 hb3) (Z01 Z03 hb7) (Zj8 Z03 hb9) y7 (Zj8 Z06 hb10) (Zj8 Z06 hb10) (.c2 y7 (Zj8 Z06 hb10) (.cons (Zj8 Z06 hb10) y5)))
       ·obtain rfl:=yl h
        exact y8 [af,af,ae,af,ae,af,ae,af,ah,.reg [aa,aa,aa,aa,w0,w0,w0, { h:=.pick false },aa],.adj [.keep [1,3] [1]]] (.c8 y7 (Z01 Z03 hb1) (Z01 Z03 hb3) (Z01 Z03 hb7) (Zj8 Z03 hb9) y7 (Z01 Z06 hb10) (Z01 Z06 hb10) (.c2 (Z01 Z06 hb10) (Z01 Z06 hb10) y5))
      ·rcases Z07 h with ⟨hb11,h⟩ | ⟨hb11,h⟩
       ·rcases Z07 h with ⟨hb12,h⟩ | ⟨hb12,h⟩
        ·obtain rfl:=yl h
         exact y8 [af,af,ae,af,ae,af,ae,af,ae,af,ah,.reg [aa,aa,aa,aa,aa,aa,aa, { h:=.pick true },aa],.adj [.keep [1,3] [1]]] (.c8 y7 (Z01 Z03 hb1) (Z01 Z03 hb3) (Z01 Z03 hb7) (Z01 Z03 hb9) (Zj8 Z03 hb11) y7 (Zj8 Z06 hb12) (.c4 (Zj8 Z06 hb12) y7 (Zj8 Z06 hb12) (Zj8 Z06 hb12) y5))
        ·obtain rfl:=yl h
         exact y8 [af,af,ae,af,ae,af,ae,af,ae,af,ah,.reg [aa,aa,aa,aa,w0,w0,w0, { h:=.pick false },aa],.adj [.keep [1,3] [1]]] (.c8 y7 (Z01 Z03 hb1) (Z01 Z03 hb3) (Z01 Z03 hb7) (Z01 Z03 hb9) (Zj8 Z03 hb11) y7 (Z01 Z06 hb12) (.c2 (Z01 Z06 hb12) (Z01 Z06 hb12) (.cons (Z01 Z06 hb12) y5)))
       ·rcases Z07 h with ⟨hb13,h⟩ | ⟨hb13,h⟩
        ·obtain rfl:=yl h
         exact y8 [af,af,ae,af,ae,af,ae,af,ae,af,ae,af,ah,.reg [aa,aa, { cast:=some (ai (p0.fArgs.length:Int)) },aa,aa],.adj [.keep [1,3] [1]]] (.c8 y7 (Z01 Z03 hb1) (Z01 Z03 hb3) (Z01 Z03 hb7) (Z01 Z03 hb9) (Z01 Z03 hb11) (Zj8 Z03 hb13) y7 (.cons (Zjk (r:=Z02) (xs:=p0.fArgs)) y5))
        ·rcases Z07 h with ⟨hb14,h⟩ | ⟨hb14,h⟩
         ·obtain rfl:=yl h
          exact y8 [af,af,ae,af,ae,af,ae,af,ae,af,ae,af,ae,af,ah,.reg [aa,aa, { cast:=some (ai (p0.fArgs.length:Int)) },aa,aa],.adj [.keep [1,3] [1]]] (.c8 y7 (Z01 Z03 hb1) (Z01 Z03 hb3) (Z01 Z03 hb7) (Z01 Z03 hb9) (Z01 Z03 hb11) (Z01 Z03 hb13) (Zj8 Z03 hb14) (.c2 y7 (Zjk (r:=Z02) (xs:=p0.fArgs)) y5))
         ·rcases Z07 h with ⟨hb15,h⟩ | ⟨hb15,h⟩
          ·obtain rfl:=yl h
           exact y8 [af,af,ae,af,ae,af,ae,af,ae,af,ae,af,ae,af,ae,af,ah,ak,.adj [.keep [1,3] [1]]] (.c8 y7 (Z01 Z03 hb1) (Z01 Z03 hb3) (Z01 Z03 hb7) (Z01 Z03 hb9) (Z01 Z03 hb11) (Z01 Z03 hb13) (Z01 Z03 hb14) (.cons (Zj8 Z03 hb15) y5))
          ·rcases Z07 h with ⟨hb16,h⟩ | ⟨hb16,h⟩
           ·obtain rfl:=yl h
            exact y8 [af,af,ae,af,ae,af,ae,af,ae,af,ae,af,ae,af,ae,af,ae,af,ah,.reg (e 5),.adj [.keep [1,3] [1]]] (.c8 y7 (Z01 Z03 hb1) (Z01 Z03 hb3) (Z01 Z03 hb7) (Z01 Z03 hb9) (Z01 Z03 hb11) (Z01 Z03 hb13) (Z01 Z03 hb14) (.c2 (Z01 Z03 hb15) (Zj8 Z03 hb16) (.cons y7 y5)))
           ·obtain rfl:=yl h
            exact y8 [af,af,ae,af,ae,af,ae,af,ae,af,ae,af,ae,af,ae,af,ae,af,ae,.adj [.keep [1,3] [1]]] (.c8 y7 (Z01 Z03 hb1) (Z01 Z03 hb3) (Z01 Z03 hb7) (Z01 Z03 hb9) (Z01 Z03 hb11) (Z01 Z03 hb13) (Z01 Z03 hb14) (.c2 (Z01 Z03 hb15) (Z01 Z03 hb16) y5))
  ·intro p0 r h
   rw [term_right] at h
   obtain ⟨r17,hr17,h⟩:=yj h
   rcases Z07 h with ⟨hb18,h⟩ | ⟨hb18,h⟩
   ·obtain ⟨r19,hr19,h⟩:=yj h
    rcases Z07 h with ⟨hb20,h⟩ | ⟨hb20,h⟩
    ·obtain ⟨r21,hr21,h⟩:=yj h
     obtain rfl:=yl h
     exact y9 777 [af,ak,.deep 1 [.keep [1,3] [1]] .normal (Z8v p0 r17),.reg [aa,aa,aa, yg [dv (.bool r19)], { h:=.pick true },aa,aa,aa, yg [dv (.bool r21)],aa, { h:=.pick true },aa]] func37 (.c8 ((ih.term_right_B0) p0 r17 hr17) (Zj8 Z04 hb18) y7 (Zj8 Z04 hb18) (Zgz N p0 r19 hr19) (Zj8 Z04 hb18) (Zj8 Z04 hb20) (Zj8 Z04 hb20) (.c4 y7 (Zj8 Z04 hb20) ((ih.slices_ContainsFunc_api_Term_api_Term) p0.fArgs r21 hr21) (Zj8 Z04 hb20) (.cons (Zj8 Z04 hb20) y5)))
    ·obtain rfl:=yl h
     exact y9 777 [af,ak,.deep 1 [.keep [1,3] [1]] .normal (Z8v p0 r17),.reg [aa,aa,aa, yg [dv (.bool r19)], { h:=.pick true },aa,w0,w0,w0,w0, { h:=.pick false },aa]] func37 (.c8 ((ih.term_right_B0) p0 r17 hr17) (Zj8 Z04 hb18) y7 (Zj8 Z04 hb18) (Zgz N p0 r19 hr19) (Zj8 Z04 hb18) (Z01 Z04 hb20) (Z01 Z04 hb20) (.c2 (Z01 Z04 hb20) (Z01 Z04 hb20) (.cons (Z01 Z04 hb20) y5)))
   ·obtain rfl:=yl h
    exact y9 777 [af,ak,.deep 1 [.keep [1,3] [1]] .normal (Z8v p0 r17),.reg [aa,aa,w0,w0, { h:=.pick false },aa,w0,w0,w0,w0, { h:=.pick false },aa]] func37 (.c8 ((ih.term_right_B0) p0 r17 hr17) (Z01 Z04 hb18) (Z01 Z04 hb18) (Z01 Z04 hb18) yf yf yf yf (.cons yf y5))
theorem term_right_spec (N:Nat) (p0:Z00) (r:Bool) (h:term_right N p0=some r):Ziz prog 37 [.v (.agg (Z0a p0))] (Zh3 r):=(Zek N).term_right p0 r h
def term_May_fin (r:Bool):List PV:=[dv (.bool r)]
def Zdy (N:Nat) (p0:Z00):Option Bool:=(Zc8 N p0).bind fun r1=>if r1≤(300:Int) then (term_right N p0).bind fun r3=>some r3 else some false
theorem Z44 (N:Nat) (p0:Z00) (r:Bool) (h:Zdy N p0=some r):Ziz prog 15 [.v (.agg (Z0a p0))] (term_May_fin r):=by
 unfold Zdy at h
 obtain ⟨r1,hr1,h⟩:=yj h
 rcases Z07 h with ⟨hb2,h⟩ | ⟨hb2,h⟩
 ·obtain ⟨r3,hr3,h⟩:=yj h
  obtain rfl:=yl h
  exact y9 170 [af,.reg [aa, yg [vi r1],aa,aa,aa, yg [dv (.bool r3)], { h:=.pick true },aa]] func15 (.c4 y7 (Zd9 N p0 r1 hr1) (Zj8 Z06 hb2) y7 (.c2 (Zj8 Z06 hb2) (term_right_spec N p0 r3 hr3) (.cons (Zj8 Z06 hb2) y5)))
 ·obtain rfl:=yl h
  exact y9 170 [af,.reg [aa, yg [vi r1],aa,aa,w0,w0, { h:=.pick false },aa]] func15 (.c4 y7 (Zd9 N p0 r1 hr1) (Z01 Z06 hb2) (Z01 Z06 hb2) (.cons (Z01 Z06 hb2) y5))
def order_class_fin (r:Int):List PV:=[vi r]
def Zbs (N:Nat) (p0:Int):Option Int:=if p0=(1:Int) then some (0:Int) else if p0=(2:Int) then some (0:Int) else if p0=(3:Int) then some (0:Int) else some p0
theorem Z1r (N:Nat) (p0:Int) (r:Int) (h:Zbs N p0=some r):Ziz prog 72 [vi p0] (order_class_fin r):=by
 unfold Zbs at h
 rcases Z07 h with ⟨hb1,h⟩ | ⟨hb1,h⟩
 ·obtain rfl:=yl h
  exact y9 175 [ak,ak,af,ah,ah,ak] func72 (.c2 (Zj8 Z03 hb1) (Zj8 Z03 hb1) y5)
 ·rcases Z07 h with ⟨hb2,h⟩ | ⟨hb2,h⟩
  ·obtain rfl:=yl h
   exact y9 175 [ak,ak,af,ae,af,ah,ah,ak] func72 (.c2 (Z01 Z03 hb1) (Zj8 Z03 hb2) (.cons (Zj8 Z03 hb2) y5))
  ·rcases Z07 h with ⟨hb3,h⟩ | ⟨hb3,h⟩
   ·obtain rfl:=yl h
    exact y9 175 [ak,ak,af,ae,af,ae,af,ah,ak] func72 (.c2 (Z01 Z03 hb1) (Z01 Z03 hb2) (.cons (Zj8 Z03 hb3) y5))
   ·obtain rfl:=yl h
    exact y9 175 [ak,ak,af,ae,af,ae,af,ae,af] func72 (.c2 (Z01 Z03 hb1) (Z01 Z03 hb2) (.cons (Z01 Z03 hb3) y5))
def cmp_isNaN_int_fin (r:Bool):List PV:=[dv (.bool r)]
def Zbg (N:Nat) (p0:Int):Option Bool:=some (p0 != p0)
theorem Z1q (N:Nat) (p0:Int) (r:Bool) (h:Zbg N p0=some r):Ziz prog 100 [vi p0] (cmp_isNaN_int_fin r):=by
 unfold Zbg at h
 obtain rfl:=yl h
 exact y9 136 [ak,.reg (e 4)] func100 y5
def Zhf (r:Int):List PV:=[vi r]
def Z56 (N:Nat) (p0:Int) (p1:Int):Option Int:=(Zbg N p0).bind fun r1=>(Zbg N p1).bind fun r2=>if r1=true then if r2=true then some (0:Int) else some (-1:Int) else if r2=true then some (1:Int) else if p0 < p1 then some (-1:Int) else if p0 > p1 then some (1:Int) else some (0:Int)
theorem Z1a (N:Nat) (p0:Int) (p1:Int) (r:Int) (h:Z56 N p0 p1=some r):Ziz prog 71 [vi p0,vi p1] (Zhf r):=by
 unfold Z56 at h
 obtain ⟨r1,hr1,h⟩:=yj h
 obtain ⟨r2,hr2,h⟩:=yj h
 rcases Z07 h with ⟨hb3,h⟩ | ⟨hb3,h⟩
 ·rcases Z07 h with ⟨hb4,h⟩ | ⟨hb4,h⟩
  ·obtain rfl:=yl h
   exact y9 252 [ak,.reg [aa, yg [dv (.bool r1)],aa],.reg [aa, yg [dv (.bool r2)],aa],ak,ah,ak,ah,ak] func71 (.c4 (Z1q N p0 r1 hr1) (Z1q N p1 r2 hr2) (Zj8 Z04 hb3) (Zj8 Z04 hb4) y5)
  ·obtain rfl:=yl h
   exact y9 252 [ak,.reg [aa, yg [dv (.bool r1)],aa],.reg [aa, yg [dv (.bool r2)],aa],ak,ah,ak,ae,ak] func71 (.c4 (Z1q N p0 r1 hr1) (Z1q N p1 r2 hr2) (Zj8 Z04 hb3) (Z01 Z04 hb4) y5)
 ·rcases Z07 h with ⟨hb5,h⟩ | ⟨hb5,h⟩
  ·obtain rfl:=yl h
   exact y9 252 [ak,.reg [aa, yg [dv (.bool r1)],aa],.reg [aa, yg [dv (.bool r2)],aa],ak,ae,ak,ah,ak] func71 (.c4 (Z1q N p0 r1 hr1) (Z1q N p1 r2 hr2) (Z01 Z04 hb3) (Zj8 Z04 hb5) y5)
  ·rcases Z07 h with ⟨hb6,h⟩ | ⟨hb6,h⟩
   ·obtain rfl:=yl h
    exact y9 252 [ak,.reg [aa, yg [dv (.bool r1)],aa],.reg [aa, yg [dv (.bool r2)],aa],ak,ae,ak,ae,ay,ah,ak] func71 (.c4 (Z1q N p0 r1 hr1) (Z1q N p1 r2 hr2) (Z01 Z04 hb3) (Z01 Z04 hb5) (.cons (Zj8 Z06 hb6) y5))
   ·rcases Z07 h with ⟨hb7,h⟩ | ⟨hb7,h⟩
    ·obtain rfl:=yl h
     exact y9 252 [ak,.reg [aa, yg [dv (.bool r1)],aa],.reg [aa, yg [dv (.bool r2)],aa],ak,ae,ak,ae,ay,ae,ay,ah,ak] func71 (.c4 (Z1q N p0 r1 hr1) (Z1q N p1 r2 hr2) (Z01 Z04 hb3) (Z01 Z04 hb5) (.c2 (Z01 Z06 hb6) (Zj8 Z06 hb7) y5))
    ·obtain rfl:=yl h
     exact y9 252 [ak,.reg [aa, yg [dv (.bool r1)],aa],.reg [aa, yg [dv (.bool r2)],aa],ak,ae,ak,ae,ay,ae,ay,ae,ak] func71 (.c4 (Z1q N p0 r1 hr1) (Z1q N p1 r2 hr2) (Z01 Z04 hb3) (Z01 Z04 hb5) (.c2 (Z01 Z06 hb6) (Z01 Z06 hb7) y5))
def term_Num_fin (r:(Z08 × Bool)):List PV:=[az r.1.fNeg r.1.fMag,dv (.bool r.2)]
def Zfw (N:Nat) (p0:Z00):Option (Z08 × Bool):=(Zdy N p0).bind fun r1=>if ¬ (r1=true) then some ((Z08.mk false []),false) else if p0.fKind=(1:Int) then (num_Of N p0.fN).bind fun r4=>some (r4,true) else if p0.fKind=(2:Int) then (Z1s N p0.fNum.fMag).bind fun r6=>some ((Z08.mk p0.fNum.fNeg r6),true) else some ((Z08.mk false []),false)
theorem Z5m (N:Nat) (p0:Z00) (r:(Z08 × Bool)) (h:Zfw N p0=some r):Ziz prog 86 [.v (.agg (Z0a p0))] (term_Num_fin r):=by
 unfold Zfw at h
 obtain ⟨r1,hr1,h⟩:=yj h
 rcases Z07 h with ⟨hb2,h⟩ | ⟨hb2,h⟩
 ·obtain rfl:=yl h
  exact y9 324 [ay,.reg [aa, yg [dv (.bool r1)],aa],ah,ay,.adj [.ob 2 (.var [.d (.bool false),.d (.sl 1 [])])]] func86 (.c4 y7 (Z44 N p0 r1 hr1) (Zj8 (Z09 Z04) hb2) y7 (.c2 (Ob.Le.var (All2.cons (AC.Le.refl _) (All2.cons (AC.Le.d (C.Le.nils 1)) (All2.nil))):Ob.Le (.var [.d (.bool false),.d (.nils)]) (.var [.d (.bool false),.d (.sl 1 [])])) y7 y5))
 ·rcases Z07 h with ⟨hb3,h⟩ | ⟨hb3,h⟩
  ·obtain ⟨r4,hr4,h⟩:=yj h
   obtain rfl:=yl h
   exact y9 324 [ay,.reg [aa, yg [dv (.bool r1)],aa],ae,af,af,ah,.reg [aa,aa, yg [az r4.fNeg r4.fMag],aa,aa]] func86 (.c8 y7 (Z44 N p0 r1 hr1) (Z01 (Z09 Z04) hb2) y7 (Zj8 Z03 hb3) y7 (num_Of_spec N p0.fN r4 hr4) y7 (.cons y7 y5))
  ·rcases Z07 h with ⟨hb5,h⟩ | ⟨hb5,h⟩
   ·obtain ⟨r6,hr6,h⟩:=yj h
    obtain rfl:=yl h
    exact y9 324 [ay,.reg [aa, yg [dv (.bool r1)],aa],ae,af,af,ae,af,ah,.reg [aa,aa,aa,aa,aa,aa, { h:=.call 182 [.v (.one (ax r6))] [] },aa,aa,aa],.adj [.fz 182]] func86 (.c8 y7 (Z44 N p0 r1 hr1) (Z01 (Z09 Z04) hb2) y7 (Z01 Z03 hb3) (Zj8 Z03 hb5) y7 y7 (.c8 (Z31 N p0.fNum.fMag r6 hr6) (AV.Le.refl (.v (.one (.ptr 1 2)))) (AV.Le.refl (.v (.one (.ptr 1 2)))) y7 (AV.Le.refl (da (.bool p0.fNum.fNeg))) y7 (⟨rfl,rfl⟩:(1:Nat)=1∧aj r6) (⟨rfl,rfl⟩:(1:Nat)=1∧aj r6) (.c2 (⟨rfl,rfl⟩:(1:Nat)=1∧aj r6) y7 y5)))
   ·obtain rfl:=yl h
    exact y9 324 [ay,.reg [aa, yg [dv (.bool r1)],aa],ae,af,af,ae,af,ae,ay,.adj [.ob 2 (.var [.d (.bool false),.d (.sl 1 [])])]] func86 (.c8 y7 (Z44 N p0 r1 hr1) (Z01 (Z09 Z04) hb2) y7 (Z01 Z03 hb3) (Z01 Z03 hb5) y7 (Ob.Le.var (All2.cons (AC.Le.refl _) (All2.cons (AC.Le.d (C.Le.nils 1)) (All2.nil))):Ob.Le (.var [.d (.bool false),.d (.nils)]) (.var [.d (.bool false),.d (.sl 1 [])])) (.cons y7 y5))
def Zgn (r:Bool):List PV:=[dv (.bool r)]
def Z8w (N:Nat) (p0:Int):Option Bool:=some (p0 != p0)
theorem Z1b (N:Nat) (p0:Int) (r:Bool) (h:Z8w N p0=some r):Ziz prog 162 [dv (.int .u32 p0)] (Zgn r):=by
 unfold Z8w at h
 obtain rfl:=yl h
 exact y9 136 [ak,.reg (e 4)] func162 y5
def Zer (r:Int):List PV:=[vi r]
def Z77 (N:Nat) (p0:Int) (p1:Int):Option Int:=(Z8w N p0).bind fun r1=>(Z8w N p1).bind fun r2=>if r1=true then if r2=true then some (0:Int) else some (-1:Int) else if r2=true then some (1:Int) else if p0 < p1 then some (-1:Int) else if p0 > p1 then some (1:Int) else some (0:Int)
theorem Za0 (N:Nat) (p0:Int) (p1:Int) (r:Int) (h:Z77 N p0 p1=some r):Ziz prog 151 [dv (.int .u32 p0),dv (.int .u32 p1)] (Zer r):=by
 unfold Z77 at h
 obtain ⟨r1,hr1,h⟩:=yj h
 obtain ⟨r2,hr2,h⟩:=yj h
 rcases Z07 h with ⟨hb3,h⟩ | ⟨hb3,h⟩
 ·rcases Z07 h with ⟨hb4,h⟩ | ⟨hb4,h⟩
  ·obtain rfl:=yl h
   exact y9 252 [ak,.reg [aa, yg [dv (.bool r1)],aa],.reg [aa, yg [dv (.bool r2)],aa],ak,ah,ak,ah,ak] func151 (.c4 (Z1b N p0 r1 hr1) (Z1b N p1 r2 hr2) (Zj8 Z04 hb3) (Zj8 Z04 hb4) y5)
  ·obtain rfl:=yl h
   exact y9 252 [ak,.reg [aa, yg [dv (.bool r1)],aa],.reg [aa, yg [dv (.bool r2)],aa],ak,ah,ak,ae,ak] func151 (.c4 (Z1b N p0 r1 hr1) (Z1b N p1 r2 hr2) (Zj8 Z04 hb3) (Z01 Z04 hb4) y5)
 ·rcases Z07 h with ⟨hb5,h⟩ | ⟨hb5,h⟩
  ·obtain rfl:=yl h
   exact y9 252 [ak,.reg [aa, yg [dv (.bool r1)],aa],.reg [aa, yg [dv (.bool r2)],aa],ak,ae,ak,ah,ak] func151 (.c4 (Z1b N p0 r1 hr1) (Z1b N p1 r2 hr2) (Z01 Z04 hb3) (Zj8 Z04 hb5) y5)
  ·rcases Z07 h with ⟨hb6,h⟩ | ⟨hb6,h⟩
   ·obtain rfl:=yl h
    exact y9 252 [ak,.reg [aa, yg [dv (.bool r1)],aa],.reg [aa, yg [dv (.bool r2)],aa],ak,ae,ak,ae,ay,ah,ak] func151 (.c4 (Z1b N p0 r1 hr1) (Z1b N p1 r2 hr2) (Z01 Z04 hb3) (Z01 Z04 hb5) (.cons (Zj8 Z06 hb6) y5))
   ·rcases Z07 h with ⟨hb7,h⟩ | ⟨hb7,h⟩
    ·obtain rfl:=yl h
     exact y9 252 [ak,.reg [aa, yg [dv (.bool r1)],aa],.reg [aa, yg [dv (.bool r2)],aa],ak,ae,ak,ae,ay,ae,ay,ah,ak] func151 (.c4 (Z1b N p0 r1 hr1) (Z1b N p1 r2 hr2) (Z01 Z04 hb3) (Z01 Z04 hb5) (.c2 (Z01 Z06 hb6) (Zj8 Z06 hb7) y5))
    ·obtain rfl:=yl h
     exact y9 252 [ak,.reg [aa, yg [dv (.bool r1)],aa],.reg [aa, yg [dv (.bool r2)],aa],ak,ae,ak,ae,ay,ae,ay,ae,ak] func151 (.c4 (Z1b N p0 r1 hr1) (Z1b N p1 r2 hr2) (Z01 Z04 hb3) (Z01 Z04 hb5) (.c2 (Z01 Z06 hb6) (Z01 Z06 hb7) y5))
def Z9p (p0:(List Int)) (p1:(List Int)) (v6:Int):St:={ fr:=([(da (.sl 1 (p0.map (rI .u32)))),(da (.sl 1 (p1.map (rI .u32))))]++bads 4++[(ai v6)]++bads 28),obs:=[] }
def Zee (p0:(List Int)) (p1:(List Int)) (o:Unit):St:={ fr:=bads 35,obs:=[] }
def Zed (p0:(List Int)) (p1:(List Int)) (o:Int):St:={ fr:=(bads 4++[(ai o)]++bads 30),obs:=[] }
def Z5l:Nat→(List Int)→(List Int)→Int→Option ((Unit) ⊕ (Int))
 |0,_,_,_=>none
 |N+1,p0,p1,v6=>if v6 ≥ (0:Int) then (idx p0 v6).bind fun x4=>(idx p1 v6).bind fun x5=>(Z77 N x4 x5).bind fun r6=>if r6 ≠ (0:Int) then some (.inr r6) else Z5l N p0 p1 (wrap .i64 (v6 - (1:Int))) else some (.inl ())
theorem Zci:∀ (N:Nat) (p0:(List Int)) (p1:(List Int)) (v6:Int) (r:((Unit) ⊕ (Int))),Z5l N p0 p1 v6=some r→match r with | .inl o=>Zj0 prog 345 (partOf f134 [1,1,0,1,0,0]) (Z9p p0 p1 v6) (.exit 0) (Zee p0 p1 o) | .inr o=>Zj0 prog 345 (partOf f134 [1,1,0,1,0,0]) (Z9p p0 p1 v6) .ret (Zed p0 p1 o):=by
 intro N
 induction N with
 |zero=>intro p0 p1 v6 r h; cases h
 |succ N ih =>
  intro p0 p1 v6 r h
  rw [Z5l] at h
  rcases Z07 h with ⟨hb3,h⟩ | ⟨hb3,h⟩
  ·obtain ⟨x4,hx4,h⟩:=yj h
   obtain ⟨x5,hx5,h⟩:=yj h
   obtain ⟨r6,hr6,h⟩:=yj h
   rcases Z07 h with ⟨hb7,h⟩ | ⟨hb7,h⟩
   ·obtain rfl:=yl h
    exact Zj0.out (y8 [af,ah,.reg [aa,aa, { cast:=some (.v (.one (.fptr [.int .u32 x4]))) },aa,aa,aa, { cast:=some (.v (.one (.fptr [.int .u32 x5]))) },aa, yg [vi r6],aa],af,ah,af,.adj [.keep [4] []]] (.c8 (Zj8 Z06 hb3) (Z0m hx4:0≤v6∧v6 < (((p0.map (rI .u32)).length:Nat):Int)) (Z0i hx4 rfl:AV.Le (.v (.one (.fptr ((List.range 1).map fun j=>((p0.map (rI .u32)).getD (Int.toNat v6) []).getD j .nils)))) (.v (.one (.fptr [.int .u32 x4])))) y7 (Z0m hx5:0≤v6∧v6 < (((p1.map (rI .u32)).length:Nat):Int)) (Z0i hx5 rfl:AV.Le (.v (.one (.fptr ((List.range 1).map fun j=>((p1.map (rI .u32)).getD (Int.toNat v6) []).getD j .nils)))) (.v (.one (.fptr [.int .u32 x5])))) y7 (Za0 N x4 x5 r6 hr6) (.cons (Zj8 Z0h hb7) y5))) (by simp)
   ·have hl:=ih p0 p1 (wrap .i64 (v6 - (1:Int))) _ h
    have ha:=Ziw.of_run [af,ah,.reg [aa,aa, { cast:=some (.v (.one (.fptr [.int .u32 x4]))) },aa,aa,aa, { cast:=some (.v (.one (.fptr [.int .u32 x5]))) },aa, yg [vi r6],aa],af,ae,ay,.adj [.keep [0,1,6] []]] (by kernel_rfl:runTo prog 345 (partOf f134 [1,1,0,1,0,0]) _ (Z9p p0 p1 v6)=some (.normal,(Z9p p0 p1 (wrap .i64 (v6 - (1:Int)))),_)) (.c8 (Zj8 Z06 hb3) (Z0m hx4:0≤v6∧v6 < (((p0.map (rI .u32)).length:Nat):Int)) (Z0i hx4 rfl:AV.Le (.v (.one (.fptr ((List.range 1).map fun j=>((p0.map (rI .u32)).getD (Int.toNat v6) []).getD j .nils)))) (.v (.one (.fptr [.int .u32 x4])))) y7 (Z0m hx5:0≤v6∧v6 < (((p1.map (rI .u32)).length:Nat):Int)) (Z0i hx5 rfl:AV.Le (.v (.one (.fptr ((List.range 1).map fun j=>((p1.map (rI .u32)).getD (Int.toNat v6) []).getD j .nils)))) (.v (.one (.fptr [.int .u32 x5])))) y7 (Za0 N x4 x5 r6 hr6) (.cons (Z01 Z0h hb7) y5))
    rcases r with o | o <;> exact Zj0.again ha hl
  ·obtain rfl:=yl h
   exact Zj0.out (y8 [af,ae,.adj [.keep [] []]] (.cons (Z01 Z06 hb3) y5)) (by simp)
def num_cmpMag_fin (r:Int):List PV:=[vi r]
def Zdd (N:Nat) (p0:(List Int)) (p1:(List Int)):Option Int:=(Z56 N (p0.length:Int) (p1.length:Int)).bind fun r1=>if r1 ≠ (0:Int) then some r1 else (Z5l N p0 p1 (wrap .i64 ((p0.length:Int) - (1:Int)))).bind fun r8=>(match r8 with | .inl r9=>some (0:Int) | .inr r10=>some r10)
theorem Zet (N:Nat) (p0:(List Int)) (p1:(List Int)) (r:Int) (h:Zdd N p0 p1=some r):Ziz prog 134 [dv (.sl 1 (p0.map (rI .u32))),dv (.sl 1 (p1.map (rI .u32)))] (num_cmpMag_fin r):=by
 unfold Zdd at h
 obtain ⟨r1,hr1,h⟩:=yj h
 rcases Z07 h with ⟨hb2,h⟩ | ⟨hb2,h⟩
 ·obtain rfl:=yl h
  exact y9 345 [ak,.reg [aa, { cast:=some (ai (p0.length:Int)) },aa, { cast:=some (ai (p1.length:Int)) }, yg [vi r1],aa],af,ah,af] func134 (.c4 (Zjk:AV.Le (ai (((p0.map (rI .u32)).length:Nat):Int)) (ai (p0.length:Int))) (Zjk:AV.Le (ai (((p1.map (rI .u32)).length:Nat):Int)) (ai (p1.length:Int))) (Z1a N (p0.length:Int) (p1.length:Int) r1 hr1) (Zj8 Z0h hb2) y5)
 ·obtain ⟨r8,hr8,h⟩:=yj h
  rcases r8 with r9 | r10
  ·obtain rfl:=yl h
   exact y9 345 [ak,.reg [aa, { cast:=some (ai (p0.length:Int)) },aa, { cast:=some (ai (p1.length:Int)) }, yg [vi r1],aa],af,ae,.reg [aa, { cast:=some (ai (p0.length:Int)) },aa,aa],.adj [.keep [0,1,6] []],.cut (.exit 0) (Zee p0 p1 r9),ak] func134 (.c4 (Zjk:AV.Le (ai (((p0.map (rI .u32)).length:Nat):Int)) (ai (p0.length:Int))) (Zjk:AV.Le (ai (((p1.map (rI .u32)).length:Nat):Int)) (ai (p1.length:Int))) (Z1a N (p0.length:Int) (p1.length:Int) r1 hr1) (Z01 Z0h hb2) (.c2 (Zjk:AV.Le (ai (((p0.map (rI .u32)).length:Nat):Int)) (ai (p0.length:Int))) (Ziw.of_loop (Zci N p0 p1 (wrap .i64 ((p0.length:Int) - (1:Int))) (.inl r9) hr8)) y5))
  ·obtain rfl:=yl h
   exact y9 345 [ak,.reg [aa, { cast:=some (ai (p0.length:Int)) },aa, { cast:=some (ai (p1.length:Int)) }, yg [vi r1],aa],af,ae,.reg [aa, { cast:=some (ai (p0.length:Int)) },aa,aa],.adj [.keep [0,1,6] []],.cut .ret (Zed p0 p1 r10)] func134 (.c4 (Zjk:AV.Le (ai (((p0.map (rI .u32)).length:Nat):Int)) (ai (p0.length:Int))) (Zjk:AV.Le (ai (((p1.map (rI .u32)).length:Nat):Int)) (ai (p1.length:Int))) (Z1a N (p0.length:Int) (p1.length:Int) r1 hr1) (Z01 Z0h hb2) (.c2 (Zjk:AV.Le (ai (((p0.map (rI .u32)).length:Nat):Int)) (ai (p0.length:Int))) (Ziw.of_loop (Zci N p0 p1 (wrap .i64 ((p0.length:Int) - (1:Int))) (.inr r10) hr8)) y5))
def num_Cmp_B0_H (p0:Z08) (p1:Z08):St:={ fr:=([.bad,.bad,(.v (.one (.ptr 2 0))),(.v (.one (.ptr 3 0)))]++bads 39),obs:=[(3,.var [.d (.bool p1.fNeg),.d (.sl 1 (p1.fMag.map (rI .u32)))]),(2,.var [.d (.bool p0.fNeg),.d (.sl 1 (p0.fMag.map (rI .u32)))])] }
def Z81 (p0:Z08) (p1:Z08) (o:Bool):St:={ fr:=([.bad,.bad,(.v (.one (.ptr 2 0))),(.v (.one (.ptr 3 0))),.bad,(da (.bool o))]++bads 37),obs:=[(3,.var [.d (.bool p1.fNeg),.d (.sl 1 (p1.fMag.map (rI .u32)))]),(2,.var [.d (.bool p0.fNeg),.d (.sl 1 (p0.fMag.map (rI .u32)))])] }
def Zdi:Nat→Z08→Z08→Option (Bool)
 |0,_,_=>none
 |N+1,p0,p1=>(Zbr N p0).bind fun r1=>if ¬ (r1=true) then some true else (Zbr N p1).bind fun r3=>some (!r3)
theorem Z7s:∀ (N:Nat) (p0:Z08) (p1:Z08) (r:(Bool)),Zdi N p0 p1=some r→Ziw prog 419 (partOf f101 [1,0,0,0]) (num_Cmp_B0_H p0 p1 ) .normal (Z81 p0 p1 r):=by
 intro N
 induction N with
 |zero=>intro p0 p1 r h; cases h
 |succ N ih =>
  intro p0 p1 r h
  rw [Zdi] at h
  obtain ⟨r1,hr1,h⟩:=yj h
  rcases Z07 h with ⟨hb2,h⟩ | ⟨hb2,h⟩
  ·obtain rfl:=yl h
   exact y8 [.reg [aa, yg [dv (.bool r1)],aa,aa,w0,w0,w0, { h:=.pick true },aa],.adj [.keep [2,3,5] [3,2]]] (.c4 y7 (Z25 N p0 r1 hr1) (Zj8 (Z09 Z04) hb2) (Zj8 (Z09 Z04) hb2) (.c2 (Zj8 (Z09 Z04) hb2) (Zj8 (Z09 Z04) hb2) y5))
  ·obtain ⟨r3,hr3,h⟩:=yj h
   obtain rfl:=yl h
   exact y8 [.reg [aa, yg [dv (.bool r1)],aa,aa,aa, yg [dv (.bool r3)],aa, { h:=.pick false },aa],.adj [.keep [2,3,5] [3,2]]] (.c8 y7 (Z25 N p0 r1 hr1) (Z01 (Z09 Z04) hb2) y7 (Z01 (Z09 Z04) hb2) (Z25 N p1 r3 hr3) (Z01 (Z09 Z04) hb2) (Z01 (Z09 Z04) hb2) y5)
def num_Cmp_fin (r:Int):List PV:=[vi r]
def num_Cmp (N:Nat) (p0:Z08) (p1:Z08):Option Int:=(Zdi N p0 p1).bind fun r4=>if r4=true then some (0:Int) else if p0.fNeg ≠ p1.fNeg then if p0.fNeg=true then some (-1:Int) else some (1:Int) else if p0.fNeg=true then (Zdd N p1.fMag p0.fMag).bind fun r9=>some r9 else (Zdd N p0.fMag p1.fMag).bind fun r10=>some r10
theorem Zce (N:Nat) (p0:Z08) (p1:Z08) (r:Int) (h:num_Cmp N p0 p1=some r):Ziz prog 101 [az p0.fNeg p0.fMag,az p1.fNeg p1.fMag] (num_Cmp_fin r):=by
 unfold num_Cmp at h
 obtain ⟨r4,hr4,h⟩:=yj h
 rcases Z07 h with ⟨hb5,h⟩ | ⟨hb5,h⟩
 ·obtain rfl:=yl h
  exact y9 419 [ay,.adj [.keep [2,3] [3,2]],.cut .normal (Z81 p0 p1 r4),ah,ak] func101 (.c2 (Z7s N p0 p1 r4 hr4) (Zj8 Z04 hb5) y5)
 ·rcases Z07 h with ⟨hb6,h⟩ | ⟨hb6,h⟩
  ·rcases Z07 h with ⟨hb7,h⟩ | ⟨hb7,h⟩
   ·obtain rfl:=yl h
    exact y9 419 [ay,.adj [.keep [2,3] [3,2]],.cut .normal (Z81 p0 p1 r4),ae,.reg [aa,aa,aa,aa,aa,aa,aa,aa, { h:=.pick true },aa],ah,ak] func101 (.c8 (Z7s N p0 p1 r4 hr4) (Z01 Z04 hb5) y7 y7 (Zj8 Z6q hb6) (Zj8 Z6q hb6) y7 (Zj8 Z6q hb6) (.cons (Zj8 Z04 hb7) y5))
   ·obtain rfl:=yl h
    exact y9 419 [ay,.adj [.keep [2,3] [3,2]],.cut .normal (Z81 p0 p1 r4),ae,.reg [aa,aa,aa,aa,aa,aa,aa,aa, { h:=.pick true },aa],ae,.reg (e 6),ah,ak] func101 (.c8 (Z7s N p0 p1 r4 hr4) (Z01 Z04 hb5) y7 y7 (Zj8 Z6q hb6) (Zj8 Z6q hb6) y7 (Zj8 Z6q hb6) (.c4 (Z01 Z04 hb7) y7 y7 (Zj8 Z6q hb6) y5))
  ·rcases Z07 h with ⟨hb8,h⟩ | ⟨hb8,h⟩
   ·obtain ⟨r9,hr9,h⟩:=yj h
    obtain rfl:=yl h
    exact y9 419 [ay,.adj [.keep [2,3] [3,2]],.cut .normal (Z81 p0 p1 r4),ae,.reg [aa,aa,aa,aa,aa,aa,w0,w0, { h:=.pick false },aa],ae,.reg (e 6),ae,ay,ah,.reg [aa,aa,aa,aa, yg [vi r9],aa]] func101 (.c8 (Z7s N p0 p1 r4 hr4) (Z01 Z04 hb5) y7 y7 (Z01 Z6q hb6) (Z01 Z6q hb6) (Z01 Z6q hb6) yf (.c8 y7 y7 (Z01 Z6q hb6) y7 (Zj8 Z04 hb8) y7 y7 (Zet N p1.fMag p0.fMag r9 hr9) y5))
   ·obtain ⟨r10,hr10,h⟩:=yj h
    obtain rfl:=yl h
    exact y9 419 [ay,.adj [.keep [2,3] [3,2]],.cut .normal (Z81 p0 p1 r4),ae,.reg [aa,aa,aa,aa,aa,aa,w0,w0, { h:=.pick false },aa],ae,.reg (e 6),ae,ay,ae,.reg [aa,aa,aa,aa, yg [vi r10],aa]] func101 (.c8 (Z7s N p0 p1 r4 hr4) (Z01 Z04 hb5) y7 y7 (Z01 Z6q hb6) (Z01 Z6q hb6) (Z01 Z6q hb6) yf (.c8 y7 y7 (Z01 Z6q hb6) y7 (Z01 Z04 hb8) y7 y7 (Zet N p0.fMag p1.fMag r10 hr10) y5))
def math_Abs_fin (r:Nat):List PV:=[dv (.flt .f64 r)]
def math_Abs (N:Nat) (p0:Nat):Option Nat:=some (Int.toNat (bandn .u64 (p0:Int) (9223372036854775808:Int)))
theorem Zds (N:Nat) (p0:Nat) (r:Nat) (h:math_Abs N p0=some r):Ziz prog 163 [dv (.flt .f64 p0)] (math_Abs_fin r):=by
 unfold math_Abs at h
 obtain rfl:=yl h
 exact y9 143 [ak,.reg [aa, { h:=.ext (.int .u64 (p0:Int)) },aa, { h:=.ext (.float .f64 (Int.toNat (bandn .u64 (p0:Int) (9223372036854775808:Int)))) },aa]] func163 (.c2 (Z8u func131 (by kernel_rfl) (by kernel_rfl) (by kernel_rfl) (by kernel_rfl):Ziy prog 131 #[.float .f64 p0] (.int .u64 (p0:Int))) (Z23 func132 (by kernel_rfl) (by kernel_rfl) (by kernel_rfl) (by kernel_rfl):Ziy prog 132 #[.int .u64 (bandn .u64 (p0:Int) (9223372036854775808:Int))] (.float .f64 (Int.toNat (bandn .u64 (p0:Int) (9223372036854775808:Int))))) y5)
def math_IsInf_fin (r:Bool):List PV:=[dv (.bool r)]
def math_IsInf (N:Nat) (p0:Nat) (p1:Int):Option Bool:=if p1=(0:Int) then (math_Abs N p0).bind fun r2=>some (Lift.fgt r2 9218868437227405311) else if p1 < (0:Int) then some (Lift.fgt (Lift.fneg p0) 9218868437227405311) else some (Lift.fgt p0 9218868437227405311)
theorem Zbu (N:Nat) (p0:Nat) (p1:Int) (r:Bool) (h:math_IsInf N p0 p1=some r):Ziz prog 158 [dv (.flt .f64 p0),vi p1] (math_IsInf_fin r):=by
 unfold math_IsInf at h
 rcases Z07 h with ⟨hb1,h⟩ | ⟨hb1,h⟩
 ·obtain ⟨r2,hr2,h⟩:=yj h
  obtain rfl:=yl h
  exact y9 199 [ak,af,ah,.reg [aa, yg [dv (.flt .f64 r2)],aa],ay] func158 (.c2 (Zj8 Z03 hb1) (Zds N p0 r2 hr2) y5)
 ·rcases Z07 h with ⟨hb3,h⟩ | ⟨hb3,h⟩
  ·obtain rfl:=yl h
   exact y9 199 [ak,af,ae,af,ah,ay,ay] func158 (.c2 (Z01 Z03 hb1) (Zj8 Z06 hb3) y5)
  ·obtain rfl:=yl h
   exact y9 199 [ak,af,ae,af,ae,ay] func158 (.c2 (Z01 Z03 hb1) (Z01 Z06 hb3) y5)
def Zir (r:(Nat × Int)):List PV:=[dv (.flt .f64 r.1),vi r.2]
def Zco (N:Nat) (p0:Nat):Option (Nat × Int):=(math_Abs N p0).bind fun r1=>if Lift.flt r1 4503599627370496=true then (Lift.fmul p0 4841369599423283200).bind fun x3=>some (x3,(-52:Int)) else some (p0,(0:Int))
theorem Z52 (N:Nat) (p0:Nat) (r:(Nat × Int)) (h:Zco N p0=some r):Ziz prog 159 [dv (.flt .f64 p0)] (Zir r):=by
 unfold Zco at h
 obtain ⟨r1,hr1,h⟩:=yj h
 rcases Z07 h with ⟨hb2,h⟩ | ⟨hb2,h⟩
 ·obtain ⟨x3,hx3,h⟩:=yj h
  obtain rfl:=yl h
  exact y9 182 [af,.reg [aa, yg [dv (.flt .f64 r1)],aa],ah,.reg [aa, { h:=.flat (.float .f64 x3) },aa,aa]] func159 (.c2 (Zds N p0 r1 hr1) (Zj8 Z04 hb2) (.cons (fmul_told hx3:Zjs prog (do eqGuard .mul 102 (.tmp 7) (.const (.float .f64 4841369599423283200)) (.float .f64 p0) (.float .f64 4841369599423283200); binOp .mul 102 (.float .f64 p0) (.float .f64 4841369599423283200):Sem Value)=some (.float .f64 x3)) y5))
 ·obtain rfl:=yl h
  exact y9 182 [af,.reg [aa, yg [dv (.flt .f64 r1)],aa],ae,ay] func159 (.c2 (Zds N p0 r1 hr1) (Z01 Z04 hb2) y5)
def math_Copysign_fin (r:Nat):List PV:=[dv (.flt .f64 r)]
def Ze2 (N:Nat) (p0:Nat) (p1:Nat):Option Nat:=some (Int.toNat (bor .u64 (bandn .u64 (p0:Int) (9223372036854775808:Int)) (band .u64 (p1:Int) (9223372036854775808:Int))))
theorem Zip (N:Nat) (p0:Nat) (p1:Nat) (r:Nat) (h:Ze2 N p0 p1=some r):Ziz prog 160 [dv (.flt .f64 p0),dv (.flt .f64 p1)] (math_Copysign_fin r):=by
 unfold Ze2 at h
 obtain rfl:=yl h
 exact y9 173 [ak,.reg [aa, { h:=.ext (.int .u64 (p0:Int)) },aa,aa, { h:=.ext (.int .u64 (p1:Int)) },aa,aa, { h:=.ext (.float .f64 (Int.toNat (bor .u64 (bandn .u64 (p0:Int) (9223372036854775808:Int)) (band .u64 (p1:Int) (9223372036854775808:Int))))) },aa]] func160 (.c2 (Z8u func131 (by kernel_rfl) (by kernel_rfl) (by kernel_rfl) (by kernel_rfl):Ziy prog 131 #[.float .f64 p0] (.int .u64 (p0:Int))) (Z8u func131 (by kernel_rfl) (by kernel_rfl) (by kernel_rfl) (by kernel_rfl):Ziy prog 131 #[.float .f64 p1] (.int .u64 (p1:Int))) (.cons (Z23 func132 (by kernel_rfl) (by kernel_rfl) (by kernel_rfl) (by kernel_rfl):Ziy prog 132 #[.int .u64 (bor .u64 (bandn .u64 (p0:Int) (9223372036854775808:Int)) (band .u64 (p1:Int) (9223372036854775808:Int)))] (.float .f64 (Int.toNat (bor .u64 (bandn .u64 (p0:Int) (9223372036854775808:Int)) (band .u64 (p1:Int) (9223372036854775808:Int)))))) y5))
def math_Inf_fin (r:Nat):List PV:=[dv (.flt .f64 r)]
def math_Inf (N:Nat) (p0:Int):Option Nat:=if p0 ≥ (0:Int) then some (Int.toNat (9218868437227405312:Int)) else some (Int.toNat (18442240474082181120:Int))
theorem Zij (N:Nat) (p0:Int) (r:Nat) (h:math_Inf N p0=some r):Ziz prog 161 [vi p0] (math_Inf_fin r):=by
 unfold math_Inf at h
 rcases Z07 h with ⟨hb1,h⟩ | ⟨hb1,h⟩
 ·obtain rfl:=yl h
  exact y9 162 [ak,ak,af,ah,ak,.reg [aa, { h:=.ext (.float .f64 (Int.toNat (9218868437227405312:Int))) },aa]] func161 (.c2 (Zj8 Z06 hb1) (Z23 func132 (by kernel_rfl) (by kernel_rfl) (by kernel_rfl) (by kernel_rfl):Ziy prog 132 #[.int .u64 (9218868437227405312:Int)] (.float .f64 (Int.toNat (9218868437227405312:Int)))) y5)
 ·obtain rfl:=yl h
  exact y9 162 [ak,ak,af,ae,ak,.reg [aa, { h:=.ext (.float .f64 (Int.toNat (18442240474082181120:Int))) },aa]] func161 (.c2 (Z01 Z06 hb1) (Z23 func132 (by kernel_rfl) (by kernel_rfl) (by kernel_rfl) (by kernel_rfl):Ziy prog 132 #[.int .u64 (18442240474082181120:Int)] (.float .f64 (Int.toNat (18442240474082181120:Int)))) y5)
def Zf0 (p0:Nat) (p1:Int):St:={ fr:=([(da (.flt .f64 p0)),(ai p1)]++bads 61),obs:=[] }
def Z5f (p0:Nat) (p1:Int) (o:Unit):St:={ fr:=([(da (.flt .f64 p0)),(ai p1)]++bads 61),obs:=[] }
def Zec (p0:Nat) (p1:Int) (o:Unit):St:={ fr:=(bads 4++[(da (.flt .f64 p0))]++bads 58),obs:=[] }
def Ze9:Nat→Nat→Int→Option ((Unit) ⊕ (Unit))
 |0,_,_=>none
 |N+1,p0,p1=>if Lift.feq p0 0=true then some (.inr ()) else (math_IsInf N p0 (0:Int)).bind fun r2=>if r2=true then some (.inr ()) else (Zg3 N p0).bind fun r4=>if r4=true then some (.inr ()) else some (.inl ())
theorem Z4d:∀ (N:Nat) (p0:Nat) (p1:Int) (r:((Unit) ⊕ (Unit))),Ze9 N p0 p1=some r→match r with | .inl o=>Ziw prog 595 (partOf f150 [1,0]) (Zf0 p0 p1 ) .normal (Z5f p0 p1 o) | .inr o=>Ziw prog 595 (partOf f150 [1,0]) (Zf0 p0 p1 ) .ret (Zec p0 p1 o):=by
 intro N
 induction N with
 |zero=>intro p0 p1 r h; cases h
 |succ N ih =>
  intro p0 p1 r h
  rw [Ze9] at h
  rcases Z07 h with ⟨hb1,h⟩ | ⟨hb1,h⟩
  ·obtain rfl:=yl h
   exact y8 [ay,ah,af,.adj [.keep [4] []]] (.cons (Zj8 Z04 hb1) y5)
  ·obtain ⟨r2,hr2,h⟩:=yj h
   rcases Z07 h with ⟨hb3,h⟩ | ⟨hb3,h⟩
   ·obtain rfl:=yl h
    exact y8 [ay,ae,.reg [aa, yg [dv (.bool r2)],aa,w0,w0, { h:=.pick true },aa],ah,af,.adj [.keep [4] []]] (.c4 (Z01 Z04 hb1) (Zbu N p0 (0:Int) r2 hr2) (Zj8 Z04 hb3) (Zj8 Z04 hb3) (.c2 (Zj8 Z04 hb3) (Eq.refl true) y5))
   ·obtain ⟨r4,hr4,h⟩:=yj h
    rcases Z07 h with ⟨hb5,h⟩ | ⟨hb5,h⟩
    ·obtain rfl:=yl h
     exact y8 [ay,ae,.reg [aa, yg [dv (.bool r2)],aa,aa, yg [dv (.bool r4)], { h:=.pick false },aa],ah,af,.adj [.keep [4] []]] (.c4 (Z01 Z04 hb1) (Zbu N p0 (0:Int) r2 hr2) (Z01 Z04 hb3) (Z01 Z04 hb3) (.c2 (Zbo N p0 r4 hr4) (Z01 Z04 hb3) (.cons (Zj8 Z04 hb5) y5)))
    ·obtain rfl:=yl h
     exact y8 [ay,ae,.reg [aa, yg [dv (.bool r2)],aa,aa, yg [dv (.bool r4)], { h:=.pick false },aa],ae,.adj [.keep [0,1] []]] (.c4 (Z01 Z04 hb1) (Zbu N p0 (0:Int) r2 hr2) (Z01 Z04 hb3) (Z01 Z04 hb3) (.c2 (Zbo N p0 r4 hr4) (Z01 Z04 hb3) (.cons (Z01 Z04 hb5) y5)))
def math_ldexp_fin (r:Nat):List PV:=[dv (.flt .f64 r)]
def math_ldexp (N:Nat) (p0:Nat) (p1:Int):Option Nat:=(Ze9 N p0 p1).bind fun r6=>(match r6 with | .inl r7=>(Zco N p0).bind fun r9=>if (wrap .i64 ((wrap .i64 (p1+r9.2))+(wrap .i64 ((band .i64 (wrap .i64 (Int.fdiv (r9.1:Int) (yh 52))) (2047:Int)) - (1023:Int))))) < (-1075:Int) then (Ze2 N 0 r9.1).bind fun r11=>some r11 else if (wrap .i64 ((wrap .i64 (p1+r9.2))+(wrap .i64 ((band .i64 (wrap .i64 (Int.fdiv (r9.1:Int) (yh 52))) (2047:Int)) - (1023:Int))))) > (1023:Int) then if Lift.flt r9.1 0=true then (math_Inf N (-1:Int)).bind fun r14=>some r14 else (math_Inf N (1:Int)).bind fun r15=>some r15 else if (wrap .i64 ((wrap .i64 (p1+r9.2))+(wrap .i64 ((band .i64 (wrap .i64 (Int.fdiv (r9.1:Int) (yh 52))) (2047:Int)) - (1023:Int))))) < (-1022:Int) then (Lift.fmul 4368491638549381120 (Int.toNat (bor .u64 (bandn .u64 (r9.1:Int) (9218868437227405312:Int)) (wrap .u64 ((wrap .u64 (wrap .i64 ((wrap .i64 ((wrap .i64 ((wrap .i64 (p1+r9.2))+(wrap .i64 ((band .i64 (wrap .i64 (Int.fdiv (r9.1:Int) (yh 52))) (2047:Int)) - (1023:Int)))))+(53:Int)))+(1023:Int)))) * yh 52))))).bind fun x17=>some x17 else (Lift.fmul 4607182418800017408 (Int.toNat (bor .u64 (bandn .u64 (r9.1:Int) (9218868437227405312:Int)) (wrap .u64 ((wrap .u64 (wrap .i64 ((wrap .i64 ((wrap .i64 (p1+r9.2))+(wrap .i64 ((band .i64 (wrap .i64 (Int.fdiv (r9.1:Int) (yh 52))) (2047:Int)) - (1023:Int)))))+(1023:Int)))) * yh 52))))).bind fun x18=>some x18 | .inr r8=>some p0)
theorem math_ldexp_spec (N:Nat) (p0:Nat) (p1:Int) (r:Nat) (h:math_ldexp N p0 p1=some r):Ziz prog 150 [dv (.flt .f64 p0),vi p1] (math_ldexp_fin r):=by
 unfold math_ldexp at h
 obtain ⟨r6,hr6,h⟩:=yj h
 rcases r6 with r7 | r8
 ·obtain ⟨r9,hr9,h⟩:=yj h
  rcases Z07 h with ⟨hb10,h⟩ | ⟨hb10,h⟩
  ·obtain ⟨r11,hr11,h⟩:=yj h
   obtain rfl:=yl h
   exact y9 595 [ak,.deep 1 [.keep [0,1] []] .normal (Z5f p0 p1 r7),.reg [aa, yg [dv (.flt .f64 r9.1),vi r9.2],aa,aa,aa,aa,aa],.reg (e 4),.reg [aa, { h:=.ext (.int .u64 (r9.1:Int)) },aa],.reg (e 8),af,ah,.reg [aa, yg [dv (.flt .f64 r11)],aa]] func150 (.c4 (Z4d N p0 p1 (.inl r7) hr6) (Z52 N p0 r9 hr9) (Z8u func131 (by kernel_rfl) (by kernel_rfl) (by kernel_rfl) (by kernel_rfl):Ziy prog 131 #[.float .f64 r9.1] (.int .u64 (r9.1:Int))) (Zj8 Z06 hb10) (.cons (Zip N 0 r9.1 r11 hr11) y5))
  ·rcases Z07 h with ⟨hb12,h⟩ | ⟨hb12,h⟩
   ·rcases Z07 h with ⟨hb13,h⟩ | ⟨hb13,h⟩
    ·obtain ⟨r14,hr14,h⟩:=yj h
     obtain rfl:=yl h
     exact y9 595 [ak,.deep 1 [.keep [0,1] []] .normal (Z5f p0 p1 r7),.reg [aa, yg [dv (.flt .f64 r9.1),vi r9.2],aa,aa,aa,aa,aa],.reg (e 4),.reg [aa, { h:=.ext (.int .u64 (r9.1:Int)) },aa],.reg (e 8),af,ae,af,ah,af,ah,.reg [yg [dv (.flt .f64 r14)],aa]] func150 (.c4 (Z4d N p0 p1 (.inl r7) hr6) (Z52 N p0 r9 hr9) (Z8u func131 (by kernel_rfl) (by kernel_rfl) (by kernel_rfl) (by kernel_rfl):Ziy prog 131 #[.float .f64 r9.1] (.int .u64 (r9.1:Int))) (Z01 Z06 hb10) (.c2 (Zj8 Z06 hb12) (Zj8 Z04 hb13) (.cons (Zij N (-1:Int) r14 hr14) y5)))
    ·obtain ⟨r15,hr15,h⟩:=yj h
     obtain rfl:=yl h
     exact y9 595 [ak,.deep 1 [.keep [0,1] []] .normal (Z5f p0 p1 r7),.reg [aa, yg [dv (.flt .f64 r9.1),vi r9.2],aa,aa,aa,aa,aa],.reg (e 4),.reg [aa, { h:=.ext (.int .u64 (r9.1:Int)) },aa],.reg (e 8),af,ae,af,ah,af,ae,.reg [yg [dv (.flt .f64 r15)],aa]] func150 (.c4 (Z4d N p0 p1 (.inl r7) hr6) (Z52 N p0 r9 hr9) (Z8u func131 (by kernel_rfl) (by kernel_rfl) (by kernel_rfl) (by kernel_rfl):Ziy prog 131 #[.float .f64 r9.1] (.int .u64 (r9.1:Int))) (Z01 Z06 hb10) (.c2 (Zj8 Z06 hb12) (Z01 Z04 hb13) (.cons (Zij N (1:Int) r15 hr15) y5)))
   ·rcases Z07 h with ⟨hb16,h⟩ | ⟨hb16,h⟩
    ·obtain ⟨x17,hx17,h⟩:=yj h
     obtain rfl:=yl h
     exact y9 595 [ak,.deep 1 [.keep [0,1] []] .normal (Z5f p0 p1 r7),.reg [aa, yg [dv (.flt .f64 r9.1),vi r9.2],aa,aa,aa,aa,aa],.reg (e 4),.reg [aa, { h:=.ext (.int .u64 (r9.1:Int)) },aa],.reg (e 8),af,ae,af,ae,ak,af,ah,ay,ak,ay,.reg (e 7),.reg [aa,aa, { h:=.ext (.float .f64 (Int.toNat (bor .u64 (bandn .u64 (r9.1:Int) (9218868437227405312:Int)) (wrap .u64 ((wrap .u64 (wrap .i64 ((wrap .i64 ((wrap .i64 ((wrap .i64 (p1+r9.2))+(wrap .i64 ((band .i64 (wrap .i64 (Int.fdiv (r9.1:Int) (yh 52))) (2047:Int)) - (1023:Int)))))+(53:Int)))+(1023:Int)))) * yh 52))))) }, { h:=.flat (.float .f64 x17) },aa]] func150 (.c8 (Z4d N p0 p1 (.inl r7) hr6) (Z52 N p0 r9 hr9) (Z8u func131 (by kernel_rfl) (by kernel_rfl) (by kernel_rfl) (by kernel_rfl):Ziy prog 131 #[.float .f64 r9.1] (.int .u64 (r9.1:Int))) (Z01 Z06 hb10) (Z01 Z06 hb12) (Zj8 Z06 hb16) (Z23 func132 (by kernel_rfl) (by kernel_rfl) (by kernel_rfl) (by kernel_rfl):Ziy prog 132 #[.int .u64 (bor .u64 (bandn .u64 (r9.1:Int) (9218868437227405312:Int)) (wrap .u64 ((wrap .u64 (wrap .i64 ((wrap .i64 ((wrap .i64 ((wrap .i64 (p1+r9.2))+(wrap .i64 ((band .i64 (wrap .i64 (Int.fdiv (r9.1:Int) (yh 52))) (2047:Int)) - (1023:Int)))))+(53:Int)))+(1023:Int)))) * yh 52)))] (.float .f64 (Int.toNat (bor .u64 (bandn .u64 (r9.1:Int) (9218868437227405312:Int)) (wrap .u64 ((wrap .u64 (wrap .i64 ((wrap .i64 ((wrap .i64 ((wrap .i64 (p1+r9.2))+(wrap .i64 ((band .i64 (wrap .i64 (Int.fdiv (r9.1:Int) (yh 52))) (2047:Int)) - (1023:Int)))))+(53:Int)))+(1023:Int)))) * yh 52)))))) (fmul_told hx17:Zjs prog (do eqGuard .mul 102 (.tmp 59) (.tmp 61) (.float .f64 4368491638549381120) (.float .f64 (Int.toNat (bor .u64 (bandn .u64 (r9.1:Int) (9218868437227405312:Int)) (wrap .u64 ((wrap .u64 (wrap .i64 ((wrap .i64 ((wrap .i64 ((wrap .i64 (p1+r9.2))+(wrap .i64 ((band .i64 (wrap .i64 (Int.fdiv (r9.1:Int) (yh 52))) (2047:Int)) - (1023:Int)))))+(53:Int)))+(1023:Int)))) * yh 52))))); binOp .mul 102 (.float .f64 4368491638549381120) (.float .f64 (Int.toNat (bor .u64 (bandn .u64 (r9.1:Int) (9218868437227405312:Int)) (wrap .u64 ((wrap .u64 (wrap .i64 ((wrap .i64 ((wrap .i64 ((wrap .i64 (p1+r9.2))+(wrap .i64 ((band .i64 (wrap .i64 (Int.fdiv (r9.1:Int) (yh 52))) (2047:Int)) - (1023:Int)))))+(53:Int)))+(1023:Int)))) * yh 52))))):Sem Value)=some (.float .f64 x17)) y5)
    ·obtain ⟨x18,hx18,h⟩:=yj h
     obtain rfl:=yl h
     exact y9 595 [ak,.deep 1 [.keep [0,1] []] .normal (Z5f p0 p1 r7),.reg [aa, yg [dv (.flt .f64 r9.1),vi r9.2],aa,aa,aa,aa,aa],.reg (e 4),.reg [aa, { h:=.ext (.int .u64 (r9.1:Int)) },aa],.reg (e 8),af,ae,af,ae,ak,af,ae,ay,.reg (e 7),.reg [aa,aa, { h:=.ext (.float .f64 (Int.toNat (bor .u64 (bandn .u64 (r9.1:Int) (9218868437227405312:Int)) (wrap .u64 ((wrap .u64 (wrap .i64 ((wrap .i64 ((wrap .i64 (p1+r9.2))+(wrap .i64 ((band .i64 (wrap .i64 (Int.fdiv (r9.1:Int) (yh 52))) (2047:Int)) - (1023:Int)))))+(1023:Int)))) * yh 52))))) }, { h:=.flat (.float .f64 x18) },aa]] func150 (.c8 (Z4d N p0 p1 (.inl r7) hr6) (Z52 N p0 r9 hr9) (Z8u func131 (by kernel_rfl) (by kernel_rfl) (by kernel_rfl) (by kernel_rfl):Ziy prog 131 #[.float .f64 r9.1] (.int .u64 (r9.1:Int))) (Z01 Z06 hb10) (Z01 Z06 hb12) (Z01 Z06 hb16) (Z23 func132 (by kernel_rfl) (by kernel_rfl) (by kernel_rfl) (by kernel_rfl):Ziy prog 132 #[.int .u64 (bor .u64 (bandn .u64 (r9.1:Int) (9218868437227405312:Int)) (wrap .u64 ((wrap .u64 (wrap .i64 ((wrap .i64 ((wrap .i64 (p1+r9.2))+(wrap .i64 ((band .i64 (wrap .i64 (Int.fdiv (r9.1:Int) (yh 52))) (2047:Int)) - (1023:Int)))))+(1023:Int)))) * yh 52)))] (.float .f64 (Int.toNat (bor .u64 (bandn .u64 (r9.1:Int) (9218868437227405312:Int)) (wrap .u64 ((wrap .u64 (wrap .i64 ((wrap .i64 ((wrap .i64 (p1+r9.2))+(wrap .i64 ((band .i64 (wrap .i64 (Int.fdiv (r9.1:Int) (yh 52))) (2047:Int)) - (1023:Int)))))+(1023:Int)))) * yh 52)))))) (fmul_told hx18:Zjs prog (do eqGuard .mul 102 (.tmp 59) (.tmp 61) (.float .f64 4607182418800017408) (.float .f64 (Int.toNat (bor .u64 (bandn .u64 (r9.1:Int) (9218868437227405312:Int)) (wrap .u64 ((wrap .u64 (wrap .i64 ((wrap .i64 ((wrap .i64 (p1+r9.2))+(wrap .i64 ((band .i64 (wrap .i64 (Int.fdiv (r9.1:Int) (yh 52))) (2047:Int)) - (1023:Int)))))+(1023:Int)))) * yh 52))))); binOp .mul 102 (.float .f64 4607182418800017408) (.float .f64 (Int.toNat (bor .u64 (bandn .u64 (r9.1:Int) (9218868437227405312:Int)) (wrap .u64 ((wrap .u64 (wrap .i64 ((wrap .i64 ((wrap .i64 (p1+r9.2))+(wrap .i64 ((band .i64 (wrap .i64 (Int.fdiv (r9.1:Int) (yh 52))) (2047:Int)) - (1023:Int)))))+(1023:Int)))) * yh 52))))):Sem Value)=some (.float .f64 x18)) y5)
 ·obtain rfl:=yl h
  exact y9 595 [ak,.deep 1 [.keep [0,1] []] .ret (Zec p0 p1 r8)] func150 (.cons (Z4d N p0 p1 (.inr r8) hr6) y5)
def math_Ldexp_fin (r:Nat):List PV:=[dv (.flt .f64 r)]
def Zg0 (N:Nat) (p0:Nat) (p1:Int):Option Nat:=(math_ldexp N p0 p1).bind fun r1=>some r1
theorem Z3c (N:Nat) (p0:Nat) (p1:Int) (r:Nat) (h:Zg0 N p0 p1=some r):Ziz prog 122 [dv (.flt .f64 p0),vi p1] (math_Ldexp_fin r):=by
 unfold Zg0 at h
 obtain ⟨r1,hr1,h⟩:=yj h
 obtain rfl:=yl h
 exact y9 165 [ak,ae,.reg [aa,aa, yg [dv (.flt .f64 r1)],aa]] func122 (.c2 yf (math_ldexp_spec N p0 p1 r1 hr1) y5)
def math_Trunc_fin (r:Nat):List PV:=[dv (.flt .f64 r)]
def math_Trunc (N:Nat) (p0:Nat):Option Nat:=(Lift.ftrunc p0).bind fun x1=>some x1
theorem Zbz (N:Nat) (p0:Nat) (r:Nat) (h:math_Trunc N p0=some r):Ziz prog 135 [dv (.flt .f64 p0)] (math_Trunc_fin r):=by
 unfold math_Trunc at h
 obtain ⟨x1,hx1,h⟩:=yj h
 obtain rfl:=yl h
 exact y9 149 [ak,ah,.reg [aa, { h:=.ext (.float .f64 x1) },aa]] func135 (.c2 (Eq.refl true) (ext_trunc func152 (by kernel_rfl) (by kernel_rfl) (by kernel_rfl) (by kernel_rfl) hx1:Ziy prog 152 #[.float .f64 p0] (.float .f64 x1)) y5)
def real_whole_L0_H (p0:Nat) (x3:Int) (a18:(List Int)) (v26:Int):St:={ fr:=([(da (.flt .f64 p0)),.bad,(.v (.one (.ptr 2 0))),.bad,(da (.int .u64 x3)),(ai (0:Int)),(.v (.one (.vw 18 1 0 ((a18.map (rI .u32)).length))))]++bads 19++[(ai v26)]++bads 48),obs:=[(18,.arr 1 (a18.map (rI .u32)) true),(2,.var [.d (.bool false),.d (.nils)])] }
def Zba (p0:Nat) (x3:Int) (o:(List Int)):St:={ fr:=([(da (.flt .f64 p0)),.bad,(.v (.one (.ptr 2 0))),.bad,.bad,.bad,(.v (.one (.vw 18 1 0 ((o.map (rI .u32)).length))))]++bads 68),obs:=[(18,.arr 1 (o.map (rI .u32)) true),(2,.var [.d (.bool false),.d (.nils)])] }
def Z6n:Nat→Nat→Int→(List Int)→Int→Option (List Int)
 |0,_,_,_,_=>none
 |N+1,p0,x3,a18,v26=>if v26 < (53:Int) then (shr .u64 x3 v26).bind fun x5=>if (band .u64 x5 (1:Int))=(1:Int) then (idx a18 (wrap .i64 (Int.tdiv (wrap .i64 ((0:Int)+v26)) (32:Int)))).bind fun x7=>(shl .u32 (1:Int) (Int.tmod (wrap .i64 ((0:Int)+v26)) (32:Int))).bind fun x8=>(idx a18 (wrap .i64 (Int.tdiv (wrap .i64 ((0:Int)+v26)) (32:Int)))).bind fun x9=>Z6n N p0 x3 (a18.set ((wrap .i64 (Int.tdiv (wrap .i64 ((0:Int)+v26)) (32:Int))).toNat) (bor .u32 x7 x8)) (wrap .i64 (v26+(1:Int))) else Z6n N p0 x3 a18 (wrap .i64 (v26+(1:Int))) else some a18
theorem Zcn:∀ (N:Nat) (p0:Nat) (x3:Int) (a18:(List Int)) (v26:Int) (r:(List Int)),Z6n N p0 x3 a18 v26=some r→Zj0 prog 649 (partOf f136 [1,1,1,1,1,0,1,0,0]) (real_whole_L0_H p0 x3 a18 v26) (.exit 0) (Zba p0 x3 r):=by
 intro N
 induction N with
 |zero=>intro p0 x3 a18 v26 r h; cases h
 |succ N ih =>
  intro p0 x3 a18 v26 r h
  rw [Z6n] at h
  rcases Z07 h with ⟨hb4,h⟩ | ⟨hb4,h⟩
  ·obtain ⟨x5,hx5,h⟩:=yj h
   rcases Z07 h with ⟨hb6,h⟩ | ⟨hb6,h⟩
   ·obtain ⟨x7,hx7,h⟩:=yj h
    obtain ⟨x8,hx8,h⟩:=yj h
    obtain ⟨x9,hx9,h⟩:=yj h
    exact Zj0.again (y8 [ak,ah,af,.reg [aa,aa, { h:=.flat (.int .u64 x5) },aa,aa],ah,.reg [aa,aa,aa,aa,aa,aa, { cast:=some (da (.int .u32 x7)) },aa,aa,aa,aa, { h:=.flat (.int .u32 x8) },aa,aa,aa],.adj [.ob 18 (.arr 1 ((a18.set ((wrap .i64 (Int.tdiv (wrap .i64 ((0:Int)+v26)) (32:Int))).toNat) (bor .u32 x7 x8)).map (rI .u32)) true),.slot 6 (.v (.one (.vw 18 1 0 (((a18.set ((wrap .i64 (Int.tdiv (wrap .i64 ((0:Int)+v26)) (32:Int))).toNat) (bor .u32 x7 x8)).map (rI .u32)).length)))),.slot 34 (.v (.one (.vw 18 1 0 (((a18.set ((wrap .i64 (Int.tdiv (wrap .i64 ((0:Int)+v26)) (32:Int))).toNat) (bor .u32 x7 x8)).map (rI .u32)).length))))],af,.adj [.keep [0,2,4,5,6,26] [18,2]]] (.c8 (Zj8 Z06 hb4) (Zga hx5:Zjs prog (do eqGuard .shr 27 (.tmp 29) (.tmp 30) (.int .u64 x3) (.int .i64 v26); binOp .shr 27 (.int .u64 x3) (.int .i64 v26):Sem Value)=some (.int .u64 x5)) (Zj8 Z03 hb6) (Z0m hx7:0≤wrap .i64 (Int.tdiv (wrap .i64 ((0:Int)+v26)) (32:Int))∧wrap .i64 (Int.tdiv (wrap .i64 ((0:Int)+v26)) (32:Int)) < (((a18.map (rI .u32)).length:Nat):Int)) (⟨Zjy (Z2c hx7).2.2,by decide⟩:(wrap .i64 (Int.tdiv (wrap .i64 ((0:Int)+v26)) (32:Int))).toNat < (a18.map (rI .u32)).length∧0≤1) (Zjx (fun l=>(da (l.getD 0 .nils))) (Z2c hx7).2.2 rfl:AV.Le (da (((a18.map (rI .u32)).getD ((wrap .i64 (Int.tdiv (wrap .i64 ((0:Int)+v26)) (32:Int))).toNat) []).getD 0 .nils)) (da (.int .u32 x7))) (shl_told hx8:Zjs prog (do eqGuard .shl 65 (.const (.int .u32 1)) (.tmp 44) (.int .u32 (1:Int)) (.int .i64 (Int.tmod (wrap .i64 ((0:Int)+v26)) (32:Int))); binOp .shl 65 (.int .u32 (1:Int)) (.int .i64 (Int.tmod (wrap .i64 ((0:Int)+v26)) (32:Int))):Sem Value)=some (.int .u32 x8)) (Z0m hx9:0≤wrap .i64 (Int.tdiv (wrap .i64 ((0:Int)+v26)) (32:Int))∧wrap .i64 (Int.tdiv (wrap .i64 ((0:Int)+v26)) (32:Int)) < (((a18.map (rI .u32)).length:Nat):Int)) (.c4 (Zjy (Z2c hx9).2.2:(wrap .i64 (Int.tdiv (wrap .i64 ((0:Int)+v26)) (32:Int))).toNat < (a18.map (rI .u32)).length) (Z42 (Eq.symm (show ((a18.map (rI .u32)).set ((wrap .i64 (Int.tdiv (wrap .i64 ((0:Int)+v26)) (32:Int))).toNat) (Zjw ((a18.map (rI .u32)).getD ((wrap .i64 (Int.tdiv (wrap .i64 ((0:Int)+v26)) (32:Int))).toNat) []) 0 [.int .u32 (bor .u32 x7 x8)] 1))=((a18.set ((wrap .i64 (Int.tdiv (wrap .i64 ((0:Int)+v26)) (32:Int))).toNat) (bor .u32 x7 x8)).map (rI .u32)) from Z89 (show (a18.map (rI .u32))=(a18.map (rI .u32)) from rfl) (Z2c hx9).2.2 rfl rfl)):Ob.Le (.arr 1 ((a18.map (rI .u32)).set ((wrap .i64 (Int.tdiv (wrap .i64 ((0:Int)+v26)) (32:Int))).toNat) (Zjw ((a18.map (rI .u32)).getD ((wrap .i64 (Int.tdiv (wrap .i64 ((0:Int)+v26)) (32:Int))).toNat) []) 0 [.int .u32 (bor .u32 x7 x8)] 1)) true) (.arr 1 ((a18.set ((wrap .i64 (Int.tdiv (wrap .i64 ((0:Int)+v26)) (32:Int))).toNat) (bor .u32 x7 x8)).map (rI .u32)) true)) (AV.Le.of_eq (by simp only [xg,qp]):AV.Le (.v (.one (.vw 18 1 0 ((a18.map (rI .u32)).length)))) (.v (.one (.vw 18 1 0 (((a18.set ((wrap .i64 (Int.tdiv (wrap .i64 ((0:Int)+v26)) (32:Int))).toNat) (bor .u32 x7 x8)).map (rI .u32)).length))))) (AV.Le.of_eq (by simp only [xg,qp]):AV.Le (.v (.one (.vw 18 1 0 ((a18.map (rI .u32)).length)))) (.v (.one (.vw 18 1 0 (((a18.set ((wrap .i64 (Int.tdiv (wrap .i64 ((0:Int)+v26)) (32:Int))).toNat) (bor .u32 x7 x8)).map (rI .u32)).length))))) y5))) (ih p0 x3 (a18.set ((wrap .i64 (Int.tdiv (wrap .i64 ((0:Int)+v26)) (32:Int))).toNat) (bor .u32 x7 x8)) (wrap .i64 (v26+(1:Int))) _ h)
   ·exact Zj0.again (y8 [ak,ah,af,.reg [aa,aa, { h:=.flat (.int .u64 x5) },aa,aa],ae,af,.adj [.keep [0,2,4,5,6,26] [18,2]]] (.c2 (Zj8 Z06 hb4) (Zga hx5:Zjs prog (do eqGuard .shr 27 (.tmp 29) (.tmp 30) (.int .u64 x3) (.int .i64 v26); binOp .shr 27 (.int .u64 x3) (.int .i64 v26):Sem Value)=some (.int .u64 x5)) (.cons (Z01 Z03 hb6) y5))) (ih p0 x3 a18 (wrap .i64 (v26+(1:Int))) _ h)
  ·obtain rfl:=yl h
   exact Zj0.out (y8 [ak,ae,.adj [.keep [0,2,6] [18,2]]] (.cons (Z01 Z06 hb4) y5)) (by simp)
def real_whole_L1_H (p0:Nat) (v6:(List Int)):St:={ fr:=([(da (.flt .f64 p0)),.bad,(.v (.one (.ptr 2 0))),.bad,.bad,.bad,(da (.sl 1 (v6.map (rI .u32))))]++bads 68),obs:=[(2,.var [.d (.bool false),.d (.nils)])] }
def Z6w (p0:Nat) (o:(List Int)):St:={ fr:=([(da (.flt .f64 p0)),.bad,(.v (.one (.ptr 2 0))),.bad,.bad,.bad,(da (.sl 1 (o.map (rI .u32))))]++bads 68),obs:=[(2,.var [.d (.bool false),.d (.nils)])] }
def Z4q:Nat→Nat→(List Int)→Option (List Int)
 |0,_,_=>none
 |N+1,p0,v6=>if (v6.length:Int) > (0:Int) then (idx v6 (wrap .i64 ((v6.length:Int) - (1:Int)))).bind fun x12=>if x12=(0:Int) then (Lift.cut v6 (0:Int) (wrap .i64 ((v6.length:Int) - (1:Int)))).bind fun x14=>Z4q N p0 x14 else some v6 else some v6
theorem Z76:∀ (N:Nat) (p0:Nat) (v6:(List Int)) (r:(List Int)),Z4q N p0 v6=some r→Zj0 prog 649 (partOf f136 [1,1,1,1,1,1,0,0,0]) (real_whole_L1_H p0 v6) (.exit 2) (Z6w p0 r):=by
 intro N
 induction N with
 |zero=>intro p0 v6 r h; cases h
 |succ N ih =>
  intro p0 v6 r h
  rw [Z4q] at h
  rcases Z07 h with ⟨hb11,h⟩ | ⟨hb11,h⟩
  ·obtain ⟨x12,hx12,h⟩:=yj h
   rcases Z07 h with ⟨hb13,h⟩ | ⟨hb13,h⟩
   ·obtain ⟨x14,hx14,h⟩:=yj h
    exact Zj0.again (y8 [.reg [aa, { cast:=some (ai (v6.length:Int)) },aa,aa,aa,aa, { cast:=some (ai (v6.length:Int)) },aa, { cast:=some (.v (.one (.fptr [.int .u32 x12]))) },aa,aa, { h:=.pick true }],ah,.reg [aa,aa, { cast:=some (ai (v6.length:Int)) },aa, { cast:=some (da (.sl 1 (x14.map (rI .u32)))) },aa],.adj [.keep [0,2,6] [2]]] (.c8 (Zjk:AV.Le (ai (((v6.map (rI .u32)).length:Nat):Int)) (ai (v6.length:Int))) (Zj8 Z06 hb11) (Zj8 Z06 hb11) (Zj8 Z06 hb11) (Zjk:AV.Le (ai (((v6.map (rI .u32)).length:Nat):Int)) (ai (v6.length:Int))) (Zj8 Z06 hb11) (Zj8 Z06 hb11) (Z0m hx12:0≤wrap .i64 ((v6.length:Int) - (1:Int))∧wrap .i64 ((v6.length:Int) - (1:Int)) < (((v6.map (rI .u32)).length:Nat):Int)) (.c8 (Z0i hx12 rfl:AV.Le (.v (.one (.fptr ((List.range 1).map fun j=>((v6.map (rI .u32)).getD (Int.toNat (wrap .i64 ((v6.length:Int) - (1:Int)))) []).getD j .nils)))) (.v (.one (.fptr [.int .u32 x12])))) (Zj8 Z06 hb11) y7 (Zj8 Z06 hb11) (Zj8 Z06 hb11) (Zj8 Z03 hb13) (Zjk:AV.Le (ai (((v6.map (rI .u32)).length:Nat):Int)) (ai (v6.length:Int))) (cut_bnd hx14:0≤(0:Int)∧(0:Int)≤wrap .i64 ((v6.length:Int) - (1:Int))∧wrap .i64 ((v6.length:Int) - (1:Int))≤(((v6.map (rI .u32)).length:Nat):Int)) (.cons (cut_le hx14:AV.Le (da (.sl 1 (((v6.map (rI .u32)).drop (Int.toNat (0:Int))).take (Int.toNat (wrap .i64 ((v6.length:Int) - (1:Int))) - Int.toNat (0:Int))))) (da (.sl 1 (x14.map (rI .u32))))) y5)))) (ih p0 x14 _ h)
   ·obtain rfl:=yl h
    exact Zj0.out (y8 [.reg [aa, { cast:=some (ai (v6.length:Int)) },aa,aa,aa,aa, { cast:=some (ai (v6.length:Int)) },aa, { cast:=some (.v (.one (.fptr [.int .u32 x12]))) },aa,aa, { h:=.pick true }],ae,.adj [.keep [0,2,6] [2]]] (.c8 (Zjk:AV.Le (ai (((v6.map (rI .u32)).length:Nat):Int)) (ai (v6.length:Int))) (Zj8 Z06 hb11) (Zj8 Z06 hb11) (Zj8 Z06 hb11) (Zjk:AV.Le (ai (((v6.map (rI .u32)).length:Nat):Int)) (ai (v6.length:Int))) (Zj8 Z06 hb11) (Zj8 Z06 hb11) (Z0m hx12:0≤wrap .i64 ((v6.length:Int) - (1:Int))∧wrap .i64 ((v6.length:Int) - (1:Int)) < (((v6.map (rI .u32)).length:Nat):Int)) (.c4 (Z0i hx12 rfl:AV.Le (.v (.one (.fptr ((List.range 1).map fun j=>((v6.map (rI .u32)).getD (Int.toNat (wrap .i64 ((v6.length:Int) - (1:Int)))) []).getD j .nils)))) (.v (.one (.fptr [.int .u32 x12])))) (Zj8 Z06 hb11) y7 (Zj8 Z06 hb11) (.c2 (Zj8 Z06 hb11) (Z01 Z03 hb13) y5)))) (by simp)
  ·obtain rfl:=yl h
   exact Zj0.out (y8 [.reg [aa, { cast:=some (ai (v6.length:Int)) },aa,aa,w0,w0,w0,w0,w0,w0,w0, { h:=.pick false }],ae,.adj [.keep [0,2,6] [2]]] (.c8 (Zjk:AV.Le (ai (((v6.map (rI .u32)).length:Nat):Int)) (ai (v6.length:Int))) (Z01 Z06 hb11) (Z01 Z06 hb11) (Z01 Z06 hb11) (Z01 Z06 hb11) (Z01 Z06 hb11) (Z01 Z06 hb11) (Z01 Z06 hb11) (.c2 (Z01 Z06 hb11) yf y5))) (by simp)
def real_whole_L2_H (p0:Nat) (a18:(List Int)) (v26:Int):St:={ fr:=([(da (.flt .f64 p0)),.bad,(.v (.one (.ptr 2 0))),.bad,(da (.int .u64 (bor .u64 (band .u64 (p0:Int) (4503599627370495:Int)) (4503599627370496:Int)))),(ai (wrap .i64 ((wrap .i64 (band .u64 (Int.fdiv (p0:Int) (yh 52)) (2047:Int))) - (1075:Int)))),(.v (.one (.vw 18 1 0 ((a18.map (rI .u32)).length))))]++bads 19++[(ai v26)]++bads 48),obs:=[(18,.arr 1 (a18.map (rI .u32)) true),(2,.var [.d (.bool false),.d (.nils)])] }
def Zb5 (p0:Nat) (o:(List Int)):St:={ fr:=([(da (.flt .f64 p0)),.bad,(.v (.one (.ptr 2 0))),.bad,.bad,.bad,(.v (.one (.vw 18 1 0 ((o.map (rI .u32)).length))))]++bads 68),obs:=[(18,.arr 1 (o.map (rI .u32)) true),(2,.var [.d (.bool false),.d (.nils)])] }
def Z6p:Nat→Nat→(List Int)→Int→Option (List Int)
 |0,_,_,_=>none
 |N+1,p0,a18,v26=>if v26 < (53:Int) then (shr .u64 (bor .u64 (band .u64 (p0:Int) (4503599627370495:Int)) (4503599627370496:Int)) v26).bind fun x18=>if (band .u64 x18 (1:Int))=(1:Int) then (idx a18 (wrap .i64 (Int.tdiv (wrap .i64 ((wrap .i64 ((wrap .i64 (band .u64 (Int.fdiv (p0:Int) (yh 52)) (2047:Int))) - (1075:Int)))+v26)) (32:Int)))).bind fun x20=>(shl .u32 (1:Int) (Int.tmod (wrap .i64 ((wrap .i64 ((wrap .i64 (band .u64 (Int.fdiv (p0:Int) (yh 52)) (2047:Int))) - (1075:Int)))+v26)) (32:Int))).bind fun x21=>(idx a18 (wrap .i64 (Int.tdiv (wrap .i64 ((wrap .i64 ((wrap .i64 (band .u64 (Int.fdiv (p0:Int) (yh 52)) (2047:Int))) - (1075:Int)))+v26)) (32:Int)))).bind fun x22=>Z6p N p0 (a18.set ((wrap .i64 (Int.tdiv (wrap .i64 ((wrap .i64 ((wrap .i64 (band .u64 (Int.fdiv (p0:Int) (yh 52)) (2047:Int))) - (1075:Int)))+v26)) (32:Int))).toNat) (bor .u32 x20 x21)) (wrap .i64 (v26+(1:Int))) else Z6p N p0 a18 (wrap .i64 (v26+(1:Int))) else some a18
theorem Zcl:∀ (N:Nat) (p0:Nat) (a18:(List Int)) (v26:Int) (r:(List Int)),Z6p N p0 a18 v26=some r→Zj0 prog 649 (partOf f136 [1,1,1,1,1,0,1,0,0]) (real_whole_L2_H p0 a18 v26) (.exit 0) (Zb5 p0 r):=by
 intro N
 induction N with
 |zero=>intro p0 a18 v26 r h; cases h
 |succ N ih =>
  intro p0 a18 v26 r h
  rw [Z6p] at h
  rcases Z07 h with ⟨hb17,h⟩ | ⟨hb17,h⟩
  ·obtain ⟨x18,hx18,h⟩:=yj h
   rcases Z07 h with ⟨hb19,h⟩ | ⟨hb19,h⟩
   ·obtain ⟨x20,hx20,h⟩:=yj h
    obtain ⟨x21,hx21,h⟩:=yj h
    obtain ⟨x22,hx22,h⟩:=yj h
    exact Zj0.again (y8 [ak,ah,af,.reg [aa,aa, { h:=.flat (.int .u64 x18) },aa,aa],ah,.reg [aa,aa,aa,aa,aa,aa, { cast:=some (da (.int .u32 x20)) },aa,aa,aa,aa, { h:=.flat (.int .u32 x21) },aa,aa,aa],.adj [.ob 18 (.arr 1 ((a18.set ((wrap .i64 (Int.tdiv (wrap .i64 ((wrap .i64 ((wrap .i64 (band .u64 (Int.fdiv (p0:Int) (yh 52)) (2047:Int))) - (1075:Int)))+v26)) (32:Int))).toNat) (bor .u32 x20 x21)).map (rI .u32)) true),.slot 6 (.v (.one (.vw 18 1 0 (((a18.set ((wrap .i64 (Int.tdiv (wrap .i64 ((wrap .i64 ((wrap .i64 (band .u64 (Int.fdiv (p0:Int) (yh 52)) (2047:Int))) - (1075:Int)))+v26)) (32:Int))).toNat) (bor .u32 x20 x21)).map (rI .u32)).length)))),.slot 34 (.v (.one (.vw 18 1 0 (((a18.set ((wrap .i64 (Int.tdiv (wrap .i64 ((wrap .i64 ((wrap .i64 (band .u64 (Int.fdiv (p0:Int) (yh 52)) (2047:Int))) - (1075:Int)))+v26)) (32:Int))).toNat) (bor .u32 x20 x21)).map (rI .u32)).length))))],af,.adj [.keep [0,2,4,5,6,26] [18,2]]] (.c8 (Zj8 Z06 hb17) (Zga hx18:Zjs prog (do eqGuard .shr 27 (.tmp 29) (.tmp 30) (.int .u64 (bor .u64 (band .u64 (p0:Int) (4503599627370495:Int)) (4503599627370496:Int))) (.int .i64 v26); binOp .shr 27 (.int .u64 (bor .u64 (band .u64 (p0:Int) (4503599627370495:Int)) (4503599627370496:Int))) (.int .i64 v26):Sem Value)=some (.int .u64 x18)) (Zj8 Z03 hb19) (Z0m hx20:0≤wrap .i64 (Int.tdiv (wrap .i64 ((wrap .i64 ((wrap .i64 (band .u64 (Int.fdiv (p0:Int) (yh 52)) (2047:Int))) - (1075:Int)))+v26)) (32:Int))∧wrap .i64 (Int.tdiv (wrap .i64 ((wrap .i64 ((wrap .i64 (band .u64 (Int.fdiv (p0:Int) (yh 52)) (2047:Int))) - (1075:Int)))+v26)) (32:Int)) < (((a18.map (rI .u32)).length:Nat):Int)) (⟨Zjy (Z2c hx20).2.2,by decide⟩:(wrap .i64 (Int.tdiv (wrap .i64 ((wrap .i64 ((wrap .i64 (band .u64 (Int.fdiv (p0:Int) (yh 52)) (2047:Int))) - (1075:Int)))+v26)) (32:Int))).toNat < (a18.map (rI .u32)).length∧0≤1) (Zjx (fun l=>(da (l.getD 0 .nils))) (Z2c hx20).2.2 rfl:AV.Le (da (((a18.map (rI .u32)).getD ((wrap .i64 (Int.tdiv (wrap .i64 ((wrap .i64 ((wrap .i64 (band .u64 (Int.fdiv (p0:Int) (yh 52)) (2047:Int))) - (1075:Int)))+v26)) (32:Int))).toNat) []).getD 0 .nils)) (da (.int .u32 x20))) (shl_told hx21:Zjs prog (do eqGuard .shl 65 (.const (.int .u32 1)) (.tmp 44) (.int .u32 (1:Int)) (.int .i64 (Int.tmod (wrap .i64 ((wrap .i64 ((wrap .i64 (band .u64 (Int.fdiv (p0:Int) (yh 52)) (2047:Int))) - (1075:Int)))+v26)) (32:Int))); binOp .shl 65 (.int .u32 (1:Int)) (.int .i64 (Int.tmod (wrap .i64 ((wrap .i64 ((wrap .i64 (band .u64 (Int.fdiv (p0:Int) (yh 52)) (2047:Int))) - (1075:Int)))+v26)) (32:Int))):Sem Value)=some (.int .u32 x21)) (Z0m hx22:0≤wrap .i64 (Int.tdiv (wrap .i64 ((wrap .i64 ((wrap .i64 (band .u64 (Int.fdiv (p0:Int) (yh 52)) (2047:Int))) - (1075:Int)))+v26)) (32:Int))∧wrap .i64 (Int.tdiv (wrap .i64 ((wrap .i64 ((wrap .i64 (band .u64 (Int.fdiv (p0:Int) (yh 52)) (2047:Int))) - (1075:Int)))+v26)) (32:Int)) < (((a18.map (rI .u32)).length:Nat):Int)) (.c4 (Zjy (Z2c hx22).2.2:(wrap .i64 (Int.tdiv (wrap .i64 ((wrap .i64 ((wrap .i64 (band .u64 (Int.fdiv (p0:Int) (yh 52)) (2047:Int))) - (1075:Int)))+v26)) (32:Int))).toNat < (a18.map (rI .u32)).length) (Z42 (Eq.symm (show ((a18.map (rI .u32)).set ((wrap .i64 (Int.tdiv (wrap .i64 ((wrap .i64 ((wrap .i64 (band .u64 (Int.fdiv (p0:Int) (yh 52)) (2047:Int))) - (1075:Int)))+v26)) (32:Int))).toNat) (Zjw ((a18.map (rI .u32)).getD ((wrap .i64 (Int.tdiv (wrap .i64 ((wrap .i64 ((wrap .i64 (band .u64 (Int.fdiv (p0:Int) (yh 52)) (2047:Int))) - (1075:Int)))+v26)) (32:Int))).toNat) []) 0 [.int .u32 (bor .u32 x20 x21)] 1))=((a18.set ((wrap .i64 (Int.tdiv (wrap .i64 ((wrap .i64 ((wrap .i64 (band .u64 (Int.fdiv (p0:Int) (yh 52)) (2047:Int))) - (1075:Int)))+v26)) (32:Int))).toNat) (bor .u32 x20 x21)).map (rI .u32)) from Z89 (show (a18.map (rI .u32))=(a18.map (rI .u32)) from rfl) (Z2c hx22).2.2 rfl rfl)):Ob.Le (.arr 1 ((a18.map (rI .u32)).set ((wrap .i64 (Int.tdiv (wrap .i64 ((wrap .i64 ((wrap .i64 (band .u64 (Int.fdiv (p0:Int) (yh 52)) (2047:Int))) - (1075:Int)))+v26)) (32:Int))).toNat) (Zjw ((a18.map (rI .u32)).getD ((wrap .i64 (Int.tdiv (wrap .i64 ((wrap .i64 ((wrap .i64 (band .u64 (Int.fdiv (p0:Int) (yh 52)) (2047:Int))) - (1075:Int)))+v26)) (32:Int))).toNat) []) 0 [.int .u32 (bor .u32 x20 x21)] 1)) true) (.arr 1 ((a18.set ((wrap .i64 (Int.tdiv (wrap .i64 ((wrap .i64 ((wrap .i64 (band .u64 (Int.fdiv (p0:Int) (yh 52)) (2047:Int))) - (1075:Int)))+v26)) (32:Int))).toNat) (bor .u32 x20 x21)).map (rI .u32)) true)) (AV.Le.of_eq (by simp only [xg,qp]):AV.Le (.v (.one (.vw 18 1 0 ((a18.map (rI .u32)).length)))) (.v (.one (.vw 18 1 0 (((a18.set ((wrap .i64 (Int.tdiv (wrap .i64 ((wrap .i64 ((wrap .i64 (band .u64 (Int.fdiv (p0:Int) (yh 52)) (2047:Int))) - (1075:Int)))+v26)) (32:Int))).toNat) (bor .u32 x20 x21)).map (rI .u32)).length))))) (AV.Le.of_eq (by simp only [xg,qp]):AV.Le (.v (.one (.vw 18 1 0 ((a18.map (rI .u32)).length)))) (.v (.one (.vw 18 1 0 (((a18.set ((wrap .i64 (Int.tdiv (wrap .i64 ((wrap .i64 ((wrap .i64 (band .u64 (Int.fdiv (p0:Int) (yh 52)) (2047:Int))) - (1075:Int)))+v26)) (32:Int))).toNat) (bor .u32 x20 x21)).map (rI .u32)).length))))) y5))) (ih p0 (a18.set ((wrap .i64 (Int.tdiv (wrap .i64 ((wrap .i64 ((wrap .i64 (band .u64 (Int.fdiv (p0:Int) (yh 52)) (2047:Int))) - (1075:Int)))+v26)) (32:Int))).toNat) (bor .u32 x20 x21)) (wrap .i64 (v26+(1:Int))) _ h)
   ·exact Zj0.again (y8 [ak,ah,af,.reg [aa,aa, { h:=.flat (.int .u64 x18) },aa,aa],ae,af,.adj [.keep [0,2,4,5,6,26] [18,2]]] (.c2 (Zj8 Z06 hb17) (Zga hx18:Zjs prog (do eqGuard .shr 27 (.tmp 29) (.tmp 30) (.int .u64 (bor .u64 (band .u64 (p0:Int) (4503599627370495:Int)) (4503599627370496:Int))) (.int .i64 v26); binOp .shr 27 (.int .u64 (bor .u64 (band .u64 (p0:Int) (4503599627370495:Int)) (4503599627370496:Int))) (.int .i64 v26):Sem Value)=some (.int .u64 x18)) (.cons (Z01 Z03 hb19) y5))) (ih p0 a18 (wrap .i64 (v26+(1:Int))) _ h)
  ·obtain rfl:=yl h
   exact Zj0.out (y8 [ak,ae,.adj [.keep [0,2,6] [18,2]]] (.cons (Z01 Z06 hb17) y5)) (by simp)
def real_whole_fin (r:Z08):List PV:=[az r.fNeg r.fMag]
def Zd3 (N:Nat) (p0:Nat):Option Z08:=(mk (0:Int) (10:Int)).bind fun x1=>if (wrap .i64 ((wrap .i64 (band .u64 (Int.fdiv (p0:Int) (yh 52)) (2047:Int))) - (1075:Int))) < (0:Int) then (shr .u64 (bor .u64 (band .u64 (p0:Int) (4503599627370495:Int)) (4503599627370496:Int)) (if (63:Int) < (wrap .i64 (0 - wrap .i64 ((wrap .i64 (band .u64 (Int.fdiv (p0:Int) (yh 52)) (2047:Int))) - (1075:Int)))) then (63:Int) else wrap .i64 (0 - wrap .i64 ((wrap .i64 (band .u64 (Int.fdiv (p0:Int) (yh 52)) (2047:Int))) - (1075:Int))))).bind fun x3=>(Z6n N p0 x3 x1 (0:Int)).bind fun r10=>(Z4q N p0 r10).bind fun r15=>if Lift.flt p0 0=true then some (Z08.mk (decide ((r15.length:Int) > (0:Int))) r15) else some (Z08.mk false r15) else (Z6p N p0 x1 (0:Int)).bind fun r23=>(Z4q N p0 r23).bind fun r24=>if Lift.flt p0 0=true then some (Z08.mk (decide ((r24.length:Int) > (0:Int))) r24) else some (Z08.mk false r24)
theorem Zc3 (N:Nat) (p0:Nat) (r:Z08) (h:Zd3 N p0=some r):Ziz prog 136 [dv (.flt .f64 p0)] (real_whole_fin r):=by
 unfold Zd3 at h
 obtain ⟨x1,hx1,h⟩:=yj h
 rcases Z07 h with ⟨hb2,h⟩ | ⟨hb2,h⟩
 ·obtain ⟨x3,hx3,h⟩:=yj h
  obtain ⟨r10,hr10,h⟩:=yj h
  obtain ⟨r15,hr15,h⟩:=yj h
  rcases Z07 h with ⟨hb16,h⟩ | ⟨hb16,h⟩
  ·obtain rfl:=yl h
   exact y9 649 [ak,.reg [aa, { h:=.ext (.int .u64 (p0:Int)) },aa],.reg (e 10),.reg [{ cast:=some (.v (.one (.vw 18 1 0 ((x1.map (rI .u32)).length)))),post:=[.ob 18 (.arr 1 (x1.map (rI .u32)) true)] },aa],af,ah,.reg [aa,aa,aa,aa, { h:=.flat (.int .u64 x3) },aa],ak,ak,.adj [.keep [0,2,4,5,6,26] [18,2]],.cut (.exit 0) (Zba p0 x3 r10),.adj [.keep [0,2,6] [18,2],.fz 18,.keep [0,2,6] [2]],.cut (.exit 2) (Z6w p0 r15),.reg [aa,aa,aa,aa, { cast:=some (ai (r15.length:Int)) },aa, { h:=.pick true },aa,aa,aa]] func136 (.c8 (Z8u func131 (by kernel_rfl) (by kernel_rfl) (by kernel_rfl) (by kernel_rfl):Ziy prog 131 #[.float .f64 p0] (.int .u64 (p0:Int))) (mk_bnd hx1 (by decide):0≤(10:Int)∧(10:Int)≤(10:Int)∧(10:Int) * ((4:Nat):Int)≤281474976710656∧(10:Int)≤9223372036854775807) (mk_le hx1:AV.Le (.v (.one (.vw 18 1 0 (Int.toNat (10:Int))))) (.v (.one (.vw 18 1 0 ((x1.map (rI .u32)).length))))) (mk_ob hx1 rfl:Ob.Le (.arr 1 (List.replicate (Int.toNat (10:Int)) [.int .u32 (0:Int)]) true) (.arr 1 (x1.map (rI .u32)) true)) (Zj8 Z06 hb2) (Zga hx3:Zjs prog (do eqGuard .shr 27 (.tmp 21) (.tmp 24) (.int .u64 (bor .u64 (band .u64 (p0:Int) (4503599627370495:Int)) (4503599627370496:Int))) (.int .i64 (if (63:Int) < (wrap .i64 (0 - wrap .i64 ((wrap .i64 (band .u64 (Int.fdiv (p0:Int) (yh 52)) (2047:Int))) - (1075:Int)))) then (63:Int) else wrap .i64 (0 - wrap .i64 ((wrap .i64 (band .u64 (Int.fdiv (p0:Int) (yh 52)) (2047:Int))) - (1075:Int))))); binOp .shr 27 (.int .u64 (bor .u64 (band .u64 (p0:Int) (4503599627370495:Int)) (4503599627370496:Int))) (.int .i64 (if (63:Int) < (wrap .i64 (0 - wrap .i64 ((wrap .i64 (band .u64 (Int.fdiv (p0:Int) (yh 52)) (2047:Int))) - (1075:Int)))) then (63:Int) else wrap .i64 (0 - wrap .i64 ((wrap .i64 (band .u64 (Int.fdiv (p0:Int) (yh 52)) (2047:Int))) - (1075:Int))))):Sem Value)=some (.int .u64 x3)) (Ziw.of_loop (Zcn N p0 x3 x1 (0:Int) r10 hr10)) (Ziw.of_loop (Z76 N p0 r10 r15 hr15)) (.c8 (⟨rfl,rfl⟩:(1:Nat)=1∧aj r10) (Zj8 Z04 hb16) (Zj8 Z04 hb16) (Zjk:AV.Le (ai (((r15.map (rI .u32)).length:Nat):Int)) (ai (r15.length:Int))) (Zj8 Z04 hb16) (Zj8 Z04 hb16) y7 y7 y5))
  ·obtain rfl:=yl h
   exact y9 649 [ak,.reg [aa, { h:=.ext (.int .u64 (p0:Int)) },aa],.reg (e 10),.reg [{ cast:=some (.v (.one (.vw 18 1 0 ((x1.map (rI .u32)).length)))),post:=[.ob 18 (.arr 1 (x1.map (rI .u32)) true)] },aa],af,ah,.reg [aa,aa,aa,aa, { h:=.flat (.int .u64 x3) },aa],ak,ak,.adj [.keep [0,2,4,5,6,26] [18,2]],.cut (.exit 0) (Zba p0 x3 r10),.adj [.keep [0,2,6] [18,2],.fz 18,.keep [0,2,6] [2]],.cut (.exit 2) (Z6w p0 r15),.reg [aa,aa,aa,w0,w0,w0, { h:=.pick false },aa,aa,aa]] func136 (.c8 (Z8u func131 (by kernel_rfl) (by kernel_rfl) (by kernel_rfl) (by kernel_rfl):Ziy prog 131 #[.float .f64 p0] (.int .u64 (p0:Int))) (mk_bnd hx1 (by decide):0≤(10:Int)∧(10:Int)≤(10:Int)∧(10:Int) * ((4:Nat):Int)≤281474976710656∧(10:Int)≤9223372036854775807) (mk_le hx1:AV.Le (.v (.one (.vw 18 1 0 (Int.toNat (10:Int))))) (.v (.one (.vw 18 1 0 ((x1.map (rI .u32)).length))))) (mk_ob hx1 rfl:Ob.Le (.arr 1 (List.replicate (Int.toNat (10:Int)) [.int .u32 (0:Int)]) true) (.arr 1 (x1.map (rI .u32)) true)) (Zj8 Z06 hb2) (Zga hx3:Zjs prog (do eqGuard .shr 27 (.tmp 21) (.tmp 24) (.int .u64 (bor .u64 (band .u64 (p0:Int) (4503599627370495:Int)) (4503599627370496:Int))) (.int .i64 (if (63:Int) < (wrap .i64 (0 - wrap .i64 ((wrap .i64 (band .u64 (Int.fdiv (p0:Int) (yh 52)) (2047:Int))) - (1075:Int)))) then (63:Int) else wrap .i64 (0 - wrap .i64 ((wrap .i64 (band .u64 (Int.fdiv (p0:Int) (yh 52)) (2047:Int))) - (1075:Int))))); binOp .shr 27 (.int .u64 (bor .u64 (band .u64 (p0:Int) (4503599627370495:Int)) (4503599627370496:Int))) (.int .i64 (if (63:Int) < (wrap .i64 (0 - wrap .i64 ((wrap .i64 (band .u64 (Int.fdiv (p0:Int) (yh 52)) (2047:Int))) - (1075:Int)))) then (63:Int) else wrap .i64 (0 - wrap .i64 ((wrap .i64 (band .u64 (Int.fdiv (p0:Int) (yh 52)) (2047:Int))) - (1075:Int))))):Sem Value)=some (.int .u64 x3)) (Ziw.of_loop (Zcn N p0 x3 x1 (0:Int) r10 hr10)) (Ziw.of_loop (Z76 N p0 r10 r15 hr15)) (.c4 (⟨rfl,rfl⟩:(1:Nat)=1∧aj r10) (Z01 Z04 hb16) (Z01 Z04 hb16) (Z01 Z04 hb16) (.c2 (Z01 Z04 hb16) y7 (.cons y7 y5))))
 ·obtain ⟨r23,hr23,h⟩:=yj h
  obtain ⟨r24,hr24,h⟩:=yj h
  rcases Z07 h with ⟨hb25,h⟩ | ⟨hb25,h⟩
  ·obtain rfl:=yl h
   exact y9 649 [ak,.reg [aa, { h:=.ext (.int .u64 (p0:Int)) },aa],.reg (e 10),.reg [{ cast:=some (.v (.one (.vw 18 1 0 ((x1.map (rI .u32)).length)))),post:=[.ob 18 (.arr 1 (x1.map (rI .u32)) true)] },aa],af,ae,ak,.adj [.keep [0,2,4,5,6,26] [18,2]],.cut (.exit 0) (Zb5 p0 r23),.adj [.keep [0,2,6] [18,2],.fz 18,.keep [0,2,6] [2]],.cut (.exit 2) (Z6w p0 r24),.reg [aa,aa,aa,aa, { cast:=some (ai (r24.length:Int)) },aa, { h:=.pick true },aa,aa,aa]] func136 (.c8 (Z8u func131 (by kernel_rfl) (by kernel_rfl) (by kernel_rfl) (by kernel_rfl):Ziy prog 131 #[.float .f64 p0] (.int .u64 (p0:Int))) (mk_bnd hx1 (by decide):0≤(10:Int)∧(10:Int)≤(10:Int)∧(10:Int) * ((4:Nat):Int)≤281474976710656∧(10:Int)≤9223372036854775807) (mk_le hx1:AV.Le (.v (.one (.vw 18 1 0 (Int.toNat (10:Int))))) (.v (.one (.vw 18 1 0 ((x1.map (rI .u32)).length))))) (mk_ob hx1 rfl:Ob.Le (.arr 1 (List.replicate (Int.toNat (10:Int)) [.int .u32 (0:Int)]) true) (.arr 1 (x1.map (rI .u32)) true)) (Z01 Z06 hb2) (Ziw.of_loop (Zcl N p0 x1 (0:Int) r23 hr23)) (Ziw.of_loop (Z76 N p0 r23 r24 hr24)) (⟨rfl,rfl⟩:(1:Nat)=1∧aj r23) (.c4 (Zj8 Z04 hb25) (Zj8 Z04 hb25) (Zjk:AV.Le (ai (((r24.map (rI .u32)).length:Nat):Int)) (ai (r24.length:Int))) (Zj8 Z04 hb25) (.c2 (Zj8 Z04 hb25) y7 (.cons y7 y5))))
  ·obtain rfl:=yl h
   exact y9 649 [ak,.reg [aa, { h:=.ext (.int .u64 (p0:Int)) },aa],.reg (e 10),.reg [{ cast:=some (.v (.one (.vw 18 1 0 ((x1.map (rI .u32)).length)))),post:=[.ob 18 (.arr 1 (x1.map (rI .u32)) true)] },aa],af,ae,ak,.adj [.keep [0,2,4,5,6,26] [18,2]],.cut (.exit 0) (Zb5 p0 r23),.adj [.keep [0,2,6] [18,2],.fz 18,.keep [0,2,6] [2]],.cut (.exit 2) (Z6w p0 r24),.reg [aa,aa,aa,w0,w0,w0, { h:=.pick false },aa,aa,aa]] func136 (.c8 (Z8u func131 (by kernel_rfl) (by kernel_rfl) (by kernel_rfl) (by kernel_rfl):Ziy prog 131 #[.float .f64 p0] (.int .u64 (p0:Int))) (mk_bnd hx1 (by decide):0≤(10:Int)∧(10:Int)≤(10:Int)∧(10:Int) * ((4:Nat):Int)≤281474976710656∧(10:Int)≤9223372036854775807) (mk_le hx1:AV.Le (.v (.one (.vw 18 1 0 (Int.toNat (10:Int))))) (.v (.one (.vw 18 1 0 ((x1.map (rI .u32)).length))))) (mk_ob hx1 rfl:Ob.Le (.arr 1 (List.replicate (Int.toNat (10:Int)) [.int .u32 (0:Int)]) true) (.arr 1 (x1.map (rI .u32)) true)) (Z01 Z06 hb2) (Ziw.of_loop (Zcl N p0 x1 (0:Int) r23 hr23)) (Ziw.of_loop (Z76 N p0 r23 r24 hr24)) (⟨rfl,rfl⟩:(1:Nat)=1∧aj r23) (.c4 (Z01 Z04 hb25) (Z01 Z04 hb25) (Z01 Z04 hb25) (Z01 Z04 hb25) (.c2 y7 y7 y5)))
def real_CmpNum_fin (r:Int):List PV:=[vi r]
def Zbv (N:Nat) (p0:Z08) (p1:Int):Option Int:=(Zbr N p0).bind fun r1=>if ¬ (r1=true) then some (0:Int) else (Z9o N p1).bind fun r3=>if r3=true then some (-1:Int) else (Zg0 N 4607182418800017408 (256:Int)).bind fun r5=>if Lift.fge (Int.toNat p1) r5=true then some (-1:Int) else if Lift.fle (Int.toNat p1) (Lift.fneg r5)=true then some (1:Int) else (math_Trunc N (Int.toNat p1)).bind fun r9=>(Zd3 N r9).bind fun r10=>(num_Cmp N p0 r10).bind fun r11=>if r11 ≠ (0:Int) then some r11 else if Lift.flt (Int.toNat p1) r9=true then some (1:Int) else some (-1:Int)
theorem Zef (N:Nat) (p0:Z08) (p1:Int) (r:Int) (h:Zbv N p0 p1=some r):Ziz prog 102 [az p0.fNeg p0.fMag,dv (.int .u64 p1)] (real_CmpNum_fin r):=by
 unfold Zbv at h
 obtain ⟨r1,hr1,h⟩:=yj h
 rcases Z07 h with ⟨hb2,h⟩ | ⟨hb2,h⟩
 ·obtain rfl:=yl h
  exact y9 391 [af,.reg [aa, { h:=.ext (.float .f64 (Int.toNat p1)) },aa],.reg [aa, yg [dv (.bool r1)],aa,aa],ah,ak] func102 (.c4 (Z23 func132 (by kernel_rfl) (by kernel_rfl) (by kernel_rfl) (by kernel_rfl):Ziy prog 132 #[.int .u64 p1] (.float .f64 (Int.toNat p1))) y7 (Z25 N p0 r1 hr1) (Zj8 (Z09 Z04) hb2) y5)
 ·obtain ⟨r3,hr3,h⟩:=yj h
  rcases Z07 h with ⟨hb4,h⟩ | ⟨hb4,h⟩
  ·obtain rfl:=yl h
   exact y9 391 [af,.reg [aa, { h:=.ext (.float .f64 (Int.toNat p1)) },aa],.reg [aa, yg [dv (.bool r1)],aa,aa],ae,.reg [aa, yg [dv (.bool r3)],aa,w0,w0,w0, { h:=.pick true },aa],ah,ak] func102 (.c8 (Z23 func132 (by kernel_rfl) (by kernel_rfl) (by kernel_rfl) (by kernel_rfl):Ziy prog 132 #[.int .u64 p1] (.float .f64 (Int.toNat p1))) y7 (Z25 N p0 r1 hr1) (Z01 (Z09 Z04) hb2) (Z18 N p1 r3 hr3) (Zj8 Z04 hb4) (Zj8 Z04 hb4) (Zj8 Z04 hb4) (.c2 (Zj8 Z04 hb4) (Eq.refl true) y5))
  ·obtain ⟨r5,hr5,h⟩:=yj h
   rcases Z07 h with ⟨hb6,h⟩ | ⟨hb6,h⟩
   ·obtain rfl:=yl h
    exact y9 391 [af,.reg [aa, { h:=.ext (.float .f64 (Int.toNat p1)) },aa],.reg [aa, yg [dv (.bool r1)],aa,aa],ae,.reg [aa, yg [dv (.bool r3)],aa,aa, yg [dv (.flt .f64 r5)],aa, { h:=.pick false },aa],ah,ak] func102 (.c8 (Z23 func132 (by kernel_rfl) (by kernel_rfl) (by kernel_rfl) (by kernel_rfl):Ziy prog 132 #[.int .u64 p1] (.float .f64 (Int.toNat p1))) y7 (Z25 N p0 r1 hr1) (Z01 (Z09 Z04) hb2) (Z18 N p1 r3 hr3) (Z01 Z04 hb4) (Z01 Z04 hb4) (Z3c N 4607182418800017408 (256:Int) r5 hr5) (.c2 (Z01 Z04 hb4) (Z01 Z04 hb4) (.cons (Zj8 Z04 hb6) y5)))
   ·rcases Z07 h with ⟨hb8,h⟩ | ⟨hb8,h⟩
    ·obtain rfl:=yl h
     exact y9 391 [af,.reg [aa, { h:=.ext (.float .f64 (Int.toNat p1)) },aa],.reg [aa, yg [dv (.bool r1)],aa,aa],ae,.reg [aa, yg [dv (.bool r3)],aa,aa, yg [dv (.flt .f64 r5)],aa, { h:=.pick false },aa],ae,.reg [aa, yg [dv (.flt .f64 r5)],aa,aa,aa],ah,ak] func102 (.c8 (Z23 func132 (by kernel_rfl) (by kernel_rfl) (by kernel_rfl) (by kernel_rfl):Ziy prog 132 #[.int .u64 p1] (.float .f64 (Int.toNat p1))) y7 (Z25 N p0 r1 hr1) (Z01 (Z09 Z04) hb2) (Z18 N p1 r3 hr3) (Z01 Z04 hb4) (Z01 Z04 hb4) (Z3c N 4607182418800017408 (256:Int) r5 hr5) (.c4 (Z01 Z04 hb4) (Z01 Z04 hb4) (Z01 Z04 hb6) (Z3c N 4607182418800017408 (256:Int) r5 hr5) (.cons (Zj8 Z04 hb8) y5)))
    ·obtain ⟨r9,hr9,h⟩:=yj h
     obtain ⟨r10,hr10,h⟩:=yj h
     obtain ⟨r11,hr11,h⟩:=yj h
     rcases Z07 h with ⟨hb12,h⟩ | ⟨hb12,h⟩
     ·obtain rfl:=yl h
      exact y9 391 [af,.reg [aa, { h:=.ext (.float .f64 (Int.toNat p1)) },aa],.reg [aa, yg [dv (.bool r1)],aa,aa],ae,.reg [aa, yg [dv (.bool r3)],aa,aa, yg [dv (.flt .f64 r5)],aa, { h:=.pick false },aa],ae,.reg [aa, yg [dv (.flt .f64 r5)],aa,aa,aa],ae,.reg [aa, yg [dv (.flt .f64 r9)],aa],.reg [aa,aa, yg [az r10.fNeg r10.fMag], yg [vi r11],aa],af,ah,af] func102 (.c8 (Z23 func132 (by kernel_rfl) (by kernel_rfl) (by kernel_rfl) (by kernel_rfl):Ziy prog 132 #[.int .u64 p1] (.float .f64 (Int.toNat p1))) y7 (Z25 N p0 r1 hr1) (Z01 (Z09 Z04) hb2) (Z18 N p1 r3 hr3) (Z01 Z04 hb4) (Z01 Z04 hb4) (Z3c N 4607182418800017408 (256:Int) r5 hr5) (.c8 (Z01 Z04 hb4) (Z01 Z04 hb4) (Z01 Z04 hb6) (Z3c N 4607182418800017408 (256:Int) r5 hr5) (Z01 Z04 hb8) (Zbz N (Int.toNat p1) r9 hr9) y7 (Zc3 N r9 r10 hr10) (.c2 (Zce N p0 r10 r11 hr11) (Zj8 Z0h hb12) y5)))
     ·rcases Z07 h with ⟨hb13,h⟩ | ⟨hb13,h⟩
      ·obtain rfl:=yl h
       exact y9 391 [af,.reg [aa, { h:=.ext (.float .f64 (Int.toNat p1)) },aa],.reg [aa, yg [dv (.bool r1)],aa,aa],ae,.reg [aa, yg [dv (.bool r3)],aa,aa, yg [dv (.flt .f64 r5)],aa, { h:=.pick false },aa],ae,.reg [aa, yg [dv (.flt .f64 r5)],aa,aa,aa],ae,.reg [aa, yg [dv (.flt .f64 r9)],aa],.reg [aa,aa, yg [az r10.fNeg r10.fMag], yg [vi r11],aa],af,ae,ay,ah,ak] func102 (.c8 (Z23 func132 (by kernel_rfl) (by kernel_rfl) (by kernel_rfl) (by kernel_rfl):Ziy prog 132 #[.int .u64 p1] (.float .f64 (Int.toNat p1))) y7 (Z25 N p0 r1 hr1) (Z01 (Z09 Z04) hb2) (Z18 N p1 r3 hr3) (Z01 Z04 hb4) (Z01 Z04 hb4) (Z3c N 4607182418800017408 (256:Int) r5 hr5) (.c8 (Z01 Z04 hb4) (Z01 Z04 hb4) (Z01 Z04 hb6) (Z3c N 4607182418800017408 (256:Int) r5 hr5) (Z01 Z04 hb8) (Zbz N (Int.toNat p1) r9 hr9) y7 (Zc3 N r9 r10 hr10) (.c2 (Zce N p0 r10 r11 hr11) (Z01 Z0h hb12) (.cons (Zj8 Z04 hb13) y5))))
      ·obtain rfl:=yl h
       exact y9 391 [af,.reg [aa, { h:=.ext (.float .f64 (Int.toNat p1)) },aa],.reg [aa, yg [dv (.bool r1)],aa,aa],ae,.reg [aa, yg [dv (.bool r3)],aa,aa, yg [dv (.flt .f64 r5)],aa, { h:=.pick false },aa],ae,.reg [aa, yg [dv (.flt .f64 r5)],aa,aa,aa],ae,.reg [aa, yg [dv (.flt .f64 r9)],aa],.reg [aa,aa, yg [az r10.fNeg r10.fMag], yg [vi r11],aa],af,ae,ay,ae,ak] func102 (.c8 (Z23 func132 (by kernel_rfl) (by kernel_rfl) (by kernel_rfl) (by kernel_rfl):Ziy prog 132 #[.int .u64 p1] (.float .f64 (Int.toNat p1))) y7 (Z25 N p0 r1 hr1) (Z01 (Z09 Z04) hb2) (Z18 N p1 r3 hr3) (Z01 Z04 hb4) (Z01 Z04 hb4) (Z3c N 4607182418800017408 (256:Int) r5 hr5) (.c8 (Z01 Z04 hb4) (Z01 Z04 hb4) (Z01 Z04 hb6) (Z3c N 4607182418800017408 (256:Int) r5 hr5) (Z01 Z04 hb8) (Zbz N (Int.toNat p1) r9 hr9) y7 (Zc3 N r9 r10 hr10) (.c2 (Zce N p0 r10 r11 hr11) (Z01 Z0h hb12) (.cons (Z01 Z04 hb13) y5))))
def Zgg (r:Bool):List PV:=[dv (.bool r)]
def Z8x (N:Nat) (p0:Int):Option Bool:=some (p0 != p0)
theorem Z1c (N:Nat) (p0:Int) (r:Bool) (h:Z8x N p0=some r):Ziz prog 154 [dv (.int .u64 p0)] (Zgg r):=by
 unfold Z8x at h
 obtain rfl:=yl h
 exact y9 136 [ak,.reg (e 4)] func154 y5
def Zeg (r:Int):List PV:=[vi r]
def Za1 (N:Nat) (p0:Int) (p1:Int):Option Int:=(Z8x N p0).bind fun r1=>(Z8x N p1).bind fun r2=>if r1=true then if r2=true then some (0:Int) else some (-1:Int) else if r2=true then some (1:Int) else if p0 < p1 then some (-1:Int) else if p0 > p1 then some (1:Int) else some (0:Int)
theorem Ze6 (N:Nat) (p0:Int) (p1:Int) (r:Int) (h:Za1 N p0 p1=some r):Ziz prog 137 [dv (.int .u64 p0),dv (.int .u64 p1)] (Zeg r):=by
 unfold Za1 at h
 obtain ⟨r1,hr1,h⟩:=yj h
 obtain ⟨r2,hr2,h⟩:=yj h
 rcases Z07 h with ⟨hb3,h⟩ | ⟨hb3,h⟩
 ·rcases Z07 h with ⟨hb4,h⟩ | ⟨hb4,h⟩
  ·obtain rfl:=yl h
   exact y9 252 [ak,.reg [aa, yg [dv (.bool r1)],aa],.reg [aa, yg [dv (.bool r2)],aa],ak,ah,ak,ah,ak] func137 (.c4 (Z1c N p0 r1 hr1) (Z1c N p1 r2 hr2) (Zj8 Z04 hb3) (Zj8 Z04 hb4) y5)
  ·obtain rfl:=yl h
   exact y9 252 [ak,.reg [aa, yg [dv (.bool r1)],aa],.reg [aa, yg [dv (.bool r2)],aa],ak,ah,ak,ae,ak] func137 (.c4 (Z1c N p0 r1 hr1) (Z1c N p1 r2 hr2) (Zj8 Z04 hb3) (Z01 Z04 hb4) y5)
 ·rcases Z07 h with ⟨hb5,h⟩ | ⟨hb5,h⟩
  ·obtain rfl:=yl h
   exact y9 252 [ak,.reg [aa, yg [dv (.bool r1)],aa],.reg [aa, yg [dv (.bool r2)],aa],ak,ae,ak,ah,ak] func137 (.c4 (Z1c N p0 r1 hr1) (Z1c N p1 r2 hr2) (Z01 Z04 hb3) (Zj8 Z04 hb5) y5)
  ·rcases Z07 h with ⟨hb6,h⟩ | ⟨hb6,h⟩
   ·obtain rfl:=yl h
    exact y9 252 [ak,.reg [aa, yg [dv (.bool r1)],aa],.reg [aa, yg [dv (.bool r2)],aa],ak,ae,ak,ae,ay,ah,ak] func137 (.c4 (Z1c N p0 r1 hr1) (Z1c N p1 r2 hr2) (Z01 Z04 hb3) (Z01 Z04 hb5) (.cons (Zj8 Z06 hb6) y5))
   ·rcases Z07 h with ⟨hb7,h⟩ | ⟨hb7,h⟩
    ·obtain rfl:=yl h
     exact y9 252 [ak,.reg [aa, yg [dv (.bool r1)],aa],.reg [aa, yg [dv (.bool r2)],aa],ak,ae,ak,ae,ay,ae,ay,ah,ak] func137 (.c4 (Z1c N p0 r1 hr1) (Z1c N p1 r2 hr2) (Z01 Z04 hb3) (Z01 Z04 hb5) (.c2 (Z01 Z06 hb6) (Zj8 Z06 hb7) y5))
    ·obtain rfl:=yl h
     exact y9 252 [ak,.reg [aa, yg [dv (.bool r1)],aa],.reg [aa, yg [dv (.bool r2)],aa],ak,ae,ak,ae,ay,ae,ay,ae,ak] func137 (.c4 (Z1c N p0 r1 hr1) (Z1c N p1 r2 hr2) (Z01 Z04 hb3) (Z01 Z04 hb5) (.c2 (Z01 Z06 hb6) (Z01 Z06 hb7) y5))
def Zfc (r:Bool):List PV:=[dv (.bool r)]
def Z6f (N:Nat) (p0:Nat):Option Bool:=some (Lift.fne p0 p0)
theorem Z15 (N:Nat) (p0:Nat) (r:Bool) (h:Z6f N p0=some r):Ziz prog 155 [dv (.flt .f64 p0)] (Zfc r):=by
 unfold Z6f at h
 obtain rfl:=yl h
 exact y9 136 [ak,.reg (e 4)] func155 y5
end Go.Proofs.Ytllcnlonkloabaa.Sh
