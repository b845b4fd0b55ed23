import Derived.Test.YtcknifhhgeccfaaPureCodeB
import Derived.Test.YtcknifhhgeccfaaPureWireH
set_option linter.unusedVariables false
set_option linter.unusedSimpArgs false
namespace Go.Proofs.Ytcknifhhgeccfaa.Sh
open Go Lift Go.Proofs
abbrev crd (b:List Int) (p:Nat):Z0k:=⟨b,(p:Int)⟩
theorem cnum_ok {b:List Int} {p:Nat} {x:Int} {rest:List Int} (hb:b.length≤500000) (hbb:bytesL b) (hd:b.drop p=x::rest):Ev (fun N=>Z2l N (crd b p)) (some (x,crd b (p+1))):=by
  have hlen:=Z8i hd
  have hx:=(Z4q (xs:=[x]) hbb hd).head
  have e1:IntKind.i64.wrap ((p:Int)+1)=((p+1:Nat):Int):=Z36 (by omega)
  have e2:IntKind.i64.wrap (((p+1:Nat):Int) - 1)=(p:Int):=by rw [Zg6 _ (by omega) (by omega)]; omega
  refine Ev.neg (by show ¬ ((p:Int) ≥ ((b.length:Nat):Int)); omega) ?_
  show Ev (fun N=>(idx b (IntKind.wrap .i64 ((IntKind.wrap .i64 ((p:Int)+(1:Int))) - (1:Int)))).bind fun x2=>some (some (IntKind.wrap .i64 x2,(Z0k.mk b (IntKind.wrap .i64 ((p:Int)+(1:Int))))))) _
  rw [e1,e2]
  refine Ev.bindc (Zfr hd) ?_
  rw [Zg6 x (by omega) (by omega)]
  exact Ev.now _
theorem cnum_no {b:List Int} {p:Nat} (h:b.length≤p):Ev (fun N=>Z2l N (crd b p)) none :=
  Ev.pos (by show ((p:Int) ≥ ((b.length:Nat):Int)); omega) (Ev.now _)
theorem cnum_tot (b:List Int) (p:Nat) (hb:b.length≤500000) (hbb:bytesL b):(Ev (fun N=>Z2l N (crd b p)) none)∨∃ x rest,b.drop p=x::rest∧(0≤x∧x < 256)∧p+1≤b.length∧Ev (fun N=>Z2l N (crd b p)) (some (x,crd b (p+1))):=by
  by_cases h:b.length≤p
  · exact .inl (cnum_no h)
  · cases hd:b.drop p with
    | nil=>have:=Z84 hd; omega
    | cons x rest=>exact .inr ⟨x,rest,rfl,(Z4q (xs:=[x]) hbb hd).head,by omega,cnum_ok hb hbb hd⟩
theorem bor_i64 {a b:Nat} (ha:a < 4611686018427387904) (hb:b < 4611686018427387904):bor .i64 (a:Int) (b:Int)=((a ||| b:Nat):Int):=by
  unfold bor
  rw [BitVec.toNat_or,ofI (k:=IntKind.bits .i64) (by show a < 2 ^ 64; omega),ofI (k:=IntKind.bits .i64) (by show b < 2 ^ 64; omega)]
  have:a ||| b < 2 ^ 62:=Nat.or_lt_two_pow (show a < 2 ^ 62 by omega) (show b < 2 ^ 62 by omega)
  exact Zg6 _ (by omega) (by omega)
theorem join2 {x y:Int} (hx:0≤x∧x < 256) (hy:0≤y∧y < 256):bor .i64 (IntKind.wrap .i64 (x * 2 ^ (min (Int.toNat (8:Int)) (IntKind.bits .i64)))) y=((x.toNat * 256+y.toNat:Nat):Int):=by
  rw [show (2:Int) ^ (min (Int.toNat (8:Int)) (IntKind.bits .i64))=256 by decide,Zg6 _ (by omega) (by omega)]
  obtain ⟨m,rfl⟩:=Int.eq_ofNat_of_zero_le hx.1
  obtain ⟨n,rfl⟩:=Int.eq_ofNat_of_zero_le hy.1
  have e:(m:Int) * 256=((m * 256:Nat):Int):=by omega
  rw [e,bor_i64 (by omega) (by omega),or_byte m n (by omega),Int.toNat_natCast,Int.toNat_natCast]
theorem mayO_bytes {o:Z0d} (h:mayO o=true):opB o=[o.fK,o.fA,o.fB,o.fC]:=by
  have h:=of_decide_eq_true h
  unfold opB
  rw [Zg7,Zg7,Zg7,Zg7,show o.fK % 256=o.fK by omega,show o.fA % 256=o.fA by omega,show o.fB % 256=o.fB by omega,show o.fC % 256=o.fC by omega]
structure Fits (p:Z0c):Prop where
  ops:p.fOps.length≤120
  cons:p.fConsts.length≤16
  mayo:p.fOps.all mayO=true
  mayt:p.fConsts.all mayT=true
  small:∀ x ∈ p.fConsts,Small x
  w:∀ x ∈ p.fConsts,Z0t x
theorem Fits.laid {p:Z0c} (h:Fits p):laidP p=(bodyP p,0):=by
  unfold laidP
  rw [if_neg (by have:=h.ops; have:=h.cons; omega),if_pos ⟨h.mayo,h.mayt⟩]
theorem opsB_bytes:∀ l:List Z0d,bytesL (opsB l)
  | []=>Z8r
  | o::os=>(Z6v (Z7n _) (Z6v (Z7n _) (Z6v (Z7n _) (Z6v (Z7n _) Z8r)))).app (opsB_bytes os)
theorem Fits.bytes {p:Z0c} (h:Fits p):bytesL (bodyP p):=by
  have h1:=h.ops
  have h2:=h.cons
  unfold bodyP headP
  exact (((Z6v (by omega) (Z6v (by omega) Z8r)).app (opsB_bytes _)).app (Z6v (by omega) Z8r)).app (Zed _)
theorem Fits.len {p:Z0c} (h:Fits p):(bodyP p).length≤60000:=by
  have:=laidP_len p
  rw [h.laid] at this
  exact this
theorem bequal_ev (a b:List Int) (ha:bytesL a) (hb:bytesL b):Ev (fun N=>Zcq N a b) (decide (a=b)):=by
  have e:((Lift.bstr a).toList == (Lift.bstr b).toList)=decide (a=b):=by
    rw [Bool.eq_iff_iff,Z1a,decide_eq_true_eq]
    constructor
    · intro h
      have:=congrArg sbytes h
      rwa [Zco ha,Zco hb] at this
    · intro h; rw [h]
  show Ev (fun _=>some ((Lift.bstr a).toList == (Lift.bstr b).toList)) _
  rw [e]
  exact Ev.now _
theorem sameOps_loop:∀ (ts l:List Z0d) (i:Nat),l.drop i=ts→l.length≤100000→Ev (fun N=>Z3q N l l i) (.inl ())
  | [],l,i,hd,hl=>by
    have:=Z84 hd
    refine Ev.step ?_ (fun N=>by rw [Z3q])
    exact Ev.neg (by omega) (Ev.now _)
  | x::xs,l,i,hd,hl=>by
    have:=Z8i hd
    refine Ev.step ?_ (fun N=>by rw [Z3q,Z36 (by omega)])
    exact Ev.pos (by omega) (Ev.bindc (Zfr hd) (Ev.bindc (Zfr hd) (Ev.neg (fun h=>h (eq_Tapi_Op_iff.2 rfl)) (sameOps_loop xs l (i+1) (Z55 hd) hl))))
theorem Zf0 (p:Z0c) (h1:p.fOps.length≤100000) (hs:∀ x ∈ p.fConsts,Small x) (hc:cnts p.fConsts≤100000):Ev (fun N=>Z4b N p p) true:=by
  have hl:=cnts_len p.fConsts
  have ho:Ev (fun N=>Z7r N p.fOps p.fOps) true:=Ev.neg (fun h=>h rfl) (Ev.bind (sameOps_loop p.fOps p.fOps 0 rfl h1) (Ev.now _))
  have ht:Ev (fun N=>beehivelaw0_SameTerms N p.fConsts p.fConsts) true:=by
    refine Ev.step ?_ (fun N=>by rw [beehivelaw0_SameTerms])
    exact Ev.neg (fun h=>h rfl) (Ev.bind (Zc1 p.fConsts hs hc p.fConsts 0 rfl (by omega)) (Ev.now _))
  exact Ev.bind ho (Ev.pos rfl (Ev.bind ht (Ev.now _)))
end Go.Proofs.Ytcknifhhgeccfaa.Sh
