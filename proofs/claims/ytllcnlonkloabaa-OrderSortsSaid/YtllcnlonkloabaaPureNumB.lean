import Derived.Test.YtllcnlonkloabaaPureNumA
set_option linter.unusedVariables false
namespace Go.Proofs.Ytllcnlonkloabaa.Sh
open Go Lift Go.Proofs

theorem cmpI_ev (a b:Int):Ev (fun N=>Z5q N a b) (sgn (a - b)):=by
  refine Ev.bindc (a:=(a != a)) rfl (Ev.bindc (a:=(b != b)) rfl (Ev.neg (by simp) (Ev.neg (by simp) ?_)))
  unfold sgn
  by_cases h:a < b
  · refine Ev.pos h ?_
    rw [if_pos (by omega)]
    exact Ev.now _
  · refine Ev.neg h ?_
    by_cases h2:a > b
    · refine Ev.pos h2 ?_
      rw [if_neg (by omega),if_neg (by omega)]
      exact Ev.now _
    · refine Ev.neg h2 ?_
      rw [if_neg (by omega),if_pos (by omega)]
      exact Ev.now _
theorem cmpU_ev (a b:Int):Ev (fun N=>Z6w N a b) (sgn (a - b)):=cmpI_ev a b
theorem cmpMag_loop (a b:List Int) (ha:limbs a) (hb:limbs b) (hab:a.length=b.length) (hN:a.length < 1000000):∀ (d:Nat) (i:Int),i+1=(d:Int)→i < a.length →
    ∃ r,Ev (fun N=>Z60 N a b i) r∧(match r with | .inl _=>(0:Int) | .inr x=>x)=sgn (val (a.take d) - val (b.take d)):=by
  intro d
  induction d with
  | zero =>
    intro i hi hl
    refine ⟨.inl (), ?_,by simp [val,sgn]⟩
    refine Ev.step ?_ (fun N=>by rw [Z60])
    exact Ev.neg (by omega) (Ev.now _)
  | succ d ih =>
    intro i hi hl
    obtain rfl:i=(d:Int):=by omega
    have ra:=dg_range ha d
    have rb:=dg_range hb d
    have hw:IntKind.i64.wrap ((d:Int) - 1)=(d:Int) - 1:=Zf2 _ (by omega) (by omega)
    have la:=val_lt (Z8d ha d)
    have lb:=val_lt (Z8d hb d)
    have na:=Z7b (Z8d ha d)
    have nb:=Z7b (Z8d hb d)
    rw [List.length_take,Nat.min_eq_left (by omega)] at la lb
    rw [val_take a d (by omega),val_take b d (by omega)]
    by_cases h:dg a d=dg b d
    · obtain ⟨r,e,hr⟩:=ih ((d:Int) - 1) (by omega) (by omega)
      refine ⟨r, ?_, ?_⟩
      · refine Ev.step ?_ (fun N=>by rw [Z60,hw])
        refine Ev.pos (by omega) (Ev.bindc (idx_dg (by omega)) (Ev.bindc (idx_dg (by omega)) (Ev.bind (cmpU_ev _ _) (Ev.neg ?_ e))))
        rw [h]
        exact fun e=>e (Zcj.2 (by omega))
      · rw [hr,h]
        congr 1
        omega
    · refine ⟨.inr (sgn (dg a d - dg b d)), ?_, ?_⟩
      · refine Ev.step ?_ (fun N=>by rw [Z60])
        exact Ev.pos (by omega) (Ev.bindc (idx_dg (by omega)) (Ev.bindc (idx_dg (by omega)) (Ev.bind (cmpU_ev _ _) (Ev.pos (fun e=>h (by have:=Zcj.1 e; omega)) (Ev.now _)))))
      · show sgn (dg a d - dg b d)=_
        generalize (4294967296:Int) ^ d=P at *
        by_cases hlt:dg a d < dg b d
        · have:P * (dg a d+1)≤P * dg b d:=Int.mul_le_mul_of_nonneg_left (by omega) (by omega)
          rw [Z9w (by omega),Z9w (by grind)]
        · have:P * (dg b d+1)≤P * dg a d:=Int.mul_le_mul_of_nonneg_left (by omega) (by omega)
          rw [Zah (by omega),Zah (by grind)]
theorem cmpMag_ev (a b:List Int) (ha:norm a) (hb:norm b) (h1:a.length < 100000) (h2:b.length < 100000):Ev (fun N=>Zb6 N a b) (sgn (val a - val b)):=by
  refine Ev.bind (cmpI_ev _ _) ?_
  by_cases h:a.length=b.length
  · have hw:IntKind.i64.wrap (((a.length:Nat):Int) - 1)=(a.length:Int) - 1:=Zf2 _ (by omega) (by omega)
    obtain ⟨r,e,hr⟩:=cmpMag_loop a b ha.1 hb.1 h (by omega) a.length ((a.length:Int) - 1) (by omega) (by omega)
    rw [List.take_of_length_le (by omega),List.take_of_length_le (by omega)] at hr
    refine Ev.neg (fun e=>e (Zcj.2 (by omega))) ?_
    rw [hw]
    refine Ev.bind e ?_
    rw [← hr]
    cases r <;> exact Ev.now _
  · refine Ev.pos (fun e=>h (by have:=Zcj.1 e; omega)) ?_
    have na:=Z7b ha.1
    have nb:=Z7b hb.1
    have e:sgn (((a.length:Nat):Int) - ((b.length:Nat):Int))=sgn (val a - val b):=by
      by_cases hlt:a.length < b.length
      · have x:=norm_low hb (by intro e; rw [e] at hlt; simp at hlt)
        have y:=val_lt ha.1
        have z:(4294967296:Int) ^ a.length≤4294967296 ^ (b.length - 1):=pow_le' (by omega)
        have q:=Int.lt_of_lt_of_le y (Int.le_trans z x)
        rw [Z9w (by omega),Z9w (by omega)]
      · have x:=norm_low ha (fun e=>by have:=congrArg List.length e; rw [List.length_nil] at this; omega)
        have y:=val_lt hb.1
        have z:(4294967296:Int) ^ b.length≤4294967296 ^ (a.length - 1):=pow_le' (by omega)
        have q:=Int.lt_of_lt_of_le y (Int.le_trans z x)
        rw [Zah (by omega),Zah (by omega)]
    rw [e]
    exact Ev.now _
end Go.Proofs.Ytllcnlonkloabaa.Sh
