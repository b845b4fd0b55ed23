import Derived.Test.YtllcnlonkloabaaInv
import Derived.Test.YtllcnlonkloabaaLift4
set_option linter.unusedVariables false
namespace Go.Proofs.Ytllcnlonkloabaa.Sh
open Go Lift Go.Proofs
open Go.IntKind (wrap)
def val:List Int→Int
 |[]=>0
 |x::xs=>x+4294967296 * val xs
def limbs (l:List Int):Prop:=∀ x ∈ l,0≤x∧x < 4294967296
theorem Zfq:limbs []:=fun x h=>by cases h
theorem Zbn {x:Int} {xs:List Int} (h:limbs (x::xs)):(0≤x∧x < 4294967296)∧limbs xs:=⟨h x (by simp),fun y hy=>h y (by simp [hy])⟩
theorem Zea {x:Int} {xs:List Int} (h0:0≤x) (h1:x < 4294967296) (h:limbs xs):limbs (x::xs):=fun y hy=>by
 rcases List.mem_cons.1 hy with rfl | hy
 ·exact ⟨h0,h1⟩
 ·exact h y hy
theorem Zfl {a b:List Int} (ha:limbs a) (hb:limbs b):limbs (a++b):=fun x hx=>by
 rcases List.mem_append.1 hx with h | h
 ·exact ha x h
 ·exact hb x h
theorem limbs_drop {l:List Int} (h:limbs l) (n:Nat):limbs (l.drop n):=fun x hx=>h x (List.mem_of_mem_drop hx)
theorem Z4v {l:List Int} (h:limbs l) (n:Nat):limbs (l.take n):=fun x hx=>h x (zw hx)
theorem pow_pos' (n:Nat):(0:Int) < 4294967296 ^ n:=Int.pow_pos (by decide)
theorem pow_le' {m n:Nat} (h:m≤n):(4294967296:Int) ^ m≤4294967296 ^ n:=by
 obtain ⟨d,rfl⟩:∃ d,n=m+d:=⟨n - m,by omega⟩
 rw [Int.pow_add]
 have a:=pow_pos' m
 have b:=pow_pos' d
 have c:(4294967296:Int) ^ m * 1≤4294967296 ^ m * 4294967296 ^ d:=j6 (by omega) (by omega)
 omega
theorem Z4b {l:List Int} (h:limbs l):0≤val l:=by
 induction l with
 |nil=>simp [val]
 |cons x xs ih =>
  obtain ⟨hx,hxs⟩:=Zbn h
  have:=ih hxs
  simp only [val]
  omega
theorem val_lt {l:List Int} (h:limbs l):val l < 4294967296 ^ l.length:=by
 induction l with
 |nil=>simp [val]
 |cons x xs ih =>
  obtain ⟨hx,hxs⟩:=Zbn h
  have:=ih hxs
  simp only [val,xu,Int.pow_succ]
  omega
theorem Zg5 (a b:List Int):val (a++b)=val a+4294967296 ^ a.length * val b:=by
 induction a with
 |nil=>simp [val]
 |cons x xs ih =>
  simp only [uq,val,ih,xu,Int.pow_succ]
  grind
theorem val_one (x:Int):val [x]=x:=by simp [val]
theorem Ziu (l:List Int) (n:Nat) (h:n≤l.length):val l=val (l.take n)+4294967296 ^ n * val (l.drop n):=by
 have:=Zg5 (l.take n) (l.drop n)
 rw [ku,qy,jd h] at this
 exact this
def dg (l:List Int) (i:Nat):Int:=l.getD i 0
theorem Zg4 {l:List Int} (h:limbs l) (i:Nat):0≤dg l i∧dg l i < 4294967296:=by
 unfold dg
 by_cases hi:i < l.length
 ·rw [xe,yu hi]
  exact h _ (List.getElem_mem hi)
 ·rw [xe,qd (by omega)]
  simp
theorem dg_out {l:List Int} {i:Nat} (h:l.length≤i):dg l i=0:=by
 unfold dg
 rw [xe,qd h]
 rfl
theorem val_drop (l:List Int) (i:Nat):val (l.drop i)=dg l i+4294967296 * val (l.drop (i+1)):=by
 by_cases hi:i < l.length
 ·rw [List.drop_eq_getElem_cons hi]
  simp only [val]
  unfold dg
  rw [xe,yu hi]
  rfl
 ·rw [jw (by omega),jw (by omega),dg_out (by omega)]
  simp [val]
theorem Zdj (l:List Int) (i:Nat) (h:i < l.length):val (l.take (i+1))=val (l.take i)+4294967296 ^ i * dg l i:=by
 rw [List.take_succ_eq_append_getElem h,Zg5,val_one,qy,jd (by omega)]
 unfold dg
 rw [xe,yu h]
 rfl
theorem val_set (l:List Int) (i:Nat) (v:Int) (h:i < l.length):val (l.set i v)=val l+4294967296 ^ i * (v - dg l i):=by
 induction l generalizing i with
 |nil=>simp at h
 |cons x xs ih =>
  cases i with
  |zero=>simp only [List.set_cons_zero,val,dg,List.getD_cons_zero]; grind
  |succ i =>
   have:=ih i (by simpa using h)
   simp only [List.set_cons_succ,val,this,dg,List.getD_cons_succ,Int.pow_succ]
   grind
theorem limbs_set {l:List Int} (h:limbs l) (i:Nat) {v:Int} (h0:0≤v) (h1:v < 4294967296):limbs (l.set i v):=fun x hx=>by
 rcases List.mem_or_eq_of_mem_set hx with h' | h'
 ·exact h x h'
 ·subst h'; exact ⟨h0,h1⟩
theorem val_zeros (n:Nat):val (List.replicate n 0)=0:=by
 induction n with
 |zero=>rfl
 |succ n ih=>simp only [List.replicate_succ,val,ih]; omega
theorem Zeb (n:Nat):limbs (List.replicate n 0):=fun x hx=>by
 have:=List.eq_of_mem_replicate hx
 omega
def toL (n:Nat):List Int:=if h:n=0 then [] else ((n % 4294967296:Nat):Int)::toL (n / 4294967296)
termination_by n
decreasing_by omega
theorem Z61:toL 0=[]:=by rw [toL]; simp
theorem Zap {n:Nat} (h:n ≠ 0):toL n=((n % 4294967296:Nat):Int)::toL (n / 4294967296):=by rw [toL]; simp [h]
theorem val_toL (n:Nat):val (toL n)=(n:Int):=by
 induction n using Nat.strongRecOn with
 |_ n ih =>
  by_cases h:n=0
  ·subst h; rw [Z61]; rfl
  ·rw [Zap h]
   simp only [val,ih (n / 4294967296) (by omega)]
   omega
theorem limbs_toL (n:Nat):limbs (toL n):=by
 induction n using Nat.strongRecOn with
 |_ n ih =>
  by_cases h:n=0
  ·subst h; rw [Z61]; exact Zfq
  ·rw [Zap h]
   exact Zea (by omega) (by omega) (ih (n / 4294967296) (by omega))
def norm (l:List Int):Prop:=limbs l∧(l ≠ []→dg l (l.length - 1) ≠ 0)
theorem norm_tail {x:Int} {xs:List Int} (h:norm (x::xs)):norm xs:=by
 refine ⟨(Zbn h.1).2,fun hne=>?_⟩
 have:=h.2 (by simp)
 cases xs with
 |nil=>exact absurd rfl hne
 |cons y ys=>simpa [dg] using this
theorem norm_pos {l:List Int} (h:norm l) (hne:l ≠ []):0 < val l:=by
 induction l with
 |nil=>exact absurd rfl hne
 |cons x xs ih =>
  obtain ⟨hx,hxs⟩:=Zbn h.1
  cases xs with
  |nil =>
   have:=h.2 (by simp)
   simp [dg] at this
   simp only [val]
   omega
  |cons y ys =>
   have:=ih (norm_tail h) (by simp)
   simp only [val] at this ⊢
   omega
theorem Zil {l:List Int} (h:norm l):l=toL (val l).toNat:=by
 induction l with
 |nil=>simp only [val,Int.toNat_zero,Z61]
 |cons x xs ih =>
  obtain ⟨hx,hxs⟩:=Zbn h.1
  have hp:=norm_pos h (by simp)
  have hn:=Z4b hxs
  have ih':=ih (norm_tail h)
  rw [Zap (by omega)]
  have e1:(val (x::xs)).toNat % 4294967296=x.toNat:=by simp only [val]; omega
  have e2:(val (x::xs)).toNat / 4294967296=(val xs).toNat:=by simp only [val]; omega
  rw [e1,e2, ← ih']
  congr 1
  omega
theorem toL_norm (n:Nat):norm (toL n):=by
 refine ⟨limbs_toL n, ?_⟩
 induction n using Nat.strongRecOn with
 |_ n ih =>
  by_cases h:n=0
  ·subst h; intro hne; exact absurd Z61 hne
  ·intro _
   rw [Zap h]
   by_cases h2:n / 4294967296=0
   ·rw [h2,Z61]
    simp [dg]
    omega
   ·have:=ih (n / 4294967296) (by omega) (by rw [Zap h2]; simp)
    have hl:(toL (n / 4294967296)).length ≠ 0:=by rw [Zap h2]; simp
    simp only [xu,Nat.add_sub_cancel]
    unfold dg at this ⊢
    obtain ⟨m,hm⟩:∃ m,(toL (n / 4294967296)).length=m+1:=⟨_,(Nat.succ_pred_eq_of_ne_zero hl).symm⟩
    rw [hm] at this ⊢
    simpa using this
theorem Zg6 {l:List Int} (h:norm l) (hne:l ≠ []):(4294967296:Int) ^ (l.length - 1)≤val l:=by
 have hl:0 < l.length:=List.length_pos_iff.2 hne
 rw [Ziu l (l.length - 1) (by omega),val_drop]
 have a:=Z4b (Z4v h.1 (l.length - 1))
 have b:=(Zg4 h.1 (l.length - 1)).1
 have c:=h.2 hne
 rw [jw (by omega)]
 simp only [val]
 have d:(4294967296:Int) ^ (l.length - 1) * 1≤4294967296 ^ (l.length - 1) * (dg l (l.length - 1)+4294967296 * 0):=j6 (by omega) (Int.le_of_lt (pow_pos' _))
 omega
theorem norm_len {l:List Int} (h:norm l) (n:Nat):l.length≤n ↔ val l < 4294967296 ^ n:=by
 constructor
 ·intro hl
  exact wm (val_lt h.1) (pow_le' hl)
 ·intro hv
  rcases ui n l.length with c | c
  ·have hne:l ≠ []:=by intro e; rw [e] at c; simp at c
   have a:=Zg6 h hne
   have b:(4294967296:Int) ^ n≤4294967296 ^ (l.length - 1):=pow_le' (by omega)
   omega
  ·exact c
theorem toL_len (v:Int) (n:Nat) (h:0≤v):((toL v.toNat).length≤n ↔ v < 4294967296 ^ n):=by
 rw [norm_len (toL_norm _) n,val_toL]
 omega
theorem Zii (v:Int) (h:0≤v):(0 < (toL v.toNat).length ↔ v ≠ 0):=by
 by_cases e:v=0
 ·subst e; simp [Z61]
 ·rw [Zap (by omega)]
  simp [e]
def TOP:Int:=115792089237316195423570985008687907853269984665640564039457584007913129639936
theorem TOP_eq:(4294967296:Int) ^ 8=TOP:=by decide +kernel
def sgn (x:Int):Int:=if x < 0 then -1 else if x=0 then 0 else 1
theorem Z80 {x:Int}:sgn x=0 ↔ x=0:=by
 unfold sgn
 split
 ·constructor <;> intro h <;> omega
 ·split
  ·constructor <;> intro h <;> omega
  ·constructor <;> intro h <;> omega
theorem Z9v {x:Int} (h:x < 0):sgn x=-1:=by unfold sgn; rw [if_pos h]
theorem Zal {x:Int} (h:0 < x):sgn x=1:=by unfold sgn; rw [if_neg (by omega),if_neg (by omega)]
theorem idx_dg {l:List Int} {i:Nat} (h:i < l.length):idx l (i:Int)=some (dg l i):=by
 rw [idx_eq h]
 unfold dg
 rw [xe,yu h]
 rfl
theorem w32 (x:Int):IntKind.u32.wrap x=x % 4294967296:=by simp [wrap,IntKind.bits,IntKind.signed]
theorem p32u:yh 32=4294967296:=by decide
theorem fdiv32 (x:Int):Int.fdiv x 4294967296=x / 4294967296:=um x (by decide)
theorem limbs_of {l:List Int} (h:ListR (InR .u32) l):limbs l:=fun x hx=>by
 have:(Lit.int .u32 x).wf=true:=h.all x hx
 simp [Lit.wf,IntKind.min,IntKind.max,IntKind.bits,IntKind.signed] at this
 omega
end Go.Proofs.Ytllcnlonkloabaa.Sh
