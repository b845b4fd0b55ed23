import Derived.Test.YtllcnlonkloabaaInv
import Derived.Test.YtllcnlonkloabaaLift3
set_option linter.unusedVariables false
namespace Go.Proofs.Ytllcnlonkloabaa.Sh
open Go Lift Go.Proofs

def val:List Int→Int
  | []=>0
  | x::xs=>x+4294967296 * val xs
def limbs (l:List Int):Prop:=∀ x ∈ l,0≤x∧x < 4294967296
theorem limbs_nil:limbs []:=fun x h=>by cases h
theorem Zaq {x:Int} {xs:List Int} (h:limbs (x::xs)):(0≤x∧x < 4294967296)∧limbs xs:=⟨h x (by simp),fun y hy=>h y (by simp [hy])⟩
theorem Zde {x:Int} {xs:List Int} (h0:0≤x) (h1:x < 4294967296) (h:limbs xs):limbs (x::xs):=fun y hy=>by
  rcases List.mem_cons.1 hy with rfl | hy
  · exact ⟨h0,h1⟩
  · exact h y hy
theorem limbs_drop {l:List Int} (h:limbs l) (n:Nat):limbs (l.drop n):=fun x hx=>h x (List.mem_of_mem_drop hx)
theorem Z8d {l:List Int} (h:limbs l) (n:Nat):limbs (l.take n):=fun x hx=>h x (List.mem_of_mem_take hx)
theorem pow_pos' (n:Nat):(0:Int) < 4294967296 ^ n:=Int.pow_pos (by decide)
theorem pow_le' {m n:Nat} (h:m≤n):(4294967296:Int) ^ m≤4294967296 ^ n:=by
  obtain ⟨d,rfl⟩:∃ d,n=m+d:=⟨n - m,by omega⟩
  rw [Int.pow_add]
  have a:=pow_pos' m
  have b:=pow_pos' d
  have c:(4294967296:Int) ^ m * 1≤4294967296 ^ m * 4294967296 ^ d:=Int.mul_le_mul_of_nonneg_left (by omega) (by omega)
  omega
theorem Z7b {l:List Int} (h:limbs l):0≤val l:=by
  induction l with
  | nil=>simp [val]
  | cons x xs ih =>
    obtain ⟨hx,hxs⟩:=Zaq h
    have:=ih hxs
    simp only [val]
    omega
theorem val_lt {l:List Int} (h:limbs l):val l < 4294967296 ^ l.length:=by
  induction l with
  | nil=>simp [val]
  | cons x xs ih =>
    obtain ⟨hx,hxs⟩:=Zaq h
    have:=ih hxs
    simp only [val,List.length_cons,Int.pow_succ]
    omega
theorem val_append (a b:List Int):val (a++b)=val a+4294967296 ^ a.length * val b:=by
  induction a with
  | nil=>simp [val]
  | cons x xs ih =>
    simp only [List.cons_append,val,ih,List.length_cons,Int.pow_succ]
    grind
theorem val_one (x:Int):val [x]=x:=by simp [val]
theorem Zdp (l:List Int) (n:Nat) (h:n≤l.length):val l=val (l.take n)+4294967296 ^ n * val (l.drop n):=by
  have:=val_append (l.take n) (l.drop n)
  rw [List.take_append_drop,List.length_take,Nat.min_eq_left h] at this
  exact this
def dg (l:List Int) (i:Nat):Int:=l.getD i 0
theorem dg_range {l:List Int} (h:limbs l) (i:Nat):0≤dg l i∧dg l i < 4294967296:=by
  unfold dg
  by_cases hi:i < l.length
  · rw [List.getD_eq_getElem?_getD,List.getElem?_eq_getElem hi]
    exact h _ (List.getElem_mem hi)
  · rw [List.getD_eq_getElem?_getD,List.getElem?_eq_none (by omega)]
    simp
theorem dg_out {l:List Int} {i:Nat} (h:l.length≤i):dg l i=0:=by
  unfold dg
  rw [List.getD_eq_getElem?_getD,List.getElem?_eq_none h]
  rfl
theorem val_drop (l:List Int) (i:Nat):val (l.drop i)=dg l i+4294967296 * val (l.drop (i+1)):=by
  by_cases hi:i < l.length
  · rw [List.drop_eq_getElem_cons hi]
    simp only [val]
    unfold dg
    rw [List.getD_eq_getElem?_getD,List.getElem?_eq_getElem hi]
    rfl
  · rw [List.drop_eq_nil_of_le (by omega),List.drop_eq_nil_of_le (by omega),dg_out (by omega)]
    simp [val]
theorem val_take (l:List Int) (i:Nat) (h:i < l.length):val (l.take (i+1))=val (l.take i)+4294967296 ^ i * dg l i:=by
  rw [List.take_succ_eq_append_getElem h,val_append,val_one,List.length_take,Nat.min_eq_left (by omega)]
  unfold dg
  rw [List.getD_eq_getElem?_getD,List.getElem?_eq_getElem h]
  rfl
theorem val_set (l:List Int) (i:Nat) (v:Int) (h:i < l.length):val (l.set i v)=val l+4294967296 ^ i * (v - dg l i):=by
  induction l generalizing i with
  | nil=>simp at h
  | cons x xs ih =>
    cases i with
    | zero=>simp only [List.set_cons_zero,val,dg,List.getD_cons_zero]; grind
    | succ i =>
      have:=ih i (by simpa using h)
      simp only [List.set_cons_succ,val,this,dg,List.getD_cons_succ,Int.pow_succ]
      grind
theorem limbs_set {l:List Int} (h:limbs l) (i:Nat) {v:Int} (h0:0≤v) (h1:v < 4294967296):limbs (l.set i v):=fun x hx=>by
  rcases List.mem_or_eq_of_mem_set hx with h' | h'
  · exact h x h'
  · subst h'; exact ⟨h0,h1⟩
theorem val_zeros (n:Nat):val (List.replicate n 0)=0:=by
  induction n with
  | zero=>rfl
  | succ n ih=>simp only [List.replicate_succ,val,ih]; omega
theorem limbs_zeros (n:Nat):limbs (List.replicate n 0):=fun x hx=>by
  have:=List.eq_of_mem_replicate hx
  omega
def toL (n:Nat):List Int:=if h:n=0 then [] else ((n % 4294967296:Nat):Int)::toL (n / 4294967296)
termination_by n
decreasing_by omega
theorem Z96:toL 0=[]:=by rw [toL]; simp
theorem Zd1 {n:Nat} (h:n ≠ 0):toL n=((n % 4294967296:Nat):Int)::toL (n / 4294967296):=by rw [toL]; simp [h]
theorem val_toL (n:Nat):val (toL n)=(n:Int):=by
  induction n using Nat.strongRecOn with
  | _ n ih =>
    by_cases h:n=0
    · subst h; rw [Z96]; rfl
    · rw [Zd1 h]
      simp only [val,ih (n / 4294967296) (by omega)]
      omega
theorem limbs_toL (n:Nat):limbs (toL n):=by
  induction n using Nat.strongRecOn with
  | _ n ih =>
    by_cases h:n=0
    · subst h; rw [Z96]; exact limbs_nil
    · rw [Zd1 h]
      exact Zde (by omega) (by omega) (ih (n / 4294967296) (by omega))
def norm (l:List Int):Prop:=limbs l∧(l ≠ []→dg l (l.length - 1) ≠ 0)
theorem norm_tail {x:Int} {xs:List Int} (h:norm (x::xs)):norm xs:=by
  refine ⟨(Zaq h.1).2,fun hne=>?_⟩
  have:=h.2 (by simp)
  cases xs with
  | nil=>exact absurd rfl hne
  | cons y ys=>simpa [dg] using this
theorem norm_pos {l:List Int} (h:norm l) (hne:l ≠ []):0 < val l:=by
  induction l with
  | nil=>exact absurd rfl hne
  | cons x xs ih =>
    obtain ⟨hx,hxs⟩:=Zaq h.1
    cases xs with
    | nil =>
      have:=h.2 (by simp)
      simp [dg] at this
      simp only [val]
      omega
    | cons y ys =>
      have:=ih (norm_tail h) (by simp)
      simp only [val] at this ⊢
      omega
theorem norm_toL {l:List Int} (h:norm l):l=toL (val l).toNat:=by
  induction l with
  | nil=>simp only [val,Int.toNat_zero,Z96]
  | cons x xs ih =>
    obtain ⟨hx,hxs⟩:=Zaq h.1
    have hp:=norm_pos h (by simp)
    have hn:=Z7b hxs
    have ih':=ih (norm_tail h)
    rw [Zd1 (by omega)]
    have e1:(val (x::xs)).toNat % 4294967296=x.toNat:=by simp only [val]; omega
    have e2:(val (x::xs)).toNat / 4294967296=(val xs).toNat:=by simp only [val]; omega
    rw [e1,e2, ← ih']
    congr 1
    omega
theorem toL_norm (n:Nat):norm (toL n):=by
  refine ⟨limbs_toL n, ?_⟩
  induction n using Nat.strongRecOn with
  | _ n ih =>
    by_cases h:n=0
    · subst h; intro hne; exact absurd Z96 hne
    · intro _
      rw [Zd1 h]
      by_cases h2:n / 4294967296=0
      · rw [h2,Z96]
        simp [dg]
        omega
      · have:=ih (n / 4294967296) (by omega) (by rw [Zd1 h2]; simp)
        have hl:(toL (n / 4294967296)).length ≠ 0:=by rw [Zd1 h2]; simp
        simp only [List.length_cons,Nat.add_sub_cancel]
        unfold dg at this ⊢
        obtain ⟨m,hm⟩:∃ m,(toL (n / 4294967296)).length=m+1:=⟨_,(Nat.succ_pred_eq_of_ne_zero hl).symm⟩
        rw [hm] at this ⊢
        simpa using this
theorem norm_low {l:List Int} (h:norm l) (hne:l ≠ []):(4294967296:Int) ^ (l.length - 1)≤val l:=by
  have hl:0 < l.length:=List.length_pos_iff.2 hne
  rw [Zdp l (l.length - 1) (by omega),val_drop]
  have a:=Z7b (Z8d h.1 (l.length - 1))
  have b:=(dg_range h.1 (l.length - 1)).1
  have c:=h.2 hne
  rw [List.drop_eq_nil_of_le (by omega)]
  simp only [val]
  have d:(4294967296:Int) ^ (l.length - 1) * 1≤4294967296 ^ (l.length - 1) * (dg l (l.length - 1)+4294967296 * 0):=Int.mul_le_mul_of_nonneg_left (by omega) (Int.le_of_lt (pow_pos' _))
  omega
theorem norm_len {l:List Int} (h:norm l) (n:Nat):l.length≤n ↔ val l < 4294967296 ^ n:=by
  constructor
  · intro hl
    exact Int.lt_of_lt_of_le (val_lt h.1) (pow_le' hl)
  · intro hv
    rcases Nat.lt_or_ge n l.length with c | c
    · have hne:l ≠ []:=by intro e; rw [e] at c; simp at c
      have a:=norm_low h hne
      have b:(4294967296:Int) ^ n≤4294967296 ^ (l.length - 1):=pow_le' (by omega)
      omega
    · exact c
theorem toL_len (v:Int) (n:Nat) (h:0≤v):((toL v.toNat).length≤n ↔ v < 4294967296 ^ n):=by
  rw [norm_len (toL_norm _) n,val_toL]
  omega
theorem toL_empty (v:Int) (h:0≤v):(0 < (toL v.toNat).length ↔ v ≠ 0):=by
  by_cases e:v=0
  · subst e; simp [Z96]
  · rw [Zd1 (by omega)]
    simp [e]
def TOP:Int:=115792089237316195423570985008687907853269984665640564039457584007913129639936
theorem TOP_eq:(4294967296:Int) ^ 8=TOP:=by decide +kernel
def sgn (x:Int):Int:=if x < 0 then -1 else if x=0 then 0 else 1
theorem Zcj {x:Int}:sgn x=0 ↔ x=0:=by
  unfold sgn
  split
  · constructor <;> intro h <;> omega
  · split
    · constructor <;> intro h <;> omega
    · constructor <;> intro h <;> omega
theorem Z9w {x:Int} (h:x < 0):sgn x=-1:=by unfold sgn; rw [if_pos h]
theorem Zah {x:Int} (h:0 < x):sgn x=1:=by unfold sgn; rw [if_neg (by omega),if_neg (by omega)]
theorem idx_dg {l:List Int} {i:Nat} (h:i < l.length):idx l (i:Int)=some (dg l i):=by
  rw [idx_eq h]
  unfold dg
  rw [List.getD_eq_getElem?_getD,List.getElem?_eq_getElem h]
  rfl
theorem w32 (x:Int):IntKind.u32.wrap x=x % 4294967296:=by simp [IntKind.wrap,IntKind.bits,IntKind.signed]
theorem p32u:(2:Int) ^ (min (Int.toNat (32:Int)) (IntKind.bits .u64))=4294967296:=by decide
theorem fdiv32 (x:Int):Int.fdiv x 4294967296=x / 4294967296:=Int.fdiv_eq_ediv_of_nonneg x (by decide)
theorem limbs_of {l:List Int} (h:ListR (InR .u32) l):limbs l:=fun x hx=>by
  have:(Lit.int .u32 x).wf=true:=h.all x hx
  simp [Lit.wf,IntKind.min,IntKind.max,IntKind.bits,IntKind.signed] at this
  omega
end Go.Proofs.Ytllcnlonkloabaa.Sh
