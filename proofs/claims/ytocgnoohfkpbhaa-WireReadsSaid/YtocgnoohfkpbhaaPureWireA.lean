import Derived.Test.YtocgnoohfkpbhaaPureTermMay
import Derived.Test.YtocgnoohfkpbhaaLift4
set_option linter.unusedVariables false
set_option linter.unusedSimpArgs false
namespace Go.Proofs.Ytocgnoohfkpbhaa.Sh
open Go Lift Go.Proofs
def beB (n:Nat):Nat→List Int
  | 0=>[]
  | k+1=>((n / 256 ^ k % 256:Nat):Int)::beB n k
theorem Z4x (n:Nat):∀ k,(beB n k).length=k
  | 0=>rfl
  | k+1=>by rw [beB,List.length_cons,Z4x n k]
def bytesL (xs:List Int):Prop:=∀ x ∈ xs,0≤x∧x < 256
theorem bytesL.tail {x:Int} {xs:List Int} (h:bytesL (x::xs)):bytesL xs:=fun y hy=>h y (List.mem_cons_of_mem x hy)
theorem bytesL.head {x:Int} {xs:List Int} (h:bytesL (x::xs)):0≤x∧x < 256:=h x List.mem_cons_self
theorem bytesL.app {xs ys:List Int} (h:bytesL xs) (k:bytesL ys):bytesL (xs++ys):=fun z hz=>by rcases List.mem_append.1 hz with hz | hz; exact h z hz; exact k z hz
theorem bytesL.left {xs ys:List Int} (h:bytesL (xs++ys)):bytesL xs:=fun z hz=>h z (List.mem_append_left ys hz)
theorem bytesL.right {xs ys:List Int} (h:bytesL (xs++ys)):bytesL ys:=fun z hz=>h z (List.mem_append_right xs hz)
def valB (v:Nat):List Int→Nat
  | []=>v
  | x::xs=>valB (v * 256+x.toNat) xs
theorem valB_lt:∀ (xs:List Int) (v b:Nat),bytesL xs→v < b→valB v xs < b * 256 ^ xs.length
  | [],v,b,h,hv=>by simpa [valB] using hv
  | x::xs,v,b,h,hv=>by
    have hx:=h.head
    have:=valB_lt xs (v * 256+x.toNat) (b * 256) h.tail (by omega)
    rw [valB,List.length_cons,Nat.pow_succ,Nat.mul_comm (256 ^ xs.length) 256, ← Nat.mul_assoc]
    exact this
theorem valB_split:∀ (xs:List Int) (v:Nat),valB v xs=v * 256 ^ xs.length+valB 0 xs
  | [],v=>by simp [valB]
  | x::xs,v=>by
    rw [valB,valB,valB_split xs (v * 256+x.toNat),valB_split xs (0 * 256+x.toNat),List.length_cons,Nat.pow_succ,Nat.add_mul,Nat.zero_mul,Nat.zero_add,Nat.mul_assoc v 256,Nat.mul_comm 256 (256 ^ xs.length)]
    omega
theorem Z8f:∀ (xs:List Int) (v:Nat),bytesL xs→beB (valB v xs) xs.length=xs
  | [],v,h=>rfl
  | x::xs,v,h=>by
    have hx:=h.head
    have h0:=valB_lt xs 0 1 h.tail (by omega)
    rw [Nat.one_mul] at h0
    have hp:0 < 256 ^ xs.length:=Nat.pow_pos (by omega)
    rw [valB,List.length_cons,beB,Z8f xs _ h.tail,valB_split xs,Nat.add_comm,Nat.add_mul_div_right _ _ hp,Nat.div_eq_of_lt h0,Nat.zero_add,Nat.mul_add_mod_self_right,Nat.mod_eq_of_lt (by omega),Int.toNat_of_nonneg hx.1]
theorem Zby (n:Nat):∀ (k v:Nat),valB v (beB n k)=v * 256 ^ k+n % 256 ^ k
  | 0,v=>by simp [beB,valB]; omega
  | k+1,v=>by
    rw [beB,valB,Int.toNat_natCast,Zby n k,Nat.mod_pow_succ,Nat.pow_succ,Nat.add_mul,Nat.mul_assoc v 256,Nat.mul_comm 256 (256 ^ k),Nat.mul_comm (256 ^ k) (n / 256 ^ k % 256)]
    omega
def u64n (x:Int):Nat:=(x % 18446744073709551616).toNat
theorem Z9s {x:Int} (h0:0≤x) (h1:x < 18446744073709551616):u64n x=x.toNat:=by unfold u64n; omega
def magB:List Int→List Int
  | []=>[]
  | x::xs=>beB (u64n x) 4++magB xs
theorem Zbt:∀ l:List Int,(magB l).length=4 * l.length
  | []=>rfl
  | x::xs=>by rw [magB,List.length_append,Z4x,Zbt xs,List.length_cons]; omega
theorem Z8i (s:ByteArray):(sbytes s).length=s.size:=by unfold sbytes; rw [List.length_map]; rfl
def headB (t:Z02):List Int :=
  if t.fKind=1 then beB (u64n t.fN) 8
  else if t.fKind=2 then (if t.fNum.fNeg=true then 1 else 0)::IntKind.u8.wrap (t.fNum.fMag.length:Int)::magB t.fNum.fMag
  else if t.fKind=3 then beB (u64n t.fBits) 8
  else if t.fKind=4∨t.fKind=5 then [IntKind.u8.wrap t.fN]
  else if t.fKind=6 then [IntKind.u8.wrap (t.fArgs.length:Int)]
  else if t.fKind=9 then beB (u64n (t.fBytes.size:Int)) 2++sbytes t.fBytes
  else []
mutual
def layT:Z02→List Int
  | ⟨k,n,m,b,s,args⟩=>IntKind.u8.wrap k::(headB ⟨k,n,m,b,s,args⟩++(if k=6∨k=8 then layTs args else []))
def layTs:List Z02→List Int
  | []=>[]
  | x::xs=>layT x++layTs xs
end
theorem Z5v (t:Z02):layT t=IntKind.u8.wrap t.fKind::(headB t++(if t.fKind=6∨t.fKind=8 then layTs t.fArgs else [])):=by cases t; rw [layT]
end Go.Proofs.Ytocgnoohfkpbhaa.Sh
