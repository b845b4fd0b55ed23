import Derived.Test.YtcknifhhgeccfaaPureTermMay
import Derived.Test.YtcknifhhgeccfaaLift3
set_option linter.unusedVariables false
set_option linter.unusedSimpArgs false
namespace Go.Proofs.Ytcknifhhgeccfaa.Sh
open Go Lift Go.Proofs
def beB (n:Nat):Nat→List Int
  | 0=>[]
  | k+1=>((n / 256 ^ k % 256:Nat):Int)::beB n k
theorem Zc3 (n:Nat):∀ k,(beB n k).length=k
  | 0=>rfl
  | k+1=>by rw [beB,List.length_cons,Zc3 n k]
def bytesL (xs:List Int):Prop:=∀ x ∈ xs,0≤x∧x < 256
theorem bytesL.tail {x:Int} {xs:List Int} (h:bytesL (x::xs)):bytesL xs:=fun y hy=>h y (List.mem_cons_of_mem x hy)
theorem bytesL.app {xs ys:List Int} (h:bytesL xs) (k:bytesL ys):bytesL (xs++ys):=fun z hz=>by rcases List.mem_append.1 hz with hz | hz; exact h z hz; exact k z hz
theorem bytesL.left {xs ys:List Int} (h:bytesL (xs++ys)):bytesL xs:=fun z hz=>h z (List.mem_append_left ys hz)
theorem bytesL.right {xs ys:List Int} (h:bytesL (xs++ys)):bytesL ys:=fun z hz=>h z (List.mem_append_right xs hz)
theorem shr_byte (n k:Nat) (hk:k≤7):shr .u64 (n:Int) (IntKind.i64.wrap ((8:Int) * (k:Int)))=some ((n / 256 ^ k:Nat):Int):=by
  have e:IntKind.i64.wrap ((8:Int) * (k:Int))=((8 * k:Nat):Int):=by rw [wrapI _ (by omega) (by omega)]; omega
  rw [e,shr_nat (by omega),Nat.pow_mul]
theorem wrapB (n:Nat):IntKind.u8.wrap (n:Int)=((n % 256:Nat):Int):=by rw [wrapU8]; omega
theorem put_loop (n:Nat):∀ (k:Nat) (a:List Int),k≤8→a.length+k≤900000→Ev (fun N=>Z8s N (n:Int) a ((k:Int) - 1)) (a++beB n k)
  | 0,a,hk,hl=>by
    refine Ev.step ?_ (fun N=>by rw [Z8s])
    rw [beB,List.append_nil]
    exact Ev.neg (by omega) (Ev.now _)
  | k+1,a,hk,hl=>by
    have ih:=put_loop n k (a++[((n / 256 ^ k % 256:Nat):Int)]) (by omega) (by rw [List.length_append]; show a.length+1+k≤_; omega)
    rw [List.append_assoc] at ih
    have e:(((k+1:Nat):Int) - 1)=(k:Int):=by omega
    rw [e,beB]
    refine Ev.step ?_ (fun N=>by rw [Z8s])
    refine Ev.pos (by omega) (Ev.bindc (shr_byte n k (by omega)) ?_)
    rw [wrapB]
    refine Ev.bindc (app_eq (by rw [lim_eq]; show a.length+1≤_; omega)) ?_
    rw [wrapI ((k:Int) - 1) (by omega) (by omega)]
    exact ih
theorem put_ev (n k:Nat) (x z:Int) (a:List Int) (hx:x=(n:Int)) (hz:z=(k:Int)) (hk:k≤8) (hl:a.length+k≤900000):Ev (fun N=>Zc9 N a x z) (a++beB n k):=by
  subst hx hz
  have h:=put_loop n k a hk hl
  rw [← wrapI ((k:Int) - 1) (by omega) (by omega)] at h
  exact Ev.bind h (Ev.now _)
theorem rput_loop (n:Nat):∀ (k:Nat) (a:List Int),k≤8→a.length+k≤900000→Ev (fun N=>Z4x N (n:Int) a ((k:Int) - 1)) (a++beB n k)
  | 0,a,hk,hl=>by
    refine Ev.step ?_ (fun N=>by rw [Z4x])
    rw [beB,List.append_nil]
    exact Ev.neg (by omega) (Ev.now _)
  | k+1,a,hk,hl=>by
    have ih:=rput_loop n k (a++[((n / 256 ^ k % 256:Nat):Int)]) (by omega) (by rw [List.length_append]; show a.length+1+k≤_; omega)
    rw [List.append_assoc] at ih
    have e:(((k+1:Nat):Int) - 1)=(k:Int):=by omega
    rw [e,beB]
    refine Ev.step ?_ (fun N=>by rw [Z4x])
    refine Ev.pos (by omega) (Ev.bindc (shr_byte n k (by omega)) ?_)
    rw [wrapB]
    refine Ev.bindc (app_eq (by rw [lim_eq]; show a.length+1≤_; omega)) ?_
    rw [wrapI ((k:Int) - 1) (by omega) (by omega)]
    exact ih
theorem Zd5 (n k:Nat) (x z:Int) (a:List Int) (hx:x=(n:Int)) (hz:z=(k:Int)) (hk:k≤8) (hl:a.length+k≤900000):Ev (fun N=>Z3m N a x z) (a++beB n k):=by
  subst hx hz
  have h:=rput_loop n k a hk hl
  rw [← wrapI ((k:Int) - 1) (by omega) (by omega)] at h
  exact Ev.bind h (Ev.now _)
def u64n (x:Int):Nat:=(x % 18446744073709551616).toNat
theorem Z9j (x:Int):IntKind.u64.wrap x=((u64n x:Nat):Int):=by rw [wrapU_eq]; unfold u64n; omega
theorem u64n_nn {x:Int} (h0:0≤x) (h1:x < 18446744073709551616):u64n x=x.toNat:=by unfold u64n; omega
def magB:List Int→List Int
  | []=>[]
  | x::xs=>beB (u64n x) 4++magB xs
theorem magB_len:∀ l:List Int,(magB l).length=4 * l.length
  | []=>rfl
  | x::xs=>by rw [magB,List.length_append,Zc3,magB_len xs,List.length_cons]; omega
theorem sbytes_len (s:ByteArray):(sbytes s).length=s.size:=by unfold sbytes; rw [List.length_map]; rfl
def headB (t:Z03):List Int :=
  if t.fKind=1 then beB (u64n t.fN) 8
  else if t.fKind=2 then (if t.fNum.fNeg=true then 1 else 0)::IntKind.u8.wrap (t.fNum.fMag.length:Int)::magB t.fNum.fMag
  else if t.fKind=3 then beB (u64n t.fBits) 8
  else if t.fKind=4∨t.fKind=5 then [IntKind.u8.wrap t.fN]
  else if t.fKind=6 then [IntKind.u8.wrap (t.fArgs.length:Int)]
  else if t.fKind=9 then beB (u64n (t.fBytes.size:Int)) 2++sbytes t.fBytes
  else []
mutual
def layT:Z03→List Int
  | ⟨k,n,m,b,s,args⟩=>IntKind.u8.wrap k::(headB ⟨k,n,m,b,s,args⟩++(if k=6∨k=8 then layTs args else []))
def layTs:List Z03→List Int
  | []=>[]
  | x::xs=>layT x++layTs xs
end
theorem layT_eq (t:Z03):layT t=IntKind.u8.wrap t.fKind::(headB t++(if t.fKind=6∨t.fKind=8 then layTs t.fArgs else [])):=by cases t; rw [layT]
theorem headB_len (t:Z03):((headB t).length:Int)≤if t.fKind=2 then 2+4 * (t.fNum.fMag.length:Int) else if t.fKind=9 then 2+(t.fBytes.size:Int) else if t.fKind=6∨t.fKind=8 then 1 else 8:=by
  unfold headB
  by_cases k1:t.fKind=1
  · rw [if_pos k1,Zc3,if_neg (by omega),if_neg (by omega),if_neg (by omega)]; decide
  rw [if_neg k1]
  by_cases k2:t.fKind=2
  · rw [if_pos k2,if_pos k2]; simp [magB_len]; omega
  rw [if_neg k2,if_neg k2]
  by_cases k3:t.fKind=3
  · rw [if_pos k3,Zc3,if_neg (by omega),if_neg (by omega)]; decide
  rw [if_neg k3]
  by_cases k4:t.fKind=4∨t.fKind=5
  · rw [if_pos k4,if_neg (by omega),if_neg (by omega)]; simp
  rw [if_neg k4]
  by_cases k6:t.fKind=6
  · rw [if_pos k6,if_neg (by omega),if_pos (.inl k6)]; simp
  rw [if_neg k6]
  by_cases k9:t.fKind=9
  · rw [if_pos k9,if_pos k9,List.length_append,Zc3,sbytes_len]; omega
  rw [if_neg k9,if_neg k9]
  split <;> decide
mutual
theorem Ze9:∀ t:Z03,((layT t).length:Int)≤10 * wt t
  | ⟨k,n,m,b,s,args⟩=>by
    have h:=layTs_len args
    have hh:=headB_len ⟨k,n,m,b,s,args⟩
    have hn:=Z71 args
    rw [layT,wt,List.length_cons,List.length_append]
    by_cases k2:k=2
    · rw [if_pos k2] at hh
      rw [if_pos k2,if_neg (show ¬ (k=6∨k=8) by omega)]
      show (((headB _).length+0+1:Nat):Int)≤_
      have hh:((headB ⟨k,n,m,b,s,args⟩).length:Int)≤2+4 * (m.fMag.length:Int):=hh
      omega
    rw [if_neg k2] at hh
    rw [if_neg k2]
    by_cases k9:k=9
    · rw [if_pos k9] at hh
      rw [if_pos k9,if_neg (show ¬ (k=6∨k=8) by omega)]
      show (((headB _).length+0+1:Nat):Int)≤_
      have hh:((headB ⟨k,n,m,b,s,args⟩).length:Int)≤2+(s.size:Int):=hh
      omega
    rw [if_neg k9] at hh
    rw [if_neg k9]
    by_cases k6:k=6∨k=8
    · rw [if_pos k6] at hh
      rw [if_pos k6,if_pos k6]
      omega
    · rw [if_neg k6] at hh
      rw [if_neg k6,if_neg k6]
      show (((headB _).length+0+1:Nat):Int)≤_
      omega
theorem layTs_len:∀ ts:List Z03,((layTs ts).length:Int)≤10 * wts ts
  | []=>by rw [layTs,wts]; decide
  | x::xs=>by
    have h:=Ze9 x
    have k:=layTs_len xs
    rw [layTs,wts,List.length_append]
    omega
end
end Go.Proofs.Ytcknifhhgeccfaa.Sh
