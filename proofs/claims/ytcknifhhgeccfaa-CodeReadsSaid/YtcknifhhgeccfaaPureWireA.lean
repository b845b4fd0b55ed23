import Derived.Test.YtcknifhhgeccfaaPureTermMay
import Derived.Test.YtcknifhhgeccfaaLift3
set_option linter.unusedVariables false
set_option linter.unusedSimpArgs false
namespace Go.Proofs.Ytcknifhhgeccfaa.Sh
open Go Lift Go.Proofs
def beB (n:Nat):Nat→List Int
  | 0=>[]
  | k+1=>((n / 256 ^ k % 256:Nat):Int)::beB n k
theorem Z5f (n:Nat):∀ k,(beB n k).length=k
  | 0=>rfl
  | k+1=>by rw [beB,List.length_cons,Z5f n k]
def bytesL (xs:List Int):Prop:=∀ x ∈ xs,0≤x∧x < 256
theorem bytesL.tail {x:Int} {xs:List Int} (h:bytesL (x::xs)):bytesL xs:=fun y hy=>h y (List.mem_cons_of_mem x hy)
theorem bytesL.head {x:Int} {xs:List Int} (h:bytesL (x::xs)):0≤x∧x < 256:=h x List.mem_cons_self
theorem bytesL.app {xs ys:List Int} (h:bytesL xs) (k:bytesL ys):bytesL (xs++ys):=fun z hz=>by rcases List.mem_append.1 hz with hz | hz; exact h z hz; exact k z hz
theorem bytesL.left {xs ys:List Int} (h:bytesL (xs++ys)):bytesL xs:=fun z hz=>h z (List.mem_append_left ys hz)
theorem bytesL.right {xs ys:List Int} (h:bytesL (xs++ys)):bytesL ys:=fun z hz=>h z (List.mem_append_right xs hz)
theorem Zde (n:Nat):∀ k,bytesL (beB n k)
  | 0=>fun x hx=>by cases hx
  | k+1=>fun x hx=>by
    rw [beB] at hx
    rcases List.mem_cons.1 hx with rfl | hx
    · omega
    · exact Zde n k x hx
def valB (v:Nat):List Int→Nat
  | []=>v
  | x::xs=>valB (v * 256+x.toNat) xs
theorem valB_lt:∀ (xs:List Int) (v b:Nat),bytesL xs→v < b→valB v xs < b * 256 ^ xs.length
  | [],v,b,h,hv=>by simpa [valB] using hv
  | x::xs,v,b,h,hv=>by
    have hx:=h.head
    have:=valB_lt xs (v * 256+x.toNat) (b * 256) h.tail (by omega)
    rw [valB,List.length_cons,Nat.pow_succ,Nat.mul_comm (256 ^ xs.length) 256, ← Nat.mul_assoc]
    exact this
theorem valB_split:∀ (xs:List Int) (v:Nat),valB v xs=v * 256 ^ xs.length+valB 0 xs
  | [],v=>by simp [valB]
  | x::xs,v=>by
    rw [valB,valB,valB_split xs (v * 256+x.toNat),valB_split xs (0 * 256+x.toNat),List.length_cons,Nat.pow_succ,Nat.add_mul,Nat.zero_mul,Nat.zero_add,Nat.mul_assoc v 256,Nat.mul_comm 256 (256 ^ xs.length)]
    omega
theorem Zb1:∀ (xs:List Int) (v:Nat),bytesL xs→beB (valB v xs) xs.length=xs
  | [],v,h=>rfl
  | x::xs,v,h=>by
    have hx:=h.head
    have h0:=valB_lt xs 0 1 h.tail (by omega)
    rw [Nat.one_mul] at h0
    have hp:0 < 256 ^ xs.length:=Nat.pow_pos (by omega)
    rw [valB,List.length_cons,beB,Zb1 xs _ h.tail,valB_split xs,Nat.add_comm,Nat.add_mul_div_right _ _ hp,Nat.div_eq_of_lt h0,Nat.zero_add,Nat.mul_add_mod_self_right,Nat.mod_eq_of_lt (by omega),Int.toNat_of_nonneg hx.1]
theorem Zeq (n:Nat):∀ (k v:Nat),valB v (beB n k)=v * 256 ^ k+n % 256 ^ k
  | 0,v=>by simp [beB,valB]; omega
  | k+1,v=>by
    rw [beB,valB,Int.toNat_natCast,Zeq n k,Nat.mod_pow_succ,Nat.pow_succ,Nat.add_mul,Nat.mul_assoc v 256,Nat.mul_comm 256 (256 ^ k),Nat.mul_comm (256 ^ k) (n / 256 ^ k % 256)]
    omega
theorem shr_byte (n k:Nat) (hk:k≤7):shr .u64 (n:Int) (IntKind.i64.wrap ((8:Int) * (k:Int)))=some ((n / 256 ^ k:Nat):Int):=by
  have e:IntKind.i64.wrap ((8:Int) * (k:Int))=((8 * k:Nat):Int):=by rw [Zg6 _ (by omega) (by omega)]; omega
  rw [e,shr_nat (by omega),Nat.pow_mul]
theorem wrapB (n:Nat):IntKind.u8.wrap (n:Int)=((n % 256:Nat):Int):=by rw [Zg7]; omega
theorem put_loop (n:Nat):∀ (k:Nat) (a:List Int),k≤8→a.length+k≤900000→Ev (fun N=>Z96 N (n:Int) a ((k:Int) - 1)) (a++beB n k)
  | 0,a,hk,hl=>by
    refine Ev.step ?_ (fun N=>by rw [Z96])
    rw [beB,List.append_nil]
    exact Ev.neg (by omega) (Ev.now _)
  | k+1,a,hk,hl=>by
    have ih:=put_loop n k (a++[((n / 256 ^ k % 256:Nat):Int)]) (by omega) (by rw [List.length_append]; show a.length+1+k≤_; omega)
    rw [List.append_assoc] at ih
    have e:(((k+1:Nat):Int) - 1)=(k:Int):=by omega
    rw [e,beB]
    refine Ev.step ?_ (fun N=>by rw [Z96])
    refine Ev.pos (by omega) (Ev.bindc (shr_byte n k (by omega)) ?_)
    rw [wrapB]
    refine Ev.bindc (app_eq (by rw [lim_eq]; show a.length+1≤_; omega)) ?_
    rw [Zg6 ((k:Int) - 1) (by omega) (by omega)]
    exact ih
theorem put_ev (n k:Nat) (x z:Int) (a:List Int) (hx:x=(n:Int)) (hz:z=(k:Int)) (hk:k≤8) (hl:a.length+k≤900000):Ev (fun N=>Zcr N a x z) (a++beB n k):=by
  subst hx hz
  have h:=put_loop n k a hk hl
  rw [← Zg6 ((k:Int) - 1) (by omega) (by omega)] at h
  exact Ev.bind h (Ev.now _)
def u64n (x:Int):Nat:=(x % 18446744073709551616).toNat
theorem wrap_u64n (x:Int):IntKind.u64.wrap x=((u64n x:Nat):Int):=by rw [wrapU_eq]; unfold u64n; omega
theorem Zc0 {x:Int} (h0:0≤x) (h1:x < 18446744073709551616):u64n x=x.toNat:=by unfold u64n; omega
def magB:List Int→List Int
  | []=>[]
  | x::xs=>beB (u64n x) 4++magB xs
theorem Zdp:∀ l:List Int,(magB l).length=4 * l.length
  | []=>rfl
  | x::xs=>by rw [magB,List.length_append,Z5f,Zdp xs,List.length_cons]; omega
theorem Z99 (s:ByteArray):(sbytes s).length=s.size:=by unfold sbytes; rw [List.length_map]; rfl
theorem sbytes_bytes (s:ByteArray):bytesL (sbytes s):=fun x hx=>by
  unfold sbytes at hx
  obtain ⟨b,_,rfl⟩:=List.mem_map.1 hx
  have:=b.toNat_lt
  omega
def headB (t:Z02):List Int :=
  if t.fKind=1 then beB (u64n t.fN) 8
  else if t.fKind=2 then (if t.fNum.fNeg=true then 1 else 0)::IntKind.u8.wrap (t.fNum.fMag.length:Int)::magB t.fNum.fMag
  else if t.fKind=3 then beB (u64n t.fBits) 8
  else if t.fKind=4∨t.fKind=5 then [IntKind.u8.wrap t.fN]
  else if t.fKind=6 then [IntKind.u8.wrap (t.fArgs.length:Int)]
  else if t.fKind=9 then beB (u64n (t.fBytes.size:Int)) 2++sbytes t.fBytes
  else []
mutual
def layT:Z02→List Int
  | ⟨k,n,m,b,s,args⟩=>IntKind.u8.wrap k::(headB ⟨k,n,m,b,s,args⟩++(if k=6∨k=8 then layTs args else []))
def layTs:List Z02→List Int
  | []=>[]
  | x::xs=>layT x++layTs xs
end
theorem Z7j (t:Z02):layT t=IntKind.u8.wrap t.fKind::(headB t++(if t.fKind=6∨t.fKind=8 then layTs t.fArgs else [])):=by cases t; rw [layT]
theorem Z7n (x:Int):0≤IntKind.u8.wrap x∧IntKind.u8.wrap x < 256:=by rw [Zg7]; omega
theorem Z6v {x:Int} {xs:List Int} (h:0≤x∧x < 256) (k:bytesL xs):bytesL (x::xs):=fun y hy=>by rcases List.mem_cons.1 hy with rfl | hy; exact h; exact k y hy
theorem Z8r:bytesL []:=fun x hx=>by cases hx
theorem magB_bytes:∀ l:List Int,bytesL (magB l)
  | []=>Z8r
  | x::xs=>(Zde _ 4).app (magB_bytes xs)
theorem headB_bytes (t:Z02):bytesL (headB t):=by
  unfold headB
  split
  · exact Zde _ _
  split
  · exact Z6v (by split <;> omega) (Z6v (Z7n _) (magB_bytes _))
  split
  · exact Zde _ _
  split
  · exact Z6v (Z7n _) Z8r
  split
  · exact Z6v (Z7n _) Z8r
  split
  · exact (Zde _ _).app (sbytes_bytes _)
  · exact Z8r
mutual
theorem layT_bytes:∀ t:Z02,bytesL (layT t)
  | ⟨k,n,m,b,s,args⟩=>by
    have h:=Zed args
    rw [layT]
    refine Z6v (Z7n _) ((headB_bytes _).app ?_)
    split
    · exact h
    · exact Z8r
theorem Zed:∀ ts:List Z02,bytesL (layTs ts)
  | []=>by rw [layTs]; exact Z8r
  | x::xs=>by rw [layTs]; exact (layT_bytes x).app (Zed xs)
end
theorem headB_len (t:Z02):((headB t).length:Int)≤if t.fKind=2 then 2+4 * (t.fNum.fMag.length:Int) else if t.fKind=9 then 2+(t.fBytes.size:Int) else if t.fKind=6∨t.fKind=8 then 1 else 8:=by
  unfold headB
  by_cases k1:t.fKind=1
  · rw [if_pos k1,Z5f,if_neg (by omega),if_neg (by omega),if_neg (by omega)]; decide
  rw [if_neg k1]
  by_cases k2:t.fKind=2
  · rw [if_pos k2,if_pos k2]; simp [Zdp]; omega
  rw [if_neg k2,if_neg k2]
  by_cases k3:t.fKind=3
  · rw [if_pos k3,Z5f,if_neg (by omega),if_neg (by omega)]; decide
  rw [if_neg k3]
  by_cases k4:t.fKind=4∨t.fKind=5
  · rw [if_pos k4,if_neg (by omega),if_neg (by omega)]; simp
  rw [if_neg k4]
  by_cases k6:t.fKind=6
  · rw [if_pos k6,if_neg (by omega),if_pos (.inl k6)]; simp
  rw [if_neg k6]
  by_cases k9:t.fKind=9
  · rw [if_pos k9,if_pos k9,List.length_append,Z5f,Z99]; omega
  rw [if_neg k9,if_neg k9]
  split <;> decide
mutual
theorem layT_len:∀ t:Z02,((layT t).length:Int)≤10 * wt t
  | ⟨k,n,m,b,s,args⟩=>by
    have h:=layTs_len args
    have hh:=headB_len ⟨k,n,m,b,s,args⟩
    have hn:=Z81 args
    rw [layT,wt,List.length_cons,List.length_append]
    by_cases k2:k=2
    · rw [if_pos k2] at hh
      rw [if_pos k2,if_neg (show ¬ (k=6∨k=8) by omega)]
      show (((headB _).length+0+1:Nat):Int)≤_
      have hh:((headB ⟨k,n,m,b,s,args⟩).length:Int)≤2+4 * (m.fMag.length:Int):=hh
      omega
    rw [if_neg k2] at hh
    rw [if_neg k2]
    by_cases k9:k=9
    · rw [if_pos k9] at hh
      rw [if_pos k9,if_neg (show ¬ (k=6∨k=8) by omega)]
      show (((headB _).length+0+1:Nat):Int)≤_
      have hh:((headB ⟨k,n,m,b,s,args⟩).length:Int)≤2+(s.size:Int):=hh
      omega
    rw [if_neg k9] at hh
    rw [if_neg k9]
    by_cases k6:k=6∨k=8
    · rw [if_pos k6] at hh
      rw [if_pos k6,if_pos k6]
      omega
    · rw [if_neg k6] at hh
      rw [if_neg k6,if_neg k6]
      show (((headB _).length+0+1:Nat):Int)≤_
      omega
theorem layTs_len:∀ ts:List Z02,((layTs ts).length:Int)≤10 * wts ts
  | []=>by rw [layTs,wts]; decide
  | x::xs=>by
    have h:=layT_len x
    have k:=layTs_len xs
    rw [layTs,wts,List.length_append]
    omega
end
end Go.Proofs.Ytcknifhhgeccfaa.Sh
