import Derived.Test.YtllcnlonkloabaaPureOvB
set_option linter.unusedVariables false
set_option maxRecDepth 100000
namespace Go.Proofs.Ytllcnlonkloabaa.Sh
open Go Lift Go.Proofs
theorem over_loop {D:Nat→Prop} {k:Nat} {w:World} {ad:Option Addr} {len cap:Nat} (ts:Fin 67→Value) (df:List Deferred) (hD:∀ b,D b→b < w.heap.size) (h:0 < len→GoodA w D k (.slice ad len cap)) :
  (partOf Try.f6 [1,1,1,1,0]).wp Try.prog (fun e a w'=>e=.normal∧(∃ (i:Int) (y:Fin 11→Value),a={ tmps:=#[ts 0,ts 1,ts 2,ts 3,ts 4,ts 5,ts 6,.slice ad len cap,ts 8,.int .i64 (i),ts 10,ts 11,ts 12,ts 13,ts 14,ts 15,ts 16,ts 17,ts 18,ts 19,ts 20,ts 21,ts 22,ts 23,ts 24,ts 25,ts 26,ts 27,ts 28,ts 29,ts 30,ts 31,ts 32,ts 33,ts 34,ts 35,ts 36,ts 37,ts 38,ts 39,ts 40,ts 41,ts 42,ts 43,ts 44,y 0,y 1,y 2,y 3,y 4,y 5,y 6,y 7,y 8,y 9,y 10,ts 56,ts 57,ts 58,ts 59,ts 60,ts 61,ts 62,ts 63,ts 64,ts 65,ts 66],defers:=df })∧Ov D w w') { tmps:=#[ts 0,ts 1,ts 2,ts 3,ts 4,ts 5,ts 6,.slice ad len cap,ts 8,ts 9,ts 10,ts 11,ts 12,ts 13,ts 14,ts 15,ts 16,ts 17,ts 18,ts 19,ts 20,ts 21,ts 22,ts 23,ts 24,ts 25,ts 26,ts 27,ts 28,ts 29,ts 30,ts 31,ts 32,ts 33,ts 34,ts 35,ts 36,ts 37,ts 38,ts 39,ts 40,ts 41,ts 42,ts 43,ts 44,ts 45,ts 46,ts 47,ts 48,ts 49,ts 50,ts 51,ts 52,ts 53,ts 54,ts 55,ts 56,ts 57,ts 58,ts 59,ts 60,ts 61,ts 62,ts 63,ts 64,ts 65,ts 66],defers:=df } w:=by
 show (Code.seq _ _).wp _ _ _ _
 go_wp
 refine wp_loop (fun a w'=>∃ (i:Nat) (y:Fin 11→Value),a={ tmps:=#[ts 0,ts 1,ts 2,ts 3,ts 4,ts 5,ts 6,.slice ad len cap,ts 8,.int .i64 ((i:Nat):Int),ts 10,ts 11,ts 12,ts 13,ts 14,ts 15,ts 16,ts 17,ts 18,ts 19,ts 20,ts 21,ts 22,ts 23,ts 24,ts 25,ts 26,ts 27,ts 28,ts 29,ts 30,ts 31,ts 32,ts 33,ts 34,ts 35,ts 36,ts 37,ts 38,ts 39,ts 40,ts 41,ts 42,ts 43,ts 44,y 0,y 1,y 2,y 3,y 4,y 5,y 6,y 7,y 8,y 9,y 10,ts 56,ts 57,ts 58,ts 59,ts 60,ts 61,ts 62,ts 63,ts 64,ts 65,ts 66],defers:=df }∧i≤len∧Ov D w w') (fun a _=>match a.tmps.getD 9 undef with | Value.int _ i=>len - i.toNat | _=>0) ⟨0,fun j=>ts ⟨45+j.val,by omega⟩,rfl,jl _,Ov.refl _ _⟩ ?_
 rintro a w3 ⟨i,y,rfl,hi,ho3⟩
 by_cases hil:i < len
 ·obtain ⟨k',b,rfl,rfl,hbig,hDb,vs,t,x0,hh,hx0,hfit,kind',n',neg',mag',bits',bytes',args',hcs,hfz,q2,q3⟩:=good_row (ho3.trm _ _ (h (by omega))) hil
  have c0:=hcs 0 (by omega)
  have c1:=hcs 1 (by omega)
  have c2:=hcs 2 (by omega)
  have c3:=hcs 3 (by omega)
  have c4:=hcs 4 (by omega)
  have c5:=hcs 5 (by omega)
  have c6:=hcs 6 (by omega)
  simp only [Zjz,uk,jg,uf] at c0 c1 c2 c3 c4 c5 c6
  clear hcs
  go_wp
  have hD3:∀ b,D b→b < w3.heap.size:=fun b hb=>by
   have:=hD b hb
   have:=ho3.size
   omega
  refine Z3j (over_ok k' hD3 q2 q3) ?_
  rintro e w4 ⟨rfl,ho4⟩
  simp only
  go_wp
  have hm:((i:Int)+1+9223372036854775808) % 18446744073709551616 - 9223372036854775808=((i+1:Nat):Int):=by omega
  first | rw [hm] | rw [show (i:Int)+1=((i+1:Nat):Int) from rfl]
  refine ⟨⟨i+1,fun j=>[.int .i64 (i:Int),.slice (some ⟨b,0,none⟩) len cap,.int .i64 (len:Int),.bool true,.int .i64 (i:Int),.int .i64 ((i+1:Nat):Int),.slice (some ⟨b,0,none⟩) len cap,.int .i64 (i:Int),.pointer (some ⟨b,i * 7,none⟩),
   .agg #[.int .i64 kind',.int .i64 n',.bool neg',mag',.int .u64 bits',.string bytes',args'],.tuple #[]].getD j.val undef,rfl,by omega,ho3.trans ho4⟩, ?_⟩
  clear hm
  simp only [xz,List.getElem?_toArray,uk,jg,ko,xn]
  omega
 ·go_wp
  exact ⟨by trivial,⟨_,fun j=>[.int .i64 (i:Int),.slice ad len cap,.int .i64 (len:Int),.bool false,y 4,y 5,y 6,y 7,y 8,y 9,y 10].getD j.val undef,rfl⟩,ho3⟩
end Go.Proofs.Ytllcnlonkloabaa.Sh
