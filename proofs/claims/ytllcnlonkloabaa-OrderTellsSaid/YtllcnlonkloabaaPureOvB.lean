import Derived.Test.YtllcnlonkloabaaPureOvA
import Derived.KernelRfl
import Derived.Laws.Tables
set_option linter.unusedVariables false
set_option maxRecDepth 100000
namespace Go.Proofs.Ytllcnlonkloabaa.Sh
open Go Lift Go.Proofs
def OverOk (D : Nat → Prop) (k : Nat) : Prop := ∀ {w : World} {kind n : Int} {neg : Bool} {mag : Value} {bits : Int} {bytes : ByteArray} {args : Value} (hD : ∀ b, D b → b < w.heap.size) (h1 : GoodL w D mag) (h2 : GoodA w D k args),
    Calls Try.prog 28 #[.agg #[.int .i64 kind,.int .i64 n,.bool neg,mag,.int .u64 bits,.string bytes,args]] w (fun e w'=>e=.returned (.tuple #[])∧Ov D w w')
theorem good_row {w:World} {D:Nat→Prop} {k len cap:Nat} {ad:Option Addr} (h:GoodA w D k (.slice ad len cap)) {i:Nat} (hi:i < len):∃ k' b,k=k'+1∧ad=some ⟨b,0,none⟩∧len≤1000000000000∧D b∧∃ vs t x0,w.heap[b]? = some (.cells vs t (0,0))∧vs[0]? = some (.int .i64 x0)∧i * 7+7≤vs.size ∧
  ∃ kind n neg mag bits bytes args,(∀ j,j < 7→w.cell? ⟨b,i * 7+j,none⟩=(Zjz kind n neg mag bits bytes args)[j]?)∧(∀ j,w.frozen? ⟨b,j,none⟩=false)∧GoodL w D mag∧GoodA w D k' args:=by
 cases k with
 |zero=>obtain ⟨a,e⟩:=h; injection e with e1 e2 e3; omega
 |succ k =>
  rcases h with ⟨a,e⟩ | ⟨b,len',cap',vs,t,e,h1,⟨h2,h2'⟩,h3,h4,h5,h6⟩
  ·injection e with e1 e2 e3; omega
  ·injection e with e1 e2 e3
   subst e1 e2 e3
   obtain ⟨kind,n,neg,mag,bits,bytes,args,q1,_⟩:=h6 0 h1
   have hx0:=q1 0 (by omega)
   obtain ⟨kind,n,neg,mag,bits,bytes,args,q1,q2,q3⟩:=h6 i hi
   refine ⟨k,b,rfl,rfl,h2',h5,vs,t,_,h3,hx0, ?_,kind,n,neg,mag,bits,bytes,args,fun j hj=>?_,fun j=>Z6y h3 j,q2,q3⟩
   ·have:=ql 7 (show i+1≤cap by omega)
    omega
   ·rw [Z0w h3]; exact q1 j hj
theorem over_step {D:Nat→Prop} (k:Nat) (ih:∀ k',k' < k→OverOk D k'):OverOk D k:=by
 intro w kind n neg mag bits bytes args hD h1 h2
 obtain ⟨mad,mlen,mcap,hv⟩:∃ ad len cap,mag=.slice ad len cap:=by
  rcases h1 with ⟨a,rfl⟩ | ⟨b,len,cap,vs,t,rfl,_⟩ <;> exact ⟨_,_,_,rfl⟩
 subst hv
 obtain ⟨ad,len,cap,hv⟩:∃ ad len cap,args=.slice ad len cap:=by
  cases k with
  |zero=>obtain ⟨a,rfl⟩:=h2; exact ⟨_,_,_,rfl⟩
  |succ k=>rcases h2 with ⟨a,rfl⟩ | ⟨b,len,cap,vs,t,rfl,_⟩ <;> exact ⟨_,_,_,rfl⟩
 subst hv
 refine calls_of_wp Try.func28 rfl ?_
 have hn:Try.f28.ntmps=25:=rfl
 simp only [hn,jh,xu,xx,Nat.reduceAdd,Nat.reduceSub,zl,
  zk,zq,jv,uo,uq]
 have a1:=alloc_ov (D:=D) (w:=w) #[.int .i64 kind,.int .i64 n,.bool neg,.slice mad mlen mcap,.int .u64 bits,.string bytes,.slice ad len cap] 30
 have hbx:∀ w2,Ov D (w.alloc (.cells #[.int .i64 kind,.int .i64 n,.bool neg,.slice mad mlen mcap,.int .u64 bits,.string bytes,.slice ad len cap] 30)) w2→w2.cell? ⟨w.heap.size,6,none⟩=some (.slice ad len cap):=fun w2 ho=>by
  have hh:w2.heap[w.heap.size]? = some (.cells #[.int .i64 kind,.int .i64 n,.bool neg,.slice mad mlen mcap,.int .u64 bits,.string bytes,.slice ad len cap] 30):=by
   rw [ho.out _ (by show _ < (w.heap.push _).size; rw [Array.size_push]; omega) (fun hd=>by have:=hD _ hd; omega)]
   show (w.heap.push _)[_]? = _
   rw [uj,if_pos rfl]
  rw [Z0w hh]
  rfl
 go_wp
 refine Z3j (overLimbs (a1.lim _ h1)) ?_
 rintro e w2 ⟨rfl,ho⟩
 have hc6:=hbx w2 ho
 simp only
 go_wp
 refine wp_loop (fun a w'=>∃ (i:Nat) (ts:Fin 18→Value),a={ tmps:=#[.agg #[.int .i64 kind,.int .i64 n,.bool neg,.slice mad mlen mcap,.int .u64 bits,.string bytes,.slice ad len cap],.pointer (some ⟨w.heap.size,0,none⟩),.int .i64 (i:Int),.pointer (some ⟨w.heap.size,2,none⟩),.pointer (some ⟨w.heap.size,3,none⟩),.slice mad mlen mcap,.tuple #[],ts 0,ts 1,ts 2,ts 3,ts 4,ts 5,ts 6,ts 7,ts 8,ts 9,ts 10,ts 11,ts 12,ts 13,ts 14,ts 15,ts 16,ts 17],defers:=[] }∧i≤len∧Ov D (w.alloc (.cells #[.int .i64 kind,.int .i64 n,.bool neg,.slice mad mlen mcap,.int .u64 bits,.string bytes,.slice ad len cap] 30)) w') (fun a _=>match a.tmps.getD 2 undef with | Value.int _ i=>len - i.toNat | _=>0) ⟨0,fun _=>undef,rfl,jl _,ho⟩ ?_
 rintro a w3 ⟨i,ts,rfl,hi,ho3⟩
 have hc6:=hbx w3 ho3
 by_cases hil:i < len
 ·obtain ⟨k',b,rfl,rfl,hbig,hDb,vs,t,x0,hh,hx0,hfit,kind',n',neg',mag',bits',bytes',args',hcs,hfz,q2,q3⟩:=good_row (ho3.trm _ _ (a1.trm _ _ h2)) hil
  have c0:=hcs 0 (by omega)
  have c1:=hcs 1 (by omega)
  have c2:=hcs 2 (by omega)
  have c3:=hcs 3 (by omega)
  have c4:=hcs 4 (by omega)
  have c5:=hcs 5 (by omega)
  have c6:=hcs 6 (by omega)
  simp only [Zjz,uk,jg,uf] at c0 c1 c2 c3 c4 c5 c6
  clear hcs
  go_wp
  have hD3:∀ b,D b→b < w3.heap.size:=fun b hb=>by
   have:=hD b hb
   have:=a1.size
   have:=ho3.size
   omega
  refine Z3j (ih k' (by omega) hD3 q2 q3) ?_
  rintro e w4 ⟨rfl,ho4⟩
  have hc6:=hbx w4 (ho3.trans ho4)
  obtain ⟨k2,b2,_,e2,_,_,vs4,t4,x4,hh4,hx4,hfit4,kind4,n4,neg4,mag4,bits4,bytes4,args4,hcs4,hfz4,_⟩:=good_row ((ho3.trans ho4).trm _ _ (a1.trm _ _ h2)) hil
  injection e2 with e2
  injection e2 with e2
  subst e2
  have c0:=hcs4 0 (by omega)
  have c1:=hcs4 1 (by omega)
  have c2:=hcs4 2 (by omega)
  have c3:=hcs4 3 (by omega)
  have c4:=hcs4 4 (by omega)
  have c5:=hcs4 5 (by omega)
  have c6:=hcs4 6 (by omega)
  simp only [Zjz,uk,jg,uf] at c0 c1 c2 c3 c4 c5 c6
  clear hcs4
  have hov:=Ov.term (kind:=-9) (n:=0) (neg:=false) (bits:=0) (bytes:=ByteArray.empty) (a1:=none) (a2:=none) hh4 hx4 hDb hfit4
  have hb30:(Instr.build 30 #[(0,Value.int .i64 (-9))]).run Try.prog w4=.ok (.agg #[.int .i64 (-9),.int .i64 0,.bool false,.slice none 0 0,.int .u64 0,.string ByteArray.empty,.slice none 0 0]) w4:=run_build w4 30 _ _ (by kernel_rfl)
  have hst:(storeVar 30 ⟨b,i * 7,none⟩ (.agg #[.int .i64 (-9),.int .i64 0,.bool false,.slice none 0 0,.int .u64 0,.string ByteArray.empty,.slice none 0 0])).run Try.prog w4=.ok () (w4.setCells b (i * 7) (Zjz (-9) 0 false (Value.slice none 0 0) 0 ByteArray.empty (Value.slice none 0 0))) :=
   Za2 hh4 hfit4 rfl (by decide)
  simp only
  generalize w4.setCells b (i * 7) (Zjz (-9) 0 false (Value.slice none 0 0) 0 ByteArray.empty (Value.slice none 0 0))=w5 at hst hov
  clear c0 c1 c2 c3 c4 c5 c6
  iterate 21 go_step
  rename_i K hK
  unfold Oper.wp
  rw [exec_store rfl]
  show Oper.upon _ _ _ _ _ ((do Instr.storeAt 30 (.pointer (some ⟨b,i * 7,none⟩)) (.agg #[.int .i64 (-9),.int .i64 0,.bool false,.slice none 0 0,.int .u64 0,.string ByteArray.empty,.slice none 0 0]); pure Next.skip:Sem Next).run Try.prog w4)
  simp only [Instr.storeAt,Instr.sureAddr,Sem.run_bind,Sem.run_pure,Result.andThen_ok,hst]
  refine hK _ _ ?_
  go_wp
  have hm:((i:Int)+1+9223372036854775808) % 18446744073709551616 - 9223372036854775808=((i+1:Nat):Int):=by omega
  first | rw [hm] | rw [show (i:Int)+1=((i+1:Nat):Int) from rfl]
  refine ⟨⟨i+1,fun j=>[.int .i64 (i:Int),.pointer (some ⟨w.heap.size,6,none⟩),.slice (some ⟨b,0,none⟩) len cap,.int .i64 (len:Int),.bool true,.int .i64 (i:Int),.int .i64 ((i+1:Nat):Int),.pointer (some ⟨w.heap.size,6,none⟩),.slice (some ⟨b,0,none⟩) len cap,.int .i64 (i:Int),.pointer (some ⟨b,i * 7,none⟩),
   .agg #[.int .i64 kind',.int .i64 n',.bool neg',mag',.int .u64 bits',.string bytes',args'],.tuple #[],.pointer (some ⟨w.heap.size,6,none⟩),.slice (some ⟨b,0,none⟩) len cap,.int .i64 (i:Int),.agg #[.int .i64 (-9),.int .i64 0,.bool false,.slice none 0 0,.int .u64 0,.string ByteArray.empty,.slice none 0 0],.pointer (some ⟨b,i * 7,none⟩)].getD j.val undef,rfl,by omega,(ho3.trans ho4).trans hov⟩, ?_⟩
  clear hm
  simp only [xz,List.getElem?_toArray,uk,jg,ko,xn]
  omega
 ·go_wp
  go_end0
  exact ⟨rfl,a1.trans ho3⟩
theorem over_ok {D:Nat→Prop}:∀ k,OverOk D k:=fun k=>by
 induction k using Nat.strongRecOn with
 |_ k ih=>exact over_step k ih
end Go.Proofs.Ytllcnlonkloabaa.Sh
