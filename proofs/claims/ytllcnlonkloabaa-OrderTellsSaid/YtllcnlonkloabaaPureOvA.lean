import Derived.Test.YtllcnlonkloabaaChecked
import Derived.Test.YtllcnlonkloabaaLift4
import Derived.Tactics
set_option linter.unusedVariables false
set_option maxRecDepth 100000
namespace Go.Proofs.Ytllcnlonkloabaa.Sh
open Go Lift Go.Proofs
theorem alloc_ov {D:Nat→Prop} {w:World} (vs:Array Value) (t:TypeId):Ov D w (w.alloc (.cells vs t)):=by
 have hh:∀ b,b < w.heap.size→(w.alloc (.cells vs t)).heap[b]? = w.heap[b]? := fun b hb=>by
  show (w.heap.push _)[b]? = _
  rw [uj,if_neg (by omega)]
 have hs:(w.alloc (.cells vs t)).heap.size=w.heap.size+1:=by
  show (w.heap.push _).size=_
  rw [Array.size_push]
 refine Ov.same hh (by omega) rfl rfl rfl fun b y hb=>?_
 have hlt:b < w.heap.size:=by
  unfold World.shape? at hb
  cases hc:w.heap[b]? with
  |none=>rw [hc] at hb; cases hb
  |some o=>exact (Array.getElem?_eq_some_iff.1 hc).1
 unfold World.shape? at hb ⊢
 rw [hh b hlt]
 exact hb
theorem overLimbs {D:Nat→Prop} {w:World} {v:Value} (h:GoodL w D v):Calls Try.prog 51 #[v] w (fun e w'=>e=.returned (.tuple #[])∧Ov D w w'):=by
 obtain ⟨ad,len,cap,hv⟩:∃ ad len cap,v=.slice ad len cap:=by
  rcases h with ⟨a,rfl⟩ | ⟨b,len,cap,vs,t,rfl,_⟩ <;> exact ⟨_,_,_,rfl⟩
 refine calls_of_wp Try.func51 rfl ?_
 have hn:Try.f51.ntmps=15:=rfl
 simp only [hn,jh,xu,xx,Nat.reduceAdd,Nat.reduceSub,zl,
   zk,zq,jv,uo,uq]
 refine wp_seq (Code.wp_mono (Q:=fun e a w'=>e=.normal∧(∃ ts:Fin 11→Value,a={ tmps:=#[v,ts 0,ts 1,ts 2,ts 3,ts 4,ts 5,ts 6,ts 7,ts 8,ts 9,ts 10,undef,undef,undef],defers:=[] })∧Ov D w w') ?_ ?_)
 ·rintro e a w1 ⟨rfl,⟨ts,rfl⟩,ho⟩
  show (Code.region 4 _ false).wp _ _ _ _
  refine wp_region_lit ?_
  subst hv
  iterate 7 go_step
  rename_i K hK
  obtain ⟨v',w',hr,ho'⟩:=append_limb (P:=Try.prog) (t:=24) (ty:=24) (e:=65) (i:=Try.t65) (D:=D) (w:=w1.alloc (.cells #[.int .u32 61166] 65)) rfl rfl rfl rfl rfl ((ho.trans (alloc_ov _ _)).lim _ h) (nb:=w1.heap.size) (x:=61166) (by
   rw [Z0w (vs:=#[.int .u32 61166]) (t:=65) (show (w1.heap.push _)[w1.heap.size]? = _ by rw [uj,if_pos rfl])]
   rfl)
  unfold Oper.wp
  rw [Z9b rfl]
  simp only [List.map_toArray,qh,uw]
  show Oper.upon _ _ _ _ _ ((Zj7 (Builtin.append_ #[24,24] 24 #[.slice ad len cap,.slice (some ⟨w1.heap.size,0,none⟩) 1 1])).run _ _)
  rw [Z1g hr]
  refine hK _ _ (wpList_nil ?_)
  go_end0
  exact ⟨rfl,ho.trans ((alloc_ov _ _).trans ho')⟩
 ·subst hv
  go_wp
  refine wp_loop (fun a w'=>∃ (i:Nat) (t3 t4 t5 t6 t7 t8 t9 t10 t11:Value),a={ tmps:=#[.slice ad len cap,undef,.int .i64 (i:Int),t3,t4,t5,t6,t7,t8,t9,t10,t11,undef,undef,undef],defers:=[] }∧i≤len∧Ov D w w') (fun a _=>match a.tmps.getD 2 undef with | Value.int _ i=>len - i.toNat | _=>0) ⟨0,_,_,_,_,_,_,_,_,_,rfl,jl _,Ov.refl _ _⟩ ?_
  rintro a w1 ⟨i,t3,t4,t5,t6,t7,t8,t9,t10,t11,rfl,hi,ho⟩
  have hg:=ho.lim _ h
  by_cases hil:i < len
  ·rcases hg with ⟨a,e⟩ | ⟨b,len',cap',vs,t,e,h1,⟨h2,h2'⟩,h3,h4,h5,h6⟩
   ·injection e with e1 e2 e3
    omega
   ·injection e with e1 e2 e3
    subst e1 e2 e3
    obtain ⟨x,hx⟩:=h6 i hil
    obtain ⟨x0,hx0⟩:=h6 0 h1
    have hc:w1.cell? ⟨b,i,none⟩=some (.int .u32 x):=by rw [Z0w h3]; exact hx
    have hf:w1.frozen? ⟨b,i,none⟩=false:=Z6y h3 i
    have hov:Ov D w (w1.setCell ⟨b,i,none⟩ (.int .u32 61166)):=ho.trans (Ov.limb h3 hx0 h5 (by omega))
    go_wp
    have hm:((i:Int)+1+9223372036854775808) % 18446744073709551616 - 9223372036854775808=((i+1:Nat):Int):=by omega
    first | rw [hm] | rw [show (i:Int)+1=((i+1:Nat):Int) from rfl]
    refine ⟨⟨i+1,_,_,_,_,_,_,_,_,_,rfl,by omega,hov⟩, ?_⟩
    clear hm
    simp only [xz,List.getElem?_toArray,uk,jg,ko,xn]
    omega
  ·go_wp
   refine ⟨by trivial,⟨fun k=>[undef,.int .i64 (i:Int),.int .i64 (i:Int),.slice ad len cap,.int .i64 (len:Int),.bool false,t7,t8,t9,t10,t11].getD k.val undef,rfl⟩,ho⟩
end Go.Proofs.Ytllcnlonkloabaa.Sh
