import Derived.KernelRfl
import Derived.Test.YtllcnlonkloabaaLift3
import Derived.Laws.Externs
import Derived.ChangeShapes
import Derived.ChangeOld
import Derived.Carry
import Derived.SizedLaws
import Derived.OpenShut
set_option linter.unusedVariables false
namespace Lift
open Go Go.RowKit
theorem AllP.cons {p:Prop} {ps:List Prop} (h:p) (k:AllP ps):AllP (p::ps):=⟨h,k⟩
theorem AllP.nil:AllP []:=trivial
theorem All2.cons {α β:Type} {R:α→β→Prop} {a:α} {b:β} {as:List α} {bs:List β} (h:R a b) (k:All2 R as bs):All2 R (a::as) (b::bs):=⟨h,k⟩
theorem All2.nil {α β:Type} {R:α→β→Prop}:All2 R ([]:List α) ([]:List β):=trivial
theorem All2.refl {α:Type} {R:α→α→Prop} (h:∀ a,R a a):∀ l:List α,All2 R l l
 |[]=>trivial
 |a::l=>⟨h a,All2.refl h l⟩
theorem yj {α β:Type} {x:Option α} {f:α→Option β} {b:β} (h:x.bind f=some b):∃ a,x=some a∧f a=some b:=Option.bind_eq_some_iff.1 h
theorem Z1p {α:Type} {p:Prop} [Decidable p] {x:Option α} {a:α} (h:(if p then x else none)=some a):p∧x=some a:=by
 by_cases hp:p
 ·rw [if_pos hp] at h; exact ⟨hp,h⟩
 ·rw [if_neg hp] at h; cases h
theorem Z07 {α:Type} {p:Prop} [Decidable p] {x y:Option α} {a:α} (h:(if p then x else y)=some a):(p∧x=some a)∨(¬ p∧y=some a):=by
 by_cases hp:p
 ·rw [if_pos hp] at h; exact .inl ⟨hp,h⟩
 ·rw [if_neg hp] at h; exact .inr ⟨hp,h⟩
theorem Zj8 {b:Bool} {p:Prop} (e:b=true ↔ p) (h:p):b=true:=e.2 h
theorem Z01 {b:Bool} {p:Prop} (e:b=true ↔ p) (h:¬ p):b=false:=by cases b with | false=>rfl | true=>exact absurd (e.1 rfl) h
theorem Z06 {p:Prop} [Decidable p]:decide p=true ↔ p:=decide_eq_true_iff
theorem Z03 {a b:Int}:(a == b)=true ↔ a=b:=beq_iff_eq
theorem Z0h {a b:Int}:(a != b)=true ↔ a ≠ b:=bne_iff_ne
theorem Z16 {a b:Bool}:(a == b)=true ↔ a=b:=beq_iff_eq
theorem Z6q {a b:Bool}:(a != b)=true ↔ a ≠ b:=bne_iff_ne
theorem Z09 {b:Bool} {p:Prop} (e:b=true ↔ p):(!b)=true ↔ ¬ p:=by cases b <;> simp_all
theorem Z04 {b:Bool}:b=true ↔ b=true:=Iff.rfl
theorem Z0u {a b:ByteArray}:(a.toList == b.toList)=true ↔ a=b:=by
 rw [beq_iff_eq]
 constructor
 ·intro h
  rcases a with ⟨a⟩
  rcases b with ⟨b⟩
  have ha:∀ x:Array UInt8,(ByteArray.mk x).toList=x.toList:=by
   intro x
   have key:∀ (n i:Nat) (r:List UInt8),x.size - i=n→ByteArray.toList.loop ⟨x⟩ i r=r.reverse++x.toList.drop i:=by
    intro n
    induction n with
    |zero =>
     intro i r hn
     unfold ByteArray.toList.loop
     have:¬ i < (ByteArray.mk x).size:=by show ¬ i < x.size; omega
     rw [if_neg this,jw (by simp; omega),xm]
    |succ n ih =>
     intro i r hn
     unfold ByteArray.toList.loop
     have hlt:i < x.size:=by omega
     have:i < (ByteArray.mk x).size:=hlt
     rw [if_pos this,ih (i+1) _ (by omega)]
     have hg:(ByteArray.mk x).get! i=x[i]:=by
      show x[i]! = _
      rw [getElem!_pos x i hlt]
     rw [List.reverse_cons,qb,hg,List.drop_eq_getElem_cons (i:=i) (by simpa using hlt)]
     simp
   have:=key x.size 0 [] (by omega)
   simpa [ByteArray.toList] using this
  rw [ha,ha] at h
  congr 1
  exact zi h
 ·rintro rfl; rfl
def idx {α:Type} (xs:List α) (i:Int):Option α:=if 0≤i then xs[i.toNat]? else none
theorem Z2c {α:Type} {xs:List α} {i:Int} {x:α} (h:idx xs i=some x):0≤i∧i < xs.length∧xs[i.toNat]? = some x:=by
 unfold idx at h
 obtain ⟨h0,h⟩:=Z1p h
 have:=(List.getElem?_eq_some_iff.1 h).1
 exact ⟨h0,by omega,h⟩
def lim:Nat:=1000000000000
def app {α:Type} (xs ys:List α):Option (List α):=if xs.length+ys.length≤lim then some (xs++ys) else none
theorem Ze3 {α:Type} {xs ys zs:List α} (h:app xs ys=some zs):xs.length+ys.length≤lim∧zs=xs++ys:=by
 obtain ⟨h0,h⟩:=Z1p h
 injection h with h
 exact ⟨h0,h.symm⟩
def cut {α:Type} (xs:List α) (l h:Int):Option (List α):=if 0≤l∧l≤h∧h≤xs.length then some ((xs.drop l.toNat).take (h.toNat - l.toNat)) else none
theorem cut_some {α:Type} {xs ys:List α} {l h:Int} (e:cut xs l h=some ys):(0≤l∧l≤h∧h≤xs.length)∧ys=(xs.drop l.toNat).take (h.toNat - l.toNat):=by
 obtain ⟨h0,h⟩:=Z1p e
 injection h with h
 exact ⟨h0,h.symm⟩
def shl (k:IntKind) (x y:Int):Option Int:=if y < 0 then none else some (k.wrap (x * 2 ^ (min y.toNat k.bits)))
def shr (k:IntKind) (x y:Int):Option Int:=if y < 0 then none else some (x.fdiv (2 ^ (min y.toNat k.bits)))
theorem shl_some {k:IntKind} {x y z:Int} (h:shl k x y=some z):¬ y < 0∧z=k.wrap (x * 2 ^ (min y.toNat k.bits)):=by
 unfold shl at h
 by_cases hy:y < 0
 ·rw [if_pos hy] at h; cases h
 ·rw [if_neg hy] at h; injection h with h; exact ⟨hy,h.symm⟩
theorem shr_some {k:IntKind} {x y z:Int} (h:shr k x y=some z):¬ y < 0∧z=x.fdiv (2 ^ (min y.toNat k.bits)):=by
 unfold shr at h
 by_cases hy:y < 0
 ·rw [if_pos hy] at h; cases h
 ·rw [if_neg hy] at h; injection h with h; exact ⟨hy,h.symm⟩
def band (k:IntKind) (x y:Int):Int:=k.wrap ((BitVec.ofInt k.bits x &&& BitVec.ofInt k.bits y).toNat:Int)
def bor (k:IntKind) (x y:Int):Int:=k.wrap ((BitVec.ofInt k.bits x ||| BitVec.ofInt k.bits y).toNat:Int)
def bxor (k:IntKind) (x y:Int):Int:=k.wrap ((BitVec.ofInt k.bits x ^^^ BitVec.ofInt k.bits y).toNat:Int)
def bandn (k:IntKind) (x y:Int):Int:=k.wrap ((BitVec.ofInt k.bits x &&& ~~~ BitVec.ofInt k.bits y).toNat:Int)
def rI (k:IntKind) (x:Int):List C:=[.int k x]
def rL {α:Type} (sz:Nat) (r:α→List C) (x:List α):List C:=[.sl sz (x.map r)]
theorem row_get {α:Type} {r:α→List C} {xs:List α} {i:Nat} {x:α} (h:xs[i]? = some x):(xs.map r).getD i []=r x:=by
 rw [xe,qa,h]; rfl
theorem Zjy {α:Type} {r:α→List C} {xs:List α} {i:Nat} {x:α} (h:xs[i]? = some x):i < (xs.map r).length:=by
 rw [xg]; exact (List.getElem?_eq_some_iff.1 h).1
theorem Z0m {α:Type} {r:α→List C} {xs:List α} {i:Int} {x:α} (h:idx xs i=some x):0≤i∧i < ((xs.map r).length:Int):=by
 rw [xg]; exact ⟨(Z2c h).1,(Z2c h).2.1⟩
theorem Z0i {α:Type} {r:α→List C} {cells:List C} {xs:List α} {i:Int} {x:α} (h:idx xs i=some x) (hc:r x=cells):AV.Le (.v (.one (.fptr ((List.range cells.length).map fun j=>((xs.map r).getD i.toNat []).getD j .nils)))) (.v (.one (.fptr cells))):=by
 refine .of_eq ?_
 rw [row_get (Z2c h).2.2,hc]
 congr 3
 apply jr
 intro j
 by_cases hj:j < cells.length
 ·rw [qa,List.getElem?_range hj,qz,xe,yu hj]
  rfl
 ·rw [qd (by simp; omega),qd (by omega)]
theorem Zjx {α:Type} {r:α→List C} (F:List C→AV) {xs:List α} {i:Nat} {x:α} {cells:List C} (h:xs[i]? = some x) (hc:r x=cells):AV.Le (F ((xs.map r).getD i [])) (F cells):=.of_eq (by rw [row_get h,hc])
theorem Zjk {α:Type} {r:α→List C} {xs:List α}:AV.Le (.v (.one (.d (.int .i64 ((xs.map r).length:Int))))) (.v (.one (.d (.int .i64 (xs.length:Int))))):=.of_eq (by rw [xg])
theorem cut_le {α:Type} {r:α→List C} {sz:Nat} {xs ys:List α} {l h:Int} (e:cut xs l h=some ys):AV.Le (.v (.one (.d (.sl sz (((xs.map r).drop l.toNat).take (h.toNat - l.toNat)))))) (.v (.one (.d (.sl sz (ys.map r))))):=.of_eq (by rw [(cut_some e).2,List.map_take,List.map_drop])
theorem cut_bnd {α:Type} {r:α→List C} {xs ys:List α} {l h:Int} (e:cut xs l h=some ys):0≤l∧l≤h∧h≤((xs.map r).length:Int):=by rw [xg]; exact (cut_some e).1
theorem cut_le' {α:Type} {r:α→List C} {sz:Nat} {xs ys:List α} {l:Int} (e:cut xs l xs.length=some ys):AV.Le (.v (.one (.d (.sl sz (((xs.map r).drop l.toNat).take ((((xs.map r).length:Int)).toNat - l.toNat)))))) (.v (.one (.d (.sl sz (ys.map r))))):=.of_eq (by rw [(cut_some e).2,List.map_take,List.map_drop,xg])
theorem Zft {α:Type} {r:α→List C} {xs ys:List α} {l:Int} (e:cut xs l xs.length=some ys):0≤l∧l≤((xs.map r).length:Int)∧((xs.map r).length:Int)≤((xs.map r).length:Int):=by rw [xg]; exact (cut_some e).1
theorem app_ob {α:Type} {r:α→List C} {sz:Nat} {m:Bool} {xs ys zs:List α} (h:app xs ys=some zs):Ob.Le (.arr sz (xs.map r++ys.map r) m) (.arr sz (zs.map r) m):=.of_eq (by rw [(Ze3 h).2,List.map_append])
theorem app_b {α:Type} {r:α→List C} {xs ys zs:List α} (h:app xs ys=some zs) {b:Nat} (hb:b≤140):((xs.map r).length+(ys.map r).length) * b≤140737488355328:=by
 have:=(Ze3 h).1
 rw [xg,xg]
 unfold lim at this
 calc (xs.length+ys.length) * b≤1000000000000 * 140:=Nat.mul_le_mul this hb
  _≤140737488355328:=by decide
theorem app_m {α:Type} {r:α→List C} {xs ys zs:List α} (h:app xs ys=some zs):(xs.map r).length+(ys.map r).length≤9223372036854775807:=by
 have:=(Ze3 h).1
 rw [xg,xg]
 unfold lim at this
 omega
theorem app_n {α:Type} {r:α→List C} {s sz:Nat} {xs ys zs:List α} (h:app xs ys=some zs):AV.Le (.v (.one (.vw s sz 0 ((xs.map r).length+(ys.map r).length)))) (.v (.one (.vw s sz 0 (zs.map r).length))):=.of_eq (by rw [(Ze3 h).2,xg,xg,xg,yw])
def app0 {α:Type} (ys:List α):Option (List α):=if ys.length≤lim then some ys else none
theorem Zfe {α:Type} {ys zs:List α} (h:app0 ys=some zs):ys.length≤lim∧zs=ys:=by
 obtain ⟨h0,h⟩:=Z1p h
 injection h with h
 exact ⟨h0,h.symm⟩
theorem app0_ob {α:Type} {r:α→List C} {sz:Nat} {m:Bool} {ys zs:List α} (h:app0 ys=some zs):Ob.Le (.arr sz (ys.map r) m) (.arr sz (zs.map r) m):=.of_eq (by rw [(Zfe h).2])
theorem app0_b {α:Type} {r:α→List C} {ys zs:List α} (h:app0 ys=some zs) {b:Nat} (hb:b≤140):(ys.map r).length * b≤140737488355328:=by
 have:=(Zfe h).1
 rw [xg]
 unfold lim at this
 calc ys.length * b≤1000000000000 * 140:=Nat.mul_le_mul this hb
  _≤140737488355328:=by decide
theorem app0_m {α:Type} {r:α→List C} {ys zs:List α} (h:app0 ys=some zs):(ys.map r).length≤9223372036854775807:=by
 have:=(Zfe h).1
 rw [xg]
 unfold lim at this
 omega
theorem app0_n {α:Type} {r:α→List C} {s sz:Nat} {ys zs:List α} (h:app0 ys=some zs):AV.Le (.v (.one (.vw s sz 0 (ys.map r).length))) (.v (.one (.vw s sz 0 (zs.map r).length))):=.of_eq (by rw [(Zfe h).2])
theorem set_ob {α:Type} {r:α→List C} {sz off:Nat} {m:Bool} {xs:List α} {i:Nat} {x x':α} {cells ds:List C} (h:xs[i]? = some x) (hc:r x=cells) (hs:Zjw cells off ds sz=r x') :
  Ob.Le (.arr sz ((xs.map r).set i (Zjw ((xs.map r).getD i []) off ds sz)) m) (.arr sz ((xs.set i x').map r) m):=.of_eq (by rw [row_get h,hc,hs,List.map_set])
theorem Z89 {α:Type} {r:α→List C} {sz off:Nat} {xs:List α} {R:List (List C)} {i:Nat} {x x':α} {cells ds:List C} (hR:R=xs.map r) (h:xs[i]? = some x) (hc:r x=cells) (hs:Zjw cells off ds sz=r x') :
  R.set i (Zjw (R.getD i []) off ds sz)=(xs.set i x').map r:=by rw [hR,row_get h,hc,hs,List.map_set]
theorem raw_lt {α:Type} {r:α→List C} {xs:List α} {R:List (List C)} {i:Nat} {x:α} (hR:R=xs.map r) (h:xs[i]? = some x):i < R.length:=by rw [hR]; exact Zjy h
theorem shl_told {P:Program} {t:TypeId} {a b:Operand} {k k':IntKind} {x y z:Int} (h:shl k x y=some z):Zjs P (do eqGuard .shl t a b (.int k x) (.int k' y); binOp .shl t (.int k x) (.int k' y):Sem Value)=some (.int k z):=by
 obtain ⟨hy,rfl⟩:=shl_some h
 show Zjs P (Op.shift .shl k x k' y)=_
 unfold Op.shift
 rw [if_neg hy]
 rfl
theorem Zga {P:Program} {t:TypeId} {a b:Operand} {k k':IntKind} {x y z:Int} (h:shr k x y=some z):Zjs P (do eqGuard .shr t a b (.int k x) (.int k' y); binOp .shr t (.int k x) (.int k' y):Sem Value)=some (.int k z):=by
 obtain ⟨hy,rfl⟩:=shr_some h
 show Zjs P (Op.shift .shr k x k' y)=_
 unfold Op.shift
 rw [if_neg hy]
 rfl
theorem Z42 {sz:Nat} {rows rows':List (List C)} {m:Bool} (h:rows'=rows):Ob.Le (.arr sz rows m) (.arr sz rows' m):=.of_eq (by rw [h])
def mk {α:Type} (z:α) (n:Int):Option (List α):=if 0≤n∧n≤1000000000000 then some (List.replicate n.toNat z) else none
theorem mk_some {α:Type} {z:α} {n:Int} {xs:List α} (h:mk z n=some xs):(0≤n∧n≤1000000000000)∧xs=List.replicate n.toNat z:=by
 obtain ⟨h0,h⟩:=Z1p h
 injection h with h
 exact ⟨h0,h.symm⟩
theorem mk_bnd {α:Type} {z:α} {n:Int} {xs:List α} {b:Nat} (h:mk z n=some xs) (hb:b≤140):0≤n∧n≤n∧n * (b:Int)≤281474976710656∧n≤9223372036854775807:=by
 obtain ⟨⟨h0,h1⟩,_⟩:=mk_some h
 refine ⟨h0,Int.le_refl _, ?_,by omega⟩
 have:n * (b:Int)≤1000000000000 * 140:=Int.mul_le_mul h1 (by omega) (by omega) (by omega)
 omega
theorem mk_le {α:Type} {r:α→List C} {z:α} {n:Int} {xs:List α} {s sz:Nat} (h:mk z n=some xs):AV.Le (.v (.one (.vw s sz 0 n.toNat))) (.v (.one (.vw s sz 0 (xs.map r).length))):=.of_eq (by rw [(mk_some h).2,xg,ja])
theorem mk_ob {α:Type} {r:α→List C} {z:α} {n:Int} {xs:List α} {sz:Nat} {row:List C} {m:Bool} (h:mk z n=some xs) (hr:row=r z):Ob.Le (.arr sz (List.replicate n.toNat row) m) (.arr sz (xs.map r) m):=.of_eq (by rw [(mk_some h).2,List.map_replicate,hr])
theorem Zf6 {α:Type} {r:α→List C} {ys:List α}:((ys.map r).drop 0).take (ys.map r).length=ys.map r:=by rw [List.drop_zero,List.take_length]
theorem lent_ok {α:Type} {r:α→List C} {ys:List α}:0+(ys.map r).length≤(ys.map r).length:=by rw [xk]; exact xw _
theorem appv_b {α:Type} {r:α→List C} {xs ys zs:List α} (h:app xs ys=some zs) {b:Nat} (hb:b≤140):((xs.map r).length+(((ys.map r).drop 0).take (ys.map r).length).length) * b≤140737488355328:=by rw [Zf6]; exact app_b h hb
theorem appv_m {α:Type} {r:α→List C} {xs ys zs:List α} (h:app xs ys=some zs):(xs.map r).length+(((ys.map r).drop 0).take (ys.map r).length).length≤9223372036854775807:=by rw [Zf6]; exact app_m h
theorem appv_n {α:Type} {r:α→List C} {s sz:Nat} {xs ys zs:List α} (h:app xs ys=some zs):AV.Le (.v (.one (.vw s sz 0 ((xs.map r).length+(((ys.map r).drop 0).take (ys.map r).length).length)))) (.v (.one (.vw s sz 0 (zs.map r).length))):=by rw [Zf6]; exact app_n h
theorem appv_ob {α:Type} {r:α→List C} {sz:Nat} {m:Bool} {xs ys zs:List α} (h:app xs ys=some zs):Ob.Le (.arr sz (xs.map r++(((ys.map r).drop 0).take (ys.map r).length)) m) (.arr sz (zs.map r) m):=by rw [Zf6]; exact app_ob h
theorem app_raw {α:Type} {r:α→List C} {xs ys zs:List α} (h:app xs ys=some zs):xs.map r++ys.map r=zs.map r:=by rw [(Ze3 h).2,List.map_append]
theorem Zbh {α:Type} {r:α→List C} {ys zs:List α} (h:app0 ys=some zs):ys.map r=zs.map r:=by rw [(Zfe h).2]
theorem Zie {α:Type} {r:α→List C} {xs ys zs:List α} (h:app xs ys=some zs):xs.map r++(((ys.map r).drop 0).take (ys.map r).length)=zs.map r:=by rw [Zf6]; exact app_raw h
theorem Zjn {α:Type} {r:α→List C} {z:α} {n:Int} {xs:List α} {row:List C} (h:mk z n=some xs) (hr:row=r z):List.replicate n.toNat row=xs.map r:=by rw [(mk_some h).2,hr,List.map_replicate]
theorem Zf3 {rows rows' ys zs:List (List C)} (h:rows=rows') (k:rows'++ys=zs):rows++ys=zs:=by rw [h]; exact k
theorem Zfj {rows rows':List (List C)} (h:rows=rows'):rows'.length=rows.length:=by rw [h]
theorem raw_b {rows rows':List (List C)} {n b:Nat} (h:rows=rows') (k:(rows'.length+n) * b≤140737488355328):(rows.length+n) * b≤140737488355328:=by rw [h]; exact k
theorem raw_m {rows rows':List (List C)} {n:Nat} (h:rows=rows') (k:rows'.length+n≤9223372036854775807):rows.length+n≤9223372036854775807:=by rw [h]; exact k
theorem raw_n {rows rows':List (List C)} {n s sz:Nat} {y:AV} (h:rows=rows') (k:AV.Le (.v (.one (.vw s sz 0 (rows'.length+n)))) y):AV.Le (.v (.one (.vw s sz 0 (rows.length+n)))) y:=by rw [h]; exact k
theorem raw_ob {rows rows' ys:List (List C)} {sz:Nat} {m:Bool} {y:Ob} (h:rows=rows') (k:Ob.Le (.arr sz (rows'++ys) m) y):Ob.Le (.arr sz (rows++ys) m) y:=by rw [h]; exact k
def OC.Le (x y:OC):Prop:=∀ w F v bs,OC.Rep w F x v bs→OC.Rep w F y v bs
theorem OC.Le.refl (x:OC):OC.Le x x:=fun _ _ _ _ h=>h
theorem OC.Le.dat {c c':C} (h:C.Le c c'):OC.Le (.dat c) (.dat c'):=fun w F v bs ⟨h1,h2⟩=>⟨h1,h w F v h2⟩
theorem OCs.le:∀ {xs ys:List OC},All2 OC.Le xs ys→∀ {w:World} {F:Nat→Prop} {vs:List Value} {bs:List (Option Nat)},OCs.Rep w F xs vs bs→OCs.Rep w F ys vs bs
 |[],[],_,_,_,[],_,h=>h
 |x::xs,y::ys,hl,w,F,v::vs,bs,h=>by
  obtain ⟨b1,b2,rfl,h1,h2⟩:=h
  exact ⟨b1,b2,rfl,hl.1 w F v b1 h1,OCs.le hl.2 h2⟩
 |[],[],_,_,_,_::_,_,h=>h.elim
 |[],_::_,hl,_,_,_,_,_=>hl.elim
 |_::_,[],hl,_,_,_,_,_=>hl.elim
 |_::_,_::_,_,_,_,[],_,h=>h.elim
def PV.Le (x y:PV):Prop:=(∀ w F v bs,PV.Rep w F x v bs→PV.Rep w F y v bs)∧(∀ ps qs v vs,Zjp ps vs=Zjp qs vs→Zjp (x::ps) (v::vs)=Zjp (y::qs) (v::vs))
theorem PV.Le.refl (x:PV):PV.Le x x:=⟨fun _ _ _ _ h=>h,fun ps qs v vs h=>by cases x <;> simp [Zjp,h]⟩
theorem PV.Le.one {x y:OC} (h:OC.Le x y):PV.Le (.v (.one x)) (.v (.one y)):=⟨fun w F v bs hr=>h w F v bs hr,fun ps qs v vs h=>h⟩
theorem PV.Le.agg {xs ys:List OC} (h:All2 OC.Le xs ys):PV.Le (.v (.agg xs)) (.v (.agg ys)):=⟨fun w F v bs ⟨vs,h1,h2⟩=>⟨vs,h1,OCs.le h h2⟩,fun ps qs v vs h=>h⟩
theorem PV.Le.obj {xs ys:List OC} (h:All2 OC.Le xs ys):PV.Le (.obj xs) (.obj ys):=⟨fun w F v bs ⟨b,vs,t,bs',h1,h2,h3,h4⟩=>⟨b,vs,t,bs',h1,h2,h3,OCs.le h h4⟩,fun ps qs v vs h=>by simp [Zjp,h]⟩
theorem PVs.le:∀ {xs ys:List PV},All2 PV.Le xs ys→∀ {w:World} {F:Nat→Prop} {vs:List Value} {bs:List (Option Nat)},PVs.Rep w F xs vs bs→PVs.Rep w F ys vs bs∧Zjp xs vs=Zjp ys vs
 |[],[],_,_,_,[],_,h=>⟨h,rfl⟩
 |x::xs,y::ys,hl,w,F,v::vs,bs,h=>by
  obtain ⟨b1,b2,rfl,h1,h2⟩:=h
  obtain ⟨k1,k2⟩:=PVs.le hl.2 h2
  exact ⟨⟨b1,b2,rfl,hl.1.1 w F v b1 h1,k1⟩,hl.1.2 _ _ _ _ k2⟩
 |[],[],_,_,_,_::_,_,h=>h.elim
 |[],_::_,hl,_,_,_,_,_=>hl.elim
 |_::_,[],hl,_,_,_,_,_=>hl.elim
 |_::_,_::_,_,_,_,[],_,h=>h.elim
theorem Ziz.le {P:Program} {f:FuncId} {args args' fin:List PV} (hl:All2 PV.Le args args') (h:Ziz P f args' fin):Ziz P f args fin:=fun w vs F bs hF hr ho hb=>by
 obtain ⟨k1,k2⟩:=PVs.le hl hr
 rw [k2]
 exact h w vs F bs hF k1 ho hb
theorem FPan.le {P:Program} {f:FuncId} {args args':List PV} {v:Value} (hl:All2 PV.Le args args') (h:FPan P f args' v):FPan P f args v:=fun w vs F bs hF hr ho hb=>h w vs F bs hF (PVs.le hl hr).1 ho hb
def PV.nilOwn (p q:PV):Prop:=p=q∨(p=.v (.one (.dat .nils))∧∃ sz,0 < sz∧q=.v (.one (.own sz [])))
theorem PVs.nilOwn {w:World} {F:Nat→Prop}:∀ {ps qs:List PV} {vs:List Value} {bs:List (Option Nat)},All2 PV.nilOwn ps qs→PVs.Rep w F ps vs bs→∃ bs',PVs.Rep w F qs vs bs'∧(∀ b,some b ∈ bs' ↔ some b ∈ bs)∧(Once bs→Once bs')∧Zjp ps vs=Zjp qs vs
 |[],[],[],bs,_,h=>⟨bs,h,fun _=>Iff.rfl,fun h=>h,rfl⟩
 |p::ps,q::qs,v::vs,bs,hl,h=>by
  obtain ⟨b1,b2,rfl,h1,h2⟩:=h
  obtain ⟨b2',k1,k2,k3,k4⟩:=PVs.nilOwn hl.2 h2
  have once_app:∀ (l:List (Option Nat)),(Once (l++b2)→Once (l++b2')):=by
   intro l
   induction l with
   |nil=>exact k3
   |cons x l ih =>
    cases x with
    |none=>exact ih
    |some x =>
     intro ⟨a1,a2⟩
     refine ⟨fun hm=>a1 ?_,ih a2⟩
     rcases List.mem_append.1 hm with hm | hm
     ·exact List.mem_append.2 (.inl hm)
     ·exact List.mem_append.2 (.inr ((k2 x).1 hm))
  rcases hl.1 with rfl | ⟨rfl,sz,hpos,rfl⟩
  ·refine ⟨b1++b2',⟨b1,b2',rfl,h1,k1⟩,fun b=>by simp only [List.mem_append,k2],once_app b1, ?_⟩
   cases p with
   |v x=>exact k4
   |obj cells=>show v::_=v::_; rw [k4]
  ·obtain ⟨rfl,hv⟩:=h1
   have hv:v=.slice none 0 0:=hv
   refine ⟨[none]++b2',⟨[none],b2',rfl,.inl ⟨rfl,rfl,hpos,none,hv⟩,k1⟩,fun b=>by simp [k2],fun h=>k3 h,k4⟩
 |[],_::_,_,_,hl,_=>hl.elim
 |_::_,[],_,_,hl,_=>hl.elim
 |[],[],_::_,_,_,h=>h.elim
 |_::_,_::_,[],_,_,h=>h.elim
theorem Ziz.nils {P:Program} {f:FuncId} {args args' fin:List PV} (hl:All2 PV.nilOwn args args') (h:Ziz P f args' fin):Ziz P f args fin:=fun w vs F bs hF hr ho hb=>by
 obtain ⟨bs',k1,k2,k3,k4⟩:=PVs.nilOwn hl hr
 rw [k4]
 refine Z3j (h w vs F bs' hF k1 (k3 ho) fun b hm=>hb b ((k2 b).1 hm)) fun e w' ⟨vres,F',bs2,q1,q2,q3,q4,q5,q6,q7,q8⟩=>⟨vres,F',bs2,q1,q2,q3,fun b hm=>?_,q5,fun b hm=>?_,fun b h1 h2=>q7 b h1 fun hm=>h2 ((k2 b).1 hm),q8⟩
 ·obtain ⟨a1,a2⟩:=q4 b hm
  exact ⟨a1,a2.imp_left (k2 b).1⟩
 ·obtain ⟨a1,a2⟩:=q6 b hm
  exact ⟨a1,a2.imp_right (Or.imp_left (k2 b).1)⟩
theorem FPan.nils {P:Program} {f:FuncId} {args args':List PV} {v:Value} (hl:All2 PV.nilOwn args args') (h:FPan P f args' v):FPan P f args v:=fun w vs F bs hF hr ho hb=>by
 obtain ⟨bs',k1,k2,k3,k4⟩:=PVs.nilOwn hl hr
 exact Z3j (h w vs F bs' hF k1 (k3 ho) fun b hm=>hb b ((k2 b).1 hm)) fun e w' ⟨q1,q2,q3⟩=>⟨q1,fun b h1 h2=>q2 b h1 fun hm=>h2 ((k2 b).1 hm),q3⟩
theorem Zj2.le {w:World} {F:Nat→Prop} {b sz:Nat}:∀ {rs rs':List (List C)} {off:Nat},All2 (All2 C.Le) rs rs'→Zj2 w F b sz rs off→Zj2 w F b sz rs' off
 |[],[],_,_,_=>by simp only [Zj2]
 |r::rs,r'::rs',off,h,h3=>by
  simp only [Zj2] at h3 ⊢
  exact ⟨h.1.length ▸ h3.1,Zj1.le h.1 h3.2.1,Zj2.le h.2 h3.2.2⟩
 |[],_::_,_,h,_=>h.elim
 |_::_,[],_,h,_=>h.elim
theorem Ob.Le.rows {sz:Nat} {rows rows':List (List C)} {m:Bool} (h:All2 (All2 C.Le) rows rows'):Ob.Le (.arr sz rows m) (.arr sz rows' m) :=
 ⟨fun w S β b ⟨vs,t,h1,h2,h3,h4,h5⟩=>⟨vs,t,h1,h2,Zj2.le h h3,by rw [← h.length]; exact h4,by rw [← h.length]; exact h5⟩,fun ⟨h1,h2,h3⟩=>⟨by subst h1; cases rows' with | nil=>rfl | cons _ _=>exact h.elim,h2,h3⟩⟩
theorem Ob.Le.trans {x y z:Ob} (h:Ob.Le x y) (k:Ob.Le y z):Ob.Le x z:=⟨fun w S β b hr=>k.1 w S β b (h.1 w S β b hr),fun he=>k.2 (h.2 he)⟩
theorem Ziz.split0 {P:Program} {f:FuncId} {sz:Nat} {fin:List PV} (h1:Ziz P f [.v (.one (.dat .nils))] fin) (h2:Ziz P f [.v (.one (.dat .sl0))] fin):Ziz P f [.v (.one (.dat (.sl sz [])))] fin:=by
 intro w vs F bs hF hr ho hb
 cases vs with
 |nil=>exact hr.elim
 |cons v vs =>
  obtain ⟨b1,b2,rfl,hv,hvs⟩:=hr
  cases vs with
  |cons _ _=>simp only [PVs.Rep] at hvs
  |nil =>
   have hvs':b2=[]:=hvs
   subst hvs'
   obtain ⟨rfl,hc⟩:=hv
   have key:C.Rep w F .nils v∨C.Rep w F .sl0 v:=by
    simp only [C.Rep] at hc ⊢
    rcases hc with ⟨_,a,rfl⟩ | ⟨b,off,cap,rfl,_⟩
    ·cases a with
     |none=>exact .inl rfl
     |some a=>exact .inr ⟨a,0,rfl,.inl rfl⟩
    ·exact .inr ⟨_,cap,rfl,.inr rfl⟩
   rcases key with hc | hc
   ·exact h1 w [v] F [] hF ⟨[],[],rfl,⟨rfl,hc⟩,rfl⟩ ho hb
   ·exact h2 w [v] F [] hF ⟨[],[],rfl,⟨rfl,hc⟩,rfl⟩ ho hb
theorem C.Le.slr {sz n:Nat} {rows:List (List C)}:C.Le (.slr sz n rows) (.sl sz (rows.take n)):=fun w F v h=>by
 simp only [C.Rep] at h ⊢
 obtain ⟨b,hv,hc,hF,hr⟩:=h
 refine .inr ⟨b,0,rows.length,by rw [hv,qy,jd hc],by rw [qy]; omega,fun hne=>hF fun e=>hne (by rw [e]; simp),hr.take n⟩
theorem OC.Le.room {sz n:Nat} {rows:List (List C)}:OC.Le (.room sz n rows) (.own sz (rows.take n)):=fun w F v bs h=>by
 obtain ⟨b,vs,t,h1,h2,h3,h4,h5,h6,h7⟩:=h
 exact .inr ⟨b,rows.length,vs,t,h1,by rw [h2,qy,jd h3],by rw [qy]; omega,h4,h5,h6,h7.take n⟩
theorem Z23 {P : Program} {f : FuncId} {fn : Func} (hf:P.funcs[f]? = some fn) (hn:(fn.name == "runtime.NumGoroutine") = false) (hb:fn.body.isNone = true) (h1:Extern.findNext fn = none) (h2:Extern.find fn = some Extern.MathFloatBits.float64frombits) {n : Int} : Ziy P f #[.int .u64 n] (.float .f64 n.toNat) :=
 fun w=>by rw [run_callFunc_extern hf hn hb h1 h2]; rfl
theorem Z8u {P : Program} {f : FuncId} {fn : Func} (hf:P.funcs[f]? = some fn) (hn:(fn.name == "runtime.NumGoroutine") = false) (hb:fn.body.isNone = true) (h1:Extern.findNext fn = none) (h2:Extern.find fn = some Extern.MathFloatBits.float64bits) {n : Nat} : Ziy P f #[.float .f64 n] (.int .u64 (n:Int)) :=
 fun w=>by rw [run_callFunc_extern hf hn hb h1 h2]; rfl
def feq (x y:Nat):Bool:=FloatKind.f64.format.order x y == some .eq
def fne (x y:Nat):Bool:=FloatKind.f64.format.order x y != some .eq
def flt (x y:Nat):Bool:=FloatKind.f64.format.order x y == some .lt
def fle (x y:Nat):Bool:=FloatKind.f64.format.order x y == some .lt || FloatKind.f64.format.order x y == some .eq
def fgt (x y:Nat):Bool:=FloatKind.f64.format.order x y == some .gt
def fge (x y:Nat):Bool:=FloatKind.f64.format.order x y == some .gt || FloatKind.f64.format.order x y == some .eq
def fneg (x:Nat):Nat:=Op.negFloat .f64 x
def fmul (x y:Nat):Option Nat:=FloatKind.f64.format.mul x y
def fdiv (x y:Nat):Option Nat:=FloatKind.f64.format.div x y
theorem fmul_told {P:Program} {t:TypeId} {a b:Operand} {x y z:Nat} (h:fmul x y=some z):Zjs P (do eqGuard .mul t a b (.float .f64 x) (.float .f64 y); binOp .mul t (.float .f64 x) (.float .f64 y):Sem Value)=some (.float .f64 z):=by
 show Zjs P (Op.floatArith .mul .f64 x y)=_
 unfold Op.floatArith
 have h':FloatKind.f64.format.mul x y=some z:=h
 simp only [h',pure_bind]
 rfl
def ftrunc (x:Nat):Option Nat :=
 match FloatKind.f64.decode x with
 |.nan s t=>if FloatKind.f64.format.quiet t=t then some x else none
 |d=>some (FloatKind.f64.encode (d.integral .zero))
theorem ext_trunc {P : Program} {f : FuncId} {fn : Func} (hf:P.funcs[f]? = some fn) (hn:(fn.name == "runtime.NumGoroutine") = false) (hb:fn.body.isNone = true) (h1:Extern.findNext fn = none) (h2:Extern.find fn = some (Extern.MathFloor.toIntegral "math.archTrunc" .zero)) {x z : Nat} (h:ftrunc x = some z) : Ziy P f #[.float .f64 x] (.float .f64 z) :=
 fun w=>by
  rw [run_callFunc_extern hf hn hb h1 h2]
  have e : ∀ d,FloatKind.f64.decode x = d → Extern.MathFloor.toIntegral "math.archTrunc" .zero #[.float .f64 x] = (match d with
   |.nan s t=>if FloatKind.f64.format.quiet t=t then pure (.float .f64 x) else do
    let kept ← choose (.extern "math.Floor,Ceil,Trunc,RoundToEven.signallingNaN kept" 2)
    pure (.float .f64 (if kept == 1 then x else FloatKind.f64.encode (.nan s (FloatKind.f64.format.quiet t))))
   |d=>pure (.float .f64 (FloatKind.f64.encode (d.integral .zero)))):=fun d hd=>by subst hd; rfl
  have : (Extern.MathFloor.toIntegral "math.archTrunc" .zero #[.float .f64 x]).run P w = .ok (.float .f64 z) w := by
   unfold ftrunc at h
   cases hd:FloatKind.f64.decode x with
   |nan s t =>
    rw [e _ hd]
    simp only [hd] at h ⊢
    split at h
    ·rename_i hq
     injection h with h
     subst h
     simp only [hq,if_true]
     rfl
    ·cases h
   |number n m p=>rw [e _ hd]; simp only [hd] at h ⊢; injection h with h; subst h; rfl
   |infinity n=>rw [e _ hd]; simp only [hd] at h ⊢; injection h with h; subst h; rfl
  simp only [this]
  rfl
def scmp (a b:ByteArray):Int:=Extern.BytealgCompare.cmp a b
theorem ext_cmpstr {P : Program} {f : FuncId} {fn : Func} (hf:P.funcs[f]? = some fn) (hn:(fn.name == "runtime.NumGoroutine") = false) (hb:fn.body.isNone = true) (h1:Extern.findNext fn = none) (h2:Extern.find fn = some Extern.BytealgCompare.compare) {a b : ByteArray} : Ziy P f #[.string a,.string b] (.int .i64 (scmp a b)) :=
 fun w=>by rw [run_callFunc_extern hf hn hb h1 h2]; rfl
def bads (n:Nat):List AV:=List.replicate n .bad
theorem Z5n {α:Type} {p q:Prop} [Decidable p] [Decidable q] {a a' b b':α} (h:p ↔ q) (h1:a=a') (h2:b=b'):(if p then a else b)=if q then a' else b':=by
 subst h1; subst h2
 by_cases k:p
 ·rw [if_pos k,if_pos (h.1 k)]
 ·rw [if_neg k,if_neg (fun c=>k (h.2 c))]
end Lift
set_option linter.unusedVariables false
namespace Lift
open Go Go.RowKit Go.ChangeShapes Go.WideShapes
inductive CK where
 |int (k:IntKind)
 |bool
 |str
 |flt (k:FloatKind)
 |sl (e:TypeId)
def fieldKinds (P:Program) (rec:TypeId→Option (List CK)):List Field→Nat→Option (List CK)
 |[],_=>some []
 |f::fs,off=>if f.offset=off then (rec f.type).bind fun ks=>if ks.length=P.cellsOf f.type then (fieldKinds P rec fs (off+ks.length)).map (ks++·) else none else none
def kinds (P:Program):Nat→TypeId→Option (List CK)
 |0,_=>none
 |n+1,t =>
  match P.underlying t with
  |some (.int k)=>some [.int k]
  |some .bool=>some [.bool]
  |some .string=>some [.str]
  |some (.float k)=>some [.flt k]
  |some (.slice e)=>some [.sl e]
  |some (.struct fs)=>(fieldKinds P (kinds P n) fs.toList 0).bind fun ks=>if ks.length=P.cellsOf t then some ks else none
  |_=>none
def OkC (P:Program):Nat→CK→C→Prop
 |0=>fun k c=>match k with
  |.int k=>∃ z,c=.int k z∧(Lit.int k z).wf=true
  |.bool=>∃ b,c=.bool b
  |.str=>∃ s,c=.str s∧s.size≤maxLen
  |.flt k=>∃ b,c=.flt k b∧(Lit.float k b).wf=true
  |.sl _=>False
 |n+1=>fun k c=>match k with
  |.int k=>∃ z,c=.int k z∧(Lit.int k z).wf=true
  |.bool=>∃ b,c=.bool b
  |.str=>∃ s,c=.str s∧s.size≤maxLen
  |.flt k=>∃ b,c=.flt k b∧(Lit.float k b).wf=true
  |.sl e=>∃ rows ks,kinds P 8 e=some ks∧c=.sl ks.length rows∧rows.length≤maxLen∧∀ r ∈ rows,All2 (OkC P n) ks r
theorem OkC.mono {P:Program}:∀ {n:Nat} {k:CK} {c:C},OkC P n k c→OkC P (n+1) k c:=by
 intro n
 induction n with
 |zero =>
  intro k c h
  cases k with
  |sl e=>simp only [OkC] at h
  |_=>simpa only [OkC] using h
 |succ n ih =>
  intro k c h
  cases k with
  |sl e =>
   simp only [OkC] at h
   obtain ⟨rows,ks,h1,h2,h3,h4⟩:=h
   show ∃ rows ks,_
   exact ⟨rows,ks,h1,h2,h3,fun r hr=>(h4 r hr).imp fun a b hab=>ih hab⟩
  |_=>simpa only [OkC] using h
def closedB (P:Program) (es:List TypeId):Bool :=
 es.all fun e=>match kinds P 8 e with
  |none=>false
  |some ks=>ks.length == P.cellsOf e && !ks.isEmpty && ks.all fun k=>match k with | .sl e'=>es.contains e' | _=>true
def slIn (es:List TypeId) (ks:List CK):Bool:=ks.all fun k=>match k with | .sl e'=>es.contains e' | _=>true
theorem slIn_append {es:List TypeId} {a b:List CK} (h:slIn es (a++b)=true):slIn es a=true∧slIn es b=true:=by
 unfold slIn at h ⊢
 rw [List.all_append,yx] at h
 exact h
theorem closedB_at {P:Program} {es:List TypeId} (h:closedB P es=true) {e:TypeId} (he:es.contains e=true):∃ ks,kinds P 8 e=some ks∧ks.length=P.cellsOf e∧ks ≠ []∧slIn es ks=true:=by
 unfold closedB at h
 have:=List.all_eq_true.1 h e (by simpa using he)
 cases hk:kinds P 8 e with
 |none=>rw [hk] at this; cases this
 |some ks =>
  rw [hk] at this
  simp only [yx,beq_iff_eq,qj,List.isEmpty_eq_false_iff] at this
  exact ⟨ks,rfl,this.1.1,this.1.2,this.2⟩
theorem Zdb {w:World} {a:Addr} {n:Nat} {vs:List Value} (h:w.cells? 0 a n=some vs):vs.length=n∧∀ i,i < n→w.cell? (a.add i)=vs[i]? := by
 unfold World.cells? at h
 rw [if_pos (jl _)] at h
 refine ⟨by simpa using mapM_some_length h,fun i hi=>mapM_some_get h i i (by simp [hi])⟩
theorem cell_spot {w:World} {a:Addr} {v:Value} (h:w.cell? a=some v):a=⟨a.block,a.off,none⟩∧a.block < w.heap.size:=by
 obtain ⟨b,o,s⟩:=a
 unfold World.cell? at h
 split at h
 ·rename_i c t f he
  split at h
  ·cases h
  ·rename_i hs
   simp at hs
   subst hs
   exact ⟨rfl,(Array.getElem?_eq_some_iff.1 he).1⟩
 ·cases h
theorem add_plain (b o n:Nat):Addr.add ⟨b,o,none⟩ n=⟨b,o+n,none⟩:=by
 unfold Addr.add
 split
 ·subst_vars; rfl
 ·rfl
theorem Zj1.of_get {w:World} {F:Nat→Prop} {b:Nat}:∀ {cs:List C} {vs:List Value} {off:Nat},All2 (C.Rep w F) cs vs→(∀ i,i < vs.length→w.cell? ⟨b,off+i,none⟩=vs[i]?)→Zj1 w F b cs off
 |[],[],_,_,_=>by simp only [Zj1]
 |c::cs,v::vs,off,h,hg=>by
  simp only [All2] at h
  simp only [Zj1]
  refine ⟨⟨v,by simpa using hg 0 (by simp),h.1⟩,Zj1.of_get h.2 fun i hi=>?_⟩
  have:=hg (i+1) (by simp; omega)
  rw [Nat.add_assoc,Nat.add_comm 1 i,this]
  simp
theorem Zj2.of_get {w:World} {F:Nat→Prop} {b sz:Nat}:∀ {rows:List (List C)} {off:Nat},(∀ i r,rows[i]? = some r→r.length=sz∧Zj1 w F b r (off+i * sz))→Zj2 w F b sz rows off
 |[],_,_=>by simp only [Zj2]
 |r::rs,off,h=>by
  simp only [Zj2]
  have h0:=h 0 r (by simp)
  refine ⟨h0.1,by simpa using h0.2,Zj2.of_get fun i x hx=>?_⟩
  have:=h (i+1) x (by simpa using hx)
  refine ⟨this.1, ?_⟩
  have e:off+sz+i * sz=off+(i+1) * sz:=by rw [ug,zo]; omega
  rw [e]; exact this.2
theorem list_of {α:Type}:∀ {len:Nat} {Q:Nat→α→Prop},(∀ i,i < len→∃ r,Q i r)→∃ rows:List α,rows.length=len∧∀ i r,rows[i]? = some r→Q i r
 |0,Q,_=>⟨[],rfl,fun i r h=>by simp at h⟩
 |len+1,Q,h=>by
  obtain ⟨r0,h0⟩:=h 0 (by omega)
  obtain ⟨rows,hl,hr⟩:=list_of (len:=len) (Q:=fun i r=>Q (i+1) r) fun i hi=>h (i+1) (by omega)
  refine ⟨r0::rows,by simp [hl],fun i r hi=>?_⟩
  cases i with
  |zero=>simp at hi; subst hi; exact h0
  |succ i=>exact hr i r (by simpa using hi)
variable {H:Type} {enc:TypeId × Value→H} {P:Program} {w:World}
theorem trod_flt {fuel:Nat} {t:TypeId} {k:FloatKind} {cs:List Value} {x:DataW H × List MemPlace} (ht:P.underlying t=some (.float k)) (h:DataW.trod enc P w 0 (fun _=>true) true fuel t cs=some x):∃ b,cs=[.float k b]∧(Lit.float k b).wf=true:=by
 cases fuel with
 |zero=>simp [DataW.trod] at h
 |succ n =>
  unfold DataW.trod at h
  rw [ht] at h
  split at h <;> simp_all
theorem fields_read {n:Nat} {rec:TypeId→Option (List CK)} {es:List TypeId} {cs:List Value}
    (ih:∀ {t:TypeId} {c:List Value} {x:DataW H × List MemPlace} {ks:List CK},DataW.trod enc P w 0 (fun _=>true) true n t c=some x→rec t=some ks→slIn es ks=true→∃ cs',All2 (C.Rep w (fun b=>b < w.heap.size)) cs' c∧All2 (OkC P n) ks cs') :
    ∀ {fs : List Field} {off : Nat} {ks : List CK}, fieldKinds P rec fs off = some ks → slIn es ks = true → (∀ f ∈ fs, ∃ y, DataW.trod enc P w 0 (fun _ => true) true n f.type ((cs.drop f.offset).take (P.cellsOf f.type)) = some y) → off + ks.length = cs.length →
      ∃ cs',All2 (C.Rep w (fun b=>b < w.heap.size)) cs' (cs.drop off)∧All2 (OkC P n) ks cs':=by
  intro fs
  induction fs with
  | nil =>
    intro off ks h _ _ hl
    simp only [fieldKinds,yn] at h
    subst h
    refine ⟨[], ?_,trivial⟩
    rw [List.drop_of_length_le (by simp at hl; omega)]
    trivial
  | cons f fs ihf =>
    intro off ks h hs hf hl
    unfold fieldKinds at h
    split at h
    next ho =>
      simp only [yo] at h
      obtain ⟨k1,hk1,h⟩:=h
      split at h
      next hk =>
        simp only [ym] at h
        obtain ⟨k2,hk2,rfl⟩:=h
        obtain ⟨s1,s2⟩:=slIn_append hs
        obtain ⟨y,hy⟩:=hf f (by simp)
        obtain ⟨c1,r1,o1⟩:=ih hy hk1 s1
        obtain ⟨c2,r2,o2⟩:=ihf hk2 s2 (fun g hg=>hf g (by simp [hg])) (by simp at hl; omega)
        refine ⟨c1++c2, ?_,o1.append o2⟩
        have e:cs.drop off=(cs.drop f.offset).take (P.cellsOf f.type)++cs.drop (off+k1.length):=by
          rw [ho,hk, ← List.drop_drop,ku]
        rw [e]
        exact r1.append r2
      next=>cases h
    next=>cases h
theorem trod_reads {es:List TypeId} (hcl:closedB P es=true):∀ (fuel:Nat) {K:Nat} {t:TypeId} {cs:List Value} {x:DataW H × List MemPlace} {ks:List CK},
  DataW.trod enc P w 0 (fun _=>true) true fuel t cs=some x→kinds P K t=some ks→slIn es ks=true→∃ cs',All2 (C.Rep w (fun b=>b < w.heap.size)) cs' cs∧All2 (OkC P fuel) ks cs':=by
 intro fuel
 induction fuel with
 |zero=>intro K t cs x ks h; simp [DataW.trod] at h
 |succ n ih =>
  intro K t cs x ks h hk hs
  cases K with
  |zero=>simp [kinds] at hk
  |succ K =>
   unfold kinds at hk
   split at hk
   next k ht =>
    injection hk with hk; subst hk
    obtain ⟨z,rfl,_,hw⟩:=DataW.trod_int ht h
    exact ⟨[.int k z],⟨by simp only [C.Rep],trivial⟩,⟨⟨z,rfl,hw⟩,trivial⟩⟩
   next ht =>
    injection hk with hk; subst hk
    obtain ⟨z,rfl,_⟩:=DataW.trod_bool ht h
    exact ⟨[.bool z],⟨by simp only [C.Rep],trivial⟩,⟨⟨z,rfl⟩,trivial⟩⟩
   next ht =>
    injection hk with hk; subst hk
    obtain ⟨z,rfl,_,hw⟩:=DataW.trod_string ht h
    exact ⟨[.str z],⟨by simp only [C.Rep],trivial⟩,⟨⟨z,rfl,hw⟩,trivial⟩⟩
   next k ht =>
    injection hk with hk; subst hk
    obtain ⟨b,rfl,hw⟩:=trod_flt ht h
    exact ⟨[.flt k b],⟨by simp only [C.Rep],trivial⟩,⟨⟨b,rfl,hw⟩,trivial⟩⟩
   next e ht =>
    injection hk with hk; subst hk
    have he:es.contains e=true:=by simpa [slIn] using hs
    obtain ⟨ke,hke,hkl,hkn,hks⟩:=closedB_at hcl he
    rcases DataW.trod_slice ht h with ⟨rfl,_⟩ | ⟨a,len,cap,elems,rest,n',hn,rfl,_,_,hlc,hcm,hel,hget,hsp,_⟩
    ·exact ⟨[.sl ke.length []],⟨by simp only [C.Rep]; exact .inl ⟨trivial,none,rfl⟩,trivial⟩,⟨⟨[],ke,hke,rfl,jl _,fun r hr=>by cases hr⟩,trivial⟩⟩
    ·obtain rfl:n=n':=by omega
     obtain ⟨hrl,hrget⟩:=hsp rfl
     have hpos:0 < P.cellsOf e:=by rw [← hkl]; exact List.length_pos_iff.2 hkn
     by_cases hc0:cap=0
     ·subst hc0
      have:len=0:=by omega
      subst this
      exact ⟨[.sl ke.length []],⟨by simp only [C.Rep]; exact .inl ⟨trivial,some a,rfl⟩,trivial⟩,⟨⟨[],ke,hke,rfl,jl _,fun r hr=>by cases hr⟩,trivial⟩⟩
     ·have hcell:∃ v,w.cell? a=some v:=by
       by_cases hl0:len=0
       ·have h0:=hrget 0 (by omega)
        have:rest[0]? = some rest[0]:=yu (by omega)
        rw [this,yo] at h0
        obtain ⟨vs,hvs,_⟩:=h0
        have hc:=(Zdb hvs).2 0 hpos
        subst hl0
        have e1:(a.add ((0+0) * P.cellsOf e)).add 0=a:=by simp [Addr.add]
        rw [e1] at hc
        have hvl:=(Zdb hvs).1
        rw [yu (by omega)] at hc
        exact ⟨_,hc⟩
       ·have h0:=hget 0 (by omega)
        have:elems[0]? = some elems[0]:=yu (by omega)
        rw [this,yo] at h0
        obtain ⟨vs,hvs,_⟩:=h0
        have hc:=(Zdb hvs).2 0 hpos
        have e1:(a.add (0 * P.cellsOf e)).add 0=a:=by simp [Addr.add]
        rw [e1] at hc
        have hvl:=(Zdb hvs).1
        rw [yu (by omega)] at hc
        exact ⟨_,hc⟩
      obtain ⟨v0,hv0⟩:=hcell
      obtain ⟨ha,hab⟩:=cell_spot hv0
      obtain ⟨rows,hrl',hrq⟩:=list_of (len:=len) (Q:=fun i (r:List C)=>All2 (OkC P n) ke r∧Zj1 w (fun b=>b < w.heap.size) a.block r (a.off+i * ke.length)) fun i hi=>by
       have h0:=hget i hi
       rw [yu (by omega:i < elems.length),yo] at h0
       obtain ⟨vs,hvs,hy⟩:=h0
       obtain ⟨c1,r1,o1⟩:=ih hy hke hks
       refine ⟨c1,o1,Zj1.of_get r1 fun j hj=>?_⟩
       have hc:=(Zdb hvs).2 j (by rw [← (Zdb hvs).1]; exact hj)
       rw [ha,add_plain,add_plain] at hc
       rw [hkl]
       exact hc
      refine ⟨[.sl ke.length rows],⟨?_,trivial⟩,⟨⟨rows,ke,hke,rfl,by omega,fun r hr=>?_⟩,trivial⟩⟩
      ·simp only [C.Rep]
       refine .inr ⟨a.block,a.off,cap,by rw [← ha,hrl'],by omega,fun _=>hab,Zj2.of_get fun i r hi=>?_⟩
       obtain ⟨o1,r1⟩:=hrq i r hi
       exact ⟨o1.length.symm,r1⟩
      ·obtain ⟨i,hi⟩:=jf hr
       exact (hrq i r hi).1
   next fs ht =>
    simp only [yo] at hk
    obtain ⟨ks',hf,hk⟩:=hk
    split at hk
    next hl =>
     injection hk with hk; subst hk
     obtain ⟨xs,n',hn,_,hcl',hxl,hx⟩:=DataW.trod_struct ht h
     obtain rfl:n=n':=by omega
     obtain ⟨cs',r,o⟩:=fields_read (cs:=cs) (fun h1 h2 h3=>ih h1 h2 h3) hf hs (fun f hf'=>by
      obtain ⟨i,hi⟩:=jf hf'
      have hi':fs[i]? = some f:=by simpa using hi
      rw [hx i f hi']
      have:i < xs.length:=by rw [hxl]; exact (Array.getElem?_eq_some_iff.1 hi').1
      exact ⟨_,yu this⟩) (by omega)
     exact ⟨cs',by simpa using r,o.imp fun a b hab=>hab.mono⟩
    next=>cases hk
   next=>cases hk
def argOf (P:Program) (t:TypeId) (cs:List C):PV :=
 match P.underlying t with
 |some (.struct _)=>.v (.agg (cs.map OC.dat))
 |_=>match cs with
  |[c]=>.v (.one (.dat c))
  |_=>.v (.agg (cs.map OC.dat))
def OkArg (P:Program) (n:Nat) (t:TypeId) (cs:List C):Prop:=∃ ks,kinds P 8 t=some ks∧All2 (OkC P n) ks cs
def OkArgs (P:Program):List TypeId→List (List C)→Prop
 |[],[]=>True
 |t::ts,c::cs=>(∃ n,OkArg P n t c)∧OkArgs P ts cs
 |_,_=>False
def argsOf (P:Program):List TypeId→List (List C)→List PV
 |t::ts,c::cs=>argOf P t c::argsOf P ts cs
 |_,_=>[]
theorem OCs.Rep_dat {F:Nat→Prop}:∀ {cs:List C} {vs:List Value},All2 (C.Rep w F) cs vs→OCs.Rep w F (cs.map OC.dat) vs []
 |[],[],_=>by simp [OCs.Rep]
 |c::cs,v::vs,h=>by
  simp only [All2] at h
  exact ⟨[],[],rfl,⟨rfl,h.1⟩,OCs.Rep_dat h.2⟩
theorem PVs.Rep_cons' {F:Nat→Prop} {p:PV} {ps:List PV} {v:Value} {vs:List Value} (h:p.Rep w F v []) (k:PVs.Rep w F ps vs []):PVs.Rep w F (p::ps) (v::vs) []:=⟨[],[],rfl,h,k⟩
def argB (P:Program) (es:List TypeId) (t:TypeId):Bool :=
 match kinds P 8 t with
 |none=>false
 |some ks=>slIn es ks && P.readableRec t && decide (t < P.types.size) && (match P.underlying t with | some (.struct _)=>true | some (.array _ _)=>false | _=>ks.length == 1)
theorem arg_reads {es:List TypeId} (hcl:closedB P es=true) {r:Reach} {b0:Nat} {t:TypeId} {v:Value} {d:DataW H} {ps:List MemPlace} (ht:argB P es t=true) (hval:Value.okWide P w r b0 t v) (h:DataW.Trod enc P w 0 (fun _=>true) true t v d ps) :
  ∃ n cs,OkArg P n t cs∧(argOf P t cs).Rep w (fun b=>b < w.heap.size) v []:=by
 unfold argB at ht
 split at ht
 ·cases ht
 next ks hk =>
  simp only [yx] at ht
  obtain ⟨⟨⟨hs,_⟩,_⟩,hu⟩:=ht
  obtain ⟨fuel,hf⟩:=h
  obtain ⟨cs,hr,ho⟩:=trod_reads hcl fuel hf hk hs
  refine ⟨fuel,cs,⟨ks,hk,ho⟩, ?_⟩
  have hl:=ho.length
  unfold argOf
  split at hu
  next fs hfs =>
   rw [hfs]
   simp only [Value.okWide,hfs] at hval
   obtain ⟨vs,rfl,_,_⟩:=hval
   exact ⟨vs,rfl,OCs.Rep_dat (by simpa [Value.cells] using hr)⟩
  next=>cases hu
  next h1 h2 =>
   simp only [beq_iff_eq] at hu
   obtain ⟨k,rfl⟩:∃ k,ks=[k]:=List.length_eq_one_iff.1 hu
   obtain ⟨c,rfl⟩:∃ c,cs=[c]:=List.length_eq_one_iff.1 (by rw [← hl]; rfl)
   have hv:¬ ∃ vs,v=.agg vs:=by
    rintro ⟨vs,rfl⟩
    unfold Value.okWide at hval
    split at hval
    next h3=>exact h1 _ h3
    next h3=>exact h2 _ _ h3
    next =>
     cases hu:P.underlying t with
     |none=>simp [Cell.okWide,Cell.ok,hu] at hval
     |some d=>cases d <;> simp_all [Cell.okWide,Cell.ok]
   have hcells:v.cells.toList=[v]:=by
    cases v <;> first | rfl | exact absurd ⟨_,rfl⟩ hv
   rw [hcells] at hr
   simp only [All2] at hr
   split
   next h3=>exact absurd h3 (h1 _)
   next=>exact ⟨rfl,hr.1⟩
theorem args_read {es:List TypeId} (hcl:closedB P es=true) {r:Reach} {b0:Nat}:∀ {ts:List TypeId} {vs:List Value} {ds:List (DataW H)} {ps:List MemPlace},ts.all (argB P es)=true →
  (∀ (j:Nat) t v,ts[j]? = some t→vs[j]? = some v→Value.okWide P w r b0 t v)→DataW.TrodAll enc P w 0 (fun _=>true) true ts vs ds ps →
  ∃ css,OkArgs P ts css∧PVs.Rep w (fun b=>b < w.heap.size) (argsOf P ts css) vs []
 |[],[],[],_,_,_,_=>⟨[],trivial,rfl⟩
 |t::ts,v::vs,d::ds,ps,ht,hval,h=>by
  obtain ⟨p,q,h1,h2,_⟩:=h
  rw [zm,yx] at ht
  obtain ⟨n,cs,ho,hr⟩:=arg_reads hcl ht.1 (hval 0 t v rfl rfl) h1
  obtain ⟨css,hos,hrs⟩:=args_read hcl ht.2 (fun j t v a b=>hval (j+1) t v (by simpa using a) (by simpa using b)) h2
  exact ⟨cs::css,⟨⟨n,ho⟩,hos⟩,PVs.Rep_cons' hr hrs⟩
theorem args_stay {es:List TypeId} (hl:laidOutB P=true) {w':World} (hb:Below w.heap.size w w'):∀ {ts:List TypeId} {vs:List Value} {ds:List (DataW H)} {ps:List MemPlace},ts.all (argB P es)=true →
  DataW.TrodAll enc P w 0 (fun _=>true) true ts vs ds ps→(∀ x ∈ ps,x.block < w.heap.size)→DataW.TrodAll enc P w' 0 (fun b=>decide (b < w.heap.size)) true ts vs ds ps
 |[],[],[],_,_,h,_=>h
 |t::ts,v::vs,d::ds,ps,ht,h,hlt=>by
  obtain ⟨p,q,h1,h2,rfl⟩:=h
  rw [zm,yx] at ht
  have hta:=ht.1
  unfold argB at hta
  split at hta
  ·cases hta
  ·simp only [yx,decide_eq_true_eq] at hta
   exact ⟨p,q,Below.trod hl hta.1.1.2 hta.1.2 h1 hb (fun x hx=>hlt x (by simp [hx])),args_stay hl hb ht.2 h2 (fun x hx=>hlt x (by simp [hx])),rfl⟩
theorem tupled_one (v:Value):Zk0 [v]=v:=rfl
theorem law_calls {es:List TypeId} {f:FuncId} {fn:Func} {s:ChangeSpec} {bt:TypeId} (hcl:closedB P es=true) (hl:laidOutB P=true) (hts:fn.params.toList.all (argB P es)=true) (hvars:s.vars=[])
  (hres:fn.resultTypes=#[bt]) (hbt:P.underlying bt=some .bool) (hs:∀ (ds:List (DataW H)),ds.length=fn.params.size→s.fn H ds={ results:=[.lit (.bool true)],args:=ds })
  (law:∀ css,OkArgs P fn.params.toList css→Ziz P f (argsOf P fn.params.toList css) [.v (.one (.dat (.bool true)))])
  (hnp:∀ css vs,Zjp (argsOf P fn.params.toList css) vs=[])
  {W:World} {base:Nat} {args:Array Value} {ds gs:List (DataW H)} {before:List MemPlace}
  (hval:∀ (j:Nat) t v,fn.params[j]? = some t→args[j]? = some v→Value.okWide P W .any base t v)
  (hW:DataW.Whole enc P fn.params.toList s.vars false W args.toList ds gs before) :
  Calls P f args W fun e W'=>∃ v,e=.returned v∧s.post enc P fn false true false false W args v W':=by
 have hW':=hW
 obtain ⟨p,q,hA,hV,rfl,hfz,hnd⟩:=hW
 rw [hvars] at hV
 obtain ⟨rfl,rfl⟩:=trodVars_none hV
 obtain ⟨css,hos,hrs⟩:=args_read hcl hts (fun j t v a b=>hval j t v (by simpa using a) (by simpa using b)) hA
 have hc:=law css hos W args.toList (fun b=>b < W.heap.size) [] (fun b hb=>hb) hrs (by simp [Once]) (fun b hb=>by cases hb)
 refine Calls.mono hc fun e W' hp=>?_
 obtain ⟨vres,F',bs',he,hpv,_,_,_,_,hblk,hsz,hos',htape,hout,_⟩:=hp
 rw [hnp] at hpv
 rw [xm] at hpv
 obtain ⟨v,rfl,hv⟩:∃ v,vres=[v]∧v=.bool true:=by
  cases vres with
  |nil=>simp only [PVs.Rep] at hpv
  |cons v vs =>
   obtain ⟨b1,b2,_,h1,h2⟩:=hpv
   cases vs with
   |nil =>
    refine ⟨v,rfl, ?_⟩
    simp only [PV.Rep,O1.Rep,OC.Rep,C.Rep] at h1
    exact h1.2
   |cons=>simp only [PVs.Rep] at h2
 subst hv
 have bel:Below W.heap.size W W':=⟨hos',htape,hout,hsz,fun k hk=>hblk k hk (by simp)⟩
 have hlen:ds.length=fn.params.size:=by
  have:∀ {ts:List TypeId} {vs:List Value} {ds:List (DataW H)} {ps:List MemPlace},DataW.TrodAll enc P W 0 (fun _=>true) true ts vs ds ps→ds.length=ts.length:=by
   intro ts
   induction ts with
   |nil=>intro vs ds ps h; cases vs <;> cases ds <;> simp_all [DataW.TrodAll]
   |cons t ts ih =>
    intro vs ds ps h
    cases vs <;> cases ds <;> simp only [DataW.TrodAll] at h
    obtain ⟨p,q,_,h2,_⟩:=h
    simp [ih h2]
  simpa using this hA
 refine ⟨_,he,ds,[],_,[],p,[],by rw [hvars] at hW' ⊢; exact hW', ?_, ?_, ?_,bel.frame _,fun h=>by cases h⟩
 ·rw [xm,hs ds hlen,hres,tupled_one]
  exact trodAll_mk1 (shut_bool hbt true)
 ·rw [xm,hs ds hlen]
  exact args_stay hl bel hts hA (fun x hx=>hW'.lt x (by simp [hx]))
 ·rw [xm,hs ds hlen,hvars]
  rfl
end Lift
set_option linter.unusedVariables false
namespace Lift
open Go Go.RowKit
def InR (k:IntKind) (z:Int):Prop:=(Lit.int k z).wf=true
def StR (s:ByteArray):Prop:=s.size≤maxLen
def AnyB (b:Bool):Prop:=True
structure ListR {α:Type} (W:α→Prop) (xs:List α):Prop where
 len:xs.length≤maxLen
 all:∀ x ∈ xs,W x
variable {P:Program}
theorem Za8 {α β:Type} {R:α→β→Prop} {a:α} {as:List α} {cs:List β} (h:All2 R (a::as) cs):∃ c cs',cs=c::cs'∧R a c∧All2 R as cs':=by
 cases cs with
 |nil=>simp only [All2] at h
 |cons c cs'=>exact ⟨c,cs',rfl,h.1,h.2⟩
theorem all2_nil {α β:Type} {R:α→β→Prop} {cs:List β} (h:All2 R ([]:List α) cs):cs=[]:=by
 cases cs with
 |nil=>rfl
 |cons c cs'=>simp only [All2] at h
theorem ok_int {n:Nat} {k:IntKind} {c:C} (h:OkC P n (.int k) c):∃ z,c=.int k z∧InR k z:=by cases n <;> exact h
theorem ok_bool {n:Nat} {c:C} (h:OkC P n .bool c):∃ z,c=.bool z∧AnyB z:=by
 cases n with
 |zero=>obtain ⟨b,h⟩:=h; exact ⟨b,h,trivial⟩
 |succ n=>obtain ⟨b,h⟩:=h; exact ⟨b,h,trivial⟩
theorem ok_str {n:Nat} {c:C} (h:OkC P n .str c):∃ z,c=.str z∧StR z:=by cases n <;> exact h
theorem inv_list {α:Type} {f:α→List C} {W:α→Prop} {Q:List C→Prop} (inv:∀ r,Q r→∃ x,f x=r∧W x):∀ {rows:List (List C)},(∀ r ∈ rows,Q r)→∃ xs:List α,rows=xs.map f∧∀ x ∈ xs,W x
 |[],_=>⟨[],rfl,fun x h=>by cases h⟩
 |r::rows,h=>by
  obtain ⟨x,hx,hw⟩:=inv r (h r (by simp))
  obtain ⟨xs,rfl,hws⟩:=inv_list inv (rows:=rows) fun r' hr=>h r' (by simp [hr])
  exact ⟨x::xs,by simp [hx],fun y hy=>by
   rcases List.mem_cons.1 hy with rfl | hy
   ·exact hw
   ·exact hws y hy⟩
theorem ok_sl {α:Type} {f:α→List C} {W:α→Prop} {n:Nat} {e:TypeId} {ks:List CK} {c:C} (hk:kinds P 8 e=some ks) (inv:∀ m,m < n→∀ r,All2 (OkC P m) ks r→∃ x,f x=r∧W x) (h:OkC P n (.sl e) c) :
  ∃ xs:List α,c=.sl ks.length (xs.map f)∧ListR W xs:=by
 cases n with
 |zero=>exact h.elim
 |succ n =>
  obtain ⟨rows,ks',hk',rfl,hl,hr⟩:=h
  obtain rfl:ks=ks':=Option.some.inj (hk.symm.trans hk')
  obtain ⟨xs,rfl,hw⟩:=inv_list (inv n (Nat.lt_succ_self n)) hr
  exact ⟨xs,rfl,⟨by simpa using hl,hw⟩⟩
theorem inv_int {n:Nat} {k:IntKind} {r:List C} (h:All2 (OkC P n) [.int k] r):∃ x,rI k x=r∧InR k x:=by
 obtain ⟨c,cs,rfl,h0,h⟩:=Za8 h
 obtain rfl:=all2_nil h
 obtain ⟨z,rfl,hz⟩:=ok_int h0
 exact ⟨z,rfl,hz⟩
theorem inv_sl {α:Type} {f:α→List C} {W:α→Prop} {n:Nat} {e:TypeId} {ks:List CK} {r:List C} (hk:kinds P 8 e=some ks) (inv:∀ m,m < n→∀ r,All2 (OkC P m) ks r→∃ x,f x=r∧W x) (h:All2 (OkC P n) [.sl e] r) :
  ∃ xs:List α,rL ks.length f xs=r∧ListR W xs:=by
 obtain ⟨c,cs,rfl,h0,h⟩:=Za8 h
 obtain rfl:=all2_nil h
 obtain ⟨xs,rfl,hz⟩:=ok_sl hk inv h0
 exact ⟨xs,rfl,hz⟩
theorem Zhz {t:TypeId} {ts:List TypeId} {css:List (List C)} (h:OkArgs P (t::ts) css):∃ cs css',css=cs::css'∧(∃ n,OkArg P n t cs)∧OkArgs P ts css':=by
 cases css with
 |nil=>exact h.elim
 |cons c cs'=>exact ⟨c,cs',rfl,h.1,h.2⟩
theorem okArgs_nil {css:List (List C)} (h:OkArgs P [] css):css=[]:=by
 cases css with
 |nil=>rfl
 |cons c cs'=>exact h.elim
theorem FSpec_args {f:FuncId} {a a' fin:List PV} (h:Ziz P f a fin) (e:a'=a):Ziz P f a' fin:=e ▸ h
theorem Zgv:∀ (ts:List TypeId) (css:List (List C)) (vs:List Value),Zjp (argsOf P ts css) vs=[]
 |[],_,_=>by simp [argsOf,Zjp]
 |_::_,[],_=>by simp [argsOf,Zjp]
 |t::ts,c::cs,[]=>by simp [argsOf,Zjp]
 |t::ts,c::cs,v::vs=>by
  have:∃ x,argOf P t c=.v x:=by
   unfold argOf
   split
   ·exact ⟨_,rfl⟩
   ·split <;> exact ⟨_,rfl⟩
  obtain ⟨x,hx⟩:=this
  simp only [argsOf,hx,Zjp]
  exact Zgv ts cs vs
end Lift
set_option linter.unusedVariables false
namespace Lift
open Go
def Ev {α:Type} (f:Nat→Option α) (v:α):Prop:=∃ N0, ∀ N,N0≤N→f N=some v
theorem Ev.now {α:Type} (v:α):Ev (fun _=>some v) v:=⟨0,fun _ _=>rfl⟩
theorem Ev.of {α:Type} {f g:Nat→Option α} {v:α} (h:Ev f v) (e:∀ N,g N=f N):Ev g v:=by
 obtain ⟨n,h⟩:=h
 exact ⟨n,fun N hN=>(e N).trans (h N hN)⟩
theorem Ev.step {α:Type} {f g:Nat→Option α} {v:α} (h:Ev g v) (e:∀ N,f (N+1)=g N):Ev f v:=by
 obtain ⟨n,h⟩:=h
 refine ⟨n+1,fun N hN=>?_⟩
 cases N with
 |zero=>omega
 |succ N=>rw [e]; exact h N (by omega)
theorem Ev.bind {α β:Type} {f:Nat→Option α} {g:Nat→α→Option β} {a:α} {b:β} (h:Ev f a) (k:Ev (fun N=>g N a) b):Ev (fun N=>(f N).bind (g N)) b:=by
 obtain ⟨n,h⟩:=h
 obtain ⟨m,k⟩:=k
 refine ⟨max n m,fun N hN=>?_⟩
 have h1:=h N (by omega)
 have h2:=k N (by omega)
 show (f N).bind (g N)=some b
 rw [h1]
 exact h2
theorem Ev.bindc {α β:Type} {x:Option α} {g:Nat→α→Option β} {a:α} {b:β} (h:x=some a) (k:Ev (fun N=>g N a) b):Ev (fun N=>x.bind (g N)) b:=by
 subst h
 exact k
theorem Ev.pos {α:Type} {p:Prop} [Decidable p] {f g:Nat→Option α} {v:α} (h:p) (k:Ev f v):Ev (fun N=>if p then f N else g N) v:=by
 obtain ⟨n,k⟩:=k
 exact ⟨n,fun N hN=>(if_pos h).trans (k N hN)⟩
theorem Ev.neg {α:Type} {p:Prop} [Decidable p] {f g:Nat→Option α} {v:α} (h:¬ p) (k:Ev g v):Ev (fun N=>if p then f N else g N) v:=by
 obtain ⟨n,k⟩:=k
 exact ⟨n,fun N hN=>(if_neg h).trans (k N hN)⟩
theorem Ev.ex {α:Type} {f:Nat→Option α} {v:α} (h:Ev f v):∃ N,f N=some v:=by
 obtain ⟨n,h⟩:=h
 exact ⟨n,h n (xw n)⟩
theorem Ev.det {α:Type} {f:Nat→Option α} {v v':α} (h:Ev f v) (k:Ev f v'):v=v':=by
 obtain ⟨n,h⟩:=h
 obtain ⟨m,k⟩:=k
 have h1:=h (max n m) (by omega)
 rw [k (max n m) (by omega)] at h1
 exact (Option.some.inj h1).symm
theorem Ev.eq {α:Type} {f:Nat→Option α} {v v':α} (h:Ev f v) (e:v=v'):Ev f v':=e ▸ h
theorem Zk1 (x:Int) (h:-9223372036854775808≤x) (k:x < 9223372036854775808):IntKind.i64.wrap x=x:=by
 have e:IntKind.i64.wrap x=(x+9223372036854775808) % 18446744073709551616 - 9223372036854775808:=by
  simp [IntKind.wrap,IntKind.bits,IntKind.signed]
  split <;> omega
 rw [e]; omega
theorem Ze8 (x:Int):IntKind.u64.wrap x=x % 18446744073709551616:=by
 simp [IntKind.wrap,IntKind.bits,IntKind.signed]
theorem wrapU (x:Int) (h:0≤x) (k:x < 18446744073709551616):IntKind.u64.wrap x=x:=by
 rw [Ze8]; omega
theorem Z4k:maxLen=9223372036854775807:=rfl
theorem Zjg {α:Type} {l xs:List α} {i:Nat} {x:α} (h:l.drop i=x::xs):idx l (i:Int)=some x:=by
 unfold idx
 rw [if_pos (vk i)]
 have:l[i]? = some x:=by
  have:=congrArg (fun z=>z[0]?) h
  simpa using this
 simpa using this
theorem Z5o {α:Type} {l xs:List α} {i:Nat} {x:α} (h:l.drop i=x::xs):i+1+xs.length=l.length:=by
 have:=congrArg List.length h
 simp at this
 omega
theorem Z50 {α:Type} {l xs:List α} {i:Nat} {x:α} (h:l.drop i=x::xs):l.drop (i+1)=xs:=by
 have:=congrArg (List.drop 1) h
 simpa [List.drop_drop,Nat.add_comm] using this
theorem Z6l {α:Type} {l:List α} {i:Nat} (h:l.drop i=[]):l.length≤i:=by simpa using h
theorem cut_eq {α:Type} {xs:List α} {l h:Int} (h0:0≤l) (h1:l≤h) (h2:h≤(xs.length:Int)):cut xs l h=some ((xs.drop l.toNat).take (h.toNat - l.toNat)):=if_pos ⟨h0,h1,h2⟩
theorem cut_front {α:Type} {xs:List α} {i:Nat} (h:i≤xs.length):cut xs 0 (i:Int)=some (xs.take i):=by
 rw [cut_eq (Int.le_refl 0) (vk i) (by omega)]
 simp
theorem cut_back {α:Type} {xs:List α} {i:Nat} (h:i≤xs.length):cut xs (i:Int) (xs.length:Int)=some (xs.drop i):=by
 rw [cut_eq (vk i) (by omega) (Int.le_refl _)]
 congr 1
 rw [uy (by simp)]
 simp
theorem app_eq {α:Type} {xs ys:List α} (h:xs.length+ys.length≤lim):app xs ys=some (xs++ys):=if_pos h
theorem app0_eq {α:Type} {ys:List α} (h:ys.length≤lim):app0 ys=some ys:=if_pos h
theorem idx_eq {α:Type} {xs:List α} {i:Nat} (h:i < xs.length):idx xs (i:Int)=some xs[i]:=by
 unfold idx
 rw [if_pos (vk i)]
 simp [h]
theorem mk_eq {α:Type} {z:α} {n:Nat} (h:n≤1000000000000):mk z (n:Int)=some (List.replicate n z):=by
 unfold mk
 rw [if_pos ⟨vk n,by omega⟩]
 simp
theorem lim_eq:lim=1000000000000:=rfl
theorem inI {z:Int} (h:InR .i64 z):-9223372036854775808≤z∧z≤9223372036854775807:=by
 have h:(Lit.int .i64 z).wf=true:=h
 simp [Lit.wf,IntKind.min,IntKind.max,IntKind.bits,IntKind.signed] at h
 omega
theorem Z3a {i:Nat} (h:i < 9223372036854775807):IntKind.i64.wrap ((i:Int)+1)=((i+1:Nat):Int):=by
 rw [Zk1 _ (by omega) (by omega)]; rfl
theorem Ev.stepE {α:Type} {f g:Nat→Option α} (P:α→Prop) (h:∃ v,Ev g v∧P v) (e:∀ N,f (N+1)=g N):∃ v,Ev f v∧P v:=by
 obtain ⟨v,h,p⟩:=h
 exact ⟨v,h.step e,p⟩
theorem Ev.iff {α:Type} {p:Prop} [Decidable p] {f g:Nat→Option α} {a b:α} (h:p→Ev f a) (k:¬ p→Ev g b):Ev (fun N=>if p then f N else g N) (if p then a else b):=by
 by_cases hp:p
 ·rw [if_pos hp]; exact Ev.pos hp (h hp)
 ·rw [if_neg hp]; exact Ev.neg hp (k hp)
theorem Ev.from {α:Type} {f:Nat→Option α} {v:α} (k:Nat) (h:∀ N,f (N+k)=some v):Ev f v :=
 ⟨k,fun N hN=>by have:=h (N - k); rwa [Nat.sub_add_cancel hN] at this⟩
theorem ofI {k n:Nat} (h:n < 2 ^ k):(BitVec.ofInt k (n:Int)).toNat=n:=by
 rw [wo]
 have:((n:Int) % ((2 ^ k:Nat):Int))=(n:Int):=Int.emod_eq_of_lt (vk n) (by exact_mod_cast h)
 rw [this,xn]
theorem wrapU32 (x:Int):IntKind.u32.wrap x=x % 4294967296:=by simp [IntKind.wrap,IntKind.bits,IntKind.signed]
theorem Zik {a b:Nat} (ha:a < 18446744073709551616) (hb:b < 18446744073709551616):band .u64 (a:Int) (b:Int)=((a &&& b:Nat):Int):=by
 unfold band
 rw [BitVec.toNat_and,ofI (k:=IntKind.bits .u64) (by exact ha),ofI (k:=IntKind.bits .u64) (by exact hb)]
 have:a &&& b≤a:=Nat.and_le_left
 exact wrapU _ (by omega) (by omega)
theorem bor_u64 {a b:Nat} (ha:a < 18446744073709551616) (hb:b < 18446744073709551616):bor .u64 (a:Int) (b:Int)=((a ||| b:Nat):Int):=by
 unfold bor
 rw [BitVec.toNat_or,ofI (k:=IntKind.bits .u64) (by exact ha),ofI (k:=IntKind.bits .u64) (by exact hb)]
 have:a ||| b < 2 ^ 64:=Nat.or_lt_two_pow ha hb
 exact wrapU _ (by omega) (by omega)
theorem bor_u32 {a b:Nat} (ha:a < 4294967296) (hb:b < 4294967296):bor .u32 (a:Int) (b:Int)=((a ||| b:Nat):Int):=by
 unfold bor
 rw [BitVec.toNat_or,ofI (k:=IntKind.bits .u32) (by exact ha),ofI (k:=IntKind.bits .u32) (by exact hb)]
 have:a ||| b < 2 ^ 32:=Nat.or_lt_two_pow ha hb
 rw [wrapU32]; omega
theorem and_mask (x k:Nat):x &&& (2 ^ k - 1)=x % 2 ^ k:=Nat.and_two_pow_sub_one_eq_mod x k
theorem band_one {a:Nat} (ha:a < 18446744073709551616):band .u64 (a:Int) 1=((a % 2:Nat):Int):=by
 have:=Zik (b:=1) ha (by decide)
 rw [show ((1:Nat):Int)=1 from rfl] at this
 rw [this,Nat.and_one_is_mod]
theorem or_top {a k:Nat} (h:a < 2 ^ k):a ||| 2 ^ k=a+2 ^ k:=by
 have:=Nat.two_pow_add_eq_or_of_lt h 1
 rw [kz] at this
 rw [Nat.or_comm, ← this]; omega
theorem shr_nat {a k:Nat} (hk:k < 64):shr .u64 (a:Int) (k:Int)=some ((a / 2 ^ k:Nat):Int):=by
 unfold shr
 rw [if_neg (by omega),xn,show min k (IntKind.bits .u64)=k by show min k 64=k; omega]
 congr 1
 rw [um _ (by exact_mod_cast jl _)]
 push_cast
 rfl
theorem shl_u32 {k:Nat} (hk:k < 32):shl .u32 1 (k:Int)=some ((2 ^ k:Nat):Int):=by
 unfold shl
 rw [if_neg (by omega),xn,show min k (IntKind.bits .u32)=k by show min k 32=k; omega,wrapU32]
 have h:2 ^ k < 2 ^ 32:=Nat.pow_lt_pow_right (by decide) hk
 have e:(1:Int) * 2 ^ k=((2 ^ k:Nat):Int):=by rw [Int.one_mul]; push_cast; rfl
 have h2:((2 ^ k:Nat):Int) < 4294967296:=Int.ofNat_lt.2 (qc h (by decide))
 rw [e,Int.emod_eq_of_lt (vk _) h2]
def lexB:List UInt8→List UInt8→Int
 |[],[]=>0
 |[],_::_=>-1
 |_::_,[]=>1
 |x::xs,y::ys=>if x < y then -1 else if y < x then 1 else lexB xs ys
def cmpLL (X Y:List UInt8):Int :=
 match (List.range (min X.length Y.length)).find? fun i=>X[i]! != Y[i]! with
 |some i=>if X[i]! < Y[i]! then -1 else 1
 |none=>if X.length < Y.length then -1 else if X.length > Y.length then 1 else 0
theorem cmpLL_eq:∀ X Y:List UInt8,cmpLL X Y=lexB X Y
 |[],[]=>rfl
 |[],y::ys=>by simp [cmpLL,lexB]
 |x::xs,[]=>by simp [cmpLL,lexB]
 |x::xs,y::ys=>by
  have ih:=cmpLL_eq xs ys
  rw [lexB, ← ih]
  unfold cmpLL
  rw [show min (x::xs).length (y::ys).length=min xs.length ys.length+1 by simp only [xu]; omega,List.range_succ_eq_map,List.find?_cons]
  by_cases h:x=y
  ·subst h
   simp only [List.getElem!_cons_zero,bne_self_eq_false,List.find?_map]
   have e:((fun i=>(x::xs)[i]! != (x::ys)[i]!) ∘ Nat.succ)=fun i=>xs[i]! != ys[i]! := by
    funext i
    simp
   rw [e]
   have h1:¬ x < x:=UInt8.lt_irrefl x
   rw [if_neg h1,if_neg h1]
   cases (List.range (min xs.length ys.length)).find? (fun i=>xs[i]! != ys[i]!) with
   |none=>simp only [ji,xu]; split <;> split <;> (try split) <;> (try split) <;> omega
   |some i=>simp
  ·have hb:((x::xs)[0]! != (y::ys)[0]!)=true:=by simp [h]
   rw [hb]
   simp only [List.getElem!_cons_zero]
   by_cases h1:x < y
   ·rw [if_pos h1,if_pos h1]
   ·rw [if_neg h1,if_neg h1]
    have h2:y < x:=by
     rcases UInt8.lt_or_lt_of_ne h with h3 | h3
     ·exact absurd h3 h1
     ·exact h3
    rw [if_pos h2]
theorem scmp_eq (a b:ByteArray):scmp a b=lexB a.data.toList b.data.toList:=by
 rw [← cmpLL_eq]
 obtain ⟨⟨l⟩⟩:=a
 obtain ⟨⟨m⟩⟩:=b
 have e:∀ (k:List UInt8) (i:Nat),(ByteArray.mk ⟨k⟩)[i]! = k[i]! := fun k i=>by
  by_cases h:i < k.length
  ·rw [getElem!_pos k i h,getElem!_pos (ByteArray.mk ⟨k⟩) i h]; rfl
  ·rw [getElem!_neg k i h,getElem!_neg (ByteArray.mk ⟨k⟩) i h]
 unfold scmp Extern.BytealgCompare.cmp cmpLL
 simp only [e]
 rfl
theorem Zg2:∀ X Y:List UInt8,lexB X Y=0∨lexB X Y=-1∨lexB X Y=1
 |[],[]=>.inl rfl
 |[],_::_=>.inr (.inl rfl)
 |_::_,[]=>.inr (.inr rfl)
 |x::xs,y::ys=>by
  rw [lexB]
  split
  ·exact .inr (.inl rfl)
  ·split
   ·exact .inr (.inr rfl)
   ·exact Zg2 xs ys
theorem lexB_turn:∀ X Y:List UInt8,lexB Y X=-(lexB X Y)
 |[],[]=>rfl
 |[],_::_=>rfl
 |_::_,[]=>rfl
 |x::xs,y::ys=>by
  rw [lexB,lexB,lexB_turn xs ys]
  by_cases h1:x < y
  ·rw [if_pos h1,if_neg (UInt8.lt_asymm h1),if_pos h1]; rfl
  ·rw [if_neg h1,if_neg h1]
   by_cases h2:y < x
   ·rw [if_pos h2,if_pos h2]
   ·rw [if_neg h2,if_neg h2]
theorem lexB_zero:∀ X Y:List UInt8,lexB X Y=0 ↔ X=Y
 |[],[]=>by simp [lexB]
 |[],_::_=>by simp [lexB]
 |_::_,[]=>by simp [lexB]
 |x::xs,y::ys=>by
  rw [lexB]
  by_cases h1:x < y
  ·rw [if_pos h1]; constructor
   ·intro h; cases h
   ·intro h; injection h with h; subst h; exact absurd h1 (UInt8.lt_irrefl _)
  ·rw [if_neg h1]
   by_cases h2:y < x
   ·rw [if_pos h2]; constructor
    ·intro h; cases h
    ·intro h; injection h with h; subst h; exact absurd h2 (UInt8.lt_irrefl _)
   ·rw [if_neg h2,lexB_zero xs ys]
    have e:x=y:=UInt8.le_antisymm (UInt8.not_lt.1 h2) (UInt8.not_lt.1 h1)
    simp [e]
structure Tr (p q r:Int):Prop where
 z1:p=0→r=q
 z2:q=0→r=p
 lo:p=-1→q=-1→r=-1
 hi:p=1→q=1→r=1
theorem lexB_tr:∀ X Y Z:List UInt8,Tr (lexB X Y) (lexB Y Z) (lexB X Z)
 |[],[],[]=>⟨fun _=>rfl,fun _=>rfl,fun h=>(by cases h),fun h=>(by cases h)⟩
 |[],[],_::_=>⟨fun _=>rfl,fun h=>(by cases h),fun h=>(by cases h),fun h=>(by cases h)⟩
 |[],_::_,[]=>⟨fun h=>(by cases h),fun h=>(by cases h),fun _ h=>(by cases h),fun h=>(by cases h)⟩
 |_::_,[],[]=>⟨fun h=>(by cases h),fun _=>rfl,fun h=>(by cases h),fun _ h=>(by cases h)⟩
 |_::_,[],_::_=>⟨fun h=>(by cases h),fun h=>(by cases h),fun h=>(by cases h),fun _ h=>(by cases h)⟩
 |[],y::ys,z::zs=>⟨fun h=>(by cases h),fun _=>rfl,fun _ _=>rfl,fun h=>(by cases h)⟩
 |x::xs,y::ys,[]=>⟨fun _=>rfl,fun h=>(by cases h),fun _ h=>(by cases h),fun _ _=>rfl⟩
 |x::xs,y::ys,z::zs=>by
  have ih:=lexB_tr xs ys zs
  have e1:∀ {a b:UInt8},a < b ↔ a.toNat < b.toNat:=UInt8.lt_iff_toNat_lt
  rw [lexB,lexB,lexB]
  rw [Z5n (e1 (a:=x) (b:=y)) rfl (Z5n (e1 (a:=y) (b:=x)) rfl rfl),Z5n (e1 (a:=y) (b:=z)) rfl (Z5n (e1 (a:=z) (b:=y)) rfl rfl),Z5n (e1 (a:=x) (b:=z)) rfl (Z5n (e1 (a:=z) (b:=x)) rfl rfl)]
  obtain ⟨i1,i2,i3,i4⟩:=ih
  have b1:=Zg2 xs ys
  have b2:=Zg2 ys zs
  have b3:=Zg2 xs zs
  generalize x.toNat=a at *
  generalize y.toNat=b at *
  generalize z.toNat=c at *
  refine ⟨?_, ?_, ?_, ?_⟩ <;> (repeat' split) <;> omega
def VV (r:Nat):Nat:=if r < 4503599627370496 then r else (4503599627370496+r % 4503599627370496) * 2 ^ (r / 4503599627370496 - 1)
theorem VV_low {r:Nat} (h:r < 4503599627370496):VV r=r:=if_pos h
theorem Zc2 {r:Nat} (h:¬ r < 4503599627370496):VV r=(4503599627370496+r % 4503599627370496) * 2 ^ (r / 4503599627370496 - 1):=if_neg h
theorem VV_succ (r:Nat):VV r < VV (r+1):=by
 by_cases h1:r+1 < 4503599627370496
 ·rw [VV_low h1,VV_low (by omega)]; omega
 ·by_cases h2:r < 4503599627370496
  ·have e:r=4503599627370495:=by omega
   subst e
   rw [VV_low h2,Zc2 h1]; decide
  ·rw [Zc2 h2,Zc2 h1]
   by_cases h3:r % 4503599627370496+1 < 4503599627370496
   ·rw [show (r+1) % 4503599627370496=r % 4503599627370496+1 by omega,show (r+1) / 4503599627370496=r / 4503599627370496 by omega]
    exact w9 (by omega) (qi _)
   ·rw [show (r+1) % 4503599627370496=0 by omega,show (r+1) / 4503599627370496 - 1=(r / 4503599627370496 - 1)+1 by omega,Nat.pow_succ]
    have hp:=qi (r / 4503599627370496 - 1)
    generalize 2 ^ (r / 4503599627370496 - 1)=p at hp ⊢
    calc (4503599627370496+r % 4503599627370496) * p < 9007199254740992 * p:=w9 (by omega) hp
     _=(4503599627370496+0) * (p * 2):=by omega
theorem VV_lt:∀ {r s:Nat},r < s→VV r < VV s
 |r,0,h=>absurd h (Nat.not_lt_zero r)
 |r,s+1,h=>by
  by_cases e:r=s
  ·subst e; exact VV_succ r
  ·exact Nat.lt_trans (VV_lt (r:=r) (s:=s) (by omega)) (VV_succ s)
theorem VV_lt_iff {r s:Nat}:VV r < VV s ↔ r < s:=by
 constructor
 ·intro h
  rcases Nat.lt_trichotomy r s with h1 | h1 | h1
  ·exact h1
  ·subst h1; exact absurd h (Nat.lt_irrefl _)
  ·exact absurd (VV_lt h1) (Nat.lt_asymm h)
 ·exact VV_lt
theorem VV_inj {r s:Nat} (h:VV r=VV s):r=s:=by
 rcases Nat.lt_trichotomy r s with h1 | h1 | h1
 ·have:=VV_lt h1; omega
 ·exact h1
 ·have:=VV_lt h1; omega
theorem VV_zero:VV 0=0:=rfl
theorem VV_pos {r:Nat}:0 < VV r ↔ 0 < r:=by
 rw [← VV_lt_iff (r:=0) (s:=r),VV_zero]
theorem nanW_rg (x:Nat):nanW x=decide (9218868437227405312 < rg x):=rfl
def sV (x:Nat):Int:=if sg x then -((VV (rg x):Nat):Int) else ((VV (rg x):Nat):Int)
theorem fm_least:FloatKind.f64.format.leastPlace=-1074:=by decide
theorem fm_frac:FloatKind.f64.format.fractionBits=52:=by decide
theorem read_inf {x:Nat} (h:rg x=9218868437227405312):FloatKind.f64.format.read x=.infinity (sg x):=by
 have h:x % 9223372036854775808=9218868437227405312:=h
 unfold Ieee.Format.read
 simp only [fm_sign,fm_bin,fm_inf]
 rw [if_neg (by omega),if_neg (by omega),if_pos (by omega)]
 rfl
def mg (r:Nat):Nat:=if r < 4503599627370496 then r else 4503599627370496+r % 4503599627370496
def ex (r:Nat):Nat:=if r < 4503599627370496 then 0 else r / 4503599627370496 - 1
theorem mg_ex (r:Nat):mg r * 2 ^ ex r=VV r:=by
 unfold mg ex VV
 by_cases h:r < 4503599627370496
 ·rw [if_pos h,if_pos h,if_pos h]; simp
 ·rw [if_neg h,if_neg h,if_neg h]
theorem ex_mg (r:Nat):ex r * 4503599627370496+mg r=r:=by
 unfold ex mg
 by_cases hb:r < 4503599627370496
 ·rw [if_pos hb,if_pos hb]; omega
 ·rw [if_neg hb,if_neg hb]; omega
theorem mg_lt (r:Nat):mg r < 9007199254740992:=by unfold mg; split <;> omega
theorem mg_zero {r:Nat}:mg r=0 ↔ r=0:=by unfold mg; split <;> omega
theorem Zi7 {x:Nat} (h:rg x < 9218868437227405312):FloatKind.f64.format.read x=.number (sg x) (mg (rg x)) (-1074+(ex (rg x):Int)):=by
 have h':x % 9223372036854775808 < 9218868437227405312:=h
 unfold Ieee.Format.read
 simp only [fm_sign,fm_bin,fm_inf,fm_least]
 unfold mg ex
 by_cases h1:x % 9223372036854775808 < 4503599627370496
 ·rw [if_pos h1,if_pos (show rg x < 4503599627370496 from h1),if_pos (show rg x < 4503599627370496 from h1)]
  rfl
 ·rw [if_neg h1,if_pos h',if_neg (show ¬ rg x < 4503599627370496 from h1),if_neg (show ¬ rg x < 4503599627370496 from h1)]
  rfl
theorem three (x:Nat):nanW x=true∨rg x=9218868437227405312∨rg x < 9218868437227405312:=by
 rw [nanW_rg,decide_eq_true_eq]
 omega
theorem nan_no {x:Nat} (h:nanW x=false):rg x=9218868437227405312∨rg x < 9218868437227405312:=by
 rcases three x with k | k
 ·rw [k] at h; cases h
 ·exact k
def cmp3 (a b:Int):Ordering:=if a < b then .lt else if a=b then .eq else .gt
theorem compare_int (a b:Int):compare a b=cmp3 a b:=rfl
theorem cmp3_scale (a b:Int) {k:Int} (h:0 < k):cmp3 (a * k) (b * k)=cmp3 a b:=by
 unfold cmp3
 have h1:a * k < b * k ↔ a < b:=Int.mul_lt_mul_right h
 have h2:a * k=b * k ↔ a=b:=Int.mul_eq_mul_right_iff (by omega)
 rw [Z5n h1 rfl (Z5n h2 rfl rfl)]
theorem cmp3_lt {a b:Int}:cmp3 a b=.lt ↔ a < b:=by unfold cmp3; split <;> (try split) <;> simp <;> omega
theorem cmp3_eq {a b:Int}:cmp3 a b=.eq ↔ a=b:=by unfold cmp3; split <;> (try split) <;> simp <;> omega
theorem cmp3_gt {a b:Int}:cmp3 a b=.gt ↔ b < a:=by unfold cmp3; split <;> (try split) <;> simp <;> omega
theorem signed_scale (s:Bool) (m a k:Nat):Ieee.signed s m a * ((2 ^ k:Nat):Int)=if s then -((m * 2 ^ (a+k):Nat):Int) else ((m * 2 ^ (a+k):Nat):Int):=by
 unfold Ieee.signed
 rw [jk]
 have e:m * 2 ^ a * 2 ^ k=m * 2 ^ (a+k):=by rw [kg, ← j5]
 cases s with
 |true=>simp only [if_true]; rw [← e]; push_cast; rw [Int.neg_mul]
 |false=>simp only [xh,if_false]; rw [← e]; push_cast; rfl
theorem order_num (s t:Bool) (m n a b:Nat):Ieee.Datum.order (.number s m (-1074+(a:Int))) (.number t n (-1074+(b:Int)))=some (cmp3 (if s then -((m * 2 ^ a:Nat):Int) else ((m * 2 ^ a:Nat):Int)) (if t then -((n * 2 ^ b:Nat):Int) else ((n * 2 ^ b:Nat):Int))):=by
 show some (compare _ _)=_
 congr 1
 have e1:(-1074+(a:Int) - min (-1074+(a:Int)) (-1074+(b:Int))).toNat=a - min a b:=by omega
 have e2:(-1074+(b:Int) - min (-1074+(a:Int)) (-1074+(b:Int))).toNat=b - min a b:=by omega
 rw [e1,e2,compare_int, ← cmp3_scale _ _ (k:=((2 ^ (min a b):Nat):Int)) (by exact_mod_cast qi _),signed_scale,signed_scale,
  show a - min a b+min a b=a by omega,show b - min a b+min a b=b by omega]
def infE:Nat:=2098
theorem VV_inf:VV 9218868437227405312=2 ^ infE:=by
 have e1:(4503599627370496+9218868437227405312 % 4503599627370496:Nat)=2 ^ 52:=by decide
 have e2:(9218868437227405312 / 4503599627370496 - 1:Nat)=infE - 52:=by decide
 have e3:52+(infE - 52)=infE:=rfl
 rw [Zc2 (by decide),e1,e2, ← j5,e3]
theorem VV_inf_ge (k:Nat) (h:k≤2098):2 ^ k≤VV 9218868437227405312:=by rw [VV_inf]; exact ve (by decide) h
theorem VV_inf_lt (k:Nat) (h:2098 < k):VV 9218868437227405312 < 2 ^ k:=by rw [VV_inf]; exact Nat.pow_lt_pow_right (by decide) h
def UUn:Nat:=1074
def UU:Nat:=2 ^ UUn
theorem UU_def:2 ^ UUn=UU:=rfl
theorem UU_pos:0 < UU:=qi _
theorem UU_two (a b:Nat) (h:a+b=1074):UU=2 ^ a * 2 ^ b:=by
 have h:a+b=UUn:=h
 rw [← j5,h]; rfl
theorem UU_up (a b:Nat) (h:b=a+1074):2 ^ b=2 ^ a * UU:=by
 have h:b=a+UUn:=h
 rw [h,j5]; rfl
theorem UU_ge (a:Nat) (h:a≤1074):2 ^ a≤UU:=ve (by decide) (show a≤UUn from h)
theorem VV_fin {r:Nat} (h:r < 9218868437227405312):VV r < VV 9218868437227405312:=VV_lt h
theorem ordW {x y:Nat} (hx:nanW x=false) (hy:nanW y=false):FloatKind.f64.format.order x y=some (cmp3 (sV x) (sV y)):=by
 unfold Ieee.Format.order
 have hp:0 < VV 9218868437227405312:=VV_pos.2 (by decide)
 rcases nan_no hx with hx | hx <;> rcases nan_no hy with hy | hy
 ·rw [read_inf hx,read_inf hy]
  unfold sV
  rw [hx,hy]
  cases sg x <;> cases sg y
  ·simp only [xh,if_false]; rw [cmp3_eq.2 rfl]; rfl
  ·simp only [xh,if_false,if_true]; rw [cmp3_gt.2 (by omega)]; rfl
  ·simp only [xh,if_false,if_true]; rw [cmp3_lt.2 (by omega)]; rfl
  ·simp only [if_true]; rw [cmp3_eq.2 rfl]; rfl
 ·have hf:=VV_fin hy
  rw [read_inf hx,Zi7 hy]
  unfold sV
  rw [hx]
  cases sg x
  ·have:cmp3 ((VV 9218868437227405312:Nat):Int) (if sg y then -((VV (rg y):Nat):Int) else ((VV (rg y):Nat):Int))=.gt:=cmp3_gt.2 (by split <;> omega)
   simp only [xh,if_false]; rw [this]; rfl
  ·have:cmp3 (-((VV 9218868437227405312:Nat):Int)) (if sg y then -((VV (rg y):Nat):Int) else ((VV (rg y):Nat):Int))=.lt:=cmp3_lt.2 (by split <;> omega)
   simp only [if_true]; rw [this]; rfl
 ·have hf:=VV_fin hx
  rw [Zi7 hx,read_inf hy]
  unfold sV
  rw [hy]
  cases sg y
  ·have:cmp3 (if sg x then -((VV (rg x):Nat):Int) else ((VV (rg x):Nat):Int)) ((VV 9218868437227405312:Nat):Int)=.lt:=cmp3_lt.2 (by split <;> omega)
   simp only [xh,if_false]; rw [this]; rfl
  ·have:cmp3 (if sg x then -((VV (rg x):Nat):Int) else ((VV (rg x):Nat):Int)) (-((VV 9218868437227405312:Nat):Int))=.gt:=cmp3_gt.2 (by split <;> omega)
   simp only [if_true]; rw [this]; rfl
 ·rw [Zi7 hx,Zi7 hy,order_num,mg_ex,mg_ex]
  rfl
theorem flt_eq {x y:Nat} (hx:nanW x=false) (hy:nanW y=false):flt x y=decide (sV x < sV y):=by
 unfold flt; rw [ordW hx hy,uh,decide_eq_true_eq, ← cmp3_lt]; simp
theorem fgt_eq {x y:Nat} (hx:nanW x=false) (hy:nanW y=false):fgt x y=decide (sV y < sV x):=by
 unfold fgt; rw [ordW hx hy,uh,decide_eq_true_eq, ← cmp3_gt]; simp
theorem feq_eq {x y:Nat} (hx:nanW x=false) (hy:nanW y=false):feq x y=decide (sV x=sV y):=by
 unfold feq; rw [ordW hx hy,uh,decide_eq_true_eq, ← cmp3_eq]; simp
theorem fne_eq {x y:Nat} (hx:nanW x=false) (hy:nanW y=false):fne x y=!decide (sV x=sV y):=by
 rw [← feq_eq hx hy]; rfl
theorem fle_eq {x y:Nat} (hx:nanW x=false) (hy:nanW y=false):fle x y=decide (sV x≤sV y):=by
 unfold fle; rw [ordW hx hy,uh,decide_eq_true_eq]
 simp only [zx,beq_iff_eq,yn,cmp3_lt,cmp3_eq]
 omega
theorem fge_eq {x y:Nat} (hx:nanW x=false) (hy:nanW y=false):fge x y=decide (sV y≤sV x):=by
 unfold fge; rw [ordW hx hy,uh,decide_eq_true_eq]
 simp only [zx,beq_iff_eq,yn,cmp3_gt,cmp3_eq]
 omega
theorem fne_self (x:Nat):fne x x=nanW x:=by
 cases h:nanW x with
 |true=>unfold fne; rw [ordN1 h]; rfl
 |false=>rw [fne_eq h h]; simp
theorem log_lo {n:Nat} (h:n ≠ 0):2 ^ n.log2≤n:=Nat.log2_self_le h
theorem log_hi (n:Nat):n < 2 ^ (n.log2+1):=Nat.lt_log2_self
theorem VV_at {q k:Nat} (h1:k≤9007199254740992) (h2:q=0∨4503599627370496≤k):VV (q * 4503599627370496+k)=k * 2 ^ q:=by
 by_cases hk:k < 4503599627370496
 ·have hq:q=0:=by omega
  subst hq
  rw [VV_low (by omega)]; simp
 ·by_cases h3:k < 9007199254740992
  ·rw [Zc2 (by omega),show (q * 4503599627370496+k) / 4503599627370496 - 1=q by omega,show (q * 4503599627370496+k) % 4503599627370496=k - 4503599627370496 by omega,show 4503599627370496+(k - 4503599627370496)=k by omega]
  ·have e:k=9007199254740992:=by omega
   subst e
   rw [Zc2 (by omega),show (q * 4503599627370496+9007199254740992) / 4503599627370496 - 1=q+1 by omega,show (q * 4503599627370496+9007199254740992) % 4503599627370496=0 by omega,Nat.pow_succ]
   omega
theorem cut_zero (way:Ieee.Toward) (neg:Bool) (n:Nat):way.cut neg n 0=n:=by
 have e:(1:Nat) <<< min 0 (n.log2+2)=1:=by rw [Nat.zero_min]; rfl
 unfold Ieee.Toward.cut
 simp only [e,Nat.div_one,Nat.mod_one,Nat.mul_zero]
 cases way <;> simp
theorem cut_whole (way:Ieee.Toward) (neg:Bool) (k d:Nat) (hk:k ≠ 0):way.cut neg (k * 2 ^ d) d=k:=by
 have hle:d≤(k * 2 ^ d).log2:=(Nat.le_log2 (by have:=qi d; exact Nat.mul_ne_zero hk (by omega))).2 (Nat.le_mul_of_pos_left _ (by omega))
 have hp:=qi d
 have e:(1:Nat) <<< min d ((k * 2 ^ d).log2+2)=2 ^ d:=by rw [show min d ((k * 2 ^ d).log2+2)=d by omega,jk,zo]
 unfold Ieee.Toward.cut
 simp only [e,Nat.mul_div_cancel _ hp,Nat.mul_mod_left,Nat.mul_zero]
 cases way <;> simp <;> omega
theorem word_eq (neg:Bool) (r:Nat):FloatKind.f64.format.word neg r=if neg then 9223372036854775808+r else r:=by
 unfold Ieee.Format.word; rw [fm_sign]
theorem log2_mul_pow (k d:Nat) (h:k ≠ 0):(k * 2 ^ d).log2=k.log2+d:=by
 have hp:=qi d
 have hne:k * 2 ^ d ≠ 0:=Nat.mul_ne_zero h (by omega)
 have a:=log_lo h
 have b:=log_hi k
 refine (Nat.log2_eq_iff hne).2 ⟨?_, ?_⟩
 ·rw [j5]; exact ql _ a
 ·rw [show k.log2+d+1=(k.log2+1)+d by omega,j5]; exact w9 b hp
theorem nearest_exact {neg:Bool} {mag r a b:Nat} {place:Int} (hr:r≤9218868437227405312) (h:mag * 2 ^ a=VV r * 2 ^ b) (hp:place+(b:Int)=-1074+(a:Int)) :
  FloatKind.f64.format.nearest neg mag place=if neg then 9223372036854775808+r else r:=by
 by_cases hm:mag=0
 ·have hv:VV r=0:=by
   subst hm
   have hp:=qi b
   rw [vz] at h
   exact (Nat.mul_eq_zero.1 h.symm).resolve_right (by omega)
  have hr0:r=0:=VV_inj (s:=0) (by rw [hv]; rfl)
  subst hr0
  unfold Ieee.Format.nearest
  rw [if_pos hm,word_eq]
 ·have hv:VV r ≠ 0:=by
   intro e
   rw [e,vz] at h
   have hp:=qi a
   exact hm ((Nat.mul_eq_zero.1 h).resolve_right (by omega))
  have hr0:r ≠ 0:=fun e=>hv (by rw [e]; rfl)
  have hk:mg r ≠ 0:=fun e=>hr0 (mg_zero.1 e)
  have hq:=ex_mg r
  have hlog:mag.log2+a=(mg r).log2+(ex r+b):=by
   rw [← log2_mul_pow _ _ hm,h, ← mg_ex r,kg, ← j5,log2_mul_pow _ _ hk]
  have hlk:(ex r=0∧(mg r).log2≤52)∨(mg r).log2=52:=by
   have h1:=mg_lt r
   have h3:=log_lo hk
   have h4:(mg r).log2 < 53:=(Nat.log2_lt hk).2 (by omega)
   by_cases hb:r < 4503599627370496
   ·left; unfold ex; rw [if_pos hb]; omega
   ·right
    have h2:4503599627370496≤mg r:=by unfold mg; rw [if_neg hb]; omega
    have:52≤(mg r).log2:=(Nat.le_log2 hk).2 (by omega)
    omega
  unfold Ieee.Format.nearest
  rw [if_neg hm,word_eq]
  simp only [fm_frac,fm_least,fm_bin,fm_inf]
  have hlast:max (place+(mag.log2:Int) - ((52:Nat):Int)) (-1074)=-1074+(ex r:Int):=by omega
  rw [hlast]
  have hkept:Ieee.Toward.even.cut neg (mag <<< (place - (-1074+(ex r:Int))).toNat) ((-1074+(ex r:Int)) - place).toNat=mg r:=by
   have h':mag * 2 ^ a=mg r * 2 ^ (ex r+b):=by rw [h, ← mg_ex r,kg, ← j5]
   by_cases hc:ex r+b≤a
   ·rw [show ((-1074+(ex r:Int)) - place).toNat=0 by omega,show (place - (-1074+(ex r:Int))).toNat=a - (ex r+b) by omega,cut_zero,jk]
    refine uu (qi (ex r+b)) ?_
    rw [kg, ← j5,show a - (ex r+b)+(ex r+b)=a by omega,h']
   ·rw [show ((-1074+(ex r:Int)) - place).toNat=ex r+b - a by omega,show (place - (-1074+(ex r:Int))).toNat=0 by omega,jk,zy,kz]
    have e:mag=mg r * 2 ^ (ex r+b - a):=by
     refine uu (qi a) ?_
     rw [h',kg, ← j5,show ex r+b - a+a=ex r+b by omega]
    rw [e,cut_whole _ _ _ _ hk]
  rw [hkept,show ((-1074+(ex r:Int)) - -1074).toNat=ex r by omega,hq,jd hr]
end Lift
set_option linter.unusedVariables false
namespace Lift
open Go Go.RowKit
theorem C.Le.mk (l:Bool) (n:Nat) (c:C):C.Le (.mk l n c) c:=fun w F v h=>by
 simp only [C.Rep] at h
 exact C.Rep.mono (fun b hb=>hb.1) (Zj3.refl _ _) c v h.2
theorem C.Le.lo (n:Nat) (c:C):C.Le (.mk true n c) (.mk false n c):=fun w F v h=>by
 simp only [C.Rep] at h ⊢
 exact ⟨h.1,C.Rep.mono (fun b hb=>⟨hb.1,fun e=>by cases e⟩) (Zj3.refl _ _) c v h.2⟩
theorem C.Le.pr {n sz:Nat} {rows rows':List (List C)} (h:All2 (All2 C.Le) rows rows'):C.Le (.pr n sz rows) (.sl sz rows'):=fun w F v hv=>by
 simp only [C.Rep] at hv ⊢
 rcases hv with ⟨rfl,hv⟩ | ⟨b,cap,vs,t,h1,h2,h3,h4,h5,h6,h7,h8⟩
 ·cases rows' with
  |nil=>exact .inl ⟨rfl,hv⟩
  |cons=>exact h.elim
 ·exact .inr ⟨b,0,cap,by rw [← h.length]; exact h1,by rw [← h.length]; exact h3,fun _=>h6,Zj2.le h h8⟩
theorem All2.refl' {α:Type} {R:α→α→Prop} (h:∀ x,R x x):∀ l:List α,All2 R l l
 |[]=>trivial
 |x::l=>⟨h x,All2.refl' h l⟩
def noObj:List PV→Bool
 |[]=>true
 |.v _::r=>noObj r
 |.obj _::_=>false
theorem objPtrs_no:∀ {ps:List PV},noObj ps=true→∀ vs,Zjp ps vs=[]
 |[],_,_=>by simp only [Zjp]
 |.v _::r,h,[]=>by simp only [Zjp]
 |.v _::r,h,v::vs=>by simp only [Zjp]; exact objPtrs_no (ps:=r) h vs
def Old (n:Nat) (F:Nat→Prop):Prop:=n=0∨F (n - 1)
theorem Old.le {n:Nat} {F:Nat→Prop} {w:World} (h:Old n F) (hF:∀ b,F b→b < w.heap.size):n≤w.heap.size:=by
 rcases h with h | h
 ·omega
 ·have:=hF _ h; omega
theorem Ziz.lo {P:Program} {f:FuncId} {l:Bool} {n:Nat} {c:C} {fin:List PV} (h:Ziz P f [.v (.one (.dat c))] fin):Ziz P f [.v (.one (.dat (.mk l n c)))] fin:=by
 refine Ziz.le ?_ h
 exact ⟨PV.Le.one (OC.Le.dat (C.Le.mk _ _ _)),trivial⟩
theorem Ziz.back {P:Program} {f:FuncId} {args fin fin':List PV} (n:Nat) (h:Ziz P f args fin) (hn:noObj args=true) (he:∀ w F vs bs,PVs.Rep w F args vs bs→Old n F)
  (hk:∀ w F vs bs,Old n F→PVs.Rep w F fin vs bs→PVs.Rep w F fin' vs bs):Ziz P f args fin':=fun w vs F bs hF hr ho hb=>by
 have ev:=he w F vs bs hr
 refine Z3j (h w vs F bs hF hr ho hb) fun e w' ⟨vres,F',bs',h1,h2,h3,h4,h5,h6⟩=>⟨vres,F',bs',h1, ?_,h3,h4,h5,h6⟩
 exact hk _ _ _ _ (ev.imp id (h5 _)) h2
theorem Ziz.new {P:Program} {f:FuncId} {args fin fin':List PV} (n:Nat) (h:Ziz P f args fin) (hn:noObj args=true) (he:∀ w F vs bs,PVs.Rep w F args vs bs→bs=[]∧Old n F)
  (hk:∀ w F vs bs,Old n F→(∀ b,some b ∈ bs→n≤b)→PVs.Rep w F fin vs bs→PVs.Rep w (fun b=>F b∨some b ∈ bs) fin' vs []):Ziz P f args fin':=fun w vs F bs hF hr ho hb=>by
 obtain ⟨rfl,ev⟩:=he w F vs bs hr
 have hsz:=ev.le hF
 refine Z3j (h w vs F [] hF hr ho hb) fun e w' ⟨vres,F',bs',h1,h2,h3,h4,h5,h6,h7⟩=>⟨vres,fun b=>F' b∨some b ∈ bs',[],h1, ?_,trivial,(fun b hb=>by cases hb),(fun b hb=>.inl (h5 b hb)), ?_,h7⟩
 ·rw [objPtrs_no hn] at h2 ⊢
  refine hk _ _ _ _ (ev.imp id (h5 _)) (fun b hb=>?_) h2
  rcases (h4 b hb).2 with hm | hm
  ·cases hm
  ·omega
 ·intro b hb
  rcases hb with hb | hb
  ·exact h6 b hb
  ·exact ⟨PVs.Rep.blocks h2 b hb,.inr (h4 b hb).2⟩
theorem own_pr {w:World} {F:Nat→Prop} {sz n:Nat} {rows:List (List C)} {v:Value} {bs:List (Option Nat)} (h:OC.Rep w F (.own sz rows) v bs) (hne:rows ≠ []) (hb:∀ b,some b ∈ bs→n≤b):C.Rep w (fun b=>F b∨some b ∈ bs) (.pr n sz rows) v:=by
 simp only [C.Rep]
 rcases h with ⟨_,h,_⟩ | ⟨b,cap,vs,t,rfl,h2,h3,h4,h5,h6,h7⟩
 ·exact absurd h hne
 ·refine .inr ⟨b,cap,vs,t,h2,hne,h3,h4,h5,.inr (by simp),hb b (by simp),Zj2.mk fun i r hi=>?_⟩
  obtain ⟨q1,q2⟩:=h7.at i r hi
  refine ⟨q1,Zj1.mk fun j c hj=>?_⟩
  obtain ⟨u,hu,hc⟩:=q2.at j c hj
  exact ⟨u,hu,C.Rep.mono (fun b hb=>.inl hb) (Zj3.refl _ _) c u hc⟩
theorem Zj1.le' {w:World} {F:Nat→Prop} {b off:Nat} {cs cs':List C} (hl:cs.length=cs'.length) (h:∀ (j:Nat) (c c':C) (v:Value),cs[j]? = some c→cs'[j]? = some c'→C.Rep w F c v→C.Rep w F c' v) (hr:Zj1 w F b cs off):Zj1 w F b cs' off :=
 Zj1.mk fun j c' hj=>by
  have hlt:j < cs.length:=by rw [hl]; exact (List.getElem?_eq_some_iff.1 hj).1
  obtain ⟨u,hu,hc⟩:=hr.at j cs[j] (yu hlt)
  exact ⟨u,hu,h j _ c' u (yu hlt) hj hc⟩
theorem Ziz.clone0 {P:Program} {f:FuncId} {n sz:Nat} {e:TypeId} (h0:∀ w,Calls P f #[.slice none 0 0] w (fun e w'=>e=.returned (.slice none 0 0)∧w'=w))
  (h1:∀ w ad cap,Calls P f #[.slice (some ad) 0 cap] w (fun e' w'=>e'=.returned (.slice (some ⟨w.heap.size,0,none⟩) 0 0)∧w'=w.alloc (.cells #[] e))):Ziz P f [.v (.one (.dat (.mk false n (.sl sz []))))] [.v (.one (.dat (.pr n sz [])))]:=by
 intro w vs F bs hF hr ho hb
 cases vs with
 |nil=>exact hr.elim
 |cons v vs =>
  obtain ⟨b1,b2,rfl,hv,hvs⟩:=hr
  cases vs with
  |cons _ _=>simp only [PVs.Rep] at hvs
  |nil =>
   have hvs':b2=[]:=hvs
   subst hvs'
   obtain ⟨rfl,hc⟩:=hv
   have hc:=C.Le.mk _ _ _ w F v hc
   have end_:∀ (v':Value) (w':World),(∃ a,v'=.slice a 0 0)→(∀ b,b < w.heap.size→w'.heap[b]? = w.heap[b]?)→w.heap.size≤w'.heap.size→w'.os=w.os→w'.tape=w.tape→w'.output=w.output→Zj4 w w'→Post w F [] (Zjp [.v (.one (.dat (.mk false n (.sl sz []))))] [v]) [.v (.one (.dat (.pr n sz [])))] (.returned v') w' :=
    fun v' w' ha hh hs e1 e2 e3 e4=>⟨[v'],F,[],rfl,⟨[],[],rfl,⟨rfl,(by simp only [C.Rep]; exact .inl ⟨trivial,ha⟩)⟩,rfl⟩,trivial,(fun b hb=>by cases hb),(fun b hb=>hb),(fun b hb=>⟨qc (hF b hb) hs,.inl hb⟩),(fun b h1 _=>hh b h1),hs,e1,e2,e3,e4⟩
   have key:v=.slice none 0 0∨∃ ad cap,v=.slice (some ad) 0 cap:=by
    simp only [C.Rep] at hc
    rcases hc with ⟨_,a,rfl⟩ | ⟨b,off,cap,rfl,_⟩
    ·cases a with
     |none=>exact .inl rfl
     |some a=>exact .inr ⟨a,0,rfl⟩
    ·exact .inr ⟨_,cap,rfl⟩
   rcases key with rfl | ⟨ad,cap,rfl⟩
   ·exact Z3j (h0 w) fun e w' ⟨he,hw⟩=>by
     subst he hw
     exact end_ _ _ ⟨none,rfl⟩ (fun _ _=>rfl) (xw _) rfl rfl rfl (Zj4.refl _)
   ·exact Z3j (h1 w ad cap) fun e' w' ⟨he,hw⟩=>by
     subst he hw
     have hh:∀ b,b < w.heap.size→(w.alloc (.cells #[] e)).heap[b]? = w.heap[b]? := fun b hb=>by
      show (w.heap.push _)[b]? = _
      rw [uj,if_neg (by omega)]
     have hs:(w.alloc (.cells #[] e)).heap.size=w.heap.size+1:=by
      show (w.heap.push _).size=_
      rw [Array.size_push]
     refine end_ _ _ ⟨_,rfl⟩ hh (by omega) rfl rfl rfl fun b y hb=>?_
     have hlt:b < w.heap.size:=by
      unfold World.shape? at hb
      cases hc:w.heap[b]? with
      |none=>rw [hc] at hb; cases hb
      |some o=>exact (Array.getElem?_eq_some_iff.1 hc).1
     unfold World.shape? at hb ⊢
     rw [hh b hlt]
     exact hb
theorem dats_rep {w:World} {F:Nat→Prop}:∀ {cs:List C} {vs:List Value} {bs:List (Option Nat)},OCs.Rep w F (cs.map .dat) vs bs→bs=[]∧All2 (C.Rep w F) cs vs
 |[],[],bs,h=>⟨h,trivial⟩
 |c::cs,v::vs,bs,h=>by
  obtain ⟨b1,b2,rfl,⟨rfl,h1⟩,h2⟩:=h
  obtain ⟨rfl,h3⟩:=dats_rep h2
  exact ⟨rfl,h1,h3⟩
 |_::_,[],_,h=>h.elim
 |[],_::_,_,h=>h.elim
theorem All2.mem_l {α β:Type} {R:α→β→Prop} {l:List α} {m:List β} (h:All2 R l m) {x:α} (hx:x ∈ l):∃ y,R x y:=by
 obtain ⟨i,hi⟩:=jf hx
 obtain ⟨y,_,hr⟩:=h.get i x hi
 exact ⟨y,hr⟩
theorem old_agg {w:World} {F:Nat→Prop} {vs:List Value} {bs:List (Option Nat)} {cs:List C} {l:Bool} {n:Nat} {c:C} (hm:C.mk l n c ∈ cs) (h:PVs.Rep w F [.v (.agg (cs.map .dat))] vs bs):bs=[]∧Old n F:=by
 cases vs with
 |nil=>exact h.elim
 |cons v vs =>
  obtain ⟨b1,b2,rfl,⟨us,rfl,hc⟩,hvs⟩:=h
  cases vs with
  |cons _ _=>simp only [PVs.Rep] at hvs
  |nil =>
   have hvs:b2=[]:=hvs
   subst hvs
   obtain ⟨rfl,h2⟩:=dats_rep hc
   obtain ⟨u,hu⟩:=h2.mem_l hm
   simp only [C.Rep] at hu
   exact ⟨rfl,hu.1⟩
theorem agg_new {w:World} {F:Nat→Prop} {n sz:Nat} {rows:List (List C)} (hne:rows ≠ []):∀ {cs:List C} {vs:List Value} {bs:List (Option Nat)},(∀ b,some b ∈ bs→n≤b)→OCs.Rep w F (cs.map .dat++[.own sz rows]) vs bs→OCs.Rep w (fun b=>F b∨some b ∈ bs) (cs.map .dat++[.dat (.pr n sz rows)]) vs []
 |[],v::vs,bs,hb,h=>by
  obtain ⟨b1,b2,rfl,h1,h2⟩:=h
  cases vs with
  |cons _ _=>exact h2.elim
  |nil =>
   have h2:b2=[]:=h2
   subst h2
   rw [xm] at hb ⊢
   exact ⟨[],[],rfl,⟨rfl,own_pr h1 hne hb⟩,rfl⟩
 |c::cs,v::vs,bs,hb,h=>by
  obtain ⟨b1,b2,rfl,⟨rfl,h1⟩,h2⟩:=h
  exact ⟨[],[],rfl,⟨rfl,C.Rep.mono (fun b hb=>.inl hb) (Zj3.refl _ _) c v h1⟩,agg_new hne hb h2⟩
 |[],[],_,_,h=>h.elim
 |_::_,[],_,_,h=>h.elim
theorem aggs_new {w:World} {F:Nat→Prop} {n sz:Nat} {rows:List (List C)} (hne:rows ≠ []) {cs:List C} {vs:List Value} {bs:List (Option Nat)} (hb:∀ b,some b ∈ bs→n≤b) (h:PVs.Rep w F [.v (.agg (cs.map .dat++[.own sz rows]))] vs bs):PVs.Rep w (fun b=>F b∨some b ∈ bs) [.v (.agg (cs.map .dat++[.dat (.pr n sz rows)]))] vs []:=by
 cases vs with
 |nil=>exact h.elim
 |cons v vs =>
  obtain ⟨b1,b2,rfl,⟨us,rfl,hc⟩,hvs⟩:=h
  cases vs with
  |cons _ _=>simp only [PVs.Rep] at hvs
  |nil =>
   have hvs:b2=[]:=hvs
   subst hvs
   rw [xm] at hb ⊢
   exact ⟨[],[],rfl,⟨us,rfl,agg_new hne hb hc⟩,rfl⟩
def GoodL (w:World) (D:Nat→Prop) (v:Value):Prop :=
 (∃ a,v=.slice a 0 0)∨∃ b len cap vs t,v=.slice (some ⟨b,0,none⟩) len cap∧0 < len∧(len≤cap∧len≤1000000000000)∧w.heap[b]? = some (.cells vs t (0,0))∧vs.size=cap∧D b∧∀ i,i < len→∃ x:Int,vs[i]? = some (.int .u32 x)
def Zjz (kind n:Int) (neg:Bool) (mag:Value) (bits:Int) (bytes:ByteArray) (args:Value):List Value:=[.int .i64 kind,.int .i64 n,.bool neg,mag,.int .u64 bits,.string bytes,args]
def GoodA (w:World) (D:Nat→Prop):Nat→Value→Prop
  | 0,v=>∃ a,v=.slice a 0 0
  | k + 1, v => (∃ a, v = .slice a 0 0) ∨ ∃ b len cap vs t, v = .slice (some ⟨b, 0, none⟩) len cap ∧ 0 < len ∧ (len ≤ cap ∧ len ≤ 1000000000000) ∧ w.heap[b]? = some (.cells vs t (0, 0)) ∧ vs.size = cap * 7 ∧ D b ∧
      ∀ i,i < len→∃ kind n neg mag bits bytes args,(∀ j,j < 7→vs[i * 7+j]? = (Zjz kind n neg mag bits bytes args)[j]?)∧GoodL w D mag∧GoodA w D k args
theorem GoodA.succ {w:World} {D:Nat→Prop}:∀ {k:Nat} {v:Value},GoodA w D k v→GoodA w D (k+1) v
 |0,v,h=>.inl h
 |k+1,v,h=>by
  rcases h with h | ⟨b,len,cap,vs,t,h1,h2,h3,h4,h5,h6,h7⟩
  ·exact .inl h
  ·refine .inr ⟨b,len,cap,vs,t,h1,h2,h3,h4,h5,h6,fun i hi=>?_⟩
   obtain ⟨kind,n,neg,mag,bits,bytes,args,g1,g2,g3⟩:=h7 i hi
   exact ⟨kind,n,neg,mag,bits,bytes,args,g1,g2,GoodA.succ g3⟩
theorem GoodA.mono {w:World} {D:Nat→Prop} {k k':Nat} {v:Value} (hk:k≤k') (h:GoodA w D k v):GoodA w D k' v:=by
 induction hk with
 |refl=>exact h
 |step _ ih=>exact ih.succ
structure Ov (D:Nat→Prop) (w w':World):Prop where
 out:∀ b,b < w.heap.size→¬ D b→w'.heap[b]? = w.heap[b]?
 size:w.heap.size≤w'.heap.size
 os:w'.os=w.os
 tape:w'.tape=w.tape
 output:w'.output=w.output
 sh:Zj4 w w'
 lim:∀ v,GoodL w D v→GoodL w' D v
 trm:∀ k v,GoodA w D k v→GoodA w' D k v
theorem Ov.refl (D:Nat→Prop) (w:World):Ov D w w:=⟨fun _ _ _=>rfl,xw _,rfl,rfl,rfl,Zj4.refl _,fun _ h=>h,fun _ _ h=>h⟩
theorem Ov.trans {D:Nat→Prop} {a b c:World} (h:Ov D a b) (k:Ov D b c):Ov D a c :=
 ⟨fun x hx hd=>(k.out x (qc hx h.size) hd).trans (h.out x hx hd),u7 h.size k.size,k.os.trans h.os,k.tape.trans h.tape,k.output.trans h.output,h.sh.trans k.sh,fun v hv=>k.lim v (h.lim v hv),fun n v hv=>k.trm n v (h.trm n v hv)⟩
theorem Ov.same {D:Nat→Prop} {w w':World} (h:∀ b,b < w.heap.size→w'.heap[b]? = w.heap[b]?) (hs:w.heap.size≤w'.heap.size) (h1:w'.os=w.os) (h2:w'.tape=w.tape) (h3:w'.output=w.output) (h4:Zj4 w w'):Ov D w w':=by
 have eq:∀ {b:Nat} {x:Obj},w.heap[b]? = some x→w'.heap[b]? = some x:=fun {b x} hb=>(h b (Array.getElem?_eq_some_iff.1 hb).1).trans hb
 have lim:∀ v,GoodL w D v→GoodL w' D v:=fun v hv=>by
  rcases hv with hv | ⟨b,len,cap,vs,t,g1,g2,g3,g4,g5⟩
  ·exact .inl hv
  ·exact .inr ⟨b,len,cap,vs,t,g1,g2,g3,eq g4,g5⟩
 refine ⟨fun b hb _=>h b hb,hs,h1,h2,h3,h4,lim,fun k=>?_⟩
 induction k with
 |zero=>exact fun v hv=>hv
 |succ k ih =>
  intro v hv
  rcases hv with hv | ⟨b,len,cap,vs,t,g1,g2,g3,g4,g5,g6,g7⟩
  ·exact .inl hv
  ·refine .inr ⟨b,len,cap,vs,t,g1,g2,g3,eq g4,g5,g6,fun i hi=>?_⟩
   obtain ⟨kind,n,neg,mag,bits,bytes,args,q1,q2,q3⟩:=g7 i hi
   exact ⟨kind,n,neg,mag,bits,bytes,args,q1,lim _ q2,ih _ q3⟩
theorem Ov.limb {D:Nat→Prop} {w:World} {b i:Nat} {vs:Array Value} {t:TypeId} {x0 y:Int} (h:w.heap[b]? = some (.cells vs t (0,0))) (h0:vs[0]? = some (.int .u32 x0)) (hD:D b) (hi:i < vs.size):Ov D w (w.setCells b i [.int .u32 y]):=by
 obtain ⟨vs',hh,hsz⟩:=Z5h b [.int .u32 y] i w vs t h
 obtain ⟨k1,k2,k3,k4⟩:=Z6t b [.int .u32 y] i w
 have oth:∀ b',b' ≠ b→(w.setCells b i [.int .u32 y]).heap[b']? = w.heap[b']? := fun b' hb=>Z1z _ _ _ _ _ hb
 have cin:vs'[i]? = some (.int .u32 y):=by
  have:=World.cell?_setCells_in b [.int .u32 y] i w (fun m hm=>by rw [Z0w h,xq (by simp at hm; omega)]; rfl) 0 (by simp)
  rw [Z0w hh] at this
  simpa using this
 have cout:∀ j,j ≠ i→vs'[j]? = vs[j]? := fun j hj=>by
  have:=World.cell?_setCells_out b [.int .u32 y] i w ⟨b,j,none⟩ (fun _ _=>by rcases Nat.lt_or_gt_of_ne hj with h | h; exact .inl h; exact .inr (by simp; omega))
  rw [Z0w hh,Z0w h] at this
  exact this
 have lim:∀ v,GoodL w D v→GoodL (w.setCells b i [.int .u32 y]) D v:=fun v hv=>by
  rcases hv with hv | ⟨b1,len,cap,vs1,t1,g1,g2,g3,g4,g5,g6,g7⟩
  ·exact .inl hv
  ·by_cases e:b1=b
   ·subst e
    rw [h] at g4
    injection g4 with g4
    injection g4 with g4 e2
    subst g4 e2
    refine .inr ⟨b1,len,cap,vs',t,g1,g2,g3,hh,by omega,g6,fun j hj=>?_⟩
    by_cases hji:j=i
    ·subst hji; exact ⟨y,cin⟩
    ·rw [cout j hji]; exact g7 j hj
   ·exact .inr ⟨b1,len,cap,vs1,t1,g1,g2,g3,(oth b1 e).trans g4,g5,g6,g7⟩
 refine ⟨fun b' _ hd=>oth b' fun e=>hd (e ▸ hD),by omega,k2,k3,k4,Z6c b _ i w vs t h,lim,fun k=>?_⟩
 induction k with
 |zero=>exact fun v hv=>hv
 |succ k ih =>
  intro v hv
  rcases hv with hv | ⟨b1,len,cap,vs1,t1,g1,g2,g3,g4,g5,g6,g7⟩
  ·exact .inl hv
  ·have e:b1 ≠ b:=fun e=>by
    subst e
    obtain ⟨kind,n,neg,mag,bits,bytes,args,q1,_⟩:=g7 0 g2
    have:=q1 0 (by omega)
    rw [h] at g4
    injection g4 with g4
    injection g4 with g4 e2
    subst g4
    simp only [vz,xk,h0] at this
    injection this with this
    injection this with this
    cases this
   refine .inr ⟨b1,len,cap,vs1,t1,g1,g2,g3,(oth b1 e).trans g4,g5,g6,fun i hi=>?_⟩
   obtain ⟨kind,n,neg,mag,bits,bytes,args,q1,q2,q3⟩:=g7 i hi
   exact ⟨kind,n,neg,mag,bits,bytes,args,q1,lim _ q2,ih _ q3⟩
theorem Ov.term {D:Nat→Prop} {w:World} {b i:Nat} {vs:Array Value} {t:TypeId} {x0:Int} {kind n:Int} {neg:Bool} {bits:Int} {bytes:ByteArray} {a1 a2:Option Addr} (h:w.heap[b]? = some (.cells vs t (0,0))) (h0:vs[0]? = some (.int .i64 x0)) (hD:D b) (hi:i * 7+7≤vs.size) :
  Ov D w (w.setCells b (i * 7) (Zjz kind n neg (.slice a1 0 0) bits bytes (.slice a2 0 0))):=by
 obtain ⟨cs,hcs⟩:∃ cs,cs=Zjz kind n neg (.slice a1 0 0) bits bytes (.slice a2 0 0):=⟨_,rfl⟩
 have hl:cs.length=7:=by rw [hcs]; rfl
 rw [← hcs]
 obtain ⟨vs',hh,hsz⟩:=Z5h b cs (i * 7) w vs t h
 obtain ⟨k1,k2,k3,k4⟩:=Z6t b cs (i * 7) w
 have oth:∀ b',b' ≠ b→(w.setCells b (i * 7) cs).heap[b']? = w.heap[b']? := fun b' hb=>Z1z _ _ _ _ _ hb
 have cin:∀ j,j < 7→vs'[i * 7+j]? = cs[j]? := fun j hj=>by
  have:=World.cell?_setCells_in b cs (i * 7) w (fun m hm=>by rw [Z0w h,xq (by omega)]; rfl) j (by omega)
  rw [Z0w hh] at this
  rw [this,yu (by omega)]
 have cout:∀ j,(j < i * 7∨i * 7+7≤j)→vs'[j]? = vs[j]? := fun j hj=>by
  have:=World.cell?_setCells_out b cs (i * 7) w ⟨b,j,none⟩ (fun _ _=>by rcases hj with h | h; exact .inl h; exact .inr (by show i * 7+cs.length≤j; omega))
  rw [Z0w hh,Z0w h] at this
  exact this
 have lim:∀ v,GoodL w D v→GoodL (w.setCells b (i * 7) cs) D v:=fun v hv=>by
  rcases hv with hv | ⟨b1,len,cap,vs1,t1,g1,g2,g3,g4,g5,g6,g7⟩
  ·exact .inl hv
  ·have e:b1 ≠ b:=fun e=>by
    subst e
    obtain ⟨x,q⟩:=g7 0 g2
    rw [h] at g4
    injection g4 with g4
    injection g4 with g4 e2
    subst g4
    rw [h0] at q
    injection q with q
    injection q with q
    cases q
   exact .inr ⟨b1,len,cap,vs1,t1,g1,g2,g3,(oth b1 e).trans g4,g5,g6,g7⟩
 refine ⟨fun b' _ hd=>oth b' fun e=>hd (e ▸ hD),by omega,k2,k3,k4,Z6c b _ (i * 7) w vs t h,lim,fun k=>?_⟩
 induction k with
 |zero=>exact fun v hv=>hv
 |succ k ih =>
  intro v hv
  rcases hv with hv | ⟨b1,len,cap,vs1,t1,g1,g2,g3,g4,g5,g6,g7⟩
  ·exact .inl hv
  ·by_cases e:b1=b
   ·subst e
    rw [h] at g4
    injection g4 with g4
    injection g4 with g4 e2
    subst g4 e2
    refine .inr ⟨b1,len,cap,vs',t,g1,g2,g3,hh,by omega,g6,fun i' hi'=>?_⟩
    by_cases hji:i'=i
    ·subst hji
     refine ⟨kind,n,neg,_,bits,bytes,_,fun j hj=>by rw [cin j hj,hcs],.inl ⟨a1,rfl⟩, ?_⟩
     cases k with
     |zero=>exact ⟨a2,rfl⟩
     |succ k=>exact .inl ⟨a2,rfl⟩
    ·obtain ⟨kind,n,neg,mag,bits,bytes,args,q1,q2,q3⟩:=g7 i' hi'
     refine ⟨kind,n,neg,mag,bits,bytes,args,fun j hj=>?_,lim _ q2,ih _ q3⟩
     rw [← q1 j hj]
     exact cout _ (by omega)
   ·refine .inr ⟨b1,len,cap,vs1,t1,g1,g2,g3,(oth b1 e).trans g4,g5,g6,fun i hi=>?_⟩
    obtain ⟨kind,n,neg,mag,bits,bytes,args,q1,q2,q3⟩:=g7 i hi
    exact ⟨kind,n,neg,mag,bits,bytes,args,q1,lim _ q2,ih _ q3⟩
theorem append_limb {P:Program} {D:Nat→Prop} {w:World} {t ty e:TypeId} {i:TypeInfo} {z:Value} (ht:P.underlying t=some (.slice e)) (hi:P.info? e=some i) (hz:i.zero=some z) (his:i.size=1) (hby:i.bytes=4)
  {v:Value} (h:GoodL w D v) {nb:Nat} {x:Int} (hx:w.cell? ⟨nb,0,none⟩=some (.int .u32 x)) :
  ∃ v' w',(Builtin.append_ #[t,t] ty #[v,.slice (some ⟨nb,0,none⟩) 1 1]).run P w=.ok v' w'∧Ov D w w':=by
 have f1:∀ w',(∀ a,w'.cell? a=w.cell? a)→(Builtin.firstCells i.size 1 (.slice (some ⟨nb,0,none⟩) 1 1)).run P w'=.ok [Value.int .u32 x].toArray w':=fun w' hw =>
  run_firstCells_some (P:=P) w' i.size 1 ⟨nb,0,none⟩ 1 1 [.int .u32 x] (by rw [his]; rfl) (fun j u hj=>by
   cases j with
   |zero=>simp at hj; subst hj; rw [hw]; exact hx
   |succ j=>simp at hj)
 have grown:∀ (cells:Array Value),Ov D w (w.drew.alloc (.cells cells e)):=fun cells=>by
  have hh:∀ b,b < w.heap.size→(w.drew.alloc (.cells cells e)).heap[b]? = w.heap[b]? := fun b hb=>by
   show (w.heap.push _)[b]? = _
   rw [uj,if_neg (by omega)]
  have hs:(w.drew.alloc (.cells cells e)).heap.size=w.heap.size+1:=by
   show (w.heap.push _).size=_
   rw [Array.size_push]
  exact Ov.same hh (by omega) rfl rfl rfl fun b y hb=>by
   have hlt:b < w.heap.size:=by
    unfold World.shape? at hb
    cases hc:w.heap[b]? with
    |none=>rw [hc] at hb; cases hb
    |some o=>exact (Array.getElem?_eq_some_iff.1 hc).1
   unfold World.shape? at hb ⊢
   rw [hh b hlt]
   exact hb
 have full:∀ {ads:Option Addr} {len cap:Nat} {olds:List Value},v=.slice ads len cap→cap < len+1→len≤1000000000000→(Builtin.firstCells i.size len (.slice ads len cap)).run P w.drew=.ok olds.toArray w.drew →
   ∃ v' w',(Builtin.append_ #[t,t] ty #[v,.slice (some ⟨nb,0,none⟩) 1 1]).run P w=.ok v' w'∧Ov D w w':=by
  intro ads len cap olds hv hcap hlen hfo
  subst hv
  have hfit:Builtin.nextslicecap (len+1) cap * i.bytes≤281474976710656:=by
   have:=nextslicecap_le (need:=len+1) (old:=cap) hcap
   rw [hby]
   omega
  exact ⟨_,_,Zb6 (P:=P) (w:=w) t ty e i z ht hi hz ads len cap olds hfo t _ 1 (.inl ⟨rfl,_,_,rfl⟩) [.int .u32 x] (f1 w.drew fun _=>rfl) hcap (by omega) hfit,grown _⟩
 rcases h with ⟨a,rfl⟩ | ⟨b,len,cap,vs,t',rfl,h1,⟨h2,h2'⟩,h3,h4,h5,h6⟩
 ·refine full (olds:=[]) rfl (by omega) (by omega) ?_
  cases a with
  |none=>exact run_firstCells_none _ _ _ _ _
  |some a=>exact run_firstCells_some _ _ _ _ _ _ [] (by simp) (fun j u hj=>by simp at hj)
 ·by_cases hr:len+1≤cap
  ·refine ⟨_,_,Zb8 (P:=P) (w:=w) t ty e i ht hi b len cap t _ 1 (.inl ⟨rfl,_,_,rfl⟩) [.int .u32 x] (by rw [his]; rfl) (f1 w fun _=>rfl) (by simp [Value.oneCell']) hr ?_ (fun j hj=>Z6y h3 _), ?_⟩
   ·intro j hj
    simp at hj
    subst hj
    rw [Z0w h3,xq (by rw [his]; omega)]
    rfl
   ·rw [his,kz]
    obtain ⟨x0,hx0⟩:=h6 0 h1
    exact Ov.limb h3 hx0 h5 (by omega)
  ·refine full (olds:=vs.toList.take len) rfl (by omega) h2' ?_
   refine run_firstCells_some _ _ _ _ _ _ _ (by rw [his,qy,j4]; omega) fun j u hj=>?_
   rw [Addr.add_mid,xk]
   show w.cell? ⟨b,j,none⟩=_
   rw [Z0w h3]
   have hj':=(List.getElem?_eq_some_iff.1 hj).1
   rw [List.getElem?_take,if_pos (by simp at hj'; omega),yz] at hj
   exact hj
def regDsts:Code→List Nat
 |.region _ ops _=>ops.toList.filterMap (·.dst)
 |_=>[]
structure Looked (w:World) (a a':Act) (w':World) (ds:List Nat):Prop where
 defers:a'.defers=a.defers
 len:a'.tmps.size=a.tmps.size
 slots:∀ j,j ∉ ds→a'.tmps[j]? = a.tmps[j]?
 old:∀ b,b < w.heap.size→w'.heap[b]? = w.heap[b]?
 size:w.heap.size≤w'.heap.size
 os:w'.os=w.os
 tape:w'.tape=w.tape
 output:w'.output=w.output
 sh:Zj4 w w'
def LookTo (P:Program) (n0:Nat) (c:Code) (st:St) (k:Nat) (v:Value):Prop :=
 ∀ (G:Gh),G.n0=n0→∀ β S a w,Sim G β S st a w→c.wp P (fun e a' w'=>e=.normal∧a'.tmps[k]? = some v∧Looked w a a' w' (regDsts c)) a w
def runReg (P:Program) (n0:Nat) (c:Code) (hs:List OpH) (st:St):Option (St × List Prop) :=
 match c with
 |.region _ ops draw=>borOps P n0 ops draw hs st
 |_=>none
theorem own_look {P:Program} {n0:Nat} {c:Code} {hs:List OpH} {st st':St} {ps:List Prop} (h:runReg P n0 c hs st=some (st',ps)) (hp:AllP ps) (hobs:st.obs=[]) {β:Nat→Option Nat} {S:Nat→Prop} {a:Act} {w:World} (hlt:∀ b,S b→b < w.heap.size) (hfr:All2 (AV.Rep w S β) st.fr a.tmps.toList) (hl:st'.fr.length=st.fr.length) :
  c.wp P (fun e a' w'=>e=.normal∧Looked w a a' w' (regDsts c)∧∃ β' S',All2 (AV.Rep w' S' β') st'.fr a'.tmps.toList∧(∀ b,S b→S' b)∧∀ b,S' b→b < w'.heap.size) a w:=by
 unfold runReg at h
 split at h
 ·rename_i id ops draw
  let G':Gh:={ w0:=w,own0:=fun _=>False,S0:=S,n0:=n0,par:=fun _ _=>False,dfs:=a.defers }
  have hsf:Sim G' β S st a w :=
   ⟨rfl,hfr,fun s o b hm=>(by rw [hobs] at hm; cases hm),fun s o hm=>(by rw [hobs] at hm; cases hm),fun s o s' o' b hm=>(by rw [hobs] at hm; cases hm),hlt,fun _ h=>h,xw _,fun _ _ _=>rfl,rfl,rfl,rfl,fun _ _ h=>h.elim,fun b hb=>.inl hb,Zj4.refl _⟩
  refine wp_mono (bor_slots (id:=id) (G:=G') h hp hsf) ?_
  rintro e a' w' ⟨⟨rfl,β',S',hs'⟩,hsl⟩
  have l1:=hfr.length
  have l2:=hs'.fr.length
  rw [j4] at l1 l2
  exact ⟨rfl,⟨hs'.defers,by omega,hsl rfl,fun b hb=>hs'.old b hb (fun h=>h),hs'.size,hs'.os,hs'.tape,hs'.output,hs'.sh⟩,β',S',hs'.fr,hs'.s0,hs'.lt⟩
 ·cases h
theorem LookTo.of_bor {P:Program} {n0:Nat} {c:Code} {st st':St} {ps:List Prop} (l:List Adj) (vs:List Nat) (hs:List OpH) (h:runBor P n0 c l vs hs st=some (st',ps)) (hp:AllP ps) (k:Nat) (o:Bool) (hk:st'.fr[k]? = some (.v (.one (.d (.bool o))))):LookTo P n0 c st k (.bool o):=by
 intro G hG β S a w hsim
 subst hG
 unfold runBor at h
 split at h
 ·rename_i id ops draw
  simp only [yo] at h
  obtain ⟨⟨st1,qs⟩,h1,stf,h2,h⟩:=h
  cases he:stf.obs.isEmpty with
  |false=>rw [he] at h; cases h
  |true =>
  rw [he] at h
  simp only [cond_true,yo] at h
  obtain ⟨⟨st2,rs⟩,h3,h⟩:=h
  cases hl:(st2.fr.length == st.fr.length) with
  |false=>simp only [hl] at h; cases h
  |true =>
  simp only [hl,cond_true,yn,yt] at h
  obtain ⟨rfl,rfl⟩:=h
  rw [AllP.append] at hp
  obtain ⟨β1,S1,hs1⟩:=Z5w hsim h1 hp.1
  obtain ⟨S2,hs2⟩:=fvs_sim hs1 h2
  have hnil:stf.obs=[]:=List.isEmpty_iff.1 he
  let G':Gh:={ w0:=w,own0:=fun _=>False,S0:=S2,n0:=G.n0,par:=fun _ _=>False,dfs:=G.dfs }
  have hsf:Sim G' β1 S2 stf a w :=
   ⟨hs2.defers,hs2.fr,fun s o b hm=>(by rw [hnil] at hm; cases hm),fun s o hm=>(by rw [hnil] at hm; cases hm),fun s o s' o' b hm=>(by rw [hnil] at hm; cases hm),hs2.lt,fun _ h=>h,xw _,fun _ _ _=>rfl,rfl,rfl,rfl,fun _ _ h=>h.elim,fun b hb=>.inl hb,Zj4.refl _⟩
  refine wp_mono (bor_slots (id:=id) (G:=G') h3 hp.2 hsf) ?_
  rintro e a' w' ⟨⟨rfl,β',S',hs'⟩,hfr⟩
  have hold:∀ b,b < w.heap.size→w'.heap[b]? = w.heap[b]? := fun b hb=>hs'.old b hb (fun h=>h)
  have l1:=hs2.fr.length
  have l2:=hs'.fr.length
  have l3:st2.fr.length=st.fr.length:=by simpa using hl
  have l4:=hsim.fr.length
  rw [j4] at l1 l2 l4
  refine ⟨rfl, ?_,hs'.defers.trans hsim.defers.symm,by omega,hfr rfl,hold,hs'.size,hs'.os,hs'.tape,hs'.output,hs'.sh⟩
  obtain ⟨x,y,hx,hy,hz⟩:=Zhj _ 0 _ _ k _ hk
  rw [xk] at hz
  cases hc:(ops.toList.filterMap (·.dst)).contains k with
  |true =>
   rw [hc,cond_true] at hz
   cases hsc:scalA y with
   |true =>
    rw [hsc,cond_true] at hz
    subst hz
    obtain ⟨u,hu,hr⟩:=hs'.fr.get k _ hy
    rw [yz] at hu
    rw [hu]
    have hr:C.Rep w' S' (.bool o) u:=hr
    simp only [C.Rep] at hr
    rw [hr]
   |false=>rw [hsc,cond_false] at hz; cases hz
  |false =>
   rw [hc,cond_false] at hz
   subst hz
   obtain ⟨u,hu,hr⟩:=hsim.fr.get k _ hx
   have hno:k ∉ ops.toList.filterMap (·.dst):=fun hm=>by rw [List.contains_iff_mem.2 hm] at hc; cases hc
   rw [yz] at hu
   rw [hfr rfl k hno,hu]
   have hr:C.Rep w S (.bool o) u:=hr
   simp only [C.Rep] at hr
   rw [hr]
 ·cases h
theorem C.Rep.pr_mem {w:World} {F:Nat→Prop} {n sz:Nat} {rows:List (List C)} {v:Value} (hne:rows ≠ []) (h:C.Rep w F (.pr n sz rows) v):∃ b cap vs t,v=.slice (some ⟨b,0,none⟩) rows.length cap∧rows.length≤cap∧w.heap[b]? = some (.cells vs t (0,0))∧vs.size=cap * sz∧F b∧n≤b∧Zj2 w F b sz rows 0:=by
 simp only [C.Rep] at h
 rcases h with ⟨h,_⟩ | ⟨b,cap,vs,t,h1,h2,h3,h4,h5,h6,h7,h8⟩
 ·exact absurd h hne
 ·exact ⟨b,cap,vs,t,h1,h3,h4,h5,h6,h7,h8⟩
theorem goodL_of {w:World} {F:Nat→Prop} {n:Nat} {xs:List Int} {v:Value} (hl:xs.length≤1000000000000) (h:C.Rep w F (.pr n 1 (xs.map fun x=>[.int .u32 x])) v):GoodL w (fun b=>F b∧n≤b) v:=by
 by_cases hne:xs=[]
 ·subst hne
  simp only [C.Rep] at h
  rcases h with ⟨_,h⟩ | ⟨b,cap,vs,t,h1,h2,_⟩
  ·exact .inl h
  ·exact (h2 rfl).elim
 ·obtain ⟨b,cap,vs,t,rfl,h1,h2,h3,h4,h5,h6⟩:=C.Rep.pr_mem (by simpa using hne) h
  rw [xg] at h1 ⊢
  refine .inr ⟨b,xs.length,cap,vs,t,rfl,List.length_pos_iff.2 hne,⟨h1,hl⟩,h2,by omega,⟨h4,h5⟩,fun i hi=>⟨xs[i], ?_⟩⟩
  obtain ⟨_,q⟩:=h6.at i [.int .u32 xs[i]] (by rw [qa,yu hi]; rfl)
  obtain ⟨u,hu,hc⟩:=q.at 0 _ rfl
  simp only [C.Rep] at hc
  subst hc
  rw [Z0w h2] at hu
  simpa using hu
abbrev dv (c:C):PV:=.v (.one (.dat c))
abbrev da (c:C):AV:=.v (.one (.d c))
abbrev di (n:Int):OC:=.dat (.int .i64 n)
abbrev vi (n:Int):PV:=dv (.int .i64 n)
abbrev ai (n:Int):AV:=da (.int .i64 n)
abbrev w0:OpH:={ want:=false }
abbrev e (n:Nat):List OpH:=List.replicate n {}
abbrev ew (n:Nat):List OpH:=List.replicate n w0
theorem AllP.c2 {p q:Prop} {l:List Prop} (a:p) (b:q) (h:AllP l):AllP (p::q::l):=.cons a (.cons b h)
theorem AllP.c4 {p1 p2 p3 p4:Prop} {l:List Prop} (a:p1) (b:p2) (c:p3) (d:p4) (h:AllP l):AllP (p1::p2::p3::p4::l):=.c2 a b (.c2 c d h)
theorem AllP.c8 {p1 p2 p3 p4 p5 p6 p7 p8:Prop} {l:List Prop} (a:p1) (b:p2) (c:p3) (d:p4) (e:p5) (f:p6) (g:p7) (i:p8) (h:AllP l):AllP (p1::p2::p3::p4::p5::p6::p7::p8::l):=.c4 a b c d (.c4 e f g i h)
theorem AllP.t2 {l:List Prop} (h:AllP l):AllP (True::True::l):=.c2 trivial trivial h
theorem AllP.t {l:List Prop} (h:AllP l):AllP (True::l):=.cons trivial h
abbrev aa:OpH:={}
abbrev ag:Prop:=false=false
abbrev ae:CH:=.br false
abbrev ah:CH:=.br true
abbrev af:CH:=.reg (e 2)
abbrev ay:CH:=.reg (e 3)
abbrev ak:CH:=.reg [{}]
abbrev aj (l:List Int):Prop:=(l.map (rI .u32)).length=(l.map (rI .u32)).length
abbrev az (b:Bool) (l:List Int):PV:=.v (.agg [.dat (.bool b),.dat (.sl 1 (l.map (rI .u32)))])
abbrev au (l:List Int):OC:=.dat (.sl 1 (l.map (rI .u32)))
abbrev ax (l:List Int):OC:=.own 1 (l.map (rI .u32))
theorem y5:AllP []:=AllP.nil
theorem y7:True:=trivial
theorem y8 {P:Program} {n0:Nat} {c:Code} (hs:List CH) {st st':St} {ex:Ex} {ps:List Prop} (hp:AllP ps) (h:runTo P n0 c hs st=some (ex,st',ps):=by kernel_rfl):Ziw P n0 c st ex st':=.of_run hs h hp
theorem y9 {P:Program} {f:FuncId} {fn:Func} {args fin:List PV} {ps:List Prop} (n:Nat) (hs:List CH) (hf:P.funcs[f]? =some fn) (hp:AllP ps) (h:runF P fn args n hs=some (fin,ps):=by kernel_rfl):Ziz P f args fin:=.of_run n hs hf h hp
theorem yc {P:Program} {f:FuncId} {fn:Func} {args:List PV} {sz:Nat} {rows':List (List C)} {ps:List Prop} (n:Nat) (hs:List CH) (hf:P.funcs[f]? =some fn) (hp:AllP ps) (h:runK P fn args n hs=some (sz,rows',ps):=by kernel_rfl):KSpec P f args sz rows':=.of_run n hs hf h hp
theorem yf:false=false:=rfl
abbrev yg (l:List PV):OpH:={ h:=.pcall l }
abbrev yh (k:Int):Int:=2^(min (Int.toNat k) (IntKind.bits .u64))
theorem yl {α:Type} {a b:α} (h:some a=some b):a=b:=Option.some.inj h
end Lift
