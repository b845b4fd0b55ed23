import Derived.Below
import Derived.Calls
import Derived.Deep.Draws
import Derived.Laws.Sem
import Derived.Deep.MidRow
import Derived.Laws.IdiomCopy
import Derived.Laws.Tables
import Derived.Great.BuildSlice
import Derived.Laws.MakeOwn
import Derived.ArgAppend
import Derived.Laws.Append
import Derived.Laws.AppendOwn
import Derived.Lib.AppendZeros
set_option linter.unusedVariables false
namespace Lift
open Go Go.RowKit
theorem ym:type_of% @Option.map_eq_some_iff:=@Option.map_eq_some_iff
theorem yn:type_of% @Option.some.injEq:=@Option.some.injEq
theorem yo:type_of% @Option.bind_eq_some_iff:=@Option.bind_eq_some_iff
theorem yt:type_of% @Prod.mk.injEq:=@Prod.mk.injEq
theorem yu:type_of% @List.getElem?_eq_getElem:=@List.getElem?_eq_getElem
theorem yw:type_of% @List.length_append:=@List.length_append
theorem yx:type_of% @Bool.and_eq_true:=@Bool.and_eq_true
theorem yz:type_of% @Array.getElem?_toList:=@Array.getElem?_toList
theorem xc:type_of% @List.mem_cons:=@List.mem_cons
theorem xe:type_of% @List.getD_eq_getElem?_getD:=@List.getD_eq_getElem?_getD
theorem xg:type_of% @List.length_map:=@List.length_map
theorem xh:type_of% @Bool.false_eq_true:=@Bool.false_eq_true
theorem xk:type_of% @Nat.zero_add:=@Nat.zero_add
theorem xm:type_of% @List.append_nil:=@List.append_nil
theorem xn:type_of% @Int.toNat_natCast:=@Int.toNat_natCast
theorem xq:type_of% @Array.getElem?_eq_getElem:=@Array.getElem?_eq_getElem
theorem xu:type_of% @List.length_cons:=@List.length_cons
theorem xw:type_of% @Nat.le_refl:=@Nat.le_refl
theorem xx:type_of% @List.length_nil:=@List.length_nil
theorem xy:type_of% @List.eq_nil_of_length_eq_zero:=@List.eq_nil_of_length_eq_zero
theorem xz:type_of% @Array.getD_eq_getD_getElem?:=@Array.getD_eq_getD_getElem?
theorem q9:type_of% @List.flatten_cons:=@List.flatten_cons
theorem qa:type_of% @List.getElem?_map:=@List.getElem?_map
theorem qb:type_of% @List.append_assoc:=@List.append_assoc
theorem qc:type_of% @Nat.lt_of_lt_of_le:=@Nat.lt_of_lt_of_le
theorem qd:type_of% @List.getElem?_eq_none:=@List.getElem?_eq_none
theorem qf:type_of% @List.flatten_append:=@List.flatten_append
theorem qg:type_of% @List.getElem?_append_right:=@List.getElem?_append_right
theorem qh:type_of% @List.map_cons:=@List.map_cons
theorem qi:type_of% @Nat.two_pow_pos:=@Nat.two_pow_pos
theorem qj:type_of% @Bool.not_eq_true':=@Bool.not_eq_true'
theorem ql:type_of% @Nat.mul_le_mul_right:=@Nat.mul_le_mul_right
theorem qm:type_of% @Bool.false_and:=@Bool.false_and
theorem qo:type_of% @List.flatten_nil:=@List.flatten_nil
theorem qp:type_of% @List.length_set:=@List.length_set
theorem qw:type_of% @List.mem_of_getElem?:=@List.mem_of_getElem?
theorem qx:type_of% @List.getElem?_append_left:=@List.getElem?_append_left
theorem qy:type_of% @List.length_take:=@List.length_take
theorem qz:type_of% @Option.map_some:=@Option.map_some
theorem ve:type_of% @Nat.pow_le_pow_right:=@Nat.pow_le_pow_right
theorem vg:type_of% @Bool.true_and:=@Bool.true_and
theorem vk:type_of% @Int.natCast_nonneg:=@Int.natCast_nonneg
theorem vo:type_of% @Option.bind_some:=@Option.bind_some
theorem vv:type_of% @Bool.false_ne_true:=@Bool.false_ne_true
theorem vz:type_of% @Nat.zero_mul:=@Nat.zero_mul
theorem u7:type_of% @Nat.le_trans:=@Nat.le_trans
theorem uf:type_of% @Nat.add_zero:=@Nat.add_zero
theorem ug:type_of% @Nat.add_mul:=@Nat.add_mul
theorem uh:type_of% @Bool.eq_iff_iff:=@Bool.eq_iff_iff
theorem ui:type_of% @Nat.lt_or_ge:=@Nat.lt_or_ge
theorem uj:type_of% @Array.getElem?_push:=@Array.getElem?_push
theorem uk:type_of% @List.getElem?_cons_succ:=@List.getElem?_cons_succ
theorem ul:type_of% @Int.eq_ofNat_of_zero_le:=@Int.eq_ofNat_of_zero_le
theorem um:type_of% @Int.fdiv_eq_ediv_of_nonneg:=@Int.fdiv_eq_ediv_of_nonneg
theorem uo:type_of% @List.nil_append:=@List.nil_append
theorem uq:type_of% @List.cons_append:=@List.cons_append
theorem ut:type_of% @List.mem_cons_of_mem:=@List.mem_cons_of_mem
theorem uu:type_of% @Nat.eq_of_mul_eq_mul_right:=@Nat.eq_of_mul_eq_mul_right
theorem uw:type_of% @List.map_nil:=@List.map_nil
theorem uy:type_of% @List.take_of_length_le:=@List.take_of_length_le
theorem uz:type_of% @List.getElem?_set_self:=@List.getElem?_set_self
theorem j3:type_of% @Classical.byContradiction:=@Classical.byContradiction
theorem j4:type_of% @Array.length_toList:=@Array.length_toList
theorem j5:type_of% @Nat.pow_add:=@Nat.pow_add
theorem j6:type_of% @Int.mul_le_mul_of_nonneg_left:=@Int.mul_le_mul_of_nonneg_left
theorem ja:type_of% @List.length_replicate:=@List.length_replicate
theorem jc:type_of% @List.Perm.refl:=@List.Perm.refl
theorem jd:type_of% @Nat.min_eq_left:=@Nat.min_eq_left
theorem je:type_of% @List.all_eq_true:=@List.all_eq_true
theorem jf:type_of% @List.getElem?_of_mem:=@List.getElem?_of_mem
theorem jg:type_of% @List.getElem?_cons_zero:=@List.getElem?_cons_zero
theorem jh:type_of% @List.size_toArray:=@List.size_toArray
theorem ji:type_of% @Option.map_none:=@Option.map_none
theorem jk:type_of% @Nat.shiftLeft_eq:=@Nat.shiftLeft_eq
theorem jl:type_of% @Nat.zero_le:=@Nat.zero_le
theorem jm:type_of% @Nat.testBit_or:=@Nat.testBit_or
theorem jo:type_of% @List.getElem?_set_ne:=@List.getElem?_set_ne
theorem jq:type_of% @List.getElem?_set:=@List.getElem?_set
theorem jr:type_of% @List.ext_getElem?:=@List.ext_getElem?
theorem jv:type_of% @List.append_toArray:=@List.append_toArray
theorem jw:type_of% @List.drop_eq_nil_of_le:=@List.drop_eq_nil_of_le
theorem jy:type_of% @Int.mul_lt_mul_of_pos_right:=@Int.mul_lt_mul_of_pos_right
theorem kg:type_of% @Nat.mul_assoc:=@Nat.mul_assoc
theorem ko:type_of% @Option.getD_some:=@Option.getD_some
theorem kr:type_of% @Nat.le_of_ble_eq_true:=@Nat.le_of_ble_eq_true
theorem ku:type_of% @List.take_append_drop:=@List.take_append_drop
theorem kv:type_of% @Int.natCast_mul:=@Int.natCast_mul
theorem kw:type_of% @Bool.and_true:=@Bool.and_true
theorem ky:type_of% @List.filter_cons:=@List.filter_cons
theorem kz:type_of% @Nat.mul_one:=@Nat.mul_one
theorem z8:type_of% @Nat.mul_comm:=@Nat.mul_comm
theorem ze:type_of% @Int.natAbs_natCast:=@Int.natAbs_natCast
theorem zf:type_of% @List.length_singleton:=@List.length_singleton
theorem zg:type_of% @List.eq_nil_or_concat:=@List.eq_nil_or_concat
theorem zh:type_of% @Nat.blt_eq:=@Nat.blt_eq
theorem zi:type_of% @Array.ext':=@Array.ext'
theorem zk:type_of% @Array.replicate_zero:=@Array.replicate_zero
theorem zl:type_of% @Array.replicate_succ:=@Array.replicate_succ
theorem zm:type_of% @List.all_cons:=@List.all_cons
theorem zn:type_of% @Nat.mod_lt:=@Nat.mod_lt
theorem zo:type_of% @Nat.one_mul:=@Nat.one_mul
theorem zq:type_of% @List.push_toArray:=@List.push_toArray
theorem zt:type_of% @List.Perm.append_right:=@List.Perm.append_right
theorem zu:type_of% @List.concat_eq_append:=@List.concat_eq_append
theorem zw:type_of% @List.mem_of_mem_take:=@List.mem_of_mem_take
theorem zx:type_of% @Bool.or_eq_true:=@Bool.or_eq_true
theorem zy:type_of% @Nat.pow_zero:=@Nat.pow_zero
theorem zz:type_of% @List.map_map:=@List.map_map
theorem w9:type_of% @Nat.mul_lt_mul_of_pos_right:=@Nat.mul_lt_mul_of_pos_right
theorem wh:type_of% @List.nodup_nil:=@List.nodup_nil
theorem wm:type_of% @Int.lt_of_lt_of_le:=@Int.lt_of_lt_of_le
theorem wo:type_of% @BitVec.toNat_ofInt:=@BitVec.toNat_ofInt
inductive C where
  | int (k:IntKind) (n:Int)
  | bool (b:Bool)
  | str (s:ByteArray)
  | flt (k:FloatKind) (b:Nat)
  | nils
  | nilp
  | nili
  | nilf
  /-- a slice of none that is not nil -/
  | sl0
  | sl (sz:Nat) (rows:List (List C))
  /-- a slice of n,told with all that there is room for -/
  | slr (sz n:Nat) (rows:List (List C))
  /-- a float that is no number,whichever; its bits -/
  | nanf
  | nanb
  /-- its bits but for the sign -/
  | nanm
  /-- an interface that holds a plain value -/
  | ifc (t:TypeId) (u:Value)
  /-- likewise; there is old memory,of n blocks; and the memory that it leads to is old,if lt -/
  | mk (lt:Bool) (n:Nat) (c:C)
  /-- a slice that is seen whole,or is of no room,in a block of its own that is new: n blocks are old -/
  | pr (n sz:Nat) (rows:List (List C))
def nanW (x:Nat):Bool:=decide (9218868437227405312 < x % 9223372036854775808)
mutual
def C.Rep (w:World) (F:Nat→Prop):C→Value→Prop
 |.int k n,v=>v=.int k n
 |.bool b,v=>v=.bool b
 |.str s,v=>v=.string s
 |.flt k b,v=>v=.float k b
 |.nils,v=>v=.slice none 0 0
 |.nilp,v=>v=.pointer none
 |.nili,v=>v=.nilIface
 |.nilf,v=>v=.nilFunc
 |.nanf,v=>∃ z:Nat,v=.float .f64 z∧z < 18446744073709551616∧nanW z=true
 |.nanm,v=>∃ z:Nat,v=.int .u64 (z:Int)∧9218868437227405312 < z∧z < 9223372036854775808
 |.ifc t u,v=>v=.iface t u
 |.nanb,v=>∃ z:Nat,v=.int .u64 (z:Int)∧z < 18446744073709551616∧nanW z=true
 |.sl0,v=>∃ (ad:Addr) (cap:Nat),v=.slice (some ad) 0 cap∧(cap=0∨ad.spot=none)
 |.sl sz rows,v=>(rows=[]∧∃ a,v=.slice a 0 0)∨∃ b off cap,v=.slice (some ⟨b,off,none⟩) rows.length cap∧rows.length≤cap∧(rows ≠ []→F b)∧Zj2 w F b sz rows off
 |.slr sz n rows,v=>∃ b,v=.slice (some ⟨b,0,none⟩) n rows.length∧n≤rows.length∧(rows ≠ []→F b)∧Zj2 w F b sz rows 0
 |.mk lt n c,v=>(n=0∨F (n - 1))∧C.Rep w (fun b=>F b∧(lt=true→b < n)) c v
 |.pr n sz rows,v=>(rows=[]∧∃ a,v=.slice a 0 0)∨∃ b cap vs t,v=.slice (some ⟨b,0,none⟩) rows.length cap∧rows ≠ []∧rows.length≤cap∧w.heap[b]? = some (.cells vs t (0,0))∧vs.size=cap * sz∧F b∧n≤b∧Zj2 w F b sz rows 0
def Zj1 (w:World) (F:Nat→Prop) (b:Nat):List C→Nat→Prop
 |[],_=>True
 |c::cs,off=>(∃ u,w.cell? ⟨b,off,none⟩=some u∧C.Rep w F c u)∧Zj1 w F b cs (off+1)
def Zj2 (w:World) (F:Nat→Prop) (b sz:Nat):List (List C)→Nat→Prop
 |[],_=>True
 |r::rs,off=>r.length=sz∧Zj1 w F b r off∧Zj2 w F b sz rs (off+sz)
end
def Zj3 (F:Nat→Prop) (w w':World):Prop:=∀ b,F b→w'.heap[b]? = w.heap[b]?
theorem Zj3.cell {F:Nat→Prop} {w w':World} (h:Zj3 F w w') {a:Addr} (ha:F a.block):w'.cell? a=w.cell? a:=by
 unfold World.cell?
 rw [h _ ha]
theorem Zj3.refl (F:Nat→Prop) (w:World):Zj3 F w w:=fun _ _=>rfl
theorem Zj3.trans {F:Nat→Prop} {a b c:World} (h:Zj3 F a b) (k:Zj3 F b c):Zj3 F a c:=fun x hx=>(k x hx).trans (h x hx)
mutual
theorem C.Rep.mono {w w':World} {F F':Nat→Prop} (hF:∀ b,F b→F' b) (hw:Zj3 F w w'):∀ (c:C) (v:Value),C.Rep w F c v→C.Rep w' F' c v
 |.int _ _,_,h=>by simpa only [C.Rep] using h
 |.bool _,_,h=>by simpa only [C.Rep] using h
 |.str _,_,h=>by simpa only [C.Rep] using h
 |.flt _ _,_,h=>by simpa only [C.Rep] using h
 |.nils,_,h=>by simpa only [C.Rep] using h
 |.nilp,_,h=>by simpa only [C.Rep] using h
 |.nili,_,h=>by simpa only [C.Rep] using h
 |.nilf,_,h=>by simpa only [C.Rep] using h
 |.sl0,_,h=>by simpa only [C.Rep] using h
 |.nanf,_,h=>by simpa only [C.Rep] using h
 |.nanb,_,h=>by simpa only [C.Rep] using h
 |.nanm,_,h=>by simpa only [C.Rep] using h
 |.ifc _ _,_,h=>by simpa only [C.Rep] using h
 |.sl sz rows,v,h=>by
  simp only [C.Rep] at h ⊢
  rcases h with h | ⟨b,off,cap,hv,hc,hb,hr⟩
  ·exact .inl h
  refine .inr ⟨b,off,cap,hv,hc,fun hne=>hF _ (hb hne), ?_⟩
  by_cases hne:rows=[]
  ·subst hne; simp only [Zj2]
  ·exact Zj2.mono hF hw b sz (hb hne) rows off hr
 |.slr sz n rows,v,h=>by
  simp only [C.Rep] at h ⊢
  obtain ⟨b,hv,hc,hb,hr⟩:=h
  refine ⟨b,hv,hc,fun hne=>hF _ (hb hne), ?_⟩
  by_cases hne:rows=[]
  ·subst hne; simp only [Zj2]
  ·exact Zj2.mono hF hw b sz (hb hne) rows 0 hr
 |.mk lt n c,v,h=>by
  simp only [C.Rep] at h ⊢
  exact ⟨h.1.imp id (hF _),C.Rep.mono (fun b hb=>⟨hF b hb.1,hb.2⟩) (fun b hb=>hw b hb.1) c v h.2⟩
 |.pr n sz rows,v,h=>by
  simp only [C.Rep] at h ⊢
  rcases h with h | ⟨b,cap,vs,t,h1,h2,h3,h4,h5,h6,h7,h8⟩
  ·exact .inl h
  ·exact .inr ⟨b,cap,vs,t,h1,h2,h3,(hw b h6).trans h4,h5,hF b h6,h7,Zj2.mono hF hw b sz h6 rows 0 h8⟩
theorem Zj1.mono {w w':World} {F F':Nat→Prop} (hF:∀ b,F b→F' b) (hw:Zj3 F w w') (b:Nat) (hb:F b):∀ (cs:List C) (off:Nat),Zj1 w F b cs off→Zj1 w' F' b cs off
 |[],_,_=>by simp only [Zj1]
 |c::cs,off,h=>by
  simp only [Zj1] at h ⊢
  obtain ⟨⟨u,hu,hr⟩,ht⟩:=h
  exact ⟨⟨u,by rw [hw.cell (by exact hb)]; exact hu,C.Rep.mono hF hw c u hr⟩,Zj1.mono hF hw b hb cs (off+1) ht⟩
theorem Zj2.mono {w w':World} {F F':Nat→Prop} (hF:∀ b,F b→F' b) (hw:Zj3 F w w') (b sz:Nat) (hb:F b):∀ (rs:List (List C)) (off:Nat),Zj2 w F b sz rs off→Zj2 w' F' b sz rs off
 |[],_,_=>by simp only [Zj2]
 |r::rs,off,h=>by
  simp only [Zj2] at h ⊢
  obtain ⟨hl,hc,ht⟩:=h
  exact ⟨hl,Zj1.mono hF hw b hb r off hc,Zj2.mono hF hw b sz hb rs (off+sz) ht⟩
end
theorem Zj1.at {w:World} {F:Nat→Prop} {b:Nat}:∀ {cs:List C} {off:Nat},Zj1 w F b cs off→∀ (j:Nat) (c:C),cs[j]? = some c→∃ u,w.cell? ⟨b,off+j,none⟩=some u∧C.Rep w F c u
 |[],_,_,j,c,hj=>by simp at hj
 |c0::cs,off,h,j,c,hj=>by
  simp only [Zj1] at h
  cases j with
  |zero=>simp at hj; subst hj; exact h.1
  |succ j =>
   have:=Zj1.at h.2 j c (by simpa using hj)
   rwa [show off+1+j=off+(j+1) by omega] at this
theorem Zj2.at {w:World} {F:Nat→Prop} {b sz:Nat}:∀ {rs:List (List C)} {off:Nat},Zj2 w F b sz rs off→∀ (i:Nat) (r:List C),rs[i]? = some r→r.length=sz∧Zj1 w F b r (off+i * sz)
 |[],_,_,i,r,hi=>by simp at hi
 |r0::rs,off,h,i,r,hi=>by
  simp only [Zj2] at h
  cases i with
  |zero=>simp at hi; subst hi; simpa using ⟨h.1,h.2.1⟩
  |succ i =>
   have:=Zj2.at h.2.2 i r (by simpa using hi)
   rwa [show off+sz+i * sz=off+(i+1) * sz by rw [ug]; omega] at this
theorem Zj2.drop {w:World} {F:Nat→Prop} {b sz:Nat}:∀ {rs:List (List C)} {off:Nat},Zj2 w F b sz rs off→∀ i,Zj2 w F b sz (rs.drop i) (off+i * sz)
 |[],_,_,i=>by simp only [List.drop_nil,Zj2]
 |r0::rs,off,h,i=>by
  cases i with
  |zero=>simpa using h
  |succ i =>
   simp only [Zj2] at h
   have:=Zj2.drop h.2.2 i
   rwa [show off+sz+i * sz=off+(i+1) * sz by rw [ug]; omega] at this
theorem Zj2.take {w:World} {F:Nat→Prop} {b sz:Nat}:∀ {rs:List (List C)} {off:Nat},Zj2 w F b sz rs off→∀ i,Zj2 w F b sz (rs.take i) off
 |[],_,_,i=>by simp only [List.take_nil,Zj2]
 |r0::rs,off,h,i=>by
  cases i with
  |zero=>simp only [List.take_zero,Zj2]
  |succ i =>
   simp only [Zj2,List.take_succ_cons] at h ⊢
   exact ⟨h.1,h.2.1,Zj2.take h.2.2 i⟩
def C.flat:C→Bool
 |.sl ..=>false
 |.slr ..=>false
 |.mk ..=>false
 |.pr ..=>false
 |_=>true
theorem C.Rep.flat {w w':World} {F F':Nat→Prop} {c:C} {v:Value} (hc:c.flat=true) (h:C.Rep w F c v):C.Rep w' F' c v:=by
 cases c <;> first | simpa only [C.Rep] using h | simp [C.flat] at hc
def oneCell:Value→Bool
 |.agg _ | .tuple _=>false
 |_=>true
theorem C.Rep.one {w:World}:∀ {F:Nat→Prop} {c:C} {v:Value},C.Rep w F c v→oneCell v=true
 |_,.mk _ _ c,v,h=>by simp only [C.Rep] at h; exact C.Rep.one (c:=c) h.2
 |_,.pr ..,v,h=>by simp only [C.Rep] at h; rcases h with ⟨_,_,rfl⟩ | ⟨_,_,_,_,rfl,_⟩ <;> rfl
 |_,.sl ..,v,h=>by simp only [C.Rep] at h; rcases h with ⟨_,_,rfl⟩ | ⟨_,_,_,rfl,_⟩ <;> rfl
 |_,.sl0,v,h=>by simp only [C.Rep] at h; obtain ⟨_,_,rfl,_⟩:=h; rfl
 |_,.slr ..,v,h=>by simp only [C.Rep] at h; obtain ⟨_,rfl,_⟩:=h; rfl
 |_,.nanf,v,h=>by simp only [C.Rep] at h; obtain ⟨_,rfl,_⟩:=h; rfl
 |_,.nanb,v,h=>by simp only [C.Rep] at h; obtain ⟨_,rfl,_⟩:=h; rfl
 |_,.nanm,v,h=>by simp only [C.Rep] at h; obtain ⟨_,rfl,_⟩:=h; rfl
 |_,.int ..,v,h=>by simp only [C.Rep] at h; subst h; rfl
 |_,.bool _,v,h=>by simp only [C.Rep] at h; subst h; rfl
 |_,.str _,v,h=>by simp only [C.Rep] at h; subst h; rfl
 |_,.flt ..,v,h=>by simp only [C.Rep] at h; subst h; rfl
 |_,.nils,v,h=>by simp only [C.Rep] at h; subst h; rfl
 |_,.nilp,v,h=>by simp only [C.Rep] at h; subst h; rfl
 |_,.nili,v,h=>by simp only [C.Rep] at h; subst h; rfl
 |_,.nilf,v,h=>by simp only [C.Rep] at h; subst h; rfl
 |_,.ifc ..,v,h=>by simp only [C.Rep] at h; subst h; rfl
def C.Le (c c':C):Prop:=∀ (w:World) (F:Nat→Prop) (v:Value),C.Rep w F c v→C.Rep w F c' v
theorem C.Le.refl (c:C):C.Le c c:=fun _ _ _ h=>h
theorem C.Le.of_eq {c c':C} (h:c=c'):C.Le c c':=h ▸ C.Le.refl c
theorem C.Le.nils (sz:Nat):C.Le .nils (.sl sz []):=fun w F v h=>by
 simp only [C.Rep] at h ⊢
 exact .inl ⟨trivial,none,h⟩
theorem C.Le.sl0 (sz:Nat):C.Le .sl0 (.sl sz []):=fun w F v h=>by
 simp only [C.Rep] at h ⊢
 obtain ⟨⟨b,off,sp⟩,cap,rfl,hc⟩:=h
 rcases hc with rfl | hc
 ·exact .inl ⟨trivial,_,rfl⟩
 ·refine .inr ⟨b,off,cap, ?_,jl _,fun h=>absurd rfl h,by simp only [Zj2]⟩
  simp only at hc
  subst hc
  rfl
theorem C.Le.trans {a b c:C} (h:C.Le a b) (k:C.Le b c):C.Le a c:=fun w F v hv=>k w F v (h w F v hv)
def rg (x:Nat):Nat:=x % 9223372036854775808
def sg (x:Nat):Bool:=x / 9223372036854775808 % 2 == 1
theorem fm_sign:FloatKind.f64.format.signWeight=9223372036854775808:=by decide
theorem fm_bin:FloatKind.f64.format.binade=4503599627370496:=by decide
theorem fm_inf:FloatKind.f64.format.infRung=9218868437227405312:=by decide
theorem read_nan {x:Nat} (h:nanW x=true):FloatKind.f64.format.read x=.nan (sg x) (rg x - 9218868437227405312):=by
 have h:9218868437227405312 < x % 9223372036854775808:=of_decide_eq_true h
 unfold Ieee.Format.read
 simp only [fm_sign,fm_bin,fm_inf]
 rw [if_neg (by omega),if_neg (by omega),if_neg (by omega)]
 rfl
theorem ordN1 {x y:Nat} (hx:nanW x=true):FloatKind.f64.format.order x y=none:=by
 unfold Ieee.Format.order
 rw [read_nan hx]
 cases FloatKind.f64.format.read y <;> rfl
inductive Cap where
 |d (c:C)
 |ptr (s off:Nat)
inductive AC where
  | d (c:C)
  /-- cell off of object s -/
  | ptr (s off:Nat)
  /-- cell off of element i of the array object s -/
  | ep (s sz i off:Nat)
  /-- into memory that is only read: the cells from there on -/
  | fptr (cs:List C)
  /-- n elements of the array object s from element i on -/
  | vw (s sz i n:Nat)
  /-- a slice that is not nil,of length and room 0 -/
  | cap0
  | fn (f:FuncId) (caps:List Cap)
  | bad
inductive A1 where
 |one (a:AC)
 |agg (cs:List AC)
inductive AV where
 |v (x:A1)
 |tup (l:List A1)
 |bad
inductive Ob where
 |var (cells:List AC)
 |arr (sz:Nat) (rows:List (List C)) (more:Bool)
structure St where
 fr:List AV
 obs:List (Nat × Ob)
def All2 {α β:Type} (R:α→β→Prop):List α→List β→Prop
 |[],[]=>True
 |a::as,b::bs=>R a b∧All2 R as bs
 |_,_=>False
theorem All2.length {α β:Type} {R:α→β→Prop}:∀ {l:List α} {m:List β},All2 R l m→l.length=m.length
 |[],[],_=>rfl
 |_::_,_::_,h=>by simp only [All2] at h; simp [All2.length h.2]
 |[],_::_,h=>h.elim
 |_::_,[],h=>h.elim
theorem All2.get {α β:Type} {R:α→β→Prop}:∀ {l:List α} {m:List β},All2 R l m→∀ (i:Nat) (a:α),l[i]? = some a→∃ b,m[i]? = some b∧R a b
 |[],[],_,i,a,h=>by simp at h
 |x::xs,y::ys,h,i,a,hi=>by
  simp only [All2] at h
  cases i with
  |zero=>simp at hi; subst hi; exact ⟨y,by simp,h.1⟩
  |succ i=>simpa using All2.get h.2 i a (by simpa using hi)
 |[],_::_,h,_,_,_=>h.elim
 |_::_,[],h,_,_,_=>h.elim
theorem All2.set {α β:Type} {R:α→β→Prop}:∀ {l:List α} {m:List β},All2 R l m→∀ (i:Nat) {a:α} {b:β},R a b→All2 R (l.set i a) (m.set i b)
 |[],[],_,_,_,_,_=>by simp [All2]
 |x::xs,y::ys,h,i,a,b,hab=>by
  simp only [All2] at h
  cases i with
  |zero=>simp only [List.set_cons_zero,All2]; exact ⟨hab,h.2⟩
  |succ i=>simp only [List.set_cons_succ,All2]; exact ⟨h.1,All2.set h.2 i hab⟩
 |[],_::_,h,_,_,_,_=>h.elim
 |_::_,[],h,_,_,_,_=>h.elim
theorem All2.imp {α β:Type} {R R':α→β→Prop} (f:∀ a b,R a b→R' a b):∀ {l:List α} {m:List β},All2 R l m→All2 R' l m
 |[],[],_=>by simp [All2]
 |x::xs,y::ys,h=>by simp only [All2] at h ⊢; exact ⟨f _ _ h.1,All2.imp f h.2⟩
 |[],_::_,h=>h.elim
 |_::_,[],h=>h.elim
theorem All2.append {α β:Type} {R:α→β→Prop}:∀ {l l':List α} {m m':List β},All2 R l m→All2 R l' m'→All2 R (l++l') (m++m')
 |[],_,[],_,_,h=>by simpa using h
 |x::xs,_,y::ys,_,h,h'=>by simp only [All2,uq] at h ⊢; exact ⟨h.1,All2.append h.2 h'⟩
 |[],_,_::_,_,h,_=>h.elim
 |_::_,_,[],_,h,_=>h.elim
theorem All2.map {α β γ:Type} {R:α→β→Prop} (f:γ→α):∀ {l:List γ} {m:List β},All2 (fun c b=>R (f c) b) l m→All2 R (l.map f) m
 |[],[],_=>by simp [All2]
 |x::xs,y::ys,h=>by simp only [All2,qh] at h ⊢; exact ⟨h.1,All2.map f h.2⟩
 |[],_::_,h=>h.elim
 |_::_,[],h=>h.elim
theorem All2.mk {α β:Type} {R:α→β→Prop}:∀ {l:List α} {m:List β},l.length=m.length→(∀ (i:Nat) (a:α) (b:β),l[i]? = some a→m[i]? = some b→R a b)→All2 R l m
 |[],[],_,_=>by simp [All2]
 |x::xs,y::ys,hl,h=>by
  simp only [All2]
  exact ⟨h 0 x y (by simp) (by simp),All2.mk (by simpa using hl) fun i a b ha hb=>h (i+1) a b (by simpa using ha) (by simpa using hb)⟩
 |[],_::_,h,_=>by simp at h
 |_::_,[],h,_=>by simp at h
theorem All2.take {α β:Type} {R:α→β→Prop}:∀ {l:List α} {m:List β},All2 R l m→∀ n,All2 R (l.take n) (m.take n)
 |[],[],_,n=>by simp [All2]
 |x::xs,y::ys,h,n=>by
  simp only [All2] at h
  cases n with
  |zero=>simp [All2]
  |succ n=>simp only [List.take_succ_cons,All2]; exact ⟨h.1,All2.take h.2 n⟩
 |[],_::_,h,_=>h.elim
 |_::_,[],h,_=>h.elim
theorem All2.drop {α β:Type} {R:α→β→Prop}:∀ {l:List α} {m:List β},All2 R l m→∀ n,All2 R (l.drop n) (m.drop n)
 |[],[],_,n=>by simp [All2]
 |x::xs,y::ys,h,n=>by
  cases n with
  |zero=>simpa using h
  |succ n=>simp only [All2] at h; simp only [List.drop_succ_cons]; exact All2.drop h.2 n
 |[],_::_,h,_=>h.elim
 |_::_,[],h,_=>h.elim
def Zj4 (w w':World):Prop:=∀ b x,w.shape? b=some x→w'.shape? b=some x
theorem Zj4.refl (w:World):Zj4 w w:=fun _ _ h=>h
theorem Zj4.trans {a b c:World} (h:Zj4 a b) (k:Zj4 b c):Zj4 a c:=fun x y hx=>k x y (h x y hx)
structure Gh where
  w0:World
  own0:Nat→Prop
  /-- what may be read ahead of the call,and is never written -/
  S0:Nat→Prop
  /-- names from here on are the parameters' -/
  n0:Nat
  /-- the objects that came in: their names,their blocks -/
  par:Nat→Option Nat→Prop
  /-- what is to be called at the end -/
  dfs:List Deferred:=[]
def Cap.Rep (w:World) (S:Nat→Prop) (β:Nat→Option Nat):Cap→Value→Prop
 |.d c,v=>C.Rep w S c v
 |.ptr s off,v=>∃ b,β s=some b∧v=.pointer (some ⟨b,off,none⟩)
def AC.Rep (w:World) (S:Nat→Prop) (β:Nat→Option Nat):AC→Value→Prop
 |.d c,v=>C.Rep w S c v
 |.ptr s off,v=>∃ b,β s=some b∧v=.pointer (some ⟨b,off,none⟩)
 |.ep s sz i off,v=>∃ b,β s=some b∧v=.pointer (some ⟨b,i * sz+off,none⟩)
 |.fptr cs,v=>∃ b off,v=.pointer (some ⟨b,off,none⟩)∧(cs ≠ []→S b)∧Zj1 w S b cs off
 |.vw s sz i n,v=>(β s=none∧i=0∧n=0∧∃ a,v=.slice a 0 0)∨∃ b cap,β s=some b∧v=.slice (some ⟨b,i * sz,none⟩) n cap∧n≤cap∧∃ t,w.shape? b=some (t,(i+cap) * sz)
 |.cap0,v=>∃ a,v=.slice a 0 0
 |.fn f caps,v=>∃ vs:Array Value,v=.func (.func f) #[] vs∧All2 (Cap.Rep w S β) caps vs.toList
 |.bad,_=>True
def A1.Rep (w:World) (S:Nat→Prop) (β:Nat→Option Nat):A1→Value→Prop
 |.one a,v=>AC.Rep w S β a v
 |.agg cs,v=>∃ vs:Array Value,v=.agg vs∧All2 (AC.Rep w S β) cs vs.toList
def AV.Rep (w:World) (S:Nat→Prop) (β:Nat→Option Nat):AV→Value→Prop
 |.v x,u=>A1.Rep w S β x u
 |.tup l,u=>∃ vs:Array Value,u=.tuple vs∧All2 (A1.Rep w S β) l vs.toList
 |.bad,_=>True
def Ob.Rep (w:World) (S:Nat→Prop) (β:Nat→Option Nat) (b:Nat):Ob→Prop
 |.var cells=>∃ (vs:Array Value) (t:TypeId),w.heap[b]? = some (.cells vs t (0,0))∧All2 (AC.Rep w S β) cells vs.toList
 |.arr sz rows more=>∃ (vs:Array Value) (t:TypeId),w.heap[b]? = some (.cells vs t (0,0))∧0 < sz∧Zj2 w S b sz rows 0∧rows.length * sz≤vs.size∧(more=false→vs.size=rows.length * sz)
def Ob.empty:Ob→Prop
 |.var _=>False
 |.arr sz rows more=>rows=[]∧more=true∧0 < sz
theorem Ob.Rep.lt {w:World} {S:Nat→Prop} {β:Nat→Option Nat} {b:Nat} {o:Ob} (h:o.Rep w S β b):b < w.heap.size:=by
 have:∃ x,w.heap[b]? = some x:=by
  cases o with
  |var cells=>obtain ⟨vs,t,k,_⟩:=h; exact ⟨_,k⟩
  |arr sz rows more=>obtain ⟨vs,t,k,_⟩:=h; exact ⟨_,k⟩
 obtain ⟨x,hx⟩:=this
 exact (Array.getElem?_eq_some_iff.1 hx).1
structure Sim (G:Gh) (β:Nat→Option Nat) (S:Nat→Prop) (st:St) (a:Act) (w:World):Prop where
 defers:a.defers=G.dfs
 fr:All2 (AV.Rep w S β) st.fr a.tmps.toList
 ob:∀ s o b,(s,o) ∈ st.obs→β s=some b→Ob.Rep w S β b o∧¬ S b∧(G.own0 b∨G.w0.heap.size≤b)
 out:∀ s o,(s,o) ∈ st.obs→β s=none→o.empty
 inj:∀ s o s' o' b,(s,o) ∈ st.obs→(s',o') ∈ st.obs→β s=some b→β s'=some b→s=s'
 lt:∀ b,S b→b < w.heap.size
 s0:∀ b,G.S0 b→S b
 size:G.w0.heap.size≤w.heap.size
 old:∀ b,b < G.w0.heap.size→¬ G.own0 b→w.heap[b]? = G.w0.heap[b]?
 os:w.os=G.w0.os
 tape:w.tape=G.w0.tape
 output:w.output=G.w0.output
 par:∀ s b,G.par s b→G.n0≤s∧β s=b
 src:∀ b,S b→G.S0 b∨G.own0 b∨G.w0.heap.size≤b
 sh:Zj4 G.w0 w
def Cap.names (s:Nat):Cap→Bool
 |.d _=>false
 |.ptr s' _=>s' == s
def AC.names (s:Nat):AC→Bool
 |.d _ | .fptr _ | .cap0 | .bad=>false
 |.ptr s' _ | .ep s' _ _ _ | .vw s' _ _ _=>s' == s
 |.fn _ caps=>caps.any (Cap.names s)
def AC.kill (s:Nat) (x:AC):AC:=bif x.names s then .bad else x
def A1.kill (s:Nat):A1→A1
 |.one a=>.one (a.kill s)
 |.agg cs=>.agg (cs.map (AC.kill s))
def AV.kill (s:Nat):AV→AV
 |.v x=>.v (x.kill s)
 |.tup l=>.tup (l.map (A1.kill s))
 |.bad=>.bad
def Ob.kill (s:Nat):Ob→Ob
 |.var cells=>.var (cells.map (AC.kill s))
 |.arr sz rows more=>.arr sz rows more
def Zjh (s:Nat):List (Nat × Ob)→List (Nat × Ob)
 |[]=>[]
 |(s',o)::r=>bif s' == s then Zjh s r else (s',o.kill s)::Zjh s r
def St.kill (s:Nat) (st:St):St:={ fr:=st.fr.map (AV.kill s),obs:=Zjh s st.obs }
theorem AC.kill_names (s s':Nat) (x:AC) (h:(x.kill s).names s'=true):x.names s'=true∧s' ≠ s:=by
 unfold AC.kill at h
 cases hn:x.names s with
 |true=>rw [hn] at h; simp [AC.names] at h
 |false =>
  rw [hn] at h
  simp only [cond_false] at h
  refine ⟨h,fun e=>?_⟩
  subst e
  rw [hn] at h
  cases h
theorem Z2u (s:Nat):∀ (l:List (Nat × Ob)) (s':Nat) (o:Ob),(s',o) ∈ Zjh s l→∃ o',(s',o') ∈ l∧o=o'.kill s∧s' ≠ s
 |[],_,_,h=>by simp [Zjh] at h
 |(s1,o1)::r,s',o,h=>by
  unfold Zjh at h
  by_cases e:s1=s
  ·subst e
   simp only [beq_self_eq_true,cond_true] at h
   obtain ⟨o',h1,h2,h3⟩:=Z2u s1 r s' o h
   exact ⟨o',by simp [h1],h2,h3⟩
  ·have hb:(s1 == s)=false:=by simpa using e
   rw [hb] at h
   simp only [cond_false,xc,yt] at h
   rcases h with ⟨rfl,rfl⟩ | h
   ·exact ⟨o1,by simp,rfl,e⟩
   ·obtain ⟨o',h1,h2,h3⟩:=Z2u s r s' o h
    exact ⟨o',by simp [h1],h2,h3⟩
theorem Cap.Rep.mono {w w':World} {S S':Nat→Prop} {β β':Nat→Option Nat} (hS:∀ b,S b→S' b) (hw:Zj3 S w w') (x:Cap) (v:Value) (hβ:∀ s,x.names s=true→β' s=β s) (h:x.Rep w S β v):x.Rep w' S' β' v:=by
 cases x with
 |d c=>exact C.Rep.mono hS hw c v h
 |ptr s off=>simp only [Cap.Rep] at h ⊢; rw [hβ s (by simp [Cap.names])]; exact h
theorem AC.Rep.mono {w w':World} {S S':Nat→Prop} {β β':Nat→Option Nat} (hS:∀ b,S b→S' b) (hw:Zj3 S w w') (hsh:Zj4 w w') (x:AC) (v:Value) (hβ:∀ s,x.names s=true→β' s=β s) (h:x.Rep w S β v):x.Rep w' S' β' v:=by
 cases x with
 |d c=>exact C.Rep.mono hS hw c v h
 |ptr s off=>simp only [AC.Rep] at h ⊢; rw [hβ s (by simp [AC.names])]; exact h
 |ep s sz i off=>simp only [AC.Rep] at h ⊢; rw [hβ s (by simp [AC.names])]; exact h
 |fptr cs =>
  simp only [AC.Rep] at h ⊢
  obtain ⟨b,off,h1,h2,h3⟩:=h
  refine ⟨b,off,h1,fun hne=>hS _ (h2 hne), ?_⟩
  by_cases hne:cs=[]
  ·subst hne; simp only [Zj1]
  ·exact Zj1.mono hS hw b (h2 hne) cs off h3
 |vw s sz i n =>
  simp only [AC.Rep] at h ⊢
  rw [hβ s (by simp [AC.names])]
  rcases h with h | ⟨b,cap,h0,h1,h2,t,h3⟩
  ·exact .inl h
  ·exact .inr ⟨b,cap,h0,h1,h2,t,hsh _ _ h3⟩
 |cap0=>exact h
 |fn f caps =>
  simp only [AC.Rep] at h ⊢
  obtain ⟨vs,h1,h2⟩:=h
  refine ⟨vs,h1,All2.mk h2.length fun i c u hc hu=>?_⟩
  obtain ⟨u',hu',hr⟩:=h2.get i c hc
  rw [hu] at hu'
  injection hu' with hu'
  subst hu'
  refine Cap.Rep.mono hS hw c u (fun s hs=>hβ s ?_) hr
  simp only [AC.names,List.any_eq_true]
  exact ⟨c,qw hc,hs⟩
 |bad=>trivial
def A1.names (s:Nat):A1→Bool
 |.one a=>a.names s
 |.agg cs=>cs.any (AC.names s)
def AV.names (s:Nat):AV→Bool
 |.v x=>x.names s
 |.tup l=>l.any (A1.names s)
 |.bad=>false
theorem All2.mono_names {α:Type} {R R':α→Value→Prop} {nm:Nat→α→Bool} {l:List α} {m:List Value} (h:All2 R l m) (f:∀ x v,x ∈ l→R x v→R' x v):All2 R' l m :=
 All2.mk h.length fun i x v hx hv=>by
  obtain ⟨v',hv',hr⟩:=h.get i x hx
  rw [hv] at hv'
  injection hv' with hv'
  subst hv'
  exact f x v (qw hx) hr
theorem A1.Rep.mono {w w':World} {S S':Nat→Prop} {β β':Nat→Option Nat} (hS:∀ b,S b→S' b) (hw:Zj3 S w w') (hsh:Zj4 w w') (x:A1) (v:Value) (hβ:∀ s,x.names s=true→β' s=β s) (h:x.Rep w S β v):x.Rep w' S' β' v:=by
 cases x with
 |one a=>exact AC.Rep.mono hS hw hsh a v hβ h
 |agg cs =>
  simp only [A1.Rep] at h ⊢
  obtain ⟨vs,h1,h2⟩:=h
  refine ⟨vs,h1,h2.mono_names (nm:=AC.names) fun c u hc hr=>AC.Rep.mono hS hw hsh c u (fun s hs=>hβ s ?_) hr⟩
  simp only [A1.names,List.any_eq_true]
  exact ⟨c,hc,hs⟩
theorem AV.Rep.mono {w w':World} {S S':Nat→Prop} {β β':Nat→Option Nat} (hS:∀ b,S b→S' b) (hw:Zj3 S w w') (hsh:Zj4 w w') (x:AV) (v:Value) (hβ:∀ s,x.names s=true→β' s=β s) (h:x.Rep w S β v):x.Rep w' S' β' v:=by
 cases x with
 |v y=>exact A1.Rep.mono hS hw hsh y v hβ h
 |tup l =>
  simp only [AV.Rep] at h ⊢
  obtain ⟨vs,h1,h2⟩:=h
  refine ⟨vs,h1,h2.mono_names (nm:=A1.names) fun c u hc hr=>A1.Rep.mono hS hw hsh c u (fun s hs=>hβ s ?_) hr⟩
  simp only [AV.names,List.any_eq_true]
  exact ⟨c,hc,hs⟩
 |bad=>trivial
theorem AC.Rep.kill {w w':World} {S S':Nat→Prop} {β β':Nat→Option Nat} (hS:∀ b,S b→S' b) (hw:Zj3 S w w') (hsh:Zj4 w w') (s:Nat) (hβ:∀ s',s' ≠ s→β' s'=β s') (x:AC) (v:Value) (h:x.Rep w S β v):(x.kill s).Rep w' S' β' v:=by
 cases hn:x.names s with
 |true=>unfold AC.kill; rw [hn]; trivial
 |false =>
  have e:x.kill s=x:=by unfold AC.kill; rw [hn]; rfl
  rw [e]
  exact AC.Rep.mono hS hw hsh x v (fun s' hs'=>hβ s' fun e=>by subst e; rw [hn] at hs'; cases hs') h
theorem A1.Rep.kill {w w':World} {S S':Nat→Prop} {β β':Nat→Option Nat} (hS:∀ b,S b→S' b) (hw:Zj3 S w w') (hsh:Zj4 w w') (s:Nat) (hβ:∀ s',s' ≠ s→β' s'=β s') (x:A1) (v:Value) (h:x.Rep w S β v):(x.kill s).Rep w' S' β' v:=by
 cases x with
 |one a=>exact AC.Rep.kill hS hw hsh s hβ a v h
 |agg cs =>
  simp only [A1.Rep,A1.kill] at h ⊢
  obtain ⟨vs,h1,h2⟩:=h
  exact ⟨vs,h1,All2.map _ (h2.imp fun c u hr=>AC.Rep.kill hS hw hsh s hβ c u hr)⟩
theorem AV.Rep.kill {w w':World} {S S':Nat→Prop} {β β':Nat→Option Nat} (hS:∀ b,S b→S' b) (hw:Zj3 S w w') (hsh:Zj4 w w') (s:Nat) (hβ:∀ s',s' ≠ s→β' s'=β s') (x:AV) (v:Value) (h:x.Rep w S β v):(x.kill s).Rep w' S' β' v:=by
 cases x with
 |v y=>exact A1.Rep.kill hS hw hsh s hβ y v h
 |tup l =>
  simp only [AV.Rep,AV.kill] at h ⊢
  obtain ⟨vs,h1,h2⟩:=h
  exact ⟨vs,h1,All2.map _ (h2.imp fun c u hr=>A1.Rep.kill hS hw hsh s hβ c u hr)⟩
 |bad=>trivial
theorem Ob.Rep.kill {w w':World} {S S':Nat→Prop} {β β':Nat→Option Nat} (hS:∀ b,S b→S' b) (hw:Zj3 S w w') (hsh:Zj4 w w') (s:Nat) (hβ:∀ s',s' ≠ s→β' s'=β s') (b:Nat) (hb:w'.heap[b]? = w.heap[b]?) (o:Ob) (h:o.Rep w S β b):(o.kill s).Rep w' S' β' b:=by
  cases o with
  | var cells =>
    simp only [Ob.Rep,Ob.kill] at h ⊢
    obtain ⟨vs,t,h1,h2⟩:=h
    exact ⟨vs,t,by rw [hb]; exact h1,All2.map _ (h2.imp fun c u hr=>AC.Rep.kill hS hw hsh s hβ c u hr)⟩
  | arr sz rows more =>
    simp only [Ob.Rep,Ob.kill] at h ⊢
    obtain ⟨vs,t,h1,h2,h3,h4,h5⟩:=h
    refine ⟨vs,t,by rw [hb]; exact h1,h2, ?_,h4,h5⟩
    -- the rows lie in block b,which is as it was
    have key:∀ (rs:List (List C)) (off:Nat),Zj2 w S b sz rs off→Zj2 w' S' b sz rs off:=by
      have cells:∀ (cs:List C) (off:Nat),Zj1 w S b cs off→Zj1 w' S' b cs off:=by
        intro cs
        induction cs with
        | nil=>intro off _; simp only [Zj1]
        | cons c cs ih =>
          intro off h
          simp only [Zj1] at h ⊢
          obtain ⟨⟨u,hu,hr⟩,ht⟩:=h
          refine ⟨⟨u, ?_,C.Rep.mono hS hw c u hr⟩,ih _ ht⟩
          unfold World.cell? at hu ⊢
          simp only at hu ⊢
          rw [hb]
          exact hu
      intro rs
      induction rs with
      | nil=>intro off _; simp only [Zj2]
      | cons r rs ih =>
        intro off h
        simp only [Zj2] at h ⊢
        exact ⟨h.1,cells r off h.2.1,ih _ h.2.2⟩
    exact key rows 0 h3
def St.put (st:St) (d:Option Nat) (x:AV):St :=
 match d with
 |some d=>{ st with fr:=st.fr.set d x }
 |none=>st
theorem Sim.put {G:Gh} {β:Nat→Option Nat} {S:Nat→Prop} {st:St} {a:Act} {w:World} (h:Sim G β S st a w) (d:Option Nat) (x:AV) (v:Value) (hx:x.Rep w S β v):Sim G β S (st.put d x) (a.put d v) w:=by
 cases d with
 |none=>exact h
 |some d =>
  refine ⟨h.defers, ?_,h.ob,h.out,h.inj,h.lt,h.s0,h.size,h.old,h.os,h.tape,h.output,h.par,h.src,h.sh⟩
  show All2 _ (st.fr.set d x) (a.tmps.setIfInBounds d v).toList
  rw [Array.toList_setIfInBounds]
  exact h.fr.set d hx
theorem Ob.empty_kill (s:Nat) (o:Ob):(o.kill s).empty ↔ o.empty:=by cases o <;> exact Iff.rfl
theorem Sim.turn {G:Gh} {β β':Nat→Option Nat} {S S':Nat→Prop} {st:St} {a:Act} {w w':World} (h:Sim G β S st a w) (s:Nat) (hS:∀ b,S b→S' b) (hw:Zj3 S w w') (hsh:Zj4 w w') (hβ:∀ s',s' ≠ s→β' s'=β s')
  (hob:∀ s' o b,(s',o) ∈ st.obs→s' ≠ s→β s'=some b→w'.heap[b]? = w.heap[b]? ∧ ¬ S' b) (hlt:∀ b,S' b→b < w'.heap.size) (hsize:w.heap.size≤w'.heap.size)
  (hold:∀ b,b < G.w0.heap.size→¬ G.own0 b→w'.heap[b]? = w.heap[b]?) (hos:w'.os=w.os) (htape:w'.tape=w.tape) (hout:w'.output=w.output) (hp:β' s=β s∨s < G.n0) (hsrc:∀ b,S' b→G.S0 b∨G.own0 b∨G.w0.heap.size≤b):Sim G β' S' (st.kill s) a w' where
 defers:=h.defers
 fr:=All2.map _ (h.fr.imp fun x v hx=>AV.Rep.kill hS hw hsh s hβ x v hx)
 ob:=by
  intro s' o b ho hb
  obtain ⟨o',h1,rfl,h3⟩:=Z2u s st.obs s' o ho
  rw [hβ s' h3] at hb
  obtain ⟨g1,g2,g3⟩:=h.ob s' o' b h1 hb
  obtain ⟨k1,k2⟩:=hob s' o' b h1 h3 hb
  exact ⟨Ob.Rep.kill hS hw hsh s hβ _ k1 o' g1,k2,g3⟩
 out:=by
  intro s' o ho hb
  obtain ⟨o',h1,rfl,h3⟩:=Z2u s st.obs s' o ho
  rw [hβ s' h3] at hb
  exact (Ob.empty_kill s o').2 (h.out s' o' h1 hb)
 inj:=by
  intro s1 o1 s2 o2 b m1 m2 e1 e2
  obtain ⟨o1',a1,rfl,n1⟩:=Z2u s st.obs s1 o1 m1
  obtain ⟨o2',a2,rfl,n2⟩:=Z2u s st.obs s2 o2 m2
  rw [hβ s1 n1] at e1
  rw [hβ s2 n2] at e2
  exact h.inj s1 o1' s2 o2' b a1 a2 e1 e2
 lt:=hlt
 s0:=fun b hb=>hS b (h.s0 b hb)
 size:=u7 h.size hsize
 old:=fun b h1 h2=>(hold b h1 h2).trans (h.old b h1 h2)
 os:=hos.trans h.os
 tape:=htape.trans h.tape
 output:=hout.trans h.output
 par:=fun s' b hm=>by
  obtain ⟨h1,h2⟩:=h.par s' b hm
  refine ⟨h1, ?_⟩
  by_cases e:s'=s
  ·subst e
   rcases hp with hp | hp
   ·exact hp.trans h2
   ·omega
  ·exact (hβ s' e).trans h2
 src:=hsrc
 sh:=h.sh.trans hsh
theorem Sim.add {G:Gh} {β:Nat→Option Nat} {S:Nat→Prop} {st:St} {a:Act} {w:World} (h:Sim G β S st a w) (s:Nat) (o:Ob) (hn:∀ o',(s,o') ∉ st.obs) {b:Nat} (hb:β s=some b) (ho:Ob.Rep w S β b o) (hS:¬ S b) (hown:G.own0 b∨G.w0.heap.size≤b)
  (hne:∀ s' o',(s',o') ∈ st.obs→β s' ≠ some b):Sim G β S { st with obs:=(s,o)::st.obs } a w:=by
 refine ⟨h.defers,h.fr, ?_, ?_, ?_,h.lt,h.s0,h.size,h.old,h.os,h.tape,h.output,h.par,h.src,h.sh⟩
 ·intro s' o' b' hm hb'
  rcases List.mem_cons.1 hm with e | hm
  ·injection e with e1 e2; subst e1 e2
   rw [hb] at hb'; injection hb' with hb'; subst hb'
   exact ⟨ho,hS,hown⟩
  ·exact h.ob s' o' b' hm hb'
 ·intro s' o' hm hb'
  rcases List.mem_cons.1 hm with e | hm
  ·injection e with e1 e2; subst e1 e2
   rw [hb] at hb'; cases hb'
  ·exact h.out s' o' hm hb'
 ·intro s1 o1 s2 o2 b' m1 m2 q1 q2
  rcases List.mem_cons.1 m1 with e1 | n1 <;> rcases List.mem_cons.1 m2 with e2 | n2
  ·injection e1 with a1 _; injection e2 with a2 _; rw [a1,a2]
  ·injection e1 with a1 _; subst a1; rw [hb] at q1; injection q1 with q1; subst q1; exact absurd q2 (hne s2 o2 n2)
  ·injection e2 with a2 _; subst a2; rw [hb] at q2; injection q2 with q2; subst q2; exact absurd q1 (hne s1 o1 n1)
  ·exact h.inj s1 o1 s2 o2 b' n1 n2 q1 q2
theorem Sim.addOut {G:Gh} {β:Nat→Option Nat} {S:Nat→Prop} {st:St} {a:Act} {w:World} (h:Sim G β S st a w) (s:Nat) (o:Ob) (hn:∀ o',(s,o') ∉ st.obs) (hb:β s=none) (ho:o.empty):Sim G β S { st with obs:=(s,o)::st.obs } a w:=by
 refine ⟨h.defers,h.fr, ?_, ?_, ?_,h.lt,h.s0,h.size,h.old,h.os,h.tape,h.output,h.par,h.src,h.sh⟩
 ·intro s' o' b' hm hb'
  rcases List.mem_cons.1 hm with e | hm
  ·injection e with e1 e2; subst e1 e2
   rw [hb] at hb'; cases hb'
  ·exact h.ob s' o' b' hm hb'
 ·intro s' o' hm hb'
  rcases List.mem_cons.1 hm with e | hm
  ·injection e with e1 e2; subst e1 e2
   exact ho
  ·exact h.out s' o' hm hb'
 ·intro s1 o1 s2 o2 b' m1 m2 q1 q2
  rcases List.mem_cons.1 m1 with e1 | n1 <;> rcases List.mem_cons.1 m2 with e2 | n2
  ·injection e1 with a1 _; injection e2 with a2 _; rw [a1,a2]
  ·injection e1 with a1 _; subst a1; rw [hb] at q1; cases q1
  ·injection e2 with a2 _; subst a2; rw [hb] at q2; cases q2
  ·exact h.inj s1 o1 s2 o2 b' n1 n2 q1 q2
def Zjf (s:Nat):List (Nat × Ob)→Option Ob
 |[]=>none
 |(s',o)::r=>bif s' == s then some o else Zjf s r
theorem Z22 (s:Nat):∀ (l:List (Nat × Ob)) (o:Ob),Zjf s l=some o→(s,o) ∈ l
 |[],_,h=>by simp [Zjf] at h
 |(s',o')::r,o,h=>by
  unfold Zjf at h
  by_cases e:s'=s
  ·subst e; simp at h; subst h; simp
  ·have hb:(s' == s)=false:=by simpa using e
   rw [hb] at h
   simp only [cond_false] at h
   exact ut _ (Z22 s r o h)
def setOb (s:Nat) (o:Ob):List (Nat × Ob)→List (Nat × Ob)
 |[]=>[]
 |(s',o')::r=>bif s' == s then (s',o)::setOb s o r else (s',o')::setOb s o r
theorem Z6b (s:Nat) (o:Ob):∀ (l:List (Nat × Ob)) (s':Nat) (o':Ob),(s',o') ∈ setOb s o l→(s'=s∧o'=o∧∃ o'',(s,o'') ∈ l)∨(s' ≠ s∧(s',o') ∈ l)
 |[],_,_,h=>by simp [setOb] at h
 |(s1,o1)::r,s',o',h=>by
  unfold setOb at h
  by_cases e:s1=s
  ·subst e
   simp only [beq_self_eq_true,cond_true,xc,yt] at h
   rcases h with ⟨rfl,rfl⟩ | h
   ·exact .inl ⟨rfl,rfl,o1,by simp⟩
   ·rcases Z6b s1 o r s' o' h with ⟨a,b,c,d⟩ | ⟨a,b⟩
    ·exact .inl ⟨a,b,c,by simp [d]⟩
    ·exact .inr ⟨a,by simp [b]⟩
  ·have hb:(s1 == s)=false:=by simpa using e
   rw [hb] at h
   simp only [cond_false,xc,yt] at h
   rcases h with ⟨rfl,rfl⟩ | h
   ·exact .inr ⟨e,by simp⟩
   ·rcases Z6b s o r s' o' h with ⟨a,b,c,d⟩ | ⟨a,b⟩
    ·exact .inl ⟨a,b,c,by simp [d]⟩
    ·exact .inr ⟨a,by simp [b]⟩
theorem Sim.write {G:Gh} {β:Nat→Option Nat} {S:Nat→Prop} {st:St} {a:Act} {w w':World} (h:Sim G β S st a w) (s:Nat) (o o':Ob) (hm:(s,o) ∈ st.obs) {b0:Nat} (hb0:β s=some b0) (hsz:w'.heap.size=w.heap.size) (hother:∀ b,b ≠ b0→w'.heap[b]? = w.heap[b]?) (hsh:Zj4 w w')
  (ho:Ob.Rep w' S β b0 o') (hos:w'.os=w.os) (htape:w'.tape=w.tape) (hout:w'.output=w.output):Sim G β S { st with obs:=setOb s o' st.obs } a w':=by
 obtain ⟨_,hnS,hown⟩:=h.ob s o b0 hm hb0
 have hw:Zj3 S w w':=fun b hb=>hother b fun e=>hnS (e ▸ hb)
 refine ⟨h.defers,h.fr.imp fun x v hx=>AV.Rep.mono (fun _ hb=>hb) hw hsh x v (fun _ _=>rfl) hx, ?_, ?_, ?_,fun b hb=>hsz ▸ h.lt b hb,h.s0,hsz ▸ h.size, ?_,hos.trans h.os,htape.trans h.tape,hout.trans h.output,h.par,h.src,h.sh.trans hsh⟩
 ·intro s' o1 b hm' hb
  rcases Z6b s o' st.obs s' o1 hm' with ⟨rfl,rfl,_⟩ | ⟨hne,hm1⟩
  ·rw [hb0] at hb; injection hb with hb; subst hb
   exact ⟨ho,hnS,hown⟩
  ·obtain ⟨g1,g2,g3⟩:=h.ob s' o1 b hm1 hb
   have hbb:w'.heap[b]? = w.heap[b]? := hother _ fun e=>hne (h.inj s' o1 s o b0 hm1 hm (e ▸ hb) hb0)
   refine ⟨?_,g2,g3⟩
   cases o1 with
   |var cells =>
    simp only [Ob.Rep] at g1 ⊢
    obtain ⟨vs,t,k1,k2⟩:=g1
    exact ⟨vs,t,by rw [hbb]; exact k1,k2.imp fun c u hr=>AC.Rep.mono (fun _ hb=>hb) hw hsh c u (fun _ _=>rfl) hr⟩
   |arr sz rows more =>
    have:=Ob.Rep.kill (S:=S) (S':=S) (β:=β) (β':=β) (fun _ hb=>hb) hw hsh s (fun _ _=>rfl) b hbb (.arr sz rows more) g1
    exact this
 ·intro s' o1 hm' hb
  rcases Z6b s o' st.obs s' o1 hm' with ⟨rfl,rfl,_⟩ | ⟨hne,hm1⟩
  ·rw [hb0] at hb; cases hb
  ·exact h.out s' o1 hm1 hb
 ·intro s1 o1 s2 o2 b m1 m2 q1 q2
  have k1:∃ o,(s1,o) ∈ st.obs:=by
   rcases Z6b s o' st.obs s1 o1 m1 with ⟨rfl,_,o'',ho''⟩ | ⟨_,hm1⟩
   ·exact ⟨_,ho''⟩
   ·exact ⟨_,hm1⟩
  have k2:∃ o,(s2,o) ∈ st.obs:=by
   rcases Z6b s o' st.obs s2 o2 m2 with ⟨rfl,_,o'',ho''⟩ | ⟨_,hm1⟩
   ·exact ⟨_,ho''⟩
   ·exact ⟨_,hm1⟩
  obtain ⟨p1,r1⟩:=k1
  obtain ⟨p2,r2⟩:=k2
  exact h.inj s1 p1 s2 p2 b r1 r2 q1 q2
 ·intro b hb hn
  rw [hother b fun e=>?_]
  ·exact h.old b hb hn
  ·rcases hown with g | g
   ·exact hn (e ▸ g)
   ·omega
theorem Sim.alloc {G:Gh} {β:Nat→Option Nat} {S:Nat→Prop} {st:St} {a:Act} {w:World} (h:Sim G β S st a w) (s:Nat) (hd:s < G.n0) (vs:Array Value) (t:TypeId) (o:Ob)
  (ho:∀ β' w',(∀ s',s' ≠ s→β' s'=β s')→Zj3 S w w'→Zj4 w w'→w'.heap[w.heap.size]? = some (.cells vs t (0,0))→Ob.Rep w' S β' w.heap.size o) :
  ∃ β',β' s=some w.heap.size∧(∀ s',s' ≠ s→β' s'=β s')∧Sim G β' S { (st.kill s) with obs:=(s,o)::(st.kill s).obs } a (w.alloc (.cells vs t)):=by
 have hb:∀ b,b < w.heap.size→(w.alloc (.cells vs t)).heap[b]? = w.heap[b]? := fun b hb=>Below.heap_alloc w _ b hb
 have hw:Zj3 S w (w.alloc (.cells vs t)):=fun b hs=>hb b (h.lt b hs)
 have hsh:Zj4 w (w.alloc (.cells vs t)):=by
  intro b x hx
  have:b < w.heap.size:=by
   rcases ui b w.heap.size with c | c
   ·exact c
   ·unfold World.shape? at hx; rw [Array.getElem?_eq_none c] at hx; simp at hx
  unfold World.shape? at hx ⊢
  rw [hb b this]
  exact hx
 have hnew:(w.alloc (.cells vs t)).heap[w.heap.size]? = some (.cells vs t (0,0)):=by
  show (w.heap.push _)[w.heap.size]? = _
  rw [uj,if_pos rfl]
 have olt:∀ s' o' b,(s',o') ∈ st.obs→β s'=some b→b < w.heap.size:=fun s' o' b hm hb'=>(h.ob s' o' b hm hb').1.lt
 refine ⟨fun s'=>if s'=s then some w.heap.size else β s',by simp,fun s' hne=>by simp [hne], ?_⟩
 have k:=h.turn (β':=fun s'=>if s'=s then some w.heap.size else β s') s (fun _ hb=>hb) hw hsh (fun s' hne=>by simp [hne]) (fun s' o' b hm _ hb'=>⟨hb _ (olt s' o' b hm hb'),(h.ob s' o' b hm hb').2.1⟩)
  (fun b hs=>by rw [World.size_alloc]; exact Nat.lt_succ_of_lt (h.lt b hs)) (by rw [World.size_alloc]; omega) (fun b h1 _=>hb b (qc h1 h.size)) rfl rfl rfl (.inr hd) h.src
 refine k.add s o (b:=w.heap.size) ?_ (by simp) ?_ ?_ ?_ ?_
 ·intro o' hm
  obtain ⟨_,_,_,h3⟩:=Z2u s st.obs s o' hm
  exact h3 rfl
 ·exact ho _ _ (fun s' hne=>by simp [hne]) hw hsh hnew
 ·intro hs
  exact Nat.lt_irrefl _ (h.lt _ hs)
 ·exact .inr h.size
 ·intro s' o' hm
  obtain ⟨o1,h1,_,h3⟩:=Z2u s st.obs s' o' hm
  simp only [h3,if_false]
  intro e
  exact Nat.lt_irrefl _ (olt s' o1 _ h1 e)
theorem Sim.freeze {G:Gh} {β:Nat→Option Nat} {S:Nat→Prop} {st:St} {a:Act} {w:World} (h:Sim G β S st a w) (s:Nat) (o:Ob) (hm:(s,o) ∈ st.obs) :
  Sim G β (fun b=>S b∨β s=some b) (st.kill s) a w:=by
 refine h.turn s (fun b hb=>.inl hb) (Zj3.refl _ _) (Zj4.refl _) (fun _ _=>rfl) (fun s' o' b hm' hne hb=>⟨rfl, ?_⟩) ?_ (xw _) (fun _ _ _=>rfl) rfl rfl rfl (.inl rfl) ?_
 ·rintro (hs | he)
  ·exact (h.ob s' o' b hm' hb).2.1 hs
  ·exact hne (h.inj s' o' s o b hm' hm hb he)
 ·rintro b (hs | hb)
  ·exact h.lt b hs
  ·exact (h.ob s o b hm hb).1.lt
 ·rintro b (hs | hb)
  ·exact h.src b hs
  ·exact .inr (h.ob s o b hm hb).2.2
theorem Sim.none {G:Gh} {β:Nat→Option Nat} {S:Nat→Prop} {st:St} {a:Act} {w:World} (h:Sim G β S st a w) (s:Nat) (hd:s < G.n0) (o:Ob) (ho:o.empty) :
  ∃ β',β' s=Option.none∧(∀ s',s' ≠ s→β' s'=β s')∧Sim G β' S { (st.kill s) with obs:=(s,o)::(st.kill s).obs } a w:=by
 refine ⟨fun s'=>if s'=s then Option.none else β s',by simp,fun s' hne=>by simp [hne], ?_⟩
 have k:=h.turn (β':=fun s'=>if s'=s then Option.none else β s') s (fun _ hb=>hb) (Zj3.refl _ _) (Zj4.refl _) (fun s' hne=>by simp [hne]) (fun s' o' b hm hne hb'=>⟨rfl,(h.ob s' o' b hm hb').2.1⟩)
  h.lt (xw _) (fun b h1 _=>rfl) rfl rfl rfl (.inr hd) h.src
 refine k.addOut s o ?_ (by simp) ho
 intro o' hm
 obtain ⟨_,_,_,h3⟩:=Z2u s st.obs s o' hm
 exact h3 rfl
def C.toV:C→Option Value
 |.int k n=>some (.int k n)
 |.bool b=>some (.bool b)
 |.str s=>some (.string s)
 |.flt k b=>some (.float k b)
 |.nils=>some (.slice none 0 0)
 |.nilp=>some (.pointer none)
 |.nili=>some .nilIface
 |.nilf=>some .nilFunc
 |.ifc t u=>some (.iface t u)
 |.sl .. | .slr .. | .sl0 | .nanf | .nanb | .nanm | .mk .. | .pr ..=>none
def C.ofV:Value→Option C
 |.int k n=>some (.int k n)
 |.bool b=>some (.bool b)
 |.string s=>some (.str s)
 |.float k b=>some (.flt k b)
 |.slice none 0 0=>some .nils
 |.pointer none=>some .nilp
 |.nilIface=>some .nili
 |.nilFunc=>some .nilf
 |.iface t u=>some (.ifc t u)
 |_=>none
theorem C.toV_rep {c:C} {v:Value} (h:c.toV=some v) (w:World) (S:Nat→Prop) (u:Value):C.Rep w S c u ↔ u=v:=by
 cases c <;> simp only [C.toV,yn,reduceCtorEq] at h <;> subst h <;> simp only [C.Rep]
theorem C.ofV_rep {c:C} {v:Value} (h:C.ofV v=some c) (w:World) (S:Nat→Prop):C.Rep w S c v:=by
 unfold C.ofV at h
 split at h <;> first | (injection h with h; subst h; simp only [C.Rep]) | cases h
def AC.toV:AC→Option Value
 |.d c=>c.toV
 |_=>none
def AC.ofV (v:Value):Option AC:=(C.ofV v).map .d
def Zj6 {α β:Type} (f:α→Option β):List α→Option (List β)
 |[]=>some []
 |a::as=>match f a,Zj6 f as with
  |some b,some bs=>some (b::bs)
  |_,_=>none
theorem Z34 {α β:Type} {f:α→Option β}:∀ {l:List α} {m:List β},Zj6 f l=some m→All2 (fun a b=>f a=some b) l m
 |[],m,h=>by simp [Zj6] at h; subst h; simp [All2]
 |a::as,m,h=>by
  simp only [Zj6] at h
  split at h
  ·rename_i b bs hb hbs
   injection h with h
   subst h
   exact ⟨hb,Z34 hbs⟩
  ·cases h
def A1.toV:A1→Option Value
 |.one a=>a.toV
 |.agg cs=>(Zj6 AC.toV cs).map fun vs=>.agg vs.toArray
def A1.ofV:Value→Option A1
 |.agg vs=>(Zj6 AC.ofV vs.toList).map .agg
 |v=>(AC.ofV v).map .one
def AV.toV:AV→Option Value
 |.v x=>x.toV
 |.tup _=>none
 |.bad=>none
def AV.ofV:Value→Option AV
 |.tuple vs=>(Zj6 A1.ofV vs.toList).map .tup
 |u=>(A1.ofV u).map .v
theorem All2.eq_of {α β:Type} {R R':α→β→Prop} (f:∀ a b b',R a b→R' a b'→b=b'):∀ {l:List α} {m m':List β},All2 R l m→All2 R' l m'→m=m'
 |[],[],[],_,_=>rfl
 |_::_,_::_,_::_,h,h'=>by simp only [All2] at h h'; rw [f _ _ _ h.1 h'.1,All2.eq_of f h.2 h'.2]
 |[],_::_,_,h,_=>h.elim
 |_::_,[],_,h,_=>h.elim
 |[],[],_::_,_,h=>h.elim
 |_::_,_::_,[],_,h=>h.elim
theorem AC.toV_rep {c:AC} {v:Value} (h:c.toV=some v) {w:World} {S:Nat→Prop} {β:Nat→Option Nat} {u:Value} (hu:c.Rep w S β u):u=v:=by
 cases c <;> simp only [AC.toV,reduceCtorEq] at h
 exact (C.toV_rep h w S u).1 hu
theorem A1.toV_rep {c:A1} {v:Value} (h:c.toV=some v) {w:World} {S:Nat→Prop} {β:Nat→Option Nat} {u:Value} (hu:c.Rep w S β u):u=v:=by
 cases c with
 |one a=>exact AC.toV_rep h hu
 |agg cs =>
  simp only [A1.toV,ym] at h
  obtain ⟨vs,h1,rfl⟩:=h
  obtain ⟨us,rfl,h2⟩:=hu
  congr 1
  have:=All2.eq_of (fun a b b' (p:AC.Rep w S β a b) (q:AC.toV a=some b')=>AC.toV_rep q p) h2 (Z34 h1)
  rw [← this]
theorem AV.toV_rep {c:AV} {v:Value} (h:c.toV=some v) {w:World} {S:Nat→Prop} {β:Nat→Option Nat} {u:Value} (hu:c.Rep w S β u):u=v:=by
 cases c <;> simp only [AV.toV,reduceCtorEq] at h
 exact A1.toV_rep h hu
theorem AC.ofV_rep {v:Value} {x:AC} (h:AC.ofV v=some x) (w:World) (S:Nat→Prop) (β:Nat→Option Nat):x.Rep w S β v:=by
 simp only [AC.ofV,ym] at h
 obtain ⟨c,h1,rfl⟩:=h
 exact C.ofV_rep h1 w S
theorem All2.flip_some {α β:Type} {f:β→Option α} {R:α→β→Prop} (k:∀ a b,f b=some a→R a b):∀ {l:List β} {m:List α},All2 (fun b a=>f b=some a) l m→All2 R m l
 |[],[],_=>by simp [All2]
 |_::_,_::_,h=>by simp only [All2] at h ⊢; exact ⟨k _ _ h.1,All2.flip_some k h.2⟩
 |[],_::_,h=>h.elim
 |_::_,[],h=>h.elim
theorem A1.ofV_rep {v:Value} {x:A1} (h:A1.ofV v=some x) (w:World) (S:Nat→Prop) (β:Nat→Option Nat):x.Rep w S β v:=by
 unfold A1.ofV at h
 split at h
 ·simp only [ym] at h
  obtain ⟨cs,h1,rfl⟩:=h
  exact ⟨_,rfl,All2.flip_some (fun a b hb=>AC.ofV_rep hb w S β) (Z34 h1)⟩
 ·simp only [ym] at h
  obtain ⟨c,h1,rfl⟩:=h
  exact AC.ofV_rep h1 w S β
theorem AV.ofV_rep {v:Value} {x:AV} (h:AV.ofV v=some x) (w:World) (S:Nat→Prop) (β:Nat→Option Nat):x.Rep w S β v:=by
 unfold AV.ofV at h
 split at h
 ·simp only [ym] at h
  obtain ⟨cs,h1,rfl⟩:=h
  exact ⟨_,rfl,All2.flip_some (fun a b hb=>A1.ofV_rep hb w S β) (Z34 h1)⟩
 ·simp only [ym] at h
  obtain ⟨c,h1,rfl⟩:=h
  exact A1.ofV_rep h1 w S β
def Zjd (st:St):Operand→Option AV
 |.tmp t=>st.fr[t]?
 |.const v=>AV.ofV v
 |.func f=>some (.v (.one (.fn f [])))
 |.global _=>none
theorem Z0p {G:Gh} {β:Nat→Option Nat} {S:Nat→Prop} {st:St} {a:Act} {w:World} (h:Sim G β S st a w) {x:Operand} {y:AV} (hx:Zjd st x=some y):y.Rep w S β (a.eval x):=by
 cases x with
 |tmp t =>
  simp only [Zjd] at hx
  obtain ⟨v,hv,hr⟩:=h.fr.get t y hx
  simp only [Act.eval]
  have:a.tmps.getD t undef=v:=by
   rw [yz] at hv
   rw [xz,hv]
   rfl
  rw [this]
  exact hr
 |const v=>exact AV.ofV_rep hx w S β
 |func f =>
  simp only [Zjd,yn] at hx
  subst hx
  exact ⟨#[],rfl,by simp [All2]⟩
 |global g=>simp [Zjd] at hx
def Zjs {α:Type} (P:Program):Sem α→Option α
 |.pure a=>some a
 |.program k=>Zjs P (k P)
 |_=>none
theorem pureOf_run {α:Type} {P:Program}:∀ {s:Sem α} {a:α},Zjs P s=some a→∀ w,s.run P w=.ok a w
 |.pure b,a,h,w=>by simp only [Zjs,yn] at h; subst h; rfl
 |.program k,a,h,w=>by simp only [Zjs] at h; exact pureOf_run h w
 |.load ..,_,h,_ | .store ..,_,h,_ | .new ..,_,h,_ | .shape ..,_,h,_ | .freeze ..,_,h,_ | .frozen ..,_,h,_ | .getObj ..,_,h,_ | .setObj ..,_,h,_ | .choose ..,_,h,_ | .sys ..,_,h,_ | .mark ..,_,h,_ | .halt _,_,h,_=>by simp [Zjs] at h
def flatV (st:St) (x:Operand):Option Value:=(Zjd st x).bind AV.toV
theorem Zar {G:Gh} {β:Nat→Option Nat} {S:Nat→Prop} {st:St} {a:Act} {w:World} (h:Sim G β S st a w) {x:Operand} {v:Value} (hx:flatV st x=some v):a.eval x=v:=by
 unfold flatV at hx
 cases hy:Zjd st x with
 |none=>rw [hy] at hx; simp at hx
 |some y=>rw [hy] at hx; exact AV.toV_rep hx (Z0p h hy)
def flatSem (P:Program) (st:St) (o:Oper):Option (Sem Value) :=
 match o.op with
 |.binOp op t x y _=>match flatV st x,flatV st y with
  |some a,some b=>some (do eqGuard op t x y a b; binOp op t a b)
  |_,_=>none
 |.unOp op _ x=>(flatV st x).map fun a=>Op.unary op a
 |.convert s d x=>(flatV st x).map fun a=>convert s d a
 |.makeInterface t x=>(flatV st x).map fun a=>Instr.makeInterface t a
 |.typeAssert x t t' ok=>(flatV st x).map fun a=>Instr.typeAssert a t t' ok
 |.index t x y=>match flatV st x,flatV st y with
  |some a,some b=>some (Instr.index t a b)
  |_,_=>none
 |.call { callee:=.builtin .len,args,argTypes }=>(Zj6 (flatV st) args.toList).map fun vs=>Builtin.len_ argTypes o.type vs.toArray
 |.call { callee:=.builtin .min,args,argTypes }=>(Zj6 (flatV st) args.toList).map fun vs=>Builtin.min_ argTypes o.type vs.toArray
 |.call { callee:=.builtin .max,args,argTypes }=>(Zj6 (flatV st) args.toList).map fun vs=>Builtin.max_ argTypes o.type vs.toArray
 |.call { callee:=.builtin .cap,args,argTypes }=>(Zj6 (flatV st) args.toList).map fun vs=>Builtin.cap_ argTypes o.type vs.toArray
 |_=>none
def flatOp (P:Program) (st:St) (o:Oper):Option AV:=((flatSem P st o).bind (Zjs P)).bind AV.ofV
theorem Z8i {G:Gh} {β:Nat→Option Nat} {S:Nat→Prop} {st:St} {a:Act} {w:World} (h:Sim G β S st a w) {xs:Array Operand} {vs:List Value} (hx:Zj6 (flatV st) xs.toList=some vs):xs.map a.eval=vs.toArray:=by
 have k:=Z34 hx
 apply zi
 simp only [Array.toList_map]
 have:∀ {l:List Operand} {m:List Value},All2 (fun a b=>flatV st a=some b) l m→l.map a.eval=m:=by
  intro l
  induction l with
  |nil=>intro m hm; cases m with | nil=>rfl | cons _ _=>exact hm.elim
  |cons y ys ih =>
   intro m hm
   cases m with
   |nil=>exact hm.elim
   |cons z zs=>simp only [All2] at hm; simp only [qh,Zar h hm.1,ih hm.2]
 exact this k
theorem flatOp_run {P:Program} {G:Gh} {β:Nat→Option Nat} {S:Nat→Prop} {st:St} {a:Act} {w:World} (h:Sim G β S st a w) {o:Oper} {y:AV} (hy:flatOp P st o=some y) :
  ∃ v,(execOp a.eval o).run P w=.ok (.value v) w∧y.Rep w S β v:=by
 unfold flatOp at hy
 simp only [yo] at hy
 obtain ⟨v,⟨s,hs,hv⟩,hy⟩:=hy
 have hrun:s.run P w=.ok v w:=pureOf_run hv w
 refine ⟨v, ?_,AV.ofV_rep hy w S β⟩
 unfold flatSem at hs
 unfold execOp
 split at hs
 ·rename_i op t x y' _ ho
  split at hs
  ·rename_i u1 u2 h1 h2
   injection hs with hs
   subst hs
   rw [ho]
   simp only [Zar h h1,Zar h h2]
   rw [Sem.run_bind,hrun]
   rfl
  ·cases hs
 ·rename_i op _ x ho
  simp only [ym] at hs
  obtain ⟨u,hu,rfl⟩:=hs
  rw [ho]
  simp only [Zar h hu]
  rw [Sem.run_bind,hrun]
  rfl
 ·rename_i s' d x ho
  simp only [ym] at hs
  obtain ⟨u,hu,rfl⟩:=hs
  rw [ho]
  simp only [Zar h hu]
  rw [Sem.run_bind,hrun]
  rfl
 ·rename_i t x ho
  simp only [ym] at hs
  obtain ⟨u,hu,rfl⟩:=hs
  rw [ho]
  simp only [Zar h hu]
  rw [Sem.run_bind,hrun]
  rfl
 ·rename_i x t t' ok ho
  simp only [ym] at hs
  obtain ⟨u,hu,rfl⟩:=hs
  rw [ho]
  simp only [Zar h hu]
  rw [Sem.run_bind,hrun]
  rfl
 ·rename_i t x y ho
  split at hs
  ·rename_i u1 u2 h1 h2
   injection hs with hs
   subst hs
   rw [ho]
   simp only [Zar h h1,Zar h h2]
   rw [Sem.run_bind,hrun]
   rfl
  ·cases hs
 ·rename_i args argTypes ho
  simp only [ym] at hs
  obtain ⟨vs,hvs,rfl⟩:=hs
  rw [ho]
  show ((Builtin.len_ argTypes o.type (args.map a.eval)) >>= fun x=>pure (Next.value x)).run P w=_
  rw [Z8i h hvs,Sem.run_bind,hrun]
  rfl
 ·rename_i args argTypes ho
  simp only [ym] at hs
  obtain ⟨vs,hvs,rfl⟩:=hs
  rw [ho]
  show ((Builtin.min_ argTypes o.type (args.map a.eval)) >>= fun x=>pure (Next.value x)).run P w=_
  rw [Z8i h hvs,Sem.run_bind,hrun]
  rfl
 ·rename_i args argTypes ho
  simp only [ym] at hs
  obtain ⟨vs,hvs,rfl⟩:=hs
  rw [ho]
  show ((Builtin.max_ argTypes o.type (args.map a.eval)) >>= fun x=>pure (Next.value x)).run P w=_
  rw [Z8i h hvs,Sem.run_bind,hrun]
  rfl
 ·rename_i args argTypes ho
  simp only [ym] at hs
  obtain ⟨vs,hvs,rfl⟩:=hs
  rw [ho]
  show ((Builtin.cap_ argTypes o.type (args.map a.eval)) >>= fun x=>pure (Next.value x)).run P w=_
  rw [Z8i h hvs,Sem.run_bind,hrun]
  rfl
 ·cases hs
section
variable {ρ:Operand→Value} {o:Oper}
def Zj7 (s:Sem Value):Sem Next:=s >>= fun v=>pure (.value v)
theorem Z1g {P:Program} {s:Sem Value} {w w':World} {v:Value} (h:s.run P w=.ok v w'):(Zj7 s).run P w=.ok (.value v) w':=by
 unfold Zj7
 rw [Sem.run_bind,h]
 rfl
theorem exec_extract {x:Operand} {i:Nat} (ho:o.op=.extract x i):execOp ρ o=Zj7 (Instr.extract (ρ x) i):=by unfold execOp; rw [ho]; rfl
theorem exec_load {t:TypeId} {x:Operand} (ho:o.op=.load t x):execOp ρ o=Zj7 (Instr.loadAt t (ρ x)):=by unfold execOp; rw [ho]; rfl
theorem exec_alloc {t:TypeId} (ho:o.op=.alloc t):execOp ρ o=Zj7 (Instr.alloc t true (.tuple #[])):=by unfold execOp; rw [ho]; rfl
theorem exec_box {t:TypeId} {x:Operand} (ho:o.op=.box t x):execOp ρ o=Zj7 (Instr.box t (ρ x)):=by unfold execOp; rw [ho]; rfl
theorem exec_build {t:TypeId} {ps:Array (Nat × Operand)} (ho:o.op=.build t ps):execOp ρ o=Zj7 (Instr.build t (ps.map fun (i,x)=>(i,ρ x))):=by unfold execOp; rw [ho]; rfl
theorem Zfp {t:TypeId} {n:Nat} {ps:Array (Nat × Operand)} (ho:o.op=.buildSlice t n ps):execOp ρ o=Zj7 (Instr.buildSlice t n (ps.map fun (i,x)=>(i,ρ x))):=by unfold execOp; rw [ho]; rfl
theorem exec_binOp {op:BinOp} {t t':TypeId} {x y:Operand} (ho:o.op=.binOp op t x y t'):execOp ρ o=Zj7 (do eqGuard op t x y (ρ x) (ρ y); binOp op t (ρ x) (ρ y)):=by unfold execOp; rw [ho]; rfl
theorem exec_makeSlice {t:TypeId} {x y:Operand} (ho:o.op=.makeSlice t x y):execOp ρ o=Zj7 (Instr.makeSlice t (ρ x) (ρ y)):=by unfold execOp; rw [ho]; rfl
theorem Z9d {t:TypeId} {x:Operand} {lo hi mx:Option Operand} (ho:o.op=.slice t x lo hi mx):execOp ρ o=Zj7 (Instr.sliceAt t (ρ x) (lo.map ρ) (hi.map ρ) (mx.map ρ)):=by unfold execOp; rw [ho]; rfl
theorem exec_fieldAddr {t:TypeId} {x:Operand} {f:Nat} (ho:o.op=.fieldAddr t x f):execOp ρ o=Zj7 (Instr.fieldAt t (ρ x) f):=by unfold execOp; rw [ho]; rfl
theorem exec_field {t:TypeId} {x:Operand} {f:Nat} (ho:o.op=.field t x f):execOp ρ o=Zj7 (Instr.field t (ρ x) f):=by unfold execOp; rw [ho]; rfl
theorem Zcs {t:TypeId} {x y:Operand} (ho:o.op=.indexAddr t x y):execOp ρ o=Zj7 (Instr.indexAt t (ρ x) (ρ y)):=by unfold execOp; rw [ho]; rfl
theorem exec_makeFunc {f:Fn} {xs ys:Array Operand} (ho:o.op=.makeFunc f xs ys):execOp ρ o=Zj7 (Instr.makeFunc f (xs.map ρ) (ys.map ρ)):=by unfold execOp; rw [ho]; rfl
theorem exec_store {t:TypeId} {x y:Operand} (ho:o.op=.store t x y):execOp ρ o=(do Instr.storeAt t (ρ x) (ρ y); pure .skip):=by unfold execOp; rw [ho]
theorem exec_move {x:Operand} (ho:o.op=.move x∨o.op=.assign x):execOp ρ o=pure (.value (ρ x)):=by unfold execOp; rcases ho with e | e <;> rw [e]
theorem Z9b {b:Builtin} {args:Array Operand} {ts:Array TypeId} (ho:o.op=.call { callee:=.builtin b,args:=args,argTypes:=ts }):execOp ρ o=builtin b ts o.type (args.map fun | .const _=>true | _=>false) (args.map ρ):=by unfold execOp; rw [ho]; rfl
end
def OpWp (P:Program) (G:Gh) (o:Oper) (st:St) (y:AV) (st':St):Prop :=
  ∀ (β : Nat → Option Nat) (S : Nat → Prop) (a : Act) (w : World), Sim G β S st a w → ∀ (next : Act → World → Prop) (Q : Exit → Act → World → Prop),
    (∀ β' S' v w',y.Rep w' S' β' v→Sim G β' S' st' a w'→next (a.put o.dst v) w')→o.wp P a w next Q
theorem OpWp.of_value {P:Program} {G:Gh} {o:Oper} {st:St} {y:AV} {st':St}
  (h:∀ β S a w,Sim G β S st a w→∃ β' S' v w',(execOp a.eval o).run P w=.ok (.value v) w'∧y.Rep w' S' β' v∧Sim G β' S' st' a w'):OpWp P G o st y st':=by
 intro β S a w hs next Q k
 obtain ⟨β',S',v,w',hr,hy,hs'⟩:=h β S a w hs
 unfold Oper.wp
 rw [hr]
 exact k β' S' v w' hy hs'
theorem OpWp.of_skip {P:Program} {G:Gh} {o:Oper} {st:St} {st':St}
  (h:∀ β S a w,Sim G β S st a w→∃ β' S' w',(execOp a.eval o).run P w=.ok .skip w'∧Sim G β' S' st' a w'):OpWp P G o st .bad st':=by
 intro β S a w hs next Q k
 obtain ⟨β',S',w',hr,hs'⟩:=h β S a w hs
 unfold Oper.wp
 rw [hr]
 exact k β' S' undef w' trivial hs'
def AC.Le (x y:AC):Prop:=∀ (w:World) (S:Nat→Prop) (β:Nat→Option Nat) (v:Value),x.Rep w S β v→y.Rep w S β v
def A1.Le (x y:A1):Prop:=∀ (w:World) (S:Nat→Prop) (β:Nat→Option Nat) (v:Value),x.Rep w S β v→y.Rep w S β v
def AV.Le (x y:AV):Prop:=∀ (w:World) (S:Nat→Prop) (β:Nat→Option Nat) (v:Value),x.Rep w S β v→y.Rep w S β v
def ACs.Le:List AC→List AC→Prop:=All2 AC.Le
theorem AC.Le.refl (x:AC):AC.Le x x:=fun _ _ _ _ h=>h
theorem AV.Le.refl (x:AV):AV.Le x x:=fun _ _ _ _ h=>h
theorem AV.Le.of_eq {x y:AV} (h:x=y):AV.Le x y:=h ▸ AV.Le.refl x
theorem AC.Le.of_eq {x y:AC} (h:x=y):AC.Le x y:=h ▸ AC.Le.refl x
theorem AC.Le.bad (x:AC):AC.Le x .bad:=fun _ _ _ _ _=>trivial
theorem AV.Le.bad (x:AV):AV.Le x .bad:=fun _ _ _ _ _=>trivial
theorem AC.Le.d {c c':C} (h:C.Le c c'):AC.Le (.d c) (.d c'):=fun w S _ v hv=>h w S v hv
theorem AV.Le.one {x y:AC} (h:AC.Le x y):AV.Le (.v (.one x)) (.v (.one y)):=fun w S β v hv=>h w S β v hv
theorem All2.le {R:AC→Value→Prop} {cs cs':List AC} (h:All2 (fun x y=>∀ v,R x v→R y v) cs cs'):∀ {vs:List Value},All2 R cs vs→All2 R cs' vs:=by
 induction cs generalizing cs' with
 |nil=>intro vs hv; cases cs' with | nil=>exact hv | cons _ _=>exact h.elim
 |cons c cs ih =>
  intro vs hv
  cases cs' with
  |nil=>exact h.elim
  |cons c' cs' =>
   cases vs with
   |nil=>exact hv.elim
   |cons v vs=>exact ⟨h.1 v hv.1,ih h.2 hv.2⟩
theorem AV.Le.agg {cs cs':List AC} (h:ACs.Le cs cs'):AV.Le (.v (.agg cs)) (.v (.agg cs')):=fun w S β v ⟨vs,h1,h2⟩ =>
 ⟨vs,h1,All2.le (All2.imp (fun x y hxy v=>hxy w S β v) h) h2⟩
theorem Zj1.le {w:World} {F:Nat→Prop} {b:Nat}:∀ {cs cs':List C} {off:Nat},All2 C.Le cs cs'→Zj1 w F b cs off→Zj1 w F b cs' off
 |[],[],_,_,_=>by simp only [Zj1]
 |c::cs,c'::cs',off,h,h3=>by
  simp only [Zj1] at h3 ⊢
  obtain ⟨⟨u,hu,hr⟩,ht⟩:=h3
  exact ⟨⟨u,hu,h.1 w F u hr⟩,Zj1.le h.2 ht⟩
 |[],_::_,_,h,_=>h.elim
 |_::_,[],_,h,_=>h.elim
theorem AC.Le.fptr {cs cs':List C} (h:All2 C.Le cs cs'):AC.Le (.fptr cs) (.fptr cs'):=fun w S β v ⟨b,off,h1,h2,h3⟩=>by
 refine ⟨b,off,h1,fun hne=>h2 fun e=>?_, ?_⟩
 ·subst e
  cases cs' with
  |nil=>exact hne rfl
  |cons _ _=>exact h.elim
 ·exact Zj1.le h h3
theorem OpWp.cast {P:Program} {G:Gh} {o:Oper} {st:St} {y y':AV} {st':St} (h:OpWp P G o st y st') (e:AV.Le y y'):OpWp P G o st y' st' :=
 fun β S a w hs next Q k=>h β S a w hs next Q fun β' S' v w' hv hs'=>k β' S' v w' (e _ _ _ _ hv) hs'
theorem op_flat {P:Program} {G:Gh} {o:Oper} {st:St} {y:AV} (h:flatOp P st o=some y):OpWp P G o st y st :=
 OpWp.of_value fun β S a w hs=>let ⟨v,hr,hy⟩:=flatOp_run hs h; ⟨β,S,v,w,hr,hy,hs⟩
theorem op_move {P:Program} {G:Gh} {o:Oper} {st:St} {y:AV} {x:Operand} (ho:o.op=.move x∨o.op=.assign x) (h:Zjd st x=some y):OpWp P G o st y st :=
 OpWp.of_value fun β S a w hs=>⟨β,S,a.eval x,w,by rw [exec_move ho]; rfl,Z0p hs h,hs⟩
theorem op_extract {P:Program} {G:Gh} {o:Oper} {st:St} {l:List A1} {y:A1} {x:Operand} {i:Nat} (ho:o.op=.extract x i) (h:Zjd st x=some (.tup l)) (hi:l[i]? = some y):OpWp P G o st (.v y) st :=
 OpWp.of_value fun β S a w hs=>by
  obtain ⟨vs,hv,hl⟩:=Z0p hs h
  obtain ⟨v,hv',hr⟩:=hl.get i y hi
  refine ⟨β,S,v,w, ?_,hr,hs⟩
  have hv2:vs[i]? = some v:=by rw [← yz]; exact hv'
  rw [exec_extract ho,hv]
  exact Z1g (by simp only [Instr.extract,hv2]; rfl)
def CellsRep (w:World) (S:Nat→Prop) (β:Nat→Option Nat) (b off:Nat) (cs:List AC):Prop :=
 ∀ j c,cs[j]? = some c→∃ u,w.cell? ⟨b,off+j,none⟩=some u∧c.Rep w S β u
theorem CellsRep.of_cells {w:World} {S:Nat→Prop} {β:Nat→Option Nat} {b off:Nat} {cs:List C} (h:Zj1 w S b cs off):CellsRep w S β b off (cs.map .d):=by
 intro j c hj
 simp only [qa,ym] at hj
 obtain ⟨c',hc',rfl⟩:=hj
 exact h.at j c' hc'
theorem CellsRep.drop {w:World} {S:Nat→Prop} {β:Nat→Option Nat} {b off:Nat} {cs:List AC} (h:CellsRep w S β b off cs) (n:Nat):CellsRep w S β b (off+n) (cs.drop n):=by
 intro j c hj
 rw [List.getElem?_drop] at hj
 have:=h (n+j) c hj
 rwa [show off+(n+j)=off+n+j by omega] at this
theorem CellsRep.of_ob {w:World} {S:Nat→Prop} {β:Nat→Option Nat} {b:Nat} {vs:Array Value} {t:TypeId} {cells:List AC} (hh:w.heap[b]? = some (.cells vs t (0,0))) (h:All2 (AC.Rep w S β) cells vs.toList):CellsRep w S β b 0 cells:=by
 intro j c hj
 obtain ⟨u,hu,hr⟩:=h.get j c hj
 refine ⟨u, ?_,hr⟩
 unfold World.cell?
 simp only [hh,xk]
 rw [yz] at hu
 simpa using hu
def cellsAt (st:St):AC→Option (List AC × Prop)
 |.ptr s off=>match Zjf s st.obs with
  |some (.var cells)=>some (cells.drop off,True)
  |_=>none
 |.fptr cs=>some (cs.map .d,True)
 |.ep s sz i off=>match Zjf s st.obs with
  |some (.arr sz' rows _)=>bif sz' == sz then some ((List.range (sz - off)).map fun j=>.d ((rows.getD i []).getD (off+j) .nils),i < rows.length∧off≤sz) else none
  |_=>none
 |_=>none
theorem cellsAt_rep {G:Gh} {β:Nat→Option Nat} {S:Nat→Prop} {st:St} {a:Act} {w:World} (hs:Sim G β S st a w) {x:AC} {cs:List AC} {p:Prop} (h:cellsAt st x=some (cs,p)) (hp:p) {v:Value} (hv:x.Rep w S β v) :
  ∃ b off,v=.pointer (some ⟨b,off,none⟩)∧CellsRep w S β b off cs:=by
 cases x with
 |ptr s off =>
  simp only [cellsAt] at h
  cases hg:Zjf s st.obs with
  |none=>rw [hg] at h; cases h
  |some o =>
   rw [hg] at h
   cases o with
   |arr=>cases h
   |var cells =>
    simp only [yn,yt] at h
    obtain ⟨rfl,rfl⟩:=h
    obtain ⟨b,hb,hv⟩:=hv
    obtain ⟨⟨vs,t,hh,hc⟩,_,_⟩:=hs.ob s _ b (Z22 s _ _ hg) hb
    have:=(CellsRep.of_ob hh hc).drop off
    rw [xk] at this
    exact ⟨b,off,hv,this⟩
 |fptr cs' =>
  simp only [cellsAt,yn,yt] at h
  obtain ⟨rfl,rfl⟩:=h
  obtain ⟨b,off,h1,_,h3⟩:=hv
  exact ⟨b,off,h1,.of_cells h3⟩
 |ep s sz i off =>
  simp only [cellsAt] at h
  cases hg:Zjf s st.obs with
  |none=>rw [hg] at h; cases h
  |some o =>
   rw [hg] at h
   cases o with
   |var=>cases h
   |arr sz' rows more =>
    simp only at h
    by_cases e:sz'=sz
    ·subst e
     simp only [beq_self_eq_true,cond_true,yn,yt] at h
     obtain ⟨rfl,rfl⟩:=h
     obtain ⟨b,hb,hv⟩:=hv
     obtain ⟨⟨vs,t,hh,h0,hr,_,_⟩,_,_⟩:=hs.ob s _ b (Z22 s _ _ hg) hb
     obtain ⟨hi,hoff⟩:=hp
     have hrow:=hr.at i rows[i] (yu hi)
     refine ⟨b,i * sz'+off,hv, ?_⟩
     intro j c hj
     simp only [qa,ym] at hj
     obtain ⟨j',hj',rfl⟩:=hj
     have hjl:j < sz' - off:=by
      rcases ui j (sz' - off) with c | c
      ·exact c
      ·rw [qd (by simpa using c)] at hj'; cases hj'
     rw [yu (by simpa using hjl)] at hj'
     simp only [List.getElem_range,yn] at hj'
     subst hj'
     have hl:off+j < rows[i].length:=by rw [hrow.1]; omega
     have hget:(rows.getD i []).getD (off+j) .nils=rows[i][off+j]:=by
      have e:rows.getD i []=rows[i]:=by rw [xe,yu hi]; rfl
      rw [e,xe,yu hl]
      rfl
     rw [hget]
     have:=hrow.2.at (off+j) rows[i][off+j] (yu hl)
     rwa [xk, ← Nat.add_assoc] at this
    ·have hb:(sz' == sz)=false:=by simpa using e
     rw [hb] at h
     cases h
 |_=>simp [cellsAt] at h
def rowT (P:Program) (t:TypeId):Option Bool:=(P.underlying t).map (·.isRow)
def sizeT (P:Program) (t:TypeId):Option Nat:=(P.info? t).map (·.size)
def takeVar (P:Program) (t:TypeId) (cs:List AC):Option A1 :=
 match rowT P t,sizeT P t with
 |some true,some n=>bif Nat.ble n cs.length then some (.agg (cs.take n)) else none
 |some false,some 1=>(cs[0]?).map .one
 |_,_=>none
theorem run_loadVar_one {P:Program} {w:World} {t:TypeId} {a:Addr} {u:Value} (hr:rowT P t=some false) (hu:w.cell? a=some u):(loadVar t a).run P w=.ok u w:=by
 unfold rowT at hr
 simp only [ym] at hr
 obtain ⟨d,hd,hrow⟩:=hr
 have hagg:(isAgg t).run P w=.ok false w:=by
  unfold isAgg
  rw [Sem.run_bind,run_underlying hd w]
  cases d <;> first | rfl | simp [TypeDesc.isRow] at hrow
 unfold loadVar
 rw [Sem.run_bind,hagg]
 show ((load a).run P w)=_
 rw [run_load,hu]
theorem takeVar_run {P:Program} {w:World} {S:Nat→Prop} {β:Nat→Option Nat} {t:TypeId} {b off:Nat} {cs:List AC} {y:A1} (h:takeVar P t cs=some y) (hc:CellsRep w S β b off cs) :
  ∃ v,(loadVar t ⟨b,off,none⟩).run P w=.ok v w∧y.Rep w S β v:=by
 unfold takeVar at h
 split at h
 ·rename_i n hr hn
  by_cases hle:n≤cs.length
  ·rw [Nat.ble_eq_true_of_le hle] at h
   simp only [cond_true,yn] at h
   subst h
   have hex:∃ vs:List Value,vs.length=n∧w.rangeAt b off vs∧All2 (AC.Rep w S β) (cs.take n) vs:=by
    have:∀ m,m≤cs.length→∃ vs:List Value,vs.length=m∧w.rangeAt b off vs∧All2 (AC.Rep w S β) (cs.take m) vs:=by
     intro m
     induction m with
     |zero=>intro _; exact ⟨[],rfl,fun j v hj=>by simp at hj,by simp [All2]⟩
     |succ m ih =>
      intro hm
      obtain ⟨vs,h1,h2,h3⟩:=ih (by omega)
      obtain ⟨u,hu,hr⟩:=hc m cs[m] (yu (by omega))
      refine ⟨vs++[u],by simp [h1], ?_, ?_⟩
      ·intro j v hj
       by_cases hjm:j < vs.length
       ·rw [qx hjm] at hj; exact h2 j v hj
       ·rw [qg (by omega)] at hj
        have hj0:j=m:=by
         rcases ui (j - vs.length) 1 with c | c
         ·omega
         ·rw [qd (by simpa using c)] at hj; cases hj
        subst hj0
        rw [h1,Nat.sub_self] at hj
        simp at hj
        subst hj
        exact hu
      ·rw [List.take_succ_eq_append_getElem (by omega)]
       exact h3.append (by simp only [All2]; exact ⟨hr,trivial⟩)
    exact this n hle
   obtain ⟨vs,h1,h2,h3⟩:=hex
   unfold rowT at hr
   simp only [ym] at hr
   obtain ⟨d,hd,hrow⟩:=hr
   exact ⟨.agg vs.toArray,run_loadVar_mid w b off t vs d h2 hd hrow (by unfold sizeT at hn; rw [hn,h1]),vs.toArray,rfl,by simpa using h3⟩
  ·rw [show Nat.ble n cs.length=false from by
    cases hb:Nat.ble n cs.length with
    |false=>rfl
    |true=>exact absurd (kr hb) hle] at h
   cases h
 ·rename_i hr hn
  simp only [ym] at h
  obtain ⟨c,h0,rfl⟩:=h
  obtain ⟨u,hu,hrep⟩:=hc 0 c h0
  exact ⟨u,run_loadVar_one hr (by simpa using hu),hrep⟩
 ·cases h
theorem op_load {P:Program} {G:Gh} {o:Oper} {st:St} {t:TypeId} {x:Operand} {p:AC} {cs:List AC} {pr:Prop} {y:A1} (ho:o.op=.load t x) (hx:Zjd st x=some (.v (.one p))) (hc:cellsAt st p=some (cs,pr)) (hp:pr) (hy:takeVar P t cs=some y) :
  OpWp P G o st (.v y) st :=
 OpWp.of_value fun β S a w hs=>by
  obtain ⟨b,off,hv,hcr⟩:=cellsAt_rep hs hc hp (Z0p hs hx)
  obtain ⟨v,hr,hrep⟩:=takeVar_run hy hcr
  refine ⟨β,S,v,w, ?_,hrep,hs⟩
  rw [exec_load ho,hv]
  exact Z1g (by simp only [Instr.loadAt,Instr.sureAddr,Sem.run_bind,Sem.run_pure,Result.andThen_ok,hr])
def A1.cells:A1→List AC
 |.one a=>[a]
 |.agg cs=>cs
def AC.good:AC→Bool
 |.bad=>false
 |_=>true
theorem AC.Rep.one {w:World} {S:Nat→Prop} {β:Nat→Option Nat} {x:AC} {v:Value} (hg:x.good=true) (h:x.Rep w S β v):v.oneCell'=true:=by
 cases x <;> simp only [AC.Rep] at h
 case d c=>have:=C.Rep.one h; cases v <;> first | rfl | simp [oneCell] at this
 case ptr=>obtain ⟨_,_,rfl⟩:=h; rfl
 case ep=>obtain ⟨_,_,rfl⟩:=h; rfl
 case fptr=>obtain ⟨_,_,rfl,_⟩:=h; rfl
 case vw=>rcases h with ⟨_,_,_,_,rfl⟩ | ⟨_,_,_,rfl,_⟩ <;> rfl
 case cap0=>obtain ⟨_,rfl⟩:=h; rfl
 case fn=>obtain ⟨_,rfl,_⟩:=h; rfl
 case bad=>simp [AC.good] at hg
theorem A1.Rep.cells {w:World} {S:Nat→Prop} {β:Nat→Option Nat} {x:A1} {v:Value} (hg:x.cells.all AC.good=true) (h:x.Rep w S β v):All2 (AC.Rep w S β) x.cells v.cells.toList∧∀ u ∈ v.cells.toList,u.oneCell'=true:=by
 have key:∀ {cs:List AC} {vs:List Value},cs.all AC.good=true→All2 (AC.Rep w S β) cs vs→∀ u ∈ vs,u.oneCell'=true:=by
  intro cs
  induction cs with
  |nil=>intro vs _ h u hu; cases vs with | nil=>cases hu | cons _ _=>exact h.elim
  |cons c cs ih =>
   intro vs hg h u hu
   cases vs with
   |nil=>exact h.elim
   |cons v vs =>
    simp only [zm,yx] at hg
    simp only [All2] at h
    rcases List.mem_cons.1 hu with rfl | hu
    ·exact h.1.one hg.1
    ·exact ih hg.2 h.2 u hu
 cases x with
 |one a =>
  simp only [A1.cells,zm,List.all_nil,kw] at hg
  have h1:=AC.Rep.one hg h
  have e:v.cells=#[v]:=by cases v <;> first | rfl | simp [Value.oneCell'] at h1
  rw [e]
  refine ⟨by simp only [A1.cells,All2]; exact ⟨h,trivial⟩,fun u hu=>?_⟩
  simp at hu
  subst hu
  exact h1
 |agg cs =>
  obtain ⟨vs,rfl,h2⟩:=h
  exact ⟨h2,key hg h2⟩
theorem Z5h (b:Nat):∀ (cs:List Value) (o:Nat) (w:World) (vs:Array Value) (t:TypeId),w.heap[b]? = some (.cells vs t (0,0))→∃ vs',(w.setCells b o cs).heap[b]? = some (.cells vs' t (0,0))∧vs'.size=vs.size
 |[],o,w,vs,t,h=>⟨vs,h,rfl⟩
 |c::cs,o,w,vs,t,h=>by
  have h1:(w.setCell ⟨b,o,none⟩ c).heap[b]? = some (.cells (vs.setIfInBounds o c) t (0,0)):=by
   simp only [World.setCell,Array.getElem?_modify, ↓reduceIte,h,qz]
   rfl
  obtain ⟨vs',h2,h3⟩:=Z5h b cs (o+1) _ _ _ h1
  exact ⟨vs',h2,by rw [h3]; simp⟩
theorem Z1z (b:Nat):∀ (cs:List Value) (o:Nat) (w:World) (b':Nat),b' ≠ b→(w.setCells b o cs).heap[b']? = w.heap[b']?
 |[],_,_,_,_=>rfl
 |c::cs,o,w,b',hne=>by
  rw [World.setCells,Z1z b cs (o+1) _ b' hne]
  simp only [World.setCell,Array.getElem?_modify]
  rw [if_neg (by omega)]
theorem Z6t (b:Nat):∀ (cs:List Value) (o:Nat) (w:World),(w.setCells b o cs).heap.size=w.heap.size∧(w.setCells b o cs).os=w.os∧(w.setCells b o cs).tape=w.tape∧(w.setCells b o cs).output=w.output
 |[],_,_=>⟨rfl,rfl,rfl,rfl⟩
 |c::cs,o,w=>by
  obtain ⟨h1,h2,h3,h4⟩:=Z6t b cs (o+1) (w.setCell ⟨b,o,none⟩ c)
  rw [World.setCells]
  exact ⟨by rw [h1,World.size_setCell],h2,h3,h4⟩
theorem Z6c (b:Nat) (cs:List Value) (o:Nat) (w:World) (vs:Array Value) (t:TypeId) (h:w.heap[b]? = some (.cells vs t (0,0))):Zj4 w (w.setCells b o cs):=by
 intro b' x hx
 obtain ⟨vs',h1,h2⟩:=Z5h b cs o w vs t h
 by_cases e:b'=b
 ·subst e
  unfold World.shape? at hx ⊢
  rw [h] at hx
  rw [h1]
  simp only at hx ⊢
  rw [h2]
  exact hx
 ·unfold World.shape? at hx ⊢
  rw [Z1z b cs o w b' e]
  exact hx
theorem Z0w {w:World} {b:Nat} {vs:Array Value} {t:TypeId} (h:w.heap[b]? = some (.cells vs t (0,0))) (i:Nat):w.cell? ⟨b,i,none⟩=vs[i]? := by
 unfold World.cell?
 simp [h]
theorem Z6y {w:World} {b:Nat} {vs:Array Value} {t:TypeId} (h:w.heap[b]? = some (.cells vs t (0,0))) (i:Nat):w.frozen? ⟨b,i,none⟩=false:=by
 unfold World.frozen?
 simp [h]
theorem Za2 {P:Program} {w:World} {b o:Nat} {t:TypeId} {v:Value} {vs:Array Value} {t':TypeId} (h:w.heap[b]? = some (.cells vs t' (0,0))) (hin:o+v.cells.size≤vs.size) (hs:sizeT P t=some v.cells.size) (h1:∀ u ∈ v.cells.toList,u.oneCell'=true) :
  (storeVar t ⟨b,o,none⟩ v).run P w=.ok () (w.setCells b o v.cells.toList):=by
 have:=run_storeCells_cells (P:=P) b o v.cells.toList 0 w
  (fun j hj=>by rw [Z0w h,xq (by simp at hj; omega)]; rfl) (fun j hj=>Z6y h _) h1
 unfold sizeT at hs
 cases hq:P.info? t with
 |none=>simp [hq] at hs
 |some i =>
  have hs':v.cells.size=i.size:=by simp [hq] at hs; omega
  simp only [uf] at this
  simp [storeVar,Go.sizeOf,typeInfo,hq,hs',this]
theorem Zj1.mk {w:World} {F:Nat→Prop} {b:Nat}:∀ {cs:List C} {off:Nat},(∀ j c,cs[j]? = some c→∃ u,w.cell? ⟨b,off+j,none⟩=some u∧C.Rep w F c u)→Zj1 w F b cs off
 |[],_,_=>by simp only [Zj1]
 |c::cs,off,h=>by
  simp only [Zj1]
  refine ⟨by simpa using h 0 c (by simp),Zj1.mk fun j c' hj=>?_⟩
  have:=h (j+1) c' (by simpa using hj)
  rwa [show off+(j+1)=off+1+j by omega] at this
theorem Zj2.mk {w:World} {F:Nat→Prop} {b sz:Nat}:∀ {rs:List (List C)} {off:Nat},(∀ i r,rs[i]? = some r→r.length=sz∧Zj1 w F b r (off+i * sz))→Zj2 w F b sz rs off
 |[],_,_=>by simp only [Zj2]
 |r::rs,off,h=>by
  simp only [Zj2]
  have h0:=h 0 r (by simp)
  refine ⟨h0.1,by simpa using h0.2,Zj2.mk fun i r' hi=>?_⟩
  have:=h (i+1) r' (by simpa using hi)
  rwa [show off+(i+1) * sz=off+sz+i * sz by rw [ug]; omega] at this
def onlyD:List AC→Option (List C)
 |[]=>some []
 |.d c::r=>(onlyD r).map (c::·)
 |_=>none
theorem onlyD_map:∀ {l:List AC} {m:List C},onlyD l=some m→l=m.map .d
 |[],m,h=>by simp [onlyD] at h; subst h; rfl
 |.d c::r,m,h=>by
  simp only [onlyD,ym] at h
  obtain ⟨m',h',rfl⟩:=h
  rw [onlyD_map h']
  rfl
 |.ptr ..::_,_,h | .ep ..::_,_,h | .fptr ..::_,_,h | .vw ..::_,_,h | .cap0::_,_,h | .fn ..::_,_,h | .bad::_,_,h=>by simp [onlyD] at h
def Zjw (row:List C) (off:Nat) (ds:List C) (sz:Nat):List C:=(List.range sz).map fun j=>bif Nat.blt j off then row.getD j .nils else bif Nat.blt j (off+ds.length) then ds.getD (j - off) .nils else row.getD j .nils
def storeTo (st:St) (p:AC) (cs:List AC):Option (List (Nat × Ob) × Prop) :=
 match p with
 |.ptr s off=>match Zjf s st.obs with
  |some (.var cells)=>bif Nat.ble (off+cs.length) cells.length then some (setOb s (.var (cells.take off++cs++cells.drop (off+cs.length))) st.obs,True) else none
  |_=>none
 |.ep s sz i off=>match Zjf s st.obs,onlyD cs with
  |some (.arr sz' rows more),some ds=>bif sz' == sz && Nat.ble (off+ds.length) sz then some (setOb s (.arr sz (rows.set i (Zjw (rows.getD i []) off ds sz)) more) st.obs,i < rows.length) else none
  |_,_=>none
 |_=>none
theorem ble_le {a b:Nat} (h:Nat.ble a b=true):a≤b:=kr h
theorem op_store {P:Program} {G:Gh} {o:Oper} {st:St} {t:TypeId} {x y:Operand} {p:AC} {v:A1} {obs':List (Nat × Ob)} {pr:Prop} (ho:o.op=.store t x y) (hx:Zjd st x=some (.v (.one p))) (hy:Zjd st y=some (.v v))
  (hg:v.cells.all AC.good=true) (hsz:sizeT P t=some v.cells.length) (hst:storeTo st p v.cells=some (obs',pr)) (hp:pr):OpWp P G o st .bad { st with obs:=obs' } :=
 OpWp.of_skip fun β S a w hs=>by
  have hpv':=Z0p hs hx
  have hvv:=Z0p hs hy
  obtain ⟨hcs,hone⟩:=A1.Rep.cells hg hvv
  have hlen:v.cells.length=(a.eval y).cells.size:=by have:=hcs.length; simpa using this
  cases p with
  |ptr s off =>
   simp only [storeTo] at hst
   cases hgo:Zjf s st.obs with
   |none=>rw [hgo] at hst; cases hst
   |some ob =>
    rw [hgo] at hst
    cases ob with
    |arr=>cases hst
    |var cells =>
     simp only at hst
     cases hb:Nat.ble (off+v.cells.length) cells.length with
     |false=>rw [hb] at hst; cases hst
     |true =>
      have hle:=ble_le hb
      rw [hb] at hst
      simp only [cond_true,yn,yt] at hst
      obtain ⟨rfl,rfl⟩:=hst
      have hmem:=Z22 s _ _ hgo
      obtain ⟨β0,hβ0,hpv⟩:=hpv'
      obtain ⟨⟨vs,t',hh,hc⟩,hnS,_⟩:=hs.ob s _ β0 hmem hβ0
      have hcl:=hc.length
      have hpe:a.eval x=.pointer (some ⟨β0,off,none⟩):=hpv
      have hin:off+(a.eval y).cells.size≤vs.size:=by simp at hcl; omega
      have hrun:=Za2 (P:=P) (o:=off) (t:=t) hh hin (by rw [hsz,hlen]) hone
      obtain ⟨vs',hh',hsz'⟩:=Z5h β0 (a.eval y).cells.toList off w vs t' hh
      obtain ⟨k1,k2,k3,k4⟩:=Z6t β0 (a.eval y).cells.toList off w
      have hshm:=Z6c β0 (a.eval y).cells.toList off w vs t' hh
      have hSo:Zj3 S w (w.setCells β0 off (a.eval y).cells.toList):=fun b hb=>Z1z _ _ _ _ _ fun e=>hnS (e ▸ hb)
      refine ⟨β,S,w.setCells β0 off (a.eval y).cells.toList, ?_,hs.write s _ _ hmem hβ0 k1 (fun b hb=>Z1z _ _ _ _ _ hb) hshm ?_ k2 k3 k4⟩
      ·rw [exec_store ho,hpe]
       simp only [Instr.storeAt,Instr.sureAddr,Sem.run_bind,Sem.run_pure,Result.andThen_ok,hrun]
      ·refine ⟨vs',t',hh',All2.mk (by simp at hcl ⊢; omega) fun i c u hci hui=>?_⟩
       rw [yz, ← Z0w hh'] at hui
       have mono:∀ (c:AC) (u:Value),c.Rep w S β u→c.Rep (w.setCells β0 off (a.eval y).cells.toList) S β u:=fun c u hr=>AC.Rep.mono (fun _ hb=>hb) hSo hshm c u (fun _ _=>rfl) hr
       by_cases h1:i < off
       ·rw [World.cell?_setCells_out _ _ _ _ _ (fun _ _=>.inl h1),Z0w hh] at hui
        rw [qb,qx (by simp; omega),List.getElem?_take] at hci
        rw [if_pos h1] at hci
        obtain ⟨u',hu',hr⟩:=hc.get i c hci
        rw [yz,hui] at hu'
        injection hu' with hu'
        subst hu'
        exact mono c u hr
       ·by_cases h2:i < off+v.cells.length
        ·obtain ⟨j,rfl⟩:∃ j,i=off+j:=⟨i - off,by omega⟩
         have hj:j < (a.eval y).cells.toList.length:=by simp; omega
         rw [World.cell?_setCells_in _ _ _ _ (fun m hm=>by rw [Z0w hh,xq (by simp at hm; omega)]; rfl) j hj] at hui
         injection hui with hui
         rw [qb,qg (by simp; omega),qx (by simp; omega)] at hci
         have e:off+j - (List.take off cells).length=j:=by simp; omega
         rw [e] at hci
         obtain ⟨u',hu',hr⟩:=hcs.get j c hci
         rw [yu hj,hui] at hu'
         injection hu' with hu'
         subst hu'
         exact mono c u hr
        ·rw [World.cell?_setCells_out _ _ _ _ _ (fun _ _=>.inr (by simp; omega)),Z0w hh] at hui
         rw [qb,qg (by simp; omega),qg (by simp; omega),List.getElem?_drop] at hci
         have e:off+v.cells.length+(i - (List.take off cells).length - v.cells.length)=i:=by simp; omega
         rw [e] at hci
         obtain ⟨u',hu',hr⟩:=hc.get i c hci
         rw [yz,hui] at hu'
         injection hu' with hu'
         subst hu'
         exact mono c u hr
  |ep s sz i off =>
   simp only [storeTo] at hst
   cases hgo:Zjf s st.obs with
   |none=>rw [hgo] at hst; cases hst
   |some ob =>
    rw [hgo] at hst
    cases hd:onlyD v.cells with
    |none=>rw [hd] at hst; cases ob <;> cases hst
    |some ds =>
     rw [hd] at hst
     cases ob with
     |var=>cases hst
     |arr sz' rows more =>
      simp only at hst
      cases hb:(sz' == sz && Nat.ble (off+ds.length) sz) with
      |false=>rw [hb] at hst; cases hst
      |true =>
       rw [hb] at hst
       simp only [yx,beq_iff_eq] at hb
       obtain ⟨rfl,hb⟩:=hb
       have hle:=ble_le hb
       simp only [cond_true,yn,yt] at hst
       obtain ⟨rfl,rfl⟩:=hst
       have hds:=onlyD_map hd
       have hmem:=Z22 s _ _ hgo
       obtain ⟨β0,hβ0,hpv⟩:=hpv'
       obtain ⟨⟨vs,t',hh,h0,hr,hle1,hmore⟩,hnS,_⟩:=hs.ob s _ β0 hmem hβ0
       have hpe:a.eval x=.pointer (some ⟨β0,i * sz'+off,none⟩):=hpv
       have hdl:ds.length=(a.eval y).cells.size:=by rw [← hlen,hds]; simp
       have hrow:(i+1) * sz'≤rows.length * sz':=ql _ hp
       rw [ug,zo] at hrow
       have hin:i * sz'+off+(a.eval y).cells.size≤vs.size:=by omega
       have hrun:=Za2 (P:=P) (o:=i * sz'+off) (t:=t) hh hin (by rw [hsz,hlen]) hone
       obtain ⟨vs',hh',hsz'⟩:=Z5h β0 (a.eval y).cells.toList (i * sz'+off) w vs t' hh
       obtain ⟨k1,k2,k3,k4⟩:=Z6t β0 (a.eval y).cells.toList (i * sz'+off) w
       have hshm:=Z6c β0 (a.eval y).cells.toList (i * sz'+off) w vs t' hh
       have hSo:Zj3 S w (w.setCells β0 (i * sz'+off) (a.eval y).cells.toList):=fun b hb=>Z1z _ _ _ _ _ fun e=>hnS (e ▸ hb)
       refine ⟨β,S,w.setCells β0 (i * sz'+off) (a.eval y).cells.toList, ?_,hs.write s _ _ hmem hβ0 k1 (fun b hb=>Z1z _ _ _ _ _ hb) hshm ?_ k2 k3 k4⟩
       ·rw [exec_store ho,hpe]
        simp only [Instr.storeAt,Instr.sureAddr,Sem.run_bind,Sem.run_pure,Result.andThen_ok,hrun]
       ·refine ⟨vs',t',hh',h0,Zj2.mk fun i' r' hr'=>?_,by simp; omega,fun hm=>by have:=hmore hm; simp; omega⟩
        have mono:∀ c u,C.Rep w S c u→C.Rep (w.setCells β0 (i * sz'+off) (a.eval y).cells.toList) S c u:=fun c u hr=>C.Rep.mono (fun _ hb=>hb) hSo c u hr
        rw [xk]
        have hin':∀ j,j < ds.length→(w.setCells β0 (i * sz'+off) (a.eval y).cells.toList).cell? ⟨β0,i * sz'+off+j,none⟩=(a.eval y).cells.toList[j]? := by
         intro j hj
         have hj':j < (a.eval y).cells.toList.length:=by simp; omega
         rw [World.cell?_setCells_in _ _ _ _ (fun m hm=>by rw [Z0w hh,xq (by simp at hm; omega)]; rfl) j hj',yu hj']
        by_cases e:i'=i
        ·subst e
         rw [uz hp] at hr'
         injection hr' with hr'
         subst hr'
         have hold:=hr.at i' rows[i'] (yu hp)
         have hget:rows.getD i' []=rows[i']:=by rw [xe,yu hp]; rfl
         refine ⟨by simp [Zjw],Zj1.mk fun j c hj=>?_⟩
         have hjl:j < sz':=by
          rcases ui j sz' with c | c
          ·exact c
          ·rw [qd (by simp [Zjw]; omega)] at hj; cases hj
         unfold Zjw at hj
         rw [qa,List.getElem?_range hjl] at hj
         simp only [qz,yn] at hj
         have hcold:∀ c,c=(rows.getD i' []).getD j .nils→∃ u,w.cell? ⟨β0,i' * sz'+j,none⟩=some u∧C.Rep w S c u:=by
          intro c hc
          rw [hget,xe,yu (by rw [hold.1]; exact hjl)] at hc
          have:=hold.2.at j rows[i'][j] (yu (by rw [hold.1]; exact hjl))
          rw [hc]
          rwa [xk] at this
         by_cases h1:j < off
         ·have b1:Nat.blt j off=true:=by simp [Nat.blt]; omega
          rw [b1] at hj
          simp only [cond_true] at hj
          obtain ⟨u,hu,hru⟩:=hcold c hj.symm
          exact ⟨u,by rw [World.cell?_setCells_out _ _ _ _ _ (fun _ _=>.inl (by simp; omega))]; exact hu,mono c u hru⟩
         ·have b1:Nat.blt j off=false:=by cases hb1:Nat.blt j off with | false=>rfl | true=>exact absurd (by simp [Nat.blt] at hb1; omega) h1
          rw [b1] at hj
          simp only [cond_false] at hj
          by_cases h2:j < off+ds.length
          ·have b2:Nat.blt j (off+ds.length)=true:=by simp [Nat.blt]; omega
           rw [b2] at hj
           simp only [cond_true] at hj
           have hjd:j - off < ds.length:=by omega
           rw [xe,yu hjd,ko] at hj
           have hca:v.cells[j - off]? = some (.d c):=by rw [hds,qa,yu hjd,qz,hj]
           obtain ⟨u,hu,hru⟩:=hcs.get (j - off) _ hca
           refine ⟨u, ?_,mono c u hru⟩
           have:=hin' (j - off) hjd
           rw [show i' * sz'+off+(j - off)=i' * sz'+j by omega] at this
           rw [this]
           exact hu
          ·have b2:Nat.blt j (off+ds.length)=false:=by cases hb1:Nat.blt j (off+ds.length) with | false=>rfl | true=>exact absurd (by simp [Nat.blt] at hb1; omega) h2
           rw [b2] at hj
           simp only [cond_false] at hj
           obtain ⟨u,hu,hru⟩:=hcold c hj.symm
           exact ⟨u,by rw [World.cell?_setCells_out _ _ _ _ _ (fun _ _=>.inr (by simp; omega))]; exact hu,mono c u hru⟩
        ·rw [jo (Ne.symm e)] at hr'
         obtain ⟨q1,q2⟩:=hr.at i' r' hr'
         refine ⟨q1,Zj1.mk fun j c hj=>?_⟩
         have hjl:j < sz':=by rw [← q1]; exact (List.getElem?_eq_some_iff.1 hj).1
         obtain ⟨u,hu,hru⟩:=q2.at j c hj
         rw [xk] at hu
         refine ⟨u, ?_,mono c u hru⟩
         rw [World.cell?_setCells_out _ _ _ _ _ (fun _ _=>?_)]
         ·exact hu
         ·simp only [j4]
          rcases ui i' i with c | c
          ·have:=ql sz' (show i'+1≤i from c)
           rw [ug,zo] at this
           exact .inl (by omega)
          ·have:=ql sz' (show i+1≤i' by omega)
           rw [ug,zo] at this
           exact .inr (by omega)
  |_=>simp [storeTo] at hst
def St.new (st:St) (s:Nat) (o:Ob):St:={ (st.kill s) with obs:=(s,o)::(st.kill s).obs }
theorem All2.kill {w w':World} {S S':Nat→Prop} {β β':Nat→Option Nat} (hS:∀ b,S b→S' b) (hw:Zj3 S w w') (hsh:Zj4 w w') (s:Nat) (hβ:∀ s',s' ≠ s→β' s'=β s') {cs:List AC} {vs:List Value} (h:All2 (AC.Rep w S β) cs vs):All2 (AC.Rep w' S' β') (cs.map (AC.kill s)) vs :=
 All2.map _ (h.imp fun c u hr=>AC.Rep.kill hS hw hsh s hβ c u hr)
theorem op_box {P:Program} {G:Gh} {o:Oper} {st:St} {t:TypeId} {x:Operand} {v:A1} {d:Nat} (ho:o.op=.box t x) (hx:Zjd st x=some (.v v)) (hg:v.cells.all AC.good=true) (hd:d < G.n0) :
  OpWp P G o st (.v (.one (.ptr d 0))) (st.new d (.var (v.cells.map (AC.kill d)))) :=
 OpWp.of_value fun β S a w hs=>by
  obtain ⟨hcs,hone⟩:=A1.Rep.cells hg (Z0p hs hx)
  obtain ⟨β',h1,h2,h3⟩:=hs.alloc d hd (a.eval x).cells t (.var (v.cells.map (AC.kill d))) (fun β' w' hβ hw hsh hh=>⟨_,t,hh,All2.kill (fun _ hb=>hb) hw hsh d hβ hcs⟩)
  refine ⟨β',S,.pointer (some ⟨w.heap.size,0,none⟩),_, ?_,⟨_,h1,rfl⟩,h3⟩
  rw [exec_box ho]
  exact Z1g (by simp [Instr.box,newVar,newRow])
def zeroT (P:Program) (t:TypeId):Option (Array Value):=((P.info? t).bind (·.zero)).map Value.cells
theorem run_zero {P:Program} {t:TypeId} {zs:Array Value} (h:zeroT P t=some zs) (w:World):∃ z,(zeroValue t).run P w=.ok z w∧z.cells=zs:=by
 unfold zeroT at h
 cases hi:P.info? t with
 |none=>rw [hi] at h; simp at h
 |some i =>
  rw [hi] at h
  simp only [vo,ym] at h
  obtain ⟨z,hz,rfl⟩:=h
  exact ⟨z,by simp [zeroValue,typeInfo,hi,hz],rfl⟩
theorem op_alloc {P:Program} {G:Gh} {o:Oper} {st:St} {t:TypeId} {zs:Array Value} {cs:List AC} {d:Nat} (ho:o.op=.alloc t) (hz:zeroT P t=some zs) (hc:Zj6 AC.ofV zs.toList=some cs) (hd:d < G.n0) :
  OpWp P G o st (.v (.one (.ptr d 0))) (st.new d (.var cs)) :=
 OpWp.of_value fun β S a w hs=>by
  obtain ⟨z,hr,rfl⟩:=run_zero hz w
  obtain ⟨β',h1,h2,h3⟩:=hs.alloc d hd z.cells t (.var cs) (fun β' w' hβ hw hsh hh=>⟨_,t,hh,All2.flip_some (fun a b hb=>AC.ofV_rep hb w' S β') (Z34 hc)⟩)
  refine ⟨β',S,.pointer (some ⟨w.heap.size,0,none⟩),_, ?_,⟨_,h1,rfl⟩,h3⟩
  rw [exec_alloc ho]
  exact Z1g (by simp [Instr.alloc,newVar,newRow,hr])
def isPtr:AC→Bool
 |.ptr .. | .ep .. | .fptr _=>true
 |_=>false
theorem isPtr_rep {w:World} {S:Nat→Prop} {β:Nat→Option Nat} {x:AC} {v:Value} (h:isPtr x=true) (hv:x.Rep w S β v):∃ b off,v=.pointer (some ⟨b,off,none⟩):=by
 cases x <;> simp [isPtr] at h
 ·obtain ⟨_,_,hv⟩:=hv; exact ⟨_,_,hv⟩
 ·obtain ⟨_,_,hv⟩:=hv; exact ⟨_,_,hv⟩
 ·obtain ⟨b,off,h1,_⟩:=hv; exact ⟨b,off,h1⟩
theorem op_nilCheck {P:Program} {G:Gh} {o:Oper} {st:St} {x:Operand} {p:AC} (ho:o.op=.nilCheck x) (hx:Zjd st x=some (.v (.one p))) (hp:isPtr p=true):OpWp P G o st (.v (.one p)) st :=
 OpWp.of_value fun β S a w hs=>by
  have hv:=Z0p hs hx
  obtain ⟨b,off,he⟩:=isPtr_rep hp hv
  refine ⟨β,S,a.eval x,w, ?_,hv,hs⟩
  unfold execOp
  rw [ho]
  simp only [he]
  rfl
theorem op_nilCheck_fn {P:Program} {G:Gh} {o:Oper} {st:St} {x:Operand} {f:FuncId} {cs:List Cap} (ho:o.op=.nilCheck x) (hx:Zjd st x=some (.v (.one (.fn f cs)))):OpWp P G o st (.v (.one (.fn f cs))) st :=
 OpWp.of_value fun β S a w hs=>by
  have hv:=Z0p hs hx
  obtain ⟨vs,he,hc⟩:=hv
  refine ⟨β,S,a.eval x,w, ?_,⟨vs,he,hc⟩,hs⟩
  unfold execOp
  rw [ho]
  simp only [he]
  rfl
def fieldT (P:Program) (t:TypeId) (f:Nat):Option Field :=
 match P.underlying t with
 |some (.struct fs)=>fs[f]?
 |_=>none
theorem fieldT_run {P:Program} {t:TypeId} {f:Nat} {fd:Field} (h:fieldT P t f=some fd):∃ fs,P.underlying t=some (.struct fs)∧fs[f]? = some fd:=by
 unfold fieldT at h
 split at h
 ·rename_i fs hu; exact ⟨fs,hu,h⟩
 ·cases h
def ptrAdd (p:AC) (n:Nat):Option AC :=
 match p with
 |.ptr s off=>some (.ptr s (off+n))
 |.ep s sz i off=>some (.ep s sz i (off+n))
 |.fptr cs=>some (.fptr (cs.drop n))
 |_=>none
theorem Zj1.drop {w:World} {F:Nat→Prop} {b:Nat} {cs:List C} {off:Nat} (h:Zj1 w F b cs off) (n:Nat):Zj1 w F b (cs.drop n) (off+n) :=
 Zj1.mk fun j c hj=>by
  rw [List.getElem?_drop] at hj
  have:=h.at (n+j) c hj
  rwa [show off+(n+j)=off+n+j by omega] at this
theorem ptrAdd_rep {w:World} {S:Nat→Prop} {β:Nat→Option Nat} {p q:AC} {n:Nat} {v:Value} (h:ptrAdd p n=some q) (hv:p.Rep w S β v):∃ b off,v=.pointer (some ⟨b,off,none⟩)∧q.Rep w S β (.pointer (some ⟨b,off+n,none⟩)):=by
 cases p <;> simp only [ptrAdd,yn,reduceCtorEq] at h <;> subst h
 ·obtain ⟨b,hb,hv⟩:=hv; exact ⟨_,_,hv,b,hb,rfl⟩
 ·rename_i s sz i off
  obtain ⟨b,hb,hv⟩:=hv
  refine ⟨_,_,hv,b,hb, ?_⟩
  rw [Nat.add_assoc]
 ·rename_i cs
  obtain ⟨b,off,h1,h2,h3⟩:=hv
  exact ⟨b,off,h1,b,off+n,rfl,fun hne=>h2 (fun e=>hne (by rw [e]; simp)),h3.drop n⟩
theorem op_fieldAddr {P:Program} {G:Gh} {o:Oper} {st:St} {t:TypeId} {x:Operand} {f:Nat} {p q:AC} {fd:Field} {n:Nat} (ho:o.op=.fieldAddr t x f) (hx:Zjd st x=some (.v (.one p))) (hf:fieldT P t f=some fd)
  (hsz:sizeT P fd.type=some (n+1)) (hq:ptrAdd p fd.offset=some q):OpWp P G o st (.v (.one q)) st :=
 OpWp.of_value fun β S a w hs=>by
  obtain ⟨fs,hu,hfd⟩:=fieldT_run hf
  obtain ⟨b,off,he,hr⟩:=ptrAdd_rep hq (Z0p hs hx)
  refine ⟨β,S,_,w, ?_,hr,hs⟩
  rw [exec_fieldAddr ho,he]
  refine Z1g ?_
  have hsize:(Go.sizeOf fd.type).run P w=.ok (n+1) w:=by
   unfold sizeT at hsz
   cases hq:P.info? fd.type with
   |none=>simp [hq] at hsz
   |some i=>simp [Go.sizeOf,typeInfo,hq] at hsz ⊢; exact hsz
  unfold Instr.fieldAt
  rw [Sem.run_bind,run_underlying hu w]
  simp only [Result.andThen_ok,hfd,Instr.sureAddr,fieldPlace,Sem.run_bind,Sem.run_pure,hsize]
  rw [if_neg (by omega)]
  simp [Addr.add_mid]
def fieldOf (P:Program) (fd:Field) (cs:List AC):Option A1 :=
 match rowT P fd.type,sizeT P fd.type with
 |some true,some n=>bif Nat.ble (fd.offset+n) cs.length then some (.agg ((cs.drop fd.offset).take n)) else none
 |some false,_=>(cs[fd.offset]?).map .one
 |_,_=>none
theorem Zfm {P:Program} {t:TypeId} {b:Bool} (h:rowT P t=some b) (w:World):(isAgg t).run P w=.ok b w:=by
 unfold rowT at h
 simp only [ym] at h
 obtain ⟨d,hd,hrow⟩:=h
 unfold isAgg
 rw [Sem.run_bind,run_underlying hd w]
 cases d <;> first | (subst hrow; rfl)
theorem Z40 {P:Program} {t:TypeId} {n:Nat} (h:sizeT P t=some n) (w:World):(Go.sizeOf t).run P w=.ok n w:=by
 unfold sizeT at h
 cases hq:P.info? t with
 |none=>simp [hq] at h
 |some i=>simp [Go.sizeOf,typeInfo,hq] at h ⊢; exact h
theorem op_field {P:Program} {G:Gh} {o:Oper} {st:St} {t:TypeId} {x:Operand} {f:Nat} {cs:List AC} {y:A1} {fd:Field} (ho:o.op=.field t x f) (hx:Zjd st x=some (.v (.agg cs))) (hf:fieldT P t f=some fd) (hy:fieldOf P fd cs=some y) :
  OpWp P G o st (.v y) st :=
 OpWp.of_value fun β S a w hs=>by
  obtain ⟨fs,hu,hfd⟩:=fieldT_run hf
  obtain ⟨vs,he,hc⟩:=Z0p hs hx
  rw [exec_field ho,he]
  unfold fieldOf at hy
  split at hy
  ·rename_i n hr hn
   cases hb:Nat.ble (fd.offset+n) cs.length with
   |false=>rw [hb] at hy; cases hy
   |true =>
    rw [hb] at hy
    simp only [cond_true,yn] at hy
    subst hy
    refine ⟨β,S,.agg (vs.extract fd.offset (fd.offset+n)),w,Z1g ?_,⟨_,rfl, ?_⟩,hs⟩
    ·simp only [Instr.field,Sem.run_bind,run_underlying hu w,Result.andThen_ok,hfd,asAgg,Sem.run_pure,part,Zfm hr w,if_true,Z40 hn w]
    ·rw [Array.toList_extract]
     have:=(hc.drop fd.offset).take n
     simpa [List.extract_eq_take_drop] using this
  ·rename_i hr
   simp only [ym] at hy
   obtain ⟨c,h0,rfl⟩:=hy
   obtain ⟨u,hu',hrep⟩:=hc.get _ _ h0
   rw [yz] at hu'
   refine ⟨β,S,u,w,Z1g ?_,hrep,hs⟩
   simp only [Instr.field,Sem.run_bind,run_underlying hu w,Result.andThen_ok,hfd,asAgg,Sem.run_pure,part,Zfm hr w,xh,if_false,hu']
  ·cases hy
def Zjc (P:Program) (t:TypeId):Option (TypeId × Nat) :=
 match P.underlying t with
 |some (.slice e)=>(sizeT P e).map (e, ·)
 |_=>none
theorem Z55 {P:Program} {t:TypeId} {e:TypeId} {n:Nat} (h:Zjc P t=some (e,n)):P.underlying t=some (.slice e)∧sizeT P e=some n:=by
 unfold Zjc at h
 split at h
 ·rename_i e' hu
  simp only [ym,yt] at h
  obtain ⟨m,h1,rfl,rfl⟩:=h
  exact ⟨hu,h1⟩
 ·cases h
def elemAt (x:AC) (i:Int) (n:Nat):Option (AC × Prop) :=
 match x with
 |.vw s sz i0 m=>bif sz == n then some (.ep s sz (i.toNat+i0) 0,0≤i∧i < m) else none
 |.d (.sl sz rows)=>bif sz == n then some (.fptr ((List.range sz).map fun j=>(rows.getD i.toNat []).getD j .nils),0≤i∧i < rows.length) else none
 |_=>none
theorem run_indexAt {P:Program} {t e:TypeId} {n:Nat} (h:Zjc P t=some (e,n)) (b off len cap:Nat) (k:IntKind) (i:Int) (h0:0≤i) (h1:i < len) (w:World) :
  (Instr.indexAt t (.slice (some ⟨b,off,none⟩) len cap) (.int k i)).run P w=.ok (.pointer (some ⟨b,off+i.toNat * n,none⟩)) w:=by
 obtain ⟨hu,hn⟩:=Z55 h
 unfold Instr.indexAt
 simp only [asIntOf,Sem.run_bind,Sem.run_pure,Result.andThen_ok,run_underlying hu w]
 rw [if_pos ⟨h0,h1⟩]
 simp only [Sem.run_bind,Z40 hn w,Result.andThen_ok,Sem.run_pure,Addr.add_mid]
theorem op_indexAddr {P:Program} {G:Gh} {o:Oper} {st:St} {t:TypeId} {x y:Operand} {p q:AC} {k:IntKind} {i:Int} {e:TypeId} {n:Nat} {pr:Prop} (ho:o.op=.indexAddr t x y) (hx:Zjd st x=some (.v (.one p))) (hy:Zjd st y=some (.v (.one (.d (.int k i)))))
  (he:Zjc P t=some (e,n)) (hq:elemAt p i n=some (q,pr)) (hp:pr):OpWp P G o st (.v (.one q)) st :=
 OpWp.of_value fun β S a w hs=>by
  have hyv:a.eval y=.int k i:=by have:=Z0p hs hy; simpa only [AV.Rep,A1.Rep,AC.Rep,C.Rep] using this
  have hxv:=Z0p hs hx
  cases p with
  |vw s sz i0 m =>
   simp only [elemAt] at hq
   cases hb:sz == n with
   |false=>rw [hb] at hq; cases hq
   |true =>
    rw [hb] at hq
    have:sz=n:=by simpa using hb
    subst this
    simp only [cond_true,yn,yt] at hq
    obtain ⟨rfl,rfl⟩:=hq
    rcases hxv with ⟨_,_,hm0,_⟩ | ⟨b,cap,hb0,hv,_⟩
    ·have:=hp.1; have:=hp.2; omega
    refine ⟨β,S,_,w,by rw [Zcs ho,hv,hyv]; exact Z1g (run_indexAt he _ _ _ _ _ _ hp.1 hp.2 w),⟨b,hb0, ?_⟩,hs⟩
    rw [ug,uf,Nat.add_comm]
  |d c =>
   cases c with
   |sl sz rows =>
    simp only [elemAt] at hq
    cases hb:sz == n with
    |false=>rw [hb] at hq; cases hq
    |true =>
     rw [hb] at hq
     have:sz=n:=by simpa using hb
     subst this
     simp only [cond_true,yn,yt] at hq
     obtain ⟨rfl,rfl⟩:=hq
     obtain ⟨hp0,hp1⟩:=hp
     simp only [AV.Rep,A1.Rep,AC.Rep,C.Rep] at hxv
     rcases hxv with ⟨hnil,_⟩ | ⟨b,off,cap,hv,hcap,hF,hr⟩
     ·subst hnil; simp at hp1; omega
     refine ⟨β,S,_,w,by rw [Zcs ho,hv,hyv]; exact Z1g (run_indexAt he _ _ _ _ _ _ hp0 hp1 w), ?_,hs⟩
     have hi:i.toNat < rows.length:=by omega
     obtain ⟨q1,q2⟩:=hr.at i.toNat rows[i.toNat] (yu hi)
     have hget:rows.getD i.toNat []=rows[i.toNat]:=by rw [xe,yu hi]; rfl
     have hlist:((List.range sz).map fun j=>(rows.getD i.toNat []).getD j .nils)=rows[i.toNat]:=by
      rw [hget]
      apply jr
      intro j
      by_cases hj:j < sz
      ·rw [qa,List.getElem?_range hj,qz,xe,yu (by omega)]
       rfl
      ·rw [qd (by simp; omega),qd (by omega)]
     refine ⟨b,_,rfl,fun _=>hF (by intro e; rw [e] at hi; simp at hi), ?_⟩
     rw [hlist]
     exact q2
   |_=>simp [elemAt] at hq
  |_=>simp [elemAt] at hq
def lenA:AC→Option Nat
 |.vw _ _ _ n=>some n
 |.d (.sl _ rows)=>some rows.length
 |.d (.slr _ n _)=>some n
 |.d (.pr _ _ rows)=>some rows.length
 |.cap0=>some 0
 |_=>none
theorem lenA_rep {w:World} {S:Nat→Prop} {β:Nat→Option Nat} {x:AC} {n:Nat} {v:Value} (h:lenA x=some n) (hv:x.Rep w S β v):∃ p cap,v=.slice p n cap:=by
 cases x with
 |vw s sz i m=>simp only [lenA,yn] at h; subst h; rcases hv with ⟨_,_,rfl,_,h1⟩ | ⟨_,cap,_,h1,_⟩ <;> exact ⟨_,_,h1⟩
 |cap0=>simp only [lenA,yn] at h; subst h; obtain ⟨p,h1⟩:=hv; exact ⟨_,0,h1⟩
 |d c =>
  cases c <;> simp only [lenA,yn,reduceCtorEq] at h
  ·subst h
   simp only [AC.Rep,C.Rep] at hv
   rcases hv with ⟨rfl,_,h1⟩ | ⟨b,off,cap,h1,_⟩ <;> exact ⟨_,_,h1⟩
  ·subst h
   simp only [AC.Rep,C.Rep] at hv
   obtain ⟨b,h1,_⟩:=hv
   exact ⟨_,_,h1⟩
  ·subst h
   simp only [AC.Rep,C.Rep] at hv
   rcases hv with ⟨rfl,_,h1⟩ | ⟨b,cap,vs,t,h1,_⟩ <;> exact ⟨_,_,h1⟩
 |_=>simp [lenA] at h
theorem op_len {P:Program} {G:Gh} {o:Oper} {st:St} {t e:TypeId} {x:Operand} {p:AC} {n k:Nat} (ho:o.op=.call { callee:=.builtin .len,args:=#[x],argTypes:=#[t] }) (hx:Zjd st x=some (.v (.one p))) (he:Zjc P t=some (e,k)) (hn:lenA p=some n) :
  OpWp P G o st (.v (.one (.d (.int .i64 n)))) st :=
 OpWp.of_value fun β S a w hs=>by
  obtain ⟨q,cap,hv⟩:=lenA_rep hn (Z0p hs hx)
  obtain ⟨hu,_⟩:=Z55 he
  refine ⟨β,S,.int .i64 n,w, ?_,rfl,hs⟩
  rw [Z9b ho]
  show ((Builtin.len_ #[t] o.type (#[x].map a.eval)) >>= fun v=>pure (Next.value v)).run P w=_
  have:(Builtin.len_ #[t] o.type (#[x].map a.eval)).run P w=.ok (.int .i64 n) w:=by
   simp only [List.map_toArray,qh,uw,hv]
   unfold Builtin.len_
   simp only [List.getElem?_toArray,jg,Sem.run_bind,run_underlying hu w,Result.andThen_ok]
   rfl
  rw [Sem.run_bind,this]
  rfl
def arrT (P:Program) (t:TypeId):Option (Nat × Nat) :=
 match P.underlying t with
 |some (.array len e)=>(sizeT P e).map (len, ·)
 |_=>none
theorem op_indexAddrArr {P:Program} {G:Gh} {o:Oper} {st:St} {t:TypeId} {x y:Operand} {p q:AC} {k:IntKind} {i:Int} {len n:Nat} (ho:o.op=.indexAddr t x y) (hx:Zjd st x=some (.v (.one p))) (hy:Zjd st y=some (.v (.one (.d (.int k i)))))
  (he:arrT P t=some (len,n)) (hq:ptrAdd p (i.toNat * n)=some q) (hp:0≤i∧i < len):OpWp P G o st (.v (.one q)) st :=
 OpWp.of_value fun β S a w hs=>by
  have hyv:a.eval y=.int k i:=by have:=Z0p hs hy; simpa only [AV.Rep,A1.Rep,AC.Rep,C.Rep] using this
  obtain ⟨b,off,hev,hr⟩:=ptrAdd_rep hq (Z0p hs hx)
  unfold arrT at he
  split at he
  ·rename_i len' e hu
   simp only [ym,yt] at he
   obtain ⟨m,hm,rfl,rfl⟩:=he
   refine ⟨β,S,_,w, ?_,hr,hs⟩
   rw [Zcs ho,hev,hyv]
   refine Z1g ?_
   unfold Instr.indexAt
   simp only [asIntOf,Sem.run_bind,Sem.run_pure,Result.andThen_ok,run_underlying hu w,Instr.sureAddr]
   rw [if_pos hp]
   simp only [Sem.run_bind,Z40 hm w,Result.andThen_ok,Sem.run_pure,Addr.add_mid]
  ·cases he
def AllP:List Prop→Prop
 |[]=>True
 |p::ps=>p∧AllP ps
theorem AllP.append {ps qs:List Prop}:AllP (ps++qs) ↔ AllP ps∧AllP qs:=by
 induction ps with
 |nil=>simp [AllP]
 |cons p ps ih=>simp only [uq,AllP,ih,and_assoc]
theorem AllP.mem {ps:List Prop} (h:AllP ps) {p:Prop} (hp:p ∈ ps):p:=by
 induction ps with
 |nil=>cases hp
 |cons q ps ih =>
  simp only [AllP] at h
  rcases List.mem_cons.1 hp with rfl | hp
  ·exact h.1
  ·exact ih h.2 hp
def AC.fz (s sz:Nat) (rows:List (List C)) (x:AC):AC :=
 match x with
 |.vw s' sz' 0 n=>bif s' == s then .d (.sl sz rows) else .vw s' sz' 0 n
 |.vw s' sz' i n=>bif s' == s then .d (.sl sz ((rows.drop i).take n)) else .vw s' sz' i n
 |x=>x.kill s
def AC.fzP (s sz:Nat) (rows:List (List C)) (x:AC):List Prop :=
 match x with
 |.vw s' sz' 0 n=>bif s' == s then [sz'=sz∧n=rows.length] else []
 |.vw s' sz' i n=>bif s' == s then [sz'=sz∧i+n≤rows.length] else []
 |_=>[]
def A1.fz (s sz:Nat) (rows:List (List C)):A1→A1
 |.one a=>.one (a.fz s sz rows)
 |.agg cs=>.agg (cs.map (AC.fz s sz rows))
def A1.fzP (s sz:Nat) (rows:List (List C)):A1→List Prop
 |.one a=>a.fzP s sz rows
 |.agg cs=>cs.flatMap (AC.fzP s sz rows)
def AV.fz (s sz:Nat) (rows:List (List C)):AV→AV
 |.v x=>.v (x.fz s sz rows)
 |.tup l=>.tup (l.map (A1.fz s sz rows))
 |.bad=>.bad
def AV.fzP (s sz:Nat) (rows:List (List C)):AV→List Prop
 |.v x=>x.fzP s sz rows
 |.tup l=>l.flatMap (A1.fzP s sz rows)
 |.bad=>[]
def Ob.fz (s sz:Nat) (rows:List (List C)):Ob→Ob
 |.var cells=>.var (cells.map (AC.fz s sz rows))
 |o=>o
def Ob.fzP (s sz:Nat) (rows:List (List C)):Ob→List Prop
 |.var cells=>cells.flatMap (AC.fzP s sz rows)
 |_=>[]
def fzObs (s sz:Nat) (rows:List (List C)):List (Nat × Ob)→List (Nat × Ob)
 |[]=>[]
 |(s',o)::r=>bif s' == s then fzObs s sz rows r else (s',o.fz s sz rows)::fzObs s sz rows r
def St.fz (s sz:Nat) (rows:List (List C)) (st:St):St:={ fr:=st.fr.map (AV.fz s sz rows),obs:=fzObs s sz rows st.obs }
def St.fzP (s sz:Nat) (rows:List (List C)) (st:St):List Prop:=st.fr.flatMap (AV.fzP s sz rows)++st.obs.flatMap fun o=>o.2.fzP s sz rows
theorem Zdh (s sz:Nat) (rows:List (List C)):∀ (l:List (Nat × Ob)) (s':Nat) (o:Ob),(s',o) ∈ fzObs s sz rows l→∃ o',(s',o') ∈ l∧o=o'.fz s sz rows∧s' ≠ s
 |[],_,_,h=>by simp [fzObs] at h
 |(s1,o1)::r,s',o,h=>by
  unfold fzObs at h
  by_cases e:s1=s
  ·subst e
   simp only [beq_self_eq_true,cond_true] at h
   obtain ⟨o',h1,h2,h3⟩:=Zdh s1 sz rows r s' o h
   exact ⟨o',by simp [h1],h2,h3⟩
  ·have hb:(s1 == s)=false:=by simpa using e
   rw [hb] at h
   simp only [cond_false,xc,yt] at h
   rcases h with ⟨rfl,rfl⟩ | h
   ·exact ⟨o1,by simp,rfl,e⟩
   ·obtain ⟨o',h1,h2,h3⟩:=Zdh s sz rows r s' o h
    exact ⟨o',by simp [h1],h2,h3⟩
section
variable {w:World} {S S':Nat→Prop} {β:Nat→Option Nat} {s sz:Nat} {rows:List (List C)}
theorem AC.Rep.fz (hS:∀ b,S b→S' b) (hb:∀ b,β s=some b→S' b∧Zj2 w S' b sz rows 0) (x:AC) (v:Value) (hp:AllP (x.fzP s sz rows)) (h:x.Rep w S β v):(x.fz s sz rows).Rep w S' β v:=by
 have kill:(x.kill s).Rep w S' β v:=AC.Rep.kill hS (Zj3.refl _ _) (Zj4.refl _) s (fun _ _=>rfl) x v h
 have gen:∀ {s' sz' i n:Nat},s'=s→sz'=sz→i+n≤rows.length→AC.Rep w S β (.vw s' sz' i n) v→AC.Rep w S' β (.d (.sl sz ((rows.drop i).take n))) v:=fun {s' sz' i n} e1 e2 hin h=>by
  subst e1 e2
  show C.Rep w S' (.sl sz' ((rows.drop i).take n)) v
  simp only [C.Rep]
  rcases h with ⟨_,_,rfl,hv⟩ | ⟨b,cap,h0,h1,h2,_⟩
  ·exact .inl ⟨by simp,hv⟩
  have hl:((rows.drop i).take n).length=n:=by simp; omega
  refine .inr ⟨b,i * sz',cap,by rw [hl]; exact h1,by rw [hl]; exact h2,fun _=>(hb b h0).1, ?_⟩
  have:=((hb b h0).2.drop i).take n
  rwa [xk] at this
 unfold AC.fzP at hp
 unfold AC.fz
 split at hp
 ·rename_i s' sz' n
  cases e:s' == s with
  |false=>simp only [cond_false]; exact AC.Rep.mono hS (Zj3.refl _ _) (Zj4.refl _) _ v (fun _ _=>rfl) h
  |true =>
   rw [e] at hp
   have e':s'=s:=by simpa using e
   simp only [cond_true] at hp ⊢
   obtain ⟨⟨e2,hn⟩,_⟩:=hp
   have:=gen e' e2 (by omega) h
   rwa [List.drop_zero,hn,List.take_length] at this
 ·rename_i s' sz' i n hne
  cases e:s' == s with
  |false=>simp only [cond_false]; exact AC.Rep.mono hS (Zj3.refl _ _) (Zj4.refl _) _ v (fun _ _=>rfl) h
  |true =>
   rw [e] at hp
   have e':s'=s:=by simpa using e
   simp only [cond_true] at hp ⊢
   obtain ⟨⟨e2,hn⟩,_⟩:=hp
   exact gen e' e2 hn h
 ·exact kill
theorem A1.Rep.fz (hS:∀ b,S b→S' b) (hb:∀ b,β s=some b→S' b∧Zj2 w S' b sz rows 0) (x:A1) (v:Value) (hp:AllP (x.fzP s sz rows)) (h:x.Rep w S β v):(x.fz s sz rows).Rep w S' β v:=by
 cases x with
 |one a=>exact AC.Rep.fz hS hb a v hp h
 |agg cs =>
  obtain ⟨vs,h1,h2⟩:=h
  refine ⟨vs,h1,All2.map _ (h2.mono_names (nm:=AC.names) fun c u hc hr'=>AC.Rep.fz hS hb c u ?_ hr')⟩
  have:∀ p ∈ c.fzP s sz rows,p:=fun p hpm=>hp.mem (List.mem_flatMap.2 ⟨c,hc,hpm⟩)
  revert this
  generalize c.fzP s sz rows=l
  intro this
  induction l with
  |nil=>trivial
  |cons q l ih=>exact ⟨this q (by simp),ih fun p hp=>this p (by simp [hp])⟩
theorem AllP.of_mem {l:List Prop} (h:∀ p ∈ l,p):AllP l:=by
 induction l with
 |nil=>trivial
 |cons q l ih=>exact ⟨h q (by simp),ih fun p hp=>h p (by simp [hp])⟩
theorem AV.Rep.fz (hS:∀ b,S b→S' b) (hb:∀ b,β s=some b→S' b∧Zj2 w S' b sz rows 0) (x:AV) (v:Value) (hp:AllP (x.fzP s sz rows)) (h:x.Rep w S β v):(x.fz s sz rows).Rep w S' β v:=by
 cases x with
 |v y=>exact A1.Rep.fz hS hb y v hp h
 |tup l =>
  obtain ⟨vs,h1,h2⟩:=h
  exact ⟨vs,h1,All2.map _ (h2.mono_names (nm:=A1.names) fun c u hc hr'=>A1.Rep.fz hS hb c u (AllP.of_mem fun p hpm=>hp.mem (List.mem_flatMap.2 ⟨c,hc,hpm⟩)) hr')⟩
 |bad=>trivial
end
theorem Ob.empty_fz (s sz:Nat) (rows:List (List C)) (o:Ob):(o.fz s sz rows).empty ↔ o.empty:=by cases o <;> exact Iff.rfl
theorem Sim.fz {G:Gh} {β:Nat→Option Nat} {S:Nat→Prop} {st:St} {a:Act} {w:World} (h:Sim G β S st a w) (s sz:Nat) (rows:List (List C)) (more:Bool) (hm:(s,.arr sz rows more) ∈ st.obs) (hp:AllP (st.fzP s sz rows)) :
  Sim G β (fun b=>S b∨β s=some b) (st.fz s sz rows) a w:=by
 have k:=h.freeze s _ hm
 have hS:∀ b,S b→(S b∨β s=some b):=fun b hb=>.inl hb
 have hb:∀ b,β s=some b→(S b∨β s=some b)∧Zj2 w (fun b=>S b∨β s=some b) b sz rows 0:=fun b hb=>by
  obtain ⟨⟨vs,t,hh,h0,hr,_,_⟩,_,_⟩:=h.ob s _ b hm hb
  exact ⟨.inr hb,Zj2.mk fun i r hi=>by
   obtain ⟨q1,q2⟩:=hr.at i r hi
   exact ⟨q1,Zj1.mk fun j c hj=>let ⟨u,hu,hc⟩:=q2.at j c hj; ⟨u,hu,C.Rep.mono hS (Zj3.refl _ _) c u hc⟩⟩⟩
 unfold St.fzP at hp
 rw [AllP.append] at hp
 refine ⟨h.defers, ?_, ?_, ?_, ?_,k.lt,k.s0,k.size,k.old,k.os,k.tape,k.output,k.par,k.src,k.sh⟩
 ·exact All2.map _ (h.fr.mono_names (nm:=AV.names) fun c u hc hr1=>AV.Rep.fz hS hb c u (AllP.of_mem fun p hpm=>hp.1.mem (List.mem_flatMap.2 ⟨c,hc,hpm⟩)) hr1)
 ·intro s' o b' ho hb'
  obtain ⟨o',h1,rfl,h3⟩:=Zdh s sz rows st.obs s' o ho
  obtain ⟨g1,g2,g3⟩:=h.ob s' o' b' h1 hb'
  refine ⟨?_, ?_,g3⟩
  ·cases o' with
   |var cells =>
    obtain ⟨vs,t,k1,k2⟩:=g1
    refine ⟨vs,t,k1,All2.map _ (k2.mono_names (nm:=AC.names) fun c u hc hr1=>AC.Rep.fz hS hb c u (AllP.of_mem fun p hpm=>hp.2.mem (List.mem_flatMap.2 ⟨_,h1, ?_⟩)) hr1)⟩
    exact List.mem_flatMap.2 ⟨c,hc,hpm⟩
   |arr sz1 rows1 more1=>exact Ob.Rep.kill (β':=β) hS (Zj3.refl _ _) (Zj4.refl _) s (fun _ _=>rfl) b' rfl (.arr sz1 rows1 more1) g1
  ·rintro (hs | he)
   ·exact g2 hs
   ·exact h3 (h.inj s' o' s _ b' h1 hm hb' he)
 ·intro s' o ho hb'
  obtain ⟨o',h1,rfl,h3⟩:=Zdh s sz rows st.obs s' o ho
  exact (Ob.empty_fz s sz rows o').2 (h.out s' o' h1 hb')
 ·intro s1 o1 s2 o2 b' m1 m2 e1 e2
  obtain ⟨p1,a1,_,_⟩:=Zdh s sz rows st.obs s1 o1 m1
  obtain ⟨p2,a2,_,_⟩:=Zdh s sz rows st.obs s2 o2 m2
  exact h.inj s1 p1 s2 p2 b' a1 a2 e1 e2
def fillA (place:Nat→Option (Nat × Nat)) (cells:List AC):List (Nat × List AC)→Option (List AC)
 |[]=>some cells
 |(i,v)::rest =>
  match place i with
  |none=>none
  |some (off,size)=>bif v.length == size && Nat.ble (off+v.length) cells.length then fillA place (v.zipIdx.foldl (fun cs (c,j)=>cs.set (off+j) c) cells) rest else none
theorem All2.foldl_set {R:AC→Value→Prop} (off:Nat):∀ {v:List AC} {u:List Value} (k:Nat) {cells:List AC} {cs:Array Value},All2 R v u→All2 R cells cs.toList →
  All2 R ((v.zipIdx k).foldl (fun cs (c,j)=>cs.set (off+j) c) cells) ((u.zipIdx k).foldl (fun (cs:Array Value) (c,j)=>cs.setIfInBounds (off+j) c) cs).toList
 |[],[],_,_,_,_,h=>by simpa using h
 |c::v,x::u,k,cells,cs,h,h'=>by
  simp only [All2] at h
  simp only [List.zipIdx_cons,List.foldl_cons]
  refine All2.foldl_set off (k+1) h.2 ?_
  rw [Array.toList_setIfInBounds]
  exact h'.set _ h.1
 |[],_::_,_,_,_,h,_=>h.elim
 |_::_,[],_,_,_,h,_=>h.elim
theorem fillA_run {R:AC→Value→Prop} {place:Nat→Option (Nat × Nat)}:∀ {parts:List (Nat × List AC)} {vs:List (Nat × Value)} {cells:List AC} {cs:Array Value} {out:List AC},
  All2 (fun p q=>p.1=q.1∧All2 R p.2 q.2.cells.toList) parts vs→All2 R cells cs.toList→fillA place cells parts=some out→∃ out',Instr.fill place cs vs=some out'∧All2 R out out'.toList
 |[],[],cells,cs,out,_,h,ho=>by simp only [fillA,yn] at ho; subst ho; exact ⟨cs,rfl,h⟩
 |(i,v)::parts,(i',u)::vs,cells,cs,out,hp,h,ho=>by
  simp only [All2] at hp
  obtain ⟨⟨rfl,hv⟩,hp⟩:=hp
  simp only [fillA] at ho
  simp only [Instr.fill]
  cases hpl:place i with
  |none=>rw [hpl] at ho; cases ho
  |some q =>
   obtain ⟨off,size⟩:=q
   rw [hpl] at ho
   simp only at ho
   cases hb:(v.length == size && Nat.ble (off+v.length) cells.length) with
   |false=>rw [hb] at ho; cases ho
   |true =>
    rw [hb] at ho
    simp only [yx,beq_iff_eq] at hb
    obtain ⟨rfl,hb⟩:=hb
    have hle:=kr hb
    have h1:=hv.length
    have h2:=h.length
    simp only [j4] at h1 h2
    have hc:¬ (u.cells.size ≠ v.length∨off+u.cells.size > cs.size):=by omega
    have hcb:(decide (u.cells.size ≠ v.length) || decide (off+u.cells.size > cs.size))=false:=by simpa using hc
    simp only [cond_true] at ho
    have key:=All2.foldl_set off 0 hv h
    obtain ⟨out',e1,e2⟩:=fillA_run hp (cs:=(u.cells.toList.zipIdx 0).foldl (fun (cs:Array Value) (c,j)=>cs.setIfInBounds (off+j) c) cs) key ho
    refine ⟨out', ?_,e2⟩
    rw [← e1]
    have hz:(Array.foldl (fun cs (x:Value × Nat)=>match x with | (c,j)=>cs.setIfInBounds (off+j) c) cs u.cells.zipIdx)=(u.cells.toList.zipIdx 0).foldl (fun (cs:Array Value) (c,j)=>cs.setIfInBounds (off+j) c) cs:=by
     rw [← Array.foldl_toList]
     simp
    simp only
    rw [if_neg (by simpa using hc)]
    congr 1
 |[],_::_,_,_,_,h,_,_=>h.elim
 |_::_,[],_,_,_,h,_,_=>h.elim
def partA (st:St) (p:Nat × Operand):Option (Nat × List AC) :=
 match Zjd st p.2 with
 |some (.v y)=>bif y.cells.all AC.good then some (p.1,y.cells) else none
 |_=>none
theorem partA_rep {G:Gh} {β:Nat→Option Nat} {S:Nat→Prop} {st:St} {a:Act} {w:World} (h:Sim G β S st a w) {p:Nat × Operand} {q:Nat × List AC} (hp:partA st p=some q):q.1=p.1∧All2 (AC.Rep w S β) q.2 (a.eval p.2).cells.toList∧∀ u ∈ (a.eval p.2).cells.toList,u.oneCell'=true:=by
 unfold partA at hp
 split at hp
 ·rename_i y hy
  cases hg:y.cells.all AC.good with
  |false=>rw [hg] at hp; cases hp
  |true =>
   rw [hg] at hp
   simp only [cond_true,yn] at hp
   subst hp
   exact ⟨rfl,A1.Rep.cells hg (Z0p h hy)⟩
 ·cases hp
theorem parts_rep {G:Gh} {β:Nat→Option Nat} {S:Nat→Prop} {st:St} {a:Act} {w:World} (h:Sim G β S st a w) {ps:Array (Nat × Operand)} {qs:List (Nat × List AC)} (hp:Zj6 (partA st) ps.toList=some qs) :
  All2 (fun p (q:Nat × Value)=>p.1=q.1∧All2 (AC.Rep w S β) p.2 q.2.cells.toList) qs (ps.map fun (i,x)=>(i,a.eval x)).toList:=by
 have:=Z34 hp
 rw [Array.toList_map]
 have key:∀ {l:List (Nat × Operand)} {m:List (Nat × List AC)},All2 (fun p q=>partA st p=some q) l m→All2 (fun p (q:Nat × Value)=>p.1=q.1∧All2 (AC.Rep w S β) p.2 q.2.cells.toList) m (l.map fun (i,x)=>(i,a.eval x)):=by
  intro l
  induction l with
  |nil=>intro m hm; cases m with | nil=>simp [All2] | cons _ _=>exact hm.elim
  |cons p l ih =>
   intro m hm
   cases m with
   |nil=>exact hm.elim
   |cons q m =>
    simp only [All2,qh] at hm ⊢
    obtain ⟨k1,k2,_⟩:=partA_rep h hm.1
    exact ⟨⟨k1,k2⟩,ih hm.2⟩
 exact key this
def placesT (P:Program) (t:TypeId):Option (Nat→Option (Nat × Nat)) :=
 match P.underlying t with
 |some (.struct fields)=>(fields.toList.mapM fun f=>(P.info? f.type).map fun i=>(f.offset,i.size)).map fun l i=>l[i]?
 |some (.array _ e)=>(P.info? e).map fun ie i=>some (i * ie.size,ie.size)
 |_=>none
def buildA (P:Program) (st:St) (t:TypeId) (ps:Array (Nat × Operand)):Option (List AC) :=
 match zeroT P t,placesT P t,Zj6 (partA st) ps.toList with
 |some zs,some places,some qs=>(Zj6 AC.ofV zs.toList).bind fun cs=>fillA places cs qs
 |_,_,_=>none
theorem op_build {P:Program} {G:Gh} {o:Oper} {st:St} {t:TypeId} {ps:Array (Nat × Operand)} {cs:List AC} (ho:o.op=.build t ps) (hb:buildA P st t ps=some cs):OpWp P G o st (.v (.agg cs)) st :=
 OpWp.of_value fun β S a w hs=>by
  unfold buildA at hb
  split at hb
  ·rename_i zs places qs hz hpl hqs
   simp only [yo] at hb
   obtain ⟨cs0,hcs0,hf⟩:=hb
   have hparts:=parts_rep hs hqs
   obtain ⟨out,e1,e2⟩:=fillA_run hparts (All2.flip_some (fun a b hb=>AC.ofV_rep hb w S β) (Z34 hcs0)) hf
   refine ⟨β,S,.agg out,w, ?_,⟨out,rfl,e2⟩,hs⟩
   rw [exec_build ho]
   refine Z1g (run_build w t _ out ?_)
   unfold zeroT at hz
   unfold placesT at hpl
   unfold Program.built
   cases hi:P.info? t with
   |none=>rw [hi] at hz; simp at hz
   |some it =>
    rw [hi] at hz
    simp only [vo,ym] at hz
    obtain ⟨z,hz,rfl⟩:=hz
    cases hu:P.underlying t with
    |none=>rw [hu] at hpl; simp at hpl
    |some d =>
     rw [hu] at hpl
     cases d <;> simp only [reduceCtorEq] at hpl
     ·rename_i len e
      simp only [ym] at hpl
      obtain ⟨ie,hie,rfl⟩:=hpl
      simp only [hz,hie]
      exact e1
     ·rename_i fields
      simp only [ym] at hpl
      obtain ⟨l,hl,rfl⟩:=hpl
      simp only [hz,hl]
      have:(fun (i:Nat)=>l.toArray[i]?)=(fun (i:Nat)=>l[i]?):=by funext i; simp
      rw [this]
      exact e1
  ·cases hb
def chunk (sz:Nat):Nat→List C→List (List C)
 |0,_=>[]
 |n+1,cs=>cs.take sz::chunk sz n (cs.drop sz)
theorem Zf2 (sz:Nat):∀ (n:Nat) (cs:List C),(chunk sz n cs).length=n
 |0,_=>rfl
 |n+1,cs=>by simp [chunk,Zf2 sz n]
theorem chunk_rep {w:World} {S:Nat→Prop} {b sz:Nat}:∀ (n:Nat) (cs:List C) (off:Nat),cs.length=n * sz→Zj1 w S b cs off→Zj2 w S b sz (chunk sz n cs) off
 |0,_,_,_,_=>by simp only [chunk,Zj2]
 |n+1,cs,off,hl,h=>by
  rw [ug,zo] at hl
  simp only [chunk,Zj2]
  refine ⟨by simp; omega,Zj1.mk fun j c hj=>?_,chunk_rep n (cs.drop sz) (off+sz) (by simp; omega) (h.drop sz)⟩
  rw [List.getElem?_take] at hj
  split at hj
  ·exact h.at j c hj
  ·cases hj
def buildSliceA (P:Program) (st:St) (t:TypeId) (n:Nat) (ps:Array (Nat × Operand)):Option (Nat × List (List C)) :=
 match Zjc P t with
 |some (e,sz)=>match zeroT P e,Zj6 (partA st) ps.toList with
  |some zs,some qs =>
   bif Nat.blt 0 (n * sz) && Nat.ble (n * sz) 16777216 then
    (Zj6 AC.ofV ((List.range (n * sz)).map fun j=>zs[j % zs.size]!)).bind fun cs=>(fillA (fun i=>some (i * sz,sz)) cs qs).bind fun out=>(onlyD out).bind fun ds=>bif ds.length == n * sz then some (sz,chunk sz n ds) else none
   else bif n == 0 && Nat.blt 0 sz && ps.size == 0 then some (sz,[]) else none
  |_,_=>none
 |none=>none
theorem run_buildSlice0 {P:Program} (w:World) (t e:TypeId) (sz:Nat) (hu:P.underlying t=some (.slice e)) (hsz:sizeT P e=some sz) :
  (Instr.buildSlice t 0 #[]).run P w=.ok (.slice (some ⟨w.heap.size,0,none⟩) 0 0) (w.alloc (.cells #[] e)):=by
 unfold sizeT at hsz
 cases hi:P.info? e with
 |none=>rw [hi] at hsz; cases hsz
 |some ie=>simp [Instr.buildSlice,run_underlying hu,Go.sizeOf,typeInfo,hi,newRow,Instr.fill,show Array.range 0=#[] from rfl]
theorem op_buildSlice {P:Program} {G:Gh} {o:Oper} {st:St} {t:TypeId} {n d:Nat} {ps:Array (Nat × Operand)} {sz:Nat} {rows:List (List C)} {m:Bool} (ho:o.op=.buildSlice t n ps) (hb:buildSliceA P st t n ps=some (sz,rows)) (hd:d < G.n0) :
  OpWp P G o st (.v (.one (.vw d sz 0 n))) (st.new d (.arr sz rows m)) :=
 OpWp.of_value fun β S a w hs=>by
  unfold buildSliceA at hb
  split at hb
  ·rename_i e sz' he
   split at hb
   ·rename_i zs qs hz hqs
    cases hc:(Nat.blt 0 (n * sz') && Nat.ble (n * sz') 16777216) with
    |false =>
     rw [hc] at hb
     simp only [cond_false] at hb
     cases hc0:(n == 0 && Nat.blt 0 sz' && ps.size == 0) with
     |false=>rw [hc0] at hb; cases hb
     |true =>
      rw [hc0] at hb
      simp only [cond_true,yn,yt] at hb
      obtain ⟨rfl,rfl⟩:=hb
      simp only [yx,beq_iff_eq] at hc0
      obtain ⟨⟨rfl,hpos⟩,hps⟩:=hc0
      have hszpos:0 < sz':=by have:=hpos; simp [Nat.blt] at this; omega
      obtain ⟨hu,hsz⟩:=Z55 he
      have hpe:(ps.map fun (i,x)=>(i,a.eval x))=#[]:=by
       have:ps=#[]:=Array.eq_empty_of_size_eq_zero hps
       subst this; simp
      have hrun:=run_buildSlice0 (P:=P) w t e sz' hu hsz
      obtain ⟨β',h1,h2,h3⟩:=hs.alloc d hd #[] e (.arr sz' [] m) (fun β' w' hβ hw hsh hh =>
       ⟨#[],e,hh,hszpos,by simp only [Zj2],by simp,fun _=>by simp⟩)
      refine ⟨β',S,.slice (some ⟨w.heap.size,0,none⟩) 0 0,_,by rw [Zfp ho,hpe]; exact Z1g hrun,.inr ⟨w.heap.size,0,h1, ?_,xw _,e, ?_⟩,h3⟩
      ·rw [vz]
      ·have hnew:(w.alloc (.cells #[] e)).heap[w.heap.size]? = some (.cells #[] e (0,0)):=by
        show (w.heap.push _)[w.heap.size]? = _
        rw [uj,if_pos rfl]
       unfold World.shape?
       rw [hnew]
       simp
    |true =>
     rw [hc] at hb
     simp only [cond_true,yo] at hb
     obtain ⟨cs0,hcs0,out,hf,ds,hds,hb⟩:=hb
     cases hlen:ds.length == n * sz' with
     |false=>rw [hlen] at hb; cases hb
     |true =>
      rw [hlen] at hb
      have hlen':ds.length=n * sz':=by simpa using hlen
      simp only [cond_true,yn,yt] at hb
      obtain ⟨rfl,rfl⟩:=hb
      simp only [yx] at hc
      have hpos:0 < n * sz':=by have:=hc.1; simp [Nat.blt] at this; omega
      have hsmall:=kr hc.2
      obtain ⟨hu,hsz⟩:=Z55 he
      have hparts:=parts_rep hs hqs
      have hz0:All2 (AC.Rep w S β) cs0 ((Array.range (n * sz')).map (fun j=>zs[j % zs.size]!)).toList:=by
       rw [Array.toList_map,Array.toList_range]
       exact All2.flip_some (fun a b hb=>AC.ofV_rep hb w S β) (Z34 hcs0)
      obtain ⟨out',e1,e2⟩:=fillA_run hparts hz0 hf
      unfold zeroT at hz
      cases hi:P.info? e with
      |none=>rw [hi] at hz; simp at hz
      |some ie =>
       rw [hi] at hz
       simp only [vo,ym] at hz
       obtain ⟨z,hz,rfl⟩:=hz
       have hie:ie.size=sz':=by unfold sizeT at hsz; rw [hi] at hsz; simpa using hsz
       have hrun:=run_buildSlice (P:=P) w t e n (ps.map fun (i,x)=>(i,a.eval x)) out' ie z hu hi hz (by rw [hie]; omega) (by rw [hie]; omega) (by rw [hie]; exact e1)
       have hout:=onlyD_map hds
       have hszpos:0 < sz':=Nat.pos_of_ne_zero fun e=>by rw [e] at hpos; simp at hpos
       have hol:out'.size=n * sz':=by have:=e2.length; rw [hout] at this; simp at this; omega
       obtain ⟨β',h1,h2,h3⟩:=hs.alloc d hd out' e (.arr sz' (chunk sz' n ds) m) (fun β' w' hβ hw hsh hh=>by
        refine ⟨out',e,hh,hszpos,chunk_rep n ds 0 hlen' (Zj1.mk fun j c hj=>?_),by rw [Zf2]; omega,fun _=>by rw [Zf2]; exact hol⟩
        have hca:out[j]? = some (.d c):=by rw [hout,qa,hj]; rfl
        obtain ⟨u,hu',hr⟩:=e2.get j _ hca
        refine ⟨u, ?_,C.Rep.mono (fun _ hb=>hb) hw c u hr⟩
        rw [Z0w hh,xk, ← yz]
        exact hu')
       refine ⟨β',S,.slice (some ⟨w.heap.size,0,none⟩) n n,_,by rw [Zfp ho]; exact Z1g hrun,.inr ⟨w.heap.size,n,h1, ?_,xw _,e, ?_⟩,h3⟩
       ·rw [vz]
       ·have hnew:(w.alloc (.cells out' e)).heap[w.heap.size]? = some (.cells out' e (0,0)):=by
         show (w.heap.push _)[w.heap.size]? = _
         rw [uj,if_pos rfl]
        unfold World.shape?
        rw [hnew,xk]
        simp only
        rw [hol]
   ·cases hb
  ·cases hb
def capA (st:St) (x:Operand):Option Cap :=
 match Zjd st x with
 |some (.v (.one (.d c)))=>some (.d c)
 |some (.v (.one (.ptr s off)))=>some (.ptr s off)
 |_=>none
theorem op_makeFunc {P:Program} {G:Gh} {o:Oper} {st:St} {f:FuncId} {ys:Array Operand} {cs:List Cap} (ho:o.op=.makeFunc (.func f) #[] ys) (hc:Zj6 (capA st) ys.toList=some cs):OpWp P G o st (.v (.one (.fn f cs))) st :=
 OpWp.of_value fun β S a w hs=>by
  refine ⟨β,S,.func (.func f) #[] (ys.map a.eval),w,by rw [exec_makeFunc ho]; exact Z1g (by simp [Instr.makeFunc]),⟨_,rfl, ?_⟩,hs⟩
  rw [Array.toList_map]
  have:=Z34 hc
  have key:∀ {l:List Operand} {m:List Cap},All2 (fun x c=>capA st x=some c) l m→All2 (Cap.Rep w S β) m (l.map a.eval):=by
   intro l
   induction l with
   |nil=>intro m hm; cases m with | nil=>simp [All2] | cons _ _=>exact hm.elim
   |cons x l ih =>
    intro m hm
    cases m with
    |nil=>exact hm.elim
    |cons c m =>
     simp only [All2,qh] at hm ⊢
     refine ⟨?_,ih hm.2⟩
     have hx:=hm.1
     unfold capA at hx
     split at hx
     ·rename_i c' hy; injection hx with hx; subst hx; exact Z0p hs hy
     ·rename_i s off hy; injection hx with hx; subst hx; exact Z0p hs hy
     ·cases hx
  exact key this
theorem Zi3 {P:Program} {t:TypeId} {d:TypeDesc} (hu:P.underlying t=some d) (u v:Value) (w:World) (b:Bool)
  (h:(match d,u,v with
   |.pointer _,.pointer (some _),.pointer none=>some false
   |.slice _,.slice (some _) _ _,.slice none _ _=>some false
   |.func _ _ _,.func _ _ _,.nilFunc=>some false
   |_,_,_=>none)=some b):(Op.equal t u v).run P w=.ok b w:=by
 show (Op.equalIn (9999+1) t u v).run P w=_
 rw [Op.equalIn,Sem.run_bind,run_underlying hu w,Result.andThen_ok]
 split at h
 ·injection h with h; subst h; rfl
 ·injection h with h; subst h; rfl
 ·injection h with h; subst h; rfl
 ·cases h
theorem run_nilcmp {P:Program} {op:BinOp} {t:TypeId} {x y:Operand} {u v:Value} {w:World} {b r:Bool} (he:(Op.equal t u v).run P w=.ok b w) (hop:(op=.eql∧r=b)∨(op=.neq∧r=!b))
  (hs:(∃ a a',u=.pointer a∧v=.pointer a')∨(∃ a n c a' n' c',u=.slice a n c∧v=.slice a' n' c')∨(∃ f g k,u=.func f g k∧v=.nilFunc)) :
  (do eqGuard op t x y u v; binOp op t u v:Sem Value).run P w=.ok (.bool r) w:=by
 have h1:∀ k,(k=.eql∨k=.neq)→(eqGuard k t x y u v).run P w=.ok () w:=by
  rintro k (rfl | rfl) <;> rcases hs with ⟨a,a',rfl,rfl⟩ | ⟨a,n,c,a',n',c',rfl,rfl⟩ | ⟨f,g,k,rfl,rfl⟩ <;> rfl
 have h2:binOp .eql t u v=(do pure (.bool (← Op.equal t u v))):=by
  rcases hs with ⟨a,a',rfl,rfl⟩ | ⟨a,n,c,a',n',c',rfl,rfl⟩ | ⟨f,g,k,rfl,rfl⟩ <;> rfl
 have h3:binOp .neq t u v=(do pure (.bool (!(← Op.equal t u v)))):=by
  rcases hs with ⟨a,a',rfl,rfl⟩ | ⟨a,n,c,a',n',c',rfl,rfl⟩ | ⟨f,g,k,rfl,rfl⟩ <;> rfl
 rcases hop with ⟨rfl,rfl⟩ | ⟨rfl,rfl⟩
 ·rw [Sem.run_bind,h1 _ (.inl rfl),Result.andThen_ok,h2,Sem.run_bind,he]
  rfl
 ·rw [Sem.run_bind,h1 _ (.inr rfl),Result.andThen_ok,h3,Sem.run_bind,he]
  rfl
def kindT (P:Program) (t:TypeId):Nat :=
 match P.underlying t with
 |some (.pointer _)=>1
 |some (.slice _)=>2
 |some (.func _ _ _)=>3
 |_=>0
def Zji:AC→Nat
 |.ptr .. | .ep .. | .fptr _=>1
 |.vw _ _ _ (_+1) | .d (.sl _ (_::_)) | .d .sl0=>2
 |.fn ..=>3
 |_=>0
def nilOf:Nat→C
 |1=>.nilp
 |2=>.nils
 |_=>.nilf
theorem op_nilcmp {P:Program} {G:Gh} {o:Oper} {st:St} {op:BinOp} {t t':TypeId} {x y:Operand} {p:AC} {r:Bool} (ho:o.op=.binOp op t x y t') (hx:Zjd st x=some (.v (.one p))) (hy:Zjd st y=some (.v (.one (.d (nilOf (Zji p)))))) (hk:kindT P t=Zji p) (h0:Zji p ≠ 0)
  (hop:(op=.eql∧r=false)∨(op=.neq∧r=true)):OpWp P G o st (.v (.one (.d (.bool r)))) st :=
 OpWp.of_value fun β S a w hs=>by
  have hxv:=Z0p hs hx
  have hyv:=Z0p hs hy
  refine ⟨β,S,.bool r,w, ?_,rfl,hs⟩
  rw [exec_binOp ho]
  refine Z1g ?_
  have hop':(op=.eql∧r=false)∨(op=.neq∧r=!false):=hop
  unfold kindT at hk
  have k1:Zji p=1→(do eqGuard op t x y (a.eval x) (a.eval y); binOp op t (a.eval x) (a.eval y):Sem Value).run P w=.ok (.bool r) w:=by
   intro e
   rw [e] at hk hyv
   have hptr:isPtr p=true:=by
    cases p with
    |d c=>cases c with | sl sz rows=>cases rows <;> simp [Zji] at e | _=>simp [Zji] at e
    |vw s sz i n=>cases n <;> simp [Zji] at e
    |_=>first | rfl | simp [Zji] at e
   obtain ⟨b,off,hv⟩:=isPtr_rep hptr hxv
   have hn:a.eval y=.pointer none:=by simpa only [AV.Rep,A1.Rep,AC.Rep,nilOf,C.Rep] using hyv
   rw [hv,hn]
   split at hk <;> simp at hk
   rename_i e' hu
   exact run_nilcmp (Zi3 hu _ _ w false rfl) hop' (.inl ⟨_,_,rfl,rfl⟩)
  have k2:Zji p=2→(do eqGuard op t x y (a.eval x) (a.eval y); binOp op t (a.eval x) (a.eval y):Sem Value).run P w=.ok (.bool r) w:=by
   intro e
   rw [e] at hk hyv
   have hsl:∃ ad n c,a.eval x=.slice (some ad) n c:=by
    cases p with
    |vw s sz i n =>
     cases n with
     |zero=>simp [Zji] at e
     |succ n =>
      rcases hxv with ⟨_,_,h0,_⟩ | ⟨_,cap,_,hv,_⟩
      ·cases h0
      ·exact ⟨_,_,_,hv⟩
    |d c =>
     cases c with
     |sl sz rows =>
      cases rows with
      |nil=>simp [Zji] at e
      |cons r rows =>
       simp only [AV.Rep,A1.Rep,AC.Rep,C.Rep] at hxv
       rcases hxv with ⟨h0,_⟩ | ⟨b,off,cap,hv,_⟩
       ·cases h0
       ·exact ⟨_,_,_,hv⟩
     |sl0 =>
      simp only [AV.Rep,A1.Rep,AC.Rep,C.Rep] at hxv
      obtain ⟨ad,cap,hv,_⟩:=hxv
      exact ⟨_,_,_,hv⟩
     |_=>simp [Zji] at e
    |_=>simp [Zji] at e
   obtain ⟨ad,n,c,hv⟩:=hsl
   have hn:a.eval y=.slice none 0 0:=by simpa only [AV.Rep,A1.Rep,AC.Rep,nilOf,C.Rep] using hyv
   rw [hv,hn]
   split at hk <;> simp at hk
   rename_i e' hu
   exact run_nilcmp (Zi3 hu _ _ w false rfl) hop' (.inr (.inl ⟨_,_,_,_,_,_,rfl,rfl⟩))
  have k3:Zji p=3→(do eqGuard op t x y (a.eval x) (a.eval y); binOp op t (a.eval x) (a.eval y):Sem Value).run P w=.ok (.bool r) w:=by
   intro e
   rw [e] at hk hyv
   cases p with
   |fn f cs =>
    obtain ⟨vs,hv,_⟩:=hxv
    have hn:a.eval y=.nilFunc:=by simpa only [AV.Rep,A1.Rep,AC.Rep,nilOf,C.Rep] using hyv
    rw [hv,hn]
    split at hk <;> simp at hk
    rename_i e' hu
    exact run_nilcmp (Zi3 hu _ _ w false rfl) hop' (.inr (.inr ⟨_,_,_,rfl,rfl⟩))
   |d c=>cases c with | sl sz rows=>cases rows <;> simp [Zji] at e | _=>simp [Zji] at e
   |vw s sz i n=>cases n <;> simp [Zji] at e
   |_=>simp [Zji] at e
  have:Zji p=1∨Zji p=2∨Zji p=3:=by
   cases p with
   |d c=>cases c with | sl sz rows=>cases rows <;> simp [Zji] at h0 ⊢ | sl0=>simp [Zji] | _=>simp [Zji] at h0
   |vw s sz i n=>cases n <;> simp [Zji] at h0 ⊢
   |_=>simp [Zji] at h0 ⊢
  rcases this with e | e | e
  ·exact k1 e
  ·exact k2 e
  ·exact k3 e
def intA (st:St) (x:Operand):Option Int :=
 match Zjd st x with
 |some (.v (.one (.d (.int _ n))))=>some n
 |_=>none
theorem intA_rep {G:Gh} {β:Nat→Option Nat} {S:Nat→Prop} {st:St} {a:Act} {w:World} (h:Sim G β S st a w) {x:Operand} {n:Int} (hx:intA st x=some n):∃ k,a.eval x=.int k n:=by
 unfold intA at hx
 split at hx
 ·rename_i k m hy
  injection hx with hx
  subst hx
  have:=Z0p h hy
  exact ⟨k,by simpa only [AV.Rep,A1.Rep,AC.Rep,C.Rep] using this⟩
 ·cases hx
def bndA (st:St) (o:Option Operand) (dflt:Int):Option Int :=
 match o with
 |none=>some dflt
 |some x=>intA st x
theorem Zao {G:Gh} {β:Nat→Option Nat} {S:Nat→Prop} {st:St} {a:Act} {w:World} (hs:Sim G β S st a w) {P:Program} {lo hi:Option Operand} {l h:Int} {len cap:Nat} {isS:Bool} (hl:bndA st lo 0=some l) (hh:bndA st hi len=some h) (h0:0≤l) (h1:l≤h) (h2:h≤cap) (hlc:len≤cap) :
  (Instr.sliceBounds isS len cap (lo.map a.eval) (hi.map a.eval) none).run P w=.ok (l.toNat,h.toNat,cap) w:=by
 have bound:∀ (x:Operand) (n:Int) (y:Nat) (code:BoundsCode),intA st x=some n→0≤n→n≤y→(Instr.sliceBound (a.eval x) y code).run P w=.ok n.toNat w:=by
  intro x n y code hx hn hy
  obtain ⟨k,hk⟩:=intA_rep hs hx
  unfold Instr.sliceBound
  rw [hk]
  simp only [asIntOf,Sem.run_bind,Sem.run_pure,Result.andThen_ok]
  rw [if_pos ⟨hn,hy⟩]
  rfl
 unfold Instr.sliceBounds
 simp only [Sem.run_bind,Sem.run_pure,Result.andThen_ok]
 have hhigh:(match hi.map a.eval,(none:Option Value) with
   |some v,some _=>Instr.sliceBound v cap .slice3B
   |some v,none=>Instr.sliceBound v cap (if isS then .sliceAcap else .sliceAlen)
   |none,none=>pure len
   |none,some _ => stuck "Slice: max without high" : Sem Nat).run P w = .ok h.toNat w := by
  cases hi with
  |none=>simp only [bndA,yn] at hh; subst hh; simp
  |some x=>exact bound x h cap _ hh (by omega) h2
 have hlow:(match lo.map a.eval with
   |some v=>Instr.sliceBound v h.toNat (if (none:Option Value).isSome then .slice3C else .sliceB)
   |none=>pure 0:Sem Nat).run P w=.ok l.toNat w:=by
  cases lo with
  |none=>simp only [bndA,yn] at hl; subst hl; rfl
  |some x=>exact bound x l _ _ hl h0 (by omega)
 cases hi <;> cases lo <;> simp_all
theorem op_slice_nils {P:Program} {G:Gh} {o:Oper} {st:St} {t e:TypeId} {x:Operand} {lo hi:Option Operand} {sz:Nat} {l h:Int} (ho:o.op=.slice t x lo hi none) (hx:Zjd st x=some (.v (.one (.d .nils)))) (he:Zjc P t=some (e,sz))
  (hl:bndA st lo 0=some l) (hh:bndA st hi 0=some h) (h0:l=0) (h1:h=0):OpWp P G o st (.v (.one (.d .nils))) st :=
 OpWp.of_value fun β S a w hs=>by
  have hv:=Z0p hs hx
  simp only [AV.Rep,A1.Rep,AC.Rep,C.Rep] at hv
  obtain ⟨hu,hsz⟩:=Z55 he
  subst h0
  subst h1
  have hbd:=Zao (P:=P) (isS:=true) (cap:=0) (len:=0) hs hl hh (by omega) (by omega) (by simp) (by simp)
  refine ⟨β,S,.slice none 0 0,w, ?_,by simp only [AV.Rep,A1.Rep,AC.Rep,C.Rep],hs⟩
  rw [Z9d ho,hv]
  refine Z1g ?_
  unfold Instr.sliceAt
  simp only [Sem.run_bind,run_underlying hu w,Result.andThen_ok]
  unfold Instr.slice
  simp only [Sem.run_bind,run_underlying hu w,Result.andThen_ok,ji,hbd,Z40 hsz w,Sem.run_pure]
  simp
theorem op_slice_data {P:Program} {G:Gh} {o:Oper} {st:St} {t e:TypeId} {x:Operand} {lo hi:Option Operand} {sz:Nat} {rows:List (List C)} {l h:Int} (ho:o.op=.slice t x lo hi none) (hx:Zjd st x=some (.v (.one (.d (.sl sz rows))))) (he:Zjc P t=some (e,sz))
  (hl:bndA st lo 0=some l) (hh:bndA st hi rows.length=some h) (h0:0≤l) (h1:l≤h) (h2:h≤rows.length):OpWp P G o st (.v (.one (.d (.sl sz ((rows.drop l.toNat).take (h.toNat - l.toNat)))))) st :=
 OpWp.of_value fun β S a w hs=>by
  have hxv:=Z0p hs hx
  simp only [AV.Rep,A1.Rep,AC.Rep,C.Rep] at hxv
  obtain ⟨hu,hsz⟩:=Z55 he
  rcases hxv with ⟨hnil,ad,hv⟩ | ⟨b,off,cap,hv,hcap,hF,hr⟩
  ·subst hnil
   have hbd:=Zao (P:=P) (isS:=true) (cap:=0) hs hl hh h0 h1 (by simpa using h2) (by simp)
   have hl0:l.toNat=0:=by simp at h2; omega
   have hh0:h.toNat=0:=by simp at h2; omega
   refine ⟨β,S,.slice ad 0 0,w, ?_, ?_,hs⟩
   ·rw [Z9d ho,hv]
    refine Z1g ?_
    unfold Instr.sliceAt
    simp only [Sem.run_bind,run_underlying hu w,Result.andThen_ok]
    unfold Instr.slice
    simp only [xx] at hbd
    simp only [Sem.run_bind,run_underlying hu w,Result.andThen_ok,ji,hbd,Z40 hsz w,Sem.run_pure]
    simp [hl0,hh0]
   ·simp only [AV.Rep,A1.Rep,AC.Rep,C.Rep]
    exact .inl ⟨by simp,ad,rfl⟩
  have hbd:=Zao (P:=P) (isS:=true) hs hl hh h0 h1 (by omega) hcap
  have hlen:((rows.drop l.toNat).take (h.toNat - l.toNat)).length=h.toNat - l.toNat:=by simp; omega
  refine ⟨β,S,.slice (if cap=l.toNat then some ⟨b,off,none⟩ else some ⟨b,off+l.toNat * sz,none⟩) (h.toNat - l.toNat) (cap - l.toNat),w, ?_, ?_,hs⟩
  ·rw [Z9d ho,hv]
   refine Z1g ?_
   unfold Instr.sliceAt
   simp only [Sem.run_bind,run_underlying hu w,Result.andThen_ok]
   unfold Instr.slice
   simp only [Sem.run_bind,run_underlying hu w,Result.andThen_ok,ji,hbd,Z40 hsz w,Sem.run_pure]
   congr 2
   by_cases c:cap=l.toNat
   ·rw [if_pos c,if_pos c]
   ·rw [if_neg c,if_neg c,qz,Addr.add_mid]
  ·simp only [AV.Rep,A1.Rep,AC.Rep,C.Rep]
   by_cases c:cap=l.toNat
   ·have e0:h.toNat - l.toNat=0:=by omega
    refine .inr ⟨b,off,cap - l.toNat,by rw [if_pos c,hlen],by rw [hlen]; omega,fun hne=>?_, ?_⟩
    ·exact absurd (xy (by rw [hlen,e0])) hne
    ·have en:(rows.drop l.toNat).take (h.toNat - l.toNat)=[]:=xy (by rw [hlen,e0])
     rw [en]; simp only [Zj2]
   ·refine .inr ⟨b,off+l.toNat * sz,cap - l.toNat,by rw [if_neg c,hlen],by rw [hlen]; omega,fun hne=>hF fun e=>hne (by rw [e]; simp),(hr.drop l.toNat).take _⟩
theorem op_slice_room {P:Program} {G:Gh} {o:Oper} {st:St} {t e:TypeId} {x:Operand} {lo hi:Option Operand} {sz n:Nat} {rows:List (List C)} {l h:Int} (ho:o.op=.slice t x lo hi none) (hx:Zjd st x=some (.v (.one (.d (.slr sz n rows))))) (he:Zjc P t=some (e,sz))
  (hl:bndA st lo 0=some l) (hh:bndA st hi n=some h) (h0:0≤l) (h1:l≤h) (h2:h≤rows.length):OpWp P G o st (.v (.one (.d (.sl sz ((rows.drop l.toNat).take (h.toNat - l.toNat)))))) st :=
 OpWp.of_value fun β S a w hs=>by
  have hxv:=Z0p hs hx
  simp only [AV.Rep,A1.Rep,AC.Rep,C.Rep] at hxv
  obtain ⟨hu,hsz⟩:=Z55 he
  obtain ⟨b,hv,hcap,hF,hr⟩:=hxv
  have hbd:=Zao (P:=P) (isS:=true) (cap:=rows.length) hs hl hh h0 h1 (by omega) hcap
  have hlen:((rows.drop l.toNat).take (h.toNat - l.toNat)).length=h.toNat - l.toNat:=by simp; omega
  refine ⟨β,S,.slice (if rows.length=l.toNat then some ⟨b,0,none⟩ else some ⟨b,0+l.toNat * sz,none⟩) (h.toNat - l.toNat) (rows.length - l.toNat),w, ?_, ?_,hs⟩
  ·rw [Z9d ho,hv]
   refine Z1g ?_
   unfold Instr.sliceAt
   simp only [Sem.run_bind,run_underlying hu w,Result.andThen_ok]
   unfold Instr.slice
   simp only [Sem.run_bind,run_underlying hu w,Result.andThen_ok,ji,hbd,Z40 hsz w,Sem.run_pure]
   congr 2
   by_cases c:rows.length=l.toNat
   ·rw [if_pos c,if_pos c]
   ·rw [if_neg c,if_neg c,qz,Addr.add_mid]
  ·simp only [AV.Rep,A1.Rep,AC.Rep,C.Rep]
   by_cases c:rows.length=l.toNat
   ·have e0:h.toNat - l.toNat=0:=by omega
    refine .inr ⟨b,0,rows.length - l.toNat,by rw [if_pos c,hlen],by rw [hlen]; omega,fun hne=>?_, ?_⟩
    ·exact absurd (xy (by rw [hlen,e0])) hne
    ·have en:(rows.drop l.toNat).take (h.toNat - l.toNat)=[]:=xy (by rw [hlen,e0])
     rw [en]; simp only [Zj2]
   ·refine .inr ⟨b,0+l.toNat * sz,rows.length - l.toNat,by rw [if_neg c,hlen],by rw [hlen]; omega,fun hne=>hF fun e=>hne (by rw [e]; simp),(hr.drop l.toNat).take _⟩
theorem op_slice_vw {P:Program} {G:Gh} {o:Oper} {st:St} {t e:TypeId} {x:Operand} {lo hi:Option Operand} {s sz i n:Nat} {l h:Int} (ho:o.op=.slice t x lo hi none) (hx:Zjd st x=some (.v (.one (.vw s sz i n)))) (he:Zjc P t=some (e,sz)) (hpos:0 < sz)
  (hl:bndA st lo 0=some l) (hh:bndA st hi n=some h) (h0:0≤l) (h1:l≤h) (h2:h≤n∨∃ rows,Zjf s st.obs=some (.arr sz rows false)∧h+i≤rows.length) (h3:l=0∨l < h):OpWp P G o st (.v (.one (.vw s sz (i+l.toNat) (h.toNat - l.toNat)))) st :=
 OpWp.of_value fun β S a w hs=>by
  obtain ⟨hu,hsz⟩:=Z55 he
  rcases Z0p hs hx with ⟨hb0,hi0,hn0,ad,hv⟩ | ⟨b0,cap,hb0,hv,hcap,t',hshape⟩
  ·subst hn0 hi0
   have hh0':h≤0:=by
    rcases h2 with h2 | ⟨rows,hg,h2⟩
    ·simpa using h2
    ·have:=hs.out s _ (Z22 s _ _ hg) hb0
     exact absurd this.2.1 (by simp)
   have hbd:=Zao (P:=P) (isS:=true) (cap:=0) (len:=0) hs hl hh h0 h1 (by simpa using hh0') (by simp)
   have hl0:l.toNat=0:=by omega
   have hh0:h.toNat=0:=by omega
   refine ⟨β,S,.slice ad 0 0,w, ?_,.inl ⟨hb0,by rw [hl0],by rw [hh0,hl0],ad,rfl⟩,hs⟩
   rw [Z9d ho,hv]
   refine Z1g ?_
   unfold Instr.sliceAt
   simp only [Sem.run_bind,run_underlying hu w,Result.andThen_ok]
   unfold Instr.slice
   simp only [Sem.run_bind,run_underlying hu w,Result.andThen_ok,ji,hbd,Z40 hsz w,Sem.run_pure]
   simp [hl0,hh0]
  have hhc:h≤cap:=by
   rcases h2 with h2 | ⟨rows,hg,h2⟩
   ·omega
   ·obtain ⟨⟨vs,t'',hh',_,_,_,hm⟩,_,_⟩:=hs.ob s _ b0 (Z22 s _ _ hg) hb0
    have:=hm rfl
    unfold World.shape? at hshape
    rw [hh'] at hshape
    simp only [yn,yt] at hshape
    have e1:(i+cap) * sz=rows.length * sz:=by rw [← hshape.2,this]
    have:=uu hpos e1
    omega
  have hbd:=Zao (P:=P) (isS:=true) hs hl hh h0 h1 hhc hcap
  refine ⟨β,S,.slice (some ⟨b0,(i+l.toNat) * sz,none⟩) (h.toNat - l.toNat) (cap - l.toNat),w, ?_,.inr ⟨b0,cap - l.toNat,hb0,rfl,by omega,t', ?_⟩,hs⟩
  ·rw [Z9d ho,hv]
   refine Z1g ?_
   unfold Instr.sliceAt
   simp only [Sem.run_bind,run_underlying hu w,Result.andThen_ok]
   unfold Instr.slice
   simp only [Sem.run_bind,run_underlying hu w,Result.andThen_ok,ji,hbd,Z40 hsz w,Sem.run_pure]
   congr 2
   by_cases c:cap=l.toNat
   ·have:l.toNat=0:=by omega
    rw [if_pos c,this,uf]
   ·rw [if_neg c,qz,Addr.add_mid,ug]
  ·rw [hshape]
   have:i+l.toNat+(cap - l.toNat)=i+cap:=by omega
   rw [this]
theorem op_slice_str {P:Program} {G:Gh} {o:Oper} {st:St} {t:TypeId} {x:Operand} {lo hi:Option Operand} {s:ByteArray} {l h:Int} (ho:o.op=.slice t x lo hi none) (hx:Zjd st x=some (.v (.one (.d (.str s))))) (ht:P.underlying t=some .string)
  (hl:bndA st lo 0=some l) (hh:bndA st hi s.size=some h) (h0:0≤l) (h1:l≤h) (h2:h≤s.size):OpWp P G o st (.v (.one (.d (.str (s.extract l.toNat h.toNat))))) st :=
 OpWp.of_value fun β S a w hs=>by
  have hv:a.eval x=.string s:=by have:=Z0p hs hx; simpa only [AV.Rep,A1.Rep,AC.Rep,C.Rep] using this
  have hbd:=Zao (P:=P) (isS:=false) hs hl hh h0 h1 h2 (xw _)
  refine ⟨β,S,.string (s.extract l.toNat h.toNat),w, ?_,rfl,hs⟩
  rw [Z9d ho,hv]
  refine Z1g ?_
  unfold Instr.sliceAt
  simp only [Sem.run_bind,run_underlying ht w,Result.andThen_ok]
  unfold Instr.slice
  simp only [Sem.run_bind,run_underlying ht w,Result.andThen_ok,ji,Option.isSome_none,xh,if_false,hbd,Sem.run_pure]
theorem op_slice_cap0 {P:Program} {G:Gh} {o:Oper} {st:St} {t e:TypeId} {x:Operand} {k k':IntKind} {p:AC} {n sz:Nat} (ho:o.op=.slice t x none (some (.const (.int k 0))) (some (.const (.int k' 0)))) (hx:Zjd st x=some (.v (.one p))) (hn:lenA p=some n) (he:Zjc P t=some (e,sz)):OpWp P G o st (.v (.one .cap0)) st :=
 OpWp.of_value fun β S a w hs=>by
  have hxv:=Z0p hs hx
  obtain ⟨ad,c,hv⟩:=lenA_rep hn hxv
  obtain ⟨hu,hsz⟩:=Z55 he
  refine ⟨β,S,.slice ad 0 0,w, ?_,⟨ad,rfl⟩,hs⟩
  rw [Z9d ho,hv]
  refine Z1g ?_
  unfold Instr.sliceAt
  simp only [Sem.run_bind,run_underlying hu w,Result.andThen_ok]
  unfold Instr.slice
  simp only [Sem.run_bind,run_underlying hu w,Result.andThen_ok,Instr.sliceBounds,qz,ji,Act.eval,Instr.sliceBound,asIntOf,Sem.run_pure]
  simp [Z40 hsz w]
theorem op_makeSlice {P:Program} {G:Gh} {o:Oper} {st:St} {t e:TypeId} {x y:Operand} {sz d:Nat} {l c:Int} {zs:Array Value} {row:List C} {bytes:Nat} {m:Bool} (ho:o.op=.makeSlice t x y) (hx:intA st x=some l) (hy:intA st y=some c) (he:Zjc P t=some (e,sz)) (hz:zeroT P e=some zs)
  (hrow:Zj6 C.ofV zs.toList=some row) (hb:(P.info? e).map (·.bytes)=some bytes) (hlen:row.length=sz) (hpos:0 < sz) (h0:0≤l) (h1:l≤c) (h2:c * bytes≤281474976710656) (h3:c≤9223372036854775807) (hd:d < G.n0) :
  OpWp P G o st (.v (.one (.vw d sz 0 l.toNat))) (st.new d (.arr sz (List.replicate c.toNat row) m)) :=
 OpWp.of_value fun β S a w hs=>by
  obtain ⟨kl,hxl⟩:=intA_rep hs hx
  obtain ⟨kc,hyc⟩:=intA_rep hs hy
  obtain ⟨hu,hsz⟩:=Z55 he
  unfold zeroT at hz
  cases hi:P.info? e with
  |none=>rw [hi] at hz; simp at hz
  |some ie =>
   rw [hi] at hz hb
   simp only [vo,ym] at hz
   obtain ⟨z,hz,rfl⟩:=hz
   have hie:ie.size=sz:=by unfold sizeT at hsz; rw [hi] at hsz; simpa using hsz
   have hby:ie.bytes=bytes:=by simpa using hb
   have hr:=run_make (P:=P) w t e ie z hu hi hz kl kc l c h0 h1 (by rw [hby,Int.mul_comm]; exact h2) h3
   have hms:(madeCells z.cells (c.toNat * ie.size)).size=c.toNat * sz:=by rw [size_madeCells,hie]
   have hrv:=Z34 hrow
   have hzl:z.cells.size=sz:=by have:=hrv.length; simp at this; omega
   obtain ⟨β',k1,k2,k3⟩:=hs.alloc d hd (madeCells z.cells (c.toNat * ie.size)) e (.arr sz (List.replicate c.toNat row) m) (fun β' w' hβ hw hsh hh=>by
    refine ⟨_,e,hh,hpos,Zj2.mk fun i r hir=>?_,by rw [ja,hms]; exact xw _,fun _=>by rw [ja]; exact hms⟩
    have hir':=List.getElem?_eq_some_iff.1 hir
    obtain ⟨hil,hir'⟩:=hir'
    simp at hir' hil
    subst hir'
    refine ⟨hlen,Zj1.mk fun j c' hj=>?_⟩
    obtain ⟨u,hu',hc⟩:∃ u,z.cells.toList[j]? = some u∧C.ofV u=some c':=by
     have hjl:=(List.getElem?_eq_some_iff.1 hj).1
     have:∃ u,z.cells.toList[j]? = some u:=⟨z.cells.toList[j]'(by simp; omega),yu _⟩
     obtain ⟨u,hu'⟩:=this
     obtain ⟨c'',hc'',hr'⟩:=hrv.get j u hu'
     rw [hj] at hc''
     injection hc'' with hc''
     exact ⟨u,hu',by rw [hc'']; exact hr'⟩
    have hjl:j < sz:=by rw [← hlen]; exact (List.getElem?_eq_some_iff.1 hj).1
    refine ⟨u, ?_,C.ofV_rep hc w' S⟩
    rw [Z0w hh,xk]
    have hm:i * sz+j < c.toNat * ie.size:=by
     rw [hie]
     have:=ql sz (show i+1≤c.toNat by omega)
     rw [ug,zo] at this
     omega
    unfold madeCells
    rw [Array.getElem?_map,Array.getElem?_range,if_pos hm,qz,hzl,show (i * sz+j) % sz=j by rw [z8,Nat.mul_add_mod,Nat.mod_eq_of_lt hjl]]
    rw [yz] at hu'
    rw [getElem!_pos z.cells j (by omega)]
    rw [xq (by omega)] at hu'
    exact hu')
   refine ⟨β',S,_,_,by rw [exec_makeSlice ho,hxl,hyc]; exact Z1g hr,.inr ⟨w.heap.size,c.toNat,k1, ?_,by omega,e, ?_⟩,k3⟩
   ·rw [vz]
   ·have hnew:(w.alloc (.cells (madeCells z.cells (c.toNat * ie.size)) e)).heap[w.heap.size]? = some (.cells (madeCells z.cells (c.toNat * ie.size)) e (0,0)):=by
     show (w.heap.push _)[w.heap.size]? = _
     rw [uj,if_pos rfl]
    unfold World.shape?
    rw [hnew,xk]
    simp only
    rw [hms]
theorem Sim.drew {G:Gh} {β:Nat→Option Nat} {S:Nat→Prop} {st:St} {a:Act} {w:World} (h:Sim G β S st a w):Sim G β S st a w.drew where
 defers:=h.defers
 fr:=h.fr.imp fun x v hx=>AV.Rep.mono (w:=w) (w':=w.drew) (fun _ hb=>hb) (fun _ _=>rfl) (fun _ _ h=>h) x v (fun _ _=>rfl) hx
 ob:=fun s o b hm hb=>by
  obtain ⟨g1,g2,g3⟩:=h.ob s o b hm hb
  refine ⟨?_,g2,g3⟩
  cases o with
  |var cells=>obtain ⟨vs,t,k1,k2⟩:=g1; exact ⟨vs,t,k1,k2.imp fun c u hr=>AC.Rep.mono (w:=w) (w':=w.drew) (fun _ hb=>hb) (fun _ _=>rfl) (fun _ _ h=>h) c u (fun _ _=>rfl) hr⟩
  |arr sz rows more=>exact Ob.Rep.kill (w:=w) (w':=w.drew) (β':=β) (fun _ hb=>hb) (fun _ _=>rfl) (fun _ _ h=>h) 0 (fun _ _=>rfl) b rfl (.arr sz rows more) g1
 out:=h.out
 inj:=h.inj
 lt:=h.lt
 s0:=h.s0
 size:=h.size
 old:=h.old
 os:=h.os
 tape:=h.tape
 output:=h.output
 par:=h.par
 src:=h.src
 sh:=h.sh
theorem Zj2.flat {w:World} {F:Nat→Prop} {b sz:Nat}:∀ {rs:List (List C)} {off:Nat},Zj2 w F b sz rs off→∃ us:List Value,us.length=rs.length * sz∧(∀ j u,us[j]? = some u→w.cell? ⟨b,off+j,none⟩=some u)∧All2 (C.Rep w F) rs.flatten us
 |[],off,_=>⟨[],by simp,fun j u h=>by simp at h,by simp [All2]⟩
 |r::rs,off,h=>by
  simp only [Zj2] at h
  obtain ⟨hl,hc,ht⟩:=h
  obtain ⟨us,k1,k2,k3⟩:=Zj2.flat ht
  have cells:∀ (cs:List C) (off:Nat),Zj1 w F b cs off→∃ vs:List Value,vs.length=cs.length∧(∀ j u,vs[j]? = some u→w.cell? ⟨b,off+j,none⟩=some u)∧All2 (C.Rep w F) cs vs:=by
   intro cs
   induction cs with
   |nil=>intro off _; exact ⟨[],rfl,fun j u h=>by simp at h,by simp [All2]⟩
   |cons c cs ih =>
    intro off h
    simp only [Zj1] at h
    obtain ⟨⟨u,hu,hr⟩,ht⟩:=h
    obtain ⟨vs,h1,h2,h3⟩:=ih _ ht
    refine ⟨u::vs,by simp [h1],fun j v hj=>?_,by simp only [All2]; exact ⟨hr,h3⟩⟩
    cases j with
    |zero=>simp at hj; subst hj; simpa using hu
    |succ j=>have:=h2 j v (by simpa using hj); rwa [show off+1+j=off+(j+1) by omega] at this
  obtain ⟨vs,h1,h2,h3⟩:=cells r off hc
  refine ⟨vs++us,by simp [h1,hl,k1,ug]; omega,fun j u hj=>?_,by rw [q9]; exact h3.append k3⟩
  by_cases hjl:j < vs.length
  ·rw [qx hjl] at hj; exact h2 j u hj
  ·rw [qg (by omega)] at hj
   have:=k2 _ u hj
   rwa [show off+sz+(j - vs.length)=off+j by omega] at this
theorem Zj2.of_flat {w:World} {F:Nat→Prop} {b sz:Nat}:∀ {rs:List (List C)} {off:Nat},(∀ r ∈ rs,r.length=sz)→(∀ j c,rs.flatten[j]? = some c→∃ u,w.cell? ⟨b,off+j,none⟩=some u∧C.Rep w F c u)→Zj2 w F b sz rs off
 |[],_,_,_=>by simp only [Zj2]
 |r::rs,off,hl,h=>by
  simp only [Zj2]
  have hr:=hl r (by simp)
  refine ⟨hr,Zj1.mk fun j c hj=>h j c ?_,Zj2.of_flat (fun r' hr'=>hl r' (by simp [hr'])) fun j c hj=>?_⟩
  ·rw [q9,qx (List.getElem?_eq_some_iff.1 hj).1]; exact hj
  ·have:=h (sz+j) c (by rw [q9,qg (by omega),show sz+j - r.length=j by omega]; exact hj)
   rwa [show off+(sz+j)=off+sz+j by omega] at this
theorem Zj2.lens {w:World} {F:Nat→Prop} {b sz:Nat}:∀ {rs:List (List C)} {off:Nat},Zj2 w F b sz rs off→∀ r ∈ rs,r.length=sz
 |[],_,_,r,hr=>by cases hr
 |r0::rs,off,h,r,hr=>by
  simp only [Zj2] at h
  rcases List.mem_cons.1 hr with rfl | hr
  ·exact h.1
  ·exact Zj2.lens h.2.2 r hr
theorem Z8g {sz:Nat}:∀ {rs:List (List C)},(∀ r ∈ rs,r.length=sz)→rs.flatten.length=rs.length * sz
 |[],_=>by simp
 |r::rs,h=>by
  rw [q9,yw,h r (by simp),Z8g fun r' hr'=>h r' (by simp [hr']),xu,ug]
  omega
def rowsOf (st:St):AC→Option (Nat × List (List C) × Prop)
 |.d (.sl sz rows)=>some (sz,rows,True)
 |.vw s sz i n=>match Zjf s st.obs with
  |some (.arr sz' rows _)=>bif sz' == sz then some (sz,(rows.drop i).take n,i+n≤rows.length) else none
  |_=>none
 |_=>none
theorem rowsOf_rep {G:Gh} {β:Nat→Option Nat} {S:Nat→Prop} {st:St} {a:Act} {w:World} (hs:Sim G β S st a w) {x:AC} {sz:Nat} {rows:List (List C)} {p:Prop} (h:rowsOf st x=some (sz,rows,p)) (hp:p) {v:Value} (hv:x.Rep w S β v) :
  ∃ ad cap,v=.slice ad rows.length cap∧(rows ≠ []→∃ b off,ad=some ⟨b,off,none⟩∧Zj2 w S b sz rows off):=by
 cases x with
 |d c =>
  cases c <;> simp only [rowsOf,yn,yt,reduceCtorEq] at h
  obtain ⟨rfl,rfl,rfl⟩:=h
  simp only [AC.Rep,C.Rep] at hv
  rcases hv with ⟨rfl,ad,h1⟩ | ⟨b,off,cap,h1,_,_,h4⟩
  ·exact ⟨ad,0,h1,fun h=>absurd rfl h⟩
  ·exact ⟨_,cap,h1,fun _=>⟨b,off,rfl,h4⟩⟩
 |vw s sz1 i n =>
  simp only [rowsOf] at h
  cases hg:Zjf s st.obs with
  |none=>rw [hg] at h; cases h
  |some ob =>
   rw [hg] at h
   cases ob with
   |var=>cases h
   |arr sz' rows' more =>
    simp only at h
    cases hb:sz' == sz1 with
    |false=>rw [hb] at h; cases h
    |true =>
     rw [hb] at h
     have:sz'=sz1:=by simpa using hb
     subst this
     simp only [cond_true,yn,yt] at h
     obtain ⟨rfl,rfl,rfl⟩:=h
     have hl:((rows'.drop i).take n).length=n:=by simp; omega
     rcases hv with ⟨_,_,rfl,ad,h1⟩ | ⟨b,cap,h0,h1,h2,_⟩
     ·exact ⟨ad,0,by rw [hl]; exact h1,fun h=>absurd (by simp) h⟩
     obtain ⟨⟨vs,t,hh,h0,hr,_,_⟩,_,_⟩:=hs.ob s _ b (Z22 s _ _ hg) h0
     have:=(hr.drop i).take n
     rw [xk] at this
     exact ⟨_,cap,by rw [hl]; exact h1,fun _=>⟨b,i * sz',rfl,this⟩⟩
 |_=>simp [rowsOf] at h
def strT (P:Program) (t:TypeId):Bool :=
 match P.underlying t with
 |some .string=>true
 |_=>false
def SrcV (P:Program) (t t2:TypeId) (v:Value) (m:Nat):Prop:=(t2=t∧∃ ad c,v=.slice ad m c)∨(P.underlying t2=some .string∧∃ s:ByteArray,v=.string s∧s.size=m)
def strRows (s:ByteArray):List (List C):=s.data.toList.map fun b=>[C.int .u8 b.toNat]
def srcOf (P:Program) (t t2:TypeId) (st:St) (q:AC):Option (Nat × List (List C) × Prop) :=
 match q with
 |.d (.str s)=>bif strT P t2 then some (1,strRows s,True) else none
 |.d .nils=>bif t2 == t then (Zjc P t).map fun e=>(e.2,[],True) else none
 |q=>bif t2 == t then rowsOf st q else none
def bytesT (P:Program) (t:TypeId):Option Nat:=(P.info? t).map (·.bytes)
theorem Z9z {P:Program} {w:World} {S:Nat→Prop} {sz cap:Nat} {rows:List (List C)} {ad:Option Addr} (h:rows ≠ []→∃ b off,ad=some ⟨b,off,none⟩∧Zj2 w S b sz rows off) :
  ∃ us:List Value,us.length=rows.length * sz∧All2 (C.Rep w S) rows.flatten us∧(∀ u ∈ us,u.oneCell'=true)∧(∀ r ∈ rows,r.length=sz)∧∀ w',(∀ a,w'.cell? a=w.cell? a)→(Builtin.firstCells sz rows.length (.slice ad rows.length cap)).run P w'=.ok us.toArray w':=by
 by_cases hne:rows=[]
 ·subst hne
  refine ⟨[],by simp,trivial,fun u hu=>(by cases hu),fun r hr=>(by cases hr),fun w' _=>?_⟩
  cases ad with
  |none=>rfl
  |some ad=>simp [Builtin.firstCells,loadCells,loadCellsFrom]
 ·obtain ⟨b,off,rfl,hr⟩:=h hne
  obtain ⟨us,k1,k2,k3⟩:=hr.flat
  refine ⟨us,k1,k3,fun u hu=>?_,hr.lens,fun w' hw'=>?_⟩
  ·obtain ⟨j,hj⟩:=jf hu
   have hjl:j < rows.flatten.length:=by rw [k3.length]; exact (List.getElem?_eq_some_iff.1 hj).1
   obtain ⟨u',hu',hrep⟩:=k3.get j rows.flatten[j] (yu hjl)
   rw [hj] at hu'
   injection hu' with hu'
   subst hu'
   exact AC.Rep.one (x:=.d rows.flatten[j]) (β:=fun _=>none) rfl hrep
  ·exact run_firstCells_some (P:=P) w' sz rows.length ⟨b,off,none⟩ rows.length cap us k1 (fun j u hj=>by rw [hw',Addr.add_mid]; exact k2 j u hj)
theorem Zb8 {P:Program} {w:World} (t ty e:TypeId) (i:TypeInfo) (ht:P.underlying t=some (.slice e)) (hi:P.info? e=some i)
  (b sLen sCap:Nat) (t2:TypeId) (v:Value) (m:Nat) (hv:SrcV P t t2 v m) (news:List Value) (hl:news.length=m * i.size) (hf:(Builtin.firstCells i.size m v).run P w=.ok news.toArray w) (h1:∀ u ∈ news,u.oneCell'=true)
  (hroom:sLen+m≤sCap) (hc:∀ j,j < news.length→(w.cell? ⟨b,sLen * i.size+j,none⟩).isSome=true) (hfz:∀ j,j < news.length→w.frozen? ⟨b,sLen * i.size+j,none⟩=false) :
  (Builtin.append_ #[t,t2] ty #[.slice (some ⟨b,0,none⟩) sLen sCap,v]).run P w=.ok (.slice (some ⟨b,0,none⟩) (sLen+m) sCap) (w.setCells b (sLen * i.size) news):=by
 have hst:=run_storeCells_cells (P:=P) b (sLen * i.size) news 0 w (by simpa using hc) (by simpa using hfz) h1
 simp only [uf] at hst
 rcases hv with ⟨rfl,ad,c,rfl⟩ | ⟨hu,s,rfl,rfl⟩
 ·simp [Builtin.append_,run_underlying ht,Go.sizeOf,typeInfo,hi,Builtin.lenOf,hroom,hf,Addr.add_lit,hst]
 ·simp [Builtin.append_,run_underlying ht,run_underlying hu,Go.sizeOf,typeInfo,hi,Builtin.lenOf,hroom,hf,Addr.add_lit,hst]
theorem Zb6 {P:Program} {w:World} (t ty e:TypeId) (i:TypeInfo) (z:Value) (ht:P.underlying t=some (.slice e)) (hi:P.info? e=some i) (hz:i.zero=some z)
  (ads:Option Addr) (sLen sCap:Nat) (olds:List Value) (hfo:(Builtin.firstCells i.size sLen (.slice ads sLen sCap)).run P w.drew=.ok olds.toArray w.drew)
  (t2:TypeId) (v:Value) (n:Nat) (hv:SrcV P t t2 v n) (news:List Value) (hf:(Builtin.firstCells i.size n v).run P w.drew=.ok news.toArray w.drew)
  (hg:sCap < sLen+n) (h63:((sLen+n:Nat):Int)≤9223372036854775807) (hfit:Builtin.nextslicecap (sLen+n) sCap * i.bytes≤281474976710656) :
  (Builtin.append_ #[t,t2] ty #[.slice ads sLen sCap,v]).run P w =
   .ok (.slice (some ⟨w.heap.size,0,none⟩) (sLen+n) (grownCap w (sLen+n) sCap e))
    (w.drew.alloc (.cells (olds.toArray++news.toArray++Builtin.zeroCells z.cells (grownCap w (sLen+n) sCap e - (sLen+n))) e)):=by
 have hn:¬ (sLen+n≤sCap):=by omega
 have h63':¬ (9223372036854775807 < ((sLen:Int)+(n:Int))):=by omega
 have h48':¬ (281474976710656 < Builtin.nextslicecap (sLen+n) sCap * i.bytes):=by omega
 rcases hv with ⟨rfl,ad,c,rfl⟩ | ⟨hu,s,rfl,rfl⟩
 ·simp [Builtin.append_,run_underlying ht,Go.sizeOf,typeInfo,zeroValue,hi,hz,Builtin.lenOf,hn,h63',h48',Question.forced,hf,hfo,newRow,grownCap]
  rw [← jv,Array.append_assoc]
 ·simp [Builtin.append_,run_underlying ht,run_underlying hu,Go.sizeOf,typeInfo,zeroValue,hi,hz,Builtin.lenOf,hn,h63',h48',Question.forced,hf,hfo,newRow,grownCap]
  rw [← jv,Array.append_assoc]
theorem run_append_none {P:Program} {w:World} (t ty e:TypeId) (i:TypeInfo) (ht:P.underlying t=some (.slice e)) (hi:P.info? e=some i) (ads:Option Addr) (t2:TypeId) (v:Value) (hv:SrcV P t t2 v 0) :
  (Builtin.append_ #[t,t2] ty #[.slice ads 0 0,v]).run P w=.ok (.slice ads 0 0) w:=by
 rcases hv with ⟨rfl,ad,c,rfl⟩ | ⟨hu,s,rfl,h0⟩
 ·cases ads <;> cases ad <;> simp [Builtin.append_,run_underlying ht,Go.sizeOf,typeInfo,hi,Builtin.lenOf,Builtin.firstCells,loadCells,loadCellsFrom,storeCells]
 ·have:s=ByteArray.empty:=by
   obtain ⟨⟨l⟩⟩:=s
   have h0:l.length=0:=h0
   rw [xy h0]
   rfl
  subst this
  cases ads <;> simp [Builtin.append_,run_underlying ht,run_underlying hu,Go.sizeOf,typeInfo,hi,Builtin.lenOf,Builtin.firstCells,storeCells]
theorem Zhc (s:ByteArray):(strRows s).length=s.size:=by unfold strRows; rw [xg]; rfl
theorem srcOf_rep {P:Program} {G:Gh} {β:Nat→Option Nat} {S:Nat→Prop} {st:St} {a:Act} {w:World} {t t2:TypeId} (hs:Sim G β S st a w) {x:AC} {sz:Nat} {rows:List (List C)} {p:Prop} (h:srcOf P t t2 st x=some (sz,rows,p)) (hp:p) {v:Value} (hv:x.Rep w S β v) :
  SrcV P t t2 v rows.length∧∃ us:List Value,us.length=rows.length * sz∧All2 (C.Rep w S) rows.flatten us∧(∀ u ∈ us,u.oneCell'=true)∧(∀ r ∈ rows,r.length=sz)∧∀ w',(∀ a,w'.cell? a=w.cell? a)→(Builtin.firstCells sz rows.length v).run P w'=.ok us.toArray w':=by
 have rest:(bif t2 == t then rowsOf st x else none)=some (sz,rows,p)→SrcV P t t2 v rows.length∧∃ us:List Value,us.length=rows.length * sz∧All2 (C.Rep w S) rows.flatten us∧(∀ u ∈ us,u.oneCell'=true)∧(∀ r ∈ rows,r.length=sz)∧∀ w',(∀ a,w'.cell? a=w.cell? a)→(Builtin.firstCells sz rows.length v).run P w'=.ok us.toArray w':=by
  intro h
  cases hb:t2 == t with
  |false=>rw [hb] at h; cases h
  |true =>
   rw [hb] at h
   have hb:t2=t:=by simpa using hb
   obtain ⟨ad,cap,rfl,hrx⟩:=rowsOf_rep hs h hp hv
   exact ⟨.inl ⟨hb,ad,cap,rfl⟩,Z9z hrx⟩
 unfold srcOf at h
 split at h
 ·rename_i s
  cases hb:strT P t2 with
  |false=>rw [hb] at h; cases h
  |true =>
   rw [hb] at h
   simp only [cond_true,yn,yt] at h
   obtain ⟨rfl,rfl,rfl⟩:=h
   have hv:v=.string s:=hv
   subst hv
   have hu:P.underlying t2=some .string:=by
    unfold strT at hb
    split at hb
    ·rename_i h; exact h
    ·cases hb
   have hflat:(strRows s).flatten=s.data.toList.map fun b=>C.int .u8 b.toNat:=by
    unfold strRows
    generalize s.data.toList=l
    induction l with
    |nil=>rfl
    |cons b l ih=>simp only [qh,q9,ih]; rfl
   refine ⟨.inr ⟨hu,s,rfl,(Zhc s).symm⟩,s.data.toList.map fun b=>Value.int .u8 b.toNat, ?_, ?_,fun u hu=>?_,fun r hr=>?_,fun w' _=>?_⟩
   ·rw [xg,Zhc,kz]; rfl
   ·rw [hflat]
    generalize s.data.toList=l
    induction l with
    |nil=>trivial
    |cons b l ih=>exact ⟨rfl,ih⟩
   ·obtain ⟨b,_,rfl⟩:=List.mem_map.1 hu
    rfl
   ·obtain ⟨b,_,rfl⟩:=List.mem_map.1 hr
    rfl
   ·rw [Zhc]
    simp [Builtin.firstCells]
    apply zi
    simp
 ·cases hb:t2 == t with
  |false=>rw [hb] at h; cases h
  |true =>
   rw [hb] at h
   have hb:t2=t:=by simpa using hb
   simp only [cond_true,ym,yt] at h
   obtain ⟨e,_,rfl,rfl,rfl⟩:=h
   have hv:v=.slice none 0 0:=hv
   subst hv
   exact ⟨.inl ⟨hb,none,0,rfl⟩,Z9z (ad:=none) fun h=>absurd rfl h⟩
 ·exact rest h
def Zjv:AC→Bool
 |.d .nils | .cap0=>true
 |_=>false
theorem Zc9 {w:World} {S:Nat→Prop} {β:Nat→Option Nat} {x:AC} {v:Value} (h:Zjv x=true) (hv:x.Rep w S β v):∃ ad,v=.slice ad 0 0:=by
 cases x with
 |d c=>cases c <;> simp [Zjv] at h; exact ⟨none,by simpa only [AC.Rep,C.Rep] using hv⟩
 |cap0=>exact hv
 |_=>simp [Zjv] at h
theorem Zgw {P:Program} {G:Gh} {o:Oper} {st:St} {t t2 e:TypeId} {x y:Operand} {sz d by_:Nat} {rx:List (List C)} {q:AC} {pr:Prop} {zs:Array Value} {β:Nat→Option Nat} {S:Nat→Prop} {a:Act} {w:World} {ads:Option Addr} {st0:St} (hs:Sim G β S st a w) (hs0:Sim G β S st0 a w)
  (ho:o.op=.call { callee:=.builtin .append,args:=#[x,y],argTypes:=#[t,t2] }) (hv:a.eval x=.slice ads 0 0) (hy:Zjd st0 y=some (.v (.one q))) (hq:srcOf P t t2 st0 q=some (sz,rx,pr)) (hp:pr) (hpos:0 < sz)
  (he:Zjc P t=some (e,sz)) (hz:zeroT P e=some zs) (hzl:zs.size=sz) (hb:bytesT P e=some by_) (h1:rx.length * by_≤140737488355328) (h2:rx.length≤9223372036854775807) (hd:d < G.n0) :
  ∃ β' S' v w',(execOp a.eval o).run P w=.ok (.value v) w'∧AV.Rep w' S' β' (.v (.one (.vw d sz 0 rx.length))) v∧Sim G β' S' (st.new d (.arr sz rx true)) a w':=by
 obtain ⟨hsrc,news,m1,m3,mone,mlen,mf⟩:=srcOf_rep (P:=P) hs0 hq hp (Z0p hs0 hy)
 obtain ⟨hu,hsz⟩:=Z55 he
 unfold zeroT at hz
 unfold bytesT at hb
 cases hi:P.info? e with
 |none=>rw [hi] at hz; simp at hz
 |some ie =>
  rw [hi] at hz hb
  simp only [vo,ym] at hz
  obtain ⟨z,hz,rfl⟩:=hz
  have hie:ie.size=sz:=by unfold sizeT at hsz; rw [hi] at hsz; simpa using hsz
  have hby:ie.bytes=by_:=by simpa using hb
  have hrun0:execOp a.eval o=Zj7 (Builtin.append_ #[t,t2] o.type #[a.eval x,a.eval y]):=by
   rw [Z9b ho]
   show Zj7 (Builtin.append_ #[t,t2] o.type (#[x,y].map a.eval))=_
   simp
  by_cases hne:rx.length=0
  ·have hrx0:rx=[]:=xy hne
   subst hrx0
   obtain ⟨β',q1,q2,q3⟩:=hs.none d hd (.arr sz [] true) ⟨rfl,rfl,hpos⟩
   refine ⟨β',S,.slice ads 0 0,w, ?_,.inl ⟨q1,rfl,rfl,ads,rfl⟩,q3⟩
   rw [hrun0,hv]
   exact Z1g (run_append_none t o.type e ie hu hi ads t2 _ (by simpa using hsrc))
  ·have hge:=grownCap_ge w (0+rx.length) 0 e
   have hr1:=Zb6 (P:=P) (w:=w) t o.type e ie z hu hi hz ads 0 0 [] (by rw [hie]; cases ads <;> simp [Builtin.firstCells,loadCells,loadCellsFrom]) t2 _ rx.length hsrc news (by rw [hie]; exact mf _ (fun _=>rfl))
    (by omega) (by omega) (growslice_fits (by omega) (by rw [hby,xk]; exact h1))
   simp only [xk] at hr1 hge
   generalize grownCap w rx.length 0 e=nc at hr1 hge
   have s0':Sim G β S st a w.drew:=hs.drew
   have hcells:((#[]++news.toArray++Builtin.zeroCells z.cells (nc - rx.length)):Array Value).size=nc * sz:=by
    simp only [Array.size_append,jh,size_zeroCells,hzl,m1,xx,xk]
    rw [← ug]
    congr 1
    omega
   obtain ⟨β',q1,q2,q3⟩:=s0'.alloc d hd (#[]++news.toArray++Builtin.zeroCells z.cells (nc - rx.length)) e (.arr sz rx true) (fun β' w' hβ hw hsh hh2=>by
    refine ⟨_,e,hh2,hpos,Zj2.of_flat mlen fun j c hj=>?_,by rw [hcells]; exact ql _ hge,fun h=>by cases h⟩
    obtain ⟨u,hu',hrep⟩:=m3.get j c hj
    refine ⟨u, ?_,C.Rep.mono (fun _ hb=>hb) hw c u (C.Rep.mono (w:=w) (w':=w.drew) (fun _ hb=>hb) (fun _ _=>rfl) c u hrep)⟩
    rw [Z0w hh2,xk]
    have hjl:=(List.getElem?_eq_some_iff.1 hu').1
    rw [Array.getElem?_append_left (by simp; omega)]
    rw [← hu']
    simp)
   refine ⟨β',S,_,_,by rw [hrun0,hv]; exact Z1g hr1,.inr ⟨w.heap.size,nc,q1, ?_,hge,e, ?_⟩,q3⟩
   ·rw [vz]
   ·have hnew:(w.drew.alloc (.cells (#[]++news.toArray++Builtin.zeroCells z.cells (nc - rx.length)) e)).heap[w.drew.heap.size]? = some (.cells (#[]++news.toArray++Builtin.zeroCells z.cells (nc - rx.length)) e (0,0)):=by
     show (w.drew.heap.push _)[w.drew.heap.size]? = _
     rw [uj,if_pos rfl]
    unfold World.shape?
    have hnew':(w.drew.alloc (.cells (#[]++news.toArray++Builtin.zeroCells z.cells (nc - rx.length)) e)).heap[w.heap.size]? = some (.cells (#[]++news.toArray++Builtin.zeroCells z.cells (nc - rx.length)) e (0,0)):=hnew
    rw [hnew',xk]
    simp only
    rw [hcells]
theorem op_append_new {P:Program} {G:Gh} {o:Oper} {st:St} {t t2 e:TypeId} {x y:Operand} {sz d by_:Nat} {rx:List (List C)} {p q:AC} {pr:Prop} {zs:Array Value}
  (ho:o.op=.call { callee:=.builtin .append,args:=#[x,y],argTypes:=#[t,t2] }) (hx:Zjd st x=some (.v (.one p))) (hr0:Zjv p=true) (hy:Zjd st y=some (.v (.one q))) (hq:srcOf P t t2 st q=some (sz,rx,pr)) (hp:pr) (hpos:0 < sz)
  (he:Zjc P t=some (e,sz)) (hz:zeroT P e=some zs) (hzl:zs.size=sz) (hb:bytesT P e=some by_) (h1:rx.length * by_≤140737488355328) (h2:rx.length≤9223372036854775807) (hd:d < G.n0) :
  OpWp P G o st (.v (.one (.vw d sz 0 rx.length))) (st.new d (.arr sz rx true)) :=
 OpWp.of_value fun β S a w hs=>by
  obtain ⟨ads,hv⟩:=Zc9 hr0 (Z0p hs hx)
  exact Zgw hs hs ho hv hy hq hp hpos he hz hzl hb h1 h2 hd
theorem op_append {P:Program} {G:Gh} {o:Oper} {st:St} {t t2 e:TypeId} {x y:Operand} {s sz d n by_:Nat} {rows rx:List (List C)} {more:Bool} {q:AC} {pr:Prop} {zs:Array Value}
    (ho:o.op=.call { callee:=.builtin .append,args:=#[x,y],argTypes:=#[t,t2] }) (hx:Zjd st x=some (.v (.one (.vw s sz 0 n)))) (hy:Zjd st y=some (.v (.one q))) (hg:Zjf s st.obs=some (.arr sz rows more)) (hq:srcOf P t t2 st q=some (sz,rx,pr)) (hp:pr) (hn:n=rows.length)
    (he:Zjc P t=some (e,sz)) (hz:zeroT P e=some zs) (hzl:zs.size=sz) (hpos0:0 < sz) (hb:bytesT P e=some by_) (h1:(rows.length+rx.length) * by_≤140737488355328) (h2:rows.length+rx.length≤9223372036854775807) (hd:d < G.n0) :
    OpWp P G o st (.v (.one (.vw d sz 0 (rows.length+rx.length)))) { ((st.kill s).kill d) with obs:=(d,.arr sz (rows++rx) true)::((st.kill s).kill d).obs } :=
  OpWp.of_value fun β S a w hs=>by
    have hmem:=Z22 s _ _ hg
    obtain ⟨hu,hsz⟩:=Z55 he
    subst hn
    rcases Z0p hs hx with ⟨hb0,_,hn0,ads,hv⟩ | ⟨b0,cap,hb0,hv,hcap,ts,hshape⟩
    · -- it is not there yet
      have hrows:rows=[]:=xy hn0
      subst hrows
      have s1:=hs.turn (β':=β) s (fun _ hb=>hb) (Zj3.refl _ _) (Zj4.refl _) (fun _ _=>rfl) (fun s' o' b hm' hne hb'=>⟨rfl,(hs.ob s' o' b hm' hb').2.1⟩) hs.lt (xw _) (fun _ _ _=>rfl) rfl rfl rfl (.inl rfl) hs.src
      have:=Zgw s1 hs ho hv hy hq hp hpos0 he hz hzl hb (by simpa using h1) (by simpa using h2) hd
      simpa [St.new] using this
    obtain ⟨⟨vs,t',hh,hpos,hr,hle,hmore⟩,hnS,hown⟩:=hs.ob s _ b0 hmem hb0
    obtain ⟨hsrc,news,m1,m3,mone,mlen,mf⟩:=srcOf_rep (P:=P) hs hq hp (Z0p hs hy)
    rw [vz] at hv
    unfold World.shape? at hshape
    rw [hh] at hshape
    simp only [yn,yt,xk] at hshape
    obtain ⟨_,hvsz⟩:=hshape
    unfold zeroT at hz
    unfold bytesT at hb
    cases hi:P.info? e with
    | none=>rw [hi] at hz; simp at hz
    | some ie =>
      rw [hi] at hz hb
      simp only [vo,ym] at hz
      obtain ⟨z,hz,rfl⟩:=hz
      have hie:ie.size=sz:=by unfold sizeT at hsz; rw [hi] at hsz; simpa using hsz
      have hby:ie.bytes=by_:=by simpa using hb
      obtain ⟨olds,k1,k3,kone,klen,kf⟩:=Z9z (P:=P) (cap:=cap) (ad:=some ⟨b0,0,none⟩) (rows:=rows) (sz:=sz) (w:=w) (S:=S) fun _=>⟨b0,0,rfl,hr⟩
      have hlens:∀ r ∈ rows++rx,r.length=sz:=by
        intro r hr'
        rcases List.mem_append.1 hr' with h | h
        · exact klen r h
        · exact mlen r h
      have hflat:(rows++rx).flatten=rows.flatten++rx.flatten:=by simp
      have hrun0:execOp a.eval o=Zj7 (Builtin.append_ #[t,t2] o.type #[a.eval x,a.eval y]):=by
        rw [Z9b ho]
        show Zj7 (Builtin.append_ #[t,t2] o.type (#[x,y].map a.eval))=_
        simp
      have all:∀ (j:Nat) (c:C),(rows++rx).flatten[j]? = some c→∃ u,(olds++news)[j]? = some u∧C.Rep w S c u:=by
        intro j c hj
        rw [hflat] at hj
        exact (k3.append m3).get j c hj
      by_cases hroom:rows.length+rx.length≤cap
      · -- there is room: the same block
        have hin:rows.length * sz+news.length≤vs.size:=by
          have:=ql sz hroom
          rw [ug] at this
          omega
        have hr1:=Zb8 (P:=P) (w:=w) t o.type e ie hu hi b0 rows.length cap t2 _ rx.length hsrc news (by rw [hie]; exact m1) (by rw [hie]; exact mf w fun _=>rfl) mone hroom
          (fun j hj=>by rw [hie,Z0w hh,xq (by omega)]; rfl) (fun j hj=>Z6y hh _)
        rw [hie] at hr1
        obtain ⟨vs',hh',hsz'⟩:=Z5h b0 news (rows.length * sz) w vs t' hh
        obtain ⟨e1,e2,e3,e4⟩:=Z6t b0 news (rows.length * sz) w
        have hshm:=Z6c b0 news (rows.length * sz) w vs t' hh
        have hother:∀ b,b ≠ b0→(w.setCells b0 (rows.length * sz) news).heap[b]? = w.heap[b]? := fun b hb=>Z1z _ _ _ _ _ hb
        have hSo:Zj3 S w (w.setCells b0 (rows.length * sz) news):=fun b hb=>hother b fun e=>hnS (e ▸ hb)
        have s1:=hs.turn (β':=β) s (fun _ hb=>hb) hSo hshm (fun _ _=>rfl) (fun s' o' b hm' hne hb'=>⟨hother _ fun e=>hne (hs.inj s' o' s _ b0 hm' hmem (e ▸ hb') hb0),(hs.ob s' o' b hm' hb').2.1⟩)
          (fun b hb=>by rw [e1]; exact hs.lt b hb) (by omega) (fun b hb1 hb2=>hother b fun e=>by
            rcases hown with g | g
            · exact hb2 (e ▸ g)
            · omega) e2 e3 e4 (.inl rfl) hs.src
        have s2:=s1.turn (β':=fun s'=>if s'=d then some b0 else β s') d (fun _ hb=>hb) (Zj3.refl _ _) (Zj4.refl _) (fun s' hne=>by simp [hne]) (fun s' o' b hm' hne hb'=>⟨rfl,(s1.ob s' o' b hm' hb').2.1⟩)
          (fun b hb=>s1.lt b hb) (xw _) (fun _ _ _=>rfl) rfl rfl rfl (.inr hd) s1.src
        refine ⟨_,S,_,_,by rw [hrun0,hv]; exact Z1g hr1,.inr ⟨b0,cap,by simp, ?_,hroom,t', ?_⟩,s2.add d _ ?_ (b:=b0) (by simp) ⟨vs',t',hh',hpos, ?_, ?_,fun h=>by cases h⟩ hnS hown ?_⟩
        · simp
        · unfold World.shape?
          rw [hh',xk]
          simp only
          rw [hsz',hvsz]
        · intro o' hm'
          obtain ⟨_,_,_,h3⟩:=Z2u d _ d o' hm'
          exact h3 rfl
        · refine Zj2.of_flat hlens fun j c hj=>?_
          obtain ⟨u,hu',hrep⟩:=all j c hj
          refine ⟨u, ?_,C.Rep.mono (fun _ hb=>hb) hSo c u hrep⟩
          rw [xk]
          by_cases hjo:j < olds.length
          · rw [qx hjo] at hu'
            rw [World.cell?_setCells_out _ _ _ _ _ (fun _ _=>.inl (by simp; omega))]
            have hj2:j < rows.flatten.length:=by rw [k3.length]; exact hjo
            obtain ⟨us2,p1,p2,p3⟩:=hr.flat
            have hrun1:=kf w fun _=>rfl
            have hrun2:=run_firstCells_some (P:=P) w sz rows.length ⟨b0,0,none⟩ rows.length cap us2 p1 (fun j u hj=>by rw [Addr.add_mid]; exact p2 j u hj)
            rw [hrun1] at hrun2
            injection hrun2 with hrun2
            have:olds=us2:=by have:=congrArg Array.toList hrun2; simpa using this
            subst this
            have:=p2 j u hu'
            rwa [xk] at this
          · rw [qg (by omega)] at hu'
            have hjn:=(List.getElem?_eq_some_iff.1 hu').1
            have:=World.cell?_setCells_in b0 news (rows.length * sz) w (fun m hm=>by rw [Z0w hh,xq (by omega)]; rfl) (j - olds.length) hjn
            rw [show rows.length * sz+(j - olds.length)=j by omega] at this
            rw [this, ← hu',yu hjn]
        · rw [yw,hsz',hvsz]
          exact ql _ hroom
        · intro s' o' hm'
          obtain ⟨o1,h1',_,h3⟩:=Z2u d _ s' o' hm'
          obtain ⟨o2,h2',_,h4⟩:=Z2u s st.obs s' o1 h1'
          simp only [h3,if_false]
          exact fun e=>h4 (hs.inj s' o2 s _ b0 h2' hmem e hb0)
      · -- there is none: a new block
        have hr1:=Zb6 (P:=P) (w:=w) t o.type e ie z hu hi hz (some ⟨b0,0,none⟩) rows.length cap olds (by rw [hie]; exact kf _ fun _=>rfl) t2 _ rx.length hsrc news (by rw [hie]; exact mf _ fun _=>rfl)
          (by omega) (by omega) (growslice_fits (by omega) (by rw [hby]; exact h1))
        have hge:=grownCap_ge w (rows.length+rx.length) cap e
        generalize grownCap w (rows.length+rx.length) cap e=nc at hr1 hge
        have s0:=hs.turn (β':=β) (w':=w.drew) s (fun _ hb=>hb) (fun _ _=>rfl) (fun _ _ h=>h) (fun _ _=>rfl) (fun s' o' b hm' hne hb'=>⟨rfl,(hs.ob s' o' b hm' hb').2.1⟩) (fun b hb=>hs.lt b hb) (xw _) (fun _ _ _=>rfl) rfl rfl rfl (.inl rfl) hs.src
        have hcells:((olds.toArray++news.toArray++Builtin.zeroCells z.cells (nc - (rows.length+rx.length))):Array Value).size=nc * sz:=by
          simp only [Array.size_append,jh,size_zeroCells,hzl,k1,m1]
          rw [← ug, ← ug]
          congr 1
          omega
        obtain ⟨β',q1,q2,q3⟩:=s0.alloc d hd (olds.toArray++news.toArray++Builtin.zeroCells z.cells (nc - (rows.length+rx.length))) e (.arr sz (rows++rx) true) (fun β' w' hβ hw hsh hh2=>by
          refine ⟨_,e,hh2,hpos,Zj2.of_flat hlens fun j c hj=>?_,by rw [hcells,yw]; exact ql _ hge,fun h=>by cases h⟩
          obtain ⟨u,hu',hrep⟩:=all j c hj
          refine ⟨u, ?_,C.Rep.mono (fun _ hb=>hb) hw c u (C.Rep.mono (w:=w) (w':=w.drew) (fun _ hb=>hb) (fun _ _=>rfl) c u hrep)⟩
          rw [Z0w hh2,xk]
          have hjl:=(List.getElem?_eq_some_iff.1 hu').1
          rw [Array.getElem?_append_left (by simp at hjl ⊢; omega)]
          rw [← hu']
          simp)
        refine ⟨β',S,_,_,by rw [hrun0,hv]; exact Z1g hr1,.inr ⟨w.heap.size,nc,q1, ?_,hge,e, ?_⟩,q3⟩
        · rw [vz]
        · have hnew:(w.drew.alloc (.cells (olds.toArray++news.toArray++Builtin.zeroCells z.cells (nc - (rows.length+rx.length))) e)).heap[w.heap.size]? = some (.cells (olds.toArray++news.toArray++Builtin.zeroCells z.cells (nc - (rows.length+rx.length))) e (0,0)):=by
            show (w.drew.heap.push _)[w.drew.heap.size]? = _
            rw [uj,if_pos rfl]
          unfold World.shape?
          rw [hnew,xk]
          simp only
          rw [hcells]
theorem elemT_size {P:Program} {t e:TypeId} {sz:Nat} (h:Zjc P t=some (e,sz)):(P.info? e).map (·.size)=some sz:=(Z55 h).2
theorem op_append_in {P:Program} {G:Gh} {o:Oper} {st:St} {t t2 e:TypeId} {x y:Operand} {s sz d n:Nat} {rows rx:List (List C)} {q:AC} {pr:Prop}
  (ho:o.op=.call { callee:=.builtin .append,args:=#[x,y],argTypes:=#[t,t2] }) (hx:Zjd st x=some (.v (.one (.vw s sz 0 n)))) (hy:Zjd st y=some (.v (.one q))) (hg:Zjf s st.obs=some (.arr sz rows false)) (hq:srcOf P t t2 st q=some (sz,rx,pr)) (hp:pr) (hn:n+rx.length≤rows.length)
  (he:Zjc P t=some (e,sz)) (hie:(P.info? e).map (·.size)=some sz) (hpos0:0 < sz) (hd:d < G.n0) :
  OpWp P G o st (.v (.one (.vw d sz 0 (n+rx.length)))) { ((st.kill s).kill d) with obs:=(d,.arr sz (rows.take n++rx++rows.drop (n+rx.length)) false)::((st.kill s).kill d).obs } :=
 OpWp.of_value fun β S a w hs=>by
  have hmem:=Z22 s _ _ hg
  obtain ⟨hu,hsz⟩:=Z55 he
  rcases Z0p hs hx with ⟨hb0,_,hn0,ads,hv⟩ | ⟨b0,cap,hb0,hv,hcap,ts,hshape⟩
  ·exact absurd (hs.out s _ hmem hb0).2.1 (by simp)
  obtain ⟨⟨vs,t',hh,hpos,hr,hle,hmore⟩,hnS,hown⟩:=hs.ob s _ b0 hmem hb0
  have hvl:vs.size=rows.length * sz:=hmore rfl
  obtain ⟨hsrc,news,m1,m3,mone,mlen,mf⟩:=srcOf_rep (P:=P) hs hq hp (Z0p hs hy)
  rw [vz] at hv
  unfold World.shape? at hshape
  rw [hh] at hshape
  simp only [yn,yt,xk] at hshape
  obtain ⟨_,hvsz⟩:=hshape
  have hcr:cap=rows.length:=uu hpos (by rw [← hvsz,hvl])
  cases hi:P.info? e with
  |none=>rw [hi] at hie; simp at hie
  |some ie =>
   have hie:ie.size=sz:=by rw [hi] at hie; simpa using hie
   obtain ⟨us,u1,u2,u3⟩:=hr.flat
   have hrun0:execOp a.eval o=Zj7 (Builtin.append_ #[t,t2] o.type #[a.eval x,a.eval y]):=by
    rw [Z9b ho]
    show Zj7 (Builtin.append_ #[t,t2] o.type (#[x,y].map a.eval))=_
    simp
   have hroom:n+rx.length≤cap:=by omega
   have hmul:=ql sz hn
   rw [ug] at hmul
   have hin:n * sz+news.length≤vs.size:=by omega
   have hr1:=Zb8 (P:=P) (w:=w) t o.type e ie hu hi b0 n cap t2 _ rx.length hsrc news (by rw [hie]; exact m1) (by rw [hie]; exact mf w fun _=>rfl) mone hroom
    (fun j hj=>by rw [hie,Z0w hh,xq (by omega)]; rfl) (fun j hj=>Z6y hh _)
   rw [hie] at hr1
   obtain ⟨vs',hh',hsz'⟩:=Z5h b0 news (n * sz) w vs t' hh
   obtain ⟨e1,e2,e3,e4⟩:=Z6t b0 news (n * sz) w
   have hshm:=Z6c b0 news (n * sz) w vs t' hh
   have hother:∀ b,b ≠ b0→(w.setCells b0 (n * sz) news).heap[b]? = w.heap[b]? := fun b hb=>Z1z _ _ _ _ _ hb
   have hSo:Zj3 S w (w.setCells b0 (n * sz) news):=fun b hb=>hother b fun e=>hnS (e ▸ hb)
   have s1:=hs.turn (β':=β) s (fun _ hb=>hb) hSo hshm (fun _ _=>rfl) (fun s' o' b hm' hne hb'=>⟨hother _ fun e=>hne (hs.inj s' o' s _ b0 hm' hmem (e ▸ hb') hb0),(hs.ob s' o' b hm' hb').2.1⟩)
    (fun b hb=>by rw [e1]; exact hs.lt b hb) (by omega) (fun b hb1 hb2=>hother b fun e=>by
     rcases hown with g | g
     ·exact hb2 (e ▸ g)
     ·omega) e2 e3 e4 (.inl rfl) hs.src
   have s2:=s1.turn (β':=fun s'=>if s'=d then some b0 else β s') d (fun _ hb=>hb) (Zj3.refl _ _) (Zj4.refl _) (fun s' hne=>by simp [hne]) (fun s' o' b hm' hne hb'=>⟨rfl,(s1.ob s' o' b hm' hb').2.1⟩)
    (fun b hb=>s1.lt b hb) (xw _) (fun _ _ _=>rfl) rfl rfl rfl (.inr hd) s1.src
   have hlenN:(rows.take n++rx++rows.drop (n+rx.length)).length=rows.length:=by simp; omega
   have hlens:∀ r ∈ rows.take n++rx++rows.drop (n+rx.length),r.length=sz:=by
    intro r hr'
    rcases List.mem_append.1 hr' with h | h
    ·rcases List.mem_append.1 h with h | h
     ·exact hr.lens r (zw h)
     ·exact mlen r h
    ·exact hr.lens r (List.mem_of_mem_drop h)
   have hlT:(rows.take n).flatten.length=n * sz:=by
    rw [Z8g (sz:=sz) (fun r h=>hr.lens r (zw h)),qy,jd (by omega)]
   have hlX:rx.flatten.length=rx.length * sz:=Z8g mlen
   have hlX':rx.flatten.length=news.length:=m3.length
   refine ⟨_,S,_,_,by rw [hrun0,hv]; exact Z1g hr1,.inr ⟨b0,cap,by simp, ?_,hroom,t', ?_⟩,s2.add d _ ?_ (b:=b0) (by simp) ⟨vs',t',hh',hpos, ?_, ?_,fun _=>?_⟩ hnS hown ?_⟩
   ·simp
   ·unfold World.shape?
    rw [hh',xk]
    simp only
    rw [hsz',hvsz]
   ·intro o' hm'
    obtain ⟨_,_,_,h3⟩:=Z2u d _ d o' hm'
    exact h3 rfl
   ·refine Zj2.of_flat hlens fun j c hj=>?_
    rw [xk]
    rw [qf,qf] at hj
    by_cases hj1:j < n * sz
    ·rw [qb,qx (by omega)] at hj
     have hjr:rows.flatten[j]? = some c:=by
      rw [← ku n rows,qf,qx (by omega)]; exact hj
     obtain ⟨u,hu',hrep⟩:=u3.get j c hjr
     refine ⟨u, ?_,C.Rep.mono (fun _ hb=>hb) hSo c u hrep⟩
     rw [World.cell?_setCells_out _ _ _ _ _ (fun _ _=>.inl (by simp; omega))]
     have:=u2 j u hu'
     rwa [xk] at this
    ·by_cases hj2:j < n * sz+news.length
     ·rw [qx (by rw [yw]; omega),qg (by omega),hlT] at hj
      obtain ⟨u,hu',hrep⟩:=m3.get _ c hj
      refine ⟨u, ?_,C.Rep.mono (fun _ hb=>hb) hSo c u hrep⟩
      have hjn:=(List.getElem?_eq_some_iff.1 hu').1
      have:=World.cell?_setCells_in b0 news (n * sz) w (fun m hm=>by rw [Z0w hh,xq (by omega)]; rfl) (j - n * sz) hjn
      rw [show n * sz+(j - n * sz)=j by omega] at this
      rw [this, ← hu',yu hjn]
     ·rw [qg (by rw [yw]; omega),yw,hlT,hlX] at hj
      have hjr:rows.flatten[j]? = some c:=by
       rw [← ku (n+rx.length) rows,qf,qg (by
        rw [Z8g (sz:=sz) (fun r h=>hr.lens r (zw h)),qy,jd hn,ug]; omega),Z8g (sz:=sz) (fun r h=>hr.lens r (zw h)),qy,jd hn,ug]
       exact hj
      obtain ⟨u,hu',hrep⟩:=u3.get j c hjr
      refine ⟨u, ?_,C.Rep.mono (fun _ hb=>hb) hSo c u hrep⟩
      rw [World.cell?_setCells_out _ _ _ _ _ (fun _ _=>.inr (by simp; omega))]
      have:=u2 j u hu'
      rwa [xk] at this
   ·rw [hlenN,hsz',hvl]
    exact xw _
   ·rw [hsz',hlenN,hvl]
   ·intro s' o' hm'
    obtain ⟨o1,h1',_,h3⟩:=Z2u d _ s' o' hm'
    obtain ⟨o2,h2',_,h4⟩:=Z2u s st.obs s' o1 h1'
    simp only [h3,if_false]
    exact fun e=>h4 (hs.inj s' o2 s _ b0 h2' hmem e hb0)
theorem op_append_make {P:Program} {G:Gh} {o:Oper} {st:St} {t tn e:TypeId} {x y:Operand} {sz d by_:Nat} {k:Int} {kn:IntKind} {zs:Array Value}
  (ho:o.op=.call { callee:=.builtin .append,args:=#[x,y],argTypes:=#[t,tn] }) (hx:Zjd st x=some (.v (.one (.d .nils)))) (hy:intA st y=some k) (htn:P.underlying tn=some (.int kn)) (hpos:0 < sz)
  (he:Zjc P t=some (e,sz)) (hz:zeroT P e=some zs) (hzl:zs.size=sz) (hb:bytesT P e=some by_) (h0:0 < k) (h1:k * (by_:Int)≤140737488355328) (h2:k≤9223372036854775807) (hd:d < G.n0) :
  OpWp P G o st (.v (.one (.vw d sz 0 k.toNat))) (st.new d (.arr sz [] true)) :=
 OpWp.of_value fun β S a w hs=>by
  have hv:=Z0p hs hx
  simp only [AV.Rep,A1.Rep,AC.Rep,C.Rep] at hv
  obtain ⟨kq,hvy⟩:=intA_rep hs hy
  obtain ⟨hu,hsz⟩:=Z55 he
  unfold zeroT at hz
  unfold bytesT at hb
  cases hi:P.info? e with
  |none=>rw [hi] at hz; simp at hz
  |some ie =>
   rw [hi] at hz hb
   simp only [vo,ym] at hz
   obtain ⟨z,hz,rfl⟩:=hz
   have hie:ie.size=sz:=by unfold sizeT at hsz; rw [hi] at hsz; simpa using hsz
   have hby:ie.bytes=by_:=by simpa using hb
   have hrun0:execOp a.eval o=Zj7 (Builtin.append_ #[t,tn] o.type #[a.eval x,a.eval y]):=by
    rw [Z9b ho]
    show Zj7 (Builtin.append_ #[t,tn] o.type (#[x,y].map a.eval))=_
    simp
   obtain ⟨n,rfl⟩:=ul (Int.le_of_lt h0)
   have hn0:0 < n:=by omega
   have h48:n * ie.bytes≤281474976710656:=by
    have:((n * by_:Nat):Int)≤140737488355328:=by rw [kv]; exact h1
    rw [hby]
    omega
   have hr1:=Lib.run_append_nil_zeros (P:=P) w t tn o.type e ie z kq kn hu htn hi hz n hn0 (by omega) (by omega) h48
   have hge:=grownCap_ge w n 0 e
   generalize grownCap w n 0 e=nc at hr1 hge
   have s0':Sim G β S st a w.drew:=hs.drew
   have hcells:(Builtin.zeroCells z.cells n++Builtin.zeroCells z.cells (nc - n)).size=nc * sz:=by
    simp only [Array.size_append,size_zeroCells,hzl]
    rw [← ug]
    congr 1
    omega
   obtain ⟨β',q1,q2,q3⟩:=s0'.alloc d hd (Builtin.zeroCells z.cells n++Builtin.zeroCells z.cells (nc - n)) e (.arr sz [] true) (fun β' w' hβ hw hsh hh2 =>
    ⟨_,e,hh2,hpos,by simp only [Zj2],by simp,fun h=>by cases h⟩)
   refine ⟨β',S,_,_,by rw [hrun0,hv,hvy]; exact Z1g hr1,.inr ⟨w.heap.size,nc,q1, ?_,hge,e, ?_⟩,q3⟩
   ·rw [vz]; rfl
   ·have hnew:(w.drew.alloc (.cells (Builtin.zeroCells z.cells n++Builtin.zeroCells z.cells (nc - n)) e)).heap[w.heap.size]? = some (.cells (Builtin.zeroCells z.cells n++Builtin.zeroCells z.cells (nc - n)) e (0,0)):=by
     show (w.drew.heap.push _)[w.drew.heap.size]? = _
     rw [uj,if_pos rfl]
    unfold World.shape?
    rw [hnew,xk]
    simp only
    rw [hcells]
inductive OC where
  | dat (x:C)
  | own (sz:Nat) (rows:List (List C))
  /-- likewise,with room: n elements; the rows are all that there is room for -/
  | room (sz n:Nat) (rows:List (List C))
  /-- a function that has caught data -/
  | fn (f:FuncId) (cs:List C)
inductive O1 where
 |one (a:OC)
 |agg (cs:List OC)
inductive PV where
 |v (x:O1)
 |obj (cells:List OC)
def OC.Rep (w:World) (F:Nat→Prop):OC→Value→List (Option Nat)→Prop
 |.dat x,v,bs=>bs=[]∧C.Rep w F x v
 |.own sz rows,v,bs=>(bs=[none]∧rows=[]∧0 < sz∧∃ a,v=.slice a 0 0)∨∃ b cap vs t,bs=[some b]∧v=.slice (some ⟨b,0,none⟩) rows.length cap∧rows.length≤cap∧w.heap[b]? = some (.cells vs t (0,0))∧vs.size=cap * sz∧0 < sz∧Zj2 w F b sz rows 0
 |.room sz n rows,v,bs=>∃ b vs t,bs=[some b]∧v=.slice (some ⟨b,0,none⟩) n rows.length∧n≤rows.length∧w.heap[b]? = some (.cells vs t (0,0))∧vs.size=rows.length * sz∧0 < sz∧Zj2 w F b sz rows 0
 |.fn f cs,v,bs=>bs=[]∧∃ vs:Array Value,v=.func (.func f) #[] vs∧All2 (C.Rep w F) cs vs.toList
def OCs.Rep (w:World) (F:Nat→Prop):List OC→List Value→List (Option Nat)→Prop
 |[],[],bs=>bs=[]
 |c::cs,v::vs,bs=>∃ b1 b2,bs=b1++b2∧c.Rep w F v b1∧OCs.Rep w F cs vs b2
 |_,_,_=>False
def O1.Rep (w:World) (F:Nat→Prop):O1→Value→List (Option Nat)→Prop
 |.one a,v,bs=>a.Rep w F v bs
 |.agg cs,v,bs=>∃ vs:Array Value,v=.agg vs∧OCs.Rep w F cs vs.toList bs
def PV.Rep (w:World) (F:Nat→Prop):PV→Value→List (Option Nat)→Prop
 |.v x,u,bs=>x.Rep w F u bs
 |.obj cells,u,bs=>∃ b vs t bs',bs=some b::bs'∧u=.pointer (some ⟨b,0,none⟩)∧w.heap[b]? = some (.cells vs t (0,0))∧OCs.Rep w F cells vs.toList bs'
def PVs.Rep (w:World) (F:Nat→Prop):List PV→List Value→List (Option Nat)→Prop
 |[],[],bs=>bs=[]
 |p::ps,v::vs,bs=>∃ b1 b2,bs=b1++b2∧p.Rep w F v b1∧PVs.Rep w F ps vs b2
 |_,_,_=>False
def Once:List (Option Nat)→Prop
 |[]=>True
 |none::r=>Once r
 |some b::r=>some b ∉ r∧Once r
theorem Once.inj:∀ {l:List (Option Nat)},Once l→∀ (i j b:Nat),l[i]? = some (some b)→l[j]? = some (some b)→i=j
 |[],_,i,j,b,h,_=>by simp at h
 |none::r,ho,i,j,b,hi,hj=>by
  cases i with
  |zero=>simp at hi
  |succ i =>
   cases j with
   |zero=>simp at hj
   |succ j=>rw [Once.inj (l:=r) ho i j b (by simpa using hi) (by simpa using hj)]
 |some c::r,ho,i,j,b,hi,hj=>by
  obtain ⟨h1,h2⟩:=ho
  cases i with
  |zero =>
   cases j with
   |zero=>rfl
   |succ j =>
    simp at hi hj; subst hi
    exact absurd (qw hj) h1
  |succ i =>
   cases j with
   |zero =>
    simp at hi hj; subst hj
    exact absurd (qw hi) h1
   |succ j=>rw [Once.inj (l:=r) h2 i j b (by simpa using hi) (by simpa using hj)]
def Zjp:List PV→List Value→List Value
 |.obj _::ps,v::vs=>v::Zjp ps vs
 |.v _::ps,_::vs=>Zjp ps vs
 |_,_=>[]
def Zk0:List Value→Value
 |[v]=>v
 |vs=>.tuple vs.toArray
def Post (w:World) (F:Nat→Prop) (bs:List (Option Nat)) (ptrs:List Value) (fin:List PV) (e:Ending) (w':World):Prop :=
  ∃ (vres : List Value) (F' : Nat → Prop) (bs' : List (Option Nat)), e = .returned (Zk0 vres) ∧ PVs.Rep w' F' fin (vres ++ ptrs) bs' ∧ Once bs' ∧ (∀ b, some b ∈ bs' → ¬ F' b ∧ (some b ∈ bs ∨ w.heap.size ≤ b)) ∧
    (∀ b,F b→F' b)∧(∀ b,F' b→b < w'.heap.size∧(F b∨some b ∈ bs∨w.heap.size≤b)) ∧
    (∀ b,b < w.heap.size→some b ∉ bs→w'.heap[b]? = w.heap[b]?)∧w.heap.size≤w'.heap.size∧w'.os=w.os∧w'.tape=w.tape∧w'.output=w.output∧Zj4 w w'
def Ziz (P:Program) (f:FuncId) (args fin:List PV):Prop :=
 ∀ (w:World) (vs:List Value) (F:Nat→Prop) (bs:List (Option Nat)),(∀ b,F b→b < w.heap.size)→PVs.Rep w F args vs bs→Once bs→(∀ b,some b ∈ bs→¬ F b)→Calls P f vs.toArray w (Post w F bs (Zjp args vs) fin)
theorem OC.Rep.blocks {w:World} {F:Nat→Prop} {c:OC} {v:Value} {bs:List (Option Nat)} (h:c.Rep w F v bs):∀ b,some b ∈ bs→b < w.heap.size:=by
 cases c with
 |dat x=>simp only [OC.Rep] at h; obtain ⟨rfl,_⟩:=h; intro b hb; cases hb
 |fn f cs=>simp only [OC.Rep] at h; obtain ⟨rfl,_⟩:=h; intro b hb; cases hb
 |own sz rows =>
  rcases h with ⟨rfl,_⟩ | ⟨b,cap,vs,t,rfl,_,_,hh,_⟩
  ·intro b hb; simp at hb
  ·intro b' hb'
   simp at hb'
   subst hb'
   exact (Array.getElem?_eq_some_iff.1 hh).1
 |room sz n rows =>
  obtain ⟨b,vs,t,rfl,_,_,hh,_⟩:=h
  intro b' hb'
  simp at hb'
  subst hb'
  exact (Array.getElem?_eq_some_iff.1 hh).1
theorem OCs.Rep.blocks {w:World} {F:Nat→Prop}:∀ {cs:List OC} {vs:List Value} {bs:List (Option Nat)},OCs.Rep w F cs vs bs→∀ b,some b ∈ bs→b < w.heap.size
 |[],[],bs,h=>by simp only [OCs.Rep] at h; subst h; intro b hb; cases hb
 |c::cs,v::vs,bs,h=>by
  obtain ⟨b1,b2,rfl,h1,h2⟩:=h
  intro b hb
  rcases List.mem_append.1 hb with hb | hb
  ·exact h1.blocks b hb
  ·exact OCs.Rep.blocks h2 b hb
 |[],_::_,_,h=>h.elim
 |_::_,[],_,h=>h.elim
theorem PV.Rep.blocks {w:World} {F:Nat→Prop} {p:PV} {v:Value} {bs:List (Option Nat)} (h:p.Rep w F v bs):∀ b,some b ∈ bs→b < w.heap.size:=by
 cases p with
 |v x =>
  cases x with
  |one a=>exact OC.Rep.blocks (c:=a) (v:=v) (F:=F) h
  |agg cs=>obtain ⟨vs,_,h⟩:=h; exact OCs.Rep.blocks h
 |obj cells =>
  obtain ⟨b,vs,t,bs',rfl,_,hh,h⟩:=h
  intro b' hb'
  rcases List.mem_cons.1 hb' with e | hb'
  ·injection e with e; subst e; exact (Array.getElem?_eq_some_iff.1 hh).1
  ·exact OCs.Rep.blocks h b' hb'
theorem PVs.Rep.blocks {w:World} {F:Nat→Prop}:∀ {ps:List PV} {vs:List Value} {bs:List (Option Nat)},PVs.Rep w F ps vs bs→∀ b,some b ∈ bs→b < w.heap.size
 |[],[],bs,h=>by simp only [PVs.Rep] at h; subst h; intro b hb; cases hb
 |p::ps,v::vs,bs,h=>by
  obtain ⟨b1,b2,rfl,h1,h2⟩:=h
  intro b hb
  rcases List.mem_append.1 hb with hb | hb
  ·exact h1.blocks b hb
  ·exact PVs.Rep.blocks h2 b hb
 |[],_::_,_,h=>h.elim
 |_::_,[],_,h=>h.elim
def OC.enter:OC→Nat→AC × List (Nat × Ob) × Nat
 |.dat x,n=>(.d x,[],n)
 |.own sz rows,n=>(.vw n sz 0 rows.length,[(n,.arr sz rows true)],n+1)
 |.room sz m rows,n=>(.vw n sz 0 m,[(n,.arr sz rows false)],n+1)
 |.fn f cs,n=>(.fn f (cs.map .d),[],n)
def OCs.enter:List OC→Nat→List AC × List (Nat × Ob) × Nat
 |[],n=>([],[],n)
 |c::cs,n =>
  let (a,o,n1):=c.enter n
  let (as,os,n2):=OCs.enter cs n1
  (a::as,o++os,n2)
def O1.enter:O1→Nat→A1 × List (Nat × Ob) × Nat
 |.one a,n=>let (x,o,n1):=a.enter n; (.one x,o,n1)
 |.agg cs,n=>let (xs,o,n1):=OCs.enter cs n; (.agg xs,o,n1)
def PV.enter:PV→Nat→AV × List (Nat × Ob) × Nat
 |.v x,n=>let (y,o,n1):=x.enter n; (.v y,o,n1)
 |.obj cells,n=>let (xs,o,n1):=OCs.enter cells (n+1); (.v (.one (.ptr n 0)),(n,.var xs)::o,n1)
def PVs.enter:List PV→Nat→List AV × List (Nat × Ob) × Nat
 |[],n=>([],[],n)
 |p::ps,n =>
  let (a,o,n1):=p.enter n
  let (as,os,n2):=PVs.enter ps n1
  (a::as,o++os,n2)
def Fits (β:Nat→Option Nat) (n:Nat) (bs:List (Option Nat)):Prop:=∀ i b,bs[i]? = some b→β (n+i)=b
theorem Fits.left {β:Nat→Option Nat} {n:Nat} {b1 b2:List (Option Nat)} (h:Fits β n (b1++b2)):Fits β n b1:=fun i b hi=>h i b (by rw [qx (List.getElem?_eq_some_iff.1 hi).1]; exact hi)
theorem Fits.right {β:Nat→Option Nat} {n:Nat} {b1 b2:List (Option Nat)} (h:Fits β n (b1++b2)):Fits β (n+b1.length) b2:=fun i b hi=>by
 have:=h (b1.length+i) b (by rw [qg (by omega),Nat.add_sub_cancel_left]; exact hi)
 rwa [← Nat.add_assoc] at this
def Ob.Is (w:World) (S:Nat→Prop) (β:Nat→Option Nat) (o:Ob):Option Nat→Prop
 |some b=>Ob.Rep w S β b o
 |none=>o.empty
def Known (w:World) (S:Nat→Prop) (β:Nat→Option Nat) (n len:Nat) (obs:List (Nat × Ob)):Prop:=∀ s o,(s,o) ∈ obs→(n≤s∧s < n+len)∧Ob.Is w S β o (β s)
theorem Known.append {w:World} {S:Nat→Prop} {β:Nat→Option Nat} {n l1 l2:Nat} {o1 o2:List (Nat × Ob)} (h1:Known w S β n l1 o1) (h2:Known w S β (n+l1) l2 o2):Known w S β n (l1+l2) (o1++o2):=fun s o hm=>by
 rcases List.mem_append.1 hm with hm | hm
 ·have:=h1 s o hm; exact ⟨by omega,this.2⟩
 ·have:=h2 s o hm; exact ⟨by omega,this.2⟩
theorem OC.enter_rep {w:World} {F:Nat→Prop} {β:Nat→Option Nat} {c:OC} {v:Value} {bs:List (Option Nat)} {n:Nat} (h:c.Rep w F v bs) (hf:Fits β n bs):(c.enter n).2.2=n+bs.length∧(c.enter n).1.Rep w F β v∧Known w F β n bs.length (c.enter n).2.1:=by
 cases c with
 |dat x =>
  obtain ⟨rfl,hr⟩:=h
  exact ⟨rfl,hr,fun s o hm=>by cases hm⟩
 |fn f cs =>
  obtain ⟨rfl,vs,hv,hr⟩:=h
  exact ⟨rfl,⟨vs,hv,All2.map _ hr⟩,fun s o hm=>by cases hm⟩
 |own sz rows =>
  rcases h with ⟨rfl,rfl,hpos,ad,hv⟩ | ⟨b,cap,vs,t,rfl,hv,hcap,hh,hsz,hpos,hr⟩
  ·have hb:β n=none:=hf 0 none rfl
   refine ⟨rfl,.inl ⟨hb,rfl,rfl,ad,hv⟩,fun s o hm=>?_⟩
   simp only [OC.enter,List.mem_singleton,yt] at hm
   obtain ⟨rfl,rfl⟩:=hm
   refine ⟨by simp, ?_⟩
   rw [hb]
   exact ⟨rfl,rfl,hpos⟩
  have hb:β n=some b:=hf 0 (some b) rfl
  refine ⟨rfl,.inr ⟨b,cap,hb,by rw [hv,vz],hcap,t, ?_⟩,fun s o hm=>?_⟩
  ·unfold World.shape?
   rw [hh,xk]
   simp only
   rw [hsz]
  ·simp only [OC.enter,List.mem_singleton,yt] at hm
   obtain ⟨rfl,rfl⟩:=hm
   refine ⟨by simp, ?_⟩
   rw [hb]
   exact ⟨vs,t,hh,hpos,hr,by rw [hsz]; exact ql _ hcap,fun h=>by cases h⟩
 |room sz m rows =>
  obtain ⟨b,vs,t,rfl,hv,hcap,hh,hsz,hpos,hr⟩:=h
  have hb:β n=some b:=hf 0 (some b) rfl
  refine ⟨rfl,.inr ⟨b,rows.length,hb,by rw [hv,vz],hcap,t, ?_⟩,fun s o hm=>?_⟩
  ·unfold World.shape?
   rw [hh,xk]
   simp only
   rw [hsz]
  ·simp only [OC.enter,List.mem_singleton,yt] at hm
   obtain ⟨rfl,rfl⟩:=hm
   refine ⟨by simp, ?_⟩
   rw [hb]
   exact ⟨vs,t,hh,hpos,hr,by rw [hsz]; exact xw _,fun _=>hsz⟩
theorem OCs.enter_rep {w:World} {F:Nat→Prop} {β:Nat→Option Nat}:∀ {cs:List OC} {vs:List Value} {bs:List (Option Nat)} {n:Nat},OCs.Rep w F cs vs bs→Fits β n bs→(OCs.enter cs n).2.2=n+bs.length∧All2 (AC.Rep w F β) (OCs.enter cs n).1 vs∧Known w F β n bs.length (OCs.enter cs n).2.1
 |[],[],bs,n,h,_=>by simp only [OCs.Rep] at h; subst h; exact ⟨rfl,trivial,fun s o hm=>by cases hm⟩
 |c::cs,v::vs,bs,n,h,hf=>by
  obtain ⟨b1,b2,rfl,h1,h2⟩:=h
  obtain ⟨k1,k2,k3⟩:=OC.enter_rep h1 hf.left
  have hf2:=hf.right
  rw [← k1] at hf2
  obtain ⟨m1,m2,m3⟩:=OCs.enter_rep h2 hf2
  refine ⟨?_,⟨k2,m2⟩, ?_⟩
  ·show (OCs.enter cs (c.enter n).2.2).2.2=_
   rw [m1,k1,yw,Nat.add_assoc]
  ·rw [yw]
   rw [k1] at m3
   have:=k3.append m3
   show Known w F β n (b1.length+b2.length) ((c.enter n).2.1++(OCs.enter cs (c.enter n).2.2).2.1)
   rw [k1]
   exact this
 |[],_::_,_,_,h,_=>h.elim
 |_::_,[],_,_,h,_=>h.elim
theorem PV.enter_rep {w:World} {F:Nat→Prop} {β:Nat→Option Nat} {p:PV} {v:Value} {bs:List (Option Nat)} {n:Nat} (h:p.Rep w F v bs) (hf:Fits β n bs):(p.enter n).2.2=n+bs.length∧(p.enter n).1.Rep w F β v∧Known w F β n bs.length (p.enter n).2.1:=by
 cases p with
 |v x =>
  cases x with
  |one a=>exact OC.enter_rep (c:=a) (v:=v) h hf
  |agg cs =>
   obtain ⟨vs,rfl,h⟩:=h
   obtain ⟨k1,k2,k3⟩:=OCs.enter_rep h hf
   exact ⟨k1,⟨vs,rfl,k2⟩,k3⟩
 |obj cells =>
  obtain ⟨b,vs,t,bs',rfl,rfl,hh,h⟩:=h
  have hb:β n=some b:=hf 0 (some b) rfl
  have hf':Fits β (n+1) bs':=fun i c hi=>by have:=hf (i+1) c (by simpa using hi); rwa [show n+(i+1)=n+1+i by omega] at this
  obtain ⟨k1,k2,k3⟩:=OCs.enter_rep h hf'
  refine ⟨by show (OCs.enter cells (n+1)).2.2=_; rw [k1,xu]; omega,⟨b,hb,rfl⟩,fun s o hm=>?_⟩
  rcases List.mem_cons.1 hm with e | hm
  ·injection e with e1 e2
   subst e1 e2
   exact ⟨by simp,by rw [hb]; exact ⟨vs,t,hh,k2⟩⟩
  ·have:=k3 s o hm
   exact ⟨by rw [xu]; omega,this.2⟩
theorem PVs.enter_rep {w:World} {F:Nat→Prop} {β:Nat→Option Nat}:∀ {ps:List PV} {vs:List Value} {bs:List (Option Nat)} {n:Nat},PVs.Rep w F ps vs bs→Fits β n bs→(PVs.enter ps n).2.2=n+bs.length∧All2 (AV.Rep w F β) (PVs.enter ps n).1 vs∧Known w F β n bs.length (PVs.enter ps n).2.1
 |[],[],bs,n,h,_=>by simp only [PVs.Rep] at h; subst h; exact ⟨rfl,trivial,fun s o hm=>by cases hm⟩
 |c::cs,v::vs,bs,n,h,hf=>by
  obtain ⟨b1,b2,rfl,h1,h2⟩:=h
  obtain ⟨k1,k2,k3⟩:=PV.enter_rep h1 hf.left
  have hf2:=hf.right
  rw [← k1] at hf2
  obtain ⟨m1,m2,m3⟩:=PVs.enter_rep h2 hf2
  refine ⟨?_,⟨k2,m2⟩, ?_⟩
  ·show (PVs.enter cs (c.enter n).2.2).2.2=_
   rw [m1,k1,yw,Nat.add_assoc]
  ·rw [yw]
   rw [k1] at m3
   have:=k3.append m3
   show Known w F β n (b1.length+b2.length) ((c.enter n).2.1++(PVs.enter cs (c.enter n).2.2).2.1)
   rw [k1]
   exact this
 |[],_::_,_,_,h,_=>h.elim
 |_::_,[],_,_,h,_=>h.elim
def startSt (args:List PV) (n ntmps:Nat):St:={ fr:=(PVs.enter args n).1++List.replicate (ntmps - args.length) .bad,obs:=(PVs.enter args n).2.1 }
theorem PVs.Rep.length {w:World} {F:Nat→Prop}:∀ {ps:List PV} {vs:List Value} {bs:List (Option Nat)},PVs.Rep w F ps vs bs→ps.length=vs.length
 |[],[],_,_=>rfl
 |_::_,_::_,_,h=>by obtain ⟨_,_,_,_,h⟩:=h; simp [PVs.Rep.length h]
 |[],_::_,_,h=>h.elim
 |_::_,[],_,h=>h.elim
def parsOf (bs:List (Option Nat)) (n:Nat):List (Nat × Ob)→List (Nat × Nat)
 |[]=>[]
 |(s,_)::r=>match bs.getD (s - n) none with
  |some b=>(s,b)::parsOf bs n r
  |none=>parsOf bs n r
theorem Zg1 {bs:List (Option Nat)} {n:Nat}:∀ {l:List (Nat × Ob)} {s b:Nat},(s,b) ∈ parsOf bs n l ↔ bs.getD (s - n) none=some b∧∃ o,(s,o) ∈ l
 |[],s,b=>by simp [parsOf]
 |(s1,o1)::r,s,b=>by
  have ih:=Zg1 (bs:=bs) (n:=n) (l:=r) (s:=s) (b:=b)
  unfold parsOf
  split
  ·rename_i b1 h1
   simp only [xc,yt,ih]
   constructor
   ·rintro (⟨rfl,rfl⟩ | ⟨h,o,ho⟩)
    ·exact ⟨h1,o1,.inl ⟨rfl,rfl⟩⟩
    ·exact ⟨h,o,.inr ho⟩
   ·rintro ⟨h,o,⟨rfl,rfl⟩ | ho⟩
    ·rw [h1] at h; injection h with h; subst h; exact .inl ⟨rfl,rfl⟩
    ·exact .inr ⟨h,o,ho⟩
  ·rename_i h1
   rw [ih]
   constructor
   ·rintro ⟨h,o,ho⟩; exact ⟨h,o,List.mem_cons.2 (.inr ho)⟩
   ·rintro ⟨h,o,ho⟩
    rcases List.mem_cons.1 ho with e | ho
    ·injection e with e1 e2; subst e1; rw [h1] at h; cases h
    ·exact ⟨h,o,ho⟩
theorem Zio {w:World} {F:Nat→Prop} {args:List PV} {vs:List Value} {bs:List (Option Nat)} (n ntmps:Nat) (hF:∀ b,F b→b < w.heap.size) (h:PVs.Rep w F args vs bs) (hnd:Once bs) (hb:∀ b,some b ∈ bs→¬ F b) :
  Sim { w0:=w,own0:=fun b=>some b ∈ bs,S0:=F,n0:=n,par:=fun s b=>∃ b',b=some b'∧(s,b') ∈ parsOf bs n (PVs.enter args n).2.1 } (fun s=>bs.getD (s - n) none) F (startSt args n ntmps) { tmps:=vs.toArray++Array.replicate (ntmps - vs.toArray.size) undef,defers:=[] } w:=by
 have hfits:Fits (fun s=>bs.getD (s - n) none) n bs:=fun i b hi=>by simp [xe,hi]
 obtain ⟨k1,k2,k3⟩:=PVs.enter_rep h hfits
 have hin:∀ s o,(s,o) ∈ (startSt args n ntmps).obs→∃ i,s=n+i∧i < bs.length∧bs[i]? = some (bs.getD (s - n) none):=by
  intro s o hm
  obtain ⟨⟨a1,a2⟩,_⟩:=k3 s o hm
  refine ⟨s - n,by omega,by omega, ?_⟩
  rw [xe,yu (by omega)]
  rfl
 refine ⟨rfl, ?_,fun s o b hm hbs=>?_,fun s o hm hbs=>?_,fun s1 o1 s2 o2 b m1 m2 e1' e2'=>?_,hF,fun _ hb=>hb,xw _,fun _ _ _=>rfl,rfl,rfl,rfl,fun s b hm=>?_,fun b hb=>.inl hb,Zj4.refl _⟩
 ·rw [Array.toList_append,Array.toList_replicate]
  refine All2.append k2 ?_
  rw [jh, ← h.length]
  generalize ntmps - args.length=m
  induction m with
  |zero=>trivial
  |succ m ih=>exact ⟨trivial,ih⟩
 ·obtain ⟨i,_,hi,hg⟩:=hin s o hm
  have hbs':bs.getD (s - n) none=some b:=hbs
  rw [hbs'] at hg
  have hmem:some b ∈ bs:=qw hg
  have:=(k3 s o hm).2
  simp only [hbs'] at this
  exact ⟨this,hb _ hmem,.inl hmem⟩
 ·have hbs':bs.getD (s - n) none=none:=hbs
  have:=(k3 s o hm).2
  simp only [hbs'] at this
  exact this
 ·obtain ⟨i,e1,hi,hg⟩:=hin s1 o1 m1
  obtain ⟨j,e2,hj,hg'⟩:=hin s2 o2 m2
  have h1:bs.getD (s1 - n) none=some b:=e1'
  have h2:bs.getD (s2 - n) none=some b:=e2'
  rw [h1] at hg
  rw [h2] at hg'
  have:=hnd.inj i j b hg hg'
  omega
 ·obtain ⟨b',rfl,hm⟩:=hm
  obtain ⟨h1,o,ho⟩:=Zg1.1 hm
  exact ⟨(k3 s o ho).1.1,h1⟩
end Lift
