import Derived.Test.YtphieolckpneeaaLift3
import Derived.ChangeShapes
import Derived.ChangeOld
import Derived.Carry
import Derived.SizedLaws
import Derived.OpenShut
/- LIFT,part H1: from what an argument reads as to what it stands for in memory; a law by its contract. -/
set_option linter.unusedVariables false
namespace Lift
open Go Go.RowKit Go.ChangeShapes Go.WideShapes

/-- What kind of thing a cell holds. -/
inductive CK where
  | int (k:IntKind)
  | bool
  | str
  | flt (k:FloatKind)
  | sl (e:TypeId)

def fieldKinds (P:Program) (rec:TypeId → Option (List CK)) : List Field → Nat → Option (List CK)
  | [],_ => some []
  | f :: fs,off => if f.offset = off then (rec f.type).bind fun ks => if ks.length = P.cellsOf f.type then (fieldKinds P rec fs (off + ks.length)).map (ks++·) else none else none
def kinds (P:Program) : Nat → TypeId → Option (List CK)
  | 0,_ => none
  | n + 1,t =>
    match P.underlying t with
    | some (.int k) => some [.int k]
    | some .bool => some [.bool]
    | some .string => some [.str]
    | some (.float k) => some [.flt k]
    | some (.slice e) => some [.sl e]
    | some (.struct fs) => (fieldKinds P (kinds P n) fs.toList 0).bind fun ks => if ks.length = P.cellsOf t then some ks else none
    | _ => none

def OkC (P:Program) : Nat → CK → C → Prop
  | 0 => fun k c => match k with
    | .int k => ∃ z,c = .int k z ∧ (Lit.int k z).wf = true
    | .bool => ∃ b,c = .bool b
    | .str => ∃ s,c = .str s ∧ s.size ≤ maxLen
    | .flt k => ∃ b,c = .flt k b ∧ (Lit.float k b).wf = true
    | .sl _ => False
  | n + 1 => fun k c => match k with
    | .int k => ∃ z,c = .int k z ∧ (Lit.int k z).wf = true
    | .bool => ∃ b,c = .bool b
    | .str => ∃ s,c = .str s ∧ s.size ≤ maxLen
    | .flt k => ∃ b,c = .flt k b ∧ (Lit.float k b).wf = true
    | .sl e => ∃ rows ks,kinds P 8 e = some ks ∧ c = .sl ks.length rows ∧ rows.length ≤ maxLen ∧ ∀ r ∈ rows,All2 (OkC P n) ks r

theorem OkC.mono {P : Program} : ∀ {n : Nat} {k : CK} {c : C},OkC P n k c → OkC P (n + 1) k c := by
  intro n
  induction n with
  | zero =>
    intro k c h
    cases k with
    | sl e => simp only [OkC] at h
    | _ => simpa only [OkC] using h
  | succ n ih =>
    intro k c h
    cases k with
    | sl e =>
      simp only [OkC] at h
      obtain ⟨rows,ks,h1,h2,h3,h4⟩ := h
      show ∃ rows ks,_
      exact ⟨rows,ks,h1,h2,h3,fun r hr => (h4 r hr).imp fun a b hab => ih hab⟩
    | _ => simpa only [OkC] using h

/-- Every slice that is met is of these elements,and each has kinds. -/
def closedB (P:Program) (es:List TypeId) : Bool :=
  es.all fun e => match kinds P 8 e with
    | none => false
    | some ks => ks.length == P.cellsOf e && !ks.isEmpty && ks.all fun k => match k with | .sl e' => es.contains e' | _ => true
def slIn (es:List TypeId) (ks:List CK) : Bool := ks.all fun k => match k with | .sl e' => es.contains e' | _ => true

theorem slIn_append {es : List TypeId} {a b : List CK} (h:slIn es (a++b) = true) : slIn es a = true ∧ slIn es b = true := by
  unfold slIn at h ⊢
  rw [List.all_append,Bool.and_eq_true] at h
  exact h
theorem closedB_at {P : Program} {es : List TypeId} (h:closedB P es = true) {e : TypeId} (he:es.contains e = true) : ∃ ks,kinds P 8 e = some ks ∧ ks.length = P.cellsOf e ∧ ks ≠ [] ∧ slIn es ks = true := by
  unfold closedB at h
  have := List.all_eq_true.1 h e (by simpa using he)
  cases hk : kinds P 8 e with
  | none => rw [hk] at this; cases this
  | some ks =>
    rw [hk] at this
    simp only [Bool.and_eq_true,beq_iff_eq,Bool.not_eq_true',List.isEmpty_eq_false_iff] at this
    exact ⟨ks,rfl,this.1.1,this.1.2,this.2⟩

theorem cells_get {w : World} {a : Addr} {n : Nat} {vs : List Value} (h:w.cells? 0 a n = some vs) : vs.length = n ∧ ∀ i,i < n → w.cell? (a.add i) = vs[i]? := by
  unfold World.cells? at h
  rw [if_pos (Nat.zero_le _)] at h
  refine ⟨by simpa using mapM_some_length h,fun i hi => mapM_some_get h i i (by simp [hi])⟩
theorem cell_spot {w : World} {a : Addr} {v : Value} (h:w.cell? a = some v) : a = ⟨a.block,a.off,none⟩ ∧ a.block < w.heap.size := by
  obtain ⟨b,o,s⟩ := a
  unfold World.cell? at h
  split at h
  · rename_i c t f he
    split at h
    · cases h
    · rename_i hs
      simp at hs
      subst hs
      exact ⟨rfl,(Array.getElem?_eq_some_iff.1 he).1⟩
  · cases h
theorem add_plain (b o n:Nat) : Addr.add ⟨b,o,none⟩ n = ⟨b,o + n,none⟩ := by
  unfold Addr.add
  split
  · subst_vars; rfl
  · rfl
theorem RepCells.of_get {w : World} {F : Nat → Prop} {b : Nat} : ∀ {cs : List C} {vs : List Value} {off : Nat},All2 (C.Rep w F) cs vs → (∀ i,i < vs.length → w.cell? ⟨b,off + i,none⟩ = vs[i]?) → RepCells w F b cs off
  | [],[],_,_,_ => by simp only [RepCells]
  | c :: cs,v :: vs,off,h,hg => by
    simp only [All2] at h
    simp only [RepCells]
    refine ⟨⟨v,by simpa using hg 0 (by simp),h.1⟩,RepCells.of_get h.2 fun i hi => ?_⟩
    have := hg (i + 1) (by simp; omega)
    rw [Nat.add_assoc,Nat.add_comm 1 i,this]
    simp
theorem RepRows.of_get {w : World} {F : Nat → Prop} {b sz : Nat} : ∀ {rows : List (List C)} {off : Nat},(∀ i r,rows[i]? = some r → r.length = sz ∧ RepCells w F b r (off + i * sz)) → RepRows w F b sz rows off
  | [],_,_ => by simp only [RepRows]
  | r :: rs,off,h => by
    simp only [RepRows]
    have h0 := h 0 r (by simp)
    refine ⟨h0.1,by simpa using h0.2,RepRows.of_get fun i x hx => ?_⟩
    have := h (i + 1) x (by simpa using hx)
    refine ⟨this.1, ?_⟩
    have e : off + sz + i * sz = off + (i + 1) * sz := by rw [Nat.add_mul,Nat.one_mul]; omega
    rw [e]; exact this.2
theorem list_of {α : Type} : ∀ {len : Nat} {Q : Nat → α → Prop},(∀ i,i < len → ∃ r,Q i r) → ∃ rows : List α,rows.length = len ∧ ∀ i r,rows[i]? = some r → Q i r
  | 0,Q,_ => ⟨[],rfl,fun i r h => by simp at h⟩
  | len + 1,Q,h => by
    obtain ⟨r0,h0⟩ := h 0 (by omega)
    obtain ⟨rows,hl,hr⟩ := list_of (len := len) (Q := fun i r => Q (i + 1) r) fun i hi => h (i + 1) (by omega)
    refine ⟨r0 :: rows,by simp [hl],fun i r hi => ?_⟩
    cases i with
    | zero => simp at hi; subst hi; exact h0
    | succ i => exact hr i r (by simpa using hi)

variable {H : Type} {enc : TypeId × Value → H} {P : Program} {w : World}

theorem trod_flt {fuel : Nat} {t : TypeId} {k : FloatKind} {cs : List Value} {x : DataW H × List MemPlace} (ht:P.underlying t = some (.float k)) (h:DataW.trod enc P w 0 (fun _ => true) true fuel t cs = some x) : ∃ b,cs = [.float k b] ∧ (Lit.float k b).wf = true := by
  cases fuel with
  | zero => simp [DataW.trod] at h
  | succ n =>
    unfold DataW.trod at h
    rw [ht] at h
    split at h <;> simp_all

theorem fields_read {n : Nat} {rec : TypeId → Option (List CK)} {es : List TypeId} {cs : List Value}
    (ih : ∀ {t : TypeId} {c : List Value} {x : DataW H × List MemPlace} {ks : List CK},DataW.trod enc P w 0 (fun _ => true) true n t c = some x → rec t = some ks → slIn es ks = true → ∃ cs',All2 (C.Rep w (fun b => b < w.heap.size)) cs' c ∧ All2 (OkC P n) ks cs') :
    ∀ {fs : List Field} {off : Nat} {ks : List CK}, fieldKinds P rec fs off = some ks → slIn es ks = true → (∀ f ∈ fs, ∃ y, DataW.trod enc P w 0 (fun _ => true) true n f.type ((cs.drop f.offset).take (P.cellsOf f.type)) = some y) → off + ks.length = cs.length →
      ∃ cs',All2 (C.Rep w (fun b => b < w.heap.size)) cs' (cs.drop off) ∧ All2 (OkC P n) ks cs' := by
  intro fs
  induction fs with
  | nil =>
    intro off ks h _ _ hl
    simp only [fieldKinds,Option.some.injEq] at h
    subst h
    refine ⟨[], ?_,trivial⟩
    rw [List.drop_of_length_le (by simp at hl; omega)]
    trivial
  | cons f fs ihf =>
    intro off ks h hs hf hl
    unfold fieldKinds at h
    split at h
    next ho =>
      simp only [Option.bind_eq_some_iff] at h
      obtain ⟨k1,hk1,h⟩ := h
      split at h
      next hk =>
        simp only [Option.map_eq_some_iff] at h
        obtain ⟨k2,hk2,rfl⟩ := h
        obtain ⟨s1,s2⟩ := slIn_append hs
        obtain ⟨y,hy⟩ := hf f (by simp)
        obtain ⟨c1,r1,o1⟩ := ih hy hk1 s1
        obtain ⟨c2,r2,o2⟩ := ihf hk2 s2 (fun g hg => hf g (by simp [hg])) (by simp at hl; omega)
        refine ⟨c1++c2, ?_,o1.append o2⟩
        have e : cs.drop off = (cs.drop f.offset).take (P.cellsOf f.type)++cs.drop (off + k1.length) := by
          rw [ho,hk, ← List.drop_drop,List.take_append_drop]
        rw [e]
        exact r1.append r2
      next => cases h
    next => cases h

theorem trod_reads {es : List TypeId} (hcl:closedB P es = true) : ∀ (fuel:Nat) {K : Nat} {t : TypeId} {cs : List Value} {x : DataW H × List MemPlace} {ks : List CK},
    DataW.trod enc P w 0 (fun _ => true) true fuel t cs = some x → kinds P K t = some ks → slIn es ks = true → ∃ cs',All2 (C.Rep w (fun b => b < w.heap.size)) cs' cs ∧ All2 (OkC P fuel) ks cs' := by
  intro fuel
  induction fuel with
  | zero => intro K t cs x ks h; simp [DataW.trod] at h
  | succ n ih =>
    intro K t cs x ks h hk hs
    cases K with
    | zero => simp [kinds] at hk
    | succ K =>
      unfold kinds at hk
      split at hk
      next k ht =>
        injection hk with hk; subst hk
        obtain ⟨z,rfl,_,hw⟩ := DataW.trod_int ht h
        exact ⟨[.int k z],⟨by simp only [C.Rep],trivial⟩,⟨⟨z,rfl,hw⟩,trivial⟩⟩
      next ht =>
        injection hk with hk; subst hk
        obtain ⟨z,rfl,_⟩ := DataW.trod_bool ht h
        exact ⟨[.bool z],⟨by simp only [C.Rep],trivial⟩,⟨⟨z,rfl⟩,trivial⟩⟩
      next ht =>
        injection hk with hk; subst hk
        obtain ⟨z,rfl,_,hw⟩ := DataW.trod_string ht h
        exact ⟨[.str z],⟨by simp only [C.Rep],trivial⟩,⟨⟨z,rfl,hw⟩,trivial⟩⟩
      next k ht =>
        injection hk with hk; subst hk
        obtain ⟨b,rfl,hw⟩ := trod_flt ht h
        exact ⟨[.flt k b],⟨by simp only [C.Rep],trivial⟩,⟨⟨b,rfl,hw⟩,trivial⟩⟩
      next e ht =>
        injection hk with hk; subst hk
        have he : es.contains e = true := by simpa [slIn] using hs
        obtain ⟨ke,hke,hkl,hkn,hks⟩ := closedB_at hcl he
        rcases DataW.trod_slice ht h with ⟨rfl,_⟩ | ⟨a,len,cap,elems,rest,n',hn,rfl,_,_,hlc,hcm,hel,hget,hsp,_⟩
        · exact ⟨[.sl ke.length []],⟨by simp only [C.Rep]; exact .inl ⟨trivial,none,rfl⟩,trivial⟩,⟨⟨[],ke,hke,rfl,Nat.zero_le _,fun r hr => by cases hr⟩,trivial⟩⟩
        · obtain rfl : n = n' := by omega
          obtain ⟨hrl,hrget⟩ := hsp rfl
          have hpos : 0 < P.cellsOf e := by rw [← hkl]; exact List.length_pos_iff.2 hkn
          by_cases hc0 : cap = 0
          · subst hc0
            have : len = 0 := by omega
            subst this
            exact ⟨[.sl ke.length []],⟨by simp only [C.Rep]; exact .inl ⟨trivial,some a,rfl⟩,trivial⟩,⟨⟨[],ke,hke,rfl,Nat.zero_le _,fun r hr => by cases hr⟩,trivial⟩⟩
          · have hcell : ∃ v,w.cell? a = some v := by
              by_cases hl0 : len = 0
              · have h0 := hrget 0 (by omega)
                have : rest[0]? = some rest[0] := List.getElem?_eq_getElem (by omega)
                rw [this,Option.bind_eq_some_iff] at h0
                obtain ⟨vs,hvs,_⟩ := h0
                have hc := (cells_get hvs).2 0 hpos
                subst hl0
                have e1 : (a.add ((0 + 0) * P.cellsOf e)).add 0 = a := by simp [Addr.add]
                rw [e1] at hc
                have hvl := (cells_get hvs).1
                rw [List.getElem?_eq_getElem (by omega)] at hc
                exact ⟨_,hc⟩
              · have h0 := hget 0 (by omega)
                have : elems[0]? = some elems[0] := List.getElem?_eq_getElem (by omega)
                rw [this,Option.bind_eq_some_iff] at h0
                obtain ⟨vs,hvs,_⟩ := h0
                have hc := (cells_get hvs).2 0 hpos
                have e1 : (a.add (0 * P.cellsOf e)).add 0 = a := by simp [Addr.add]
                rw [e1] at hc
                have hvl := (cells_get hvs).1
                rw [List.getElem?_eq_getElem (by omega)] at hc
                exact ⟨_,hc⟩
            obtain ⟨v0,hv0⟩ := hcell
            obtain ⟨ha,hab⟩ := cell_spot hv0
            obtain ⟨rows,hrl',hrq⟩ := list_of (len := len) (Q := fun i (r:List C) => All2 (OkC P n) ke r ∧ RepCells w (fun b => b < w.heap.size) a.block r (a.off + i * ke.length)) fun i hi => by
              have h0 := hget i hi
              rw [List.getElem?_eq_getElem (by omega:i < elems.length),Option.bind_eq_some_iff] at h0
              obtain ⟨vs,hvs,hy⟩ := h0
              obtain ⟨c1,r1,o1⟩ := ih hy hke hks
              refine ⟨c1,o1,RepCells.of_get r1 fun j hj => ?_⟩
              have hc := (cells_get hvs).2 j (by rw [← (cells_get hvs).1]; exact hj)
              rw [ha,add_plain,add_plain] at hc
              rw [hkl]
              exact hc
            refine ⟨[.sl ke.length rows],⟨?_,trivial⟩,⟨⟨rows,ke,hke,rfl,by omega,fun r hr => ?_⟩,trivial⟩⟩
            · simp only [C.Rep]
              refine .inr ⟨a.block,a.off,cap,by rw [← ha,hrl'],by omega,fun _ => hab,RepRows.of_get fun i r hi => ?_⟩
              obtain ⟨o1,r1⟩ := hrq i r hi
              exact ⟨o1.length.symm,r1⟩
            · obtain ⟨i,hi⟩ := List.getElem?_of_mem hr
              exact (hrq i r hi).1
      next fs ht =>
        simp only [Option.bind_eq_some_iff] at hk
        obtain ⟨ks',hf,hk⟩ := hk
        split at hk
        next hl =>
          injection hk with hk; subst hk
          obtain ⟨xs,n',hn,_,hcl',hxl,hx⟩ := DataW.trod_struct ht h
          obtain rfl : n = n' := by omega
          obtain ⟨cs',r,o⟩ := fields_read (cs := cs) (fun h1 h2 h3 => ih h1 h2 h3) hf hs (fun f hf' => by
            obtain ⟨i,hi⟩ := List.getElem?_of_mem hf'
            have hi' : fs[i]? = some f := by simpa using hi
            rw [hx i f hi']
            have : i < xs.length := by rw [hxl]; exact (Array.getElem?_eq_some_iff.1 hi').1
            exact ⟨_,List.getElem?_eq_getElem this⟩) (by omega)
          exact ⟨cs',by simpa using r,o.imp fun a b hab => hab.mono⟩
        next => cases hk
      next => cases hk

/-! ### All arguments -/
/-- What is handed over for one argument. -/
def argOf (P:Program) (t:TypeId) (cs:List C) : PV :=
  match P.underlying t with
  | some (.struct _) => .v (.agg (cs.map OC.dat))
  | _ => match cs with
    | [c] => .v (.one (.dat c))
    | _ => .v (.agg (cs.map OC.dat))
/-- The cells of an argument of type t. -/
def OkArg (P:Program) (n:Nat) (t:TypeId) (cs:List C) : Prop := ∃ ks,kinds P 8 t = some ks ∧ All2 (OkC P n) ks cs
def OkArgs (P:Program) : List TypeId → List (List C) → Prop
  | [],[] => True
  | t :: ts,c :: cs => (∃ n,OkArg P n t c) ∧ OkArgs P ts cs
  | _,_ => False
def argsOf (P:Program) : List TypeId → List (List C) → List PV
  | t :: ts,c :: cs => argOf P t c :: argsOf P ts cs
  | _,_ => []

theorem OCs.Rep_dat {F : Nat → Prop} : ∀ {cs : List C} {vs : List Value},All2 (C.Rep w F) cs vs → OCs.Rep w F (cs.map OC.dat) vs []
  | [],[],_ => by simp [OCs.Rep]
  | c :: cs,v :: vs,h => by
    simp only [All2] at h
    exact ⟨[],[],rfl,⟨rfl,h.1⟩,OCs.Rep_dat h.2⟩

theorem PVs.Rep_cons' {F : Nat → Prop} {p : PV} {ps : List PV} {v : Value} {vs : List Value} (h:p.Rep w F v []) (k:PVs.Rep w F ps vs []) : PVs.Rep w F (p :: ps) (v :: vs) [] := ⟨[],[],rfl,h,k⟩

/-- Which types an argument may have. -/
def argB (P:Program) (es:List TypeId) (t:TypeId) : Bool :=
  match kinds P 8 t with
  | none => false
  | some ks => slIn es ks && P.readableRec t && decide (t < P.types.size) && (match P.underlying t with | some (.struct _) => true | some (.array _ _) => false | _ => ks.length == 1)

theorem arg_reads {es : List TypeId} (hcl:closedB P es = true) {r : Reach} {b0 : Nat} {t : TypeId} {v : Value} {d : DataW H} {ps : List MemPlace} (ht:argB P es t = true) (hval:Value.okWide P w r b0 t v) (h:DataW.Trod enc P w 0 (fun _ => true) true t v d ps) :
    ∃ n cs,OkArg P n t cs ∧ (argOf P t cs).Rep w (fun b => b < w.heap.size) v [] := by
  unfold argB at ht
  split at ht
  · cases ht
  next ks hk =>
    simp only [Bool.and_eq_true] at ht
    obtain ⟨⟨⟨hs,_⟩,_⟩,hu⟩ := ht
    obtain ⟨fuel,hf⟩ := h
    obtain ⟨cs,hr,ho⟩ := trod_reads hcl fuel hf hk hs
    refine ⟨fuel,cs,⟨ks,hk,ho⟩, ?_⟩
    have hl := ho.length
    unfold argOf
    split at hu
    next fs hfs =>
      rw [hfs]
      simp only [Value.okWide,hfs] at hval
      obtain ⟨vs,rfl,_,_⟩ := hval
      exact ⟨vs,rfl,OCs.Rep_dat (by simpa [Value.cells] using hr)⟩
    next => cases hu
    next h1 h2 =>
      simp only [beq_iff_eq] at hu
      obtain ⟨k,rfl⟩ : ∃ k,ks = [k] := List.length_eq_one_iff.1 hu
      obtain ⟨c,rfl⟩ : ∃ c,cs = [c] := List.length_eq_one_iff.1 (by rw [← hl]; rfl)
      have hv : ¬ ∃ vs,v = .agg vs := by
        rintro ⟨vs,rfl⟩
        unfold Value.okWide at hval
        split at hval
        next h3 => exact h1 _ h3
        next h3 => exact h2 _ _ h3
        next =>
          cases hu : P.underlying t with
          | none => simp [Cell.okWide,Cell.ok,hu] at hval
          | some d => cases d <;> simp_all [Cell.okWide,Cell.ok]
      have hcells : v.cells.toList = [v] := by
        cases v <;> first | rfl | exact absurd ⟨_,rfl⟩ hv
      rw [hcells] at hr
      simp only [All2] at hr
      split
      next h3 => exact absurd h3 (h1 _)
      next => exact ⟨rfl,hr.1⟩

theorem args_read {es : List TypeId} (hcl:closedB P es = true) {r : Reach} {b0 : Nat} : ∀ {ts : List TypeId} {vs : List Value} {ds : List (DataW H)} {ps : List MemPlace},ts.all (argB P es) = true →
    (∀ (j:Nat) t v,ts[j]? = some t → vs[j]? = some v → Value.okWide P w r b0 t v) → DataW.TrodAll enc P w 0 (fun _ => true) true ts vs ds ps →
    ∃ css,OkArgs P ts css ∧ PVs.Rep w (fun b => b < w.heap.size) (argsOf P ts css) vs []
  | [],[],[],_,_,_,_ => ⟨[],trivial,rfl⟩
  | t :: ts,v :: vs,d :: ds,ps,ht,hval,h => by
    obtain ⟨p,q,h1,h2,_⟩ := h
    rw [List.all_cons,Bool.and_eq_true] at ht
    obtain ⟨n,cs,ho,hr⟩ := arg_reads hcl ht.1 (hval 0 t v rfl rfl) h1
    obtain ⟨css,hos,hrs⟩ := args_read hcl ht.2 (fun j t v a b => hval (j + 1) t v (by simpa using a) (by simpa using b)) h2
    exact ⟨cs :: css,⟨⟨n,ho⟩,hos⟩,PVs.Rep_cons' hr hrs⟩

theorem args_stay {es : List TypeId} (hl:laidOutB P = true) {w' : World} (hb:Below w.heap.size w w') : ∀ {ts : List TypeId} {vs : List Value} {ds : List (DataW H)} {ps : List MemPlace},ts.all (argB P es) = true →
    DataW.TrodAll enc P w 0 (fun _ => true) true ts vs ds ps → (∀ x ∈ ps,x.block < w.heap.size) → DataW.TrodAll enc P w' 0 (fun b => decide (b < w.heap.size)) true ts vs ds ps
  | [],[],[],_,_,h,_ => h
  | t :: ts,v :: vs,d :: ds,ps,ht,h,hlt => by
    obtain ⟨p,q,h1,h2,rfl⟩ := h
    rw [List.all_cons,Bool.and_eq_true] at ht
    have hta := ht.1
    unfold argB at hta
    split at hta
    · cases hta
    · simp only [Bool.and_eq_true,decide_eq_true_eq] at hta
      exact ⟨p,q,Below.trod hl hta.1.1.2 hta.1.2 h1 hb (fun x hx => hlt x (by simp [hx])),args_stay hl hb ht.2 h2 (fun x hx => hlt x (by simp [hx])),rfl⟩

theorem tupled_one (v:Value) : tupled [v] = v := rfl

/-- A law: whatever the arguments,true comes,and they read as they did. -/
theorem law_calls {es : List TypeId} {f : FuncId} {fn : Func} {s : ChangeSpec} {bt : TypeId} (hcl:closedB P es = true) (hl:laidOutB P = true) (hts:fn.params.toList.all (argB P es) = true) (hvars:s.vars = [])
    (hres:fn.resultTypes = #[bt]) (hbt:P.underlying bt = some .bool) (hs : ∀ (ds:List (DataW H)),ds.length = fn.params.size → s.fn H ds = { results := [.lit (.bool true)],args := ds })
    (law : ∀ css,OkArgs P fn.params.toList css → FSpec P f (argsOf P fn.params.toList css) [.v (.one (.dat (.bool true)))])
    (hnp : ∀ css vs,objPtrs (argsOf P fn.params.toList css) vs = [])
    {W : World} {base : Nat} {args : Array Value} {ds gs : List (DataW H)} {before : List MemPlace}
    (hval : ∀ (j:Nat) t v,fn.params[j]? = some t → args[j]? = some v → Value.okWide P W .any base t v)
    (hW:DataW.Whole enc P fn.params.toList s.vars false W args.toList ds gs before) :
    Calls P f args W fun e W' => ∃ v,e = .returned v ∧ s.post enc P fn false true false false W args v W' := by
  have hW' := hW
  obtain ⟨p,q,hA,hV,rfl,hfz,hnd⟩ := hW
  rw [hvars] at hV
  obtain ⟨rfl,rfl⟩ := trodVars_none hV
  obtain ⟨css,hos,hrs⟩ := args_read hcl hts (fun j t v a b => hval j t v (by simpa using a) (by simpa using b)) hA
  have hc := law css hos W args.toList (fun b => b < W.heap.size) [] (fun b hb => hb) hrs (by simp [Once]) (fun b hb => by cases hb)
  refine Calls.mono hc fun e W' hp => ?_
  obtain ⟨vres,F',bs',he,hpv,_,_,_,_,hblk,hsz,hos',htape,hout,_⟩ := hp
  rw [hnp] at hpv
  rw [List.append_nil] at hpv
  obtain ⟨v,rfl,hv⟩ : ∃ v,vres = [v] ∧ v = .bool true := by
    cases vres with
    | nil => simp only [PVs.Rep] at hpv
    | cons v vs =>
      obtain ⟨b1,b2,_,h1,h2⟩ := hpv
      cases vs with
      | nil =>
        refine ⟨v,rfl, ?_⟩
        simp only [PV.Rep,O1.Rep,OC.Rep,C.Rep] at h1
        exact h1.2
      | cons => simp only [PVs.Rep] at h2
  subst hv
  have bel : Below W.heap.size W W' := ⟨hos',htape,hout,hsz,fun k hk => hblk k hk (by simp)⟩
  have hlen : ds.length = fn.params.size := by
    have : ∀ {ts : List TypeId} {vs : List Value} {ds : List (DataW H)} {ps : List MemPlace},DataW.TrodAll enc P W 0 (fun _ => true) true ts vs ds ps → ds.length = ts.length := by
      intro ts
      induction ts with
      | nil => intro vs ds ps h; cases vs <;> cases ds <;> simp_all [DataW.TrodAll]
      | cons t ts ih =>
        intro vs ds ps h
        cases vs <;> cases ds <;> simp only [DataW.TrodAll] at h
        obtain ⟨p,q,_,h2,_⟩ := h
        simp [ih h2]
    simpa using this hA
  refine ⟨_,he,ds,[],_,[],p,[],by rw [hvars] at hW' ⊢; exact hW', ?_, ?_, ?_,bel.frame _,fun h => by cases h⟩
  · rw [List.append_nil,hs ds hlen,hres,tupled_one]
    exact trodAll_mk1 (shut_bool hbt true)
  · rw [List.append_nil,hs ds hlen]
    exact args_stay hl bel hts hA (fun x hx => hW'.lt x (by simp [hx]))
  · rw [List.append_nil,hs ds hlen,hvars]
    rfl
end Lift

/- LIFT,part H2: cells of known kinds stand for something; words for ranges. -/
set_option linter.unusedVariables false
namespace Lift
open Go Go.RowKit

def InR (k:IntKind) (z:Int) : Prop := (Lit.int k z).wf = true
def StR (s:ByteArray) : Prop := s.size ≤ maxLen
def AnyB (b:Bool) : Prop := True
structure ListR {α : Type} (W:α → Prop) (xs:List α) : Prop where
  len : xs.length ≤ maxLen
  all : ∀ x ∈ xs,W x

variable {P : Program}
theorem all2_cons {α β : Type} {R : α → β → Prop} {a : α} {as : List α} {cs : List β} (h:All2 R (a :: as) cs) : ∃ c cs',cs = c :: cs' ∧ R a c ∧ All2 R as cs' := by
  cases cs with
  | nil => simp only [All2] at h
  | cons c cs' => exact ⟨c,cs',rfl,h.1,h.2⟩
theorem all2_nil {α β : Type} {R : α → β → Prop} {cs : List β} (h:All2 R ([] : List α) cs) : cs = [] := by
  cases cs with
  | nil => rfl
  | cons c cs' => simp only [All2] at h
theorem ok_int {n : Nat} {k : IntKind} {c : C} (h:OkC P n (.int k) c) : ∃ z,c = .int k z ∧ InR k z := by cases n <;> exact h
theorem ok_bool {n : Nat} {c : C} (h:OkC P n .bool c) : ∃ z,c = .bool z ∧ AnyB z := by
  cases n with
  | zero => obtain ⟨b,h⟩ := h; exact ⟨b,h,trivial⟩
  | succ n => obtain ⟨b,h⟩ := h; exact ⟨b,h,trivial⟩
theorem ok_str {n : Nat} {c : C} (h:OkC P n .str c) : ∃ z,c = .str z ∧ StR z := by cases n <;> exact h
theorem inv_list {α : Type} {f : α → List C} {W : α → Prop} {Q : List C → Prop} (inv : ∀ r,Q r → ∃ x,f x = r ∧ W x) : ∀ {rows : List (List C)},(∀ r ∈ rows,Q r) → ∃ xs : List α,rows = xs.map f ∧ ∀ x ∈ xs,W x
  | [],_ => ⟨[],rfl,fun x h => by cases h⟩
  | r :: rows,h => by
    obtain ⟨x,hx,hw⟩ := inv r (h r (by simp))
    obtain ⟨xs,rfl,hws⟩ := inv_list inv (rows := rows) fun r' hr => h r' (by simp [hr])
    exact ⟨x :: xs,by simp [hx],fun y hy => by
      rcases List.mem_cons.1 hy with rfl | hy
      · exact hw
      · exact hws y hy⟩
theorem ok_sl {α : Type} {f : α → List C} {W : α → Prop} {n : Nat} {e : TypeId} {ks : List CK} {c : C} (hk:kinds P 8 e = some ks) (inv : ∀ m,m < n → ∀ r,All2 (OkC P m) ks r → ∃ x,f x = r ∧ W x) (h:OkC P n (.sl e) c) :
    ∃ xs : List α,c = .sl ks.length (xs.map f) ∧ ListR W xs := by
  cases n with
  | zero => exact h.elim
  | succ n =>
    obtain ⟨rows,ks',hk',rfl,hl,hr⟩ := h
    obtain rfl : ks = ks' := Option.some.inj (hk.symm.trans hk')
    obtain ⟨xs,rfl,hw⟩ := inv_list (inv n (Nat.lt_succ_self n)) hr
    exact ⟨xs,rfl,⟨by simpa using hl,hw⟩⟩
theorem inv_int {n : Nat} {k : IntKind} {r : List C} (h:All2 (OkC P n) [.int k] r) : ∃ x,rI k x = r ∧ InR k x := by
  obtain ⟨c,cs,rfl,h0,h⟩ := all2_cons h
  obtain rfl := all2_nil h
  obtain ⟨z,rfl,hz⟩ := ok_int h0
  exact ⟨z,rfl,hz⟩
theorem okArgs_cons {t : TypeId} {ts : List TypeId} {css : List (List C)} (h:OkArgs P (t :: ts) css) : ∃ cs css',css = cs :: css' ∧ (∃ n,OkArg P n t cs) ∧ OkArgs P ts css' := by
  cases css with
  | nil => exact h.elim
  | cons c cs' => exact ⟨c,cs',rfl,h.1,h.2⟩
theorem okArgs_nil {css : List (List C)} (h:OkArgs P [] css) : css = [] := by
  cases css with
  | nil => rfl
  | cons c cs' => exact h.elim
theorem FSpec_args {f : FuncId} {a a' fin : List PV} (h:FSpec P f a fin) (e:a' = a) : FSpec P f a' fin := e ▸ h
theorem objPtrs_argsOf : ∀ (ts:List TypeId) (css:List (List C)) (vs:List Value),objPtrs (argsOf P ts css) vs = []
  | [],_,_ => by simp [argsOf,objPtrs]
  | _ :: _,[],_ => by simp [argsOf,objPtrs]
  | t :: ts,c :: cs,[] => by simp [argsOf,objPtrs]
  | t :: ts,c :: cs,v :: vs => by
    have : ∃ x,argOf P t c = .v x := by
      unfold argOf
      split
      · exact ⟨_,rfl⟩
      · split <;> exact ⟨_,rfl⟩
    obtain ⟨x,hx⟩ := this
    simp only [argsOf,hx,objPtrs]
    exact objPtrs_argsOf ts cs vs
end Lift

/- LIFT,part H3: what a printed function yields with enough steps. -/
set_option linter.unusedVariables false
namespace Lift
open Go

/-- With all numbers of steps from some on,f yields v. -/
def Ev {α : Type} (f:Nat → Option α) (v:α) : Prop := ∃ N0, ∀ N,N0 ≤ N → f N = some v

theorem Ev.now {α : Type} (v:α) : Ev (fun _ => some v) v := ⟨0,fun _ _ => rfl⟩
theorem Ev.of {α : Type} {f g : Nat → Option α} {v : α} (h:Ev f v) (e : ∀ N,g N = f N) : Ev g v := by
  obtain ⟨n,h⟩ := h
  exact ⟨n,fun N hN => (e N).trans (h N hN)⟩
/-- One step more. -/
theorem Ev.step {α : Type} {f g : Nat → Option α} {v : α} (h:Ev g v) (e : ∀ N,f (N + 1) = g N) : Ev f v := by
  obtain ⟨n,h⟩ := h
  refine ⟨n + 1,fun N hN => ?_⟩
  cases N with
  | zero => omega
  | succ N => rw [e]; exact h N (by omega)
theorem Ev.bind {α β : Type} {f : Nat → Option α} {g : Nat → α → Option β} {a : α} {b : β} (h:Ev f a) (k:Ev (fun N => g N a) b) : Ev (fun N => (f N).bind (g N)) b := by
  obtain ⟨n,h⟩ := h
  obtain ⟨m,k⟩ := k
  refine ⟨max n m,fun N hN => ?_⟩
  have h1 := h N (by omega)
  have h2 := k N (by omega)
  show (f N).bind (g N) = some b
  rw [h1]
  exact h2
theorem Ev.bindc {α β : Type} {x : Option α} {g : Nat → α → Option β} {a : α} {b : β} (h:x = some a) (k:Ev (fun N => g N a) b) : Ev (fun N => x.bind (g N)) b := by
  subst h
  exact k
theorem Ev.pos {α : Type} {p : Prop} [Decidable p] {f g : Nat → Option α} {v : α} (h:p) (k:Ev f v) : Ev (fun N => if p then f N else g N) v := by
  obtain ⟨n,k⟩ := k
  exact ⟨n,fun N hN => (if_pos h).trans (k N hN)⟩
theorem Ev.neg {α : Type} {p : Prop} [Decidable p] {f g : Nat → Option α} {v : α} (h : ¬ p) (k:Ev g v) : Ev (fun N => if p then f N else g N) v := by
  obtain ⟨n,k⟩ := k
  exact ⟨n,fun N hN => (if_neg h).trans (k N hN)⟩
theorem Ev.ex {α : Type} {f : Nat → Option α} {v : α} (h:Ev f v) : ∃ N,f N = some v := by
  obtain ⟨n,h⟩ := h
  exact ⟨n,h n (Nat.le_refl n)⟩
/-- A closed call that yields with so many steps yields with more: only where that is known; used with 'decide'. -/
theorem Ev.eq {α : Type} {f : Nat → Option α} {v v' : α} (h:Ev f v) (e:v = v') : Ev f v' := e ▸ h

theorem wrapI (x:Int) (h : -9223372036854775808 ≤ x) (k:x < 9223372036854775808) : IntKind.i64.wrap x = x := by
  have e : IntKind.i64.wrap x = (x + 9223372036854775808) % 18446744073709551616 - 9223372036854775808 := by
    simp [IntKind.wrap,IntKind.bits,IntKind.signed]
    split <;> omega
  rw [e]; omega
theorem wrapU_eq (x:Int) : IntKind.u64.wrap x = x % 18446744073709551616 := by
  simp [IntKind.wrap,IntKind.bits,IntKind.signed]
theorem wrapU (x:Int) (h:0 ≤ x) (k:x < 18446744073709551616) : IntKind.u64.wrap x = x := by
  rw [wrapU_eq]; omega
theorem maxLen_eq : maxLen = 9223372036854775807 := rfl

theorem idx_at {α : Type} {l xs : List α} {i : Nat} {x : α} (h:l.drop i = x :: xs) : idx l (i:Int) = some x := by
  unfold idx
  rw [if_pos (Int.natCast_nonneg i)]
  have : l[i]? = some x := by
    have := congrArg (fun z => z[0]?) h
    simpa using this
  simpa using this
theorem drop_len {α : Type} {l xs : List α} {i : Nat} {x : α} (h:l.drop i = x :: xs) : i + 1 + xs.length = l.length := by
  have := congrArg List.length h
  simp at this
  omega
theorem drop_next {α : Type} {l xs : List α} {i : Nat} {x : α} (h:l.drop i = x :: xs) : l.drop (i + 1) = xs := by
  have := congrArg (List.drop 1) h
  simpa [List.drop_drop,Nat.add_comm] using this
theorem drop_end {α : Type} {l : List α} {i : Nat} (h:l.drop i = []) : l.length ≤ i := by simpa using h
end Lift

/- LIFT,part H4: words of the printed functions,where they yield something. -/
set_option linter.unusedVariables false
namespace Lift
open Go

theorem cut_eq {α : Type} {xs : List α} {l h : Int} (h0:0 ≤ l) (h1:l ≤ h) (h2:h ≤ (xs.length : Int)) : cut xs l h = some ((xs.drop l.toNat).take (h.toNat - l.toNat)) := if_pos ⟨h0,h1,h2⟩
theorem cut_front {α : Type} {xs : List α} {i : Nat} (h:i ≤ xs.length) : cut xs 0 (i:Int) = some (xs.take i) := by
  rw [cut_eq (Int.le_refl 0) (Int.natCast_nonneg i) (by omega)]
  simp
theorem app_eq {α : Type} {xs ys : List α} (h:xs.length + ys.length ≤ lim) : app xs ys = some (xs++ys) := if_pos h
theorem app0_eq {α : Type} {ys : List α} (h:ys.length ≤ lim) : app0 ys = some ys := if_pos h
theorem idx_eq {α : Type} {xs : List α} {i : Nat} (h:i < xs.length) : idx xs (i:Int) = some xs[i] := by
  unfold idx
  rw [if_pos (Int.natCast_nonneg i)]
  simp [h]
theorem rem_eq {x y : Int} (h:y ≠ 0) : rem x y = some (x.tmod y) := if_neg h
theorem lim_eq : lim = 1000000000000 := rfl
theorem inI_mk {z : Int} (h : -9223372036854775808 ≤ z) (k:z ≤ 9223372036854775807) : InR .i64 z := by
  show (Lit.int .i64 z).wf = true
  simp [Lit.wf,IntKind.min,IntKind.max,IntKind.bits,IntKind.signed]
  omega
/-- The next index. -/
theorem wrap_succ {i : Nat} (h:i < 9223372036854775807) : IntKind.i64.wrap ((i:Int) + 1) = ((i + 1 : Nat) : Int) := by
  rw [wrapI _ (by omega) (by omega)]; rfl
/-- One step of a function that counts its steps,of several results. -/
theorem Ev.stepE {α : Type} {f g : Nat → Option α} (P:α → Prop) (h : ∃ v,Ev g v ∧ P v) (e : ∀ N,f (N + 1) = g N) : ∃ v,Ev f v ∧ P v := by
  obtain ⟨v,h,p⟩ := h
  exact ⟨v,h.step e,p⟩
theorem Ev.iff {α : Type} {p : Prop} [Decidable p] {f g : Nat → Option α} {a b : α} (h:p → Ev f a) (k : ¬ p → Ev g b) : Ev (fun N => if p then f N else g N) (if p then a else b) := by
  by_cases hp : p
  · rw [if_pos hp]; exact Ev.pos hp (h hp)
  · rw [if_neg hp]; exact Ev.neg hp (k hp)
/-- From so many steps on it is told plainly. -/
theorem Ev.from {α : Type} {f : Nat → Option α} {v : α} (k:Nat) (h : ∀ N,f (N + k) = some v) : Ev f v :=
  ⟨k,fun N hN => by have := h (N - k); rwa [Nat.sub_add_cancel hN] at this⟩
end Lift
