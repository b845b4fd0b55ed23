import Derived.Test.YtphieolckpneeaaPureOps18
import Derived.Test.YtphieolckpneeaaPureGreats
set_option linter.unusedVariables false
set_option linter.unusedSimpArgs false
namespace Go.Proofs.Ytphieolckpneeaa.Sh
open Go Lift Go.Proofs

/-! ### Copies -/
theorem clone32_ev (a:List Int) (hl:a.length ≤ lim) : Ev (fun N => slices_Clone_uint32_uint32_all N a) a := by
  cases a with
  | nil => exact Ev.now _
  | cons x xs => exact Ev.bindc (app_eq (by simpa using hl)) (Ev.now _)
theorem cloneT_ev (a:List Tapi_Term) (hl:a.length ≤ lim) : Ev (fun N => slices_Clone_api_Term_api_Term_all N a) a := by
  cases a with
  | nil => exact Ev.now _
  | cons x xs => exact Ev.bindc (app_eq (by simpa using hl)) (Ev.now _)
theorem cloneO_ev (a:List Tapi_Op) (hl:a.length ≤ lim) : Ev (fun N => slices_Clone_api_Op_api_Op_all N a) a := by
  cases a with
  | nil => exact Ev.now _
  | cons x xs => exact Ev.bindc (app_eq (by simpa using hl)) (Ev.now _)
theorem cnt_pos (t:Tapi_Term) : 1 ≤ cnt t := by rw [cnt_eq]; omega
theorem cnts_len : ∀ ts : List Tapi_Term,ts.length ≤ cnts ts
  | [] => by simp [cnts]
  | x :: xs => by have := cnts_len xs; have := cnt_pos x; simp [cnts]; omega
theorem set_self {α : Type} (l:List α) (i:Nat) (h:i < l.length) : l.set i l[i] = l := by simp
mutual
theorem copied_ev : ∀ (t:Tapi_Term),Small t → cnt t ≤ 100000 → Ev (fun N => valid_copied N t) t
  | ⟨k,n,m,b,s,args⟩,hs,hc => by
    have hm : m.fMag.length ≤ 300 := hs.mag
    rw [cnt] at hc
    have hl := cnts_len args
    have h := copies_loop args hs.args (by omega) ⟨k,n,m,b,s,args⟩ m.fMag args 0 rfl (by omega)
    refine Ev.step ?_ (fun N => by rw [valid_copied])
    exact Ev.bind (clone32_ev m.fMag (by rw [lim_eq]; omega)) (Ev.bind (cloneT_ev args (by rw [lim_eq]; omega)) (Ev.bind h (Ev.now _)))
theorem copies_loop : ∀ (ts:List Tapi_Term),(∀ x ∈ ts,Small x) → cnts ts ≤ 100000 → ∀ (t:Tapi_Term) (r1:List Int) (l:List Tapi_Term) (i:Nat),l.drop i = ts → l.length ≤ 100000 → Ev (fun N => valid_copied_L0 N t r1 l l i) l
  | [],hs,hc,t,r1,l,i,hd,hl => by
    have := drop_end hd
    refine Ev.step ?_ (fun N => by rw [valid_copied_L0])
    exact Ev.neg (by omega) (Ev.now _)
  | x :: xs,hs,hc,t,r1,l,i,hd,hl => by
    have hlen := drop_len hd
    rw [cnts] at hc
    have h := copies_loop xs (fun y hy => hs y (by simp [hy])) (by omega) t r1 l (i + 1) (drop_next hd) hl
    have hx := copied_ev x (hs x (by simp)) (by omega)
    refine Ev.step ?_ (fun N => by rw [valid_copied_L0,wrap_succ (by omega),Int.toNat_natCast])
    refine Ev.pos (by omega) (Ev.bindc (idx_at hd) (Ev.bind hx (Ev.bindc (idx_at hd) ?_)))
    have e : l.set i x = l := by
      have : l[i]? = some x := by
        have := congrArg (fun z => z[0]?) hd
        simpa using this
      have hi := (List.getElem?_eq_some_iff.1 this)
      rw [← hi.2]; exact set_self l i hi.1
    rw [e]
    exact h
end

/-! ### The same,compared with itself -/
theorem eqOp_self (o:Tapi_Op) : eq_Tapi_Op o o = true := eq_Tapi_Op_iff.2 rfl
theorem sameOps_loop : ∀ (ts l:List Tapi_Op) (i:Nat),l.drop i = ts → l.length ≤ 100000 → Ev (fun N => beehivelaw0_SameOps_L0 N l l i) (.inl ())
  | [],l,i,hd,hl => by
    have := drop_end hd
    refine Ev.step ?_ (fun N => by rw [beehivelaw0_SameOps_L0])
    exact Ev.neg (by omega) (Ev.now _)
  | x :: xs,l,i,hd,hl => by
    have hlen := drop_len hd
    refine Ev.step ?_ (fun N => by rw [beehivelaw0_SameOps_L0,wrap_succ (by omega)])
    exact Ev.pos (by omega) (Ev.bindc (idx_at hd) (Ev.bindc (idx_at hd) (Ev.neg (by rw [eqOp_self]; simp) (sameOps_loop xs l (i + 1) (drop_next hd) hl))))
theorem sameOps_self (l:List Tapi_Op) (hl:l.length ≤ 100000) : Ev (fun N => beehivelaw0_SameOps N l l) true :=
  Ev.neg (by simp) (Ev.bind (sameOps_loop l l 0 rfl hl) (Ev.now _))
theorem sameLimbs_loop : ∀ (ts l:List Int) (i:Nat),l.drop i = ts → l.length ≤ 100000 → Ev (fun N => beehivelaw0_SameLimbs_L0 N l l i) (.inl ())
  | [],l,i,hd,hl => by
    have := drop_end hd
    refine Ev.step ?_ (fun N => by rw [beehivelaw0_SameLimbs_L0])
    exact Ev.neg (by omega) (Ev.now _)
  | x :: xs,l,i,hd,hl => by
    have hlen := drop_len hd
    refine Ev.step ?_ (fun N => by rw [beehivelaw0_SameLimbs_L0,wrap_succ (by omega)])
    exact Ev.pos (by omega) (Ev.bindc (idx_at hd) (Ev.bindc (idx_at hd) (Ev.neg (by simp) (sameLimbs_loop xs l (i + 1) (drop_next hd) hl))))
theorem sameNum_self (n:Tapi_Num) (hl:n.fMag.length ≤ 100000) : Ev (fun N => beehivelaw0_SameNum N n n) true :=
  Ev.pos rfl (Ev.bind (Ev.neg (by simp) (Ev.bind (sameLimbs_loop n.fMag n.fMag 0 rfl hl) (Ev.now _))) (Ev.now _))
mutual
theorem sameTerm_self : ∀ (t:Tapi_Term),Small t → cnt t ≤ 100000 → Ev (fun N => beehivelaw0_SameTerm N t t) true
  | ⟨k,n,m,b,s,args⟩,hs,hc => by
    have hm : m.fMag.length ≤ 300 := hs.mag
    rw [cnt] at hc
    have hl := cnts_len args
    have h := sameTerms_loop args hs.args (by omega) args 0 rfl (by omega)
    have h2 : Ev (fun N => beehivelaw0_SameTerms N args args) true := by
      refine Ev.step ?_ (fun N => by rw [beehivelaw0_SameTerms])
      exact Ev.neg (by simp) (Ev.bind h (Ev.now _))
    refine Ev.step ?_ (fun N => by rw [beehivelaw0_SameTerm])
    refine Ev.bind (a := true) ?_ (Ev.now _)
    refine Ev.step ?_ (fun N => by rw [beehivelaw0_SameTerm_B0])
    exact Ev.pos rfl (Ev.pos rfl (Ev.bind (sameNum_self m (by omega)) (Ev.pos rfl (Ev.pos rfl (Ev.pos rfl (Ev.bind h2 (Ev.now _)))))))
theorem sameTerms_loop : ∀ (ts:List Tapi_Term),(∀ x ∈ ts,Small x) → cnts ts ≤ 100000 → ∀ (l:List Tapi_Term) (i:Nat),l.drop i = ts → l.length ≤ 100000 → Ev (fun N => beehivelaw0_SameTerms_L0 N l l i) (.inl ())
  | [],hs,hc,l,i,hd,hl => by
    have := drop_end hd
    refine Ev.step ?_ (fun N => by rw [beehivelaw0_SameTerms_L0])
    exact Ev.neg (by omega) (Ev.now _)
  | x :: xs,hs,hc,l,i,hd,hl => by
    have hlen := drop_len hd
    rw [cnts] at hc
    refine Ev.step ?_ (fun N => by rw [beehivelaw0_SameTerms_L0,wrap_succ (by omega)])
    exact Ev.pos (by omega) (Ev.bindc (idx_at hd) (Ev.bindc (idx_at hd) (Ev.bind (sameTerm_self x (hs x (by simp)) (by omega)) (Ev.neg (by simp) (sameTerms_loop xs (fun y hy => hs y (by simp [hy])) (by omega) l (i + 1) (drop_next hd) hl)))))
end
/-- A program of a size. -/
structure Few (p:Tapi_Program) : Prop where
  ops : p.fOps.length ≤ 140
  small : ∀ x ∈ p.fConsts,Small x
  wt : ∀ x ∈ p.fConsts,wTapi_Term x
  cnts : cnts p.fConsts ≤ 10000
theorem Few.consts {p : Tapi_Program} (h:Few p) : p.fConsts.length ≤ 10000 := by have := cnts_len p.fConsts; have := h.cnts; omega
theorem sameProg_self (p:Tapi_Program) (h:Few p) : Ev (fun N => beehivelaw0_SameProgram N p p) true := by
  have h1 := h.ops
  have h2 := h.consts
  have h3 := h.cnts
  refine Ev.bind (sameOps_self p.fOps (by omega)) (Ev.pos rfl (Ev.bind (a := true) ?_ (Ev.now _)))
  refine Ev.step ?_ (fun N => by rw [beehivelaw0_SameTerms])
  exact Ev.neg (by simp) (Ev.bind (sameTerms_loop p.fConsts h.small (by omega) p.fConsts 0 rfl (by omega)) (Ev.now _))

/-! ### The first instruction that may not be -/
def firstBad (nc no:Int) : List Tapi_Op → Nat → Option Nat
  | [],_ => none
  | o :: os,i => if opV nc no o = true then firstBad nc no os (i + 1) else some i
def badSum (x:Option Nat) : Unit ⊕ Int := match x with | none => .inl () | some i => .inr (i:Int)
theorem why_loop (p:Tapi_Program) (hc:p.fConsts.length ≤ 1000) (ho:p.fOps.length ≤ 120) : ∀ (ts:List Tapi_Op) (i:Nat),p.fOps.drop i = ts →
    Ev (fun N => valid_Why_L0 N p i) (badSum (firstBad p.fConsts.length p.fOps.length ts i)) ∧ Ev (fun N => beehiveref18_Why_L0 N p i) (badSum (firstBad p.fConsts.length p.fOps.length ts i))
  | [],i,hd => by
    have := drop_end hd
    constructor
    · refine Ev.step ?_ (fun N => by rw [valid_Why_L0])
      exact Ev.neg (by omega) (Ev.now _)
    · refine Ev.step ?_ (fun N => by rw [beehiveref18_Why_L0])
      exact Ev.neg (by omega) (Ev.now _)
  | o :: os,i,hd => by
    have hlen := drop_len hd
    have hi : i < p.fOps.length := by omega
    obtain ⟨v1,v2⟩ := op_ev p hc (by omega) i hi
    have hoo : p.fOps[i] = o := by
      have := List.drop_eq_getElem_cons hi
      rw [hd] at this
      exact (List.cons.inj this).1.symm
    rw [hoo] at v1 v2
    obtain ⟨w1,w2⟩ := why_loop p hc ho os (i + 1) (drop_next hd)
    rw [firstBad]
    have hs : IntKind.i64.wrap ((i:Int) + 1) = ((i + 1 : Nat) : Int) := wrap_succ (by omega)
    cases hv : opV p.fConsts.length p.fOps.length o with
    | true =>
      rw [hv] at v1 v2
      rw [if_pos rfl]
      constructor
      · refine Ev.step ?_ (fun N => by rw [valid_Why_L0,hs])
        exact Ev.pos (by omega) (Ev.pos (by omega) (Ev.bind v1 (Ev.neg (by simp) w1)))
      · refine Ev.step ?_ (fun N => by rw [beehiveref18_Why_L0,hs])
        exact Ev.pos (by omega) (Ev.pos (by omega) (Ev.bind v2 (Ev.neg (by simp) w2)))
    | false =>
      rw [hv] at v1 v2
      have hf : ¬ (false = true) := by simp
      rw [if_neg hf]
      constructor
      · refine Ev.step ?_ (fun N => by rw [valid_Why_L0])
        exact Ev.pos (by omega) (Ev.pos (by omega) (Ev.bind v1 (Ev.pos (by simp) (Ev.now _))))
      · refine Ev.step ?_ (fun N => by rw [beehiveref18_Why_L0])
        exact Ev.pos (by omega) (Ev.pos (by omega) (Ev.bind v2 (Ev.pos (by simp) (Ev.now _))))
theorem why_over (p:Tapi_Program) (ho:120 < p.fOps.length) (hm:p.fOps.length ≤ 100000) : ∀ (d i:Nat),p.fOps.length - i = d → Ev (fun N => valid_Why_L0 N p i) (.inl ())
  | 0,i,hd => by
    refine Ev.step ?_ (fun N => by rw [valid_Why_L0])
    exact Ev.neg (by omega) (Ev.now _)
  | d + 1,i,hd => by
    refine Ev.step ?_ (fun N => by rw [valid_Why_L0,wrap_succ (by omega)])
    exact Ev.pos (by omega) (Ev.neg (by omega) (why_over p ho hm d (i + 1) (by omega)))
theorem odd_ev (t:Tapi_Term) (hs:Small t) (w:wTapi_Term t) : Ev (fun N => valid_odd N t) (!mayT t) := Ev.bind (mayT_ev t hs w) (Ev.now _)
theorem odd_loop : ∀ (ts:List Tapi_Term),(∀ x ∈ ts,Small x) → (∀ x ∈ ts,wTapi_Term x) → ∀ (l:List Tapi_Term) (i:Nat),l.drop i = ts → l.length ≤ 100000 →
    ∃ r,Ev (fun N => slices_IndexFunc_api_Term_api_Term_L0 N l i) r ∧ (match r with | .inl _ => ts.all mayT = true | .inr j => ts.all mayT = false ∧ 0 ≤ j)
  | [],hs,hw,l,i,hd,hl => by
    have := drop_end hd
    refine ⟨.inl (), ?_,rfl⟩
    refine Ev.step ?_ (fun N => by rw [slices_IndexFunc_api_Term_api_Term_L0])
    exact Ev.neg (by omega) (Ev.now _)
  | x :: xs,hs,hw,l,i,hd,hl => by
    have hlen := drop_len hd
    have h1 := odd_ev x (hs x (by simp)) (hw x (by simp))
    obtain ⟨r,e,hr⟩ := odd_loop xs (fun y hy => hs y (by simp [hy])) (fun y hy => hw y (by simp [hy])) l (i + 1) (drop_next hd) hl
    cases hx : mayT x with
    | true =>
      rw [hx] at h1
      refine ⟨r, ?_, ?_⟩
      · refine Ev.step ?_ (fun N => by rw [slices_IndexFunc_api_Term_api_Term_L0,wrap_succ (by omega)])
        exact Ev.pos (by omega) (Ev.bindc (idx_at hd) (Ev.bind h1 (Ev.neg (by simp) e)))
      · rw [List.all_cons,hx,Bool.true_and]; exact hr
    | false =>
      rw [hx] at h1
      refine ⟨.inr i, ?_,by rw [List.all_cons,hx,Bool.false_and]; exact ⟨rfl,by omega⟩⟩
      refine Ev.step ?_ (fun N => by rw [slices_IndexFunc_api_Term_api_Term_L0])
      exact Ev.pos (by omega) (Ev.bindc (idx_at hd) (Ev.bind h1 (Ev.pos (by simp) (Ev.now _))))
theorem anyOdd_ev (l:List Tapi_Term) (hs : ∀ x ∈ l,Small x) (hw : ∀ x ∈ l,wTapi_Term x) (hl:l.length ≤ 100000) : Ev (fun N => slices_ContainsFunc_api_Term_api_Term N l) (!(l.all mayT)) := by
  obtain ⟨r,e,hr⟩ := odd_loop l hs hw l 0 rfl hl
  cases r with
  | inl u =>
    rw [show l.all mayT = true from hr]
    exact Ev.bind (a := -1) (Ev.bind e (Ev.now _)) (Ev.now _)
  | inr j =>
    obtain ⟨h1,h2⟩ : l.all mayT = false ∧ 0 ≤ j := hr
    rw [h1]
    refine Ev.bind (a := j) (Ev.bind e (Ev.now _)) ?_
    rw [decide_eq_true (show j ≥ 0 from h2)]
    exact Ev.now _
theorem rodd_loop (p:Tapi_Program) (hl:p.fConsts.length ≤ 100000) : ∀ (ts:List Tapi_Term),(∀ x ∈ ts,Small x) → (∀ x ∈ ts,wTapi_Term x) → ∀ (i:Nat) (b:Bool),p.fConsts.drop i = ts →
    Ev (fun N => beehiveref18_Why_L2 N p b i) (b || !(ts.all mayT))
  | [],hs,hw,i,b,hd => by
    have := drop_end hd
    refine Ev.step ?_ (fun N => by rw [beehiveref18_Why_L2])
    rw [List.all_nil,Bool.not_true,Bool.or_false]
    exact Ev.neg (by omega) (Ev.now _)
  | x :: xs,hs,hw,i,b,hd => by
    have hlen := drop_len hd
    refine Ev.step ?_ (fun N => by rw [beehiveref18_Why_L2,wrap_succ (by omega)])
    cases b with
    | true => exact Ev.pos (by omega) (Ev.neg (by simp) (Ev.now _))
    | false =>
      refine Ev.pos (by omega) (Ev.pos (by simp) (Ev.bindc (idx_at hd) (Ev.bind (rmayT_ev x (hs x (by simp)) (hw x (by simp))) ?_)))
      have h := rodd_loop p hl xs (fun y hy => hs y (by simp [hy])) (fun y hy => hw y (by simp [hy])) (i + 1) (!mayT x) (drop_next hd)
      rw [List.all_cons,Bool.false_or,Bool.not_and]
      exact h
def tailW (p:Tapi_Program) : Int := if p.fOps.length > 120 then p.fOps.length else if p.fConsts.length > 16 ∨ p.fConsts.all mayT = false then p.fOps.length else -1
def whyV (p:Tapi_Program) : Int := if p.fOps.length ≤ 120 then (match firstBad p.fConsts.length p.fOps.length p.fOps 0 with | some i => (i:Int) | none => tailW p) else tailW p
theorem tail_ev (p:Tapi_Program) (h:Few p) (hc:p.fConsts.length ≤ 1000) (ho:p.fOps.length ≤ 120) : Ev (fun N => if ((p.fOps.length : Nat) : Int) > (120:Int) then some ((p.fOps.length : Nat) : Int) else if ((p.fConsts.length : Nat) : Int) > (16:Int) then some ((p.fOps.length : Nat) : Int) else (slices_ContainsFunc_api_Term_api_Term N p.fConsts).bind fun r10 => if r10 = true then some ((p.fOps.length : Nat) : Int) else some (-1 : Int)) (tailW p) := by
  unfold tailW
  have e0 : ¬ p.fOps.length > 120 := by omega
  rw [if_neg e0]
  refine Ev.neg (by omega) ?_
  by_cases h16 : p.fConsts.length > 16
  · have e1 : p.fConsts.length > 16 ∨ p.fConsts.all mayT = false := Or.inl h16
    rw [if_pos e1]
    exact Ev.pos (by omega) (Ev.now _)
  · refine Ev.neg (by omega) (Ev.bind (anyOdd_ev p.fConsts h.small h.wt (by omega)) ?_)
    cases ha : p.fConsts.all mayT with
    | true =>
      have e1 : ¬ (p.fConsts.length > 16 ∨ true = false) := by simp; omega
      rw [if_neg e1]
      exact Ev.neg (by simp) (Ev.now _)
    | false =>
      have e1 : (p.fConsts.length > 16 ∨ false = false) := Or.inr rfl
      rw [if_pos e1]
      exact Ev.pos (by simp) (Ev.now _)
theorem why_ev (p:Tapi_Program) (h:Few p) (hc:p.fConsts.length ≤ 1000) : Ev (fun N => valid_Why N p) (whyV p) ∧ Ev (fun N => beehiveref18_Why N p) (whyV p) := by
  have hop := h.ops
  by_cases ho : p.fOps.length ≤ 120
  · obtain ⟨w1,w2⟩ := why_loop p hc ho p.fOps 0 rfl
    unfold whyV
    rw [if_pos ho]
    cases hb : firstBad p.fConsts.length p.fOps.length p.fOps 0 with
    | some i =>
      rw [hb] at w1 w2
      exact ⟨Ev.bind w1 (Ev.now _),Ev.bind w2 (Ev.now _)⟩
    | none =>
      rw [hb] at w1 w2
      refine ⟨Ev.bind w1 (tail_ev p h hc ho),Ev.bind w2 (Ev.neg (by omega) ?_)⟩
      have hr := rodd_loop p (by omega) p.fConsts h.small h.wt 0 (decide (((p.fConsts.length : Nat) : Int) > 16)) rfl
      refine Ev.bind hr ?_
      unfold tailW
      have e0 : ¬ p.fOps.length > 120 := by omega
      rw [if_neg e0]
      by_cases h16 : p.fConsts.length > 16
      · have e1 : p.fConsts.length > 16 ∨ p.fConsts.all mayT = false := Or.inl h16
        rw [if_pos e1,decide_eq_true (show ((p.fConsts.length : Nat) : Int) > 16 by omega),Bool.true_or]
        exact Ev.pos rfl (Ev.now _)
      · rw [decide_eq_false (show ¬ ((p.fConsts.length : Nat) : Int) > 16 by omega),Bool.false_or]
        cases ha : p.fConsts.all mayT with
        | true =>
          have e1 : ¬ (p.fConsts.length > 16 ∨ true = false) := by simp; omega
          rw [if_neg e1]
          exact Ev.neg (by simp) (Ev.now _)
        | false =>
          have e1 : (p.fConsts.length > 16 ∨ false = false) := Or.inr rfl
          rw [if_pos e1]
          exact Ev.pos (by simp) (Ev.now _)
  · unfold whyV tailW
    have e0 : p.fOps.length > 120 := by omega
    rw [if_neg ho,if_pos e0]
    constructor
    · exact Ev.bind (why_over p (by omega) (by omega) _ 0 rfl) (Ev.pos (by omega) (Ev.now _))
    · refine Ev.bind (a := .inl ()) ?_ ?_
      · refine Ev.step ?_ (fun N => by rw [beehiveref18_Why_L0])
        exact Ev.pos (by omega) (Ev.neg (by omega) (Ev.now _))
      · refine Ev.pos (by omega) (Ev.bind (a := ()) ?_ (Ev.now _))
        refine Ev.step ?_ (fun N => by rw [beehiveref18_Why_L1])
        by_cases hz : (0:Int) < ((p.fConsts.length : Nat) : Int)
        · exact Ev.pos hz (Ev.now _)
        · exact Ev.neg hz (Ev.now _)
end Go.Proofs.Ytphieolckpneeaa.Sh
