import Derived.Test.YtphieolckpneeaaPureValidA
set_option linter.unusedVariables false
set_option linter.unusedSimpArgs false
namespace Go.Proofs.Ytphieolckpneeaa.Sh
open Go Lift Go.Proofs
def nilT : Tapi_Term := ⟨7,0,⟨false,[]⟩,0,ByteArray.mk #[],[]⟩
theorem nilT_small : Small nilT := Small.mk (by simp [nilT]) (by show 0 ≤ 5000; omega) (by simp [nilT]) (fun x h => by cases h)
theorem nilT_may : mayT nilT = true := by
  have h1 : wt nilT = 1 := by rw [nilT,wt]; rfl
  have h2 : rightT nilT = true := by rw [nilT,rightT,rightsT]; decide
  unfold mayT
  rw [h1,h2]
  decide
theorem nilT_w : wTapi_Term nilT := by
  refine wTapi_Term.mk ?_ ?_ ?_ ?_ ?_ ?_ ?_
  · exact inI_mk (by decide) (by decide)
  · exact inI_mk (by decide) (by decide)
  · exact wTapi_Num.mk trivial ⟨by simp [nilT],fun x h => by cases h⟩
  · show (Lit.int .u64 0).wf = true; decide
  · show 0 ≤ maxLen; omega
  · show 0 ≤ maxLen; omega
  · intro y h; cases h
def fixC (t:Tapi_Term) : Tapi_Term := if mayT t = true then t else nilT
def fixO (nc no:Int) (o:Tapi_Op) : Tapi_Op := if opV nc no o = true then o else ⟨0,0,0,0⟩
def fixP (p:Tapi_Program) : Tapi_Program :=
  ⟨(p.fOps.take 120).map (fixO ((p.fConsts.take 16).length : Nat) ((p.fOps.take 120).length : Nat)),(p.fConsts.take 16).map fixC⟩
theorem cnts_append : ∀ a b : List Tapi_Term,cnts (a++b) = cnts a + cnts b
  | [],b => by simp [cnts]
  | x :: xs,b => by rw [List.cons_append,cnts,cnts,cnts_append xs b]; omega
theorem cnts_take (ts:List Tapi_Term) (n:Nat) : cnts (ts.take n) ≤ cnts ts := by
  have := cnts_append (ts.take n) (ts.drop n)
  rw [List.take_append_drop] at this
  omega
theorem app_snoc {α : Type} {out : List α} {x : α} (h:out.length < 1000000) : app out [x] = some (out++[x]) := app_eq (by rw [lim_eq]; show out.length + 1 ≤ _; omega)
theorem nilT_copy : Ev (fun N => valid_copied N nilT) nilT := copied_ev nilT nilT_small (by rw [nilT,cnt,cnts]; omega)
theorem fixC_loop (r2:List Tapi_Op) : ∀ (ts:List Tapi_Term),(∀ x ∈ ts,Small x) → (∀ x ∈ ts,wTapi_Term x) → cnts ts ≤ 100000 → ∀ (l out:List Tapi_Term) (i:Nat),l.drop i = ts → l.length ≤ 100000 → out.length ≤ i →
    Ev (fun N => valid_Fix_L0 N r2 l out i) (out++ts.map fixC)
  | [],hs,hw,hc,l,out,i,hd,hl,ho => by
    have := drop_end hd
    refine Ev.step ?_ (fun N => by rw [valid_Fix_L0])
    rw [List.map_nil,List.append_nil]
    exact Ev.neg (by omega) (Ev.now _)
  | x :: xs,hs,hw,hc,l,out,i,hd,hl,ho => by
    have hlen := drop_len hd
    rw [cnts] at hc
    have h1 := odd_ev x (hs x (by simp)) (hw x (by simp))
    have h := fixC_loop r2 xs (fun y hy => hs y (by simp [hy])) (fun y hy => hw y (by simp [hy])) (by omega) l (out++[fixC x]) (i + 1) (drop_next hd) hl (by simp; omega)
    rw [List.append_assoc,List.singleton_append] at h
    rw [List.map_cons]
    refine Ev.step ?_ (fun N => by rw [valid_Fix_L0,wrap_succ (by omega)])
    refine Ev.pos (by omega) (Ev.bindc (idx_at hd) (Ev.bind h1 ?_))
    cases hx : mayT x with
    | true =>
      have e : fixC x = x := by unfold fixC; rw [if_pos hx]
      rw [e] at h ⊢
      exact Ev.neg (by simp) (Ev.bind (copied_ev x (hs x (by simp)) (by omega)) (Ev.bindc (app_snoc (by omega)) h))
    | false =>
      have e : fixC x = nilT := by unfold fixC; rw [hx]; rfl
      rw [e] at h ⊢
      exact Ev.pos (by simp) (Ev.bind nilT_copy (Ev.bindc (app_snoc (by omega)) h))
theorem fixO_loop (cs:List Tapi_Term) (hcs:cs.length ≤ 1000) (r2:List Tapi_Op) (hr:r2.length ≤ 1000) : ∀ (ts done:List Tapi_Op) (i:Nat),done.length = i → done.length + ts.length = r2.length →
    Ev (fun N => valid_Fix_L1 N r2 cs (done++ts) i) (done++ts.map (fixO (cs.length : Nat) (r2.length : Nat))) ∧ Ev (fun N => beehiveref18_Fix_L1 N cs (done++ts) i) (done++ts.map (fixO (cs.length : Nat) (r2.length : Nat)))
  | [],done,i,hd,hl => by
    simp only [List.length_nil] at hl
    rw [List.map_nil,List.append_nil]
    constructor
    · refine Ev.step ?_ (fun N => by rw [valid_Fix_L1])
      exact Ev.neg (by omega) (Ev.now _)
    · refine Ev.step ?_ (fun N => by rw [beehiveref18_Fix_L1])
      exact Ev.neg (by omega) (Ev.now _)
  | o :: os,done,i,hd,hl => by
    simp only [List.length_cons] at hl
    have hlen : (done++o :: os).length = r2.length := by simp; omega
    have hi : i < (done++o :: os).length := by omega
    obtain ⟨v1,v2⟩ := op_ev ⟨done++o :: os,cs⟩ hcs (by show (done++o :: os).length ≤ 1000; omega) i hi
    have hoo : (done++o :: os)[i] = o := by
      subst hd
      simp
    have hop : opV (((⟨done++o :: os,cs⟩ : Tapi_Program).fConsts.length : Nat) : Int) (((⟨done++o :: os,cs⟩ : Tapi_Program).fOps.length : Nat) : Int) (done++o :: os)[i] = opV (cs.length : Nat) (r2.length : Nat) o := by
      rw [hoo]
      show opV (cs.length : Nat) ((done++o :: os).length : Nat) o = _
      rw [hlen]
    have v1 : Ev (fun N => valid_Op N ⟨done++o :: os,cs⟩ i) (opV (cs.length : Nat) (r2.length : Nat) o) := hop ▸ v1
    have v2 : Ev (fun N => beehiveref18_Op N ⟨done++o :: os,cs⟩ i) (opV (cs.length : Nat) (r2.length : Nat) o) := hop ▸ v2
    have hset : (done++o :: os).set i ⟨0,0,0,0⟩ = done++[⟨0,0,0,0⟩]++os := by subst hd; simp
    have hsame : done++o :: os = done++[o]++os := by simp
    have hs : IntKind.i64.wrap ((i:Int) + 1) = ((i + 1 : Nat) : Int) := wrap_succ (by omega)
    rw [List.map_cons]
    cases hv : opV (cs.length : Nat) (r2.length : Nat) o with
    | true =>
      rw [hv] at v1 v2
      obtain ⟨w1,w2⟩ := fixO_loop cs hcs r2 hr os (done++[o]) (i + 1) (by simp [hd]) (by simp; omega)
      have ef : fixO (cs.length : Nat) (r2.length : Nat) o = o := by unfold fixO; rw [if_pos hv]
      rw [← hsame,List.append_assoc,List.singleton_append] at w1 w2
      rw [ef]
      constructor
      · refine Ev.step ?_ (fun N => by rw [valid_Fix_L1,hs])
        exact Ev.pos (by omega) (Ev.bind v1 (Ev.neg (by simp) w1))
      · refine Ev.step ?_ (fun N => by rw [beehiveref18_Fix_L1,hs])
        exact Ev.pos (by omega) (Ev.bind v2 (Ev.neg (by simp) w2))
    | false =>
      rw [hv] at v1 v2
      obtain ⟨w1,w2⟩ := fixO_loop cs hcs r2 hr os (done++[⟨0,0,0,0⟩]) (i + 1) (by simp [hd]) (by simp; omega)
      have ef : fixO (cs.length : Nat) (r2.length : Nat) o = ⟨0,0,0,0⟩ := by unfold fixO; rw [hv]; rfl
      rw [List.append_assoc done [⟨0,0,0,0⟩] (os.map _),List.singleton_append] at w1 w2
      rw [ef]
      constructor
      · refine Ev.step ?_ (fun N => by rw [valid_Fix_L1,hs,Int.toNat_natCast,hset])
        exact Ev.pos (by omega) (Ev.bind v1 (Ev.pos (by simp) (Ev.bindc (idx_eq hi) w1)))
      · refine Ev.step ?_ (fun N => by rw [beehiveref18_Fix_L1,hs,Int.toNat_natCast,hset])
        exact Ev.pos (by omega) (Ev.bind v2 (Ev.pos (by simp) (Ev.bindc (idx_eq hi) w2)))
theorem min_cut {α : Type} (l:List α) (m:Nat) : Lift.cut l (0:Int) (if (m:Int) < ((l.length : Nat) : Int) then (m:Int) else ((l.length : Nat) : Int)) = some (l.take m) := by
  by_cases h : (m:Int) < ((l.length : Nat) : Int)
  · rw [if_pos h]
    exact cut_front (by omega)
  · rw [if_neg h,cut_front (Nat.le_refl _),List.take_length,List.take_of_length_le (by omega)]
theorem fix_ev (p:Tapi_Program) (h:Few p) : Ev (fun N => valid_Fix N p) (fixP p) := by
  have h1 := h.ops
  have h2 := h.consts
  have h3 := h.cnts
  have ht := cnts_take p.fConsts 16
  have hl := cnts_len (p.fConsts.take 16)
  have hcl : ((p.fConsts.take 16).map fixC).length = (p.fConsts.take 16).length := List.length_map ..
  have hc := fixC_loop (p.fOps.take 120) (p.fConsts.take 16) (fun x hx => h.small x (List.mem_of_mem_take hx)) (fun x hx => h.wt x (List.mem_of_mem_take hx)) (by omega) (p.fConsts.take 16) [] 0 rfl (by simp; omega) (by simp)
  have ho := (fixO_loop ((p.fConsts.take 16).map fixC) (by rw [hcl]; simp; omega) (p.fOps.take 120) (by simp; omega) (p.fOps.take 120) [] 0 rfl (by simp)).1
  rw [List.nil_append] at hc
  rw [List.nil_append,List.nil_append,hcl] at ho
  exact Ev.bindc (min_cut p.fOps 120) (Ev.bind (cloneO_ev _ (by rw [lim_eq]; simp; omega)) (Ev.bindc (min_cut p.fConsts 16) (Ev.bind hc (Ev.bind ho (Ev.now _)))))
end Go.Proofs.Ytphieolckpneeaa.Sh
