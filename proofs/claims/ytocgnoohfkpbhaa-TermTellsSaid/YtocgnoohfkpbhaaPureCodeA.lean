import Derived.Test.YtocgnoohfkpbhaaPureTermMay
import Derived.Test.YtocgnoohfkpbhaaPureSame
import Derived.Test.YtocgnoohfkpbhaaLift3
set_option linter.unusedVariables false
set_option linter.unusedSimpArgs false
namespace Go.Proofs.Ytocgnoohfkpbhaa.Sh
open Go Lift Go.Proofs
/-! ### Two rows, side by side -/
def allP {α : Type} (P : α → α → Bool) : List α → List α → Bool
  | [], [] => true
  | x :: xs, y :: ys => P x y && allP P xs ys
  | _, _ => false
theorem allP_len {α : Type} {P : α → α → Bool} : ∀ {l l' : List α}, l.length ≠ l'.length → allP P l l' = false
  | [], [], h => absurd rfl h
  | [], _ :: _, _ => rfl
  | _ :: _, [], _ => rfl
  | x :: xs, y :: ys, h => by rw [allP, allP_len (by simpa using h), Bool.and_false]
theorem loop2 {α : Type} (F : Nat → Int → Option (Unit ⊕ Unit)) (l l' : List α) (P : α → α → Bool)
    (fin : ∀ i : Nat, l.length ≤ i → Ev (fun N => F N (i : Int)) (.inl ()))
    (no : ∀ (i : Nat) (x y : α), i < l.length → idx l (i : Int) = some x → idx l' (i : Int) = some y → x ∈ l → y ∈ l' → P x y = false → Ev (fun N => F N (i : Int)) (.inr ()))
    (yes : ∀ (i : Nat) (x y : α) (r : Unit ⊕ Unit), i < l.length → idx l (i : Int) = some x → idx l' (i : Int) = some y → x ∈ l → y ∈ l' → P x y = true → Ev (fun N => F N ((i + 1 : Nat) : Int)) r → Ev (fun N => F N (i : Int)) r) :
    ∀ (ts ts' : List α) (i : Nat), l.drop i = ts → l'.drop i = ts' → ts.length = ts'.length → Ev (fun N => F N (i : Int)) (if allP P ts ts' = true then .inl () else .inr ())
  | [], [], i, hd, hd', hl => by rw [allP, if_pos rfl]; exact fin i (drop_end hd)
  | x :: xs, y :: ys, i, hd, hd', hl => by
    have hlen := drop_len hd
    have mx : x ∈ l := List.mem_of_mem_drop (i := i) (by rw [hd]; exact List.mem_cons_self)
    have my : y ∈ l' := List.mem_of_mem_drop (i := i) (by rw [hd']; exact List.mem_cons_self)
    rw [allP]
    cases h : P x y with
    | false => rw [Bool.false_and, if_neg Bool.false_ne_true]; exact no i x y (by omega) (idx_at hd) (idx_at hd') mx my h
    | true => rw [Bool.true_and]; exact yes i x y _ (by omega) (idx_at hd) (idx_at hd') mx my h (loop2 F l l' P fin no yes xs ys (i + 1) (drop_next hd) (drop_next hd') (by simpa using hl))
/-! ### Which two are the same -/
theorem eq32_ev (l l' : List Int) (hl : l.length ≤ 100000) : Ev (fun N => slices_Equal_uint32_uint32 N l l') (allP (fun x y => x == y) l l') := by
  by_cases h : ((l.length : Nat) : Int) ≠ ((l'.length : Nat) : Int)
  · rw [allP_len (by omega)]; exact Ev.pos h (Ev.now _)
  · have hh := loop2 (fun N v => slices_Equal_uint32_uint32_L0 N l l' v) l l' (fun x y => x == y)
      (fun i hi => by
        refine Ev.step ?_ (fun N => by rw [slices_Equal_uint32_uint32_L0])
        exact Ev.neg (by omega) (Ev.now _))
      (fun i x y hi h1 h2 _ _ hp => by
        refine Ev.step ?_ (fun N => by rw [slices_Equal_uint32_uint32_L0])
        exact Ev.pos (by omega) (Ev.bindc h1 (Ev.bindc h2 (Ev.pos (fun e => by subst e; simp at hp) (Ev.now _)))))
      (fun i x y r hi h1 h2 _ _ hp hr => by
        refine Ev.step ?_ (fun N => by rw [slices_Equal_uint32_uint32_L0, wrap_succ (by omega)])
        exact Ev.pos (by omega) (Ev.bindc h1 (Ev.bindc h2 (Ev.neg (fun e => e (by simpa using hp)) hr))))
      l l' 0 rfl rfl (by omega)
    refine Ev.neg h (Ev.bind hh ?_)
    cases allP (fun x y => x == y) l l' <;> exact Ev.now _
theorem mag_ev (a b : Tapi_Term) (hl : a.fNum.fMag.length ≤ 100000) (he : a.fNum.fMag.length = b.fNum.fMag.length) : Ev (fun N => beehiveref4_Same_L2 N a b 0) (if allP (fun x y => x == y) a.fNum.fMag b.fNum.fMag = true then .inl () else .inr ()) :=
  loop2 (fun N v => beehiveref4_Same_L2 N a b v) a.fNum.fMag b.fNum.fMag (fun x y => x == y)
    (fun i hi => by
      refine Ev.step ?_ (fun N => by rw [beehiveref4_Same_L2])
      exact Ev.neg (by omega) (Ev.now _))
    (fun i x y hi h1 h2 _ _ hp => by
      refine Ev.step ?_ (fun N => by rw [beehiveref4_Same_L2])
      exact Ev.pos (by omega) (Ev.bindc h1 (Ev.bindc h2 (Ev.pos (fun e => by subst e; simp at hp) (Ev.now _)))))
    (fun i x y r hi h1 h2 _ _ hp hr => by
      refine Ev.step ?_ (fun N => by rw [beehiveref4_Same_L2, wrap_succ (by omega)])
      exact Ev.pos (by omega) (Ev.bindc h1 (Ev.bindc h2 (Ev.neg (fun e => e (by simpa using hp)) hr))))
    _ _ 0 rfl rfl he
def knownK (k : Int) : Int := if k < 1 then 0 else if k > 9 then 0 else k
theorem known_ev (k : Int) : Ev (fun N => term_known N k) (knownK k) := Ev.iff (fun _ => Ev.now _) (fun _ => Ev.iff (fun _ => Ev.now _) (fun _ => Ev.now _))
mutual
def sameP : Tapi_Term → Tapi_Term → Bool
  | ⟨k, n, m, b, s, args⟩, t => (knownK k == knownK t.fKind) && (if k = 1 ∨ k = 4 ∨ k = 5 then n == t.fN else if k = 2 then (m.fNeg == t.fNum.fNeg) && allP (fun x y => x == y) m.fMag t.fNum.fMag else if k = 3 then b == t.fBits else if k = 6 ∨ k = 8 then samePs args t.fArgs else if k = 9 then s.toList == t.fBytes.toList else true)
def samePs : List Tapi_Term → List Tapi_Term → Bool
  | [], [] => true
  | x :: xs, y :: ys => sameP x y && samePs xs ys
  | _, _ => false
end
theorem samePs_all : ∀ l l' : List Tapi_Term, samePs l l' = allP sameP l l'
  | [], [] => by rw [samePs, allP]
  | [], _ :: _ => by rw [samePs, allP] <;> simp
  | _ :: _, [] => by rw [samePs, allP] <;> simp
  | x :: xs, y :: ys => by rw [samePs, allP, samePs_all xs ys]
theorem sameB1_ev (t u : Tapi_Term) : Ev (fun N => term_Same_B1 N t u) (decide (t.fKind = 1 ∨ t.fKind = 4 ∨ t.fKind = 5)) := by
  refine Ev.step ?_ (fun N => by rw [term_Same_B1])
  by_cases k1 : t.fKind = 1
  · have e : decide (t.fKind = 1 ∨ t.fKind = 4 ∨ t.fKind = 5) = (t.fKind == 1) := by simp [k1]
    rw [e]; exact Ev.pos k1 (Ev.now _)
  · by_cases k4 : t.fKind = 4
    · have e : decide (t.fKind = 1 ∨ t.fKind = 4 ∨ t.fKind = 5) = (t.fKind == 4) := by simp [k4]
      rw [e]; exact Ev.neg k1 (Ev.pos k4 (Ev.now _))
    · have e : decide (t.fKind = 1 ∨ t.fKind = 4 ∨ t.fKind = 5) = (t.fKind == 5) := by by_cases k5 : t.fKind = 5 <;> simp [k1, k4, k5]
      rw [e]; exact Ev.neg k1 (Ev.neg k4 (Ev.now _))
theorem rsameB1_ev (t u : Tapi_Term) : Ev (fun N => beehiveref4_Same_B1 N t u) (decide (t.fKind = 1 ∨ t.fKind = 4 ∨ t.fKind = 5)) := by
  refine Ev.step ?_ (fun N => by rw [beehiveref4_Same_B1])
  by_cases k1 : t.fKind = 1
  · have e : decide (t.fKind = 1 ∨ t.fKind = 4 ∨ t.fKind = 5) = (t.fKind == 1) := by simp [k1]
    rw [e]; exact Ev.pos k1 (Ev.now _)
  · by_cases k4 : t.fKind = 4
    · have e : decide (t.fKind = 1 ∨ t.fKind = 4 ∨ t.fKind = 5) = (t.fKind == 4) := by simp [k4]
      rw [e]; exact Ev.neg k1 (Ev.pos k4 (Ev.now _))
    · have e : decide (t.fKind = 1 ∨ t.fKind = 4 ∨ t.fKind = 5) = (t.fKind == 5) := by by_cases k5 : t.fKind = 5 <;> simp [k1, k4, k5]
      rw [e]; exact Ev.neg k1 (Ev.neg k4 (Ev.now _))
theorem sameTs_of (l l' : List Tapi_Term) (hl : l.length ≤ maxLen) (h : ∀ x ∈ l, ∀ y ∈ l', Ev (fun N => term_Same N x y) (sameP x y)) : Ev (fun N => slices_EqualFunc_api_Term_api_Term_api_Term_api_Term N l l') (samePs l l') := by
  rw [maxLen_eq] at hl
  rw [samePs_all]
  refine Ev.step ?_ (fun N => by rw [slices_EqualFunc_api_Term_api_Term_api_Term_api_Term])
  by_cases h0 : ((l.length : Nat) : Int) ≠ ((l'.length : Nat) : Int)
  · rw [allP_len (by omega)]; exact Ev.pos h0 (Ev.now _)
  · have hh := loop2 (fun N v => slices_EqualFunc_api_Term_api_Term_api_Term_api_Term_L0 N l l' v) l l' sameP
      (fun i hi => by
        refine Ev.step ?_ (fun N => by rw [slices_EqualFunc_api_Term_api_Term_api_Term_api_Term_L0])
        exact Ev.neg (by omega) (Ev.now _))
      (fun i x y hi h1 h2 mx my hp => by
        have he := h x mx y my
        rw [hp] at he
        refine Ev.step ?_ (fun N => by rw [slices_EqualFunc_api_Term_api_Term_api_Term_api_Term_L0])
        exact Ev.pos (by omega) (Ev.bindc h1 (Ev.bindc h2 (Ev.bind he (Ev.pos Bool.false_ne_true (Ev.now _))))))
      (fun i x y r hi h1 h2 mx my hp hr => by
        have he := h x mx y my
        rw [hp] at he
        refine Ev.step ?_ (fun N => by rw [slices_EqualFunc_api_Term_api_Term_api_Term_api_Term_L0, wrap_succ (by omega)])
        exact Ev.pos (by omega) (Ev.bindc h1 (Ev.bindc h2 (Ev.bind he (Ev.neg (fun e => e rfl) hr)))))
      l l' 0 rfl rfl (by omega)
    refine Ev.neg h0 (Ev.bind hh ?_)
    cases allP sameP l l' <;> exact Ev.now _
theorem rsameTs_of (a b : Tapi_Term) (hl : a.fArgs.length ≤ maxLen) (he : a.fArgs.length = b.fArgs.length) (h : ∀ x ∈ a.fArgs, ∀ y ∈ b.fArgs, Ev (fun N => beehiveref4_Same N x y) (sameP x y)) : Ev (fun N => beehiveref4_Same_L3 N a b 0) (if samePs a.fArgs b.fArgs = true then .inl () else .inr ()) := by
  rw [maxLen_eq] at hl
  rw [samePs_all]
  exact loop2 (fun N v => beehiveref4_Same_L3 N a b v) a.fArgs b.fArgs sameP
      (fun i hi => by
        refine Ev.step ?_ (fun N => by rw [beehiveref4_Same_L3])
        exact Ev.neg (by omega) (Ev.now _))
      (fun i x y hi h1 h2 mx my hp => by
        have he := h x mx y my
        rw [hp] at he
        refine Ev.step ?_ (fun N => by rw [beehiveref4_Same_L3])
        exact Ev.pos (by omega) (Ev.bindc h1 (Ev.bindc h2 (Ev.bind he (Ev.pos Bool.false_ne_true (Ev.now _))))))
      (fun i x y r hi h1 h2 mx my hp hr => by
        have he := h x mx y my
        rw [hp] at he
        refine Ev.step ?_ (fun N => by rw [beehiveref4_Same_L3, wrap_succ (by omega)])
        exact Ev.pos (by omega) (Ev.bindc h1 (Ev.bindc h2 (Ev.bind he (Ev.neg (fun e => e rfl) hr)))))
      _ _ 0 rfl rfl he
mutual
theorem sameP_ev : ∀ (t : Tapi_Term), Small t → ∀ u : Tapi_Term, Ev (fun N => term_Same N t u) (sameP t u)
  | ⟨k, n, m, b, s, args⟩, hs, u => by
    have hm : m.fMag.length ≤ 40 := hs.mag
    have hargs := fun (l' : List Tapi_Term) => sameTs_of args l' hs.len (fun x hx y hy => samePs_ev args hs.args x hx y)
    refine Ev.step ?_ (fun N => by rw [term_Same])
    refine Ev.bind (known_ev k) (Ev.bind (known_ev u.fKind) ?_)
    rw [sameP]
    by_cases hk : knownK k = knownK u.fKind
    · rw [show (knownK k == knownK u.fKind) = true by simpa using hk, Bool.true_and]
      refine Ev.neg (fun h => h hk) ?_
      have fin : ∀ {v : Unit ⊕ Bool} {w : Bool}, Ev (fun N => term_Same_B0 N ⟨k, n, m, b, s, args⟩ u) v → (match v with | .inl _ => true | .inr r => r) = w → Ev (fun N => (term_Same_B0 N ⟨k, n, m, b, s, args⟩ u).bind fun r17 => (match r17 with | .inl r18 => some true | .inr r19 => some r19)) w := fun {v w} h e => by
        subst e
        cases v <;> exact Ev.bind h (Ev.now _)
      have hB1 := sameB1_ev ⟨k, n, m, b, s, args⟩ u
      by_cases k1 : k = 1 ∨ k = 4 ∨ k = 5
      · rw [decide_eq_true (show (⟨k, n, m, b, s, args⟩ : Tapi_Term).fKind = 1 ∨ (⟨k, n, m, b, s, args⟩ : Tapi_Term).fKind = 4 ∨ (⟨k, n, m, b, s, args⟩ : Tapi_Term).fKind = 5 from k1)] at hB1
        rw [if_pos k1]
        refine fin (v := .inr (n == u.fN)) ?_ rfl
        refine Ev.step ?_ (fun N => by rw [term_Same_B0])
        exact Ev.bind hB1 (Ev.pos rfl (Ev.now _))
      rw [decide_eq_false (show ¬ ((⟨k, n, m, b, s, args⟩ : Tapi_Term).fKind = 1 ∨ (⟨k, n, m, b, s, args⟩ : Tapi_Term).fKind = 4 ∨ (⟨k, n, m, b, s, args⟩ : Tapi_Term).fKind = 5) from k1)] at hB1
      rw [if_neg k1]
      by_cases k2 : k = 2
      · rw [if_pos k2]
        by_cases hn : m.fNeg = u.fNum.fNeg
        · rw [show (m.fNeg == u.fNum.fNeg) = true by simpa using hn, Bool.true_and]
          refine fin (v := .inr (allP (fun x y => x == y) m.fMag u.fNum.fMag)) ?_ rfl
          refine Ev.step ?_ (fun N => by rw [term_Same_B0])
          exact Ev.bind hB1 (Ev.neg Bool.false_ne_true (Ev.pos k2 (Ev.pos hn (Ev.bind (eq32_ev m.fMag u.fNum.fMag (by omega)) (Ev.now _)))))
        · rw [show (m.fNeg == u.fNum.fNeg) = false by simpa using hn, Bool.false_and]
          refine fin (v := .inr false) ?_ rfl
          refine Ev.step ?_ (fun N => by rw [term_Same_B0])
          exact Ev.bind hB1 (Ev.neg Bool.false_ne_true (Ev.pos k2 (Ev.neg hn (Ev.now _))))
      rw [if_neg k2]
      by_cases k3 : k = 3
      · rw [if_pos k3]
        refine fin (v := .inr (b == u.fBits)) ?_ rfl
        refine Ev.step ?_ (fun N => by rw [term_Same_B0])
        exact Ev.bind hB1 (Ev.neg Bool.false_ne_true (Ev.neg k2 (Ev.pos k3 (Ev.now _))))
      rw [if_neg k3]
      by_cases k6 : k = 6
      · rw [if_pos (.inl k6)]
        refine fin (v := .inr (samePs args u.fArgs)) ?_ rfl
        refine Ev.step ?_ (fun N => by rw [term_Same_B0])
        exact Ev.bind hB1 (Ev.neg Bool.false_ne_true (Ev.neg k2 (Ev.neg k3 (Ev.pos k6 (Ev.bind (hargs u.fArgs) (Ev.now _))))))
      by_cases k8 : k = 8
      · rw [if_pos (.inr k8)]
        refine fin (v := .inr (samePs args u.fArgs)) ?_ rfl
        refine Ev.step ?_ (fun N => by rw [term_Same_B0])
        exact Ev.bind hB1 (Ev.neg Bool.false_ne_true (Ev.neg k2 (Ev.neg k3 (Ev.neg k6 (Ev.pos k8 (Ev.bind (hargs u.fArgs) (Ev.now _)))))))
      rw [if_neg (show ¬ (k = 6 ∨ k = 8) by omega)]
      by_cases k9 : k = 9
      · rw [if_pos k9]
        refine fin (v := .inr (s.toList == u.fBytes.toList)) ?_ rfl
        refine Ev.step ?_ (fun N => by rw [term_Same_B0])
        exact Ev.bind hB1 (Ev.neg Bool.false_ne_true (Ev.neg k2 (Ev.neg k3 (Ev.neg k6 (Ev.neg k8 (Ev.pos k9 (Ev.now _)))))))
      · rw [if_neg k9]
        refine fin (v := .inl ()) ?_ rfl
        refine Ev.step ?_ (fun N => by rw [term_Same_B0])
        exact Ev.bind hB1 (Ev.neg Bool.false_ne_true (Ev.neg k2 (Ev.neg k3 (Ev.neg k6 (Ev.neg k8 (Ev.neg k9 (Ev.now _)))))))
    · rw [show (knownK k == knownK u.fKind) = false by simpa using hk, Bool.false_and]
      exact Ev.pos hk (Ev.now _)
theorem samePs_ev : ∀ (ts : List Tapi_Term), (∀ x ∈ ts, Small x) → ∀ x ∈ ts, ∀ y : Tapi_Term, Ev (fun N => term_Same N x y) (sameP x y)
  | [], hs, x, hx => by cases hx
  | z :: zs, hs, x, hx => by
    have h1 := sameP_ev z (hs z (by simp))
    have h2 := samePs_ev zs (fun y hy => hs y (by simp [hy]))
    rcases List.mem_cons.1 hx with rfl | hx
    · exact h1
    · exact h2 x hx
end
mutual
theorem rsameP_ev : ∀ (t : Tapi_Term), Small t → ∀ u : Tapi_Term, Ev (fun N => beehiveref4_Same N t u) (sameP t u)
  | ⟨k, n, m, b, s, args⟩, hs, u => by
    have hm : m.fMag.length ≤ 40 := hs.mag
    have hargs := fun (he : args.length = u.fArgs.length) => rsameTs_of ⟨k, n, m, b, s, args⟩ u hs.len he (fun x hx y hy => rsamePs_ev args hs.args x hx y)
    have hkn : ∀ k : Int, Ev (fun N => beehiveref4_known N k) (decide (knownK k ≠ 0)) := fun k => by
      by_cases h1 : k ≥ 1
      · have e : decide (knownK k ≠ 0) = decide (k ≤ 9) := decide_eq_decide.2 (by unfold knownK; rw [if_neg (by omega)]; split <;> omega)
        rw [e]; exact Ev.pos h1 (Ev.now _)
      · have e : decide (knownK k ≠ 0) = false := decide_eq_false (fun h => h (by unfold knownK; rw [if_pos (by omega)]))
        rw [e]; exact Ev.neg h1 (Ev.now _)
    refine Ev.step ?_ (fun N => by rw [beehiveref4_Same])
    rw [sameP]
    by_cases hk : k = u.fKind
    · subst hk
      rw [show (knownK u.fKind == knownK u.fKind) = true by simp, Bool.true_and]
      refine Ev.neg (fun h => h rfl) ?_
      have fin : ∀ {v : Unit ⊕ Bool} {w : Bool}, Ev (fun N => beehiveref4_Same_B0 N ⟨u.fKind, n, m, b, s, args⟩ u) v → (match v with | .inl _ => true | .inr r => r) = w → Ev (fun N => (beehiveref4_Same_B0 N ⟨u.fKind, n, m, b, s, args⟩ u).bind fun r17 => (match r17 with | .inl r18 => some true | .inr r19 => some r19)) w := fun {v w} h e => by
        subst e
        cases v <;> exact Ev.bind h (Ev.now _)
      have hB1 := rsameB1_ev ⟨u.fKind, n, m, b, s, args⟩ u
      generalize hku : u.fKind = k at hB1 fin hargs
      by_cases k1 : k = 1 ∨ k = 4 ∨ k = 5
      · rw [decide_eq_true (show (⟨k, n, m, b, s, args⟩ : Tapi_Term).fKind = 1 ∨ (⟨k, n, m, b, s, args⟩ : Tapi_Term).fKind = 4 ∨ (⟨k, n, m, b, s, args⟩ : Tapi_Term).fKind = 5 from k1)] at hB1
        rw [if_pos k1]
        refine fin (v := .inr (n == u.fN)) ?_ rfl
        refine Ev.step ?_ (fun N => by rw [beehiveref4_Same_B0])
        exact Ev.bind hB1 (Ev.pos rfl (Ev.now _))
      rw [decide_eq_false (show ¬ ((⟨k, n, m, b, s, args⟩ : Tapi_Term).fKind = 1 ∨ (⟨k, n, m, b, s, args⟩ : Tapi_Term).fKind = 4 ∨ (⟨k, n, m, b, s, args⟩ : Tapi_Term).fKind = 5) from k1)] at hB1
      rw [if_neg k1]
      by_cases k2 : k = 2
      · rw [if_pos k2]
        by_cases hn : m.fNeg = u.fNum.fNeg
        · rw [show (m.fNeg == u.fNum.fNeg) = true by simpa using hn, Bool.true_and]
          by_cases hl : m.fMag.length = u.fNum.fMag.length
          · have hmag := mag_ev ⟨k, n, m, b, s, args⟩ u (by show m.fMag.length ≤ _; omega) hl
            refine fin (v := if allP (fun x y => x == y) m.fMag u.fNum.fMag = true then .inl () else .inr false) ?_ (by cases allP (fun x y => x == y) m.fMag u.fNum.fMag <;> rfl)
            refine Ev.step ?_ (fun N => by rw [beehiveref4_Same_B0])
            refine Ev.bind hB1 (Ev.neg Bool.false_ne_true (Ev.pos k2 (Ev.neg (fun e => e hn) (Ev.neg (by show ¬ (((m.fMag.length : Nat) : Int) ≠ _); omega) (Ev.bind hmag ?_)))))
            show Ev (fun N => match (if allP (fun x y => x == y) m.fMag u.fNum.fMag = true then (.inl () : Unit ⊕ Unit) else .inr ()) with | .inl r17 => some (.inl () : Unit ⊕ Bool) | .inr r18 => some (.inr false)) _
            cases allP (fun x y => x == y) m.fMag u.fNum.fMag <;> exact Ev.now _
          · rw [allP_len hl]
            refine fin (v := .inr false) ?_ rfl
            refine Ev.step ?_ (fun N => by rw [beehiveref4_Same_B0])
            exact Ev.bind hB1 (Ev.neg Bool.false_ne_true (Ev.pos k2 (Ev.neg (fun e => e hn) (Ev.pos (by show (((m.fMag.length : Nat) : Int) ≠ _); omega) (Ev.now _)))))
        · rw [show (m.fNeg == u.fNum.fNeg) = false by simpa using hn, Bool.false_and]
          refine fin (v := .inr false) ?_ rfl
          refine Ev.step ?_ (fun N => by rw [beehiveref4_Same_B0])
          exact Ev.bind hB1 (Ev.neg Bool.false_ne_true (Ev.pos k2 (Ev.pos hn (Ev.now _))))
      rw [if_neg k2]
      by_cases k3 : k = 3
      · rw [if_pos k3]
        refine fin (v := .inr (b == u.fBits)) ?_ rfl
        refine Ev.step ?_ (fun N => by rw [beehiveref4_Same_B0])
        exact Ev.bind hB1 (Ev.neg Bool.false_ne_true (Ev.neg k2 (Ev.pos k3 (Ev.now _))))
      rw [if_neg k3]
      by_cases k9 : k = 9
      · rw [if_neg (show ¬ (k = 6 ∨ k = 8) by omega), if_pos k9]
        refine fin (v := .inr (s.toList == u.fBytes.toList)) ?_ rfl
        refine Ev.step ?_ (fun N => by rw [beehiveref4_Same_B0])
        exact Ev.bind hB1 (Ev.neg Bool.false_ne_true (Ev.neg k2 (Ev.neg k3 (Ev.pos k9 (Ev.now _)))))
      by_cases k68 : k = 6 ∨ k = 8
      · rw [if_pos k68]
        by_cases hl : args.length = u.fArgs.length
        · have ha := hargs hl
          refine fin (v := if samePs args u.fArgs = true then .inl () else .inr false) ?_ (by cases samePs args u.fArgs <;> rfl)
          refine Ev.step ?_ (fun N => by rw [beehiveref4_Same_B0])
          have tail : Ev (fun N => (beehiveref4_Same_L3 N ⟨k, n, m, b, s, args⟩ u 0).bind fun r28 => (match r28 with | .inl r29 => some (.inl () : Unit ⊕ Bool) | .inr r30 => some (.inr false))) (if samePs args u.fArgs = true then .inl () else .inr false) := by
            refine Ev.bind ha ?_
            show Ev (fun N => match (if samePs args u.fArgs = true then (.inl () : Unit ⊕ Unit) else .inr ()) with | .inl r17 => some (.inl () : Unit ⊕ Bool) | .inr r18 => some (.inr false)) _
            cases samePs args u.fArgs <;> exact Ev.now _
          by_cases k6 : k = 6
          · exact Ev.bind hB1 (Ev.neg Bool.false_ne_true (Ev.neg k2 (Ev.neg k3 (Ev.neg k9 (Ev.pos k6 (Ev.neg (by show ¬ (((args.length : Nat) : Int) ≠ _); omega) tail))))))
          · exact Ev.bind hB1 (Ev.neg Bool.false_ne_true (Ev.neg k2 (Ev.neg k3 (Ev.neg k9 (Ev.neg k6 (Ev.pos (by show k = 8; omega) (Ev.neg (by show ¬ (((args.length : Nat) : Int) ≠ _); omega) tail)))))))
        · rw [samePs_all, allP_len hl]
          refine fin (v := .inr false) ?_ rfl
          refine Ev.step ?_ (fun N => by rw [beehiveref4_Same_B0])
          by_cases k6 : k = 6
          · exact Ev.bind hB1 (Ev.neg Bool.false_ne_true (Ev.neg k2 (Ev.neg k3 (Ev.neg k9 (Ev.pos k6 (Ev.pos (by show (((args.length : Nat) : Int) ≠ _); omega) (Ev.now _)))))))
          · exact Ev.bind hB1 (Ev.neg Bool.false_ne_true (Ev.neg k2 (Ev.neg k3 (Ev.neg k9 (Ev.neg k6 (Ev.pos (by show k = 8; omega) (Ev.pos (by show (((args.length : Nat) : Int) ≠ _); omega) (Ev.now _))))))))
      · rw [if_neg k68, if_neg k9]
        refine fin (v := .inl ()) ?_ rfl
        refine Ev.step ?_ (fun N => by rw [beehiveref4_Same_B0])
        exact Ev.bind hB1 (Ev.neg Bool.false_ne_true (Ev.neg k2 (Ev.neg k3 (Ev.neg k9 (Ev.neg (fun e => k68 (.inl e)) (Ev.neg (fun e => k68 (.inr e)) (Ev.now _)))))))
    · refine Ev.pos hk (Ev.bind (hkn k) ?_)
      by_cases z : knownK k = 0
      · rw [decide_eq_false (fun h => h z)]
        have kk : ¬ (1 ≤ k ∧ k ≤ 9) := fun h => by unfold knownK at z; rw [if_neg (by omega), if_neg (by omega)] at z; omega
        rw [if_neg (show ¬ (k = 1 ∨ k = 4 ∨ k = 5) by omega), if_neg (show ¬ k = 2 by omega), if_neg (show ¬ k = 3 by omega), if_neg (show ¬ (k = 6 ∨ k = 8) by omega), if_neg (show ¬ k = 9 by omega), Bool.and_true, z]
        have e : ((0 : Int) == knownK u.fKind) = !decide (knownK u.fKind ≠ 0) := by by_cases c : knownK u.fKind = 0 <;> simp [c]; omega
        rw [e]
        exact Ev.pos Bool.false_ne_true (Ev.bind (hkn u.fKind) (Ev.now _))
      · rw [decide_eq_true z]
        have e : (knownK k == knownK u.fKind) = false := by
          have : knownK k ≠ knownK u.fKind := fun e => by
            unfold knownK at e z
            split at z
            · exact z rfl
            · split at z
              · exact z rfl
              · rw [if_neg (by omega), if_neg (by omega)] at e
                split at e
                · omega
                · split at e
                  · omega
                  · exact hk e
          simpa using this
        rw [e, Bool.false_and]
        exact Ev.neg (fun h => h rfl) (Ev.now _)
theorem rsamePs_ev : ∀ (ts : List Tapi_Term), (∀ x ∈ ts, Small x) → ∀ x ∈ ts, ∀ y : Tapi_Term, Ev (fun N => beehiveref4_Same N x y) (sameP x y)
  | [], hs, x, hx => by cases hx
  | z :: zs, hs, x, hx => by
    have h1 := rsameP_ev z (hs z (by simp))
    have h2 := rsamePs_ev zs (fun y hy => hs y (by simp [hy]))
    rcases List.mem_cons.1 hx with rfl | hx
    · exact h1
    · exact h2 x hx
end
theorem allP_self {α : Type} {P : α → α → Bool} : ∀ {l : List α}, (∀ x ∈ l, P x x = true) → allP P l l = true
  | [], _ => rfl
  | x :: xs, h => by rw [allP, h x (by simp), Bool.true_and]; exact allP_self fun y hy => h y (by simp [hy])
theorem eqI_self (l : List Int) : allP (fun x y => x == y) l l = true := allP_self fun x _ => by simp
mutual
theorem sameP_self : ∀ t : Tapi_Term, sameP t t = true
  | ⟨k, n, m, b, s, args⟩ => by
    have h := samePs_self args
    rw [sameP]
    show ((knownK k == knownK k) && (if k = 1 ∨ k = 4 ∨ k = 5 then n == n else if k = 2 then (m.fNeg == m.fNeg) && allP (fun x y => x == y) m.fMag m.fMag else if k = 3 then b == b else if k = 6 ∨ k = 8 then samePs args args else if k = 9 then s.toList == s.toList else true)) = true
    rw [h, eqI_self]
    simp
theorem samePs_self : ∀ ts : List Tapi_Term, samePs ts ts = true
  | [] => by rw [samePs]
  | x :: xs => by rw [samePs, sameP_self x, samePs_self xs]; rfl
end
end Go.Proofs.Ytocgnoohfkpbhaa.Sh
