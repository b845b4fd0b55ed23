import Derived.Test.YtocgnoohfkpbhaaPureNumTerm
import Derived.Test.YtocgnoohfkpbhaaPureCodeA
set_option linter.unusedVariables false
set_option linter.unusedSimpArgs false
namespace Go.Proofs.Ytocgnoohfkpbhaa.Sh
open Go Lift Go.Proofs
theorem knownK_eq {k k' : Int} (h : knownK k = knownK k') : k = k' ∨ ¬ (1 ≤ k ∧ k ≤ 9) ∧ ¬ (1 ≤ k' ∧ k' ≤ 9) := by
  unfold knownK at h
  by_cases a : k < 1
  · rw [if_pos a] at h
    by_cases b : k' < 1
    · exact .inr (by omega)
    · rw [if_neg b] at h
      by_cases c : k' > 9
      · exact .inr (by omega)
      · rw [if_neg c] at h; omega
  · rw [if_neg a] at h
    by_cases a2 : k > 9
    · rw [if_pos a2] at h
      by_cases b : k' < 1
      · exact .inr (by omega)
      · rw [if_neg b] at h
        by_cases c : k' > 9
        · exact .inr (by omega)
        · rw [if_neg c] at h; omega
    · rw [if_neg a2] at h
      by_cases b : k' < 1
      · rw [if_pos b] at h; omega
      · rw [if_neg b] at h
        by_cases c : k' > 9
        · rw [if_pos c] at h; omega
        · rw [if_neg c] at h; exact .inl h
theorem beq_comm' {α : Type} [BEq α] [LawfulBEq α] (a b : α) : (a == b) = (b == a) := by
  rw [Bool.eq_iff_iff, beq_iff_eq, beq_iff_eq]; exact eq_comm
theorem allP_comm {α : Type} {P : α → α → Bool} : ∀ (l l' : List α), (∀ x ∈ l, ∀ y, P x y = P y x) → allP P l l' = allP P l' l
  | [], [], _ => rfl
  | [], _ :: _, _ => rfl
  | _ :: _, [], _ => rfl
  | x :: xs, y :: ys, h => by rw [allP, allP, h x (by simp) y, allP_comm xs ys fun z hz => h z (by simp [hz])]
mutual
theorem sameP_comm : ∀ t u : Tapi_Term, sameP t u = sameP u t
  | ⟨k, n, m, b, s, args⟩, ⟨k', n', m', b', s', args'⟩ => by
    have h := fun (x : Tapi_Term) (hx : x ∈ args) => samePs_comm args x hx
    rw [sameP, sameP]
    show ((knownK k == knownK k') && (if k = 1 ∨ k = 4 ∨ k = 5 then n == n' else if k = 2 then (m.fNeg == m'.fNeg) && allP (fun x y => x == y) m.fMag m'.fMag else if k = 3 then b == b' else if k = 6 ∨ k = 8 then samePs args args' else if k = 9 then s.toList == s'.toList else true)) = ((knownK k' == knownK k) && (if k' = 1 ∨ k' = 4 ∨ k' = 5 then n' == n else if k' = 2 then (m'.fNeg == m.fNeg) && allP (fun x y => x == y) m'.fMag m.fMag else if k' = 3 then b' == b else if k' = 6 ∨ k' = 8 then samePs args' args else if k' = 9 then s'.toList == s.toList else true))
    rw [beq_comm' (knownK k') (knownK k)]
    by_cases e : knownK k = knownK k'
    · rcases knownK_eq e with rfl | ⟨g, g'⟩
      · rw [beq_comm' n' n, beq_comm' m'.fNeg m.fNeg, beq_comm' b' b, beq_comm' s'.toList s.toList, samePs_all, samePs_all, allP_comm args args' (fun x hx y => h x hx y), allP_comm m.fMag m'.fMag (fun x _ y => beq_comm' x y)]
      · rw [if_neg (show ¬ (k = 1 ∨ k = 4 ∨ k = 5) by omega), if_neg (show ¬ k = 2 by omega), if_neg (show ¬ k = 3 by omega), if_neg (show ¬ (k = 6 ∨ k = 8) by omega), if_neg (show ¬ k = 9 by omega), if_neg (show ¬ (k' = 1 ∨ k' = 4 ∨ k' = 5) by omega), if_neg (show ¬ k' = 2 by omega), if_neg (show ¬ k' = 3 by omega), if_neg (show ¬ (k' = 6 ∨ k' = 8) by omega), if_neg (show ¬ k' = 9 by omega)]
    · rw [show (knownK k == knownK k') = false by simpa using e, Bool.false_and, Bool.false_and]
theorem samePs_comm : ∀ (ts : List Tapi_Term), ∀ x ∈ ts, ∀ y : Tapi_Term, sameP x y = sameP y x
  | [], x, hx => by cases hx
  | z :: zs, x, hx => by
    have h1 := sameP_comm z
    have h2 := samePs_comm zs
    rcases List.mem_cons.1 hx with rfl | hx
    · exact h1
    · exact h2 x hx
end
theorem awake_ev : Ev (fun N => beehivelaw4_awake N) true := Ev.from 40 (fun N => by kernel_rfl)
namespace Pure
theorem TermTells (x0 : Tapi_Term) (x1 : Tapi_Term) (w0 : wTapi_Term x0) (w1 : wTapi_Term x1) : ∃ N, beehivelaw4_TermTells N x0 x1 = some true := by
  refine Ev.ex ?_
  obtain ⟨g0, e0, k0⟩ := great_ev x0 w0 500 (by omega) (by omega)
  obtain ⟨g1, e1, k1⟩ := great_ev x1 w1 500 (by omega) (by omega)
  have out : Ev (fun N => beehivelaw4_TermTells_B0 N x0 x1) (.inr true) → Ev (fun N => beehivelaw4_TermTells N x0 x1) true := fun h => Ev.bind h (Ev.now _)
  cases g0 with
  | true =>
    refine out (Ev.step ?_ (fun N => by rw [beehivelaw4_TermTells_B0]))
    exact Ev.bind e0 (Ev.pos rfl (Ev.bind awake_ev (Ev.now _)))
  | false =>
  cases g1 with
  | true =>
    refine out (Ev.step ?_ (fun N => by rw [beehivelaw4_TermTells_B0]))
    exact Ev.bind e0 (Ev.neg Bool.false_ne_true (Ev.bind e1 (Ev.pos rfl (Ev.bind awake_ev (Ev.now _)))))
  | false =>
  obtain ⟨s0, _⟩ := k0 rfl
  obtain ⟨s1, _⟩ := k1 rfl
  have hB0 : Ev (fun N => beehivelaw4_TermTells_B0 N x0 x1) (.inl ()) := by
    refine Ev.step ?_ (fun N => by rw [beehivelaw4_TermTells_B0])
    exact Ev.bind e0 (Ev.neg Bool.false_ne_true (Ev.bind e1 (Ev.neg Bool.false_ne_true (Ev.now _))))
  have hn := tNum_ev x0 s0 w0
  have hr := rtNum_ev x0 s0 w0
  have hl := numT_len x0 s0 w0
  have hs := sameNum_self (numT x0).1 (by omega)
  have hB1 : Ev (fun N => beehivelaw4_TermTells_B1 N x0 x1 (numT x0) (numT x0)) true := by
    refine Ev.step ?_ (fun N => by rw [beehivelaw4_TermTells_B1])
    refine Ev.bind hs (Ev.pos rfl ?_)
    rw [show ((numT x0).2 == (numT x0).2) = true by simp]
    exact Ev.now _
  have q1 := sameP_ev x0 s0 x1
  have q2 := rsameP_ev x0 s0 x1
  have q3 := sameP_ev x1 s1 x0
  rw [sameP_comm x1 x0] at q3
  have q4 := sameP_ev x0 s0 x0
  rw [sameP_self] at q4
  have hB2 : Ev (fun N => beehivelaw4_TermTells_B2 N x0 x1 (numT x0) true (numT x0)) true := by
    refine Ev.step ?_ (fun N => by rw [beehivelaw4_TermTells_B2])
    exact Ev.pos rfl (Ev.bind hs (Ev.pos rfl (Ev.bind (mayT_ev x0 s0 w0) (Ev.bind (rmayT_ev x0 s0 w0) (Ev.pos rfl (Ev.bind q1 (Ev.bind q2 (Ev.pos rfl (Ev.bind q3 (Ev.pos rfl (Ev.bind q4 (Ev.pos rfl (Ev.bind awake_ev (Ev.now _))))))))))))))
  exact Ev.bind hB0 (Ev.bind hn (Ev.bind hr (Ev.bind hB1 (Ev.bind (overL_ev _ (by omega)) (Ev.bind hn (Ev.bind hB2 (Ev.now _)))))))
end Pure
end Go.Proofs.Ytocgnoohfkpbhaa.Sh
