import Derived.Test.YtphieolckpneeaaPureValidC
set_option linter.unusedVariables false
set_option linter.unusedSimpArgs false
namespace Go.Proofs.Ytphieolckpneeaa.Sh
open Go Lift Go.Proofs
theorem opV_zero (nc no : Int) : opV nc no ⟨0, 0, 0, 0⟩ = true := by
  rfl
theorem opV_fix (nc no : Int) (o : Tapi_Op) : opV nc no (fixO nc no o) = true := by
  unfold fixO
  split
  · assumption
  · exact opV_zero nc no
theorem firstBad_all (nc no : Int) : ∀ (l : List Tapi_Op) (i : Nat), (∀ o ∈ l, opV nc no o = true) → firstBad nc no l i = none
  | [], i, h => rfl
  | o :: os, i, h => by
    rw [firstBad, if_pos (h o (by simp))]
    exact firstBad_all nc no os (i + 1) (fun x hx => h x (by simp [hx]))
theorem firstBad_none (nc no : Int) : ∀ (l : List Tapi_Op) (i : Nat), firstBad nc no l i = none → ∀ o ∈ l, opV nc no o = true
  | [], i, h => fun o ho => by cases ho
  | o :: os, i, h => by
    rw [firstBad] at h
    by_cases hv : opV nc no o = true
    · rw [if_pos hv] at h
      intro x hx
      rcases List.mem_cons.1 hx with rfl | hx
      · exact hv
      · exact firstBad_none nc no os (i + 1) h x hx
    · rw [if_neg hv] at h; cases h
theorem fixed_of_right {q : Tapi_Program} (h1 : q.fOps.length ≤ 120) (h2 : ∀ o ∈ q.fOps, opV q.fConsts.length q.fOps.length o = true) (h3 : q.fConsts.length ≤ 16) (h4 : ∀ t ∈ q.fConsts, mayT t = true) : fixP q = q := by
  obtain ⟨ops, cs⟩ := q
  unfold fixP
  rw [List.take_of_length_le h1, List.take_of_length_le h3]
  congr 1
  · conv => rhs; rw [← List.map_id ops]
    refine List.map_congr_left fun o ho => ?_
    unfold fixO
    rw [if_pos (h2 o ho)]; rfl
  · conv => rhs; rw [← List.map_id cs]
    refine List.map_congr_left fun t ht => ?_
    unfold fixC
    rw [if_pos (h4 t ht)]; rfl
theorem right_of_why {q : Tapi_Program} (h : whyV q = -1) : fixP q = q := by
  unfold whyV at h
  by_cases h1 : q.fOps.length ≤ 120
  · rw [if_pos h1] at h
    cases hb : firstBad q.fConsts.length q.fOps.length q.fOps 0 with
    | some i => rw [hb] at h; simp only at h; omega
    | none =>
      rw [hb] at h
      simp only at h
      unfold tailW at h
      rw [if_neg (by omega)] at h
      by_cases h3 : q.fConsts.length > 16 ∨ q.fConsts.all mayT = false
      · rw [if_pos h3] at h; omega
      · have h4 : ¬ q.fConsts.length > 16 := fun x => h3 (Or.inl x)
        have h5 : q.fConsts.all mayT = true := by
          cases ha : q.fConsts.all mayT with
          | true => rfl
          | false => exact absurd (Or.inr ha) h3
        exact fixed_of_right h1 (firstBad_none _ _ _ _ hb) (by omega) (List.all_eq_true.1 h5)
  · rw [if_neg h1] at h
    unfold tailW at h
    rw [if_pos (by omega)] at h
    omega
theorem why_fix (p : Tapi_Program) : whyV (fixP p) = -1 := by
  have l1 : (fixP p).fOps.length = (p.fOps.take 120).length := List.length_map ..
  have l2 : (fixP p).fConsts.length = (p.fConsts.take 16).length := List.length_map ..
  have m1 : (p.fOps.take 120).length ≤ 120 := by simp; omega
  have m2 : (p.fConsts.take 16).length ≤ 16 := by simp; omega
  have hb : firstBad (fixP p).fConsts.length (fixP p).fOps.length (fixP p).fOps 0 = none := by
    refine firstBad_all _ _ _ _ fun o ho => ?_
    rw [l1, l2]
    obtain ⟨x, hx, rfl⟩ := List.mem_map.1 ho
    exact opV_fix _ _ x
  have ha : (fixP p).fConsts.all mayT = true := by
    refine List.all_eq_true.2 fun t ht => ?_
    obtain ⟨x, hx, rfl⟩ := List.mem_map.1 ht
    exact fixC_may x
  unfold whyV
  rw [if_pos (by omega), hb]
  show tailW (fixP p) = -1
  unfold tailW
  have h3 : ¬ ((fixP p).fConsts.length > 16 ∨ (fixP p).fConsts.all mayT = false) := by
    rintro (h | h)
    · omega
    · rw [ha] at h; cases h
  rw [if_neg (by omega), if_neg h3]
theorem min_eq_if {α : Type} (a : List α) (k : Nat) (n : Int) (hn : n = (k : Int)) : (((a.take k).length : Nat) : Int) = (if n < ((a.length : Nat) : Int) then n else ((a.length : Nat) : Int)) := by
  subst hn
  rw [List.length_take]
  split <;> omega
namespace Pure
theorem ValidFixes (x0 : Tapi_Program) (w0 : wTapi_Program x0) : ∃ N, beehivelaw18_ValidFixes N x0 = some true := by
  refine Ev.ex (f := fun N => beehivelaw18_ValidFixes N x0) ?_
  have haw : Ev (fun N => (beehivelaw18_awake N).bind fun r3 => some r3) true := Ev.bind awake_ev (Ev.now _)
  obtain ⟨b, hb, hf⟩ := greatP_ev x0 w0
  refine Ev.bind hb ?_
  cases b with
  | true => exact Ev.pos rfl haw
  | false =>
    obtain ⟨hF, hc⟩ := hf rfl
    have h1 := hF.ops
    have hF2 := fixP_few hF
    have hfp := fix_ev x0 hF
    have hfp2 := fix_ev (fixP x0) hF2
    rw [right_of_why (why_fix x0)] at hfp2
    have hsp := sameProg_self (fixP x0) hF2
    have l2 : (fixP x0).fConsts.length = (x0.fConsts.take 16).length := List.length_map ..
    have m2 : (x0.fConsts.take 16).length ≤ 16 := by simp; omega
    obtain ⟨y1, y2⟩ := why_ev (fixP x0) hF2 (by omega)
    rw [why_fix] at y1
    obtain ⟨z1, z2⟩ := why_ev x0 hF (by omega)
    have b0 : Ev (fun N => beehivelaw18_ValidFixes_B0 N x0 (fixP x0)) (.inl ()) := by
      refine Ev.step ?_ (fun N => by rw [beehivelaw18_ValidFixes_B0])
      exact Ev.bind y1 (Ev.neg (by simp) (Ev.bind hfp2 (Ev.bind hsp (Ev.neg (by simp) (Ev.now _)))))
    have e1 : (((fixP x0).fOps.length : Nat) : Int) = (if (120 : Int) < ((x0.fOps.length : Nat) : Int) then (120 : Int) else ((x0.fOps.length : Nat) : Int)) := by
      rw [show (fixP x0).fOps.length = (x0.fOps.take 120).length from List.length_map ..]
      exact min_eq_if _ _ _ rfl
    have e2 : (((fixP x0).fConsts.length : Nat) : Int) = (if (16 : Int) < ((x0.fConsts.length : Nat) : Int) then (16 : Int) else ((x0.fConsts.length : Nat) : Int)) := by
      rw [l2]
      exact min_eq_if _ _ _ rfl
    refine Ev.neg (by simp) (Ev.bind hfp (Ev.bind b0 (Ev.bind z1 ?_)))
    by_cases hw : whyV x0 = -1
    · have hsp2 : Ev (fun N => beehivelaw0_SameProgram N x0 (fixP x0)) true := by
        rw [right_of_why hw]
        exact sameProg_self x0 hF
      exact Ev.neg (by simpa using hw) (Ev.bind hsp2 (Ev.pos rfl (Ev.pos e1 (Ev.pos e2 haw))))
    · exact Ev.pos hw (Ev.pos e1 (Ev.pos e2 haw))
end Pure
end Go.Proofs.Ytphieolckpneeaa.Sh
