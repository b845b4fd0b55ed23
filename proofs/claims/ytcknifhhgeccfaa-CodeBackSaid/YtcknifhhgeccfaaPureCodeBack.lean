import Derived.Test.YtcknifhhgeccfaaPureCodeC
set_option linter.unusedVariables false
set_option linter.unusedSimpArgs false
namespace Go.Proofs.Ytcknifhhgeccfaa.Sh
open Go Lift Go.Proofs
namespace Pure
theorem CodeBack (x0:Tapi_Program) (x1:(List Int)) (x2:Int) (w0:wTapi_Program x0) (w1:(ListR (InR .u8)) x1) (w2:(InR .i64) x2) : ∃ N,beehivelaw17_CodeBack N x0 x1 x2 = some true := by
  refine Ev.ex ?_
  have y1 := bytes_of w1
  obtain ⟨g0,e0,k0⟩ := greatP_ev x0 w0
  have out : Ev (fun N => beehivelaw17_CodeBack_B0 N x0 x1 x2) (.inr true) → Ev (fun N => beehivelaw17_CodeBack N x0 x1 x2) true := fun h => Ev.bind h (Ev.now _)
  cases g0 with
  | true =>
    refine out (Ev.step ?_ (fun N => by rw [beehivelaw17_CodeBack_B0]))
    exact Ev.bind e0 (Ev.pos rfl (Ev.bind awake17_ev (Ev.now _)))
  | false =>
  by_cases hl1 : ((x1.length : Nat) : Int) > 4000
  · refine out (Ev.step ?_ (fun N => by rw [beehivelaw17_CodeBack_B0]))
    exact Ev.bind e0 (Ev.neg Bool.false_ne_true (Ev.pos hl1 (Ev.bind awake17_ev (Ev.now _))))
  have hB0 : Ev (fun N => beehivelaw17_CodeBack_B0 N x0 x1 x2) (.inl ()) := by
    refine Ev.step ?_ (fun N => by rw [beehivelaw17_CodeBack_B0])
    exact Ev.bind e0 (Ev.neg Bool.false_ne_true (Ev.neg hl1 (Ev.now _)))
  obtain ⟨o0,c0,s0,n0⟩ := k0 rfl
  have hL := pLay_ev x0 s0 w0.Consts.all
  have hB12 : Ev (fun N => beehivelaw17_CodeBack_B1 N x0 x1 x2 (laidP x0)) (.inl ()) ∧ Ev (fun N => beehivelaw17_CodeBack_B2 N x0 x1 x2 (laidP x0)) (.inl ()) := by
    by_cases hz : (laidP x0).2 = 0
    · have hf := fits_of hz s0 w0.Consts.all
      have hll := hf.len
      have hbl := bodyP_len x0
      rw [hf.laid]
      constructor
      · refine Ev.step ?_ (fun N => by rw [beehivelaw17_CodeBack_B1])
        exact Ev.pos rfl (Ev.neg (by show ¬ (((bodyP x0).length : Nat) : Int) = 0; omega) (Ev.now _))
      · obtain ⟨lo,hlo,hlo1⟩ := low_any x2 ((bodyP x0).length : Int) (by omega) (by omega)
        have rd1 := pRead_ok hf
        have tk : bodyP x0 = (bodyP x0).take lo++(bodyP x0).drop lo := (List.take_append_drop lo _).symm
        have rd2 := pRead_other (b := (bodyP x0).take lo) (by rw [List.length_take]; omega) (by have := hf.bytes; rw [tk] at this; exact this.left) (fun q hq e => by
          have := no_prefix (d := (bodyP x0).drop lo) hf hq (by rw [← e]; exact tk)
          have := congrArg List.length this
          rw [List.length_drop] at this
          simp at this
          omega)
        have hx := wrapU8_bytes x2
        have rd3 := pRead_other (b := bodyP x0++[IntKind.u8.wrap x2]) (by rw [List.length_append]; show _ + 1 ≤ _; omega) (hf.bytes.app (cons_bytes hx nil_bytes)) (fun q hq e => by
          have := no_prefix (d := [IntKind.u8.wrap x2]) hq hf e.symm
          cases this)
        have hB3 : Ev (fun N => beehivelaw17_CodeBack_B3 N x0 x1 (x0,0) (⟨[],[]⟩,5) (⟨[],[]⟩,5)) false := by
          refine Ev.step ?_ (fun N => by rw [beehivelaw17_CodeBack_B3])
          exact Ev.neg (fun h => h rfl) (Ev.bind (sameProg_self x0 (by omega) s0 (by omega)) (Ev.neg (fun h => h rfl) (Ev.neg (fun h => h rfl) (Ev.now _))))
        refine Ev.step ?_ (fun N => by rw [beehivelaw17_CodeBack_B2])
        exact Ev.pos rfl (Ev.bind rd1 (Ev.bind hlo (Ev.bindc (cut_front (show lo ≤ (bodyP x0).length by omega)) (Ev.bind rd2 (Ev.bindc (app0_eq (by rw [lim_eq]; show (bodyP x0).length ≤ _; omega)) (Ev.bindc (app9 (by show (bodyP x0).length + 1 ≤ _; omega)) (Ev.bind rd3 (Ev.bind hB3 (Ev.neg Bool.false_ne_true (Ev.now _))))))))))
    · have hh : laidP x0 = ([],3) ∨ laidP x0 = ([],2) := by
        unfold laidP at hz ⊢
        split
        · exact .inl rfl
        · rename_i h1
          rw [if_neg h1] at hz
          split
          · rename_i h2; rw [if_pos h2] at hz; exact absurd rfl hz
          · exact .inr rfl
      rcases hh with e | e <;> rw [e]
      · constructor
        · refine Ev.step ?_ (fun N => by rw [beehivelaw17_CodeBack_B1])
          exact Ev.neg (show ¬ (3:Int) = 0 by decide) (Ev.now _)
        · refine Ev.step ?_ (fun N => by rw [beehivelaw17_CodeBack_B2])
          exact Ev.neg (show ¬ (3:Int) = 0 by decide) (Ev.neg (fun h => h rfl) (Ev.neg (fun h => h rfl) (Ev.now _)))
      · constructor
        · refine Ev.step ?_ (fun N => by rw [beehivelaw17_CodeBack_B1])
          exact Ev.neg (show ¬ (2:Int) = 0 by decide) (Ev.now _)
        · refine Ev.step ?_ (fun N => by rw [beehivelaw17_CodeBack_B2])
          exact Ev.neg (show ¬ (2:Int) = 0 by decide) (Ev.neg (fun h => h rfl) (Ev.pos (show (2:Int) ≠ 3 by decide) (Ev.neg (fun h => h rfl) (Ev.now _))))
  refine Ev.bind hB0 (Ev.bind hL (Ev.bind hB12.1 (Ev.bind hB12.2 ?_)))
  obtain ⟨v,hv,ho⟩ := pRead_tot x1 (by omega) y1
  rcases ho with rfl | ⟨q,rfl,e,hf⟩
  · exact Ev.bind hv (Ev.pos (show (5:Int) ≠ 0 by decide) (Ev.pos rfl (Ev.bind (sameProg_self ⟨[],[]⟩ (by show 0 ≤ 100000; omega) (fun x hx => by cases hx) (by show cnts [] ≤ _; rw [cnts]; omega)) (Ev.pos rfl (Ev.bind awake17_ev (Ev.now _))))))
  · have hLq := pLay_ev q hf.small hf.w
    rw [hf.laid, ← e] at hLq
    exact Ev.bind hv (Ev.neg (fun h => h rfl) (Ev.bind hLq (Ev.pos rfl (Ev.bind (sameB_self x1 (by omega)) (Ev.pos rfl (Ev.bind awake17_ev (Ev.now _)))))))
end Pure
end Go.Proofs.Ytcknifhhgeccfaa.Sh
