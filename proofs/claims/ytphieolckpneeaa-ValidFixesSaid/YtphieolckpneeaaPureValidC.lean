import Derived.Test.YtphieolckpneeaaPureValidB
set_option linter.unusedVariables false
set_option linter.unusedSimpArgs false
namespace Go.Proofs.Ytphieolckpneeaa.Sh
open Go Lift Go.Proofs
theorem greatP_ev (p : Tapi_Program) (w : wTapi_Program p) : ∃ b, Ev (fun N => beehivelaw0_GreatProgram N p) b ∧ (b = false → Few p ∧ p.fConsts.length ≤ 20) := by
  by_cases h1 : ((p.fOps.length : Nat) : Int) > 140
  · exact ⟨true, Ev.pos h1 (Ev.now _), fun h => by cases h⟩
  by_cases h2 : ((p.fConsts.length : Nat) : Int) > 20
  · exact ⟨true, Ev.neg h1 (Ev.pos h2 (Ev.now _)), fun h => by cases h⟩
  obtain ⟨b, hb, hs⟩ := greats_ev p.fConsts w.Consts 700 (by omega) (by omega)
  refine ⟨b, Ev.neg h1 (Ev.neg h2 (Ev.bind hb (Ev.now _))), fun e => ?_⟩
  obtain ⟨s1, s2⟩ := hs e
  exact ⟨⟨by omega, s1, w.Consts.all, by omega⟩, by omega⟩
theorem awake_ev : Ev (fun N => beehivelaw18_awake N) true := by
  have f0 : Few ⟨[⟨27, 1, 0, 0⟩], []⟩ := ⟨by simp, fun x h => (by cases h), fun x h => (by cases h), by simp [cnts]⟩
  have f1 : Few ⟨[], []⟩ := ⟨by simp, fun x h => (by cases h), fun x h => (by cases h), by simp [cnts]⟩
  have w0 := (why_ev _ f0 (by simp)).1
  have w1 := (why_ev _ f1 (by simp)).1
  rw [show whyV ⟨[⟨27, 1, 0, 0⟩], []⟩ = 0 by decide +kernel] at w0
  rw [show whyV ⟨[], []⟩ = -1 by decide +kernel] at w1
  have o := (op_ev ⟨[⟨0, 0, 0, 0⟩], []⟩ (by simp) (by simp) 0 (by simp)).1
  have e : opV (((⟨[⟨0, 0, 0, 0⟩], []⟩ : Tapi_Program).fConsts.length : Nat) : Int) (((⟨[⟨0, 0, 0, 0⟩], []⟩ : Tapi_Program).fOps.length : Nat) : Int) (⟨[⟨0, 0, 0, 0⟩], []⟩ : Tapi_Program).fOps[0] = true := by decide +kernel
  rw [e] at o
  exact Ev.bind w0 (Ev.pos rfl (Ev.bind w1 (Ev.pos rfl (Ev.bind o (Ev.now _)))))
end Go.Proofs.Ytphieolckpneeaa.Sh
