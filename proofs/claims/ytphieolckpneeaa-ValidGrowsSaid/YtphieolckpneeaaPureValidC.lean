import Derived.Test.YtphieolckpneeaaPureValidB
set_option linter.unusedVariables false
set_option linter.unusedSimpArgs false
namespace Go.Proofs.Ytphieolckpneeaa.Sh
open Go Lift Go.Proofs
theorem awake_ev : Ev (fun N => beehivelaw18_awake N) true := by
  have f0 : Few ⟨[⟨27,1,0,0⟩],[]⟩ := ⟨by simp,fun x h => (by cases h),fun x h => (by cases h),by simp [cnts]⟩
  have f1 : Few ⟨[],[]⟩ := ⟨by simp,fun x h => (by cases h),fun x h => (by cases h),by simp [cnts]⟩
  have w0 := (why_ev _ f0 (by simp)).1
  have w1 := (why_ev _ f1 (by simp)).1
  rw [show whyV ⟨[⟨27,1,0,0⟩],[]⟩ = 0 by decide +kernel] at w0
  rw [show whyV ⟨[],[]⟩ = -1 by decide +kernel] at w1
  have o := (op_ev ⟨[⟨0,0,0,0⟩],[]⟩ (by simp) (by simp) 0 (by simp)).1
  have e : opV (((⟨[⟨0,0,0,0⟩],[]⟩ : Tapi_Program).fConsts.length : Nat) : Int) (((⟨[⟨0,0,0,0⟩],[]⟩ : Tapi_Program).fOps.length : Nat) : Int) (⟨[⟨0,0,0,0⟩],[]⟩ : Tapi_Program).fOps[0] = true := by decide +kernel
  rw [e] at o
  exact Ev.bind w0 (Ev.pos rfl (Ev.bind w1 (Ev.pos rfl (Ev.bind o (Ev.now _)))))
end Go.Proofs.Ytphieolckpneeaa.Sh
