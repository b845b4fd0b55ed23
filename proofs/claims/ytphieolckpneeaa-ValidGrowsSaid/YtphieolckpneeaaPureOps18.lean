import Derived.Test.YtphieolckpneeaaPureTermMay
set_option linter.unusedVariables false
set_option linter.unusedSimpArgs false
namespace Go.Proofs.Ytphieolckpneeaa.Sh
open Go Lift Go.Proofs
/-- What each instruction names. -/
def tabF : List (Int × Int × Int) := [(0,0,0),(1,3,0),(1,1,0),(1,0,0),(1,0,0),(1,1,1),(1,1,1),(1,1,1),(1,1,1),(1,1,1),(1,1,0),(1,1,0),(1,8,5),(1,1,6),(1,1,1),(1,1,2),(1,1,0),(1,1,0),(1,0,0),(1,4,0),(1,1,0),(1,0,0),(0,0,0),(0,0,0),(1,1,4),(1,1,4),(1,7,4),(4,0,0),(4,0,0),(0,0,0),(1,0,0),(1,0,0),(4,0,0),(0,0,0),(1,0,0),(8,0,0)]
def frm (k:Int) : Option (Int × Int × Int) := if 0 ≤ k ∧ k < 36 then tabF[k.toNat]? else none
/-- The reference's letter of it. -/
def rel (f c:Int) : Prop := (f = 0 ∧ c = 45) ∨ (f = 1 ∧ c = 114) ∨ (f = 2 ∧ c = 112) ∨ (f = 3 ∧ c = 107) ∨ (f = 4 ∧ c = 108) ∨ (f = 5 ∧ c = 109) ∨ (f = 6 ∧ c = 101) ∨ (f = 7 ∧ c = 116) ∨ (f = 8 ∧ (c = 110 ∨ c = 120))
structure FormOk (k f0 f1 f2:Int) (s:ByteArray) (c0 c1 c2:Int) : Prop where
  tab : frm k = some (f0,f1,f2)
  ev : Ev (fun N => valid_forms N k) (⟨f0,f1,f2⟩,true)
  rev : Ev (fun N => beehiveref18_form N k) s
  ne : ¬ s = ByteArray.mk #[]
  i0 : sidx s 0 = some c0
  i1 : sidx s 1 = some c1
  i2 : sidx s 2 = some c2
  r0 : rel f0 c0
  r1 : rel f1 c1
  r2 : rel f2 c2
  n0 : f0 ≠ 5
  n1 : f1 ≠ 5
  n2 : f2 = 5 → k = 12
  n12 : k = 12 → f1 = 8 ∧ f2 = 5
theorem forms_tab : ∀ k : Nat,k < 36 → ∃ f0 f1 f2 s c0 c1 c2,FormOk (k:Int) f0 f1 f2 s c0 c1 c2
  | 0,_ => ⟨0,0,0,ByteArray.mk #[45,45,45],45,45,45,by kernel_rfl,Ev.from 3 (fun N => by kernel_rfl),Ev.from 0 (fun N => by kernel_rfl),by decide,by kernel_rfl,by kernel_rfl,by kernel_rfl,by simp [rel],by simp [rel],by simp [rel],by decide,by decide,by decide,by decide⟩
  | 1,_ => ⟨1,3,0,ByteArray.mk #[114,107,45],114,107,45,by kernel_rfl,Ev.from 3 (fun N => by kernel_rfl),Ev.from 0 (fun N => by kernel_rfl),by decide,by kernel_rfl,by kernel_rfl,by kernel_rfl,by simp [rel],by simp [rel],by simp [rel],by decide,by decide,by decide,by decide⟩
  | 2,_ => ⟨1,1,0,ByteArray.mk #[114,114,45],114,114,45,by kernel_rfl,Ev.from 3 (fun N => by kernel_rfl),Ev.from 0 (fun N => by kernel_rfl),by decide,by kernel_rfl,by kernel_rfl,by kernel_rfl,by simp [rel],by simp [rel],by simp [rel],by decide,by decide,by decide,by decide⟩
  | 3,_ => ⟨1,0,0,ByteArray.mk #[114,45,45],114,45,45,by kernel_rfl,Ev.from 3 (fun N => by kernel_rfl),Ev.from 0 (fun N => by kernel_rfl),by decide,by kernel_rfl,by kernel_rfl,by kernel_rfl,by simp [rel],by simp [rel],by simp [rel],by decide,by decide,by decide,by decide⟩
  | 4,_ => ⟨1,0,0,ByteArray.mk #[114,45,45],114,45,45,by kernel_rfl,Ev.from 3 (fun N => by kernel_rfl),Ev.from 0 (fun N => by kernel_rfl),by decide,by kernel_rfl,by kernel_rfl,by kernel_rfl,by simp [rel],by simp [rel],by simp [rel],by decide,by decide,by decide,by decide⟩
  | 5,_ => ⟨1,1,1,ByteArray.mk #[114,114,114],114,114,114,by kernel_rfl,Ev.from 3 (fun N => by kernel_rfl),Ev.from 0 (fun N => by kernel_rfl),by decide,by kernel_rfl,by kernel_rfl,by kernel_rfl,by simp [rel],by simp [rel],by simp [rel],by decide,by decide,by decide,by decide⟩
  | 6,_ => ⟨1,1,1,ByteArray.mk #[114,114,114],114,114,114,by kernel_rfl,Ev.from 3 (fun N => by kernel_rfl),Ev.from 0 (fun N => by kernel_rfl),by decide,by kernel_rfl,by kernel_rfl,by kernel_rfl,by simp [rel],by simp [rel],by simp [rel],by decide,by decide,by decide,by decide⟩
  | 7,_ => ⟨1,1,1,ByteArray.mk #[114,114,114],114,114,114,by kernel_rfl,Ev.from 3 (fun N => by kernel_rfl),Ev.from 0 (fun N => by kernel_rfl),by decide,by kernel_rfl,by kernel_rfl,by kernel_rfl,by simp [rel],by simp [rel],by simp [rel],by decide,by decide,by decide,by decide⟩
  | 8,_ => ⟨1,1,1,ByteArray.mk #[114,114,114],114,114,114,by kernel_rfl,Ev.from 3 (fun N => by kernel_rfl),Ev.from 0 (fun N => by kernel_rfl),by decide,by kernel_rfl,by kernel_rfl,by kernel_rfl,by simp [rel],by simp [rel],by simp [rel],by decide,by decide,by decide,by decide⟩
  | 9,_ => ⟨1,1,1,ByteArray.mk #[114,114,114],114,114,114,by kernel_rfl,Ev.from 3 (fun N => by kernel_rfl),Ev.from 0 (fun N => by kernel_rfl),by decide,by kernel_rfl,by kernel_rfl,by kernel_rfl,by simp [rel],by simp [rel],by simp [rel],by decide,by decide,by decide,by decide⟩
  | 10,_ => ⟨1,1,0,ByteArray.mk #[114,114,45],114,114,45,by kernel_rfl,Ev.from 3 (fun N => by kernel_rfl),Ev.from 0 (fun N => by kernel_rfl),by decide,by kernel_rfl,by kernel_rfl,by kernel_rfl,by simp [rel],by simp [rel],by simp [rel],by decide,by decide,by decide,by decide⟩
  | 11,_ => ⟨1,1,0,ByteArray.mk #[114,114,45],114,114,45,by kernel_rfl,Ev.from 3 (fun N => by kernel_rfl),Ev.from 0 (fun N => by kernel_rfl),by decide,by kernel_rfl,by kernel_rfl,by kernel_rfl,by simp [rel],by simp [rel],by simp [rel],by decide,by decide,by decide,by decide⟩
  | 12,_ => ⟨1,8,5,ByteArray.mk #[114,110,109],114,110,109,by kernel_rfl,Ev.from 3 (fun N => by kernel_rfl),Ev.from 0 (fun N => by kernel_rfl),by decide,by kernel_rfl,by kernel_rfl,by kernel_rfl,by simp [rel],by simp [rel],by simp [rel],by decide,by decide,by decide,by decide⟩
  | 13,_ => ⟨1,1,6,ByteArray.mk #[114,114,101],114,114,101,by kernel_rfl,Ev.from 3 (fun N => by kernel_rfl),Ev.from 0 (fun N => by kernel_rfl),by decide,by kernel_rfl,by kernel_rfl,by kernel_rfl,by simp [rel],by simp [rel],by simp [rel],by decide,by decide,by decide,by decide⟩
  | 14,_ => ⟨1,1,1,ByteArray.mk #[114,114,114],114,114,114,by kernel_rfl,Ev.from 3 (fun N => by kernel_rfl),Ev.from 0 (fun N => by kernel_rfl),by decide,by kernel_rfl,by kernel_rfl,by kernel_rfl,by simp [rel],by simp [rel],by simp [rel],by decide,by decide,by decide,by decide⟩
  | 15,_ => ⟨1,1,2,ByteArray.mk #[114,114,112],114,114,112,by kernel_rfl,Ev.from 3 (fun N => by kernel_rfl),Ev.from 0 (fun N => by kernel_rfl),by decide,by kernel_rfl,by kernel_rfl,by kernel_rfl,by simp [rel],by simp [rel],by simp [rel],by decide,by decide,by decide,by decide⟩
  | 16,_ => ⟨1,1,0,ByteArray.mk #[114,114,45],114,114,45,by kernel_rfl,Ev.from 3 (fun N => by kernel_rfl),Ev.from 0 (fun N => by kernel_rfl),by decide,by kernel_rfl,by kernel_rfl,by kernel_rfl,by simp [rel],by simp [rel],by simp [rel],by decide,by decide,by decide,by decide⟩
  | 17,_ => ⟨1,1,0,ByteArray.mk #[114,114,45],114,114,45,by kernel_rfl,Ev.from 3 (fun N => by kernel_rfl),Ev.from 0 (fun N => by kernel_rfl),by decide,by kernel_rfl,by kernel_rfl,by kernel_rfl,by simp [rel],by simp [rel],by simp [rel],by decide,by decide,by decide,by decide⟩
  | 18,_ => ⟨1,0,0,ByteArray.mk #[114,45,45],114,45,45,by kernel_rfl,Ev.from 3 (fun N => by kernel_rfl),Ev.from 0 (fun N => by kernel_rfl),by decide,by kernel_rfl,by kernel_rfl,by kernel_rfl,by simp [rel],by simp [rel],by simp [rel],by decide,by decide,by decide,by decide⟩
  | 19,_ => ⟨1,4,0,ByteArray.mk #[114,108,45],114,108,45,by kernel_rfl,Ev.from 3 (fun N => by kernel_rfl),Ev.from 0 (fun N => by kernel_rfl),by decide,by kernel_rfl,by kernel_rfl,by kernel_rfl,by simp [rel],by simp [rel],by simp [rel],by decide,by decide,by decide,by decide⟩
  | 20,_ => ⟨1,1,0,ByteArray.mk #[114,114,45],114,114,45,by kernel_rfl,Ev.from 3 (fun N => by kernel_rfl),Ev.from 0 (fun N => by kernel_rfl),by decide,by kernel_rfl,by kernel_rfl,by kernel_rfl,by simp [rel],by simp [rel],by simp [rel],by decide,by decide,by decide,by decide⟩
  | 21,_ => ⟨1,0,0,ByteArray.mk #[114,45,45],114,45,45,by kernel_rfl,Ev.from 3 (fun N => by kernel_rfl),Ev.from 0 (fun N => by kernel_rfl),by decide,by kernel_rfl,by kernel_rfl,by kernel_rfl,by simp [rel],by simp [rel],by simp [rel],by decide,by decide,by decide,by decide⟩
  | 22,_ => ⟨0,0,0,ByteArray.mk #[45,45,45],45,45,45,by kernel_rfl,Ev.from 3 (fun N => by kernel_rfl),Ev.from 0 (fun N => by kernel_rfl),by decide,by kernel_rfl,by kernel_rfl,by kernel_rfl,by simp [rel],by simp [rel],by simp [rel],by decide,by decide,by decide,by decide⟩
  | 23,_ => ⟨0,0,0,ByteArray.mk #[45,45,45],45,45,45,by kernel_rfl,Ev.from 3 (fun N => by kernel_rfl),Ev.from 0 (fun N => by kernel_rfl),by decide,by kernel_rfl,by kernel_rfl,by kernel_rfl,by simp [rel],by simp [rel],by simp [rel],by decide,by decide,by decide,by decide⟩
  | 24,_ => ⟨1,1,4,ByteArray.mk #[114,114,108],114,114,108,by kernel_rfl,Ev.from 3 (fun N => by kernel_rfl),Ev.from 0 (fun N => by kernel_rfl),by decide,by kernel_rfl,by kernel_rfl,by kernel_rfl,by simp [rel],by simp [rel],by simp [rel],by decide,by decide,by decide,by decide⟩
  | 25,_ => ⟨1,1,4,ByteArray.mk #[114,114,108],114,114,108,by kernel_rfl,Ev.from 3 (fun N => by kernel_rfl),Ev.from 0 (fun N => by kernel_rfl),by decide,by kernel_rfl,by kernel_rfl,by kernel_rfl,by simp [rel],by simp [rel],by simp [rel],by decide,by decide,by decide,by decide⟩
  | 26,_ => ⟨1,7,4,ByteArray.mk #[114,116,108],114,116,108,by kernel_rfl,Ev.from 3 (fun N => by kernel_rfl),Ev.from 0 (fun N => by kernel_rfl),by decide,by kernel_rfl,by kernel_rfl,by kernel_rfl,by simp [rel],by simp [rel],by simp [rel],by decide,by decide,by decide,by decide⟩
  | 27,_ => ⟨4,0,0,ByteArray.mk #[108,45,45],108,45,45,by kernel_rfl,Ev.from 3 (fun N => by kernel_rfl),Ev.from 0 (fun N => by kernel_rfl),by decide,by kernel_rfl,by kernel_rfl,by kernel_rfl,by simp [rel],by simp [rel],by simp [rel],by decide,by decide,by decide,by decide⟩
  | 28,_ => ⟨4,0,0,ByteArray.mk #[108,45,45],108,45,45,by kernel_rfl,Ev.from 3 (fun N => by kernel_rfl),Ev.from 0 (fun N => by kernel_rfl),by decide,by kernel_rfl,by kernel_rfl,by kernel_rfl,by simp [rel],by simp [rel],by simp [rel],by decide,by decide,by decide,by decide⟩
  | 29,_ => ⟨0,0,0,ByteArray.mk #[45,45,45],45,45,45,by kernel_rfl,Ev.from 3 (fun N => by kernel_rfl),Ev.from 0 (fun N => by kernel_rfl),by decide,by kernel_rfl,by kernel_rfl,by kernel_rfl,by simp [rel],by simp [rel],by simp [rel],by decide,by decide,by decide,by decide⟩
  | 30,_ => ⟨1,0,0,ByteArray.mk #[114,45,45],114,45,45,by kernel_rfl,Ev.from 3 (fun N => by kernel_rfl),Ev.from 0 (fun N => by kernel_rfl),by decide,by kernel_rfl,by kernel_rfl,by kernel_rfl,by simp [rel],by simp [rel],by simp [rel],by decide,by decide,by decide,by decide⟩
  | 31,_ => ⟨1,0,0,ByteArray.mk #[114,45,45],114,45,45,by kernel_rfl,Ev.from 3 (fun N => by kernel_rfl),Ev.from 0 (fun N => by kernel_rfl),by decide,by kernel_rfl,by kernel_rfl,by kernel_rfl,by simp [rel],by simp [rel],by simp [rel],by decide,by decide,by decide,by decide⟩
  | 32,_ => ⟨4,0,0,ByteArray.mk #[108,45,45],108,45,45,by kernel_rfl,Ev.from 3 (fun N => by kernel_rfl),Ev.from 0 (fun N => by kernel_rfl),by decide,by kernel_rfl,by kernel_rfl,by kernel_rfl,by simp [rel],by simp [rel],by simp [rel],by decide,by decide,by decide,by decide⟩
  | 33,_ => ⟨0,0,0,ByteArray.mk #[45,45,45],45,45,45,by kernel_rfl,Ev.from 3 (fun N => by kernel_rfl),Ev.from 0 (fun N => by kernel_rfl),by decide,by kernel_rfl,by kernel_rfl,by kernel_rfl,by simp [rel],by simp [rel],by simp [rel],by decide,by decide,by decide,by decide⟩
  | 34,_ => ⟨1,0,0,ByteArray.mk #[114,45,45],114,45,45,by kernel_rfl,Ev.from 3 (fun N => by kernel_rfl),Ev.from 0 (fun N => by kernel_rfl),by decide,by kernel_rfl,by kernel_rfl,by kernel_rfl,by simp [rel],by simp [rel],by simp [rel],by decide,by decide,by decide,by decide⟩
  | 35,_ => ⟨8,0,0,ByteArray.mk #[120,45,45],120,45,45,by kernel_rfl,Ev.from 3 (fun N => by kernel_rfl),Ev.from 0 (fun N => by kernel_rfl),by decide,by kernel_rfl,by kernel_rfl,by kernel_rfl,by simp [rel],by simp [rel],by simp [rel],by decide,by decide,by decide,by decide⟩
  | k + 36,h => absurd h (by omega)
theorem forms_out (k:Int) (h : ¬ (0 ≤ k ∧ k < 36)) : Ev (fun N => valid_forms N k) (⟨0,0,0⟩,false) ∧ Ev (fun N => beehiveref18_form N k) (ByteArray.mk #[]) := by
  constructor
  · refine Ev.bind (a := .inl ()) ?_ ?_
    case refine_2 => exact Ev.now _
    refine Ev.from 2 fun N => ?_
    have ne : ∀ j : Int,0 ≤ j → j < 36 → ¬ k = j := fun j h0 h1 e => h (by omega)
    simp [valid_forms_B0,valid_forms_B1,valid_forms_B2,valid_forms_B3,valid_forms_B4,valid_forms_B5,valid_forms_B6,ne 0 (by decide) (by decide),ne 1 (by decide) (by decide),ne 2 (by decide) (by decide),ne 3 (by decide) (by decide),ne 4 (by decide) (by decide),ne 5 (by decide) (by decide),ne 6 (by decide) (by decide),ne 7 (by decide) (by decide),ne 8 (by decide) (by decide),ne 9 (by decide) (by decide),ne 10 (by decide) (by decide),ne 11 (by decide) (by decide),ne 12 (by decide) (by decide),ne 13 (by decide) (by decide),ne 14 (by decide) (by decide),ne 15 (by decide) (by decide),ne 16 (by decide) (by decide),ne 17 (by decide) (by decide),ne 18 (by decide) (by decide),ne 19 (by decide) (by decide),ne 20 (by decide) (by decide),ne 21 (by decide) (by decide),ne 22 (by decide) (by decide),ne 23 (by decide) (by decide),ne 24 (by decide) (by decide),ne 25 (by decide) (by decide),ne 26 (by decide) (by decide),ne 27 (by decide) (by decide),ne 28 (by decide) (by decide),ne 29 (by decide) (by decide),ne 30 (by decide) (by decide),ne 31 (by decide) (by decide),ne 32 (by decide) (by decide),ne 33 (by decide) (by decide),ne 34 (by decide) (by decide),ne 35 (by decide) (by decide)]
  · by_cases h0 : k < 0
    · exact Ev.pos h0 (Ev.now _)
    · exact Ev.neg h0 (Ev.pos (show k ≥ 36 by omega) (Ev.now _))
def thereV (nc no f n:Int) : Bool :=
  if f = 1 then decide (0 ≤ n ∧ n ≤ 7) else if f = 2 then decide (0 ≤ n ∧ n ≤ 6) else if f = 3 then decide (0 ≤ n ∧ n ≤ nc - 1) else if f = 4 then decide (0 ≤ n ∧ n ≤ no - 1)
  else if f = 5 then decide (0 ≤ n ∧ n ≤ 8) else if f = 6 then decide (0 ≤ n ∧ n ≤ 7) else if f = 7 then decide (1 ≤ n ∧ n ≤ 9 ∧ n ≠ 2) else if f = 8 then decide (0 ≤ n ∧ n ≤ 8) else decide (n = 0)
theorem there_ev (p:Tapi_Program) (hc:p.fConsts.length ≤ 1000) (ho:p.fOps.length ≤ 1000) (f n:Int) : Ev (fun N => valid_there N p f n) (thereV p.fConsts.length p.fOps.length f n) := by
  have e1 : IntKind.i64.wrap (((p.fConsts.length : Nat) : Int) - 1) = (p.fConsts.length : Int) - 1 := wrapI _ (by omega) (by omega)
  have e2 : IntKind.i64.wrap (((p.fOps.length : Nat) : Int) - 1) = (p.fOps.length : Int) - 1 := wrapI _ (by omega) (by omega)
  refine Ev.from 1 fun N => ?_
  unfold thereV
  simp only [valid_there,valid_there_B0,e1,e2]
  by_cases k1 : f = 1
  · by_cases h : n ≥ 0 <;> simp [k1,h]
  by_cases k2 : f = 2
  · by_cases h : n ≥ 0 <;> simp [k2,h]
  by_cases k3 : f = 3
  · by_cases h : n ≥ 0 <;> simp [k3,h]
  by_cases k4 : f = 4
  · by_cases h : n ≥ 0 <;> simp [k4,h]
  by_cases k5 : f = 5
  · by_cases h : n ≥ 0 <;> simp [k5,h]
  by_cases k6 : f = 6
  · by_cases h : n ≥ 0 <;> simp [k6,h]
  by_cases k7 : f = 7
  · by_cases h : n ≥ 1 <;> by_cases h2 : n ≤ 9 <;> simp [k7,h,h2]
    · rw [Bool.eq_iff_iff]; simp
  by_cases k8 : f = 8
  · by_cases h : n ≥ 0 <;> simp [k8,h]
  · by_cases h : n ≥ 0 <;> simp [k1,k2,k3,k4,k5,k6,k7,k8,h] <;> omega
theorem names_ev (p:Tapi_Program) (hc:p.fConsts.length ≤ 1000) (ho:p.fOps.length ≤ 1000) (f c n:Int) (o:Tapi_Op) (h:rel f c) (h5:f ≠ 5) : Ev (fun N => beehiveref18_names N p c n o) (thereV p.fConsts.length p.fOps.length f n) := by
  have e1 : IntKind.i64.wrap (((p.fConsts.length : Nat) : Int) - 1) = (p.fConsts.length : Int) - 1 := wrapI _ (by omega) (by omega)
  have e2 : IntKind.i64.wrap (((p.fOps.length : Nat) : Int) - 1) = (p.fOps.length : Int) - 1 := wrapI _ (by omega) (by omega)
  refine Ev.from 1 fun N => ?_
  unfold thereV
  simp only [beehiveref18_names,beehiveref18_names_B0,beehiveref18_in,e1,e2]
  rcases h with ⟨rfl,rfl⟩ | ⟨rfl,rfl⟩ | ⟨rfl,rfl⟩ | ⟨rfl,rfl⟩ | ⟨rfl,rfl⟩ | ⟨rfl,rfl⟩ | ⟨rfl,rfl⟩ | ⟨rfl,rfl⟩ | ⟨rfl,rfl | rfl⟩
  · simp; rw [Bool.eq_iff_iff]; simp
  · by_cases h : n ≥ 0 <;> simp [h]
  · by_cases h : n ≥ 0 <;> simp [h]
  · by_cases h : n ≥ 0 <;> simp [h]
  · by_cases h : n ≥ 0 <;> simp [h]
  · exact absurd rfl h5
  · by_cases h : n ≥ 0 <;> simp [h]
  · by_cases h : n ≥ 1 <;> by_cases h2 : n ≤ 9 <;> simp [h,h2]
    · rw [Bool.eq_iff_iff]; simp
  · by_cases h : n ≥ 0 <;> simp [h]
  · by_cases h : n ≥ 0 <;> simp [h]
theorem many_ev (p:Tapi_Program) (n:Int) (o:Tapi_Op) (hB:0 ≤ o.fB ∧ o.fB ≤ 8) : Ev (fun N => beehiveref18_names N p 109 n o) (decide (0 ≤ n ∧ n ≤ 8) && decide (o.fB + n ≤ 8)) := by
  have e3 : IntKind.i64.wrap ((8:Int) - o.fB) = 8 - o.fB := wrapI _ (by omega) (by omega)
  refine Ev.from 1 fun N => ?_
  simp only [beehiveref18_names,beehiveref18_names_B0,beehiveref18_in,e3]
  by_cases h : n ≥ 0 <;> by_cases h2 : n ≤ 8 <;> simp [h,h2]
  · omega
def opV (nc no:Int) (o:Tapi_Op) : Bool :=
  match frm o.fK with
  | none => false
  | some (a,b,c) => thereV nc no a o.fA && thereV nc no b o.fB && thereV nc no c o.fC && (decide (o.fK ≠ 12) || decide (o.fB + o.fC ≤ 8))
theorem op_ev (p:Tapi_Program) (hc:p.fConsts.length ≤ 1000) (ho:p.fOps.length ≤ 1000) (i:Nat) (hi:i < p.fOps.length) : Ev (fun N => valid_Op N p i) (opV p.fConsts.length p.fOps.length p.fOps[i]) ∧ Ev (fun N => beehiveref18_Op N p i) (opV p.fConsts.length p.fOps.length p.fOps[i]) := by
  have b0 : Ev (fun N => valid_Op_B0 N p i) (.inl ()) := by
    refine Ev.step ?_ (fun N => by rw [valid_Op_B0])
    exact Ev.neg (by omega) (Ev.neg (by omega) (Ev.now _))
  generalize hoo : p.fOps[i] = o
  have hix : idx p.fOps (i:Int) = some o := by rw [idx_eq hi,hoo]
  by_cases hk : 0 ≤ o.fK ∧ o.fK < 36
  · obtain ⟨k,hkk⟩ := Int.eq_ofNat_of_zero_le hk.1
    obtain ⟨f0,f1,f2,s,c0,c1,c2,F⟩ := forms_tab k (by omega)
    rw [← hkk] at F
    have eV : opV p.fConsts.length p.fOps.length o = (thereV p.fConsts.length p.fOps.length f0 o.fA && thereV p.fConsts.length p.fOps.length f1 o.fB && thereV p.fConsts.length p.fOps.length f2 o.fC && (decide (o.fK ≠ 12) || decide (o.fB + o.fC ≤ 8))) := by unfold opV; rw [F.tab]
    have t0 := there_ev p hc ho f0 o.fA
    have t1 := there_ev p hc ho f1 o.fB
    have t2 := there_ev p hc ho f2 o.fC
    have u0 := names_ev p hc ho f0 c0 o.fA o F.r0 F.n0
    have u1 := names_ev p hc ho f1 c1 o.fB o F.r1 F.n1
    have u2 : f2 ≠ 5 → _ := fun h => names_ev p hc ho f2 c2 o.fC o F.r2 h
    have k12 : o.fK = 12 → f1 = 8 ∧ f2 = 5 := F.n12
    rw [eV]
    constructor
    · refine Ev.bind b0 (Ev.bindc hix (Ev.bind F.ev ?_))
      have b2 : Ev (fun N => valid_Op_B2 N p o (⟨f0,f1,f2⟩,true)) (!(thereV p.fConsts.length p.fOps.length f0 o.fA && thereV p.fConsts.length p.fOps.length f1 o.fB && thereV p.fConsts.length p.fOps.length f2 o.fC)) := by
        refine Ev.step ?_ (fun N => by rw [valid_Op_B2])
        refine Ev.neg (by simp) (Ev.bind t0 ?_)
        cases thereV p.fConsts.length p.fOps.length f0 o.fA with
        | false => exact Ev.pos (by simp) (Ev.now _)
        | true =>
          refine Ev.neg (by simp) (Ev.bind t1 ?_)
          cases thereV p.fConsts.length p.fOps.length f1 o.fB with
          | false => exact Ev.pos (by simp) (Ev.now _)
          | true => exact Ev.neg (by simp) (Ev.bind t2 (Ev.now _))
      cases hg : (thereV p.fConsts.length p.fOps.length f0 o.fA && thereV p.fConsts.length p.fOps.length f1 o.fB && thereV p.fConsts.length p.fOps.length f2 o.fC) with
      | false =>
        rw [hg] at b2
        rw [Bool.false_and]
        refine Ev.bind (a := .inr ()) ?_ ?_
        · refine Ev.step ?_ (fun N => by rw [valid_Op_B1])
          exact Ev.bind b2 (Ev.pos rfl (Ev.now _))
        · exact Ev.now _
      | true =>
        rw [hg] at b2
        rw [Bool.true_and]
        refine Ev.bind (a := .inl ()) ?_ ?_
        · refine Ev.step ?_ (fun N => by rw [valid_Op_B1])
          exact Ev.bind b2 (Ev.neg (by simp) (Ev.now _))
        · by_cases h12 : o.fK = 12
          · obtain ⟨e1,e2⟩ := k12 h12
            simp only [Bool.and_eq_true] at hg
            obtain ⟨⟨_,g1⟩,g2⟩ := hg
            have r1 : 0 ≤ o.fB ∧ o.fB ≤ 8 := by rw [e1] at g1; simpa [thereV] using g1
            have r2 : 0 ≤ o.fC ∧ o.fC ≤ 8 := by rw [e2] at g2; simpa [thereV] using g2
            refine Ev.neg (by simp [h12]) ?_
            rw [wrapI _ (by omega) (by omega),show decide (o.fK ≠ 12) = false by simp [h12],Bool.false_or]
            exact Ev.now _
          · rw [decide_eq_true (show o.fK ≠ 12 from h12),Bool.true_or]
            exact Ev.pos h12 (Ev.now _)
    · refine Ev.neg (by omega) (Ev.neg (by omega) (Ev.bindc hix (Ev.bind F.rev (Ev.pos F.ne (Ev.bindc F.i0 (Ev.bind u0 ?_))))))
      cases thereV p.fConsts.length p.fOps.length f0 o.fA with
      | false => simp only [Bool.false_and]; exact Ev.neg (by simp) (Ev.now _)
      | true =>
        refine Ev.pos rfl (Ev.bindc F.i1 (Ev.bind u1 ?_))
        cases g1 : thereV p.fConsts.length p.fOps.length f1 o.fB with
        | false => simp only [Bool.true_and,Bool.false_and]; exact Ev.neg (by simp) (Ev.now _)
        | true =>
          simp only [Bool.true_and]
          refine Ev.pos trivial (Ev.bindc F.i2 ?_)
          by_cases h5 : f2 = 5
          · have h12 := F.n2 h5
            obtain ⟨e1,e2⟩ := k12 h12
            have r1 : 0 ≤ o.fB ∧ o.fB ≤ 8 := by rw [e1] at g1; simpa [thereV] using g1
            have c2e : c2 = 109 := by
              have := F.r2
              rw [h5] at this
              simpa [rel] using this
            have ht : thereV p.fConsts.length p.fOps.length f2 o.fC = decide (0 ≤ o.fC ∧ o.fC ≤ 8) := by rw [h5]; rfl
            rw [ht,show decide (o.fK ≠ 12) = false by simp [h12],Bool.false_or,c2e]
            exact Ev.bind (many_ev p o.fC o r1) (Ev.now _)
          · have : o.fK ≠ 12 := fun h => h5 (k12 h).2
            rw [decide_eq_true this,Bool.true_or,Bool.and_true]
            exact Ev.bind (u2 h5) (Ev.now _)
  · obtain ⟨v1,v2⟩ := forms_out o.fK hk
    have eV : opV p.fConsts.length p.fOps.length o = false := by unfold opV frm; rw [if_neg hk]
    rw [eV]
    constructor
    · refine Ev.bind b0 (Ev.bindc hix (Ev.bind v1 ?_))
      refine Ev.bind (a := .inr ()) ?_ ?_
      · refine Ev.step ?_ (fun N => by rw [valid_Op_B1])
        refine Ev.bind (a := true) ?_ (Ev.pos rfl (Ev.now _))
        refine Ev.step ?_ (fun N => by rw [valid_Op_B2])
        exact Ev.pos (by simp) (Ev.now _)
      · exact Ev.now _
    · exact Ev.neg (by omega) (Ev.neg (by omega) (Ev.bindc hix (Ev.bind v2 (Ev.neg (by simp) (Ev.now _)))))
end Go.Proofs.Ytphieolckpneeaa.Sh
