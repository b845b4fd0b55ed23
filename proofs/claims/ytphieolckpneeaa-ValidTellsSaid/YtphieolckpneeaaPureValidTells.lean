import Derived.Test.YtphieolckpneeaaPureValidC
set_option linter.unusedVariables false
set_option linter.unusedSimpArgs false
namespace Go.Proofs.Ytphieolckpneeaa.Sh
open Go Lift Go.Proofs
theorem rfix_ev (p : Tapi_Program) (h : Few p) : Ev (fun N => beehiveref18_Fix N p) (fixP p) := by
  have h1 := h.ops
  have h2 := h.consts
  have hcl : ((p.fConsts.take 16).map fixC).length = (p.fConsts.take 16).length := List.length_map ..
  have hc := rfixC_loop p (p.fOps.take 120) (by omega) p.fConsts h.small h.wt [] 0 rfl (by omega) (by simp)
  have ho := (fixO_loop ((p.fConsts.take 16).map fixC) (by rw [hcl]; simp; omega) (p.fOps.take 120) (by simp; omega) (p.fOps.take 120) [] 0 rfl (by simp)).2
  rw [List.nil_append] at hc
  rw [List.nil_append, List.nil_append, hcl] at ho
  exact Ev.bindc (min_cut p.fOps 120) (Ev.bindc (app0_eq (by rw [lim_eq]; simp; omega)) (Ev.bind hc (Ev.bind ho (Ev.now _))))
theorem lowE (x n : Int) (hx : InR .i64 x) (h0 : 0 < n) (h1 : n < 9223372036854775808) : ∃ r, Ev (fun N => beehivelaw0_Low N x n) r ∧ 0 ≤ r ∧ r < n ∧ r = IntKind.u64.wrap x % n := by
  have hu := wrapU_eq x
  have e1 : IntKind.u64.wrap n = n := wrapU n (by omega) (by omega)
  have hp : 0 ≤ IntKind.u64.wrap x := by omega
  have e2 : (IntKind.u64.wrap x).tmod n = IntKind.u64.wrap x % n := Int.tmod_eq_emod_of_nonneg hp
  have b0 := Int.emod_nonneg (IntKind.u64.wrap x) (show n ≠ 0 by omega)
  have b1 := Int.emod_lt_of_pos (IntKind.u64.wrap x) h0
  refine ⟨IntKind.u64.wrap x % n, ?_, b0, b1, rfl⟩
  refine Ev.bindc (a := IntKind.u64.wrap x % n) (by rw [e1, rem_eq (by omega), e2]) ?_
  have e3 : IntKind.i64.wrap (IntKind.u64.wrap x % n) = IntKind.u64.wrap x % n := wrapI _ (by omega) (by omega)
  show Ev (fun _ => some (IntKind.i64.wrap (IntKind.u64.wrap x % n))) _
  rw [e3]
  exact Ev.now _
theorem overOps_loop : ∀ (n : Nat) (a : List Tapi_Op) (i : Nat), a.length - i = n → a.length ≤ 100000 → ∃ b, Ev (fun N => beehivelaw0_OverOps_L0 N a i) b ∧ b.length = a.length
  | 0, a, i, hn, hm => by
    refine ⟨a, ?_, rfl⟩
    refine Ev.step ?_ (fun N => by rw [beehivelaw0_OverOps_L0])
    exact Ev.neg (by omega) (Ev.now _)
  | n + 1, a, i, hn, hm => by
    obtain ⟨b, hb, hl⟩ := overOps_loop n (a.set i ⟨-9, 0, 0, 0⟩) (i + 1) (by simp; omega) (by simp; omega)
    refine ⟨b, ?_, by simpa using hl⟩
    refine Ev.step ?_ (fun N => by rw [beehivelaw0_OverOps_L0, wrap_succ (by omega)])
    exact Ev.pos (by omega) (Ev.bindc (idx_eq (by omega)) hb)
theorem overOps_ev (a : List Tapi_Op) (hl : a.length ≤ 1000) : Ev (fun N => beehivelaw0_OverOps N a) () := by
  obtain ⟨b, hb, hbl⟩ := overOps_loop _ a 0 rfl (by omega)
  exact Ev.bind hb (Ev.bindc (app_snoc (by omega)) (Ev.now _))
theorem op_any (p : Tapi_Program) (hc : p.fConsts.length ≤ 1000) (ho : p.fOps.length ≤ 1000) (i : Int) : ∃ b, Ev (fun N => valid_Op N p i) b ∧ Ev (fun N => beehiveref18_Op N p i) b := by
  by_cases h : i < 0 ∨ i ≥ ((p.fOps.length : Nat) : Int)
  · exact ⟨false, op_none p i h⟩
  · obtain ⟨k, rfl⟩ := Int.eq_ofNat_of_zero_le (show 0 ≤ i by omega)
    exact ⟨_, op_ev p hc ho k (by omega)⟩
namespace Pure
theorem ValidTells (x0 : Tapi_Program) (x1 : Int) (w0 : wTapi_Program x0) (w1 : (InR .i64) x1) : ∃ N, beehivelaw18_ValidTells N x0 x1 = some true := by
  refine Ev.ex (f := fun N => beehivelaw18_ValidTells N x0 x1) ?_
  have haw : Ev (fun N => (beehivelaw18_awake N).bind fun r3 => some r3) true := Ev.bind awake_ev (Ev.now _)
  obtain ⟨b, hb, hf⟩ := greatP_ev x0 w0
  refine Ev.bind hb ?_
  cases b with
  | true => exact Ev.pos rfl haw
  | false =>
    obtain ⟨hF, hc⟩ := hf rfl
    have h1 := hF.ops
    have e1 : IntKind.i64.wrap (((x0.fOps.length : Nat) : Int) + 3) = (x0.fOps.length : Int) + 3 := wrapI _ (by omega) (by omega)
    obtain ⟨r, hr, _, _, _⟩ := lowE x1 ((x0.fOps.length : Int) + 3) w1 (by omega) (by omega)
    refine Ev.neg (by simp) ?_
    show Ev (fun N => (beehivelaw0_Low N x1 (IntKind.wrap .i64 (((x0.fOps.length : Nat) : Int) + (3 : Int)))).bind fun r4 => (valid_Fix N x0).bind fun r5 => (beehivelaw18_ValidTells_B0 N x0 r4 r5).bind fun r14 => (beehivelaw0_OverOps N r5.fOps).bind fun r15 => if r14 = true then (valid_Fix N x0).bind fun r17 => (beehiveref18_Fix N x0).bind fun r18 => (beehivelaw0_SameProgram N r17 r18).bind fun r19 => if r19 = true then (beehivelaw18_awake N).bind fun r21 => some r21 else some false else some false) true
    rw [e1]
    have hfp := fix_ev x0 hF
    have hrp := rfix_ev x0 hF
    have hsp := sameProg_self (fixP x0) (fixP_few hF)
    obtain ⟨v, o1, o2⟩ := op_any x0 (by omega) (by omega) (IntKind.i64.wrap (r - 1))
    obtain ⟨y1, y2⟩ := why_ev x0 hF (by omega)
    have b0 : Ev (fun N => beehivelaw18_ValidTells_B0 N x0 r (fixP x0)) true := by
      refine Ev.step ?_ (fun N => by rw [beehivelaw18_ValidTells_B0])
      exact Ev.bind o1 (Ev.bind o2 (Ev.pos rfl (Ev.bind y1 (Ev.bind y2 (Ev.pos rfl (Ev.bind hrp (Ev.bind hsp (Ev.now _))))))))
    refine Ev.bind hr (Ev.bind hfp (Ev.bind b0 (Ev.bind (overOps_ev _ ?_) (Ev.pos rfl (Ev.bind hfp (Ev.bind hrp (Ev.bind hsp (Ev.pos rfl haw))))))))
    have := (fixP_few hF).ops
    omega
end Pure
end Go.Proofs.Ytphieolckpneeaa.Sh
