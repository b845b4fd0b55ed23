import Derived.Test.YtehocjeeaigkeaaPureRealB
set_option linter.unusedVariables false
set_option linter.unusedSimpArgs false
namespace Go.Proofs.Ytehocjeeaigkeaa.Sh
open Go Lift Go.Proofs
def turnW (b : Int) : Int := if b = 9221120237041090561 then b else ((fflip b.toNat : Nat) : Int)
theorem turn_ev {b : Int} (h : W64 b) : Ev (fun N => beehivelaw2_turned N b) (turnW b) := by
  have e : Ev (fun N => beehivelaw2_turned N b) (if b = 9221120237041090561 then b else bxor .u64 b 9223372036854775808) := Ev.iff (fun _ => Ev.now _) (fun _ => Ev.now _)
  rw [bxor63 h] at e
  exact e
structure Cl (b : Int) : Prop where
  w : W64 b
  n : nanW b.toNat = true → b = 9221120237041090561
theorem opW_cl (o : Option Nat) (h : ∀ z, o = some z → z < 18446744073709551616) : Cl (opW o) := by
  refine ⟨?_, opW_nan⟩
  cases o with
  | none => exact ⟨by decide, by decide⟩
  | some z => exact cleanW_w ⟨by omega, by have := h z rfl; omega⟩
theorem nan_of {b : Int} (h : Cl b) (hne : b ≠ 9221120237041090561) : nanW b.toNat = false := by
  cases hq : nanW b.toNat with
  | true => exact absurd (h.n hq) hne
  | false => rfl
theorem nn_nan' : nanW (9221120237041090561 : Int).toNat = true := by decide
theorem turn_cl {b : Int} (h : Cl b) : Cl (turnW b) := by
  unfold turnW
  have h0 := h.w.lo
  have h1 := h.w.hi
  by_cases c : b = 9221120237041090561
  · rw [if_pos c]; exact h
  · rw [if_neg c]
    have := flip_lt (x := b.toNat) (by omega)
    exact ⟨⟨by omega, by omega⟩, fun q => by rw [Int.toNat_natCast, nan_flip (by omega), nan_of h c] at q; cases q⟩
theorem turn_opW {o : Option Nat} (h : ∀ z, o = some z → nanW z = false ∧ z < 18446744073709551616) : opW (o.map fflip) = turnW (opW o) := by
  cases o with
  | none => rfl
  | some z =>
    obtain ⟨h1, h2⟩ := h z rfl
    have hne : ((z : Nat) : Int) ≠ 9221120237041090561 := fun e => by
      rw [show z = 9221120237041090561 by omega] at h1; exact absurd h1 (by decide)
    rw [Option.map_some, opW_some h1, opW_some (by rw [nan_flip h2]; exact h1)]
    unfold turnW
    rw [if_neg hne, Int.toNat_natCast]
theorem toNat_turn {b : Int} (hne : b ≠ 9221120237041090561) : (turnW b).toNat = fflip b.toNat := by
  unfold turnW; rw [if_neg hne, Int.toNat_natCast]
theorem turn_NN : turnW 9221120237041090561 = 9221120237041090561 := if_pos rfl
theorem mul_turn {a b : Int} (ha : Cl a) : opW (fmul (turnW a).toNat b.toNat) = turnW (opW (fmul a.toNat b.toNat)) := by
  by_cases c : a = 9221120237041090561
  · subst c; rw [turn_NN, fmul_nan (.inl nn_nan')]; rfl
  · rw [toNat_turn c, fmul_flip _ (by have := ha.w.lo; have := ha.w.hi; omega), turn_opW fun z h => fmul_nonan h]
theorem div_turn {a b : Int} (ha : Cl a) : opW (fdiv (turnW a).toNat b.toNat) = turnW (opW (fdiv a.toNat b.toNat)) := by
  by_cases c : a = 9221120237041090561
  · subst c; rw [turn_NN, fdiv_nan (.inl nn_nan')]; rfl
  · rw [toNat_turn c, fdiv_flip _ (by have := ha.w.lo; have := ha.w.hi; omega), turn_opW fun z h => fdiv_nonan h]
theorem div_turn2 {a b : Int} (hb : Cl b) : opW (fdiv a.toNat (turnW b).toNat) = turnW (opW (fdiv a.toNat b.toNat)) := by
  by_cases c : b = 9221120237041090561
  · subst c; rw [turn_NN, fdiv_nan (.inr nn_nan')]; rfl
  · rw [toNat_turn c, fdiv_flip2 _ (by have := hb.w.lo; have := hb.w.hi; omega), turn_opW fun z h => fdiv_nonan h]
theorem sub_turn {a b : Int} (hb : Cl b) : opW (fsub a.toNat b.toNat) = opW (fadd a.toNat (turnW b).toNat) := by
  by_cases c : b = 9221120237041090561
  · subst c; rw [turn_NN, fsub_nan (.inr nn_nan'), fadd_nan (.inr nn_nan')]
  · rw [toNat_turn c, fsub_flip _ (by have := hb.w.lo; have := hb.w.hi; omega)]
theorem turn_turn {b : Int} (h : Cl b) : turnW (turnW b) = b := by
  by_cases c : b = 9221120237041090561
  · subst c; rw [turn_NN, turn_NN]
  · have h0 := h.w.lo
    have h1 := h.w.hi
    have hc := turn_cl h
    have hne : turnW b ≠ 9221120237041090561 := fun e => by
      have hn := nan_of h c
      have : nanW (turnW b).toNat = true := by rw [e]; decide
      rw [toNat_turn c, nan_flip (by omega), hn] at this
      cases this
    have e : turnW (turnW b) = ((fflip (turnW b).toNat : Nat) : Int) := by
      show (if turnW b = 9221120237041090561 then turnW b else ((fflip (turnW b).toNat : Nat) : Int)) = _
      rw [if_neg hne]
    rw [e, toNat_turn c]
    unfold fflip
    split <;> split <;> omega
theorem mul_turns {a b : Int} (ha : Cl a) (hb : Cl b) : opW (fmul (turnW a).toNat (turnW b).toNat) = opW (fmul a.toNat b.toNat) := by
  rw [mul_turn ha, fmul_comm, mul_turn hb, fmul_comm, turn_turn (opW_cl _ fun z h => (fmul_nonan h).2)]
/-- Sums of two that are turned are turned, but for nothing. -/
theorem add_turns {a b : Int} (ha : Cl a) (hb : Cl b) : opW (fadd (turnW a).toNat (turnW b).toNat) = turnW (opW (fadd a.toNat b.toNat)) ∨ (opW (fadd a.toNat b.toNat) % 9223372036854775808 = 0 ∧ opW (fadd (turnW a).toNat (turnW b).toNat) % 9223372036854775808 = 0) := by
  by_cases c : a = 9221120237041090561
  · subst c; left; rw [turn_NN, fadd_nan (.inl nn_nan'), fadd_nan (.inl nn_nan')]; rfl
  by_cases d : b = 9221120237041090561
  · subst d; left; rw [turn_NN, fadd_nan (.inr nn_nan'), fadd_nan (.inr nn_nan')]; rfl
  rw [toNat_turn c, toNat_turn d]
  rcases fadd_flip (x := a.toNat) (y := b.toNat) (by have := ha.w.lo; have := ha.w.hi; omega) (by have := hb.w.lo; have := hb.w.hi; omega) with ⟨h1, h2⟩ | ⟨z, z', h1, h2, h3⟩
  · left; rw [h1, h2]; rfl
  · obtain ⟨k1, k2⟩ := fadd_nonan h1
    obtain ⟨k3, k4⟩ := fadd_nonan h2
    rcases h3 with h3 | ⟨h3, h4⟩
    · left
      rw [h1, h2, h3]
      have := turn_opW (o := some z) (fun y hy => by injection hy with hy; subst hy; exact ⟨k1, k2⟩)
      rw [Option.map_some] at this
      exact this
    · right
      rw [h1, h2, opW_some k1, opW_some k3]
      unfold rg at h3 h4
      omega
theorem place_turn {b : Int} (h : Cl b) (hne : b ≠ 9221120237041090561) : place (turnW b).toNat = -(place b.toNat) - 1 := by
  have h0 := h.w.lo
  have h1 := h.w.hi
  have hn := nan_of h hne
  rw [toNat_turn hne]
  unfold place
  rw [nan_flip (by omega), hn, sg_flip (by omega), rg_flip (by omega)]
  cases sg b.toNat <;> simp <;> omega
namespace Pure
theorem RealMirrors (x0 : Int) (x1 : Int) (w0 : (InR .u64) x0) (w1 : (InR .u64) x1) : ∃ N, beehivelaw2_RealMirrors N x0 x1 = some true := by
  refine Ev.ex (f := fun N => beehivelaw2_RealMirrors N x0 x1) ?_
  have ha : Cl (cleanW x0) := ⟨cleanW_w (inW w0), cleanW_nan⟩
  have hb : Cl (cleanW x1) := ⟨cleanW_w (inW w1), cleanW_nan⟩
  refine Ev.bind (clean_ev x0) (Ev.bind (clean_ev x1) ?_)
  generalize cleanW x0 = a at *
  generalize cleanW x1 = b at *
  have haw : Ev (fun N => (beehivelaw2_awake N).bind fun r37 => some r37) true := Ev.bind awake2_ev (Ev.now _)
  refine Ev.bind (turn_ev ha.w) (Ev.bind (turn_ev hb.w) (Ev.bind (add_ev' _ _) (Ev.bind (add_ev' _ _) ?_)))
  have cs : Cl (opW (fadd a.toNat b.toNat)) := opW_cl _ fun z h => (fadd_nonan h).2
  have ct : Cl (opW (fadd (turnW a).toNat (turnW b).toNat)) := opW_cl _ fun z h => (fadd_nonan h).2
  have hB0 : Ev (fun N => beehivelaw2_RealMirrors_B0 N a b (turnW a) (turnW b) (opW (fadd a.toNat b.toNat)) (opW (fadd (turnW a).toNat (turnW b).toNat))) (.inl ()) := by
    refine Ev.step ?_ (fun N => by rw [beehivelaw2_RealMirrors_B0])
    refine Ev.bind (turn_ev cs.w) ?_
    rcases add_turns ha hb with h | ⟨h1, h2⟩
    · exact Ev.neg (by rw [h]; simp) (Ev.now _)
    · by_cases h : opW (fadd (turnW a).toNat (turnW b).toNat) ≠ turnW (opW (fadd a.toNat b.toNat))
      · refine Ev.pos h ?_
        rw [bandn_63 _ cs.w.lo (by have := cs.w.hi; omega), bandn_63 _ ct.w.lo (by have := ct.w.hi; omega)]
        exact Ev.neg (by rw [h1]; simp) (Ev.neg (by rw [h2]; simp) (Ev.now _))
      · exact Ev.neg h (Ev.now _)
  have hB2 : Ev (fun N => beehivelaw2_RealMirrors_B2 N a b (turnW a) (turnW b)) false := by
    refine Ev.step ?_ (fun N => by rw [beehivelaw2_RealMirrors_B2])
    have cm : Cl (opW (fmul a.toNat b.toNat)) := opW_cl _ fun z h => (fmul_nonan h).2
    have cd : Cl (opW (fdiv a.toNat b.toNat)) := opW_cl _ fun z h => (fdiv_nonan h).2
    refine Ev.bind (mul_ev' _ _) (Ev.bind (mul_ev' _ _) (Ev.bind (turn_ev cm.w) (Ev.neg (by rw [mul_turn ha]; simp) ?_)))
    refine Ev.bind (mul_ev' _ _) (Ev.neg (by rw [mul_turns ha hb]; simp) ?_)
    refine Ev.bind (div_ev' _ _) (Ev.bind (div_ev' _ _) (Ev.bind (turn_ev cd.w) (Ev.neg (by rw [div_turn ha]; simp) ?_)))
    refine Ev.bind (div_ev' _ _) (Ev.neg (by rw [div_turn2 hb]; simp) ?_)
    refine Ev.bind (sub_ev' _ _) (Ev.bind (add_ev' _ _) ?_)
    rw [← sub_turn hb]
    have e : (opW (fsub a.toNat b.toNat) != opW (fsub a.toNat b.toNat)) = false := by simp
    show Ev (fun _ => some (opW (fsub a.toNat b.toNat) != opW (fsub a.toNat b.toNat))) false
    rw [e]
    exact Ev.now _
  have hB1 : Ev (fun N => beehivelaw2_RealMirrors_B1 N a b (turnW a) (turnW b)) (.inl ()) := by
    refine Ev.step ?_ (fun N => by rw [beehivelaw2_RealMirrors_B1])
    exact Ev.bind hB2 (Ev.neg (by simp) (Ev.now _))
  refine Ev.bind hB0 (Ev.bind hB1 ?_)
  by_cases c : a = 9221120237041090561
  · exact Ev.pos c haw
  refine Ev.neg c ?_
  by_cases d : b = 9221120237041090561
  · exact Ev.pos d haw
  refine Ev.neg d (Ev.bind (pcmp_ev _ _ (turn_cl ha).w (turn_cl hb).w) (Ev.bind (pcmp_ev _ _ hb.w ha.w) (Ev.pos ?_ haw)))
  rw [place_turn ha c, place_turn hb d]
  congr 1
  omega
end Pure
end Go.Proofs.Ytehocjeeaigkeaa.Sh
