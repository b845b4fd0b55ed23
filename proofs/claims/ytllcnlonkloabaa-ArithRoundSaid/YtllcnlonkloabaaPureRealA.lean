import Derived.Test.YtllcnlonkloabaaPureCmpNum
import Derived.Laws.FloatBits
import Derived.KernelRfl
set_option linter.unusedVariables false
set_option linter.unusedSimpArgs false
namespace Go.Proofs.Ytllcnlonkloabaa.Sh
open Go Lift Go.Proofs
/-! ### What floats come to, clean -/
def NN : Int := 9221120237041090561
def cleanW (b : Int) : Int := if nanW b.toNat then 9221120237041090561 else b
def opW : Option Nat → Int
  | none => 9221120237041090561
  | some z => cleanW (z : Int)
theorem cnone_ev (b : Int) : Ev (fun N => real_none N b) (nanW b.toNat) := by
  rw [← Lift.fne_self b.toNat]
  exact Ev.bind (Ev.now _) (Ev.now _)
theorem clean_ev (b : Int) : Ev (fun N => real_Clean N b) (cleanW b) := by
  refine Ev.bind (cnone_ev b) ?_
  unfold cleanW
  exact Ev.iff (fun _ => Ev.now _) (fun _ => Ev.now _)
theorem cleanNan_ev : Ev (fun N => real_Clean_nan N) 9221120237041090561 := Ev.bind (a := true) (Ev.bind (Ev.now _) (Ev.now _)) (Ev.pos rfl (Ev.now _))
theorem op_ev (o : Option Nat) : Ev (fun N => Lift.both o ((real_Clean_nan N).bind fun r2 => some r2) fun x1 => (real_Clean N ((x1 : Nat) : Int)).bind fun r3 => some r3) (opW o) := by
  cases o with
  | none => exact Ev.bothN rfl (Ev.bind cleanNan_ev (Ev.now _))
  | some z => exact Ev.bothS rfl (Ev.bind (clean_ev (z : Int)) (Ev.now _))
theorem add_ev' (a b : Int) : Ev (fun N => real_Add N a b) (opW (fadd a.toNat b.toNat)) := op_ev _
theorem sub_ev' (a b : Int) : Ev (fun N => real_Sub N a b) (opW (fsub a.toNat b.toNat)) := op_ev _
theorem mul_ev' (a b : Int) : Ev (fun N => real_Mul N a b) (opW (fmul a.toNat b.toNat)) := op_ev _
theorem div_ev' (a b : Int) : Ev (fun N => real_Div N a b) (opW (fdiv a.toNat b.toNat)) := op_ev _
structure W64 (b : Int) : Prop where
  lo : 0 ≤ b
  hi : b ≤ 18446744073709551615
theorem cleanW_w {b : Int} (h : W64 b) : W64 (cleanW b) := by unfold cleanW; split; exact ⟨by decide, by decide⟩; exact h
theorem cleanW_nan {b : Int} (h : nanW (cleanW b).toNat = true) : cleanW b = 9221120237041090561 := by
  unfold cleanW at h ⊢
  split
  · rfl
  · rename_i hn; rw [if_neg hn] at h; exact absurd h hn
theorem opW_nan {o : Option Nat} (h : nanW (opW o).toNat = true) : opW o = 9221120237041090561 := by
  cases o with
  | none => rfl
  | some z => exact cleanW_nan h
theorem nan_NN : nanW (9221120237041090561 : Int).toNat = true := by decide
theorem cleanW_id {b : Int} (h : nanW b.toNat = true → b = 9221120237041090561) : cleanW b = b := by
  unfold cleanW
  split
  · rename_i hn; exact (h hn).symm
  · rfl
theorem mayW_ev (b : Int) : Ev (fun N => real_May N b) (decide (b = 9221120237041090561) || !nanW b.toNat) := by
  by_cases h : b = 9221120237041090561
  · rw [decide_eq_true h, Bool.true_or]; exact Ev.pos h (Ev.now _)
  · rw [decide_eq_false h, Bool.false_or]; exact Ev.neg h (Ev.bind (cnone_ev b) (Ev.now _))
/-! The document's -/
theorem w64 : (2 : Nat) ^ FloatKind.f64.format.width = 18446744073709551616 := by decide
def keyW (b : Int) : Int := if nanW b.toNat then 18446744073709551615 else if sg b.toNat then 18446744073709551615 - b else b + 9223372036854775808
theorem sg_ge {b : Int} (h : W64 b) : sg b.toNat = decide (9223372036854775808 ≤ b) := by
  have h0 := h.lo
  have h1 := h.hi
  unfold sg
  by_cases c : 9223372036854775808 ≤ b
  · rw [decide_eq_true c, show b.toNat / 9223372036854775808 = 1 by omega]; rfl
  · rw [decide_eq_false c, show b.toNat / 9223372036854775808 = 0 by omega]; rfl
theorem bxor_max (b : Int) (h : W64 b) : bxor .u64 (IntKind.max .u64) b = 18446744073709551615 - b := by
  obtain ⟨n, rfl⟩ := Int.eq_ofNat_of_zero_le h.lo
  have hn : n < 18446744073709551616 := by have := h.hi; omega
  unfold bxor
  have e1 : (BitVec.ofInt (IntKind.bits .u64) (n : Int)) = BitVec.ofNat 64 n := by
    show BitVec.ofInt 64 (n : Int) = _
    rw [BitVec.ofInt_natCast]
  have e2 : (BitVec.ofInt (IntKind.bits .u64) (IntKind.max .u64)) = BitVec.allOnes 64 := by show BitVec.ofInt 64 18446744073709551615 = BitVec.allOnes 64; decide
  have e3 : BitVec.allOnes 64 ^^^ BitVec.ofNat 64 n = ~~~ (BitVec.ofNat 64 n) := by
    rw [BitVec.xor_comm, BitVec.xor_allOnes]
  rw [e1, e2]
  show IntKind.wrap .u64 ((BitVec.allOnes 64 ^^^ BitVec.ofNat 64 n).toNat : Int) = _
  rw [e3, BitVec.toNat_not, BitVec.toNat_ofNat, Nat.mod_eq_of_lt (by omega), wrapU _ (by omega) (by omega)]
  omega
theorem bor_63 (b : Int) (h0 : 0 ≤ b) (h1 : b < 9223372036854775808) : bor .u64 b 9223372036854775808 = b + 9223372036854775808 := by
  obtain ⟨n, rfl⟩ := Int.eq_ofNat_of_zero_le h0
  have := bor_u64 (a := n) (b := 9223372036854775808) (by omega) (by decide)
  rw [show ((9223372036854775808 : Nat) : Int) = 9223372036854775808 from rfl] at this
  rw [this, show (9223372036854775808 : Nat) = 2 ^ 63 by decide, or_top (by omega)]
  omega
theorem key_place {a b : Int} (ha : W64 a) (hb : W64 b) : keyW a < keyW b ↔ place a.toNat < place b.toNat := by
  have a0 := ha.lo; have a1 := ha.hi; have b0 := hb.lo; have b1 := hb.hi
  have na : nanW a.toNat = decide (9218868437227405312 < a.toNat % 9223372036854775808) := rfl
  have nb : nanW b.toNat = decide (9218868437227405312 < b.toNat % 9223372036854775808) := rfl
  unfold keyW place
  rw [sg_ge ha, sg_ge hb, na, nb]
  unfold rg
  simp only [decide_eq_true_eq]
  repeat' split
  all_goals omega
theorem inW {b : Int} (h : InR .u64 b) : W64 b := ⟨(inU h).1, (inU h).2⟩
end Go.Proofs.Ytllcnlonkloabaa.Sh
