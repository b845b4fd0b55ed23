import Derived.Test.YtocgnoohfkpbhaaChecked
import Derived.Test.YtocgnoohfkpbhaaLift3
import Derived.KernelRfl
import Derived.Shelf.Abstract
import Derived.WalkKit
import Derived.OwnWalkIn
import Derived.TacticsInMore
import Derived.LoopNIn
import Derived.LoopIn
set_option linter.unusedVariables false
set_option linter.unusedSimpArgs false
set_option maxRecDepth 100000
namespace Go.Proofs.Ytocgnoohfkpbhaa.Sh
open Go Lift Go.Proofs
structure Tapi_Num where
  fNeg : Bool
  fMag : (List Int)
  deriving Inhabited
def rTapi_Num (x : Tapi_Num) : List C := [.bool x.fNeg, .sl 1 (x.fMag.map (rI .u32))]
theorem rTapi_Num_eq (x : Tapi_Num) : rTapi_Num x = [.bool x.fNeg, .sl 1 (x.fMag.map (rI .u32))] := rfl

structure Tapi_Term where
  fKind : Int
  fN : Int
  fNum : Tapi_Num
  fBits : Int
  fBytes : ByteArray
  fArgs : (List Tapi_Term)
mutual
def rTapi_Term : Tapi_Term → List C
  | ⟨Kind, N, Num, Bits, Bytes, Args⟩ => [.int .i64 Kind, .int .i64 N, .bool Num.fNeg, .sl 1 (Num.fMag.map (rI .u32)), .int .u64 Bits, .str Bytes, .sl 7 (rowsTapi_Term Args)]
def rowsTapi_Term : List Tapi_Term → List (List C)
  | [] => []
  | x :: xs => rTapi_Term x :: rowsTapi_Term xs
end
theorem rowsTapi_Term_eq : ∀ xs : List Tapi_Term, rowsTapi_Term xs = xs.map rTapi_Term
  | [] => rfl
  | x :: xs => by rw [rowsTapi_Term, rowsTapi_Term_eq xs]; rfl
theorem rTapi_Term_eq (x : Tapi_Term) : rTapi_Term x = [.int .i64 x.fKind, .int .i64 x.fN, .bool x.fNum.fNeg, .sl 1 (x.fNum.fMag.map (rI .u32)), .int .u64 x.fBits, .str x.fBytes, .sl 7 (x.fArgs.map rTapi_Term)] := by
  cases x
  rw [rTapi_Term, rowsTapi_Term_eq]
def cTapi_Term (x : Tapi_Term) : List C := [.int .i64 x.fKind, .int .i64 x.fN, .bool x.fNum.fNeg, .sl 1 (x.fNum.fMag.map (rI .u32)), .int .u64 x.fBits, .str x.fBytes, .sl 7 (x.fArgs.map rTapi_Term)]
def aTapi_Term (x : Tapi_Term) : List AC := [.d (.int .i64 x.fKind), .d (.int .i64 x.fN), .d (.bool x.fNum.fNeg), .d (.sl 1 (x.fNum.fMag.map (rI .u32))), .d (.int .u64 x.fBits), .d (.str x.fBytes), .d (.sl 7 (x.fArgs.map rTapi_Term))]
def dTapi_Term (x : Tapi_Term) : List OC := [.dat (.int .i64 x.fKind), .dat (.int .i64 x.fN), .dat (.bool x.fNum.fNeg), .dat (.sl 1 (x.fNum.fMag.map (rI .u32))), .dat (.int .u64 x.fBits), .dat (.str x.fBytes), .dat (.sl 7 (x.fArgs.map rTapi_Term))]

structure Tweigh_scale where
  fn : Int
  deriving Inhabited
def beehivelaw0_GreatNum_fin (r : Bool) : List PV := [.v (.one (.dat (.bool r)))]
def beehivelaw0_GreatNum (N : Nat) (p0 : Tapi_Num) : Option Bool := some (decide (((p0.fMag.length : Nat) : Int) > (40 : Int)))
theorem beehivelaw0_GreatNum_spec (N : Nat) (p0 : Tapi_Num) (r : Bool) (h : beehivelaw0_GreatNum N p0 = some r) : FSpec Try.prog 27 [.v (.agg [.dat (.bool p0.fNeg), .dat (.sl 1 (p0.fMag.map (rI .u32)))])] (beehivelaw0_GreatNum_fin r) := by
  unfold beehivelaw0_GreatNum at h
  injection h with h; subst h
  exact FSpec.of_run 149 _ Try.func27 (by kernel_rfl : runF Try.prog Try.f27 [.v (.agg [.dat (.bool p0.fNeg), .dat (.sl 1 (p0.fMag.map (rI .u32)))])] 149 [.reg [{}, {}], .reg [{}, {}, { cast := some (.v (.one (.d (.int .i64 ((p0.fMag.length : Nat) : Int))))) }, {}, {}]] = some ((beehivelaw0_GreatNum_fin (decide (((p0.fMag.length : Nat) : Int) > (40 : Int)))), [True, AV.Le (.v (.one (.d (.int .i64 (((p0.fMag.map (rI .u32)).length : Nat) : Int))))) (.v (.one (.d (.int .i64 ((p0.fMag.length : Nat) : Int)))))])) (.cons (trivial) (.cons (len_le) (AllP.nil)))
def num_trim_L0_H (a247 : (List Int)) : St := { fr := ([(.v (.one (.vw 247 1 0 ((a247.map (rI .u32)).length))))] ++ bads 20), obs := [(247, .arr 1 (a247.map (rI .u32)) true)] }
def num_trim_L0_S0 (o : (List Int)) : St := { fr := ([(.v (.one (.vw 247 1 0 ((o.map (rI .u32)).length))))] ++ bads 20), obs := [(247, .arr 1 (o.map (rI .u32)) true)] }
def num_trim_L0 : Nat → (List Int) → Option ((List Int))
  | 0, _ => none
  | N + 1, a247 => if ((a247.length : Nat) : Int) > (0 : Int) then (idx a247 (IntKind.wrap .i64 (((a247.length : Nat) : Int) - (1 : Int)))).bind fun x2 => if x2 = (0 : Int) then (Lift.cut a247 (0 : Int) (IntKind.wrap .i64 (((a247.length : Nat) : Int) - (1 : Int)))).bind fun x4 => num_trim_L0 N  x4 else some a247 else some a247
theorem num_trim_L0_spec : ∀ (N : Nat) (a247 : (List Int)) (r : ((List Int))), num_trim_L0 N a247 = some r → LoopTo Try.prog 247 (partOf Try.f92 [1, 0, 0, 0]) (num_trim_L0_H  a247) (.exit 0) (num_trim_L0_S0  r) := by
  intro N
  induction N with
  | zero => intro a247 r h; cases h
  | succ N ih =>
    intro a247 r h
    rw [num_trim_L0] at h
    rcases ite_part h with ⟨hb1, h⟩ | ⟨hb1, h⟩
    · obtain ⟨x2, hx2, h⟩ := bind_some h
      rcases ite_part h with ⟨hb3, h⟩ | ⟨hb3, h⟩
      · obtain ⟨x4, hx4, h⟩ := bind_some h
        exact LoopTo.again (CodeTo.of_run _ (by kernel_rfl : runTo Try.prog 247 (partOf Try.f92 [1, 0, 0, 0]) [.reg [{}, { cast := some (.v (.one (.d (.int .i64 ((a247.length : Nat) : Int))))) }, {}, {}, {}, {}, { cast := some (.v (.one (.d (.int .i64 ((a247.length : Nat) : Int))))) }, {}, {}, { cast := some (.v (.one (.d (.int .u32 x2)))) }, {}, { h := .pick true }], .br true, .reg [{}, {}, { cast := some (.v (.one (.d (.int .i64 ((a247.length : Nat) : Int))))) }, {}, { cast := some (.v (.one (.vw 247 1 0 ((x4.map (rI .u32)).length)))), post := [.ob 247 (.arr 1 (x4.map (rI .u32)) true)] }, {}], .adj [.keep [0] [247]]] (num_trim_L0_H  a247) = some (.normal, (num_trim_L0_H  x4), [AV.Le (.v (.one (.d (.int .i64 (((a247.map (rI .u32)).length : Nat) : Int))))) (.v (.one (.d (.int .i64 ((a247.length : Nat) : Int))))), (decide (((a247.length : Nat) : Int) > (0 : Int))) = true, (decide (((a247.length : Nat) : Int) > (0 : Int))) = true, (decide (((a247.length : Nat) : Int) > (0 : Int))) = true, AV.Le (.v (.one (.d (.int .i64 (((a247.map (rI .u32)).length : Nat) : Int))))) (.v (.one (.d (.int .i64 ((a247.length : Nat) : Int))))), (decide (((a247.length : Nat) : Int) > (0 : Int))) = true, (decide (((a247.length : Nat) : Int) > (0 : Int))) = true, 0 ≤ IntKind.wrap .i64 (((a247.length : Nat) : Int) - (1 : Int)) ∧ IntKind.wrap .i64 (((a247.length : Nat) : Int) - (1 : Int)) < (((a247.map (rI .u32)).length : Nat) : Int), (decide (((a247.length : Nat) : Int) > (0 : Int))) = true, (IntKind.wrap .i64 (((a247.length : Nat) : Int) - (1 : Int))).toNat < (a247.map (rI .u32)).length ∧ 0 ≤ 1, AV.Le (.v (.one (.d (((a247.map (rI .u32)).getD ((IntKind.wrap .i64 (((a247.length : Nat) : Int) - (1 : Int))).toNat) []).getD 0 .nils)))) (.v (.one (.d (.int .u32 x2)))), (decide (((a247.length : Nat) : Int) > (0 : Int))) = true, (decide (((a247.length : Nat) : Int) > (0 : Int))) = true, (x2 == (0 : Int)) = true, AV.Le (.v (.one (.d (.int .i64 (((a247.map (rI .u32)).length : Nat) : Int))))) (.v (.one (.d (.int .i64 ((a247.length : Nat) : Int))))), 0 ≤ (0 : Int) ∧ (0 : Int) ≤ IntKind.wrap .i64 (((a247.length : Nat) : Int) - (1 : Int)) ∧ IntKind.wrap .i64 (((a247.length : Nat) : Int) - (1 : Int)) ≤ (((a247.map (rI .u32)).length : Nat) : Int) ∧ ((0 : Int) = 0 ∨ (0 : Int) < IntKind.wrap .i64 (((a247.length : Nat) : Int) - (1 : Int))), AV.Le (.v (.one (.vw 247 1 (Int.toNat 0 + 0) (Int.toNat (IntKind.wrap .i64 (((a247.length : Nat) : Int) - (1 : Int))) - Int.toNat 0)))) (.v (.one (.vw 247 1 0 ((x4.map (rI .u32)).length)))), Ob.Le (.arr 1 (a247.map (rI .u32)) true) (.arr 1 (x4.map (rI .u32)) true)])) (.cons (len_le) (.cons ((b_true dec_iff hb1)) (.cons ((b_true dec_iff hb1)) (.cons ((b_true dec_iff hb1)) (.cons (len_le) (.cons ((b_true dec_iff hb1)) (.cons ((b_true dec_iff hb1)) (.cons (row_bnd hx2) (.cons ((b_true dec_iff hb1)) (.cons (⟨row_lt (idx_some hx2).2.2, by decide⟩) (.cons (row_le (fun l => (.v (.one (.d (l.getD 0 .nils))))) (idx_some hx2).2.2 rfl) (.cons ((b_true dec_iff hb1)) (.cons ((b_true dec_iff hb1)) (.cons ((b_true beq_int hb3)) (.cons (len_le) (.cons (cut_own hx4) (.cons (cut_vw hx4) (.cons (cut_ob hx4) (AllP.nil)))))))))))))))))))) (ih  x4 _ h)
      · injection h with h; subst h
        exact LoopTo.out (CodeTo.of_run _ (by kernel_rfl : runTo Try.prog 247 (partOf Try.f92 [1, 0, 0, 0]) [.reg [{}, { cast := some (.v (.one (.d (.int .i64 ((a247.length : Nat) : Int))))) }, {}, {}, {}, {}, { cast := some (.v (.one (.d (.int .i64 ((a247.length : Nat) : Int))))) }, {}, {}, { cast := some (.v (.one (.d (.int .u32 x2)))) }, {}, { h := .pick true }], .br false, .adj [.keep [0] [247]]] (num_trim_L0_H  a247) = some ((.exit 0), (num_trim_L0_S0  a247), [AV.Le (.v (.one (.d (.int .i64 (((a247.map (rI .u32)).length : Nat) : Int))))) (.v (.one (.d (.int .i64 ((a247.length : Nat) : Int))))), (decide (((a247.length : Nat) : Int) > (0 : Int))) = true, (decide (((a247.length : Nat) : Int) > (0 : Int))) = true, (decide (((a247.length : Nat) : Int) > (0 : Int))) = true, AV.Le (.v (.one (.d (.int .i64 (((a247.map (rI .u32)).length : Nat) : Int))))) (.v (.one (.d (.int .i64 ((a247.length : Nat) : Int))))), (decide (((a247.length : Nat) : Int) > (0 : Int))) = true, (decide (((a247.length : Nat) : Int) > (0 : Int))) = true, 0 ≤ IntKind.wrap .i64 (((a247.length : Nat) : Int) - (1 : Int)) ∧ IntKind.wrap .i64 (((a247.length : Nat) : Int) - (1 : Int)) < (((a247.map (rI .u32)).length : Nat) : Int), (decide (((a247.length : Nat) : Int) > (0 : Int))) = true, (IntKind.wrap .i64 (((a247.length : Nat) : Int) - (1 : Int))).toNat < (a247.map (rI .u32)).length ∧ 0 ≤ 1, AV.Le (.v (.one (.d (((a247.map (rI .u32)).getD ((IntKind.wrap .i64 (((a247.length : Nat) : Int) - (1 : Int))).toNat) []).getD 0 .nils)))) (.v (.one (.d (.int .u32 x2)))), (decide (((a247.length : Nat) : Int) > (0 : Int))) = true, (decide (((a247.length : Nat) : Int) > (0 : Int))) = true, (x2 == (0 : Int)) = false])) (.cons (len_le) (.cons ((b_true dec_iff hb1)) (.cons ((b_true dec_iff hb1)) (.cons ((b_true dec_iff hb1)) (.cons (len_le) (.cons ((b_true dec_iff hb1)) (.cons ((b_true dec_iff hb1)) (.cons (row_bnd hx2) (.cons ((b_true dec_iff hb1)) (.cons (⟨row_lt (idx_some hx2).2.2, by decide⟩) (.cons (row_le (fun l => (.v (.one (.d (l.getD 0 .nils))))) (idx_some hx2).2.2 rfl) (.cons ((b_true dec_iff hb1)) (.cons ((b_true dec_iff hb1)) (.cons ((b_false beq_int hb3)) (AllP.nil)))))))))))))))) (by simp)
    · injection h with h; subst h
      exact LoopTo.out (CodeTo.of_run _ (by kernel_rfl : runTo Try.prog 247 (partOf Try.f92 [1, 0, 0, 0]) [.reg [{}, { cast := some (.v (.one (.d (.int .i64 ((a247.length : Nat) : Int))))) }, {}, {}, { want := false }, { want := false }, { want := false }, { want := false }, { want := false }, { want := false }, { want := false }, { h := .pick false }], .br false, .adj [.keep [0] [247]]] (num_trim_L0_H  a247) = some ((.exit 0), (num_trim_L0_S0  a247), [AV.Le (.v (.one (.d (.int .i64 (((a247.map (rI .u32)).length : Nat) : Int))))) (.v (.one (.d (.int .i64 ((a247.length : Nat) : Int))))), (decide (((a247.length : Nat) : Int) > (0 : Int))) = false, (decide (((a247.length : Nat) : Int) > (0 : Int))) = false, (decide (((a247.length : Nat) : Int) > (0 : Int))) = false, (decide (((a247.length : Nat) : Int) > (0 : Int))) = false, (decide (((a247.length : Nat) : Int) > (0 : Int))) = false, (decide (((a247.length : Nat) : Int) > (0 : Int))) = false, (decide (((a247.length : Nat) : Int) > (0 : Int))) = false, (decide (((a247.length : Nat) : Int) > (0 : Int))) = false, false = false])) (.cons (len_le) (.cons ((b_false dec_iff hb1)) (.cons ((b_false dec_iff hb1)) (.cons ((b_false dec_iff hb1)) (.cons ((b_false dec_iff hb1)) (.cons ((b_false dec_iff hb1)) (.cons ((b_false dec_iff hb1)) (.cons ((b_false dec_iff hb1)) (.cons ((b_false dec_iff hb1)) (.cons (rfl) (AllP.nil)))))))))))) (by simp)
def num_trim_fin (r : (List Int)) : List PV := [.v (.one (.own 1 (r.map (rI .u32))))]
def num_trim (N : Nat) (p0 : (List Int)) : Option (List Int) := (num_trim_L0 N p0).bind fun r5 => some r5
theorem num_trim_spec (N : Nat) (p0 : (List Int)) (r : (List Int)) (h : num_trim N p0 = some r) : FSpec Try.prog 92 [.v (.one (.own 1 (p0.map (rI .u32))))] (num_trim_fin r) := by
  unfold num_trim at h
  obtain ⟨r5, hr5, h⟩ := bind_some h
  injection h with h; subst h
  exact FSpec.of_run 247 _ Try.func92 (by kernel_rfl : runF Try.prog Try.f92 [.v (.one (.own 1 (p0.map (rI .u32))))] 247 [.reg [{}], .adj [.keep [0] [247]], .cut (.exit 0) (num_trim_L0_S0  r5), .reg [{}, {}]] = some ((num_trim_fin r5), [CodeTo Try.prog 247 (partOf Try.f92 [1, 0, 0]) (num_trim_L0_H  p0) (.exit 0) (num_trim_L0_S0  r5), (r5.map (rI .u32)).length = (r5.map (rI .u32)).length])) (.cons (CodeTo.of_loop (num_trim_L0_spec N p0 r5 hr5)) (.cons (rfl) (AllP.nil)))
def num_made_fin (r : (Tapi_Num × Bool)) : List PV := [.v (.agg [.dat (.bool r.1.fNeg), .own 1 (r.1.fMag.map (rI .u32))]), .v (.one (.dat (.bool r.2)))]
def num_made (N : Nat) (p0 : Bool) (p1 : (List Int)) : Option (Tapi_Num × Bool) := (num_trim N p1).bind fun r1 => if ((r1.length : Nat) : Int) > (8 : Int) then some ((Tapi_Num.mk false ([] : List Int)), false) else if p0 = true then some ((Tapi_Num.mk (decide (((r1.length : Nat) : Int) > (0 : Int))) r1), true) else some ((Tapi_Num.mk false r1), true)
theorem num_made_spec (N : Nat) (p0 : Bool) (p1 : (List Int)) (r : (Tapi_Num × Bool)) (h : num_made N p0 p1 = some r) : FSpec Try.prog 77 [.v (.one (.dat (.bool p0))), .v (.one (.own 1 (p1.map (rI .u32))))] (num_made_fin r) := by
  unfold num_made at h
  obtain ⟨r1, hr1, h⟩ := bind_some h
  rcases ite_part h with ⟨hb2, h⟩ | ⟨hb2, h⟩
  · injection h with h; subst h
    exact FSpec.of_run 246 _ Try.func77 (by kernel_rfl : runF Try.prog Try.f77 [.v (.one (.dat (.bool p0))), .v (.one (.own 1 (p1.map (rI .u32))))] 246 [.reg [{}, {}], .reg [{}, { h := .call 38 [.v (.one (.own 1 (r1.map (rI .u32))))] [] }, {}], .reg [{}, { cast := some (.v (.one (.d (.int .i64 ((r1.length : Nat) : Int))))) }, {}], .br true, .reg [{}, {}, {}], .adj [.newc 147 1 4 1]] = some ((num_made_fin ((Tapi_Num.mk false ([] : List Int)), false)), [FSpec Try.prog 92 [.v (.one (.own 1 (p1.map (rI .u32))))] [.v (.one (.own 1 (r1.map (rI .u32))))], (p1.map (rI .u32)).length = (p1.map (rI .u32)).length, AV.Le (.v (.one (.d (.int .i64 (((r1.map (rI .u32)).length : Nat) : Int))))) (.v (.one (.d (.int .i64 ((r1.length : Nat) : Int))))), (decide (((r1.length : Nat) : Int) > (8 : Int))) = true, True, True, (([] : List Int).map (rI .u32)).length = (([] : List Int).map (rI .u32)).length])) (.cons ((num_trim_spec N p1 r1 hr1)) (.cons (rfl) (.cons (len_le) (.cons ((b_true dec_iff hb2)) (.cons (trivial) (.cons (trivial) (.cons (rfl) (AllP.nil))))))))
  · rcases ite_part h with ⟨hb3, h⟩ | ⟨hb3, h⟩
    · injection h with h; subst h
      exact FSpec.of_run 246 _ Try.func77 (by kernel_rfl : runF Try.prog Try.f77 [.v (.one (.dat (.bool p0))), .v (.one (.own 1 (p1.map (rI .u32))))] 246 [.reg [{}, {}], .reg [{}, { h := .call 38 [.v (.one (.own 1 (r1.map (rI .u32))))] [] }, {}], .reg [{}, { cast := some (.v (.one (.d (.int .i64 ((r1.length : Nat) : Int))))) }, {}], .br false, .reg [{}, {}, {}, { cast := some (.v (.one (.d (.int .i64 ((r1.length : Nat) : Int))))) }, {}, { h := .pick true }, {}, {}, {}, {}]] = some ((num_made_fin ((Tapi_Num.mk (decide (((r1.length : Nat) : Int) > (0 : Int))) r1), true)), [FSpec Try.prog 92 [.v (.one (.own 1 (p1.map (rI .u32))))] [.v (.one (.own 1 (r1.map (rI .u32))))], (p1.map (rI .u32)).length = (p1.map (rI .u32)).length, AV.Le (.v (.one (.d (.int .i64 (((r1.map (rI .u32)).length : Nat) : Int))))) (.v (.one (.d (.int .i64 ((r1.length : Nat) : Int))))), (decide (((r1.length : Nat) : Int) > (8 : Int))) = false, p0 = true, p0 = true, AV.Le (.v (.one (.d (.int .i64 (((r1.map (rI .u32)).length : Nat) : Int))))) (.v (.one (.d (.int .i64 ((r1.length : Nat) : Int))))), p0 = true, p0 = true, True, True, (r1.map (rI .u32)).length = (r1.map (rI .u32)).length])) (.cons ((num_trim_spec N p1 r1 hr1)) (.cons (rfl) (.cons (len_le) (.cons ((b_false dec_iff hb2)) (.cons ((b_true var_iff hb3)) (.cons ((b_true var_iff hb3)) (.cons (len_le) (.cons ((b_true var_iff hb3)) (.cons ((b_true var_iff hb3)) (.cons (trivial) (.cons (trivial) (.cons (rfl) (AllP.nil)))))))))))))
    · injection h with h; subst h
      exact FSpec.of_run 246 _ Try.func77 (by kernel_rfl : runF Try.prog Try.f77 [.v (.one (.dat (.bool p0))), .v (.one (.own 1 (p1.map (rI .u32))))] 246 [.reg [{}, {}], .reg [{}, { h := .call 38 [.v (.one (.own 1 (r1.map (rI .u32))))] [] }, {}], .reg [{}, { cast := some (.v (.one (.d (.int .i64 ((r1.length : Nat) : Int))))) }, {}], .br false, .reg [{}, {}, { want := false }, { want := false }, { want := false }, { h := .pick false }, {}, {}, {}, {}]] = some ((num_made_fin ((Tapi_Num.mk false r1), true)), [FSpec Try.prog 92 [.v (.one (.own 1 (p1.map (rI .u32))))] [.v (.one (.own 1 (r1.map (rI .u32))))], (p1.map (rI .u32)).length = (p1.map (rI .u32)).length, AV.Le (.v (.one (.d (.int .i64 (((r1.map (rI .u32)).length : Nat) : Int))))) (.v (.one (.d (.int .i64 ((r1.length : Nat) : Int))))), (decide (((r1.length : Nat) : Int) > (8 : Int))) = false, p0 = false, p0 = false, p0 = false, p0 = false, True, True, (r1.map (rI .u32)).length = (r1.map (rI .u32)).length])) (.cons ((num_trim_spec N p1 r1 hr1)) (.cons (rfl) (.cons (len_le) (.cons ((b_false dec_iff hb2)) (.cons ((b_false var_iff hb3)) (.cons ((b_false var_iff hb3)) (.cons ((b_false var_iff hb3)) (.cons ((b_false var_iff hb3)) (.cons (trivial) (.cons (trivial) (.cons (rfl) (AllP.nil))))))))))))
def num_Of_fin (r : Tapi_Num) : List PV := [.v (.agg [.dat (.bool r.fNeg), .own 1 (r.fMag.map (rI .u32))])]
def num_Of (N : Nat) (p0 : Int) : Option Tapi_Num := if p0 < (0 : Int) then (num_made N (decide (p0 < (0 : Int))) ([IntKind.wrap .u32 (IntKind.wrap .u64 (0 - IntKind.wrap .u64 p0)), IntKind.wrap .u32 (Int.fdiv (IntKind.wrap .u64 (0 - IntKind.wrap .u64 p0)) (2 ^ (min (Int.toNat (32 : Int)) (IntKind.bits .u64))))] : List Int)).bind fun r2 => some r2.1 else (num_made N (decide (p0 < (0 : Int))) ([IntKind.wrap .u32 (IntKind.wrap .u64 p0), IntKind.wrap .u32 (Int.fdiv (IntKind.wrap .u64 p0) (2 ^ (min (Int.toNat (32 : Int)) (IntKind.bits .u64))))] : List Int)).bind fun r3 => some r3.1
theorem num_Of_spec (N : Nat) (p0 : Int) (r : Tapi_Num) (h : num_Of N p0 = some r) : FSpec Try.prog 55 [.v (.one (.dat (.int .i64 p0)))] (num_Of_fin r) := by
  unfold num_Of at h
  rcases ite_part h with ⟨hb1, h⟩ | ⟨hb1, h⟩
  · obtain ⟨r2, hr2, h⟩ := bind_some h
    injection h with h; subst h
    exact FSpec.of_run 281 _ Try.func55 (by kernel_rfl : runF Try.prog Try.f55 [.v (.one (.dat (.int .i64 p0)))] 281 [.reg [{}], .reg [{}, {}, {}], .reg [{}, {}], .br true, .reg [{}, {}, {}], .reg [{}, {}, {}, {}, {}, {}, {}, { post := [.ob 20 (.arr 1 (([IntKind.wrap .u32 (IntKind.wrap .u64 (0 - IntKind.wrap .u64 p0)), IntKind.wrap .u32 (Int.fdiv (IntKind.wrap .u64 (0 - IntKind.wrap .u64 p0)) (2 ^ (min (Int.toNat (32 : Int)) (IntKind.bits .u64))))] : List Int).map (rI .u32)) false)] }, { h := .call 127 [.v (.agg [.dat (.bool r2.1.fNeg), .own 1 (r2.1.fMag.map (rI .u32))]), .v (.one (.dat (.bool r2.2)))] [] }, {}, {}, {}, {}, {}, {}], .reg [{}, {}]] = some ((num_Of_fin r2.1), [(decide (p0 < (0 : Int))) = true, Ob.Le (.arr 1 [[.int .u32 (IntKind.wrap .u32 (IntKind.wrap .u64 (0 - IntKind.wrap .u64 p0)))], [.int .u32 (IntKind.wrap .u32 (Int.fdiv (IntKind.wrap .u64 (0 - IntKind.wrap .u64 p0)) (2 ^ (min (Int.toNat (32 : Int)) (IntKind.bits .u64)))))]] false) (.arr 1 (([IntKind.wrap .u32 (IntKind.wrap .u64 (0 - IntKind.wrap .u64 p0)), IntKind.wrap .u32 (Int.fdiv (IntKind.wrap .u64 (0 - IntKind.wrap .u64 p0)) (2 ^ (min (Int.toNat (32 : Int)) (IntKind.bits .u64))))] : List Int).map (rI .u32)) false), FSpec Try.prog 77 [.v (.one (.dat (.bool (decide (p0 < (0 : Int)))))), .v (.one (.own 1 (([IntKind.wrap .u32 (IntKind.wrap .u64 (0 - IntKind.wrap .u64 p0)), IntKind.wrap .u32 (Int.fdiv (IntKind.wrap .u64 (0 - IntKind.wrap .u64 p0)) (2 ^ (min (Int.toNat (32 : Int)) (IntKind.bits .u64))))] : List Int).map (rI .u32))))] [.v (.agg [.dat (.bool r2.1.fNeg), .own 1 (r2.1.fMag.map (rI .u32))]), .v (.one (.dat (.bool r2.2)))], (([IntKind.wrap .u32 (IntKind.wrap .u64 (0 - IntKind.wrap .u64 p0)), IntKind.wrap .u32 (Int.fdiv (IntKind.wrap .u64 (0 - IntKind.wrap .u64 p0)) (2 ^ (min (Int.toNat (32 : Int)) (IntKind.bits .u64))))] : List Int).map (rI .u32)).length = (([IntKind.wrap .u32 (IntKind.wrap .u64 (0 - IntKind.wrap .u64 p0)), IntKind.wrap .u32 (Int.fdiv (IntKind.wrap .u64 (0 - IntKind.wrap .u64 p0)) (2 ^ (min (Int.toNat (32 : Int)) (IntKind.bits .u64))))] : List Int).map (rI .u32)).length, True, True, True, True, (r2.1.fMag.map (rI .u32)).length = (r2.1.fMag.map (rI .u32)).length])) (.cons ((b_true dec_iff hb1)) (.cons (build_ob (by rfl)) (.cons ((num_made_spec N (decide (p0 < (0 : Int))) ([IntKind.wrap .u32 (IntKind.wrap .u64 (0 - IntKind.wrap .u64 p0)), IntKind.wrap .u32 (Int.fdiv (IntKind.wrap .u64 (0 - IntKind.wrap .u64 p0)) (2 ^ (min (Int.toNat (32 : Int)) (IntKind.bits .u64))))] : List Int) r2 hr2)) (.cons (rfl) (.cons (trivial) (.cons (trivial) (.cons (trivial) (.cons (trivial) (.cons (rfl) (AllP.nil))))))))))
  · obtain ⟨r3, hr3, h⟩ := bind_some h
    injection h with h; subst h
    exact FSpec.of_run 281 _ Try.func55 (by kernel_rfl : runF Try.prog Try.f55 [.v (.one (.dat (.int .i64 p0)))] 281 [.reg [{}], .reg [{}, {}, {}], .reg [{}, {}], .br false, .reg [{}, {}, {}, {}, {}, {}, {}, { post := [.ob 20 (.arr 1 (([IntKind.wrap .u32 (IntKind.wrap .u64 p0), IntKind.wrap .u32 (Int.fdiv (IntKind.wrap .u64 p0) (2 ^ (min (Int.toNat (32 : Int)) (IntKind.bits .u64))))] : List Int).map (rI .u32)) false)] }, { h := .call 127 [.v (.agg [.dat (.bool r3.1.fNeg), .own 1 (r3.1.fMag.map (rI .u32))]), .v (.one (.dat (.bool r3.2)))] [] }, {}, {}, {}, {}, {}, {}], .reg [{}, {}]] = some ((num_Of_fin r3.1), [(decide (p0 < (0 : Int))) = false, Ob.Le (.arr 1 [[.int .u32 (IntKind.wrap .u32 (IntKind.wrap .u64 p0))], [.int .u32 (IntKind.wrap .u32 (Int.fdiv (IntKind.wrap .u64 p0) (2 ^ (min (Int.toNat (32 : Int)) (IntKind.bits .u64)))))]] false) (.arr 1 (([IntKind.wrap .u32 (IntKind.wrap .u64 p0), IntKind.wrap .u32 (Int.fdiv (IntKind.wrap .u64 p0) (2 ^ (min (Int.toNat (32 : Int)) (IntKind.bits .u64))))] : List Int).map (rI .u32)) false), FSpec Try.prog 77 [.v (.one (.dat (.bool (decide (p0 < (0 : Int)))))), .v (.one (.own 1 (([IntKind.wrap .u32 (IntKind.wrap .u64 p0), IntKind.wrap .u32 (Int.fdiv (IntKind.wrap .u64 p0) (2 ^ (min (Int.toNat (32 : Int)) (IntKind.bits .u64))))] : List Int).map (rI .u32))))] [.v (.agg [.dat (.bool r3.1.fNeg), .own 1 (r3.1.fMag.map (rI .u32))]), .v (.one (.dat (.bool r3.2)))], (([IntKind.wrap .u32 (IntKind.wrap .u64 p0), IntKind.wrap .u32 (Int.fdiv (IntKind.wrap .u64 p0) (2 ^ (min (Int.toNat (32 : Int)) (IntKind.bits .u64))))] : List Int).map (rI .u32)).length = (([IntKind.wrap .u32 (IntKind.wrap .u64 p0), IntKind.wrap .u32 (Int.fdiv (IntKind.wrap .u64 p0) (2 ^ (min (Int.toNat (32 : Int)) (IntKind.bits .u64))))] : List Int).map (rI .u32)).length, True, True, True, True, (r3.1.fMag.map (rI .u32)).length = (r3.1.fMag.map (rI .u32)).length])) (.cons ((b_false dec_iff hb1)) (.cons (build_ob (by rfl)) (.cons ((num_made_spec N (decide (p0 < (0 : Int))) ([IntKind.wrap .u32 (IntKind.wrap .u64 p0), IntKind.wrap .u32 (Int.fdiv (IntKind.wrap .u64 p0) (2 ^ (min (Int.toNat (32 : Int)) (IntKind.bits .u64))))] : List Int) r3 hr3)) (.cons (rfl) (.cons (trivial) (.cons (trivial) (.cons (trivial) (.cons (trivial) (.cons (rfl) (AllP.nil))))))))))
def num_May_fin (r : Bool) : List PV := [.v (.one (.dat (.bool r)))]
def num_May (N : Nat) (p0 : Tapi_Num) : Option Bool := if ((p0.fMag.length : Nat) : Int) ≤ (8 : Int) then if ((p0.fMag.length : Nat) : Int) > (0 : Int) then (idx p0.fMag (IntKind.wrap .i64 (((p0.fMag.length : Nat) : Int) - (1 : Int)))).bind fun x3 => if x3 ≠ (0 : Int) then some true else if ((p0.fMag.length : Nat) : Int) = (0 : Int) then some (!p0.fNeg) else some false else if ((p0.fMag.length : Nat) : Int) = (0 : Int) then some (!p0.fNeg) else some false else some false
theorem num_May_spec (N : Nat) (p0 : Tapi_Num) (r : Bool) (h : num_May N p0 = some r) : FSpec Try.prog 62 [.v (.agg [.dat (.bool p0.fNeg), .dat (.sl 1 (p0.fMag.map (rI .u32)))])] (num_May_fin r) := by
  unfold num_May at h
  rcases ite_part h with ⟨hb1, h⟩ | ⟨hb1, h⟩
  · rcases ite_part h with ⟨hb2, h⟩ | ⟨hb2, h⟩
    · obtain ⟨x3, hx3, h⟩ := bind_some h
      rcases ite_part h with ⟨hb4, h⟩ | ⟨hb4, h⟩
      · injection h with h; subst h
        exact FSpec.of_run 317 _ Try.func62 (by kernel_rfl : runF Try.prog Try.f62 [.v (.agg [.dat (.bool p0.fNeg), .dat (.sl 1 (p0.fMag.map (rI .u32)))])] 317 [.reg [{}, {}], .reg [{}, {}, { cast := some (.v (.one (.d (.int .i64 ((p0.fMag.length : Nat) : Int))))) }, {}], .reg [{}, {}, {}, {}, {}, {}, {}, {}, {}, {}, { cast := some (.v (.one (.fptr [.int .u32 x3]))) }, {}, {}, { h := .pick true }, {}, { want := false }, { want := false }, { want := false }, { want := false }, { want := false }, { want := false }, { want := false }, { h := .pick true }, { h := .pick true }, {}]] = some ((num_May_fin true), [True, AV.Le (.v (.one (.d (.int .i64 (((p0.fMag.map (rI .u32)).length : Nat) : Int))))) (.v (.one (.d (.int .i64 ((p0.fMag.length : Nat) : Int))))), (decide (((p0.fMag.length : Nat) : Int) ≤ (8 : Int))) = true, (decide (((p0.fMag.length : Nat) : Int) ≤ (8 : Int))) = true, (decide (((p0.fMag.length : Nat) : Int) ≤ (8 : Int))) = true, (decide (((p0.fMag.length : Nat) : Int) > (0 : Int))) = true, (decide (((p0.fMag.length : Nat) : Int) > (0 : Int))) = true, True, (decide (((p0.fMag.length : Nat) : Int) > (0 : Int))) = true, (decide (((p0.fMag.length : Nat) : Int) > (0 : Int))) = true, (decide (((p0.fMag.length : Nat) : Int) > (0 : Int))) = true, 0 ≤ IntKind.wrap .i64 (((p0.fMag.length : Nat) : Int) - (1 : Int)) ∧ IntKind.wrap .i64 (((p0.fMag.length : Nat) : Int) - (1 : Int)) < (((p0.fMag.map (rI .u32)).length : Nat) : Int), AV.Le (.v (.one (.fptr ((List.range 1).map fun j => ((p0.fMag.map (rI .u32)).getD (Int.toNat (IntKind.wrap .i64 (((p0.fMag.length : Nat) : Int) - (1 : Int)))) []).getD j .nils)))) (.v (.one (.fptr [.int .u32 x3]))), (decide (((p0.fMag.length : Nat) : Int) > (0 : Int))) = true, True, (decide (((p0.fMag.length : Nat) : Int) > (0 : Int))) = true, (decide (((p0.fMag.length : Nat) : Int) ≤ (8 : Int))) = true, (decide (((p0.fMag.length : Nat) : Int) > (0 : Int))) = true, (decide (((p0.fMag.length : Nat) : Int) ≤ (8 : Int))) = true, (x3 != (0 : Int)) = true, (x3 != (0 : Int)) = true, (x3 != (0 : Int)) = true, (x3 != (0 : Int)) = true, (decide (((p0.fMag.length : Nat) : Int) ≤ (8 : Int))) = true, (x3 != (0 : Int)) = true, (decide (((p0.fMag.length : Nat) : Int) ≤ (8 : Int))) = true])) (.cons (trivial) (.cons (len_le) (.cons ((b_true dec_iff hb1)) (.cons ((b_true dec_iff hb1)) (.cons ((b_true dec_iff hb1)) (.cons ((b_true dec_iff hb2)) (.cons ((b_true dec_iff hb2)) (.cons (trivial) (.cons ((b_true dec_iff hb2)) (.cons ((b_true dec_iff hb2)) (.cons ((b_true dec_iff hb2)) (.cons (row_bnd hx3) (.cons (fptr_row hx3 rfl) (.cons ((b_true dec_iff hb2)) (.cons (trivial) (.cons ((b_true dec_iff hb2)) (.cons ((b_true dec_iff hb1)) (.cons ((b_true dec_iff hb2)) (.cons ((b_true dec_iff hb1)) (.cons ((b_true bne_int hb4)) (.cons ((b_true bne_int hb4)) (.cons ((b_true bne_int hb4)) (.cons ((b_true bne_int hb4)) (.cons ((b_true dec_iff hb1)) (.cons ((b_true bne_int hb4)) (.cons ((b_true dec_iff hb1)) (AllP.nil)))))))))))))))))))))))))))
      · rcases ite_part h with ⟨hb5, h⟩ | ⟨hb5, h⟩
        · injection h with h; subst h
          exact FSpec.of_run 317 _ Try.func62 (by kernel_rfl : runF Try.prog Try.f62 [.v (.agg [.dat (.bool p0.fNeg), .dat (.sl 1 (p0.fMag.map (rI .u32)))])] 317 [.reg [{}, {}], .reg [{}, {}, { cast := some (.v (.one (.d (.int .i64 ((p0.fMag.length : Nat) : Int))))) }, {}], .reg [{}, {}, {}, {}, {}, {}, {}, {}, {}, {}, { cast := some (.v (.one (.fptr [.int .u32 x3]))) }, {}, {}, { h := .pick true }, {}, {}, {}, {}, {}, {}, {}, { h := .pick true }, { h := .pick false }, { h := .pick true }, {}]] = some ((num_May_fin (!p0.fNeg)), [True, AV.Le (.v (.one (.d (.int .i64 (((p0.fMag.map (rI .u32)).length : Nat) : Int))))) (.v (.one (.d (.int .i64 ((p0.fMag.length : Nat) : Int))))), (decide (((p0.fMag.length : Nat) : Int) ≤ (8 : Int))) = true, (decide (((p0.fMag.length : Nat) : Int) ≤ (8 : Int))) = true, (decide (((p0.fMag.length : Nat) : Int) ≤ (8 : Int))) = true, (decide (((p0.fMag.length : Nat) : Int) > (0 : Int))) = true, (decide (((p0.fMag.length : Nat) : Int) > (0 : Int))) = true, True, (decide (((p0.fMag.length : Nat) : Int) > (0 : Int))) = true, (decide (((p0.fMag.length : Nat) : Int) > (0 : Int))) = true, (decide (((p0.fMag.length : Nat) : Int) > (0 : Int))) = true, 0 ≤ IntKind.wrap .i64 (((p0.fMag.length : Nat) : Int) - (1 : Int)) ∧ IntKind.wrap .i64 (((p0.fMag.length : Nat) : Int) - (1 : Int)) < (((p0.fMag.map (rI .u32)).length : Nat) : Int), AV.Le (.v (.one (.fptr ((List.range 1).map fun j => ((p0.fMag.map (rI .u32)).getD (Int.toNat (IntKind.wrap .i64 (((p0.fMag.length : Nat) : Int) - (1 : Int)))) []).getD j .nils)))) (.v (.one (.fptr [.int .u32 x3]))), (decide (((p0.fMag.length : Nat) : Int) > (0 : Int))) = true, True, (decide (((p0.fMag.length : Nat) : Int) > (0 : Int))) = true, (decide (((p0.fMag.length : Nat) : Int) ≤ (8 : Int))) = true, (decide (((p0.fMag.length : Nat) : Int) > (0 : Int))) = true, (decide (((p0.fMag.length : Nat) : Int) ≤ (8 : Int))) = true, (x3 != (0 : Int)) = false, (x3 != (0 : Int)) = false, (x3 != (0 : Int)) = false, (((p0.fMag.length : Nat) : Int) == (0 : Int)) = true, (((p0.fMag.length : Nat) : Int) == (0 : Int)) = true, True, (((p0.fMag.length : Nat) : Int) == (0 : Int)) = true, (x3 != (0 : Int)) = false, (((p0.fMag.length : Nat) : Int) == (0 : Int)) = true, (decide (((p0.fMag.length : Nat) : Int) ≤ (8 : Int))) = true, (x3 != (0 : Int)) = false, (decide (((p0.fMag.length : Nat) : Int) ≤ (8 : Int))) = true])) (.cons (trivial) (.cons (len_le) (.cons ((b_true dec_iff hb1)) (.cons ((b_true dec_iff hb1)) (.cons ((b_true dec_iff hb1)) (.cons ((b_true dec_iff hb2)) (.cons ((b_true dec_iff hb2)) (.cons (trivial) (.cons ((b_true dec_iff hb2)) (.cons ((b_true dec_iff hb2)) (.cons ((b_true dec_iff hb2)) (.cons (row_bnd hx3) (.cons (fptr_row hx3 rfl) (.cons ((b_true dec_iff hb2)) (.cons (trivial) (.cons ((b_true dec_iff hb2)) (.cons ((b_true dec_iff hb1)) (.cons ((b_true dec_iff hb2)) (.cons ((b_true dec_iff hb1)) (.cons ((b_false bne_int hb4)) (.cons ((b_false bne_int hb4)) (.cons ((b_false bne_int hb4)) (.cons ((b_true beq_int hb5)) (.cons ((b_true beq_int hb5)) (.cons (trivial) (.cons ((b_true beq_int hb5)) (.cons ((b_false bne_int hb4)) (.cons ((b_true beq_int hb5)) (.cons ((b_true dec_iff hb1)) (.cons ((b_false bne_int hb4)) (.cons ((b_true dec_iff hb1)) (AllP.nil))))))))))))))))))))))))))))))))
        · injection h with h; subst h
          exact FSpec.of_run 317 _ Try.func62 (by kernel_rfl : runF Try.prog Try.f62 [.v (.agg [.dat (.bool p0.fNeg), .dat (.sl 1 (p0.fMag.map (rI .u32)))])] 317 [.reg [{}, {}], .reg [{}, {}, { cast := some (.v (.one (.d (.int .i64 ((p0.fMag.length : Nat) : Int))))) }, {}], .reg [{}, {}, {}, {}, {}, {}, {}, {}, {}, {}, { cast := some (.v (.one (.fptr [.int .u32 x3]))) }, {}, {}, { h := .pick true }, {}, {}, {}, {}, { want := false }, { want := false }, { want := false }, { h := .pick false }, { h := .pick false }, { h := .pick true }, {}]] = some ((num_May_fin false), [True, AV.Le (.v (.one (.d (.int .i64 (((p0.fMag.map (rI .u32)).length : Nat) : Int))))) (.v (.one (.d (.int .i64 ((p0.fMag.length : Nat) : Int))))), (decide (((p0.fMag.length : Nat) : Int) ≤ (8 : Int))) = true, (decide (((p0.fMag.length : Nat) : Int) ≤ (8 : Int))) = true, (decide (((p0.fMag.length : Nat) : Int) ≤ (8 : Int))) = true, (decide (((p0.fMag.length : Nat) : Int) > (0 : Int))) = true, (decide (((p0.fMag.length : Nat) : Int) > (0 : Int))) = true, True, (decide (((p0.fMag.length : Nat) : Int) > (0 : Int))) = true, (decide (((p0.fMag.length : Nat) : Int) > (0 : Int))) = true, (decide (((p0.fMag.length : Nat) : Int) > (0 : Int))) = true, 0 ≤ IntKind.wrap .i64 (((p0.fMag.length : Nat) : Int) - (1 : Int)) ∧ IntKind.wrap .i64 (((p0.fMag.length : Nat) : Int) - (1 : Int)) < (((p0.fMag.map (rI .u32)).length : Nat) : Int), AV.Le (.v (.one (.fptr ((List.range 1).map fun j => ((p0.fMag.map (rI .u32)).getD (Int.toNat (IntKind.wrap .i64 (((p0.fMag.length : Nat) : Int) - (1 : Int)))) []).getD j .nils)))) (.v (.one (.fptr [.int .u32 x3]))), (decide (((p0.fMag.length : Nat) : Int) > (0 : Int))) = true, True, (decide (((p0.fMag.length : Nat) : Int) > (0 : Int))) = true, (decide (((p0.fMag.length : Nat) : Int) ≤ (8 : Int))) = true, (decide (((p0.fMag.length : Nat) : Int) > (0 : Int))) = true, (decide (((p0.fMag.length : Nat) : Int) ≤ (8 : Int))) = true, (x3 != (0 : Int)) = false, (x3 != (0 : Int)) = false, (x3 != (0 : Int)) = false, (((p0.fMag.length : Nat) : Int) == (0 : Int)) = false, (((p0.fMag.length : Nat) : Int) == (0 : Int)) = false, (((p0.fMag.length : Nat) : Int) == (0 : Int)) = false, (x3 != (0 : Int)) = false, (((p0.fMag.length : Nat) : Int) == (0 : Int)) = false, (decide (((p0.fMag.length : Nat) : Int) ≤ (8 : Int))) = true, (x3 != (0 : Int)) = false, (decide (((p0.fMag.length : Nat) : Int) ≤ (8 : Int))) = true])) (.cons (trivial) (.cons (len_le) (.cons ((b_true dec_iff hb1)) (.cons ((b_true dec_iff hb1)) (.cons ((b_true dec_iff hb1)) (.cons ((b_true dec_iff hb2)) (.cons ((b_true dec_iff hb2)) (.cons (trivial) (.cons ((b_true dec_iff hb2)) (.cons ((b_true dec_iff hb2)) (.cons ((b_true dec_iff hb2)) (.cons (row_bnd hx3) (.cons (fptr_row hx3 rfl) (.cons ((b_true dec_iff hb2)) (.cons (trivial) (.cons ((b_true dec_iff hb2)) (.cons ((b_true dec_iff hb1)) (.cons ((b_true dec_iff hb2)) (.cons ((b_true dec_iff hb1)) (.cons ((b_false bne_int hb4)) (.cons ((b_false bne_int hb4)) (.cons ((b_false bne_int hb4)) (.cons ((b_false beq_int hb5)) (.cons ((b_false beq_int hb5)) (.cons ((b_false beq_int hb5)) (.cons ((b_false bne_int hb4)) (.cons ((b_false beq_int hb5)) (.cons ((b_true dec_iff hb1)) (.cons ((b_false bne_int hb4)) (.cons ((b_true dec_iff hb1)) (AllP.nil)))))))))))))))))))))))))))))))
    · rcases ite_part h with ⟨hb6, h⟩ | ⟨hb6, h⟩
      · injection h with h; subst h
        exact FSpec.of_run 317 _ Try.func62 (by kernel_rfl : runF Try.prog Try.f62 [.v (.agg [.dat (.bool p0.fNeg), .dat (.sl 1 (p0.fMag.map (rI .u32)))])] 317 [.reg [{}, {}], .reg [{}, {}, { cast := some (.v (.one (.d (.int .i64 ((p0.fMag.length : Nat) : Int))))) }, {}], .reg [{}, {}, {}, {}, {}, {}, { want := false }, { want := false }, { want := false }, { want := false }, { want := false }, { want := false }, { want := false }, { h := .pick false }, {}, {}, {}, {}, {}, {}, {}, { h := .pick true }, { h := .pick false }, { h := .pick true }, {}]] = some ((num_May_fin (!p0.fNeg)), [True, AV.Le (.v (.one (.d (.int .i64 (((p0.fMag.map (rI .u32)).length : Nat) : Int))))) (.v (.one (.d (.int .i64 ((p0.fMag.length : Nat) : Int))))), (decide (((p0.fMag.length : Nat) : Int) ≤ (8 : Int))) = true, (decide (((p0.fMag.length : Nat) : Int) ≤ (8 : Int))) = true, (decide (((p0.fMag.length : Nat) : Int) ≤ (8 : Int))) = true, (decide (((p0.fMag.length : Nat) : Int) > (0 : Int))) = false, (decide (((p0.fMag.length : Nat) : Int) > (0 : Int))) = false, (decide (((p0.fMag.length : Nat) : Int) > (0 : Int))) = false, (decide (((p0.fMag.length : Nat) : Int) > (0 : Int))) = false, (decide (((p0.fMag.length : Nat) : Int) > (0 : Int))) = false, (decide (((p0.fMag.length : Nat) : Int) > (0 : Int))) = false, (decide (((p0.fMag.length : Nat) : Int) > (0 : Int))) = false, (decide (((p0.fMag.length : Nat) : Int) ≤ (8 : Int))) = true, (decide (((p0.fMag.length : Nat) : Int) > (0 : Int))) = false, (decide (((p0.fMag.length : Nat) : Int) ≤ (8 : Int))) = true, false = false, false = false, false = false, (((p0.fMag.length : Nat) : Int) == (0 : Int)) = true, (((p0.fMag.length : Nat) : Int) == (0 : Int)) = true, True, (((p0.fMag.length : Nat) : Int) == (0 : Int)) = true, false = false, (((p0.fMag.length : Nat) : Int) == (0 : Int)) = true, (decide (((p0.fMag.length : Nat) : Int) ≤ (8 : Int))) = true, false = false, (decide (((p0.fMag.length : Nat) : Int) ≤ (8 : Int))) = true])) (.cons (trivial) (.cons (len_le) (.cons ((b_true dec_iff hb1)) (.cons ((b_true dec_iff hb1)) (.cons ((b_true dec_iff hb1)) (.cons ((b_false dec_iff hb2)) (.cons ((b_false dec_iff hb2)) (.cons ((b_false dec_iff hb2)) (.cons ((b_false dec_iff hb2)) (.cons ((b_false dec_iff hb2)) (.cons ((b_false dec_iff hb2)) (.cons ((b_false dec_iff hb2)) (.cons ((b_true dec_iff hb1)) (.cons ((b_false dec_iff hb2)) (.cons ((b_true dec_iff hb1)) (.cons (rfl) (.cons (rfl) (.cons (rfl) (.cons ((b_true beq_int hb6)) (.cons ((b_true beq_int hb6)) (.cons (trivial) (.cons ((b_true beq_int hb6)) (.cons (rfl) (.cons ((b_true beq_int hb6)) (.cons ((b_true dec_iff hb1)) (.cons (rfl) (.cons ((b_true dec_iff hb1)) (AllP.nil))))))))))))))))))))))))))))
      · injection h with h; subst h
        exact FSpec.of_run 317 _ Try.func62 (by kernel_rfl : runF Try.prog Try.f62 [.v (.agg [.dat (.bool p0.fNeg), .dat (.sl 1 (p0.fMag.map (rI .u32)))])] 317 [.reg [{}, {}], .reg [{}, {}, { cast := some (.v (.one (.d (.int .i64 ((p0.fMag.length : Nat) : Int))))) }, {}], .reg [{}, {}, {}, {}, {}, {}, { want := false }, { want := false }, { want := false }, { want := false }, { want := false }, { want := false }, { want := false }, { h := .pick false }, {}, {}, {}, {}, { want := false }, { want := false }, { want := false }, { h := .pick false }, { h := .pick false }, { h := .pick true }, {}]] = some ((num_May_fin false), [True, AV.Le (.v (.one (.d (.int .i64 (((p0.fMag.map (rI .u32)).length : Nat) : Int))))) (.v (.one (.d (.int .i64 ((p0.fMag.length : Nat) : Int))))), (decide (((p0.fMag.length : Nat) : Int) ≤ (8 : Int))) = true, (decide (((p0.fMag.length : Nat) : Int) ≤ (8 : Int))) = true, (decide (((p0.fMag.length : Nat) : Int) ≤ (8 : Int))) = true, (decide (((p0.fMag.length : Nat) : Int) > (0 : Int))) = false, (decide (((p0.fMag.length : Nat) : Int) > (0 : Int))) = false, (decide (((p0.fMag.length : Nat) : Int) > (0 : Int))) = false, (decide (((p0.fMag.length : Nat) : Int) > (0 : Int))) = false, (decide (((p0.fMag.length : Nat) : Int) > (0 : Int))) = false, (decide (((p0.fMag.length : Nat) : Int) > (0 : Int))) = false, (decide (((p0.fMag.length : Nat) : Int) > (0 : Int))) = false, (decide (((p0.fMag.length : Nat) : Int) ≤ (8 : Int))) = true, (decide (((p0.fMag.length : Nat) : Int) > (0 : Int))) = false, (decide (((p0.fMag.length : Nat) : Int) ≤ (8 : Int))) = true, false = false, false = false, false = false, (((p0.fMag.length : Nat) : Int) == (0 : Int)) = false, (((p0.fMag.length : Nat) : Int) == (0 : Int)) = false, (((p0.fMag.length : Nat) : Int) == (0 : Int)) = false, false = false, (((p0.fMag.length : Nat) : Int) == (0 : Int)) = false, (decide (((p0.fMag.length : Nat) : Int) ≤ (8 : Int))) = true, false = false, (decide (((p0.fMag.length : Nat) : Int) ≤ (8 : Int))) = true])) (.cons (trivial) (.cons (len_le) (.cons ((b_true dec_iff hb1)) (.cons ((b_true dec_iff hb1)) (.cons ((b_true dec_iff hb1)) (.cons ((b_false dec_iff hb2)) (.cons ((b_false dec_iff hb2)) (.cons ((b_false dec_iff hb2)) (.cons ((b_false dec_iff hb2)) (.cons ((b_false dec_iff hb2)) (.cons ((b_false dec_iff hb2)) (.cons ((b_false dec_iff hb2)) (.cons ((b_true dec_iff hb1)) (.cons ((b_false dec_iff hb2)) (.cons ((b_true dec_iff hb1)) (.cons (rfl) (.cons (rfl) (.cons (rfl) (.cons ((b_false beq_int hb6)) (.cons ((b_false beq_int hb6)) (.cons ((b_false beq_int hb6)) (.cons (rfl) (.cons ((b_false beq_int hb6)) (.cons ((b_true dec_iff hb1)) (.cons (rfl) (.cons ((b_true dec_iff hb1)) (AllP.nil)))))))))))))))))))))))))))
  · injection h with h; subst h
    exact FSpec.of_run 317 _ Try.func62 (by kernel_rfl : runF Try.prog Try.f62 [.v (.agg [.dat (.bool p0.fNeg), .dat (.sl 1 (p0.fMag.map (rI .u32)))])] 317 [.reg [{}, {}], .reg [{}, {}, { cast := some (.v (.one (.d (.int .i64 ((p0.fMag.length : Nat) : Int))))) }, {}], .reg [{}, {}, {}, { want := false }, { want := false }, { want := false }, { want := false }, { want := false }, { want := false }, { want := false }, { want := false }, { want := false }, { want := false }, { want := false }, { want := false }, { want := false }, { want := false }, { want := false }, { want := false }, { want := false }, { want := false }, { want := false }, { want := false }, { h := .pick false }, {}]] = some ((num_May_fin false), [True, AV.Le (.v (.one (.d (.int .i64 (((p0.fMag.map (rI .u32)).length : Nat) : Int))))) (.v (.one (.d (.int .i64 ((p0.fMag.length : Nat) : Int))))), (decide (((p0.fMag.length : Nat) : Int) ≤ (8 : Int))) = false, (decide (((p0.fMag.length : Nat) : Int) ≤ (8 : Int))) = false, (decide (((p0.fMag.length : Nat) : Int) ≤ (8 : Int))) = false, (decide (((p0.fMag.length : Nat) : Int) ≤ (8 : Int))) = false, (decide (((p0.fMag.length : Nat) : Int) ≤ (8 : Int))) = false, (decide (((p0.fMag.length : Nat) : Int) ≤ (8 : Int))) = false, (decide (((p0.fMag.length : Nat) : Int) ≤ (8 : Int))) = false])) (.cons (trivial) (.cons (len_le) (.cons ((b_false dec_iff hb1)) (.cons ((b_false dec_iff hb1)) (.cons ((b_false dec_iff hb1)) (.cons ((b_false dec_iff hb1)) (.cons ((b_false dec_iff hb1)) (.cons ((b_false dec_iff hb1)) (.cons ((b_false dec_iff hb1)) (AllP.nil))))))))))
def num_Small_B0_H (p0 : Tapi_Num) : St := { fr := ([.bad, (.v (.one (.ptr 1 0)))] ++ bads 50), obs := [(1, .var [.d (.bool p0.fNeg), .d (.sl 1 (p0.fMag.map (rI .u32)))])] }
def num_Small_B0_S0 (p0 : Tapi_Num) (o : Unit) : St := { fr := ([.bad, (.v (.one (.ptr 1 0)))] ++ bads 50), obs := [(1, .var [.d (.bool p0.fNeg), .d (.sl 1 (p0.fMag.map (rI .u32)))])] }
def num_Small_B0_S1 (p0 : Tapi_Num) (o : Unit) : St := { fr := ([.bad, .bad, (.v (.one (.d (.int .i64 (0 : Int))))), (.v (.one (.d (.bool false))))] ++ bads 48), obs := [] }
def num_Small_B0 : Nat → Tapi_Num → Option ((Unit) ⊕ (Unit))
  | 0, _ => none
  | N + 1, p0 => (num_May N p0).bind fun r1 => if ¬ (r1 = true) then some (.inr ()) else if ((p0.fMag.length : Nat) : Int) > (2 : Int) then some (.inr ()) else some (.inl ())
theorem num_Small_B0_spec : ∀ (N : Nat) (p0 : Tapi_Num) (r : ((Unit) ⊕ (Unit))), num_Small_B0 N p0 = some r → match r with | .inl o => CodeTo Try.prog 518 (partOf Try.f63 [1, 0]) (num_Small_B0_H p0 ) .normal (num_Small_B0_S0 p0 o) | .inr o => CodeTo Try.prog 518 (partOf Try.f63 [1, 0]) (num_Small_B0_H p0 ) .ret (num_Small_B0_S1 p0 o) := by
  intro N
  induction N with
  | zero => intro p0 r h; cases h
  | succ N ih =>
    intro p0 r h
    rw [num_Small_B0] at h
    obtain ⟨r1, hr1, h⟩ := bind_some h
    rcases ite_part h with ⟨hb2, h⟩ | ⟨hb2, h⟩
    · injection h with h; subst h
      exact CodeTo.of_run _ (by kernel_rfl : runTo Try.prog 518 (partOf Try.f63 [1, 0]) [.reg [{}, { h := .pcall [.v (.one (.dat (.bool r1)))] }, {}, {}, { want := false }, { want := false }, { want := false }, { want := false }, { h := .pick true }], .br true, .reg [{}, {}], .adj [.keep [2, 3] []]] (num_Small_B0_H p0 ) = some (.ret, (num_Small_B0_S1 p0 ()), [True, FSpec Try.prog 62 [.v (.agg [.dat (.bool p0.fNeg), .dat (.sl 1 (p0.fMag.map (rI .u32)))])] [.v (.one (.dat (.bool r1)))], (!r1) = true, (!r1) = true, (!r1) = true, (!r1) = true, (!r1) = true, true = true])) (.cons (trivial) (.cons ((num_May_spec N p0 r1 hr1)) (.cons ((b_true (not_iff var_iff) hb2)) (.cons ((b_true (not_iff var_iff) hb2)) (.cons ((b_true (not_iff var_iff) hb2)) (.cons ((b_true (not_iff var_iff) hb2)) (.cons ((b_true (not_iff var_iff) hb2)) (.cons (rfl) (AllP.nil)))))))))
    · rcases ite_part h with ⟨hb3, h⟩ | ⟨hb3, h⟩
      · injection h with h; subst h
        exact CodeTo.of_run _ (by kernel_rfl : runTo Try.prog 518 (partOf Try.f63 [1, 0]) [.reg [{}, { h := .pcall [.v (.one (.dat (.bool r1)))] }, {}, {}, {}, {}, { cast := some (.v (.one (.d (.int .i64 ((p0.fMag.length : Nat) : Int))))) }, {}, { h := .pick false }], .br true, .reg [{}, {}], .adj [.keep [2, 3] []]] (num_Small_B0_H p0 ) = some (.ret, (num_Small_B0_S1 p0 ()), [True, FSpec Try.prog 62 [.v (.agg [.dat (.bool p0.fNeg), .dat (.sl 1 (p0.fMag.map (rI .u32)))])] [.v (.one (.dat (.bool r1)))], (!r1) = false, (!r1) = false, True, (!r1) = false, AV.Le (.v (.one (.d (.int .i64 (((p0.fMag.map (rI .u32)).length : Nat) : Int))))) (.v (.one (.d (.int .i64 ((p0.fMag.length : Nat) : Int))))), (!r1) = false, (!r1) = false, (decide (((p0.fMag.length : Nat) : Int) > (2 : Int))) = true])) (.cons (trivial) (.cons ((num_May_spec N p0 r1 hr1)) (.cons ((b_false (not_iff var_iff) hb2)) (.cons ((b_false (not_iff var_iff) hb2)) (.cons (trivial) (.cons ((b_false (not_iff var_iff) hb2)) (.cons (len_le) (.cons ((b_false (not_iff var_iff) hb2)) (.cons ((b_false (not_iff var_iff) hb2)) (.cons ((b_true dec_iff hb3)) (AllP.nil)))))))))))
      · injection h with h; subst h
        exact CodeTo.of_run _ (by kernel_rfl : runTo Try.prog 518 (partOf Try.f63 [1, 0]) [.reg [{}, { h := .pcall [.v (.one (.dat (.bool r1)))] }, {}, {}, {}, {}, { cast := some (.v (.one (.d (.int .i64 ((p0.fMag.length : Nat) : Int))))) }, {}, { h := .pick false }], .br false, .adj [.keep [1] [1]]] (num_Small_B0_H p0 ) = some (.normal, (num_Small_B0_S0 p0 ()), [True, FSpec Try.prog 62 [.v (.agg [.dat (.bool p0.fNeg), .dat (.sl 1 (p0.fMag.map (rI .u32)))])] [.v (.one (.dat (.bool r1)))], (!r1) = false, (!r1) = false, True, (!r1) = false, AV.Le (.v (.one (.d (.int .i64 (((p0.fMag.map (rI .u32)).length : Nat) : Int))))) (.v (.one (.d (.int .i64 ((p0.fMag.length : Nat) : Int))))), (!r1) = false, (!r1) = false, (decide (((p0.fMag.length : Nat) : Int) > (2 : Int))) = false])) (.cons (trivial) (.cons ((num_May_spec N p0 r1 hr1)) (.cons ((b_false (not_iff var_iff) hb2)) (.cons ((b_false (not_iff var_iff) hb2)) (.cons (trivial) (.cons ((b_false (not_iff var_iff) hb2)) (.cons (len_le) (.cons ((b_false (not_iff var_iff) hb2)) (.cons ((b_false (not_iff var_iff) hb2)) (.cons ((b_false dec_iff hb3)) (AllP.nil)))))))))))
def num_Small_L1_H (p0 : Tapi_Num) (v19 : Int) (v4 : Int) : St := { fr := ([.bad, (.v (.one (.ptr 1 0))), .bad, .bad, (.v (.one (.d (.int .u64 v4))))] ++ bads 12 ++ [(.v (.one (.d (.sl 1 (p0.fMag.map (rI .u32)))))), (.v (.one (.d (.int .i64 ((p0.fMag.length : Nat) : Int))))), (.v (.one (.d (.int .i64 v19))))] ++ bads 32), obs := [(1, .var [.d (.bool p0.fNeg), .d (.sl 1 (p0.fMag.map (rI .u32)))])] }
def num_Small_L1_S0 (p0 : Tapi_Num) (o : Int) : St := { fr := ([.bad, (.v (.one (.ptr 1 0))), .bad, .bad, (.v (.one (.d (.int .u64 o))))] ++ bads 47), obs := [(1, .var [.d (.bool p0.fNeg), .d (.sl 1 (p0.fMag.map (rI .u32)))])] }
def num_Small_L1 : Nat → Tapi_Num → Int → Int → Option (Int)
  | 0, _, _, _ => none
  | N + 1, p0, v19, v4 => if v19 < ((p0.fMag.length : Nat) : Int) then (idx p0.fMag v19).bind fun x8 => (shl .u64 (IntKind.wrap .u64 x8) (IntKind.wrap .i64 ((32 : Int) * v19))).bind fun x9 => num_Small_L1 N p0 (IntKind.wrap .i64 (v19 + (1 : Int))) (bor .u64 v4 x9) else some v4
theorem num_Small_L1_spec : ∀ (N : Nat) (p0 : Tapi_Num) (v19 : Int) (v4 : Int) (r : (Int)), num_Small_L1 N p0 v19 v4 = some r → LoopTo Try.prog 518 (partOf Try.f63 [1, 1, 1, 0, 1, 0, 0]) (num_Small_L1_H p0 v19 v4) (.exit 0) (num_Small_L1_S0 p0 r) := by
  intro N
  induction N with
  | zero => intro p0 v19 v4 r h; cases h
  | succ N ih =>
    intro p0 v19 v4 r h
    rw [num_Small_L1] at h
    rcases ite_part h with ⟨hb7, h⟩ | ⟨hb7, h⟩
    · obtain ⟨x8, hx8, h⟩ := bind_some h
      obtain ⟨x9, hx9, h⟩ := bind_some h
      exact LoopTo.again (CodeTo.of_run _ (by kernel_rfl : runTo Try.prog 518 (partOf Try.f63 [1, 1, 1, 0, 1, 0, 0]) [.reg [{}], .br true, .reg [{}, { cast := some (.v (.one (.fptr [.int .u32 x8]))) }, {}, {}, {}], .reg [{}, {}, {}, {}, {}, { h := .flat (.int .u64 x9) }, {}, {}], .reg [{}, {}], .adj [.keep [1, 4, 17, 18, 19] [1]]] (num_Small_L1_H p0 v19 v4) = some (.normal, (num_Small_L1_H p0 (IntKind.wrap .i64 (v19 + (1 : Int))) (bor .u64 v4 x9)), [(decide (v19 < ((p0.fMag.length : Nat) : Int))) = true, 0 ≤ v19 ∧ v19 < (((p0.fMag.map (rI .u32)).length : Nat) : Int), AV.Le (.v (.one (.fptr ((List.range 1).map fun j => ((p0.fMag.map (rI .u32)).getD (Int.toNat v19) []).getD j .nils)))) (.v (.one (.fptr [.int .u32 x8]))), True, pureOf Try.prog (do eqGuard .shl 28 (.tmp 26) (.tmp 28) (.int .u64 (IntKind.wrap .u64 x8)) (.int .i64 (IntKind.wrap .i64 ((32 : Int) * v19))); binOp .shl 28 (.int .u64 (IntKind.wrap .u64 x8)) (.int .i64 (IntKind.wrap .i64 ((32 : Int) * v19))) : Sem Value) = some (.int .u64 x9)])) (.cons ((b_true dec_iff hb7)) (.cons (row_bnd hx8) (.cons (fptr_row hx8 rfl) (.cons (trivial) (.cons (shl_told hx9) (AllP.nil))))))) (ih p0 (IntKind.wrap .i64 (v19 + (1 : Int))) (bor .u64 v4 x9) _ h)
    · injection h with h; subst h
      exact LoopTo.out (CodeTo.of_run _ (by kernel_rfl : runTo Try.prog 518 (partOf Try.f63 [1, 1, 1, 0, 1, 0, 0]) [.reg [{}], .br false, .adj [.keep [1, 4] [1]]] (num_Small_L1_H p0 v19 v4) = some ((.exit 0), (num_Small_L1_S0 p0 v4), [(decide (v19 < ((p0.fMag.length : Nat) : Int))) = false])) (.cons ((b_false dec_iff hb7)) (AllP.nil))) (by simp)
def num_Small_B2_H (p0 : Tapi_Num) (r10 : (Int)) : St := { fr := ([.bad, (.v (.one (.ptr 1 0))), .bad, .bad, (.v (.one (.d (.int .u64 r10))))] ++ bads 47), obs := [(1, .var [.d (.bool p0.fNeg), .d (.sl 1 (p0.fMag.map (rI .u32)))])] }
def num_Small_B2_S0 (p0 : Tapi_Num) (r10 : (Int)) (o : Bool) : St := { fr := ([.bad, (.v (.one (.ptr 1 0))), .bad, .bad, (.v (.one (.d (.int .u64 r10))))] ++ bads 27 ++ [(.v (.one (.d (.bool o))))] ++ bads 19), obs := [(1, .var [.d (.bool p0.fNeg), .d (.sl 1 (p0.fMag.map (rI .u32)))])] }
def num_Small_B2 : Nat → Tapi_Num → (Int) → Option (Bool)
  | 0, _, _ => none
  | N + 1, p0, r10 => if ¬ (p0.fNeg = true) then some (decide (r10 ≤ (1152921504606846975 : Int))) else some false
theorem num_Small_B2_spec : ∀ (N : Nat) (p0 : Tapi_Num) (r10 : (Int)) (r : (Bool)), num_Small_B2 N p0 r10 = some r → CodeTo Try.prog 518 (partOf Try.f63 [1, 1, 1, 1, 0, 0, 0]) (num_Small_B2_H p0 r10 ) .normal (num_Small_B2_S0 p0 r10 r) := by
  intro N
  induction N with
  | zero => intro p0 r10 r h; cases h
  | succ N ih =>
    intro p0 r10 r h
    rw [num_Small_B2] at h
    rcases ite_part h with ⟨hb11, h⟩ | ⟨hb11, h⟩
    · injection h with h; subst h
      exact CodeTo.of_run _ (by kernel_rfl : runTo Try.prog 518 (partOf Try.f63 [1, 1, 1, 1, 0, 0, 0]) [.reg [{}, {}, {}, {}, {}, {}, { h := .pick true }, {}], .adj [.keep [1, 4, 32] [1]]] (num_Small_B2_H p0 r10 ) = some (.normal, (num_Small_B2_S0 p0 r10 (decide (r10 ≤ (1152921504606846975 : Int)))), [True, (!p0.fNeg) = true, (!p0.fNeg) = true, (!p0.fNeg) = true])) (.cons (trivial) (.cons ((b_true (not_iff var_iff) hb11)) (.cons ((b_true (not_iff var_iff) hb11)) (.cons ((b_true (not_iff var_iff) hb11)) (AllP.nil)))))
    · injection h with h; subst h
      exact CodeTo.of_run _ (by kernel_rfl : runTo Try.prog 518 (partOf Try.f63 [1, 1, 1, 1, 0, 0, 0]) [.reg [{}, {}, {}, {}, { want := false }, { want := false }, { h := .pick false }, {}], .adj [.keep [1, 4, 32] [1]]] (num_Small_B2_H p0 r10 ) = some (.normal, (num_Small_B2_S0 p0 r10 false), [True, (!p0.fNeg) = false, (!p0.fNeg) = false, (!p0.fNeg) = false])) (.cons (trivial) (.cons ((b_false (not_iff var_iff) hb11)) (.cons ((b_false (not_iff var_iff) hb11)) (.cons ((b_false (not_iff var_iff) hb11)) (AllP.nil)))))
def num_Small_fin (r : (Int × Bool)) : List PV := [.v (.one (.dat (.int .i64 r.1))), .v (.one (.dat (.bool r.2)))]
def num_Small (N : Nat) (p0 : Tapi_Num) : Option (Int × Bool) := (num_Small_B0 N p0).bind fun r4 => (match r4 with | .inl r5 => (num_Small_L1 N p0 (0 : Int) (0 : Int)).bind fun r10 => (num_Small_B2 N p0 r10).bind fun r12 => if r12 = true then some (IntKind.wrap .i64 r10, true) else if p0.fNeg = true then if r10 ≤ (1152921504606846976 : Int) then some (IntKind.wrap .i64 (0 - IntKind.wrap .i64 r10), true) else some ((0 : Int), false) else some ((0 : Int), false) | .inr r6 => some ((0 : Int), false))
theorem num_Small_spec (N : Nat) (p0 : Tapi_Num) (r : (Int × Bool)) (h : num_Small N p0 = some r) : FSpec Try.prog 63 [.v (.agg [.dat (.bool p0.fNeg), .dat (.sl 1 (p0.fMag.map (rI .u32)))])] (num_Small_fin r) := by
  unfold num_Small at h
  obtain ⟨r4, hr4, h⟩ := bind_some h
  rcases r4 with r5 | r6
  · obtain ⟨r10, hr10, h⟩ := bind_some h
    obtain ⟨r12, hr12, h⟩ := bind_some h
    rcases ite_part h with ⟨hb13, h⟩ | ⟨hb13, h⟩
    · injection h with h; subst h
      exact FSpec.of_run 518 _ Try.func63 (by kernel_rfl : runF Try.prog Try.f63 [.v (.agg [.dat (.bool p0.fNeg), .dat (.sl 1 (p0.fMag.map (rI .u32)))])] 518 [.reg [{}, {}, {}], .deep 1 [.keep [1] [1]] .normal (num_Small_B0_S0 p0 r5), .reg [{}], .reg [{}, {}, { cast := some (.v (.one (.d (.int .i64 ((p0.fMag.length : Nat) : Int))))) }, {}], .adj [.keep [1, 4, 17, 18, 19] [1]], .cut (.exit 0) (num_Small_L1_S0 p0 r10), .adj [.keep [1, 4] [1]], .cut .normal (num_Small_B2_S0 p0 r10 r12), .br true, .reg [{}, {}, {}, {}]] = some ((num_Small_fin (IntKind.wrap .i64 r10, true)), [CodeTo Try.prog 518 (partOf Try.f63 [1, 0]) (num_Small_B0_H p0) .normal (num_Small_B0_S0 p0 r5), True, AV.Le (.v (.one (.d (.int .i64 (((p0.fMag.map (rI .u32)).length : Nat) : Int))))) (.v (.one (.d (.int .i64 ((p0.fMag.length : Nat) : Int))))), CodeTo Try.prog 518 (partOf Try.f63 [1, 1, 1, 0, 1, 0]) (num_Small_L1_H p0 (0 : Int) (0 : Int)) (.exit 0) (num_Small_L1_S0 p0 r10), CodeTo Try.prog 518 (partOf Try.f63 [1, 1, 1, 1, 0, 0, 0]) (num_Small_B2_H p0 r10) .normal (num_Small_B2_S0 p0 r10 r12), r12 = true])) (.cons (num_Small_B0_spec N p0 (.inl r5) hr4) (.cons (trivial) (.cons (len_le) (.cons (CodeTo.of_loop (num_Small_L1_spec N p0 (0 : Int) (0 : Int) r10 hr10)) (.cons (num_Small_B2_spec N p0 r10 r12 hr12) (.cons ((b_true var_iff hb13)) (AllP.nil)))))))
    · rcases ite_part h with ⟨hb14, h⟩ | ⟨hb14, h⟩
      · rcases ite_part h with ⟨hb15, h⟩ | ⟨hb15, h⟩
        · injection h with h; subst h
          exact FSpec.of_run 518 _ Try.func63 (by kernel_rfl : runF Try.prog Try.f63 [.v (.agg [.dat (.bool p0.fNeg), .dat (.sl 1 (p0.fMag.map (rI .u32)))])] 518 [.reg [{}, {}, {}], .deep 1 [.keep [1] [1]] .normal (num_Small_B0_S0 p0 r5), .reg [{}], .reg [{}, {}, { cast := some (.v (.one (.d (.int .i64 ((p0.fMag.length : Nat) : Int))))) }, {}], .adj [.keep [1, 4, 17, 18, 19] [1]], .cut (.exit 0) (num_Small_L1_S0 p0 r10), .adj [.keep [1, 4] [1]], .cut .normal (num_Small_B2_S0 p0 r10 r12), .br false, .reg [{}, {}, {}, {}, {}, { h := .pick true }, {}], .br true, .reg [{}, {}, {}, {}, {}]] = some ((num_Small_fin (IntKind.wrap .i64 (0 - IntKind.wrap .i64 r10), true)), [CodeTo Try.prog 518 (partOf Try.f63 [1, 0]) (num_Small_B0_H p0) .normal (num_Small_B0_S0 p0 r5), True, AV.Le (.v (.one (.d (.int .i64 (((p0.fMag.map (rI .u32)).length : Nat) : Int))))) (.v (.one (.d (.int .i64 ((p0.fMag.length : Nat) : Int))))), CodeTo Try.prog 518 (partOf Try.f63 [1, 1, 1, 0, 1, 0]) (num_Small_L1_H p0 (0 : Int) (0 : Int)) (.exit 0) (num_Small_L1_S0 p0 r10), CodeTo Try.prog 518 (partOf Try.f63 [1, 1, 1, 1, 0, 0, 0]) (num_Small_B2_H p0 r10) .normal (num_Small_B2_S0 p0 r10 r12), r12 = false, True, p0.fNeg = true, p0.fNeg = true, p0.fNeg = true, (decide (r10 ≤ (1152921504606846976 : Int))) = true])) (.cons (num_Small_B0_spec N p0 (.inl r5) hr4) (.cons (trivial) (.cons (len_le) (.cons (CodeTo.of_loop (num_Small_L1_spec N p0 (0 : Int) (0 : Int) r10 hr10)) (.cons (num_Small_B2_spec N p0 r10 r12 hr12) (.cons ((b_false var_iff hb13)) (.cons (trivial) (.cons ((b_true var_iff hb14)) (.cons ((b_true var_iff hb14)) (.cons ((b_true var_iff hb14)) (.cons ((b_true dec_iff hb15)) (AllP.nil))))))))))))
        · injection h with h; subst h
          exact FSpec.of_run 518 _ Try.func63 (by kernel_rfl : runF Try.prog Try.f63 [.v (.agg [.dat (.bool p0.fNeg), .dat (.sl 1 (p0.fMag.map (rI .u32)))])] 518 [.reg [{}, {}, {}], .deep 1 [.keep [1] [1]] .normal (num_Small_B0_S0 p0 r5), .reg [{}], .reg [{}, {}, { cast := some (.v (.one (.d (.int .i64 ((p0.fMag.length : Nat) : Int))))) }, {}], .adj [.keep [1, 4, 17, 18, 19] [1]], .cut (.exit 0) (num_Small_L1_S0 p0 r10), .adj [.keep [1, 4] [1]], .cut .normal (num_Small_B2_S0 p0 r10 r12), .br false, .reg [{}, {}, {}, {}, {}, { h := .pick true }, {}], .br false, .reg [{}, {}]] = some ((num_Small_fin ((0 : Int), false)), [CodeTo Try.prog 518 (partOf Try.f63 [1, 0]) (num_Small_B0_H p0) .normal (num_Small_B0_S0 p0 r5), True, AV.Le (.v (.one (.d (.int .i64 (((p0.fMag.map (rI .u32)).length : Nat) : Int))))) (.v (.one (.d (.int .i64 ((p0.fMag.length : Nat) : Int))))), CodeTo Try.prog 518 (partOf Try.f63 [1, 1, 1, 0, 1, 0]) (num_Small_L1_H p0 (0 : Int) (0 : Int)) (.exit 0) (num_Small_L1_S0 p0 r10), CodeTo Try.prog 518 (partOf Try.f63 [1, 1, 1, 1, 0, 0, 0]) (num_Small_B2_H p0 r10) .normal (num_Small_B2_S0 p0 r10 r12), r12 = false, True, p0.fNeg = true, p0.fNeg = true, p0.fNeg = true, (decide (r10 ≤ (1152921504606846976 : Int))) = false])) (.cons (num_Small_B0_spec N p0 (.inl r5) hr4) (.cons (trivial) (.cons (len_le) (.cons (CodeTo.of_loop (num_Small_L1_spec N p0 (0 : Int) (0 : Int) r10 hr10)) (.cons (num_Small_B2_spec N p0 r10 r12 hr12) (.cons ((b_false var_iff hb13)) (.cons (trivial) (.cons ((b_true var_iff hb14)) (.cons ((b_true var_iff hb14)) (.cons ((b_true var_iff hb14)) (.cons ((b_false dec_iff hb15)) (AllP.nil))))))))))))
      · injection h with h; subst h
        exact FSpec.of_run 518 _ Try.func63 (by kernel_rfl : runF Try.prog Try.f63 [.v (.agg [.dat (.bool p0.fNeg), .dat (.sl 1 (p0.fMag.map (rI .u32)))])] 518 [.reg [{}, {}, {}], .deep 1 [.keep [1] [1]] .normal (num_Small_B0_S0 p0 r5), .reg [{}], .reg [{}, {}, { cast := some (.v (.one (.d (.int .i64 ((p0.fMag.length : Nat) : Int))))) }, {}], .adj [.keep [1, 4, 17, 18, 19] [1]], .cut (.exit 0) (num_Small_L1_S0 p0 r10), .adj [.keep [1, 4] [1]], .cut .normal (num_Small_B2_S0 p0 r10 r12), .br false, .reg [{}, {}, {}, { want := false }, { want := false }, { h := .pick false }, {}], .br false, .reg [{}, {}]] = some ((num_Small_fin ((0 : Int), false)), [CodeTo Try.prog 518 (partOf Try.f63 [1, 0]) (num_Small_B0_H p0) .normal (num_Small_B0_S0 p0 r5), True, AV.Le (.v (.one (.d (.int .i64 (((p0.fMag.map (rI .u32)).length : Nat) : Int))))) (.v (.one (.d (.int .i64 ((p0.fMag.length : Nat) : Int))))), CodeTo Try.prog 518 (partOf Try.f63 [1, 1, 1, 0, 1, 0]) (num_Small_L1_H p0 (0 : Int) (0 : Int)) (.exit 0) (num_Small_L1_S0 p0 r10), CodeTo Try.prog 518 (partOf Try.f63 [1, 1, 1, 1, 0, 0, 0]) (num_Small_B2_H p0 r10) .normal (num_Small_B2_S0 p0 r10 r12), r12 = false, True, p0.fNeg = false, p0.fNeg = false, p0.fNeg = false, false = false])) (.cons (num_Small_B0_spec N p0 (.inl r5) hr4) (.cons (trivial) (.cons (len_le) (.cons (CodeTo.of_loop (num_Small_L1_spec N p0 (0 : Int) (0 : Int) r10 hr10)) (.cons (num_Small_B2_spec N p0 r10 r12 hr12) (.cons ((b_false var_iff hb13)) (.cons (trivial) (.cons ((b_false var_iff hb14)) (.cons ((b_false var_iff hb14)) (.cons ((b_false var_iff hb14)) (.cons (rfl) (AllP.nil))))))))))))
  · injection h with h; subst h
    exact FSpec.of_run 518 _ Try.func63 (by kernel_rfl : runF Try.prog Try.f63 [.v (.agg [.dat (.bool p0.fNeg), .dat (.sl 1 (p0.fMag.map (rI .u32)))])] 518 [.reg [{}, {}, {}], .deep 1 [.keep [1] [1]] .ret (num_Small_B0_S1 p0 r6)] = some ((num_Small_fin ((0 : Int), false)), [CodeTo Try.prog 518 (partOf Try.f63 [1, 0]) (num_Small_B0_H p0) .ret (num_Small_B0_S1 p0 r6)])) (.cons (num_Small_B0_spec N p0 (.inr r6) hr4) (AllP.nil))
def slices_Clone_uint32_uint32_fin (r : (List Int)) : List PV := [.v (.one (.own 1 (r.map (rI .u32))))]
def slices_Clone_uint32_uint32 (N : Nat) : Option (List Int) := some ([] : List Int)
theorem slices_Clone_uint32_uint32_spec (N : Nat) (r : (List Int)) (h : slices_Clone_uint32_uint32 N = some r) : FSpec Try.prog 56 [.v (.one (.dat .nils))] (slices_Clone_uint32_uint32_fin r) := by
  unfold slices_Clone_uint32_uint32 at h
  injection h with h; subst h
  exact FSpec.of_run 156 _ Try.func56 (by kernel_rfl : runF Try.prog Try.f56 [.v (.one (.dat .nils))] 156 [.reg [{}], .reg [{}, {}], .br true, .reg [{}], .adj [.new 57 1 2]] = some ((slices_Clone_uint32_uint32_fin ([] : List Int)), [true = true, (([] : List Int).map (rI .u32)).length = (([] : List Int).map (rI .u32)).length])) (.cons (rfl) (.cons (rfl) (AllP.nil)))
def slices_Clone_uint32_uint32'_fin (r : (List Int)) : List PV := [.v (.one (.own 1 (r.map (rI .u32))))]
def slices_Clone_uint32_uint32' (N : Nat) : Option (List Int) := (app ([] : List Int) ([] : List Int)).bind fun x1 => some x1
theorem slices_Clone_uint32_uint32'_spec (N : Nat) (r : (List Int)) (h : slices_Clone_uint32_uint32' N = some r) : FSpec Try.prog 56 [.v (.one (.dat .sl0))] (slices_Clone_uint32_uint32'_fin r) := by
  unfold slices_Clone_uint32_uint32' at h
  obtain ⟨x1, hx1, h⟩ := bind_some h
  injection h with h; subst h
  exact FSpec.of_run 156 _ Try.func56 (by kernel_rfl : runF Try.prog Try.f56 [.v (.one (.dat .sl0))] 156 [.reg [{}], .reg [{}, {}], .br false, .reg [{ post := [.ob 5 (.arr 1 (([] : List Int).map (rI .u32)) false)] }, {}, { pre := [.slot 6 (.v (.one (.d (.sl 1 (([] : List Int).map (rI .u32))))))], cast := some (.v (.one (.vw 7 1 0 ((x1.map (rI .u32)).length)))), post := [.ob 7 (.arr 1 (x1.map (rI .u32)) true)] }, {}]] = some ((slices_Clone_uint32_uint32'_fin x1), [false = false, Ob.Le (.arr 1 [] false) (.arr 1 (([] : List Int).map (rI .u32)) false), AV.Le (.v (.one (.d .sl0))) (.v (.one (.d (.sl 1 (([] : List Int).map (rI .u32)))))), True, (([] : List Int).map (rI .u32)).length = (([] : List Int).map (rI .u32)).length, ((([] : List Int).map (rI .u32)).length + (([] : List Int).map (rI .u32)).length) * 4 ≤ 140737488355328, (([] : List Int).map (rI .u32)).length + (([] : List Int).map (rI .u32)).length ≤ 9223372036854775807, AV.Le (.v (.one (.vw 7 1 0 ((([] : List Int).map (rI .u32)).length + (([] : List Int).map (rI .u32)).length)))) (.v (.one (.vw 7 1 0 ((x1.map (rI .u32)).length)))), Ob.Le (.arr 1 ((([] : List Int).map (rI .u32)) ++ (([] : List Int).map (rI .u32))) true) (.arr 1 (x1.map (rI .u32)) true), (x1.map (rI .u32)).length = (x1.map (rI .u32)).length])) (.cons (rfl) (.cons (build_ob (by rfl)) (.cons (AV.Le.one (AC.Le.d (C.Le.sl0 1))) (.cons (trivial) (.cons (rfl) (.cons (app_b hx1 (by decide)) (.cons (app_m hx1) (.cons (app_n hx1) (.cons (app_ob hx1) (.cons (rfl) (AllP.nil)))))))))))
def slices_Clone_uint32_uint32''_fin (r : (List Int)) : List PV := [.v (.one (.own 1 (r.map (rI .u32))))]
def slices_Clone_uint32_uint32'' (N : Nat) (p0_h : Int) (p0_t : (List Int)) : Option (List Int) := (app ([] : List Int) (p0_h :: p0_t)).bind fun x1 => some x1
theorem slices_Clone_uint32_uint32''_spec (N : Nat) (p0_h : Int) (p0_t : (List Int)) (r : (List Int)) (h : slices_Clone_uint32_uint32'' N p0_h p0_t = some r) : FSpec Try.prog 56 [.v (.one (.dat (.sl 1 ((p0_h :: p0_t).map (rI .u32)))))] (slices_Clone_uint32_uint32''_fin r) := by
  unfold slices_Clone_uint32_uint32'' at h
  obtain ⟨x1, hx1, h⟩ := bind_some h
  injection h with h; subst h
  exact FSpec.of_run 156 _ Try.func56 (by kernel_rfl : runF Try.prog Try.f56 [.v (.one (.dat (.sl 1 ((p0_h :: p0_t).map (rI .u32)))))] 156 [.reg [{}], .reg [{}, {}], .br false, .reg [{ post := [.ob 5 (.arr 1 (([] : List Int).map (rI .u32)) false)] }, {}, { cast := some (.v (.one (.vw 7 1 0 ((x1.map (rI .u32)).length)))), post := [.ob 7 (.arr 1 (x1.map (rI .u32)) true)] }, {}]] = some ((slices_Clone_uint32_uint32''_fin x1), [false = false, Ob.Le (.arr 1 [] false) (.arr 1 (([] : List Int).map (rI .u32)) false), True, (([] : List Int).map (rI .u32)).length = (([] : List Int).map (rI .u32)).length, ((([] : List Int).map (rI .u32)).length + ((p0_h :: p0_t).map (rI .u32)).length) * 4 ≤ 140737488355328, (([] : List Int).map (rI .u32)).length + ((p0_h :: p0_t).map (rI .u32)).length ≤ 9223372036854775807, AV.Le (.v (.one (.vw 7 1 0 ((([] : List Int).map (rI .u32)).length + ((p0_h :: p0_t).map (rI .u32)).length)))) (.v (.one (.vw 7 1 0 ((x1.map (rI .u32)).length)))), Ob.Le (.arr 1 ((([] : List Int).map (rI .u32)) ++ ((p0_h :: p0_t).map (rI .u32))) true) (.arr 1 (x1.map (rI .u32)) true), (x1.map (rI .u32)).length = (x1.map (rI .u32)).length])) (.cons (rfl) (.cons (build_ob (by rfl)) (.cons (trivial) (.cons (rfl) (.cons (app_b hx1 (by decide)) (.cons (app_m hx1) (.cons (app_n hx1) (.cons (app_ob hx1) (.cons (rfl) (AllP.nil))))))))))
def slices_Clone_uint32_uint32_all (N : Nat) : List Int → Option (List Int)
  | [] => some []
  | x :: xs => slices_Clone_uint32_uint32'' N x xs
theorem slices_Clone_uint32_uint32_all_spec (N : Nat) (p0 : List Int) (r : List Int) (h : slices_Clone_uint32_uint32_all N p0 = some r) : FSpec Try.prog 56 [.v (.one (.dat (.sl 1 (p0.map (rI .u32)))))] (slices_Clone_uint32_uint32''_fin r) := by
  cases p0 with
  | nil =>
    injection h with h; subst h
    exact FSpec.split0 (slices_Clone_uint32_uint32_spec N [] rfl) (slices_Clone_uint32_uint32'_spec N [] rfl)
  | cons x xs => exact slices_Clone_uint32_uint32''_spec N x xs r h
def term_OfNum_fin (r : (Tapi_Term × Bool)) : List PV := [.v (.agg [.dat (.int .i64 r.1.fKind), .dat (.int .i64 r.1.fN), .dat (.bool r.1.fNum.fNeg), .own 1 (r.1.fNum.fMag.map (rI .u32)), .dat (.int .u64 r.1.fBits), .dat (.str r.1.fBytes), .dat .nils]), .v (.one (.dat (.bool r.2)))]
def term_OfNum (N : Nat) (p0 : Tapi_Num) : Option (Tapi_Term × Bool) := (num_May N p0).bind fun r1 => if ¬ (r1 = true) then some ((Tapi_Term.mk (0 : Int) (0 : Int) (Tapi_Num.mk false ([] : List Int)) (0 : Int) (ByteArray.mk #[]) []), false) else (num_Small N p0).bind fun r3 => if r3.2 = true then some ((Tapi_Term.mk (1 : Int) r3.1 (Tapi_Num.mk false ([] : List Int)) (0 : Int) (ByteArray.mk #[]) []), true) else (slices_Clone_uint32_uint32_all N p0.fMag).bind fun r5 => some ((Tapi_Term.mk (2 : Int) (0 : Int) (Tapi_Num.mk p0.fNeg r5) (0 : Int) (ByteArray.mk #[]) []), true)
theorem term_OfNum_spec (N : Nat) (p0 : Tapi_Num) (r : (Tapi_Term × Bool)) (h : term_OfNum N p0 = some r) : FSpec Try.prog 28 [.v (.agg [.dat (.bool p0.fNeg), .dat (.sl 1 (p0.fMag.map (rI .u32)))])] (term_OfNum_fin r) := by
  unfold term_OfNum at h
  obtain ⟨r1, hr1, h⟩ := bind_some h
  rcases ite_part h with ⟨hb2, h⟩ | ⟨hb2, h⟩
  · injection h with h; subst h
    exact FSpec.of_run 305 _ Try.func28 (by kernel_rfl : runF Try.prog Try.f28 [.v (.agg [.dat (.bool p0.fNeg), .dat (.sl 1 (p0.fMag.map (rI .u32)))])] 305 [.reg [{}, {}, {}], .reg [{}, { h := .pcall [.v (.one (.dat (.bool r1)))] }, {}], .br true, .reg [{}, {}, {}], .adj [.newc 206 1 2 3]] = some ((term_OfNum_fin ((Tapi_Term.mk (0 : Int) (0 : Int) (Tapi_Num.mk false ([] : List Int)) (0 : Int) (ByteArray.mk #[]) []), false)), [True, FSpec Try.prog 62 [.v (.agg [.dat (.bool p0.fNeg), .dat (.sl 1 (p0.fMag.map (rI .u32)))])] [.v (.one (.dat (.bool r1)))], (!r1) = true, True, True, (([] : List Int).map (rI .u32)).length = (([] : List Int).map (rI .u32)).length])) (.cons (trivial) (.cons ((num_May_spec N p0 r1 hr1)) (.cons ((b_true (not_iff var_iff) hb2)) (.cons (trivial) (.cons (trivial) (.cons (rfl) (AllP.nil)))))))
  · obtain ⟨r3, hr3, h⟩ := bind_some h
    rcases ite_part h with ⟨hb4, h⟩ | ⟨hb4, h⟩
    · injection h with h; subst h
      exact FSpec.of_run 305 _ Try.func28 (by kernel_rfl : runF Try.prog Try.f28 [.v (.agg [.dat (.bool p0.fNeg), .dat (.sl 1 (p0.fMag.map (rI .u32)))])] 305 [.reg [{}, {}, {}], .reg [{}, { h := .pcall [.v (.one (.dat (.bool r1)))] }, {}], .br false, .reg [{}, { h := .pcall [.v (.one (.dat (.int .i64 r3.1))), .v (.one (.dat (.bool r3.2)))] }, {}, {}, {}, {}, {}], .reg [{}], .br true, .reg [{}, {}, {}, {}], .adj [.newc 207 1 2 3]] = some ((term_OfNum_fin ((Tapi_Term.mk (1 : Int) r3.1 (Tapi_Num.mk false ([] : List Int)) (0 : Int) (ByteArray.mk #[]) []), true)), [True, FSpec Try.prog 62 [.v (.agg [.dat (.bool p0.fNeg), .dat (.sl 1 (p0.fMag.map (rI .u32)))])] [.v (.one (.dat (.bool r1)))], (!r1) = false, True, FSpec Try.prog 63 [.v (.agg [.dat (.bool p0.fNeg), .dat (.sl 1 (p0.fMag.map (rI .u32)))])] [.v (.one (.dat (.int .i64 r3.1))), .v (.one (.dat (.bool r3.2)))], r3.2 = true, True, True, (([] : List Int).map (rI .u32)).length = (([] : List Int).map (rI .u32)).length])) (.cons (trivial) (.cons ((num_May_spec N p0 r1 hr1)) (.cons ((b_false (not_iff var_iff) hb2)) (.cons (trivial) (.cons ((num_Small_spec N p0 r3 hr3)) (.cons ((b_true var_iff hb4)) (.cons (trivial) (.cons (trivial) (.cons (rfl) (AllP.nil))))))))))
    · obtain ⟨r5, hr5, h⟩ := bind_some h
      injection h with h; subst h
      exact FSpec.of_run 305 _ Try.func28 (by kernel_rfl : runF Try.prog Try.f28 [.v (.agg [.dat (.bool p0.fNeg), .dat (.sl 1 (p0.fMag.map (rI .u32)))])] 305 [.reg [{}, {}, {}], .reg [{}, { h := .pcall [.v (.one (.dat (.bool r1)))] }, {}], .br false, .reg [{}, { h := .pcall [.v (.one (.dat (.int .i64 r3.1))), .v (.one (.dat (.bool r3.2)))] }, {}, {}, {}, {}, {}], .reg [{}], .br false, .reg [{}, {}, {}, {}, { h := .call 175 [.v (.one (.own 1 (r5.map (rI .u32))))] [] }, {}, {}, {}, {}]] = some ((term_OfNum_fin ((Tapi_Term.mk (2 : Int) (0 : Int) (Tapi_Num.mk p0.fNeg r5) (0 : Int) (ByteArray.mk #[]) []), true)), [True, FSpec Try.prog 62 [.v (.agg [.dat (.bool p0.fNeg), .dat (.sl 1 (p0.fMag.map (rI .u32)))])] [.v (.one (.dat (.bool r1)))], (!r1) = false, True, FSpec Try.prog 63 [.v (.agg [.dat (.bool p0.fNeg), .dat (.sl 1 (p0.fMag.map (rI .u32)))])] [.v (.one (.dat (.int .i64 r3.1))), .v (.one (.dat (.bool r3.2)))], r3.2 = false, True, True, FSpec Try.prog 56 [.v (.one (.dat (.sl 1 (p0.fMag.map (rI .u32)))))] [.v (.one (.own 1 (r5.map (rI .u32))))], AV.Le (.v (.one (.ptr 1 0))) (.v (.one (.ptr 1 0))), True, AV.Le (.v (.one (.d (.bool p0.fNeg)))) (.v (.one (.d (.bool p0.fNeg)))), True, True, (r5.map (rI .u32)).length = (r5.map (rI .u32)).length])) (.cons (trivial) (.cons ((num_May_spec N p0 r1 hr1)) (.cons ((b_false (not_iff var_iff) hb2)) (.cons (trivial) (.cons ((num_Small_spec N p0 r3 hr3)) (.cons ((b_false var_iff hb4)) (.cons (trivial) (.cons (trivial) (.cons ((slices_Clone_uint32_uint32_all_spec N p0.fMag r5 hr5)) (.cons (AV.Le.refl _) (.cons (trivial) (.cons (AV.Le.refl _) (.cons (trivial) (.cons (trivial) (.cons (rfl) (AllP.nil))))))))))))))))
def term_Int_fin (r : Tapi_Term) : List PV := [.v (.agg (dTapi_Term r))]
def term_Int (N : Nat) (p0 : Int) : Option Tapi_Term := (num_Of N p0).bind fun r1 => (term_OfNum N r1).bind fun r2 => some (Tapi_Term.mk r2.1.fKind r2.1.fN r2.1.fNum r2.1.fBits r2.1.fBytes [])
theorem term_Int_spec (N : Nat) (p0 : Int) (r : Tapi_Term) (h : term_Int N p0 = some r) : FSpec Try.prog 30 [.v (.one (.dat (.int .i64 p0)))] (term_Int_fin r) := by
  unfold term_Int at h
  obtain ⟨r1, hr1, h⟩ := bind_some h
  obtain ⟨r2, hr2, h⟩ := bind_some h
  injection h with h; subst h
  exact FSpec.of_run 184 _ Try.func30 (by kernel_rfl : runF Try.prog Try.f30 [.v (.one (.dat (.int .i64 p0)))] 184 [.reg [{}], .reg [{}, { h := .call 24 [.v (.agg [.dat (.bool r1.fNeg), .own 1 (r1.fMag.map (rI .u32))])] [] }, { h := .lnew 30 [.v (.agg [.dat (.int .i64 r2.1.fKind), .dat (.int .i64 r2.1.fN), .dat (.bool r2.1.fNum.fNeg), .own 1 (r2.1.fNum.fMag.map (rI .u32)), .dat (.int .u64 r2.1.fBits), .dat (.str r2.1.fBytes), .dat .nils]), .v (.one (.dat (.bool r2.2)))] }, {}, {}, {}, {}, {}, {}], .reg [{}, {}], .adj [.fz 30, .ob 2 (.var [.d (.int .i64 r2.1.fKind), .d (.int .i64 r2.1.fN), .d (.bool r2.1.fNum.fNeg), .d (.sl 1 (r2.1.fNum.fMag.map (rI .u32))), .d (.int .u64 r2.1.fBits), .d (.str r2.1.fBytes), .d (.sl 7 [])])]] = some ((term_Int_fin (Tapi_Term.mk r2.1.fKind r2.1.fN r2.1.fNum r2.1.fBits r2.1.fBytes [])), [FSpec Try.prog 55 [.v (.one (.dat (.int .i64 p0)))] [.v (.agg [.dat (.bool r1.fNeg), .own 1 (r1.fMag.map (rI .u32))])], FSpec Try.prog 28 [.v (.agg [.dat (.bool r1.fNeg), .dat (.sl 1 (r1.fMag.map (rI .u32)))])] [.v (.agg [.dat (.int .i64 r2.1.fKind), .dat (.int .i64 r2.1.fN), .dat (.bool r2.1.fNum.fNeg), .own 1 (r2.1.fNum.fMag.map (rI .u32)), .dat (.int .u64 r2.1.fBits), .dat (.str r2.1.fBytes), .dat .nils]), .v (.one (.dat (.bool r2.2)))], ∀ p ∈ [.v (.agg [.dat (.int .i64 r2.1.fKind), .dat (.int .i64 r2.1.fN), .dat (.bool r2.1.fNum.fNeg), .own 1 (r2.1.fNum.fMag.map (rI .u32)), .dat (.int .u64 r2.1.fBits), .dat (.str r2.1.fBytes), .dat .nils]), .v (.one (.dat (.bool r2.2)))], PV.flatR p, (r1.fMag.map (rI .u32)).length = (r1.fMag.map (rI .u32)).length, True, True, True, (1 : Nat) = 1 ∧ (r2.1.fNum.fMag.map (rI .u32)).length = (r2.1.fNum.fMag.map (rI .u32)).length, (1 : Nat) = 1 ∧ (r2.1.fNum.fMag.map (rI .u32)).length = (r2.1.fNum.fMag.map (rI .u32)).length, (1 : Nat) = 1 ∧ (r2.1.fNum.fMag.map (rI .u32)).length = (r2.1.fNum.fMag.map (rI .u32)).length, (1 : Nat) = 1 ∧ (r2.1.fNum.fMag.map (rI .u32)).length = (r2.1.fNum.fMag.map (rI .u32)).length, (1 : Nat) = 1 ∧ (r2.1.fNum.fMag.map (rI .u32)).length = (r2.1.fNum.fMag.map (rI .u32)).length, (1 : Nat) = 1 ∧ (r2.1.fNum.fMag.map (rI .u32)).length = (r2.1.fNum.fMag.map (rI .u32)).length, Ob.Le (.var [.d (.int .i64 r2.1.fKind), .d (.int .i64 r2.1.fN), .d (.bool r2.1.fNum.fNeg), .d (.sl 1 (r2.1.fNum.fMag.map (rI .u32))), .d (.int .u64 r2.1.fBits), .d (.str r2.1.fBytes), .d (.nils)]) (.var [.d (.int .i64 r2.1.fKind), .d (.int .i64 r2.1.fN), .d (.bool r2.1.fNum.fNeg), .d (.sl 1 (r2.1.fNum.fMag.map (rI .u32))), .d (.int .u64 r2.1.fBits), .d (.str r2.1.fBytes), .d (.sl 7 [])]), True])) (.cons ((num_Of_spec N p0 r1 hr1)) (.cons ((term_OfNum_spec N r1 r2 hr2)) (.cons (flatP_cons (flatC_cons (rfl) (flatC_cons (rfl) (flatC_cons (rfl) (flatC_cons (flat_map (fun x c hc => by simp only [rI, List.mem_singleton] at hc; subst hc; rfl)) (flatC_cons (rfl) (flatC_cons (rfl) (flatC_cons (rfl) (flatC_nil)))))))) (flatP_cons (rfl) (flatP_nil))) (.cons (rfl) (.cons (trivial) (.cons (trivial) (.cons (trivial) (.cons (⟨rfl, rfl⟩) (.cons (⟨rfl, rfl⟩) (.cons (⟨rfl, rfl⟩) (.cons (⟨rfl, rfl⟩) (.cons (⟨rfl, rfl⟩) (.cons (⟨rfl, rfl⟩) (.cons (Ob.Le.var (All2.cons (AC.Le.refl _) (All2.cons (AC.Le.refl _) (All2.cons (AC.Le.refl _) (All2.cons (AC.Le.refl _) (All2.cons (AC.Le.refl _) (All2.cons (AC.Le.refl _) (All2.cons (AC.Le.d (C.Le.nils 7)) (All2.nil))))))))) (.cons (trivial) (AllP.nil))))))))))))))))
namespace ListHand
open Go.RowKit Go.Shelf
/-! ### slices.Backward: the function value -/
theorem backNt : Try.f47.ntmps = 4 := by kernel_rfl
set_option maxHeartbeats 1000000 in
theorem back_make (ad : Option Addr) (len cap : Nat) (w : World) : CallsIn Fence.wide 0 Try.prog 47 #[.slice ad len cap] w fun e w' => e = .returned (.func (.func 72) #[] #[.pointer (some ⟨w.heap.size, 0, none⟩)]) ∧ w' = w.alloc (.cells #[.slice ad len cap] 22) := by
  refine callsIn_of_wp Try.func47 rfl trivial ?_
  simp only [backNt, List.size_toArray, List.length_cons, List.length_nil, Nat.reduceAdd, Nat.reduceSub, Array.replicate_succ, Array.replicate_zero, List.push_toArray, List.append_toArray, List.nil_append, List.cons_append]
  gi_wp2
  go_ret
  exact ⟨rfl, rfl⟩
/-! ### its closure -/
def opsOf : Code → Array Oper
  | .region _ ops _ => ops
  | _ => #[]
def idOf : Code → Nat
  | .region id _ _ => id
  | _ => 0
@[irreducible] noncomputable def bO (p : List Nat) : Array Oper := opsOf (partOf Try.f72 p)
@[irreducible] noncomputable def bI (p : List Nat) : Nat := idOf (partOf Try.f72 p)
theorem back_body : Try.f72.body = some (.seq (.region (bI [0]) (bO [0]) false) (.block 0 (.loop (.seq (.seq (.region (bI [1, 0, 0, 0, 0]) (bO [1, 0, 0, 0, 0]) false) (.cond (.tmp 8) .skip (.exit 0))) (.seq (.block 1 (.seq (.region (bI [1, 0, 0, 1, 0, 0, 0]) (bO [1, 0, 0, 1, 0, 0, 0]) false) (.cond (.tmp 18) .ret .skip))) (.region (bI [1, 0, 0, 1, 1]) (bO [1, 0, 0, 1, 1]) false)))))) := by kernel_rfl
theorem wpOpsIn_step {F : Fence} {n : Nat} {P : Program} {ops : Array Oper} {Q : Exit → Act → World → Prop} {i : Nat} {rest : List Nat} {a : Act} {w : World} {o : Oper} (ho : ops[i]? = some o) (hg : o.guard = none) (h : o.wpIn F n P a w (wpOpsIn F n P ops Q rest) Q) : wpOpsIn F n P ops Q (i :: rest) a w := by
  unfold wpOpsIn
  rw [ho]
  simp only
  have : Region.wanted o (yielded ops a.tmps) = true := by unfold Region.wanted; rw [hg]
  rw [if_pos this]
  exact h
def frI (x3 : AV) (rows : List (List C)) : List AV := [.bad, .v (.one (.fptr [.sl 7 rows])), .bad, x3] ++ List.replicate 15 .bad
theorem frI_rep {w : World} {S : Nat → Prop} {β : Nat → Option Nat} {x3 : AV} {rows : List (List C)} {a : Act} {p v3 : Value} (hs : a.tmps.size = 19) (h1 : a.tmps[1]? = some p) (h3 : a.tmps[3]? = some v3) (r1 : AC.Rep w S β (.fptr [.sl 7 rows]) p) (r3 : x3.Rep w S β v3) : All2 (AV.Rep w S β) (frI x3 rows) a.tmps.toList := by
  refine All2.mk (by rw [show a.tmps.toList.length = 19 by simp [hs]]; rfl) fun i y v hy hv => ?_
  rw [Array.getElem?_toList] at hv
  match i, hy, hv with
  | 0, hy, hv => cases hy; trivial
  | 1, hy, hv => cases hy; rw [h1] at hv; cases hv; exact r1
  | 2, hy, hv => cases hy; trivial
  | 3, hy, hv => cases hy; rw [h3] at hv; cases hv; exact r3
  | n + 4, hy, hv =>
    have hy' : (List.replicate 15 AV.bad)[n]? = some y := hy
    rw [List.getElem?_replicate] at hy'
    split at hy'
    · cases hy'; trivial
    · cases hy'
/-- What holds between two rounds, as the iterator wants it. -/
structure BackInv (Inv : Nat → World → Prop) (F : Nat → Prop) (bx : Nat) (rows : List (List C)) : Prop where
  lt : ∀ k W, Inv k W → (∀ b, F b → b < W.heap.size) ∧ bx < W.heap.size
  box : ∀ k W, Inv k W → ∃ v0, W.cell? ⟨bx, 0, none⟩ = some v0 ∧ C.Rep W F (.sl 7 rows) v0
  ext : ∀ k W W', Inv k W → Ext W W' → Inv k W'
def gI (W : World) (F : Nat → Prop) (bx : Nat) : Gh := { w0 := W, own0 := fun _ => False, S0 := fun b => F b ∨ b = bx, n0 := 100, par := fun _ _ => False }
theorem sim_I {Inv : Nat → World → Prop} {F : Nat → Prop} {bx : Nat} {rows : List (List C)} (hI : BackInv Inv F bx rows) {k : Nat} {W : World} (hW : Inv k W) {x3 : AV} {v3 : Value} {a : Act} (hd : a.defers = []) (hs : a.tmps.size = 19) (h1 : a.tmps[1]? = some (.pointer (some ⟨bx, 0, none⟩))) (h3 : a.tmps[3]? = some v3) (r3 : x3.Rep W (fun b => F b ∨ b = bx) (fun _ => none) v3) :
    Sim (gI W F bx) (fun _ => none) (fun b => F b ∨ b = bx) { fr := frI x3 rows, obs := [] } a W := by
  obtain ⟨l1, l2⟩ := hI.lt k W hW
  obtain ⟨v0, hv0, hr0⟩ := hI.box k W hW
  refine ⟨hd, frI_rep hs h1 h3 ⟨bx, 0, rfl, fun _ => .inr rfl, ?_⟩ r3, fun s o b hm => (by cases hm), fun s o hm => (by cases hm), fun s o s' o' b hm => (by cases hm), fun b hb => ?_, fun b hb => hb, Nat.le_refl _, fun _ _ _ => rfl, rfl, rfl, rfl, fun _ _ hm => hm.elim, fun b hb => .inl hb, ShMono.refl _⟩
  · simp only [RepCells]
    exact ⟨⟨v0, hv0, C.Rep.mono (fun b hb => .inl hb) (SameOn.refl _ _) _ _ hr0⟩, trivial⟩
  · rcases hb with hb | rfl
    · exact l1 b hb
    · exact l2
theorem dst_of {l : List Oper} {ok : Nat → Prop} (L : List Nat) (h : (l.all fun o => match o.dst with | some d => L.contains d | none => true) = true) (hL : ∀ j ∈ L, ¬ ok j) : ∀ o ∈ l, ∀ j, ok j → o.dst ≠ some j := fun o ho j hj e => by
  have := List.all_eq_true.1 h o ho
  rw [e] at this
  exact hL j (by simpa using this) hj
theorem size_of {G : Gh} {β : Nat → Option Nat} {S : Nat → Prop} {st : St} {a : Act} {w : World} (h : Sim G β S st a w) {n : Nat} (hn : st.fr.length = n) : a.tmps.size = n := by
  rw [← Array.length_toList, ← h.fr.length, hn]
theorem int_at {G : Gh} {β : Nat → Option Nat} {S : Nat → Prop} {st : St} {a : Act} {w : World} (h : Sim G β S st a w) {j : Nat} {i : Int} (hj : st.fr[j]? = some (.v (.one (.d (.int .i64 i))))) : a.tmps[j]? = some (.int .i64 i) := by
  obtain ⟨v, hv, hr⟩ := h.fr.get j _ hj
  have : v = .int .i64 i := by simpa only [AV.Rep, A1.Rep, AC.Rep, C.Rep] using hr
  subst this
  rwa [Array.getElem?_toList] at hv
theorem bool_at {G : Gh} {β : Nat → Option Nat} {S : Nat → Prop} {st : St} {a : Act} {w : World} (h : Sim G β S st a w) {j : Nat} {b : Bool} (hj : st.fr[j]? = some (.v (.one (.d (.bool b))))) : a.eval (.tmp j) = .bool b := by
  obtain ⟨v, hv, hr⟩ := h.fr.get j _ hj
  have : v = .bool b := by simpa only [AV.Rep, A1.Rep, AC.Rep, C.Rep] using hr
  subst this
  rw [Array.getElem?_toList] at hv
  show a.tmps.getD j undef = _
  rw [Array.getD_eq_getD_getElem?, hv]
  rfl
theorem eval_at {a : Act} {j : Nat} {v : Value} (h : a.tmps[j]? = some v) : a.eval (.tmp j) = v := by
  show a.tmps.getD j undef = _
  rw [Array.getD_eq_getD_getElem?, h]
  rfl
def stI (x3 : AV) (xs : List Tapi_Term) : St := { fr := frI x3 (xs.map rTapi_Term), obs := [] }
def iv (i : Int) : AV := .v (.one (.d (.int .i64 i)))
def okI (l : List Oper) (L : List Nat) : Bool := l.all fun o => match o.dst with | some d => L.contains d | none => true
/-- The regions, run. -/
def st0 (xs : List Tapi_Term) : St := { fr := [.bad, .v (.one (.fptr [.sl 7 (xs.map rTapi_Term)])), .bad, iv (IntKind.wrap .i64 (((xs.length : Nat) : Int) - 1)), .v (.one (.d (.sl 7 (xs.map rTapi_Term)))), iv ((xs.length : Nat) : Int), iv (IntKind.wrap .i64 (((xs.length : Nat) : Int) - 1))] ++ List.replicate 12 .bad, obs := [] }
theorem run0 (xs : List Tapi_Term) : runOps Try.prog 100 (bO [0]) (bO [0]).toList [{}, { cast := some (iv ((xs.length : Nat) : Int)) }, {}, {}] (stI .bad xs) = some (st0 xs, [True, AV.Le (iv (((xs.map rTapi_Term).length : Nat) : Int)) (iv ((xs.length : Nat) : Int))]) := by kernel_rfl
theorem nd0 : noDefer (bO [0]) = true := by kernel_rfl
theorem ok0 : okI (bO [0]).toList [4, 5, 6, 3] = true := by kernel_rfl
def st1 (xs : List Tapi_Term) (i : Int) : St := { fr := [.bad, .v (.one (.fptr [.sl 7 (xs.map rTapi_Term)])), .bad, iv i, .bad, .bad, .bad, iv i, .v (.one (.d (.bool (decide (i ≥ 0)))))] ++ List.replicate 10 .bad, obs := [] }
abbrev p1 : List Nat := [1, 0, 0, 0, 0]
abbrev p3 : List Nat := [1, 0, 0, 1, 0, 0, 0]
abbrev p2 : List Nat := [1, 0, 0, 1, 1]
theorem run1 (xs : List Tapi_Term) (i : Int) : runOps Try.prog 100 (bO p1) (bO p1).toList [] (stI (iv i) xs) = some (st1 xs i, []) := by kernel_rfl
theorem nd1 : noDefer (bO p1) = true := by kernel_rfl
theorem ok1 : okI (bO p1).toList [7, 8] = true := by kernel_rfl
def st3 (xs : List Tapi_Term) (i : Int) (x : Tapi_Term) : St := { fr := [.bad, .v (.one (.fptr [.sl 7 (xs.map rTapi_Term)])), .bad, iv i, .bad, .bad, .bad, .bad, .bad, .bad, .bad, .bad, iv i, .v (.one (.d (.sl 7 (xs.map rTapi_Term)))), iv i, .v (.one (.fptr (cTapi_Term x))), .v (.agg (aTapi_Term x)), .bad, .bad], obs := [] }
theorem run3 (xs : List Tapi_Term) (i : Int) (x : Tapi_Term) : runOps Try.prog 100 (bO p3) (((bO p3).toList.drop 1).take 5) [{}, {}, {}, { cast := some (.v (.one (.fptr (cTapi_Term x)))) }, {}] (stI (iv i) xs) = some (st3 xs i x, [True, 0 ≤ i ∧ i < (((xs.map rTapi_Term).length : Nat) : Int), AV.Le (.v (.one (.fptr ((List.range 7).map fun j => ((xs.map rTapi_Term).getD (Int.toNat i) []).getD j .nils)))) (.v (.one (.fptr (cTapi_Term x)))), True]) := by kernel_rfl
theorem nd3 : noDefer (bO p3) = true := by kernel_rfl
theorem ok3 : okI (((bO p3).toList.drop 1).take 5) [12, 13, 14, 15, 16] = true := by kernel_rfl
def st2 (xs : List Tapi_Term) (i : Int) : St := { fr := [.bad, .v (.one (.fptr [.sl 7 (xs.map rTapi_Term)])), .bad, iv (IntKind.wrap .i64 (i - 1)), .bad, .bad, .bad, .bad, .bad, iv i, iv (IntKind.wrap .i64 (i - 1))] ++ List.replicate 8 .bad, obs := [] }
theorem run2 (xs : List Tapi_Term) (i : Int) : runOps Try.prog 100 (bO p2) (bO p2).toList [] (stI (iv i) xs) = some (st2 xs i, []) := by kernel_rfl
theorem nd2 : noDefer (bO p2) = true := by kernel_rfl
theorem ok2 : okI (bO p2).toList [9, 10, 3] = true := by kernel_rfl
theorem sz3 : (bO p3).size = 8 := by kernel_rfl
theorem sim_no {W : World} {fr : List AV} {a : Act} (hd : a.defers = []) (hf : All2 (AV.Rep W (fun _ => False) (fun _ => none)) fr a.tmps.toList) :
    Sim { w0 := W, own0 := fun _ => False, S0 := fun _ => False, n0 := 100, par := fun _ _ => False } (fun _ => none) (fun _ => False) { fr := fr, obs := [] } a W :=
  ⟨hd, hf, fun s o b hm => (by cases hm), fun s o hm => (by cases hm), fun s o s' o' b hm => (by cases hm), fun b hb => hb.elim, fun b hb => hb, Nat.le_refl _, fun _ _ _ => rfl, rfl, rfl, rfl, fun _ _ hm => hm.elim, fun b hb => hb.elim, ShMono.refl _⟩
theorem opAt0 : ∃ o, (bO p3)[0]? = some o ∧ o.op = .move (.tmp 0) ∧ o.dst = some 11 ∧ o.guard = none := ⟨(bO p3).getD 0 default, by kernel_rfl, by kernel_rfl, by kernel_rfl, by kernel_rfl⟩
theorem opAt6 : ∃ o, (bO p3)[6]? = some o ∧ (∃ ts, o.op = .call { callee := .value (.tmp 11), args := #[.tmp 12, .tmp 16], argTypes := ts }) ∧ o.dst = some 17 ∧ o.guard = none := ⟨(bO p3).getD 6 default, by kernel_rfl, ⟨#[3, 30], by kernel_rfl⟩, by kernel_rfl, by kernel_rfl⟩
def st7 (b : Bool) : St := { fr := List.replicate 17 .bad ++ [.v (.one (.d (.bool true))), if b then .v (.one (.d (.bool false))) else .bad], obs := [] }
theorem run7 : runOps Try.prog 100 (bO p3) (((bO p3).toList.drop 7).take 1) [] (st7 false) = some (st7 true, []) := by kernel_rfl
theorem ok7 : okI (((bO p3).toList.drop 7).take 1) [18] = true := by kernel_rfl
theorem exec_yield {P : Program} {w : World} {a : Act} {o : Oper} {l : Nat} {ts : Array TypeId} {x y : Value} {r : Result Next} (ho : o.op = .call { callee := .value (.tmp 11), args := #[.tmp 12, .tmp 16], argTypes := ts }) (h11 : a.eval (.tmp 11) = .func (.yield l) #[] #[]) (h12 : a.eval (.tmp 12) = x) (h16 : a.eval (.tmp 16) = y)
    (hy : (Instr.yield l #[x, y]).run P w = r) : (execOp a.eval o).run P w = r := by
  unfold execOp
  rw [ho]
  simp only [resolve, h11, Deferred.ofValue, pure_bind, invoke, Array.empty_append]
  rw [← hy]
  simp [h12, h16]
def muI (a : Act) : Nat := match a.tmps[3]? with
  | some (Value.int _ i) => (i + 1).toNat
  | _ => 0
theorem back_iter {Inv : Nat → World → Prop} {F : Nat → Prop} {bx l : Nat} (xs : List Tapi_Term) (hlen : xs.length < 9223372036854775807) (hI : BackInv Inv F bx (xs.map rTapi_Term))
    (hY : ∀ (k : Nat) (x : Tapi_Term) (i : Int) (v : Value) (S' : Nat → Prop) (m : Nat) (W : World), k < xs.length → xs[xs.length - 1 - k]? = some x → Inv k W → (∃ vs : Array Value, v = .agg vs ∧ All2 (C.Rep W S') (cTapi_Term x) vs.toList) → (∀ b, S' b → b < W.heap.size ∧ (F b ∨ b = bx ∨ m ≤ b)) → (∃ W0, Inv k W0 ∧ W0.heap.size = m ∧ Ext W0 W) →
      YieldAt (wideR none) 0 Try.prog l #[.int .i64 i, v] W fun e W' => e = .returned (.bool true) ∧ Inv (k + 1) W')
    (W : World) (h0 : Inv 0 W) : CallsIn Fence.wide 0 Try.prog 72 #[.func (.yield l) #[] #[], .pointer (some ⟨bx, 0, none⟩)] W fun e W' => (∃ v, e = .returned v) ∧ Inv xs.length W' := by
  refine callsIn_of_wp Try.func72 back_body trivial ?_
  have hnt : Try.f72.ntmps = 19 := by kernel_rfl
  rw [hnt]
  generalize ha0 : ({ tmps := #[.func (.yield l) #[] #[], .pointer (some ⟨bx, 0, none⟩)] ++ Array.replicate (19 - (#[.func (.yield l) #[] #[], .pointer (some ⟨bx, 0, none⟩)] : Array Value).size) undef, defers := [] } : Act) = a0
  have z0 : a0.tmps[0]? = some (.func (.yield l) #[] #[]) := by rw [← ha0]; kernel_rfl
  have z1 : a0.tmps[1]? = some (.pointer (some ⟨bx, 0, none⟩)) := by rw [← ha0]; kernel_rfl
  have z3 : a0.tmps[3]? = some undef := by rw [← ha0]; kernel_rfl
  have zs : a0.tmps.size = 19 := by rw [← ha0]; kernel_rfl
  have zd : a0.defers = [] := by rw [← ha0]
  have s0 := sim_I hI h0 (x3 := .bad) zd zs z1 z3 trivial
  refine wpIn_seq ?_
  refine region_wideR (G := gI W F bx) 0 none (run0 xs) (.cons trivial (.cons len_le .nil)) nd0 s0 (fun j => j = 0 ∨ j = 1) (dst_of [4, 5, 6, 3] ok0 (by rintro j hj (rfl | rfl) <;> simp at hj)) ?_
  intro β1 S1 a1 W1 hs1 hj1
  have i1 := hI.ext 0 W W1 h0 (hs1.ext (fun _ h => h))
  simp only [Exit.then]
  refine wpIn_block ?_
  refine wpIn_loop (fun a W => ∃ k, k ≤ xs.length ∧ a.defers = [] ∧ a.tmps.size = 19 ∧ a.tmps[0]? = some (.func (.yield l) #[] #[]) ∧ a.tmps[1]? = some (.pointer (some ⟨bx, 0, none⟩)) ∧ a.tmps[3]? = some (.int .i64 ((xs.length : Int) - 1 - (k : Nat))) ∧ Inv k W)
    (fun a _ => muI a) ⟨0, Nat.zero_le _, hs1.defers, size_of hs1 rfl, (hj1 0 (.inl rfl)).trans z0, (hj1 1 (.inr rfl)).trans z1, ?_, i1⟩ ?_
  · have := int_at hs1 (j := 3) rfl
    rw [this, wrapI _ (by omega) (by omega)]
    congr 2
    omega
  rintro a W2 ⟨k, hk, hd, hsz, t0, t1, t3, hinv⟩
  refine wpIn_seq (wpIn_seq ?_)
  have s2 := sim_I hI hinv (x3 := iv ((xs.length : Int) - 1 - (k : Nat))) hd hsz t1 t3 rfl
  refine region_wideR (G := gI W2 F bx) 0 none (run1 xs _) .nil nd1 s2 (fun j => j = 0 ∨ j = 1 ∨ j = 3) (dst_of [7, 8] ok1 (by rintro j hj (rfl | rfl | rfl) <;> simp at hj)) ?_
  intro β3 S3 a3 W3 hs3 hj3
  have i3 := hI.ext k W2 W3 hinv (hs3.ext (fun _ h => h))
  have c8 : a3.eval (.tmp 8) = .bool (decide ((xs.length : Int) - 1 - (k : Nat) ≥ 0)) := bool_at hs3 rfl
  refine wpIn_cond c8 ?_
  by_cases hlast : k = xs.length
  · rw [decide_eq_false (by omega)]
    refine wpIn_exit ?_
    simp only [Exit.then, Exit.inBlock, if_true]
    exact ⟨hs3.defers, _, results_none (by kernel_rfl) _ _ _, ⟨_, rfl⟩, hlast ▸ i3⟩
  rw [decide_eq_true (by omega)]
  refine wpIn_skip ?_
  simp only [Exit.then]
  refine wpIn_seq (wpIn_block (wpIn_seq (wpIn_region ?_)))
  rw [sz3]
  have hjx : xs.length - 1 - k < xs.length := by omega
  obtain ⟨x, hx⟩ : ∃ x, xs[xs.length - 1 - k]? = some x := ⟨_, List.getElem?_eq_getElem hjx⟩
  have hi : ((xs.length : Int) - 1 - (k : Nat)) = ((xs.length - 1 - k : Nat) : Int) := by omega
  have hidx : idx xs ((xs.length : Int) - 1 - (k : Nat)) = some x := by
    rw [hi]; unfold idx; rw [if_pos (Int.natCast_nonneg _), Int.toNat_natCast]; exact hx
  obtain ⟨o0, ho0, hop0, hdst0, hg0⟩ := opAt0
  obtain ⟨o6, ho6, ⟨ts6, hop6⟩, hdst6, hg6⟩ := opAt6
  have u0 := (hj3 0 (.inl rfl)).trans t0
  have u1 := (hj3 1 (.inr (.inl rfl))).trans t1
  have u3 := (hj3 3 (.inr (.inr rfl))).trans t3
  have usz := size_of hs3 (n := 19) rfl
  refine wpOpsIn_step (rest := [1, 2, 3, 4, 5, 6, 7]) ho0 hg0 ⟨fun _ _ => trivial, ?_⟩
  rw [Oper.semAt_eq _ _ _ (by rw [hop0]; intro c h; cases h), exec_move (.inl hop0)]
  show wpOpsIn _ 0 Try.prog (bO p3) _ [1, 2, 3, 4, 5, 6, 7] (a3.put o0.dst (a3.eval (.tmp 0))) W3
  rw [hdst0, eval_at u0]
  generalize ha4 : a3.put (some 11) (.func (.yield l) #[] #[]) = a4
  have q : ∀ j, some 11 ≠ some j → a4.tmps[j]? = a3.tmps[j]? := fun j hj => by rw [← ha4]; exact put_slot hj
  have q11 : a4.tmps[11]? = some (.func (.yield l) #[] #[]) := by
    rw [← ha4]
    show (a3.tmps.setIfInBounds 11 _)[11]? = _
    rw [Array.getElem?_setIfInBounds_self_of_lt (by omega)]
  have q4d : a4.defers = [] := by rw [← ha4]; exact hs3.defers
  have q4s : a4.tmps.size = 19 := by rw [← ha4]; show (a3.tmps.setIfInBounds 11 _).size = 19; rw [Array.size_setIfInBounds, usz]
  have s4 := sim_I hI i3 (x3 := iv ((xs.length : Int) - 1 - (k : Nat))) q4d q4s ((q 1 (by simp)).trans u1) ((q 3 (by simp)).trans u3) rfl
  have e17 : ([1, 2, 3, 4, 5, 6, 7] : List Nat) = List.range' 1 ((bO p3).size - 1) := by rw [sz3]; rfl
  rw [e17]
  refine regionMid_wideR (G := gI W3 F bx) (ops := bO p3) 0 none 1 5 (by rw [sz3]; omega) (run3 xs _ x) (.cons trivial (.cons (row_bnd hidx) (.cons (fptr_row hidx (rTapi_Term_eq x)) (.cons trivial .nil)))) nd3 s4 (fun j => j = 0 ∨ j = 1 ∨ j = 3 ∨ j = 11) (dst_of [12, 13, 14, 15, 16] ok3 (by rintro j hj (rfl | rfl | rfl | rfl) <;> simp at hj)) ?_
  intro β5 S5 a5 W5 hs5 hj5
  have x5 : Ext W3 W5 := hs5.ext (fun _ h => h)
  have i5 := hI.ext k W3 W5 i3 x5
  have e67 : List.range' (1 + 5) ((bO p3).size - (1 + 5)) = [6, 7] := by rw [sz3]; rfl
  rw [e67]
  have v0 := (hj5 0 (.inl rfl)).trans ((q 0 (by simp)).trans u0)
  have v1 := (hj5 1 (.inr (.inl rfl))).trans ((q 1 (by simp)).trans u1)
  have v3 := (hj5 3 (.inr (.inr (.inl rfl)))).trans ((q 3 (by simp)).trans u3)
  have v11 := (hj5 11 (.inr (.inr (.inr rfl)))).trans q11
  obtain ⟨v, hv, hvr⟩ := hs5.fr.get 16 _ (by rfl : (st3 xs ((xs.length : Int) - 1 - (k : Nat)) x).fr[16]? = some (.v (.agg (aTapi_Term x))))
  rw [Array.getElem?_toList] at hv
  have hrow : ∃ vs : Array Value, v = .agg vs ∧ All2 (C.Rep W5 S5) (cTapi_Term x) vs.toList := by
    obtain ⟨vs, e, hr⟩ := hvr
    exact ⟨vs, e, All2.of_map (R := AC.Rep W5 S5 β5) AC.d (l := cTapi_Term x) hr⟩
  obtain ⟨fn, tm, asg, bod, hy, hR⟩ := hY k x ((xs.length : Int) - 1 - (k : Nat)) v S5 W3.heap.size W5 (by omega) hx i5 hrow (fun b hb => ⟨hs5.lt b hb, by
    rcases hs5.src b hb with h | h | h
    · rcases h with h | h
      · exact .inl h
      · exact .inr (.inl h)
    · exact h.elim
    · exact .inr (.inr h)⟩) ⟨W3, i3, rfl, x5⟩
  refine wpOpsIn_step (rest := [7]) ho6 hg6 ⟨fun _ _ => trivial, ?_⟩
  rw [Oper.semAt_eq _ _ _ (by rw [hop6]; intro c h; cases h), exec_yield hop6 (eval_at v11) (eval_at (int_at hs5 (j := 12) rfl)) (eval_at hv) hy]
  refine ⟨fun h => (by cases h), hR.mono ?_⟩
  rintro e W6 ⟨rfl, i6⟩
  show wpOpsIn _ 0 Try.prog (bO p3) _ [7] (a5.put o6.dst (.bool true)) W6
  rw [hdst6]
  generalize ha6 : a5.put (some 17) (.bool true) = a6
  have r6 : ∀ j, some 17 ≠ some j → a6.tmps[j]? = a5.tmps[j]? := fun j hj => by rw [← ha6]; exact put_slot hj
  have z5 : a5.tmps.size = 19 := size_of hs5 rfl
  have r17 : a6.tmps[17]? = some (.bool true) := by
    rw [← ha6]
    show (a5.tmps.setIfInBounds 17 _)[17]? = _
    rw [Array.getElem?_setIfInBounds_self_of_lt (by omega)]
  have r6d : a6.defers = [] := by rw [← ha6]; exact hs5.defers
  have r6s : a6.tmps.size = 19 := by rw [← ha6]; show (a5.tmps.setIfInBounds 17 _).size = 19; rw [Array.size_setIfInBounds, z5]
  have s6 := sim_no (W := W6) (fr := (st7 false).fr) r6d (All2.mk (by rw [show a6.tmps.toList.length = 19 by simp [r6s]]; rfl) fun i y u hy hu => by
    rw [Array.getElem?_toList] at hu
    by_cases h17 : i = 17
    · subst h17
      cases hy
      rw [r17] at hu
      cases hu
      rfl
    · have : y = .bad := by
        rcases Nat.lt_or_ge i 17 with h | h
        · have : (List.replicate 17 AV.bad)[i]? = some y := by
            rw [← hy]; show _ = (List.replicate 17 AV.bad ++ _)[i]?
            rw [List.getElem?_append_left (by simpa using h)]
          rw [List.getElem?_replicate, if_pos h] at this
          injection this with this; exact this.symm
        · have h18 : i = 18 := by
            have := (List.getElem?_eq_some_iff.1 hy).1
            have h19 : (st7 false).fr.length = 19 := rfl
            omega
          subst h18
          cases hy
          rfl
      subst this
      trivial)
  have e7 : ([7] : List Nat) = List.range' 7 ((bO p3).size - 7) := by rw [sz3]; rfl
  rw [e7]
  refine regionMid_wideR (ops := bO p3) 0 none 7 1 (by rw [sz3]; omega) run7 .nil nd3 s6 (fun j => j = 0 ∨ j = 1 ∨ j = 3) (dst_of [18] ok7 (by rintro j hj (rfl | rfl | rfl) <;> simp at hj)) ?_
  intro β7 S7 a7 W7 hs7 hj7
  have i7 := hI.ext (k + 1) W6 W7 i6 (hs7.ext (fun _ h => h))
  have e8 : List.range' (7 + 1) ((bO p3).size - (7 + 1)) = [] := by rw [sz3]; rfl
  rw [e8]
  show Exit.then _ _ .normal a7 W7
  simp only [Exit.then]
  have c18 : a7.eval (.tmp 18) = .bool false := bool_at hs7 rfl
  refine wpIn_cond c18 ?_
  refine wpIn_skip ?_
  simp only [Exit.inBlock, Exit.then]
  have w0 := (hj7 0 (.inl rfl)).trans ((r6 0 (by simp)).trans v0)
  have w1 := (hj7 1 (.inr (.inl rfl))).trans ((r6 1 (by simp)).trans v1)
  have w3 := (hj7 3 (.inr (.inr rfl))).trans ((r6 3 (by simp)).trans v3)
  have s8 := sim_I hI i7 (x3 := iv ((xs.length : Int) - 1 - (k : Nat))) hs7.defers (size_of hs7 rfl) w1 w3 rfl
  refine region_wideR (G := gI W7 F bx) 0 none (run2 xs _) .nil nd2 s8 (fun j => j = 0 ∨ j = 1) (dst_of [9, 10, 3] ok2 (by rintro j hj (rfl | rfl) <;> simp at hj)) ?_
  intro β9 S9 a9 W9 hs9 hj9
  have i9 := hI.ext (k + 1) W7 W9 i7 (hs9.ext (fun _ h => h))
  have y3 := int_at hs9 (j := 3) rfl
  rw [wrapI _ (by omega) (by omega)] at y3
  refine ⟨⟨k + 1, by omega, hs9.defers, size_of hs9 rfl, (hj9 0 (.inl rfl)).trans w0, (hj9 1 (.inr rfl)).trans w1, ?_, i9⟩, ?_⟩
  · rw [y3]; congr 2; omega
  · unfold muI
    rw [y3, t3]
    simp only
    omega
def nilTm : Tapi_Term := ⟨7, 0, ⟨false, []⟩, 0, ByteArray.mk #[], []⟩
def consTm (a b : Tapi_Term) : Tapi_Term := ⟨8, 0, ⟨false, []⟩, 0, ByteArray.mk #[], [a, b]⟩
def listTm : List Tapi_Term → Tapi_Term
  | [] => nilTm
  | x :: xs => consTm x (listTm xs)
def asgOf : Code → Code
  | .rangeFunc _ _ x _ => x
  | _ => .skip
def bodOf : Code → Code
  | .rangeFunc _ _ _ (.block _ x) => x
  | _ => .skip
@[irreducible] noncomputable def lO (p : List Nat) : Array Oper := opsOf (partOf Try.f13 p)
@[irreducible] noncomputable def lI (p : List Nat) : Nat := idOf (partOf Try.f13 p)
@[irreducible] noncomputable def aO : Array Oper := opsOf (asgOf (partOf Try.f13 [1, 1, 0, 1, 0]))
@[irreducible] noncomputable def aI : Nat := idOf (asgOf (partOf Try.f13 [1, 1, 0, 1, 0]))
@[irreducible] noncomputable def yO : Array Oper := opsOf (bodOf (partOf Try.f13 [1, 1, 0, 1, 0]))
@[irreducible] noncomputable def yI : Nat := idOf (bodOf (partOf Try.f13 [1, 1, 0, 1, 0]))
theorem list_body : Try.f13.body = some (.seq (.region (lI [0]) (lO [0]) false) (.seq (.region (lI [1, 0]) (lO [1, 0]) false) (.seq (.seq (.region (lI [1, 1, 0, 0]) (lO [1, 1, 0, 0]) false) (.block 0 (.rangeFunc (.tmp 8) #[9, 10] (.region aI aO false) (.block 1 (.region yI yO false))))) (.seq (.region (lI [1, 1, 1, 0]) (lO [1, 1, 1, 0]) false) .ret)))) := by kernel_rfl
def kt (k : Int) (c : C) : List C := [.int .i64 k, .int .i64 0, .bool false, .nils, .int .u64 0, .str (ByteArray.mk #[]), c]
def slA (xs : List Tapi_Term) : AV := .v (.one (.d (.sl 7 (xs.map rTapi_Term))))
def ptrA (s : Nat) : AV := .v (.one (.ptr s 0))
def bads (n : Nat) : List AV := List.replicate n .bad
def sA (xs : List Tapi_Term) : St := { fr := [slA xs] ++ bads 15, obs := [] }
def sB (xs : List Tapi_Term) : St := { fr := [slA xs, .bad, ptrA 2] ++ bads 13, obs := [(2, .var ((kt 0 .nils).map .d))] }
theorem runA (xs : List Tapi_Term) : runOps Try.prog 100 (lO [0]) (lO [0]).toList [] (sA xs) = some (sB xs, []) := by kernel_rfl
theorem ndA : noDefer (lO [0]) = true := by kernel_rfl
theorem okA : okI (lO [0]).toList [2] = true := by kernel_rfl
def sC (xs : List Tapi_Term) : St := { fr := [slA xs, .bad, ptrA 2, ptrA 3, .bad, .bad, .v (.agg ((kt 7 .nils).map .d))] ++ bads 9, obs := [(3, .var ((kt 7 .nils).map .d)), (2, .var ((kt 0 .nils).map .d))] }
theorem runB (xs : List Tapi_Term) : runOps Try.prog 100 (lO [1, 0]) (lO [1, 0]).toList [] (sB xs) = some (sC xs, [True]) := by kernel_rfl
theorem ndB : noDefer (lO [1, 0]) = true := by kernel_rfl
theorem okB : okI (lO [1, 0]).toList [6, 3] = true := by kernel_rfl
def sR (x y : Tapi_Term) : St := { fr := bads 3 ++ [ptrA 103] ++ bads 6 ++ [.v (.agg (aTapi_Term x))] ++ bads 5, obs := [(103, .var (aTapi_Term y))] }
def sS (x y : Tapi_Term) : St := { fr := bads 3 ++ [ptrA 103, .bad, ptrA 5] ++ bads 4 ++ [.v (.agg (aTapi_Term x))] ++ bads 5, obs := [(5, .var (aTapi_Term x)), (103, .var (aTapi_Term y))] }
theorem runR (x y : Tapi_Term) : runOps Try.prog 100 aO aO.toList [] (sR x y) = some (sS x y, [True]) := by kernel_rfl
theorem ndR : noDefer aO = true := by kernel_rfl
def sT (x y : Tapi_Term) : St := { fr := bads 3 ++ [ptrA 103, .bad, ptrA 5] ++ bads 4 ++ [.v (.agg (aTapi_Term x)), .v (.agg (aTapi_Term x)), .v (.agg (aTapi_Term y)), .v (.one (.d (.sl 7 [cTapi_Term x, cTapi_Term y]))), .v (.agg ((kt 8 (.sl 7 [cTapi_Term x, cTapi_Term y])).map .d)), .bad], obs := [(5, .var (aTapi_Term x)), (103, .var ((kt 8 (.sl 7 [cTapi_Term x, cTapi_Term y])).map .d))] }
theorem runS (x y : Tapi_Term) : runOps Try.prog 100 yO yO.toList [{}, {}, {}, {}, { post := [.fz 13] }] (sS x y) = some (sT x y, [True, True, True, (7 : Nat) = 7 ∧ (2 : Nat) = [cTapi_Term x, cTapi_Term y].length, (7 : Nat) = 7 ∧ (2 : Nat) = [cTapi_Term x, cTapi_Term y].length, (7 : Nat) = 7 ∧ (2 : Nat) = [cTapi_Term x, cTapi_Term y].length]) := by kernel_rfl
theorem ndS : noDefer yO = true := by kernel_rfl
def sE (r : Tapi_Term) : St := { fr := bads 2 ++ [ptrA 102, ptrA 103] ++ bads 12, obs := [(103, .var (aTapi_Term r)), (102, .var ((kt 0 .nils).map .d))] }
def sF (r : Tapi_Term) : St := { fr := bads 2 ++ [ptrA 102, ptrA 103] ++ bads 11 ++ [.v (.agg (aTapi_Term r))], obs := [(103, .var (aTapi_Term r)), (102, .var (aTapi_Term r))] }
theorem runE (r : Tapi_Term) : runOps Try.prog 100 (lO [1, 1, 1, 0]) (lO [1, 1, 1, 0]).toList [] (sE r) = some (sF r, [True, True]) := by kernel_rfl
theorem ndE : noDefer (lO [1, 1, 1, 0]) = true := by kernel_rfl
structure LInv (w : World) (F : Nat → Prop) (v : Value) (b2 b3 bx l D : Nat) (rec : Loop) (r : Tapi_Term) (W : World) : Prop where
  ex : ∃ (S : Nat → Prop) (vs : Array Value) (t : TypeId), W.heap[b3]? = some (.cells vs t (0, 0)) ∧ All2 (C.Rep W S) (cTapi_Term r) vs.toList ∧ (∀ b, S b → b < W.heap.size ∧ b ≠ b2 ∧ b ≠ b3 ∧ b ≠ l ∧ b ≠ D ∧ (F b ∨ w.heap.size ≤ b)) ∧ ∀ b, F b → S b
  ext : Ext w W
  box : W.heap[bx]? = some (.cells #[v] 22 (0, 0))
  two : ∃ (vs : Array Value) (t : TypeId), W.heap[b2]? = some (.cells vs t (0, 0)) ∧ ∀ (W' : World) (S' : Nat → Prop), All2 (C.Rep W' S') (kt 0 .nils) vs.toList
  lp : W.heap[l]? = some (.loop rec)
  dfr : W.heap[D]? = some (.deferred (some []))
structure LFacts (w : World) (F : Nat → Prop) (b2 b3 bx l D : Nat) : Prop where
  f : ∀ b, F b → b < w.heap.size
  n2 : w.heap.size ≤ b2
  n3 : w.heap.size ≤ b3
  nx : w.heap.size ≤ bx
  nl : w.heap.size ≤ l
  nd : w.heap.size ≤ D
  h23 : b2 ≠ b3
  h2x : b2 ≠ bx
  h3x : b3 ≠ bx
theorem LInv.ne_l {w : World} {F : Nat → Prop} {v : Value} {b2 b3 bx l D : Nat} {rec : Loop} {r : Tapi_Term} {W : World} (h : LInv w F v b2 b3 bx l D rec r W) : b3 ≠ l ∧ b2 ≠ l ∧ bx ≠ l ∧ D ≠ l ∧ b3 ≠ D ∧ b2 ≠ D ∧ bx ≠ D := by
  obtain ⟨S, vs, t, h3, _⟩ := h.ex
  obtain ⟨vs2, t2, h2, _⟩ := h.two
  refine ⟨?_, ?_, ?_, ?_, ?_, ?_, ?_⟩ <;> rintro rfl
  · have := h.lp; rw [h3] at this; cases this
  · have := h.lp; rw [h2] at this; cases this
  · have := h.lp; rw [h.box] at this; cases this
  · have := h.lp; rw [h.dfr] at this; cases this
  · have := h.dfr; rw [h3] at this; cases this
  · have := h.dfr; rw [h2] at this; cases this
  · have := h.dfr; rw [h.box] at this; cases this
theorem in_heap {W : World} {b : Nat} {o : Obj} (h : W.heap[b]? = some o) : b < W.heap.size := (Array.getElem?_eq_some_iff.1 h).1
theorem LInv.lt {w : World} {F : Nat → Prop} {v : Value} {b2 b3 bx l D : Nat} {rec : Loop} {r : Tapi_Term} {W : World} (h : LInv w F v b2 b3 bx l D rec r W) : b2 < W.heap.size ∧ b3 < W.heap.size ∧ bx < W.heap.size ∧ l < W.heap.size ∧ D < W.heap.size := by
  obtain ⟨S, vs, t, h3, _⟩ := h.ex
  obtain ⟨vs2, t2, h2, _⟩ := h.two
  exact ⟨in_heap h2, in_heap h3, in_heap h.box, in_heap h.lp, in_heap h.dfr⟩
theorem LInv.more {w : World} {F : Nat → Prop} {v : Value} {b2 b3 bx l D : Nat} {rec : Loop} {r : Tapi_Term} {W W' : World} (h : LInv w F v b2 b3 bx l D rec r W) (e : Ext W W') : LInv w F v b2 b3 bx l D rec r W' := by
  obtain ⟨l2, l3, lx, ll, ld⟩ := h.lt
  obtain ⟨S, vs, t, h3, hr, hS, hF⟩ := h.ex
  obtain ⟨vs2, t2, h2, h2r⟩ := h.two
  exact ⟨⟨S, vs, t, (e.old _ l3).trans h3, hr.imp fun c u hc => e.rep (fun b hb => (hS b hb).1) hc, fun b hb => ⟨Nat.lt_of_lt_of_le (hS b hb).1 e.size, (hS b hb).2⟩, hF⟩, h.ext.trans e, (e.old _ lx).trans h.box, ⟨vs2, t2, (e.old _ l2).trans h2, h2r⟩, (e.old _ ll).trans h.lp, (e.old _ ld).trans h.dfr⟩
theorem Ob.Rep.is {W : World} {S : Nat → Prop} {β : Nat → Option Nat} {b : Nat} {ob : Ob} (h : ob.Rep W S β b) : ∃ vs t, W.heap[b]? = some (.cells vs t (0, 0)) := by
  cases ob with
  | var cells => obtain ⟨vs, t, h, _⟩ := h; exact ⟨vs, t, h⟩
  | arr sz rows more => obtain ⟨vs, t, h, _⟩ := h; exact ⟨vs, t, h⟩
theorem kt_rep {W : World} {S : Nat → Prop} {k : Int} {c c' : C} : ∀ {vs : List Value}, All2 (C.Rep W S) (kt k c) vs → (∀ v, C.Rep W S c v → C.Rep W S c' v) → All2 (C.Rep W S) [.int .i64 k, .int .i64 0, .bool false, .sl 1 [], .int .u64 0, .str (ByteArray.mk #[]), c'] vs
  | [v0, v1, v2, v3, v4, v5, v6], h, hc => by
    obtain ⟨h0, h1, h2, h3, h4, h5, h6, h7⟩ := h
    refine ⟨h0, h1, h2, ?_, h4, h5, hc _ h6, h7⟩
    have h3' : v3 = .slice none 0 0 := by simpa only [C.Rep] using h3
    subst h3'
    simp only [C.Rep]
    exact .inl ⟨trivial, none, rfl⟩
  | [], h, _ => h.elim
  | [_], h, _ => h.2.elim
  | [_, _], h, _ => h.2.2.elim
  | [_, _, _], h, _ => h.2.2.2.elim
  | [_, _, _, _], h, _ => h.2.2.2.2.elim
  | [_, _, _, _, _], h, _ => h.2.2.2.2.2.elim
  | [_, _, _, _, _, _], h, _ => h.2.2.2.2.2.2.elim
  | _ :: _ :: _ :: _ :: _ :: _ :: _ :: _ :: _, h, _ => h.2.2.2.2.2.2.2.elim
noncomputable def recL (fn : FuncId) (tm : Array Value) (D : Nat) : Loop := { state := .ready, pending := none, fn := fn, tmps := tm, params := #[9, 10], assign := .region aI aO false, body := .block 1 (.region yI yO false), defers := D }
theorem fold_L (tm : Array Value) (p q : Value) : ((#[9, 10] : Array Tmp).zip #[p, q]).foldl (fun (tmps : Array Value) (x : Tmp × Value) => match x with | (t, a) => tmps.setIfInBounds t a) tm = (tm.setIfInBounds 9 p).setIfInBounds 10 q := by kernel_rfl
theorem list_round {w : World} {F : Nat → Prop} {v : Value} {b2 b3 bx l D : Nat} (hf : LFacts w F b2 b3 bx l D) {tm : Array Value} (htm : tm.size = 16) (ht3 : tm[3]? = some (.pointer (some ⟨b3, 0, none⟩))) {fn : FuncId} {x y : Tapi_Term} {i : Int} {el : Value} {S' : Nat → Prop} {m : Nat} {W : World}
    (hW : LInv w F v b2 b3 bx l D (recL fn tm D) y W) (hel : ∃ vs : Array Value, el = .agg vs ∧ All2 (C.Rep W S') (cTapi_Term x) vs.toList) (hS' : ∀ b, S' b → b < W.heap.size ∧ (F b ∨ b = bx ∨ m ≤ b)) (hm : b2 < m ∧ b3 < m ∧ l < m ∧ D < m ∧ w.heap.size ≤ m) :
    YieldAt (wideR none) 0 Try.prog l #[.int .i64 i, el] W fun e W' => e = .returned (.bool true) ∧ LInv w F v b2 b3 bx l D (recL fn tm D) (consTm x y) W' := by
  obtain ⟨S, vs3, t3, hb3, hr3, hS, hFS⟩ := hW.ex
  obtain ⟨n3l, n2l, nxl, nDl, n3D, n2D, nxD⟩ := hW.ne_l
  obtain ⟨l2, l3, lx, ll, ld⟩ := hW.lt
  obtain ⟨m2, m3, ml, mD, mw⟩ := hm
  refine ⟨fn, _, .region aI aO false, .block 1 (.region yI yO false), run_yield hW.lp rfl, roundIn_of_wpIn trivial ?_⟩
  have hfold := fold_L tm (.int .i64 i) el
  show (Code.region aI aO false).wpIn (wideR (some l)) 0 Try.prog _ { tmps := ((#[9, 10] : Array Tmp).zip #[.int .i64 i, el]).foldl (fun (tmps : Array Value) (x : Tmp × Value) => match x with | (t, a) => tmps.setIfInBounds t a) tm, defers := [] } W
  rw [hfold]
  show (Code.region aI aO false).wpIn (wideR (some l)) 0 Try.prog _ { tmps := (tm.setIfInBounds 9 (.int .i64 i)).setIfInBounds 10 el, defers := [] } W
  have hSk : ∀ b, (S b ∨ S' b) → b < W.heap.size ∧ b ≠ b2 ∧ b ≠ b3 ∧ b ≠ l ∧ b ≠ D ∧ (F b ∨ w.heap.size ≤ b) := by
    rintro b (hb | hb)
    · exact hS b hb
    · obtain ⟨k1, k2⟩ := hS' b hb
      refine ⟨k1, ?_⟩
      rcases k2 with k2 | rfl | k2
      · have := hf.f b k2
        have := hf.n2; have := hf.n3; have := hf.nl; have := hf.nd
        exact ⟨by omega, by omega, by omega, by omega, .inl k2⟩
      · exact ⟨fun e => hf.h2x e.symm, fun e => hf.h3x e.symm, nxl, nxD, .inr hf.nx⟩
      · exact ⟨by omega, by omega, by omega, by omega, .inr (by omega)⟩
  have s0 : Sim { w0 := W, own0 := fun b => b = b3, S0 := fun b => S b ∨ S' b, n0 := 100, par := fun s b => s = 103 ∧ b = some b3 } (fun s => if s = 103 then some b3 else none) (fun b => S b ∨ S' b) (sR x y) { tmps := (tm.setIfInBounds 9 (.int .i64 i)).setIfInBounds 10 el, defers := [] } W := by
    refine ⟨rfl, ?_, fun s o b hm hb => ?_, fun s o hm hb => ?_, fun s o s' o' b hm hm' _ _ => ?_, fun b hb => (hSk b hb).1, fun b hb => hb, Nat.le_refl _, fun _ _ _ => rfl, rfl, rfl, rfl, fun s b hm => ?_, fun b hb => .inl hb, ShMono.refl _⟩
    · refine All2.mk (by rw [show ((tm.setIfInBounds 9 (.int .i64 i)).setIfInBounds 10 el).toList.length = 16 by simp [htm]]; rfl) fun j z u hz hu => ?_
      rw [Array.getElem?_toList] at hu
      by_cases h3 : j = 3
      · subst h3
        cases hz
        rw [Array.getElem?_setIfInBounds_ne (by decide), Array.getElem?_setIfInBounds_ne (by decide), ht3] at hu
        cases hu
        exact ⟨b3, rfl, rfl⟩
      · by_cases h10 : j = 10
        · subst h10
          cases hz
          rw [Array.getElem?_setIfInBounds_self_of_lt (by simp [htm])] at hu
          cases hu
          obtain ⟨vs, e, hr⟩ := hel
          exact ⟨vs, e, All2.map (R := AC.Rep W _ _) AC.d (hr.imp fun c u hc => C.Rep.mono (fun b hb => .inr hb) (SameOn.refl _ _) c u hc)⟩
        · have : z = .bad := by
            match j, hz with
            | 0, hz => cases hz; rfl
            | 1, hz => cases hz; rfl
            | 2, hz => cases hz; rfl
            | 3, _ => exact absurd rfl h3
            | 4, hz => cases hz; rfl
            | 5, hz => cases hz; rfl
            | 6, hz => cases hz; rfl
            | 7, hz => cases hz; rfl
            | 8, hz => cases hz; rfl
            | 9, hz => cases hz; rfl
            | 10, _ => exact absurd rfl h10
            | 11, hz => cases hz; rfl
            | 12, hz => cases hz; rfl
            | 13, hz => cases hz; rfl
            | 14, hz => cases hz; rfl
            | 15, hz => cases hz; rfl
            | n + 16, hz =>
              have := (List.getElem?_eq_some_iff.1 hz).1
              have : (sR x y).fr.length = 16 := rfl
              omega
          subst this
          trivial
    · simp only [sR, List.mem_singleton, Prod.mk.injEq] at hm
      obtain ⟨rfl, rfl⟩ := hm
      simp only [if_true, Option.some.injEq] at hb
      subst hb
      exact ⟨⟨vs3, t3, hb3, All2.map (R := AC.Rep W _ _) AC.d (hr3.imp fun c u hc => C.Rep.mono (fun b hb => .inl hb) (SameOn.refl _ _) c u hc)⟩, fun h => (hSk _ h).2.2.1 rfl, .inl rfl⟩
    · simp only [sR, List.mem_singleton, Prod.mk.injEq] at hm
      obtain ⟨rfl, rfl⟩ := hm
      simp at hb
    · simp only [sR, List.mem_singleton, Prod.mk.injEq] at hm hm'
      rw [hm.1, hm'.1]
    · obtain ⟨rfl, rfl⟩ := hm
      exact ⟨by show 100 ≤ 103; decide, by simp⟩
  refine region_wideR 0 (some l) (runR x y) (.cons trivial .nil) ndR s0 (fun _ => False) (fun _ _ _ h => h.elim) ?_
  intro β1 S1 a1 W1 hs1 _
  simp only [Exit.then]
  have p1 : β1 103 = some b3 := (hs1.par 103 (some b3) ⟨rfl, rfl⟩).2
  have hl1 : W1.heap[l]? = some (.loop (recL fn tm D)) := (hs1.old l ll (fun e => n3l e.symm)).trans hW.lp
  refine ⟨_, run_beginRound hl1 rfl, ?_⟩
  have hS1 : ∀ b, S1 b → (S b ∨ S' b) ∨ b = b3 ∨ W.heap.size ≤ b := fun b hb => hs1.src b hb
  have hn3 : ¬ S1 b3 := (hs1.ob 103 (.var (aTapi_Term y)) b3 (by simp [sS]) p1).2.1
  have s2 := hs1.turnObj l (.loop { recL fn tm D with state := .busy }) (fun h => by
    rcases hS1 l h with h | h | h
    · exact (hSk l h).2.2.2.1 rfl
    · exact n3l h.symm
    · omega) (fun s ob b hm hb e => by
    obtain ⟨vs, t, h⟩ := Ob.Rep.is (hs1.ob s ob b hm hb).1
    rw [e, hl1] at h
    cases h) (by unfold World.shape?; rw [hl1])
  refine wpIn_block ?_
  refine region_wideR 0 (some l) (runS x y) (.cons trivial (.cons trivial (.cons trivial (.cons ⟨rfl, rfl⟩ (.cons ⟨rfl, rfl⟩ (.cons ⟨rfl, rfl⟩ .nil)))))) ndS s2 (fun _ => False) (fun _ _ _ h => h.elim) ?_
  intro β2 S2 a2 W2 hs2 _
  simp only [Exit.inBlock]
  have p2 : β2 103 = some b3 := (hs2.par 103 (some b3) ⟨rfl, rfl⟩).2
  have z1 : W.heap.size ≤ W1.heap.size := hs1.size
  have own_b : ∀ b, (∃ s ob, (s, ob) ∈ (sS x y).obs ∧ β1 s = some b) → b = b3 ∨ W.heap.size ≤ b := by
    rintro b ⟨s, ob, hm, hb⟩
    have h3 := (hs1.ob s ob b hm hb).2.2
    rcases h3 with h | h
    · exact .inl h
    · exact .inr h
  have not_own : ∀ b, b < W.heap.size → b ≠ b3 → ¬ ∃ s ob, (s, ob) ∈ (sS x y).obs ∧ β1 s = some b := fun b h1 h2 h => by
    rcases own_b b h with h | h
    · exact h2 h
    · omega
  have hl2 : W2.heap[l]? = some (.loop { recL fn tm D with state := .busy }) := by
    refine (hs2.old l ?_ (not_own l ll (fun e => n3l e.symm))).trans ?_
    · show l < (W1.putObj l _).heap.size; rw [World.putObj_size]; omega
    · exact World.putObj_heap_same (by omega)
  refine ⟨_, _, run_endRound none hl2, rfl, ?_⟩
  generalize hW' : W2.putObj l _ = W'
  have z2 : W1.heap.size ≤ W2.heap.size := by have := hs2.size; rwa [show (({ w0 := W1.putObj l (.loop { recL fn tm D with state := .busy }), own0 := fun b => ∃ s ob, (s, ob) ∈ (sS x y).obs ∧ β1 s = some b, S0 := S1, n0 := 100, par := fun s b => s = 103 ∧ b = some b3 } : Gh).w0.heap.size) = W1.heap.size from World.putObj_size] at this
  have zW : W'.heap.size = W2.heap.size := by rw [← hW', World.putObj_size]
  have keep : ∀ b, b < W.heap.size → b ≠ b3 → b ≠ l → W'.heap[b]? = W.heap[b]? := fun b h1 h2 h3 => by
    rw [← hW', World.putObj_heap_other h3]
    refine (hs2.old b ?_ (not_own b h1 h2)).trans ?_
    · show b < (W1.putObj l _).heap.size; rw [World.putObj_size]; omega
    · show (W1.putObj l _).heap[b]? = _
      rw [World.putObj_heap_other h3]
      exact hs1.old b h1 h2
  have hn3' : ¬ S2 b3 := (hs2.ob 103 (.var ((kt 8 (.sl 7 [cTapi_Term x, cTapi_Term y])).map .d)) b3 (by simp [sT]) p2).2.1
  have hS2 : ∀ b, S2 b → (S b ∨ S' b) ∨ W.heap.size ≤ b := fun b hb => by
    rcases hs2.src b hb with h | h | h
    · rcases hS1 b h with h | h | h
      · exact .inl h
      · exact absurd (h ▸ hb) hn3'
      · exact .inr h
    · rcases own_b b h with h | h
      · exact absurd (h ▸ hb) hn3'
      · exact .inr h
    · right
      have : W1.heap.size ≤ b := by rwa [show (({ w0 := W1.putObj l (.loop { recL fn tm D with state := .busy }), own0 := fun b => ∃ s ob, (s, ob) ∈ (sS x y).obs ∧ β1 s = some b, S0 := S1, n0 := 100, par := fun s b => s = 103 ∧ b = some b3 } : Gh).w0.heap.size) = W1.heap.size from World.putObj_size] at h
      omega
  have hS2' : ∀ b, S2 b → b < W'.heap.size ∧ b ≠ b2 ∧ b ≠ b3 ∧ b ≠ l ∧ b ≠ D ∧ (F b ∨ w.heap.size ≤ b) := fun b hb => by
    have hlt := hs2.lt b hb
    rcases hS2 b hb with h | h
    · exact ⟨by omega, (hSk b h).2⟩
    · have := hW.ext.size
      exact ⟨by omega, by omega, by omega, by omega, by omega, .inr (by omega)⟩
  obtain ⟨vs, t, k1, k2⟩ := (hs2.ob 103 (.var ((kt 8 (.sl 7 [cTapi_Term x, cTapi_Term y])).map .d)) b3 (by simp [sT]) p2).1
  have k3 : All2 (C.Rep W2 S2) (kt 8 (.sl 7 [cTapi_Term x, cTapi_Term y])) vs.toList := All2.of_map (R := AC.Rep W2 S2 β2) AC.d k2
  have k4 : All2 (C.Rep W' S2) (kt 8 (.sl 7 [cTapi_Term x, cTapi_Term y])) vs.toList := k3.imp fun c u hc => C.Rep.mono (fun _ h => h) (fun b hb => by rw [← hW']; exact World.putObj_heap_other (hS2' b hb).2.2.2.1) c u hc
  have k5 : All2 (C.Rep W' S2) (cTapi_Term (consTm x y)) vs.toList := by
    have hxy : ([x, y] : List Tapi_Term).map rTapi_Term = [cTapi_Term x, cTapi_Term y] := by
      rw [List.map_cons, List.map_cons, List.map_nil, rTapi_Term_eq x, rTapi_Term_eq y]; rfl
    show All2 (C.Rep W' S2) [.int .i64 8, .int .i64 0, .bool false, .sl 1 [], .int .u64 0, .str (ByteArray.mk #[]), .sl 7 (([x, y] : List Tapi_Term).map rTapi_Term)] vs.toList
    rw [hxy]
    exact kt_rep k4 fun _ h => h
  obtain ⟨vs2, t2, q2, q2r⟩ := hW.two
  refine ⟨⟨S2, vs, t, by rw [← hW', World.putObj_heap_other n3l]; exact k1, k5, hS2', fun b hb => hs2.s0 b (hs1.s0 b (.inl (hFS b hb)))⟩, ?_, (keep bx lx (fun e => hf.h3x e.symm) nxl).trans hW.box, ⟨vs2, t2, (keep b2 l2 hf.h23 n2l).trans q2, q2r⟩, ?_, (keep D ld (fun e => n3D e.symm) nDl).trans hW.dfr⟩
  · have := hW.ext.size
    refine ⟨by omega, fun b hb => ?_, ?_, ?_, ?_⟩
    · have := hf.n3
      have := hf.nl
      exact (keep b (by omega) (by omega) (by omega)).trans (hW.ext.old b hb)
    · rw [← hW']; exact (hs2.os.trans hs1.os).trans hW.ext.os
    · rw [← hW']; exact (hs2.tape.trans hs1.tape).trans hW.ext.tape
    · rw [← hW']; exact (hs2.output.trans hs1.output).trans hW.ext.output
  · rw [← hW']
    exact World.putObj_heap_same (by omega)
abbrev p5 : List Nat := [1, 1, 0, 0]
theorem szC : (lO p5).size = 2 := by kernel_rfl
theorem opC0 : ∃ o, (lO p5)[0]? = some o ∧ o.op = .move (.tmp 0) ∧ o.dst = some 7 ∧ o.guard = none := ⟨(lO p5).getD 0 default, by kernel_rfl, by kernel_rfl, by kernel_rfl, by kernel_rfl⟩
theorem opC1 : ∃ o, (lO p5)[1]? = some o ∧ (∃ ts, o.op = .call { callee := .value (.func 47), args := #[.tmp 7], argTypes := ts }) ∧ o.dst = some 8 ∧ o.guard = none := ⟨(lO p5).getD 1 default, by kernel_rfl, ⟨#[22], by kernel_rfl⟩, by kernel_rfl, by kernel_rfl⟩
theorem resE (r : Tapi_Term) : resultsA Try.prog (sF r) Try.f13.results.toList = some ([.v (.agg (aTapi_Term r))], [True]) := by kernel_rfl
theorem noRun47 : (Try.f47.name == "runtime.NumGoroutine") = false := by kernel_rfl
theorem body47 : Try.f47.body.isNone = false := by kernel_rfl
theorem put_here {a : Act} {d : Nat} {v : Value} (h : d < a.tmps.size) : (a.put (some d) v).tmps[d]? = some v := by
  show (a.tmps.setIfInBounds d v)[d]? = _
  rw [Array.getElem?_setIfInBounds_self_of_lt h]
theorem put_size {a : Act} {d : Option Nat} {v : Value} : (a.put d v).tmps.size = a.tmps.size := by
  cases d with
  | none => rfl
  | some d => show (a.tmps.setIfInBounds d v).size = _; rw [Array.size_setIfInBounds]
theorem all_bad {w : World} {S : Nat → Prop} {β : Nat → Option Nat} {fr : List AV} {tm : Array Value} (L : List Nat) (hlen : fr.length = tm.size) (hb : ∀ j, j ∉ L → ∀ z, fr[j]? = some z → z = .bad) (h : ∀ j ∈ L, ∀ z u, fr[j]? = some z → tm[j]? = some u → z.Rep w S β u) : All2 (AV.Rep w S β) fr tm.toList := by
  refine All2.mk (by rw [hlen, Array.length_toList]) fun j z u hz hu => ?_
  rw [Array.getElem?_toList] at hu
  by_cases hj : j ∈ L
  · exact h j hj z u hz hu
  · have := hb j hj z hz
    subst this
    trivial
theorem flat_all {W W' : World} {S S' : Nat → Prop} : ∀ {cs : List C} {vs : List Value}, (∀ c ∈ cs, c.flat = true) → All2 (C.Rep W S) cs vs → All2 (C.Rep W' S') cs vs
  | [], [], _, _ => trivial
  | c :: cs, v :: vs, hf, h => ⟨C.Rep.flat (hf c (by simp)) h.1, flat_all (fun x hx => hf x (by simp [hx])) h.2⟩
  | [], _ :: _, _, h => h.elim
  | _ :: _, [], _, h => h.elim
theorem kt_flat : ∀ c ∈ kt 0 .nils, c.flat = true := by simp [kt, C.flat]
theorem list_calls {w : World} {F : Nat → Prop} {v : Value} {xs : List Tapi_Term} (hF : ∀ b, F b → b < w.heap.size) (hv : C.Rep w F (.sl 7 (xs.map rTapi_Term)) v) (hlen : xs.length < 9223372036854775807) :
    Calls Try.prog 13 #[v] w fun e W' => ∃ (u : Value) (S : Nat → Prop), e = .returned u ∧ (∃ vs : Array Value, u = .agg vs ∧ All2 (C.Rep W' S) (cTapi_Term (listTm xs)) vs.toList) ∧ (∀ b, F b → S b) ∧ (∀ b, S b → b < W'.heap.size ∧ (F b ∨ w.heap.size ≤ b)) ∧ Ext w W' := by
  refine (callsIn_wide (n := 0)).1 (callsIn_of_wp_marks Try.func13 list_body trivial ?_)
  have hnt : Try.f13.ntmps = 16 := by kernel_rfl
  rw [hnt]
  obtain ⟨ad, len, cap, hvs⟩ : ∃ ad len cap, v = .slice ad len cap := by
    simp only [C.Rep] at hv
    rcases hv with ⟨_, a, h⟩ | ⟨b, off, cap, h, _⟩
    · exact ⟨_, _, _, h⟩
    · exact ⟨_, _, _, h⟩
  generalize ha0 : ({ tmps := #[v] ++ Array.replicate (16 - (#[v] : Array Value).size) undef, defers := [] } : Act) = a0
  have z0 : a0.tmps[0]? = some v := by rw [← ha0]; kernel_rfl
  have zs : a0.tmps.size = 16 := by rw [← ha0]; kernel_rfl
  have zd : a0.defers = [] := by rw [← ha0]
  have s0 : Sim { w0 := w, own0 := fun _ => False, S0 := F, n0 := 100, par := fun _ _ => False } (fun _ => none) F (sA xs) a0 w := by
    refine ⟨zd, ?_, fun s o b hm => (by cases hm), fun s o hm => (by cases hm), fun s o s' o' b hm => (by cases hm), hF, fun b hb => hb, Nat.le_refl _, fun _ _ _ => rfl, rfl, rfl, rfl, fun _ _ hm => hm.elim, fun b hb => .inl hb, ShMono.refl _⟩
    refine all_bad [0] (by rw [zs]; rfl) (fun j hj z hz => ?_) (fun j hj z u hz hu => ?_)
    · match j, hz with
      | 0, _ => exact absurd (by simp) hj
      | n + 1, hz =>
        have hz' : (bads 15)[n]? = some z := hz
        rw [bads, List.getElem?_replicate] at hz'
        split at hz'
        · injection hz' with hz'; exact hz'.symm
        · cases hz'
    · simp only [List.mem_singleton] at hj
      subst hj
      cases hz
      rw [z0] at hu
      cases hu
      exact hv
  refine wpIn_seq ?_
  refine region_wideR 0 none (runA xs) .nil ndA s0 (fun j => j = 0) (dst_of [2] okA (by rintro j hj rfl; simp at hj)) ?_
  intro β1 S1 a1 W1 hs1 hj1
  simp only [Exit.then]
  refine wpIn_seq ?_
  refine region_wideR 0 none (runB xs) (.cons trivial .nil) ndB hs1 (fun j => j = 0) (dst_of [6, 3] okB (by rintro j hj rfl; simp at hj)) ?_
  intro β2 S2 a2 W2 hs2 hj2
  simp only [Exit.then]
  have t0 : a2.tmps[0]? = some v := (hj2 0 rfl).trans ((hj1 0 rfl).trans z0)
  have tsz : a2.tmps.size = 16 := size_of hs2 rfl
  obtain ⟨v2, hv2, b2, hb2, rfl⟩ := hs2.fr.get 2 (ptrA 2) rfl
  obtain ⟨v3, hv3, b3, hb3, rfl⟩ := hs2.fr.get 3 (ptrA 3) rfl
  rw [Array.getElem?_toList] at hv2 hv3
  have m2 : (2, Ob.var ((kt 0 .nils).map .d)) ∈ (sC xs).obs := by simp [sC]
  have m3 : (3, Ob.var ((kt 7 .nils).map .d)) ∈ (sC xs).obs := by simp [sC]
  obtain ⟨⟨vs2, t2, h2, r2⟩, nS2, o2⟩ := hs2.ob 2 _ b2 m2 hb2
  obtain ⟨⟨vs3, t3, h3, r3⟩, nS3, o3⟩ := hs2.ob 3 _ b3 m3 hb3
  have h23 : b2 ≠ b3 := fun e => by
    have := hs2.inj 2 _ 3 _ b2 m2 m3 hb2 (e ▸ hb3)
    omega
  have n2 : w.heap.size ≤ b2 := o2.resolve_left fun h => h
  have n3 : w.heap.size ≤ b3 := o3.resolve_left fun h => h
  have e2 : Ext w W2 := hs2.ext (fun _ h => h)
  have hS2 : ∀ b, S2 b → F b ∨ w.heap.size ≤ b := fun b hb => by
    rcases hs2.src b hb with h | h | h
    · exact .inl h
    · exact h.elim
    · exact .inr h
  obtain ⟨o0, ho0, hop0, hdst0, hg0⟩ := opC0
  obtain ⟨o1, ho1, ⟨ts1, hop1⟩, hdst1, hg1⟩ := opC1
  refine wpIn_seq (wpIn_seq (wpIn_region ?_))
  rw [szC]
  refine wpOpsIn_step (rest := [1]) ho0 hg0 ⟨fun _ _ => trivial, ?_⟩
  rw [Oper.semAt_eq _ _ _ (by rw [hop0]; intro c h; cases h), exec_move (.inl hop0)]
  show wpOpsIn _ 0 Try.prog (lO p5) _ [1] (a2.put o0.dst (a2.eval (.tmp 0))) W2
  rw [hdst0, eval_at t0]
  generalize ha3 : a2.put (some 7) v = a3
  have q3 : ∀ j, some 7 ≠ some j → a3.tmps[j]? = a2.tmps[j]? := fun j hj => by rw [← ha3]; exact put_slot hj
  have q7 : a3.tmps[7]? = some v := by rw [← ha3]; exact put_here (by omega)
  have q3s : a3.tmps.size = 16 := by rw [← ha3, put_size, tsz]
  have q3d : a3.defers = [] := by rw [← ha3]; exact hs2.defers
  refine wpOpsIn_step (rest := []) ho1 hg1 ⟨fun _ _ => trivial, ?_⟩
  rw [Oper.semAt_eq _ _ _ (by rw [hop1]; intro c h; cases h), exec_call hop1 rfl (by rfl : a3.eval (.func 47) = .func (.func 47) #[] #[]) Try.func47 noRun47 body47]
  refine ⟨fun h => (by cases h), ?_⟩
  have hargs : (#[Operand.tmp 7].map a3.eval ++ #[] : Array Value) = #[.slice ad len cap] := by
    rw [← hvs]; simp [eval_at q7]
  show CallsIn _ _ _ _ (#[Operand.tmp 7].map a3.eval ++ #[]) _ _
  rw [hargs]
  refine (back_make ad len cap W2).mono ?_
  rintro e W3 ⟨rfl, hW3⟩
  rw [← hvs] at hW3
  show Exit.then _ _ .normal (a3.put o1.dst (.func (.func 72) #[] #[.pointer (some ⟨W2.heap.size, 0, none⟩)])) W3
  rw [hdst1]
  generalize ha4 : a3.put (some 8) (.func (.func 72) #[] #[.pointer (some ⟨W2.heap.size, 0, none⟩)]) = a4
  have q4 : ∀ j, some 8 ≠ some j → a4.tmps[j]? = a3.tmps[j]? := fun j hj => by rw [← ha4]; exact put_slot hj
  have q8 : a4.tmps[8]? = some (.func (.func 72) #[] #[.pointer (some ⟨W2.heap.size, 0, none⟩)]) := by rw [← ha4]; exact put_here (by omega)
  have q4s : a4.tmps.size = 16 := by rw [← ha4, put_size, q3s]
  have q4d : a4.defers = [] := by rw [← ha4]; exact q3d
  have q42 : a4.tmps[2]? = some (.pointer (some ⟨b2, 0, none⟩)) := (q4 2 (by simp)).trans ((q3 2 (by simp)).trans hv2)
  have q43 : a4.tmps[3]? = some (.pointer (some ⟨b3, 0, none⟩)) := (q4 3 (by simp)).trans ((q3 3 (by simp)).trans hv3)
  simp only [Exit.then]
  refine wpIn_block (wpIn_rangeFunc ?_)
  intro fn hfn
  have sz3 : W3.heap.size = W2.heap.size + 1 := by rw [hW3, World.size_alloc]
  generalize hW4 : (W3.alloc (.deferred (some []))).alloc (.loop (recL fn a4.tmps W3.heap.size)) = W4
  have sz4 : W4.heap.size = W3.heap.size + 2 := by rw [← hW4, World.size_alloc, World.size_alloc]
  have e24 : Ext W2 W4 := by rw [← hW4, hW3]; exact (((Ext.refl W2).alloc _).alloc _).alloc _
  refine ⟨W3.heap.size + 1, [{ target := .collected W3.heap.size, args := #[] }], W4, { target := .fn (.func 72) #[.pointer (some ⟨W2.heap.size, 0, none⟩)], args := #[.func (.yield (W3.heap.size + 1)) #[] #[]] }, W4, 72,
    #[.func (.yield (W3.heap.size + 1)) #[] #[], .pointer (some ⟨W2.heap.size, 0, none⟩)], W4, ?_, ?_, fun _ _ => trivial, ?_, fun h => (by cases h), ?_⟩
  · rw [← hW4]; exact run_enterLoop_outer _ _ _ _ _
  · simp only [resolve, eval_at q8]
    simp [go_sem]
  · simp [invoke, go_sem]
  have hlp : W4.heap[W3.heap.size + 1]? = some (.loop (recL fn a4.tmps W3.heap.size)) := by
    rw [← hW4]
    have := World.alloc_heap_new (W3.alloc (.deferred (some []))) (.loop (recL fn a4.tmps W3.heap.size))
    rwa [World.size_alloc] at this
  have hdf : W4.heap[W3.heap.size]? = some (.deferred (some [])) := by
    rw [← hW4]
    exact (Below.heap_alloc _ _ _ (by rw [World.size_alloc]; omega)).trans (World.alloc_heap_new W3 _)
  have hbx : W4.heap[W2.heap.size]? = some (.cells #[v] 22 (0, 0)) := by
    rw [← hW4]
    refine (Below.heap_alloc _ _ _ (by rw [World.size_alloc]; omega)).trans ((Below.heap_alloc _ _ _ (by omega)).trans ?_)
    rw [hW3]
    exact World.alloc_heap_new W2 _
  have l2 : b2 < W2.heap.size := in_heap h2
  have l3 : b3 < W2.heap.size := in_heap h3
  have es := e2.size
  have hf : LFacts w F b2 b3 W2.heap.size (W3.heap.size + 1) W3.heap.size := ⟨hF, n2, n3, by omega, by omega, by omega, h23, by omega, by omega⟩
  have r2' : ∀ (W' : World) (S' : Nat → Prop), All2 (C.Rep W' S') (kt 0 .nils) vs2.toList := fun W' S' => flat_all kt_flat (All2.of_map (R := AC.Rep W2 S2 β2) AC.d r2)
  have i0 : LInv w F v b2 b3 W2.heap.size (W3.heap.size + 1) W3.heap.size (recL fn a4.tmps W3.heap.size) nilTm W4 := by
    refine ⟨⟨S2, vs3, t3, (e24.old b3 l3).trans h3, ?_, fun b hb => ?_, hs2.s0⟩, e2.trans e24, hbx, ⟨vs2, t2, (e24.old b2 l2).trans h2, r2'⟩, hlp, hdf⟩
    · have k3 : All2 (C.Rep W2 S2) (kt 7 .nils) vs3.toList := All2.of_map (R := AC.Rep W2 S2 β2) AC.d r3
      refine kt_rep (k := 7) (c := .nils) (c' := .sl 7 []) (k3.imp fun c u hc => e24.rep hs2.lt hc) fun u hu => ?_
      have hu' : u = .slice none 0 0 := by simpa only [C.Rep] using hu
      subst hu'
      simp only [C.Rep]
      exact .inl ⟨trivial, none, rfl⟩
    · have := hs2.lt b hb
      exact ⟨by omega, fun e => nS2 (e ▸ hb), fun e => nS3 (e ▸ hb), by omega, by omega, hS2 b hb⟩
  have hI : BackInv (fun k W => LInv w F v b2 b3 W2.heap.size (W3.heap.size + 1) W3.heap.size (recL fn a4.tmps W3.heap.size) (listTm (xs.drop (xs.length - k))) W) F W2.heap.size (xs.map rTapi_Term) :=
    ⟨fun k W h => ⟨fun b hb => Nat.lt_of_lt_of_le (hF b hb) h.ext.size, h.lt.2.2.1⟩, fun k W h => ⟨v, by unfold World.cell?; rw [h.box]; rfl, h.ext.rep hF hv⟩, fun k W W' h e => h.more e⟩
  refine (back_iter xs hlen hI ?_ W4 ?_).mono ?_
  · rintro k x i el S' m W hk hx hInv hel hS' ⟨W0, hW0, rfl, hE⟩
    obtain ⟨y1, y2, y3, y4, y5⟩ := hW0.lt
    obtain ⟨fn', tm', as', bd', hy, hR⟩ := list_round hf q4s q43 hInv hel hS' ⟨y1, y2, y4, y5, hW0.ext.size⟩
    refine ⟨fn', tm', as', bd', hy, hR.mono ?_⟩
    rintro e W' ⟨he, hl⟩
    refine ⟨he, ?_⟩
    have hdrop : xs.drop (xs.length - (k + 1)) = x :: xs.drop (xs.length - k) := by
      have h1 := List.drop_eq_getElem_cons (l := xs) (i := xs.length - (k + 1)) (by omega)
      rw [h1, show xs.length - (k + 1) + 1 = xs.length - k by omega]
      congr 1
      have : xs[xs.length - 1 - k]? = xs[xs.length - (k + 1)]? := by congr 1; omega
      rw [this] at hx
      exact (List.getElem?_eq_some_iff.1 hx).2
    show LInv _ _ _ _ _ _ _ _ _ (listTm (xs.drop (xs.length - (k + 1)))) W'
    rw [hdrop]
    exact hl
  · show LInv _ _ _ _ _ _ _ _ _ (listTm (xs.drop (xs.length - 0))) W4
    rw [Nat.sub_zero, List.drop_length]
    exact i0
  rintro e W5 ⟨⟨u5, rfl⟩, h5⟩
  have h5' : LInv w F v b2 b3 W2.heap.size (W3.heap.size + 1) W3.heap.size (recL fn a4.tmps W3.heap.size) (listTm xs) W5 := by
    have := h5
    simp only [Nat.sub_self, List.drop_zero] at this
    exact this
  refine ⟨none, _, run_endLoop h5'.lp (by show LoopState.ready ≠ .busy; simp), ?_⟩
  simp only [Exit.inBlock, Exit.then]
  generalize hW6 : W5.putObj _ _ = W6
  rw [q4d, List.append_nil]
  obtain ⟨S5, vs5, t5, k1, k2, k3, k4⟩ := h5'.ex
  obtain ⟨vs2', t2', g2, g2r⟩ := h5'.two
  obtain ⟨d3l, d2l, dxl, dDl, d3D, d2D, dxD⟩ := h5'.ne_l
  obtain ⟨u2, u3, ux, ul, ud⟩ := h5'.lt
  have k2' : All2 (C.Rep W6 S5) (cTapi_Term (listTm xs)) vs5.toList := k2.imp fun c u hc => C.Rep.mono (fun _ h => h) (fun b hb => by rw [← hW6]; exact World.putObj_heap_other (k3 b hb).2.2.2.1) c u hc
  have sz6 : W6.heap.size = W5.heap.size := by rw [← hW6, World.putObj_size]
  have s6 : Sim { w0 := W6, own0 := fun b => b = b2 ∨ b = b3, S0 := S5, n0 := 100, par := fun _ _ => False } (fun s => if s = 102 then some b2 else if s = 103 then some b3 else none) S5 (sE (listTm xs)) { tmps := a4.tmps, defers := [] } W6 := by
    refine ⟨rfl, ?_, fun s o b hm hb => ?_, fun s o hm hb => ?_, fun s o s' o' b hm hm' hb hb' => ?_, fun b hb => by rw [sz6]; exact (k3 b hb).1, fun b hb => hb, Nat.le_refl _, fun _ _ _ => rfl, rfl, rfl, rfl, fun s b hm => hm.elim, fun b hb => .inl hb, ShMono.refl _⟩
    · refine all_bad [2, 3] (by rw [q4s]; rfl) (fun j hj z hz => ?_) (fun j hj z u hz hu => ?_)
      · match j, hz with
        | 0, hz => cases hz; rfl
        | 1, hz => cases hz; rfl
        | 2, _ => exact absurd (by simp) hj
        | 3, _ => exact absurd (by simp) hj
        | n + 4, hz =>
          have hz' : (bads 12)[n]? = some z := hz
          rw [bads, List.getElem?_replicate] at hz'
          split at hz'
          · injection hz' with hz'; exact hz'.symm
          · cases hz'
      · simp only [List.mem_cons, List.not_mem_nil, or_false] at hj
        rcases hj with rfl | rfl
        · cases hz
          rw [q42] at hu
          cases hu
          exact ⟨b2, rfl, rfl⟩
        · cases hz
          rw [q43] at hu
          cases hu
          exact ⟨b3, rfl, rfl⟩
    · simp only [sE, List.mem_cons, List.not_mem_nil, or_false, Prod.mk.injEq] at hm
      rcases hm with ⟨rfl, rfl⟩ | ⟨rfl, rfl⟩
      · simp at hb
        subst hb
        exact ⟨⟨vs5, t5, by rw [← hW6, World.putObj_heap_other d3l]; exact k1, All2.map (R := AC.Rep W6 _ _) AC.d k2'⟩, fun h => (k3 _ h).2.2.1 rfl, .inl (.inr rfl)⟩
      · simp at hb
        subst hb
        exact ⟨⟨vs2', t2', by rw [← hW6, World.putObj_heap_other d2l]; exact g2, All2.map (R := AC.Rep W6 _ _) AC.d (g2r W6 S5)⟩, fun h => (k3 _ h).2.1 rfl, .inl (.inl rfl)⟩
    · simp only [sE, List.mem_cons, List.not_mem_nil, or_false, Prod.mk.injEq] at hm
      rcases hm with ⟨rfl, rfl⟩ | ⟨rfl, rfl⟩ <;> simp at hb
    · simp only [sE, List.mem_cons, List.not_mem_nil, or_false, Prod.mk.injEq] at hm hm'
      rcases hm with ⟨rfl, rfl⟩ | ⟨rfl, rfl⟩ <;> rcases hm' with ⟨rfl, rfl⟩ | ⟨rfl, rfl⟩ <;> simp at hb hb' <;> first | rfl | (exact absurd (hb.trans hb'.symm) (by first | exact h23 | exact fun e => h23 e.symm))
  refine wpIn_seq ?_
  refine region_wideD 0 none _ (runE (listTm xs)) (.cons trivial (.cons trivial .nil)) ndE s6 ?_
  intro β7 S7 tm7 W7 hs7
  simp only [Exit.then]
  refine wpIn_ret ?_
  have hd6 : W6.heap[W3.heap.size]? = some (.deferred (some [])) := by rw [← hW6, World.putObj_heap_other dDl]; exact h5'.dfr
  have hd7 : W7.heap[W3.heap.size]? = some (.deferred (some [])) := (hs7.old _ (by rw [sz6]; exact ud) (by rintro (h | h); exact d2D h.symm; exact d3D h.symm)).trans hd6
  refine ⟨by simp, .inl ⟨_, _, rfl, run_takeDeferred hd7, ?_⟩⟩
  have hS7 : ∀ b, S7 b → S5 b ∨ (b = b2 ∨ b = b3) ∨ W6.heap.size ≤ b := fun b hb => hs7.src b hb
  have s8 := hs7.turnObj W3.heap.size (.deferred none) (fun h => by
    rcases hS7 _ h with h | h | h
    · exact (k3 _ h).2.2.2.2.1 rfl
    · rcases h with h | h
      · exact d2D h.symm
      · exact d3D h.symm
    · omega) (fun s ob b hm hb e => by
    obtain ⟨vs, t, h⟩ := Ob.Rep.is (hs7.ob s ob b hm hb).1
    rw [e, hd7] at h
    cases h) (by unfold World.shape?; rw [hd7])
  obtain ⟨us, hrun, hreps⟩ := resultsA_run s8 (resE (listTm xs)) (.cons trivial .nil)
  match us, hreps with
  | [u], hreps =>
    have hres : (results Try.f13 tm7).run Try.prog (W7.putObj W3.heap.size (.deferred none)) = .ok u (W7.putObj W3.heap.size (.deferred none)) := by
      rw [results_eq, Sem.run_bind, hrun]
      rfl
    obtain ⟨⟨vs, hu, hr⟩, _⟩ := hreps
    have z7 : W6.heap.size ≤ W7.heap.size := hs7.size
    have z5 := h5'.ext.size
    refine ⟨u, hres, u, S7, rfl, ⟨vs, hu, All2.of_map (R := AC.Rep _ S7 β7) AC.d hr⟩, fun b hb => hs7.s0 b (k4 b hb), fun b hb => ⟨by rw [World.putObj_size]; exact hs7.lt b hb, ?_⟩, ?_⟩
    · rcases hS7 b hb with h | h | h
      · exact (k3 b h).2.2.2.2.2
      · rcases h with rfl | rfl
        · exact .inr n2
        · exact .inr n3
      · have h' : W6.heap.size ≤ b := h
        right; omega
    · refine Ext.putObj ?_ (by omega) _
      refine ⟨by omega, fun b hb => ?_, ?_, ?_, ?_⟩
      · refine (hs7.old b (by show b < W6.heap.size; omega) (by rintro (h | h) <;> omega)).trans ?_
        rw [← hW6, World.putObj_heap_other (by omega)]
        exact h5'.ext.old b hb
      · refine hs7.os.trans ?_; rw [← hW6]; exact h5'.ext.os
      · refine hs7.tape.trans ?_; rw [← hW6]; exact h5'.ext.tape
      · refine hs7.output.trans ?_; rw [← hW6]; exact h5'.ext.output
  | [], hreps => exact hreps.elim
  | _ :: _ :: _, hreps => exact hreps.2.elim
end ListHand
def term_List_fin (r : Tapi_Term) : List PV := [.v (.agg (dTapi_Term r))]
open ListHand in
def term_List (N : Nat) (p0 : List Tapi_Term) : Option Tapi_Term := if p0.length ≤ 1000000000 then some (listTm p0) else none
open Go.RowKit ListHand in
theorem term_List_spec (N : Nat) (p0 : List Tapi_Term) (r : Tapi_Term) (h : term_List N p0 = some r) : FSpec Try.prog 13 [.v (.one (.dat (.sl 7 (p0.map rTapi_Term))))] (term_List_fin r) := by
  unfold term_List at h
  split at h
  case isFalse => cases h
  case isTrue hl =>
    injection h with h
    subst h
    intro w vs F bs hF hrep hnd hb
    match vs, hrep with
    | [v], hrep =>
      obtain ⟨bs1, bs2, rfl, ⟨rfl, hv⟩, h2⟩ := hrep
      have h2 : bs2 = [] := h2
      subst h2
      refine calls_mono (list_calls hF hv (by omega)) ?_
      rintro e W' ⟨u, S, rfl, ⟨us, hu, hr⟩, hFS, hS, hE⟩
      refine ⟨[u], S, [], rfl, ⟨[], [], rfl, ⟨us, hu, ?_⟩, rfl⟩, trivial, fun b hb => (by cases hb), hFS, fun b hb => ⟨(hS b hb).1, ?_⟩, fun b hb _ => hE.old b hb, hE.size, hE.os, hE.tape, hE.output, hE.sh⟩
      · exact dats_rep hr
      · rcases (hS b hb).2 with h | h
        · exact .inl h
        · exact .inr (.inr h)
    | [], hrep => exact hrep.elim
    | _ :: _ :: _, hrep => obtain ⟨_, _, _, _, h⟩ := hrep; obtain ⟨_, _, _, h, _⟩ := h
where
  dats_rep {W : World} {S : Nat → Prop} : ∀ {cs : List C} {vs : List Value}, All2 (C.Rep W S) cs vs → OCs.Rep W S (cs.map .dat) vs []
    | [], [], _ => rfl
    | c :: cs, v :: vs, h => ⟨[], [], rfl, ⟨rfl, h.1⟩, dats_rep h.2⟩
    | [], _ :: _, h => h.elim
    | _ :: _, [], h => h.elim

def weigh_scale_add_L0_H (p1 : Tapi_Term) (o532_0 : Int) (v47 : Int) : St := { fr := ([(.v (.one (.ptr 532 0)))] ++ bads 44 ++ [(.v (.one (.d (.sl 7 (p1.fArgs.map rTapi_Term))))), (.v (.one (.d (.int .i64 ((p1.fArgs.length : Nat) : Int))))), (.v (.one (.d (.int .i64 v47))))] ++ bads 12), obs := [(532, .var [.d (.int .i64 o532_0)])] }
def weigh_scale_add_L0_S0 (p1 : Tapi_Term) (o : Int) : St := { fr := bads 60, obs := [(532, .var [.d (.int .i64 o)])] }
def weigh_scale_add_L0_S1 (p1 : Tapi_Term) (o : Int) : St := { fr := bads 60, obs := [(532, .var [.d (.int .i64 o)])] }
def weigh_scale_add_fin (r : Tweigh_scale) : List PV := [.obj [.dat (.int .i64 r.fn)]]
mutual
def weigh_scale_add_L0 : Nat → Tapi_Term → Int → Int → Option ((Int) ⊕ (Int))
  | 0, _, _, _ => none
  | N + 1, p1, o532_0, v47 => if v47 < ((p1.fArgs.length : Nat) : Int) then (idx p1.fArgs v47).bind fun x5 => if o532_0 > (300 : Int) then some (.inr o532_0) else (weigh_scale_add N (Tweigh_scale.mk o532_0) x5).bind fun r7 => weigh_scale_add_L0 N p1 r7.fn (IntKind.wrap .i64 (v47 + (1 : Int))) else some (.inl o532_0)
def weigh_scale_add : Nat → Tweigh_scale → Tapi_Term → Option Tweigh_scale
  | 0, _, _ => none
  | N + 1, p0, p1 => if p1.fKind = (2 : Int) then some (Tweigh_scale.mk (IntKind.wrap .i64 ((IntKind.wrap .i64 (p0.fn + (1 : Int))) + ((p1.fNum.fMag.length : Nat) : Int)))) else if p1.fKind = (9 : Int) then some (Tweigh_scale.mk (IntKind.wrap .i64 ((IntKind.wrap .i64 (p0.fn + (1 : Int))) + (IntKind.wrap .i64 (Int.tdiv ((p1.fBytes.size : Nat) : Int) (8 : Int)))))) else if p1.fKind = (6 : Int) then (weigh_scale_add_L0 N p1 (IntKind.wrap .i64 (p0.fn + (1 : Int))) (0 : Int)).bind fun r8 => (match r8 with | .inl r9 => some (Tweigh_scale.mk r9) | .inr r10 => some (Tweigh_scale.mk r10)) else if p1.fKind = (8 : Int) then (weigh_scale_add_L0 N p1 (IntKind.wrap .i64 (p0.fn + (1 : Int))) (0 : Int)).bind fun r12 => (match r12 with | .inl r13 => some (Tweigh_scale.mk r13) | .inr r14 => some (Tweigh_scale.mk r14)) else some (Tweigh_scale.mk (IntKind.wrap .i64 (p0.fn + (1 : Int))))
end
structure weigh_scale_add_all (N : Nat) : Prop where
  weigh_scale_add_L0 : ∀ (p1 : Tapi_Term) (o532_0 : Int) (v47 : Int) (r : ((Int) ⊕ (Int))), weigh_scale_add_L0 N p1 o532_0 v47 = some r → match r with | .inl o => LoopTo Try.prog 532 (partOf Try.f48 [1, 1, 1, 0, 1, 1, 1, 1, 1, 0, 1, 0, 0]) (weigh_scale_add_L0_H p1 o532_0 v47) (.exit 1) (weigh_scale_add_L0_S0 p1 o) | .inr o => LoopTo Try.prog 532 (partOf Try.f48 [1, 1, 1, 0, 1, 1, 1, 1, 1, 0, 1, 0, 0]) (weigh_scale_add_L0_H p1 o532_0 v47) .ret (weigh_scale_add_L0_S1 p1 o)
  weigh_scale_add : ∀ (p0 : Tweigh_scale) (p1 : Tapi_Term) (r : Tweigh_scale), weigh_scale_add N p0 p1 = some r → FSpec Try.prog 48 [.obj [.dat (.int .i64 p0.fn)], .v (.agg (dTapi_Term p1))] (weigh_scale_add_fin r)
theorem weigh_scale_add_all_holds : ∀ N, weigh_scale_add_all N := by
  intro N
  induction N with
  | zero =>
    constructor
    · intro p1 o532_0 v47 r h; rw [weigh_scale_add_L0] at h; cases h
    · intro p0 p1 r h; rw [weigh_scale_add] at h; cases h
  | succ N ih =>
    constructor
    · intro p1 o532_0 v47 r h
      rw [weigh_scale_add_L0] at h
      rcases ite_part h with ⟨hb4, h⟩ | ⟨hb4, h⟩
      · obtain ⟨x5, hx5, h⟩ := bind_some h
        rcases ite_part h with ⟨hb6, h⟩ | ⟨hb6, h⟩
        · injection h with h; subst h
          exact LoopTo.out (CodeTo.of_run _ (by kernel_rfl : runTo Try.prog 532 (partOf Try.f48 [1, 1, 1, 0, 1, 1, 1, 1, 1, 0, 1, 0, 0]) [.reg [{}], .br true, .reg [{ cast := some (.v (.one (.fptr (cTapi_Term x5)))) }, {}, {}, {}], .reg [{}, {}, {}, {}, {}], .br true, .adj [.keep [] [532]]] (weigh_scale_add_L0_H p1 o532_0 v47) = some (.ret, (weigh_scale_add_L0_S1 p1 o532_0), [(decide (v47 < ((p1.fArgs.length : Nat) : Int))) = true, 0 ≤ v47 ∧ v47 < (((p1.fArgs.map rTapi_Term).length : Nat) : Int), AV.Le (.v (.one (.fptr ((List.range 7).map fun j => ((p1.fArgs.map rTapi_Term).getD (Int.toNat v47) []).getD j .nils)))) (.v (.one (.fptr (cTapi_Term x5)))), True, True, True, (decide (o532_0 > (300 : Int))) = true])) (.cons ((b_true dec_iff hb4)) (.cons (row_bnd hx5) (.cons (fptr_row hx5 (rTapi_Term_eq x5)) (.cons (trivial) (.cons (trivial) (.cons (trivial) (.cons ((b_true dec_iff hb6)) (AllP.nil))))))))) (by simp)
        · obtain ⟨r7, hr7, h⟩ := bind_some h
          have hl := ih.weigh_scale_add_L0 p1 r7.fn (IntKind.wrap .i64 (v47 + (1 : Int))) _ h
          have ha := CodeTo.of_run _ (by kernel_rfl : runTo Try.prog 532 (partOf Try.f48 [1, 1, 1, 0, 1, 1, 1, 1, 1, 0, 1, 0, 0]) [.reg [{}], .br true, .reg [{ cast := some (.v (.one (.fptr (cTapi_Term x5)))) }, {}, {}, {}], .reg [{}, {}, {}, {}, {}], .br false, .reg [{}, {}, { h := .call 414 [] [.obj [.dat (.int .i64 r7.fn)]] }], .reg [{}, {}], .adj [.keep [0, 45, 46, 47] [532]]] (weigh_scale_add_L0_H p1 o532_0 v47) = some (.normal, (weigh_scale_add_L0_H p1 r7.fn (IntKind.wrap .i64 (v47 + (1 : Int)))), [(decide (v47 < ((p1.fArgs.length : Nat) : Int))) = true, 0 ≤ v47 ∧ v47 < (((p1.fArgs.map rTapi_Term).length : Nat) : Int), AV.Le (.v (.one (.fptr ((List.range 7).map fun j => ((p1.fArgs.map rTapi_Term).getD (Int.toNat v47) []).getD j .nils)))) (.v (.one (.fptr (cTapi_Term x5)))), True, True, True, (decide (o532_0 > (300 : Int))) = false, True, FSpec Try.prog 48 [.obj [.dat (.int .i64 o532_0)], .v (.agg (dTapi_Term x5))] [.obj [.dat (.int .i64 r7.fn)]]])) (.cons ((b_true dec_iff hb4)) (.cons (row_bnd hx5) (.cons (fptr_row hx5 (rTapi_Term_eq x5)) (.cons (trivial) (.cons (trivial) (.cons (trivial) (.cons ((b_false dec_iff hb6)) (.cons (trivial) (.cons (((ih.weigh_scale_add) (Tweigh_scale.mk o532_0) x5 r7 hr7)) (AllP.nil))))))))))
          rcases r with o | o <;> exact LoopTo.again ha hl
      · injection h with h; subst h
        exact LoopTo.out (CodeTo.of_run _ (by kernel_rfl : runTo Try.prog 532 (partOf Try.f48 [1, 1, 1, 0, 1, 1, 1, 1, 1, 0, 1, 0, 0]) [.reg [{}], .br false, .adj [.keep [] [532]]] (weigh_scale_add_L0_H p1 o532_0 v47) = some ((.exit 1), (weigh_scale_add_L0_S0 p1 o532_0), [(decide (v47 < ((p1.fArgs.length : Nat) : Int))) = false])) (.cons ((b_false dec_iff hb4)) (AllP.nil))) (by simp)
    · intro p0 p1 r h
      rw [weigh_scale_add] at h
      rcases ite_part h with ⟨hb1, h⟩ | ⟨hb1, h⟩
      · injection h with h; subst h
        exact FSpec.of_run 532 _ Try.func48 (by kernel_rfl : runF Try.prog Try.f48 [.obj [.dat (.int .i64 p0.fn)], .v (.agg (dTapi_Term p1))] 532 [.reg [{}], .reg [{}, {}, {}, {}, {}, {}, {}, {}], .reg [{}, {}], .reg [{}, {}], .br true, .reg [{}, {}, {}, {}, {}, {}, {}, { cast := some (.v (.one (.d (.int .i64 ((p1.fNum.fMag.length : Nat) : Int))))) }, {}, {}, {}, {}]] = some ((weigh_scale_add_fin (Tweigh_scale.mk (IntKind.wrap .i64 ((IntKind.wrap .i64 (p0.fn + (1 : Int))) + ((p1.fNum.fMag.length : Nat) : Int))))), [True, True, True, (p1.fKind == (2 : Int)) = true, True, True, AV.Le (.v (.one (.d (.int .i64 (((p1.fNum.fMag.map (rI .u32)).length : Nat) : Int))))) (.v (.one (.d (.int .i64 ((p1.fNum.fMag.length : Nat) : Int))))), True])) (.cons (trivial) (.cons (trivial) (.cons (trivial) (.cons ((b_true beq_int hb1)) (.cons (trivial) (.cons (trivial) (.cons (len_le) (.cons (trivial) (AllP.nil)))))))))
      · rcases ite_part h with ⟨hb2, h⟩ | ⟨hb2, h⟩
        · injection h with h; subst h
          exact FSpec.of_run 532 _ Try.func48 (by kernel_rfl : runF Try.prog Try.f48 [.obj [.dat (.int .i64 p0.fn)], .v (.agg (dTapi_Term p1))] 532 [.reg [{}], .reg [{}, {}, {}, {}, {}, {}, {}, {}], .reg [{}, {}], .reg [{}, {}], .br false, .reg [{}, {}], .br true, .reg [{}, {}, {}, {}, {}, {}, {}, {}, {}, {}, {}, {}]] = some ((weigh_scale_add_fin (Tweigh_scale.mk (IntKind.wrap .i64 ((IntKind.wrap .i64 (p0.fn + (1 : Int))) + (IntKind.wrap .i64 (Int.tdiv ((p1.fBytes.size : Nat) : Int) (8 : Int))))))), [True, True, True, (p1.fKind == (2 : Int)) = false, (p1.fKind == (9 : Int)) = true, True, True, True])) (.cons (trivial) (.cons (trivial) (.cons (trivial) (.cons ((b_false beq_int hb1)) (.cons ((b_true beq_int hb2)) (.cons (trivial) (.cons (trivial) (.cons (trivial) (AllP.nil)))))))))
        · rcases ite_part h with ⟨hb3, h⟩ | ⟨hb3, h⟩
          · obtain ⟨r8, hr8, h⟩ := bind_some h
            rcases r8 with r9 | r10
            · injection h with h; subst h
              exact FSpec.of_run 532 _ Try.func48 (by kernel_rfl : runF Try.prog Try.f48 [.obj [.dat (.int .i64 p0.fn)], .v (.agg (dTapi_Term p1))] 532 [.reg [{}], .reg [{}, {}, {}, {}, {}, {}, {}, {}], .reg [{}, {}], .reg [{}, {}], .br false, .reg [{}, {}], .br false, .reg [{}, {}], .br true, .br true, .reg [{}, {}, { cast := some (.v (.one (.d (.int .i64 ((p1.fArgs.length : Nat) : Int))))) }, {}], .adj [.keep [0, 45, 46, 47] [532]], .cut (.exit 1) (weigh_scale_add_L0_S0 p1 r9)] = some ((weigh_scale_add_fin (Tweigh_scale.mk r9)), [True, True, True, (p1.fKind == (2 : Int)) = false, (p1.fKind == (9 : Int)) = false, (p1.fKind == (6 : Int)) = true, (p1.fKind == (6 : Int)) = true, True, AV.Le (.v (.one (.d (.int .i64 (((p1.fArgs.map rTapi_Term).length : Nat) : Int))))) (.v (.one (.d (.int .i64 ((p1.fArgs.length : Nat) : Int))))), CodeTo Try.prog 532 (partOf Try.f48 [1, 1, 1, 0, 1, 1, 1, 1, 1, 0, 1, 0]) (weigh_scale_add_L0_H p1 (IntKind.wrap .i64 (p0.fn + (1 : Int))) (0 : Int)) (.exit 1) (weigh_scale_add_L0_S0 p1 r9)])) (.cons (trivial) (.cons (trivial) (.cons (trivial) (.cons ((b_false beq_int hb1)) (.cons ((b_false beq_int hb2)) (.cons ((b_true beq_int hb3)) (.cons ((b_true beq_int hb3)) (.cons (trivial) (.cons (len_le) (.cons (CodeTo.of_loop ((ih.weigh_scale_add_L0) p1 (IntKind.wrap .i64 (p0.fn + (1 : Int))) (0 : Int) (.inl r9) hr8)) (AllP.nil)))))))))))
            · injection h with h; subst h
              exact FSpec.of_run 532 _ Try.func48 (by kernel_rfl : runF Try.prog Try.f48 [.obj [.dat (.int .i64 p0.fn)], .v (.agg (dTapi_Term p1))] 532 [.reg [{}], .reg [{}, {}, {}, {}, {}, {}, {}, {}], .reg [{}, {}], .reg [{}, {}], .br false, .reg [{}, {}], .br false, .reg [{}, {}], .br true, .br true, .reg [{}, {}, { cast := some (.v (.one (.d (.int .i64 ((p1.fArgs.length : Nat) : Int))))) }, {}], .adj [.keep [0, 45, 46, 47] [532]], .cut .ret (weigh_scale_add_L0_S1 p1 r10)] = some ((weigh_scale_add_fin (Tweigh_scale.mk r10)), [True, True, True, (p1.fKind == (2 : Int)) = false, (p1.fKind == (9 : Int)) = false, (p1.fKind == (6 : Int)) = true, (p1.fKind == (6 : Int)) = true, True, AV.Le (.v (.one (.d (.int .i64 (((p1.fArgs.map rTapi_Term).length : Nat) : Int))))) (.v (.one (.d (.int .i64 ((p1.fArgs.length : Nat) : Int))))), CodeTo Try.prog 532 (partOf Try.f48 [1, 1, 1, 0, 1, 1, 1, 1, 1, 0, 1, 0]) (weigh_scale_add_L0_H p1 (IntKind.wrap .i64 (p0.fn + (1 : Int))) (0 : Int)) .ret (weigh_scale_add_L0_S1 p1 r10)])) (.cons (trivial) (.cons (trivial) (.cons (trivial) (.cons ((b_false beq_int hb1)) (.cons ((b_false beq_int hb2)) (.cons ((b_true beq_int hb3)) (.cons ((b_true beq_int hb3)) (.cons (trivial) (.cons (len_le) (.cons (CodeTo.of_loop ((ih.weigh_scale_add_L0) p1 (IntKind.wrap .i64 (p0.fn + (1 : Int))) (0 : Int) (.inr r10) hr8)) (AllP.nil)))))))))))
          · rcases ite_part h with ⟨hb11, h⟩ | ⟨hb11, h⟩
            · obtain ⟨r12, hr12, h⟩ := bind_some h
              rcases r12 with r13 | r14
              · injection h with h; subst h
                exact FSpec.of_run 532 _ Try.func48 (by kernel_rfl : runF Try.prog Try.f48 [.obj [.dat (.int .i64 p0.fn)], .v (.agg (dTapi_Term p1))] 532 [.reg [{}], .reg [{}, {}, {}, {}, {}, {}, {}, {}], .reg [{}, {}], .reg [{}, {}], .br false, .reg [{}, {}], .br false, .reg [{}, {}], .br false, .reg [{}, {}], .br true, .reg [{}, {}, { cast := some (.v (.one (.d (.int .i64 ((p1.fArgs.length : Nat) : Int))))) }, {}], .adj [.keep [0, 45, 46, 47] [532]], .cut (.exit 1) (weigh_scale_add_L0_S0 p1 r13)] = some ((weigh_scale_add_fin (Tweigh_scale.mk r13)), [True, True, True, (p1.fKind == (2 : Int)) = false, (p1.fKind == (9 : Int)) = false, (p1.fKind == (6 : Int)) = false, (p1.fKind == (8 : Int)) = true, True, AV.Le (.v (.one (.d (.int .i64 (((p1.fArgs.map rTapi_Term).length : Nat) : Int))))) (.v (.one (.d (.int .i64 ((p1.fArgs.length : Nat) : Int))))), CodeTo Try.prog 532 (partOf Try.f48 [1, 1, 1, 0, 1, 1, 1, 1, 1, 0, 1, 0]) (weigh_scale_add_L0_H p1 (IntKind.wrap .i64 (p0.fn + (1 : Int))) (0 : Int)) (.exit 1) (weigh_scale_add_L0_S0 p1 r13)])) (.cons (trivial) (.cons (trivial) (.cons (trivial) (.cons ((b_false beq_int hb1)) (.cons ((b_false beq_int hb2)) (.cons ((b_false beq_int hb3)) (.cons ((b_true beq_int hb11)) (.cons (trivial) (.cons (len_le) (.cons (CodeTo.of_loop ((ih.weigh_scale_add_L0) p1 (IntKind.wrap .i64 (p0.fn + (1 : Int))) (0 : Int) (.inl r13) hr12)) (AllP.nil)))))))))))
              · injection h with h; subst h
                exact FSpec.of_run 532 _ Try.func48 (by kernel_rfl : runF Try.prog Try.f48 [.obj [.dat (.int .i64 p0.fn)], .v (.agg (dTapi_Term p1))] 532 [.reg [{}], .reg [{}, {}, {}, {}, {}, {}, {}, {}], .reg [{}, {}], .reg [{}, {}], .br false, .reg [{}, {}], .br false, .reg [{}, {}], .br false, .reg [{}, {}], .br true, .reg [{}, {}, { cast := some (.v (.one (.d (.int .i64 ((p1.fArgs.length : Nat) : Int))))) }, {}], .adj [.keep [0, 45, 46, 47] [532]], .cut .ret (weigh_scale_add_L0_S1 p1 r14)] = some ((weigh_scale_add_fin (Tweigh_scale.mk r14)), [True, True, True, (p1.fKind == (2 : Int)) = false, (p1.fKind == (9 : Int)) = false, (p1.fKind == (6 : Int)) = false, (p1.fKind == (8 : Int)) = true, True, AV.Le (.v (.one (.d (.int .i64 (((p1.fArgs.map rTapi_Term).length : Nat) : Int))))) (.v (.one (.d (.int .i64 ((p1.fArgs.length : Nat) : Int))))), CodeTo Try.prog 532 (partOf Try.f48 [1, 1, 1, 0, 1, 1, 1, 1, 1, 0, 1, 0]) (weigh_scale_add_L0_H p1 (IntKind.wrap .i64 (p0.fn + (1 : Int))) (0 : Int)) .ret (weigh_scale_add_L0_S1 p1 r14)])) (.cons (trivial) (.cons (trivial) (.cons (trivial) (.cons ((b_false beq_int hb1)) (.cons ((b_false beq_int hb2)) (.cons ((b_false beq_int hb3)) (.cons ((b_true beq_int hb11)) (.cons (trivial) (.cons (len_le) (.cons (CodeTo.of_loop ((ih.weigh_scale_add_L0) p1 (IntKind.wrap .i64 (p0.fn + (1 : Int))) (0 : Int) (.inr r14) hr12)) (AllP.nil)))))))))))
            · injection h with h; subst h
              exact FSpec.of_run 532 _ Try.func48 (by kernel_rfl : runF Try.prog Try.f48 [.obj [.dat (.int .i64 p0.fn)], .v (.agg (dTapi_Term p1))] 532 [.reg [{}], .reg [{}, {}, {}, {}, {}, {}, {}, {}], .reg [{}, {}], .reg [{}, {}], .br false, .reg [{}, {}], .br false, .reg [{}, {}], .br false, .reg [{}, {}], .br false] = some ((weigh_scale_add_fin (Tweigh_scale.mk (IntKind.wrap .i64 (p0.fn + (1 : Int))))), [True, True, True, (p1.fKind == (2 : Int)) = false, (p1.fKind == (9 : Int)) = false, (p1.fKind == (6 : Int)) = false, (p1.fKind == (8 : Int)) = false])) (.cons (trivial) (.cons (trivial) (.cons (trivial) (.cons ((b_false beq_int hb1)) (.cons ((b_false beq_int hb2)) (.cons ((b_false beq_int hb3)) (.cons ((b_false beq_int hb11)) (AllP.nil))))))))
theorem weigh_scale_add_spec (N : Nat) (p0 : Tweigh_scale) (p1 : Tapi_Term) (r : Tweigh_scale) (h : weigh_scale_add N p0 p1 = some r) : FSpec Try.prog 48 [.obj [.dat (.int .i64 p0.fn)], .v (.agg (dTapi_Term p1))] (weigh_scale_add_fin r) := (weigh_scale_add_all_holds N).weigh_scale_add p0 p1 r h
def weigh_Weight_fin (r : Int) : List PV := [.v (.one (.dat (.int .i64 r)))]
def weigh_Weight (N : Nat) (p0 : Tapi_Term) : Option Int := (weigh_scale_add N (Tweigh_scale.mk (0 : Int)) p0).bind fun r1 => some (if (301 : Int) < r1.fn then (301 : Int) else r1.fn)
theorem weigh_Weight_spec (N : Nat) (p0 : Tapi_Term) (r : Int) (h : weigh_Weight N p0 = some r) : FSpec Try.prog 14 [.v (.agg (dTapi_Term p0))] (weigh_Weight_fin r) := by
  unfold weigh_Weight at h
  obtain ⟨r1, hr1, h⟩ := bind_some h
  injection h with h; subst h
  exact FSpec.of_run 198 _ Try.func14 (by kernel_rfl : runF Try.prog Try.f14 [.v (.agg (dTapi_Term p0))] 198 [.reg [{}, {}], .reg [{}, {}, {}], .reg [{}, {}, { h := .call 56 [] [.obj [.dat (.int .i64 r1.fn)]] }], .reg [{}, {}, {}, {}, {}, {}]] = some ((weigh_Weight_fin (if (301 : Int) < r1.fn then (301 : Int) else r1.fn)), [True, FSpec Try.prog 48 [.obj [.dat (.int .i64 (0 : Int))], .v (.agg (dTapi_Term p0))] [.obj [.dat (.int .i64 r1.fn)]], True])) (.cons (trivial) (.cons ((weigh_scale_add_spec N (Tweigh_scale.mk (0 : Int)) p0 r1 hr1)) (.cons (trivial) (AllP.nil))))
def math_IsNaN_fin (r : Bool) : List PV := [.v (.one (.dat (.bool r)))]
def math_IsNaN (N : Nat) (p0 : Nat) : Option Bool := some (Lift.fne p0 p0)
theorem math_IsNaN_spec (N : Nat) (p0 : Nat) (r : Bool) (h : math_IsNaN N p0 = some r) : FSpec Try.prog 94 [.v (.one (.dat (.flt .f64 p0)))] (math_IsNaN_fin r) := by
  unfold math_IsNaN at h
  injection h with h; subst h
  exact FSpec.of_run 136 _ Try.func94 (by kernel_rfl : runF Try.prog Try.f94 [.v (.one (.dat (.flt .f64 p0)))] 136 [.reg [{}], .reg [{}, {}, {}, {}]] = some ((math_IsNaN_fin (Lift.fne p0 p0)), [])) (AllP.nil)
def real_none_fin (r : Bool) : List PV := [.v (.one (.dat (.bool r)))]
def real_none (N : Nat) (p0 : Int) : Option Bool := (math_IsNaN N (Int.toNat p0)).bind fun r1 => some r1
theorem real_none_spec (N : Nat) (p0 : Int) (r : Bool) (h : real_none N p0 = some r) : FSpec Try.prog 90 [.v (.one (.dat (.int .u64 p0)))] (real_none_fin r) := by
  unfold real_none at h
  obtain ⟨r1, hr1, h⟩ := bind_some h
  injection h with h; subst h
  exact FSpec.of_run 136 _ Try.func90 (by kernel_rfl : runF Try.prog Try.f90 [.v (.one (.dat (.int .u64 p0)))] 136 [.reg [{}], .reg [{}, { h := .ext (.float .f64 (Int.toNat p0)) }, { h := .pcall [.v (.one (.dat (.bool r1)))] }, {}]] = some ((real_none_fin r1), [ExtTo Try.prog 95 #[.int .u64 p0] (.float .f64 (Int.toNat p0)), FSpec Try.prog 94 [.v (.one (.dat (.flt .f64 (Int.toNat p0))))] [.v (.one (.dat (.bool r1)))]])) (.cons (ext_frombits Try.func95 (by kernel_rfl) (by kernel_rfl) (by kernel_rfl) (by kernel_rfl)) (.cons ((math_IsNaN_spec N (Int.toNat p0) r1 hr1)) (AllP.nil)))
def real_May_fin (r : Bool) : List PV := [.v (.one (.dat (.bool r)))]
def real_May (N : Nat) (p0 : Int) : Option Bool := if p0 = (9221120237041090561 : Int) then some true else (real_none N p0).bind fun r2 => some (!r2)
theorem real_May_spec (N : Nat) (p0 : Int) (r : Bool) (h : real_May N p0 = some r) : FSpec Try.prog 73 [.v (.one (.dat (.int .u64 p0)))] (real_May_fin r) := by
  unfold real_May at h
  rcases ite_part h with ⟨hb1, h⟩ | ⟨hb1, h⟩
  · injection h with h; subst h
    exact FSpec.of_run 164 _ Try.func73 (by kernel_rfl : runF Try.prog Try.f73 [.v (.one (.dat (.int .u64 p0)))] 164 [.reg [{}], .reg [{}, {}, {}, { want := false }, { want := false }, { want := false }, { h := .pick true }, {}]] = some ((real_May_fin true), [(p0 == (9221120237041090561 : Int)) = true, (p0 == (9221120237041090561 : Int)) = true, (p0 == (9221120237041090561 : Int)) = true, (p0 == (9221120237041090561 : Int)) = true])) (.cons ((b_true beq_int hb1)) (.cons ((b_true beq_int hb1)) (.cons ((b_true beq_int hb1)) (.cons ((b_true beq_int hb1)) (AllP.nil)))))
  · obtain ⟨r2, hr2, h⟩ := bind_some h
    injection h with h; subst h
    exact FSpec.of_run 164 _ Try.func73 (by kernel_rfl : runF Try.prog Try.f73 [.v (.one (.dat (.int .u64 p0)))] 164 [.reg [{}], .reg [{}, {}, {}, {}, { h := .pcall [.v (.one (.dat (.bool r2)))] }, {}, { h := .pick false }, {}]] = some ((real_May_fin (!r2)), [(p0 == (9221120237041090561 : Int)) = false, (p0 == (9221120237041090561 : Int)) = false, FSpec Try.prog 90 [.v (.one (.dat (.int .u64 p0)))] [.v (.one (.dat (.bool r2)))], (p0 == (9221120237041090561 : Int)) = false, (p0 == (9221120237041090561 : Int)) = false])) (.cons ((b_false beq_int hb1)) (.cons ((b_false beq_int hb1)) (.cons ((real_none_spec N p0 r2 hr2)) (.cons ((b_false beq_int hb1)) (.cons ((b_false beq_int hb1)) (AllP.nil))))))
end Go.Proofs.Ytocgnoohfkpbhaa.Sh
