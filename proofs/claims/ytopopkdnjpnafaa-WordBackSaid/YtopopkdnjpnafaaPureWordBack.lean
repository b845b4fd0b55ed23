/- What the program makes tells its tag and load, and heads tell their kind and size; words of unlike tags, or loads, are unlike. No conditions. -/
import Derived.Test.YtopopkdnjpnafaaPWordBackx2
import Derived.OpenShut
namespace Go.Proofs.Ytopopkdnjpnafaa.Pure
open Go.RowKit Go.Proofs.Ytopopkdnjpnafaa.PWordBack Go.Proofs.YtopopkdnjpnafaaW.PrintWords Go.Proofs.YtopopkdnjpnafaaW.PrintLast

theorem wrapU (x : Int) : IntKind.u64.wrap x = x % 18446744073709551616 := by
  simp [IntKind.wrap, IntKind.bits, IntKind.signed]
theorem wrapU_id (n : Int) (h0 : 0 ≤ n) (h1 : n < 2 ^ 64) : IntKind.u64.wrap n = n := by rw [wrapU]; omega
theorem wrapS (x : Int) : IntKind.i64.wrap x = wrap64 x := by rw [IntKind.wrap_i64]; unfold wrap64; rfl
theorem wrapS_id (n : Int) (h0 : 0 ≤ n) (h1 : n < 2 ^ 63) : IntKind.i64.wrap n = n := by rw [IntKind.wrap_i64]; omega
theorem and7 (x : Int) (h0 : 0 ≤ x) (h1 : x < 18446744073709551616) : Go.bits .and .u64 x 7 = x % 8 :=
  bits_mask .u64 64 (by decide) wrapU_id 3 (by decide) x h0 (by simpa using h1)
theorem and7s (x : Int) (h0 : 0 ≤ x) (h1 : x < 9223372036854775808) : Go.bits .and .i64 x 7 = x % 8 :=
  bits_mask .i64 63 (by decide) wrapS_id 3 (by decide) x h0 (by simpa using h1)
theorem or3 (x y : Int) (h0 : 0 ≤ x) (h : x % 8 = 0) (h1 : x < 18446744073709551616) (y0 : 0 ≤ y) (y1 : y < 8) : Go.bits .or .u64 x y = x + y :=
  bits_join .u64 64 (by decide) wrapU_id 3 x y h0 (by simpa using h) (by simpa using h1) y0 (by simpa using y1) (by omega)
theorem or3s (x y : Int) (h0 : 0 ≤ x) (h : x % 8 = 0) (h1 : x < 9223372036854775808) (y0 : 0 ≤ y) (y1 : y < 8) : Go.bits .or .i64 x y = x + y :=
  bits_join .i64 63 (by decide) wrapS_id 3 x y h0 (by simpa using h) (by simpa using h1) y0 (by simpa using y1) (by omega)
/-- What a tag's load lies between. -/
def lo (t : Int) : Int := if t = 0 then -1152921504606846976 else 0
def hi (t : Int) : Int := if t = 1 then 255 else if t = 2 then 63 else if t = 3 then 0 else 1152921504606846975
def fitP (t n : Int) : Prop := 0 ≤ t ∧ t ≤ 7 ∧ lo t ≤ n ∧ n ≤ hi t
instance (t n : Int) : Decidable (fitP t n) := by unfold fitP; infer_instance

theorem fits_eq (t n : Int) : word_fits.f t n = some (decide (fitP t n)) := by
  unfold word_fits.f fitP lo hi
  by_cases h0 : t = 0
  · subst h0; simp; split <;> simp <;> omega
  · by_cases h1 : t = 1
    · subst h1; simp; split <;> simp <;> omega
    · by_cases h2 : t = 2
      · subst h2; simp; split <;> simp <;> omega
      · by_cases h3 : t = 3
        · subst h3; simp; split <;> simp <;> omega
        · simp only [if_neg h0, if_neg h1, if_neg h2, if_neg h3]
          by_cases h4 : t = 4
          · subst h4; simp; split <;> simp <;> omega
          · by_cases h5 : t = 5
            · subst h5; simp; split <;> simp <;> omega
            · by_cases h6 : t = 6
              · subst h6; simp; split <;> simp <;> omega
              · by_cases h7 : t = 7
                · subst h7; simp; split <;> simp <;> omega
                · simp only [if_neg h4, if_neg h5, if_neg h6, if_neg h7]
                  congr 1
                  symm
                  apply decide_eq_false
                  omega

theorem make_eq (t n : Int) : word_Make.f t n = if fitP t n then some ((n * 8 + t) % 18446744073709551616, true) else some (0, false) := by
  unfold word_Make.f
  rw [fits_eq]
  simp -implicitDefEqProofs only [Option.bind_some, decide_eq_true_eq]
  by_cases h : fitP t n
  · rw [if_pos h, if_pos h]
    have ht := h.1
    have ht2 := h.2.1
    congr 2
    rw [or3 _ _ (by rw [wrapU]; omega) (by rw [wrapU, wrapU]; omega) (by rw [wrapU]; omega) (by rw [wrapU]; omega) (by rw [wrapU]; omega)]
    simp only [wrapU]
    omega
  · rw [if_neg h, if_neg h]

theorem tag_eq (w : Int) (h0 : 0 ≤ w) (h1 : w < 18446744073709551616) : word_Tag.f w = some (w % 8) := by
  unfold word_Tag.f
  rw [and7 w h0 h1]
  congr 1
  unfold wrap64
  omega

def loadv (w : Int) : Int := if w % 8 = 0 then (wrap64 w) / 8 else w / 8

theorem load_eq (w : Int) (h0 : 0 ≤ w) (h1 : w < 18446744073709551616) : word_Load.f w = some (loadv w) := by
  unfold word_Load.f loadv
  rw [tag_eq w h0 h1]
  simp -implicitDefEqProofs only [Option.bind_some]
  by_cases h : w % 8 = 0
  · rw [if_pos h, if_pos h]
  · rw [if_neg h, if_neg h]
    congr 1
    unfold wrap64
    omega

theorem head_eq (k n : Int) : word_Head.f k n = if 0 ≤ k ∧ k ≤ 5 ∧ 0 ≤ n ∧ n ≤ 1048576 then some ((n * 8 + k) * 8 + 6, true) else some (0, false) := by
  unfold word_Head.f
  by_cases h : 0 ≤ k ∧ k ≤ 5 ∧ 0 ≤ n ∧ n ≤ 1048576
  · obtain ⟨a, b, c, d⟩ := h
    rw [if_neg (by omega), if_neg (by omega), if_neg (by omega), if_neg (by omega), if_pos ⟨a, b, c, d⟩]
    have hw : wrap64 (n * 8) = n * 8 := by unfold wrap64; omega
    rw [hw, or3s _ _ (by omega) (by omega) (by omega) a (by omega), make_eq, if_pos ⟨by omega, by omega, by simp [lo]; omega, by simp [hi]; omega⟩]
    simp -implicitDefEqProofs only [Option.bind_some]
    congr 2
    omega
  · rw [if_neg h]
    by_cases a : k < 0
    · rw [if_pos a]
    · rw [if_neg a]
      by_cases b : k > 5
      · rw [if_pos b]
      · rw [if_neg b]
        by_cases c : n < 0
        · rw [if_pos c]
        · rw [if_neg c, if_pos (by omega)]

theorem parts_eq (w : Int) (h0 : 0 ≤ w) (h1 : w < 18446744073709551616) : word_Parts.f w = if w % 8 = 6 ∧ w / 8 % 8 ≤ 5 ∧ w / 64 ≤ 1048576 then some (w / 8 % 8, w / 64, true) else some (0, 0, false) := by
  unfold word_Parts.f
  rw [load_eq w h0 h1, tag_eq w h0 h1]
  simp -implicitDefEqProofs only [Option.bind_some]
  by_cases h : w % 8 = 6
  · have hl : loadv w = w / 8 := by unfold loadv; rw [if_neg (by omega)]
    rw [if_pos h, hl, and7s _ (by omega) (by omega), show w / 8 / 8 = w / 64 by omega]
    by_cases a : w / 8 % 8 > 5
    · rw [if_pos a, if_neg (by omega)]
    · rw [if_neg a]
      by_cases b : w / 64 > 1048576
      · rw [if_pos b, if_neg (by omega)]
      · rw [if_neg b, if_pos ⟨h, by omega, by omega⟩]
  · rw [if_neg h, if_neg (by omega)]

theorem plain_eq (w : Int) (h0 : 0 ≤ w) (h1 : w < 18446744073709551616) : word_Plain.f w = some (decide (w % 8 ≤ 5 ∧ fitP (w % 8) (loadv w))) := by
  unfold word_Plain.f
  rw [tag_eq w h0 h1, load_eq w h0 h1]
  simp -implicitDefEqProofs only [Option.bind_some]
  rw [if_pos (by omega), fits_eq]
  by_cases h : w % 8 ≤ 5
  · rw [if_pos h]
    simp -implicitDefEqProofs only [Option.bind_some]
    congr 1
    simp [h]
  · rw [if_neg h]
    simp [h]

/-- A word is its load and its tag. -/
theorem load_back (w : Int) (h0 : 0 ≤ w) (h1 : w < 18446744073709551616) : (loadv w * 8 + w % 8) % 18446744073709551616 = w := by
  unfold loadv wrap64
  split <;> omega

theorem awake_true : beehivelaw8_awake.f = some true := by decide +kernel

theorem j1_core (k : Nat) (kd n w : Int) (ok : Bool) (hw : ok = false → w = 0) (W : Int) (hh : word_Head.f kd n = some (W, true)) (hp : word_Parts.f W = some (kd, n, true)) (ht : word_Tag.f W = some 6) (hl : word_Plain.f W = some false) :
    beehivelaw8_WordBack.j1 (k + 1) kd n w ok false = some true := by
  simp only [beehivelaw8_WordBack.j1]
  rw [if_neg (by decide), hh]
  simp -implicitDefEqProofs only [Option.bind_some]
  rw [hp, ht, hl, awake_true]
  simp -implicitDefEqProofs only [Option.bind_some, if_true]
  rw [if_neg (by decide)]
  cases ok with
  | true => rfl
  | false => rw [hw rfl]; rfl

theorem j1_none (k : Nat) (kd n w : Int) (ok : Bool) (hw : ok = false → w = 0) (hh : word_Head.f kd n = some (0, false)) :
    beehivelaw8_WordBack.j1 (k + 1) kd n w ok false = some true := by
  simp only [beehivelaw8_WordBack.j1]
  rw [if_neg (by decide), hh]
  simp -implicitDefEqProofs only [Option.bind_some]
  rw [parts_eq 0 (by decide) (by decide), if_neg (by decide), awake_true]
  simp -implicitDefEqProofs only [Option.bind_some]
  rw [if_neg (by decide)]
  cases ok with
  | true => rfl
  | false => rw [hw rfl]; rfl

theorem j1_true (k : Nat) (kd n w : Int) (ok : Bool) (hw : ok = false → w = 0) : beehivelaw8_WordBack.j1 (k + 1) kd n w ok false = some true := by
  have hh := head_eq kd n
  by_cases h : 0 ≤ kd ∧ kd ≤ 5 ∧ 0 ≤ n ∧ n ≤ 1048576
  · rw [if_pos h] at hh
    have b0 : 0 ≤ (n * 8 + kd) * 8 + 6 := by omega
    have b1 : (n * 8 + kd) * 8 + 6 < 18446744073709551616 := by omega
    have e6 : ((n * 8 + kd) * 8 + 6) % 8 = 6 := by omega
    have e8 : ((n * 8 + kd) * 8 + 6) / 8 % 8 = kd := by omega
    have e64 : ((n * 8 + kd) * 8 + 6) / 64 = n := by omega
    generalize (n * 8 + kd) * 8 + 6 = W at *
    have hp := parts_eq W b0 b1
    have ht := tag_eq W b0 b1
    have hl := plain_eq W b0 b1
    rw [e6, e8, e64, if_pos ⟨rfl, h.2.1, h.2.2.2⟩] at hp
    rw [e6] at ht hl
    rw [decide_eq_false (fun c => absurd c.1 (by decide))] at hl
    exact j1_core k kd n w ok hw W hh hp ht hl
  · rw [if_neg h] at hh
    exact j1_none k kd n w ok hw hh

theorem loadv_make (t n : Int) (h : fitP t n) : loadv ((n * 8 + t) % 18446744073709551616) = n := by
  obtain ⟨a, b, c, d⟩ := h
  unfold loadv wrap64
  unfold lo at c
  have hd : n ≤ 1152921504606846975 := by
    unfold hi at d
    split at d
    · omega
    · split at d
      · omega
      · split at d <;> omega
  by_cases e : t = 0
  · rw [if_pos e] at c
    rw [if_pos (by omega)]
    omega
  · rw [if_neg e] at c
    rw [if_neg (by omega)]
    omega

theorem mk_inj (t n m : Int) (h : fitP t n) (h' : fitP t m) (e : (n * 8 + t) % 18446744073709551616 = (m * 8 + t) % 18446744073709551616) : n = m := by
  have a := congrArg loadv e
  rw [loadv_make t n h, loadv_make t m h'] at a
  exact a

theorem beq_same (a b c d : Int) (h : a = b ↔ c = d) : (a == b) = (c == d) := by
  rw [Bool.eq_iff_iff, beq_iff_eq, beq_iff_eq]
  exact h

theorem make_inj (t n m : Int) (h : fitP t n) (h' : fitP t m) : ((n * 8 + t) % 18446744073709551616 == (m * 8 + t) % 18446744073709551616) = (n == m) :=
  beq_same _ _ _ _ ⟨mk_inj t n m h h', fun e => by rw [e]⟩

theorem j0_core (t n m kd sz w x : Int) (ok is : Bool) (hx : word_Make.f t m = some (x, is)) (hw : ok = false → w = 0) (he : ok = true → is = true → (w == x) = (n == m)) :
    beehivelaw8_WordBack.j0 2 t n m kd sz w ok false = some true := by
  simp only [beehivelaw8_WordBack.j0]
  rw [if_neg (by decide), hx]
  simp -implicitDefEqProofs only [Option.bind_some]
  cases ok with
  | false => rw [if_neg (by decide)]; exact j1_true 0 kd sz w false hw
  | true =>
    rw [if_pos rfl]
    cases is with
    | false => rw [if_neg (by decide)]; exact j1_true 0 kd sz w true hw
    | true =>
      rw [if_pos rfl, he rfl rfl, bne_self_eq_false]
      exact j1_true 0 kd sz w true hw

theorem j0_true (t n m kd sz w : Int) (ok : Bool) (hw : word_Make.f t n = some (w, ok)) : beehivelaw8_WordBack.j0 2 t n m kd sz w ok false = some true := by
  rw [make_eq] at hw
  have hx := make_eq t m
  by_cases h : fitP t n
  · rw [if_pos h] at hw
    injection hw with hw
    injection hw with e1 e2
    by_cases h2 : fitP t m
    · rw [if_pos h2] at hx
      refine j0_core t n m kd sz w _ ok _ hx (fun e => ?_) (fun _ _ => ?_)
      · rw [← e2] at e; cases e
      · rw [← e1]; exact make_inj t n m h h2
    · rw [if_neg h2] at hx
      refine j0_core t n m kd sz w _ ok _ hx (fun e => ?_) (fun _ e => ?_)
      · rw [← e2] at e; cases e
      · cases e
  · rw [if_neg h] at hw
    injection hw with hw
    injection hw with e1 e2
    have : ∃ r, word_Make.f t m = some r := by rw [hx]; split <;> exact ⟨_, rfl⟩
    obtain ⟨⟨x, is⟩, hr⟩ := this
    refine j0_core t n m kd sz w x ok is hr (fun _ => e1.symm) (fun e => ?_)
    rw [← e2] at e; cases e

theorem WordBack : beehivelaw8_WordBack.Pure := by
  intro t n m kd sz _ _ _ _ _
  refine ⟨2, ?_⟩
  by_cases h : fitP t n
  · have hm : word_Make.f t n = some ((n * 8 + t) % 18446744073709551616, true) := by rw [make_eq, if_pos h]
    have ht := h.1
    have ht2 := h.2.1
    have e : (n * 8 + t) % 18446744073709551616 % 8 = t := by omega
    have b0 : 0 ≤ (n * 8 + t) % 18446744073709551616 := by omega
    have b1 : (n * 8 + t) % 18446744073709551616 < 18446744073709551616 := by omega
    have hl := loadv_make t n h
    generalize (n * 8 + t) % 18446744073709551616 = W at *
    unfold beehivelaw8_WordBack.f
    rw [hm]
    simp -implicitDefEqProofs only [Option.bind_some, if_true]
    rw [tag_eq W b0 b1, load_eq W b0 b1, plain_eq W b0 b1, hl]
    simp -implicitDefEqProofs only [Option.bind_some]
    rw [if_pos e, if_pos trivial, e]
    have hd : (decide (t ≤ 5 ∧ fitP t n) != decide (t ≤ 5)) = false := by simp [h]
    rw [hd]
    exact j0_true t n m kd sz _ _ hm
  · have hm : word_Make.f t n = some (0, false) := by rw [make_eq, if_neg h]
    unfold beehivelaw8_WordBack.f
    rw [hm]
    simp -implicitDefEqProofs only [Option.bind_some]
    rw [if_neg (by decide)]
    exact j0_true t n m kd sz _ _ hm

end Go.Proofs.Ytopopkdnjpnafaa.Pure
