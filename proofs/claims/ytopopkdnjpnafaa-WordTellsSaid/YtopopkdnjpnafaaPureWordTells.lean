/- What the program makes of any tag and load, of any kind and size, and what it tells of any word, is the document's own. No conditions. -/
import Derived.Test.YtopopkdnjpnafaaPWordTellsx2
import Derived.OpenShut
namespace Go.Proofs.Ytopopkdnjpnafaa.Pure
open Go.RowKit Go.Proofs.Ytopopkdnjpnafaa.PWordTells Go.Proofs.YtopopkdnjpnafaaW.PrintWords Go.Proofs.YtopopkdnjpnafaaW.PrintLast

theorem wrapU (x : Int) : IntKind.u64.wrap x = x % 18446744073709551616 := by
  simp [IntKind.wrap, IntKind.bits, IntKind.signed]
theorem wrapU_id (n : Int) (h0 : 0 ≤ n) (h1 : n < 2 ^ 64) : IntKind.u64.wrap n = n := by rw [wrapU]; omega
theorem wrapS (x : Int) : IntKind.i64.wrap x = wrap64 x := by rw [IntKind.wrap_i64]; unfold wrap64; rfl
theorem wrapS_id (n : Int) (h0 : 0 ≤ n) (h1 : n < 2 ^ 63) : IntKind.i64.wrap n = n := by rw [IntKind.wrap_i64]; omega
theorem and7 (x : Int) (h0 : 0 ≤ x) (h1 : x < 18446744073709551616) : Go.bits .and .u64 x 7 = x % 8 :=
  bits_mask .u64 64 (by decide) wrapU_id 3 (by decide) x h0 (by simpa using h1)
theorem and7s (x : Int) (h0 : 0 ≤ x) (h1 : x < 9223372036854775808) : Go.bits .and .i64 x 7 = x % 8 :=
  bits_mask .i64 63 (by decide) wrapS_id 3 (by decide) x h0 (by simpa using h1)
theorem or3 (x y : Int) (h0 : 0 ≤ x) (h : x % 8 = 0) (h1 : x < 18446744073709551616) (y0 : 0 ≤ y) (y1 : y < 8) : Go.bits .or .u64 x y = x + y :=
  bits_join .u64 64 (by decide) wrapU_id 3 x y h0 (by simpa using h) (by simpa using h1) y0 (by simpa using y1) (by omega)
theorem or3s (x y : Int) (h0 : 0 ≤ x) (h : x % 8 = 0) (h1 : x < 9223372036854775808) (y0 : 0 ≤ y) (y1 : y < 8) : Go.bits .or .i64 x y = x + y :=
  bits_join .i64 63 (by decide) wrapS_id 3 x y h0 (by simpa using h) (by simpa using h1) y0 (by simpa using y1) (by omega)
/-- What a tag's load lies between. -/
def lo (t : Int) : Int := if t = 0 then -1152921504606846976 else 0
def hi (t : Int) : Int := if t = 1 then 255 else if t = 2 then 63 else if t = 3 then 0 else 1152921504606846975
def fitP (t n : Int) : Prop := 0 ≤ t ∧ t ≤ 7 ∧ lo t ≤ n ∧ n ≤ hi t
instance (t n : Int) : Decidable (fitP t n) := by unfold fitP; infer_instance

theorem fits_eq (t n : Int) : word_fits.f t n = some (decide (fitP t n)) := by
  unfold word_fits.f fitP lo hi
  by_cases h0 : t = 0
  · subst h0; simp; split <;> simp <;> omega
  · by_cases h1 : t = 1
    · subst h1; simp; split <;> simp <;> omega
    · by_cases h2 : t = 2
      · subst h2; simp; split <;> simp <;> omega
      · by_cases h3 : t = 3
        · subst h3; simp; split <;> simp <;> omega
        · simp only [if_neg h0, if_neg h1, if_neg h2, if_neg h3]
          by_cases h4 : t = 4
          · subst h4; simp; split <;> simp <;> omega
          · by_cases h5 : t = 5
            · subst h5; simp; split <;> simp <;> omega
            · by_cases h6 : t = 6
              · subst h6; simp; split <;> simp <;> omega
              · by_cases h7 : t = 7
                · subst h7; simp; split <;> simp <;> omega
                · simp only [if_neg h4, if_neg h5, if_neg h6, if_neg h7]
                  congr 1
                  symm
                  apply decide_eq_false
                  omega

theorem make_eq (t n : Int) : word_Make.f t n = if fitP t n then some ((n * 8 + t) % 18446744073709551616, true) else some (0, false) := by
  unfold word_Make.f
  rw [fits_eq]
  simp only [Option.bind_some, decide_eq_true_eq]
  by_cases h : fitP t n
  · rw [if_pos h, if_pos h]
    have ht := h.1
    have ht2 := h.2.1
    congr 2
    rw [or3 _ _ (by rw [wrapU]; omega) (by rw [wrapU, wrapU]; omega) (by rw [wrapU]; omega) (by rw [wrapU]; omega) (by rw [wrapU]; omega)]
    simp only [wrapU]
    omega
  · rw [if_neg h, if_neg h]

theorem tag_eq (w : Int) (h0 : 0 ≤ w) (h1 : w < 18446744073709551616) : word_Tag.f w = some (w % 8) := by
  unfold word_Tag.f
  rw [and7 w h0 h1]
  congr 1
  unfold wrap64
  omega

def loadv (w : Int) : Int := if w % 8 = 0 then (wrap64 w) / 8 else w / 8

theorem load_eq (w : Int) (h0 : 0 ≤ w) (h1 : w < 18446744073709551616) : word_Load.f w = some (loadv w) := by
  unfold word_Load.f loadv
  rw [tag_eq w h0 h1]
  simp only [Option.bind_some]
  by_cases h : w % 8 = 0
  · rw [if_pos h, if_pos h]
  · rw [if_neg h, if_neg h]
    congr 1
    unfold wrap64
    omega

theorem head_eq (k n : Int) : word_Head.f k n = if 0 ≤ k ∧ k ≤ 5 ∧ 0 ≤ n ∧ n ≤ 1048576 then some ((n * 8 + k) * 8 + 6, true) else some (0, false) := by
  unfold word_Head.f
  by_cases h : 0 ≤ k ∧ k ≤ 5 ∧ 0 ≤ n ∧ n ≤ 1048576
  · obtain ⟨a, b, c, d⟩ := h
    rw [if_neg (by omega), if_neg (by omega), if_neg (by omega), if_neg (by omega), if_pos ⟨a, b, c, d⟩]
    have hw : wrap64 (n * 8) = n * 8 := by unfold wrap64; omega
    rw [hw, or3s _ _ (by omega) (by omega) (by omega) a (by omega), make_eq, if_pos ⟨by omega, by omega, by simp [lo]; omega, by simp [hi]; omega⟩]
    simp only [Option.bind_some]
    congr 2
    omega
  · rw [if_neg h]
    by_cases a : k < 0
    · rw [if_pos a]
    · rw [if_neg a]
      by_cases b : k > 5
      · rw [if_pos b]
      · rw [if_neg b]
        by_cases c : n < 0
        · rw [if_pos c]
        · rw [if_neg c, if_pos (by omega)]

theorem parts_eq (w : Int) (h0 : 0 ≤ w) (h1 : w < 18446744073709551616) : word_Parts.f w = if w % 8 = 6 ∧ w / 8 % 8 ≤ 5 ∧ w / 64 ≤ 1048576 then some (w / 8 % 8, w / 64, true) else some (0, 0, false) := by
  unfold word_Parts.f
  rw [load_eq w h0 h1, tag_eq w h0 h1]
  simp only [Option.bind_some]
  by_cases h : w % 8 = 6
  · have hl : loadv w = w / 8 := by unfold loadv; rw [if_neg (by omega)]
    rw [if_pos h, hl, and7s _ (by omega) (by omega), show w / 8 / 8 = w / 64 by omega]
    by_cases a : w / 8 % 8 > 5
    · rw [if_pos a, if_neg (by omega)]
    · rw [if_neg a]
      by_cases b : w / 64 > 1048576
      · rw [if_pos b, if_neg (by omega)]
      · rw [if_neg b, if_pos ⟨h, by omega, by omega⟩]
  · rw [if_neg h, if_neg (by omega)]

theorem plain_eq (w : Int) (h0 : 0 ≤ w) (h1 : w < 18446744073709551616) : word_Plain.f w = some (decide (w % 8 ≤ 5 ∧ fitP (w % 8) (loadv w))) := by
  unfold word_Plain.f
  rw [tag_eq w h0 h1, load_eq w h0 h1]
  simp only [Option.bind_some]
  rw [if_pos (by omega), fits_eq]
  by_cases h : w % 8 ≤ 5
  · rw [if_pos h]
    simp only [Option.bind_some]
    congr 1
    simp [h]
  · rw [if_neg h]
    simp [h]

/-- A word is its load and its tag. -/
theorem load_back (w : Int) (h0 : 0 ≤ w) (h1 : w < 18446744073709551616) : (loadv w * 8 + w % 8) % 18446744073709551616 = w := by
  unfold loadv wrap64
  split <;> omega

theorem awake_true : beehivelaw8_awake.f = some true := by decide +kernel

theorem rmake_eq (t n : Int) : beehiveref8_Make.f t n = if fitP t n then some ((n * 8 + t) % 18446744073709551616, true) else some (0, false) := by
  have e : IntKind.u64.wrap (IntKind.u64.wrap (IntKind.u64.wrap n * 8) + IntKind.u64.wrap t) = (n * 8 + t) % 18446744073709551616 := by
    simp only [wrapU]
    omega
  unfold beehiveref8_Make.f
  rw [e]
  have key : ∀ l h : Int, l = lo t → h = hi t → (if t < 0 then some ((0 : Int), false) else if t > 7 then some (0, false) else if n < l then some (0, false) else if n > h then some (0, false) else some ((n * 8 + t) % 18446744073709551616, true)) = if fitP t n then some ((n * 8 + t) % 18446744073709551616, true) else some (0, false) := by
    intro l h hl hh
    subst hl hh
    have no : ∀ h : ¬ (0 ≤ t ∧ t ≤ 7 ∧ lo t ≤ n ∧ n ≤ hi t), ¬ fitP t n := fun h => h
    by_cases a : t < 0
    · rw [if_pos a, if_neg (no (by omega))]
    · by_cases b : t > 7
      · rw [if_neg a, if_pos b, if_neg (no (by omega))]
      · by_cases c : n < lo t
        · rw [if_neg a, if_neg b, if_pos c, if_neg (no (by omega))]
        · by_cases d : n > hi t
          · rw [if_neg a, if_neg b, if_neg c, if_pos d, if_neg (no (by omega))]
          · rw [if_neg a, if_neg b, if_neg c, if_neg d, if_pos (show fitP t n from ⟨by omega, by omega, by omega, by omega⟩)]
  by_cases t0 : t = 0
  · rw [if_pos t0]; exact key _ _ (by simp [lo, t0]) (by simp [hi, t0])
  · by_cases t3 : t = 3
    · rw [if_neg t0, if_pos t3]; exact key _ _ (by simp [lo, t3]) (by simp [hi, t3])
    · by_cases t1 : t = 1
      · rw [if_neg t0, if_neg t3, if_pos t1]; exact key _ _ (by simp [lo, t1]) (by simp [hi, t1])
      · by_cases t2 : t = 2
        · rw [if_neg t0, if_neg t3, if_neg t1, if_pos t2]; exact key _ _ (by simp [lo, t2]) (by simp [hi, t2])
        · rw [if_neg t0, if_neg t3, if_neg t1, if_neg t2]; exact key _ _ (by simp [lo, t0]) (by simp [hi, t1, t2, t3])

theorem rtag_eq (w : Int) (h0 : 0 ≤ w) : beehiveref8_Tag.f w = some (w % 8) := by
  unfold beehiveref8_Tag.f
  rw [Int.tmod_eq_emod_of_nonneg h0]
  congr 1
  unfold wrap64
  omega

theorem rload_eq (w : Int) (h0 : 0 ≤ w) (h1 : w < 18446744073709551616) : beehiveref8_Load.f w = some (loadv w) := by
  unfold beehiveref8_Load.f loadv
  rw [Int.tmod_eq_emod_of_nonneg h0, Int.tdiv_eq_ediv_of_nonneg h0]
  by_cases h : w % 8 = 0
  · rw [if_pos h, if_pos h]
    congr 1
    have hd : (wrap64 w).tdiv 8 = wrap64 w / 8 := by
      have : wrap64 w = 8 * (wrap64 w / 8) := by unfold wrap64; omega
      rw [this, Int.mul_tdiv_cancel_left _ (by decide)]
      omega
    rw [hd]
    unfold wrap64
    omega
  · rw [if_neg h, if_neg h, wrapU]
    congr 1
    unfold wrap64
    omega

theorem rhead_eq (k n : Int) : beehiveref8_Head.f k n = if 0 ≤ k ∧ k ≤ 5 ∧ 0 ≤ n ∧ n ≤ 1048576 then some ((n * 8 + k) * 8 + 6, true) else some (0, false) := by
  unfold beehiveref8_Head.f
  by_cases h : 0 ≤ k ∧ k ≤ 5 ∧ 0 ≤ n ∧ n ≤ 1048576
  · obtain ⟨a, b, c, d⟩ := h
    rw [if_neg (by omega), if_neg (by omega), if_neg (by omega), if_neg (by omega), if_pos ⟨a, b, c, d⟩]
    congr 2
    simp only [wrapU]
    unfold wrap64
    omega
  · rw [if_neg h]
    by_cases a : k < 0
    · rw [if_pos a]
    · rw [if_neg a]
      by_cases b : k > 5
      · rw [if_pos b]
      · rw [if_neg b]
        by_cases c : n < 0
        · rw [if_pos c]
        · rw [if_neg c, if_pos (by omega)]

theorem rparts_eq (w : Int) (h0 : 0 ≤ w) (h1 : w < 18446744073709551616) : beehiveref8_Parts.f w = if w % 8 = 6 ∧ w / 8 % 8 ≤ 5 ∧ w / 64 ≤ 1048576 then some (w / 8 % 8, w / 64, true) else some (0, 0, false) := by
  unfold beehiveref8_Parts.f
  have e1 : wrap64 ((IntKind.u64.wrap (w.tdiv 8)).tmod 8) = w / 8 % 8 := by
    rw [Int.tdiv_eq_ediv_of_nonneg h0, wrapU, Int.tmod_eq_emod_of_nonneg (by omega)]
    unfold wrap64
    omega
  have e2 : wrap64 (IntKind.u64.wrap (w.tdiv 64)) = w / 64 := by
    rw [Int.tdiv_eq_ediv_of_nonneg h0, wrapU]
    unfold wrap64
    omega
  rw [e1, e2, rhead_eq]
  by_cases h : 0 ≤ w / 8 % 8 ∧ w / 8 % 8 ≤ 5 ∧ 0 ≤ w / 64 ∧ w / 64 ≤ 1048576
  · rw [if_pos h]
    simp only [Option.bind_some, if_true]
    by_cases c : w % 8 = 6
    · rw [if_pos (by omega), if_pos (by omega)]
    · rw [if_neg (by omega), if_neg (by omega)]
  · rw [if_neg h, if_neg (by omega)]
    simp

theorem rplain_eq (w : Int) (h0 : 0 ≤ w) (h1 : w < 18446744073709551616) : beehiveref8_Plain.f w = some (decide (w % 8 ≤ 5 ∧ fitP (w % 8) (loadv w))) := by
  unfold beehiveref8_Plain.f
  rw [rtag_eq w h0, rload_eq w h0 h1]
  simp only [Option.bind_some]
  rw [rmake_eq]
  by_cases h : fitP (w % 8) (loadv w)
  · rw [if_pos h]
    simp only [Option.bind_some, if_true]
    rw [if_pos (load_back w h0 h1)]
    congr 1
    simp [h]
  · rw [if_neg h]
    simp [h]

theorem WordTells : beehivelaw8_WordTells.Pure := by
  intro a0 a1 a2 a3 a4 _ _ _ _ h
  have hb := bounds_u64 h
  have h0 : 0 ≤ a4 := hb.1
  have h1 : a4 < 18446744073709551616 := by omega
  unfold beehivelaw8_WordTells.f
  rw [make_eq, rmake_eq, head_eq, rhead_eq, parts_eq a4 h0 h1, rparts_eq a4 h0 h1, tag_eq a4 h0 h1, rtag_eq a4 h0, load_eq a4 h0 h1, rload_eq a4 h0 h1, plain_eq a4 h0 h1, rplain_eq a4 h0 h1, awake_true]
  have p : ∃ r, (if fitP a0 a1 then some ((a1 * 8 + a0) % 18446744073709551616, true) else some (0, false)) = some r := by split <;> exact ⟨_, rfl⟩
  have q : ∃ r, (if 0 ≤ a2 ∧ a2 ≤ 5 ∧ 0 ≤ a3 ∧ a3 ≤ 1048576 then some ((a3 * 8 + a2) * 8 + 6, true) else some (0, false)) = some r := by split <;> exact ⟨_, rfl⟩
  have s : ∃ r, (if a4 % 8 = 6 ∧ a4 / 8 % 8 ≤ 5 ∧ a4 / 64 ≤ 1048576 then some (a4 / 8 % 8, a4 / 64, true) else some (0, 0, false)) = some r := by split <;> exact ⟨_, rfl⟩
  obtain ⟨r1, e1⟩ := p
  obtain ⟨r2, e2⟩ := q
  obtain ⟨r3, e3⟩ := s
  rw [e1, e2, e3]
  simp only [Option.bind_some, beq_self_eq_true, if_true]

end Go.Proofs.Ytopopkdnjpnafaa.Pure
