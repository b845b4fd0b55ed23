-- PRINTED BY print.sh 35421559b90ae4d0a3588c463048766b98c2df88dd9212a6774a882060cdf62d: not written by this session
import Derived.Test.YtopopkdnjpnafaaPSizesLeastx0
namespace Go.Proofs.Ytopopkdnjpnafaa.PSizesLeast
open Go.RowKit Go.Proofs.YtopopkdnjpnafaaW.PrintWords Go.Proofs.YtopopkdnjpnafaaW.PrintLast Go.Proofs.YtopopkdnjpnafaaW.PrintMore
attribute [local go_sem] max2_int min2_int max_two min_two max_three min_three max_four min_four   -- for this text's walks alone
set_option linter.unusedVariables false
set_option linter.unusedSimpArgs false

/-! ### sizes_Size: function 11 -/
mutual
def sizes_Size.j0 : Nat → Int → Bool → Option (Int × Bool)
  | 0, _, _ => none
  | k + 1, x0, x11 => if x11 = true then (some (0, false)) else (sizes_Size.l0 k 12 20 x0 0)
def sizes_Size.l0 : Nat → Int → Int → Int → Int → Option (Int × Bool)
  | 0, _, _, _, _ => none
  | k + 1, x4, x5, x12, x13 => if x13 < x12 then (sizes_Size.l0 k x5 (wrap64 (x4 + x5)) x12 (wrap64 (x13 + 1))) else (some (x4, true))
end
def sizes_Size.f (k : Nat) (a0 : Int) : Option (Int × Bool) := if a0 < 0 then (sizes_Size.j0 k a0 true) else (sizes_Size.j0 k a0 (decide (a0 > 26)))
theorem sizes_Size.mono_l : ∀ k, (∀ y0 y1, LeO (sizes_Size.j0 k y0 y1) (sizes_Size.j0 (k + 1) y0 y1)) ∧ (∀ y0 y1 y2 y3, LeO (sizes_Size.l0 k y0 y1 y2 y3) (sizes_Size.l0 (k + 1) y0 y1 y2 y3))
  | 0 => ⟨fun _ _ r h => by simp [sizes_Size.j0] at h, fun _ _ _ _ r h => by simp [sizes_Size.l0] at h⟩
  | k + 1 => by
    obtain ⟨ih0, ih1⟩ := sizes_Size.mono_l k
    refine ⟨?_, ?_⟩
    · intro y0 y1
      unfold sizes_Size.j0
      repeat' first
      | (with_reducible exact ih0 _ _)
      | (with_reducible exact ih1 _ _ _ _)
      | (with_reducible exact LeO.refl _)
      | (with_reducible exact LeO.none _)
      | (with_reducible refine LeO.ite ?_ ?_)
      | (with_reducible refine LeO.bind ?_ (fun _ => ?_))
      | exact ih0 _ _
      | exact ih1 _ _ _ _
      | exact LeO.none _
      | refine LeO.ite ?_ ?_
      | refine LeO.bind ?_ (fun _ => ?_)
    · intro y0 y1 y2 y3
      unfold sizes_Size.l0
      repeat' first
      | (with_reducible exact ih0 _ _)
      | (with_reducible exact ih1 _ _ _ _)
      | (with_reducible exact LeO.refl _)
      | (with_reducible exact LeO.none _)
      | (with_reducible refine LeO.ite ?_ ?_)
      | (with_reducible refine LeO.bind ?_ (fun _ => ?_))
      | exact ih0 _ _
      | exact ih1 _ _ _ _
      | exact LeO.none _
      | refine LeO.ite ?_ ?_
      | refine LeO.bind ?_ (fun _ => ?_)
theorem sizes_Size.mono : ∀ a0 k, LeO (sizes_Size.f k a0) (sizes_Size.f (k + 1) a0) := by
  intro a0 k
  obtain ⟨ih0, ih1⟩ := sizes_Size.mono_l k
  unfold sizes_Size.f
  repeat' first
      | (with_reducible exact ih0 _ _)
      | (with_reducible exact ih1 _ _ _ _)
      | (with_reducible exact LeO.refl _)
      | (with_reducible exact LeO.none _)
      | (with_reducible refine LeO.ite ?_ ?_)
      | (with_reducible refine LeO.bind ?_ (fun _ => ?_))
      | exact ih0 _ _
      | exact ih1 _ _ _ _
      | exact LeO.none _
      | refine LeO.ite ?_ ?_
      | refine LeO.bind ?_ (fun _ => ?_)
set_option maxHeartbeats 8000000 in
set_option maxRecDepth 100000 in
theorem sizes_Size.calls (k : Nat) (a0 : Int) (r1 : Int) (r2 : Bool) (w : World) (h : sizes_Size.f k a0 = some (r1, r2)) :
    Calls Try.prog 11 #[.int .i64 a0] w fun e w' => e = .returned (.tuple #[.int .i64 r1, .bool r2]) ∧ Drawn0 w w' := by
  have H : (if a0 < 0 then (sizes_Size.j0 k a0 true) else (sizes_Size.j0 k a0 (decide (a0 > 26)))) = some (r1, r2) := h
  clear h
  have HC2 := Aside0.mk H
  clear H
  go_enter Try.func11, Try.ntmps11
  go_upto_region 1 with (fail)
  go_cut [11] (fun v11 wc => ∃ (kq : Nat) (x11_1 : Bool), v11 = .bool x11_1 ∧ Aside0 (sizes_Size.j0 kq a0 x11_1 = some (r1, r2)) ∧ Aside0 (kq ≤ k) ∧ Drawn0 w wc)
  case first =>
    have H := HC2.out
    clear HC2
    by_cases c3 : a0 < 0
    · rw [if_pos c3] at H
      have c3b0 : decide (a0 < 0) = true := decide_eq_true c3
      clear c3
      (first | rw [c3b0] | (simp only [i64_w, i32_w]; rw [c3b0]) | skip)
      have H' := Aside0.mk H
      clear H
      go_wp2
      go_meet
      case rel => exact ⟨_, (true), (by first | rfl | (simp; done) | (simp [*]; done)), H', ⟨by first | omega | exact Nat.le_refl _⟩, by repeat (first | exact Drawn0.refl _ | apply Drawn0.step)⟩
    · rw [if_neg c3] at H
      have c3b0 : decide (a0 < 0) = false := decide_eq_false c3
      clear c3
      (first | rw [c3b0] | (simp only [i64_w, i32_w]; rw [c3b0]) | skip)
      have H' := Aside0.mk H
      clear H
      go_wp2
      go_meet
      case rel => exact ⟨_, (decide (a0 > 26)), (by first | rfl | (simp; done) | (simp [*]; done)), H', ⟨by first | omega | exact Nat.le_refl _⟩, by repeat (first | exact Drawn0.refl _ | apply Drawn0.step)⟩
  case rest =>
    clear HC2
    try clear c1
    try clear p2
    try clear c3
    try clear c3b0
    obtain ⟨kq, x11_1, rfl, HA, HJ1, ⟨mc1, rfl⟩⟩ := hcut
    cases kq with
    | zero => exact absurd HA.out (by simp [sizes_Size.j0])
    | succ kj1 =>
      have H := HA.out
      clear HA
      simp only [sizes_Size.j0] at H
      by_cases c4 : x11_1 = true
      · subst c4
        have H1 : (some (0, false)) = some (r1, r2) := by rw [if_pos rfl] at H; exact H
        clear H
        have H := H1
        clear H1
        simp only [Option.some.injEq, Prod.mk.injEq] at H
        obtain ⟨rfl, rfl⟩ := H
        go_wp2
        go_ret2
        exact ⟨by first | rfl | (simp; done) | (simp [*]; done), by repeat (first | exact Drawn0.refl _ | apply Drawn0.step)⟩
      · replace c4 := Bool.eq_false_iff.mpr c4
        subst c4
        have H1 : (sizes_Size.l0 kj1 12 20 a0 0) = some (r1, r2) := by rw [if_neg (show ¬ (false = true) by decide)] at H; exact H
        clear H
        have H := H1
        clear H1
        have H' := Aside0.mk H
        clear H
        go_wp2
        go_loopg [4, 5, 13] kj1 (fun kq v4 v5 v13 w' => ∃ (x4_2 : Int) (x5_2 : Int) (x13_2 : Int), v4 = .int .i64 x4_2 ∧ v5 = .int .i64 x5_2 ∧ v13 = .int .i64 x13_2 ∧ Aside0 (sizes_Size.l0 kq x4_2 x5_2 a0 x13_2 = some (r1, r2)) ∧ Aside0 (kq ≤ kj1) ∧ Drawn0 w w')
        case atStart => exact ⟨(12), (20), (0), (by first | rfl | (simp; done) | (simp [*]; done)), (by first | rfl | (simp; done) | (simp [*]; done)), (by first | rfl | (simp; done) | (simp [*]; done)), H', ⟨Nat.le_refl _⟩, by repeat (first | exact Drawn0.refl _ | apply Drawn0.step)⟩
        case round =>
          clear H'
          try clear c1
          try clear p2
          try clear c3
          try clear c3b0
          try clear c4
          try clear p2
          obtain ⟨x4_2, x5_2, x13_2, rfl, rfl, rfl, HA, HK2, ⟨m2, rfl⟩⟩ := hrel
          cases gk with
          | zero => exact absurd HA.out (by simp [sizes_Size.l0])
          | succ k2 =>
            have H := HA.out
            clear HA
            simp only [sizes_Size.l0] at H
            by_cases c5 : x13_2 < a0
            · rw [if_pos c5] at H
              have c5b0 : decide (x13_2 < a0) = true := decide_eq_true c5
              clear c5
              have H' := Aside0.mk H
              clear H
              go_wp2
              go_roundg k2
              case measure => have := HJ1.out; have := HK2.out; omega
              case rel => exact ⟨(x5_2), (wrap64 (x4_2 + x5_2)), (wrap64 (x13_2 + 1)), (by first | rfl | (simp; done) | (simp [*]; done)), (by first | rfl | (simp; done) | (simp [*]; done)), (by first | rfl | (simp; done) | (simp [*]; done)), H', ⟨by have := HJ1.out; have := HK2.out; omega⟩, by repeat (first | exact Drawn0.refl _ | apply Drawn0.step)⟩
            · rw [if_neg c5] at H
              have c5b0 : decide (x13_2 < a0) = false := decide_eq_false c5
              clear c5
              simp only [Option.some.injEq, Prod.mk.injEq] at H
              obtain ⟨rfl, rfl⟩ := H
              go_wp2
              go_ret2
              exact ⟨by first | rfl | (simp; done) | (simp [*]; done), by repeat (first | exact Drawn0.refl _ | apply Drawn0.step)⟩

/-! ### sizes_Fit: function 13 -/
def sizes_Fit.l0 : Nat → Int → Int → Option (Int × Bool)
  | 0, _, _ => none
  | k + 1, x0, x7 => if x7 < 27 then ((sizes_Size.f k x7).bind fun bt101 => (if bt101.1 ≥ x0 then (some (bt101.1, true)) else (sizes_Fit.l0 k x0 (wrap64 (x7 + 1))))) else (some (0, false))
def sizes_Fit.f (k : Nat) (a0 : Int) : Option (Int × Bool) := sizes_Fit.l0 k a0 0
theorem sizes_Fit.mono_l : ∀ k, (∀ y0 y1, LeO (sizes_Fit.l0 k y0 y1) (sizes_Fit.l0 (k + 1) y0 y1))
  | 0 => fun _ _ r h => by simp [sizes_Fit.l0] at h
  | k + 1 => by
    have ih0 := sizes_Fit.mono_l k
    · intro y0 y1
      unfold sizes_Fit.l0
      repeat' first
      | (with_reducible exact ih0 _ _)
      | (with_reducible exact sizes_Size.mono _ _)
      | (with_reducible exact LeO.refl _)
      | (with_reducible exact LeO.none _)
      | (with_reducible refine LeO.ite ?_ ?_)
      | (with_reducible refine LeO.bind ?_ (fun _ => ?_))
      | exact ih0 _ _
      | exact sizes_Size.mono _ _
      | exact LeO.none _
      | refine LeO.ite ?_ ?_
      | refine LeO.bind ?_ (fun _ => ?_)
theorem sizes_Fit.mono : ∀ a0 k, LeO (sizes_Fit.f k a0) (sizes_Fit.f (k + 1) a0) := by
  intro a0 k
  have ih0 := sizes_Fit.mono_l k
  unfold sizes_Fit.f
  repeat' first
      | (with_reducible exact ih0 _ _)
      | (with_reducible exact sizes_Size.mono _ _)
      | (with_reducible exact LeO.refl _)
      | (with_reducible exact LeO.none _)
      | (with_reducible refine LeO.ite ?_ ?_)
      | (with_reducible refine LeO.bind ?_ (fun _ => ?_))
      | exact ih0 _ _
      | exact sizes_Size.mono _ _
      | exact LeO.none _
      | refine LeO.ite ?_ ?_
      | refine LeO.bind ?_ (fun _ => ?_)
set_option maxHeartbeats 8000000 in
set_option maxRecDepth 100000 in
theorem sizes_Fit.calls (k : Nat) (a0 : Int) (r1 : Int) (r2 : Bool) (w : World) (h : sizes_Fit.f k a0 = some (r1, r2)) :
    Calls Try.prog 13 #[.int .i64 a0] w fun e w' => e = .returned (.tuple #[.int .i64 r1, .bool r2]) ∧ Drawn0 w w' := by
  have H : (sizes_Fit.l0 k a0 0) = some (r1, r2) := h
  clear h
  have H' := Aside0.mk H
  clear H
  go_enter Try.func13, Try.ntmps13
  go_wp2
  go_loopg [7] k (fun kq v7 w' => ∃ (x7_1 : Int), v7 = .int .i64 x7_1 ∧ Aside0 (sizes_Fit.l0 kq a0 x7_1 = some (r1, r2)) ∧ Aside0 (kq ≤ k) ∧ Drawn0 w w')
  case atStart => exact ⟨(0), (by first | rfl | (simp; done) | (simp [*]; done)), H', ⟨Nat.le_refl _⟩, by repeat (first | exact Drawn0.refl _ | apply Drawn0.step)⟩
  case round =>
    clear H'
    try clear c1
    obtain ⟨x7_1, rfl, HA, HK1, ⟨m1, rfl⟩⟩ := hrel
    cases gk with
    | zero => exact absurd HA.out (by simp [sizes_Fit.l0])
    | succ k1 =>
      have H := HA.out
      clear HA
      simp only [sizes_Fit.l0] at H
      by_cases c2 : x7_1 < 27
      · rw [if_pos c2] at H
        have c2b0 : decide (x7_1 < 27) = true := decide_eq_true c2
        clear c2
        replace H := Option.bind_eq_some_iff.mp H
        obtain ⟨⟨t101, t102⟩, A30, H⟩ := H
        replace H : (if t101 ≥ a0 then (some (t101, true)) else (sizes_Fit.l0 k1 a0 (wrap64 (x7_1 + 1)))) = some (r1, r2) := H
        have A3 := Aside0.mk A30
        clear A30
        by_cases c4 : t101 ≥ a0
        · rw [if_pos c4] at H
          have c4b0 : decide (a0 ≤ t101) = true := decide_eq_true c4
          clear c4
          simp only [Option.some.injEq, Prod.mk.injEq] at H
          obtain ⟨rfl, rfl⟩ := H
          go_wp2_with (first | ((with_reducible refine gate_callee (f := 11) rfl ?_); refine goesL_ (some 12) rfl rfl Try.func11 (by kernel_rfl) rfl #[.int .i64 x7_1] rfl (by (try simp only [List.map_toArray, List.map_cons, List.map_nil]); first | done | rfl | (simp only [List.length_drop, List.length_take]; rfl)) ?_; (with_reducible refine (sizes_Size.calls k1 x7_1 t101 t102 _ A3.out).mono ?_); rintro e w' ⟨rfl, ⟨nd, rfl⟩⟩; refine ⟨_, rfl, ?_⟩))
          go_ret2
          exact ⟨by first | rfl | (simp; done) | (simp [*]; done), by repeat (first | exact Drawn0.refl _ | apply Drawn0.step)⟩
        · rw [if_neg c4] at H
          have c4b0 : decide (a0 ≤ t101) = false := decide_eq_false c4
          clear c4
          have H' := Aside0.mk H
          clear H
          go_wp2_with (first | ((with_reducible refine gate_callee (f := 11) rfl ?_); refine goesL_ (some 12) rfl rfl Try.func11 (by kernel_rfl) rfl #[.int .i64 x7_1] rfl (by (try simp only [List.map_toArray, List.map_cons, List.map_nil]); first | done | rfl | (simp only [List.length_drop, List.length_take]; rfl)) ?_; (with_reducible refine (sizes_Size.calls k1 x7_1 t101 t102 _ A3.out).mono ?_); rintro e w' ⟨rfl, ⟨nd, rfl⟩⟩; refine ⟨_, rfl, ?_⟩))
          go_roundg k1
          case measure => have := HK1.out; omega
          case rel => exact ⟨(wrap64 (x7_1 + 1)), (by first | rfl | (simp; done) | (simp [*]; done)), H', ⟨by have := HK1.out; omega⟩, by repeat (first | exact Drawn0.refl _ | apply Drawn0.step)⟩
      · rw [if_neg c2] at H
        have c2b0 : decide (x7_1 < 27) = false := decide_eq_false c2
        clear c2
        simp only [Option.some.injEq, Prod.mk.injEq] at H
        obtain ⟨rfl, rfl⟩ := H
        go_wp2
        go_ret2
        exact ⟨by first | rfl | (simp; done) | (simp [*]; done), by repeat (first | exact Drawn0.refl _ | apply Drawn0.step)⟩

/-! ### sizes_Want: function 15 -/
def sizes_Want.f (k : Nat) (a0 : Int) (a1 : Int) : Option (Int × Bool) := if a0 < 0 then (some (0, false)) else (if a0 > 1073741824 then (some (0, false)) else (if a1 < 0 then (some (0, false)) else (if a1 > 1073741824 then (some (0, false)) else ((sizes_Fit.f k (wrap64 ((wrap64 (4 * a0)) + a1))).bind fun bt103 => (some (bt103.1, bt103.2))))))
theorem sizes_Want.mono : ∀ a0 a1 k, LeO (sizes_Want.f k a0 a1) (sizes_Want.f (k + 1) a0 a1) := by
  intro a0 a1 k
  unfold sizes_Want.f
  repeat' first
      | (with_reducible exact sizes_Fit.mono _ _)
      | (with_reducible exact LeO.refl _)
      | (with_reducible exact LeO.none _)
      | (with_reducible refine LeO.ite ?_ ?_)
      | (with_reducible refine LeO.bind ?_ (fun _ => ?_))
      | exact sizes_Fit.mono _ _
      | exact LeO.none _
      | refine LeO.ite ?_ ?_
      | refine LeO.bind ?_ (fun _ => ?_)
set_option maxHeartbeats 8000000 in
set_option maxRecDepth 100000 in
theorem sizes_Want.calls (k : Nat) (a0 : Int) (a1 : Int) (r1 : Int) (r2 : Bool) (w : World) (h : sizes_Want.f k a0 a1 = some (r1, r2)) :
    Calls Try.prog 15 #[.int .i64 a0, .int .i64 a1] w fun e w' => e = .returned (.tuple #[.int .i64 r1, .bool r2]) ∧ Drawn0 w w' := by
  have H : (if a0 < 0 then (some (0, false)) else (if a0 > 1073741824 then (some (0, false)) else (if a1 < 0 then (some (0, false)) else (if a1 > 1073741824 then (some (0, false)) else ((sizes_Fit.f k (wrap64 ((wrap64 (4 * a0)) + a1))).bind fun bt103 => (some (bt103.1, bt103.2))))))) = some (r1, r2) := h
  clear h
  by_cases c3 : a0 < 0
  · rw [if_pos c3] at H
    have c3b0 : decide (a0 < 0) = true := decide_eq_true c3
    clear c3
    simp only [Option.some.injEq, Prod.mk.injEq] at H
    obtain ⟨rfl, rfl⟩ := H
    go_enter Try.func15, Try.ntmps15
    go_wp2
    go_ret2
    exact ⟨by first | rfl | (simp; done) | (simp [*]; done), by repeat (first | exact Drawn0.refl _ | apply Drawn0.step)⟩
  · rw [if_neg c3] at H
    have c3b0 : decide (a0 < 0) = false := decide_eq_false c3
    clear c3
    by_cases c4 : a0 > 1073741824
    · rw [if_pos c4] at H
      have c4b0 : decide (1073741824 < a0) = true := decide_eq_true c4
      clear c4
      simp only [Option.some.injEq, Prod.mk.injEq] at H
      obtain ⟨rfl, rfl⟩ := H
      go_enter Try.func15, Try.ntmps15
      go_wp2
      go_ret2
      exact ⟨by first | rfl | (simp; done) | (simp [*]; done), by repeat (first | exact Drawn0.refl _ | apply Drawn0.step)⟩
    · rw [if_neg c4] at H
      have c4b0 : decide (1073741824 < a0) = false := decide_eq_false c4
      clear c4
      by_cases c5 : a1 < 0
      · rw [if_pos c5] at H
        have c5b0 : decide (a1 < 0) = true := decide_eq_true c5
        clear c5
        simp only [Option.some.injEq, Prod.mk.injEq] at H
        obtain ⟨rfl, rfl⟩ := H
        go_enter Try.func15, Try.ntmps15
        go_wp2
        go_ret2
        exact ⟨by first | rfl | (simp; done) | (simp [*]; done), by repeat (first | exact Drawn0.refl _ | apply Drawn0.step)⟩
      · rw [if_neg c5] at H
        have c5b0 : decide (a1 < 0) = false := decide_eq_false c5
        clear c5
        by_cases c6 : a1 > 1073741824
        · rw [if_pos c6] at H
          have c6b0 : decide (1073741824 < a1) = true := decide_eq_true c6
          clear c6
          simp only [Option.some.injEq, Prod.mk.injEq] at H
          obtain ⟨rfl, rfl⟩ := H
          go_enter Try.func15, Try.ntmps15
          go_wp2
          go_ret2
          exact ⟨by first | rfl | (simp; done) | (simp [*]; done), by repeat (first | exact Drawn0.refl _ | apply Drawn0.step)⟩
        · rw [if_neg c6] at H
          have c6b0 : decide (1073741824 < a1) = false := decide_eq_false c6
          clear c6
          replace H := Option.bind_eq_some_iff.mp H
          obtain ⟨⟨t103, t104⟩, A70, H⟩ := H
          replace H : (some (t103, t104)) = some (r1, r2) := H
          have A7 := Aside0.mk A70
          clear A70
          simp only [Option.some.injEq, Prod.mk.injEq] at H
          obtain ⟨rfl, rfl⟩ := H
          go_enter Try.func15, Try.ntmps15
          go_wp2_with (first | ((with_reducible refine gate_callee (f := 13) rfl ?_); refine goesL_ (some 24) rfl rfl Try.func13 (by kernel_rfl) rfl #[.int .i64 (wrap64 ((wrap64 (4 * a0)) + a1))] rfl (by (try simp only [List.map_toArray, List.map_cons, List.map_nil]); first | done | rfl | (simp only [List.length_drop, List.length_take]; rfl)) ?_; (with_reducible refine (sizes_Fit.calls k (wrap64 ((wrap64 (4 * a0)) + a1)) t103 t104 _ A7.out).mono ?_); rintro e w' ⟨rfl, ⟨nd, rfl⟩⟩; refine ⟨_, rfl, ?_⟩))
          go_ret2
          exact ⟨by first | rfl | (simp; done) | (simp [*]; done), by repeat (first | exact Drawn0.refl _ | apply Drawn0.step)⟩

/-! ### beehivelaw9_awake: function 17 -/
def beehivelaw9_awake.f (k : Nat)  : Option (Bool) := (sizes_Size.f k 2).bind fun bt105 => ((sizes_Fit.f k 33).bind fun bt107 => ((sizes_Want.f k 3 1).bind fun bt109 => (if bt105.1 = 32 then (if bt105.2 = true then (if bt107.1 = 52 then (if bt107.2 = true then (if bt109.1 = 20 then (some bt109.2) else (some false)) else (some false)) else (some false)) else (some false)) else (some false))))
theorem beehivelaw9_awake.mono : ∀ k, LeO (beehivelaw9_awake.f k ) (beehivelaw9_awake.f (k + 1) ) := by
  intro  k
  unfold beehivelaw9_awake.f
  repeat' first
      | (with_reducible exact sizes_Fit.mono _ _)
      | (with_reducible exact sizes_Size.mono _ _)
      | (with_reducible exact sizes_Want.mono _ _ _)
      | (with_reducible exact LeO.refl _)
      | (with_reducible exact LeO.none _)
      | (with_reducible refine LeO.ite ?_ ?_)
      | (with_reducible refine LeO.bind ?_ (fun _ => ?_))
      | exact sizes_Fit.mono _ _
      | exact sizes_Size.mono _ _
      | exact sizes_Want.mono _ _ _
      | exact LeO.none _
      | refine LeO.ite ?_ ?_
      | refine LeO.bind ?_ (fun _ => ?_)
set_option maxHeartbeats 8000000 in
set_option maxRecDepth 100000 in
theorem beehivelaw9_awake.calls (k : Nat)  (r : Bool) (w : World) (h : beehivelaw9_awake.f k  = some r) :
    Calls Try.prog 17 #[] w fun e w' => e = .returned (.bool r) ∧ Drawn0 w w' := by
  have H : ((sizes_Size.f k 2).bind fun bt105 => ((sizes_Fit.f k 33).bind fun bt107 => ((sizes_Want.f k 3 1).bind fun bt109 => (if bt105.1 = 32 then (if bt105.2 = true then (if bt107.1 = 52 then (if bt107.2 = true then (if bt109.1 = 20 then (some bt109.2) else (some false)) else (some false)) else (some false)) else (some false)) else (some false))))) = some r := h
  clear h
  replace H := Option.bind_eq_some_iff.mp H
  obtain ⟨⟨t105, t106⟩, A10, H⟩ := H
  replace H : ((sizes_Fit.f k 33).bind fun bt107 => ((sizes_Want.f k 3 1).bind fun bt109 => (if t105 = 32 then (if t106 = true then (if bt107.1 = 52 then (if bt107.2 = true then (if bt109.1 = 20 then (some bt109.2) else (some false)) else (some false)) else (some false)) else (some false)) else (some false)))) = some r := H
  have A1 := Aside0.mk A10
  clear A10
  replace H := Option.bind_eq_some_iff.mp H
  obtain ⟨⟨t107, t108⟩, A20, H⟩ := H
  replace H : ((sizes_Want.f k 3 1).bind fun bt109 => (if t105 = 32 then (if t106 = true then (if t107 = 52 then (if t108 = true then (if bt109.1 = 20 then (some bt109.2) else (some false)) else (some false)) else (some false)) else (some false)) else (some false))) = some r := H
  have A2 := Aside0.mk A20
  clear A20
  replace H := Option.bind_eq_some_iff.mp H
  obtain ⟨⟨t109, t110⟩, A30, H⟩ := H
  replace H : (if t105 = 32 then (if t106 = true then (if t107 = 52 then (if t108 = true then (if t109 = 20 then (some t110) else (some false)) else (some false)) else (some false)) else (some false)) else (some false)) = some r := H
  have A3 := Aside0.mk A30
  clear A30
  by_cases c4 : t105 = 32
  · rw [if_pos c4] at H
    have c4b0 : (t105 == 32) = true := beq_iff_eq.mpr c4
    have c4b1 : (t105 != 32) = false := bne_eq_false_iff_eq.mpr c4
    clear c4
    by_cases c5 : t106 = true
    · subst c5
      have H1 : (if t107 = 52 then (if t108 = true then (if t109 = 20 then (some t110) else (some false)) else (some false)) else (some false)) = some r := by rw [if_pos rfl] at H; exact H
      clear H
      have H := H1
      clear H1
      by_cases c6 : t107 = 52
      · rw [if_pos c6] at H
        have c6b0 : (t107 == 52) = true := beq_iff_eq.mpr c6
        have c6b1 : (t107 != 52) = false := bne_eq_false_iff_eq.mpr c6
        clear c6
        by_cases c7 : t108 = true
        · subst c7
          have H1 : (if t109 = 20 then (some t110) else (some false)) = some r := by rw [if_pos rfl] at H; exact H
          clear H
          have H := H1
          clear H1
          by_cases c8 : t109 = 20
          · rw [if_pos c8] at H
            have c8b0 : (t109 == 20) = true := beq_iff_eq.mpr c8
            have c8b1 : (t109 != 20) = false := bne_eq_false_iff_eq.mpr c8
            clear c8
            obtain rfl := Option.some.inj H
            go_enter Try.func17, Try.ntmps17
            go_wp2_with (first | ((with_reducible refine gate_callee (f := 11) rfl ?_); refine goesL_ (some 8) rfl rfl Try.func11 (by kernel_rfl) rfl #[.int .i64 2] rfl (by (try simp only [List.map_toArray, List.map_cons, List.map_nil]); first | done | rfl | (simp only [List.length_drop, List.length_take]; rfl)) ?_; (with_reducible refine (sizes_Size.calls k 2 t105 true _ A1.out).mono ?_); rintro e w' ⟨rfl, ⟨nd, rfl⟩⟩; refine ⟨_, rfl, ?_⟩) | ((with_reducible refine gate_callee (f := 13) rfl ?_); refine goesL_ (some 12) rfl rfl Try.func13 (by kernel_rfl) rfl #[.int .i64 33] rfl (by (try simp only [List.map_toArray, List.map_cons, List.map_nil]); first | done | rfl | (simp only [List.length_drop, List.length_take]; rfl)) ?_; (with_reducible refine (sizes_Fit.calls k 33 t107 true _ A2.out).mono ?_); rintro e w' ⟨rfl, ⟨nd, rfl⟩⟩; refine ⟨_, rfl, ?_⟩) | ((with_reducible refine gate_callee (f := 15) rfl ?_); refine goesL_ (some 16) rfl rfl Try.func15 (by kernel_rfl) rfl #[.int .i64 3, .int .i64 1] rfl (by (try simp only [List.map_toArray, List.map_cons, List.map_nil]); first | done | rfl | (simp only [List.length_drop, List.length_take]; rfl)) ?_; (with_reducible refine (sizes_Want.calls k 3 1 t109 t110 _ A3.out).mono ?_); rintro e w' ⟨rfl, ⟨nd, rfl⟩⟩; refine ⟨_, rfl, ?_⟩))
            go_ret
            exact ⟨by first | rfl | (simp; done) | (simp [*]; done), by repeat (first | exact Drawn0.refl _ | apply Drawn0.step)⟩
          · rw [if_neg c8] at H
            have c8b0 : (t109 == 20) = false := beq_eq_false_iff_ne.mpr c8
            have c8b1 : (t109 != 20) = true := bne_iff_ne.mpr c8
            obtain rfl := Option.some.inj H
            go_enter Try.func17, Try.ntmps17
            go_wp2_with (first | ((with_reducible refine gate_callee (f := 11) rfl ?_); refine goesL_ (some 8) rfl rfl Try.func11 (by kernel_rfl) rfl #[.int .i64 2] rfl (by (try simp only [List.map_toArray, List.map_cons, List.map_nil]); first | done | rfl | (simp only [List.length_drop, List.length_take]; rfl)) ?_; (with_reducible refine (sizes_Size.calls k 2 t105 true _ A1.out).mono ?_); rintro e w' ⟨rfl, ⟨nd, rfl⟩⟩; refine ⟨_, rfl, ?_⟩) | ((with_reducible refine gate_callee (f := 13) rfl ?_); refine goesL_ (some 12) rfl rfl Try.func13 (by kernel_rfl) rfl #[.int .i64 33] rfl (by (try simp only [List.map_toArray, List.map_cons, List.map_nil]); first | done | rfl | (simp only [List.length_drop, List.length_take]; rfl)) ?_; (with_reducible refine (sizes_Fit.calls k 33 t107 true _ A2.out).mono ?_); rintro e w' ⟨rfl, ⟨nd, rfl⟩⟩; refine ⟨_, rfl, ?_⟩) | ((with_reducible refine gate_callee (f := 15) rfl ?_); refine goesL_ (some 16) rfl rfl Try.func15 (by kernel_rfl) rfl #[.int .i64 3, .int .i64 1] rfl (by (try simp only [List.map_toArray, List.map_cons, List.map_nil]); first | done | rfl | (simp only [List.length_drop, List.length_take]; rfl)) ?_; (with_reducible refine (sizes_Want.calls k 3 1 t109 t110 _ A3.out).mono ?_); rintro e w' ⟨rfl, ⟨nd, rfl⟩⟩; refine ⟨_, rfl, ?_⟩))
            go_ret
            exact ⟨by first | rfl | (simp; done) | (simp [*]; done), by repeat (first | exact Drawn0.refl _ | apply Drawn0.step)⟩
        · replace c7 := Bool.eq_false_iff.mpr c7
          subst c7
          have H1 : (some false) = some r := by rw [if_neg (show ¬ (false = true) by decide)] at H; exact H
          clear H
          have H := H1
          clear H1
          obtain rfl := Option.some.inj H
          go_enter Try.func17, Try.ntmps17
          go_wp2_with (first | ((with_reducible refine gate_callee (f := 11) rfl ?_); refine goesL_ (some 8) rfl rfl Try.func11 (by kernel_rfl) rfl #[.int .i64 2] rfl (by (try simp only [List.map_toArray, List.map_cons, List.map_nil]); first | done | rfl | (simp only [List.length_drop, List.length_take]; rfl)) ?_; (with_reducible refine (sizes_Size.calls k 2 t105 true _ A1.out).mono ?_); rintro e w' ⟨rfl, ⟨nd, rfl⟩⟩; refine ⟨_, rfl, ?_⟩) | ((with_reducible refine gate_callee (f := 13) rfl ?_); refine goesL_ (some 12) rfl rfl Try.func13 (by kernel_rfl) rfl #[.int .i64 33] rfl (by (try simp only [List.map_toArray, List.map_cons, List.map_nil]); first | done | rfl | (simp only [List.length_drop, List.length_take]; rfl)) ?_; (with_reducible refine (sizes_Fit.calls k 33 t107 false _ A2.out).mono ?_); rintro e w' ⟨rfl, ⟨nd, rfl⟩⟩; refine ⟨_, rfl, ?_⟩) | ((with_reducible refine gate_callee (f := 15) rfl ?_); refine goesL_ (some 16) rfl rfl Try.func15 (by kernel_rfl) rfl #[.int .i64 3, .int .i64 1] rfl (by (try simp only [List.map_toArray, List.map_cons, List.map_nil]); first | done | rfl | (simp only [List.length_drop, List.length_take]; rfl)) ?_; (with_reducible refine (sizes_Want.calls k 3 1 t109 t110 _ A3.out).mono ?_); rintro e w' ⟨rfl, ⟨nd, rfl⟩⟩; refine ⟨_, rfl, ?_⟩))
          go_ret
          exact ⟨by first | rfl | (simp; done) | (simp [*]; done), by repeat (first | exact Drawn0.refl _ | apply Drawn0.step)⟩
      · rw [if_neg c6] at H
        have c6b0 : (t107 == 52) = false := beq_eq_false_iff_ne.mpr c6
        have c6b1 : (t107 != 52) = true := bne_iff_ne.mpr c6
        obtain rfl := Option.some.inj H
        go_enter Try.func17, Try.ntmps17
        go_wp2_with (first | ((with_reducible refine gate_callee (f := 11) rfl ?_); refine goesL_ (some 8) rfl rfl Try.func11 (by kernel_rfl) rfl #[.int .i64 2] rfl (by (try simp only [List.map_toArray, List.map_cons, List.map_nil]); first | done | rfl | (simp only [List.length_drop, List.length_take]; rfl)) ?_; (with_reducible refine (sizes_Size.calls k 2 t105 true _ A1.out).mono ?_); rintro e w' ⟨rfl, ⟨nd, rfl⟩⟩; refine ⟨_, rfl, ?_⟩) | ((with_reducible refine gate_callee (f := 13) rfl ?_); refine goesL_ (some 12) rfl rfl Try.func13 (by kernel_rfl) rfl #[.int .i64 33] rfl (by (try simp only [List.map_toArray, List.map_cons, List.map_nil]); first | done | rfl | (simp only [List.length_drop, List.length_take]; rfl)) ?_; (with_reducible refine (sizes_Fit.calls k 33 t107 t108 _ A2.out).mono ?_); rintro e w' ⟨rfl, ⟨nd, rfl⟩⟩; refine ⟨_, rfl, ?_⟩) | ((with_reducible refine gate_callee (f := 15) rfl ?_); refine goesL_ (some 16) rfl rfl Try.func15 (by kernel_rfl) rfl #[.int .i64 3, .int .i64 1] rfl (by (try simp only [List.map_toArray, List.map_cons, List.map_nil]); first | done | rfl | (simp only [List.length_drop, List.length_take]; rfl)) ?_; (with_reducible refine (sizes_Want.calls k 3 1 t109 t110 _ A3.out).mono ?_); rintro e w' ⟨rfl, ⟨nd, rfl⟩⟩; refine ⟨_, rfl, ?_⟩))
        go_ret
        exact ⟨by first | rfl | (simp; done) | (simp [*]; done), by repeat (first | exact Drawn0.refl _ | apply Drawn0.step)⟩
    · replace c5 := Bool.eq_false_iff.mpr c5
      subst c5
      have H1 : (some false) = some r := by rw [if_neg (show ¬ (false = true) by decide)] at H; exact H
      clear H
      have H := H1
      clear H1
      obtain rfl := Option.some.inj H
      go_enter Try.func17, Try.ntmps17
      go_wp2_with (first | ((with_reducible refine gate_callee (f := 11) rfl ?_); refine goesL_ (some 8) rfl rfl Try.func11 (by kernel_rfl) rfl #[.int .i64 2] rfl (by (try simp only [List.map_toArray, List.map_cons, List.map_nil]); first | done | rfl | (simp only [List.length_drop, List.length_take]; rfl)) ?_; (with_reducible refine (sizes_Size.calls k 2 t105 false _ A1.out).mono ?_); rintro e w' ⟨rfl, ⟨nd, rfl⟩⟩; refine ⟨_, rfl, ?_⟩) | ((with_reducible refine gate_callee (f := 13) rfl ?_); refine goesL_ (some 12) rfl rfl Try.func13 (by kernel_rfl) rfl #[.int .i64 33] rfl (by (try simp only [List.map_toArray, List.map_cons, List.map_nil]); first | done | rfl | (simp only [List.length_drop, List.length_take]; rfl)) ?_; (with_reducible refine (sizes_Fit.calls k 33 t107 t108 _ A2.out).mono ?_); rintro e w' ⟨rfl, ⟨nd, rfl⟩⟩; refine ⟨_, rfl, ?_⟩) | ((with_reducible refine gate_callee (f := 15) rfl ?_); refine goesL_ (some 16) rfl rfl Try.func15 (by kernel_rfl) rfl #[.int .i64 3, .int .i64 1] rfl (by (try simp only [List.map_toArray, List.map_cons, List.map_nil]); first | done | rfl | (simp only [List.length_drop, List.length_take]; rfl)) ?_; (with_reducible refine (sizes_Want.calls k 3 1 t109 t110 _ A3.out).mono ?_); rintro e w' ⟨rfl, ⟨nd, rfl⟩⟩; refine ⟨_, rfl, ?_⟩))
      go_ret
      exact ⟨by first | rfl | (simp; done) | (simp [*]; done), by repeat (first | exact Drawn0.refl _ | apply Drawn0.step)⟩
  · rw [if_neg c4] at H
    have c4b0 : (t105 == 32) = false := beq_eq_false_iff_ne.mpr c4
    have c4b1 : (t105 != 32) = true := bne_iff_ne.mpr c4
    obtain rfl := Option.some.inj H
    go_enter Try.func17, Try.ntmps17
    go_wp2_with (first | ((with_reducible refine gate_callee (f := 11) rfl ?_); refine goesL_ (some 8) rfl rfl Try.func11 (by kernel_rfl) rfl #[.int .i64 2] rfl (by (try simp only [List.map_toArray, List.map_cons, List.map_nil]); first | done | rfl | (simp only [List.length_drop, List.length_take]; rfl)) ?_; (with_reducible refine (sizes_Size.calls k 2 t105 t106 _ A1.out).mono ?_); rintro e w' ⟨rfl, ⟨nd, rfl⟩⟩; refine ⟨_, rfl, ?_⟩) | ((with_reducible refine gate_callee (f := 13) rfl ?_); refine goesL_ (some 12) rfl rfl Try.func13 (by kernel_rfl) rfl #[.int .i64 33] rfl (by (try simp only [List.map_toArray, List.map_cons, List.map_nil]); first | done | rfl | (simp only [List.length_drop, List.length_take]; rfl)) ?_; (with_reducible refine (sizes_Fit.calls k 33 t107 t108 _ A2.out).mono ?_); rintro e w' ⟨rfl, ⟨nd, rfl⟩⟩; refine ⟨_, rfl, ?_⟩) | ((with_reducible refine gate_callee (f := 15) rfl ?_); refine goesL_ (some 16) rfl rfl Try.func15 (by kernel_rfl) rfl #[.int .i64 3, .int .i64 1] rfl (by (try simp only [List.map_toArray, List.map_cons, List.map_nil]); first | done | rfl | (simp only [List.length_drop, List.length_take]; rfl)) ?_; (with_reducible refine (sizes_Want.calls k 3 1 t109 t110 _ A3.out).mono ?_); rintro e w' ⟨rfl, ⟨nd, rfl⟩⟩; refine ⟨_, rfl, ?_⟩))
    go_ret
    exact ⟨by first | rfl | (simp; done) | (simp [*]; done), by repeat (first | exact Drawn0.refl _ | apply Drawn0.step)⟩

/-! ### beehivelaw0_Low: function 18 -/
def beehivelaw0_Low.f (a0 : Int) (a1 : Int) : Option (Int) := if (IntKind.u64.wrap (a1)) = 0 then (none) else (some (wrap64 (Int.tmod (IntKind.u64.wrap (a0)) (IntKind.u64.wrap (a1)))))
set_option maxHeartbeats 8000000 in
set_option maxRecDepth 100000 in
theorem beehivelaw0_Low.calls (a0 : Int) (a1 : Int) (r : Int) (w : World) (h : beehivelaw0_Low.f a0 a1 = some r) :
    Calls Try.prog 18 #[.int .i64 a0, .int .i64 a1] w fun e w' => e = .returned (.int .i64 r) ∧ Drawn0 w w' := by
  have H : (if (IntKind.u64.wrap (a1)) = 0 then (none) else (some (wrap64 (Int.tmod (IntKind.u64.wrap (a0)) (IntKind.u64.wrap (a1)))))) = some r := h
  clear h
  by_cases c3 : (IntKind.u64.wrap (a1)) = 0
  · rw [if_pos c3] at H
    exact absurd H (by simp)
  · rw [if_neg c3] at H
    have c3b0 : ((IntKind.u64.wrap (a1)) == 0) = false := beq_eq_false_iff_ne.mpr c3
    have c3b1 : ((IntKind.u64.wrap (a1)) != 0) = true := bne_iff_ne.mpr c3
    obtain rfl := Option.some.inj H
    go_enter Try.func18, Try.ntmps18
    go_wp2
    go_ret
    exact ⟨by first | rfl | (simp; done) | (simp [*]; done), by repeat (first | exact Drawn0.refl _ | apply Drawn0.step)⟩

/-! ### beehivelaw9_SizesLeast: function 4 -/
def beehivelaw9_SizesLeast.j0 : Nat → Int → Int → Int → Bool → Option (Bool)
  | 0, _, _, _, _ => none
  | k + 1, x1, x5, x7, x42 => if x42 = true then (some false) else ((beehivelaw0_Low.f x1 (wrap64 (x7 - x5))).bind fun t116 => ((sizes_Fit.f k (wrap64 ((wrap64 (x5 + 1)) + t116))).bind fun bt117 => ((sizes_Fit.f k x5).bind fun bt119 => (if bt117.1 = x7 then (if bt117.2 = true then (if bt119.1 = x5 then (if bt119.2 = true then ((beehivelaw9_awake.f k).bind fun t121 => (some t121)) else (some false)) else (some false)) else (some false)) else (some false)))))
def beehivelaw9_SizesLeast.f (k : Nat) (a0 : Int) (a1 : Int) : Option (Bool) := (beehivelaw0_Low.f a0 26).bind fun t111 => ((sizes_Size.f k t111).bind fun bt112 => ((sizes_Size.f k (wrap64 (t111 + 1))).bind fun bt114 => (if bt112.2 = true then (if bt114.2 = true then (if bt114.1 ≤ bt112.1 then (beehivelaw9_SizesLeast.j0 k a1 bt112.1 bt114.1 true) else (beehivelaw9_SizesLeast.j0 k a1 bt112.1 bt114.1 (decide (bt114.1 ≥ (wrap64 (2 * bt112.1)))))) else (beehivelaw9_SizesLeast.j0 k a1 bt112.1 bt114.1 true)) else (beehivelaw9_SizesLeast.j0 k a1 bt112.1 bt114.1 true))))
theorem beehivelaw9_SizesLeast.mono_l : ∀ k, (∀ y0 y1 y2 y3, LeO (beehivelaw9_SizesLeast.j0 k y0 y1 y2 y3) (beehivelaw9_SizesLeast.j0 (k + 1) y0 y1 y2 y3))
  | 0 => fun _ _ _ _ r h => by simp [beehivelaw9_SizesLeast.j0] at h
  | k + 1 => by
    have ih0 := beehivelaw9_SizesLeast.mono_l k
    · intro y0 y1 y2 y3
      unfold beehivelaw9_SizesLeast.j0
      repeat' first
      | (with_reducible exact ih0 _ _ _ _)
      | (with_reducible exact beehivelaw9_awake.mono _)
      | (with_reducible exact sizes_Fit.mono _ _)
      | (with_reducible exact sizes_Size.mono _ _)
      | (with_reducible exact LeO.refl _)
      | (with_reducible exact LeO.none _)
      | (with_reducible refine LeO.ite ?_ ?_)
      | (with_reducible refine LeO.bind ?_ (fun _ => ?_))
      | exact ih0 _ _ _ _
      | exact beehivelaw9_awake.mono _
      | exact sizes_Fit.mono _ _
      | exact sizes_Size.mono _ _
      | exact LeO.none _
      | refine LeO.ite ?_ ?_
      | refine LeO.bind ?_ (fun _ => ?_)
theorem beehivelaw9_SizesLeast.mono : ∀ a0 a1 k, LeO (beehivelaw9_SizesLeast.f k a0 a1) (beehivelaw9_SizesLeast.f (k + 1) a0 a1) := by
  intro a0 a1 k
  have ih0 := beehivelaw9_SizesLeast.mono_l k
  unfold beehivelaw9_SizesLeast.f
  repeat' first
      | (with_reducible exact ih0 _ _ _ _)
      | (with_reducible exact beehivelaw9_awake.mono _)
      | (with_reducible exact sizes_Fit.mono _ _)
      | (with_reducible exact sizes_Size.mono _ _)
      | (with_reducible exact LeO.refl _)
      | (with_reducible exact LeO.none _)
      | (with_reducible refine LeO.ite ?_ ?_)
      | (with_reducible refine LeO.bind ?_ (fun _ => ?_))
      | exact ih0 _ _ _ _
      | exact beehivelaw9_awake.mono _
      | exact sizes_Fit.mono _ _
      | exact sizes_Size.mono _ _
      | exact LeO.none _
      | refine LeO.ite ?_ ?_
      | refine LeO.bind ?_ (fun _ => ?_)
set_option maxHeartbeats 8000000 in
set_option maxRecDepth 100000 in
theorem beehivelaw9_SizesLeast.calls (k : Nat) (a0 : Int) (a1 : Int) (r : Bool) (w : World) (h : beehivelaw9_SizesLeast.f k a0 a1 = some r) :
    Calls Try.prog 4 #[.int .i64 a0, .int .i64 a1] w fun e w' => e = .returned (.bool r) ∧ Drawn0 w w' := by
  have H : ((beehivelaw0_Low.f a0 26).bind fun t111 => ((sizes_Size.f k t111).bind fun bt112 => ((sizes_Size.f k (wrap64 (t111 + 1))).bind fun bt114 => (if bt112.2 = true then (if bt114.2 = true then (if bt114.1 ≤ bt112.1 then (beehivelaw9_SizesLeast.j0 k a1 bt112.1 bt114.1 true) else (beehivelaw9_SizesLeast.j0 k a1 bt112.1 bt114.1 (decide (bt114.1 ≥ (wrap64 (2 * bt112.1)))))) else (beehivelaw9_SizesLeast.j0 k a1 bt112.1 bt114.1 true)) else (beehivelaw9_SizesLeast.j0 k a1 bt112.1 bt114.1 true))))) = some r := h
  clear h
  replace H := Option.bind_eq_some_iff.mp H
  obtain ⟨t111, A30, H⟩ := H
  replace H : ((sizes_Size.f k t111).bind fun bt112 => ((sizes_Size.f k (wrap64 (t111 + 1))).bind fun bt114 => (if bt112.2 = true then (if bt114.2 = true then (if bt114.1 ≤ bt112.1 then (beehivelaw9_SizesLeast.j0 k a1 bt112.1 bt114.1 true) else (beehivelaw9_SizesLeast.j0 k a1 bt112.1 bt114.1 (decide (bt114.1 ≥ (wrap64 (2 * bt112.1)))))) else (beehivelaw9_SizesLeast.j0 k a1 bt112.1 bt114.1 true)) else (beehivelaw9_SizesLeast.j0 k a1 bt112.1 bt114.1 true)))) = some r := H
  have A3 := Aside0.mk A30
  clear A30
  replace H := Option.bind_eq_some_iff.mp H
  obtain ⟨⟨t112, t113⟩, A40, H⟩ := H
  replace H : ((sizes_Size.f k (wrap64 (t111 + 1))).bind fun bt114 => (if t113 = true then (if bt114.2 = true then (if bt114.1 ≤ t112 then (beehivelaw9_SizesLeast.j0 k a1 t112 bt114.1 true) else (beehivelaw9_SizesLeast.j0 k a1 t112 bt114.1 (decide (bt114.1 ≥ (wrap64 (2 * t112)))))) else (beehivelaw9_SizesLeast.j0 k a1 t112 bt114.1 true)) else (beehivelaw9_SizesLeast.j0 k a1 t112 bt114.1 true))) = some r := H
  have A4 := Aside0.mk A40
  clear A40
  replace H := Option.bind_eq_some_iff.mp H
  obtain ⟨⟨t114, t115⟩, A50, H⟩ := H
  replace H : (if t113 = true then (if t115 = true then (if t114 ≤ t112 then (beehivelaw9_SizesLeast.j0 k a1 t112 t114 true) else (beehivelaw9_SizesLeast.j0 k a1 t112 t114 (decide (t114 ≥ (wrap64 (2 * t112)))))) else (beehivelaw9_SizesLeast.j0 k a1 t112 t114 true)) else (beehivelaw9_SizesLeast.j0 k a1 t112 t114 true)) = some r := H
  have A5 := Aside0.mk A50
  clear A50
  have HC6 := Aside0.mk H
  clear H
  go_enter Try.func4, Try.ntmps4
  go_upto_region 4 with (first | ((with_reducible refine gate_callee (f := 18) rfl ?_); refine goesL_ (some 14) rfl rfl Try.func18 (by kernel_rfl) rfl #[.int .i64 a0, .int .i64 26] rfl (by (try simp only [List.map_toArray, List.map_cons, List.map_nil]); first | done | rfl | (simp only [List.length_drop, List.length_take]; rfl)) ?_; (with_reducible refine (beehivelaw0_Low.calls a0 26 t111 _ A3.out).mono ?_); rintro e w' ⟨rfl, ⟨nd, rfl⟩⟩; refine ⟨_, rfl, ?_⟩) | ((with_reducible refine gate_callee (f := 11) rfl ?_); refine goesL_ (some 17) rfl rfl Try.func11 (by kernel_rfl) rfl #[.int .i64 t111] rfl (by (try simp only [List.map_toArray, List.map_cons, List.map_nil]); first | done | rfl | (simp only [List.length_drop, List.length_take]; rfl)) ?_; (with_reducible refine (sizes_Size.calls k t111 t112 t113 _ A4.out).mono ?_); rintro e w' ⟨rfl, ⟨nd, rfl⟩⟩; refine ⟨_, rfl, ?_⟩) | ((with_reducible refine gate_callee (f := 11) rfl ?_); refine goesL_ (some 23) rfl rfl Try.func11 (by kernel_rfl) rfl #[.int .i64 (wrap64 (t111 + 1))] rfl (by (try simp only [List.map_toArray, List.map_cons, List.map_nil]); first | done | rfl | (simp only [List.length_drop, List.length_take]; rfl)) ?_; (with_reducible refine (sizes_Size.calls k (wrap64 (t111 + 1)) t114 t115 _ A5.out).mono ?_); rintro e w' ⟨rfl, ⟨nd, rfl⟩⟩; refine ⟨_, rfl, ?_⟩))
  (try simp only [Act.put, List.setIfInBounds_toArray, List.set_cons_zero, List.set_cons_succ])
  go_cut [42] (fun v42 wc => ∃ (kq : Nat) (x42_5 : Bool), v42 = .bool x42_5 ∧ Aside0 (beehivelaw9_SizesLeast.j0 kq a1 t112 t114 x42_5 = some r) ∧ Aside0 (kq ≤ k) ∧ Drawn0 w wc)
  case first =>
    have H := HC6.out
    clear HC6
    by_cases c7 : t113 = true
    · subst c7
      have H1 : (if t115 = true then (if t114 ≤ t112 then (beehivelaw9_SizesLeast.j0 k a1 t112 t114 true) else (beehivelaw9_SizesLeast.j0 k a1 t112 t114 (decide (t114 ≥ (wrap64 (2 * t112)))))) else (beehivelaw9_SizesLeast.j0 k a1 t112 t114 true)) = some r := by rw [if_pos rfl] at H; exact H
      clear H
      have H := H1
      clear H1
      by_cases c8 : t115 = true
      · subst c8
        have H1 : (if t114 ≤ t112 then (beehivelaw9_SizesLeast.j0 k a1 t112 t114 true) else (beehivelaw9_SizesLeast.j0 k a1 t112 t114 (decide (t114 ≥ (wrap64 (2 * t112)))))) = some r := by rw [if_pos rfl] at H; exact H
        clear H
        have H := H1
        clear H1
        by_cases c9 : t114 ≤ t112
        · rw [if_pos c9] at H
          have c9b0 : decide (t114 ≤ t112) = true := decide_eq_true c9
          clear c9
          (first | rw [c9b0] | (simp only [i64_w, i32_w]; rw [c9b0]) | skip)
          have H' := Aside0.mk H
          clear H
          go_wp2
          go_meet
          case rel => exact ⟨_, (true), (by first | rfl | (simp; done) | (simp [*]; done)), H', ⟨by first | omega | exact Nat.le_refl _⟩, by repeat (first | exact Drawn0.refl _ | apply Drawn0.step)⟩
        · rw [if_neg c9] at H
          have c9b0 : decide (t114 ≤ t112) = false := decide_eq_false c9
          clear c9
          (first | rw [c9b0] | (simp only [i64_w, i32_w]; rw [c9b0]) | skip)
          have H' := Aside0.mk H
          clear H
          go_wp2
          go_meet
          case rel => exact ⟨_, (decide (t114 ≥ (wrap64 (2 * t112)))), (by first | rfl | (simp; done) | (simp [*]; done)), H', ⟨by first | omega | exact Nat.le_refl _⟩, by repeat (first | exact Drawn0.refl _ | apply Drawn0.step)⟩
      · replace c8 := Bool.eq_false_iff.mpr c8
        subst c8
        have H1 : (beehivelaw9_SizesLeast.j0 k a1 t112 t114 true) = some r := by rw [if_neg (show ¬ (false = true) by decide)] at H; exact H
        clear H
        have H := H1
        clear H1
        have H' := Aside0.mk H
        clear H
        go_wp2
        go_meet
        case rel => exact ⟨_, (true), (by first | rfl | (simp; done) | (simp [*]; done)), H', ⟨by first | omega | exact Nat.le_refl _⟩, by repeat (first | exact Drawn0.refl _ | apply Drawn0.step)⟩
    · replace c7 := Bool.eq_false_iff.mpr c7
      subst c7
      have H1 : (beehivelaw9_SizesLeast.j0 k a1 t112 t114 true) = some r := by rw [if_neg (show ¬ (false = true) by decide)] at H; exact H
      clear H
      have H := H1
      clear H1
      have H' := Aside0.mk H
      clear H
      go_wp2
      go_meet
      case rel => exact ⟨_, (true), (by first | rfl | (simp; done) | (simp [*]; done)), H', ⟨by first | omega | exact Nat.le_refl _⟩, by repeat (first | exact Drawn0.refl _ | apply Drawn0.step)⟩
  case rest =>
    clear HC6
    try clear c1
    try clear p2
    try clear c4
    try clear p6
    try clear c7
    try clear c8
    try clear c9
    try clear c9b0
    obtain ⟨kq, x42_5, rfl, HA, HJ5, ⟨mc5, rfl⟩⟩ := hcut
    cases kq with
    | zero => exact absurd HA.out (by simp [beehivelaw9_SizesLeast.j0])
    | succ kj5 =>
      have H := HA.out
      clear HA
      simp only [beehivelaw9_SizesLeast.j0] at H
      by_cases c10 : x42_5 = true
      · subst c10
        have H1 : (some false) = some r := by rw [if_pos rfl] at H; exact H
        clear H
        have H := H1
        clear H1
        obtain rfl := Option.some.inj H
        go_wp2
        go_ret
        exact ⟨by first | rfl | (simp; done) | (simp [*]; done), by repeat (first | exact Drawn0.refl _ | apply Drawn0.step)⟩
      · replace c10 := Bool.eq_false_iff.mpr c10
        subst c10
        have H1 : ((beehivelaw0_Low.f a1 (wrap64 (t114 - t112))).bind fun t116 => ((sizes_Fit.f kj5 (wrap64 ((wrap64 (t112 + 1)) + t116))).bind fun bt117 => ((sizes_Fit.f kj5 t112).bind fun bt119 => (if bt117.1 = t114 then (if bt117.2 = true then (if bt119.1 = t112 then (if bt119.2 = true then ((beehivelaw9_awake.f kj5).bind fun t121 => (some t121)) else (some false)) else (some false)) else (some false)) else (some false))))) = some r := by rw [if_neg (show ¬ (false = true) by decide)] at H; exact H
        clear H
        have H := H1
        clear H1
        replace H := Option.bind_eq_some_iff.mp H
        obtain ⟨t116, A110, H⟩ := H
        replace H : ((sizes_Fit.f kj5 (wrap64 ((wrap64 (t112 + 1)) + t116))).bind fun bt117 => ((sizes_Fit.f kj5 t112).bind fun bt119 => (if bt117.1 = t114 then (if bt117.2 = true then (if bt119.1 = t112 then (if bt119.2 = true then ((beehivelaw9_awake.f kj5).bind fun t121 => (some t121)) else (some false)) else (some false)) else (some false)) else (some false)))) = some r := H
        have A11 := Aside0.mk A110
        clear A110
        replace H := Option.bind_eq_some_iff.mp H
        obtain ⟨⟨t117, t118⟩, A120, H⟩ := H
        replace H : ((sizes_Fit.f kj5 t112).bind fun bt119 => (if t117 = t114 then (if t118 = true then (if bt119.1 = t112 then (if bt119.2 = true then ((beehivelaw9_awake.f kj5).bind fun t121 => (some t121)) else (some false)) else (some false)) else (some false)) else (some false))) = some r := H
        have A12 := Aside0.mk A120
        clear A120
        replace H := Option.bind_eq_some_iff.mp H
        obtain ⟨⟨t119, t120⟩, A130, H⟩ := H
        replace H : (if t117 = t114 then (if t118 = true then (if t119 = t112 then (if t120 = true then ((beehivelaw9_awake.f kj5).bind fun t121 => (some t121)) else (some false)) else (some false)) else (some false)) else (some false)) = some r := H
        have A13 := Aside0.mk A130
        clear A130
        by_cases c14 : t117 = t114
        · rw [if_pos c14] at H
          have c14b0 : (t117 == t114) = true := beq_iff_eq.mpr c14
          have c14b1 : (t117 != t114) = false := bne_eq_false_iff_eq.mpr c14
          clear c14
          by_cases c15 : t118 = true
          · subst c15
            have H1 : (if t119 = t112 then (if t120 = true then ((beehivelaw9_awake.f kj5).bind fun t121 => (some t121)) else (some false)) else (some false)) = some r := by rw [if_pos rfl] at H; exact H
            clear H
            have H := H1
            clear H1
            by_cases c16 : t119 = t112
            · rw [if_pos c16] at H
              have c16b0 : (t119 == t112) = true := beq_iff_eq.mpr c16
              have c16b1 : (t119 != t112) = false := bne_eq_false_iff_eq.mpr c16
              clear c16
              by_cases c17 : t120 = true
              · subst c17
                have H1 : ((beehivelaw9_awake.f kj5).bind fun t121 => (some t121)) = some r := by rw [if_pos rfl] at H; exact H
                clear H
                have H := H1
                clear H1
                replace H := Option.bind_eq_some_iff.mp H
                obtain ⟨t121, A180, H⟩ := H
                replace H : (some t121) = some r := H
                have A18 := Aside0.mk A180
                clear A180
                obtain rfl := Option.some.inj H
                go_wp2_with (first | ((with_reducible refine gate_callee (f := 18) rfl ?_); refine goesL_ (some 49) rfl rfl Try.func18 (by kernel_rfl) rfl #[.int .i64 a1, .int .i64 (wrap64 (t114 - t112))] rfl (by (try simp only [List.map_toArray, List.map_cons, List.map_nil]); first | done | rfl | (simp only [List.length_drop, List.length_take]; rfl)) ?_; (with_reducible refine (beehivelaw0_Low.calls a1 (wrap64 (t114 - t112)) t116 _ A11.out).mono ?_); rintro e w' ⟨rfl, ⟨nd, rfl⟩⟩; refine ⟨_, rfl, ?_⟩) | ((with_reducible refine gate_callee (f := 13) rfl ?_); refine goesL_ (some 53) rfl rfl Try.func13 (by kernel_rfl) rfl #[.int .i64 (wrap64 ((wrap64 (t112 + 1)) + t116))] rfl (by (try simp only [List.map_toArray, List.map_cons, List.map_nil]); first | done | rfl | (simp only [List.length_drop, List.length_take]; rfl)) ?_; (with_reducible refine (sizes_Fit.calls kj5 (wrap64 ((wrap64 (t112 + 1)) + t116)) t117 true _ A12.out).mono ?_); rintro e w' ⟨rfl, ⟨nd, rfl⟩⟩; refine ⟨_, rfl, ?_⟩) | ((with_reducible refine gate_callee (f := 13) rfl ?_); refine goesL_ (some 58) rfl rfl Try.func13 (by kernel_rfl) rfl #[.int .i64 t112] rfl (by (try simp only [List.map_toArray, List.map_cons, List.map_nil]); first | done | rfl | (simp only [List.length_drop, List.length_take]; rfl)) ?_; (with_reducible refine (sizes_Fit.calls kj5 t112 t119 true _ A13.out).mono ?_); rintro e w' ⟨rfl, ⟨nd, rfl⟩⟩; refine ⟨_, rfl, ?_⟩) | (go_at_call 17; (with_reducible refine (beehivelaw9_awake.calls kj5  t121 _ A18.out).mono ?_); rintro e w' ⟨rfl, ⟨nd, rfl⟩⟩))
                go_ret
                exact ⟨by first | rfl | (simp; done) | (simp [*]; done), by repeat (first | exact Drawn0.refl _ | apply Drawn0.step)⟩
              · replace c17 := Bool.eq_false_iff.mpr c17
                subst c17
                have H1 : (some false) = some r := by rw [if_neg (show ¬ (false = true) by decide)] at H; exact H
                clear H
                have H := H1
                clear H1
                obtain rfl := Option.some.inj H
                go_wp2_with (first | ((with_reducible refine gate_callee (f := 18) rfl ?_); refine goesL_ (some 49) rfl rfl Try.func18 (by kernel_rfl) rfl #[.int .i64 a1, .int .i64 (wrap64 (t114 - t112))] rfl (by (try simp only [List.map_toArray, List.map_cons, List.map_nil]); first | done | rfl | (simp only [List.length_drop, List.length_take]; rfl)) ?_; (with_reducible refine (beehivelaw0_Low.calls a1 (wrap64 (t114 - t112)) t116 _ A11.out).mono ?_); rintro e w' ⟨rfl, ⟨nd, rfl⟩⟩; refine ⟨_, rfl, ?_⟩) | ((with_reducible refine gate_callee (f := 13) rfl ?_); refine goesL_ (some 53) rfl rfl Try.func13 (by kernel_rfl) rfl #[.int .i64 (wrap64 ((wrap64 (t112 + 1)) + t116))] rfl (by (try simp only [List.map_toArray, List.map_cons, List.map_nil]); first | done | rfl | (simp only [List.length_drop, List.length_take]; rfl)) ?_; (with_reducible refine (sizes_Fit.calls kj5 (wrap64 ((wrap64 (t112 + 1)) + t116)) t117 true _ A12.out).mono ?_); rintro e w' ⟨rfl, ⟨nd, rfl⟩⟩; refine ⟨_, rfl, ?_⟩) | ((with_reducible refine gate_callee (f := 13) rfl ?_); refine goesL_ (some 58) rfl rfl Try.func13 (by kernel_rfl) rfl #[.int .i64 t112] rfl (by (try simp only [List.map_toArray, List.map_cons, List.map_nil]); first | done | rfl | (simp only [List.length_drop, List.length_take]; rfl)) ?_; (with_reducible refine (sizes_Fit.calls kj5 t112 t119 false _ A13.out).mono ?_); rintro e w' ⟨rfl, ⟨nd, rfl⟩⟩; refine ⟨_, rfl, ?_⟩))
                go_ret
                exact ⟨by first | rfl | (simp; done) | (simp [*]; done), by repeat (first | exact Drawn0.refl _ | apply Drawn0.step)⟩
            · rw [if_neg c16] at H
              have c16b0 : (t119 == t112) = false := beq_eq_false_iff_ne.mpr c16
              have c16b1 : (t119 != t112) = true := bne_iff_ne.mpr c16
              obtain rfl := Option.some.inj H
              go_wp2_with (first | ((with_reducible refine gate_callee (f := 18) rfl ?_); refine goesL_ (some 49) rfl rfl Try.func18 (by kernel_rfl) rfl #[.int .i64 a1, .int .i64 (wrap64 (t114 - t112))] rfl (by (try simp only [List.map_toArray, List.map_cons, List.map_nil]); first | done | rfl | (simp only [List.length_drop, List.length_take]; rfl)) ?_; (with_reducible refine (beehivelaw0_Low.calls a1 (wrap64 (t114 - t112)) t116 _ A11.out).mono ?_); rintro e w' ⟨rfl, ⟨nd, rfl⟩⟩; refine ⟨_, rfl, ?_⟩) | ((with_reducible refine gate_callee (f := 13) rfl ?_); refine goesL_ (some 53) rfl rfl Try.func13 (by kernel_rfl) rfl #[.int .i64 (wrap64 ((wrap64 (t112 + 1)) + t116))] rfl (by (try simp only [List.map_toArray, List.map_cons, List.map_nil]); first | done | rfl | (simp only [List.length_drop, List.length_take]; rfl)) ?_; (with_reducible refine (sizes_Fit.calls kj5 (wrap64 ((wrap64 (t112 + 1)) + t116)) t117 true _ A12.out).mono ?_); rintro e w' ⟨rfl, ⟨nd, rfl⟩⟩; refine ⟨_, rfl, ?_⟩) | ((with_reducible refine gate_callee (f := 13) rfl ?_); refine goesL_ (some 58) rfl rfl Try.func13 (by kernel_rfl) rfl #[.int .i64 t112] rfl (by (try simp only [List.map_toArray, List.map_cons, List.map_nil]); first | done | rfl | (simp only [List.length_drop, List.length_take]; rfl)) ?_; (with_reducible refine (sizes_Fit.calls kj5 t112 t119 t120 _ A13.out).mono ?_); rintro e w' ⟨rfl, ⟨nd, rfl⟩⟩; refine ⟨_, rfl, ?_⟩))
              go_ret
              exact ⟨by first | rfl | (simp; done) | (simp [*]; done), by repeat (first | exact Drawn0.refl _ | apply Drawn0.step)⟩
          · replace c15 := Bool.eq_false_iff.mpr c15
            subst c15
            have H1 : (some false) = some r := by rw [if_neg (show ¬ (false = true) by decide)] at H; exact H
            clear H
            have H := H1
            clear H1
            obtain rfl := Option.some.inj H
            go_wp2_with (first | ((with_reducible refine gate_callee (f := 18) rfl ?_); refine goesL_ (some 49) rfl rfl Try.func18 (by kernel_rfl) rfl #[.int .i64 a1, .int .i64 (wrap64 (t114 - t112))] rfl (by (try simp only [List.map_toArray, List.map_cons, List.map_nil]); first | done | rfl | (simp only [List.length_drop, List.length_take]; rfl)) ?_; (with_reducible refine (beehivelaw0_Low.calls a1 (wrap64 (t114 - t112)) t116 _ A11.out).mono ?_); rintro e w' ⟨rfl, ⟨nd, rfl⟩⟩; refine ⟨_, rfl, ?_⟩) | ((with_reducible refine gate_callee (f := 13) rfl ?_); refine goesL_ (some 53) rfl rfl Try.func13 (by kernel_rfl) rfl #[.int .i64 (wrap64 ((wrap64 (t112 + 1)) + t116))] rfl (by (try simp only [List.map_toArray, List.map_cons, List.map_nil]); first | done | rfl | (simp only [List.length_drop, List.length_take]; rfl)) ?_; (with_reducible refine (sizes_Fit.calls kj5 (wrap64 ((wrap64 (t112 + 1)) + t116)) t117 false _ A12.out).mono ?_); rintro e w' ⟨rfl, ⟨nd, rfl⟩⟩; refine ⟨_, rfl, ?_⟩) | ((with_reducible refine gate_callee (f := 13) rfl ?_); refine goesL_ (some 58) rfl rfl Try.func13 (by kernel_rfl) rfl #[.int .i64 t112] rfl (by (try simp only [List.map_toArray, List.map_cons, List.map_nil]); first | done | rfl | (simp only [List.length_drop, List.length_take]; rfl)) ?_; (with_reducible refine (sizes_Fit.calls kj5 t112 t119 t120 _ A13.out).mono ?_); rintro e w' ⟨rfl, ⟨nd, rfl⟩⟩; refine ⟨_, rfl, ?_⟩))
            go_ret
            exact ⟨by first | rfl | (simp; done) | (simp [*]; done), by repeat (first | exact Drawn0.refl _ | apply Drawn0.step)⟩
        · rw [if_neg c14] at H
          have c14b0 : (t117 == t114) = false := beq_eq_false_iff_ne.mpr c14
          have c14b1 : (t117 != t114) = true := bne_iff_ne.mpr c14
          obtain rfl := Option.some.inj H
          go_wp2_with (first | ((with_reducible refine gate_callee (f := 18) rfl ?_); refine goesL_ (some 49) rfl rfl Try.func18 (by kernel_rfl) rfl #[.int .i64 a1, .int .i64 (wrap64 (t114 - t112))] rfl (by (try simp only [List.map_toArray, List.map_cons, List.map_nil]); first | done | rfl | (simp only [List.length_drop, List.length_take]; rfl)) ?_; (with_reducible refine (beehivelaw0_Low.calls a1 (wrap64 (t114 - t112)) t116 _ A11.out).mono ?_); rintro e w' ⟨rfl, ⟨nd, rfl⟩⟩; refine ⟨_, rfl, ?_⟩) | ((with_reducible refine gate_callee (f := 13) rfl ?_); refine goesL_ (some 53) rfl rfl Try.func13 (by kernel_rfl) rfl #[.int .i64 (wrap64 ((wrap64 (t112 + 1)) + t116))] rfl (by (try simp only [List.map_toArray, List.map_cons, List.map_nil]); first | done | rfl | (simp only [List.length_drop, List.length_take]; rfl)) ?_; (with_reducible refine (sizes_Fit.calls kj5 (wrap64 ((wrap64 (t112 + 1)) + t116)) t117 t118 _ A12.out).mono ?_); rintro e w' ⟨rfl, ⟨nd, rfl⟩⟩; refine ⟨_, rfl, ?_⟩) | ((with_reducible refine gate_callee (f := 13) rfl ?_); refine goesL_ (some 58) rfl rfl Try.func13 (by kernel_rfl) rfl #[.int .i64 t112] rfl (by (try simp only [List.map_toArray, List.map_cons, List.map_nil]); first | done | rfl | (simp only [List.length_drop, List.length_take]; rfl)) ?_; (with_reducible refine (sizes_Fit.calls kj5 t112 t119 t120 _ A13.out).mono ?_); rintro e w' ⟨rfl, ⟨nd, rfl⟩⟩; refine ⟨_, rfl, ?_⟩))
          go_ret
          exact ⟨by first | rfl | (simp; done) | (simp [*]; done), by repeat (first | exact Drawn0.refl _ | apply Drawn0.step)⟩

/-- THE ONE PURE STATEMENT of beehivelaw9_SizesLeast: yours. -/
def beehivelaw9_SizesLeast.Pure : Prop := ∀ (a0 : Int) (a1 : Int), (Lit.int .i64 a0).wf = true → (Lit.int .i64 a1).wf = true → ∃ k, beehivelaw9_SizesLeast.f k a0 a1 = some true
theorem beehivelaw9_SizesLeast.walk (P : beehivelaw9_SizesLeast.Pure) (a0 : Int) (a1 : Int) (w : World) (w0 : (Lit.int .i64 a0).wf = true) (w1 : (Lit.int .i64 a1).wf = true) :
    Calls Try.prog 4 #[.int .i64 a0, .int .i64 a1] w fun e w' => e = .returned (.bool true) ∧ Below w.heap.size w w' := by
  obtain ⟨k, h⟩ := P a0 a1 w0 w1
  refine (beehivelaw9_SizesLeast.calls k a0 a1 true w h).mono ?_
  rintro e w' ⟨rfl, hd⟩
  exact ⟨rfl, hd.below⟩

end Go.Proofs.Ytopopkdnjpnafaa.PSizesLeast
