-- PRINTED BY print.sh 35421559b90ae4d0a3588c463048766b98c2df88dd9212a6774a882060cdf62d: not written by this session
import Derived.Test.YtopopkdnjpnafaaPWordBackx0
import Derived.Test.YtopopkdnjpnafaaPWordBackx1
namespace Go.Proofs.Ytopopkdnjpnafaa.PWordBack
open Go.RowKit Go.Proofs.YtopopkdnjpnafaaW.PrintWords Go.Proofs.YtopopkdnjpnafaaW.PrintLast Go.Proofs.YtopopkdnjpnafaaW.PrintMore
attribute [local go_sem] max2_int min2_int max_two min_two max_three min_three max_four min_four   -- for this text's walks alone
set_option linter.unusedVariables false
set_option linter.unusedSimpArgs false

/-! ### beehivelaw8_WordBack: function 10 -/
mutual
def beehivelaw8_WordBack.j0 : Nat → Int → Int → Int → Int → Int → Int → Bool → Bool → Option (Bool)
  | 0, _, _, _, _, _, _, _, _ => none
  | k + 1, x0, x1, x2, x3, x4, x11, x12, x45 => if x45 = true then (some false) else ((word_Make.f x0 x2).bind fun bt123 => (if x12 = true then (if bt123.2 = true then (beehivelaw8_WordBack.j1 k x3 x4 x11 x12 ((x11 == bt123.1) != (x1 == x2))) else (beehivelaw8_WordBack.j1 k x3 x4 x11 x12 false)) else (beehivelaw8_WordBack.j1 k x3 x4 x11 x12 false)))
def beehivelaw8_WordBack.j1 : Nat → Int → Int → Int → Bool → Bool → Option (Bool)
  | 0, _, _, _, _, _ => none
  | k + 1, x3, x4, x11, x12, x64 => if x64 = true then (some false) else ((word_Head.f x3 x4).bind fun bt125 => ((word_Parts.f bt125.1).bind fun bt127 => (if bt125.2 = true then ((word_Tag.f bt125.1).bind fun t130 => (if t130 = 6 then (if bt127.1 = x3 then (if bt127.2.1 = x4 then (if bt127.2.2 = true then ((word_Plain.f bt125.1).bind fun t131 => (if t131 = true then (some false) else (if x12 = true then ((beehivelaw8_awake.f).bind fun t132 => (some t132)) else (if x11 = 0 then ((beehivelaw8_awake.f).bind fun t133 => (some t133)) else (some false))))) else (some false)) else (some false)) else (some false)) else (some false))) else (if x12 = true then (if bt125.1 = 0 then ((beehivelaw8_awake.f).bind fun t134 => (some t134)) else (some false)) else (if x11 = 0 then (if bt125.1 = 0 then ((beehivelaw8_awake.f).bind fun t135 => (some t135)) else (some false)) else (some false))))))
end
def beehivelaw8_WordBack.f (k : Nat) (a0 : Int) (a1 : Int) (a2 : Int) (a3 : Int) (a4 : Int) : Option (Bool) := (word_Make.f a0 a1).bind fun bt118 => (if bt118.2 = true then ((word_Tag.f bt118.1).bind fun t120 => (if t120 = a0 then ((word_Load.f bt118.1).bind fun t121 => (if t121 = a1 then ((word_Plain.f bt118.1).bind fun t122 => (beehivelaw8_WordBack.j0 k a0 a1 a2 a3 a4 bt118.1 bt118.2 (t122 != (decide (a0 ≤ 5))))) else (beehivelaw8_WordBack.j0 k a0 a1 a2 a3 a4 bt118.1 bt118.2 true))) else (beehivelaw8_WordBack.j0 k a0 a1 a2 a3 a4 bt118.1 bt118.2 true))) else (beehivelaw8_WordBack.j0 k a0 a1 a2 a3 a4 bt118.1 bt118.2 false))
theorem beehivelaw8_WordBack.mono_l : ∀ k, (∀ y0 y1 y2 y3 y4 y5 y6 y7, LeO (beehivelaw8_WordBack.j0 k y0 y1 y2 y3 y4 y5 y6 y7) (beehivelaw8_WordBack.j0 (k + 1) y0 y1 y2 y3 y4 y5 y6 y7)) ∧ (∀ y0 y1 y2 y3 y4, LeO (beehivelaw8_WordBack.j1 k y0 y1 y2 y3 y4) (beehivelaw8_WordBack.j1 (k + 1) y0 y1 y2 y3 y4))
  | 0 => ⟨fun _ _ _ _ _ _ _ _ r h => by simp [beehivelaw8_WordBack.j0] at h, fun _ _ _ _ _ r h => by simp [beehivelaw8_WordBack.j1] at h⟩
  | k + 1 => by
    obtain ⟨ih0, ih1⟩ := beehivelaw8_WordBack.mono_l k
    refine ⟨?_, ?_⟩
    · intro y0 y1 y2 y3 y4 y5 y6 y7
      unfold beehivelaw8_WordBack.j0
      repeat' first
      | (with_reducible exact ih0 _ _ _ _ _ _ _ _)
      | (with_reducible exact ih1 _ _ _ _ _)
      | (with_reducible exact LeO.refl _)
      | (with_reducible exact LeO.none _)
      | (with_reducible refine LeO.ite ?_ ?_)
      | (with_reducible refine LeO.bind ?_ (fun _ => ?_))
      | exact ih0 _ _ _ _ _ _ _ _
      | exact ih1 _ _ _ _ _
      | exact LeO.none _
      | refine LeO.ite ?_ ?_
      | refine LeO.bind ?_ (fun _ => ?_)
    · intro y0 y1 y2 y3 y4
      unfold beehivelaw8_WordBack.j1
      repeat' first
      | (with_reducible exact ih0 _ _ _ _ _ _ _ _)
      | (with_reducible exact ih1 _ _ _ _ _)
      | (with_reducible exact LeO.refl _)
      | (with_reducible exact LeO.none _)
      | (with_reducible refine LeO.ite ?_ ?_)
      | (with_reducible refine LeO.bind ?_ (fun _ => ?_))
      | exact ih0 _ _ _ _ _ _ _ _
      | exact ih1 _ _ _ _ _
      | exact LeO.none _
      | refine LeO.ite ?_ ?_
      | refine LeO.bind ?_ (fun _ => ?_)
theorem beehivelaw8_WordBack.mono : ∀ a0 a1 a2 a3 a4 k, LeO (beehivelaw8_WordBack.f k a0 a1 a2 a3 a4) (beehivelaw8_WordBack.f (k + 1) a0 a1 a2 a3 a4) := by
  intro a0 a1 a2 a3 a4 k
  obtain ⟨ih0, ih1⟩ := beehivelaw8_WordBack.mono_l k
  unfold beehivelaw8_WordBack.f
  repeat' first
      | (with_reducible exact ih0 _ _ _ _ _ _ _ _)
      | (with_reducible exact ih1 _ _ _ _ _)
      | (with_reducible exact LeO.refl _)
      | (with_reducible exact LeO.none _)
      | (with_reducible refine LeO.ite ?_ ?_)
      | (with_reducible refine LeO.bind ?_ (fun _ => ?_))
      | exact ih0 _ _ _ _ _ _ _ _
      | exact ih1 _ _ _ _ _
      | exact LeO.none _
      | refine LeO.ite ?_ ?_
      | refine LeO.bind ?_ (fun _ => ?_)
set_option maxHeartbeats 8000000 in
set_option maxRecDepth 100000 in
theorem beehivelaw8_WordBack.calls (k : Nat) (a0 : Int) (a1 : Int) (a2 : Int) (a3 : Int) (a4 : Int) (r : Bool) (w : World) (h : beehivelaw8_WordBack.f k a0 a1 a2 a3 a4 = some r) :
    Calls Try.prog 10 #[.int .i64 a0, .int .i64 a1, .int .i64 a2, .int .i64 a3, .int .i64 a4] w fun e w' => e = .returned (.bool r) ∧ Drawn0 w w' := by
  have H : ((word_Make.f a0 a1).bind fun bt118 => (if bt118.2 = true then ((word_Tag.f bt118.1).bind fun t120 => (if t120 = a0 then ((word_Load.f bt118.1).bind fun t121 => (if t121 = a1 then ((word_Plain.f bt118.1).bind fun t122 => (beehivelaw8_WordBack.j0 k a0 a1 a2 a3 a4 bt118.1 bt118.2 (t122 != (decide (a0 ≤ 5))))) else (beehivelaw8_WordBack.j0 k a0 a1 a2 a3 a4 bt118.1 bt118.2 true))) else (beehivelaw8_WordBack.j0 k a0 a1 a2 a3 a4 bt118.1 bt118.2 true))) else (beehivelaw8_WordBack.j0 k a0 a1 a2 a3 a4 bt118.1 bt118.2 false))) = some r := h
  clear h
  replace H := Option.bind_eq_some_iff.mp H
  obtain ⟨⟨t118, t119⟩, A60, H⟩ := H
  replace H : (if t119 = true then ((word_Tag.f t118).bind fun t120 => (if t120 = a0 then ((word_Load.f t118).bind fun t121 => (if t121 = a1 then ((word_Plain.f t118).bind fun t122 => (beehivelaw8_WordBack.j0 k a0 a1 a2 a3 a4 t118 t119 (t122 != (decide (a0 ≤ 5))))) else (beehivelaw8_WordBack.j0 k a0 a1 a2 a3 a4 t118 t119 true))) else (beehivelaw8_WordBack.j0 k a0 a1 a2 a3 a4 t118 t119 true))) else (beehivelaw8_WordBack.j0 k a0 a1 a2 a3 a4 t118 t119 false)) = some r := H
  have A6 := Aside0.mk A60
  clear A60
  have HC7 := Aside0.mk H
  clear H
  go_enter Try.func10, Try.ntmps10
  go_upto_region 2 with (first | ((with_reducible refine gate_callee (f := 26) rfl ?_); refine goesL_ (some 23) rfl rfl Try.func26 (by kernel_rfl) rfl #[.int .i64 a0, .int .i64 a1] rfl (by (try simp only [List.map_toArray, List.map_cons, List.map_nil]); first | done | rfl | (simp only [List.length_drop, List.length_take]; rfl)) ?_; (with_reducible refine (word_Make.calls a0 a1 t118 t119 _ A6.out).mono ?_); rintro e w' ⟨rfl, ⟨nd, rfl⟩⟩; refine ⟨_, rfl, ?_⟩))
  (try simp only [Act.put, List.setIfInBounds_toArray, List.set_cons_zero, List.set_cons_succ])
  go_cut [45] (fun v45 wc => ∃ (kq : Nat) (x45_6 : Bool), v45 = .bool x45_6 ∧ Aside0 (beehivelaw8_WordBack.j0 kq a0 a1 a2 a3 a4 t118 t119 x45_6 = some r) ∧ Aside0 (kq ≤ k) ∧ Drawn0 w wc)
  case first =>
    have H := HC7.out
    clear HC7
    by_cases c8 : t119 = true
    · subst c8
      have H1 : ((word_Tag.f t118).bind fun t120 => (if t120 = a0 then ((word_Load.f t118).bind fun t121 => (if t121 = a1 then ((word_Plain.f t118).bind fun t122 => (beehivelaw8_WordBack.j0 k a0 a1 a2 a3 a4 t118 true (t122 != (decide (a0 ≤ 5))))) else (beehivelaw8_WordBack.j0 k a0 a1 a2 a3 a4 t118 true true))) else (beehivelaw8_WordBack.j0 k a0 a1 a2 a3 a4 t118 true true))) = some r := by rw [if_pos rfl] at H; exact H
      clear H
      have H := H1
      clear H1
      replace H := Option.bind_eq_some_iff.mp H
      obtain ⟨t120, A90, H⟩ := H
      replace H : (if t120 = a0 then ((word_Load.f t118).bind fun t121 => (if t121 = a1 then ((word_Plain.f t118).bind fun t122 => (beehivelaw8_WordBack.j0 k a0 a1 a2 a3 a4 t118 true (t122 != (decide (a0 ≤ 5))))) else (beehivelaw8_WordBack.j0 k a0 a1 a2 a3 a4 t118 true true))) else (beehivelaw8_WordBack.j0 k a0 a1 a2 a3 a4 t118 true true)) = some r := H
      have A9 := Aside0.mk A90
      clear A90
      by_cases c10 : t120 = a0
      · rw [if_pos c10] at H
        have c10b0 : (t120 == a0) = true := beq_iff_eq.mpr c10
        have c10b1 : (t120 != a0) = false := bne_eq_false_iff_eq.mpr c10
        clear c10
        (first | rw [c10b0] | (simp only [i64_w, i32_w]; rw [c10b0]) | skip)
        replace H := Option.bind_eq_some_iff.mp H
        obtain ⟨t121, A110, H⟩ := H
        replace H : (if t121 = a1 then ((word_Plain.f t118).bind fun t122 => (beehivelaw8_WordBack.j0 k a0 a1 a2 a3 a4 t118 true (t122 != (decide (a0 ≤ 5))))) else (beehivelaw8_WordBack.j0 k a0 a1 a2 a3 a4 t118 true true)) = some r := H
        have A11 := Aside0.mk A110
        clear A110
        by_cases c12 : t121 = a1
        · rw [if_pos c12] at H
          have c12b0 : (t121 == a1) = true := beq_iff_eq.mpr c12
          have c12b1 : (t121 != a1) = false := bne_eq_false_iff_eq.mpr c12
          clear c12
          replace H := Option.bind_eq_some_iff.mp H
          obtain ⟨t122, A130, H⟩ := H
          replace H : (beehivelaw8_WordBack.j0 k a0 a1 a2 a3 a4 t118 true (t122 != (decide (a0 ≤ 5)))) = some r := H
          have A13 := Aside0.mk A130
          clear A130
          have H' := Aside0.mk H
          clear H
          go_wp2_with (first | (go_at_call 32; (with_reducible refine (word_Tag.calls t118 t120 _ A9.out).mono ?_); rintro e w' ⟨rfl, ⟨nd, rfl⟩⟩) | (go_at_call 34; (with_reducible refine (word_Load.calls t118 t121 _ A11.out).mono ?_); rintro e w' ⟨rfl, ⟨nd, rfl⟩⟩) | (go_at_call 36; (with_reducible refine (word_Plain.calls t118 t122 _ A13.out).mono ?_); rintro e w' ⟨rfl, ⟨nd, rfl⟩⟩))
          go_meet
          case rel => exact ⟨_, ((t122 != (decide (a0 ≤ 5)))), (by first | rfl | (simp; done) | (simp [*]; done)), H', ⟨by first | omega | exact Nat.le_refl _⟩, by repeat (first | exact Drawn0.refl _ | apply Drawn0.step)⟩
        · rw [if_neg c12] at H
          have c12b0 : (t121 == a1) = false := beq_eq_false_iff_ne.mpr c12
          have c12b1 : (t121 != a1) = true := bne_iff_ne.mpr c12
          have H' := Aside0.mk H
          clear H
          go_wp2_with (first | (go_at_call 32; (with_reducible refine (word_Tag.calls t118 t120 _ A9.out).mono ?_); rintro e w' ⟨rfl, ⟨nd, rfl⟩⟩) | (go_at_call 34; (with_reducible refine (word_Load.calls t118 t121 _ A11.out).mono ?_); rintro e w' ⟨rfl, ⟨nd, rfl⟩⟩))
          go_meet
          case rel => exact ⟨_, (true), (by first | rfl | (simp; done) | (simp [*]; done)), H', ⟨by first | omega | exact Nat.le_refl _⟩, by repeat (first | exact Drawn0.refl _ | apply Drawn0.step)⟩
      · rw [if_neg c10] at H
        have c10b0 : (t120 == a0) = false := beq_eq_false_iff_ne.mpr c10
        have c10b1 : (t120 != a0) = true := bne_iff_ne.mpr c10
        (first | rw [c10b0] | (simp only [i64_w, i32_w]; rw [c10b0]) | skip)
        have H' := Aside0.mk H
        clear H
        go_wp2_with (first | (go_at_call 32; (with_reducible refine (word_Tag.calls t118 t120 _ A9.out).mono ?_); rintro e w' ⟨rfl, ⟨nd, rfl⟩⟩))
        go_meet
        case rel => exact ⟨_, (true), (by first | rfl | (simp; done) | (simp [*]; done)), H', ⟨by first | omega | exact Nat.le_refl _⟩, by repeat (first | exact Drawn0.refl _ | apply Drawn0.step)⟩
    · replace c8 := Bool.eq_false_iff.mpr c8
      subst c8
      have H1 : (beehivelaw8_WordBack.j0 k a0 a1 a2 a3 a4 t118 false false) = some r := by rw [if_neg (show ¬ (false = true) by decide)] at H; exact H
      clear H
      have H := H1
      clear H1
      have H' := Aside0.mk H
      clear H
      go_wp2
      go_meet
      case rel => exact ⟨_, (false), (by first | rfl | (simp; done) | (simp [*]; done)), H', ⟨by first | omega | exact Nat.le_refl _⟩, by repeat (first | exact Drawn0.refl _ | apply Drawn0.step)⟩
  case rest =>
    clear HC7
    try clear c1
    try clear c2
    try clear p2
    try clear c8
    try clear c10
    try clear c10b0
    try clear c10b1
    try clear c12
    try clear c12b0
    try clear c12b1
    obtain ⟨kq, x45_6, rfl, HA, HJ6, ⟨mc6, rfl⟩⟩ := hcut
    cases kq with
    | zero => exact absurd HA.out (by simp [beehivelaw8_WordBack.j0])
    | succ kj6 =>
      have H := HA.out
      clear HA
      simp only [beehivelaw8_WordBack.j0] at H
      by_cases c14 : x45_6 = true
      · subst c14
        have H1 : (some false) = some r := by rw [if_pos rfl] at H; exact H
        clear H
        have H := H1
        clear H1
        obtain rfl := Option.some.inj H
        go_wp2
        go_ret
        exact ⟨by first | rfl | (simp; done) | (simp [*]; done), by repeat (first | exact Drawn0.refl _ | apply Drawn0.step)⟩
      · replace c14 := Bool.eq_false_iff.mpr c14
        subst c14
        have H1 : ((word_Make.f a0 a2).bind fun bt123 => (if t119 = true then (if bt123.2 = true then (beehivelaw8_WordBack.j1 kj6 a3 a4 t118 t119 ((t118 == bt123.1) != (a1 == a2))) else (beehivelaw8_WordBack.j1 kj6 a3 a4 t118 t119 false)) else (beehivelaw8_WordBack.j1 kj6 a3 a4 t118 t119 false))) = some r := by rw [if_neg (show ¬ (false = true) by decide)] at H; exact H
        clear H
        have H := H1
        clear H1
        replace H := Option.bind_eq_some_iff.mp H
        obtain ⟨⟨t123, t124⟩, A150, H⟩ := H
        replace H : (if t119 = true then (if t124 = true then (beehivelaw8_WordBack.j1 kj6 a3 a4 t118 t119 ((t118 == t123) != (a1 == a2))) else (beehivelaw8_WordBack.j1 kj6 a3 a4 t118 t119 false)) else (beehivelaw8_WordBack.j1 kj6 a3 a4 t118 t119 false)) = some r := H
        have A15 := Aside0.mk A150
        clear A150
        have HC16 := Aside0.mk H
        clear H
        go_upto_region 5 with (first | ((with_reducible refine gate_callee (f := 26) rfl ?_); refine goesL_ (some 49) rfl rfl Try.func26 (by kernel_rfl) rfl #[.int .i64 a0, .int .i64 a2] rfl (by (try simp only [List.map_toArray, List.map_cons, List.map_nil]); first | done | rfl | (simp only [List.length_drop, List.length_take]; rfl)) ?_; (with_reducible refine (word_Make.calls a0 a2 t123 t124 _ A15.out).mono ?_); rintro e w' ⟨rfl, ⟨nd, rfl⟩⟩; refine ⟨_, rfl, ?_⟩))
        (try simp only [Act.put, List.setIfInBounds_toArray, List.set_cons_zero, List.set_cons_succ])
        go_cut [64] (fun v64 wc => ∃ (kq : Nat) (x64_15 : Bool), v64 = .bool x64_15 ∧ Aside0 (beehivelaw8_WordBack.j1 kq a3 a4 t118 t119 x64_15 = some r) ∧ Aside0 (kq ≤ kj6) ∧ Drawn0 w wc)
        case first =>
          have H := HC16.out
          clear HC16
          by_cases c17 : t119 = true
          · subst c17
            have H1 : (if t124 = true then (beehivelaw8_WordBack.j1 kj6 a3 a4 t118 true ((t118 == t123) != (a1 == a2))) else (beehivelaw8_WordBack.j1 kj6 a3 a4 t118 true false)) = some r := by rw [if_pos rfl] at H; exact H
            clear H
            have H := H1
            clear H1
            by_cases c18 : t124 = true
            · subst c18
              have H1 : (beehivelaw8_WordBack.j1 kj6 a3 a4 t118 true ((t118 == t123) != (a1 == a2))) = some r := by rw [if_pos rfl] at H; exact H
              clear H
              have H := H1
              clear H1
              have H' := Aside0.mk H
              clear H
              go_wp2
              go_meet
              case rel => exact ⟨_, (((t118 == t123) != (a1 == a2))), (by first | rfl | (simp; done) | (simp [*]; done)), H', ⟨by have := HJ6.out; first | omega | exact Nat.le_refl _⟩, by repeat (first | exact Drawn0.refl _ | apply Drawn0.step)⟩
            · replace c18 := Bool.eq_false_iff.mpr c18
              subst c18
              have H1 : (beehivelaw8_WordBack.j1 kj6 a3 a4 t118 true false) = some r := by rw [if_neg (show ¬ (false = true) by decide)] at H; exact H
              clear H
              have H := H1
              clear H1
              have H' := Aside0.mk H
              clear H
              go_wp2
              go_meet
              case rel => exact ⟨_, (false), (by first | rfl | (simp; done) | (simp [*]; done)), H', ⟨by have := HJ6.out; first | omega | exact Nat.le_refl _⟩, by repeat (first | exact Drawn0.refl _ | apply Drawn0.step)⟩
          · replace c17 := Bool.eq_false_iff.mpr c17
            subst c17
            have H1 : (beehivelaw8_WordBack.j1 kj6 a3 a4 t118 false false) = some r := by rw [if_neg (show ¬ (false = true) by decide)] at H; exact H
            clear H
            have H := H1
            clear H1
            have H' := Aside0.mk H
            clear H
            go_wp2
            go_meet
            case rel => exact ⟨_, (false), (by first | rfl | (simp; done) | (simp [*]; done)), H', ⟨by have := HJ6.out; first | omega | exact Nat.le_refl _⟩, by repeat (first | exact Drawn0.refl _ | apply Drawn0.step)⟩
        case rest =>
          clear HC16
          try clear c1
          try clear c2
          try clear p2
          try clear c6
          try clear c8
          try clear c10
          try clear c10b0
          try clear c10b1
          try clear c12
          try clear c12b0
          try clear c12b1
          try clear c14
          try clear c17
          try clear c18
          try clear p2
          obtain ⟨kq, x64_15, rfl, HA, HJ15, ⟨mc15, rfl⟩⟩ := hcut
          cases kq with
          | zero => exact absurd HA.out (by simp [beehivelaw8_WordBack.j1])
          | succ kj15 =>
            have H := HA.out
            clear HA
            simp only [beehivelaw8_WordBack.j1] at H
            by_cases c19 : x64_15 = true
            · subst c19
              have H1 : (some false) = some r := by rw [if_pos rfl] at H; exact H
              clear H
              have H := H1
              clear H1
              obtain rfl := Option.some.inj H
              go_wp2
              go_ret
              exact ⟨by first | rfl | (simp; done) | (simp [*]; done), by repeat (first | exact Drawn0.refl _ | apply Drawn0.step)⟩
            · replace c19 := Bool.eq_false_iff.mpr c19
              subst c19
              have H1 : ((word_Head.f a3 a4).bind fun bt125 => ((word_Parts.f bt125.1).bind fun bt127 => (if bt125.2 = true then ((word_Tag.f bt125.1).bind fun t130 => (if t130 = 6 then (if bt127.1 = a3 then (if bt127.2.1 = a4 then (if bt127.2.2 = true then ((word_Plain.f bt125.1).bind fun t131 => (if t131 = true then (some false) else (if t119 = true then ((beehivelaw8_awake.f).bind fun t132 => (some t132)) else (if t118 = 0 then ((beehivelaw8_awake.f).bind fun t133 => (some t133)) else (some false))))) else (some false)) else (some false)) else (some false)) else (some false))) else (if t119 = true then (if bt125.1 = 0 then ((beehivelaw8_awake.f).bind fun t134 => (some t134)) else (some false)) else (if t118 = 0 then (if bt125.1 = 0 then ((beehivelaw8_awake.f).bind fun t135 => (some t135)) else (some false)) else (some false)))))) = some r := by rw [if_neg (show ¬ (false = true) by decide)] at H; exact H
              clear H
              have H := H1
              clear H1
              replace H := Option.bind_eq_some_iff.mp H
              obtain ⟨⟨t125, t126⟩, A200, H⟩ := H
              replace H : ((word_Parts.f t125).bind fun bt127 => (if t126 = true then ((word_Tag.f t125).bind fun t130 => (if t130 = 6 then (if bt127.1 = a3 then (if bt127.2.1 = a4 then (if bt127.2.2 = true then ((word_Plain.f t125).bind fun t131 => (if t131 = true then (some false) else (if t119 = true then ((beehivelaw8_awake.f).bind fun t132 => (some t132)) else (if t118 = 0 then ((beehivelaw8_awake.f).bind fun t133 => (some t133)) else (some false))))) else (some false)) else (some false)) else (some false)) else (some false))) else (if t119 = true then (if t125 = 0 then ((beehivelaw8_awake.f).bind fun t134 => (some t134)) else (some false)) else (if t118 = 0 then (if t125 = 0 then ((beehivelaw8_awake.f).bind fun t135 => (some t135)) else (some false)) else (some false))))) = some r := H
              have A20 := Aside0.mk A200
              clear A200
              replace H := Option.bind_eq_some_iff.mp H
              obtain ⟨⟨t127, t128, t129⟩, A210, H⟩ := H
              replace H : (if t126 = true then ((word_Tag.f t125).bind fun t130 => (if t130 = 6 then (if t127 = a3 then (if t128 = a4 then (if t129 = true then ((word_Plain.f t125).bind fun t131 => (if t131 = true then (some false) else (if t119 = true then ((beehivelaw8_awake.f).bind fun t132 => (some t132)) else (if t118 = 0 then ((beehivelaw8_awake.f).bind fun t133 => (some t133)) else (some false))))) else (some false)) else (some false)) else (some false)) else (some false))) else (if t119 = true then (if t125 = 0 then ((beehivelaw8_awake.f).bind fun t134 => (some t134)) else (some false)) else (if t118 = 0 then (if t125 = 0 then ((beehivelaw8_awake.f).bind fun t135 => (some t135)) else (some false)) else (some false)))) = some r := H
              have A21 := Aside0.mk A210
              clear A210
              by_cases c22 : t126 = true
              · subst c22
                have H1 : ((word_Tag.f t125).bind fun t130 => (if t130 = 6 then (if t127 = a3 then (if t128 = a4 then (if t129 = true then ((word_Plain.f t125).bind fun t131 => (if t131 = true then (some false) else (if t119 = true then ((beehivelaw8_awake.f).bind fun t132 => (some t132)) else (if t118 = 0 then ((beehivelaw8_awake.f).bind fun t133 => (some t133)) else (some false))))) else (some false)) else (some false)) else (some false)) else (some false))) = some r := by rw [if_pos rfl] at H; exact H
                clear H
                have H := H1
                clear H1
                replace H := Option.bind_eq_some_iff.mp H
                obtain ⟨t130, A230, H⟩ := H
                replace H : (if t130 = 6 then (if t127 = a3 then (if t128 = a4 then (if t129 = true then ((word_Plain.f t125).bind fun t131 => (if t131 = true then (some false) else (if t119 = true then ((beehivelaw8_awake.f).bind fun t132 => (some t132)) else (if t118 = 0 then ((beehivelaw8_awake.f).bind fun t133 => (some t133)) else (some false))))) else (some false)) else (some false)) else (some false)) else (some false)) = some r := H
                have A23 := Aside0.mk A230
                clear A230
                by_cases c24 : t130 = 6
                · rw [if_pos c24] at H
                  have c24b0 : (t130 == 6) = true := beq_iff_eq.mpr c24
                  have c24b1 : (t130 != 6) = false := bne_eq_false_iff_eq.mpr c24
                  clear c24
                  by_cases c25 : t127 = a3
                  · rw [if_pos c25] at H
                    have c25b0 : (t127 == a3) = true := beq_iff_eq.mpr c25
                    have c25b1 : (t127 != a3) = false := bne_eq_false_iff_eq.mpr c25
                    clear c25
                    by_cases c26 : t128 = a4
                    · rw [if_pos c26] at H
                      have c26b0 : (t128 == a4) = true := beq_iff_eq.mpr c26
                      have c26b1 : (t128 != a4) = false := bne_eq_false_iff_eq.mpr c26
                      clear c26
                      by_cases c27 : t129 = true
                      · subst c27
                        have H1 : ((word_Plain.f t125).bind fun t131 => (if t131 = true then (some false) else (if t119 = true then ((beehivelaw8_awake.f).bind fun t132 => (some t132)) else (if t118 = 0 then ((beehivelaw8_awake.f).bind fun t133 => (some t133)) else (some false))))) = some r := by rw [if_pos rfl] at H; exact H
                        clear H
                        have H := H1
                        clear H1
                        replace H := Option.bind_eq_some_iff.mp H
                        obtain ⟨t131, A280, H⟩ := H
                        replace H : (if t131 = true then (some false) else (if t119 = true then ((beehivelaw8_awake.f).bind fun t132 => (some t132)) else (if t118 = 0 then ((beehivelaw8_awake.f).bind fun t133 => (some t133)) else (some false)))) = some r := H
                        have A28 := Aside0.mk A280
                        clear A280
                        by_cases c29 : t131 = true
                        · subst c29
                          have H1 : (some false) = some r := by rw [if_pos rfl] at H; exact H
                          clear H
                          have H := H1
                          clear H1
                          obtain rfl := Option.some.inj H
                          go_wp2_with (first | ((with_reducible refine gate_callee (f := 28) rfl ?_); refine goesL_ (some 68) rfl rfl Try.func28 (by kernel_rfl) rfl #[.int .i64 a3, .int .i64 a4] rfl (by (try simp only [List.map_toArray, List.map_cons, List.map_nil]); first | done | rfl | (simp only [List.length_drop, List.length_take]; rfl)) ?_; (with_reducible refine (word_Head.calls a3 a4 t125 true _ A20.out).mono ?_); rintro e w' ⟨rfl, ⟨nd, rfl⟩⟩; refine ⟨_, rfl, ?_⟩) | ((with_reducible refine gate_callee (f := 30) rfl ?_); refine goesL_ (some 73) rfl rfl Try.func30 (by kernel_rfl) rfl #[.int .u64 t125] rfl (by (try simp only [List.map_toArray, List.map_cons, List.map_nil]); first | done | rfl | (simp only [List.length_drop, List.length_take]; rfl)) ?_; (with_reducible refine (word_Parts.calls t125 t127 t128 true _ A21.out).mono ?_); rintro e w' ⟨rfl, ⟨nd, rfl⟩⟩; refine ⟨_, rfl, ?_⟩) | (go_at_call 32; (with_reducible refine (word_Tag.calls t125 t130 _ A23.out).mono ?_); rintro e w' ⟨rfl, ⟨nd, rfl⟩⟩) | (go_at_call 36; (with_reducible refine (word_Plain.calls t125 true _ A28.out).mono ?_); rintro e w' ⟨rfl, ⟨nd, rfl⟩⟩))
                          go_ret
                          exact ⟨by first | rfl | (simp; done) | (simp [*]; done), by repeat (first | exact Drawn0.refl _ | apply Drawn0.step)⟩
                        · replace c29 := Bool.eq_false_iff.mpr c29
                          subst c29
                          have H1 : (if t119 = true then ((beehivelaw8_awake.f).bind fun t132 => (some t132)) else (if t118 = 0 then ((beehivelaw8_awake.f).bind fun t133 => (some t133)) else (some false))) = some r := by rw [if_neg (show ¬ (false = true) by decide)] at H; exact H
                          clear H
                          have H := H1
                          clear H1
                          by_cases c30 : t119 = true
                          · subst c30
                            have H1 : ((beehivelaw8_awake.f).bind fun t132 => (some t132)) = some r := by rw [if_pos rfl] at H; exact H
                            clear H
                            have H := H1
                            clear H1
                            replace H := Option.bind_eq_some_iff.mp H
                            obtain ⟨t132, A310, H⟩ := H
                            replace H : (some t132) = some r := H
                            have A31 := Aside0.mk A310
                            clear A310
                            obtain rfl := Option.some.inj H
                            go_wp2_with (first | ((with_reducible refine gate_callee (f := 28) rfl ?_); refine goesL_ (some 68) rfl rfl Try.func28 (by kernel_rfl) rfl #[.int .i64 a3, .int .i64 a4] rfl (by (try simp only [List.map_toArray, List.map_cons, List.map_nil]); first | done | rfl | (simp only [List.length_drop, List.length_take]; rfl)) ?_; (with_reducible refine (word_Head.calls a3 a4 t125 true _ A20.out).mono ?_); rintro e w' ⟨rfl, ⟨nd, rfl⟩⟩; refine ⟨_, rfl, ?_⟩) | ((with_reducible refine gate_callee (f := 30) rfl ?_); refine goesL_ (some 73) rfl rfl Try.func30 (by kernel_rfl) rfl #[.int .u64 t125] rfl (by (try simp only [List.map_toArray, List.map_cons, List.map_nil]); first | done | rfl | (simp only [List.length_drop, List.length_take]; rfl)) ?_; (with_reducible refine (word_Parts.calls t125 t127 t128 true _ A21.out).mono ?_); rintro e w' ⟨rfl, ⟨nd, rfl⟩⟩; refine ⟨_, rfl, ?_⟩) | (go_at_call 32; (with_reducible refine (word_Tag.calls t125 t130 _ A23.out).mono ?_); rintro e w' ⟨rfl, ⟨nd, rfl⟩⟩) | (go_at_call 36; (with_reducible refine (word_Plain.calls t125 false _ A28.out).mono ?_); rintro e w' ⟨rfl, ⟨nd, rfl⟩⟩) | (go_at_call 38; (with_reducible refine (beehivelaw8_awake.calls  t132 _ A31.out).mono ?_); rintro e w' ⟨rfl, ⟨nd, rfl⟩⟩))
                            go_ret
                            exact ⟨by first | rfl | (simp; done) | (simp [*]; done), by repeat (first | exact Drawn0.refl _ | apply Drawn0.step)⟩
                          · replace c30 := Bool.eq_false_iff.mpr c30
                            subst c30
                            have H1 : (if t118 = 0 then ((beehivelaw8_awake.f).bind fun t133 => (some t133)) else (some false)) = some r := by rw [if_neg (show ¬ (false = true) by decide)] at H; exact H
                            clear H
                            have H := H1
                            clear H1
                            by_cases c32 : t118 = 0
                            · rw [if_pos c32] at H
                              have c32b0 : (t118 == 0) = true := beq_iff_eq.mpr c32
                              have c32b1 : (t118 != 0) = false := bne_eq_false_iff_eq.mpr c32
                              clear c32
                              replace H := Option.bind_eq_some_iff.mp H
                              obtain ⟨t133, A330, H⟩ := H
                              replace H : (some t133) = some r := H
                              have A33 := Aside0.mk A330
                              clear A330
                              obtain rfl := Option.some.inj H
                              go_wp2_with (first | ((with_reducible refine gate_callee (f := 28) rfl ?_); refine goesL_ (some 68) rfl rfl Try.func28 (by kernel_rfl) rfl #[.int .i64 a3, .int .i64 a4] rfl (by (try simp only [List.map_toArray, List.map_cons, List.map_nil]); first | done | rfl | (simp only [List.length_drop, List.length_take]; rfl)) ?_; (with_reducible refine (word_Head.calls a3 a4 t125 true _ A20.out).mono ?_); rintro e w' ⟨rfl, ⟨nd, rfl⟩⟩; refine ⟨_, rfl, ?_⟩) | ((with_reducible refine gate_callee (f := 30) rfl ?_); refine goesL_ (some 73) rfl rfl Try.func30 (by kernel_rfl) rfl #[.int .u64 t125] rfl (by (try simp only [List.map_toArray, List.map_cons, List.map_nil]); first | done | rfl | (simp only [List.length_drop, List.length_take]; rfl)) ?_; (with_reducible refine (word_Parts.calls t125 t127 t128 true _ A21.out).mono ?_); rintro e w' ⟨rfl, ⟨nd, rfl⟩⟩; refine ⟨_, rfl, ?_⟩) | (go_at_call 32; (with_reducible refine (word_Tag.calls t125 t130 _ A23.out).mono ?_); rintro e w' ⟨rfl, ⟨nd, rfl⟩⟩) | (go_at_call 36; (with_reducible refine (word_Plain.calls t125 false _ A28.out).mono ?_); rintro e w' ⟨rfl, ⟨nd, rfl⟩⟩) | (go_at_call 38; (with_reducible refine (beehivelaw8_awake.calls  t133 _ A33.out).mono ?_); rintro e w' ⟨rfl, ⟨nd, rfl⟩⟩))
                              go_ret
                              exact ⟨by first | rfl | (simp; done) | (simp [*]; done), by repeat (first | exact Drawn0.refl _ | apply Drawn0.step)⟩
                            · rw [if_neg c32] at H
                              have c32b0 : (t118 == 0) = false := beq_eq_false_iff_ne.mpr c32
                              have c32b1 : (t118 != 0) = true := bne_iff_ne.mpr c32
                              obtain rfl := Option.some.inj H
                              go_wp2_with (first | ((with_reducible refine gate_callee (f := 28) rfl ?_); refine goesL_ (some 68) rfl rfl Try.func28 (by kernel_rfl) rfl #[.int .i64 a3, .int .i64 a4] rfl (by (try simp only [List.map_toArray, List.map_cons, List.map_nil]); first | done | rfl | (simp only [List.length_drop, List.length_take]; rfl)) ?_; (with_reducible refine (word_Head.calls a3 a4 t125 true _ A20.out).mono ?_); rintro e w' ⟨rfl, ⟨nd, rfl⟩⟩; refine ⟨_, rfl, ?_⟩) | ((with_reducible refine gate_callee (f := 30) rfl ?_); refine goesL_ (some 73) rfl rfl Try.func30 (by kernel_rfl) rfl #[.int .u64 t125] rfl (by (try simp only [List.map_toArray, List.map_cons, List.map_nil]); first | done | rfl | (simp only [List.length_drop, List.length_take]; rfl)) ?_; (with_reducible refine (word_Parts.calls t125 t127 t128 true _ A21.out).mono ?_); rintro e w' ⟨rfl, ⟨nd, rfl⟩⟩; refine ⟨_, rfl, ?_⟩) | (go_at_call 32; (with_reducible refine (word_Tag.calls t125 t130 _ A23.out).mono ?_); rintro e w' ⟨rfl, ⟨nd, rfl⟩⟩) | (go_at_call 36; (with_reducible refine (word_Plain.calls t125 false _ A28.out).mono ?_); rintro e w' ⟨rfl, ⟨nd, rfl⟩⟩))
                              go_ret
                              exact ⟨by first | rfl | (simp; done) | (simp [*]; done), by repeat (first | exact Drawn0.refl _ | apply Drawn0.step)⟩
                      · replace c27 := Bool.eq_false_iff.mpr c27
                        subst c27
                        have H1 : (some false) = some r := by rw [if_neg (show ¬ (false = true) by decide)] at H; exact H
                        clear H
                        have H := H1
                        clear H1
                        obtain rfl := Option.some.inj H
                        go_wp2_with (first | ((with_reducible refine gate_callee (f := 28) rfl ?_); refine goesL_ (some 68) rfl rfl Try.func28 (by kernel_rfl) rfl #[.int .i64 a3, .int .i64 a4] rfl (by (try simp only [List.map_toArray, List.map_cons, List.map_nil]); first | done | rfl | (simp only [List.length_drop, List.length_take]; rfl)) ?_; (with_reducible refine (word_Head.calls a3 a4 t125 true _ A20.out).mono ?_); rintro e w' ⟨rfl, ⟨nd, rfl⟩⟩; refine ⟨_, rfl, ?_⟩) | ((with_reducible refine gate_callee (f := 30) rfl ?_); refine goesL_ (some 73) rfl rfl Try.func30 (by kernel_rfl) rfl #[.int .u64 t125] rfl (by (try simp only [List.map_toArray, List.map_cons, List.map_nil]); first | done | rfl | (simp only [List.length_drop, List.length_take]; rfl)) ?_; (with_reducible refine (word_Parts.calls t125 t127 t128 false _ A21.out).mono ?_); rintro e w' ⟨rfl, ⟨nd, rfl⟩⟩; refine ⟨_, rfl, ?_⟩) | (go_at_call 32; (with_reducible refine (word_Tag.calls t125 t130 _ A23.out).mono ?_); rintro e w' ⟨rfl, ⟨nd, rfl⟩⟩))
                        go_ret
                        exact ⟨by first | rfl | (simp; done) | (simp [*]; done), by repeat (first | exact Drawn0.refl _ | apply Drawn0.step)⟩
                    · rw [if_neg c26] at H
                      have c26b0 : (t128 == a4) = false := beq_eq_false_iff_ne.mpr c26
                      have c26b1 : (t128 != a4) = true := bne_iff_ne.mpr c26
                      obtain rfl := Option.some.inj H
                      go_wp2_with (first | ((with_reducible refine gate_callee (f := 28) rfl ?_); refine goesL_ (some 68) rfl rfl Try.func28 (by kernel_rfl) rfl #[.int .i64 a3, .int .i64 a4] rfl (by (try simp only [List.map_toArray, List.map_cons, List.map_nil]); first | done | rfl | (simp only [List.length_drop, List.length_take]; rfl)) ?_; (with_reducible refine (word_Head.calls a3 a4 t125 true _ A20.out).mono ?_); rintro e w' ⟨rfl, ⟨nd, rfl⟩⟩; refine ⟨_, rfl, ?_⟩) | ((with_reducible refine gate_callee (f := 30) rfl ?_); refine goesL_ (some 73) rfl rfl Try.func30 (by kernel_rfl) rfl #[.int .u64 t125] rfl (by (try simp only [List.map_toArray, List.map_cons, List.map_nil]); first | done | rfl | (simp only [List.length_drop, List.length_take]; rfl)) ?_; (with_reducible refine (word_Parts.calls t125 t127 t128 t129 _ A21.out).mono ?_); rintro e w' ⟨rfl, ⟨nd, rfl⟩⟩; refine ⟨_, rfl, ?_⟩) | (go_at_call 32; (with_reducible refine (word_Tag.calls t125 t130 _ A23.out).mono ?_); rintro e w' ⟨rfl, ⟨nd, rfl⟩⟩))
                      go_ret
                      exact ⟨by first | rfl | (simp; done) | (simp [*]; done), by repeat (first | exact Drawn0.refl _ | apply Drawn0.step)⟩
                  · rw [if_neg c25] at H
                    have c25b0 : (t127 == a3) = false := beq_eq_false_iff_ne.mpr c25
                    have c25b1 : (t127 != a3) = true := bne_iff_ne.mpr c25
                    obtain rfl := Option.some.inj H
                    go_wp2_with (first | ((with_reducible refine gate_callee (f := 28) rfl ?_); refine goesL_ (some 68) rfl rfl Try.func28 (by kernel_rfl) rfl #[.int .i64 a3, .int .i64 a4] rfl (by (try simp only [List.map_toArray, List.map_cons, List.map_nil]); first | done | rfl | (simp only [List.length_drop, List.length_take]; rfl)) ?_; (with_reducible refine (word_Head.calls a3 a4 t125 true _ A20.out).mono ?_); rintro e w' ⟨rfl, ⟨nd, rfl⟩⟩; refine ⟨_, rfl, ?_⟩) | ((with_reducible refine gate_callee (f := 30) rfl ?_); refine goesL_ (some 73) rfl rfl Try.func30 (by kernel_rfl) rfl #[.int .u64 t125] rfl (by (try simp only [List.map_toArray, List.map_cons, List.map_nil]); first | done | rfl | (simp only [List.length_drop, List.length_take]; rfl)) ?_; (with_reducible refine (word_Parts.calls t125 t127 t128 t129 _ A21.out).mono ?_); rintro e w' ⟨rfl, ⟨nd, rfl⟩⟩; refine ⟨_, rfl, ?_⟩) | (go_at_call 32; (with_reducible refine (word_Tag.calls t125 t130 _ A23.out).mono ?_); rintro e w' ⟨rfl, ⟨nd, rfl⟩⟩))
                    go_ret
                    exact ⟨by first | rfl | (simp; done) | (simp [*]; done), by repeat (first | exact Drawn0.refl _ | apply Drawn0.step)⟩
                · rw [if_neg c24] at H
                  have c24b0 : (t130 == 6) = false := beq_eq_false_iff_ne.mpr c24
                  have c24b1 : (t130 != 6) = true := bne_iff_ne.mpr c24
                  obtain rfl := Option.some.inj H
                  go_wp2_with (first | ((with_reducible refine gate_callee (f := 28) rfl ?_); refine goesL_ (some 68) rfl rfl Try.func28 (by kernel_rfl) rfl #[.int .i64 a3, .int .i64 a4] rfl (by (try simp only [List.map_toArray, List.map_cons, List.map_nil]); first | done | rfl | (simp only [List.length_drop, List.length_take]; rfl)) ?_; (with_reducible refine (word_Head.calls a3 a4 t125 true _ A20.out).mono ?_); rintro e w' ⟨rfl, ⟨nd, rfl⟩⟩; refine ⟨_, rfl, ?_⟩) | ((with_reducible refine gate_callee (f := 30) rfl ?_); refine goesL_ (some 73) rfl rfl Try.func30 (by kernel_rfl) rfl #[.int .u64 t125] rfl (by (try simp only [List.map_toArray, List.map_cons, List.map_nil]); first | done | rfl | (simp only [List.length_drop, List.length_take]; rfl)) ?_; (with_reducible refine (word_Parts.calls t125 t127 t128 t129 _ A21.out).mono ?_); rintro e w' ⟨rfl, ⟨nd, rfl⟩⟩; refine ⟨_, rfl, ?_⟩) | (go_at_call 32; (with_reducible refine (word_Tag.calls t125 t130 _ A23.out).mono ?_); rintro e w' ⟨rfl, ⟨nd, rfl⟩⟩))
                  go_ret
                  exact ⟨by first | rfl | (simp; done) | (simp [*]; done), by repeat (first | exact Drawn0.refl _ | apply Drawn0.step)⟩
              · replace c22 := Bool.eq_false_iff.mpr c22
                subst c22
                have H1 : (if t119 = true then (if t125 = 0 then ((beehivelaw8_awake.f).bind fun t134 => (some t134)) else (some false)) else (if t118 = 0 then (if t125 = 0 then ((beehivelaw8_awake.f).bind fun t135 => (some t135)) else (some false)) else (some false))) = some r := by rw [if_neg (show ¬ (false = true) by decide)] at H; exact H
                clear H
                have H := H1
                clear H1
                by_cases c34 : t119 = true
                · subst c34
                  have H1 : (if t125 = 0 then ((beehivelaw8_awake.f).bind fun t134 => (some t134)) else (some false)) = some r := by rw [if_pos rfl] at H; exact H
                  clear H
                  have H := H1
                  clear H1
                  by_cases c35 : t125 = 0
                  · rw [if_pos c35] at H
                    have c35b0 : (t125 == 0) = true := beq_iff_eq.mpr c35
                    have c35b1 : (t125 != 0) = false := bne_eq_false_iff_eq.mpr c35
                    clear c35
                    replace H := Option.bind_eq_some_iff.mp H
                    obtain ⟨t134, A360, H⟩ := H
                    replace H : (some t134) = some r := H
                    have A36 := Aside0.mk A360
                    clear A360
                    obtain rfl := Option.some.inj H
                    go_wp2_with (first | ((with_reducible refine gate_callee (f := 28) rfl ?_); refine goesL_ (some 68) rfl rfl Try.func28 (by kernel_rfl) rfl #[.int .i64 a3, .int .i64 a4] rfl (by (try simp only [List.map_toArray, List.map_cons, List.map_nil]); first | done | rfl | (simp only [List.length_drop, List.length_take]; rfl)) ?_; (with_reducible refine (word_Head.calls a3 a4 t125 false _ A20.out).mono ?_); rintro e w' ⟨rfl, ⟨nd, rfl⟩⟩; refine ⟨_, rfl, ?_⟩) | ((with_reducible refine gate_callee (f := 30) rfl ?_); refine goesL_ (some 73) rfl rfl Try.func30 (by kernel_rfl) rfl #[.int .u64 t125] rfl (by (try simp only [List.map_toArray, List.map_cons, List.map_nil]); first | done | rfl | (simp only [List.length_drop, List.length_take]; rfl)) ?_; (with_reducible refine (word_Parts.calls t125 t127 t128 t129 _ A21.out).mono ?_); rintro e w' ⟨rfl, ⟨nd, rfl⟩⟩; refine ⟨_, rfl, ?_⟩) | (go_at_call 38; (with_reducible refine (beehivelaw8_awake.calls  t134 _ A36.out).mono ?_); rintro e w' ⟨rfl, ⟨nd, rfl⟩⟩))
                    go_ret
                    exact ⟨by first | rfl | (simp; done) | (simp [*]; done), by repeat (first | exact Drawn0.refl _ | apply Drawn0.step)⟩
                  · rw [if_neg c35] at H
                    have c35b0 : (t125 == 0) = false := beq_eq_false_iff_ne.mpr c35
                    have c35b1 : (t125 != 0) = true := bne_iff_ne.mpr c35
                    obtain rfl := Option.some.inj H
                    go_wp2_with (first | ((with_reducible refine gate_callee (f := 28) rfl ?_); refine goesL_ (some 68) rfl rfl Try.func28 (by kernel_rfl) rfl #[.int .i64 a3, .int .i64 a4] rfl (by (try simp only [List.map_toArray, List.map_cons, List.map_nil]); first | done | rfl | (simp only [List.length_drop, List.length_take]; rfl)) ?_; (with_reducible refine (word_Head.calls a3 a4 t125 false _ A20.out).mono ?_); rintro e w' ⟨rfl, ⟨nd, rfl⟩⟩; refine ⟨_, rfl, ?_⟩) | ((with_reducible refine gate_callee (f := 30) rfl ?_); refine goesL_ (some 73) rfl rfl Try.func30 (by kernel_rfl) rfl #[.int .u64 t125] rfl (by (try simp only [List.map_toArray, List.map_cons, List.map_nil]); first | done | rfl | (simp only [List.length_drop, List.length_take]; rfl)) ?_; (with_reducible refine (word_Parts.calls t125 t127 t128 t129 _ A21.out).mono ?_); rintro e w' ⟨rfl, ⟨nd, rfl⟩⟩; refine ⟨_, rfl, ?_⟩))
                    go_ret
                    exact ⟨by first | rfl | (simp; done) | (simp [*]; done), by repeat (first | exact Drawn0.refl _ | apply Drawn0.step)⟩
                · replace c34 := Bool.eq_false_iff.mpr c34
                  subst c34
                  have H1 : (if t118 = 0 then (if t125 = 0 then ((beehivelaw8_awake.f).bind fun t135 => (some t135)) else (some false)) else (some false)) = some r := by rw [if_neg (show ¬ (false = true) by decide)] at H; exact H
                  clear H
                  have H := H1
                  clear H1
                  by_cases c37 : t118 = 0
                  · rw [if_pos c37] at H
                    have c37b0 : (t118 == 0) = true := beq_iff_eq.mpr c37
                    have c37b1 : (t118 != 0) = false := bne_eq_false_iff_eq.mpr c37
                    clear c37
                    by_cases c38 : t125 = 0
                    · rw [if_pos c38] at H
                      have c38b0 : (t125 == 0) = true := beq_iff_eq.mpr c38
                      have c38b1 : (t125 != 0) = false := bne_eq_false_iff_eq.mpr c38
                      clear c38
                      replace H := Option.bind_eq_some_iff.mp H
                      obtain ⟨t135, A390, H⟩ := H
                      replace H : (some t135) = some r := H
                      have A39 := Aside0.mk A390
                      clear A390
                      obtain rfl := Option.some.inj H
                      go_wp2_with (first | ((with_reducible refine gate_callee (f := 28) rfl ?_); refine goesL_ (some 68) rfl rfl Try.func28 (by kernel_rfl) rfl #[.int .i64 a3, .int .i64 a4] rfl (by (try simp only [List.map_toArray, List.map_cons, List.map_nil]); first | done | rfl | (simp only [List.length_drop, List.length_take]; rfl)) ?_; (with_reducible refine (word_Head.calls a3 a4 t125 false _ A20.out).mono ?_); rintro e w' ⟨rfl, ⟨nd, rfl⟩⟩; refine ⟨_, rfl, ?_⟩) | ((with_reducible refine gate_callee (f := 30) rfl ?_); refine goesL_ (some 73) rfl rfl Try.func30 (by kernel_rfl) rfl #[.int .u64 t125] rfl (by (try simp only [List.map_toArray, List.map_cons, List.map_nil]); first | done | rfl | (simp only [List.length_drop, List.length_take]; rfl)) ?_; (with_reducible refine (word_Parts.calls t125 t127 t128 t129 _ A21.out).mono ?_); rintro e w' ⟨rfl, ⟨nd, rfl⟩⟩; refine ⟨_, rfl, ?_⟩) | (go_at_call 38; (with_reducible refine (beehivelaw8_awake.calls  t135 _ A39.out).mono ?_); rintro e w' ⟨rfl, ⟨nd, rfl⟩⟩))
                      go_ret
                      exact ⟨by first | rfl | (simp; done) | (simp [*]; done), by repeat (first | exact Drawn0.refl _ | apply Drawn0.step)⟩
                    · rw [if_neg c38] at H
                      have c38b0 : (t125 == 0) = false := beq_eq_false_iff_ne.mpr c38
                      have c38b1 : (t125 != 0) = true := bne_iff_ne.mpr c38
                      obtain rfl := Option.some.inj H
                      go_wp2_with (first | ((with_reducible refine gate_callee (f := 28) rfl ?_); refine goesL_ (some 68) rfl rfl Try.func28 (by kernel_rfl) rfl #[.int .i64 a3, .int .i64 a4] rfl (by (try simp only [List.map_toArray, List.map_cons, List.map_nil]); first | done | rfl | (simp only [List.length_drop, List.length_take]; rfl)) ?_; (with_reducible refine (word_Head.calls a3 a4 t125 false _ A20.out).mono ?_); rintro e w' ⟨rfl, ⟨nd, rfl⟩⟩; refine ⟨_, rfl, ?_⟩) | ((with_reducible refine gate_callee (f := 30) rfl ?_); refine goesL_ (some 73) rfl rfl Try.func30 (by kernel_rfl) rfl #[.int .u64 t125] rfl (by (try simp only [List.map_toArray, List.map_cons, List.map_nil]); first | done | rfl | (simp only [List.length_drop, List.length_take]; rfl)) ?_; (with_reducible refine (word_Parts.calls t125 t127 t128 t129 _ A21.out).mono ?_); rintro e w' ⟨rfl, ⟨nd, rfl⟩⟩; refine ⟨_, rfl, ?_⟩))
                      go_ret
                      exact ⟨by first | rfl | (simp; done) | (simp [*]; done), by repeat (first | exact Drawn0.refl _ | apply Drawn0.step)⟩
                  · rw [if_neg c37] at H
                    have c37b0 : (t118 == 0) = false := beq_eq_false_iff_ne.mpr c37
                    have c37b1 : (t118 != 0) = true := bne_iff_ne.mpr c37
                    obtain rfl := Option.some.inj H
                    go_wp2_with (first | ((with_reducible refine gate_callee (f := 28) rfl ?_); refine goesL_ (some 68) rfl rfl Try.func28 (by kernel_rfl) rfl #[.int .i64 a3, .int .i64 a4] rfl (by (try simp only [List.map_toArray, List.map_cons, List.map_nil]); first | done | rfl | (simp only [List.length_drop, List.length_take]; rfl)) ?_; (with_reducible refine (word_Head.calls a3 a4 t125 false _ A20.out).mono ?_); rintro e w' ⟨rfl, ⟨nd, rfl⟩⟩; refine ⟨_, rfl, ?_⟩) | ((with_reducible refine gate_callee (f := 30) rfl ?_); refine goesL_ (some 73) rfl rfl Try.func30 (by kernel_rfl) rfl #[.int .u64 t125] rfl (by (try simp only [List.map_toArray, List.map_cons, List.map_nil]); first | done | rfl | (simp only [List.length_drop, List.length_take]; rfl)) ?_; (with_reducible refine (word_Parts.calls t125 t127 t128 t129 _ A21.out).mono ?_); rintro e w' ⟨rfl, ⟨nd, rfl⟩⟩; refine ⟨_, rfl, ?_⟩))
                    go_ret
                    exact ⟨by first | rfl | (simp; done) | (simp [*]; done), by repeat (first | exact Drawn0.refl _ | apply Drawn0.step)⟩

/-- THE ONE PURE STATEMENT of beehivelaw8_WordBack: yours. -/
def beehivelaw8_WordBack.Pure : Prop := ∀ (a0 : Int) (a1 : Int) (a2 : Int) (a3 : Int) (a4 : Int), (Lit.int .i64 a0).wf = true → (Lit.int .i64 a1).wf = true → (Lit.int .i64 a2).wf = true → (Lit.int .i64 a3).wf = true → (Lit.int .i64 a4).wf = true → ∃ k, beehivelaw8_WordBack.f k a0 a1 a2 a3 a4 = some true
theorem beehivelaw8_WordBack.walk (P : beehivelaw8_WordBack.Pure) (a0 : Int) (a1 : Int) (a2 : Int) (a3 : Int) (a4 : Int) (w : World) (w0 : (Lit.int .i64 a0).wf = true) (w1 : (Lit.int .i64 a1).wf = true) (w2 : (Lit.int .i64 a2).wf = true) (w3 : (Lit.int .i64 a3).wf = true) (w4 : (Lit.int .i64 a4).wf = true) :
    Calls Try.prog 10 #[.int .i64 a0, .int .i64 a1, .int .i64 a2, .int .i64 a3, .int .i64 a4] w fun e w' => e = .returned (.bool true) ∧ Below w.heap.size w w' := by
  obtain ⟨k, h⟩ := P a0 a1 a2 a3 a4 w0 w1 w2 w3 w4
  refine (beehivelaw8_WordBack.calls k a0 a1 a2 a3 a4 true w h).mono ?_
  rintro e w' ⟨rfl, hd⟩
  exact ⟨rfl, hd.below⟩

end Go.Proofs.Ytopopkdnjpnafaa.PWordBack
