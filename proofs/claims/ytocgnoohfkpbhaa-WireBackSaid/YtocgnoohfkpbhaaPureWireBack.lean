import Derived.Test.YtocgnoohfkpbhaaPureWireH
set_option linter.unusedVariables false
set_option linter.unusedSimpArgs false
namespace Go.Proofs.Ytocgnoohfkpbhaa.Sh
open Go Lift Go.Proofs
namespace Pure
theorem WireBack (x0 : Tapi_Term) (x1 : (List Int)) (x2 : (List Int)) (x3 : Int) (w0 : wTapi_Term x0) (w1 : (ListR (InR .u8)) x1) (w2 : (ListR (InR .u8)) x2) (w3 : (InR .i64) x3) : ∃ N, beehivelaw7_WireBack N x0 x1 x2 x3 = some true := by
  refine Ev.ex ?_
  have y1 := bytes_of w1
  have y2 := bytes_of w2
  have awake : Ev (fun N => (beehivelaw7_awake N).bind fun r3 => some (Sum.inr r3 : Unit ⊕ Bool)) (.inr true) := Ev.bind awake7_ev (Ev.now _)
  have out : ∀ v, Ev (fun N => beehivelaw7_WireBack_B0 N x0 x1 x2 x3) (.inr v) → v = true → Ev (fun N => beehivelaw7_WireBack N x0 x1 x2 x3) true := fun v h e => by
    subst e; exact Ev.bind h (Ev.now _)
  obtain ⟨g, eg, kg⟩ := great_ev x0 w0 500 (by omega) (by omega)
  cases g with
  | true =>
    refine out true ?_ rfl
    refine Ev.step ?_ (fun N => by rw [beehivelaw7_WireBack_B0])
    exact Ev.bind eg (Ev.pos rfl awake)
  | false =>
  obtain ⟨s, hcnt⟩ := kg rfl
  by_cases hl1 : ((x1.length : Nat) : Int) > 1000
  · refine out true ?_ rfl
    refine Ev.step ?_ (fun N => by rw [beehivelaw7_WireBack_B0])
    exact Ev.bind eg (Ev.neg Bool.false_ne_true (Ev.pos hl1 awake))
  by_cases hl2 : ((x2.length : Nat) : Int) > 1000
  · refine out true ?_ rfl
    refine Ev.step ?_ (fun N => by rw [beehivelaw7_WireBack_B0])
    exact Ev.bind eg (Ev.neg Bool.false_ne_true (Ev.neg hl1 (Ev.pos hl2 awake)))
  have hB0 : Ev (fun N => beehivelaw7_WireBack_B0 N x0 x1 x2 x3) (.inl ()) := by
    refine Ev.step ?_ (fun N => by rw [beehivelaw7_WireBack_B0])
    exact Ev.bind eg (Ev.neg Bool.false_ne_true (Ev.neg hl1 (Ev.neg hl2 (Ev.now _))))
  have hll := laid_len x0
  have hB1 : Ev (fun N => beehivelaw7_WireBack_B1 N x0 x1 x2 x3 (laid x0)) (.inl ()) := by
    refine Ev.step ?_ (fun N => by rw [beehivelaw7_WireBack_B1])
    by_cases hm : mayT x0 = true
    · have hla : laid x0 = (layT x0, 0) := by unfold laid; rw [if_pos hm]
      rw [hla] at hll ⊢
      have hll : (layT x0).length ≤ 3000 := hll
      have hpos := layT_pos x0
      have hbb : bytesL (x1 ++ layT x0 ++ x2) := (y1.app (layT_bytes x0)).app y2
      have hblen : (x1 ++ layT x0 ++ x2).length = x1.length + (layT x0).length + x2.length := by rw [List.length_append, List.length_append]
      have hd : (x1 ++ layT x0 ++ x2).drop x1.length = layT x0 ++ x2 := by rw [List.append_assoc, List.drop_left]
      have r17 := Read_ok (by omega) hbb (by omega) s w0 hm hd
      obtain ⟨lo, hlo, hlo1⟩ := low_any x3 ((layT x0).length : Int) (by omega) (by omega)
      have hcl : ((x1 ++ layT x0 ++ x2).take (x1.length + lo)).length = x1.length + lo := by rw [List.length_take]; omega
      have r20 := Read_cut (c := (x1 ++ layT x0 ++ x2).take (x1.length + lo)) (p := x1.length) (by omega) hbb (by omega) w0 s hm hd (by rw [hcl, List.take_append_drop]) (by omega)
      have ew : IntKind.i64.wrap (((x1.length : Nat) : Int) + (lo : Int)) = ((x1.length + lo : Nat) : Int) := by rw [wrapI _ (by omega) (by omega)]; omega
      have hB2 : Ev (fun N => beehivelaw7_WireBack_B2 N x0 x1 x2 (layT x0, 0) (x0, ((x1.length + (layT x0).length : Nat) : Int), true) (zT, 0, false)) false := by
        refine Ev.step ?_ (fun N => by rw [beehivelaw7_WireBack_B2])
        refine Ev.neg (fun h => h rfl) (Ev.neg (fun h => h ?_) (Ev.bind (sameTerm_self x0 s (by omega)) (Ev.neg (fun h => h rfl) (Ev.now _))))
        show ((x1.length + (layT x0).length : Nat) : Int) = IntKind.i64.wrap (((x1.length : Nat) : Int) + (((layT x0).length : Nat) : Int))
        rw [wrapI _ (by omega) (by omega)]
        omega
      refine Ev.pos rfl (Ev.neg (by show ¬ (((layT x0).length : Nat) : Int) = 0; omega) ?_)
      refine Ev.bindc (app0_eq (by rw [lim_eq]; omega)) (Ev.bindc (app9 (by show x1.length + (layT x0).length ≤ _; omega)) (Ev.bindc (app9 (by rw [List.length_append]; show x1.length + (layT x0).length + _ ≤ _; omega)) (Ev.bind r17 (Ev.bind hlo ?_))))
      rw [ew]
      exact Ev.bindc (cut_front (by rw [hblen]; omega)) (Ev.bind r20 (Ev.bind hB2 (Ev.neg Bool.false_ne_true (Ev.now _))))
    · have hla : laid x0 = ([], 2) := by unfold laid; rw [if_neg hm]
      rw [hla]
      exact Ev.neg (show ¬ ((2 : Int) = 0) by decide) (Ev.now _)
  refine Ev.bind hB0 (Ev.bind (Lay_ev x0 s w0) (Ev.bind hB1 ?_))
  obtain ⟨v, hv, ho⟩ := Read_tot x2 0 (by omega) y2 (by omega)
  rcases ho with rfl | ⟨u, rest, rfl, h1, h2, h3, h4⟩
  · refine Ev.bind hv (Ev.pos Bool.false_ne_true (Ev.bind (sameTerm_self zT zT_small (by rw [cnt_eq]; show 1 + cnts [] ≤ 100000; rw [cnts]; omega)) (Ev.pos rfl (Ev.pos rfl (Ev.bind awake7_ev (Ev.now _))))))
  · have hlu : laid u = (layT u, 0) := by unfold laid; rw [if_pos h2]
    have hL := Lay_ev u h3 h4
    rw [hlu] at hL
    rw [List.drop_zero] at h1
    have hlen : x2.length = (layT u).length + rest.length := by rw [h1, List.length_append]
    rw [Nat.zero_add] at hv
    have hc : cut x2 0 (((layT u).length : Nat) : Int) = some (layT u) := by rw [cut_front (by omega), take_left_eq h1 rfl]
    refine Ev.bind hv (Ev.neg (fun h => h rfl) (Ev.bind hL (Ev.pos rfl (Ev.pos rfl (Ev.pos (by show (((layT u).length : Nat) : Int) ≤ _; omega) (Ev.bindc hc (Ev.bind (sameB_self _ (by show (layT u).length ≤ _; omega)) (Ev.pos rfl (Ev.bind awake7_ev (Ev.now _))))))))))
end Pure
end Go.Proofs.Ytocgnoohfkpbhaa.Sh
