import Derived.Test.YtncpghadgddofaaPureBoxGrows
set_option linter.unusedVariables false
namespace Go.Proofs.Ytncpghadgddofaa.Sh
open Go Lift Go.Proofs
def isK (kind x : Int) : Bool := decide (IntKind.u64.wrap x % 3 = kind)
theorem low3 (x kind : Int) (hx : InR .i64 x) : ∃ r, Ev (fun N => beehivelaw0_Low N x 3) r ∧ (r = kind ↔ isK kind x = true) := by
  obtain ⟨r, h, _, _, e⟩ := lowE x 3 hx (by omega) (by omega)
  exact ⟨r, h, by rw [e]; simp [isK]⟩
theorem selects_l0 (kind : Int) (l : List Int) (hl : l.length ≤ 24) (hw : ∀ x ∈ l, InR .i64 x) : ∀ (n i : Nat), l.length - i = n → i ≤ l.length →
    Ev (fun N => beehivelaw15_BoxSelects_L0 N l kind (l.take i) ((l.take i).filter (isK kind)) ((l.take i).filter (fun x => !isK kind x)) 24 0 i) (.inl (l, l.filter (isK kind), l.filter (fun x => !isK kind x), 24, 0)) := by
  intro n
  induction n with
  | zero =>
    intro i hn hi
    obtain rfl : i = l.length := by omega
    refine Ev.step ?_ (fun N => by rw [beehivelaw15_BoxSelects_L0])
    refine Ev.neg (by omega) ?_
    rw [List.take_length]
    exact Ev.now _
  | succ n ih =>
    intro i hn hi
    have hil : i < l.length := by omega
    obtain ⟨r, hr, hk⟩ := low3 l[i] kind (hw _ (List.getElem_mem hil))
    have h := ih (i + 1) (by omega) (by omega)
    have f1 := List.length_filter_le (isK kind) (l.take i)
    have f2 := List.length_filter_le (fun x => !isK kind x) (l.take i)
    have f3 : (l.take i).length = i := by simp; omega
    refine Ev.step ?_ (fun N => by rw [beehivelaw15_BoxSelects_L0])
    refine Ev.pos (by omega) (Ev.bindc (idx_eq hil) (Ev.bind (bput_take l i 0 hil hl) (Ev.neg (by simp) (Ev.bind hr ?_))))
    by_cases hc : isK kind l[i] = true
    · refine Ev.pos (hk.2 hc) (Ev.bindc (app_eq (by rw [lim_eq]; simp only [List.length_cons, List.length_nil]; omega)) ?_)
      rw [wrap_succ (by omega)]
      rw [← take_snoc l i hil, List.filter_append, List.filter_append, List.filter_cons_of_pos hc, List.filter_nil, List.filter_cons_of_neg (by simp [hc]), List.filter_nil, List.append_nil] at h
      rw [← take_snoc l i hil]
      exact h
    · refine Ev.neg (fun e => hc (hk.1 e)) (Ev.bindc (app_eq (by rw [lim_eq]; simp only [List.length_cons, List.length_nil]; omega)) ?_)
      rw [wrap_succ (by omega)]
      rw [← take_snoc l i hil, List.filter_append, List.filter_append, List.filter_cons_of_neg hc, List.filter_nil, List.filter_cons_of_pos (by simpa using hc), List.filter_nil, List.append_nil] at h
      rw [← take_snoc l i hil]
      exact h
theorem selects_l1 (kind : Int) (r18 : (List Int) × (List Int) × (List Int) × Int × Int) : ∀ (d : Nat) (l : List Int) (k : Nat) (got : List Int) (v : Nat),
    25 * (l.filter (isK kind)).length + (l.length - k) = d → l.length ≤ 24 → k ≤ l.length → (∀ x ∈ l.take k, isK kind x = false) → (∀ x ∈ l, InR .i64 x) → v + d ≤ 690 → got.length + l.length ≤ 24 →
    Ev (fun N => beehivelaw15_BoxSelects_L1 N kind r18 l got 24 k v) (.inl (l.filter (fun x => !isK kind x), got ++ l.filter (isK kind), 24, (((l.filter (fun x => !isK kind x)).length : Nat) : Int))) := by
  intro d
  induction d using Nat.strongRecOn with
  | _ d ih =>
  intro l k got v hd hl hk ho hw hv hg
  refine Ev.step ?_ (fun N => by rw [beehivelaw15_BoxSelects_L1])
  refine Ev.pos (by omega) ?_
  by_cases hkl : k < l.length
  · have hx := hw _ (List.getElem_mem hkl)
    obtain ⟨r, hr, hrk⟩ := low3 l[k] kind hx
    refine Ev.bind (bat_some l 24 k hkl) (Ev.neg (by simp) (Ev.bind hr ?_))
    by_cases hc : isK kind l[k] = true
    · refine Ev.neg (by simpa using hrk.2 hc) (Ev.bind (btake_some l 24 k hkl (by omega)) (Ev.neg (by simp) (Ev.neg (by simp) (Ev.bind (bmark_ev _) (Ev.neg (by simp) (Ev.bindc (app_eq (by rw [lim_eq]; simp only [List.length_cons, List.length_nil]; omega)) ?_))))))
      rw [wrap_succ (by omega)]
      have split : l = l.take k ++ l[k] :: l.drop (k + 1) := by rw [← List.drop_eq_getElem_cons hkl, List.take_append_drop]
      have er : l.eraseIdx k = l.take k ++ l.drop (k + 1) := (eraseIdx_two' l k).symm
      have hn1 : (l.take k).filter (isK kind) = [] := List.filter_eq_nil_iff.2 (fun x hx => by rw [ho x hx]; simp)
      have e1 : l.filter (isK kind) = l[k] :: (l.eraseIdx k).filter (isK kind) := by
        rw [er, List.filter_append, hn1, List.nil_append]
        conv => lhs; rw [split]
        rw [List.filter_append, hn1, List.nil_append, List.filter_cons_of_pos hc]
      have e2 : l.filter (fun x => !isK kind x) = (l.eraseIdx k).filter (fun x => !isK kind x) := by
        rw [er, List.filter_append]
        conv => lhs; rw [split]
        rw [List.filter_append, List.filter_cons_of_neg (by simp [hc])]
      have hlen : (l.eraseIdx k).length = l.length - 1 := List.length_eraseIdx_of_lt hkl
      have e3 : (l.filter (isK kind)).length = ((l.eraseIdx k).filter (isK kind)).length + 1 := by rw [e1]; rfl
      have h := ih _ (show 25 * ((l.eraseIdx k).filter (isK kind)).length + ((l.eraseIdx k).length - 0) < d by omega) (l.eraseIdx k) 0 (got ++ [l[k]]) (v + 1) rfl (by omega) (by omega) (by simp) (fun x hx => hw x ((List.eraseIdx_sublist l k).subset hx)) (by omega) (by simp; omega)
      rw [e1, e2]
      simp only [List.append_assoc, List.singleton_append] at h
      exact h
    · refine Ev.pos (fun e => hc (hrk.1 e)) (Ev.bind (bnext_some l 24 k hkl (by omega)) ?_)
      rw [wrap_succ (by omega)]
      refine ih _ (show 25 * (l.filter (isK kind)).length + (l.length - (k + 1)) < d by omega) l (k + 1) got (v + 1) rfl hl (by omega) (fun x hx => ?_) hw (by omega) hg
      rw [← take_snoc l k hkl] at hx
      rcases List.mem_append.1 hx with hx | hx
      · exact ho x hx
      · simp at hx; subst hx; simpa using hc
  · obtain rfl : k = l.length := by omega
    rw [List.take_length] at ho
    have e1 : l.filter (isK kind) = [] := List.filter_eq_nil_iff.2 (fun x hx => by rw [ho x hx]; simp)
    have e2 : l.filter (fun x => !isK kind x) = l := List.filter_eq_self.2 (fun x hx => by rw [ho x hx]; rfl)
    refine Ev.bind (bat_none l 24 l.length (Nat.le_refl _)) (Ev.pos (by simp) ?_)
    rw [e1, e2, List.append_nil]
    exact Ev.now _
namespace Pure
theorem BoxSelects (x0 : (List Int)) (x1 : Int) (w0 : (ListR (InR .i64)) x0) (w1 : (InR .i64) x1) : ∃ N, beehivelaw15_BoxSelects N x0 x1 = some true := by
  refine Ev.ex (f := fun N => beehivelaw15_BoxSelects N x0 x1) ?_
  have haw : Ev (fun N => (beehivelaw15_awake N).bind fun r3 => some r3) true := Ev.bind awake_ev (Ev.now _)
  by_cases h1 : ((x0.length : Nat) : Int) > 24
  · exact Ev.pos h1 haw
  refine Ev.neg h1 ?_
  obtain ⟨kind, hr, b0, b1, _⟩ := lowE x1 3 w1 (by omega) (by omega)
  refine Ev.bind hr (Ev.bindc (a := some ⟨[], 24, 0⟩) rfl ?_)
  have h0 := selects_l0 kind x0 (by omega) w0.all _ 0 rfl (by omega)
  rw [List.take_zero, List.filter_nil, List.filter_nil] at h0
  have f1 := List.length_filter_le (isK kind) x0
  have f2 := List.length_filter_le (fun x => !isK kind x) x0
  have hm := maxLen_eq
  refine Ev.bind h0 (Ev.bind (selects_l1 kind _ _ x0 0 [] 0 rfl (by omega) (by omega) (by simp) w0.all (by omega) (by simp; omega)) ?_)
  rw [List.nil_append]
  refine Ev.bind (sameInts_ev _ _ (by show (x0.filter _).length ≤ _; omega)) (Ev.pos (by simp) (Ev.bind (ball_ev _ (by show (x0.filter _).length < _; omega)) (Ev.bind (sameInts_ev _ _ (by show (x0.filter _).length ≤ _; omega)) (Ev.pos (by simp) ?_))))
  refine Ev.bind (bmark_ev _) (Ev.pos rfl (Ev.bind (bnext_none _ 24 _ (Nat.le_refl _)) (Ev.pos (by simp) haw)))
end Pure
end Go.Proofs.Ytncpghadgddofaa.Sh
