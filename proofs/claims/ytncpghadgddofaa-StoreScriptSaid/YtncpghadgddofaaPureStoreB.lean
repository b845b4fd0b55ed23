import Derived.Test.YtncpghadgddofaaPureStoreA
set_option linter.unusedVariables false
set_option linter.unusedSimpArgs false
namespace Go.Proofs.Ytncpghadgddofaa.Sh
open Go Lift Go.Proofs
/-! ### The document's own -/
theorem rput_loop (b : ByteArray) : ∀ (ts l : List Tapi_Slot) (i : Nat), l.drop i = ts → l.length ≤ 100000 → i ≤ l.length → (∀ x ∈ ts, 0 ≤ x.fCount) → Ev (fun N => beehiveref10_Store_Put_L0 N ⟨l⟩ b (i : Nat)) ((freeAt ts i : Nat) : Int)
  | [], l, i, hd, hl, hi, h0 => by
    have := drop_end hd
    refine Ev.step ?_ (fun N => by rw [beehiveref10_Store_Put_L0])
    exact Ev.neg (by show ¬ ((i : Int) < ((l.length : Nat) : Int)); omega) (Ev.now _)
  | x :: xs, l, i, hd, hl, hi, h0 => by
    have hlen := drop_len hd
    have hx := h0 x (by simp)
    refine Ev.step ?_ (fun N => by rw [beehiveref10_Store_Put_L0, wrap_succ (by omega)])
    refine Ev.pos (by show ((i : Int) < ((l.length : Nat) : Int)); omega) (Ev.bindc (idx_at hd) ?_)
    rw [freeAt]
    by_cases h : x.fCount = 0
    · rw [if_pos h]
      exact Ev.neg (by omega) (Ev.now _)
    · rw [if_neg h]
      exact Ev.pos (by omega) (rput_loop b xs l (i + 1) (drop_next hd) hl (by omega) (fun y hy => h0 y (by simp [hy])))
theorem rput_big (l : List Tapi_Slot) (b : ByteArray) (h : b.size > 400) : Ev (fun N => beehiveref10_Store_Put N ⟨l⟩ b) (0, 0, 2, ⟨l⟩) := Ev.pos (by omega) (Ev.now _)
theorem rput_new (l : List Tapi_Slot) (b : ByteArray) (hb : b.size ≤ 400) (hl : l.length ≤ 1000) (h0 : ∀ x ∈ l, 0 ≤ x.fCount) (hf : freeAt l 0 = l.length) : Ev (fun N => beehiveref10_Store_Put N ⟨l⟩ b) ((l.length : Nat), 1, 0, ⟨l ++ [⟨1, 1, b⟩]⟩) := by
  have hi := rput_loop b l l 0 rfl (by omega) (by omega) h0
  rw [hf] at hi
  have e1 : IntKind.i64.wrap ((0 : Int) + 1) = 1 := by decide
  refine Ev.neg (by omega) (Ev.bind hi (Ev.pos rfl ?_))
  refine Ev.bindc (app0_eq (by rw [lim_eq]; show l.length ≤ _; omega)) (Ev.bindc (app_eq (by rw [lim_eq]; show l.length + 1 ≤ _; omega)) (Ev.bindc get_app (Ev.bindc get_app ?_)))
  refine Ev.bindc (a := ⟨1, 1, b⟩) (by show idx ((l ++ [_]).set _ _) _ = _; rw [set_app, get_app, e1]) (Ev.bindc (a := ⟨1, 1, b⟩) (by show idx ((l ++ [_]).set _ _) _ = _; rw [set_app, get_app, e1]) ?_)
  rw [set_app, e1]
  exact Ev.now _
theorem rput_old (l : List Tapi_Slot) (b : ByteArray) (hb : b.size ≤ 400) (hl : l.length ≤ 1000) (h0 : ∀ x ∈ l, 0 ≤ x.fCount) (k : Nat) (hk : k < l.length) (hf : freeAt l 0 = k) : Ev (fun N => beehiveref10_Store_Put N ⟨l⟩ b) ((k : Nat), IntKind.i64.wrap (l[k].fStamp + 1), 0, ⟨l.set k ⟨IntKind.i64.wrap (l[k].fStamp + 1), 1, b⟩⟩) := by
  have hi := rput_loop b l l 0 rfl (by omega) (by omega) h0
  rw [hf] at hi
  refine Ev.neg (by omega) (Ev.bind hi (Ev.neg (by show ¬ ((k : Int) = ((l.length : Nat) : Int)); omega) (Ev.bindc (idx_eq hk) (Ev.bindc (idx_eq hk) (Ev.bindc (get_set hk) (Ev.bindc (get_set hk) ?_))))))
  rw [Int.toNat_natCast]
  exact Ev.now _
theorem rfind_here {l : List Tapi_Slot} {s st : Int} {k : Nat} {x : Tapi_Slot} (h : Here l s st k x) : Ev (fun N => beehiveref10_Store_Find N ⟨l⟩ s st) (0, ⟨l⟩) := by
  have hk := h.lt
  obtain rfl := h.e
  have hB : Ev (fun N => beehiveref10_Store_Find_B0 N ⟨l⟩ (k : Int) st) false := by
    refine Ev.step ?_ (fun N => by rw [beehiveref10_Store_Find_B0])
    refine Ev.neg (by omega) (Ev.neg (by show ¬ ((k : Int) ≥ ((l.length : Nat) : Int)); omega) (Ev.bindc h.idx ?_))
    rw [show (x.fCount == 0) = false by simpa using h.full]
    exact Ev.now _
  exact Ev.bind hB (Ev.neg (by simp) (Ev.bindc h.idx (Ev.neg (by simpa using h.stamp) (Ev.now _))))
theorem rfind_not {l : List Tapi_Slot} {s st e : Int} (h : NotHere l s st e) : Ev (fun N => beehiveref10_Store_Find N ⟨l⟩ s st) (e, ⟨l⟩) := by
  cases h with
  | low h =>
    refine Ev.bind (a := true) ?_ (Ev.pos rfl (Ev.now _))
    refine Ev.step ?_ (fun N => by rw [beehiveref10_Store_Find_B0])
    exact Ev.pos h (Ev.now _)
  | high h h2 =>
    refine Ev.bind (a := true) ?_ (Ev.pos rfl (Ev.now _))
    refine Ev.step ?_ (fun N => by rw [beehiveref10_Store_Find_B0])
    exact Ev.neg h (Ev.pos h2 (Ev.now _))
  | free k hk e h2 =>
    subst e
    refine Ev.bind (a := true) ?_ (Ev.pos rfl (Ev.now _))
    refine Ev.step ?_ (fun N => by rw [beehiveref10_Store_Find_B0])
    refine Ev.neg (by omega) (Ev.neg (by show ¬ ((k : Int) ≥ ((l.length : Nat) : Int)); omega) (Ev.bindc (idx_eq hk) ?_))
    rw [show (l[k].fCount == 0) = true by simpa using h2]
    exact Ev.now _
  | stale k hk e h2 h3 =>
    subst e
    refine Ev.bind (a := false) ?_ (Ev.neg (by simp) (Ev.bindc (idx_eq hk) (Ev.pos h3 (Ev.now _))))
    refine Ev.step ?_ (fun N => by rw [beehiveref10_Store_Find_B0])
    refine Ev.neg (by omega) (Ev.neg (by show ¬ ((k : Int) ≥ ((l.length : Nat) : Int)); omega) (Ev.bindc (idx_eq hk) ?_))
    rw [show (l[k].fCount == 0) = false by simpa using h2]
    exact Ev.now _
theorem rcount_not {l : List Tapi_Slot} {s st e : Int} (d : Int) (h : NotHere l s st e) : Ev (fun N => beehiveref10_Store_Count N ⟨l⟩ s st d) (e, ⟨l⟩) :=
  Ev.bind (rfind_not h) (Ev.pos h.ne (Ev.now _))
theorem rinc_here {l : List Tapi_Slot} {s st : Int} {k : Nat} {x : Tapi_Slot} (h : Here l s st k x) (h0 : 0 ≤ x.fCount) (h1 : x.fCount ≤ 1000) : Ev (fun N => beehiveref10_Store_Count N ⟨l⟩ s st 1) (0, ⟨incL l k x⟩) := by
  refine Ev.bind (rfind_here h) (Ev.neg (by simp) ?_)
  have hk := h.lt
  obtain rfl := h.e
  refine Ev.bindc h.idx (Ev.bindc h.idx (Ev.bindc (get_set hk) (Ev.neg ?_ ?_)))
  · show ¬ (IntKind.i64.wrap (x.fCount + 1) = 0)
    rw [wrapI _ (by omega) (by omega)]; omega
  · rw [wrapI _ (by omega) (by omega), Int.toNat_natCast]
    exact Ev.now _
theorem rdec_here {l : List Tapi_Slot} {s st : Int} {k : Nat} {x : Tapi_Slot} (h : Here l s st k x) (h0 : 0 ≤ x.fCount) (h1 : x.fCount ≤ 1000) : Ev (fun N => beehiveref10_Store_Count N ⟨l⟩ s st (-1)) (0, ⟨decL l k x⟩) := by
  refine Ev.bind (rfind_here h) (Ev.neg (by simp) ?_)
  have hk := h.lt
  obtain rfl := h.e
  have hw : IntKind.i64.wrap (x.fCount + -1) = x.fCount - 1 := wrapI _ (by omega) (by omega)
  refine Ev.bindc h.idx (Ev.bindc h.idx (Ev.bindc (get_set hk) ?_))
  unfold decL
  by_cases hc : x.fCount = 1
  · rw [if_pos hc]
    refine Ev.pos (show IntKind.i64.wrap (x.fCount + -1) = 0 by rw [hw]; omega) (Ev.bindc (get_set hk) ?_)
    rw [hw, Int.toNat_natCast, List.set_set, show x.fCount - 1 = 0 by omega]
    exact Ev.now _
  · rw [if_neg hc]
    refine Ev.neg (show ¬ (IntKind.i64.wrap (x.fCount + -1) = 0) by rw [hw]; omega) ?_
    rw [hw, Int.toNat_natCast]
    exact Ev.now _
theorem rlen_loop : ∀ (ts l : List Tapi_Slot) (v i : Nat), l.drop i = ts → l.length ≤ 100000 → v ≤ i → (∀ x ∈ ts, 0 ≤ x.fCount) → Ev (fun N => beehiveref10_Store_Len_L0 N ⟨l⟩ (v : Nat) i) ((v + cnz ts : Nat) : Int)
  | [], l, v, i, hd, hl, hv, h0 => by
    have := drop_end hd
    refine Ev.step ?_ (fun N => by rw [beehiveref10_Store_Len_L0])
    exact Ev.neg (by show ¬ ((i : Int) < ((l.length : Nat) : Int)); omega) (Ev.now _)
  | x :: xs, l, v, i, hd, hl, hv, h0 => by
    have hlen := drop_len hd
    have hx := h0 x (by simp)
    refine Ev.step ?_ (fun N => by rw [beehiveref10_Store_Len_L0, wrap_succ (i := i) (by omega), wrap_succ (i := v) (by omega)])
    refine Ev.pos (by show ((i : Int) < ((l.length : Nat) : Int)); omega) (Ev.bindc (idx_at hd) ?_)
    rw [cnz]
    by_cases h : x.fCount = 0
    · rw [if_pos h, Nat.zero_add]
      exact Ev.neg (by omega) (rlen_loop xs l v (i + 1) (drop_next hd) hl (by omega) (fun y hy => h0 y (by simp [hy])))
    · rw [if_neg h, ← Nat.add_assoc]
      exact Ev.pos (by omega) (rlen_loop xs l (v + 1) (i + 1) (drop_next hd) hl (by omega) (fun y hy => h0 y (by simp [hy])))
theorem rlen_ev (l : List Tapi_Slot) (hl : l.length ≤ 100000) (h0 : ∀ x ∈ l, 0 ≤ x.fCount) : Ev (fun N => beehiveref10_Store_Len N ⟨l⟩) ((cnz l : Nat), ⟨l⟩) := by
  have h := rlen_loop l l 0 0 rfl hl (Nat.le_refl _) h0
  rw [Nat.zero_add] at h
  exact Ev.bind h (Ev.now _)
theorem rbytes_loop : ∀ (ts l : List Tapi_Slot) (v : Int) (i : Nat), l.drop i = ts → l.length ≤ 100000 → Ev (fun N => beehiveref10_Store_Bytes_L0 N ⟨l⟩ v i) (bytesV ts v)
  | [], l, v, i, hd, hl => by
    have := drop_end hd
    refine Ev.step ?_ (fun N => by rw [beehiveref10_Store_Bytes_L0])
    exact Ev.neg (by show ¬ ((i : Int) < ((l.length : Nat) : Int)); omega) (Ev.now _)
  | x :: xs, l, v, i, hd, hl => by
    have hlen := drop_len hd
    refine Ev.step ?_ (fun N => by rw [beehiveref10_Store_Bytes_L0, wrap_succ (by omega)])
    exact Ev.pos (by show ((i : Int) < ((l.length : Nat) : Int)); omega) (Ev.bindc (idx_at hd) (rbytes_loop xs l _ (i + 1) (drop_next hd) hl))
theorem rbytes_ev (l : List Tapi_Slot) (hl : l.length ≤ 100000) : Ev (fun N => beehiveref10_Store_Bytes N ⟨l⟩) (bytesV l 0, ⟨l⟩) := Ev.bind (rbytes_loop l l 0 0 rfl hl) (Ev.now _)

/-! ### Held against each other -/
theorem same_loop : ∀ (ts l : List Tapi_Slot) (i : Nat), l.drop i = ts → l.length ≤ 100000 → Ev (fun N => beehivelaw0_SameSlots_L0 N l l (i : Nat)) (.inl ())
  | [], l, i, hd, hl => by
    have := drop_end hd
    refine Ev.step ?_ (fun N => by rw [beehivelaw0_SameSlots_L0])
    exact Ev.neg (by omega) (Ev.now _)
  | x :: xs, l, i, hd, hl => by
    have hlen := drop_len hd
    refine Ev.step ?_ (fun N => by rw [beehivelaw0_SameSlots_L0, wrap_succ (by omega)])
    have hx : eq_Tapi_Slot x x = true := eq_Tapi_Slot_iff.2 rfl
    exact Ev.pos (by omega) (Ev.bindc (idx_at hd) (Ev.bindc (idx_at hd) (Ev.neg (by rw [hx]; simp) (same_loop xs l (i + 1) (drop_next hd) hl))))
theorem same_self (l : List Tapi_Slot) (hl : l.length ≤ 100000) : Ev (fun N => beehivelaw0_SameSlots N l l) true :=
  Ev.neg (by simp) (Ev.bind (same_loop l l 0 rfl hl) (Ev.now _))
theorem over_loop : ∀ (n : Nat) (a : List Tapi_Slot) (i : Nat), a.length - i = n → a.length ≤ 100000 → ∃ b, Ev (fun N => beehivelaw0_OverSlots_L0 N a (i : Nat)) b ∧ b.length = a.length
  | 0, a, i, hn, hm => by
    refine ⟨a, ?_, rfl⟩
    refine Ev.step ?_ (fun N => by rw [beehivelaw0_OverSlots_L0])
    exact Ev.neg (by omega) (Ev.now _)
  | n + 1, a, i, hn, hm => by
    obtain ⟨b, hb, hl⟩ := over_loop n (a.set i ⟨-9, 0, noB⟩) (i + 1) (by simp; omega) (by simp; omega)
    refine ⟨b, ?_, by simpa using hl⟩
    refine Ev.step ?_ (fun N => by rw [beehivelaw0_OverSlots_L0, wrap_succ (by omega), Int.toNat_natCast])
    exact Ev.pos (by omega) (Ev.bindc (idx_eq (by omega)) hb)
theorem over_ev (a : List Tapi_Slot) (hl : a.length ≤ 1000) : Ev (fun N => beehivelaw0_OverSlots N a) () := by
  obtain ⟨b, hb, hbl⟩ := over_loop _ a 0 rfl (by omega)
  exact Ev.bind hb (Ev.bindc (app_eq (by rw [lim_eq]; show b.length + 1 ≤ _; omega)) (Ev.now _))
end Go.Proofs.Ytncpghadgddofaa.Sh
