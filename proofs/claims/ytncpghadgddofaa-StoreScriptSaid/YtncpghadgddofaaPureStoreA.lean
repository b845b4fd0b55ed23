import Derived.Test.YtncpghadgddofaaInv
import Derived.Test.YtncpghadgddofaaLift3
set_option linter.unusedVariables false
set_option linter.unusedSimpArgs false
namespace Go.Proofs.Ytncpghadgddofaa.Sh
open Go Lift Go.Proofs
abbrev noB : ByteArray := ByteArray.mk #[]
theorem awake_ev : Ev (fun N => beehivelaw10_awake N) true := Ev.from 30 (fun N => by kernel_rfl)
theorem new_ev : Ev (fun N => store_New N) (some ⟨[]⟩) := Ev.from 0 (fun N => rfl)
theorem lowE (x n : Int) (hx : InR .i64 x) (h0 : 0 < n) (h1 : n < 9223372036854775808) : ∃ r, Ev (fun N => beehivelaw0_Low N x n) r ∧ 0 ≤ r ∧ r < n := by
  have hu := wrapU_eq x
  have e1 : IntKind.u64.wrap n = n := wrapU n (by omega) (by omega)
  have hp : 0 ≤ IntKind.u64.wrap x := by omega
  have e2 : (IntKind.u64.wrap x).tmod n = IntKind.u64.wrap x % n := Int.tmod_eq_emod_of_nonneg hp
  have b0 := Int.emod_nonneg (IntKind.u64.wrap x) (show n ≠ 0 by omega)
  have b1 := Int.emod_lt_of_pos (IntKind.u64.wrap x) h0
  refine ⟨IntKind.u64.wrap x % n, ?_, b0, b1⟩
  refine Ev.bindc (a := IntKind.u64.wrap x % n) (by rw [e1, rem_eq (by omega), e2]) ?_
  have e3 : IntKind.i64.wrap (IntKind.u64.wrap x % n) = IntKind.u64.wrap x % n := wrapI _ (by omega) (by omega)
  show Ev (fun _ => some (IntKind.i64.wrap (IntKind.u64.wrap x % n))) _
  rw [e3]
  exact Ev.now _

/-! ### The first that is free -/
def freeAt : List Tapi_Slot → Nat → Nat
  | [], i => i
  | x :: xs, i => if x.fCount = 0 then i else freeAt xs (i + 1)
theorem freeAt_le : ∀ (l : List Tapi_Slot) (i : Nat), freeAt l i ≤ i + l.length
  | [], i => by simp [freeAt]
  | x :: xs, i => by
    have := freeAt_le xs (i + 1)
    rw [freeAt, List.length_cons]
    split <;> omega
theorem freeAt_is : ∀ (l : List Tapi_Slot) (i k : Nat), k < l.length → (∀ j x, j < k → l[j]? = some x → x.fCount ≠ 0) → (∀ x, l[k]? = some x → x.fCount = 0) → freeAt l i = i + k
  | [], i, k, h, _, _ => by simp at h
  | x :: xs, i, 0, h, h1, h2 => by rw [freeAt, if_pos (h2 x rfl)]; rfl
  | x :: xs, i, k + 1, h, h1, h2 => by
    rw [freeAt, if_neg (h1 0 x (by omega) rfl), freeAt_is xs (i + 1) k (by simpa using h) (fun j y hj hy => h1 (j + 1) y (by omega) (by simpa using hy)) (fun y hy => h2 y (by simpa using hy))]
    omega
theorem freeAt_none : ∀ (l : List Tapi_Slot) (i : Nat), (∀ x ∈ l, x.fCount ≠ 0) → freeAt l i = i + l.length
  | [], i, _ => rfl
  | x :: xs, i, h => by
    rw [freeAt, if_neg (h x (by simp)), freeAt_none xs (i + 1) (fun y hy => h y (by simp [hy])), List.length_cons]
    omega
theorem index_loop : ∀ (ts l : List Tapi_Slot) (i : Nat), l.drop i = ts → l.length ≤ 100000 → Ev (fun N => slices_IndexFunc_api_Slot_api_Slot_L0 N l i) (if freeAt ts i < l.length then .inr (freeAt ts i : Int) else .inl ())
  | [], l, i, hd, hl => by
    have := drop_end hd
    refine Ev.step ?_ (fun N => by rw [slices_IndexFunc_api_Slot_api_Slot_L0])
    rw [freeAt, if_neg (by omega)]
    exact Ev.neg (by omega) (Ev.now _)
  | x :: xs, l, i, hd, hl => by
    have hlen := drop_len hd
    refine Ev.step ?_ (fun N => by rw [slices_IndexFunc_api_Slot_api_Slot_L0, wrap_succ (by omega)])
    refine Ev.pos (by omega) (Ev.bindc (idx_at hd) (Ev.bind (a := x.fCount == 0) (Ev.now _) ?_))
    rw [freeAt]
    by_cases h : x.fCount = 0
    · rw [if_pos h, if_pos (show i < l.length by omega)]
      exact Ev.pos (by simp [h]) (Ev.now _)
    · rw [if_neg h]
      exact Ev.neg (by simp [h]) (index_loop xs l (i + 1) (drop_next hd) hl)
theorem index_ev (l : List Tapi_Slot) (hl : l.length ≤ 100000) : Ev (fun N => slices_IndexFunc_api_Slot_api_Slot N l) (if freeAt l 0 < l.length then (freeAt l 0 : Int) else -1) := by
  refine Ev.bind (index_loop l l 0 rfl hl) ?_
  by_cases h : freeAt l 0 < l.length
  · rw [if_pos h, if_pos h]; exact Ev.now _
  · rw [if_neg h, if_neg h]; exact Ev.now _

/-! ### Put -/
theorem get_app {α : Type} {l : List α} {y : α} : idx (l ++ [y]) ((l.length : Nat) : Int) = some y := by
  rw [idx_eq (by simp)]
  simp
theorem get_set {α : Type} {l : List α} {y : α} {k : Nat} (h : k < l.length) : idx (l.set ((k : Int).toNat) y) (k : Int) = some y := by
  rw [Int.toNat_natCast, idx_eq (by simpa using h)]
  simp
theorem set_app {α : Type} {l : List α} {x y : α} : (l ++ [x]).set (((l.length : Nat) : Int).toNat) y = l ++ [y] := by
  rw [Int.toNat_natCast, List.set_append_right _ _ (Nat.le_refl _), Nat.sub_self]
  rfl
theorem put_big (l : List Tapi_Slot) (b : ByteArray) (h : b.size > 400) : Ev (fun N => store_Store_Put' N ⟨l⟩ b) (0, 0, 2, ⟨l⟩) := Ev.pos (by omega) (Ev.now _)
theorem put_new (l : List Tapi_Slot) (b : ByteArray) (hb : b.size ≤ 400) (hl : l.length ≤ 1000) (hf : freeAt l 0 = l.length) : Ev (fun N => store_Store_Put' N ⟨l⟩ b) ((l.length : Nat), 1, 0, ⟨l ++ [⟨1, 1, b⟩]⟩) := by
  have hi := index_ev l (by omega)
  rw [hf, if_neg (Nat.lt_irrefl _)] at hi
  have e1 : IntKind.i64.wrap ((0 : Int) + 1) = 1 := by decide
  refine Ev.neg (by omega) (Ev.bind hi (Ev.pos (by decide) ?_))
  refine Ev.bindc (app_eq (by rw [lim_eq]; show l.length + 1 ≤ _; omega)) (Ev.bindc get_app (Ev.bindc get_app ?_))
  refine Ev.bindc (a := ⟨1, 1, b⟩) (by rw [set_app, get_app, e1]) (Ev.bindc (a := ⟨1, 1, b⟩) (by rw [set_app, get_app, e1]) ?_)
  rw [set_app, e1]
  exact Ev.now _
theorem put_old (l : List Tapi_Slot) (b : ByteArray) (hb : b.size ≤ 400) (hl : l.length ≤ 1000) (k : Nat) (hk : k < l.length) (hf : freeAt l 0 = k) : Ev (fun N => store_Store_Put' N ⟨l⟩ b) ((k : Nat), IntKind.i64.wrap (l[k].fStamp + 1), 0, ⟨l.set k ⟨IntKind.i64.wrap (l[k].fStamp + 1), 1, b⟩⟩) := by
  have hi := index_ev l (by omega)
  rw [hf, if_pos hk] at hi
  refine Ev.neg (by omega) (Ev.bind hi (Ev.neg (by omega) (Ev.bindc (idx_eq hk) (Ev.bindc (idx_eq hk) (Ev.bindc (get_set hk) (Ev.bindc (get_set hk) ?_))))))
  rw [Int.toNat_natCast]
  exact Ev.now _

/-! ### Where a handle leads -/
inductive NotHere (l : List Tapi_Slot) (s st : Int) : Int → Prop where
  | low (h : s < 0) : NotHere l s st 4
  | high (h : ¬ s < 0) (h2 : s ≥ ((l.length : Nat) : Int)) : NotHere l s st 4
  | free (k : Nat) (h : k < l.length) (e : s = (k : Int)) (h2 : l[k].fCount = 0) : NotHere l s st 4
  | stale (k : Nat) (h : k < l.length) (e : s = (k : Int)) (h2 : l[k].fCount ≠ 0) (h3 : l[k].fStamp ≠ st) : NotHere l s st 6
structure Here (l : List Tapi_Slot) (s st : Int) (k : Nat) (x : Tapi_Slot) : Prop where
  e : s = (k : Int)
  at_ : l[k]? = some x
  full : x.fCount ≠ 0
  stamp : x.fStamp = st
theorem here_or (l : List Tapi_Slot) (s st : Int) : (∃ k x, Here l s st k x) ∨ ∃ e, NotHere l s st e := by
  by_cases h0 : s < 0
  · exact .inr ⟨4, .low h0⟩
  · by_cases h1 : s ≥ ((l.length : Nat) : Int)
    · exact .inr ⟨4, .high h0 h1⟩
    · obtain ⟨k, rfl⟩ := Int.eq_ofNat_of_zero_le (show 0 ≤ s by omega)
      have hk : k < l.length := by omega
      by_cases h2 : l[k].fCount = 0
      · exact .inr ⟨4, .free k hk rfl h2⟩
      · by_cases h3 : l[k].fStamp = st
        · exact .inl ⟨k, l[k], rfl, List.getElem?_eq_getElem hk, h2, h3⟩
        · exact .inr ⟨6, .stale k hk rfl h2 h3⟩
theorem NotHere.ne {l : List Tapi_Slot} {s st e : Int} (h : NotHere l s st e) : e ≠ 0 := by cases h <;> decide
theorem Here.lt {l : List Tapi_Slot} {s st : Int} {k : Nat} {x : Tapi_Slot} (h : Here l s st k x) : k < l.length := (List.getElem?_eq_some_iff.1 h.at_).1
theorem Here.idx {l : List Tapi_Slot} {s st : Int} {k : Nat} {x : Tapi_Slot} (h : Here l s st k x) : idx l (k : Int) = some x := by
  rw [idx_eq h.lt, (List.getElem?_eq_some_iff.1 h.at_).2]
theorem get_here {l : List Tapi_Slot} {s st : Int} {k : Nat} {x : Tapi_Slot} (h : Here l s st k x) : Ev (fun N => store_Store_Get' N ⟨l⟩ s st) (x.fBytes, 0, ⟨l⟩) := by
  have hk := h.lt
  obtain rfl := h.e
  exact Ev.neg (by omega) (Ev.neg (by show ¬ ((k : Int) ≥ ((l.length : Nat) : Int)); omega) (Ev.bindc h.idx (Ev.neg h.full (Ev.bindc h.idx (Ev.neg (by simpa using h.stamp) (Ev.bindc h.idx (Ev.neg (by decide) (Ev.now _))))))))
theorem get_not {l : List Tapi_Slot} {s st e : Int} (h : NotHere l s st e) : Ev (fun N => store_Store_Get' N ⟨l⟩ s st) (noB, e, ⟨l⟩) := by
  cases h with
  | low h => exact Ev.pos h (Ev.pos (by decide) (Ev.now _))
  | high h h2 => exact Ev.neg h (Ev.pos h2 (Ev.pos (by decide) (Ev.now _)))
  | free k hk e h2 =>
    subst e
    exact Ev.neg (by omega) (Ev.neg (by show ¬ ((k : Int) ≥ ((l.length : Nat) : Int)); omega) (Ev.bindc (idx_eq hk) (Ev.pos h2 (Ev.pos (by decide) (Ev.now _)))))
  | stale k hk e h2 h3 =>
    subst e
    exact Ev.neg (by omega) (Ev.neg (by show ¬ ((k : Int) ≥ ((l.length : Nat) : Int)); omega) (Ev.bindc (idx_eq hk) (Ev.neg h2 (Ev.bindc (idx_eq hk) (Ev.pos h3 (Ev.pos (by decide) (Ev.now _)))))))
def incL (l : List Tapi_Slot) (k : Nat) (x : Tapi_Slot) : List Tapi_Slot := l.set k ⟨x.fStamp, x.fCount + 1, x.fBytes⟩
def decL (l : List Tapi_Slot) (k : Nat) (x : Tapi_Slot) : List Tapi_Slot := if x.fCount = 1 then l.set k ⟨x.fStamp, 0, noB⟩ else l.set k ⟨x.fStamp, x.fCount - 1, x.fBytes⟩
theorem inc_here {l : List Tapi_Slot} {s st : Int} {k : Nat} {x : Tapi_Slot} (h : Here l s st k x) (h0 : 0 ≤ x.fCount) (h1 : x.fCount ≤ 1000) : Ev (fun N => store_Store_Inc' N ⟨l⟩ s st) (0, ⟨incL l k x⟩) := by
  have hk := h.lt
  obtain rfl := h.e
  refine Ev.neg (by omega) (Ev.neg (by show ¬ ((k : Int) ≥ ((l.length : Nat) : Int)); omega) (Ev.bindc h.idx (Ev.neg h.full (Ev.bindc h.idx (Ev.neg (by simpa using h.stamp) (Ev.bindc h.idx (Ev.pos rfl ?_)))))))
  rw [wrapI _ (by omega) (by omega), Int.toNat_natCast]
  exact Ev.now _
theorem inc_not {l : List Tapi_Slot} {s st e : Int} (h : NotHere l s st e) : Ev (fun N => store_Store_Inc' N ⟨l⟩ s st) (e, ⟨l⟩) := by
  cases h with
  | low h => exact Ev.pos h (Ev.neg (by decide) (Ev.now _))
  | high h h2 => exact Ev.neg h (Ev.pos h2 (Ev.neg (by decide) (Ev.now _)))
  | free k hk e h2 =>
    subst e
    exact Ev.neg (by omega) (Ev.neg (by show ¬ ((k : Int) ≥ ((l.length : Nat) : Int)); omega) (Ev.bindc (idx_eq hk) (Ev.pos h2 (Ev.neg (by decide) (Ev.now _)))))
  | stale k hk e h2 h3 =>
    subst e
    exact Ev.neg (by omega) (Ev.neg (by show ¬ ((k : Int) ≥ ((l.length : Nat) : Int)); omega) (Ev.bindc (idx_eq hk) (Ev.neg h2 (Ev.bindc (idx_eq hk) (Ev.pos h3 (Ev.neg (by decide) (Ev.now _)))))))
theorem dec_here {l : List Tapi_Slot} {s st : Int} {k : Nat} {x : Tapi_Slot} (h : Here l s st k x) (h0 : 0 ≤ x.fCount) (h1 : x.fCount ≤ 1000) : Ev (fun N => store_Store_Dec' N ⟨l⟩ s st) (0, ⟨decL l k x⟩) := by
  have hk := h.lt
  obtain rfl := h.e
  have hw : IntKind.i64.wrap (x.fCount - 1) = x.fCount - 1 := wrapI _ (by omega) (by omega)
  refine Ev.neg (by omega) (Ev.neg (by show ¬ ((k : Int) ≥ ((l.length : Nat) : Int)); omega) (Ev.bindc h.idx (Ev.neg h.full (Ev.bindc h.idx (Ev.neg (by simpa using h.stamp) (Ev.bindc h.idx (Ev.neg (by decide) ?_)))))))
  rw [hw, Int.toNat_natCast, List.set_set]
  unfold decL
  by_cases hc : x.fCount = 1
  · rw [if_pos hc]
    refine Ev.pos (show x.fCount - 1 = 0 by omega) ?_
    show Ev (fun _ => some ((0 : Int), (Tstore_Store.mk (l.set k ⟨x.fStamp, x.fCount - 1, noB⟩)))) _
    rw [show x.fCount - 1 = 0 by omega]
    exact Ev.now _
  · rw [if_neg hc]
    exact Ev.neg (show ¬ (x.fCount - 1 = 0) by omega) (Ev.now _)
theorem dec_not {l : List Tapi_Slot} {s st e : Int} (h : NotHere l s st e) : Ev (fun N => store_Store_Dec' N ⟨l⟩ s st) (e, ⟨l⟩) := by
  cases h with
  | low h => exact Ev.pos h (Ev.pos (by decide) (Ev.now _))
  | high h h2 => exact Ev.neg h (Ev.pos h2 (Ev.pos (by decide) (Ev.now _)))
  | free k hk e h2 =>
    subst e
    exact Ev.neg (by omega) (Ev.neg (by show ¬ ((k : Int) ≥ ((l.length : Nat) : Int)); omega) (Ev.bindc (idx_eq hk) (Ev.pos h2 (Ev.pos (by decide) (Ev.now _)))))
  | stale k hk e h2 h3 =>
    subst e
    exact Ev.neg (by omega) (Ev.neg (by show ¬ ((k : Int) ≥ ((l.length : Nat) : Int)); omega) (Ev.bindc (idx_eq hk) (Ev.neg h2 (Ev.bindc (idx_eq hk) (Ev.pos h3 (Ev.pos (by decide) (Ev.now _)))))))

/-! ### All of them -/
theorem clone_ev (l : List Tapi_Slot) (hl : l.length ≤ 100000) : Ev (fun N => slices_Clone_api_Slot_api_Slot_all N l) l := by
  cases l with
  | nil => exact Ev.now _
  | cons x xs => exact Ev.bindc (app_eq (by rw [lim_eq]; simp at hl ⊢; omega)) (Ev.now _)
theorem slots_ev (l : List Tapi_Slot) (hl : l.length ≤ 100000) : Ev (fun N => store_Store_Slots' N ⟨l⟩) (l, ⟨l⟩) := Ev.bind (clone_ev l hl) (Ev.now _)
/-- How many are not free. -/
def cnz : List Tapi_Slot → Nat
  | [] => 0
  | x :: xs => (if x.fCount = 0 then 0 else 1) + cnz xs
theorem cnz_le : ∀ l : List Tapi_Slot, cnz l ≤ l.length
  | [] => Nat.le_refl 0
  | x :: xs => by have := cnz_le xs; rw [cnz, List.length_cons]; split <;> omega
theorem len_loop (s : Tstore_Store) : ∀ (ts l : List Tapi_Slot) (v i : Nat), l.drop i = ts → l.length ≤ 100000 → v ≤ i → (∀ x ∈ ts, 0 ≤ x.fCount) → Ev (fun N => store_Store_Len'_L0 N (l, s) (v : Nat) i) ((v + cnz ts : Nat) : Int)
  | [], l, v, i, hd, hl, hv, h0 => by
    have := drop_end hd
    refine Ev.step ?_ (fun N => by rw [store_Store_Len'_L0])
    exact Ev.neg (by show ¬ ((i : Int) < ((l.length : Nat) : Int)); omega) (Ev.now _)
  | x :: xs, l, v, i, hd, hl, hv, h0 => by
    have hlen := drop_len hd
    have hx := h0 x (by simp)
    have hs : IntKind.i64.wrap ((v : Int) + (if (1 : Int) < x.fCount then (1 : Int) else x.fCount)) = ((v + (if x.fCount = 0 then 0 else 1) : Nat) : Int) := by
      split <;> split <;> rw [wrapI _ (by omega) (by omega)] <;> omega
    refine Ev.step ?_ (fun N => by rw [store_Store_Len'_L0, wrap_succ (by omega)])
    refine Ev.pos (by show ((i : Int) < ((l.length : Nat) : Int)); omega) (Ev.bindc (idx_at hd) ?_)
    rw [hs]
    have h := len_loop s xs l (v + (if x.fCount = 0 then 0 else 1)) (i + 1) (drop_next hd) hl (by split <;> omega) (fun y hy => h0 y (by simp [hy]))
    rw [cnz, ← Nat.add_assoc]
    exact h
theorem len_ev (l : List Tapi_Slot) (hl : l.length ≤ 100000) (h0 : ∀ x ∈ l, 0 ≤ x.fCount) : Ev (fun N => store_Store_Len' N ⟨l⟩) ((cnz l : Nat), ⟨l⟩) := by
  have h := len_loop ⟨l⟩ l l 0 0 rfl hl (Nat.le_refl _) h0
  rw [Nat.zero_add] at h
  exact Ev.bind (slots_ev l hl) (Ev.bind h (Ev.now _))
/-- How many bytes, by the machine. -/
def bytesV : List Tapi_Slot → Int → Int
  | [], v => v
  | x :: xs, v => bytesV xs (IntKind.i64.wrap (v + ((x.fBytes.size : Nat) : Int)))
def bsum : List Tapi_Slot → Nat
  | [] => 0
  | x :: xs => x.fBytes.size + bsum xs
theorem bytesV_sum : ∀ (l : List Tapi_Slot) (v : Nat), v + bsum l ≤ 1000000000 → bytesV l (v : Nat) = ((v + bsum l : Nat) : Int)
  | [], v, h => rfl
  | x :: xs, v, h => by
    rw [bsum] at h
    rw [bytesV, wrapI _ (by omega) (by omega), show (v : Int) + ((x.fBytes.size : Nat) : Int) = ((v + x.fBytes.size : Nat) : Int) by omega, bytesV_sum xs _ (by omega), bsum, Nat.add_assoc]
theorem bytes_loop (s : Tstore_Store) : ∀ (ts l : List Tapi_Slot) (v : Int) (i : Nat), l.drop i = ts → l.length ≤ 100000 → Ev (fun N => store_Store_Bytes'_L0 N (l, s) v i) (bytesV ts v)
  | [], l, v, i, hd, hl => by
    have := drop_end hd
    refine Ev.step ?_ (fun N => by rw [store_Store_Bytes'_L0])
    exact Ev.neg (by show ¬ ((i : Int) < ((l.length : Nat) : Int)); omega) (Ev.now _)
  | x :: xs, l, v, i, hd, hl => by
    have hlen := drop_len hd
    refine Ev.step ?_ (fun N => by rw [store_Store_Bytes'_L0, wrap_succ (by omega)])
    exact Ev.pos (by show ((i : Int) < ((l.length : Nat) : Int)); omega) (Ev.bindc (idx_at hd) (bytes_loop s xs l _ (i + 1) (drop_next hd) hl))
theorem bytes_ev (l : List Tapi_Slot) (hl : l.length ≤ 100000) : Ev (fun N => store_Store_Bytes' N ⟨l⟩) (bytesV l 0, ⟨l⟩) :=
  Ev.bind (slots_ev l hl) (Ev.bind (bytes_loop ⟨l⟩ l l 0 0 rfl hl) (Ev.now _))
end Go.Proofs.Ytncpghadgddofaa.Sh
