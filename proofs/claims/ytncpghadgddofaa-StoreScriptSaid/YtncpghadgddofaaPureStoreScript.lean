import Derived.Test.YtncpghadgddofaaPureStoreB
set_option linter.unusedVariables false
set_option linter.unusedSimpArgs false
namespace Go.Proofs.Ytncpghadgddofaa.Sh
open Go Lift Go.Proofs
/-- A store after so many acts. -/
structure Good (l : List Tapi_Slot) (n : Nat) : Prop where
  len : l.length ≤ n
  pos : ∀ x ∈ l, 0 ≤ x.fCount
  few : ∀ x ∈ l, x.fCount ≤ n
theorem Good.more {l : List Tapi_Slot} {n : Nat} (h : Good l n) : Good l (n + 1) := ⟨by have := h.len; omega, h.pos, fun x hx => by have := h.few x hx; omega⟩
theorem Good.set {l : List Tapi_Slot} {n k : Nat} (h : Good l n) {y : Tapi_Slot} (h0 : 0 ≤ y.fCount) (h1 : y.fCount ≤ ((n + 1 : Nat) : Int)) : Good (l.set k y) (n + 1) := by
  refine ⟨by have := h.len; simp; omega, fun x hx => ?_, fun x hx => ?_⟩
  · rcases List.mem_or_eq_of_mem_set hx with hx | rfl
    · exact h.pos x hx
    · exact h0
  · rcases List.mem_or_eq_of_mem_set hx with hx | rfl
    · have := h.few x hx; omega
    · exact h1
theorem Good.put {l : List Tapi_Slot} {n : Nat} (h : Good l n) (y : Tapi_Slot) (h1 : y.fCount = 1) : Good (l ++ [y]) (n + 1) := by
  refine ⟨by have := h.len; simp; omega, fun x hx => ?_, fun x hx => ?_⟩
  · rcases List.mem_append.1 hx with hx | hx
    · exact h.pos x hx
    · simp only [List.mem_singleton] at hx; subst hx; omega
  · rcases List.mem_append.1 hx with hx | hx
    · have := h.few x hx; omega
    · simp only [List.mem_singleton] at hx; subst hx; omega
theorem put_both {l : List Tapi_Slot} {n : Nat} (h : Good l n) (hn : n ≤ 100) (b : ByteArray) : ∃ i st e l', Ev (fun N => store_Store_Put' N ⟨l⟩ b) (i, st, e, ⟨l'⟩) ∧ Ev (fun N => beehiveref10_Store_Put N ⟨l⟩ b) (i, st, e, ⟨l'⟩) ∧ Good l' (n + 1) := by
  have hl := h.len
  by_cases hb : b.size > 400
  · exact ⟨_, _, _, _, put_big l b hb, rput_big l b hb, h.more⟩
  · have hle := freeAt_le l 0
    by_cases hf : freeAt l 0 = l.length
    · exact ⟨_, _, _, _, put_new l b (by omega) (by omega) hf, rput_new l b (by omega) (by omega) h.pos hf, h.put _ rfl⟩
    · have hk : freeAt l 0 < l.length := by omega
      exact ⟨_, _, _, _, put_old l b (by omega) (by omega) _ hk rfl, rput_old l b (by omega) (by omega) h.pos _ hk rfl, h.set (by show (0 : Int) ≤ 1; decide) (by show (1 : Int) ≤ ((n + 1 : Nat) : Int); omega)⟩
theorem Here.mem {l : List Tapi_Slot} {s st : Int} {k : Nat} {x : Tapi_Slot} (h : Here l s st k x) : x ∈ l := List.mem_of_getElem? h.at_
theorem inc_both {l : List Tapi_Slot} {n : Nat} (h : Good l n) (hn : n ≤ 100) (s st : Int) : ∃ e l', Ev (fun N => store_Store_Inc' N ⟨l⟩ s st) (e, ⟨l'⟩) ∧ Ev (fun N => beehiveref10_Store_Count N ⟨l⟩ s st 1) (e, ⟨l'⟩) ∧ Good l' (n + 1) := by
  rcases here_or l s st with ⟨k, x, hx⟩ | ⟨e, he⟩
  · have h0 := h.pos x hx.mem
    have h1 := h.few x hx.mem
    exact ⟨_, _, inc_here hx h0 (by omega), rinc_here hx h0 (by omega), h.set (by show (0 : Int) ≤ x.fCount + 1; omega) (by show x.fCount + 1 ≤ ((n + 1 : Nat) : Int); omega)⟩
  · exact ⟨_, _, inc_not he, rcount_not 1 he, h.more⟩
theorem dec_both {l : List Tapi_Slot} {n : Nat} (h : Good l n) (hn : n ≤ 100) (s st : Int) : ∃ e l', Ev (fun N => store_Store_Dec' N ⟨l⟩ s st) (e, ⟨l'⟩) ∧ Ev (fun N => beehiveref10_Store_Count N ⟨l⟩ s st (-1)) (e, ⟨l'⟩) ∧ Good l' (n + 1) := by
  rcases here_or l s st with ⟨k, x, hx⟩ | ⟨e, he⟩
  · have h0 := h.pos x hx.mem
    have h1 := h.few x hx.mem
    have h2 := hx.full
    refine ⟨_, _, dec_here hx h0 (by omega), rdec_here hx h0 (by omega), ?_⟩
    unfold decL
    split
    · exact h.set (Int.le_refl 0) (by show (0 : Int) ≤ ((n + 1 : Nat) : Int); omega)
    · exact h.set (by show (0 : Int) ≤ x.fCount - 1; omega) (by show x.fCount - 1 ≤ ((n + 1 : Nat) : Int); omega)
  · exact ⟨_, _, dec_not he, rcount_not (-1) he, h.more⟩
theorem act_ev (p0 : List Tlaw10_Act) (v5 : Int) (x : Tlaw10_Act) {l : List Tapi_Slot} {n : Nat} (h : Good l n) (hn : n ≤ 100) : ∃ l', Ev (fun N => beehivelaw10_StoreScript_B2 N p0 l l v5 x) (l', l', true) ∧ Good l' (n + 1) := by
  by_cases h0 : x.fDo = 0
  · obtain ⟨i, st, e, l', e1, e2, hg⟩ := put_both h hn x.fBytes
    refine ⟨l', ?_, hg⟩
    refine Ev.step ?_ (fun N => by rw [beehivelaw10_StoreScript_B2])
    refine Ev.pos h0 (Ev.bind e1 (Ev.bind e2 (Ev.pos rfl (Ev.pos rfl (Ev.bind (a := e) (Ev.now _) ?_)))))
    show Ev (fun _ => some (l', l', (e == e))) _
    rw [beq_self_eq_true]
    exact Ev.now _
  · by_cases h1 : x.fDo = 1
    · obtain ⟨e, l', e1, e2, hg⟩ := inc_both h hn x.fSlot x.fStamp
      refine ⟨l', ?_, hg⟩
      refine Ev.step ?_ (fun N => by rw [beehivelaw10_StoreScript_B2])
      refine Ev.neg h0 (Ev.pos h1 (Ev.bind e1 (Ev.bind (a := e) (Ev.now _) (Ev.bind e2 ?_))))
      show Ev (fun _ => some (l', l', (e == e))) _
      rw [beq_self_eq_true]
      exact Ev.now _
    · by_cases h2 : x.fDo = 2
      · obtain ⟨e, l', e1, e2, hg⟩ := dec_both h hn x.fSlot x.fStamp
        refine ⟨l', ?_, hg⟩
        refine Ev.step ?_ (fun N => by rw [beehivelaw10_StoreScript_B2])
        refine Ev.neg h0 (Ev.neg h1 (Ev.pos h2 (Ev.bind e1 (Ev.bind (a := e) (Ev.now _) (Ev.bind e2 ?_)))))
        show Ev (fun _ => some (l', l', (e == e))) _
        rw [beq_self_eq_true]
        exact Ev.now _
      · refine ⟨l, ?_, h.more⟩
        refine Ev.step ?_ (fun N => by rw [beehivelaw10_StoreScript_B2])
        exact Ev.neg h0 (Ev.neg h1 (Ev.neg h2 (Ev.now _)))
/-- What is looked at behind each act. -/
theorem look_ev {l : List Tapi_Slot} {n : Nat} (h : Good l n) (hn : n ≤ 200) : Ev (fun N => (store_Store_Bytes' N ⟨l⟩).bind fun r34 => (beehiveref10_Store_Bytes N ⟨l⟩).bind fun r35 => if r34.1 ≠ r35.1 then some (r35.2.fL, r34.2.fl, true) else (store_Store_Len' N r34.2).bind fun r37 => (beehiveref10_Store_Len N r35.2).bind fun r38 => if r37.1 ≠ r38.1 then some (r38.2.fL, r37.2.fl, true) else (beehivelaw0_SameSlots N l r38.2.fL).bind fun r40 => some (r38.2.fL, r37.2.fl, (!r40))) (l, l, false) := by
  have hl := h.len
  exact Ev.bind (bytes_ev l (by omega)) (Ev.bind (rbytes_ev l (by omega)) (Ev.neg (by simp) (Ev.bind (len_ev l (by omega) h.pos) (Ev.bind (rlen_ev l (by omega) h.pos) (Ev.neg (by simp) (Ev.bind (same_self l (by omega)) (Ev.now _)))))))
theorem check_ev (p0 : List Tlaw10_Act) (a883 : List Tapi_Slot) (v5 : Int) (x : Tlaw10_Act) {l : List Tapi_Slot} {n : Nat} (h : Good l n) (hn : n ≤ 200) :
    ∃ t e, Ev (fun N => store_Store_Get' N ⟨l⟩ x.fSlot x.fStamp) (t, e, ⟨l⟩) ∧ Ev (fun N => beehiveref10_Store_Find N ⟨l⟩ x.fSlot x.fStamp) (e, ⟨l⟩) ∧ Ev (fun N => beehivelaw10_StoreScript_B3 N p0 a883 v5 x (l, l, true) (t, e, ⟨l⟩) (e, ⟨l⟩) (l, ⟨l⟩)) (.inl (l, l)) := by
  have hk := look_ev h hn
  rcases here_or l x.fSlot x.fStamp with ⟨k, y, hy⟩ | ⟨e, he⟩
  · refine ⟨_, _, get_here hy, rfind_here hy, ?_⟩
    have hB : Ev (fun N => beehivelaw10_StoreScript_B4 N p0 a883 v5 x (l, l, true) (y.fBytes, 0, ⟨l⟩) (0, ⟨l⟩) (l, ⟨l⟩)) (l, l, false) := by
      refine Ev.step ?_ (fun N => by rw [beehivelaw10_StoreScript_B4])
      refine Ev.neg (by simp) (Ev.bind (a := 0) (Ev.now _) (Ev.neg (by simp) (Ev.pos rfl (Ev.bindc (a := y) (by rw [hy.e]; exact hy.idx) (Ev.neg (by simp) (Ev.neg (by simp) hk))))))
    refine Ev.step ?_ (fun N => by rw [beehivelaw10_StoreScript_B3])
    exact Ev.bind hB (Ev.neg (by simp) (Ev.now _))
  · refine ⟨_, _, get_not he, rfind_not he, ?_⟩
    have hB : Ev (fun N => beehivelaw10_StoreScript_B4 N p0 a883 v5 x (l, l, true) (noB, e, ⟨l⟩) (e, ⟨l⟩) (l, ⟨l⟩)) (l, l, false) := by
      refine Ev.step ?_ (fun N => by rw [beehivelaw10_StoreScript_B4])
      refine Ev.neg (by simp) (Ev.bind (a := e) (Ev.now _) (Ev.neg (by simp) (Ev.neg he.ne (Ev.pos he.ne (Ev.neg (by simp) hk)))))
    refine Ev.step ?_ (fun N => by rw [beehivelaw10_StoreScript_B3])
    exact Ev.bind hB (Ev.neg (by simp) (Ev.now _))
theorem script_loop (p0 : List Tlaw10_Act) (hp : p0.length ≤ 100) : ∀ (d i : Nat) (l : List Tapi_Slot), i + d = p0.length → Good l i → ∃ l', Ev (fun N => beehivelaw10_StoreScript_L0 N p0 l l (i : Nat)) (.inl (l', l')) ∧ Good l' p0.length
  | 0, i, l, hd, hg => by
    obtain rfl : i = p0.length := by omega
    refine ⟨l, ?_, hg⟩
    refine Ev.step ?_ (fun N => by rw [beehivelaw10_StoreScript_L0])
    exact Ev.neg (by omega) (Ev.now _)
  | d + 1, i, l, hd, hg => by
    have hi : i < p0.length := by omega
    obtain ⟨l1, ha, hg1⟩ := act_ev p0 (i : Nat) p0[i] hg (by omega)
    obtain ⟨t, e, c1, c2, c3⟩ := check_ev p0 l (i : Nat) p0[i] hg1 (by omega)
    obtain ⟨l2, hl2, hg2⟩ := script_loop p0 hp d (i + 1) l1 (by omega) hg1
    have hlen := hg1.len
    refine ⟨l2, ?_, hg2⟩
    have hB : Ev (fun N => beehivelaw10_StoreScript_B1 N p0 l l (i : Nat)) (.inl (l1, l1)) := by
      refine Ev.step ?_ (fun N => by rw [beehivelaw10_StoreScript_B1])
      exact Ev.bindc (idx_eq hi) (Ev.bind ha (Ev.bind c1 (Ev.bind c2 (Ev.bind (slots_ev l1 (by omega)) (Ev.bind c3 (Ev.bind (over_ev l1 (by omega)) (Ev.now _)))))))
    refine Ev.step ?_ (fun N => by rw [beehivelaw10_StoreScript_L0, wrap_succ (by omega)])
    exact Ev.pos (by omega) (Ev.bind hB hl2)
theorem great_loop (p0 : List Tlaw10_Act) (hp : p0.length ≤ 100) : ∀ (d i : Nat), i + d = p0.length → ∃ r, Ev (fun N => beehivelaw10_great_L0 N p0 100 (i : Nat)) r
  | 0, i, hd => by
    refine ⟨.inl (), ?_⟩
    refine Ev.step ?_ (fun N => by rw [beehivelaw10_great_L0])
    exact Ev.neg (by omega) (Ev.now _)
  | d + 1, i, hd => by
    obtain ⟨r, hr⟩ := great_loop p0 hp d (i + 1) (by omega)
    by_cases h : ((p0[i]'(by omega)).fBytes.size : Int) > 500
    · refine ⟨.inr (), ?_⟩
      refine Ev.step ?_ (fun N => by rw [beehivelaw10_great_L0])
      exact Ev.pos (by omega) (Ev.pos (by omega) (Ev.bindc (idx_eq (by omega)) (Ev.pos h (Ev.now _))))
    · refine ⟨r, ?_⟩
      refine Ev.step ?_ (fun N => by rw [beehivelaw10_great_L0, wrap_succ (by omega)])
      exact Ev.pos (by omega) (Ev.pos (by omega) (Ev.bindc (idx_eq (by omega)) (Ev.neg h hr)))
theorem great_ev (p0 : List Tlaw10_Act) : ∃ b, Ev (fun N => beehivelaw10_great N p0 100) b ∧ (b = false → p0.length ≤ 100) := by
  by_cases hp : p0.length ≤ 100
  · obtain ⟨r, hr⟩ := great_loop p0 hp p0.length 0 (by omega)
    cases r with
    | inl u => exact ⟨_, Ev.bind hr (Ev.now _), fun _ => hp⟩
    | inr u => exact ⟨_, Ev.bind hr (Ev.now _), fun _ => hp⟩
  · refine ⟨true, ?_, fun h => by cases h⟩
    have hr : Ev (fun N => beehivelaw10_great_L0 N p0 100 0) (.inl ()) := by
      refine Ev.step ?_ (fun N => by rw [beehivelaw10_great_L0])
      exact Ev.pos (by omega) (Ev.neg (by omega) (Ev.now _))
    refine Ev.bind hr ?_
    show Ev (fun _ => some (decide (((p0.length : Nat) : Int) > 100))) _
    rw [decide_eq_true (show ((p0.length : Nat) : Int) > 100 by omega)]
    exact Ev.now _
namespace Pure
theorem StoreScript (x0 : (List Tlaw10_Act)) (w0 : (ListR wTlaw10_Act) x0) : ∃ N, beehivelaw10_StoreScript N x0 = some true := by
  refine Ev.ex (f := fun N => beehivelaw10_StoreScript N x0) ?_
  obtain ⟨b, hb, hf⟩ := great_ev x0
  refine Ev.bind hb ?_
  cases b with
  | true => exact Ev.pos rfl (Ev.bind awake_ev (Ev.now _))
  | false =>
    have hp := hf rfl
    obtain ⟨l, hl, hg⟩ := script_loop x0 hp x0.length 0 [] (by omega) ⟨by simp, fun x hx => (by cases hx), fun x hx => (by cases hx)⟩
    have hlen := hg.len
    refine Ev.neg (by simp) (Ev.bind new_ev (Ev.bind hl ?_))
    exact Ev.bind (slots_ev l (by omega)) (Ev.bind (same_self l (by omega)) (Ev.pos rfl (Ev.bind awake_ev (Ev.now _))))
end Pure
end Go.Proofs.Ytncpghadgddofaa.Sh
