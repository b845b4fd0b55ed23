import Derived.Test.YtncpghadgddofaaPureQueueB
set_option linter.unusedVariables false
namespace Go.Proofs.Ytncpghadgddofaa.Sh
open Go Lift Go.Proofs

/-- A queue that may be. -/
structure GoodQ (l : List Int) (n : Nat) : Prop where
  nodup : l.Nodup
  nonneg : ∀ x ∈ l, 0 ≤ x
  len : l.length ≤ n
theorem putQ_good {l : List Int} {n : Nat} (h : GoodQ l n) (p : Int) : GoodQ (putQ l p).2 (n + 1) := by
  have := h.len
  unfold putQ
  split
  · exact ⟨h.nodup, h.nonneg, by show l.length ≤ _; omega⟩
  · rename_i hh
    refine ⟨?_, ?_, by simp; omega⟩
    · refine List.nodup_append.2 ⟨h.nodup, by simp, fun a ha b hb => ?_⟩
      simp at hb
      subst hb
      exact fun e => hh (Or.inr (e ▸ ha))
    · intro x hx
      rcases List.mem_append.1 hx with hx | hx
      · exact h.nonneg x hx
      · simp at hx; subst hx; omega
theorem dropQ_good {l : List Int} {n : Nat} (h : GoodQ l n) (p : Int) : GoodQ (dropQ l p).2 (n + 1) := by
  have := h.len
  unfold dropQ
  split
  · have hs : (l.erase p).Sublist l := List.erase_sublist
    exact ⟨h.nodup.sublist hs, fun x hx => h.nonneg x (hs.subset hx), by have := hs.length_le; show (l.erase p).length ≤ _; omega⟩
  · exact ⟨h.nodup, h.nonneg, by show l.length ≤ _; omega⟩
theorem pickQ_good {l : List Int} {n : Nat} (h : GoodQ l n) (x : Int) : GoodQ (pickQ l x).2.2 (n + 1) := by
  have := h.len
  unfold pickQ
  split
  · have hs := List.eraseIdx_sublist l (pickAt l x)
    exact ⟨h.nodup.sublist hs, fun x hx => h.nonneg x (hs.subset hx), by have := hs.length_le; show (l.eraseIdx _).length ≤ _; omega⟩
  · exact ⟨h.nodup, h.nonneg, by show l.length ≤ _; omega⟩
theorem step_ev (acts : List Tlaw16_Act) (a : Tlaw16_Act) (i : Nat) (hi : idx acts (i : Int) = some a) (l : List Int) (n : Nat) (hn : n < 1000) (h : GoodQ l n) :
    ∃ l', Ev (fun N => beehivelaw16_QueueScript_B2 N acts l l i a) (l', l', true) ∧ GoodQ l' (n + 1) := by
  have hl := h.len
  by_cases h0 : a.fDo = 0
  · refine ⟨(putQ l a.fN).2, ?_, putQ_good h _⟩
    refine Ev.step ?_ (fun N => by rw [beehivelaw16_QueueScript_B2])
    refine Ev.bindc hi (Ev.pos h0 (Ev.bind (put_ev l _ (by omega)) (Ev.bind (rput_ev l _ (by omega)) ?_)))
    show Ev (fun _ => some ((putQ l a.fN).2, (putQ l a.fN).2, (putQ l a.fN).1 == (putQ l a.fN).1)) _
    rw [beq_self_eq_true]
    exact Ev.now _
  by_cases h1 : a.fDo = 1
  · refine ⟨(pickQ l a.fN).2.2, ?_, pickQ_good h _⟩
    refine Ev.step ?_ (fun N => by rw [beehivelaw16_QueueScript_B2])
    refine Ev.bindc hi (Ev.neg h0 (Ev.pos h1 (Ev.bind (pick_ev l _ (by omega) h.nodup) (Ev.bind (rpick_ev l _ (by omega)) (Ev.pos rfl ?_)))))
    show Ev (fun _ => some ((pickQ l a.fN).2.2, (pickQ l a.fN).2.2, (pickQ l a.fN).2.1 == (pickQ l a.fN).2.1)) _
    rw [beq_self_eq_true]
    exact Ev.now _
  by_cases h2 : a.fDo = 2
  · refine ⟨(dropQ l a.fN).2, ?_, dropQ_good h _⟩
    refine Ev.step ?_ (fun N => by rw [beehivelaw16_QueueScript_B2])
    refine Ev.bindc hi (Ev.neg h0 (Ev.neg h1 (Ev.pos h2 (Ev.bind (drop_ev l _ (by omega)) (Ev.bind (rdrop_ev l _ (by omega) h.nonneg) ?_)))))
    show Ev (fun _ => some ((dropQ l a.fN).2, (dropQ l a.fN).2, (dropQ l a.fN).1 == (dropQ l a.fN).1)) _
    rw [beq_self_eq_true]
    exact Ev.now _
  · refine ⟨l, ?_, h.nodup, h.nonneg, by omega⟩
    refine Ev.step ?_ (fun N => by rw [beehivelaw16_QueueScript_B2])
    exact Ev.bindc hi (Ev.neg h0 (Ev.neg h1 (Ev.neg h2 (Ev.now _))))
theorem script_loop : ∀ (ts : List Tlaw16_Act) (acts : List Tlaw16_Act) (i : Nat) (l : List Int), acts.drop i = ts → i ≤ acts.length → acts.length ≤ 100 → GoodQ l i →
    ∃ l', Ev (fun N => beehivelaw16_QueueScript_L0 N acts l l i) (.inl (l', l')) ∧ GoodQ l' 100
  | [], acts, i, l, hd, hi, hl, h => by
    have := drop_end hd
    refine ⟨l, ?_, h.nodup, h.nonneg, by have := h.len; omega⟩
    refine Ev.step ?_ (fun N => by rw [beehivelaw16_QueueScript_L0])
    exact Ev.neg (by omega) (Ev.now _)
  | a :: xs, acts, i, l, hd, hi, hl, h => by
    have hlen := drop_len hd
    obtain ⟨l1, h1, g1⟩ := step_ev acts a i (idx_at hd) l i (by omega) h
    obtain ⟨l2, h2, g2⟩ := script_loop xs acts (i + 1) l1 (drop_next hd) (by omega) hl g1
    have hl1 := g1.len
    refine ⟨l2, ?_, g2⟩
    refine Ev.step ?_ (fun N => by rw [beehivelaw16_QueueScript_L0])
    refine Ev.pos (by omega) (Ev.bind (a := .inl (l1, l1)) ?_ ?_)
    · refine Ev.step ?_ (fun N => by rw [beehivelaw16_QueueScript_B1])
      refine Ev.bindc (idx_at hd) (Ev.bind h1 (Ev.bind (all_ev l1 (by omega)) (Ev.neg (by simp) (Ev.bind (sameInts_ev l1 l1 (by rw [maxLen_eq]; omega)) (Ev.neg (by simp) ?_)))))
      exact Ev.bind (overInts_ev l1 (by rw [lim_eq]; omega)) (Ev.now _)
    · show Ev (fun N => beehivelaw16_QueueScript_L0 N acts l1 l1 (IntKind.i64.wrap ((i : Int) + 1))) _
      rw [wrap_succ (by omega)]
      exact h2
namespace Pure
theorem QueueScript (x0 : (List Tlaw16_Act)) (w0 : (ListR wTlaw16_Act) x0) : ∃ N, beehivelaw16_QueueScript N x0 = some true := by
  refine Ev.ex (f := fun N => beehivelaw16_QueueScript N x0) ?_
  have haw : Ev (fun N => (beehivelaw16_awake N).bind fun r3 => some r3) true := Ev.bind awake_ev (Ev.now _)
  by_cases h : ((x0.length : Nat) : Int) > 100
  · exact Ev.pos h haw
  · refine Ev.neg h (Ev.bindc (a := some ⟨[]⟩) rfl ?_)
    obtain ⟨l, h1, g⟩ := script_loop x0 x0 0 [] rfl (by omega) (by omega) ⟨List.nodup_nil, by simp, by simp⟩
    have := g.len
    exact Ev.bind h1 (Ev.bind (all_ev l (by omega)) (Ev.bind (sameInts_ev l l (by rw [maxLen_eq]; omega)) (Ev.pos (by simp) haw)))
end Pure
end Go.Proofs.Ytncpghadgddofaa.Sh
