import Derived.Test.YtopopkdnjpnafaaPureAwake3
import Derived.Test.YtopopkdnjpnafaaPureGreats
set_option linter.unusedVariables false
namespace Go.Proofs.Ytopopkdnjpnafaa.Sh
open Go Lift Go.Proofs
theorem lo_nonneg {m : Int} (h : 0 ≤ m) : 0 ≤ lo m ∧ lo m ≤ 301 := by unfold lo; split <;> omega
mutual
theorem ref_ev : ∀ (x : Tapi_Term), Small x → Ev (fun N => beehiveref3_Weight N x) (lo (wt x))
  | ⟨k, a, m, b, s, args⟩, hs => by
    have hm : m.fMag.length ≤ 40 := hs.mag
    have hb : s.size ≤ 1000 := hs.bytes
    refine Ev.step ?_ (fun N => by rw [beehiveref3_Weight])
    rw [wt]
    by_cases k2 : k = 2
    · refine Ev.pos k2 ?_
      rw [if_pos k2]
      have e : (if (300 : Int) < ((m.fMag.length : Nat) : Int) then (300 : Int) else ((m.fMag.length : Nat) : Int)) = (m.fMag.length : Int) := if_neg (by omega)
      show Ev (fun _ => some (if (301 : Int) < (IntKind.wrap .i64 ((1 : Int) + (if (300 : Int) < ((m.fMag.length : Nat) : Int) then (300 : Int) else ((m.fMag.length : Nat) : Int)))) then (301 : Int) else IntKind.wrap .i64 ((1 : Int) + (if (300 : Int) < ((m.fMag.length : Nat) : Int) then (300 : Int) else ((m.fMag.length : Nat) : Int))))) _
      rw [e, wrapI _ (by omega) (by omega)]
      exact Ev.now _
    rw [if_neg k2]
    by_cases k9 : k = 9
    · refine Ev.neg k2 (Ev.pos k9 ?_)
      rw [if_pos k9]
      have e0 : IntKind.i64.wrap (Int.tdiv (s.size : Int) 8) = (s.size : Int) / 8 := by rw [tdiv8, wrapI _ (by omega) (by omega)]
      have e : (if (300 : Int) < (s.size : Int) / 8 then (300 : Int) else (s.size : Int) / 8) = (s.size : Int) / 8 := if_neg (by omega)
      show Ev (fun _ => some (if (301 : Int) < (IntKind.wrap .i64 ((1 : Int) + (if (300 : Int) < (IntKind.wrap .i64 (Int.tdiv ((s.size : Nat) : Int) (8 : Int))) then (300 : Int) else IntKind.wrap .i64 (Int.tdiv ((s.size : Nat) : Int) (8 : Int))))) then (301 : Int) else IntKind.wrap .i64 ((1 : Int) + (if (300 : Int) < (IntKind.wrap .i64 (Int.tdiv ((s.size : Nat) : Int) (8 : Int))) then (300 : Int) else IntKind.wrap .i64 (Int.tdiv ((s.size : Nat) : Int) (8 : Int)))))) _
      rw [e0, e, wrapI _ (by omega) (by omega)]
      exact Ev.now _
    rw [if_neg k9]
    obtain ⟨q, hq, hn⟩ := refs_ev args hs.args ⟨k, a, m, b, s, args⟩ 0 rfl hs.len 1 (by omega) (by omega)
    have hlo : lo q = lo (1 + wts args) := by unfold lo; split <;> split <;> omega
    by_cases k6 : k = 6
    · refine Ev.neg k2 (Ev.neg k9 (Ev.pos k6 (Ev.bind hq ?_)))
      rw [if_pos (Or.inl k6), ← hlo]
      exact Ev.now _
    by_cases k8 : k = 8
    · refine Ev.neg k2 (Ev.neg k9 (Ev.neg k6 (Ev.pos k8 (Ev.bind hq ?_))))
      rw [if_pos (Or.inr k8), ← hlo]
      exact Ev.now _
    · refine Ev.neg k2 (Ev.neg k9 (Ev.neg k6 (Ev.neg k8 ?_)))
      have e : (if k = 6 ∨ k = 8 then 1 + wts args else 1) = 1 := if_neg (by omega)
      rw [e]
      exact Ev.now _
theorem refs_ev : ∀ (ts : List Tapi_Term), (∀ x ∈ ts, Small x) → ∀ (t : Tapi_Term) (i : Nat), t.fArgs.drop i = ts → t.fArgs.length ≤ maxLen → ∀ n : Int, 0 ≤ n → n ≤ 601 →
    ∃ q, Ev (fun N => beehiveref3_Weight_L0 N t n i) q ∧ (n + wts ts ≤ 300 → q = n + wts ts) ∧ (300 < n + wts ts → 300 < q) ∧ (n + wts ts = 301 → q = 301)
  | [], hs, t, i, hd, hl, n, h1, h2 => by
    have := drop_end hd
    refine ⟨n, ?_, by rw [wts]; omega⟩
    refine Ev.step ?_ (fun N => by rw [beehiveref3_Weight_L0])
    exact Ev.neg (by omega) (Ev.now _)
  | x :: xs, hs, t, i, hd, hl, n, h1, h2 => by
    have hlen := drop_len hd
    have hp := wt_pos x
    have hq := wts_nonneg xs
    have hlo : lo (wt x) = if 301 < wt x then 301 else wt x := rfl
    rw [maxLen_eq] at hl
    by_cases h3 : n ≤ 300
    · have hb := lo_nonneg (m := wt x) (by omega)
      obtain ⟨q, hq', n1, n2, n3⟩ := refs_ev xs (fun y hy => hs y (by simp [hy])) t (i + 1) (drop_next hd) (by rw [maxLen_eq]; exact hl) (n + lo (wt x)) (by omega) (by omega)
      have e3 : IntKind.i64.wrap ((i : Int) + 1) = ((i + 1 : Nat) : Int) := by rw [wrapI _ (by omega) (by omega)]; rfl
      have e4 : IntKind.i64.wrap (n + lo (wt x)) = n + lo (wt x) := wrapI _ (by omega) (by omega)
      refine ⟨q, ?_, ?_⟩
      · refine Ev.step ?_ (fun N => by rw [beehiveref3_Weight_L0])
        refine Ev.pos (by omega) (Ev.pos h3 (Ev.bindc (idx_at hd) (Ev.bind (ref_ev x (hs x (by simp))) ?_)))
        rw [e3, e4]
        exact hq'
      · rw [wts]
        split at hlo <;> omega
    · refine ⟨n, ?_, by rw [wts]; omega⟩
      refine Ev.step ?_ (fun N => by rw [beehiveref3_Weight_L0])
      exact Ev.pos (by omega) (Ev.neg h3 (Ev.now _))
end
theorem refAbove_loop : ∀ (ts : List Tapi_Term), (∀ x ∈ ts, Small x) → ∀ (p : Int) (l : List Tapi_Term) (i : Nat), l.drop i = ts → l.length ≤ maxLen → ∀ v, Ev (fun N => beehiveref3_Above_L0 N p l v i) (above v ts)
  | [], hs, p, l, i, hd, hl, v => by
    have := drop_end hd
    refine Ev.step ?_ (fun N => by rw [beehiveref3_Above_L0])
    exact Ev.neg (by omega) (Ev.now _)
  | x :: xs, hs, p, l, i, hd, hl, v => by
    have hlen := drop_len hd
    rw [maxLen_eq] at hl
    refine Ev.step ?_ (fun N => by rw [beehiveref3_Above_L0])
    refine Ev.pos (by omega) (Ev.bindc (idx_at hd) (Ev.bind (ref_ev x (hs x (by simp))) ?_))
    have e3 : IntKind.i64.wrap ((i : Int) + 1) = ((i + 1 : Nat) : Int) := by rw [wrapI _ (by omega) (by omega)]; rfl
    rw [e3]
    exact refAbove_loop xs (fun y hy => hs y (by simp [hy])) p l (i + 1) (drop_next hd) (by rw [maxLen_eq]; exact hl) _

namespace Pure
theorem WeighTells (x0 : Tapi_Term) (x1 : (List Tapi_Term)) (x2 : Int) (w0 : wTapi_Term x0) (w1 : (ListR wTapi_Term) x1) (w2 : (InR .i64) x2) : ∃ N, beehivelaw3_WeighTells N x0 x1 x2 = some true := by
  refine Ev.ex (f := fun N => beehivelaw3_WeighTells N x0 x1 x2) ?_
  have haw : Ev (fun N => (beehivelaw3_awake N).bind fun r3 => some r3) true := Ev.bind awake_ev (Ev.now _)
  obtain ⟨b, hb, hg⟩ := great_ev x0 w0 600 (by omega) (by omega)
  refine Ev.bind hb ?_
  cases b with
  | true => exact Ev.pos rfl haw
  | false =>
    refine Ev.neg (by decide) ?_
    obtain ⟨b, hb, hgs⟩ := greats_ev x1 w1 600 (by omega) (by omega)
    refine Ev.bind hb ?_
    cases b with
    | true => exact Ev.pos rfl haw
    | false =>
      refine Ev.neg (by decide) ?_
      have h0 := (hg rfl).1
      have h1 := (hgs rfl).1
      refine Ev.bind (weight_ev x0 h0) (Ev.bind (ref_ev x0 h0) (Ev.pos rfl ?_))
      exact Ev.bind (above_ev x2 x1 h1 w1.len) (Ev.bind (Ev.bind (refAbove_loop x1 h1 x2 x1 0 rfl w1.len 0) (Ev.now _)) (Ev.pos rfl haw))
end Pure
end Go.Proofs.Ytopopkdnjpnafaa.Sh
