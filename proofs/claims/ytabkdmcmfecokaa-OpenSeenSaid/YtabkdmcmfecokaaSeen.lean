/- OpenSeen: the plain law, and the walk. -/
import Derived.Test.YtabkdmcmfecokaaRows
import Derived.Test.YtabkdmcmfecokaaAlive9
import Derived.Test.YtabkdmcmfecokaaCls
import Derived.LoopTactic
namespace Go.Proofs.Ytabkdmcmfecokaa
open Go Go.RowKit

def seenO (k sq : Nat) : Opn := match k with
  | 0 => ⟨0, 0, 0, 0, ⟨0, 0, 0, false⟩, 0, 0, 0, false⟩
  | 1 => ⟨0, 1, 0, 0, ⟨0, 0, 0, false⟩, 0, 0, 0, false⟩
  | 2 => ⟨0, 2, 0, 0, ⟨0, 0, 0, false⟩, 0, 0, 0, false⟩
  | 3 => ⟨0, 4, 0, sq, ⟨0, 0, 0, false⟩, 0, 0, 0, false⟩
  | 4 => ⟨0, 5, 0, sq, ⟨0, 0, 0, false⟩, 0, 0, 0, false⟩
  | _ => ⟨0, 5, 0, sq, ⟨0, 0, 0, false⟩, 0, 1, sq, true⟩
/-- Where a beginning is, whose slot nobody else touches. -/
structure Seen (c : Cfg) (seq now k : Nat) (O : Opn) (M : Mem) : Prop where
  wf : M.Wf
  cfg : M.c = c
  tally : M.word 1 0 = 16 * now
  le : seq ≤ now
  k5 : k ≤ 5
  ex : ∃ sq, O = seenO k sq ∧ (3 ≤ k → seq ≤ sq ∧ sq ≤ now) ∧ (4 ≤ k → M.word 5 0 = sq)
  free : k ≤ 1 → M.word 4 0 = 0
theorem stMove_zero (s : Nat) (hs : s < 8) : stState (stMove 0 s false) = s := by
  unfold stState stMove fld; simp; omega
theorem Seen.step {c : Cfg} {seq now k : Nat} {O : Opn} {M : Mem} (hc : c.Ok) (h : Seen c seq now k O M) (hk : k < 5) : Seen c seq now (k + 1) (O.step M).1 (O.step M).2 := by
  obtain ⟨hw, hcf, ht, hle, -, ⟨sq, rfl, h3, h4⟩, hf⟩ := h
  have hs0 : (cellAt M.c 4 ((0 : Nat) : Int)).isSome = true := cell_slot M.c 4 (by decide) 0 (by rw [hcf]; exact hc.s1)
  have hs5 : (cellAt M.c 5 ((0 : Nat) : Int)).isSome = true := cell_slot M.c 5 (by decide) 0 (by rw [hcf]; exact hc.s1)
  match k, hk with
  | 0, _ =>
    have e0 : (M.load 4 ((0 : Nat) : Int)).2 = 0 := by rw [M.load_val]; exact hf (by omega)
    have hs : (seenO 0 sq).step M = (seenO 1 sq, (M.load 4 ((0 : Nat) : Int)).1) := by
      simp only [seenO, Opn.step, Bool.false_eq_true, if_false]
      rw [e0, if_pos (by refine ⟨by decide, ?_⟩; show 0 ≤ _; omega)]
    rw [hs]
    obtain ⟨l1, l2⟩ := M.load_ws hw 4 ((0 : Nat) : Int)
    exact ⟨M.load_wf hw _ _, by rw [l2, hcf], by rw [Mem.word_congr l1 l2]; exact ht, hle, by omega, ⟨sq, rfl, fun h => by omega, fun h => by omega⟩, fun _ => by rw [Mem.word_congr l1 l2]; exact hf (by omega)⟩
  | 1, _ =>
    obtain ⟨s1, s2⟩ := M.swap_yes hw 4 ((0 : Nat) : Int) 0 (stMove 0 1 false) hs0 (hf (by omega))
    have hs : (seenO 1 sq).step M = (seenO 2 sq, (M.swap 4 ((0 : Nat) : Int) 0 (stMove 0 1 false)).1) := by
      simp only [seenO, Opn.step, Bool.false_eq_true, if_false, s1, if_true]
    rw [hs]
    obtain ⟨l1, l2⟩ := M.swap_wf hw 4 ((0 : Nat) : Int) 0 (stMove 0 1 false)
    exact ⟨l1, by rw [l2, hcf], by rw [s2, if_neg (by omega)]; exact ht, hle, by omega, ⟨sq, rfl, fun h => by omega, fun h => by omega⟩, fun h => by omega⟩
  | 2, _ =>
    have e0 : (M.load 1 0).2 = 16 * now := by rw [M.load_val]; exact ht
    have hs : (seenO 2 sq).step M = (seenO 3 now, (M.load 1 0).1) := by
      simp only [seenO, Opn.step, Bool.false_eq_true, if_false]
      rw [e0, if_pos (by omega), Nat.mul_div_cancel_left _ (by decide)]
    rw [hs]
    obtain ⟨l1, l2⟩ := M.load_ws hw 1 0
    exact ⟨M.load_wf hw _ _, by rw [l2, hcf], by rw [Mem.word_congr l1 l2]; exact ht, hle, by omega, ⟨now, rfl, fun _ => ⟨hle, Nat.le_refl _⟩, fun h => by omega⟩, fun h => by omega⟩
  | 3, _ =>
    have hs : (seenO 3 sq).step M = (seenO 4 sq, M.store 5 ((0 : Nat) : Int) sq) := by
      simp only [seenO, Opn.step, Bool.false_eq_true, if_false]
    rw [hs]
    obtain ⟨l1, l2⟩ := M.store_wf hw 5 ((0 : Nat) : Int) sq
    have hst := M.store_word hw 5 ((0 : Nat) : Int) sq hs5
    exact ⟨l1, by rw [l2, hcf], by rw [hst, if_neg (by omega)]; exact ht, hle, by omega, ⟨sq, rfl, fun _ => h3 (by omega), fun _ => by rw [hst, if_pos ⟨rfl, rfl⟩]⟩, fun h => by omega⟩
  | 4, _ =>
    have hs : (seenO 4 sq).step M = (seenO 5 sq, M.store 4 ((0 : Nat) : Int) (stMove 0 2 false)) := by
      simp only [seenO, Opn.step, Bool.false_eq_true, if_false]
      rfl
    rw [hs]
    obtain ⟨l1, l2⟩ := M.store_wf hw 4 ((0 : Nat) : Int) (stMove 0 2 false)
    have hst := M.store_word hw 4 ((0 : Nat) : Int) (stMove 0 2 false) hs0
    exact ⟨l1, by rw [l2, hcf], by rw [hst, if_neg (by omega)]; exact ht, hle, by omega, ⟨sq, rfl, fun _ => h3 (by omega), fun _ => by rw [hst, if_neg (by omega)]; exact h4 (by omega)⟩, fun h => by omega⟩
theorem Seen.done {c : Cfg} {seq now k : Nat} {O : Opn} {M : Mem} (h : Seen c seq now k O M) : O.done = decide (k = 5) := by
  obtain ⟨-, -, -, -, hk, ⟨sq, rfl, -⟩, -⟩ := h
  match k, hk with
  | 0, _ => rfl
  | 1, _ => rfl
  | 2, _ => rfl
  | 3, _ => rfl
  | 4, _ => rfl
  | 5, _ => rfl
/-- Another commit is counted. -/
theorem Seen.tick {c : Cfg} {seq now k : Nat} {O : Opn} {M : Mem} (h : Seen c seq now k O M) : Seen c seq (now + 1) k O (M.store 1 0 (16 * (now + 1))) := by
  obtain ⟨hw, hcf, ht, hle, h5, ⟨sq, rfl, h3, h4⟩, hf⟩ := h
  obtain ⟨l1, l2⟩ := M.store_wf hw 1 0 (16 * (now + 1))
  have hst := M.store_word hw 1 0 (16 * (now + 1)) (cell_tally _)
  exact ⟨l1, by rw [l2, hcf], by rw [hst, if_pos ⟨rfl, rfl⟩], by omega, h5, ⟨sq, rfl, fun h => by have := h3 h; omega, fun h => by rw [hst, if_neg (by omega)]; exact h4 h⟩, fun h => by rw [hst, if_neg (by omega)]; exact hf h⟩
/-- One more step, or none where it has ended. -/
theorem Seen.next {c : Cfg} {seq now k : Nat} {O : Opn} {M : Mem} (hc : c.Ok) (h : Seen c seq now k O M) : ∃ k', Seen c seq now k' (O.step M).1 (O.step M).2 := by
  by_cases hk : k < 5
  · exact ⟨_, h.step hc hk⟩
  · have hd : O.done = true := by rw [h.done]; have := h.k5; simp; omega
    refine ⟨k, ?_⟩
    unfold Opn.step
    rw [if_pos hd]
    exact h
theorem Seen.ends {c : Cfg} {seq now : Nat} (hc : c.Ok) : ∀ (f k : Nat) (O : Opn) (M : Mem), Seen c seq now k O M → 5 ≤ k + f → Seen c seq now 5 (O.ends f M).2.1 (O.ends f M).2.2
  | 0, k, O, M, h, hf => by
    have : k = 5 := by have := h.k5; omega
    subst this; exact h
  | f + 1, k, O, M, h, hf => by
    unfold Opn.ends
    have hd := h.done
    by_cases hk : k = 5
    · subst hk
      rw [hd, if_pos (by decide)]; exact h
    · rw [hd, if_neg (by simpa using hk)]
      exact Seen.ends hc f (k + 1) _ _ (h.step hc (by have := h.k5; omega)) (by omega)
theorem Seen.new (c : Cfg) (seq : Nat) : Seen c seq seq 0 Opn.new ((Mem.fresh c (List.replicate (lenOf c) 0)).store 1 0 (16 * seq)) := by
  have hw : (Mem.fresh c (List.replicate (lenOf c) 0)).Wf := fresh_wf c
  obtain ⟨l1, l2⟩ := Mem.store_wf _ hw 1 0 (16 * seq)
  have hst := Mem.store_word _ hw 1 0 (16 * seq) (cell_tally c)
  exact ⟨l1, l2, by rw [hst, if_pos ⟨rfl, rfl⟩], Nat.le_refl _, by omega, ⟨0, rfl, fun h => by omega, fun h => by omega⟩, fun _ => by rw [hst, if_neg (by omega)]; exact fresh_word c 4 0 _ _⟩
/-- What it has come to at its end. -/
theorem Seen.told {c : Cfg} {seq now : Nat} {O : Opn} {M : Mem} (h : Seen c seq now 5 O M) : O.done = true ∧ O.e = 0 ∧ seq ≤ O.n ∧ O.n ≤ now ∧ M.word 5 0 = O.n := by
  obtain ⟨-, -, -, -, -, ⟨sq, rfl, h3, h4⟩, -⟩ := h
  exact ⟨rfl, rfl, (h3 (by omega)).1, (h3 (by omega)).2, h4 (by omega)⟩
end Go.Proofs.Ytabkdmcmfecokaa
