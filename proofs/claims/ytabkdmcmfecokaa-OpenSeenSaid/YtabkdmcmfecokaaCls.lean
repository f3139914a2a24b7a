/- Regions that draw their order, in a class of worlds that is told by what holds of them; words of a memory by spots. -/
import Derived.Test.YtabkdmcmfecokaaStore
namespace Go.Proofs.Ytabkdmcmfecokaa
open Go Go.RowKit
set_option linter.unusedSimpArgs false
set_option linter.unusedVariables false

/-- A world of a class. -/
structure InC (C : World → Prop) where
  w : World
  h : C w
theorem wp_region_cls {P : Program} {id : Nat} {Q : Exit → Act → World → Prop} {a : Act} {w : World} {l : List Oper} (C : World → Prop) (hm : P.follows .mixedOrders = true) (hB : Region.lexB .any l.toArray = true) (hC : C w.drew)
    (h : wpQuiet P l.toArray (fun w' => ∃ x : InC C, w' = x.w) (fun a' => ∀ w', (∃ x : InC C, w' = x.w) → Q .normal a' w') l a) : (Code.region id l.toArray true).wp P Q a w :=
  wp_region_quiet (C := fun w' => ∃ x : InC C, w' = x.w) hm hB ⟨⟨_, hC⟩, rfl⟩ (by simpa using h)
theorem quiet_cls {P : Program} {C : World → Prop} {f : FuncId} {args : Array Value} {v : Value} {x : InC C}
    (h : ∀ w', C w' → Calls P f args w' fun e w'' => e = .returned v ∧ C w'') : Calls P f args x.w fun e w'' => e = .returned v ∧ ∃ y : InC C, w'' = y.w :=
  (h x.w x.h).mono fun _ _ ⟨he, hc⟩ => ⟨he, ⟨_, hc⟩, rfl⟩
theorem wp_region_clsTail {P : Program} {id : Nat} {Q : Exit → Act → World → Prop} {a : Act} {w : World} {l : List Oper} (C : World → Prop) (n : Nat) (hm : P.follows .mixedOrders = true) (hB : Region.lexTailB .any l.toArray n = true) (hC : C w.drew)
    (h : wpQuiet P l.toArray (fun w' => ∃ x : InC C, w' = x.w) (fun a' => ∀ w', (∃ x : InC C, w' = x.w) → wpList P l.toArray Q (l.drop n) a' w') (l.take n) a) : (Code.region id l.toArray true).wp P Q a w := by
  simp only [Region.lexTailB, Bool.and_eq_true, decide_eq_true_eq] at hB
  obtain ⟨⟨⟨⟨hsel, hn⟩, hs⟩, hc⟩, hlex⟩ := hB
  have hn' : n < l.length := by simpa using hn
  have htl : (l.take n).length = n := by simp; omega
  have hdl : (l.drop n).length = l.toArray.size - n := by simp
  have inv0 : HeadInv .any l.toArray n (Array.replicate l.toArray.size false) :=
    ⟨by simp, fun j oj _ hl => (by rw [getD_replicate_false] at hl; cases hl), fun t _ ht => getD_in (by simpa using ht) (getD_replicate_false _ _)⟩
  have H := anyHead_lex (md := .any) (g := l.toArray.size - n) hsel hs hc hn (l.take n) 0 _ a (fun j hj => by
    have hj' : j < n := by rw [htl] at hj; exact hj
    simp [hj']) (by simpa using htl) inv0 (by rw [htl]; exact hlex) h
  refine wp_region_any hm ?_
  have := any_of_head (Q' := Q) (g := l.toArray.size - n) (fun listed a' w' hw' hL => by
    have := wpAny_of_seq (md := .any) (Q' := Q) (l.drop n) n listed a' w' (fun j => by simp [List.getElem?_drop]) (by rw [hdl]; exact hL.1) (hL.2 w' hw')
    rwa [hdl] at this) _ _ _ { w with drawn := w.drawn + 1 } ⟨⟨_, hC⟩, rfl⟩ H
  rw [htl, show n + (l.toArray.size - n) = l.toArray.size by omega] at this
  exact this

/-! ### words by spots -/
def Mem.word (M : Mem) (k x : Int) : Nat := match cellAt M.c k x with | some n => M.ws.getD n 0 | none => 0
structure Mem.Wf (M : Mem) : Prop where
  len : M.ws.length = lenOf M.c
theorem MemAt.wf {w : World} {bm bw : Nat} {M : Mem} (h : MemAt w bm bw M) : M.Wf := ⟨h.len⟩
theorem Mem.load_val (M : Mem) (k x : Int) : (M.load k x).2 = M.word k x := by
  unfold Mem.load Mem.word
  cases cellAt M.c k x <;> rfl
theorem Mem.load_ws (M : Mem) (hM : M.Wf) (k x : Int) : (M.load k x).1.ws = M.ws ∧ (M.load k x).1.c = M.c := by
  unfold Mem.load
  split
  · rename_i n hc
    refine ⟨?_, rfl⟩
    have hn : n < M.ws.length := by rw [hM.len]; exact cell_lt hc
    show M.ws.set n (M.ws.getD n 0) = M.ws
    apply List.ext_getElem?
    intro i
    rw [List.getElem?_set]
    split
    · rename_i e; subst e; simp [hn]
    · rfl
  · exact ⟨rfl, rfl⟩
theorem Mem.word_congr {M M' : Mem} (h1 : M'.ws = M.ws) (h2 : M'.c = M.c) (k x : Int) : M'.word k x = M.word k x := by unfold Mem.word; rw [h1, h2]
theorem Mem.put_word (M : Mem) (hM : M.Wf) (kd k x : Int) (n old new : Nat) (d : Bool) (hc : cellAt M.c k x = some n) (k' x' : Int) :
    (M.put kd k x n old new d).word k' x' = if k' = k ∧ x' = x then new else M.word k' x' := by
  have hn : n < M.ws.length := by rw [hM.len]; exact cell_lt hc
  unfold Mem.word
  show (match cellAt M.c k' x' with | some m => (M.ws.set n new).getD m 0 | none => 0) = _
  by_cases he : k' = k ∧ x' = x
  · obtain ⟨rfl, rfl⟩ := he
    rw [hc]; simp [hn]
  · rw [if_neg he]
    cases h' : cellAt M.c k' x' with
    | none => rfl
    | some m =>
      have hne : n ≠ m := fun e => he (by subst e; exact cell_inj h' hc)
      simp only
      rw [List.getD_eq_getElem?_getD, List.getD_eq_getElem?_getD, List.getElem?_set_ne hne]
theorem Mem.put_wf (M : Mem) (hM : M.Wf) (kd k x : Int) (n old new : Nat) (d : Bool) : (M.put kd k x n old new d).Wf ∧ (M.put kd k x n old new d).c = M.c :=
  ⟨⟨by show (M.ws.set n new).length = _; rw [List.length_set]; exact hM.len⟩, rfl⟩
theorem Mem.load_wf (M : Mem) (hM : M.Wf) (k x : Int) : (M.load k x).1.Wf := ⟨by rw [(M.load_ws hM k x).1, (M.load_ws hM k x).2]; exact hM.len⟩
theorem Mem.store_wf (M : Mem) (hM : M.Wf) (k x : Int) (v : Nat) : (M.store k x v).Wf ∧ (M.store k x v).c = M.c := by
  unfold Mem.store
  split
  · exact M.put_wf hM ..
  · exact ⟨⟨hM.len⟩, rfl⟩
theorem Mem.store_word (M : Mem) (hM : M.Wf) (k x : Int) (v : Nat) (hc : (cellAt M.c k x).isSome = true) (k' x' : Int) : (M.store k x v).word k' x' = if k' = k ∧ x' = x then v else M.word k' x' := by
  obtain ⟨n, hn⟩ := Option.isSome_iff_exists.1 hc
  unfold Mem.store
  rw [hn]
  exact M.put_word hM _ _ _ _ _ _ _ hn _ _
theorem Mem.store_miss (M : Mem) (k x : Int) (v : Nat) (hc : cellAt M.c k x = none) (k' x' : Int) : (M.store k x v).word k' x' = M.word k' x' := by
  unfold Mem.store
  rw [hc]
  rfl
theorem Mem.swap_wf (M : Mem) (hM : M.Wf) (k x : Int) (a b : Nat) : (M.swap k x a b).1.Wf ∧ (M.swap k x a b).1.c = M.c := by
  unfold Mem.swap
  split
  · split <;> exact M.put_wf hM ..
  · exact ⟨⟨hM.len⟩, rfl⟩
theorem Mem.swap_yes (M : Mem) (hM : M.Wf) (k x : Int) (a b : Nat) (hc : (cellAt M.c k x).isSome = true) (h : M.word k x = a) :
    (M.swap k x a b).2 = true ∧ ∀ k' x', (M.swap k x a b).1.word k' x' = if k' = k ∧ x' = x then b else M.word k' x' := by
  obtain ⟨n, hn⟩ := Option.isSome_iff_exists.1 hc
  have h' : M.ws.getD n 0 = a := by rw [← h]; unfold Mem.word; rw [hn]
  unfold Mem.swap
  rw [hn]
  simp only [if_pos h']
  exact ⟨trivial, fun k' x' => M.put_word hM _ _ _ _ _ _ _ hn _ _⟩
theorem Mem.swap_no (M : Mem) (hM : M.Wf) (k x : Int) (a b : Nat) (h : M.word k x ≠ a ∨ cellAt M.c k x = none) :
    (M.swap k x a b).2 = false ∧ ∀ k' x', (M.swap k x a b).1.word k' x' = M.word k' x' := by
  unfold Mem.swap
  cases hc : cellAt M.c k x with
  | none => exact ⟨rfl, fun _ _ => rfl⟩
  | some n =>
    have h' : ¬ M.ws.getD n 0 = a := by
      intro e
      rcases h with h | h
      · apply h; unfold Mem.word; rw [hc]; exact e
      · rw [hc] at h; cases h
    simp only [if_neg h']
    refine ⟨trivial, fun k' x' => ?_⟩
    rw [M.put_word hM _ _ _ _ _ _ _ hc]
    split
    · rename_i e
      obtain ⟨rfl, rfl⟩ := e
      unfold Mem.word; rw [hc]
    · rfl
theorem fresh_wf (c : Cfg) : (Mem.mk c (List.replicate (lenOf c) 0) ⟨0, 0, 0, 0, 0, false⟩ 0).Wf := ⟨by simp⟩
theorem fresh_word (c : Cfg) (k x : Int) (l : Tch) (m : Int) : (Mem.mk c (List.replicate (lenOf c) 0) l m).word k x = 0 := by
  unfold Mem.word
  split
  · rename_i n hn
    simp only [List.getD_eq_getElem?_getD, List.getElem?_replicate]
    split <;> rfl
  · rfl
/-- Which spots there are. -/
theorem cell_tally (c : Cfg) : (cellAt c 1 0).isSome = true := by simp [cellAt, spanAt]
theorem cell_slot (c : Cfg) (k : Int) (hk : 4 ≤ k ∧ k ≤ 7) (x : Nat) (hx : x < c.s) : (cellAt c k x).isSome = true := by
  have e : spanAt c k = (2 + c.t + (k - 4).toNat, c.s, 4) := by
    unfold spanAt
    rw [if_neg (by omega), if_neg (by omega), if_neg (by omega), if_pos hk]
  unfold cellAt
  rw [e]
  simp [hx]
theorem cell_key (c : Cfg) (x : Nat) (hx : x < c.k) : (cellAt c 8 x).isSome = true := by
  unfold cellAt spanAt
  simp [hx]
theorem cell_pin (c : Cfg) (x : Nat) (hx : x < c.t) : (cellAt c 3 x).isSome = true := by
  unfold cellAt spanAt
  simp [hx]
end Go.Proofs.Ytabkdmcmfecokaa
