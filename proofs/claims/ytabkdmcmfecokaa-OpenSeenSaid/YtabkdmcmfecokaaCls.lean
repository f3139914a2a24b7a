/- Regions that draw their order, in a class of worlds that is told by what holds of them; words of a memory by spots. -/
import Derived.Test.YtabkdmcmfecokaaStore
namespace Go.Proofs.Ytabkdmcmfecokaa
open Go Go.RowKit

/-- A world of a class. -/
structure InC (C : World → Prop) where
  w : World
  h : C w
theorem wp_region_cls {P : Program} {id : Nat} {Q : Exit → Act → World → Prop} {a : Act} {w : World} {l : List Oper} (C : World → Prop) (hm : P.follows .mixedOrders = true) (hB : Region.lexB .any l.toArray = true) (hC : C w.drew)
    (h : wpQuiet P l.toArray (fun w' => ∃ x : InC C, w' = x.w) (fun a' => ∀ w', (∃ x : InC C, w' = x.w) → Q .normal a' w') l a) : (Code.region id l.toArray true).wp P Q a w :=
  wp_region_quiet (C := fun w' => ∃ x : InC C, w' = x.w) hm hB ⟨⟨_, hC⟩, rfl⟩ (by simpa using h)
theorem quiet_cls {P : Program} {C : World → Prop} {f : FuncId} {args : Array Value} {v : Value} {x : InC C}
    (h : ∀ w', C w' → Calls P f args w' fun e w'' => e = .returned v ∧ C w'') : Calls P f args x.w fun e w'' => e = .returned v ∧ ∃ y : InC C, w'' = y.w :=
  (h x.w x.h).mono fun _ _ ⟨he, hc⟩ => ⟨he, ⟨_, hc⟩, rfl⟩
theorem wp_region_clsTail {P : Program} {id : Nat} {Q : Exit → Act → World → Prop} {a : Act} {w : World} {l : List Oper} (C : World → Prop) (n : Nat) (hm : P.follows .mixedOrders = true) (hB : Region.lexTailB .any l.toArray n = true) (hC : C w.drew)
    (h : wpQuiet P l.toArray (fun w' => ∃ x : InC C, w' = x.w) (fun a' => ∀ w', (∃ x : InC C, w' = x.w) → wpList P l.toArray Q (l.drop n) a' w') (l.take n) a) : (Code.region id l.toArray true).wp P Q a w := by
  simp only [Region.lexTailB, Bool.and_eq_true, decide_eq_true_eq] at hB
  obtain ⟨⟨⟨⟨hsel, hn⟩, hs⟩, hc⟩, hlex⟩ := hB
  have hn' : n < l.length := by simpa using hn
  have htl : (l.take n).length = n := by simp; omega
  have hdl : (l.drop n).length = l.toArray.size - n := by simp
  have inv0 : HeadInv .any l.toArray n (Array.replicate l.toArray.size false) :=
    ⟨by simp, fun j oj _ hl => (by rw [getD_replicate_false] at hl; cases hl), fun t _ ht => getD_in (by simpa using ht) (getD_replicate_false _ _)⟩
  have H := anyHead_lex (md := .any) (g := l.toArray.size - n) hsel hs hc hn (l.take n) 0 _ a (fun j hj => by
    have hj' : j < n := by rw [htl] at hj; exact hj
    simp [hj']) (by simpa using htl) inv0 (by rw [htl]; exact hlex) h
  refine wp_region_any hm ?_
  have := any_of_head (Q' := Q) (g := l.toArray.size - n) (fun listed a' w' hw' hL => by
    have := wpAny_of_seq (md := .any) (Q' := Q) (l.drop n) n listed a' w' (fun j => by simp [List.getElem?_drop]) (by rw [hdl]; exact hL.1) (hL.2 w' hw')
    rwa [hdl] at this) _ _ _ { w with drawn := w.drawn + 1 } ⟨⟨_, hC⟩, rfl⟩ H
  rw [htl, show n + (l.toArray.size - n) = l.toArray.size by omega] at this
  exact this

theorem MemAt.wf {w : World} {bm bw : Nat} {M : Mem} (h : MemAt w bm bw M) : M.Wf := ⟨h.len⟩
end Go.Proofs.Ytabkdmcmfecokaa
