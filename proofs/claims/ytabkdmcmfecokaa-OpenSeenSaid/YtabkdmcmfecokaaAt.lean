/- The walks of package chart: which spot stands in a cell. -/
import Derived.Test.YtabkdmcmfecokaaRows
import Derived.Test.YtabkdmcmfecokaaSpot
import Derived.LoopTactic
namespace Go.Proofs.Ytabkdmcmfecokaa
open Go Go.RowKit

def cellI (c : Cfg) (kind x : Int) : Int := match cellAt c kind x with | some n => (n : Int) | none => -1
theorem Cell_calls (c : Cfg) (kind x : Int) (w : World) (hc : c.Ok) :
    Calls Try.prog 71 #[c.V, .agg #[.int .i64 kind, .int .i64 x]] w fun e w' => e = .returned (.int .i64 (cellI c kind x)) ∧ Grew w w' := by
  unfold cellI
  cases h : cellAt c kind x with
  | some n => exact Cell_some c kind x n w hc h
  | none => exact Cell_none c kind x w hc h
theorem cellI_other {c : Cfg} {k k' x y : Int} {n : Nat} (h : cellAt c k x = some n) (hk : k' ≠ k) : (cellI c k' y == (n : Int)) = false := by
  rw [beq_eq_false_iff_ne]
  unfold cellI
  cases h' : cellAt c k' y with
  | none => simp
  | some m =>
    simp only
    intro e
    have : m = n := by omega
    subst this
    exact hk (cell_inj h' h).1
theorem cellI_own {c : Cfg} {k x : Int} {n : Nat} (h : cellAt c k x = some n) : cellI c k x = n := by
  unfold cellI; rw [h]
theorem quot4 (a : Int) (y : Nat) : (a + (y : Int) * 4 - a).tdiv 4 = y := by
  rw [show a + (y : Int) * 4 - a = (y : Int) * 4 by omega]
  exact Int.mul_tdiv_cancel _ (by decide)
theorem cell_div {c : Cfg} {k x : Int} {n : Nat} (h : cellAt c k x = some n) : ((n : Int) - (spanAt c k).1).tdiv (spanAt c k).2.2 = x ∧ 1 ≤ (spanAt c k).2.2 := by
  unfold cellAt at h
  split at h
  · rename_i h1
    have h2 := Option.some.inj h
    obtain ⟨y, rfl⟩ := Int.eq_ofNat_of_zero_le h1.1
    have hp : (spanAt c k).2.2 = 1 ∨ (spanAt c k).2.2 = 4 ∨ (spanAt c k).2.1 = 0 := by
      unfold spanAt
      repeat' split
      all_goals simp
    rw [← h2]
    rcases hp with hp | hp | hp
    · rw [hp]; simp
      try omega
    · rw [hp]
      refine ⟨?_, by omega⟩
      have := quot4 ((spanAt c k).1 : Int) y
      simpa using this
    · omega
  · cases h
set_option maxRecDepth 10000 in
set_option maxHeartbeats 1000000 in
theorem At_some (c : Cfg) (kind : Nat) (x : Int) (n : Nat) (w : World) (hc : c.Ok) (h : cellAt c kind x = some n) :
    Calls Try.prog 29 #[c.V, .int .i64 n] w fun e w' => e = .returned (.agg #[.int .i64 kind, .int .i64 x]) ∧ Grew w w' := by
  have hl := cell_lt h
  have hl1 : lenOf c ≤ 200 := by
    have h1 := hc.t2; have h2 := hc.s2; have h3 := hc.k2
    unfold lenOf; omega
  have hk : 1 ≤ kind ∧ kind ≤ 8 := by
    have := cell_kind h
    have : 1 ≤ (kind : Int) ∧ (kind : Int) ≤ 8 := by
      rcases this with h' | h'
      · exact ⟨h'.1, h'.2.1⟩
      · exact absurd hc h'
    omega
  have hlen := Lib.hid (fun w => Len_calls c w hc)
  have hof := Lib.hid (fun k w => of_calls c k w hc)
  have hcell := Lib.hid (fun k x w => Cell_calls c k x w hc)
  have hoth := Lib.hid (fun k' y hk => @cellI_other c kind k' x y n h hk)
  have hown := Lib.hid (cellI_own h)
  have hdiv := Lib.hid (cell_div h)
  have hsm := Lib.hid (fun k => span_small c k hc)
  have hone : Hid (∀ k : Nat, 1 ≤ k → k ≤ 8 → 1 ≤ (spanAt c k).2.2) := Lib.hid (by
    intro k h1 h2
    unfold spanAt
    repeat' split
    all_goals (simp; try omega))
  have hll : ∃ L : Nat, L = lenOf c := ⟨_, rfl⟩
  obtain ⟨L, hL⟩ := hll
  rw [← hL] at hlen hl hl1
  clear h hc hL
  have hb := Lib.hid hk.1
  have hb2 := hk.2
  have hspan : ∃ S : Int → Nat × Nat × Nat, S = spanAt c := ⟨_, rfl⟩
  obtain ⟨S, hS⟩ := hspan
  rw [← hS] at hof hdiv hsm hone
  have hcI : ∃ I : Int → Int → Int, I = cellI c := ⟨_, rfl⟩
  obtain ⟨I, hI⟩ := hcI
  rw [← hI] at hcell hoth hown
  clear hS hI
  obtain ⟨t, s, k, g, q⟩ := c
  simp only [Cfg.V] at *
  have hn0 : ¬ ((n : Int) < 0) := by omega
  have hnL : ¬ (L ≤ n) := by omega
  go_enter Try.func29, Try.ntmps29
  go_wp2_with fail
  refine (hlen.out _).mono ?_
  rintro e w1 ⟨rfl, hg1⟩
  have f1 := hg1.blk (alloc_blk _ (alloc_new _ _))
  have f2 := hg1.blk (alloc_new _ _)
  simp only [World.size_alloc] at f2
  go_wp2_with fail
  go_loopw [5] (fun i wr => ∃ j : Nat, i = .int .i64 j ∧ 1 ≤ j ∧ j ≤ kind ∧ Grew w1 wr) (fun i _ => 9 - (intOf i).toNat)
  case atStart => exact ⟨1, rfl, by omega, hb.out, Grew.refl _⟩
  case round =>
    obtain ⟨j, rfl, hj1, hj2, hg2⟩ := hrel
    have hj8 : j ≤ 8 := by omega
    have f3 := hg2.blk f1
    have f4 := hg2.blk f2
    obtain ⟨c1, d1, e1⟩ := blk_facts f3
    go_wp2_with fail
    refine (hof.out _ _).mono ?_
    rintro e w3 ⟨rfl, hg3⟩
    have hs := hsm.out j
    have ho := hone.out j hj1 hj8
    have hbr : (j = kind ∧ ((n : Int) - ((S j).1 : Nat)).tdiv ((S j).2.2 : Nat) = x ∧ I j x = n) ∨ (j ≠ kind ∧ ∀ y, (I j y == (n : Int)) = false) := by
      by_cases hjk : j = kind
      · subst hjk; exact .inl ⟨rfl, hdiv.out.1, hown.out⟩
      · exact .inr ⟨hjk, fun y => hoth.out j y (by omega)⟩
    generalize S j = Z at *
    obtain ⟨a, m, p⟩ := Z
    simp only at *
    have f5 := hg3.blk f3
    have f6 := hg3.blk f4
    clear c1 d1 e1
    obtain ⟨c1, d1, e1⟩ := blk_facts f5
    obtain ⟨-, d2, e2⟩ := blk_facts f6
    have hp0 : ((p : Int) == 0) = false := by rw [beq_eq_false_iff_ne]; omega
    obtain ⟨hs1, hs2, hs3, -⟩ := hs
    go_wp2_with fail
    refine (hcell.out _ _ _).mono ?_
    rintro e w4 ⟨rfl, hg4⟩
    have f7 := hg4.blk (alloc_blk _ (alloc_blk _ f6))
    have f8 := hg4.blk (alloc_new _ _)
    simp only [World.size_alloc] at f8
    clear c1 d1 e1 d2 e2 f5 f6 f3 f4 f1 f2
    obtain ⟨c1, d1, e1⟩ := blk_facts f7
    obtain ⟨c2, d2, e2⟩ := blk_facts f8
    have hgw : Grew w1 w4 := (by (repeat (first | with_reducible exact Grew.refl _ | with_reducible refine Grew.alloc ?_ _ | with_reducible refine Grew.drew ?_ | with_reducible refine Grew.drewN ?_ _ | with_reducible refine Grew.plus ?_ _ _ | (with_reducible refine Grew.setCell ?_ ?_ _; rotate_left; first | omega | (simp only [World.size_alloc, World.size_setCell, World.size_drew, size_plus] at *; omega)) | with_reducible exact hg2 | with_reducible refine Grew.trans ?_ hg2 | with_reducible exact hg3 | with_reducible refine Grew.trans ?_ hg3 | with_reducible exact hg4 | with_reducible refine Grew.trans ?_ hg4)))
    clear f7 f8
    rcases hbr with ⟨rfl, hq, hI⟩ | ⟨hne, hI⟩
    · have hnn : ((n : Int) == n) = true := by simp
      rw [hq, hI]
      go_wp2_with fail
      refine bodyPost_ret (v := .agg #[.int .i64 j, .int .i64 x]) ?_ rfl ⟨rfl, ?_⟩
      · simp [results, Try.results29, go_sem, c1]
      · have h0 : w.heap.size + 2 ≤ w1.heap.size := by have := hg1.size; simpa using this
        have := hgw.size
        refine Grew.setCell (Grew.setCell ?_ (by simp) _) (by simp) _
        exact (by (repeat (first | with_reducible exact Grew.refl _ | with_reducible refine Grew.alloc ?_ _ | with_reducible refine Grew.drew ?_ | with_reducible refine Grew.drewN ?_ _ | with_reducible refine Grew.plus ?_ _ _ | (with_reducible refine Grew.setCell ?_ ?_ _; rotate_left; first | omega | (simp only [World.size_alloc, World.size_setCell, World.size_drew, size_plus] at *; omega)) | with_reducible exact hg1 | with_reducible refine Grew.trans ?_ hg1 | with_reducible exact hgw | with_reducible refine Grew.trans ?_ hgw)))
    · have hI' := hI (((n : Int) - a).tdiv p)
      clear hI
      generalize I j (((n : Int) - a).tdiv p) = y at *
      go_wp2_with fail
      go_roundw
      case rel => exact ⟨j + 1, by go_num, by omega, by omega, hgw⟩
      case measure => simp [intOf]; omega
end Go.Proofs.Ytabkdmcmfecokaa
