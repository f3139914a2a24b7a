/- The walks of package chart: where spots stand. -/
import Derived.Test.YtabkdmcmfecokaaRows
import Derived.Test.YtabkdmcmfecokaaChart
namespace Go.Proofs.Ytabkdmcmfecokaa
open Go Go.RowKit

set_option maxHeartbeats 400000 in
theorem Len_calls (c : Cfg) (w : World) (hc : c.Ok) :
    Calls Try.prog 50 #[c.V] w fun e w' => e = .returned (.int .i64 (lenOf c)) ∧ Grew w w' := by
  have hr := hc.right
  have h1 := hc.t2; have h2 := hc.s2; have h3 := hc.k2
  have hs : spanAt c 8 = (2 + c.t + 4 * c.s, c.k, 1) := by simp [spanAt]
  have ho := of_calls c 8
  rw [hs] at ho
  have HO := Lib.hid ho
  have HR := Lib.hid hr
  have HC := Lib.hid hc
  clear hr hc hs ho
  obtain ⟨t, s, k, g, q⟩ := c
  unfold lenOf
  simp only [Cfg.V] at *
  go_enter Try.func50, Try.ntmps50
  go_wp2_with fail
  refine (Right_calls _ _ _ _ _ _).mono ?_
  rintro e w1 ⟨rfl, hg1⟩
  rw [HR.out]
  obtain ⟨c1, d1, e1⟩ := blk_facts (hg1.blk (alloc_new _ _))
  go_wp2_with fail
  refine (HO.out _ HC.out).mono ?_
  rintro e w2 ⟨rfl, hg2⟩
  go_wp2_with fail
  go_ret
  exact ⟨ret_int (by simp), (by (repeat (first | with_reducible exact Grew.refl _ | with_reducible refine Grew.alloc ?_ _ | with_reducible refine Grew.drew ?_ | with_reducible refine Grew.drewN ?_ _ | with_reducible refine Grew.plus ?_ _ _ | (with_reducible refine Grew.setCell ?_ ?_ _; rotate_left; first | omega | (simp only [World.size_alloc, World.size_setCell, World.size_drew, size_plus] at *; omega)) | with_reducible exact hg1 | with_reducible refine Grew.trans ?_ hg1 | with_reducible exact hg2 | with_reducible refine Grew.trans ?_ hg2)))⟩
set_option maxHeartbeats 400000 in
theorem Len_no (t s k g : Int) (q : Nat) (w : World) (hr : rightB t s k g q = false) :
    Calls Try.prog 50 #[.agg #[.int .i64 t, .int .i64 s, .int .i64 k, .int .i64 g, .int .u64 q]] w fun e w' => e = .returned (.int .i64 0) ∧ Grew w w' := by
  go_enter Try.func50, Try.ntmps50
  go_wp2_with fail
  refine (Right_calls _ _ _ _ _ _).mono ?_
  rintro e w1 ⟨rfl, hg1⟩
  rw [hr]
  go_wp2_with fail
  go_ret
  exact ⟨rfl, (by (repeat (first | with_reducible exact Grew.refl _ | with_reducible refine Grew.alloc ?_ _ | with_reducible refine Grew.drew ?_ | with_reducible refine Grew.drewN ?_ _ | with_reducible refine Grew.plus ?_ _ _ | (with_reducible refine Grew.setCell ?_ ?_ _; rotate_left; first | omega | (simp only [World.size_alloc, World.size_setCell, World.size_drew, size_plus] at *; omega)) | with_reducible exact hg1 | with_reducible refine Grew.trans ?_ hg1)))⟩

theorem span_eq (w : World) (a b c a' b' c' : Int) : (Op.equalIn 10000 137 (.agg #[.int .i64 a, .int .i64 b, .int .i64 c]) (.agg #[.int .i64 a', .int .i64 b', .int .i64 c'])).run Try.prog w = .ok (a == a' && (b == b' && c == c')) w := by
  unfold Op.equalIn
  simp [run_underlying Try.underlying137]
  simp [go_sem]
  by_cases h1 : a = a' <;> by_cases h2 : b = b' <;> by_cases h3 : c = c' <;> simp [h1, h2, h3]

set_option maxHeartbeats 400000 in
theorem Cell_some (c : Cfg) (kind x : Int) (n : Nat) (w : World) (hc : c.Ok) (h : cellAt c kind x = some n) :
    Calls Try.prog 71 #[c.V, .agg #[.int .i64 kind, .int .i64 x]] w fun e w' => e = .returned (.int .i64 n) ∧ Grew w w' := by
  have hr := hc.right
  have ho := of_calls c kind
  have hb : (spanAt c kind).1 ≤ 100 ∧ (spanAt c kind).2.1 ≤ 12 ∧ (spanAt c kind).2.2 ≤ 4 := by
    have h1 := hc.t2; have h2 := hc.s2; have h3 := hc.k2
    unfold spanAt
    repeat' split
    all_goals (simp; try omega)
  unfold cellAt at h
  obtain ⟨h0, h1⟩ : (0 ≤ x ∧ x < (spanAt c kind).2.1) ∧ n = (spanAt c kind).1 + x.toNat * (spanAt c kind).2.2 := by
    split at h
    · exact ⟨by assumption, (Option.some.inj h).symm⟩
    · cases h
  generalize spanAt c kind = S at *
  obtain ⟨a, m, p⟩ := S
  simp only at *
  obtain ⟨y, rfl⟩ := Int.eq_ofNat_of_zero_le h0.1
  have hm : y * p ≤ 12 * 4 := Nat.mul_le_mul (by omega) (by omega)
  have hv : (n : Int) = a + (y : Int) * p := by rw [h1]; simp
  have ce := span_eq
  have hz : ((m : Int) == 0) = false := by rw [beq_eq_false_iff_ne]; omega
  have HO := Lib.hid ho
  have HR := Lib.hid hr
  have HC := Lib.hid hc
  have HV := Lib.hid hv
  have hm' : (y : Int) * p ≤ 48 := by exact_mod_cast hm
  have hm0 : 0 ≤ (y : Int) * p := Int.mul_nonneg (by omega) (by omega)
  clear hr hc ho hv h h1 hm
  obtain ⟨t, s, k, g, q⟩ := c
  simp only [Cfg.V] at *
  go_enter Try.func71, Try.ntmps71
  go_wp2_with fail
  refine (HO.out _ HC.out).mono ?_
  rintro e w1 ⟨rfl, hg1⟩
  have f1 := hg1.blk (alloc_blk _ (alloc_new _ _))
  have f2 := hg1.blk (alloc_new _ _)
  simp only [World.size_alloc] at f2
  obtain ⟨c1, d1, e1⟩ := blk_facts f1
  obtain ⟨c2, d2, e2⟩ := blk_facts f2
  go_wp2_with fail
  refine (Right_calls _ _ _ _ _ _).mono ?_
  rintro e w2 ⟨rfl, hg2⟩
  rw [HR.out]
  have f3 := hg2.blk (alloc_blk _ f1)
  have f4 := hg2.blk (alloc_blk _ f2)
  have f5 := hg2.blk (alloc_new _ _)
  clear c1 d1 e1 c2 d2 e2
  obtain ⟨c1, d1, e1⟩ := blk_facts f3
  obtain ⟨c2, d2, e2⟩ := blk_facts f4
  obtain ⟨c3, d3, e3⟩ := blk_facts f5
  clear f1 f2 f3 f4 f5
  go_wp2_with fail
  go_ret
  exact ⟨ret_int (by rw [HV.out]), (by (repeat (first | with_reducible exact Grew.refl _ | with_reducible refine Grew.alloc ?_ _ | with_reducible refine Grew.drew ?_ | with_reducible refine Grew.drewN ?_ _ | with_reducible refine Grew.plus ?_ _ _ | (with_reducible refine Grew.setCell ?_ ?_ _; rotate_left; first | omega | (simp only [World.size_alloc, World.size_setCell, World.size_drew, size_plus] at *; omega)) | with_reducible exact hg1 | with_reducible refine Grew.trans ?_ hg1 | with_reducible exact hg2 | with_reducible refine Grew.trans ?_ hg2)))⟩
theorem span_small (c : Cfg) (kind : Int) (hc : c.Ok) : (spanAt c kind).1 ≤ 100 ∧ (spanAt c kind).2.1 ≤ 12 ∧ (spanAt c kind).2.2 ≤ 4 ∧ ((spanAt c kind).2.1 = 0 → spanAt c kind = (0, 0, 0)) := by
  have h1 := hc.t2; have h2 := hc.s2; have h3 := hc.k2
  have h4 := hc.t1; have h5 := hc.s1; have h6 := hc.k1
  unfold spanAt
  repeat' split
  all_goals (simp; try omega)
set_option maxHeartbeats 400000 in
theorem Cell_none (c : Cfg) (kind x : Int) (w : World) (hc : c.Ok) (h : cellAt c kind x = none) :
    Calls Try.prog 71 #[c.V, .agg #[.int .i64 kind, .int .i64 x]] w fun e w' => e = .returned (.int .i64 (-1)) ∧ Grew w w' := by
  have hr := hc.right
  have ho := of_calls c kind
  have hb := span_small c kind hc
  have h0 : ¬ (0 ≤ x ∧ x < (spanAt c kind).2.1) := by
    intro h1
    unfold cellAt at h
    rw [if_pos h1] at h; cases h
  clear h
  generalize spanAt c kind = S at *
  obtain ⟨a, m, p⟩ := S
  simp only [Prod.mk.injEq] at *
  have hcase : (m = 0 ∧ a = 0 ∧ p = 0) ∨ (((m : Int) == 0) = false ∧ x < 0) ∨ (((m : Int) == 0) = false ∧ ¬ x < 0 ∧ (m : Int) ≤ x) := by
    by_cases hm : m = 0
    · exact .inl ⟨hm, (hb.2.2.2 hm).1, (hb.2.2.2 hm).2.2⟩
    · have e0 : ((m : Int) == 0) = false := by rw [beq_eq_false_iff_ne]; omega
      by_cases hx : x < 0
      · exact .inr (.inl ⟨e0, hx⟩)
      · exact .inr (.inr ⟨e0, hx, by omega⟩)
  have ce := span_eq
  have HO := Lib.hid ho
  have HR := Lib.hid hr
  have HC := Lib.hid hc
  clear hr hc ho h0
  obtain ⟨h1, h2, h3, -⟩ := hb
  obtain ⟨t, s, k, g, q⟩ := c
  simp only [Cfg.V] at *
  rcases hcase with ⟨rfl, rfl, rfl⟩ | ⟨hz, hx⟩ | ⟨hz, hx, hx'⟩
  all_goals
    go_enter Try.func71, Try.ntmps71
    go_wp2_with fail
    refine (HO.out _ HC.out).mono ?_
    rintro e w1 ⟨rfl, hg1⟩
    have f1 := hg1.blk (alloc_blk _ (alloc_new _ _))
    have f2 := hg1.blk (alloc_new _ _)
    simp only [World.size_alloc] at f2
    obtain ⟨c1, d1, e1⟩ := blk_facts f1
    obtain ⟨c2, d2, e2⟩ := blk_facts f2
    go_wp2_with fail
    refine (Right_calls _ _ _ _ _ _).mono ?_
    rintro e w2 ⟨rfl, hg2⟩
    rw [HR.out]
    have f3 := hg2.blk (alloc_blk _ f1)
    have f4 := hg2.blk (alloc_blk _ f2)
    have f5 := hg2.blk (alloc_new _ _)
    clear c1 d1 e1 c2 d2 e2
    obtain ⟨c1, d1, e1⟩ := blk_facts f3
    obtain ⟨c2, d2, e2⟩ := blk_facts f4
    obtain ⟨c3, d3, e3⟩ := blk_facts f5
    clear f1 f2 f3 f4 f5
    go_wp2_with fail
    go_ret
    exact ⟨rfl, (by (repeat (first | with_reducible exact Grew.refl _ | with_reducible refine Grew.alloc ?_ _ | with_reducible refine Grew.drew ?_ | with_reducible refine Grew.drewN ?_ _ | with_reducible refine Grew.plus ?_ _ _ | (with_reducible refine Grew.setCell ?_ ?_ _; rotate_left; first | omega | (simp only [World.size_alloc, World.size_setCell, World.size_drew, size_plus] at *; omega)) | with_reducible exact hg1 | with_reducible refine Grew.trans ?_ hg1 | with_reducible exact hg2 | with_reducible refine Grew.trans ?_ hg2)))⟩

end Go.Proofs.Ytabkdmcmfecokaa
