/- The walks of package chart. -/
import Derived.Test.YtabkdmcmfecokaaRows
import Derived.Test.YtabkdmcmfecokaaMix
import Derived.Test.YtabkdmcmfecokaaWords
import Derived.Test.YtabkdmcmfecokaaTicket
import Derived.Test.YtabkdmcmfecokaaVal
namespace Go.Proofs.Ytabkdmcmfecokaa
open Go Go.RowKit

def clampI (n a b : Int) : Int := max a (min n b)
set_option maxHeartbeats 400000 in
theorem to_calls (n a b : Int) (w : World) :
    Calls Try.prog 115 #[.int .i64 n, .int .i64 a, .int .i64 b] w fun e w' => e = .returned (.int .i64 (clampI n a b)) ∧ w = w' := by
  go_enter Try.func115, Try.ntmps115
  go_wp2
  all_goals
    go_ret
    exact ⟨ret_int (by unfold clampI; omega), rfl⟩

/-- '==' of two worlds' greatness. -/
theorem cfg_eq (w : World) (a b c d e a' b' c' d' e' : Int) : (Op.equalIn 10000 24 (.agg #[.int .i64 a, .int .i64 b, .int .i64 c, .int .i64 d, .int .u64 e]) (.agg #[.int .i64 a', .int .i64 b', .int .i64 c', .int .i64 d', .int .u64 e'])).run Try.prog w = .ok (a == a' && (b == b' && (c == c' && (d == d' && e == e')))) w := by
  unfold Op.equalIn
  simp [run_underlying Try.underlying24]
  simp [go_sem]
  by_cases h1 : a = a' <;> by_cases h2 : b = b' <;> by_cases h3 : c = c' <;> by_cases h4 : d = d' <;> by_cases h5 : e = e' <;> simp [h1, h2, h3, h4, h5]

/-- Which worlds there are. -/
def rightB (t s k g : Int) (q : Nat) : Bool := decide (1 ≤ t ∧ t ≤ 8 ∧ 1 ≤ s ∧ s ≤ 12 ∧ 1 ≤ k ∧ k ≤ 8 ∧ 0 ≤ g ∧ g ≤ 1073741823 ∧ q ≤ 1099511627775)
theorem right_val (t s k g : Int) (q : Nat) (h : q ≤ 1099511627775) : (t == clampI t 1 8 && (s == clampI s 1 12 && (k == clampI k 1 8 && (g == clampI g 0 1073741823 && ((q : Int) == (q : Int)))))) = rightB t s k g q := by
  unfold rightB clampI
  rw [Bool.eq_iff_iff]
  simp only [Bool.and_eq_true, beq_iff_eq, decide_eq_true_eq, and_true]
  omega
theorem right_val' (t s k g : Int) (q : Nat) (h : 1099511627775 < q) : (t == clampI t 1 8 && (s == clampI s 1 12 && (k == clampI k 1 8 && (g == clampI g 0 1073741823 && ((q : Int) == 1099511627775))))) = rightB t s k g q := by
  unfold rightB clampI
  rw [Bool.eq_iff_iff]
  simp only [Bool.and_eq_true, beq_iff_eq, decide_eq_true_eq]
  omega

set_option maxRecDepth 200000 in
set_option maxHeartbeats 400000 in
theorem Right_calls (t s k g : Int) (q : Nat) (w : World) :
    Calls Try.prog 85 #[.agg #[.int .i64 t, .int .i64 s, .int .i64 k, .int .i64 g, .int .u64 q]] w fun e w' => e = .returned (.bool (rightB t s k g q)) ∧ Grew w w' := by
  rcases Nat.lt_or_ge 1099511627775 q with hq | hq
  · have hr := Lib.hid (right_val' t s k g q hq)
    go_enter Try.func85, Try.ntmps85
    go_wp2_with fail
    refine wp_region_mix [16] 17 (by kernel_rfl) (by kernel_rfl) ?_
    simp only [List.take_succ_cons, List.take_zero, List.drop_succ_cons, List.drop_zero]
    repeat
      (refine mix_known ?_ ?_ (by rfl) (fun W K hW hK => ?_) ?_ ?_
       rotate_left 2
       · obtain ⟨os, n, rfl⟩ := hW
         go_simp
         first | done | exact hK _ (Grew.refl _)
       · simp only [Act.put, List.setIfInBounds_toArray, List.set_cons_zero, List.set_cons_succ]
         first | done | rfl)
    refine mix_known ?_ ?_ (by rfl) (fun W K hW hK => ?_) ?_ ?_
    rotate_left 2
    · obtain ⟨os, n, rfl⟩ := hW
      go_simp
      refine (calls_grew (to_calls t 1 8 _)).mono ?_
      rintro e W2 ⟨rfl, hg⟩
      refine ⟨_, rfl, ?_⟩
      exact hK _ hg
    · simp only [Act.put, List.setIfInBounds_toArray, List.set_cons_zero, List.set_cons_succ]
      first | done | rfl
    repeat
      (refine mix_known ?_ ?_ (by rfl) (fun W K hW hK => ?_) ?_ ?_
       rotate_left 2
       · obtain ⟨os, n, rfl⟩ := hW
         go_simp
         first | done | exact hK _ (Grew.refl _)
       · simp only [Act.put, List.setIfInBounds_toArray, List.set_cons_zero, List.set_cons_succ]
         first | done | rfl)
    refine mix_known ?_ ?_ (by rfl) (fun W K hW hK => ?_) ?_ ?_
    rotate_left 2
    · obtain ⟨os, n, rfl⟩ := hW
      go_simp
      refine (calls_grew (to_calls s 1 12 _)).mono ?_
      rintro e W2 ⟨rfl, hg⟩
      refine ⟨_, rfl, ?_⟩
      exact hK _ hg
    · simp only [Act.put, List.setIfInBounds_toArray, List.set_cons_zero, List.set_cons_succ]
      first | done | rfl
    repeat
      (refine mix_known ?_ ?_ (by rfl) (fun W K hW hK => ?_) ?_ ?_
       rotate_left 2
       · obtain ⟨os, n, rfl⟩ := hW
         go_simp
         first | done | exact hK _ (Grew.refl _)
       · simp only [Act.put, List.setIfInBounds_toArray, List.set_cons_zero, List.set_cons_succ]
         first | done | rfl)
    refine mix_known ?_ ?_ (by rfl) (fun W K hW hK => ?_) ?_ ?_
    rotate_left 2
    · obtain ⟨os, n, rfl⟩ := hW
      go_simp
      refine (calls_grew (to_calls k 1 8 _)).mono ?_
      rintro e W2 ⟨rfl, hg⟩
      refine ⟨_, rfl, ?_⟩
      exact hK _ hg
    · simp only [Act.put, List.setIfInBounds_toArray, List.set_cons_zero, List.set_cons_succ]
      first | done | rfl
    repeat
      (refine mix_known ?_ ?_ (by rfl) (fun W K hW hK => ?_) ?_ ?_
       rotate_left 2
       · obtain ⟨os, n, rfl⟩ := hW
         go_simp
         first | done | exact hK _ (Grew.refl _)
       · simp only [Act.put, List.setIfInBounds_toArray, List.set_cons_zero, List.set_cons_succ]
         first | done | rfl)
    refine mix_known ?_ ?_ (by rfl) (fun W K hW hK => ?_) ?_ ?_
    rotate_left 2
    · obtain ⟨os, n, rfl⟩ := hW
      go_simp
      refine (calls_grew (to_calls g 0 1073741823 _)).mono ?_
      rintro e W2 ⟨rfl, hg⟩
      refine ⟨_, rfl, ?_⟩
      exact hK _ hg
    · simp only [Act.put, List.setIfInBounds_toArray, List.set_cons_zero, List.set_cons_succ]
      first | done | rfl
    repeat
      (refine mix_known ?_ ?_ (by rfl) (fun W K hW hK => ?_) ?_ ?_
       rotate_left 2
       · obtain ⟨os, n, rfl⟩ := hW
         go_simp
         first | done | exact hK _ (Grew.refl _)
       · simp only [Act.put, List.setIfInBounds_toArray, List.set_cons_zero, List.set_cons_succ]
         first | done | rfl)
    refine mix_alloc (.cells #[.int .i64 0, .int .i64 0, .int .i64 0, .int .i64 0, .int .u64 0] 24) (by rfl) (fun W ρ => by go_simp) ?_
    intro b W hW hs hd hb hΓ
    have eb := frame_puts hs hd hb
    simp only [List.map, List.foldl, Option.getD_some, Act.put, List.setIfInBounds_toArray, List.set_cons_zero, List.set_cons_succ] at eb
    obtain ⟨B, hB, hn, hh⟩ := hΓ _ _ (List.mem_singleton.2 rfl)
    simp only [Option.getD_some] at hB
    rw [hB] at eb
    subst eb
    clear hs hd hb hΓ hB
    have f0 := hW.blk (alloc_new _ _)
    obtain ⟨c0, d0, e0⟩ := blk_facts f0
    obtain ⟨c1, d1, e1⟩ := blk_facts hh
    have HW := Lib.hid hW
    have ce := cfg_eq
    clear hW f0 hh
    have hne : w.heap.size ≠ B := by simp at hn; omega
    have hne' : B ≠ w.heap.size := by omega
    have hB0 : w.heap.size ≤ B := by simp at hn; omega
    go_wp2
    go_ret
    exact ⟨ret_bool hr.out, (((((((Grew.refl w).alloc _).trans HW.out).setCell hB0 _).setCell hB0 _).setCell hB0 _).setCell hB0 _).setCell hB0 _⟩
  · have hr := right_val t s k g q hq
    have hz : ∃ z : Int, (q : Int) = z := ⟨_, rfl⟩
    obtain ⟨z, hz⟩ := hz
    have h9 : z ≤ 1099511627775 := by omega
    have hzz : (z == z) = true := by simp
    rw [hz] at hr
    rw [hz]
    clear hq hz
    rw [hzz, Bool.and_true] at hr
    replace hr := Lib.hid hr
    clear hzz
    go_enter Try.func85, Try.ntmps85
    go_wp2_with fail
    refine wp_region_mix [16] 17 (by kernel_rfl) (by kernel_rfl) ?_
    simp only [List.take_succ_cons, List.take_zero, List.drop_succ_cons, List.drop_zero]
    repeat
      (refine mix_known ?_ ?_ (by rfl) (fun W K hW hK => ?_) ?_ ?_
       rotate_left 2
       · obtain ⟨os, n, rfl⟩ := hW
         go_simp
         first | done | exact hK _ (Grew.refl _)
       · simp only [Act.put, List.setIfInBounds_toArray, List.set_cons_zero, List.set_cons_succ]
         first | done | rfl)
    refine mix_known ?_ ?_ (by rfl) (fun W K hW hK => ?_) ?_ ?_
    rotate_left 2
    · obtain ⟨os, n, rfl⟩ := hW
      go_simp
      refine (calls_grew (to_calls t 1 8 _)).mono ?_
      rintro e W2 ⟨rfl, hg⟩
      refine ⟨_, rfl, ?_⟩
      exact hK _ hg
    · simp only [Act.put, List.setIfInBounds_toArray, List.set_cons_zero, List.set_cons_succ]
      first | done | rfl
    repeat
      (refine mix_known ?_ ?_ (by rfl) (fun W K hW hK => ?_) ?_ ?_
       rotate_left 2
       · obtain ⟨os, n, rfl⟩ := hW
         go_simp
         first | done | exact hK _ (Grew.refl _)
       · simp only [Act.put, List.setIfInBounds_toArray, List.set_cons_zero, List.set_cons_succ]
         first | done | rfl)
    refine mix_known ?_ ?_ (by rfl) (fun W K hW hK => ?_) ?_ ?_
    rotate_left 2
    · obtain ⟨os, n, rfl⟩ := hW
      go_simp
      refine (calls_grew (to_calls s 1 12 _)).mono ?_
      rintro e W2 ⟨rfl, hg⟩
      refine ⟨_, rfl, ?_⟩
      exact hK _ hg
    · simp only [Act.put, List.setIfInBounds_toArray, List.set_cons_zero, List.set_cons_succ]
      first | done | rfl
    repeat
      (refine mix_known ?_ ?_ (by rfl) (fun W K hW hK => ?_) ?_ ?_
       rotate_left 2
       · obtain ⟨os, n, rfl⟩ := hW
         go_simp
         first | done | exact hK _ (Grew.refl _)
       · simp only [Act.put, List.setIfInBounds_toArray, List.set_cons_zero, List.set_cons_succ]
         first | done | rfl)
    refine mix_known ?_ ?_ (by rfl) (fun W K hW hK => ?_) ?_ ?_
    rotate_left 2
    · obtain ⟨os, n, rfl⟩ := hW
      go_simp
      refine (calls_grew (to_calls k 1 8 _)).mono ?_
      rintro e W2 ⟨rfl, hg⟩
      refine ⟨_, rfl, ?_⟩
      exact hK _ hg
    · simp only [Act.put, List.setIfInBounds_toArray, List.set_cons_zero, List.set_cons_succ]
      first | done | rfl
    repeat
      (refine mix_known ?_ ?_ (by rfl) (fun W K hW hK => ?_) ?_ ?_
       rotate_left 2
       · obtain ⟨os, n, rfl⟩ := hW
         go_simp
         first | done | exact hK _ (Grew.refl _)
       · simp only [Act.put, List.setIfInBounds_toArray, List.set_cons_zero, List.set_cons_succ]
         first | done | rfl)
    refine mix_known ?_ ?_ (by rfl) (fun W K hW hK => ?_) ?_ ?_
    rotate_left 2
    · obtain ⟨os, n, rfl⟩ := hW
      go_simp
      refine (calls_grew (to_calls g 0 1073741823 _)).mono ?_
      rintro e W2 ⟨rfl, hg⟩
      refine ⟨_, rfl, ?_⟩
      exact hK _ hg
    · simp only [Act.put, List.setIfInBounds_toArray, List.set_cons_zero, List.set_cons_succ]
      first | done | rfl
    repeat
      (refine mix_known ?_ ?_ (by rfl) (fun W K hW hK => ?_) ?_ ?_
       rotate_left 2
       · obtain ⟨os, n, rfl⟩ := hW
         go_simp
         first | done | exact hK _ (Grew.refl _)
       · simp only [Act.put, List.setIfInBounds_toArray, List.set_cons_zero, List.set_cons_succ]
         first | done | rfl)
    refine mix_alloc (.cells #[.int .i64 0, .int .i64 0, .int .i64 0, .int .i64 0, .int .u64 0] 24) (by rfl) (fun W ρ => by go_simp) ?_
    intro b W hW hs hd hb hΓ
    have eb := frame_puts hs hd hb
    simp only [List.map, List.foldl, Option.getD_some, Act.put, List.setIfInBounds_toArray, List.set_cons_zero, List.set_cons_succ] at eb
    obtain ⟨B, hB, hn, hh⟩ := hΓ _ _ (List.mem_singleton.2 rfl)
    simp only [Option.getD_some] at hB
    rw [hB] at eb
    subst eb
    clear hs hd hb hΓ hB
    have f0 := hW.blk (alloc_new _ _)
    obtain ⟨c0, d0, e0⟩ := blk_facts f0
    obtain ⟨c1, d1, e1⟩ := blk_facts hh
    have HW := Lib.hid hW
    have ce := cfg_eq
    clear hW f0 hh
    have hne : w.heap.size ≠ B := by simp at hn; omega
    have hne' : B ≠ w.heap.size := by omega
    have hB0 : w.heap.size ≤ B := by simp at hn; omega
    go_wp2
    go_ret
    exact ⟨ret_bool hr.out, (((((((Grew.refl w).alloc _).trans HW.out).setCell hB0 _).setCell hB0 _).setCell hB0 _).setCell hB0 _).setCell hB0 _⟩

def Cfg.V (c : Cfg) : Value := .agg #[.int .i64 c.t, .int .i64 c.s, .int .i64 c.k, .int .i64 c.g, .int .u64 c.q]
theorem Cfg.Ok.right {c : Cfg} (h : c.Ok) : rightB c.t c.s c.k c.g c.q = true := by
  have := h.t1; have := h.t2; have := h.s1; have := h.s2; have := h.k1; have := h.k2; have := h.g2; have := h.q2
  unfold rightB
  rw [decide_eq_true_eq]
  omega
set_option maxHeartbeats 400000 in
theorem of_calls (c : Cfg) (kind : Int) (w : World) (hc : c.Ok) :
    Calls Try.prog 70 #[c.V, .int .i64 kind] w fun e w' => e = .returned (.agg #[.int .i64 (spanAt c kind).1, .int .i64 (spanAt c kind).2.1, .int .i64 (spanAt c kind).2.2]) ∧ Grew w w' := by
  have h1 := hc.t2; have h2 := hc.s2; have h3 := hc.k2
  clear hc
  obtain ⟨t, s, k, g, q⟩ := c
  simp only [Cfg.V] at *
  have hk : kind = 1 ∨ kind = 2 ∨ kind = 3 ∨ kind = 4 ∨ kind = 5 ∨ kind = 6 ∨ kind = 7 ∨ kind = 8 ∨ (kind ≠ 1 ∧ kind ≠ 2 ∧ kind ≠ 3 ∧ kind ≠ 4 ∧ kind ≠ 5 ∧ kind ≠ 6 ∧ kind ≠ 7 ∧ kind ≠ 8) := by omega
  rcases hk with rfl | rfl | rfl | rfl | rfl | rfl | rfl | rfl | ⟨k1, k2, k3, k4, k5, k6, k7, k8⟩
  rotate_right
  · have e0 : ¬ (4 ≤ kind ∧ kind ≤ 7) := by omega
    simp only [spanAt, k1, k2, k3, k8, e0, if_false]
    go_enter Try.func70, Try.ntmps70
    go_wp2
    refine bodyPost_ret (v := .agg #[.int .i64 0, .int .i64 0, .int .i64 0]) ?_ rfl ⟨rfl, (by (repeat (first | with_reducible exact Grew.refl _ | with_reducible refine Grew.alloc ?_ _ | with_reducible refine Grew.drew ?_ | with_reducible refine Grew.drewN ?_ _ | with_reducible refine Grew.plus ?_ _ _ | (with_reducible refine Grew.setCell ?_ ?_ _; rotate_left; first | omega | (simp only [World.size_alloc, World.size_setCell, World.size_drew, size_plus] at *; omega)))))⟩
    simp [results, Try.results70, go_sem]
  all_goals
    simp [spanAt]
    go_enter Try.func70, Try.ntmps70
    go_wp2
    refine bodyPost_ret ?_ rfl ⟨rfl, (by (repeat (first | with_reducible exact Grew.refl _ | with_reducible refine Grew.alloc ?_ _ | with_reducible refine Grew.drew ?_ | with_reducible refine Grew.drewN ?_ _ | with_reducible refine Grew.plus ?_ _ _ | (with_reducible refine Grew.setCell ?_ ?_ _; rotate_left; first | omega | (simp only [World.size_alloc, World.size_setCell, World.size_drew, size_plus] at *; omega)))))⟩
    simp [results, Try.results70, go_sem]
  all_goals omega
end Go.Proofs.Ytabkdmcmfecokaa
