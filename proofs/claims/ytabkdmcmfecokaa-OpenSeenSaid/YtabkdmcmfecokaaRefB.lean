/- The walks of the document's answer for layer 1, on. -/
import Derived.Test.YtabkdmcmfecokaaRows
import Derived.Test.YtabkdmcmfecokaaRefA
namespace Go.Proofs.Ytabkdmcmfecokaa
open Go Go.RowKit

theorem move_put (x s : Nat) (b : Bool) (hs : s < 8) : 134217728 * stState x ≤ x ∧ putN (x - 134217728 * stState x + 134217728 * s) 26 b = stMove x s b := by
  unfold putN stMove stState fld
  refine ⟨by omega, ?_⟩
  cases b
  · simp
    repeat' split
    all_goals omega
  · simp
    repeat' split
    all_goals omega
set_option maxRecDepth 10000 in
set_option maxHeartbeats 1000000 in
theorem rMove_calls (x s : Nat) (b : Bool) (w : World) (hx : U64 x) (hs : s < 8) :
    Calls Try.prog 64 #[.int .u64 x, .int .i64 s, .bool b] w fun e w' => e = .returned (.int .u64 (stMove x s b : Nat)) ∧ Grew w w' := by
  obtain ⟨h1, h2⟩ := move_put x s b hs
  have hst : stState x < 8 := fld_lt x 27 3
  have h3 : U64 (x - 134217728 * stState x + 134217728 * s) := by
    unfold U64 stState fld at *; omega
  have hp : ∀ w, Calls Try.prog 95 #[.int .i64 27] w fun e w' => e = .returned (.int .u64 134217728) ∧ w = w' := fun w => Power_calls 27 w (by decide)
  have hP := Lib.hid hp
  have hN := Lib.hid (fun w => number_calls x 27 3 w hx (by decide) (by decide))
  have hU := Lib.hid (fun w => rPut_calls (x - 134217728 * stState x + 134217728 * s) 26 b w h3 (by decide))
  rw [show fld x 27 3 = stState x from rfl] at hN
  rw [h2] at hU
  have hr : (s : Int).tmod 8 = s := by rw [Int.tmod_eq_emod_of_nonneg (by omega)]; omega
  have hv : ((x - 134217728 * stState x + 134217728 * s : Nat) : Int) = (x : Int) - 134217728 * stState x + 134217728 * s := by omega
  have hw2 : IntKind.u64.wrap ((x : Int) - 134217728 * (stState x : Nat)) = (x : Int) - 134217728 * (stState x : Nat) := by
    rw [show (x : Int) - 134217728 * (stState x : Nat) = ((x - 134217728 * stState x : Nat) : Int) by omega]; exact u64_wrap_small _ (by unfold U64 at hx; omega)
  have hw3 : IntKind.u64.wrap ((x : Int) - 134217728 * (stState x : Nat) + 134217728 * s) = (x : Int) - 134217728 * (stState x : Nat) + 134217728 * s := by
    rw [← hv]; exact u64_wrap_small _ h3
  rw [hv] at hU
  clear h1 h2 h3 hv hx hp
  generalize stState x = st at *
  go_enter Try.func64, Try.ntmps64
  go_wp2_with fail
  refine (hP.out _).mono ?_
  rintro e w1 ⟨rfl, rfl⟩
  go_wp2_with fail
  refine (hN.out _).mono ?_
  rintro e w2 ⟨rfl, hg2⟩
  go_wp2_with fail
  refine (hP.out _).mono ?_
  rintro e w3 ⟨rfl, rfl⟩
  go_wp2_with fail
  refine (hU.out _).mono ?_
  rintro e w4 ⟨rfl, rfl⟩
  go_wp2_with fail
  go_ret
  exact ⟨rfl, hg2⟩

theorem new_bits (s g : Nat) : putN (putN (putN (stNew s g) 24 false) 25 false) 26 false = stNew s g := by
  have h : ∀ k, k = 24 ∨ k = 25 ∨ k = 26 → putN (stNew s g) k false = stNew s g := by
    intro k hk
    unfold putN fld stNew
    rcases hk with rfl | rfl | rfl
    all_goals
      simp
      omega
  rw [h 24 (by simp), h 25 (by simp), h 26 (by simp)]
set_option maxRecDepth 10000 in
set_option maxHeartbeats 1000000 in
theorem rPack_calls (s g : Nat) (w : World) (hs : s < 8) (hg : g ≤ 1073741824) :
    Calls Try.prog 72 #[.agg #[.int .i64 g, .int .i64 s, .bool false, .bool false, .bool false, .int .i64 0, .int .i64 0]] w fun e w' => e = .returned (.tuple #[.int .u64 (stNew s g), .bool true]) ∧ Grew w w' := by
  have hn := new_bits s g
  have hU : U64 (stNew s g) := by unfold U64 stNew; omega
  have h24 : putN (stNew s g) 24 false = stNew s g := by unfold putN fld stNew; simp; omega
  have h25 : putN (stNew s g) 25 false = stNew s g := by unfold putN fld stNew; simp; omega
  have h26 : putN (stNew s g) 26 false = stNew s g := by unfold putN fld stNew; simp; omega
  have hA := Lib.hid (fun w => rPut_calls (stNew s g) 24 false w hU (by decide))
  have hB := Lib.hid (fun w => rPut_calls (stNew s g) 25 false w hU (by decide))
  have hC := Lib.hid (fun w => rPut_calls (stNew s g) 26 false w hU (by decide))
  rw [h24] at hA
  rw [h25] at hB
  rw [h26] at hC
  have hp1 : ∀ w, Calls Try.prog 95 #[.int .i64 27] w fun e w' => e = .returned (.int .u64 134217728) ∧ w = w' := fun w => Power_calls 27 w (by decide)
  have hp2 : ∀ w, Calls Try.prog 95 #[.int .i64 30] w fun e w' => e = .returned (.int .u64 1073741824) ∧ w = w' := fun w => Power_calls 30 w (by decide)
  have hP1 := Lib.hid hp1
  have hP2 := Lib.hid hp2
  clear hp1 hp2 h24 h25 h26 hn hU
  go_enter Try.func72, Try.ntmps72
  go_wp2_with fail
  have k1 := alloc_new w (.cells #[.int .i64 g, .int .i64 s, .bool false, .bool false, .bool false, .int .i64 0, .int .i64 0] 142)
  have hga : Grew w (w.alloc (.cells #[.int .i64 g, .int .i64 s, .bool false, .bool false, .bool false, .int .i64 0, .int .i64 0] 142)) := (by (repeat (first | with_reducible exact Grew.refl _ | with_reducible refine Grew.alloc ?_ _ | with_reducible refine Grew.drew ?_ | with_reducible refine Grew.drewN ?_ _ | with_reducible refine Grew.plus ?_ _ _ | (with_reducible refine Grew.setCell ?_ ?_ _; rotate_left; first | omega | (simp only [World.size_alloc, World.size_setCell, World.size_drew, size_plus] at *; omega)))))
  generalize w.alloc (.cells #[.int .i64 g, .int .i64 s, .bool false, .bool false, .bool false, .int .i64 0, .int .i64 0] 142) = w0 at *
  generalize w.heap.size = b at *
  obtain ⟨c1, d1, e1⟩ := blk_facts k1
  have hv : ((stNew s g : Nat) : Int) = 134217728 * s + 1073741824 * g := by unfold stNew; omega
  replace hv := Lib.hid hv
  refine wp_region_plus (by kernel_rfl) (by kernel_rfl) ?_
  repeat (go_big_quiet_step ((first | (go_at_call 95; with_reducible exact quiet_plus (calls_grew (hP1.out _))) | (go_at_call 95; with_reducible exact quiet_plus (calls_grew (hP2.out _))))))
  refine wpQuiet_nil ?_
  intro w1 hw1
  have hg1 := grew_of_class hw1
  clear hw1
  rw [hv.out] at hA hB hC
  replace k1 := hg1.blk k1
  clear c1 d1 e1
  obtain ⟨c1, d1, e1⟩ := blk_facts k1
  go_wp2_with fail
  refine (hA.out _).mono ?_
  rintro e w2 ⟨rfl, rfl⟩
  go_wp2_with fail
  refine (hB.out _).mono ?_
  rintro e w3 ⟨rfl, rfl⟩
  go_wp2_with fail
  refine (hC.out _).mono ?_
  rintro e w4 ⟨rfl, rfl⟩
  go_wp2_with fail
  go_ret2
  exact ⟨by rw [hv.out]; simp, (by (repeat (first | with_reducible exact Grew.refl _ | with_reducible refine Grew.alloc ?_ _ | with_reducible refine Grew.drew ?_ | with_reducible refine Grew.drewN ?_ _ | with_reducible refine Grew.plus ?_ _ _ | (with_reducible refine Grew.setCell ?_ ?_ _; rotate_left; first | omega | (simp only [World.size_alloc, World.size_setCell, World.size_drew, size_plus] at *; omega)) | with_reducible exact hg1 | with_reducible refine Grew.trans ?_ hg1 | with_reducible exact hga | with_reducible refine Grew.trans ?_ hga)))⟩
theorem rNew_calls (s g : Nat) (w : World) (hs : s < 8) (hg : g ≤ 1073741824) :
    Calls Try.prog 32 #[.int .i64 s, .int .i64 g] w fun e w' => e = .returned (.int .u64 (stNew s g)) ∧ Grew w w' := by
  have hP := Lib.hid (fun w => rPack_calls s g w hs hg)
  clear hs hg
  go_enter Try.func32, Try.ntmps32
  go_wp2_with fail
  refine (hP.out _).mono ?_
  rintro e w1 ⟨rfl, hg1⟩
  go_wp2_with fail
  go_ret
  exact ⟨rfl, hg1⟩
end Go.Proofs.Ytabkdmcmfecokaa
