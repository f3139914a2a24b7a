/- The walks of packages ticket and tally. -/
import Derived.Test.YtabkdmcmfecokaaRows
import Derived.Test.YtabkdmcmfecokaaKit
import Derived.Test.YtabkdmcmfecokaaWords
import Derived.Laws.EntriesVeiled
import Derived.Test.YtabkdmcmfecokaaVal
namespace Go.Proofs.Ytabkdmcmfecokaa
open Go Go.RowKit

theorem calls_grew {P : Program} {f : FuncId} {args : Array Value} {w : World} {v : Value} (h : Calls P f args w fun e w' => e = .returned v ∧ w = w') : Calls P f args w fun e w' => e = .returned v ∧ Grew w w' :=
  h.mono fun _ _ ⟨a, b⟩ => ⟨a, b ▸ Grew.refl _⟩

/-- '==' of two arrays of two ints. -/
theorem arr2_eq (w : World) (a b c d : Int) : (Op.equalIn 10000 186 (.agg #[.int .i64 a, .int .i64 b]) (.agg #[.int .i64 c, .int .i64 d])).run Try.prog w = .ok (a == c && b == d) w := by
  unfold Op.equalIn
  simp [run_underlying Try.underlying186]
  simp [List.range', go_sem]
  by_cases h1 : a = c <;> by_cases h2 : b = d <;> simp [h1, h2]

theorem max0 (s : Nat) : (if 0 < s then (s : Int) else 0) = (s : Int) := by split <;> omega
theorem arr2_idx0 (w : World) (a b : Value) : (Instr.index 186 (.agg #[a, b]) (.int .i64 0)).run Try.prog w = .ok a w := by kernel_rfl
theorem arr2_idx1 (w : World) (a b : Value) : (Instr.index 186 (.agg #[a, b]) (.int .i64 1)).run Try.prog w = .ok b w := by kernel_rfl

set_option maxHeartbeats 400000 in
theorem fields_calls (w : World) :
    Calls Try.prog 136 #[] w fun e w' => e = .returned (.agg #[.func (.func 149) #[] #[], .func (.func 150) #[] #[], .func (.func 151) #[] #[], .func (.func 152) #[] #[]]) ∧ Grew w w' := by
  go_enter Try.func136, Try.ntmps136
  go_wp2
  exact bodyPost_ret (v := .agg #[.func (.func 149) #[] #[], .func (.func 150) #[] #[], .func (.func 151) #[] #[], .func (.func 152) #[] #[]]) (by simp [results, Try.results136, go_sem]) rfl ⟨rfl, (Grew.refl w).alloc _⟩

set_option maxHeartbeats 400000 in
theorem fields1_calls (h : Nat) (w : World) (hh : U64 h) :
    Calls Try.prog 149 #[.int .u64 h] w fun e w' => e = .returned (.int .i64 ((h % 16 : Nat) - 1 : Int)) ∧ w = w' := by
  go_enter Try.func149, Try.ntmps149
  go_wp2
  go_ret
  exact ⟨ret_int (low4_val h hh), rfl⟩
set_option maxHeartbeats 400000 in
theorem fields2_calls (n : Nat) (w : World) (hn : n ≤ 100) :
    Calls Try.prog 150 #[.int .i64 n] w fun e w' => e = .returned (.int .u64 (n + 1 : Nat)) ∧ w = w' := by
  go_enter Try.func150, Try.ntmps150
  go_wp2
  go_ret
  exact ⟨ret_int (by omega), rfl⟩
set_option maxHeartbeats 400000 in
theorem fields3_calls (h : Nat) (w : World) :
    Calls Try.prog 151 #[.int .u64 h] w fun e w' => e = .returned (.int .i64 (tkGen h : Nat)) ∧ w = w' := by
  go_enter Try.func151, Try.ntmps151
  go_wp2
  all_goals
    go_ret
    exact ⟨ret_int (by unfold tkGen; omega), rfl⟩
set_option maxHeartbeats 400000 in
theorem fields4_calls (n : Nat) (w : World) (hn : n ≤ 1073741823) :
    Calls Try.prog 152 #[.int .i64 n] w fun e w' => e = .returned (.int .u64 (n * 16 : Nat)) ∧ w = w' := by
  go_enter Try.func152, Try.ntmps152
  go_wp2
  go_ret
  exact ⟨ret_int (by omega), rfl⟩

set_option maxHeartbeats 400000 in
theorem parts_calls (h : Nat) (w : World) (hh : U64 h) :
    Calls Try.prog 122 #[.int .u64 h] w fun e w' => e = .returned (.agg #[.int .i64 ((h % 16 : Nat) - 1 : Int), .int .i64 (tkGen h : Nat)]) ∧ Grew w w' := by
  go_enter Try.func122, Try.ntmps122
  go_wp2_with fail
  refine (fields_calls _).mono ?_
  rintro e w1 ⟨rfl, hg1⟩
  have f1 := hg1.blk (alloc_new _ _)
  go_wp2_with fail
  refine wp_region_tail 11 (by kernel_rfl) (by kernel_rfl) ?_
  simp only [List.take_succ_cons, List.take_zero, List.drop_succ_cons, List.drop_zero]
  repeat (go_big_quiet_step ((first
    | (go_at_call 149; exact quiet_plus (calls_grew (fields1_calls h _ hh)))
    | (go_at_call 151; exact quiet_plus (calls_grew (fields3_calls h _))))))
  refine wpQuiet_nil ?_
  intro w2 hw2
  have hg2 := grew_of_class hw2
  clear hw2
  obtain ⟨c2, d2, e2⟩ := blk_facts (hg2.blk (alloc_blk _ f1))
  go_wp2
  refine bodyPost_ret (v := .agg #[.int .i64 ((h % 16 : Nat) - 1 : Int), .int .i64 (tkGen h : Nat)]) (by simp [results, Try.results122, go_sem, c2]) rfl ⟨rfl, ?_⟩
  exact (((((((Grew.refl w).alloc _).trans hg1).alloc _).trans hg2).setCell (Nat.le_refl _) _).setCell (Nat.le_refl _) _)

set_option maxHeartbeats 400000 in
theorem Slot_yes (h : Nat) (w : World) (hh : U64 h) (h1 : 1 ≤ h % 16) (h2 : h % 16 ≤ 12) :
    Calls Try.prog 98 #[.int .u64 h] w fun e w' => e = .returned (.tuple #[.int .i64 (h % 16 - 1 : Nat), .bool true]) ∧ Grew w w' := by
  have e0 : ((h % 16 : Nat) : Int) - 1 = ((h % 16 - 1 : Nat) : Int) := by omega
  have hp := parts_calls h
  rw [e0] at hp
  have HP := Lib.hid hp
  clear hp e0
  have g1 : h % 16 - 1 < 12 := by omega
  generalize h % 16 - 1 = s at *
  have i0 := arr2_idx0
  go_enter Try.func98, Try.ntmps98
  go_wp2_with fail
  refine (HP.out _ hh).mono ?_
  rintro e w1 ⟨rfl, hg1⟩
  go_wp2_with fail
  go_ret2
  exact ⟨rfl, hg1⟩
set_option maxHeartbeats 400000 in
theorem Slot_no (h : Nat) (w : World) (hh : U64 h) (h1 : h % 16 = 0 ∨ 12 < h % 16) :
    Calls Try.prog 98 #[.int .u64 h] w fun e w' => e = .returned (.tuple #[.int .i64 0, .bool false]) ∧ Grew w w' := by
  have hp := parts_calls h
  have HP := Lib.hid hp
  clear hp
  have hs : ∃ s : Int, ((h % 16 : Nat) : Int) - 1 = s := ⟨_, rfl⟩
  obtain ⟨s, hs⟩ := hs
  rw [hs] at HP
  have g1 : s < 0 ∨ 12 ≤ s := by omega
  clear hs h1
  rcases g1 with g1 | g1
  all_goals
    have i0 := arr2_idx0
    go_enter Try.func98, Try.ntmps98
    go_wp2_with fail
    refine (HP.out _ hh).mono ?_
    rintro e w1 ⟨rfl, hg1⟩
    go_wp2_with fail
    go_ret2
    exact ⟨rfl, hg1⟩
set_option maxHeartbeats 400000 in
theorem Gen_calls (h : Nat) (w : World) (hh : U64 h) :
    Calls Try.prog 99 #[.int .u64 h] w fun e w' => e = .returned (.int .i64 (tkGen h : Nat)) ∧ Grew w w' := by
  have i1 := arr2_idx1
  go_enter Try.func99, Try.ntmps99
  go_wp2_with fail
  refine (parts_calls h _ hh).mono ?_
  rintro e w1 ⟨rfl, hg1⟩
  go_wp2_with fail
  go_ret
  exact ⟨rfl, hg1⟩


set_option maxHeartbeats 400000 in
theorem Of_yes (h n : Nat) (w : World) (hh : U64 h) (hn : named h n = true) :
    Calls Try.prog 73 #[.int .u64 h, .int .i64 n] w fun e w' => e = .returned (.tuple #[.int .i64 (h % 16 - 1 : Nat), .int .i64 (h / 16 : Nat), .bool true]) ∧ Grew w w' := by
  simp only [named, Bool.and_eq_true, decide_eq_true_eq] at hn
  obtain ⟨⟨⟨h1, h2⟩, h3⟩, h4⟩ := hn
  have hp := Slot_yes h
  have HP := Lib.hid hp
  have hq := Gen_calls h
  rw [show tkGen h = h / 16 by unfold tkGen; omega] at hq
  have HQ := Lib.hid hq
  have H1 := Lib.hid h1
  have H2 := Lib.hid h2
  clear hp hq h1 h2
  generalize h % 16 - 1 = s at *
  generalize h / 16 = g at *
  go_enter Try.func73, Try.ntmps73
  go_wp2_with fail
  refine (HP.out _ hh H1.out H2.out).mono ?_
  rintro e w1 ⟨rfl, hg1⟩
  go_wp2_with fail
  refine (HQ.out _ hh).mono ?_
  rintro e w2 ⟨rfl, hg2⟩
  go_wp2_with fail
  go_ret3
  exact ⟨rfl, hg1.trans hg2⟩
set_option maxHeartbeats 400000 in
theorem Of_no (h n : Nat) (w : World) (hh : U64 h) (hn : named h n = false) :
    Calls Try.prog 73 #[.int .u64 h, .int .i64 n] w fun e w' => e = .returned (.tuple #[.int .i64 0, .int .i64 0, .bool false]) ∧ Grew w w' := by
  by_cases h12 : 1 ≤ h % 16 ∧ h % 16 ≤ 12
  · obtain ⟨h1, h2⟩ := h12
    have h3 : n ≤ h % 16 - 1 ∨ 1073741823 < tkGen h := by
      simp only [named, h1, h2, decide_true, Bool.true_and, Bool.and_eq_false_iff, decide_eq_false_iff_not] at hn
      unfold tkGen
      omega
    have hp := Slot_yes h
    have HP := Lib.hid hp
    have hq := Gen_calls h
    have HQ := Lib.hid hq
    have H1 := Lib.hid h1
    have H2 := Lib.hid h2
    clear hp hq h1 h2 hn
    generalize h % 16 - 1 = s at *
    generalize tkGen h = g at *
    by_cases h4 : n ≤ s
    · clear h3
      go_enter Try.func73, Try.ntmps73
      go_wp2_with fail
      refine (HP.out _ hh H1.out H2.out).mono ?_
      rintro e w1 ⟨rfl, hg1⟩
      go_wp2_with fail
      refine (HQ.out _ hh).mono ?_
      rintro e w2 ⟨rfl, hg2⟩
      go_wp2_with fail
      go_ret3
      exact ⟨rfl, hg1.trans hg2⟩
    · have h5 : s < n := by omega
      have h6 : 1073741823 < g := by omega
      clear h3 h4
      go_enter Try.func73, Try.ntmps73
      go_wp2_with fail
      refine (HP.out _ hh H1.out H2.out).mono ?_
      rintro e w1 ⟨rfl, hg1⟩
      go_wp2_with fail
      refine (HQ.out _ hh).mono ?_
      rintro e w2 ⟨rfl, hg2⟩
      go_wp2_with fail
      go_ret3
      exact ⟨rfl, hg1.trans hg2⟩
  · have h3 : h % 16 = 0 ∨ 12 < h % 16 := by omega
    have HP := Lib.hid (Slot_no h)
    have HQ := Lib.hid (Gen_calls h)
    have H3 := Lib.hid h3
    clear h3 hn h12
    go_enter Try.func73, Try.ntmps73
    go_wp2_with fail
    refine (HP.out _ hh H3.out).mono ?_
    rintro e w1 ⟨rfl, hg1⟩
    go_wp2_with fail
    refine (HQ.out _ hh).mono ?_
    rintro e w2 ⟨rfl, hg2⟩
    go_wp2_with fail
    go_ret3
    exact ⟨rfl, hg1.trans hg2⟩
set_option maxHeartbeats 400000 in
theorem tUnpack_calls (x : Nat) (w : World) (hx : U64 x) :
    Calls Try.prog 132 #[.int .u64 x] w fun e w' => e = .returned (.agg #[.int .u64 (x / 16 : Nat), .int .i64 ((x % 16 : Nat) - 1 : Int)]) ∧ Grew w w' := by
  go_enter Try.func132, Try.ntmps132
  go_wp2
  refine bodyPost_ret (v := .agg #[.int .u64 (x / 16 : Nat), .int .i64 ((x % 16 : Nat) - 1 : Int)]) ?_ rfl ⟨rfl, (Grew.refl w).alloc _⟩
  rw [low4_val x hx]
  simp [results, Try.results132, go_sem]
set_option maxRecDepth 10000 in
set_option maxHeartbeats 400000 in
theorem tPack_yes (q p : Nat) (w : World) (hq : q ≤ 1099511627775) (hp2 : p ≤ 11) :
    Calls Try.prog 159 #[.agg #[.int .u64 q, .int .i64 p]] w fun e w' => e = .returned (.tuple #[.int .u64 (16 * q + p + 1 : Nat), .bool true]) ∧ Grew w w' := by
  have ha := arr2_eq
  have hv := pack_val q p hq hp2
  go_enter Try.func159, Try.ntmps159
  go_wp2
  go_ret2
  exact ⟨by simp, ((Grew.refl w).alloc _).alloc _⟩
set_option maxRecDepth 10000 in
set_option maxHeartbeats 400000 in
theorem tPack_no (q p : Nat) (w : World) (hq : 1099511627775 < q) (hp2 : p ≤ 11) :
    Calls Try.prog 159 #[.agg #[.int .u64 q, .int .i64 p]] w fun e w' => e = .returned (.tuple #[.int .u64 0, .bool false]) ∧ Grew w w' := by
  have ha := arr2_eq
  have h0 : ((1099511627775 : Int) == if (1099511627776 : Int) < (q : Int) then 1099511627776 else (q : Int)) = false := by rw [beq_eq_false_iff_ne]; split <;> omega
  have h1 : ((1099511627775 : Int) == (q : Int)) = false := by rw [beq_eq_false_iff_ne]; omega
  go_enter Try.func159, Try.ntmps159
  go_wp2
  all_goals
    go_ret2
    exact ⟨rfl, ((Grew.refl w).alloc _).alloc _⟩
set_option maxHeartbeats 400000 in
theorem Next_no (x sl : Nat) (w : World) (hx : U64 x) (h : x % 16 ≠ 0) :
    Calls Try.prog 142 #[.int .u64 x, .int .i64 sl] w fun e w' => e = .returned (.tuple #[.int .u64 0, .bool false]) ∧ Grew w w' := by
  have h0 : (((x % 16 : Nat) : Int) - 1 == -1) = false := by rw [beq_eq_false_iff_ne]; omega
  go_enter Try.func142, Try.ntmps142
  go_wp2_with fail
  refine (tUnpack_calls x _ hx).mono ?_
  rintro e w1 ⟨rfl, os, n, rfl⟩
  go_wp2_with fail
  go_ret2
  exact ⟨by simp, (((Grew.refl w).plus _ _).alloc _)⟩
set_option maxHeartbeats 400000 in
theorem Next_yes (x sl : Nat) (w : World) (hx : U64 x) (h : x % 16 = 0) (hsl : sl ≤ 11) (hq : x / 16 + 1 ≤ 1099511627775) :
    Calls Try.prog 142 #[.int .u64 x, .int .i64 sl] w fun e w' => e = .returned (.tuple #[.int .u64 (16 * (x / 16 + 1) + sl + 1 : Nat), .bool true]) ∧ Grew w w' := by
  have h0 : (((x : Int) % 16) - 1 == -1) = true := by rw [beq_iff_eq]; omega
  go_enter Try.func142, Try.ntmps142
  go_wp2_with fail
  refine (tUnpack_calls x _ hx).mono ?_
  rintro e w1 ⟨rfl, os, n, rfl⟩
  go_wp2_with fail
  refine (tPack_yes (x / 16 + 1) sl _ hq hsl).mono ?_
  rintro e w2 ⟨rfl, hg2⟩
  go_wp2_with fail
  go_ret2
  exact ⟨by simp, (((Grew.refl w).plus _ _).alloc _).trans hg2⟩
set_option maxHeartbeats 400000 in
theorem Settled_calls (x : Nat) (w : World) (hx : U64 x) :
    Calls Try.prog 177 #[.int .u64 x] w fun e w' => e = .returned (.int .u64 (x / 16 * 16 : Nat)) ∧ w = w' := by
  go_enter Try.func177, Try.ntmps177
  go_wp2
  go_ret
  exact ⟨ret_int (settled_val x hx), rfl⟩
end Go.Proofs.Ytabkdmcmfecokaa
