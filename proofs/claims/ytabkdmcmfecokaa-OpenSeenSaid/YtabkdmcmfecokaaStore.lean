/- The walks of package store. -/
import Derived.Test.YtabkdmcmfecokaaRows
import Derived.Test.YtabkdmcmfecokaaMem
import Derived.Deep.OwnRows
import Derived.Laws.CopyOwn
namespace Go.Proofs.Ytabkdmcmfecokaa
open Go Go.RowKit

theorem MemAt.at {w : World} {bm bw : Nat} {M : Mem} (h : MemAt w bm bw M) {sk so : Int} {n : Nat} (hc : cellAt M.c sk so = some n) : M.ws[n]? = some (M.ws.getD n 0) ∧ U64 (M.ws.getD n 0) := by
  have hn : n < M.ws.length := by rw [h.len]; exact cell_lt hc
  have e : M.ws[n]? = some (M.ws.getD n 0) := by simp [hn]
  exact ⟨e, h.small _ (List.mem_of_getElem? e)⟩
theorem MemAt.load_small {w : World} {bm bw : Nat} {M : Mem} (h : MemAt w bm bw M) (sk so : Int) : U64 (M.load sk so).2 := by
  unfold Mem.load
  cases hc : cellAt M.c sk so with
  | some n => exact (h.at hc).2
  | none => show (0 : Nat) < _; decide

theorem tch_old (w : World) (a b c d e f : Value) : (Instr.field 112 (.agg #[a, b, c, d, e, f]) 2).run Try.prog w = .ok d w := by kernel_rfl
theorem tch_done (w : World) (a b c d e f : Value) : (Instr.field 112 (.agg #[a, b, c, d, e, f]) 4).run Try.prog w = .ok f w := by kernel_rfl

set_option maxRecDepth 20000 in
set_option maxHeartbeats 400000 in
theorem Load_calls (w : World) (bm bw : Nat) (M : Mem) (sk so : Int) (hM : MemAt w bm bw M) :
    Calls Try.prog 21 #[.pointer (some ⟨bm, 0, none⟩), .agg #[.int .i64 sk, .int .i64 so]] w fun e w' =>
      e = .returned (.int .u64 (M.load sk so).2) ∧ MemAt w' bm bw (M.load sk so).1 ∧ Fr [bm, bw] w w' := by
  have hM' := hM.grew ((Grew.refl w).alloc (.cells #[.int .i64 sk, .int .i64 so] 35))
  unfold Mem.load
  cases hc : cellAt M.c sk so with
  | some n =>
    have ht := touch_some _ bm bw M 1 sk so 55 (.agg #[.int .u64 0, .int .u64 0]) n _ _ true hM' hc (hM.at hc).1 (hM.at hc).2 (fun _ _ => by kernel_rfl) (fun w => same_calls _ 0 0 rfl _ w)
    simp only [Tch.V] at ht
    have HT := Lib.hid ht
    clear hM hM' hc ht
    simp only
    generalize M.ws.getD n 0 = x at *
    have hfl := tch_old
    go_enter Try.func21, Try.ntmps21
    go_wp2_with fail
    refine HT.out.mono ?_
    rintro e w1 ⟨rfl, hm, hf⟩
    go_wp2_with fail
    go_ret
    exact ⟨rfl, hm, (by (repeat (first | with_reducible exact Fr.refl _ _ | (with_reducible refine Fr.setCell ?_ _ _ _ ?_; rotate_left; first | focus (left; simp; done) | (right; omega) | (right; simp only [World.size_alloc, World.size_setCell, World.size_drew, size_plus] at *; omega)) | with_reducible refine Fr.alloc ?_ _ | with_reducible refine Fr.drew ?_ | with_reducible refine Fr.drewN ?_ _ | with_reducible refine Fr.plus ?_ _ _ | with_reducible exact hf | with_reducible refine Fr.trans ?_ hf)))⟩
  | none =>
    have ht := touch_none _ bm bw M 1 sk so (.func (.func 55) #[.agg #[.int .u64 0, .int .u64 0]] #[]) hM' hc
    simp only [Tch.V] at ht
    have HT := Lib.hid ht
    clear hM hM' hc ht
    have hfl := tch_old
    go_enter Try.func21, Try.ntmps21
    go_wp2_with fail
    refine HT.out.mono ?_
    rintro e w1 ⟨rfl, hm, hf⟩
    go_wp2_with fail
    go_ret
    exact ⟨rfl, hm, (by (repeat (first | with_reducible exact Fr.refl _ _ | (with_reducible refine Fr.setCell ?_ _ _ _ ?_; rotate_left; first | focus (left; simp; done) | (right; omega) | (right; simp only [World.size_alloc, World.size_setCell, World.size_drew, size_plus] at *; omega)) | with_reducible refine Fr.alloc ?_ _ | with_reducible refine Fr.drew ?_ | with_reducible refine Fr.drewN ?_ _ | with_reducible refine Fr.plus ?_ _ _ | with_reducible exact hf | with_reducible refine Fr.trans ?_ hf)))⟩
set_option maxRecDepth 20000 in
set_option maxHeartbeats 400000 in
theorem Store_calls (w : World) (bm bw : Nat) (M : Mem) (sk so : Int) (v : Nat) (hM : MemAt w bm bw M) (hv : U64 v) :
    Calls Try.prog 15 #[.pointer (some ⟨bm, 0, none⟩), .agg #[.int .i64 sk, .int .i64 so], .int .u64 v] w fun e w' =>
      e = .returned (.tuple #[]) ∧ MemAt w' bm bw (M.store sk so v) ∧ Fr [bm, bw] w w' := by
  have hM' := hM.grew ((Grew.refl w).alloc (.cells #[.int .i64 sk, .int .i64 so] 35))
  unfold Mem.store
  cases hc : cellAt M.c sk so with
  | some n =>
    have ht := touch_some _ bm bw M 2 sk so 54 (.agg #[.int .u64 0, .int .u64 v]) n _ v true hM' hc (hM.at hc).1 hv (fun _ _ => by kernel_rfl) (fun w => lays_calls 0 v _ w)
    simp only [Tch.V] at ht
    have HT := Lib.hid ht
    clear hM hM' hc ht
    simp only
    generalize M.ws.getD n 0 = x at *
    go_enter Try.func15, Try.ntmps15
    go_wp2_with fail
    refine HT.out.mono ?_
    rintro e w1 ⟨rfl, hm, hf⟩
    go_wp2_with fail
    exact bodyPost_end (v := .tuple #[]) (by simp [results, Try.results15, go_sem]) rfl ⟨rfl, hm, (by (repeat (first | with_reducible exact Fr.refl _ _ | (with_reducible refine Fr.setCell ?_ _ _ _ ?_; rotate_left; first | focus (left; simp; done) | (right; omega) | (right; simp only [World.size_alloc, World.size_setCell, World.size_drew, size_plus] at *; omega)) | with_reducible refine Fr.alloc ?_ _ | with_reducible refine Fr.drew ?_ | with_reducible refine Fr.drewN ?_ _ | with_reducible refine Fr.plus ?_ _ _ | with_reducible exact hf | with_reducible refine Fr.trans ?_ hf)))⟩
  | none =>
    have ht := touch_none _ bm bw M 2 sk so (.func (.func 54) #[.agg #[.int .u64 0, .int .u64 v]] #[]) hM' hc
    simp only [Tch.V] at ht
    have HT := Lib.hid ht
    clear hM hM' hc ht
    go_enter Try.func15, Try.ntmps15
    go_wp2_with fail
    refine HT.out.mono ?_
    rintro e w1 ⟨rfl, hm, hf⟩
    go_wp2_with fail
    exact bodyPost_end (v := .tuple #[]) (by simp [results, Try.results15, go_sem]) rfl ⟨rfl, hm, (by (repeat (first | with_reducible exact Fr.refl _ _ | (with_reducible refine Fr.setCell ?_ _ _ _ ?_; rotate_left; first | focus (left; simp; done) | (right; omega) | (right; simp only [World.size_alloc, World.size_setCell, World.size_drew, size_plus] at *; omega)) | with_reducible refine Fr.alloc ?_ _ | with_reducible refine Fr.drew ?_ | with_reducible refine Fr.drewN ?_ _ | with_reducible refine Fr.plus ?_ _ _ | with_reducible exact hf | with_reducible refine Fr.trans ?_ hf)))⟩
set_option maxRecDepth 20000 in
set_option maxHeartbeats 400000 in
theorem Swap_calls (w : World) (bm bw : Nat) (M : Mem) (sk so : Int) (a b : Nat) (hM : MemAt w bm bw M) (hb : U64 b) :
    Calls Try.prog 118 #[.pointer (some ⟨bm, 0, none⟩), .agg #[.int .i64 sk, .int .i64 so], .int .u64 a, .int .u64 b] w fun e w' =>
      e = .returned (.bool (M.swap sk so a b).2) ∧ MemAt w' bm bw (M.swap sk so a b).1 ∧ Fr [bm, bw] w w' := by
  have hM' := hM.grew ((Grew.refl w).alloc (.cells #[.int .i64 sk, .int .i64 so] 35))
  unfold Mem.swap
  cases hc : cellAt M.c sk so with
  | some n =>
    simp only
    by_cases hx : M.ws.getD n 0 = a
    · have ht := touch_some _ bm bw M 3 sk so 130 (.agg #[.int .u64 a, .int .u64 b]) n _ b true hM' hc (hM.at hc).1 hb (fun _ _ => by kernel_rfl) (fun w => by rw [hx]; exact swaps_yes a b w)
      rw [hx] at ht
      simp only [Tch.V] at ht
      have HT := Lib.hid ht
      rw [if_pos hx]
      clear hM hM' hc ht hx
      have hfl := tch_done
      go_enter Try.func118, Try.ntmps118
      go_wp2_with fail
      refine HT.out.mono ?_
      rintro e w1 ⟨rfl, hm, hf⟩
      go_wp2_with fail
      go_ret
      exact ⟨rfl, hm, (by (repeat (first | with_reducible exact Fr.refl _ _ | (with_reducible refine Fr.setCell ?_ _ _ _ ?_; rotate_left; first | focus (left; simp; done) | (right; omega) | (right; simp only [World.size_alloc, World.size_setCell, World.size_drew, size_plus] at *; omega)) | with_reducible refine Fr.alloc ?_ _ | with_reducible refine Fr.drew ?_ | with_reducible refine Fr.drewN ?_ _ | with_reducible refine Fr.plus ?_ _ _ | with_reducible exact hf | with_reducible refine Fr.trans ?_ hf)))⟩
    · have ht := touch_some _ bm bw M 3 sk so 130 (.agg #[.int .u64 a, .int .u64 b]) n _ _ false hM' hc (hM.at hc).1 (hM.at hc).2 (fun _ _ => by kernel_rfl) (fun w => swaps_no a b _ w hx)
      simp only [Tch.V] at ht
      have HT := Lib.hid ht
      rw [if_neg hx]
      clear hM hM' hc ht hx
      generalize M.ws.getD n 0 = x at *
      have hfl := tch_done
      go_enter Try.func118, Try.ntmps118
      go_wp2_with fail
      refine HT.out.mono ?_
      rintro e w1 ⟨rfl, hm, hf⟩
      go_wp2_with fail
      go_ret
      exact ⟨rfl, hm, (by (repeat (first | with_reducible exact Fr.refl _ _ | (with_reducible refine Fr.setCell ?_ _ _ _ ?_; rotate_left; first | focus (left; simp; done) | (right; omega) | (right; simp only [World.size_alloc, World.size_setCell, World.size_drew, size_plus] at *; omega)) | with_reducible refine Fr.alloc ?_ _ | with_reducible refine Fr.drew ?_ | with_reducible refine Fr.drewN ?_ _ | with_reducible refine Fr.plus ?_ _ _ | with_reducible exact hf | with_reducible refine Fr.trans ?_ hf)))⟩
  | none =>
    have ht := touch_none _ bm bw M 3 sk so (.func (.func 130) #[.agg #[.int .u64 a, .int .u64 b]] #[]) hM' hc
    simp only [Tch.V] at ht
    have HT := Lib.hid ht
    clear hM hM' hc ht
    have hfl := tch_done
    go_enter Try.func118, Try.ntmps118
    go_wp2_with fail
    refine HT.out.mono ?_
    rintro e w1 ⟨rfl, hm, hf⟩
    go_wp2_with fail
    go_ret
    exact ⟨rfl, hm, (by (repeat (first | with_reducible exact Fr.refl _ _ | (with_reducible refine Fr.setCell ?_ _ _ _ ?_; rotate_left; first | focus (left; simp; done) | (right; omega) | (right; simp only [World.size_alloc, World.size_setCell, World.size_drew, size_plus] at *; omega)) | with_reducible refine Fr.alloc ?_ _ | with_reducible refine Fr.drew ?_ | with_reducible refine Fr.drewN ?_ _ | with_reducible refine Fr.plus ?_ _ _ | with_reducible exact hf | with_reducible refine Fr.trans ?_ hf)))⟩

theorem info_u64 : ((Try.prog).info? 22).map (fun i => (i.zero, i.size, i.bytes)) = some (some (.int .u64 0), 1, 8) := by kernel_rfl

set_option maxRecDepth 20000 in
set_option maxHeartbeats 400000 in
theorem Cells_calls (w : World) (bm bw : Nat) (M : Mem) (hM : MemAt w bm bw M) :
    Calls Try.prog 23 #[.pointer (some ⟨bm, 0, none⟩)] w fun e w' =>
      ∃ bo, e = .returned (.slice (some ⟨bo, 0, none⟩) M.ws.length M.ws.length) ∧ w'.heap[bo]? = some (.cells (M.ws.map wV).toArray 22 (0, 0)) ∧ w.heap.size ≤ bo ∧ Grew w w' := by
  obtain ⟨f1, f2, hne, hlen, hok, hsm⟩ := hM
  have hlen2 : M.ws.length ≤ 200 := by
    have h1 := hok.t2; have h2 := hok.s2; have h3 := hok.k2
    rw [hlen]; unfold lenOf; omega
  have HL := Lib.hid hlen
  clear hlen hsm hok
  obtain ⟨c, ws, last, many⟩ := M
  simp only [Mem.cells] at *
  obtain ⟨c1, d1, e1⟩ := blk_facts f1
  have hmk := run_make_row' (P := Try.prog) 46 22 (.int .u64 0) 8 Try.underlying46 info_u64 rfl .i64 .i64 ws.length (by omega) (by omega)
  go_enter Try.func23, Try.ntmps23
  go_wp2_with fail
  have f2' := alloc_blk (.cells (madeCells #[Value.int IntKind.u64 0] ws.length) 22) f2
  have hcp := run_copy_row (P := Try.prog) (w.alloc (.cells (madeCells #[Value.int IntKind.u64 0] ws.length) 22)) 46 46 3 22 w.heap.size 0 ws.length ws.length ⟨bw, 0, none⟩ ws.length ws.length
    (madeCells #[Value.int IntKind.u64 0] ws.length) 22 (ws.map wV) Try.underlying46 (by kernel_rfl) (alloc_new _ _) (by simp) (fun j v hj => by
      rw [add_at, blk_cell f2' j]
      simpa using hj) (by simp [size_madeCells]) (fun v hv => by
      obtain ⟨x, _, rfl⟩ := List.mem_map.1 hv
      rfl)
  rw [hcp]
  have hrow : ((madeCells #[Value.int IntKind.u64 0] ws.length).toList.take 0 ++ ws.map wV ++ (madeCells #[Value.int IntKind.u64 0] ws.length).toList.drop (0 + (ws.map wV).length)).toArray = (ws.map wV).toArray := by
    rw [List.drop_eq_nil_of_le (by simp [size_madeCells])]
    simp
  rw [hrow]
  have hfin := setRow_heap (w.alloc (.cells (madeCells #[Value.int IntKind.u64 0] ws.length) 22)) w.heap.size _ (ws.map wV).toArray _ _ (alloc_new _ _)
  have hgr : Grew w ((w.alloc (.cells (madeCells #[Value.int IntKind.u64 0] ws.length) 22)).setRow w.heap.size (ws.map wV).toArray) := ((Grew.refl w).alloc _).setRow (Nat.le_refl _) _
  generalize (w.alloc (.cells (madeCells #[Value.int IntKind.u64 0] ws.length) 22)).setRow w.heap.size (ws.map wV).toArray = w2 at *
  clear hcp hmk
  go_wp2_with fail
  go_ret
  exact ⟨w.heap.size, rfl, hfin, Nat.le_refl _, hgr⟩
end Go.Proofs.Ytabkdmcmfecokaa
