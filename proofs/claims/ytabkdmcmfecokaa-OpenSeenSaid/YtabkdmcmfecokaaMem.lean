/- A world's words in memory: what an access makes of them. -/
import Derived.Test.YtabkdmcmfecokaaRows
import Derived.Test.YtabkdmcmfecokaaSpot
import Derived.Test.YtabkdmcmfecokaaAt
import Derived.Test.YtabkdmcmfecokaaVal
namespace Go.Proofs.Ytabkdmcmfecokaa
open Go Go.RowKit

def Tch.V (t : Tch) : Value := .agg #[.int .i64 t.kind, .int .i64 t.sk, .int .i64 t.so, .int .u64 t.old, .int .u64 t.new, .bool t.done]
/-- The memory's own block. -/
def Mem.cells (M : Mem) (bw : Nat) : Array Value := #[.int .i64 M.c.t, .int .i64 M.c.s, .int .i64 M.c.k, .int .i64 M.c.g, .int .u64 M.c.q, .slice (some ⟨bw, 0, none⟩) M.ws.length M.ws.length,
  .int .i64 M.last.kind, .int .i64 M.last.sk, .int .i64 M.last.so, .int .u64 M.last.old, .int .u64 M.last.new, .bool M.last.done, .int .i64 M.many]
def wV (x : Nat) : Value := .int .u64 x
structure MemAt (w : World) (bm bw : Nat) (M : Mem) : Prop where
  own : w.heap[bm]? = some (.cells (M.cells bw) 118 (0, 0))
  row : w.heap[bw]? = some (.cells (M.ws.map wV).toArray 22 (0, 0))
  ne : bm ≠ bw
  len : M.ws.length = lenOf M.c
  ok : M.c.Ok
  small : ∀ x ∈ M.ws, U64 x
theorem MemAt.keep {w w' : World} {bm bw : Nat} {M : Mem} {S : List Nat} (h : MemAt w bm bw M) (hf : Fr S w w') (h1 : bm ∉ S) (h2 : bw ∉ S) : MemAt w' bm bw M :=
  ⟨hf.keep h.own h1, hf.keep h.row h2, h.ne, h.len, h.ok, h.small⟩
theorem MemAt.grew {w w' : World} {bm bw : Nat} {M : Mem} (h : MemAt w bm bw M) (hg : Grew w w') : MemAt w' bm bw M :=
  ⟨hg.blk h.own, hg.blk h.row, h.ne, h.len, h.ok, h.small⟩
set_option maxRecDepth 10000 in
set_option maxHeartbeats 1000000 in
theorem touch_some (w : World) (bm bw : Nat) (M : Mem) (kind sk so : Int) (k : FuncId) (ev : Value) (n old new : Nat) (d : Bool) (hM : MemAt w bm bw M) (hc : cellAt M.c sk so = some n) (hold : M.ws[n]? = some old) (hnew : U64 new)
    (hcf : ∀ args w, (callFunc k args).run Try.prog w = .ok (.enter k args) w)
    (hk : ∀ w, Calls Try.prog k #[ev, .int .u64 old] w fun e w' => e = .returned (.tuple #[.int .u64 new, .bool d]) ∧ Grew w w') :
    Calls Try.prog 53 #[.pointer (some ⟨bm, 0, none⟩), .int .i64 kind, .agg #[.int .i64 sk, .int .i64 so], .func (.func k) #[ev] #[]] w fun e w' =>
      e = .returned (Tch.V ⟨kind, sk, so, old, new, d⟩) ∧ MemAt w' bm bw (M.put kind sk so n old new d) ∧ Fr [bm, bw] w w' := by
  obtain ⟨f1, f2, hne, hlen, hok, hsm⟩ := hM
  have hcell := Lib.hid (Cell_some M.c sk so n · hok hc)
  have hn : n < M.ws.length := (List.getElem?_eq_some_iff.1 hold).1
  have hwn : (M.ws.map wV).toArray[n]? = some (.int .u64 old) := by simp [hold, wV]
  have hlen2 : M.ws.length ≤ 200 := by
    have h1 := hok.t2; have h2 := hok.s2; have h3 := hok.k2
    rw [hlen]; unfold lenOf; omega
  have hne' : bw ≠ bm := Ne.symm hne
  have HL := Lib.hid hlen
  clear hlen
  obtain ⟨c, ws, last, many⟩ := M
  obtain ⟨t, s, kk, g, q⟩ := c
  simp only [Mem.cells] at f1
  simp only [Cfg.V] at *
  have l1 := blk_lt f1
  have l2 := blk_lt f2
  obtain ⟨c1, d1, e1⟩ := blk_facts f1
  have m1 : bm < w.heap.size + 1 := by omega
  have m2 : bm < w.heap.size + 1 + 1 := by omega
  have m3 : bm < w.heap.size + 1 + 1 + 1 := by omega
  go_enter Try.func53, Try.ntmps53
  go_wp2_with fail
  refine wp_region_plus (by kernel_rfl) (by kernel_rfl) ?_
  repeat (go_big_quiet_step ((first | (go_at_call 71; exact quiet_plus (hcell.out _)))))
  refine wpQuiet_nil ?_
  intro w1 hw1
  have hg1 := grew_of_class hw1
  clear hw1
  have g1 := hg1.blk (alloc_blk _ (alloc_blk _ (alloc_blk _ f1)))
  have g2 := hg1.blk (alloc_blk _ (alloc_blk _ (alloc_blk _ f2)))
  have g3 := hg1.blk (alloc_new _ _)
  have g4 := hg1.blk (alloc_blk _ (alloc_new _ _))
  simp only [World.size_alloc] at g3 g4
  clear f1 f2 c1 d1 e1 hcell
  obtain ⟨c1, d1, e1⟩ := blk_facts g1
  have c2 : w1.cell? ⟨bw, n, none⟩ = some (.int .u64 old) := by rw [blk_cell g2]; exact hwn
  have d2 := blk_free g2 n
  have e2 := blk_lt g2
  clear hold
  have HW := Lib.hid hwn
  clear hwn
  obtain ⟨c3, d3, e3⟩ := blk_facts g3
  go_wp2_with fail
  refine (hk _).mono ?_
  rintro e w2 ⟨rfl, hg2⟩
  have z1 : bm ≠ w.heap.size + 1 + 1 := by omega
  have z2 : bw ≠ w.heap.size + 1 + 1 := by omega
  have z3 : w.heap.size + 1 ≠ w.heap.size + 1 + 1 := by omega
  have h1 := hg2.blk (set_blk _ _ _ g1 z1)
  have h2 := hg2.blk (set_blk _ _ _ g2 z2)
  have h3 := hg2.blk (set_same 3 (.int .u64 old) g3)
  have h4 := hg2.blk (set_blk _ _ _ g4 z3)
  clear c1 d1 e1 c2 d2 e2 c3 d3 e3
  obtain ⟨c1, d1, e1⟩ := blk_facts h1
  obtain ⟨c3, d3, e3⟩ := blk_facts h3
  have e2 := blk_lt h2
  have d2 := blk_free h2 n
  go_wp2_with fail
  refine wp_region_tail 8 (by kernel_rfl) (by kernel_rfl) ?_
  simp only [List.take_succ_cons, List.take_zero, List.drop_succ_cons, List.drop_zero]
  repeat (go_big_quiet_step ((first | fail)))
  refine wpQuiet_nil ?_
  intro w3 hw3
  have hg3 := grew_of_class hw3
  clear hw3
  have i1 := hg3.blk (set_blk _ _ _ (set_blk _ _ _ h1 z1) z1)
  have i2 := hg3.blk (set_blk _ _ _ (set_blk _ _ _ h2 z2) z2)
  have i3 := hg3.blk (set_same 5 (.bool d) (set_same 4 (.int .u64 new) h3))
  have i4 := hg3.blk (set_blk _ _ _ (set_blk _ _ _ h4 z3) z3)
  clear c1 d1 e1 c3 d3 e3 e2 d2 h1 h2 h3 h4 g1 g2 g3 g4
  obtain ⟨c1, d1, e1⟩ := blk_facts i1
  obtain ⟨c3, d3, e3⟩ := blk_facts i3
  obtain ⟨c4, d4, e4⟩ := blk_facts i4
  have c2 : w3.cell? ⟨bw, n, none⟩ = some (.int .u64 old) := by rw [blk_cell i2]; exact HW.out
  have e2 := blk_lt i2
  have d2 := blk_free i2 n
  go_wp2_with fail
  clear c1 d1 e1 c3 d3 e3 e2 d2 c2
  have z4 : w.heap.size + 1 ≠ bm := by omega
  have z5 : w.heap.size + 1 ≠ bw := by omega
  refine bodyPost_ret (v := Tch.V ⟨kind, sk, so, old, new, d⟩) ?_ rfl ⟨rfl, ⟨?_, ?_, hne, ?_, hok, ?_⟩, ?_⟩
  · simp [results, Try.results53, go_sem, c4, Tch.V]
  · simp only [heap_setCell]
    simp [hne', z4, Obj.put, i1, Mem.cells, Mem.put]
  · simp only [heap_setCell]
    simp [hne, z5, Obj.put, i2, Mem.put, wV]
  · simpa [Mem.put] using HL.out
  · intro x hx
    rcases List.mem_or_eq_of_mem_set hx with h | h
    · exact hsm x h
    · rw [h]; exact hnew
  · exact (by (repeat (first | with_reducible exact Fr.refl _ _ | (with_reducible refine Fr.setCell ?_ _ _ _ ?_; rotate_left; first | focus (left; simp; done) | (right; omega) | (right; simp only [World.size_alloc, World.size_setCell, World.size_drew, size_plus] at *; omega)) | with_reducible refine Fr.alloc ?_ _ | with_reducible refine Fr.drew ?_ | with_reducible refine Fr.drewN ?_ _ | with_reducible refine Fr.plus ?_ _ _ | with_reducible refine Fr.grew ?_ hg1 | with_reducible refine Fr.grew ?_ hg2 | with_reducible refine Fr.grew ?_ hg3)))

set_option maxRecDepth 10000 in
set_option maxHeartbeats 1000000 in
theorem touch_none (w : World) (bm bw : Nat) (M : Mem) (kind sk so : Int) (ev : Value) (hM : MemAt w bm bw M) (hc : cellAt M.c sk so = none) :
    Calls Try.prog 53 #[.pointer (some ⟨bm, 0, none⟩), .int .i64 kind, .agg #[.int .i64 sk, .int .i64 so], ev] w fun e w' =>
      e = .returned (Tch.V ⟨kind, sk, so, 0, 0, false⟩) ∧ MemAt w' bm bw (M.miss kind sk so) ∧ Fr [bm, bw] w w' := by
  obtain ⟨f1, f2, hne, hlen, hok, hsm⟩ := hM
  have hcell := Lib.hid (Cell_none M.c sk so · hok hc)
  have hne' : bw ≠ bm := Ne.symm hne
  have HL := Lib.hid hlen
  clear hlen
  obtain ⟨c, ws, last, many⟩ := M
  obtain ⟨t, s, kk, g, q⟩ := c
  simp only [Mem.cells] at f1
  simp only [Cfg.V] at *
  have l1 := blk_lt f1
  have l2 := blk_lt f2
  obtain ⟨c1, d1, e1⟩ := blk_facts f1
  have m1 : bm < w.heap.size + 1 := by omega
  have m2 : bm < w.heap.size + 1 + 1 := by omega
  have m3 : bm < w.heap.size + 1 + 1 + 1 := by omega
  go_enter Try.func53, Try.ntmps53
  go_wp2_with fail
  refine wp_region_plus (by kernel_rfl) (by kernel_rfl) ?_
  repeat (go_big_quiet_step ((first | (go_at_call 71; exact quiet_plus (hcell.out _)))))
  refine wpQuiet_nil ?_
  intro w1 hw1
  have hg1 := grew_of_class hw1
  clear hw1
  have g1 := hg1.blk (alloc_blk _ (alloc_blk _ (alloc_blk _ f1)))
  have g2 := hg1.blk (alloc_blk _ (alloc_blk _ (alloc_blk _ f2)))
  have g3 := hg1.blk (alloc_new _ _)
  have g4 := hg1.blk (alloc_blk _ (alloc_new _ _))
  simp only [World.size_alloc] at g3 g4
  clear f1 f2 c1 d1 e1 hcell
  obtain ⟨c1, d1, e1⟩ := blk_facts g1
  obtain ⟨c3, d3, e3⟩ := blk_facts g3
  obtain ⟨c4, d4, e4⟩ := blk_facts g4
  have z1 : bm ≠ w.heap.size + 1 + 1 := by omega
  have z3 : w.heap.size + 1 ≠ w.heap.size + 1 + 1 := by omega
  go_wp2_with fail
  have z4 : w.heap.size + 1 ≠ bm := by omega
  have z5 : w.heap.size + 1 ≠ bw := by omega
  refine bodyPost_ret (v := Tch.V ⟨kind, sk, so, 0, 0, false⟩) ?_ rfl ⟨rfl, ⟨?_, ?_, hne, ?_, hok, ?_⟩, ?_⟩
  · simp [results, Try.results53, go_sem, c4, Tch.V]
  · simp only [heap_setCell]
    simp [z4, Obj.put, g1, Mem.cells, Mem.miss]
  · simp only [heap_setCell]
    simp [hne, z5, g2, Mem.miss]
  · simpa [Mem.miss] using HL.out
  · exact hsm
  · exact (by (repeat (first | with_reducible exact Fr.refl _ _ | (with_reducible refine Fr.setCell ?_ _ _ _ ?_; rotate_left; first | focus (left; simp; done) | (right; omega) | (right; simp only [World.size_alloc, World.size_setCell, World.size_drew, size_plus] at *; omega)) | with_reducible refine Fr.alloc ?_ _ | with_reducible refine Fr.drew ?_ | with_reducible refine Fr.drewN ?_ _ | with_reducible refine Fr.plus ?_ _ _ | with_reducible refine Fr.grew ?_ hg1)))

set_option maxHeartbeats 400000 in
theorem same_calls (x : Value) (a b : Int) (hx : x = .agg #[.int .u64 a, .int .u64 b]) (was : Nat) (w : World) : Calls Try.prog 55 #[x, .int .u64 was] w fun e w' => e = .returned (.tuple #[.int .u64 was, .bool true]) ∧ Grew w w' := by
  subst hx
  go_enter Try.func55, Try.ntmps55
  go_wp2
  go_ret2
  exact ⟨rfl, (by (repeat (first | with_reducible exact Grew.refl _ | with_reducible refine Grew.alloc ?_ _ | with_reducible refine Grew.drew ?_ | with_reducible refine Grew.drewN ?_ _ | with_reducible refine Grew.plus ?_ _ _ | (with_reducible refine Grew.setCell ?_ ?_ _; rotate_left; first | omega | (simp only [World.size_alloc, World.size_setCell, World.size_drew, size_plus] at *; omega)))))⟩
set_option maxHeartbeats 400000 in
theorem lays_calls (a b : Nat) (was : Nat) (w : World) : Calls Try.prog 54 #[.agg #[.int .u64 a, .int .u64 b], .int .u64 was] w fun e w' => e = .returned (.tuple #[.int .u64 b, .bool true]) ∧ Grew w w' := by
  go_enter Try.func54, Try.ntmps54
  go_wp2
  go_ret2
  exact ⟨rfl, (by (repeat (first | with_reducible exact Grew.refl _ | with_reducible refine Grew.alloc ?_ _ | with_reducible refine Grew.drew ?_ | with_reducible refine Grew.drewN ?_ _ | with_reducible refine Grew.plus ?_ _ _ | (with_reducible refine Grew.setCell ?_ ?_ _; rotate_left; first | omega | (simp only [World.size_alloc, World.size_setCell, World.size_drew, size_plus] at *; omega)))))⟩
set_option maxHeartbeats 400000 in
theorem swaps_yes (a b : Nat) (w : World) : Calls Try.prog 130 #[.agg #[.int .u64 a, .int .u64 b], .int .u64 a] w fun e w' => e = .returned (.tuple #[.int .u64 b, .bool true]) ∧ Grew w w' := by
  go_enter Try.func130, Try.ntmps130
  go_wp2
  go_ret2
  exact ⟨rfl, (by (repeat (first | with_reducible exact Grew.refl _ | with_reducible refine Grew.alloc ?_ _ | with_reducible refine Grew.drew ?_ | with_reducible refine Grew.drewN ?_ _ | with_reducible refine Grew.plus ?_ _ _ | (with_reducible refine Grew.setCell ?_ ?_ _; rotate_left; first | omega | (simp only [World.size_alloc, World.size_setCell, World.size_drew, size_plus] at *; omega)))))⟩
set_option maxHeartbeats 400000 in
theorem swaps_no (a b c : Nat) (w : World) (h : c ≠ a) : Calls Try.prog 130 #[.agg #[.int .u64 a, .int .u64 b], .int .u64 c] w fun e w' => e = .returned (.tuple #[.int .u64 c, .bool false]) ∧ Grew w w' := by
  go_enter Try.func130, Try.ntmps130
  go_wp2
  go_ret2
  exact ⟨rfl, (by (repeat (first | with_reducible exact Grew.refl _ | with_reducible refine Grew.alloc ?_ _ | with_reducible refine Grew.drew ?_ | with_reducible refine Grew.drewN ?_ _ | with_reducible refine Grew.plus ?_ _ _ | (with_reducible refine Grew.setCell ?_ ?_ _; rotate_left; first | omega | (simp only [World.size_alloc, World.size_setCell, World.size_drew, size_plus] at *; omega)))))⟩
end Go.Proofs.Ytabkdmcmfecokaa
