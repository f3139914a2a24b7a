/- The walks of package store: new memories; what a memory tells. -/
import Derived.Test.YtabkdmcmfecokaaRows
import Derived.Test.YtabkdmcmfecokaaStore
namespace Go.Proofs.Ytabkdmcmfecokaa
open Go Go.RowKit

theorem Grew.cell {w w' : World} (h : Grew w w') {p : Addr} {v : Value} (hp : w.cell? p = some v) : w'.cell? p = some v := by
  obtain ⟨os, n, rfl⟩ := h
  have hlt : p.block < w.heap.size := by
    rcases Nat.lt_or_ge p.block w.heap.size with h1 | h1
    · exact h1
    · simp only [World.cell?] at hp
      rw [Array.getElem?_eq_none h1] at hp; cases hp
  simp only [World.cell?] at hp ⊢
  rw [heap_plus _ _ _ _ hlt]; exact hp

set_option maxRecDepth 20000 in
set_option maxHeartbeats 1000000 in
theorem Of_calls (w : World) (c : Cfg) (ws : List Nat) (a : Addr) (cap : Nat) (hc : c.Ok) (hlen : ws.length = lenOf c) (hsm : ∀ x ∈ ws, U64 x) (hsrc : ∀ j x, ws[j]? = some x → w.cell? (a.add j) = some (wV x)) :
    Calls Try.prog 49 #[c.V, .slice (some a) ws.length cap] w fun e w' =>
      ∃ bm bw, e = .returned (.tuple #[.pointer (some ⟨bm, 0, none⟩), .int .i64 0]) ∧ MemAt w' bm bw (Mem.fresh c ws) ∧ w.heap.size ≤ bm ∧ w.heap.size ≤ bw ∧ Grew w w' := by
  have hll := Lib.hid (fun w => Len_calls c w hc)
  have hlen2 : ws.length ≤ 200 := by
    have h1 := hc.t2; have h2 := hc.s2; have h3 := hc.k2
    rw [hlen]; unfold lenOf; omega
  have hlen0 : ¬ (ws.length = 0) := by
    rw [hlen]; unfold lenOf; omega
  have hz : ((ws.length : Int) == 0) = false := by rw [beq_eq_false_iff_ne]; omega
  rw [← hlen] at hll
  have HC := Lib.hid (And.intro hc hlen)
  clear hc hlen
  have hmk := run_make_row' (P := Try.prog) 46 22 (.int .u64 0) 8 Try.underlying46 info_u64 rfl .i64 .i64 ws.length (by omega) (by omega)
  obtain ⟨t, s, k, g, q⟩ := c
  simp only [Cfg.V] at *
  go_enter Try.func49, Try.ntmps49
  go_wp2_with fail
  refine (hll.out _).mono ?_
  rintro e w1 ⟨rfl, hg1⟩
  have g1 := hg1.blk (alloc_new _ _)
  obtain ⟨c1, d1, e1⟩ := blk_facts g1
  go_wp2_with fail
  go_region
  have g2 := alloc_new (w1.alloc (.cells (madeCells #[Value.int IntKind.u64 0] ws.length) 22)) (.cells #[.int .i64 t, .int .i64 s, .int .i64 k, .int .i64 g, .int .u64 q, .slice (some ⟨w1.heap.size, 0, none⟩) ws.length ws.length, .int .i64 0, .int .i64 0, .int .i64 0, .int .u64 0, .int .u64 0, .bool false, .int .i64 0] 118 (0, 0))
  have g3 := alloc_blk (.cells #[.int .i64 t, .int .i64 s, .int .i64 k, .int .i64 g, .int .u64 q, .slice (some ⟨w1.heap.size, 0, none⟩) ws.length ws.length, .int .i64 0, .int .i64 0, .int .i64 0, .int .u64 0, .int .u64 0, .bool false, .int .i64 0] 118 (0, 0)) (alloc_new w1 (.cells (madeCells #[Value.int IntKind.u64 0] ws.length) 22))
  have hgr : Grew w ((w1.alloc (.cells (madeCells #[Value.int IntKind.u64 0] ws.length) 22)).alloc (.cells #[.int .i64 t, .int .i64 s, .int .i64 k, .int .i64 g, .int .u64 q, .slice (some ⟨w1.heap.size, 0, none⟩) ws.length ws.length, .int .i64 0, .int .i64 0, .int .i64 0, .int .u64 0, .int .u64 0, .bool false, .int .i64 0] 118 (0, 0))).drew := (by (repeat (first | with_reducible exact Grew.refl _ | with_reducible refine Grew.alloc ?_ _ | with_reducible refine Grew.drew ?_ | with_reducible refine Grew.drewN ?_ _ | with_reducible refine Grew.plus ?_ _ _ | (with_reducible refine Grew.setCell ?_ ?_ _; rotate_left; first | omega | (simp only [World.size_alloc, World.size_setCell, World.size_drew, size_plus] at *; omega)) | with_reducible exact hg1 | with_reducible refine Grew.trans ?_ hg1)))
  have hs1 : w.heap.size ≤ w1.heap.size := by have := hg1.size; simp at this; omega
  simp only [World.size_alloc] at g2
  generalize ((w1.alloc (.cells (madeCells #[Value.int IntKind.u64 0] ws.length) 22)).alloc (.cells #[.int .i64 t, .int .i64 s, .int .i64 k, .int .i64 g, .int .u64 q, .slice (some ⟨w1.heap.size, 0, none⟩) ws.length ws.length, .int .i64 0, .int .i64 0, .int .i64 0, .int .u64 0, .int .u64 0, .bool false, .int .i64 0] 118 (0, 0))) = w2 at *
  have g2' := drew_blk g2
  have g3' := drew_blk g3
  clear c1 d1 e1 g1 g2 g3 hmk
  generalize w2.drew = w3 at *
  obtain ⟨c1, d1, e1⟩ := blk_facts g2'
  have hsrc3 : ∀ j v, (ws.map wV)[j]? = some v → w3.cell? (a.add j) = some v := fun j v hv => by
    rw [List.getElem?_map] at hv
    obtain ⟨x, hx, rfl⟩ := Option.map_eq_some_iff.1 hv
    exact hgr.cell (hsrc j x hx)
  go_wp2_with fail
  have hcp := run_copy_row (P := Try.prog) w3 46 46 3 22 w1.heap.size 0 ws.length ws.length a ws.length cap
    (madeCells #[Value.int IntKind.u64 0] ws.length) 22 (ws.map wV) Try.underlying46 (by kernel_rfl) g3' (by simp) hsrc3 (by simp [size_madeCells]) (fun v hv => by
      obtain ⟨x, _, rfl⟩ := List.mem_map.1 hv
      rfl)
  rw [hcp]
  have hrow : ((madeCells #[Value.int IntKind.u64 0] ws.length).toList.take 0 ++ ws.map wV ++ (madeCells #[Value.int IntKind.u64 0] ws.length).toList.drop (0 + (ws.map wV).length)).toArray = (ws.map wV).toArray := by
    rw [List.drop_eq_nil_of_le (by simp [size_madeCells])]
    simp
  rw [hrow]
  have r1 := setRow_heap w3 w1.heap.size _ (ws.map wV).toArray _ _ g3'
  have r2 := (setRow_other w3 w1.heap.size (w1.heap.size + 1) (ws.map wV).toArray (by omega)).trans g2'
  have r3 := hgr.setRow hs1 (ws.map wV).toArray
  clear hcp hrow c1 d1 e1 hsrc3
  generalize w3.setRow w1.heap.size (ws.map wV).toArray = w4 at *
  go_wp2_with fail
  go_ret2
  exact ⟨w1.heap.size + 1, w1.heap.size, by simp, ⟨by simpa [Mem.cells, Mem.fresh] using r2, r1, by omega, HC.out.2, HC.out.1, hsm⟩, by omega, hs1, r3⟩

set_option maxHeartbeats 400000 in
theorem storeOf_no (w : World) (t s k g : Int) (q : Nat) (sl : Value) (hr : rightB t s k g q = false) :
    Calls Try.prog 49 #[.agg #[.int .i64 t, .int .i64 s, .int .i64 k, .int .i64 g, .int .u64 q], sl] w fun e w' =>
      e = .returned (.tuple #[.pointer none, .int .i64 1]) ∧ Grew w w' := by
  go_enter Try.func49, Try.ntmps49
  go_wp2_with fail
  refine (Len_no _ _ _ _ _ _ hr).mono ?_
  rintro e w1 ⟨rfl, hg1⟩
  go_wp2_with fail
  go_ret2
  exact ⟨by simp, (by (repeat (first | with_reducible exact Grew.refl _ | with_reducible refine Grew.alloc ?_ _ | with_reducible refine Grew.drew ?_ | with_reducible refine Grew.drewN ?_ _ | with_reducible refine Grew.plus ?_ _ _ | (with_reducible refine Grew.setCell ?_ ?_ _; rotate_left; first | omega | (simp only [World.size_alloc, World.size_setCell, World.size_drew, size_plus] at *; omega)) | with_reducible exact hg1 | with_reducible refine Grew.trans ?_ hg1)))⟩

/-- What a new memory's slice lies in. -/
def ZeroRow (n0 n : Nat) (v : Value) (W : World) : Prop := ∃ B, v = .slice (some ⟨B, 0, none⟩) n n ∧ n0 ≤ B ∧ W.heap[B]? = some (.cells (madeCells #[Value.int IntKind.u64 0] n) 22 (0, 0))
def NewMem (n0 : Nat) (c : Cfg) (v : Value) (W : World) : Prop := ∃ bm bw, v = .pointer (some ⟨bm, 0, none⟩) ∧ MemAt W bm bw (Mem.fresh c (List.replicate (lenOf c) 0)) ∧ n0 ≤ bm ∧ n0 ≤ bw
theorem zeros_made (n : Nat) (j x : Nat) (h : (List.replicate n 0)[j]? = some x) : (madeCells #[Value.int IntKind.u64 0] n)[j]? = some (wV x) := by
  have hj : j < n := by
    have := (List.getElem?_eq_some_iff.1 h).1; simpa using this
  have : x = 0 := by
    rw [List.getElem?_replicate, if_pos hj] at h; exact (Option.some.inj h).symm
  subst this
  unfold madeCells
  simp [hj, wV, Nat.mod_one]

set_option maxRecDepth 20000 in
set_option maxHeartbeats 1000000 in
theorem New_calls (w : World) (c : Cfg) (hc : c.Ok) :
    Calls Try.prog 12 #[c.V] w fun e w' =>
      ∃ bm bw, e = .returned (.tuple #[.pointer (some ⟨bm, 0, none⟩), .int .i64 0]) ∧ MemAt w' bm bw (Mem.fresh c (List.replicate (lenOf c) 0)) ∧ w.heap.size ≤ bm ∧ w.heap.size ≤ bw ∧ Grew w w' := by
  have hll := Lib.hid (fun w => Len_calls c w hc)
  have hof := Lib.hid (fun w a cap => Of_calls w c (List.replicate (lenOf c) 0) a cap hc (by simp) (fun x hx => by rw [(List.mem_replicate.1 hx).2]; show 0 < _; decide))
  have hlen2 : lenOf c ≤ 200 := by
    have h1 := hc.t2; have h2 := hc.s2; have h3 := hc.k2
    unfold lenOf; omega
  have hL : ∃ L, lenOf c = L := ⟨_, rfl⟩
  obtain ⟨L, hL⟩ := hL
  rw [hL] at hll hof hlen2 ⊢
  have hmk := run_make_row' (P := Try.prog) 46 22 (.int .u64 0) 8 Try.underlying46 info_u64 rfl .i64 .i64 L (by omega) (by omega)
  have HC := Lib.hid hL
  clear hc hL
  obtain ⟨t, s, k, g, q⟩ := c
  simp only [Cfg.V, List.length_replicate] at *
  go_enter Try.func12, Try.ntmps12
  go_wp2_with fail
  refine wp_region_mix [3, 4, 5, 6] 7 (by kernel_rfl) (by kernel_rfl) ?_
  simp only [List.take_succ_cons, List.take_zero, List.drop_succ_cons, List.drop_zero]
  repeat
    (refine mix_known ?_ ?_ (by rfl) (fun W K hW hK => ?_) ?_ ?_
     rotate_left 2
     · obtain ⟨os, n, rfl⟩ := hW
       go_simp
       first | done | exact hK _ (Grew.refl _)
     · simp only [Act.put, List.setIfInBounds_toArray, List.set_cons_zero, List.set_cons_succ]
       first | done | rfl)
  refine mix_known ?_ ?_ (by rfl) (fun W K hW hK => ?_) ?_ ?_
  rotate_left 2
  · obtain ⟨os, n, rfl⟩ := hW
    go_simp
    refine (hll.out _).mono ?_
    rintro e W2 ⟨rfl, hg⟩
    refine ⟨_, rfl, ?_⟩
    exact hK _ hg
  · simp only [Act.put, List.setIfInBounds_toArray, List.set_cons_zero, List.set_cons_succ]
    first | done | rfl
  repeat
    (refine mix_known ?_ ?_ (by rfl) (fun W K hW hK => ?_) ?_ ?_
     rotate_left 2
     · obtain ⟨os, n, rfl⟩ := hW
       go_simp
       first | done | exact hK _ (Grew.refl _)
     · simp only [Act.put, List.setIfInBounds_toArray, List.set_cons_zero, List.set_cons_succ]
       first | done | rfl)
  refine mix_phi (ZeroRow w.heap.size L) (by rfl) ?_ ?_ ?_
  · rintro v W W' hg ⟨B, rfl, hb, h⟩
    exact ⟨B, rfl, hb, hg.blk h⟩
  · intro W ρ K hW h1 h2 hK
    have e6 : ρ (.tmp 6) = .int .i64 L := h1 (.tmp 6) (by first | (unfold Op.operands; simp; done) | (unfold Op.operands Call.operands; simp)) (by simp)
    clear h1 h2
    go_simp
    exact hK _ _ ⟨W.heap.size, rfl, by have := hW.size; simp at this; omega, alloc_new _ _⟩ (by (repeat (first | with_reducible exact Grew.refl _ | with_reducible refine Grew.alloc ?_ _ | with_reducible refine Grew.drew ?_ | with_reducible refine Grew.drewN ?_ _ | with_reducible refine Grew.plus ?_ _ _ | (with_reducible refine Grew.setCell ?_ ?_ _; rotate_left; first | omega | (simp only [World.size_alloc, World.size_setCell, World.size_drew, size_plus] at *; omega)))))
  refine mix_phi (fun v W => ∃ bm bw, v = .tuple #[.pointer (some ⟨bm, 0, none⟩), .int .i64 0] ∧ MemAt W bm bw (Mem.fresh ⟨t, s, k, g, q⟩ (List.replicate L 0)) ∧ w.heap.size ≤ bm ∧ w.heap.size ≤ bw) (by rfl) ?_ ?_ ?_
  · rintro v W W' hg ⟨bm, bw, rfl, h, h3, h4⟩
    exact ⟨bm, bw, rfl, h.grew hg, h3, h4⟩
  · intro W ρ K hW h1 h2 hK
    have e4 : ρ (.tmp 4) = .agg #[.int .i64 t, .int .i64 s, .int .i64 k, .int .i64 g, .int .u64 q] := h1 (.tmp 4) (by first | (unfold Op.operands; simp; done) | (unfold Op.operands Call.operands; simp)) (by simp)
    have ef : ρ (.func 49) = .func (.func 49) #[] #[] := h1 (.func 49) (by first | (unfold Op.operands; simp; done) | (unfold Op.operands Call.operands; simp)) (by simp)
    have p7 := h2 7 _ (List.Mem.head _) (by first | (unfold Op.operands; simp; done) | (unfold Op.operands Call.operands; simp))
    obtain ⟨B, e7, hB, hz⟩ := p7
    clear h1 h2
    go_simp
    refine (hof.out W ⟨B, 0, none⟩ L (fun j x hj => by rw [add_at, blk_cell hz]; exact zeros_made L j x hj)).mono ?_
    rintro e W2 ⟨bm, bw, rfl, hm, h3, h4, hg⟩
    have h5 : w.heap.size ≤ W.heap.size := by have := hW.size; simp at this; omega
    exact ⟨_, rfl, hK _ _ ⟨bm, bw, rfl, hm, by omega, by omega⟩ hg⟩
  refine mix_phi (NewMem w.heap.size ⟨t, s, k, g, q⟩) (by rfl) ?_ ?_ ?_
  · rintro v W W' hg ⟨bm, bw, rfl, h, h3, h4⟩
    exact ⟨bm, bw, rfl, h.grew hg, h3, h4⟩
  · intro W ρ K hW h1 h2 hK
    have p8 := h2 8 _ (List.Mem.head _) (by first | (unfold Op.operands; simp; done) | (unfold Op.operands Call.operands; simp))
    obtain ⟨bm, bw, e8, hm, h3, h4⟩ := p8
    clear h1 h2
    go_simp
    rw [← HC.out] at hm
    exact hK _ _ ⟨bm, bw, rfl, hm, h3, h4⟩ (Grew.refl _)
  refine mix_phi (fun v _ => v = .int .i64 0) (by rfl) ?_ ?_ ?_
  · rintro v W W' hg rfl
    rfl
  · intro W ρ K hW h1 h2 hK
    have p8 := h2 8 _ (List.Mem.tail _ (List.Mem.head _)) (by first | (unfold Op.operands; simp; done) | (unfold Op.operands Call.operands; simp))
    obtain ⟨bm, bw, e8, hm, h3, h4⟩ := p8
    clear h1 h2
    go_simp
    exact hK _ _ rfl (Grew.refl _)
  intro b W hW hs hd hb hΓ
  have eb := frame_puts hs hd hb
  simp only [List.map, List.foldl, Option.getD_some, Act.put, List.setIfInBounds_toArray, List.set_cons_zero, List.set_cons_succ] at eb
  obtain ⟨bm, bw, e9, hm, h3, h4⟩ := hΓ 9 _ (List.Mem.tail _ (List.Mem.head _))
  have e10 := hΓ 10 _ (List.Mem.head _)
  rw [HC.out] at hm
  clear hΓ hs hd hb
  generalize b.tmps.getD 7 undef = x7 at eb
  generalize b.tmps.getD 8 undef = x8 at eb
  rw [e9, e10] at eb
  subst eb
  clear e9 e10
  go_wp2_with fail
  go_ret2
  exact ⟨bm, bw, by simp, hm, h3, h4, (by (repeat (first | with_reducible exact Grew.refl _ | with_reducible refine Grew.alloc ?_ _ | with_reducible refine Grew.drew ?_ | with_reducible refine Grew.drewN ?_ _ | with_reducible refine Grew.plus ?_ _ _ | (with_reducible refine Grew.setCell ?_ ?_ _; rotate_left; first | omega | (simp only [World.size_alloc, World.size_setCell, World.size_drew, size_plus] at *; omega)) | with_reducible exact hW | with_reducible refine Grew.trans ?_ hW)))⟩

set_option maxRecDepth 20000 in
set_option maxHeartbeats 1000000 in
theorem New_no (w : World) (t s k g : Int) (q : Nat) (hr : rightB t s k g q = false) :
    Calls Try.prog 12 #[.agg #[.int .i64 t, .int .i64 s, .int .i64 k, .int .i64 g, .int .u64 q]] w fun e w' => e = .returned (.tuple #[.pointer none, .int .i64 1]) ∧ Grew w w' := by
  have hll := Lib.hid (fun w => Len_no t s k g q w hr)
  have hof := Lib.hid (fun w sl => storeOf_no w t s k g q sl hr)
  have hmk : ∀ w, (Instr.makeSlice 46 (.int .i64 0) (.int .i64 0)).run Try.prog w = .ok (.slice (some ⟨w.heap.size, 0, none⟩) 0 0) (w.alloc (.cells (madeCells #[Value.int .u64 0] 0) 22)) :=
    run_make_row' (P := Try.prog) 46 22 (.int .u64 0) 8 Try.underlying46 info_u64 rfl .i64 .i64 0 (by omega) (by omega)
  clear hr
  go_enter Try.func12, Try.ntmps12
  go_wp2_with fail
  refine wp_region_mix [3, 4, 5, 6] 7 (by kernel_rfl) (by kernel_rfl) ?_
  simp only [List.take_succ_cons, List.take_zero, List.drop_succ_cons, List.drop_zero]
  repeat
    (refine mix_known ?_ ?_ (by rfl) (fun W K hW hK => ?_) ?_ ?_
     rotate_left 2
     · obtain ⟨os, n, rfl⟩ := hW
       go_simp
       first | done | exact hK _ (Grew.refl _)
     · simp only [Act.put, List.setIfInBounds_toArray, List.set_cons_zero, List.set_cons_succ]
       first | done | rfl)
  refine mix_known ?_ ?_ (by rfl) (fun W K hW hK => ?_) ?_ ?_
  rotate_left 2
  · obtain ⟨os, n, rfl⟩ := hW
    go_simp
    refine (hll.out _).mono ?_
    rintro e W2 ⟨rfl, hg⟩
    refine ⟨_, rfl, ?_⟩
    exact hK _ hg
  · simp only [Act.put, List.setIfInBounds_toArray, List.set_cons_zero, List.set_cons_succ]
    first | done | rfl
  repeat
    (refine mix_known ?_ ?_ (by rfl) (fun W K hW hK => ?_) ?_ ?_
     rotate_left 2
     · obtain ⟨os, n, rfl⟩ := hW
       go_simp
       first | done | exact hK _ (Grew.refl _)
     · simp only [Act.put, List.setIfInBounds_toArray, List.set_cons_zero, List.set_cons_succ]
       first | done | rfl)
  refine mix_phi (fun _ _ => True) (by rfl) (fun _ _ _ _ _ => trivial) ?_ ?_
  · intro W ρ K hW h1 h2 hK
    have e6 : ρ (.tmp 6) = .int .i64 0 := h1 (.tmp 6) (by first | (unfold Op.operands; simp; done) | (unfold Op.operands Call.operands; simp)) (by simp)
    clear h1 h2
    go_simp
    exact hK _ _ trivial (by (repeat (first | with_reducible exact Grew.refl _ | with_reducible refine Grew.alloc ?_ _ | with_reducible refine Grew.drew ?_ | with_reducible refine Grew.drewN ?_ _ | with_reducible refine Grew.plus ?_ _ _ | (with_reducible refine Grew.setCell ?_ ?_ _; rotate_left; first | omega | (simp only [World.size_alloc, World.size_setCell, World.size_drew, size_plus] at *; omega)))))
  refine mix_phi (fun v W => v = .tuple #[.pointer none, .int .i64 1]) (by rfl) (fun _ _ _ _ h => h) ?_ ?_
  · intro W ρ K hW h1 h2 hK
    have e4 : ρ (.tmp 4) = .agg #[.int .i64 t, .int .i64 s, .int .i64 k, .int .i64 g, .int .u64 q] := h1 (.tmp 4) (by first | (unfold Op.operands; simp; done) | (unfold Op.operands Call.operands; simp)) (by simp)
    have ef : ρ (.func 49) = .func (.func 49) #[] #[] := h1 (.func 49) (by first | (unfold Op.operands; simp; done) | (unfold Op.operands Call.operands; simp)) (by simp)
    clear h1 h2
    go_simp
    refine (hof.out W _).mono ?_
    rintro e W2 ⟨rfl, hg⟩
    exact ⟨_, rfl, hK _ _ rfl hg⟩
  refine mix_phi (fun v W => v = .pointer none) (by rfl) (fun _ _ _ _ h => h) ?_ ?_
  · intro W ρ K hW h1 h2 hK
    have p8 := h2 8 _ (List.Mem.head _) (by first | (unfold Op.operands; simp; done) | (unfold Op.operands Call.operands; simp))
    clear h1 h2
    go_simp
    exact hK _ _ rfl (Grew.refl _)
  refine mix_phi (fun v _ => v = .int .i64 1) (by rfl) (fun _ _ _ _ h => h) ?_ ?_
  · intro W ρ K hW h1 h2 hK
    have p8 := h2 8 _ (List.Mem.tail _ (List.Mem.head _)) (by first | (unfold Op.operands; simp; done) | (unfold Op.operands Call.operands; simp))
    clear h1 h2
    go_simp
    exact hK _ _ rfl (Grew.refl _)
  intro b W hW hs hd hb hΓ
  have eb := frame_puts hs hd hb
  simp only [List.map, List.foldl, Option.getD_some, Act.put, List.setIfInBounds_toArray, List.set_cons_zero, List.set_cons_succ] at eb
  have e9 := hΓ 9 _ (List.Mem.tail _ (List.Mem.head _))
  have e10 := hΓ 10 _ (List.Mem.head _)
  clear hΓ hs hd hb
  generalize b.tmps.getD 7 undef = x7 at eb
  generalize b.tmps.getD 8 undef = x8 at eb
  rw [e9, e10] at eb
  subst eb
  clear e9 e10
  go_wp2_with fail
  go_ret2
  exact ⟨by simp, (by (repeat (first | with_reducible exact Grew.refl _ | with_reducible refine Grew.alloc ?_ _ | with_reducible refine Grew.drew ?_ | with_reducible refine Grew.drewN ?_ _ | with_reducible refine Grew.plus ?_ _ _ | (with_reducible refine Grew.setCell ?_ ?_ _; rotate_left; first | omega | (simp only [World.size_alloc, World.size_setCell, World.size_drew, size_plus] at *; omega)) | with_reducible exact hW | with_reducible refine Grew.trans ?_ hW)))⟩

set_option maxHeartbeats 400000 in
theorem Config_calls (w : World) (bm bw : Nat) (M : Mem) (hM : MemAt w bm bw M) :
    Calls Try.prog 89 #[.pointer (some ⟨bm, 0, none⟩)] w fun e w' => e = .returned M.c.V ∧ Grew w w' := by
  obtain ⟨f1, f2, hne, hlen, hok, hsm⟩ := hM
  clear hlen hsm hok f2
  obtain ⟨c, ws, last, many⟩ := M
  simp only [Mem.cells, Cfg.V] at *
  obtain ⟨c1, d1, e1⟩ := blk_facts f1
  go_enter Try.func89, Try.ntmps89
  go_wp2_with fail
  refine bodyPost_ret (v := .agg #[.int .i64 c.t, .int .i64 c.s, .int .i64 c.k, .int .i64 c.g, .int .u64 c.q]) ?_ rfl ⟨rfl, (by (repeat (first | with_reducible exact Grew.refl _ | with_reducible refine Grew.alloc ?_ _ | with_reducible refine Grew.drew ?_ | with_reducible refine Grew.drewN ?_ _ | with_reducible refine Grew.plus ?_ _ _ | (with_reducible refine Grew.setCell ?_ ?_ _; rotate_left; first | omega | (simp only [World.size_alloc, World.size_setCell, World.size_drew, size_plus] at *; omega)))))⟩
  simp [results, Try.results89, go_sem]
set_option maxHeartbeats 400000 in
theorem Last_calls (w : World) (bm bw : Nat) (M : Mem) (hM : MemAt w bm bw M) :
    Calls Try.prog 68 #[.pointer (some ⟨bm, 0, none⟩)] w fun e w' => e = .returned M.last.V ∧ Grew w w' := by
  obtain ⟨f1, f2, hne, hlen, hok, hsm⟩ := hM
  clear hlen hsm hok f2
  obtain ⟨c, ws, last, many⟩ := M
  simp only [Mem.cells, Tch.V] at *
  obtain ⟨c1, d1, e1⟩ := blk_facts f1
  go_enter Try.func68, Try.ntmps68
  go_wp2_with fail
  refine bodyPost_ret (v := .agg #[.int .i64 last.kind, .int .i64 last.sk, .int .i64 last.so, .int .u64 last.old, .int .u64 last.new, .bool last.done]) ?_ rfl ⟨rfl, (by (repeat (first | with_reducible exact Grew.refl _ | with_reducible refine Grew.alloc ?_ _ | with_reducible refine Grew.drew ?_ | with_reducible refine Grew.drewN ?_ _ | with_reducible refine Grew.plus ?_ _ _ | (with_reducible refine Grew.setCell ?_ ?_ _; rotate_left; first | omega | (simp only [World.size_alloc, World.size_setCell, World.size_drew, size_plus] at *; omega)))))⟩
  simp [results, Try.results68, go_sem]
set_option maxHeartbeats 400000 in
theorem Count_calls (w : World) (bm bw : Nat) (M : Mem) (hM : MemAt w bm bw M) :
    Calls Try.prog 69 #[.pointer (some ⟨bm, 0, none⟩)] w fun e w' => e = .returned (.int .i64 M.many) ∧ w = w' := by
  obtain ⟨f1, f2, hne, hlen, hok, hsm⟩ := hM
  clear hlen hsm hok f2
  obtain ⟨c, ws, last, many⟩ := M
  simp only [Mem.cells] at *
  obtain ⟨c1, d1, e1⟩ := blk_facts f1
  go_enter Try.func69, Try.ntmps69
  go_wp2_with fail
  go_ret
  exact ⟨rfl, rfl⟩
end Go.Proofs.Ytabkdmcmfecokaa
