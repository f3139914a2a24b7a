/- The walks of package open, on. -/
import Derived.Test.YtabkdmcmfecokaaRows
import Derived.Test.YtabkdmcmfecokaaOpen
namespace Go.Proofs.Ytabkdmcmfecokaa
open Go Go.RowKit

set_option maxRecDepth 10000 in
set_option maxHeartbeats 1000000 in
theorem otally_calls (W : World) (b bm bw : Nat) (M : Mem) (v0 v1 v2 v3 v4 v5 v6 v7 v8 : Value) (h : W.heap[b]? = some (.cells #[v0, v1, v2, v3, v4, v5, v6, v7, v8] 110 (0, 0)))
    (hM : MemAt W bm bw M) (h1 : b ≠ bm) (h2 : b ≠ bw) :
    Calls Try.prog 120 #[.pointer (some ⟨b, 0, none⟩), .pointer (some ⟨bm, 0, none⟩)] W fun e w' => e = .returned (.tuple #[]) ∧
      ((M.load 1 0).2 % 16 = 0 → w'.heap[b]? = some (.cells #[meth 133 b, v1, v2, v3, .int .u64 ((M.load 1 0).2 / 16 : Nat), v5, v6, v7, v8] 110 (0, 0))) ∧
      ((M.load 1 0).2 % 16 ≠ 0 → ∃ ba, w'.heap[b]? = some (.cells #[meth 135 b, v1, v2, v3, .int .u64 ((M.load 1 0).2 / 16 : Nat), .pointer (some ⟨ba, 0, none⟩), v6, v7, v8] 110 (0, 0)) ∧ HlpAt w' ba (Hlp.new (M.load 1 0).2) ∧ W.heap.size ≤ ba) ∧
      MemAt w' bm bw (M.load 1 0).1 ∧ Fr [b, bm, bw] W w' := by
  have hsm := hM.load_small 1 0
  have HL := Lib.hid (fun w h => Load_calls w bm bw M 1 0 h)
  generalize M.load 1 0 = R at *
  obtain ⟨M2, x⟩ := R
  simp only at *
  have ht := Lib.hid (fun w => tUnpack_calls x w hsm)
  have HN := Lib.hid (fun w => hNew_calls w x hsm)
  obtain ⟨c1, d1, e1⟩ := blk_facts h
  have hp : (x % 16 = 0 ∧ ((x % 16 : Nat) : Int) - 1 = -1) ∨ (x % 16 ≠ 0 ∧ 0 ≤ ((x % 16 : Nat) : Int) - 1) := by omega
  generalize ((x % 16 : Nat) : Int) - 1 = q at *
  generalize x / 16 = sq at *
  rcases hp with ⟨h0, hq⟩ | ⟨h0, hq⟩
  · have H0 := Lib.hid h0
    clear h0
    subst hq
    go_enter Try.func120, Try.ntmps120
    go_wp2_with fail
    refine (HL.out _ hM).mono ?_
    rintro e w1 ⟨rfl, hm1, hf1⟩
    have k1 := hf1.keep h (by simp [h1, h2])
    have hr1 := hf1.more b
    go_wp2_with fail
    refine (ht.out _).mono ?_
    rintro e w2 ⟨rfl, hg2⟩
    have k2 := hg2.blk k1
    have hm2 := hm1.grew hg2
    have hr2 : Fr [b, bm, bw] W w2 := (by (repeat (first | with_reducible exact Fr.refl _ _ | (with_reducible refine Fr.setCell ?_ _ _ _ ?_; rotate_left; first | focus (left; simp; done) | (right; omega) | (right; simp only [World.size_alloc, World.size_setCell, World.size_drew, size_plus] at *; omega)) | with_reducible refine Fr.alloc ?_ _ | with_reducible refine Fr.drew ?_ | with_reducible refine Fr.drewN ?_ _ | with_reducible refine Fr.plus ?_ _ _ | with_reducible refine Fr.grew ?_ hg2 | with_reducible exact hr1 | with_reducible refine Fr.trans ?_ hr1)))
    have hne : b ≠ w2.heap.size := by have := blk_lt k2; omega
    clear c1 d1 e1
    obtain ⟨c1, d1, e1⟩ := blk_facts k2
    go_wp2_with fail
    exact bodyPost_end (v := .tuple #[]) (by simp [results, Try.results120, go_sem]) rfl ⟨rfl, fun _ => alloc_blk _ (set_same 0 _ (set_same 4 _ k2)), fun h => absurd H0.out h, ((hm2.set _ _ h1 h2).set _ _ h1 h2).grew ((Grew.refl _).alloc _), (by (repeat (first | with_reducible exact Fr.refl _ _ | (with_reducible refine Fr.setCell ?_ _ _ _ ?_; rotate_left; first | focus (left; simp; done) | (right; omega) | (right; simp only [World.size_alloc, World.size_setCell, World.size_drew, size_plus] at *; omega)) | with_reducible refine Fr.alloc ?_ _ | with_reducible refine Fr.drew ?_ | with_reducible refine Fr.drewN ?_ _ | with_reducible refine Fr.plus ?_ _ _ | with_reducible exact hr2 | with_reducible refine Fr.trans ?_ hr2)))⟩
  · have H0 := Lib.hid h0
    clear h0
    go_enter Try.func120, Try.ntmps120
    go_wp2_with fail
    refine (HL.out _ hM).mono ?_
    rintro e w1 ⟨rfl, hm1, hf1⟩
    have k1 := hf1.keep h (by simp [h1, h2])
    have hr1 := hf1.more b
    go_wp2_with fail
    refine (ht.out _).mono ?_
    rintro e w2 ⟨rfl, hg2⟩
    have k2 := hg2.blk k1
    have hm2 := hm1.grew hg2
    have hr2 : Fr [b, bm, bw] W w2 := (by (repeat (first | with_reducible exact Fr.refl _ _ | (with_reducible refine Fr.setCell ?_ _ _ _ ?_; rotate_left; first | focus (left; simp; done) | (right; omega) | (right; simp only [World.size_alloc, World.size_setCell, World.size_drew, size_plus] at *; omega)) | with_reducible refine Fr.alloc ?_ _ | with_reducible refine Fr.drew ?_ | with_reducible refine Fr.drewN ?_ _ | with_reducible refine Fr.plus ?_ _ _ | with_reducible refine Fr.grew ?_ hg2 | with_reducible exact hr1 | with_reducible refine Fr.trans ?_ hr1)))
    have hne : b ≠ w2.heap.size := by have := blk_lt k2; omega
    clear c1 d1 e1
    obtain ⟨c1, d1, e1⟩ := blk_facts k2
    go_wp2_with fail
    refine (HN.out _).mono ?_
    rintro e w3 ⟨ba, rfl, hh, hba, hg3⟩
    have k3 := hg3.blk (alloc_blk _ (set_same 0 (.func (.func 133) #[.pointer (some ⟨b, 0, none⟩)] #[]) (set_same 4 (.int .u64 sq) k2)))
    have hm3 := (((hm2.set 4 (.int .u64 sq) h1 h2).set 0 (.func (.func 133) #[.pointer (some ⟨b, 0, none⟩)] #[]) h1 h2).grew ((Grew.refl _).alloc _)).grew hg3
    have hr3 : Fr [b, bm, bw] W w3 := (by (repeat (first | with_reducible exact Fr.refl _ _ | (with_reducible refine Fr.setCell ?_ _ _ _ ?_; rotate_left; first | focus (left; simp; done) | (right; omega) | (right; simp only [World.size_alloc, World.size_setCell, World.size_drew, size_plus] at *; omega)) | with_reducible refine Fr.alloc ?_ _ | with_reducible refine Fr.drew ?_ | with_reducible refine Fr.drewN ?_ _ | with_reducible refine Fr.plus ?_ _ _ | with_reducible refine Fr.grew ?_ hg3 | with_reducible exact hr2 | with_reducible refine Fr.trans ?_ hr2)))
    have hsz := hr2.size
    simp only [World.size_setCell, World.size_alloc] at hba
    clear c1 d1 e1
    obtain ⟨c1, d1, e1⟩ := blk_facts k3
    have hne2 : b ≠ ba := by have := blk_lt k2; omega
    go_wp2_with fail
    refine bodyPost_end (v := .tuple #[]) (by simp [results, Try.results120, go_sem]) rfl ⟨rfl, fun h => absurd h H0.out, fun _ => ⟨ba, ?_, ?_, by omega⟩, (hm3.set _ _ h1 h2).set _ _ h1 h2, (by (repeat (first | with_reducible exact Fr.refl _ _ | (with_reducible refine Fr.setCell ?_ _ _ _ ?_; rotate_left; first | focus (left; simp; done) | (right; omega) | (right; simp only [World.size_alloc, World.size_setCell, World.size_drew, size_plus] at *; omega)) | with_reducible refine Fr.alloc ?_ _ | with_reducible refine Fr.drew ?_ | with_reducible refine Fr.drewN ?_ _ | with_reducible refine Fr.plus ?_ _ _ | with_reducible exact hr3 | with_reducible refine Fr.trans ?_ hr3)))⟩
    · exact set_same 0 _ (set_same 5 _ k3)
    · exact ⟨set_blk _ _ _ (set_blk _ _ _ hh.own (Ne.symm hne2)) (Ne.symm hne2), hh.w, hh.s⟩

set_option maxRecDepth 10000 in
set_option maxHeartbeats 1000000 in
theorem ohelp_calls (W : World) (b ba bm bw : Nat) (M : Mem) (A : Hlp) (v0 v1 v2 v3 v4 v6 v7 v8 : Value) (h : W.heap[b]? = some (.cells #[v0, v1, v2, v3, v4, .pointer (some ⟨ba, 0, none⟩), v6, v7, v8] 110 (0, 0)))
    (hA : HlpAt W ba A) (hM : MemAt W bm bw M) (h1 : b ≠ bm) (h2 : b ≠ bw) (h3 : b ≠ ba) (h4 : ba ≠ bm) (h5 : ba ≠ bw) :
    Calls Try.prog 135 #[.pointer (some ⟨b, 0, none⟩), .pointer (some ⟨bm, 0, none⟩)] W fun e w' => e = .returned (.tuple #[]) ∧
      w'.heap[b]? = some (.cells #[if (A.step M).1.done then meth 120 b else v0, v1, v2, v3, v4, .pointer (some ⟨ba, 0, none⟩), v6, v7, v8] 110 (0, 0)) ∧
      HlpAt w' ba (A.step M).1 ∧ MemAt w' bm bw (A.step M).2 ∧ Fr [b, ba, bm, bw] W w' := by
  have HS := Lib.hid (hStep_calls W ba bm bw A M hA hM h4 h5)
  generalize A.step M = R at *
  obtain ⟨A2, M2⟩ := R
  simp only at *
  obtain ⟨c1, d1, e1⟩ := blk_facts h
  cases hd : A2.done
  all_goals
    go_enter Try.func135, Try.ntmps135
    go_wp2_with fail
    refine HS.out.mono ?_
    rintro e w1 ⟨rfl, hA1, hm1, hf1⟩
    have k1 := hf1.keep h (by simp [h1, h2, h3])
    have hr1 : Fr [b, ba, bm, bw] W w1 := hf1.more b
    clear c1 d1 e1
    obtain ⟨c1, d1, e1⟩ := blk_facts k1
    go_wp2_with fail
    refine (hDone_calls w1 ba A2 hA1).mono ?_
    rintro e w2 ⟨rfl, rfl⟩
    rw [hd]
    go_wp2_with fail
  · exact bodyPost_end (v := .tuple #[]) (by simp [results, Try.results135, go_sem]) rfl ⟨rfl, k1, hA1, hm1, hr1⟩
  · exact bodyPost_end (v := .tuple #[]) (by simp [results, Try.results135, go_sem]) rfl ⟨rfl, set_same 0 _ k1, ⟨set_blk _ _ _ hA1.own (Ne.symm h3), hA1.w, hA1.s⟩, hm1.set _ _ h1 h2, (by (repeat (first | with_reducible exact Fr.refl _ _ | (with_reducible refine Fr.setCell ?_ _ _ _ ?_; rotate_left; first | focus (left; simp; done) | (right; omega) | (right; simp only [World.size_alloc, World.size_setCell, World.size_drew, size_plus] at *; omega)) | with_reducible refine Fr.alloc ?_ _ | with_reducible refine Fr.drew ?_ | with_reducible refine Fr.drewN ?_ _ | with_reducible refine Fr.plus ?_ _ _ | with_reducible exact hr1 | with_reducible refine Fr.trans ?_ hr1)))⟩

set_option maxRecDepth 10000 in
set_option maxHeartbeats 1000000 in
theorem onote_calls (W : World) (b bm bw : Nat) (M : Mem) (v0 v1 v3 v5 v6 v7 v8 : Value) (p : Int) (sq : Nat) (h : W.heap[b]? = some (.cells #[v0, v1, .int .i64 p, v3, .int .u64 sq, v5, v6, v7, v8] 110 (0, 0)))
    (hsq : U64 sq) (hM : MemAt W bm bw M) (h1 : b ≠ bm) (h2 : b ≠ bw) :
    Calls Try.prog 133 #[.pointer (some ⟨b, 0, none⟩), .pointer (some ⟨bm, 0, none⟩)] W fun e w' => e = .returned (.tuple #[]) ∧
      w'.heap[b]? = some (.cells #[meth 145 b, v1, .int .i64 p, v3, .int .u64 sq, v5, v6, v7, v8] 110 (0, 0)) ∧
      MemAt w' bm bw (M.store 5 p sq) ∧ Fr [b, bm, bw] W w' := by
  obtain ⟨c1, d1, e1⟩ := blk_facts h
  have HS := Lib.hid (fun w h => Store_calls w bm bw M 5 p sq h hsq)
  go_enter Try.func133, Try.ntmps133
  go_wp2_with fail
  refine wp_region_tail 7 (by kernel_rfl) (by kernel_rfl) ?_
  simp only [List.take_succ_cons, List.take_zero, List.drop_succ_cons, List.drop_zero]
  repeat (go_big_quiet_step ((first | (go_at_call 87; exact quiet_plus (ospot_calls _ b 5 _ _ _ _ _ _ _ _ _ ((Grew.plus (Grew.refl W) _ _).blk h))))))
  refine wpQuiet_nil ?_
  intro w1 hw1
  have hg1 := grew_of_class hw1
  clear hw1
  go_wp2_with fail
  refine (HS.out _ (hM.grew hg1)).mono ?_
  rintro e w2 ⟨rfl, hm, hf⟩
  have k2 := hf.keep (hg1.blk h) (by simp [h1, h2])
  have hr2 : Fr [b, bm, bw] W w2 := (Fr.of_grew hg1).trans (hf.more b)
  clear c1 d1 e1
  obtain ⟨c1, d1, e1⟩ := blk_facts k2
  go_wp2_with fail
  exact bodyPost_end (v := .tuple #[]) (by simp [results, Try.results133, go_sem]) rfl ⟨rfl, set_same 0 _ k2, hm.set _ _ h1 h2, (by (repeat (first | with_reducible exact Fr.refl _ _ | (with_reducible refine Fr.setCell ?_ _ _ _ ?_; rotate_left; first | focus (left; simp; done) | (right; omega) | (right; simp only [World.size_alloc, World.size_setCell, World.size_drew, size_plus] at *; omega)) | with_reducible refine Fr.alloc ?_ _ | with_reducible refine Fr.drew ?_ | with_reducible refine Fr.drewN ?_ _ | with_reducible refine Fr.plus ?_ _ _ | with_reducible exact hr2 | with_reducible refine Fr.trans ?_ hr2)))⟩

set_option maxRecDepth 10000 in
set_option maxHeartbeats 1000000 in
theorem ostart_calls (W : World) (b bm bw : Nat) (M : Mem) (v0 v1 v5 v6 v7 v8 : Value) (p x sq : Nat) (h : W.heap[b]? = some (.cells #[v0, v1, .int .i64 p, .int .u64 x, .int .u64 sq, v5, v6, v7, v8] 110 (0, 0)))
    (hx : U64 x) (hp : p ≤ 11) (hgn : stGen x ≤ 1073741823) (hM : MemAt W bm bw M) (h1 : b ≠ bm) (h2 : b ≠ bw) :
    Calls Try.prog 145 #[.pointer (some ⟨b, 0, none⟩), .pointer (some ⟨bm, 0, none⟩)] W fun e w' => e = .returned (.tuple #[]) ∧
      w'.heap[b]? = some (.cells #[.nilFunc, v1, .int .i64 p, .int .u64 x, .int .u64 sq, v5, .int .i64 0, .int .u64 (16 * stGen x + p + 1 : Nat), .int .u64 sq] 110 (0, 0)) ∧
      MemAt w' bm bw (M.store 4 p (stMove x 2 false)) ∧ Fr [b, bm, bw] W w' := by
  obtain ⟨c1, d1, e1⟩ := blk_facts h
  have hst := st_gen
  have HMk := Lib.hid (fun w => Make_yes p (stGen x) w hp hgn)
  have HS := Lib.hid (fun w h => Store_calls w bm bw M 4 p (stMove x 2 false) h (stMove_lt hx (by decide)))
  have HMv := Lib.hid (fun w => Move_calls x 2 false w hx (by decide))
  have HU := Lib.hid (fun w => Unpack_calls x w hx)
  clear hgn
  generalize stMove x 2 false = y at *
  generalize 16 * stGen x + p + 1 = tk at *
  go_enter Try.func145, Try.ntmps145
  go_wp2_with fail
  refine wp_region_tail 8 (by kernel_rfl) (by kernel_rfl) ?_
  simp only [List.take_succ_cons, List.take_zero, List.drop_succ_cons, List.drop_zero]
  repeat (go_big_quiet_step ((first | (go_at_call 87; exact quiet_plus (ospot_calls _ b 4 _ _ _ _ _ _ _ _ _ ((Grew.plus (Grew.refl W) _ _).blk h))) | (go_at_call 119; exact quiet_plus (calls_grew (HMv.out _))))))
  refine wpQuiet_nil ?_
  intro w1 hw1
  have hg1 := grew_of_class hw1
  clear hw1
  go_wp2_with fail
  refine (HS.out _ (hM.grew hg1)).mono ?_
  rintro e w2 ⟨rfl, hm, hf⟩
  have k2 := hf.keep (hg1.blk h) (by simp [h1, h2])
  have hr2 : Fr [b, bm, bw] W w2 := (Fr.of_grew hg1).trans (hf.more b)
  clear c1 d1 e1
  obtain ⟨c1, d1, e1⟩ := blk_facts k2
  go_wp2_with fail
  refine wp_region_plus (by kernel_rfl) (by kernel_rfl) ?_
  repeat (go_big_quiet_step ((first | (go_at_call 88; exact quiet_plus (HU.out _)) | (go_at_call 161; exact quiet_plus (HMk.out _)))))
  refine wpQuiet_nil ?_
  intro w3 hw3
  have hg3 := grew_of_class hw3
  clear hw3
  have k3 := hg3.blk k2
  have hm3 := hm.grew hg3
  have hr3 : Fr [b, bm, bw] W w3 := (by (repeat (first | with_reducible exact Fr.refl _ _ | (with_reducible refine Fr.setCell ?_ _ _ _ ?_; rotate_left; first | focus (left; simp; done) | (right; omega) | (right; simp only [World.size_alloc, World.size_setCell, World.size_drew, size_plus] at *; omega)) | with_reducible refine Fr.alloc ?_ _ | with_reducible refine Fr.drew ?_ | with_reducible refine Fr.drewN ?_ _ | with_reducible refine Fr.plus ?_ _ _ | with_reducible refine Fr.grew ?_ hg3 | with_reducible exact hr2 | with_reducible refine Fr.trans ?_ hr2)))
  clear c1 d1 e1
  obtain ⟨c1, d1, e1⟩ := blk_facts k3
  go_wp2_with fail
  refine bodyPost_end (v := .tuple #[]) (by simp [results, Try.results145, go_sem]) rfl ⟨rfl, ?_, (((hm3.set _ _ h1 h2).set _ _ h1 h2).set _ _ h1 h2).set _ _ h1 h2, (by (repeat (first | with_reducible exact Fr.refl _ _ | (with_reducible refine Fr.setCell ?_ _ _ _ ?_; rotate_left; first | focus (left; simp; done) | (right; omega) | (right; simp only [World.size_alloc, World.size_setCell, World.size_drew, size_plus] at *; omega)) | with_reducible refine Fr.alloc ?_ _ | with_reducible refine Fr.drew ?_ | with_reducible refine Fr.drewN ?_ _ | with_reducible refine Fr.plus ?_ _ _ | with_reducible exact hr3 | with_reducible refine Fr.trans ?_ hr3)))⟩
  exact set_same 0 _ (set_same 8 _ (set_same 7 _ (set_same 6 _ k3)))
end Go.Proofs.Ytabkdmcmfecokaa
