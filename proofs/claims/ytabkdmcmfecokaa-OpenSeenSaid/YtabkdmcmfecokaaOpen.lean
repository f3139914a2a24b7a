/- The walks of package open. -/
import Derived.Test.YtabkdmcmfecokaaRows
import Derived.Test.YtabkdmcmfecokaaHelp
import Derived.Test.YtabkdmcmfecokaaMake
namespace Go.Proofs.Ytabkdmcmfecokaa
open Go Go.RowKit

set_option maxHeartbeats 400000 in
theorem counter1_calls (W : World) (bc : Nat) (n : Int) (h : W.heap[bc]? = some (.cells #[.int .i64 n] 3 (0, 0))) (hn : -1 ≤ n ∧ n ≤ 100) :
    Calls Try.prog 86 #[.pointer (some ⟨bc, 0, none⟩)] W fun e w' => e = .returned (.int .i64 (n + 1)) ∧ w'.heap[bc]? = some (.cells #[.int .i64 (n + 1)] 3 (0, 0)) ∧ Fr [bc] W w' := by
  obtain ⟨c1, d1, e1⟩ := blk_facts h
  obtain ⟨h1, h2⟩ := hn
  go_enter Try.func86, Try.ntmps86
  go_wp2_with fail
  go_ret
  exact ⟨rfl, set_same 0 _ h, (by (repeat (first | with_reducible exact Fr.refl _ _ | (with_reducible refine Fr.setCell ?_ _ _ _ ?_; rotate_left; first | focus (left; simp; done) | (right; omega) | (right; simp only [World.size_alloc, World.size_setCell, World.size_drew, size_plus] at *; omega)) | with_reducible refine Fr.alloc ?_ _ | with_reducible refine Fr.drew ?_ | with_reducible refine Fr.drewN ?_ _ | with_reducible refine Fr.plus ?_ _ _)))⟩
set_option maxHeartbeats 400000 in
theorem counter_calls (W : World) :
    Calls Try.prog 51 #[] W fun e w' => ∃ bc, e = .returned (.func (.func 86) #[] #[.pointer (some ⟨bc, 0, none⟩)]) ∧ w'.heap[bc]? = some (.cells #[.int .i64 (-1)] 3 (0, 0)) ∧ W.heap.size ≤ bc ∧ Grew W w' := by
  go_enter Try.func51, Try.ntmps51
  go_wp2_with fail
  go_ret
  exact ⟨_, rfl, alloc_new _ _, Nat.le_refl _, (by (repeat (first | with_reducible exact Grew.refl _ | with_reducible refine Grew.alloc ?_ _ | with_reducible refine Grew.drew ?_ | with_reducible refine Grew.drewN ?_ _ | with_reducible refine Grew.plus ?_ _ _ | (with_reducible refine Grew.setCell ?_ ?_ _; rotate_left; first | omega | (simp only [World.size_alloc, World.size_setCell, World.size_drew, size_plus] at *; omega)))))⟩
set_option maxHeartbeats 400000 in
theorem ospot_calls (W : World) (b : Nat) (kind : Int) (v0 v1 v3 v4 v5 v6 v7 v8 : Value) (p : Int) (h : W.heap[b]? = some (.cells #[v0, v1, .int .i64 p, v3, v4, v5, v6, v7, v8] 110 (0, 0))) :
    Calls Try.prog 87 #[.pointer (some ⟨b, 0, none⟩), .int .i64 kind] W fun e w' => e = .returned (.agg #[.int .i64 kind, .int .i64 p]) ∧ Grew W w' := by
  obtain ⟨c1, d1, e1⟩ := blk_facts h
  clear h
  go_enter Try.func87, Try.ntmps87
  go_wp2_with fail
  refine bodyPost_ret (v := .agg #[.int .i64 kind, .int .i64 p]) ?_ rfl ⟨rfl, (by (repeat (first | with_reducible exact Grew.refl _ | with_reducible refine Grew.alloc ?_ _ | with_reducible refine Grew.drew ?_ | with_reducible refine Grew.drewN ?_ _ | with_reducible refine Grew.plus ?_ _ _ | (with_reducible refine Grew.setCell ?_ ?_ _; rotate_left; first | omega | (simp only [World.size_alloc, World.size_setCell, World.size_drew, size_plus] at *; omega)))))⟩
  simp [results, Try.results87, go_sem]
theorem cfg_slots (w : World) (a b c d e : Value) : (Instr.field 24 (.agg #[a, b, c, d, e]) 1).run Try.prog w = .ok b w := by kernel_rfl
theorem cfg_gen (w : World) (a b c d e : Value) : (Instr.field 24 (.agg #[a, b, c, d, e]) 3).run Try.prog w = .ok d w := by kernel_rfl
def nextV (bc : Nat) : Value := .func (.func 86) #[] #[.pointer (some ⟨bc, 0, none⟩)]
def meth (k b : Nat) : Value := .func (.func k) #[.pointer (some ⟨b, 0, none⟩)] #[]

set_option maxRecDepth 10000 in
set_option maxHeartbeats 400000 in
theorem ogoes_calls (W : World) (b bc bm bw : Nat) (M : Mem) (v0 v3 v4 v5 v6 v7 v8 : Value) (p : Nat) (h : W.heap[b]? = some (.cells #[v0, nextV bc, .int .i64 p, v3, v4, v5, v6, v7, v8] 110 (0, 0)))
    (hc : W.heap[bc]? = some (.cells #[.int .i64 p] 3 (0, 0))) (hp : p ≤ 90) (hM : MemAt W bm bw M) (h1 : b ≠ bm) (h2 : b ≠ bw) (h3 : b ≠ bc) (h4 : bc ≠ bm) (h5 : bc ≠ bw) :
    Calls Try.prog 90 #[.pointer (some ⟨b, 0, none⟩), .pointer (some ⟨bm, 0, none⟩)] W fun e w' => e = .returned (.tuple #[]) ∧
      w'.heap[b]? = some (.cells #[if M.c.s ≤ p + 1 then .nilFunc else meth 52 b, nextV bc, .int .i64 (p + 1 : Nat), v3, v4, v5, if M.c.s ≤ p + 1 then .int .i64 6 else v6, v7, v8] 110 (0, 0)) ∧
      w'.heap[bc]? = some (.cells #[.int .i64 (p + 1 : Nat)] 3 (0, 0)) ∧ MemAt w' bm bw M ∧ Fr [b, bc] W w' := by
  unfold nextV meth at *
  obtain ⟨c1, d1, e1⟩ := blk_facts h
  have hcs := cfg_slots
  have hM' := hM
  have HC := Lib.hid (fun w h => Config_calls w bm bw M h)
  have hs : ∃ s, M.c.s = s := ⟨_, rfl⟩
  obtain ⟨s, hs⟩ := hs
  simp only [Cfg.V] at HC
  rw [hs] at HC ⊢
  clear hs
  have hcond : s ≤ p + 1 ∨ ¬ s ≤ p + 1 := by omega
  rcases hcond with hs | hs
  all_goals
    simp only [hs, if_true, if_false]
    go_enter Try.func90, Try.ntmps90
    go_wp2_with fail
    refine (counter1_calls W bc p hc (by omega)).mono ?_
    rintro e w1 ⟨rfl, k1, hf1⟩
    have k2 := hf1.keep h (by simp [h3])
    have hm1 := hM.keep hf1 (by simp [Ne.symm h4]) (by simp [Ne.symm h5])
    have hr1 : Fr [b, bc] W w1 := hf1.more b
    clear c1 d1 e1
    obtain ⟨c1, d1, e1⟩ := blk_facts k2
    go_wp2_with fail
    have k3 := set_same 0 (.func (.func 52) #[.pointer (some ⟨b, 0, none⟩)] #[]) (set_same 2 (.int .i64 ((p : Int) + 1)) k2)
    have q3 := set_blk b 0 (.func (.func 52) #[.pointer (some ⟨b, 0, none⟩)] #[]) (set_blk b 2 (.int .i64 ((p : Int) + 1)) k1 (Ne.symm h3)) (Ne.symm h3)
    have hm3 := (hm1.set 2 (.int .i64 ((p : Int) + 1)) h1 h2).set 0 (.func (.func 52) #[.pointer (some ⟨b, 0, none⟩)] #[]) h1 h2
    have hr3 : Fr [b, bc] W ((w1.setCell ⟨b, 2, none⟩ (.int .i64 ((p : Int) + 1))).setCell ⟨b, 0, none⟩ (.func (.func 52) #[.pointer (some ⟨b, 0, none⟩)] #[])) := (by (repeat (first | with_reducible exact Fr.refl _ _ | (with_reducible refine Fr.setCell ?_ _ _ _ ?_; rotate_left; first | focus (left; simp; done) | (right; omega) | (right; simp only [World.size_alloc, World.size_setCell, World.size_drew, size_plus] at *; omega)) | with_reducible refine Fr.alloc ?_ _ | with_reducible refine Fr.drew ?_ | with_reducible refine Fr.drewN ?_ _ | with_reducible refine Fr.plus ?_ _ _ | with_reducible exact hr1 | with_reducible refine Fr.trans ?_ hr1)))
    generalize (w1.setCell ⟨b, 2, none⟩ (.int .i64 ((p : Int) + 1))).setCell ⟨b, 0, none⟩ (.func (.func 52) #[.pointer (some ⟨b, 0, none⟩)] #[]) = w3 at *
    clear c1 d1 e1 k1 k2 hf1 hr1
    simp only [List.setIfInBounds_toArray, List.set_cons_zero, List.set_cons_succ] at k3
    obtain ⟨c1, d1, e1⟩ := blk_facts k3
    refine wp_region_plus (by kernel_rfl) (by kernel_rfl) ?_
    repeat (go_big_quiet_step ((first | (go_at_call 89; exact quiet_plus (HC.out _ (hm3.grew ((Grew.refl _).plus _ _)))))))
    refine wpQuiet_nil ?_
    intro w4 hw4
    have hg4 := grew_of_class hw4
    clear hw4
    have k4 := hg4.blk k3
    have q4 := hg4.blk q3
    have hm4 := hm3.grew hg4
    have hr4 : Fr [b, bc] W w4 := (by (repeat (first | with_reducible exact Fr.refl _ _ | (with_reducible refine Fr.setCell ?_ _ _ _ ?_; rotate_left; first | focus (left; simp; done) | (right; omega) | (right; simp only [World.size_alloc, World.size_setCell, World.size_drew, size_plus] at *; omega)) | with_reducible refine Fr.alloc ?_ _ | with_reducible refine Fr.drew ?_ | with_reducible refine Fr.drewN ?_ _ | with_reducible refine Fr.plus ?_ _ _ | with_reducible refine Fr.grew ?_ hg4 | with_reducible exact hr3 | with_reducible refine Fr.trans ?_ hr3)))
    clear c1 d1 e1 k3 q3
    obtain ⟨c1, d1, e1⟩ := blk_facts k4
    go_wp2_with fail
  · refine bodyPost_end (v := .tuple #[]) (by simp [results, Try.results90, go_sem]) rfl ⟨rfl, ?_, ?_, (hm4.set _ _ h1 h2).set _ _ h1 h2, (by (repeat (first | with_reducible exact Fr.refl _ _ | (with_reducible refine Fr.setCell ?_ _ _ _ ?_; rotate_left; first | focus (left; simp; done) | (right; omega) | (right; simp only [World.size_alloc, World.size_setCell, World.size_drew, size_plus] at *; omega)) | with_reducible refine Fr.alloc ?_ _ | with_reducible refine Fr.drew ?_ | with_reducible refine Fr.drewN ?_ _ | with_reducible refine Fr.plus ?_ _ _ | with_reducible exact hr4 | with_reducible refine Fr.trans ?_ hr4)))⟩
    · rw [set_same 0 _ (set_same 6 _ k4)]; simp
    · rw [set_blk _ _ _ (set_blk _ _ _ q4 (Ne.symm h3)) (Ne.symm h3)]; simp
  · refine bodyPost_end (v := .tuple #[]) (by simp [results, Try.results90, go_sem]) rfl ⟨rfl, ?_, ?_, hm4, (by (repeat (first | with_reducible exact Fr.refl _ _ | (with_reducible refine Fr.setCell ?_ _ _ _ ?_; rotate_left; first | focus (left; simp; done) | (right; omega) | (right; simp only [World.size_alloc, World.size_setCell, World.size_drew, size_plus] at *; omega)) | with_reducible refine Fr.alloc ?_ _ | with_reducible refine Fr.drew ?_ | with_reducible refine Fr.drewN ?_ _ | with_reducible refine Fr.plus ?_ _ _ | with_reducible exact hr4 | with_reducible refine Fr.trans ?_ hr4)))⟩
    · rw [k4]; simp
    · rw [q4]; simp

def goesCells (s b bc p : Nat) (v3 v4 v5 v6 v7 v8 : Value) : Array Value :=
  #[if s ≤ p + 1 then .nilFunc else meth 52 b, nextV bc, .int .i64 (p + 1 : Nat), v3, v4, v5, if s ≤ p + 1 then .int .i64 6 else v6, v7, v8]
theorem goes_of (W : World) (b bc bm bw : Nat) (M : Mem) (v0 v3 v4 v5 v6 v7 v8 : Value) (p : Nat) (h : W.heap[b]? = some (.cells #[v0, nextV bc, .int .i64 p, v3, v4, v5, v6, v7, v8] 110 (0, 0)))
    (hc : W.heap[bc]? = some (.cells #[.int .i64 p] 3 (0, 0))) (hp : p ≤ 90) (hM : MemAt W bm bw M) (h1 : b ≠ bm) (h2 : b ≠ bw) (h3 : b ≠ bc) (h4 : bc ≠ bm) (h5 : bc ≠ bw) :
    Calls Try.prog 90 #[.pointer (some ⟨b, 0, none⟩), .pointer (some ⟨bm, 0, none⟩)] W fun e w' => e = .returned (.tuple #[]) ∧
      w'.heap[b]? = some (.cells (goesCells M.c.s b bc p v3 v4 v5 v6 v7 v8) 110 (0, 0)) ∧
      w'.heap[bc]? = some (.cells #[.int .i64 (p + 1 : Nat)] 3 (0, 0)) ∧ MemAt w' bm bw M ∧ Fr [b, bc] W w' :=
  ogoes_calls W b bc bm bw M v0 v3 v4 v5 v6 v7 v8 p h hc hp hM h1 h2 h3 h4 h5

set_option maxRecDepth 10000 in
set_option maxHeartbeats 1000000 in
theorem olook_calls (W : World) (b bc bm bw : Nat) (M : Mem) (v0 v3 v4 v5 v6 v7 v8 : Value) (p : Nat) (h : W.heap[b]? = some (.cells #[v0, nextV bc, .int .i64 p, v3, v4, v5, v6, v7, v8] 110 (0, 0)))
    (hc : W.heap[bc]? = some (.cells #[.int .i64 p] 3 (0, 0))) (hp : p ≤ 90) (hM : MemAt W bm bw M) (h1 : b ≠ bm) (h2 : b ≠ bw) (h3 : b ≠ bc) (h4 : bc ≠ bm) (h5 : bc ≠ bw) :
    Calls Try.prog 52 #[.pointer (some ⟨b, 0, none⟩), .pointer (some ⟨bm, 0, none⟩)] W fun e w' => e = .returned (.tuple #[]) ∧
      w'.heap[b]? = some (.cells (if stState (M.load 4 p).2 = 0 ∧ stGen (M.load 4 p).2 ≤ M.c.g then #[meth 91 b, nextV bc, .int .i64 p, .int .u64 (M.load 4 p).2, v4, v5, v6, v7, v8] else goesCells M.c.s b bc p (.int .u64 (M.load 4 p).2) v4 v5 v6 v7 v8) 110 (0, 0)) ∧
      w'.heap[bc]? = some (.cells #[.int .i64 (if stState (M.load 4 p).2 = 0 ∧ stGen (M.load 4 p).2 ≤ M.c.g then p else p + 1 : Nat)] 3 (0, 0)) ∧
      MemAt w' bm bw (M.load 4 p).1 ∧ Fr [b, bc, bm, bw] W w' := by
  have hcM : (M.load 4 p).1.c = M.c := by unfold Mem.load; split <;> rfl
  have hsm := hM.load_small 4 p
  have HL := Lib.hid (fun w h => Load_calls w bm bw M 4 p h)
  have hg := cfg_gen
  have hs : ∃ s, M.c.s = s := ⟨_, rfl⟩
  obtain ⟨s, hs⟩ := hs
  have hgg : ∃ g, M.c.g = g := ⟨_, rfl⟩
  obtain ⟨g, hgg⟩ := hgg
  rw [hs, hgg]
  generalize M.load 4 p = R at *
  obtain ⟨M2, x⟩ := R
  simp only at *
  have HC := Lib.hid (fun w h => Config_calls w bm bw M2 h)
  have HG := Lib.hid (fun w v0 v3 h hc hm => goes_of w b bc bm bw M2 v0 v3 v4 v5 v6 v7 v8 p h hc hp hm h1 h2 h3 h4 h5)
  simp only [Cfg.V] at HC
  rw [hcM] at HC HG
  rw [hs] at HG
  rw [hgg] at HC
  clear hs hgg hcM
  obtain ⟨c1, d1, e1⟩ := blk_facts h
  unfold nextV at *
  have hcase : (stState x ≠ 0 ∧ ¬ (stState x = 0 ∧ stGen x ≤ g)) ∨ ((stState x = 0 ∧ g < stGen x) ∧ ¬ (stState x = 0 ∧ stGen x ≤ g)) ∨ (stState x = 0 ∧ stGen x ≤ g) := by omega
  rcases hcase with ⟨hx, hn⟩ | ⟨⟨hx, hx2⟩, hn⟩ | hn
  · simp only [if_neg hn]
    have hxb : (((stState x : Nat) : Int) != 0) = true := by rw [bne_iff_ne]; omega
    replace hx := Lib.hid hx
    go_enter Try.func52, Try.ntmps52
    go_wp2_with fail
    refine (ospot_calls W b 4 _ _ _ _ _ _ _ _ _ h).mono ?_
    rintro e w1 ⟨rfl, hg1⟩
    go_wp2_with fail
    refine (HL.out _ (hM.grew hg1)).mono ?_
    rintro e w2 ⟨rfl, hm, hf⟩
    have k2 := hf.keep (hg1.blk h) (by simp [h1, h2])
    have q2 := hf.keep (hg1.blk hc) (by simp [h4, h5])
    have hr2 : Fr [b, bc, bm, bw] W w2 := (Fr.of_grew hg1).trans ((hf.more bc).more b)
    clear c1 d1 e1
    obtain ⟨c1, d1, e1⟩ := blk_facts k2
    go_wp2_with fail
    refine (Unpack_calls x _ hsm).mono ?_
    rintro e w3 ⟨rfl, hg3⟩
    have k3 := hg3.blk (set_same 3 (.int .u64 x) k2)
    have q3 := hg3.blk (set_blk b 3 (.int .u64 x) q2 (Ne.symm h3))
    have hm3 := (hm.set 3 (.int .u64 x) h1 h2).grew hg3
    have hr3 : Fr [b, bc, bm, bw] W w3 := (by (repeat (first | with_reducible exact Fr.refl _ _ | (with_reducible refine Fr.setCell ?_ _ _ _ ?_; rotate_left; first | focus (left; simp; done) | (right; omega) | (right; simp only [World.size_alloc, World.size_setCell, World.size_drew, size_plus] at *; omega)) | with_reducible refine Fr.alloc ?_ _ | with_reducible refine Fr.drew ?_ | with_reducible refine Fr.drewN ?_ _ | with_reducible refine Fr.plus ?_ _ _ | with_reducible refine Fr.grew ?_ hg3 | with_reducible exact hr2 | with_reducible refine Fr.trans ?_ hr2)))
    clear c1 d1 e1 k2 q2
    go_wp2_with fail
    have k4 := alloc_new w3 (.cells #[.int .i64 (stGen x : Nat), .int .i64 (stState x : Nat), .bool (stBusy x), .bool (fld x 25 1 == 1), .bool (fld x 24 1 == 1), .int .i64 (stIn x : Nat), .int .i64 (stOut x : Nat)] 159)
    have hga : Grew w3 (w3.alloc (.cells #[.int .i64 (stGen x : Nat), .int .i64 (stState x : Nat), .bool (stBusy x), .bool (fld x 25 1 == 1), .bool (fld x 24 1 == 1), .int .i64 (stIn x : Nat), .int .i64 (stOut x : Nat)] 159)) := (by (repeat (first | with_reducible exact Grew.refl _ | with_reducible refine Grew.alloc ?_ _ | with_reducible refine Grew.drew ?_ | with_reducible refine Grew.drewN ?_ _ | with_reducible refine Grew.plus ?_ _ _ | (with_reducible refine Grew.setCell ?_ ?_ _; rotate_left; first | omega | (simp only [World.size_alloc, World.size_setCell, World.size_drew, size_plus] at *; omega)))))
    generalize w3.alloc (.cells #[.int .i64 (stGen x : Nat), .int .i64 (stState x : Nat), .bool (stBusy x), .bool (fld x 25 1 == 1), .bool (fld x 24 1 == 1), .int .i64 (stIn x : Nat), .int .i64 (stOut x : Nat)] 159) = w4 at *
    generalize w3.heap.size = b4 at *
    replace k3 := hga.blk k3
    replace q3 := hga.blk q3
    replace hm3 := hm3.grew hga
    replace hr3 : Fr [b, bc, bm, bw] W w4 := (by (repeat (first | with_reducible exact Fr.refl _ _ | (with_reducible refine Fr.setCell ?_ _ _ _ ?_; rotate_left; first | focus (left; simp; done) | (right; omega) | (right; simp only [World.size_alloc, World.size_setCell, World.size_drew, size_plus] at *; omega)) | with_reducible refine Fr.alloc ?_ _ | with_reducible refine Fr.drew ?_ | with_reducible refine Fr.drewN ?_ _ | with_reducible refine Fr.plus ?_ _ _ | with_reducible refine Fr.grew ?_ hga | with_reducible exact hr3 | with_reducible refine Fr.trans ?_ hr3)))
    obtain ⟨c4, d4, e4⟩ := blk_facts k4
    refine wp_region_plus (by kernel_rfl) (by kernel_rfl) ?_
    repeat (go_big_quiet_step ((first | (go_at_call 89; exact quiet_plus (HC.out _ (hm3.grew ((Grew.refl _).plus _ _)))))))
    refine wpQuiet_nil ?_
    intro w5 hw5
    have hg5 := grew_of_class hw5
    clear hw5 c4 d4 e4
    replace k3 := hg5.blk k3
    replace q3 := hg5.blk q3
    replace hm3 := hm3.grew hg5
    replace hr3 : Fr [b, bc, bm, bw] W w5 := (by (repeat (first | with_reducible exact Fr.refl _ _ | (with_reducible refine Fr.setCell ?_ _ _ _ ?_; rotate_left; first | focus (left; simp; done) | (right; omega) | (right; simp only [World.size_alloc, World.size_setCell, World.size_drew, size_plus] at *; omega)) | with_reducible refine Fr.alloc ?_ _ | with_reducible refine Fr.drew ?_ | with_reducible refine Fr.drewN ?_ _ | with_reducible refine Fr.plus ?_ _ _ | with_reducible refine Fr.grew ?_ hg5 | with_reducible exact hr3 | with_reducible refine Fr.trans ?_ hr3)))
    simp only [List.setIfInBounds_toArray, List.set_cons_zero, List.set_cons_succ] at k3
    go_wp2_with fail
    refine (HG.out _ _ _ k3 q3 hm3).mono ?_
    rintro e w6 ⟨rfl, k6, q6, hm6, hf6⟩
    go_wp2_with fail
    exact bodyPost_ret (v := .tuple #[]) (by simp [results, Try.results52, go_sem]) rfl ⟨rfl, k6, q6, hm6, hr3.trans (hf6.mono fun y hy => .inl (by simp at hy ⊢; omega))⟩
  · simp only [if_neg hn]
    have hxb : (((stState x : Nat) : Int) != 0) = false := by rw [hx]; rfl
    replace hx := Lib.hid hx
    go_enter Try.func52, Try.ntmps52
    go_wp2_with fail
    refine (ospot_calls W b 4 _ _ _ _ _ _ _ _ _ h).mono ?_
    rintro e w1 ⟨rfl, hg1⟩
    go_wp2_with fail
    refine (HL.out _ (hM.grew hg1)).mono ?_
    rintro e w2 ⟨rfl, hm, hf⟩
    have k2 := hf.keep (hg1.blk h) (by simp [h1, h2])
    have q2 := hf.keep (hg1.blk hc) (by simp [h4, h5])
    have hr2 : Fr [b, bc, bm, bw] W w2 := (Fr.of_grew hg1).trans ((hf.more bc).more b)
    clear c1 d1 e1
    obtain ⟨c1, d1, e1⟩ := blk_facts k2
    go_wp2_with fail
    refine (Unpack_calls x _ hsm).mono ?_
    rintro e w3 ⟨rfl, hg3⟩
    have k3 := hg3.blk (set_same 3 (.int .u64 x) k2)
    have q3 := hg3.blk (set_blk b 3 (.int .u64 x) q2 (Ne.symm h3))
    have hm3 := (hm.set 3 (.int .u64 x) h1 h2).grew hg3
    have hr3 : Fr [b, bc, bm, bw] W w3 := (by (repeat (first | with_reducible exact Fr.refl _ _ | (with_reducible refine Fr.setCell ?_ _ _ _ ?_; rotate_left; first | focus (left; simp; done) | (right; omega) | (right; simp only [World.size_alloc, World.size_setCell, World.size_drew, size_plus] at *; omega)) | with_reducible refine Fr.alloc ?_ _ | with_reducible refine Fr.drew ?_ | with_reducible refine Fr.drewN ?_ _ | with_reducible refine Fr.plus ?_ _ _ | with_reducible refine Fr.grew ?_ hg3 | with_reducible exact hr2 | with_reducible refine Fr.trans ?_ hr2)))
    clear c1 d1 e1 k2 q2
    go_wp2_with fail
    have k4 := alloc_new w3 (.cells #[.int .i64 (stGen x : Nat), .int .i64 (stState x : Nat), .bool (stBusy x), .bool (fld x 25 1 == 1), .bool (fld x 24 1 == 1), .int .i64 (stIn x : Nat), .int .i64 (stOut x : Nat)] 159)
    have hga : Grew w3 (w3.alloc (.cells #[.int .i64 (stGen x : Nat), .int .i64 (stState x : Nat), .bool (stBusy x), .bool (fld x 25 1 == 1), .bool (fld x 24 1 == 1), .int .i64 (stIn x : Nat), .int .i64 (stOut x : Nat)] 159)) := (by (repeat (first | with_reducible exact Grew.refl _ | with_reducible refine Grew.alloc ?_ _ | with_reducible refine Grew.drew ?_ | with_reducible refine Grew.drewN ?_ _ | with_reducible refine Grew.plus ?_ _ _ | (with_reducible refine Grew.setCell ?_ ?_ _; rotate_left; first | omega | (simp only [World.size_alloc, World.size_setCell, World.size_drew, size_plus] at *; omega)))))
    generalize w3.alloc (.cells #[.int .i64 (stGen x : Nat), .int .i64 (stState x : Nat), .bool (stBusy x), .bool (fld x 25 1 == 1), .bool (fld x 24 1 == 1), .int .i64 (stIn x : Nat), .int .i64 (stOut x : Nat)] 159) = w4 at *
    generalize w3.heap.size = b4 at *
    replace k3 := hga.blk k3
    replace q3 := hga.blk q3
    replace hm3 := hm3.grew hga
    replace hr3 : Fr [b, bc, bm, bw] W w4 := (by (repeat (first | with_reducible exact Fr.refl _ _ | (with_reducible refine Fr.setCell ?_ _ _ _ ?_; rotate_left; first | focus (left; simp; done) | (right; omega) | (right; simp only [World.size_alloc, World.size_setCell, World.size_drew, size_plus] at *; omega)) | with_reducible refine Fr.alloc ?_ _ | with_reducible refine Fr.drew ?_ | with_reducible refine Fr.drewN ?_ _ | with_reducible refine Fr.plus ?_ _ _ | with_reducible refine Fr.grew ?_ hga | with_reducible exact hr3 | with_reducible refine Fr.trans ?_ hr3)))
    obtain ⟨c4, d4, e4⟩ := blk_facts k4
    refine wp_region_plus (by kernel_rfl) (by kernel_rfl) ?_
    repeat (go_big_quiet_step ((first | (go_at_call 89; exact quiet_plus (HC.out _ (hm3.grew ((Grew.refl _).plus _ _)))))))
    refine wpQuiet_nil ?_
    intro w5 hw5
    have hg5 := grew_of_class hw5
    clear hw5 c4 d4 e4
    replace k3 := hg5.blk k3
    replace q3 := hg5.blk q3
    replace hm3 := hm3.grew hg5
    replace hr3 : Fr [b, bc, bm, bw] W w5 := (by (repeat (first | with_reducible exact Fr.refl _ _ | (with_reducible refine Fr.setCell ?_ _ _ _ ?_; rotate_left; first | focus (left; simp; done) | (right; omega) | (right; simp only [World.size_alloc, World.size_setCell, World.size_drew, size_plus] at *; omega)) | with_reducible refine Fr.alloc ?_ _ | with_reducible refine Fr.drew ?_ | with_reducible refine Fr.drewN ?_ _ | with_reducible refine Fr.plus ?_ _ _ | with_reducible refine Fr.grew ?_ hg5 | with_reducible exact hr3 | with_reducible refine Fr.trans ?_ hr3)))
    simp only [List.setIfInBounds_toArray, List.set_cons_zero, List.set_cons_succ] at k3
    go_wp2_with fail
    refine (HG.out _ _ _ k3 q3 hm3).mono ?_
    rintro e w6 ⟨rfl, k6, q6, hm6, hf6⟩
    go_wp2_with fail
    exact bodyPost_ret (v := .tuple #[]) (by simp [results, Try.results52, go_sem]) rfl ⟨rfl, k6, q6, hm6, hr3.trans (hf6.mono fun y hy => .inl (by simp at hy ⊢; omega))⟩
  · simp only [if_pos hn]
    obtain ⟨hx, hx2⟩ := hn
    have hxb : (((stState x : Nat) : Int) != 0) = false := by rw [hx]; rfl
    have hx3 : ¬ g < stGen x := by omega
    replace hx := Lib.hid hx
    go_enter Try.func52, Try.ntmps52
    go_wp2_with fail
    refine (ospot_calls W b 4 _ _ _ _ _ _ _ _ _ h).mono ?_
    rintro e w1 ⟨rfl, hg1⟩
    go_wp2_with fail
    refine (HL.out _ (hM.grew hg1)).mono ?_
    rintro e w2 ⟨rfl, hm, hf⟩
    have k2 := hf.keep (hg1.blk h) (by simp [h1, h2])
    have q2 := hf.keep (hg1.blk hc) (by simp [h4, h5])
    have hr2 : Fr [b, bc, bm, bw] W w2 := (Fr.of_grew hg1).trans ((hf.more bc).more b)
    clear c1 d1 e1
    obtain ⟨c1, d1, e1⟩ := blk_facts k2
    go_wp2_with fail
    refine (Unpack_calls x _ hsm).mono ?_
    rintro e w3 ⟨rfl, hg3⟩
    have k3 := hg3.blk (set_same 3 (.int .u64 x) k2)
    have q3 := hg3.blk (set_blk b 3 (.int .u64 x) q2 (Ne.symm h3))
    have hm3 := (hm.set 3 (.int .u64 x) h1 h2).grew hg3
    have hr3 : Fr [b, bc, bm, bw] W w3 := (by (repeat (first | with_reducible exact Fr.refl _ _ | (with_reducible refine Fr.setCell ?_ _ _ _ ?_; rotate_left; first | focus (left; simp; done) | (right; omega) | (right; simp only [World.size_alloc, World.size_setCell, World.size_drew, size_plus] at *; omega)) | with_reducible refine Fr.alloc ?_ _ | with_reducible refine Fr.drew ?_ | with_reducible refine Fr.drewN ?_ _ | with_reducible refine Fr.plus ?_ _ _ | with_reducible refine Fr.grew ?_ hg3 | with_reducible exact hr2 | with_reducible refine Fr.trans ?_ hr2)))
    clear c1 d1 e1 k2 q2
    go_wp2_with fail
    have k4 := alloc_new w3 (.cells #[.int .i64 (stGen x : Nat), .int .i64 (stState x : Nat), .bool (stBusy x), .bool (fld x 25 1 == 1), .bool (fld x 24 1 == 1), .int .i64 (stIn x : Nat), .int .i64 (stOut x : Nat)] 159)
    have hga : Grew w3 (w3.alloc (.cells #[.int .i64 (stGen x : Nat), .int .i64 (stState x : Nat), .bool (stBusy x), .bool (fld x 25 1 == 1), .bool (fld x 24 1 == 1), .int .i64 (stIn x : Nat), .int .i64 (stOut x : Nat)] 159)) := (by (repeat (first | with_reducible exact Grew.refl _ | with_reducible refine Grew.alloc ?_ _ | with_reducible refine Grew.drew ?_ | with_reducible refine Grew.drewN ?_ _ | with_reducible refine Grew.plus ?_ _ _ | (with_reducible refine Grew.setCell ?_ ?_ _; rotate_left; first | omega | (simp only [World.size_alloc, World.size_setCell, World.size_drew, size_plus] at *; omega)))))
    generalize w3.alloc (.cells #[.int .i64 (stGen x : Nat), .int .i64 (stState x : Nat), .bool (stBusy x), .bool (fld x 25 1 == 1), .bool (fld x 24 1 == 1), .int .i64 (stIn x : Nat), .int .i64 (stOut x : Nat)] 159) = w4 at *
    generalize w3.heap.size = b4 at *
    replace k3 := hga.blk k3
    replace q3 := hga.blk q3
    replace hm3 := hm3.grew hga
    replace hr3 : Fr [b, bc, bm, bw] W w4 := (by (repeat (first | with_reducible exact Fr.refl _ _ | (with_reducible refine Fr.setCell ?_ _ _ _ ?_; rotate_left; first | focus (left; simp; done) | (right; omega) | (right; simp only [World.size_alloc, World.size_setCell, World.size_drew, size_plus] at *; omega)) | with_reducible refine Fr.alloc ?_ _ | with_reducible refine Fr.drew ?_ | with_reducible refine Fr.drewN ?_ _ | with_reducible refine Fr.plus ?_ _ _ | with_reducible refine Fr.grew ?_ hga | with_reducible exact hr3 | with_reducible refine Fr.trans ?_ hr3)))
    obtain ⟨c4, d4, e4⟩ := blk_facts k4
    refine wp_region_plus (by kernel_rfl) (by kernel_rfl) ?_
    repeat (go_big_quiet_step ((first | (go_at_call 89; exact quiet_plus (HC.out _ (hm3.grew ((Grew.refl _).plus _ _)))))))
    refine wpQuiet_nil ?_
    intro w5 hw5
    have hg5 := grew_of_class hw5
    clear hw5 c4 d4 e4
    replace k3 := hg5.blk k3
    replace q3 := hg5.blk q3
    replace hm3 := hm3.grew hg5
    replace hr3 : Fr [b, bc, bm, bw] W w5 := (by (repeat (first | with_reducible exact Fr.refl _ _ | (with_reducible refine Fr.setCell ?_ _ _ _ ?_; rotate_left; first | focus (left; simp; done) | (right; omega) | (right; simp only [World.size_alloc, World.size_setCell, World.size_drew, size_plus] at *; omega)) | with_reducible refine Fr.alloc ?_ _ | with_reducible refine Fr.drew ?_ | with_reducible refine Fr.drewN ?_ _ | with_reducible refine Fr.plus ?_ _ _ | with_reducible refine Fr.grew ?_ hg5 | with_reducible exact hr3 | with_reducible refine Fr.trans ?_ hr3)))
    simp only [List.setIfInBounds_toArray, List.set_cons_zero, List.set_cons_succ] at k3
    clear hga
    have e3 := blk_lt k3
    have d3 := blk_free k3 0
    have c3 := blk_cell k3
    go_wp2_with fail
    exact bodyPost_end (v := .tuple #[]) (by simp [results, Try.results52, go_sem]) rfl ⟨rfl, set_same 0 _ k3, set_blk _ _ _ q3 (Ne.symm h3), hm3.set _ _ h1 h2, (by (repeat (first | with_reducible exact Fr.refl _ _ | (with_reducible refine Fr.setCell ?_ _ _ _ ?_; rotate_left; first | focus (left; simp; done) | (right; omega) | (right; simp only [World.size_alloc, World.size_setCell, World.size_drew, size_plus] at *; omega)) | with_reducible refine Fr.alloc ?_ _ | with_reducible refine Fr.drew ?_ | with_reducible refine Fr.drewN ?_ _ | with_reducible refine Fr.plus ?_ _ _ | with_reducible exact hr3 | with_reducible refine Fr.trans ?_ hr3)))⟩

set_option maxRecDepth 10000 in
set_option maxHeartbeats 1000000 in
theorem otake_calls (W : World) (b bc bm bw : Nat) (M : Mem) (v0 v4 v5 v6 v7 v8 : Value) (p x : Nat) (h : W.heap[b]? = some (.cells #[v0, nextV bc, .int .i64 p, .int .u64 x, v4, v5, v6, v7, v8] 110 (0, 0))) (hx : U64 x)
    (hc : W.heap[bc]? = some (.cells #[.int .i64 p] 3 (0, 0))) (hp : p ≤ 90) (hM : MemAt W bm bw M) (h1 : b ≠ bm) (h2 : b ≠ bw) (h3 : b ≠ bc) (h4 : bc ≠ bm) (h5 : bc ≠ bw) :
    Calls Try.prog 91 #[.pointer (some ⟨b, 0, none⟩), .pointer (some ⟨bm, 0, none⟩)] W fun e w' => e = .returned (.tuple #[]) ∧
      w'.heap[b]? = some (.cells (if (M.swap 4 p x (stMove x 1 false)).2 then #[meth 120 b, nextV bc, .int .i64 p, .int .u64 x, v4, v5, v6, v7, v8] else goesCells M.c.s b bc p (.int .u64 x) v4 v5 v6 v7 v8) 110 (0, 0)) ∧
      w'.heap[bc]? = some (.cells #[.int .i64 (if (M.swap 4 p x (stMove x 1 false)).2 then p else p + 1 : Nat)] 3 (0, 0)) ∧
      MemAt w' bm bw (M.swap 4 p x (stMove x 1 false)).1 ∧ Fr [b, bc, bm, bw] W w' := by
  have hcM : (M.swap 4 p x (stMove x 1 false)).1.c = M.c := by unfold Mem.swap; split <;> (try split) <;> rfl
  have HS := Lib.hid (fun w h => Swap_calls w bm bw M 4 p x (stMove x 1 false) h (stMove_lt hx (by decide)))
  have HMv := Lib.hid (fun w => Move_calls x 1 false w hx (by decide))
  have hs : ∃ s, M.c.s = s := ⟨_, rfl⟩
  obtain ⟨s, hs⟩ := hs
  rw [hs]
  generalize M.swap 4 p x (stMove x 1 false) = R at *
  generalize stMove x 1 false = y at *
  obtain ⟨M2, r⟩ := R
  simp only at *
  have HG := Lib.hid (fun w v0 v3 h hc hm => goes_of w b bc bm bw M2 v0 v3 v4 v5 v6 v7 v8 p h hc hp hm h1 h2 h3 h4 h5)
  rw [hcM, hs] at HG
  clear hs hcM
  obtain ⟨c1, d1, e1⟩ := blk_facts h
  unfold nextV at *
  cases r
  all_goals
    simp only [Bool.false_eq_true, if_false, if_true]
    go_enter Try.func91, Try.ntmps91
    go_wp2_with fail
    refine wp_region_tail 12 (by kernel_rfl) (by kernel_rfl) ?_
    simp only [List.take_succ_cons, List.take_zero, List.drop_succ_cons, List.drop_zero]
    repeat (go_big_quiet_step ((first | (go_at_call 87; exact quiet_plus (ospot_calls _ b 4 _ _ _ _ _ _ _ _ _ ((Grew.plus (Grew.refl W) _ _).blk h))) | (go_at_call 119; exact quiet_plus (calls_grew (HMv.out _))))))
    refine wpQuiet_nil ?_
    intro w1 hw1
    have hg1 := grew_of_class hw1
    clear hw1
    go_wp2_with fail
    refine (HS.out _ (hM.grew hg1)).mono ?_
    rintro e w2 ⟨rfl, hm, hf⟩
    have k2 := hf.keep (hg1.blk h) (by simp [h1, h2])
    have q2 := hf.keep (hg1.blk hc) (by simp [h4, h5])
    have hr2 : Fr [b, bc, bm, bw] W w2 := (Fr.of_grew hg1).trans ((hf.more bc).more b)
    clear c1 d1 e1
    obtain ⟨c1, d1, e1⟩ := blk_facts k2
    go_wp2_with fail
  · refine (HG.out _ _ _ k2 q2 hm).mono ?_
    rintro e w6 ⟨rfl, k6, q6, hm6, hf6⟩
    go_wp2_with fail
    exact bodyPost_ret (v := .tuple #[]) (by simp [results, Try.results91, go_sem]) rfl ⟨rfl, k6, q6, hm6, hr2.trans (hf6.mono fun y hy => .inl (by simp at hy ⊢; omega))⟩
  · exact bodyPost_end (v := .tuple #[]) (by simp [results, Try.results91, go_sem]) rfl ⟨rfl, set_same 0 _ k2, set_blk _ _ _ q2 (Ne.symm h3), hm.set _ _ h1 h2, (by (repeat (first | with_reducible exact Fr.refl _ _ | (with_reducible refine Fr.setCell ?_ _ _ _ ?_; rotate_left; first | focus (left; simp; done) | (right; omega) | (right; simp only [World.size_alloc, World.size_setCell, World.size_drew, size_plus] at *; omega)) | with_reducible refine Fr.alloc ?_ _ | with_reducible refine Fr.drew ?_ | with_reducible refine Fr.drewN ?_ _ | with_reducible refine Fr.plus ?_ _ _ | with_reducible exact hr2 | with_reducible refine Fr.trans ?_ hr2)))⟩
end Go.Proofs.Ytabkdmcmfecokaa
