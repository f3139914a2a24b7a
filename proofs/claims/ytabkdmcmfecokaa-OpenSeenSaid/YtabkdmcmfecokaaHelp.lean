/- The walks of package help. -/
import Derived.Test.YtabkdmcmfecokaaRows
import Derived.Test.YtabkdmcmfecokaaWorld
import Derived.Test.YtabkdmcmfecokaaStatus
namespace Go.Proofs.Ytabkdmcmfecokaa
open Go Go.RowKit

def Hlp.stepV (H : Hlp) : Value := if H.done then .nilFunc else
  match H.next with
  | 0 => .func (.func 146) #[] #[]
  | 1 => .func (.func 163) #[] #[]
  | 2 => .func (.func 169) #[] #[]
  | _ => .func (.func 168) #[] #[]
def Hlp.cells (H : Hlp) : Array Value := #[H.stepV, .int .u64 H.w, .int .u64 H.s, .int .u64 (H.w / 16 : Nat), .int .i64 (pend H.w)]
structure HlpAt (W : World) (b : Nat) (H : Hlp) : Prop where
  own : W.heap[b]? = some (.cells H.cells 205 (0, 0))
  w : U64 H.w
  s : U64 H.s
set_option maxHeartbeats 400000 in
theorem hspot_calls (W : World) (b : Nat) (kind : Int) (v0 v1 v2 v3 : Value) (p : Int) (h : W.heap[b]? = some (.cells #[v0, v1, v2, v3, .int .i64 p] 205 (0, 0))) :
    Calls Try.prog 162 #[.pointer (some ⟨b, 0, none⟩), .int .i64 kind] W fun e w' => e = .returned (.agg #[.int .i64 kind, .int .i64 p]) ∧ Grew W w' := by
  obtain ⟨c1, d1, e1⟩ := blk_facts h
  clear h
  go_enter Try.func162, Try.ntmps162
  go_wp2_with fail
  refine bodyPost_ret (v := .agg #[.int .i64 kind, .int .i64 p]) ?_ rfl ⟨rfl, (by (repeat (first | with_reducible exact Grew.refl _ | with_reducible refine Grew.alloc ?_ _ | with_reducible refine Grew.drew ?_ | with_reducible refine Grew.drewN ?_ _ | with_reducible refine Grew.plus ?_ _ _ | (with_reducible refine Grew.setCell ?_ ?_ _; rotate_left; first | omega | (simp only [World.size_alloc, World.size_setCell, World.size_drew, size_plus] at *; omega)))))⟩
  simp [results, Try.results162, go_sem]

theorem MemAt.set {w : World} {bm bw : Nat} {M : Mem} (h : MemAt w bm bw M) {p : Nat} (i : Nat) (v : Value) (h1 : p ≠ bm) (h2 : p ≠ bw) : MemAt (w.setCell ⟨p, i, none⟩ v) bm bw M :=
  ⟨set_blk p i v h.own (Ne.symm h1), set_blk p i v h.row (Ne.symm h2), h.ne, h.len, h.ok, h.small⟩
theorem Fr.more {S : List Nat} {w w' : World} (h : Fr S w w') (b : Nat) : Fr (b :: S) w w' := h.mono fun _ hx => .inl (List.mem_cons_of_mem _ hx)
theorem st_gen (w : World) (a b c d e f g : Value) : (Instr.field 159 (.agg #[a, b, c, d, e, f, g]) 0).run Try.prog w = .ok a w := by kernel_rfl
theorem st_state (w : World) (a b c d e f g : Value) : (Instr.field 159 (.agg #[a, b, c, d, e, f, g]) 1).run Try.prog w = .ok b w := by kernel_rfl
theorem st_busy (w : World) (a b c d e f g : Value) : (Instr.field 159 (.agg #[a, b, c, d, e, f, g]) 2).run Try.prog w = .ok c w := by kernel_rfl

set_option maxRecDepth 10000 in
set_option maxHeartbeats 400000 in
theorem hnumber_calls (W : World) (b bm bw : Nat) (M : Mem) (v0 v1 v2 : Value) (sq : Nat) (p : Int) (h : W.heap[b]? = some (.cells #[v0, v1, v2, .int .u64 sq, .int .i64 p] 205 (0, 0))) (hsq : U64 sq) (hM : MemAt W bm bw M) (h1 : b ≠ bm) (h2 : b ≠ bw) :
    Calls Try.prog 146 #[.pointer (some ⟨b, 0, none⟩), .pointer (some ⟨bm, 0, none⟩)] W fun e w' => e = .returned (.tuple #[]) ∧
      w'.heap[b]? = some (.cells #[.func (.func 163) #[] #[], v1, v2, .int .u64 sq, .int .i64 p] 205 (0, 0)) ∧ MemAt w' bm bw (M.swap 6 p 0 sq).1 ∧ Fr [b, bm, bw] W w' := by
  obtain ⟨c1, d1, e1⟩ := blk_facts h
  go_enter Try.func146, Try.ntmps146
  go_wp2_with fail
  refine wp_region_tail 8 (by kernel_rfl) (by kernel_rfl) ?_
  simp only [List.take_succ_cons, List.take_zero, List.drop_succ_cons, List.drop_zero]
  repeat (go_big_quiet_step ((first | (go_at_call 162; exact quiet_plus (hspot_calls _ b 6 v0 v1 v2 _ p ((Grew.plus (Grew.refl W) _ _).blk h))))))
  refine wpQuiet_nil ?_
  intro w1 hw1
  have hg1 := grew_of_class hw1
  clear hw1
  go_wp2_with fail
  refine (Swap_calls _ bm bw M 6 p 0 sq (hM.grew hg1) hsq).mono ?_
  rintro e w2 ⟨rfl, hm, hf⟩
  have k2 := hf.keep (hg1.blk h) (by simp [h1, h2])
  clear c1 d1 e1
  obtain ⟨c1, d1, e1⟩ := blk_facts k2
  have hr := (Fr.of_grew hg1).trans (hf.more b)
  go_wp2_with fail
  exact bodyPost_end (v := .tuple #[]) (by simp [results, Try.results146, go_sem]) rfl ⟨rfl, set_same 0 _ k2, hm.set _ _ h1 h2, (by (repeat (first | with_reducible exact Fr.refl _ _ | (with_reducible refine Fr.setCell ?_ _ _ _ ?_; rotate_left; first | focus (left; simp; done) | (right; omega) | (right; simp only [World.size_alloc, World.size_setCell, World.size_drew, size_plus] at *; omega)) | with_reducible refine Fr.alloc ?_ _ | with_reducible refine Fr.drew ?_ | with_reducible refine Fr.drewN ?_ _ | with_reducible refine Fr.plus ?_ _ _ | with_reducible exact hr | with_reducible refine Fr.trans ?_ hr)))⟩

set_option maxRecDepth 10000 in
set_option maxHeartbeats 400000 in
theorem hlook_calls (W : World) (b bm bw : Nat) (M : Mem) (v0 v1 v2 v3 : Value) (p : Int) (h : W.heap[b]? = some (.cells #[v0, v1, v2, v3, .int .i64 p] 205 (0, 0))) (hM : MemAt W bm bw M) (h1 : b ≠ bm) (h2 : b ≠ bw) :
    Calls Try.prog 163 #[.pointer (some ⟨b, 0, none⟩), .pointer (some ⟨bm, 0, none⟩)] W fun e w' => e = .returned (.tuple #[]) ∧
      w'.heap[b]? = some (.cells #[if stState (M.load 4 p).2 = 3 then .func (.func 169) #[] #[] else .func (.func 168) #[] #[], v1, .int .u64 (M.load 4 p).2, v3, .int .i64 p] 205 (0, 0)) ∧
      MemAt w' bm bw (M.load 4 p).1 ∧ Fr [b, bm, bw] W w' := by
  obtain ⟨c1, d1, e1⟩ := blk_facts h
  have hsm := hM.load_small 4 p
  have hst := st_state
  have HL := Lib.hid (fun w h => Load_calls w bm bw M 4 p h)
  generalize M.load 4 p = R at *
  obtain ⟨M2, x⟩ := R
  simp only at *
  by_cases hS : stState x = 3
  · rw [if_pos hS]
    go_enter Try.func163, Try.ntmps163
    go_wp2_with fail
    refine (hspot_calls _ b 4 _ _ _ _ p h).mono ?_
    rintro e w1 ⟨rfl, hg1⟩
    go_wp2_with fail
    refine (HL.out _ (hM.grew hg1)).mono ?_
    rintro e w2 ⟨rfl, hm, hf⟩
    have hr := (Fr.of_grew hg1).trans (hf.more b)
    have k2 := hf.keep (hg1.blk h) (by simp [h1, h2])
    clear c1 d1 e1
    obtain ⟨c1, d1, e1⟩ := blk_facts k2
    go_wp2_with fail
    refine (Unpack_calls x _ hsm).mono ?_
    rintro e w3 ⟨rfl, hg3⟩
    have k3 := hg3.blk (set_same 0 (.func (.func 168) #[] #[]) (set_same 2 (.int .u64 x) k2))
    have hm3 := ((hm.set 2 (.int .u64 x) h1 h2).set 0 (.func (.func 168) #[] #[]) h1 h2).grew hg3
    clear c1 d1 e1
    obtain ⟨c1, d1, e1⟩ := blk_facts k3
    go_wp2_with fail
    exact bodyPost_end (v := .tuple #[]) (by simp [results, Try.results163, go_sem]) rfl ⟨rfl, set_same 0 _ k3, hm3.set _ _ h1 h2, (by (repeat (first | with_reducible exact Fr.refl _ _ | (with_reducible refine Fr.setCell ?_ _ _ _ ?_; rotate_left; first | focus (left; simp; done) | (right; omega) | (right; simp only [World.size_alloc, World.size_setCell, World.size_drew, size_plus] at *; omega)) | with_reducible refine Fr.alloc ?_ _ | with_reducible refine Fr.drew ?_ | with_reducible refine Fr.drewN ?_ _ | with_reducible refine Fr.plus ?_ _ _ | with_reducible refine Fr.grew ?_ hg3 | with_reducible exact hr | with_reducible refine Fr.trans ?_ hr)))⟩
  · rw [if_neg hS]
    go_enter Try.func163, Try.ntmps163
    go_wp2_with fail
    refine (hspot_calls _ b 4 _ _ _ _ p h).mono ?_
    rintro e w1 ⟨rfl, hg1⟩
    go_wp2_with fail
    refine (HL.out _ (hM.grew hg1)).mono ?_
    rintro e w2 ⟨rfl, hm, hf⟩
    have hr := (Fr.of_grew hg1).trans (hf.more b)
    have k2 := hf.keep (hg1.blk h) (by simp [h1, h2])
    clear c1 d1 e1
    obtain ⟨c1, d1, e1⟩ := blk_facts k2
    go_wp2_with fail
    refine (Unpack_calls x _ hsm).mono ?_
    rintro e w3 ⟨rfl, hg3⟩
    have k3 := hg3.blk (set_same 0 (.func (.func 168) #[] #[]) (set_same 2 (.int .u64 x) k2))
    have hm3 := ((hm.set 2 (.int .u64 x) h1 h2).set 0 (.func (.func 168) #[] #[]) h1 h2).grew hg3
    clear c1 d1 e1
    obtain ⟨c1, d1, e1⟩ := blk_facts k3
    go_wp2_with fail
    exact bodyPost_end (v := .tuple #[]) (by simp [results, Try.results163, go_sem]) rfl ⟨rfl, k3, hm3, (by (repeat (first | with_reducible exact Fr.refl _ _ | (with_reducible refine Fr.setCell ?_ _ _ _ ?_; rotate_left; first | focus (left; simp; done) | (right; omega) | (right; simp only [World.size_alloc, World.size_setCell, World.size_drew, size_plus] at *; omega)) | with_reducible refine Fr.alloc ?_ _ | with_reducible refine Fr.drew ?_ | with_reducible refine Fr.drewN ?_ _ | with_reducible refine Fr.plus ?_ _ _ | with_reducible refine Fr.grew ?_ hg3 | with_reducible exact hr | with_reducible refine Fr.trans ?_ hr)))⟩

set_option maxRecDepth 10000 in
set_option maxHeartbeats 400000 in
theorem hlay_calls (W : World) (b bm bw : Nat) (M : Mem) (v0 v1 v3 : Value) (x : Nat) (p : Int) (h : W.heap[b]? = some (.cells #[v0, v1, .int .u64 x, v3, .int .i64 p] 205 (0, 0))) (hx : U64 x) (hM : MemAt W bm bw M) (h1 : b ≠ bm) (h2 : b ≠ bw) :
    Calls Try.prog 169 #[.pointer (some ⟨b, 0, none⟩), .pointer (some ⟨bm, 0, none⟩)] W fun e w' => e = .returned (.tuple #[]) ∧
      w'.heap[b]? = some (.cells #[if (M.swap 4 p x (stMove x 4 (stBusy x))).2 then .func (.func 168) #[] #[] else .func (.func 163) #[] #[], v1, .int .u64 x, v3, .int .i64 p] 205 (0, 0)) ∧
      MemAt w' bm bw (M.swap 4 p x (stMove x 4 (stBusy x))).1 ∧ Fr [b, bm, bw] W w' := by
  obtain ⟨c1, d1, e1⟩ := blk_facts h
  have k0 := set_same 0 (.func (.func 163) #[] #[]) h
  have hM0 := hM.set 0 (.func (.func 163) #[] #[]) h1 h2
  have hr0 : Fr [b, bm, bw] W (W.setCell ⟨b, 0, none⟩ (.func (.func 163) #[] #[])) := (by (repeat (first | with_reducible exact Fr.refl _ _ | (with_reducible refine Fr.setCell ?_ _ _ _ ?_; rotate_left; first | focus (left; simp; done) | (right; omega) | (right; simp only [World.size_alloc, World.size_setCell, World.size_drew, size_plus] at *; omega)) | with_reducible refine Fr.alloc ?_ _ | with_reducible refine Fr.drew ?_ | with_reducible refine Fr.drewN ?_ _ | with_reducible refine Fr.plus ?_ _ _)))
  have hst := st_busy
  have HS := Lib.hid (fun w h => Swap_calls w bm bw M 4 p x (stMove x 4 (stBusy x)) h (stMove_lt hx (by decide)))
  have HMv := Lib.hid (fun w => Move_calls x 4 (stBusy x) w hx (by decide))
  generalize M.swap 4 p x (stMove x 4 (stBusy x)) = R at *
  generalize stMove x 4 (stBusy x) = y at *
  obtain ⟨M2, r⟩ := R
  simp only at *
  cases r
  all_goals
    go_enter Try.func169, Try.ntmps169
    go_wp2_with fail
    generalize W.setCell ⟨b, 0, none⟩ (.func (.func 163) #[] #[]) = W0 at *
    have k0' := k0
    simp only [List.setIfInBounds_toArray, List.set_cons_zero] at k0'
    clear c1 d1 e1
    obtain ⟨c1, d1, e1⟩ := blk_facts k0'
    refine wp_region_tail 18 (by kernel_rfl) (by kernel_rfl) ?_
    simp only [List.take_succ_cons, List.take_zero, List.drop_succ_cons, List.drop_zero]
    repeat (go_big_quiet_step ((first | (go_at_call 162; exact quiet_plus (hspot_calls _ b 4 _ _ _ _ p ((Grew.plus (Grew.refl W0) _ _).blk k0'))) | (go_at_call 88; exact quiet_plus (Unpack_calls x _ hx)) | (go_at_call 119; exact quiet_plus (calls_grew (HMv.out _))))))
    refine wpQuiet_nil ?_
    intro w1 hw1
    have hg1 := grew_of_class hw1
    clear hw1
    go_wp2_with fail
    refine (HS.out _ (hM0.grew hg1)).mono ?_
    rintro e w2 ⟨rfl, hm, hf⟩
    have hr := (hr0.grew hg1).trans (hf.more b)
    have k2 := hf.keep (hg1.blk k0') (by simp [h1, h2])
    clear c1 d1 e1
    obtain ⟨c1, d1, e1⟩ := blk_facts k2
    go_wp2_with fail
  · exact bodyPost_end (v := .tuple #[]) (by simp [results, Try.results169, go_sem]) rfl ⟨rfl, k2, hm, (by (repeat (first | with_reducible exact Fr.refl _ _ | (with_reducible refine Fr.setCell ?_ _ _ _ ?_; rotate_left; first | focus (left; simp; done) | (right; omega) | (right; simp only [World.size_alloc, World.size_setCell, World.size_drew, size_plus] at *; omega)) | with_reducible refine Fr.alloc ?_ _ | with_reducible refine Fr.drew ?_ | with_reducible refine Fr.drewN ?_ _ | with_reducible refine Fr.plus ?_ _ _ | with_reducible exact hr | with_reducible refine Fr.trans ?_ hr)))⟩
  · exact bodyPost_end (v := .tuple #[]) (by simp [results, Try.results169, go_sem]) rfl ⟨rfl, set_same 0 _ k2, hm.set _ _ h1 h2, (by (repeat (first | with_reducible exact Fr.refl _ _ | (with_reducible refine Fr.setCell ?_ _ _ _ ?_; rotate_left; first | focus (left; simp; done) | (right; omega) | (right; simp only [World.size_alloc, World.size_setCell, World.size_drew, size_plus] at *; omega)) | with_reducible refine Fr.alloc ?_ _ | with_reducible refine Fr.drew ?_ | with_reducible refine Fr.drewN ?_ _ | with_reducible refine Fr.plus ?_ _ _ | with_reducible exact hr | with_reducible refine Fr.trans ?_ hr)))⟩

set_option maxRecDepth 10000 in
set_option maxHeartbeats 400000 in
theorem hsettle_calls (W : World) (b bm bw : Nat) (M : Mem) (v0 v2 v3 v4 : Value) (x : Nat) (h : W.heap[b]? = some (.cells #[v0, .int .u64 x, v2, v3, v4] 205 (0, 0))) (hx : U64 x) (hM : MemAt W bm bw M) (h1 : b ≠ bm) (h2 : b ≠ bw) :
    Calls Try.prog 168 #[.pointer (some ⟨b, 0, none⟩), .pointer (some ⟨bm, 0, none⟩)] W fun e w' => e = .returned (.tuple #[]) ∧
      w'.heap[b]? = some (.cells #[.nilFunc, .int .u64 x, v2, v3, v4] 205 (0, 0)) ∧ MemAt w' bm bw (M.swap 1 0 x (x / 16 * 16)).1 ∧ Fr [b, bm, bw] W w' := by
  obtain ⟨c1, d1, e1⟩ := blk_facts h
  have HS := Lib.hid (fun w h => Swap_calls w bm bw M 1 0 x (x / 16 * 16) h (by unfold U64 at *; omega))
  have HT := Lib.hid (fun w => Settled_calls x w hx)
  generalize M.swap 1 0 x (x / 16 * 16) = R at *
  obtain ⟨M2, r⟩ := R
  generalize x / 16 * 16 = y at *
  simp only at *
  go_enter Try.func168, Try.ntmps168
  go_wp2_with fail
  refine wp_region_tail 11 (by kernel_rfl) (by kernel_rfl) ?_
  simp only [List.take_succ_cons, List.take_zero, List.drop_succ_cons, List.drop_zero]
  repeat (go_big_quiet_step ((first | (go_at_call 177; exact quiet_plus (calls_grew (HT.out _))))))
  refine wpQuiet_nil ?_
  intro w1 hw1
  have hg1 := grew_of_class hw1
  clear hw1
  go_wp2_with fail
  refine (HS.out _ (hM.grew hg1)).mono ?_
  rintro e w2 ⟨rfl, hm, hf⟩
  have hr := (Fr.of_grew hg1).trans (hf.more b)
  have k2 := hf.keep (hg1.blk h) (by simp [h1, h2])
  clear c1 d1 e1
  obtain ⟨c1, d1, e1⟩ := blk_facts k2
  go_wp2_with fail
  exact bodyPost_end (v := .tuple #[]) (by simp [results, Try.results168, go_sem]) rfl ⟨rfl, set_same 0 _ k2, hm.set _ _ h1 h2, (by (repeat (first | with_reducible exact Fr.refl _ _ | (with_reducible refine Fr.setCell ?_ _ _ _ ?_; rotate_left; first | focus (left; simp; done) | (right; omega) | (right; simp only [World.size_alloc, World.size_setCell, World.size_drew, size_plus] at *; omega)) | with_reducible refine Fr.alloc ?_ _ | with_reducible refine Fr.drew ?_ | with_reducible refine Fr.drewN ?_ _ | with_reducible refine Fr.plus ?_ _ _ | with_reducible exact hr | with_reducible refine Fr.trans ?_ hr)))⟩

theorem hfun_neq (k : Fn) (w : World) : (binOp .neq 203 (.func k #[] #[]) .nilFunc).run Try.prog w = .ok (.bool true) w := by kernel_rfl
theorem hnil_neq (w : World) : (binOp .neq 203 .nilFunc .nilFunc).run Try.prog w = .ok (.bool false) w := by kernel_rfl
theorem hnil_eq (w : World) : (binOp .eql 203 .nilFunc .nilFunc).run Try.prog w = .ok (.bool true) w := by kernel_rfl
theorem hfun_eq (k : Fn) (w : World) : (binOp .eql 203 (.func k #[] #[]) .nilFunc).run Try.prog w = .ok (.bool false) w := by kernel_rfl
set_option maxRecDepth 10000 in
set_option maxHeartbeats 400000 in
theorem hStep_idle (W : World) (b : Nat) (a2 v1 v2 v3 v4 : Value) (h : W.heap[b]? = some (.cells #[.nilFunc, v1, v2, v3, v4] 205 (0, 0))) :
    Calls Try.prog 147 #[.pointer (some ⟨b, 0, none⟩), a2] W fun e w' => e = .returned (.tuple #[]) ∧ W = w' := by
  obtain ⟨c1, d1, e1⟩ := blk_facts h
  have hn := hnil_neq
  go_enter Try.func147, Try.ntmps147
  go_wp2_with fail
  exact bodyPost_end (v := .tuple #[]) (by simp [results, Try.results147, go_sem]) rfl ⟨rfl, rfl⟩
set_option maxRecDepth 10000 in
set_option maxHeartbeats 400000 in
theorem hStep_call (W : World) (b : Nat) (k : FuncId) (a2 v1 v2 v3 v4 : Value) (h : W.heap[b]? = some (.cells #[.func (.func k) #[] #[], v1, v2, v3, v4] 205 (0, 0)))
    (hcf : ∀ args w, (callFunc k args).run Try.prog w = .ok (.enter k args) w) (R : World → Prop)
    (hk : Calls Try.prog k #[.pointer (some ⟨b, 0, none⟩), a2] W fun e w' => e = .returned (.tuple #[]) ∧ R w') :
    Calls Try.prog 147 #[.pointer (some ⟨b, 0, none⟩), a2] W fun e w' => e = .returned (.tuple #[]) ∧ R w' := by
  obtain ⟨c1, d1, e1⟩ := blk_facts h
  have hn := hfun_neq
  go_enter Try.func147, Try.ntmps147
  go_wp2_with fail
  refine hk.mono ?_
  rintro e w1 ⟨rfl, hr⟩
  go_wp2_with fail
  exact bodyPost_end (v := .tuple #[]) (by simp [results, Try.results147, go_sem]) rfl ⟨rfl, hr⟩

theorem swap_small {x : Nat} (hx : U64 x) : U64 (x / 16) ∧ U64 (x / 16 * 16) := by
  unfold U64 at *; omega

theorem hStep_calls (W : World) (b bm bw : Nat) (H : Hlp) (M : Mem) (hH : HlpAt W b H) (hM : MemAt W bm bw M) (h1 : b ≠ bm) (h2 : b ≠ bw) :
    Calls Try.prog 147 #[.pointer (some ⟨b, 0, none⟩), .pointer (some ⟨bm, 0, none⟩)] W fun e w' => e = .returned (.tuple #[]) ∧
      HlpAt w' b (H.step M).1 ∧ MemAt w' bm bw (H.step M).2 ∧ Fr [b, bm, bw] W w' := by
  obtain ⟨w, next, s, done⟩ := H
  obtain ⟨h, hw, hs⟩ := hH
  simp only [Hlp.cells, Hlp.stepV] at *
  cases done with
  | true =>
    simp only [if_true] at h
    refine (hStep_idle W b _ _ _ _ _ h).mono ?_
    rintro e w' ⟨rfl, rfl⟩
    exact ⟨rfl, ⟨by simpa [Hlp.step, Hlp.cells, Hlp.stepV] using h, hw, hs⟩, hM, Fr.refl _ _⟩
  | false =>
    simp only [Bool.false_eq_true, if_false] at h
    match next, h with
    | 0, h =>
      refine (hStep_call W b _ _ _ _ _ _ h (fun _ _ => by kernel_rfl) _ (hnumber_calls W b bm bw M _ _ _ _ _ h (swap_small hw).1 hM h1 h2)).mono ?_
      rintro e w' ⟨rfl, k1, k2, k3⟩
      exact ⟨rfl, ⟨by simpa [Hlp.step, Hlp.cells, Hlp.stepV] using k1, hw, hs⟩, k2, k3⟩
    | 1, h =>
      refine (hStep_call W b _ _ _ _ _ _ h (fun _ _ => by kernel_rfl) _ (hlook_calls W b bm bw M _ _ _ _ _ h hM h1 h2)).mono ?_
      rintro e w' ⟨rfl, k1, k2, k3⟩
      refine ⟨rfl, ⟨?_, hw, hM.load_small 4 _⟩, k2, k3⟩
      by_cases hS : stState (M.load 4 (pend w)).2 = 3 <;> simpa [Hlp.step, Hlp.cells, Hlp.stepV, hS] using k1
    | 2, h =>
      refine (hStep_call W b _ _ _ _ _ _ h (fun _ _ => by kernel_rfl) _ (hlay_calls W b bm bw M _ _ _ s _ h hs hM h1 h2)).mono ?_
      rintro e w' ⟨rfl, k1, k2, k3⟩
      refine ⟨rfl, ⟨?_, hw, hs⟩, k2, k3⟩
      cases hS : (M.swap 4 (pend w) s (stMove s 4 (stBusy s))).2 <;> simpa [Hlp.step, Hlp.cells, Hlp.stepV, hS] using k1
    | n + 3, h =>
      refine (hStep_call W b _ _ _ _ _ _ h (fun _ _ => by kernel_rfl) _ (hsettle_calls W b bm bw M _ _ _ _ _ h hw hM h1 h2)).mono ?_
      rintro e w' ⟨rfl, k1, k2, k3⟩
      exact ⟨rfl, ⟨by simpa [Hlp.step, Hlp.cells, Hlp.stepV] using k1, hw, hs⟩, k2, k3⟩

set_option maxRecDepth 10000 in
set_option maxHeartbeats 400000 in
theorem hDone_calls (W : World) (b : Nat) (H : Hlp) (hH : HlpAt W b H) :
    Calls Try.prog 148 #[.pointer (some ⟨b, 0, none⟩)] W fun e w' => e = .returned (.bool H.done) ∧ W = w' := by
  obtain ⟨w, next, s, done⟩ := H
  obtain ⟨h, hw, hs⟩ := hH
  simp only [Hlp.cells, Hlp.stepV] at *
  cases done with
  | true =>
    simp only [if_true] at h
    obtain ⟨c1, d1, e1⟩ := blk_facts h
    have hn := hnil_eq
    go_enter Try.func148, Try.ntmps148
    go_wp2_with fail
    go_ret
    exact ⟨rfl, rfl⟩
  | false =>
    have hv : ∃ k : FuncId, Hlp.stepV ⟨w, next, s, false⟩ = Value.func (.func k) #[] #[] := by
      unfold Hlp.stepV
      simp only [Bool.false_eq_true, if_false]
      split <;> exact ⟨_, rfl⟩
    obtain ⟨k, hv⟩ := hv
    have hn := hfun_eq
    simp only [Hlp.stepV] at hv
    rw [hv] at h
    obtain ⟨c1, d1, e1⟩ := blk_facts h
    go_enter Try.func148, Try.ntmps148
    go_wp2_with fail
    go_ret
    exact ⟨rfl, rfl⟩
set_option maxRecDepth 10000 in
set_option maxHeartbeats 400000 in
theorem hNew_calls (W : World) (x : Nat) (hx : U64 x) :
    Calls Try.prog 134 #[.int .u64 x] W fun e w' => ∃ b, e = .returned (.pointer (some ⟨b, 0, none⟩)) ∧ HlpAt w' b (Hlp.new x) ∧ W.heap.size ≤ b ∧ Grew W w' := by
  have ht := Lib.hid (fun w => tUnpack_calls x w hx)
  have hp : (x % 16 = 0 ∧ ((x % 16 : Nat) : Int) - 1 = -1) ∨ (x % 16 ≠ 0 ∧ 0 ≤ ((x % 16 : Nat) : Int) - 1) := by omega
  have h16 : U64 0 := by show 0 < _; decide
  unfold Hlp.new
  rcases hp with ⟨h0, hp⟩ | ⟨h0, hp⟩
  · rw [h0] at ht
    have hpe : pend x = -1 := by unfold pend; rw [h0]; rfl
    have H0 := Lib.hid h0
    clear hp h0
    go_enter Try.func134, Try.ntmps134
    go_wp2_with fail
    refine (ht.out _).mono ?_
    rintro e w1 ⟨rfl, hg1⟩
    have e1 := hg1.size
    go_wp2_with fail
    go_ret
    refine ⟨w1.heap.size, rfl, ⟨?_, hx, h16⟩, e1, (by (repeat (first | with_reducible exact Grew.refl _ | with_reducible refine Grew.alloc ?_ _ | with_reducible refine Grew.drew ?_ | with_reducible refine Grew.drewN ?_ _ | with_reducible refine Grew.plus ?_ _ _ | (with_reducible refine Grew.setCell ?_ ?_ _; rotate_left; first | omega | (simp only [World.size_alloc, World.size_setCell, World.size_drew, size_plus] at *; omega)) | with_reducible exact hg1 | with_reducible refine Grew.trans ?_ hg1)))⟩
    rw [alloc_new]
    simp [Hlp.cells, Hlp.stepV, H0.out, hpe]
  · have hpe : pend x = ((x % 16 : Nat) : Int) - 1 := rfl
    have hb0 : (x % 16 == 0) = false := by simpa using h0
    clear h0
    generalize ((x % 16 : Nat) : Int) - 1 = p at *
    have HB0 := Lib.hid hb0
    clear hb0
    go_enter Try.func134, Try.ntmps134
    go_wp2_with fail
    refine (ht.out _).mono ?_
    rintro e w1 ⟨rfl, hg1⟩
    have e1 := hg1.size
    go_wp2_with fail
    go_ret
    refine ⟨w1.heap.size, rfl, ⟨?_, hx, h16⟩, e1, (by (repeat (first | with_reducible exact Grew.refl _ | with_reducible refine Grew.alloc ?_ _ | with_reducible refine Grew.drew ?_ | with_reducible refine Grew.drewN ?_ _ | with_reducible refine Grew.plus ?_ _ _ | (with_reducible refine Grew.setCell ?_ ?_ _; rotate_left; first | omega | (simp only [World.size_alloc, World.size_setCell, World.size_drew, size_plus] at *; omega)) | with_reducible exact hg1 | with_reducible refine Grew.trans ?_ hg1)))⟩
    rw [alloc_new]
    simp [Hlp.cells, Hlp.stepV, HB0.out, hpe]
end Go.Proofs.Ytabkdmcmfecokaa
