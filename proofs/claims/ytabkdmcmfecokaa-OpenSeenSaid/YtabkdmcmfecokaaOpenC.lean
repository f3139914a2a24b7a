/- A beginning as a value: what its steps make of it. -/
import Derived.Test.YtabkdmcmfecokaaRows
import Derived.Test.YtabkdmcmfecokaaOpenB
namespace Go.Proofs.Ytabkdmcmfecokaa
open Go Go.RowKit

def Opn.stepV (O : Opn) (b : Nat) : Value := if O.done then .nilFunc else
  match O.next with
  | 0 => meth 52 b
  | 1 => meth 91 b
  | 2 => meth 120 b
  | 3 => meth 135 b
  | 4 => meth 133 b
  | _ => meth 145 b
def Opn.cells (O : Opn) (b bc : Nat) (aid : Value) : Array Value := #[O.stepV b, nextV bc, .int .i64 O.slot, .int .u64 O.s, .int .u64 O.seq, aid, .int .i64 O.e, .int .u64 O.h, .int .u64 O.n]
structure OpnAt (W : World) (F : List Nat) (b : Nat) (O : Opn) : Prop where
  own : ∃ bc aid, W.heap[b]? = some (.cells (O.cells b bc aid) 110 (0, 0)) ∧ W.heap[bc]? = some (.cells #[.int .i64 O.slot] 3 (0, 0)) ∧ b ≠ bc ∧ b ∈ F ∧ bc ∈ F ∧
    (O.done = false → O.next = 3 → ∃ ba, aid = .pointer (some ⟨ba, 0, none⟩) ∧ HlpAt W ba O.a ∧ ba ∈ F ∧ b ≠ ba ∧ bc ≠ ba)
  small : U64 O.s ∧ U64 O.seq
  slot : O.done = false → O.slot ≤ 11
  gen : O.done = false → 1 ≤ O.next → stGen O.s ≤ 1073741823
  inn : ∀ x ∈ F, x < W.heap.size
  zero : O.done = false → O.e = 0 ∧ O.h = 0 ∧ O.n = 0

theorem ofun_neq (k : Nat) (b : Nat) (w : World) : (binOp .neq 37 (meth k b) .nilFunc).run Try.prog w = .ok (.bool true) w := by kernel_rfl
theorem ofun_eq (k : Nat) (b : Nat) (w : World) : (binOp .eql 37 (meth k b) .nilFunc).run Try.prog w = .ok (.bool false) w := by kernel_rfl
theorem onil_neq (w : World) : (binOp .neq 37 .nilFunc .nilFunc).run Try.prog w = .ok (.bool false) w := by kernel_rfl
theorem onil_eq (w : World) : (binOp .eql 37 .nilFunc .nilFunc).run Try.prog w = .ok (.bool true) w := by kernel_rfl

set_option maxRecDepth 10000 in
set_option maxHeartbeats 400000 in
theorem oStep_idle (W : World) (b : Nat) (a2 v1 v2 v3 v4 v5 v6 v7 v8 : Value) (h : W.heap[b]? = some (.cells #[.nilFunc, v1, v2, v3, v4, v5, v6, v7, v8] 110 (0, 0))) :
    Calls Try.prog 18 #[.pointer (some ⟨b, 0, none⟩), a2] W fun e w' => e = .returned (.tuple #[]) ∧ W = w' := by
  obtain ⟨c1, d1, e1⟩ := blk_facts h
  have hn := onil_neq
  go_enter Try.func18, Try.ntmps18
  go_wp2_with fail
  exact bodyPost_end (v := .tuple #[]) (by simp [results, Try.results18, go_sem]) rfl ⟨rfl, rfl⟩
set_option maxRecDepth 10000 in
set_option maxHeartbeats 400000 in
theorem oStep_call (W : World) (b : Nat) (k : FuncId) (a2 v1 v2 v3 v4 v5 v6 v7 v8 : Value) (h : W.heap[b]? = some (.cells #[meth k b, v1, v2, v3, v4, v5, v6, v7, v8] 110 (0, 0)))
    (hcf : ∀ args w, (callFunc k args).run Try.prog w = .ok (.enter k args) w) (R : World → Prop)
    (hk : Calls Try.prog k #[.pointer (some ⟨b, 0, none⟩), a2] W fun e w' => e = .returned (.tuple #[]) ∧ R w') :
    Calls Try.prog 18 #[.pointer (some ⟨b, 0, none⟩), a2] W fun e w' => e = .returned (.tuple #[]) ∧ R w' := by
  have hn := ofun_neq
  unfold meth at *
  obtain ⟨c1, d1, e1⟩ := blk_facts h
  go_enter Try.func18, Try.ntmps18
  go_wp2_with fail
  refine hk.mono ?_
  rintro e w1 ⟨rfl, hr⟩
  go_wp2_with fail
  exact bodyPost_end (v := .tuple #[]) (by simp [results, Try.results18, go_sem]) rfl ⟨rfl, hr⟩

theorem oStep_calls (W : World) (F : List Nat) (b bm bw : Nat) (O : Opn) (M : Mem) (hO : OpnAt W F b O) (hM : MemAt W bm bw M) (h1 : bm ∉ F) (h2 : bw ∉ F) :
    Calls Try.prog 18 #[.pointer (some ⟨b, 0, none⟩), .pointer (some ⟨bm, 0, none⟩)] W fun e w' => e = .returned (.tuple #[]) ∧
      ∃ F', OpnAt w' F' b (O.step M).1 ∧ MemAt w' bm bw (O.step M).2 ∧ Fr (F ++ [bm, bw]) W w' ∧ ∀ x ∈ F', x ∈ F ∨ W.heap.size ≤ x := by
  obtain ⟨⟨bc, aid, hb, hc, hne, hbF, hcF, haid⟩, hsm, hslot, hgen, hin, hz⟩ := hO
  have e1 : b ≠ bm := fun e => h1 (e ▸ hbF)
  have e2 : b ≠ bw := fun e => h2 (e ▸ hbF)
  have e3 : bc ≠ bm := fun e => h1 (e ▸ hcF)
  have e4 : bc ≠ bw := fun e => h2 (e ▸ hcF)
  obtain ⟨slot, next, s, seq, a, ee, hh, n, done⟩ := O
  simp only [Opn.cells, Opn.stepV] at *
  have hszM := hM.ok.s2
  have hgM := hM.ok.g2
  cases done with
  | true =>
    simp only [if_true] at hb
    refine (oStep_idle W b _ _ _ _ _ _ _ _ _ hb).mono ?_
    rintro e w' ⟨rfl, rfl⟩
    refine ⟨rfl, F, ?_, by simpa [Opn.step] using hM, Fr.refl _ _, fun x hx => .inl hx⟩
    simp only [Opn.step, if_true]
    exact ⟨⟨bc, aid, by simpa [Opn.cells, Opn.stepV] using hb, hc, hne, hbF, hcF, fun h => by simp at h⟩, hsm, fun h => by simp at h, fun h => by simp at h, hin, fun h => by simp at h⟩
  | false =>
    simp only [Bool.false_eq_true, if_false] at hb
    obtain ⟨rfl, rfl, rfl⟩ := hz rfl
    have hslot := hslot rfl
    have hFr : ∀ {w' : World}, Fr [b, bc, bm, bw] W w' → Fr (F ++ [bm, bw]) W w' := fun h => h.mono fun x hx => .inl (by
      simp only [List.mem_cons, List.not_mem_nil, or_false] at hx
      simp only [List.mem_append, List.mem_cons, List.not_mem_nil, or_false]
      rcases hx with rfl | rfl | rfl | rfl
      · exact .inl hbF
      · exact .inl hcF
      · exact .inr (.inl rfl)
      · exact .inr (.inr rfl))
    have hFs : ∀ {w' : World} {S : List Nat}, Fr S W w' → ∀ x ∈ F, x < w'.heap.size := fun h x hx => Nat.lt_of_lt_of_le (hin x hx) h.size
    match next, hb, haid, hgen with
    | 0, hb, _, _ =>
      refine (oStep_call W b _ _ _ _ _ _ _ _ _ _ hb (fun _ _ => by kernel_rfl) _ (olook_calls W b bc bm bw M _ _ _ _ _ _ _ slot hb hc (by omega) hM e1 e2 hne e3 e4)).mono ?_
      rintro e w' ⟨rfl, k1, k2, k3, k4⟩
      refine ⟨rfl, F, ?_, k3, hFr k4, fun x hx => .inl hx⟩
      have hl := hM.load_small 4 slot
      simp only [Opn.step, Bool.false_eq_true, if_false]
      by_cases hS : stState (M.load 4 slot).2 = 0 ∧ stGen (M.load 4 slot).2 ≤ M.c.g
      · simp only [if_pos hS] at k1 k2 ⊢
        exact ⟨⟨bc, aid, k1, k2, hne, hbF, hcF, fun _ h => by simp at h⟩, ⟨hl, hsm.2⟩, fun _ => hslot, fun _ _ => by have := hS.2; simp only; omega, hFs k4, fun _ => ⟨rfl, rfl, rfl⟩⟩
      · simp only [if_neg hS] at k1 k2 ⊢
        by_cases hq : M.c.s ≤ slot + 1
        · simp only [Opn.goes, goesCells, if_pos hq] at k1 k2 ⊢
          exact ⟨⟨bc, aid, k1, k2, hne, hbF, hcF, fun h => by simp at h⟩, ⟨hl, hsm.2⟩, fun h => by simp at h, fun h => by simp at h, hFs k4, fun h => by simp at h⟩
        · simp only [Opn.goes, goesCells, if_neg hq] at k1 k2 ⊢
          exact ⟨⟨bc, aid, k1, k2, hne, hbF, hcF, fun _ h => by simp at h⟩, ⟨hl, hsm.2⟩, fun _ => by simp only; omega, fun _ h => by simp at h, hFs k4, fun _ => ⟨rfl, rfl, rfl⟩⟩
    | 1, hb, _, hgen =>
      refine (oStep_call W b _ _ _ _ _ _ _ _ _ _ hb (fun _ _ => by kernel_rfl) _ (otake_calls W b bc bm bw M _ _ _ _ _ _ slot s hb hsm.1 hc (by omega) hM e1 e2 hne e3 e4)).mono ?_
      rintro e w' ⟨rfl, k1, k2, k3, k4⟩
      refine ⟨rfl, F, ?_, k3, hFr k4, fun x hx => .inl hx⟩
      simp only [Opn.step, Bool.false_eq_true, if_false]
      cases hS : (M.swap 4 slot s (stMove s 1 false)).2
      · simp only [hS, Bool.false_eq_true, if_false] at k1 k2 ⊢
        by_cases hq : M.c.s ≤ slot + 1
        · simp only [Opn.goes, goesCells, if_pos hq] at k1 k2 ⊢
          exact ⟨⟨bc, aid, k1, k2, hne, hbF, hcF, fun h => by simp at h⟩, hsm, fun h => by simp at h, fun h => by simp at h, hFs k4, fun h => by simp at h⟩
        · simp only [Opn.goes, goesCells, if_neg hq] at k1 k2 ⊢
          exact ⟨⟨bc, aid, k1, k2, hne, hbF, hcF, fun _ h => by simp at h⟩, hsm, fun _ => by simp only; omega, fun _ h => by simp at h, hFs k4, fun _ => ⟨rfl, rfl, rfl⟩⟩
      · simp only [hS, if_true] at k1 k2 ⊢
        exact ⟨⟨bc, aid, k1, k2, hne, hbF, hcF, fun _ h => by simp at h⟩, hsm, fun _ => hslot, fun _ _ => hgen rfl (by simp), hFs k4, fun _ => ⟨rfl, rfl, rfl⟩⟩
    | 2, hb, _, hgen =>
      refine (oStep_call W b _ _ _ _ _ _ _ _ _ _ hb (fun _ _ => by kernel_rfl) _ (otally_calls W b bm bw M _ _ _ _ _ _ _ _ _ hb hM e1 e2)).mono ?_
      rintro e w' ⟨rfl, k1, k1', k3, k4⟩
      have k2 := k4.keep hc (by simp [Ne.symm hne, e3, e4])
      have hl := hM.load_small 1 0
      have hl2 : U64 ((M.load 1 0).2 / 16) := by unfold U64 at *; omega
      simp only [Opn.step, Bool.false_eq_true, if_false]
      have k4' : Fr (F ++ [bm, bw]) W w' := hFr (k4.mono fun x hx => .inl (by simp at hx ⊢; omega))
      by_cases hS : (M.load 1 0).2 % 16 = 0
      · simp only [if_pos hS]
        exact ⟨trivial, F, ⟨⟨bc, aid, k1 hS, k2, hne, hbF, hcF, fun _ h => by simp at h⟩, ⟨hsm.1, hl2⟩, fun _ => hslot, fun _ _ => hgen rfl (by simp), hFs k4, fun _ => ⟨rfl, rfl, rfl⟩⟩, k3, k4', fun x hx => .inl hx⟩
      · simp only [if_neg hS]
        obtain ⟨ba, k1, kA, hba⟩ := k1' hS
        have hbW := hin b hbF
        have hcW := hin bc hcF
        refine ⟨trivial, ba :: F, ⟨⟨bc, _, k1, k2, hne, List.mem_cons_of_mem _ hbF, List.mem_cons_of_mem _ hcF, fun _ _ => ⟨ba, rfl, kA, List.mem_cons_self .., by omega, by omega⟩⟩, ⟨hsm.1, hl2⟩, fun _ => hslot, fun _ _ => hgen rfl (by simp), ?_, fun _ => ⟨rfl, rfl, rfl⟩⟩, k3, k4', ?_⟩
        · intro x hx
          rcases List.mem_cons.1 hx with rfl | hx
          · exact blk_lt kA.own
          · exact hFs k4 x hx
        · intro x hx
          rcases List.mem_cons.1 hx with rfl | hx
          · exact .inr hba
          · exact .inl hx
    | 3, hb, haid, hgen =>
      obtain ⟨ba, rfl, hA, hbaF, n1, n2⟩ := haid rfl rfl
      have e5 : ba ≠ bm := fun e => h1 (e ▸ hbaF)
      have e6 : ba ≠ bw := fun e => h2 (e ▸ hbaF)
      refine (oStep_call W b _ _ _ _ _ _ _ _ _ _ hb (fun _ _ => by kernel_rfl) _ (ohelp_calls W b ba bm bw M a _ _ _ _ _ _ _ _ hb hA hM e1 e2 n1 e5 e6)).mono ?_
      rintro e w' ⟨rfl, k1, kA, k3, k4⟩
      have k2 := k4.keep hc (by simp [Ne.symm hne, e3, e4, n2])
      have k4' : Fr (F ++ [bm, bw]) W w' := k4.mono fun x hx => .inl (by
        simp only [List.mem_cons, List.not_mem_nil, or_false] at hx
        simp only [List.mem_append, List.mem_cons, List.not_mem_nil, or_false]
        rcases hx with rfl | rfl | rfl | rfl
        · exact .inl hbF
        · exact .inl hbaF
        · exact .inr (.inl rfl)
        · exact .inr (.inr rfl))
      simp only [Opn.step, Bool.false_eq_true, if_false]
      cases hS : (a.step M).1.done
      · simp only [hS, Bool.false_eq_true, if_false] at k1 ⊢
        exact ⟨trivial, F, ⟨⟨bc, _, k1, k2, hne, hbF, hcF, fun _ _ => ⟨ba, rfl, kA, hbaF, n1, n2⟩⟩, hsm, fun _ => hslot, fun _ _ => hgen rfl (by simp), hFs k4, fun _ => ⟨rfl, rfl, rfl⟩⟩, k3, k4', fun x hx => .inl hx⟩
      · simp only [hS, if_true] at k1 ⊢
        exact ⟨trivial, F, ⟨⟨bc, _, k1, k2, hne, hbF, hcF, fun _ h => by simp at h⟩, hsm, fun _ => hslot, fun _ _ => hgen rfl (by simp), hFs k4, fun _ => ⟨rfl, rfl, rfl⟩⟩, k3, k4', fun x hx => .inl hx⟩
    | 4, hb, _, hgen =>
      refine (oStep_call W b _ _ _ _ _ _ _ _ _ _ hb (fun _ _ => by kernel_rfl) _ (onote_calls W b bm bw M _ _ _ _ _ _ _ _ _ hb hsm.2 hM e1 e2)).mono ?_
      rintro e w' ⟨rfl, k1, k3, k4⟩
      have k2 := k4.keep hc (by simp [Ne.symm hne, e3, e4])
      have k4' : Fr (F ++ [bm, bw]) W w' := hFr (k4.mono fun x hx => .inl (by simp at hx ⊢; omega))
      simp only [Opn.step, Bool.false_eq_true, if_false]
      exact ⟨trivial, F, ⟨⟨bc, _, k1, k2, hne, hbF, hcF, fun _ h => by simp at h⟩, hsm, fun _ => hslot, fun _ _ => hgen rfl (by simp), hFs k4, fun _ => ⟨rfl, rfl, rfl⟩⟩, k3, k4', fun x hx => .inl hx⟩
    | m + 5, hb, _, hgen =>
      refine (oStep_call W b _ _ _ _ _ _ _ _ _ _ hb (fun _ _ => by kernel_rfl) _ (ostart_calls W b bm bw M _ _ _ _ _ _ slot s seq hb hsm.1 hslot (hgen rfl (by simp)) hM e1 e2)).mono ?_
      rintro e w' ⟨rfl, k1, k3, k4⟩
      have k2 := k4.keep hc (by simp [Ne.symm hne, e3, e4])
      have k4' : Fr (F ++ [bm, bw]) W w' := hFr (k4.mono fun x hx => .inl (by simp at hx ⊢; omega))
      simp only [Opn.step, Bool.false_eq_true, if_false]
      exact ⟨trivial, F, ⟨⟨bc, _, k1, k2, hne, hbF, hcF, fun h => by simp at h⟩, hsm, fun h => by simp at h, fun h => by simp at h, hFs k4, fun h => by simp at h⟩, k3, k4', fun x hx => .inl hx⟩

theorem Opn.stepV_meth (O : Opn) (b : Nat) (h : O.done = false) : ∃ k, O.stepV b = meth k b := by
  unfold Opn.stepV
  rw [h]
  simp only [Bool.false_eq_true, if_false]
  split <;> exact ⟨_, rfl⟩
set_option maxRecDepth 10000 in
set_option maxHeartbeats 400000 in
theorem oDone_calls (W : World) (F : List Nat) (b : Nat) (O : Opn) (hO : OpnAt W F b O) :
    Calls Try.prog 17 #[.pointer (some ⟨b, 0, none⟩)] W fun e w' => e = .returned (.bool O.done) ∧ W = w' := by
  obtain ⟨⟨bc, aid, h, -⟩, -⟩ := hO
  simp only [Opn.cells] at h
  cases hd : O.done with
  | true =>
    have hv : O.stepV b = .nilFunc := by unfold Opn.stepV; rw [hd]; rfl
    rw [hv] at h
    obtain ⟨c1, d1, e1⟩ := blk_facts h
    have hn := onil_eq
    go_enter Try.func17, Try.ntmps17
    go_wp2_with fail
    go_ret
    exact ⟨rfl, rfl⟩
  | false =>
    obtain ⟨k, hv⟩ := O.stepV_meth b hd
    rw [hv] at h
    have hn := ofun_eq
    unfold meth at *
    obtain ⟨c1, d1, e1⟩ := blk_facts h
    go_enter Try.func17, Try.ntmps17
    go_wp2_with fail
    go_ret
    exact ⟨rfl, rfl⟩
set_option maxRecDepth 10000 in
set_option maxHeartbeats 400000 in
theorem oAnswer_calls (W : World) (F : List Nat) (b : Nat) (O : Opn) (hO : OpnAt W F b O) :
    Calls Try.prog 20 #[.pointer (some ⟨b, 0, none⟩)] W fun e w' => e = .returned (.agg #[.int .i64 O.e, .int .u64 O.h, .int .u64 O.n]) ∧ Grew W w' := by
  obtain ⟨⟨bc, aid, h, -⟩, -⟩ := hO
  simp only [Opn.cells] at h
  generalize O.stepV b = v0 at h
  obtain ⟨c1, d1, e1⟩ := blk_facts h
  go_enter Try.func20, Try.ntmps20
  go_wp2_with fail
  refine bodyPost_ret (v := .agg #[.int .i64 O.e, .int .u64 O.h, .int .u64 O.n]) ?_ rfl ⟨rfl, (by (repeat (first | with_reducible exact Grew.refl _ | with_reducible refine Grew.alloc ?_ _ | with_reducible refine Grew.drew ?_ | with_reducible refine Grew.drewN ?_ _ | with_reducible refine Grew.plus ?_ _ _ | (with_reducible refine Grew.setCell ?_ ?_ _; rotate_left; first | omega | (simp only [World.size_alloc, World.size_setCell, World.size_drew, size_plus] at *; omega)))))⟩
  simp [results, Try.results20, go_sem]
set_option maxRecDepth 10000 in
set_option maxHeartbeats 400000 in
theorem oNew_calls (W : World) :
    Calls Try.prog 13 #[] W fun e w' => ∃ b F, e = .returned (.pointer (some ⟨b, 0, none⟩)) ∧ OpnAt w' F b Opn.new ∧ (∀ x ∈ F, W.heap.size ≤ x) ∧ Grew W w' := by
  go_enter Try.func13, Try.ntmps13
  go_wp2_with fail
  refine (counter_calls _).mono ?_
  rintro e w1 ⟨bc, rfl, hc, hbc, hg1⟩
  have hlt := blk_lt hc
  go_wp2_with fail
  have k1 := alloc_new w1 (.cells #[.nilFunc, .func (.func 86) #[] #[.pointer (some ⟨bc, 0, none⟩)], .int .i64 0, .int .u64 0, .int .u64 0, .pointer none, .int .i64 0, .int .u64 0, .int .u64 0] 110)
  refine (counter1_calls _ bc (-1) (alloc_blk _ hc) (by omega)).mono ?_
  rintro e w2 ⟨rfl, hc2, hf2⟩
  have hne : w1.heap.size ≠ bc := by omega
  have k2 := hf2.keep k1 (by simp [hne])
  have hr2 : Fr [] W w2 := by
    have h3 : Fr [bc] (w1.alloc (.cells #[.nilFunc, .func (.func 86) #[] #[.pointer (some ⟨bc, 0, none⟩)], .int .i64 0, .int .u64 0, .int .u64 0, .pointer none, .int .i64 0, .int .u64 0, .int .u64 0] 110)) w2 := hf2
    have h4 : Fr [bc] W w2 := ((Fr.of_grew hg1).alloc _).trans h3
    exact h4.mono fun x hx => .inr (by simp at hx; omega)
  have hg2 := hr2.to_grew
  have hW1 := hg1.size
  obtain ⟨c1, d1, e1⟩ := blk_facts k2
  go_wp2_with fail
  go_ret
  have k3 := set_same 0 (.func (.func 52) #[.pointer (some ⟨w1.heap.size, 0, none⟩)] #[]) (set_same 2 (.int .i64 0) k2)
  have c3 := set_blk w1.heap.size 0 (.func (.func 52) #[.pointer (some ⟨w1.heap.size, 0, none⟩)] #[]) (set_blk w1.heap.size 2 (.int .i64 0) hc2 (Ne.symm hne)) (Ne.symm hne)
  refine ⟨w1.heap.size, [w1.heap.size, bc], rfl, ⟨⟨bc, .pointer none, k3, c3, hne, by simp, by simp, fun _ h => by simp [Opn.new] at h⟩, ⟨by show 0 < _; decide, by show 0 < _; decide⟩, fun _ => by simp [Opn.new], fun _ h => by simp [Opn.new] at h, ?_, fun _ => ⟨rfl, rfl, rfl⟩⟩, ?_, (by (repeat (first | with_reducible exact Grew.refl _ | with_reducible refine Grew.alloc ?_ _ | with_reducible refine Grew.drew ?_ | with_reducible refine Grew.drewN ?_ _ | with_reducible refine Grew.plus ?_ _ _ | (with_reducible refine Grew.setCell ?_ ?_ _; rotate_left; first | omega | (simp only [World.size_alloc, World.size_setCell, World.size_drew, size_plus] at *; omega)) | with_reducible exact hg2 | with_reducible refine Grew.trans ?_ hg2)))⟩
  · intro x hx
    simp at hx
    rcases hx with rfl | rfl
    · exact blk_lt k3
    · exact blk_lt c3
  · intro x hx
    simp at hx
    omega
end Go.Proofs.Ytabkdmcmfecokaa
