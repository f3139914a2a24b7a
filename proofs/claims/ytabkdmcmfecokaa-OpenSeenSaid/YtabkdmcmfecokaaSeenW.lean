/- OpenSeen: the walk. -/
import Derived.Test.YtabkdmcmfecokaaRows
import Derived.Test.YtabkdmcmfecokaaSeen
import Derived.LoopTactic
namespace Go.Proofs.Ytabkdmcmfecokaa
open Go Go.RowKit

theorem ORun.mem' {W : World} {F0 : List Nat} {b bm bw : Nat} {w w' : World} {O : Opn} {M M' : Mem} (h : ORun W F0 b bm bw w O M) (hM : MemAt w' bm bw M') (hf : Fr [bm, bw] w w') : ORun W F0 b bm bw w' O M' := by
  obtain ⟨⟨F, hO, hF⟩, _, hfr, h1, h2, h3, h4⟩ := h
  have hs := hfr.size
  refine ⟨⟨F, hO.keep hf fun x hx hm => ?_, hF⟩, hM, hfr.then hf fun x hx => .inl (List.mem_append_right _ hx), h1, h2, h3, h4⟩
  simp only [List.mem_cons, List.not_mem_nil, or_false] at hm
  rcases hF x hx with h | h
  · rcases hm with rfl | rfl
    · exact h1 h
    · exact h2 h
  · rcases hm with rfl | rfl <;> omega
/-- What a walk knows of a slice of ints that came in. -/
def IntsAt (w : World) (p : Option Addr) (n : Nat) (zs : Nat → Int) : Prop := ∀ i, i < n → ∃ a, p = some a ∧ w.cell? (a.add i) = some (.int .i64 (zs i))
theorem IntsAt.fr {w w' : World} {p : Option Addr} {n : Nat} {zs : Nat → Int} (h : IntsAt w p n zs) (hf : Fr [] w w') : IntsAt w' p n zs := fun i hi => by
  obtain ⟨a, h1, h2⟩ := h i hi
  exact ⟨a, h1, hf.to_grew.cell h2⟩
theorem ORun.fresh {W0 W : World} {F0 : List Nat} {b bm bw : Nat} {w : World} {O : Opn} {M : Mem} (h : ORun W F0 b bm bw w O M) (hf : Fr [] W0 W) (hF : ∀ x ∈ F0, W0.heap.size ≤ x) (h1 : W0.heap.size ≤ bm) (h2 : W0.heap.size ≤ bw) : Fr [] W0 w :=
  hf.then h.fr fun x hx => .inr (by
    rcases List.mem_append.1 hx with hx | hx
    · exact hF x hx
    · simp only [List.mem_cons, List.not_mem_nil, or_false] at hx
      rcases hx with rfl | rfl <;> assumption)

set_option maxRecDepth 20000 in
set_option maxHeartbeats 4000000 in
theorem seen_wrong (w : World) (t s k g : Int) (q seq : Nat) (z : Value) (hr : rightB t s k g q = false) :
    Calls Try.prog 3 #[.agg #[.int .i64 t, .int .i64 s, .int .i64 k, .int .i64 g, .int .u64 q], .int .u64 seq, z] w fun e w' => e = .returned (.bool true) ∧ Grew w w' := by
  have HN := Lib.hid (fun w => New_no w t s k g q hr)
  clear hr
  go_enter Try.func3, Try.ntmps3
  go_wp2_with fail
  refine (HN.out _).mono ?_
  rintro e w1 ⟨rfl, hg1⟩
  go_wp2_with fail
  refine (oNew_calls _).mono ?_
  rintro e w2 ⟨b, F, rfl, hO, hF, hg2⟩
  go_wp2_with fail
  refine (alive9_calls _).mono ?_
  rintro e w3 ⟨rfl, hg3⟩
  go_wp2_with fail
  go_ret
  exact ⟨rfl, (by (repeat (first | with_reducible exact Grew.refl _ | with_reducible refine Grew.alloc ?_ _ | with_reducible refine Grew.drew ?_ | with_reducible refine Grew.drewN ?_ _ | with_reducible refine Grew.plus ?_ _ _ | (with_reducible refine Grew.setCell ?_ ?_ _; rotate_left; first | omega | (simp only [World.size_alloc, World.size_setCell, World.size_drew, size_plus] at *; omega)) | with_reducible exact hg3 | with_reducible refine Grew.trans ?_ hg3 | with_reducible exact hg2 | with_reducible refine Grew.trans ?_ hg2 | with_reducible exact hg1 | with_reducible refine Grew.trans ?_ hg1)))⟩

set_option maxRecDepth 20000 in
set_option maxHeartbeats 4000000 in
theorem seen_long (w : World) (c : Cfg) (seq : Nat) (p : Option Addr) (n cap : Nat) (hc : c.Ok) (hn : n ≤ 9223372036854775807) (hl : 50 < n ∨ (n ≤ 50 ∧ 1000 < seq)) :
    Calls Try.prog 3 #[c.V, .int .u64 seq, .slice p n cap] w fun e w' => e = .returned (.bool true) ∧ Grew w w' := by
  have HN := Lib.hid (fun w => New_calls w c hc)
  clear hc
  obtain ⟨t, s, k, g, q⟩ := c
  simp only [Cfg.V] at *
  rcases hl with hl | ⟨hl, hq⟩
  all_goals
    go_enter Try.func3, Try.ntmps3
    go_wp2_with fail
    refine (HN.out _).mono ?_
    rintro e w1 ⟨bm, bw, rfl, hm, hbm, hbw, hg1⟩
    go_wp2_with fail
    refine (oNew_calls _).mono ?_
    rintro e w2 ⟨b, F, rfl, hO, hF, hg2⟩
    go_wp2_with fail
    refine (alive9_calls _).mono ?_
    rintro e w3 ⟨rfl, hg3⟩
    go_wp2_with fail
    go_ret
    exact ⟨rfl, (by (repeat (first | with_reducible exact Grew.refl _ | with_reducible refine Grew.alloc ?_ _ | with_reducible refine Grew.drew ?_ | with_reducible refine Grew.drewN ?_ _ | with_reducible refine Grew.plus ?_ _ _ | (with_reducible refine Grew.setCell ?_ ?_ _; rotate_left; first | omega | (simp only [World.size_alloc, World.size_setCell, World.size_drew, size_plus] at *; omega)) | with_reducible exact hg3 | with_reducible refine Grew.trans ?_ hg3 | with_reducible exact hg2 | with_reducible refine Grew.trans ?_ hg2 | with_reducible exact hg1 | with_reducible refine Grew.trans ?_ hg1)))⟩

set_option maxRecDepth 20000 in
set_option maxHeartbeats 4000000 in
theorem seen_main (w : World) (c : Cfg) (seq : Nat) (p : Option Addr) (n cap : Nat) (zs : Nat → Int) (hc : c.Ok) (hn : n ≤ 50) (hq : seq ≤ 1000) (hz : IntsAt w p n zs) :
    Calls Try.prog 3 #[c.V, .int .u64 seq, .slice p n cap] w fun e w' => e = .returned (.bool true) ∧ Grew w w' := by
  have HN := Lib.hid (fun w => New_calls w c hc)
  have hnew := Lib.hid (Seen.new c seq)
  have hst := Lib.hid (fun w bm bw h => Store_calls w bm bw (Mem.fresh c (List.replicate (lenOf c) 0)) 1 0 (16 * seq) h (by unfold U64; omega))
  have HC := Lib.hid hc
  clear hc
  have hcV : c.V = .agg #[.int .i64 c.t, .int .i64 c.s, .int .i64 c.k, .int .i64 c.g, .int .u64 c.q] := rfl
  rw [hcV] at *
  have hv16 : ((16 * seq : Nat) : Int) = 16 * seq := by simp
  rw [hv16] at hst
  go_enter Try.func3, Try.ntmps3
  go_wp2_with fail
  refine (HN.out _).mono ?_
  rintro e w1 ⟨bm, bw, rfl, hm, hbm, hbw, hg1⟩
  have hs1 := hg1.size
  have hmi := blk_lt hm.own
  have hwi := blk_lt hm.row
  simp only [World.size_alloc] at hbm hbw
  go_wp2_with fail
  refine (oNew_calls _).mono ?_
  rintro e w2 ⟨b, F, rfl, hO, hF, hg2⟩
  have hs2 := hg2.size
  go_wp2_with fail
  refine (of9_calls _ _ _).mono ?_
  rintro e w3 ⟨rfl, hg3⟩
  go_wp2_with fail
  refine (hst.out _ bm bw ((hm.grew hg2).grew hg3)).mono ?_
  rintro e w4 ⟨rfl, hm4, hf4⟩
  have dm : bm ∉ F := fun h => by have := hF _ h; omega
  have dw : bw ∉ F := fun h => by have := hF _ h; omega
  have hR : ORun w4 F b bm bw w4 Opn.new _ := ORun.start ((hO.grew hg3).keep hf4 (fun x hx h => by
    simp only [List.mem_cons, List.not_mem_nil, or_false] at h
    rcases h with rfl | rfl
    · exact dm hx
    · exact dw hx)) hm4 dm dw
  have hgw : Fr [] w w4 := (((((Fr.refl [] w).alloc _).grew hg1).grew hg2).grew hg3).then hf4 (fun x hx => .inr (by
    simp only [List.mem_cons, List.not_mem_nil, or_false] at hx
    rcases hx with rfl | rfl <;> omega))
  have hFw : ∀ x ∈ F, w.heap.size ≤ x := fun x hx => by have := hF x hx; simp at hs1; omega
  have hbm' : w.heap.size ≤ bm := by omega
  have hbw' : w.heap.size ≤ bw := by omega
  clear hO hm hm4 hg1 hg2 hg3 hf4 hF hs1 hs2 hmi hwi hbm hbw dm dw hst HN hv16
  have hgo := Lib.hid hgw
  clear hgw
  go_wp2_with fail
  go_loopw [10, 52] (fun nw i wr => ∃ (j now kk : Nat) (O : Opn) (M : Mem), i = .int .i64 j ∧ nw = .int .u64 now ∧ j ≤ n ∧ now ≤ seq + j ∧ ORun w4 F b bm bw wr O M ∧ Hid (Seen c seq now kk O M)) (fun _ i _ => n - (intOf i).toNat)
  case atStart => exact ⟨0, seq, 0, _, _, rfl, rfl, Nat.zero_le _, by omega, hR, hnew⟩
  case round =>
    obtain ⟨j, now, kk, O, M, rfl, rfl, hj, hnow, hR, hS⟩ := hrel
    have hzr := hz.fr (hR.fresh hgo.out hFw hbm' hbw')
    clear hnew
    rcases Nat.lt_or_ge j n with hlt | hge
    · obtain ⟨a, rfl, hcell⟩ := hzr j hlt
      have hR' := hR
      obtain ⟨⟨Fr1, hOr, hFr1⟩, hmr, -⟩ := hR'
      have hd := hS.out.done
      by_cases hk5 : kk = 5
      · rw [decide_eq_true hk5] at hd
        go_wp2_with fail
        refine (oDone_calls wr Fr1 b O hOr).mono ?_
        rintro e wr' ⟨rfl, rfl⟩
        rw [hd]
        go_wp2_with fail
        refine (ends9_calls w4 F b bm bw wr O M 100 hR (by decide)).mono ?_
        rintro e wa ⟨rfl, hRa⟩
        have hSa := Seen.ends HC.out 100 kk O M hS.out (by omega)
        generalize (O.ends 100 M) = R at *
        obtain ⟨cnt, Oa, Ma⟩ := R
        simp only at *
        obtain ⟨ft1, ft2, ft3, ft4, ft5⟩ := hSa.told
        have hRa' := hRa
        obtain ⟨⟨Fa, hOa, hFa⟩, hma, -⟩ := hRa'
        go_wp2_with fail
        refine (oAnswer_calls wa Fa b Oa hOa).mono ?_
        rintro e wb ⟨rfl, hgb⟩
        rw [ft2]
        go_wp2_with fail
        have k13 := alloc_new wb (.cells #[.int .i64 0, .int .u64 Oa.h, .int .u64 Oa.n] 40)
        have hRb : ORun w4 F b bm bw (wb.alloc (.cells #[.int .i64 0, .int .u64 Oa.h, .int .u64 Oa.n] 40)) Oa Ma := (hRa.grew hgb).grew ((Grew.refl wb).alloc _)
        have n13 : bm < wb.heap.size ∧ bw < wb.heap.size := by
          have := hgb.size
          exact ⟨Nat.lt_of_lt_of_le (blk_lt hma.own) this, Nat.lt_of_lt_of_le (blk_lt hma.row) this⟩
        generalize wb.alloc (.cells #[.int .i64 0, .int .u64 Oa.h, .int .u64 Oa.n] 40) = wc at *
        generalize wb.heap.size = B at *
        have hCC : ∃ C : World → Prop, C = fun w' => w'.heap[B]? = some (.cells #[.int .i64 0, .int .u64 Oa.h, .int .u64 Oa.n] 40 (0, 0)) ∧ ∃ M', M'.ws = Ma.ws ∧ M'.c = Ma.c ∧ ORun w4 F b bm bw w' Oa M' := ⟨_, rfl⟩
        obtain ⟨C, hCe⟩ := hCC
        have hCo : ∀ w', C w' → w'.heap[B]? = some (.cells #[.int .i64 0, .int .u64 Oa.h, .int .u64 Oa.n] 40 (0, 0)) ∧ ∃ M', M'.ws = Ma.ws ∧ M'.c = Ma.c ∧ ORun w4 F b bm bw w' Oa M' := by rw [hCe]; exact fun _ h => h
        have hC0 : C wc.drew := by rw [hCe]; exact ⟨drew_blk k13, Ma, rfl, rfl, hRb.grew (Grew.refl wc).drew⟩
        have hCg : ∀ w' w'', C w' → Grew w' w'' → C w'' := by
          rw [hCe]; rintro w' w'' ⟨h1, M', h2, h3, h4⟩ hg
          exact ⟨hg.blk h1, M', h2, h3, h4.grew hg⟩
        have hCal : ∀ w', C w' → Calls Try.prog 14 #[] w' fun e w'' => e = .returned (.bool true) ∧ C w'' := fun w' h => (alive9_calls w').mono fun _ _ ⟨a, hg⟩ => ⟨a, hCg _ _ h hg⟩
        have hCof : ∀ w', C w' → Calls Try.prog 16 #[.int .i64 5, .int .i64 0] w' fun e w'' => e = .returned (.agg #[.int .i64 5, .int .i64 0]) ∧ C w'' := fun w' h => (of9_calls w' 5 0).mono fun _ _ ⟨a, hg⟩ => ⟨a, hCg _ _ h hg⟩
        have hCd : ∀ w', C w' → Calls Try.prog 17 #[.pointer (some ⟨b, 0, none⟩)] w' fun e w'' => e = .returned (.bool true) ∧ C w'' := by
          intro w' h
          have h' := h
          rw [hCe] at h'
          obtain ⟨-, M', -, -, ⟨⟨F', hO', -⟩, -⟩⟩ := h'
          refine (oDone_calls w' F' b Oa hO').mono ?_
          rintro e w'' ⟨rfl, rfl⟩
          exact ⟨by rw [ft1], h⟩
        have hCl : ∀ w', C w' → Calls Try.prog 21 #[.pointer (some ⟨bm, 0, none⟩), .agg #[.int .i64 5, .int .i64 0]] w' fun e w'' => e = .returned (.int .u64 Oa.n) ∧ C w'' := by
          intro w' h
          rw [hCe] at h ⊢
          obtain ⟨h1, M', h2, h3, h4⟩ := h
          refine (Load_calls w' bm bw M' 5 0 h4.mem).mono ?_
          rintro e w'' ⟨rfl, hm', hf'⟩
          obtain ⟨l1, l2⟩ := M'.load_ws h4.mem.wf 5 0
          refine ⟨by rw [M'.load_val, Mem.word_congr h2 h3, ft5], hf'.keep h1 (by simp; omega), _, l1.trans h2, l2.trans h3, h4.mem' hm' hf'⟩
        have hcell13 : ∀ (x : InC C) (i : Nat), x.w.cell? ⟨B, i, none⟩ = #[.int .i64 0, .int .u64 Oa.h, .int .u64 Oa.n][i]? := fun x i => by
          exact blk_cell (hCo _ x.h).1 i
        have hend : ∀ x : InC C, Grew w x.w := fun x => by
          obtain ⟨-, M', -, -, h4⟩ := hCo _ x.h
          exact (h4.fresh hgo.out hFw hbm' hbw').to_grew
        replace hend := Lib.hid hend
        clear hCo hCe hRb hRa hOa hFa hma hCg hgb k13 n13 ft1 ft2 ft5
        have hne : Nonempty (InC C) := ⟨⟨_, hC0⟩⟩
        refine wp_region_cls C (by kernel_rfl) (by kernel_rfl) hC0 ?_
        repeat (go_big_quiet_step ((first | (go_at_call 14; exact quiet_cls (hCal)) | (go_at_call 17; exact quiet_cls (hCd)) | (go_at_call 16; exact quiet_cls (hCof)) | (go_at_call 21; exact quiet_cls (hCl)))))
        refine wpQuiet_nil ?_
        rintro w9 ⟨x9, rfl⟩
        have hend9 := hend.out x9
        clear hend hcell13 hCl hCd hCof hCal hC0 hne
        generalize x9.w = w9 at *
        go_wp2_with fail
        go_ret
        exact ⟨rfl, hend9⟩

      · rw [decide_eq_false hk5] at hd
        go_wp2_with fail
        refine (oDone_calls wr Fr1 b O hOr).mono ?_
        rintro e wr' ⟨rfl, rfl⟩
        rw [hd]
        go_wp2_with fail
        · refine (of9_calls _ _ _).mono ?_
          rintro e wq ⟨rfl, hgq⟩
          go_wp2_with fail
          have h16 : ((16 * (now + 1) : Nat) : Int) = 16 * ((now : Int) + 1) := by simp
          have hst := Store_calls wq bm bw M 1 0 (16 * (now + 1)) (hmr.grew hgq) (by unfold U64; omega)
          rw [h16] at hst
          refine hst.mono ?_
          rintro e ws ⟨rfl, hms, hfs⟩
          have hR2 := (hR.grew hgq).mem' hms hfs
          have hS2 := hS.out.tick
          go_wp2_with fail
          refine hR2.step_calls.mono ?_
          rintro e wt ⟨rfl, hR3⟩
          obtain ⟨k3, hS3⟩ := hS2.next HC.out
          replace hS3 := Lib.hid hS3
          clear hS2 hR2 hR hmr hOr hms hfs hS hst h16
          go_wp2_with fail
          go_roundw
          case rel => exact ⟨j + 1, now + 1, k3, _, _, by go_num, by go_num, by omega, by omega, hR3, hS3⟩
          case measure => simp [intOf]; omega
        · refine hR.step_calls.mono ?_
          rintro e wt ⟨rfl, hR3⟩
          obtain ⟨k3, hS3⟩ := hS.out.next HC.out
          replace hS3 := Lib.hid hS3
          clear hR hmr hOr hS
          go_wp2_with fail
          go_roundw
          case rel => exact ⟨j + 1, now, k3, _, _, by go_num, rfl, by omega, by omega, hR3, hS3⟩
          case measure => simp [intOf]; omega
    · have : j = n := by omega
      subst this
      go_wp2_with fail
      refine (ends9_calls w4 F b bm bw wr O M 100 hR (by decide)).mono ?_
      rintro e wa ⟨rfl, hRa⟩
      have hSa := Seen.ends HC.out 100 kk O M hS.out (by omega)
      generalize (O.ends 100 M) = R at *
      obtain ⟨cnt, Oa, Ma⟩ := R
      simp only at *
      obtain ⟨ft1, ft2, ft3, ft4, ft5⟩ := hSa.told
      have hRa' := hRa
      obtain ⟨⟨Fa, hOa, hFa⟩, hma, -⟩ := hRa'
      go_wp2_with fail
      refine (oAnswer_calls wa Fa b Oa hOa).mono ?_
      rintro e wb ⟨rfl, hgb⟩
      rw [ft2]
      go_wp2_with fail
      have k13 := alloc_new wb (.cells #[.int .i64 0, .int .u64 Oa.h, .int .u64 Oa.n] 40)
      have hRb : ORun w4 F b bm bw (wb.alloc (.cells #[.int .i64 0, .int .u64 Oa.h, .int .u64 Oa.n] 40)) Oa Ma := (hRa.grew hgb).grew ((Grew.refl wb).alloc _)
      have n13 : bm < wb.heap.size ∧ bw < wb.heap.size := by
        have := hgb.size
        exact ⟨Nat.lt_of_lt_of_le (blk_lt hma.own) this, Nat.lt_of_lt_of_le (blk_lt hma.row) this⟩
      generalize wb.alloc (.cells #[.int .i64 0, .int .u64 Oa.h, .int .u64 Oa.n] 40) = wc at *
      generalize wb.heap.size = B at *
      have hCC : ∃ C : World → Prop, C = fun w' => w'.heap[B]? = some (.cells #[.int .i64 0, .int .u64 Oa.h, .int .u64 Oa.n] 40 (0, 0)) ∧ ∃ M', M'.ws = Ma.ws ∧ M'.c = Ma.c ∧ ORun w4 F b bm bw w' Oa M' := ⟨_, rfl⟩
      obtain ⟨C, hCe⟩ := hCC
      have hCo : ∀ w', C w' → w'.heap[B]? = some (.cells #[.int .i64 0, .int .u64 Oa.h, .int .u64 Oa.n] 40 (0, 0)) ∧ ∃ M', M'.ws = Ma.ws ∧ M'.c = Ma.c ∧ ORun w4 F b bm bw w' Oa M' := by rw [hCe]; exact fun _ h => h
      have hC0 : C wc.drew := by rw [hCe]; exact ⟨drew_blk k13, Ma, rfl, rfl, hRb.grew (Grew.refl wc).drew⟩
      have hCg : ∀ w' w'', C w' → Grew w' w'' → C w'' := by
        rw [hCe]; rintro w' w'' ⟨h1, M', h2, h3, h4⟩ hg
        exact ⟨hg.blk h1, M', h2, h3, h4.grew hg⟩
      have hCal : ∀ w', C w' → Calls Try.prog 14 #[] w' fun e w'' => e = .returned (.bool true) ∧ C w'' := fun w' h => (alive9_calls w').mono fun _ _ ⟨a, hg⟩ => ⟨a, hCg _ _ h hg⟩
      have hCof : ∀ w', C w' → Calls Try.prog 16 #[.int .i64 5, .int .i64 0] w' fun e w'' => e = .returned (.agg #[.int .i64 5, .int .i64 0]) ∧ C w'' := fun w' h => (of9_calls w' 5 0).mono fun _ _ ⟨a, hg⟩ => ⟨a, hCg _ _ h hg⟩
      have hCd : ∀ w', C w' → Calls Try.prog 17 #[.pointer (some ⟨b, 0, none⟩)] w' fun e w'' => e = .returned (.bool true) ∧ C w'' := by
        intro w' h
        have h' := h
        rw [hCe] at h'
        obtain ⟨-, M', -, -, ⟨⟨F', hO', -⟩, -⟩⟩ := h'
        refine (oDone_calls w' F' b Oa hO').mono ?_
        rintro e w'' ⟨rfl, rfl⟩
        exact ⟨by rw [ft1], h⟩
      have hCl : ∀ w', C w' → Calls Try.prog 21 #[.pointer (some ⟨bm, 0, none⟩), .agg #[.int .i64 5, .int .i64 0]] w' fun e w'' => e = .returned (.int .u64 Oa.n) ∧ C w'' := by
        intro w' h
        rw [hCe] at h ⊢
        obtain ⟨h1, M', h2, h3, h4⟩ := h
        refine (Load_calls w' bm bw M' 5 0 h4.mem).mono ?_
        rintro e w'' ⟨rfl, hm', hf'⟩
        obtain ⟨l1, l2⟩ := M'.load_ws h4.mem.wf 5 0
        refine ⟨by rw [M'.load_val, Mem.word_congr h2 h3, ft5], hf'.keep h1 (by simp; omega), _, l1.trans h2, l2.trans h3, h4.mem' hm' hf'⟩
      have hcell13 : ∀ (x : InC C) (i : Nat), x.w.cell? ⟨B, i, none⟩ = #[.int .i64 0, .int .u64 Oa.h, .int .u64 Oa.n][i]? := fun x i => by
        exact blk_cell (hCo _ x.h).1 i
      have hend : ∀ x : InC C, Grew w x.w := fun x => by
        obtain ⟨-, M', -, -, h4⟩ := hCo _ x.h
        exact (h4.fresh hgo.out hFw hbm' hbw').to_grew
      replace hend := Lib.hid hend
      clear hCo hCe hRb hRa hOa hFa hma hCg hgb k13 n13 ft1 ft2 ft5
      have hne : Nonempty (InC C) := ⟨⟨_, hC0⟩⟩
      refine wp_region_cls C (by kernel_rfl) (by kernel_rfl) hC0 ?_
      repeat (go_big_quiet_step ((first | (go_at_call 14; exact quiet_cls (hCal)) | (go_at_call 17; exact quiet_cls (hCd)) | (go_at_call 16; exact quiet_cls (hCof)) | (go_at_call 21; exact quiet_cls (hCl)))))
      refine wpQuiet_nil ?_
      rintro w9 ⟨x9, rfl⟩
      have hend9 := hend.out x9
      clear hend hcell13 hCl hCd hCof hCal hC0 hne
      generalize x9.w = w9 at *
      go_wp2_with fail
      go_ret
      exact ⟨rfl, hend9⟩


theorem seen_calls (w : World) (t s k g : Int) (q seq : Nat) (p : Option Addr) (n cap : Nat) (zs : Nat → Int) (hn : n ≤ 9223372036854775807) (hz : IntsAt w p n zs) :
    Calls Try.prog 3 #[.agg #[.int .i64 t, .int .i64 s, .int .i64 k, .int .i64 g, .int .u64 q], .int .u64 seq, .slice p n cap] w fun e w' => e = .returned (.bool true) ∧ Grew w w' := by
  cases hr : rightB t s k g q with
  | false => exact seen_wrong w t s k g q seq _ hr
  | true =>
    unfold rightB at hr
    rw [decide_eq_true_eq] at hr
    obtain ⟨h1, h2, h3, h4, h5, h6, h7, h8, h9⟩ := hr
    obtain ⟨t, rfl⟩ := Int.eq_ofNat_of_zero_le (show 0 ≤ t by omega)
    obtain ⟨s, rfl⟩ := Int.eq_ofNat_of_zero_le (show 0 ≤ s by omega)
    obtain ⟨k, rfl⟩ := Int.eq_ofNat_of_zero_le (show 0 ≤ k by omega)
    obtain ⟨g, rfl⟩ := Int.eq_ofNat_of_zero_le h7
    have hc : (Cfg.mk t s k g q).Ok := ⟨by simp only; omega, by simp only; omega, by simp only; omega, by simp only; omega, by simp only; omega, by simp only; omega, by simp only; omega, h9⟩
    by_cases hl : 50 < n ∨ (n ≤ 50 ∧ 1000 < seq)
    · exact seen_long w ⟨t, s, k, g, q⟩ seq p n cap hc hn hl
    · exact seen_main w ⟨t, s, k, g, q⟩ seq p n cap zs hc (by omega) (by omega) hz
end Go.Proofs.Ytabkdmcmfecokaa
