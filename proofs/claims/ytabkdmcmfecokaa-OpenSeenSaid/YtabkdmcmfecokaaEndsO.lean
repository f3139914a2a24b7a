/- The walks of the laws of layer 9: a beginning's whole run. -/
import Derived.Test.YtabkdmcmfecokaaRows
import Derived.Test.YtabkdmcmfecokaaRefB
import Derived.Test.YtabkdmcmfecokaaOpenC
import Derived.LoopTactic
namespace Go.Proofs.Ytabkdmcmfecokaa
open Go Go.RowKit

theorem Fr.then {S S1 : List Nat} {a b c : World} (h : Fr S a b) (k : Fr S1 b c) (hs : ∀ x ∈ S1, x ∈ S ∨ a.heap.size ≤ x) : Fr S a c :=
  ⟨k.os.trans h.os, k.tape.trans h.tape, k.output.trans h.output, Nat.le_trans h.size k.size, fun i hi hS => by
    rw [k.heap i (Nat.lt_of_lt_of_le hi h.size) fun h1 => (hs i h1).elim hS (fun h' => by omega)]
    exact h.heap i hi hS⟩
/-- A beginning and its memory, as they have come from 'W'. -/
structure ORun (W : World) (F0 : List Nat) (b bm bw : Nat) (w : World) (O : Opn) (M : Mem) : Prop where
  ex : ∃ F, OpnAt w F b O ∧ ∀ x ∈ F, x ∈ F0 ∨ W.heap.size ≤ x
  mem : MemAt w bm bw M
  fr : Fr (F0 ++ [bm, bw]) W w
  m : bm ∉ F0
  w : bw ∉ F0
  mi : bm < W.heap.size
  wi : bw < W.heap.size
theorem ORun.start {W : World} {F : List Nat} {b bm bw : Nat} {O : Opn} {M : Mem} (h : OpnAt W F b O) (hM : MemAt W bm bw M) (h1 : bm ∉ F) (h2 : bw ∉ F) : ORun W F b bm bw W O M :=
  ⟨⟨F, h, fun _ hx => .inl hx⟩, hM, Fr.refl _ _, h1, h2, blk_lt hM.own, blk_lt hM.row⟩
theorem ORun.step_calls {W : World} {F0 : List Nat} {b bm bw : Nat} {w : World} {O : Opn} {M : Mem} (h : ORun W F0 b bm bw w O M) :
    Calls Try.prog 18 #[.pointer (some ⟨b, 0, none⟩), .pointer (some ⟨bm, 0, none⟩)] w fun e w' => e = .returned (.tuple #[]) ∧ ORun W F0 b bm bw w' (O.step M).1 (O.step M).2 := by
  obtain ⟨⟨F, hO, hF⟩, hM, hf, h1, h2, h3, h4⟩ := h
  have n1 : bm ∉ F := fun hx => (hF _ hx).elim h1 (fun h' => by omega)
  have n2 : bw ∉ F := fun hx => (hF _ hx).elim h2 (fun h' => by omega)
  refine (oStep_calls w F b bm bw O M hO hM n1 n2).mono ?_
  rintro e w' ⟨rfl, F', k1, k2, k3, k4⟩
  have hs := hf.size
  refine ⟨rfl, ⟨F', k1, fun x hx => (k4 x hx).elim (hF x) (fun h' => .inr (by omega))⟩, k2, hf.then k3 fun x hx => ?_, h1, h2, h3, h4⟩
  rcases List.mem_append.1 hx with h | h
  · exact (hF x h).imp (List.mem_append_left _) id
  · exact .inl (List.mem_append_right _ h)
theorem ORun.grew {W : World} {F0 : List Nat} {b bm bw : Nat} {w w' : World} {O : Opn} {M : Mem} (h : ORun W F0 b bm bw w O M) (hg : Grew w w') : ORun W F0 b bm bw w' O M := by
  obtain ⟨⟨F, hO, hF⟩, hM, hf, h1, h2, h3, h4⟩ := h
  obtain ⟨⟨bc, aid, a1, a2, a3, a4, a5, a6⟩, b1, b2, b3, b4, b5⟩ := hO
  refine ⟨⟨F, ⟨⟨bc, aid, hg.blk a1, hg.blk a2, a3, a4, a5, fun x y => ?_⟩, b1, b2, b3, fun x hx => Nat.lt_of_lt_of_le (b4 x hx) hg.size, b5⟩, hF⟩, hM.grew hg, hf.grew hg, h1, h2, h3, h4⟩
  obtain ⟨ba, c1, c2, c3⟩ := a6 x y
  exact ⟨ba, c1, ⟨hg.blk c2.own, c2.w, c2.s⟩, c3⟩
/-- Its whole run: how many steps there were. -/
def Opn.ends : Nat → Opn → Mem → Nat × Opn × Mem
  | 0, O, M => (0, O, M)
  | f + 1, O, M => if O.done then (0, O, M) else let r := Opn.ends f (O.step M).1 (O.step M).2; (r.1 + 1, r.2)

set_option maxRecDepth 10000 in
set_option maxHeartbeats 400000 in
theorem ends9_calls (W : World) (F0 : List Nat) (b bm bw : Nat) (w : World) (O : Opn) (M : Mem) (most : Nat) (h : ORun W F0 b bm bw w O M) (hm : most ≤ 1000) :
    Calls Try.prog 19 #[.pointer (some ⟨b, 0, none⟩), .pointer (some ⟨bm, 0, none⟩), .int .i64 most] w fun e w' => e = .returned (.int .i64 (O.ends most M).1) ∧
      ORun W F0 b bm bw w' (O.ends most M).2.1 (O.ends most M).2.2 := by
  have hE : ∃ E, O.ends most M = E := ⟨_, rfl⟩
  obtain ⟨E, hE⟩ := hE
  rw [hE]
  have HE := Lib.hid hE
  clear hE
  go_enter Try.func19, Try.ntmps19
  go_wp2_with fail
  go_loopw [9] (fun i wr => ∃ (k : Nat) (O1 : Opn) (M1 : Mem), i = .int .i64 k ∧ k ≤ most ∧ ORun W F0 b bm bw wr O1 M1 ∧ Hid (((O1.ends (most - k) M1).1 + k, (O1.ends (most - k) M1).2) = E)) (fun i _ => most - (intOf i).toNat)
  case atStart => exact ⟨0, O, M, rfl, Nat.zero_le _, h, Lib.hid (by simpa using HE.out)⟩
  case round =>
    obtain ⟨k, O1, M1, rfl, hk, hR, hE⟩ := hrel
    clear h HE
    rcases Nat.lt_or_ge k most with hlt | hge
    · obtain ⟨f, hf⟩ : ∃ f, most - k = f + 1 := ⟨most - k - 1, by omega⟩
      rw [hf] at hE
      have hR' := hR
      obtain ⟨⟨F, hO, hF⟩, -⟩ := hR'
      cases hd : O1.done
      · have HS := Lib.hid hR.step_calls
        have hE2 : Hid ((((O1.step M1).1.ends (most - (k + 1)) (O1.step M1).2).1 + (k + 1), ((O1.step M1).1.ends (most - (k + 1)) (O1.step M1).2).2) = E) := Lib.hid (by
          have := hE.out
          simp only [Opn.ends, hd, Bool.false_eq_true, if_false] at this
          rw [show most - (k + 1) = f by omega, ← this]
          simp; omega)
        clear hE hf
        go_wp2_with fail
        refine (oDone_calls _ F b O1 hO).mono ?_
        rintro e w1 ⟨rfl, rfl⟩
        rw [hd]
        go_wp2_with fail
        refine HS.out.mono ?_
        rintro e w2 ⟨rfl, hR2⟩
        go_wp2_with fail
        go_roundw
        case rel => exact ⟨k + 1, _, _, by go_num, by omega, hR2, hE2⟩
        case measure => simp [intOf]; omega
      · have hE2 := hE.out
        simp only [Opn.ends, hd, if_true] at hE2
        clear hE hf
        have hE3 := Lib.hid hE2
        clear hE2
        go_wp2_with fail
        refine (oDone_calls _ F b O1 hO).mono ?_
        rintro e w1 ⟨rfl, rfl⟩
        rw [hd]
        go_wp2_with fail
        go_ret
        rw [← hE3.out]
        exact ⟨ret_int (by simp), hR⟩
    · have : k = most := by omega
      subst this
      have hE2 := hE.out
      simp only [Nat.sub_self, Opn.ends] at hE2
      have hE3 := Lib.hid hE2
      clear hE hE2
      go_wp2_with fail
      go_ret
      rw [← hE3.out]
      exact ⟨ret_int (by simp), hR⟩

set_option maxHeartbeats 400000 in
theorem of9_calls (w : World) (kind slot : Int) :
    Calls Try.prog 16 #[.int .i64 kind, .int .i64 slot] w fun e w' => e = .returned (.agg #[.int .i64 kind, .int .i64 slot]) ∧ Grew w w' := by
  go_enter Try.func16, Try.ntmps16
  go_wp2_with fail
  refine bodyPost_ret (v := .agg #[.int .i64 kind, .int .i64 slot]) ?_ rfl ⟨rfl, (by (repeat (first | with_reducible exact Grew.refl _ | with_reducible refine Grew.alloc ?_ _ | with_reducible refine Grew.drew ?_ | with_reducible refine Grew.drewN ?_ _ | with_reducible refine Grew.plus ?_ _ _ | (with_reducible refine Grew.setCell ?_ ?_ _; rotate_left; first | omega | (simp only [World.size_alloc, World.size_setCell, World.size_drew, size_plus] at *; omega)))))⟩
  simp [results, Try.results16, go_sem]
end Go.Proofs.Ytabkdmcmfecokaa
