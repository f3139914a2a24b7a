/- The walks of package status. -/
import Derived.Test.YtabkdmcmfecokaaRows
import Derived.Test.YtabkdmcmfecokaaKit
import Derived.Test.YtabkdmcmfecokaaWords
namespace Go.Proofs.Ytabkdmcmfecokaa
open Go Go.RowKit

/-- The closure that takes 'm' bits from bit 'k' on, in this world; what it captured lies from block 'n0' on. -/
def IsPart (n0 k m : Nat) (v : Value) (w : World) : Prop := ∃ b1 b2 : Nat, v = .func (.func 129) #[] #[.pointer (some ⟨b1, 0, none⟩), .pointer (some ⟨b2, 0, none⟩)] ∧
  w.cell? ⟨b1, 0, none⟩ = some (.int .i64 k) ∧ w.cell? ⟨b2, 0, none⟩ = some (.int .i64 m) ∧ n0 ≤ b1 ∧ n0 ≤ b2 ∧ b1 < w.heap.size ∧ b2 < w.heap.size
theorem cell_of_heap {w w' : World} {b i : Nat} (h : w'.heap[b]? = w.heap[b]?) : w'.cell? ⟨b, i, none⟩ = w.cell? ⟨b, i, none⟩ := by simp only [World.cell?, h]
theorem IsPart.fr {n0 k m : Nat} {S : List Nat} {v : Value} {w w' : World} (h : IsPart n0 k m v w) (hg : Fr S w w') (hS : ∀ x ∈ S, x < n0) : IsPart n0 k m v w' := by
  obtain ⟨b1, b2, rfl, h1, h2, h3, h4, h5, h6⟩ := h
  have n1 : b1 ∉ S := fun e => by have := hS _ e; omega
  have n2 : b2 ∉ S := fun e => by have := hS _ e; omega
  exact ⟨b1, b2, rfl, by rw [cell_of_heap (hg.heap b1 h5 n1)]; exact h1, by rw [cell_of_heap (hg.heap b2 h6 n2)]; exact h2, h3, h4, Nat.lt_of_lt_of_le h5 hg.size, Nat.lt_of_lt_of_le h6 hg.size⟩

set_option maxHeartbeats 400000 in
theorem part1_calls (x k m : Nat) (b1 b2 : Nat) (w : World) (hx : U64 x) (hk : k ≤ 31) (hm : m ≤ 32)
    (h1 : w.cell? ⟨b1, 0, none⟩ = some (.int .i64 k)) (h2 : w.cell? ⟨b2, 0, none⟩ = some (.int .i64 m)) :
    Calls Try.prog 129 #[.int .u64 x, .pointer (some ⟨b1, 0, none⟩), .pointer (some ⟨b2, 0, none⟩)] w fun e w' => e = .returned (.int .i64 (fld x k m : Nat)) ∧ Grew w w' := by
  go_enter Try.func129, Try.ntmps129
  go_wp2
  go_quiet (fail)
  go_wp2
  go_ret
  exact ⟨by rw [← part_val x k m hx hm]; rfl, (Grew.refl w).drewN _⟩

set_option maxHeartbeats 400000 in
theorem part_calls (n0 k m : Nat) (w : World) (hn : n0 ≤ w.heap.size) :
    Calls Try.prog 117 #[.int .i64 k, .int .i64 m] w fun e w' => ∃ v, e = .returned v ∧ IsPart n0 k m v w' ∧ Grew w w' := by
  go_enter Try.func117, Try.ntmps117
  go_wp2
  go_ret
  exact ⟨_, rfl, ⟨_, _, rfl, by simp, by simp, by omega, by omega, by simp; omega, by simp⟩, ((Grew.refl w).alloc _).alloc _⟩

def Phi1 (n0 x k : Nat) (j : Nat) (v : Value) (W : World) : Prop := match j with
  | 0 => v = .int .i64 k | 1 => IsPart n0 k 1 v W | 2 => v = .int .u64 x | 3 => v = .int .i64 (fld x k 1 : Nat) | _ => v = .bool (fld x k 1 == 1)

theorem calls_inv {P : Program} {f : FuncId} {args : Array Value} {w : World} {R R' : Ending → World → Prop} (h : Calls P f args w R) (hr : ∀ e w', R e w' → R' e w') : Calls P f args w R' := h.mono hr

set_option maxHeartbeats 400000 in
theorem Unpack1_calls (x k : Nat) (b : Nat) (w : World) (hx : U64 x) (hk : k ≤ 31) (hb : w.cell? ⟨b, 0, none⟩ = some (.int .u64 x)) (hlt : b < w.heap.size) :
    Calls Try.prog 116 #[.int .i64 k, .pointer (some ⟨b, 0, none⟩)] w fun e w' => e = .returned (.bool (fld x k 1 == 1)) ∧ Grew w w' := by
  go_enter Try.func116, Try.ntmps116
  go_wp2_with fail
  refine wp_region_inv (C := Grew w) (R := Grew) (Phi1 0 x k) (by kernel_rfl) (by kernel_rfl) ?_ ((Grew.refl _).drew) ?_ ?_
  · intro j v W W' hR h
    rcases j with _|_|_|_|_ <;> first | exact h | exact IsPart.fr h (Fr.of_grew (S := []) hR) (fun _ h => by cases h)
  · intro i o ho a W hC hs hoth hd
    rcases i with _|_|_|_|_|_|i <;> simp at ho <;> subst ho <;> simp [Phi1, slotOf] at hd
    · have e0 := hoth 0 (by rfl)
      clear hoth hs
      simp at e0
      go_simp
      first | exact ⟨_, rfl, rfl, hC, Grew.refl _⟩ | exact ⟨_, rfl, rfl, Grew.refl _⟩
    · clear hoth hs
      go_simp
      refine (part_calls 0 k 1 W (Nat.zero_le _)).mono ?_
      rintro e w' ⟨v, rfl, hv, hg⟩
      first | exact ⟨v, rfl, hv, hC.trans hg, hg⟩ | exact ⟨v, rfl, hv, hg⟩
    · have e0 := hoth 1 (by rfl)
      clear hoth hs
      simp at e0
      have e1 : W.cell? ⟨b, 0, none⟩ = some (.int .u64 x) := by obtain ⟨os, n, rfl⟩ := hC; rw [cell_plus _ _ _ _ _ hlt]; exact hb
      go_simp
      first | exact ⟨_, rfl, rfl, hC, Grew.refl _⟩ | exact ⟨_, rfl, rfl, Grew.refl _⟩
    · clear hoth hs
      obtain ⟨⟨b1, b2, hv, g1, g2, -, -, g3, g4⟩, e0, -⟩ := hd
      go_simp
      refine (part1_calls x k 1 b1 b2 W hx hk (by omega) g1 g2).mono ?_
      rintro e w' ⟨rfl, hg⟩
      exact ⟨_, rfl, rfl, hC.trans hg, hg⟩
    · clear hoth hs
      go_simp
      have e1 : ((fld x k 1 : Nat) : Int) = 1 ↔ fld x k 1 = 1 := by omega
      have e2 : (((fld x k 1 : Nat) : Int) == 1) = (fld x k 1 == 1) := by rw [Bool.eq_iff_iff]; simpa using e1
      first | exact ⟨_, rfl, by rw [e2]; rfl, hC, Grew.refl _⟩ | exact ⟨_, rfl, by rw [e2]; rfl, Grew.refl _⟩
    · obtain ⟨e0, -⟩ := hd
      clear hoth hs
      go_simp
      first | exact ⟨_, rfl, rfl, hC, Grew.refl _⟩ | exact ⟨_, rfl, rfl, Grew.refl _⟩
  · intro a W hC hs hdf hoth hd
    have h5 := hd 5 _ rfl
    simp only [Phi1, slotOf] at h5
    have ea : a = { tmps := #[a.tmps.getD 0 undef, a.tmps.getD 1 undef, a.tmps.getD 2 undef, a.tmps.getD 3 undef, a.tmps.getD 4 undef, a.tmps.getD 5 undef, a.tmps.getD 6 undef, a.tmps.getD 7 undef, a.tmps.getD 8 undef], defers := [] } := frame_lit (n := 9) hs hdf
    have H := Lib.hid hC
    clear hC hoth hd hs hdf
    rw [h5] at ea
    rw [ea]
    go_wp2
    go_ret
    exact ⟨rfl, H.out⟩

def Phi2 (n0 B : Nat) (x b : Nat) (j : Nat) (v : Value) (W : World) : Prop := match j with
  | 0 => IsPart n0 30 32 v W | 1 => v = .int .u64 x | 2 => v = .int .i64 (stGen x : Nat)
  | 3 => IsPart n0 27 3 v W | 4 => v = .int .u64 x | 5 => v = .int .i64 (stState x : Nat)
  | 6 => v = .func (.func 116) #[] #[.pointer (some ⟨b, 0, none⟩)] | 7 => v = .bool (stBusy x)
  | 8 => v = .func (.func 116) #[] #[.pointer (some ⟨b, 0, none⟩)] | 9 => v = .bool (fld x 25 1 == 1)
  | 10 => v = .func (.func 116) #[] #[.pointer (some ⟨b, 0, none⟩)] | 11 => v = .bool (fld x 24 1 == 1)
  | 12 => IsPart n0 12 12 v W | 13 => v = .int .u64 x | 14 => v = .int .i64 (stIn x : Nat)
  | 15 => IsPart n0 0 12 v W | 16 => v = .int .u64 x | 17 => v = .int .i64 (stOut x : Nat)
  | 18 => v = .agg #[.int .i64 (stGen x : Nat), .int .i64 (stState x : Nat), .bool (stBusy x), .bool (fld x 25 1 == 1), .bool (fld x 24 1 == 1), .int .i64 (stIn x : Nat), .int .i64 (stOut x : Nat)]
  | _ => W.heap[B]? = some (.cells #[.int .i64 (stGen x : Nat), .int .i64 (stState x : Nat), .bool (stBusy x), .bool (fld x 25 1 == 1), .bool (fld x 24 1 == 1), .int .i64 (stIn x : Nat), .int .i64 (stOut x : Nat)] 159 (0, 0))

/-- The worlds of the region of Unpack: but for the result's own cells nothing has turned. -/
def UC (b : Nat) (w2 W : World) : Prop := Fr [b + 1] w2 W ∧ ∃ cs : List Value, cs.length = 7 ∧ W.heap[b + 1]? = some (.cells cs.toArray 159 (0, 0))
theorem UC.grew {b : Nat} {w2 W W' : World} (h : UC b w2 W) (hg : Grew W W') : UC b w2 W' := by
  obtain ⟨h1, cs, h2, h3⟩ := h
  exact ⟨h1.grew hg, cs, h2, (hg.heap (blk_lt h3)).trans h3⟩

/-- What a step of that region leaves as it was. -/
def UR (b x : Nat) (W W' : World) : Prop := Fr [b + 1] W W' ∧ (W.heap[b + 1]? = some (.cells #[.int .i64 (stGen x : Nat), .int .i64 (stState x : Nat), .bool (stBusy x), .bool (fld x 25 1 == 1), .bool (fld x 24 1 == 1), .int .i64 (stIn x : Nat), .int .i64 (stOut x : Nat)] 159 (0, 0)) → W'.heap[b + 1]? = some (.cells #[.int .i64 (stGen x : Nat), .int .i64 (stState x : Nat), .bool (stBusy x), .bool (fld x 25 1 == 1), .bool (fld x 24 1 == 1), .int .i64 (stIn x : Nat), .int .i64 (stOut x : Nat)] 159 (0, 0)))
theorem UR.refl (b x : Nat) (W : World) : UR b x W W := ⟨Fr.refl _ _, id⟩
theorem UR.of_grew (b x : Nat) {W W' : World} (h : Grew W W') : UR b x W W' := ⟨Fr.of_grew h, fun h' => (h.heap (blk_lt h')).trans h'⟩

set_option maxRecDepth 20000 in
set_option maxHeartbeats 1000000 in
theorem Unpack_calls (x : Nat) (w : World) (hx : U64 x) :
    Calls Try.prog 88 #[.int .u64 x] w fun e w' => e = .returned (.agg #[.int .i64 (stGen x : Nat), .int .i64 (stState x : Nat), .bool (stBusy x), .bool (fld x 25 1 == 1), .bool (fld x 24 1 == 1), .int .i64 (stIn x : Nat), .int .i64 (stOut x : Nat)]) ∧ Grew w w' := by
  go_enter Try.func88, Try.ntmps88
  go_wp2_with fail
  generalize hw2 : ((w.alloc (Obj.cells #[Value.int IntKind.u64 (x : Int)] 22)).alloc (Obj.cells #[Value.int IntKind.i64 0, Value.int IntKind.i64 0, Value.bool false, Value.bool false, Value.bool false, Value.int IntKind.i64 0, Value.int IntKind.i64 0] 159)) = w2
  have hg2 : Grew w w2 := by rw [← hw2]; exact ((Grew.refl w).alloc _).alloc _
  have hs2 : w2.heap.size = w.heap.size + 2 := by rw [← hw2]; simp
  have hb2 : w2.cell? ⟨w.heap.size, 0, none⟩ = some (.int .u64 x) := by rw [← hw2]; simp
  have hB2 : w2.heap[w.heap.size + 1]? = some (.cells #[Value.int IntKind.i64 0, Value.int IntKind.i64 0, Value.bool false, Value.bool false, Value.bool false, Value.int IntKind.i64 0, Value.int IntKind.i64 0] 159 (0, 0)) := by rw [← hw2]; exact heap_alloc_at _ _ _ (by simp)
  clear hw2
  have hbb : ∃ b, w.heap.size = b := ⟨_, rfl⟩
  obtain ⟨b, hb⟩ := hbb
  rw [hb] at hs2 hb2 hB2 ⊢
  refine wp_region_inv (C := UC b w2) (R := UR b x) (Phi2 (b + 2) (b + 1) x b) (by kernel_rfl) (by kernel_rfl) ?_ ⟨(Fr.refl _ _).drew, _, by rfl, hB2⟩ ?_ ?_
  · intro j v W W' hR h
    rcases j with _|_|_|_|_|_|_|_|_|_|_|_|_|_|_|_|_|_|_|j <;> first | exact h | exact IsPart.fr h hR.1 (by simp) | exact hR.2 h
  · intro i o ho a W hC hs hoth hd
    have hbW : W.cell? ⟨b, 0, none⟩ = some (.int .u64 x) := by rw [cell_of_heap (hC.1.heap b (by omega) (by simp))]; exact hb2
    have hsz : b + 2 ≤ W.heap.size := by have := hC.1.size; omega
    have HC := Lib.hid hC
    clear hC
    rcases i with _|_|_|_|_|_|_|_|_|_|_|_|_|_|_|_|_|_|_|_|i <;> simp at ho <;> subst ho <;> simp [Phi2, slotOf] at hd
    · clear hoth hs
      go_simp
      refine (part_calls (b + 2) 30 32 W hsz).mono ?_
      rintro e w' ⟨v, rfl, hv, hg⟩
      exact ⟨v, rfl, hv, HC.out.grew hg, UR.of_grew b x hg⟩
    · have e0 := hoth 1 (by rfl)
      clear hoth hs
      simp at e0
      go_simp
      exact ⟨_, rfl, rfl, HC.out, UR.refl b x _⟩
    · clear hoth hs
      obtain ⟨⟨b1, b2, hv, g1, g2, -, -, g3, g4⟩, e0, -⟩ := hd
      go_simp
      refine (part1_calls x 30 32 b1 b2 W hx (by omega) (by omega) g1 g2).mono ?_
      rintro e w' ⟨rfl, hg⟩
      exact ⟨_, rfl, rfl, HC.out.grew hg, UR.of_grew b x hg⟩
    · clear hoth hs
      go_simp
      refine (part_calls (b + 2) 27 3 W hsz).mono ?_
      rintro e w' ⟨v, rfl, hv, hg⟩
      exact ⟨v, rfl, hv, HC.out.grew hg, UR.of_grew b x hg⟩
    · have e0 := hoth 1 (by rfl)
      clear hoth hs
      simp at e0
      go_simp
      exact ⟨_, rfl, rfl, HC.out, UR.refl b x _⟩
    · clear hoth hs
      obtain ⟨⟨b1, b2, hv, g1, g2, -, -, g3, g4⟩, e0, -⟩ := hd
      go_simp
      refine (part1_calls x 27 3 b1 b2 W hx (by omega) (by omega) g1 g2).mono ?_
      rintro e w' ⟨rfl, hg⟩
      exact ⟨_, rfl, rfl, HC.out.grew hg, UR.of_grew b x hg⟩
    · have e0 := hoth 3 (by rfl)
      clear hoth hs
      simp at e0
      go_simp
      exact ⟨_, rfl, rfl, HC.out, UR.refl b x _⟩
    · clear hoth hs
      try obtain ⟨hd, -⟩ := hd
      go_simp
      refine (Unpack1_calls x 26 b W hx (by omega) hbW (by omega)).mono ?_
      rintro e w' ⟨rfl, hg⟩
      exact ⟨_, rfl, rfl, HC.out.grew hg, UR.of_grew b x hg⟩
    · have e0 := hoth 3 (by rfl)
      clear hoth hs
      simp at e0
      go_simp
      exact ⟨_, rfl, rfl, HC.out, UR.refl b x _⟩
    · clear hoth hs
      try obtain ⟨hd, -⟩ := hd
      go_simp
      refine (Unpack1_calls x 25 b W hx (by omega) hbW (by omega)).mono ?_
      rintro e w' ⟨rfl, hg⟩
      exact ⟨_, rfl, rfl, HC.out.grew hg, UR.of_grew b x hg⟩
    · have e0 := hoth 3 (by rfl)
      clear hoth hs
      simp at e0
      go_simp
      exact ⟨_, rfl, rfl, HC.out, UR.refl b x _⟩
    · clear hoth hs
      try obtain ⟨hd, -⟩ := hd
      go_simp
      refine (Unpack1_calls x 24 b W hx (by omega) hbW (by omega)).mono ?_
      rintro e w' ⟨rfl, hg⟩
      exact ⟨_, rfl, rfl, HC.out.grew hg, UR.of_grew b x hg⟩
    · clear hoth hs
      go_simp
      refine (part_calls (b + 2) 12 12 W hsz).mono ?_
      rintro e w' ⟨v, rfl, hv, hg⟩
      exact ⟨v, rfl, hv, HC.out.grew hg, UR.of_grew b x hg⟩
    · have e0 := hoth 1 (by rfl)
      clear hoth hs
      simp at e0
      go_simp
      exact ⟨_, rfl, rfl, HC.out, UR.refl b x _⟩
    · clear hoth hs
      obtain ⟨⟨b1, b2, hv, g1, g2, -, -, g3, g4⟩, e0, -⟩ := hd
      go_simp
      refine (part1_calls x 12 12 b1 b2 W hx (by omega) (by omega) g1 g2).mono ?_
      rintro e w' ⟨rfl, hg⟩
      exact ⟨_, rfl, rfl, HC.out.grew hg, UR.of_grew b x hg⟩
    · clear hoth hs
      go_simp
      refine (part_calls (b + 2) 0 12 W hsz).mono ?_
      rintro e w' ⟨v, rfl, hv, hg⟩
      exact ⟨v, rfl, hv, HC.out.grew hg, UR.of_grew b x hg⟩
    · have e0 := hoth 1 (by rfl)
      clear hoth hs
      simp at e0
      go_simp
      exact ⟨_, rfl, rfl, HC.out, UR.refl b x _⟩
    · clear hoth hs
      obtain ⟨⟨b1, b2, hv, g1, g2, -, -, g3, g4⟩, e0, -⟩ := hd
      go_simp
      refine (part1_calls x 0 12 b1 b2 W hx (by omega) (by omega) g1 g2).mono ?_
      rintro e w' ⟨rfl, hg⟩
      exact ⟨_, rfl, rfl, HC.out.grew hg, UR.of_grew b x hg⟩
    · obtain ⟨e0, e1, e2, e3, e4, e5, e6⟩ := hd
      clear hoth hs
      go_simp
      exact ⟨_, rfl, by rfl, HC.out, UR.refl b x _⟩
    · have e0 := hoth 2 (by rfl)
      obtain ⟨e1, -⟩ := hd
      clear hoth hs
      simp at e0
      obtain ⟨hF, cs, hcs, hBW⟩ := HC.out
      obtain ⟨c0, c1, c2, c3, c4, c5, c6, rfl⟩ : ∃ c0 c1 c2 c3 c4 c5 c6, cs = [c0, c1, c2, c3, c4, c5, c6] := by
        rcases cs with _|⟨c0, _|⟨c1, _|⟨c2, _|⟨c3, _|⟨c4, _|⟨c5, _|⟨c6, _|⟨c7, cs⟩⟩⟩⟩⟩⟩⟩⟩ <;> simp at hcs
        exact ⟨c0, c1, c2, c3, c4, c5, c6, rfl⟩
      obtain ⟨f1, f2, f3⟩ := blk_facts hBW
      have HF := Lib.hid hF
      have HBW := Lib.hid hBW
      clear hF hBW
      go_simp
      have hF2 : ∀ v0 v1 v2 v3 v4 v5 v6, Fr [b + 1] W (((((((W.setCell ⟨b + 1, 0, none⟩ v0).setCell ⟨b + 1, 1, none⟩ v1).setCell ⟨b + 1, 2, none⟩ v2).setCell ⟨b + 1, 3, none⟩ v3).setCell ⟨b + 1, 4, none⟩ v4).setCell ⟨b + 1, 5, none⟩ v5).setCell ⟨b + 1, 6, none⟩ v6) := fun v0 v1 v2 v3 v4 v5 v6 =>
        (((((((Fr.refl _ _).setCell _ _ _ (.inl (by simp))).setCell _ _ _ (.inl (by simp))).setCell _ _ _ (.inl (by simp))).setCell _ _ _ (.inl (by simp))).setCell _ _ _ (.inl (by simp))).setCell _ _ _ (.inl (by simp))).setCell _ _ _ (.inl (by simp))
      have hh : ∀ v0 v1 v2 v3 v4 v5 v6, (((((((W.setCell ⟨b + 1, 0, none⟩ v0).setCell ⟨b + 1, 1, none⟩ v1).setCell ⟨b + 1, 2, none⟩ v2).setCell ⟨b + 1, 3, none⟩ v3).setCell ⟨b + 1, 4, none⟩ v4).setCell ⟨b + 1, 5, none⟩ v5).setCell ⟨b + 1, 6, none⟩ v6).heap[b + 1]? = some (.cells #[v0, v1, v2, v3, v4, v5, v6] 159 (0, 0)) := fun v0 v1 v2 v3 v4 v5 v6 => by
        simp only [heap_setCell, if_true, HBW.out, Option.map_some, Obj.put]; rfl
      exact ⟨⟨undef, hh _ _ _ _ _ _ _⟩, ⟨HF.out.trans (hF2 _ _ _ _ _ _ _), _, by rfl, hh _ _ _ _ _ _ _⟩, hF2 _ _ _ _ _ _ _, fun _ => hh _ _ _ _ _ _ _⟩
  · intro a W hC hs hdf hoth hd
    have h19 := hd 19 _ rfl
    have e2 := hoth 2 (by rfl)
    simp only [Phi2] at h19
    have ea : a = { tmps := #[a.tmps.getD 0 undef, a.tmps.getD 1 undef, a.tmps.getD 2 undef, a.tmps.getD 3 undef, a.tmps.getD 4 undef, a.tmps.getD 5 undef, a.tmps.getD 6 undef, a.tmps.getD 7 undef, a.tmps.getD 8 undef, a.tmps.getD 9 undef, a.tmps.getD 10 undef, a.tmps.getD 11 undef, a.tmps.getD 12 undef, a.tmps.getD 13 undef, a.tmps.getD 14 undef, a.tmps.getD 15 undef, a.tmps.getD 16 undef, a.tmps.getD 17 undef, a.tmps.getD 18 undef, a.tmps.getD 19 undef, a.tmps.getD 20 undef, a.tmps.getD 21 undef, a.tmps.getD 22 undef, a.tmps.getD 23 undef], defers := [] } := frame_lit (n := 24) hs hdf
    have H : Grew w W := (((Fr.of_grew (S := [b + 1]) hg2).trans hC.1).mono fun x hx => .inr (by simp at hx; omega)).to_grew
    have HG := Lib.hid H
    clear H
    clear hC hoth hd hs hdf
    rw [e2] at ea
    rw [ea]
    clear ea e2
    obtain ⟨f1, f2, f3⟩ := blk_facts h19
    clear h19 hg2 hB2 hb2 hs2 hb
    go_wp2
    exact bodyPost_ret (v := .agg #[.int .i64 (stGen x : Nat), .int .i64 (stState x : Nat), .bool (stBusy x), .bool (fld x 25 1 == 1), .bool (fld x 24 1 == 1), .int .i64 (stIn x : Nat), .int .i64 (stOut x : Nat)]) (by simp [results, Try.results88, go_sem, f1]) rfl ⟨rfl, HG.out⟩
set_option maxHeartbeats 400000 in
theorem bit_calls (b : Bool) (w : World) :
    Calls Try.prog 131 #[.bool b] w fun e w' => e = .returned (.int .u64 (if b then 1 else 0)) ∧ w = w' := by
  cases b <;>
  (go_enter Try.func131, Try.ntmps131
   go_wp2
   go_ret
   exact ⟨rfl, rfl⟩)
set_option maxHeartbeats 400000 in
theorem Move_calls (x s : Nat) (b : Bool) (w : World) (hx : U64 x) (hs : s < 8) :
    Calls Try.prog 119 #[.int .u64 x, .int .i64 s, .bool b] w fun e w' => e = .returned (.int .u64 (stMove x s b : Nat)) ∧ w = w' := by
  cases b
  all_goals
    go_enter Try.func119, Try.ntmps119
    go_wp2_with (first
      | (go_at_call 131; refine (bit_calls _ _).mono ?_; rintro e w' ⟨rfl, rfl⟩))
    go_ret
    refine ⟨ret_int ?_, rfl⟩
    first | exact move_val_false x s hx hs | exact move_val_true x s hx hs
set_option maxHeartbeats 400000 in
theorem stof_calls (sd sl : Nat) (w : World) (h1 : sd ≤ 1) (h2 : sl ≤ 11) :
    Calls Try.prog 188 #[.int .i64 sd, .int .i64 sl] w fun e w' => e = .returned (.int .u64 (2 ^ (12 * sd + sl) : Nat)) ∧ w = w' := by
  go_enter Try.func188, Try.ntmps188
  go_wp2
  go_ret
  exact ⟨ret_int (of_val sd sl h1 h2), rfl⟩
set_option maxHeartbeats 400000 in
theorem Has_calls (x sd sl : Nat) (w : World) (hx : U64 x) (h1 : sd ≤ 1) (h2 : sl ≤ 11) :
    Calls Try.prog 184 #[.int .u64 x, .int .i64 sd, .int .i64 sl] w fun e w' => e = .returned (.bool (x.testBit (12 * sd + sl))) ∧ w = w' := by
  go_enter Try.func184, Try.ntmps184
  go_wp2_with (go_at_call 188; refine (stof_calls _ _ _ h1 h2).mono ?_; rintro e w' ⟨rfl, rfl⟩)
  go_ret
  exact ⟨ret_bool (has_val x (12 * sd + sl) hx (by omega)), rfl⟩
set_option maxHeartbeats 400000 in
theorem With_calls (x sd sl : Nat) (w : World) (hx : U64 x) (h1 : sd ≤ 1) (h2 : sl ≤ 11) :
    Calls Try.prog 189 #[.int .u64 x, .int .i64 sd, .int .i64 sl] w fun e w' => e = .returned (.int .u64 (x ||| 2 ^ (12 * sd + sl) : Nat)) ∧ w = w' := by
  go_enter Try.func189, Try.ntmps189
  go_wp2_with (go_at_call 188; refine (stof_calls _ _ _ h1 h2).mono ?_; rintro e w' ⟨rfl, rfl⟩)
  go_ret
  exact ⟨ret_int (with_val x (12 * sd + sl) hx (by omega)), rfl⟩

set_option maxHeartbeats 1000000 in
theorem Any_calls (x sd : Nat) (w : World) (hx : U64 x) (h1 : sd ≤ 1) :
    Calls Try.prog 109 #[.int .u64 x, .int .i64 sd] w fun e w' => e = .returned (.bool (stAny x sd)) ∧ Grew w w' := by
  rcases Nat.le_one_iff_eq_zero_or_eq_one.1 h1 with rfl | rfl
  · by_cases h0 : fld x 0 12 = 0
    · have c0 : (((fld x 0 12 : Nat) : Int) == 0) = true := by rw [h0]; rfl
      have c1 : (((fld x 0 12 : Nat) : Int) != 0) = false := by rw [h0]; rfl
      have H0 := Lib.hid h0
      clear h0 h1
      go_enter Try.func109, Try.ntmps109
      go_wp2_with fail
      refine (part_calls 0 0 12 _ (Nat.zero_le _)).mono ?_
      rintro e w' ⟨v, rfl, ⟨b1, b2, rfl, g1, g2, -, -, g3, g4⟩, hg⟩
      go_wp2_with fail
      refine (part1_calls x 0 12 _ _ _ hx (by omega) (by omega) g1 g2).mono ?_
      rintro e w2 ⟨rfl, hg2⟩
      clear g1 g2 g3 g4
      go_wp2_with fail
      refine (part_calls 0 24 1 _ (Nat.zero_le _)).mono ?_
      rintro e w3 ⟨v, rfl, ⟨b1, b2, rfl, g1, g2, -, -, g3, g4⟩, hg3⟩
      go_wp2_with fail
      refine (part1_calls x 24 1 _ _ _ hx (by omega) (by omega) g1 g2).mono ?_
      rintro e w4 ⟨rfl, hg4⟩
      go_wp2_with fail
      go_ret
      exact ⟨ret_bool (any_zero x 0 H0.out), ((hg.trans hg2).trans hg3).trans hg4⟩
    · have c0 : (((fld x 0 12 : Nat) : Int) == 0) = false := by rw [beq_eq_false_iff_ne]; omega
      have c1 : (((fld x 0 12 : Nat) : Int) != 0) = true := by rw [bne_iff_ne]; omega
      have H0 := Lib.hid h0
      clear h0 h1
      go_enter Try.func109, Try.ntmps109
      go_wp2_with fail
      refine (part_calls 0 0 12 _ (Nat.zero_le _)).mono ?_
      rintro e w' ⟨v, rfl, ⟨b1, b2, rfl, g1, g2, -, -, g3, g4⟩, hg⟩
      go_wp2_with fail
      refine (part1_calls x 0 12 _ _ _ hx (by omega) (by omega) g1 g2).mono ?_
      rintro e w2 ⟨rfl, hg2⟩
      clear g1 g2 g3 g4
      go_wp2_with fail
      go_ret
      exact ⟨ret_bool (any_some x 0 H0.out), hg.trans hg2⟩
  · by_cases h0 : fld x 12 12 = 0
    · have c0 : (((fld x 12 12 : Nat) : Int) == 0) = true := by rw [h0]; rfl
      have c1 : (((fld x 12 12 : Nat) : Int) != 0) = false := by rw [h0]; rfl
      have H0 := Lib.hid h0
      clear h0 h1
      go_enter Try.func109, Try.ntmps109
      go_wp2_with fail
      refine (part_calls 0 12 12 _ (Nat.zero_le _)).mono ?_
      rintro e w' ⟨v, rfl, ⟨b1, b2, rfl, g1, g2, -, -, g3, g4⟩, hg⟩
      go_wp2_with fail
      refine (part1_calls x 12 12 _ _ _ hx (by omega) (by omega) g1 g2).mono ?_
      rintro e w2 ⟨rfl, hg2⟩
      clear g1 g2 g3 g4
      go_wp2_with fail
      refine (part_calls 0 25 1 _ (Nat.zero_le _)).mono ?_
      rintro e w3 ⟨v, rfl, ⟨b1, b2, rfl, g1, g2, -, -, g3, g4⟩, hg3⟩
      go_wp2_with fail
      refine (part1_calls x 25 1 _ _ _ hx (by omega) (by omega) g1 g2).mono ?_
      rintro e w4 ⟨rfl, hg4⟩
      go_wp2_with fail
      go_ret
      exact ⟨ret_bool (any_zero x 1 H0.out), ((hg.trans hg2).trans hg3).trans hg4⟩
    · have c0 : (((fld x 12 12 : Nat) : Int) == 0) = false := by rw [beq_eq_false_iff_ne]; omega
      have c1 : (((fld x 12 12 : Nat) : Int) != 0) = true := by rw [bne_iff_ne]; omega
      have H0 := Lib.hid h0
      clear h0 h1
      go_enter Try.func109, Try.ntmps109
      go_wp2_with fail
      refine (part_calls 0 12 12 _ (Nat.zero_le _)).mono ?_
      rintro e w' ⟨v, rfl, ⟨b1, b2, rfl, g1, g2, -, -, g3, g4⟩, hg⟩
      go_wp2_with fail
      refine (part1_calls x 12 12 _ _ _ hx (by omega) (by omega) g1 g2).mono ?_
      rintro e w2 ⟨rfl, hg2⟩
      clear g1 g2 g3 g4
      go_wp2_with fail
      go_ret
      exact ⟨ret_bool (any_some x 1 H0.out), hg.trans hg2⟩
end Go.Proofs.Ytabkdmcmfecokaa
