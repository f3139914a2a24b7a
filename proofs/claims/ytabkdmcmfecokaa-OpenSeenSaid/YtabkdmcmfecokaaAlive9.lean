/- The walk of alive of layer 9. -/
import Derived.Test.YtabkdmcmfecokaaRows
import Derived.Test.YtabkdmcmfecokaaEndsO
namespace Go.Proofs.Ytabkdmcmfecokaa
open Go Go.RowKit

theorem OpnAt.keep {w w' : World} {F S : List Nat} {b : Nat} {O : Opn} (h : OpnAt w F b O) (hf : Fr S w w') (hS : ∀ x ∈ F, x ∉ S) : OpnAt w' F b O := by
  obtain ⟨⟨bc, aid, a1, a2, a3, a4, a5, a6⟩, b1, b2, b3, b4, b5⟩ := h
  refine ⟨⟨bc, aid, hf.keep a1 (hS _ a4), hf.keep a2 (hS _ a5), a3, a4, a5, fun x y => ?_⟩, b1, b2, b3, fun x hx => Nat.lt_of_lt_of_le (b4 x hx) hf.size, b5⟩
  obtain ⟨ba, c1, c2, c3⟩ := a6 x y
  exact ⟨ba, c1, ⟨hf.keep c2.own (hS _ c3.1), c2.w, c2.s⟩, c3⟩
theorem OpnAt.grew {w w' : World} {F : List Nat} {b : Nat} {O : Opn} (h : OpnAt w F b O) (hg : Grew w w') : OpnAt w' F b O := h.keep (Fr.of_grew (S := []) hg) (fun _ _ h => by cases h)
theorem ans_eq (w : World) (a b c a' b' c' : Int) : (Op.equalIn 10000 40 (.agg #[.int .i64 a, .int .u64 b, .int .u64 c]) (.agg #[.int .i64 a', .int .u64 b', .int .u64 c'])).run Try.prog w = .ok (a == a' && (b == b' && c == c')) w := by
  unfold Op.equalIn
  simp [run_underlying Try.underlying40]
  simp [go_sem]
  by_cases h1 : a = a' <;> by_cases h2 : b = b' <;> by_cases h3 : c = c' <;> simp [h1, h2, h3]

def c9 : Cfg := ⟨1, 1, 1, 9, 9⟩
def m9 : Mem := (Mem.fresh c9 (List.replicate (lenOf c9) 0)).store 1 0 80
def a9 : Nat × Opn × Mem := Opn.new.ends 30 m9
def b9 : Nat × Opn × Mem := Opn.new.ends 30 a9.2.2
theorem c9_ok : c9.Ok := ⟨by decide, by decide, by decide, by decide, by decide, by decide, by decide, by decide⟩
set_option maxRecDepth 20000 in
set_option maxHeartbeats 2000000 in
theorem alive9_calls (w : World) : Calls Try.prog 14 #[] w fun e w' => e = .returned (.bool true) ∧ Grew w w' := by
  have hce := ans_eq
  have x1 : a9.1 = 5 := by kernel_rfl
  have x2 : b9.1 = 1 := by kernel_rfl
  have x3 : a9.2.1.done = true := by kernel_rfl
  have x4 : b9.2.1.done = true := by kernel_rfl
  have x5 : a9.2.1.e = 0 ∧ a9.2.1.h = 1 ∧ a9.2.1.n = 5 := ⟨by kernel_rfl, by kernel_rfl, by kernel_rfl⟩
  have x6 : b9.2.1.e = 6 ∧ b9.2.1.h = 0 ∧ b9.2.1.n = 0 := ⟨by kernel_rfl, by kernel_rfl, by kernel_rfl⟩
  have x7 : (b9.2.2.load 4 0).2 = stNew 2 0 := by kernel_rfl
  have x8 : ((b9.2.2.load 4 0).1.load 5 0).2 = 5 := by kernel_rfl
  obtain ⟨x51, x52, x53⟩ := x5
  obtain ⟨x61, x62, x63⟩ := x6
  have HN := Lib.hid (fun w => New_calls w c9 c9_ok)
  have HS := Lib.hid (fun w bm bw h => Store_calls w bm bw (Mem.fresh c9 (List.replicate (lenOf c9) 0)) 1 0 80 h (by show 80 < _; decide))
  have HA := Lib.hid (fun W F0 b bm bw w h => ends9_calls W F0 b bm bw w Opn.new m9 30 h (by decide))
  have HB := Lib.hid (fun W F0 b bm bw w h => ends9_calls W F0 b bm bw w Opn.new a9.2.2 30 h (by decide))
  have HL1 := Lib.hid (fun w bm bw h => Load_calls w bm bw b9.2.2 4 0 h)
  have HL2 := Lib.hid (fun w bm bw h => Load_calls w bm bw (b9.2.2.load 4 0).1 5 0 h)
  have HU := Lib.hid (fun w => rNew_calls 2 0 w (by decide) (by decide))
  rw [show Opn.new.ends 30 m9 = a9 from rfl] at HA
  rw [show Opn.new.ends 30 a9.2.2 = b9 from rfl] at HB
  rw [show (Mem.fresh c9 (List.replicate (lenOf c9) 0)).store 1 0 80 = m9 from rfl] at HS
  rw [x7] at HL1
  rw [x8] at HL2
  simp only [Cfg.V] at HN
  generalize (b9.2.2.load 4 0).1 = ML at *
  generalize (ML.load 5 0).1 = MLL at *
  generalize stNew 2 0 = q at *
  generalize b9 = B9 at *
  generalize a9 = A9 at *
  clear x7 x8
  go_enter Try.func14, Try.ntmps14
  go_wp2_with fail
  refine (HN.out _).mono ?_
  rintro e w1 ⟨bm, bw, rfl, hm, hbm, hbw, hg1⟩
  have hmi := blk_lt hm.own
  have hwi := blk_lt hm.row
  go_wp2_with fail
  refine (oNew_calls _).mono ?_
  rintro e w2 ⟨ba, Fa, rfl, hA, hFa, hg2⟩
  have hs2 := hg2.size
  go_wp2_with fail
  refine (oNew_calls _).mono ?_
  rintro e w3 ⟨bb, Fb, rfl, hB, hFb, hg3⟩
  have hs3 := hg3.size
  go_wp2_with fail
  refine (of9_calls _ _ _).mono ?_
  rintro e w4 ⟨rfl, hg4⟩
  have hs4 := hg4.size
  go_wp2_with fail
  refine (HS.out _ bm bw (((hm.grew hg2).grew hg3).grew hg4)).mono ?_
  rintro e w5 ⟨rfl, hm5, hf5⟩
  go_wp2_with fail
  have hs5 := hf5.size
  have hFa2 := hA.inn
  have hFb3 := hB.inn
  have dAm : bm ∉ Fa := fun h => by have := hFa _ h; omega
  have dAw : bw ∉ Fa := fun h => by have := hFa _ h; omega
  have dBm : bm ∉ Fb := fun h => by have := hFb _ h; omega
  have dBw : bw ∉ Fb := fun h => by have := hFb _ h; omega
  have hA5 : OpnAt w5 Fa ba Opn.new := ((hA.grew hg3).grew hg4).keep hf5 (fun x hx h => by
    simp only [List.mem_cons, List.not_mem_nil, or_false] at h
    rcases h with rfl | rfl
    · exact dAm hx
    · exact dAw hx)
  have hB5 : OpnAt w5 Fb bb Opn.new := (hB.grew hg4).keep hf5 (fun x hx h => by
    simp only [List.mem_cons, List.not_mem_nil, or_false] at h
    rcases h with rfl | rfl
    · exact dBm hx
    · exact dBw hx)
  refine (HA.out w5 Fa ba bm bw w5 (ORun.start hA5 hm5 dAm dAw)).mono ?_
  rintro e w6 ⟨rfl, ⟨⟨FA, hA6, hFA⟩, hm6, hf6, -, -, -, -⟩⟩
  have hs6 := hf6.size
  have hB6 : OpnAt w6 Fb bb Opn.new := hB5.keep hf6 (fun x hx h => by
    have h1 := hFb x hx
    rcases List.mem_append.1 h with h | h
    · have := hFa2 x h; omega
    · simp only [List.mem_cons, List.not_mem_nil, or_false] at h
      rcases h with rfl | rfl
      · exact dBm hx
      · exact dBw hx)
  go_wp2_with fail
  refine (HB.out w6 Fb bb bm bw w6 (ORun.start hB6 hm6 dBm dBw)).mono ?_
  rintro e w7 ⟨rfl, ⟨⟨FB, hB7, hFB⟩, hm7, hf7, -, -, -, -⟩⟩
  have hs7 := hf7.size
  have hA7 : OpnAt w7 FA ba A9.2.1 := hA6.keep hf7 (fun x hx h => by
    rcases List.mem_append.1 h with h | h
    · have h1 := hFb x h
      have h2 := hFb3 x h
      rcases hFA x hx with h3 | h3
      · have := hFa2 x h3; omega
      · omega
    · simp only [List.mem_cons, List.not_mem_nil, or_false] at h
      rcases hFA x hx with h3 | h3
      · rcases h with rfl | rfl
        · exact dAm h3
        · exact dAw h3
      · rcases h with rfl | rfl <;> omega)
  have hgr7 : Grew w w7 := by
    have r5 : Fr [] w w5 := ((((Fr.of_grew hg1).grew hg2).grew hg3).grew hg4).then hf5 (fun x hx => .inr (by
      simp only [List.mem_cons, List.not_mem_nil, or_false] at hx
      rcases hx with rfl | rfl <;> omega))
    have r6 : Fr [] w w6 := r5.then hf6 (fun x hx => .inr (by
      have := hg1.size
      rcases List.mem_append.1 hx with hx | hx
      · have := hFa x hx; omega
      · simp only [List.mem_cons, List.not_mem_nil, or_false] at hx
        rcases hx with rfl | rfl <;> omega))
    have r7 : Fr [] w w7 := r6.then hf7 (fun x hx => .inr (by
      have := hg1.size
      rcases List.mem_append.1 hx with hx | hx
      · have := hFb x hx; omega
      · simp only [List.mem_cons, List.not_mem_nil, or_false] at hx
        rcases hx with rfl | rfl <;> omega))
    exact r7.to_grew
  rw [x2]
  clear hA5 hB5 hB6 hA6 hf6 hf7 hf5 hm5 hm6 hFa hFb hFa2 hFb3 hs2 hs3 hs4 hs5 hs6 hs7 dAm dAw dBm dBw hFA hFB hA hB hm hg2 hg3 hg4
  go_wp2_with fail
  refine (oDone_calls w7 FA ba _ hA7).mono ?_
  rintro e w8 ⟨rfl, rfl⟩
  rw [x3]
  go_wp2_with fail
  refine (oDone_calls _ FB bb _ hB7).mono ?_
  rintro e w8 ⟨rfl, rfl⟩
  rw [x4]
  go_wp2_with fail
  refine (oAnswer_calls _ FA ba _ hA7).mono ?_
  rintro e w8 ⟨rfl, hg8⟩
  rw [x51, x52, x53]
  go_wp2_with fail
  refine (oAnswer_calls _ FB bb _ (hB7.grew hg8)).mono ?_
  rintro e w9 ⟨rfl, hg9⟩
  rw [x61, x62, x63]
  go_wp2_with fail
  refine (of9_calls _ _ _).mono ?_
  rintro e w10 ⟨rfl, hg10⟩
  go_wp2_with fail
  refine (HL1.out _ bm bw (((hm7.grew hg8).grew hg9).grew hg10)).mono ?_
  rintro e w11 ⟨rfl, hm11, hf11⟩
  go_wp2_with fail
  refine (HU.out _).mono ?_
  rintro e w12 ⟨rfl, hg12⟩
  go_wp2_with fail
  refine (of9_calls _ _ _).mono ?_
  rintro e w13 ⟨rfl, hg13⟩
  go_wp2_with fail
  refine (HL2.out _ bm bw ((hm11.grew hg12).grew hg13)).mono ?_
  rintro e w14 ⟨rfl, hm14, hf14⟩
  go_wp2_with fail
  go_ret
  refine ⟨rfl, ?_⟩
  have hsz := hgr7.size
  have q11 : Fr [] w w11 := ((((Fr.of_grew hgr7).grew hg8).grew hg9).grew hg10).then hf11 (fun x hx => .inr (by
    simp only [List.mem_cons, List.not_mem_nil, or_false] at hx
    rcases hx with rfl | rfl <;> omega))
  have q14 : Fr [] w w14 := ((q11.grew hg12).grew hg13).then hf14 (fun x hx => .inr (by
    simp only [List.mem_cons, List.not_mem_nil, or_false] at hx
    rcases hx with rfl | rfl <;> omega))
  exact q14.to_grew
end Go.Proofs.Ytabkdmcmfecokaa
