/- The rows of this seat: what is shared of their proofs. -/
import Derived.Test.YtabkdmcmfecokaaRows
import Derived.Test.YtabkdmcmfecokaaMem
import Derived.ProofKit
namespace Go.Proofs.Ytabkdmcmfecokaa
open Go Go.RowKit
open Go.ChangeShapes Go.WideShapes

theorem own_none : ownKnob Try.prog.godebug = none := by kernel_rfl
theorem laid_out : laidOutB Try.prog = true := by kernel_rfl

/-- Arguments read as they did, in a world that has only grown. -/
theorem trodAll_grew {H : Type} {enc : TypeId × Value → H} {W W' : World} (hg : Grew W W') {sp : Nat → Bool} : ∀ {ts : List TypeId} {vs : List Value} {ds : List (DataW H)} {ps : List MemPlace},
    (∀ t ∈ ts, Try.prog.readableRec t = true ∧ t < Try.prog.types.size) → DataW.TrodAll enc Try.prog W 0 (fun _ => true) true ts vs ds ps → (∀ x ∈ ps, x.block < W.heap.size) → (∀ x ∈ ps, sp x.block = true) →
    DataW.TrodAll enc Try.prog W' 0 sp true ts vs ds ps
  | [], [], [], _, _, h, _, _ => h
  | t :: ts, _ :: _, _ :: _, _, hT, ⟨p, q, h1, h2, e⟩, hlt, hs => by
    subst e
    refine ⟨p, q, ?_, trodAll_grew hg (fun t' ht => hT t' (List.mem_cons_of_mem _ ht)) h2 (fun x hx => hlt x (List.mem_append_right _ hx)) (fun x hx => hs x (List.mem_append_right _ hx)), rfl⟩
    exact WideElems.Trod_stays laid_out (hT t (List.mem_cons_self ..)).1 (hT t (List.mem_cons_self ..)).2 h1 (fun x hx => hg.below.same (hlt x (List.mem_append_left _ hx))) (fun x hx => hs x (List.mem_append_left _ hx))

/-- The row's word behind a call that told true and only made memory. -/
theorem post_true {H : Type} {enc : TypeId × Value → H} {f : Func} {s : ChangeSpec} {W W' : World} {args : Array Value} {ds gs : List (DataW H)} {before : List MemPlace} (tb : TypeId) (htb : Try.prog.underlying tb = some .bool)
    (hrt : f.resultTypes = #[tb]) (hT : ∀ t ∈ f.params.toList, Try.prog.readableRec t = true ∧ t < Try.prog.types.size) (hv : s.vars = [])
    (hW : DataW.Whole enc Try.prog f.params.toList s.vars false W args.toList ds gs before) (hg : Grew W W')
    (hr : (s.fn H (ds ++ gs)).results = [.lit (.bool true)]) (ha : (s.fn H (ds ++ gs)).args = ds) (hvv : (s.fn H (ds ++ gs)).vars = []) :
    s.post enc Try.prog f false true false false W args (.bool true) W' := by
  have hlt := hW.lt
  have hW' := hW
  obtain ⟨p, q, h1, h2, rfl, -, -⟩ := hW'
  rw [hv] at h2
  obtain ⟨rfl, rfl⟩ := trodVars_none h2
  refine ⟨ds, [], p ++ [], [], p, [], hW, ?_, ?_, ?_, hg.below.frame _, fun h => by cases h⟩
  · rw [hr, hrt]
    exact trodAll_mk1 (shut_bool htb true)
  · rw [ha]
    exact trodAll_grew hg hT h1 (fun x hx => hlt x (List.mem_append_left _ hx)) (fun x hx => by simpa using hlt x (List.mem_append_left _ hx))
  · rw [hvv, hv]; rfl

theorem cell_int {P : Program} {W : World} {r : Reach} {b : Nat} {u : TypeId} {k : IntKind} {v : Value} (hu : P.underlying u = some (.int k)) (h : Cell.okWide P W r b u v) : ∃ n, v = .int k n ∧ k.has n := by
  unfold Cell.okWide at h
  rw [hu] at h
  simp only [Cell.ok, hu] at h
  cases v <;> simp at h
  rename_i k' n
  obtain ⟨rfl, h⟩ := h
  exact ⟨n, rfl, h⟩
theorem cell_slice {P : Program} {W : World} {r : Reach} {b : Nat} {u e : TypeId} {v : Value} (hu : P.underlying u = some (.slice e)) (h : Cell.okWide P W r b u v) : v.cells.toList = [v] := by
  unfold Cell.okWide at h
  rw [hu] at h
  simp only [Cell.ok, hu] at h
  cases v <;> simp at h
  rfl
theorem u64_has {q : Int} (h : IntKind.u64.has q) : 0 ≤ q ∧ q < 18446744073709551616 := by
  have e1 : IntKind.u64.min = 0 := by decide
  have e2 : IntKind.u64.max = 18446744073709551615 := by decide
  obtain ⟨h1, h2⟩ := h
  rw [e1] at h1
  rw [e2] at h2
  exact ⟨h1, by omega⟩
set_option maxRecDepth 10000 in
theorem open_u64 {W : World} {b : Nat} {v : Value} (h : Value.okWide Try.prog W .any b 22 v) : ∃ q : Nat, v = .int .u64 q ∧ q < 18446744073709551616 := by
  have h' : Cell.okWide Try.prog W .any b 22 v := by
    simpa only [Value.okWide, Try.underlying22] using h
  obtain ⟨q, rfl, hq⟩ := cell_int Try.underlying22 h'
  have h2 := u64_has hq
  obtain ⟨q, rfl⟩ := Int.eq_ofNat_of_zero_le h2.1
  exact ⟨q, rfl, by omega⟩
set_option maxRecDepth 10000 in
theorem open_cfg {W : World} {b : Nat} {v : Value} (h : Value.okWide Try.prog W .any b 24 v) : ∃ (t s k g : Int) (q : Nat), v = .agg #[.int .i64 t, .int .i64 s, .int .i64 k, .int .i64 g, .int .u64 q] ∧ q < 18446744073709551616 := by
  simp only [Value.okWide, Try.underlying24] at h
  obtain ⟨cs, rfl, hsz, ts, hts, -, hc⟩ := h
  have e5 : Try.prog.cellsOf 24 = 5 := by kernel_rfl
  have ets : Try.prog.cellTypes Try.prog.depth 24 = some [3, 3, 3, 3, 22] := by kernel_rfl
  rw [e5] at hsz
  rw [ets] at hts
  cases hts
  obtain ⟨l⟩ := cs
  match l, hsz with
  | [a0, a1, a2, a3, a4], _ =>
    have g0 := hc 0 a0 rfl
    have g1 := hc 1 a1 rfl
    have g2 := hc 2 a2 rfl
    have g3 := hc 3 a3 rfl
    have g4 := hc 4 a4 rfl
    obtain ⟨u0, hu0, g0⟩ := g0
    obtain ⟨u1, hu1, g1⟩ := g1
    obtain ⟨u2, hu2, g2⟩ := g2
    obtain ⟨u3, hu3, g3⟩ := g3
    obtain ⟨u4, hu4, g4⟩ := g4
    simp at hu0 hu1 hu2 hu3 hu4
    subst hu0; subst hu1; subst hu2; subst hu3; subst hu4
    obtain ⟨t, rfl, -⟩ := cell_int Try.underlying3 g0
    obtain ⟨s, rfl, -⟩ := cell_int Try.underlying3 g1
    obtain ⟨k, rfl, -⟩ := cell_int Try.underlying3 g2
    obtain ⟨g, rfl, -⟩ := cell_int Try.underlying3 g3
    obtain ⟨q, rfl, hq⟩ := cell_int Try.underlying22 g4
    have h2 : 0 ≤ q ∧ q < 18446744073709551616 := by
      exact u64_has hq
    obtain ⟨q, rfl⟩ := Int.eq_ofNat_of_zero_le h2.1
    exact ⟨t, s, k, g, q, rfl, by omega⟩
end Go.Proofs.Ytabkdmcmfecokaa
