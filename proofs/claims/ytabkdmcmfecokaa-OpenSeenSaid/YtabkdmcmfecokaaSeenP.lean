/- OpenSeen: the row, proved. -/
import Derived.Test.YtabkdmcmfecokaaRows
import Derived.Test.YtabkdmcmfecokaaSeenW
import Derived.Test.YtabkdmcmfecokaaPost
namespace Go.Proofs.Ytabkdmcmfecokaa
open Go Go.RowKit
open Go.ChangeShapes Go.WideShapes Go.ChangeAt

set_option maxRecDepth 100000 in
theorem seen_lifted (os : Os) (started : os.Started) (H : Type) (enc : TypeId × Value → H) :
    ReturnsInHanded {} Try.checked os 3 .any (Rows.openSeenSpec.pre6 enc Try.prog Try.f3 Rows.openSeenRow.domain false) (Rows.openSeenSpec.post enc Try.prog Try.f3 false true false false) := by
  refine returnsInHanded_of_change (C := Try.checked) own_none started (by kernel_rfl) Try.func3
    (ChangeSpec.witness6 (enc := enc) (C := Try.checked) false ⟨#[], #[.agg #[.int .i64 0, .int .i64 0, .int .i64 0, .int .i64 0, .int .u64 0], .int .u64 0, .slice none 0 0], []⟩ 8 (by kernel_rfl) (by kernel_rfl) (by kernel_rfl) (by kernel_rfl)) ?_
  intro W base args ds gs before hval0 hW hcnd _
  have hval : ∀ (j : Nat) t v, Try.f3.params[j]? = some t → args[j]? = some v → Value.okWide Try.prog W .any base t v := hval0
  have hW' := hW
  obtain ⟨p, q, hA0, hV, rfl, hfz, hnd⟩ := hW
  have hA : DataW.TrodAll enc Try.prog W 0 (fun _ => true) true Try.f3.params.toList args.toList ds p := hA0
  have hpar := Try.params3
  rw [hpar] at hA hval
  obtain ⟨v0, v1, v2, d0, d1, d2, p0, p1, p2, rfl, rfl, rfl, h0, h1, h2⟩ := trodAll_three hA
  obtain ⟨t, s, k, g, qq, rfl, -⟩ := open_cfg (hval 0 _ v0 rfl rfl)
  obtain ⟨seq, rfl, -⟩ := open_u64 (hval 1 _ v1 rfl rfl)
  have hz : ∃ (a : Option Addr) (n cap : Nat) (zs : Nat → Int), v2 = .slice a n cap ∧ n ≤ 9223372036854775807 ∧ IntsAt W a n zs := by
    obtain ⟨fuel, hf⟩ := h2
    have hv2 := hval 2 _ v2 rfl rfl
    simp only [Value.okWide, Try.underlying25] at hv2
    have hcl := cell_slice Try.underlying25 hv2
    rcases open_ints Try.underlying25 Try.underlying3 (by kernel_rfl) hf with ⟨e, -⟩ | ⟨a, len, cap, l, e, -, hlc, hcm, hll, -, hc, -⟩
    · rw [hcl] at e
      have e' : v2 = .slice none 0 0 := by simpa using e
      exact ⟨none, 0, 0, fun _ => 0, e', by omega, fun i hi => by omega⟩
    · rw [hcl] at e
      have e' : v2 = .slice (some a) len cap := by simpa using e
      refine ⟨some a, len, cap, fun i => l.getD i 0, e', ?_, fun i hi => ⟨a, rfl, hc i ?_⟩⟩
      · have : cap ≤ maxLen := hcm
        unfold maxLen at this
        omega
      · rw [hll]; split <;> omega
  obtain ⟨a, n, cap, zs, rfl, hn, hz⟩ := hz
  obtain ⟨rfl, rfl⟩ := trodVars_none hV
  refine (seen_calls W t s k g qq seq a n cap zs hn hz).mono fun e W' ⟨he, hg⟩ => ?_
  subst he
  exact ⟨_, rfl, post_true _ Try.underlying4 rfl (by rw [hpar]; decide +kernel) rfl hW' hg rfl rfl rfl⟩

theorem seen_holds : Rows.OpenSeenSaid :=
  OpenClaim.holds_of_wide 3 Try.f3 rfl rfl rfl rfl rfl rfl rfl ⟨rfl, rfl, rfl, rfl, rfl⟩ rfl rfl rfl rfl rfl (by kernel_rfl) Try.func3 (by kernel_rfl)
    (of_decide_eq_true (by kernel_rfl)) (by unfold Func.isWrapper; first | (rw [if_pos (by decide +kernel)]; kernel_rfl) | (rw [if_neg (by decide +kernel)]; exact ⟨rfl, rfl⟩))
    (fun os started H enc _ => seen_lifted os started H enc)
end Go.Proofs.Ytabkdmcmfecokaa
