/- The walk of Make of package ticket. -/
import Derived.Test.YtabkdmcmfecokaaRows
import Derived.Test.YtabkdmcmfecokaaTicket
namespace Go.Proofs.Ytabkdmcmfecokaa
open Go Go.RowKit

set_option maxHeartbeats 400000 in
theorem Make_yes (s g : Nat) (w : World) (hs : s ≤ 11) (hg : g ≤ 1073741823) :
    Calls Try.prog 161 #[.int .i64 s, .int .i64 g] w fun e w' => e = .returned (.tuple #[.int .u64 (16 * g + s + 1 : Nat), .bool true]) ∧ Grew w w' := by
  have ha := arr2_eq
  have hm := max0
  have hv := make_val s g hs hg
  go_enter Try.func161, Try.ntmps161
  go_wp2_with fail
  refine (fields_calls _).mono ?_
  rintro e w1 ⟨rfl, hg1⟩
  go_wp2_with fail
  refine wp_region_plus (by kernel_rfl) (by kernel_rfl) ?_
  repeat (go_big_quiet_step ((first
    | (go_at_call 150; exact quiet_plus (calls_grew (fields2_calls s _ (by omega))))
    | (go_at_call 152; exact quiet_plus (calls_grew (fields4_calls g _ hg))))))
  refine wpQuiet_nil ?_
  intro w2 hw2
  have hg2 := grew_of_class hw2
  clear hw2
  go_wp2
  go_ret2
  exact ⟨by simp, ((((Grew.refl w).alloc _).trans hg1).alloc _).trans hg2⟩

end Go.Proofs.Ytabkdmcmfecokaa
