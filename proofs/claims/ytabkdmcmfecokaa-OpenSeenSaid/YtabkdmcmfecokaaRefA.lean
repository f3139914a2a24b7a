/- The walks of the document's answer for layer 1. -/
import Derived.Test.YtabkdmcmfecokaaRows
import Derived.Test.YtabkdmcmfecokaaHelp
import Derived.LoopTactic
namespace Go.Proofs.Ytabkdmcmfecokaa
open Go Go.RowKit

theorem pow_small {k : Nat} (h : k ≤ 63) : 2 ^ k ≤ 9223372036854775808 := by
  have := two_pow_le h; simpa using this
set_option maxRecDepth 10000 in
set_option maxHeartbeats 400000 in
theorem Power_calls (n : Nat) (w : World) (hn : n ≤ 63) :
    Calls Try.prog 95 #[.int .i64 n] w fun e w' => e = .returned (.int .u64 (2 ^ n : Nat)) ∧ w = w' := by
  go_enter Try.func95, Try.ntmps95
  go_wp2_with fail
  go_loop [3, 4] (fun p i => ∃ k : Nat, k ≤ n ∧ p = .int .u64 (2 ^ k : Nat) ∧ i = .int .i64 k) (fun _ i => n - (intOf i).toNat)
  case atStart => exact ⟨0, Nat.zero_le _, rfl, rfl⟩
  case round =>
    obtain ⟨k, hk, rfl, rfl⟩ := hrel
    rcases Nat.lt_or_ge k n with hlt | hge
    · have h2 : 2 * 2 ^ k = 2 ^ (k + 1) := by rw [Nat.pow_succ, Nat.mul_comm]
      have h3 := pow_small (show k + 1 ≤ 63 by omega)
      generalize 2 ^ k = p at *
      have hq : ∃ q, 2 ^ (k + 1) = q := ⟨_, rfl⟩
      obtain ⟨q, hq⟩ := hq
      rw [hq] at h2 h3
      replace hq := Lib.hid hq
      go_wp2_with fail
      go_round
      case rel => exact ⟨k + 1, by omega, by rw [hq.out, ← h2]; simp, by go_num⟩
      case measure => simp [intOf]; omega
    · have : k = n := by omega
      subst this
      go_wp2_with fail
      go_ret
      exact ⟨rfl, rfl⟩

def pw (n : Nat) : Nat := 2 ^ n
theorem pw_calls (n : Nat) (w : World) (hn : n ≤ 63) :
    Calls Try.prog 95 #[.int .i64 n] w fun e w' => e = .returned (.int .u64 (pw n)) ∧ w = w' := Power_calls n w hn
theorem pw_pos (n : Nat) : 0 < pw n := Nat.two_pow_pos n
theorem fld_pw (x k m : Nat) : fld x k m = x / pw k % pw m := rfl
theorem wrap_div (x p : Nat) (hx : U64 x) : IntKind.u64.wrap ((x : Int) / p) = ((x / p : Nat) : Int) := by
  rw [show (x : Int) / p = ((x / p : Nat) : Int) by simp]
  exact u64_wrap_small _ (Nat.lt_of_le_of_lt (Nat.div_le_self _ _) hx)
theorem wrap_mod (x p : Nat) (hx : U64 x) : IntKind.u64.wrap ((x : Int).tmod p) = ((x % p : Nat) : Int) := by
  rw [show (x : Int).tmod p = ((x % p : Nat) : Int) by rw [Int.tmod_eq_emod_of_nonneg (by omega)]; simp]
  exact u64_wrap_small _ (Nat.lt_of_le_of_lt (Nat.mod_le _ _) hx)
theorem wrap64_fld (x k m : Nat) (hm : m ≤ 32) : wrap64 ((fld x k m : Nat) : Int) = (fld x k m : Nat) := by
  have h3 : 2 ^ m ≤ 2 ^ 32 := two_pow_le hm
  have h4 := fld_lt x k m
  exact wrap64_small _ (by omega)
theorem u64_div {x p : Nat} (hx : U64 x) : U64 (x / p) := Nat.lt_of_le_of_lt (Nat.div_le_self _ _) hx
set_option maxRecDepth 10000 in
set_option maxHeartbeats 400000 in
theorem number_calls (x k m : Nat) (w : World) (hx : U64 x) (hk : k ≤ 31) (hm : m ≤ 32) :
    Calls Try.prog 79 #[.int .u64 x, .int .i64 k, .int .i64 m] w fun e w' => e = .returned (.int .i64 (fld x k m : Nat)) ∧ Grew w w' := by
  have h1 := pw_pos k
  have h2 := pw_pos m
  have n1 : ¬ pw k = 0 := by omega
  have n2 : ¬ pw m = 0 := by omega
  have hd := wrap_div x (pw k) hx
  have hm' := wrap_mod (x / pw k) (pw m) (u64_div hx)
  have hw := wrap64_fld x k m hm
  rw [← fld_pw] at hm'
  have hm2 : IntKind.u64.wrap (((x : Int) / (pw k : Nat)).tmod (pw m : Nat)) = (fld x k m : Nat) := by
    rw [show (x : Int) / (pw k : Nat) = ((x / pw k : Nat) : Int) by simp]; exact hm'
  have hm3 : (((x : Int) / (pw k : Nat)).tmod (pw m : Nat)) = (fld x k m : Nat) := by
    rw [show (x : Int) / (pw k : Nat) = ((x / pw k : Nat) : Int) by simp, Int.tmod_eq_emod_of_nonneg (Int.natCast_nonneg _), fld_pw]; simp
  have hm4 : wrap64 (((x : Int) / (pw k : Nat)).tmod (pw m : Nat)) = (fld x k m : Nat) := by rw [hm3]; exact hw
  replace hm3 := Lib.hid hm3
  replace hm4 := Lib.hid hm4
  clear h1 h2 hx hm'
  go_enter Try.func79, Try.ntmps79
  go_wp2_with fail
  refine wp_region_plus (by kernel_rfl) (by kernel_rfl) ?_
  repeat (go_big_quiet_step ((first | (go_at_call 95; exact quiet_plus (calls_grew (pw_calls _ _ (by omega)))))))
  refine wpQuiet_nil ?_
  intro w1 hw1
  have hg1 := grew_of_class hw1
  clear hw1
  go_wp2_with fail
  go_ret
  exact ⟨ret_int hm4.out, hg1⟩

set_option maxRecDepth 10000 in
set_option maxHeartbeats 400000 in
theorem rBit_calls (x k : Nat) (w : World) (hx : U64 x) (hk : k ≤ 31) :
    Calls Try.prog 80 #[.int .u64 x, .int .i64 k] w fun e w' => e = .returned (.bool (fld x k 1 == 1)) ∧ w = w' := by
  have h1 := pw_pos k
  have n1 : ¬ pw k = 0 := by omega
  have hd := wrap_div x (pw k) hx
  have hm2 : IntKind.u64.wrap (((x : Int) / (pw k : Nat)).tmod 2) = (fld x k 1 : Nat) := by
    rw [show (x : Int) / (pw k : Nat) = ((x / pw k : Nat) : Int) by simp]; exact wrap_mod (x / pw k) 2 (u64_div hx)
  have hm3 : IntKind.u64.wrap (((x : Int) / (pw k : Nat)) % 2) = (fld x k 1 : Nat) := by
    rw [← hm2, Int.tmod_eq_emod_of_nonneg]; exact Int.ediv_nonneg (by omega) (by omega)
  have hm4 : ((x : Int) / (pw k : Nat)) % 2 = (fld x k 1 : Nat) := by
    rw [show (x : Int) / (pw k : Nat) = ((x / pw k : Nat) : Int) by simp, fld_pw]; show _ = ((x / pw k % 2 : Nat) : Int); omega
  have he : (((fld x k 1 : Nat) : Int) == 1) = (fld x k 1 == 1) := by rw [Bool.eq_iff_iff]; simp; omega
  replace he := Lib.hid he
  clear h1 hx
  go_enter Try.func80, Try.ntmps80
  go_wp2_with (go_at_call 95; refine (pw_calls _ _ (by omega)).mono ?_; rintro e w' ⟨rfl, rfl⟩)
  go_ret
  exact ⟨ret_bool he.out, rfl⟩

theorem rState_calls (x : Nat) (w : World) (hx : U64 x) :
    Calls Try.prog 44 #[.int .u64 x] w fun e w' => e = .returned (.int .i64 (stState x : Nat)) ∧ Grew w w' := by
  have hn := Lib.hid (fun w => number_calls x 27 3 w hx (by decide) (by decide))
  unfold stState
  clear hx
  go_enter Try.func44, Try.ntmps44
  go_wp2_with fail
  refine (hn.out _).mono ?_
  rintro e w1 ⟨rfl, hg1⟩
  go_wp2_with fail
  go_ret
  exact ⟨rfl, hg1⟩
theorem rGen_calls (x : Nat) (w : World) (hx : U64 x) :
    Calls Try.prog 61 #[.int .u64 x] w fun e w' => e = .returned (.int .i64 (stGen x : Nat)) ∧ Grew w w' := by
  have hn := Lib.hid (fun w => number_calls x 30 32 w hx (by decide) (by decide))
  unfold stGen
  clear hx
  go_enter Try.func61, Try.ntmps61
  go_wp2_with fail
  refine (hn.out _).mono ?_
  rintro e w1 ⟨rfl, hg1⟩
  go_wp2_with fail
  go_ret
  exact ⟨rfl, hg1⟩
theorem rBusy_calls (x : Nat) (w : World) (hx : U64 x) :
    Calls Try.prog 96 #[.int .u64 x] w fun e w' => e = .returned (.bool (stBusy x)) ∧ w = w' := by
  have hn := Lib.hid (fun w => rBit_calls x 26 w hx (by decide))
  unfold stBusy
  clear hx
  go_enter Try.func96, Try.ntmps96
  go_wp2_with fail
  refine (hn.out _).mono ?_
  rintro e w1 ⟨rfl, rfl⟩
  go_wp2_with fail
  go_ret
  exact ⟨rfl, rfl⟩

/-- A word whose bit at a place is 1, or 0. -/
def putN (x k : Nat) (b : Bool) : Nat := if (fld x k 1 == 1) = b then x else if b then x + 2 ^ k else x - 2 ^ k
theorem fld_one (x k : Nat) : fld x k 1 = x / 2 ^ k % 2 := rfl
theorem bit_ge (x k : Nat) (h : fld x k 1 = 1) : 2 ^ k ≤ x := by
  rw [fld_one] at h
  rcases Nat.lt_or_ge x (2 ^ k) with h1 | h1
  · rw [Nat.div_eq_of_lt h1] at h; simp at h
  · exact h1
theorem put_add_small (x k : Nat) (hx : U64 x) (hk : k ≤ 31) (h : fld x k 1 ≠ 1) : U64 (x + 2 ^ k) := by
  rw [fld_one] at h
  unfold U64 at *
  have h2 : 2 ^ k * 2 ^ (64 - k) = 18446744073709551616 := by
    rw [← Nat.pow_add, show k + (64 - k) = 64 by omega]
  have hq : x / 2 ^ k % 2 = 0 := by omega
  have hlt : x / 2 ^ k < 2 ^ (64 - k) := by
    rw [Nat.div_lt_iff_lt_mul (Nat.two_pow_pos k), Nat.mul_comm, h2]; exact hx
  have hev : 2 ^ (64 - k) = 2 * 2 ^ (63 - k) := by rw [show 64 - k = (63 - k) + 1 by omega, Nat.pow_succ']
  have h3 : x / 2 ^ k + 1 < 2 ^ (64 - k) := by omega
  have h4 : x < 2 ^ k * (x / 2 ^ k + 1) := by
    have := Nat.lt_mul_div_succ x (Nat.two_pow_pos k); simpa using this
  have h5 : 2 ^ k * (x / 2 ^ k + 1) + 2 ^ k ≤ 2 ^ k * 2 ^ (64 - k) := by
    rw [← Nat.mul_succ]; exact Nat.mul_le_mul_left _ h3
  omega
theorem putN_small (x k : Nat) (b : Bool) (hx : U64 x) (hk : k ≤ 31) : U64 (putN x k b) := by
  unfold putN
  split
  · exact hx
  · rename_i h
    split
    · rename_i hb
      refine put_add_small x k hx hk fun e => h ?_
      rw [e, hb]; rfl
    · exact Nat.lt_of_le_of_lt (Nat.sub_le _ _) hx
set_option maxRecDepth 10000 in
set_option maxHeartbeats 400000 in
theorem rPut_calls (x k : Nat) (b : Bool) (w : World) (hx : U64 x) (hk : k ≤ 31) :
    Calls Try.prog 82 #[.int .u64 x, .int .i64 k, .bool b] w fun e w' => e = .returned (.int .u64 (putN x k b : Nat)) ∧ w = w' := by
  have hn := Lib.hid (fun w => rBit_calls x k w hx hk)
  have hp := Lib.hid (fun w => pw_calls k w (by omega))
  have ha := put_add_small x k hx hk
  have hg := bit_ge x k
  rw [show 2 ^ k = pw k from rfl] at ha hg
  unfold putN
  rw [show 2 ^ k = pw k from rfl]
  by_cases h : fld x k 1 = 1
  · have hb : (fld x k 1 == 1) = true := by simpa using h
    rw [hb] at hn ⊢
    cases b
    · have hge := hg h
      have hs : ((x - pw k : Nat) : Int) = (x : Int) - pw k := by omega
      have hw : IntKind.u64.wrap ((x : Int) - (pw k : Nat)) = (x : Int) - (pw k : Nat) := by rw [← hs]; exact u64_wrap_small _ (by unfold U64 at hx; omega)
      replace hs := Lib.hid hs
      clear hg ha hx h hb hge
      go_enter Try.func82, Try.ntmps82
      go_wp2_with fail
      refine (hn.out _).mono ?_
      rintro e w1 ⟨rfl, rfl⟩
      go_wp2_with fail
      refine (hp.out _).mono ?_
      rintro e w1 ⟨rfl, rfl⟩
      go_wp2_with fail
      go_ret
      exact ⟨ret_int (by simp [hs.out]), rfl⟩
    · clear hg ha hx h hb
      go_enter Try.func82, Try.ntmps82
      go_wp2_with fail
      refine (hn.out _).mono ?_
      rintro e w1 ⟨rfl, rfl⟩
      go_wp2_with fail
      go_ret
      exact ⟨ret_int (by simp), rfl⟩
  · have hb : (fld x k 1 == 1) = false := by simpa using h
    rw [hb] at hn ⊢
    cases b
    · clear hg ha hx h hb
      go_enter Try.func82, Try.ntmps82
      go_wp2_with fail
      refine (hn.out _).mono ?_
      rintro e w1 ⟨rfl, rfl⟩
      go_wp2_with fail
      go_ret
      exact ⟨ret_int (by simp), rfl⟩
    · have hu := ha h
      have hs : ((x + pw k : Nat) : Int) = (x : Int) + pw k := by omega
      have hw : IntKind.u64.wrap ((x : Int) + (pw k : Nat)) = (x : Int) + (pw k : Nat) := by rw [← hs]; exact u64_wrap_small _ hu
      replace hs := Lib.hid hs
      clear hg ha hx h hb hu
      go_enter Try.func82, Try.ntmps82
      go_wp2_with fail
      refine (hn.out _).mono ?_
      rintro e w1 ⟨rfl, rfl⟩
      go_wp2_with fail
      refine (hp.out _).mono ?_
      rintro e w1 ⟨rfl, rfl⟩
      go_wp2_with fail
      go_ret
      exact ⟨ret_int (by simp), rfl⟩
end Go.Proofs.Ytabkdmcmfecokaa
