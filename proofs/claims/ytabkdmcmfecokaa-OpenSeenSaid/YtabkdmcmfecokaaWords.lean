/- The words of transactions, keys and commits as natural numbers; what the machine's bit operations come to. -/
import Derived.WalkKit
import Derived.Laws.BitsAllLaws
namespace Go.Proofs.Ytabkdmcmfecokaa
open Go Go.RowKit

/-- A word of 64 bits. -/
def U64 (x : Nat) : Prop := x < 18446744073709551616
/-- 'm' bits of 'x', from bit 'k' on. -/
def fld (x k m : Nat) : Nat := x / 2 ^ k % 2 ^ m

theorem fld_lt (x k m : Nat) : fld x k m < 2 ^ m := Nat.mod_lt _ (Nat.two_pow_pos m)

theorem wrap64_small (x : Nat) (h : x < 9223372036854775808) : wrap64 (x : Int) = (x : Int) := by
  unfold wrap64; omega

theorem u64_wrap_small (x : Nat) (h : x < 18446744073709551616) : IntKind.u64.wrap (x : Int) = (x : Int) := by
  rw [IntKind.wrap_u64]; omega

theorem two_pow_le {m n : Nat} (h : m ≤ n) : 2 ^ m ≤ 2 ^ n := Nat.pow_le_pow_right (by decide) h

theorem part_val (x k m : Nat) (hx : U64 x) (hm : m ≤ 32) :
    wrap64 (bits BinOp.and IntKind.u64 ((x : Int) / 2 ^ k) (IntKind.u64.wrap (IntKind.u64.wrap (2 ^ m) - 1))) = ((fld x k m : Nat) : Int) := by
  have h2 : 2 ^ m ≤ 2 ^ 32 := two_pow_le hm
  have h1 : 1 ≤ 2 ^ m := Nat.one_le_two_pow
  have e1 : IntKind.u64.wrap (2 ^ m) = ((2 ^ m : Nat) : Int) := by
    rw [show ((2 : Int) ^ m) = ((2 ^ m : Nat) : Int) by simp]
    exact u64_wrap_small _ (by omega)
  have e2 : IntKind.u64.wrap (IntKind.u64.wrap (2 ^ m) - 1) = ((2 ^ m - 1 : Nat) : Int) := by
    rw [e1, show ((2 ^ m : Nat) : Int) - 1 = ((2 ^ m - 1 : Nat) : Int) by omega]
    exact u64_wrap_small _ (by omega)
  have e3 : (x : Int) / 2 ^ k = ((x / 2 ^ k : Nat) : Int) := by simp
  unfold U64 at hx
  rw [e2, e3, u64_and_nat _ _ (Nat.lt_of_le_of_lt (Nat.div_le_self _ _) hx) (by omega), Nat.and_two_pow_sub_one_eq_mod, wrap64_small]
  · rfl
  · have := fld_lt x k m; unfold fld at this; omega

def stGen (w : Nat) : Nat := fld w 30 32
def stState (w : Nat) : Nat := fld w 27 3
def stBusy (w : Nat) : Bool := fld w 26 1 == 1
def stIn (w : Nat) : Nat := fld w 12 12
def stOut (w : Nat) : Nat := fld w 0 12
/-- A status's word of another state, busy or not. -/
def stMove (x s : Nat) (b : Bool) : Nat := 2 ^ 30 * (x / 2 ^ 30) + (2 ^ 26 * (2 ^ 1 * s + (if b then 1 else 0)) + x % 2 ^ 26)
/-- Is any bit of the side 1, or its past one? -/
def stAny (x sd : Nat) : Bool := fld x (12 * sd) 12 != 0 || fld x (24 + sd) 1 == 1

theorem any_zero (x sd : Nat) (h : fld x (12 * sd) 12 = 0) : (((fld x (24 + sd) 1 : Nat) : Int) == 1) = stAny x sd := by
  unfold stAny; rw [h, Bool.eq_iff_iff]; simp; omega
theorem any_some (x sd : Nat) (h : ¬ fld x (12 * sd) 12 = 0) : true = stAny x sd := by
  unfold stAny; simp [h]
theorem of_val (sd sl : Nat) (h1 : sd ≤ 1) (h2 : sl ≤ 11) : IntKind.u64.wrap (2 ^ (sd * 12 + sl)) = ((2 ^ (12 * sd + sl) : Nat) : Int) := by
  rw [show ((2 : Int) ^ (sd * 12 + sl)) = ((2 ^ (12 * sd + sl) : Nat) : Int) by rw [Nat.mul_comm sd 12]; simp]
  refine u64_wrap_small _ ?_
  have : 2 ^ (12 * sd + sl) ≤ 2 ^ 23 := two_pow_le (by omega)
  omega
theorem two_pow_small {k : Nat} (h : k ≤ 63) : 2 ^ k < 18446744073709551616 := by
  have : 2 ^ k ≤ 2 ^ 63 := two_pow_le h
  omega
theorem and_pow_ne (x k : Nat) : (x &&& 2 ^ k ≠ 0) ↔ x.testBit k = true := by
  constructor
  · intro h
    cases hb : x.testBit k with
    | true => rfl
    | false =>
      exfalso; apply h
      apply Nat.eq_of_testBit_eq
      intro i
      rw [Nat.testBit_and, Nat.testBit_two_pow, Nat.zero_testBit]
      by_cases hi : k = i
      · subst hi; simp [hb]
      · simp [hi]
  · intro h e
    have := congrArg (fun y => Nat.testBit y k) e
    simp only [Nat.testBit_and, Nat.testBit_two_pow_self, h, Nat.zero_testBit] at this
    cases this
theorem has_val (x k : Nat) (hx : U64 x) (hk : k ≤ 63) : (bits BinOp.and IntKind.u64 (x : Int) (2 ^ k) != 0) = x.testBit k := by
  rw [show ((2 : Int) ^ k) = ((2 ^ k : Nat) : Int) by simp, u64_and_nat _ _ hx (two_pow_small hk), Bool.eq_iff_iff, bne_iff_ne, ← and_pow_ne]
  omega
theorem with_val (x k : Nat) (hx : U64 x) (hk : k ≤ 63) : bits BinOp.or IntKind.u64 (x : Int) (2 ^ k) = ((x ||| 2 ^ k : Nat) : Int) := by
  rw [show ((2 : Int) ^ k) = ((2 ^ k : Nat) : Int) by simp, u64_or_nat _ _ hx (two_pow_small hk)]
theorem or_u64 {x k : Nat} (hx : U64 x) (hk : k ≤ 63) : U64 (x ||| 2 ^ k) := by
  unfold U64 at *
  exact Nat.or_lt_two_pow (n := 64) hx (two_pow_small hk)
theorem mask_bit (j : Nat) (hj : j < 64) : (17446744072702918655 + 1000000000000000000 : Nat).testBit j = (decide (j < 26) || decide (30 ≤ j)) := by
  revert j; decide
theorem move_bits (x s B b : Nat) (hx : U64 x) (hs : s < 8) (hB : B = 2 ^ 26 * b) (hb : b ≤ 1) :
    ((x &&& (18446744073709551615 - 1006632960)) ||| B) ||| (s * 2 ^ 27) = 2 ^ 30 * (x / 2 ^ 30) + (2 ^ 26 * (2 ^ 1 * s + b) + x % 2 ^ 26) := by
  apply Nat.eq_of_testBit_eq
  intro j
  have h1 : x % 2 ^ 26 < 2 ^ 26 := Nat.mod_lt _ (by decide)
  have h2 : 2 ^ 26 * (2 ^ 1 * s + b) + x % 2 ^ 26 < 2 ^ 30 := by omega
  have h3 : b < 2 ^ 1 := by omega
  rw [Nat.testBit_two_pow_mul_add _ h2, Nat.testBit_two_pow_mul_add _ h1, Nat.testBit_two_pow_mul_add _ h3, Nat.testBit_or, Nat.testBit_or, Nat.testBit_and, Nat.testBit_mul_two_pow, hB, Nat.testBit_mod_two_pow, Nat.testBit_div_two_pow,
    show (18446744073709551615 - 1006632960 : Nat) = 17446744072702918655 + 1000000000000000000 from rfl]
  have e4 : (2 ^ 26 * b).testBit j = (decide (j = 26) && decide (b = 1)) := by
    rcases (show b = 0 ∨ b = 1 by omega) with rfl | rfl
    · simp
    · rw [Nat.mul_one, Nat.testBit_two_pow]; simp [eq_comm]
  rw [e4]
  by_cases h64 : j < 64
  · rw [mask_bit j h64]
    by_cases c1 : j < 26
    · simp [c1, show j < 30 by omega, show ¬ 27 ≤ j by omega, show j ≠ 26 by omega]
    · by_cases c2 : j = 26
      · subst c2
        rcases (show b = 0 ∨ b = 1 by omega) with rfl | rfl <;> simp
      · by_cases c3 : j < 30
        · have e1 : ¬ 30 ≤ j := by omega
          have e2 : 27 ≤ j := by omega
          have e3 : ¬ j - 26 < 1 := by omega
          rw [show j - 26 - 1 = j - 27 by omega]
          simp [c1, c2, c3, e1, e2, e3]
        · have e1 : 30 ≤ j := by omega
          have e5 : s.testBit (j - 27) = false := Nat.testBit_lt_two_pow (by
            have : 2 ^ 3 ≤ 2 ^ (j - 27) := two_pow_le (by omega)
            omega)
          simp [c1, c2, c3, e1, e5]
  · have e0 : x.testBit j = false := Nat.testBit_lt_two_pow (by
      have : 2 ^ 64 ≤ 2 ^ j := two_pow_le (by omega)
      unfold U64 at hx; omega)
    have e5 : s.testBit (j - 27) = false := Nat.testBit_lt_two_pow (by
      have : 2 ^ 3 ≤ 2 ^ (j - 27) := two_pow_le (by omega)
      omega)
    simp [show ¬ j < 30 by omega, show j ≠ 26 by omega, show j - 30 + 30 = j by omega, e0, e5]
theorem stMove_lt {x s : Nat} {b : Bool} (hx : U64 x) (hs : s < 8) : U64 (stMove x s b) := by
  unfold U64 stMove at *
  cases b <;> simp <;> omega
theorem move_val (x s B b : Nat) (hx : U64 x) (hs : s < 8) (hB : B = 2 ^ 26 * b) (hb : b ≤ 1) :
    bits BinOp.or IntKind.u64 (bits BinOp.or IntKind.u64 (bits BinOp.andNot IntKind.u64 (x : Int) 1006632960) (B : Nat)) (IntKind.u64.wrap (bits BinOp.and IntKind.u64 (s : Int) 7 * 134217728)) =
      ((2 ^ 30 * (x / 2 ^ 30) + (2 ^ 26 * (2 ^ 1 * s + b) + x % 2 ^ 26) : Nat) : Int) := by
  have e1 : bits BinOp.andNot IntKind.u64 (x : Int) 1006632960 = ((x &&& (18446744073709551615 - 1006632960) : Nat) : Int) := u64_andNot_nat x 1006632960 hx (by decide)
  have e2 : bits BinOp.and IntKind.u64 (s : Int) 7 = ((s : Nat) : Int) := by
    have := u64_and_nat s 7 (by omega) (by decide)
    rw [show ((7 : Nat) : Int) = 7 from rfl] at this
    rw [this, show (7 : Nat) = 2 ^ 3 - 1 from rfl, Nat.and_two_pow_sub_one_eq_mod, Nat.mod_eq_of_lt hs]
  have e3 : IntKind.u64.wrap (((s : Nat) : Int) * 134217728) = ((s * 2 ^ 27 : Nat) : Int) := by
    rw [show ((s : Nat) : Int) * 134217728 = ((s * 2 ^ 27 : Nat) : Int) by omega]
    exact u64_wrap_small _ (by omega)
  have l1 : x &&& (18446744073709551615 - 1006632960) < 18446744073709551616 := Nat.lt_of_le_of_lt Nat.and_le_left hx
  have l2 : (x &&& (18446744073709551615 - 1006632960)) ||| B < 18446744073709551616 := Nat.or_lt_two_pow (n := 64) l1 (by omega)
  rw [e1, e2, e3, u64_or_nat _ _ l1 (by omega), u64_or_nat _ _ l2 (by omega), move_bits x s B b hx hs hB hb]
theorem move_val_false (x s : Nat) (hx : U64 x) (hs : s < 8) :
    bits BinOp.or IntKind.u64 (bits BinOp.or IntKind.u64 (bits BinOp.andNot IntKind.u64 (x : Int) 1006632960) 0) (IntKind.u64.wrap (bits BinOp.and IntKind.u64 (s : Int) 7 * 134217728)) = ((stMove x s false : Nat) : Int) :=
  move_val x s 0 0 hx hs rfl (by decide)
theorem move_val_true (x s : Nat) (hx : U64 x) (hs : s < 8) :
    bits BinOp.or IntKind.u64 (bits BinOp.or IntKind.u64 (bits BinOp.andNot IntKind.u64 (x : Int) 1006632960) 67108864) (IntKind.u64.wrap (bits BinOp.and IntKind.u64 (s : Int) 7 * 134217728)) = ((stMove x s true : Nat) : Int) :=
  move_val x s 67108864 1 hx hs rfl (by decide)
theorem low4_val (h : Nat) (hh : U64 h) : wrap64 (wrap64 (bits BinOp.and IntKind.u64 (h : Int) 15) - 1) = ((h % 16 : Nat) : Int) - 1 := by
  have e1 : bits BinOp.and IntKind.u64 (h : Int) 15 = ((h % 16 : Nat) : Int) := by
    have := u64_and_nat h 15 hh (by decide)
    rw [show ((15 : Nat) : Int) = 15 from rfl] at this
    rw [this, show (15 : Nat) = 2 ^ 4 - 1 from rfl, Nat.and_two_pow_sub_one_eq_mod]
  have hl : h % 16 < 16 := Nat.mod_lt _ (by decide)
  rw [e1, wrap64_small _ (by omega)]
  unfold wrap64; omega
theorem settled_val (x : Nat) (hx : U64 x) : IntKind.u64.wrap ((x : Int) / 16 * 16) = ((x / 16 * 16 : Nat) : Int) := by
  unfold U64 at hx
  rw [show (x : Int) / 16 * 16 = ((x / 16 * 16 : Nat) : Int) by omega]
  exact u64_wrap_small _ (by omega)
theorem pack_val (q p : Nat) (hq : q ≤ 1099511627775) (hp : p ≤ 11) : bits BinOp.or IntKind.u64 ((q : Int) * 16) ((p : Int) + 1) = ((16 * q + p + 1 : Nat) : Int) := by
  rw [show (q : Int) * 16 = ((q * 16 : Nat) : Int) by omega, show (p : Int) + 1 = ((p + 1 : Nat) : Int) by omega, u64_or_nat _ _ (by omega) (by omega), nat_join 4 (q * 16) (p + 1) (by omega) (by omega)]
  omega
theorem make_val (s g : Nat) (hs : s ≤ 11) (hg : g ≤ 1073741823) : bits BinOp.or IntKind.u64 ((s : Int) + 1) ((g : Int) * 16) = ((16 * g + s + 1 : Nat) : Int) := by
  rw [show (g : Int) * 16 = ((g * 16 : Nat) : Int) by omega, show (s : Int) + 1 = ((s + 1 : Nat) : Int) by omega, u64_or_nat _ _ (by omega) (by omega), Nat.or_comm, nat_join 4 (g * 16) (s + 1) (by omega) (by omega)]
  omega
end Go.Proofs.Ytabkdmcmfecokaa
