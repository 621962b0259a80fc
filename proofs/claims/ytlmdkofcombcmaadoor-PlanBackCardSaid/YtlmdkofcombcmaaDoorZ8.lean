/- A part of an own library for walks over a Go program's form: no statement of the claim's own, no conditions. -/
import Derived.Test.YtlmdkofcombcmaaDoorZ7
namespace Go.Z
open Go
open Go.RowKit (wrap32 wrap64)
/-! ## 10. Bits -/
def or32 (a b : Int) : Int := IntKind.i32.wrap ((BitVec.ofInt 32 a ||| BitVec.ofInt 32 b).toNat : Nat)
section
variable {P : Program} {w : World} (xt : TypeId) (x y : Operand)
theorem bv8 (a : UInt8) : BitVec.ofInt 8 (a.toNat : Int) = a.toBitVec := by
  apply BitVec.eq_of_toNat_eq; simp
theorem wrap8 (n : Nat) (h : n < 256) : IntKind.u8.wrap (n : Int) = n := by rw [IntKind.wrap_u8]; omega
theorem B_and8 (a b : UInt8) : (binS .and xt x y (.int .u8 a.toNat) (.int .u8 b.toNat)).run P w = .ok (.int .u8 (a &&& b).toNat) w := by
  have e : (BitVec.ofInt 8 (a.toNat : Int) &&& BitVec.ofInt 8 (b.toNat : Int)).toNat = (a &&& b).toNat := by rw [bv8, bv8]; rfl
  have h : (a &&& b).toNat < 256 := (a &&& b).toNat_lt
  show (Op.intBits .and .u8 a.toNat b.toNat).run P w = _
  show Result.ok (Value.int .u8 (IntKind.u8.wrap ((BitVec.ofInt 8 (a.toNat : Int) &&& BitVec.ofInt 8 (b.toNat : Int)).toNat : Nat))) w = _
  rw [e, wrap8 _ h]
theorem B_shr8 (a b : UInt8) (k : IntKind) (n : Nat) (hn : Nat.ble n 7 = true) (hb : b.toNat = n) : (binS .shr xt x y (.int .u8 a.toNat) (.int k n)).run P w = .ok (.int .u8 (a >>> b).toNat) w := by
  have hn := Nat.le_of_ble_eq_true hn
  have h0 : ¬ (n : Int) < 0 := by omega
  have h1 : min (n : Int).toNat IntKind.u8.bits = n := by rw [Int.toNat_natCast]; exact Nat.min_eq_left (by show n ≤ 8; omega)
  show (Op.shift .shr .u8 a.toNat k n).run P w = _
  unfold Op.shift
  rw [if_neg h0, h1]
  show Result.ok (Value.int .u8 ((a.toNat : Int).fdiv (2 ^ n))) w = _
  congr 2
  rw [UInt8.toNat_shiftRight, hb, Nat.mod_eq_of_lt (by omega : n < 8), Nat.shiftRight_eq_div_pow, Int.fdiv_eq_ediv_of_nonneg _ (by exact_mod_cast Nat.zero_le _)]
  norm_cast
theorem B_shl32 (a : Int) (k : IntKind) (n : Nat) (hn : Nat.ble n 32 = true) : (binS .shl xt x y (.int .i32 a) (.int k n)).run P w = .ok (.int .i32 (wrap32 (a * 2 ^ n))) w := by
  have hn := Nat.le_of_ble_eq_true hn
  have h0 : ¬ (n : Int) < 0 := by omega
  have h1 : min (n : Int).toNat IntKind.i32.bits = n := by rw [Int.toNat_natCast]; exact Nat.min_eq_left hn
  show (Op.shift .shl .i32 a k n).run P w = _
  unfold Op.shift
  rw [if_neg h0, h1]
  show Result.ok (Value.int .i32 (IntKind.i32.wrap (a * 2 ^ n))) w = _
  rw [IntWalk.i32_left]
theorem B_or32 (a b : Int) : (binS .or xt x y (.int .i32 a) (.int .i32 b)).run P w = .ok (.int .i32 (or32 a b)) w := rfl
end
end Go.Z
