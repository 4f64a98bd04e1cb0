/- Rules for bits. Program independent. -/
import Derived.Test.YtfbmdbgjfnkmiaaOwn
import Derived.Test.YtfbmdbgjfnkmiaaBl
set_option linter.unusedVariables false
set_option linter.unusedSimpArgs false
namespace Go.Proofs.Ytfbmdbgjfnkmiaa

theorem ofInt_nat {w a : Nat} (h : a < 2 ^ w) : (BitVec.ofInt w (a : Int)).toNat = a := by
  rw [BitVec.toNat_ofInt]
  have : ((a : Int) % ((2 ^ w : Nat) : Int)) = ((a % 2 ^ w : Nat) : Int) := by simp
  rw [this, Nat.mod_eq_of_lt h]; rfl

theorem wrap_u64_nat {a : Nat} (h : a < 18446744073709551616) : IntKind.u64.wrap (a : Int) = a := by
  simp [IntKind.wrap, IntKind.bits, IntKind.signed]; omega
theorem wrap_u32_nat {a : Nat} (h : a < 4294967296) : IntKind.u32.wrap (a : Int) = a := by
  simp [IntKind.wrap, IntKind.bits, IntKind.signed]; omega

theorem or_u64 {a b : Nat} (h : a < 18446744073709551616 ∧ b < 18446744073709551616) : bitsV .or .u64 (a : Int) (b : Int) = some (.int .u64 ((a ||| b : Nat) : Int)) := by
  have h1 : (BitVec.ofInt 64 (a : Int) ||| BitVec.ofInt 64 (b : Int)).toNat = a ||| b := by
    rw [BitVec.toNat_or, ofInt_nat h.1, ofInt_nat h.2]
  have h2 : a ||| b < 18446744073709551616 := Nat.or_lt_two_pow (n := 64) h.1 h.2
  show some (Value.int .u64 (IntKind.u64.wrap ((BitVec.ofInt 64 (a : Int) ||| BitVec.ofInt 64 (b : Int)).toNat))) = _
  rw [h1, wrap_u64_nat h2]
theorem or_add {c s x : Nat} (h : c < 2 ^ s) : c ||| x * 2 ^ s = c + x * 2 ^ s := by
  have := Nat.two_pow_add_eq_or_of_lt h x
  rw [Nat.or_comm, Nat.mul_comm x, ← this, Nat.add_comm]
theorem or_add' {c s x : Nat} (h : c < 2 ^ s) : x * 2 ^ s ||| c = x * 2 ^ s + c := by
  rw [Nat.or_comm, or_add h, Nat.add_comm]
theorem or_add32 {x y : Nat} (h : x < 4294967296) : x ||| y * 4294967296 = x + y * 4294967296 := or_add (s := 32) h
theorem or_add32' {x y : Nat} (h : x < 4294967296) : y * 4294967296 ||| x = y * 4294967296 + x := or_add' (s := 32) h
attribute [go_sem] or_add32 or_add32'
theorem xor_u32 {a : Nat} (h : a < 4294967296) : unP .xor (.val (.int .u32 (a : Int))) = some (.val (.int .u32 ((4294967295 - a : Nat) : Int))) := by
  have h1 : (BitVec.ofInt 32 (IntKind.u32.max) ^^^ BitVec.ofInt 32 (a : Int)).toNat = 4294967295 - a := by
    have e : BitVec.ofInt 32 IntKind.u32.max = BitVec.allOnes 32 := by decide
    rw [e, BitVec.allOnes_xor, BitVec.toNat_not, ofInt_nat h]
  have : unV .xor (.int .u32 (a : Int)) = some (.int .u32 ((4294967295 - a : Nat) : Int)) := by
    show some (Value.int .u32 (IntKind.u32.wrap ((BitVec.ofInt 32 IntKind.u32.max ^^^ BitVec.ofInt 32 (a : Int)).toNat))) = _
    rw [h1, wrap_u32_nat (by omega)]
  simp only [unP, this]; rfl
theorem cast_pow2 (s : Nat) : (2 : Int) ^ s = ((2 ^ s : Nat) : Int) := by simp
attribute [go_sem] or_u64 xor_u32 cast_pow2

end Go.Proofs.Ytfbmdbgjfnkmiaa
