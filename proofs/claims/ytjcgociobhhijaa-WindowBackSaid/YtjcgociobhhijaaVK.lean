/- Plain laws of keys: no program in sight. -/
import Derived.Test.YtjcgociobhhijaaVS
set_option linter.unusedVariables false
set_option linter.unusedSimpArgs false
namespace Go.Proofs.Ytjcgociobhhijaa.SX
open Go

/-- A number, laid with its sign turned. -/
def up (n : Int) : Nat := ((n + 9223372036854775808) % 18446744073709551616).toNat
def be8 (n : Int) : List UInt8 := [up n / 2 ^ 56, up n / 2 ^ 48, up n / 2 ^ 40, up n / 2 ^ 32, up n / 2 ^ 24, up n / 2 ^ 16, up n / 2 ^ 8, up n / 2 ^ 0].map fun x => UInt8.ofNat (x % 256)
@[simp] theorem be8_length (n : Int) : (be8 n).length = 8 := rfl
def vrest (v : Val) : List UInt8 := if v.k = 1 then be8 v.n else if v.k = 2 then repl 0 [0, 255] v.s.data.toList ++ [0, 1] else if v.k = 3 then [lowByte v.n] else []
def vkey (v : Val) : List UInt8 := lowByte v.k :: vrest v
def vkeys (xs : List Val) : List UInt8 := xs.flatMap vkey
theorem vkeys_take {xs : List Val} {k : Nat} (h : k < xs.length) : vkeys (xs.take (k + 1)) = vkeys (xs.take k) ++ vkey xs[k] := by
  unfold vkeys
  rw [List.take_succ_eq_append_getElem h, List.flatMap_append]
  simp only [List.flatMap_cons, List.flatMap_nil, List.append_nil]

theorem repl_length (c : UInt8) (new s : List UInt8) (h : new.length = 2) : (repl c new s).length ≤ 2 * s.length := by
  induction s with
  | nil => simp [repl]
  | cons b s ih =>
    have : repl c new (b :: s) = (if b = c then new else [b]) ++ repl c new s := rfl
    rw [this, List.length_append, List.length_cons]
    split <;> simp [*] <;> omega
theorem vkey_length (v : Val) : (vkey v).length ≤ 2 * v.s.size + 9 := by
  unfold vkey vrest
  rw [List.length_cons]
  split
  · simp
  · split
    · have := repl_length 0 [0, 255] v.s.data.toList rfl
      have e : v.s.data.toList.length = v.s.size := rfl
      rw [List.length_append]
      simp only [List.length_cons, List.length_nil]
      omega
    · split <;> simp
theorem vkeys_length {B : Nat} : ∀ xs : List Val, (∀ x ∈ xs, x.s.size ≤ B) → (vkeys xs).length ≤ xs.length * (2 * B + 9)
  | [], _ => by simp [vkeys]
  | x :: xs, h => by
    have ih := vkeys_length xs fun y hy => h y (by simp [hy])
    have h1 := vkey_length x
    have h2 := h x (by simp)
    have : vkeys (x :: xs) = vkey x ++ vkeys xs := rfl
    rw [this, List.length_append, List.length_cons, Nat.add_mul, Nat.one_mul]
    omega

theorem xor_top_lt {x : Nat} (h : x < 2 ^ 63) : x ^^^ 2 ^ 63 = 2 ^ 63 + x := by
  apply Nat.eq_of_testBit_eq
  intro i
  rw [Nat.testBit_xor]
  rcases Nat.lt_trichotomy i 63 with hi | hi | hi
  · rw [Nat.testBit_two_pow_add_gt hi, Nat.testBit_two_pow_of_ne (by omega)]
    simp
  · subst hi
    rw [Nat.testBit_two_pow_add_eq, Nat.testBit_two_pow_self]
    simp
  · rw [Nat.testBit_two_pow_of_ne (by omega)]
    have h1 : x.testBit i = false := Nat.testBit_lt_two_pow (Nat.lt_of_lt_of_le h (Nat.pow_le_pow_right (by omega) (by omega)))
    have h2 : (2 ^ 63 + x).testBit i = false := Nat.testBit_lt_two_pow (by
      have : 2 ^ 64 ≤ 2 ^ i := Nat.pow_le_pow_right (by omega) (by omega)
      omega)
    rw [h1, h2]
    rfl
theorem xor_top {x : Nat} (h : x < 2 ^ 64) : x ^^^ 2 ^ 63 = (x + 2 ^ 63) % 2 ^ 64 := by
  by_cases hx : x < 2 ^ 63
  · rw [xor_top_lt hx]; omega
  · obtain ⟨y, rfl⟩ : ∃ y, x = 2 ^ 63 + y := ⟨x - 2 ^ 63, by omega⟩
    have hy : y < 2 ^ 63 := by omega
    have h1 := xor_top_lt hy
    rw [← h1, Nat.xor_assoc, Nat.xor_self, Nat.xor_zero]
    have := h1 ▸ h
    omega

theorem bits_top (n : Int) : bits .xor .u64 (IntKind.u64.wrap n) 9223372036854775808 = (up n : Int) := by
  have h1 : IntKind.u64.wrap n = ((n % 18446744073709551616).toNat : Int) := by
    simp [IntKind.wrap, IntKind.signed, IntKind.bits]
    omega
  have hlt : (n % 18446744073709551616).toNat < 2 ^ 64 := by omega
  rw [h1]
  have key : ∀ a : Nat, a < 2 ^ 64 → (BitVec.ofInt 64 (a : Int) ^^^ BitVec.ofInt 64 ((2 ^ 63 : Nat) : Int)).toNat = (a + 2 ^ 63) % 2 ^ 64 := fun a ha => by
    rw [BitVec.ofInt_natCast, BitVec.ofInt_natCast, BitVec.toNat_xor, BitVec.toNat_ofNat, BitVec.toNat_ofNat, Nat.mod_eq_of_lt ha, Nat.mod_eq_of_lt (show 2 ^ 63 < 2 ^ 64 by decide), xor_top ha]
  show IntKind.u64.wrap (((BitVec.ofInt 64 (((n % 18446744073709551616).toNat : Nat) : Int) ^^^ BitVec.ofInt 64 ((2 ^ 63 : Nat) : Int)).toNat : Nat) : Int) = _
  rw [key _ hlt]
  simp [IntKind.wrap, IntKind.signed, IntKind.bits, up]
  omega

/-- The byte that is laid at a place. -/
theorem lay_byte (n : Int) {i : Nat} (hi : i ≤ 64) : IntKind.u8.wrap (Int.fdiv (bits .xor .u64 (IntKind.u64.wrap n) 9223372036854775808) (2 ^ (min i IntKind.u64.bits))) = ((UInt8.ofNat (up n / 2 ^ i % 256)).toNat : Int) := by
  rw [bits_top, show min i IntKind.u64.bits = i by simp [IntKind.bits]; omega]
  have h2 : (2 : Int) ^ i = ((2 ^ i : Nat) : Int) := by simp
  rw [h2, Int.fdiv_eq_ediv_of_nonneg _ (Int.natCast_nonneg _), ← Int.natCast_ediv, lowByte_wrap]
  unfold lowByte
  congr 2

/-- The last bytes of a number. -/
def beN (u : Nat) : Nat → List UInt8
  | 0 => []
  | i + 1 => UInt8.ofNat (u / 256 ^ i % 256) :: beN u i
theorem beN_eight (n : Int) : beN (up n) 8 = be8 n := by
  simp [beN, be8]
end Go.Proofs.Ytjcgociobhhijaa.SX
