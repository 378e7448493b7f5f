/- The functions of package value, and of the document's answer for it, that read keys: what each does. -/
import Derived.Test.YtjcgociobhhijaaVP
import Derived.Test.YtjcgociobhhijaaVU
set_option linter.unusedVariables false
set_option linter.unusedSimpArgs false
set_option maxRecDepth 100000
namespace Go.Proofs.Ytjcgociobhhijaa
open Go Go.Proofs.Ytjcgociobhhijaa.SX
namespace Va

theorem ext_drop (s : ByteArray) (i : Nat) : s.extract i s.size = txt (s.data.toList.drop i) := by
  refine ba_ext ?_
  simp [txt]
  exact List.take_of_length_le (by rw [List.length_drop]; exact Nat.le_refl _)
theorem ext_take (s : ByteArray) (n : Nat) : s.extract 0 n = txt (s.data.toList.take n) := by
  refine ba_ext ?_
  simp [txt]
theorem ext_mid (s : ByteArray) (i j : Nat) : s.extract i j = txt ((s.data.toList.drop i).take (j - i)) := by
  refine ba_ext ?_
  simp [txt, List.drop_take]
theorem txt_toList (l : List UInt8) : (txt l).data.toList = l := by simp [txt]
theorem txt_size (l : List UInt8) : (txt l).size = l.length := by simp [txt, ByteArray.size]
theorem size_len (s : ByteArray) : s.data.toList.length = s.size := rfl
theorem bt_get {s : ByteArray} {i : Nat} (h : i < s.size) : bt s (i : Int) = ((s.data.toList[i]'(by rw [size_len]; exact h)).toNat : Int) := by
  unfold bt
  rw [dif_pos (by simpa using h)]
  rfl

section
variable {w : World} {K : Value → World → Prop} {p q : Option Addr} {n c m d : Nat} {xs ys : List Val} {a b v : Val} {l : List UInt8} {s : ByteArray}

theorem set_val {e : Nat} {g : Nat} {x y z : Value} {Q : World → Prop} (v : Val) (hb : Blk w g [x, y, z] e) (hQ : ∀ w', Blk w' g v.cells e → Upd (One g) w w' → Q w') :
    CanSt w ((Addr.mk g 0 none).add 0) ∧ ∀ w2, w2 = w.setCell ((Addr.mk g 0 none).add 0) (.int .i64 v.k) →
    CanSt w2 ((Addr.mk g 0 none).add 1) ∧ ∀ w3, w3 = w2.setCell ((Addr.mk g 0 none).add 1) (.int .i64 v.n) →
    CanSt w3 ((Addr.mk g 0 none).add 2) ∧ ∀ w4, w4 = w3.setCell ((Addr.mk g 0 none).add 2) (.string v.s) → Q w4 :=
  hb.store (i := 0) (by simp) rfl fun w2 hb2 hu2 _ => hb2.store (i := 1) (by simp) rfl fun w3 hb3 hu3 _ => hb3.store (i := 2) (by simp) rfl fun w4 hb4 hu4 _ => hQ w4 hb4 ((hu2.then hu3).then hu4)

theorem bits_or {x y : Nat} (hx : x < 2 ^ 64) (hy : y < 2 ^ 64) (hxy : x ||| y < 2 ^ 64) : bits .or .u64 (x : Int) (y : Int) = ((x ||| y : Nat) : Int) := by
  have key : (BitVec.ofInt 64 (x : Int) ||| BitVec.ofInt 64 (y : Int)).toNat = x ||| y := by
    rw [BitVec.ofInt_natCast, BitVec.ofInt_natCast, BitVec.toNat_or, BitVec.toNat_ofNat, BitVec.toNat_ofNat, Nat.mod_eq_of_lt hx, Nat.mod_eq_of_lt hy]
  show IntKind.u64.wrap (((BitVec.ofInt 64 (x : Int) ||| BitVec.ofInt 64 (y : Int)).toNat : Nat) : Int) = _
  rw [key]
  generalize x ||| y = z at *
  simp [IntKind.wrap, IntKind.signed, IntKind.bits]
  omega
theorem or_nat {u y : Nat} (hu : u < 72057594037927936) (hy : y < 256) : bits .or .u64 ((256 * u : Nat) : Int) (y : Int) = ((u * 256 + y : Nat) : Int) := by
  have h3 : 256 * u ||| y = 256 * u + y := by
    have := Nat.two_pow_add_eq_or_of_lt (i := 8) (b := y) (by omega) u
    rw [show (2 : Nat) ^ 8 = 256 from rfl] at this
    exact this.symm
  rw [bits_or (by omega) (by omega) (by rw [h3]; omega), h3, Nat.mul_comm]
theorem wrap_shl (u : Nat) (hu : u < 72057594037927936) : IntKind.u64.wrap ((u : Int) * 256) = ((256 * u : Nat) : Int) := by
  simp [IntKind.wrap, IntKind.signed, IntKind.bits]
  omega
theorem wrap_u8 (y : Nat) (hy : y < 256) : IntKind.u64.wrap (y : Int) = (y : Int) := by
  simp [IntKind.wrap, IntKind.signed, IntKind.bits]
  omega
theorem pow_eight : (2 : Int) ^ (min (8 : Int).toNat IntKind.u64.bits) = 256 := by decide
theorem or_byte {u y : Nat} (hu : u < 72057594037927936) (hy : y < 256) : bits .or .u64 (IntKind.u64.wrap ((u : Int) * 2 ^ (min (8 : Int).toNat IntKind.u64.bits))) (IntKind.u64.wrap (y : Int)) = ((u * 256 + y : Nat) : Int) := by
  rw [pow_eight, wrap_shl u hu, wrap_u8 y hy, or_nat hu hy]

theorem xor_down {u : Nat} (hu : u < 18446744073709551616) : IntKind.i64.wrap (bits .xor .u64 (u : Int) 9223372036854775808) = (u : Int) - 9223372036854775808 := by
  have h1 : IntKind.u64.wrap (u : Int) = (u : Int) := by
    simp [IntKind.wrap, IntKind.signed, IntKind.bits]
    omega
  have h2 := bits_top (u : Int)
  rw [h1] at h2
  rw [h2]
  unfold up
  simp [IntKind.wrap, IntKind.signed, IntKind.bits]
  omega

end
end Va
end Go.Proofs.Ytjcgociobhhijaa
