/- Verification conditions of functions, and that they are theirs: the kernel reckons both sides. -/
import Derived.Test.YtjcgociobhhijaaDoorNm
namespace Go.Proofs.YtjcgociobhhijaaDoor
open Go Go.Proofs.YtjcgociobhhijaaDoor.SX
set_option maxRecDepth 100000
set_option linter.unusedVariables false

/-- strings.Count -/
def C.strings_Count (s1 : ByteArray) (substr1 : ByteArray) (w : World) (K : Value → World → Prop) : Prop :=
  ifB (((substr1.size : Nat) : Int) == (0 : Int)) (
    CallsV prog F.unicode_utf8_RuneCountInString #[.string s1] w (fun v1 wv1 =>
      ∃ (r1 : Int),
      v1 = .int .i64 r1 ∧
      K (.int .i64 (IntKind.i64.wrap (r1 + (1 : Int)))) wv1)) (
    ifB (((substr1.size : Nat) : Int) == (1 : Int)) (
      0 ≤ (0 : Int) ∧ (0 : Int) < ((substr1.size : Nat) : Int) ∧
      CallsV prog F.internal_bytealg_CountString #[.string s1, .int .u8 (bt substr1 (0 : Int))] w (fun v2 wv2 =>
        ∃ (r2 : Int),
        v2 = .int .i64 r2 ∧
        K (.int .i64 r2) wv2)) (
      ∃ (Iv1 : ByteArray → Int → World → Prop) (m1 : ByteArray → Int → World → Nat),
      Iv1 s1 0 w ∧
      ∀ (s2 : ByteArray) (n1 : Int) wv3, Iv1 s2 n1 wv3 →
      CallsV prog F.strings_Index #[.string s2, .string substr1] wv3 (fun v3 wv4 =>
        ∃ (r3 : Int),
        v3 = .int .i64 r3 ∧
        ifB (r3 == (-1)) (
          K (.int .i64 n1) wv4) (
          0 ≤ IntKind.i64.wrap (r3 + ((substr1.size : Nat) : Int)) ∧ IntKind.i64.wrap (r3 + ((substr1.size : Nat) : Int)) ≤ ((s2.size : Nat) : Int) ∧
          Iv1 (s2.extract ((IntKind.i64.wrap (r3 + ((substr1.size : Nat) : Int))).toNat) s2.size) (IntKind.i64.wrap (n1 + (1 : Int))) wv4 ∧ m1 (s2.extract ((IntKind.i64.wrap (r3 + ((substr1.size : Nat) : Int))).toNat) s2.size) (IntKind.i64.wrap (n1 + (1 : Int))) wv4 < m1 s2 n1 wv3))))
def An.strings_Count : Ann := ⟨[], [(6, [(0, 9), (5, 3)], [1])], []⟩
theorem R.strings_Count {s1 : ByteArray} {substr1 : ByteArray} {w : World} {K : Value → World → Prop} (h : C.strings_Count s1 substr1 w K) : CallsV prog F.strings_Count #[.string s1, .string substr1] w K :=
  vcFn.calls (an := An.strings_Count) mixed tabOK eqsOK Go.Proofs.Tryd.func120 (by kernel_rfl) (by kernel_rfl) (by kernel_rfl) ((by kernel_rfl : vcFn prog eqs tab An.strings_Count Go.Proofs.Tryd.f120 [.string s1, .string substr1] w K = C.strings_Count s1 substr1 w K).mpr h)

/-- strings.Index -/
def C.strings_Index (s1 : ByteArray) (substr1 : ByteArray) (w : World) (K : Value → World → Prop) : Prop :=
  CallsV prog F.internal_stringslite_Index #[.string s1, .string substr1] w (fun v1 wv1 =>
    ∃ (r1 : Int),
    v1 = .int .i64 r1 ∧
    K (.int .i64 r1) wv1)
def An.strings_Index : Ann := ⟨[], [], []⟩
theorem R.strings_Index {s1 : ByteArray} {substr1 : ByteArray} {w : World} {K : Value → World → Prop} (h : C.strings_Index s1 substr1 w K) : CallsV prog F.strings_Index #[.string s1, .string substr1] w K :=
  vcFn.calls (an := An.strings_Index) mixed tabOK eqsOK Go.Proofs.Tryd.func121 (by kernel_rfl) (by kernel_rfl) (by kernel_rfl) ((by kernel_rfl : vcFn prog eqs tab An.strings_Index Go.Proofs.Tryd.f121 [.string s1, .string substr1] w K = C.strings_Index s1 substr1 w K).mpr h)

/-- unicode/utf8.DecodeRuneInString -/
def C.unicode_utf8_DecodeRuneInString (s1 : ByteArray) (w : World) (K : Value → World → Prop) : Prop :=
  ifB (!sEq s1 (bs [])) (
    0 ≤ (0 : Int) ∧ (0 : Int) < ((s1.size : Nat) : Int) ∧
    ifB (decide ((bt s1 (0 : Int)) < (128 : Int))) (
      0 ≤ (0 : Int) ∧ (0 : Int) < ((s1.size : Nat) : Int) ∧
      K (.tuple #[.int .i32 (IntKind.i32.wrap (bt s1 (0 : Int))), .int .i64 1]) w) (
      CallsV prog F.unicode_utf8_decodeRuneInStringSlow #[.string s1] w (fun v1 wv1 =>
        ∃ (ra1 : Int) (rb1 : Int),
        v1 = .tuple #[.int .i32 ra1, .int .i64 rb1] ∧
        K (.tuple #[.int .i32 ra1, .int .i64 rb1]) wv1))) (
    CallsV prog F.unicode_utf8_decodeRuneInStringSlow #[.string s1] w (fun v2 wv2 =>
      ∃ (ra2 : Int) (rb2 : Int),
      v2 = .tuple #[.int .i32 ra2, .int .i64 rb2] ∧
      K (.tuple #[.int .i32 ra2, .int .i64 rb2]) wv2))
def An.unicode_utf8_DecodeRuneInString : Ann := ⟨[], [], []⟩
theorem R.unicode_utf8_DecodeRuneInString {s1 : ByteArray} {w : World} {K : Value → World → Prop} (h : C.unicode_utf8_DecodeRuneInString s1 w K) : CallsV prog F.unicode_utf8_DecodeRuneInString #[.string s1] w K :=
  vcFn.calls (an := An.unicode_utf8_DecodeRuneInString) mixed tabOK eqsOK Go.Proofs.Tryd.func122 (by kernel_rfl) (by kernel_rfl) (by kernel_rfl) ((by kernel_rfl : vcFn prog eqs tab An.unicode_utf8_DecodeRuneInString Go.Proofs.Tryd.f122 [.string s1] w K = C.unicode_utf8_DecodeRuneInString s1 w K).mpr h)

/-- afflux/calc.Neg -/
def C.calc_Neg (a1 : Int) (w : World) (K : Value → World → Prop) : Prop :=
  ∀ b1 wv1, New w (.cells #[.int .i64 a1] T.int64) b1 wv1 →
  CallsV prog F.calc_Sub #[.int .i64 0, .slice (some (Addr.mk b1 0 none)) 1 1] wv1 (fun v1 wv2 =>
    ∃ (ra1 : Int) (rb1 : Int),
    v1 = .tuple #[.int .i64 ra1, .int .i64 rb1] ∧
    K (.tuple #[.int .i64 ra1, .int .i64 rb1]) wv2)
def An.calc_Neg : Ann := ⟨[], [], []⟩
theorem R.calc_Neg {a1 : Int} {w : World} {K : Value → World → Prop} (h : C.calc_Neg a1 w K) : CallsV prog F.calc_Neg #[.int .i64 a1] w K :=
  vcFn.calls (an := An.calc_Neg) mixed tabOK eqsOK Go.Proofs.Tryd.func123 (by kernel_rfl) (by kernel_rfl) (by kernel_rfl) ((by kernel_rfl : vcFn prog eqs tab An.calc_Neg Go.Proofs.Tryd.f123 [.int .i64 a1] w K = C.calc_Neg a1 w K).mpr h)

/-- afflux/affluxref01.trim -/
def C.affluxref01_trim (d1p : Option Addr) (d1n d1c : Nat) (w : World) (K : Value → World → Prop) : Prop :=
  ∃ (Iv1 : Option Addr → Nat → Nat → World → Prop) (m1 : Option Addr → Nat → Nat → World → Nat),
  Iv1 d1p d1n d1c w ∧
  ∀ (d2p : Option Addr) (d2n d2c : Nat) wv1, Iv1 d2p d2n d2c wv1 →
  ifB (decide ((0 : Int) < ((d2n : Nat) : Int))) (
    ∃ a1, d2p = some a1 ∧ 0 ≤ IntKind.i64.wrap (((d2n : Nat) : Int) - (1 : Int)) ∧ IntKind.i64.wrap (((d2n : Nat) : Int) - (1 : Int)) < ((d2n : Nat) : Int) ∧
    ∃ (e1 : Int),
    wv1.cell? (a1.add ((IntKind.i64.wrap (((d2n : Nat) : Int) - (1 : Int))).toNat * 1)) = some (.int .i64 e1) ∧
    ifB (e1 == (0 : Int)) (
      0 ≤ IntKind.i64.wrap (((d2n : Nat) : Int) - (1 : Int)) ∧ IntKind.i64.wrap (((d2n : Nat) : Int) - (1 : Int)) ≤ ((d2c : Nat) : Int) ∧
      Iv1 (cutAt d2p 0 d2c 1) (((IntKind.i64.wrap (((d2n : Nat) : Int) - (1 : Int))).toNat) - 0) (d2c - 0) wv1 ∧ m1 (cutAt d2p 0 d2c 1) (((IntKind.i64.wrap (((d2n : Nat) : Int) - (1 : Int))).toNat) - 0) (d2c - 0) wv1 < m1 d2p d2n d2c wv1) (
      K (.slice d2p d2n d2c) wv1)) (
    K (.slice d2p d2n d2c) wv1)
def An.affluxref01_trim : Ann := ⟨[], [(1, [(0, 40)], [])], []⟩
theorem R.affluxref01_trim {d1p : Option Addr} {d1n d1c : Nat} {w : World} {K : Value → World → Prop} (h : C.affluxref01_trim d1p d1n d1c w K) : CallsV prog F.affluxref01_trim #[.slice d1p d1n d1c] w K :=
  vcFn.calls (an := An.affluxref01_trim) mixed tabOK eqsOK Go.Proofs.Tryd.func124 (by kernel_rfl) (by kernel_rfl) (by kernel_rfl) ((by kernel_rfl : vcFn prog eqs tab An.affluxref01_trim Go.Proofs.Tryd.f124 [.slice d1p d1n d1c] w K = C.affluxref01_trim d1p d1n d1c w K).mpr h)

/-- afflux/affluxref01.at -/
def C.affluxref01_at (d1p : Option Addr) (d1n d1c : Nat) (i1 : Int) (w : World) (K : Value → World → Prop) : Prop :=
  ifB (decide (i1 < ((d1n : Nat) : Int))) (
    ∃ a1, d1p = some a1 ∧ 0 ≤ i1 ∧ i1 < ((d1n : Nat) : Int) ∧
    ∃ (e1 : Int),
    w.cell? (a1.add (i1.toNat * 1)) = some (.int .i64 e1) ∧
    K (.int .i64 e1) w) (
    K (.int .i64 0) w)
def An.affluxref01_at : Ann := ⟨[], [], []⟩
theorem R.affluxref01_at {d1p : Option Addr} {d1n d1c : Nat} {i1 : Int} {w : World} {K : Value → World → Prop} (h : C.affluxref01_at d1p d1n d1c i1 w K) : CallsV prog F.affluxref01_at #[.slice d1p d1n d1c, .int .i64 i1] w K :=
  vcFn.calls (an := An.affluxref01_at) mixed tabOK eqsOK Go.Proofs.Tryd.func125 (by kernel_rfl) (by kernel_rfl) (by kernel_rfl) ((by kernel_rfl : vcFn prog eqs tab An.affluxref01_at Go.Proofs.Tryd.f125 [.slice d1p d1n d1c, .int .i64 i1] w K = C.affluxref01_at d1p d1n d1c i1 w K).mpr h)

/-- (*strings.Builder).grow -/
def C.strings_Builder_grow (b1 : Option Addr) (n1 : Int) (w : World) (K : Value → World → Prop) : Prop :=
  ∃ ba1, b1 = some ba1 ∧
  ∃ (buf1p : Option Addr) (buf1n buf1c : Nat),
  w.drew.cell? (ba1.add 1) = some (.slice buf1p buf1n buf1c) ∧
  ∃ ba2, b1 = some ba2 ∧
  ∃ (buf2p : Option Addr) (buf2n buf2c : Nat),
  w.drew.cell? (ba2.add 1) = some (.slice buf2p buf2n buf2c) ∧
  CallsV prog F.internal_bytealg_MakeNoZero #[.int .i64 (IntKind.i64.wrap ((IntKind.i64.wrap ((2 : Int) * ((buf1c : Nat) : Int))) + n1))] w.drew (fun v1 wv1 =>
    ∃ (r1p : Option Addr) (r1n r1c : Nat),
    v1 = .slice r1p r1n r1c ∧
    wv1.cell? (ba2.add 1) = some (.slice buf2p buf2n buf2c) ∧
    0 ≤ ((buf2n : Nat) : Int) ∧ ((buf2n : Nat) : Int) ≤ ((r1c : Nat) : Int) ∧
    ∃ ba3, b1 = some ba3 ∧
    ∃ (buf3p : Option Addr) (buf3n buf3c : Nat),
    wv1.cell? (ba3.add 1) = some (.slice buf3p buf3n buf3c) ∧
    BuiltV prog .copy #[T.s_uint8, T.s_uint8] T.int #[.slice (cutAt r1p 0 r1c 1) ((((buf2n : Nat) : Int).toNat) - 0) (r1c - 0), .slice buf3p buf3n buf3c] wv1 (fun v2 wv2 =>
      ∃ (c1 : Int),
      v2 = .int .i64 c1 ∧
      ∃ ba4, b1 = some ba4 ∧
      CanSt wv2 (ba4.add 1) ∧ ∀ wv3, wv3 = wv2.setCell (ba4.add 1) (.slice (cutAt r1p 0 r1c 1) ((((buf2n : Nat) : Int).toNat) - 0) (r1c - 0)) →
      K (.tuple #[]) wv3))
def An.strings_Builder_grow : Ann := ⟨[(0, .sil 0 [] (.sil 1 [] (.sil 2 [] (.sil 3 [] (.sil 4 [] (.sil 5 [] (.sil 6 [] (.sil 7 [] (.sil 9 [] (.sil 10 [] (.sil 11 [] (.sil 12 [8] (.sil 13 [] (.act 8 (.sil 14 [] (.sil 15 [] (.done)))))))))))))))))], [], []⟩
theorem R.strings_Builder_grow {b1 : Option Addr} {n1 : Int} {w : World} {K : Value → World → Prop} (h : C.strings_Builder_grow b1 n1 w K) : CallsV prog F.strings_Builder_grow #[.pointer b1, .int .i64 n1] w K :=
  vcFn.calls (an := An.strings_Builder_grow) mixed tabOK eqsOK Go.Proofs.Tryd.func127 (by kernel_rfl) (by kernel_rfl) (by kernel_rfl) ((by kernel_rfl : vcFn prog eqs tab An.strings_Builder_grow Go.Proofs.Tryd.f127 [.pointer b1, .int .i64 n1] w K = C.strings_Builder_grow b1 n1 w K).mpr h)

/-- afflux/schema.unlike[int] -/
def C.schema_unlike_int (l1p : Option Addr) (l1n l1c : Nat) (same1f : Nat) (same1c : Array Value) (w : World) (K : Value → World → Prop) : Prop :=
  ∃ (Iv1 : Int → World → Prop) (m1 : Int → World → Nat),
  Iv1 0 w ∧
  ∀ (s111 : Int) wv1, Iv1 s111 wv1 →
  ifB (decide (s111 < ((l1n : Nat) : Int))) (
    ∃ a1, l1p = some a1 ∧ 0 ≤ s111 ∧ s111 < ((l1n : Nat) : Int) ∧
    ∃ (e1 : Int),
    wv1.cell? (a1.add (s111.toNat * 1)) = some (.int .i64 e1) ∧
    0 ≤ s111 ∧ s111 ≤ ((l1c : Nat) : Int) ∧
    ∃ (Iv2 : Int → World → Prop) (m2 : Int → World → Nat),
    Iv2 0 wv1 ∧
    ∀ (s201 : Int) wv2, Iv2 s201 wv2 →
    ifB (decide (s201 < ((s111.toNat - 0 : Nat) : Int))) (
      ∃ a2, cutAt l1p 0 l1c 1 = some a2 ∧ 0 ≤ s201 ∧ s201 < ((s111.toNat - 0 : Nat) : Int) ∧
      ∃ (e2 : Int),
      wv2.cell? (a2.add (s201.toNat * 1)) = some (.int .i64 e2) ∧
      CallsV prog same1f (#[] ++ #[.int .i64 e1, .int .i64 e2] ++ same1c) wv2 (fun v1 wv3 =>
        ∃ (r1 : Bool),
        v1 = .bool r1 ∧
        ifB r1 (
          K (.bool false) wv3) (
          Iv2 (IntKind.i64.wrap (s201 + (1 : Int))) wv3 ∧ m2 (IntKind.i64.wrap (s201 + (1 : Int))) wv3 < m2 s201 wv2))) (
      Iv1 (IntKind.i64.wrap (s111 + (1 : Int))) wv2 ∧ m1 (IntKind.i64.wrap (s111 + (1 : Int))) wv2 < m1 s111 wv1)) (
    K (.bool true) wv1)
def An.schema_unlike_int : Ann := ⟨[], [(2, [(11, 3)], [0, 1, 9, 10]), (5, [(20, 3)], [0, 1, 6, 9, 10, 11, 18, 19])], []⟩
theorem R.schema_unlike_int {l1p : Option Addr} {l1n l1c : Nat} {same1f : Nat} {same1c : Array Value} {w : World} {K : Value → World → Prop} (h : C.schema_unlike_int l1p l1n l1c same1f same1c w K) : CallsV prog F.schema_unlike_int #[.slice l1p l1n l1c, .func (.func same1f) #[] same1c] w K :=
  vcFn.calls (an := An.schema_unlike_int) mixed tabOK eqsOK Go.Proofs.Tryd.func128 (by kernel_rfl) (by kernel_rfl) (by kernel_rfl) ((by kernel_rfl : vcFn prog eqs tab An.schema_unlike_int Go.Proofs.Tryd.f128 [.slice l1p l1n l1c, .func (.func same1f) #[] same1c] w K = C.schema_unlike_int l1p l1n l1c same1f same1c w K).mpr h)

/-- afflux/schema.places$1 -/
def C.schema_places_1 (a1 : Int) (b1 : Int) (w : World) (K : Value → World → Prop) : Prop :=
  K (.bool (a1 == b1)) w
def An.schema_places_1 : Ann := ⟨[], [], []⟩
theorem R.schema_places_1 {a1 : Int} {b1 : Int} {w : World} {K : Value → World → Prop} (h : C.schema_places_1 a1 b1 w K) : CallsV prog F.schema_places_1 #[.int .i64 a1, .int .i64 b1] w K :=
  vcFn.calls (an := An.schema_places_1) mixed tabOK eqsOK Go.Proofs.Tryd.func129 (by kernel_rfl) (by kernel_rfl) (by kernel_rfl) ((by kernel_rfl : vcFn prog eqs tab An.schema_places_1 Go.Proofs.Tryd.f129 [.int .i64 a1, .int .i64 b1] w K = C.schema_places_1 a1 b1 w K).mpr h)

/-- internal/stringslite.HasPrefix -/
def C.internal_stringslite_HasPrefix (s1 : ByteArray) (prefixv1 : ByteArray) (w : World) (K : Value → World → Prop) : Prop :=
  ifB (decide (((prefixv1.size : Nat) : Int) ≤ ((s1.size : Nat) : Int))) (
    0 ≤ ((prefixv1.size : Nat) : Int) ∧ ((prefixv1.size : Nat) : Int) ≤ ((s1.size : Nat) : Int) ∧
    K (.bool (sEq (s1.extract 0 (((prefixv1.size : Nat) : Int).toNat)) prefixv1)) w) (
    K (.bool false) w)
def An.internal_stringslite_HasPrefix : Ann := ⟨[], [], []⟩
theorem R.internal_stringslite_HasPrefix {s1 : ByteArray} {prefixv1 : ByteArray} {w : World} {K : Value → World → Prop} (h : C.internal_stringslite_HasPrefix s1 prefixv1 w K) : CallsV prog F.internal_stringslite_HasPrefix #[.string s1, .string prefixv1] w K :=
  vcFn.calls (an := An.internal_stringslite_HasPrefix) mixed tabOK eqsOK Go.Proofs.Tryd.func130 (by kernel_rfl) (by kernel_rfl) (by kernel_rfl) ((by kernel_rfl : vcFn prog eqs tab An.internal_stringslite_HasPrefix Go.Proofs.Tryd.f130 [.string s1, .string prefixv1] w K = C.internal_stringslite_HasPrefix s1 prefixv1 w K).mpr h)

/-- internal/stringslite.Index -/
def C.internal_stringslite_Index (s1 : ByteArray) (substr1 : ByteArray) (w : World) (K : Value → World → Prop) : Prop :=
  ∃ Jv1 : World → Prop,
  (ifB (((substr1.size : Nat) : Int) == (0 : Int)) (
    K (.int .i64 0) w) (
    ifB (sEq substr1 s1) (
      K (.int .i64 0) w) (
      ifB (((substr1.size : Nat) : Int) == (1 : Int)) (
        0 ≤ (0 : Int) ∧ (0 : Int) < ((substr1.size : Nat) : Int) ∧
        CallsV prog F.internal_stringslite_IndexByte #[.string s1, .int .u8 (bt substr1 (0 : Int))] w (fun v1 wv1 =>
          ∃ (r1 : Int),
          v1 = .int .i64 r1 ∧
          K (.int .i64 r1) wv1)) (
        ifB (decide (((s1.size : Nat) : Int) ≤ ((substr1.size : Nat) : Int))) (
          K (.int .i64 (-1)) w) (
          ∃ (x1 : Int),
          w.cell? (Addr.mk 0 0 none) = some (.int .i64 x1) ∧
          ifB (decide (((substr1.size : Nat) : Int) ≤ x1)) (
            ifB (decide (((s1.size : Nat) : Int) ≤ (64 : Int))) (
              CallsV prog F.internal_bytealg_IndexString #[.string s1, .string substr1] w (fun v2 wv2 =>
                ∃ (r2 : Int),
                v2 = .int .i64 r2 ∧
                K (.int .i64 r2) wv2)) (
              Jv1 w)) (
            Jv1 w)))))) ∧
  (∀ wv3, Jv1 wv3 →
  0 ≤ (0 : Int) ∧ (0 : Int) < ((substr1.size : Nat) : Int) ∧
  0 ≤ (1 : Int) ∧ (1 : Int) < ((substr1.size : Nat) : Int) ∧
  ∃ (Iv1 : Int → Int → World → Prop) (m1 : Int → Int → World → Nat),
  Iv1 0 0 wv3 ∧
  ∀ (i1 : Int) (fails1 : Int) wv4, Iv1 i1 fails1 wv4 →
  ifB (decide (i1 < (IntKind.i64.wrap ((IntKind.i64.wrap (((s1.size : Nat) : Int) - ((substr1.size : Nat) : Int))) + (1 : Int))))) (
    ∃ Jv2 : Int → World → Prop,
    (0 ≤ i1 ∧ i1 < ((s1.size : Nat) : Int) ∧
    ifB ((bt s1 i1) != (bt substr1 (0 : Int))) (
      0 ≤ IntKind.i64.wrap ((IntKind.i64.wrap (((s1.size : Nat) : Int) - ((substr1.size : Nat) : Int))) + (1 : Int)) ∧ IntKind.i64.wrap ((IntKind.i64.wrap (((s1.size : Nat) : Int) - ((substr1.size : Nat) : Int))) + (1 : Int)) ≤ ((s1.size : Nat) : Int) ∧
      0 ≤ IntKind.i64.wrap (i1 + (1 : Int)) ∧ IntKind.i64.wrap (i1 + (1 : Int)) ≤ (((IntKind.i64.wrap ((IntKind.i64.wrap (((s1.size : Nat) : Int) - ((substr1.size : Nat) : Int))) + (1 : Int))).toNat : Nat) : Int) ∧
      CallsV prog F.internal_stringslite_IndexByte #[.string (s1.extract ((IntKind.i64.wrap (i1 + (1 : Int))).toNat) ((IntKind.i64.wrap ((IntKind.i64.wrap (((s1.size : Nat) : Int) - ((substr1.size : Nat) : Int))) + (1 : Int))).toNat)), .int .u8 (bt substr1 (0 : Int))] wv4 (fun v3 wv5 =>
        ∃ (r3 : Int),
        v3 = .int .i64 r3 ∧
        ifB (decide (r3 < (0 : Int))) (
          K (.int .i64 (-1)) wv5) (
          Jv2 (IntKind.i64.wrap (i1 + (IntKind.i64.wrap (r3 + (1 : Int))))) wv5))) (
      Jv2 i1 wv4)) ∧
    (∀ (i2 : Int) wv6, Jv2 i2 wv6 →
    ∃ Jv3 : World → Prop,
    (0 ≤ IntKind.i64.wrap (i2 + (1 : Int)) ∧ IntKind.i64.wrap (i2 + (1 : Int)) < ((s1.size : Nat) : Int) ∧
    ifB ((bt s1 (IntKind.i64.wrap (i2 + (1 : Int)))) == (bt substr1 (1 : Int))) (
      0 ≤ IntKind.i64.wrap (i2 + ((substr1.size : Nat) : Int)) ∧ IntKind.i64.wrap (i2 + ((substr1.size : Nat) : Int)) ≤ ((s1.size : Nat) : Int) ∧
      0 ≤ i2 ∧ i2 ≤ (((IntKind.i64.wrap (i2 + ((substr1.size : Nat) : Int))).toNat : Nat) : Int) ∧
      ifB (sEq (s1.extract i2.toNat ((IntKind.i64.wrap (i2 + ((substr1.size : Nat) : Int))).toNat)) substr1) (
        K (.int .i64 i2) wv6) (
        Jv3 wv6)) (
      Jv3 wv6)) ∧
    (∀ wv7, Jv3 wv7 →
    ∃ Jv4 : Bool → World → Prop,
    (∃ (x2 : Int),
    wv7.cell? (Addr.mk 0 0 none) = some (.int .i64 x2) ∧
    ifB (decide (((substr1.size : Nat) : Int) ≤ x2)) (
      CallsV prog F.internal_bytealg_Cutover #[.int .i64 (IntKind.i64.wrap (i2 + (1 : Int)))] wv7 (fun v4 wv8 =>
        ∃ (r4 : Int),
        v4 = .int .i64 r4 ∧
        Jv4 (decide (r4 < (IntKind.i64.wrap (fails1 + (1 : Int))))) wv8)) (
      Jv4 false wv7)) ∧
    (∀ (s1071 : Bool) wv9, Jv4 s1071 wv9 →
    ifB s1071 (
      0 ≤ IntKind.i64.wrap (i2 + (1 : Int)) ∧ IntKind.i64.wrap (i2 + (1 : Int)) ≤ ((s1.size : Nat) : Int) ∧
      CallsV prog F.internal_bytealg_IndexString #[.string (s1.extract ((IntKind.i64.wrap (i2 + (1 : Int))).toNat) s1.size), .string substr1] wv9 (fun v5 wv10 =>
        ∃ (r5 : Int),
        v5 = .int .i64 r5 ∧
        ifB (decide ((0 : Int) ≤ r5)) (
          K (.int .i64 (IntKind.i64.wrap (r5 + (IntKind.i64.wrap (i2 + (1 : Int)))))) wv10) (
          K (.int .i64 (-1)) wv10))) (
      ∃ (x3 : Int),
      wv9.cell? (Addr.mk 0 0 none) = some (.int .i64 x3) ∧
      ifB (decide (x3 < ((substr1.size : Nat) : Int))) (
        0 ≤ (4 : Int) ∧
        ifB (decide ((IntKind.i64.wrap ((4 : Int) + (Int.fdiv (IntKind.i64.wrap (i2 + (1 : Int))) (2 ^ (min (4 : Int).toNat IntKind.i64.bits))))) ≤ (IntKind.i64.wrap (fails1 + (1 : Int))))) (
          ifB (decide ((IntKind.i64.wrap (i2 + (1 : Int))) < (IntKind.i64.wrap ((IntKind.i64.wrap (((s1.size : Nat) : Int) - ((substr1.size : Nat) : Int))) + (1 : Int))))) (
            0 ≤ IntKind.i64.wrap (i2 + (1 : Int)) ∧ IntKind.i64.wrap (i2 + (1 : Int)) ≤ ((s1.size : Nat) : Int) ∧
            CallsV prog F.internal_bytealg_IndexRabinKarp_string #[.string (s1.extract ((IntKind.i64.wrap (i2 + (1 : Int))).toNat) s1.size), .string substr1] wv9 (fun v6 wv11 =>
              ∃ (r6 : Int),
              v6 = .int .i64 r6 ∧
              ifB (decide (r6 < (0 : Int))) (
                K (.int .i64 (-1)) wv11) (
                K (.int .i64 (IntKind.i64.wrap ((IntKind.i64.wrap (i2 + (1 : Int))) + r6))) wv11))) (
            Iv1 (IntKind.i64.wrap (i2 + (1 : Int))) (IntKind.i64.wrap (fails1 + (1 : Int))) wv9 ∧ m1 (IntKind.i64.wrap (i2 + (1 : Int))) (IntKind.i64.wrap (fails1 + (1 : Int))) wv9 < m1 i1 fails1 wv4)) (
          Iv1 (IntKind.i64.wrap (i2 + (1 : Int))) (IntKind.i64.wrap (fails1 + (1 : Int))) wv9 ∧ m1 (IntKind.i64.wrap (i2 + (1 : Int))) (IntKind.i64.wrap (fails1 + (1 : Int))) wv9 < m1 i1 fails1 wv4)) (
        Iv1 (IntKind.i64.wrap (i2 + (1 : Int))) (IntKind.i64.wrap (fails1 + (1 : Int))) wv9 ∧ m1 (IntKind.i64.wrap (i2 + (1 : Int))) (IntKind.i64.wrap (fails1 + (1 : Int))) wv9 < m1 i1 fails1 wv4)))))) (
    K (.int .i64 (-1)) wv4))
def An.internal_stringslite_Index : Ann := ⟨[], [(15, [(8, 3), (10, 3)], [0, 1, 5, 6, 7, 9])], [(10, [], [0, 1, 5]), (21, [(8, 3)], [0, 1, 5, 6, 7, 9, 10]), (23, [], [0, 1, 5, 6, 7, 8, 9, 10]), (26, [(107, 4)], [0, 1, 5, 6, 7, 8, 9, 10])]⟩
theorem R.internal_stringslite_Index {s1 : ByteArray} {substr1 : ByteArray} {w : World} {K : Value → World → Prop} (h : C.internal_stringslite_Index s1 substr1 w K) : CallsV prog F.internal_stringslite_Index #[.string s1, .string substr1] w K :=
  vcFn.calls (an := An.internal_stringslite_Index) mixed tabOK eqsOK Go.Proofs.Tryd.func133 (by kernel_rfl) (by kernel_rfl) (by kernel_rfl) ((by kernel_rfl : vcFn prog eqs tab An.internal_stringslite_Index Go.Proofs.Tryd.f133 [.string s1, .string substr1] w K = C.internal_stringslite_Index s1 substr1 w K).mpr h)

/-- unicode/utf8.decodeRuneInStringSlow -/
def C.unicode_utf8_decodeRuneInStringSlow (s1 : ByteArray) (w : World) (K : Value → World → Prop) : Prop :=
  ifB (decide (((s1.size : Nat) : Int) < (1 : Int))) (
    K (.tuple #[.int .i32 65533, .int .i64 0]) w) (
    0 ≤ (0 : Int) ∧ (0 : Int) < ((s1.size : Nat) : Int) ∧
    0 ≤ bt s1 (0 : Int) ∧ bt s1 (0 : Int) < ((256 : Nat) : Int) ∧
    ∃ (e1 : Int),
    w.cell? ((Addr.mk 1 0 none).add ((bt s1 (0 : Int)).toNat * 1)) = some (.int .u8 e1) ∧
    ifB (decide ((240 : Int) ≤ e1)) (
      0 ≤ (31 : Int) ∧
      0 ≤ (31 : Int) ∧
      0 ≤ (0 : Int) ∧ (0 : Int) < ((s1.size : Nat) : Int) ∧
      K (.tuple #[.int .i32 (bits .or .i32 (bits .andNot .i32 (IntKind.i32.wrap (bt s1 (0 : Int))) (Int.fdiv (IntKind.i32.wrap ((IntKind.i32.wrap e1) * 2 ^ (min (31 : Int).toNat IntKind.i32.bits))) (2 ^ (min (31 : Int).toNat IntKind.i32.bits)))) (bits .and .i32 (65533 : Int) (Int.fdiv (IntKind.i32.wrap ((IntKind.i32.wrap e1) * 2 ^ (min (31 : Int).toNat IntKind.i32.bits))) (2 ^ (min (31 : Int).toNat IntKind.i32.bits))))), .int .i64 1]) w) (
      0 ≤ (4 : Int) ∧
      0 ≤ Int.fdiv e1 (2 ^ (min (4 : Int).toNat IntKind.u8.bits)) ∧ Int.fdiv e1 (2 ^ (min (4 : Int).toNat IntKind.u8.bits)) < ((16 : Nat) : Int) ∧
      ∃ (elo1 : Int) (ehi1 : Int),
      cellsAt w ((Addr.mk 2 0 none).add ((Int.fdiv e1 (2 ^ (min (4 : Int).toNat IntKind.u8.bits))).toNat * 2)) 0 [.int .u8 elo1, .int .u8 ehi1] ∧
      ∀ b1 wv1, New w (.cells #[.int .u8 0, .int .u8 0] T.utf8_acceptRange) b1 wv1 →
      CanSt wv1 ((Addr.mk b1 0 none).add 0) ∧ ∀ wv2, wv2 = wv1.setCell ((Addr.mk b1 0 none).add 0) (.int .u8 elo1) →
      CanSt wv2 ((Addr.mk b1 0 none).add 1) ∧ ∀ wv3, wv3 = wv2.setCell ((Addr.mk b1 0 none).add 1) (.int .u8 ehi1) →
      ifB (decide (((s1.size : Nat) : Int) < (IntKind.i64.wrap (bits .and .u8 e1 (7 : Int))))) (
        K (.tuple #[.int .i32 65533, .int .i64 1]) wv3) (
        0 ≤ (1 : Int) ∧ (1 : Int) < ((s1.size : Nat) : Int) ∧
        ∃ Jv1 : World → Prop,
        (∃ (lo1 : Int),
        wv3.cell? ((Addr.mk b1 0 none).add 0) = some (.int .u8 lo1) ∧
        ifB (decide ((bt s1 (1 : Int)) < lo1)) (
          K (.tuple #[.int .i32 65533, .int .i64 1]) wv3) (
          ∃ (hi1 : Int),
          wv3.cell? ((Addr.mk b1 0 none).add 1) = some (.int .u8 hi1) ∧
          ifB (decide (hi1 < (bt s1 (1 : Int)))) (
            K (.tuple #[.int .i32 65533, .int .i64 1]) wv3) (
            Jv1 wv3))) ∧
        (∀ wv4, Jv1 wv4 →
        ifB (decide ((IntKind.i64.wrap (bits .and .u8 e1 (7 : Int))) ≤ (2 : Int))) (
          0 ≤ (6 : Int) ∧
          K (.tuple #[.int .i32 (bits .or .i32 (IntKind.i32.wrap ((IntKind.i32.wrap (bits .and .u8 (bt s1 (0 : Int)) (31 : Int))) * 2 ^ (min (6 : Int).toNat IntKind.i32.bits))) (IntKind.i32.wrap (bits .and .u8 (bt s1 (1 : Int)) (63 : Int)))), .int .i64 2]) wv4) (
          0 ≤ (2 : Int) ∧ (2 : Int) < ((s1.size : Nat) : Int) ∧
          ifB (decide ((bt s1 (2 : Int)) < (128 : Int))) (
            K (.tuple #[.int .i32 65533, .int .i64 1]) wv4) (
            ifB (decide ((191 : Int) < (bt s1 (2 : Int)))) (
              K (.tuple #[.int .i32 65533, .int .i64 1]) wv4) (
              ifB (decide ((IntKind.i64.wrap (bits .and .u8 e1 (7 : Int))) ≤ (3 : Int))) (
                0 ≤ (12 : Int) ∧
                0 ≤ (6 : Int) ∧
                K (.tuple #[.int .i32 (bits .or .i32 (bits .or .i32 (IntKind.i32.wrap ((IntKind.i32.wrap (bits .and .u8 (bt s1 (0 : Int)) (15 : Int))) * 2 ^ (min (12 : Int).toNat IntKind.i32.bits))) (IntKind.i32.wrap ((IntKind.i32.wrap (bits .and .u8 (bt s1 (1 : Int)) (63 : Int))) * 2 ^ (min (6 : Int).toNat IntKind.i32.bits)))) (IntKind.i32.wrap (bits .and .u8 (bt s1 (2 : Int)) (63 : Int)))), .int .i64 3]) wv4) (
                0 ≤ (3 : Int) ∧ (3 : Int) < ((s1.size : Nat) : Int) ∧
                ifB (decide ((bt s1 (3 : Int)) < (128 : Int))) (
                  K (.tuple #[.int .i32 65533, .int .i64 1]) wv4) (
                  ifB (decide ((191 : Int) < (bt s1 (3 : Int)))) (
                    K (.tuple #[.int .i32 65533, .int .i64 1]) wv4) (
                    0 ≤ (18 : Int) ∧
                    0 ≤ (12 : Int) ∧
                    0 ≤ (6 : Int) ∧
                    K (.tuple #[.int .i32 (bits .or .i32 (bits .or .i32 (bits .or .i32 (IntKind.i32.wrap ((IntKind.i32.wrap (bits .and .u8 (bt s1 (0 : Int)) (7 : Int))) * 2 ^ (min (18 : Int).toNat IntKind.i32.bits))) (IntKind.i32.wrap ((IntKind.i32.wrap (bits .and .u8 (bt s1 (1 : Int)) (63 : Int))) * 2 ^ (min (12 : Int).toNat IntKind.i32.bits)))) (IntKind.i32.wrap ((IntKind.i32.wrap (bits .and .u8 (bt s1 (2 : Int)) (63 : Int))) * 2 ^ (min (6 : Int).toNat IntKind.i32.bits)))) (IntKind.i32.wrap (bits .and .u8 (bt s1 (3 : Int)) (63 : Int)))), .int .i64 4]) wv4))))))))))
def An.unicode_utf8_decodeRuneInStringSlow : Ann := ⟨[], [], [(16, [], [0, 5, 8, 9, 10])]⟩
theorem R.unicode_utf8_decodeRuneInStringSlow {s1 : ByteArray} {w : World} {K : Value → World → Prop} (h : C.unicode_utf8_decodeRuneInStringSlow s1 w K) : CallsV prog F.unicode_utf8_decodeRuneInStringSlow #[.string s1] w K :=
  vcFn.calls (an := An.unicode_utf8_decodeRuneInStringSlow) mixed tabOK eqsOK Go.Proofs.Tryd.func134 (by kernel_rfl) (by kernel_rfl) (by kernel_rfl) ((by kernel_rfl : vcFn prog eqs tab An.unicode_utf8_decodeRuneInStringSlow Go.Proofs.Tryd.f134 [.string s1] w K = C.unicode_utf8_decodeRuneInStringSlow s1 w K).mpr h)

/-- afflux/calc.Sub -/
def C.calc_Sub (a1 : Int) (l1p : Option Addr) (l1n l1c : Nat) (w : World) (K : Value → World → Prop) : Prop :=
  ∀ b1 wv1, New w (.cells #[.int .u64 0, .int .u64 0, .int .i64 0] T.calc_Total) b1 wv1 →
  ∀ b2 wv2, New wv1 (.cells #[.int .i64 a1] T.int64) b2 wv2 →
  CallsV prog F.calc_Total_Put #[.pointer (some (Addr.mk b1 0 none)), .slice (some (Addr.mk b2 0 none)) 1 1] wv2 (fun v1 wv3 =>
    v1 = .tuple #[] ∧
    CallsV prog F.calc_Total_Take #[.pointer (some (Addr.mk b1 0 none)), .slice l1p l1n l1c] wv3 (fun v2 wv4 =>
      v2 = .tuple #[] ∧
      CallsV prog F.calc_Total_Sum #[.pointer (some (Addr.mk b1 0 none))] wv4 (fun v3 wv5 =>
        ∃ (ra1 : Int) (rb1 : Int),
        v3 = .tuple #[.int .i64 ra1, .int .i64 rb1] ∧
        K (.tuple #[.int .i64 ra1, .int .i64 rb1]) wv5)))
def An.calc_Sub : Ann := ⟨[], [], []⟩
theorem R.calc_Sub {a1 : Int} {l1p : Option Addr} {l1n l1c : Nat} {w : World} {K : Value → World → Prop} (h : C.calc_Sub a1 l1p l1n l1c w K) : CallsV prog F.calc_Sub #[.int .i64 a1, .slice l1p l1n l1c] w K :=
  vcFn.calls (an := An.calc_Sub) mixed tabOK eqsOK Go.Proofs.Tryd.func135 (by kernel_rfl) (by kernel_rfl) (by kernel_rfl) ((by kernel_rfl : vcFn prog eqs tab An.calc_Sub Go.Proofs.Tryd.f135 [.int .i64 a1, .slice l1p l1n l1c] w K = C.calc_Sub a1 l1p l1n l1c w K).mpr h)

/-- internal/stringslite.IndexByte -/
def C.internal_stringslite_IndexByte (s1 : ByteArray) (c1 : Int) (w : World) (K : Value → World → Prop) : Prop :=
  CallsV prog F.internal_bytealg_IndexByteString #[.string s1, .int .u8 c1] w (fun v1 wv1 =>
    ∃ (r1 : Int),
    v1 = .int .i64 r1 ∧
    K (.int .i64 r1) wv1)
def An.internal_stringslite_IndexByte : Ann := ⟨[], [], []⟩
theorem R.internal_stringslite_IndexByte {s1 : ByteArray} {c1 : Int} {w : World} {K : Value → World → Prop} (h : C.internal_stringslite_IndexByte s1 c1 w K) : CallsV prog F.internal_stringslite_IndexByte #[.string s1, .int .u8 c1] w K :=
  vcFn.calls (an := An.internal_stringslite_IndexByte) mixed tabOK eqsOK Go.Proofs.Tryd.func138 (by kernel_rfl) (by kernel_rfl) (by kernel_rfl) ((by kernel_rfl : vcFn prog eqs tab An.internal_stringslite_IndexByte Go.Proofs.Tryd.f138 [.string s1, .int .u8 c1] w K = C.internal_stringslite_IndexByte s1 c1 w K).mpr h)

/-- internal/bytealg.Cutover -/
def C.internal_bytealg_Cutover (n1 : Int) (w : World) (K : Value → World → Prop) : Prop :=
  (8 : Int) ≠ 0 ∧
  K (.int .i64 (IntKind.i64.wrap (Int.tdiv (IntKind.i64.wrap (n1 + (16 : Int))) (8 : Int)))) w
def An.internal_bytealg_Cutover : Ann := ⟨[], [], []⟩
theorem R.internal_bytealg_Cutover {n1 : Int} {w : World} {K : Value → World → Prop} (h : C.internal_bytealg_Cutover n1 w K) : CallsV prog F.internal_bytealg_Cutover #[.int .i64 n1] w K :=
  vcFn.calls (an := An.internal_bytealg_Cutover) mixed tabOK eqsOK Go.Proofs.Tryd.func140 (by kernel_rfl) (by kernel_rfl) (by kernel_rfl) ((by kernel_rfl : vcFn prog eqs tab An.internal_bytealg_Cutover Go.Proofs.Tryd.f140 [.int .i64 n1] w K = C.internal_bytealg_Cutover n1 w K).mpr h)

/-- internal/bytealg.IndexRabinKarp[string] -/
def C.internal_bytealg_IndexRabinKarp_string (s1 : ByteArray) (sep1 : ByteArray) (w : World) (K : Value → World → Prop) : Prop :=
  CallsV prog F.internal_bytealg_hashStr_string #[.string sep1] w (fun v1 wv1 =>
    ∃ (ra1 : Int) (rb1 : Int),
    v1 = .tuple #[.int .u32 ra1, .int .u32 rb1] ∧
    ∃ (Iv1 : Int → Int → World → Prop) (m1 : Int → Int → World → Nat),
    Iv1 0 0 wv1 ∧
    ∀ (h1 : Int) (i1 : Int) wv2, Iv1 h1 i1 wv2 →
    ifB (decide (i1 < ((sep1.size : Nat) : Int))) (
      0 ≤ i1 ∧ i1 < ((s1.size : Nat) : Int) ∧
      Iv1 (IntKind.u32.wrap ((IntKind.u32.wrap (h1 * (16777619 : Int))) + (IntKind.u32.wrap (bt s1 i1)))) (IntKind.i64.wrap (i1 + (1 : Int))) wv2 ∧ m1 (IntKind.u32.wrap ((IntKind.u32.wrap (h1 * (16777619 : Int))) + (IntKind.u32.wrap (bt s1 i1)))) (IntKind.i64.wrap (i1 + (1 : Int))) wv2 < m1 h1 i1 wv2) (
      ifB (h1 == ra1) (
        0 ≤ ((sep1.size : Nat) : Int) ∧ ((sep1.size : Nat) : Int) ≤ ((s1.size : Nat) : Int) ∧
        ifB (sEq (s1.extract 0 (((sep1.size : Nat) : Int).toNat)) sep1) (
          K (.int .i64 0) wv2) (
          ∃ (Iv2 : Int → Int → World → Prop) (m2 : Int → Int → World → Nat),
          Iv2 h1 ((sep1.size : Nat) : Int) wv2 ∧
          ∀ (h2 : Int) (i2 : Int) wv3, Iv2 h2 i2 wv3 →
          ifB (decide (i2 < ((s1.size : Nat) : Int))) (
            0 ≤ i2 ∧ i2 < ((s1.size : Nat) : Int) ∧
            0 ≤ IntKind.i64.wrap (i2 - ((sep1.size : Nat) : Int)) ∧ IntKind.i64.wrap (i2 - ((sep1.size : Nat) : Int)) < ((s1.size : Nat) : Int) ∧
            ifB ((IntKind.u32.wrap ((IntKind.u32.wrap ((IntKind.u32.wrap (h2 * (16777619 : Int))) + (IntKind.u32.wrap (bt s1 i2)))) - (IntKind.u32.wrap (rb1 * (IntKind.u32.wrap (bt s1 (IntKind.i64.wrap (i2 - ((sep1.size : Nat) : Int))))))))) == ra1) (
              0 ≤ IntKind.i64.wrap (i2 + (1 : Int)) ∧ IntKind.i64.wrap (i2 + (1 : Int)) ≤ ((s1.size : Nat) : Int) ∧
              0 ≤ IntKind.i64.wrap ((IntKind.i64.wrap (i2 + (1 : Int))) - ((sep1.size : Nat) : Int)) ∧ IntKind.i64.wrap ((IntKind.i64.wrap (i2 + (1 : Int))) - ((sep1.size : Nat) : Int)) ≤ (((IntKind.i64.wrap (i2 + (1 : Int))).toNat : Nat) : Int) ∧
              ifB (sEq (s1.extract ((IntKind.i64.wrap ((IntKind.i64.wrap (i2 + (1 : Int))) - ((sep1.size : Nat) : Int))).toNat) ((IntKind.i64.wrap (i2 + (1 : Int))).toNat)) sep1) (
                K (.int .i64 (IntKind.i64.wrap ((IntKind.i64.wrap (i2 + (1 : Int))) - ((sep1.size : Nat) : Int)))) wv3) (
                Iv2 (IntKind.u32.wrap ((IntKind.u32.wrap ((IntKind.u32.wrap (h2 * (16777619 : Int))) + (IntKind.u32.wrap (bt s1 i2)))) - (IntKind.u32.wrap (rb1 * (IntKind.u32.wrap (bt s1 (IntKind.i64.wrap (i2 - ((sep1.size : Nat) : Int))))))))) (IntKind.i64.wrap (i2 + (1 : Int))) wv3 ∧ m2 (IntKind.u32.wrap ((IntKind.u32.wrap ((IntKind.u32.wrap (h2 * (16777619 : Int))) + (IntKind.u32.wrap (bt s1 i2)))) - (IntKind.u32.wrap (rb1 * (IntKind.u32.wrap (bt s1 (IntKind.i64.wrap (i2 - ((sep1.size : Nat) : Int))))))))) (IntKind.i64.wrap (i2 + (1 : Int))) wv3 < m2 h2 i2 wv3)) (
              Iv2 (IntKind.u32.wrap ((IntKind.u32.wrap ((IntKind.u32.wrap (h2 * (16777619 : Int))) + (IntKind.u32.wrap (bt s1 i2)))) - (IntKind.u32.wrap (rb1 * (IntKind.u32.wrap (bt s1 (IntKind.i64.wrap (i2 - ((sep1.size : Nat) : Int))))))))) (IntKind.i64.wrap (i2 + (1 : Int))) wv3 ∧ m2 (IntKind.u32.wrap ((IntKind.u32.wrap ((IntKind.u32.wrap (h2 * (16777619 : Int))) + (IntKind.u32.wrap (bt s1 i2)))) - (IntKind.u32.wrap (rb1 * (IntKind.u32.wrap (bt s1 (IntKind.i64.wrap (i2 - ((sep1.size : Nat) : Int))))))))) (IntKind.i64.wrap (i2 + (1 : Int))) wv3 < m2 h2 i2 wv3)) (
            K (.int .i64 (-1)) wv3))) (
        ∃ (Iv3 : Int → Int → World → Prop) (m3 : Int → Int → World → Nat),
        Iv3 h1 ((sep1.size : Nat) : Int) wv2 ∧
        ∀ (h3 : Int) (i3 : Int) wv4, Iv3 h3 i3 wv4 →
        ifB (decide (i3 < ((s1.size : Nat) : Int))) (
          0 ≤ i3 ∧ i3 < ((s1.size : Nat) : Int) ∧
          0 ≤ IntKind.i64.wrap (i3 - ((sep1.size : Nat) : Int)) ∧ IntKind.i64.wrap (i3 - ((sep1.size : Nat) : Int)) < ((s1.size : Nat) : Int) ∧
          ifB ((IntKind.u32.wrap ((IntKind.u32.wrap ((IntKind.u32.wrap (h3 * (16777619 : Int))) + (IntKind.u32.wrap (bt s1 i3)))) - (IntKind.u32.wrap (rb1 * (IntKind.u32.wrap (bt s1 (IntKind.i64.wrap (i3 - ((sep1.size : Nat) : Int))))))))) == ra1) (
            0 ≤ IntKind.i64.wrap (i3 + (1 : Int)) ∧ IntKind.i64.wrap (i3 + (1 : Int)) ≤ ((s1.size : Nat) : Int) ∧
            0 ≤ IntKind.i64.wrap ((IntKind.i64.wrap (i3 + (1 : Int))) - ((sep1.size : Nat) : Int)) ∧ IntKind.i64.wrap ((IntKind.i64.wrap (i3 + (1 : Int))) - ((sep1.size : Nat) : Int)) ≤ (((IntKind.i64.wrap (i3 + (1 : Int))).toNat : Nat) : Int) ∧
            ifB (sEq (s1.extract ((IntKind.i64.wrap ((IntKind.i64.wrap (i3 + (1 : Int))) - ((sep1.size : Nat) : Int))).toNat) ((IntKind.i64.wrap (i3 + (1 : Int))).toNat)) sep1) (
              K (.int .i64 (IntKind.i64.wrap ((IntKind.i64.wrap (i3 + (1 : Int))) - ((sep1.size : Nat) : Int)))) wv4) (
              Iv3 (IntKind.u32.wrap ((IntKind.u32.wrap ((IntKind.u32.wrap (h3 * (16777619 : Int))) + (IntKind.u32.wrap (bt s1 i3)))) - (IntKind.u32.wrap (rb1 * (IntKind.u32.wrap (bt s1 (IntKind.i64.wrap (i3 - ((sep1.size : Nat) : Int))))))))) (IntKind.i64.wrap (i3 + (1 : Int))) wv4 ∧ m3 (IntKind.u32.wrap ((IntKind.u32.wrap ((IntKind.u32.wrap (h3 * (16777619 : Int))) + (IntKind.u32.wrap (bt s1 i3)))) - (IntKind.u32.wrap (rb1 * (IntKind.u32.wrap (bt s1 (IntKind.i64.wrap (i3 - ((sep1.size : Nat) : Int))))))))) (IntKind.i64.wrap (i3 + (1 : Int))) wv4 < m3 h3 i3 wv4)) (
            Iv3 (IntKind.u32.wrap ((IntKind.u32.wrap ((IntKind.u32.wrap (h3 * (16777619 : Int))) + (IntKind.u32.wrap (bt s1 i3)))) - (IntKind.u32.wrap (rb1 * (IntKind.u32.wrap (bt s1 (IntKind.i64.wrap (i3 - ((sep1.size : Nat) : Int))))))))) (IntKind.i64.wrap (i3 + (1 : Int))) wv4 ∧ m3 (IntKind.u32.wrap ((IntKind.u32.wrap ((IntKind.u32.wrap (h3 * (16777619 : Int))) + (IntKind.u32.wrap (bt s1 i3)))) - (IntKind.u32.wrap (rb1 * (IntKind.u32.wrap (bt s1 (IntKind.i64.wrap (i3 - ((sep1.size : Nat) : Int))))))))) (IntKind.i64.wrap (i3 + (1 : Int))) wv4 < m3 h3 i3 wv4)) (
          K (.int .i64 (-1)) wv4))))
def An.internal_bytealg_IndexRabinKarp_string : Ann := ⟨[], [(5, [(8, 178), (9, 3)], [0, 1, 5, 6, 7]), (11, [(8, 178), (10, 3)], [0, 1, 5, 6, 7])], []⟩
theorem R.internal_bytealg_IndexRabinKarp_string {s1 : ByteArray} {sep1 : ByteArray} {w : World} {K : Value → World → Prop} (h : C.internal_bytealg_IndexRabinKarp_string s1 sep1 w K) : CallsV prog F.internal_bytealg_IndexRabinKarp_string #[.string s1, .string sep1] w K :=
  vcFn.calls (an := An.internal_bytealg_IndexRabinKarp_string) mixed tabOK eqsOK Go.Proofs.Tryd.func141 (by kernel_rfl) (by kernel_rfl) (by kernel_rfl) ((by kernel_rfl : vcFn prog eqs tab An.internal_bytealg_IndexRabinKarp_string Go.Proofs.Tryd.f141 [.string s1, .string sep1] w K = C.internal_bytealg_IndexRabinKarp_string s1 sep1 w K).mpr h)

/-- (*afflux/calc.Total).Put -/
def C.calc_Total_Put (t1 : Option Addr) (l1p : Option Addr) (l1n l1c : Nat) (w : World) (K : Value → World → Prop) : Prop :=
  ifB t1.isNone (
    K (.tuple #[]) w) (
    ∃ (Iv1 : Int → World → Prop) (m1 : Int → World → Nat),
    Iv1 0 w ∧
    ∀ (s101 : Int) wv1, Iv1 s101 wv1 →
    ifB (decide (s101 < ((l1n : Nat) : Int))) (
      ∃ a1, l1p = some a1 ∧ 0 ≤ s101 ∧ s101 < ((l1n : Nat) : Int) ∧
      ∃ (e1 : Int),
      wv1.cell? (a1.add (s101.toNat * 1)) = some (.int .i64 e1) ∧
      ∃ ta1, t1 = some ta1 ∧
      ∃ (sumhi1 : Int) (sumlo1 : Int),
      cellsAt wv1.drew (ta1.add 0) 0 [.int .u64 sumhi1, .int .u64 sumlo1] ∧
      CallsV prog F.calc_of #[.int .i64 e1] wv1.drew (fun v1 wv2 =>
        ∃ (rhi1 : Int) (rlo1 : Int),
        v1 = .agg #[.int .u64 rhi1, .int .u64 rlo1] ∧
        cellsAt wv2 (ta1.add 0) 0 [.int .u64 sumhi1, .int .u64 sumlo1] ∧
        CallsV prog F.calc_long_plus #[.agg #[.int .u64 sumhi1, .int .u64 sumlo1], .agg #[.int .u64 rhi1, .int .u64 rlo1]] wv2 (fun v2 wv3 =>
          ∃ (rhi2 : Int) (rlo2 : Int),
          v2 = .agg #[.int .u64 rhi2, .int .u64 rlo2] ∧
          ∃ ta2, t1 = some ta2 ∧
          CanSt wv3 ((ta2.add 0).add 0) ∧ ∀ wv4, wv4 = wv3.setCell ((ta2.add 0).add 0) (.int .u64 rhi2) →
          CanSt wv4 ((ta2.add 0).add 1) ∧ ∀ wv5, wv5 = wv4.setCell ((ta2.add 0).add 1) (.int .u64 rlo2) →
          Iv1 (IntKind.i64.wrap (s101 + (1 : Int))) wv5 ∧ m1 (IntKind.i64.wrap (s101 + (1 : Int))) wv5 < m1 s101 wv1))) (
      ∃ ta3, t1 = some ta3 ∧
      ∃ (n1 : Int),
      wv1.cell? (ta3.add 2) = some (.int .i64 n1) ∧
      ∃ ta4, t1 = some ta4 ∧
      CanSt wv1 (ta4.add 2) ∧ ∀ wv6, wv6 = wv1.setCell (ta4.add 2) (.int .i64 (IntKind.i64.wrap (n1 + ((l1n : Nat) : Int)))) →
      K (.tuple #[]) wv6))
def An.calc_Total_Put : Ann := ⟨[(4, .sil 0 [] (.sil 1 [] (.sil 2 [] (.sil 3 [] (.sil 4 [6] (.sil 5 [] (.act 6 (.act 7 (.sil 8 [] (.sil 9 [] (.act 10 (.done))))))))))))], [(2, [(10, 3)], [0, 1, 8, 9])], []⟩
theorem R.calc_Total_Put {t1 : Option Addr} {l1p : Option Addr} {l1n l1c : Nat} {w : World} {K : Value → World → Prop} (h : C.calc_Total_Put t1 l1p l1n l1c w K) : CallsV prog F.calc_Total_Put #[.pointer t1, .slice l1p l1n l1c] w K :=
  vcFn.calls (an := An.calc_Total_Put) mixed tabOK eqsOK Go.Proofs.Tryd.func142 (by kernel_rfl) (by kernel_rfl) (by kernel_rfl) ((by kernel_rfl : vcFn prog eqs tab An.calc_Total_Put Go.Proofs.Tryd.f142 [.pointer t1, .slice l1p l1n l1c] w K = C.calc_Total_Put t1 l1p l1n l1c w K).mpr h)

/-- (*afflux/calc.Total).Take -/
def C.calc_Total_Take (t1 : Option Addr) (l1p : Option Addr) (l1n l1c : Nat) (w : World) (K : Value → World → Prop) : Prop :=
  ifB t1.isNone (
    K (.tuple #[]) w) (
    ∃ (Iv1 : Int → World → Prop) (m1 : Int → World → Nat),
    Iv1 0 w ∧
    ∀ (s101 : Int) wv1, Iv1 s101 wv1 →
    ifB (decide (s101 < ((l1n : Nat) : Int))) (
      ∃ a1, l1p = some a1 ∧ 0 ≤ s101 ∧ s101 < ((l1n : Nat) : Int) ∧
      ∃ (e1 : Int),
      wv1.cell? (a1.add (s101.toNat * 1)) = some (.int .i64 e1) ∧
      ∃ ta1, t1 = some ta1 ∧
      ∃ (sumhi1 : Int) (sumlo1 : Int),
      cellsAt wv1.drew (ta1.add 0) 0 [.int .u64 sumhi1, .int .u64 sumlo1] ∧
      CallsV prog F.calc_of #[.int .i64 e1] wv1.drew (fun v1 wv2 =>
        ∃ (rhi1 : Int) (rlo1 : Int),
        v1 = .agg #[.int .u64 rhi1, .int .u64 rlo1] ∧
        cellsAt wv2 (ta1.add 0) 0 [.int .u64 sumhi1, .int .u64 sumlo1] ∧
        CallsV prog F.calc_long_minus #[.agg #[.int .u64 sumhi1, .int .u64 sumlo1], .agg #[.int .u64 rhi1, .int .u64 rlo1]] wv2 (fun v2 wv3 =>
          ∃ (rhi2 : Int) (rlo2 : Int),
          v2 = .agg #[.int .u64 rhi2, .int .u64 rlo2] ∧
          ∃ ta2, t1 = some ta2 ∧
          CanSt wv3 ((ta2.add 0).add 0) ∧ ∀ wv4, wv4 = wv3.setCell ((ta2.add 0).add 0) (.int .u64 rhi2) →
          CanSt wv4 ((ta2.add 0).add 1) ∧ ∀ wv5, wv5 = wv4.setCell ((ta2.add 0).add 1) (.int .u64 rlo2) →
          Iv1 (IntKind.i64.wrap (s101 + (1 : Int))) wv5 ∧ m1 (IntKind.i64.wrap (s101 + (1 : Int))) wv5 < m1 s101 wv1))) (
      ∃ ta3, t1 = some ta3 ∧
      ∃ (n1 : Int),
      wv1.cell? (ta3.add 2) = some (.int .i64 n1) ∧
      ∃ ta4, t1 = some ta4 ∧
      CanSt wv1 (ta4.add 2) ∧ ∀ wv6, wv6 = wv1.setCell (ta4.add 2) (.int .i64 (IntKind.i64.wrap (n1 - ((l1n : Nat) : Int)))) →
      K (.tuple #[]) wv6))
def An.calc_Total_Take : Ann := ⟨[(4, .sil 0 [] (.sil 1 [] (.sil 2 [] (.sil 3 [] (.sil 4 [6] (.sil 5 [] (.act 6 (.act 7 (.sil 8 [] (.sil 9 [] (.act 10 (.done))))))))))))], [(2, [(10, 3)], [0, 1, 8, 9])], []⟩
theorem R.calc_Total_Take {t1 : Option Addr} {l1p : Option Addr} {l1n l1c : Nat} {w : World} {K : Value → World → Prop} (h : C.calc_Total_Take t1 l1p l1n l1c w K) : CallsV prog F.calc_Total_Take #[.pointer t1, .slice l1p l1n l1c] w K :=
  vcFn.calls (an := An.calc_Total_Take) mixed tabOK eqsOK Go.Proofs.Tryd.func143 (by kernel_rfl) (by kernel_rfl) (by kernel_rfl) ((by kernel_rfl : vcFn prog eqs tab An.calc_Total_Take Go.Proofs.Tryd.f143 [.pointer t1, .slice l1p l1n l1c] w K = C.calc_Total_Take t1 l1p l1n l1c w K).mpr h)

/-- (*afflux/calc.Total).Sum -/
def C.calc_Total_Sum (t1 : Option Addr) (w : World) (K : Value → World → Prop) : Prop :=
  ifB t1.isNone (
    K (.tuple #[.int .i64 0, .int .i64 0]) w) (
    ∃ ta1, t1 = some ta1 ∧
    ∃ (sumhi1 : Int) (sumlo1 : Int),
    cellsAt w (ta1.add 0) 0 [.int .u64 sumhi1, .int .u64 sumlo1] ∧
    CallsV prog F.calc_long_short #[.agg #[.int .u64 sumhi1, .int .u64 sumlo1]] w (fun v1 wv1 =>
      ∃ (ra1 : Int) (rb1 : Int),
      v1 = .tuple #[.int .i64 ra1, .int .i64 rb1] ∧
      K (.tuple #[.int .i64 ra1, .int .i64 rb1]) wv1))
def An.calc_Total_Sum : Ann := ⟨[], [], []⟩
theorem R.calc_Total_Sum {t1 : Option Addr} {w : World} {K : Value → World → Prop} (h : C.calc_Total_Sum t1 w K) : CallsV prog F.calc_Total_Sum #[.pointer t1] w K :=
  vcFn.calls (an := An.calc_Total_Sum) mixed tabOK eqsOK Go.Proofs.Tryd.func144 (by kernel_rfl) (by kernel_rfl) (by kernel_rfl) ((by kernel_rfl : vcFn prog eqs tab An.calc_Total_Sum Go.Proofs.Tryd.f144 [.pointer t1] w K = C.calc_Total_Sum t1 w K).mpr h)

/-- internal/bytealg.hashStr[string] -/
def C.internal_bytealg_hashStr_string (sep1 : ByteArray) (w : World) (K : Value → World → Prop) : Prop :=
  ∃ (Iv1 : Int → Int → World → Prop) (m1 : Int → Int → World → Nat),
  Iv1 0 0 w ∧
  ∀ (hash1 : Int) (i1 : Int) wv1, Iv1 hash1 i1 wv1 →
  ifB (decide (i1 < ((sep1.size : Nat) : Int))) (
    0 ≤ i1 ∧ i1 < ((sep1.size : Nat) : Int) ∧
    Iv1 (IntKind.u32.wrap ((IntKind.u32.wrap (hash1 * (16777619 : Int))) + (IntKind.u32.wrap (bt sep1 i1)))) (IntKind.i64.wrap (i1 + (1 : Int))) wv1 ∧ m1 (IntKind.u32.wrap ((IntKind.u32.wrap (hash1 * (16777619 : Int))) + (IntKind.u32.wrap (bt sep1 i1)))) (IntKind.i64.wrap (i1 + (1 : Int))) wv1 < m1 hash1 i1 wv1) (
    ∃ (Iv2 : Int → Int → Int → World → Prop) (m2 : Int → Int → Int → World → Nat),
    Iv2 1 16777619 ((sep1.size : Nat) : Int) wv1 ∧
    ∀ (pow1 : Int) (sq1 : Int) (i2 : Int) wv2, Iv2 pow1 sq1 i2 wv2 →
    ifB (decide ((0 : Int) < i2)) (
      ifB ((bits .and .i64 i2 (1 : Int)) != (0 : Int)) (
        0 ≤ (1 : Int) ∧
        Iv2 (IntKind.u32.wrap (pow1 * sq1)) (IntKind.u32.wrap (sq1 * sq1)) (Int.fdiv i2 (2 ^ (min (1 : Int).toNat IntKind.i64.bits))) wv2 ∧ m2 (IntKind.u32.wrap (pow1 * sq1)) (IntKind.u32.wrap (sq1 * sq1)) (Int.fdiv i2 (2 ^ (min (1 : Int).toNat IntKind.i64.bits))) wv2 < m2 pow1 sq1 i2 wv2) (
        0 ≤ (1 : Int) ∧
        Iv2 pow1 (IntKind.u32.wrap (sq1 * sq1)) (Int.fdiv i2 (2 ^ (min (1 : Int).toNat IntKind.i64.bits))) wv2 ∧ m2 pow1 (IntKind.u32.wrap (sq1 * sq1)) (Int.fdiv i2 (2 ^ (min (1 : Int).toNat IntKind.i64.bits))) wv2 < m2 pow1 sq1 i2 wv2)) (
      K (.tuple #[.int .u32 hash1, .int .u32 pow1]) wv2))
def An.internal_bytealg_hashStr_string : Ann := ⟨[], [(3, [(4, 178), (5, 3)], [0]), (8, [(6, 178), (7, 178), (8, 3)], [4])], []⟩
theorem R.internal_bytealg_hashStr_string {sep1 : ByteArray} {w : World} {K : Value → World → Prop} (h : C.internal_bytealg_hashStr_string sep1 w K) : CallsV prog F.internal_bytealg_hashStr_string #[.string sep1] w K :=
  vcFn.calls (an := An.internal_bytealg_hashStr_string) mixed tabOK eqsOK Go.Proofs.Tryd.func146 (by kernel_rfl) (by kernel_rfl) (by kernel_rfl) ((by kernel_rfl : vcFn prog eqs tab An.internal_bytealg_hashStr_string Go.Proofs.Tryd.f146 [.string sep1] w K = C.internal_bytealg_hashStr_string sep1 w K).mpr h)

/-- (afflux/calc.long).plus -/
def C.calc_long_plus (ahi1 : Int) (alo1 : Int) (bhi1 : Int) (blo1 : Int) (w : World) (K : Value → World → Prop) : Prop :=
  ∀ b1 wv1, New w (.cells #[.int .u64 ahi1, .int .u64 alo1] T.calc_long) b1 wv1 →
  ∀ b2 wv2, New wv1 (.cells #[.int .u64 bhi1, .int .u64 blo1] T.calc_long) b2 wv2 →
  ∀ b3 wv3, New wv2 (.cells #[.int .u64 0, .int .u64 0] T.calc_long) b3 wv3 →
  ∃ (lo1 : Int),
  wv3.cell? ((Addr.mk b1 0 none).add 1) = some (.int .u64 lo1) ∧
  ∃ (lo2 : Int),
  wv3.cell? ((Addr.mk b2 0 none).add 1) = some (.int .u64 lo2) ∧
  CallsV prog F.math_bits_Add64 #[.int .u64 lo1, .int .u64 lo2, .int .u64 0] wv3 (fun v1 wv4 =>
    ∃ (ra1 : Int) (rb1 : Int),
    v1 = .tuple #[.int .u64 ra1, .int .u64 rb1] ∧
    ∃ (hi1 : Int),
    wv4.cell? ((Addr.mk b1 0 none).add 0) = some (.int .u64 hi1) ∧
    ∃ (hi2 : Int),
    wv4.cell? ((Addr.mk b2 0 none).add 0) = some (.int .u64 hi2) ∧
    CallsV prog F.math_bits_Add64 #[.int .u64 hi1, .int .u64 hi2, .int .u64 rb1] wv4 (fun v2 wv5 =>
      ∃ (ra2 : Int) (rb2 : Int),
      v2 = .tuple #[.int .u64 ra2, .int .u64 rb2] ∧
      CanSt wv5 ((Addr.mk b3 0 none).add 0) ∧ ∀ wv6, wv6 = wv5.setCell ((Addr.mk b3 0 none).add 0) (.int .u64 ra2) →
      CanSt wv6 ((Addr.mk b3 0 none).add 1) ∧ ∀ wv7, wv7 = wv6.setCell ((Addr.mk b3 0 none).add 1) (.int .u64 ra1) →
      ∃ (xhi1 : Int) (xlo1 : Int),
      cellsAt wv7 (Addr.mk b3 0 none) 0 [.int .u64 xhi1, .int .u64 xlo1] ∧
      K (.agg #[.int .u64 xhi1, .int .u64 xlo1]) wv7))
def An.calc_long_plus : Ann := ⟨[], [], []⟩
theorem R.calc_long_plus {ahi1 : Int} {alo1 : Int} {bhi1 : Int} {blo1 : Int} {w : World} {K : Value → World → Prop} (h : C.calc_long_plus ahi1 alo1 bhi1 blo1 w K) : CallsV prog F.calc_long_plus #[.agg #[.int .u64 ahi1, .int .u64 alo1], .agg #[.int .u64 bhi1, .int .u64 blo1]] w K :=
  vcFn.calls (an := An.calc_long_plus) mixed tabOK eqsOK Go.Proofs.Tryd.func147 (by kernel_rfl) (by kernel_rfl) (by kernel_rfl) ((by kernel_rfl : vcFn prog eqs tab An.calc_long_plus Go.Proofs.Tryd.f147 [.agg #[.int .u64 ahi1, .int .u64 alo1], .agg #[.int .u64 bhi1, .int .u64 blo1]] w K = C.calc_long_plus ahi1 alo1 bhi1 blo1 w K).mpr h)

/-- afflux/calc.of -/
def C.calc_of (n1 : Int) (w : World) (K : Value → World → Prop) : Prop :=
  ∀ b1 wv1, New w (.cells #[.int .u64 0, .int .u64 0] T.calc_long) b1 wv1 →
  0 ≤ (63 : Int) ∧
  CanSt wv1 ((Addr.mk b1 0 none).add 0) ∧ ∀ wv2, wv2 = wv1.setCell ((Addr.mk b1 0 none).add 0) (.int .u64 (IntKind.u64.wrap (Int.fdiv n1 (2 ^ (min (63 : Int).toNat IntKind.i64.bits))))) →
  CanSt wv2 ((Addr.mk b1 0 none).add 1) ∧ ∀ wv3, wv3 = wv2.setCell ((Addr.mk b1 0 none).add 1) (.int .u64 (IntKind.u64.wrap n1)) →
  ∃ (xhi1 : Int) (xlo1 : Int),
  cellsAt wv3 (Addr.mk b1 0 none) 0 [.int .u64 xhi1, .int .u64 xlo1] ∧
  K (.agg #[.int .u64 xhi1, .int .u64 xlo1]) wv3
def An.calc_of : Ann := ⟨[], [], []⟩
theorem R.calc_of {n1 : Int} {w : World} {K : Value → World → Prop} (h : C.calc_of n1 w K) : CallsV prog F.calc_of #[.int .i64 n1] w K :=
  vcFn.calls (an := An.calc_of) mixed tabOK eqsOK Go.Proofs.Tryd.func148 (by kernel_rfl) (by kernel_rfl) (by kernel_rfl) ((by kernel_rfl : vcFn prog eqs tab An.calc_of Go.Proofs.Tryd.f148 [.int .i64 n1] w K = C.calc_of n1 w K).mpr h)

/-- (afflux/calc.long).minus -/
def C.calc_long_minus (ahi1 : Int) (alo1 : Int) (bhi1 : Int) (blo1 : Int) (w : World) (K : Value → World → Prop) : Prop :=
  ∀ b1 wv1, New w (.cells #[.int .u64 ahi1, .int .u64 alo1] T.calc_long) b1 wv1 →
  ∀ b2 wv2, New wv1 (.cells #[.int .u64 bhi1, .int .u64 blo1] T.calc_long) b2 wv2 →
  ∀ b3 wv3, New wv2 (.cells #[.int .u64 0, .int .u64 0] T.calc_long) b3 wv3 →
  ∃ (lo1 : Int),
  wv3.cell? ((Addr.mk b1 0 none).add 1) = some (.int .u64 lo1) ∧
  ∃ (lo2 : Int),
  wv3.cell? ((Addr.mk b2 0 none).add 1) = some (.int .u64 lo2) ∧
  CallsV prog F.math_bits_Sub64 #[.int .u64 lo1, .int .u64 lo2, .int .u64 0] wv3 (fun v1 wv4 =>
    ∃ (ra1 : Int) (rb1 : Int),
    v1 = .tuple #[.int .u64 ra1, .int .u64 rb1] ∧
    ∃ (hi1 : Int),
    wv4.cell? ((Addr.mk b1 0 none).add 0) = some (.int .u64 hi1) ∧
    ∃ (hi2 : Int),
    wv4.cell? ((Addr.mk b2 0 none).add 0) = some (.int .u64 hi2) ∧
    CallsV prog F.math_bits_Sub64 #[.int .u64 hi1, .int .u64 hi2, .int .u64 rb1] wv4 (fun v2 wv5 =>
      ∃ (ra2 : Int) (rb2 : Int),
      v2 = .tuple #[.int .u64 ra2, .int .u64 rb2] ∧
      CanSt wv5 ((Addr.mk b3 0 none).add 0) ∧ ∀ wv6, wv6 = wv5.setCell ((Addr.mk b3 0 none).add 0) (.int .u64 ra2) →
      CanSt wv6 ((Addr.mk b3 0 none).add 1) ∧ ∀ wv7, wv7 = wv6.setCell ((Addr.mk b3 0 none).add 1) (.int .u64 ra1) →
      ∃ (xhi1 : Int) (xlo1 : Int),
      cellsAt wv7 (Addr.mk b3 0 none) 0 [.int .u64 xhi1, .int .u64 xlo1] ∧
      K (.agg #[.int .u64 xhi1, .int .u64 xlo1]) wv7))
def An.calc_long_minus : Ann := ⟨[], [], []⟩
theorem R.calc_long_minus {ahi1 : Int} {alo1 : Int} {bhi1 : Int} {blo1 : Int} {w : World} {K : Value → World → Prop} (h : C.calc_long_minus ahi1 alo1 bhi1 blo1 w K) : CallsV prog F.calc_long_minus #[.agg #[.int .u64 ahi1, .int .u64 alo1], .agg #[.int .u64 bhi1, .int .u64 blo1]] w K :=
  vcFn.calls (an := An.calc_long_minus) mixed tabOK eqsOK Go.Proofs.Tryd.func149 (by kernel_rfl) (by kernel_rfl) (by kernel_rfl) ((by kernel_rfl : vcFn prog eqs tab An.calc_long_minus Go.Proofs.Tryd.f149 [.agg #[.int .u64 ahi1, .int .u64 alo1], .agg #[.int .u64 bhi1, .int .u64 blo1]] w K = C.calc_long_minus ahi1 alo1 bhi1 blo1 w K).mpr h)

/-- (afflux/calc.long).short -/
def C.calc_long_short (ahi1 : Int) (alo1 : Int) (w : World) (K : Value → World → Prop) : Prop :=
  ∀ b1 wv1, New w (.cells #[.int .u64 ahi1, .int .u64 alo1] T.calc_long) b1 wv1 →
  ∃ (xhi1 : Int) (xlo1 : Int),
  cellsAt wv1.drew (Addr.mk b1 0 none) 0 [.int .u64 xhi1, .int .u64 xlo1] ∧
  ∃ (lo1 : Int),
  wv1.drew.cell? ((Addr.mk b1 0 none).add 1) = some (.int .u64 lo1) ∧
  CallsV prog F.calc_of #[.int .i64 (IntKind.i64.wrap lo1)] wv1.drew (fun v1 wv2 =>
    ∃ (rhi1 : Int) (rlo1 : Int),
    v1 = .agg #[.int .u64 rhi1, .int .u64 rlo1] ∧
    cellsAt wv2 (Addr.mk b1 0 none) 0 [.int .u64 xhi1, .int .u64 xlo1] ∧
    ifB (!((xhi1 == rhi1) && ((xlo1 == rlo1) && true))) (
      K (.tuple #[.int .i64 0, .int .i64 2]) wv2) (
      ∃ (lo2 : Int),
      wv2.cell? ((Addr.mk b1 0 none).add 1) = some (.int .u64 lo2) ∧
      K (.tuple #[.int .i64 (IntKind.i64.wrap lo2), .int .i64 0]) wv2))
def An.calc_long_short : Ann := ⟨[(1, .sil 0 [4] (.sil 1 [] (.sil 2 [] (.sil 3 [] (.act 4 (.sil 5 [] (.done)))))))], [], []⟩
theorem R.calc_long_short {ahi1 : Int} {alo1 : Int} {w : World} {K : Value → World → Prop} (h : C.calc_long_short ahi1 alo1 w K) : CallsV prog F.calc_long_short #[.agg #[.int .u64 ahi1, .int .u64 alo1]] w K :=
  vcFn.calls (an := An.calc_long_short) mixed tabOK eqsOK Go.Proofs.Tryd.func150 (by kernel_rfl) (by kernel_rfl) (by kernel_rfl) ((by kernel_rfl : vcFn prog eqs tab An.calc_long_short Go.Proofs.Tryd.f150 [.agg #[.int .u64 ahi1, .int .u64 alo1]] w K = C.calc_long_short ahi1 alo1 w K).mpr h)

/-- gosem.cut.vars -/
def C.gosem_cut_vars  (w : World) (K : Value → World → Prop) : Prop :=
  CanSt w ((Addr.mk 2 0 none).add 0) ∧ ∀ wv1, wv1 = w.setCell ((Addr.mk 2 0 none).add 0) (.int .u8 128) →
  CanSt wv1 ((Addr.mk 2 0 none).add 1) ∧ ∀ wv2, wv2 = wv1.setCell ((Addr.mk 2 0 none).add 1) (.int .u8 191) →
  CanSt wv2 ((Addr.mk 2 0 none).add 2) ∧ ∀ wv3, wv3 = wv2.setCell ((Addr.mk 2 0 none).add 2) (.int .u8 160) →
  CanSt wv3 ((Addr.mk 2 0 none).add 3) ∧ ∀ wv4, wv4 = wv3.setCell ((Addr.mk 2 0 none).add 3) (.int .u8 191) →
  CanSt wv4 ((Addr.mk 2 0 none).add 4) ∧ ∀ wv5, wv5 = wv4.setCell ((Addr.mk 2 0 none).add 4) (.int .u8 128) →
  CanSt wv5 ((Addr.mk 2 0 none).add 5) ∧ ∀ wv6, wv6 = wv5.setCell ((Addr.mk 2 0 none).add 5) (.int .u8 159) →
  CanSt wv6 ((Addr.mk 2 0 none).add 6) ∧ ∀ wv7, wv7 = wv6.setCell ((Addr.mk 2 0 none).add 6) (.int .u8 144) →
  CanSt wv7 ((Addr.mk 2 0 none).add 7) ∧ ∀ wv8, wv8 = wv7.setCell ((Addr.mk 2 0 none).add 7) (.int .u8 191) →
  CanSt wv8 ((Addr.mk 2 0 none).add 8) ∧ ∀ wv9, wv9 = wv8.setCell ((Addr.mk 2 0 none).add 8) (.int .u8 128) →
  CanSt wv9 ((Addr.mk 2 0 none).add 9) ∧ ∀ wv10, wv10 = wv9.setCell ((Addr.mk 2 0 none).add 9) (.int .u8 143) →
  CanSt wv10 ((Addr.mk 2 0 none).add 10) ∧ ∀ wv11, wv11 = wv10.setCell ((Addr.mk 2 0 none).add 10) (.int .u8 0) →
  CanSt wv11 ((Addr.mk 2 0 none).add 11) ∧ ∀ wv12, wv12 = wv11.setCell ((Addr.mk 2 0 none).add 11) (.int .u8 0) →
  CanSt wv12 ((Addr.mk 2 0 none).add 12) ∧ ∀ wv13, wv13 = wv12.setCell ((Addr.mk 2 0 none).add 12) (.int .u8 0) →
  CanSt wv13 ((Addr.mk 2 0 none).add 13) ∧ ∀ wv14, wv14 = wv13.setCell ((Addr.mk 2 0 none).add 13) (.int .u8 0) →
  CanSt wv14 ((Addr.mk 2 0 none).add 14) ∧ ∀ wv15, wv15 = wv14.setCell ((Addr.mk 2 0 none).add 14) (.int .u8 0) →
  CanSt wv15 ((Addr.mk 2 0 none).add 15) ∧ ∀ wv16, wv16 = wv15.setCell ((Addr.mk 2 0 none).add 15) (.int .u8 0) →
  CanSt wv16 ((Addr.mk 2 0 none).add 16) ∧ ∀ wv17, wv17 = wv16.setCell ((Addr.mk 2 0 none).add 16) (.int .u8 0) →
  CanSt wv17 ((Addr.mk 2 0 none).add 17) ∧ ∀ wv18, wv18 = wv17.setCell ((Addr.mk 2 0 none).add 17) (.int .u8 0) →
  CanSt wv18 ((Addr.mk 2 0 none).add 18) ∧ ∀ wv19, wv19 = wv18.setCell ((Addr.mk 2 0 none).add 18) (.int .u8 0) →
  CanSt wv19 ((Addr.mk 2 0 none).add 19) ∧ ∀ wv20, wv20 = wv19.setCell ((Addr.mk 2 0 none).add 19) (.int .u8 0) →
  CanSt wv20 ((Addr.mk 2 0 none).add 20) ∧ ∀ wv21, wv21 = wv20.setCell ((Addr.mk 2 0 none).add 20) (.int .u8 0) →
  CanSt wv21 ((Addr.mk 2 0 none).add 21) ∧ ∀ wv22, wv22 = wv21.setCell ((Addr.mk 2 0 none).add 21) (.int .u8 0) →
  CanSt wv22 ((Addr.mk 2 0 none).add 22) ∧ ∀ wv23, wv23 = wv22.setCell ((Addr.mk 2 0 none).add 22) (.int .u8 0) →
  CanSt wv23 ((Addr.mk 2 0 none).add 23) ∧ ∀ wv24, wv24 = wv23.setCell ((Addr.mk 2 0 none).add 23) (.int .u8 0) →
  CanSt wv24 ((Addr.mk 2 0 none).add 24) ∧ ∀ wv25, wv25 = wv24.setCell ((Addr.mk 2 0 none).add 24) (.int .u8 0) →
  CanSt wv25 ((Addr.mk 2 0 none).add 25) ∧ ∀ wv26, wv26 = wv25.setCell ((Addr.mk 2 0 none).add 25) (.int .u8 0) →
  CanSt wv26 ((Addr.mk 2 0 none).add 26) ∧ ∀ wv27, wv27 = wv26.setCell ((Addr.mk 2 0 none).add 26) (.int .u8 0) →
  CanSt wv27 ((Addr.mk 2 0 none).add 27) ∧ ∀ wv28, wv28 = wv27.setCell ((Addr.mk 2 0 none).add 27) (.int .u8 0) →
  CanSt wv28 ((Addr.mk 2 0 none).add 28) ∧ ∀ wv29, wv29 = wv28.setCell ((Addr.mk 2 0 none).add 28) (.int .u8 0) →
  CanSt wv29 ((Addr.mk 2 0 none).add 29) ∧ ∀ wv30, wv30 = wv29.setCell ((Addr.mk 2 0 none).add 29) (.int .u8 0) →
  CanSt wv30 ((Addr.mk 2 0 none).add 30) ∧ ∀ wv31, wv31 = wv30.setCell ((Addr.mk 2 0 none).add 30) (.int .u8 0) →
  CanSt wv31 ((Addr.mk 2 0 none).add 31) ∧ ∀ wv32, wv32 = wv31.setCell ((Addr.mk 2 0 none).add 31) (.int .u8 0) →
  K (.tuple #[]) wv32
def An.gosem_cut_vars : Ann := ⟨[], [], []⟩
theorem R.gosem_cut_vars  {w : World} {K : Value → World → Prop} (h : C.gosem_cut_vars  w K) : CallsV prog F.gosem_cut_vars #[] w K :=
  vcFn.calls (an := An.gosem_cut_vars) mixed tabOK eqsOK Go.Proofs.Tryd.func174 (by kernel_rfl) (by kernel_rfl) (by kernel_rfl) ((by kernel_rfl : vcFn prog eqs tab An.gosem_cut_vars Go.Proofs.Tryd.f174 [] w K = C.gosem_cut_vars  w K).mpr h)

end Go.Proofs.YtjcgociobhhijaaDoor
