/- Verification conditions of functions, and that they are theirs: the kernel reckons both sides. -/
import Derived.Test.YtjcgociobhhijaaNm
namespace Go.Proofs.Ytjcgociobhhijaa
open Go Go.Proofs.Ytjcgociobhhijaa.SX
set_option maxRecDepth 100000
set_option linter.unusedVariables false

/-- (*afflux/codec.Writer).Value -/
def C.codec_Writer_Value (wv1 : Option Addr) (l1p : Option Addr) (l1n l1c : Nat) (w : World) (K : Value → World → Prop) : Prop :=
  ∃ (Iv1 : Int → World → Prop) (m1 : Int → World → Nat),
  Iv1 0 w ∧
  ∀ (s91 : Int) wv2, Iv1 s91 wv2 →
  ifB (decide (s91 < ((l1n : Nat) : Int))) (
    ∃ a1, l1p = some a1 ∧ 0 ≤ s91 ∧ s91 < ((l1n : Nat) : Int) ∧
    ∃ (eKind1 : Int) (eN1 : Int) (eS1 : ByteArray),
    cellsAt wv2 (a1.add (s91.toNat * 3)) 0 [.int .i64 eKind1, .int .i64 eN1, .string eS1] ∧
    ∀ b1 wv3, New wv2 (.cells #[.int .i64 0, .int .i64 0, .string (bs [])] T.api_Value) b1 wv3 →
    CanSt wv3 ((Addr.mk b1 0 none).add 0) ∧ ∀ wv4, wv4 = wv3.setCell ((Addr.mk b1 0 none).add 0) (.int .i64 eKind1) →
    CanSt wv4 ((Addr.mk b1 0 none).add 1) ∧ ∀ wv5, wv5 = wv4.setCell ((Addr.mk b1 0 none).add 1) (.int .i64 eN1) →
    CanSt wv5 ((Addr.mk b1 0 none).add 2) ∧ ∀ wv6, wv6 = wv5.setCell ((Addr.mk b1 0 none).add 2) (.string eS1) →
    ifB (!wv1.isNone) (
      ∃ (xKind1 : Int) (xN1 : Int) (xS1 : ByteArray),
      cellsAt wv6 (Addr.mk b1 0 none) 0 [.int .i64 xKind1, .int .i64 xN1, .string xS1] ∧
      CallsV prog F.codec_Writer_one #[.pointer wv1, .agg #[.int .i64 xKind1, .int .i64 xN1, .string xS1]] wv6 (fun v1 wv7 =>
        v1 = .tuple #[] ∧
        Iv1 (IntKind.i64.wrap (s91 + (1 : Int))) wv7 ∧ m1 (IntKind.i64.wrap (s91 + (1 : Int))) wv7 < m1 s91 wv2)) (
      Iv1 (IntKind.i64.wrap (s91 + (1 : Int))) wv6 ∧ m1 (IntKind.i64.wrap (s91 + (1 : Int))) wv6 < m1 s91 wv2)) (
    K (.pointer wv1) wv2)
def An.codec_Writer_Value : Ann := ⟨[], [(2, [(9, 3)], [0, 7, 8])], []⟩
theorem R.codec_Writer_Value {wv1 : Option Addr} {l1p : Option Addr} {l1n l1c : Nat} {w : World} {K : Value → World → Prop} (h : C.codec_Writer_Value wv1 l1p l1n l1c w K) : CallsV prog F.codec_Writer_Value #[.pointer wv1, .slice l1p l1n l1c] w K :=
  vcFn.calls (an := An.codec_Writer_Value) mixed tabOK eqsOK Go.Proofs.Try.func82 (by kernel_rfl) (by kernel_rfl) (by kernel_rfl) ((by kernel_rfl : vcFn prog eqs tab An.codec_Writer_Value Go.Proofs.Try.f82 [.pointer wv1, .slice l1p l1n l1c] w K = C.codec_Writer_Value wv1 l1p l1n l1c w K).mpr h)

/-- (*afflux/codec.Reader).number -/
def C.codec_Reader_number (r1 : Option Addr) (w : World) (K : Value → World → Prop) : Prop :=
  CallsV prog F.codec_Reader_byte #[.pointer r1] w (fun v1 wv1 =>
    ∃ (r2 : Int),
    v1 = .int .i64 r2 ∧
    ifB (decide ((8 : Int) < r2)) (
      CallsV prog F.codec_Reader_Fail #[.pointer r1] wv1 (fun v2 wv2 =>
        v2 = .tuple #[] ∧
        CallsV prog F.codec_Reader_cut #[.pointer r1, .int .i64 r2] wv2 (fun v3 wv3 =>
          ∃ (r3p : Option Addr) (r3n r3c : Nat),
          v3 = .slice r3p r3n r3c ∧
          ifB (decide ((0 : Int) < ((r3n : Nat) : Int))) (
            ∃ a1, r3p = some a1 ∧ 0 ≤ (0 : Int) ∧ (0 : Int) < ((r3n : Nat) : Int) ∧
            ∃ (e1 : Int),
            wv3.cell? (a1.add ((0 : Int).toNat * 1)) = some (.int .u8 e1) ∧
            ifB (e1 == (0 : Int)) (
              CallsV prog F.codec_Reader_Fail #[.pointer r1] wv3 (fun v4 wv4 =>
                v4 = .tuple #[] ∧
                K (.int .u64 0) wv4)) (
              ∃ (Iv1 : Int → Int → World → Prop) (m1 : Int → Int → World → Nat),
              Iv1 0 0 wv3 ∧
              ∀ (n1 : Int) (s301 : Int) wv5, Iv1 n1 s301 wv5 →
              ifB (decide (s301 < ((r3n : Nat) : Int))) (
                ∃ a2, r3p = some a2 ∧ 0 ≤ s301 ∧ s301 < ((r3n : Nat) : Int) ∧
                ∃ (e2 : Int),
                wv5.cell? (a2.add (s301.toNat * 1)) = some (.int .u8 e2) ∧
                0 ≤ (8 : Int) ∧
                Iv1 (bits .or .u64 (IntKind.u64.wrap (n1 * 2 ^ (min (8 : Int).toNat IntKind.u64.bits))) (IntKind.u64.wrap e2)) (IntKind.i64.wrap (s301 + (1 : Int))) wv5 ∧ m1 (bits .or .u64 (IntKind.u64.wrap (n1 * 2 ^ (min (8 : Int).toNat IntKind.u64.bits))) (IntKind.u64.wrap e2)) (IntKind.i64.wrap (s301 + (1 : Int))) wv5 < m1 n1 s301 wv5) (
                K (.int .u64 n1) wv5))) (
            ∃ (Iv2 : Int → Int → World → Prop) (m2 : Int → Int → World → Nat),
            Iv2 0 0 wv3 ∧
            ∀ (n2 : Int) (s302 : Int) wv6, Iv2 n2 s302 wv6 →
            ifB (decide (s302 < ((r3n : Nat) : Int))) (
              ∃ a3, r3p = some a3 ∧ 0 ≤ s302 ∧ s302 < ((r3n : Nat) : Int) ∧
              ∃ (e3 : Int),
              wv6.cell? (a3.add (s302.toNat * 1)) = some (.int .u8 e3) ∧
              0 ≤ (8 : Int) ∧
              Iv2 (bits .or .u64 (IntKind.u64.wrap (n2 * 2 ^ (min (8 : Int).toNat IntKind.u64.bits))) (IntKind.u64.wrap e3)) (IntKind.i64.wrap (s302 + (1 : Int))) wv6 ∧ m2 (bits .or .u64 (IntKind.u64.wrap (n2 * 2 ^ (min (8 : Int).toNat IntKind.u64.bits))) (IntKind.u64.wrap e3)) (IntKind.i64.wrap (s302 + (1 : Int))) wv6 < m2 n2 s302 wv6) (
              K (.int .u64 n2) wv6))))) (
      CallsV prog F.codec_Reader_cut #[.pointer r1, .int .i64 r2] wv1 (fun v5 wv7 =>
        ∃ (r4p : Option Addr) (r4n r4c : Nat),
        v5 = .slice r4p r4n r4c ∧
        ifB (decide ((0 : Int) < ((r4n : Nat) : Int))) (
          ∃ a4, r4p = some a4 ∧ 0 ≤ (0 : Int) ∧ (0 : Int) < ((r4n : Nat) : Int) ∧
          ∃ (e4 : Int),
          wv7.cell? (a4.add ((0 : Int).toNat * 1)) = some (.int .u8 e4) ∧
          ifB (e4 == (0 : Int)) (
            CallsV prog F.codec_Reader_Fail #[.pointer r1] wv7 (fun v6 wv8 =>
              v6 = .tuple #[] ∧
              K (.int .u64 0) wv8)) (
            ∃ (Iv3 : Int → Int → World → Prop) (m3 : Int → Int → World → Nat),
            Iv3 0 0 wv7 ∧
            ∀ (n3 : Int) (s303 : Int) wv9, Iv3 n3 s303 wv9 →
            ifB (decide (s303 < ((r4n : Nat) : Int))) (
              ∃ a5, r4p = some a5 ∧ 0 ≤ s303 ∧ s303 < ((r4n : Nat) : Int) ∧
              ∃ (e5 : Int),
              wv9.cell? (a5.add (s303.toNat * 1)) = some (.int .u8 e5) ∧
              0 ≤ (8 : Int) ∧
              Iv3 (bits .or .u64 (IntKind.u64.wrap (n3 * 2 ^ (min (8 : Int).toNat IntKind.u64.bits))) (IntKind.u64.wrap e5)) (IntKind.i64.wrap (s303 + (1 : Int))) wv9 ∧ m3 (bits .or .u64 (IntKind.u64.wrap (n3 * 2 ^ (min (8 : Int).toNat IntKind.u64.bits))) (IntKind.u64.wrap e5)) (IntKind.i64.wrap (s303 + (1 : Int))) wv9 < m3 n3 s303 wv9) (
              K (.int .u64 n3) wv9))) (
          ∃ (Iv4 : Int → Int → World → Prop) (m4 : Int → Int → World → Nat),
          Iv4 0 0 wv7 ∧
          ∀ (n4 : Int) (s304 : Int) wv10, Iv4 n4 s304 wv10 →
          ifB (decide (s304 < ((r4n : Nat) : Int))) (
            ∃ a6, r4p = some a6 ∧ 0 ≤ s304 ∧ s304 < ((r4n : Nat) : Int) ∧
            ∃ (e6 : Int),
            wv10.cell? (a6.add (s304.toNat * 1)) = some (.int .u8 e6) ∧
            0 ≤ (8 : Int) ∧
            Iv4 (bits .or .u64 (IntKind.u64.wrap (n4 * 2 ^ (min (8 : Int).toNat IntKind.u64.bits))) (IntKind.u64.wrap e6)) (IntKind.i64.wrap (s304 + (1 : Int))) wv10 ∧ m4 (bits .or .u64 (IntKind.u64.wrap (n4 * 2 ^ (min (8 : Int).toNat IntKind.u64.bits))) (IntKind.u64.wrap e6)) (IntKind.i64.wrap (s304 + (1 : Int))) wv10 < m4 n4 s304 wv10) (
            K (.int .u64 n4) wv10)))))
def An.codec_Reader_number : Ann := ⟨[], [(10, [(5, 136), (30, 3)], [28, 29])], []⟩
theorem R.codec_Reader_number {r1 : Option Addr} {w : World} {K : Value → World → Prop} (h : C.codec_Reader_number r1 w K) : CallsV prog F.codec_Reader_number #[.pointer r1] w K :=
  vcFn.calls (an := An.codec_Reader_number) mixed tabOK eqsOK Go.Proofs.Try.func83 (by kernel_rfl) (by kernel_rfl) (by kernel_rfl) ((by kernel_rfl : vcFn prog eqs tab An.codec_Reader_number Go.Proofs.Try.f83 [.pointer r1] w K = C.codec_Reader_number r1 w K).mpr h)

/-- (*afflux/codec.Reader).Row -/
def C.codec_Reader_Row (r1 : Option Addr) (most1 : Int) (w : World) (K : Value → World → Prop) : Prop :=
  CallsV prog F.codec_Reader_Size #[.pointer r1, .int .i64 most1] w (fun v1 wv1 =>
    ∃ (r2 : Int),
    v1 = .int .i64 r2 ∧
    ∃ (Iv1 : Option Addr → Nat → Nat → Int → World → Prop) (m1 : Option Addr → Nat → Nat → Int → World → Nat),
    Iv1 none 0 0 r2 wv1 ∧
    ∀ (l1p : Option Addr) (l1n l1c : Nat) (n1 : Int) wv2, Iv1 l1p l1n l1c n1 wv2 →
    ifB (decide ((0 : Int) < n1)) (
      CallsV prog F.codec_Reader_Good #[.pointer r1] wv2 (fun v2 wv3 =>
        ∃ (r3 : Bool),
        v2 = .bool r3 ∧
        ifB r3 (
          CallsV prog F.codec_Reader_Value #[.pointer r1] wv3 (fun v3 wv4 =>
            ∃ (rKind1 : Int) (rN1 : Int) (rS1 : ByteArray),
            v3 = .agg #[.int .i64 rKind1, .int .i64 rN1, .string rS1] ∧
            ∀ b1 wv5, New wv4 (.cells #[.int .i64 rKind1, .int .i64 rN1, .string rS1] T.api_Value) b1 wv5 →
            BuiltV prog .append #[T.s_api_Value, T.s_api_Value] T.s_api_Value #[.slice l1p l1n l1c, .slice (some (Addr.mk b1 0 none)) 1 1] wv5 (fun v4 wv6 =>
              ∃ (a1p : Option Addr) (a1n a1c : Nat),
              v4 = .slice a1p a1n a1c ∧
              Iv1 a1p a1n a1c (IntKind.i64.wrap (n1 - (1 : Int))) wv6 ∧ m1 a1p a1n a1c (IntKind.i64.wrap (n1 - (1 : Int))) wv6 < m1 l1p l1n l1c n1 wv2))) (
          CallsV prog F.codec_Reader_Good #[.pointer r1] wv3 (fun v5 wv7 =>
            ∃ (r4 : Bool),
            v5 = .bool r4 ∧
            ifB (!r4) (
              K (.slice none 0 0) wv7) (
              K (.slice l1p l1n l1c) wv7))))) (
      CallsV prog F.codec_Reader_Good #[.pointer r1] wv2 (fun v6 wv8 =>
        ∃ (r5 : Bool),
        v6 = .bool r5 ∧
        ifB (!r5) (
          K (.slice none 0 0) wv8) (
          K (.slice l1p l1n l1c) wv8))))
def An.codec_Reader_Row : Ann := ⟨[], [(3, [(5, 79), (6, 3)], [0])], []⟩
theorem R.codec_Reader_Row {r1 : Option Addr} {most1 : Int} {w : World} {K : Value → World → Prop} (h : C.codec_Reader_Row r1 most1 w K) : CallsV prog F.codec_Reader_Row #[.pointer r1, .int .i64 most1] w K :=
  vcFn.calls (an := An.codec_Reader_Row) mixed tabOK eqsOK Go.Proofs.Try.func84 (by kernel_rfl) (by kernel_rfl) (by kernel_rfl) ((by kernel_rfl : vcFn prog eqs tab An.codec_Reader_Row Go.Proofs.Try.f84 [.pointer r1, .int .i64 most1] w K = C.codec_Reader_Row r1 most1 w K).mpr h)

/-- (*afflux/codec.Bytes).Len -/
def C.codec_Bytes_Len (b1 : Option Addr) (w : World) (K : Value → World → Prop) : Prop :=
  ifB b1.isNone (
    K (.int .i64 0) w) (
    ∃ ba1, b1 = some ba1 ∧
    ∃ (s1p : Option Addr) (s1n s1c : Nat),
    w.cell? (ba1.add 0) = some (.slice s1p s1n s1c) ∧
    K (.int .i64 ((s1n : Nat) : Int)) w)
def An.codec_Bytes_Len : Ann := ⟨[], [], []⟩
theorem R.codec_Bytes_Len {b1 : Option Addr} {w : World} {K : Value → World → Prop} (h : C.codec_Bytes_Len b1 w K) : CallsV prog F.codec_Bytes_Len #[.pointer b1] w K :=
  vcFn.calls (an := An.codec_Bytes_Len) mixed tabOK eqsOK Go.Proofs.Try.func85 (by kernel_rfl) (by kernel_rfl) (by kernel_rfl) ((by kernel_rfl : vcFn prog eqs tab An.codec_Bytes_Len Go.Proofs.Try.f85 [.pointer b1] w K = C.codec_Bytes_Len b1 w K).mpr h)

/-- slices.ContainsFunc[[]afflux/api.Value,afflux/api.Value] -/
def C.slices_ContainsFunc_api_Value_api_Value (s1p : Option Addr) (s1n s1c : Nat) (f1f : Nat) (f1c : Array Value) (w : World) (K : Value → World → Prop) : Prop :=
  CallsV prog F.slices_IndexFunc_api_Value_api_Value #[.slice s1p s1n s1c, .func (.func f1f) #[] f1c] w (fun v1 wv1 =>
    ∃ (r1 : Int),
    v1 = .int .i64 r1 ∧
    K (.bool (decide ((0 : Int) ≤ r1))) wv1)
def An.slices_ContainsFunc_api_Value_api_Value : Ann := ⟨[], [], []⟩
theorem R.slices_ContainsFunc_api_Value_api_Value {s1p : Option Addr} {s1n s1c : Nat} {f1f : Nat} {f1c : Array Value} {w : World} {K : Value → World → Prop} (h : C.slices_ContainsFunc_api_Value_api_Value s1p s1n s1c f1f f1c w K) : CallsV prog F.slices_ContainsFunc_api_Value_api_Value #[.slice s1p s1n s1c, .func (.func f1f) #[] f1c] w K :=
  vcFn.calls (an := An.slices_ContainsFunc_api_Value_api_Value) mixed tabOK eqsOK Go.Proofs.Try.func86 (by kernel_rfl) (by kernel_rfl) (by kernel_rfl) ((by kernel_rfl : vcFn prog eqs tab An.slices_ContainsFunc_api_Value_api_Value Go.Proofs.Try.f86 [.slice s1p s1n s1c, .func (.func f1f) #[] f1c] w K = C.slices_ContainsFunc_api_Value_api_Value s1p s1n s1c f1f f1c w K).mpr h)

/-- afflux/value.wrong -/
def C.value_wrong (vKind1 : Int) (vN1 : Int) (vS1 : ByteArray) (w : World) (K : Value → World → Prop) : Prop :=
  ∀ b1 wv1, New w (.cells #[.int .i64 vKind1, .int .i64 vN1, .string vS1] T.api_Value) b1 wv1 →
  ∃ (Kind1 : Int),
  wv1.cell? ((Addr.mk b1 0 none).add 0) = some (.int .i64 Kind1) ∧
  ifB (Kind1 == (1 : Int)) (
    ∃ (S1 : ByteArray),
    wv1.cell? ((Addr.mk b1 0 none).add 2) = some (.string S1) ∧
    K (.bool (!sEq S1 (bs []))) wv1) (
    ifB (Kind1 == (2 : Int)) (
      ∃ (N1 : Int),
      wv1.cell? ((Addr.mk b1 0 none).add 1) = some (.int .i64 N1) ∧
      ifB (N1 != (0 : Int)) (
        K (.bool true) wv1) (
        ∃ (S2 : ByteArray),
        wv1.cell? ((Addr.mk b1 0 none).add 2) = some (.string S2) ∧
        K (.bool (decide ((200 : Int) < ((S2.size : Nat) : Int)))) wv1)) (
      ifB (Kind1 == (3 : Int)) (
        ∃ (N2 : Int),
        wv1.cell? ((Addr.mk b1 0 none).add 1) = some (.int .i64 N2) ∧
        0 ≤ (1 : Int) ∧
        ifB ((Int.fdiv N2 (2 ^ (min (1 : Int).toNat IntKind.i64.bits))) != (0 : Int)) (
          K (.bool true) wv1) (
          ∃ (S3 : ByteArray),
          wv1.cell? ((Addr.mk b1 0 none).add 2) = some (.string S3) ∧
          K (.bool (!sEq S3 (bs []))) wv1)) (
        K (.bool true) wv1)))
def An.value_wrong : Ann := ⟨[], [], []⟩
theorem R.value_wrong {vKind1 : Int} {vN1 : Int} {vS1 : ByteArray} {w : World} {K : Value → World → Prop} (h : C.value_wrong vKind1 vN1 vS1 w K) : CallsV prog F.value_wrong #[.agg #[.int .i64 vKind1, .int .i64 vN1, .string vS1]] w K :=
  vcFn.calls (an := An.value_wrong) mixed tabOK eqsOK Go.Proofs.Try.func87 (by kernel_rfl) (by kernel_rfl) (by kernel_rfl) ((by kernel_rfl : vcFn prog eqs tab An.value_wrong Go.Proofs.Try.f87 [.agg #[.int .i64 vKind1, .int .i64 vN1, .string vS1]] w K = C.value_wrong vKind1 vN1 vS1 w K).mpr h)

/-- afflux/affluxref04.Value -/
def C.affluxref04_Value (vKind1 : Int) (vN1 : Int) (vS1 : ByteArray) (w : World) (K : Value → World → Prop) : Prop :=
  ∀ b1 wv1, New w (.cells #[.int .i64 vKind1, .int .i64 vN1, .string vS1] T.api_Value) b1 wv1 →
  ∃ (xKind1 : Int) (xN1 : Int) (xS1 : ByteArray),
  cellsAt wv1 (Addr.mk b1 0 none) 0 [.int .i64 xKind1, .int .i64 xN1, .string xS1] ∧
  CallsV prog F.affluxref02_Right #[.agg #[.int .i64 xKind1, .int .i64 xN1, .string xS1]] wv1 (fun v1 wv2 =>
    ∃ (r1 : Bool),
    v1 = .bool r1 ∧
    ifB (!r1) (
      CallsV prog F.affluxref04_Signed #[.int .i64 0] wv2 (fun v2 wv3 =>
        ∃ (r2 : ByteArray),
        v2 = .string r2 ∧
        (bs [1]).size + r2.size ≤ 9223372036854775807 ∧
        K (.string ((bs [1]) ++ r2)) wv3)) (
      ∃ (Kind1 : Int),
      wv2.cell? ((Addr.mk b1 0 none).add 0) = some (.int .i64 Kind1) ∧
      ifB (Kind1 == (1 : Int)) (
        ∃ (N1 : Int),
        wv2.cell? ((Addr.mk b1 0 none).add 1) = some (.int .i64 N1) ∧
        CallsV prog F.affluxref04_Signed #[.int .i64 N1] wv2 (fun v3 wv4 =>
          ∃ (r3 : ByteArray),
          v3 = .string r3 ∧
          (bs [1]).size + r3.size ≤ 9223372036854775807 ∧
          K (.string ((bs [1]) ++ r3)) wv4)) (
        ifB (Kind1 == (2 : Int)) (
          ∃ (S1 : ByteArray),
          wv2.cell? ((Addr.mk b1 0 none).add 2) = some (.string S1) ∧
          CallsV prog F.affluxref04_Text #[.string S1] wv2 (fun v4 wv5 =>
            ∃ (r4 : ByteArray),
            v4 = .string r4 ∧
            (bs [2]).size + r4.size ≤ 9223372036854775807 ∧
            K (.string ((bs [2]) ++ r4)) wv5)) (
          ∃ (N2 : Int),
          wv2.cell? ((Addr.mk b1 0 none).add 1) = some (.int .i64 N2) ∧
          ∀ b2 wv6, New wv2 (.cells #[.int .u8 3, .int .u8 (IntKind.u8.wrap N2)] T.uint8) b2 wv6 →
          ConvV prog T.s_uint8 T.string (.slice (some (Addr.mk b2 0 none)) 2 2) wv6 (fun v5 wv7 =>
            ∃ (c1 : ByteArray),
            v5 = .string c1 ∧
            K (.string c1) wv7)))))
def An.affluxref04_Value : Ann := ⟨[], [], []⟩
theorem R.affluxref04_Value {vKind1 : Int} {vN1 : Int} {vS1 : ByteArray} {w : World} {K : Value → World → Prop} (h : C.affluxref04_Value vKind1 vN1 vS1 w K) : CallsV prog F.affluxref04_Value #[.agg #[.int .i64 vKind1, .int .i64 vN1, .string vS1]] w K :=
  vcFn.calls (an := An.affluxref04_Value) mixed tabOK eqsOK Go.Proofs.Try.func88 (by kernel_rfl) (by kernel_rfl) (by kernel_rfl) ((by kernel_rfl : vcFn prog eqs tab An.affluxref04_Value Go.Proofs.Try.f88 [.agg #[.int .i64 vKind1, .int .i64 vN1, .string vS1]] w K = C.affluxref04_Value vKind1 vN1 vS1 w K).mpr h)

/-- (*afflux/codec.Writer).one -/
def C.codec_Writer_one (wv1 : Option Addr) (vKind1 : Int) (vN1 : Int) (vS1 : ByteArray) (w : World) (K : Value → World → Prop) : Prop :=
  ∀ b1 wv2, New w (.cells #[.int .i64 vKind1, .int .i64 vN1, .string vS1] T.api_Value) b1 wv2 →
  ∃ Jv1 : World → Prop,
  (∃ (xKind1 : Int) (xN1 : Int) (xS1 : ByteArray),
  cellsAt wv2 (Addr.mk b1 0 none) 0 [.int .i64 xKind1, .int .i64 xN1, .string xS1] ∧
  ∀ b2 wv3, New wv2 (.cells #[.int .i64 xKind1, .int .i64 xN1, .string xS1] T.api_Value) b2 wv3 →
  CallsV prog F.value_Right #[.slice (some (Addr.mk b2 0 none)) 1 1] wv3 (fun v1 wv4 =>
    ∃ (r1 : Bool),
    v1 = .bool r1 ∧
    ifB (!r1) (
      CallsV prog F.value_Int #[.int .i64 0] wv4 (fun v2 wv5 =>
        ∃ (rKind1 : Int) (rN1 : Int) (rS1 : ByteArray),
        v2 = .agg #[.int .i64 rKind1, .int .i64 rN1, .string rS1] ∧
        CanSt wv5 ((Addr.mk b1 0 none).add 0) ∧ ∀ wv6, wv6 = wv5.setCell ((Addr.mk b1 0 none).add 0) (.int .i64 rKind1) →
        CanSt wv6 ((Addr.mk b1 0 none).add 1) ∧ ∀ wv7, wv7 = wv6.setCell ((Addr.mk b1 0 none).add 1) (.int .i64 rN1) →
        CanSt wv7 ((Addr.mk b1 0 none).add 2) ∧ ∀ wv8, wv8 = wv7.setCell ((Addr.mk b1 0 none).add 2) (.string rS1) →
        Jv1 wv8)) (
      Jv1 wv4))) ∧
  (∀ wv9, Jv1 wv9 →
  ∃ wva1, wv1 = some wva1 ∧
  ∃ (Kind1 : Int),
  wv9.drew.cell? ((Addr.mk b1 0 none).add 0) = some (.int .i64 Kind1) ∧
  ∀ b3 wv10, New wv9.drew (.cells #[.int .u8 (IntKind.u8.wrap Kind1)] T.uint8) b3 wv10 →
  CallsV prog F.codec_Bytes_lay #[.pointer (some (wva1.add 0)), .slice (some (Addr.mk b3 0 none)) 1 1] wv10 (fun v3 wv11 =>
    v3 = .tuple #[] ∧
    ∃ (Kind2 : Int),
    wv11.cell? ((Addr.mk b1 0 none).add 0) = some (.int .i64 Kind2) ∧
    ifB (Kind2 == (1 : Int)) (
      ∃ (N1 : Int),
      wv11.cell? ((Addr.mk b1 0 none).add 1) = some (.int .i64 N1) ∧
      ∀ b4 wv12, New wv11 (.cells #[.int .i64 N1] T.int64) b4 wv12 →
      CallsV prog F.codec_Writer_Signed #[.pointer wv1, .slice (some (Addr.mk b4 0 none)) 1 1] wv12 (fun v4 wv13 =>
        ∃ (r2 : Option Addr),
        v4 = .pointer r2 ∧
        K (.tuple #[]) wv13)) (
      ifB (Kind2 == (2 : Int)) (
        ∃ (S1 : ByteArray),
        wv11.cell? ((Addr.mk b1 0 none).add 2) = some (.string S1) ∧
        ∀ b5 wv14, New wv11 (.cells #[.string S1] T.string) b5 wv14 →
        CallsV prog F.codec_Writer_Text #[.pointer wv1, .slice (some (Addr.mk b5 0 none)) 1 1] wv14 (fun v5 wv15 =>
          ∃ (r3 : Option Addr),
          v5 = .pointer r3 ∧
          K (.tuple #[]) wv15)) (
        ∃ wva2, wv1 = some wva2 ∧
        ∃ (N2 : Int),
        wv11.drew.cell? ((Addr.mk b1 0 none).add 1) = some (.int .i64 N2) ∧
        ∀ b6 wv16, New wv11.drew (.cells #[.int .u8 (IntKind.u8.wrap N2)] T.uint8) b6 wv16 →
        CallsV prog F.codec_Bytes_lay #[.pointer (some (wva2.add 0)), .slice (some (Addr.mk b6 0 none)) 1 1] wv16 (fun v6 wv17 =>
          v6 = .tuple #[] ∧
          K (.tuple #[]) wv17)))))
def An.codec_Writer_one : Ann := ⟨[(3, .sil 0 [] (.sil 1 [] (.sil 2 [] (.sil 3 [] (.sil 4 [] (.sil 5 [] (.act 6 (.act 7 (.done))))))))), (5, .sil 0 [] (.sil 1 [] (.sil 2 [] (.sil 3 [] (.sil 4 [] (.sil 5 [] (.act 6 (.act 7 (.done)))))))))], [], [(3, [], [0, 3])]⟩
theorem R.codec_Writer_one {wv1 : Option Addr} {vKind1 : Int} {vN1 : Int} {vS1 : ByteArray} {w : World} {K : Value → World → Prop} (h : C.codec_Writer_one wv1 vKind1 vN1 vS1 w K) : CallsV prog F.codec_Writer_one #[.pointer wv1, .agg #[.int .i64 vKind1, .int .i64 vN1, .string vS1]] w K :=
  vcFn.calls (an := An.codec_Writer_one) mixed tabOK eqsOK Go.Proofs.Try.func89 (by kernel_rfl) (by kernel_rfl) (by kernel_rfl) ((by kernel_rfl : vcFn prog eqs tab An.codec_Writer_one Go.Proofs.Try.f89 [.pointer wv1, .agg #[.int .i64 vKind1, .int .i64 vN1, .string vS1]] w K = C.codec_Writer_one wv1 vKind1 vN1 vS1 w K).mpr h)

/-- (*afflux/codec.Reader).byte -/
def C.codec_Reader_byte (r1 : Option Addr) (w : World) (K : Value → World → Prop) : Prop :=
  CallsV prog F.codec_Reader_cut #[.pointer r1, .int .i64 1] w (fun v1 wv1 =>
    ∃ (r2p : Option Addr) (r2n r2c : Nat),
    v1 = .slice r2p r2n r2c ∧
    ifB r2p.isNone (
      K (.int .i64 0) wv1) (
      ∃ a1, r2p = some a1 ∧ 0 ≤ (0 : Int) ∧ (0 : Int) < ((r2n : Nat) : Int) ∧
      ∃ (e1 : Int),
      wv1.cell? (a1.add ((0 : Int).toNat * 1)) = some (.int .u8 e1) ∧
      K (.int .i64 (IntKind.i64.wrap e1)) wv1))
def An.codec_Reader_byte : Ann := ⟨[], [], []⟩
theorem R.codec_Reader_byte {r1 : Option Addr} {w : World} {K : Value → World → Prop} (h : C.codec_Reader_byte r1 w K) : CallsV prog F.codec_Reader_byte #[.pointer r1] w K :=
  vcFn.calls (an := An.codec_Reader_byte) mixed tabOK eqsOK Go.Proofs.Try.func90 (by kernel_rfl) (by kernel_rfl) (by kernel_rfl) ((by kernel_rfl : vcFn prog eqs tab An.codec_Reader_byte Go.Proofs.Try.f90 [.pointer r1] w K = C.codec_Reader_byte r1 w K).mpr h)

/-- (*afflux/codec.Reader).cut -/
def C.codec_Reader_cut (r1 : Option Addr) (n1 : Int) (w : World) (K : Value → World → Prop) : Prop :=
  CallsV prog F.codec_Reader_Good #[.pointer r1] w (fun v1 wv1 =>
    ∃ (r2 : Bool),
    v1 = .bool r2 ∧
    ifB (!r2) (
      CallsV prog F.codec_Reader_Fail #[.pointer r1] wv1 (fun v2 wv2 =>
        v2 = .tuple #[] ∧
        K (.slice none 0 0) wv2)) (
      ∃ ra1, r1 = some ra1 ∧
      ∃ (s1p : Option Addr) (s1n s1c : Nat),
      wv1.cell? ((ra1.add 0).add 0) = some (.slice s1p s1n s1c) ∧
      ifB (decide (((s1n : Nat) : Int) < n1)) (
        CallsV prog F.codec_Reader_Fail #[.pointer r1] wv1 (fun v3 wv3 =>
          v3 = .tuple #[] ∧
          K (.slice none 0 0) wv3)) (
        ∃ ra2, r1 = some ra2 ∧
        ∃ (s2p : Option Addr) (s2n s2c : Nat),
        wv1.cell? ((ra2.add 0).add 0) = some (.slice s2p s2n s2c) ∧
        0 ≤ n1 ∧ n1 ≤ ((s2c : Nat) : Int) ∧
        ∃ ra3, r1 = some ra3 ∧
        ∃ (s3p : Option Addr) (s3n s3c : Nat),
        wv1.cell? ((ra3.add 0).add 0) = some (.slice s3p s3n s3c) ∧
        0 ≤ n1 ∧ n1 ≤ ((s3n : Nat) : Int) ∧
        ∃ ra4, r1 = some ra4 ∧
        CanSt wv1 ((ra4.add 0).add 0) ∧ ∀ wv4, wv4 = wv1.setCell ((ra4.add 0).add 0) (.slice (cutAt s3p n1.toNat s3c 1) (s3n - n1.toNat) (s3c - n1.toNat)) →
        K (.slice (cutAt s2p 0 s2c 1) (n1.toNat - 0) (s2c - 0)) wv4)))
def An.codec_Reader_cut : Ann := ⟨[], [], []⟩
theorem R.codec_Reader_cut {r1 : Option Addr} {n1 : Int} {w : World} {K : Value → World → Prop} (h : C.codec_Reader_cut r1 n1 w K) : CallsV prog F.codec_Reader_cut #[.pointer r1, .int .i64 n1] w K :=
  vcFn.calls (an := An.codec_Reader_cut) mixed tabOK eqsOK Go.Proofs.Try.func91 (by kernel_rfl) (by kernel_rfl) (by kernel_rfl) ((by kernel_rfl : vcFn prog eqs tab An.codec_Reader_cut Go.Proofs.Try.f91 [.pointer r1, .int .i64 n1] w K = C.codec_Reader_cut r1 n1 w K).mpr h)

/-- (*afflux/codec.Reader).Value -/
def C.codec_Reader_Value (r1 : Option Addr) (w : World) (K : Value → World → Prop) : Prop :=
  ∀ b1 wv1, New w (.cells #[.int .i64 0, .int .i64 0, .string (bs [])] T.api_Value) b1 wv1 →
  CallsV prog F.codec_Reader_byte #[.pointer r1] wv1 (fun v1 wv2 =>
    ∃ (r2 : Int),
    v1 = .int .i64 r2 ∧
    ∀ b2 wv3, New wv2 (.cells #[.int .i64 0, .int .i64 0, .string (bs [])] T.api_Value) b2 wv3 →
    CanSt wv3 ((Addr.mk b2 0 none).add 0) ∧ ∀ wv4, wv4 = wv3.setCell ((Addr.mk b2 0 none).add 0) (.int .i64 r2) →
    CanSt wv4 ((Addr.mk b2 0 none).add 1) ∧ ∀ wv5, wv5 = wv4.setCell ((Addr.mk b2 0 none).add 1) (.int .i64 0) →
    CanSt wv5 ((Addr.mk b2 0 none).add 2) ∧ ∀ wv6, wv6 = wv5.setCell ((Addr.mk b2 0 none).add 2) (.string (bs [])) →
    ∃ Jv1 : World → Prop,
    (∃ (Kind1 : Int),
    wv6.cell? ((Addr.mk b2 0 none).add 0) = some (.int .i64 Kind1) ∧
    ifB (Kind1 == (1 : Int)) (
      CallsV prog F.codec_Reader_Signed #[.pointer r1] wv6 (fun v2 wv7 =>
        ∃ (r3 : Int),
        v2 = .int .i64 r3 ∧
        CanSt wv7 ((Addr.mk b2 0 none).add 1) ∧ ∀ wv8, wv8 = wv7.setCell ((Addr.mk b2 0 none).add 1) (.int .i64 r3) →
        Jv1 wv8)) (
      ifB (Kind1 == (2 : Int)) (
        CallsV prog F.codec_Reader_Text #[.pointer r1, .int .i64 200] wv6 (fun v3 wv9 =>
          ∃ (r4 : ByteArray),
          v3 = .string r4 ∧
          CanSt wv9 ((Addr.mk b2 0 none).add 2) ∧ ∀ wv10, wv10 = wv9.setCell ((Addr.mk b2 0 none).add 2) (.string r4) →
          Jv1 wv10)) (
        ifB (Kind1 == (3 : Int)) (
          CallsV prog F.codec_Reader_byte #[.pointer r1] wv6 (fun v4 wv11 =>
            ∃ (r5 : Int),
            v4 = .int .i64 r5 ∧
            CanSt wv11 ((Addr.mk b2 0 none).add 1) ∧ ∀ wv12, wv12 = wv11.setCell ((Addr.mk b2 0 none).add 1) (.int .i64 r5) →
            Jv1 wv12)) (
          Jv1 wv6)))) ∧
    (∀ wv13, Jv1 wv13 →
    ∃ (xKind1 : Int) (xN1 : Int) (xS1 : ByteArray),
    cellsAt wv13 (Addr.mk b2 0 none) 0 [.int .i64 xKind1, .int .i64 xN1, .string xS1] ∧
    ∀ b3 wv14, New wv13 (.cells #[.int .i64 xKind1, .int .i64 xN1, .string xS1] T.api_Value) b3 wv14 →
    CallsV prog F.value_Right #[.slice (some (Addr.mk b3 0 none)) 1 1] wv14 (fun v5 wv15 =>
      ∃ (r6 : Bool),
      v5 = .bool r6 ∧
      ifB (!r6) (
        CallsV prog F.codec_Reader_Fail #[.pointer r1] wv15 (fun v6 wv16 =>
          v6 = .tuple #[] ∧
          CallsV prog F.codec_Reader_Good #[.pointer r1] wv16 (fun v7 wv17 =>
            ∃ (r7 : Bool),
            v7 = .bool r7 ∧
            ifB (!r7) (
              CanSt wv17 ((Addr.mk b1 0 none).add 0) ∧ ∀ wv18, wv18 = wv17.setCell ((Addr.mk b1 0 none).add 0) (.int .i64 0) →
              CanSt wv18 ((Addr.mk b1 0 none).add 1) ∧ ∀ wv19, wv19 = wv18.setCell ((Addr.mk b1 0 none).add 1) (.int .i64 0) →
              CanSt wv19 ((Addr.mk b1 0 none).add 2) ∧ ∀ wv20, wv20 = wv19.setCell ((Addr.mk b1 0 none).add 2) (.string (bs [])) →
              ∃ (xKind2 : Int) (xN2 : Int) (xS2 : ByteArray),
              cellsAt wv20 (Addr.mk b1 0 none) 0 [.int .i64 xKind2, .int .i64 xN2, .string xS2] ∧
              K (.agg #[.int .i64 xKind2, .int .i64 xN2, .string xS2]) wv20) (
              ∃ (xKind3 : Int) (xN3 : Int) (xS3 : ByteArray),
              cellsAt wv17 (Addr.mk b2 0 none) 0 [.int .i64 xKind3, .int .i64 xN3, .string xS3] ∧
              CanSt wv17 ((Addr.mk b1 0 none).add 0) ∧ ∀ wv21, wv21 = wv17.setCell ((Addr.mk b1 0 none).add 0) (.int .i64 xKind3) →
              CanSt wv21 ((Addr.mk b1 0 none).add 1) ∧ ∀ wv22, wv22 = wv21.setCell ((Addr.mk b1 0 none).add 1) (.int .i64 xN3) →
              CanSt wv22 ((Addr.mk b1 0 none).add 2) ∧ ∀ wv23, wv23 = wv22.setCell ((Addr.mk b1 0 none).add 2) (.string xS3) →
              ∃ (xKind4 : Int) (xN4 : Int) (xS4 : ByteArray),
              cellsAt wv23 (Addr.mk b1 0 none) 0 [.int .i64 xKind4, .int .i64 xN4, .string xS4] ∧
              K (.agg #[.int .i64 xKind4, .int .i64 xN4, .string xS4]) wv23)))) (
        CallsV prog F.codec_Reader_Good #[.pointer r1] wv15 (fun v8 wv24 =>
          ∃ (r8 : Bool),
          v8 = .bool r8 ∧
          ifB (!r8) (
            CanSt wv24 ((Addr.mk b1 0 none).add 0) ∧ ∀ wv25, wv25 = wv24.setCell ((Addr.mk b1 0 none).add 0) (.int .i64 0) →
            CanSt wv25 ((Addr.mk b1 0 none).add 1) ∧ ∀ wv26, wv26 = wv25.setCell ((Addr.mk b1 0 none).add 1) (.int .i64 0) →
            CanSt wv26 ((Addr.mk b1 0 none).add 2) ∧ ∀ wv27, wv27 = wv26.setCell ((Addr.mk b1 0 none).add 2) (.string (bs [])) →
            ∃ (xKind5 : Int) (xN5 : Int) (xS5 : ByteArray),
            cellsAt wv27 (Addr.mk b1 0 none) 0 [.int .i64 xKind5, .int .i64 xN5, .string xS5] ∧
            K (.agg #[.int .i64 xKind5, .int .i64 xN5, .string xS5]) wv27) (
            ∃ (xKind6 : Int) (xN6 : Int) (xS6 : ByteArray),
            cellsAt wv24 (Addr.mk b2 0 none) 0 [.int .i64 xKind6, .int .i64 xN6, .string xS6] ∧
            CanSt wv24 ((Addr.mk b1 0 none).add 0) ∧ ∀ wv28, wv28 = wv24.setCell ((Addr.mk b1 0 none).add 0) (.int .i64 xKind6) →
            CanSt wv28 ((Addr.mk b1 0 none).add 1) ∧ ∀ wv29, wv29 = wv28.setCell ((Addr.mk b1 0 none).add 1) (.int .i64 xN6) →
            CanSt wv29 ((Addr.mk b1 0 none).add 2) ∧ ∀ wv30, wv30 = wv29.setCell ((Addr.mk b1 0 none).add 2) (.string xS6) →
            ∃ (xKind7 : Int) (xN7 : Int) (xS7 : ByteArray),
            cellsAt wv30 (Addr.mk b1 0 none) 0 [.int .i64 xKind7, .int .i64 xN7, .string xS7] ∧
            K (.agg #[.int .i64 xKind7, .int .i64 xN7, .string xS7]) wv30))))))
def An.codec_Reader_Value : Ann := ⟨[], [], [(9, [], [0, 2, 3])]⟩
theorem R.codec_Reader_Value {r1 : Option Addr} {w : World} {K : Value → World → Prop} (h : C.codec_Reader_Value r1 w K) : CallsV prog F.codec_Reader_Value #[.pointer r1] w K :=
  vcFn.calls (an := An.codec_Reader_Value) mixed tabOK eqsOK Go.Proofs.Try.func92 (by kernel_rfl) (by kernel_rfl) (by kernel_rfl) ((by kernel_rfl : vcFn prog eqs tab An.codec_Reader_Value Go.Proofs.Try.f92 [.pointer r1] w K = C.codec_Reader_Value r1 w K).mpr h)

/-- slices.IndexFunc[[]afflux/api.Value,afflux/api.Value] -/
def C.slices_IndexFunc_api_Value_api_Value (s1p : Option Addr) (s1n s1c : Nat) (f1f : Nat) (f1c : Array Value) (w : World) (K : Value → World → Prop) : Prop :=
  ∃ (Iv1 : Int → World → Prop) (m1 : Int → World → Nat),
  Iv1 0 w ∧
  ∀ (s81 : Int) wv1, Iv1 s81 wv1 →
  ifB (decide (s81 < ((s1n : Nat) : Int))) (
    ∃ a1, s1p = some a1 ∧ 0 ≤ s81 ∧ s81 < ((s1n : Nat) : Int) ∧
    ∃ (eKind1 : Int) (eN1 : Int) (eS1 : ByteArray),
    cellsAt wv1 (a1.add (s81.toNat * 3)) 0 [.int .i64 eKind1, .int .i64 eN1, .string eS1] ∧
    CallsV prog f1f (#[] ++ #[.agg #[.int .i64 eKind1, .int .i64 eN1, .string eS1]] ++ f1c) wv1 (fun v1 wv2 =>
      ∃ (r1 : Bool),
      v1 = .bool r1 ∧
      ifB r1 (
        K (.int .i64 s81) wv2) (
        Iv1 (IntKind.i64.wrap (s81 + (1 : Int))) wv2 ∧ m1 (IntKind.i64.wrap (s81 + (1 : Int))) wv2 < m1 s81 wv1))) (
    K (.int .i64 (-1)) wv1)
def An.slices_IndexFunc_api_Value_api_Value : Ann := ⟨[], [(2, [(8, 3)], [0, 1, 7])], []⟩
theorem R.slices_IndexFunc_api_Value_api_Value {s1p : Option Addr} {s1n s1c : Nat} {f1f : Nat} {f1c : Array Value} {w : World} {K : Value → World → Prop} (h : C.slices_IndexFunc_api_Value_api_Value s1p s1n s1c f1f f1c w K) : CallsV prog F.slices_IndexFunc_api_Value_api_Value #[.slice s1p s1n s1c, .func (.func f1f) #[] f1c] w K :=
  vcFn.calls (an := An.slices_IndexFunc_api_Value_api_Value) mixed tabOK eqsOK Go.Proofs.Try.func93 (by kernel_rfl) (by kernel_rfl) (by kernel_rfl) ((by kernel_rfl : vcFn prog eqs tab An.slices_IndexFunc_api_Value_api_Value Go.Proofs.Try.f93 [.slice s1p s1n s1c, .func (.func f1f) #[] f1c] w K = C.slices_IndexFunc_api_Value_api_Value s1p s1n s1c f1f f1c w K).mpr h)

/-- afflux/affluxref04.Signed -/
def C.affluxref04_Signed (n1 : Int) (w : World) (K : Value → World → Prop) : Prop :=
  ifB (decide (n1 < (0 : Int))) (
    CallsV prog F.affluxref04_Number #[.int .u64 (IntKind.u64.wrap ((IntKind.u64.wrap ((2 : Int) * (IntKind.u64.wrap (IntKind.i64.wrap (0 - (IntKind.i64.wrap (n1 + (1 : Int)))))))) + (1 : Int)))] w (fun v1 wv1 =>
      ∃ (r1 : ByteArray),
      v1 = .string r1 ∧
      K (.string r1) wv1)) (
    CallsV prog F.affluxref04_Number #[.int .u64 (IntKind.u64.wrap ((2 : Int) * (IntKind.u64.wrap n1)))] w (fun v2 wv2 =>
      ∃ (r2 : ByteArray),
      v2 = .string r2 ∧
      K (.string r2) wv2))
def An.affluxref04_Signed : Ann := ⟨[], [], []⟩
theorem R.affluxref04_Signed {n1 : Int} {w : World} {K : Value → World → Prop} (h : C.affluxref04_Signed n1 w K) : CallsV prog F.affluxref04_Signed #[.int .i64 n1] w K :=
  vcFn.calls (an := An.affluxref04_Signed) mixed tabOK eqsOK Go.Proofs.Try.func94 (by kernel_rfl) (by kernel_rfl) (by kernel_rfl) ((by kernel_rfl : vcFn prog eqs tab An.affluxref04_Signed Go.Proofs.Try.f94 [.int .i64 n1] w K = C.affluxref04_Signed n1 w K).mpr h)

/-- afflux/affluxref04.Text -/
def C.affluxref04_Text (s1 : ByteArray) (w : World) (K : Value → World → Prop) : Prop :=
  CallsV prog F.affluxref04_Size #[.int .i64 ((s1.size : Nat) : Int)] w (fun v1 wv1 =>
    ∃ (r1 : ByteArray),
    v1 = .string r1 ∧
    r1.size + s1.size ≤ 9223372036854775807 ∧
    K (.string (r1 ++ s1)) wv1)
def An.affluxref04_Text : Ann := ⟨[], [], []⟩
theorem R.affluxref04_Text {s1 : ByteArray} {w : World} {K : Value → World → Prop} (h : C.affluxref04_Text s1 w K) : CallsV prog F.affluxref04_Text #[.string s1] w K :=
  vcFn.calls (an := An.affluxref04_Text) mixed tabOK eqsOK Go.Proofs.Try.func95 (by kernel_rfl) (by kernel_rfl) (by kernel_rfl) ((by kernel_rfl : vcFn prog eqs tab An.affluxref04_Text Go.Proofs.Try.f95 [.string s1] w K = C.affluxref04_Text s1 w K).mpr h)

/-- afflux/value.Int -/
def C.value_Int (n1 : Int) (w : World) (K : Value → World → Prop) : Prop :=
  ∀ b1 wv1, New w (.cells #[.int .i64 0, .int .i64 0, .string (bs [])] T.api_Value) b1 wv1 →
  CanSt wv1 ((Addr.mk b1 0 none).add 0) ∧ ∀ wv2, wv2 = wv1.setCell ((Addr.mk b1 0 none).add 0) (.int .i64 1) →
  CanSt wv2 ((Addr.mk b1 0 none).add 1) ∧ ∀ wv3, wv3 = wv2.setCell ((Addr.mk b1 0 none).add 1) (.int .i64 n1) →
  CanSt wv3 ((Addr.mk b1 0 none).add 2) ∧ ∀ wv4, wv4 = wv3.setCell ((Addr.mk b1 0 none).add 2) (.string (bs [])) →
  ∃ (xKind1 : Int) (xN1 : Int) (xS1 : ByteArray),
  cellsAt wv4 (Addr.mk b1 0 none) 0 [.int .i64 xKind1, .int .i64 xN1, .string xS1] ∧
  K (.agg #[.int .i64 xKind1, .int .i64 xN1, .string xS1]) wv4
def An.value_Int : Ann := ⟨[], [], []⟩
theorem R.value_Int {n1 : Int} {w : World} {K : Value → World → Prop} (h : C.value_Int n1 w K) : CallsV prog F.value_Int #[.int .i64 n1] w K :=
  vcFn.calls (an := An.value_Int) mixed tabOK eqsOK Go.Proofs.Try.func96 (by kernel_rfl) (by kernel_rfl) (by kernel_rfl) ((by kernel_rfl : vcFn prog eqs tab An.value_Int Go.Proofs.Try.f96 [.int .i64 n1] w K = C.value_Int n1 w K).mpr h)

/-- (*afflux/codec.Writer).Signed -/
def C.codec_Writer_Signed (wv1 : Option Addr) (l1p : Option Addr) (l1n l1c : Nat) (w : World) (K : Value → World → Prop) : Prop :=
  ∃ (Iv1 : Int → World → Prop) (m1 : Int → World → Nat),
  Iv1 0 w ∧
  ∀ (s91 : Int) wv2, Iv1 s91 wv2 →
  ifB (decide (s91 < ((l1n : Nat) : Int))) (
    ∃ a1, l1p = some a1 ∧ 0 ≤ s91 ∧ s91 < ((l1n : Nat) : Int) ∧
    ∃ (e1 : Int),
    wv2.cell? (a1.add (s91.toNat * 1)) = some (.int .i64 e1) ∧
    ifB (!wv1.isNone) (
      ∃ wva1, wv1 = some wva1 ∧
      0 ≤ (1 : Int) ∧
      0 ≤ (63 : Int) ∧
      CallsV prog F.codec_Bytes_number #[.pointer (some (wva1.add 0)), .int .u64 (bits .xor .u64 (IntKind.u64.wrap ((IntKind.u64.wrap e1) * 2 ^ (min (1 : Int).toNat IntKind.u64.bits))) (IntKind.u64.wrap (Int.fdiv e1 (2 ^ (min (63 : Int).toNat IntKind.i64.bits)))))] wv2 (fun v1 wv3 =>
        v1 = .tuple #[] ∧
        Iv1 (IntKind.i64.wrap (s91 + (1 : Int))) wv3 ∧ m1 (IntKind.i64.wrap (s91 + (1 : Int))) wv3 < m1 s91 wv2)) (
      Iv1 (IntKind.i64.wrap (s91 + (1 : Int))) wv2 ∧ m1 (IntKind.i64.wrap (s91 + (1 : Int))) wv2 < m1 s91 wv2)) (
    K (.pointer wv1) wv2)
def An.codec_Writer_Signed : Ann := ⟨[], [(2, [(9, 3)], [0, 7, 8])], []⟩
theorem R.codec_Writer_Signed {wv1 : Option Addr} {l1p : Option Addr} {l1n l1c : Nat} {w : World} {K : Value → World → Prop} (h : C.codec_Writer_Signed wv1 l1p l1n l1c w K) : CallsV prog F.codec_Writer_Signed #[.pointer wv1, .slice l1p l1n l1c] w K :=
  vcFn.calls (an := An.codec_Writer_Signed) mixed tabOK eqsOK Go.Proofs.Try.func97 (by kernel_rfl) (by kernel_rfl) (by kernel_rfl) ((by kernel_rfl : vcFn prog eqs tab An.codec_Writer_Signed Go.Proofs.Try.f97 [.pointer wv1, .slice l1p l1n l1c] w K = C.codec_Writer_Signed wv1 l1p l1n l1c w K).mpr h)

/-- (*afflux/codec.Writer).Text -/
def C.codec_Writer_Text (wv1 : Option Addr) (l1p : Option Addr) (l1n l1c : Nat) (w : World) (K : Value → World → Prop) : Prop :=
  ∃ (Iv1 : Int → World → Prop) (m1 : Int → World → Nat),
  Iv1 0 w ∧
  ∀ (s91 : Int) wv2, Iv1 s91 wv2 →
  ifB (decide (s91 < ((l1n : Nat) : Int))) (
    ∃ a1, l1p = some a1 ∧ 0 ≤ s91 ∧ s91 < ((l1n : Nat) : Int) ∧
    ∃ (e1 : ByteArray),
    wv2.cell? (a1.add (s91.toNat * 1)) = some (.string e1) ∧
    ifB (!wv1.isNone) (
      ∃ wva1, wv1 = some wva1 ∧
      CallsV prog F.codec_Bytes_number #[.pointer (some (wva1.add 0)), .int .u64 (IntKind.u64.wrap ((e1.size : Nat) : Int))] wv2 (fun v1 wv3 =>
        v1 = .tuple #[] ∧
        ∃ wva2, wv1 = some wva2 ∧
        ConvV prog T.string T.s_uint8 (.string e1) wv3 (fun v2 wv4 =>
          ∃ (c1p : Option Addr) (c1n c1c : Nat),
          v2 = .slice c1p c1n c1c ∧
          CallsV prog F.codec_Bytes_lay #[.pointer (some (wva2.add 0)), .slice c1p c1n c1c] wv4 (fun v3 wv5 =>
            v3 = .tuple #[] ∧
            Iv1 (IntKind.i64.wrap (s91 + (1 : Int))) wv5 ∧ m1 (IntKind.i64.wrap (s91 + (1 : Int))) wv5 < m1 s91 wv2)))) (
      Iv1 (IntKind.i64.wrap (s91 + (1 : Int))) wv2 ∧ m1 (IntKind.i64.wrap (s91 + (1 : Int))) wv2 < m1 s91 wv2)) (
    K (.pointer wv1) wv2)
def An.codec_Writer_Text : Ann := ⟨[], [(2, [(9, 3)], [0, 7, 8])], []⟩
theorem R.codec_Writer_Text {wv1 : Option Addr} {l1p : Option Addr} {l1n l1c : Nat} {w : World} {K : Value → World → Prop} (h : C.codec_Writer_Text wv1 l1p l1n l1c w K) : CallsV prog F.codec_Writer_Text #[.pointer wv1, .slice l1p l1n l1c] w K :=
  vcFn.calls (an := An.codec_Writer_Text) mixed tabOK eqsOK Go.Proofs.Try.func98 (by kernel_rfl) (by kernel_rfl) (by kernel_rfl) ((by kernel_rfl : vcFn prog eqs tab An.codec_Writer_Text Go.Proofs.Try.f98 [.pointer wv1, .slice l1p l1n l1c] w K = C.codec_Writer_Text wv1 l1p l1n l1c w K).mpr h)

/-- (*afflux/codec.Reader).Signed -/
def C.codec_Reader_Signed (r1 : Option Addr) (w : World) (K : Value → World → Prop) : Prop :=
  CallsV prog F.codec_Reader_number #[.pointer r1] w (fun v1 wv1 =>
    ∃ (r2 : Int),
    v1 = .int .u64 r2 ∧
    0 ≤ (1 : Int) ∧
    K (.int .i64 (bits .xor .i64 (IntKind.i64.wrap (Int.fdiv r2 (2 ^ (min (1 : Int).toNat IntKind.u64.bits)))) (IntKind.i64.wrap (0 - (IntKind.i64.wrap (bits .and .u64 r2 (1 : Int))))))) wv1)
def An.codec_Reader_Signed : Ann := ⟨[], [], []⟩
theorem R.codec_Reader_Signed {r1 : Option Addr} {w : World} {K : Value → World → Prop} (h : C.codec_Reader_Signed r1 w K) : CallsV prog F.codec_Reader_Signed #[.pointer r1] w K :=
  vcFn.calls (an := An.codec_Reader_Signed) mixed tabOK eqsOK Go.Proofs.Try.func99 (by kernel_rfl) (by kernel_rfl) (by kernel_rfl) ((by kernel_rfl : vcFn prog eqs tab An.codec_Reader_Signed Go.Proofs.Try.f99 [.pointer r1] w K = C.codec_Reader_Signed r1 w K).mpr h)

/-- (*afflux/codec.Reader).Text -/
def C.codec_Reader_Text (r1 : Option Addr) (most1 : Int) (w : World) (K : Value → World → Prop) : Prop :=
  CallsV prog F.codec_Reader_Size #[.pointer r1, .int .i64 most1] w (fun v1 wv1 =>
    ∃ (r2 : Int),
    v1 = .int .i64 r2 ∧
    CallsV prog F.codec_Reader_cut #[.pointer r1, .int .i64 r2] wv1 (fun v2 wv2 =>
      ∃ (r3p : Option Addr) (r3n r3c : Nat),
      v2 = .slice r3p r3n r3c ∧
      ConvV prog T.s_uint8 T.string (.slice r3p r3n r3c) wv2 (fun v3 wv3 =>
        ∃ (c1 : ByteArray),
        v3 = .string c1 ∧
        K (.string c1) wv3)))
def An.codec_Reader_Text : Ann := ⟨[], [], []⟩
theorem R.codec_Reader_Text {r1 : Option Addr} {most1 : Int} {w : World} {K : Value → World → Prop} (h : C.codec_Reader_Text r1 most1 w K) : CallsV prog F.codec_Reader_Text #[.pointer r1, .int .i64 most1] w K :=
  vcFn.calls (an := An.codec_Reader_Text) mixed tabOK eqsOK Go.Proofs.Try.func100 (by kernel_rfl) (by kernel_rfl) (by kernel_rfl) ((by kernel_rfl : vcFn prog eqs tab An.codec_Reader_Text Go.Proofs.Try.f100 [.pointer r1, .int .i64 most1] w K = C.codec_Reader_Text r1 most1 w K).mpr h)

/-- (afflux/window.back).Back -/
def C.window_back_Back (bunitsseen1p : Option Addr) (bunitsseen1n bunitsseen1c : Nat) (bunitsstaged1p : Option Addr) (bunitsstaged1n bunitsstaged1c : Nat) (bw1 : Option Addr) (w : World) (K : Value → World → Prop) : Prop :=
  ∀ b1 wv1, New w (.cells #[.slice bunitsseen1p bunitsseen1n bunitsseen1c, .slice bunitsstaged1p bunitsstaged1n bunitsstaged1c, .pointer bw1] T.window_back) b1 wv1 →
  ∃ (wv2 : Option Addr),
  wv1.cell? ((Addr.mk b1 0 none).add 2) = some (.pointer wv2) ∧
  ∃ (unitsseen1p : Option Addr) (unitsseen1n unitsseen1c : Nat) (unitsstaged1p : Option Addr) (unitsstaged1n unitsstaged1c : Nat),
  cellsAt wv1 ((Addr.mk b1 0 none).add 0) 0 [.slice unitsseen1p unitsseen1n unitsseen1c, .slice unitsstaged1p unitsstaged1n unitsstaged1c] ∧
  ∃ wva1, wv2 = some wva1 ∧
  CanSt wv1 ((wva1.add 6).add 0) ∧ ∀ wv3, wv3 = wv1.setCell ((wva1.add 6).add 0) (.slice unitsseen1p unitsseen1n unitsseen1c) →
  CanSt wv3 ((wva1.add 6).add 1) ∧ ∀ wv4, wv4 = wv3.setCell ((wva1.add 6).add 1) (.slice unitsstaged1p unitsstaged1n unitsstaged1c) →
  K (.tuple #[]) wv4
def An.window_back_Back : Ann := ⟨[], [], []⟩
theorem R.window_back_Back {bunitsseen1p : Option Addr} {bunitsseen1n bunitsseen1c : Nat} {bunitsstaged1p : Option Addr} {bunitsstaged1n bunitsstaged1c : Nat} {bw1 : Option Addr} {w : World} {K : Value → World → Prop} (h : C.window_back_Back bunitsseen1p bunitsseen1n bunitsseen1c bunitsstaged1p bunitsstaged1n bunitsstaged1c bw1 w K) : CallsV prog F.window_back_Back #[.agg #[.slice bunitsseen1p bunitsseen1n bunitsseen1c, .slice bunitsstaged1p bunitsstaged1n bunitsstaged1c, .pointer bw1]] w K :=
  vcFn.calls (an := An.window_back_Back) mixed tabOK eqsOK Go.Proofs.Try.func117 (by kernel_rfl) (by kernel_rfl) (by kernel_rfl) ((by kernel_rfl : vcFn prog eqs tab An.window_back_Back Go.Proofs.Try.f117 [.agg #[.slice bunitsseen1p bunitsseen1n bunitsseen1c, .slice bunitsstaged1p bunitsstaged1n bunitsstaged1c, .pointer bw1]] w K = C.window_back_Back bunitsseen1p bunitsseen1n bunitsseen1c bunitsstaged1p bunitsstaged1n bunitsstaged1c bw1 w K).mpr h)

end Go.Proofs.Ytjcgociobhhijaa
