/- Verification conditions of functions, and that they are theirs: the kernel reckons both sides. -/
import Derived.Test.YtjcgociobhhijaaDoorNm
namespace Go.Proofs.YtjcgociobhhijaaDoor
open Go Go.Proofs.YtjcgociobhhijaaDoor.SX
set_option maxRecDepth 100000
set_option linter.unusedVariables false

/-- afflux/affluxref03.Same -/
def C.affluxref03_Same (aName1 : ByteArray) (aCols1p : Option Addr) (aCols1n aCols1c : Nat) (aIndexes1p : Option Addr) (aIndexes1n aIndexes1c : Nat) (aLimit1 : Int) (aParts1 : Int) (aBy1 : Int) (bName1 : ByteArray) (bCols1p : Option Addr) (bCols1n bCols1c : Nat) (bIndexes1p : Option Addr) (bIndexes1n bIndexes1c : Nat) (bLimit1 : Int) (bParts1 : Int) (bBy1 : Int) (w : World) (K : Value → World → Prop) : Prop :=
  ∀ b1 wv1, New w (.cells #[.string aName1, .slice aCols1p aCols1n aCols1c, .slice aIndexes1p aIndexes1n aIndexes1c, .int .i64 aLimit1, .int .i64 aParts1, .int .i64 aBy1] T.api_Schema) b1 wv1 →
  ∀ b2 wv2, New wv1 (.cells #[.string bName1, .slice bCols1p bCols1n bCols1c, .slice bIndexes1p bIndexes1n bIndexes1c, .int .i64 bLimit1, .int .i64 bParts1, .int .i64 bBy1] T.api_Schema) b2 wv2 →
  ∃ Jv1 : World → Prop,
  (∃ (Name1 : ByteArray),
  wv2.cell? ((Addr.mk b1 0 none).add 0) = some (.string Name1) ∧
  ∃ (Name2 : ByteArray),
  wv2.cell? ((Addr.mk b2 0 none).add 0) = some (.string Name2) ∧
  ifB (!sEq Name1 Name2) (
    K (.bool false) wv2) (
    ∃ (Limit1 : Int),
    wv2.cell? ((Addr.mk b1 0 none).add 3) = some (.int .i64 Limit1) ∧
    ∃ (Limit2 : Int),
    wv2.cell? ((Addr.mk b2 0 none).add 3) = some (.int .i64 Limit2) ∧
    ifB (Limit1 != Limit2) (
      K (.bool false) wv2) (
      ∃ (Parts1 : Int),
      wv2.cell? ((Addr.mk b1 0 none).add 4) = some (.int .i64 Parts1) ∧
      ∃ (Parts2 : Int),
      wv2.cell? ((Addr.mk b2 0 none).add 4) = some (.int .i64 Parts2) ∧
      ifB (Parts1 != Parts2) (
        K (.bool false) wv2) (
        ∃ (By1 : Int),
        wv2.cell? ((Addr.mk b1 0 none).add 5) = some (.int .i64 By1) ∧
        ∃ (By2 : Int),
        wv2.cell? ((Addr.mk b2 0 none).add 5) = some (.int .i64 By2) ∧
        ifB (By1 != By2) (
          K (.bool false) wv2) (
          ∃ (Cols1p : Option Addr) (Cols1n Cols1c : Nat),
          wv2.cell? ((Addr.mk b1 0 none).add 1) = some (.slice Cols1p Cols1n Cols1c) ∧
          ∃ (Cols2p : Option Addr) (Cols2n Cols2c : Nat),
          wv2.cell? ((Addr.mk b2 0 none).add 1) = some (.slice Cols2p Cols2n Cols2c) ∧
          ifB (((Cols1n : Nat) : Int) != ((Cols2n : Nat) : Int)) (
            K (.bool false) wv2) (
            ∃ (Indexes1p : Option Addr) (Indexes1n Indexes1c : Nat),
            wv2.cell? ((Addr.mk b1 0 none).add 2) = some (.slice Indexes1p Indexes1n Indexes1c) ∧
            ∃ (Indexes2p : Option Addr) (Indexes2n Indexes2c : Nat),
            wv2.cell? ((Addr.mk b2 0 none).add 2) = some (.slice Indexes2p Indexes2n Indexes2c) ∧
            ifB (((Indexes1n : Nat) : Int) != ((Indexes2n : Nat) : Int)) (
              K (.bool false) wv2) (
              Jv1 wv2))))))) ∧
  (∀ wv3, Jv1 wv3 →
  ∃ (Iv1 : Int → World → Prop) (m1 : Int → World → Nat),
  Iv1 0 wv3 ∧
  ∀ (i1 : Int) wv4, Iv1 i1 wv4 →
  ∃ (Cols3p : Option Addr) (Cols3n Cols3c : Nat),
  wv4.cell? ((Addr.mk b1 0 none).add 1) = some (.slice Cols3p Cols3n Cols3c) ∧
  ifB (decide (i1 < ((Cols3n : Nat) : Int))) (
    ∃ (Cols4p : Option Addr) (Cols4n Cols4c : Nat),
    wv4.drew.cell? ((Addr.mk b1 0 none).add 1) = some (.slice Cols4p Cols4n Cols4c) ∧
    ∃ a1, Cols4p = some a1 ∧ 0 ≤ i1 ∧ i1 < ((Cols4n : Nat) : Int) ∧
    ∃ (eName1 : ByteArray) (eKind1 : Int),
    cellsAt wv4.drew (a1.add (i1.toNat * 2)) 0 [.string eName1, .int .i64 eKind1] ∧
    ∃ (Cols5p : Option Addr) (Cols5n Cols5c : Nat),
    wv4.drew.cell? ((Addr.mk b2 0 none).add 1) = some (.slice Cols5p Cols5n Cols5c) ∧
    ∃ a2, Cols5p = some a2 ∧ 0 ≤ i1 ∧ i1 < ((Cols5n : Nat) : Int) ∧
    ∃ (eName2 : ByteArray) (eKind2 : Int),
    cellsAt wv4.drew (a2.add (i1.toNat * 2)) 0 [.string eName2, .int .i64 eKind2] ∧
    ifB (!(sEq eName1 eName2 && ((eKind1 == eKind2) && true))) (
      K (.bool false) wv4.drew) (
      Iv1 (IntKind.i64.wrap (i1 + (1 : Int))) wv4.drew ∧ m1 (IntKind.i64.wrap (i1 + (1 : Int))) wv4.drew < m1 i1 wv4)) (
    ∃ (Iv2 : Int → World → Prop) (m2 : Int → World → Nat),
    Iv2 0 wv4 ∧
    ∀ (i2 : Int) wv5, Iv2 i2 wv5 →
    ∃ (Indexes3p : Option Addr) (Indexes3n Indexes3c : Nat),
    wv5.cell? ((Addr.mk b1 0 none).add 2) = some (.slice Indexes3p Indexes3n Indexes3c) ∧
    ifB (decide (i2 < ((Indexes3n : Nat) : Int))) (
      ∃ (Indexes4p : Option Addr) (Indexes4n Indexes4c : Nat),
      wv5.drew.cell? ((Addr.mk b1 0 none).add 2) = some (.slice Indexes4p Indexes4n Indexes4c) ∧
      ∃ a3, Indexes4p = some a3 ∧ 0 ≤ i2 ∧ i2 < ((Indexes4n : Nat) : Int) ∧
      ∃ (Unique1 : Bool),
      wv5.drew.cell? ((a3.add (i2.toNat * 2)).add 1) = some (.bool Unique1) ∧
      ∃ (Indexes5p : Option Addr) (Indexes5n Indexes5c : Nat),
      wv5.drew.cell? ((Addr.mk b2 0 none).add 2) = some (.slice Indexes5p Indexes5n Indexes5c) ∧
      ∃ a4, Indexes5p = some a4 ∧ 0 ≤ i2 ∧ i2 < ((Indexes5n : Nat) : Int) ∧
      ∃ (Unique2 : Bool),
      wv5.drew.cell? ((a4.add (i2.toNat * 2)).add 1) = some (.bool Unique2) ∧
      ifB (!(Unique1 == Unique2)) (
        K (.bool false) wv5.drew) (
        ∃ (Indexes6p : Option Addr) (Indexes6n Indexes6c : Nat),
        wv5.drew.cell? ((Addr.mk b1 0 none).add 2) = some (.slice Indexes6p Indexes6n Indexes6c) ∧
        ∃ a5, Indexes6p = some a5 ∧ 0 ≤ i2 ∧ i2 < ((Indexes6n : Nat) : Int) ∧
        ∃ (Cols6p : Option Addr) (Cols6n Cols6c : Nat),
        wv5.drew.cell? ((a5.add (i2.toNat * 2)).add 0) = some (.slice Cols6p Cols6n Cols6c) ∧
        ∃ (Indexes7p : Option Addr) (Indexes7n Indexes7c : Nat),
        wv5.drew.cell? ((Addr.mk b2 0 none).add 2) = some (.slice Indexes7p Indexes7n Indexes7c) ∧
        ∃ a6, Indexes7p = some a6 ∧ 0 ≤ i2 ∧ i2 < ((Indexes7n : Nat) : Int) ∧
        ∃ (Cols7p : Option Addr) (Cols7n Cols7c : Nat),
        wv5.drew.cell? ((a6.add (i2.toNat * 2)).add 0) = some (.slice Cols7p Cols7n Cols7c) ∧
        CallsV prog F.affluxref03_same #[.slice Cols6p Cols6n Cols6c, .slice Cols7p Cols7n Cols7c] wv5.drew (fun v1 wv6 =>
          ∃ (r1 : Bool),
          v1 = .bool r1 ∧
          ifB (!r1) (
            K (.bool false) wv6) (
            Iv2 (IntKind.i64.wrap (i2 + (1 : Int))) wv6 ∧ m2 (IntKind.i64.wrap (i2 + (1 : Int))) wv6 < m2 i2 wv5)))) (
      K (.bool true) wv5)))
def An.affluxref03_Same : Ann := ⟨[(6, .sil 0 [] (.sil 1 [] (.sil 2 [] (.sil 3 [] (.sil 4 [] (.sil 5 [] (.sil 6 [] (.sil 7 [] (.sil 8 [] (.sil 9 [] (.sil 10 [] (.done)))))))))))), (11, .sil 0 [] (.sil 1 [] (.sil 2 [] (.sil 3 [] (.sil 4 [] (.sil 5 [] (.sil 6 [] (.sil 7 [] (.sil 8 [] (.sil 9 [] (.sil 10 [] (.sil 11 [] (.sil 12 [] (.sil 13 [] (.sil 14 [] (.sil 15 [] (.sil 16 [] (.sil 17 [] (.sil 18 [] (.sil 19 [] (.sil 20 [] (.sil 21 [] (.sil 22 [] (.sil 23 [] (.sil 24 [] (.sil 25 [] (.act 26 (.sil 27 [] (.sil 28 [] (.done))))))))))))))))))))))))))))))], [(4, [(5, 3)], [2, 3]), (9, [(6, 3)], [2, 3])], [(3, [], [2, 3])]⟩
theorem R.affluxref03_Same {aName1 : ByteArray} {aCols1p : Option Addr} {aCols1n aCols1c : Nat} {aIndexes1p : Option Addr} {aIndexes1n aIndexes1c : Nat} {aLimit1 : Int} {aParts1 : Int} {aBy1 : Int} {bName1 : ByteArray} {bCols1p : Option Addr} {bCols1n bCols1c : Nat} {bIndexes1p : Option Addr} {bIndexes1n bIndexes1c : Nat} {bLimit1 : Int} {bParts1 : Int} {bBy1 : Int} {w : World} {K : Value → World → Prop} (h : C.affluxref03_Same aName1 aCols1p aCols1n aCols1c aIndexes1p aIndexes1n aIndexes1c aLimit1 aParts1 aBy1 bName1 bCols1p bCols1n bCols1c bIndexes1p bIndexes1n bIndexes1c bLimit1 bParts1 bBy1 w K) : CallsV prog F.affluxref03_Same #[.agg #[.string aName1, .slice aCols1p aCols1n aCols1c, .slice aIndexes1p aIndexes1n aIndexes1c, .int .i64 aLimit1, .int .i64 aParts1, .int .i64 aBy1], .agg #[.string bName1, .slice bCols1p bCols1n bCols1c, .slice bIndexes1p bIndexes1n bIndexes1c, .int .i64 bLimit1, .int .i64 bParts1, .int .i64 bBy1]] w K :=
  vcFn.calls (an := An.affluxref03_Same) mixed tabOK eqsOK Go.Proofs.Tryd.func44 (by kernel_rfl) (by kernel_rfl) (by kernel_rfl) ((by kernel_rfl : vcFn prog eqs tab An.affluxref03_Same Go.Proofs.Tryd.f44 [.agg #[.string aName1, .slice aCols1p aCols1n aCols1c, .slice aIndexes1p aIndexes1n aIndexes1c, .int .i64 aLimit1, .int .i64 aParts1, .int .i64 aBy1], .agg #[.string bName1, .slice bCols1p bCols1n bCols1c, .slice bIndexes1p bIndexes1n bIndexes1c, .int .i64 bLimit1, .int .i64 bParts1, .int .i64 bBy1]] w K = C.affluxref03_Same aName1 aCols1p aCols1n aCols1c aIndexes1p aIndexes1n aIndexes1c aLimit1 aParts1 aBy1 bName1 bCols1p bCols1n bCols1c bIndexes1p bIndexes1n bIndexes1c bLimit1 bParts1 bBy1 w K).mpr h)

/-- afflux/schema.Same -/
def C.schema_Same (aName1 : ByteArray) (aCols1p : Option Addr) (aCols1n aCols1c : Nat) (aIndexes1p : Option Addr) (aIndexes1n aIndexes1c : Nat) (aLimit1 : Int) (aParts1 : Int) (aBy1 : Int) (bName1 : ByteArray) (bCols1p : Option Addr) (bCols1n bCols1c : Nat) (bIndexes1p : Option Addr) (bIndexes1n bIndexes1c : Nat) (bLimit1 : Int) (bParts1 : Int) (bBy1 : Int) (w : World) (K : Value → World → Prop) : Prop :=
  ∀ b1 wv1, New w (.cells #[.string aName1, .slice aCols1p aCols1n aCols1c, .slice aIndexes1p aIndexes1n aIndexes1c, .int .i64 aLimit1, .int .i64 aParts1, .int .i64 aBy1] T.api_Schema) b1 wv1 →
  ∀ b2 wv2, New wv1 (.cells #[.string bName1, .slice bCols1p bCols1n bCols1c, .slice bIndexes1p bIndexes1n bIndexes1c, .int .i64 bLimit1, .int .i64 bParts1, .int .i64 bBy1] T.api_Schema) b2 wv2 →
  ∃ (Name1 : ByteArray),
  wv2.cell? ((Addr.mk b1 0 none).add 0) = some (.string Name1) ∧
  ∃ (Name2 : ByteArray),
  wv2.cell? ((Addr.mk b2 0 none).add 0) = some (.string Name2) ∧
  ifB (sEq Name1 Name2) (
    ∃ (Limit1 : Int),
    wv2.cell? ((Addr.mk b1 0 none).add 3) = some (.int .i64 Limit1) ∧
    ∃ (Limit2 : Int),
    wv2.cell? ((Addr.mk b2 0 none).add 3) = some (.int .i64 Limit2) ∧
    ifB (Limit1 == Limit2) (
      ∃ (Parts1 : Int),
      wv2.cell? ((Addr.mk b1 0 none).add 4) = some (.int .i64 Parts1) ∧
      ∃ (Parts2 : Int),
      wv2.cell? ((Addr.mk b2 0 none).add 4) = some (.int .i64 Parts2) ∧
      ifB (Parts1 == Parts2) (
        ∃ (By1 : Int),
        wv2.cell? ((Addr.mk b1 0 none).add 5) = some (.int .i64 By1) ∧
        ∃ (By2 : Int),
        wv2.cell? ((Addr.mk b2 0 none).add 5) = some (.int .i64 By2) ∧
        ifB (By1 == By2) (
          ∃ (Cols1p : Option Addr) (Cols1n Cols1c : Nat),
          wv2.cell? ((Addr.mk b1 0 none).add 1) = some (.slice Cols1p Cols1n Cols1c) ∧
          ∃ (Cols2p : Option Addr) (Cols2n Cols2c : Nat),
          wv2.cell? ((Addr.mk b2 0 none).add 1) = some (.slice Cols2p Cols2n Cols2c) ∧
          CallsV prog F.slices_Equal_api_Column_api_Column #[.slice Cols1p Cols1n Cols1c, .slice Cols2p Cols2n Cols2c] wv2 (fun v1 wv3 =>
            ∃ (r1 : Bool),
            v1 = .bool r1 ∧
            ifB r1 (
              ∃ (Indexes1p : Option Addr) (Indexes1n Indexes1c : Nat),
              wv3.cell? ((Addr.mk b1 0 none).add 2) = some (.slice Indexes1p Indexes1n Indexes1c) ∧
              ∃ (Indexes2p : Option Addr) (Indexes2n Indexes2c : Nat),
              wv3.cell? ((Addr.mk b2 0 none).add 2) = some (.slice Indexes2p Indexes2n Indexes2c) ∧
              CallsV prog F.slices_EqualFunc_api_Index_api_Index_api_Index_api_Index #[.slice Indexes1p Indexes1n Indexes1c, .slice Indexes2p Indexes2n Indexes2c, .func (.func F.schema_Same_1) #[] #[]] wv3 (fun v2 wv4 =>
                ∃ (r2 : Bool),
                v2 = .bool r2 ∧
                K (.bool r2) wv4)) (
              K (.bool false) wv3))) (
          K (.bool false) wv2)) (
        K (.bool false) wv2)) (
      K (.bool false) wv2)) (
    K (.bool false) wv2)
def An.schema_Same : Ann := ⟨[], [], []⟩
theorem R.schema_Same {aName1 : ByteArray} {aCols1p : Option Addr} {aCols1n aCols1c : Nat} {aIndexes1p : Option Addr} {aIndexes1n aIndexes1c : Nat} {aLimit1 : Int} {aParts1 : Int} {aBy1 : Int} {bName1 : ByteArray} {bCols1p : Option Addr} {bCols1n bCols1c : Nat} {bIndexes1p : Option Addr} {bIndexes1n bIndexes1c : Nat} {bLimit1 : Int} {bParts1 : Int} {bBy1 : Int} {w : World} {K : Value → World → Prop} (h : C.schema_Same aName1 aCols1p aCols1n aCols1c aIndexes1p aIndexes1n aIndexes1c aLimit1 aParts1 aBy1 bName1 bCols1p bCols1n bCols1c bIndexes1p bIndexes1n bIndexes1c bLimit1 bParts1 bBy1 w K) : CallsV prog F.schema_Same #[.agg #[.string aName1, .slice aCols1p aCols1n aCols1c, .slice aIndexes1p aIndexes1n aIndexes1c, .int .i64 aLimit1, .int .i64 aParts1, .int .i64 aBy1], .agg #[.string bName1, .slice bCols1p bCols1n bCols1c, .slice bIndexes1p bIndexes1n bIndexes1c, .int .i64 bLimit1, .int .i64 bParts1, .int .i64 bBy1]] w K :=
  vcFn.calls (an := An.schema_Same) mixed tabOK eqsOK Go.Proofs.Tryd.func45 (by kernel_rfl) (by kernel_rfl) (by kernel_rfl) ((by kernel_rfl : vcFn prog eqs tab An.schema_Same Go.Proofs.Tryd.f45 [.agg #[.string aName1, .slice aCols1p aCols1n aCols1c, .slice aIndexes1p aIndexes1n aIndexes1c, .int .i64 aLimit1, .int .i64 aParts1, .int .i64 aBy1], .agg #[.string bName1, .slice bCols1p bCols1n bCols1c, .slice bIndexes1p bIndexes1n bIndexes1c, .int .i64 bLimit1, .int .i64 bParts1, .int .i64 bBy1]] w K = C.schema_Same aName1 aCols1p aCols1n aCols1c aIndexes1p aIndexes1n aIndexes1c aLimit1 aParts1 aBy1 bName1 bCols1p bCols1n bCols1c bIndexes1p bIndexes1n bIndexes1c bLimit1 bParts1 bBy1 w K).mpr h)

/-- afflux/schema.Zero -/
def C.schema_Zero (sName1 : ByteArray) (sCols1p : Option Addr) (sCols1n sCols1c : Nat) (sIndexes1p : Option Addr) (sIndexes1n sIndexes1c : Nat) (sLimit1 : Int) (sParts1 : Int) (sBy1 : Int) (w : World) (K : Value → World → Prop) : Prop :=
  ∀ b1 wv1, New w (.cells #[.string sName1, .slice sCols1p sCols1n sCols1c, .slice sIndexes1p sIndexes1n sIndexes1c, .int .i64 sLimit1, .int .i64 sParts1, .int .i64 sBy1] T.api_Schema) b1 wv1 →
  ∃ (Cols1p : Option Addr) (Cols1n Cols1c : Nat),
  wv1.cell? ((Addr.mk b1 0 none).add 1) = some (.slice Cols1p Cols1n Cols1c) ∧
  ∃ (Iv1 : Option Addr → Nat → Nat → Int → World → Prop) (m1 : Option Addr → Nat → Nat → Int → World → Nat),
  Iv1 none 0 0 0 wv1 ∧
  ∀ (l1p : Option Addr) (l1n l1c : Nat) (s101 : Int) wv2, Iv1 l1p l1n l1c s101 wv2 →
  ifB (decide (s101 < ((Cols1n : Nat) : Int))) (
    ∃ a1, Cols1p = some a1 ∧ 0 ≤ s101 ∧ s101 < ((Cols1n : Nat) : Int) ∧
    ∃ (eName1 : ByteArray) (eKind1 : Int),
    cellsAt wv2 (a1.add (s101.toNat * 2)) 0 [.string eName1, .int .i64 eKind1] ∧
    ∀ b2 wv3, New wv2 (.cells #[.string (bs []), .int .i64 0] T.api_Column) b2 wv3 →
    CanSt wv3 ((Addr.mk b2 0 none).add 0) ∧ ∀ wv4, wv4 = wv3.setCell ((Addr.mk b2 0 none).add 0) (.string eName1) →
    CanSt wv4 ((Addr.mk b2 0 none).add 1) ∧ ∀ wv5, wv5 = wv4.setCell ((Addr.mk b2 0 none).add 1) (.int .i64 eKind1) →
    ∀ b3 wv6, New wv5 (.cells #[.int .i64 0, .int .i64 0, .string (bs [])] T.api_Value) b3 wv6 →
    CanSt wv6 ((Addr.mk b3 0 none).add 0) ∧ ∀ wv7, wv7 = wv6.setCell ((Addr.mk b3 0 none).add 0) (.int .i64 0) →
    CanSt wv7 ((Addr.mk b3 0 none).add 1) ∧ ∀ wv8, wv8 = wv7.setCell ((Addr.mk b3 0 none).add 1) (.int .i64 0) →
    CanSt wv8 ((Addr.mk b3 0 none).add 2) ∧ ∀ wv9, wv9 = wv8.setCell ((Addr.mk b3 0 none).add 2) (.string (bs [])) →
    ∃ (Kind1 : Int),
    wv9.cell? ((Addr.mk b2 0 none).add 1) = some (.int .i64 Kind1) ∧
    CallsV prog F.schema_within #[.int .i64 Kind1, .int .i64 1, .int .i64 3] wv9 (fun v1 wv10 =>
      ∃ (r1 : Bool),
      v1 = .bool r1 ∧
      ifB r1 (
        ∃ (Kind2 : Int),
        wv10.cell? ((Addr.mk b2 0 none).add 1) = some (.int .i64 Kind2) ∧
        CanSt wv10 ((Addr.mk b3 0 none).add 0) ∧ ∀ wv11, wv11 = wv10.setCell ((Addr.mk b3 0 none).add 0) (.int .i64 Kind2) →
        ∃ (xKind1 : Int) (xN1 : Int) (xS1 : ByteArray),
        cellsAt wv11 (Addr.mk b3 0 none) 0 [.int .i64 xKind1, .int .i64 xN1, .string xS1] ∧
        ∀ b4 wv12, New wv11 (.cells #[.int .i64 xKind1, .int .i64 xN1, .string xS1] T.api_Value) b4 wv12 →
        BuiltV prog .append #[T.s_api_Value, T.s_api_Value] T.s_api_Value #[.slice l1p l1n l1c, .slice (some (Addr.mk b4 0 none)) 1 1] wv12 (fun v2 wv13 =>
          ∃ (a2p : Option Addr) (a2n a2c : Nat),
          v2 = .slice a2p a2n a2c ∧
          Iv1 a2p a2n a2c (IntKind.i64.wrap (s101 + (1 : Int))) wv13 ∧ m1 a2p a2n a2c (IntKind.i64.wrap (s101 + (1 : Int))) wv13 < m1 l1p l1n l1c s101 wv2)) (
        ∃ (xKind2 : Int) (xN2 : Int) (xS2 : ByteArray),
        cellsAt wv10 (Addr.mk b3 0 none) 0 [.int .i64 xKind2, .int .i64 xN2, .string xS2] ∧
        ∀ b5 wv14, New wv10 (.cells #[.int .i64 xKind2, .int .i64 xN2, .string xS2] T.api_Value) b5 wv14 →
        BuiltV prog .append #[T.s_api_Value, T.s_api_Value] T.s_api_Value #[.slice l1p l1n l1c, .slice (some (Addr.mk b5 0 none)) 1 1] wv14 (fun v3 wv15 =>
          ∃ (a3p : Option Addr) (a3n a3c : Nat),
          v3 = .slice a3p a3n a3c ∧
          Iv1 a3p a3n a3c (IntKind.i64.wrap (s101 + (1 : Int))) wv15 ∧ m1 a3p a3n a3c (IntKind.i64.wrap (s101 + (1 : Int))) wv15 < m1 l1p l1n l1c s101 wv2)))) (
    K (.slice l1p l1n l1c) wv2)
def An.schema_Zero : Ann := ⟨[], [(3, [(3, 22), (10, 3)], [8, 9])], []⟩
theorem R.schema_Zero {sName1 : ByteArray} {sCols1p : Option Addr} {sCols1n sCols1c : Nat} {sIndexes1p : Option Addr} {sIndexes1n sIndexes1c : Nat} {sLimit1 : Int} {sParts1 : Int} {sBy1 : Int} {w : World} {K : Value → World → Prop} (h : C.schema_Zero sName1 sCols1p sCols1n sCols1c sIndexes1p sIndexes1n sIndexes1c sLimit1 sParts1 sBy1 w K) : CallsV prog F.schema_Zero #[.agg #[.string sName1, .slice sCols1p sCols1n sCols1c, .slice sIndexes1p sIndexes1n sIndexes1c, .int .i64 sLimit1, .int .i64 sParts1, .int .i64 sBy1]] w K :=
  vcFn.calls (an := An.schema_Zero) mixed tabOK eqsOK Go.Proofs.Tryd.func46 (by kernel_rfl) (by kernel_rfl) (by kernel_rfl) ((by kernel_rfl : vcFn prog eqs tab An.schema_Zero Go.Proofs.Tryd.f46 [.agg #[.string sName1, .slice sCols1p sCols1n sCols1c, .slice sIndexes1p sIndexes1n sIndexes1c, .int .i64 sLimit1, .int .i64 sParts1, .int .i64 sBy1]] w K = C.schema_Zero sName1 sCols1p sCols1n sCols1c sIndexes1p sIndexes1n sIndexes1c sLimit1 sParts1 sBy1 w K).mpr h)

/-- afflux/affluxref03.Right -/
def C.affluxref03_Right (sName1 : ByteArray) (sCols1p : Option Addr) (sCols1n sCols1c : Nat) (sIndexes1p : Option Addr) (sIndexes1n sIndexes1c : Nat) (sLimit1 : Int) (sParts1 : Int) (sBy1 : Int) (w : World) (K : Value → World → Prop) : Prop :=
  ∀ b1 wv1, New w (.cells #[.string sName1, .slice sCols1p sCols1n sCols1c, .slice sIndexes1p sIndexes1n sIndexes1c, .int .i64 sLimit1, .int .i64 sParts1, .int .i64 sBy1] T.api_Schema) b1 wv1 →
  ∃ (Cols1p : Option Addr) (Cols1n Cols1c : Nat),
  wv1.cell? ((Addr.mk b1 0 none).add 1) = some (.slice Cols1p Cols1n Cols1c) ∧
  ∃ Jv1 : World → Prop,
  (∃ (Name1 : ByteArray),
  wv1.cell? ((Addr.mk b1 0 none).add 0) = some (.string Name1) ∧
  CallsV prog F.affluxref03_Named #[.string Name1] wv1 (fun v1 wv2 =>
    ∃ (r1 : Bool),
    v1 = .bool r1 ∧
    ifB (!r1) (
      K (.bool false) wv2) (
      ifB (decide (((Cols1n : Nat) : Int) < (1 : Int))) (
        K (.bool false) wv2) (
        ifB (decide ((8 : Int) < ((Cols1n : Nat) : Int))) (
          K (.bool false) wv2) (
          ∃ (Indexes1p : Option Addr) (Indexes1n Indexes1c : Nat),
          wv2.cell? ((Addr.mk b1 0 none).add 2) = some (.slice Indexes1p Indexes1n Indexes1c) ∧
          ifB (decide (((Indexes1n : Nat) : Int) < (1 : Int))) (
            K (.bool false) wv2) (
            ∃ (Indexes2p : Option Addr) (Indexes2n Indexes2c : Nat),
            wv2.cell? ((Addr.mk b1 0 none).add 2) = some (.slice Indexes2p Indexes2n Indexes2c) ∧
            ifB (decide ((4 : Int) < ((Indexes2n : Nat) : Int))) (
              K (.bool false) wv2) (
              ∃ (Limit1 : Int),
              wv2.cell? ((Addr.mk b1 0 none).add 3) = some (.int .i64 Limit1) ∧
              ifB (decide (Limit1 < (1 : Int))) (
                K (.bool false) wv2) (
                ∃ (Limit2 : Int),
                wv2.cell? ((Addr.mk b1 0 none).add 3) = some (.int .i64 Limit2) ∧
                ifB (decide ((1000 : Int) < Limit2)) (
                  K (.bool false) wv2) (
                  ∃ (Parts1 : Int),
                  wv2.cell? ((Addr.mk b1 0 none).add 4) = some (.int .i64 Parts1) ∧
                  ifB (decide (Parts1 < (1 : Int))) (
                    K (.bool false) wv2) (
                    ∃ (Parts2 : Int),
                    wv2.cell? ((Addr.mk b1 0 none).add 4) = some (.int .i64 Parts2) ∧
                    ifB (decide ((8 : Int) < Parts2)) (
                      K (.bool false) wv2) (
                      ∃ (By1 : Int),
                      wv2.cell? ((Addr.mk b1 0 none).add 5) = some (.int .i64 By1) ∧
                      ifB (decide (By1 < (0 : Int))) (
                        K (.bool false) wv2) (
                        ∃ (By2 : Int),
                        wv2.cell? ((Addr.mk b1 0 none).add 5) = some (.int .i64 By2) ∧
                        ifB (decide (((Cols1n : Nat) : Int) ≤ By2)) (
                          K (.bool false) wv2) (
                          ∃ (Indexes3p : Option Addr) (Indexes3n Indexes3c : Nat),
                          wv2.cell? ((Addr.mk b1 0 none).add 2) = some (.slice Indexes3p Indexes3n Indexes3c) ∧
                          ∃ a1, Indexes3p = some a1 ∧ 0 ≤ (0 : Int) ∧ (0 : Int) < ((Indexes3n : Nat) : Int) ∧
                          ∃ (Unique1 : Bool),
                          wv2.cell? ((a1.add ((0 : Int).toNat * 2)).add 1) = some (.bool Unique1) ∧
                          ifB (!Unique1) (
                            K (.bool false) wv2) (
                            Jv1 wv2)))))))))))))) ∧
  (∀ wv3, Jv1 wv3 →
  ∃ (Iv1 : Int → World → Prop) (m1 : Int → World → Nat),
  Iv1 0 wv3 ∧
  ∀ (i1 : Int) wv4, Iv1 i1 wv4 →
  ifB (decide (i1 < ((Cols1n : Nat) : Int))) (
    ∃ (Cols2p : Option Addr) (Cols2n Cols2c : Nat),
    wv4.cell? ((Addr.mk b1 0 none).add 1) = some (.slice Cols2p Cols2n Cols2c) ∧
    ∃ a2, Cols2p = some a2 ∧ 0 ≤ i1 ∧ i1 < ((Cols2n : Nat) : Int) ∧
    ∃ (Name2 : ByteArray),
    wv4.cell? ((a2.add (i1.toNat * 2)).add 0) = some (.string Name2) ∧
    CallsV prog F.affluxref03_Named #[.string Name2] wv4 (fun v2 wv5 =>
      ∃ (r2 : Bool),
      v2 = .bool r2 ∧
      ifB (!r2) (
        K (.bool false) wv5) (
        ∃ (Cols3p : Option Addr) (Cols3n Cols3c : Nat),
        wv5.cell? ((Addr.mk b1 0 none).add 1) = some (.slice Cols3p Cols3n Cols3c) ∧
        ∃ a3, Cols3p = some a3 ∧ 0 ≤ i1 ∧ i1 < ((Cols3n : Nat) : Int) ∧
        ∃ (Kind1 : Int),
        wv5.cell? ((a3.add (i1.toNat * 2)).add 1) = some (.int .i64 Kind1) ∧
        ifB (decide (Kind1 < (1 : Int))) (
          K (.bool false) wv5) (
          ∃ (Cols4p : Option Addr) (Cols4n Cols4c : Nat),
          wv5.cell? ((Addr.mk b1 0 none).add 1) = some (.slice Cols4p Cols4n Cols4c) ∧
          ∃ a4, Cols4p = some a4 ∧ 0 ≤ i1 ∧ i1 < ((Cols4n : Nat) : Int) ∧
          ∃ (Kind2 : Int),
          wv5.cell? ((a4.add (i1.toNat * 2)).add 1) = some (.int .i64 Kind2) ∧
          ifB (decide ((3 : Int) < Kind2)) (
            K (.bool false) wv5) (
            ∃ (Iv2 : Int → World → Prop) (m2 : Int → World → Nat),
            Iv2 0 wv5 ∧
            ∀ (k1 : Int) wv6, Iv2 k1 wv6 →
            ifB (decide (k1 < i1)) (
              ∃ (Cols5p : Option Addr) (Cols5n Cols5c : Nat),
              wv6.drew.cell? ((Addr.mk b1 0 none).add 1) = some (.slice Cols5p Cols5n Cols5c) ∧
              ∃ a5, Cols5p = some a5 ∧ 0 ≤ k1 ∧ k1 < ((Cols5n : Nat) : Int) ∧
              ∃ (Name3 : ByteArray),
              wv6.drew.cell? ((a5.add (k1.toNat * 2)).add 0) = some (.string Name3) ∧
              ∃ (Cols6p : Option Addr) (Cols6n Cols6c : Nat),
              wv6.drew.cell? ((Addr.mk b1 0 none).add 1) = some (.slice Cols6p Cols6n Cols6c) ∧
              ∃ a6, Cols6p = some a6 ∧ 0 ≤ i1 ∧ i1 < ((Cols6n : Nat) : Int) ∧
              ∃ (Name4 : ByteArray),
              wv6.drew.cell? ((a6.add (i1.toNat * 2)).add 0) = some (.string Name4) ∧
              ifB (sEq Name3 Name4) (
                K (.bool false) wv6.drew) (
                Iv2 (IntKind.i64.wrap (k1 + (1 : Int))) wv6.drew ∧ m2 (IntKind.i64.wrap (k1 + (1 : Int))) wv6.drew < m2 k1 wv6)) (
              Iv1 (IntKind.i64.wrap (i1 + (1 : Int))) wv6 ∧ m1 (IntKind.i64.wrap (i1 + (1 : Int))) wv6 < m1 i1 wv4)))))) (
    ∃ (Iv3 : Int → World → Prop) (m3 : Int → World → Nat),
    Iv3 0 wv4 ∧
    ∀ (i2 : Int) wv7, Iv3 i2 wv7 →
    ∃ (Indexes4p : Option Addr) (Indexes4n Indexes4c : Nat),
    wv7.cell? ((Addr.mk b1 0 none).add 2) = some (.slice Indexes4p Indexes4n Indexes4c) ∧
    ifB (decide (i2 < ((Indexes4n : Nat) : Int))) (
      ∃ (Indexes5p : Option Addr) (Indexes5n Indexes5c : Nat),
      wv7.cell? ((Addr.mk b1 0 none).add 2) = some (.slice Indexes5p Indexes5n Indexes5c) ∧
      ∃ a7, Indexes5p = some a7 ∧ 0 ≤ i2 ∧ i2 < ((Indexes5n : Nat) : Int) ∧
      ∃ (Cols7p : Option Addr) (Cols7n Cols7c : Nat),
      wv7.cell? ((a7.add (i2.toNat * 2)).add 0) = some (.slice Cols7p Cols7n Cols7c) ∧
      ∃ Jv2 : World → Prop,
      (ifB (decide (((Cols7n : Nat) : Int) < (1 : Int))) (
        K (.bool false) wv7) (
        ifB (decide ((8 : Int) < ((Cols7n : Nat) : Int))) (
          K (.bool false) wv7) (
          Jv2 wv7))) ∧
      (∀ wv8, Jv2 wv8 →
      ∃ (Iv4 : Int → World → Prop) (m4 : Int → World → Nat),
      Iv4 0 wv8 ∧
      ∀ (k2 : Int) wv9, Iv4 k2 wv9 →
      ifB (decide (k2 < ((Cols7n : Nat) : Int))) (
        ∃ a8, Cols7p = some a8 ∧ 0 ≤ k2 ∧ k2 < ((Cols7n : Nat) : Int) ∧
        ∃ (e1 : Int),
        wv9.cell? (a8.add (k2.toNat * 1)) = some (.int .i64 e1) ∧
        ifB (decide (e1 < (0 : Int))) (
          K (.bool false) wv9) (
          ∃ a9, Cols7p = some a9 ∧ 0 ≤ k2 ∧ k2 < ((Cols7n : Nat) : Int) ∧
          ∃ (e2 : Int),
          wv9.cell? (a9.add (k2.toNat * 1)) = some (.int .i64 e2) ∧
          ifB (decide (((Cols1n : Nat) : Int) ≤ e2)) (
            K (.bool false) wv9) (
            ∃ (Iv5 : Int → World → Prop) (m5 : Int → World → Nat),
            Iv5 0 wv9 ∧
            ∀ (j1 : Int) wv10, Iv5 j1 wv10 →
            ifB (decide (j1 < k2)) (
              ∃ a10, Cols7p = some a10 ∧ 0 ≤ j1 ∧ j1 < ((Cols7n : Nat) : Int) ∧
              ∃ (e3 : Int),
              wv10.drew.cell? (a10.add (j1.toNat * 1)) = some (.int .i64 e3) ∧
              ∃ a11, Cols7p = some a11 ∧ 0 ≤ k2 ∧ k2 < ((Cols7n : Nat) : Int) ∧
              ∃ (e4 : Int),
              wv10.drew.cell? (a11.add (k2.toNat * 1)) = some (.int .i64 e4) ∧
              ifB (e3 == e4) (
                K (.bool false) wv10.drew) (
                Iv5 (IntKind.i64.wrap (j1 + (1 : Int))) wv10.drew ∧ m5 (IntKind.i64.wrap (j1 + (1 : Int))) wv10.drew < m5 j1 wv10)) (
              Iv4 (IntKind.i64.wrap (k2 + (1 : Int))) wv10 ∧ m4 (IntKind.i64.wrap (k2 + (1 : Int))) wv10 < m4 k2 wv9)))) (
        ∃ (Iv6 : Int → World → Prop) (m6 : Int → World → Nat),
        Iv6 0 wv9 ∧
        ∀ (k3 : Int) wv11, Iv6 k3 wv11 →
        ifB (decide (k3 < i2)) (
          ∃ (Indexes6p : Option Addr) (Indexes6n Indexes6c : Nat),
          wv11.cell? ((Addr.mk b1 0 none).add 2) = some (.slice Indexes6p Indexes6n Indexes6c) ∧
          ∃ a12, Indexes6p = some a12 ∧ 0 ≤ k3 ∧ k3 < ((Indexes6n : Nat) : Int) ∧
          ∃ (Cols8p : Option Addr) (Cols8n Cols8c : Nat),
          wv11.cell? ((a12.add (k3.toNat * 2)).add 0) = some (.slice Cols8p Cols8n Cols8c) ∧
          CallsV prog F.affluxref03_same #[.slice Cols8p Cols8n Cols8c, .slice Cols7p Cols7n Cols7c] wv11 (fun v3 wv12 =>
            ∃ (r3 : Bool),
            v3 = .bool r3 ∧
            ifB r3 (
              K (.bool false) wv12) (
              Iv6 (IntKind.i64.wrap (k3 + (1 : Int))) wv12 ∧ m6 (IntKind.i64.wrap (k3 + (1 : Int))) wv12 < m6 k3 wv11))) (
          Iv3 (IntKind.i64.wrap (i2 + (1 : Int))) wv11 ∧ m3 (IntKind.i64.wrap (i2 + (1 : Int))) wv11 < m3 i2 wv7)))) (
      K (.bool true) wv7)))
def An.affluxref03_Right : Ann := ⟨[(12, .sil 0 [] (.sil 1 [] (.sil 2 [] (.sil 3 [] (.sil 4 [] (.sil 5 [] (.sil 6 [] (.sil 7 [] (.sil 8 [] (.sil 9 [] (.sil 10 [] (.sil 11 [] (.sil 12 [] (.done)))))))))))))), (28, .sil 0 [] (.sil 1 [] (.sil 2 [] (.sil 3 [] (.sil 4 [] (.sil 5 [] (.sil 6 [] (.sil 7 [] (.sil 8 [] (.done))))))))))], [(5, [(4, 3)], [1, 3]), (10, [(5, 3)], [1, 3, 4]), (15, [(6, 3)], [1, 3]), (21, [(8, 3)], [1, 3, 6, 7]), (26, [(9, 3)], [1, 3, 6, 7, 8]), (31, [(10, 3)], [1, 3, 6, 7])], [(4, [], [1, 3]), (20, [], [1, 3, 6, 7])]⟩
theorem R.affluxref03_Right {sName1 : ByteArray} {sCols1p : Option Addr} {sCols1n sCols1c : Nat} {sIndexes1p : Option Addr} {sIndexes1n sIndexes1c : Nat} {sLimit1 : Int} {sParts1 : Int} {sBy1 : Int} {w : World} {K : Value → World → Prop} (h : C.affluxref03_Right sName1 sCols1p sCols1n sCols1c sIndexes1p sIndexes1n sIndexes1c sLimit1 sParts1 sBy1 w K) : CallsV prog F.affluxref03_Right #[.agg #[.string sName1, .slice sCols1p sCols1n sCols1c, .slice sIndexes1p sIndexes1n sIndexes1c, .int .i64 sLimit1, .int .i64 sParts1, .int .i64 sBy1]] w K :=
  vcFn.calls (an := An.affluxref03_Right) mixed tabOK eqsOK Go.Proofs.Tryd.func47 (by kernel_rfl) (by kernel_rfl) (by kernel_rfl) ((by kernel_rfl : vcFn prog eqs tab An.affluxref03_Right Go.Proofs.Tryd.f47 [.agg #[.string sName1, .slice sCols1p sCols1n sCols1c, .slice sIndexes1p sIndexes1n sIndexes1c, .int .i64 sLimit1, .int .i64 sParts1, .int .i64 sBy1]] w K = C.affluxref03_Right sName1 sCols1p sCols1n sCols1c sIndexes1p sIndexes1n sIndexes1c sLimit1 sParts1 sBy1 w K).mpr h)

/-- afflux/affluxref03.Fits -/
def C.affluxref03_Fits (sName1 : ByteArray) (sCols1p : Option Addr) (sCols1n sCols1c : Nat) (sIndexes1p : Option Addr) (sIndexes1n sIndexes1c : Nat) (sLimit1 : Int) (sParts1 : Int) (sBy1 : Int) (row1p : Option Addr) (row1n row1c : Nat) (w : World) (K : Value → World → Prop) : Prop :=
  ∀ b1 wv1, New w (.cells #[.string sName1, .slice sCols1p sCols1n sCols1c, .slice sIndexes1p sIndexes1n sIndexes1c, .int .i64 sLimit1, .int .i64 sParts1, .int .i64 sBy1] T.api_Schema) b1 wv1 →
  ∃ (Cols1p : Option Addr) (Cols1n Cols1c : Nat),
  wv1.cell? ((Addr.mk b1 0 none).add 1) = some (.slice Cols1p Cols1n Cols1c) ∧
  ifB (((row1n : Nat) : Int) != ((Cols1n : Nat) : Int)) (
    K (.bool false) wv1) (
    CallsV prog F.affluxref02_All #[.slice row1p row1n row1c] wv1 (fun v1 wv2 =>
      ∃ (r1 : Bool),
      v1 = .bool r1 ∧
      ifB (!r1) (
        K (.bool false) wv2) (
        ∃ (Iv1 : Int → World → Prop) (m1 : Int → World → Nat),
        Iv1 0 wv2 ∧
        ∀ (i1 : Int) wv3, Iv1 i1 wv3 →
        ifB (decide (i1 < ((row1n : Nat) : Int))) (
          ∃ a1, row1p = some a1 ∧ 0 ≤ i1 ∧ i1 < ((row1n : Nat) : Int) ∧
          ∃ (Kind1 : Int),
          wv3.drew.cell? ((a1.add (i1.toNat * 3)).add 0) = some (.int .i64 Kind1) ∧
          ∃ (Cols2p : Option Addr) (Cols2n Cols2c : Nat),
          wv3.drew.cell? ((Addr.mk b1 0 none).add 1) = some (.slice Cols2p Cols2n Cols2c) ∧
          ∃ a2, Cols2p = some a2 ∧ 0 ≤ i1 ∧ i1 < ((Cols2n : Nat) : Int) ∧
          ∃ (Kind2 : Int),
          wv3.drew.cell? ((a2.add (i1.toNat * 2)).add 1) = some (.int .i64 Kind2) ∧
          ifB (Kind1 != Kind2) (
            K (.bool false) wv3.drew) (
            Iv1 (IntKind.i64.wrap (i1 + (1 : Int))) wv3.drew ∧ m1 (IntKind.i64.wrap (i1 + (1 : Int))) wv3.drew < m1 i1 wv3)) (
          K (.bool true) wv3))))
def An.affluxref03_Fits : Ann := ⟨[(6, .sil 0 [] (.sil 1 [] (.sil 2 [] (.sil 3 [] (.sil 4 [] (.sil 5 [] (.sil 6 [] (.sil 7 [] (.sil 8 [] (.sil 9 [] (.sil 10 [] (.sil 11 [] (.done)))))))))))))], [(4, [(5, 3)], [1, 2])], []⟩
theorem R.affluxref03_Fits {sName1 : ByteArray} {sCols1p : Option Addr} {sCols1n sCols1c : Nat} {sIndexes1p : Option Addr} {sIndexes1n sIndexes1c : Nat} {sLimit1 : Int} {sParts1 : Int} {sBy1 : Int} {row1p : Option Addr} {row1n row1c : Nat} {w : World} {K : Value → World → Prop} (h : C.affluxref03_Fits sName1 sCols1p sCols1n sCols1c sIndexes1p sIndexes1n sIndexes1c sLimit1 sParts1 sBy1 row1p row1n row1c w K) : CallsV prog F.affluxref03_Fits #[.agg #[.string sName1, .slice sCols1p sCols1n sCols1c, .slice sIndexes1p sIndexes1n sIndexes1c, .int .i64 sLimit1, .int .i64 sParts1, .int .i64 sBy1], .slice row1p row1n row1c] w K :=
  vcFn.calls (an := An.affluxref03_Fits) mixed tabOK eqsOK Go.Proofs.Tryd.func48 (by kernel_rfl) (by kernel_rfl) (by kernel_rfl) ((by kernel_rfl : vcFn prog eqs tab An.affluxref03_Fits Go.Proofs.Tryd.f48 [.agg #[.string sName1, .slice sCols1p sCols1n sCols1c, .slice sIndexes1p sIndexes1n sIndexes1c, .int .i64 sLimit1, .int .i64 sParts1, .int .i64 sBy1], .slice row1p row1n row1c] w K = C.affluxref03_Fits sName1 sCols1p sCols1n sCols1c sIndexes1p sIndexes1n sIndexes1c sLimit1 sParts1 sBy1 row1p row1n row1c w K).mpr h)

/-- afflux/schema.Right -/
def C.schema_Right (sName1 : ByteArray) (sCols1p : Option Addr) (sCols1n sCols1c : Nat) (sIndexes1p : Option Addr) (sIndexes1n sIndexes1c : Nat) (sLimit1 : Int) (sParts1 : Int) (sBy1 : Int) (w : World) (K : Value → World → Prop) : Prop :=
  ∀ b1 wv1, New w (.cells #[.string sName1, .slice sCols1p sCols1n sCols1c, .slice sIndexes1p sIndexes1n sIndexes1c, .int .i64 sLimit1, .int .i64 sParts1, .int .i64 sBy1] T.api_Schema) b1 wv1 →
  ∃ (Name1 : ByteArray),
  wv1.cell? ((Addr.mk b1 0 none).add 0) = some (.string Name1) ∧
  CallsV prog F.schema_named #[.string Name1] wv1 (fun v1 wv2 =>
    ∃ (r1 : Bool),
    v1 = .bool r1 ∧
    ifB r1 (
      ∃ (Cols1p : Option Addr) (Cols1n Cols1c : Nat),
      wv2.cell? ((Addr.mk b1 0 none).add 1) = some (.slice Cols1p Cols1n Cols1c) ∧
      CallsV prog F.schema_columns #[.slice Cols1p Cols1n Cols1c] wv2 (fun v2 wv3 =>
        ∃ (r2 : Bool),
        v2 = .bool r2 ∧
        ifB r2 (
          ∃ (Indexes1p : Option Addr) (Indexes1n Indexes1c : Nat),
          wv3.cell? ((Addr.mk b1 0 none).add 2) = some (.slice Indexes1p Indexes1n Indexes1c) ∧
          ∃ (Cols2p : Option Addr) (Cols2n Cols2c : Nat),
          wv3.cell? ((Addr.mk b1 0 none).add 1) = some (.slice Cols2p Cols2n Cols2c) ∧
          CallsV prog F.schema_indexes #[.slice Indexes1p Indexes1n Indexes1c, .int .i64 ((Cols2n : Nat) : Int)] wv3 (fun v3 wv4 =>
            ∃ (r3 : Bool),
            v3 = .bool r3 ∧
            ifB r3 (
              ∃ (Limit1 : Int),
              wv4.cell? ((Addr.mk b1 0 none).add 3) = some (.int .i64 Limit1) ∧
              CallsV prog F.schema_within #[.int .i64 Limit1, .int .i64 1, .int .i64 1000] wv4 (fun v4 wv5 =>
                ∃ (r4 : Bool),
                v4 = .bool r4 ∧
                ifB r4 (
                  ∃ (Parts1 : Int),
                  wv5.cell? ((Addr.mk b1 0 none).add 4) = some (.int .i64 Parts1) ∧
                  CallsV prog F.schema_within #[.int .i64 Parts1, .int .i64 1, .int .i64 8] wv5 (fun v5 wv6 =>
                    ∃ (r5 : Bool),
                    v5 = .bool r5 ∧
                    ifB r5 (
                      ∃ (By1 : Int),
                      wv6.cell? ((Addr.mk b1 0 none).add 5) = some (.int .i64 By1) ∧
                      ∃ (Cols3p : Option Addr) (Cols3n Cols3c : Nat),
                      wv6.cell? ((Addr.mk b1 0 none).add 1) = some (.slice Cols3p Cols3n Cols3c) ∧
                      CallsV prog F.schema_within #[.int .i64 By1, .int .i64 0, .int .i64 (IntKind.i64.wrap (((Cols3n : Nat) : Int) - (1 : Int)))] wv6 (fun v6 wv7 =>
                        ∃ (r6 : Bool),
                        v6 = .bool r6 ∧
                        K (.bool r6) wv7)) (
                      K (.bool false) wv6))) (
                  K (.bool false) wv5))) (
              K (.bool false) wv4))) (
          K (.bool false) wv3))) (
      K (.bool false) wv2))
def An.schema_Right : Ann := ⟨[], [], []⟩
theorem R.schema_Right {sName1 : ByteArray} {sCols1p : Option Addr} {sCols1n sCols1c : Nat} {sIndexes1p : Option Addr} {sIndexes1n sIndexes1c : Nat} {sLimit1 : Int} {sParts1 : Int} {sBy1 : Int} {w : World} {K : Value → World → Prop} (h : C.schema_Right sName1 sCols1p sCols1n sCols1c sIndexes1p sIndexes1n sIndexes1c sLimit1 sParts1 sBy1 w K) : CallsV prog F.schema_Right #[.agg #[.string sName1, .slice sCols1p sCols1n sCols1c, .slice sIndexes1p sIndexes1n sIndexes1c, .int .i64 sLimit1, .int .i64 sParts1, .int .i64 sBy1]] w K :=
  vcFn.calls (an := An.schema_Right) mixed tabOK eqsOK Go.Proofs.Tryd.func49 (by kernel_rfl) (by kernel_rfl) (by kernel_rfl) ((by kernel_rfl : vcFn prog eqs tab An.schema_Right Go.Proofs.Tryd.f49 [.agg #[.string sName1, .slice sCols1p sCols1n sCols1c, .slice sIndexes1p sIndexes1n sIndexes1c, .int .i64 sLimit1, .int .i64 sParts1, .int .i64 sBy1]] w K = C.schema_Right sName1 sCols1p sCols1n sCols1c sIndexes1p sIndexes1n sIndexes1c sLimit1 sParts1 sBy1 w K).mpr h)

/-- afflux/schema.Named -/
def C.schema_Named (l1p : Option Addr) (l1n l1c : Nat) (w : World) (K : Value → World → Prop) : Prop :=
  ∃ (Iv1 : Int → World → Prop) (m1 : Int → World → Nat),
  Iv1 0 w ∧
  ∀ (s71 : Int) wv1, Iv1 s71 wv1 →
  ifB (decide (s71 < ((l1n : Nat) : Int))) (
    ∃ a1, l1p = some a1 ∧ 0 ≤ s71 ∧ s71 < ((l1n : Nat) : Int) ∧
    ∃ (e1 : ByteArray),
    wv1.cell? (a1.add (s71.toNat * 1)) = some (.string e1) ∧
    CallsV prog F.schema_named #[.string e1] wv1 (fun v1 wv2 =>
      ∃ (r1 : Bool),
      v1 = .bool r1 ∧
      ifB (!r1) (
        K (.bool false) wv2) (
        Iv1 (IntKind.i64.wrap (s71 + (1 : Int))) wv2 ∧ m1 (IntKind.i64.wrap (s71 + (1 : Int))) wv2 < m1 s71 wv1))) (
    K (.bool true) wv1)
def An.schema_Named : Ann := ⟨[], [(2, [(7, 3)], [5, 6])], []⟩
theorem R.schema_Named {l1p : Option Addr} {l1n l1c : Nat} {w : World} {K : Value → World → Prop} (h : C.schema_Named l1p l1n l1c w K) : CallsV prog F.schema_Named #[.slice l1p l1n l1c] w K :=
  vcFn.calls (an := An.schema_Named) mixed tabOK eqsOK Go.Proofs.Tryd.func50 (by kernel_rfl) (by kernel_rfl) (by kernel_rfl) ((by kernel_rfl : vcFn prog eqs tab An.schema_Named Go.Proofs.Tryd.f50 [.slice l1p l1n l1c] w K = C.schema_Named l1p l1n l1c w K).mpr h)

/-- afflux/affluxref03.Named -/
def C.affluxref03_Named (s1 : ByteArray) (w : World) (K : Value → World → Prop) : Prop :=
  ifB (decide (((s1.size : Nat) : Int) < (1 : Int))) (
    K (.bool false) w) (
    ifB (decide ((16 : Int) < ((s1.size : Nat) : Int))) (
      K (.bool false) w) (
      ∃ (Iv1 : Int → World → Prop) (m1 : Int → World → Nat),
      Iv1 0 w ∧
      ∀ (i1 : Int) wv1, Iv1 i1 wv1 →
      ifB (decide (i1 < ((s1.size : Nat) : Int))) (
        0 ≤ i1 ∧ i1 < ((s1.size : Nat) : Int) ∧
        ifB (decide ((97 : Int) ≤ (bt s1 i1))) (
          ifB (!(decide ((bt s1 i1) ≤ (122 : Int)))) (
            ifB (i1 == (0 : Int)) (
              K (.bool false) wv1) (
              ifB (decide ((48 : Int) ≤ (bt s1 i1))) (
                ifB (!(decide ((bt s1 i1) ≤ (57 : Int)))) (
                  ifB ((bt s1 i1) != (95 : Int)) (
                    K (.bool false) wv1) (
                    Iv1 (IntKind.i64.wrap (i1 + (1 : Int))) wv1 ∧ m1 (IntKind.i64.wrap (i1 + (1 : Int))) wv1 < m1 i1 wv1)) (
                  Iv1 (IntKind.i64.wrap (i1 + (1 : Int))) wv1 ∧ m1 (IntKind.i64.wrap (i1 + (1 : Int))) wv1 < m1 i1 wv1)) (
                ifB ((bt s1 i1) != (95 : Int)) (
                  K (.bool false) wv1) (
                  Iv1 (IntKind.i64.wrap (i1 + (1 : Int))) wv1 ∧ m1 (IntKind.i64.wrap (i1 + (1 : Int))) wv1 < m1 i1 wv1)))) (
            Iv1 (IntKind.i64.wrap (i1 + (1 : Int))) wv1 ∧ m1 (IntKind.i64.wrap (i1 + (1 : Int))) wv1 < m1 i1 wv1)) (
          ifB (i1 == (0 : Int)) (
            K (.bool false) wv1) (
            ifB (decide ((48 : Int) ≤ (bt s1 i1))) (
              ifB (!(decide ((bt s1 i1) ≤ (57 : Int)))) (
                ifB ((bt s1 i1) != (95 : Int)) (
                  K (.bool false) wv1) (
                  Iv1 (IntKind.i64.wrap (i1 + (1 : Int))) wv1 ∧ m1 (IntKind.i64.wrap (i1 + (1 : Int))) wv1 < m1 i1 wv1)) (
                Iv1 (IntKind.i64.wrap (i1 + (1 : Int))) wv1 ∧ m1 (IntKind.i64.wrap (i1 + (1 : Int))) wv1 < m1 i1 wv1)) (
              ifB ((bt s1 i1) != (95 : Int)) (
                K (.bool false) wv1) (
                Iv1 (IntKind.i64.wrap (i1 + (1 : Int))) wv1 ∧ m1 (IntKind.i64.wrap (i1 + (1 : Int))) wv1 < m1 i1 wv1))))) (
        K (.bool true) wv1)))
def An.affluxref03_Named : Ann := ⟨[], [(4, [(3, 3)], [0])], []⟩
theorem R.affluxref03_Named {s1 : ByteArray} {w : World} {K : Value → World → Prop} (h : C.affluxref03_Named s1 w K) : CallsV prog F.affluxref03_Named #[.string s1] w K :=
  vcFn.calls (an := An.affluxref03_Named) mixed tabOK eqsOK Go.Proofs.Tryd.func51 (by kernel_rfl) (by kernel_rfl) (by kernel_rfl) ((by kernel_rfl : vcFn prog eqs tab An.affluxref03_Named Go.Proofs.Tryd.f51 [.string s1] w K = C.affluxref03_Named s1 w K).mpr h)

/-- afflux/schema.Col -/
def C.schema_Col (sName1 : ByteArray) (sCols1p : Option Addr) (sCols1n sCols1c : Nat) (sIndexes1p : Option Addr) (sIndexes1n sIndexes1c : Nat) (sLimit1 : Int) (sParts1 : Int) (sBy1 : Int) (name1 : ByteArray) (w : World) (K : Value → World → Prop) : Prop :=
  ∀ b1 wv1, New w (.cells #[.string sName1, .slice sCols1p sCols1n sCols1c, .slice sIndexes1p sIndexes1n sIndexes1c, .int .i64 sLimit1, .int .i64 sParts1, .int .i64 sBy1] T.api_Schema) b1 wv1 →
  ∀ b2 wv2, New wv1 (.cells #[.string name1] T.string) b2 wv2 →
  ∃ (Cols1p : Option Addr) (Cols1n Cols1c : Nat),
  wv2.cell? ((Addr.mk b1 0 none).add 1) = some (.slice Cols1p Cols1n Cols1c) ∧
  CallsV prog F.slices_IndexFunc_api_Column_api_Column #[.slice Cols1p Cols1n Cols1c, .func (.func F.schema_Col_1) #[] #[.pointer (some (Addr.mk b2 0 none))]] wv2 (fun v1 wv3 =>
    ∃ (r1 : Int),
    v1 = .int .i64 r1 ∧
    K (.int .i64 r1) wv3)
def An.schema_Col : Ann := ⟨[], [], []⟩
theorem R.schema_Col {sName1 : ByteArray} {sCols1p : Option Addr} {sCols1n sCols1c : Nat} {sIndexes1p : Option Addr} {sIndexes1n sIndexes1c : Nat} {sLimit1 : Int} {sParts1 : Int} {sBy1 : Int} {name1 : ByteArray} {w : World} {K : Value → World → Prop} (h : C.schema_Col sName1 sCols1p sCols1n sCols1c sIndexes1p sIndexes1n sIndexes1c sLimit1 sParts1 sBy1 name1 w K) : CallsV prog F.schema_Col #[.agg #[.string sName1, .slice sCols1p sCols1n sCols1c, .slice sIndexes1p sIndexes1n sIndexes1c, .int .i64 sLimit1, .int .i64 sParts1, .int .i64 sBy1], .string name1] w K :=
  vcFn.calls (an := An.schema_Col) mixed tabOK eqsOK Go.Proofs.Tryd.func52 (by kernel_rfl) (by kernel_rfl) (by kernel_rfl) ((by kernel_rfl : vcFn prog eqs tab An.schema_Col Go.Proofs.Tryd.f52 [.agg #[.string sName1, .slice sCols1p sCols1n sCols1c, .slice sIndexes1p sIndexes1n sIndexes1c, .int .i64 sLimit1, .int .i64 sParts1, .int .i64 sBy1], .string name1] w K = C.schema_Col sName1 sCols1p sCols1n sCols1c sIndexes1p sIndexes1n sIndexes1c sLimit1 sParts1 sBy1 name1 w K).mpr h)

/-- afflux/schema.Keys -/
def C.schema_Keys (sName1 : ByteArray) (sCols1p : Option Addr) (sCols1n sCols1c : Nat) (sIndexes1p : Option Addr) (sIndexes1n sIndexes1c : Nat) (sLimit1 : Int) (sParts1 : Int) (sBy1 : Int) (row1p : Option Addr) (row1n row1c : Nat) (w : World) (K : Value → World → Prop) : Prop :=
  ∀ b1 wv1, New w (.cells #[.string sName1, .slice sCols1p sCols1n sCols1c, .slice sIndexes1p sIndexes1n sIndexes1c, .int .i64 sLimit1, .int .i64 sParts1, .int .i64 sBy1] T.api_Schema) b1 wv1 →
  ∃ (xName1 : ByteArray) (xCols1p : Option Addr) (xCols1n xCols1c : Nat) (xIndexes1p : Option Addr) (xIndexes1n xIndexes1c : Nat) (xLimit1 : Int) (xParts1 : Int) (xBy1 : Int),
  cellsAt wv1 (Addr.mk b1 0 none) 0 [.string xName1, .slice xCols1p xCols1n xCols1c, .slice xIndexes1p xIndexes1n xIndexes1c, .int .i64 xLimit1, .int .i64 xParts1, .int .i64 xBy1] ∧
  CallsV prog F.schema_checked #[.agg #[.string xName1, .slice xCols1p xCols1n xCols1c, .slice xIndexes1p xIndexes1n xIndexes1c, .int .i64 xLimit1, .int .i64 xParts1, .int .i64 xBy1], .int .i64 0, .slice row1p row1n row1c] wv1 (fun v1 wv2 =>
    ∃ (r1 : Int),
    v1 = .int .i64 r1 ∧
    ifB (r1 != (0 : Int)) (
      K (.tuple #[.slice none 0 0, .int .i64 r1]) wv2) (
      ∃ (Indexes1p : Option Addr) (Indexes1n Indexes1c : Nat),
      wv2.cell? ((Addr.mk b1 0 none).add 2) = some (.slice Indexes1p Indexes1n Indexes1c) ∧
      ∃ (Iv1 : Option Addr → Nat → Nat → Int → World → Prop) (m1 : Option Addr → Nat → Nat → Int → World → Nat),
      Iv1 none 0 0 0 wv2 ∧
      ∀ (l1p : Option Addr) (l1n l1c : Nat) (s181 : Int) wv3, Iv1 l1p l1n l1c s181 wv3 →
      ifB (decide (s181 < ((Indexes1n : Nat) : Int))) (
        ∃ (xName2 : ByteArray) (xCols2p : Option Addr) (xCols2n xCols2c : Nat) (xIndexes2p : Option Addr) (xIndexes2n xIndexes2c : Nat) (xLimit2 : Int) (xParts2 : Int) (xBy2 : Int),
        cellsAt wv3 (Addr.mk b1 0 none) 0 [.string xName2, .slice xCols2p xCols2n xCols2c, .slice xIndexes2p xIndexes2n xIndexes2c, .int .i64 xLimit2, .int .i64 xParts2, .int .i64 xBy2] ∧
        CallsV prog F.schema_key #[.agg #[.string xName2, .slice xCols2p xCols2n xCols2c, .slice xIndexes2p xIndexes2n xIndexes2c, .int .i64 xLimit2, .int .i64 xParts2, .int .i64 xBy2], .int .i64 s181, .slice row1p row1n row1c] wv3 (fun v2 wv4 =>
          ∃ (r2 : ByteArray),
          v2 = .string r2 ∧
          ∀ b2 wv5, New wv4 (.cells #[.string r2] T.string) b2 wv5 →
          BuiltV prog .append #[T.s_string, T.s_string] T.s_string #[.slice l1p l1n l1c, .slice (some (Addr.mk b2 0 none)) 1 1] wv5 (fun v3 wv6 =>
            ∃ (a1p : Option Addr) (a1n a1c : Nat),
            v3 = .slice a1p a1n a1c ∧
            Iv1 a1p a1n a1c (IntKind.i64.wrap (s181 + (1 : Int))) wv6 ∧ m1 a1p a1n a1c (IntKind.i64.wrap (s181 + (1 : Int))) wv6 < m1 l1p l1n l1c s181 wv3))) (
        K (.tuple #[.slice l1p l1n l1c, .int .i64 0]) wv3)))
def An.schema_Keys : Ann := ⟨[], [(6, [(7, 75), (18, 3)], [1, 2, 17])], []⟩
theorem R.schema_Keys {sName1 : ByteArray} {sCols1p : Option Addr} {sCols1n sCols1c : Nat} {sIndexes1p : Option Addr} {sIndexes1n sIndexes1c : Nat} {sLimit1 : Int} {sParts1 : Int} {sBy1 : Int} {row1p : Option Addr} {row1n row1c : Nat} {w : World} {K : Value → World → Prop} (h : C.schema_Keys sName1 sCols1p sCols1n sCols1c sIndexes1p sIndexes1n sIndexes1c sLimit1 sParts1 sBy1 row1p row1n row1c w K) : CallsV prog F.schema_Keys #[.agg #[.string sName1, .slice sCols1p sCols1n sCols1c, .slice sIndexes1p sIndexes1n sIndexes1c, .int .i64 sLimit1, .int .i64 sParts1, .int .i64 sBy1], .slice row1p row1n row1c] w K :=
  vcFn.calls (an := An.schema_Keys) mixed tabOK eqsOK Go.Proofs.Tryd.func53 (by kernel_rfl) (by kernel_rfl) (by kernel_rfl) ((by kernel_rfl : vcFn prog eqs tab An.schema_Keys Go.Proofs.Tryd.f53 [.agg #[.string sName1, .slice sCols1p sCols1n sCols1c, .slice sIndexes1p sIndexes1n sIndexes1c, .int .i64 sLimit1, .int .i64 sParts1, .int .i64 sBy1], .slice row1p row1n row1c] w K = C.schema_Keys sName1 sCols1p sCols1n sCols1c sIndexes1p sIndexes1n sIndexes1c sLimit1 sParts1 sBy1 row1p row1n row1c w K).mpr h)

/-- afflux/schema.Part -/
def C.schema_Part (sName1 : ByteArray) (sCols1p : Option Addr) (sCols1n sCols1c : Nat) (sIndexes1p : Option Addr) (sIndexes1n sIndexes1c : Nat) (sLimit1 : Int) (sParts1 : Int) (sBy1 : Int) (row1p : Option Addr) (row1n row1c : Nat) (w : World) (K : Value → World → Prop) : Prop :=
  ∀ b1 wv1, New w (.cells #[.string sName1, .slice sCols1p sCols1n sCols1c, .slice sIndexes1p sIndexes1n sIndexes1c, .int .i64 sLimit1, .int .i64 sParts1, .int .i64 sBy1] T.api_Schema) b1 wv1 →
  ∃ (xName1 : ByteArray) (xCols1p : Option Addr) (xCols1n xCols1c : Nat) (xIndexes1p : Option Addr) (xIndexes1n xIndexes1c : Nat) (xLimit1 : Int) (xParts1 : Int) (xBy1 : Int),
  cellsAt wv1 (Addr.mk b1 0 none) 0 [.string xName1, .slice xCols1p xCols1n xCols1c, .slice xIndexes1p xIndexes1n xIndexes1c, .int .i64 xLimit1, .int .i64 xParts1, .int .i64 xBy1] ∧
  CallsV prog F.schema_checked #[.agg #[.string xName1, .slice xCols1p xCols1n xCols1c, .slice xIndexes1p xIndexes1n xIndexes1c, .int .i64 xLimit1, .int .i64 xParts1, .int .i64 xBy1], .int .i64 0, .slice row1p row1n row1c] wv1 (fun v1 wv2 =>
    ∃ (r1 : Int),
    v1 = .int .i64 r1 ∧
    ifB (r1 != (0 : Int)) (
      K (.tuple #[.int .i64 0, .int .i64 r1]) wv2) (
      ∃ (By1 : Int),
      wv2.drew.cell? ((Addr.mk b1 0 none).add 5) = some (.int .i64 By1) ∧
      ∃ a1, row1p = some a1 ∧ 0 ≤ By1 ∧ By1 < ((row1n : Nat) : Int) ∧
      ∃ (eKind1 : Int) (eN1 : Int) (eS1 : ByteArray),
      cellsAt wv2.drew (a1.add (By1.toNat * 3)) 0 [.int .i64 eKind1, .int .i64 eN1, .string eS1] ∧
      ∃ (Parts1 : Int),
      wv2.drew.cell? ((Addr.mk b1 0 none).add 4) = some (.int .i64 Parts1) ∧
      CallsV prog F.value_Spread #[.agg #[.int .i64 eKind1, .int .i64 eN1, .string eS1], .int .i64 Parts1] wv2.drew (fun v2 wv3 =>
        ∃ (r2 : Int),
        v2 = .int .i64 r2 ∧
        K (.tuple #[.int .i64 r2, .int .i64 0]) wv3)))
def An.schema_Part : Ann := ⟨[(4, .sil 0 [] (.sil 1 [] (.sil 2 [] (.sil 3 [] (.sil 4 [] (.sil 5 [] (.sil 6 [] (.act 7 (.sil 8 [] (.sil 9 [] (.done)))))))))))], [], []⟩
theorem R.schema_Part {sName1 : ByteArray} {sCols1p : Option Addr} {sCols1n sCols1c : Nat} {sIndexes1p : Option Addr} {sIndexes1n sIndexes1c : Nat} {sLimit1 : Int} {sParts1 : Int} {sBy1 : Int} {row1p : Option Addr} {row1n row1c : Nat} {w : World} {K : Value → World → Prop} (h : C.schema_Part sName1 sCols1p sCols1n sCols1c sIndexes1p sIndexes1n sIndexes1c sLimit1 sParts1 sBy1 row1p row1n row1c w K) : CallsV prog F.schema_Part #[.agg #[.string sName1, .slice sCols1p sCols1n sCols1c, .slice sIndexes1p sIndexes1n sIndexes1c, .int .i64 sLimit1, .int .i64 sParts1, .int .i64 sBy1], .slice row1p row1n row1c] w K :=
  vcFn.calls (an := An.schema_Part) mixed tabOK eqsOK Go.Proofs.Tryd.func54 (by kernel_rfl) (by kernel_rfl) (by kernel_rfl) ((by kernel_rfl : vcFn prog eqs tab An.schema_Part Go.Proofs.Tryd.f54 [.agg #[.string sName1, .slice sCols1p sCols1n sCols1c, .slice sIndexes1p sIndexes1n sIndexes1c, .int .i64 sLimit1, .int .i64 sParts1, .int .i64 sBy1], .slice row1p row1n row1c] w K = C.schema_Part sName1 sCols1p sCols1n sCols1c sIndexes1p sIndexes1n sIndexes1c sLimit1 sParts1 sBy1 row1p row1n row1c w K).mpr h)

/-- afflux/affluxref03.Key -/
def C.affluxref03_Key (sName1 : ByteArray) (sCols1p : Option Addr) (sCols1n sCols1c : Nat) (sIndexes1p : Option Addr) (sIndexes1n sIndexes1c : Nat) (sLimit1 : Int) (sParts1 : Int) (sBy1 : Int) (index1 : Int) (row1p : Option Addr) (row1n row1c : Nat) (w : World) (K : Value → World → Prop) : Prop :=
  ∀ b1 wv1, New w (.cells #[.string sName1, .slice sCols1p sCols1n sCols1c, .slice sIndexes1p sIndexes1n sIndexes1c, .int .i64 sLimit1, .int .i64 sParts1, .int .i64 sBy1] T.api_Schema) b1 wv1 →
  ∃ (Indexes1p : Option Addr) (Indexes1n Indexes1c : Nat),
  wv1.cell? ((Addr.mk b1 0 none).add 2) = some (.slice Indexes1p Indexes1n Indexes1c) ∧
  ∃ a1, Indexes1p = some a1 ∧ 0 ≤ index1 ∧ index1 < ((Indexes1n : Nat) : Int) ∧
  ∃ (Cols1p : Option Addr) (Cols1n Cols1c : Nat),
  wv1.cell? ((a1.add (index1.toNat * 2)).add 0) = some (.slice Cols1p Cols1n Cols1c) ∧
  CallsV prog F.affluxref03_Pick #[.slice row1p row1n row1c, .slice Cols1p Cols1n Cols1c] wv1 (fun v1 wv2 =>
    ∃ (r1p : Option Addr) (r1n r1c : Nat),
    v1 = .slice r1p r1n r1c ∧
    CallsV prog F.affluxref02_Keys #[.slice r1p r1n r1c] wv2 (fun v2 wv3 =>
      ∃ (r2 : ByteArray),
      v2 = .string r2 ∧
      ∃ (Indexes2p : Option Addr) (Indexes2n Indexes2c : Nat),
      wv3.cell? ((Addr.mk b1 0 none).add 2) = some (.slice Indexes2p Indexes2n Indexes2c) ∧
      ∃ a2, Indexes2p = some a2 ∧ 0 ≤ index1 ∧ index1 < ((Indexes2n : Nat) : Int) ∧
      ∃ (Unique1 : Bool),
      wv3.cell? ((a2.add (index1.toNat * 2)).add 1) = some (.bool Unique1) ∧
      ifB (!Unique1) (
        ∃ (Indexes3p : Option Addr) (Indexes3n Indexes3c : Nat),
        wv3.cell? ((Addr.mk b1 0 none).add 2) = some (.slice Indexes3p Indexes3n Indexes3c) ∧
        ∃ a3, Indexes3p = some a3 ∧ 0 ≤ (0 : Int) ∧ (0 : Int) < ((Indexes3n : Nat) : Int) ∧
        ∃ (Cols2p : Option Addr) (Cols2n Cols2c : Nat),
        wv3.cell? ((a3.add ((0 : Int).toNat * 2)).add 0) = some (.slice Cols2p Cols2n Cols2c) ∧
        CallsV prog F.affluxref03_Pick #[.slice row1p row1n row1c, .slice Cols2p Cols2n Cols2c] wv3 (fun v3 wv4 =>
          ∃ (r3p : Option Addr) (r3n r3c : Nat),
          v3 = .slice r3p r3n r3c ∧
          CallsV prog F.affluxref02_Keys #[.slice r3p r3n r3c] wv4 (fun v4 wv5 =>
            ∃ (r4 : ByteArray),
            v4 = .string r4 ∧
            r2.size + r4.size ≤ 9223372036854775807 ∧
            K (.string (r2 ++ r4)) wv5))) (
        K (.string r2) wv3)))
def An.affluxref03_Key : Ann := ⟨[], [], []⟩
theorem R.affluxref03_Key {sName1 : ByteArray} {sCols1p : Option Addr} {sCols1n sCols1c : Nat} {sIndexes1p : Option Addr} {sIndexes1n sIndexes1c : Nat} {sLimit1 : Int} {sParts1 : Int} {sBy1 : Int} {index1 : Int} {row1p : Option Addr} {row1n row1c : Nat} {w : World} {K : Value → World → Prop} (h : C.affluxref03_Key sName1 sCols1p sCols1n sCols1c sIndexes1p sIndexes1n sIndexes1c sLimit1 sParts1 sBy1 index1 row1p row1n row1c w K) : CallsV prog F.affluxref03_Key #[.agg #[.string sName1, .slice sCols1p sCols1n sCols1c, .slice sIndexes1p sIndexes1n sIndexes1c, .int .i64 sLimit1, .int .i64 sParts1, .int .i64 sBy1], .int .i64 index1, .slice row1p row1n row1c] w K :=
  vcFn.calls (an := An.affluxref03_Key) mixed tabOK eqsOK Go.Proofs.Tryd.func55 (by kernel_rfl) (by kernel_rfl) (by kernel_rfl) ((by kernel_rfl : vcFn prog eqs tab An.affluxref03_Key Go.Proofs.Tryd.f55 [.agg #[.string sName1, .slice sCols1p sCols1n sCols1c, .slice sIndexes1p sIndexes1n sIndexes1c, .int .i64 sLimit1, .int .i64 sParts1, .int .i64 sBy1], .int .i64 index1, .slice row1p row1n row1c] w K = C.affluxref03_Key sName1 sCols1p sCols1n sCols1c sIndexes1p sIndexes1n sIndexes1c sLimit1 sParts1 sBy1 index1 row1p row1n row1c w K).mpr h)

/-- cmp.Or[int] -/
def C.cmp_Or_int (vals1p : Option Addr) (vals1n vals1c : Nat) (w : World) (K : Value → World → Prop) : Prop :=
  ∃ (Iv1 : Int → World → Prop) (m1 : Int → World → Nat),
  Iv1 0 w ∧
  ∀ (s81 : Int) wv1, Iv1 s81 wv1 →
  ifB (decide (s81 < ((vals1n : Nat) : Int))) (
    ∃ a1, vals1p = some a1 ∧ 0 ≤ s81 ∧ s81 < ((vals1n : Nat) : Int) ∧
    ∃ (e1 : Int),
    wv1.cell? (a1.add (s81.toNat * 1)) = some (.int .i64 e1) ∧
    ifB (e1 != (0 : Int)) (
      K (.int .i64 e1) wv1) (
      Iv1 (IntKind.i64.wrap (s81 + (1 : Int))) wv1 ∧ m1 (IntKind.i64.wrap (s81 + (1 : Int))) wv1 < m1 s81 wv1)) (
    K (.int .i64 0) wv1)
def An.cmp_Or_int : Ann := ⟨[], [(3, [(8, 3)], [3, 6, 7])], []⟩
theorem R.cmp_Or_int {vals1p : Option Addr} {vals1n vals1c : Nat} {w : World} {K : Value → World → Prop} (h : C.cmp_Or_int vals1p vals1n vals1c w K) : CallsV prog F.cmp_Or_int #[.slice vals1p vals1n vals1c] w K :=
  vcFn.calls (an := An.cmp_Or_int) mixed tabOK eqsOK Go.Proofs.Tryd.func56 (by kernel_rfl) (by kernel_rfl) (by kernel_rfl) ((by kernel_rfl : vcFn prog eqs tab An.cmp_Or_int Go.Proofs.Tryd.f56 [.slice vals1p vals1n vals1c] w K = C.cmp_Or_int vals1p vals1n vals1c w K).mpr h)

/-- cmp.Compare[int] -/
def C.cmp_Compare_int (x1 : Int) (y1 : Int) (w : World) (K : Value → World → Prop) : Prop :=
  CallsV prog F.cmp_isNaN_int #[.int .i64 x1] w (fun v1 wv1 =>
    ∃ (r1 : Bool),
    v1 = .bool r1 ∧
    CallsV prog F.cmp_isNaN_int #[.int .i64 y1] wv1 (fun v2 wv2 =>
      ∃ (r2 : Bool),
      v2 = .bool r2 ∧
      ifB r1 (
        ifB r2 (
          K (.int .i64 0) wv2) (
          K (.int .i64 (-1)) wv2)) (
        ifB r2 (
          K (.int .i64 1) wv2) (
          ifB (decide (x1 < y1)) (
            K (.int .i64 (-1)) wv2) (
            ifB (decide (y1 < x1)) (
              K (.int .i64 1) wv2) (
              K (.int .i64 0) wv2))))))
def An.cmp_Compare_int : Ann := ⟨[], [], []⟩
theorem R.cmp_Compare_int {x1 : Int} {y1 : Int} {w : World} {K : Value → World → Prop} (h : C.cmp_Compare_int x1 y1 w K) : CallsV prog F.cmp_Compare_int #[.int .i64 x1, .int .i64 y1] w K :=
  vcFn.calls (an := An.cmp_Compare_int) mixed tabOK eqsOK Go.Proofs.Tryd.func57 (by kernel_rfl) (by kernel_rfl) (by kernel_rfl) ((by kernel_rfl : vcFn prog eqs tab An.cmp_Compare_int Go.Proofs.Tryd.f57 [.int .i64 x1, .int .i64 y1] w K = C.cmp_Compare_int x1 y1 w K).mpr h)

/-- cmp.Compare[int64] -/
def C.cmp_Compare_int64 (x1 : Int) (y1 : Int) (w : World) (K : Value → World → Prop) : Prop :=
  CallsV prog F.cmp_isNaN_int64 #[.int .i64 x1] w (fun v1 wv1 =>
    ∃ (r1 : Bool),
    v1 = .bool r1 ∧
    CallsV prog F.cmp_isNaN_int64 #[.int .i64 y1] wv1 (fun v2 wv2 =>
      ∃ (r2 : Bool),
      v2 = .bool r2 ∧
      ifB r1 (
        ifB r2 (
          K (.int .i64 0) wv2) (
          K (.int .i64 (-1)) wv2)) (
        ifB r2 (
          K (.int .i64 1) wv2) (
          ifB (decide (x1 < y1)) (
            K (.int .i64 (-1)) wv2) (
            ifB (decide (y1 < x1)) (
              K (.int .i64 1) wv2) (
              K (.int .i64 0) wv2))))))
def An.cmp_Compare_int64 : Ann := ⟨[], [], []⟩
theorem R.cmp_Compare_int64 {x1 : Int} {y1 : Int} {w : World} {K : Value → World → Prop} (h : C.cmp_Compare_int64 x1 y1 w K) : CallsV prog F.cmp_Compare_int64 #[.int .i64 x1, .int .i64 y1] w K :=
  vcFn.calls (an := An.cmp_Compare_int64) mixed tabOK eqsOK Go.Proofs.Tryd.func58 (by kernel_rfl) (by kernel_rfl) (by kernel_rfl) ((by kernel_rfl : vcFn prog eqs tab An.cmp_Compare_int64 Go.Proofs.Tryd.f58 [.int .i64 x1, .int .i64 y1] w K = C.cmp_Compare_int64 x1 y1 w K).mpr h)

/-- cmp.Compare[string] -/
def C.cmp_Compare_string (x1 : ByteArray) (y1 : ByteArray) (w : World) (K : Value → World → Prop) : Prop :=
  CallsV prog F.cmp_isNaN_string #[.string x1] w (fun v1 wv1 =>
    ∃ (r1 : Bool),
    v1 = .bool r1 ∧
    CallsV prog F.cmp_isNaN_string #[.string y1] wv1 (fun v2 wv2 =>
      ∃ (r2 : Bool),
      v2 = .bool r2 ∧
      ifB r1 (
        ifB r2 (
          K (.int .i64 0) wv2) (
          K (.int .i64 (-1)) wv2)) (
        ifB r2 (
          K (.int .i64 1) wv2) (
          ifB (sLt x1 y1) (
            K (.int .i64 (-1)) wv2) (
            ifB (!(sLt x1 y1 || sEq x1 y1)) (
              K (.int .i64 1) wv2) (
              K (.int .i64 0) wv2))))))
def An.cmp_Compare_string : Ann := ⟨[], [], []⟩
theorem R.cmp_Compare_string {x1 : ByteArray} {y1 : ByteArray} {w : World} {K : Value → World → Prop} (h : C.cmp_Compare_string x1 y1 w K) : CallsV prog F.cmp_Compare_string #[.string x1, .string y1] w K :=
  vcFn.calls (an := An.cmp_Compare_string) mixed tabOK eqsOK Go.Proofs.Tryd.func59 (by kernel_rfl) (by kernel_rfl) (by kernel_rfl) ((by kernel_rfl : vcFn prog eqs tab An.cmp_Compare_string Go.Proofs.Tryd.f59 [.string x1, .string y1] w K = C.cmp_Compare_string x1 y1 w K).mpr h)

/-- afflux/affluxref02.Less -/
def C.affluxref02_Less (aKind1 : Int) (aN1 : Int) (aS1 : ByteArray) (bKind1 : Int) (bN1 : Int) (bS1 : ByteArray) (w : World) (K : Value → World → Prop) : Prop :=
  ∀ b1 wv1, New w (.cells #[.int .i64 aKind1, .int .i64 aN1, .string aS1] T.api_Value) b1 wv1 →
  ∀ b2 wv2, New wv1 (.cells #[.int .i64 bKind1, .int .i64 bN1, .string bS1] T.api_Value) b2 wv2 →
  ∃ (Kind1 : Int),
  wv2.cell? ((Addr.mk b1 0 none).add 0) = some (.int .i64 Kind1) ∧
  ∃ (Kind2 : Int),
  wv2.cell? ((Addr.mk b2 0 none).add 0) = some (.int .i64 Kind2) ∧
  ifB (Kind1 != Kind2) (
    ∃ (Kind3 : Int),
    wv2.cell? ((Addr.mk b1 0 none).add 0) = some (.int .i64 Kind3) ∧
    ∃ (Kind4 : Int),
    wv2.cell? ((Addr.mk b2 0 none).add 0) = some (.int .i64 Kind4) ∧
    K (.bool (decide (Kind3 < Kind4))) wv2) (
    ∃ (N1 : Int),
    wv2.cell? ((Addr.mk b1 0 none).add 1) = some (.int .i64 N1) ∧
    ∃ (N2 : Int),
    wv2.cell? ((Addr.mk b2 0 none).add 1) = some (.int .i64 N2) ∧
    ifB (N1 != N2) (
      ∃ (N3 : Int),
      wv2.cell? ((Addr.mk b1 0 none).add 1) = some (.int .i64 N3) ∧
      ∃ (N4 : Int),
      wv2.cell? ((Addr.mk b2 0 none).add 1) = some (.int .i64 N4) ∧
      K (.bool (decide (N3 < N4))) wv2) (
      ∃ (S1 : ByteArray),
      wv2.cell? ((Addr.mk b1 0 none).add 2) = some (.string S1) ∧
      ∃ (S2 : ByteArray),
      wv2.cell? ((Addr.mk b2 0 none).add 2) = some (.string S2) ∧
      K (.bool (sLt S1 S2)) wv2))
def An.affluxref02_Less : Ann := ⟨[], [], []⟩
theorem R.affluxref02_Less {aKind1 : Int} {aN1 : Int} {aS1 : ByteArray} {bKind1 : Int} {bN1 : Int} {bS1 : ByteArray} {w : World} {K : Value → World → Prop} (h : C.affluxref02_Less aKind1 aN1 aS1 bKind1 bN1 bS1 w K) : CallsV prog F.affluxref02_Less #[.agg #[.int .i64 aKind1, .int .i64 aN1, .string aS1], .agg #[.int .i64 bKind1, .int .i64 bN1, .string bS1]] w K :=
  vcFn.calls (an := An.affluxref02_Less) mixed tabOK eqsOK Go.Proofs.Tryd.func60 (by kernel_rfl) (by kernel_rfl) (by kernel_rfl) ((by kernel_rfl : vcFn prog eqs tab An.affluxref02_Less Go.Proofs.Tryd.f60 [.agg #[.int .i64 aKind1, .int .i64 aN1, .string aS1], .agg #[.int .i64 bKind1, .int .i64 bN1, .string bS1]] w K = C.affluxref02_Less aKind1 aN1 aS1 bKind1 bN1 bS1 w K).mpr h)

/-- slices.ContainsFunc[[]afflux/api.Value,afflux/api.Value] -/
def C.slices_ContainsFunc_api_Value_api_Value (s1p : Option Addr) (s1n s1c : Nat) (f1f : Nat) (f1c : Array Value) (w : World) (K : Value → World → Prop) : Prop :=
  CallsV prog F.slices_IndexFunc_api_Value_api_Value #[.slice s1p s1n s1c, .func (.func f1f) #[] f1c] w (fun v1 wv1 =>
    ∃ (r1 : Int),
    v1 = .int .i64 r1 ∧
    K (.bool (decide ((0 : Int) ≤ r1))) wv1)
def An.slices_ContainsFunc_api_Value_api_Value : Ann := ⟨[], [], []⟩
theorem R.slices_ContainsFunc_api_Value_api_Value {s1p : Option Addr} {s1n s1c : Nat} {f1f : Nat} {f1c : Array Value} {w : World} {K : Value → World → Prop} (h : C.slices_ContainsFunc_api_Value_api_Value s1p s1n s1c f1f f1c w K) : CallsV prog F.slices_ContainsFunc_api_Value_api_Value #[.slice s1p s1n s1c, .func (.func f1f) #[] f1c] w K :=
  vcFn.calls (an := An.slices_ContainsFunc_api_Value_api_Value) mixed tabOK eqsOK Go.Proofs.Tryd.func61 (by kernel_rfl) (by kernel_rfl) (by kernel_rfl) ((by kernel_rfl : vcFn prog eqs tab An.slices_ContainsFunc_api_Value_api_Value Go.Proofs.Tryd.f61 [.slice s1p s1n s1c, .func (.func f1f) #[] f1c] w K = C.slices_ContainsFunc_api_Value_api_Value s1p s1n s1c f1f f1c w K).mpr h)

/-- afflux/value.wrong -/
def C.value_wrong (vKind1 : Int) (vN1 : Int) (vS1 : ByteArray) (w : World) (K : Value → World → Prop) : Prop :=
  ∀ b1 wv1, New w (.cells #[.int .i64 vKind1, .int .i64 vN1, .string vS1] T.api_Value) b1 wv1 →
  ∃ (Kind1 : Int),
  wv1.cell? ((Addr.mk b1 0 none).add 0) = some (.int .i64 Kind1) ∧
  ifB (Kind1 == (1 : Int)) (
    ∃ (S1 : ByteArray),
    wv1.cell? ((Addr.mk b1 0 none).add 2) = some (.string S1) ∧
    K (.bool (!sEq S1 (bs []))) wv1) (
    ifB (Kind1 == (2 : Int)) (
      ∃ (N1 : Int),
      wv1.cell? ((Addr.mk b1 0 none).add 1) = some (.int .i64 N1) ∧
      ifB (N1 != (0 : Int)) (
        K (.bool true) wv1) (
        ∃ (S2 : ByteArray),
        wv1.cell? ((Addr.mk b1 0 none).add 2) = some (.string S2) ∧
        K (.bool (decide ((200 : Int) < ((S2.size : Nat) : Int)))) wv1)) (
      ifB (Kind1 == (3 : Int)) (
        ∃ (N2 : Int),
        wv1.cell? ((Addr.mk b1 0 none).add 1) = some (.int .i64 N2) ∧
        0 ≤ (1 : Int) ∧
        ifB ((Int.fdiv N2 (2 ^ (min (1 : Int).toNat IntKind.i64.bits))) != (0 : Int)) (
          K (.bool true) wv1) (
          ∃ (S3 : ByteArray),
          wv1.cell? ((Addr.mk b1 0 none).add 2) = some (.string S3) ∧
          K (.bool (!sEq S3 (bs []))) wv1)) (
        K (.bool true) wv1)))
def An.value_wrong : Ann := ⟨[], [], []⟩
theorem R.value_wrong {vKind1 : Int} {vN1 : Int} {vS1 : ByteArray} {w : World} {K : Value → World → Prop} (h : C.value_wrong vKind1 vN1 vS1 w K) : CallsV prog F.value_wrong #[.agg #[.int .i64 vKind1, .int .i64 vN1, .string vS1]] w K :=
  vcFn.calls (an := An.value_wrong) mixed tabOK eqsOK Go.Proofs.Tryd.func62 (by kernel_rfl) (by kernel_rfl) (by kernel_rfl) ((by kernel_rfl : vcFn prog eqs tab An.value_wrong Go.Proofs.Tryd.f62 [.agg #[.int .i64 vKind1, .int .i64 vN1, .string vS1]] w K = C.value_wrong vKind1 vN1 vS1 w K).mpr h)

/-- slices.CompareFunc[[]afflux/api.Value,[]afflux/api.Value,afflux/api.Value,afflux/api.Value] -/
def C.slices_CompareFunc_api_Value_api_Value_api_Value_api_Value (s11p : Option Addr) (s11n s11c : Nat) (s21p : Option Addr) (s21n s21c : Nat) (cmp1f : Nat) (cmp1c : Array Value) (w : World) (K : Value → World → Prop) : Prop :=
  ∃ (Iv1 : Int → World → Prop) (m1 : Int → World → Nat),
  Iv1 0 w ∧
  ∀ (s131 : Int) wv1, Iv1 s131 wv1 →
  ifB (decide (s131 < ((s11n : Nat) : Int))) (
    ∃ a1, s11p = some a1 ∧ 0 ≤ s131 ∧ s131 < ((s11n : Nat) : Int) ∧
    ∃ (eKind1 : Int) (eN1 : Int) (eS1 : ByteArray),
    cellsAt wv1 (a1.add (s131.toNat * 3)) 0 [.int .i64 eKind1, .int .i64 eN1, .string eS1] ∧
    ∀ b1 wv2, New wv1 (.cells #[.int .i64 0, .int .i64 0, .string (bs [])] T.api_Value) b1 wv2 →
    CanSt wv2 ((Addr.mk b1 0 none).add 0) ∧ ∀ wv3, wv3 = wv2.setCell ((Addr.mk b1 0 none).add 0) (.int .i64 eKind1) →
    CanSt wv3 ((Addr.mk b1 0 none).add 1) ∧ ∀ wv4, wv4 = wv3.setCell ((Addr.mk b1 0 none).add 1) (.int .i64 eN1) →
    CanSt wv4 ((Addr.mk b1 0 none).add 2) ∧ ∀ wv5, wv5 = wv4.setCell ((Addr.mk b1 0 none).add 2) (.string eS1) →
    ifB (decide (((s21n : Nat) : Int) ≤ s131)) (
      K (.int .i64 1) wv5) (
      ∃ a2, s21p = some a2 ∧ 0 ≤ s131 ∧ s131 < ((s21n : Nat) : Int) ∧
      ∃ (eKind2 : Int) (eN2 : Int) (eS2 : ByteArray),
      cellsAt wv5 (a2.add (s131.toNat * 3)) 0 [.int .i64 eKind2, .int .i64 eN2, .string eS2] ∧
      ∀ b2 wv6, New wv5 (.cells #[.int .i64 0, .int .i64 0, .string (bs [])] T.api_Value) b2 wv6 →
      CanSt wv6 ((Addr.mk b2 0 none).add 0) ∧ ∀ wv7, wv7 = wv6.setCell ((Addr.mk b2 0 none).add 0) (.int .i64 eKind2) →
      CanSt wv7 ((Addr.mk b2 0 none).add 1) ∧ ∀ wv8, wv8 = wv7.setCell ((Addr.mk b2 0 none).add 1) (.int .i64 eN2) →
      CanSt wv8 ((Addr.mk b2 0 none).add 2) ∧ ∀ wv9, wv9 = wv8.setCell ((Addr.mk b2 0 none).add 2) (.string eS2) →
      ∃ (xKind1 : Int) (xN1 : Int) (xS1 : ByteArray),
      cellsAt wv9 (Addr.mk b1 0 none) 0 [.int .i64 xKind1, .int .i64 xN1, .string xS1] ∧
      ∃ (xKind2 : Int) (xN2 : Int) (xS2 : ByteArray),
      cellsAt wv9 (Addr.mk b2 0 none) 0 [.int .i64 xKind2, .int .i64 xN2, .string xS2] ∧
      CallsV prog cmp1f (#[] ++ #[.agg #[.int .i64 xKind1, .int .i64 xN1, .string xS1], .agg #[.int .i64 xKind2, .int .i64 xN2, .string xS2]] ++ cmp1c) wv9 (fun v1 wv10 =>
        ∃ (r1 : Int),
        v1 = .int .i64 r1 ∧
        ifB (r1 != (0 : Int)) (
          K (.int .i64 r1) wv10) (
          Iv1 (IntKind.i64.wrap (s131 + (1 : Int))) wv10 ∧ m1 (IntKind.i64.wrap (s131 + (1 : Int))) wv10 < m1 s131 wv1)))) (
    ifB (decide (((s11n : Nat) : Int) < ((s21n : Nat) : Int))) (
      K (.int .i64 (-1)) wv1) (
      K (.int .i64 0) wv1))
def An.slices_CompareFunc_api_Value_api_Value_api_Value_api_Value : Ann := ⟨[], [(2, [(13, 3)], [0, 1, 2, 11, 12])], []⟩
theorem R.slices_CompareFunc_api_Value_api_Value_api_Value_api_Value {s11p : Option Addr} {s11n s11c : Nat} {s21p : Option Addr} {s21n s21c : Nat} {cmp1f : Nat} {cmp1c : Array Value} {w : World} {K : Value → World → Prop} (h : C.slices_CompareFunc_api_Value_api_Value_api_Value_api_Value s11p s11n s11c s21p s21n s21c cmp1f cmp1c w K) : CallsV prog F.slices_CompareFunc_api_Value_api_Value_api_Value_api_Value #[.slice s11p s11n s11c, .slice s21p s21n s21c, .func (.func cmp1f) #[] cmp1c] w K :=
  vcFn.calls (an := An.slices_CompareFunc_api_Value_api_Value_api_Value_api_Value) mixed tabOK eqsOK Go.Proofs.Tryd.func63 (by kernel_rfl) (by kernel_rfl) (by kernel_rfl) ((by kernel_rfl : vcFn prog eqs tab An.slices_CompareFunc_api_Value_api_Value_api_Value_api_Value Go.Proofs.Tryd.f63 [.slice s11p s11n s11c, .slice s21p s21n s21c, .func (.func cmp1f) #[] cmp1c] w K = C.slices_CompareFunc_api_Value_api_Value_api_Value_api_Value s11p s11n s11c s21p s21n s21c cmp1f cmp1c w K).mpr h)

/-- afflux/affluxref02.Key -/
def C.affluxref02_Key (vKind1 : Int) (vN1 : Int) (vS1 : ByteArray) (w : World) (K : Value → World → Prop) : Prop :=
  ∀ b1 wv1, New w (.cells #[.int .i64 vKind1, .int .i64 vN1, .string vS1] T.api_Value) b1 wv1 →
  ∃ (Kind1 : Int),
  wv1.cell? ((Addr.mk b1 0 none).add 0) = some (.int .i64 Kind1) ∧
  ifB (Kind1 == (1 : Int)) (
    ∃ (N1 : Int),
    wv1.cell? ((Addr.mk b1 0 none).add 1) = some (.int .i64 N1) ∧
    ∃ (Iv1 : Int → ByteArray → Int → World → Prop) (m1 : Int → ByteArray → Int → World → Nat),
    Iv1 (IntKind.u64.wrap ((IntKind.u64.wrap N1) + (9223372036854775808 : Int))) (bs []) 0 wv1 ∧
    ∀ (u1 : Int) (s1 : ByteArray) (i1 : Int) wv2, Iv1 u1 s1 i1 wv2 →
    ifB (decide (i1 < (8 : Int))) (
      (256 : Int) ≠ 0 ∧
      ∀ b2 wv3, New wv2 (.cells #[.int .u8 (IntKind.u8.wrap (Int.tmod u1 (256 : Int)))] T.uint8) b2 wv3 →
      ConvV prog T.s_uint8 T.string (.slice (some (Addr.mk b2 0 none)) 1 1) wv3 (fun v1 wv4 =>
        ∃ (c1 : ByteArray),
        v1 = .string c1 ∧
        c1.size + s1.size ≤ 9223372036854775807 ∧
        (256 : Int) ≠ 0 ∧
        Iv1 (IntKind.u64.wrap (Int.tdiv u1 (256 : Int))) (c1 ++ s1) (IntKind.i64.wrap (i1 + (1 : Int))) wv4 ∧ m1 (IntKind.u64.wrap (Int.tdiv u1 (256 : Int))) (c1 ++ s1) (IntKind.i64.wrap (i1 + (1 : Int))) wv4 < m1 u1 s1 i1 wv2)) (
      (bs [1]).size + s1.size ≤ 9223372036854775807 ∧
      K (.string ((bs [1]) ++ s1)) wv2)) (
    ifB (Kind1 == (2 : Int)) (
      ∀ b3 wv5, New wv1 (.cells #[.int .u8 2] T.uint8) b3 wv5 →
      ∃ (Iv2 : Option Addr → Nat → Nat → Int → World → Prop) (m2 : Option Addr → Nat → Nat → Int → World → Nat),
      Iv2 (some (Addr.mk b3 0 none)) 1 1 0 wv5 ∧
      ∀ (s2p : Option Addr) (s2n s2c : Nat) (i2 : Int) wv6, Iv2 s2p s2n s2c i2 wv6 →
      ∃ (S1 : ByteArray),
      wv6.cell? ((Addr.mk b1 0 none).add 2) = some (.string S1) ∧
      ifB (decide (i2 < ((S1.size : Nat) : Int))) (
        ∃ (S2 : ByteArray),
        wv6.cell? ((Addr.mk b1 0 none).add 2) = some (.string S2) ∧
        0 ≤ i2 ∧ i2 < ((S2.size : Nat) : Int) ∧
        ∀ b4 wv7, New wv6 (.cells #[.int .u8 (bt S2 i2)] T.uint8) b4 wv7 →
        BuiltV prog .append #[T.s_uint8, T.s_uint8] T.s_uint8 #[.slice s2p s2n s2c, .slice (some (Addr.mk b4 0 none)) 1 1] wv7 (fun v2 wv8 =>
          ∃ (a1p : Option Addr) (a1n a1c : Nat),
          v2 = .slice a1p a1n a1c ∧
          ∃ (S3 : ByteArray),
          wv8.cell? ((Addr.mk b1 0 none).add 2) = some (.string S3) ∧
          0 ≤ i2 ∧ i2 < ((S3.size : Nat) : Int) ∧
          ifB ((bt S3 i2) == (0 : Int)) (
            ∀ b5 wv9, New wv8 (.cells #[.int .u8 255] T.uint8) b5 wv9 →
            BuiltV prog .append #[T.s_uint8, T.s_uint8] T.s_uint8 #[.slice a1p a1n a1c, .slice (some (Addr.mk b5 0 none)) 1 1] wv9 (fun v3 wv10 =>
              ∃ (a2p : Option Addr) (a2n a2c : Nat),
              v3 = .slice a2p a2n a2c ∧
              Iv2 a2p a2n a2c (IntKind.i64.wrap (i2 + (1 : Int))) wv10 ∧ m2 a2p a2n a2c (IntKind.i64.wrap (i2 + (1 : Int))) wv10 < m2 s2p s2n s2c i2 wv6)) (
            Iv2 a1p a1n a1c (IntKind.i64.wrap (i2 + (1 : Int))) wv8 ∧ m2 a1p a1n a1c (IntKind.i64.wrap (i2 + (1 : Int))) wv8 < m2 s2p s2n s2c i2 wv6))) (
        ConvV prog T.s_uint8 T.string (.slice s2p s2n s2c) wv6 (fun v4 wv11 =>
          ∃ (c2 : ByteArray),
          v4 = .string c2 ∧
          c2.size + (bs [0, 1]).size ≤ 9223372036854775807 ∧
          K (.string (c2 ++ (bs [0, 1]))) wv11))) (
      ∃ (N2 : Int),
      wv1.cell? ((Addr.mk b1 0 none).add 1) = some (.int .i64 N2) ∧
      ∀ b6 wv12, New wv1 (.cells #[.int .u8 3, .int .u8 (IntKind.u8.wrap N2)] T.uint8) b6 wv12 →
      ConvV prog T.s_uint8 T.string (.slice (some (Addr.mk b6 0 none)) 2 2) wv12 (fun v5 wv13 =>
        ∃ (c3 : ByteArray),
        v5 = .string c3 ∧
        K (.string c3) wv13)))
def An.affluxref02_Key : Ann := ⟨[], [(6, [(3, 91), (4, 9), (5, 3)], []), (14, [(6, 92), (7, 3)], [1])], []⟩
theorem R.affluxref02_Key {vKind1 : Int} {vN1 : Int} {vS1 : ByteArray} {w : World} {K : Value → World → Prop} (h : C.affluxref02_Key vKind1 vN1 vS1 w K) : CallsV prog F.affluxref02_Key #[.agg #[.int .i64 vKind1, .int .i64 vN1, .string vS1]] w K :=
  vcFn.calls (an := An.affluxref02_Key) mixed tabOK eqsOK Go.Proofs.Tryd.func64 (by kernel_rfl) (by kernel_rfl) (by kernel_rfl) ((by kernel_rfl : vcFn prog eqs tab An.affluxref02_Key Go.Proofs.Tryd.f64 [.agg #[.int .i64 vKind1, .int .i64 vN1, .string vS1]] w K = C.affluxref02_Key vKind1 vN1 vS1 w K).mpr h)

/-- afflux/value.take -/
def C.value_take (s1 : ByteArray) (w : World) (K : Value → World → Prop) : Prop :=
  ∀ b1 wv1, New w (.cells #[.int .i64 0, .int .i64 0, .string (bs [])] T.api_Value) b1 wv1 →
  0 ≤ (0 : Int) ∧ (0 : Int) < ((s1.size : Nat) : Int) ∧
  ifB ((bt s1 (0 : Int)) == (1 : Int)) (
    ifB (decide (((s1.size : Nat) : Int) < (9 : Int))) (
      CanSt wv1 ((Addr.mk b1 0 none).add 0) ∧ ∀ wv2, wv2 = wv1.setCell ((Addr.mk b1 0 none).add 0) (.int .i64 0) →
      CanSt wv2 ((Addr.mk b1 0 none).add 1) ∧ ∀ wv3, wv3 = wv2.setCell ((Addr.mk b1 0 none).add 1) (.int .i64 0) →
      CanSt wv3 ((Addr.mk b1 0 none).add 2) ∧ ∀ wv4, wv4 = wv3.setCell ((Addr.mk b1 0 none).add 2) (.string (bs [])) →
      ∃ (xKind1 : Int) (xN1 : Int) (xS1 : ByteArray),
      cellsAt wv4 (Addr.mk b1 0 none) 0 [.int .i64 xKind1, .int .i64 xN1, .string xS1] ∧
      K (.tuple #[.agg #[.int .i64 xKind1, .int .i64 xN1, .string xS1], .string (bs []), .bool false]) wv4) (
      0 ≤ (9 : Int) ∧ (9 : Int) ≤ ((s1.size : Nat) : Int) ∧
      0 ≤ (1 : Int) ∧ (1 : Int) ≤ (((9 : Int).toNat : Nat) : Int) ∧
      ConvV prog T.string T.s_uint8 (.string (s1.extract ((1 : Int).toNat) ((9 : Int).toNat))) wv1 (fun v1 wv5 =>
        ∃ (c1p : Option Addr) (c1n c1c : Nat),
        v1 = .slice c1p c1n c1c ∧
        ∃ (Iv1 : Int → Int → World → Prop) (m1 : Int → Int → World → Nat),
        Iv1 0 0 wv5 ∧
        ∀ (u1 : Int) (s231 : Int) wv6, Iv1 u1 s231 wv6 →
        ifB (decide (s231 < ((c1n : Nat) : Int))) (
          ∃ a1, c1p = some a1 ∧ 0 ≤ s231 ∧ s231 < ((c1n : Nat) : Int) ∧
          ∃ (e1 : Int),
          wv6.cell? (a1.add (s231.toNat * 1)) = some (.int .u8 e1) ∧
          0 ≤ (8 : Int) ∧
          Iv1 (bits .or .u64 (IntKind.u64.wrap (u1 * 2 ^ (min (8 : Int).toNat IntKind.u64.bits))) (IntKind.u64.wrap e1)) (IntKind.i64.wrap (s231 + (1 : Int))) wv6 ∧ m1 (bits .or .u64 (IntKind.u64.wrap (u1 * 2 ^ (min (8 : Int).toNat IntKind.u64.bits))) (IntKind.u64.wrap e1)) (IntKind.i64.wrap (s231 + (1 : Int))) wv6 < m1 u1 s231 wv6) (
          0 ≤ (9 : Int) ∧ (9 : Int) ≤ ((s1.size : Nat) : Int) ∧
          CallsV prog F.value_Int #[.int .i64 (IntKind.i64.wrap (bits .xor .u64 u1 (9223372036854775808 : Int)))] wv6.drew (fun v2 wv7 =>
            ∃ (rKind1 : Int) (rN1 : Int) (rS1 : ByteArray),
            v2 = .agg #[.int .i64 rKind1, .int .i64 rN1, .string rS1] ∧
            CanSt wv7 ((Addr.mk b1 0 none).add 0) ∧ ∀ wv8, wv8 = wv7.setCell ((Addr.mk b1 0 none).add 0) (.int .i64 rKind1) →
            CanSt wv8 ((Addr.mk b1 0 none).add 1) ∧ ∀ wv9, wv9 = wv8.setCell ((Addr.mk b1 0 none).add 1) (.int .i64 rN1) →
            CanSt wv9 ((Addr.mk b1 0 none).add 2) ∧ ∀ wv10, wv10 = wv9.setCell ((Addr.mk b1 0 none).add 2) (.string rS1) →
            ∃ (xKind2 : Int) (xN2 : Int) (xS2 : ByteArray),
            cellsAt wv10 (Addr.mk b1 0 none) 0 [.int .i64 xKind2, .int .i64 xN2, .string xS2] ∧
            K (.tuple #[.agg #[.int .i64 xKind2, .int .i64 xN2, .string xS2], .string (s1.extract ((9 : Int).toNat) s1.size), .bool true]) wv10))))) (
    ifB ((bt s1 (0 : Int)) == (2 : Int)) (
      0 ≤ (1 : Int) ∧ (1 : Int) ≤ ((s1.size : Nat) : Int) ∧
      CallsV prog F.value_text #[.string (s1.extract ((1 : Int).toNat) s1.size)] wv1 (fun v3 wv11 =>
        ∃ (ra1 : ByteArray) (rb1 : ByteArray) (rc1 : Bool),
        v3 = .tuple #[.string ra1, .string rb1, .bool rc1] ∧
        CallsV prog F.value_Text #[.string ra1] wv11 (fun v4 wv12 =>
          ∃ (rKind2 : Int) (rN2 : Int) (rS2 : ByteArray),
          v4 = .agg #[.int .i64 rKind2, .int .i64 rN2, .string rS2] ∧
          CanSt wv12 ((Addr.mk b1 0 none).add 0) ∧ ∀ wv13, wv13 = wv12.setCell ((Addr.mk b1 0 none).add 0) (.int .i64 rKind2) →
          CanSt wv13 ((Addr.mk b1 0 none).add 1) ∧ ∀ wv14, wv14 = wv13.setCell ((Addr.mk b1 0 none).add 1) (.int .i64 rN2) →
          CanSt wv14 ((Addr.mk b1 0 none).add 2) ∧ ∀ wv15, wv15 = wv14.setCell ((Addr.mk b1 0 none).add 2) (.string rS2) →
          ∃ (xKind3 : Int) (xN3 : Int) (xS3 : ByteArray),
          cellsAt wv15 (Addr.mk b1 0 none) 0 [.int .i64 xKind3, .int .i64 xN3, .string xS3] ∧
          K (.tuple #[.agg #[.int .i64 xKind3, .int .i64 xN3, .string xS3], .string rb1, .bool rc1]) wv15))) (
      ifB ((bt s1 (0 : Int)) == (3 : Int)) (
        ifB (decide (((s1.size : Nat) : Int) < (2 : Int))) (
          CanSt wv1 ((Addr.mk b1 0 none).add 0) ∧ ∀ wv16, wv16 = wv1.setCell ((Addr.mk b1 0 none).add 0) (.int .i64 0) →
          CanSt wv16 ((Addr.mk b1 0 none).add 1) ∧ ∀ wv17, wv17 = wv16.setCell ((Addr.mk b1 0 none).add 1) (.int .i64 0) →
          CanSt wv17 ((Addr.mk b1 0 none).add 2) ∧ ∀ wv18, wv18 = wv17.setCell ((Addr.mk b1 0 none).add 2) (.string (bs [])) →
          ∃ (xKind4 : Int) (xN4 : Int) (xS4 : ByteArray),
          cellsAt wv18 (Addr.mk b1 0 none) 0 [.int .i64 xKind4, .int .i64 xN4, .string xS4] ∧
          K (.tuple #[.agg #[.int .i64 xKind4, .int .i64 xN4, .string xS4], .string (bs []), .bool false]) wv18) (
          0 ≤ (1 : Int) ∧ (1 : Int) < ((s1.size : Nat) : Int) ∧
          ifB (decide ((1 : Int) < (bt s1 (1 : Int)))) (
            CanSt wv1 ((Addr.mk b1 0 none).add 0) ∧ ∀ wv19, wv19 = wv1.setCell ((Addr.mk b1 0 none).add 0) (.int .i64 0) →
            CanSt wv19 ((Addr.mk b1 0 none).add 1) ∧ ∀ wv20, wv20 = wv19.setCell ((Addr.mk b1 0 none).add 1) (.int .i64 0) →
            CanSt wv20 ((Addr.mk b1 0 none).add 2) ∧ ∀ wv21, wv21 = wv20.setCell ((Addr.mk b1 0 none).add 2) (.string (bs [])) →
            ∃ (xKind5 : Int) (xN5 : Int) (xS5 : ByteArray),
            cellsAt wv21 (Addr.mk b1 0 none) 0 [.int .i64 xKind5, .int .i64 xN5, .string xS5] ∧
            K (.tuple #[.agg #[.int .i64 xKind5, .int .i64 xN5, .string xS5], .string (bs []), .bool false]) wv21) (
            0 ≤ (1 : Int) ∧ (1 : Int) < ((s1.size : Nat) : Int) ∧
            0 ≤ (2 : Int) ∧ (2 : Int) ≤ ((s1.size : Nat) : Int) ∧
            CallsV prog F.value_Bool #[.bool ((bt s1 (1 : Int)) == (1 : Int))] wv1.drew (fun v5 wv22 =>
              ∃ (rKind3 : Int) (rN3 : Int) (rS3 : ByteArray),
              v5 = .agg #[.int .i64 rKind3, .int .i64 rN3, .string rS3] ∧
              CanSt wv22 ((Addr.mk b1 0 none).add 0) ∧ ∀ wv23, wv23 = wv22.setCell ((Addr.mk b1 0 none).add 0) (.int .i64 rKind3) →
              CanSt wv23 ((Addr.mk b1 0 none).add 1) ∧ ∀ wv24, wv24 = wv23.setCell ((Addr.mk b1 0 none).add 1) (.int .i64 rN3) →
              CanSt wv24 ((Addr.mk b1 0 none).add 2) ∧ ∀ wv25, wv25 = wv24.setCell ((Addr.mk b1 0 none).add 2) (.string rS3) →
              ∃ (xKind6 : Int) (xN6 : Int) (xS6 : ByteArray),
              cellsAt wv25 (Addr.mk b1 0 none) 0 [.int .i64 xKind6, .int .i64 xN6, .string xS6] ∧
              K (.tuple #[.agg #[.int .i64 xKind6, .int .i64 xN6, .string xS6], .string (s1.extract ((2 : Int).toNat) s1.size), .bool true]) wv25)))) (
        CanSt wv1 ((Addr.mk b1 0 none).add 0) ∧ ∀ wv26, wv26 = wv1.setCell ((Addr.mk b1 0 none).add 0) (.int .i64 0) →
        CanSt wv26 ((Addr.mk b1 0 none).add 1) ∧ ∀ wv27, wv27 = wv26.setCell ((Addr.mk b1 0 none).add 1) (.int .i64 0) →
        CanSt wv27 ((Addr.mk b1 0 none).add 2) ∧ ∀ wv28, wv28 = wv27.setCell ((Addr.mk b1 0 none).add 2) (.string (bs [])) →
        ∃ (xKind7 : Int) (xN7 : Int) (xS7 : ByteArray),
        cellsAt wv28 (Addr.mk b1 0 none) 0 [.int .i64 xKind7, .int .i64 xN7, .string xS7] ∧
        K (.tuple #[.agg #[.int .i64 xKind7, .int .i64 xN7, .string xS7], .string (bs []), .bool false]) wv28)))
def An.value_take : Ann := ⟨[(11, .sil 0 [] (.sil 1 [] (.sil 2 [] (.sil 4 [] (.sil 5 [] (.act 3 (.act 6 (.sil 7 [] (.sil 8 [] (.done)))))))))), (18, .sil 0 [] (.sil 1 [] (.sil 2 [] (.sil 4 [] (.sil 5 [] (.act 3 (.act 6 (.sil 7 [] (.sil 8 [] (.done))))))))))], [(7, [(5, 91), (23, 3)], [0, 2, 21, 22])], []⟩
theorem R.value_take {s1 : ByteArray} {w : World} {K : Value → World → Prop} (h : C.value_take s1 w K) : CallsV prog F.value_take #[.string s1] w K :=
  vcFn.calls (an := An.value_take) mixed tabOK eqsOK Go.Proofs.Tryd.func65 (by kernel_rfl) (by kernel_rfl) (by kernel_rfl) ((by kernel_rfl : vcFn prog eqs tab An.value_take Go.Proofs.Tryd.f65 [.string s1] w K = C.value_take s1 w K).mpr h)

/-- afflux/value.put -/
def C.value_put (b1p : Option Addr) (b1n b1c : Nat) (vKind1 : Int) (vN1 : Int) (vS1 : ByteArray) (w : World) (K : Value → World → Prop) : Prop :=
  ∀ b2 wv1, New w (.cells #[.int .i64 vKind1, .int .i64 vN1, .string vS1] T.api_Value) b2 wv1 →
  ∃ (Kind1 : Int),
  wv1.cell? ((Addr.mk b2 0 none).add 0) = some (.int .i64 Kind1) ∧
  ∀ b3 wv2, New wv1 (.cells #[.int .u8 (IntKind.u8.wrap Kind1)] T.uint8) b3 wv2 →
  BuiltV prog .append #[T.s_uint8, T.s_uint8] T.s_uint8 #[.slice b1p b1n b1c, .slice (some (Addr.mk b3 0 none)) 1 1] wv2 (fun v1 wv3 =>
    ∃ (a1p : Option Addr) (a1n a1c : Nat),
    v1 = .slice a1p a1n a1c ∧
    ∃ (Kind2 : Int),
    wv3.cell? ((Addr.mk b2 0 none).add 0) = some (.int .i64 Kind2) ∧
    ifB (Kind2 == (1 : Int)) (
      ∃ (N1 : Int),
      wv3.cell? ((Addr.mk b2 0 none).add 1) = some (.int .i64 N1) ∧
      ∃ (Iv1 : Option Addr → Nat → Nat → Int → World → Prop) (m1 : Option Addr → Nat → Nat → Int → World → Nat),
      Iv1 a1p a1n a1c 56 wv3 ∧
      ∀ (b4p : Option Addr) (b4n b4c : Nat) (i1 : Int) wv4, Iv1 b4p b4n b4c i1 wv4 →
      ifB (decide ((0 : Int) ≤ i1)) (
        0 ≤ i1 ∧
        ∀ b5 wv5, New wv4 (.cells #[.int .u8 (IntKind.u8.wrap (Int.fdiv (bits .xor .u64 (IntKind.u64.wrap N1) (9223372036854775808 : Int)) (2 ^ (min i1.toNat IntKind.u64.bits))))] T.uint8) b5 wv5 →
        BuiltV prog .append #[T.s_uint8, T.s_uint8] T.s_uint8 #[.slice b4p b4n b4c, .slice (some (Addr.mk b5 0 none)) 1 1] wv5 (fun v2 wv6 =>
          ∃ (a2p : Option Addr) (a2n a2c : Nat),
          v2 = .slice a2p a2n a2c ∧
          Iv1 a2p a2n a2c (IntKind.i64.wrap (i1 - (8 : Int))) wv6 ∧ m1 a2p a2n a2c (IntKind.i64.wrap (i1 - (8 : Int))) wv6 < m1 b4p b4n b4c i1 wv4)) (
        K (.slice b4p b4n b4c) wv4)) (
      ifB (Kind2 == (2 : Int)) (
        ∃ (S1 : ByteArray),
        wv3.cell? ((Addr.mk b2 0 none).add 2) = some (.string S1) ∧
        CallsV prog F.strings_ReplaceAll #[.string S1, .string (bs [0]), .string (bs [0, 255])] wv3 (fun v3 wv7 =>
          ∃ (r1 : ByteArray),
          v3 = .string r1 ∧
          BuiltV prog .append #[T.s_uint8, T.string] T.s_uint8 #[.slice a1p a1n a1c, .string r1] wv7 (fun v4 wv8 =>
            ∃ (a3p : Option Addr) (a3n a3c : Nat),
            v4 = .slice a3p a3n a3c ∧
            BuiltV prog .append #[T.s_uint8, T.string] T.s_uint8 #[.slice a3p a3n a3c, .string (bs [0, 1])] wv8 (fun v5 wv9 =>
              ∃ (a4p : Option Addr) (a4n a4c : Nat),
              v5 = .slice a4p a4n a4c ∧
              K (.slice a4p a4n a4c) wv9)))) (
        ifB (Kind2 == (3 : Int)) (
          ∃ (N2 : Int),
          wv3.cell? ((Addr.mk b2 0 none).add 1) = some (.int .i64 N2) ∧
          ∀ b6 wv10, New wv3 (.cells #[.int .u8 (IntKind.u8.wrap N2)] T.uint8) b6 wv10 →
          BuiltV prog .append #[T.s_uint8, T.s_uint8] T.s_uint8 #[.slice a1p a1n a1c, .slice (some (Addr.mk b6 0 none)) 1 1] wv10 (fun v6 wv11 =>
            ∃ (a5p : Option Addr) (a5n a5c : Nat),
            v6 = .slice a5p a5n a5c ∧
            K (.slice a5p a5n a5c) wv11)) (
          K (.slice a1p a1n a1c) wv3))))
def An.value_put : Ann := ⟨[], [(6, [(0, 92), (6, 3)], [5])], []⟩
theorem R.value_put {b1p : Option Addr} {b1n b1c : Nat} {vKind1 : Int} {vN1 : Int} {vS1 : ByteArray} {w : World} {K : Value → World → Prop} (h : C.value_put b1p b1n b1c vKind1 vN1 vS1 w K) : CallsV prog F.value_put #[.slice b1p b1n b1c, .agg #[.int .i64 vKind1, .int .i64 vN1, .string vS1]] w K :=
  vcFn.calls (an := An.value_put) mixed tabOK eqsOK Go.Proofs.Tryd.func66 (by kernel_rfl) (by kernel_rfl) (by kernel_rfl) ((by kernel_rfl : vcFn prog eqs tab An.value_put Go.Proofs.Tryd.f66 [.slice b1p b1n b1c, .agg #[.int .i64 vKind1, .int .i64 vN1, .string vS1]] w K = C.value_put b1p b1n b1c vKind1 vN1 vS1 w K).mpr h)

/-- afflux/schema.within -/
def C.schema_within (n1 : Int) (lo1 : Int) (hi1 : Int) (w : World) (K : Value → World → Prop) : Prop :=
  ifB (decide (lo1 ≤ n1)) (
    K (.bool (decide (n1 ≤ hi1))) w) (
    K (.bool false) w)
def An.schema_within : Ann := ⟨[], [], []⟩
theorem R.schema_within {n1 : Int} {lo1 : Int} {hi1 : Int} {w : World} {K : Value → World → Prop} (h : C.schema_within n1 lo1 hi1 w K) : CallsV prog F.schema_within #[.int .i64 n1, .int .i64 lo1, .int .i64 hi1] w K :=
  vcFn.calls (an := An.schema_within) mixed tabOK eqsOK Go.Proofs.Tryd.func67 (by kernel_rfl) (by kernel_rfl) (by kernel_rfl) ((by kernel_rfl : vcFn prog eqs tab An.schema_within Go.Proofs.Tryd.f67 [.int .i64 n1, .int .i64 lo1, .int .i64 hi1] w K = C.schema_within n1 lo1 hi1 w K).mpr h)

/-- afflux/schema.fits -/
def C.schema_fits (l1p : Option Addr) (l1n l1c : Nat) (row1p : Option Addr) (row1n row1c : Nat) (w : World) (K : Value → World → Prop) : Prop :=
  ifB (((row1n : Nat) : Int) != ((l1n : Nat) : Int)) (
    K (.bool false) w) (
    CallsV prog F.value_Right #[.slice row1p row1n row1c] w (fun v1 wv1 =>
      ∃ (r1 : Bool),
      v1 = .bool r1 ∧
      ifB (!r1) (
        K (.bool false) wv1) (
        ∃ (Iv1 : Int → World → Prop) (m1 : Int → World → Nat),
        Iv1 0 wv1 ∧
        ∀ (s191 : Int) wv2, Iv1 s191 wv2 →
        ifB (decide (s191 < ((row1n : Nat) : Int))) (
          ∃ a1, row1p = some a1 ∧ 0 ≤ s191 ∧ s191 < ((row1n : Nat) : Int) ∧
          ∃ (eKind1 : Int) (eN1 : Int) (eS1 : ByteArray),
          cellsAt wv2 (a1.add (s191.toNat * 3)) 0 [.int .i64 eKind1, .int .i64 eN1, .string eS1] ∧
          ∀ b1 wv3, New wv2 (.cells #[.int .i64 0, .int .i64 0, .string (bs [])] T.api_Value) b1 wv3 →
          CanSt wv3 ((Addr.mk b1 0 none).add 0) ∧ ∀ wv4, wv4 = wv3.setCell ((Addr.mk b1 0 none).add 0) (.int .i64 eKind1) →
          CanSt wv4 ((Addr.mk b1 0 none).add 1) ∧ ∀ wv5, wv5 = wv4.setCell ((Addr.mk b1 0 none).add 1) (.int .i64 eN1) →
          CanSt wv5 ((Addr.mk b1 0 none).add 2) ∧ ∀ wv6, wv6 = wv5.setCell ((Addr.mk b1 0 none).add 2) (.string eS1) →
          ∃ (Kind1 : Int),
          wv6.drew.cell? ((Addr.mk b1 0 none).add 0) = some (.int .i64 Kind1) ∧
          ∃ a2, l1p = some a2 ∧ 0 ≤ s191 ∧ s191 < ((l1n : Nat) : Int) ∧
          ∃ (Kind2 : Int),
          wv6.drew.cell? ((a2.add (s191.toNat * 2)).add 1) = some (.int .i64 Kind2) ∧
          ifB (Kind1 != Kind2) (
            K (.bool false) wv6.drew) (
            Iv1 (IntKind.i64.wrap (s191 + (1 : Int))) wv6.drew ∧ m1 (IntKind.i64.wrap (s191 + (1 : Int))) wv6.drew < m1 s191 wv2)) (
          K (.bool true) wv2))))
def An.schema_fits : Ann := ⟨[(6, .sil 0 [] (.sil 1 [] (.sil 2 [] (.sil 3 [] (.sil 4 [] (.sil 5 [] (.sil 6 [] (.sil 7 [] (.done)))))))))], [(4, [(19, 3)], [0, 17, 18])], []⟩
theorem R.schema_fits {l1p : Option Addr} {l1n l1c : Nat} {row1p : Option Addr} {row1n row1c : Nat} {w : World} {K : Value → World → Prop} (h : C.schema_fits l1p l1n l1c row1p row1n row1c w K) : CallsV prog F.schema_fits #[.slice l1p l1n l1c, .slice row1p row1n row1c] w K :=
  vcFn.calls (an := An.schema_fits) mixed tabOK eqsOK Go.Proofs.Tryd.func68 (by kernel_rfl) (by kernel_rfl) (by kernel_rfl) ((by kernel_rfl : vcFn prog eqs tab An.schema_fits Go.Proofs.Tryd.f68 [.slice l1p l1n l1c, .slice row1p row1n row1c] w K = C.schema_fits l1p l1n l1c row1p row1n row1c w K).mpr h)

/-- afflux/schema.checked -/
def C.schema_checked (sName1 : ByteArray) (sCols1p : Option Addr) (sCols1n sCols1c : Nat) (sIndexes1p : Option Addr) (sIndexes1n sIndexes1c : Nat) (sLimit1 : Int) (sParts1 : Int) (sBy1 : Int) (index1 : Int) (row1p : Option Addr) (row1n row1c : Nat) (w : World) (K : Value → World → Prop) : Prop :=
  ∀ b1 wv1, New w (.cells #[.string sName1, .slice sCols1p sCols1n sCols1c, .slice sIndexes1p sIndexes1n sIndexes1c, .int .i64 sLimit1, .int .i64 sParts1, .int .i64 sBy1] T.api_Schema) b1 wv1 →
  ∃ (xName1 : ByteArray) (xCols1p : Option Addr) (xCols1n xCols1c : Nat) (xIndexes1p : Option Addr) (xIndexes1n xIndexes1c : Nat) (xLimit1 : Int) (xParts1 : Int) (xBy1 : Int),
  cellsAt wv1 (Addr.mk b1 0 none) 0 [.string xName1, .slice xCols1p xCols1n xCols1c, .slice xIndexes1p xIndexes1n xIndexes1c, .int .i64 xLimit1, .int .i64 xParts1, .int .i64 xBy1] ∧
  CallsV prog F.schema_Right #[.agg #[.string xName1, .slice xCols1p xCols1n xCols1c, .slice xIndexes1p xIndexes1n xIndexes1c, .int .i64 xLimit1, .int .i64 xParts1, .int .i64 xBy1]] wv1 (fun v1 wv2 =>
    ∃ (r1 : Bool),
    v1 = .bool r1 ∧
    ifB (!r1) (
      K (.int .i64 1) wv2) (
      ∃ (Indexes1p : Option Addr) (Indexes1n Indexes1c : Nat),
      wv2.cell? ((Addr.mk b1 0 none).add 2) = some (.slice Indexes1p Indexes1n Indexes1c) ∧
      CallsV prog F.schema_within #[.int .i64 index1, .int .i64 0, .int .i64 (IntKind.i64.wrap (((Indexes1n : Nat) : Int) - (1 : Int)))] wv2 (fun v2 wv3 =>
        ∃ (r2 : Bool),
        v2 = .bool r2 ∧
        ifB (!r2) (
          K (.int .i64 1) wv3) (
          ∃ (Cols1p : Option Addr) (Cols1n Cols1c : Nat),
          wv3.cell? ((Addr.mk b1 0 none).add 1) = some (.slice Cols1p Cols1n Cols1c) ∧
          CallsV prog F.schema_fits #[.slice Cols1p Cols1n Cols1c, .slice row1p row1n row1c] wv3 (fun v3 wv4 =>
            ∃ (r3 : Bool),
            v3 = .bool r3 ∧
            ifB (!r3) (
              K (.int .i64 13) wv4) (
              K (.int .i64 0) wv4))))))
def An.schema_checked : Ann := ⟨[], [], []⟩
theorem R.schema_checked {sName1 : ByteArray} {sCols1p : Option Addr} {sCols1n sCols1c : Nat} {sIndexes1p : Option Addr} {sIndexes1n sIndexes1c : Nat} {sLimit1 : Int} {sParts1 : Int} {sBy1 : Int} {index1 : Int} {row1p : Option Addr} {row1n row1c : Nat} {w : World} {K : Value → World → Prop} (h : C.schema_checked sName1 sCols1p sCols1n sCols1c sIndexes1p sIndexes1n sIndexes1c sLimit1 sParts1 sBy1 index1 row1p row1n row1c w K) : CallsV prog F.schema_checked #[.agg #[.string sName1, .slice sCols1p sCols1n sCols1c, .slice sIndexes1p sIndexes1n sIndexes1c, .int .i64 sLimit1, .int .i64 sParts1, .int .i64 sBy1], .int .i64 index1, .slice row1p row1n row1c] w K :=
  vcFn.calls (an := An.schema_checked) mixed tabOK eqsOK Go.Proofs.Tryd.func69 (by kernel_rfl) (by kernel_rfl) (by kernel_rfl) ((by kernel_rfl : vcFn prog eqs tab An.schema_checked Go.Proofs.Tryd.f69 [.agg #[.string sName1, .slice sCols1p sCols1n sCols1c, .slice sIndexes1p sIndexes1n sIndexes1c, .int .i64 sLimit1, .int .i64 sParts1, .int .i64 sBy1], .int .i64 index1, .slice row1p row1n row1c] w K = C.schema_checked sName1 sCols1p sCols1n sCols1c sIndexes1p sIndexes1n sIndexes1c sLimit1 sParts1 sBy1 index1 row1p row1n row1c w K).mpr h)

/-- afflux/schema.key -/
def C.schema_key (sName1 : ByteArray) (sCols1p : Option Addr) (sCols1n sCols1c : Nat) (sIndexes1p : Option Addr) (sIndexes1n sIndexes1c : Nat) (sLimit1 : Int) (sParts1 : Int) (sBy1 : Int) (index1 : Int) (row1p : Option Addr) (row1n row1c : Nat) (w : World) (K : Value → World → Prop) : Prop :=
  ∀ b1 wv1, New w (.cells #[.string sName1, .slice sCols1p sCols1n sCols1c, .slice sIndexes1p sIndexes1n sIndexes1c, .int .i64 sLimit1, .int .i64 sParts1, .int .i64 sBy1] T.api_Schema) b1 wv1 →
  ∃ (Indexes1p : Option Addr) (Indexes1n Indexes1c : Nat),
  wv1.cell? ((Addr.mk b1 0 none).add 2) = some (.slice Indexes1p Indexes1n Indexes1c) ∧
  ∃ a1, Indexes1p = some a1 ∧ 0 ≤ index1 ∧ index1 < ((Indexes1n : Nat) : Int) ∧
  ∃ (eCols1p : Option Addr) (eCols1n eCols1c : Nat) (eUnique1 : Bool),
  cellsAt wv1 (a1.add (index1.toNat * 2)) 0 [.slice eCols1p eCols1n eCols1c, .bool eUnique1] ∧
  ∀ b2 wv2, New wv1 (.cells #[.slice none 0 0, .bool false] T.api_Index) b2 wv2 →
  CanSt wv2 ((Addr.mk b2 0 none).add 0) ∧ ∀ wv3, wv3 = wv2.setCell ((Addr.mk b2 0 none).add 0) (.slice eCols1p eCols1n eCols1c) →
  CanSt wv3 ((Addr.mk b2 0 none).add 1) ∧ ∀ wv4, wv4 = wv3.setCell ((Addr.mk b2 0 none).add 1) (.bool eUnique1) →
  ∃ (Cols1p : Option Addr) (Cols1n Cols1c : Nat),
  wv4.cell? ((Addr.mk b2 0 none).add 0) = some (.slice Cols1p Cols1n Cols1c) ∧
  CallsV prog F.schema_Pick #[.slice row1p row1n row1c, .slice Cols1p Cols1n Cols1c] wv4 (fun v1 wv5 =>
    ∃ (r1p : Option Addr) (r1n r1c : Nat),
    v1 = .slice r1p r1n r1c ∧
    CallsV prog F.value_Key #[.slice r1p r1n r1c] wv5 (fun v2 wv6 =>
      ∃ (r2 : ByteArray),
      v2 = .string r2 ∧
      ∃ (Unique1 : Bool),
      wv6.cell? ((Addr.mk b2 0 none).add 1) = some (.bool Unique1) ∧
      ifB (!Unique1) (
        ∃ (Indexes2p : Option Addr) (Indexes2n Indexes2c : Nat),
        wv6.cell? ((Addr.mk b1 0 none).add 2) = some (.slice Indexes2p Indexes2n Indexes2c) ∧
        ∃ a2, Indexes2p = some a2 ∧ 0 ≤ (0 : Int) ∧ (0 : Int) < ((Indexes2n : Nat) : Int) ∧
        ∃ (Cols2p : Option Addr) (Cols2n Cols2c : Nat),
        wv6.cell? ((a2.add ((0 : Int).toNat * 2)).add 0) = some (.slice Cols2p Cols2n Cols2c) ∧
        CallsV prog F.schema_Pick #[.slice row1p row1n row1c, .slice Cols2p Cols2n Cols2c] wv6 (fun v3 wv7 =>
          ∃ (r3p : Option Addr) (r3n r3c : Nat),
          v3 = .slice r3p r3n r3c ∧
          CallsV prog F.value_Key #[.slice r3p r3n r3c] wv7 (fun v4 wv8 =>
            ∃ (r4 : ByteArray),
            v4 = .string r4 ∧
            r2.size + r4.size ≤ 9223372036854775807 ∧
            K (.string (r2 ++ r4)) wv8))) (
        K (.string r2) wv6)))
def An.schema_key : Ann := ⟨[], [], []⟩
theorem R.schema_key {sName1 : ByteArray} {sCols1p : Option Addr} {sCols1n sCols1c : Nat} {sIndexes1p : Option Addr} {sIndexes1n sIndexes1c : Nat} {sLimit1 : Int} {sParts1 : Int} {sBy1 : Int} {index1 : Int} {row1p : Option Addr} {row1n row1c : Nat} {w : World} {K : Value → World → Prop} (h : C.schema_key sName1 sCols1p sCols1n sCols1c sIndexes1p sIndexes1n sIndexes1c sLimit1 sParts1 sBy1 index1 row1p row1n row1c w K) : CallsV prog F.schema_key #[.agg #[.string sName1, .slice sCols1p sCols1n sCols1c, .slice sIndexes1p sIndexes1n sIndexes1c, .int .i64 sLimit1, .int .i64 sParts1, .int .i64 sBy1], .int .i64 index1, .slice row1p row1n row1c] w K :=
  vcFn.calls (an := An.schema_key) mixed tabOK eqsOK Go.Proofs.Tryd.func70 (by kernel_rfl) (by kernel_rfl) (by kernel_rfl) ((by kernel_rfl : vcFn prog eqs tab An.schema_key Go.Proofs.Tryd.f70 [.agg #[.string sName1, .slice sCols1p sCols1n sCols1c, .slice sIndexes1p sIndexes1n sIndexes1c, .int .i64 sLimit1, .int .i64 sParts1, .int .i64 sBy1], .int .i64 index1, .slice row1p row1n row1c] w K = C.schema_key sName1 sCols1p sCols1n sCols1c sIndexes1p sIndexes1n sIndexes1c sLimit1 sParts1 sBy1 index1 row1p row1n row1c w K).mpr h)

/-- strings.ReplaceAll -/
def C.strings_ReplaceAll (s1 : ByteArray) (old1 : ByteArray) (new1 : ByteArray) (w : World) (K : Value → World → Prop) : Prop :=
  CallsV prog F.strings_Replace #[.string s1, .string old1, .string new1, .int .i64 (-1)] w (fun v1 wv1 =>
    ∃ (r1 : ByteArray),
    v1 = .string r1 ∧
    K (.string r1) wv1)
def An.strings_ReplaceAll : Ann := ⟨[], [], []⟩
theorem R.strings_ReplaceAll {s1 : ByteArray} {old1 : ByteArray} {new1 : ByteArray} {w : World} {K : Value → World → Prop} (h : C.strings_ReplaceAll s1 old1 new1 w K) : CallsV prog F.strings_ReplaceAll #[.string s1, .string old1, .string new1] w K :=
  vcFn.calls (an := An.strings_ReplaceAll) mixed tabOK eqsOK Go.Proofs.Tryd.func71 (by kernel_rfl) (by kernel_rfl) (by kernel_rfl) ((by kernel_rfl : vcFn prog eqs tab An.strings_ReplaceAll Go.Proofs.Tryd.f71 [.string s1, .string old1, .string new1] w K = C.strings_ReplaceAll s1 old1 new1 w K).mpr h)

/-- afflux/calc.Parse -/
def C.calc_Parse (s1 : ByteArray) (w : World) (K : Value → World → Prop) : Prop :=
  ∃ Jv1 : ByteArray → Bool → World → Prop,
  (ifB (!sEq s1 (bs [])) (
    0 ≤ (0 : Int) ∧ (0 : Int) < ((s1.size : Nat) : Int) ∧
    ifB ((bt s1 (0 : Int)) == (45 : Int)) (
      0 ≤ (1 : Int) ∧ (1 : Int) ≤ ((s1.size : Nat) : Int) ∧
      Jv1 (s1.extract ((1 : Int).toNat) s1.size) true w) (
      Jv1 s1 false w)) (
    Jv1 s1 false w)) ∧
  (∀ (rest1 : ByteArray) (neg1 : Bool) wv1, Jv1 rest1 neg1 wv1 →
  ∃ Jv2 : World → Prop,
  (ifB (sEq rest1 (bs [])) (
    K (.tuple #[.int .i64 0, .int .i64 12]) wv1) (
    0 ≤ (0 : Int) ∧ (0 : Int) < ((rest1.size : Nat) : Int) ∧
    ifB ((bt rest1 (0 : Int)) == (48 : Int)) (
      ifB neg1 (
        K (.tuple #[.int .i64 0, .int .i64 12]) wv1) (
        ifB (decide ((1 : Int) < ((rest1.size : Nat) : Int))) (
          K (.tuple #[.int .i64 0, .int .i64 12]) wv1) (
          Jv2 wv1))) (
      Jv2 wv1))) ∧
  (∀ wv2, Jv2 wv2 →
  ConvV prog T.string T.s_uint8 (.string rest1) wv2 (fun v1 wv3 =>
    ∃ (c1p : Option Addr) (c1n c1c : Nat),
    v1 = .slice c1p c1n c1c ∧
    ∃ (Iv1 : Int → Bool → Int → World → Prop) (m1 : Int → Bool → Int → World → Nat),
    Iv1 0 false 0 wv3 ∧
    ∀ (n1 : Int) (over1 : Bool) (s421 : Int) wv4, Iv1 n1 over1 s421 wv4 →
    ifB (decide (s421 < ((c1n : Nat) : Int))) (
      ∃ a1, c1p = some a1 ∧ 0 ≤ s421 ∧ s421 < ((c1n : Nat) : Int) ∧
      ∃ (e1 : Int),
      wv4.cell? (a1.add (s421.toNat * 1)) = some (.int .u8 e1) ∧
      ifB (decide (e1 < (48 : Int))) (
        K (.tuple #[.int .i64 0, .int .i64 12]) wv4) (
        ifB (decide ((57 : Int) < e1)) (
          K (.tuple #[.int .i64 0, .int .i64 12]) wv4) (
          CallsV prog F.math_bits_Mul64 #[.int .u64 n1, .int .u64 10] wv4 (fun v2 wv5 =>
            ∃ (ra1 : Int) (rb1 : Int),
            v2 = .tuple #[.int .u64 ra1, .int .u64 rb1] ∧
            CallsV prog F.math_bits_Add64 #[.int .u64 rb1, .int .u64 (IntKind.u64.wrap (IntKind.u8.wrap (e1 - (48 : Int)))), .int .u64 0] wv5 (fun v3 wv6 =>
              ∃ (ra2 : Int) (rb2 : Int),
              v3 = .tuple #[.int .u64 ra2, .int .u64 rb2] ∧
              ifB over1 (
                Iv1 ra2 true (IntKind.i64.wrap (s421 + (1 : Int))) wv6 ∧ m1 ra2 true (IntKind.i64.wrap (s421 + (1 : Int))) wv6 < m1 n1 over1 s421 wv4) (
                ifB (ra1 != (0 : Int)) (
                  Iv1 ra2 true (IntKind.i64.wrap (s421 + (1 : Int))) wv6 ∧ m1 ra2 true (IntKind.i64.wrap (s421 + (1 : Int))) wv6 < m1 n1 over1 s421 wv4) (
                  Iv1 ra2 (rb2 != (0 : Int)) (IntKind.i64.wrap (s421 + (1 : Int))) wv6 ∧ m1 ra2 (rb2 != (0 : Int)) (IntKind.i64.wrap (s421 + (1 : Int))) wv6 < m1 n1 over1 s421 wv4))))))) (
      ifB over1 (
        K (.tuple #[.int .i64 0, .int .i64 2]) wv4) (
        CallsV prog F.calc_signed #[.bool neg1, .int .u64 n1] wv4 (fun v4 wv7 =>
          ∃ (ra3 : Int) (rb3 : Int),
          v4 = .tuple #[.int .i64 ra3, .int .i64 rb3] ∧
          K (.tuple #[.int .i64 ra3, .int .i64 rb3]) wv7))))))
def An.calc_Parse : Ann := ⟨[], [(8, [(6, 91), (7, 4), (42, 3)], [5, 40, 41])], [(4, [(4, 9), (5, 4)], [0]), (6, [], [4, 5])]⟩
theorem R.calc_Parse {s1 : ByteArray} {w : World} {K : Value → World → Prop} (h : C.calc_Parse s1 w K) : CallsV prog F.calc_Parse #[.string s1] w K :=
  vcFn.calls (an := An.calc_Parse) mixed tabOK eqsOK Go.Proofs.Tryd.func72 (by kernel_rfl) (by kernel_rfl) (by kernel_rfl) ((by kernel_rfl : vcFn prog eqs tab An.calc_Parse Go.Proofs.Tryd.f72 [.string s1] w K = C.calc_Parse s1 w K).mpr h)

/-- afflux/calc.Print -/
def C.calc_Print (n1 : Int) (w : World) (K : Value → World → Prop) : Prop :=
  ifB (n1 == (0 : Int)) (
    K (.string (bs [48])) w) (
    ∀ b1 wv1, New w (.cells #[.int .u8 0, .int .u8 0, .int .u8 0, .int .u8 0, .int .u8 0, .int .u8 0, .int .u8 0, .int .u8 0, .int .u8 0, .int .u8 0, .int .u8 0, .int .u8 0, .int .u8 0, .int .u8 0, .int .u8 0, .int .u8 0, .int .u8 0, .int .u8 0, .int .u8 0, .int .u8 0] T.t20_uint8) b1 wv1 →
    CallsV prog F.calc_size #[.int .i64 n1] wv1 (fun v1 wv2 =>
      ∃ (r1 : Int),
      v1 = .int .u64 r1 ∧
      ∃ (Iv1 : Int → Int → World → Prop) (m1 : Int → Int → World → Nat),
      Iv1 20 r1 wv2 ∧
      ∀ (atv1 : Int) (u1 : Int) wv3, Iv1 atv1 u1 wv3 →
      ifB (decide ((0 : Int) < u1)) (
        (10 : Int) ≠ 0 ∧
        0 ≤ IntKind.i64.wrap (atv1 - (1 : Int)) ∧ IntKind.i64.wrap (atv1 - (1 : Int)) < ((20 : Nat) : Int) ∧
        CanSt wv3 ((Addr.mk b1 0 none).add ((IntKind.i64.wrap (atv1 - (1 : Int))).toNat * 1)) ∧ ∀ wv4, wv4 = wv3.setCell ((Addr.mk b1 0 none).add ((IntKind.i64.wrap (atv1 - (1 : Int))).toNat * 1)) (.int .u8 (IntKind.u8.wrap (IntKind.u64.wrap ((48 : Int) + (Int.tmod u1 (10 : Int)))))) →
        (10 : Int) ≠ 0 ∧
        Iv1 (IntKind.i64.wrap (atv1 - (1 : Int))) (IntKind.u64.wrap (Int.tdiv u1 (10 : Int))) wv4 ∧ m1 (IntKind.i64.wrap (atv1 - (1 : Int))) (IntKind.u64.wrap (Int.tdiv u1 (10 : Int))) wv4 < m1 atv1 u1 wv3) (
        ifB (decide (n1 < (0 : Int))) (
          0 ≤ IntKind.i64.wrap (atv1 - (1 : Int)) ∧ IntKind.i64.wrap (atv1 - (1 : Int)) < ((20 : Nat) : Int) ∧
          CanSt wv3 ((Addr.mk b1 0 none).add ((IntKind.i64.wrap (atv1 - (1 : Int))).toNat * 1)) ∧ ∀ wv5, wv5 = wv3.setCell ((Addr.mk b1 0 none).add ((IntKind.i64.wrap (atv1 - (1 : Int))).toNat * 1)) (.int .u8 45) →
          0 ≤ IntKind.i64.wrap (atv1 - (1 : Int)) ∧ IntKind.i64.wrap (atv1 - (1 : Int)) ≤ ((20 : Nat) : Int) ∧
          ConvV prog T.s_uint8 T.string (.slice (some (cutAt1 (Addr.mk b1 0 none) ((IntKind.i64.wrap (atv1 - (1 : Int))).toNat) 20 1)) (20 - ((IntKind.i64.wrap (atv1 - (1 : Int))).toNat)) (20 - ((IntKind.i64.wrap (atv1 - (1 : Int))).toNat))) wv5 (fun v2 wv6 =>
            ∃ (c1 : ByteArray),
            v2 = .string c1 ∧
            K (.string c1) wv6)) (
          0 ≤ atv1 ∧ atv1 ≤ ((20 : Nat) : Int) ∧
          ConvV prog T.s_uint8 T.string (.slice (some (cutAt1 (Addr.mk b1 0 none) atv1.toNat 20 1)) (20 - atv1.toNat) (20 - atv1.toNat)) wv3 (fun v3 wv7 =>
            ∃ (c2 : ByteArray),
            v3 = .string c2 ∧
            K (.string c2) wv7)))))
def An.calc_Print : Ann := ⟨[], [(6, [(4, 3), (5, 91)], [0, 3])], []⟩
theorem R.calc_Print {n1 : Int} {w : World} {K : Value → World → Prop} (h : C.calc_Print n1 w K) : CallsV prog F.calc_Print #[.int .i64 n1] w K :=
  vcFn.calls (an := An.calc_Print) mixed tabOK eqsOK Go.Proofs.Tryd.func73 (by kernel_rfl) (by kernel_rfl) (by kernel_rfl) ((by kernel_rfl : vcFn prog eqs tab An.calc_Print Go.Proofs.Tryd.f73 [.int .i64 n1] w K = C.calc_Print n1 w K).mpr h)

/-- afflux/calc.Mod -/
def C.calc_Mod (a1 : Int) (b1 : Int) (w : World) (K : Value → World → Prop) : Prop :=
  ifB (b1 == (-1)) (
    K (.tuple #[.int .i64 0, .int .i64 0]) w) (
    CallsV prog F.calc_parts #[.int .i64 a1, .int .i64 b1] w (fun v1 wv1 =>
      ∃ (ra1 : Int) (rb1 : Int) (rc1 : Int),
      v1 = .tuple #[.int .i64 ra1, .int .i64 rb1, .int .i64 rc1] ∧
      K (.tuple #[.int .i64 rb1, .int .i64 rc1]) wv1))
def An.calc_Mod : Ann := ⟨[], [], []⟩
theorem R.calc_Mod {a1 : Int} {b1 : Int} {w : World} {K : Value → World → Prop} (h : C.calc_Mod a1 b1 w K) : CallsV prog F.calc_Mod #[.int .i64 a1, .int .i64 b1] w K :=
  vcFn.calls (an := An.calc_Mod) mixed tabOK eqsOK Go.Proofs.Tryd.func74 (by kernel_rfl) (by kernel_rfl) (by kernel_rfl) ((by kernel_rfl : vcFn prog eqs tab An.calc_Mod Go.Proofs.Tryd.f74 [.int .i64 a1, .int .i64 b1] w K = C.calc_Mod a1 b1 w K).mpr h)

/-- afflux/affluxref01.Of -/
def C.affluxref01_Of (n1 : Int) (w : World) (K : Value → World → Prop) : Prop :=
  ∀ b1 wv1, New w (.cells #[.bool false, .slice none 0 0] T.affluxref01_Num) b1 wv1 →
  ifB (decide (n1 < (0 : Int))) (
    ∃ (Iv1 : Int → Option Addr → Nat → Nat → World → Prop) (m1 : Int → Option Addr → Nat → Nat → World → Nat),
    Iv1 (IntKind.u64.wrap (0 - (IntKind.u64.wrap n1))) none 0 0 wv1 ∧
    ∀ (u1 : Int) (d1p : Option Addr) (d1n d1c : Nat) wv2, Iv1 u1 d1p d1n d1c wv2 →
    ifB (decide ((0 : Int) < u1)) (
      (10 : Int) ≠ 0 ∧
      ∀ b2 wv3, New wv2 (.cells #[.int .i64 (IntKind.i64.wrap (Int.tmod u1 (10 : Int)))] T.int) b2 wv3 →
      BuiltV prog .append #[T.s_int, T.s_int] T.s_int #[.slice d1p d1n d1c, .slice (some (Addr.mk b2 0 none)) 1 1] wv3 (fun v1 wv4 =>
        ∃ (a1p : Option Addr) (a1n a1c : Nat),
        v1 = .slice a1p a1n a1c ∧
        (10 : Int) ≠ 0 ∧
        Iv1 (IntKind.u64.wrap (Int.tdiv u1 (10 : Int))) a1p a1n a1c wv4 ∧ m1 (IntKind.u64.wrap (Int.tdiv u1 (10 : Int))) a1p a1n a1c wv4 < m1 u1 d1p d1n d1c wv2)) (
      CallsV prog F.affluxref01_sign #[.bool (decide (n1 < (0 : Int))), .slice d1p d1n d1c] wv2 (fun v2 wv5 =>
        ∃ (rNeg1 : Bool) (rD1p : Option Addr) (rD1n rD1c : Nat),
        v2 = .agg #[.bool rNeg1, .slice rD1p rD1n rD1c] ∧
        CanSt wv5 ((Addr.mk b1 0 none).add 0) ∧ ∀ wv6, wv6 = wv5.setCell ((Addr.mk b1 0 none).add 0) (.bool rNeg1) →
        CanSt wv6 ((Addr.mk b1 0 none).add 1) ∧ ∀ wv7, wv7 = wv6.setCell ((Addr.mk b1 0 none).add 1) (.slice rD1p rD1n rD1c) →
        ∃ (xNeg1 : Bool) (xD1p : Option Addr) (xD1n xD1c : Nat),
        cellsAt wv7 (Addr.mk b1 0 none) 0 [.bool xNeg1, .slice xD1p xD1n xD1c] ∧
        K (.agg #[.bool xNeg1, .slice xD1p xD1n xD1c]) wv7))) (
    ∃ (Iv2 : Int → Option Addr → Nat → Nat → World → Prop) (m2 : Int → Option Addr → Nat → Nat → World → Nat),
    Iv2 (IntKind.u64.wrap n1) none 0 0 wv1 ∧
    ∀ (u2 : Int) (d2p : Option Addr) (d2n d2c : Nat) wv8, Iv2 u2 d2p d2n d2c wv8 →
    ifB (decide ((0 : Int) < u2)) (
      (10 : Int) ≠ 0 ∧
      ∀ b3 wv9, New wv8 (.cells #[.int .i64 (IntKind.i64.wrap (Int.tmod u2 (10 : Int)))] T.int) b3 wv9 →
      BuiltV prog .append #[T.s_int, T.s_int] T.s_int #[.slice d2p d2n d2c, .slice (some (Addr.mk b3 0 none)) 1 1] wv9 (fun v3 wv10 =>
        ∃ (a2p : Option Addr) (a2n a2c : Nat),
        v3 = .slice a2p a2n a2c ∧
        (10 : Int) ≠ 0 ∧
        Iv2 (IntKind.u64.wrap (Int.tdiv u2 (10 : Int))) a2p a2n a2c wv10 ∧ m2 (IntKind.u64.wrap (Int.tdiv u2 (10 : Int))) a2p a2n a2c wv10 < m2 u2 d2p d2n d2c wv8)) (
      CallsV prog F.affluxref01_sign #[.bool (decide (n1 < (0 : Int))), .slice d2p d2n d2c] wv8 (fun v4 wv11 =>
        ∃ (rNeg2 : Bool) (rD2p : Option Addr) (rD2n rD2c : Nat),
        v4 = .agg #[.bool rNeg2, .slice rD2p rD2n rD2c] ∧
        CanSt wv11 ((Addr.mk b1 0 none).add 0) ∧ ∀ wv12, wv12 = wv11.setCell ((Addr.mk b1 0 none).add 0) (.bool rNeg2) →
        CanSt wv12 ((Addr.mk b1 0 none).add 1) ∧ ∀ wv13, wv13 = wv12.setCell ((Addr.mk b1 0 none).add 1) (.slice rD2p rD2n rD2c) →
        ∃ (xNeg2 : Bool) (xD2p : Option Addr) (xD2n xD2c : Nat),
        cellsAt wv13 (Addr.mk b1 0 none) 0 [.bool xNeg2, .slice xD2p xD2n xD2c] ∧
        K (.agg #[.bool xNeg2, .slice xD2p xD2n xD2c]) wv13)))
def An.affluxref01_Of : Ann := ⟨[], [(5, [(3, 91), (4, 40)], [0, 2])], []⟩
theorem R.affluxref01_Of {n1 : Int} {w : World} {K : Value → World → Prop} (h : C.affluxref01_Of n1 w K) : CallsV prog F.affluxref01_Of #[.int .i64 n1] w K :=
  vcFn.calls (an := An.affluxref01_Of) mixed tabOK eqsOK Go.Proofs.Tryd.func75 (by kernel_rfl) (by kernel_rfl) (by kernel_rfl) ((by kernel_rfl : vcFn prog eqs tab An.affluxref01_Of Go.Proofs.Tryd.f75 [.int .i64 n1] w K = C.affluxref01_Of n1 w K).mpr h)

/-- afflux/affluxref01.Plus -/
def C.affluxref01_Plus (aNeg1 : Bool) (aD1p : Option Addr) (aD1n aD1c : Nat) (bNeg1 : Bool) (bD1p : Option Addr) (bD1n bD1c : Nat) (w : World) (K : Value → World → Prop) : Prop :=
  ∀ b1 wv1, New w (.cells #[.bool aNeg1, .slice aD1p aD1n aD1c] T.affluxref01_Num) b1 wv1 →
  ∀ b2 wv2, New wv1 (.cells #[.bool bNeg1, .slice bD1p bD1n bD1c] T.affluxref01_Num) b2 wv2 →
  ∀ b3 wv3, New wv2 (.cells #[.bool false, .slice none 0 0] T.affluxref01_Num) b3 wv3 →
  ∃ (Neg1 : Bool),
  wv3.cell? ((Addr.mk b1 0 none).add 0) = some (.bool Neg1) ∧
  ∃ (Neg2 : Bool),
  wv3.cell? ((Addr.mk b2 0 none).add 0) = some (.bool Neg2) ∧
  ifB (Neg1 == Neg2) (
    ∃ (Neg3 : Bool),
    wv3.drew.cell? ((Addr.mk b1 0 none).add 0) = some (.bool Neg3) ∧
    ∃ (D1p : Option Addr) (D1n D1c : Nat),
    wv3.drew.cell? ((Addr.mk b1 0 none).add 1) = some (.slice D1p D1n D1c) ∧
    ∃ (D2p : Option Addr) (D2n D2c : Nat),
    wv3.drew.cell? ((Addr.mk b2 0 none).add 1) = some (.slice D2p D2n D2c) ∧
    CallsV prog F.affluxref01_add #[.slice D1p D1n D1c, .slice D2p D2n D2c] wv3.drew (fun v1 wv4 =>
      ∃ (r1p : Option Addr) (r1n r1c : Nat),
      v1 = .slice r1p r1n r1c ∧
      wv4.cell? ((Addr.mk b1 0 none).add 0) = some (.bool Neg3) ∧
      CallsV prog F.affluxref01_sign #[.bool Neg3, .slice r1p r1n r1c] wv4 (fun v2 wv5 =>
        ∃ (rNeg1 : Bool) (rD1p : Option Addr) (rD1n rD1c : Nat),
        v2 = .agg #[.bool rNeg1, .slice rD1p rD1n rD1c] ∧
        CanSt wv5 ((Addr.mk b3 0 none).add 0) ∧ ∀ wv6, wv6 = wv5.setCell ((Addr.mk b3 0 none).add 0) (.bool rNeg1) →
        CanSt wv6 ((Addr.mk b3 0 none).add 1) ∧ ∀ wv7, wv7 = wv6.setCell ((Addr.mk b3 0 none).add 1) (.slice rD1p rD1n rD1c) →
        ∃ (xNeg1 : Bool) (xD1p : Option Addr) (xD1n xD1c : Nat),
        cellsAt wv7 (Addr.mk b3 0 none) 0 [.bool xNeg1, .slice xD1p xD1n xD1c] ∧
        K (.agg #[.bool xNeg1, .slice xD1p xD1n xD1c]) wv7))) (
    ∃ (D3p : Option Addr) (D3n D3c : Nat),
    wv3.cell? ((Addr.mk b1 0 none).add 1) = some (.slice D3p D3n D3c) ∧
    ∃ (D4p : Option Addr) (D4n D4c : Nat),
    wv3.cell? ((Addr.mk b2 0 none).add 1) = some (.slice D4p D4n D4c) ∧
    CallsV prog F.affluxref01_less #[.slice D3p D3n D3c, .slice D4p D4n D4c] wv3 (fun v3 wv8 =>
      ∃ (r2 : Bool),
      v3 = .bool r2 ∧
      ifB r2 (
        ∃ (Neg4 : Bool),
        wv8.drew.cell? ((Addr.mk b2 0 none).add 0) = some (.bool Neg4) ∧
        ∃ (D5p : Option Addr) (D5n D5c : Nat),
        wv8.drew.cell? ((Addr.mk b2 0 none).add 1) = some (.slice D5p D5n D5c) ∧
        ∃ (D6p : Option Addr) (D6n D6c : Nat),
        wv8.drew.cell? ((Addr.mk b1 0 none).add 1) = some (.slice D6p D6n D6c) ∧
        CallsV prog F.affluxref01_sub #[.slice D5p D5n D5c, .slice D6p D6n D6c] wv8.drew (fun v4 wv9 =>
          ∃ (r3p : Option Addr) (r3n r3c : Nat),
          v4 = .slice r3p r3n r3c ∧
          wv9.cell? ((Addr.mk b2 0 none).add 0) = some (.bool Neg4) ∧
          CallsV prog F.affluxref01_sign #[.bool Neg4, .slice r3p r3n r3c] wv9 (fun v5 wv10 =>
            ∃ (rNeg2 : Bool) (rD2p : Option Addr) (rD2n rD2c : Nat),
            v5 = .agg #[.bool rNeg2, .slice rD2p rD2n rD2c] ∧
            CanSt wv10 ((Addr.mk b3 0 none).add 0) ∧ ∀ wv11, wv11 = wv10.setCell ((Addr.mk b3 0 none).add 0) (.bool rNeg2) →
            CanSt wv11 ((Addr.mk b3 0 none).add 1) ∧ ∀ wv12, wv12 = wv11.setCell ((Addr.mk b3 0 none).add 1) (.slice rD2p rD2n rD2c) →
            ∃ (xNeg2 : Bool) (xD2p : Option Addr) (xD2n xD2c : Nat),
            cellsAt wv12 (Addr.mk b3 0 none) 0 [.bool xNeg2, .slice xD2p xD2n xD2c] ∧
            K (.agg #[.bool xNeg2, .slice xD2p xD2n xD2c]) wv12))) (
        ∃ (Neg5 : Bool),
        wv8.drew.cell? ((Addr.mk b1 0 none).add 0) = some (.bool Neg5) ∧
        ∃ (D7p : Option Addr) (D7n D7c : Nat),
        wv8.drew.cell? ((Addr.mk b1 0 none).add 1) = some (.slice D7p D7n D7c) ∧
        ∃ (D8p : Option Addr) (D8n D8c : Nat),
        wv8.drew.cell? ((Addr.mk b2 0 none).add 1) = some (.slice D8p D8n D8c) ∧
        CallsV prog F.affluxref01_sub #[.slice D7p D7n D7c, .slice D8p D8n D8c] wv8.drew (fun v6 wv13 =>
          ∃ (r4p : Option Addr) (r4n r4c : Nat),
          v6 = .slice r4p r4n r4c ∧
          wv13.cell? ((Addr.mk b1 0 none).add 0) = some (.bool Neg5) ∧
          CallsV prog F.affluxref01_sign #[.bool Neg5, .slice r4p r4n r4c] wv13 (fun v7 wv14 =>
            ∃ (rNeg3 : Bool) (rD3p : Option Addr) (rD3n rD3c : Nat),
            v7 = .agg #[.bool rNeg3, .slice rD3p rD3n rD3c] ∧
            CanSt wv14 ((Addr.mk b3 0 none).add 0) ∧ ∀ wv15, wv15 = wv14.setCell ((Addr.mk b3 0 none).add 0) (.bool rNeg3) →
            CanSt wv15 ((Addr.mk b3 0 none).add 1) ∧ ∀ wv16, wv16 = wv15.setCell ((Addr.mk b3 0 none).add 1) (.slice rD3p rD3n rD3c) →
            ∃ (xNeg3 : Bool) (xD3p : Option Addr) (xD3n xD3c : Nat),
            cellsAt wv16 (Addr.mk b3 0 none) 0 [.bool xNeg3, .slice xD3p xD3n xD3c] ∧
            K (.agg #[.bool xNeg3, .slice xD3p xD3n xD3c]) wv16)))))
def An.affluxref01_Plus : Ann := ⟨[(2, .sil 0 [] (.sil 1 [6] (.sil 2 [] (.sil 3 [] (.sil 4 [] (.sil 5 [] (.act 6 (.act 7 (.act 8 (.done)))))))))), (4, .sil 0 [] (.sil 1 [6] (.sil 2 [] (.sil 3 [] (.sil 4 [] (.sil 5 [] (.act 6 (.act 7 (.act 8 (.done)))))))))), (5, .sil 0 [] (.sil 1 [6] (.sil 2 [] (.sil 3 [] (.sil 4 [] (.sil 5 [] (.act 6 (.act 7 (.act 8 (.done))))))))))], [], []⟩
theorem R.affluxref01_Plus {aNeg1 : Bool} {aD1p : Option Addr} {aD1n aD1c : Nat} {bNeg1 : Bool} {bD1p : Option Addr} {bD1n bD1c : Nat} {w : World} {K : Value → World → Prop} (h : C.affluxref01_Plus aNeg1 aD1p aD1n aD1c bNeg1 bD1p bD1n bD1c w K) : CallsV prog F.affluxref01_Plus #[.agg #[.bool aNeg1, .slice aD1p aD1n aD1c], .agg #[.bool bNeg1, .slice bD1p bD1n bD1c]] w K :=
  vcFn.calls (an := An.affluxref01_Plus) mixed tabOK eqsOK Go.Proofs.Tryd.func76 (by kernel_rfl) (by kernel_rfl) (by kernel_rfl) ((by kernel_rfl : vcFn prog eqs tab An.affluxref01_Plus Go.Proofs.Tryd.f76 [.agg #[.bool aNeg1, .slice aD1p aD1n aD1c], .agg #[.bool bNeg1, .slice bD1p bD1n bD1c]] w K = C.affluxref01_Plus aNeg1 aD1p aD1n aD1c bNeg1 bD1p bD1n bD1c w K).mpr h)

/-- afflux/affluxref01.Print -/
def C.affluxref01_Print (n1 : Int) (w : World) (K : Value → World → Prop) : Prop :=
  CallsV prog F.affluxref01_Of #[.int .i64 n1] w (fun v1 wv1 =>
    ∃ (rNeg1 : Bool) (rD1p : Option Addr) (rD1n rD1c : Nat),
    v1 = .agg #[.bool rNeg1, .slice rD1p rD1n rD1c] ∧
    ∀ b1 wv2, New wv1 (.cells #[.bool false, .slice none 0 0] T.affluxref01_Num) b1 wv2 →
    CanSt wv2 ((Addr.mk b1 0 none).add 0) ∧ ∀ wv3, wv3 = wv2.setCell ((Addr.mk b1 0 none).add 0) (.bool rNeg1) →
    CanSt wv3 ((Addr.mk b1 0 none).add 1) ∧ ∀ wv4, wv4 = wv3.setCell ((Addr.mk b1 0 none).add 1) (.slice rD1p rD1n rD1c) →
    ∃ (D1p : Option Addr) (D1n D1c : Nat),
    wv4.cell? ((Addr.mk b1 0 none).add 1) = some (.slice D1p D1n D1c) ∧
    ifB (((D1n : Nat) : Int) == (0 : Int)) (
      K (.string (bs [48])) wv4) (
      ∃ (Iv1 : ByteArray → Int → World → Prop) (m1 : ByteArray → Int → World → Nat),
      Iv1 (bs []) 0 wv4 ∧
      ∀ (s1 : ByteArray) (i1 : Int) wv5, Iv1 s1 i1 wv5 →
      ∃ (D2p : Option Addr) (D2n D2c : Nat),
      wv5.cell? ((Addr.mk b1 0 none).add 1) = some (.slice D2p D2n D2c) ∧
      ifB (decide (i1 < ((D2n : Nat) : Int))) (
        ∃ (D3p : Option Addr) (D3n D3c : Nat),
        wv5.cell? ((Addr.mk b1 0 none).add 1) = some (.slice D3p D3n D3c) ∧
        ∃ a1, D3p = some a1 ∧ 0 ≤ i1 ∧ i1 < ((D3n : Nat) : Int) ∧
        ∃ (e1 : Int),
        wv5.cell? (a1.add (i1.toNat * 1)) = some (.int .i64 e1) ∧
        ∀ b2 wv6, New wv5 (.cells #[.int .u8 (IntKind.u8.wrap (IntKind.i64.wrap ((48 : Int) + e1)))] T.uint8) b2 wv6 →
        ConvV prog T.s_uint8 T.string (.slice (some (Addr.mk b2 0 none)) 1 1) wv6 (fun v2 wv7 =>
          ∃ (c1 : ByteArray),
          v2 = .string c1 ∧
          c1.size + s1.size ≤ 9223372036854775807 ∧
          Iv1 (c1 ++ s1) (IntKind.i64.wrap (i1 + (1 : Int))) wv7 ∧ m1 (c1 ++ s1) (IntKind.i64.wrap (i1 + (1 : Int))) wv7 < m1 s1 i1 wv5)) (
        ∃ (Neg1 : Bool),
        wv5.cell? ((Addr.mk b1 0 none).add 0) = some (.bool Neg1) ∧
        ifB Neg1 (
          (bs [45]).size + s1.size ≤ 9223372036854775807 ∧
          K (.string ((bs [45]) ++ s1)) wv5) (
          K (.string s1) wv5))))
def An.affluxref01_Print : Ann := ⟨[], [(6, [(4, 9), (5, 3)], [3])], []⟩
theorem R.affluxref01_Print {n1 : Int} {w : World} {K : Value → World → Prop} (h : C.affluxref01_Print n1 w K) : CallsV prog F.affluxref01_Print #[.int .i64 n1] w K :=
  vcFn.calls (an := An.affluxref01_Print) mixed tabOK eqsOK Go.Proofs.Tryd.func77 (by kernel_rfl) (by kernel_rfl) (by kernel_rfl) ((by kernel_rfl : vcFn prog eqs tab An.affluxref01_Print Go.Proofs.Tryd.f77 [.int .i64 n1] w K = C.affluxref01_Print n1 w K).mpr h)

/-- afflux/affluxref01.Parse -/
def C.affluxref01_Parse (s1 : ByteArray) (w : World) (K : Value → World → Prop) : Prop :=
  ∀ b1 wv1, New w (.cells #[.bool false, .slice none 0 0] T.affluxref01_Num) b1 wv1 →
  CanSt wv1 ((Addr.mk b1 0 none).add 0) ∧ ∀ wv2, wv2 = wv1.setCell ((Addr.mk b1 0 none).add 0) (.bool false) →
  CanSt wv2 ((Addr.mk b1 0 none).add 1) ∧ ∀ wv3, wv3 = wv2.setCell ((Addr.mk b1 0 none).add 1) (.slice none 0 0) →
  ∃ Jv1 : Int → World → Prop,
  (ifB (decide ((0 : Int) < ((s1.size : Nat) : Int))) (
    0 ≤ (0 : Int) ∧ (0 : Int) < ((s1.size : Nat) : Int) ∧
    ifB ((bt s1 (0 : Int)) == (45 : Int)) (
      Jv1 1 wv3) (
      Jv1 0 wv3)) (
    Jv1 0 wv3)) ∧
  (∀ (fromv1 : Int) wv4, Jv1 fromv1 wv4 →
  ∃ (Iv1 : Int → World → Prop) (m1 : Int → World → Nat),
  Iv1 (IntKind.i64.wrap (((s1.size : Nat) : Int) - (1 : Int))) wv4 ∧
  ∀ (i1 : Int) wv5, Iv1 i1 wv5 →
  ifB (decide (fromv1 ≤ i1)) (
    0 ≤ i1 ∧ i1 < ((s1.size : Nat) : Int) ∧
    ifB (decide ((bt s1 i1) < (48 : Int))) (
      K (.tuple #[.int .i64 0, .int .i64 12]) wv5) (
      0 ≤ i1 ∧ i1 < ((s1.size : Nat) : Int) ∧
      ifB (decide ((57 : Int) < (bt s1 i1))) (
        K (.tuple #[.int .i64 0, .int .i64 12]) wv5) (
        ∃ (D1p : Option Addr) (D1n D1c : Nat),
        wv5.drew.cell? ((Addr.mk b1 0 none).add 1) = some (.slice D1p D1n D1c) ∧
        0 ≤ i1 ∧ i1 < ((s1.size : Nat) : Int) ∧
        ∀ b2 wv6, New wv5.drew (.cells #[.int .i64 (IntKind.i64.wrap (IntKind.u8.wrap ((bt s1 i1) - (48 : Int))))] T.int) b2 wv6 →
        wv6.cell? ((Addr.mk b1 0 none).add 1) = some (.slice D1p D1n D1c) ∧
        BuiltV prog .append #[T.s_int, T.s_int] T.s_int #[.slice D1p D1n D1c, .slice (some (Addr.mk b2 0 none)) 1 1] wv6 (fun v1 wv7 =>
          ∃ (a1p : Option Addr) (a1n a1c : Nat),
          v1 = .slice a1p a1n a1c ∧
          CanSt wv7 ((Addr.mk b1 0 none).add 1) ∧ ∀ wv8, wv8 = wv7.setCell ((Addr.mk b1 0 none).add 1) (.slice a1p a1n a1c) →
          Iv1 (IntKind.i64.wrap (i1 - (1 : Int))) wv8 ∧ m1 (IntKind.i64.wrap (i1 - (1 : Int))) wv8 < m1 i1 wv5)))) (
    ∃ Jv2 : World → Prop,
    (ifB (((s1.size : Nat) : Int) == fromv1) (
      K (.tuple #[.int .i64 0, .int .i64 12]) wv5) (
      0 ≤ fromv1 ∧ fromv1 < ((s1.size : Nat) : Int) ∧
      ifB ((bt s1 fromv1) == (48 : Int)) (
        ifB (decide ((1 : Int) < ((s1.size : Nat) : Int))) (
          K (.tuple #[.int .i64 0, .int .i64 12]) wv5) (
          Jv2 wv5)) (
        Jv2 wv5))) ∧
    (∀ wv9, Jv2 wv9 →
    ∃ (D2p : Option Addr) (D2n D2c : Nat),
    wv9.cell? ((Addr.mk b1 0 none).add 1) = some (.slice D2p D2n D2c) ∧
    CallsV prog F.affluxref01_sign #[.bool (fromv1 == (1 : Int)), .slice D2p D2n D2c] wv9 (fun v2 wv10 =>
      ∃ (rNeg1 : Bool) (rD1p : Option Addr) (rD1n rD1c : Nat),
      v2 = .agg #[.bool rNeg1, .slice rD1p rD1n rD1c] ∧
      CallsV prog F.affluxref01_Small #[.agg #[.bool rNeg1, .slice rD1p rD1n rD1c]] wv10 (fun v3 wv11 =>
        ∃ (ra1 : Int) (rb1 : Bool),
        v3 = .tuple #[.int .i64 ra1, .bool rb1] ∧
        ifB (!rb1) (
          K (.tuple #[.int .i64 0, .int .i64 2]) wv11) (
          K (.tuple #[.int .i64 ra1, .int .i64 0]) wv11))))))
def An.affluxref01_Parse : Ann := ⟨[(10, .sil 0 [] (.sil 1 [7] (.sil 2 [] (.sil 3 [] (.sil 4 [] (.sil 5 [] (.sil 6 [] (.act 7 (.act 8 (.sil 9 [] (.act 10 (.done))))))))))))], [(6, [(6, 3)], [0, 4, 5])], [(5, [(5, 3)], [0, 4]), (13, [], [0, 4, 5])]⟩
theorem R.affluxref01_Parse {s1 : ByteArray} {w : World} {K : Value → World → Prop} (h : C.affluxref01_Parse s1 w K) : CallsV prog F.affluxref01_Parse #[.string s1] w K :=
  vcFn.calls (an := An.affluxref01_Parse) mixed tabOK eqsOK Go.Proofs.Tryd.func78 (by kernel_rfl) (by kernel_rfl) (by kernel_rfl) ((by kernel_rfl : vcFn prog eqs tab An.affluxref01_Parse Go.Proofs.Tryd.f78 [.string s1] w K = C.affluxref01_Parse s1 w K).mpr h)

/-- strings.Join -/
def C.strings_Join (elems1p : Option Addr) (elems1n elems1c : Nat) (sep1 : ByteArray) (w : World) (K : Value → World → Prop) : Prop :=
  ifB (((elems1n : Nat) : Int) == (0 : Int)) (
    K (.string (bs [])) w) (
    ifB (((elems1n : Nat) : Int) == (1 : Int)) (
      ∃ a1, elems1p = some a1 ∧ 0 ≤ (0 : Int) ∧ (0 : Int) < ((elems1n : Nat) : Int) ∧
      ∃ (e1 : ByteArray),
      w.cell? (a1.add ((0 : Int).toNat * 1)) = some (.string e1) ∧
      K (.string e1) w) (
      ∃ Jv1 : Int → World → Prop,
      (ifB (decide ((0 : Int) < ((sep1.size : Nat) : Int))) (
        (IntKind.i64.wrap (((elems1n : Nat) : Int) - (1 : Int))) ≠ 0 ∧
        ifB (decide ((IntKind.i64.wrap (Int.tdiv (9223372036854775807 : Int) (IntKind.i64.wrap (((elems1n : Nat) : Int) - (1 : Int))))) ≤ ((sep1.size : Nat) : Int))) (
          False) (
          Jv1 (IntKind.i64.wrap ((0 : Int) + (IntKind.i64.wrap (((sep1.size : Nat) : Int) * (IntKind.i64.wrap (((elems1n : Nat) : Int) - (1 : Int))))))) w)) (
        Jv1 0 w)) ∧
      (∀ (n1 : Int) wv1, Jv1 n1 wv1 →
      ∃ (Iv1 : Int → Int → World → Prop) (m1 : Int → Int → World → Nat),
      Iv1 n1 0 wv1 ∧
      ∀ (n2 : Int) (s411 : Int) wv2, Iv1 n2 s411 wv2 →
      ifB (decide (s411 < ((elems1n : Nat) : Int))) (
        ∃ a2, elems1p = some a2 ∧ 0 ≤ s411 ∧ s411 < ((elems1n : Nat) : Int) ∧
        ∃ (e2 : ByteArray),
        wv2.cell? (a2.add (s411.toNat * 1)) = some (.string e2) ∧
        ifB (decide ((IntKind.i64.wrap ((9223372036854775807 : Int) - n2)) < ((e2.size : Nat) : Int))) (
          False) (
          Iv1 (IntKind.i64.wrap (n2 + ((e2.size : Nat) : Int))) (IntKind.i64.wrap (s411 + (1 : Int))) wv2 ∧ m1 (IntKind.i64.wrap (n2 + ((e2.size : Nat) : Int))) (IntKind.i64.wrap (s411 + (1 : Int))) wv2 < m1 n2 s411 wv2)) (
        ∀ b1 wv3, New wv2 (.cells #[.pointer none, .slice none 0 0] T.strings_Builder) b1 wv3 →
        CallsV prog F.strings_Builder_Grow #[.pointer (some (Addr.mk b1 0 none)), .int .i64 n2] wv3 (fun v1 wv4 =>
          v1 = .tuple #[] ∧
          ∃ a3, elems1p = some a3 ∧ 0 ≤ (0 : Int) ∧ (0 : Int) < ((elems1n : Nat) : Int) ∧
          ∃ (e3 : ByteArray),
          wv4.cell? (a3.add ((0 : Int).toNat * 1)) = some (.string e3) ∧
          CallsV prog F.strings_Builder_WriteString #[.pointer (some (Addr.mk b1 0 none)), .string e3] wv4 (fun v2 wv5 =>
            ∃ (ra1 : Int) (rb1 : Value),
            v2 = .tuple #[.int .i64 ra1, rb1] ∧
            0 ≤ (1 : Int) ∧ (1 : Int) ≤ ((elems1n : Nat) : Int) ∧
            ∃ (Iv2 : Int → World → Prop) (m2 : Int → World → Nat),
            Iv2 0 wv5 ∧
            ∀ (s651 : Int) wv6, Iv2 s651 wv6 →
            ifB (decide (s651 < ((elems1n - ((1 : Int).toNat) : Nat) : Int))) (
              ∃ a4, cutAt elems1p ((1 : Int).toNat) elems1c 1 = some a4 ∧ 0 ≤ s651 ∧ s651 < ((elems1n - ((1 : Int).toNat) : Nat) : Int) ∧
              ∃ (e4 : ByteArray),
              wv6.cell? (a4.add (s651.toNat * 1)) = some (.string e4) ∧
              CallsV prog F.strings_Builder_WriteString #[.pointer (some (Addr.mk b1 0 none)), .string sep1] wv6 (fun v3 wv7 =>
                ∃ (ra2 : Int) (rb2 : Value),
                v3 = .tuple #[.int .i64 ra2, rb2] ∧
                CallsV prog F.strings_Builder_WriteString #[.pointer (some (Addr.mk b1 0 none)), .string e4] wv7 (fun v4 wv8 =>
                  ∃ (ra3 : Int) (rb3 : Value),
                  v4 = .tuple #[.int .i64 ra3, rb3] ∧
                  Iv2 (IntKind.i64.wrap (s651 + (1 : Int))) wv8 ∧ m2 (IntKind.i64.wrap (s651 + (1 : Int))) wv8 < m2 s651 wv6))) (
              CallsV prog F.strings_Builder_String #[.pointer (some (Addr.mk b1 0 none))] wv6 (fun v5 wv9 =>
                ∃ (r1 : ByteArray),
                v5 = .string r1 ∧
                K (.string r1) wv9))))))))
def An.strings_Join : Ann := ⟨[], [(12, [(5, 3), (41, 3)], [0, 1, 39, 40]), (22, [(65, 3)], [1, 8, 63, 64])], [(11, [(5, 3)], [0, 1])]⟩
theorem R.strings_Join {elems1p : Option Addr} {elems1n elems1c : Nat} {sep1 : ByteArray} {w : World} {K : Value → World → Prop} (h : C.strings_Join elems1p elems1n elems1c sep1 w K) : CallsV prog F.strings_Join #[.slice elems1p elems1n elems1c, .string sep1] w K :=
  vcFn.calls (an := An.strings_Join) mixed tabOK eqsOK Go.Proofs.Tryd.func79 (by kernel_rfl) (by kernel_rfl) (by kernel_rfl) ((by kernel_rfl : vcFn prog eqs tab An.strings_Join Go.Proofs.Tryd.f79 [.slice elems1p elems1n elems1c, .string sep1] w K = C.strings_Join elems1p elems1n elems1c sep1 w K).mpr h)

/-- slices.Clone[[]afflux/api.Column,afflux/api.Column] -/
def C.slices_Clone_api_Column_api_Column (s1p : Option Addr) (s1n s1c : Nat) (w : World) (K : Value → World → Prop) : Prop :=
  ifB s1p.isNone (
    K (.slice none 0 0) w) (
    ∀ b1 wv1, New w (.cells #[] T.api_Column) b1 wv1 →
    BuiltV prog .append #[T.s_api_Column, T.s_api_Column] T.s_api_Column #[.slice (some (Addr.mk b1 0 none)) 0 0, .slice s1p s1n s1c] wv1 (fun v1 wv2 =>
      ∃ (a1p : Option Addr) (a1n a1c : Nat),
      v1 = .slice a1p a1n a1c ∧
      K (.slice a1p a1n a1c) wv2))
def An.slices_Clone_api_Column_api_Column : Ann := ⟨[], [], []⟩
theorem R.slices_Clone_api_Column_api_Column {s1p : Option Addr} {s1n s1c : Nat} {w : World} {K : Value → World → Prop} (h : C.slices_Clone_api_Column_api_Column s1p s1n s1c w K) : CallsV prog F.slices_Clone_api_Column_api_Column #[.slice s1p s1n s1c] w K :=
  vcFn.calls (an := An.slices_Clone_api_Column_api_Column) mixed tabOK eqsOK Go.Proofs.Tryd.func80 (by kernel_rfl) (by kernel_rfl) (by kernel_rfl) ((by kernel_rfl : vcFn prog eqs tab An.slices_Clone_api_Column_api_Column Go.Proofs.Tryd.f80 [.slice s1p s1n s1c] w K = C.slices_Clone_api_Column_api_Column s1p s1n s1c w K).mpr h)

/-- slices.Clone[[]afflux/api.Index,afflux/api.Index] -/
def C.slices_Clone_api_Index_api_Index (s1p : Option Addr) (s1n s1c : Nat) (w : World) (K : Value → World → Prop) : Prop :=
  ifB s1p.isNone (
    K (.slice none 0 0) w) (
    ∀ b1 wv1, New w (.cells #[] T.api_Index) b1 wv1 →
    BuiltV prog .append #[T.s_api_Index, T.s_api_Index] T.s_api_Index #[.slice (some (Addr.mk b1 0 none)) 0 0, .slice s1p s1n s1c] wv1 (fun v1 wv2 =>
      ∃ (a1p : Option Addr) (a1n a1c : Nat),
      v1 = .slice a1p a1n a1c ∧
      K (.slice a1p a1n a1c) wv2))
def An.slices_Clone_api_Index_api_Index : Ann := ⟨[], [], []⟩
theorem R.slices_Clone_api_Index_api_Index {s1p : Option Addr} {s1n s1c : Nat} {w : World} {K : Value → World → Prop} (h : C.slices_Clone_api_Index_api_Index s1p s1n s1c w K) : CallsV prog F.slices_Clone_api_Index_api_Index #[.slice s1p s1n s1c] w K :=
  vcFn.calls (an := An.slices_Clone_api_Index_api_Index) mixed tabOK eqsOK Go.Proofs.Tryd.func81 (by kernel_rfl) (by kernel_rfl) (by kernel_rfl) ((by kernel_rfl : vcFn prog eqs tab An.slices_Clone_api_Index_api_Index Go.Proofs.Tryd.f81 [.slice s1p s1n s1c] w K = C.slices_Clone_api_Index_api_Index s1p s1n s1c w K).mpr h)

/-- slices.Clone[[]int,int] -/
def C.slices_Clone_int_int (s1p : Option Addr) (s1n s1c : Nat) (w : World) (K : Value → World → Prop) : Prop :=
  ifB s1p.isNone (
    K (.slice none 0 0) w) (
    ∀ b1 wv1, New w (.cells #[] T.int) b1 wv1 →
    BuiltV prog .append #[T.s_int, T.s_int] T.s_int #[.slice (some (Addr.mk b1 0 none)) 0 0, .slice s1p s1n s1c] wv1 (fun v1 wv2 =>
      ∃ (a1p : Option Addr) (a1n a1c : Nat),
      v1 = .slice a1p a1n a1c ∧
      K (.slice a1p a1n a1c) wv2))
def An.slices_Clone_int_int : Ann := ⟨[], [], []⟩
theorem R.slices_Clone_int_int {s1p : Option Addr} {s1n s1c : Nat} {w : World} {K : Value → World → Prop} (h : C.slices_Clone_int_int s1p s1n s1c w K) : CallsV prog F.slices_Clone_int_int #[.slice s1p s1n s1c] w K :=
  vcFn.calls (an := An.slices_Clone_int_int) mixed tabOK eqsOK Go.Proofs.Tryd.func82 (by kernel_rfl) (by kernel_rfl) (by kernel_rfl) ((by kernel_rfl : vcFn prog eqs tab An.slices_Clone_int_int Go.Proofs.Tryd.f82 [.slice s1p s1n s1c] w K = C.slices_Clone_int_int s1p s1n s1c w K).mpr h)

/-- afflux/affluxref03.same -/
def C.affluxref03_same (a1p : Option Addr) (a1n a1c : Nat) (b1p : Option Addr) (b1n b1c : Nat) (w : World) (K : Value → World → Prop) : Prop :=
  ifB (((a1n : Nat) : Int) != ((b1n : Nat) : Int)) (
    K (.bool false) w) (
    ∃ (Iv1 : Int → World → Prop) (m1 : Int → World → Nat),
    Iv1 0 w ∧
    ∀ (i1 : Int) wv1, Iv1 i1 wv1 →
    ifB (decide (i1 < ((a1n : Nat) : Int))) (
      ∃ a2, a1p = some a2 ∧ 0 ≤ i1 ∧ i1 < ((a1n : Nat) : Int) ∧
      ∃ (e1 : Int),
      wv1.drew.cell? (a2.add (i1.toNat * 1)) = some (.int .i64 e1) ∧
      ∃ a3, b1p = some a3 ∧ 0 ≤ i1 ∧ i1 < ((b1n : Nat) : Int) ∧
      ∃ (e2 : Int),
      wv1.drew.cell? (a3.add (i1.toNat * 1)) = some (.int .i64 e2) ∧
      ifB (e1 != e2) (
        K (.bool false) wv1.drew) (
        Iv1 (IntKind.i64.wrap (i1 + (1 : Int))) wv1.drew ∧ m1 (IntKind.i64.wrap (i1 + (1 : Int))) wv1.drew < m1 i1 wv1)) (
      K (.bool true) wv1))
def An.affluxref03_same : Ann := ⟨[(6, .sil 0 [] (.sil 1 [] (.sil 2 [] (.sil 3 [] (.sil 4 [] (.sil 5 [] (.sil 6 [] (.sil 7 [] (.sil 8 [] (.done))))))))))], [(4, [(5, 3)], [0, 1])], []⟩
theorem R.affluxref03_same {a1p : Option Addr} {a1n a1c : Nat} {b1p : Option Addr} {b1n b1c : Nat} {w : World} {K : Value → World → Prop} (h : C.affluxref03_same a1p a1n a1c b1p b1n b1c w K) : CallsV prog F.affluxref03_same #[.slice a1p a1n a1c, .slice b1p b1n b1c] w K :=
  vcFn.calls (an := An.affluxref03_same) mixed tabOK eqsOK Go.Proofs.Tryd.func83 (by kernel_rfl) (by kernel_rfl) (by kernel_rfl) ((by kernel_rfl : vcFn prog eqs tab An.affluxref03_same Go.Proofs.Tryd.f83 [.slice a1p a1n a1c, .slice b1p b1n b1c] w K = C.affluxref03_same a1p a1n a1c b1p b1n b1c w K).mpr h)

/-- afflux/schema.Same$1 -/
def C.schema_Same_1 (xCols1p : Option Addr) (xCols1n xCols1c : Nat) (xUnique1 : Bool) (yCols1p : Option Addr) (yCols1n yCols1c : Nat) (yUnique1 : Bool) (w : World) (K : Value → World → Prop) : Prop :=
  ∀ b1 wv1, New w (.cells #[.slice xCols1p xCols1n xCols1c, .bool xUnique1] T.api_Index) b1 wv1 →
  ∀ b2 wv2, New wv1 (.cells #[.slice yCols1p yCols1n yCols1c, .bool yUnique1] T.api_Index) b2 wv2 →
  ∃ (Unique1 : Bool),
  wv2.cell? ((Addr.mk b1 0 none).add 1) = some (.bool Unique1) ∧
  ∃ (Unique2 : Bool),
  wv2.cell? ((Addr.mk b2 0 none).add 1) = some (.bool Unique2) ∧
  ifB (Unique1 == Unique2) (
    ∃ (Cols1p : Option Addr) (Cols1n Cols1c : Nat),
    wv2.cell? ((Addr.mk b1 0 none).add 0) = some (.slice Cols1p Cols1n Cols1c) ∧
    ∃ (Cols2p : Option Addr) (Cols2n Cols2c : Nat),
    wv2.cell? ((Addr.mk b2 0 none).add 0) = some (.slice Cols2p Cols2n Cols2c) ∧
    CallsV prog F.slices_Equal_int_int #[.slice Cols1p Cols1n Cols1c, .slice Cols2p Cols2n Cols2c] wv2 (fun v1 wv3 =>
      ∃ (r1 : Bool),
      v1 = .bool r1 ∧
      K (.bool r1) wv3)) (
    K (.bool false) wv2)
def An.schema_Same_1 : Ann := ⟨[], [], []⟩
theorem R.schema_Same_1 {xCols1p : Option Addr} {xCols1n xCols1c : Nat} {xUnique1 : Bool} {yCols1p : Option Addr} {yCols1n yCols1c : Nat} {yUnique1 : Bool} {w : World} {K : Value → World → Prop} (h : C.schema_Same_1 xCols1p xCols1n xCols1c xUnique1 yCols1p yCols1n yCols1c yUnique1 w K) : CallsV prog F.schema_Same_1 #[.agg #[.slice xCols1p xCols1n xCols1c, .bool xUnique1], .agg #[.slice yCols1p yCols1n yCols1c, .bool yUnique1]] w K :=
  vcFn.calls (an := An.schema_Same_1) mixed tabOK eqsOK Go.Proofs.Tryd.func84 (by kernel_rfl) (by kernel_rfl) (by kernel_rfl) ((by kernel_rfl : vcFn prog eqs tab An.schema_Same_1 Go.Proofs.Tryd.f84 [.agg #[.slice xCols1p xCols1n xCols1c, .bool xUnique1], .agg #[.slice yCols1p yCols1n yCols1c, .bool yUnique1]] w K = C.schema_Same_1 xCols1p xCols1n xCols1c xUnique1 yCols1p yCols1n yCols1c yUnique1 w K).mpr h)

/-- slices.Equal[[]int,int] -/
def C.slices_Equal_int_int (s11p : Option Addr) (s11n s11c : Nat) (s21p : Option Addr) (s21n s21c : Nat) (w : World) (K : Value → World → Prop) : Prop :=
  ifB (((s11n : Nat) : Int) != ((s21n : Nat) : Int)) (
    K (.bool false) w) (
    ∃ (Iv1 : Int → World → Prop) (m1 : Int → World → Nat),
    Iv1 0 w ∧
    ∀ (s131 : Int) wv1, Iv1 s131 wv1 →
    ifB (decide (s131 < ((s11n : Nat) : Int))) (
      ∃ a1, s11p = some a1 ∧ 0 ≤ s131 ∧ s131 < ((s11n : Nat) : Int) ∧
      ∃ (e1 : Int),
      wv1.drew.cell? (a1.add (s131.toNat * 1)) = some (.int .i64 e1) ∧
      ∃ a2, s21p = some a2 ∧ 0 ≤ s131 ∧ s131 < ((s21n : Nat) : Int) ∧
      ∃ (e2 : Int),
      wv1.drew.cell? (a2.add (s131.toNat * 1)) = some (.int .i64 e2) ∧
      ifB (e1 != e2) (
        K (.bool false) wv1.drew) (
        Iv1 (IntKind.i64.wrap (s131 + (1 : Int))) wv1.drew ∧ m1 (IntKind.i64.wrap (s131 + (1 : Int))) wv1.drew < m1 s131 wv1)) (
      K (.bool true) wv1))
def An.slices_Equal_int_int : Ann := ⟨[(6, .sil 0 [] (.sil 1 [] (.sil 2 [] (.sil 3 [] (.sil 4 [] (.sil 5 [] (.sil 6 [] (.sil 7 [] (.sil 8 [] (.done))))))))))], [(4, [(13, 3)], [0, 1, 12])], []⟩
theorem R.slices_Equal_int_int {s11p : Option Addr} {s11n s11c : Nat} {s21p : Option Addr} {s21n s21c : Nat} {w : World} {K : Value → World → Prop} (h : C.slices_Equal_int_int s11p s11n s11c s21p s21n s21c w K) : CallsV prog F.slices_Equal_int_int #[.slice s11p s11n s11c, .slice s21p s21n s21c] w K :=
  vcFn.calls (an := An.slices_Equal_int_int) mixed tabOK eqsOK Go.Proofs.Tryd.func85 (by kernel_rfl) (by kernel_rfl) (by kernel_rfl) ((by kernel_rfl : vcFn prog eqs tab An.slices_Equal_int_int Go.Proofs.Tryd.f85 [.slice s11p s11n s11c, .slice s21p s21n s21c] w K = C.slices_Equal_int_int s11p s11n s11c s21p s21n s21c w K).mpr h)

/-- slices.Equal[[]afflux/api.Column,afflux/api.Column] -/
def C.slices_Equal_api_Column_api_Column (s11p : Option Addr) (s11n s11c : Nat) (s21p : Option Addr) (s21n s21c : Nat) (w : World) (K : Value → World → Prop) : Prop :=
  ifB (((s11n : Nat) : Int) != ((s21n : Nat) : Int)) (
    K (.bool false) w) (
    ∃ (Iv1 : Int → World → Prop) (m1 : Int → World → Nat),
    Iv1 0 w ∧
    ∀ (s131 : Int) wv1, Iv1 s131 wv1 →
    ifB (decide (s131 < ((s11n : Nat) : Int))) (
      ∃ a1, s11p = some a1 ∧ 0 ≤ s131 ∧ s131 < ((s11n : Nat) : Int) ∧
      ∃ (eName1 : ByteArray) (eKind1 : Int),
      cellsAt wv1.drew (a1.add (s131.toNat * 2)) 0 [.string eName1, .int .i64 eKind1] ∧
      ∃ a2, s21p = some a2 ∧ 0 ≤ s131 ∧ s131 < ((s21n : Nat) : Int) ∧
      ∃ (eName2 : ByteArray) (eKind2 : Int),
      cellsAt wv1.drew (a2.add (s131.toNat * 2)) 0 [.string eName2, .int .i64 eKind2] ∧
      ifB (!(sEq eName1 eName2 && ((eKind1 == eKind2) && true))) (
        K (.bool false) wv1.drew) (
        Iv1 (IntKind.i64.wrap (s131 + (1 : Int))) wv1.drew ∧ m1 (IntKind.i64.wrap (s131 + (1 : Int))) wv1.drew < m1 s131 wv1)) (
      K (.bool true) wv1))
def An.slices_Equal_api_Column_api_Column : Ann := ⟨[(6, .sil 0 [] (.sil 1 [] (.sil 2 [] (.sil 3 [] (.sil 4 [] (.sil 5 [] (.sil 6 [] (.sil 7 [] (.sil 8 [] (.done))))))))))], [(4, [(13, 3)], [0, 1, 12])], []⟩
theorem R.slices_Equal_api_Column_api_Column {s11p : Option Addr} {s11n s11c : Nat} {s21p : Option Addr} {s21n s21c : Nat} {w : World} {K : Value → World → Prop} (h : C.slices_Equal_api_Column_api_Column s11p s11n s11c s21p s21n s21c w K) : CallsV prog F.slices_Equal_api_Column_api_Column #[.slice s11p s11n s11c, .slice s21p s21n s21c] w K :=
  vcFn.calls (an := An.slices_Equal_api_Column_api_Column) mixed tabOK eqsOK Go.Proofs.Tryd.func86 (by kernel_rfl) (by kernel_rfl) (by kernel_rfl) ((by kernel_rfl : vcFn prog eqs tab An.slices_Equal_api_Column_api_Column Go.Proofs.Tryd.f86 [.slice s11p s11n s11c, .slice s21p s21n s21c] w K = C.slices_Equal_api_Column_api_Column s11p s11n s11c s21p s21n s21c w K).mpr h)

/-- slices.EqualFunc[[]afflux/api.Index,[]afflux/api.Index,afflux/api.Index,afflux/api.Index] -/
def C.slices_EqualFunc_api_Index_api_Index_api_Index_api_Index (s11p : Option Addr) (s11n s11c : Nat) (s21p : Option Addr) (s21n s21c : Nat) (eq1f : Nat) (eq1c : Array Value) (w : World) (K : Value → World → Prop) : Prop :=
  ifB (((s11n : Nat) : Int) != ((s21n : Nat) : Int)) (
    K (.bool false) w) (
    ∃ (Iv1 : Int → World → Prop) (m1 : Int → World → Nat),
    Iv1 0 w ∧
    ∀ (s171 : Int) wv1, Iv1 s171 wv1 →
    ifB (decide (s171 < ((s11n : Nat) : Int))) (
      ∃ a1, s11p = some a1 ∧ 0 ≤ s171 ∧ s171 < ((s11n : Nat) : Int) ∧
      ∃ (eCols1p : Option Addr) (eCols1n eCols1c : Nat) (eUnique1 : Bool),
      cellsAt wv1 (a1.add (s171.toNat * 2)) 0 [.slice eCols1p eCols1n eCols1c, .bool eUnique1] ∧
      ∀ b1 wv2, New wv1 (.cells #[.slice none 0 0, .bool false] T.api_Index) b1 wv2 →
      CanSt wv2 ((Addr.mk b1 0 none).add 0) ∧ ∀ wv3, wv3 = wv2.setCell ((Addr.mk b1 0 none).add 0) (.slice eCols1p eCols1n eCols1c) →
      CanSt wv3 ((Addr.mk b1 0 none).add 1) ∧ ∀ wv4, wv4 = wv3.setCell ((Addr.mk b1 0 none).add 1) (.bool eUnique1) →
      ∃ a2, s21p = some a2 ∧ 0 ≤ s171 ∧ s171 < ((s21n : Nat) : Int) ∧
      ∃ (eCols2p : Option Addr) (eCols2n eCols2c : Nat) (eUnique2 : Bool),
      cellsAt wv4 (a2.add (s171.toNat * 2)) 0 [.slice eCols2p eCols2n eCols2c, .bool eUnique2] ∧
      ∀ b2 wv5, New wv4 (.cells #[.slice none 0 0, .bool false] T.api_Index) b2 wv5 →
      CanSt wv5 ((Addr.mk b2 0 none).add 0) ∧ ∀ wv6, wv6 = wv5.setCell ((Addr.mk b2 0 none).add 0) (.slice eCols2p eCols2n eCols2c) →
      CanSt wv6 ((Addr.mk b2 0 none).add 1) ∧ ∀ wv7, wv7 = wv6.setCell ((Addr.mk b2 0 none).add 1) (.bool eUnique2) →
      ∃ (xCols1p : Option Addr) (xCols1n xCols1c : Nat) (xUnique1 : Bool),
      cellsAt wv7 (Addr.mk b1 0 none) 0 [.slice xCols1p xCols1n xCols1c, .bool xUnique1] ∧
      ∃ (xCols2p : Option Addr) (xCols2n xCols2c : Nat) (xUnique2 : Bool),
      cellsAt wv7 (Addr.mk b2 0 none) 0 [.slice xCols2p xCols2n xCols2c, .bool xUnique2] ∧
      CallsV prog eq1f (#[] ++ #[.agg #[.slice xCols1p xCols1n xCols1c, .bool xUnique1], .agg #[.slice xCols2p xCols2n xCols2c, .bool xUnique2]] ++ eq1c) wv7 (fun v1 wv8 =>
        ∃ (r1 : Bool),
        v1 = .bool r1 ∧
        ifB (!r1) (
          K (.bool false) wv8) (
          Iv1 (IntKind.i64.wrap (s171 + (1 : Int))) wv8 ∧ m1 (IntKind.i64.wrap (s171 + (1 : Int))) wv8 < m1 s171 wv1))) (
      K (.bool true) wv1))
def An.slices_EqualFunc_api_Index_api_Index_api_Index_api_Index : Ann := ⟨[], [(4, [(17, 3)], [1, 2, 15, 16])], []⟩
theorem R.slices_EqualFunc_api_Index_api_Index_api_Index_api_Index {s11p : Option Addr} {s11n s11c : Nat} {s21p : Option Addr} {s21n s21c : Nat} {eq1f : Nat} {eq1c : Array Value} {w : World} {K : Value → World → Prop} (h : C.slices_EqualFunc_api_Index_api_Index_api_Index_api_Index s11p s11n s11c s21p s21n s21c eq1f eq1c w K) : CallsV prog F.slices_EqualFunc_api_Index_api_Index_api_Index_api_Index #[.slice s11p s11n s11c, .slice s21p s21n s21c, .func (.func eq1f) #[] eq1c] w K :=
  vcFn.calls (an := An.slices_EqualFunc_api_Index_api_Index_api_Index_api_Index) mixed tabOK eqsOK Go.Proofs.Tryd.func87 (by kernel_rfl) (by kernel_rfl) (by kernel_rfl) ((by kernel_rfl : vcFn prog eqs tab An.slices_EqualFunc_api_Index_api_Index_api_Index_api_Index Go.Proofs.Tryd.f87 [.slice s11p s11n s11c, .slice s21p s21n s21c, .func (.func eq1f) #[] eq1c] w K = C.slices_EqualFunc_api_Index_api_Index_api_Index_api_Index s11p s11n s11c s21p s21n s21c eq1f eq1c w K).mpr h)

/-- afflux/schema.named -/
def C.schema_named (s1 : ByteArray) (w : World) (K : Value → World → Prop) : Prop :=
  ifB (sEq s1 (bs [])) (
    K (.bool false) w) (
    ifB (decide ((16 : Int) < ((s1.size : Nat) : Int))) (
      K (.bool false) w) (
      0 ≤ (0 : Int) ∧ (0 : Int) < ((s1.size : Nat) : Int) ∧
      CallsV prog F.schema_letter #[.int .u8 (bt s1 (0 : Int))] w (fun v1 wv1 =>
        ∃ (r1 : Bool),
        v1 = .bool r1 ∧
        ifB (!r1) (
          K (.bool false) wv1) (
          ConvV prog T.string T.s_uint8 (.string s1) wv1 (fun v2 wv2 =>
            ∃ (c1p : Option Addr) (c1n c1c : Nat),
            v2 = .slice c1p c1n c1c ∧
            ∃ (Iv1 : Int → World → Prop) (m1 : Int → World → Nat),
            Iv1 0 wv2 ∧
            ∀ (s211 : Int) wv3, Iv1 s211 wv3 →
            ifB (decide (s211 < ((c1n : Nat) : Int))) (
              ∃ a1, c1p = some a1 ∧ 0 ≤ s211 ∧ s211 < ((c1n : Nat) : Int) ∧
              ∃ (e1 : Int),
              wv3.cell? (a1.add (s211.toNat * 1)) = some (.int .u8 e1) ∧
              CallsV prog F.schema_part #[.int .u8 e1] wv3 (fun v3 wv4 =>
                ∃ (r2 : Bool),
                v3 = .bool r2 ∧
                ifB (!r2) (
                  K (.bool false) wv4) (
                  Iv1 (IntKind.i64.wrap (s211 + (1 : Int))) wv4 ∧ m1 (IntKind.i64.wrap (s211 + (1 : Int))) wv4 < m1 s211 wv3))) (
              K (.bool true) wv3))))))
def An.schema_named : Ann := ⟨[], [(4, [(21, 3)], [19, 20])], []⟩
theorem R.schema_named {s1 : ByteArray} {w : World} {K : Value → World → Prop} (h : C.schema_named s1 w K) : CallsV prog F.schema_named #[.string s1] w K :=
  vcFn.calls (an := An.schema_named) mixed tabOK eqsOK Go.Proofs.Tryd.func88 (by kernel_rfl) (by kernel_rfl) (by kernel_rfl) ((by kernel_rfl : vcFn prog eqs tab An.schema_named Go.Proofs.Tryd.f88 [.string s1] w K = C.schema_named s1 w K).mpr h)

/-- afflux/schema.columns -/
def C.schema_columns (l1p : Option Addr) (l1n l1c : Nat) (w : World) (K : Value → World → Prop) : Prop :=
  ∃ (Iv1 : Int → World → Prop) (m1 : Int → World → Nat),
  Iv1 0 w ∧
  ∀ (s71 : Int) wv1, Iv1 s71 wv1 →
  ifB (decide (s71 < ((l1n : Nat) : Int))) (
    ∃ a1, l1p = some a1 ∧ 0 ≤ s71 ∧ s71 < ((l1n : Nat) : Int) ∧
    ∃ (eName1 : ByteArray) (eKind1 : Int),
    cellsAt wv1 (a1.add (s71.toNat * 2)) 0 [.string eName1, .int .i64 eKind1] ∧
    ∀ b1 wv2, New wv1 (.cells #[.string (bs []), .int .i64 0] T.api_Column) b1 wv2 →
    CanSt wv2 ((Addr.mk b1 0 none).add 0) ∧ ∀ wv3, wv3 = wv2.setCell ((Addr.mk b1 0 none).add 0) (.string eName1) →
    CanSt wv3 ((Addr.mk b1 0 none).add 1) ∧ ∀ wv4, wv4 = wv3.setCell ((Addr.mk b1 0 none).add 1) (.int .i64 eKind1) →
    ∃ (Name1 : ByteArray),
    wv4.cell? ((Addr.mk b1 0 none).add 0) = some (.string Name1) ∧
    CallsV prog F.schema_named #[.string Name1] wv4 (fun v1 wv5 =>
      ∃ (r1 : Bool),
      v1 = .bool r1 ∧
      ifB (!r1) (
        K (.bool false) wv5) (
        ∃ (Kind1 : Int),
        wv5.cell? ((Addr.mk b1 0 none).add 1) = some (.int .i64 Kind1) ∧
        CallsV prog F.schema_within #[.int .i64 Kind1, .int .i64 1, .int .i64 3] wv5 (fun v2 wv6 =>
          ∃ (r2 : Bool),
          v2 = .bool r2 ∧
          ifB (!r2) (
            K (.bool false) wv6) (
            Iv1 (IntKind.i64.wrap (s71 + (1 : Int))) wv6 ∧ m1 (IntKind.i64.wrap (s71 + (1 : Int))) wv6 < m1 s71 wv1))))) (
    CallsV prog F.schema_within #[.int .i64 ((l1n : Nat) : Int), .int .i64 1, .int .i64 8] wv1 (fun v3 wv7 =>
      ∃ (r3 : Bool),
      v3 = .bool r3 ∧
      ifB r3 (
        CallsV prog F.schema_unlike_api_Column #[.slice l1p l1n l1c, .func (.func F.schema_columns_1) #[] #[]] wv7 (fun v4 wv8 =>
          ∃ (r4 : Bool),
          v4 = .bool r4 ∧
          K (.bool r4) wv8)) (
        K (.bool false) wv7)))
def An.schema_columns : Ann := ⟨[], [(2, [(7, 3)], [0, 5, 6])], []⟩
theorem R.schema_columns {l1p : Option Addr} {l1n l1c : Nat} {w : World} {K : Value → World → Prop} (h : C.schema_columns l1p l1n l1c w K) : CallsV prog F.schema_columns #[.slice l1p l1n l1c] w K :=
  vcFn.calls (an := An.schema_columns) mixed tabOK eqsOK Go.Proofs.Tryd.func89 (by kernel_rfl) (by kernel_rfl) (by kernel_rfl) ((by kernel_rfl : vcFn prog eqs tab An.schema_columns Go.Proofs.Tryd.f89 [.slice l1p l1n l1c] w K = C.schema_columns l1p l1n l1c w K).mpr h)

/-- afflux/schema.indexes -/
def C.schema_indexes (l1p : Option Addr) (l1n l1c : Nat) (n1 : Int) (w : World) (K : Value → World → Prop) : Prop :=
  ∃ (Iv1 : Int → World → Prop) (m1 : Int → World → Nat),
  Iv1 0 w ∧
  ∀ (s91 : Int) wv1, Iv1 s91 wv1 →
  ifB (decide (s91 < ((l1n : Nat) : Int))) (
    ∃ a1, l1p = some a1 ∧ 0 ≤ s91 ∧ s91 < ((l1n : Nat) : Int) ∧
    ∃ (eCols1p : Option Addr) (eCols1n eCols1c : Nat) (eUnique1 : Bool),
    cellsAt wv1 (a1.add (s91.toNat * 2)) 0 [.slice eCols1p eCols1n eCols1c, .bool eUnique1] ∧
    ∀ b1 wv2, New wv1 (.cells #[.slice none 0 0, .bool false] T.api_Index) b1 wv2 →
    CanSt wv2 ((Addr.mk b1 0 none).add 0) ∧ ∀ wv3, wv3 = wv2.setCell ((Addr.mk b1 0 none).add 0) (.slice eCols1p eCols1n eCols1c) →
    CanSt wv3 ((Addr.mk b1 0 none).add 1) ∧ ∀ wv4, wv4 = wv3.setCell ((Addr.mk b1 0 none).add 1) (.bool eUnique1) →
    ∃ (xCols1p : Option Addr) (xCols1n xCols1c : Nat) (xUnique1 : Bool),
    cellsAt wv4 (Addr.mk b1 0 none) 0 [.slice xCols1p xCols1n xCols1c, .bool xUnique1] ∧
    CallsV prog F.schema_places #[.agg #[.slice xCols1p xCols1n xCols1c, .bool xUnique1], .int .i64 n1] wv4 (fun v1 wv5 =>
      ∃ (r1 : Bool),
      v1 = .bool r1 ∧
      ifB (!r1) (
        K (.bool false) wv5) (
        Iv1 (IntKind.i64.wrap (s91 + (1 : Int))) wv5 ∧ m1 (IntKind.i64.wrap (s91 + (1 : Int))) wv5 < m1 s91 wv1))) (
    CallsV prog F.schema_within #[.int .i64 ((l1n : Nat) : Int), .int .i64 1, .int .i64 4] wv1 (fun v2 wv6 =>
      ∃ (r2 : Bool),
      v2 = .bool r2 ∧
      ifB r2 (
        ∃ a2, l1p = some a2 ∧ 0 ≤ (0 : Int) ∧ (0 : Int) < ((l1n : Nat) : Int) ∧
        ∃ (Unique1 : Bool),
        wv6.cell? ((a2.add ((0 : Int).toNat * 2)).add 1) = some (.bool Unique1) ∧
        ifB Unique1 (
          CallsV prog F.schema_unlike_api_Index #[.slice l1p l1n l1c, .func (.func F.schema_indexes_1) #[] #[]] wv6 (fun v3 wv7 =>
            ∃ (r3 : Bool),
            v3 = .bool r3 ∧
            K (.bool r3) wv7)) (
          K (.bool false) wv6)) (
        K (.bool false) wv6)))
def An.schema_indexes : Ann := ⟨[], [(2, [(9, 3)], [0, 1, 7, 8])], []⟩
theorem R.schema_indexes {l1p : Option Addr} {l1n l1c : Nat} {n1 : Int} {w : World} {K : Value → World → Prop} (h : C.schema_indexes l1p l1n l1c n1 w K) : CallsV prog F.schema_indexes #[.slice l1p l1n l1c, .int .i64 n1] w K :=
  vcFn.calls (an := An.schema_indexes) mixed tabOK eqsOK Go.Proofs.Tryd.func90 (by kernel_rfl) (by kernel_rfl) (by kernel_rfl) ((by kernel_rfl : vcFn prog eqs tab An.schema_indexes Go.Proofs.Tryd.f90 [.slice l1p l1n l1c, .int .i64 n1] w K = C.schema_indexes l1p l1n l1c n1 w K).mpr h)

/-- slices.IndexFunc[[]afflux/api.Column,afflux/api.Column] -/
def C.slices_IndexFunc_api_Column_api_Column (s1p : Option Addr) (s1n s1c : Nat) (f1f : Nat) (f1c : Array Value) (w : World) (K : Value → World → Prop) : Prop :=
  ∃ (Iv1 : Int → World → Prop) (m1 : Int → World → Nat),
  Iv1 0 w ∧
  ∀ (s81 : Int) wv1, Iv1 s81 wv1 →
  ifB (decide (s81 < ((s1n : Nat) : Int))) (
    ∃ a1, s1p = some a1 ∧ 0 ≤ s81 ∧ s81 < ((s1n : Nat) : Int) ∧
    ∃ (eName1 : ByteArray) (eKind1 : Int),
    cellsAt wv1 (a1.add (s81.toNat * 2)) 0 [.string eName1, .int .i64 eKind1] ∧
    CallsV prog f1f (#[] ++ #[.agg #[.string eName1, .int .i64 eKind1]] ++ f1c) wv1 (fun v1 wv2 =>
      ∃ (r1 : Bool),
      v1 = .bool r1 ∧
      ifB r1 (
        K (.int .i64 s81) wv2) (
        Iv1 (IntKind.i64.wrap (s81 + (1 : Int))) wv2 ∧ m1 (IntKind.i64.wrap (s81 + (1 : Int))) wv2 < m1 s81 wv1))) (
    K (.int .i64 (-1)) wv1)
def An.slices_IndexFunc_api_Column_api_Column : Ann := ⟨[], [(2, [(8, 3)], [0, 1, 7])], []⟩
theorem R.slices_IndexFunc_api_Column_api_Column {s1p : Option Addr} {s1n s1c : Nat} {f1f : Nat} {f1c : Array Value} {w : World} {K : Value → World → Prop} (h : C.slices_IndexFunc_api_Column_api_Column s1p s1n s1c f1f f1c w K) : CallsV prog F.slices_IndexFunc_api_Column_api_Column #[.slice s1p s1n s1c, .func (.func f1f) #[] f1c] w K :=
  vcFn.calls (an := An.slices_IndexFunc_api_Column_api_Column) mixed tabOK eqsOK Go.Proofs.Tryd.func91 (by kernel_rfl) (by kernel_rfl) (by kernel_rfl) ((by kernel_rfl : vcFn prog eqs tab An.slices_IndexFunc_api_Column_api_Column Go.Proofs.Tryd.f91 [.slice s1p s1n s1c, .func (.func f1f) #[] f1c] w K = C.slices_IndexFunc_api_Column_api_Column s1p s1n s1c f1f f1c w K).mpr h)

/-- afflux/schema.Col$1 -/
def C.schema_Col_1 (cName1 : ByteArray) (cKind1 : Int) (cap1 : Addr) (w : World) (K : Value → World → Prop) : Prop :=
  ∀ b1 wv1, New w (.cells #[.string cName1, .int .i64 cKind1] T.api_Column) b1 wv1 →
  ∃ (Name1 : ByteArray),
  wv1.cell? ((Addr.mk b1 0 none).add 0) = some (.string Name1) ∧
  ∃ (x1 : ByteArray),
  wv1.cell? cap1 = some (.string x1) ∧
  K (.bool (sEq Name1 x1)) wv1
def An.schema_Col_1 : Ann := ⟨[], [], []⟩
theorem R.schema_Col_1 {cName1 : ByteArray} {cKind1 : Int} {cap1 : Addr} {w : World} {K : Value → World → Prop} (h : C.schema_Col_1 cName1 cKind1 cap1 w K) : CallsV prog F.schema_Col_1 #[.agg #[.string cName1, .int .i64 cKind1], .pointer (some cap1)] w K :=
  vcFn.calls (an := An.schema_Col_1) mixed tabOK eqsOK Go.Proofs.Tryd.func92 (by kernel_rfl) (by kernel_rfl) (by kernel_rfl) ((by kernel_rfl : vcFn prog eqs tab An.schema_Col_1 Go.Proofs.Tryd.f92 [.agg #[.string cName1, .int .i64 cKind1], .pointer (some cap1)] w K = C.schema_Col_1 cName1 cKind1 cap1 w K).mpr h)

/-- cmp.isNaN[int] -/
def C.cmp_isNaN_int (x1 : Int) (w : World) (K : Value → World → Prop) : Prop :=
  K (.bool (x1 != x1)) w
def An.cmp_isNaN_int : Ann := ⟨[], [], []⟩
theorem R.cmp_isNaN_int {x1 : Int} {w : World} {K : Value → World → Prop} (h : C.cmp_isNaN_int x1 w K) : CallsV prog F.cmp_isNaN_int #[.int .i64 x1] w K :=
  vcFn.calls (an := An.cmp_isNaN_int) mixed tabOK eqsOK Go.Proofs.Tryd.func93 (by kernel_rfl) (by kernel_rfl) (by kernel_rfl) ((by kernel_rfl : vcFn prog eqs tab An.cmp_isNaN_int Go.Proofs.Tryd.f93 [.int .i64 x1] w K = C.cmp_isNaN_int x1 w K).mpr h)

/-- cmp.isNaN[int64] -/
def C.cmp_isNaN_int64 (x1 : Int) (w : World) (K : Value → World → Prop) : Prop :=
  K (.bool (x1 != x1)) w
def An.cmp_isNaN_int64 : Ann := ⟨[], [], []⟩
theorem R.cmp_isNaN_int64 {x1 : Int} {w : World} {K : Value → World → Prop} (h : C.cmp_isNaN_int64 x1 w K) : CallsV prog F.cmp_isNaN_int64 #[.int .i64 x1] w K :=
  vcFn.calls (an := An.cmp_isNaN_int64) mixed tabOK eqsOK Go.Proofs.Tryd.func94 (by kernel_rfl) (by kernel_rfl) (by kernel_rfl) ((by kernel_rfl : vcFn prog eqs tab An.cmp_isNaN_int64 Go.Proofs.Tryd.f94 [.int .i64 x1] w K = C.cmp_isNaN_int64 x1 w K).mpr h)

/-- cmp.isNaN[string] -/
def C.cmp_isNaN_string (x1 : ByteArray) (w : World) (K : Value → World → Prop) : Prop :=
  K (.bool (!sEq x1 x1)) w
def An.cmp_isNaN_string : Ann := ⟨[], [], []⟩
theorem R.cmp_isNaN_string {x1 : ByteArray} {w : World} {K : Value → World → Prop} (h : C.cmp_isNaN_string x1 w K) : CallsV prog F.cmp_isNaN_string #[.string x1] w K :=
  vcFn.calls (an := An.cmp_isNaN_string) mixed tabOK eqsOK Go.Proofs.Tryd.func95 (by kernel_rfl) (by kernel_rfl) (by kernel_rfl) ((by kernel_rfl : vcFn prog eqs tab An.cmp_isNaN_string Go.Proofs.Tryd.f95 [.string x1] w K = C.cmp_isNaN_string x1 w K).mpr h)

/-- slices.IndexFunc[[]afflux/api.Value,afflux/api.Value] -/
def C.slices_IndexFunc_api_Value_api_Value (s1p : Option Addr) (s1n s1c : Nat) (f1f : Nat) (f1c : Array Value) (w : World) (K : Value → World → Prop) : Prop :=
  ∃ (Iv1 : Int → World → Prop) (m1 : Int → World → Nat),
  Iv1 0 w ∧
  ∀ (s81 : Int) wv1, Iv1 s81 wv1 →
  ifB (decide (s81 < ((s1n : Nat) : Int))) (
    ∃ a1, s1p = some a1 ∧ 0 ≤ s81 ∧ s81 < ((s1n : Nat) : Int) ∧
    ∃ (eKind1 : Int) (eN1 : Int) (eS1 : ByteArray),
    cellsAt wv1 (a1.add (s81.toNat * 3)) 0 [.int .i64 eKind1, .int .i64 eN1, .string eS1] ∧
    CallsV prog f1f (#[] ++ #[.agg #[.int .i64 eKind1, .int .i64 eN1, .string eS1]] ++ f1c) wv1 (fun v1 wv2 =>
      ∃ (r1 : Bool),
      v1 = .bool r1 ∧
      ifB r1 (
        K (.int .i64 s81) wv2) (
        Iv1 (IntKind.i64.wrap (s81 + (1 : Int))) wv2 ∧ m1 (IntKind.i64.wrap (s81 + (1 : Int))) wv2 < m1 s81 wv1))) (
    K (.int .i64 (-1)) wv1)
def An.slices_IndexFunc_api_Value_api_Value : Ann := ⟨[], [(2, [(8, 3)], [0, 1, 7])], []⟩
theorem R.slices_IndexFunc_api_Value_api_Value {s1p : Option Addr} {s1n s1c : Nat} {f1f : Nat} {f1c : Array Value} {w : World} {K : Value → World → Prop} (h : C.slices_IndexFunc_api_Value_api_Value s1p s1n s1c f1f f1c w K) : CallsV prog F.slices_IndexFunc_api_Value_api_Value #[.slice s1p s1n s1c, .func (.func f1f) #[] f1c] w K :=
  vcFn.calls (an := An.slices_IndexFunc_api_Value_api_Value) mixed tabOK eqsOK Go.Proofs.Tryd.func96 (by kernel_rfl) (by kernel_rfl) (by kernel_rfl) ((by kernel_rfl : vcFn prog eqs tab An.slices_IndexFunc_api_Value_api_Value Go.Proofs.Tryd.f96 [.slice s1p s1n s1c, .func (.func f1f) #[] f1c] w K = C.slices_IndexFunc_api_Value_api_Value s1p s1n s1c f1f f1c w K).mpr h)

/-- afflux/value.text -/
def C.value_text (s1 : ByteArray) (w : World) (K : Value → World → Prop) : Prop :=
  ∃ (Iv1 : Option Addr → Nat → Nat → Int → World → Prop) (m1 : Option Addr → Nat → Nat → Int → World → Nat),
  Iv1 none 0 0 0 w ∧
  ∀ (b1p : Option Addr) (b1n b1c : Nat) (i1 : Int) wv1, Iv1 b1p b1n b1c i1 wv1 →
  ifB (decide (i1 < ((s1.size : Nat) : Int))) (
    0 ≤ i1 ∧ i1 < ((s1.size : Nat) : Int) ∧
    ifB ((bt s1 i1) != (0 : Int)) (
      0 ≤ i1 ∧ i1 < ((s1.size : Nat) : Int) ∧
      ∀ b2 wv2, New wv1 (.cells #[.int .u8 (bt s1 i1)] T.uint8) b2 wv2 →
      BuiltV prog .append #[T.s_uint8, T.s_uint8] T.s_uint8 #[.slice b1p b1n b1c, .slice (some (Addr.mk b2 0 none)) 1 1] wv2 (fun v1 wv3 =>
        ∃ (a1p : Option Addr) (a1n a1c : Nat),
        v1 = .slice a1p a1n a1c ∧
        Iv1 a1p a1n a1c (IntKind.i64.wrap (i1 + (1 : Int))) wv3 ∧ m1 a1p a1n a1c (IntKind.i64.wrap (i1 + (1 : Int))) wv3 < m1 b1p b1n b1c i1 wv1)) (
      0 ≤ i1 ∧ i1 ≤ ((s1.size : Nat) : Int) ∧
      CallsV prog F.strings_HasPrefix #[.string (s1.extract i1.toNat s1.size), .string (bs [0, 1])] wv1 (fun v2 wv4 =>
        ∃ (r1 : Bool),
        v2 = .bool r1 ∧
        ifB r1 (
          0 ≤ IntKind.i64.wrap (i1 + (2 : Int)) ∧ IntKind.i64.wrap (i1 + (2 : Int)) ≤ ((s1.size : Nat) : Int) ∧
          ConvV prog T.s_uint8 T.string (.slice b1p b1n b1c) wv4.drew (fun v3 wv5 =>
            ∃ (c1 : ByteArray),
            v3 = .string c1 ∧
            K (.tuple #[.string c1, .string (s1.extract ((IntKind.i64.wrap (i1 + (2 : Int))).toNat) s1.size), .bool true]) wv5)) (
          0 ≤ i1 ∧ i1 ≤ ((s1.size : Nat) : Int) ∧
          CallsV prog F.strings_HasPrefix #[.string (s1.extract i1.toNat s1.size), .string (bs [0, 255])] wv4 (fun v4 wv6 =>
            ∃ (r2 : Bool),
            v4 = .bool r2 ∧
            ifB r2 (
              ∀ b3 wv7, New wv6 (.cells #[.int .u8 0] T.uint8) b3 wv7 →
              BuiltV prog .append #[T.s_uint8, T.s_uint8] T.s_uint8 #[.slice b1p b1n b1c, .slice (some (Addr.mk b3 0 none)) 1 1] wv7 (fun v5 wv8 =>
                ∃ (a2p : Option Addr) (a2n a2c : Nat),
                v5 = .slice a2p a2n a2c ∧
                Iv1 a2p a2n a2c (IntKind.i64.wrap ((IntKind.i64.wrap (i1 + (1 : Int))) + (1 : Int))) wv8 ∧ m1 a2p a2n a2c (IntKind.i64.wrap ((IntKind.i64.wrap (i1 + (1 : Int))) + (1 : Int))) wv8 < m1 b1p b1n b1c i1 wv1)) (
              K (.tuple #[.string (bs []), .string (bs []), .bool false]) wv6)))))) (
    K (.tuple #[.string (bs []), .string (bs []), .bool false]) wv1)
def An.value_text : Ann := ⟨[(9, .sil 0 [] (.sil 2 [] (.sil 3 [] (.sil 4 [] (.sil 5 [] (.act 1 (.sil 6 [] (.sil 7 [] (.sil 8 [] (.done))))))))))], [(3, [(5, 92), (6, 3)], [0])], []⟩
theorem R.value_text {s1 : ByteArray} {w : World} {K : Value → World → Prop} (h : C.value_text s1 w K) : CallsV prog F.value_text #[.string s1] w K :=
  vcFn.calls (an := An.value_text) mixed tabOK eqsOK Go.Proofs.Tryd.func97 (by kernel_rfl) (by kernel_rfl) (by kernel_rfl) ((by kernel_rfl : vcFn prog eqs tab An.value_text Go.Proofs.Tryd.f97 [.string s1] w K = C.value_text s1 w K).mpr h)

/-- strings.Replace -/
def C.strings_Replace (s1 : ByteArray) (old1 : ByteArray) (new1 : ByteArray) (n1 : Int) (w : World) (K : Value → World → Prop) : Prop :=
  ∃ Jv1 : World → Prop,
  (ifB (sEq old1 new1) (
    K (.string s1) w) (
    ifB (n1 == (0 : Int)) (
      K (.string s1) w) (
      Jv1 w))) ∧
  (∀ wv1, Jv1 wv1 →
  ∃ Jv2 : Int → World → Prop,
  (CallsV prog F.strings_Count #[.string s1, .string old1] wv1 (fun v1 wv2 =>
    ∃ (r1 : Int),
    v1 = .int .i64 r1 ∧
    ifB (r1 == (0 : Int)) (
      K (.string s1) wv2) (
      ifB (decide (n1 < (0 : Int))) (
        Jv2 r1 wv2) (
        ifB (decide (r1 < n1)) (
          Jv2 r1 wv2) (
          Jv2 n1 wv2))))) ∧
  (∀ (n2 : Int) wv3, Jv2 n2 wv3 →
  ∀ b1 wv4, New wv3 (.cells #[.pointer none, .slice none 0 0] T.strings_Builder) b1 wv4 →
  CallsV prog F.strings_Builder_Grow #[.pointer (some (Addr.mk b1 0 none)), .int .i64 (IntKind.i64.wrap (((s1.size : Nat) : Int) + (IntKind.i64.wrap (n2 * (IntKind.i64.wrap (((new1.size : Nat) : Int) - ((old1.size : Nat) : Int)))))))] wv4 (fun v2 wv5 =>
    v2 = .tuple #[] ∧
    ifB (decide ((0 : Int) < ((old1.size : Nat) : Int))) (
      ∃ (Iv1 : Int → Int → World → Prop) (m1 : Int → Int → World → Nat),
      Iv1 0 0 wv5 ∧
      ∀ (start1 : Int) (s531 : Int) wv6, Iv1 start1 s531 wv6 →
      ifB (decide (s531 < n2)) (
        0 ≤ start1 ∧ start1 ≤ ((s1.size : Nat) : Int) ∧
        CallsV prog F.strings_Index #[.string (s1.extract start1.toNat s1.size), .string old1] wv6 (fun v3 wv7 =>
          ∃ (r2 : Int),
          v3 = .int .i64 r2 ∧
          0 ≤ IntKind.i64.wrap (start1 + r2) ∧ IntKind.i64.wrap (start1 + r2) ≤ ((s1.size : Nat) : Int) ∧
          0 ≤ start1 ∧ start1 ≤ (((IntKind.i64.wrap (start1 + r2)).toNat : Nat) : Int) ∧
          CallsV prog F.strings_Builder_WriteString #[.pointer (some (Addr.mk b1 0 none)), .string (s1.extract start1.toNat ((IntKind.i64.wrap (start1 + r2)).toNat))] wv7 (fun v4 wv8 =>
            ∃ (ra1 : Int) (rb1 : Value),
            v4 = .tuple #[.int .i64 ra1, rb1] ∧
            CallsV prog F.strings_Builder_WriteString #[.pointer (some (Addr.mk b1 0 none)), .string new1] wv8 (fun v5 wv9 =>
              ∃ (ra2 : Int) (rb2 : Value),
              v5 = .tuple #[.int .i64 ra2, rb2] ∧
              Iv1 (IntKind.i64.wrap ((IntKind.i64.wrap (start1 + r2)) + ((old1.size : Nat) : Int))) (IntKind.i64.wrap (s531 + (1 : Int))) wv9 ∧ m1 (IntKind.i64.wrap ((IntKind.i64.wrap (start1 + r2)) + ((old1.size : Nat) : Int))) (IntKind.i64.wrap (s531 + (1 : Int))) wv9 < m1 start1 s531 wv6)))) (
        0 ≤ start1 ∧ start1 ≤ ((s1.size : Nat) : Int) ∧
        CallsV prog F.strings_Builder_WriteString #[.pointer (some (Addr.mk b1 0 none)), .string (s1.extract start1.toNat s1.size)] wv6 (fun v6 wv10 =>
          ∃ (ra3 : Int) (rb3 : Value),
          v6 = .tuple #[.int .i64 ra3, rb3] ∧
          CallsV prog F.strings_Builder_String #[.pointer (some (Addr.mk b1 0 none))] wv10 (fun v7 wv11 =>
            ∃ (r3 : ByteArray),
            v7 = .string r3 ∧
            K (.string r3) wv11)))) (
      CallsV prog F.strings_Builder_WriteString #[.pointer (some (Addr.mk b1 0 none)), .string new1] wv5 (fun v8 wv12 =>
        ∃ (ra4 : Int) (rb4 : Value),
        v8 = .tuple #[.int .i64 ra4, rb4] ∧
        ∃ (Iv2 : Int → Int → World → Prop) (m2 : Int → Int → World → Nat),
        Iv2 0 0 wv12 ∧
        ∀ (start2 : Int) (s781 : Int) wv13, Iv2 start2 s781 wv13 →
        ifB (decide (s781 < (IntKind.i64.wrap (n2 - (1 : Int))))) (
          0 ≤ start2 ∧ start2 ≤ ((s1.size : Nat) : Int) ∧
          CallsV prog F.unicode_utf8_DecodeRuneInString #[.string (s1.extract start2.toNat s1.size)] wv13 (fun v9 wv14 =>
            ∃ (ra5 : Int) (rb5 : Int),
            v9 = .tuple #[.int .i32 ra5, .int .i64 rb5] ∧
            0 ≤ IntKind.i64.wrap (start2 + rb5) ∧ IntKind.i64.wrap (start2 + rb5) ≤ ((s1.size : Nat) : Int) ∧
            0 ≤ start2 ∧ start2 ≤ (((IntKind.i64.wrap (start2 + rb5)).toNat : Nat) : Int) ∧
            CallsV prog F.strings_Builder_WriteString #[.pointer (some (Addr.mk b1 0 none)), .string (s1.extract start2.toNat ((IntKind.i64.wrap (start2 + rb5)).toNat))] wv14 (fun v10 wv15 =>
              ∃ (ra6 : Int) (rb6 : Value),
              v10 = .tuple #[.int .i64 ra6, rb6] ∧
              CallsV prog F.strings_Builder_WriteString #[.pointer (some (Addr.mk b1 0 none)), .string new1] wv15 (fun v11 wv16 =>
                ∃ (ra7 : Int) (rb7 : Value),
                v11 = .tuple #[.int .i64 ra7, rb7] ∧
                Iv2 (IntKind.i64.wrap (start2 + rb5)) (IntKind.i64.wrap (s781 + (1 : Int))) wv16 ∧ m2 (IntKind.i64.wrap (start2 + rb5)) (IntKind.i64.wrap (s781 + (1 : Int))) wv16 < m2 start2 s781 wv13)))) (
          0 ≤ start2 ∧ start2 ≤ ((s1.size : Nat) : Int) ∧
          CallsV prog F.strings_Builder_WriteString #[.pointer (some (Addr.mk b1 0 none)), .string (s1.extract start2.toNat s1.size)] wv13 (fun v12 wv17 =>
            ∃ (ra8 : Int) (rb8 : Value),
            v12 = .tuple #[.int .i64 ra8, rb8] ∧
            CallsV prog F.strings_Builder_String #[.pointer (some (Addr.mk b1 0 none))] wv17 (fun v13 wv18 =>
              ∃ (r4 : ByteArray),
              v13 = .string r4 ∧
              K (.string r4) wv18))))))))
def An.strings_Replace : Ann := ⟨[], [(13, [(11, 3), (53, 3)], [0, 1, 2, 10, 52]), (21, [(11, 3), (78, 3)], [0, 2, 10, 77])], [(3, [], [0, 1, 2, 3]), (8, [(3, 3)], [0, 1, 2])]⟩
theorem R.strings_Replace {s1 : ByteArray} {old1 : ByteArray} {new1 : ByteArray} {n1 : Int} {w : World} {K : Value → World → Prop} (h : C.strings_Replace s1 old1 new1 n1 w K) : CallsV prog F.strings_Replace #[.string s1, .string old1, .string new1, .int .i64 n1] w K :=
  vcFn.calls (an := An.strings_Replace) mixed tabOK eqsOK Go.Proofs.Tryd.func98 (by kernel_rfl) (by kernel_rfl) (by kernel_rfl) ((by kernel_rfl : vcFn prog eqs tab An.strings_Replace Go.Proofs.Tryd.f98 [.string s1, .string old1, .string new1, .int .i64 n1] w K = C.strings_Replace s1 old1 new1 n1 w K).mpr h)

/-- math/bits.Mul64 -/
def C.math_bits_Mul64 (x1 : Int) (y1 : Int) (w : World) (K : Value → World → Prop) : Prop :=
  0 ≤ (32 : Int) ∧
  0 ≤ (32 : Int) ∧
  0 ≤ (32 : Int) ∧
  0 ≤ (32 : Int) ∧
  0 ≤ (32 : Int) ∧
  K (.tuple #[.int .u64 (IntKind.u64.wrap ((IntKind.u64.wrap ((IntKind.u64.wrap ((Int.fdiv x1 (2 ^ (min (32 : Int).toNat IntKind.u64.bits))) * (Int.fdiv y1 (2 ^ (min (32 : Int).toNat IntKind.u64.bits))))) + (Int.fdiv (IntKind.u64.wrap ((IntKind.u64.wrap ((Int.fdiv x1 (2 ^ (min (32 : Int).toNat IntKind.u64.bits))) * (bits .and .u64 y1 (4294967295 : Int)))) + (Int.fdiv (IntKind.u64.wrap ((bits .and .u64 x1 (4294967295 : Int)) * (bits .and .u64 y1 (4294967295 : Int)))) (2 ^ (min (32 : Int).toNat IntKind.u64.bits))))) (2 ^ (min (32 : Int).toNat IntKind.u64.bits))))) + (Int.fdiv (IntKind.u64.wrap ((bits .and .u64 (IntKind.u64.wrap ((IntKind.u64.wrap ((Int.fdiv x1 (2 ^ (min (32 : Int).toNat IntKind.u64.bits))) * (bits .and .u64 y1 (4294967295 : Int)))) + (Int.fdiv (IntKind.u64.wrap ((bits .and .u64 x1 (4294967295 : Int)) * (bits .and .u64 y1 (4294967295 : Int)))) (2 ^ (min (32 : Int).toNat IntKind.u64.bits))))) (4294967295 : Int)) + (IntKind.u64.wrap ((bits .and .u64 x1 (4294967295 : Int)) * (Int.fdiv y1 (2 ^ (min (32 : Int).toNat IntKind.u64.bits))))))) (2 ^ (min (32 : Int).toNat IntKind.u64.bits))))), .int .u64 (IntKind.u64.wrap (x1 * y1))]) w
def An.math_bits_Mul64 : Ann := ⟨[], [], []⟩
theorem R.math_bits_Mul64 {x1 : Int} {y1 : Int} {w : World} {K : Value → World → Prop} (h : C.math_bits_Mul64 x1 y1 w K) : CallsV prog F.math_bits_Mul64 #[.int .u64 x1, .int .u64 y1] w K :=
  vcFn.calls (an := An.math_bits_Mul64) mixed tabOK eqsOK Go.Proofs.Tryd.func99 (by kernel_rfl) (by kernel_rfl) (by kernel_rfl) ((by kernel_rfl : vcFn prog eqs tab An.math_bits_Mul64 Go.Proofs.Tryd.f99 [.int .u64 x1, .int .u64 y1] w K = C.math_bits_Mul64 x1 y1 w K).mpr h)

/-- afflux/calc.signed -/
def C.calc_signed (neg1 : Bool) (n1 : Int) (w : World) (K : Value → World → Prop) : Prop :=
  ifB neg1 (
    ifB (decide (n1 ≤ (9223372036854775808 : Int))) (
      K (.tuple #[.int .i64 (IntKind.i64.wrap (0 - (IntKind.i64.wrap n1))), .int .i64 0]) w) (
      ifB (!neg1) (
        ifB (decide (n1 ≤ (9223372036854775807 : Int))) (
          K (.tuple #[.int .i64 (IntKind.i64.wrap n1), .int .i64 0]) w) (
          K (.tuple #[.int .i64 0, .int .i64 2]) w)) (
        K (.tuple #[.int .i64 0, .int .i64 2]) w))) (
    ifB (!neg1) (
      ifB (decide (n1 ≤ (9223372036854775807 : Int))) (
        K (.tuple #[.int .i64 (IntKind.i64.wrap n1), .int .i64 0]) w) (
        K (.tuple #[.int .i64 0, .int .i64 2]) w)) (
      K (.tuple #[.int .i64 0, .int .i64 2]) w))
def An.calc_signed : Ann := ⟨[], [], []⟩
theorem R.calc_signed {neg1 : Bool} {n1 : Int} {w : World} {K : Value → World → Prop} (h : C.calc_signed neg1 n1 w K) : CallsV prog F.calc_signed #[.bool neg1, .int .u64 n1] w K :=
  vcFn.calls (an := An.calc_signed) mixed tabOK eqsOK Go.Proofs.Tryd.func101 (by kernel_rfl) (by kernel_rfl) (by kernel_rfl) ((by kernel_rfl : vcFn prog eqs tab An.calc_signed Go.Proofs.Tryd.f101 [.bool neg1, .int .u64 n1] w K = C.calc_signed neg1 n1 w K).mpr h)

/-- afflux/calc.size -/
def C.calc_size (a1 : Int) (w : World) (K : Value → World → Prop) : Prop :=
  ifB (decide (a1 < (0 : Int))) (
    K (.int .u64 (IntKind.u64.wrap (0 - (IntKind.u64.wrap a1)))) w) (
    K (.int .u64 (IntKind.u64.wrap a1)) w)
def An.calc_size : Ann := ⟨[], [], []⟩
theorem R.calc_size {a1 : Int} {w : World} {K : Value → World → Prop} (h : C.calc_size a1 w K) : CallsV prog F.calc_size #[.int .i64 a1] w K :=
  vcFn.calls (an := An.calc_size) mixed tabOK eqsOK Go.Proofs.Tryd.func102 (by kernel_rfl) (by kernel_rfl) (by kernel_rfl) ((by kernel_rfl : vcFn prog eqs tab An.calc_size Go.Proofs.Tryd.f102 [.int .i64 a1] w K = C.calc_size a1 w K).mpr h)

/-- afflux/calc.parts -/
def C.calc_parts (a1 : Int) (b1 : Int) (w : World) (K : Value → World → Prop) : Prop :=
  ifB (b1 == (0 : Int)) (
    K (.tuple #[.int .i64 0, .int .i64 0, .int .i64 3]) w) (
    ifB (b1 == (-1)) (
      CallsV prog F.calc_Neg #[.int .i64 a1] w (fun v1 wv1 =>
        ∃ (ra1 : Int) (rb1 : Int),
        v1 = .tuple #[.int .i64 ra1, .int .i64 rb1] ∧
        K (.tuple #[.int .i64 ra1, .int .i64 0, .int .i64 rb1]) wv1)) (
      b1 ≠ 0 ∧
      b1 ≠ 0 ∧
      ifB ((Int.tmod a1 b1) != (0 : Int)) (
        ifB (!((decide ((Int.tmod a1 b1) < (0 : Int))) == (decide (b1 < (0 : Int))))) (
          K (.tuple #[.int .i64 (IntKind.i64.wrap ((IntKind.i64.wrap (Int.tdiv a1 b1)) - (1 : Int))), .int .i64 (IntKind.i64.wrap ((Int.tmod a1 b1) + b1)), .int .i64 0]) w.drew) (
          K (.tuple #[.int .i64 (IntKind.i64.wrap (Int.tdiv a1 b1)), .int .i64 (Int.tmod a1 b1), .int .i64 0]) w.drew)) (
        K (.tuple #[.int .i64 (IntKind.i64.wrap (Int.tdiv a1 b1)), .int .i64 (Int.tmod a1 b1), .int .i64 0]) w.drew)))
def An.calc_parts : Ann := ⟨[(6, .sil 0 [] (.sil 1 [] (.sil 2 [] (.sil 3 [] (.sil 4 [] (.sil 5 [] (.sil 6 [] (.sil 7 [] (.done)))))))))], [], []⟩
theorem R.calc_parts {a1 : Int} {b1 : Int} {w : World} {K : Value → World → Prop} (h : C.calc_parts a1 b1 w K) : CallsV prog F.calc_parts #[.int .i64 a1, .int .i64 b1] w K :=
  vcFn.calls (an := An.calc_parts) mixed tabOK eqsOK Go.Proofs.Tryd.func103 (by kernel_rfl) (by kernel_rfl) (by kernel_rfl) ((by kernel_rfl : vcFn prog eqs tab An.calc_parts Go.Proofs.Tryd.f103 [.int .i64 a1, .int .i64 b1] w K = C.calc_parts a1 b1 w K).mpr h)

/-- afflux/affluxref01.sign -/
def C.affluxref01_sign (neg1 : Bool) (d1p : Option Addr) (d1n d1c : Nat) (w : World) (K : Value → World → Prop) : Prop :=
  ∀ b1 wv1, New w (.cells #[.bool false, .slice none 0 0] T.affluxref01_Num) b1 wv1 →
  CallsV prog F.affluxref01_trim #[.slice d1p d1n d1c] wv1 (fun v1 wv2 =>
    ∃ (r1p : Option Addr) (r1n r1c : Nat),
    v1 = .slice r1p r1n r1c ∧
    ifB neg1 (
      CanSt wv2 ((Addr.mk b1 0 none).add 0) ∧ ∀ wv3, wv3 = wv2.setCell ((Addr.mk b1 0 none).add 0) (.bool (decide ((0 : Int) < ((r1n : Nat) : Int)))) →
      CanSt wv3 ((Addr.mk b1 0 none).add 1) ∧ ∀ wv4, wv4 = wv3.setCell ((Addr.mk b1 0 none).add 1) (.slice r1p r1n r1c) →
      ∃ (xNeg1 : Bool) (xD1p : Option Addr) (xD1n xD1c : Nat),
      cellsAt wv4 (Addr.mk b1 0 none) 0 [.bool xNeg1, .slice xD1p xD1n xD1c] ∧
      K (.agg #[.bool xNeg1, .slice xD1p xD1n xD1c]) wv4) (
      CanSt wv2 ((Addr.mk b1 0 none).add 0) ∧ ∀ wv5, wv5 = wv2.setCell ((Addr.mk b1 0 none).add 0) (.bool false) →
      CanSt wv5 ((Addr.mk b1 0 none).add 1) ∧ ∀ wv6, wv6 = wv5.setCell ((Addr.mk b1 0 none).add 1) (.slice r1p r1n r1c) →
      ∃ (xNeg2 : Bool) (xD2p : Option Addr) (xD2n xD2c : Nat),
      cellsAt wv6 (Addr.mk b1 0 none) 0 [.bool xNeg2, .slice xD2p xD2n xD2c] ∧
      K (.agg #[.bool xNeg2, .slice xD2p xD2n xD2c]) wv6))
def An.affluxref01_sign : Ann := ⟨[], [], []⟩
theorem R.affluxref01_sign {neg1 : Bool} {d1p : Option Addr} {d1n d1c : Nat} {w : World} {K : Value → World → Prop} (h : C.affluxref01_sign neg1 d1p d1n d1c w K) : CallsV prog F.affluxref01_sign #[.bool neg1, .slice d1p d1n d1c] w K :=
  vcFn.calls (an := An.affluxref01_sign) mixed tabOK eqsOK Go.Proofs.Tryd.func104 (by kernel_rfl) (by kernel_rfl) (by kernel_rfl) ((by kernel_rfl : vcFn prog eqs tab An.affluxref01_sign Go.Proofs.Tryd.f104 [.bool neg1, .slice d1p d1n d1c] w K = C.affluxref01_sign neg1 d1p d1n d1c w K).mpr h)

/-- afflux/affluxref01.add -/
def C.affluxref01_add (a1p : Option Addr) (a1n a1c : Nat) (b1p : Option Addr) (b1n b1c : Nat) (w : World) (K : Value → World → Prop) : Prop :=
  ∃ (Iv1 : Option Addr → Nat → Nat → Int → Int → World → Prop) (m1 : Option Addr → Nat → Nat → Int → Int → World → Nat),
  Iv1 none 0 0 0 0 w ∧
  ∀ (out1p : Option Addr) (out1n out1c : Nat) (carry1 : Int) (i1 : Int) wv1, Iv1 out1p out1n out1c carry1 i1 wv1 →
  ∃ Jv1 : World → Prop,
  (ifB (decide (i1 < ((a1n : Nat) : Int))) (
    Jv1 wv1) (
    ifB (decide (i1 < ((b1n : Nat) : Int))) (
      Jv1 wv1) (
      ifB (decide ((0 : Int) < carry1)) (
        Jv1 wv1) (
        K (.slice out1p out1n out1c) wv1)))) ∧
  (∀ wv2, Jv1 wv2 →
  CallsV prog F.affluxref01_at #[.slice a1p a1n a1c, .int .i64 i1] wv2 (fun v1 wv3 =>
    ∃ (r1 : Int),
    v1 = .int .i64 r1 ∧
    CallsV prog F.affluxref01_at #[.slice b1p b1n b1c, .int .i64 i1] wv3 (fun v2 wv4 =>
      ∃ (r2 : Int),
      v2 = .int .i64 r2 ∧
      (10 : Int) ≠ 0 ∧
      ∀ b2 wv5, New wv4 (.cells #[.int .i64 (Int.tmod (IntKind.i64.wrap ((IntKind.i64.wrap (r1 + r2)) + carry1)) (10 : Int))] T.int) b2 wv5 →
      BuiltV prog .append #[T.s_int, T.s_int] T.s_int #[.slice out1p out1n out1c, .slice (some (Addr.mk b2 0 none)) 1 1] wv5 (fun v3 wv6 =>
        ∃ (a2p : Option Addr) (a2n a2c : Nat),
        v3 = .slice a2p a2n a2c ∧
        (10 : Int) ≠ 0 ∧
        Iv1 a2p a2n a2c (IntKind.i64.wrap (Int.tdiv (IntKind.i64.wrap ((IntKind.i64.wrap (r1 + r2)) + carry1)) (10 : Int))) (IntKind.i64.wrap (i1 + (1 : Int))) wv6 ∧ m1 a2p a2n a2c (IntKind.i64.wrap (Int.tdiv (IntKind.i64.wrap ((IntKind.i64.wrap (r1 + r2)) + carry1)) (10 : Int))) (IntKind.i64.wrap (i1 + (1 : Int))) wv6 < m1 out1p out1n out1c carry1 i1 wv1))))
def An.affluxref01_add : Ann := ⟨[], [(4, [(5, 40), (6, 3), (7, 3)], [0, 1])], [(6, [], [0, 1, 5, 6, 7])]⟩
theorem R.affluxref01_add {a1p : Option Addr} {a1n a1c : Nat} {b1p : Option Addr} {b1n b1c : Nat} {w : World} {K : Value → World → Prop} (h : C.affluxref01_add a1p a1n a1c b1p b1n b1c w K) : CallsV prog F.affluxref01_add #[.slice a1p a1n a1c, .slice b1p b1n b1c] w K :=
  vcFn.calls (an := An.affluxref01_add) mixed tabOK eqsOK Go.Proofs.Tryd.func105 (by kernel_rfl) (by kernel_rfl) (by kernel_rfl) ((by kernel_rfl : vcFn prog eqs tab An.affluxref01_add Go.Proofs.Tryd.f105 [.slice a1p a1n a1c, .slice b1p b1n b1c] w K = C.affluxref01_add a1p a1n a1c b1p b1n b1c w K).mpr h)

/-- afflux/affluxref01.less -/
def C.affluxref01_less (a1p : Option Addr) (a1n a1c : Nat) (b1p : Option Addr) (b1n b1c : Nat) (w : World) (K : Value → World → Prop) : Prop :=
  ifB (((a1n : Nat) : Int) != ((b1n : Nat) : Int)) (
    K (.bool (decide (((a1n : Nat) : Int) < ((b1n : Nat) : Int)))) w) (
    ∃ (Iv1 : Int → World → Prop) (m1 : Int → World → Nat),
    Iv1 (IntKind.i64.wrap (((a1n : Nat) : Int) - (1 : Int))) w ∧
    ∀ (i1 : Int) wv1, Iv1 i1 wv1 →
    ifB (decide ((0 : Int) ≤ i1)) (
      ∃ a2, a1p = some a2 ∧ 0 ≤ i1 ∧ i1 < ((a1n : Nat) : Int) ∧
      ∃ (e1 : Int),
      wv1.drew.cell? (a2.add (i1.toNat * 1)) = some (.int .i64 e1) ∧
      ∃ a3, b1p = some a3 ∧ 0 ≤ i1 ∧ i1 < ((b1n : Nat) : Int) ∧
      ∃ (e2 : Int),
      wv1.drew.cell? (a3.add (i1.toNat * 1)) = some (.int .i64 e2) ∧
      ifB (e1 != e2) (
        ∃ a4, a1p = some a4 ∧ 0 ≤ i1 ∧ i1 < ((a1n : Nat) : Int) ∧
        ∃ (e3 : Int),
        wv1.drew.drew.cell? (a4.add (i1.toNat * 1)) = some (.int .i64 e3) ∧
        ∃ a5, b1p = some a5 ∧ 0 ≤ i1 ∧ i1 < ((b1n : Nat) : Int) ∧
        ∃ (e4 : Int),
        wv1.drew.drew.cell? (a5.add (i1.toNat * 1)) = some (.int .i64 e4) ∧
        K (.bool (decide (e3 < e4))) wv1.drew.drew) (
        Iv1 (IntKind.i64.wrap (i1 - (1 : Int))) wv1.drew ∧ m1 (IntKind.i64.wrap (i1 - (1 : Int))) wv1.drew < m1 i1 wv1)) (
      K (.bool false) wv1))
def An.affluxref01_less : Ann := ⟨[(6, .sil 0 [] (.sil 1 [] (.sil 2 [] (.sil 3 [] (.sil 4 [] (.sil 5 [] (.sil 6 [] (.sil 7 [] (.sil 8 [] (.done)))))))))), (7, .sil 0 [] (.sil 1 [] (.sil 2 [] (.sil 3 [] (.sil 4 [] (.sil 5 [] (.sil 6 [] (.sil 7 [] (.sil 8 [] (.sil 9 [] (.done)))))))))))], [(4, [(5, 3)], [0, 1])], []⟩
theorem R.affluxref01_less {a1p : Option Addr} {a1n a1c : Nat} {b1p : Option Addr} {b1n b1c : Nat} {w : World} {K : Value → World → Prop} (h : C.affluxref01_less a1p a1n a1c b1p b1n b1c w K) : CallsV prog F.affluxref01_less #[.slice a1p a1n a1c, .slice b1p b1n b1c] w K :=
  vcFn.calls (an := An.affluxref01_less) mixed tabOK eqsOK Go.Proofs.Tryd.func106 (by kernel_rfl) (by kernel_rfl) (by kernel_rfl) ((by kernel_rfl : vcFn prog eqs tab An.affluxref01_less Go.Proofs.Tryd.f106 [.slice a1p a1n a1c, .slice b1p b1n b1c] w K = C.affluxref01_less a1p a1n a1c b1p b1n b1c w K).mpr h)

/-- afflux/affluxref01.sub -/
def C.affluxref01_sub (a1p : Option Addr) (a1n a1c : Nat) (b1p : Option Addr) (b1n b1c : Nat) (w : World) (K : Value → World → Prop) : Prop :=
  ∃ (Iv1 : Option Addr → Nat → Nat → Int → Int → World → Prop) (m1 : Option Addr → Nat → Nat → Int → Int → World → Nat),
  Iv1 none 0 0 0 0 w ∧
  ∀ (out1p : Option Addr) (out1n out1c : Nat) (borrow1 : Int) (i1 : Int) wv1, Iv1 out1p out1n out1c borrow1 i1 wv1 →
  ifB (decide (i1 < ((a1n : Nat) : Int))) (
    ∃ a2, a1p = some a2 ∧ 0 ≤ i1 ∧ i1 < ((a1n : Nat) : Int) ∧
    ∃ (e1 : Int),
    wv1.drew.cell? (a2.add (i1.toNat * 1)) = some (.int .i64 e1) ∧
    CallsV prog F.affluxref01_at #[.slice b1p b1n b1c, .int .i64 i1] wv1.drew (fun v1 wv2 =>
      ∃ (r1 : Int),
      v1 = .int .i64 r1 ∧
      wv2.cell? (a2.add (i1.toNat * 1)) = some (.int .i64 e1) ∧
      (10 : Int) ≠ 0 ∧
      ∀ b2 wv3, New wv2 (.cells #[.int .i64 (Int.tmod (IntKind.i64.wrap ((IntKind.i64.wrap ((IntKind.i64.wrap ((10 : Int) + e1)) - r1)) - borrow1)) (10 : Int))] T.int) b2 wv3 →
      BuiltV prog .append #[T.s_int, T.s_int] T.s_int #[.slice out1p out1n out1c, .slice (some (Addr.mk b2 0 none)) 1 1] wv3 (fun v2 wv4 =>
        ∃ (a3p : Option Addr) (a3n a3c : Nat),
        v2 = .slice a3p a3n a3c ∧
        (10 : Int) ≠ 0 ∧
        Iv1 a3p a3n a3c (IntKind.i64.wrap ((1 : Int) - (IntKind.i64.wrap (Int.tdiv (IntKind.i64.wrap ((IntKind.i64.wrap ((IntKind.i64.wrap ((10 : Int) + e1)) - r1)) - borrow1)) (10 : Int))))) (IntKind.i64.wrap (i1 + (1 : Int))) wv4 ∧ m1 a3p a3n a3c (IntKind.i64.wrap ((1 : Int) - (IntKind.i64.wrap (Int.tdiv (IntKind.i64.wrap ((IntKind.i64.wrap ((IntKind.i64.wrap ((10 : Int) + e1)) - r1)) - borrow1)) (10 : Int))))) (IntKind.i64.wrap (i1 + (1 : Int))) wv4 < m1 out1p out1n out1c borrow1 i1 wv1))) (
    K (.slice out1p out1n out1c) wv1)
def An.affluxref01_sub : Ann := ⟨[(6, .sil 0 [] (.sil 1 [] (.sil 2 [] (.sil 3 [7] (.sil 4 [] (.sil 5 [] (.sil 6 [] (.sil 9 [] (.act 7 (.sil 8 [] (.sil 10 [] (.sil 11 [] (.done)))))))))))))], [(4, [(5, 40), (6, 3), (7, 3)], [0, 1])], []⟩
theorem R.affluxref01_sub {a1p : Option Addr} {a1n a1c : Nat} {b1p : Option Addr} {b1n b1c : Nat} {w : World} {K : Value → World → Prop} (h : C.affluxref01_sub a1p a1n a1c b1p b1n b1c w K) : CallsV prog F.affluxref01_sub #[.slice a1p a1n a1c, .slice b1p b1n b1c] w K :=
  vcFn.calls (an := An.affluxref01_sub) mixed tabOK eqsOK Go.Proofs.Tryd.func107 (by kernel_rfl) (by kernel_rfl) (by kernel_rfl) ((by kernel_rfl : vcFn prog eqs tab An.affluxref01_sub Go.Proofs.Tryd.f107 [.slice a1p a1n a1c, .slice b1p b1n b1c] w K = C.affluxref01_sub a1p a1n a1c b1p b1n b1c w K).mpr h)

/-- afflux/affluxref01.Small -/
def C.affluxref01_Small (aNeg1 : Bool) (aD1p : Option Addr) (aD1n aD1c : Nat) (w : World) (K : Value → World → Prop) : Prop :=
  ∀ b1 wv1, New w (.cells #[.bool aNeg1, .slice aD1p aD1n aD1c] T.affluxref01_Num) b1 wv1 →
  CallsV prog F.affluxref01_Of #[.int .i64 9223372036854775807] wv1 (fun v1 wv2 =>
    ∃ (rNeg1 : Bool) (rD1p : Option Addr) (rD1n rD1c : Nat),
    v1 = .agg #[.bool rNeg1, .slice rD1p rD1n rD1c] ∧
    ∀ b2 wv3, New wv2 (.cells #[.bool false, .slice none 0 0] T.affluxref01_Num) b2 wv3 →
    CanSt wv3 ((Addr.mk b2 0 none).add 0) ∧ ∀ wv4, wv4 = wv3.setCell ((Addr.mk b2 0 none).add 0) (.bool rNeg1) →
    CanSt wv4 ((Addr.mk b2 0 none).add 1) ∧ ∀ wv5, wv5 = wv4.setCell ((Addr.mk b2 0 none).add 1) (.slice rD1p rD1n rD1c) →
    ∃ (Neg1 : Bool),
    wv5.cell? ((Addr.mk b1 0 none).add 0) = some (.bool Neg1) ∧
    ifB Neg1 (
      CallsV prog F.affluxref01_Of #[.int .i64 (-9223372036854775808)] wv5 (fun v2 wv6 =>
        ∃ (rNeg2 : Bool) (rD2p : Option Addr) (rD2n rD2c : Nat),
        v2 = .agg #[.bool rNeg2, .slice rD2p rD2n rD2c] ∧
        CanSt wv6 ((Addr.mk b2 0 none).add 0) ∧ ∀ wv7, wv7 = wv6.setCell ((Addr.mk b2 0 none).add 0) (.bool rNeg2) →
        CanSt wv7 ((Addr.mk b2 0 none).add 1) ∧ ∀ wv8, wv8 = wv7.setCell ((Addr.mk b2 0 none).add 1) (.slice rD2p rD2n rD2c) →
        ∃ (D1p : Option Addr) (D1n D1c : Nat),
        wv8.cell? ((Addr.mk b2 0 none).add 1) = some (.slice D1p D1n D1c) ∧
        ∃ (D2p : Option Addr) (D2n D2c : Nat),
        wv8.cell? ((Addr.mk b1 0 none).add 1) = some (.slice D2p D2n D2c) ∧
        CallsV prog F.affluxref01_less #[.slice D1p D1n D1c, .slice D2p D2n D2c] wv8 (fun v3 wv9 =>
          ∃ (r1 : Bool),
          v3 = .bool r1 ∧
          ifB r1 (
            K (.tuple #[.int .i64 0, .bool false]) wv9) (
            ∃ (D3p : Option Addr) (D3n D3c : Nat),
            wv9.cell? ((Addr.mk b1 0 none).add 1) = some (.slice D3p D3n D3c) ∧
            ∃ (Iv1 : Int → Int → World → Prop) (m1 : Int → Int → World → Nat),
            Iv1 0 (IntKind.i64.wrap (((D3n : Nat) : Int) - (1 : Int))) wv9 ∧
            ∀ (u1 : Int) (i1 : Int) wv10, Iv1 u1 i1 wv10 →
            ifB (decide ((0 : Int) ≤ i1)) (
              ∃ (D4p : Option Addr) (D4n D4c : Nat),
              wv10.cell? ((Addr.mk b1 0 none).add 1) = some (.slice D4p D4n D4c) ∧
              ∃ a1, D4p = some a1 ∧ 0 ≤ i1 ∧ i1 < ((D4n : Nat) : Int) ∧
              ∃ (e1 : Int),
              wv10.cell? (a1.add (i1.toNat * 1)) = some (.int .i64 e1) ∧
              Iv1 (IntKind.u64.wrap ((IntKind.u64.wrap ((10 : Int) * u1)) + (IntKind.u64.wrap e1))) (IntKind.i64.wrap (i1 - (1 : Int))) wv10 ∧ m1 (IntKind.u64.wrap ((IntKind.u64.wrap ((10 : Int) * u1)) + (IntKind.u64.wrap e1))) (IntKind.i64.wrap (i1 - (1 : Int))) wv10 < m1 u1 i1 wv10) (
              ∃ (Neg2 : Bool),
              wv10.cell? ((Addr.mk b1 0 none).add 0) = some (.bool Neg2) ∧
              ifB Neg2 (
                K (.tuple #[.int .i64 (IntKind.i64.wrap (IntKind.u64.wrap (0 - u1))), .bool true]) wv10) (
                K (.tuple #[.int .i64 (IntKind.i64.wrap u1), .bool true]) wv10)))))) (
      ∃ (D5p : Option Addr) (D5n D5c : Nat),
      wv5.cell? ((Addr.mk b2 0 none).add 1) = some (.slice D5p D5n D5c) ∧
      ∃ (D6p : Option Addr) (D6n D6c : Nat),
      wv5.cell? ((Addr.mk b1 0 none).add 1) = some (.slice D6p D6n D6c) ∧
      CallsV prog F.affluxref01_less #[.slice D5p D5n D5c, .slice D6p D6n D6c] wv5 (fun v4 wv11 =>
        ∃ (r2 : Bool),
        v4 = .bool r2 ∧
        ifB r2 (
          K (.tuple #[.int .i64 0, .bool false]) wv11) (
          ∃ (D7p : Option Addr) (D7n D7c : Nat),
          wv11.cell? ((Addr.mk b1 0 none).add 1) = some (.slice D7p D7n D7c) ∧
          ∃ (Iv2 : Int → Int → World → Prop) (m2 : Int → Int → World → Nat),
          Iv2 0 (IntKind.i64.wrap (((D7n : Nat) : Int) - (1 : Int))) wv11 ∧
          ∀ (u2 : Int) (i2 : Int) wv12, Iv2 u2 i2 wv12 →
          ifB (decide ((0 : Int) ≤ i2)) (
            ∃ (D8p : Option Addr) (D8n D8c : Nat),
            wv12.cell? ((Addr.mk b1 0 none).add 1) = some (.slice D8p D8n D8c) ∧
            ∃ a2, D8p = some a2 ∧ 0 ≤ i2 ∧ i2 < ((D8n : Nat) : Int) ∧
            ∃ (e2 : Int),
            wv12.cell? (a2.add (i2.toNat * 1)) = some (.int .i64 e2) ∧
            Iv2 (IntKind.u64.wrap ((IntKind.u64.wrap ((10 : Int) * u2)) + (IntKind.u64.wrap e2))) (IntKind.i64.wrap (i2 - (1 : Int))) wv12 ∧ m2 (IntKind.u64.wrap ((IntKind.u64.wrap ((10 : Int) * u2)) + (IntKind.u64.wrap e2))) (IntKind.i64.wrap (i2 - (1 : Int))) wv12 < m2 u2 i2 wv12) (
            ∃ (Neg3 : Bool),
            wv12.cell? ((Addr.mk b1 0 none).add 0) = some (.bool Neg3) ∧
            ifB Neg3 (
              K (.tuple #[.int .i64 (IntKind.i64.wrap (IntKind.u64.wrap (0 - u2))), .bool true]) wv12) (
              K (.tuple #[.int .i64 (IntKind.i64.wrap u2), .bool true]) wv12))))))
def An.affluxref01_Small : Ann := ⟨[], [(8, [(5, 91), (6, 3)], [1])], []⟩
theorem R.affluxref01_Small {aNeg1 : Bool} {aD1p : Option Addr} {aD1n aD1c : Nat} {w : World} {K : Value → World → Prop} (h : C.affluxref01_Small aNeg1 aD1p aD1n aD1c w K) : CallsV prog F.affluxref01_Small #[.agg #[.bool aNeg1, .slice aD1p aD1n aD1c]] w K :=
  vcFn.calls (an := An.affluxref01_Small) mixed tabOK eqsOK Go.Proofs.Tryd.func108 (by kernel_rfl) (by kernel_rfl) (by kernel_rfl) ((by kernel_rfl : vcFn prog eqs tab An.affluxref01_Small Go.Proofs.Tryd.f108 [.agg #[.bool aNeg1, .slice aD1p aD1n aD1c]] w K = C.affluxref01_Small aNeg1 aD1p aD1n aD1c w K).mpr h)

/-- (*strings.Builder).Grow -/
def C.strings_Builder_Grow (b1 : Option Addr) (n1 : Int) (w : World) (K : Value → World → Prop) : Prop :=
  CallsV prog F.strings_Builder_copyCheck #[.pointer b1] w (fun v1 wv1 =>
    v1 = .tuple #[] ∧
    ifB (decide (n1 < (0 : Int))) (
      False) (
      ∃ ba1, b1 = some ba1 ∧
      ∃ (buf1p : Option Addr) (buf1n buf1c : Nat),
      wv1.drew.cell? (ba1.add 1) = some (.slice buf1p buf1n buf1c) ∧
      ∃ ba2, b1 = some ba2 ∧
      ∃ (buf2p : Option Addr) (buf2n buf2c : Nat),
      wv1.drew.cell? (ba2.add 1) = some (.slice buf2p buf2n buf2c) ∧
      ifB (decide ((IntKind.i64.wrap (((buf1c : Nat) : Int) - ((buf2n : Nat) : Int))) < n1)) (
        CallsV prog F.strings_Builder_grow #[.pointer b1, .int .i64 n1] wv1.drew (fun v2 wv2 =>
          v2 = .tuple #[] ∧
          K (.tuple #[]) wv2)) (
        K (.tuple #[]) wv1.drew)))
def An.strings_Builder_Grow : Ann := ⟨[(3, .sil 0 [] (.sil 1 [] (.sil 2 [] (.sil 3 [] (.sil 4 [] (.sil 5 [] (.sil 6 [] (.sil 7 [] (.sil 8 [] (.sil 9 [] (.sil 10 [] (.sil 11 [] (.sil 12 [] (.done))))))))))))))], [], []⟩
theorem R.strings_Builder_Grow {b1 : Option Addr} {n1 : Int} {w : World} {K : Value → World → Prop} (h : C.strings_Builder_Grow b1 n1 w K) : CallsV prog F.strings_Builder_Grow #[.pointer b1, .int .i64 n1] w K :=
  vcFn.calls (an := An.strings_Builder_Grow) mixed tabOK eqsOK Go.Proofs.Tryd.func109 (by kernel_rfl) (by kernel_rfl) (by kernel_rfl) ((by kernel_rfl : vcFn prog eqs tab An.strings_Builder_Grow Go.Proofs.Tryd.f109 [.pointer b1, .int .i64 n1] w K = C.strings_Builder_Grow b1 n1 w K).mpr h)

/-- (*strings.Builder).WriteString -/
def C.strings_Builder_WriteString (b1 : Option Addr) (s1 : ByteArray) (w : World) (K : Value → World → Prop) : Prop :=
  CallsV prog F.strings_Builder_copyCheck #[.pointer b1] w (fun v1 wv1 =>
    v1 = .tuple #[] ∧
    ∃ ba1, b1 = some ba1 ∧
    ∃ (buf1p : Option Addr) (buf1n buf1c : Nat),
    wv1.cell? (ba1.add 1) = some (.slice buf1p buf1n buf1c) ∧
    BuiltV prog .append #[T.s_uint8, T.string] T.s_uint8 #[.slice buf1p buf1n buf1c, .string s1] wv1 (fun v2 wv2 =>
      ∃ (a1p : Option Addr) (a1n a1c : Nat),
      v2 = .slice a1p a1n a1c ∧
      ∃ ba2, b1 = some ba2 ∧
      CanSt wv2 (ba2.add 1) ∧ ∀ wv3, wv3 = wv2.setCell (ba2.add 1) (.slice a1p a1n a1c) →
      K (.tuple #[.int .i64 ((s1.size : Nat) : Int), .nilIface]) wv3))
def An.strings_Builder_WriteString : Ann := ⟨[], [], []⟩
theorem R.strings_Builder_WriteString {b1 : Option Addr} {s1 : ByteArray} {w : World} {K : Value → World → Prop} (h : C.strings_Builder_WriteString b1 s1 w K) : CallsV prog F.strings_Builder_WriteString #[.pointer b1, .string s1] w K :=
  vcFn.calls (an := An.strings_Builder_WriteString) mixed tabOK eqsOK Go.Proofs.Tryd.func110 (by kernel_rfl) (by kernel_rfl) (by kernel_rfl) ((by kernel_rfl : vcFn prog eqs tab An.strings_Builder_WriteString Go.Proofs.Tryd.f110 [.pointer b1, .string s1] w K = C.strings_Builder_WriteString b1 s1 w K).mpr h)

/-- (*strings.Builder).String -/
def C.strings_Builder_String (b1 : Option Addr) (w : World) (K : Value → World → Prop) : Prop :=
  ∃ ba1, b1 = some ba1 ∧
  ∃ (buf1p : Option Addr) (buf1n buf1c : Nat),
  w.drew.cell? (ba1.add 1) = some (.slice buf1p buf1n buf1c) ∧
  ∃ ba2, b1 = some ba2 ∧
  ∃ (buf2p : Option Addr) (buf2n buf2c : Nat),
  w.drew.cell? (ba2.add 1) = some (.slice buf2p buf2n buf2c) ∧
  BuiltV prog .unsafeSliceData #[T.s_uint8] T.p_uint8 #[.slice buf1p buf1n buf1c] w.drew (fun v1 wv1 =>
    ∃ (u1 : Option Addr),
    v1 = .pointer u1 ∧
    wv1.cell? (ba2.add 1) = some (.slice buf2p buf2n buf2c) ∧
    BuiltV prog .unsafeString #[T.p_uint8, T.int] T.string #[.pointer u1, .int .i64 ((buf2n : Nat) : Int)] wv1 (fun v2 wv2 =>
      ∃ (u2 : ByteArray),
      v2 = .string u2 ∧
      K (.string u2) wv2))
def An.strings_Builder_String : Ann := ⟨[(1, .sil 0 [] (.sil 1 [] (.sil 2 [] (.sil 3 [] (.sil 5 [] (.sil 6 [] (.sil 7 [] (.sil 8 [4] (.sil 9 [] (.act 4 (.act 10 (.sil 11 [] (.done)))))))))))))], [], []⟩
theorem R.strings_Builder_String {b1 : Option Addr} {w : World} {K : Value → World → Prop} (h : C.strings_Builder_String b1 w K) : CallsV prog F.strings_Builder_String #[.pointer b1] w K :=
  vcFn.calls (an := An.strings_Builder_String) mixed tabOK eqsOK Go.Proofs.Tryd.func111 (by kernel_rfl) (by kernel_rfl) (by kernel_rfl) ((by kernel_rfl : vcFn prog eqs tab An.strings_Builder_String Go.Proofs.Tryd.f111 [.pointer b1] w K = C.strings_Builder_String b1 w K).mpr h)

/-- afflux/schema.letter -/
def C.schema_letter (c1 : Int) (w : World) (K : Value → World → Prop) : Prop :=
  ifB (decide ((97 : Int) ≤ c1)) (
    K (.bool (decide (c1 ≤ (122 : Int)))) w) (
    K (.bool false) w)
def An.schema_letter : Ann := ⟨[], [], []⟩
theorem R.schema_letter {c1 : Int} {w : World} {K : Value → World → Prop} (h : C.schema_letter c1 w K) : CallsV prog F.schema_letter #[.int .u8 c1] w K :=
  vcFn.calls (an := An.schema_letter) mixed tabOK eqsOK Go.Proofs.Tryd.func112 (by kernel_rfl) (by kernel_rfl) (by kernel_rfl) ((by kernel_rfl : vcFn prog eqs tab An.schema_letter Go.Proofs.Tryd.f112 [.int .u8 c1] w K = C.schema_letter c1 w K).mpr h)

/-- afflux/schema.part -/
def C.schema_part (c1 : Int) (w : World) (K : Value → World → Prop) : Prop :=
  CallsV prog F.schema_letter #[.int .u8 c1] w (fun v1 wv1 =>
    ∃ (r1 : Bool),
    v1 = .bool r1 ∧
    ifB r1 (
      K (.bool true) wv1) (
      ifB (decide ((48 : Int) ≤ c1)) (
        ifB (decide (c1 ≤ (57 : Int))) (
          K (.bool true) wv1) (
          K (.bool (c1 == (95 : Int))) wv1)) (
        K (.bool (c1 == (95 : Int))) wv1)))
def An.schema_part : Ann := ⟨[], [], []⟩
theorem R.schema_part {c1 : Int} {w : World} {K : Value → World → Prop} (h : C.schema_part c1 w K) : CallsV prog F.schema_part #[.int .u8 c1] w K :=
  vcFn.calls (an := An.schema_part) mixed tabOK eqsOK Go.Proofs.Tryd.func113 (by kernel_rfl) (by kernel_rfl) (by kernel_rfl) ((by kernel_rfl : vcFn prog eqs tab An.schema_part Go.Proofs.Tryd.f113 [.int .u8 c1] w K = C.schema_part c1 w K).mpr h)

/-- afflux/schema.unlike[afflux/api.Column] -/
def C.schema_unlike_api_Column (l1p : Option Addr) (l1n l1c : Nat) (same1f : Nat) (same1c : Array Value) (w : World) (K : Value → World → Prop) : Prop :=
  ∃ (Iv1 : Int → World → Prop) (m1 : Int → World → Nat),
  Iv1 0 w ∧
  ∀ (s111 : Int) wv1, Iv1 s111 wv1 →
  ifB (decide (s111 < ((l1n : Nat) : Int))) (
    ∃ a1, l1p = some a1 ∧ 0 ≤ s111 ∧ s111 < ((l1n : Nat) : Int) ∧
    ∃ (eName1 : ByteArray) (eKind1 : Int),
    cellsAt wv1 (a1.add (s111.toNat * 2)) 0 [.string eName1, .int .i64 eKind1] ∧
    ∀ b1 wv2, New wv1 (.cells #[.string (bs []), .int .i64 0] T.api_Column) b1 wv2 →
    CanSt wv2 ((Addr.mk b1 0 none).add 0) ∧ ∀ wv3, wv3 = wv2.setCell ((Addr.mk b1 0 none).add 0) (.string eName1) →
    CanSt wv3 ((Addr.mk b1 0 none).add 1) ∧ ∀ wv4, wv4 = wv3.setCell ((Addr.mk b1 0 none).add 1) (.int .i64 eKind1) →
    0 ≤ s111 ∧ s111 ≤ ((l1c : Nat) : Int) ∧
    ∃ (Iv2 : Int → World → Prop) (m2 : Int → World → Nat),
    Iv2 0 wv4 ∧
    ∀ (s201 : Int) wv5, Iv2 s201 wv5 →
    ifB (decide (s201 < ((s111.toNat - 0 : Nat) : Int))) (
      ∃ a2, cutAt l1p 0 l1c 2 = some a2 ∧ 0 ≤ s201 ∧ s201 < ((s111.toNat - 0 : Nat) : Int) ∧
      ∃ (eName2 : ByteArray) (eKind2 : Int),
      cellsAt wv5 (a2.add (s201.toNat * 2)) 0 [.string eName2, .int .i64 eKind2] ∧
      ∀ b2 wv6, New wv5 (.cells #[.string (bs []), .int .i64 0] T.api_Column) b2 wv6 →
      CanSt wv6 ((Addr.mk b2 0 none).add 0) ∧ ∀ wv7, wv7 = wv6.setCell ((Addr.mk b2 0 none).add 0) (.string eName2) →
      CanSt wv7 ((Addr.mk b2 0 none).add 1) ∧ ∀ wv8, wv8 = wv7.setCell ((Addr.mk b2 0 none).add 1) (.int .i64 eKind2) →
      ∃ (xName1 : ByteArray) (xKind1 : Int),
      cellsAt wv8 (Addr.mk b1 0 none) 0 [.string xName1, .int .i64 xKind1] ∧
      ∃ (xName2 : ByteArray) (xKind2 : Int),
      cellsAt wv8 (Addr.mk b2 0 none) 0 [.string xName2, .int .i64 xKind2] ∧
      CallsV prog same1f (#[] ++ #[.agg #[.string xName1, .int .i64 xKind1], .agg #[.string xName2, .int .i64 xKind2]] ++ same1c) wv8 (fun v1 wv9 =>
        ∃ (r1 : Bool),
        v1 = .bool r1 ∧
        ifB r1 (
          K (.bool false) wv9) (
          Iv2 (IntKind.i64.wrap (s201 + (1 : Int))) wv9 ∧ m2 (IntKind.i64.wrap (s201 + (1 : Int))) wv9 < m2 s201 wv5))) (
      Iv1 (IntKind.i64.wrap (s111 + (1 : Int))) wv5 ∧ m1 (IntKind.i64.wrap (s111 + (1 : Int))) wv5 < m1 s111 wv1)) (
    K (.bool true) wv1)
def An.schema_unlike_api_Column : Ann := ⟨[], [(2, [(11, 3)], [0, 1, 9, 10]), (5, [(20, 3)], [0, 1, 6, 9, 10, 11, 18, 19])], []⟩
theorem R.schema_unlike_api_Column {l1p : Option Addr} {l1n l1c : Nat} {same1f : Nat} {same1c : Array Value} {w : World} {K : Value → World → Prop} (h : C.schema_unlike_api_Column l1p l1n l1c same1f same1c w K) : CallsV prog F.schema_unlike_api_Column #[.slice l1p l1n l1c, .func (.func same1f) #[] same1c] w K :=
  vcFn.calls (an := An.schema_unlike_api_Column) mixed tabOK eqsOK Go.Proofs.Tryd.func114 (by kernel_rfl) (by kernel_rfl) (by kernel_rfl) ((by kernel_rfl : vcFn prog eqs tab An.schema_unlike_api_Column Go.Proofs.Tryd.f114 [.slice l1p l1n l1c, .func (.func same1f) #[] same1c] w K = C.schema_unlike_api_Column l1p l1n l1c same1f same1c w K).mpr h)

/-- afflux/schema.columns$1 -/
def C.schema_columns_1 (aName1 : ByteArray) (aKind1 : Int) (bName1 : ByteArray) (bKind1 : Int) (w : World) (K : Value → World → Prop) : Prop :=
  ∀ b1 wv1, New w (.cells #[.string aName1, .int .i64 aKind1] T.api_Column) b1 wv1 →
  ∀ b2 wv2, New wv1 (.cells #[.string bName1, .int .i64 bKind1] T.api_Column) b2 wv2 →
  ∃ (Name1 : ByteArray),
  wv2.cell? ((Addr.mk b1 0 none).add 0) = some (.string Name1) ∧
  ∃ (Name2 : ByteArray),
  wv2.cell? ((Addr.mk b2 0 none).add 0) = some (.string Name2) ∧
  K (.bool (sEq Name1 Name2)) wv2
def An.schema_columns_1 : Ann := ⟨[], [], []⟩
theorem R.schema_columns_1 {aName1 : ByteArray} {aKind1 : Int} {bName1 : ByteArray} {bKind1 : Int} {w : World} {K : Value → World → Prop} (h : C.schema_columns_1 aName1 aKind1 bName1 bKind1 w K) : CallsV prog F.schema_columns_1 #[.agg #[.string aName1, .int .i64 aKind1], .agg #[.string bName1, .int .i64 bKind1]] w K :=
  vcFn.calls (an := An.schema_columns_1) mixed tabOK eqsOK Go.Proofs.Tryd.func115 (by kernel_rfl) (by kernel_rfl) (by kernel_rfl) ((by kernel_rfl : vcFn prog eqs tab An.schema_columns_1 Go.Proofs.Tryd.f115 [.agg #[.string aName1, .int .i64 aKind1], .agg #[.string bName1, .int .i64 bKind1]] w K = C.schema_columns_1 aName1 aKind1 bName1 bKind1 w K).mpr h)

/-- afflux/schema.places -/
def C.schema_places (xCols1p : Option Addr) (xCols1n xCols1c : Nat) (xUnique1 : Bool) (n1 : Int) (w : World) (K : Value → World → Prop) : Prop :=
  ∀ b1 wv1, New w (.cells #[.slice xCols1p xCols1n xCols1c, .bool xUnique1] T.api_Index) b1 wv1 →
  ∃ (Cols1p : Option Addr) (Cols1n Cols1c : Nat),
  wv1.cell? ((Addr.mk b1 0 none).add 0) = some (.slice Cols1p Cols1n Cols1c) ∧
  ∃ (Iv1 : Int → World → Prop) (m1 : Int → World → Nat),
  Iv1 0 wv1 ∧
  ∀ (s101 : Int) wv2, Iv1 s101 wv2 →
  ifB (decide (s101 < ((Cols1n : Nat) : Int))) (
    ∃ a1, Cols1p = some a1 ∧ 0 ≤ s101 ∧ s101 < ((Cols1n : Nat) : Int) ∧
    ∃ (e1 : Int),
    wv2.cell? (a1.add (s101.toNat * 1)) = some (.int .i64 e1) ∧
    CallsV prog F.schema_within #[.int .i64 e1, .int .i64 0, .int .i64 (IntKind.i64.wrap (n1 - (1 : Int)))] wv2 (fun v1 wv3 =>
      ∃ (r1 : Bool),
      v1 = .bool r1 ∧
      ifB (!r1) (
        K (.bool false) wv3) (
        Iv1 (IntKind.i64.wrap (s101 + (1 : Int))) wv3 ∧ m1 (IntKind.i64.wrap (s101 + (1 : Int))) wv3 < m1 s101 wv2))) (
    ∃ (Cols2p : Option Addr) (Cols2n Cols2c : Nat),
    wv2.cell? ((Addr.mk b1 0 none).add 0) = some (.slice Cols2p Cols2n Cols2c) ∧
    ifB (decide ((0 : Int) < ((Cols2n : Nat) : Int))) (
      ∃ (Cols3p : Option Addr) (Cols3n Cols3c : Nat),
      wv2.cell? ((Addr.mk b1 0 none).add 0) = some (.slice Cols3p Cols3n Cols3c) ∧
      CallsV prog F.schema_unlike_int #[.slice Cols3p Cols3n Cols3c, .func (.func F.schema_places_1) #[] #[]] wv2 (fun v2 wv4 =>
        ∃ (r2 : Bool),
        v2 = .bool r2 ∧
        K (.bool r2) wv4)) (
      K (.bool false) wv2))
def An.schema_places : Ann := ⟨[], [(2, [(10, 3)], [1, 2, 8, 9])], []⟩
theorem R.schema_places {xCols1p : Option Addr} {xCols1n xCols1c : Nat} {xUnique1 : Bool} {n1 : Int} {w : World} {K : Value → World → Prop} (h : C.schema_places xCols1p xCols1n xCols1c xUnique1 n1 w K) : CallsV prog F.schema_places #[.agg #[.slice xCols1p xCols1n xCols1c, .bool xUnique1], .int .i64 n1] w K :=
  vcFn.calls (an := An.schema_places) mixed tabOK eqsOK Go.Proofs.Tryd.func116 (by kernel_rfl) (by kernel_rfl) (by kernel_rfl) ((by kernel_rfl : vcFn prog eqs tab An.schema_places Go.Proofs.Tryd.f116 [.agg #[.slice xCols1p xCols1n xCols1c, .bool xUnique1], .int .i64 n1] w K = C.schema_places xCols1p xCols1n xCols1c xUnique1 n1 w K).mpr h)

/-- afflux/schema.unlike[afflux/api.Index] -/
def C.schema_unlike_api_Index (l1p : Option Addr) (l1n l1c : Nat) (same1f : Nat) (same1c : Array Value) (w : World) (K : Value → World → Prop) : Prop :=
  ∃ (Iv1 : Int → World → Prop) (m1 : Int → World → Nat),
  Iv1 0 w ∧
  ∀ (s111 : Int) wv1, Iv1 s111 wv1 →
  ifB (decide (s111 < ((l1n : Nat) : Int))) (
    ∃ a1, l1p = some a1 ∧ 0 ≤ s111 ∧ s111 < ((l1n : Nat) : Int) ∧
    ∃ (eCols1p : Option Addr) (eCols1n eCols1c : Nat) (eUnique1 : Bool),
    cellsAt wv1 (a1.add (s111.toNat * 2)) 0 [.slice eCols1p eCols1n eCols1c, .bool eUnique1] ∧
    ∀ b1 wv2, New wv1 (.cells #[.slice none 0 0, .bool false] T.api_Index) b1 wv2 →
    CanSt wv2 ((Addr.mk b1 0 none).add 0) ∧ ∀ wv3, wv3 = wv2.setCell ((Addr.mk b1 0 none).add 0) (.slice eCols1p eCols1n eCols1c) →
    CanSt wv3 ((Addr.mk b1 0 none).add 1) ∧ ∀ wv4, wv4 = wv3.setCell ((Addr.mk b1 0 none).add 1) (.bool eUnique1) →
    0 ≤ s111 ∧ s111 ≤ ((l1c : Nat) : Int) ∧
    ∃ (Iv2 : Int → World → Prop) (m2 : Int → World → Nat),
    Iv2 0 wv4 ∧
    ∀ (s201 : Int) wv5, Iv2 s201 wv5 →
    ifB (decide (s201 < ((s111.toNat - 0 : Nat) : Int))) (
      ∃ a2, cutAt l1p 0 l1c 2 = some a2 ∧ 0 ≤ s201 ∧ s201 < ((s111.toNat - 0 : Nat) : Int) ∧
      ∃ (eCols2p : Option Addr) (eCols2n eCols2c : Nat) (eUnique2 : Bool),
      cellsAt wv5 (a2.add (s201.toNat * 2)) 0 [.slice eCols2p eCols2n eCols2c, .bool eUnique2] ∧
      ∀ b2 wv6, New wv5 (.cells #[.slice none 0 0, .bool false] T.api_Index) b2 wv6 →
      CanSt wv6 ((Addr.mk b2 0 none).add 0) ∧ ∀ wv7, wv7 = wv6.setCell ((Addr.mk b2 0 none).add 0) (.slice eCols2p eCols2n eCols2c) →
      CanSt wv7 ((Addr.mk b2 0 none).add 1) ∧ ∀ wv8, wv8 = wv7.setCell ((Addr.mk b2 0 none).add 1) (.bool eUnique2) →
      ∃ (xCols1p : Option Addr) (xCols1n xCols1c : Nat) (xUnique1 : Bool),
      cellsAt wv8 (Addr.mk b1 0 none) 0 [.slice xCols1p xCols1n xCols1c, .bool xUnique1] ∧
      ∃ (xCols2p : Option Addr) (xCols2n xCols2c : Nat) (xUnique2 : Bool),
      cellsAt wv8 (Addr.mk b2 0 none) 0 [.slice xCols2p xCols2n xCols2c, .bool xUnique2] ∧
      CallsV prog same1f (#[] ++ #[.agg #[.slice xCols1p xCols1n xCols1c, .bool xUnique1], .agg #[.slice xCols2p xCols2n xCols2c, .bool xUnique2]] ++ same1c) wv8 (fun v1 wv9 =>
        ∃ (r1 : Bool),
        v1 = .bool r1 ∧
        ifB r1 (
          K (.bool false) wv9) (
          Iv2 (IntKind.i64.wrap (s201 + (1 : Int))) wv9 ∧ m2 (IntKind.i64.wrap (s201 + (1 : Int))) wv9 < m2 s201 wv5))) (
      Iv1 (IntKind.i64.wrap (s111 + (1 : Int))) wv5 ∧ m1 (IntKind.i64.wrap (s111 + (1 : Int))) wv5 < m1 s111 wv1)) (
    K (.bool true) wv1)
def An.schema_unlike_api_Index : Ann := ⟨[], [(2, [(11, 3)], [0, 1, 9, 10]), (5, [(20, 3)], [0, 1, 6, 9, 10, 11, 18, 19])], []⟩
theorem R.schema_unlike_api_Index {l1p : Option Addr} {l1n l1c : Nat} {same1f : Nat} {same1c : Array Value} {w : World} {K : Value → World → Prop} (h : C.schema_unlike_api_Index l1p l1n l1c same1f same1c w K) : CallsV prog F.schema_unlike_api_Index #[.slice l1p l1n l1c, .func (.func same1f) #[] same1c] w K :=
  vcFn.calls (an := An.schema_unlike_api_Index) mixed tabOK eqsOK Go.Proofs.Tryd.func117 (by kernel_rfl) (by kernel_rfl) (by kernel_rfl) ((by kernel_rfl : vcFn prog eqs tab An.schema_unlike_api_Index Go.Proofs.Tryd.f117 [.slice l1p l1n l1c, .func (.func same1f) #[] same1c] w K = C.schema_unlike_api_Index l1p l1n l1c same1f same1c w K).mpr h)

/-- afflux/schema.indexes$1 -/
def C.schema_indexes_1 (aCols1p : Option Addr) (aCols1n aCols1c : Nat) (aUnique1 : Bool) (bCols1p : Option Addr) (bCols1n bCols1c : Nat) (bUnique1 : Bool) (w : World) (K : Value → World → Prop) : Prop :=
  ∀ b1 wv1, New w (.cells #[.slice aCols1p aCols1n aCols1c, .bool aUnique1] T.api_Index) b1 wv1 →
  ∀ b2 wv2, New wv1 (.cells #[.slice bCols1p bCols1n bCols1c, .bool bUnique1] T.api_Index) b2 wv2 →
  ∃ (Cols1p : Option Addr) (Cols1n Cols1c : Nat),
  wv2.cell? ((Addr.mk b1 0 none).add 0) = some (.slice Cols1p Cols1n Cols1c) ∧
  ∃ (Cols2p : Option Addr) (Cols2n Cols2c : Nat),
  wv2.cell? ((Addr.mk b2 0 none).add 0) = some (.slice Cols2p Cols2n Cols2c) ∧
  CallsV prog F.slices_Equal_int_int #[.slice Cols1p Cols1n Cols1c, .slice Cols2p Cols2n Cols2c] wv2 (fun v1 wv3 =>
    ∃ (r1 : Bool),
    v1 = .bool r1 ∧
    K (.bool r1) wv3)
def An.schema_indexes_1 : Ann := ⟨[], [], []⟩
theorem R.schema_indexes_1 {aCols1p : Option Addr} {aCols1n aCols1c : Nat} {aUnique1 : Bool} {bCols1p : Option Addr} {bCols1n bCols1c : Nat} {bUnique1 : Bool} {w : World} {K : Value → World → Prop} (h : C.schema_indexes_1 aCols1p aCols1n aCols1c aUnique1 bCols1p bCols1n bCols1c bUnique1 w K) : CallsV prog F.schema_indexes_1 #[.agg #[.slice aCols1p aCols1n aCols1c, .bool aUnique1], .agg #[.slice bCols1p bCols1n bCols1c, .bool bUnique1]] w K :=
  vcFn.calls (an := An.schema_indexes_1) mixed tabOK eqsOK Go.Proofs.Tryd.func118 (by kernel_rfl) (by kernel_rfl) (by kernel_rfl) ((by kernel_rfl : vcFn prog eqs tab An.schema_indexes_1 Go.Proofs.Tryd.f118 [.agg #[.slice aCols1p aCols1n aCols1c, .bool aUnique1], .agg #[.slice bCols1p bCols1n bCols1c, .bool bUnique1]] w K = C.schema_indexes_1 aCols1p aCols1n aCols1c aUnique1 bCols1p bCols1n bCols1c bUnique1 w K).mpr h)

/-- strings.HasPrefix -/
def C.strings_HasPrefix (s1 : ByteArray) (prefixv1 : ByteArray) (w : World) (K : Value → World → Prop) : Prop :=
  CallsV prog F.internal_stringslite_HasPrefix #[.string s1, .string prefixv1] w (fun v1 wv1 =>
    ∃ (r1 : Bool),
    v1 = .bool r1 ∧
    K (.bool r1) wv1)
def An.strings_HasPrefix : Ann := ⟨[], [], []⟩
theorem R.strings_HasPrefix {s1 : ByteArray} {prefixv1 : ByteArray} {w : World} {K : Value → World → Prop} (h : C.strings_HasPrefix s1 prefixv1 w K) : CallsV prog F.strings_HasPrefix #[.string s1, .string prefixv1] w K :=
  vcFn.calls (an := An.strings_HasPrefix) mixed tabOK eqsOK Go.Proofs.Tryd.func119 (by kernel_rfl) (by kernel_rfl) (by kernel_rfl) ((by kernel_rfl : vcFn prog eqs tab An.strings_HasPrefix Go.Proofs.Tryd.f119 [.string s1, .string prefixv1] w K = C.strings_HasPrefix s1 prefixv1 w K).mpr h)

end Go.Proofs.YtjcgociobhhijaaDoor
