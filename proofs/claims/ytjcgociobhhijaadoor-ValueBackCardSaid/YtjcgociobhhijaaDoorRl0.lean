/- Verification conditions of functions, and that they are theirs: the kernel reckons both sides. -/
import Derived.Test.YtjcgociobhhijaaDoorNm
namespace Go.Proofs.YtjcgociobhhijaaDoor
open Go Go.Proofs.YtjcgociobhhijaaDoor.SX
set_option maxRecDepth 100000
set_option linter.unusedVariables false

/-- afflux/affluxlaw02.ValueOrders -/
def C.affluxlaw02_ValueOrders (a1p : Option Addr) (a1n a1c : Nat) (b1p : Option Addr) (b1n b1c : Nat) (n1 : Int) (s1 : ByteArray) (t1 : Bool) (w : World) (K : Value → World → Prop) : Prop :=
  ∃ Jv1 : World → Prop,
  (CallsV prog F.affluxref02_Great #[.slice a1p a1n a1c] w (fun v1 wv1 =>
    ∃ (r1 : Bool),
    v1 = .bool r1 ∧
    ifB r1 (
      CallsV prog F.affluxlaw02_awake #[] wv1 (fun v2 wv2 =>
        ∃ (r2 : Bool),
        v2 = .bool r2 ∧
        K (.bool r2) wv2)) (
      CallsV prog F.affluxref02_Great #[.slice b1p b1n b1c] wv1 (fun v3 wv3 =>
        ∃ (r3 : Bool),
        v3 = .bool r3 ∧
        ifB r3 (
          CallsV prog F.affluxlaw02_awake #[] wv3 (fun v4 wv4 =>
            ∃ (r4 : Bool),
            v4 = .bool r4 ∧
            K (.bool r4) wv4)) (
          ifB (decide ((300 : Int) < ((s1.size : Nat) : Int))) (
            CallsV prog F.affluxlaw02_awake #[] wv3 (fun v5 wv5 =>
              ∃ (r5 : Bool),
              v5 = .bool r5 ∧
              K (.bool r5) wv5)) (
            Jv1 wv3)))))) ∧
  (∀ wv6, Jv1 wv6 →
  ∃ Jv2 : World → Prop,
  (∃ (Iv1 : Int → World → Prop) (m1 : Int → World → Nat),
  Iv1 0 wv6 ∧
  ∀ (i1 : Int) wv7, Iv1 i1 wv7 →
  ifB (decide (i1 < ((a1n : Nat) : Int))) (
    ifB (decide (i1 < ((b1n : Nat) : Int))) (
      ∃ a2, a1p = some a2 ∧ 0 ≤ i1 ∧ i1 < ((a1n : Nat) : Int) ∧
      ∃ (eKind1 : Int) (eN1 : Int) (eS1 : ByteArray),
      cellsAt wv7.drew (a2.add (i1.toNat * 3)) 0 [.int .i64 eKind1, .int .i64 eN1, .string eS1] ∧
      ∃ a3, b1p = some a3 ∧ 0 ≤ i1 ∧ i1 < ((b1n : Nat) : Int) ∧
      ∃ (eKind2 : Int) (eN2 : Int) (eS2 : ByteArray),
      cellsAt wv7.drew (a3.add (i1.toNat * 3)) 0 [.int .i64 eKind2, .int .i64 eN2, .string eS2] ∧
      ∃ a4, a1p = some a4 ∧ 0 ≤ i1 ∧ i1 < ((a1n : Nat) : Int) ∧
      ∃ (eKind3 : Int) (eN3 : Int) (eS3 : ByteArray),
      cellsAt wv7.drew (a4.add (i1.toNat * 3)) 0 [.int .i64 eKind3, .int .i64 eN3, .string eS3] ∧
      ∃ a5, b1p = some a5 ∧ 0 ≤ i1 ∧ i1 < ((b1n : Nat) : Int) ∧
      ∃ (eKind4 : Int) (eN4 : Int) (eS4 : ByteArray),
      cellsAt wv7.drew (a5.add (i1.toNat * 3)) 0 [.int .i64 eKind4, .int .i64 eN4, .string eS4] ∧
      CallsV prog F.value_Cmp #[.agg #[.int .i64 eKind1, .int .i64 eN1, .string eS1], .agg #[.int .i64 eKind2, .int .i64 eN2, .string eS2]] wv7.drew (fun v6 wv8 =>
        ∃ (r6 : Int),
        v6 = .int .i64 r6 ∧
        cellsAt wv8 (a5.add (i1.toNat * 3)) 0 [.int .i64 eKind4, .int .i64 eN4, .string eS4] ∧
        cellsAt wv8 (a4.add (i1.toNat * 3)) 0 [.int .i64 eKind3, .int .i64 eN3, .string eS3] ∧
        CallsV prog F.affluxref02_Cmp #[.agg #[.int .i64 eKind3, .int .i64 eN3, .string eS3], .agg #[.int .i64 eKind4, .int .i64 eN4, .string eS4]] wv8 (fun v7 wv9 =>
          ∃ (r7 : Int),
          v7 = .int .i64 r7 ∧
          ifB (r6 != r7) (
            K (.bool false) wv9) (
            Iv1 (IntKind.i64.wrap (i1 + (1 : Int))) wv9 ∧ m1 (IntKind.i64.wrap (i1 + (1 : Int))) wv9 < m1 i1 wv7)))) (
      Jv2 wv7)) (
    Jv2 wv7)) ∧
  (∀ wv10, Jv2 wv10 →
  ∃ Jv3 : Int → World → Prop,
  (ifB t1 (
    Jv3 1 wv10) (
    Jv3 0 wv10)) ∧
  (∀ (x1 : Int) wv11, Jv3 x1 wv11 →
  CallsV prog F.value_Right #[.slice a1p a1n a1c] wv11 (fun v8 wv12 =>
    ∃ (r8 : Bool),
    v8 = .bool r8 ∧
    CallsV prog F.affluxref02_All #[.slice a1p a1n a1c] wv12 (fun v9 wv13 =>
      ∃ (r9 : Bool),
      v9 = .bool r9 ∧
      ifB (r8 == r9) (
        CallsV prog F.value_Rows #[.slice a1p a1n a1c, .slice b1p b1n b1c] wv13 (fun v10 wv14 =>
          ∃ (r10 : Int),
          v10 = .int .i64 r10 ∧
          CallsV prog F.affluxref02_Rows #[.slice a1p a1n a1c, .slice b1p b1n b1c] wv14 (fun v11 wv15 =>
            ∃ (r11 : Int),
            v11 = .int .i64 r11 ∧
            ifB (r10 == r11) (
              CallsV prog F.value_Int #[.int .i64 n1] wv15 (fun v12 wv16 =>
                ∃ (rKind1 : Int) (rN1 : Int) (rS1 : ByteArray),
                v12 = .agg #[.int .i64 rKind1, .int .i64 rN1, .string rS1] ∧
                ifB ((rKind1 == (1 : Int)) && ((rN1 == n1) && (sEq rS1 (bs []) && true))) (
                  CallsV prog F.value_Text #[.string s1] wv16 (fun v13 wv17 =>
                    ∃ (rKind2 : Int) (rN2 : Int) (rS2 : ByteArray),
                    v13 = .agg #[.int .i64 rKind2, .int .i64 rN2, .string rS2] ∧
                    ifB ((rKind2 == (2 : Int)) && ((rN2 == (0 : Int)) && (sEq rS2 s1 && true))) (
                      CallsV prog F.value_Bool #[.bool t1] wv17 (fun v14 wv18 =>
                        ∃ (rKind3 : Int) (rN3 : Int) (rS3 : ByteArray),
                        v14 = .agg #[.int .i64 rKind3, .int .i64 rN3, .string rS3] ∧
                        ifB ((rKind3 == (3 : Int)) && ((rN3 == x1) && (sEq rS3 (bs []) && true))) (
                          CallsV prog F.affluxlaw02_awake #[] wv18 (fun v15 wv19 =>
                            ∃ (r12 : Bool),
                            v15 = .bool r12 ∧
                            K (.bool r12) wv19)) (
                          K (.bool false) wv18))) (
                      K (.bool false) wv17))) (
                  K (.bool false) wv16))) (
              K (.bool false) wv15)))) (
        K (.bool false) wv13))))))
def An.affluxlaw02_ValueOrders : Ann := ⟨[(6, .sil 0 [] (.sil 1 [] (.sil 2 [] (.sil 3 [] (.sil 4 [] (.sil 5 [] (.sil 6 [] (.sil 7 [] (.sil 9 [] (.sil 10 [] (.sil 11 [] (.sil 12 [8] (.sil 13 [] (.sil 14 [] (.sil 15 [] (.sil 16 [8] (.act 8 (.act 17 (.sil 18 [] (.done))))))))))))))))))))], [(4, [(11, 3)], [0, 1, 2, 3, 4])], [(3, [], [0, 1, 2, 3, 4]), (8, [], [0, 1, 2, 3, 4]), (11, [(12, 2)], [0, 1, 2, 3, 4])]⟩
theorem R.affluxlaw02_ValueOrders {a1p : Option Addr} {a1n a1c : Nat} {b1p : Option Addr} {b1n b1c : Nat} {n1 : Int} {s1 : ByteArray} {t1 : Bool} {w : World} {K : Value → World → Prop} (h : C.affluxlaw02_ValueOrders a1p a1n a1c b1p b1n b1c n1 s1 t1 w K) : CallsV prog F.affluxlaw02_ValueOrders #[.slice a1p a1n a1c, .slice b1p b1n b1c, .int .i64 n1, .string s1, .bool t1] w K :=
  vcFn.calls (an := An.affluxlaw02_ValueOrders) mixed tabOK eqsOK Go.Proofs.Tryd.func3 (by kernel_rfl) (by kernel_rfl) (by kernel_rfl) ((by kernel_rfl : vcFn prog eqs tab An.affluxlaw02_ValueOrders Go.Proofs.Tryd.f3 [.slice a1p a1n a1c, .slice b1p b1n b1c, .int .i64 n1, .string s1, .bool t1] w K = C.affluxlaw02_ValueOrders a1p a1n a1c b1p b1n b1c n1 s1 t1 w K).mpr h)

/-- afflux/affluxlaw02.ValueKeys -/
def C.affluxlaw02_ValueKeys (l1p : Option Addr) (l1n l1c : Nat) (s1 : ByteArray) (w : World) (K : Value → World → Prop) : Prop :=
  ∃ Jv1 : World → Prop,
  (CallsV prog F.affluxref02_Great #[.slice l1p l1n l1c] w (fun v1 wv1 =>
    ∃ (r1 : Bool),
    v1 = .bool r1 ∧
    ifB r1 (
      CallsV prog F.affluxlaw02_awake #[] wv1 (fun v2 wv2 =>
        ∃ (r2 : Bool),
        v2 = .bool r2 ∧
        K (.bool r2) wv2)) (
      ifB (decide ((2000 : Int) < ((s1.size : Nat) : Int))) (
        CallsV prog F.affluxlaw02_awake #[] wv1 (fun v3 wv3 =>
          ∃ (r3 : Bool),
          v3 = .bool r3 ∧
          K (.bool r3) wv3)) (
        Jv1 wv1)))) ∧
  (∀ wv4, Jv1 wv4 →
  ∃ Jv2 : ByteArray → World → Prop,
  (CallsV prog F.affluxref02_All #[.slice l1p l1n l1c] wv4 (fun v4 wv5 =>
    ∃ (r4 : Bool),
    v4 = .bool r4 ∧
    ifB r4 (
      CallsV prog F.affluxref02_Keys #[.slice l1p l1n l1c] wv5 (fun v5 wv6 =>
        ∃ (r5 : ByteArray),
        v5 = .string r5 ∧
        Jv2 r5 wv6)) (
      Jv2 (bs []) wv5))) ∧
  (∀ (want1 : ByteArray) wv7, Jv2 want1 wv7 →
  CallsV prog F.value_Unkey #[.string s1] wv7 (fun v6 wv8 =>
    ∃ (ra1p : Option Addr) (ra1n ra1c : Nat) (rb1 : Bool),
    v6 = .tuple #[.slice ra1p ra1n ra1c, .bool rb1] ∧
    CallsV prog F.affluxref02_Unkey #[.string s1] wv8 (fun v7 wv9 =>
      ∃ (ra2p : Option Addr) (ra2n ra2c : Nat) (rb2 : Bool),
      v7 = .tuple #[.slice ra2p ra2n ra2c, .bool rb2] ∧
      CallsV prog F.value_Key #[.slice l1p l1n l1c] wv9 (fun v8 wv10 =>
        ∃ (r6 : ByteArray),
        v8 = .string r6 ∧
        ifB (sEq r6 want1) (
          CallsV prog F.affluxref02_Same #[.slice ra1p ra1n ra1c, .slice ra2p ra2n ra2c] wv10 (fun v9 wv11 =>
            ∃ (r7 : Bool),
            v9 = .bool r7 ∧
            ifB r7 (
              ifB (rb1 == rb2) (
                CallsV prog F.affluxlaw02_awake #[] wv11 (fun v10 wv12 =>
                  ∃ (r8 : Bool),
                  v10 = .bool r8 ∧
                  K (.bool r8) wv12)) (
                K (.bool false) wv11)) (
              K (.bool false) wv11))) (
          K (.bool false) wv10))))))
def An.affluxlaw02_ValueKeys : Ann := ⟨[], [], [(3, [], [0, 1]), (6, [(5, 9)], [0, 1])]⟩
theorem R.affluxlaw02_ValueKeys {l1p : Option Addr} {l1n l1c : Nat} {s1 : ByteArray} {w : World} {K : Value → World → Prop} (h : C.affluxlaw02_ValueKeys l1p l1n l1c s1 w K) : CallsV prog F.affluxlaw02_ValueKeys #[.slice l1p l1n l1c, .string s1] w K :=
  vcFn.calls (an := An.affluxlaw02_ValueKeys) mixed tabOK eqsOK Go.Proofs.Tryd.func4 (by kernel_rfl) (by kernel_rfl) (by kernel_rfl) ((by kernel_rfl : vcFn prog eqs tab An.affluxlaw02_ValueKeys Go.Proofs.Tryd.f4 [.slice l1p l1n l1c, .string s1] w K = C.affluxlaw02_ValueKeys l1p l1n l1c s1 w K).mpr h)

/-- afflux/affluxlaw03.SchemaPicks -/
def C.affluxlaw03_SchemaPicks (row1p : Option Addr) (row1n row1c : Nat) (places1p : Option Addr) (places1n places1c : Nat) (w : World) (K : Value → World → Prop) : Prop :=
  ∃ Jv1 : World → Prop,
  (CallsV prog F.affluxref02_Great #[.slice row1p row1n row1c] w (fun v1 wv1 =>
    ∃ (r1 : Bool),
    v1 = .bool r1 ∧
    ifB r1 (
      CallsV prog F.affluxlaw03_awake #[] wv1 (fun v2 wv2 =>
        ∃ (r2 : Bool),
        v2 = .bool r2 ∧
        K (.bool r2) wv2)) (
      ifB (decide ((30 : Int) < ((places1n : Nat) : Int))) (
        CallsV prog F.affluxlaw03_awake #[] wv1 (fun v3 wv3 =>
          ∃ (r3 : Bool),
          v3 = .bool r3 ∧
          K (.bool r3) wv3)) (
        Jv1 wv1)))) ∧
  (∀ wv4, Jv1 wv4 →
  ∃ (Iv1 : Bool → Int → World → Prop) (m1 : Bool → Int → World → Nat),
  Iv1 true 0 wv4 ∧
  ∀ (there1 : Bool) (i1 : Int) wv5, Iv1 there1 i1 wv5 →
  ifB (decide (i1 < ((places1n : Nat) : Int))) (
    ifB there1 (
      ∃ a1, places1p = some a1 ∧ 0 ≤ i1 ∧ i1 < ((places1n : Nat) : Int) ∧
      ∃ (e1 : Int),
      wv5.cell? (a1.add (i1.toNat * 1)) = some (.int .i64 e1) ∧
      ifB (decide ((0 : Int) ≤ e1)) (
        ∃ a2, places1p = some a2 ∧ 0 ≤ i1 ∧ i1 < ((places1n : Nat) : Int) ∧
        ∃ (e2 : Int),
        wv5.cell? (a2.add (i1.toNat * 1)) = some (.int .i64 e2) ∧
        Iv1 (decide (e2 < ((row1n : Nat) : Int))) (IntKind.i64.wrap (i1 + (1 : Int))) wv5 ∧ m1 (decide (e2 < ((row1n : Nat) : Int))) (IntKind.i64.wrap (i1 + (1 : Int))) wv5 < m1 there1 i1 wv5) (
        Iv1 false (IntKind.i64.wrap (i1 + (1 : Int))) wv5 ∧ m1 false (IntKind.i64.wrap (i1 + (1 : Int))) wv5 < m1 there1 i1 wv5)) (
      Iv1 false (IntKind.i64.wrap (i1 + (1 : Int))) wv5 ∧ m1 false (IntKind.i64.wrap (i1 + (1 : Int))) wv5 < m1 there1 i1 wv5)) (
    CallsV prog F.schema_Pick #[.slice row1p row1n row1c, .slice places1p places1n places1c] wv5 (fun v4 wv6 =>
      ∃ (r4p : Option Addr) (r4n r4c : Nat),
      v4 = .slice r4p r4n r4c ∧
      ifB (!there1) (
        ifB (((r4n : Nat) : Int) == (0 : Int)) (
          CallsV prog F.affluxlaw03_awake #[] wv6 (fun v5 wv7 =>
            ∃ (r5 : Bool),
            v5 = .bool r5 ∧
            K (.bool r5) wv7)) (
          K (.bool false) wv6)) (
        CallsV prog F.affluxref03_Pick #[.slice row1p row1n row1c, .slice places1p places1n places1c] wv6 (fun v6 wv8 =>
          ∃ (r6p : Option Addr) (r6n r6c : Nat),
          v6 = .slice r6p r6n r6c ∧
          CallsV prog F.affluxref02_Same #[.slice r4p r4n r4c, .slice r6p r6n r6c] wv8 (fun v7 wv9 =>
            ∃ (r7 : Bool),
            v7 = .bool r7 ∧
            ifB r7 (
              CallsV prog F.affluxlaw03_awake #[] wv9 (fun v8 wv10 =>
                ∃ (r8 : Bool),
                v8 = .bool r8 ∧
                K (.bool r8) wv10)) (
              K (.bool false) wv9)))))))
def An.affluxlaw03_SchemaPicks : Ann := ⟨[], [(5, [(5, 4), (6, 3)], [0, 1])], [(3, [], [0, 1])]⟩
theorem R.affluxlaw03_SchemaPicks {row1p : Option Addr} {row1n row1c : Nat} {places1p : Option Addr} {places1n places1c : Nat} {w : World} {K : Value → World → Prop} (h : C.affluxlaw03_SchemaPicks row1p row1n row1c places1p places1n places1c w K) : CallsV prog F.affluxlaw03_SchemaPicks #[.slice row1p row1n row1c, .slice places1p places1n places1c] w K :=
  vcFn.calls (an := An.affluxlaw03_SchemaPicks) mixed tabOK eqsOK Go.Proofs.Tryd.func5 (by kernel_rfl) (by kernel_rfl) (by kernel_rfl) ((by kernel_rfl : vcFn prog eqs tab An.affluxlaw03_SchemaPicks Go.Proofs.Tryd.f5 [.slice row1p row1n row1c, .slice places1p places1n places1c] w K = C.affluxlaw03_SchemaPicks row1p row1n row1c places1p places1n places1c w K).mpr h)

/-- afflux/affluxlaw03.SchemaStands -/
def C.affluxlaw03_SchemaStands (sName1 : ByteArray) (sCols1p : Option Addr) (sCols1n sCols1c : Nat) (sIndexes1p : Option Addr) (sIndexes1n sIndexes1c : Nat) (sLimit1 : Int) (sParts1 : Int) (sBy1 : Int) (a1p : Option Addr) (a1n a1c : Nat) (b1p : Option Addr) (b1n b1c : Nat) (index1 : Int) (w : World) (K : Value → World → Prop) : Prop :=
  ∀ b2 wv1, New w (.cells #[.string sName1, .slice sCols1p sCols1n sCols1c, .slice sIndexes1p sIndexes1n sIndexes1c, .int .i64 sLimit1, .int .i64 sParts1, .int .i64 sBy1] T.api_Schema) b2 wv1 →
  ∃ Jv1 : World → Prop,
  (∃ (xName1 : ByteArray) (xCols1p : Option Addr) (xCols1n xCols1c : Nat) (xIndexes1p : Option Addr) (xIndexes1n xIndexes1c : Nat) (xLimit1 : Int) (xParts1 : Int) (xBy1 : Int),
  cellsAt wv1 (Addr.mk b2 0 none) 0 [.string xName1, .slice xCols1p xCols1n xCols1c, .slice xIndexes1p xIndexes1n xIndexes1c, .int .i64 xLimit1, .int .i64 xParts1, .int .i64 xBy1] ∧
  CallsV prog F.affluxref03_Great #[.agg #[.string xName1, .slice xCols1p xCols1n xCols1c, .slice xIndexes1p xIndexes1n xIndexes1c, .int .i64 xLimit1, .int .i64 xParts1, .int .i64 xBy1]] wv1 (fun v1 wv2 =>
    ∃ (r1 : Bool),
    v1 = .bool r1 ∧
    ifB r1 (
      CallsV prog F.affluxlaw03_awake #[] wv2 (fun v2 wv3 =>
        ∃ (r2 : Bool),
        v2 = .bool r2 ∧
        K (.bool r2) wv3)) (
      CallsV prog F.affluxref02_Great #[.slice a1p a1n a1c] wv2 (fun v3 wv4 =>
        ∃ (r3 : Bool),
        v3 = .bool r3 ∧
        ifB r3 (
          CallsV prog F.affluxlaw03_awake #[] wv4 (fun v4 wv5 =>
            ∃ (r4 : Bool),
            v4 = .bool r4 ∧
            K (.bool r4) wv5)) (
          CallsV prog F.affluxref02_Great #[.slice b1p b1n b1c] wv4 (fun v5 wv6 =>
            ∃ (r5 : Bool),
            v5 = .bool r5 ∧
            ifB r5 (
              CallsV prog F.affluxlaw03_awake #[] wv6 (fun v6 wv7 =>
                ∃ (r6 : Bool),
                v6 = .bool r6 ∧
                K (.bool r6) wv7)) (
              ∃ (xName2 : ByteArray) (xCols2p : Option Addr) (xCols2n xCols2c : Nat) (xIndexes2p : Option Addr) (xIndexes2n xIndexes2c : Nat) (xLimit2 : Int) (xParts2 : Int) (xBy2 : Int),
              cellsAt wv6 (Addr.mk b2 0 none) 0 [.string xName2, .slice xCols2p xCols2n xCols2c, .slice xIndexes2p xIndexes2n xIndexes2c, .int .i64 xLimit2, .int .i64 xParts2, .int .i64 xBy2] ∧
              CallsV prog F.schema_Fits #[.agg #[.string xName2, .slice xCols2p xCols2n xCols2c, .slice xIndexes2p xIndexes2n xIndexes2c, .int .i64 xLimit2, .int .i64 xParts2, .int .i64 xBy2], .slice a1p a1n a1c] wv6 (fun v7 wv8 =>
                ∃ (r7 : Bool),
                v7 = .bool r7 ∧
                ifB (!r7) (
                  CallsV prog F.affluxlaw03_awake #[] wv8 (fun v8 wv9 =>
                    ∃ (r8 : Bool),
                    v8 = .bool r8 ∧
                    K (.bool r8) wv9)) (
                  ∃ (xName3 : ByteArray) (xCols3p : Option Addr) (xCols3n xCols3c : Nat) (xIndexes3p : Option Addr) (xIndexes3n xIndexes3c : Nat) (xLimit3 : Int) (xParts3 : Int) (xBy3 : Int),
                  cellsAt wv8 (Addr.mk b2 0 none) 0 [.string xName3, .slice xCols3p xCols3n xCols3c, .slice xIndexes3p xIndexes3n xIndexes3c, .int .i64 xLimit3, .int .i64 xParts3, .int .i64 xBy3] ∧
                  CallsV prog F.schema_Fits #[.agg #[.string xName3, .slice xCols3p xCols3n xCols3c, .slice xIndexes3p xIndexes3n xIndexes3c, .int .i64 xLimit3, .int .i64 xParts3, .int .i64 xBy3], .slice b1p b1n b1c] wv8 (fun v9 wv10 =>
                    ∃ (r9 : Bool),
                    v9 = .bool r9 ∧
                    ifB (!r9) (
                      CallsV prog F.affluxlaw03_awake #[] wv10 (fun v10 wv11 =>
                        ∃ (r10 : Bool),
                        v10 = .bool r10 ∧
                        K (.bool r10) wv11)) (
                      ∃ (Indexes1p : Option Addr) (Indexes1n Indexes1c : Nat),
                      wv10.cell? ((Addr.mk b2 0 none).add 2) = some (.slice Indexes1p Indexes1n Indexes1c) ∧
                      ifB (((Indexes1n : Nat) : Int) == (0 : Int)) (
                        CallsV prog F.affluxlaw03_awake #[] wv10 (fun v11 wv12 =>
                          ∃ (r11 : Bool),
                          v11 = .bool r11 ∧
                          K (.bool r11) wv12)) (
                        Jv1 wv10)))))))))))) ∧
  (∀ wv13, Jv1 wv13 →
  ∃ (Indexes2p : Option Addr) (Indexes2n Indexes2c : Nat),
  wv13.cell? ((Addr.mk b2 0 none).add 2) = some (.slice Indexes2p Indexes2n Indexes2c) ∧
  (IntKind.u64.wrap ((Indexes2n : Nat) : Int)) ≠ 0 ∧
  ∃ (xName4 : ByteArray) (xCols4p : Option Addr) (xCols4n xCols4c : Nat) (xIndexes4p : Option Addr) (xIndexes4n xIndexes4c : Nat) (xLimit4 : Int) (xParts4 : Int) (xBy4 : Int),
  cellsAt wv13 (Addr.mk b2 0 none) 0 [.string xName4, .slice xCols4p xCols4n xCols4c, .slice xIndexes4p xIndexes4n xIndexes4c, .int .i64 xLimit4, .int .i64 xParts4, .int .i64 xBy4] ∧
  CallsV prog F.schema_Key #[.agg #[.string xName4, .slice xCols4p xCols4n xCols4c, .slice xIndexes4p xIndexes4n xIndexes4c, .int .i64 xLimit4, .int .i64 xParts4, .int .i64 xBy4], .int .i64 (IntKind.i64.wrap (Int.tmod (IntKind.u64.wrap index1) (IntKind.u64.wrap ((Indexes2n : Nat) : Int)))), .slice a1p a1n a1c] wv13 (fun v12 wv14 =>
    ∃ (ra1 : ByteArray) (rb1 : Int),
    v12 = .tuple #[.string ra1, .int .i64 rb1] ∧
    ∃ (xName5 : ByteArray) (xCols5p : Option Addr) (xCols5n xCols5c : Nat) (xIndexes5p : Option Addr) (xIndexes5n xIndexes5c : Nat) (xLimit5 : Int) (xParts5 : Int) (xBy5 : Int),
    cellsAt wv14 (Addr.mk b2 0 none) 0 [.string xName5, .slice xCols5p xCols5n xCols5c, .slice xIndexes5p xIndexes5n xIndexes5c, .int .i64 xLimit5, .int .i64 xParts5, .int .i64 xBy5] ∧
    CallsV prog F.schema_Key #[.agg #[.string xName5, .slice xCols5p xCols5n xCols5c, .slice xIndexes5p xIndexes5n xIndexes5c, .int .i64 xLimit5, .int .i64 xParts5, .int .i64 xBy5], .int .i64 (IntKind.i64.wrap (Int.tmod (IntKind.u64.wrap index1) (IntKind.u64.wrap ((Indexes2n : Nat) : Int)))), .slice b1p b1n b1c] wv14 (fun v13 wv15 =>
      ∃ (ra2 : ByteArray) (rb2 : Int),
      v13 = .tuple #[.string ra2, .int .i64 rb2] ∧
      ∃ (Indexes3p : Option Addr) (Indexes3n Indexes3c : Nat),
      wv15.drew.cell? ((Addr.mk b2 0 none).add 2) = some (.slice Indexes3p Indexes3n Indexes3c) ∧
      ∃ a2, Indexes3p = some a2 ∧ 0 ≤ IntKind.i64.wrap (Int.tmod (IntKind.u64.wrap index1) (IntKind.u64.wrap ((Indexes2n : Nat) : Int))) ∧ IntKind.i64.wrap (Int.tmod (IntKind.u64.wrap index1) (IntKind.u64.wrap ((Indexes2n : Nat) : Int))) < ((Indexes3n : Nat) : Int) ∧
      ∃ (Cols1p : Option Addr) (Cols1n Cols1c : Nat),
      wv15.drew.cell? ((a2.add ((IntKind.i64.wrap (Int.tmod (IntKind.u64.wrap index1) (IntKind.u64.wrap ((Indexes2n : Nat) : Int)))).toNat * 2)).add 0) = some (.slice Cols1p Cols1n Cols1c) ∧
      ∃ (Indexes4p : Option Addr) (Indexes4n Indexes4c : Nat),
      wv15.drew.cell? ((Addr.mk b2 0 none).add 2) = some (.slice Indexes4p Indexes4n Indexes4c) ∧
      ∃ a3, Indexes4p = some a3 ∧ 0 ≤ IntKind.i64.wrap (Int.tmod (IntKind.u64.wrap index1) (IntKind.u64.wrap ((Indexes2n : Nat) : Int))) ∧ IntKind.i64.wrap (Int.tmod (IntKind.u64.wrap index1) (IntKind.u64.wrap ((Indexes2n : Nat) : Int))) < ((Indexes4n : Nat) : Int) ∧
      ∃ (Cols2p : Option Addr) (Cols2n Cols2c : Nat),
      wv15.drew.cell? ((a3.add ((IntKind.i64.wrap (Int.tmod (IntKind.u64.wrap index1) (IntKind.u64.wrap ((Indexes2n : Nat) : Int)))).toNat * 2)).add 0) = some (.slice Cols2p Cols2n Cols2c) ∧
      CallsV prog F.schema_Pick #[.slice a1p a1n a1c, .slice Cols1p Cols1n Cols1c] wv15.drew (fun v14 wv16 =>
        ∃ (r12p : Option Addr) (r12n r12c : Nat),
        v14 = .slice r12p r12n r12c ∧
        wv16.cell? ((a3.add ((IntKind.i64.wrap (Int.tmod (IntKind.u64.wrap index1) (IntKind.u64.wrap ((Indexes2n : Nat) : Int)))).toNat * 2)).add 0) = some (.slice Cols2p Cols2n Cols2c) ∧
        wv16.cell? ((Addr.mk b2 0 none).add 2) = some (.slice Indexes4p Indexes4n Indexes4c) ∧
        CallsV prog F.schema_Pick #[.slice b1p b1n b1c, .slice Cols2p Cols2n Cols2c] wv16 (fun v15 wv17 =>
          ∃ (r13p : Option Addr) (r13n r13c : Nat),
          v15 = .slice r13p r13n r13c ∧
          CallsV prog F.affluxref02_Rows #[.slice r12p r12n r12c, .slice r13p r13n r13c] wv17 (fun v16 wv18 =>
            ∃ (r14 : Int),
            v16 = .int .i64 r14 ∧
            ∃ Jv2 : Int → World → Prop,
            (ifB (r14 == (0 : Int)) (
              ∃ (Indexes5p : Option Addr) (Indexes5n Indexes5c : Nat),
              wv18.cell? ((Addr.mk b2 0 none).add 2) = some (.slice Indexes5p Indexes5n Indexes5c) ∧
              ∃ a4, Indexes5p = some a4 ∧ 0 ≤ IntKind.i64.wrap (Int.tmod (IntKind.u64.wrap index1) (IntKind.u64.wrap ((Indexes2n : Nat) : Int))) ∧ IntKind.i64.wrap (Int.tmod (IntKind.u64.wrap index1) (IntKind.u64.wrap ((Indexes2n : Nat) : Int))) < ((Indexes5n : Nat) : Int) ∧
              ∃ (Unique1 : Bool),
              wv18.cell? ((a4.add ((IntKind.i64.wrap (Int.tmod (IntKind.u64.wrap index1) (IntKind.u64.wrap ((Indexes2n : Nat) : Int)))).toNat * 2)).add 1) = some (.bool Unique1) ∧
              ifB (!Unique1) (
                ∃ (Indexes6p : Option Addr) (Indexes6n Indexes6c : Nat),
                wv18.drew.cell? ((Addr.mk b2 0 none).add 2) = some (.slice Indexes6p Indexes6n Indexes6c) ∧
                ∃ a5, Indexes6p = some a5 ∧ 0 ≤ (0 : Int) ∧ (0 : Int) < ((Indexes6n : Nat) : Int) ∧
                ∃ (Cols3p : Option Addr) (Cols3n Cols3c : Nat),
                wv18.drew.cell? ((a5.add ((0 : Int).toNat * 2)).add 0) = some (.slice Cols3p Cols3n Cols3c) ∧
                ∃ (Indexes7p : Option Addr) (Indexes7n Indexes7c : Nat),
                wv18.drew.cell? ((Addr.mk b2 0 none).add 2) = some (.slice Indexes7p Indexes7n Indexes7c) ∧
                ∃ a6, Indexes7p = some a6 ∧ 0 ≤ (0 : Int) ∧ (0 : Int) < ((Indexes7n : Nat) : Int) ∧
                ∃ (Cols4p : Option Addr) (Cols4n Cols4c : Nat),
                wv18.drew.cell? ((a6.add ((0 : Int).toNat * 2)).add 0) = some (.slice Cols4p Cols4n Cols4c) ∧
                CallsV prog F.schema_Pick #[.slice a1p a1n a1c, .slice Cols3p Cols3n Cols3c] wv18.drew (fun v17 wv19 =>
                  ∃ (r15p : Option Addr) (r15n r15c : Nat),
                  v17 = .slice r15p r15n r15c ∧
                  wv19.cell? ((a6.add ((0 : Int).toNat * 2)).add 0) = some (.slice Cols4p Cols4n Cols4c) ∧
                  wv19.cell? ((Addr.mk b2 0 none).add 2) = some (.slice Indexes7p Indexes7n Indexes7c) ∧
                  CallsV prog F.schema_Pick #[.slice b1p b1n b1c, .slice Cols4p Cols4n Cols4c] wv19 (fun v18 wv20 =>
                    ∃ (r16p : Option Addr) (r16n r16c : Nat),
                    v18 = .slice r16p r16n r16c ∧
                    CallsV prog F.affluxref02_Rows #[.slice r15p r15n r15c, .slice r16p r16n r16c] wv20 (fun v19 wv21 =>
                      ∃ (r17 : Int),
                      v19 = .int .i64 r17 ∧
                      Jv2 r17 wv21)))) (
                Jv2 r14 wv18)) (
              Jv2 r14 wv18)) ∧
            (∀ (way1 : Int) wv22, Jv2 way1 wv22 →
            ifB (rb1 == (0 : Int)) (
              ifB (rb2 == (0 : Int)) (
                ifB ((sLt ra1 ra2) == (decide (way1 < (0 : Int)))) (
                  ifB ((sEq ra1 ra2) == (way1 == (0 : Int))) (
                    CallsV prog F.affluxlaw03_awake #[] wv22 (fun v20 wv23 =>
                      ∃ (r18 : Bool),
                      v20 = .bool r18 ∧
                      K (.bool r18) wv23)) (
                    K (.bool false) wv22)) (
                  K (.bool false) wv22)) (
                K (.bool false) wv22)) (
              K (.bool false) wv22))))))))
def An.affluxlaw03_SchemaStands : Ann := ⟨[(6, .sil 0 [] (.sil 1 [] (.sil 2 [] (.sil 3 [] (.sil 4 [] (.sil 5 [] (.sil 6 [] (.sil 8 [] (.sil 9 [] (.sil 10 [7] (.sil 11 [] (.sil 12 [] (.sil 13 [] (.sil 14 [7] (.act 7 (.act 15 (.act 16 (.sil 17 [] (.done))))))))))))))))))), (8, .sil 0 [] (.sil 1 [] (.sil 2 [] (.sil 3 [] (.sil 4 [] (.sil 5 [] (.sil 7 [] (.sil 8 [] (.sil 9 [6] (.sil 10 [] (.sil 11 [] (.sil 12 [6] (.act 6 (.act 13 (.act 14 (.sil 15 [] (.done)))))))))))))))))], [], [(3, [], [1, 2, 3, 4]), (9, [(14, 3)], [1, 2, 4, 9, 10, 11, 12, 13])]⟩
theorem R.affluxlaw03_SchemaStands {sName1 : ByteArray} {sCols1p : Option Addr} {sCols1n sCols1c : Nat} {sIndexes1p : Option Addr} {sIndexes1n sIndexes1c : Nat} {sLimit1 : Int} {sParts1 : Int} {sBy1 : Int} {a1p : Option Addr} {a1n a1c : Nat} {b1p : Option Addr} {b1n b1c : Nat} {index1 : Int} {w : World} {K : Value → World → Prop} (h : C.affluxlaw03_SchemaStands sName1 sCols1p sCols1n sCols1c sIndexes1p sIndexes1n sIndexes1c sLimit1 sParts1 sBy1 a1p a1n a1c b1p b1n b1c index1 w K) : CallsV prog F.affluxlaw03_SchemaStands #[.agg #[.string sName1, .slice sCols1p sCols1n sCols1c, .slice sIndexes1p sIndexes1n sIndexes1c, .int .i64 sLimit1, .int .i64 sParts1, .int .i64 sBy1], .slice a1p a1n a1c, .slice b1p b1n b1c, .int .i64 index1] w K :=
  vcFn.calls (an := An.affluxlaw03_SchemaStands) mixed tabOK eqsOK Go.Proofs.Tryd.func6 (by kernel_rfl) (by kernel_rfl) (by kernel_rfl) ((by kernel_rfl : vcFn prog eqs tab An.affluxlaw03_SchemaStands Go.Proofs.Tryd.f6 [.agg #[.string sName1, .slice sCols1p sCols1n sCols1c, .slice sIndexes1p sIndexes1n sIndexes1c, .int .i64 sLimit1, .int .i64 sParts1, .int .i64 sBy1], .slice a1p a1n a1c, .slice b1p b1n b1c, .int .i64 index1] w K = C.affluxlaw03_SchemaStands sName1 sCols1p sCols1n sCols1c sIndexes1p sIndexes1n sIndexes1c sLimit1 sParts1 sBy1 a1p a1n a1c b1p b1n b1c index1 w K).mpr h)

/-- afflux/affluxlaw02.ValueBack -/
def C.affluxlaw02_ValueBack (vKind1 : Int) (vN1 : Int) (vS1 : ByteArray) (w : World) (K : Value → World → Prop) : Prop :=
  ∀ b1 wv1, New w (.cells #[.int .i64 vKind1, .int .i64 vN1, .string vS1] T.api_Value) b1 wv1 →
  ∃ (S1 : ByteArray),
  wv1.cell? ((Addr.mk b1 0 none).add 2) = some (.string S1) ∧
  ifB (decide ((300 : Int) < ((S1.size : Nat) : Int))) (
    CallsV prog F.affluxlaw02_awake #[] wv1 (fun v1 wv2 =>
      ∃ (r1 : Bool),
      v1 = .bool r1 ∧
      K (.bool r1) wv2)) (
    ∃ (xKind1 : Int) (xN1 : Int) (xS1 : ByteArray),
    cellsAt wv1 (Addr.mk b1 0 none) 0 [.int .i64 xKind1, .int .i64 xN1, .string xS1] ∧
    CallsV prog F.affluxref02_Right #[.agg #[.int .i64 xKind1, .int .i64 xN1, .string xS1]] wv1 (fun v2 wv3 =>
      ∃ (r2 : Bool),
      v2 = .bool r2 ∧
      ifB (!r2) (
        CallsV prog F.affluxlaw02_awake #[] wv3 (fun v3 wv4 =>
          ∃ (r3 : Bool),
          v3 = .bool r3 ∧
          K (.bool r3) wv4)) (
        ∃ (xKind2 : Int) (xN2 : Int) (xS2 : ByteArray),
        cellsAt wv3 (Addr.mk b1 0 none) 0 [.int .i64 xKind2, .int .i64 xN2, .string xS2] ∧
        CallsV prog F.value_Print #[.agg #[.int .i64 xKind2, .int .i64 xN2, .string xS2]] wv3 (fun v4 wv5 =>
          ∃ (r4 : ByteArray),
          v4 = .string r4 ∧
          CallsV prog F.value_Parse #[.string r4] wv5 (fun v5 wv6 =>
            ∃ (raKind1 : Int) (raN1 : Int) (raS1 : ByteArray) (rb1 : Int),
            v5 = .tuple #[.agg #[.int .i64 raKind1, .int .i64 raN1, .string raS1], .int .i64 rb1] ∧
            ∀ b2 wv7, New wv6 (.cells #[.int .i64 0, .int .i64 0, .string (bs [])] T.api_Value) b2 wv7 →
            CanSt wv7 ((Addr.mk b2 0 none).add 0) ∧ ∀ wv8, wv8 = wv7.setCell ((Addr.mk b2 0 none).add 0) (.int .i64 raKind1) →
            CanSt wv8 ((Addr.mk b2 0 none).add 1) ∧ ∀ wv9, wv9 = wv8.setCell ((Addr.mk b2 0 none).add 1) (.int .i64 raN1) →
            CanSt wv9 ((Addr.mk b2 0 none).add 2) ∧ ∀ wv10, wv10 = wv9.setCell ((Addr.mk b2 0 none).add 2) (.string raS1) →
            ∃ (xKind3 : Int) (xN3 : Int) (xS3 : ByteArray),
            cellsAt wv10 (Addr.mk b2 0 none) 0 [.int .i64 xKind3, .int .i64 xN3, .string xS3] ∧
            ∃ (xKind4 : Int) (xN4 : Int) (xS4 : ByteArray),
            cellsAt wv10 (Addr.mk b1 0 none) 0 [.int .i64 xKind4, .int .i64 xN4, .string xS4] ∧
            ifB ((xKind3 == xKind4) && ((xN3 == xN4) && (sEq xS3 xS4 && true))) (
              ifB (rb1 == (0 : Int)) (
                CallsV prog F.affluxlaw02_awake #[] wv10 (fun v6 wv11 =>
                  ∃ (r5 : Bool),
                  v6 = .bool r5 ∧
                  K (.bool r5) wv11)) (
                K (.bool false) wv10)) (
              K (.bool false) wv10))))))
def An.affluxlaw02_ValueBack : Ann := ⟨[], [], []⟩
theorem R.affluxlaw02_ValueBack {vKind1 : Int} {vN1 : Int} {vS1 : ByteArray} {w : World} {K : Value → World → Prop} (h : C.affluxlaw02_ValueBack vKind1 vN1 vS1 w K) : CallsV prog F.affluxlaw02_ValueBack #[.agg #[.int .i64 vKind1, .int .i64 vN1, .string vS1]] w K :=
  vcFn.calls (an := An.affluxlaw02_ValueBack) mixed tabOK eqsOK Go.Proofs.Tryd.func7 (by kernel_rfl) (by kernel_rfl) (by kernel_rfl) ((by kernel_rfl : vcFn prog eqs tab An.affluxlaw02_ValueBack Go.Proofs.Tryd.f7 [.agg #[.int .i64 vKind1, .int .i64 vN1, .string vS1]] w K = C.affluxlaw02_ValueBack vKind1 vN1 vS1 w K).mpr h)

/-- afflux/affluxlaw02.ValueSpreads -/
def C.affluxlaw02_ValueSpreads (vKind1 : Int) (vN1 : Int) (vS1 : ByteArray) (n1 : Int) (w : World) (K : Value → World → Prop) : Prop :=
  ∀ b1 wv1, New w (.cells #[.int .i64 vKind1, .int .i64 vN1, .string vS1] T.api_Value) b1 wv1 →
  ∃ Jv1 : World → Prop,
  (∃ (S1 : ByteArray),
  wv1.cell? ((Addr.mk b1 0 none).add 2) = some (.string S1) ∧
  ifB (decide ((300 : Int) < ((S1.size : Nat) : Int))) (
    CallsV prog F.affluxlaw02_awake #[] wv1 (fun v1 wv2 =>
      ∃ (r1 : Bool),
      v1 = .bool r1 ∧
      K (.bool r1) wv2)) (
    ∃ (xKind1 : Int) (xN1 : Int) (xS1 : ByteArray),
    cellsAt wv1 (Addr.mk b1 0 none) 0 [.int .i64 xKind1, .int .i64 xN1, .string xS1] ∧
    CallsV prog F.affluxref02_Right #[.agg #[.int .i64 xKind1, .int .i64 xN1, .string xS1]] wv1 (fun v2 wv3 =>
      ∃ (r2 : Bool),
      v2 = .bool r2 ∧
      ifB (!r2) (
        CallsV prog F.affluxlaw02_awake #[] wv3 (fun v3 wv4 =>
          ∃ (r3 : Bool),
          v3 = .bool r3 ∧
          K (.bool r3) wv4)) (
        ifB (decide ((1000000 : Int) < n1)) (
          CallsV prog F.affluxlaw02_awake #[] wv3 (fun v4 wv5 =>
            ∃ (r4 : Bool),
            v4 = .bool r4 ∧
            K (.bool r4) wv5)) (
          Jv1 wv3))))) ∧
  (∀ wv6, Jv1 wv6 →
  ifB (decide (n1 < (1 : Int))) (
    ∃ (xKind2 : Int) (xN2 : Int) (xS2 : ByteArray),
    cellsAt wv6 (Addr.mk b1 0 none) 0 [.int .i64 xKind2, .int .i64 xN2, .string xS2] ∧
    CallsV prog F.value_Spread #[.agg #[.int .i64 xKind2, .int .i64 xN2, .string xS2], .int .i64 n1] wv6 (fun v5 wv7 =>
      ∃ (r5 : Int),
      v5 = .int .i64 r5 ∧
      ifB (r5 == (0 : Int)) (
        CallsV prog F.affluxlaw02_awake #[] wv7 (fun v6 wv8 =>
          ∃ (r6 : Bool),
          v6 = .bool r6 ∧
          K (.bool r6) wv8)) (
        K (.bool false) wv7))) (
    ∃ (xKind3 : Int) (xN3 : Int) (xS3 : ByteArray),
    cellsAt wv6.drew (Addr.mk b1 0 none) 0 [.int .i64 xKind3, .int .i64 xN3, .string xS3] ∧
    ∃ (xKind4 : Int) (xN4 : Int) (xS4 : ByteArray),
    cellsAt wv6.drew (Addr.mk b1 0 none) 0 [.int .i64 xKind4, .int .i64 xN4, .string xS4] ∧
    CallsV prog F.value_Spread #[.agg #[.int .i64 xKind3, .int .i64 xN3, .string xS3], .int .i64 n1] wv6.drew (fun v7 wv9 =>
      ∃ (r7 : Int),
      v7 = .int .i64 r7 ∧
      cellsAt wv9 (Addr.mk b1 0 none) 0 [.int .i64 xKind4, .int .i64 xN4, .string xS4] ∧
      CallsV prog F.affluxref02_Spread #[.agg #[.int .i64 xKind4, .int .i64 xN4, .string xS4], .int .i64 n1] wv9 (fun v8 wv10 =>
        ∃ (r8 : Int),
        v8 = .int .i64 r8 ∧
        ifB (r7 == r8) (
          CallsV prog F.affluxlaw02_awake #[] wv10 (fun v9 wv11 =>
            ∃ (r9 : Bool),
            v9 = .bool r9 ∧
            K (.bool r9) wv11)) (
          K (.bool false) wv10)))))
def An.affluxlaw02_ValueSpreads : Ann := ⟨[(5, .sil 0 [] (.sil 1 [] (.sil 3 [2] (.sil 4 [] (.act 2 (.act 5 (.sil 6 [] (.sil 7 [] (.act 8 (.sil 9 [] (.sil 10 [] (.done))))))))))))], [], [(3, [], [1, 2])]⟩
theorem R.affluxlaw02_ValueSpreads {vKind1 : Int} {vN1 : Int} {vS1 : ByteArray} {n1 : Int} {w : World} {K : Value → World → Prop} (h : C.affluxlaw02_ValueSpreads vKind1 vN1 vS1 n1 w K) : CallsV prog F.affluxlaw02_ValueSpreads #[.agg #[.int .i64 vKind1, .int .i64 vN1, .string vS1], .int .i64 n1] w K :=
  vcFn.calls (an := An.affluxlaw02_ValueSpreads) mixed tabOK eqsOK Go.Proofs.Tryd.func8 (by kernel_rfl) (by kernel_rfl) (by kernel_rfl) ((by kernel_rfl : vcFn prog eqs tab An.affluxlaw02_ValueSpreads Go.Proofs.Tryd.f8 [.agg #[.int .i64 vKind1, .int .i64 vN1, .string vS1], .int .i64 n1] w K = C.affluxlaw02_ValueSpreads vKind1 vN1 vS1 n1 w K).mpr h)

/-- afflux/affluxlaw02.ValueStands -/
def C.affluxlaw02_ValueStands (a1p : Option Addr) (a1n a1c : Nat) (b1p : Option Addr) (b1n b1c : Nat) (w : World) (K : Value → World → Prop) : Prop :=
  ∃ Jv1 : World → Prop,
  (CallsV prog F.affluxref02_Great #[.slice a1p a1n a1c] w (fun v1 wv1 =>
    ∃ (r1 : Bool),
    v1 = .bool r1 ∧
    ifB r1 (
      CallsV prog F.affluxlaw02_awake #[] wv1 (fun v2 wv2 =>
        ∃ (r2 : Bool),
        v2 = .bool r2 ∧
        K (.bool r2) wv2)) (
      CallsV prog F.affluxref02_Great #[.slice b1p b1n b1c] wv1 (fun v3 wv3 =>
        ∃ (r3 : Bool),
        v3 = .bool r3 ∧
        ifB r3 (
          CallsV prog F.affluxlaw02_awake #[] wv3 (fun v4 wv4 =>
            ∃ (r4 : Bool),
            v4 = .bool r4 ∧
            K (.bool r4) wv4)) (
          CallsV prog F.affluxref02_All #[.slice a1p a1n a1c] wv3 (fun v5 wv5 =>
            ∃ (r5 : Bool),
            v5 = .bool r5 ∧
            ifB (!r5) (
              CallsV prog F.affluxlaw02_awake #[] wv5 (fun v6 wv6 =>
                ∃ (r6 : Bool),
                v6 = .bool r6 ∧
                K (.bool r6) wv6)) (
              CallsV prog F.affluxref02_All #[.slice b1p b1n b1c] wv5 (fun v7 wv7 =>
                ∃ (r7 : Bool),
                v7 = .bool r7 ∧
                ifB (!r7) (
                  CallsV prog F.affluxlaw02_awake #[] wv7 (fun v8 wv8 =>
                    ∃ (r8 : Bool),
                    v8 = .bool r8 ∧
                    K (.bool r8) wv8)) (
                  Jv1 wv7))))))))) ∧
  (∀ wv9, Jv1 wv9 →
  CallsV prog F.value_Key #[.slice a1p a1n a1c] wv9 (fun v9 wv10 =>
    ∃ (r9 : ByteArray),
    v9 = .string r9 ∧
    CallsV prog F.value_Key #[.slice b1p b1n b1c] wv10 (fun v10 wv11 =>
      ∃ (r10 : ByteArray),
      v10 = .string r10 ∧
      ∃ Jv2 : Int → World → Prop,
      (ifB (sLt r9 r10) (
        Jv2 (-1) wv11) (
        Jv2 0 wv11)) ∧
      (∀ (way1 : Int) wv12, Jv2 way1 wv12 →
      ∃ Jv3 : Int → World → Prop,
      (ifB (!(sLt r9 r10 || sEq r9 r10)) (
        Jv3 1 wv12) (
        Jv3 way1 wv12)) ∧
      (∀ (way2 : Int) wv13, Jv3 way2 wv13 →
      CallsV prog F.value_Unkey #[.string r9] wv13 (fun v11 wv14 =>
        ∃ (ra1p : Option Addr) (ra1n ra1c : Nat) (rb1 : Bool),
        v11 = .tuple #[.slice ra1p ra1n ra1c, .bool rb1] ∧
        ∃ Jv4 : World → Prop,
        (CallsV prog F.value_Rows #[.slice a1p a1n a1c, .slice b1p b1n b1c] wv14 (fun v12 wv15 =>
          ∃ (r11 : Int),
          v12 = .int .i64 r11 ∧
          ifB (way2 != r11) (
            K (.bool false) wv15) (
            ifB (!rb1) (
              K (.bool false) wv15) (
              CallsV prog F.affluxref02_Same #[.slice ra1p ra1n ra1c, .slice a1p a1n a1c] wv15 (fun v13 wv16 =>
                ∃ (r12 : Bool),
                v13 = .bool r12 ∧
                ifB (!r12) (
                  K (.bool false) wv16) (
                  Jv4 wv16)))))) ∧
        (∀ wv17, Jv4 wv17 →
        ifB (decide (((r9.size : Nat) : Int) ≤ ((r10.size : Nat) : Int))) (
          0 ≤ ((r9.size : Nat) : Int) ∧ ((r9.size : Nat) : Int) ≤ ((r10.size : Nat) : Int) ∧
          ifB (decide (((a1n : Nat) : Int) ≤ ((b1n : Nat) : Int))) (
            0 ≤ ((a1n : Nat) : Int) ∧ ((a1n : Nat) : Int) ≤ ((b1c : Nat) : Int) ∧
            CallsV prog F.affluxref02_Same #[.slice a1p a1n a1c, .slice (cutAt b1p 0 b1c 3) ((((a1n : Nat) : Int).toNat) - 0) (b1c - 0)] wv17 (fun v14 wv18 =>
              ∃ (r13 : Bool),
              v14 = .bool r13 ∧
              ifB ((sEq (r10.extract 0 (((r9.size : Nat) : Int).toNat)) r9) == r13) (
                CallsV prog F.affluxlaw02_awake #[] wv18 (fun v15 wv19 =>
                  ∃ (r14 : Bool),
                  v15 = .bool r14 ∧
                  K (.bool r14) wv19)) (
                K (.bool false) wv18))) (
            ifB ((sEq (r10.extract 0 (((r9.size : Nat) : Int).toNat)) r9) == false) (
              CallsV prog F.affluxlaw02_awake #[] wv17 (fun v16 wv20 =>
                ∃ (r15 : Bool),
                v16 = .bool r15 ∧
                K (.bool r15) wv20)) (
              K (.bool false) wv17))) (
          ifB (decide (((a1n : Nat) : Int) ≤ ((b1n : Nat) : Int))) (
            0 ≤ ((a1n : Nat) : Int) ∧ ((a1n : Nat) : Int) ≤ ((b1c : Nat) : Int) ∧
            CallsV prog F.affluxref02_Same #[.slice a1p a1n a1c, .slice (cutAt b1p 0 b1c 3) ((((a1n : Nat) : Int).toNat) - 0) (b1c - 0)] wv17 (fun v17 wv21 =>
              ∃ (r16 : Bool),
              v17 = .bool r16 ∧
              ifB (false == r16) (
                CallsV prog F.affluxlaw02_awake #[] wv21 (fun v18 wv22 =>
                  ∃ (r17 : Bool),
                  v18 = .bool r17 ∧
                  K (.bool r17) wv22)) (
                K (.bool false) wv21))) (
            ifB (false == false) (
              CallsV prog F.affluxlaw02_awake #[] wv17 (fun v19 wv23 =>
                ∃ (r18 : Bool),
                v19 = .bool r18 ∧
                K (.bool r18) wv23)) (
              K (.bool false) wv17))))))))))
def An.affluxlaw02_ValueStands : Ann := ⟨[], [], [(3, [], [0, 1]), (7, [(7, 3)], [0, 1, 5, 6]), (9, [(7, 3)], [0, 1, 5, 6]), (12, [], [0, 1, 5, 6, 7, 8, 9])]⟩
theorem R.affluxlaw02_ValueStands {a1p : Option Addr} {a1n a1c : Nat} {b1p : Option Addr} {b1n b1c : Nat} {w : World} {K : Value → World → Prop} (h : C.affluxlaw02_ValueStands a1p a1n a1c b1p b1n b1c w K) : CallsV prog F.affluxlaw02_ValueStands #[.slice a1p a1n a1c, .slice b1p b1n b1c] w K :=
  vcFn.calls (an := An.affluxlaw02_ValueStands) mixed tabOK eqsOK Go.Proofs.Tryd.func9 (by kernel_rfl) (by kernel_rfl) (by kernel_rfl) ((by kernel_rfl : vcFn prog eqs tab An.affluxlaw02_ValueStands Go.Proofs.Tryd.f9 [.slice a1p a1n a1c, .slice b1p b1n b1c] w K = C.affluxlaw02_ValueStands a1p a1n a1c b1p b1n b1c w K).mpr h)

/-- afflux/affluxlaw02.ValueTexts -/
def C.affluxlaw02_ValueTexts (l1p : Option Addr) (l1n l1c : Nat) (s1 : ByteArray) (w : World) (K : Value → World → Prop) : Prop :=
  ∃ Jv1 : World → Prop,
  (CallsV prog F.affluxref02_Great #[.slice l1p l1n l1c] w (fun v1 wv1 =>
    ∃ (r1 : Bool),
    v1 = .bool r1 ∧
    ifB r1 (
      CallsV prog F.affluxlaw02_awake #[] wv1 (fun v2 wv2 =>
        ∃ (r2 : Bool),
        v2 = .bool r2 ∧
        K (.bool r2) wv2)) (
      ifB (decide ((600 : Int) < ((s1.size : Nat) : Int))) (
        CallsV prog F.affluxlaw02_awake #[] wv1 (fun v3 wv3 =>
          ∃ (r3 : Bool),
          v3 = .bool r3 ∧
          K (.bool r3) wv3)) (
        Jv1 wv1)))) ∧
  (∀ wv4, Jv1 wv4 →
  ∃ (Iv1 : ByteArray → Int → World → Prop) (m1 : ByteArray → Int → World → Nat),
  Iv1 (bs []) 0 wv4 ∧
  ∀ (line1 : ByteArray) (i1 : Int) wv5, Iv1 line1 i1 wv5 →
  ifB (decide (i1 < ((l1n : Nat) : Int))) (
    ∃ a1, l1p = some a1 ∧ 0 ≤ i1 ∧ i1 < ((l1n : Nat) : Int) ∧
    ∃ (eKind1 : Int) (eN1 : Int) (eS1 : ByteArray),
    cellsAt wv5 (a1.add (i1.toNat * 3)) 0 [.int .i64 eKind1, .int .i64 eN1, .string eS1] ∧
    CallsV prog F.affluxref02_Right #[.agg #[.int .i64 eKind1, .int .i64 eN1, .string eS1]] wv5 (fun v4 wv6 =>
      ∃ (r4 : Bool),
      v4 = .bool r4 ∧
      ifB r4 (
        ∃ a2, l1p = some a2 ∧ 0 ≤ i1 ∧ i1 < ((l1n : Nat) : Int) ∧
        ∃ (eKind2 : Int) (eN2 : Int) (eS2 : ByteArray),
        cellsAt wv6 (a2.add (i1.toNat * 3)) 0 [.int .i64 eKind2, .int .i64 eN2, .string eS2] ∧
        CallsV prog F.affluxref02_Print #[.agg #[.int .i64 eKind2, .int .i64 eN2, .string eS2]] wv6 (fun v5 wv7 =>
          ∃ (r5 : ByteArray),
          v5 = .string r5 ∧
          ∃ a3, l1p = some a3 ∧ 0 ≤ i1 ∧ i1 < ((l1n : Nat) : Int) ∧
          ∃ (eKind3 : Int) (eN3 : Int) (eS3 : ByteArray),
          cellsAt wv7 (a3.add (i1.toNat * 3)) 0 [.int .i64 eKind3, .int .i64 eN3, .string eS3] ∧
          CallsV prog F.value_Print #[.agg #[.int .i64 eKind3, .int .i64 eN3, .string eS3]] wv7 (fun v6 wv8 =>
            ∃ (r6 : ByteArray),
            v6 = .string r6 ∧
            ifB (!sEq r6 r5) (
              K (.bool false) wv8) (
              ifB (decide ((0 : Int) < i1)) (
                line1.size + (bs [44, 32]).size ≤ 9223372036854775807 ∧
                (line1 ++ (bs [44, 32])).size + r5.size ≤ 9223372036854775807 ∧
                Iv1 ((line1 ++ (bs [44, 32])) ++ r5) (IntKind.i64.wrap (i1 + (1 : Int))) wv8 ∧ m1 ((line1 ++ (bs [44, 32])) ++ r5) (IntKind.i64.wrap (i1 + (1 : Int))) wv8 < m1 line1 i1 wv5) (
                line1.size + r5.size ≤ 9223372036854775807 ∧
                Iv1 (line1 ++ r5) (IntKind.i64.wrap (i1 + (1 : Int))) wv8 ∧ m1 (line1 ++ r5) (IntKind.i64.wrap (i1 + (1 : Int))) wv8 < m1 line1 i1 wv5))))) (
        ∃ a4, l1p = some a4 ∧ 0 ≤ i1 ∧ i1 < ((l1n : Nat) : Int) ∧
        ∃ (eKind4 : Int) (eN4 : Int) (eS4 : ByteArray),
        cellsAt wv6 (a4.add (i1.toNat * 3)) 0 [.int .i64 eKind4, .int .i64 eN4, .string eS4] ∧
        CallsV prog F.value_Print #[.agg #[.int .i64 eKind4, .int .i64 eN4, .string eS4]] wv6 (fun v7 wv9 =>
          ∃ (r7 : ByteArray),
          v7 = .string r7 ∧
          ifB (!sEq r7 (bs [])) (
            K (.bool false) wv9) (
            ifB (decide ((0 : Int) < i1)) (
              line1.size + (bs [44, 32]).size ≤ 9223372036854775807 ∧
              (line1 ++ (bs [44, 32])).size + (bs []).size ≤ 9223372036854775807 ∧
              Iv1 ((line1 ++ (bs [44, 32])) ++ (bs [])) (IntKind.i64.wrap (i1 + (1 : Int))) wv9 ∧ m1 ((line1 ++ (bs [44, 32])) ++ (bs [])) (IntKind.i64.wrap (i1 + (1 : Int))) wv9 < m1 line1 i1 wv5) (
              line1.size + (bs []).size ≤ 9223372036854775807 ∧
              Iv1 (line1 ++ (bs [])) (IntKind.i64.wrap (i1 + (1 : Int))) wv9 ∧ m1 (line1 ++ (bs [])) (IntKind.i64.wrap (i1 + (1 : Int))) wv9 < m1 line1 i1 wv5)))))) (
    CallsV prog F.value_Parse #[.string s1] wv5 (fun v8 wv10 =>
      ∃ (raKind1 : Int) (raN1 : Int) (raS1 : ByteArray) (rb1 : Int),
      v8 = .tuple #[.agg #[.int .i64 raKind1, .int .i64 raN1, .string raS1], .int .i64 rb1] ∧
      ∀ b1 wv11, New wv10 (.cells #[.int .i64 0, .int .i64 0, .string (bs [])] T.api_Value) b1 wv11 →
      CanSt wv11 ((Addr.mk b1 0 none).add 0) ∧ ∀ wv12, wv12 = wv11.setCell ((Addr.mk b1 0 none).add 0) (.int .i64 raKind1) →
      CanSt wv12 ((Addr.mk b1 0 none).add 1) ∧ ∀ wv13, wv13 = wv12.setCell ((Addr.mk b1 0 none).add 1) (.int .i64 raN1) →
      CanSt wv13 ((Addr.mk b1 0 none).add 2) ∧ ∀ wv14, wv14 = wv13.setCell ((Addr.mk b1 0 none).add 2) (.string raS1) →
      CallsV prog F.affluxref02_Parse #[.string s1] wv14 (fun v9 wv15 =>
        ∃ (raKind2 : Int) (raN2 : Int) (raS2 : ByteArray) (rb2 : Bool),
        v9 = .tuple #[.agg #[.int .i64 raKind2, .int .i64 raN2, .string raS2], .bool rb2] ∧
        ∀ b2 wv16, New wv15 (.cells #[.int .i64 0, .int .i64 0, .string (bs [])] T.api_Value) b2 wv16 →
        CanSt wv16 ((Addr.mk b2 0 none).add 0) ∧ ∀ wv17, wv17 = wv16.setCell ((Addr.mk b2 0 none).add 0) (.int .i64 raKind2) →
        CanSt wv17 ((Addr.mk b2 0 none).add 1) ∧ ∀ wv18, wv18 = wv17.setCell ((Addr.mk b2 0 none).add 1) (.int .i64 raN2) →
        CanSt wv18 ((Addr.mk b2 0 none).add 2) ∧ ∀ wv19, wv19 = wv18.setCell ((Addr.mk b2 0 none).add 2) (.string raS2) →
        CallsV prog F.value_Line #[.slice l1p l1n l1c] wv19 (fun v10 wv20 =>
          ∃ (r8 : ByteArray),
          v10 = .string r8 ∧
          ifB (sEq r8 line1) (
            ∃ (xKind1 : Int) (xN1 : Int) (xS1 : ByteArray),
            cellsAt wv20 (Addr.mk b1 0 none) 0 [.int .i64 xKind1, .int .i64 xN1, .string xS1] ∧
            ∃ (xKind2 : Int) (xN2 : Int) (xS2 : ByteArray),
            cellsAt wv20 (Addr.mk b2 0 none) 0 [.int .i64 xKind2, .int .i64 xN2, .string xS2] ∧
            ifB ((xKind1 == xKind2) && ((xN1 == xN2) && (sEq xS1 xS2 && true))) (
              ifB rb2 (
                ifB (rb1 == (0 : Int)) (
                  CallsV prog F.affluxlaw02_awake #[] wv20 (fun v11 wv21 =>
                    ∃ (r9 : Bool),
                    v11 = .bool r9 ∧
                    K (.bool r9) wv21)) (
                  ifB (!rb2) (
                    ifB (rb1 == (12 : Int)) (
                      CallsV prog F.affluxlaw02_awake #[] wv20 (fun v12 wv22 =>
                        ∃ (r10 : Bool),
                        v12 = .bool r10 ∧
                        K (.bool r10) wv22)) (
                      K (.bool false) wv20)) (
                    K (.bool false) wv20))) (
                ifB (!rb2) (
                  ifB (rb1 == (12 : Int)) (
                    CallsV prog F.affluxlaw02_awake #[] wv20 (fun v13 wv23 =>
                      ∃ (r11 : Bool),
                      v13 = .bool r11 ∧
                      K (.bool r11) wv23)) (
                    K (.bool false) wv20)) (
                  K (.bool false) wv20))) (
              K (.bool false) wv20)) (
            K (.bool false) wv20))))))
def An.affluxlaw02_ValueTexts : Ann := ⟨[], [(5, [(5, 9), (6, 3)], [0, 1])], [(3, [], [0, 1])]⟩
theorem R.affluxlaw02_ValueTexts {l1p : Option Addr} {l1n l1c : Nat} {s1 : ByteArray} {w : World} {K : Value → World → Prop} (h : C.affluxlaw02_ValueTexts l1p l1n l1c s1 w K) : CallsV prog F.affluxlaw02_ValueTexts #[.slice l1p l1n l1c, .string s1] w K :=
  vcFn.calls (an := An.affluxlaw02_ValueTexts) mixed tabOK eqsOK Go.Proofs.Tryd.func10 (by kernel_rfl) (by kernel_rfl) (by kernel_rfl) ((by kernel_rfl : vcFn prog eqs tab An.affluxlaw02_ValueTexts Go.Proofs.Tryd.f10 [.slice l1p l1n l1c, .string s1] w K = C.affluxlaw02_ValueTexts l1p l1n l1c s1 w K).mpr h)

/-- afflux/affluxlaw03.SchemaRights -/
def C.affluxlaw03_SchemaRights (sName1 : ByteArray) (sCols1p : Option Addr) (sCols1n sCols1c : Nat) (sIndexes1p : Option Addr) (sIndexes1n sIndexes1c : Nat) (sLimit1 : Int) (sParts1 : Int) (sBy1 : Int) (tName1 : ByteArray) (tCols1p : Option Addr) (tCols1n tCols1c : Nat) (tIndexes1p : Option Addr) (tIndexes1n tIndexes1c : Nat) (tLimit1 : Int) (tParts1 : Int) (tBy1 : Int) (name1 : ByteArray) (w : World) (K : Value → World → Prop) : Prop :=
  ∀ b1 wv1, New w (.cells #[.string sName1, .slice sCols1p sCols1n sCols1c, .slice sIndexes1p sIndexes1n sIndexes1c, .int .i64 sLimit1, .int .i64 sParts1, .int .i64 sBy1] T.api_Schema) b1 wv1 →
  ∀ b2 wv2, New wv1 (.cells #[.string tName1, .slice tCols1p tCols1n tCols1c, .slice tIndexes1p tIndexes1n tIndexes1c, .int .i64 tLimit1, .int .i64 tParts1, .int .i64 tBy1] T.api_Schema) b2 wv2 →
  ∃ Jv1 : World → Prop,
  (∃ (xName1 : ByteArray) (xCols1p : Option Addr) (xCols1n xCols1c : Nat) (xIndexes1p : Option Addr) (xIndexes1n xIndexes1c : Nat) (xLimit1 : Int) (xParts1 : Int) (xBy1 : Int),
  cellsAt wv2 (Addr.mk b1 0 none) 0 [.string xName1, .slice xCols1p xCols1n xCols1c, .slice xIndexes1p xIndexes1n xIndexes1c, .int .i64 xLimit1, .int .i64 xParts1, .int .i64 xBy1] ∧
  CallsV prog F.affluxref03_Great #[.agg #[.string xName1, .slice xCols1p xCols1n xCols1c, .slice xIndexes1p xIndexes1n xIndexes1c, .int .i64 xLimit1, .int .i64 xParts1, .int .i64 xBy1]] wv2 (fun v1 wv3 =>
    ∃ (r1 : Bool),
    v1 = .bool r1 ∧
    ifB r1 (
      CallsV prog F.affluxlaw03_awake #[] wv3 (fun v2 wv4 =>
        ∃ (r2 : Bool),
        v2 = .bool r2 ∧
        K (.bool r2) wv4)) (
      ∃ (xName2 : ByteArray) (xCols2p : Option Addr) (xCols2n xCols2c : Nat) (xIndexes2p : Option Addr) (xIndexes2n xIndexes2c : Nat) (xLimit2 : Int) (xParts2 : Int) (xBy2 : Int),
      cellsAt wv3 (Addr.mk b2 0 none) 0 [.string xName2, .slice xCols2p xCols2n xCols2c, .slice xIndexes2p xIndexes2n xIndexes2c, .int .i64 xLimit2, .int .i64 xParts2, .int .i64 xBy2] ∧
      CallsV prog F.affluxref03_Great #[.agg #[.string xName2, .slice xCols2p xCols2n xCols2c, .slice xIndexes2p xIndexes2n xIndexes2c, .int .i64 xLimit2, .int .i64 xParts2, .int .i64 xBy2]] wv3 (fun v3 wv5 =>
        ∃ (r3 : Bool),
        v3 = .bool r3 ∧
        ifB r3 (
          CallsV prog F.affluxlaw03_awake #[] wv5 (fun v4 wv6 =>
            ∃ (r4 : Bool),
            v4 = .bool r4 ∧
            K (.bool r4) wv6)) (
          ifB (decide ((100 : Int) < ((name1.size : Nat) : Int))) (
            CallsV prog F.affluxlaw03_awake #[] wv5 (fun v5 wv7 =>
              ∃ (r5 : Bool),
              v5 = .bool r5 ∧
              K (.bool r5) wv7)) (
            Jv1 wv5)))))) ∧
  (∀ wv8, Jv1 wv8 →
  ∃ (Cols1p : Option Addr) (Cols1n Cols1c : Nat),
  wv8.cell? ((Addr.mk b1 0 none).add 1) = some (.slice Cols1p Cols1n Cols1c) ∧
  ∃ (Iv1 : Int → Int → World → Prop) (m1 : Int → Int → World → Nat),
  Iv1 (-1) (IntKind.i64.wrap (((Cols1n : Nat) : Int) - (1 : Int))) wv8 ∧
  ∀ (atv1 : Int) (i1 : Int) wv9, Iv1 atv1 i1 wv9 →
  ifB (decide ((0 : Int) ≤ i1)) (
    ∃ (Cols2p : Option Addr) (Cols2n Cols2c : Nat),
    wv9.cell? ((Addr.mk b1 0 none).add 1) = some (.slice Cols2p Cols2n Cols2c) ∧
    ∃ a1, Cols2p = some a1 ∧ 0 ≤ i1 ∧ i1 < ((Cols2n : Nat) : Int) ∧
    ∃ (Name1 : ByteArray),
    wv9.cell? ((a1.add (i1.toNat * 2)).add 0) = some (.string Name1) ∧
    ifB (sEq Name1 name1) (
      Iv1 i1 (IntKind.i64.wrap (i1 - (1 : Int))) wv9 ∧ m1 i1 (IntKind.i64.wrap (i1 - (1 : Int))) wv9 < m1 atv1 i1 wv9) (
      Iv1 atv1 (IntKind.i64.wrap (i1 - (1 : Int))) wv9 ∧ m1 atv1 (IntKind.i64.wrap (i1 - (1 : Int))) wv9 < m1 atv1 i1 wv9)) (
    ∃ (xName3 : ByteArray) (xCols3p : Option Addr) (xCols3n xCols3c : Nat) (xIndexes3p : Option Addr) (xIndexes3n xIndexes3c : Nat) (xLimit3 : Int) (xParts3 : Int) (xBy3 : Int),
    cellsAt wv9 (Addr.mk b1 0 none) 0 [.string xName3, .slice xCols3p xCols3n xCols3c, .slice xIndexes3p xIndexes3n xIndexes3c, .int .i64 xLimit3, .int .i64 xParts3, .int .i64 xBy3] ∧
    CallsV prog F.schema_Copy #[.agg #[.string xName3, .slice xCols3p xCols3n xCols3c, .slice xIndexes3p xIndexes3n xIndexes3c, .int .i64 xLimit3, .int .i64 xParts3, .int .i64 xBy3]] wv9 (fun v6 wv10 =>
      ∃ (rName1 : ByteArray) (rCols1p : Option Addr) (rCols1n rCols1c : Nat) (rIndexes1p : Option Addr) (rIndexes1n rIndexes1c : Nat) (rLimit1 : Int) (rParts1 : Int) (rBy1 : Int),
      v6 = .agg #[.string rName1, .slice rCols1p rCols1n rCols1c, .slice rIndexes1p rIndexes1n rIndexes1c, .int .i64 rLimit1, .int .i64 rParts1, .int .i64 rBy1] ∧
      ∀ b3 wv11, New wv10 (.cells #[.string (bs []), .slice none 0 0, .slice none 0 0, .int .i64 0, .int .i64 0, .int .i64 0] T.api_Schema) b3 wv11 →
      CanSt wv11 ((Addr.mk b3 0 none).add 0) ∧ ∀ wv12, wv12 = wv11.setCell ((Addr.mk b3 0 none).add 0) (.string rName1) →
      CanSt wv12 ((Addr.mk b3 0 none).add 1) ∧ ∀ wv13, wv13 = wv12.setCell ((Addr.mk b3 0 none).add 1) (.slice rCols1p rCols1n rCols1c) →
      CanSt wv13 ((Addr.mk b3 0 none).add 2) ∧ ∀ wv14, wv14 = wv13.setCell ((Addr.mk b3 0 none).add 2) (.slice rIndexes1p rIndexes1n rIndexes1c) →
      CanSt wv14 ((Addr.mk b3 0 none).add 3) ∧ ∀ wv15, wv15 = wv14.setCell ((Addr.mk b3 0 none).add 3) (.int .i64 rLimit1) →
      CanSt wv15 ((Addr.mk b3 0 none).add 4) ∧ ∀ wv16, wv16 = wv15.setCell ((Addr.mk b3 0 none).add 4) (.int .i64 rParts1) →
      CanSt wv16 ((Addr.mk b3 0 none).add 5) ∧ ∀ wv17, wv17 = wv16.setCell ((Addr.mk b3 0 none).add 5) (.int .i64 rBy1) →
      ∃ Jv2 : World → Prop,
      (∃ (xName4 : ByteArray) (xCols4p : Option Addr) (xCols4n xCols4c : Nat) (xIndexes4p : Option Addr) (xIndexes4n xIndexes4c : Nat) (xLimit4 : Int) (xParts4 : Int) (xBy4 : Int),
      cellsAt wv17.drew (Addr.mk b3 0 none) 0 [.string xName4, .slice xCols4p xCols4n xCols4c, .slice xIndexes4p xIndexes4n xIndexes4c, .int .i64 xLimit4, .int .i64 xParts4, .int .i64 xBy4] ∧
      ∃ (xName5 : ByteArray) (xCols5p : Option Addr) (xCols5n xCols5c : Nat) (xIndexes5p : Option Addr) (xIndexes5n xIndexes5c : Nat) (xLimit5 : Int) (xParts5 : Int) (xBy5 : Int),
      cellsAt wv17.drew (Addr.mk b1 0 none) 0 [.string xName5, .slice xCols5p xCols5n xCols5c, .slice xIndexes5p xIndexes5n xIndexes5c, .int .i64 xLimit5, .int .i64 xParts5, .int .i64 xBy5] ∧
      CallsV prog F.affluxref03_Same #[.agg #[.string xName4, .slice xCols4p xCols4n xCols4c, .slice xIndexes4p xIndexes4n xIndexes4c, .int .i64 xLimit4, .int .i64 xParts4, .int .i64 xBy4], .agg #[.string xName5, .slice xCols5p xCols5n xCols5c, .slice xIndexes5p xIndexes5n xIndexes5c, .int .i64 xLimit5, .int .i64 xParts5, .int .i64 xBy5]] wv17.drew (fun v7 wv18 =>
        ∃ (r6 : Bool),
        v7 = .bool r6 ∧
        ifB (!r6) (
          K (.bool false) wv18) (
          ∃ (xName6 : ByteArray) (xCols6p : Option Addr) (xCols6n xCols6c : Nat) (xIndexes6p : Option Addr) (xIndexes6n xIndexes6c : Nat) (xLimit6 : Int) (xParts6 : Int) (xBy6 : Int),
          cellsAt wv18 (Addr.mk b1 0 none) 0 [.string xName6, .slice xCols6p xCols6n xCols6c, .slice xIndexes6p xIndexes6n xIndexes6c, .int .i64 xLimit6, .int .i64 xParts6, .int .i64 xBy6] ∧
          ∃ (xName7 : ByteArray) (xCols7p : Option Addr) (xCols7n xCols7c : Nat) (xIndexes7p : Option Addr) (xIndexes7n xIndexes7c : Nat) (xLimit7 : Int) (xParts7 : Int) (xBy7 : Int),
          cellsAt wv18 (Addr.mk b2 0 none) 0 [.string xName7, .slice xCols7p xCols7n xCols7c, .slice xIndexes7p xIndexes7n xIndexes7c, .int .i64 xLimit7, .int .i64 xParts7, .int .i64 xBy7] ∧
          ∃ (xName8 : ByteArray) (xCols8p : Option Addr) (xCols8n xCols8c : Nat) (xIndexes8p : Option Addr) (xIndexes8n xIndexes8c : Nat) (xLimit8 : Int) (xParts8 : Int) (xBy8 : Int),
          cellsAt wv18 (Addr.mk b1 0 none) 0 [.string xName8, .slice xCols8p xCols8n xCols8c, .slice xIndexes8p xIndexes8n xIndexes8c, .int .i64 xLimit8, .int .i64 xParts8, .int .i64 xBy8] ∧
          ∃ (xName9 : ByteArray) (xCols9p : Option Addr) (xCols9n xCols9c : Nat) (xIndexes9p : Option Addr) (xIndexes9n xIndexes9c : Nat) (xLimit9 : Int) (xParts9 : Int) (xBy9 : Int),
          cellsAt wv18 (Addr.mk b2 0 none) 0 [.string xName9, .slice xCols9p xCols9n xCols9c, .slice xIndexes9p xIndexes9n xIndexes9c, .int .i64 xLimit9, .int .i64 xParts9, .int .i64 xBy9] ∧
          CallsV prog F.schema_Same #[.agg #[.string xName6, .slice xCols6p xCols6n xCols6c, .slice xIndexes6p xIndexes6n xIndexes6c, .int .i64 xLimit6, .int .i64 xParts6, .int .i64 xBy6], .agg #[.string xName7, .slice xCols7p xCols7n xCols7c, .slice xIndexes7p xIndexes7n xIndexes7c, .int .i64 xLimit7, .int .i64 xParts7, .int .i64 xBy7]] wv18 (fun v8 wv19 =>
            ∃ (r7 : Bool),
            v8 = .bool r7 ∧
            cellsAt wv19 (Addr.mk b2 0 none) 0 [.string xName9, .slice xCols9p xCols9n xCols9c, .slice xIndexes9p xIndexes9n xIndexes9c, .int .i64 xLimit9, .int .i64 xParts9, .int .i64 xBy9] ∧
            cellsAt wv19 (Addr.mk b1 0 none) 0 [.string xName8, .slice xCols8p xCols8n xCols8c, .slice xIndexes8p xIndexes8n xIndexes8c, .int .i64 xLimit8, .int .i64 xParts8, .int .i64 xBy8] ∧
            CallsV prog F.affluxref03_Same #[.agg #[.string xName8, .slice xCols8p xCols8n xCols8c, .slice xIndexes8p xIndexes8n xIndexes8c, .int .i64 xLimit8, .int .i64 xParts8, .int .i64 xBy8], .agg #[.string xName9, .slice xCols9p xCols9n xCols9c, .slice xIndexes9p xIndexes9n xIndexes9c, .int .i64 xLimit9, .int .i64 xParts9, .int .i64 xBy9]] wv19 (fun v9 wv20 =>
              ∃ (r8 : Bool),
              v9 = .bool r8 ∧
              ifB (!(r7 == r8)) (
                K (.bool false) wv20) (
                ∃ (xName10 : ByteArray) (xCols10p : Option Addr) (xCols10n xCols10c : Nat) (xIndexes10p : Option Addr) (xIndexes10n xIndexes10c : Nat) (xLimit10 : Int) (xParts10 : Int) (xBy10 : Int),
                cellsAt wv20 (Addr.mk b3 0 none) 0 [.string xName10, .slice xCols10p xCols10n xCols10c, .slice xIndexes10p xIndexes10n xIndexes10c, .int .i64 xLimit10, .int .i64 xParts10, .int .i64 xBy10] ∧
                ∃ (xName11 : ByteArray) (xCols11p : Option Addr) (xCols11n xCols11c : Nat) (xIndexes11p : Option Addr) (xIndexes11n xIndexes11c : Nat) (xLimit11 : Int) (xParts11 : Int) (xBy11 : Int),
                cellsAt wv20 (Addr.mk b1 0 none) 0 [.string xName11, .slice xCols11p xCols11n xCols11c, .slice xIndexes11p xIndexes11n xIndexes11c, .int .i64 xLimit11, .int .i64 xParts11, .int .i64 xBy11] ∧
                CallsV prog F.schema_Same #[.agg #[.string xName10, .slice xCols10p xCols10n xCols10c, .slice xIndexes10p xIndexes10n xIndexes10c, .int .i64 xLimit10, .int .i64 xParts10, .int .i64 xBy10], .agg #[.string xName11, .slice xCols11p xCols11n xCols11c, .slice xIndexes11p xIndexes11n xIndexes11c, .int .i64 xLimit11, .int .i64 xParts11, .int .i64 xBy11]] wv20 (fun v10 wv21 =>
                  ∃ (r9 : Bool),
                  v10 = .bool r9 ∧
                  ifB (!r9) (
                    K (.bool false) wv21) (
                    Jv2 wv21)))))))) ∧
      (∀ wv22, Jv2 wv22 →
      ∃ Jv3 : World → Prop,
      (∃ Jv4 : Bool → World → Prop,
      (∃ (Cols3p : Option Addr) (Cols3n Cols3c : Nat),
      wv22.cell? ((Addr.mk b3 0 none).add 1) = some (.slice Cols3p Cols3n Cols3c) ∧
      ifB (decide ((0 : Int) < ((Cols3n : Nat) : Int))) (
        ∃ (Indexes1p : Option Addr) (Indexes1n Indexes1c : Nat),
        wv22.cell? ((Addr.mk b3 0 none).add 2) = some (.slice Indexes1p Indexes1n Indexes1c) ∧
        ifB (decide ((0 : Int) < ((Indexes1n : Nat) : Int))) (
          ∃ (Indexes2p : Option Addr) (Indexes2n Indexes2c : Nat),
          wv22.cell? ((Addr.mk b3 0 none).add 2) = some (.slice Indexes2p Indexes2n Indexes2c) ∧
          ∃ a2, Indexes2p = some a2 ∧ 0 ≤ (0 : Int) ∧ (0 : Int) < ((Indexes2n : Nat) : Int) ∧
          ∃ (Cols4p : Option Addr) (Cols4n Cols4c : Nat),
          wv22.cell? ((a2.add ((0 : Int).toNat * 2)).add 0) = some (.slice Cols4p Cols4n Cols4c) ∧
          Jv4 (decide ((0 : Int) < ((Cols4n : Nat) : Int))) wv22) (
          Jv4 false wv22)) (
        Jv4 false wv22)) ∧
      (∀ (s791 : Bool) wv23, Jv4 s791 wv23 →
      ifB s791 (
        ∃ (Cols5p : Option Addr) (Cols5n Cols5c : Nat),
        wv23.cell? ((Addr.mk b3 0 none).add 1) = some (.slice Cols5p Cols5n Cols5c) ∧
        ∃ a3, Cols5p = some a3 ∧ 0 ≤ (0 : Int) ∧ (0 : Int) < ((Cols5n : Nat) : Int) ∧
        ∃ (Kind1 : Int),
        wv23.cell? ((a3.add ((0 : Int).toNat * 2)).add 1) = some (.int .i64 Kind1) ∧
        ∃ a4, Cols5p = some a4 ∧ 0 ≤ (0 : Int) ∧ (0 : Int) < ((Cols5n : Nat) : Int) ∧
        CanSt wv23 ((a4.add ((0 : Int).toNat * 2)).add 1) ∧ ∀ wv24, wv24 = wv23.setCell ((a4.add ((0 : Int).toNat * 2)).add 1) (.int .i64 (IntKind.i64.wrap (Kind1 + (1 : Int)))) →
        ∃ (Indexes3p : Option Addr) (Indexes3n Indexes3c : Nat),
        wv24.cell? ((Addr.mk b3 0 none).add 2) = some (.slice Indexes3p Indexes3n Indexes3c) ∧
        ∃ a5, Indexes3p = some a5 ∧ 0 ≤ (0 : Int) ∧ (0 : Int) < ((Indexes3n : Nat) : Int) ∧
        ∃ (Cols6p : Option Addr) (Cols6n Cols6c : Nat),
        wv24.cell? ((a5.add ((0 : Int).toNat * 2)).add 0) = some (.slice Cols6p Cols6n Cols6c) ∧
        ∃ a6, Cols6p = some a6 ∧ 0 ≤ (0 : Int) ∧ (0 : Int) < ((Cols6n : Nat) : Int) ∧
        ∃ (e1 : Int),
        wv24.cell? (a6.add ((0 : Int).toNat * 1)) = some (.int .i64 e1) ∧
        ∃ a7, Cols6p = some a7 ∧ 0 ≤ (0 : Int) ∧ (0 : Int) < ((Cols6n : Nat) : Int) ∧
        CanSt wv24 (a7.add ((0 : Int).toNat * 1)) ∧ ∀ wv25, wv25 = wv24.setCell (a7.add ((0 : Int).toNat * 1)) (.int .i64 (IntKind.i64.wrap (e1 + (1 : Int)))) →
        ∃ (xName12 : ByteArray) (xCols12p : Option Addr) (xCols12n xCols12c : Nat) (xIndexes12p : Option Addr) (xIndexes12n xIndexes12c : Nat) (xLimit12 : Int) (xParts12 : Int) (xBy12 : Int),
        cellsAt wv25.drew (Addr.mk b3 0 none) 0 [.string xName12, .slice xCols12p xCols12n xCols12c, .slice xIndexes12p xIndexes12n xIndexes12c, .int .i64 xLimit12, .int .i64 xParts12, .int .i64 xBy12] ∧
        ∃ (xName13 : ByteArray) (xCols13p : Option Addr) (xCols13n xCols13c : Nat) (xIndexes13p : Option Addr) (xIndexes13n xIndexes13c : Nat) (xLimit13 : Int) (xParts13 : Int) (xBy13 : Int),
        cellsAt wv25.drew (Addr.mk b1 0 none) 0 [.string xName13, .slice xCols13p xCols13n xCols13c, .slice xIndexes13p xIndexes13n xIndexes13c, .int .i64 xLimit13, .int .i64 xParts13, .int .i64 xBy13] ∧
        CallsV prog F.affluxref03_Same #[.agg #[.string xName12, .slice xCols12p xCols12n xCols12c, .slice xIndexes12p xIndexes12n xIndexes12c, .int .i64 xLimit12, .int .i64 xParts12, .int .i64 xBy12], .agg #[.string xName13, .slice xCols13p xCols13n xCols13c, .slice xIndexes13p xIndexes13n xIndexes13c, .int .i64 xLimit13, .int .i64 xParts13, .int .i64 xBy13]] wv25.drew (fun v11 wv26 =>
          ∃ (r10 : Bool),
          v11 = .bool r10 ∧
          ifB r10 (
            K (.bool false) wv26) (
            ∃ (Cols7p : Option Addr) (Cols7n Cols7c : Nat),
            wv26.cell? ((Addr.mk b1 0 none).add 1) = some (.slice Cols7p Cols7n Cols7c) ∧
            ∃ a8, Cols7p = some a8 ∧ 0 ≤ (0 : Int) ∧ (0 : Int) < ((Cols7n : Nat) : Int) ∧
            ∃ (Kind2 : Int),
            wv26.cell? ((a8.add ((0 : Int).toNat * 2)).add 1) = some (.int .i64 Kind2) ∧
            ∃ (Cols8p : Option Addr) (Cols8n Cols8c : Nat),
            wv26.cell? ((Addr.mk b3 0 none).add 1) = some (.slice Cols8p Cols8n Cols8c) ∧
            ∃ a9, Cols8p = some a9 ∧ 0 ≤ (0 : Int) ∧ (0 : Int) < ((Cols8n : Nat) : Int) ∧
            ∃ (Kind3 : Int),
            wv26.cell? ((a9.add ((0 : Int).toNat * 2)).add 1) = some (.int .i64 Kind3) ∧
            ifB (Kind2 == Kind3) (
              K (.bool false) wv26) (
              Jv3 wv26)))) (
        Jv3 wv23))) ∧
      (∀ wv27, Jv3 wv27 →
      ∃ (xName14 : ByteArray) (xCols14p : Option Addr) (xCols14n xCols14c : Nat) (xIndexes14p : Option Addr) (xIndexes14n xIndexes14c : Nat) (xLimit14 : Int) (xParts14 : Int) (xBy14 : Int),
      cellsAt wv27 (Addr.mk b1 0 none) 0 [.string xName14, .slice xCols14p xCols14n xCols14c, .slice xIndexes14p xIndexes14n xIndexes14c, .int .i64 xLimit14, .int .i64 xParts14, .int .i64 xBy14] ∧
      CallsV prog F.schema_Zero #[.agg #[.string xName14, .slice xCols14p xCols14n xCols14c, .slice xIndexes14p xIndexes14n xIndexes14c, .int .i64 xLimit14, .int .i64 xParts14, .int .i64 xBy14]] wv27 (fun v12 wv28 =>
        ∃ (r11p : Option Addr) (r11n r11c : Nat),
        v12 = .slice r11p r11n r11c ∧
        ∃ Jv5 : World → Prop,
        (∃ (Cols9p : Option Addr) (Cols9n Cols9c : Nat),
        wv28.cell? ((Addr.mk b1 0 none).add 1) = some (.slice Cols9p Cols9n Cols9c) ∧
        ifB (((r11n : Nat) : Int) != ((Cols9n : Nat) : Int)) (
          K (.bool false) wv28) (
          ∃ (xName15 : ByteArray) (xCols15p : Option Addr) (xCols15n xCols15c : Nat) (xIndexes15p : Option Addr) (xIndexes15n xIndexes15c : Nat) (xLimit15 : Int) (xParts15 : Int) (xBy15 : Int),
          cellsAt wv28 (Addr.mk b1 0 none) 0 [.string xName15, .slice xCols15p xCols15n xCols15c, .slice xIndexes15p xIndexes15n xIndexes15c, .int .i64 xLimit15, .int .i64 xParts15, .int .i64 xBy15] ∧
          CallsV prog F.affluxref03_Right #[.agg #[.string xName15, .slice xCols15p xCols15n xCols15c, .slice xIndexes15p xIndexes15n xIndexes15c, .int .i64 xLimit15, .int .i64 xParts15, .int .i64 xBy15]] wv28 (fun v13 wv29 =>
            ∃ (r12 : Bool),
            v13 = .bool r12 ∧
            ifB r12 (
              ∃ (xName16 : ByteArray) (xCols16p : Option Addr) (xCols16n xCols16c : Nat) (xIndexes16p : Option Addr) (xIndexes16n xIndexes16c : Nat) (xLimit16 : Int) (xParts16 : Int) (xBy16 : Int),
              cellsAt wv29 (Addr.mk b1 0 none) 0 [.string xName16, .slice xCols16p xCols16n xCols16c, .slice xIndexes16p xIndexes16n xIndexes16c, .int .i64 xLimit16, .int .i64 xParts16, .int .i64 xBy16] ∧
              CallsV prog F.affluxref03_Fits #[.agg #[.string xName16, .slice xCols16p xCols16n xCols16c, .slice xIndexes16p xIndexes16n xIndexes16c, .int .i64 xLimit16, .int .i64 xParts16, .int .i64 xBy16], .slice r11p r11n r11c] wv29 (fun v14 wv30 =>
                ∃ (r13 : Bool),
                v14 = .bool r13 ∧
                ifB (!r13) (
                  K (.bool false) wv30) (
                  Jv5 wv30))) (
              Jv5 wv29)))) ∧
        (∀ wv31, Jv5 wv31 →
        ∃ (xName17 : ByteArray) (xCols17p : Option Addr) (xCols17n xCols17c : Nat) (xIndexes17p : Option Addr) (xIndexes17n xIndexes17c : Nat) (xLimit17 : Int) (xParts17 : Int) (xBy17 : Int),
        cellsAt wv31.drew (Addr.mk b1 0 none) 0 [.string xName17, .slice xCols17p xCols17n xCols17c, .slice xIndexes17p xIndexes17n xIndexes17c, .int .i64 xLimit17, .int .i64 xParts17, .int .i64 xBy17] ∧
        ∃ (xName18 : ByteArray) (xCols18p : Option Addr) (xCols18n xCols18c : Nat) (xIndexes18p : Option Addr) (xIndexes18n xIndexes18c : Nat) (xLimit18 : Int) (xParts18 : Int) (xBy18 : Int),
        cellsAt wv31.drew (Addr.mk b1 0 none) 0 [.string xName18, .slice xCols18p xCols18n xCols18c, .slice xIndexes18p xIndexes18n xIndexes18c, .int .i64 xLimit18, .int .i64 xParts18, .int .i64 xBy18] ∧
        CallsV prog F.schema_Right #[.agg #[.string xName17, .slice xCols17p xCols17n xCols17c, .slice xIndexes17p xIndexes17n xIndexes17c, .int .i64 xLimit17, .int .i64 xParts17, .int .i64 xBy17]] wv31.drew (fun v15 wv32 =>
          ∃ (r14 : Bool),
          v15 = .bool r14 ∧
          cellsAt wv32 (Addr.mk b1 0 none) 0 [.string xName18, .slice xCols18p xCols18n xCols18c, .slice xIndexes18p xIndexes18n xIndexes18c, .int .i64 xLimit18, .int .i64 xParts18, .int .i64 xBy18] ∧
          CallsV prog F.affluxref03_Right #[.agg #[.string xName18, .slice xCols18p xCols18n xCols18c, .slice xIndexes18p xIndexes18n xIndexes18c, .int .i64 xLimit18, .int .i64 xParts18, .int .i64 xBy18]] wv32 (fun v16 wv33 =>
            ∃ (r15 : Bool),
            v16 = .bool r15 ∧
            ifB (r14 == r15) (
              ∀ b4 wv34, New wv33 (.cells #[.string name1] T.string) b4 wv34 →
              CallsV prog F.schema_Named #[.slice (some (Addr.mk b4 0 none)) 1 1] wv34 (fun v17 wv35 =>
                ∃ (r16 : Bool),
                v17 = .bool r16 ∧
                CallsV prog F.affluxref03_Named #[.string name1] wv35 (fun v18 wv36 =>
                  ∃ (r17 : Bool),
                  v18 = .bool r17 ∧
                  ifB (r16 == r17) (
                    ∀ b5 wv37, New wv36 (.cells #[.string name1, .string (bs [97])] T.string) b5 wv37 →
                    CallsV prog F.schema_Named #[.slice (some (Addr.mk b5 0 none)) 2 2] wv37 (fun v19 wv38 =>
                      ∃ (r18 : Bool),
                      v19 = .bool r18 ∧
                      CallsV prog F.affluxref03_Named #[.string name1] wv38 (fun v20 wv39 =>
                        ∃ (r19 : Bool),
                        v20 = .bool r19 ∧
                        ifB (r18 == r19) (
                          ∃ (xName19 : ByteArray) (xCols19p : Option Addr) (xCols19n xCols19c : Nat) (xIndexes19p : Option Addr) (xIndexes19n xIndexes19c : Nat) (xLimit19 : Int) (xParts19 : Int) (xBy19 : Int),
                          cellsAt wv39 (Addr.mk b1 0 none) 0 [.string xName19, .slice xCols19p xCols19n xCols19c, .slice xIndexes19p xIndexes19n xIndexes19c, .int .i64 xLimit19, .int .i64 xParts19, .int .i64 xBy19] ∧
                          CallsV prog F.schema_Col #[.agg #[.string xName19, .slice xCols19p xCols19n xCols19c, .slice xIndexes19p xIndexes19n xIndexes19c, .int .i64 xLimit19, .int .i64 xParts19, .int .i64 xBy19], .string name1] wv39 (fun v21 wv40 =>
                            ∃ (r20 : Int),
                            v21 = .int .i64 r20 ∧
                            ifB (r20 == atv1) (
                              CallsV prog F.affluxlaw03_awake #[] wv40 (fun v22 wv41 =>
                                ∃ (r21 : Bool),
                                v22 = .bool r21 ∧
                                K (.bool r21) wv41)) (
                              K (.bool false) wv40))) (
                          K (.bool false) wv39)))) (
                    K (.bool false) wv36)))) (
              K (.bool false) wv33))))))))))
def An.affluxlaw03_SchemaRights : Ann := ⟨[(10, .sil 0 [] (.sil 1 [] (.act 2 (.sil 3 [] (.sil 4 [] (.sil 5 [] (.sil 6 [] (.sil 8 [7] (.sil 9 [7] (.act 7 (.act 10 (.sil 11 [] (.sil 12 [] (.sil 13 [] (.sil 14 [] (.sil 15 [] (.act 16 (.sil 17 [] (.sil 18 [] (.done)))))))))))))))))))), (15, .sil 0 [] (.sil 1 [] (.act 2 (.sil 3 [] (.sil 4 [] (.sil 5 [] (.sil 6 [] (.sil 7 [] (.sil 8 [] (.sil 9 [] (.sil 10 [] (.sil 11 [] (.sil 12 [] (.sil 13 [] (.sil 14 [] (.sil 15 [] (.done))))))))))))))))), (20, .sil 0 [] (.sil 2 [1] (.act 1 (.act 3 (.sil 4 [] (.sil 5 [] (.sil 6 [] (.sil 9 [] (.act 7 (.act 8 (.act 10 (.sil 11 [] (.sil 12 [] (.sil 13 [] (.sil 14 [] (.sil 17 [] (.act 15 (.act 16 (.act 18 (.sil 19 [] (.sil 20 [] (.sil 21 [] (.sil 22 [] (.sil 23 [] (.sil 25 [] (.act 24 (.sil 26 [] (.sil 27 [] (.sil 28 [] (.act 29 (.sil 30 [] (.sil 31 [] (.done)))))))))))))))))))))))))))))))))], [(5, [(7, 3), (8, 3)], [2, 3, 4])], [(3, [], [2, 3, 4]), (12, [], [2, 3, 4, 7, 9]), (13, [(79, 4)], [2, 3, 7, 9]), (17, [], [2, 3, 7, 9]), (20, [], [2, 3, 7, 10])]⟩
theorem R.affluxlaw03_SchemaRights {sName1 : ByteArray} {sCols1p : Option Addr} {sCols1n sCols1c : Nat} {sIndexes1p : Option Addr} {sIndexes1n sIndexes1c : Nat} {sLimit1 : Int} {sParts1 : Int} {sBy1 : Int} {tName1 : ByteArray} {tCols1p : Option Addr} {tCols1n tCols1c : Nat} {tIndexes1p : Option Addr} {tIndexes1n tIndexes1c : Nat} {tLimit1 : Int} {tParts1 : Int} {tBy1 : Int} {name1 : ByteArray} {w : World} {K : Value → World → Prop} (h : C.affluxlaw03_SchemaRights sName1 sCols1p sCols1n sCols1c sIndexes1p sIndexes1n sIndexes1c sLimit1 sParts1 sBy1 tName1 tCols1p tCols1n tCols1c tIndexes1p tIndexes1n tIndexes1c tLimit1 tParts1 tBy1 name1 w K) : CallsV prog F.affluxlaw03_SchemaRights #[.agg #[.string sName1, .slice sCols1p sCols1n sCols1c, .slice sIndexes1p sIndexes1n sIndexes1c, .int .i64 sLimit1, .int .i64 sParts1, .int .i64 sBy1], .agg #[.string tName1, .slice tCols1p tCols1n tCols1c, .slice tIndexes1p tIndexes1n tIndexes1c, .int .i64 tLimit1, .int .i64 tParts1, .int .i64 tBy1], .string name1] w K :=
  vcFn.calls (an := An.affluxlaw03_SchemaRights) mixed tabOK eqsOK Go.Proofs.Tryd.func11 (by kernel_rfl) (by kernel_rfl) (by kernel_rfl) ((by kernel_rfl : vcFn prog eqs tab An.affluxlaw03_SchemaRights Go.Proofs.Tryd.f11 [.agg #[.string sName1, .slice sCols1p sCols1n sCols1c, .slice sIndexes1p sIndexes1n sIndexes1c, .int .i64 sLimit1, .int .i64 sParts1, .int .i64 sBy1], .agg #[.string tName1, .slice tCols1p tCols1n tCols1c, .slice tIndexes1p tIndexes1n tIndexes1c, .int .i64 tLimit1, .int .i64 tParts1, .int .i64 tBy1], .string name1] w K = C.affluxlaw03_SchemaRights sName1 sCols1p sCols1n sCols1c sIndexes1p sIndexes1n sIndexes1c sLimit1 sParts1 sBy1 tName1 tCols1p tCols1n tCols1c tIndexes1p tIndexes1n tIndexes1c tLimit1 tParts1 tBy1 name1 w K).mpr h)

/-- afflux/affluxlaw03.SchemaFits -/
def C.affluxlaw03_SchemaFits (sName1 : ByteArray) (sCols1p : Option Addr) (sCols1n sCols1c : Nat) (sIndexes1p : Option Addr) (sIndexes1n sIndexes1c : Nat) (sLimit1 : Int) (sParts1 : Int) (sBy1 : Int) (row1p : Option Addr) (row1n row1c : Nat) (index1 : Int) (w : World) (K : Value → World → Prop) : Prop :=
  ∀ b1 wv1, New w (.cells #[.string sName1, .slice sCols1p sCols1n sCols1c, .slice sIndexes1p sIndexes1n sIndexes1c, .int .i64 sLimit1, .int .i64 sParts1, .int .i64 sBy1] T.api_Schema) b1 wv1 →
  ∃ Jv1 : World → Prop,
  (∃ (xName1 : ByteArray) (xCols1p : Option Addr) (xCols1n xCols1c : Nat) (xIndexes1p : Option Addr) (xIndexes1n xIndexes1c : Nat) (xLimit1 : Int) (xParts1 : Int) (xBy1 : Int),
  cellsAt wv1 (Addr.mk b1 0 none) 0 [.string xName1, .slice xCols1p xCols1n xCols1c, .slice xIndexes1p xIndexes1n xIndexes1c, .int .i64 xLimit1, .int .i64 xParts1, .int .i64 xBy1] ∧
  CallsV prog F.affluxref03_Great #[.agg #[.string xName1, .slice xCols1p xCols1n xCols1c, .slice xIndexes1p xIndexes1n xIndexes1c, .int .i64 xLimit1, .int .i64 xParts1, .int .i64 xBy1]] wv1 (fun v1 wv2 =>
    ∃ (r1 : Bool),
    v1 = .bool r1 ∧
    ifB r1 (
      CallsV prog F.affluxlaw03_awake #[] wv2 (fun v2 wv3 =>
        ∃ (r2 : Bool),
        v2 = .bool r2 ∧
        K (.bool r2) wv3)) (
      CallsV prog F.affluxref02_Great #[.slice row1p row1n row1c] wv2 (fun v3 wv4 =>
        ∃ (r3 : Bool),
        v3 = .bool r3 ∧
        ifB r3 (
          CallsV prog F.affluxlaw03_awake #[] wv4 (fun v4 wv5 =>
            ∃ (r4 : Bool),
            v4 = .bool r4 ∧
            K (.bool r4) wv5)) (
          Jv1 wv4))))) ∧
  (∀ wv6, Jv1 wv6 →
  ∃ (xName2 : ByteArray) (xCols2p : Option Addr) (xCols2n xCols2c : Nat) (xIndexes2p : Option Addr) (xIndexes2n xIndexes2c : Nat) (xLimit2 : Int) (xParts2 : Int) (xBy2 : Int),
  cellsAt wv6 (Addr.mk b1 0 none) 0 [.string xName2, .slice xCols2p xCols2n xCols2c, .slice xIndexes2p xIndexes2n xIndexes2c, .int .i64 xLimit2, .int .i64 xParts2, .int .i64 xBy2] ∧
  CallsV prog F.affluxref03_Right #[.agg #[.string xName2, .slice xCols2p xCols2n xCols2c, .slice xIndexes2p xIndexes2n xIndexes2c, .int .i64 xLimit2, .int .i64 xParts2, .int .i64 xBy2]] wv6 (fun v5 wv7 =>
    ∃ (r5 : Bool),
    v5 = .bool r5 ∧
    ∃ Jv2 : Bool → World → Prop,
    (ifB r5 (
      ∃ (xName3 : ByteArray) (xCols3p : Option Addr) (xCols3n xCols3c : Nat) (xIndexes3p : Option Addr) (xIndexes3n xIndexes3c : Nat) (xLimit3 : Int) (xParts3 : Int) (xBy3 : Int),
      cellsAt wv7 (Addr.mk b1 0 none) 0 [.string xName3, .slice xCols3p xCols3n xCols3c, .slice xIndexes3p xIndexes3n xIndexes3c, .int .i64 xLimit3, .int .i64 xParts3, .int .i64 xBy3] ∧
      CallsV prog F.affluxref03_Fits #[.agg #[.string xName3, .slice xCols3p xCols3n xCols3c, .slice xIndexes3p xIndexes3n xIndexes3c, .int .i64 xLimit3, .int .i64 xParts3, .int .i64 xBy3], .slice row1p row1n row1c] wv7 (fun v6 wv8 =>
        ∃ (r6 : Bool),
        v6 = .bool r6 ∧
        Jv2 r6 wv8)) (
      Jv2 false wv7)) ∧
    (∀ (fits1 : Bool) wv9, Jv2 fits1 wv9 →
    ∃ Jv3 : Bool → World → Prop,
    (ifB r5 (
      ifB (decide ((0 : Int) ≤ index1)) (
        ∃ (Indexes1p : Option Addr) (Indexes1n Indexes1c : Nat),
        wv9.cell? ((Addr.mk b1 0 none).add 2) = some (.slice Indexes1p Indexes1n Indexes1c) ∧
        Jv3 (decide (index1 < ((Indexes1n : Nat) : Int))) wv9) (
        Jv3 false wv9)) (
      Jv3 false wv9)) ∧
    (∀ (has1 : Bool) wv10, Jv3 has1 wv10 →
    ∃ (xName4 : ByteArray) (xCols4p : Option Addr) (xCols4n xCols4c : Nat) (xIndexes4p : Option Addr) (xIndexes4n xIndexes4c : Nat) (xLimit4 : Int) (xParts4 : Int) (xBy4 : Int),
    cellsAt wv10 (Addr.mk b1 0 none) 0 [.string xName4, .slice xCols4p xCols4n xCols4c, .slice xIndexes4p xIndexes4n xIndexes4c, .int .i64 xLimit4, .int .i64 xParts4, .int .i64 xBy4] ∧
    CallsV prog F.schema_Key #[.agg #[.string xName4, .slice xCols4p xCols4n xCols4c, .slice xIndexes4p xIndexes4n xIndexes4c, .int .i64 xLimit4, .int .i64 xParts4, .int .i64 xBy4], .int .i64 index1, .slice row1p row1n row1c] wv10 (fun v7 wv11 =>
      ∃ (ra1 : ByteArray) (rb1 : Int),
      v7 = .tuple #[.string ra1, .int .i64 rb1] ∧
      ∃ (xName5 : ByteArray) (xCols5p : Option Addr) (xCols5n xCols5c : Nat) (xIndexes5p : Option Addr) (xIndexes5n xIndexes5c : Nat) (xLimit5 : Int) (xParts5 : Int) (xBy5 : Int),
      cellsAt wv11 (Addr.mk b1 0 none) 0 [.string xName5, .slice xCols5p xCols5n xCols5c, .slice xIndexes5p xIndexes5n xIndexes5c, .int .i64 xLimit5, .int .i64 xParts5, .int .i64 xBy5] ∧
      CallsV prog F.schema_Keys #[.agg #[.string xName5, .slice xCols5p xCols5n xCols5c, .slice xIndexes5p xIndexes5n xIndexes5c, .int .i64 xLimit5, .int .i64 xParts5, .int .i64 xBy5], .slice row1p row1n row1c] wv11 (fun v8 wv12 =>
        ∃ (ra2p : Option Addr) (ra2n ra2c : Nat) (rb2 : Int),
        v8 = .tuple #[.slice ra2p ra2n ra2c, .int .i64 rb2] ∧
        ∃ (xName6 : ByteArray) (xCols6p : Option Addr) (xCols6n xCols6c : Nat) (xIndexes6p : Option Addr) (xIndexes6n xIndexes6c : Nat) (xLimit6 : Int) (xParts6 : Int) (xBy6 : Int),
        cellsAt wv12 (Addr.mk b1 0 none) 0 [.string xName6, .slice xCols6p xCols6n xCols6c, .slice xIndexes6p xIndexes6n xIndexes6c, .int .i64 xLimit6, .int .i64 xParts6, .int .i64 xBy6] ∧
        CallsV prog F.schema_Part #[.agg #[.string xName6, .slice xCols6p xCols6n xCols6c, .slice xIndexes6p xIndexes6n xIndexes6c, .int .i64 xLimit6, .int .i64 xParts6, .int .i64 xBy6], .slice row1p row1n row1c] wv12 (fun v9 wv13 =>
          ∃ (ra3 : Int) (rb3 : Int),
          v9 = .tuple #[.int .i64 ra3, .int .i64 rb3] ∧
          ∃ (xName7 : ByteArray) (xCols7p : Option Addr) (xCols7n xCols7c : Nat) (xIndexes7p : Option Addr) (xIndexes7n xIndexes7c : Nat) (xLimit7 : Int) (xParts7 : Int) (xBy7 : Int),
          cellsAt wv13 (Addr.mk b1 0 none) 0 [.string xName7, .slice xCols7p xCols7n xCols7c, .slice xIndexes7p xIndexes7n xIndexes7c, .int .i64 xLimit7, .int .i64 xParts7, .int .i64 xBy7] ∧
          CallsV prog F.schema_Fits #[.agg #[.string xName7, .slice xCols7p xCols7n xCols7c, .slice xIndexes7p xIndexes7n xIndexes7c, .int .i64 xLimit7, .int .i64 xParts7, .int .i64 xBy7], .slice row1p row1n row1c] wv13 (fun v10 wv14 =>
            ∃ (r7 : Bool),
            v10 = .bool r7 ∧
            ifB (!(r7 == fits1)) (
              K (.bool false) wv14) (
              ifB (!fits1) (
                ifB (!r5) (
                  ifB (sEq ra1 (bs [])) (
                    ifB has1 (
                      ifB (rb1 == (13 : Int)) (
                        ifB (((ra2n : Nat) : Int) == (0 : Int)) (
                          ifB (rb2 == (1 : Int)) (
                            ifB (ra3 == (0 : Int)) (
                              ifB (rb3 == (1 : Int)) (
                                CallsV prog F.affluxlaw03_awake #[] wv14 (fun v11 wv15 =>
                                  ∃ (r8 : Bool),
                                  v11 = .bool r8 ∧
                                  K (.bool r8) wv15)) (
                                K (.bool false) wv14)) (
                              K (.bool false) wv14)) (
                            K (.bool false) wv14)) (
                          K (.bool false) wv14)) (
                        ifB (!has1) (
                          ifB (rb1 == (1 : Int)) (
                            ifB (((ra2n : Nat) : Int) == (0 : Int)) (
                              ifB (rb2 == (1 : Int)) (
                                ifB (ra3 == (0 : Int)) (
                                  ifB (rb3 == (1 : Int)) (
                                    CallsV prog F.affluxlaw03_awake #[] wv14 (fun v12 wv16 =>
                                      ∃ (r9 : Bool),
                                      v12 = .bool r9 ∧
                                      K (.bool r9) wv16)) (
                                    K (.bool false) wv14)) (
                                  K (.bool false) wv14)) (
                                K (.bool false) wv14)) (
                              K (.bool false) wv14)) (
                            K (.bool false) wv14)) (
                          K (.bool false) wv14))) (
                      ifB (!has1) (
                        ifB (rb1 == (1 : Int)) (
                          ifB (((ra2n : Nat) : Int) == (0 : Int)) (
                            ifB (rb2 == (1 : Int)) (
                              ifB (ra3 == (0 : Int)) (
                                ifB (rb3 == (1 : Int)) (
                                  CallsV prog F.affluxlaw03_awake #[] wv14 (fun v13 wv17 =>
                                    ∃ (r10 : Bool),
                                    v13 = .bool r10 ∧
                                    K (.bool r10) wv17)) (
                                  K (.bool false) wv14)) (
                                K (.bool false) wv14)) (
                              K (.bool false) wv14)) (
                            K (.bool false) wv14)) (
                          K (.bool false) wv14)) (
                        K (.bool false) wv14))) (
                    K (.bool false) wv14)) (
                  ifB (sEq ra1 (bs [])) (
                    ifB has1 (
                      ifB (rb1 == (13 : Int)) (
                        ifB (((ra2n : Nat) : Int) == (0 : Int)) (
                          ifB (rb2 == (13 : Int)) (
                            ifB (ra3 == (0 : Int)) (
                              ifB (rb3 == (13 : Int)) (
                                CallsV prog F.affluxlaw03_awake #[] wv14 (fun v14 wv18 =>
                                  ∃ (r11 : Bool),
                                  v14 = .bool r11 ∧
                                  K (.bool r11) wv18)) (
                                K (.bool false) wv14)) (
                              K (.bool false) wv14)) (
                            K (.bool false) wv14)) (
                          K (.bool false) wv14)) (
                        ifB (!has1) (
                          ifB (rb1 == (1 : Int)) (
                            ifB (((ra2n : Nat) : Int) == (0 : Int)) (
                              ifB (rb2 == (13 : Int)) (
                                ifB (ra3 == (0 : Int)) (
                                  ifB (rb3 == (13 : Int)) (
                                    CallsV prog F.affluxlaw03_awake #[] wv14 (fun v15 wv19 =>
                                      ∃ (r12 : Bool),
                                      v15 = .bool r12 ∧
                                      K (.bool r12) wv19)) (
                                    K (.bool false) wv14)) (
                                  K (.bool false) wv14)) (
                                K (.bool false) wv14)) (
                              K (.bool false) wv14)) (
                            K (.bool false) wv14)) (
                          K (.bool false) wv14))) (
                      ifB (!has1) (
                        ifB (rb1 == (1 : Int)) (
                          ifB (((ra2n : Nat) : Int) == (0 : Int)) (
                            ifB (rb2 == (13 : Int)) (
                              ifB (ra3 == (0 : Int)) (
                                ifB (rb3 == (13 : Int)) (
                                  CallsV prog F.affluxlaw03_awake #[] wv14 (fun v16 wv20 =>
                                    ∃ (r13 : Bool),
                                    v16 = .bool r13 ∧
                                    K (.bool r13) wv20)) (
                                  K (.bool false) wv14)) (
                                K (.bool false) wv14)) (
                              K (.bool false) wv14)) (
                            K (.bool false) wv14)) (
                          K (.bool false) wv14)) (
                        K (.bool false) wv14))) (
                    K (.bool false) wv14))) (
                ∃ Jv4 : World → Prop,
                (ifB (!has1) (
                  ifB (!sEq ra1 (bs [])) (
                    K (.bool false) wv14) (
                    ifB (rb1 != (1 : Int)) (
                      K (.bool false) wv14) (
                      ifB has1 (
                        ∃ (xName8 : ByteArray) (xCols8p : Option Addr) (xCols8n xCols8c : Nat) (xIndexes8p : Option Addr) (xIndexes8n xIndexes8c : Nat) (xLimit8 : Int) (xParts8 : Int) (xBy8 : Int),
                        cellsAt wv14 (Addr.mk b1 0 none) 0 [.string xName8, .slice xCols8p xCols8n xCols8c, .slice xIndexes8p xIndexes8n xIndexes8c, .int .i64 xLimit8, .int .i64 xParts8, .int .i64 xBy8] ∧
                        CallsV prog F.affluxref03_Key #[.agg #[.string xName8, .slice xCols8p xCols8n xCols8c, .slice xIndexes8p xIndexes8n xIndexes8c, .int .i64 xLimit8, .int .i64 xParts8, .int .i64 xBy8], .int .i64 index1, .slice row1p row1n row1c] wv14 (fun v17 wv21 =>
                          ∃ (r14 : ByteArray),
                          v17 = .string r14 ∧
                          ifB (!sEq ra1 r14) (
                            K (.bool false) wv21) (
                            ifB (rb1 != (0 : Int)) (
                              K (.bool false) wv21) (
                              ∃ (Indexes2p : Option Addr) (Indexes2n Indexes2c : Nat),
                              wv21.cell? ((Addr.mk b1 0 none).add 2) = some (.slice Indexes2p Indexes2n Indexes2c) ∧
                              ifB (((ra2n : Nat) : Int) != ((Indexes2n : Nat) : Int)) (
                                K (.bool false) wv21) (
                                Jv4 wv21))))) (
                        ∃ (Indexes3p : Option Addr) (Indexes3n Indexes3c : Nat),
                        wv14.cell? ((Addr.mk b1 0 none).add 2) = some (.slice Indexes3p Indexes3n Indexes3c) ∧
                        ifB (((ra2n : Nat) : Int) != ((Indexes3n : Nat) : Int)) (
                          K (.bool false) wv14) (
                          Jv4 wv14))))) (
                  ifB has1 (
                    ∃ (xName9 : ByteArray) (xCols9p : Option Addr) (xCols9n xCols9c : Nat) (xIndexes9p : Option Addr) (xIndexes9n xIndexes9c : Nat) (xLimit9 : Int) (xParts9 : Int) (xBy9 : Int),
                    cellsAt wv14 (Addr.mk b1 0 none) 0 [.string xName9, .slice xCols9p xCols9n xCols9c, .slice xIndexes9p xIndexes9n xIndexes9c, .int .i64 xLimit9, .int .i64 xParts9, .int .i64 xBy9] ∧
                    CallsV prog F.affluxref03_Key #[.agg #[.string xName9, .slice xCols9p xCols9n xCols9c, .slice xIndexes9p xIndexes9n xIndexes9c, .int .i64 xLimit9, .int .i64 xParts9, .int .i64 xBy9], .int .i64 index1, .slice row1p row1n row1c] wv14 (fun v18 wv22 =>
                      ∃ (r15 : ByteArray),
                      v18 = .string r15 ∧
                      ifB (!sEq ra1 r15) (
                        K (.bool false) wv22) (
                        ifB (rb1 != (0 : Int)) (
                          K (.bool false) wv22) (
                          ∃ (Indexes4p : Option Addr) (Indexes4n Indexes4c : Nat),
                          wv22.cell? ((Addr.mk b1 0 none).add 2) = some (.slice Indexes4p Indexes4n Indexes4c) ∧
                          ifB (((ra2n : Nat) : Int) != ((Indexes4n : Nat) : Int)) (
                            K (.bool false) wv22) (
                            Jv4 wv22))))) (
                    ∃ (Indexes5p : Option Addr) (Indexes5n Indexes5c : Nat),
                    wv14.cell? ((Addr.mk b1 0 none).add 2) = some (.slice Indexes5p Indexes5n Indexes5c) ∧
                    ifB (((ra2n : Nat) : Int) != ((Indexes5n : Nat) : Int)) (
                      K (.bool false) wv14) (
                      Jv4 wv14)))) ∧
                (∀ wv23, Jv4 wv23 →
                ∃ (Iv1 : Int → World → Prop) (m1 : Int → World → Nat),
                Iv1 0 wv23 ∧
                ∀ (i1 : Int) wv24, Iv1 i1 wv24 →
                ifB (decide (i1 < ((ra2n : Nat) : Int))) (
                  ∃ a1, ra2p = some a1 ∧ 0 ≤ i1 ∧ i1 < ((ra2n : Nat) : Int) ∧
                  ∃ (e1 : ByteArray),
                  wv24.drew.cell? (a1.add (i1.toNat * 1)) = some (.string e1) ∧
                  ∃ (xName10 : ByteArray) (xCols10p : Option Addr) (xCols10n xCols10c : Nat) (xIndexes10p : Option Addr) (xIndexes10n xIndexes10c : Nat) (xLimit10 : Int) (xParts10 : Int) (xBy10 : Int),
                  cellsAt wv24.drew (Addr.mk b1 0 none) 0 [.string xName10, .slice xCols10p xCols10n xCols10c, .slice xIndexes10p xIndexes10n xIndexes10c, .int .i64 xLimit10, .int .i64 xParts10, .int .i64 xBy10] ∧
                  CallsV prog F.affluxref03_Key #[.agg #[.string xName10, .slice xCols10p xCols10n xCols10c, .slice xIndexes10p xIndexes10n xIndexes10c, .int .i64 xLimit10, .int .i64 xParts10, .int .i64 xBy10], .int .i64 i1, .slice row1p row1n row1c] wv24.drew (fun v19 wv25 =>
                    ∃ (r16 : ByteArray),
                    v19 = .string r16 ∧
                    wv25.cell? (a1.add (i1.toNat * 1)) = some (.string e1) ∧
                    ifB (!sEq e1 r16) (
                      K (.bool false) wv25) (
                      Iv1 (IntKind.i64.wrap (i1 + (1 : Int))) wv25 ∧ m1 (IntKind.i64.wrap (i1 + (1 : Int))) wv25 < m1 i1 wv24))) (
                  ifB (rb2 == (0 : Int)) (
                    ∃ (By1 : Int),
                    wv24.drew.cell? ((Addr.mk b1 0 none).add 5) = some (.int .i64 By1) ∧
                    ∃ a2, row1p = some a2 ∧ 0 ≤ By1 ∧ By1 < ((row1n : Nat) : Int) ∧
                    ∃ (eKind1 : Int) (eN1 : Int) (eS1 : ByteArray),
                    cellsAt wv24.drew (a2.add (By1.toNat * 3)) 0 [.int .i64 eKind1, .int .i64 eN1, .string eS1] ∧
                    ∃ (Parts1 : Int),
                    wv24.drew.cell? ((Addr.mk b1 0 none).add 4) = some (.int .i64 Parts1) ∧
                    CallsV prog F.affluxref02_Spread #[.agg #[.int .i64 eKind1, .int .i64 eN1, .string eS1], .int .i64 Parts1] wv24.drew (fun v20 wv26 =>
                      ∃ (r17 : Int),
                      v20 = .int .i64 r17 ∧
                      ifB (ra3 == r17) (
                        ifB (rb3 == (0 : Int)) (
                          CallsV prog F.affluxlaw03_awake #[] wv26 (fun v21 wv27 =>
                            ∃ (r18 : Bool),
                            v21 = .bool r18 ∧
                            K (.bool r18) wv27)) (
                          K (.bool false) wv26)) (
                        K (.bool false) wv26))) (
                    K (.bool false) wv24.drew)))))))))))))
def An.affluxlaw03_SchemaFits : Ann := ⟨[(21, .sil 0 [] (.sil 1 [] (.sil 2 [] (.sil 3 [7] (.sil 4 [] (.sil 5 [] (.sil 6 [] (.act 7 (.sil 8 [] (.done)))))))))), (23, .sil 0 [] (.sil 1 [] (.sil 2 [] (.sil 3 [] (.sil 4 [] (.sil 5 [] (.sil 6 [] (.sil 7 [] (.sil 8 [] (.sil 9 [] (.sil 10 [] (.act 11 (.sil 12 [] (.sil 13 [] (.sil 14 [] (.sil 15 [] (.sil 16 [] (.sil 17 [] (.sil 18 [] (.act 19 (.sil 20 [] (.sil 21 [] (.done)))))))))))))))))))))))], [(19, [(17, 3)], [1, 3, 12, 13, 14, 15])], [(3, [], [1, 2, 3]), (5, [(8, 4)], [1, 2, 3, 7]), (6, [(9, 4)], [1, 2, 3, 7, 8]), (18, [], [1, 2, 3, 9, 10, 11, 12, 13, 14, 15])]⟩
theorem R.affluxlaw03_SchemaFits {sName1 : ByteArray} {sCols1p : Option Addr} {sCols1n sCols1c : Nat} {sIndexes1p : Option Addr} {sIndexes1n sIndexes1c : Nat} {sLimit1 : Int} {sParts1 : Int} {sBy1 : Int} {row1p : Option Addr} {row1n row1c : Nat} {index1 : Int} {w : World} {K : Value → World → Prop} (h : C.affluxlaw03_SchemaFits sName1 sCols1p sCols1n sCols1c sIndexes1p sIndexes1n sIndexes1c sLimit1 sParts1 sBy1 row1p row1n row1c index1 w K) : CallsV prog F.affluxlaw03_SchemaFits #[.agg #[.string sName1, .slice sCols1p sCols1n sCols1c, .slice sIndexes1p sIndexes1n sIndexes1c, .int .i64 sLimit1, .int .i64 sParts1, .int .i64 sBy1], .slice row1p row1n row1c, .int .i64 index1] w K :=
  vcFn.calls (an := An.affluxlaw03_SchemaFits) mixed tabOK eqsOK Go.Proofs.Tryd.func12 (by kernel_rfl) (by kernel_rfl) (by kernel_rfl) ((by kernel_rfl : vcFn prog eqs tab An.affluxlaw03_SchemaFits Go.Proofs.Tryd.f12 [.agg #[.string sName1, .slice sCols1p sCols1n sCols1c, .slice sIndexes1p sIndexes1n sIndexes1c, .int .i64 sLimit1, .int .i64 sParts1, .int .i64 sBy1], .slice row1p row1n row1c, .int .i64 index1] w K = C.affluxlaw03_SchemaFits sName1 sCols1p sCols1n sCols1c sIndexes1p sIndexes1n sIndexes1c sLimit1 sParts1 sBy1 row1p row1n row1c index1 w K).mpr h)

/-- afflux/affluxref02.Great -/
def C.affluxref02_Great (l1p : Option Addr) (l1n l1c : Nat) (w : World) (K : Value → World → Prop) : Prop :=
  ifB (decide ((30 : Int) < ((l1n : Nat) : Int))) (
    K (.bool true) w) (
    ∃ (Iv1 : Int → World → Prop) (m1 : Int → World → Nat),
    Iv1 0 w ∧
    ∀ (i1 : Int) wv1, Iv1 i1 wv1 →
    ifB (decide (i1 < ((l1n : Nat) : Int))) (
      ∃ a1, l1p = some a1 ∧ 0 ≤ i1 ∧ i1 < ((l1n : Nat) : Int) ∧
      ∃ (S1 : ByteArray),
      wv1.cell? ((a1.add (i1.toNat * 3)).add 2) = some (.string S1) ∧
      ifB (decide ((300 : Int) < ((S1.size : Nat) : Int))) (
        K (.bool true) wv1) (
        Iv1 (IntKind.i64.wrap (i1 + (1 : Int))) wv1 ∧ m1 (IntKind.i64.wrap (i1 + (1 : Int))) wv1 < m1 i1 wv1)) (
      K (.bool false) wv1))
def An.affluxref02_Great : Ann := ⟨[], [(4, [(3, 3)], [0])], []⟩
theorem R.affluxref02_Great {l1p : Option Addr} {l1n l1c : Nat} {w : World} {K : Value → World → Prop} (h : C.affluxref02_Great l1p l1n l1c w K) : CallsV prog F.affluxref02_Great #[.slice l1p l1n l1c] w K :=
  vcFn.calls (an := An.affluxref02_Great) mixed tabOK eqsOK Go.Proofs.Tryd.func13 (by kernel_rfl) (by kernel_rfl) (by kernel_rfl) ((by kernel_rfl : vcFn prog eqs tab An.affluxref02_Great Go.Proofs.Tryd.f13 [.slice l1p l1n l1c] w K = C.affluxref02_Great l1p l1n l1c w K).mpr h)

/-- afflux/affluxlaw02.awake -/
def C.affluxlaw02_awake  (w : World) (K : Value → World → Prop) : Prop :=
  CallsV prog F.value_Int #[.int .i64 1] w (fun v1 wv1 =>
    ∃ (rKind1 : Int) (rN1 : Int) (rS1 : ByteArray),
    v1 = .agg #[.int .i64 rKind1, .int .i64 rN1, .string rS1] ∧
    CallsV prog F.value_Text #[.string (bs [97])] wv1 (fun v2 wv2 =>
      ∃ (rKind2 : Int) (rN2 : Int) (rS2 : ByteArray),
      v2 = .agg #[.int .i64 rKind2, .int .i64 rN2, .string rS2] ∧
      ∀ b1 wv3, New wv2 (.cells #[.int .i64 rKind1, .int .i64 rN1, .string rS1, .int .i64 rKind2, .int .i64 rN2, .string rS2] T.api_Value) b1 wv3 →
      CallsV prog F.value_Key #[.slice (some (Addr.mk b1 0 none)) 2 2] wv3 (fun v3 wv4 =>
        ∃ (r1 : ByteArray),
        v3 = .string r1 ∧
        ifB (sEq r1 (bs [1, 128, 0, 0, 0, 0, 0, 0, 1, 2, 97, 0, 1])) (
          CallsV prog F.value_Text #[.string (bs [105, 116, 39, 115])] wv4 (fun v4 wv5 =>
            ∃ (rKind3 : Int) (rN3 : Int) (rS3 : ByteArray),
            v4 = .agg #[.int .i64 rKind3, .int .i64 rN3, .string rS3] ∧
            CallsV prog F.value_Print #[.agg #[.int .i64 rKind3, .int .i64 rN3, .string rS3]] wv5 (fun v5 wv6 =>
              ∃ (r2 : ByteArray),
              v5 = .string r2 ∧
              ifB (sEq r2 (bs [39, 105, 116, 39, 39, 115, 39])) (
                CallsV prog F.value_Bool #[.bool true] wv6 (fun v6 wv7 =>
                  ∃ (rKind4 : Int) (rN4 : Int) (rS4 : ByteArray),
                  v6 = .agg #[.int .i64 rKind4, .int .i64 rN4, .string rS4] ∧
                  CallsV prog F.value_Print #[.agg #[.int .i64 rKind4, .int .i64 rN4, .string rS4]] wv7 (fun v7 wv8 =>
                    ∃ (r3 : ByteArray),
                    v7 = .string r3 ∧
                    K (.bool (sEq r3 (bs [116, 114, 117, 101]))) wv8))) (
                K (.bool false) wv6)))) (
          K (.bool false) wv4))))
def An.affluxlaw02_awake : Ann := ⟨[], [], []⟩
theorem R.affluxlaw02_awake  {w : World} {K : Value → World → Prop} (h : C.affluxlaw02_awake  w K) : CallsV prog F.affluxlaw02_awake #[] w K :=
  vcFn.calls (an := An.affluxlaw02_awake) mixed tabOK eqsOK Go.Proofs.Tryd.func14 (by kernel_rfl) (by kernel_rfl) (by kernel_rfl) ((by kernel_rfl : vcFn prog eqs tab An.affluxlaw02_awake Go.Proofs.Tryd.f14 [] w K = C.affluxlaw02_awake  w K).mpr h)

/-- afflux/value.Cmp -/
def C.value_Cmp (aKind1 : Int) (aN1 : Int) (aS1 : ByteArray) (bKind1 : Int) (bN1 : Int) (bS1 : ByteArray) (w : World) (K : Value → World → Prop) : Prop :=
  ∀ b1 wv1, New w (.cells #[.int .i64 aKind1, .int .i64 aN1, .string aS1] T.api_Value) b1 wv1 →
  ∀ b2 wv2, New wv1 (.cells #[.int .i64 bKind1, .int .i64 bN1, .string bS1] T.api_Value) b2 wv2 →
  ∃ (Kind1 : Int),
  wv2.drew.cell? ((Addr.mk b1 0 none).add 0) = some (.int .i64 Kind1) ∧
  ∃ (Kind2 : Int),
  wv2.drew.cell? ((Addr.mk b2 0 none).add 0) = some (.int .i64 Kind2) ∧
  ∃ (N1 : Int),
  wv2.drew.cell? ((Addr.mk b1 0 none).add 1) = some (.int .i64 N1) ∧
  ∃ (N2 : Int),
  wv2.drew.cell? ((Addr.mk b2 0 none).add 1) = some (.int .i64 N2) ∧
  ∃ (S1 : ByteArray),
  wv2.drew.cell? ((Addr.mk b1 0 none).add 2) = some (.string S1) ∧
  ∃ (S2 : ByteArray),
  wv2.drew.cell? ((Addr.mk b2 0 none).add 2) = some (.string S2) ∧
  CallsV prog F.cmp_Compare_int #[.int .i64 Kind1, .int .i64 Kind2] wv2.drew (fun v1 wv3 =>
    ∃ (r1 : Int),
    v1 = .int .i64 r1 ∧
    wv3.cell? ((Addr.mk b2 0 none).add 2) = some (.string S2) ∧
    wv3.cell? ((Addr.mk b1 0 none).add 2) = some (.string S1) ∧
    wv3.cell? ((Addr.mk b2 0 none).add 1) = some (.int .i64 N2) ∧
    wv3.cell? ((Addr.mk b1 0 none).add 1) = some (.int .i64 N1) ∧
    CallsV prog F.cmp_Compare_int64 #[.int .i64 N1, .int .i64 N2] wv3 (fun v2 wv4 =>
      ∃ (r2 : Int),
      v2 = .int .i64 r2 ∧
      wv4.cell? ((Addr.mk b2 0 none).add 2) = some (.string S2) ∧
      wv4.cell? ((Addr.mk b1 0 none).add 2) = some (.string S1) ∧
      CallsV prog F.cmp_Compare_string #[.string S1, .string S2] wv4 (fun v3 wv5 =>
        ∃ (r3 : Int),
        v3 = .int .i64 r3 ∧
        ∀ b3 wv6, New wv5 (.cells #[.int .i64 r1, .int .i64 r2, .int .i64 r3] T.int) b3 wv6 →
        CallsV prog F.cmp_Or_int #[.slice (some (Addr.mk b3 0 none)) 3 3] wv6 (fun v4 wv7 =>
          ∃ (r4 : Int),
          v4 = .int .i64 r4 ∧
          K (.int .i64 r4) wv7))))
def An.value_Cmp : Ann := ⟨[(1, .sil 0 [] (.sil 1 [] (.sil 2 [] (.sil 3 [] (.sil 5 [] (.sil 6 [4] (.sil 7 [] (.sil 8 [4] (.sil 10 [] (.sil 11 [4, 9] (.sil 12 [] (.sil 13 [4, 9] (.act 4 (.act 9 (.act 14 (.act 15 (.act 16 (.sil 17 [] (.done)))))))))))))))))))], [], []⟩
theorem R.value_Cmp {aKind1 : Int} {aN1 : Int} {aS1 : ByteArray} {bKind1 : Int} {bN1 : Int} {bS1 : ByteArray} {w : World} {K : Value → World → Prop} (h : C.value_Cmp aKind1 aN1 aS1 bKind1 bN1 bS1 w K) : CallsV prog F.value_Cmp #[.agg #[.int .i64 aKind1, .int .i64 aN1, .string aS1], .agg #[.int .i64 bKind1, .int .i64 bN1, .string bS1]] w K :=
  vcFn.calls (an := An.value_Cmp) mixed tabOK eqsOK Go.Proofs.Tryd.func15 (by kernel_rfl) (by kernel_rfl) (by kernel_rfl) ((by kernel_rfl : vcFn prog eqs tab An.value_Cmp Go.Proofs.Tryd.f15 [.agg #[.int .i64 aKind1, .int .i64 aN1, .string aS1], .agg #[.int .i64 bKind1, .int .i64 bN1, .string bS1]] w K = C.value_Cmp aKind1 aN1 aS1 bKind1 bN1 bS1 w K).mpr h)

/-- afflux/affluxref02.Cmp -/
def C.affluxref02_Cmp (aKind1 : Int) (aN1 : Int) (aS1 : ByteArray) (bKind1 : Int) (bN1 : Int) (bS1 : ByteArray) (w : World) (K : Value → World → Prop) : Prop :=
  ∀ b1 wv1, New w (.cells #[.int .i64 aKind1, .int .i64 aN1, .string aS1] T.api_Value) b1 wv1 →
  ∀ b2 wv2, New wv1 (.cells #[.int .i64 bKind1, .int .i64 bN1, .string bS1] T.api_Value) b2 wv2 →
  ∃ (xKind1 : Int) (xN1 : Int) (xS1 : ByteArray),
  cellsAt wv2 (Addr.mk b1 0 none) 0 [.int .i64 xKind1, .int .i64 xN1, .string xS1] ∧
  ∃ (xKind2 : Int) (xN2 : Int) (xS2 : ByteArray),
  cellsAt wv2 (Addr.mk b2 0 none) 0 [.int .i64 xKind2, .int .i64 xN2, .string xS2] ∧
  CallsV prog F.affluxref02_Less #[.agg #[.int .i64 xKind1, .int .i64 xN1, .string xS1], .agg #[.int .i64 xKind2, .int .i64 xN2, .string xS2]] wv2 (fun v1 wv3 =>
    ∃ (r1 : Bool),
    v1 = .bool r1 ∧
    ifB r1 (
      K (.int .i64 (-1)) wv3) (
      ∃ (xKind3 : Int) (xN3 : Int) (xS3 : ByteArray),
      cellsAt wv3 (Addr.mk b2 0 none) 0 [.int .i64 xKind3, .int .i64 xN3, .string xS3] ∧
      ∃ (xKind4 : Int) (xN4 : Int) (xS4 : ByteArray),
      cellsAt wv3 (Addr.mk b1 0 none) 0 [.int .i64 xKind4, .int .i64 xN4, .string xS4] ∧
      CallsV prog F.affluxref02_Less #[.agg #[.int .i64 xKind3, .int .i64 xN3, .string xS3], .agg #[.int .i64 xKind4, .int .i64 xN4, .string xS4]] wv3 (fun v2 wv4 =>
        ∃ (r2 : Bool),
        v2 = .bool r2 ∧
        ifB r2 (
          K (.int .i64 1) wv4) (
          K (.int .i64 0) wv4))))
def An.affluxref02_Cmp : Ann := ⟨[], [], []⟩
theorem R.affluxref02_Cmp {aKind1 : Int} {aN1 : Int} {aS1 : ByteArray} {bKind1 : Int} {bN1 : Int} {bS1 : ByteArray} {w : World} {K : Value → World → Prop} (h : C.affluxref02_Cmp aKind1 aN1 aS1 bKind1 bN1 bS1 w K) : CallsV prog F.affluxref02_Cmp #[.agg #[.int .i64 aKind1, .int .i64 aN1, .string aS1], .agg #[.int .i64 bKind1, .int .i64 bN1, .string bS1]] w K :=
  vcFn.calls (an := An.affluxref02_Cmp) mixed tabOK eqsOK Go.Proofs.Tryd.func16 (by kernel_rfl) (by kernel_rfl) (by kernel_rfl) ((by kernel_rfl : vcFn prog eqs tab An.affluxref02_Cmp Go.Proofs.Tryd.f16 [.agg #[.int .i64 aKind1, .int .i64 aN1, .string aS1], .agg #[.int .i64 bKind1, .int .i64 bN1, .string bS1]] w K = C.affluxref02_Cmp aKind1 aN1 aS1 bKind1 bN1 bS1 w K).mpr h)

/-- afflux/value.Right -/
def C.value_Right (l1p : Option Addr) (l1n l1c : Nat) (w : World) (K : Value → World → Prop) : Prop :=
  CallsV prog F.slices_ContainsFunc_api_Value_api_Value #[.slice l1p l1n l1c, .func (.func F.value_wrong) #[] #[]] w (fun v1 wv1 =>
    ∃ (r1 : Bool),
    v1 = .bool r1 ∧
    K (.bool (!r1)) wv1)
def An.value_Right : Ann := ⟨[], [], []⟩
theorem R.value_Right {l1p : Option Addr} {l1n l1c : Nat} {w : World} {K : Value → World → Prop} (h : C.value_Right l1p l1n l1c w K) : CallsV prog F.value_Right #[.slice l1p l1n l1c] w K :=
  vcFn.calls (an := An.value_Right) mixed tabOK eqsOK Go.Proofs.Tryd.func17 (by kernel_rfl) (by kernel_rfl) (by kernel_rfl) ((by kernel_rfl : vcFn prog eqs tab An.value_Right Go.Proofs.Tryd.f17 [.slice l1p l1n l1c] w K = C.value_Right l1p l1n l1c w K).mpr h)

/-- afflux/affluxref02.All -/
def C.affluxref02_All (l1p : Option Addr) (l1n l1c : Nat) (w : World) (K : Value → World → Prop) : Prop :=
  ∃ (Iv1 : Int → World → Prop) (m1 : Int → World → Nat),
  Iv1 0 w ∧
  ∀ (i1 : Int) wv1, Iv1 i1 wv1 →
  ifB (decide (i1 < ((l1n : Nat) : Int))) (
    ∃ a1, l1p = some a1 ∧ 0 ≤ i1 ∧ i1 < ((l1n : Nat) : Int) ∧
    ∃ (eKind1 : Int) (eN1 : Int) (eS1 : ByteArray),
    cellsAt wv1 (a1.add (i1.toNat * 3)) 0 [.int .i64 eKind1, .int .i64 eN1, .string eS1] ∧
    CallsV prog F.affluxref02_Right #[.agg #[.int .i64 eKind1, .int .i64 eN1, .string eS1]] wv1 (fun v1 wv2 =>
      ∃ (r1 : Bool),
      v1 = .bool r1 ∧
      ifB (!r1) (
        K (.bool false) wv2) (
        Iv1 (IntKind.i64.wrap (i1 + (1 : Int))) wv2 ∧ m1 (IntKind.i64.wrap (i1 + (1 : Int))) wv2 < m1 i1 wv1))) (
    K (.bool true) wv1)
def An.affluxref02_All : Ann := ⟨[], [(2, [(3, 3)], [0])], []⟩
theorem R.affluxref02_All {l1p : Option Addr} {l1n l1c : Nat} {w : World} {K : Value → World → Prop} (h : C.affluxref02_All l1p l1n l1c w K) : CallsV prog F.affluxref02_All #[.slice l1p l1n l1c] w K :=
  vcFn.calls (an := An.affluxref02_All) mixed tabOK eqsOK Go.Proofs.Tryd.func18 (by kernel_rfl) (by kernel_rfl) (by kernel_rfl) ((by kernel_rfl : vcFn prog eqs tab An.affluxref02_All Go.Proofs.Tryd.f18 [.slice l1p l1n l1c] w K = C.affluxref02_All l1p l1n l1c w K).mpr h)

/-- afflux/value.Rows -/
def C.value_Rows (a1p : Option Addr) (a1n a1c : Nat) (b1p : Option Addr) (b1n b1c : Nat) (w : World) (K : Value → World → Prop) : Prop :=
  CallsV prog F.slices_CompareFunc_api_Value_api_Value_api_Value_api_Value #[.slice a1p a1n a1c, .slice b1p b1n b1c, .func (.func F.value_Cmp) #[] #[]] w (fun v1 wv1 =>
    ∃ (r1 : Int),
    v1 = .int .i64 r1 ∧
    K (.int .i64 r1) wv1)
def An.value_Rows : Ann := ⟨[], [], []⟩
theorem R.value_Rows {a1p : Option Addr} {a1n a1c : Nat} {b1p : Option Addr} {b1n b1c : Nat} {w : World} {K : Value → World → Prop} (h : C.value_Rows a1p a1n a1c b1p b1n b1c w K) : CallsV prog F.value_Rows #[.slice a1p a1n a1c, .slice b1p b1n b1c] w K :=
  vcFn.calls (an := An.value_Rows) mixed tabOK eqsOK Go.Proofs.Tryd.func19 (by kernel_rfl) (by kernel_rfl) (by kernel_rfl) ((by kernel_rfl : vcFn prog eqs tab An.value_Rows Go.Proofs.Tryd.f19 [.slice a1p a1n a1c, .slice b1p b1n b1c] w K = C.value_Rows a1p a1n a1c b1p b1n b1c w K).mpr h)

/-- afflux/affluxref02.Rows -/
def C.affluxref02_Rows (a1p : Option Addr) (a1n a1c : Nat) (b1p : Option Addr) (b1n b1c : Nat) (w : World) (K : Value → World → Prop) : Prop :=
  ∃ (Iv1 : Int → World → Prop) (m1 : Int → World → Nat),
  Iv1 0 w ∧
  ∀ (i1 : Int) wv1, Iv1 i1 wv1 →
  ifB (decide (i1 < ((a1n : Nat) : Int))) (
    ifB (decide (i1 < ((b1n : Nat) : Int))) (
      ∃ a2, a1p = some a2 ∧ 0 ≤ i1 ∧ i1 < ((a1n : Nat) : Int) ∧
      ∃ (eKind1 : Int) (eN1 : Int) (eS1 : ByteArray),
      cellsAt wv1.drew (a2.add (i1.toNat * 3)) 0 [.int .i64 eKind1, .int .i64 eN1, .string eS1] ∧
      ∃ a3, b1p = some a3 ∧ 0 ≤ i1 ∧ i1 < ((b1n : Nat) : Int) ∧
      ∃ (eKind2 : Int) (eN2 : Int) (eS2 : ByteArray),
      cellsAt wv1.drew (a3.add (i1.toNat * 3)) 0 [.int .i64 eKind2, .int .i64 eN2, .string eS2] ∧
      CallsV prog F.affluxref02_Cmp #[.agg #[.int .i64 eKind1, .int .i64 eN1, .string eS1], .agg #[.int .i64 eKind2, .int .i64 eN2, .string eS2]] wv1.drew (fun v1 wv2 =>
        ∃ (r1 : Int),
        v1 = .int .i64 r1 ∧
        ifB (r1 != (0 : Int)) (
          K (.int .i64 r1) wv2) (
          Iv1 (IntKind.i64.wrap (i1 + (1 : Int))) wv2 ∧ m1 (IntKind.i64.wrap (i1 + (1 : Int))) wv2 < m1 i1 wv1))) (
      ifB (((a1n : Nat) : Int) == ((b1n : Nat) : Int)) (
        K (.int .i64 0) wv1) (
        ifB (decide (((a1n : Nat) : Int) < ((b1n : Nat) : Int))) (
          K (.int .i64 (-1)) wv1) (
          K (.int .i64 1) wv1)))) (
    ifB (((a1n : Nat) : Int) == ((b1n : Nat) : Int)) (
      K (.int .i64 0) wv1) (
      ifB (decide (((a1n : Nat) : Int) < ((b1n : Nat) : Int))) (
        K (.int .i64 (-1)) wv1) (
        K (.int .i64 1) wv1)))
def An.affluxref02_Rows : Ann := ⟨[(4, .sil 0 [] (.sil 1 [] (.sil 2 [] (.sil 3 [] (.sil 4 [] (.sil 5 [] (.sil 6 [] (.sil 7 [] (.act 8 (.sil 9 [] (.done)))))))))))], [(2, [(5, 3)], [0, 1])], []⟩
theorem R.affluxref02_Rows {a1p : Option Addr} {a1n a1c : Nat} {b1p : Option Addr} {b1n b1c : Nat} {w : World} {K : Value → World → Prop} (h : C.affluxref02_Rows a1p a1n a1c b1p b1n b1c w K) : CallsV prog F.affluxref02_Rows #[.slice a1p a1n a1c, .slice b1p b1n b1c] w K :=
  vcFn.calls (an := An.affluxref02_Rows) mixed tabOK eqsOK Go.Proofs.Tryd.func20 (by kernel_rfl) (by kernel_rfl) (by kernel_rfl) ((by kernel_rfl : vcFn prog eqs tab An.affluxref02_Rows Go.Proofs.Tryd.f20 [.slice a1p a1n a1c, .slice b1p b1n b1c] w K = C.affluxref02_Rows a1p a1n a1c b1p b1n b1c w K).mpr h)

/-- afflux/value.Int -/
def C.value_Int (n1 : Int) (w : World) (K : Value → World → Prop) : Prop :=
  ∀ b1 wv1, New w (.cells #[.int .i64 0, .int .i64 0, .string (bs [])] T.api_Value) b1 wv1 →
  CanSt wv1 ((Addr.mk b1 0 none).add 0) ∧ ∀ wv2, wv2 = wv1.setCell ((Addr.mk b1 0 none).add 0) (.int .i64 1) →
  CanSt wv2 ((Addr.mk b1 0 none).add 1) ∧ ∀ wv3, wv3 = wv2.setCell ((Addr.mk b1 0 none).add 1) (.int .i64 n1) →
  CanSt wv3 ((Addr.mk b1 0 none).add 2) ∧ ∀ wv4, wv4 = wv3.setCell ((Addr.mk b1 0 none).add 2) (.string (bs [])) →
  ∃ (xKind1 : Int) (xN1 : Int) (xS1 : ByteArray),
  cellsAt wv4 (Addr.mk b1 0 none) 0 [.int .i64 xKind1, .int .i64 xN1, .string xS1] ∧
  K (.agg #[.int .i64 xKind1, .int .i64 xN1, .string xS1]) wv4
def An.value_Int : Ann := ⟨[], [], []⟩
theorem R.value_Int {n1 : Int} {w : World} {K : Value → World → Prop} (h : C.value_Int n1 w K) : CallsV prog F.value_Int #[.int .i64 n1] w K :=
  vcFn.calls (an := An.value_Int) mixed tabOK eqsOK Go.Proofs.Tryd.func21 (by kernel_rfl) (by kernel_rfl) (by kernel_rfl) ((by kernel_rfl : vcFn prog eqs tab An.value_Int Go.Proofs.Tryd.f21 [.int .i64 n1] w K = C.value_Int n1 w K).mpr h)

/-- afflux/value.Text -/
def C.value_Text (s1 : ByteArray) (w : World) (K : Value → World → Prop) : Prop :=
  ∀ b1 wv1, New w (.cells #[.int .i64 0, .int .i64 0, .string (bs [])] T.api_Value) b1 wv1 →
  CanSt wv1 ((Addr.mk b1 0 none).add 0) ∧ ∀ wv2, wv2 = wv1.setCell ((Addr.mk b1 0 none).add 0) (.int .i64 2) →
  CanSt wv2 ((Addr.mk b1 0 none).add 1) ∧ ∀ wv3, wv3 = wv2.setCell ((Addr.mk b1 0 none).add 1) (.int .i64 0) →
  CanSt wv3 ((Addr.mk b1 0 none).add 2) ∧ ∀ wv4, wv4 = wv3.setCell ((Addr.mk b1 0 none).add 2) (.string s1) →
  ∃ (xKind1 : Int) (xN1 : Int) (xS1 : ByteArray),
  cellsAt wv4 (Addr.mk b1 0 none) 0 [.int .i64 xKind1, .int .i64 xN1, .string xS1] ∧
  K (.agg #[.int .i64 xKind1, .int .i64 xN1, .string xS1]) wv4
def An.value_Text : Ann := ⟨[], [], []⟩
theorem R.value_Text {s1 : ByteArray} {w : World} {K : Value → World → Prop} (h : C.value_Text s1 w K) : CallsV prog F.value_Text #[.string s1] w K :=
  vcFn.calls (an := An.value_Text) mixed tabOK eqsOK Go.Proofs.Tryd.func22 (by kernel_rfl) (by kernel_rfl) (by kernel_rfl) ((by kernel_rfl : vcFn prog eqs tab An.value_Text Go.Proofs.Tryd.f22 [.string s1] w K = C.value_Text s1 w K).mpr h)

/-- afflux/value.Bool -/
def C.value_Bool (b1 : Bool) (w : World) (K : Value → World → Prop) : Prop :=
  ∀ b2 wv1, New w (.cells #[.int .i64 0, .int .i64 0, .string (bs [])] T.api_Value) b2 wv1 →
  ∀ b3 wv2, New wv1 (.cells #[.int .i64 0, .int .i64 0, .string (bs [])] T.api_Value) b3 wv2 →
  CanSt wv2 ((Addr.mk b3 0 none).add 0) ∧ ∀ wv3, wv3 = wv2.setCell ((Addr.mk b3 0 none).add 0) (.int .i64 3) →
  CanSt wv3 ((Addr.mk b3 0 none).add 1) ∧ ∀ wv4, wv4 = wv3.setCell ((Addr.mk b3 0 none).add 1) (.int .i64 0) →
  CanSt wv4 ((Addr.mk b3 0 none).add 2) ∧ ∀ wv5, wv5 = wv4.setCell ((Addr.mk b3 0 none).add 2) (.string (bs [])) →
  ifB b1 (
    CanSt wv5 ((Addr.mk b3 0 none).add 1) ∧ ∀ wv6, wv6 = wv5.setCell ((Addr.mk b3 0 none).add 1) (.int .i64 1) →
    ∃ (xKind1 : Int) (xN1 : Int) (xS1 : ByteArray),
    cellsAt wv6 (Addr.mk b3 0 none) 0 [.int .i64 xKind1, .int .i64 xN1, .string xS1] ∧
    CanSt wv6 ((Addr.mk b2 0 none).add 0) ∧ ∀ wv7, wv7 = wv6.setCell ((Addr.mk b2 0 none).add 0) (.int .i64 xKind1) →
    CanSt wv7 ((Addr.mk b2 0 none).add 1) ∧ ∀ wv8, wv8 = wv7.setCell ((Addr.mk b2 0 none).add 1) (.int .i64 xN1) →
    CanSt wv8 ((Addr.mk b2 0 none).add 2) ∧ ∀ wv9, wv9 = wv8.setCell ((Addr.mk b2 0 none).add 2) (.string xS1) →
    ∃ (xKind2 : Int) (xN2 : Int) (xS2 : ByteArray),
    cellsAt wv9 (Addr.mk b2 0 none) 0 [.int .i64 xKind2, .int .i64 xN2, .string xS2] ∧
    K (.agg #[.int .i64 xKind2, .int .i64 xN2, .string xS2]) wv9) (
    ∃ (xKind3 : Int) (xN3 : Int) (xS3 : ByteArray),
    cellsAt wv5 (Addr.mk b3 0 none) 0 [.int .i64 xKind3, .int .i64 xN3, .string xS3] ∧
    CanSt wv5 ((Addr.mk b2 0 none).add 0) ∧ ∀ wv10, wv10 = wv5.setCell ((Addr.mk b2 0 none).add 0) (.int .i64 xKind3) →
    CanSt wv10 ((Addr.mk b2 0 none).add 1) ∧ ∀ wv11, wv11 = wv10.setCell ((Addr.mk b2 0 none).add 1) (.int .i64 xN3) →
    CanSt wv11 ((Addr.mk b2 0 none).add 2) ∧ ∀ wv12, wv12 = wv11.setCell ((Addr.mk b2 0 none).add 2) (.string xS3) →
    ∃ (xKind4 : Int) (xN4 : Int) (xS4 : ByteArray),
    cellsAt wv12 (Addr.mk b2 0 none) 0 [.int .i64 xKind4, .int .i64 xN4, .string xS4] ∧
    K (.agg #[.int .i64 xKind4, .int .i64 xN4, .string xS4]) wv12)
def An.value_Bool : Ann := ⟨[], [], []⟩
theorem R.value_Bool {b1 : Bool} {w : World} {K : Value → World → Prop} (h : C.value_Bool b1 w K) : CallsV prog F.value_Bool #[.bool b1] w K :=
  vcFn.calls (an := An.value_Bool) mixed tabOK eqsOK Go.Proofs.Tryd.func23 (by kernel_rfl) (by kernel_rfl) (by kernel_rfl) ((by kernel_rfl : vcFn prog eqs tab An.value_Bool Go.Proofs.Tryd.f23 [.bool b1] w K = C.value_Bool b1 w K).mpr h)

/-- afflux/affluxref02.Keys -/
def C.affluxref02_Keys (l1p : Option Addr) (l1n l1c : Nat) (w : World) (K : Value → World → Prop) : Prop :=
  ∃ (Iv1 : ByteArray → Int → World → Prop) (m1 : ByteArray → Int → World → Nat),
  Iv1 (bs []) 0 w ∧
  ∀ (s1 : ByteArray) (i1 : Int) wv1, Iv1 s1 i1 wv1 →
  ifB (decide (i1 < ((l1n : Nat) : Int))) (
    ∃ a1, l1p = some a1 ∧ 0 ≤ i1 ∧ i1 < ((l1n : Nat) : Int) ∧
    ∃ (eKind1 : Int) (eN1 : Int) (eS1 : ByteArray),
    cellsAt wv1 (a1.add (i1.toNat * 3)) 0 [.int .i64 eKind1, .int .i64 eN1, .string eS1] ∧
    CallsV prog F.affluxref02_Key #[.agg #[.int .i64 eKind1, .int .i64 eN1, .string eS1]] wv1 (fun v1 wv2 =>
      ∃ (r1 : ByteArray),
      v1 = .string r1 ∧
      s1.size + r1.size ≤ 9223372036854775807 ∧
      Iv1 (s1 ++ r1) (IntKind.i64.wrap (i1 + (1 : Int))) wv2 ∧ m1 (s1 ++ r1) (IntKind.i64.wrap (i1 + (1 : Int))) wv2 < m1 s1 i1 wv1)) (
    K (.string s1) wv1)
def An.affluxref02_Keys : Ann := ⟨[], [(3, [(3, 9), (4, 3)], [0])], []⟩
theorem R.affluxref02_Keys {l1p : Option Addr} {l1n l1c : Nat} {w : World} {K : Value → World → Prop} (h : C.affluxref02_Keys l1p l1n l1c w K) : CallsV prog F.affluxref02_Keys #[.slice l1p l1n l1c] w K :=
  vcFn.calls (an := An.affluxref02_Keys) mixed tabOK eqsOK Go.Proofs.Tryd.func24 (by kernel_rfl) (by kernel_rfl) (by kernel_rfl) ((by kernel_rfl : vcFn prog eqs tab An.affluxref02_Keys Go.Proofs.Tryd.f24 [.slice l1p l1n l1c] w K = C.affluxref02_Keys l1p l1n l1c w K).mpr h)

/-- afflux/value.Unkey -/
def C.value_Unkey (s1 : ByteArray) (w : World) (K : Value → World → Prop) : Prop :=
  ∃ (Iv1 : ByteArray → Option Addr → Nat → Nat → World → Prop) (m1 : ByteArray → Option Addr → Nat → Nat → World → Nat),
  Iv1 s1 none 0 0 w ∧
  ∀ (s2 : ByteArray) (l1p : Option Addr) (l1n l1c : Nat) wv1, Iv1 s2 l1p l1n l1c wv1 →
  ifB (!sEq s2 (bs [])) (
    CallsV prog F.value_take #[.string s2] wv1 (fun v1 wv2 =>
      ∃ (raKind1 : Int) (raN1 : Int) (raS1 : ByteArray) (rb1 : ByteArray) (rc1 : Bool),
      v1 = .tuple #[.agg #[.int .i64 raKind1, .int .i64 raN1, .string raS1], .string rb1, .bool rc1] ∧
      ∀ b1 wv3, New wv2 (.cells #[.int .i64 0, .int .i64 0, .string (bs [])] T.api_Value) b1 wv3 →
      CanSt wv3 ((Addr.mk b1 0 none).add 0) ∧ ∀ wv4, wv4 = wv3.setCell ((Addr.mk b1 0 none).add 0) (.int .i64 raKind1) →
      CanSt wv4 ((Addr.mk b1 0 none).add 1) ∧ ∀ wv5, wv5 = wv4.setCell ((Addr.mk b1 0 none).add 1) (.int .i64 raN1) →
      CanSt wv5 ((Addr.mk b1 0 none).add 2) ∧ ∀ wv6, wv6 = wv5.setCell ((Addr.mk b1 0 none).add 2) (.string raS1) →
      ifB (!rc1) (
        K (.tuple #[.slice none 0 0, .bool false]) wv6) (
        ∃ (xKind1 : Int) (xN1 : Int) (xS1 : ByteArray),
        cellsAt wv6 (Addr.mk b1 0 none) 0 [.int .i64 xKind1, .int .i64 xN1, .string xS1] ∧
        CallsV prog F.value_wrong #[.agg #[.int .i64 xKind1, .int .i64 xN1, .string xS1]] wv6 (fun v2 wv7 =>
          ∃ (r1 : Bool),
          v2 = .bool r1 ∧
          ifB r1 (
            K (.tuple #[.slice none 0 0, .bool false]) wv7) (
            ∃ (xKind2 : Int) (xN2 : Int) (xS2 : ByteArray),
            cellsAt wv7 (Addr.mk b1 0 none) 0 [.int .i64 xKind2, .int .i64 xN2, .string xS2] ∧
            ∀ b2 wv8, New wv7 (.cells #[.int .i64 xKind2, .int .i64 xN2, .string xS2] T.api_Value) b2 wv8 →
            BuiltV prog .append #[T.s_api_Value, T.s_api_Value] T.s_api_Value #[.slice l1p l1n l1c, .slice (some (Addr.mk b2 0 none)) 1 1] wv8 (fun v3 wv9 =>
              ∃ (a1p : Option Addr) (a1n a1c : Nat),
              v3 = .slice a1p a1n a1c ∧
              Iv1 rb1 a1p a1n a1c wv9 ∧ m1 rb1 a1p a1n a1c wv9 < m1 s2 l1p l1n l1c wv1)))))) (
    K (.tuple #[.slice l1p l1n l1c, .bool true]) wv1)
def An.value_Unkey : Ann := ⟨[], [(2, [(0, 9), (4, 22)], [])], []⟩
theorem R.value_Unkey {s1 : ByteArray} {w : World} {K : Value → World → Prop} (h : C.value_Unkey s1 w K) : CallsV prog F.value_Unkey #[.string s1] w K :=
  vcFn.calls (an := An.value_Unkey) mixed tabOK eqsOK Go.Proofs.Tryd.func25 (by kernel_rfl) (by kernel_rfl) (by kernel_rfl) ((by kernel_rfl : vcFn prog eqs tab An.value_Unkey Go.Proofs.Tryd.f25 [.string s1] w K = C.value_Unkey s1 w K).mpr h)

/-- afflux/affluxref02.Unkey -/
def C.affluxref02_Unkey (s1 : ByteArray) (w : World) (K : Value → World → Prop) : Prop :=
  ∃ (Iv1 : ByteArray → Option Addr → Nat → Nat → World → Prop) (m1 : ByteArray → Option Addr → Nat → Nat → World → Nat),
  Iv1 s1 none 0 0 w ∧
  ∀ (s2 : ByteArray) (l1p : Option Addr) (l1n l1c : Nat) wv1, Iv1 s2 l1p l1n l1c wv1 →
  ifB (decide ((0 : Int) < ((s2.size : Nat) : Int))) (
    0 ≤ (0 : Int) ∧ (0 : Int) < ((s2.size : Nat) : Int) ∧
    ∀ b1 wv2, New wv1 (.cells #[.int .i64 0, .int .i64 0, .string (bs [])] T.api_Value) b1 wv2 →
    CanSt wv2 ((Addr.mk b1 0 none).add 0) ∧ ∀ wv3, wv3 = wv2.setCell ((Addr.mk b1 0 none).add 0) (.int .i64 (IntKind.i64.wrap (bt s2 (0 : Int)))) →
    CanSt wv3 ((Addr.mk b1 0 none).add 1) ∧ ∀ wv4, wv4 = wv3.setCell ((Addr.mk b1 0 none).add 1) (.int .i64 0) →
    CanSt wv4 ((Addr.mk b1 0 none).add 2) ∧ ∀ wv5, wv5 = wv4.setCell ((Addr.mk b1 0 none).add 2) (.string (bs [])) →
    ∃ Jv1 : World → Prop,
    (∃ Jv2 : Bool → World → Prop,
    (0 ≤ (0 : Int) ∧ (0 : Int) < ((s2.size : Nat) : Int) ∧
    ifB ((bt s2 (0 : Int)) == (1 : Int)) (
      Jv2 (decide ((9 : Int) ≤ ((s2.size : Nat) : Int))) wv5) (
      Jv2 false wv5)) ∧
    (∀ (s181 : Bool) wv6, Jv2 s181 wv6 →
    ifB s181 (
      ∃ (Iv2 : Int → Int → World → Prop) (m2 : Int → Int → World → Nat),
      Iv2 0 1 wv6 ∧
      ∀ (u1 : Int) (i1 : Int) wv7, Iv2 u1 i1 wv7 →
      ifB (decide (i1 < (9 : Int))) (
        0 ≤ i1 ∧ i1 < ((s2.size : Nat) : Int) ∧
        Iv2 (IntKind.u64.wrap ((IntKind.u64.wrap ((256 : Int) * u1)) + (IntKind.u64.wrap (bt s2 i1)))) (IntKind.i64.wrap (i1 + (1 : Int))) wv7 ∧ m2 (IntKind.u64.wrap ((IntKind.u64.wrap ((256 : Int) * u1)) + (IntKind.u64.wrap (bt s2 i1)))) (IntKind.i64.wrap (i1 + (1 : Int))) wv7 < m2 u1 i1 wv7) (
        CanSt wv7 ((Addr.mk b1 0 none).add 1) ∧ ∀ wv8, wv8 = wv7.setCell ((Addr.mk b1 0 none).add 1) (.int .i64 (IntKind.i64.wrap (IntKind.u64.wrap (u1 - (9223372036854775808 : Int))))) →
        Jv1 wv8)) (
      0 ≤ (0 : Int) ∧ (0 : Int) < ((s2.size : Nat) : Int) ∧
      ifB ((bt s2 (0 : Int)) == (2 : Int)) (
        ∃ (Iv3 : Option Addr → Nat → Nat → Int → World → Prop) (m3 : Option Addr → Nat → Nat → Int → World → Nat),
        Iv3 none 0 0 1 wv6 ∧
        ∀ (b2p : Option Addr) (b2n b2c : Nat) (i2 : Int) wv9, Iv3 b2p b2n b2c i2 wv9 →
        ifB (decide ((IntKind.i64.wrap (i2 + (1 : Int))) < ((s2.size : Nat) : Int))) (
          0 ≤ i2 ∧ i2 < ((s2.size : Nat) : Int) ∧
          ifB ((bt s2 i2) == (0 : Int)) (
            0 ≤ IntKind.i64.wrap (i2 + (1 : Int)) ∧ IntKind.i64.wrap (i2 + (1 : Int)) < ((s2.size : Nat) : Int) ∧
            ifB (!((bt s2 (IntKind.i64.wrap (i2 + (1 : Int)))) == (1 : Int))) (
              0 ≤ i2 ∧ i2 < ((s2.size : Nat) : Int) ∧
              ∀ b3 wv10, New wv9 (.cells #[.int .u8 (bt s2 i2)] T.uint8) b3 wv10 →
              BuiltV prog .append #[T.s_uint8, T.s_uint8] T.s_uint8 #[.slice b2p b2n b2c, .slice (some (Addr.mk b3 0 none)) 1 1] wv10 (fun v1 wv11 =>
                ∃ (a1p : Option Addr) (a1n a1c : Nat),
                v1 = .slice a1p a1n a1c ∧
                0 ≤ i2 ∧ i2 < ((s2.size : Nat) : Int) ∧
                ifB ((bt s2 i2) == (0 : Int)) (
                  Iv3 a1p a1n a1c (IntKind.i64.wrap ((IntKind.i64.wrap (i2 + (1 : Int))) + (1 : Int))) wv11 ∧ m3 a1p a1n a1c (IntKind.i64.wrap ((IntKind.i64.wrap (i2 + (1 : Int))) + (1 : Int))) wv11 < m3 b2p b2n b2c i2 wv9) (
                  Iv3 a1p a1n a1c (IntKind.i64.wrap (i2 + (1 : Int))) wv11 ∧ m3 a1p a1n a1c (IntKind.i64.wrap (i2 + (1 : Int))) wv11 < m3 b2p b2n b2c i2 wv9))) (
              ConvV prog T.s_uint8 T.string (.slice b2p b2n b2c) wv9 (fun v2 wv12 =>
                ∃ (c1 : ByteArray),
                v2 = .string c1 ∧
                CanSt wv12 ((Addr.mk b1 0 none).add 2) ∧ ∀ wv13, wv13 = wv12.setCell ((Addr.mk b1 0 none).add 2) (.string c1) →
                Jv1 wv13))) (
            0 ≤ i2 ∧ i2 < ((s2.size : Nat) : Int) ∧
            ∀ b4 wv14, New wv9 (.cells #[.int .u8 (bt s2 i2)] T.uint8) b4 wv14 →
            BuiltV prog .append #[T.s_uint8, T.s_uint8] T.s_uint8 #[.slice b2p b2n b2c, .slice (some (Addr.mk b4 0 none)) 1 1] wv14 (fun v3 wv15 =>
              ∃ (a2p : Option Addr) (a2n a2c : Nat),
              v3 = .slice a2p a2n a2c ∧
              0 ≤ i2 ∧ i2 < ((s2.size : Nat) : Int) ∧
              ifB ((bt s2 i2) == (0 : Int)) (
                Iv3 a2p a2n a2c (IntKind.i64.wrap ((IntKind.i64.wrap (i2 + (1 : Int))) + (1 : Int))) wv15 ∧ m3 a2p a2n a2c (IntKind.i64.wrap ((IntKind.i64.wrap (i2 + (1 : Int))) + (1 : Int))) wv15 < m3 b2p b2n b2c i2 wv9) (
                Iv3 a2p a2n a2c (IntKind.i64.wrap (i2 + (1 : Int))) wv15 ∧ m3 a2p a2n a2c (IntKind.i64.wrap (i2 + (1 : Int))) wv15 < m3 b2p b2n b2c i2 wv9)))) (
          ConvV prog T.s_uint8 T.string (.slice b2p b2n b2c) wv9 (fun v4 wv16 =>
            ∃ (c2 : ByteArray),
            v4 = .string c2 ∧
            CanSt wv16 ((Addr.mk b1 0 none).add 2) ∧ ∀ wv17, wv17 = wv16.setCell ((Addr.mk b1 0 none).add 2) (.string c2) →
            Jv1 wv17))) (
        0 ≤ (0 : Int) ∧ (0 : Int) < ((s2.size : Nat) : Int) ∧
        ifB ((bt s2 (0 : Int)) == (3 : Int)) (
          ifB (decide ((2 : Int) ≤ ((s2.size : Nat) : Int))) (
            0 ≤ (1 : Int) ∧ (1 : Int) < ((s2.size : Nat) : Int) ∧
            CanSt wv6 ((Addr.mk b1 0 none).add 1) ∧ ∀ wv18, wv18 = wv6.setCell ((Addr.mk b1 0 none).add 1) (.int .i64 (IntKind.i64.wrap (bt s2 (1 : Int)))) →
            Jv1 wv18) (
            K (.tuple #[.slice none 0 0, .bool false]) wv6)) (
          K (.tuple #[.slice none 0 0, .bool false]) wv6))))) ∧
    (∀ wv19, Jv1 wv19 →
    ∃ (xKind1 : Int) (xN1 : Int) (xS1 : ByteArray),
    cellsAt wv19 (Addr.mk b1 0 none) 0 [.int .i64 xKind1, .int .i64 xN1, .string xS1] ∧
    CallsV prog F.affluxref02_Right #[.agg #[.int .i64 xKind1, .int .i64 xN1, .string xS1]] wv19 (fun v5 wv20 =>
      ∃ (r1 : Bool),
      v5 = .bool r1 ∧
      ifB (!r1) (
        K (.tuple #[.slice none 0 0, .bool false]) wv20) (
        ∃ (xKind2 : Int) (xN2 : Int) (xS2 : ByteArray),
        cellsAt wv20 (Addr.mk b1 0 none) 0 [.int .i64 xKind2, .int .i64 xN2, .string xS2] ∧
        CallsV prog F.affluxref02_Key #[.agg #[.int .i64 xKind2, .int .i64 xN2, .string xS2]] wv20 (fun v6 wv21 =>
          ∃ (r2 : ByteArray),
          v6 = .string r2 ∧
          ifB (decide (((s2.size : Nat) : Int) < ((r2.size : Nat) : Int))) (
            K (.tuple #[.slice none 0 0, .bool false]) wv21) (
            0 ≤ ((r2.size : Nat) : Int) ∧ ((r2.size : Nat) : Int) ≤ ((s2.size : Nat) : Int) ∧
            ifB (!sEq (s2.extract 0 (((r2.size : Nat) : Int).toNat)) r2) (
              K (.tuple #[.slice none 0 0, .bool false]) wv21) (
              ∃ (xKind3 : Int) (xN3 : Int) (xS3 : ByteArray),
              cellsAt wv21 (Addr.mk b1 0 none) 0 [.int .i64 xKind3, .int .i64 xN3, .string xS3] ∧
              ∀ b5 wv22, New wv21 (.cells #[.int .i64 xKind3, .int .i64 xN3, .string xS3] T.api_Value) b5 wv22 →
              BuiltV prog .append #[T.s_api_Value, T.s_api_Value] T.s_api_Value #[.slice l1p l1n l1c, .slice (some (Addr.mk b5 0 none)) 1 1] wv22 (fun v7 wv23 =>
                ∃ (a3p : Option Addr) (a3n a3c : Nat),
                v7 = .slice a3p a3n a3c ∧
                0 ≤ ((r2.size : Nat) : Int) ∧ ((r2.size : Nat) : Int) ≤ ((s2.size : Nat) : Int) ∧
                Iv1 (s2.extract (((r2.size : Nat) : Int).toNat) s2.size) a3p a3n a3c wv23 ∧ m1 (s2.extract (((r2.size : Nat) : Int).toNat) s2.size) a3p a3n a3c wv23 < m1 s2 l1p l1n l1c wv1)))))))) (
    K (.tuple #[.slice l1p l1n l1c, .bool true]) wv1)
def An.affluxref02_Unkey : Ann := ⟨[], [(2, [(0, 9), (4, 22)], []), (8, [(6, 91), (7, 3)], [0, 4, 5]), (15, [(8, 92), (9, 3)], [0, 4, 5])], [(6, [(18, 4)], [0, 4, 5]), (23, [], [0, 4, 5])]⟩
theorem R.affluxref02_Unkey {s1 : ByteArray} {w : World} {K : Value → World → Prop} (h : C.affluxref02_Unkey s1 w K) : CallsV prog F.affluxref02_Unkey #[.string s1] w K :=
  vcFn.calls (an := An.affluxref02_Unkey) mixed tabOK eqsOK Go.Proofs.Tryd.func26 (by kernel_rfl) (by kernel_rfl) (by kernel_rfl) ((by kernel_rfl : vcFn prog eqs tab An.affluxref02_Unkey Go.Proofs.Tryd.f26 [.string s1] w K = C.affluxref02_Unkey s1 w K).mpr h)

/-- afflux/value.Key -/
def C.value_Key (l1p : Option Addr) (l1n l1c : Nat) (w : World) (K : Value → World → Prop) : Prop :=
  CallsV prog F.value_Right #[.slice l1p l1n l1c] w (fun v1 wv1 =>
    ∃ (r1 : Bool),
    v1 = .bool r1 ∧
    ifB (!r1) (
      K (.string (bs [])) wv1) (
      ∃ (Iv1 : Option Addr → Nat → Nat → Int → World → Prop) (m1 : Option Addr → Nat → Nat → Int → World → Nat),
      Iv1 none 0 0 0 wv1 ∧
      ∀ (b1p : Option Addr) (b1n b1c : Nat) (s111 : Int) wv2, Iv1 b1p b1n b1c s111 wv2 →
      ifB (decide (s111 < ((l1n : Nat) : Int))) (
        ∃ a1, l1p = some a1 ∧ 0 ≤ s111 ∧ s111 < ((l1n : Nat) : Int) ∧
        ∃ (eKind1 : Int) (eN1 : Int) (eS1 : ByteArray),
        cellsAt wv2 (a1.add (s111.toNat * 3)) 0 [.int .i64 eKind1, .int .i64 eN1, .string eS1] ∧
        ∀ b2 wv3, New wv2 (.cells #[.int .i64 0, .int .i64 0, .string (bs [])] T.api_Value) b2 wv3 →
        CanSt wv3 ((Addr.mk b2 0 none).add 0) ∧ ∀ wv4, wv4 = wv3.setCell ((Addr.mk b2 0 none).add 0) (.int .i64 eKind1) →
        CanSt wv4 ((Addr.mk b2 0 none).add 1) ∧ ∀ wv5, wv5 = wv4.setCell ((Addr.mk b2 0 none).add 1) (.int .i64 eN1) →
        CanSt wv5 ((Addr.mk b2 0 none).add 2) ∧ ∀ wv6, wv6 = wv5.setCell ((Addr.mk b2 0 none).add 2) (.string eS1) →
        ∃ (xKind1 : Int) (xN1 : Int) (xS1 : ByteArray),
        cellsAt wv6 (Addr.mk b2 0 none) 0 [.int .i64 xKind1, .int .i64 xN1, .string xS1] ∧
        CallsV prog F.value_put #[.slice b1p b1n b1c, .agg #[.int .i64 xKind1, .int .i64 xN1, .string xS1]] wv6 (fun v2 wv7 =>
          ∃ (r2p : Option Addr) (r2n r2c : Nat),
          v2 = .slice r2p r2n r2c ∧
          Iv1 r2p r2n r2c (IntKind.i64.wrap (s111 + (1 : Int))) wv7 ∧ m1 r2p r2n r2c (IntKind.i64.wrap (s111 + (1 : Int))) wv7 < m1 b1p b1n b1c s111 wv2)) (
        ConvV prog T.s_uint8 T.string (.slice b1p b1n b1c) wv2 (fun v3 wv8 =>
          ∃ (c1 : ByteArray),
          v3 = .string c1 ∧
          K (.string c1) wv8))))
def An.value_Key : Ann := ⟨[], [(5, [(3, 92), (11, 3)], [9, 10])], []⟩
theorem R.value_Key {l1p : Option Addr} {l1n l1c : Nat} {w : World} {K : Value → World → Prop} (h : C.value_Key l1p l1n l1c w K) : CallsV prog F.value_Key #[.slice l1p l1n l1c] w K :=
  vcFn.calls (an := An.value_Key) mixed tabOK eqsOK Go.Proofs.Tryd.func27 (by kernel_rfl) (by kernel_rfl) (by kernel_rfl) ((by kernel_rfl : vcFn prog eqs tab An.value_Key Go.Proofs.Tryd.f27 [.slice l1p l1n l1c] w K = C.value_Key l1p l1n l1c w K).mpr h)

/-- afflux/affluxref02.Same -/
def C.affluxref02_Same (a1p : Option Addr) (a1n a1c : Nat) (b1p : Option Addr) (b1n b1c : Nat) (w : World) (K : Value → World → Prop) : Prop :=
  ifB (((a1n : Nat) : Int) != ((b1n : Nat) : Int)) (
    K (.bool false) w) (
    ∃ (Iv1 : Int → World → Prop) (m1 : Int → World → Nat),
    Iv1 0 w ∧
    ∀ (i1 : Int) wv1, Iv1 i1 wv1 →
    ifB (decide (i1 < ((a1n : Nat) : Int))) (
      ∃ a2, a1p = some a2 ∧ 0 ≤ i1 ∧ i1 < ((a1n : Nat) : Int) ∧
      ∃ (eKind1 : Int) (eN1 : Int) (eS1 : ByteArray),
      cellsAt wv1.drew (a2.add (i1.toNat * 3)) 0 [.int .i64 eKind1, .int .i64 eN1, .string eS1] ∧
      ∃ a3, b1p = some a3 ∧ 0 ≤ i1 ∧ i1 < ((b1n : Nat) : Int) ∧
      ∃ (eKind2 : Int) (eN2 : Int) (eS2 : ByteArray),
      cellsAt wv1.drew (a3.add (i1.toNat * 3)) 0 [.int .i64 eKind2, .int .i64 eN2, .string eS2] ∧
      ifB (!((eKind1 == eKind2) && ((eN1 == eN2) && (sEq eS1 eS2 && true)))) (
        K (.bool false) wv1.drew) (
        Iv1 (IntKind.i64.wrap (i1 + (1 : Int))) wv1.drew ∧ m1 (IntKind.i64.wrap (i1 + (1 : Int))) wv1.drew < m1 i1 wv1)) (
      K (.bool true) wv1))
def An.affluxref02_Same : Ann := ⟨[(6, .sil 0 [] (.sil 1 [] (.sil 2 [] (.sil 3 [] (.sil 4 [] (.sil 5 [] (.sil 6 [] (.sil 7 [] (.sil 8 [] (.done))))))))))], [(4, [(5, 3)], [0, 1])], []⟩
theorem R.affluxref02_Same {a1p : Option Addr} {a1n a1c : Nat} {b1p : Option Addr} {b1n b1c : Nat} {w : World} {K : Value → World → Prop} (h : C.affluxref02_Same a1p a1n a1c b1p b1n b1c w K) : CallsV prog F.affluxref02_Same #[.slice a1p a1n a1c, .slice b1p b1n b1c] w K :=
  vcFn.calls (an := An.affluxref02_Same) mixed tabOK eqsOK Go.Proofs.Tryd.func28 (by kernel_rfl) (by kernel_rfl) (by kernel_rfl) ((by kernel_rfl : vcFn prog eqs tab An.affluxref02_Same Go.Proofs.Tryd.f28 [.slice a1p a1n a1c, .slice b1p b1n b1c] w K = C.affluxref02_Same a1p a1n a1c b1p b1n b1c w K).mpr h)

/-- afflux/affluxlaw03.awake -/
def C.affluxlaw03_awake  (w : World) (K : Value → World → Prop) : Prop :=
  ∀ b1 wv1, New w (.cells #[.string (bs [97]), .int .i64 1, .string (bs [98]), .int .i64 2] T.api_Column) b1 wv1 →
  ∀ b2 wv2, New wv1 (.cells #[.int .i64 0] T.int) b2 wv2 →
  ∀ b3 wv3, New wv2 (.cells #[.int .i64 1] T.int) b3 wv3 →
  ∀ b4 wv4, New wv3 (.cells #[.slice (some (Addr.mk b2 0 none)) 1 1, .bool true, .slice (some (Addr.mk b3 0 none)) 1 1, .bool false] T.api_Index) b4 wv4 →
  ∀ b5 wv5, New wv4 (.cells #[.string (bs []), .slice none 0 0, .slice none 0 0, .int .i64 0, .int .i64 0, .int .i64 0] T.api_Schema) b5 wv5 →
  CanSt wv5 ((Addr.mk b5 0 none).add 0) ∧ ∀ wv6, wv6 = wv5.setCell ((Addr.mk b5 0 none).add 0) (.string (bs [116])) →
  CanSt wv6 ((Addr.mk b5 0 none).add 1) ∧ ∀ wv7, wv7 = wv6.setCell ((Addr.mk b5 0 none).add 1) (.slice (some (Addr.mk b1 0 none)) 2 2) →
  CanSt wv7 ((Addr.mk b5 0 none).add 2) ∧ ∀ wv8, wv8 = wv7.setCell ((Addr.mk b5 0 none).add 2) (.slice (some (Addr.mk b4 0 none)) 2 2) →
  CanSt wv8 ((Addr.mk b5 0 none).add 3) ∧ ∀ wv9, wv9 = wv8.setCell ((Addr.mk b5 0 none).add 3) (.int .i64 5) →
  CanSt wv9 ((Addr.mk b5 0 none).add 4) ∧ ∀ wv10, wv10 = wv9.setCell ((Addr.mk b5 0 none).add 4) (.int .i64 1) →
  CanSt wv10 ((Addr.mk b5 0 none).add 5) ∧ ∀ wv11, wv11 = wv10.setCell ((Addr.mk b5 0 none).add 5) (.int .i64 0) →
  ∃ (xName1 : ByteArray) (xCols1p : Option Addr) (xCols1n xCols1c : Nat) (xIndexes1p : Option Addr) (xIndexes1n xIndexes1c : Nat) (xLimit1 : Int) (xParts1 : Int) (xBy1 : Int),
  cellsAt wv11 (Addr.mk b5 0 none) 0 [.string xName1, .slice xCols1p xCols1n xCols1c, .slice xIndexes1p xIndexes1n xIndexes1c, .int .i64 xLimit1, .int .i64 xParts1, .int .i64 xBy1] ∧
  ∀ b6 wv12, New wv11 (.cells #[.int .i64 1, .int .i64 1, .string (bs []), .int .i64 2, .int .i64 0, .string (bs [120])] T.api_Value) b6 wv12 →
  CallsV prog F.schema_Key #[.agg #[.string xName1, .slice xCols1p xCols1n xCols1c, .slice xIndexes1p xIndexes1n xIndexes1c, .int .i64 xLimit1, .int .i64 xParts1, .int .i64 xBy1], .int .i64 1, .slice (some (Addr.mk b6 0 none)) 2 2] wv12 (fun v1 wv13 =>
    ∃ (ra1 : ByteArray) (rb1 : Int),
    v1 = .tuple #[.string ra1, .int .i64 rb1] ∧
    ∃ (xName2 : ByteArray) (xCols2p : Option Addr) (xCols2n xCols2c : Nat) (xIndexes2p : Option Addr) (xIndexes2n xIndexes2c : Nat) (xLimit2 : Int) (xParts2 : Int) (xBy2 : Int),
    cellsAt wv13 (Addr.mk b5 0 none) 0 [.string xName2, .slice xCols2p xCols2n xCols2c, .slice xIndexes2p xIndexes2n xIndexes2c, .int .i64 xLimit2, .int .i64 xParts2, .int .i64 xBy2] ∧
    CallsV prog F.schema_Right #[.agg #[.string xName2, .slice xCols2p xCols2n xCols2c, .slice xIndexes2p xIndexes2n xIndexes2c, .int .i64 xLimit2, .int .i64 xParts2, .int .i64 xBy2]] wv13 (fun v2 wv14 =>
      ∃ (r1 : Bool),
      v2 = .bool r1 ∧
      ifB r1 (
        ifB (rb1 == (0 : Int)) (
          K (.bool (sEq ra1 (bs [2, 120, 0, 1, 1, 128, 0, 0, 0, 0, 0, 0, 1]))) wv14) (
          K (.bool false) wv14)) (
        K (.bool false) wv14)))
def An.affluxlaw03_awake : Ann := ⟨[], [], []⟩
theorem R.affluxlaw03_awake  {w : World} {K : Value → World → Prop} (h : C.affluxlaw03_awake  w K) : CallsV prog F.affluxlaw03_awake #[] w K :=
  vcFn.calls (an := An.affluxlaw03_awake) mixed tabOK eqsOK Go.Proofs.Tryd.func29 (by kernel_rfl) (by kernel_rfl) (by kernel_rfl) ((by kernel_rfl : vcFn prog eqs tab An.affluxlaw03_awake Go.Proofs.Tryd.f29 [] w K = C.affluxlaw03_awake  w K).mpr h)

/-- afflux/schema.Pick -/
def C.schema_Pick (row1p : Option Addr) (row1n row1c : Nat) (places1p : Option Addr) (places1n places1c : Nat) (w : World) (K : Value → World → Prop) : Prop :=
  ∃ (Iv1 : Option Addr → Nat → Nat → Int → World → Prop) (m1 : Option Addr → Nat → Nat → Int → World → Nat),
  Iv1 none 0 0 0 w ∧
  ∀ (out1p : Option Addr) (out1n out1c : Nat) (s101 : Int) wv1, Iv1 out1p out1n out1c s101 wv1 →
  ifB (decide (s101 < ((places1n : Nat) : Int))) (
    ∃ a1, places1p = some a1 ∧ 0 ≤ s101 ∧ s101 < ((places1n : Nat) : Int) ∧
    ∃ (e1 : Int),
    wv1.cell? (a1.add (s101.toNat * 1)) = some (.int .i64 e1) ∧
    CallsV prog F.schema_within #[.int .i64 e1, .int .i64 0, .int .i64 (IntKind.i64.wrap (((row1n : Nat) : Int) - (1 : Int)))] wv1 (fun v1 wv2 =>
      ∃ (r1 : Bool),
      v1 = .bool r1 ∧
      ifB (!r1) (
        K (.slice none 0 0) wv2) (
        ∃ a2, row1p = some a2 ∧ 0 ≤ e1 ∧ e1 < ((row1n : Nat) : Int) ∧
        ∃ (eKind1 : Int) (eN1 : Int) (eS1 : ByteArray),
        cellsAt wv2 (a2.add (e1.toNat * 3)) 0 [.int .i64 eKind1, .int .i64 eN1, .string eS1] ∧
        ∀ b1 wv3, New wv2 (.cells #[.int .i64 eKind1, .int .i64 eN1, .string eS1] T.api_Value) b1 wv3 →
        BuiltV prog .append #[T.s_api_Value, T.s_api_Value] T.s_api_Value #[.slice out1p out1n out1c, .slice (some (Addr.mk b1 0 none)) 1 1] wv3 (fun v2 wv4 =>
          ∃ (a3p : Option Addr) (a3n a3c : Nat),
          v2 = .slice a3p a3n a3c ∧
          Iv1 a3p a3n a3c (IntKind.i64.wrap (s101 + (1 : Int))) wv4 ∧ m1 a3p a3n a3c (IntKind.i64.wrap (s101 + (1 : Int))) wv4 < m1 out1p out1n out1c s101 wv1)))) (
    K (.slice out1p out1n out1c) wv1)
def An.schema_Pick : Ann := ⟨[], [(3, [(5, 22), (10, 3)], [0, 8, 9])], []⟩
theorem R.schema_Pick {row1p : Option Addr} {row1n row1c : Nat} {places1p : Option Addr} {places1n places1c : Nat} {w : World} {K : Value → World → Prop} (h : C.schema_Pick row1p row1n row1c places1p places1n places1c w K) : CallsV prog F.schema_Pick #[.slice row1p row1n row1c, .slice places1p places1n places1c] w K :=
  vcFn.calls (an := An.schema_Pick) mixed tabOK eqsOK Go.Proofs.Tryd.func30 (by kernel_rfl) (by kernel_rfl) (by kernel_rfl) ((by kernel_rfl : vcFn prog eqs tab An.schema_Pick Go.Proofs.Tryd.f30 [.slice row1p row1n row1c, .slice places1p places1n places1c] w K = C.schema_Pick row1p row1n row1c places1p places1n places1c w K).mpr h)

/-- afflux/affluxref03.Pick -/
def C.affluxref03_Pick (row1p : Option Addr) (row1n row1c : Nat) (places1p : Option Addr) (places1n places1c : Nat) (w : World) (K : Value → World → Prop) : Prop :=
  ∃ (Iv1 : Option Addr → Nat → Nat → Int → World → Prop) (m1 : Option Addr → Nat → Nat → Int → World → Nat),
  Iv1 none 0 0 0 w ∧
  ∀ (out1p : Option Addr) (out1n out1c : Nat) (i1 : Int) wv1, Iv1 out1p out1n out1c i1 wv1 →
  ifB (decide (i1 < ((places1n : Nat) : Int))) (
    ∃ a1, places1p = some a1 ∧ 0 ≤ i1 ∧ i1 < ((places1n : Nat) : Int) ∧
    ∃ (e1 : Int),
    wv1.cell? (a1.add (i1.toNat * 1)) = some (.int .i64 e1) ∧
    ∃ a2, row1p = some a2 ∧ 0 ≤ e1 ∧ e1 < ((row1n : Nat) : Int) ∧
    ∃ (eKind1 : Int) (eN1 : Int) (eS1 : ByteArray),
    cellsAt wv1 (a2.add (e1.toNat * 3)) 0 [.int .i64 eKind1, .int .i64 eN1, .string eS1] ∧
    ∀ b1 wv2, New wv1 (.cells #[.int .i64 eKind1, .int .i64 eN1, .string eS1] T.api_Value) b1 wv2 →
    BuiltV prog .append #[T.s_api_Value, T.s_api_Value] T.s_api_Value #[.slice out1p out1n out1c, .slice (some (Addr.mk b1 0 none)) 1 1] wv2 (fun v1 wv3 =>
      ∃ (a3p : Option Addr) (a3n a3c : Nat),
      v1 = .slice a3p a3n a3c ∧
      Iv1 a3p a3n a3c (IntKind.i64.wrap (i1 + (1 : Int))) wv3 ∧ m1 a3p a3n a3c (IntKind.i64.wrap (i1 + (1 : Int))) wv3 < m1 out1p out1n out1c i1 wv1)) (
    K (.slice out1p out1n out1c) wv1)
def An.affluxref03_Pick : Ann := ⟨[], [(3, [(5, 22), (6, 3)], [0, 1])], []⟩
theorem R.affluxref03_Pick {row1p : Option Addr} {row1n row1c : Nat} {places1p : Option Addr} {places1n places1c : Nat} {w : World} {K : Value → World → Prop} (h : C.affluxref03_Pick row1p row1n row1c places1p places1n places1c w K) : CallsV prog F.affluxref03_Pick #[.slice row1p row1n row1c, .slice places1p places1n places1c] w K :=
  vcFn.calls (an := An.affluxref03_Pick) mixed tabOK eqsOK Go.Proofs.Tryd.func31 (by kernel_rfl) (by kernel_rfl) (by kernel_rfl) ((by kernel_rfl : vcFn prog eqs tab An.affluxref03_Pick Go.Proofs.Tryd.f31 [.slice row1p row1n row1c, .slice places1p places1n places1c] w K = C.affluxref03_Pick row1p row1n row1c places1p places1n places1c w K).mpr h)

/-- afflux/affluxref03.Great -/
def C.affluxref03_Great (sName1 : ByteArray) (sCols1p : Option Addr) (sCols1n sCols1c : Nat) (sIndexes1p : Option Addr) (sIndexes1n sIndexes1c : Nat) (sLimit1 : Int) (sParts1 : Int) (sBy1 : Int) (w : World) (K : Value → World → Prop) : Prop :=
  ∀ b1 wv1, New w (.cells #[.string sName1, .slice sCols1p sCols1n sCols1c, .slice sIndexes1p sIndexes1n sIndexes1c, .int .i64 sLimit1, .int .i64 sParts1, .int .i64 sBy1] T.api_Schema) b1 wv1 →
  ∃ Jv1 : World → Prop,
  (∃ (Cols1p : Option Addr) (Cols1n Cols1c : Nat),
  wv1.cell? ((Addr.mk b1 0 none).add 1) = some (.slice Cols1p Cols1n Cols1c) ∧
  ifB (decide ((12 : Int) < ((Cols1n : Nat) : Int))) (
    K (.bool true) wv1) (
    ∃ (Indexes1p : Option Addr) (Indexes1n Indexes1c : Nat),
    wv1.cell? ((Addr.mk b1 0 none).add 2) = some (.slice Indexes1p Indexes1n Indexes1c) ∧
    ifB (decide ((8 : Int) < ((Indexes1n : Nat) : Int))) (
      K (.bool true) wv1) (
      ∃ (Name1 : ByteArray),
      wv1.cell? ((Addr.mk b1 0 none).add 0) = some (.string Name1) ∧
      ifB (decide ((100 : Int) < ((Name1.size : Nat) : Int))) (
        K (.bool true) wv1) (
        Jv1 wv1)))) ∧
  (∀ wv2, Jv1 wv2 →
  ∃ (Iv1 : Int → World → Prop) (m1 : Int → World → Nat),
  Iv1 0 wv2 ∧
  ∀ (i1 : Int) wv3, Iv1 i1 wv3 →
  ∃ (Cols2p : Option Addr) (Cols2n Cols2c : Nat),
  wv3.cell? ((Addr.mk b1 0 none).add 1) = some (.slice Cols2p Cols2n Cols2c) ∧
  ifB (decide (i1 < ((Cols2n : Nat) : Int))) (
    ∃ (Cols3p : Option Addr) (Cols3n Cols3c : Nat),
    wv3.cell? ((Addr.mk b1 0 none).add 1) = some (.slice Cols3p Cols3n Cols3c) ∧
    ∃ a1, Cols3p = some a1 ∧ 0 ≤ i1 ∧ i1 < ((Cols3n : Nat) : Int) ∧
    ∃ (Name2 : ByteArray),
    wv3.cell? ((a1.add (i1.toNat * 2)).add 0) = some (.string Name2) ∧
    ifB (decide ((100 : Int) < ((Name2.size : Nat) : Int))) (
      K (.bool true) wv3) (
      Iv1 (IntKind.i64.wrap (i1 + (1 : Int))) wv3 ∧ m1 (IntKind.i64.wrap (i1 + (1 : Int))) wv3 < m1 i1 wv3)) (
    ∃ (Iv2 : Int → World → Prop) (m2 : Int → World → Nat),
    Iv2 0 wv3 ∧
    ∀ (i2 : Int) wv4, Iv2 i2 wv4 →
    ∃ (Indexes2p : Option Addr) (Indexes2n Indexes2c : Nat),
    wv4.cell? ((Addr.mk b1 0 none).add 2) = some (.slice Indexes2p Indexes2n Indexes2c) ∧
    ifB (decide (i2 < ((Indexes2n : Nat) : Int))) (
      ∃ (Indexes3p : Option Addr) (Indexes3n Indexes3c : Nat),
      wv4.cell? ((Addr.mk b1 0 none).add 2) = some (.slice Indexes3p Indexes3n Indexes3c) ∧
      ∃ a2, Indexes3p = some a2 ∧ 0 ≤ i2 ∧ i2 < ((Indexes3n : Nat) : Int) ∧
      ∃ (Cols4p : Option Addr) (Cols4n Cols4c : Nat),
      wv4.cell? ((a2.add (i2.toNat * 2)).add 0) = some (.slice Cols4p Cols4n Cols4c) ∧
      ifB (decide ((12 : Int) < ((Cols4n : Nat) : Int))) (
        K (.bool true) wv4) (
        Iv2 (IntKind.i64.wrap (i2 + (1 : Int))) wv4 ∧ m2 (IntKind.i64.wrap (i2 + (1 : Int))) wv4 < m2 i2 wv4)) (
      K (.bool false) wv4)))
def An.affluxref03_Great : Ann := ⟨[], [(4, [(3, 3)], [1]), (9, [(4, 3)], [1])], [(3, [], [1])]⟩
theorem R.affluxref03_Great {sName1 : ByteArray} {sCols1p : Option Addr} {sCols1n sCols1c : Nat} {sIndexes1p : Option Addr} {sIndexes1n sIndexes1c : Nat} {sLimit1 : Int} {sParts1 : Int} {sBy1 : Int} {w : World} {K : Value → World → Prop} (h : C.affluxref03_Great sName1 sCols1p sCols1n sCols1c sIndexes1p sIndexes1n sIndexes1c sLimit1 sParts1 sBy1 w K) : CallsV prog F.affluxref03_Great #[.agg #[.string sName1, .slice sCols1p sCols1n sCols1c, .slice sIndexes1p sIndexes1n sIndexes1c, .int .i64 sLimit1, .int .i64 sParts1, .int .i64 sBy1]] w K :=
  vcFn.calls (an := An.affluxref03_Great) mixed tabOK eqsOK Go.Proofs.Tryd.func32 (by kernel_rfl) (by kernel_rfl) (by kernel_rfl) ((by kernel_rfl : vcFn prog eqs tab An.affluxref03_Great Go.Proofs.Tryd.f32 [.agg #[.string sName1, .slice sCols1p sCols1n sCols1c, .slice sIndexes1p sIndexes1n sIndexes1c, .int .i64 sLimit1, .int .i64 sParts1, .int .i64 sBy1]] w K = C.affluxref03_Great sName1 sCols1p sCols1n sCols1c sIndexes1p sIndexes1n sIndexes1c sLimit1 sParts1 sBy1 w K).mpr h)

/-- afflux/schema.Fits -/
def C.schema_Fits (sName1 : ByteArray) (sCols1p : Option Addr) (sCols1n sCols1c : Nat) (sIndexes1p : Option Addr) (sIndexes1n sIndexes1c : Nat) (sLimit1 : Int) (sParts1 : Int) (sBy1 : Int) (row1p : Option Addr) (row1n row1c : Nat) (w : World) (K : Value → World → Prop) : Prop :=
  ∀ b1 wv1, New w (.cells #[.string sName1, .slice sCols1p sCols1n sCols1c, .slice sIndexes1p sIndexes1n sIndexes1c, .int .i64 sLimit1, .int .i64 sParts1, .int .i64 sBy1] T.api_Schema) b1 wv1 →
  ∃ (xName1 : ByteArray) (xCols1p : Option Addr) (xCols1n xCols1c : Nat) (xIndexes1p : Option Addr) (xIndexes1n xIndexes1c : Nat) (xLimit1 : Int) (xParts1 : Int) (xBy1 : Int),
  cellsAt wv1 (Addr.mk b1 0 none) 0 [.string xName1, .slice xCols1p xCols1n xCols1c, .slice xIndexes1p xIndexes1n xIndexes1c, .int .i64 xLimit1, .int .i64 xParts1, .int .i64 xBy1] ∧
  CallsV prog F.schema_Right #[.agg #[.string xName1, .slice xCols1p xCols1n xCols1c, .slice xIndexes1p xIndexes1n xIndexes1c, .int .i64 xLimit1, .int .i64 xParts1, .int .i64 xBy1]] wv1 (fun v1 wv2 =>
    ∃ (r1 : Bool),
    v1 = .bool r1 ∧
    ifB r1 (
      ∃ (Cols1p : Option Addr) (Cols1n Cols1c : Nat),
      wv2.cell? ((Addr.mk b1 0 none).add 1) = some (.slice Cols1p Cols1n Cols1c) ∧
      CallsV prog F.schema_fits #[.slice Cols1p Cols1n Cols1c, .slice row1p row1n row1c] wv2 (fun v2 wv3 =>
        ∃ (r2 : Bool),
        v2 = .bool r2 ∧
        K (.bool r2) wv3)) (
      K (.bool false) wv2))
def An.schema_Fits : Ann := ⟨[], [], []⟩
theorem R.schema_Fits {sName1 : ByteArray} {sCols1p : Option Addr} {sCols1n sCols1c : Nat} {sIndexes1p : Option Addr} {sIndexes1n sIndexes1c : Nat} {sLimit1 : Int} {sParts1 : Int} {sBy1 : Int} {row1p : Option Addr} {row1n row1c : Nat} {w : World} {K : Value → World → Prop} (h : C.schema_Fits sName1 sCols1p sCols1n sCols1c sIndexes1p sIndexes1n sIndexes1c sLimit1 sParts1 sBy1 row1p row1n row1c w K) : CallsV prog F.schema_Fits #[.agg #[.string sName1, .slice sCols1p sCols1n sCols1c, .slice sIndexes1p sIndexes1n sIndexes1c, .int .i64 sLimit1, .int .i64 sParts1, .int .i64 sBy1], .slice row1p row1n row1c] w K :=
  vcFn.calls (an := An.schema_Fits) mixed tabOK eqsOK Go.Proofs.Tryd.func33 (by kernel_rfl) (by kernel_rfl) (by kernel_rfl) ((by kernel_rfl : vcFn prog eqs tab An.schema_Fits Go.Proofs.Tryd.f33 [.agg #[.string sName1, .slice sCols1p sCols1n sCols1c, .slice sIndexes1p sIndexes1n sIndexes1c, .int .i64 sLimit1, .int .i64 sParts1, .int .i64 sBy1], .slice row1p row1n row1c] w K = C.schema_Fits sName1 sCols1p sCols1n sCols1c sIndexes1p sIndexes1n sIndexes1c sLimit1 sParts1 sBy1 row1p row1n row1c w K).mpr h)

/-- afflux/schema.Key -/
def C.schema_Key (sName1 : ByteArray) (sCols1p : Option Addr) (sCols1n sCols1c : Nat) (sIndexes1p : Option Addr) (sIndexes1n sIndexes1c : Nat) (sLimit1 : Int) (sParts1 : Int) (sBy1 : Int) (index1 : Int) (row1p : Option Addr) (row1n row1c : Nat) (w : World) (K : Value → World → Prop) : Prop :=
  ∀ b1 wv1, New w (.cells #[.string sName1, .slice sCols1p sCols1n sCols1c, .slice sIndexes1p sIndexes1n sIndexes1c, .int .i64 sLimit1, .int .i64 sParts1, .int .i64 sBy1] T.api_Schema) b1 wv1 →
  ∃ (xName1 : ByteArray) (xCols1p : Option Addr) (xCols1n xCols1c : Nat) (xIndexes1p : Option Addr) (xIndexes1n xIndexes1c : Nat) (xLimit1 : Int) (xParts1 : Int) (xBy1 : Int),
  cellsAt wv1 (Addr.mk b1 0 none) 0 [.string xName1, .slice xCols1p xCols1n xCols1c, .slice xIndexes1p xIndexes1n xIndexes1c, .int .i64 xLimit1, .int .i64 xParts1, .int .i64 xBy1] ∧
  CallsV prog F.schema_checked #[.agg #[.string xName1, .slice xCols1p xCols1n xCols1c, .slice xIndexes1p xIndexes1n xIndexes1c, .int .i64 xLimit1, .int .i64 xParts1, .int .i64 xBy1], .int .i64 index1, .slice row1p row1n row1c] wv1 (fun v1 wv2 =>
    ∃ (r1 : Int),
    v1 = .int .i64 r1 ∧
    ifB (r1 != (0 : Int)) (
      K (.tuple #[.string (bs []), .int .i64 r1]) wv2) (
      ∃ (xName2 : ByteArray) (xCols2p : Option Addr) (xCols2n xCols2c : Nat) (xIndexes2p : Option Addr) (xIndexes2n xIndexes2c : Nat) (xLimit2 : Int) (xParts2 : Int) (xBy2 : Int),
      cellsAt wv2 (Addr.mk b1 0 none) 0 [.string xName2, .slice xCols2p xCols2n xCols2c, .slice xIndexes2p xIndexes2n xIndexes2c, .int .i64 xLimit2, .int .i64 xParts2, .int .i64 xBy2] ∧
      CallsV prog F.schema_key #[.agg #[.string xName2, .slice xCols2p xCols2n xCols2c, .slice xIndexes2p xIndexes2n xIndexes2c, .int .i64 xLimit2, .int .i64 xParts2, .int .i64 xBy2], .int .i64 index1, .slice row1p row1n row1c] wv2 (fun v2 wv3 =>
        ∃ (r2 : ByteArray),
        v2 = .string r2 ∧
        K (.tuple #[.string r2, .int .i64 0]) wv3)))
def An.schema_Key : Ann := ⟨[], [], []⟩
theorem R.schema_Key {sName1 : ByteArray} {sCols1p : Option Addr} {sCols1n sCols1c : Nat} {sIndexes1p : Option Addr} {sIndexes1n sIndexes1c : Nat} {sLimit1 : Int} {sParts1 : Int} {sBy1 : Int} {index1 : Int} {row1p : Option Addr} {row1n row1c : Nat} {w : World} {K : Value → World → Prop} (h : C.schema_Key sName1 sCols1p sCols1n sCols1c sIndexes1p sIndexes1n sIndexes1c sLimit1 sParts1 sBy1 index1 row1p row1n row1c w K) : CallsV prog F.schema_Key #[.agg #[.string sName1, .slice sCols1p sCols1n sCols1c, .slice sIndexes1p sIndexes1n sIndexes1c, .int .i64 sLimit1, .int .i64 sParts1, .int .i64 sBy1], .int .i64 index1, .slice row1p row1n row1c] w K :=
  vcFn.calls (an := An.schema_Key) mixed tabOK eqsOK Go.Proofs.Tryd.func34 (by kernel_rfl) (by kernel_rfl) (by kernel_rfl) ((by kernel_rfl : vcFn prog eqs tab An.schema_Key Go.Proofs.Tryd.f34 [.agg #[.string sName1, .slice sCols1p sCols1n sCols1c, .slice sIndexes1p sIndexes1n sIndexes1c, .int .i64 sLimit1, .int .i64 sParts1, .int .i64 sBy1], .int .i64 index1, .slice row1p row1n row1c] w K = C.schema_Key sName1 sCols1p sCols1n sCols1c sIndexes1p sIndexes1n sIndexes1c sLimit1 sParts1 sBy1 index1 row1p row1n row1c w K).mpr h)

/-- afflux/affluxref02.Right -/
def C.affluxref02_Right (vKind1 : Int) (vN1 : Int) (vS1 : ByteArray) (w : World) (K : Value → World → Prop) : Prop :=
  ∀ b1 wv1, New w (.cells #[.int .i64 vKind1, .int .i64 vN1, .string vS1] T.api_Value) b1 wv1 →
  ∃ (Kind1 : Int),
  wv1.cell? ((Addr.mk b1 0 none).add 0) = some (.int .i64 Kind1) ∧
  ifB (Kind1 == (1 : Int)) (
    ∃ (S1 : ByteArray),
    wv1.cell? ((Addr.mk b1 0 none).add 2) = some (.string S1) ∧
    ifB (sEq S1 (bs [])) (
      K (.bool true) wv1) (
      ∃ (Kind2 : Int),
      wv1.cell? ((Addr.mk b1 0 none).add 0) = some (.int .i64 Kind2) ∧
      ifB (Kind2 == (2 : Int)) (
        ∃ (N1 : Int),
        wv1.cell? ((Addr.mk b1 0 none).add 1) = some (.int .i64 N1) ∧
        ifB (N1 == (0 : Int)) (
          ∃ (S2 : ByteArray),
          wv1.cell? ((Addr.mk b1 0 none).add 2) = some (.string S2) ∧
          ifB (decide (((S2.size : Nat) : Int) ≤ (200 : Int))) (
            K (.bool true) wv1) (
            ∃ (Kind3 : Int),
            wv1.cell? ((Addr.mk b1 0 none).add 0) = some (.int .i64 Kind3) ∧
            ifB (Kind3 == (3 : Int)) (
              ∃ (N2 : Int),
              wv1.cell? ((Addr.mk b1 0 none).add 1) = some (.int .i64 N2) ∧
              ifB (N2 == (0 : Int)) (
                ∃ (S3 : ByteArray),
                wv1.cell? ((Addr.mk b1 0 none).add 2) = some (.string S3) ∧
                K (.bool (sEq S3 (bs []))) wv1) (
                ∃ (N3 : Int),
                wv1.cell? ((Addr.mk b1 0 none).add 1) = some (.int .i64 N3) ∧
                ifB (N3 == (1 : Int)) (
                  ∃ (S4 : ByteArray),
                  wv1.cell? ((Addr.mk b1 0 none).add 2) = some (.string S4) ∧
                  K (.bool (sEq S4 (bs []))) wv1) (
                  K (.bool false) wv1))) (
              K (.bool false) wv1))) (
          ∃ (Kind4 : Int),
          wv1.cell? ((Addr.mk b1 0 none).add 0) = some (.int .i64 Kind4) ∧
          ifB (Kind4 == (3 : Int)) (
            ∃ (N4 : Int),
            wv1.cell? ((Addr.mk b1 0 none).add 1) = some (.int .i64 N4) ∧
            ifB (N4 == (0 : Int)) (
              ∃ (S5 : ByteArray),
              wv1.cell? ((Addr.mk b1 0 none).add 2) = some (.string S5) ∧
              K (.bool (sEq S5 (bs []))) wv1) (
              ∃ (N5 : Int),
              wv1.cell? ((Addr.mk b1 0 none).add 1) = some (.int .i64 N5) ∧
              ifB (N5 == (1 : Int)) (
                ∃ (S6 : ByteArray),
                wv1.cell? ((Addr.mk b1 0 none).add 2) = some (.string S6) ∧
                K (.bool (sEq S6 (bs []))) wv1) (
                K (.bool false) wv1))) (
            K (.bool false) wv1))) (
        ∃ (Kind5 : Int),
        wv1.cell? ((Addr.mk b1 0 none).add 0) = some (.int .i64 Kind5) ∧
        ifB (Kind5 == (3 : Int)) (
          ∃ (N6 : Int),
          wv1.cell? ((Addr.mk b1 0 none).add 1) = some (.int .i64 N6) ∧
          ifB (N6 == (0 : Int)) (
            ∃ (S7 : ByteArray),
            wv1.cell? ((Addr.mk b1 0 none).add 2) = some (.string S7) ∧
            K (.bool (sEq S7 (bs []))) wv1) (
            ∃ (N7 : Int),
            wv1.cell? ((Addr.mk b1 0 none).add 1) = some (.int .i64 N7) ∧
            ifB (N7 == (1 : Int)) (
              ∃ (S8 : ByteArray),
              wv1.cell? ((Addr.mk b1 0 none).add 2) = some (.string S8) ∧
              K (.bool (sEq S8 (bs []))) wv1) (
              K (.bool false) wv1))) (
          K (.bool false) wv1)))) (
    ∃ (Kind6 : Int),
    wv1.cell? ((Addr.mk b1 0 none).add 0) = some (.int .i64 Kind6) ∧
    ifB (Kind6 == (2 : Int)) (
      ∃ (N8 : Int),
      wv1.cell? ((Addr.mk b1 0 none).add 1) = some (.int .i64 N8) ∧
      ifB (N8 == (0 : Int)) (
        ∃ (S9 : ByteArray),
        wv1.cell? ((Addr.mk b1 0 none).add 2) = some (.string S9) ∧
        ifB (decide (((S9.size : Nat) : Int) ≤ (200 : Int))) (
          K (.bool true) wv1) (
          ∃ (Kind7 : Int),
          wv1.cell? ((Addr.mk b1 0 none).add 0) = some (.int .i64 Kind7) ∧
          ifB (Kind7 == (3 : Int)) (
            ∃ (N9 : Int),
            wv1.cell? ((Addr.mk b1 0 none).add 1) = some (.int .i64 N9) ∧
            ifB (N9 == (0 : Int)) (
              ∃ (S10 : ByteArray),
              wv1.cell? ((Addr.mk b1 0 none).add 2) = some (.string S10) ∧
              K (.bool (sEq S10 (bs []))) wv1) (
              ∃ (N10 : Int),
              wv1.cell? ((Addr.mk b1 0 none).add 1) = some (.int .i64 N10) ∧
              ifB (N10 == (1 : Int)) (
                ∃ (S11 : ByteArray),
                wv1.cell? ((Addr.mk b1 0 none).add 2) = some (.string S11) ∧
                K (.bool (sEq S11 (bs []))) wv1) (
                K (.bool false) wv1))) (
            K (.bool false) wv1))) (
        ∃ (Kind8 : Int),
        wv1.cell? ((Addr.mk b1 0 none).add 0) = some (.int .i64 Kind8) ∧
        ifB (Kind8 == (3 : Int)) (
          ∃ (N11 : Int),
          wv1.cell? ((Addr.mk b1 0 none).add 1) = some (.int .i64 N11) ∧
          ifB (N11 == (0 : Int)) (
            ∃ (S12 : ByteArray),
            wv1.cell? ((Addr.mk b1 0 none).add 2) = some (.string S12) ∧
            K (.bool (sEq S12 (bs []))) wv1) (
            ∃ (N12 : Int),
            wv1.cell? ((Addr.mk b1 0 none).add 1) = some (.int .i64 N12) ∧
            ifB (N12 == (1 : Int)) (
              ∃ (S13 : ByteArray),
              wv1.cell? ((Addr.mk b1 0 none).add 2) = some (.string S13) ∧
              K (.bool (sEq S13 (bs []))) wv1) (
              K (.bool false) wv1))) (
          K (.bool false) wv1))) (
      ∃ (Kind9 : Int),
      wv1.cell? ((Addr.mk b1 0 none).add 0) = some (.int .i64 Kind9) ∧
      ifB (Kind9 == (3 : Int)) (
        ∃ (N13 : Int),
        wv1.cell? ((Addr.mk b1 0 none).add 1) = some (.int .i64 N13) ∧
        ifB (N13 == (0 : Int)) (
          ∃ (S14 : ByteArray),
          wv1.cell? ((Addr.mk b1 0 none).add 2) = some (.string S14) ∧
          K (.bool (sEq S14 (bs []))) wv1) (
          ∃ (N14 : Int),
          wv1.cell? ((Addr.mk b1 0 none).add 1) = some (.int .i64 N14) ∧
          ifB (N14 == (1 : Int)) (
            ∃ (S15 : ByteArray),
            wv1.cell? ((Addr.mk b1 0 none).add 2) = some (.string S15) ∧
            K (.bool (sEq S15 (bs []))) wv1) (
            K (.bool false) wv1))) (
        K (.bool false) wv1)))
def An.affluxref02_Right : Ann := ⟨[], [], []⟩
theorem R.affluxref02_Right {vKind1 : Int} {vN1 : Int} {vS1 : ByteArray} {w : World} {K : Value → World → Prop} (h : C.affluxref02_Right vKind1 vN1 vS1 w K) : CallsV prog F.affluxref02_Right #[.agg #[.int .i64 vKind1, .int .i64 vN1, .string vS1]] w K :=
  vcFn.calls (an := An.affluxref02_Right) mixed tabOK eqsOK Go.Proofs.Tryd.func35 (by kernel_rfl) (by kernel_rfl) (by kernel_rfl) ((by kernel_rfl : vcFn prog eqs tab An.affluxref02_Right Go.Proofs.Tryd.f35 [.agg #[.int .i64 vKind1, .int .i64 vN1, .string vS1]] w K = C.affluxref02_Right vKind1 vN1 vS1 w K).mpr h)

/-- afflux/value.Parse -/
def C.value_Parse (s1 : ByteArray) (w : World) (K : Value → World → Prop) : Prop :=
  ∀ b1 wv1, New w (.cells #[.int .i64 0, .int .i64 0, .string (bs [])] T.api_Value) b1 wv1 →
  ∀ b2 wv2, New wv1 (.cells #[.int .i64 0, .int .i64 0, .string (bs [])] T.api_Value) b2 wv2 →
  ∃ Jv1 : World → Prop,
  (∃ Jv2 : Bool → World → Prop,
  (ifB (sEq s1 (bs [116, 114, 117, 101])) (
    Jv2 true wv2) (
    Jv2 (sEq s1 (bs [102, 97, 108, 115, 101])) wv2)) ∧
  (∀ (s171 : Bool) wv3, Jv2 s171 wv3 →
  ifB s171 (
    CallsV prog F.value_Bool #[.bool (sEq s1 (bs [116, 114, 117, 101]))] wv3 (fun v1 wv4 =>
      ∃ (rKind1 : Int) (rN1 : Int) (rS1 : ByteArray),
      v1 = .agg #[.int .i64 rKind1, .int .i64 rN1, .string rS1] ∧
      CanSt wv4 ((Addr.mk b2 0 none).add 0) ∧ ∀ wv5, wv5 = wv4.setCell ((Addr.mk b2 0 none).add 0) (.int .i64 rKind1) →
      CanSt wv5 ((Addr.mk b2 0 none).add 1) ∧ ∀ wv6, wv6 = wv5.setCell ((Addr.mk b2 0 none).add 1) (.int .i64 rN1) →
      CanSt wv6 ((Addr.mk b2 0 none).add 2) ∧ ∀ wv7, wv7 = wv6.setCell ((Addr.mk b2 0 none).add 2) (.string rS1) →
      Jv1 wv7)) (
    ∃ Jv3 : Bool → World → Prop,
    (ifB (decide ((2 : Int) ≤ ((s1.size : Nat) : Int))) (
      0 ≤ (0 : Int) ∧ (0 : Int) < ((s1.size : Nat) : Int) ∧
      Jv3 ((bt s1 (0 : Int)) == (39 : Int)) wv3) (
      Jv3 false wv3)) ∧
    (∀ (s271 : Bool) wv8, Jv3 s271 wv8 →
    ifB s271 (
      0 ≤ IntKind.i64.wrap (((s1.size : Nat) : Int) - (1 : Int)) ∧ IntKind.i64.wrap (((s1.size : Nat) : Int) - (1 : Int)) ≤ ((s1.size : Nat) : Int) ∧
      0 ≤ (1 : Int) ∧ (1 : Int) ≤ (((IntKind.i64.wrap (((s1.size : Nat) : Int) - (1 : Int))).toNat : Nat) : Int) ∧
      CallsV prog F.strings_ReplaceAll #[.string (s1.extract ((1 : Int).toNat) ((IntKind.i64.wrap (((s1.size : Nat) : Int) - (1 : Int))).toNat)), .string (bs [39, 39]), .string (bs [39])] wv8 (fun v2 wv9 =>
        ∃ (r1 : ByteArray),
        v2 = .string r1 ∧
        CallsV prog F.value_Text #[.string r1] wv9 (fun v3 wv10 =>
          ∃ (rKind2 : Int) (rN2 : Int) (rS2 : ByteArray),
          v3 = .agg #[.int .i64 rKind2, .int .i64 rN2, .string rS2] ∧
          CanSt wv10 ((Addr.mk b2 0 none).add 0) ∧ ∀ wv11, wv11 = wv10.setCell ((Addr.mk b2 0 none).add 0) (.int .i64 rKind2) →
          CanSt wv11 ((Addr.mk b2 0 none).add 1) ∧ ∀ wv12, wv12 = wv11.setCell ((Addr.mk b2 0 none).add 1) (.int .i64 rN2) →
          CanSt wv12 ((Addr.mk b2 0 none).add 2) ∧ ∀ wv13, wv13 = wv12.setCell ((Addr.mk b2 0 none).add 2) (.string rS2) →
          Jv1 wv13))) (
      CallsV prog F.calc_Parse #[.string s1] wv8 (fun v4 wv14 =>
        ∃ (ra1 : Int) (rb1 : Int),
        v4 = .tuple #[.int .i64 ra1, .int .i64 rb1] ∧
        ifB (rb1 != (0 : Int)) (
          CanSt wv14 ((Addr.mk b1 0 none).add 0) ∧ ∀ wv15, wv15 = wv14.setCell ((Addr.mk b1 0 none).add 0) (.int .i64 0) →
          CanSt wv15 ((Addr.mk b1 0 none).add 1) ∧ ∀ wv16, wv16 = wv15.setCell ((Addr.mk b1 0 none).add 1) (.int .i64 0) →
          CanSt wv16 ((Addr.mk b1 0 none).add 2) ∧ ∀ wv17, wv17 = wv16.setCell ((Addr.mk b1 0 none).add 2) (.string (bs [])) →
          ∃ (xKind1 : Int) (xN1 : Int) (xS1 : ByteArray),
          cellsAt wv17 (Addr.mk b1 0 none) 0 [.int .i64 xKind1, .int .i64 xN1, .string xS1] ∧
          K (.tuple #[.agg #[.int .i64 xKind1, .int .i64 xN1, .string xS1], .int .i64 12]) wv17) (
          CallsV prog F.value_Int #[.int .i64 ra1] wv14 (fun v5 wv18 =>
            ∃ (rKind3 : Int) (rN3 : Int) (rS3 : ByteArray),
            v5 = .agg #[.int .i64 rKind3, .int .i64 rN3, .string rS3] ∧
            CanSt wv18 ((Addr.mk b2 0 none).add 0) ∧ ∀ wv19, wv19 = wv18.setCell ((Addr.mk b2 0 none).add 0) (.int .i64 rKind3) →
            CanSt wv19 ((Addr.mk b2 0 none).add 1) ∧ ∀ wv20, wv20 = wv19.setCell ((Addr.mk b2 0 none).add 1) (.int .i64 rN3) →
            CanSt wv20 ((Addr.mk b2 0 none).add 2) ∧ ∀ wv21, wv21 = wv20.setCell ((Addr.mk b2 0 none).add 2) (.string rS3) →
            Jv1 wv21)))))))) ∧
  (∀ wv22, Jv1 wv22 →
  ∃ (xKind2 : Int) (xN2 : Int) (xS2 : ByteArray),
  cellsAt wv22 (Addr.mk b2 0 none) 0 [.int .i64 xKind2, .int .i64 xN2, .string xS2] ∧
  CallsV prog F.value_wrong #[.agg #[.int .i64 xKind2, .int .i64 xN2, .string xS2]] wv22 (fun v6 wv23 =>
    ∃ (r2 : Bool),
    v6 = .bool r2 ∧
    ifB r2 (
      CanSt wv23 ((Addr.mk b1 0 none).add 0) ∧ ∀ wv24, wv24 = wv23.setCell ((Addr.mk b1 0 none).add 0) (.int .i64 0) →
      CanSt wv24 ((Addr.mk b1 0 none).add 1) ∧ ∀ wv25, wv25 = wv24.setCell ((Addr.mk b1 0 none).add 1) (.int .i64 0) →
      CanSt wv25 ((Addr.mk b1 0 none).add 2) ∧ ∀ wv26, wv26 = wv25.setCell ((Addr.mk b1 0 none).add 2) (.string (bs [])) →
      ∃ (xKind3 : Int) (xN3 : Int) (xS3 : ByteArray),
      cellsAt wv26 (Addr.mk b1 0 none) 0 [.int .i64 xKind3, .int .i64 xN3, .string xS3] ∧
      K (.tuple #[.agg #[.int .i64 xKind3, .int .i64 xN3, .string xS3], .int .i64 12]) wv26) (
      ∃ (xKind4 : Int) (xN4 : Int) (xS4 : ByteArray),
      cellsAt wv23 (Addr.mk b2 0 none) 0 [.int .i64 xKind4, .int .i64 xN4, .string xS4] ∧
      CallsV prog F.value_Print #[.agg #[.int .i64 xKind4, .int .i64 xN4, .string xS4]] wv23 (fun v7 wv27 =>
        ∃ (r3 : ByteArray),
        v7 = .string r3 ∧
        ifB (!sEq r3 s1) (
          CanSt wv27 ((Addr.mk b1 0 none).add 0) ∧ ∀ wv28, wv28 = wv27.setCell ((Addr.mk b1 0 none).add 0) (.int .i64 0) →
          CanSt wv28 ((Addr.mk b1 0 none).add 1) ∧ ∀ wv29, wv29 = wv28.setCell ((Addr.mk b1 0 none).add 1) (.int .i64 0) →
          CanSt wv29 ((Addr.mk b1 0 none).add 2) ∧ ∀ wv30, wv30 = wv29.setCell ((Addr.mk b1 0 none).add 2) (.string (bs [])) →
          ∃ (xKind5 : Int) (xN5 : Int) (xS5 : ByteArray),
          cellsAt wv30 (Addr.mk b1 0 none) 0 [.int .i64 xKind5, .int .i64 xN5, .string xS5] ∧
          K (.tuple #[.agg #[.int .i64 xKind5, .int .i64 xN5, .string xS5], .int .i64 12]) wv30) (
          ∃ (xKind6 : Int) (xN6 : Int) (xS6 : ByteArray),
          cellsAt wv27 (Addr.mk b2 0 none) 0 [.int .i64 xKind6, .int .i64 xN6, .string xS6] ∧
          CanSt wv27 ((Addr.mk b1 0 none).add 0) ∧ ∀ wv31, wv31 = wv27.setCell ((Addr.mk b1 0 none).add 0) (.int .i64 xKind6) →
          CanSt wv31 ((Addr.mk b1 0 none).add 1) ∧ ∀ wv32, wv32 = wv31.setCell ((Addr.mk b1 0 none).add 1) (.int .i64 xN6) →
          CanSt wv32 ((Addr.mk b1 0 none).add 2) ∧ ∀ wv33, wv33 = wv32.setCell ((Addr.mk b1 0 none).add 2) (.string xS6) →
          ∃ (xKind7 : Int) (xN7 : Int) (xS7 : ByteArray),
          cellsAt wv33 (Addr.mk b1 0 none) 0 [.int .i64 xKind7, .int .i64 xN7, .string xS7] ∧
          K (.tuple #[.agg #[.int .i64 xKind7, .int .i64 xN7, .string xS7], .int .i64 0]) wv33)))))
def An.value_Parse : Ann := ⟨[], [], [(7, [(17, 4)], [0, 2, 4]), (9, [(27, 4)], [0, 2, 4]), (10, [], [0, 2, 4])]⟩
theorem R.value_Parse {s1 : ByteArray} {w : World} {K : Value → World → Prop} (h : C.value_Parse s1 w K) : CallsV prog F.value_Parse #[.string s1] w K :=
  vcFn.calls (an := An.value_Parse) mixed tabOK eqsOK Go.Proofs.Tryd.func36 (by kernel_rfl) (by kernel_rfl) (by kernel_rfl) ((by kernel_rfl : vcFn prog eqs tab An.value_Parse Go.Proofs.Tryd.f36 [.string s1] w K = C.value_Parse s1 w K).mpr h)

/-- afflux/value.Print -/
def C.value_Print (vKind1 : Int) (vN1 : Int) (vS1 : ByteArray) (w : World) (K : Value → World → Prop) : Prop :=
  ∀ b1 wv1, New w (.cells #[.int .i64 vKind1, .int .i64 vN1, .string vS1] T.api_Value) b1 wv1 →
  ∃ (xKind1 : Int) (xN1 : Int) (xS1 : ByteArray),
  cellsAt wv1 (Addr.mk b1 0 none) 0 [.int .i64 xKind1, .int .i64 xN1, .string xS1] ∧
  CallsV prog F.value_wrong #[.agg #[.int .i64 xKind1, .int .i64 xN1, .string xS1]] wv1 (fun v1 wv2 =>
    ∃ (r1 : Bool),
    v1 = .bool r1 ∧
    ifB r1 (
      K (.string (bs [])) wv2) (
      ∃ (Kind1 : Int),
      wv2.cell? ((Addr.mk b1 0 none).add 0) = some (.int .i64 Kind1) ∧
      ifB (Kind1 == (1 : Int)) (
        ∃ (N1 : Int),
        wv2.cell? ((Addr.mk b1 0 none).add 1) = some (.int .i64 N1) ∧
        CallsV prog F.calc_Print #[.int .i64 N1] wv2 (fun v2 wv3 =>
          ∃ (r2 : ByteArray),
          v2 = .string r2 ∧
          K (.string r2) wv3)) (
        ∃ (Kind2 : Int),
        wv2.cell? ((Addr.mk b1 0 none).add 0) = some (.int .i64 Kind2) ∧
        ifB (Kind2 == (2 : Int)) (
          ∃ (S1 : ByteArray),
          wv2.cell? ((Addr.mk b1 0 none).add 2) = some (.string S1) ∧
          CallsV prog F.strings_ReplaceAll #[.string S1, .string (bs [39]), .string (bs [39, 39])] wv2 (fun v3 wv4 =>
            ∃ (r3 : ByteArray),
            v3 = .string r3 ∧
            (bs [39]).size + r3.size ≤ 9223372036854775807 ∧
            ((bs [39]) ++ r3).size + (bs [39]).size ≤ 9223372036854775807 ∧
            K (.string (((bs [39]) ++ r3) ++ (bs [39]))) wv4)) (
          ∃ (N2 : Int),
          wv2.cell? ((Addr.mk b1 0 none).add 1) = some (.int .i64 N2) ∧
          ifB (N2 == (1 : Int)) (
            K (.string (bs [116, 114, 117, 101])) wv2) (
            K (.string (bs [102, 97, 108, 115, 101])) wv2)))))
def An.value_Print : Ann := ⟨[], [], []⟩
theorem R.value_Print {vKind1 : Int} {vN1 : Int} {vS1 : ByteArray} {w : World} {K : Value → World → Prop} (h : C.value_Print vKind1 vN1 vS1 w K) : CallsV prog F.value_Print #[.agg #[.int .i64 vKind1, .int .i64 vN1, .string vS1]] w K :=
  vcFn.calls (an := An.value_Print) mixed tabOK eqsOK Go.Proofs.Tryd.func37 (by kernel_rfl) (by kernel_rfl) (by kernel_rfl) ((by kernel_rfl : vcFn prog eqs tab An.value_Print Go.Proofs.Tryd.f37 [.agg #[.int .i64 vKind1, .int .i64 vN1, .string vS1]] w K = C.value_Print vKind1 vN1 vS1 w K).mpr h)

/-- afflux/value.Spread -/
def C.value_Spread (vKind1 : Int) (vN1 : Int) (vS1 : ByteArray) (n1 : Int) (w : World) (K : Value → World → Prop) : Prop :=
  ∀ b1 wv1, New w (.cells #[.int .i64 vKind1, .int .i64 vN1, .string vS1] T.api_Value) b1 wv1 →
  ifB (decide (n1 < (1 : Int))) (
    K (.int .i64 0) wv1) (
    ∃ (N1 : Int),
    wv1.cell? ((Addr.mk b1 0 none).add 1) = some (.int .i64 N1) ∧
    ∃ (Kind1 : Int),
    wv1.cell? ((Addr.mk b1 0 none).add 0) = some (.int .i64 Kind1) ∧
    ifB (Kind1 == (2 : Int)) (
      ∃ (S1 : ByteArray),
      wv1.cell? ((Addr.mk b1 0 none).add 2) = some (.string S1) ∧
      ConvV prog T.string T.s_uint8 (.string S1) wv1 (fun v1 wv2 =>
        ∃ (c1p : Option Addr) (c1n c1c : Nat),
        v1 = .slice c1p c1n c1c ∧
        ∃ (Iv1 : Int → Int → World → Prop) (m1 : Int → Int → World → Nat),
        Iv1 N1 0 wv2 ∧
        ∀ (sum1 : Int) (s211 : Int) wv3, Iv1 sum1 s211 wv3 →
        ifB (decide (s211 < ((c1n : Nat) : Int))) (
          ∃ a1, c1p = some a1 ∧ 0 ≤ s211 ∧ s211 < ((c1n : Nat) : Int) ∧
          ∃ (e1 : Int),
          wv3.cell? (a1.add (s211.toNat * 1)) = some (.int .u8 e1) ∧
          Iv1 (IntKind.i64.wrap (sum1 + (IntKind.i64.wrap ((IntKind.i64.wrap (s211 + (1 : Int))) * (IntKind.i64.wrap e1))))) (IntKind.i64.wrap (s211 + (1 : Int))) wv3 ∧ m1 (IntKind.i64.wrap (sum1 + (IntKind.i64.wrap ((IntKind.i64.wrap (s211 + (1 : Int))) * (IntKind.i64.wrap e1))))) (IntKind.i64.wrap (s211 + (1 : Int))) wv3 < m1 sum1 s211 wv3) (
          CallsV prog F.calc_Mod #[.int .i64 sum1, .int .i64 n1] wv3 (fun v2 wv4 =>
            ∃ (ra1 : Int) (rb1 : Int),
            v2 = .tuple #[.int .i64 ra1, .int .i64 rb1] ∧
            K (.int .i64 ra1) wv4)))) (
      CallsV prog F.calc_Mod #[.int .i64 N1, .int .i64 n1] wv1 (fun v3 wv5 =>
        ∃ (ra2 : Int) (rb2 : Int),
        v3 = .tuple #[.int .i64 ra2, .int .i64 rb2] ∧
        K (.int .i64 ra2) wv5)))
def An.value_Spread : Ann := ⟨[], [(6, [(5, 2), (21, 3)], [1, 19, 20])], []⟩
theorem R.value_Spread {vKind1 : Int} {vN1 : Int} {vS1 : ByteArray} {n1 : Int} {w : World} {K : Value → World → Prop} (h : C.value_Spread vKind1 vN1 vS1 n1 w K) : CallsV prog F.value_Spread #[.agg #[.int .i64 vKind1, .int .i64 vN1, .string vS1], .int .i64 n1] w K :=
  vcFn.calls (an := An.value_Spread) mixed tabOK eqsOK Go.Proofs.Tryd.func38 (by kernel_rfl) (by kernel_rfl) (by kernel_rfl) ((by kernel_rfl : vcFn prog eqs tab An.value_Spread Go.Proofs.Tryd.f38 [.agg #[.int .i64 vKind1, .int .i64 vN1, .string vS1], .int .i64 n1] w K = C.value_Spread vKind1 vN1 vS1 n1 w K).mpr h)

/-- afflux/affluxref02.Spread -/
def C.affluxref02_Spread (vKind1 : Int) (vN1 : Int) (vS1 : ByteArray) (n1 : Int) (w : World) (K : Value → World → Prop) : Prop :=
  ∀ b1 wv1, New w (.cells #[.int .i64 vKind1, .int .i64 vN1, .string vS1] T.api_Value) b1 wv1 →
  ∃ (N1 : Int),
  wv1.cell? ((Addr.mk b1 0 none).add 1) = some (.int .i64 N1) ∧
  CallsV prog F.affluxref01_Of #[.int .i64 N1] wv1 (fun v1 wv2 =>
    ∃ (rNeg1 : Bool) (rD1p : Option Addr) (rD1n rD1c : Nat),
    v1 = .agg #[.bool rNeg1, .slice rD1p rD1n rD1c] ∧
    ∀ b2 wv3, New wv2 (.cells #[.bool false, .slice none 0 0] T.affluxref01_Num) b2 wv3 →
    CanSt wv3 ((Addr.mk b2 0 none).add 0) ∧ ∀ wv4, wv4 = wv3.setCell ((Addr.mk b2 0 none).add 0) (.bool rNeg1) →
    CanSt wv4 ((Addr.mk b2 0 none).add 1) ∧ ∀ wv5, wv5 = wv4.setCell ((Addr.mk b2 0 none).add 1) (.slice rD1p rD1n rD1c) →
    ∃ (Iv1 : Int → World → Prop) (m1 : Int → World → Nat),
    Iv1 0 wv5 ∧
    ∀ (i1 : Int) wv6, Iv1 i1 wv6 →
    ∃ (S1 : ByteArray),
    wv6.cell? ((Addr.mk b1 0 none).add 2) = some (.string S1) ∧
    ifB (decide (i1 < ((S1.size : Nat) : Int))) (
      ∃ (Kind1 : Int),
      wv6.cell? ((Addr.mk b1 0 none).add 0) = some (.int .i64 Kind1) ∧
      ifB (Kind1 == (2 : Int)) (
        ∃ (xNeg1 : Bool) (xD1p : Option Addr) (xD1n xD1c : Nat),
        cellsAt wv6.drew (Addr.mk b2 0 none) 0 [.bool xNeg1, .slice xD1p xD1n xD1c] ∧
        ∃ (S2 : ByteArray),
        wv6.drew.cell? ((Addr.mk b1 0 none).add 2) = some (.string S2) ∧
        0 ≤ i1 ∧ i1 < ((S2.size : Nat) : Int) ∧
        CallsV prog F.affluxref01_Of #[.int .i64 (IntKind.i64.wrap ((IntKind.i64.wrap (i1 + (1 : Int))) * (IntKind.i64.wrap (bt S2 i1))))] wv6.drew (fun v2 wv7 =>
          ∃ (rNeg2 : Bool) (rD2p : Option Addr) (rD2n rD2c : Nat),
          v2 = .agg #[.bool rNeg2, .slice rD2p rD2n rD2c] ∧
          cellsAt wv7 (Addr.mk b2 0 none) 0 [.bool xNeg1, .slice xD1p xD1n xD1c] ∧
          CallsV prog F.affluxref01_Plus #[.agg #[.bool xNeg1, .slice xD1p xD1n xD1c], .agg #[.bool rNeg2, .slice rD2p rD2n rD2c]] wv7 (fun v3 wv8 =>
            ∃ (rNeg3 : Bool) (rD3p : Option Addr) (rD3n rD3c : Nat),
            v3 = .agg #[.bool rNeg3, .slice rD3p rD3n rD3c] ∧
            CanSt wv8 ((Addr.mk b2 0 none).add 0) ∧ ∀ wv9, wv9 = wv8.setCell ((Addr.mk b2 0 none).add 0) (.bool rNeg3) →
            CanSt wv9 ((Addr.mk b2 0 none).add 1) ∧ ∀ wv10, wv10 = wv9.setCell ((Addr.mk b2 0 none).add 1) (.slice rD3p rD3n rD3c) →
            Iv1 (IntKind.i64.wrap (i1 + (1 : Int))) wv10 ∧ m1 (IntKind.i64.wrap (i1 + (1 : Int))) wv10 < m1 i1 wv6))) (
        ∃ (D1p : Option Addr) (D1n D1c : Nat),
        wv6.cell? ((Addr.mk b2 0 none).add 1) = some (.slice D1p D1n D1c) ∧
        ∃ (Iv2 : Int → Int → World → Prop) (m2 : Int → Int → World → Nat),
        Iv2 0 (IntKind.i64.wrap (((D1n : Nat) : Int) - (1 : Int))) wv6 ∧
        ∀ (left1 : Int) (i2 : Int) wv11, Iv2 left1 i2 wv11 →
        ifB (decide ((0 : Int) ≤ i2)) (
          ∃ (D2p : Option Addr) (D2n D2c : Nat),
          wv11.cell? ((Addr.mk b2 0 none).add 1) = some (.slice D2p D2n D2c) ∧
          ∃ a1, D2p = some a1 ∧ 0 ≤ i2 ∧ i2 < ((D2n : Nat) : Int) ∧
          ∃ (e1 : Int),
          wv11.cell? (a1.add (i2.toNat * 1)) = some (.int .i64 e1) ∧
          n1 ≠ 0 ∧
          Iv2 (Int.tmod (IntKind.i64.wrap ((IntKind.i64.wrap ((10 : Int) * left1)) + e1)) n1) (IntKind.i64.wrap (i2 - (1 : Int))) wv11 ∧ m2 (Int.tmod (IntKind.i64.wrap ((IntKind.i64.wrap ((10 : Int) * left1)) + e1)) n1) (IntKind.i64.wrap (i2 - (1 : Int))) wv11 < m2 left1 i2 wv11) (
          ∃ (Neg1 : Bool),
          wv11.cell? ((Addr.mk b2 0 none).add 0) = some (.bool Neg1) ∧
          ifB Neg1 (
            ifB (decide ((0 : Int) < left1)) (
              K (.int .i64 (IntKind.i64.wrap (n1 - left1))) wv11) (
              K (.int .i64 left1) wv11)) (
            K (.int .i64 left1) wv11)))) (
      ∃ (D3p : Option Addr) (D3n D3c : Nat),
      wv6.cell? ((Addr.mk b2 0 none).add 1) = some (.slice D3p D3n D3c) ∧
      ∃ (Iv3 : Int → Int → World → Prop) (m3 : Int → Int → World → Nat),
      Iv3 0 (IntKind.i64.wrap (((D3n : Nat) : Int) - (1 : Int))) wv6 ∧
      ∀ (left2 : Int) (i3 : Int) wv12, Iv3 left2 i3 wv12 →
      ifB (decide ((0 : Int) ≤ i3)) (
        ∃ (D4p : Option Addr) (D4n D4c : Nat),
        wv12.cell? ((Addr.mk b2 0 none).add 1) = some (.slice D4p D4n D4c) ∧
        ∃ a2, D4p = some a2 ∧ 0 ≤ i3 ∧ i3 < ((D4n : Nat) : Int) ∧
        ∃ (e2 : Int),
        wv12.cell? (a2.add (i3.toNat * 1)) = some (.int .i64 e2) ∧
        n1 ≠ 0 ∧
        Iv3 (Int.tmod (IntKind.i64.wrap ((IntKind.i64.wrap ((10 : Int) * left2)) + e2)) n1) (IntKind.i64.wrap (i3 - (1 : Int))) wv12 ∧ m3 (Int.tmod (IntKind.i64.wrap ((IntKind.i64.wrap ((10 : Int) * left2)) + e2)) n1) (IntKind.i64.wrap (i3 - (1 : Int))) wv12 < m3 left2 i3 wv12) (
        ∃ (Neg2 : Bool),
        wv12.cell? ((Addr.mk b2 0 none).add 0) = some (.bool Neg2) ∧
        ifB Neg2 (
          ifB (decide ((0 : Int) < left2)) (
            K (.int .i64 (IntKind.i64.wrap (n1 - left2))) wv12) (
            K (.int .i64 left2) wv12)) (
          K (.int .i64 left2) wv12))))
def An.affluxref02_Spread : Ann := ⟨[(5, .sil 0 [9] (.sil 1 [] (.sil 2 [] (.sil 3 [] (.sil 4 [] (.sil 5 [] (.sil 6 [] (.sil 7 [] (.sil 8 [] (.act 9 (.act 10 (.act 11 (.done)))))))))))))], [(3, [(6, 3)], [1, 2, 5]), (8, [(7, 3), (8, 3)], [1, 5])], []⟩
theorem R.affluxref02_Spread {vKind1 : Int} {vN1 : Int} {vS1 : ByteArray} {n1 : Int} {w : World} {K : Value → World → Prop} (h : C.affluxref02_Spread vKind1 vN1 vS1 n1 w K) : CallsV prog F.affluxref02_Spread #[.agg #[.int .i64 vKind1, .int .i64 vN1, .string vS1], .int .i64 n1] w K :=
  vcFn.calls (an := An.affluxref02_Spread) mixed tabOK eqsOK Go.Proofs.Tryd.func39 (by kernel_rfl) (by kernel_rfl) (by kernel_rfl) ((by kernel_rfl : vcFn prog eqs tab An.affluxref02_Spread Go.Proofs.Tryd.f39 [.agg #[.int .i64 vKind1, .int .i64 vN1, .string vS1], .int .i64 n1] w K = C.affluxref02_Spread vKind1 vN1 vS1 n1 w K).mpr h)

/-- afflux/affluxref02.Print -/
def C.affluxref02_Print (vKind1 : Int) (vN1 : Int) (vS1 : ByteArray) (w : World) (K : Value → World → Prop) : Prop :=
  ∀ b1 wv1, New w (.cells #[.int .i64 vKind1, .int .i64 vN1, .string vS1] T.api_Value) b1 wv1 →
  ∃ (Kind1 : Int),
  wv1.cell? ((Addr.mk b1 0 none).add 0) = some (.int .i64 Kind1) ∧
  ifB (Kind1 == (1 : Int)) (
    ∃ (N1 : Int),
    wv1.cell? ((Addr.mk b1 0 none).add 1) = some (.int .i64 N1) ∧
    CallsV prog F.affluxref01_Print #[.int .i64 N1] wv1 (fun v1 wv2 =>
      ∃ (r1 : ByteArray),
      v1 = .string r1 ∧
      K (.string r1) wv2)) (
    ∃ (Kind2 : Int),
    wv1.cell? ((Addr.mk b1 0 none).add 0) = some (.int .i64 Kind2) ∧
    ifB (Kind2 == (3 : Int)) (
      ∃ (N2 : Int),
      wv1.cell? ((Addr.mk b1 0 none).add 1) = some (.int .i64 N2) ∧
      ifB (N2 == (1 : Int)) (
        K (.string (bs [116, 114, 117, 101])) wv1) (
        ∃ (Kind3 : Int),
        wv1.cell? ((Addr.mk b1 0 none).add 0) = some (.int .i64 Kind3) ∧
        ifB (Kind3 == (3 : Int)) (
          K (.string (bs [102, 97, 108, 115, 101])) wv1) (
          ∃ (Iv1 : ByteArray → Int → World → Prop) (m1 : ByteArray → Int → World → Nat),
          Iv1 (bs [39]) 0 wv1 ∧
          ∀ (s1 : ByteArray) (i1 : Int) wv3, Iv1 s1 i1 wv3 →
          ∃ (S1 : ByteArray),
          wv3.cell? ((Addr.mk b1 0 none).add 2) = some (.string S1) ∧
          ifB (decide (i1 < ((S1.size : Nat) : Int))) (
            ∃ (S2 : ByteArray),
            wv3.cell? ((Addr.mk b1 0 none).add 2) = some (.string S2) ∧
            0 ≤ IntKind.i64.wrap (i1 + (1 : Int)) ∧ IntKind.i64.wrap (i1 + (1 : Int)) ≤ ((S2.size : Nat) : Int) ∧
            0 ≤ i1 ∧ i1 ≤ (((IntKind.i64.wrap (i1 + (1 : Int))).toNat : Nat) : Int) ∧
            s1.size + (S2.extract i1.toNat ((IntKind.i64.wrap (i1 + (1 : Int))).toNat)).size ≤ 9223372036854775807 ∧
            ∃ (S3 : ByteArray),
            wv3.cell? ((Addr.mk b1 0 none).add 2) = some (.string S3) ∧
            0 ≤ i1 ∧ i1 < ((S3.size : Nat) : Int) ∧
            ifB ((bt S3 i1) == (39 : Int)) (
              (s1 ++ (S2.extract i1.toNat ((IntKind.i64.wrap (i1 + (1 : Int))).toNat))).size + (bs [39]).size ≤ 9223372036854775807 ∧
              Iv1 ((s1 ++ (S2.extract i1.toNat ((IntKind.i64.wrap (i1 + (1 : Int))).toNat))) ++ (bs [39])) (IntKind.i64.wrap (i1 + (1 : Int))) wv3 ∧ m1 ((s1 ++ (S2.extract i1.toNat ((IntKind.i64.wrap (i1 + (1 : Int))).toNat))) ++ (bs [39])) (IntKind.i64.wrap (i1 + (1 : Int))) wv3 < m1 s1 i1 wv3) (
              Iv1 (s1 ++ (S2.extract i1.toNat ((IntKind.i64.wrap (i1 + (1 : Int))).toNat))) (IntKind.i64.wrap (i1 + (1 : Int))) wv3 ∧ m1 (s1 ++ (S2.extract i1.toNat ((IntKind.i64.wrap (i1 + (1 : Int))).toNat))) (IntKind.i64.wrap (i1 + (1 : Int))) wv3 < m1 s1 i1 wv3)) (
            s1.size + (bs [39]).size ≤ 9223372036854775807 ∧
            K (.string (s1 ++ (bs [39]))) wv3)))) (
      ∃ (Kind4 : Int),
      wv1.cell? ((Addr.mk b1 0 none).add 0) = some (.int .i64 Kind4) ∧
      ifB (Kind4 == (3 : Int)) (
        K (.string (bs [102, 97, 108, 115, 101])) wv1) (
        ∃ (Iv2 : ByteArray → Int → World → Prop) (m2 : ByteArray → Int → World → Nat),
        Iv2 (bs [39]) 0 wv1 ∧
        ∀ (s2 : ByteArray) (i2 : Int) wv4, Iv2 s2 i2 wv4 →
        ∃ (S4 : ByteArray),
        wv4.cell? ((Addr.mk b1 0 none).add 2) = some (.string S4) ∧
        ifB (decide (i2 < ((S4.size : Nat) : Int))) (
          ∃ (S5 : ByteArray),
          wv4.cell? ((Addr.mk b1 0 none).add 2) = some (.string S5) ∧
          0 ≤ IntKind.i64.wrap (i2 + (1 : Int)) ∧ IntKind.i64.wrap (i2 + (1 : Int)) ≤ ((S5.size : Nat) : Int) ∧
          0 ≤ i2 ∧ i2 ≤ (((IntKind.i64.wrap (i2 + (1 : Int))).toNat : Nat) : Int) ∧
          s2.size + (S5.extract i2.toNat ((IntKind.i64.wrap (i2 + (1 : Int))).toNat)).size ≤ 9223372036854775807 ∧
          ∃ (S6 : ByteArray),
          wv4.cell? ((Addr.mk b1 0 none).add 2) = some (.string S6) ∧
          0 ≤ i2 ∧ i2 < ((S6.size : Nat) : Int) ∧
          ifB ((bt S6 i2) == (39 : Int)) (
            (s2 ++ (S5.extract i2.toNat ((IntKind.i64.wrap (i2 + (1 : Int))).toNat))).size + (bs [39]).size ≤ 9223372036854775807 ∧
            Iv2 ((s2 ++ (S5.extract i2.toNat ((IntKind.i64.wrap (i2 + (1 : Int))).toNat))) ++ (bs [39])) (IntKind.i64.wrap (i2 + (1 : Int))) wv4 ∧ m2 ((s2 ++ (S5.extract i2.toNat ((IntKind.i64.wrap (i2 + (1 : Int))).toNat))) ++ (bs [39])) (IntKind.i64.wrap (i2 + (1 : Int))) wv4 < m2 s2 i2 wv4) (
            Iv2 (s2 ++ (S5.extract i2.toNat ((IntKind.i64.wrap (i2 + (1 : Int))).toNat))) (IntKind.i64.wrap (i2 + (1 : Int))) wv4 ∧ m2 (s2 ++ (S5.extract i2.toNat ((IntKind.i64.wrap (i2 + (1 : Int))).toNat))) (IntKind.i64.wrap (i2 + (1 : Int))) wv4 < m2 s2 i2 wv4)) (
          s2.size + (bs [39]).size ≤ 9223372036854775807 ∧
          K (.string (s2 ++ (bs [39]))) wv4))))
def An.affluxref02_Print : Ann := ⟨[], [(9, [(3, 9), (4, 3)], [1])], []⟩
theorem R.affluxref02_Print {vKind1 : Int} {vN1 : Int} {vS1 : ByteArray} {w : World} {K : Value → World → Prop} (h : C.affluxref02_Print vKind1 vN1 vS1 w K) : CallsV prog F.affluxref02_Print #[.agg #[.int .i64 vKind1, .int .i64 vN1, .string vS1]] w K :=
  vcFn.calls (an := An.affluxref02_Print) mixed tabOK eqsOK Go.Proofs.Tryd.func40 (by kernel_rfl) (by kernel_rfl) (by kernel_rfl) ((by kernel_rfl : vcFn prog eqs tab An.affluxref02_Print Go.Proofs.Tryd.f40 [.agg #[.int .i64 vKind1, .int .i64 vN1, .string vS1]] w K = C.affluxref02_Print vKind1 vN1 vS1 w K).mpr h)

/-- afflux/affluxref02.Parse -/
def C.affluxref02_Parse (s1 : ByteArray) (w : World) (K : Value → World → Prop) : Prop :=
  ∀ b1 wv1, New w (.cells #[.int .i64 0, .int .i64 0, .string (bs [])] T.api_Value) b1 wv1 →
  ∀ b2 wv2, New wv1 (.cells #[.int .i64 0, .int .i64 0, .string (bs [])] T.api_Value) b2 wv2 →
  CanSt wv2 ((Addr.mk b2 0 none).add 0) ∧ ∀ wv3, wv3 = wv2.setCell ((Addr.mk b2 0 none).add 0) (.int .i64 3) →
  CanSt wv3 ((Addr.mk b2 0 none).add 1) ∧ ∀ wv4, wv4 = wv3.setCell ((Addr.mk b2 0 none).add 1) (.int .i64 0) →
  CanSt wv4 ((Addr.mk b2 0 none).add 2) ∧ ∀ wv5, wv5 = wv4.setCell ((Addr.mk b2 0 none).add 2) (.string (bs [])) →
  ∃ Jv1 : World → Prop,
  (ifB (sEq s1 (bs [116, 114, 117, 101])) (
    CanSt wv5 ((Addr.mk b2 0 none).add 1) ∧ ∀ wv6, wv6 = wv5.setCell ((Addr.mk b2 0 none).add 1) (.int .i64 1) →
    Jv1 wv6) (
    ifB (sEq s1 (bs [102, 97, 108, 115, 101])) (
      Jv1 wv5) (
      ifB (decide ((0 : Int) < ((s1.size : Nat) : Int))) (
        0 ≤ (0 : Int) ∧ (0 : Int) < ((s1.size : Nat) : Int) ∧
        ifB ((bt s1 (0 : Int)) == (39 : Int)) (
          CanSt wv5 ((Addr.mk b2 0 none).add 0) ∧ ∀ wv7, wv7 = wv5.setCell ((Addr.mk b2 0 none).add 0) (.int .i64 2) →
          ∃ (Iv1 : Option Addr → Nat → Nat → Int → World → Prop) (m1 : Option Addr → Nat → Nat → Int → World → Nat),
          Iv1 none 0 0 1 wv7 ∧
          ∀ (b3p : Option Addr) (b3n b3c : Nat) (i1 : Int) wv8, Iv1 b3p b3n b3c i1 wv8 →
          ifB (decide ((IntKind.i64.wrap (i1 + (1 : Int))) < ((s1.size : Nat) : Int))) (
            0 ≤ i1 ∧ i1 < ((s1.size : Nat) : Int) ∧
            ∀ b4 wv9, New wv8 (.cells #[.int .u8 (bt s1 i1)] T.uint8) b4 wv9 →
            BuiltV prog .append #[T.s_uint8, T.s_uint8] T.s_uint8 #[.slice b3p b3n b3c, .slice (some (Addr.mk b4 0 none)) 1 1] wv9 (fun v1 wv10 =>
              ∃ (a1p : Option Addr) (a1n a1c : Nat),
              v1 = .slice a1p a1n a1c ∧
              0 ≤ i1 ∧ i1 < ((s1.size : Nat) : Int) ∧
              ifB ((bt s1 i1) == (39 : Int)) (
                Iv1 a1p a1n a1c (IntKind.i64.wrap ((IntKind.i64.wrap (i1 + (1 : Int))) + (1 : Int))) wv10 ∧ m1 a1p a1n a1c (IntKind.i64.wrap ((IntKind.i64.wrap (i1 + (1 : Int))) + (1 : Int))) wv10 < m1 b3p b3n b3c i1 wv8) (
                Iv1 a1p a1n a1c (IntKind.i64.wrap (i1 + (1 : Int))) wv10 ∧ m1 a1p a1n a1c (IntKind.i64.wrap (i1 + (1 : Int))) wv10 < m1 b3p b3n b3c i1 wv8))) (
            ConvV prog T.s_uint8 T.string (.slice b3p b3n b3c) wv8 (fun v2 wv11 =>
              ∃ (c1 : ByteArray),
              v2 = .string c1 ∧
              CanSt wv11 ((Addr.mk b2 0 none).add 2) ∧ ∀ wv12, wv12 = wv11.setCell ((Addr.mk b2 0 none).add 2) (.string c1) →
              Jv1 wv12))) (
          CallsV prog F.affluxref01_Parse #[.string s1] wv5 (fun v3 wv13 =>
            ∃ (ra1 : Int) (rb1 : Int),
            v3 = .tuple #[.int .i64 ra1, .int .i64 rb1] ∧
            CanSt wv13 ((Addr.mk b2 0 none).add 0) ∧ ∀ wv14, wv14 = wv13.setCell ((Addr.mk b2 0 none).add 0) (.int .i64 1) →
            CanSt wv14 ((Addr.mk b2 0 none).add 1) ∧ ∀ wv15, wv15 = wv14.setCell ((Addr.mk b2 0 none).add 1) (.int .i64 ra1) →
            CanSt wv15 ((Addr.mk b2 0 none).add 2) ∧ ∀ wv16, wv16 = wv15.setCell ((Addr.mk b2 0 none).add 2) (.string (bs [])) →
            ifB (rb1 != (0 : Int)) (
              CanSt wv16 ((Addr.mk b1 0 none).add 0) ∧ ∀ wv17, wv17 = wv16.setCell ((Addr.mk b1 0 none).add 0) (.int .i64 0) →
              CanSt wv17 ((Addr.mk b1 0 none).add 1) ∧ ∀ wv18, wv18 = wv17.setCell ((Addr.mk b1 0 none).add 1) (.int .i64 0) →
              CanSt wv18 ((Addr.mk b1 0 none).add 2) ∧ ∀ wv19, wv19 = wv18.setCell ((Addr.mk b1 0 none).add 2) (.string (bs [])) →
              ∃ (xKind1 : Int) (xN1 : Int) (xS1 : ByteArray),
              cellsAt wv19 (Addr.mk b1 0 none) 0 [.int .i64 xKind1, .int .i64 xN1, .string xS1] ∧
              K (.tuple #[.agg #[.int .i64 xKind1, .int .i64 xN1, .string xS1], .bool false]) wv19) (
              Jv1 wv16)))) (
        CallsV prog F.affluxref01_Parse #[.string s1] wv5 (fun v4 wv20 =>
          ∃ (ra2 : Int) (rb2 : Int),
          v4 = .tuple #[.int .i64 ra2, .int .i64 rb2] ∧
          CanSt wv20 ((Addr.mk b2 0 none).add 0) ∧ ∀ wv21, wv21 = wv20.setCell ((Addr.mk b2 0 none).add 0) (.int .i64 1) →
          CanSt wv21 ((Addr.mk b2 0 none).add 1) ∧ ∀ wv22, wv22 = wv21.setCell ((Addr.mk b2 0 none).add 1) (.int .i64 ra2) →
          CanSt wv22 ((Addr.mk b2 0 none).add 2) ∧ ∀ wv23, wv23 = wv22.setCell ((Addr.mk b2 0 none).add 2) (.string (bs [])) →
          ifB (rb2 != (0 : Int)) (
            CanSt wv23 ((Addr.mk b1 0 none).add 0) ∧ ∀ wv24, wv24 = wv23.setCell ((Addr.mk b1 0 none).add 0) (.int .i64 0) →
            CanSt wv24 ((Addr.mk b1 0 none).add 1) ∧ ∀ wv25, wv25 = wv24.setCell ((Addr.mk b1 0 none).add 1) (.int .i64 0) →
            CanSt wv25 ((Addr.mk b1 0 none).add 2) ∧ ∀ wv26, wv26 = wv25.setCell ((Addr.mk b1 0 none).add 2) (.string (bs [])) →
            ∃ (xKind2 : Int) (xN2 : Int) (xS2 : ByteArray),
            cellsAt wv26 (Addr.mk b1 0 none) 0 [.int .i64 xKind2, .int .i64 xN2, .string xS2] ∧
            K (.tuple #[.agg #[.int .i64 xKind2, .int .i64 xN2, .string xS2], .bool false]) wv26) (
            Jv1 wv23)))))) ∧
  (∀ wv27, Jv1 wv27 →
  ∃ (xKind3 : Int) (xN3 : Int) (xS3 : ByteArray),
  cellsAt wv27 (Addr.mk b2 0 none) 0 [.int .i64 xKind3, .int .i64 xN3, .string xS3] ∧
  CallsV prog F.affluxref02_Right #[.agg #[.int .i64 xKind3, .int .i64 xN3, .string xS3]] wv27 (fun v5 wv28 =>
    ∃ (r1 : Bool),
    v5 = .bool r1 ∧
    ifB (!r1) (
      CanSt wv28 ((Addr.mk b1 0 none).add 0) ∧ ∀ wv29, wv29 = wv28.setCell ((Addr.mk b1 0 none).add 0) (.int .i64 0) →
      CanSt wv29 ((Addr.mk b1 0 none).add 1) ∧ ∀ wv30, wv30 = wv29.setCell ((Addr.mk b1 0 none).add 1) (.int .i64 0) →
      CanSt wv30 ((Addr.mk b1 0 none).add 2) ∧ ∀ wv31, wv31 = wv30.setCell ((Addr.mk b1 0 none).add 2) (.string (bs [])) →
      ∃ (xKind4 : Int) (xN4 : Int) (xS4 : ByteArray),
      cellsAt wv31 (Addr.mk b1 0 none) 0 [.int .i64 xKind4, .int .i64 xN4, .string xS4] ∧
      K (.tuple #[.agg #[.int .i64 xKind4, .int .i64 xN4, .string xS4], .bool false]) wv31) (
      ∃ (xKind5 : Int) (xN5 : Int) (xS5 : ByteArray),
      cellsAt wv28 (Addr.mk b2 0 none) 0 [.int .i64 xKind5, .int .i64 xN5, .string xS5] ∧
      CallsV prog F.affluxref02_Print #[.agg #[.int .i64 xKind5, .int .i64 xN5, .string xS5]] wv28 (fun v6 wv32 =>
        ∃ (r2 : ByteArray),
        v6 = .string r2 ∧
        ifB (!sEq r2 s1) (
          CanSt wv32 ((Addr.mk b1 0 none).add 0) ∧ ∀ wv33, wv33 = wv32.setCell ((Addr.mk b1 0 none).add 0) (.int .i64 0) →
          CanSt wv33 ((Addr.mk b1 0 none).add 1) ∧ ∀ wv34, wv34 = wv33.setCell ((Addr.mk b1 0 none).add 1) (.int .i64 0) →
          CanSt wv34 ((Addr.mk b1 0 none).add 2) ∧ ∀ wv35, wv35 = wv34.setCell ((Addr.mk b1 0 none).add 2) (.string (bs [])) →
          ∃ (xKind6 : Int) (xN6 : Int) (xS6 : ByteArray),
          cellsAt wv35 (Addr.mk b1 0 none) 0 [.int .i64 xKind6, .int .i64 xN6, .string xS6] ∧
          K (.tuple #[.agg #[.int .i64 xKind6, .int .i64 xN6, .string xS6], .bool false]) wv35) (
          ∃ (xKind7 : Int) (xN7 : Int) (xS7 : ByteArray),
          cellsAt wv32 (Addr.mk b2 0 none) 0 [.int .i64 xKind7, .int .i64 xN7, .string xS7] ∧
          CanSt wv32 ((Addr.mk b1 0 none).add 0) ∧ ∀ wv36, wv36 = wv32.setCell ((Addr.mk b1 0 none).add 0) (.int .i64 xKind7) →
          CanSt wv36 ((Addr.mk b1 0 none).add 1) ∧ ∀ wv37, wv37 = wv36.setCell ((Addr.mk b1 0 none).add 1) (.int .i64 xN7) →
          CanSt wv37 ((Addr.mk b1 0 none).add 2) ∧ ∀ wv38, wv38 = wv37.setCell ((Addr.mk b1 0 none).add 2) (.string xS7) →
          ∃ (xKind8 : Int) (xN8 : Int) (xS8 : ByteArray),
          cellsAt wv38 (Addr.mk b1 0 none) 0 [.int .i64 xKind8, .int .i64 xN8, .string xS8] ∧
          K (.tuple #[.agg #[.int .i64 xKind8, .int .i64 xN8, .string xS8], .bool true]) wv38)))))
def An.affluxref02_Parse : Ann := ⟨[], [(13, [(5, 92), (6, 3)], [0, 2, 4])], [(19, [], [0, 2, 4])]⟩
theorem R.affluxref02_Parse {s1 : ByteArray} {w : World} {K : Value → World → Prop} (h : C.affluxref02_Parse s1 w K) : CallsV prog F.affluxref02_Parse #[.string s1] w K :=
  vcFn.calls (an := An.affluxref02_Parse) mixed tabOK eqsOK Go.Proofs.Tryd.func41 (by kernel_rfl) (by kernel_rfl) (by kernel_rfl) ((by kernel_rfl : vcFn prog eqs tab An.affluxref02_Parse Go.Proofs.Tryd.f41 [.string s1] w K = C.affluxref02_Parse s1 w K).mpr h)

/-- afflux/value.Line -/
def C.value_Line (l1p : Option Addr) (l1n l1c : Nat) (w : World) (K : Value → World → Prop) : Prop :=
  MakeV prog T.s_string (.int .i64 ((l1n : Nat) : Int)) (.int .i64 ((l1n : Nat) : Int)) w (fun v1 wv1 =>
    ∃ (m1p : Option Addr) (m1n m1c : Nat),
    v1 = .slice m1p m1n m1c ∧
    ∃ (Iv1 : Int → World → Prop) (m2 : Int → World → Nat),
    Iv1 0 wv1 ∧
    ∀ (s111 : Int) wv2, Iv1 s111 wv2 →
    ifB (decide (s111 < ((l1n : Nat) : Int))) (
      ∃ a1, l1p = some a1 ∧ 0 ≤ s111 ∧ s111 < ((l1n : Nat) : Int) ∧
      ∃ (eKind1 : Int) (eN1 : Int) (eS1 : ByteArray),
      cellsAt wv2 (a1.add (s111.toNat * 3)) 0 [.int .i64 eKind1, .int .i64 eN1, .string eS1] ∧
      ∀ b1 wv3, New wv2 (.cells #[.int .i64 0, .int .i64 0, .string (bs [])] T.api_Value) b1 wv3 →
      CanSt wv3 ((Addr.mk b1 0 none).add 0) ∧ ∀ wv4, wv4 = wv3.setCell ((Addr.mk b1 0 none).add 0) (.int .i64 eKind1) →
      CanSt wv4 ((Addr.mk b1 0 none).add 1) ∧ ∀ wv5, wv5 = wv4.setCell ((Addr.mk b1 0 none).add 1) (.int .i64 eN1) →
      CanSt wv5 ((Addr.mk b1 0 none).add 2) ∧ ∀ wv6, wv6 = wv5.setCell ((Addr.mk b1 0 none).add 2) (.string eS1) →
      ∃ (xKind1 : Int) (xN1 : Int) (xS1 : ByteArray),
      cellsAt wv6 (Addr.mk b1 0 none) 0 [.int .i64 xKind1, .int .i64 xN1, .string xS1] ∧
      CallsV prog F.value_Print #[.agg #[.int .i64 xKind1, .int .i64 xN1, .string xS1]] wv6 (fun v2 wv7 =>
        ∃ (r1 : ByteArray),
        v2 = .string r1 ∧
        ∃ a2, m1p = some a2 ∧ 0 ≤ s111 ∧ s111 < ((m1n : Nat) : Int) ∧
        CanSt wv7 (a2.add (s111.toNat * 1)) ∧ ∀ wv8, wv8 = wv7.setCell (a2.add (s111.toNat * 1)) (.string r1) →
        Iv1 (IntKind.i64.wrap (s111 + (1 : Int))) wv8 ∧ m2 (IntKind.i64.wrap (s111 + (1 : Int))) wv8 < m2 s111 wv2)) (
      CallsV prog F.strings_Join #[.slice m1p m1n m1c, .string (bs [44, 32])] wv2 (fun v3 wv9 =>
        ∃ (r2 : ByteArray),
        v3 = .string r2 ∧
        K (.string r2) wv9)))
def An.value_Line : Ann := ⟨[], [(3, [(11, 3)], [3, 9, 10])], []⟩
theorem R.value_Line {l1p : Option Addr} {l1n l1c : Nat} {w : World} {K : Value → World → Prop} (h : C.value_Line l1p l1n l1c w K) : CallsV prog F.value_Line #[.slice l1p l1n l1c] w K :=
  vcFn.calls (an := An.value_Line) mixed tabOK eqsOK Go.Proofs.Tryd.func42 (by kernel_rfl) (by kernel_rfl) (by kernel_rfl) ((by kernel_rfl : vcFn prog eqs tab An.value_Line Go.Proofs.Tryd.f42 [.slice l1p l1n l1c] w K = C.value_Line l1p l1n l1c w K).mpr h)

/-- afflux/schema.Copy -/
def C.schema_Copy (sName1 : ByteArray) (sCols1p : Option Addr) (sCols1n sCols1c : Nat) (sIndexes1p : Option Addr) (sIndexes1n sIndexes1c : Nat) (sLimit1 : Int) (sParts1 : Int) (sBy1 : Int) (w : World) (K : Value → World → Prop) : Prop :=
  ∀ b1 wv1, New w (.cells #[.string sName1, .slice sCols1p sCols1n sCols1c, .slice sIndexes1p sIndexes1n sIndexes1c, .int .i64 sLimit1, .int .i64 sParts1, .int .i64 sBy1] T.api_Schema) b1 wv1 →
  ∀ b2 wv2, New wv1 (.cells #[.string (bs []), .slice none 0 0, .slice none 0 0, .int .i64 0, .int .i64 0, .int .i64 0] T.api_Schema) b2 wv2 →
  ∃ (Cols1p : Option Addr) (Cols1n Cols1c : Nat),
  wv2.cell? ((Addr.mk b1 0 none).add 1) = some (.slice Cols1p Cols1n Cols1c) ∧
  CallsV prog F.slices_Clone_api_Column_api_Column #[.slice Cols1p Cols1n Cols1c] wv2 (fun v1 wv3 =>
    ∃ (r1p : Option Addr) (r1n r1c : Nat),
    v1 = .slice r1p r1n r1c ∧
    CanSt wv3 ((Addr.mk b1 0 none).add 1) ∧ ∀ wv4, wv4 = wv3.setCell ((Addr.mk b1 0 none).add 1) (.slice r1p r1n r1c) →
    ∃ (Indexes1p : Option Addr) (Indexes1n Indexes1c : Nat),
    wv4.cell? ((Addr.mk b1 0 none).add 2) = some (.slice Indexes1p Indexes1n Indexes1c) ∧
    CallsV prog F.slices_Clone_api_Index_api_Index #[.slice Indexes1p Indexes1n Indexes1c] wv4 (fun v2 wv5 =>
      ∃ (r2p : Option Addr) (r2n r2c : Nat),
      v2 = .slice r2p r2n r2c ∧
      CanSt wv5 ((Addr.mk b1 0 none).add 2) ∧ ∀ wv6, wv6 = wv5.setCell ((Addr.mk b1 0 none).add 2) (.slice r2p r2n r2c) →
      ∃ (Indexes2p : Option Addr) (Indexes2n Indexes2c : Nat),
      wv6.cell? ((Addr.mk b1 0 none).add 2) = some (.slice Indexes2p Indexes2n Indexes2c) ∧
      ∃ (Iv1 : Int → World → Prop) (m1 : Int → World → Nat),
      Iv1 0 wv6 ∧
      ∀ (s161 : Int) wv7, Iv1 s161 wv7 →
      ifB (decide (s161 < ((Indexes2n : Nat) : Int))) (
        ∃ a1, Indexes2p = some a1 ∧ 0 ≤ s161 ∧ s161 < ((Indexes2n : Nat) : Int) ∧
        ∃ (eCols1p : Option Addr) (eCols1n eCols1c : Nat) (eUnique1 : Bool),
        cellsAt wv7 (a1.add (s161.toNat * 2)) 0 [.slice eCols1p eCols1n eCols1c, .bool eUnique1] ∧
        ∀ b3 wv8, New wv7 (.cells #[.slice none 0 0, .bool false] T.api_Index) b3 wv8 →
        CanSt wv8 ((Addr.mk b3 0 none).add 0) ∧ ∀ wv9, wv9 = wv8.setCell ((Addr.mk b3 0 none).add 0) (.slice eCols1p eCols1n eCols1c) →
        CanSt wv9 ((Addr.mk b3 0 none).add 1) ∧ ∀ wv10, wv10 = wv9.setCell ((Addr.mk b3 0 none).add 1) (.bool eUnique1) →
        ∃ (Indexes3p : Option Addr) (Indexes3n Indexes3c : Nat),
        wv10.drew.cell? ((Addr.mk b1 0 none).add 2) = some (.slice Indexes3p Indexes3n Indexes3c) ∧
        ∃ (Cols2p : Option Addr) (Cols2n Cols2c : Nat),
        wv10.drew.cell? ((Addr.mk b3 0 none).add 0) = some (.slice Cols2p Cols2n Cols2c) ∧
        CallsV prog F.slices_Clone_int_int #[.slice Cols2p Cols2n Cols2c] wv10.drew (fun v3 wv11 =>
          ∃ (r3p : Option Addr) (r3n r3c : Nat),
          v3 = .slice r3p r3n r3c ∧
          wv11.cell? ((Addr.mk b1 0 none).add 2) = some (.slice Indexes3p Indexes3n Indexes3c) ∧
          ∃ a2, Indexes3p = some a2 ∧ 0 ≤ s161 ∧ s161 < ((Indexes3n : Nat) : Int) ∧
          CanSt wv11 ((a2.add (s161.toNat * 2)).add 0) ∧ ∀ wv12, wv12 = wv11.setCell ((a2.add (s161.toNat * 2)).add 0) (.slice r3p r3n r3c) →
          Iv1 (IntKind.i64.wrap (s161 + (1 : Int))) wv12 ∧ m1 (IntKind.i64.wrap (s161 + (1 : Int))) wv12 < m1 s161 wv7)) (
        ∃ (xName1 : ByteArray) (xCols1p : Option Addr) (xCols1n xCols1c : Nat) (xIndexes1p : Option Addr) (xIndexes1n xIndexes1c : Nat) (xLimit1 : Int) (xParts1 : Int) (xBy1 : Int),
        cellsAt wv7 (Addr.mk b1 0 none) 0 [.string xName1, .slice xCols1p xCols1n xCols1c, .slice xIndexes1p xIndexes1n xIndexes1c, .int .i64 xLimit1, .int .i64 xParts1, .int .i64 xBy1] ∧
        CanSt wv7 ((Addr.mk b2 0 none).add 0) ∧ ∀ wv13, wv13 = wv7.setCell ((Addr.mk b2 0 none).add 0) (.string xName1) →
        CanSt wv13 ((Addr.mk b2 0 none).add 1) ∧ ∀ wv14, wv14 = wv13.setCell ((Addr.mk b2 0 none).add 1) (.slice xCols1p xCols1n xCols1c) →
        CanSt wv14 ((Addr.mk b2 0 none).add 2) ∧ ∀ wv15, wv15 = wv14.setCell ((Addr.mk b2 0 none).add 2) (.slice xIndexes1p xIndexes1n xIndexes1c) →
        CanSt wv15 ((Addr.mk b2 0 none).add 3) ∧ ∀ wv16, wv16 = wv15.setCell ((Addr.mk b2 0 none).add 3) (.int .i64 xLimit1) →
        CanSt wv16 ((Addr.mk b2 0 none).add 4) ∧ ∀ wv17, wv17 = wv16.setCell ((Addr.mk b2 0 none).add 4) (.int .i64 xParts1) →
        CanSt wv17 ((Addr.mk b2 0 none).add 5) ∧ ∀ wv18, wv18 = wv17.setCell ((Addr.mk b2 0 none).add 5) (.int .i64 xBy1) →
        ∃ (xName2 : ByteArray) (xCols2p : Option Addr) (xCols2n xCols2c : Nat) (xIndexes2p : Option Addr) (xIndexes2n xIndexes2c : Nat) (xLimit2 : Int) (xParts2 : Int) (xBy2 : Int),
        cellsAt wv18 (Addr.mk b2 0 none) 0 [.string xName2, .slice xCols2p xCols2n xCols2c, .slice xIndexes2p xIndexes2n xIndexes2c, .int .i64 xLimit2, .int .i64 xParts2, .int .i64 xBy2] ∧
        K (.agg #[.string xName2, .slice xCols2p xCols2n xCols2c, .slice xIndexes2p xIndexes2n xIndexes2c, .int .i64 xLimit2, .int .i64 xParts2, .int .i64 xBy2]) wv18)))
def An.schema_Copy : Ann := ⟨[(6, .sil 0 [] (.sil 1 [5] (.sil 2 [] (.sil 3 [] (.sil 4 [] (.act 5 (.sil 6 [] (.sil 7 [] (.act 8 (.done))))))))))], [(4, [(16, 3)], [1, 2, 14, 15])], []⟩
theorem R.schema_Copy {sName1 : ByteArray} {sCols1p : Option Addr} {sCols1n sCols1c : Nat} {sIndexes1p : Option Addr} {sIndexes1n sIndexes1c : Nat} {sLimit1 : Int} {sParts1 : Int} {sBy1 : Int} {w : World} {K : Value → World → Prop} (h : C.schema_Copy sName1 sCols1p sCols1n sCols1c sIndexes1p sIndexes1n sIndexes1c sLimit1 sParts1 sBy1 w K) : CallsV prog F.schema_Copy #[.agg #[.string sName1, .slice sCols1p sCols1n sCols1c, .slice sIndexes1p sIndexes1n sIndexes1c, .int .i64 sLimit1, .int .i64 sParts1, .int .i64 sBy1]] w K :=
  vcFn.calls (an := An.schema_Copy) mixed tabOK eqsOK Go.Proofs.Tryd.func43 (by kernel_rfl) (by kernel_rfl) (by kernel_rfl) ((by kernel_rfl : vcFn prog eqs tab An.schema_Copy Go.Proofs.Tryd.f43 [.agg #[.string sName1, .slice sCols1p sCols1n sCols1c, .slice sIndexes1p sIndexes1n sIndexes1c, .int .i64 sLimit1, .int .i64 sParts1, .int .i64 sBy1]] w K = C.schema_Copy sName1 sCols1p sCols1n sCols1c sIndexes1p sIndexes1n sIndexes1c sLimit1 sParts1 sBy1 w K).mpr h)

end Go.Proofs.YtjcgociobhhijaaDoor
