/- Verification conditions of functions, and that they are theirs: the kernel reckons both sides. -/
import Derived.Test.YtjcgociobhhijaaNm
namespace Go.Proofs.Ytjcgociobhhijaa
open Go Go.Proofs.Ytjcgociobhhijaa.SX
set_option maxRecDepth 100000
set_option linter.unusedVariables false

/-- afflux/affluxlaw23.QueuePlays -/
def C.affluxlaw23_QueuePlays (room1 : Int) (l1p : Option Addr) (l1n l1c : Nat) (ask1 : Int) (w : World) (K : Value → World → Prop) : Prop :=
  ∃ Jv1 : World → Prop,
  (ifB (decide ((60 : Int) < ((l1n : Nat) : Int))) (
    CallsV prog F.affluxlaw23_awake #[] w (fun v1 wv1 =>
      ∃ (r1 : Bool),
      v1 = .bool r1 ∧
      K (.bool r1) wv1)) (
    CallsV prog F.affluxlaw23_awake #[] w (fun v2 wv2 =>
      ∃ (r2 : Bool),
      v2 = .bool r2 ∧
      ifB (!r2) (
        CallsV prog F.affluxlaw23_awake #[] wv2 (fun v3 wv3 =>
          ∃ (r3 : Bool),
          v3 = .bool r3 ∧
          K (.bool r3) wv3)) (
        Jv1 wv2)))) ∧
  (∀ wv4, Jv1 wv4 →
  CallsV prog F.queue_New_int #[.int .i64 room1] wv4 (fun v4 wv5 =>
    ∃ (r4 : Option Addr),
    v4 = .pointer r4 ∧
    ∃ Jv2 : World → Prop,
    (ifB (decide (room1 < (1 : Int))) (
      K (.bool r4.isNone) wv5) (
      ifB (decide ((10000 : Int) < room1)) (
        K (.bool r4.isNone) wv5) (
        Jv2 wv5))) ∧
    (∀ wv6, Jv2 wv6 →
    ∀ b1 wv7, New wv6 (.cells #[.int .i64 0, .int .i64 0, .int .i64 0, .int .i64 0] T.queue_Tally) b1 wv7 →
    CanSt wv7 ((Addr.mk b1 0 none).add 0) ∧ ∀ wv8, wv8 = wv7.setCell ((Addr.mk b1 0 none).add 0) (.int .i64 0) →
    CanSt wv8 ((Addr.mk b1 0 none).add 1) ∧ ∀ wv9, wv9 = wv8.setCell ((Addr.mk b1 0 none).add 1) (.int .i64 0) →
    CanSt wv9 ((Addr.mk b1 0 none).add 2) ∧ ∀ wv10, wv10 = wv9.setCell ((Addr.mk b1 0 none).add 2) (.int .i64 0) →
    CanSt wv10 ((Addr.mk b1 0 none).add 3) ∧ ∀ wv11, wv11 = wv10.setCell ((Addr.mk b1 0 none).add 3) (.int .i64 0) →
    ∃ (Iv1 : Option Addr → Nat → Nat → Int → World → Prop) (m1 : Option Addr → Nat → Nat → Int → World → Nat),
    Iv1 none 0 0 0 wv11 ∧
    ∀ (now1p : Option Addr) (now1n now1c : Nat) (i1 : Int) wv12, Iv1 now1p now1n now1c i1 wv12 →
    ifB (decide (i1 < ((l1n : Nat) : Int))) (
      ∃ Jv3 : Option Addr → Nat → Nat → World → Prop,
      (∃ a1, l1p = some a1 ∧ 0 ≤ i1 ∧ i1 < ((l1n : Nat) : Int) ∧
      ∃ (Kind1 : Int),
      wv12.cell? ((a1.add (i1.toNat * 3)).add 0) = some (.int .i64 Kind1) ∧
      ifB (Kind1 == (0 : Int)) (
        ∃ a2, l1p = some a2 ∧ 0 ≤ i1 ∧ i1 < ((l1n : Nat) : Int) ∧
        ∃ (L1p : Option Addr) (L1n L1c : Nat),
        wv12.cell? ((a2.add (i1.toNat * 3)).add 2) = some (.slice L1p L1n L1c) ∧
        ifB (decide ((100 : Int) < ((L1n : Nat) : Int))) (
          K (.bool true) wv12) (
          ∃ Jv4 : Option Addr → Nat → Nat → Int → World → Prop,
          (∃ (Iv2 : Option Addr → Nat → Nat → Int → World → Prop) (m2 : Option Addr → Nat → Nat → Int → World → Nat),
          Iv2 now1p now1n now1c 0 wv12 ∧
          ∀ (now2p : Option Addr) (now2n now2c : Nat) (n1 : Int) wv13, Iv2 now2p now2n now2c n1 wv13 →
          ∃ a3, l1p = some a3 ∧ 0 ≤ i1 ∧ i1 < ((l1n : Nat) : Int) ∧
          ∃ (L2p : Option Addr) (L2n L2c : Nat),
          wv13.cell? ((a3.add (i1.toNat * 3)).add 2) = some (.slice L2p L2n L2c) ∧
          ifB (decide (n1 < ((L2n : Nat) : Int))) (
            ifB (decide (((now2n : Nat) : Int) < room1)) (
              ∃ a4, l1p = some a4 ∧ 0 ≤ i1 ∧ i1 < ((l1n : Nat) : Int) ∧
              ∃ (L3p : Option Addr) (L3n L3c : Nat),
              wv13.cell? ((a4.add (i1.toNat * 3)).add 2) = some (.slice L3p L3n L3c) ∧
              ∃ a5, L3p = some a5 ∧ 0 ≤ n1 ∧ n1 < ((L3n : Nat) : Int) ∧
              ∃ (e1 : Int),
              wv13.cell? (a5.add (n1.toNat * 1)) = some (.int .i64 e1) ∧
              ∀ b2 wv14, New wv13 (.cells #[.int .i64 e1] T.int) b2 wv14 →
              BuiltV prog .append #[T.s_int, T.s_int] T.s_int #[.slice now2p now2n now2c, .slice (some (Addr.mk b2 0 none)) 1 1] wv14 (fun v5 wv15 =>
                ∃ (a6p : Option Addr) (a6n a6c : Nat),
                v5 = .slice a6p a6n a6c ∧
                Iv2 a6p a6n a6c (IntKind.i64.wrap (n1 + (1 : Int))) wv15 ∧ m2 a6p a6n a6c (IntKind.i64.wrap (n1 + (1 : Int))) wv15 < m2 now2p now2n now2c n1 wv13)) (
              Jv4 now2p now2n now2c n1 wv13)) (
            Jv4 now2p now2n now2c n1 wv13)) ∧
          (∀ (now3p : Option Addr) (now3n now3c : Nat) (n2 : Int) wv16, Jv4 now3p now3n now3c n2 wv16 →
          ∃ (Came1 : Int),
          wv16.cell? ((Addr.mk b1 0 none).add 0) = some (.int .i64 Came1) ∧
          CanSt wv16 ((Addr.mk b1 0 none).add 0) ∧ ∀ wv17, wv17 = wv16.setCell ((Addr.mk b1 0 none).add 0) (.int .i64 (IntKind.i64.wrap (Came1 + n2))) →
          ∃ (Refused1 : Int),
          wv17.drew.cell? ((Addr.mk b1 0 none).add 2) = some (.int .i64 Refused1) ∧
          ∃ a7, l1p = some a7 ∧ 0 ≤ i1 ∧ i1 < ((l1n : Nat) : Int) ∧
          ∃ (L4p : Option Addr) (L4n L4c : Nat),
          wv17.drew.cell? ((a7.add (i1.toNat * 3)).add 2) = some (.slice L4p L4n L4c) ∧
          CanSt wv17.drew ((Addr.mk b1 0 none).add 2) ∧ ∀ wv18, wv18 = wv17.drew.setCell ((Addr.mk b1 0 none).add 2) (.int .i64 (IntKind.i64.wrap ((IntKind.i64.wrap (Refused1 + ((L4n : Nat) : Int))) - n2))) →
          ∃ (Most1 : Int),
          wv18.cell? ((Addr.mk b1 0 none).add 3) = some (.int .i64 Most1) ∧
          CanSt wv18 ((Addr.mk b1 0 none).add 3) ∧ ∀ wv19, wv19 = wv18.setCell ((Addr.mk b1 0 none).add 3) (.int .i64 (mm2 true Most1 ((now3n : Nat) : Int))) →
          ∃ a8, l1p = some a8 ∧ 0 ≤ i1 ∧ i1 < ((l1n : Nat) : Int) ∧
          ∃ (L5p : Option Addr) (L5n L5c : Nat),
          wv19.cell? ((a8.add (i1.toNat * 3)).add 2) = some (.slice L5p L5n L5c) ∧
          CallsV prog F.queue_Queue_int_Put #[.pointer r4, .slice L5p L5n L5c] wv19 (fun v6 wv20 =>
            ∃ (ra1 : Int) (rb1 : Int),
            v6 = .tuple #[.int .i64 ra1, .int .i64 rb1] ∧
            ifB (ra1 != n2) (
              K (.bool false) wv20) (
              ∃ a9, l1p = some a9 ∧ 0 ≤ i1 ∧ i1 < ((l1n : Nat) : Int) ∧
              ∃ (L6p : Option Addr) (L6n L6c : Nat),
              wv20.cell? ((a9.add (i1.toNat * 3)).add 2) = some (.slice L6p L6n L6c) ∧
              ifB (!((rb1 == (0 : Int)) == (n2 == ((L6n : Nat) : Int)))) (
                K (.bool false) wv20) (
                ifB (rb1 != (0 : Int)) (
                  ifB (rb1 != (18 : Int)) (
                    K (.bool false) wv20) (
                    Jv3 now3p now3n now3c wv20)) (
                  Jv3 now3p now3n now3c wv20))))))) (
        ifB (Kind1 == (1 : Int)) (
          ∃ a10, l1p = some a10 ∧ 0 ≤ i1 ∧ i1 < ((l1n : Nat) : Int) ∧
          ∃ (N1 : Int),
          wv12.cell? ((a10.add (i1.toNat * 3)).add 1) = some (.int .i64 N1) ∧
          ∃ a11, l1p = some a11 ∧ 0 ≤ i1 ∧ i1 < ((l1n : Nat) : Int) ∧
          ∃ (N2 : Int),
          wv12.drew.cell? ((a11.add (i1.toNat * 3)).add 1) = some (.int .i64 N2) ∧
          0 ≤ mm2 false (mm2 true N1 0) ((now1n : Nat) : Int) ∧ mm2 false (mm2 true N1 0) ((now1n : Nat) : Int) ≤ ((now1c : Nat) : Int) ∧
          CallsV prog F.queue_Queue_int_Take #[.pointer r4, .int .i64 N2] wv12.drew (fun v7 wv21 =>
            ∃ (r5p : Option Addr) (r5n r5c : Nat),
            v7 = .slice r5p r5n r5c ∧
            CallsV prog F.affluxlaw23_same #[.slice r5p r5n r5c, .slice (cutAt now1p 0 now1c 1) (((mm2 false (mm2 true N1 0) ((now1n : Nat) : Int)).toNat) - 0) (now1c - 0)] wv21 (fun v8 wv22 =>
              ∃ (r6 : Bool),
              v8 = .bool r6 ∧
              ifB (!r6) (
                K (.bool false) wv22) (
                ∀ b3 wv23, New wv22 (.cells #[] T.int) b3 wv23 →
                0 ≤ mm2 false (mm2 true N1 0) ((now1n : Nat) : Int) ∧ mm2 false (mm2 true N1 0) ((now1n : Nat) : Int) ≤ ((now1n : Nat) : Int) ∧
                BuiltV prog .append #[T.s_int, T.s_int] T.s_int #[.slice (some (Addr.mk b3 0 none)) 0 0, .slice (cutAt now1p ((mm2 false (mm2 true N1 0) ((now1n : Nat) : Int)).toNat) now1c 1) (now1n - ((mm2 false (mm2 true N1 0) ((now1n : Nat) : Int)).toNat)) (now1c - ((mm2 false (mm2 true N1 0) ((now1n : Nat) : Int)).toNat))] wv23 (fun v9 wv24 =>
                  ∃ (a12p : Option Addr) (a12n a12c : Nat),
                  v9 = .slice a12p a12n a12c ∧
                  ∃ (Went1 : Int),
                  wv24.cell? ((Addr.mk b1 0 none).add 1) = some (.int .i64 Went1) ∧
                  CanSt wv24 ((Addr.mk b1 0 none).add 1) ∧ ∀ wv25, wv25 = wv24.setCell ((Addr.mk b1 0 none).add 1) (.int .i64 (IntKind.i64.wrap (Went1 + (mm2 false (mm2 true N1 0) ((now1n : Nat) : Int))))) →
                  Jv3 a12p a12n a12c wv25))))) (
          ∃ a13, l1p = some a13 ∧ 0 ≤ i1 ∧ i1 < ((l1n : Nat) : Int) ∧
          ∃ (N3 : Int),
          wv12.cell? ((a13.add (i1.toNat * 3)).add 1) = some (.int .i64 N3) ∧
          CallsV prog F.queue_Queue_int_Remove #[.pointer r4, .int .i64 N3] wv12 (fun v10 wv26 =>
            ∃ (ra2 : Int) (rb2 : Bool),
            v10 = .tuple #[.int .i64 ra2, .bool rb2] ∧
            ∃ a14, l1p = some a14 ∧ 0 ≤ i1 ∧ i1 < ((l1n : Nat) : Int) ∧
            ∃ (N4 : Int),
            wv26.cell? ((a14.add (i1.toNat * 3)).add 1) = some (.int .i64 N4) ∧
            ifB (decide (N4 < (0 : Int))) (
              ifB (ra2 != (0 : Int)) (
                K (.bool false) wv26) (
                ifB rb2 (
                  K (.bool false) wv26) (
                  Iv1 now1p now1n now1c (IntKind.i64.wrap (i1 + (1 : Int))) wv26 ∧ m1 now1p now1n now1c (IntKind.i64.wrap (i1 + (1 : Int))) wv26 < m1 now1p now1n now1c i1 wv12))) (
              ∃ a15, l1p = some a15 ∧ 0 ≤ i1 ∧ i1 < ((l1n : Nat) : Int) ∧
              ∃ (N5 : Int),
              wv26.cell? ((a15.add (i1.toNat * 3)).add 1) = some (.int .i64 N5) ∧
              ifB (decide (((now1n : Nat) : Int) ≤ N5)) (
                ifB (ra2 != (0 : Int)) (
                  K (.bool false) wv26) (
                  ifB rb2 (
                    K (.bool false) wv26) (
                    Iv1 now1p now1n now1c (IntKind.i64.wrap (i1 + (1 : Int))) wv26 ∧ m1 now1p now1n now1c (IntKind.i64.wrap (i1 + (1 : Int))) wv26 < m1 now1p now1n now1c i1 wv12))) (
                ∃ a16, l1p = some a16 ∧ 0 ≤ i1 ∧ i1 < ((l1n : Nat) : Int) ∧
                ∃ (N6 : Int),
                wv26.cell? ((a16.add (i1.toNat * 3)).add 1) = some (.int .i64 N6) ∧
                ∃ a17, now1p = some a17 ∧ 0 ≤ N6 ∧ N6 < ((now1n : Nat) : Int) ∧
                ∃ (e2 : Int),
                wv26.cell? (a17.add (N6.toNat * 1)) = some (.int .i64 e2) ∧
                ifB (ra2 != e2) (
                  K (.bool false) wv26) (
                  ifB (!rb2) (
                    K (.bool false) wv26) (
                    ∃ a18, l1p = some a18 ∧ 0 ≤ i1 ∧ i1 < ((l1n : Nat) : Int) ∧
                    ∃ (N7 : Int),
                    wv26.drew.cell? ((a18.add (i1.toNat * 3)).add 1) = some (.int .i64 N7) ∧
                    0 ≤ N7 ∧ N7 ≤ ((now1c : Nat) : Int) ∧
                    ∃ a19, l1p = some a19 ∧ 0 ≤ i1 ∧ i1 < ((l1n : Nat) : Int) ∧
                    ∃ (N8 : Int),
                    wv26.drew.cell? ((a19.add (i1.toNat * 3)).add 1) = some (.int .i64 N8) ∧
                    0 ≤ IntKind.i64.wrap (N8 + (1 : Int)) ∧ IntKind.i64.wrap (N8 + (1 : Int)) ≤ ((now1n : Nat) : Int) ∧
                    ∀ b4 wv27, New wv26.drew (.cells #[] T.int) b4 wv27 →
                    wv27.cell? ((a19.add (i1.toNat * 3)).add 1) = some (.int .i64 N8) ∧
                    wv27.cell? ((a18.add (i1.toNat * 3)).add 1) = some (.int .i64 N7) ∧
                    BuiltV prog .append #[T.s_int, T.s_int] T.s_int #[.slice (some (Addr.mk b4 0 none)) 0 0, .slice (cutAt now1p 0 now1c 1) (N7.toNat - 0) (now1c - 0)] wv27 (fun v11 wv28 =>
                      ∃ (a20p : Option Addr) (a20n a20c : Nat),
                      v11 = .slice a20p a20n a20c ∧
                      wv28.cell? ((a19.add (i1.toNat * 3)).add 1) = some (.int .i64 N8) ∧
                      BuiltV prog .append #[T.s_int, T.s_int] T.s_int #[.slice a20p a20n a20c, .slice (cutAt now1p ((IntKind.i64.wrap (N8 + (1 : Int))).toNat) now1c 1) (now1n - ((IntKind.i64.wrap (N8 + (1 : Int))).toNat)) (now1c - ((IntKind.i64.wrap (N8 + (1 : Int))).toNat))] wv28 (fun v12 wv29 =>
                        ∃ (a21p : Option Addr) (a21n a21c : Nat),
                        v12 = .slice a21p a21n a21c ∧
                        ∃ (Went2 : Int),
                        wv29.cell? ((Addr.mk b1 0 none).add 1) = some (.int .i64 Went2) ∧
                        CanSt wv29 ((Addr.mk b1 0 none).add 1) ∧ ∀ wv30, wv30 = wv29.setCell ((Addr.mk b1 0 none).add 1) (.int .i64 (IntKind.i64.wrap (Went2 + (1 : Int)))) →
                        Jv3 a21p a21n a21c wv30)))))))))) ∧
      (∀ (now4p : Option Addr) (now4n now4c : Nat) wv31, Jv3 now4p now4n now4c wv31 →
      CallsV prog F.affluxlaw23_looks #[.pointer r4, .slice now4p now4n now4c, .int .i64 room1, .int .i64 ask1] wv31.drew (fun v13 wv32 =>
        ∃ (r7 : Bool),
        v13 = .bool r7 ∧
        ifB (!r7) (
          K (.bool false) wv32) (
          ∃ (xCame1 : Int) (xWent1 : Int) (xRefused1 : Int) (xMost1 : Int),
          cellsAt wv32 (Addr.mk b1 0 none) 0 [.int .i64 xCame1, .int .i64 xWent1, .int .i64 xRefused1, .int .i64 xMost1] ∧
          CallsV prog F.queue_Queue_int_Counts #[.pointer r4] wv32 (fun v14 wv33 =>
            ∃ (rCame1 : Int) (rWent1 : Int) (rRefused1 : Int) (rMost1 : Int),
            v14 = .agg #[.int .i64 rCame1, .int .i64 rWent1, .int .i64 rRefused1, .int .i64 rMost1] ∧
            cellsAt wv33 (Addr.mk b1 0 none) 0 [.int .i64 xCame1, .int .i64 xWent1, .int .i64 xRefused1, .int .i64 xMost1] ∧
            ifB (!((rCame1 == xCame1) && ((rWent1 == xWent1) && ((rRefused1 == xRefused1) && ((rMost1 == xMost1) && true))))) (
              K (.bool false) wv33) (
              Iv1 now4p now4n now4c (IntKind.i64.wrap (i1 + (1 : Int))) wv33 ∧ m1 now4p now4n now4c (IntKind.i64.wrap (i1 + (1 : Int))) wv33 < m1 now1p now1n now1c i1 wv12)))))) (
      K (.bool true) wv12))))
def An.affluxlaw23_QueuePlays : Ann := ⟨[(18, .sil 1 [] (.sil 2 [] (.sil 3 [] (.sil 4 [] (.sil 5 [] (.sil 6 [0] (.sil 7 [] (.sil 9 [] (.sil 10 [] (.sil 11 [] (.sil 12 [] (.sil 13 [] (.sil 14 [0, 8] (.sil 15 [] (.sil 16 [] (.act 0 (.act 8 (.act 17 (.sil 18 [] (.done)))))))))))))))))))), (28, .sil 0 [] (.sil 1 [] (.sil 2 [] (.sil 3 [] (.sil 4 [] (.sil 5 [] (.sil 6 [] (.sil 7 [] (.sil 8 [] (.sil 9 [] (.sil 10 [] (.sil 11 [] (.act 12 (.done)))))))))))))), (35, .sil 0 [] (.sil 1 [] (.sil 2 [] (.sil 3 [] (.sil 4 [] (.sil 5 [] (.sil 7 [] (.sil 8 [] (.sil 9 [] (.act 6 (.act 10 (.sil 11 [] (.done))))))))))))), (39, .sil 0 [] (.sil 1 [] (.sil 2 [] (.sil 3 [] (.act 4 (.sil 5 [] (.sil 6 [] (.sil 7 [] (.sil 9 [8] (.act 8 (.sil 10 [] (.sil 11 [] (.done)))))))))))))], [(9, [(8, 26), (10, 3)], [0, 1, 2, 7, 9]), (24, [(8, 26), (11, 3)], [0, 1, 2, 7, 9, 10])], [(3, [], [0, 1, 2]), (6, [], [0, 1, 2, 7]), (27, [(8, 26), (11, 3)], [0, 1, 2, 7, 9, 10]), (39, [(8, 26)], [0, 1, 2, 7, 9, 10])]⟩
theorem R.affluxlaw23_QueuePlays {room1 : Int} {l1p : Option Addr} {l1n l1c : Nat} {ask1 : Int} {w : World} {K : Value → World → Prop} (h : C.affluxlaw23_QueuePlays room1 l1p l1n l1c ask1 w K) : CallsV prog F.affluxlaw23_QueuePlays #[.int .i64 room1, .slice l1p l1n l1c, .int .i64 ask1] w K :=
  vcFn.calls (an := An.affluxlaw23_QueuePlays) mixed tabOK eqsOK Go.Proofs.Try.func3 (by kernel_rfl) (by kernel_rfl) (by kernel_rfl) ((by kernel_rfl : vcFn prog eqs tab An.affluxlaw23_QueuePlays Go.Proofs.Try.f3 [.int .i64 room1, .slice l1p l1n l1c, .int .i64 ask1] w K = C.affluxlaw23_QueuePlays room1 l1p l1n l1c ask1 w K).mpr h)

/-- afflux/affluxlaw23.QueueKeeps -/
def C.affluxlaw23_QueueKeeps (room1 : Int) (l1p : Option Addr) (l1n l1c : Nat) (w : World) (K : Value → World → Prop) : Prop :=
  ∃ Jv1 : World → Prop,
  (ifB (decide ((60 : Int) < ((l1n : Nat) : Int))) (
    CallsV prog F.affluxlaw23_awake #[] w (fun v1 wv1 =>
      ∃ (r1 : Bool),
      v1 = .bool r1 ∧
      K (.bool r1) wv1)) (
    CallsV prog F.affluxlaw23_awake #[] w (fun v2 wv2 =>
      ∃ (r2 : Bool),
      v2 = .bool r2 ∧
      ifB (!r2) (
        CallsV prog F.affluxlaw23_awake #[] wv2 (fun v3 wv3 =>
          ∃ (r3 : Bool),
          v3 = .bool r3 ∧
          K (.bool r3) wv3)) (
        Jv1 wv2)))) ∧
  (∀ wv4, Jv1 wv4 →
  (40 : Int) ≠ 0 ∧
  CallsV prog F.queue_New_int #[.int .i64 (IntKind.i64.wrap ((1 : Int) + (Int.tmod (IntKind.i64.wrap room1) (40 : Int))))] wv4 (fun v4 wv5 =>
    ∃ (r4 : Option Addr),
    v4 = .pointer r4 ∧
    ∃ (Iv1 : Int → World → Prop) (m1 : Int → World → Nat),
    Iv1 0 wv5 ∧
    ∀ (i1 : Int) wv6, Iv1 i1 wv6 →
    ifB (decide (i1 < ((l1n : Nat) : Int))) (
      ∃ a1, l1p = some a1 ∧ 0 ≤ i1 ∧ i1 < ((l1n : Nat) : Int) ∧
      ∃ (L1p : Option Addr) (L1n L1c : Nat),
      wv6.cell? ((a1.add (i1.toNat * 3)).add 2) = some (.slice L1p L1n L1c) ∧
      ifB (decide ((100 : Int) < ((L1n : Nat) : Int))) (
        K (.bool true) wv6) (
        ∃ Jv2 : World → Prop,
        (∃ a2, l1p = some a2 ∧ 0 ≤ i1 ∧ i1 < ((l1n : Nat) : Int) ∧
        ∃ (Kind1 : Int),
        wv6.cell? ((a2.add (i1.toNat * 3)).add 0) = some (.int .i64 Kind1) ∧
        ifB (Kind1 == (0 : Int)) (
          ∀ b1 wv7, New wv6 (.cells #[] T.int) b1 wv7 →
          ∃ a3, l1p = some a3 ∧ 0 ≤ i1 ∧ i1 < ((l1n : Nat) : Int) ∧
          ∃ (L2p : Option Addr) (L2n L2c : Nat),
          wv7.cell? ((a3.add (i1.toNat * 3)).add 2) = some (.slice L2p L2n L2c) ∧
          BuiltV prog .append #[T.s_int, T.s_int] T.s_int #[.slice (some (Addr.mk b1 0 none)) 0 0, .slice L2p L2n L2c] wv7 (fun v5 wv8 =>
            ∃ (a4p : Option Addr) (a4n a4c : Nat),
            v5 = .slice a4p a4n a4c ∧
            CallsV prog F.queue_Queue_int_Put #[.pointer r4, .slice a4p a4n a4c] wv8 (fun v6 wv9 =>
              ∃ (ra1 : Int) (rb1 : Int),
              v6 = .tuple #[.int .i64 ra1, .int .i64 rb1] ∧
              CallsV prog F.queue_Queue_int_Len #[.pointer r4] wv9 (fun v7 wv10 =>
                ∃ (r5 : Int),
                v7 = .int .i64 r5 ∧
                CallsV prog F.queue_Queue_int_At #[.pointer r4, .int .i64 (IntKind.i64.wrap (r5 - (1 : Int)))] wv10 (fun v8 wv11 =>
                  ∃ (ra2 : Int) (rb2 : Bool),
                  v8 = .tuple #[.int .i64 ra2, .bool rb2] ∧
                  ∃ (Iv2 : Int → World → Prop) (m2 : Int → World → Nat),
                  Iv2 0 wv11 ∧
                  ∀ (k1 : Int) wv12, Iv2 k1 wv12 →
                  ifB (decide (k1 < ((a4n : Nat) : Int))) (
                    ∃ a5, a4p = some a5 ∧ 0 ≤ k1 ∧ k1 < ((a4n : Nat) : Int) ∧
                    ∃ (e1 : Int),
                    wv12.cell? (a5.add (k1.toNat * 1)) = some (.int .i64 e1) ∧
                    ∃ a6, a4p = some a6 ∧ 0 ≤ k1 ∧ k1 < ((a4n : Nat) : Int) ∧
                    CanSt wv12 (a6.add (k1.toNat * 1)) ∧ ∀ wv13, wv13 = wv12.setCell (a6.add (k1.toNat * 1)) (.int .i64 (IntKind.i64.wrap (e1 + (1 : Int)))) →
                    Iv2 (IntKind.i64.wrap (k1 + (1 : Int))) wv13 ∧ m2 (IntKind.i64.wrap (k1 + (1 : Int))) wv13 < m2 k1 wv12) (
                    CallsV prog F.queue_Queue_int_Len #[.pointer r4] wv12 (fun v9 wv14 =>
                      ∃ (r6 : Int),
                      v9 = .int .i64 r6 ∧
                      CallsV prog F.queue_Queue_int_At #[.pointer r4, .int .i64 (IntKind.i64.wrap (r6 - (1 : Int)))] wv14 (fun v10 wv15 =>
                        ∃ (ra3 : Int) (rb3 : Bool),
                        v10 = .tuple #[.int .i64 ra3, .bool rb3] ∧
                        ifB (ra2 != ra3) (
                          K (.bool false) wv15) (
                          ifB (!(rb2 == rb3)) (
                            K (.bool false) wv15) (
                            Jv2 wv15)))))))))) (
          ifB (Kind1 == (1 : Int)) (
            CallsV prog F.queue_Queue_int_At #[.pointer r4, .int .i64 0] wv6 (fun v11 wv16 =>
              ∃ (ra4 : Int) (rb4 : Bool),
              v11 = .tuple #[.int .i64 ra4, .bool rb4] ∧
              ∃ a7, l1p = some a7 ∧ 0 ≤ i1 ∧ i1 < ((l1n : Nat) : Int) ∧
              ∃ (N1 : Int),
              wv16.cell? ((a7.add (i1.toNat * 3)).add 1) = some (.int .i64 N1) ∧
              CallsV prog F.queue_Queue_int_Take #[.pointer r4, .int .i64 N1] wv16 (fun v12 wv17 =>
                ∃ (r7p : Option Addr) (r7n r7c : Nat),
                v12 = .slice r7p r7n r7c ∧
                ifB (decide ((0 : Int) < ((r7n : Nat) : Int))) (
                  ifB (!rb4) (
                    K (.bool false) wv17) (
                    ∃ a8, r7p = some a8 ∧ 0 ≤ (0 : Int) ∧ (0 : Int) < ((r7n : Nat) : Int) ∧
                    ∃ (e2 : Int),
                    wv17.cell? (a8.add ((0 : Int).toNat * 1)) = some (.int .i64 e2) ∧
                    ifB (e2 != ra4) (
                      K (.bool false) wv17) (
                      Jv2 wv17))) (
                  Jv2 wv17)))) (
            ∃ a9, l1p = some a9 ∧ 0 ≤ i1 ∧ i1 < ((l1n : Nat) : Int) ∧
            ∃ (N2 : Int),
            wv6.cell? ((a9.add (i1.toNat * 3)).add 1) = some (.int .i64 N2) ∧
            CallsV prog F.queue_Queue_int_Remove #[.pointer r4, .int .i64 N2] wv6 (fun v13 wv18 =>
              ∃ (ra5 : Int) (rb5 : Bool),
              v13 = .tuple #[.int .i64 ra5, .bool rb5] ∧
              Jv2 wv18)))) ∧
        (∀ wv19, Jv2 wv19 →
        CallsV prog F.queue_Queue_int_Counts #[.pointer r4] wv19 (fun v14 wv20 =>
          ∃ (rCame1 : Int) (rWent1 : Int) (rRefused1 : Int) (rMost1 : Int),
          v14 = .agg #[.int .i64 rCame1, .int .i64 rWent1, .int .i64 rRefused1, .int .i64 rMost1] ∧
          ∀ b2 wv21, New wv20 (.cells #[.int .i64 0, .int .i64 0, .int .i64 0, .int .i64 0] T.queue_Tally) b2 wv21 →
          CanSt wv21 ((Addr.mk b2 0 none).add 0) ∧ ∀ wv22, wv22 = wv21.setCell ((Addr.mk b2 0 none).add 0) (.int .i64 rCame1) →
          CanSt wv22 ((Addr.mk b2 0 none).add 1) ∧ ∀ wv23, wv23 = wv22.setCell ((Addr.mk b2 0 none).add 1) (.int .i64 rWent1) →
          CanSt wv23 ((Addr.mk b2 0 none).add 2) ∧ ∀ wv24, wv24 = wv23.setCell ((Addr.mk b2 0 none).add 2) (.int .i64 rRefused1) →
          CanSt wv24 ((Addr.mk b2 0 none).add 3) ∧ ∀ wv25, wv25 = wv24.setCell ((Addr.mk b2 0 none).add 3) (.int .i64 rMost1) →
          ∃ (Came1 : Int),
          wv25.drew.cell? ((Addr.mk b2 0 none).add 0) = some (.int .i64 Came1) ∧
          ∃ (Went1 : Int),
          wv25.drew.cell? ((Addr.mk b2 0 none).add 1) = some (.int .i64 Went1) ∧
          CallsV prog F.queue_Queue_int_Len #[.pointer r4] wv25.drew (fun v15 wv26 =>
            ∃ (r8 : Int),
            v15 = .int .i64 r8 ∧
            wv26.cell? ((Addr.mk b2 0 none).add 1) = some (.int .i64 Went1) ∧
            wv26.cell? ((Addr.mk b2 0 none).add 0) = some (.int .i64 Came1) ∧
            ifB (Came1 != (IntKind.i64.wrap (Went1 + r8))) (
              K (.bool false) wv26) (
              CallsV prog F.queue_Queue_int_Len #[.pointer r4] wv26 (fun v16 wv27 =>
                ∃ (r9 : Int),
                v16 = .int .i64 r9 ∧
                ifB (decide ((IntKind.i64.wrap ((1 : Int) + (Int.tmod (IntKind.i64.wrap room1) (40 : Int)))) < r9)) (
                  K (.bool false) wv27) (
                  ∃ (Most1 : Int),
                  wv27.cell? ((Addr.mk b2 0 none).add 3) = some (.int .i64 Most1) ∧
                  ifB (decide ((IntKind.i64.wrap ((1 : Int) + (Int.tmod (IntKind.i64.wrap room1) (40 : Int)))) < Most1)) (
                    K (.bool false) wv27) (
                    CallsV prog F.queue_Queue_int_Free #[.pointer r4] wv27 (fun v17 wv28 =>
                      ∃ (r10 : Int),
                      v17 = .int .i64 r10 ∧
                      ifB (decide (r10 < (0 : Int))) (
                        K (.bool false) wv28) (
                        Iv1 (IntKind.i64.wrap (i1 + (1 : Int))) wv28 ∧ m1 (IntKind.i64.wrap (i1 + (1 : Int))) wv28 < m1 i1 wv6))))))))))) (
      K (.bool true) wv6)))
def An.affluxlaw23_QueueKeeps : Ann := ⟨[(29, .sil 0 [] (.sil 1 [5] (.sil 2 [] (.sil 3 [5] (.sil 4 [] (.act 5 (.sil 6 [] (.sil 7 [] (.sil 8 [] (.sil 9 [] (.sil 11 [] (.act 10 (.sil 12 [] (.sil 13 [] (.sil 14 [] (.sil 15 [] (.sil 16 [] (.sil 17 [] (.sil 18 [] (.sil 19 [] (.sil 20 [] (.sil 21 [] (.act 22 (.sil 23 [] (.sil 24 [] (.done))))))))))))))))))))))))))], [(6, [(7, 3)], [1, 5, 6]), (17, [(11, 3)], [1, 5, 6, 7, 8, 9, 10])], [(3, [], [0, 1]), (28, [], [1, 5, 6, 7])]⟩
theorem R.affluxlaw23_QueueKeeps {room1 : Int} {l1p : Option Addr} {l1n l1c : Nat} {w : World} {K : Value → World → Prop} (h : C.affluxlaw23_QueueKeeps room1 l1p l1n l1c w K) : CallsV prog F.affluxlaw23_QueueKeeps #[.int .u8 room1, .slice l1p l1n l1c] w K :=
  vcFn.calls (an := An.affluxlaw23_QueueKeeps) mixed tabOK eqsOK Go.Proofs.Try.func4 (by kernel_rfl) (by kernel_rfl) (by kernel_rfl) ((by kernel_rfl : vcFn prog eqs tab An.affluxlaw23_QueueKeeps Go.Proofs.Try.f4 [.int .u8 room1, .slice l1p l1n l1c] w K = C.affluxlaw23_QueueKeeps room1 l1p l1n l1c w K).mpr h)

/-- afflux/affluxlaw23.QueueNone -/
def C.affluxlaw23_QueueNone (n1 : Int) (w : World) (K : Value → World → Prop) : Prop :=
  ∀ b1 wv1, New w (.cells #[.int .i64 n1] T.int) b1 wv1 →
  CallsV prog F.queue_Queue_int_Put #[.pointer none, .slice (some (Addr.mk b1 0 none)) 1 1] wv1 (fun v1 wv2 =>
    ∃ (ra1 : Int) (rb1 : Int),
    v1 = .tuple #[.int .i64 ra1, .int .i64 rb1] ∧
    CallsV prog F.queue_Queue_int_At #[.pointer none, .int .i64 n1] wv2 (fun v2 wv3 =>
      ∃ (ra2 : Int) (rb2 : Bool),
      v2 = .tuple #[.int .i64 ra2, .bool rb2] ∧
      CallsV prog F.queue_Queue_int_Remove #[.pointer none, .int .i64 n1] wv3 (fun v3 wv4 =>
        ∃ (ra3 : Int) (rb3 : Bool),
        v3 = .tuple #[.int .i64 ra3, .bool rb3] ∧
        ifB (ra1 == (0 : Int)) (
          ifB (rb1 == (1 : Int)) (
            CallsV prog F.queue_Queue_int_Take #[.pointer none, .int .i64 n1] wv4 (fun v4 wv5 =>
              ∃ (r1p : Option Addr) (r1n r1c : Nat),
              v4 = .slice r1p r1n r1c ∧
              ifB (((r1n : Nat) : Int) == (0 : Int)) (
                ifB (ra2 == (0 : Int)) (
                  ifB (!rb2) (
                    ifB (ra3 == (0 : Int)) (
                      ifB (!rb3) (
                        CallsV prog F.queue_Queue_int_Len #[.pointer none] wv5 (fun v5 wv6 =>
                          ∃ (r2 : Int),
                          v5 = .int .i64 r2 ∧
                          ifB (r2 == (0 : Int)) (
                            CallsV prog F.queue_Queue_int_Free #[.pointer none] wv6 (fun v6 wv7 =>
                              ∃ (r3 : Int),
                              v6 = .int .i64 r3 ∧
                              ifB (r3 == (0 : Int)) (
                                CallsV prog F.queue_Queue_int_Counts #[.pointer none] wv7 (fun v7 wv8 =>
                                  ∃ (rCame1 : Int) (rWent1 : Int) (rRefused1 : Int) (rMost1 : Int),
                                  v7 = .agg #[.int .i64 rCame1, .int .i64 rWent1, .int .i64 rRefused1, .int .i64 rMost1] ∧
                                  ifB ((rCame1 == (0 : Int)) && ((rWent1 == (0 : Int)) && ((rRefused1 == (0 : Int)) && ((rMost1 == (0 : Int)) && true)))) (
                                    CallsV prog F.affluxlaw23_awake #[] wv8 (fun v8 wv9 =>
                                      ∃ (r4 : Bool),
                                      v8 = .bool r4 ∧
                                      K (.bool r4) wv9)) (
                                    K (.bool false) wv8))) (
                                K (.bool false) wv7))) (
                            K (.bool false) wv6))) (
                        K (.bool false) wv5)) (
                      K (.bool false) wv5)) (
                    K (.bool false) wv5)) (
                  K (.bool false) wv5)) (
                K (.bool false) wv5))) (
            K (.bool false) wv4)) (
          K (.bool false) wv4))))
def An.affluxlaw23_QueueNone : Ann := ⟨[], [], []⟩
theorem R.affluxlaw23_QueueNone {n1 : Int} {w : World} {K : Value → World → Prop} (h : C.affluxlaw23_QueueNone n1 w K) : CallsV prog F.affluxlaw23_QueueNone #[.int .i64 n1] w K :=
  vcFn.calls (an := An.affluxlaw23_QueueNone) mixed tabOK eqsOK Go.Proofs.Try.func5 (by kernel_rfl) (by kernel_rfl) (by kernel_rfl) ((by kernel_rfl : vcFn prog eqs tab An.affluxlaw23_QueueNone Go.Proofs.Try.f5 [.int .i64 n1] w K = C.affluxlaw23_QueueNone n1 w K).mpr h)

/-- afflux/affluxlaw19.WindowPuts -/
def C.affluxlaw19_WindowPuts (wName1 : ByteArray) (wOn1 : ByteArray) (wOwner1 : ByteArray) (wBatches1 : Bool) (wSize1 : Int) (wSlide1 : Int) (cols1p : Option Addr) (cols1n cols1c : Nat) (l1p : Option Addr) (l1n l1c : Nat) (w : World) (K : Value → World → Prop) : Prop :=
  ∀ b1 wv1, New w (.cells #[.string wName1, .string wOn1, .string wOwner1, .bool wBatches1, .int .i64 wSize1, .int .i64 wSlide1] T.api_Window) b1 wv1 →
  ∃ Jv1 : World → Prop,
  (∃ (xName1 : ByteArray) (xOn1 : ByteArray) (xOwner1 : ByteArray) (xBatches1 : Bool) (xSize1 : Int) (xSlide1 : Int),
  cellsAt wv1 (Addr.mk b1 0 none) 0 [.string xName1, .string xOn1, .string xOwner1, .bool xBatches1, .int .i64 xSize1, .int .i64 xSlide1] ∧
  CallsV prog F.affluxlaw19_great #[.agg #[.string xName1, .string xOn1, .string xOwner1, .bool xBatches1, .int .i64 xSize1, .int .i64 xSlide1], .slice cols1p cols1n cols1c, .slice l1p l1n l1c] wv1 (fun v1 wv2 =>
    ∃ (r1 : Bool),
    v1 = .bool r1 ∧
    ifB r1 (
      CallsV prog F.affluxlaw19_awake #[] wv2 (fun v2 wv3 =>
        ∃ (r2 : Bool),
        v2 = .bool r2 ∧
        K (.bool r2) wv3)) (
      CallsV prog F.affluxlaw19_awake #[] wv2 (fun v3 wv4 =>
        ∃ (r3 : Bool),
        v3 = .bool r3 ∧
        ifB (!r3) (
          CallsV prog F.affluxlaw19_awake #[] wv4 (fun v4 wv5 =>
            ∃ (r4 : Bool),
            v4 = .bool r4 ∧
            K (.bool r4) wv5)) (
          Jv1 wv4))))) ∧
  (∀ wv6, Jv1 wv6 →
  ∃ (xName2 : ByteArray) (xOn2 : ByteArray) (xOwner2 : ByteArray) (xBatches2 : Bool) (xSize2 : Int) (xSlide2 : Int),
  cellsAt wv6 (Addr.mk b1 0 none) 0 [.string xName2, .string xOn2, .string xOwner2, .bool xBatches2, .int .i64 xSize2, .int .i64 xSlide2] ∧
  CallsV prog F.window_New #[.agg #[.string xName2, .string xOn2, .string xOwner2, .bool xBatches2, .int .i64 xSize2, .int .i64 xSlide2], .slice cols1p cols1n cols1c] wv6 (fun v5 wv7 =>
    ∃ (ra1 : Option Addr) (rb1 : Int),
    v5 = .tuple #[.pointer ra1, .int .i64 rb1] ∧
    ∃ (xName3 : ByteArray) (xOn3 : ByteArray) (xOwner3 : ByteArray) (xBatches3 : Bool) (xSize3 : Int) (xSlide3 : Int),
    cellsAt wv7.drew (Addr.mk b1 0 none) 0 [.string xName3, .string xOn3, .string xOwner3, .bool xBatches3, .int .i64 xSize3, .int .i64 xSlide3] ∧
    ∃ (xName4 : ByteArray) (xOn4 : ByteArray) (xOwner4 : ByteArray) (xBatches4 : Bool) (xSize4 : Int) (xSlide4 : Int),
    cellsAt wv7.drew (Addr.mk b1 0 none) 0 [.string xName4, .string xOn4, .string xOwner4, .bool xBatches4, .int .i64 xSize4, .int .i64 xSlide4] ∧
    CallsV prog F.window_Right #[.agg #[.string xName3, .string xOn3, .string xOwner3, .bool xBatches3, .int .i64 xSize3, .int .i64 xSlide3]] wv7.drew (fun v6 wv8 =>
      ∃ (r5 : Bool),
      v6 = .bool r5 ∧
      cellsAt wv8 (Addr.mk b1 0 none) 0 [.string xName4, .string xOn4, .string xOwner4, .bool xBatches4, .int .i64 xSize4, .int .i64 xSlide4] ∧
      CallsV prog F.affluxlaw19_right #[.agg #[.string xName4, .string xOn4, .string xOwner4, .bool xBatches4, .int .i64 xSize4, .int .i64 xSlide4]] wv8 (fun v7 wv9 =>
        ∃ (r6 : Bool),
        v7 = .bool r6 ∧
        ifB (!(r5 == r6)) (
          K (.bool false) wv9) (
          ∃ (xName5 : ByteArray) (xOn5 : ByteArray) (xOwner5 : ByteArray) (xBatches5 : Bool) (xSize5 : Int) (xSlide5 : Int),
          cellsAt wv9 (Addr.mk b1 0 none) 0 [.string xName5, .string xOn5, .string xOwner5, .bool xBatches5, .int .i64 xSize5, .int .i64 xSlide5] ∧
          CallsV prog F.affluxlaw19_right #[.agg #[.string xName5, .string xOn5, .string xOwner5, .bool xBatches5, .int .i64 xSize5, .int .i64 xSlide5]] wv9 (fun v8 wv10 =>
            ∃ (r7 : Bool),
            v8 = .bool r7 ∧
            ifB (!r7) (
              ifB ra1.isNone (
                K (.bool (rb1 == (1 : Int))) wv10) (
                K (.bool false) wv10)) (
              ∃ (Iv1 : Option Addr → Nat → Nat → Int → World → Prop) (m1 : Option Addr → Nat → Nat → Int → World → Nat),
              Iv1 none 0 0 0 wv10 ∧
              ∀ (all1p : Option Addr) (all1n all1c : Nat) (i1 : Int) wv11, Iv1 all1p all1n all1c i1 wv11 →
              ifB (decide (i1 < ((l1n : Nat) : Int))) (
                ∃ (Slide1 : Int),
                wv11.cell? ((Addr.mk b1 0 none).add 5) = some (.int .i64 Slide1) ∧
                Slide1 ≠ 0 ∧
                ∃ (Iv2 : Bool → Int → World → Prop) (m2 : Bool → Int → World → Nat),
                Iv2 true 0 wv11 ∧
                ∀ (ok1 : Bool) (k1 : Int) wv12, Iv2 ok1 k1 wv12 →
                ∃ a1, l1p = some a1 ∧ 0 ≤ i1 ∧ i1 < ((l1n : Nat) : Int) ∧
                ∃ (e1p : Option Addr) (e1n e1c : Nat),
                wv12.cell? (a1.add (i1.toNat * 1)) = some (.slice e1p e1n e1c) ∧
                ifB (decide (k1 < ((e1n : Nat) : Int))) (
                  ifB ok1 (
                    ∃ a2, l1p = some a2 ∧ 0 ≤ i1 ∧ i1 < ((l1n : Nat) : Int) ∧
                    ∃ (e2p : Option Addr) (e2n e2c : Nat),
                    wv12.cell? (a2.add (i1.toNat * 1)) = some (.slice e2p e2n e2c) ∧
                    ∃ a3, e2p = some a3 ∧ 0 ≤ k1 ∧ k1 < ((e2n : Nat) : Int) ∧
                    ∃ (Rows1p : Option Addr) (Rows1n Rows1c : Nat),
                    wv12.cell? ((a3.add (k1.toNat * 2)).add 1) = some (.slice Rows1p Rows1n Rows1c) ∧
                    CallsV prog F.affluxlaw19_fits #[.slice cols1p cols1n cols1c, .slice Rows1p Rows1n Rows1c] wv12 (fun v9 wv13 =>
                      ∃ (r8 : Bool),
                      v9 = .bool r8 ∧
                      Iv2 r8 (IntKind.i64.wrap (k1 + (1 : Int))) wv13 ∧ m2 r8 (IntKind.i64.wrap (k1 + (1 : Int))) wv13 < m2 ok1 k1 wv12)) (
                    Iv2 false (IntKind.i64.wrap (k1 + (1 : Int))) wv12 ∧ m2 false (IntKind.i64.wrap (k1 + (1 : Int))) wv12 < m2 ok1 k1 wv12)) (
                  ∃ a4, l1p = some a4 ∧ 0 ≤ i1 ∧ i1 < ((l1n : Nat) : Int) ∧
                  ∃ (e3p : Option Addr) (e3n e3c : Nat),
                  wv12.cell? (a4.add (i1.toNat * 1)) = some (.slice e3p e3n e3c) ∧
                  CallsV prog F.window_Window_Put #[.pointer ra1, .pointer none, .slice e3p e3n e3c] wv12 (fun v10 wv14 =>
                    ∃ (ra2 : Int) (rb2 : Int),
                    v10 = .tuple #[.int .i64 ra2, .int .i64 rb2] ∧
                    ifB (!ok1) (
                      ifB (ra2 != (0 : Int)) (
                        K (.bool false) wv14) (
                        ifB (rb2 != (13 : Int)) (
                          K (.bool false) wv14) (
                          ∃ (xName6 : ByteArray) (xOn6 : ByteArray) (xOwner6 : ByteArray) (xBatches6 : Bool) (xSize6 : Int) (xSlide6 : Int),
                          cellsAt wv14 (Addr.mk b1 0 none) 0 [.string xName6, .string xOn6, .string xOwner6, .bool xBatches6, .int .i64 xSize6, .int .i64 xSlide6] ∧
                          CallsV prog F.affluxlaw19_looks #[.pointer ra1, .agg #[.string xName6, .string xOn6, .string xOwner6, .bool xBatches6, .int .i64 xSize6, .int .i64 xSlide6], .slice all1p all1n all1c] wv14 (fun v11 wv15 =>
                            ∃ (r9 : Bool),
                            v11 = .bool r9 ∧
                            ifB (!r9) (
                              K (.bool false) wv15) (
                              Iv1 all1p all1n all1c (IntKind.i64.wrap (i1 + (1 : Int))) wv15 ∧ m1 all1p all1n all1c (IntKind.i64.wrap (i1 + (1 : Int))) wv15 < m1 all1p all1n all1c i1 wv11))))) (
                      ∃ (xName7 : ByteArray) (xOn7 : ByteArray) (xOwner7 : ByteArray) (xBatches7 : Bool) (xSize7 : Int) (xSlide7 : Int),
                      cellsAt wv14.drew (Addr.mk b1 0 none) 0 [.string xName7, .string xOn7, .string xOwner7, .bool xBatches7, .int .i64 xSize7, .int .i64 xSlide7] ∧
                      ∃ a5, l1p = some a5 ∧ 0 ≤ i1 ∧ i1 < ((l1n : Nat) : Int) ∧
                      ∃ (e4p : Option Addr) (e4n e4c : Nat),
                      wv14.drew.cell? (a5.add (i1.toNat * 1)) = some (.slice e4p e4n e4c) ∧
                      CallsV prog F.affluxlaw19_units #[.agg #[.string xName7, .string xOn7, .string xOwner7, .bool xBatches7, .int .i64 xSize7, .int .i64 xSlide7], .slice e4p e4n e4c] wv14.drew (fun v12 wv16 =>
                        ∃ (r10p : Option Addr) (r10n r10c : Nat),
                        v12 = .slice r10p r10n r10c ∧
                        BuiltV prog .append #[T.s_s_s_api_Value, T.s_s_s_api_Value] T.s_s_s_api_Value #[.slice all1p all1n all1c, .slice r10p r10n r10c] wv16 (fun v13 wv17 =>
                          ∃ (a6p : Option Addr) (a6n a6c : Nat),
                          v13 = .slice a6p a6n a6c ∧
                          ∃ (Slide2 : Int),
                          wv17.cell? ((Addr.mk b1 0 none).add 5) = some (.int .i64 Slide2) ∧
                          Slide2 ≠ 0 ∧
                          ifB (ra2 != (IntKind.i64.wrap ((IntKind.i64.wrap (Int.tdiv ((a6n : Nat) : Int) Slide2)) - (IntKind.i64.wrap (Int.tdiv ((all1n : Nat) : Int) Slide1))))) (
                            K (.bool false) wv17) (
                            ifB (rb2 != (0 : Int)) (
                              K (.bool false) wv17) (
                              ∃ (xName8 : ByteArray) (xOn8 : ByteArray) (xOwner8 : ByteArray) (xBatches8 : Bool) (xSize8 : Int) (xSlide8 : Int),
                              cellsAt wv17 (Addr.mk b1 0 none) 0 [.string xName8, .string xOn8, .string xOwner8, .bool xBatches8, .int .i64 xSize8, .int .i64 xSlide8] ∧
                              CallsV prog F.affluxlaw19_looks #[.pointer ra1, .agg #[.string xName8, .string xOn8, .string xOwner8, .bool xBatches8, .int .i64 xSize8, .int .i64 xSlide8], .slice a6p a6n a6c] wv17 (fun v14 wv18 =>
                                ∃ (r11 : Bool),
                                v14 = .bool r11 ∧
                                ifB (!r11) (
                                  K (.bool false) wv18) (
                                  Iv1 a6p a6n a6c (IntKind.i64.wrap (i1 + (1 : Int))) wv18 ∧ m1 a6p a6n a6c (IntKind.i64.wrap (i1 + (1 : Int))) wv18 < m1 all1p all1n all1c i1 wv11)))))))))) (
                K (.bool (rb1 == (0 : Int))) wv11))))))))
def An.affluxlaw19_WindowPuts : Ann := ⟨[(4, .sil 0 [] (.sil 2 [1] (.act 1 (.act 3 (.sil 4 [] (.done)))))), (22, .sil 0 [] (.sil 1 [] (.sil 2 [] (.sil 3 [] (.sil 4 [] (.sil 5 [] (.act 6 (.act 7 (.sil 8 [] (.done))))))))))], [(10, [(9, 53), (10, 3)], [1, 2, 3, 7, 8]), (15, [(12, 4), (13, 3)], [1, 2, 3, 7, 8, 9, 10, 11])], [(3, [], [1, 2, 3])]⟩
theorem R.affluxlaw19_WindowPuts {wName1 : ByteArray} {wOn1 : ByteArray} {wOwner1 : ByteArray} {wBatches1 : Bool} {wSize1 : Int} {wSlide1 : Int} {cols1p : Option Addr} {cols1n cols1c : Nat} {l1p : Option Addr} {l1n l1c : Nat} {w : World} {K : Value → World → Prop} (h : C.affluxlaw19_WindowPuts wName1 wOn1 wOwner1 wBatches1 wSize1 wSlide1 cols1p cols1n cols1c l1p l1n l1c w K) : CallsV prog F.affluxlaw19_WindowPuts #[.agg #[.string wName1, .string wOn1, .string wOwner1, .bool wBatches1, .int .i64 wSize1, .int .i64 wSlide1], .slice cols1p cols1n cols1c, .slice l1p l1n l1c] w K :=
  vcFn.calls (an := An.affluxlaw19_WindowPuts) mixed tabOK eqsOK Go.Proofs.Try.func6 (by kernel_rfl) (by kernel_rfl) (by kernel_rfl) ((by kernel_rfl : vcFn prog eqs tab An.affluxlaw19_WindowPuts Go.Proofs.Try.f6 [.agg #[.string wName1, .string wOn1, .string wOwner1, .bool wBatches1, .int .i64 wSize1, .int .i64 wSlide1], .slice cols1p cols1n cols1c, .slice l1p l1n l1c] w K = C.affluxlaw19_WindowPuts wName1 wOn1 wOwner1 wBatches1 wSize1 wSlide1 cols1p cols1n cols1c l1p l1n l1c w K).mpr h)

/-- afflux/affluxlaw19.WindowNone -/
def C.affluxlaw19_WindowNone (xId1 : Int) (xRows1p : Option Addr) (xRows1n xRows1c : Nat) (s1 : ByteArray) (w : World) (K : Value → World → Prop) : Prop :=
  ∀ b1 wv1, New w (.cells #[.int .i64 xId1, .slice xRows1p xRows1n xRows1c] T.stream_Batch) b1 wv1 →
  ∃ Jv1 : World → Prop,
  (∃ (Rows1p : Option Addr) (Rows1n Rows1c : Nat),
  wv1.cell? ((Addr.mk b1 0 none).add 1) = some (.slice Rows1p Rows1n Rows1c) ∧
  ifB (decide ((40 : Int) < ((Rows1n : Nat) : Int))) (
    CallsV prog F.affluxlaw19_awake #[] wv1 (fun v1 wv2 =>
      ∃ (r1 : Bool),
      v1 = .bool r1 ∧
      K (.bool r1) wv2)) (
    ifB (decide ((3000 : Int) < ((s1.size : Nat) : Int))) (
      CallsV prog F.affluxlaw19_awake #[] wv1 (fun v2 wv3 =>
        ∃ (r2 : Bool),
        v2 = .bool r2 ∧
        K (.bool r2) wv3)) (
      Jv1 wv1))) ∧
  (∀ wv4, Jv1 wv4 →
  ∀ b2 wv5, New wv4 (.cells #[.slice none 0 0] T.undo_Journal) b2 wv5 →
  ∃ (xId2 : Int) (xRows2p : Option Addr) (xRows2n xRows2c : Nat),
  cellsAt wv5 (Addr.mk b1 0 none) 0 [.int .i64 xId2, .slice xRows2p xRows2n xRows2c] ∧
  ∀ b3 wv6, New wv5 (.cells #[.int .i64 xId2, .slice xRows2p xRows2n xRows2c] T.stream_Batch) b3 wv6 →
  CallsV prog F.window_Window_Put #[.pointer none, .pointer (some (Addr.mk b2 0 none)), .slice (some (Addr.mk b3 0 none)) 1 1] wv6 (fun v3 wv7 =>
    ∃ (ra1 : Int) (rb1 : Int),
    v3 = .tuple #[.int .i64 ra1, .int .i64 rb1] ∧
    ifB (ra1 == (0 : Int)) (
      ifB (rb1 == (1 : Int)) (
        CallsV prog F.window_Window_Rows #[.pointer none] wv7 (fun v4 wv8 =>
          ∃ (r3p : Option Addr) (r3n r3c : Nat),
          v4 = .slice r3p r3n r3c ∧
          ifB (((r3n : Nat) : Int) == (0 : Int)) (
            CallsV prog F.window_Window_Seen #[.pointer none] wv8 (fun v5 wv9 =>
              ∃ (r4 : Int),
              v5 = .int .i64 r4 ∧
              ifB (r4 == (0 : Int)) (
                CallsV prog F.window_Window_Staged #[.pointer none] wv9 (fun v6 wv10 =>
                  ∃ (r5 : Int),
                  v6 = .int .i64 r5 ∧
                  ifB (r5 == (0 : Int)) (
                    CallsV prog F.window_Window_Bytes #[.pointer none] wv10 (fun v7 wv11 =>
                      ∃ (r6 : ByteArray),
                      v7 = .string r6 ∧
                      ifB (sEq r6 (bs [])) (
                        CallsV prog F.window_Window_Load #[.pointer none, .string s1] wv11 (fun v8 wv12 =>
                          ∃ (r7 : Int),
                          v8 = .int .i64 r7 ∧
                          ifB (r7 == (1 : Int)) (
                            CallsV prog F.affluxlaw19_awake #[] wv12 (fun v9 wv13 =>
                              ∃ (r8 : Bool),
                              v9 = .bool r8 ∧
                              K (.bool r8) wv13)) (
                            K (.bool false) wv12))) (
                        K (.bool false) wv11))) (
                    K (.bool false) wv10))) (
                K (.bool false) wv9))) (
            K (.bool false) wv8))) (
        K (.bool false) wv7)) (
      K (.bool false) wv7)))
def An.affluxlaw19_WindowNone : Ann := ⟨[], [], [(3, [], [1, 2])]⟩
theorem R.affluxlaw19_WindowNone {xId1 : Int} {xRows1p : Option Addr} {xRows1n xRows1c : Nat} {s1 : ByteArray} {w : World} {K : Value → World → Prop} (h : C.affluxlaw19_WindowNone xId1 xRows1p xRows1n xRows1c s1 w K) : CallsV prog F.affluxlaw19_WindowNone #[.agg #[.int .i64 xId1, .slice xRows1p xRows1n xRows1c], .string s1] w K :=
  vcFn.calls (an := An.affluxlaw19_WindowNone) mixed tabOK eqsOK Go.Proofs.Try.func7 (by kernel_rfl) (by kernel_rfl) (by kernel_rfl) ((by kernel_rfl : vcFn prog eqs tab An.affluxlaw19_WindowNone Go.Proofs.Try.f7 [.agg #[.int .i64 xId1, .slice xRows1p xRows1n xRows1c], .string s1] w K = C.affluxlaw19_WindowNone xId1 xRows1p xRows1n xRows1c s1 w K).mpr h)

/-- afflux/affluxlaw19.WindowBack -/
def C.affluxlaw19_WindowBack (wName1 : ByteArray) (wOn1 : ByteArray) (wOwner1 : ByteArray) (wBatches1 : Bool) (wSize1 : Int) (wSlide1 : Int) (cols1p : Option Addr) (cols1n cols1c : Nat) (l1p : Option Addr) (l1n l1c : Nat) (atv1 : Int) (w : World) (K : Value → World → Prop) : Prop :=
  ∀ b1 wv1, New w (.cells #[.string wName1, .string wOn1, .string wOwner1, .bool wBatches1, .int .i64 wSize1, .int .i64 wSlide1] T.api_Window) b1 wv1 →
  ∃ Jv1 : World → Prop,
  (∃ (xName1 : ByteArray) (xOn1 : ByteArray) (xOwner1 : ByteArray) (xBatches1 : Bool) (xSize1 : Int) (xSlide1 : Int),
  cellsAt wv1 (Addr.mk b1 0 none) 0 [.string xName1, .string xOn1, .string xOwner1, .bool xBatches1, .int .i64 xSize1, .int .i64 xSlide1] ∧
  CallsV prog F.affluxlaw19_great #[.agg #[.string xName1, .string xOn1, .string xOwner1, .bool xBatches1, .int .i64 xSize1, .int .i64 xSlide1], .slice cols1p cols1n cols1c, .slice l1p l1n l1c] wv1 (fun v1 wv2 =>
    ∃ (r1 : Bool),
    v1 = .bool r1 ∧
    ifB r1 (
      CallsV prog F.affluxlaw19_awake #[] wv2 (fun v2 wv3 =>
        ∃ (r2 : Bool),
        v2 = .bool r2 ∧
        K (.bool r2) wv3)) (
      CallsV prog F.affluxlaw19_awake #[] wv2 (fun v3 wv4 =>
        ∃ (r3 : Bool),
        v3 = .bool r3 ∧
        ifB (!r3) (
          CallsV prog F.affluxlaw19_awake #[] wv4 (fun v4 wv5 =>
            ∃ (r4 : Bool),
            v4 = .bool r4 ∧
            K (.bool r4) wv5)) (
          Jv1 wv4))))) ∧
  (∀ wv6, Jv1 wv6 →
  ∃ (xName2 : ByteArray) (xOn2 : ByteArray) (xOwner2 : ByteArray) (xBatches2 : Bool) (xSize2 : Int) (xSlide2 : Int),
  cellsAt wv6 (Addr.mk b1 0 none) 0 [.string xName2, .string xOn2, .string xOwner2, .bool xBatches2, .int .i64 xSize2, .int .i64 xSlide2] ∧
  CallsV prog F.window_New #[.agg #[.string xName2, .string xOn2, .string xOwner2, .bool xBatches2, .int .i64 xSize2, .int .i64 xSlide2], .slice cols1p cols1n cols1c] wv6 (fun v5 wv7 =>
    ∃ (ra1 : Option Addr) (rb1 : Int),
    v5 = .tuple #[.pointer ra1, .int .i64 rb1] ∧
    ifB (rb1 != (0 : Int)) (
      K (.bool ra1.isNone) wv7) (
      ∀ b2 wv8, New wv7 (.cells #[.slice none 0 0] T.undo_Journal) b2 wv8 →
      (IntKind.u64.wrap (IntKind.i64.wrap (((l1n : Nat) : Int) + (1 : Int)))) ≠ 0 ∧
      CallsV prog F.window_Window_Bytes #[.pointer ra1] wv8 (fun v6 wv9 =>
        ∃ (r5 : ByteArray),
        v6 = .string r5 ∧
        ∃ (Iv1 : ByteArray → Int → Int → World → Prop) (m1 : ByteArray → Int → Int → World → Nat),
        Iv1 r5 0 0 wv9 ∧
        ∀ (was1 : ByteArray) (mark1 : Int) (i1 : Int) wv10, Iv1 was1 mark1 i1 wv10 →
        ifB (decide (i1 < ((l1n : Nat) : Int))) (
          ifB (i1 == (IntKind.i64.wrap (Int.tmod (IntKind.u64.wrap atv1) (IntKind.u64.wrap (IntKind.i64.wrap (((l1n : Nat) : Int) + (1 : Int))))))) (
            CallsV prog F.window_Window_Bytes #[.pointer ra1] wv10 (fun v7 wv11 =>
              ∃ (r6 : ByteArray),
              v7 = .string r6 ∧
              CallsV prog F.undo_Journal_Mark #[.pointer (some (Addr.mk b2 0 none))] wv11 (fun v8 wv12 =>
                ∃ (r7 : Int),
                v8 = .int .i64 r7 ∧
                ∃ a1, l1p = some a1 ∧ 0 ≤ i1 ∧ i1 < ((l1n : Nat) : Int) ∧
                ∃ (e1p : Option Addr) (e1n e1c : Nat),
                wv12.cell? (a1.add (i1.toNat * 1)) = some (.slice e1p e1n e1c) ∧
                CallsV prog F.window_Window_Put #[.pointer ra1, .pointer (some (Addr.mk b2 0 none)), .slice e1p e1n e1c] wv12 (fun v9 wv13 =>
                  ∃ (ra2 : Int) (rb2 : Int),
                  v9 = .tuple #[.int .i64 ra2, .int .i64 rb2] ∧
                  Iv1 r6 r7 (IntKind.i64.wrap (i1 + (1 : Int))) wv13 ∧ m1 r6 r7 (IntKind.i64.wrap (i1 + (1 : Int))) wv13 < m1 was1 mark1 i1 wv10)))) (
            ∃ a2, l1p = some a2 ∧ 0 ≤ i1 ∧ i1 < ((l1n : Nat) : Int) ∧
            ∃ (e2p : Option Addr) (e2n e2c : Nat),
            wv10.cell? (a2.add (i1.toNat * 1)) = some (.slice e2p e2n e2c) ∧
            CallsV prog F.window_Window_Put #[.pointer ra1, .pointer (some (Addr.mk b2 0 none)), .slice e2p e2n e2c] wv10 (fun v10 wv14 =>
              ∃ (ra3 : Int) (rb3 : Int),
              v10 = .tuple #[.int .i64 ra3, .int .i64 rb3] ∧
              Iv1 was1 mark1 (IntKind.i64.wrap (i1 + (1 : Int))) wv14 ∧ m1 was1 mark1 (IntKind.i64.wrap (i1 + (1 : Int))) wv14 < m1 was1 mark1 i1 wv10))) (
          ∃ Jv2 : ByteArray → Int → World → Prop,
          (ifB ((IntKind.i64.wrap (Int.tmod (IntKind.u64.wrap atv1) (IntKind.u64.wrap (IntKind.i64.wrap (((l1n : Nat) : Int) + (1 : Int)))))) == ((l1n : Nat) : Int)) (
            CallsV prog F.window_Window_Bytes #[.pointer ra1] wv10 (fun v11 wv15 =>
              ∃ (r8 : ByteArray),
              v11 = .string r8 ∧
              CallsV prog F.undo_Journal_Mark #[.pointer (some (Addr.mk b2 0 none))] wv15 (fun v12 wv16 =>
                ∃ (r9 : Int),
                v12 = .int .i64 r9 ∧
                Jv2 r8 r9 wv16))) (
            Jv2 was1 mark1 wv10)) ∧
          (∀ (was2 : ByteArray) (mark2 : Int) wv17, Jv2 was2 mark2 wv17 →
          CallsV prog F.undo_Journal_Back #[.pointer (some (Addr.mk b2 0 none)), .int .i64 mark2] wv17 (fun v13 wv18 =>
            ∃ (r10 : Int),
            v13 = .int .i64 r10 ∧
            CallsV prog F.window_Window_Bytes #[.pointer ra1] wv18 (fun v14 wv19 =>
              ∃ (r11 : ByteArray),
              v14 = .string r11 ∧
              ifB (!sEq r11 was2) (
                K (.bool false) wv19) (
                CallsV prog F.undo_Journal_Back #[.pointer (some (Addr.mk b2 0 none)), .int .i64 0] wv19 (fun v15 wv20 =>
                  ∃ (r12 : Int),
                  v15 = .int .i64 r12 ∧
                  CallsV prog F.window_Window_Seen #[.pointer ra1] wv20 (fun v16 wv21 =>
                    ∃ (r13 : Int),
                    v16 = .int .i64 r13 ∧
                    ifB (r13 == (0 : Int)) (
                      CallsV prog F.window_Window_Staged #[.pointer ra1] wv21 (fun v17 wv22 =>
                        ∃ (r14 : Int),
                        v17 = .int .i64 r14 ∧
                        ifB (r14 == (0 : Int)) (
                          CallsV prog F.window_Window_Rows #[.pointer ra1] wv22 (fun v18 wv23 =>
                            ∃ (r15p : Option Addr) (r15n r15c : Nat),
                            v18 = .slice r15p r15n r15c ∧
                            K (.bool (((r15n : Nat) : Int) == (0 : Int))) wv23)) (
                          K (.bool false) wv22))) (
                      K (.bool false) wv21))))))))))))
def An.affluxlaw19_WindowBack : Ann := ⟨[], [(11, [(13, 9), (14, 3), (15, 3)], [2, 9, 11, 12])], [(3, [], [1, 2, 3, 4]), (20, [(13, 9), (14, 3)], [2, 9, 11, 12])]⟩
theorem R.affluxlaw19_WindowBack {wName1 : ByteArray} {wOn1 : ByteArray} {wOwner1 : ByteArray} {wBatches1 : Bool} {wSize1 : Int} {wSlide1 : Int} {cols1p : Option Addr} {cols1n cols1c : Nat} {l1p : Option Addr} {l1n l1c : Nat} {atv1 : Int} {w : World} {K : Value → World → Prop} (h : C.affluxlaw19_WindowBack wName1 wOn1 wOwner1 wBatches1 wSize1 wSlide1 cols1p cols1n cols1c l1p l1n l1c atv1 w K) : CallsV prog F.affluxlaw19_WindowBack #[.agg #[.string wName1, .string wOn1, .string wOwner1, .bool wBatches1, .int .i64 wSize1, .int .i64 wSlide1], .slice cols1p cols1n cols1c, .slice l1p l1n l1c, .int .i64 atv1] w K :=
  vcFn.calls (an := An.affluxlaw19_WindowBack) mixed tabOK eqsOK Go.Proofs.Try.func8 (by kernel_rfl) (by kernel_rfl) (by kernel_rfl) ((by kernel_rfl : vcFn prog eqs tab An.affluxlaw19_WindowBack Go.Proofs.Try.f8 [.agg #[.string wName1, .string wOn1, .string wOwner1, .bool wBatches1, .int .i64 wSize1, .int .i64 wSlide1], .slice cols1p cols1n cols1c, .slice l1p l1n l1c, .int .i64 atv1] w K = C.affluxlaw19_WindowBack wName1 wOn1 wOwner1 wBatches1 wSize1 wSlide1 cols1p cols1n cols1c l1p l1n l1c atv1 w K).mpr h)

/-- afflux/affluxlaw23.awake -/
def C.affluxlaw23_awake  (w : World) (K : Value → World → Prop) : Prop :=
  CallsV prog F.queue_New_int #[.int .i64 2] w (fun v1 wv1 =>
    ∃ (r1 : Option Addr),
    v1 = .pointer r1 ∧
    ∀ b1 wv2, New wv1 (.cells #[.int .i64 1, .int .i64 2, .int .i64 3] T.int) b1 wv2 →
    CallsV prog F.queue_Queue_int_Put #[.pointer r1, .slice (some (Addr.mk b1 0 none)) 3 3] wv2 (fun v2 wv3 =>
      ∃ (ra1 : Int) (rb1 : Int),
      v2 = .tuple #[.int .i64 ra1, .int .i64 rb1] ∧
      CallsV prog F.queue_Queue_int_Take #[.pointer r1, .int .i64 1] wv3 (fun v3 wv4 =>
        ∃ (r2p : Option Addr) (r2n r2c : Nat),
        v3 = .slice r2p r2n r2c ∧
        ifB (ra1 == (2 : Int)) (
          ifB (rb1 == (18 : Int)) (
            ifB (((r2n : Nat) : Int) == (1 : Int)) (
              ∃ a1, r2p = some a1 ∧ 0 ≤ (0 : Int) ∧ (0 : Int) < ((r2n : Nat) : Int) ∧
              ∃ (e1 : Int),
              wv4.cell? (a1.add ((0 : Int).toNat * 1)) = some (.int .i64 e1) ∧
              ifB (e1 == (1 : Int)) (
                CallsV prog F.queue_Queue_int_Counts #[.pointer r1] wv4 (fun v4 wv5 =>
                  ∃ (rCame1 : Int) (rWent1 : Int) (rRefused1 : Int) (rMost1 : Int),
                  v4 = .agg #[.int .i64 rCame1, .int .i64 rWent1, .int .i64 rRefused1, .int .i64 rMost1] ∧
                  K (.bool ((rCame1 == (2 : Int)) && ((rWent1 == (1 : Int)) && ((rRefused1 == (1 : Int)) && ((rMost1 == (2 : Int)) && true))))) wv5)) (
                K (.bool false) wv4)) (
              K (.bool false) wv4)) (
            K (.bool false) wv4)) (
          K (.bool false) wv4))))
def An.affluxlaw23_awake : Ann := ⟨[], [], []⟩
theorem R.affluxlaw23_awake  {w : World} {K : Value → World → Prop} (h : C.affluxlaw23_awake  w K) : CallsV prog F.affluxlaw23_awake #[] w K :=
  vcFn.calls (an := An.affluxlaw23_awake) mixed tabOK eqsOK Go.Proofs.Try.func9 (by kernel_rfl) (by kernel_rfl) (by kernel_rfl) ((by kernel_rfl : vcFn prog eqs tab An.affluxlaw23_awake Go.Proofs.Try.f9 [] w K = C.affluxlaw23_awake  w K).mpr h)

/-- afflux/queue.New[int] -/
def C.queue_New_int (room1 : Int) (w : World) (K : Value → World → Prop) : Prop :=
  ifB (decide (room1 < (1 : Int))) (
    K (.pointer none) w) (
    ifB (decide ((10000 : Int) < room1)) (
      K (.pointer none) w) (
      ∀ b1 wv1, New w (.cells #[.int .i64 0, .int .i64 0, .int .i64 0, .int .i64 0, .slice none 0 0, .int .i64 room1] T.queue_Queue_int) b1 wv1 →
      K (.pointer (some (Addr.mk b1 0 none))) wv1))
def An.queue_New_int : Ann := ⟨[], [], []⟩
theorem R.queue_New_int {room1 : Int} {w : World} {K : Value → World → Prop} (h : C.queue_New_int room1 w K) : CallsV prog F.queue_New_int #[.int .i64 room1] w K :=
  vcFn.calls (an := An.queue_New_int) mixed tabOK eqsOK Go.Proofs.Try.func10 (by kernel_rfl) (by kernel_rfl) (by kernel_rfl) ((by kernel_rfl : vcFn prog eqs tab An.queue_New_int Go.Proofs.Try.f10 [.int .i64 room1] w K = C.queue_New_int room1 w K).mpr h)

/-- (*afflux/queue.Queue[int]).Put -/
def C.queue_Queue_int_Put (q1 : Option Addr) (l1p : Option Addr) (l1n l1c : Nat) (w : World) (K : Value → World → Prop) : Prop :=
  ifB q1.isNone (
    K (.tuple #[.int .i64 0, .int .i64 1]) w) (
    CallsV prog F.queue_Queue_int_Free #[.pointer q1] w (fun v1 wv1 =>
      ∃ (r1 : Int),
      v1 = .int .i64 r1 ∧
      ∃ qa1, q1 = some qa1 ∧
      ∃ (l2p : Option Addr) (l2n l2c : Nat),
      wv1.drew.cell? (qa1.add 4) = some (.slice l2p l2n l2c) ∧
      0 ≤ mm2 false ((l1n : Nat) : Int) r1 ∧ mm2 false ((l1n : Nat) : Int) r1 ≤ ((l1c : Nat) : Int) ∧
      BuiltV prog .append #[T.s_int, T.s_int] T.s_int #[.slice l2p l2n l2c, .slice (cutAt l1p 0 l1c 1) (((mm2 false ((l1n : Nat) : Int) r1).toNat) - 0) (l1c - 0)] wv1.drew (fun v2 wv2 =>
        ∃ (a1p : Option Addr) (a1n a1c : Nat),
        v2 = .slice a1p a1n a1c ∧
        ∃ qa2, q1 = some qa2 ∧
        CanSt wv2 (qa2.add 4) ∧ ∀ wv3, wv3 = wv2.setCell (qa2.add 4) (.slice a1p a1n a1c) →
        ∃ qa3, q1 = some qa3 ∧
        ∃ qa4, q1 = some qa4 ∧
        ∃ (l3p : Option Addr) (l3n l3c : Nat),
        wv3.drew.cell? (qa4.add 4) = some (.slice l3p l3n l3c) ∧
        CallsV prog F.queue_Tally_came #[.pointer (some (qa3.add 0)), .int .i64 (mm2 false ((l1n : Nat) : Int) r1), .int .i64 ((l3n : Nat) : Int)] wv3.drew (fun v3 wv4 =>
          v3 = .tuple #[] ∧
          ∃ qa5, q1 = some qa5 ∧
          ∃ (Refused1 : Int),
          wv4.cell? ((qa5.add 0).add 2) = some (.int .i64 Refused1) ∧
          ∃ qa6, q1 = some qa6 ∧
          CanSt wv4 ((qa6.add 0).add 2) ∧ ∀ wv5, wv5 = wv4.setCell ((qa6.add 0).add 2) (.int .i64 (IntKind.i64.wrap (Refused1 + (IntKind.i64.wrap (((l1n : Nat) : Int) - (mm2 false ((l1n : Nat) : Int) r1)))))) →
          ifB (decide ((mm2 false ((l1n : Nat) : Int) r1) < ((l1n : Nat) : Int))) (
            K (.tuple #[.int .i64 (mm2 false ((l1n : Nat) : Int) r1), .int .i64 18]) wv5) (
            K (.tuple #[.int .i64 (mm2 false ((l1n : Nat) : Int) r1), .int .i64 0]) wv5)))))
def An.queue_Queue_int_Put : Ann := ⟨[(4, .sil 0 [] (.sil 1 [] (.sil 2 [] (.sil 3 [] (.sil 4 [] (.sil 5 [] (.sil 6 [] (.sil 7 [] (.act 8 (.sil 9 [] (.sil 10 [] (.act 11 (.done))))))))))))), (5, .sil 0 [] (.sil 1 [] (.sil 2 [] (.sil 3 [] (.sil 4 [] (.sil 5 [] (.sil 6 [] (.sil 7 [] (.sil 8 [] (.act 9 (.done)))))))))))], [], []⟩
theorem R.queue_Queue_int_Put {q1 : Option Addr} {l1p : Option Addr} {l1n l1c : Nat} {w : World} {K : Value → World → Prop} (h : C.queue_Queue_int_Put q1 l1p l1n l1c w K) : CallsV prog F.queue_Queue_int_Put #[.pointer q1, .slice l1p l1n l1c] w K :=
  vcFn.calls (an := An.queue_Queue_int_Put) mixed tabOK eqsOK Go.Proofs.Try.func11 (by kernel_rfl) (by kernel_rfl) (by kernel_rfl) ((by kernel_rfl : vcFn prog eqs tab An.queue_Queue_int_Put Go.Proofs.Try.f11 [.pointer q1, .slice l1p l1n l1c] w K = C.queue_Queue_int_Put q1 l1p l1n l1c w K).mpr h)

/-- afflux/affluxlaw23.same -/
def C.affluxlaw23_same (a1p : Option Addr) (a1n a1c : Nat) (b1p : Option Addr) (b1n b1c : Nat) (w : World) (K : Value → World → Prop) : Prop :=
  ifB (((a1n : Nat) : Int) != ((b1n : Nat) : Int)) (
    K (.bool false) w) (
    ∃ (Iv1 : Int → World → Prop) (m1 : Int → World → Nat),
    Iv1 0 w ∧
    ∀ (i1 : Int) wv1, Iv1 i1 wv1 →
    ifB (decide (i1 < ((a1n : Nat) : Int))) (
      ∃ a2, a1p = some a2 ∧ 0 ≤ i1 ∧ i1 < ((a1n : Nat) : Int) ∧
      ∃ (e1 : Int),
      wv1.drew.cell? (a2.add (i1.toNat * 1)) = some (.int .i64 e1) ∧
      ∃ a3, b1p = some a3 ∧ 0 ≤ i1 ∧ i1 < ((b1n : Nat) : Int) ∧
      ∃ (e2 : Int),
      wv1.drew.cell? (a3.add (i1.toNat * 1)) = some (.int .i64 e2) ∧
      ifB (e1 != e2) (
        K (.bool false) wv1.drew) (
        Iv1 (IntKind.i64.wrap (i1 + (1 : Int))) wv1.drew ∧ m1 (IntKind.i64.wrap (i1 + (1 : Int))) wv1.drew < m1 i1 wv1)) (
      K (.bool true) wv1))
def An.affluxlaw23_same : Ann := ⟨[(6, .sil 0 [] (.sil 1 [] (.sil 2 [] (.sil 3 [] (.sil 4 [] (.sil 5 [] (.sil 6 [] (.sil 7 [] (.sil 8 [] (.done))))))))))], [(4, [(5, 3)], [0, 1])], []⟩
theorem R.affluxlaw23_same {a1p : Option Addr} {a1n a1c : Nat} {b1p : Option Addr} {b1n b1c : Nat} {w : World} {K : Value → World → Prop} (h : C.affluxlaw23_same a1p a1n a1c b1p b1n b1c w K) : CallsV prog F.affluxlaw23_same #[.slice a1p a1n a1c, .slice b1p b1n b1c] w K :=
  vcFn.calls (an := An.affluxlaw23_same) mixed tabOK eqsOK Go.Proofs.Try.func12 (by kernel_rfl) (by kernel_rfl) (by kernel_rfl) ((by kernel_rfl : vcFn prog eqs tab An.affluxlaw23_same Go.Proofs.Try.f12 [.slice a1p a1n a1c, .slice b1p b1n b1c] w K = C.affluxlaw23_same a1p a1n a1c b1p b1n b1c w K).mpr h)

/-- (*afflux/queue.Queue[int]).Take -/
def C.queue_Queue_int_Take (q1 : Option Addr) (n1 : Int) (w : World) (K : Value → World → Prop) : Prop :=
  CallsV prog F.queue_Queue_int_Len #[.pointer q1] w (fun v1 wv1 =>
    ∃ (r1 : Int),
    v1 = .int .i64 r1 ∧
    ifB ((mm2 false (mm2 true n1 0) r1) == (0 : Int)) (
      K (.slice none 0 0) wv1) (
      ∃ qa1, q1 = some qa1 ∧
      ∃ (l1p : Option Addr) (l1n l1c : Nat),
      wv1.cell? (qa1.add 4) = some (.slice l1p l1n l1c) ∧
      0 ≤ mm2 false (mm2 true n1 0) r1 ∧ mm2 false (mm2 true n1 0) r1 ≤ ((l1c : Nat) : Int) ∧
      CallsV prog F.slices_Clone_int_int #[.slice (cutAt l1p 0 l1c 1) (((mm2 false (mm2 true n1 0) r1).toNat) - 0) (l1c - 0)] wv1 (fun v2 wv2 =>
        ∃ (r2p : Option Addr) (r2n r2c : Nat),
        v2 = .slice r2p r2n r2c ∧
        ∃ qa2, q1 = some qa2 ∧
        ∃ (l2p : Option Addr) (l2n l2c : Nat),
        wv2.cell? (qa2.add 4) = some (.slice l2p l2n l2c) ∧
        CallsV prog F.slices_Delete_int_int #[.slice l2p l2n l2c, .int .i64 0, .int .i64 (mm2 false (mm2 true n1 0) r1)] wv2 (fun v3 wv3 =>
          ∃ (r3p : Option Addr) (r3n r3c : Nat),
          v3 = .slice r3p r3n r3c ∧
          ∃ qa3, q1 = some qa3 ∧
          CanSt wv3 (qa3.add 4) ∧ ∀ wv4, wv4 = wv3.setCell (qa3.add 4) (.slice r3p r3n r3c) →
          ∃ qa4, q1 = some qa4 ∧
          ∃ (Went1 : Int),
          wv4.cell? ((qa4.add 0).add 1) = some (.int .i64 Went1) ∧
          ∃ qa5, q1 = some qa5 ∧
          CanSt wv4 ((qa5.add 0).add 1) ∧ ∀ wv5, wv5 = wv4.setCell ((qa5.add 0).add 1) (.int .i64 (IntKind.i64.wrap (Went1 + (mm2 false (mm2 true n1 0) r1)))) →
          K (.slice r2p r2n r2c) wv5))))
def An.queue_Queue_int_Take : Ann := ⟨[], [], []⟩
theorem R.queue_Queue_int_Take {q1 : Option Addr} {n1 : Int} {w : World} {K : Value → World → Prop} (h : C.queue_Queue_int_Take q1 n1 w K) : CallsV prog F.queue_Queue_int_Take #[.pointer q1, .int .i64 n1] w K :=
  vcFn.calls (an := An.queue_Queue_int_Take) mixed tabOK eqsOK Go.Proofs.Try.func13 (by kernel_rfl) (by kernel_rfl) (by kernel_rfl) ((by kernel_rfl : vcFn prog eqs tab An.queue_Queue_int_Take Go.Proofs.Try.f13 [.pointer q1, .int .i64 n1] w K = C.queue_Queue_int_Take q1 n1 w K).mpr h)

/-- (*afflux/queue.Queue[int]).Remove -/
def C.queue_Queue_int_Remove (q1 : Option Addr) (i1 : Int) (w : World) (K : Value → World → Prop) : Prop :=
  CallsV prog F.queue_Queue_int_At #[.pointer q1, .int .i64 i1] w (fun v1 wv1 =>
    ∃ (ra1 : Int) (rb1 : Bool),
    v1 = .tuple #[.int .i64 ra1, .bool rb1] ∧
    ifB rb1 (
      ∃ qa1, q1 = some qa1 ∧
      ∃ (l1p : Option Addr) (l1n l1c : Nat),
      wv1.cell? (qa1.add 4) = some (.slice l1p l1n l1c) ∧
      CallsV prog F.slices_Delete_int_int #[.slice l1p l1n l1c, .int .i64 i1, .int .i64 (IntKind.i64.wrap (i1 + (1 : Int)))] wv1 (fun v2 wv2 =>
        ∃ (r1p : Option Addr) (r1n r1c : Nat),
        v2 = .slice r1p r1n r1c ∧
        ∃ qa2, q1 = some qa2 ∧
        CanSt wv2 (qa2.add 4) ∧ ∀ wv3, wv3 = wv2.setCell (qa2.add 4) (.slice r1p r1n r1c) →
        ∃ qa3, q1 = some qa3 ∧
        ∃ (Went1 : Int),
        wv3.cell? ((qa3.add 0).add 1) = some (.int .i64 Went1) ∧
        ∃ qa4, q1 = some qa4 ∧
        CanSt wv3 ((qa4.add 0).add 1) ∧ ∀ wv4, wv4 = wv3.setCell ((qa4.add 0).add 1) (.int .i64 (IntKind.i64.wrap (Went1 + (1 : Int)))) →
        K (.tuple #[.int .i64 ra1, .bool rb1]) wv4)) (
      K (.tuple #[.int .i64 ra1, .bool rb1]) wv1))
def An.queue_Queue_int_Remove : Ann := ⟨[], [], []⟩
theorem R.queue_Queue_int_Remove {q1 : Option Addr} {i1 : Int} {w : World} {K : Value → World → Prop} (h : C.queue_Queue_int_Remove q1 i1 w K) : CallsV prog F.queue_Queue_int_Remove #[.pointer q1, .int .i64 i1] w K :=
  vcFn.calls (an := An.queue_Queue_int_Remove) mixed tabOK eqsOK Go.Proofs.Try.func14 (by kernel_rfl) (by kernel_rfl) (by kernel_rfl) ((by kernel_rfl : vcFn prog eqs tab An.queue_Queue_int_Remove Go.Proofs.Try.f14 [.pointer q1, .int .i64 i1] w K = C.queue_Queue_int_Remove q1 i1 w K).mpr h)

/-- afflux/affluxlaw23.looks -/
def C.affluxlaw23_looks (q1 : Option Addr) (now1p : Option Addr) (now1n now1c : Nat) (room1 : Int) (ask1 : Int) (w : World) (K : Value → World → Prop) : Prop :=
  ∃ (Iv1 : Int → World → Prop) (m1 : Int → World → Nat),
  Iv1 0 w ∧
  ∀ (i1 : Int) wv1, Iv1 i1 wv1 →
  ifB (decide (i1 < ((now1n : Nat) : Int))) (
    CallsV prog F.queue_Queue_int_At #[.pointer q1, .int .i64 i1] wv1 (fun v1 wv2 =>
      ∃ (ra1 : Int) (rb1 : Bool),
      v1 = .tuple #[.int .i64 ra1, .bool rb1] ∧
      ∃ a1, now1p = some a1 ∧ 0 ≤ i1 ∧ i1 < ((now1n : Nat) : Int) ∧
      ∃ (e1 : Int),
      wv2.cell? (a1.add (i1.toNat * 1)) = some (.int .i64 e1) ∧
      ifB (ra1 != e1) (
        K (.bool false) wv2) (
        ifB (!rb1) (
          K (.bool false) wv2) (
          Iv1 (IntKind.i64.wrap (i1 + (1 : Int))) wv2 ∧ m1 (IntKind.i64.wrap (i1 + (1 : Int))) wv2 < m1 i1 wv1)))) (
    CallsV prog F.queue_Queue_int_At #[.pointer q1, .int .i64 ask1] wv1 (fun v2 wv3 =>
      ∃ (ra2 : Int) (rb2 : Bool),
      v2 = .tuple #[.int .i64 ra2, .bool rb2] ∧
      ifB (decide ((0 : Int) ≤ ask1)) (
        CallsV prog F.queue_Queue_int_Len #[.pointer q1] wv3 (fun v3 wv4 =>
          ∃ (r1 : Int),
          v3 = .int .i64 r1 ∧
          ifB (r1 == ((now1n : Nat) : Int)) (
            CallsV prog F.queue_Queue_int_Free #[.pointer q1] wv4 (fun v4 wv5 =>
              ∃ (r2 : Int),
              v4 = .int .i64 r2 ∧
              ifB (r2 == (IntKind.i64.wrap (room1 - ((now1n : Nat) : Int)))) (
                ifB (rb2 == (decide (ask1 < ((now1n : Nat) : Int)))) (
                  ifB (decide (ask1 < ((now1n : Nat) : Int))) (
                    K (.bool true) wv5) (
                    K (.bool (ra2 == (0 : Int))) wv5)) (
                  K (.bool false) wv5)) (
                K (.bool false) wv5))) (
            K (.bool false) wv4))) (
        CallsV prog F.queue_Queue_int_Len #[.pointer q1] wv3 (fun v5 wv6 =>
          ∃ (r3 : Int),
          v5 = .int .i64 r3 ∧
          ifB (r3 == ((now1n : Nat) : Int)) (
            CallsV prog F.queue_Queue_int_Free #[.pointer q1] wv6 (fun v6 wv7 =>
              ∃ (r4 : Int),
              v6 = .int .i64 r4 ∧
              ifB (r4 == (IntKind.i64.wrap (room1 - ((now1n : Nat) : Int)))) (
                ifB (rb2 == false) (
                  K (.bool (ra2 == (0 : Int))) wv7) (
                  K (.bool false) wv7)) (
                K (.bool false) wv7))) (
            K (.bool false) wv6)))))
def An.affluxlaw23_looks : Ann := ⟨[], [(2, [(9, 3)], [0, 1, 2, 3])], []⟩
theorem R.affluxlaw23_looks {q1 : Option Addr} {now1p : Option Addr} {now1n now1c : Nat} {room1 : Int} {ask1 : Int} {w : World} {K : Value → World → Prop} (h : C.affluxlaw23_looks q1 now1p now1n now1c room1 ask1 w K) : CallsV prog F.affluxlaw23_looks #[.pointer q1, .slice now1p now1n now1c, .int .i64 room1, .int .i64 ask1] w K :=
  vcFn.calls (an := An.affluxlaw23_looks) mixed tabOK eqsOK Go.Proofs.Try.func15 (by kernel_rfl) (by kernel_rfl) (by kernel_rfl) ((by kernel_rfl : vcFn prog eqs tab An.affluxlaw23_looks Go.Proofs.Try.f15 [.pointer q1, .slice now1p now1n now1c, .int .i64 room1, .int .i64 ask1] w K = C.affluxlaw23_looks q1 now1p now1n now1c room1 ask1 w K).mpr h)

/-- (*afflux/queue.Queue[int]).Counts -/
def C.queue_Queue_int_Counts (q1 : Option Addr) (w : World) (K : Value → World → Prop) : Prop :=
  ∀ b1 wv1, New w (.cells #[.int .i64 0, .int .i64 0, .int .i64 0, .int .i64 0] T.queue_Tally) b1 wv1 →
  ifB q1.isNone (
    CanSt wv1 ((Addr.mk b1 0 none).add 0) ∧ ∀ wv2, wv2 = wv1.setCell ((Addr.mk b1 0 none).add 0) (.int .i64 0) →
    CanSt wv2 ((Addr.mk b1 0 none).add 1) ∧ ∀ wv3, wv3 = wv2.setCell ((Addr.mk b1 0 none).add 1) (.int .i64 0) →
    CanSt wv3 ((Addr.mk b1 0 none).add 2) ∧ ∀ wv4, wv4 = wv3.setCell ((Addr.mk b1 0 none).add 2) (.int .i64 0) →
    CanSt wv4 ((Addr.mk b1 0 none).add 3) ∧ ∀ wv5, wv5 = wv4.setCell ((Addr.mk b1 0 none).add 3) (.int .i64 0) →
    ∃ (xCame1 : Int) (xWent1 : Int) (xRefused1 : Int) (xMost1 : Int),
    cellsAt wv5 (Addr.mk b1 0 none) 0 [.int .i64 xCame1, .int .i64 xWent1, .int .i64 xRefused1, .int .i64 xMost1] ∧
    K (.agg #[.int .i64 xCame1, .int .i64 xWent1, .int .i64 xRefused1, .int .i64 xMost1]) wv5) (
    ∃ qa1, q1 = some qa1 ∧
    ∃ (TallyCame1 : Int) (TallyWent1 : Int) (TallyRefused1 : Int) (TallyMost1 : Int),
    cellsAt wv1 (qa1.add 0) 0 [.int .i64 TallyCame1, .int .i64 TallyWent1, .int .i64 TallyRefused1, .int .i64 TallyMost1] ∧
    CanSt wv1 ((Addr.mk b1 0 none).add 0) ∧ ∀ wv6, wv6 = wv1.setCell ((Addr.mk b1 0 none).add 0) (.int .i64 TallyCame1) →
    CanSt wv6 ((Addr.mk b1 0 none).add 1) ∧ ∀ wv7, wv7 = wv6.setCell ((Addr.mk b1 0 none).add 1) (.int .i64 TallyWent1) →
    CanSt wv7 ((Addr.mk b1 0 none).add 2) ∧ ∀ wv8, wv8 = wv7.setCell ((Addr.mk b1 0 none).add 2) (.int .i64 TallyRefused1) →
    CanSt wv8 ((Addr.mk b1 0 none).add 3) ∧ ∀ wv9, wv9 = wv8.setCell ((Addr.mk b1 0 none).add 3) (.int .i64 TallyMost1) →
    ∃ (xCame2 : Int) (xWent2 : Int) (xRefused2 : Int) (xMost2 : Int),
    cellsAt wv9 (Addr.mk b1 0 none) 0 [.int .i64 xCame2, .int .i64 xWent2, .int .i64 xRefused2, .int .i64 xMost2] ∧
    K (.agg #[.int .i64 xCame2, .int .i64 xWent2, .int .i64 xRefused2, .int .i64 xMost2]) wv9)
def An.queue_Queue_int_Counts : Ann := ⟨[], [], []⟩
theorem R.queue_Queue_int_Counts {q1 : Option Addr} {w : World} {K : Value → World → Prop} (h : C.queue_Queue_int_Counts q1 w K) : CallsV prog F.queue_Queue_int_Counts #[.pointer q1] w K :=
  vcFn.calls (an := An.queue_Queue_int_Counts) mixed tabOK eqsOK Go.Proofs.Try.func16 (by kernel_rfl) (by kernel_rfl) (by kernel_rfl) ((by kernel_rfl : vcFn prog eqs tab An.queue_Queue_int_Counts Go.Proofs.Try.f16 [.pointer q1] w K = C.queue_Queue_int_Counts q1 w K).mpr h)

/-- (*afflux/queue.Queue[int]).At -/
def C.queue_Queue_int_At (q1 : Option Addr) (i1 : Int) (w : World) (K : Value → World → Prop) : Prop :=
  ifB (decide (i1 < (0 : Int))) (
    K (.tuple #[.int .i64 0, .bool false]) w) (
    CallsV prog F.queue_Queue_int_Len #[.pointer q1] w (fun v1 wv1 =>
      ∃ (r1 : Int),
      v1 = .int .i64 r1 ∧
      ifB (decide (r1 ≤ i1)) (
        K (.tuple #[.int .i64 0, .bool false]) wv1) (
        ∃ qa1, q1 = some qa1 ∧
        ∃ (l1p : Option Addr) (l1n l1c : Nat),
        wv1.cell? (qa1.add 4) = some (.slice l1p l1n l1c) ∧
        ∃ a1, l1p = some a1 ∧ 0 ≤ i1 ∧ i1 < ((l1n : Nat) : Int) ∧
        ∃ (e1 : Int),
        wv1.cell? (a1.add (i1.toNat * 1)) = some (.int .i64 e1) ∧
        K (.tuple #[.int .i64 e1, .bool true]) wv1)))
def An.queue_Queue_int_At : Ann := ⟨[], [], []⟩
theorem R.queue_Queue_int_At {q1 : Option Addr} {i1 : Int} {w : World} {K : Value → World → Prop} (h : C.queue_Queue_int_At q1 i1 w K) : CallsV prog F.queue_Queue_int_At #[.pointer q1, .int .i64 i1] w K :=
  vcFn.calls (an := An.queue_Queue_int_At) mixed tabOK eqsOK Go.Proofs.Try.func17 (by kernel_rfl) (by kernel_rfl) (by kernel_rfl) ((by kernel_rfl : vcFn prog eqs tab An.queue_Queue_int_At Go.Proofs.Try.f17 [.pointer q1, .int .i64 i1] w K = C.queue_Queue_int_At q1 i1 w K).mpr h)

/-- (*afflux/queue.Queue[int]).Len -/
def C.queue_Queue_int_Len (q1 : Option Addr) (w : World) (K : Value → World → Prop) : Prop :=
  ifB q1.isNone (
    K (.int .i64 0) w) (
    ∃ qa1, q1 = some qa1 ∧
    ∃ (l1p : Option Addr) (l1n l1c : Nat),
    w.cell? (qa1.add 4) = some (.slice l1p l1n l1c) ∧
    K (.int .i64 ((l1n : Nat) : Int)) w)
def An.queue_Queue_int_Len : Ann := ⟨[], [], []⟩
theorem R.queue_Queue_int_Len {q1 : Option Addr} {w : World} {K : Value → World → Prop} (h : C.queue_Queue_int_Len q1 w K) : CallsV prog F.queue_Queue_int_Len #[.pointer q1] w K :=
  vcFn.calls (an := An.queue_Queue_int_Len) mixed tabOK eqsOK Go.Proofs.Try.func18 (by kernel_rfl) (by kernel_rfl) (by kernel_rfl) ((by kernel_rfl : vcFn prog eqs tab An.queue_Queue_int_Len Go.Proofs.Try.f18 [.pointer q1] w K = C.queue_Queue_int_Len q1 w K).mpr h)

/-- (*afflux/queue.Queue[int]).Free -/
def C.queue_Queue_int_Free (q1 : Option Addr) (w : World) (K : Value → World → Prop) : Prop :=
  ifB q1.isNone (
    K (.int .i64 0) w) (
    ∃ qa1, q1 = some qa1 ∧
    ∃ (room1 : Int),
    w.drew.cell? (qa1.add 5) = some (.int .i64 room1) ∧
    ∃ qa2, q1 = some qa2 ∧
    ∃ (l1p : Option Addr) (l1n l1c : Nat),
    w.drew.cell? (qa2.add 4) = some (.slice l1p l1n l1c) ∧
    K (.int .i64 (IntKind.i64.wrap (room1 - ((l1n : Nat) : Int)))) w.drew)
def An.queue_Queue_int_Free : Ann := ⟨[(3, .sil 0 [] (.sil 1 [] (.sil 2 [] (.sil 3 [] (.sil 4 [] (.sil 5 [] (.sil 6 [] (.sil 7 [] (.sil 8 [] (.sil 9 [] (.sil 10 [] (.done))))))))))))], [], []⟩
theorem R.queue_Queue_int_Free {q1 : Option Addr} {w : World} {K : Value → World → Prop} (h : C.queue_Queue_int_Free q1 w K) : CallsV prog F.queue_Queue_int_Free #[.pointer q1] w K :=
  vcFn.calls (an := An.queue_Queue_int_Free) mixed tabOK eqsOK Go.Proofs.Try.func19 (by kernel_rfl) (by kernel_rfl) (by kernel_rfl) ((by kernel_rfl : vcFn prog eqs tab An.queue_Queue_int_Free Go.Proofs.Try.f19 [.pointer q1] w K = C.queue_Queue_int_Free q1 w K).mpr h)

/-- afflux/affluxlaw19.great -/
def C.affluxlaw19_great (wName1 : ByteArray) (wOn1 : ByteArray) (wOwner1 : ByteArray) (wBatches1 : Bool) (wSize1 : Int) (wSlide1 : Int) (cols1p : Option Addr) (cols1n cols1c : Nat) (l1p : Option Addr) (l1n l1c : Nat) (w : World) (K : Value → World → Prop) : Prop :=
  ∀ b1 wv1, New w (.cells #[.string wName1, .string wOn1, .string wOwner1, .bool wBatches1, .int .i64 wSize1, .int .i64 wSlide1] T.api_Window) b1 wv1 →
  ∃ Jv1 : World → Prop,
  (ifB (decide ((8 : Int) < ((cols1n : Nat) : Int))) (
    K (.bool true) wv1) (
    ifB (decide ((20 : Int) < ((l1n : Nat) : Int))) (
      K (.bool true) wv1) (
      ∃ (Name1 : ByteArray),
      wv1.cell? ((Addr.mk b1 0 none).add 0) = some (.string Name1) ∧
      ifB (decide ((100 : Int) < ((Name1.size : Nat) : Int))) (
        K (.bool true) wv1) (
        ∃ (On1 : ByteArray),
        wv1.cell? ((Addr.mk b1 0 none).add 1) = some (.string On1) ∧
        ifB (decide ((100 : Int) < ((On1.size : Nat) : Int))) (
          K (.bool true) wv1) (
          ∃ (Owner1 : ByteArray),
          wv1.cell? ((Addr.mk b1 0 none).add 2) = some (.string Owner1) ∧
          ifB (decide ((100 : Int) < ((Owner1.size : Nat) : Int))) (
            K (.bool true) wv1) (
            Jv1 wv1)))))) ∧
  (∀ wv2, Jv1 wv2 →
  ∃ (Iv1 : Int → World → Prop) (m1 : Int → World → Nat),
  Iv1 0 wv2 ∧
  ∀ (i1 : Int) wv3, Iv1 i1 wv3 →
  ifB (decide (i1 < ((l1n : Nat) : Int))) (
    ∃ a1, l1p = some a1 ∧ 0 ≤ i1 ∧ i1 < ((l1n : Nat) : Int) ∧
    ∃ (e1p : Option Addr) (e1n e1c : Nat),
    wv3.cell? (a1.add (i1.toNat * 1)) = some (.slice e1p e1n e1c) ∧
    ifB (decide ((10 : Int) < ((e1n : Nat) : Int))) (
      K (.bool true) wv3) (
      ∃ (Iv2 : Int → World → Prop) (m2 : Int → World → Nat),
      Iv2 0 wv3 ∧
      ∀ (k1 : Int) wv4, Iv2 k1 wv4 →
      ∃ a2, l1p = some a2 ∧ 0 ≤ i1 ∧ i1 < ((l1n : Nat) : Int) ∧
      ∃ (e2p : Option Addr) (e2n e2c : Nat),
      wv4.cell? (a2.add (i1.toNat * 1)) = some (.slice e2p e2n e2c) ∧
      ifB (decide (k1 < ((e2n : Nat) : Int))) (
        ∃ a3, l1p = some a3 ∧ 0 ≤ i1 ∧ i1 < ((l1n : Nat) : Int) ∧
        ∃ (e3p : Option Addr) (e3n e3c : Nat),
        wv4.cell? (a3.add (i1.toNat * 1)) = some (.slice e3p e3n e3c) ∧
        ∃ a4, e3p = some a4 ∧ 0 ≤ k1 ∧ k1 < ((e3n : Nat) : Int) ∧
        ∃ (Rows1p : Option Addr) (Rows1n Rows1c : Nat),
        wv4.cell? ((a4.add (k1.toNat * 2)).add 1) = some (.slice Rows1p Rows1n Rows1c) ∧
        ifB (decide ((40 : Int) < ((Rows1n : Nat) : Int))) (
          K (.bool true) wv4) (
          ∃ (Iv3 : Int → World → Prop) (m3 : Int → World → Nat),
          Iv3 0 wv4 ∧
          ∀ (j1 : Int) wv5, Iv3 j1 wv5 →
          ∃ a5, l1p = some a5 ∧ 0 ≤ i1 ∧ i1 < ((l1n : Nat) : Int) ∧
          ∃ (e4p : Option Addr) (e4n e4c : Nat),
          wv5.cell? (a5.add (i1.toNat * 1)) = some (.slice e4p e4n e4c) ∧
          ∃ a6, e4p = some a6 ∧ 0 ≤ k1 ∧ k1 < ((e4n : Nat) : Int) ∧
          ∃ (Rows2p : Option Addr) (Rows2n Rows2c : Nat),
          wv5.cell? ((a6.add (k1.toNat * 2)).add 1) = some (.slice Rows2p Rows2n Rows2c) ∧
          ifB (decide (j1 < ((Rows2n : Nat) : Int))) (
            ∃ a7, l1p = some a7 ∧ 0 ≤ i1 ∧ i1 < ((l1n : Nat) : Int) ∧
            ∃ (e5p : Option Addr) (e5n e5c : Nat),
            wv5.cell? (a7.add (i1.toNat * 1)) = some (.slice e5p e5n e5c) ∧
            ∃ a8, e5p = some a8 ∧ 0 ≤ k1 ∧ k1 < ((e5n : Nat) : Int) ∧
            ∃ (Rows3p : Option Addr) (Rows3n Rows3c : Nat),
            wv5.cell? ((a8.add (k1.toNat * 2)).add 1) = some (.slice Rows3p Rows3n Rows3c) ∧
            ∃ a9, Rows3p = some a9 ∧ 0 ≤ j1 ∧ j1 < ((Rows3n : Nat) : Int) ∧
            ∃ (e6p : Option Addr) (e6n e6c : Nat),
            wv5.cell? (a9.add (j1.toNat * 1)) = some (.slice e6p e6n e6c) ∧
            CallsV prog F.affluxref02_Great #[.slice e6p e6n e6c] wv5 (fun v1 wv6 =>
              ∃ (r1 : Bool),
              v1 = .bool r1 ∧
              ifB r1 (
                K (.bool true) wv6) (
                Iv3 (IntKind.i64.wrap (j1 + (1 : Int))) wv6 ∧ m3 (IntKind.i64.wrap (j1 + (1 : Int))) wv6 < m3 j1 wv5))) (
            Iv2 (IntKind.i64.wrap (k1 + (1 : Int))) wv5 ∧ m2 (IntKind.i64.wrap (k1 + (1 : Int))) wv5 < m2 k1 wv4))) (
        Iv1 (IntKind.i64.wrap (i1 + (1 : Int))) wv4 ∧ m1 (IntKind.i64.wrap (i1 + (1 : Int))) wv4 < m1 i1 wv3))) (
    K (.bool false) wv3))
def An.affluxlaw19_great : Ann := ⟨[], [(4, [(7, 3)], [2]), (9, [(8, 3)], [2, 7]), (14, [(9, 3)], [2, 7, 8])], [(3, [], [1, 2, 3])]⟩
theorem R.affluxlaw19_great {wName1 : ByteArray} {wOn1 : ByteArray} {wOwner1 : ByteArray} {wBatches1 : Bool} {wSize1 : Int} {wSlide1 : Int} {cols1p : Option Addr} {cols1n cols1c : Nat} {l1p : Option Addr} {l1n l1c : Nat} {w : World} {K : Value → World → Prop} (h : C.affluxlaw19_great wName1 wOn1 wOwner1 wBatches1 wSize1 wSlide1 cols1p cols1n cols1c l1p l1n l1c w K) : CallsV prog F.affluxlaw19_great #[.agg #[.string wName1, .string wOn1, .string wOwner1, .bool wBatches1, .int .i64 wSize1, .int .i64 wSlide1], .slice cols1p cols1n cols1c, .slice l1p l1n l1c] w K :=
  vcFn.calls (an := An.affluxlaw19_great) mixed tabOK eqsOK Go.Proofs.Try.func20 (by kernel_rfl) (by kernel_rfl) (by kernel_rfl) ((by kernel_rfl : vcFn prog eqs tab An.affluxlaw19_great Go.Proofs.Try.f20 [.agg #[.string wName1, .string wOn1, .string wOwner1, .bool wBatches1, .int .i64 wSize1, .int .i64 wSlide1], .slice cols1p cols1n cols1c, .slice l1p l1n l1c] w K = C.affluxlaw19_great wName1 wOn1 wOwner1 wBatches1 wSize1 wSlide1 cols1p cols1n cols1c l1p l1n l1c w K).mpr h)

/-- afflux/affluxlaw19.awake -/
def C.affluxlaw19_awake  (w : World) (K : Value → World → Prop) : Prop :=
  ∀ b1 wv1, New w (.cells #[.string (bs [97]), .int .i64 1] T.api_Column) b1 wv1 →
  CallsV prog F.window_New #[.agg #[.string (bs [119]), .string (bs [115]), .string (bs [112]), .bool false, .int .i64 3, .int .i64 2], .slice (some (Addr.mk b1 0 none)) 1 1] wv1 (fun v1 wv2 =>
    ∃ (ra1 : Option Addr) (rb1 : Int),
    v1 = .tuple #[.pointer ra1, .int .i64 rb1] ∧
    CallsV prog F.affluxlaw19_num #[.int .i64 1] wv2 (fun v2 wv3 =>
      ∃ (r1p : Option Addr) (r1n r1c : Nat),
      v2 = .slice r1p r1n r1c ∧
      CallsV prog F.affluxlaw19_num #[.int .i64 2] wv3 (fun v3 wv4 =>
        ∃ (r2p : Option Addr) (r2n r2c : Nat),
        v3 = .slice r2p r2n r2c ∧
        CallsV prog F.affluxlaw19_num #[.int .i64 3] wv4 (fun v4 wv5 =>
          ∃ (r3p : Option Addr) (r3n r3c : Nat),
          v4 = .slice r3p r3n r3c ∧
          ∀ b2 wv6, New wv5 (.cells #[.slice r1p r1n r1c, .slice r2p r2n r2c, .slice r3p r3n r3c] T.s_api_Value) b2 wv6 →
          CallsV prog F.affluxlaw19_num #[.int .i64 4] wv6 (fun v5 wv7 =>
            ∃ (r4p : Option Addr) (r4n r4c : Nat),
            v5 = .slice r4p r4n r4c ∧
            CallsV prog F.affluxlaw19_num #[.int .i64 5] wv7 (fun v6 wv8 =>
              ∃ (r5p : Option Addr) (r5n r5c : Nat),
              v6 = .slice r5p r5n r5c ∧
              ∀ b3 wv9, New wv8 (.cells #[.slice r4p r4n r4c, .slice r5p r5n r5c] T.s_api_Value) b3 wv9 →
              ∀ b4 wv10, New wv9 (.cells #[.int .i64 1, .slice (some (Addr.mk b2 0 none)) 3 3, .int .i64 2, .slice (some (Addr.mk b3 0 none)) 2 2] T.stream_Batch) b4 wv10 →
              CallsV prog F.window_Window_Put #[.pointer ra1, .pointer none, .slice (some (Addr.mk b4 0 none)) 2 2] wv10 (fun v7 wv11 =>
                ∃ (ra2 : Int) (rb2 : Int),
                v7 = .tuple #[.int .i64 ra2, .int .i64 rb2] ∧
                ifB (rb1 == (0 : Int)) (
                  ifB (rb2 == (0 : Int)) (
                    ifB (ra2 == (2 : Int)) (
                      CallsV prog F.window_Window_Rows #[.pointer ra1] wv11 (fun v8 wv12 =>
                        ∃ (r6p : Option Addr) (r6n r6c : Nat),
                        v8 = .slice r6p r6n r6c ∧
                        CallsV prog F.affluxlaw19_num #[.int .i64 2] wv12 (fun v9 wv13 =>
                          ∃ (r7p : Option Addr) (r7n r7c : Nat),
                          v9 = .slice r7p r7n r7c ∧
                          CallsV prog F.affluxlaw19_num #[.int .i64 3] wv13 (fun v10 wv14 =>
                            ∃ (r8p : Option Addr) (r8n r8c : Nat),
                            v10 = .slice r8p r8n r8c ∧
                            CallsV prog F.affluxlaw19_num #[.int .i64 4] wv14 (fun v11 wv15 =>
                              ∃ (r9p : Option Addr) (r9n r9c : Nat),
                              v11 = .slice r9p r9n r9c ∧
                              ∀ b5 wv16, New wv15 (.cells #[.slice r7p r7n r7c, .slice r8p r8n r8c, .slice r9p r9n r9c] T.s_api_Value) b5 wv16 →
                              CallsV prog F.affluxref04_Same #[.slice r6p r6n r6c, .slice (some (Addr.mk b5 0 none)) 3 3] wv16 (fun v12 wv17 =>
                                ∃ (r10 : Bool),
                                v12 = .bool r10 ∧
                                ifB r10 (
                                  CallsV prog F.window_Window_Staged #[.pointer ra1] wv17 (fun v13 wv18 =>
                                    ∃ (r11 : Int),
                                    v13 = .int .i64 r11 ∧
                                    K (.bool (r11 == (1 : Int))) wv18)) (
                                  K (.bool false) wv17))))))) (
                      K (.bool false) wv11)) (
                    K (.bool false) wv11)) (
                  K (.bool false) wv11))))))))
def An.affluxlaw19_awake : Ann := ⟨[], [], []⟩
theorem R.affluxlaw19_awake  {w : World} {K : Value → World → Prop} (h : C.affluxlaw19_awake  w K) : CallsV prog F.affluxlaw19_awake #[] w K :=
  vcFn.calls (an := An.affluxlaw19_awake) mixed tabOK eqsOK Go.Proofs.Try.func21 (by kernel_rfl) (by kernel_rfl) (by kernel_rfl) ((by kernel_rfl : vcFn prog eqs tab An.affluxlaw19_awake Go.Proofs.Try.f21 [] w K = C.affluxlaw19_awake  w K).mpr h)

/-- afflux/window.New -/
def C.window_New (wName1 : ByteArray) (wOn1 : ByteArray) (wOwner1 : ByteArray) (wBatches1 : Bool) (wSize1 : Int) (wSlide1 : Int) (cols1p : Option Addr) (cols1n cols1c : Nat) (w : World) (K : Value → World → Prop) : Prop :=
  ∀ b1 wv1, New w (.cells #[.string wName1, .string wOn1, .string wOwner1, .bool wBatches1, .int .i64 wSize1, .int .i64 wSlide1] T.api_Window) b1 wv1 →
  ∃ (xName1 : ByteArray) (xOn1 : ByteArray) (xOwner1 : ByteArray) (xBatches1 : Bool) (xSize1 : Int) (xSlide1 : Int),
  cellsAt wv1 (Addr.mk b1 0 none) 0 [.string xName1, .string xOn1, .string xOwner1, .bool xBatches1, .int .i64 xSize1, .int .i64 xSlide1] ∧
  CallsV prog F.window_Right #[.agg #[.string xName1, .string xOn1, .string xOwner1, .bool xBatches1, .int .i64 xSize1, .int .i64 xSlide1]] wv1 (fun v1 wv2 =>
    ∃ (r1 : Bool),
    v1 = .bool r1 ∧
    ifB (!r1) (
      K (.tuple #[.pointer none, .int .i64 1]) wv2) (
      ∃ (xName2 : ByteArray) (xOn2 : ByteArray) (xOwner2 : ByteArray) (xBatches2 : Bool) (xSize2 : Int) (xSlide2 : Int),
      cellsAt wv2.drew (Addr.mk b1 0 none) 0 [.string xName2, .string xOn2, .string xOwner2, .bool xBatches2, .int .i64 xSize2, .int .i64 xSlide2] ∧
      CallsV prog F.slices_Clone_api_Column_api_Column #[.slice cols1p cols1n cols1c] wv2.drew (fun v2 wv3 =>
        ∃ (r2p : Option Addr) (r2n r2c : Nat),
        v2 = .slice r2p r2n r2c ∧
        cellsAt wv3 (Addr.mk b1 0 none) 0 [.string xName2, .string xOn2, .string xOwner2, .bool xBatches2, .int .i64 xSize2, .int .i64 xSlide2] ∧
        ∀ b2 wv4, New wv3 (.cells #[.string xName2, .string xOn2, .string xOwner2, .bool xBatches2, .int .i64 xSize2, .int .i64 xSlide2, .slice none 0 0, .slice none 0 0, .slice r2p r2n r2c] T.window_Window) b2 wv4 →
        K (.tuple #[.pointer (some (Addr.mk b2 0 none)), .int .i64 0]) wv4)))
def An.window_New : Ann := ⟨[(3, .sil 0 [2] (.sil 1 [] (.act 2 (.sil 3 [] (.act 4 (.sil 5 [] (.sil 6 [] (.done))))))))], [], []⟩
theorem R.window_New {wName1 : ByteArray} {wOn1 : ByteArray} {wOwner1 : ByteArray} {wBatches1 : Bool} {wSize1 : Int} {wSlide1 : Int} {cols1p : Option Addr} {cols1n cols1c : Nat} {w : World} {K : Value → World → Prop} (h : C.window_New wName1 wOn1 wOwner1 wBatches1 wSize1 wSlide1 cols1p cols1n cols1c w K) : CallsV prog F.window_New #[.agg #[.string wName1, .string wOn1, .string wOwner1, .bool wBatches1, .int .i64 wSize1, .int .i64 wSlide1], .slice cols1p cols1n cols1c] w K :=
  vcFn.calls (an := An.window_New) mixed tabOK eqsOK Go.Proofs.Try.func22 (by kernel_rfl) (by kernel_rfl) (by kernel_rfl) ((by kernel_rfl : vcFn prog eqs tab An.window_New Go.Proofs.Try.f22 [.agg #[.string wName1, .string wOn1, .string wOwner1, .bool wBatches1, .int .i64 wSize1, .int .i64 wSlide1], .slice cols1p cols1n cols1c] w K = C.window_New wName1 wOn1 wOwner1 wBatches1 wSize1 wSlide1 cols1p cols1n cols1c w K).mpr h)

/-- afflux/window.Right -/
def C.window_Right (wName1 : ByteArray) (wOn1 : ByteArray) (wOwner1 : ByteArray) (wBatches1 : Bool) (wSize1 : Int) (wSlide1 : Int) (w : World) (K : Value → World → Prop) : Prop :=
  ∀ b1 wv1, New w (.cells #[.string wName1, .string wOn1, .string wOwner1, .bool wBatches1, .int .i64 wSize1, .int .i64 wSlide1] T.api_Window) b1 wv1 →
  ∃ (Name1 : ByteArray),
  wv1.cell? ((Addr.mk b1 0 none).add 0) = some (.string Name1) ∧
  ∃ (On1 : ByteArray),
  wv1.cell? ((Addr.mk b1 0 none).add 1) = some (.string On1) ∧
  ∃ (Owner1 : ByteArray),
  wv1.cell? ((Addr.mk b1 0 none).add 2) = some (.string Owner1) ∧
  ∀ b2 wv2, New wv1 (.cells #[.string Name1, .string On1, .string Owner1] T.string) b2 wv2 →
  CallsV prog F.schema_Named #[.slice (some (Addr.mk b2 0 none)) 3 3] wv2 (fun v1 wv3 =>
    ∃ (r1 : Bool),
    v1 = .bool r1 ∧
    ifB r1 (
      ∃ (Size1 : Int),
      wv3.cell? ((Addr.mk b1 0 none).add 4) = some (.int .i64 Size1) ∧
      ifB (decide ((1 : Int) ≤ Size1)) (
        ∃ (Size2 : Int),
        wv3.cell? ((Addr.mk b1 0 none).add 4) = some (.int .i64 Size2) ∧
        ifB (decide (Size2 ≤ (100 : Int))) (
          ∃ (Slide1 : Int),
          wv3.cell? ((Addr.mk b1 0 none).add 5) = some (.int .i64 Slide1) ∧
          ifB (decide ((1 : Int) ≤ Slide1)) (
            ∃ (Slide2 : Int),
            wv3.cell? ((Addr.mk b1 0 none).add 5) = some (.int .i64 Slide2) ∧
            ∃ (Size3 : Int),
            wv3.cell? ((Addr.mk b1 0 none).add 4) = some (.int .i64 Size3) ∧
            K (.bool (decide (Slide2 ≤ Size3))) wv3) (
            K (.bool false) wv3)) (
          K (.bool false) wv3)) (
        K (.bool false) wv3)) (
      K (.bool false) wv3))
def An.window_Right : Ann := ⟨[], [], []⟩
theorem R.window_Right {wName1 : ByteArray} {wOn1 : ByteArray} {wOwner1 : ByteArray} {wBatches1 : Bool} {wSize1 : Int} {wSlide1 : Int} {w : World} {K : Value → World → Prop} (h : C.window_Right wName1 wOn1 wOwner1 wBatches1 wSize1 wSlide1 w K) : CallsV prog F.window_Right #[.agg #[.string wName1, .string wOn1, .string wOwner1, .bool wBatches1, .int .i64 wSize1, .int .i64 wSlide1]] w K :=
  vcFn.calls (an := An.window_Right) mixed tabOK eqsOK Go.Proofs.Try.func23 (by kernel_rfl) (by kernel_rfl) (by kernel_rfl) ((by kernel_rfl : vcFn prog eqs tab An.window_Right Go.Proofs.Try.f23 [.agg #[.string wName1, .string wOn1, .string wOwner1, .bool wBatches1, .int .i64 wSize1, .int .i64 wSlide1]] w K = C.window_Right wName1 wOn1 wOwner1 wBatches1 wSize1 wSlide1 w K).mpr h)

/-- afflux/affluxlaw19.right -/
def C.affluxlaw19_right (wName1 : ByteArray) (wOn1 : ByteArray) (wOwner1 : ByteArray) (wBatches1 : Bool) (wSize1 : Int) (wSlide1 : Int) (w : World) (K : Value → World → Prop) : Prop :=
  ∀ b1 wv1, New w (.cells #[.string wName1, .string wOn1, .string wOwner1, .bool wBatches1, .int .i64 wSize1, .int .i64 wSlide1] T.api_Window) b1 wv1 →
  ∃ (Name1 : ByteArray),
  wv1.cell? ((Addr.mk b1 0 none).add 0) = some (.string Name1) ∧
  CallsV prog F.affluxref03_Named #[.string Name1] wv1 (fun v1 wv2 =>
    ∃ (r1 : Bool),
    v1 = .bool r1 ∧
    ifB r1 (
      ∃ (On1 : ByteArray),
      wv2.cell? ((Addr.mk b1 0 none).add 1) = some (.string On1) ∧
      CallsV prog F.affluxref03_Named #[.string On1] wv2 (fun v2 wv3 =>
        ∃ (r2 : Bool),
        v2 = .bool r2 ∧
        ifB r2 (
          ∃ (Owner1 : ByteArray),
          wv3.cell? ((Addr.mk b1 0 none).add 2) = some (.string Owner1) ∧
          CallsV prog F.affluxref03_Named #[.string Owner1] wv3 (fun v3 wv4 =>
            ∃ (r3 : Bool),
            v3 = .bool r3 ∧
            ifB r3 (
              ∃ (Size1 : Int),
              wv4.cell? ((Addr.mk b1 0 none).add 4) = some (.int .i64 Size1) ∧
              ifB (decide ((1 : Int) ≤ Size1)) (
                ∃ (Size2 : Int),
                wv4.cell? ((Addr.mk b1 0 none).add 4) = some (.int .i64 Size2) ∧
                ifB (decide (Size2 ≤ (100 : Int))) (
                  ∃ (Slide1 : Int),
                  wv4.cell? ((Addr.mk b1 0 none).add 5) = some (.int .i64 Slide1) ∧
                  ifB (decide ((1 : Int) ≤ Slide1)) (
                    ∃ (Slide2 : Int),
                    wv4.cell? ((Addr.mk b1 0 none).add 5) = some (.int .i64 Slide2) ∧
                    ∃ (Size3 : Int),
                    wv4.cell? ((Addr.mk b1 0 none).add 4) = some (.int .i64 Size3) ∧
                    K (.bool (decide (Slide2 ≤ Size3))) wv4) (
                    K (.bool false) wv4)) (
                  K (.bool false) wv4)) (
                K (.bool false) wv4)) (
              K (.bool false) wv4))) (
          K (.bool false) wv3))) (
      K (.bool false) wv2))
def An.affluxlaw19_right : Ann := ⟨[], [], []⟩
theorem R.affluxlaw19_right {wName1 : ByteArray} {wOn1 : ByteArray} {wOwner1 : ByteArray} {wBatches1 : Bool} {wSize1 : Int} {wSlide1 : Int} {w : World} {K : Value → World → Prop} (h : C.affluxlaw19_right wName1 wOn1 wOwner1 wBatches1 wSize1 wSlide1 w K) : CallsV prog F.affluxlaw19_right #[.agg #[.string wName1, .string wOn1, .string wOwner1, .bool wBatches1, .int .i64 wSize1, .int .i64 wSlide1]] w K :=
  vcFn.calls (an := An.affluxlaw19_right) mixed tabOK eqsOK Go.Proofs.Try.func24 (by kernel_rfl) (by kernel_rfl) (by kernel_rfl) ((by kernel_rfl : vcFn prog eqs tab An.affluxlaw19_right Go.Proofs.Try.f24 [.agg #[.string wName1, .string wOn1, .string wOwner1, .bool wBatches1, .int .i64 wSize1, .int .i64 wSlide1]] w K = C.affluxlaw19_right wName1 wOn1 wOwner1 wBatches1 wSize1 wSlide1 w K).mpr h)

/-- afflux/affluxlaw19.fits -/
def C.affluxlaw19_fits (cols1p : Option Addr) (cols1n cols1c : Nat) (rows1p : Option Addr) (rows1n rows1c : Nat) (w : World) (K : Value → World → Prop) : Prop :=
  ∃ (Iv1 : Int → World → Prop) (m1 : Int → World → Nat),
  Iv1 0 w ∧
  ∀ (i1 : Int) wv1, Iv1 i1 wv1 →
  ifB (decide (i1 < ((rows1n : Nat) : Int))) (
    ∃ a1, rows1p = some a1 ∧ 0 ≤ i1 ∧ i1 < ((rows1n : Nat) : Int) ∧
    ∃ (e1p : Option Addr) (e1n e1c : Nat),
    wv1.cell? (a1.add (i1.toNat * 1)) = some (.slice e1p e1n e1c) ∧
    CallsV prog F.affluxref03_Fits #[.agg #[.string (bs []), .slice cols1p cols1n cols1c, .slice none 0 0, .int .i64 0, .int .i64 0, .int .i64 0], .slice e1p e1n e1c] wv1 (fun v1 wv2 =>
      ∃ (r1 : Bool),
      v1 = .bool r1 ∧
      ifB (!r1) (
        K (.bool false) wv2) (
        Iv1 (IntKind.i64.wrap (i1 + (1 : Int))) wv2 ∧ m1 (IntKind.i64.wrap (i1 + (1 : Int))) wv2 < m1 i1 wv1))) (
    K (.bool (decide (((rows1n : Nat) : Int) ≤ (32 : Int)))) wv1)
def An.affluxlaw19_fits : Ann := ⟨[], [(2, [(5, 3)], [0, 1])], []⟩
theorem R.affluxlaw19_fits {cols1p : Option Addr} {cols1n cols1c : Nat} {rows1p : Option Addr} {rows1n rows1c : Nat} {w : World} {K : Value → World → Prop} (h : C.affluxlaw19_fits cols1p cols1n cols1c rows1p rows1n rows1c w K) : CallsV prog F.affluxlaw19_fits #[.slice cols1p cols1n cols1c, .slice rows1p rows1n rows1c] w K :=
  vcFn.calls (an := An.affluxlaw19_fits) mixed tabOK eqsOK Go.Proofs.Try.func25 (by kernel_rfl) (by kernel_rfl) (by kernel_rfl) ((by kernel_rfl : vcFn prog eqs tab An.affluxlaw19_fits Go.Proofs.Try.f25 [.slice cols1p cols1n cols1c, .slice rows1p rows1n rows1c] w K = C.affluxlaw19_fits cols1p cols1n cols1c rows1p rows1n rows1c w K).mpr h)

/-- (*afflux/window.Window).Put -/
def C.window_Window_Put (wv1 : Option Addr) (j1 : Option Addr) (l1p : Option Addr) (l1n l1c : Nat) (w : World) (K : Value → World → Prop) : Prop :=
  ifB wv1.isNone (
    K (.tuple #[.int .i64 0, .int .i64 1]) w) (
    ∃ (Iv1 : Int → World → Prop) (m1 : Int → World → Nat),
    Iv1 0 w ∧
    ∀ (s191 : Int) wv2, Iv1 s191 wv2 →
    ifB (decide (s191 < ((l1n : Nat) : Int))) (
      ∃ a1, l1p = some a1 ∧ 0 ≤ s191 ∧ s191 < ((l1n : Nat) : Int) ∧
      ∃ (eId1 : Int) (eRows1p : Option Addr) (eRows1n eRows1c : Nat),
      cellsAt wv2 (a1.add (s191.toNat * 2)) 0 [.int .i64 eId1, .slice eRows1p eRows1n eRows1c] ∧
      ∀ b1 wv3, New wv2 (.cells #[.int .i64 0, .slice none 0 0] T.stream_Batch) b1 wv3 →
      CanSt wv3 ((Addr.mk b1 0 none).add 0) ∧ ∀ wv4, wv4 = wv3.setCell ((Addr.mk b1 0 none).add 0) (.int .i64 eId1) →
      CanSt wv4 ((Addr.mk b1 0 none).add 1) ∧ ∀ wv5, wv5 = wv4.setCell ((Addr.mk b1 0 none).add 1) (.slice eRows1p eRows1n eRows1c) →
      ∃ wva1, wv1 = some wva1 ∧
      ∃ (cols1p : Option Addr) (cols1n cols1c : Nat),
      wv5.drew.cell? (wva1.add 8) = some (.slice cols1p cols1n cols1c) ∧
      ∃ (Rows1p : Option Addr) (Rows1n Rows1c : Nat),
      wv5.drew.cell? ((Addr.mk b1 0 none).add 1) = some (.slice Rows1p Rows1n Rows1c) ∧
      CallsV prog F.stream_Fits #[.slice cols1p cols1n cols1c, .slice Rows1p Rows1n Rows1c] wv5.drew (fun v1 wv6 =>
        ∃ (r1 : Bool),
        v1 = .bool r1 ∧
        ifB (!r1) (
          K (.tuple #[.int .i64 0, .int .i64 13]) wv6) (
          Iv1 (IntKind.i64.wrap (s191 + (1 : Int))) wv6 ∧ m1 (IntKind.i64.wrap (s191 + (1 : Int))) wv6 < m1 s191 wv2))) (
      ∃ wva2, wv1 = some wva2 ∧
      ∃ (unitsseen1p : Option Addr) (unitsseen1n unitsseen1c : Nat) (unitsstaged1p : Option Addr) (unitsstaged1n unitsstaged1c : Nat),
      cellsAt wv2 (wva2.add 6) 0 [.slice unitsseen1p unitsseen1n unitsseen1c, .slice unitsstaged1p unitsstaged1n unitsstaged1c] ∧
      ∀ b2 wv7, New wv2 (.cells #[.iface T.window_back (.agg #[.slice unitsseen1p unitsseen1n unitsseen1c, .slice unitsstaged1p unitsstaged1n unitsstaged1c, .pointer wv1])] T.undo_Step) b2 wv7 →
      CallsV prog F.undo_Journal_Note #[.pointer j1, .slice (some (Addr.mk b2 0 none)) 1 1] wv7 (fun v2 wv8 =>
        v2 = .tuple #[] ∧
        ∃ (Iv2 : Int → Int → World → Prop) (m2 : Int → Int → World → Nat),
        Iv2 0 0 wv8 ∧
        ∀ (n1 : Int) (s441 : Int) wv9, Iv2 n1 s441 wv9 →
        ifB (decide (s441 < ((l1n : Nat) : Int))) (
          ∃ a2, l1p = some a2 ∧ 0 ≤ s441 ∧ s441 < ((l1n : Nat) : Int) ∧
          ∃ (eId2 : Int) (eRows2p : Option Addr) (eRows2n eRows2c : Nat),
          cellsAt wv9 (a2.add (s441.toNat * 2)) 0 [.int .i64 eId2, .slice eRows2p eRows2n eRows2c] ∧
          ∀ b3 wv10, New wv9 (.cells #[.int .i64 0, .slice none 0 0] T.stream_Batch) b3 wv10 →
          CanSt wv10 ((Addr.mk b3 0 none).add 0) ∧ ∀ wv11, wv11 = wv10.setCell ((Addr.mk b3 0 none).add 0) (.int .i64 eId2) →
          CanSt wv11 ((Addr.mk b3 0 none).add 1) ∧ ∀ wv12, wv12 = wv11.setCell ((Addr.mk b3 0 none).add 1) (.slice eRows2p eRows2n eRows2c) →
          ∃ (xId1 : Int) (xRows1p : Option Addr) (xRows1n xRows1c : Nat),
          cellsAt wv12 (Addr.mk b3 0 none) 0 [.int .i64 xId1, .slice xRows1p xRows1n xRows1c] ∧
          CallsV prog F.window_Window_split #[.pointer wv1, .agg #[.int .i64 xId1, .slice xRows1p xRows1n xRows1c]] wv12 (fun v3 wv13 =>
            ∃ (r2p : Option Addr) (r2n r2c : Nat),
            v3 = .slice r2p r2n r2c ∧
            ∃ (Iv3 : Int → Int → World → Prop) (m3 : Int → Int → World → Nat),
            Iv3 n1 0 wv13 ∧
            ∀ (n2 : Int) (s521 : Int) wv14, Iv3 n2 s521 wv14 →
            ifB (decide (s521 < ((r2n : Nat) : Int))) (
              ∃ a3, r2p = some a3 ∧ 0 ≤ s521 ∧ s521 < ((r2n : Nat) : Int) ∧
              ∃ (e1p : Option Addr) (e1n e1c : Nat),
              wv14.cell? (a3.add (s521.toNat * 1)) = some (.slice e1p e1n e1c) ∧
              CallsV prog F.window_Window_come #[.pointer wv1, .slice e1p e1n e1c] wv14 (fun v4 wv15 =>
                ∃ (r3 : Bool),
                v4 = .bool r3 ∧
                ifB r3 (
                  Iv3 (IntKind.i64.wrap (n2 + (1 : Int))) (IntKind.i64.wrap (s521 + (1 : Int))) wv15 ∧ m3 (IntKind.i64.wrap (n2 + (1 : Int))) (IntKind.i64.wrap (s521 + (1 : Int))) wv15 < m3 n2 s521 wv14) (
                  Iv3 n2 (IntKind.i64.wrap (s521 + (1 : Int))) wv15 ∧ m3 n2 (IntKind.i64.wrap (s521 + (1 : Int))) wv15 < m3 n2 s521 wv14))) (
              Iv2 n2 (IntKind.i64.wrap (s441 + (1 : Int))) wv14 ∧ m2 n2 (IntKind.i64.wrap (s441 + (1 : Int))) wv14 < m2 n1 s441 wv9))) (
          K (.tuple #[.int .i64 n1, .int .i64 0]) wv9))))
def An.window_Window_Put : Ann := ⟨[(6, .sil 0 [] (.sil 1 [] (.sil 2 [] (.sil 3 [] (.sil 4 [] (.sil 5 [] (.act 6 (.sil 7 [] (.done)))))))))], [(4, [(19, 3)], [0, 1, 2, 17, 18]), (12, [(10, 3), (44, 3)], [0, 42, 43]), (15, [(10, 3), (52, 3)], [0, 42, 43, 44, 50, 51])], []⟩
theorem R.window_Window_Put {wv1 : Option Addr} {j1 : Option Addr} {l1p : Option Addr} {l1n l1c : Nat} {w : World} {K : Value → World → Prop} (h : C.window_Window_Put wv1 j1 l1p l1n l1c w K) : CallsV prog F.window_Window_Put #[.pointer wv1, .pointer j1, .slice l1p l1n l1c] w K :=
  vcFn.calls (an := An.window_Window_Put) mixed tabOK eqsOK Go.Proofs.Try.func26 (by kernel_rfl) (by kernel_rfl) (by kernel_rfl) ((by kernel_rfl : vcFn prog eqs tab An.window_Window_Put Go.Proofs.Try.f26 [.pointer wv1, .pointer j1, .slice l1p l1n l1c] w K = C.window_Window_Put wv1 j1 l1p l1n l1c w K).mpr h)

/-- afflux/affluxlaw19.units -/
def C.affluxlaw19_units (wName1 : ByteArray) (wOn1 : ByteArray) (wOwner1 : ByteArray) (wBatches1 : Bool) (wSize1 : Int) (wSlide1 : Int) (l1p : Option Addr) (l1n l1c : Nat) (w : World) (K : Value → World → Prop) : Prop :=
  ∀ b1 wv1, New w (.cells #[.string wName1, .string wOn1, .string wOwner1, .bool wBatches1, .int .i64 wSize1, .int .i64 wSlide1] T.api_Window) b1 wv1 →
  ∃ (Iv1 : Option Addr → Nat → Nat → Int → World → Prop) (m1 : Option Addr → Nat → Nat → Int → World → Nat),
  Iv1 none 0 0 0 wv1 ∧
  ∀ (out1p : Option Addr) (out1n out1c : Nat) (i1 : Int) wv2, Iv1 out1p out1n out1c i1 wv2 →
  ifB (decide (i1 < ((l1n : Nat) : Int))) (
    ∃ (Batches1 : Bool),
    wv2.cell? ((Addr.mk b1 0 none).add 3) = some (.bool Batches1) ∧
    ifB Batches1 (
      ∃ a1, l1p = some a1 ∧ 0 ≤ i1 ∧ i1 < ((l1n : Nat) : Int) ∧
      ∃ (Rows1p : Option Addr) (Rows1n Rows1c : Nat),
      wv2.cell? ((a1.add (i1.toNat * 2)).add 1) = some (.slice Rows1p Rows1n Rows1c) ∧
      ∀ b2 wv3, New wv2 (.cells #[.slice Rows1p Rows1n Rows1c] T.s_s_api_Value) b2 wv3 →
      BuiltV prog .append #[T.s_s_s_api_Value, T.s_s_s_api_Value] T.s_s_s_api_Value #[.slice out1p out1n out1c, .slice (some (Addr.mk b2 0 none)) 1 1] wv3 (fun v1 wv4 =>
        ∃ (a2p : Option Addr) (a2n a2c : Nat),
        v1 = .slice a2p a2n a2c ∧
        Iv1 a2p a2n a2c (IntKind.i64.wrap (i1 + (1 : Int))) wv4 ∧ m1 a2p a2n a2c (IntKind.i64.wrap (i1 + (1 : Int))) wv4 < m1 out1p out1n out1c i1 wv2)) (
      ∃ (Iv2 : Option Addr → Nat → Nat → Int → World → Prop) (m2 : Option Addr → Nat → Nat → Int → World → Nat),
      Iv2 out1p out1n out1c 0 wv2 ∧
      ∀ (out2p : Option Addr) (out2n out2c : Nat) (k1 : Int) wv5, Iv2 out2p out2n out2c k1 wv5 →
      ∃ a3, l1p = some a3 ∧ 0 ≤ i1 ∧ i1 < ((l1n : Nat) : Int) ∧
      ∃ (Rows2p : Option Addr) (Rows2n Rows2c : Nat),
      wv5.cell? ((a3.add (i1.toNat * 2)).add 1) = some (.slice Rows2p Rows2n Rows2c) ∧
      ifB (decide (k1 < ((Rows2n : Nat) : Int))) (
        ∃ a4, l1p = some a4 ∧ 0 ≤ i1 ∧ i1 < ((l1n : Nat) : Int) ∧
        ∃ (Rows3p : Option Addr) (Rows3n Rows3c : Nat),
        wv5.cell? ((a4.add (i1.toNat * 2)).add 1) = some (.slice Rows3p Rows3n Rows3c) ∧
        0 ≤ IntKind.i64.wrap (k1 + (1 : Int)) ∧ IntKind.i64.wrap (k1 + (1 : Int)) ≤ ((Rows3c : Nat) : Int) ∧
        0 ≤ k1 ∧ k1 ≤ (((IntKind.i64.wrap (k1 + (1 : Int))).toNat : Nat) : Int) ∧
        ∀ b3 wv6, New wv5 (.cells #[.slice (cutAt Rows3p k1.toNat Rows3c 1) (((IntKind.i64.wrap (k1 + (1 : Int))).toNat) - k1.toNat) (Rows3c - k1.toNat)] T.s_s_api_Value) b3 wv6 →
        BuiltV prog .append #[T.s_s_s_api_Value, T.s_s_s_api_Value] T.s_s_s_api_Value #[.slice out2p out2n out2c, .slice (some (Addr.mk b3 0 none)) 1 1] wv6 (fun v2 wv7 =>
          ∃ (a5p : Option Addr) (a5n a5c : Nat),
          v2 = .slice a5p a5n a5c ∧
          Iv2 a5p a5n a5c (IntKind.i64.wrap (k1 + (1 : Int))) wv7 ∧ m2 a5p a5n a5c (IntKind.i64.wrap (k1 + (1 : Int))) wv7 < m2 out2p out2n out2c k1 wv5)) (
        Iv1 out2p out2n out2c (IntKind.i64.wrap (i1 + (1 : Int))) wv5 ∧ m1 out2p out2n out2c (IntKind.i64.wrap (i1 + (1 : Int))) wv5 < m1 out1p out1n out1c i1 wv2))) (
    K (.slice out1p out1n out1c) wv2)
def An.affluxlaw19_units : Ann := ⟨[], [(3, [(5, 53), (6, 3)], [1, 2]), (8, [(5, 53), (7, 3)], [1, 2, 6])], []⟩
theorem R.affluxlaw19_units {wName1 : ByteArray} {wOn1 : ByteArray} {wOwner1 : ByteArray} {wBatches1 : Bool} {wSize1 : Int} {wSlide1 : Int} {l1p : Option Addr} {l1n l1c : Nat} {w : World} {K : Value → World → Prop} (h : C.affluxlaw19_units wName1 wOn1 wOwner1 wBatches1 wSize1 wSlide1 l1p l1n l1c w K) : CallsV prog F.affluxlaw19_units #[.agg #[.string wName1, .string wOn1, .string wOwner1, .bool wBatches1, .int .i64 wSize1, .int .i64 wSlide1], .slice l1p l1n l1c] w K :=
  vcFn.calls (an := An.affluxlaw19_units) mixed tabOK eqsOK Go.Proofs.Try.func27 (by kernel_rfl) (by kernel_rfl) (by kernel_rfl) ((by kernel_rfl : vcFn prog eqs tab An.affluxlaw19_units Go.Proofs.Try.f27 [.agg #[.string wName1, .string wOn1, .string wOwner1, .bool wBatches1, .int .i64 wSize1, .int .i64 wSlide1], .slice l1p l1n l1c] w K = C.affluxlaw19_units wName1 wOn1 wOwner1 wBatches1 wSize1 wSlide1 l1p l1n l1c w K).mpr h)

/-- afflux/affluxlaw19.looks -/
def C.affluxlaw19_looks (x1 : Option Addr) (wName1 : ByteArray) (wOn1 : ByteArray) (wOwner1 : ByteArray) (wBatches1 : Bool) (wSize1 : Int) (wSlide1 : Int) (all1p : Option Addr) (all1n all1c : Nat) (w : World) (K : Value → World → Prop) : Prop :=
  ∀ b1 wv1, New w (.cells #[.string wName1, .string wOn1, .string wOwner1, .bool wBatches1, .int .i64 wSize1, .int .i64 wSlide1] T.api_Window) b1 wv1 →
  ∃ (xName1 : ByteArray) (xOn1 : ByteArray) (xOwner1 : ByteArray) (xBatches1 : Bool) (xSize1 : Int) (xSlide1 : Int),
  cellsAt wv1 (Addr.mk b1 0 none) 0 [.string xName1, .string xOn1, .string xOwner1, .bool xBatches1, .int .i64 xSize1, .int .i64 xSlide1] ∧
  CallsV prog F.affluxlaw19_split #[.agg #[.string xName1, .string xOn1, .string xOwner1, .bool xBatches1, .int .i64 xSize1, .int .i64 xSlide1], .slice all1p all1n all1c] wv1 (fun v1 wv2 =>
    ∃ (ra1p : Option Addr) (ra1n ra1c : Nat) (rb1p : Option Addr) (rb1n rb1c : Nat),
    v1 = .tuple #[.slice ra1p ra1n ra1c, .slice rb1p rb1n rb1c] ∧
    CallsV prog F.window_Window_Rows #[.pointer x1] wv2 (fun v2 wv3 =>
      ∃ (r1p : Option Addr) (r1n r1c : Nat),
      v2 = .slice r1p r1n r1c ∧
      CallsV prog F.affluxlaw19_flat #[.slice ra1p ra1n ra1c] wv3 (fun v3 wv4 =>
        ∃ (r2p : Option Addr) (r2n r2c : Nat),
        v3 = .slice r2p r2n r2c ∧
        CallsV prog F.affluxref04_Same #[.slice r1p r1n r1c, .slice r2p r2n r2c] wv4 (fun v4 wv5 =>
          ∃ (r3 : Bool),
          v4 = .bool r3 ∧
          ifB r3 (
            CallsV prog F.window_Window_Seen #[.pointer x1] wv5 (fun v5 wv6 =>
              ∃ (r4 : Int),
              v5 = .int .i64 r4 ∧
              ifB (r4 == ((ra1n : Nat) : Int)) (
                CallsV prog F.window_Window_Staged #[.pointer x1] wv6 (fun v6 wv7 =>
                  ∃ (r5 : Int),
                  v6 = .int .i64 r5 ∧
                  ifB (r5 == ((rb1n : Nat) : Int)) (
                    CallsV prog F.window_Window_Bytes #[.pointer x1] wv7 (fun v7 wv8 =>
                      ∃ (r6 : ByteArray),
                      v7 = .string r6 ∧
                      CallsV prog F.affluxlaw19_lay #[.slice ra1p ra1n ra1c] wv8 (fun v8 wv9 =>
                        ∃ (r7 : ByteArray),
                        v8 = .string r7 ∧
                        CallsV prog F.affluxlaw19_lay #[.slice rb1p rb1n rb1c] wv9 (fun v9 wv10 =>
                          ∃ (r8 : ByteArray),
                          v9 = .string r8 ∧
                          r7.size + r8.size ≤ 9223372036854775807 ∧
                          K (.bool (sEq r6 (r7 ++ r8))) wv10)))) (
                    K (.bool false) wv7))) (
                K (.bool false) wv6))) (
            K (.bool false) wv5)))))
def An.affluxlaw19_looks : Ann := ⟨[], [], []⟩
theorem R.affluxlaw19_looks {x1 : Option Addr} {wName1 : ByteArray} {wOn1 : ByteArray} {wOwner1 : ByteArray} {wBatches1 : Bool} {wSize1 : Int} {wSlide1 : Int} {all1p : Option Addr} {all1n all1c : Nat} {w : World} {K : Value → World → Prop} (h : C.affluxlaw19_looks x1 wName1 wOn1 wOwner1 wBatches1 wSize1 wSlide1 all1p all1n all1c w K) : CallsV prog F.affluxlaw19_looks #[.pointer x1, .agg #[.string wName1, .string wOn1, .string wOwner1, .bool wBatches1, .int .i64 wSize1, .int .i64 wSlide1], .slice all1p all1n all1c] w K :=
  vcFn.calls (an := An.affluxlaw19_looks) mixed tabOK eqsOK Go.Proofs.Try.func28 (by kernel_rfl) (by kernel_rfl) (by kernel_rfl) ((by kernel_rfl : vcFn prog eqs tab An.affluxlaw19_looks Go.Proofs.Try.f28 [.pointer x1, .agg #[.string wName1, .string wOn1, .string wOwner1, .bool wBatches1, .int .i64 wSize1, .int .i64 wSlide1], .slice all1p all1n all1c] w K = C.affluxlaw19_looks x1 wName1 wOn1 wOwner1 wBatches1 wSize1 wSlide1 all1p all1n all1c w K).mpr h)

/-- (*afflux/window.Window).Rows -/
def C.window_Window_Rows (wv1 : Option Addr) (w : World) (K : Value → World → Prop) : Prop :=
  ifB (!wv1.isNone) (
    ∃ wva1, wv1 = some wva1 ∧
    ∃ (seen1p : Option Addr) (seen1n seen1c : Nat),
    w.cell? ((wva1.add 6).add 0) = some (.slice seen1p seen1n seen1c) ∧
    ∃ (Iv1 : Option Addr → Nat → Nat → Int → World → Prop) (m1 : Option Addr → Nat → Nat → Int → World → Nat),
    Iv1 none 0 0 0 w ∧
    ∀ (l1p : Option Addr) (l1n l1c : Nat) (s161 : Int) wv2, Iv1 l1p l1n l1c s161 wv2 →
    ifB (decide (s161 < ((seen1n : Nat) : Int))) (
      ∃ a1, seen1p = some a1 ∧ 0 ≤ s161 ∧ s161 < ((seen1n : Nat) : Int) ∧
      ∃ (e1p : Option Addr) (e1n e1c : Nat),
      wv2.cell? (a1.add (s161.toNat * 1)) = some (.slice e1p e1n e1c) ∧
      ∃ (Iv2 : Option Addr → Nat → Nat → Int → World → Prop) (m2 : Option Addr → Nat → Nat → Int → World → Nat),
      Iv2 l1p l1n l1c 0 wv2 ∧
      ∀ (l2p : Option Addr) (l2n l2c : Nat) (s221 : Int) wv3, Iv2 l2p l2n l2c s221 wv3 →
      ifB (decide (s221 < ((e1n : Nat) : Int))) (
        ∃ a2, e1p = some a2 ∧ 0 ≤ s221 ∧ s221 < ((e1n : Nat) : Int) ∧
        ∃ (e2p : Option Addr) (e2n e2c : Nat),
        wv3.cell? (a2.add (s221.toNat * 1)) = some (.slice e2p e2n e2c) ∧
        CallsV prog F.slices_Clone_api_Value_api_Value #[.slice e2p e2n e2c] wv3 (fun v1 wv4 =>
          ∃ (r1p : Option Addr) (r1n r1c : Nat),
          v1 = .slice r1p r1n r1c ∧
          ∀ b1 wv5, New wv4 (.cells #[.slice r1p r1n r1c] T.s_api_Value) b1 wv5 →
          BuiltV prog .append #[T.s_s_api_Value, T.s_s_api_Value] T.s_s_api_Value #[.slice l2p l2n l2c, .slice (some (Addr.mk b1 0 none)) 1 1] wv5 (fun v2 wv6 =>
            ∃ (a3p : Option Addr) (a3n a3c : Nat),
            v2 = .slice a3p a3n a3c ∧
            Iv2 a3p a3n a3c (IntKind.i64.wrap (s221 + (1 : Int))) wv6 ∧ m2 a3p a3n a3c (IntKind.i64.wrap (s221 + (1 : Int))) wv6 < m2 l2p l2n l2c s221 wv3))) (
        Iv1 l2p l2n l2c (IntKind.i64.wrap (s161 + (1 : Int))) wv3 ∧ m1 l2p l2n l2c (IntKind.i64.wrap (s161 + (1 : Int))) wv3 < m1 l1p l1n l1c s161 wv2)) (
      K (.slice l1p l1n l1c) wv2)) (
    K (.slice none 0 0) w)
def An.window_Window_Rows : Ann := ⟨[], [(4, [(3, 56), (16, 3)], [14, 15]), (7, [(3, 56), (22, 3)], [14, 15, 16, 20, 21])], []⟩
theorem R.window_Window_Rows {wv1 : Option Addr} {w : World} {K : Value → World → Prop} (h : C.window_Window_Rows wv1 w K) : CallsV prog F.window_Window_Rows #[.pointer wv1] w K :=
  vcFn.calls (an := An.window_Window_Rows) mixed tabOK eqsOK Go.Proofs.Try.func29 (by kernel_rfl) (by kernel_rfl) (by kernel_rfl) ((by kernel_rfl : vcFn prog eqs tab An.window_Window_Rows Go.Proofs.Try.f29 [.pointer wv1] w K = C.window_Window_Rows wv1 w K).mpr h)

/-- (*afflux/window.Window).Seen -/
def C.window_Window_Seen (wv1 : Option Addr) (w : World) (K : Value → World → Prop) : Prop :=
  ifB wv1.isNone (
    K (.int .i64 0) w) (
    ∃ wva1, wv1 = some wva1 ∧
    ∃ (seen1p : Option Addr) (seen1n seen1c : Nat),
    w.cell? ((wva1.add 6).add 0) = some (.slice seen1p seen1n seen1c) ∧
    K (.int .i64 ((seen1n : Nat) : Int)) w)
def An.window_Window_Seen : Ann := ⟨[], [], []⟩
theorem R.window_Window_Seen {wv1 : Option Addr} {w : World} {K : Value → World → Prop} (h : C.window_Window_Seen wv1 w K) : CallsV prog F.window_Window_Seen #[.pointer wv1] w K :=
  vcFn.calls (an := An.window_Window_Seen) mixed tabOK eqsOK Go.Proofs.Try.func30 (by kernel_rfl) (by kernel_rfl) (by kernel_rfl) ((by kernel_rfl : vcFn prog eqs tab An.window_Window_Seen Go.Proofs.Try.f30 [.pointer wv1] w K = C.window_Window_Seen wv1 w K).mpr h)

/-- (*afflux/window.Window).Staged -/
def C.window_Window_Staged (wv1 : Option Addr) (w : World) (K : Value → World → Prop) : Prop :=
  ifB wv1.isNone (
    K (.int .i64 0) w) (
    ∃ wva1, wv1 = some wva1 ∧
    ∃ (staged1p : Option Addr) (staged1n staged1c : Nat),
    w.cell? ((wva1.add 6).add 1) = some (.slice staged1p staged1n staged1c) ∧
    K (.int .i64 ((staged1n : Nat) : Int)) w)
def An.window_Window_Staged : Ann := ⟨[], [], []⟩
theorem R.window_Window_Staged {wv1 : Option Addr} {w : World} {K : Value → World → Prop} (h : C.window_Window_Staged wv1 w K) : CallsV prog F.window_Window_Staged #[.pointer wv1] w K :=
  vcFn.calls (an := An.window_Window_Staged) mixed tabOK eqsOK Go.Proofs.Try.func31 (by kernel_rfl) (by kernel_rfl) (by kernel_rfl) ((by kernel_rfl : vcFn prog eqs tab An.window_Window_Staged Go.Proofs.Try.f31 [.pointer wv1] w K = C.window_Window_Staged wv1 w K).mpr h)

/-- (*afflux/window.Window).Bytes -/
def C.window_Window_Bytes (wv1 : Option Addr) (w : World) (K : Value → World → Prop) : Prop :=
  ifB wv1.isNone (
    K (.string (bs [])) w) (
    ∀ b1 wv2, New w (.cells #[.slice none 0 0] T.codec_Writer) b1 wv2 →
    ∃ wva1, wv1 = some wva1 ∧
    ∃ (seen1p : Option Addr) (seen1n seen1c : Nat),
    wv2.drew.cell? ((wva1.add 6).add 0) = some (.slice seen1p seen1n seen1c) ∧
    ∃ wva2, wv1 = some wva2 ∧
    ∃ (staged1p : Option Addr) (staged1n staged1c : Nat),
    wv2.drew.cell? ((wva2.add 6).add 1) = some (.slice staged1p staged1n staged1c) ∧
    ∀ b2 wv3, New wv2.drew (.cells #[.slice seen1p seen1n seen1c, .slice staged1p staged1n staged1c] T.s_window_unit) b2 wv3 →
    ∃ (Iv1 : Int → World → Prop) (m1 : Int → World → Nat),
    Iv1 0 wv3 ∧
    ∀ (s241 : Int) wv4, Iv1 s241 wv4 →
    ifB (decide (s241 < ((2 : Nat) : Int))) (
      ∃ a1, some (Addr.mk b2 0 none) = some a1 ∧ 0 ≤ s241 ∧ s241 < ((2 : Nat) : Int) ∧
      ∃ (e1p : Option Addr) (e1n e1c : Nat),
      wv4.cell? (a1.add (s241.toNat * 1)) = some (.slice e1p e1n e1c) ∧
      ∀ b3 wv5, New wv4 (.cells #[.int .i64 ((e1n : Nat) : Int)] T.int) b3 wv5 →
      CallsV prog F.codec_Writer_Size #[.pointer (some (Addr.mk b1 0 none)), .slice (some (Addr.mk b3 0 none)) 1 1] wv5 (fun v1 wv6 =>
        ∃ (r1 : Option Addr),
        v1 = .pointer r1 ∧
        ∃ (Iv2 : Int → World → Prop) (m2 : Int → World → Nat),
        Iv2 0 wv6 ∧
        ∀ (s351 : Int) wv7, Iv2 s351 wv7 →
        ifB (decide (s351 < ((e1n : Nat) : Int))) (
          ∃ a2, e1p = some a2 ∧ 0 ≤ s351 ∧ s351 < ((e1n : Nat) : Int) ∧
          ∃ (e2p : Option Addr) (e2n e2c : Nat),
          wv7.cell? (a2.add (s351.toNat * 1)) = some (.slice e2p e2n e2c) ∧
          CallsV prog F.codec_Writer_Rows #[.pointer (some (Addr.mk b1 0 none)), .slice e2p e2n e2c] wv7 (fun v2 wv8 =>
            ∃ (r2 : Option Addr),
            v2 = .pointer r2 ∧
            Iv2 (IntKind.i64.wrap (s351 + (1 : Int))) wv8 ∧ m2 (IntKind.i64.wrap (s351 + (1 : Int))) wv8 < m2 s351 wv7)) (
          Iv1 (IntKind.i64.wrap (s241 + (1 : Int))) wv7 ∧ m1 (IntKind.i64.wrap (s241 + (1 : Int))) wv7 < m1 s241 wv4))) (
      CallsV prog F.codec_Writer_String #[.pointer (some (Addr.mk b1 0 none))] wv4 (fun v3 wv9 =>
        ∃ (r3 : ByteArray),
        v3 = .string r3 ∧
        K (.string r3) wv9)))
def An.window_Window_Bytes : Ann := ⟨[(4, .sil 0 [] (.sil 1 [] (.sil 2 [] (.sil 3 [] (.sil 4 [] (.sil 5 [] (.sil 6 [] (.sil 7 [] (.sil 8 [] (.sil 9 [] (.sil 12 [] (.act 10 (.sil 11 [] (.done))))))))))))))], [(5, [(24, 3)], [3, 22, 23]), (9, [(35, 3)], [3, 22, 23, 24, 33, 34])], []⟩
theorem R.window_Window_Bytes {wv1 : Option Addr} {w : World} {K : Value → World → Prop} (h : C.window_Window_Bytes wv1 w K) : CallsV prog F.window_Window_Bytes #[.pointer wv1] w K :=
  vcFn.calls (an := An.window_Window_Bytes) mixed tabOK eqsOK Go.Proofs.Try.func32 (by kernel_rfl) (by kernel_rfl) (by kernel_rfl) ((by kernel_rfl : vcFn prog eqs tab An.window_Window_Bytes Go.Proofs.Try.f32 [.pointer wv1] w K = C.window_Window_Bytes wv1 w K).mpr h)

/-- (*afflux/window.Window).Load -/
def C.window_Window_Load (wv1 : Option Addr) (s1 : ByteArray) (w : World) (K : Value → World → Prop) : Prop :=
  ifB wv1.isNone (
    K (.int .i64 1) w) (
    CallsV prog F.codec_Read #[.string s1] w (fun v1 wv2 =>
      ∃ (r1 : Option Addr),
      v1 = .pointer r1 ∧
      ∃ wva1, wv1 = some wva1 ∧
      ∃ (Size1 : Int),
      wv2.cell? ((wva1.add 0).add 4) = some (.int .i64 Size1) ∧
      CallsV prog F.window_Window_read #[.pointer wv1, .pointer r1, .int .i64 Size1] wv2 (fun v2 wv3 =>
        ∃ (r2p : Option Addr) (r2n r2c : Nat),
        v2 = .slice r2p r2n r2c ∧
        ∃ wva2, wv1 = some wva2 ∧
        ∃ (Slide1 : Int),
        wv3.cell? ((wva2.add 0).add 5) = some (.int .i64 Slide1) ∧
        CallsV prog F.window_Window_read #[.pointer wv1, .pointer r1, .int .i64 (IntKind.i64.wrap (Slide1 - (1 : Int)))] wv3 (fun v3 wv4 =>
          ∃ (r3p : Option Addr) (r3n r3c : Nat),
          v3 = .slice r3p r3n r3c ∧
          CallsV prog F.codec_Reader_End #[.pointer r1] wv4 (fun v4 wv5 =>
            ∃ (r4 : Bool),
            v4 = .bool r4 ∧
            ifB (!r4) (
              K (.int .i64 4) wv5) (
              ∃ wva3, wv1 = some wva3 ∧
              CanSt wv5 ((wva3.add 6).add 0) ∧ ∀ wv6, wv6 = wv5.setCell ((wva3.add 6).add 0) (.slice r2p r2n r2c) →
              CanSt wv6 ((wva3.add 6).add 1) ∧ ∀ wv7, wv7 = wv6.setCell ((wva3.add 6).add 1) (.slice r3p r3n r3c) →
              K (.int .i64 0) wv7))))))
def An.window_Window_Load : Ann := ⟨[], [], []⟩
theorem R.window_Window_Load {wv1 : Option Addr} {s1 : ByteArray} {w : World} {K : Value → World → Prop} (h : C.window_Window_Load wv1 s1 w K) : CallsV prog F.window_Window_Load #[.pointer wv1, .string s1] w K :=
  vcFn.calls (an := An.window_Window_Load) mixed tabOK eqsOK Go.Proofs.Try.func33 (by kernel_rfl) (by kernel_rfl) (by kernel_rfl) ((by kernel_rfl : vcFn prog eqs tab An.window_Window_Load Go.Proofs.Try.f33 [.pointer wv1, .string s1] w K = C.window_Window_Load wv1 s1 w K).mpr h)

/-- (*afflux/undo.Journal).Mark -/
def C.undo_Journal_Mark (j1 : Option Addr) (w : World) (K : Value → World → Prop) : Prop :=
  ifB j1.isNone (
    K (.int .i64 0) w) (
    ∃ ja1, j1 = some ja1 ∧
    ∃ (l1p : Option Addr) (l1n l1c : Nat),
    w.cell? (ja1.add 0) = some (.slice l1p l1n l1c) ∧
    K (.int .i64 ((l1n : Nat) : Int)) w)
def An.undo_Journal_Mark : Ann := ⟨[], [], []⟩
theorem R.undo_Journal_Mark {j1 : Option Addr} {w : World} {K : Value → World → Prop} (h : C.undo_Journal_Mark j1 w K) : CallsV prog F.undo_Journal_Mark #[.pointer j1] w K :=
  vcFn.calls (an := An.undo_Journal_Mark) mixed tabOK eqsOK Go.Proofs.Try.func34 (by kernel_rfl) (by kernel_rfl) (by kernel_rfl) ((by kernel_rfl : vcFn prog eqs tab An.undo_Journal_Mark Go.Proofs.Try.f34 [.pointer j1] w K = C.undo_Journal_Mark j1 w K).mpr h)

/-- (*afflux/undo.Journal).Back -/
def C.undo_Journal_Back (j1 : Option Addr) (mark1 : Int) (w : World) (K : Value → World → Prop) : Prop :=
  ∃ (Iv1 : Int → World → Prop) (m1 : Int → World → Nat),
  Iv1 0 w ∧
  ∀ (n1 : Int) wv1, Iv1 n1 wv1 →
  CallsV prog F.undo_Journal_Mark #[.pointer j1] wv1 (fun v1 wv2 =>
    ∃ (r1 : Int),
    v1 = .int .i64 r1 ∧
    ifB (decide ((mm2 true mark1 0) < r1)) (
      ∃ ja1, j1 = some ja1 ∧
      ∃ (l1p : Option Addr) (l1n l1c : Nat),
      wv2.cell? (ja1.add 0) = some (.slice l1p l1n l1c) ∧
      ∃ ja2, j1 = some ja2 ∧
      ∃ (l2p : Option Addr) (l2n l2c : Nat),
      wv2.cell? (ja2.add 0) = some (.slice l2p l2n l2c) ∧
      ∃ a1, l2p = some a1 ∧ 0 ≤ IntKind.i64.wrap (((l1n : Nat) : Int) - (1 : Int)) ∧ IntKind.i64.wrap (((l1n : Nat) : Int) - (1 : Int)) < ((l2n : Nat) : Int) ∧
      ∃ (e1 : Value),
      wv2.cell? (a1.add ((IntKind.i64.wrap (((l1n : Nat) : Int) - (1 : Int))).toNat * 1)) = some (e1) ∧
      ∃ ja3, j1 = some ja3 ∧
      ∃ (l3p : Option Addr) (l3n l3c : Nat),
      wv2.cell? (ja3.add 0) = some (.slice l3p l3n l3c) ∧
      0 ≤ IntKind.i64.wrap (((l1n : Nat) : Int) - (1 : Int)) ∧ IntKind.i64.wrap (((l1n : Nat) : Int) - (1 : Int)) ≤ ((l3c : Nat) : Int) ∧
      ∃ ja4, j1 = some ja4 ∧
      CanSt wv2 (ja4.add 0) ∧ ∀ wv3, wv3 = wv2.setCell (ja4.add 0) (.slice (cutAt l3p 0 l3c 1) (((IntKind.i64.wrap (((l1n : Nat) : Int) - (1 : Int))).toNat) - 0) (l3c - 0)) →
      CallsM prog (e1) "Back" #[] wv3 (fun v2 wv4 =>
        v2 = .tuple #[] ∧
        Iv1 (IntKind.i64.wrap (n1 + (1 : Int))) wv4 ∧ m1 (IntKind.i64.wrap (n1 + (1 : Int))) wv4 < m1 n1 wv1)) (
      K (.int .i64 n1) wv2))
def An.undo_Journal_Back : Ann := ⟨[], [(3, [(5, 3)], [0, 1])], []⟩
theorem R.undo_Journal_Back {j1 : Option Addr} {mark1 : Int} {w : World} {K : Value → World → Prop} (h : C.undo_Journal_Back j1 mark1 w K) : CallsV prog F.undo_Journal_Back #[.pointer j1, .int .i64 mark1] w K :=
  vcFn.calls (an := An.undo_Journal_Back) mixed tabOK eqsOK Go.Proofs.Try.func35 (by kernel_rfl) (by kernel_rfl) (by kernel_rfl) ((by kernel_rfl : vcFn prog eqs tab An.undo_Journal_Back Go.Proofs.Try.f35 [.pointer j1, .int .i64 mark1] w K = C.undo_Journal_Back j1 mark1 w K).mpr h)

/-- (*afflux/queue.Tally).came -/
def C.queue_Tally_came (t1 : Option Addr) (n1 : Int) (wait1 : Int) (w : World) (K : Value → World → Prop) : Prop :=
  ∃ ta1, t1 = some ta1 ∧
  ∃ (Came1 : Int),
  w.cell? (ta1.add 0) = some (.int .i64 Came1) ∧
  ∃ ta2, t1 = some ta2 ∧
  CanSt w (ta2.add 0) ∧ ∀ wv1, wv1 = w.setCell (ta2.add 0) (.int .i64 (IntKind.i64.wrap (Came1 + n1))) →
  ∃ ta3, t1 = some ta3 ∧
  ∃ (Most1 : Int),
  wv1.cell? (ta3.add 3) = some (.int .i64 Most1) ∧
  ∃ ta4, t1 = some ta4 ∧
  CanSt wv1 (ta4.add 3) ∧ ∀ wv2, wv2 = wv1.setCell (ta4.add 3) (.int .i64 (mm2 true Most1 wait1)) →
  K (.tuple #[]) wv2
def An.queue_Tally_came : Ann := ⟨[], [], []⟩
theorem R.queue_Tally_came {t1 : Option Addr} {n1 : Int} {wait1 : Int} {w : World} {K : Value → World → Prop} (h : C.queue_Tally_came t1 n1 wait1 w K) : CallsV prog F.queue_Tally_came #[.pointer t1, .int .i64 n1, .int .i64 wait1] w K :=
  vcFn.calls (an := An.queue_Tally_came) mixed tabOK eqsOK Go.Proofs.Try.func36 (by kernel_rfl) (by kernel_rfl) (by kernel_rfl) ((by kernel_rfl : vcFn prog eqs tab An.queue_Tally_came Go.Proofs.Try.f36 [.pointer t1, .int .i64 n1, .int .i64 wait1] w K = C.queue_Tally_came t1 n1 wait1 w K).mpr h)

/-- slices.Clone[[]int,int] -/
def C.slices_Clone_int_int (s1p : Option Addr) (s1n s1c : Nat) (w : World) (K : Value → World → Prop) : Prop :=
  ifB s1p.isNone (
    K (.slice none 0 0) w) (
    ∀ b1 wv1, New w (.cells #[] T.int) b1 wv1 →
    BuiltV prog .append #[T.s_int, T.s_int] T.s_int #[.slice (some (Addr.mk b1 0 none)) 0 0, .slice s1p s1n s1c] wv1 (fun v1 wv2 =>
      ∃ (a1p : Option Addr) (a1n a1c : Nat),
      v1 = .slice a1p a1n a1c ∧
      K (.slice a1p a1n a1c) wv2))
def An.slices_Clone_int_int : Ann := ⟨[], [], []⟩
theorem R.slices_Clone_int_int {s1p : Option Addr} {s1n s1c : Nat} {w : World} {K : Value → World → Prop} (h : C.slices_Clone_int_int s1p s1n s1c w K) : CallsV prog F.slices_Clone_int_int #[.slice s1p s1n s1c] w K :=
  vcFn.calls (an := An.slices_Clone_int_int) mixed tabOK eqsOK Go.Proofs.Try.func37 (by kernel_rfl) (by kernel_rfl) (by kernel_rfl) ((by kernel_rfl : vcFn prog eqs tab An.slices_Clone_int_int Go.Proofs.Try.f37 [.slice s1p s1n s1c] w K = C.slices_Clone_int_int s1p s1n s1c w K).mpr h)

/-- slices.Delete[[]int,int] -/
def C.slices_Delete_int_int (s1p : Option Addr) (s1n s1c : Nat) (i1 : Int) (j1 : Int) (w : World) (K : Value → World → Prop) : Prop :=
  0 ≤ ((s1n : Nat) : Int) ∧ ((s1n : Nat) : Int) ≤ ((s1c : Nat) : Int) ∧
  0 ≤ j1 ∧ j1 ≤ ((((s1n : Nat) : Int).toNat : Nat) : Int) ∧
  0 ≤ i1 ∧ i1 ≤ ((j1.toNat : Nat) : Int) ∧
  ifB (i1 == j1) (
    K (.slice s1p s1n s1c) w) (
    0 ≤ i1 ∧ i1 ≤ ((s1c : Nat) : Int) ∧
    0 ≤ j1 ∧ j1 ≤ ((s1n : Nat) : Int) ∧
    BuiltV prog .append #[T.s_int, T.s_int] T.s_int #[.slice (cutAt s1p 0 s1c 1) (i1.toNat - 0) (s1c - 0), .slice (cutAt s1p j1.toNat s1c 1) (s1n - j1.toNat) (s1c - j1.toNat)] w.drew (fun v1 wv1 =>
      ∃ (a1p : Option Addr) (a1n a1c : Nat),
      v1 = .slice a1p a1n a1c ∧
      0 ≤ ((s1n : Nat) : Int) ∧ ((s1n : Nat) : Int) ≤ ((a1c : Nat) : Int) ∧
      0 ≤ ((a1n : Nat) : Int) ∧ ((a1n : Nat) : Int) ≤ ((((s1n : Nat) : Int).toNat : Nat) : Int) ∧
      BuiltV prog .clear #[T.s_int] T.unit #[.slice (cutAt a1p (((a1n : Nat) : Int).toNat) a1c 1) ((((s1n : Nat) : Int).toNat) - (((a1n : Nat) : Int).toNat)) (a1c - (((a1n : Nat) : Int).toNat))] wv1 (fun v2 wv2 =>
        K (.slice a1p a1n a1c) wv2)))
def An.slices_Delete_int_int : Ann := ⟨[(5, .sil 0 [] (.sil 1 [] (.sil 2 [] (.sil 3 [] (.sil 4 [] (.sil 5 [] (.act 6 (.sil 7 [] (.done)))))))))], [], []⟩
theorem R.slices_Delete_int_int {s1p : Option Addr} {s1n s1c : Nat} {i1 : Int} {j1 : Int} {w : World} {K : Value → World → Prop} (h : C.slices_Delete_int_int s1p s1n s1c i1 j1 w K) : CallsV prog F.slices_Delete_int_int #[.slice s1p s1n s1c, .int .i64 i1, .int .i64 j1] w K :=
  vcFn.calls (an := An.slices_Delete_int_int) mixed tabOK eqsOK Go.Proofs.Try.func38 (by kernel_rfl) (by kernel_rfl) (by kernel_rfl) ((by kernel_rfl : vcFn prog eqs tab An.slices_Delete_int_int Go.Proofs.Try.f38 [.slice s1p s1n s1c, .int .i64 i1, .int .i64 j1] w K = C.slices_Delete_int_int s1p s1n s1c i1 j1 w K).mpr h)

/-- afflux/affluxref02.Great -/
def C.affluxref02_Great (l1p : Option Addr) (l1n l1c : Nat) (w : World) (K : Value → World → Prop) : Prop :=
  ifB (decide ((30 : Int) < ((l1n : Nat) : Int))) (
    K (.bool true) w) (
    ∃ (Iv1 : Int → World → Prop) (m1 : Int → World → Nat),
    Iv1 0 w ∧
    ∀ (i1 : Int) wv1, Iv1 i1 wv1 →
    ifB (decide (i1 < ((l1n : Nat) : Int))) (
      ∃ a1, l1p = some a1 ∧ 0 ≤ i1 ∧ i1 < ((l1n : Nat) : Int) ∧
      ∃ (S1 : ByteArray),
      wv1.cell? ((a1.add (i1.toNat * 3)).add 2) = some (.string S1) ∧
      ifB (decide ((300 : Int) < ((S1.size : Nat) : Int))) (
        K (.bool true) wv1) (
        Iv1 (IntKind.i64.wrap (i1 + (1 : Int))) wv1 ∧ m1 (IntKind.i64.wrap (i1 + (1 : Int))) wv1 < m1 i1 wv1)) (
      K (.bool false) wv1))
def An.affluxref02_Great : Ann := ⟨[], [(4, [(3, 3)], [0])], []⟩
theorem R.affluxref02_Great {l1p : Option Addr} {l1n l1c : Nat} {w : World} {K : Value → World → Prop} (h : C.affluxref02_Great l1p l1n l1c w K) : CallsV prog F.affluxref02_Great #[.slice l1p l1n l1c] w K :=
  vcFn.calls (an := An.affluxref02_Great) mixed tabOK eqsOK Go.Proofs.Try.func39 (by kernel_rfl) (by kernel_rfl) (by kernel_rfl) ((by kernel_rfl : vcFn prog eqs tab An.affluxref02_Great Go.Proofs.Try.f39 [.slice l1p l1n l1c] w K = C.affluxref02_Great l1p l1n l1c w K).mpr h)

/-- afflux/affluxlaw19.num -/
def C.affluxlaw19_num (n1 : Int) (w : World) (K : Value → World → Prop) : Prop :=
  ∀ b1 wv1, New w (.cells #[.int .i64 1, .int .i64 n1, .string (bs [])] T.api_Value) b1 wv1 →
  K (.slice (some (Addr.mk b1 0 none)) 1 1) wv1
def An.affluxlaw19_num : Ann := ⟨[], [], []⟩
theorem R.affluxlaw19_num {n1 : Int} {w : World} {K : Value → World → Prop} (h : C.affluxlaw19_num n1 w K) : CallsV prog F.affluxlaw19_num #[.int .i64 n1] w K :=
  vcFn.calls (an := An.affluxlaw19_num) mixed tabOK eqsOK Go.Proofs.Try.func40 (by kernel_rfl) (by kernel_rfl) (by kernel_rfl) ((by kernel_rfl : vcFn prog eqs tab An.affluxlaw19_num Go.Proofs.Try.f40 [.int .i64 n1] w K = C.affluxlaw19_num n1 w K).mpr h)

/-- afflux/affluxref04.Same -/
def C.affluxref04_Same (a1p : Option Addr) (a1n a1c : Nat) (b1p : Option Addr) (b1n b1c : Nat) (w : World) (K : Value → World → Prop) : Prop :=
  ifB (((a1n : Nat) : Int) != ((b1n : Nat) : Int)) (
    K (.bool false) w) (
    ∃ (Iv1 : Int → World → Prop) (m1 : Int → World → Nat),
    Iv1 0 w ∧
    ∀ (i1 : Int) wv1, Iv1 i1 wv1 →
    ifB (decide (i1 < ((a1n : Nat) : Int))) (
      ∃ a2, a1p = some a2 ∧ 0 ≤ i1 ∧ i1 < ((a1n : Nat) : Int) ∧
      ∃ (e1p : Option Addr) (e1n e1c : Nat),
      wv1.drew.cell? (a2.add (i1.toNat * 1)) = some (.slice e1p e1n e1c) ∧
      ∃ a3, b1p = some a3 ∧ 0 ≤ i1 ∧ i1 < ((b1n : Nat) : Int) ∧
      ∃ (e2p : Option Addr) (e2n e2c : Nat),
      wv1.drew.cell? (a3.add (i1.toNat * 1)) = some (.slice e2p e2n e2c) ∧
      CallsV prog F.affluxref02_Same #[.slice e1p e1n e1c, .slice e2p e2n e2c] wv1.drew (fun v1 wv2 =>
        ∃ (r1 : Bool),
        v1 = .bool r1 ∧
        ifB (!r1) (
          K (.bool false) wv2) (
          Iv1 (IntKind.i64.wrap (i1 + (1 : Int))) wv2 ∧ m1 (IntKind.i64.wrap (i1 + (1 : Int))) wv2 < m1 i1 wv1))) (
      K (.bool true) wv1))
def An.affluxref04_Same : Ann := ⟨[(6, .sil 0 [] (.sil 1 [] (.sil 2 [] (.sil 3 [] (.sil 4 [] (.sil 5 [] (.sil 6 [] (.sil 7 [] (.act 8 (.sil 9 [] (.done)))))))))))], [(4, [(5, 3)], [0, 1])], []⟩
theorem R.affluxref04_Same {a1p : Option Addr} {a1n a1c : Nat} {b1p : Option Addr} {b1n b1c : Nat} {w : World} {K : Value → World → Prop} (h : C.affluxref04_Same a1p a1n a1c b1p b1n b1c w K) : CallsV prog F.affluxref04_Same #[.slice a1p a1n a1c, .slice b1p b1n b1c] w K :=
  vcFn.calls (an := An.affluxref04_Same) mixed tabOK eqsOK Go.Proofs.Try.func41 (by kernel_rfl) (by kernel_rfl) (by kernel_rfl) ((by kernel_rfl : vcFn prog eqs tab An.affluxref04_Same Go.Proofs.Try.f41 [.slice a1p a1n a1c, .slice b1p b1n b1c] w K = C.affluxref04_Same a1p a1n a1c b1p b1n b1c w K).mpr h)

/-- slices.Clone[[]afflux/api.Column,afflux/api.Column] -/
def C.slices_Clone_api_Column_api_Column (s1p : Option Addr) (s1n s1c : Nat) (w : World) (K : Value → World → Prop) : Prop :=
  ifB s1p.isNone (
    K (.slice none 0 0) w) (
    ∀ b1 wv1, New w (.cells #[] T.api_Column) b1 wv1 →
    BuiltV prog .append #[T.s_api_Column, T.s_api_Column] T.s_api_Column #[.slice (some (Addr.mk b1 0 none)) 0 0, .slice s1p s1n s1c] wv1 (fun v1 wv2 =>
      ∃ (a1p : Option Addr) (a1n a1c : Nat),
      v1 = .slice a1p a1n a1c ∧
      K (.slice a1p a1n a1c) wv2))
def An.slices_Clone_api_Column_api_Column : Ann := ⟨[], [], []⟩
theorem R.slices_Clone_api_Column_api_Column {s1p : Option Addr} {s1n s1c : Nat} {w : World} {K : Value → World → Prop} (h : C.slices_Clone_api_Column_api_Column s1p s1n s1c w K) : CallsV prog F.slices_Clone_api_Column_api_Column #[.slice s1p s1n s1c] w K :=
  vcFn.calls (an := An.slices_Clone_api_Column_api_Column) mixed tabOK eqsOK Go.Proofs.Try.func42 (by kernel_rfl) (by kernel_rfl) (by kernel_rfl) ((by kernel_rfl : vcFn prog eqs tab An.slices_Clone_api_Column_api_Column Go.Proofs.Try.f42 [.slice s1p s1n s1c] w K = C.slices_Clone_api_Column_api_Column s1p s1n s1c w K).mpr h)

/-- afflux/schema.Named -/
def C.schema_Named (l1p : Option Addr) (l1n l1c : Nat) (w : World) (K : Value → World → Prop) : Prop :=
  ∃ (Iv1 : Int → World → Prop) (m1 : Int → World → Nat),
  Iv1 0 w ∧
  ∀ (s71 : Int) wv1, Iv1 s71 wv1 →
  ifB (decide (s71 < ((l1n : Nat) : Int))) (
    ∃ a1, l1p = some a1 ∧ 0 ≤ s71 ∧ s71 < ((l1n : Nat) : Int) ∧
    ∃ (e1 : ByteArray),
    wv1.cell? (a1.add (s71.toNat * 1)) = some (.string e1) ∧
    CallsV prog F.schema_named #[.string e1] wv1 (fun v1 wv2 =>
      ∃ (r1 : Bool),
      v1 = .bool r1 ∧
      ifB (!r1) (
        K (.bool false) wv2) (
        Iv1 (IntKind.i64.wrap (s71 + (1 : Int))) wv2 ∧ m1 (IntKind.i64.wrap (s71 + (1 : Int))) wv2 < m1 s71 wv1))) (
    K (.bool true) wv1)
def An.schema_Named : Ann := ⟨[], [(2, [(7, 3)], [5, 6])], []⟩
theorem R.schema_Named {l1p : Option Addr} {l1n l1c : Nat} {w : World} {K : Value → World → Prop} (h : C.schema_Named l1p l1n l1c w K) : CallsV prog F.schema_Named #[.slice l1p l1n l1c] w K :=
  vcFn.calls (an := An.schema_Named) mixed tabOK eqsOK Go.Proofs.Try.func43 (by kernel_rfl) (by kernel_rfl) (by kernel_rfl) ((by kernel_rfl : vcFn prog eqs tab An.schema_Named Go.Proofs.Try.f43 [.slice l1p l1n l1c] w K = C.schema_Named l1p l1n l1c w K).mpr h)

/-- afflux/affluxref03.Named -/
def C.affluxref03_Named (s1 : ByteArray) (w : World) (K : Value → World → Prop) : Prop :=
  ifB (decide (((s1.size : Nat) : Int) < (1 : Int))) (
    K (.bool false) w) (
    ifB (decide ((16 : Int) < ((s1.size : Nat) : Int))) (
      K (.bool false) w) (
      ∃ (Iv1 : Int → World → Prop) (m1 : Int → World → Nat),
      Iv1 0 w ∧
      ∀ (i1 : Int) wv1, Iv1 i1 wv1 →
      ifB (decide (i1 < ((s1.size : Nat) : Int))) (
        0 ≤ i1 ∧ i1 < ((s1.size : Nat) : Int) ∧
        ifB (decide ((97 : Int) ≤ (bt s1 i1))) (
          ifB (!(decide ((bt s1 i1) ≤ (122 : Int)))) (
            ifB (i1 == (0 : Int)) (
              K (.bool false) wv1) (
              ifB (decide ((48 : Int) ≤ (bt s1 i1))) (
                ifB (!(decide ((bt s1 i1) ≤ (57 : Int)))) (
                  ifB ((bt s1 i1) != (95 : Int)) (
                    K (.bool false) wv1) (
                    Iv1 (IntKind.i64.wrap (i1 + (1 : Int))) wv1 ∧ m1 (IntKind.i64.wrap (i1 + (1 : Int))) wv1 < m1 i1 wv1)) (
                  Iv1 (IntKind.i64.wrap (i1 + (1 : Int))) wv1 ∧ m1 (IntKind.i64.wrap (i1 + (1 : Int))) wv1 < m1 i1 wv1)) (
                ifB ((bt s1 i1) != (95 : Int)) (
                  K (.bool false) wv1) (
                  Iv1 (IntKind.i64.wrap (i1 + (1 : Int))) wv1 ∧ m1 (IntKind.i64.wrap (i1 + (1 : Int))) wv1 < m1 i1 wv1)))) (
            Iv1 (IntKind.i64.wrap (i1 + (1 : Int))) wv1 ∧ m1 (IntKind.i64.wrap (i1 + (1 : Int))) wv1 < m1 i1 wv1)) (
          ifB (i1 == (0 : Int)) (
            K (.bool false) wv1) (
            ifB (decide ((48 : Int) ≤ (bt s1 i1))) (
              ifB (!(decide ((bt s1 i1) ≤ (57 : Int)))) (
                ifB ((bt s1 i1) != (95 : Int)) (
                  K (.bool false) wv1) (
                  Iv1 (IntKind.i64.wrap (i1 + (1 : Int))) wv1 ∧ m1 (IntKind.i64.wrap (i1 + (1 : Int))) wv1 < m1 i1 wv1)) (
                Iv1 (IntKind.i64.wrap (i1 + (1 : Int))) wv1 ∧ m1 (IntKind.i64.wrap (i1 + (1 : Int))) wv1 < m1 i1 wv1)) (
              ifB ((bt s1 i1) != (95 : Int)) (
                K (.bool false) wv1) (
                Iv1 (IntKind.i64.wrap (i1 + (1 : Int))) wv1 ∧ m1 (IntKind.i64.wrap (i1 + (1 : Int))) wv1 < m1 i1 wv1))))) (
        K (.bool true) wv1)))
def An.affluxref03_Named : Ann := ⟨[], [(4, [(3, 3)], [0])], []⟩
theorem R.affluxref03_Named {s1 : ByteArray} {w : World} {K : Value → World → Prop} (h : C.affluxref03_Named s1 w K) : CallsV prog F.affluxref03_Named #[.string s1] w K :=
  vcFn.calls (an := An.affluxref03_Named) mixed tabOK eqsOK Go.Proofs.Try.func44 (by kernel_rfl) (by kernel_rfl) (by kernel_rfl) ((by kernel_rfl : vcFn prog eqs tab An.affluxref03_Named Go.Proofs.Try.f44 [.string s1] w K = C.affluxref03_Named s1 w K).mpr h)

/-- afflux/affluxref03.Fits -/
def C.affluxref03_Fits (sName1 : ByteArray) (sCols1p : Option Addr) (sCols1n sCols1c : Nat) (sIndexes1p : Option Addr) (sIndexes1n sIndexes1c : Nat) (sLimit1 : Int) (sParts1 : Int) (sBy1 : Int) (row1p : Option Addr) (row1n row1c : Nat) (w : World) (K : Value → World → Prop) : Prop :=
  ∀ b1 wv1, New w (.cells #[.string sName1, .slice sCols1p sCols1n sCols1c, .slice sIndexes1p sIndexes1n sIndexes1c, .int .i64 sLimit1, .int .i64 sParts1, .int .i64 sBy1] T.api_Schema) b1 wv1 →
  ∃ (Cols1p : Option Addr) (Cols1n Cols1c : Nat),
  wv1.cell? ((Addr.mk b1 0 none).add 1) = some (.slice Cols1p Cols1n Cols1c) ∧
  ifB (((row1n : Nat) : Int) != ((Cols1n : Nat) : Int)) (
    K (.bool false) wv1) (
    CallsV prog F.affluxref02_All #[.slice row1p row1n row1c] wv1 (fun v1 wv2 =>
      ∃ (r1 : Bool),
      v1 = .bool r1 ∧
      ifB (!r1) (
        K (.bool false) wv2) (
        ∃ (Iv1 : Int → World → Prop) (m1 : Int → World → Nat),
        Iv1 0 wv2 ∧
        ∀ (i1 : Int) wv3, Iv1 i1 wv3 →
        ifB (decide (i1 < ((row1n : Nat) : Int))) (
          ∃ a1, row1p = some a1 ∧ 0 ≤ i1 ∧ i1 < ((row1n : Nat) : Int) ∧
          ∃ (Kind1 : Int),
          wv3.drew.cell? ((a1.add (i1.toNat * 3)).add 0) = some (.int .i64 Kind1) ∧
          ∃ (Cols2p : Option Addr) (Cols2n Cols2c : Nat),
          wv3.drew.cell? ((Addr.mk b1 0 none).add 1) = some (.slice Cols2p Cols2n Cols2c) ∧
          ∃ a2, Cols2p = some a2 ∧ 0 ≤ i1 ∧ i1 < ((Cols2n : Nat) : Int) ∧
          ∃ (Kind2 : Int),
          wv3.drew.cell? ((a2.add (i1.toNat * 2)).add 1) = some (.int .i64 Kind2) ∧
          ifB (Kind1 != Kind2) (
            K (.bool false) wv3.drew) (
            Iv1 (IntKind.i64.wrap (i1 + (1 : Int))) wv3.drew ∧ m1 (IntKind.i64.wrap (i1 + (1 : Int))) wv3.drew < m1 i1 wv3)) (
          K (.bool true) wv3))))
def An.affluxref03_Fits : Ann := ⟨[(6, .sil 0 [] (.sil 1 [] (.sil 2 [] (.sil 3 [] (.sil 4 [] (.sil 5 [] (.sil 6 [] (.sil 7 [] (.sil 8 [] (.sil 9 [] (.sil 10 [] (.sil 11 [] (.done)))))))))))))], [(4, [(5, 3)], [1, 2])], []⟩
theorem R.affluxref03_Fits {sName1 : ByteArray} {sCols1p : Option Addr} {sCols1n sCols1c : Nat} {sIndexes1p : Option Addr} {sIndexes1n sIndexes1c : Nat} {sLimit1 : Int} {sParts1 : Int} {sBy1 : Int} {row1p : Option Addr} {row1n row1c : Nat} {w : World} {K : Value → World → Prop} (h : C.affluxref03_Fits sName1 sCols1p sCols1n sCols1c sIndexes1p sIndexes1n sIndexes1c sLimit1 sParts1 sBy1 row1p row1n row1c w K) : CallsV prog F.affluxref03_Fits #[.agg #[.string sName1, .slice sCols1p sCols1n sCols1c, .slice sIndexes1p sIndexes1n sIndexes1c, .int .i64 sLimit1, .int .i64 sParts1, .int .i64 sBy1], .slice row1p row1n row1c] w K :=
  vcFn.calls (an := An.affluxref03_Fits) mixed tabOK eqsOK Go.Proofs.Try.func45 (by kernel_rfl) (by kernel_rfl) (by kernel_rfl) ((by kernel_rfl : vcFn prog eqs tab An.affluxref03_Fits Go.Proofs.Try.f45 [.agg #[.string sName1, .slice sCols1p sCols1n sCols1c, .slice sIndexes1p sIndexes1n sIndexes1c, .int .i64 sLimit1, .int .i64 sParts1, .int .i64 sBy1], .slice row1p row1n row1c] w K = C.affluxref03_Fits sName1 sCols1p sCols1n sCols1c sIndexes1p sIndexes1n sIndexes1c sLimit1 sParts1 sBy1 row1p row1n row1c w K).mpr h)

/-- afflux/stream.Fits -/
def C.stream_Fits (cols1p : Option Addr) (cols1n cols1c : Nat) (rows1p : Option Addr) (rows1n rows1c : Nat) (w : World) (K : Value → World → Prop) : Prop :=
  CallsV prog F.stream_columns_fits #[.agg #[.string (bs []), .slice cols1p cols1n cols1c], .slice rows1p rows1n rows1c] w (fun v1 wv1 =>
    ∃ (r1 : Bool),
    v1 = .bool r1 ∧
    K (.bool r1) wv1)
def An.stream_Fits : Ann := ⟨[], [], []⟩
theorem R.stream_Fits {cols1p : Option Addr} {cols1n cols1c : Nat} {rows1p : Option Addr} {rows1n rows1c : Nat} {w : World} {K : Value → World → Prop} (h : C.stream_Fits cols1p cols1n cols1c rows1p rows1n rows1c w K) : CallsV prog F.stream_Fits #[.slice cols1p cols1n cols1c, .slice rows1p rows1n rows1c] w K :=
  vcFn.calls (an := An.stream_Fits) mixed tabOK eqsOK Go.Proofs.Try.func46 (by kernel_rfl) (by kernel_rfl) (by kernel_rfl) ((by kernel_rfl : vcFn prog eqs tab An.stream_Fits Go.Proofs.Try.f46 [.slice cols1p cols1n cols1c, .slice rows1p rows1n rows1c] w K = C.stream_Fits cols1p cols1n cols1c rows1p rows1n rows1c w K).mpr h)

/-- (*afflux/undo.Journal).Note -/
def C.undo_Journal_Note (j1 : Option Addr) (l1p : Option Addr) (l1n l1c : Nat) (w : World) (K : Value → World → Prop) : Prop :=
  ifB (!j1.isNone) (
    ∃ ja1, j1 = some ja1 ∧
    ∃ (l2p : Option Addr) (l2n l2c : Nat),
    w.cell? (ja1.add 0) = some (.slice l2p l2n l2c) ∧
    BuiltV prog .append #[T.s_undo_Step, T.s_undo_Step] T.s_undo_Step #[.slice l2p l2n l2c, .slice l1p l1n l1c] w (fun v1 wv1 =>
      ∃ (a1p : Option Addr) (a1n a1c : Nat),
      v1 = .slice a1p a1n a1c ∧
      ∃ ja2, j1 = some ja2 ∧
      CanSt wv1 (ja2.add 0) ∧ ∀ wv2, wv2 = wv1.setCell (ja2.add 0) (.slice a1p a1n a1c) →
      K (.tuple #[]) wv2)) (
    K (.tuple #[]) w)
def An.undo_Journal_Note : Ann := ⟨[], [], []⟩
theorem R.undo_Journal_Note {j1 : Option Addr} {l1p : Option Addr} {l1n l1c : Nat} {w : World} {K : Value → World → Prop} (h : C.undo_Journal_Note j1 l1p l1n l1c w K) : CallsV prog F.undo_Journal_Note #[.pointer j1, .slice l1p l1n l1c] w K :=
  vcFn.calls (an := An.undo_Journal_Note) mixed tabOK eqsOK Go.Proofs.Try.func47 (by kernel_rfl) (by kernel_rfl) (by kernel_rfl) ((by kernel_rfl : vcFn prog eqs tab An.undo_Journal_Note Go.Proofs.Try.f47 [.pointer j1, .slice l1p l1n l1c] w K = C.undo_Journal_Note j1 l1p l1n l1c w K).mpr h)

/-- (*afflux/window.Window).split -/
def C.window_Window_split (wv1 : Option Addr) (xId1 : Int) (xRows1p : Option Addr) (xRows1n xRows1c : Nat) (w : World) (K : Value → World → Prop) : Prop :=
  ∀ b1 wv2, New w (.cells #[.int .i64 xId1, .slice xRows1p xRows1n xRows1c] T.stream_Batch) b1 wv2 →
  ∃ (Rows1p : Option Addr) (Rows1n Rows1c : Nat),
  wv2.cell? ((Addr.mk b1 0 none).add 1) = some (.slice Rows1p Rows1n Rows1c) ∧
  ∃ (Iv1 : Option Addr → Nat → Nat → Option Addr → Nat → Nat → Int → World → Prop) (m1 : Option Addr → Nat → Nat → Option Addr → Nat → Nat → Int → World → Nat),
  Iv1 none 0 0 none 0 0 0 wv2 ∧
  ∀ (whole1p : Option Addr) (whole1n whole1c : Nat) (each1p : Option Addr) (each1n each1c : Nat) (s121 : Int) wv3, Iv1 whole1p whole1n whole1c each1p each1n each1c s121 wv3 →
  ifB (decide (s121 < ((Rows1n : Nat) : Int))) (
    ∃ a1, Rows1p = some a1 ∧ 0 ≤ s121 ∧ s121 < ((Rows1n : Nat) : Int) ∧
    ∃ (e1p : Option Addr) (e1n e1c : Nat),
    wv3.cell? (a1.add (s121.toNat * 1)) = some (.slice e1p e1n e1c) ∧
    CallsV prog F.slices_Clone_api_Value_api_Value #[.slice e1p e1n e1c] wv3 (fun v1 wv4 =>
      ∃ (r1p : Option Addr) (r1n r1c : Nat),
      v1 = .slice r1p r1n r1c ∧
      ∀ b2 wv5, New wv4 (.cells #[.slice r1p r1n r1c] T.s_api_Value) b2 wv5 →
      BuiltV prog .append #[T.window_unit, T.window_unit] T.window_unit #[.slice whole1p whole1n whole1c, .slice (some (Addr.mk b2 0 none)) 1 1] wv5 (fun v2 wv6 =>
        ∃ (a2p : Option Addr) (a2n a2c : Nat),
        v2 = .slice a2p a2n a2c ∧
        ∀ b3 wv7, New wv6 (.cells #[.slice r1p r1n r1c] T.s_api_Value) b3 wv7 →
        ∀ b4 wv8, New wv7 (.cells #[.slice (some (Addr.mk b3 0 none)) 1 1] T.window_unit) b4 wv8 →
        BuiltV prog .append #[T.s_window_unit, T.s_window_unit] T.s_window_unit #[.slice each1p each1n each1c, .slice (some (Addr.mk b4 0 none)) 1 1] wv8 (fun v3 wv9 =>
          ∃ (a3p : Option Addr) (a3n a3c : Nat),
          v3 = .slice a3p a3n a3c ∧
          Iv1 a2p a2n a2c a3p a3n a3c (IntKind.i64.wrap (s121 + (1 : Int))) wv9 ∧ m1 a2p a2n a2c a3p a3n a3c (IntKind.i64.wrap (s121 + (1 : Int))) wv9 < m1 whole1p whole1n whole1c each1p each1n each1c s121 wv3)))) (
    ∃ wva1, wv1 = some wva1 ∧
    ∃ (Batches1 : Bool),
    wv3.cell? ((wva1.add 0).add 3) = some (.bool Batches1) ∧
    ifB Batches1 (
      ∀ b5 wv10, New wv3 (.cells #[.slice whole1p whole1n whole1c] T.window_unit) b5 wv10 →
      K (.slice (some (Addr.mk b5 0 none)) 1 1) wv10) (
      K (.slice each1p each1n each1c) wv3))
def An.window_Window_split : Ann := ⟨[], [(4, [(5, 101), (6, 85), (12, 3)], [0, 10, 11])], []⟩
theorem R.window_Window_split {wv1 : Option Addr} {xId1 : Int} {xRows1p : Option Addr} {xRows1n xRows1c : Nat} {w : World} {K : Value → World → Prop} (h : C.window_Window_split wv1 xId1 xRows1p xRows1n xRows1c w K) : CallsV prog F.window_Window_split #[.pointer wv1, .agg #[.int .i64 xId1, .slice xRows1p xRows1n xRows1c]] w K :=
  vcFn.calls (an := An.window_Window_split) mixed tabOK eqsOK Go.Proofs.Try.func48 (by kernel_rfl) (by kernel_rfl) (by kernel_rfl) ((by kernel_rfl : vcFn prog eqs tab An.window_Window_split Go.Proofs.Try.f48 [.pointer wv1, .agg #[.int .i64 xId1, .slice xRows1p xRows1n xRows1c]] w K = C.window_Window_split wv1 xId1 xRows1p xRows1n xRows1c w K).mpr h)

/-- (*afflux/window.Window).come -/
def C.window_Window_come (wv1 : Option Addr) (u1p : Option Addr) (u1n u1c : Nat) (w : World) (K : Value → World → Prop) : Prop :=
  ∃ wva1, wv1 = some wva1 ∧
  ∃ (staged1p : Option Addr) (staged1n staged1c : Nat),
  w.cell? ((wva1.add 6).add 1) = some (.slice staged1p staged1n staged1c) ∧
  CallsV prog F.slices_Clone_window_unit_window_unit #[.slice staged1p staged1n staged1c] w (fun v1 wv2 =>
    ∃ (r1p : Option Addr) (r1n r1c : Nat),
    v1 = .slice r1p r1n r1c ∧
    ∀ b1 wv3, New wv2 (.cells #[.slice u1p u1n u1c] T.window_unit) b1 wv3 →
    BuiltV prog .append #[T.s_window_unit, T.s_window_unit] T.s_window_unit #[.slice r1p r1n r1c, .slice (some (Addr.mk b1 0 none)) 1 1] wv3 (fun v2 wv4 =>
      ∃ (a1p : Option Addr) (a1n a1c : Nat),
      v2 = .slice a1p a1n a1c ∧
      ∃ wva2, wv1 = some wva2 ∧
      CanSt wv4 ((wva2.add 6).add 1) ∧ ∀ wv5, wv5 = wv4.setCell ((wva2.add 6).add 1) (.slice a1p a1n a1c) →
      ∃ wva3, wv1 = some wva3 ∧
      ∃ (staged2p : Option Addr) (staged2n staged2c : Nat),
      wv5.drew.cell? ((wva3.add 6).add 1) = some (.slice staged2p staged2n staged2c) ∧
      ∃ wva4, wv1 = some wva4 ∧
      ∃ (Slide1 : Int),
      wv5.drew.cell? ((wva4.add 0).add 5) = some (.int .i64 Slide1) ∧
      ifB (decide (((staged2n : Nat) : Int) < Slide1)) (
        K (.bool false) wv5.drew) (
        ∃ wva5, wv1 = some wva5 ∧
        ∃ (seen1p : Option Addr) (seen1n seen1c : Nat),
        wv5.drew.drew.cell? ((wva5.add 6).add 0) = some (.slice seen1p seen1n seen1c) ∧
        ∃ wva6, wv1 = some wva6 ∧
        ∃ (staged3p : Option Addr) (staged3n staged3c : Nat),
        wv5.drew.drew.cell? ((wva6.add 6).add 1) = some (.slice staged3p staged3n staged3c) ∧
        CallsV prog F.slices_Clone_window_unit_window_unit #[.slice seen1p seen1n seen1c] wv5.drew.drew (fun v3 wv6 =>
          ∃ (r2p : Option Addr) (r2n r2c : Nat),
          v3 = .slice r2p r2n r2c ∧
          wv6.cell? ((wva6.add 6).add 1) = some (.slice staged3p staged3n staged3c) ∧
          BuiltV prog .append #[T.s_window_unit, T.s_window_unit] T.s_window_unit #[.slice r2p r2n r2c, .slice staged3p staged3n staged3c] wv6 (fun v4 wv7 =>
            ∃ (a2p : Option Addr) (a2n a2c : Nat),
            v4 = .slice a2p a2n a2c ∧
            ∃ wva7, wv1 = some wva7 ∧
            ∃ (Size1 : Int),
            wv7.cell? ((wva7.add 0).add 4) = some (.int .i64 Size1) ∧
            0 ≤ mm2 true (IntKind.i64.wrap (((a2n : Nat) : Int) - Size1)) 0 ∧ mm2 true (IntKind.i64.wrap (((a2n : Nat) : Int) - Size1)) 0 ≤ ((a2n : Nat) : Int) ∧
            ∃ wva8, wv1 = some wva8 ∧
            CanSt wv7 ((wva8.add 6).add 0) ∧ ∀ wv8, wv8 = wv7.setCell ((wva8.add 6).add 0) (.slice (cutAt a2p ((mm2 true (IntKind.i64.wrap (((a2n : Nat) : Int) - Size1)) 0).toNat) a2c 1) (a2n - ((mm2 true (IntKind.i64.wrap (((a2n : Nat) : Int) - Size1)) 0).toNat)) (a2c - ((mm2 true (IntKind.i64.wrap (((a2n : Nat) : Int) - Size1)) 0).toNat))) →
            ∃ wva9, wv1 = some wva9 ∧
            CanSt wv8 ((wva9.add 6).add 1) ∧ ∀ wv9, wv9 = wv8.setCell ((wva9.add 6).add 1) (.slice none 0 0) →
            K (.bool true) wv9)))))
def An.window_Window_come : Ann := ⟨[(2, .sil 0 [] (.sil 1 [] (.sil 2 [] (.sil 3 [] (.sil 4 [] (.sil 5 [] (.sil 6 [] (.sil 7 [] (.sil 8 [] (.sil 9 [] (.sil 10 [] (.sil 11 [] (.done))))))))))))), (4, .sil 0 [] (.sil 1 [] (.sil 2 [] (.sil 3 [] (.sil 4 [] (.sil 6 [] (.sil 7 [] (.sil 8 [] (.sil 9 [] (.sil 10 [5] (.act 5 (.act 11 (.sil 12 [] (.done))))))))))))))], [], []⟩
theorem R.window_Window_come {wv1 : Option Addr} {u1p : Option Addr} {u1n u1c : Nat} {w : World} {K : Value → World → Prop} (h : C.window_Window_come wv1 u1p u1n u1c w K) : CallsV prog F.window_Window_come #[.pointer wv1, .slice u1p u1n u1c] w K :=
  vcFn.calls (an := An.window_Window_come) mixed tabOK eqsOK Go.Proofs.Try.func49 (by kernel_rfl) (by kernel_rfl) (by kernel_rfl) ((by kernel_rfl : vcFn prog eqs tab An.window_Window_come Go.Proofs.Try.f49 [.pointer wv1, .slice u1p u1n u1c] w K = C.window_Window_come wv1 u1p u1n u1c w K).mpr h)

/-- afflux/affluxlaw19.split -/
def C.affluxlaw19_split (wName1 : ByteArray) (wOn1 : ByteArray) (wOwner1 : ByteArray) (wBatches1 : Bool) (wSize1 : Int) (wSlide1 : Int) (all1p : Option Addr) (all1n all1c : Nat) (w : World) (K : Value → World → Prop) : Prop :=
  ∀ b1 wv1, New w (.cells #[.string wName1, .string wOn1, .string wOwner1, .bool wBatches1, .int .i64 wSize1, .int .i64 wSlide1] T.api_Window) b1 wv1 →
  ∃ (Slide1 : Int),
  wv1.drew.cell? ((Addr.mk b1 0 none).add 5) = some (.int .i64 Slide1) ∧
  Slide1 ≠ 0 ∧
  ∃ (Slide2 : Int),
  wv1.drew.cell? ((Addr.mk b1 0 none).add 5) = some (.int .i64 Slide2) ∧
  ∃ (Size1 : Int),
  wv1.drew.drew.cell? ((Addr.mk b1 0 none).add 4) = some (.int .i64 Size1) ∧
  0 ≤ IntKind.i64.wrap ((IntKind.i64.wrap (Int.tdiv ((all1n : Nat) : Int) Slide1)) * Slide2) ∧ IntKind.i64.wrap ((IntKind.i64.wrap (Int.tdiv ((all1n : Nat) : Int) Slide1)) * Slide2) ≤ ((all1c : Nat) : Int) ∧
  0 ≤ mm2 true (IntKind.i64.wrap ((IntKind.i64.wrap ((IntKind.i64.wrap (Int.tdiv ((all1n : Nat) : Int) Slide1)) * Slide2)) - Size1)) 0 ∧ mm2 true (IntKind.i64.wrap ((IntKind.i64.wrap ((IntKind.i64.wrap (Int.tdiv ((all1n : Nat) : Int) Slide1)) * Slide2)) - Size1)) 0 ≤ (((IntKind.i64.wrap ((IntKind.i64.wrap (Int.tdiv ((all1n : Nat) : Int) Slide1)) * Slide2)).toNat : Nat) : Int) ∧
  0 ≤ IntKind.i64.wrap ((IntKind.i64.wrap (Int.tdiv ((all1n : Nat) : Int) Slide1)) * Slide2) ∧ IntKind.i64.wrap ((IntKind.i64.wrap (Int.tdiv ((all1n : Nat) : Int) Slide1)) * Slide2) ≤ ((all1n : Nat) : Int) ∧
  K (.tuple #[.slice (cutAt all1p ((mm2 true (IntKind.i64.wrap ((IntKind.i64.wrap ((IntKind.i64.wrap (Int.tdiv ((all1n : Nat) : Int) Slide1)) * Slide2)) - Size1)) 0).toNat) all1c 1) (((IntKind.i64.wrap ((IntKind.i64.wrap (Int.tdiv ((all1n : Nat) : Int) Slide1)) * Slide2)).toNat) - ((mm2 true (IntKind.i64.wrap ((IntKind.i64.wrap ((IntKind.i64.wrap (Int.tdiv ((all1n : Nat) : Int) Slide1)) * Slide2)) - Size1)) 0).toNat)) (all1c - ((mm2 true (IntKind.i64.wrap ((IntKind.i64.wrap ((IntKind.i64.wrap (Int.tdiv ((all1n : Nat) : Int) Slide1)) * Slide2)) - Size1)) 0).toNat)), .slice (cutAt all1p ((IntKind.i64.wrap ((IntKind.i64.wrap (Int.tdiv ((all1n : Nat) : Int) Slide1)) * Slide2)).toNat) all1c 1) (all1n - ((IntKind.i64.wrap ((IntKind.i64.wrap (Int.tdiv ((all1n : Nat) : Int) Slide1)) * Slide2)).toNat)) (all1c - ((IntKind.i64.wrap ((IntKind.i64.wrap (Int.tdiv ((all1n : Nat) : Int) Slide1)) * Slide2)).toNat))]) wv1.drew.drew
def An.affluxlaw19_split : Ann := ⟨[(1, .sil 0 [] (.sil 1 [] (.sil 2 [] (.sil 3 [] (.sil 4 [] (.sil 5 [] (.sil 6 [] (.sil 7 [] (.sil 8 [] (.done)))))))))), (2, .sil 0 [] (.sil 1 [] (.sil 2 [] (.sil 3 [] (.sil 4 [] (.sil 5 [] (.sil 6 [] (.sil 7 [] (.sil 8 [] (.sil 9 [] (.sil 10 [] (.sil 11 [] (.sil 12 [] (.done))))))))))))))], [], []⟩
theorem R.affluxlaw19_split {wName1 : ByteArray} {wOn1 : ByteArray} {wOwner1 : ByteArray} {wBatches1 : Bool} {wSize1 : Int} {wSlide1 : Int} {all1p : Option Addr} {all1n all1c : Nat} {w : World} {K : Value → World → Prop} (h : C.affluxlaw19_split wName1 wOn1 wOwner1 wBatches1 wSize1 wSlide1 all1p all1n all1c w K) : CallsV prog F.affluxlaw19_split #[.agg #[.string wName1, .string wOn1, .string wOwner1, .bool wBatches1, .int .i64 wSize1, .int .i64 wSlide1], .slice all1p all1n all1c] w K :=
  vcFn.calls (an := An.affluxlaw19_split) mixed tabOK eqsOK Go.Proofs.Try.func50 (by kernel_rfl) (by kernel_rfl) (by kernel_rfl) ((by kernel_rfl : vcFn prog eqs tab An.affluxlaw19_split Go.Proofs.Try.f50 [.agg #[.string wName1, .string wOn1, .string wOwner1, .bool wBatches1, .int .i64 wSize1, .int .i64 wSlide1], .slice all1p all1n all1c] w K = C.affluxlaw19_split wName1 wOn1 wOwner1 wBatches1 wSize1 wSlide1 all1p all1n all1c w K).mpr h)

/-- afflux/affluxlaw19.flat -/
def C.affluxlaw19_flat (l1p : Option Addr) (l1n l1c : Nat) (w : World) (K : Value → World → Prop) : Prop :=
  ∃ (Iv1 : Option Addr → Nat → Nat → Int → World → Prop) (m1 : Option Addr → Nat → Nat → Int → World → Nat),
  Iv1 none 0 0 0 w ∧
  ∀ (out1p : Option Addr) (out1n out1c : Nat) (i1 : Int) wv1, Iv1 out1p out1n out1c i1 wv1 →
  ifB (decide (i1 < ((l1n : Nat) : Int))) (
    ∃ a1, l1p = some a1 ∧ 0 ≤ i1 ∧ i1 < ((l1n : Nat) : Int) ∧
    ∃ (e1p : Option Addr) (e1n e1c : Nat),
    wv1.cell? (a1.add (i1.toNat * 1)) = some (.slice e1p e1n e1c) ∧
    BuiltV prog .append #[T.s_s_api_Value, T.s_s_api_Value] T.s_s_api_Value #[.slice out1p out1n out1c, .slice e1p e1n e1c] wv1 (fun v1 wv2 =>
      ∃ (a2p : Option Addr) (a2n a2c : Nat),
      v1 = .slice a2p a2n a2c ∧
      Iv1 a2p a2n a2c (IntKind.i64.wrap (i1 + (1 : Int))) wv2 ∧ m1 a2p a2n a2c (IntKind.i64.wrap (i1 + (1 : Int))) wv2 < m1 out1p out1n out1c i1 wv1)) (
    K (.slice out1p out1n out1c) wv1)
def An.affluxlaw19_flat : Ann := ⟨[], [(3, [(3, 56), (4, 3)], [0])], []⟩
theorem R.affluxlaw19_flat {l1p : Option Addr} {l1n l1c : Nat} {w : World} {K : Value → World → Prop} (h : C.affluxlaw19_flat l1p l1n l1c w K) : CallsV prog F.affluxlaw19_flat #[.slice l1p l1n l1c] w K :=
  vcFn.calls (an := An.affluxlaw19_flat) mixed tabOK eqsOK Go.Proofs.Try.func51 (by kernel_rfl) (by kernel_rfl) (by kernel_rfl) ((by kernel_rfl : vcFn prog eqs tab An.affluxlaw19_flat Go.Proofs.Try.f51 [.slice l1p l1n l1c] w K = C.affluxlaw19_flat l1p l1n l1c w K).mpr h)

/-- afflux/affluxlaw19.lay -/
def C.affluxlaw19_lay (l1p : Option Addr) (l1n l1c : Nat) (w : World) (K : Value → World → Prop) : Prop :=
  CallsV prog F.affluxref04_Size #[.int .i64 ((l1n : Nat) : Int)] w (fun v1 wv1 =>
    ∃ (r1 : ByteArray),
    v1 = .string r1 ∧
    ∃ (Iv1 : ByteArray → Int → World → Prop) (m1 : ByteArray → Int → World → Nat),
    Iv1 r1 0 wv1 ∧
    ∀ (s1 : ByteArray) (i1 : Int) wv2, Iv1 s1 i1 wv2 →
    ifB (decide (i1 < ((l1n : Nat) : Int))) (
      ∃ a1, l1p = some a1 ∧ 0 ≤ i1 ∧ i1 < ((l1n : Nat) : Int) ∧
      ∃ (e1p : Option Addr) (e1n e1c : Nat),
      wv2.cell? (a1.add (i1.toNat * 1)) = some (.slice e1p e1n e1c) ∧
      CallsV prog F.affluxref04_Rows #[.slice e1p e1n e1c] wv2 (fun v2 wv3 =>
        ∃ (r2 : ByteArray),
        v2 = .string r2 ∧
        s1.size + r2.size ≤ 9223372036854775807 ∧
        Iv1 (s1 ++ r2) (IntKind.i64.wrap (i1 + (1 : Int))) wv3 ∧ m1 (s1 ++ r2) (IntKind.i64.wrap (i1 + (1 : Int))) wv3 < m1 s1 i1 wv2)) (
      K (.string s1) wv2))
def An.affluxlaw19_lay : Ann := ⟨[], [(3, [(3, 9), (4, 3)], [0])], []⟩
theorem R.affluxlaw19_lay {l1p : Option Addr} {l1n l1c : Nat} {w : World} {K : Value → World → Prop} (h : C.affluxlaw19_lay l1p l1n l1c w K) : CallsV prog F.affluxlaw19_lay #[.slice l1p l1n l1c] w K :=
  vcFn.calls (an := An.affluxlaw19_lay) mixed tabOK eqsOK Go.Proofs.Try.func52 (by kernel_rfl) (by kernel_rfl) (by kernel_rfl) ((by kernel_rfl : vcFn prog eqs tab An.affluxlaw19_lay Go.Proofs.Try.f52 [.slice l1p l1n l1c] w K = C.affluxlaw19_lay l1p l1n l1c w K).mpr h)

/-- slices.Clone[[]afflux/api.Value,afflux/api.Value] -/
def C.slices_Clone_api_Value_api_Value (s1p : Option Addr) (s1n s1c : Nat) (w : World) (K : Value → World → Prop) : Prop :=
  ifB s1p.isNone (
    K (.slice none 0 0) w) (
    ∀ b1 wv1, New w (.cells #[] T.api_Value) b1 wv1 →
    BuiltV prog .append #[T.s_api_Value, T.s_api_Value] T.s_api_Value #[.slice (some (Addr.mk b1 0 none)) 0 0, .slice s1p s1n s1c] wv1 (fun v1 wv2 =>
      ∃ (a1p : Option Addr) (a1n a1c : Nat),
      v1 = .slice a1p a1n a1c ∧
      K (.slice a1p a1n a1c) wv2))
def An.slices_Clone_api_Value_api_Value : Ann := ⟨[], [], []⟩
theorem R.slices_Clone_api_Value_api_Value {s1p : Option Addr} {s1n s1c : Nat} {w : World} {K : Value → World → Prop} (h : C.slices_Clone_api_Value_api_Value s1p s1n s1c w K) : CallsV prog F.slices_Clone_api_Value_api_Value #[.slice s1p s1n s1c] w K :=
  vcFn.calls (an := An.slices_Clone_api_Value_api_Value) mixed tabOK eqsOK Go.Proofs.Try.func53 (by kernel_rfl) (by kernel_rfl) (by kernel_rfl) ((by kernel_rfl : vcFn prog eqs tab An.slices_Clone_api_Value_api_Value Go.Proofs.Try.f53 [.slice s1p s1n s1c] w K = C.slices_Clone_api_Value_api_Value s1p s1n s1c w K).mpr h)

/-- (*afflux/codec.Writer).Size -/
def C.codec_Writer_Size (wv1 : Option Addr) (l1p : Option Addr) (l1n l1c : Nat) (w : World) (K : Value → World → Prop) : Prop :=
  ∃ (Iv1 : Int → World → Prop) (m1 : Int → World → Nat),
  Iv1 0 w ∧
  ∀ (s91 : Int) wv2, Iv1 s91 wv2 →
  ifB (decide (s91 < ((l1n : Nat) : Int))) (
    ∃ a1, l1p = some a1 ∧ 0 ≤ s91 ∧ s91 < ((l1n : Nat) : Int) ∧
    ∃ (e1 : Int),
    wv2.cell? (a1.add (s91.toNat * 1)) = some (.int .i64 e1) ∧
    ifB (!wv1.isNone) (
      ∃ wva1, wv1 = some wva1 ∧
      CallsV prog F.codec_Bytes_number #[.pointer (some (wva1.add 0)), .int .u64 (IntKind.u64.wrap (mm2 true e1 0))] wv2 (fun v1 wv3 =>
        v1 = .tuple #[] ∧
        Iv1 (IntKind.i64.wrap (s91 + (1 : Int))) wv3 ∧ m1 (IntKind.i64.wrap (s91 + (1 : Int))) wv3 < m1 s91 wv2)) (
      Iv1 (IntKind.i64.wrap (s91 + (1 : Int))) wv2 ∧ m1 (IntKind.i64.wrap (s91 + (1 : Int))) wv2 < m1 s91 wv2)) (
    K (.pointer wv1) wv2)
def An.codec_Writer_Size : Ann := ⟨[], [(2, [(9, 3)], [0, 7, 8])], []⟩
theorem R.codec_Writer_Size {wv1 : Option Addr} {l1p : Option Addr} {l1n l1c : Nat} {w : World} {K : Value → World → Prop} (h : C.codec_Writer_Size wv1 l1p l1n l1c w K) : CallsV prog F.codec_Writer_Size #[.pointer wv1, .slice l1p l1n l1c] w K :=
  vcFn.calls (an := An.codec_Writer_Size) mixed tabOK eqsOK Go.Proofs.Try.func54 (by kernel_rfl) (by kernel_rfl) (by kernel_rfl) ((by kernel_rfl : vcFn prog eqs tab An.codec_Writer_Size Go.Proofs.Try.f54 [.pointer wv1, .slice l1p l1n l1c] w K = C.codec_Writer_Size wv1 l1p l1n l1c w K).mpr h)

/-- (*afflux/codec.Writer).Rows -/
def C.codec_Writer_Rows (wv1 : Option Addr) (l1p : Option Addr) (l1n l1c : Nat) (w : World) (K : Value → World → Prop) : Prop :=
  ∀ b1 wv2, New w (.cells #[.int .i64 ((l1n : Nat) : Int)] T.int) b1 wv2 →
  CallsV prog F.codec_Writer_Size #[.pointer wv1, .slice (some (Addr.mk b1 0 none)) 1 1] wv2 (fun v1 wv3 =>
    ∃ (r1 : Option Addr),
    v1 = .pointer r1 ∧
    ∃ (Iv1 : Int → World → Prop) (m1 : Int → World → Nat),
    Iv1 0 wv3 ∧
    ∀ (s141 : Int) wv4, Iv1 s141 wv4 →
    ifB (decide (s141 < ((l1n : Nat) : Int))) (
      ∃ a1, l1p = some a1 ∧ 0 ≤ s141 ∧ s141 < ((l1n : Nat) : Int) ∧
      ∃ (e1p : Option Addr) (e1n e1c : Nat),
      wv4.cell? (a1.add (s141.toNat * 1)) = some (.slice e1p e1n e1c) ∧
      CallsV prog F.codec_Writer_Row #[.pointer wv1, .slice e1p e1n e1c] wv4 (fun v2 wv5 =>
        ∃ (r2 : Option Addr),
        v2 = .pointer r2 ∧
        Iv1 (IntKind.i64.wrap (s141 + (1 : Int))) wv5 ∧ m1 (IntKind.i64.wrap (s141 + (1 : Int))) wv5 < m1 s141 wv4)) (
      K (.pointer wv1) wv4))
def An.codec_Writer_Rows : Ann := ⟨[], [(3, [(14, 3)], [0, 12, 13])], []⟩
theorem R.codec_Writer_Rows {wv1 : Option Addr} {l1p : Option Addr} {l1n l1c : Nat} {w : World} {K : Value → World → Prop} (h : C.codec_Writer_Rows wv1 l1p l1n l1c w K) : CallsV prog F.codec_Writer_Rows #[.pointer wv1, .slice l1p l1n l1c] w K :=
  vcFn.calls (an := An.codec_Writer_Rows) mixed tabOK eqsOK Go.Proofs.Try.func55 (by kernel_rfl) (by kernel_rfl) (by kernel_rfl) ((by kernel_rfl : vcFn prog eqs tab An.codec_Writer_Rows Go.Proofs.Try.f55 [.pointer wv1, .slice l1p l1n l1c] w K = C.codec_Writer_Rows wv1 l1p l1n l1c w K).mpr h)

/-- (*afflux/codec.Writer).String -/
def C.codec_Writer_String (wv1 : Option Addr) (w : World) (K : Value → World → Prop) : Prop :=
  ifB wv1.isNone (
    K (.string (bs [])) w) (
    ∃ wva1, wv1 = some wva1 ∧
    CallsV prog F.codec_Bytes_String #[.pointer (some (wva1.add 0))] w (fun v1 wv2 =>
      ∃ (r1 : ByteArray),
      v1 = .string r1 ∧
      K (.string r1) wv2))
def An.codec_Writer_String : Ann := ⟨[], [], []⟩
theorem R.codec_Writer_String {wv1 : Option Addr} {w : World} {K : Value → World → Prop} (h : C.codec_Writer_String wv1 w K) : CallsV prog F.codec_Writer_String #[.pointer wv1] w K :=
  vcFn.calls (an := An.codec_Writer_String) mixed tabOK eqsOK Go.Proofs.Try.func56 (by kernel_rfl) (by kernel_rfl) (by kernel_rfl) ((by kernel_rfl : vcFn prog eqs tab An.codec_Writer_String Go.Proofs.Try.f56 [.pointer wv1] w K = C.codec_Writer_String wv1 w K).mpr h)

/-- afflux/codec.Read -/
def C.codec_Read (s1 : ByteArray) (w : World) (K : Value → World → Prop) : Prop :=
  ConvV prog T.string T.s_uint8 (.string s1) w (fun v1 wv1 =>
    ∃ (c1p : Option Addr) (c1n c1c : Nat),
    v1 = .slice c1p c1n c1c ∧
    ∀ b1 wv2, New wv1 (.cells #[.slice c1p c1n c1c, .bool false] T.codec_Reader) b1 wv2 →
    K (.pointer (some (Addr.mk b1 0 none))) wv2)
def An.codec_Read : Ann := ⟨[], [], []⟩
theorem R.codec_Read {s1 : ByteArray} {w : World} {K : Value → World → Prop} (h : C.codec_Read s1 w K) : CallsV prog F.codec_Read #[.string s1] w K :=
  vcFn.calls (an := An.codec_Read) mixed tabOK eqsOK Go.Proofs.Try.func57 (by kernel_rfl) (by kernel_rfl) (by kernel_rfl) ((by kernel_rfl : vcFn prog eqs tab An.codec_Read Go.Proofs.Try.f57 [.string s1] w K = C.codec_Read s1 w K).mpr h)

/-- (*afflux/window.Window).read -/
def C.window_Window_read (wv1 : Option Addr) (r1 : Option Addr) (most1 : Int) (w : World) (K : Value → World → Prop) : Prop :=
  CallsV prog F.codec_Reader_Size #[.pointer r1, .int .i64 most1] w (fun v1 wv2 =>
    ∃ (r2 : Int),
    v1 = .int .i64 r2 ∧
    ∃ (Iv1 : Option Addr → Nat → Nat → Int → World → Prop) (m1 : Option Addr → Nat → Nat → Int → World → Nat),
    Iv1 none 0 0 r2 wv2 ∧
    ∀ (l1p : Option Addr) (l1n l1c : Nat) (n1 : Int) wv3, Iv1 l1p l1n l1c n1 wv3 →
    ∃ Jv1 : World → Prop,
    (ifB (decide ((0 : Int) < n1)) (
      CallsV prog F.codec_Reader_Good #[.pointer r1] wv3 (fun v2 wv4 =>
        ∃ (r3 : Bool),
        v2 = .bool r3 ∧
        ifB r3 (
          Jv1 wv4) (
          K (.slice l1p l1n l1c) wv4))) (
      K (.slice l1p l1n l1c) wv3)) ∧
    (∀ wv5, Jv1 wv5 →
    CallsV prog F.codec_Reader_Rows #[.pointer r1, .int .i64 32, .int .i64 8] wv5 (fun v3 wv6 =>
      ∃ (r4p : Option Addr) (r4n r4c : Nat),
      v3 = .slice r4p r4n r4c ∧
      ∃ wva1, wv1 = some wva1 ∧
      ∃ (cols1p : Option Addr) (cols1n cols1c : Nat),
      wv6.cell? (wva1.add 8) = some (.slice cols1p cols1n cols1c) ∧
      CallsV prog F.stream_Fits #[.slice cols1p cols1n cols1c, .slice r4p r4n r4c] wv6 (fun v4 wv7 =>
        ∃ (r5 : Bool),
        v4 = .bool r5 ∧
        ifB (!r5) (
          CallsV prog F.codec_Reader_Fail #[.pointer r1] wv7 (fun v5 wv8 =>
            v5 = .tuple #[] ∧
            ∀ b1 wv9, New wv8 (.cells #[.slice r4p r4n r4c] T.window_unit) b1 wv9 →
            BuiltV prog .append #[T.s_window_unit, T.s_window_unit] T.s_window_unit #[.slice l1p l1n l1c, .slice (some (Addr.mk b1 0 none)) 1 1] wv9 (fun v6 wv10 =>
              ∃ (a1p : Option Addr) (a1n a1c : Nat),
              v6 = .slice a1p a1n a1c ∧
              Iv1 a1p a1n a1c (IntKind.i64.wrap (n1 - (1 : Int))) wv10 ∧ m1 a1p a1n a1c (IntKind.i64.wrap (n1 - (1 : Int))) wv10 < m1 l1p l1n l1c n1 wv3))) (
          ∃ wva2, wv1 = some wva2 ∧
          ∃ (Batches1 : Bool),
          wv7.cell? ((wva2.add 0).add 3) = some (.bool Batches1) ∧
          ifB (!Batches1) (
            ifB (((r4n : Nat) : Int) != (1 : Int)) (
              CallsV prog F.codec_Reader_Fail #[.pointer r1] wv7 (fun v7 wv11 =>
                v7 = .tuple #[] ∧
                ∀ b2 wv12, New wv11 (.cells #[.slice r4p r4n r4c] T.window_unit) b2 wv12 →
                BuiltV prog .append #[T.s_window_unit, T.s_window_unit] T.s_window_unit #[.slice l1p l1n l1c, .slice (some (Addr.mk b2 0 none)) 1 1] wv12 (fun v8 wv13 =>
                  ∃ (a2p : Option Addr) (a2n a2c : Nat),
                  v8 = .slice a2p a2n a2c ∧
                  Iv1 a2p a2n a2c (IntKind.i64.wrap (n1 - (1 : Int))) wv13 ∧ m1 a2p a2n a2c (IntKind.i64.wrap (n1 - (1 : Int))) wv13 < m1 l1p l1n l1c n1 wv3))) (
              ∀ b3 wv14, New wv7 (.cells #[.slice r4p r4n r4c] T.window_unit) b3 wv14 →
              BuiltV prog .append #[T.s_window_unit, T.s_window_unit] T.s_window_unit #[.slice l1p l1n l1c, .slice (some (Addr.mk b3 0 none)) 1 1] wv14 (fun v9 wv15 =>
                ∃ (a3p : Option Addr) (a3n a3c : Nat),
                v9 = .slice a3p a3n a3c ∧
                Iv1 a3p a3n a3c (IntKind.i64.wrap (n1 - (1 : Int))) wv15 ∧ m1 a3p a3n a3c (IntKind.i64.wrap (n1 - (1 : Int))) wv15 < m1 l1p l1n l1c n1 wv3))) (
            ∀ b4 wv16, New wv7 (.cells #[.slice r4p r4n r4c] T.window_unit) b4 wv16 →
            BuiltV prog .append #[T.s_window_unit, T.s_window_unit] T.s_window_unit #[.slice l1p l1n l1c, .slice (some (Addr.mk b4 0 none)) 1 1] wv16 (fun v10 wv17 =>
              ∃ (a4p : Option Addr) (a4n a4c : Nat),
              v10 = .slice a4p a4n a4c ∧
              Iv1 a4p a4n a4c (IntKind.i64.wrap (n1 - (1 : Int))) wv17 ∧ m1 a4p a4n a4c (IntKind.i64.wrap (n1 - (1 : Int))) wv17 < m1 l1p l1n l1c n1 wv3)))))))
def An.window_Window_read : Ann := ⟨[], [(3, [(7, 85), (8, 3)], [0, 1])], [(5, [], [0, 1, 7, 8])]⟩
theorem R.window_Window_read {wv1 : Option Addr} {r1 : Option Addr} {most1 : Int} {w : World} {K : Value → World → Prop} (h : C.window_Window_read wv1 r1 most1 w K) : CallsV prog F.window_Window_read #[.pointer wv1, .pointer r1, .int .i64 most1] w K :=
  vcFn.calls (an := An.window_Window_read) mixed tabOK eqsOK Go.Proofs.Try.func58 (by kernel_rfl) (by kernel_rfl) (by kernel_rfl) ((by kernel_rfl : vcFn prog eqs tab An.window_Window_read Go.Proofs.Try.f58 [.pointer wv1, .pointer r1, .int .i64 most1] w K = C.window_Window_read wv1 r1 most1 w K).mpr h)

/-- (*afflux/codec.Reader).End -/
def C.codec_Reader_End (r1 : Option Addr) (w : World) (K : Value → World → Prop) : Prop :=
  CallsV prog F.codec_Reader_Good #[.pointer r1] w (fun v1 wv1 =>
    ∃ (r2 : Bool),
    v1 = .bool r2 ∧
    ifB r2 (
      CallsV prog F.codec_Reader_Len #[.pointer r1] wv1 (fun v2 wv2 =>
        ∃ (r3 : Int),
        v2 = .int .i64 r3 ∧
        K (.bool (r3 == (0 : Int))) wv2)) (
      K (.bool false) wv1))
def An.codec_Reader_End : Ann := ⟨[], [], []⟩
theorem R.codec_Reader_End {r1 : Option Addr} {w : World} {K : Value → World → Prop} (h : C.codec_Reader_End r1 w K) : CallsV prog F.codec_Reader_End #[.pointer r1] w K :=
  vcFn.calls (an := An.codec_Reader_End) mixed tabOK eqsOK Go.Proofs.Try.func59 (by kernel_rfl) (by kernel_rfl) (by kernel_rfl) ((by kernel_rfl : vcFn prog eqs tab An.codec_Reader_End Go.Proofs.Try.f59 [.pointer r1] w K = C.codec_Reader_End r1 w K).mpr h)

/-- afflux/affluxref02.Same -/
def C.affluxref02_Same (a1p : Option Addr) (a1n a1c : Nat) (b1p : Option Addr) (b1n b1c : Nat) (w : World) (K : Value → World → Prop) : Prop :=
  ifB (((a1n : Nat) : Int) != ((b1n : Nat) : Int)) (
    K (.bool false) w) (
    ∃ (Iv1 : Int → World → Prop) (m1 : Int → World → Nat),
    Iv1 0 w ∧
    ∀ (i1 : Int) wv1, Iv1 i1 wv1 →
    ifB (decide (i1 < ((a1n : Nat) : Int))) (
      ∃ a2, a1p = some a2 ∧ 0 ≤ i1 ∧ i1 < ((a1n : Nat) : Int) ∧
      ∃ (eKind1 : Int) (eN1 : Int) (eS1 : ByteArray),
      cellsAt wv1.drew (a2.add (i1.toNat * 3)) 0 [.int .i64 eKind1, .int .i64 eN1, .string eS1] ∧
      ∃ a3, b1p = some a3 ∧ 0 ≤ i1 ∧ i1 < ((b1n : Nat) : Int) ∧
      ∃ (eKind2 : Int) (eN2 : Int) (eS2 : ByteArray),
      cellsAt wv1.drew (a3.add (i1.toNat * 3)) 0 [.int .i64 eKind2, .int .i64 eN2, .string eS2] ∧
      ifB (!((eKind1 == eKind2) && ((eN1 == eN2) && (sEq eS1 eS2 && true)))) (
        K (.bool false) wv1.drew) (
        Iv1 (IntKind.i64.wrap (i1 + (1 : Int))) wv1.drew ∧ m1 (IntKind.i64.wrap (i1 + (1 : Int))) wv1.drew < m1 i1 wv1)) (
      K (.bool true) wv1))
def An.affluxref02_Same : Ann := ⟨[(6, .sil 0 [] (.sil 1 [] (.sil 2 [] (.sil 3 [] (.sil 4 [] (.sil 5 [] (.sil 6 [] (.sil 7 [] (.sil 8 [] (.done))))))))))], [(4, [(5, 3)], [0, 1])], []⟩
theorem R.affluxref02_Same {a1p : Option Addr} {a1n a1c : Nat} {b1p : Option Addr} {b1n b1c : Nat} {w : World} {K : Value → World → Prop} (h : C.affluxref02_Same a1p a1n a1c b1p b1n b1c w K) : CallsV prog F.affluxref02_Same #[.slice a1p a1n a1c, .slice b1p b1n b1c] w K :=
  vcFn.calls (an := An.affluxref02_Same) mixed tabOK eqsOK Go.Proofs.Try.func60 (by kernel_rfl) (by kernel_rfl) (by kernel_rfl) ((by kernel_rfl : vcFn prog eqs tab An.affluxref02_Same Go.Proofs.Try.f60 [.slice a1p a1n a1c, .slice b1p b1n b1c] w K = C.affluxref02_Same a1p a1n a1c b1p b1n b1c w K).mpr h)

/-- afflux/schema.named -/
def C.schema_named (s1 : ByteArray) (w : World) (K : Value → World → Prop) : Prop :=
  ifB (sEq s1 (bs [])) (
    K (.bool false) w) (
    ifB (decide ((16 : Int) < ((s1.size : Nat) : Int))) (
      K (.bool false) w) (
      0 ≤ (0 : Int) ∧ (0 : Int) < ((s1.size : Nat) : Int) ∧
      CallsV prog F.schema_letter #[.int .u8 (bt s1 (0 : Int))] w (fun v1 wv1 =>
        ∃ (r1 : Bool),
        v1 = .bool r1 ∧
        ifB (!r1) (
          K (.bool false) wv1) (
          ConvV prog T.string T.s_uint8 (.string s1) wv1 (fun v2 wv2 =>
            ∃ (c1p : Option Addr) (c1n c1c : Nat),
            v2 = .slice c1p c1n c1c ∧
            ∃ (Iv1 : Int → World → Prop) (m1 : Int → World → Nat),
            Iv1 0 wv2 ∧
            ∀ (s211 : Int) wv3, Iv1 s211 wv3 →
            ifB (decide (s211 < ((c1n : Nat) : Int))) (
              ∃ a1, c1p = some a1 ∧ 0 ≤ s211 ∧ s211 < ((c1n : Nat) : Int) ∧
              ∃ (e1 : Int),
              wv3.cell? (a1.add (s211.toNat * 1)) = some (.int .u8 e1) ∧
              CallsV prog F.schema_part #[.int .u8 e1] wv3 (fun v3 wv4 =>
                ∃ (r2 : Bool),
                v3 = .bool r2 ∧
                ifB (!r2) (
                  K (.bool false) wv4) (
                  Iv1 (IntKind.i64.wrap (s211 + (1 : Int))) wv4 ∧ m1 (IntKind.i64.wrap (s211 + (1 : Int))) wv4 < m1 s211 wv3))) (
              K (.bool true) wv3))))))
def An.schema_named : Ann := ⟨[], [(4, [(21, 3)], [19, 20])], []⟩
theorem R.schema_named {s1 : ByteArray} {w : World} {K : Value → World → Prop} (h : C.schema_named s1 w K) : CallsV prog F.schema_named #[.string s1] w K :=
  vcFn.calls (an := An.schema_named) mixed tabOK eqsOK Go.Proofs.Try.func61 (by kernel_rfl) (by kernel_rfl) (by kernel_rfl) ((by kernel_rfl : vcFn prog eqs tab An.schema_named Go.Proofs.Try.f61 [.string s1] w K = C.schema_named s1 w K).mpr h)

/-- afflux/affluxref02.All -/
def C.affluxref02_All (l1p : Option Addr) (l1n l1c : Nat) (w : World) (K : Value → World → Prop) : Prop :=
  ∃ (Iv1 : Int → World → Prop) (m1 : Int → World → Nat),
  Iv1 0 w ∧
  ∀ (i1 : Int) wv1, Iv1 i1 wv1 →
  ifB (decide (i1 < ((l1n : Nat) : Int))) (
    ∃ a1, l1p = some a1 ∧ 0 ≤ i1 ∧ i1 < ((l1n : Nat) : Int) ∧
    ∃ (eKind1 : Int) (eN1 : Int) (eS1 : ByteArray),
    cellsAt wv1 (a1.add (i1.toNat * 3)) 0 [.int .i64 eKind1, .int .i64 eN1, .string eS1] ∧
    CallsV prog F.affluxref02_Right #[.agg #[.int .i64 eKind1, .int .i64 eN1, .string eS1]] wv1 (fun v1 wv2 =>
      ∃ (r1 : Bool),
      v1 = .bool r1 ∧
      ifB (!r1) (
        K (.bool false) wv2) (
        Iv1 (IntKind.i64.wrap (i1 + (1 : Int))) wv2 ∧ m1 (IntKind.i64.wrap (i1 + (1 : Int))) wv2 < m1 i1 wv1))) (
    K (.bool true) wv1)
def An.affluxref02_All : Ann := ⟨[], [(2, [(3, 3)], [0])], []⟩
theorem R.affluxref02_All {l1p : Option Addr} {l1n l1c : Nat} {w : World} {K : Value → World → Prop} (h : C.affluxref02_All l1p l1n l1c w K) : CallsV prog F.affluxref02_All #[.slice l1p l1n l1c] w K :=
  vcFn.calls (an := An.affluxref02_All) mixed tabOK eqsOK Go.Proofs.Try.func62 (by kernel_rfl) (by kernel_rfl) (by kernel_rfl) ((by kernel_rfl : vcFn prog eqs tab An.affluxref02_All Go.Proofs.Try.f62 [.slice l1p l1n l1c] w K = C.affluxref02_All l1p l1n l1c w K).mpr h)

/-- (afflux/stream.columns).fits -/
def C.stream_columns_fits (cStreamName1 : ByteArray) (cStreamCols1p : Option Addr) (cStreamCols1n cStreamCols1c : Nat) (rows1p : Option Addr) (rows1n rows1c : Nat) (w : World) (K : Value → World → Prop) : Prop :=
  ∀ b1 wv1, New w (.cells #[.string cStreamName1, .slice cStreamCols1p cStreamCols1n cStreamCols1c] T.stream_columns) b1 wv1 →
  ∃ (Iv1 : Int → World → Prop) (m1 : Int → World → Nat),
  Iv1 0 wv1 ∧
  ∀ (s111 : Int) wv2, Iv1 s111 wv2 →
  ifB (decide (s111 < ((rows1n : Nat) : Int))) (
    ∃ a1, rows1p = some a1 ∧ 0 ≤ s111 ∧ s111 < ((rows1n : Nat) : Int) ∧
    ∃ (e1p : Option Addr) (e1n e1c : Nat),
    wv2.cell? (a1.add (s111.toNat * 1)) = some (.slice e1p e1n e1c) ∧
    ∃ (Cols1p : Option Addr) (Cols1n Cols1c : Nat),
    wv2.cell? (((Addr.mk b1 0 none).add 0).add 1) = some (.slice Cols1p Cols1n Cols1c) ∧
    ifB (((e1n : Nat) : Int) != ((Cols1n : Nat) : Int)) (
      K (.bool false) wv2) (
      CallsV prog F.value_Right #[.slice e1p e1n e1c] wv2 (fun v1 wv3 =>
        ∃ (r1 : Bool),
        v1 = .bool r1 ∧
        ifB (!r1) (
          K (.bool false) wv3) (
          ∃ (Iv2 : Int → World → Prop) (m2 : Int → World → Nat),
          Iv2 0 wv3 ∧
          ∀ (s291 : Int) wv4, Iv2 s291 wv4 →
          ifB (decide (s291 < ((e1n : Nat) : Int))) (
            ∃ a2, e1p = some a2 ∧ 0 ≤ s291 ∧ s291 < ((e1n : Nat) : Int) ∧
            ∃ (eKind1 : Int) (eN1 : Int) (eS1 : ByteArray),
            cellsAt wv4 (a2.add (s291.toNat * 3)) 0 [.int .i64 eKind1, .int .i64 eN1, .string eS1] ∧
            ∀ b2 wv5, New wv4 (.cells #[.int .i64 0, .int .i64 0, .string (bs [])] T.api_Value) b2 wv5 →
            CanSt wv5 ((Addr.mk b2 0 none).add 0) ∧ ∀ wv6, wv6 = wv5.setCell ((Addr.mk b2 0 none).add 0) (.int .i64 eKind1) →
            CanSt wv6 ((Addr.mk b2 0 none).add 1) ∧ ∀ wv7, wv7 = wv6.setCell ((Addr.mk b2 0 none).add 1) (.int .i64 eN1) →
            CanSt wv7 ((Addr.mk b2 0 none).add 2) ∧ ∀ wv8, wv8 = wv7.setCell ((Addr.mk b2 0 none).add 2) (.string eS1) →
            ∃ (Kind1 : Int),
            wv8.drew.cell? ((Addr.mk b2 0 none).add 0) = some (.int .i64 Kind1) ∧
            ∃ (Cols2p : Option Addr) (Cols2n Cols2c : Nat),
            wv8.drew.cell? (((Addr.mk b1 0 none).add 0).add 1) = some (.slice Cols2p Cols2n Cols2c) ∧
            ∃ a3, Cols2p = some a3 ∧ 0 ≤ s291 ∧ s291 < ((Cols2n : Nat) : Int) ∧
            ∃ (Kind2 : Int),
            wv8.drew.cell? ((a3.add (s291.toNat * 2)).add 1) = some (.int .i64 Kind2) ∧
            ifB (Kind1 != Kind2) (
              K (.bool false) wv8.drew) (
              Iv2 (IntKind.i64.wrap (s291 + (1 : Int))) wv8.drew ∧ m2 (IntKind.i64.wrap (s291 + (1 : Int))) wv8.drew < m2 s291 wv4)) (
            Iv1 (IntKind.i64.wrap (s111 + (1 : Int))) wv4 ∧ m1 (IntKind.i64.wrap (s111 + (1 : Int))) wv4 < m1 s111 wv2))))) (
    K (.bool (decide (((rows1n : Nat) : Int) ≤ (32 : Int)))) wv2)
def An.stream_columns_fits : Ann := ⟨[(9, .sil 0 [] (.sil 1 [] (.sil 2 [] (.sil 3 [] (.sil 4 [] (.sil 5 [] (.sil 6 [] (.sil 7 [] (.sil 8 [] (.sil 9 [] (.done)))))))))))], [(2, [(11, 3)], [1, 2, 9, 10]), (7, [(29, 3)], [1, 2, 9, 10, 11, 27, 28])], []⟩
theorem R.stream_columns_fits {cStreamName1 : ByteArray} {cStreamCols1p : Option Addr} {cStreamCols1n cStreamCols1c : Nat} {rows1p : Option Addr} {rows1n rows1c : Nat} {w : World} {K : Value → World → Prop} (h : C.stream_columns_fits cStreamName1 cStreamCols1p cStreamCols1n cStreamCols1c rows1p rows1n rows1c w K) : CallsV prog F.stream_columns_fits #[.agg #[.string cStreamName1, .slice cStreamCols1p cStreamCols1n cStreamCols1c], .slice rows1p rows1n rows1c] w K :=
  vcFn.calls (an := An.stream_columns_fits) mixed tabOK eqsOK Go.Proofs.Try.func63 (by kernel_rfl) (by kernel_rfl) (by kernel_rfl) ((by kernel_rfl : vcFn prog eqs tab An.stream_columns_fits Go.Proofs.Try.f63 [.agg #[.string cStreamName1, .slice cStreamCols1p cStreamCols1n cStreamCols1c], .slice rows1p rows1n rows1c] w K = C.stream_columns_fits cStreamName1 cStreamCols1p cStreamCols1n cStreamCols1c rows1p rows1n rows1c w K).mpr h)

/-- slices.Clone[[]afflux/window.unit,afflux/window.unit] -/
def C.slices_Clone_window_unit_window_unit (s1p : Option Addr) (s1n s1c : Nat) (w : World) (K : Value → World → Prop) : Prop :=
  ifB s1p.isNone (
    K (.slice none 0 0) w) (
    ∀ b1 wv1, New w (.cells #[] T.window_unit) b1 wv1 →
    BuiltV prog .append #[T.s_window_unit, T.s_window_unit] T.s_window_unit #[.slice (some (Addr.mk b1 0 none)) 0 0, .slice s1p s1n s1c] wv1 (fun v1 wv2 =>
      ∃ (a1p : Option Addr) (a1n a1c : Nat),
      v1 = .slice a1p a1n a1c ∧
      K (.slice a1p a1n a1c) wv2))
def An.slices_Clone_window_unit_window_unit : Ann := ⟨[], [], []⟩
theorem R.slices_Clone_window_unit_window_unit {s1p : Option Addr} {s1n s1c : Nat} {w : World} {K : Value → World → Prop} (h : C.slices_Clone_window_unit_window_unit s1p s1n s1c w K) : CallsV prog F.slices_Clone_window_unit_window_unit #[.slice s1p s1n s1c] w K :=
  vcFn.calls (an := An.slices_Clone_window_unit_window_unit) mixed tabOK eqsOK Go.Proofs.Try.func64 (by kernel_rfl) (by kernel_rfl) (by kernel_rfl) ((by kernel_rfl : vcFn prog eqs tab An.slices_Clone_window_unit_window_unit Go.Proofs.Try.f64 [.slice s1p s1n s1c] w K = C.slices_Clone_window_unit_window_unit s1p s1n s1c w K).mpr h)

/-- afflux/affluxref04.Size -/
def C.affluxref04_Size (n1 : Int) (w : World) (K : Value → World → Prop) : Prop :=
  ifB (decide (n1 < (0 : Int))) (
    CallsV prog F.affluxref04_Number #[.int .u64 0] w (fun v1 wv1 =>
      ∃ (r1 : ByteArray),
      v1 = .string r1 ∧
      K (.string r1) wv1)) (
    CallsV prog F.affluxref04_Number #[.int .u64 (IntKind.u64.wrap n1)] w (fun v2 wv2 =>
      ∃ (r2 : ByteArray),
      v2 = .string r2 ∧
      K (.string r2) wv2))
def An.affluxref04_Size : Ann := ⟨[], [], []⟩
theorem R.affluxref04_Size {n1 : Int} {w : World} {K : Value → World → Prop} (h : C.affluxref04_Size n1 w K) : CallsV prog F.affluxref04_Size #[.int .i64 n1] w K :=
  vcFn.calls (an := An.affluxref04_Size) mixed tabOK eqsOK Go.Proofs.Try.func65 (by kernel_rfl) (by kernel_rfl) (by kernel_rfl) ((by kernel_rfl : vcFn prog eqs tab An.affluxref04_Size Go.Proofs.Try.f65 [.int .i64 n1] w K = C.affluxref04_Size n1 w K).mpr h)

/-- afflux/affluxref04.Rows -/
def C.affluxref04_Rows (l1p : Option Addr) (l1n l1c : Nat) (w : World) (K : Value → World → Prop) : Prop :=
  CallsV prog F.affluxref04_Size #[.int .i64 ((l1n : Nat) : Int)] w (fun v1 wv1 =>
    ∃ (r1 : ByteArray),
    v1 = .string r1 ∧
    ∃ (Iv1 : ByteArray → Int → World → Prop) (m1 : ByteArray → Int → World → Nat),
    Iv1 r1 0 wv1 ∧
    ∀ (s1 : ByteArray) (i1 : Int) wv2, Iv1 s1 i1 wv2 →
    ifB (decide (i1 < ((l1n : Nat) : Int))) (
      ∃ a1, l1p = some a1 ∧ 0 ≤ i1 ∧ i1 < ((l1n : Nat) : Int) ∧
      ∃ (e1p : Option Addr) (e1n e1c : Nat),
      wv2.cell? (a1.add (i1.toNat * 1)) = some (.slice e1p e1n e1c) ∧
      CallsV prog F.affluxref04_Row #[.slice e1p e1n e1c] wv2 (fun v2 wv3 =>
        ∃ (r2 : ByteArray),
        v2 = .string r2 ∧
        s1.size + r2.size ≤ 9223372036854775807 ∧
        Iv1 (s1 ++ r2) (IntKind.i64.wrap (i1 + (1 : Int))) wv3 ∧ m1 (s1 ++ r2) (IntKind.i64.wrap (i1 + (1 : Int))) wv3 < m1 s1 i1 wv2)) (
      K (.string s1) wv2))
def An.affluxref04_Rows : Ann := ⟨[], [(3, [(3, 9), (4, 3)], [0])], []⟩
theorem R.affluxref04_Rows {l1p : Option Addr} {l1n l1c : Nat} {w : World} {K : Value → World → Prop} (h : C.affluxref04_Rows l1p l1n l1c w K) : CallsV prog F.affluxref04_Rows #[.slice l1p l1n l1c] w K :=
  vcFn.calls (an := An.affluxref04_Rows) mixed tabOK eqsOK Go.Proofs.Try.func66 (by kernel_rfl) (by kernel_rfl) (by kernel_rfl) ((by kernel_rfl : vcFn prog eqs tab An.affluxref04_Rows Go.Proofs.Try.f66 [.slice l1p l1n l1c] w K = C.affluxref04_Rows l1p l1n l1c w K).mpr h)

/-- (*afflux/codec.Bytes).number -/
def C.codec_Bytes_number (b1 : Option Addr) (n1 : Int) (w : World) (K : Value → World → Prop) : Prop :=
  ∃ (Iv1 : Int → World → Prop) (m1 : Int → World → Nat),
  Iv1 0 w ∧
  ∀ (size1 : Int) wv1, Iv1 size1 wv1 →
  ifB (decide (size1 < (8 : Int))) (
    0 ≤ (IntKind.i64.wrap ((8 : Int) * size1)) ∧
    ifB ((Int.fdiv n1 (2 ^ (min (IntKind.i64.wrap ((8 : Int) * size1)).toNat IntKind.u64.bits))) != (0 : Int)) (
      Iv1 (IntKind.i64.wrap (size1 + (1 : Int))) wv1 ∧ m1 (IntKind.i64.wrap (size1 + (1 : Int))) wv1 < m1 size1 wv1) (
      ∀ b2 wv2, New wv1 (.cells #[.int .u8 (IntKind.u8.wrap size1)] T.uint8) b2 wv2 →
      CallsV prog F.codec_Bytes_lay #[.pointer b1, .slice (some (Addr.mk b2 0 none)) 1 1] wv2 (fun v1 wv3 =>
        v1 = .tuple #[] ∧
        ∃ (Iv2 : Int → World → Prop) (m2 : Int → World → Nat),
        Iv2 (IntKind.i64.wrap (size1 - (1 : Int))) wv3 ∧
        ∀ (i1 : Int) wv4, Iv2 i1 wv4 →
        ifB (decide ((0 : Int) ≤ i1)) (
          0 ≤ (IntKind.i64.wrap ((8 : Int) * i1)) ∧
          ∀ b3 wv5, New wv4 (.cells #[.int .u8 (IntKind.u8.wrap (Int.fdiv n1 (2 ^ (min (IntKind.i64.wrap ((8 : Int) * i1)).toNat IntKind.u64.bits))))] T.uint8) b3 wv5 →
          CallsV prog F.codec_Bytes_lay #[.pointer b1, .slice (some (Addr.mk b3 0 none)) 1 1] wv5 (fun v2 wv6 =>
            v2 = .tuple #[] ∧
            Iv2 (IntKind.i64.wrap (i1 - (1 : Int))) wv6 ∧ m2 (IntKind.i64.wrap (i1 - (1 : Int))) wv6 < m2 i1 wv4)) (
          K (.tuple #[]) wv4)))) (
    ∀ b4 wv7, New wv1 (.cells #[.int .u8 (IntKind.u8.wrap size1)] T.uint8) b4 wv7 →
    CallsV prog F.codec_Bytes_lay #[.pointer b1, .slice (some (Addr.mk b4 0 none)) 1 1] wv7 (fun v3 wv8 =>
      v3 = .tuple #[] ∧
      ∃ (Iv3 : Int → World → Prop) (m3 : Int → World → Nat),
      Iv3 (IntKind.i64.wrap (size1 - (1 : Int))) wv8 ∧
      ∀ (i2 : Int) wv9, Iv3 i2 wv9 →
      ifB (decide ((0 : Int) ≤ i2)) (
        0 ≤ (IntKind.i64.wrap ((8 : Int) * i2)) ∧
        ∀ b5 wv10, New wv9 (.cells #[.int .u8 (IntKind.u8.wrap (Int.fdiv n1 (2 ^ (min (IntKind.i64.wrap ((8 : Int) * i2)).toNat IntKind.u64.bits))))] T.uint8) b5 wv10 →
        CallsV prog F.codec_Bytes_lay #[.pointer b1, .slice (some (Addr.mk b5 0 none)) 1 1] wv10 (fun v4 wv11 =>
          v4 = .tuple #[] ∧
          Iv3 (IntKind.i64.wrap (i2 - (1 : Int))) wv11 ∧ m3 (IntKind.i64.wrap (i2 - (1 : Int))) wv11 < m3 i2 wv9)) (
        K (.tuple #[]) wv9)))
def An.codec_Bytes_number : Ann := ⟨[], [(1, [(4, 3)], [0, 1]), (5, [(5, 3)], [0, 1])], []⟩
theorem R.codec_Bytes_number {b1 : Option Addr} {n1 : Int} {w : World} {K : Value → World → Prop} (h : C.codec_Bytes_number b1 n1 w K) : CallsV prog F.codec_Bytes_number #[.pointer b1, .int .u64 n1] w K :=
  vcFn.calls (an := An.codec_Bytes_number) mixed tabOK eqsOK Go.Proofs.Try.func67 (by kernel_rfl) (by kernel_rfl) (by kernel_rfl) ((by kernel_rfl : vcFn prog eqs tab An.codec_Bytes_number Go.Proofs.Try.f67 [.pointer b1, .int .u64 n1] w K = C.codec_Bytes_number b1 n1 w K).mpr h)

/-- (*afflux/codec.Writer).Row -/
def C.codec_Writer_Row (wv1 : Option Addr) (l1p : Option Addr) (l1n l1c : Nat) (w : World) (K : Value → World → Prop) : Prop :=
  ∀ b1 wv2, New w (.cells #[.int .i64 ((l1n : Nat) : Int)] T.int) b1 wv2 →
  CallsV prog F.codec_Writer_Size #[.pointer wv1, .slice (some (Addr.mk b1 0 none)) 1 1] wv2 (fun v1 wv3 =>
    ∃ (r1 : Option Addr),
    v1 = .pointer r1 ∧
    CallsV prog F.codec_Writer_Value #[.pointer r1, .slice l1p l1n l1c] wv3 (fun v2 wv4 =>
      ∃ (r2 : Option Addr),
      v2 = .pointer r2 ∧
      K (.pointer r2) wv4))
def An.codec_Writer_Row : Ann := ⟨[], [], []⟩
theorem R.codec_Writer_Row {wv1 : Option Addr} {l1p : Option Addr} {l1n l1c : Nat} {w : World} {K : Value → World → Prop} (h : C.codec_Writer_Row wv1 l1p l1n l1c w K) : CallsV prog F.codec_Writer_Row #[.pointer wv1, .slice l1p l1n l1c] w K :=
  vcFn.calls (an := An.codec_Writer_Row) mixed tabOK eqsOK Go.Proofs.Try.func68 (by kernel_rfl) (by kernel_rfl) (by kernel_rfl) ((by kernel_rfl : vcFn prog eqs tab An.codec_Writer_Row Go.Proofs.Try.f68 [.pointer wv1, .slice l1p l1n l1c] w K = C.codec_Writer_Row wv1 l1p l1n l1c w K).mpr h)

/-- (*afflux/codec.Bytes).String -/
def C.codec_Bytes_String (b1 : Option Addr) (w : World) (K : Value → World → Prop) : Prop :=
  ifB b1.isNone (
    K (.string (bs [])) w) (
    ∃ ba1, b1 = some ba1 ∧
    ∃ (s1p : Option Addr) (s1n s1c : Nat),
    w.cell? (ba1.add 0) = some (.slice s1p s1n s1c) ∧
    ConvV prog T.s_uint8 T.string (.slice s1p s1n s1c) w (fun v1 wv1 =>
      ∃ (c1 : ByteArray),
      v1 = .string c1 ∧
      K (.string c1) wv1))
def An.codec_Bytes_String : Ann := ⟨[], [], []⟩
theorem R.codec_Bytes_String {b1 : Option Addr} {w : World} {K : Value → World → Prop} (h : C.codec_Bytes_String b1 w K) : CallsV prog F.codec_Bytes_String #[.pointer b1] w K :=
  vcFn.calls (an := An.codec_Bytes_String) mixed tabOK eqsOK Go.Proofs.Try.func69 (by kernel_rfl) (by kernel_rfl) (by kernel_rfl) ((by kernel_rfl : vcFn prog eqs tab An.codec_Bytes_String Go.Proofs.Try.f69 [.pointer b1] w K = C.codec_Bytes_String b1 w K).mpr h)

/-- (*afflux/codec.Reader).Size -/
def C.codec_Reader_Size (r1 : Option Addr) (most1 : Int) (w : World) (K : Value → World → Prop) : Prop :=
  CallsV prog F.codec_Reader_number #[.pointer r1] w (fun v1 wv1 =>
    ∃ (r2 : Int),
    v1 = .int .u64 r2 ∧
    ∃ Jv1 : World → Prop,
    (CallsV prog F.codec_Reader_Good #[.pointer r1] wv1 (fun v2 wv2 =>
      ∃ (r3 : Bool),
      v2 = .bool r3 ∧
      ifB r3 (
        ifB (decide (most1 < (0 : Int))) (
          CallsV prog F.codec_Reader_Fail #[.pointer r1] wv2 (fun v3 wv3 =>
            v3 = .tuple #[] ∧
            Jv1 wv3)) (
          ifB (decide ((IntKind.u64.wrap most1) < r2)) (
            CallsV prog F.codec_Reader_Fail #[.pointer r1] wv2 (fun v4 wv4 =>
              v4 = .tuple #[] ∧
              Jv1 wv4)) (
            Jv1 wv2))) (
        Jv1 wv2))) ∧
    (∀ wv5, Jv1 wv5 →
    CallsV prog F.codec_Reader_Good #[.pointer r1] wv5 (fun v5 wv6 =>
      ∃ (r4 : Bool),
      v5 = .bool r4 ∧
      ifB (!r4) (
        K (.int .i64 0) wv6) (
        K (.int .i64 (IntKind.i64.wrap r2)) wv6))))
def An.codec_Reader_Size : Ann := ⟨[], [], [(4, [], [0, 1, 5])]⟩
theorem R.codec_Reader_Size {r1 : Option Addr} {most1 : Int} {w : World} {K : Value → World → Prop} (h : C.codec_Reader_Size r1 most1 w K) : CallsV prog F.codec_Reader_Size #[.pointer r1, .int .i64 most1] w K :=
  vcFn.calls (an := An.codec_Reader_Size) mixed tabOK eqsOK Go.Proofs.Try.func70 (by kernel_rfl) (by kernel_rfl) (by kernel_rfl) ((by kernel_rfl : vcFn prog eqs tab An.codec_Reader_Size Go.Proofs.Try.f70 [.pointer r1, .int .i64 most1] w K = C.codec_Reader_Size r1 most1 w K).mpr h)

/-- (*afflux/codec.Reader).Good -/
def C.codec_Reader_Good (r1 : Option Addr) (w : World) (K : Value → World → Prop) : Prop :=
  ifB (!r1.isNone) (
    ∃ ra1, r1 = some ra1 ∧
    ∃ (bad1 : Bool),
    w.cell? (ra1.add 1) = some (.bool bad1) ∧
    K (.bool (!bad1)) w) (
    K (.bool false) w)
def An.codec_Reader_Good : Ann := ⟨[], [], []⟩
theorem R.codec_Reader_Good {r1 : Option Addr} {w : World} {K : Value → World → Prop} (h : C.codec_Reader_Good r1 w K) : CallsV prog F.codec_Reader_Good #[.pointer r1] w K :=
  vcFn.calls (an := An.codec_Reader_Good) mixed tabOK eqsOK Go.Proofs.Try.func71 (by kernel_rfl) (by kernel_rfl) (by kernel_rfl) ((by kernel_rfl : vcFn prog eqs tab An.codec_Reader_Good Go.Proofs.Try.f71 [.pointer r1] w K = C.codec_Reader_Good r1 w K).mpr h)

/-- (*afflux/codec.Reader).Rows -/
def C.codec_Reader_Rows (r1 : Option Addr) (most1 : Int) (cols1 : Int) (w : World) (K : Value → World → Prop) : Prop :=
  CallsV prog F.codec_Reader_Size #[.pointer r1, .int .i64 most1] w (fun v1 wv1 =>
    ∃ (r2 : Int),
    v1 = .int .i64 r2 ∧
    ∃ (Iv1 : Option Addr → Nat → Nat → Int → World → Prop) (m1 : Option Addr → Nat → Nat → Int → World → Nat),
    Iv1 none 0 0 r2 wv1 ∧
    ∀ (l1p : Option Addr) (l1n l1c : Nat) (n1 : Int) wv2, Iv1 l1p l1n l1c n1 wv2 →
    ifB (decide ((0 : Int) < n1)) (
      CallsV prog F.codec_Reader_Good #[.pointer r1] wv2 (fun v2 wv3 =>
        ∃ (r3 : Bool),
        v2 = .bool r3 ∧
        ifB r3 (
          CallsV prog F.codec_Reader_Row #[.pointer r1, .int .i64 cols1] wv3 (fun v3 wv4 =>
            ∃ (r4p : Option Addr) (r4n r4c : Nat),
            v3 = .slice r4p r4n r4c ∧
            ∀ b1 wv5, New wv4 (.cells #[.slice r4p r4n r4c] T.s_api_Value) b1 wv5 →
            BuiltV prog .append #[T.s_s_api_Value, T.s_s_api_Value] T.s_s_api_Value #[.slice l1p l1n l1c, .slice (some (Addr.mk b1 0 none)) 1 1] wv5 (fun v4 wv6 =>
              ∃ (a1p : Option Addr) (a1n a1c : Nat),
              v4 = .slice a1p a1n a1c ∧
              Iv1 a1p a1n a1c (IntKind.i64.wrap (n1 - (1 : Int))) wv6 ∧ m1 a1p a1n a1c (IntKind.i64.wrap (n1 - (1 : Int))) wv6 < m1 l1p l1n l1c n1 wv2))) (
          CallsV prog F.codec_Reader_Good #[.pointer r1] wv3 (fun v5 wv7 =>
            ∃ (r5 : Bool),
            v5 = .bool r5 ∧
            ifB (!r5) (
              K (.slice none 0 0) wv7) (
              K (.slice l1p l1n l1c) wv7))))) (
      CallsV prog F.codec_Reader_Good #[.pointer r1] wv2 (fun v6 wv8 =>
        ∃ (r6 : Bool),
        v6 = .bool r6 ∧
        ifB (!r6) (
          K (.slice none 0 0) wv8) (
          K (.slice l1p l1n l1c) wv8))))
def An.codec_Reader_Rows : Ann := ⟨[], [(3, [(7, 56), (8, 3)], [0, 2])], []⟩
theorem R.codec_Reader_Rows {r1 : Option Addr} {most1 : Int} {cols1 : Int} {w : World} {K : Value → World → Prop} (h : C.codec_Reader_Rows r1 most1 cols1 w K) : CallsV prog F.codec_Reader_Rows #[.pointer r1, .int .i64 most1, .int .i64 cols1] w K :=
  vcFn.calls (an := An.codec_Reader_Rows) mixed tabOK eqsOK Go.Proofs.Try.func72 (by kernel_rfl) (by kernel_rfl) (by kernel_rfl) ((by kernel_rfl : vcFn prog eqs tab An.codec_Reader_Rows Go.Proofs.Try.f72 [.pointer r1, .int .i64 most1, .int .i64 cols1] w K = C.codec_Reader_Rows r1 most1 cols1 w K).mpr h)

/-- (*afflux/codec.Reader).Fail -/
def C.codec_Reader_Fail (r1 : Option Addr) (w : World) (K : Value → World → Prop) : Prop :=
  ifB (!r1.isNone) (
    ∃ ra1, r1 = some ra1 ∧
    CanSt w (ra1.add 1) ∧ ∀ wv1, wv1 = w.setCell (ra1.add 1) (.bool true) →
    ∃ ra2, r1 = some ra2 ∧
    CanSt wv1 ((ra2.add 0).add 0) ∧ ∀ wv2, wv2 = wv1.setCell ((ra2.add 0).add 0) (.slice none 0 0) →
    K (.tuple #[]) wv2) (
    K (.tuple #[]) w)
def An.codec_Reader_Fail : Ann := ⟨[], [], []⟩
theorem R.codec_Reader_Fail {r1 : Option Addr} {w : World} {K : Value → World → Prop} (h : C.codec_Reader_Fail r1 w K) : CallsV prog F.codec_Reader_Fail #[.pointer r1] w K :=
  vcFn.calls (an := An.codec_Reader_Fail) mixed tabOK eqsOK Go.Proofs.Try.func73 (by kernel_rfl) (by kernel_rfl) (by kernel_rfl) ((by kernel_rfl : vcFn prog eqs tab An.codec_Reader_Fail Go.Proofs.Try.f73 [.pointer r1] w K = C.codec_Reader_Fail r1 w K).mpr h)

/-- (*afflux/codec.Reader).Len -/
def C.codec_Reader_Len (r1 : Option Addr) (w : World) (K : Value → World → Prop) : Prop :=
  ifB r1.isNone (
    K (.int .i64 0) w) (
    ∃ ra1, r1 = some ra1 ∧
    CallsV prog F.codec_Bytes_Len #[.pointer (some (ra1.add 0))] w (fun v1 wv1 =>
      ∃ (r2 : Int),
      v1 = .int .i64 r2 ∧
      K (.int .i64 r2) wv1))
def An.codec_Reader_Len : Ann := ⟨[], [], []⟩
theorem R.codec_Reader_Len {r1 : Option Addr} {w : World} {K : Value → World → Prop} (h : C.codec_Reader_Len r1 w K) : CallsV prog F.codec_Reader_Len #[.pointer r1] w K :=
  vcFn.calls (an := An.codec_Reader_Len) mixed tabOK eqsOK Go.Proofs.Try.func74 (by kernel_rfl) (by kernel_rfl) (by kernel_rfl) ((by kernel_rfl : vcFn prog eqs tab An.codec_Reader_Len Go.Proofs.Try.f74 [.pointer r1] w K = C.codec_Reader_Len r1 w K).mpr h)

/-- afflux/schema.letter -/
def C.schema_letter (c1 : Int) (w : World) (K : Value → World → Prop) : Prop :=
  ifB (decide ((97 : Int) ≤ c1)) (
    K (.bool (decide (c1 ≤ (122 : Int)))) w) (
    K (.bool false) w)
def An.schema_letter : Ann := ⟨[], [], []⟩
theorem R.schema_letter {c1 : Int} {w : World} {K : Value → World → Prop} (h : C.schema_letter c1 w K) : CallsV prog F.schema_letter #[.int .u8 c1] w K :=
  vcFn.calls (an := An.schema_letter) mixed tabOK eqsOK Go.Proofs.Try.func75 (by kernel_rfl) (by kernel_rfl) (by kernel_rfl) ((by kernel_rfl : vcFn prog eqs tab An.schema_letter Go.Proofs.Try.f75 [.int .u8 c1] w K = C.schema_letter c1 w K).mpr h)

/-- afflux/schema.part -/
def C.schema_part (c1 : Int) (w : World) (K : Value → World → Prop) : Prop :=
  CallsV prog F.schema_letter #[.int .u8 c1] w (fun v1 wv1 =>
    ∃ (r1 : Bool),
    v1 = .bool r1 ∧
    ifB r1 (
      K (.bool true) wv1) (
      ifB (decide ((48 : Int) ≤ c1)) (
        ifB (decide (c1 ≤ (57 : Int))) (
          K (.bool true) wv1) (
          K (.bool (c1 == (95 : Int))) wv1)) (
        K (.bool (c1 == (95 : Int))) wv1)))
def An.schema_part : Ann := ⟨[], [], []⟩
theorem R.schema_part {c1 : Int} {w : World} {K : Value → World → Prop} (h : C.schema_part c1 w K) : CallsV prog F.schema_part #[.int .u8 c1] w K :=
  vcFn.calls (an := An.schema_part) mixed tabOK eqsOK Go.Proofs.Try.func76 (by kernel_rfl) (by kernel_rfl) (by kernel_rfl) ((by kernel_rfl : vcFn prog eqs tab An.schema_part Go.Proofs.Try.f76 [.int .u8 c1] w K = C.schema_part c1 w K).mpr h)

/-- afflux/affluxref02.Right -/
def C.affluxref02_Right (vKind1 : Int) (vN1 : Int) (vS1 : ByteArray) (w : World) (K : Value → World → Prop) : Prop :=
  ∀ b1 wv1, New w (.cells #[.int .i64 vKind1, .int .i64 vN1, .string vS1] T.api_Value) b1 wv1 →
  ∃ (Kind1 : Int),
  wv1.cell? ((Addr.mk b1 0 none).add 0) = some (.int .i64 Kind1) ∧
  ifB (Kind1 == (1 : Int)) (
    ∃ (S1 : ByteArray),
    wv1.cell? ((Addr.mk b1 0 none).add 2) = some (.string S1) ∧
    ifB (sEq S1 (bs [])) (
      K (.bool true) wv1) (
      ∃ (Kind2 : Int),
      wv1.cell? ((Addr.mk b1 0 none).add 0) = some (.int .i64 Kind2) ∧
      ifB (Kind2 == (2 : Int)) (
        ∃ (N1 : Int),
        wv1.cell? ((Addr.mk b1 0 none).add 1) = some (.int .i64 N1) ∧
        ifB (N1 == (0 : Int)) (
          ∃ (S2 : ByteArray),
          wv1.cell? ((Addr.mk b1 0 none).add 2) = some (.string S2) ∧
          ifB (decide (((S2.size : Nat) : Int) ≤ (200 : Int))) (
            K (.bool true) wv1) (
            ∃ (Kind3 : Int),
            wv1.cell? ((Addr.mk b1 0 none).add 0) = some (.int .i64 Kind3) ∧
            ifB (Kind3 == (3 : Int)) (
              ∃ (N2 : Int),
              wv1.cell? ((Addr.mk b1 0 none).add 1) = some (.int .i64 N2) ∧
              ifB (N2 == (0 : Int)) (
                ∃ (S3 : ByteArray),
                wv1.cell? ((Addr.mk b1 0 none).add 2) = some (.string S3) ∧
                K (.bool (sEq S3 (bs []))) wv1) (
                ∃ (N3 : Int),
                wv1.cell? ((Addr.mk b1 0 none).add 1) = some (.int .i64 N3) ∧
                ifB (N3 == (1 : Int)) (
                  ∃ (S4 : ByteArray),
                  wv1.cell? ((Addr.mk b1 0 none).add 2) = some (.string S4) ∧
                  K (.bool (sEq S4 (bs []))) wv1) (
                  K (.bool false) wv1))) (
              K (.bool false) wv1))) (
          ∃ (Kind4 : Int),
          wv1.cell? ((Addr.mk b1 0 none).add 0) = some (.int .i64 Kind4) ∧
          ifB (Kind4 == (3 : Int)) (
            ∃ (N4 : Int),
            wv1.cell? ((Addr.mk b1 0 none).add 1) = some (.int .i64 N4) ∧
            ifB (N4 == (0 : Int)) (
              ∃ (S5 : ByteArray),
              wv1.cell? ((Addr.mk b1 0 none).add 2) = some (.string S5) ∧
              K (.bool (sEq S5 (bs []))) wv1) (
              ∃ (N5 : Int),
              wv1.cell? ((Addr.mk b1 0 none).add 1) = some (.int .i64 N5) ∧
              ifB (N5 == (1 : Int)) (
                ∃ (S6 : ByteArray),
                wv1.cell? ((Addr.mk b1 0 none).add 2) = some (.string S6) ∧
                K (.bool (sEq S6 (bs []))) wv1) (
                K (.bool false) wv1))) (
            K (.bool false) wv1))) (
        ∃ (Kind5 : Int),
        wv1.cell? ((Addr.mk b1 0 none).add 0) = some (.int .i64 Kind5) ∧
        ifB (Kind5 == (3 : Int)) (
          ∃ (N6 : Int),
          wv1.cell? ((Addr.mk b1 0 none).add 1) = some (.int .i64 N6) ∧
          ifB (N6 == (0 : Int)) (
            ∃ (S7 : ByteArray),
            wv1.cell? ((Addr.mk b1 0 none).add 2) = some (.string S7) ∧
            K (.bool (sEq S7 (bs []))) wv1) (
            ∃ (N7 : Int),
            wv1.cell? ((Addr.mk b1 0 none).add 1) = some (.int .i64 N7) ∧
            ifB (N7 == (1 : Int)) (
              ∃ (S8 : ByteArray),
              wv1.cell? ((Addr.mk b1 0 none).add 2) = some (.string S8) ∧
              K (.bool (sEq S8 (bs []))) wv1) (
              K (.bool false) wv1))) (
          K (.bool false) wv1)))) (
    ∃ (Kind6 : Int),
    wv1.cell? ((Addr.mk b1 0 none).add 0) = some (.int .i64 Kind6) ∧
    ifB (Kind6 == (2 : Int)) (
      ∃ (N8 : Int),
      wv1.cell? ((Addr.mk b1 0 none).add 1) = some (.int .i64 N8) ∧
      ifB (N8 == (0 : Int)) (
        ∃ (S9 : ByteArray),
        wv1.cell? ((Addr.mk b1 0 none).add 2) = some (.string S9) ∧
        ifB (decide (((S9.size : Nat) : Int) ≤ (200 : Int))) (
          K (.bool true) wv1) (
          ∃ (Kind7 : Int),
          wv1.cell? ((Addr.mk b1 0 none).add 0) = some (.int .i64 Kind7) ∧
          ifB (Kind7 == (3 : Int)) (
            ∃ (N9 : Int),
            wv1.cell? ((Addr.mk b1 0 none).add 1) = some (.int .i64 N9) ∧
            ifB (N9 == (0 : Int)) (
              ∃ (S10 : ByteArray),
              wv1.cell? ((Addr.mk b1 0 none).add 2) = some (.string S10) ∧
              K (.bool (sEq S10 (bs []))) wv1) (
              ∃ (N10 : Int),
              wv1.cell? ((Addr.mk b1 0 none).add 1) = some (.int .i64 N10) ∧
              ifB (N10 == (1 : Int)) (
                ∃ (S11 : ByteArray),
                wv1.cell? ((Addr.mk b1 0 none).add 2) = some (.string S11) ∧
                K (.bool (sEq S11 (bs []))) wv1) (
                K (.bool false) wv1))) (
            K (.bool false) wv1))) (
        ∃ (Kind8 : Int),
        wv1.cell? ((Addr.mk b1 0 none).add 0) = some (.int .i64 Kind8) ∧
        ifB (Kind8 == (3 : Int)) (
          ∃ (N11 : Int),
          wv1.cell? ((Addr.mk b1 0 none).add 1) = some (.int .i64 N11) ∧
          ifB (N11 == (0 : Int)) (
            ∃ (S12 : ByteArray),
            wv1.cell? ((Addr.mk b1 0 none).add 2) = some (.string S12) ∧
            K (.bool (sEq S12 (bs []))) wv1) (
            ∃ (N12 : Int),
            wv1.cell? ((Addr.mk b1 0 none).add 1) = some (.int .i64 N12) ∧
            ifB (N12 == (1 : Int)) (
              ∃ (S13 : ByteArray),
              wv1.cell? ((Addr.mk b1 0 none).add 2) = some (.string S13) ∧
              K (.bool (sEq S13 (bs []))) wv1) (
              K (.bool false) wv1))) (
          K (.bool false) wv1))) (
      ∃ (Kind9 : Int),
      wv1.cell? ((Addr.mk b1 0 none).add 0) = some (.int .i64 Kind9) ∧
      ifB (Kind9 == (3 : Int)) (
        ∃ (N13 : Int),
        wv1.cell? ((Addr.mk b1 0 none).add 1) = some (.int .i64 N13) ∧
        ifB (N13 == (0 : Int)) (
          ∃ (S14 : ByteArray),
          wv1.cell? ((Addr.mk b1 0 none).add 2) = some (.string S14) ∧
          K (.bool (sEq S14 (bs []))) wv1) (
          ∃ (N14 : Int),
          wv1.cell? ((Addr.mk b1 0 none).add 1) = some (.int .i64 N14) ∧
          ifB (N14 == (1 : Int)) (
            ∃ (S15 : ByteArray),
            wv1.cell? ((Addr.mk b1 0 none).add 2) = some (.string S15) ∧
            K (.bool (sEq S15 (bs []))) wv1) (
            K (.bool false) wv1))) (
        K (.bool false) wv1)))
def An.affluxref02_Right : Ann := ⟨[], [], []⟩
theorem R.affluxref02_Right {vKind1 : Int} {vN1 : Int} {vS1 : ByteArray} {w : World} {K : Value → World → Prop} (h : C.affluxref02_Right vKind1 vN1 vS1 w K) : CallsV prog F.affluxref02_Right #[.agg #[.int .i64 vKind1, .int .i64 vN1, .string vS1]] w K :=
  vcFn.calls (an := An.affluxref02_Right) mixed tabOK eqsOK Go.Proofs.Try.func77 (by kernel_rfl) (by kernel_rfl) (by kernel_rfl) ((by kernel_rfl : vcFn prog eqs tab An.affluxref02_Right Go.Proofs.Try.f77 [.agg #[.int .i64 vKind1, .int .i64 vN1, .string vS1]] w K = C.affluxref02_Right vKind1 vN1 vS1 w K).mpr h)

/-- afflux/value.Right -/
def C.value_Right (l1p : Option Addr) (l1n l1c : Nat) (w : World) (K : Value → World → Prop) : Prop :=
  CallsV prog F.slices_ContainsFunc_api_Value_api_Value #[.slice l1p l1n l1c, .func (.func F.value_wrong) #[] #[]] w (fun v1 wv1 =>
    ∃ (r1 : Bool),
    v1 = .bool r1 ∧
    K (.bool (!r1)) wv1)
def An.value_Right : Ann := ⟨[], [], []⟩
theorem R.value_Right {l1p : Option Addr} {l1n l1c : Nat} {w : World} {K : Value → World → Prop} (h : C.value_Right l1p l1n l1c w K) : CallsV prog F.value_Right #[.slice l1p l1n l1c] w K :=
  vcFn.calls (an := An.value_Right) mixed tabOK eqsOK Go.Proofs.Try.func78 (by kernel_rfl) (by kernel_rfl) (by kernel_rfl) ((by kernel_rfl : vcFn prog eqs tab An.value_Right Go.Proofs.Try.f78 [.slice l1p l1n l1c] w K = C.value_Right l1p l1n l1c w K).mpr h)

/-- afflux/affluxref04.Number -/
def C.affluxref04_Number (n1 : Int) (w : World) (K : Value → World → Prop) : Prop :=
  ∃ (Iv1 : Int → ByteArray → World → Prop) (m1 : Int → ByteArray → World → Nat),
  Iv1 n1 (bs []) w ∧
  ∀ (n2 : Int) (s1 : ByteArray) wv1, Iv1 n2 s1 wv1 →
  ifB (decide ((0 : Int) < n2)) (
    (256 : Int) ≠ 0 ∧
    ∀ b1 wv2, New wv1 (.cells #[.int .u8 (IntKind.u8.wrap (Int.tmod n2 (256 : Int)))] T.uint8) b1 wv2 →
    ConvV prog T.s_uint8 T.string (.slice (some (Addr.mk b1 0 none)) 1 1) wv2 (fun v1 wv3 =>
      ∃ (c1 : ByteArray),
      v1 = .string c1 ∧
      c1.size + s1.size ≤ 9223372036854775807 ∧
      (256 : Int) ≠ 0 ∧
      Iv1 (IntKind.u64.wrap (Int.tdiv n2 (256 : Int))) (c1 ++ s1) wv3 ∧ m1 (IntKind.u64.wrap (Int.tdiv n2 (256 : Int))) (c1 ++ s1) wv3 < m1 n2 s1 wv1)) (
    ∀ b2 wv4, New wv1 (.cells #[.int .u8 (IntKind.u8.wrap ((s1.size : Nat) : Int))] T.uint8) b2 wv4 →
    ConvV prog T.s_uint8 T.string (.slice (some (Addr.mk b2 0 none)) 1 1) wv4 (fun v2 wv5 =>
      ∃ (c2 : ByteArray),
      v2 = .string c2 ∧
      c2.size + s1.size ≤ 9223372036854775807 ∧
      K (.string (c2 ++ s1)) wv5))
def An.affluxref04_Number : Ann := ⟨[], [(2, [(0, 136), (3, 9)], [])], []⟩
theorem R.affluxref04_Number {n1 : Int} {w : World} {K : Value → World → Prop} (h : C.affluxref04_Number n1 w K) : CallsV prog F.affluxref04_Number #[.int .u64 n1] w K :=
  vcFn.calls (an := An.affluxref04_Number) mixed tabOK eqsOK Go.Proofs.Try.func79 (by kernel_rfl) (by kernel_rfl) (by kernel_rfl) ((by kernel_rfl : vcFn prog eqs tab An.affluxref04_Number Go.Proofs.Try.f79 [.int .u64 n1] w K = C.affluxref04_Number n1 w K).mpr h)

/-- afflux/affluxref04.Row -/
def C.affluxref04_Row (l1p : Option Addr) (l1n l1c : Nat) (w : World) (K : Value → World → Prop) : Prop :=
  CallsV prog F.affluxref04_Size #[.int .i64 ((l1n : Nat) : Int)] w (fun v1 wv1 =>
    ∃ (r1 : ByteArray),
    v1 = .string r1 ∧
    ∃ (Iv1 : ByteArray → Int → World → Prop) (m1 : ByteArray → Int → World → Nat),
    Iv1 r1 0 wv1 ∧
    ∀ (s1 : ByteArray) (i1 : Int) wv2, Iv1 s1 i1 wv2 →
    ifB (decide (i1 < ((l1n : Nat) : Int))) (
      ∃ a1, l1p = some a1 ∧ 0 ≤ i1 ∧ i1 < ((l1n : Nat) : Int) ∧
      ∃ (eKind1 : Int) (eN1 : Int) (eS1 : ByteArray),
      cellsAt wv2 (a1.add (i1.toNat * 3)) 0 [.int .i64 eKind1, .int .i64 eN1, .string eS1] ∧
      CallsV prog F.affluxref04_Value #[.agg #[.int .i64 eKind1, .int .i64 eN1, .string eS1]] wv2 (fun v2 wv3 =>
        ∃ (r2 : ByteArray),
        v2 = .string r2 ∧
        s1.size + r2.size ≤ 9223372036854775807 ∧
        Iv1 (s1 ++ r2) (IntKind.i64.wrap (i1 + (1 : Int))) wv3 ∧ m1 (s1 ++ r2) (IntKind.i64.wrap (i1 + (1 : Int))) wv3 < m1 s1 i1 wv2)) (
      K (.string s1) wv2))
def An.affluxref04_Row : Ann := ⟨[], [(3, [(3, 9), (4, 3)], [0])], []⟩
theorem R.affluxref04_Row {l1p : Option Addr} {l1n l1c : Nat} {w : World} {K : Value → World → Prop} (h : C.affluxref04_Row l1p l1n l1c w K) : CallsV prog F.affluxref04_Row #[.slice l1p l1n l1c] w K :=
  vcFn.calls (an := An.affluxref04_Row) mixed tabOK eqsOK Go.Proofs.Try.func80 (by kernel_rfl) (by kernel_rfl) (by kernel_rfl) ((by kernel_rfl : vcFn prog eqs tab An.affluxref04_Row Go.Proofs.Try.f80 [.slice l1p l1n l1c] w K = C.affluxref04_Row l1p l1n l1c w K).mpr h)

/-- (*afflux/codec.Bytes).lay -/
def C.codec_Bytes_lay (b1 : Option Addr) (l1p : Option Addr) (l1n l1c : Nat) (w : World) (K : Value → World → Prop) : Prop :=
  ∃ ba1, b1 = some ba1 ∧
  ∃ (s1p : Option Addr) (s1n s1c : Nat),
  w.cell? (ba1.add 0) = some (.slice s1p s1n s1c) ∧
  BuiltV prog .append #[T.s_uint8, T.s_uint8] T.s_uint8 #[.slice s1p s1n s1c, .slice l1p l1n l1c] w (fun v1 wv1 =>
    ∃ (a1p : Option Addr) (a1n a1c : Nat),
    v1 = .slice a1p a1n a1c ∧
    ∃ ba2, b1 = some ba2 ∧
    CanSt wv1 (ba2.add 0) ∧ ∀ wv2, wv2 = wv1.setCell (ba2.add 0) (.slice a1p a1n a1c) →
    K (.tuple #[]) wv2)
def An.codec_Bytes_lay : Ann := ⟨[], [], []⟩
theorem R.codec_Bytes_lay {b1 : Option Addr} {l1p : Option Addr} {l1n l1c : Nat} {w : World} {K : Value → World → Prop} (h : C.codec_Bytes_lay b1 l1p l1n l1c w K) : CallsV prog F.codec_Bytes_lay #[.pointer b1, .slice l1p l1n l1c] w K :=
  vcFn.calls (an := An.codec_Bytes_lay) mixed tabOK eqsOK Go.Proofs.Try.func81 (by kernel_rfl) (by kernel_rfl) (by kernel_rfl) ((by kernel_rfl : vcFn prog eqs tab An.codec_Bytes_lay Go.Proofs.Try.f81 [.pointer b1, .slice l1p l1n l1c] w K = C.codec_Bytes_lay b1 l1p l1n l1c w K).mpr h)

end Go.Proofs.Ytjcgociobhhijaa
