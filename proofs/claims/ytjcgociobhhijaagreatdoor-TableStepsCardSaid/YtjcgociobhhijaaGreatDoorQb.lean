/- Texts of the proofs of TPlays, TSame, TScans, TSteps, one behind the other. -/
import Derived.Test.YtjcgociobhhijaaGreatDoorQa
set_option linter.unusedVariables false
set_option linter.unusedSimpArgs false
set_option maxRecDepth 100000
namespace Go.Proofs.YtjcgociobhhijaaGreatDoor
open Go SX
def C.z3 (b:ByteArray) (c:Option Addr) (d e:Nat) (f:Option Addr) (g i:Nat) (j:Int) (k:Int) (l:Int) (m:Option Addr) (n o:Nat) (p:Int) (q:ByteArray) (r:Option Addr) (s t:Nat) (w:World) (K:Value→World→Prop):Prop:=
 ∀ u v,New w (.cells #[.string b,.slice c d e,.slice f g i,.int .i64 j,.int .i64 k,.int .i64 l] T.api_Schema) u v→
 ∃ x:World→Prop,
 (E6 fun y z a0 b0 c0 d0 e0 f0 g0 h0=>
 cellsAt v (Addr.mk u 0 none) 0 (L6 y z a0 b0 c0 d0 e0 f0 g0 h0)∧
 Cv F.z6 #[A6 y z a0 b0 c0 d0 e0 f0 g0 h0,.slice m n o] v (fun i0 j0=>
 ∃ (k0:Bool),
 i0 = .bool k0∧
 ifB k0 (
 Cv F.z4 #[] j0 (fun l0 m0=>
 ∃ (n0:Bool),
 l0 = .bool n0∧
 K (.bool n0) m0)) (
 ifB (decide ((300:Int) < ((q.size:Nat):Int))) (
 Cv F.z4 #[] j0 (fun o0 p0=>
 ∃ (q0:Bool),
 o0 = .bool q0∧
 K (.bool q0) p0)) (
 ifB (decide ((10:Int) < ((s:Nat):Int))) (
 Cv F.z4 #[] j0 (fun r0 s0=>
 ∃ (t0:Bool),
 r0 = .bool t0∧
 K (.bool t0) s0)) (
 E6 fun u0 v0 w0 x0 y0 z0 a1 b1 c1 d1=>
 cellsAt j0 (Addr.mk u 0 none) 0 (L6 u0 v0 w0 x0 y0 z0 a1 b1 c1 d1)∧
 Cv F.z31 #[A6 u0 v0 w0 x0 y0 z0 a1 b1 c1 d1] j0 (fun e1 f1=>
 ∃ (g1:Bool),
 e1 = .bool g1∧
 ifB (!g1) (
 Cv F.z4 #[] f1 (fun h1 i1=>
 ∃ (j1:Bool),
 h1 = .bool j1∧
 K (.bool j1) i1)) (
 Cv F.z4 #[] f1 (fun k1 l1=>
 ∃ (m1:Bool),
 k1 = .bool m1∧
 ifB (!m1) (
 Cv F.z4 #[] l1 (fun n1 o1=>
 ∃ (p1:Bool),
 n1 = .bool p1∧
 K (.bool p1) o1)) (
 x l1)))))))))∧
 (∀ q1,x q1→
 E6 fun r1 s1 t1 u1 v1 w1 x1 y1 z1 a2=>
 cellsAt q1 (Addr.mk u 0 none) 0 (L6 r1 s1 t1 u1 v1 w1 x1 y1 z1 a2)∧
 Cv F.z10 #[A6 r1 s1 t1 u1 v1 w1 x1 y1 z1 a2,.slice m n o] q1 (fun b2 c2=>
 ∃ (d2:Option Addr) (e2:ByteArray) (f2:Option Addr) (g2 h2:Nat) (i2:Option Addr) (j2 k2:Nat) (l2:Int) (m2:Int) (n2:Int) (o2:Option Addr) (p2 q2:Nat) (r2:Bool),
 b2 = .tuple #[.pointer d2,A7 e2 f2 g2 h2 i2 j2 k2 l2 m2 n2 o2 p2 q2,.bool r2]∧
 ∀ s2 t2,New c2 (.cells #[.string (bs []),.slice none 0 0,.slice none 0 0,.int .i64 0,.int .i64 0,.int .i64 0,.slice none 0 0] T.affluxref09_Model) s2 t2→
 Sb s2 0 (.string e2) t2 fun u2=>
 Sb s2 1 (.slice f2 g2 h2) u2 fun v2=>
 Sb s2 2 (.slice i2 j2 k2) v2 fun w2=>
 Sb s2 3 (.int .i64 l2) w2 fun x2=>
 Sb s2 4 (.int .i64 m2) x2 fun y2=>
 Sb s2 5 (.int .i64 n2) y2 fun z2=>
 Sb s2 6 (.slice o2 p2 q2) z2 fun a3=>
 ifB (!r2) (
 K (.bool false) a3) (
 Cv F.z121 #[.pointer d2,.int .i64 p,.slice r s t] a3 (fun b3 c3=>
 ∃ (d3:ByteArray) (e3:Option Addr) (f3 g3:Nat) (h3:Bool),
 b3 = .tuple #[.string d3,.slice e3 f3 g3,.bool h3]∧
 ∃ i3:World→Prop,
 (ifB (decide (p < (0:Int))) (
 ifB (sEq d3 (bs [])) (
 ifB (((f3:Nat):Int) == (0:Int)) (
 K (.bool (!h3)) c3) (
 K (.bool false) c3)) (
 K (.bool false) c3)) (
 Es fun j3 k3 l3=>
 c3.cell? ((Addr.mk u 0 none).add 2)=some (.slice j3 k3 l3)∧
 ifB (decide (((k3:Nat):Int)≤p)) (
 ifB (sEq d3 (bs [])) (
 ifB (((f3:Nat):Int) == (0:Int)) (
 K (.bool (!h3)) c3) (
 K (.bool false) c3)) (
 K (.bool false) c3)) (
 i3 c3)))∧
 (∀ m3,i3 m3→
 E7 fun n3 o3 p3 q3 r3 s3 t3 u3 v3 w3 x3 y3 z3=>
 cellsAt m3 (Addr.mk s2 0 none) 0 (L7 n3 o3 p3 q3 r3 s3 t3 u3 v3 w3 x3 y3 z3)∧
 Cv F.z43 #[A7 n3 o3 p3 q3 r3 s3 t3 u3 v3 w3 x3 y3 z3,.int .i64 p] m3 (fun a4 b4=>
 Es fun c4 d4 e4=>
 a4 = .slice c4 d4 e4∧
 ∃ (f4:ByteArray→Option Addr→Nat→Nat→Bool→Int→Int→Int→World→Prop) (g4:ByteArray→Option Addr→Nat→Nat→Bool→Int→Int→Int→World→Nat),
 f4 d3 e3 f3 g3 h3 0 (-1) 0 b4∧
 ∀ (h4:ByteArray) (i4:Option Addr) (j4 k4:Nat) (l4:Bool) (m4:Int) (n4:Int) (o4:Int) p4,f4 h4 i4 j4 k4 l4 m4 n4 o4 p4→
 ifB (decide (o4 < ((d4:Nat):Int))) (
 E6 fun q4 r4 s4 t4 u4 v4 w4 x4 y4 z4=>
 cellsAt p4.drew (Addr.mk u 0 none) 0 (L6 q4 r4 s4 t4 u4 v4 w4 x4 y4 z4)∧
 Iq c4 (o4) d4 fun a5=>
 Es fun b5 c5 d5=>
 p4.drew.cell? (a5.add (o4.toNat * 1))=some (.slice b5 c5 d5)∧
 Cv F.z7 #[A6 q4 r4 s4 t4 u4 v4 w4 x4 y4 z4,.slice b5 c5 d5,.slice r s t] p4.drew (fun e5 f5=>
 ∃ (g5:Bool),
 e5 = .bool g5∧
 ifB (!g5) (
 f4 h4 i4 j4 k4 l4 m4 n4 (IntKind.i64.wrap (o4+(1:Int))) f5∧g4 h4 i4 j4 k4 l4 m4 n4 (IntKind.i64.wrap (o4+(1:Int))) f5 < g4 h4 i4 j4 k4 l4 m4 n4 o4 p4) (
 ∃ h5:Int→World→Prop,
 (ifB (decide (n4 < (0:Int))) (
 E6 fun i5 j5 k5 l5 m5 n5 o5 p5 q5 r5=>
 cellsAt f5.drew (Addr.mk u 0 none) 0 (L6 i5 j5 k5 l5 m5 n5 o5 p5 q5 r5)∧
 Iq c4 (o4) d4 fun s5=>
 Es fun t5 u5 v5=>
 f5.drew.cell? (s5.add (o4.toNat * 1))=some (.slice t5 u5 v5)∧
 Cv F.z28 #[A6 i5 j5 k5 l5 m5 n5 o5 p5 q5 r5,.int .i64 p,.slice t5 u5 v5] f5.drew (fun w5 x5=>
 ∃ (y5:ByteArray),
 w5 = .string y5∧
 ifB (!(sLt y5 q || sEq y5 q)) (
 h5 o4 x5) (
 h5 n4 x5))) (
 h5 n4 f5.drew))∧
 (∀ (z5:Int) a6,h5 z5 a6→
 ifB (!l4) (
 K (.bool false) a6.drew) (
 E6 fun b6 c6 d6 e6 f6 g6 h6 i6 j6 k6=>
 cellsAt a6.drew (Addr.mk u 0 none) 0 (L6 b6 c6 d6 e6 f6 g6 h6 i6 j6 k6)∧
 Iq c4 (o4) d4 fun l6=>
 Es fun m6 n6 o6=>
 a6.drew.cell? (l6.add (o4.toNat * 1))=some (.slice m6 n6 o6)∧
 Cv F.z28 #[A6 b6 c6 d6 e6 f6 g6 h6 i6 j6 k6,.int .i64 p,.slice m6 n6 o6] a6.drew (fun p6 q6=>
 ∃ (r6:ByteArray),
 p6 = .string r6∧
 ifB (!sEq h4 r6) (
 K (.bool false) q6) (
 Iq c4 (o4) d4 fun s6=>
 Es fun t6 u6 v6=>
 q6.cell? (s6.add (o4.toNat * 1))=some (.slice t6 u6 v6)∧
 Cv F.z24 #[.slice i4 j4 k4,.slice t6 u6 v6] q6 (fun w6 x6=>
 ∃ (y6:Bool),
 w6 = .bool y6∧
 ifB (!y6) (
 K (.bool false) x6) (
 Cv F.z128 #[.pointer d2,.int .i64 p,.string h4,.slice r s t] x6 (fun z6 a7=>
 ∃ (b7:ByteArray) (c7:Option Addr) (d7 e7:Nat) (f7:Bool),
 z6 = .tuple #[.string b7,.slice c7 d7 e7,.bool f7]∧
 f4 b7 c7 d7 e7 f7 (IntKind.i64.wrap (m4+(1:Int))) z5 (IntKind.i64.wrap (o4+(1:Int))) a7∧g4 b7 c7 d7 e7 f7 (IntKind.i64.wrap (m4+(1:Int))) z5 (IntKind.i64.wrap (o4+(1:Int))) a7 < g4 h4 i4 j4 k4 l4 m4 n4 o4 p4)))))))))) (
 Cv F.z128 #[.pointer d2,.int .i64 p,.string q,.slice r s t] p4 (fun g7 h7=>
 ∃ (i7:ByteArray) (j7:Option Addr) (k7 l7:Nat) (m7:Bool),
 g7 = .tuple #[.string i7,.slice j7 k7 l7,.bool m7]∧
 ∃ n7:World→Prop,
 (ifB (decide (n4 < (0:Int))) (
 ifB (!sEq i7 (bs [])) (
 K (.bool false) h7.drew) (
 ifB (decide ((0:Int) < ((k7:Nat):Int))) (
 K (.bool false) h7.drew) (
 ifB m7 (
 K (.bool false) h7.drew) (
 ifB (decide ((0:Int)≤n4)) (
 E6 fun o7 p7 q7 r7 s7 t7 u7 v7 w7 x7=>
 cellsAt h7.drew (Addr.mk u 0 none) 0 (L6 o7 p7 q7 r7 s7 t7 u7 v7 w7 x7)∧
 Iq c4 (n4) d4 fun y7=>
 Es fun z7 a8 b8=>
 h7.drew.cell? (y7.add (n4.toNat * 1))=some (.slice z7 a8 b8)∧
 Cv F.z28 #[A6 o7 p7 q7 r7 s7 t7 u7 v7 w7 x7,.int .i64 p,.slice z7 a8 b8] h7.drew (fun c8 d8=>
 ∃ (e8:ByteArray),
 c8 = .string e8∧
 ifB (!sEq i7 e8) (
 K (.bool false) d8) (
 Iq c4 (n4) d4 fun f8=>
 Es fun g8 h8 i8=>
 d8.cell? (f8.add (n4.toNat * 1))=some (.slice g8 h8 i8)∧
 Cv F.z24 #[.slice j7 k7 l7,.slice g8 h8 i8] d8 (fun j8 k8=>
 ∃ (l8:Bool),
 j8 = .bool l8∧
 ifB (!l8) (
 K (.bool false) k8) (
 ifB (!m7) (
 K (.bool false) k8) (
 n7 k8)))))) (
 n7 h7.drew))))) (
 ifB (decide ((0:Int)≤n4)) (
 E6 fun m8 n8 o8 p8 q8 r8 s8 t8 u8 v8=>
 cellsAt h7.drew (Addr.mk u 0 none) 0 (L6 m8 n8 o8 p8 q8 r8 s8 t8 u8 v8)∧
 Iq c4 (n4) d4 fun w8=>
 Es fun x8 y8 z8=>
 h7.drew.cell? (w8.add (n4.toNat * 1))=some (.slice x8 y8 z8)∧
 Cv F.z28 #[A6 m8 n8 o8 p8 q8 r8 s8 t8 u8 v8,.int .i64 p,.slice x8 y8 z8] h7.drew (fun a9 b9=>
 ∃ (c9:ByteArray),
 a9 = .string c9∧
 ifB (!sEq i7 c9) (
 K (.bool false) b9) (
 Iq c4 (n4) d4 fun d9=>
 Es fun e9 f9 g9=>
 b9.cell? (d9.add (n4.toNat * 1))=some (.slice e9 f9 g9)∧
 Cv F.z24 #[.slice j7 k7 l7,.slice e9 f9 g9] b9 (fun h9 i9=>
 ∃ (j9:Bool),
 h9 = .bool j9∧
 ifB (!j9) (
 K (.bool false) i9) (
 ifB (!m7) (
 K (.bool false) i9) (
 n7 i9)))))) (
 n7 h7.drew)))∧
 (∀ k9,n7 k9→
 ifB (!l4) (
 ifB (sEq h4 (bs [])) (
 ifB (((j4:Nat):Int) == (0:Int)) (
 Cv F.z123 #[.pointer d2,.slice r s t] k9 (fun l9 m9=>
 ∃ (n9:Int),
 l9 = .int .i64 n9∧
 ifB (n9 == m4) (
 Cv F.z129 #[.pointer d2,.slice r s t] m9 (fun o9 p9=>
 Es fun q9 r9 s9=>
 o9 = .slice q9 r9 s9∧
 K (.bool (((r9:Nat):Int) == m4)) p9)) (
 K (.bool false) m9))) (
 K (.bool false) k9)) (
 K (.bool false) k9)) (
 K (.bool false) k9))))))))))
def An.z3:Ann:=⟨[(15,.sil 0 [] (.sil 1 [] (.sil 2 [] (.sil 3 [] (.sil 4 [] (.sil 5 [] (.act 6 (.sil 7 [] (.done))))))))),(17,.sil 0 [] (.sil 1 [] (.sil 2 [] (.sil 3 [] (.sil 4 [] (.sil 5 [] (.sil 6 [] (.sil 7 [] (.sil 8 [] (.sil 10 [] (.act 9 (.sil 11 [] (.sil 12 [] (.done)))))))))))))),(19,.sil 0 [] (.sil 1 [] (.sil 2 [] (.sil 3 [] (.sil 4 [] (.sil 5 [] (.sil 6 [] (.sil 7 [] (.sil 8 [] (.sil 9 [] (.act 10 (.sil 11 [] (.sil 12 [] (.sil 13 [] (.sil 14 [] (.sil 15 [] (.sil 16 [] (.sil 17 [] (.sil 18 [] (.act 19 (.sil 20 [] (.sil 21 [] (.done))))))))))))))))))))))),(23,.sil 0 [] (.sil 1 [] (.sil 2 [] (.sil 3 [] (.sil 4 [] (.sil 5 [] (.sil 6 [] (.sil 7 [] (.sil 8 [] (.sil 9 [] (.sil 10 [] (.sil 11 [] (.sil 12 [] (.sil 13 [] (.sil 14 [] (.sil 15 [] (.sil 16 [] (.sil 17 [] (.sil 18 [] (.sil 19 [] (.sil 20 [] (.sil 21 [] (.sil 22 [] (.sil 23 [] (.sil 24 [] (.act 25 (.sil 26 [] (.sil 27 [] (.sil 28 [] (.sil 29 [] (.sil 30 [] (.sil 31 [] (.sil 32 [] (.act 33 (.sil 34 [] (.sil 35 [] (.sil 36 [] (.sil 37 [] (.sil 38 [] (.sil 39 [] (.sil 40 [] (.sil 41 [] (.done)))))))))))))))))))))))))))))))))))))))))))],[(13,[(14,9),(15,37),(16,4),(18,3),(19,3),(20,3)],[2,3,4,5,11,17])],[(3,[],[1,2,3,4,5]),(9,[],[2,3,4,5,11,12,14,15,16]),(19,[(19,3)],[2,3,4,5,11,14,15,16,17,18,20]),(25,[],[2,4,5,11,14,15,16,17,18,19,21,22,23])]⟩
theorem R.z3 {a:ByteArray} {b:Option Addr} {c d:Nat} {e:Option Addr} {f g:Nat} {i:Int} {j:Int} {k:Int} {l:Option Addr} {m n:Nat} {o:Int} {p:ByteArray} {q:Option Addr} {r s:Nat} {w:World} {K:Value→World→Prop} (h:C.z3 a b c d e f g i j k l m n o p q r s w K):Cv F.z3 #[.agg #[.string a,.slice b c d,.slice e f g,.int .i64 i,.int .i64 j,.int .i64 k],.slice l m n,.int .i64 o,.string p,.slice q r s] w K:=
 RR (an:=An.z3) Go.Proofs.Tryz.func3 (by kernel_rfl) (by kernel_rfl) h
def C.z2 (b:ByteArray) (c:Option Addr) (d e:Nat) (f:Option Addr) (g i:Nat) (j:Int) (k:Int) (l:Int) (m:Option Addr) (n o:Nat) (p:Int) (q:ByteArray) (r:ByteArray) (s:Int) (w:World) (K:Value→World→Prop):Prop:=
 ∀ t u,New w (.cells #[.string b,.slice c d e,.slice f g i,.int .i64 j,.int .i64 k,.int .i64 l] T.api_Schema) t u→
 ∃ v:World→Prop,
 (E6 fun x y z a0 b0 c0 d0 e0 f0 g0=>
 cellsAt u (Addr.mk t 0 none) 0 (L6 x y z a0 b0 c0 d0 e0 f0 g0)∧
 Cv F.z6 #[A6 x y z a0 b0 c0 d0 e0 f0 g0,.slice m n o] u (fun h0 i0=>
 ∃ (j0:Bool),
 h0 = .bool j0∧
 ifB j0 (
 Cv F.z4 #[] i0 (fun k0 l0=>
 ∃ (m0:Bool),
 k0 = .bool m0∧
 K (.bool m0) l0)) (
 ifB (decide ((300:Int) < ((q.size:Nat):Int))) (
 Cv F.z4 #[] i0 (fun n0 o0=>
 ∃ (p0:Bool),
 n0 = .bool p0∧
 K (.bool p0) o0)) (
 ifB (decide ((300:Int) < ((r.size:Nat):Int))) (
 Cv F.z4 #[] i0 (fun q0 r0=>
 ∃ (s0:Bool),
 q0 = .bool s0∧
 K (.bool s0) r0)) (
 E6 fun t0 u0 v0 w0 x0 y0 z0 a1 b1 c1=>
 cellsAt i0 (Addr.mk t 0 none) 0 (L6 t0 u0 v0 w0 x0 y0 z0 a1 b1 c1)∧
 Cv F.z31 #[A6 t0 u0 v0 w0 x0 y0 z0 a1 b1 c1] i0 (fun d1 e1=>
 ∃ (f1:Bool),
 d1 = .bool f1∧
 ifB (!f1) (
 Cv F.z4 #[] e1 (fun g1 h1=>
 ∃ (i1:Bool),
 g1 = .bool i1∧
 K (.bool i1) h1)) (
 Cv F.z4 #[] e1 (fun j1 k1=>
 ∃ (l1:Bool),
 j1 = .bool l1∧
 ifB (!l1) (
 Cv F.z4 #[] k1 (fun m1 n1=>
 ∃ (o1:Bool),
 m1 = .bool o1∧
 K (.bool o1) n1)) (
 v k1)))))))))∧
 (∀ p1,v p1→
 E6 fun q1 r1 s1 t1 u1 v1 w1 x1 y1 z1=>
 cellsAt p1 (Addr.mk t 0 none) 0 (L6 q1 r1 s1 t1 u1 v1 w1 x1 y1 z1)∧
 Cv F.z10 #[A6 q1 r1 s1 t1 u1 v1 w1 x1 y1 z1,.slice m n o] p1 (fun a2 b2=>
 ∃ (c2:Option Addr) (d2:ByteArray) (e2:Option Addr) (f2 g2:Nat) (h2:Option Addr) (i2 j2:Nat) (k2:Int) (l2:Int) (m2:Int) (n2:Option Addr) (o2 p2:Nat) (q2:Bool),
 a2 = .tuple #[.pointer c2,A7 d2 e2 f2 g2 h2 i2 j2 k2 l2 m2 n2 o2 p2,.bool q2]∧
 ∀ r2 s2,New b2 (.cells #[.string (bs []),.slice none 0 0,.slice none 0 0,.int .i64 0,.int .i64 0,.int .i64 0,.slice none 0 0] T.affluxref09_Model) r2 s2→
 Sb r2 0 (.string d2) s2 fun t2=>
 Sb r2 1 (.slice e2 f2 g2) t2 fun u2=>
 Sb r2 2 (.slice h2 i2 j2) u2 fun v2=>
 Sb r2 3 (.int .i64 k2) v2 fun w2=>
 Sb r2 4 (.int .i64 l2) w2 fun x2=>
 Sb r2 5 (.int .i64 m2) x2 fun y2=>
 Sb r2 6 (.slice n2 o2 p2) y2 fun z2=>
 ifB (!q2) (
 K (.bool false) z2) (
 Cv F.z130 #[.pointer c2,.int .i64 p,.string q,.string r,.int .i64 s] z2 (fun a3 b3=>
 Es fun c3 d3 e3=>
 a3 = .slice c3 d3 e3∧
 ∃ f3:World→Prop,
 (ifB (decide (p < (0:Int))) (
 K (.bool (((d3:Nat):Int) == (0:Int))) b3) (
 Es fun g3 h3 i3=>
 b3.cell? ((Addr.mk t 0 none).add 2)=some (.slice g3 h3 i3)∧
 ifB (decide (((h3:Nat):Int)≤p)) (
 K (.bool (((d3:Nat):Int) == (0:Int))) b3) (
 f3 b3)))∧
 (∀ j3,f3 j3→
 E7 fun k3 l3 m3 n3 o3 p3 q3 r3 s3 t3 u3 v3 w3=>
 cellsAt j3 (Addr.mk r2 0 none) 0 (L7 k3 l3 m3 n3 o3 p3 q3 r3 s3 t3 u3 v3 w3)∧
 Cv F.z43 #[A7 k3 l3 m3 n3 o3 p3 q3 r3 s3 t3 u3 v3 w3,.int .i64 p] j3 (fun x3 y3=>
 Es fun z3 a4 b4=>
 x3 = .slice z3 a4 b4∧
 ∃ (c4:Option Addr→Nat→Nat→Int→World→Prop) (d4:Option Addr→Nat→Nat→Int→World→Nat),
 c4 none 0 0 0 y3∧
 ∀ (e4:Option Addr) (f4 g4:Nat) (h4:Int) i4,c4 e4 f4 g4 h4 i4→
 ifB (decide (h4 < ((a4:Nat):Int))) (
 E6 fun j4 k4 l4 m4 n4 o4 p4 q4 r4 s4=>
 cellsAt i4.drew (Addr.mk t 0 none) 0 (L6 j4 k4 l4 m4 n4 o4 p4 q4 r4 s4)∧
 Iq z3 (h4) a4 fun t4=>
 Es fun u4 v4 w4=>
 i4.drew.cell? (t4.add (h4.toNat * 1))=some (.slice u4 v4 w4)∧
 Cv F.z28 #[A6 j4 k4 l4 m4 n4 o4 p4 q4 r4 s4,.int .i64 p,.slice u4 v4 w4] i4.drew (fun x4 y4=>
 ∃ (z4:ByteArray),
 x4 = .string z4∧
 ifB (!sLt z4 q) (
 ifB (sEq r (bs [])) (
 ifB (decide (((f4:Nat):Int) < s)) (
 Iq z3 (h4) a4 fun a5=>
 Es fun b5 c5 d5=>
 y4.cell? (a5.add (h4.toNat * 1))=some (.slice b5 c5 d5)∧
 ∀ e5 f5,New y4 (.cells #[.slice b5 c5 d5] T.s_api_Value) e5 f5→
 BuiltV prog .append #[T.s_s_api_Value,T.s_s_api_Value] T.s_s_api_Value #[.slice e4 f4 g4,.slice (some (Addr.mk e5 0 none)) 1 1] f5 (fun g5 h5=>
 Es fun i5 j5 k5=>
 g5 = .slice i5 j5 k5∧
 c4 i5 j5 k5 (IntKind.i64.wrap (h4+(1:Int))) h5∧d4 i5 j5 k5 (IntKind.i64.wrap (h4+(1:Int))) h5 < d4 e4 f4 g4 h4 i4)) (
 c4 e4 f4 g4 (IntKind.i64.wrap (h4+(1:Int))) y4∧d4 e4 f4 g4 (IntKind.i64.wrap (h4+(1:Int))) y4 < d4 e4 f4 g4 h4 i4)) (
 ifB (sLt z4 r) (
 ifB (decide (((f4:Nat):Int) < s)) (
 Iq z3 (h4) a4 fun l5=>
 Es fun m5 n5 o5=>
 y4.cell? (l5.add (h4.toNat * 1))=some (.slice m5 n5 o5)∧
 ∀ p5 q5,New y4 (.cells #[.slice m5 n5 o5] T.s_api_Value) p5 q5→
 BuiltV prog .append #[T.s_s_api_Value,T.s_s_api_Value] T.s_s_api_Value #[.slice e4 f4 g4,.slice (some (Addr.mk p5 0 none)) 1 1] q5 (fun r5 s5=>
 Es fun t5 u5 v5=>
 r5 = .slice t5 u5 v5∧
 c4 t5 u5 v5 (IntKind.i64.wrap (h4+(1:Int))) s5∧d4 t5 u5 v5 (IntKind.i64.wrap (h4+(1:Int))) s5 < d4 e4 f4 g4 h4 i4)) (
 c4 e4 f4 g4 (IntKind.i64.wrap (h4+(1:Int))) y4∧d4 e4 f4 g4 (IntKind.i64.wrap (h4+(1:Int))) y4 < d4 e4 f4 g4 h4 i4)) (
 c4 e4 f4 g4 (IntKind.i64.wrap (h4+(1:Int))) y4∧d4 e4 f4 g4 (IntKind.i64.wrap (h4+(1:Int))) y4 < d4 e4 f4 g4 h4 i4))) (
 c4 e4 f4 g4 (IntKind.i64.wrap (h4+(1:Int))) y4∧d4 e4 f4 g4 (IntKind.i64.wrap (h4+(1:Int))) y4 < d4 e4 f4 g4 h4 i4))) (
 Cv F.z38 #[.slice c3 d3 e3,.slice e4 f4 g4] i4 (fun w5 x5=>
 ∃ (y5:Bool),
 w5 = .bool y5∧
 K (.bool y5) x5))))))))
def An.z2:Ann:=⟨[(14,.sil 0 [] (.sil 1 [] (.sil 2 [] (.sil 3 [] (.sil 4 [] (.sil 5 [] (.act 6 (.sil 7 [] (.done)))))))))],[(12,[(17,32),(19,3)],[2,3,4,5,6,16,18])],[(3,[],[1,2,3,4,5,6]),(9,[],[2,3,4,5,6,14,16])]⟩
theorem R.z2 {a:ByteArray} {b:Option Addr} {c d:Nat} {e:Option Addr} {f g:Nat} {i:Int} {j:Int} {k:Int} {l:Option Addr} {m n:Nat} {o:Int} {p:ByteArray} {q:ByteArray} {r:Int} {w:World} {K:Value→World→Prop} (h:C.z2 a b c d e f g i j k l m n o p q r w K):Cv F.z2 #[.agg #[.string a,.slice b c d,.slice e f g,.int .i64 i,.int .i64 j,.int .i64 k],.slice l m n,.int .i64 o,.string p,.string q,.int .i64 r] w K:=
 RR (an:=An.z2) Go.Proofs.Tryz.func4 (by kernel_rfl) (by kernel_rfl) h
def C.z1 (b:ByteArray) (c:Option Addr) (d e:Nat) (f:Option Addr) (g i:Nat) (j:Int) (k:Int) (l:Int) (m:Option Addr) (n o:Nat) (w:World) (K:Value→World→Prop):Prop:=
 ∀ p q,New w (.cells #[.string b,.slice c d e,.slice f g i,.int .i64 j,.int .i64 k,.int .i64 l] T.api_Schema) p q→
 ∃ r:World→Prop,
 (E6 fun s t u v x y z a0 b0 c0=>
 cellsAt q (Addr.mk p 0 none) 0 (L6 s t u v x y z a0 b0 c0)∧
 Cv F.z6 #[A6 s t u v x y z a0 b0 c0,.slice m n o] q (fun d0 e0=>
 ∃ (f0:Bool),
 d0 = .bool f0∧
 ifB f0 (
 Cv F.z4 #[] e0 (fun g0 h0=>
 ∃ (i0:Bool),
 g0 = .bool i0∧
 K (.bool i0) h0)) (
 E6 fun j0 k0 l0 m0 n0 o0 p0 q0 r0 s0=>
 cellsAt e0 (Addr.mk p 0 none) 0 (L6 j0 k0 l0 m0 n0 o0 p0 q0 r0 s0)∧
 Cv F.z31 #[A6 j0 k0 l0 m0 n0 o0 p0 q0 r0 s0] e0 (fun t0 u0=>
 ∃ (v0:Bool),
 t0 = .bool v0∧
 ifB (!v0) (
 Cv F.z4 #[] u0 (fun w0 x0=>
 ∃ (y0:Bool),
 w0 = .bool y0∧
 K (.bool y0) x0)) (
 Cv F.z4 #[] u0 (fun z0 a1=>
 ∃ (b1:Bool),
 z0 = .bool b1∧
 ifB (!b1) (
 Cv F.z4 #[] a1 (fun c1 d1=>
 ∃ (e1:Bool),
 c1 = .bool e1∧
 K (.bool e1) d1)) (
 r a1)))))))∧
 (∀ f1,r f1→
 E6 fun g1 h1 i1 j1 k1 l1 m1 n1 o1 p1=>
 cellsAt f1 (Addr.mk p 0 none) 0 (L6 g1 h1 i1 j1 k1 l1 m1 n1 o1 p1)∧
 Cv F.z10 #[A6 g1 h1 i1 j1 k1 l1 m1 n1 o1 p1,.slice m n o] f1 (fun q1 r1=>
 ∃ (s1:Option Addr) (t1:ByteArray) (u1:Option Addr) (v1 w1:Nat) (x1:Option Addr) (y1 z1:Nat) (a2:Int) (b2:Int) (c2:Int) (d2:Option Addr) (e2 f2:Nat) (g2:Bool),
 q1 = .tuple #[.pointer s1,A7 t1 u1 v1 w1 x1 y1 z1 a2 b2 c2 d2 e2 f2,.bool g2]∧
 ∀ h2 i2,New r1 (.cells #[.string (bs []),.slice none 0 0,.slice none 0 0,.int .i64 0,.int .i64 0,.int .i64 0,.slice none 0 0] T.affluxref09_Model) h2 i2→
 Sb h2 0 (.string t1) i2 fun j2=>
 Sb h2 1 (.slice u1 v1 w1) j2 fun k2=>
 Sb h2 2 (.slice x1 y1 z1) k2 fun l2=>
 Sb h2 3 (.int .i64 a2) l2 fun m2=>
 Sb h2 4 (.int .i64 b2) m2 fun n2=>
 Sb h2 5 (.int .i64 c2) n2 fun o2=>
 Sb h2 6 (.slice d2 e2 f2) o2 fun p2=>
 ifB (!g2) (
 K (.bool false) p2) (
 ∃ (q2:Int→World→Prop) (r2:Int→World→Nat),
 q2 0 p2∧
 ∀ (s2:Int) t2,q2 s2 t2→
 Es fun u2 v2 w2=>
 t2.cell? ((Addr.mk p 0 none).add 2)=some (.slice u2 v2 w2)∧
 ifB (decide (s2 < ((v2:Nat):Int))) (
 Cv F.z130 #[.pointer s1,.int .i64 s2,.string (bs []),.string (bs []),.int .i64 2000] t2 (fun x2 y2=>
 Es fun z2 a3 b3=>
 x2 = .slice z2 a3 b3∧
 Cv F.z126 #[.pointer s1] y2 (fun c3 d3=>
 ∃ (e3:Int),
 c3 = .int .i64 e3∧
 ifB (((a3:Nat):Int) != e3) (
 K (.bool false) d3) (
 ∃ (f3:Int→World→Prop) (g3:Int→World→Nat),
 f3 0 d3∧
 ∀ (h3:Int) i3,f3 h3 i3→
 ifB (decide (h3 < ((a3:Nat):Int))) (
 Iq z2 (h3) a3 fun j3=>
 Es fun k3 l3 m3=>
 i3.cell? (j3.add (h3.toNat * 1))=some (.slice k3 l3 m3)∧
 Cv F.z125 #[.pointer s1,.slice k3 l3 m3] i3 (fun n3 o3=>
 ∃ (p3:ByteArray) (q3:Int),
 n3 = .tuple #[.string p3,.int .i64 q3]∧
 Cv F.z122 #[.pointer s1,.string p3] o3 (fun r3 s3=>
 ∃ (t3:Option Addr) (u3 v3:Nat) (w3:Bool),
 r3 = .tuple #[.slice t3 u3 v3,.bool w3]∧
 ifB (q3 != (0:Int)) (
 K (.bool false) s3) (
 ifB (!w3) (
 K (.bool false) s3) (
 Iq z2 (h3) a3 fun x3=>
 Es fun y3 z3 a4=>
 s3.cell? (x3.add (h3.toNat * 1))=some (.slice y3 z3 a4)∧
 Cv F.z24 #[.slice t3 u3 v3,.slice y3 z3 a4] s3 (fun b4 c4=>
 ∃ (d4:Bool),
 b4 = .bool d4∧
 ifB (!d4) (
 K (.bool false) c4) (
 f3 (IntKind.i64.wrap (h3+(1:Int))) c4∧g3 (IntKind.i64.wrap (h3+(1:Int))) c4 < g3 h3 i3))))))) (
 q2 (IntKind.i64.wrap (s2+(1:Int))) i3∧r2 (IntKind.i64.wrap (s2+(1:Int))) i3 < r2 s2 t2))))) (
 K (.bool true) t2))))
def An.z1:Ann:=⟨[],[(7,[(8,3)],[2,5]),(13,[(10,3)],[2,5,8,9])],[(3,[],[1,2])]⟩
theorem R.z1 {a:ByteArray} {b:Option Addr} {c d:Nat} {e:Option Addr} {f g:Nat} {i:Int} {j:Int} {k:Int} {l:Option Addr} {m n:Nat} {w:World} {K:Value→World→Prop} (h:C.z1 a b c d e f g i j k l m n w K):Cv F.z1 #[.agg #[.string a,.slice b c d,.slice e f g,.int .i64 i,.int .i64 j,.int .i64 k],.slice l m n] w K:=
 RR (an:=An.z1) Go.Proofs.Tryz.func5 (by kernel_rfl) (by kernel_rfl) h
def C.z0 (b:ByteArray) (c:Option Addr) (d e:Nat) (f:Option Addr) (g i:Nat) (j:Int) (k:Int) (l:Int) (m:Option Addr) (n o:Nat) (p:ByteArray) (w:World) (K:Value→World→Prop):Prop:=
 ∀ q r,New w (.cells #[.string b,.slice c d e,.slice f g i,.int .i64 j,.int .i64 k,.int .i64 l] T.api_Schema) q r→
 ∃ s:World→Prop,
 (E6 fun t u v x y z a0 b0 c0 d0=>
 cellsAt r (Addr.mk q 0 none) 0 (L6 t u v x y z a0 b0 c0 d0)∧
 Cv F.z6 #[A6 t u v x y z a0 b0 c0 d0,.slice m n o] r (fun e0 f0=>
 ∃ (g0:Bool),
 e0 = .bool g0∧
 ifB g0 (
 Cv F.z4 #[] f0 (fun h0 i0=>
 ∃ (j0:Bool),
 h0 = .bool j0∧
 K (.bool j0) i0)) (
 ifB (decide ((300:Int) < ((p.size:Nat):Int))) (
 Cv F.z4 #[] f0 (fun k0 l0=>
 ∃ (m0:Bool),
 k0 = .bool m0∧
 K (.bool m0) l0)) (
 Cv F.z4 #[] f0 (fun n0 o0=>
 ∃ (p0:Bool),
 n0 = .bool p0∧
 ifB (!p0) (
 Cv F.z4 #[] o0 (fun q0 r0=>
 ∃ (s0:Bool),
 q0 = .bool s0∧
 K (.bool s0) r0)) (
 s o0))))))∧
 (∀ t0,s t0→
 E6 fun u0 v0 w0 x0 y0 z0 a1 b1 c1 d1=>
 cellsAt t0 (Addr.mk q 0 none) 0 (L6 u0 v0 w0 x0 y0 z0 a1 b1 c1 d1)∧
 Cv F.z31 #[A6 u0 v0 w0 x0 y0 z0 a1 b1 c1 d1] t0 (fun e1 f1=>
 ∃ (g1:Bool),
 e1 = .bool g1∧
 ifB (!g1) (
 E6 fun h1 i1 j1 k1 l1 m1 n1 o1 p1 q1=>
 cellsAt f1 (Addr.mk q 0 none) 0 (L6 h1 i1 j1 k1 l1 m1 n1 o1 p1 q1)∧
 Cv F.z118 #[A6 h1 i1 j1 k1 l1 m1 n1 o1 p1 q1] f1 (fun r1 s1=>
 ∃ (t1:Option Addr) (u1:Int),
 r1 = .tuple #[.pointer t1,.int .i64 u1]∧
 ifB t1.isNone (
 K (.bool (u1 == (1:Int))) s1) (
 K (.bool false) s1))) (
 E6 fun v1 w1 x1 y1 z1 a2 b2 c2 d2 e2=>
 cellsAt f1 (Addr.mk q 0 none) 0 (L6 v1 w1 x1 y1 z1 a2 b2 c2 d2 e2)∧
 Cv F.z10 #[A6 v1 w1 x1 y1 z1 a2 b2 c2 d2 e2,.slice m n o] f1 (fun f2 g2=>
 ∃ (h2:Option Addr) (i2:ByteArray) (j2:Option Addr) (k2 l2:Nat) (m2:Option Addr) (n2 o2:Nat) (p2:Int) (q2:Int) (r2:Int) (s2:Option Addr) (t2 u2:Nat) (v2:Bool),
 f2 = .tuple #[.pointer h2,A7 i2 j2 k2 l2 m2 n2 o2 p2 q2 r2 s2 t2 u2,.bool v2]∧
 ∀ w2 x2,New g2 (.cells #[.string (bs []),.slice none 0 0,.slice none 0 0,.int .i64 0,.int .i64 0,.int .i64 0,.slice none 0 0] T.affluxref09_Model) w2 x2→
 Sb w2 0 (.string i2) x2 fun y2=>
 Sb w2 1 (.slice j2 k2 l2) y2 fun z2=>
 Sb w2 2 (.slice m2 n2 o2) z2 fun a3=>
 Sb w2 3 (.int .i64 p2) a3 fun b3=>
 Sb w2 4 (.int .i64 q2) b3 fun c3=>
 Sb w2 5 (.int .i64 r2) c3 fun d3=>
 Sb w2 6 (.slice s2 t2 u2) d3 fun e3=>
 ∃ f3:World→Prop,
 (ifB (!v2) (
 K (.bool false) e3.drew) (
 E6 fun g3 h3 i3 j3 k3 l3 m3 n3 o3 p3=>
 cellsAt e3.drew (Addr.mk q 0 none) 0 (L6 g3 h3 i3 j3 k3 l3 m3 n3 o3 p3)∧
 Cv F.z131 #[.pointer h2] e3.drew (fun q3 r3=>
 E6 fun s3 t3 u3 v3 w3 x3 y3 z3 a4 b4=>
 q3=A6 s3 t3 u3 v3 w3 x3 y3 z3 a4 b4∧
 cellsAt r3 (Addr.mk q 0 none) 0 (L6 g3 h3 i3 j3 k3 l3 m3 n3 o3 p3)∧
 Cv F.z32 #[A6 s3 t3 u3 v3 w3 x3 y3 z3 a4 b4,A6 g3 h3 i3 j3 k3 l3 m3 n3 o3 p3] r3 (fun c4 d4=>
 ∃ (e4:Bool),
 c4 = .bool e4∧
 ifB (!e4) (
 K (.bool false) d4) (
 Es fun f4 g4 h4=>
 d4.cell? ((Addr.mk w2 0 none).add 6)=some (.slice f4 g4 h4)∧
 Cv F.z129 #[.pointer h2,.slice none 0 0] d4 (fun i4 j4=>
 Es fun k4 l4 m4=>
 i4 = .slice k4 l4 m4∧
 j4.cell? ((Addr.mk w2 0 none).add 6)=some (.slice f4 g4 h4)∧
 Cv F.z38 #[.slice k4 l4 m4,.slice f4 g4 h4] j4 (fun n4 o4=>
 ∃ (p4:Bool),
 n4 = .bool p4∧
 ifB (!p4) (
 K (.bool false) o4) (
 Es fun q4 r4 s4=>
 o4.cell? ((Addr.mk w2 0 none).add 6)=some (.slice q4 r4 s4)∧
 Cv F.z119 #[.pointer h2] o4 (fun t4 u4=>
 ∃ (v4:ByteArray),
 t4 = .string v4∧
 u4.cell? ((Addr.mk w2 0 none).add 6)=some (.slice q4 r4 s4)∧
 Cv F.z37 #[.slice q4 r4 s4] u4 (fun w4 x4=>
 ∃ (y4:ByteArray),
 w4 = .string y4∧
 ifB (!sEq v4 y4) (
 K (.bool false) x4) (
 f3 x4)))))))))))∧
 (∀ z4,f3 z4→
 ∃ (a5:Int→World→Prop) (b5:Int→World→Nat),
 a5 0 z4∧
 ∀ (c5:Int) d5,a5 c5 d5→
 Es fun e5 f5 g5=>
 d5.cell? ((Addr.mk w2 0 none).add 6)=some (.slice e5 f5 g5)∧
 ifB (decide (c5 < ((f5:Nat):Int))) (
 Es fun h5 i5 j5=>
 d5.cell? ((Addr.mk w2 0 none).add 6)=some (.slice h5 i5 j5)∧
 Iq h5 (c5) i5 fun k5=>
 Es fun l5 m5 n5=>
 d5.cell? (k5.add (c5.toNat * 1))=some (.slice l5 m5 n5)∧
 Cv F.z125 #[.pointer h2,.slice l5 m5 n5] d5 (fun o5 p5=>
 ∃ (q5:ByteArray) (r5:Int),
 o5 = .tuple #[.string q5,.int .i64 r5]∧
 Cv F.z122 #[.pointer h2,.string q5] p5 (fun s5 t5=>
 ∃ (u5:Option Addr) (v5 w5:Nat) (x5:Bool),
 s5 = .tuple #[.slice u5 v5 w5,.bool x5]∧
 ifB (r5 != (0:Int)) (
 K (.bool false) t5) (
 ifB (!x5) (
 K (.bool false) t5) (
 Es fun y5 z5 a6=>
 t5.cell? ((Addr.mk w2 0 none).add 6)=some (.slice y5 z5 a6)∧
 Iq y5 (c5) z5 fun b6=>
 Es fun c6 d6 e6=>
 t5.cell? (b6.add (c5.toNat * 1))=some (.slice c6 d6 e6)∧
 Cv F.z24 #[.slice u5 v5 w5,.slice c6 d6 e6] t5 (fun f6 g6=>
 ∃ (h6:Bool),
 f6 = .bool h6∧
 ifB (!h6) (
 K (.bool false) g6) (
 a5 (IntKind.i64.wrap (c5+(1:Int))) g6∧b5 (IntKind.i64.wrap (c5+(1:Int))) g6 < b5 c5 d5))))))) (
 Cv F.z122 #[.pointer h2,.string p] d5 (fun i6 j6=>
 ∃ (k6:Option Addr) (l6 m6:Nat) (n6:Bool),
 i6 = .tuple #[.slice k6 l6 m6,.bool n6]∧
 E7 fun o6 p6 q6 r6 s6 t6 u6 v6 w6 x6 y6 z6 a7=>
 cellsAt j6 (Addr.mk w2 0 none) 0 (L7 o6 p6 q6 r6 s6 t6 u6 v6 w6 x6 y6 z6 a7)∧
 Cv F.z45 #[A7 o6 p6 q6 r6 s6 t6 u6 v6 w6 x6 y6 z6 a7,.string p] j6 (fun b7 c7=>
 ∃ (d7:Int),
 b7 = .int .i64 d7∧
 ifB (n6 == (decide ((0:Int)≤d7))) (
 ifB n6 (
 K (.bool true) c7) (
 K (.bool (((l6:Nat):Int) == (0:Int))) c7)) (
 K (.bool false) c7)))))))))
def An.z0:Ann:=⟨[(7,.sil 0 [] (.sil 1 [] (.sil 2 [] (.sil 3 [] (.sil 5 [4] (.act 4 (.act 6 (.sil 7 [] (.sil 8 [] (.sil 9 [] (.sil 10 [] (.sil 12 [] (.sil 13 [11] (.act 11 (.act 14 (.sil 15 [] (.sil 16 [] (.sil 17 [] (.sil 18 [] (.sil 20 [] (.sil 21 [19] (.act 19 (.act 22 (.sil 23 [] (.sil 24 [] (.done))))))))))))))))))))))))))],[(10,[(12,3)],[2,9,10])],[(3,[],[1,2,3]),(9,[],[2,3,9,10,11])]⟩
theorem R.z0 {a:ByteArray} {b:Option Addr} {c d:Nat} {e:Option Addr} {f g:Nat} {i:Int} {j:Int} {k:Int} {l:Option Addr} {m n:Nat} {o:ByteArray} {w:World} {K:Value→World→Prop} (h:C.z0 a b c d e f g i j k l m n o w K):Cv F.z0 #[.agg #[.string a,.slice b c d,.slice e f g,.int .i64 i,.int .i64 j,.int .i64 k],.slice l m n,.string o] w K:=
 RR (an:=An.z0) Go.Proofs.Tryz.func9 (by kernel_rfl) (by kernel_rfl) h
def C.z6 (b:ByteArray) (c:Option Addr) (d e:Nat) (f:Option Addr) (g i:Nat) (j:Int) (k:Int) (l:Int) (m:Option Addr) (n o:Nat) (w:World) (K:Value→World→Prop):Prop:=
 ∀ p q,New w (.cells #[.string b,.slice c d e,.slice f g i,.int .i64 j,.int .i64 k,.int .i64 l] T.api_Schema) p q→
 E6 fun r s t u v x y z a0 b0=>
 cellsAt q (Addr.mk p 0 none) 0 (L6 r s t u v x y z a0 b0)∧
 Cv F.z27 #[A6 r s t u v x y z a0 b0] q (fun c0 d0=>
 ∃ (e0:Bool),
 c0 = .bool e0∧
 ifB e0 (
 K (.bool true) d0) (
 ifB (decide ((40:Int) < ((n:Nat):Int))) (
 K (.bool true) d0) (
 ∃ (f0:Int→World→Prop) (g0:Int→World→Nat),
 f0 0 d0∧
 ∀ (h0:Int) i0,f0 h0 i0→
 ifB (decide (h0 < ((n:Nat):Int))) (
 Iq m (h0) n fun j0=>
 Es fun k0 l0 m0=>
 i0.cell? ((j0.add (h0.toNat * 5)).add 3)=some (.slice k0 l0 m0)∧
 Cv F.z20 #[.slice k0 l0 m0] i0 (fun n0 o0=>
 ∃ (p0:Bool),
 n0 = .bool p0∧
 ifB p0 (
 K (.bool true) o0) (
 Iq m (h0) n fun q0=>
 Es fun r0 s0 t0=>
 o0.cell? ((q0.add (h0.toNat * 5)).add 4)=some (.slice r0 s0 t0)∧
 Cv F.z34 #[.slice r0 s0 t0] o0 (fun u0 v0=>
 ∃ (w0:Bool),
 u0 = .bool w0∧
 ifB w0 (
 K (.bool true) v0) (
 Iq m (h0) n fun x0=>
 ∃ (y0:ByteArray),
 v0.cell? ((x0.add (h0.toNat * 5)).add 2)=some (.string y0)∧
 ifB (decide ((300:Int) < ((y0.size:Nat):Int))) (
 K (.bool true) v0) (
 f0 (IntKind.i64.wrap (h0+(1:Int))) v0∧g0 (IntKind.i64.wrap (h0+(1:Int))) v0 < g0 h0 i0)))))) (
 K (.bool false) i0))))
def An.z6:Ann:=⟨[],[(4,[(5,3)],[1])],[]⟩
theorem R.z6 {a:ByteArray} {b:Option Addr} {c d:Nat} {e:Option Addr} {f g:Nat} {i:Int} {j:Int} {k:Int} {l:Option Addr} {m n:Nat} {w:World} {K:Value→World→Prop} (h:C.z6 a b c d e f g i j k l m n w K):Cv F.z6 #[.agg #[.string a,.slice b c d,.slice e f g,.int .i64 i,.int .i64 j,.int .i64 k],.slice l m n] w K:=
 RR (an:=An.z6) Go.Proofs.Tryz.func11 (by kernel_rfl) (by kernel_rfl) h
def C.z31 (b:ByteArray) (c:Option Addr) (d e:Nat) (f:Option Addr) (g i:Nat) (j:Int) (k:Int) (l:Int) (w:World) (K:Value→World→Prop):Prop:=
 ∀ m n,New w (.cells #[.string b,.slice c d e,.slice f g i,.int .i64 j,.int .i64 k,.int .i64 l] T.api_Schema) m n→
 Es fun o p q=>
 n.cell? ((Addr.mk m 0 none).add 1)=some (.slice o p q)∧
 ∃ r:World→Prop,
 (∃ (s:ByteArray),
 n.cell? ((Addr.mk m 0 none).add 0)=some (.string s)∧
 Cv F.z29 #[.string s] n (fun t u=>
 ∃ (v:Bool),
 t = .bool v∧
 ifB (!v) (
 K (.bool false) u) (
 ifB (decide (((p:Nat):Int) < (1:Int))) (
 K (.bool false) u) (
 ifB (decide ((8:Int) < ((p:Nat):Int))) (
 K (.bool false) u) (
 Es fun x y z=>
 u.cell? ((Addr.mk m 0 none).add 2)=some (.slice x y z)∧
 ifB (decide (((y:Nat):Int) < (1:Int))) (
 K (.bool false) u) (
 Es fun a0 b0 c0=>
 u.cell? ((Addr.mk m 0 none).add 2)=some (.slice a0 b0 c0)∧
 ifB (decide ((4:Int) < ((b0:Nat):Int))) (
 K (.bool false) u) (
 ∃ (d0:Int),
 u.cell? ((Addr.mk m 0 none).add 3)=some (.int .i64 d0)∧
 ifB (decide (d0 < (1:Int))) (
 K (.bool false) u) (
 ∃ (e0:Int),
 u.cell? ((Addr.mk m 0 none).add 3)=some (.int .i64 e0)∧
 ifB (decide ((1000:Int) < e0)) (
 K (.bool false) u) (
 ∃ (f0:Int),
 u.cell? ((Addr.mk m 0 none).add 4)=some (.int .i64 f0)∧
 ifB (decide (f0 < (1:Int))) (
 K (.bool false) u) (
 ∃ (g0:Int),
 u.cell? ((Addr.mk m 0 none).add 4)=some (.int .i64 g0)∧
 ifB (decide ((8:Int) < g0)) (
 K (.bool false) u) (
 ∃ (h0:Int),
 u.cell? ((Addr.mk m 0 none).add 5)=some (.int .i64 h0)∧
 ifB (decide (h0 < (0:Int))) (
 K (.bool false) u) (
 ∃ (i0:Int),
 u.cell? ((Addr.mk m 0 none).add 5)=some (.int .i64 i0)∧
 ifB (decide (((p:Nat):Int)≤i0)) (
 K (.bool false) u) (
 Es fun j0 k0 l0=>
 u.cell? ((Addr.mk m 0 none).add 2)=some (.slice j0 k0 l0)∧
 Iq j0 ((0:Int)) k0 fun m0=>
 ∃ (n0:Bool),
 u.cell? ((m0.add ((0:Int).toNat * 2)).add 1)=some (.bool n0)∧
 ifB (!n0) (
 K (.bool false) u) (
 r u))))))))))))))∧
 (∀ o0,r o0→
 ∃ (p0:Int→World→Prop) (q0:Int→World→Nat),
 p0 0 o0∧
 ∀ (r0:Int) s0,p0 r0 s0→
 ifB (decide (r0 < ((p:Nat):Int))) (
 Es fun t0 u0 v0=>
 s0.cell? ((Addr.mk m 0 none).add 1)=some (.slice t0 u0 v0)∧
 Iq t0 (r0) u0 fun w0=>
 ∃ (x0:ByteArray),
 s0.cell? ((w0.add (r0.toNat * 2)).add 0)=some (.string x0)∧
 Cv F.z29 #[.string x0] s0 (fun y0 z0=>
 ∃ (a1:Bool),
 y0 = .bool a1∧
 ifB (!a1) (
 K (.bool false) z0) (
 Es fun b1 c1 d1=>
 z0.cell? ((Addr.mk m 0 none).add 1)=some (.slice b1 c1 d1)∧
 Iq b1 (r0) c1 fun e1=>
 ∃ (f1:Int),
 z0.cell? ((e1.add (r0.toNat * 2)).add 1)=some (.int .i64 f1)∧
 ifB (decide (f1 < (1:Int))) (
 K (.bool false) z0) (
 Es fun g1 h1 i1=>
 z0.cell? ((Addr.mk m 0 none).add 1)=some (.slice g1 h1 i1)∧
 Iq g1 (r0) h1 fun j1=>
 ∃ (k1:Int),
 z0.cell? ((j1.add (r0.toNat * 2)).add 1)=some (.int .i64 k1)∧
 ifB (decide ((3:Int) < k1)) (
 K (.bool false) z0) (
 ∃ (l1:Int→World→Prop) (m1:Int→World→Nat),
 l1 0 z0∧
 ∀ (n1:Int) o1,l1 n1 o1→
 ifB (decide (n1 < r0)) (
 Es fun p1 q1 r1=>
 o1.drew.cell? ((Addr.mk m 0 none).add 1)=some (.slice p1 q1 r1)∧
 Iq p1 (n1) q1 fun s1=>
 ∃ (t1:ByteArray),
 o1.drew.cell? ((s1.add (n1.toNat * 2)).add 0)=some (.string t1)∧
 Es fun u1 v1 w1=>
 o1.drew.cell? ((Addr.mk m 0 none).add 1)=some (.slice u1 v1 w1)∧
 Iq u1 (r0) v1 fun x1=>
 ∃ (y1:ByteArray),
 o1.drew.cell? ((x1.add (r0.toNat * 2)).add 0)=some (.string y1)∧
 ifB (sEq t1 y1) (
 K (.bool false) o1.drew) (
 l1 (IntKind.i64.wrap (n1+(1:Int))) o1.drew∧m1 (IntKind.i64.wrap (n1+(1:Int))) o1.drew < m1 n1 o1)) (
 p0 (IntKind.i64.wrap (r0+(1:Int))) o1∧q0 (IntKind.i64.wrap (r0+(1:Int))) o1 < q0 r0 s0)))))) (
 ∃ (z1:Int→World→Prop) (a2:Int→World→Nat),
 z1 0 s0∧
 ∀ (b2:Int) c2,z1 b2 c2→
 Es fun d2 e2 f2=>
 c2.cell? ((Addr.mk m 0 none).add 2)=some (.slice d2 e2 f2)∧
 ifB (decide (b2 < ((e2:Nat):Int))) (
 Es fun g2 h2 i2=>
 c2.cell? ((Addr.mk m 0 none).add 2)=some (.slice g2 h2 i2)∧
 Iq g2 (b2) h2 fun j2=>
 Es fun k2 l2 m2=>
 c2.cell? ((j2.add (b2.toNat * 2)).add 0)=some (.slice k2 l2 m2)∧
 ∃ n2:World→Prop,
 (ifB (decide (((l2:Nat):Int) < (1:Int))) (
 K (.bool false) c2) (
 ifB (decide ((8:Int) < ((l2:Nat):Int))) (
 K (.bool false) c2) (
 n2 c2)))∧
 (∀ o2,n2 o2→
 ∃ (p2:Int→World→Prop) (q2:Int→World→Nat),
 p2 0 o2∧
 ∀ (r2:Int) s2,p2 r2 s2→
 ifB (decide (r2 < ((l2:Nat):Int))) (
 Iq k2 (r2) l2 fun t2=>
 ∃ (u2:Int),
 s2.cell? (t2.add (r2.toNat * 1))=some (.int .i64 u2)∧
 ifB (decide (u2 < (0:Int))) (
 K (.bool false) s2) (
 Iq k2 (r2) l2 fun v2=>
 ∃ (w2:Int),
 s2.cell? (v2.add (r2.toNat * 1))=some (.int .i64 w2)∧
 ifB (decide (((p:Nat):Int)≤w2)) (
 K (.bool false) s2) (
 ∃ (x2:Int→World→Prop) (y2:Int→World→Nat),
 x2 0 s2∧
 ∀ (z2:Int) a3,x2 z2 a3→
 ifB (decide (z2 < r2)) (
 Iq k2 (z2) l2 fun b3=>
 ∃ (c3:Int),
 a3.drew.cell? (b3.add (z2.toNat * 1))=some (.int .i64 c3)∧
 Iq k2 (r2) l2 fun d3=>
 ∃ (e3:Int),
 a3.drew.cell? (d3.add (r2.toNat * 1))=some (.int .i64 e3)∧
 ifB (c3 == e3) (
 K (.bool false) a3.drew) (
 x2 (IntKind.i64.wrap (z2+(1:Int))) a3.drew∧y2 (IntKind.i64.wrap (z2+(1:Int))) a3.drew < y2 z2 a3)) (
 p2 (IntKind.i64.wrap (r2+(1:Int))) a3∧q2 (IntKind.i64.wrap (r2+(1:Int))) a3 < q2 r2 s2)))) (
 ∃ (f3:Int→World→Prop) (g3:Int→World→Nat),
 f3 0 s2∧
 ∀ (h3:Int) i3,f3 h3 i3→
 ifB (decide (h3 < b2)) (
 Es fun j3 k3 l3=>
 i3.cell? ((Addr.mk m 0 none).add 2)=some (.slice j3 k3 l3)∧
 Iq j3 (h3) k3 fun m3=>
 Es fun n3 o3 p3=>
 i3.cell? ((m3.add (h3.toNat * 2)).add 0)=some (.slice n3 o3 p3)∧
 Cv F.z33 #[.slice n3 o3 p3,.slice k2 l2 m2] i3 (fun q3 r3=>
 ∃ (s3:Bool),
 q3 = .bool s3∧
 ifB s3 (
 K (.bool false) r3) (
 f3 (IntKind.i64.wrap (h3+(1:Int))) r3∧g3 (IntKind.i64.wrap (h3+(1:Int))) r3 < g3 h3 i3))) (
 z1 (IntKind.i64.wrap (b2+(1:Int))) i3∧a2 (IntKind.i64.wrap (b2+(1:Int))) i3 < a2 b2 c2)))) (
 K (.bool true) c2)))
def An.z31:Ann:=⟨[(12,.sil 0 [] (.sil 1 [] (.sil 2 [] (.sil 3 [] (.sil 4 [] (.sil 5 [] (.sil 6 [] (.sil 7 [] (.sil 8 [] (.sil 9 [] (.sil 10 [] (.sil 11 [] (.sil 12 [] (.done)))))))))))))),(28,.sil 0 [] (.sil 1 [] (.sil 2 [] (.sil 3 [] (.sil 4 [] (.sil 5 [] (.sil 6 [] (.sil 7 [] (.sil 8 [] (.done))))))))))],[(5,[(4,3)],[1,3]),(10,[(5,3)],[1,3,4]),(15,[(6,3)],[1,3]),(21,[(8,3)],[1,3,6,7]),(26,[(9,3)],[1,3,6,7,8]),(31,[(10,3)],[1,3,6,7])],[(4,[],[1,3]),(20,[],[1,3,6,7])]⟩
theorem R.z31 {a:ByteArray} {b:Option Addr} {c d:Nat} {e:Option Addr} {f g:Nat} {i:Int} {j:Int} {k:Int} {w:World} {K:Value→World→Prop} (h:C.z31 a b c d e f g i j k w K):Cv F.z31 #[.agg #[.string a,.slice b c d,.slice e f g,.int .i64 i,.int .i64 j,.int .i64 k]] w K:=
 RR (an:=An.z31) Go.Proofs.Tryz.func12 (by kernel_rfl) (by kernel_rfl) h
def C.z4  (w:World) (K:Value→World→Prop):Prop:=
 Cv F.z9 #[] w (fun b c=>
 E6 fun d e f g i j k l m n=>
 b=A6 d e f g i j k l m n∧
 Cv F.z118 #[A6 d e f g i j k l m n] c (fun o p=>
 ∃ (q:Option Addr) (r:Int),
 o = .tuple #[.pointer q,.int .i64 r]∧
 ∀ s t,New p (.cells #[.int .i64 0,.int .i64 0,.string (bs [])] T.api_Value) s t→
 Sb s 0 (.int .i64 2) t fun u=>
 Sb s 1 (.int .i64 0) u fun v=>
 Sb s 2 (.string (bs [120])) v fun x=>
 ∃ (y:Int) (z:Int) (a0:ByteArray),
 cellsAt x (Addr.mk s 0 none) 0 [.int .i64 y,.int .i64 z,.string a0]∧
 ∀ b0 c0,New x (.cells #[.int .i64 1,.int .i64 1,.string (bs []),.int .i64 y,.int .i64 z,.string a0] T.api_Value) b0 c0→
 Cv F.z124 #[.pointer q,.slice (some (Addr.mk b0 0 none)) 2 2] c0 (fun d0 e0=>
 ∃ (f0:Int),
 d0 = .int .i64 f0∧
 ∃ (g0:Int) (h0:Int) (i0:ByteArray),
 cellsAt e0 (Addr.mk s 0 none) 0 [.int .i64 g0,.int .i64 h0,.string i0]∧
 ∀ j0 k0,New e0 (.cells #[.int .i64 1,.int .i64 2,.string (bs []),.int .i64 g0,.int .i64 h0,.string i0] T.api_Value) j0 k0→
 Cv F.z124 #[.pointer q,.slice (some (Addr.mk j0 0 none)) 2 2] k0 (fun l0 m0=>
 ∃ (n0:Int),
 l0 = .int .i64 n0∧
 ifB (r == (0:Int)) (
 ifB (f0 == (0:Int)) (
 ifB (n0 == (9:Int)) (
 Cv F.z126 #[.pointer q] m0 (fun o0 p0=>
 ∃ (q0:Int),
 o0 = .int .i64 q0∧
 ifB (q0 == (1:Int)) (
 Cv F.z129 #[.pointer q,.slice none 0 0] p0 (fun r0 s0=>
 Es fun t0 u0 v0=>
 r0 = .slice t0 u0 v0∧
 K (.bool (((u0:Nat):Int) == (1:Int))) s0)) (
 K (.bool false) p0))) (
 K (.bool false) m0)) (
 K (.bool false) m0)) (
 K (.bool false) m0)))))
def An.z4:Ann:=⟨[],[],[]⟩
theorem R.z4  {w:World} {K:Value→World→Prop} (h:C.z4  w K):Cv F.z4 #[] w K:=
 RR (an:=An.z4) Go.Proofs.Tryz.func13 (by kernel_rfl) (by kernel_rfl) h
def C.z10 (b:ByteArray) (c:Option Addr) (d e:Nat) (f:Option Addr) (g i:Nat) (j:Int) (k:Int) (l:Int) (m:Option Addr) (n o:Nat) (w:World) (K:Value→World→Prop):Prop:=
 ∀ p q,New w (.cells #[.string b,.slice c d e,.slice f g i,.int .i64 j,.int .i64 k,.int .i64 l] T.api_Schema) p q→
 ∀ r s,New q (.cells #[.string (bs []),.slice none 0 0,.slice none 0 0,.int .i64 0,.int .i64 0,.int .i64 0,.slice none 0 0] T.affluxref09_Model) r s→
 E6 fun t u v x y z a0 b0 c0 d0=>
 cellsAt s (Addr.mk p 0 none) 0 (L6 t u v x y z a0 b0 c0 d0)∧
 Cv F.z118 #[A6 t u v x y z a0 b0 c0 d0] s (fun e0 f0=>
 ∃ (g0:Option Addr) (h0:Int),
 e0 = .tuple #[.pointer g0,.int .i64 h0]∧
 E6 fun i0 j0 k0 l0 m0 n0 o0 p0 q0 r0=>
 cellsAt f0 (Addr.mk p 0 none) 0 (L6 i0 j0 k0 l0 m0 n0 o0 p0 q0 r0)∧
 ∀ s0 t0,New f0 (.cells #[.string (bs []),.slice none 0 0,.slice none 0 0,.int .i64 0,.int .i64 0,.int .i64 0,.slice none 0 0] T.affluxref09_Model) s0 t0→
 Sb s0 0 (.string i0) t0 fun u0=>
 Sb s0 1 (.slice j0 k0 l0) u0 fun v0=>
 Sb s0 2 (.slice m0 n0 o0) v0 fun w0=>
 Sb s0 3 (.int .i64 p0) w0 fun x0=>
 Sb s0 4 (.int .i64 q0) x0 fun y0=>
 Sb s0 5 (.int .i64 r0) y0 fun z0=>
 Sb s0 6 (.slice none 0 0) z0 fun a1=>
 ∃ (b1:Int→World→Prop) (c1:Int→World→Nat),
 b1 0 a1∧
 ∀ (d1:Int) e1,b1 d1 e1→
 ifB (decide (d1 < ((n:Nat):Int))) (
 ifB (h0 == (0:Int)) (
 E7 fun f1 g1 h1 i1 j1 k1 l1 m1 n1 o1 p1 q1 r1=>
 cellsAt e1.drew (Addr.mk s0 0 none) 0 (L7 f1 g1 h1 i1 j1 k1 l1 m1 n1 o1 p1 q1 r1)∧
 Iq m (d1) n fun s1=>
 ∃ (t1:Int) (u1:Int) (v1:ByteArray) (w1:Option Addr) (x1 y1:Nat) (z1:Option Addr) (a2 b2:Nat),
 cellsAt e1.drew (s1.add (d1.toNat * 5)) 0 [.int .i64 t1,.int .i64 u1,.string v1,.slice w1 x1 y1,.slice z1 a2 b2]∧
 (Cv F.z5 #[.pointer g0,A7 f1 g1 h1 i1 j1 k1 l1 m1 n1 o1 p1 q1 r1,.agg #[.int .i64 t1,.int .i64 u1,.string v1,.slice w1 x1 y1,.slice z1 a2 b2]] e1.drew (fun c2 d2=>
 ∃ (e2:ByteArray) (f2:Option Addr) (g2 h2:Nat) (i2:Option Addr) (j2 k2:Nat) (l2:Int) (m2:Int) (n2:Int) (o2:Option Addr) (p2 q2:Nat) (r2:Bool),
 c2 = .tuple #[A7 e2 f2 g2 h2 i2 j2 k2 l2 m2 n2 o2 p2 q2,.bool r2]∧
 ∀ s2 t2,New d2 (.cells #[.string (bs []),.slice none 0 0,.slice none 0 0,.int .i64 0,.int .i64 0,.int .i64 0,.slice none 0 0] T.affluxref09_Model) s2 t2→
 cellsAt t2 (s1.add (d1.toNat * 5)) 0 [.int .i64 t1,.int .i64 u1,.string v1,.slice w1 x1 y1,.slice z1 a2 b2]∧
 cellsAt t2 (Addr.mk s0 0 none) 0 (L7 f1 g1 h1 i1 j1 k1 l1 m1 n1 o1 p1 q1 r1)∧
 Sb s2 0 (.string e2) t2 fun u2=>
 Sb s2 1 (.slice f2 g2 h2) u2 fun v2=>
 Sb s2 2 (.slice i2 j2 k2) v2 fun w2=>
 Sb s2 3 (.int .i64 l2) w2 fun x2=>
 Sb s2 4 (.int .i64 m2) x2 fun y2=>
 Sb s2 5 (.int .i64 n2) y2 fun z2=>
 Sb s2 6 (.slice o2 p2 q2) z2 fun a3=>
 ifB (!r2) (
 E7 fun b3 c3 d3 e3 f3 g3 h3 i3 j3 k3 l3 m3 n3=>
 cellsAt a3.drew (Addr.mk s0 0 none) 0 (L7 b3 c3 d3 e3 f3 g3 h3 i3 j3 k3 l3 m3 n3)∧
 CanSt a3.drew ((Addr.mk r 0 none).add 0)∧∀ o3,o3=a3.drew.setCell ((Addr.mk r 0 none).add 0) (.string b3)→
 Sb r 1 (.slice c3 d3 e3) o3 fun p3=>
 Sb r 2 (.slice f3 g3 h3) p3 fun q3=>
 Sb r 3 (.int .i64 i3) q3 fun r3=>
 Sb r 4 (.int .i64 j3) r3 fun s3=>
 Sb r 5 (.int .i64 k3) s3 fun t3=>
 Sb r 6 (.slice l3 m3 n3) t3 fun u3=>
 E7 fun v3 w3 x3 y3 z3 a4 b4 c4 d4 e4 f4 g4 h4=>
 cellsAt u3 (Addr.mk r 0 none) 0 (L7 v3 w3 x3 y3 z3 a4 b4 c4 d4 e4 f4 g4 h4)∧
 K (.tuple #[.pointer g0,A7 v3 w3 x3 y3 z3 a4 b4 c4 d4 e4 f4 g4 h4,.bool false]) u3) (
 E7 fun i4 j4 k4 l4 m4 n4 o4 p4 q4 r4 s4 t4 u4=>
 cellsAt a3 (Addr.mk s2 0 none) 0 (L7 i4 j4 k4 l4 m4 n4 o4 p4 q4 r4 s4 t4 u4)∧
 Sb s0 0 (.string i4) a3 fun v4=>
 Sb s0 1 (.slice j4 k4 l4) v4 fun w4=>
 Sb s0 2 (.slice m4 n4 o4) w4 fun x4=>
 Sb s0 3 (.int .i64 p4) x4 fun y4=>
 Sb s0 4 (.int .i64 q4) y4 fun z4=>
 Sb s0 5 (.int .i64 r4) z4 fun a5=>
 Sb s0 6 (.slice s4 t4 u4) a5 fun b5=>
 b1 (IntKind.i64.wrap (d1+(1:Int))) b5∧c1 (IntKind.i64.wrap (d1+(1:Int))) b5 < c1 d1 e1)))∧
 (∀ c5 d5,New e1.drew (.cells #[.string (bs []),.slice none 0 0,.slice none 0 0,.int .i64 0,.int .i64 0,.int .i64 0,.slice none 0 0] T.affluxref09_Model) c5 d5→
 cellsAt d5 (s1.add (d1.toNat * 5)) 0 [.int .i64 t1,.int .i64 u1,.string v1,.slice w1 x1 y1,.slice z1 a2 b2]∧
 cellsAt d5 (Addr.mk s0 0 none) 0 (L7 f1 g1 h1 i1 j1 k1 l1 m1 n1 o1 p1 q1 r1)∧
 Cv F.z5 #[.pointer g0,A7 f1 g1 h1 i1 j1 k1 l1 m1 n1 o1 p1 q1 r1,.agg #[.int .i64 t1,.int .i64 u1,.string v1,.slice w1 x1 y1,.slice z1 a2 b2]] d5 (fun e5 f5=>
 ∃ (g5:ByteArray) (h5:Option Addr) (i5 j5:Nat) (k5:Option Addr) (l5 m5:Nat) (n5:Int) (o5:Int) (p5:Int) (q5:Option Addr) (r5 s5:Nat) (t5:Bool),
 e5 = .tuple #[A7 g5 h5 i5 j5 k5 l5 m5 n5 o5 p5 q5 r5 s5,.bool t5]∧
 Sb c5 0 (.string g5) f5 fun u5=>
 Sb c5 1 (.slice h5 i5 j5) u5 fun v5=>
 Sb c5 2 (.slice k5 l5 m5) v5 fun w5=>
 Sb c5 3 (.int .i64 n5) w5 fun x5=>
 Sb c5 4 (.int .i64 o5) x5 fun y5=>
 Sb c5 5 (.int .i64 p5) y5 fun z5=>
 Sb c5 6 (.slice q5 r5 s5) z5 fun a6=>
 ifB (!t5) (
 E7 fun b6 c6 d6 e6 f6 g6 h6 i6 j6 k6 l6 m6 n6=>
 cellsAt a6.drew (Addr.mk s0 0 none) 0 (L7 b6 c6 d6 e6 f6 g6 h6 i6 j6 k6 l6 m6 n6)∧
 CanSt a6.drew ((Addr.mk r 0 none).add 0)∧∀ o6,o6=a6.drew.setCell ((Addr.mk r 0 none).add 0) (.string b6)→
 Sb r 1 (.slice c6 d6 e6) o6 fun p6=>
 Sb r 2 (.slice f6 g6 h6) p6 fun q6=>
 Sb r 3 (.int .i64 i6) q6 fun r6=>
 Sb r 4 (.int .i64 j6) r6 fun s6=>
 Sb r 5 (.int .i64 k6) s6 fun t6=>
 Sb r 6 (.slice l6 m6 n6) t6 fun u6=>
 E7 fun v6 w6 x6 y6 z6 a7 b7 c7 d7 e7 f7 g7 h7=>
 cellsAt u6 (Addr.mk r 0 none) 0 (L7 v6 w6 x6 y6 z6 a7 b7 c7 d7 e7 f7 g7 h7)∧
 K (.tuple #[.pointer g0,A7 v6 w6 x6 y6 z6 a7 b7 c7 d7 e7 f7 g7 h7,.bool false]) u6) (
 E7 fun i7 j7 k7 l7 m7 n7 o7 p7 q7 r7 s7 t7 u7=>
 cellsAt a6 (Addr.mk c5 0 none) 0 (L7 i7 j7 k7 l7 m7 n7 o7 p7 q7 r7 s7 t7 u7)∧
 Sb s0 0 (.string i7) a6 fun v7=>
 Sb s0 1 (.slice j7 k7 l7) v7 fun w7=>
 Sb s0 2 (.slice m7 n7 o7) w7 fun x7=>
 Sb s0 3 (.int .i64 p7) x7 fun y7=>
 Sb s0 4 (.int .i64 q7) y7 fun z7=>
 Sb s0 5 (.int .i64 r7) z7 fun a8=>
 Sb s0 6 (.slice s7 t7 u7) a8 fun b8=>
 b1 (IntKind.i64.wrap (d1+(1:Int))) b8∧c1 (IntKind.i64.wrap (d1+(1:Int))) b8 < c1 d1 e1)))) (
 E7 fun c8 d8 e8 f8 g8 h8 i8 j8 k8 l8 m8 n8 o8=>
 cellsAt e1.drew (Addr.mk s0 0 none) 0 (L7 c8 d8 e8 f8 g8 h8 i8 j8 k8 l8 m8 n8 o8)∧
 CanSt e1.drew ((Addr.mk r 0 none).add 0)∧∀ p8,p8=e1.drew.setCell ((Addr.mk r 0 none).add 0) (.string c8)→
 Sb r 1 (.slice d8 e8 f8) p8 fun q8=>
 Sb r 2 (.slice g8 h8 i8) q8 fun r8=>
 Sb r 3 (.int .i64 j8) r8 fun s8=>
 Sb r 4 (.int .i64 k8) s8 fun t8=>
 Sb r 5 (.int .i64 l8) t8 fun u8=>
 Sb r 6 (.slice m8 n8 o8) u8 fun v8=>
 E7 fun w8 x8 y8 z8 a9 b9 c9 d9 e9 f9 g9 h9 i9=>
 cellsAt v8 (Addr.mk r 0 none) 0 (L7 w8 x8 y8 z8 a9 b9 c9 d9 e9 f9 g9 h9 i9)∧
 K (.tuple #[.pointer g0,A7 w8 x8 y8 z8 a9 b9 c9 d9 e9 f9 g9 h9 i9,.bool (h0 == (0:Int))]) v8)) (
 E7 fun j9 k9 l9 m9 n9 o9 p9 q9 r9 s9 t9 u9 v9=>
 cellsAt e1.drew (Addr.mk s0 0 none) 0 (L7 j9 k9 l9 m9 n9 o9 p9 q9 r9 s9 t9 u9 v9)∧
 CanSt e1.drew ((Addr.mk r 0 none).add 0)∧∀ w9,w9=e1.drew.setCell ((Addr.mk r 0 none).add 0) (.string j9)→
 Sb r 1 (.slice k9 l9 m9) w9 fun x9=>
 Sb r 2 (.slice n9 o9 p9) x9 fun y9=>
 Sb r 3 (.int .i64 q9) y9 fun z9=>
 Sb r 4 (.int .i64 r9) z9 fun a10=>
 Sb r 5 (.int .i64 s9) a10 fun b10=>
 Sb r 6 (.slice t9 u9 v9) b10 fun c10=>
 E7 fun d10 e10 f10 g10 h10 i10 j10 k10 l10 m10 n10 o10 p10=>
 cellsAt c10 (Addr.mk r 0 none) 0 (L7 d10 e10 f10 g10 h10 i10 j10 k10 l10 m10 n10 o10 p10)∧
 K (.tuple #[.pointer g0,A7 d10 e10 f10 g10 h10 i10 j10 k10 l10 m10 n10 o10 p10,.bool (h0 == (0:Int))]) c10))
def An.z10:Ann:=⟨[(6,.sil 0 [] (.sil 1 [10] (.sil 2 [] (.sil 3 [] (.sil 4 [] (.sil 5 [10] (.act2 6 (.sil 7 [] (.sil 8 [] (.sil 9 [] (.act 10 (.act 11 (.sil 12 [] (.done))))))) 10 (.act 6 (.sil 7 [] (.sil 8 [] (.sil 9 [] (.act 11 (.sil 12 [] (.done)))))))))))))),(8,.sil 0 [] (.sil 1 [] (.sil 2 [] (.act 3 (.sil 4 [] (.done)))))),(10,.sil 0 [] (.sil 1 [] (.sil 2 [] (.sil 3 [] (.sil 4 [] (.act 5 (.sil 6 [] (.done))))))))],[(4,[(10,3)],[1,5,7,8,9])],[]⟩
theorem R.z10 {a:ByteArray} {b:Option Addr} {c d:Nat} {e:Option Addr} {f g:Nat} {i:Int} {j:Int} {k:Int} {l:Option Addr} {m n:Nat} {w:World} {K:Value→World→Prop} (h:C.z10 a b c d e f g i j k l m n w K):Cv F.z10 #[.agg #[.string a,.slice b c d,.slice e f g,.int .i64 i,.int .i64 j,.int .i64 k],.slice l m n] w K:=
 RR (an:=An.z10) Go.Proofs.Tryz.func14 (by kernel_rfl) (by kernel_rfl) h
def C.z121 (a:Option Addr) (b:Int) (c:Option Addr) (d e:Nat) (w:World) (K:Value→World→Prop):Prop:=
 Cv F.z136 #[.pointer a,.int .i64 b,.string (bs []),.bool true,.slice c d e] w (fun f g=>
 ∃ (i:ByteArray) (j:Option Addr) (k l:Nat) (m:Bool),
 f = .tuple #[.string i,.slice j k l,.bool m]∧
 K (.tuple #[.string i,.slice j k l,.bool m]) g)
def An.z121:Ann:=⟨[],[],[]⟩
theorem R.z121 {a:Option Addr} {b:Int} {c:Option Addr} {d e:Nat} {w:World} {K:Value→World→Prop} (h:C.z121 a b c d e w K):Cv F.z121 #[.pointer a,.int .i64 b,.slice c d e] w K:=
 RR (an:=An.z121) Go.Proofs.Tryz.func15 (by kernel_rfl) (by kernel_rfl) h
def C.z43 (b:ByteArray) (c:Option Addr) (d e:Nat) (f:Option Addr) (g i:Nat) (j:Int) (k:Int) (l:Int) (m:Option Addr) (n o:Nat) (p:Int) (w:World) (K:Value→World→Prop):Prop:=
 ∀ q r,New w (.cells #[.string b,.slice c d e,.slice f g i,.int .i64 j,.int .i64 k,.int .i64 l,.slice m n o] T.affluxref09_Model) q r→
 ∃ (s:Option Addr→Nat→Nat→Int→World→Prop) (t:Option Addr→Nat→Nat→Int→World→Nat),
 s none 0 0 0 r∧
 ∀ (u:Option Addr) (v x:Nat) (y:Int) z,s u v x y z→
 Es fun a0 b0 c0=>
 z.cell? ((Addr.mk q 0 none).add 6)=some (.slice a0 b0 c0)∧
 ifB (decide (y < ((b0:Nat):Int))) (
 ∃ (d0:Int→World→Prop) (e0:Int→World→Nat),
 d0 0 z∧
 ∀ (f0:Int) g0,d0 f0 g0→
 ifB (decide (f0 < ((v:Nat):Int))) (
 E6 fun h0 i0 j0 k0 l0 m0 n0 o0 p0 q0=>
 cellsAt g0.drew ((Addr.mk q 0 none).add 0) 0 (L6 h0 i0 j0 k0 l0 m0 n0 o0 p0 q0)∧
 Iq u (f0) v fun r0=>
 Es fun s0 t0 u0=>
 g0.drew.cell? (r0.add (f0.toNat * 1))=some (.slice s0 t0 u0)∧
 E6 fun v0 w0 x0 y0 z0 a1 b1 c1 d1 e1=>
 cellsAt g0.drew ((Addr.mk q 0 none).add 0) 0 (L6 v0 w0 x0 y0 z0 a1 b1 c1 d1 e1)∧
 Es fun f1 g1 h1=>
 g0.drew.cell? ((Addr.mk q 0 none).add 6)=some (.slice f1 g1 h1)∧
 Iq f1 (y) g1 fun i1=>
 Es fun j1 k1 l1=>
 g0.drew.cell? (i1.add (y.toNat * 1))=some (.slice j1 k1 l1)∧
 Cv F.z28 #[A6 h0 i0 j0 k0 l0 m0 n0 o0 p0 q0,.int .i64 p,.slice s0 t0 u0] g0.drew (fun m1 n1=>
 ∃ (o1:ByteArray),
 m1 = .string o1∧
 n1.cell? (i1.add (y.toNat * 1))=some (.slice j1 k1 l1)∧
 n1.cell? ((Addr.mk q 0 none).add 6)=some (.slice f1 g1 h1)∧
 cellsAt n1 ((Addr.mk q 0 none).add 0) 0 (L6 v0 w0 x0 y0 z0 a1 b1 c1 d1 e1)∧
 Cv F.z28 #[A6 v0 w0 x0 y0 z0 a1 b1 c1 d1 e1,.int .i64 p,.slice j1 k1 l1] n1 (fun p1 q1=>
 ∃ (r1:ByteArray),
 p1 = .string r1∧
 ifB (sLt o1 r1) (
 d0 (IntKind.i64.wrap (f0+(1:Int))) q1∧e0 (IntKind.i64.wrap (f0+(1:Int))) q1 < e0 f0 g0) (
 ∀ s1 t1,New q1 (.cells #[.slice none 0 0] T.s_api_Value) s1 t1→
 BuiltV prog .append #[T.s_s_api_Value,T.s_s_api_Value] T.s_s_api_Value #[.slice u v x,.slice (some (Addr.mk s1 0 none)) 1 1] t1 (fun u1 v1=>
 Es fun w1 x1 y1=>
 u1 = .slice w1 x1 y1∧
 ∃ (z1:Int→World→Prop) (a2:Int→World→Nat),
 z1 (IntKind.i64.wrap (((x1:Nat):Int) - (1:Int))) v1∧
 ∀ (b2:Int) c2,z1 b2 c2→
 ifB (decide (f0 < b2)) (
 Iq w1 (IntKind.i64.wrap (b2 - (1:Int))) x1 fun d2=>
 Es fun e2 f2 g2=>
 c2.cell? (d2.add ((IntKind.i64.wrap (b2 - (1:Int))).toNat * 1))=some (.slice e2 f2 g2)∧
 Iq w1 (b2) x1 fun h2=>
 CanSt c2 (h2.add (b2.toNat * 1))∧∀ i2,i2=c2.setCell (h2.add (b2.toNat * 1)) (.slice e2 f2 g2)→
 z1 (IntKind.i64.wrap (b2 - (1:Int))) i2∧a2 (IntKind.i64.wrap (b2 - (1:Int))) i2 < a2 b2 c2) (
 Es fun j2 k2 l2=>
 c2.cell? ((Addr.mk q 0 none).add 6)=some (.slice j2 k2 l2)∧
 Iq j2 (y) k2 fun m2=>
 Es fun n2 o2 p2=>
 c2.cell? (m2.add (y.toNat * 1))=some (.slice n2 o2 p2)∧
 Iq w1 (f0) x1 fun q2=>
 CanSt c2 (q2.add (f0.toNat * 1))∧∀ r2,r2=c2.setCell (q2.add (f0.toNat * 1)) (.slice n2 o2 p2)→
 s w1 x1 y1 (IntKind.i64.wrap (y+(1:Int))) r2∧t w1 x1 y1 (IntKind.i64.wrap (y+(1:Int))) r2 < t u v x y z)))))) (
 ∀ s2 t2,New g0.drew (.cells #[.slice none 0 0] T.s_api_Value) s2 t2→
 BuiltV prog .append #[T.s_s_api_Value,T.s_s_api_Value] T.s_s_api_Value #[.slice u v x,.slice (some (Addr.mk s2 0 none)) 1 1] t2 (fun u2 v2=>
 Es fun w2 x2 y2=>
 u2 = .slice w2 x2 y2∧
 ∃ (z2:Int→World→Prop) (a3:Int→World→Nat),
 z2 (IntKind.i64.wrap (((x2:Nat):Int) - (1:Int))) v2∧
 ∀ (b3:Int) c3,z2 b3 c3→
 ifB (decide (f0 < b3)) (
 Iq w2 (IntKind.i64.wrap (b3 - (1:Int))) x2 fun d3=>
 Es fun e3 f3 g3=>
 c3.cell? (d3.add ((IntKind.i64.wrap (b3 - (1:Int))).toNat * 1))=some (.slice e3 f3 g3)∧
 Iq w2 (b3) x2 fun h3=>
 CanSt c3 (h3.add (b3.toNat * 1))∧∀ i3,i3=c3.setCell (h3.add (b3.toNat * 1)) (.slice e3 f3 g3)→
 z2 (IntKind.i64.wrap (b3 - (1:Int))) i3∧a3 (IntKind.i64.wrap (b3 - (1:Int))) i3 < a3 b3 c3) (
 Es fun j3 k3 l3=>
 c3.cell? ((Addr.mk q 0 none).add 6)=some (.slice j3 k3 l3)∧
 Iq j3 (y) k3 fun m3=>
 Es fun n3 o3 p3=>
 c3.cell? (m3.add (y.toNat * 1))=some (.slice n3 o3 p3)∧
 Iq w2 (f0) x2 fun q3=>
 CanSt c3 (q3.add (f0.toNat * 1))∧∀ r3,r3=c3.setCell (q3.add (f0.toNat * 1)) (.slice n3 o3 p3)→
 s w2 x2 y2 (IntKind.i64.wrap (y+(1:Int))) r3∧t w2 x2 y2 (IntKind.i64.wrap (y+(1:Int))) r3 < t u v x y z)))) (
 K (.slice u v x) z)
def An.z43:Ann:=⟨[(6,.sil 0 [] (.sil 1 [] (.sil 2 [] (.sil 3 [] (.sil 4 [] (.sil 5 [] (.sil 6 [] (.sil 7 [] (.sil 8 [] (.sil 9 [] (.sil 10 [] (.sil 11 [] (.sil 13 [] (.sil 14 [12] (.sil 15 [] (.sil 16 [] (.sil 17 [12] (.sil 18 [] (.sil 19 [] (.sil 20 [12] (.act 12 (.act 21 (.sil 22 [] (.sil 23 [] (.done)))))))))))))))))))))))))],[(3,[(5,32),(6,3)],[1,2]),(6,[(7,3)],[1,2,5,6]),(10,[(8,3)],[1,2,5,6,7])],[]⟩
theorem R.z43 {a:ByteArray} {b:Option Addr} {c d:Nat} {e:Option Addr} {f g:Nat} {i:Int} {j:Int} {k:Int} {l:Option Addr} {m n:Nat} {o:Int} {w:World} {K:Value→World→Prop} (h:C.z43 a b c d e f g i j k l m n o w K):Cv F.z43 #[.agg #[.string a,.slice b c d,.slice e f g,.int .i64 i,.int .i64 j,.int .i64 k,.slice l m n],.int .i64 o] w K:=
 RR (an:=An.z43) Go.Proofs.Tryz.func16 (by kernel_rfl) (by kernel_rfl) h
def C.z7 (b:ByteArray) (c:Option Addr) (d e:Nat) (f:Option Addr) (g i:Nat) (j:Int) (k:Int) (l:Int) (m:Option Addr) (n o:Nat) (p:Option Addr) (q r:Nat) (w:World) (K:Value→World→Prop):Prop:=
 ∀ s t,New w (.cells #[.string b,.slice c d e,.slice f g i,.int .i64 j,.int .i64 k,.int .i64 l] T.api_Schema) s t→
 ∃ (u:Int→World→Prop) (v:Int→World→Nat),
 u 0 t∧
 ∀ (x:Int) y,u x y→
 ifB (decide (x < ((q:Nat):Int))) (
 Iq p (x) q fun z=>
 ∃ (a0:Int),
 y.drew.cell? (z.add (x.toNat * 1))=some (.int .i64 a0)∧
 ∃ (b0:Int),
 y.drew.cell? ((Addr.mk s 0 none).add 5)=some (.int .i64 b0)∧
 Iq m (b0) n fun c0=>
 ∃ (d0:Int) (e0:Int) (f0:ByteArray),
 cellsAt y.drew (c0.add (b0.toNat * 3)) 0 [.int .i64 d0,.int .i64 e0,.string f0]∧
 ∃ (g0:Int),
 y.drew.cell? ((Addr.mk s 0 none).add 4)=some (.int .i64 g0)∧
 Cv F.z25 #[.agg #[.int .i64 d0,.int .i64 e0,.string f0],.int .i64 g0] y.drew (fun h0 i0=>
 ∃ (j0:Int),
 h0 = .int .i64 j0∧
 i0.cell? (z.add (x.toNat * 1))=some (.int .i64 a0)∧
 ifB (a0 == j0) (
 K (.bool true) i0) (
 u (IntKind.i64.wrap (x+(1:Int))) i0∧v (IntKind.i64.wrap (x+(1:Int))) i0 < v x y))) (
 K (.bool (((q:Nat):Int) == (0:Int))) y)
def An.z7:Ann:=⟨[(4,.sil 0 [] (.sil 1 [] (.sil 2 [] (.sil 3 [11] (.sil 4 [] (.sil 5 [] (.sil 6 [] (.sil 7 [] (.sil 8 [] (.sil 9 [] (.sil 10 [] (.act 11 (.sil 12 [] (.done))))))))))))))],[(2,[(7,3)],[1,2,3])],[]⟩
theorem R.z7 {a:ByteArray} {b:Option Addr} {c d:Nat} {e:Option Addr} {f g:Nat} {i:Int} {j:Int} {k:Int} {l:Option Addr} {m n:Nat} {o:Option Addr} {p q:Nat} {w:World} {K:Value→World→Prop} (h:C.z7 a b c d e f g i j k l m n o p q w K):Cv F.z7 #[.agg #[.string a,.slice b c d,.slice e f g,.int .i64 i,.int .i64 j,.int .i64 k],.slice l m n,.slice o p q] w K:=
 RR (an:=An.z7) Go.Proofs.Tryz.func17 (by kernel_rfl) (by kernel_rfl) h
def C.z28 (b:ByteArray) (c:Option Addr) (d e:Nat) (f:Option Addr) (g i:Nat) (j:Int) (k:Int) (l:Int) (m:Int) (n:Option Addr) (o p:Nat) (w:World) (K:Value→World→Prop):Prop:=
 ∀ q r,New w (.cells #[.string b,.slice c d e,.slice f g i,.int .i64 j,.int .i64 k,.int .i64 l] T.api_Schema) q r→
 Es fun s t u=>
 r.cell? ((Addr.mk q 0 none).add 2)=some (.slice s t u)∧
 Iq s (m) t fun v=>
 Es fun x y z=>
 r.cell? ((v.add (m.toNat * 2)).add 0)=some (.slice x y z)∧
 Cv F.z30 #[.slice n o p,.slice x y z] r (fun a0 b0=>
 Es fun c0 d0 e0=>
 a0 = .slice c0 d0 e0∧
 Cv F.z22 #[.slice c0 d0 e0] b0 (fun f0 g0=>
 ∃ (h0:ByteArray),
 f0 = .string h0∧
 Es fun i0 j0 k0=>
 g0.cell? ((Addr.mk q 0 none).add 2)=some (.slice i0 j0 k0)∧
 Iq i0 (m) j0 fun l0=>
 ∃ (m0:Bool),
 g0.cell? ((l0.add (m.toNat * 2)).add 1)=some (.bool m0)∧
 ifB (!m0) (
 Es fun n0 o0 p0=>
 g0.cell? ((Addr.mk q 0 none).add 2)=some (.slice n0 o0 p0)∧
 Iq n0 ((0:Int)) o0 fun q0=>
 Es fun r0 s0 t0=>
 g0.cell? ((q0.add ((0:Int).toNat * 2)).add 0)=some (.slice r0 s0 t0)∧
 Cv F.z30 #[.slice n o p,.slice r0 s0 t0] g0 (fun u0 v0=>
 Es fun w0 x0 y0=>
 u0 = .slice w0 x0 y0∧
 Cv F.z22 #[.slice w0 x0 y0] v0 (fun z0 a1=>
 ∃ (b1:ByteArray),
 z0 = .string b1∧
 h0.size+b1.size≤9223372036854775807∧
 K (.string (h0++b1)) a1))) (
 K (.string h0) g0)))
def An.z28:Ann:=⟨[],[],[]⟩
theorem R.z28 {a:ByteArray} {b:Option Addr} {c d:Nat} {e:Option Addr} {f g:Nat} {i:Int} {j:Int} {k:Int} {l:Int} {m:Option Addr} {n o:Nat} {w:World} {K:Value→World→Prop} (h:C.z28 a b c d e f g i j k l m n o w K):Cv F.z28 #[.agg #[.string a,.slice b c d,.slice e f g,.int .i64 i,.int .i64 j,.int .i64 k],.int .i64 l,.slice m n o] w K:=
 RR (an:=An.z28) Go.Proofs.Tryz.func18 (by kernel_rfl) (by kernel_rfl) h
def C.z24 (b:Option Addr) (c d:Nat) (e:Option Addr) (f g:Nat) (w:World) (K:Value→World→Prop):Prop:=
 ifB (((c:Nat):Int) != ((f:Nat):Int)) (
 K (.bool false) w) (
 ∃ (i:Int→World→Prop) (j:Int→World→Nat),
 i 0 w∧
 ∀ (k:Int) l,i k l→
 ifB (decide (k < ((c:Nat):Int))) (
 Iq b (k) c fun m=>
 ∃ (n:Int) (o:Int) (p:ByteArray),
 cellsAt l.drew (m.add (k.toNat * 3)) 0 [.int .i64 n,.int .i64 o,.string p]∧
 Iq e (k) f fun q=>
 ∃ (r:Int) (s:Int) (t:ByteArray),
 cellsAt l.drew (q.add (k.toNat * 3)) 0 [.int .i64 r,.int .i64 s,.string t]∧
 ifB (!((n == r) && ((o == s) && (sEq p t && true)))) (
 K (.bool false) l.drew) (
 i (IntKind.i64.wrap (k+(1:Int))) l.drew∧j (IntKind.i64.wrap (k+(1:Int))) l.drew < j k l)) (
 K (.bool true) l))
def An.z24:Ann:=⟨[(6,.sil 0 [] (.sil 1 [] (.sil 2 [] (.sil 3 [] (.sil 4 [] (.sil 5 [] (.sil 6 [] (.sil 7 [] (.sil 8 [] (.done))))))))))],[(4,[(5,3)],[0,1])],[]⟩
theorem R.z24 {a:Option Addr} {b c:Nat} {d:Option Addr} {e f:Nat} {w:World} {K:Value→World→Prop} (h:C.z24 a b c d e f w K):Cv F.z24 #[.slice a b c,.slice d e f] w K:=
 RR (an:=An.z24) Go.Proofs.Tryz.func19 (by kernel_rfl) (by kernel_rfl) h
def C.z128 (a:Option Addr) (b:Int) (c:ByteArray) (d:Option Addr) (e f:Nat) (w:World) (K:Value→World→Prop):Prop:=
 Cv F.z136 #[.pointer a,.int .i64 b,.string c,.bool false,.slice d e f] w (fun g i=>
 ∃ (j:ByteArray) (k:Option Addr) (l m:Nat) (n:Bool),
 g = .tuple #[.string j,.slice k l m,.bool n]∧
 K (.tuple #[.string j,.slice k l m,.bool n]) i)
def An.z128:Ann:=⟨[],[],[]⟩
theorem R.z128 {a:Option Addr} {b:Int} {c:ByteArray} {d:Option Addr} {e f:Nat} {w:World} {K:Value→World→Prop} (h:C.z128 a b c d e f w K):Cv F.z128 #[.pointer a,.int .i64 b,.string c,.slice d e f] w K:=
 RR (an:=An.z128) Go.Proofs.Tryz.func20 (by kernel_rfl) (by kernel_rfl) h
def C.z123 (a:Option Addr) (b:Option Addr) (c d:Nat) (w:World) (K:Value→World→Prop):Prop:=
 Cv F.z129 #[.pointer a,.slice b c d] w (fun e f=>
 Es fun g i j=>
 e = .slice g i j∧
 K (.int .i64 ((i:Nat):Int)) f)
def An.z123:Ann:=⟨[],[],[]⟩
theorem R.z123 {a:Option Addr} {b:Option Addr} {c d:Nat} {w:World} {K:Value→World→Prop} (h:C.z123 a b c d w K):Cv F.z123 #[.pointer a,.slice b c d] w K:=
 RR (an:=An.z123) Go.Proofs.Tryz.func21 (by kernel_rfl) (by kernel_rfl) h
def C.z129 (a:Option Addr) (b:Option Addr) (c d:Nat) (w:World) (K:Value→World→Prop):Prop:=
 Cv F.z121 #[.pointer a,.int .i64 0,.slice b c d] w (fun e f=>
 ∃ (g:ByteArray) (i:Option Addr) (j k:Nat) (l:Bool),
 e = .tuple #[.string g,.slice i j k,.bool l]∧
 ∃ (m:Option Addr→Nat→Nat→ByteArray→Option Addr→Nat→Nat→Bool→World→Prop) (n:Option Addr→Nat→Nat→ByteArray→Option Addr→Nat→Nat→Bool→World→Nat),
 m none 0 0 g i j k l f∧
 ∀ (o:Option Addr) (p q:Nat) (r:ByteArray) (s:Option Addr) (t u:Nat) (v:Bool) x,m o p q r s t u v x→
 ifB v (
 ∀ y z,New x (.cells #[.slice s t u] T.s_api_Value) y z→
 BuiltV prog .append #[T.s_s_api_Value,T.s_s_api_Value] T.s_s_api_Value #[.slice o p q,.slice (some (Addr.mk y 0 none)) 1 1] z (fun a0 b0=>
 Es fun c0 d0 e0=>
 a0 = .slice c0 d0 e0∧
 Cv F.z128 #[.pointer a,.int .i64 0,.string r,.slice b c d] b0 (fun f0 g0=>
 ∃ (h0:ByteArray) (i0:Option Addr) (j0 k0:Nat) (l0:Bool),
 f0 = .tuple #[.string h0,.slice i0 j0 k0,.bool l0]∧
 m c0 d0 e0 h0 i0 j0 k0 l0 g0∧n c0 d0 e0 h0 i0 j0 k0 l0 g0 < n o p q r s t u v x))) (
 K (.slice o p q) x))
def An.z129:Ann:=⟨[],[(3,[(5,32),(6,9),(7,37),(8,4)],[0,1])],[]⟩
theorem R.z129 {a:Option Addr} {b:Option Addr} {c d:Nat} {w:World} {K:Value→World→Prop} (h:C.z129 a b c d w K):Cv F.z129 #[.pointer a,.slice b c d] w K:=
 RR (an:=An.z129) Go.Proofs.Tryz.func22 (by kernel_rfl) (by kernel_rfl) h
def C.z130 (a:Option Addr) (b:Int) (c:ByteArray) (d:ByteArray) (e:Int) (w:World) (K:Value→World→Prop):Prop:=
 Cv F.z137 #[.pointer a,.int .i64 b] w (fun f g=>
 ∃ (i:Bool),
 f = .bool i∧
 ifB (!i) (
 K (.slice none 0 0) g) (
 ∃ j,a=some j∧
 Es fun k l m=>
 g.cell? (j.add 7)=some (.slice k l m)∧
 Iq k (b) l fun n=>
 ∃ (o:Option Addr) (p q:Nat) (r:Bool) (s:Option Addr),
 cellsAt g (n.add (b.toNat * 3)) 0 [.slice o p q,.bool r,.pointer s]∧
 ∀ t u,New g (.cells #[.slice none 0 0,.bool false,.pointer none] T.table_index) t u→
 Sb t 0 (.slice o p q) u fun v=>
 Sb t 1 (.bool r) v fun x=>
 Sb t 2 (.pointer s) x fun y=>
 ∃ (z:Option Addr),
 y.cell? ((Addr.mk t 0 none).add 2)=some (.pointer z)∧
 Cv F.z151 #[.pointer z,.string c,.string d,.int .i64 e] y (fun a0 b0=>
 Es fun c0 d0 e0=>
 a0 = .slice c0 d0 e0∧
 ∃ (f0:Option Addr→Nat→Nat→Int→World→Prop) (g0:Option Addr→Nat→Nat→Int→World→Nat),
 f0 none 0 0 0 b0∧
 ∀ (h0:Option Addr) (i0 j0:Nat) (k0:Int) l0,f0 h0 i0 j0 k0 l0→
 ifB (decide (k0 < ((d0:Nat):Int))) (
 Iq c0 (k0) d0 fun m0=>
 ∃ (n0:ByteArray),
 l0.cell? (m0.add (k0.toNat * 1))=some (.string n0)∧
 ∃ (o0:Option Addr),
 l0.cell? ((Addr.mk t 0 none).add 2)=some (.pointer o0)∧
 Cv F.z150 #[.pointer o0,.string n0] l0 (fun p0 q0=>
 ∃ (r0:ByteArray) (s0:Bool),
 p0 = .tuple #[.string r0,.bool s0]∧
 Cv F.z139 #[.pointer a,.string r0] q0 (fun t0 u0=>
 Es fun v0 w0 x0=>
 t0 = .slice v0 w0 x0∧
 ∀ y0 z0,New u0 (.cells #[.slice v0 w0 x0] T.s_api_Value) y0 z0→
 BuiltV prog .append #[T.s_s_api_Value,T.s_s_api_Value] T.s_s_api_Value #[.slice h0 i0 j0,.slice (some (Addr.mk y0 0 none)) 1 1] z0 (fun a1 b1=>
 Es fun c1 d1 e1=>
 a1 = .slice c1 d1 e1∧
 f0 c1 d1 e1 (IntKind.i64.wrap (k0+(1:Int))) b1∧g0 c1 d1 e1 (IntKind.i64.wrap (k0+(1:Int))) b1 < g0 h0 i0 j0 k0 l0)))) (
 K (.slice h0 i0 j0) l0))))
def An.z130:Ann:=⟨[],[(6,[(11,32),(35,3)],[0,12,33,34])],[]⟩
theorem R.z130 {a:Option Addr} {b:Int} {c:ByteArray} {d:ByteArray} {e:Int} {w:World} {K:Value→World→Prop} (h:C.z130 a b c d e w K):Cv F.z130 #[.pointer a,.int .i64 b,.string c,.string d,.int .i64 e] w K:=
 RR (an:=An.z130) Go.Proofs.Tryz.func23 (by kernel_rfl) (by kernel_rfl) h
def C.z38 (b:Option Addr) (c d:Nat) (e:Option Addr) (f g:Nat) (w:World) (K:Value→World→Prop):Prop:=
 ifB (((c:Nat):Int) != ((f:Nat):Int)) (
 K (.bool false) w) (
 ∃ (i:Int→World→Prop) (j:Int→World→Nat),
 i 0 w∧
 ∀ (k:Int) l,i k l→
 ifB (decide (k < ((c:Nat):Int))) (
 Iq b (k) c fun m=>
 Es fun n o p=>
 l.drew.cell? (m.add (k.toNat * 1))=some (.slice n o p)∧
 Iq e (k) f fun q=>
 Es fun r s t=>
 l.drew.cell? (q.add (k.toNat * 1))=some (.slice r s t)∧
 Cv F.z24 #[.slice n o p,.slice r s t] l.drew (fun u v=>
 ∃ (x:Bool),
 u = .bool x∧
 ifB (!x) (
 K (.bool false) v) (
 i (IntKind.i64.wrap (k+(1:Int))) v∧j (IntKind.i64.wrap (k+(1:Int))) v < j k l))) (
 K (.bool true) l))
def An.z38:Ann:=⟨[(6,.sil 0 [] (.sil 1 [] (.sil 2 [] (.sil 3 [] (.sil 4 [] (.sil 5 [] (.sil 6 [] (.sil 7 [] (.act 8 (.sil 9 [] (.done)))))))))))],[(4,[(5,3)],[0,1])],[]⟩
theorem R.z38 {a:Option Addr} {b c:Nat} {d:Option Addr} {e f:Nat} {w:World} {K:Value→World→Prop} (h:C.z38 a b c d e f w K):Cv F.z38 #[.slice a b c,.slice d e f] w K:=
 RR (an:=An.z38) Go.Proofs.Tryz.func24 (by kernel_rfl) (by kernel_rfl) h
def C.z126 (a:Option Addr) (w:World) (K:Value→World→Prop):Prop:=
 ifB a.isNone (
 K (.int .i64 0) w) (
 ∃ b,a=some b∧
 ∃ (c:Option Addr),
 w.cell? (b.add 6)=some (.pointer c)∧
 Cv F.z147 #[.pointer c] w (fun d e=>
 ∃ (f:Int),
 d = .int .i64 f∧
 K (.int .i64 f) e))
def An.z126:Ann:=⟨[],[],[]⟩
theorem R.z126 {a:Option Addr} {w:World} {K:Value→World→Prop} (h:C.z126 a w K):Cv F.z126 #[.pointer a] w K:=
 RR (an:=An.z126) Go.Proofs.Tryz.func25 (by kernel_rfl) (by kernel_rfl) h
def C.z125 (a:Option Addr) (b:Option Addr) (c d:Nat) (w:World) (K:Value→World→Prop):Prop:=
 ifB a.isNone (
 K (.tuple #[.string (bs []),.int .i64 1]) w) (
 ∃ e,a=some e∧
 E6 fun f g i j k l m n o p=>
 cellsAt w (e.add 0) 0 (L6 f g i j k l m n o p)∧
 Cv F.z141 #[A6 f g i j k l m n o p,.slice b c d] w (fun q r=>
 ∃ (s:Option Addr) (t u:Nat) (v:Int),
 q = .tuple #[.slice s t u,.int .i64 v]∧
 ifB (v != (0:Int)) (
 K (.tuple #[.string (bs []),.int .i64 v]) r) (
 Iq s ((0:Int)) t fun x=>
 ∃ (y:ByteArray),
 r.cell? (x.add ((0:Int).toNat * 1))=some (.string y)∧
 K (.tuple #[.string y,.int .i64 0]) r)))
def An.z125:Ann:=⟨[],[],[]⟩
theorem R.z125 {a:Option Addr} {b:Option Addr} {c d:Nat} {w:World} {K:Value→World→Prop} (h:C.z125 a b c d w K):Cv F.z125 #[.pointer a,.slice b c d] w K:=
 RR (an:=An.z125) Go.Proofs.Tryz.func26 (by kernel_rfl) (by kernel_rfl) h
def C.z122 (a:Option Addr) (b:ByteArray) (w:World) (K:Value→World→Prop):Prop:=
 ifB a.isNone (
 K (.tuple #[.slice none 0 0,.bool false]) w) (
 ∃ c,a=some c∧
 ∃ (d:Option Addr),
 w.cell? (c.add 6)=some (.pointer d)∧
 Cv F.z146 #[.pointer d,.string b] w (fun e f=>
 ∃ (g:Option Addr) (i j:Nat) (k:Bool),
 e = .tuple #[.slice g i j,.bool k]∧
 Cv F.z90 #[.slice g i j] f (fun l m=>
 Es fun n o p=>
 l = .slice n o p∧
 K (.tuple #[.slice n o p,.bool k]) m)))
def An.z122:Ann:=⟨[],[],[]⟩
theorem R.z122 {a:Option Addr} {b:ByteArray} {w:World} {K:Value→World→Prop} (h:C.z122 a b w K):Cv F.z122 #[.pointer a,.string b] w K:=
 RR (an:=An.z122) Go.Proofs.Tryz.func27 (by kernel_rfl) (by kernel_rfl) h
def C.z118 (a:ByteArray) (b:Option Addr) (c d:Nat) (e:Option Addr) (f g:Nat) (i:Int) (j:Int) (k:Int) (w:World) (K:Value→World→Prop):Prop:=
 ∀ l m,New w (.cells #[.string a,.slice b c d,.slice e f g,.int .i64 i,.int .i64 j,.int .i64 k] T.api_Schema) l m→
 E6 fun n o p q r s t u v x=>
 cellsAt m (Addr.mk l 0 none) 0 (L6 n o p q r s t u v x)∧
 Cv F.z69 #[A6 n o p q r s t u v x] m (fun y z=>
 ∃ (a0:Bool),
 y = .bool a0∧
 ifB (!a0) (
 K (.tuple #[.pointer none,.int .i64 1]) z) (
 E6 fun b0 c0 d0 e0 f0 g0 h0 i0 j0 k0=>
 cellsAt z (Addr.mk l 0 none) 0 (L6 b0 c0 d0 e0 f0 g0 h0 i0 j0 k0)∧
 Cv F.z65 #[A6 b0 c0 d0 e0 f0 g0 h0 i0 j0 k0] z (fun l0 m0=>
 E6 fun n0 o0 p0 q0 r0 s0 t0 u0 v0 w0=>
 l0=A6 n0 o0 p0 q0 r0 s0 t0 u0 v0 w0∧
 ∀ x0 y0,New m0 (.cells #[.string n0,.slice o0 p0 q0,.slice r0 s0 t0,.int .i64 u0,.int .i64 v0,.int .i64 w0,.pointer none,.slice none 0 0] T.table_Table) x0 y0→
 Cv F.z135 #[.pointer (some (Addr.mk x0 0 none))] y0 (fun z0 a1=>
 z0 = .tuple #[]∧
 K (.tuple #[.pointer (some (Addr.mk x0 0 none)),.int .i64 0]) a1))))
def An.z118:Ann:=⟨[],[],[]⟩
theorem R.z118 {a:ByteArray} {b:Option Addr} {c d:Nat} {e:Option Addr} {f g:Nat} {i:Int} {j:Int} {k:Int} {w:World} {K:Value→World→Prop} (h:C.z118 a b c d e f g i j k w K):Cv F.z118 #[.agg #[.string a,.slice b c d,.slice e f g,.int .i64 i,.int .i64 j,.int .i64 k]] w K:=
 RR (an:=An.z118) Go.Proofs.Tryz.func34 (by kernel_rfl) (by kernel_rfl) h
end Go.Proofs.YtjcgociobhhijaaGreatDoor
namespace Go.Proofs.YtjcgociobhhijaaGreatDoor
open Go SX
def C.z127 (a:Option Addr) (b:Option Addr) (c d:Nat) (w:World) (K:Value→World→Prop):Prop:=
 ifB a.isNone (
 K (.int .i64 1) w) (
 Cv F.z135 #[.pointer a] w (fun e f=>
 e = .tuple #[]∧
 ∃ (g:Int→World→Prop) (i:Int→World→Nat),
 g 0 f∧
 ∀ (j:Int) k,g j k→
 ifB (decide (j < ((c:Nat):Int))) (
 Iq b (j) c fun l=>
 Es fun m n o=>
 k.cell? (l.add (j.toNat * 1))=some (.slice m n o)∧
 Cv F.z124 #[.pointer a,.slice m n o] k (fun p q=>
 ∃ (r:Int),
 p = .int .i64 r∧
 ifB (r != (0:Int)) (
 Cv F.z135 #[.pointer a] q (fun s t=>
 s = .tuple #[]∧
 K (.int .i64 r) t)) (
 g (IntKind.i64.wrap (j+(1:Int))) q∧i (IntKind.i64.wrap (j+(1:Int))) q < i j k))) (
 K (.int .i64 0) k)))
def An.z127:Ann:=⟨[],[(5,[(14,3)],[0,12,13])],[]⟩
theorem R.z127 {a:Option Addr} {b:Option Addr} {c d:Nat} {w:World} {K:Value→World→Prop} (h:C.z127 a b c d w K):Cv F.z127 #[.pointer a,.slice b c d] w K:=
 RR (an:=An.z127) Go.Proofs.Tryz.func37 (by kernel_rfl) (by kernel_rfl) h
def C.z20 (b:Option Addr) (c d:Nat) (w:World) (K:Value→World→Prop):Prop:=
 ifB (decide ((30:Int) < ((c:Nat):Int))) (
 K (.bool true) w) (
 ∃ (e:Int→World→Prop) (f:Int→World→Nat),
 e 0 w∧
 ∀ (g:Int) i,e g i→
 ifB (decide (g < ((c:Nat):Int))) (
 Iq b (g) c fun j=>
 ∃ (k:ByteArray),
 i.cell? ((j.add (g.toNat * 3)).add 2)=some (.string k)∧
 ifB (decide ((300:Int) < ((k.size:Nat):Int))) (
 K (.bool true) i) (
 e (IntKind.i64.wrap (g+(1:Int))) i∧f (IntKind.i64.wrap (g+(1:Int))) i < f g i)) (
 K (.bool false) i))
def An.z20:Ann:=⟨[],[(4,[(3,3)],[0])],[]⟩
theorem R.z20 {a:Option Addr} {b c:Nat} {w:World} {K:Value→World→Prop} (h:C.z20 a b c w K):Cv F.z20 #[.slice a b c] w K:=
 RR (an:=An.z20) Go.Proofs.Tryz.func39 (by kernel_rfl) (by kernel_rfl) h
def C.z32 (b:ByteArray) (c:Option Addr) (d e:Nat) (f:Option Addr) (g i:Nat) (j:Int) (k:Int) (l:Int) (m:ByteArray) (n:Option Addr) (o p:Nat) (q:Option Addr) (r s:Nat) (t:Int) (u:Int) (v:Int) (w:World) (K:Value→World→Prop):Prop:=
 ∀ x y,New w (.cells #[.string b,.slice c d e,.slice f g i,.int .i64 j,.int .i64 k,.int .i64 l] T.api_Schema) x y→
 ∀ z a0,New y (.cells #[.string m,.slice n o p,.slice q r s,.int .i64 t,.int .i64 u,.int .i64 v] T.api_Schema) z a0→
 ∃ b0:World→Prop,
 (∃ (c0:ByteArray),
 a0.cell? ((Addr.mk x 0 none).add 0)=some (.string c0)∧
 ∃ (d0:ByteArray),
 a0.cell? ((Addr.mk z 0 none).add 0)=some (.string d0)∧
 ifB (!sEq c0 d0) (
 K (.bool false) a0) (
 ∃ (e0:Int),
 a0.cell? ((Addr.mk x 0 none).add 3)=some (.int .i64 e0)∧
 ∃ (f0:Int),
 a0.cell? ((Addr.mk z 0 none).add 3)=some (.int .i64 f0)∧
 ifB (e0 != f0) (
 K (.bool false) a0) (
 ∃ (g0:Int),
 a0.cell? ((Addr.mk x 0 none).add 4)=some (.int .i64 g0)∧
 ∃ (h0:Int),
 a0.cell? ((Addr.mk z 0 none).add 4)=some (.int .i64 h0)∧
 ifB (g0 != h0) (
 K (.bool false) a0) (
 ∃ (i0:Int),
 a0.cell? ((Addr.mk x 0 none).add 5)=some (.int .i64 i0)∧
 ∃ (j0:Int),
 a0.cell? ((Addr.mk z 0 none).add 5)=some (.int .i64 j0)∧
 ifB (i0 != j0) (
 K (.bool false) a0) (
 Es fun k0 l0 m0=>
 a0.cell? ((Addr.mk x 0 none).add 1)=some (.slice k0 l0 m0)∧
 Es fun n0 o0 p0=>
 a0.cell? ((Addr.mk z 0 none).add 1)=some (.slice n0 o0 p0)∧
 ifB (((l0:Nat):Int) != ((o0:Nat):Int)) (
 K (.bool false) a0) (
 Es fun q0 r0 s0=>
 a0.cell? ((Addr.mk x 0 none).add 2)=some (.slice q0 r0 s0)∧
 Es fun t0 u0 v0=>
 a0.cell? ((Addr.mk z 0 none).add 2)=some (.slice t0 u0 v0)∧
 ifB (((r0:Nat):Int) != ((u0:Nat):Int)) (
 K (.bool false) a0) (
 b0 a0)))))))∧
 (∀ w0,b0 w0→
 ∃ (x0:Int→World→Prop) (y0:Int→World→Nat),
 x0 0 w0∧
 ∀ (z0:Int) a1,x0 z0 a1→
 Es fun b1 c1 d1=>
 a1.cell? ((Addr.mk x 0 none).add 1)=some (.slice b1 c1 d1)∧
 ifB (decide (z0 < ((c1:Nat):Int))) (
 Es fun e1 f1 g1=>
 a1.drew.cell? ((Addr.mk x 0 none).add 1)=some (.slice e1 f1 g1)∧
 Iq e1 (z0) f1 fun h1=>
 ∃ (i1:ByteArray) (j1:Int),
 cellsAt a1.drew (h1.add (z0.toNat * 2)) 0 [.string i1,.int .i64 j1]∧
 Es fun k1 l1 m1=>
 a1.drew.cell? ((Addr.mk z 0 none).add 1)=some (.slice k1 l1 m1)∧
 Iq k1 (z0) l1 fun n1=>
 ∃ (o1:ByteArray) (p1:Int),
 cellsAt a1.drew (n1.add (z0.toNat * 2)) 0 [.string o1,.int .i64 p1]∧
 ifB (!(sEq i1 o1 && ((j1 == p1) && true))) (
 K (.bool false) a1.drew) (
 x0 (IntKind.i64.wrap (z0+(1:Int))) a1.drew∧y0 (IntKind.i64.wrap (z0+(1:Int))) a1.drew < y0 z0 a1)) (
 ∃ (q1:Int→World→Prop) (r1:Int→World→Nat),
 q1 0 a1∧
 ∀ (s1:Int) t1,q1 s1 t1→
 Es fun u1 v1 w1=>
 t1.cell? ((Addr.mk x 0 none).add 2)=some (.slice u1 v1 w1)∧
 ifB (decide (s1 < ((v1:Nat):Int))) (
 Es fun x1 y1 z1=>
 t1.drew.cell? ((Addr.mk x 0 none).add 2)=some (.slice x1 y1 z1)∧
 Iq x1 (s1) y1 fun a2=>
 ∃ (b2:Bool),
 t1.drew.cell? ((a2.add (s1.toNat * 2)).add 1)=some (.bool b2)∧
 Es fun c2 d2 e2=>
 t1.drew.cell? ((Addr.mk z 0 none).add 2)=some (.slice c2 d2 e2)∧
 Iq c2 (s1) d2 fun f2=>
 ∃ (g2:Bool),
 t1.drew.cell? ((f2.add (s1.toNat * 2)).add 1)=some (.bool g2)∧
 ifB (!(b2 == g2)) (
 K (.bool false) t1.drew) (
 Es fun h2 i2 j2=>
 t1.drew.cell? ((Addr.mk x 0 none).add 2)=some (.slice h2 i2 j2)∧
 Iq h2 (s1) i2 fun k2=>
 Es fun l2 m2 n2=>
 t1.drew.cell? ((k2.add (s1.toNat * 2)).add 0)=some (.slice l2 m2 n2)∧
 Es fun o2 p2 q2=>
 t1.drew.cell? ((Addr.mk z 0 none).add 2)=some (.slice o2 p2 q2)∧
 Iq o2 (s1) p2 fun r2=>
 Es fun s2 t2 u2=>
 t1.drew.cell? ((r2.add (s1.toNat * 2)).add 0)=some (.slice s2 t2 u2)∧
 Cv F.z33 #[.slice l2 m2 n2,.slice s2 t2 u2] t1.drew (fun v2 w2=>
 ∃ (x2:Bool),
 v2 = .bool x2∧
 ifB (!x2) (
 K (.bool false) w2) (
 q1 (IntKind.i64.wrap (s1+(1:Int))) w2∧r1 (IntKind.i64.wrap (s1+(1:Int))) w2 < r1 s1 t1)))) (
 K (.bool true) t1)))
def An.z32:Ann:=⟨[(6,.sil 0 [] (.sil 1 [] (.sil 2 [] (.sil 3 [] (.sil 4 [] (.sil 5 [] (.sil 6 [] (.sil 7 [] (.sil 8 [] (.sil 9 [] (.sil 10 [] (.done)))))))))))),(11,.sil 0 [] (.sil 1 [] (.sil 2 [] (.sil 3 [] (.sil 4 [] (.sil 5 [] (.sil 6 [] (.sil 7 [] (.sil 8 [] (.sil 9 [] (.sil 10 [] (.sil 11 [] (.sil 12 [] (.sil 13 [] (.sil 14 [] (.sil 15 [] (.sil 16 [] (.sil 17 [] (.sil 18 [] (.sil 19 [] (.sil 20 [] (.sil 21 [] (.sil 22 [] (.sil 23 [] (.sil 24 [] (.sil 25 [] (.act 26 (.sil 27 [] (.sil 28 [] (.done))))))))))))))))))))))))))))))],[(4,[(5,3)],[2,3]),(9,[(6,3)],[2,3])],[(3,[],[2,3])]⟩
theorem R.z32 {a:ByteArray} {b:Option Addr} {c d:Nat} {e:Option Addr} {f g:Nat} {i:Int} {j:Int} {k:Int} {l:ByteArray} {m:Option Addr} {n o:Nat} {p:Option Addr} {q r:Nat} {s:Int} {t:Int} {u:Int} {w:World} {K:Value→World→Prop} (h:C.z32 a b c d e f g i j k l m n o p q r s t u w K):Cv F.z32 #[.agg #[.string a,.slice b c d,.slice e f g,.int .i64 i,.int .i64 j,.int .i64 k],.agg #[.string l,.slice m n o,.slice p q r,.int .i64 s,.int .i64 t,.int .i64 u]] w K:=
 RR (an:=An.z32) Go.Proofs.Tryz.func41 (by kernel_rfl) (by kernel_rfl) h
def C.z131 (a:Option Addr) (w:World) (K:Value→World→Prop):Prop:=
 ∀ b c,New w (.cells #[.string (bs []),.slice none 0 0,.slice none 0 0,.int .i64 0,.int .i64 0,.int .i64 0] T.api_Schema) b c→
 ifB a.isNone (
 Sb b 0 (.string (bs [])) c fun d=>
 Sb b 1 (.slice none 0 0) d fun e=>
 Sb b 2 (.slice none 0 0) e fun f=>
 Sb b 3 (.int .i64 0) f fun g=>
 Sb b 4 (.int .i64 0) g fun i=>
 Sb b 5 (.int .i64 0) i fun j=>
 E6 fun k l m n o p q r s t=>
 cellsAt j (Addr.mk b 0 none) 0 (L6 k l m n o p q r s t)∧
 K (A6 k l m n o p q r s t) j) (
 ∃ u,a=some u∧
 E6 fun v x y z a0 b0 c0 d0 e0 f0=>
 cellsAt c ((u.add 0).add 0) 0 (L6 v x y z a0 b0 c0 d0 e0 f0)∧
 Cv F.z65 #[A6 v x y z a0 b0 c0 d0 e0 f0] c (fun g0 h0=>
 E6 fun i0 j0 k0 l0 m0 n0 o0 p0 q0 r0=>
 g0=A6 i0 j0 k0 l0 m0 n0 o0 p0 q0 r0∧
 Sb b 0 (.string i0) h0 fun s0=>
 Sb b 1 (.slice j0 k0 l0) s0 fun t0=>
 Sb b 2 (.slice m0 n0 o0) t0 fun u0=>
 Sb b 3 (.int .i64 p0) u0 fun v0=>
 Sb b 4 (.int .i64 q0) v0 fun w0=>
 Sb b 5 (.int .i64 r0) w0 fun x0=>
 E6 fun y0 z0 a1 b1 c1 d1 e1 f1 g1 h1=>
 cellsAt x0 (Addr.mk b 0 none) 0 (L6 y0 z0 a1 b1 c1 d1 e1 f1 g1 h1)∧
 K (A6 y0 z0 a1 b1 c1 d1 e1 f1 g1 h1) x0))
def An.z131:Ann:=⟨[],[],[]⟩
theorem R.z131 {a:Option Addr} {w:World} {K:Value→World→Prop} (h:C.z131 a w K):Cv F.z131 #[.pointer a] w K:=
 RR (an:=An.z131) Go.Proofs.Tryz.func42 (by kernel_rfl) (by kernel_rfl) h
def C.z119 (a:Option Addr) (w:World) (K:Value→World→Prop):Prop:=
 ∀ b c,New w (.cells #[.slice none 0 0] T.codec_Writer) b c→
 Cv F.z129 #[.pointer a,.slice none 0 0] c (fun d e=>
 Es fun f g i=>
 d = .slice f g i∧
 Cv F.z58 #[.pointer (some (Addr.mk b 0 none)),.slice f g i] e (fun j k=>
 ∃ (l:Option Addr),
 j = .pointer l∧
 Cv F.z61 #[.pointer l] k (fun m n=>
 ∃ (o:ByteArray),
 m = .string o∧
 K (.string o) n)))
def An.z119:Ann:=⟨[],[],[]⟩
theorem R.z119 {a:Option Addr} {w:World} {K:Value→World→Prop} (h:C.z119 a w K):Cv F.z119 #[.pointer a] w K:=
 RR (an:=An.z119) Go.Proofs.Tryz.func47 (by kernel_rfl) (by kernel_rfl) h
def C.z37 (b:Option Addr) (c d:Nat) (w:World) (K:Value→World→Prop):Prop:=
 Cv F.z40 #[.int .i64 ((c:Nat):Int)] w (fun e f=>
 ∃ (g:ByteArray),
 e = .string g∧
 ∃ (i:ByteArray→Int→World→Prop) (j:ByteArray→Int→World→Nat),
 i g 0 f∧
 ∀ (k:ByteArray) (l:Int) m,i k l m→
 ifB (decide (l < ((c:Nat):Int))) (
 Iq b (l) c fun n=>
 Es fun o p q=>
 m.cell? (n.add (l.toNat * 1))=some (.slice o p q)∧
 Cv F.z36 #[.slice o p q] m (fun r s=>
 ∃ (t:ByteArray),
 r = .string t∧
 k.size+t.size≤9223372036854775807∧
 i (k++t) (IntKind.i64.wrap (l+(1:Int))) s∧j (k++t) (IntKind.i64.wrap (l+(1:Int))) s < j k l m)) (
 K (.string k) m))
def An.z37:Ann:=⟨[],[(3,[(3,9),(4,3)],[0])],[]⟩
theorem R.z37 {a:Option Addr} {b c:Nat} {w:World} {K:Value→World→Prop} (h:C.z37 a b c w K):Cv F.z37 #[.slice a b c] w K:=
 RR (an:=An.z37) Go.Proofs.Tryz.func48 (by kernel_rfl) (by kernel_rfl) h
def C.z45 (b:ByteArray) (c:Option Addr) (d e:Nat) (f:Option Addr) (g i:Nat) (j:Int) (k:Int) (l:Int) (m:Option Addr) (n o:Nat) (p:ByteArray) (w:World) (K:Value→World→Prop):Prop:=
 ∀ q r,New w (.cells #[.string b,.slice c d e,.slice f g i,.int .i64 j,.int .i64 k,.int .i64 l,.slice m n o] T.affluxref09_Model) q r→
 ∃ (s:Int→World→Prop) (t:Int→World→Nat),
 s 0 r∧
 ∀ (u:Int) v,s u v→
 Es fun x y z=>
 v.cell? ((Addr.mk q 0 none).add 6)=some (.slice x y z)∧
 ifB (decide (u < ((y:Nat):Int))) (
 E6 fun a0 b0 c0 d0 e0 f0 g0 h0 i0 j0=>
 cellsAt v.drew ((Addr.mk q 0 none).add 0) 0 (L6 a0 b0 c0 d0 e0 f0 g0 h0 i0 j0)∧
 Es fun k0 l0 m0=>
 v.drew.cell? ((Addr.mk q 0 none).add 6)=some (.slice k0 l0 m0)∧
 Iq k0 (u) l0 fun n0=>
 Es fun o0 p0 q0=>
 v.drew.cell? (n0.add (u.toNat * 1))=some (.slice o0 p0 q0)∧
 Cv F.z28 #[A6 a0 b0 c0 d0 e0 f0 g0 h0 i0 j0,.int .i64 0,.slice o0 p0 q0] v.drew (fun r0 s0=>
 ∃ (t0:ByteArray),
 r0 = .string t0∧
 ifB (sEq t0 p) (
 K (.int .i64 u) s0) (
 s (IntKind.i64.wrap (u+(1:Int))) s0∧t (IntKind.i64.wrap (u+(1:Int))) s0 < t u v))) (
 K (.int .i64 (-1)) v)
def An.z45:Ann:=⟨[(4,.sil 0 [] (.sil 1 [] (.sil 2 [] (.sil 3 [] (.sil 4 [] (.sil 5 [] (.sil 6 [] (.sil 8 [] (.act 7 (.sil 9 [] (.done)))))))))))],[(2,[(5,3)],[1,2])],[]⟩
theorem R.z45 {a:ByteArray} {b:Option Addr} {c d:Nat} {e:Option Addr} {f g:Nat} {i:Int} {j:Int} {k:Int} {l:Option Addr} {m n:Nat} {o:ByteArray} {w:World} {K:Value→World→Prop} (h:C.z45 a b c d e f g i j k l m n o w K):Cv F.z45 #[.agg #[.string a,.slice b c d,.slice e f g,.int .i64 i,.int .i64 j,.int .i64 k,.slice l m n],.string o] w K:=
 RR (an:=An.z45) Go.Proofs.Tryz.func49 (by kernel_rfl) (by kernel_rfl) h
def C.z27 (b:ByteArray) (c:Option Addr) (d e:Nat) (f:Option Addr) (g i:Nat) (j:Int) (k:Int) (l:Int) (w:World) (K:Value→World→Prop):Prop:=
 ∀ m n,New w (.cells #[.string b,.slice c d e,.slice f g i,.int .i64 j,.int .i64 k,.int .i64 l] T.api_Schema) m n→
 ∃ o:World→Prop,
 (Es fun p q r=>
 n.cell? ((Addr.mk m 0 none).add 1)=some (.slice p q r)∧
 ifB (decide ((12:Int) < ((q:Nat):Int))) (
 K (.bool true) n) (
 Es fun s t u=>
 n.cell? ((Addr.mk m 0 none).add 2)=some (.slice s t u)∧
 ifB (decide ((8:Int) < ((t:Nat):Int))) (
 K (.bool true) n) (
 ∃ (v:ByteArray),
 n.cell? ((Addr.mk m 0 none).add 0)=some (.string v)∧
 ifB (decide ((100:Int) < ((v.size:Nat):Int))) (
 K (.bool true) n) (
 o n))))∧
 (∀ x,o x→
 ∃ (y:Int→World→Prop) (z:Int→World→Nat),
 y 0 x∧
 ∀ (a0:Int) b0,y a0 b0→
 Es fun c0 d0 e0=>
 b0.cell? ((Addr.mk m 0 none).add 1)=some (.slice c0 d0 e0)∧
 ifB (decide (a0 < ((d0:Nat):Int))) (
 Es fun f0 g0 h0=>
 b0.cell? ((Addr.mk m 0 none).add 1)=some (.slice f0 g0 h0)∧
 Iq f0 (a0) g0 fun i0=>
 ∃ (j0:ByteArray),
 b0.cell? ((i0.add (a0.toNat * 2)).add 0)=some (.string j0)∧
 ifB (decide ((100:Int) < ((j0.size:Nat):Int))) (
 K (.bool true) b0) (
 y (IntKind.i64.wrap (a0+(1:Int))) b0∧z (IntKind.i64.wrap (a0+(1:Int))) b0 < z a0 b0)) (
 ∃ (k0:Int→World→Prop) (l0:Int→World→Nat),
 k0 0 b0∧
 ∀ (m0:Int) n0,k0 m0 n0→
 Es fun o0 p0 q0=>
 n0.cell? ((Addr.mk m 0 none).add 2)=some (.slice o0 p0 q0)∧
 ifB (decide (m0 < ((p0:Nat):Int))) (
 Es fun r0 s0 t0=>
 n0.cell? ((Addr.mk m 0 none).add 2)=some (.slice r0 s0 t0)∧
 Iq r0 (m0) s0 fun u0=>
 Es fun v0 w0 x0=>
 n0.cell? ((u0.add (m0.toNat * 2)).add 0)=some (.slice v0 w0 x0)∧
 ifB (decide ((12:Int) < ((w0:Nat):Int))) (
 K (.bool true) n0) (
 k0 (IntKind.i64.wrap (m0+(1:Int))) n0∧l0 (IntKind.i64.wrap (m0+(1:Int))) n0 < l0 m0 n0)) (
 K (.bool false) n0)))
def An.z27:Ann:=⟨[],[(4,[(3,3)],[1]),(9,[(4,3)],[1])],[(3,[],[1])]⟩
theorem R.z27 {a:ByteArray} {b:Option Addr} {c d:Nat} {e:Option Addr} {f g:Nat} {i:Int} {j:Int} {k:Int} {w:World} {K:Value→World→Prop} (h:C.z27 a b c d e f g i j k w K):Cv F.z27 #[.agg #[.string a,.slice b c d,.slice e f g,.int .i64 i,.int .i64 j,.int .i64 k]] w K:=
 RR (an:=An.z27) Go.Proofs.Tryz.func50 (by kernel_rfl) (by kernel_rfl) h
def C.z34 (b:Option Addr) (c d:Nat) (w:World) (K:Value→World→Prop):Prop:=
 ifB (decide ((30:Int) < ((c:Nat):Int))) (
 K (.bool true) w) (
 ∃ (e:Int→World→Prop) (f:Int→World→Nat),
 e 0 w∧
 ∀ (g:Int) i,e g i→
 ifB (decide (g < ((c:Nat):Int))) (
 Iq b (g) c fun j=>
 Es fun k l m=>
 i.cell? (j.add (g.toNat * 1))=some (.slice k l m)∧
 Cv F.z20 #[.slice k l m] i (fun n o=>
 ∃ (p:Bool),
 n = .bool p∧
 ifB p (
 K (.bool true) o) (
 e (IntKind.i64.wrap (g+(1:Int))) o∧f (IntKind.i64.wrap (g+(1:Int))) o < f g i))) (
 K (.bool false) i))
def An.z34:Ann:=⟨[],[(4,[(3,3)],[0])],[]⟩
theorem R.z34 {a:Option Addr} {b c:Nat} {w:World} {K:Value→World→Prop} (h:C.z34 a b c w K):Cv F.z34 #[.slice a b c] w K:=
 RR (an:=An.z34) Go.Proofs.Tryz.func51 (by kernel_rfl) (by kernel_rfl) h
def C.z29 (b:ByteArray) (w:World) (K:Value→World→Prop):Prop:=
 ifB (decide (((b.size:Nat):Int) < (1:Int))) (
 K (.bool false) w) (
 ifB (decide ((16:Int) < ((b.size:Nat):Int))) (
 K (.bool false) w) (
 ∃ (c:Int→World→Prop) (d:Int→World→Nat),
 c 0 w∧
 ∀ (e:Int) f,c e f→
 ifB (decide (e < ((b.size:Nat):Int))) (
 0≤e∧e < ((b.size:Nat):Int)∧
 ifB (decide ((97:Int)≤(bt b e))) (
 ifB (!(decide ((bt b e)≤(122:Int)))) (
 ifB (e == (0:Int)) (
 K (.bool false) f) (
 ifB (decide ((48:Int)≤(bt b e))) (
 ifB (!(decide ((bt b e)≤(57:Int)))) (
 ifB ((bt b e) != (95:Int)) (
 K (.bool false) f) (
 c (IntKind.i64.wrap (e+(1:Int))) f∧d (IntKind.i64.wrap (e+(1:Int))) f < d e f)) (
 c (IntKind.i64.wrap (e+(1:Int))) f∧d (IntKind.i64.wrap (e+(1:Int))) f < d e f)) (
 ifB ((bt b e) != (95:Int)) (
 K (.bool false) f) (
 c (IntKind.i64.wrap (e+(1:Int))) f∧d (IntKind.i64.wrap (e+(1:Int))) f < d e f)))) (
 c (IntKind.i64.wrap (e+(1:Int))) f∧d (IntKind.i64.wrap (e+(1:Int))) f < d e f)) (
 ifB (e == (0:Int)) (
 K (.bool false) f) (
 ifB (decide ((48:Int)≤(bt b e))) (
 ifB (!(decide ((bt b e)≤(57:Int)))) (
 ifB ((bt b e) != (95:Int)) (
 K (.bool false) f) (
 c (IntKind.i64.wrap (e+(1:Int))) f∧d (IntKind.i64.wrap (e+(1:Int))) f < d e f)) (
 c (IntKind.i64.wrap (e+(1:Int))) f∧d (IntKind.i64.wrap (e+(1:Int))) f < d e f)) (
 ifB ((bt b e) != (95:Int)) (
 K (.bool false) f) (
 c (IntKind.i64.wrap (e+(1:Int))) f∧d (IntKind.i64.wrap (e+(1:Int))) f < d e f))))) (
 K (.bool true) f)))
def An.z29:Ann:=⟨[],[(4,[(3,3)],[0])],[]⟩
theorem R.z29 {a:ByteArray} {w:World} {K:Value→World→Prop} (h:C.z29 a w K):Cv F.z29 #[.string a] w K:=
 RR (an:=An.z29) Go.Proofs.Tryz.func52 (by kernel_rfl) (by kernel_rfl) h
def C.z33 (b:Option Addr) (c d:Nat) (e:Option Addr) (f g:Nat) (w:World) (K:Value→World→Prop):Prop:=
 ifB (((c:Nat):Int) != ((f:Nat):Int)) (
 K (.bool false) w) (
 ∃ (i:Int→World→Prop) (j:Int→World→Nat),
 i 0 w∧
 ∀ (k:Int) l,i k l→
 ifB (decide (k < ((c:Nat):Int))) (
 Iq b (k) c fun m=>
 ∃ (n:Int),
 l.drew.cell? (m.add (k.toNat * 1))=some (.int .i64 n)∧
 Iq e (k) f fun o=>
 ∃ (p:Int),
 l.drew.cell? (o.add (k.toNat * 1))=some (.int .i64 p)∧
 ifB (n != p) (
 K (.bool false) l.drew) (
 i (IntKind.i64.wrap (k+(1:Int))) l.drew∧j (IntKind.i64.wrap (k+(1:Int))) l.drew < j k l)) (
 K (.bool true) l))
def An.z33:Ann:=⟨[(6,.sil 0 [] (.sil 1 [] (.sil 2 [] (.sil 3 [] (.sil 4 [] (.sil 5 [] (.sil 6 [] (.sil 7 [] (.sil 8 [] (.done))))))))))],[(4,[(5,3)],[0,1])],[]⟩
theorem R.z33 {a:Option Addr} {b c:Nat} {d:Option Addr} {e f:Nat} {w:World} {K:Value→World→Prop} (h:C.z33 a b c d e f w K):Cv F.z33 #[.slice a b c,.slice d e f] w K:=
 RR (an:=An.z33) Go.Proofs.Tryz.func53 (by kernel_rfl) (by kernel_rfl) h
def C.z9  (w:World) (K:Value→World→Prop):Prop:=
 ∀ b c,New w (.cells #[.string (bs []),.slice none 0 0,.slice none 0 0,.int .i64 0,.int .i64 0,.int .i64 0] T.api_Schema) b c→
 ∀ d e,New c (.cells #[.string (bs [97]),.int .i64 1,.string (bs [98]),.int .i64 2] T.api_Column) d e→
 ∀ f g,New e (.cells #[.int .i64 0] T.int) f g→
 ∀ i j,New g (.cells #[.int .i64 1] T.int) i j→
 ∀ k l,New j (.cells #[.slice (some (Addr.mk f 0 none)) 1 1,.bool true,.slice (some (Addr.mk i 0 none)) 1 1,.bool true] T.api_Index) k l→
 Sb b 0 (.string (bs [116])) l fun m=>
 Sb b 1 (.slice (some (Addr.mk d 0 none)) 2 2) m fun n=>
 Sb b 2 (.slice (some (Addr.mk k 0 none)) 2 2) n fun o=>
 Sb b 3 (.int .i64 5) o fun p=>
 Sb b 4 (.int .i64 2) p fun q=>
 Sb b 5 (.int .i64 0) q fun r=>
 E6 fun s t u v x y z a0 b0 c0=>
 cellsAt r (Addr.mk b 0 none) 0 (L6 s t u v x y z a0 b0 c0)∧
 K (A6 s t u v x y z a0 b0 c0) r
def An.z9:Ann:=⟨[],[],[]⟩
theorem R.z9  {w:World} {K:Value→World→Prop} (h:C.z9  w K):Cv F.z9 #[] w K:=
 RR (an:=An.z9) Go.Proofs.Tryz.func54 (by kernel_rfl) (by kernel_rfl) h
def C.z124 (a:Option Addr) (b:Option Addr) (c d:Nat) (w:World) (K:Value→World→Prop):Prop:=
 ifB a.isNone (
 K (.int .i64 1) w) (
 ∃ e,a=some e∧
 E6 fun f g i j k l m n o p=>
 cellsAt w (e.add 0) 0 (L6 f g i j k l m n o p)∧
 Cv F.z141 #[A6 f g i j k l m n o p,.slice b c d] w (fun q r=>
 ∃ (s:Option Addr) (t u:Nat) (v:Int),
 q = .tuple #[.slice s t u,.int .i64 v]∧
 ifB (v != (0:Int)) (
 K (.int .i64 v) r) (
 Cv F.z134 #[.pointer a,.slice s t u,.string (bs []),.bool false] r (fun x y=>
 ∃ (z:Bool),
 x = .bool z∧
 ifB z (
 K (.int .i64 9) y) (
 ∃ a0,a=some a0∧
 ∃ (b0:Int),
 y.drew.cell? (((a0.add 0).add 0).add 3)=some (.int .i64 b0)∧
 Cv F.z126 #[.pointer a] y.drew (fun c0 d0=>
 ∃ (e0:Int),
 c0 = .int .i64 e0∧
 d0.cell? (((a0.add 0).add 0).add 3)=some (.int .i64 b0)∧
 ifB (decide (b0≤e0)) (
 K (.int .i64 15) d0) (
 Cv F.z138 #[.pointer a,.slice b c d,.slice s t u] d0 (fun f0 g0=>
 f0 = .tuple #[]∧
 K (.int .i64 0) g0))))))))
def An.z124:Ann:=⟨[(8,.sil 0 [] (.sil 2 [] (.sil 3 [] (.sil 4 [] (.sil 5 [] (.sil 6 [] (.sil 7 [1] (.act 1 (.sil 8 [] (.sil 9 [] (.done)))))))))))],[],[]⟩
theorem R.z124 {a:Option Addr} {b:Option Addr} {c d:Nat} {w:World} {K:Value→World→Prop} (h:C.z124 a b c d w K):Cv F.z124 #[.pointer a,.slice b c d] w K:=
 RR (an:=An.z124) Go.Proofs.Tryz.func55 (by kernel_rfl) (by kernel_rfl) h
def C.z5 (b:Option Addr) (c:ByteArray) (d:Option Addr) (e f:Nat) (g:Option Addr) (i j:Nat) (k:Int) (l:Int) (m:Int) (n:Option Addr) (o p:Nat) (q:Int) (r:Int) (s:ByteArray) (t:Option Addr) (u v:Nat) (x:Option Addr) (y z:Nat) (w:World) (K:Value→World→Prop):Prop:=
 ∀ a0 b0,New w (.cells #[.string c,.slice d e f,.slice g i j,.int .i64 k,.int .i64 l,.int .i64 m,.slice n o p] T.affluxref09_Model) a0 b0→
 ∀ c0 d0,New b0 (.cells #[.int .i64 q,.int .i64 r,.string s,.slice t u v,.slice x y z] T.affluxlaw09_Act) c0 d0→
 ∀ e0 f0,New d0 (.cells #[.string (bs []),.slice none 0 0,.slice none 0 0,.int .i64 0,.int .i64 0,.int .i64 0,.slice none 0 0] T.affluxref09_Model) e0 f0→
 E7 fun g0 h0 i0 j0 k0 l0 m0 n0 o0 p0 q0 r0 s0=>
 cellsAt f0 (Addr.mk a0 0 none) 0 (L7 g0 h0 i0 j0 k0 l0 m0 n0 o0 p0 q0 r0 s0)∧
 ∃ (t0:Int) (u0:Int) (v0:ByteArray) (w0:Option Addr) (x0 y0:Nat) (z0:Option Addr) (a1 b1:Nat),
 cellsAt f0 (Addr.mk c0 0 none) 0 [.int .i64 t0,.int .i64 u0,.string v0,.slice w0 x0 y0,.slice z0 a1 b1]∧
 Cv F.z8 #[A7 g0 h0 i0 j0 k0 l0 m0 n0 o0 p0 q0 r0 s0,.agg #[.int .i64 t0,.int .i64 u0,.string v0,.slice w0 x0 y0,.slice z0 a1 b1]] f0 (fun c1 d1=>
 ∃ (e1:ByteArray),
 c1 = .string e1∧
 E7 fun f1 g1 h1 i1 j1 k1 l1 m1 n1 o1 p1 q1 r1=>
 cellsAt d1 (Addr.mk a0 0 none) 0 (L7 f1 g1 h1 i1 j1 k1 l1 m1 n1 o1 p1 q1 r1)∧
 ∀ s1 t1,New d1 (.cells #[.string (bs []),.slice none 0 0,.slice none 0 0,.int .i64 0,.int .i64 0,.int .i64 0,.slice none 0 0] T.affluxref09_Model) s1 t1→
 Sb s1 0 (.string f1) t1 fun u1=>
 Sb s1 1 (.slice g1 h1 i1) u1 fun v1=>
 Sb s1 2 (.slice j1 k1 l1) v1 fun w1=>
 Sb s1 3 (.int .i64 m1) w1 fun x1=>
 Sb s1 4 (.int .i64 n1) x1 fun y1=>
 Sb s1 5 (.int .i64 o1) y1 fun z1=>
 Sb s1 6 (.slice p1 q1 r1) z1 fun a2=>
 ∃ b2:Int→Int→World→Prop,
 (∃ (c2:Int),
 a2.cell? ((Addr.mk c0 0 none).add 0)=some (.int .i64 c2)∧
 ifB (c2 == (0:Int)) (
 Es fun d2 e2 f2=>
 a2.cell? ((Addr.mk c0 0 none).add 3)=some (.slice d2 e2 f2)∧
 Cv F.z124 #[.pointer b,.slice d2 e2 f2] a2 (fun g2 h2=>
 ∃ (i2:Int),
 g2 = .int .i64 i2∧
 E7 fun j2 k2 l2 m2 n2 o2 p2 q2 r2 s2 t2 u2 v2=>
 cellsAt h2 (Addr.mk a0 0 none) 0 (L7 j2 k2 l2 m2 n2 o2 p2 q2 r2 s2 t2 u2 v2)∧
 Es fun w2 x2 y2=>
 h2.cell? ((Addr.mk c0 0 none).add 3)=some (.slice w2 x2 y2)∧
 Cv F.z46 #[A7 j2 k2 l2 m2 n2 o2 p2 q2 r2 s2 t2 u2 v2,.slice w2 x2 y2] h2 (fun z2 a3=>
 ∃ (b3:ByteArray) (c3:Option Addr) (d3 e3:Nat) (f3:Option Addr) (g3 h3:Nat) (i3:Int) (j3:Int) (k3:Int) (l3:Option Addr) (m3 n3:Nat) (o3:Int),
 z2 = .tuple #[A7 b3 c3 d3 e3 f3 g3 h3 i3 j3 k3 l3 m3 n3,.int .i64 o3]∧
 Sb s1 0 (.string b3) a3 fun p3=>
 Sb s1 1 (.slice c3 d3 e3) p3 fun q3=>
 Sb s1 2 (.slice f3 g3 h3) q3 fun r3=>
 Sb s1 3 (.int .i64 i3) r3 fun s3=>
 Sb s1 4 (.int .i64 j3) s3 fun t3=>
 Sb s1 5 (.int .i64 k3) t3 fun u3=>
 Sb s1 6 (.slice l3 m3 n3) u3 fun v3=>
 b2 i2 o3 v3))) (
 ifB (c2 == (1:Int)) (
 Es fun w3 x3 y3=>
 a2.cell? ((Addr.mk c0 0 none).add 3)=some (.slice w3 x3 y3)∧
 Cv F.z132 #[.pointer b,.string e1,.slice w3 x3 y3] a2 (fun z3 a4=>
 ∃ (b4:Int),
 z3 = .int .i64 b4∧
 E7 fun c4 d4 e4 f4 g4 h4 i4 j4 k4 l4 m4 n4 o4=>
 cellsAt a4 (Addr.mk a0 0 none) 0 (L7 c4 d4 e4 f4 g4 h4 i4 j4 k4 l4 m4 n4 o4)∧
 Es fun p4 q4 r4=>
 a4.cell? ((Addr.mk c0 0 none).add 3)=some (.slice p4 q4 r4)∧
 Cv F.z48 #[A7 c4 d4 e4 f4 g4 h4 i4 j4 k4 l4 m4 n4 o4,.string e1,.slice p4 q4 r4] a4 (fun s4 t4=>
 ∃ (u4:ByteArray) (v4:Option Addr) (w4 x4:Nat) (y4:Option Addr) (z4 a5:Nat) (b5:Int) (c5:Int) (d5:Int) (e5:Option Addr) (f5 g5:Nat) (h5:Int),
 s4 = .tuple #[A7 u4 v4 w4 x4 y4 z4 a5 b5 c5 d5 e5 f5 g5,.int .i64 h5]∧
 Sb s1 0 (.string u4) t4 fun i5=>
 Sb s1 1 (.slice v4 w4 x4) i5 fun j5=>
 Sb s1 2 (.slice y4 z4 a5) j5 fun k5=>
 Sb s1 3 (.int .i64 b5) k5 fun l5=>
 Sb s1 4 (.int .i64 c5) l5 fun m5=>
 Sb s1 5 (.int .i64 d5) m5 fun n5=>
 Sb s1 6 (.slice e5 f5 g5) n5 fun o5=>
 b2 b4 h5 o5))) (
 ifB (c2 == (2:Int)) (
 Cv F.z120 #[.pointer b,.string e1] a2 (fun p5 q5=>
 ∃ (r5:Int),
 p5 = .int .i64 r5∧
 E7 fun s5 t5 u5 v5 w5 x5 y5 z5 a6 b6 c6 d6 e6=>
 cellsAt q5 (Addr.mk a0 0 none) 0 (L7 s5 t5 u5 v5 w5 x5 y5 z5 a6 b6 c6 d6 e6)∧
 Cv F.z44 #[A7 s5 t5 u5 v5 w5 x5 y5 z5 a6 b6 c6 d6 e6,.string e1] q5 (fun f6 g6=>
 ∃ (h6:ByteArray) (i6:Option Addr) (j6 k6:Nat) (l6:Option Addr) (m6 n6:Nat) (o6:Int) (p6:Int) (q6:Int) (r6:Option Addr) (s6 t6:Nat) (u6:Int),
 f6 = .tuple #[A7 h6 i6 j6 k6 l6 m6 n6 o6 p6 q6 r6 s6 t6,.int .i64 u6]∧
 Sb s1 0 (.string h6) g6 fun v6=>
 Sb s1 1 (.slice i6 j6 k6) v6 fun w6=>
 Sb s1 2 (.slice l6 m6 n6) w6 fun x6=>
 Sb s1 3 (.int .i64 o6) x6 fun y6=>
 Sb s1 4 (.int .i64 p6) y6 fun z6=>
 Sb s1 5 (.int .i64 q6) z6 fun a7=>
 Sb s1 6 (.slice r6 s6 t6) a7 fun b7=>
 b2 r5 u6 b7))) (
 Es fun c7 d7 e7=>
 a2.cell? ((Addr.mk c0 0 none).add 4)=some (.slice c7 d7 e7)∧
 Cv F.z127 #[.pointer b,.slice c7 d7 e7] a2 (fun f7 g7=>
 ∃ (h7:Int),
 f7 = .int .i64 h7∧
 E7 fun i7 j7 k7 l7 m7 n7 o7 p7 q7 r7 s7 t7 u7=>
 cellsAt g7 (Addr.mk a0 0 none) 0 (L7 i7 j7 k7 l7 m7 n7 o7 p7 q7 r7 s7 t7 u7)∧
 Es fun v7 w7 x7=>
 g7.cell? ((Addr.mk c0 0 none).add 4)=some (.slice v7 w7 x7)∧
 Cv F.z47 #[A7 i7 j7 k7 l7 m7 n7 o7 p7 q7 r7 s7 t7 u7,.slice v7 w7 x7] g7 (fun y7 z7=>
 ∃ (a8:ByteArray) (b8:Option Addr) (c8 d8:Nat) (e8:Option Addr) (f8 g8:Nat) (h8:Int) (i8:Int) (j8:Int) (k8:Option Addr) (l8 m8:Nat) (n8:Int),
 y7 = .tuple #[A7 a8 b8 c8 d8 e8 f8 g8 h8 i8 j8 k8 l8 m8,.int .i64 n8]∧
 Sb s1 0 (.string a8) z7 fun o8=>
 Sb s1 1 (.slice b8 c8 d8) o8 fun p8=>
 Sb s1 2 (.slice e8 f8 g8) p8 fun q8=>
 Sb s1 3 (.int .i64 h8) q8 fun r8=>
 Sb s1 4 (.int .i64 i8) r8 fun s8=>
 Sb s1 5 (.int .i64 j8) s8 fun t8=>
 Sb s1 6 (.slice k8 l8 m8) t8 fun u8=>
 b2 h7 n8 u8))))))∧
 (∀ (v8:Int) (w8:Int) x8,b2 v8 w8 x8→
 E7 fun y8 z8 a9 b9 c9 d9 e9 f9 g9 h9 i9 j9 k9=>
 cellsAt x8.drew (Addr.mk s1 0 none) 0 (L7 y8 z8 a9 b9 c9 d9 e9 f9 g9 h9 i9 j9 k9)∧
 ifB (v8 == w8) (
 Es fun l9 m9 n9=>
 x8.drew.cell? ((Addr.mk s1 0 none).add 6)=some (.slice l9 m9 n9)∧
 Cv F.z126 #[.pointer b] x8.drew (fun o9 p9=>
 ∃ (q9:Int),
 o9 = .int .i64 q9∧
 p9.cell? ((Addr.mk s1 0 none).add 6)=some (.slice l9 m9 n9)∧
 cellsAt p9 (Addr.mk s1 0 none) 0 (L7 y8 z8 a9 b9 c9 d9 e9 f9 g9 h9 i9 j9 k9)∧
 Sb e0 0 (.string y8) p9 fun r9=>
 Sb e0 1 (.slice z8 a9 b9) r9 fun s9=>
 Sb e0 2 (.slice c9 d9 e9) s9 fun t9=>
 Sb e0 3 (.int .i64 f9) t9 fun u9=>
 Sb e0 4 (.int .i64 g9) u9 fun v9=>
 Sb e0 5 (.int .i64 h9) v9 fun w9=>
 Sb e0 6 (.slice i9 j9 k9) w9 fun x9=>
 x9.cell? ((Addr.mk s1 0 none).add 6)=some (.slice l9 m9 n9)∧
 E7 fun y9 z9 a10 b10 c10 d10 e10 f10 g10 h10 i10 j10 k10=>
 cellsAt x9 (Addr.mk e0 0 none) 0 (L7 y9 z9 a10 b10 c10 d10 e10 f10 g10 h10 i10 j10 k10)∧
 K (.tuple #[A7 y9 z9 a10 b10 c10 d10 e10 f10 g10 h10 i10 j10 k10,.bool (q9 == ((m9:Nat):Int))]) x9)) (
 CanSt x8.drew ((Addr.mk e0 0 none).add 0)∧∀ l10,l10=x8.drew.setCell ((Addr.mk e0 0 none).add 0) (.string y8)→
 Sb e0 1 (.slice z8 a9 b9) l10 fun m10=>
 Sb e0 2 (.slice c9 d9 e9) m10 fun n10=>
 Sb e0 3 (.int .i64 f9) n10 fun o10=>
 Sb e0 4 (.int .i64 g9) o10 fun p10=>
 Sb e0 5 (.int .i64 h9) p10 fun q10=>
 Sb e0 6 (.slice i9 j9 k9) q10 fun r10=>
 E7 fun s10 t10 u10 v10 w10 x10 y10 z10 a11 b11 c11 d11 e11=>
 cellsAt r10 (Addr.mk e0 0 none) 0 (L7 s10 t10 u10 v10 w10 x10 y10 z10 a11 b11 c11 d11 e11)∧
 K (.tuple #[A7 s10 t10 u10 v10 w10 x10 y10 z10 a11 b11 c11 d11 e11,.bool false]) r10)))
def An.z5:Ann:=⟨[(16,.sil 0 [6] (.sil 1 [] (.sil 2 [] (.sil 3 [] (.sil 4 [] (.sil 5 [] (.sil 7 [] (.sil 8 [6,12] (.sil 9 [] (.act 6 (.sil 10 [] (.sil 11 [] (.act 12 (.sil 13 [] (.done)))))))))))))))],[],[(16,[(9,52),(10,52)],[0,4,5,6,8,11])]⟩
theorem R.z5 {a:Option Addr} {b:ByteArray} {c:Option Addr} {d e:Nat} {f:Option Addr} {g i:Nat} {j:Int} {k:Int} {l:Int} {m:Option Addr} {n o:Nat} {p:Int} {q:Int} {r:ByteArray} {s:Option Addr} {t u:Nat} {v:Option Addr} {x y:Nat} {w:World} {K:Value→World→Prop} (h:C.z5 a b c d e f g i j k l m n o p q r s t u v x y w K):Cv F.z5 #[.pointer a,.agg #[.string b,.slice c d e,.slice f g i,.int .i64 j,.int .i64 k,.int .i64 l,.slice m n o],.agg #[.int .i64 p,.int .i64 q,.string r,.slice s t u,.slice v x y]] w K:=
 RR (an:=An.z5) Go.Proofs.Tryz.func56 (by kernel_rfl) (by kernel_rfl) h
def C.z136 (a:Option Addr) (b:Int) (c:ByteArray) (d:Bool) (e:Option Addr) (f g:Nat) (w:World) (K:Value→World→Prop):Prop:=
 Cv F.z137 #[.pointer a,.int .i64 b] w (fun i j=>
 ∃ (k:Bool),
 i = .bool k∧
 ifB (!k) (
 K (.tuple #[.string (bs []),.slice none 0 0,.bool false]) j) (
 ∃ l,a=some l∧
 Es fun m n o=>
 j.cell? (l.add 7)=some (.slice m n o)∧
 Iq m (b) n fun p=>
 ∃ (q:Option Addr) (r s:Nat) (t:Bool) (u:Option Addr),
 cellsAt j (p.add (b.toNat * 3)) 0 [.slice q r s,.bool t,.pointer u]∧
 ∀ v x,New j (.cells #[.slice none 0 0,.bool false,.pointer none] T.table_index) v x→
 Sb v 0 (.slice q r s) x fun y=>
 Sb v 1 (.bool t) y fun z=>
 Sb v 2 (.pointer u) z fun a0=>
 ∃ (b0:Option Addr),
 a0.cell? ((Addr.mk v 0 none).add 2)=some (.pointer b0)∧
 Cv F.z152 #[.pointer b0,.string c,.bool d] a0 (fun c0 d0=>
 ∃ (e0:ByteArray) (f0:ByteArray) (g0:Bool),
 c0 = .tuple #[.string e0,.string f0,.bool g0]∧
 ∃ (h0:ByteArray→ByteArray→Bool→World→Prop) (i0:ByteArray→ByteArray→Bool→World→Nat),
 h0 e0 f0 g0 d0∧
 ∀ (j0:ByteArray) (k0:ByteArray) (l0:Bool) m0,h0 j0 k0 l0 m0→
 ifB l0 (
 Cv F.z139 #[.pointer a,.string k0] m0 (fun n0 o0=>
 Es fun p0 q0 r0=>
 n0 = .slice p0 q0 r0∧
 Cv F.z133 #[.pointer a,.slice p0 q0 r0,.slice e f g] o0 (fun s0 t0=>
 ∃ (u0:Bool),
 s0 = .bool u0∧
 ifB (!u0) (
 ∃ (v0:Option Addr),
 t0.cell? ((Addr.mk v 0 none).add 2)=some (.pointer v0)∧
 Cv F.z152 #[.pointer v0,.string j0,.bool false] t0 (fun w0 x0=>
 ∃ (y0:ByteArray) (z0:ByteArray) (a1:Bool),
 w0 = .tuple #[.string y0,.string z0,.bool a1]∧
 h0 y0 z0 a1 x0∧i0 y0 z0 a1 x0 < i0 j0 k0 l0 m0)) (
 ifB (!l0) (
 K (.tuple #[.string (bs []),.slice none 0 0,.bool false]) t0) (
 Cv F.z139 #[.pointer a,.string k0] t0 (fun b1 c1=>
 Es fun d1 e1 f1=>
 b1 = .slice d1 e1 f1∧
 K (.tuple #[.string j0,.slice d1 e1 f1,.bool true]) c1)))))) (
 ifB (!l0) (
 K (.tuple #[.string (bs []),.slice none 0 0,.bool false]) m0) (
 Cv F.z139 #[.pointer a,.string k0] m0 (fun g1 h1=>
 Es fun i1 j1 k1=>
 g1 = .slice i1 j1 k1∧
 K (.tuple #[.string j0,.slice i1 j1 k1,.bool true]) h1))))))
def An.z136:Ann:=⟨[],[(5,[(2,9),(14,9),(15,4)],[0,4,13])],[]⟩
theorem R.z136 {a:Option Addr} {b:Int} {c:ByteArray} {d:Bool} {e:Option Addr} {f g:Nat} {w:World} {K:Value→World→Prop} (h:C.z136 a b c d e f g w K):Cv F.z136 #[.pointer a,.int .i64 b,.string c,.bool d,.slice e f g] w K:=
 RR (an:=An.z136) Go.Proofs.Tryz.func57 (by kernel_rfl) (by kernel_rfl) h
def C.z25 (b:Int) (c:Int) (d:ByteArray) (e:Int) (w:World) (K:Value→World→Prop):Prop:=
 ∀ f g,New w (.cells #[.int .i64 b,.int .i64 c,.string d] T.api_Value) f g→
 ∃ (i:Int),
 g.cell? ((Addr.mk f 0 none).add 1)=some (.int .i64 i)∧
 Cv F.z11 #[.int .i64 i] g (fun j k=>
 ∃ (l:Bool) (m:Option Addr) (n o:Nat),
 j = .agg #[.bool l,.slice m n o]∧
 ∀ p q,New k (.cells #[.bool false,.slice none 0 0] T.affluxref01_Num) p q→
 Sb p 0 (.bool l) q fun r=>
 Sb p 1 (.slice m n o) r fun s=>
 ∃ (t:Int→World→Prop) (u:Int→World→Nat),
 t 0 s∧
 ∀ (v:Int) x,t v x→
 ∃ (y:ByteArray),
 x.cell? ((Addr.mk f 0 none).add 2)=some (.string y)∧
 ifB (decide (v < ((y.size:Nat):Int))) (
 ∃ (z:Int),
 x.cell? ((Addr.mk f 0 none).add 0)=some (.int .i64 z)∧
 ifB (z == (2:Int)) (
 ∃ (a0:Bool) (b0:Option Addr) (c0 d0:Nat),
 cellsAt x.drew (Addr.mk p 0 none) 0 [.bool a0,.slice b0 c0 d0]∧
 ∃ (e0:ByteArray),
 x.drew.cell? ((Addr.mk f 0 none).add 2)=some (.string e0)∧
 0≤v∧v < ((e0.size:Nat):Int)∧
 Cv F.z11 #[.int .i64 (IntKind.i64.wrap ((IntKind.i64.wrap (v+(1:Int))) * (IntKind.i64.wrap (bt e0 v))))] x.drew (fun f0 g0=>
 ∃ (h0:Bool) (i0:Option Addr) (j0 k0:Nat),
 f0 = .agg #[.bool h0,.slice i0 j0 k0]∧
 cellsAt g0 (Addr.mk p 0 none) 0 [.bool a0,.slice b0 c0 d0]∧
 Cv F.z12 #[.agg #[.bool a0,.slice b0 c0 d0],.agg #[.bool h0,.slice i0 j0 k0]] g0 (fun l0 m0=>
 ∃ (n0:Bool) (o0:Option Addr) (p0 q0:Nat),
 l0 = .agg #[.bool n0,.slice o0 p0 q0]∧
 Sb p 0 (.bool n0) m0 fun r0=>
 Sb p 1 (.slice o0 p0 q0) r0 fun s0=>
 t (IntKind.i64.wrap (v+(1:Int))) s0∧u (IntKind.i64.wrap (v+(1:Int))) s0 < u v x))) (
 Es fun t0 u0 v0=>
 x.cell? ((Addr.mk p 0 none).add 1)=some (.slice t0 u0 v0)∧
 ∃ (w0:Int→Int→World→Prop) (x0:Int→Int→World→Nat),
 w0 0 (IntKind.i64.wrap (((u0:Nat):Int) - (1:Int))) x∧
 ∀ (y0:Int) (z0:Int) a1,w0 y0 z0 a1→
 ifB (decide ((0:Int)≤z0)) (
 Es fun b1 c1 d1=>
 a1.cell? ((Addr.mk p 0 none).add 1)=some (.slice b1 c1 d1)∧
 Iq b1 (z0) c1 fun e1=>
 ∃ (f1:Int),
 a1.cell? (e1.add (z0.toNat * 1))=some (.int .i64 f1)∧
 e≠0∧
 w0 (Int.tmod (IntKind.i64.wrap ((IntKind.i64.wrap ((10:Int) * y0))+f1)) e) (IntKind.i64.wrap (z0 - (1:Int))) a1∧x0 (Int.tmod (IntKind.i64.wrap ((IntKind.i64.wrap ((10:Int) * y0))+f1)) e) (IntKind.i64.wrap (z0 - (1:Int))) a1 < x0 y0 z0 a1) (
 ∃ (g1:Bool),
 a1.cell? ((Addr.mk p 0 none).add 0)=some (.bool g1)∧
 ifB g1 (
 ifB (decide ((0:Int) < y0)) (
 K (.int .i64 (IntKind.i64.wrap (e - y0))) a1) (
 K (.int .i64 y0) a1)) (
 K (.int .i64 y0) a1)))) (
 Es fun h1 i1 j1=>
 x.cell? ((Addr.mk p 0 none).add 1)=some (.slice h1 i1 j1)∧
 ∃ (k1:Int→Int→World→Prop) (l1:Int→Int→World→Nat),
 k1 0 (IntKind.i64.wrap (((i1:Nat):Int) - (1:Int))) x∧
 ∀ (m1:Int) (n1:Int) o1,k1 m1 n1 o1→
 ifB (decide ((0:Int)≤n1)) (
 Es fun p1 q1 r1=>
 o1.cell? ((Addr.mk p 0 none).add 1)=some (.slice p1 q1 r1)∧
 Iq p1 (n1) q1 fun s1=>
 ∃ (t1:Int),
 o1.cell? (s1.add (n1.toNat * 1))=some (.int .i64 t1)∧
 e≠0∧
 k1 (Int.tmod (IntKind.i64.wrap ((IntKind.i64.wrap ((10:Int) * m1))+t1)) e) (IntKind.i64.wrap (n1 - (1:Int))) o1∧l1 (Int.tmod (IntKind.i64.wrap ((IntKind.i64.wrap ((10:Int) * m1))+t1)) e) (IntKind.i64.wrap (n1 - (1:Int))) o1 < l1 m1 n1 o1) (
 ∃ (u1:Bool),
 o1.cell? ((Addr.mk p 0 none).add 0)=some (.bool u1)∧
 ifB u1 (
 ifB (decide ((0:Int) < m1)) (
 K (.int .i64 (IntKind.i64.wrap (e - m1))) o1) (
 K (.int .i64 m1) o1)) (
 K (.int .i64 m1) o1))))
def An.z25:Ann:=⟨[(5,.sil 0 [9] (.sil 1 [] (.sil 2 [] (.sil 3 [] (.sil 4 [] (.sil 5 [] (.sil 6 [] (.sil 7 [] (.sil 8 [] (.act 9 (.act 10 (.act 11 (.done)))))))))))))],[(3,[(6,3)],[1,2,5]),(8,[(7,3),(8,3)],[1,5])],[]⟩
theorem R.z25 {a:Int} {b:Int} {c:ByteArray} {d:Int} {w:World} {K:Value→World→Prop} (h:C.z25 a b c d w K):Cv F.z25 #[.agg #[.int .i64 a,.int .i64 b,.string c],.int .i64 d] w K:=
 RR (an:=An.z25) Go.Proofs.Tryz.func58 (by kernel_rfl) (by kernel_rfl) h
def C.z22 (b:Option Addr) (c d:Nat) (w:World) (K:Value→World→Prop):Prop:=
 ∃ (e:ByteArray→Int→World→Prop) (f:ByteArray→Int→World→Nat),
 e (bs []) 0 w∧
 ∀ (g:ByteArray) (i:Int) j,e g i j→
 ifB (decide (i < ((c:Nat):Int))) (
 Iq b (i) c fun k=>
 ∃ (l:Int) (m:Int) (n:ByteArray),
 cellsAt j (k.add (i.toNat * 3)) 0 [.int .i64 l,.int .i64 m,.string n]∧
 Cv F.z21 #[.agg #[.int .i64 l,.int .i64 m,.string n]] j (fun o p=>
 ∃ (q:ByteArray),
 o = .string q∧
 g.size+q.size≤9223372036854775807∧
 e (g++q) (IntKind.i64.wrap (i+(1:Int))) p∧f (g++q) (IntKind.i64.wrap (i+(1:Int))) p < f g i j)) (
 K (.string g) j)
def An.z22:Ann:=⟨[],[(3,[(3,9),(4,3)],[0])],[]⟩
theorem R.z22 {a:Option Addr} {b c:Nat} {w:World} {K:Value→World→Prop} (h:C.z22 a b c w K):Cv F.z22 #[.slice a b c] w K:=
 RR (an:=An.z22) Go.Proofs.Tryz.func59 (by kernel_rfl) (by kernel_rfl) h
def C.z30 (b:Option Addr) (c d:Nat) (e:Option Addr) (f g:Nat) (w:World) (K:Value→World→Prop):Prop:=
 ∃ (i:Option Addr→Nat→Nat→Int→World→Prop) (j:Option Addr→Nat→Nat→Int→World→Nat),
 i none 0 0 0 w∧
 ∀ (k:Option Addr) (l m:Nat) (n:Int) o,i k l m n o→
 ifB (decide (n < ((f:Nat):Int))) (
 Iq e (n) f fun p=>
 ∃ (q:Int),
 o.cell? (p.add (n.toNat * 1))=some (.int .i64 q)∧
 Iq b (q) c fun r=>
 ∃ (s:Int) (t:Int) (u:ByteArray),
 cellsAt o (r.add (q.toNat * 3)) 0 [.int .i64 s,.int .i64 t,.string u]∧
 ∀ v x,New o (.cells #[.int .i64 s,.int .i64 t,.string u] T.api_Value) v x→
 BuiltV prog .append #[T.s_api_Value,T.s_api_Value] T.s_api_Value #[.slice k l m,.slice (some (Addr.mk v 0 none)) 1 1] x (fun y z=>
 Es fun a0 b0 c0=>
 y = .slice a0 b0 c0∧
 i a0 b0 c0 (IntKind.i64.wrap (n+(1:Int))) z∧j a0 b0 c0 (IntKind.i64.wrap (n+(1:Int))) z < j k l m n o)) (
 K (.slice k l m) o)
def An.z30:Ann:=⟨[],[(3,[(5,37),(6,3)],[0,1])],[]⟩
theorem R.z30 {a:Option Addr} {b c:Nat} {d:Option Addr} {e f:Nat} {w:World} {K:Value→World→Prop} (h:C.z30 a b c d e f w K):Cv F.z30 #[.slice a b c,.slice d e f] w K:=
 RR (an:=An.z30) Go.Proofs.Tryz.func60 (by kernel_rfl) (by kernel_rfl) h
def C.z137 (a:Option Addr) (b:Int) (w:World) (K:Value→World→Prop):Prop:=
 ifB (!a.isNone) (
 ifB (decide ((0:Int)≤b)) (
 ∃ c,a=some c∧
 Es fun d e f=>
 w.cell? (c.add 7)=some (.slice d e f)∧
 K (.bool (decide (b < ((e:Nat):Int)))) w) (
 K (.bool false) w)) (
 K (.bool false) w)
def An.z137:Ann:=⟨[],[],[]⟩
theorem R.z137 {a:Option Addr} {b:Int} {w:World} {K:Value→World→Prop} (h:C.z137 a b w K):Cv F.z137 #[.pointer a,.int .i64 b] w K:=
 RR (an:=An.z137) Go.Proofs.Tryz.func61 (by kernel_rfl) (by kernel_rfl) h
def C.z151 (a:Option Addr) (b:ByteArray) (c:ByteArray) (d:Int) (w:World) (K:Value→World→Prop):Prop:=
 Cv F.z152 #[.pointer a,.string b,.bool true] w (fun e f=>
 ∃ (g:ByteArray) (i:ByteArray) (j:Bool),
 e = .tuple #[.string g,.string i,.bool j]∧
 ∃ (k:Option Addr→Nat→Nat→ByteArray→Bool→World→Prop) (l:Option Addr→Nat→Nat→ByteArray→Bool→World→Nat),
 k none 0 0 g j f∧
 ∀ (m:Option Addr) (n o:Nat) (p:ByteArray) (q:Bool) r,k m n o p q r→
 ∃ s:World→Prop,
 (ifB q (
 ifB (decide (((n:Nat):Int) < d)) (
 ifB (sEq c (bs [])) (
 s r) (
 ifB (sLt p c) (
 s r) (
 K (.slice m n o) r))) (
 K (.slice m n o) r)) (
 K (.slice m n o) r))∧
 (∀ t,s t→
 ∀ u v,New t (.cells #[.string p] T.string) u v→
 BuiltV prog .append #[T.s_string,T.s_string] T.s_string #[.slice m n o,.slice (some (Addr.mk u 0 none)) 1 1] v (fun x y=>
 Es fun z a0 b0=>
 x = .slice z a0 b0∧
 Cv F.z152 #[.pointer a,.string p,.bool false] y (fun c0 d0=>
 ∃ (e0:ByteArray) (f0:ByteArray) (g0:Bool),
 c0 = .tuple #[.string e0,.string f0,.bool g0]∧
 k z a0 b0 e0 g0 d0∧l z a0 b0 e0 g0 d0 < l m n o p q r))))
def An.z151:Ann:=⟨[],[(3,[(9,130),(10,9),(12,4)],[0,2,3])],[(4,[],[0,2,3,9,10,12])]⟩
theorem R.z151 {a:Option Addr} {b:ByteArray} {c:ByteArray} {d:Int} {w:World} {K:Value→World→Prop} (h:C.z151 a b c d w K):Cv F.z151 #[.pointer a,.string b,.string c,.int .i64 d] w K:=
 RR (an:=An.z151) Go.Proofs.Tryz.func62 (by kernel_rfl) (by kernel_rfl) h
def C.z150 (a:Option Addr) (b:ByteArray) (w:World) (K:Value→World→Prop):Prop:=
 ifB a.isNone (
 K (.tuple #[.string (bs []),.bool false]) w) (
 ∃ c,a=some c∧
 ∃ (d:Option Addr),
 w.cell? (c.add 0)=some (.pointer d)∧
 ∃ (e:Option Addr→World→Prop) (f:Option Addr→World→Nat),
 e d w∧
 ∀ (g:Option Addr) i,e g i→
 ∃ j,g=some j∧
 Cv F.z177 #[.pointer (some (j.add 0)),.string b] i (fun k l=>
 ∃ (m:Int) (n:Bool),
 k = .tuple #[.int .i64 m,.bool n]∧
 ifB n (
 ∃ o,g=some o∧
 Es fun p q r=>
 l.cell? ((o.add 0).add 0)=some (.slice p q r)∧
 Iq p (m) q fun s=>
 ∃ (t:ByteArray),
 l.cell? ((s.add (m.toNat * 2)).add 1)=some (.string t)∧
 K (.tuple #[.string t,.bool true]) l) (
 Cv F.z167 #[.pointer g] l (fun u v=>
 ∃ (x:Bool),
 u = .bool x∧
 ifB x (
 K (.tuple #[.string (bs []),.bool false]) v) (
 ∃ y,g=some y∧
 Es fun z a0 b0=>
 v.cell? (y.add 1)=some (.slice z a0 b0)∧
 Iq z (m) a0 fun c0=>
 ∃ (d0:Option Addr),
 v.cell? (c0.add (m.toNat * 1))=some (.pointer d0)∧
 e d0 v∧f d0 v < f g i)))))
def An.z150:Ann:=⟨[],[(5,[(7,172)],[1,6])],[]⟩
theorem R.z150 {a:Option Addr} {b:ByteArray} {w:World} {K:Value→World→Prop} (h:C.z150 a b w K):Cv F.z150 #[.pointer a,.string b] w K:=
 RR (an:=An.z150) Go.Proofs.Tryz.func63 (by kernel_rfl) (by kernel_rfl) h
def C.z139 (a:Option Addr) (b:ByteArray) (w:World) (K:Value→World→Prop):Prop:=
 ∃ c,a=some c∧
 ∃ (d:Option Addr),
 w.cell? (c.add 6)=some (.pointer d)∧
 Cv F.z146 #[.pointer d,.string b] w (fun e f=>
 ∃ (g:Option Addr) (i j:Nat) (k:Bool),
 e = .tuple #[.slice g i j,.bool k]∧
 Cv F.z90 #[.slice g i j] f (fun l m=>
 Es fun n o p=>
 l = .slice n o p∧
 K (.slice n o p) m))
def An.z139:Ann:=⟨[],[],[]⟩
theorem R.z139 {a:Option Addr} {b:ByteArray} {w:World} {K:Value→World→Prop} (h:C.z139 a b w K):Cv F.z139 #[.pointer a,.string b] w K:=
 RR (an:=An.z139) Go.Proofs.Tryz.func64 (by kernel_rfl) (by kernel_rfl) h
def C.z147 (a:Option Addr) (w:World) (K:Value→World→Prop):Prop:=
 ifB a.isNone (
 K (.int .i64 0) w) (
 ∃ b,a=some b∧
 ∃ (c:Int),
 w.cell? (b.add 1)=some (.int .i64 c)∧
 K (.int .i64 c) w)
def An.z147:Ann:=⟨[],[],[]⟩
theorem R.z147 {a:Option Addr} {w:World} {K:Value→World→Prop} (h:C.z147 a w K):Cv F.z147 #[.pointer a] w K:=
 RR (an:=An.z147) Go.Proofs.Tryz.func65 (by kernel_rfl) (by kernel_rfl) h
def C.z141 (a:ByteArray) (b:Option Addr) (c d:Nat) (e:Option Addr) (f g:Nat) (i:Int) (j:Int) (k:Int) (l:Option Addr) (m n:Nat) (w:World) (K:Value→World→Prop):Prop:=
 ∀ o p,New w (.cells #[.string a,.slice b c d,.slice e f g,.int .i64 i,.int .i64 j,.int .i64 k] T.table_plan) o p→
 E6 fun q r s t u v x y z a0=>
 cellsAt p ((Addr.mk o 0 none).add 0) 0 (L6 q r s t u v x y z a0)∧
 Cv F.z66 #[A6 q r s t u v x y z a0,.slice l m n] p (fun b0 c0=>
 ∃ (d0:Option Addr) (e0 f0:Nat) (g0:Int),
 b0 = .tuple #[.slice d0 e0 f0,.int .i64 g0]∧
 K (.tuple #[.slice d0 e0 f0,.int .i64 g0]) c0)
def An.z141:Ann:=⟨[],[],[]⟩
theorem R.z141 {a:ByteArray} {b:Option Addr} {c d:Nat} {e:Option Addr} {f g:Nat} {i:Int} {j:Int} {k:Int} {l:Option Addr} {m n:Nat} {w:World} {K:Value→World→Prop} (h:C.z141 a b c d e f g i j k l m n w K):Cv F.z141 #[.agg #[.string a,.slice b c d,.slice e f g,.int .i64 i,.int .i64 j,.int .i64 k],.slice l m n] w K:=
 RR (an:=An.z141) Go.Proofs.Tryz.func66 (by kernel_rfl) (by kernel_rfl) h
def C.z146 (a:Option Addr) (b:ByteArray) (w:World) (K:Value→World→Prop):Prop:=
 ifB a.isNone (
 K (.tuple #[.slice none 0 0,.bool false]) w) (
 ∃ c,a=some c∧
 ∃ (d:Option Addr),
 w.cell? (c.add 0)=some (.pointer d)∧
 ∃ (e:Option Addr→World→Prop) (f:Option Addr→World→Nat),
 e d w∧
 ∀ (g:Option Addr) i,e g i→
 ∃ j,g=some j∧
 Cv F.z173 #[.pointer (some (j.add 0)),.string b] i (fun k l=>
 ∃ (m:Int) (n:Bool),
 k = .tuple #[.int .i64 m,.bool n]∧
 ifB n (
 ∃ o,g=some o∧
 Es fun p q r=>
 l.cell? ((o.add 0).add 0)=some (.slice p q r)∧
 Iq p (m) q fun s=>
 Es fun t u v=>
 l.cell? ((s.add (m.toNat * 2)).add 1)=some (.slice t u v)∧
 K (.tuple #[.slice t u v,.bool true]) l) (
 Cv F.z157 #[.pointer g] l (fun x y=>
 ∃ (z:Bool),
 x = .bool z∧
 ifB z (
 K (.tuple #[.slice none 0 0,.bool false]) y) (
 ∃ a0,g=some a0∧
 Es fun b0 c0 d0=>
 y.cell? (a0.add 1)=some (.slice b0 c0 d0)∧
 Iq b0 (m) c0 fun e0=>
 ∃ (f0:Option Addr),
 y.cell? (e0.add (m.toNat * 1))=some (.pointer f0)∧
 e f0 y∧f f0 y < f g i)))))
def An.z146:Ann:=⟨[],[(5,[(7,185)],[1,6])],[]⟩
theorem R.z146 {a:Option Addr} {b:ByteArray} {w:World} {K:Value→World→Prop} (h:C.z146 a b w K):Cv F.z146 #[.pointer a,.string b] w K:=
 RR (an:=An.z146) Go.Proofs.Tryz.func67 (by kernel_rfl) (by kernel_rfl) h
def C.z90 (a:Option Addr) (b c:Nat) (w:World) (K:Value→World→Prop):Prop:=
 ifB a.isNone (
 K (.slice none 0 0) w) (
 ∀ d e,New w (.cells #[] T.api_Value) d e→
 BuiltV prog .append #[T.s_api_Value,T.s_api_Value] T.s_api_Value #[.slice (some (Addr.mk d 0 none)) 0 0,.slice a b c] e (fun f g=>
 Es fun i j k=>
 f = .slice i j k∧
 K (.slice i j k) g))
def An.z90:Ann:=⟨[],[],[]⟩
theorem R.z90 {a:Option Addr} {b c:Nat} {w:World} {K:Value→World→Prop} (h:C.z90 a b c w K):Cv F.z90 #[.slice a b c] w K:=
 RR (an:=An.z90) Go.Proofs.Tryz.func68 (by kernel_rfl) (by kernel_rfl) h
def C.z69 (a:ByteArray) (b:Option Addr) (c d:Nat) (e:Option Addr) (f g:Nat) (i:Int) (j:Int) (k:Int) (w:World) (K:Value→World→Prop):Prop:=
 ∀ l m,New w (.cells #[.string a,.slice b c d,.slice e f g,.int .i64 i,.int .i64 j,.int .i64 k] T.api_Schema) l m→
 ∃ (n:ByteArray),
 m.cell? ((Addr.mk l 0 none).add 0)=some (.string n)∧
 Cv F.z78 #[.string n] m (fun o p=>
 ∃ (q:Bool),
 o = .bool q∧
 ifB q (
 Es fun r s t=>
 p.cell? ((Addr.mk l 0 none).add 1)=some (.slice r s t)∧
 Cv F.z71 #[.slice r s t] p (fun u v=>
 ∃ (x:Bool),
 u = .bool x∧
 ifB x (
 Es fun y z a0=>
 v.cell? ((Addr.mk l 0 none).add 2)=some (.slice y z a0)∧
 Es fun b0 c0 d0=>
 v.cell? ((Addr.mk l 0 none).add 1)=some (.slice b0 c0 d0)∧
 Cv F.z74 #[.slice y z a0,.int .i64 ((c0:Nat):Int)] v (fun e0 f0=>
 ∃ (g0:Bool),
 e0 = .bool g0∧
 ifB g0 (
 ∃ (h0:Int),
 f0.cell? ((Addr.mk l 0 none).add 3)=some (.int .i64 h0)∧
 Cv F.z85 #[.int .i64 h0,.int .i64 1,.int .i64 1000] f0 (fun i0 j0=>
 ∃ (k0:Bool),
 i0 = .bool k0∧
 ifB k0 (
 ∃ (l0:Int),
 j0.cell? ((Addr.mk l 0 none).add 4)=some (.int .i64 l0)∧
 Cv F.z85 #[.int .i64 l0,.int .i64 1,.int .i64 8] j0 (fun m0 n0=>
 ∃ (o0:Bool),
 m0 = .bool o0∧
 ifB o0 (
 ∃ (p0:Int),
 n0.cell? ((Addr.mk l 0 none).add 5)=some (.int .i64 p0)∧
 Es fun q0 r0 s0=>
 n0.cell? ((Addr.mk l 0 none).add 1)=some (.slice q0 r0 s0)∧
 Cv F.z85 #[.int .i64 p0,.int .i64 0,.int .i64 (IntKind.i64.wrap (((r0:Nat):Int) - (1:Int)))] n0 (fun t0 u0=>
 ∃ (v0:Bool),
 t0 = .bool v0∧
 K (.bool v0) u0)) (
 K (.bool false) n0))) (
 K (.bool false) j0))) (
 K (.bool false) f0))) (
 K (.bool false) v))) (
 K (.bool false) p))
def An.z69:Ann:=⟨[],[],[]⟩
theorem R.z69 {a:ByteArray} {b:Option Addr} {c d:Nat} {e:Option Addr} {f g:Nat} {i:Int} {j:Int} {k:Int} {w:World} {K:Value→World→Prop} (h:C.z69 a b c d e f g i j k w K):Cv F.z69 #[.agg #[.string a,.slice b c d,.slice e f g,.int .i64 i,.int .i64 j,.int .i64 k]] w K:=
 RR (an:=An.z69) Go.Proofs.Tryz.func69 (by kernel_rfl) (by kernel_rfl) h
def C.z65 (a:ByteArray) (b:Option Addr) (c d:Nat) (e:Option Addr) (f g:Nat) (i:Int) (j:Int) (k:Int) (w:World) (K:Value→World→Prop):Prop:=
 ∀ l m,New w (.cells #[.string a,.slice b c d,.slice e f g,.int .i64 i,.int .i64 j,.int .i64 k] T.api_Schema) l m→
 ∀ n o,New m (.cells #[.string (bs []),.slice none 0 0,.slice none 0 0,.int .i64 0,.int .i64 0,.int .i64 0] T.api_Schema) n o→
 Es fun p q r=>
 o.cell? ((Addr.mk l 0 none).add 1)=some (.slice p q r)∧
 Cv F.z88 #[.slice p q r] o (fun s t=>
 Es fun u v x=>
 s = .slice u v x∧
 Sb l 1 (.slice u v x) t fun y=>
 Es fun z a0 b0=>
 y.cell? ((Addr.mk l 0 none).add 2)=some (.slice z a0 b0)∧
 Cv F.z89 #[.slice z a0 b0] y (fun c0 d0=>
 Es fun e0 f0 g0=>
 c0 = .slice e0 f0 g0∧
 Sb l 2 (.slice e0 f0 g0) d0 fun h0=>
 Es fun i0 j0 k0=>
 h0.cell? ((Addr.mk l 0 none).add 2)=some (.slice i0 j0 k0)∧
 ∃ (l0:Int→World→Prop) (m0:Int→World→Nat),
 l0 0 h0∧
 ∀ (n0:Int) o0,l0 n0 o0→
 ifB (decide (n0 < ((j0:Nat):Int))) (
 Iq i0 (n0) j0 fun p0=>
 ∃ (q0:Option Addr) (r0 s0:Nat) (t0:Bool),
 cellsAt o0 (p0.add (n0.toNat * 2)) 0 [.slice q0 r0 s0,.bool t0]∧
 ∀ u0 v0,New o0 (.cells #[.slice none 0 0,.bool false] T.api_Index) u0 v0→
 Sb u0 0 (.slice q0 r0 s0) v0 fun w0=>
 Sb u0 1 (.bool t0) w0 fun x0=>
 Es fun y0 z0 a1=>
 x0.drew.cell? ((Addr.mk l 0 none).add 2)=some (.slice y0 z0 a1)∧
 Es fun b1 c1 d1=>
 x0.drew.cell? ((Addr.mk u0 0 none).add 0)=some (.slice b1 c1 d1)∧
 Cv F.z91 #[.slice b1 c1 d1] x0.drew (fun e1 f1=>
 Es fun g1 h1 i1=>
 e1 = .slice g1 h1 i1∧
 f1.cell? ((Addr.mk l 0 none).add 2)=some (.slice y0 z0 a1)∧
 Iq y0 (n0) z0 fun j1=>
 CanSt f1 ((j1.add (n0.toNat * 2)).add 0)∧∀ k1,k1=f1.setCell ((j1.add (n0.toNat * 2)).add 0) (.slice g1 h1 i1)→
 l0 (IntKind.i64.wrap (n0+(1:Int))) k1∧m0 (IntKind.i64.wrap (n0+(1:Int))) k1 < m0 n0 o0)) (
 E6 fun l1 m1 n1 o1 p1 q1 r1 s1 t1 u1=>
 cellsAt o0 (Addr.mk l 0 none) 0 (L6 l1 m1 n1 o1 p1 q1 r1 s1 t1 u1)∧
 Sb n 0 (.string l1) o0 fun v1=>
 Sb n 1 (.slice m1 n1 o1) v1 fun w1=>
 Sb n 2 (.slice p1 q1 r1) w1 fun x1=>
 Sb n 3 (.int .i64 s1) x1 fun y1=>
 Sb n 4 (.int .i64 t1) y1 fun z1=>
 Sb n 5 (.int .i64 u1) z1 fun a2=>
 E6 fun b2 c2 d2 e2 f2 g2 h2 i2 j2 k2=>
 cellsAt a2 (Addr.mk n 0 none) 0 (L6 b2 c2 d2 e2 f2 g2 h2 i2 j2 k2)∧
 K (A6 b2 c2 d2 e2 f2 g2 h2 i2 j2 k2) a2)))
def An.z65:Ann:=⟨[(6,.sil 0 [] (.sil 1 [5] (.sil 2 [] (.sil 3 [] (.sil 4 [] (.act 5 (.sil 6 [] (.sil 7 [] (.act 8 (.done))))))))))],[(4,[(16,3)],[1,2,14,15])],[]⟩
theorem R.z65 {a:ByteArray} {b:Option Addr} {c d:Nat} {e:Option Addr} {f g:Nat} {i:Int} {j:Int} {k:Int} {w:World} {K:Value→World→Prop} (h:C.z65 a b c d e f g i j k w K):Cv F.z65 #[.agg #[.string a,.slice b c d,.slice e f g,.int .i64 i,.int .i64 j,.int .i64 k]] w K:=
 RR (an:=An.z65) Go.Proofs.Tryz.func70 (by kernel_rfl) (by kernel_rfl) h
def C.z135 (a:Option Addr) (w:World) (K:Value→World→Prop):Prop:=
 Cv F.z143 #[] w (fun b c=>
 ∃ (d:Option Addr),
 b = .pointer d∧
 ∃ e,a=some e∧
 CanSt c (e.add 6)∧∀ f,f=c.setCell (e.add 6) (.pointer d)→
 ∃ g,a=some g∧
 CanSt f (g.add 7)∧∀ i,i=f.setCell (g.add 7) (.slice none 0 0)→
 ∃ j,a=some j∧
 Es fun k l m=>
 i.cell? (((j.add 0).add 0).add 2)=some (.slice k l m)∧
 ∃ (n:Int→World→Prop) (o:Int→World→Nat),
 n 0 i∧
 ∀ (p:Int) q,n p q→
 ifB (decide (p < ((l:Nat):Int))) (
 Iq k (p) l fun r=>
 ∃ (s:Option Addr) (t u:Nat) (v:Bool),
 cellsAt q (r.add (p.toNat * 2)) 0 [.slice s t u,.bool v]∧
 ∀ x y,New q (.cells #[.slice none 0 0,.bool false] T.api_Index) x y→
 Sb x 0 (.slice s t u) y fun z=>
 Sb x 1 (.bool v) z fun a0=>
 ∃ b0,a=some b0∧
 Es fun c0 d0 e0=>
 a0.drew.cell? (b0.add 7)=some (.slice c0 d0 e0)∧
 ∃ (f0:Option Addr) (g0 h0:Nat) (i0:Bool),
 cellsAt a0.drew (Addr.mk x 0 none) 0 [.slice f0 g0 h0,.bool i0]∧
 Cv F.z144 #[] a0.drew (fun j0 k0=>
 ∃ (l0:Option Addr),
 j0 = .pointer l0∧
 cellsAt k0 (Addr.mk x 0 none) 0 [.slice f0 g0 h0,.bool i0]∧
 k0.cell? (b0.add 7)=some (.slice c0 d0 e0)∧
 ∀ m0 n0,New k0 (.cells #[.slice f0 g0 h0,.bool i0,.pointer l0] T.table_index) m0 n0→
 n0.cell? (b0.add 7)=some (.slice c0 d0 e0)∧
 BuiltV prog .append #[T.s_table_index,T.s_table_index] T.s_table_index #[.slice c0 d0 e0,.slice (some (Addr.mk m0 0 none)) 1 1] n0 (fun o0 p0=>
 Es fun q0 r0 s0=>
 o0 = .slice q0 r0 s0∧
 ∃ t0,a=some t0∧
 CanSt p0 (t0.add 7)∧∀ u0,u0=p0.setCell (t0.add 7) (.slice q0 r0 s0)→
 n (IntKind.i64.wrap (p+(1:Int))) u0∧o (IntKind.i64.wrap (p+(1:Int))) u0 < o p q))) (
 K (.tuple #[]) q))
def An.z135:Ann:=⟨[(4,.sil 0 [] (.sil 1 [] (.sil 2 [] (.sil 3 [] (.sil 4 [6,8] (.sil 5 [6] (.act 6 (.sil 7 [] (.act 8 (.act 9 (.sil 10 [] (.sil 11 [] (.act 12 (.done))))))))))))))],[(2,[(18,3)],[0,16,17])],[]⟩
theorem R.z135 {a:Option Addr} {w:World} {K:Value→World→Prop} (h:C.z135 a w K):Cv F.z135 #[.pointer a] w K:=
 RR (an:=An.z135) Go.Proofs.Tryz.func71 (by kernel_rfl) (by kernel_rfl) h
def C.z132 (a:Option Addr) (b:ByteArray) (c:Option Addr) (d e:Nat) (w:World) (K:Value→World→Prop):Prop:=
 ifB a.isNone (
 K (.int .i64 1) w) (
 ∃ f,a=some f∧
 ∃ (g:Option Addr),
 w.cell? (f.add 6)=some (.pointer g)∧
 Cv F.z146 #[.pointer g,.string b] w (fun i j=>
 ∃ (k:Option Addr) (l m:Nat) (n:Bool),
 i = .tuple #[.slice k l m,.bool n]∧
 ifB (!n) (
 K (.int .i64 8) j) (
 ∃ o,a=some o∧
 E6 fun p q r s t u v x y z=>
 cellsAt j (o.add 0) 0 (L6 p q r s t u v x y z)∧
 Cv F.z141 #[A6 p q r s t u v x y z,.slice c d e] j (fun a0 b0=>
 ∃ (c0:Option Addr) (d0 e0:Nat) (f0:Int),
 a0 = .tuple #[.slice c0 d0 e0,.int .i64 f0]∧
 ifB (f0 != (0:Int)) (
 K (.int .i64 f0) b0) (
 Cv F.z134 #[.pointer a,.slice c0 d0 e0,.string b,.bool true] b0 (fun g0 h0=>
 ∃ (i0:Bool),
 g0 = .bool i0∧
 ifB i0 (
 K (.int .i64 9) h0) (
 Cv F.z140 #[.pointer a,.slice k l m] h0 (fun j0 k0=>
 j0 = .tuple #[]∧
 Cv F.z138 #[.pointer a,.slice c d e,.slice c0 d0 e0] k0 (fun l0 m0=>
 l0 = .tuple #[]∧
 K (.int .i64 0) m0)))))))))
def An.z132:Ann:=⟨[],[],[]⟩
theorem R.z132 {a:Option Addr} {b:ByteArray} {c:Option Addr} {d e:Nat} {w:World} {K:Value→World→Prop} (h:C.z132 a b c d e w K):Cv F.z132 #[.pointer a,.string b,.slice c d e] w K:=
 RR (an:=An.z132) Go.Proofs.Tryz.func73 (by kernel_rfl) (by kernel_rfl) h
def C.z120 (a:Option Addr) (b:ByteArray) (w:World) (K:Value→World→Prop):Prop:=
 ifB a.isNone (
 K (.int .i64 1) w) (
 ∃ c,a=some c∧
 ∃ (d:Option Addr),
 w.cell? (c.add 6)=some (.pointer d)∧
 Cv F.z146 #[.pointer d,.string b] w (fun e f=>
 ∃ (g:Option Addr) (i j:Nat) (k:Bool),
 e = .tuple #[.slice g i j,.bool k]∧
 ifB (!k) (
 K (.int .i64 8) f) (
 Cv F.z140 #[.pointer a,.slice g i j] f (fun l m=>
 l = .tuple #[]∧
 K (.int .i64 0) m))))
def An.z120:Ann:=⟨[],[],[]⟩
theorem R.z120 {a:Option Addr} {b:ByteArray} {w:World} {K:Value→World→Prop} (h:C.z120 a b w K):Cv F.z120 #[.pointer a,.string b] w K:=
 RR (an:=An.z120) Go.Proofs.Tryz.func74 (by kernel_rfl) (by kernel_rfl) h
def C.z58 (a:Option Addr) (b:Option Addr) (c d:Nat) (w:World) (K:Value→World→Prop):Prop:=
 ∀ e f,New w (.cells #[.int .i64 ((c:Nat):Int)] T.int) e f→
 Cv F.z60 #[.pointer a,.slice (some (Addr.mk e 0 none)) 1 1] f (fun g i=>
 ∃ (j:Option Addr),
 g = .pointer j∧
 ∃ (k:Int→World→Prop) (l:Int→World→Nat),
 k 0 i∧
 ∀ (m:Int) n,k m n→
 ifB (decide (m < ((c:Nat):Int))) (
 Iq b (m) c fun o=>
 Es fun p q r=>
 n.cell? (o.add (m.toNat * 1))=some (.slice p q r)∧
 Cv F.z57 #[.pointer a,.slice p q r] n (fun s t=>
 ∃ (u:Option Addr),
 s = .pointer u∧
 k (IntKind.i64.wrap (m+(1:Int))) t∧l (IntKind.i64.wrap (m+(1:Int))) t < l m n)) (
 K (.pointer a) n))
def An.z58:Ann:=⟨[],[(3,[(14,3)],[0,12,13])],[]⟩
theorem R.z58 {a:Option Addr} {b:Option Addr} {c d:Nat} {w:World} {K:Value→World→Prop} (h:C.z58 a b c d w K):Cv F.z58 #[.pointer a,.slice b c d] w K:=
 RR (an:=An.z58) Go.Proofs.Tryz.func75 (by kernel_rfl) (by kernel_rfl) h
def C.z61 (a:Option Addr) (w:World) (K:Value→World→Prop):Prop:=
 ifB a.isNone (
 K (.string (bs [])) w) (
 ∃ b,a=some b∧
 Cv F.z54 #[.pointer (some (b.add 0))] w (fun c d=>
 ∃ (e:ByteArray),
 c = .string e∧
 K (.string e) d))
def An.z61:Ann:=⟨[],[],[]⟩
theorem R.z61 {a:Option Addr} {w:World} {K:Value→World→Prop} (h:C.z61 a w K):Cv F.z61 #[.pointer a] w K:=
 RR (an:=An.z61) Go.Proofs.Tryz.func76 (by kernel_rfl) (by kernel_rfl) h
def C.z40 (b:Int) (w:World) (K:Value→World→Prop):Prop:=
 ifB (decide (b < (0:Int))) (
 Cv F.z35 #[.int .u64 0] w (fun c d=>
 ∃ (e:ByteArray),
 c = .string e∧
 K (.string e) d)) (
 Cv F.z35 #[.int .u64 (IntKind.u64.wrap b)] w (fun f g=>
 ∃ (i:ByteArray),
 f = .string i∧
 K (.string i) g))
def An.z40:Ann:=⟨[],[],[]⟩
theorem R.z40 {a:Int} {w:World} {K:Value→World→Prop} (h:C.z40 a w K):Cv F.z40 #[.int .i64 a] w K:=
 RR (an:=An.z40) Go.Proofs.Tryz.func77 (by kernel_rfl) (by kernel_rfl) h
def C.z36 (b:Option Addr) (c d:Nat) (w:World) (K:Value→World→Prop):Prop:=
 Cv F.z40 #[.int .i64 ((c:Nat):Int)] w (fun e f=>
 ∃ (g:ByteArray),
 e = .string g∧
 ∃ (i:ByteArray→Int→World→Prop) (j:ByteArray→Int→World→Nat),
 i g 0 f∧
 ∀ (k:ByteArray) (l:Int) m,i k l m→
 ifB (decide (l < ((c:Nat):Int))) (
 Iq b (l) c fun n=>
 ∃ (o:Int) (p:Int) (q:ByteArray),
 cellsAt m (n.add (l.toNat * 3)) 0 [.int .i64 o,.int .i64 p,.string q]∧
 Cv F.z42 #[.agg #[.int .i64 o,.int .i64 p,.string q]] m (fun r s=>
 ∃ (t:ByteArray),
 r = .string t∧
 k.size+t.size≤9223372036854775807∧
 i (k++t) (IntKind.i64.wrap (l+(1:Int))) s∧j (k++t) (IntKind.i64.wrap (l+(1:Int))) s < j k l m)) (
 K (.string k) m))
def An.z36:Ann:=⟨[],[(3,[(3,9),(4,3)],[0])],[]⟩
theorem R.z36 {a:Option Addr} {b c:Nat} {w:World} {K:Value→World→Prop} (h:C.z36 a b c w K):Cv F.z36 #[.slice a b c] w K:=
 RR (an:=An.z36) Go.Proofs.Tryz.func78 (by kernel_rfl) (by kernel_rfl) h
def C.z134 (a:Option Addr) (b:Option Addr) (c d:Nat) (e:ByteArray) (f:Bool) (w:World) (K:Value→World→Prop):Prop:=
 ∃ g,a=some g∧
 Es fun i j k=>
 w.cell? (g.add 7)=some (.slice i j k)∧
 ∃ (l:Int→World→Prop) (m:Int→World→Nat),
 l 0 w∧
 ∀ (n:Int) o,l n o→
 ifB (decide (n < ((j:Nat):Int))) (
 Iq i (n) j fun p=>
 ∃ (q:Option Addr) (r s:Nat) (t:Bool) (u:Option Addr),
 cellsAt o (p.add (n.toNat * 3)) 0 [.slice q r s,.bool t,.pointer u]∧
 ∀ v x,New o (.cells #[.slice none 0 0,.bool false,.pointer none] T.table_index) v x→
 Sb v 0 (.slice q r s) x fun y=>
 Sb v 1 (.bool t) y fun z=>
 Sb v 2 (.pointer u) z fun a0=>
 ∃ (b0:Option Addr),
 a0.drew.cell? ((Addr.mk v 0 none).add 2)=some (.pointer b0)∧
 Iq b (n) c fun c0=>
 ∃ (d0:ByteArray),
 a0.drew.cell? (c0.add (n.toNat * 1))=some (.string d0)∧
 Cv F.z150 #[.pointer b0,.string d0] a0.drew (fun e0 f0=>
 ∃ (g0:ByteArray) (h0:Bool),
 e0 = .tuple #[.string g0,.bool h0]∧
 ∃ (i0:Bool),
 f0.cell? (((Addr.mk v 0 none).add 0).add 1)=some (.bool i0)∧
 ifB i0 (
 ifB h0 (
 ifB f (
 ifB (!(sEq g0 e)) (
 K (.bool true) f0) (
 l (IntKind.i64.wrap (n+(1:Int))) f0∧m (IntKind.i64.wrap (n+(1:Int))) f0 < m n o)) (
 K (.bool true) f0)) (
 l (IntKind.i64.wrap (n+(1:Int))) f0∧m (IntKind.i64.wrap (n+(1:Int))) f0 < m n o)) (
 l (IntKind.i64.wrap (n+(1:Int))) f0∧m (IntKind.i64.wrap (n+(1:Int))) f0 < m n o))) (
 K (.bool false) o)
def An.z134:Ann:=⟨[(4,.sil 0 [] (.sil 1 [] (.sil 2 [] (.sil 3 [] (.sil 4 [] (.sil 5 [] (.act 6 (.sil 7 [] (.sil 8 [] (.sil 9 [] (.sil 10 [] (.sil 11 [] (.done)))))))))))))],[(2,[(18,3)],[1,2,3,16,17])],[]⟩
theorem R.z134 {a:Option Addr} {b:Option Addr} {c d:Nat} {e:ByteArray} {f:Bool} {w:World} {K:Value→World→Prop} (h:C.z134 a b c d e f w K):Cv F.z134 #[.pointer a,.slice b c d,.string e,.bool f] w K:=
 RR (an:=An.z134) Go.Proofs.Tryz.func79 (by kernel_rfl) (by kernel_rfl) h
def C.z138 (a:Option Addr) (b:Option Addr) (c d:Nat) (e:Option Addr) (f g:Nat) (w:World) (K:Value→World→Prop):Prop:=
 ∃ i,a=some i∧
 ∃ (j:Option Addr),
 w.drew.cell? (i.add 6)=some (.pointer j)∧
 Iq e ((0:Int)) f fun k=>
 ∃ (l:ByteArray),
 w.drew.cell? (k.add ((0:Int).toNat * 1))=some (.string l)∧
 Cv F.z90 #[.slice b c d] w.drew (fun m n=>
 Es fun o p q=>
 m = .slice o p q∧
 n.cell? (k.add ((0:Int).toNat * 1))=some (.string l)∧
 n.cell? (i.add 6)=some (.pointer j)∧
 Cv F.z148 #[.pointer j,.string l,.slice o p q] n (fun r s=>
 ∃ (t:Option Addr) (u v:Nat) (x:Bool),
 r = .tuple #[.slice t u v,.bool x]∧
 ∃ y,a=some y∧
 Es fun z a0 b0=>
 s.cell? (y.add 7)=some (.slice z a0 b0)∧
 ∃ (c0:Int→World→Prop) (d0:Int→World→Nat),
 c0 0 s∧
 ∀ (e0:Int) f0,c0 e0 f0→
 ifB (decide (e0 < ((a0:Nat):Int))) (
 Iq z (e0) a0 fun g0=>
 ∃ (h0:Option Addr) (i0 j0:Nat) (k0:Bool) (l0:Option Addr),
 cellsAt f0 (g0.add (e0.toNat * 3)) 0 [.slice h0 i0 j0,.bool k0,.pointer l0]∧
 ∀ m0 n0,New f0 (.cells #[.slice none 0 0,.bool false,.pointer none] T.table_index) m0 n0→
 Sb m0 0 (.slice h0 i0 j0) n0 fun o0=>
 Sb m0 1 (.bool k0) o0 fun p0=>
 Sb m0 2 (.pointer l0) p0 fun q0=>
 ∃ (r0:Option Addr),
 q0.drew.cell? ((Addr.mk m0 0 none).add 2)=some (.pointer r0)∧
 Iq e (e0) f fun s0=>
 ∃ (t0:ByteArray),
 q0.drew.cell? (s0.add (e0.toNat * 1))=some (.string t0)∧
 Iq e ((0:Int)) f fun u0=>
 ∃ (v0:ByteArray),
 q0.drew.cell? (u0.add ((0:Int).toNat * 1))=some (.string v0)∧
 Cv F.z153 #[.pointer r0,.string t0,.string v0] q0.drew (fun w0 x0=>
 ∃ (y0:ByteArray) (z0:Bool),
 w0 = .tuple #[.string y0,.bool z0]∧
 c0 (IntKind.i64.wrap (e0+(1:Int))) x0∧d0 (IntKind.i64.wrap (e0+(1:Int))) x0 < d0 e0 f0)) (
 K (.tuple #[]) f0)))
def An.z138:Ann:=⟨[(0,.sil 0 [] (.sil 1 [] (.sil 2 [] (.sil 3 [8] (.sil 4 [] (.sil 5 [] (.sil 6 [8] (.sil 7 [] (.act 8 (.act 9 (.done))))))))))),(4,.sil 0 [] (.sil 1 [] (.sil 2 [] (.sil 3 [] (.sil 4 [] (.sil 5 [] (.sil 6 [] (.sil 7 [] (.sil 8 [] (.act 9 (.done)))))))))))],[(2,[(23,3)],[2,21,22])],[]⟩
theorem R.z138 {a:Option Addr} {b:Option Addr} {c d:Nat} {e:Option Addr} {f g:Nat} {w:World} {K:Value→World→Prop} (h:C.z138 a b c d e f g w K):Cv F.z138 #[.pointer a,.slice b c d,.slice e f g] w K:=
 RR (an:=An.z138) Go.Proofs.Tryz.func80 (by kernel_rfl) (by kernel_rfl) h
def C.z8 (b:ByteArray) (c:Option Addr) (d e:Nat) (f:Option Addr) (g i:Nat) (j:Int) (k:Int) (l:Int) (m:Option Addr) (n o:Nat) (p:Int) (q:Int) (r:ByteArray) (s:Option Addr) (t u:Nat) (v:Option Addr) (x y:Nat) (w:World) (K:Value→World→Prop):Prop:=
 ∀ z a0,New w (.cells #[.string b,.slice c d e,.slice f g i,.int .i64 j,.int .i64 k,.int .i64 l,.slice m n o] T.affluxref09_Model) z a0→
 ∀ b0 c0,New a0 (.cells #[.int .i64 p,.int .i64 q,.string r,.slice s t u,.slice v x y] T.affluxlaw09_Act) b0 c0→
 Es fun d0 e0 f0=>
 c0.cell? ((Addr.mk z 0 none).add 6)=some (.slice d0 e0 f0)∧
 ifB (((e0:Nat):Int) == (0:Int)) (
 ∃ (g0:ByteArray),
 c0.cell? ((Addr.mk b0 0 none).add 2)=some (.string g0)∧
 K (.string g0) c0) (
 ∃ (h0:Int),
 c0.cell? ((Addr.mk b0 0 none).add 1)=some (.int .i64 h0)∧
 ifB (decide (h0 < (0:Int))) (
 ∃ (i0:ByteArray),
 c0.cell? ((Addr.mk b0 0 none).add 2)=some (.string i0)∧
 K (.string i0) c0) (
 E6 fun j0 k0 l0 m0 n0 o0 p0 q0 r0 s0=>
 cellsAt c0.drew ((Addr.mk z 0 none).add 0) 0 (L6 j0 k0 l0 m0 n0 o0 p0 q0 r0 s0)∧
 Es fun t0 u0 v0=>
 c0.drew.cell? ((Addr.mk z 0 none).add 6)=some (.slice t0 u0 v0)∧
 ∃ (w0:Int),
 c0.drew.cell? ((Addr.mk b0 0 none).add 1)=some (.int .i64 w0)∧
 Es fun x0 y0 z0=>
 c0.drew.cell? ((Addr.mk z 0 none).add 6)=some (.slice x0 y0 z0)∧
 ((y0:Nat):Int)≠0∧
 Iq t0 (Int.tmod w0 ((y0:Nat):Int)) u0 fun a1=>
 Es fun b1 c1 d1=>
 c0.drew.cell? (a1.add ((Int.tmod w0 ((y0:Nat):Int)).toNat * 1))=some (.slice b1 c1 d1)∧
 Cv F.z28 #[A6 j0 k0 l0 m0 n0 o0 p0 q0 r0 s0,.int .i64 0,.slice b1 c1 d1] c0.drew (fun e1 f1=>
 ∃ (g1:ByteArray),
 e1 = .string g1∧
 K (.string g1) f1)))
def An.z8:Ann:=⟨[(3,.sil 0 [] (.sil 1 [] (.sil 2 [] (.sil 3 [] (.sil 4 [] (.sil 5 [] (.sil 6 [] (.sil 7 [] (.sil 8 [] (.sil 9 [] (.sil 10 [] (.sil 11 [] (.act 12 (.sil 13 [] (.done)))))))))))))))],[],[]⟩
theorem R.z8 {a:ByteArray} {b:Option Addr} {c d:Nat} {e:Option Addr} {f g:Nat} {i:Int} {j:Int} {k:Int} {l:Option Addr} {m n:Nat} {o:Int} {p:Int} {q:ByteArray} {r:Option Addr} {s t:Nat} {u:Option Addr} {v x:Nat} {w:World} {K:Value→World→Prop} (h:C.z8 a b c d e f g i j k l m n o p q r s t u v x w K):Cv F.z8 #[.agg #[.string a,.slice b c d,.slice e f g,.int .i64 i,.int .i64 j,.int .i64 k,.slice l m n],.agg #[.int .i64 o,.int .i64 p,.string q,.slice r s t,.slice u v x]] w K:=
 RR (an:=An.z8) Go.Proofs.Tryz.func81 (by kernel_rfl) (by kernel_rfl) h
def C.z46 (b:ByteArray) (c:Option Addr) (d e:Nat) (f:Option Addr) (g i:Nat) (j:Int) (k:Int) (l:Int) (m:Option Addr) (n o:Nat) (p:Option Addr) (q r:Nat) (w:World) (K:Value→World→Prop):Prop:=
 ∀ s t,New w (.cells #[.string b,.slice c d e,.slice f g i,.int .i64 j,.int .i64 k,.int .i64 l,.slice m n o] T.affluxref09_Model) s t→
 ∀ u v,New t (.cells #[.string (bs []),.slice none 0 0,.slice none 0 0,.int .i64 0,.int .i64 0,.int .i64 0,.slice none 0 0] T.affluxref09_Model) u v→
 E6 fun x y z a0 b0 c0 d0 e0 f0 g0=>
 cellsAt v ((Addr.mk s 0 none).add 0) 0 (L6 x y z a0 b0 c0 d0 e0 f0 g0)∧
 Cv F.z26 #[A6 x y z a0 b0 c0 d0 e0 f0 g0,.slice p q r] v (fun h0 i0=>
 ∃ (j0:Bool),
 h0 = .bool j0∧
 ifB (!j0) (
 E7 fun k0 l0 m0 n0 o0 p0 q0 r0 s0 t0 u0 v0 w0=>
 cellsAt i0 (Addr.mk s 0 none) 0 (L7 k0 l0 m0 n0 o0 p0 q0 r0 s0 t0 u0 v0 w0)∧
 Sb u 0 (.string k0) i0 fun x0=>
 Sb u 1 (.slice l0 m0 n0) x0 fun y0=>
 Sb u 2 (.slice o0 p0 q0) y0 fun z0=>
 Sb u 3 (.int .i64 r0) z0 fun a1=>
 Sb u 4 (.int .i64 s0) a1 fun b1=>
 Sb u 5 (.int .i64 t0) b1 fun c1=>
 Sb u 6 (.slice u0 v0 w0) c1 fun d1=>
 E7 fun e1 f1 g1 h1 i1 j1 k1 l1 m1 n1 o1 p1 q1=>
 cellsAt d1 (Addr.mk u 0 none) 0 (L7 e1 f1 g1 h1 i1 j1 k1 l1 m1 n1 o1 p1 q1)∧
 K (.tuple #[A7 e1 f1 g1 h1 i1 j1 k1 l1 m1 n1 o1 p1 q1,.int .i64 13]) d1) (
 E7 fun r1 s1 t1 u1 v1 w1 x1 y1 z1 a2 b2 c2 d2=>
 cellsAt i0 (Addr.mk s 0 none) 0 (L7 r1 s1 t1 u1 v1 w1 x1 y1 z1 a2 b2 c2 d2)∧
 Cv F.z49 #[A7 r1 s1 t1 u1 v1 w1 x1 y1 z1 a2 b2 c2 d2,.slice p q r,.int .i64 (-1)] i0 (fun e2 f2=>
 ∃ (g2:Bool),
 e2 = .bool g2∧
 ifB g2 (
 E7 fun h2 i2 j2 k2 l2 m2 n2 o2 p2 q2 r2 s2 t2=>
 cellsAt f2 (Addr.mk s 0 none) 0 (L7 h2 i2 j2 k2 l2 m2 n2 o2 p2 q2 r2 s2 t2)∧
 Sb u 0 (.string h2) f2 fun u2=>
 Sb u 1 (.slice i2 j2 k2) u2 fun v2=>
 Sb u 2 (.slice l2 m2 n2) v2 fun w2=>
 Sb u 3 (.int .i64 o2) w2 fun x2=>
 Sb u 4 (.int .i64 p2) x2 fun y2=>
 Sb u 5 (.int .i64 q2) y2 fun z2=>
 Sb u 6 (.slice r2 s2 t2) z2 fun a3=>
 E7 fun b3 c3 d3 e3 f3 g3 h3 i3 j3 k3 l3 m3 n3=>
 cellsAt a3 (Addr.mk u 0 none) 0 (L7 b3 c3 d3 e3 f3 g3 h3 i3 j3 k3 l3 m3 n3)∧
 K (.tuple #[A7 b3 c3 d3 e3 f3 g3 h3 i3 j3 k3 l3 m3 n3,.int .i64 9]) a3) (
 Es fun o3 p3 q3=>
 f2.cell? ((Addr.mk s 0 none).add 6)=some (.slice o3 p3 q3)∧
 ∃ (r3:Int),
 f2.cell? (((Addr.mk s 0 none).add 0).add 3)=some (.int .i64 r3)∧
 ifB (decide (r3≤((p3:Nat):Int))) (
 E7 fun s3 t3 u3 v3 w3 x3 y3 z3 a4 b4 c4 d4 e4=>
 cellsAt f2 (Addr.mk s 0 none) 0 (L7 s3 t3 u3 v3 w3 x3 y3 z3 a4 b4 c4 d4 e4)∧
 Sb u 0 (.string s3) f2 fun f4=>
 Sb u 1 (.slice t3 u3 v3) f4 fun g4=>
 Sb u 2 (.slice w3 x3 y3) g4 fun h4=>
 Sb u 3 (.int .i64 z3) h4 fun i4=>
 Sb u 4 (.int .i64 a4) i4 fun j4=>
 Sb u 5 (.int .i64 b4) j4 fun k4=>
 Sb u 6 (.slice c4 d4 e4) k4 fun l4=>
 E7 fun m4 n4 o4 p4 q4 r4 s4 t4 u4 v4 w4 x4 y4=>
 cellsAt l4 (Addr.mk u 0 none) 0 (L7 m4 n4 o4 p4 q4 r4 s4 t4 u4 v4 w4 x4 y4)∧
 K (.tuple #[A7 m4 n4 o4 p4 q4 r4 s4 t4 u4 v4 w4 x4 y4,.int .i64 15]) l4) (
 E7 fun z4 a5 b5 c5 d5 e5 f5 g5 h5 i5 j5 k5 l5=>
 cellsAt f2 (Addr.mk s 0 none) 0 (L7 z4 a5 b5 c5 d5 e5 f5 g5 h5 i5 j5 k5 l5)∧
 Cv F.z50 #[A7 z4 a5 b5 c5 d5 e5 f5 g5 h5 i5 j5 k5 l5,.slice p q r,.int .i64 (-1),.bool true] f2 (fun m5 n5=>
 E7 fun o5 p5 q5 r5 s5 t5 u5 v5 w5 x5 y5 z5 a6=>
 m5=A7 o5 p5 q5 r5 s5 t5 u5 v5 w5 x5 y5 z5 a6∧
 Sb u 0 (.string o5) n5 fun b6=>
 Sb u 1 (.slice p5 q5 r5) b6 fun c6=>
 Sb u 2 (.slice s5 t5 u5) c6 fun d6=>
 Sb u 3 (.int .i64 v5) d6 fun e6=>
 Sb u 4 (.int .i64 w5) e6 fun f6=>
 Sb u 5 (.int .i64 x5) f6 fun g6=>
 Sb u 6 (.slice y5 z5 a6) g6 fun h6=>
 E7 fun i6 j6 k6 l6 m6 n6 o6 p6 q6 r6 s6 t6 u6=>
 cellsAt h6 (Addr.mk u 0 none) 0 (L7 i6 j6 k6 l6 m6 n6 o6 p6 q6 r6 s6 t6 u6)∧
 K (.tuple #[A7 i6 j6 k6 l6 m6 n6 o6 p6 q6 r6 s6 t6 u6,.int .i64 0]) h6))))))
def An.z46:Ann:=⟨[],[],[]⟩
theorem R.z46 {a:ByteArray} {b:Option Addr} {c d:Nat} {e:Option Addr} {f g:Nat} {i:Int} {j:Int} {k:Int} {l:Option Addr} {m n:Nat} {o:Option Addr} {p q:Nat} {w:World} {K:Value→World→Prop} (h:C.z46 a b c d e f g i j k l m n o p q w K):Cv F.z46 #[.agg #[.string a,.slice b c d,.slice e f g,.int .i64 i,.int .i64 j,.int .i64 k,.slice l m n],.slice o p q] w K:=
 RR (an:=An.z46) Go.Proofs.Tryz.func82 (by kernel_rfl) (by kernel_rfl) h
def C.z48 (b:ByteArray) (c:Option Addr) (d e:Nat) (f:Option Addr) (g i:Nat) (j:Int) (k:Int) (l:Int) (m:Option Addr) (n o:Nat) (p:ByteArray) (q:Option Addr) (r s:Nat) (w:World) (K:Value→World→Prop):Prop:=
 ∀ t u,New w (.cells #[.string b,.slice c d e,.slice f g i,.int .i64 j,.int .i64 k,.int .i64 l,.slice m n o] T.affluxref09_Model) t u→
 ∀ v x,New u (.cells #[.string (bs []),.slice none 0 0,.slice none 0 0,.int .i64 0,.int .i64 0,.int .i64 0,.slice none 0 0] T.affluxref09_Model) v x→
 E7 fun y z a0 b0 c0 d0 e0 f0 g0 h0 i0 j0 k0=>
 cellsAt x (Addr.mk t 0 none) 0 (L7 y z a0 b0 c0 d0 e0 f0 g0 h0 i0 j0 k0)∧
 Cv F.z45 #[A7 y z a0 b0 c0 d0 e0 f0 g0 h0 i0 j0 k0,.string p] x (fun l0 m0=>
 ∃ (n0:Int),
 l0 = .int .i64 n0∧
 ifB (decide (n0 < (0:Int))) (
 E7 fun o0 p0 q0 r0 s0 t0 u0 v0 w0 x0 y0 z0 a1=>
 cellsAt m0 (Addr.mk t 0 none) 0 (L7 o0 p0 q0 r0 s0 t0 u0 v0 w0 x0 y0 z0 a1)∧
 Sb v 0 (.string o0) m0 fun b1=>
 Sb v 1 (.slice p0 q0 r0) b1 fun c1=>
 Sb v 2 (.slice s0 t0 u0) c1 fun d1=>
 Sb v 3 (.int .i64 v0) d1 fun e1=>
 Sb v 4 (.int .i64 w0) e1 fun f1=>
 Sb v 5 (.int .i64 x0) f1 fun g1=>
 Sb v 6 (.slice y0 z0 a1) g1 fun h1=>
 E7 fun i1 j1 k1 l1 m1 n1 o1 p1 q1 r1 s1 t1 u1=>
 cellsAt h1 (Addr.mk v 0 none) 0 (L7 i1 j1 k1 l1 m1 n1 o1 p1 q1 r1 s1 t1 u1)∧
 K (.tuple #[A7 i1 j1 k1 l1 m1 n1 o1 p1 q1 r1 s1 t1 u1,.int .i64 8]) h1) (
 E6 fun v1 w1 x1 y1 z1 a2 b2 c2 d2 e2=>
 cellsAt m0 ((Addr.mk t 0 none).add 0) 0 (L6 v1 w1 x1 y1 z1 a2 b2 c2 d2 e2)∧
 Cv F.z26 #[A6 v1 w1 x1 y1 z1 a2 b2 c2 d2 e2,.slice q r s] m0 (fun f2 g2=>
 ∃ (h2:Bool),
 f2 = .bool h2∧
 ifB (!h2) (
 E7 fun i2 j2 k2 l2 m2 n2 o2 p2 q2 r2 s2 t2 u2=>
 cellsAt g2 (Addr.mk t 0 none) 0 (L7 i2 j2 k2 l2 m2 n2 o2 p2 q2 r2 s2 t2 u2)∧
 Sb v 0 (.string i2) g2 fun v2=>
 Sb v 1 (.slice j2 k2 l2) v2 fun w2=>
 Sb v 2 (.slice m2 n2 o2) w2 fun x2=>
 Sb v 3 (.int .i64 p2) x2 fun y2=>
 Sb v 4 (.int .i64 q2) y2 fun z2=>
 Sb v 5 (.int .i64 r2) z2 fun a3=>
 Sb v 6 (.slice s2 t2 u2) a3 fun b3=>
 E7 fun c3 d3 e3 f3 g3 h3 i3 j3 k3 l3 m3 n3 o3=>
 cellsAt b3 (Addr.mk v 0 none) 0 (L7 c3 d3 e3 f3 g3 h3 i3 j3 k3 l3 m3 n3 o3)∧
 K (.tuple #[A7 c3 d3 e3 f3 g3 h3 i3 j3 k3 l3 m3 n3 o3,.int .i64 13]) b3) (
 E7 fun p3 q3 r3 s3 t3 u3 v3 w3 x3 y3 z3 a4 b4=>
 cellsAt g2 (Addr.mk t 0 none) 0 (L7 p3 q3 r3 s3 t3 u3 v3 w3 x3 y3 z3 a4 b4)∧
 Cv F.z49 #[A7 p3 q3 r3 s3 t3 u3 v3 w3 x3 y3 z3 a4 b4,.slice q r s,.int .i64 n0] g2 (fun c4 d4=>
 ∃ (e4:Bool),
 c4 = .bool e4∧
 ifB e4 (
 E7 fun f4 g4 h4 i4 j4 k4 l4 m4 n4 o4 p4 q4 r4=>
 cellsAt d4 (Addr.mk t 0 none) 0 (L7 f4 g4 h4 i4 j4 k4 l4 m4 n4 o4 p4 q4 r4)∧
 Sb v 0 (.string f4) d4 fun s4=>
 Sb v 1 (.slice g4 h4 i4) s4 fun t4=>
 Sb v 2 (.slice j4 k4 l4) t4 fun u4=>
 Sb v 3 (.int .i64 m4) u4 fun v4=>
 Sb v 4 (.int .i64 n4) v4 fun w4=>
 Sb v 5 (.int .i64 o4) w4 fun x4=>
 Sb v 6 (.slice p4 q4 r4) x4 fun y4=>
 E7 fun z4 a5 b5 c5 d5 e5 f5 g5 h5 i5 j5 k5 l5=>
 cellsAt y4 (Addr.mk v 0 none) 0 (L7 z4 a5 b5 c5 d5 e5 f5 g5 h5 i5 j5 k5 l5)∧
 K (.tuple #[A7 z4 a5 b5 c5 d5 e5 f5 g5 h5 i5 j5 k5 l5,.int .i64 9]) y4) (
 E7 fun m5 n5 o5 p5 q5 r5 s5 t5 u5 v5 w5 x5 y5=>
 cellsAt d4 (Addr.mk t 0 none) 0 (L7 m5 n5 o5 p5 q5 r5 s5 t5 u5 v5 w5 x5 y5)∧
 Cv F.z50 #[A7 m5 n5 o5 p5 q5 r5 s5 t5 u5 v5 w5 x5 y5,.slice q r s,.int .i64 n0,.bool true] d4 (fun z5 a6=>
 E7 fun b6 c6 d6 e6 f6 g6 h6 i6 j6 k6 l6 m6 n6=>
 z5=A7 b6 c6 d6 e6 f6 g6 h6 i6 j6 k6 l6 m6 n6∧
 Sb v 0 (.string b6) a6 fun o6=>
 Sb v 1 (.slice c6 d6 e6) o6 fun p6=>
 Sb v 2 (.slice f6 g6 h6) p6 fun q6=>
 Sb v 3 (.int .i64 i6) q6 fun r6=>
 Sb v 4 (.int .i64 j6) r6 fun s6=>
 Sb v 5 (.int .i64 k6) s6 fun t6=>
 Sb v 6 (.slice l6 m6 n6) t6 fun u6=>
 E7 fun v6 w6 x6 y6 z6 a7 b7 c7 d7 e7 f7 g7 h7=>
 cellsAt u6 (Addr.mk v 0 none) 0 (L7 v6 w6 x6 y6 z6 a7 b7 c7 d7 e7 f7 g7 h7)∧
 K (.tuple #[A7 v6 w6 x6 y6 z6 a7 b7 c7 d7 e7 f7 g7 h7,.int .i64 0]) u6)))))))
def An.z48:Ann:=⟨[],[],[]⟩
theorem R.z48 {a:ByteArray} {b:Option Addr} {c d:Nat} {e:Option Addr} {f g:Nat} {i:Int} {j:Int} {k:Int} {l:Option Addr} {m n:Nat} {o:ByteArray} {p:Option Addr} {q r:Nat} {w:World} {K:Value→World→Prop} (h:C.z48 a b c d e f g i j k l m n o p q r w K):Cv F.z48 #[.agg #[.string a,.slice b c d,.slice e f g,.int .i64 i,.int .i64 j,.int .i64 k,.slice l m n],.string o,.slice p q r] w K:=
 RR (an:=An.z48) Go.Proofs.Tryz.func83 (by kernel_rfl) (by kernel_rfl) h
def C.z44 (b:ByteArray) (c:Option Addr) (d e:Nat) (f:Option Addr) (g i:Nat) (j:Int) (k:Int) (l:Int) (m:Option Addr) (n o:Nat) (p:ByteArray) (w:World) (K:Value→World→Prop):Prop:=
 ∀ q r,New w (.cells #[.string b,.slice c d e,.slice f g i,.int .i64 j,.int .i64 k,.int .i64 l,.slice m n o] T.affluxref09_Model) q r→
 ∀ s t,New r (.cells #[.string (bs []),.slice none 0 0,.slice none 0 0,.int .i64 0,.int .i64 0,.int .i64 0,.slice none 0 0] T.affluxref09_Model) s t→
 E7 fun u v x y z a0 b0 c0 d0 e0 f0 g0 h0=>
 cellsAt t (Addr.mk q 0 none) 0 (L7 u v x y z a0 b0 c0 d0 e0 f0 g0 h0)∧
 Cv F.z45 #[A7 u v x y z a0 b0 c0 d0 e0 f0 g0 h0,.string p] t (fun i0 j0=>
 ∃ (k0:Int),
 i0 = .int .i64 k0∧
 ifB (decide (k0 < (0:Int))) (
 E7 fun l0 m0 n0 o0 p0 q0 r0 s0 t0 u0 v0 w0 x0=>
 cellsAt j0 (Addr.mk q 0 none) 0 (L7 l0 m0 n0 o0 p0 q0 r0 s0 t0 u0 v0 w0 x0)∧
 Sb s 0 (.string l0) j0 fun y0=>
 Sb s 1 (.slice m0 n0 o0) y0 fun z0=>
 Sb s 2 (.slice p0 q0 r0) z0 fun a1=>
 Sb s 3 (.int .i64 s0) a1 fun b1=>
 Sb s 4 (.int .i64 t0) b1 fun c1=>
 Sb s 5 (.int .i64 u0) c1 fun d1=>
 Sb s 6 (.slice v0 w0 x0) d1 fun e1=>
 E7 fun f1 g1 h1 i1 j1 k1 l1 m1 n1 o1 p1 q1 r1=>
 cellsAt e1 (Addr.mk s 0 none) 0 (L7 f1 g1 h1 i1 j1 k1 l1 m1 n1 o1 p1 q1 r1)∧
 K (.tuple #[A7 f1 g1 h1 i1 j1 k1 l1 m1 n1 o1 p1 q1 r1,.int .i64 8]) e1) (
 E7 fun s1 t1 u1 v1 w1 x1 y1 z1 a2 b2 c2 d2 e2=>
 cellsAt j0 (Addr.mk q 0 none) 0 (L7 s1 t1 u1 v1 w1 x1 y1 z1 a2 b2 c2 d2 e2)∧
 Cv F.z50 #[A7 s1 t1 u1 v1 w1 x1 y1 z1 a2 b2 c2 d2 e2,.slice none 0 0,.int .i64 k0,.bool false] j0 (fun f2 g2=>
 E7 fun h2 i2 j2 k2 l2 m2 n2 o2 p2 q2 r2 s2 t2=>
 f2=A7 h2 i2 j2 k2 l2 m2 n2 o2 p2 q2 r2 s2 t2∧
 Sb s 0 (.string h2) g2 fun u2=>
 Sb s 1 (.slice i2 j2 k2) u2 fun v2=>
 Sb s 2 (.slice l2 m2 n2) v2 fun w2=>
 Sb s 3 (.int .i64 o2) w2 fun x2=>
 Sb s 4 (.int .i64 p2) x2 fun y2=>
 Sb s 5 (.int .i64 q2) y2 fun z2=>
 Sb s 6 (.slice r2 s2 t2) z2 fun a3=>
 E7 fun b3 c3 d3 e3 f3 g3 h3 i3 j3 k3 l3 m3 n3=>
 cellsAt a3 (Addr.mk s 0 none) 0 (L7 b3 c3 d3 e3 f3 g3 h3 i3 j3 k3 l3 m3 n3)∧
 K (.tuple #[A7 b3 c3 d3 e3 f3 g3 h3 i3 j3 k3 l3 m3 n3,.int .i64 0]) a3)))
def An.z44:Ann:=⟨[],[],[]⟩
theorem R.z44 {a:ByteArray} {b:Option Addr} {c d:Nat} {e:Option Addr} {f g:Nat} {i:Int} {j:Int} {k:Int} {l:Option Addr} {m n:Nat} {o:ByteArray} {w:World} {K:Value→World→Prop} (h:C.z44 a b c d e f g i j k l m n o w K):Cv F.z44 #[.agg #[.string a,.slice b c d,.slice e f g,.int .i64 i,.int .i64 j,.int .i64 k,.slice l m n],.string o] w K:=
 RR (an:=An.z44) Go.Proofs.Tryz.func84 (by kernel_rfl) (by kernel_rfl) h
def C.z47 (b:ByteArray) (c:Option Addr) (d e:Nat) (f:Option Addr) (g i:Nat) (j:Int) (k:Int) (l:Int) (m:Option Addr) (n o:Nat) (p:Option Addr) (q r:Nat) (w:World) (K:Value→World→Prop):Prop:=
 ∀ s t,New w (.cells #[.string b,.slice c d e,.slice f g i,.int .i64 j,.int .i64 k,.int .i64 l,.slice m n o] T.affluxref09_Model) s t→
 ∀ u v,New t (.cells #[.string (bs []),.slice none 0 0,.slice none 0 0,.int .i64 0,.int .i64 0,.int .i64 0,.slice none 0 0] T.affluxref09_Model) u v→
 E6 fun x y z a0 b0 c0 d0 e0 f0 g0=>
 cellsAt v ((Addr.mk s 0 none).add 0) 0 (L6 x y z a0 b0 c0 d0 e0 f0 g0)∧
 ∀ h0 i0,New v (.cells #[.string (bs []),.slice none 0 0,.slice none 0 0,.int .i64 0,.int .i64 0,.int .i64 0,.slice none 0 0] T.affluxref09_Model) h0 i0→
 Sb h0 0 (.string x) i0 fun j0=>
 Sb h0 1 (.slice y z a0) j0 fun k0=>
 Sb h0 2 (.slice b0 c0 d0) k0 fun l0=>
 Sb h0 3 (.int .i64 e0) l0 fun m0=>
 Sb h0 4 (.int .i64 f0) m0 fun n0=>
 Sb h0 5 (.int .i64 g0) n0 fun o0=>
 Sb h0 6 (.slice none 0 0) o0 fun p0=>
 ∃ (q0:Int→World→Prop) (r0:Int→World→Nat),
 q0 0 p0∧
 ∀ (s0:Int) t0,q0 s0 t0→
 ifB (decide (s0 < ((q:Nat):Int))) (
 E7 fun u0 v0 w0 x0 y0 z0 a1 b1 c1 d1 e1 f1 g1=>
 cellsAt t0.drew (Addr.mk h0 0 none) 0 (L7 u0 v0 w0 x0 y0 z0 a1 b1 c1 d1 e1 f1 g1)∧
 Iq p (s0) q fun h1=>
 Es fun i1 j1 k1=>
 t0.drew.cell? (h1.add (s0.toNat * 1))=some (.slice i1 j1 k1)∧
 (Cv F.z46 #[A7 u0 v0 w0 x0 y0 z0 a1 b1 c1 d1 e1 f1 g1,.slice i1 j1 k1] t0.drew (fun l1 m1=>
 ∃ (n1:ByteArray) (o1:Option Addr) (p1 q1:Nat) (r1:Option Addr) (s1 t1:Nat) (u1:Int) (v1:Int) (w1:Int) (x1:Option Addr) (y1 z1:Nat) (a2:Int),
 l1 = .tuple #[A7 n1 o1 p1 q1 r1 s1 t1 u1 v1 w1 x1 y1 z1,.int .i64 a2]∧
 ∀ b2 c2,New m1 (.cells #[.string (bs []),.slice none 0 0,.slice none 0 0,.int .i64 0,.int .i64 0,.int .i64 0,.slice none 0 0] T.affluxref09_Model) b2 c2→
 c2.cell? (h1.add (s0.toNat * 1))=some (.slice i1 j1 k1)∧
 cellsAt c2 (Addr.mk h0 0 none) 0 (L7 u0 v0 w0 x0 y0 z0 a1 b1 c1 d1 e1 f1 g1)∧
 Sb b2 0 (.string n1) c2 fun d2=>
 Sb b2 1 (.slice o1 p1 q1) d2 fun e2=>
 Sb b2 2 (.slice r1 s1 t1) e2 fun f2=>
 Sb b2 3 (.int .i64 u1) f2 fun g2=>
 Sb b2 4 (.int .i64 v1) g2 fun h2=>
 Sb b2 5 (.int .i64 w1) h2 fun i2=>
 Sb b2 6 (.slice x1 y1 z1) i2 fun j2=>
 ifB (a2 != (0:Int)) (
 E6 fun k2 l2 m2 n2 o2 p2 q2 r2 s2 t2=>
 cellsAt j2 ((Addr.mk s 0 none).add 0) 0 (L6 k2 l2 m2 n2 o2 p2 q2 r2 s2 t2)∧
 Sb u 0 (.string k2) j2 fun u2=>
 Sb u 1 (.slice l2 m2 n2) u2 fun v2=>
 Sb u 2 (.slice o2 p2 q2) v2 fun w2=>
 Sb u 3 (.int .i64 r2) w2 fun x2=>
 Sb u 4 (.int .i64 s2) x2 fun y2=>
 Sb u 5 (.int .i64 t2) y2 fun z2=>
 Sb u 6 (.slice none 0 0) z2 fun a3=>
 E7 fun b3 c3 d3 e3 f3 g3 h3 i3 j3 k3 l3 m3 n3=>
 cellsAt a3 (Addr.mk u 0 none) 0 (L7 b3 c3 d3 e3 f3 g3 h3 i3 j3 k3 l3 m3 n3)∧
 K (.tuple #[A7 b3 c3 d3 e3 f3 g3 h3 i3 j3 k3 l3 m3 n3,.int .i64 a2]) a3) (
 E7 fun o3 p3 q3 r3 s3 t3 u3 v3 w3 x3 y3 z3 a4=>
 cellsAt j2 (Addr.mk b2 0 none) 0 (L7 o3 p3 q3 r3 s3 t3 u3 v3 w3 x3 y3 z3 a4)∧
 Sb h0 0 (.string o3) j2 fun b4=>
 Sb h0 1 (.slice p3 q3 r3) b4 fun c4=>
 Sb h0 2 (.slice s3 t3 u3) c4 fun d4=>
 Sb h0 3 (.int .i64 v3) d4 fun e4=>
 Sb h0 4 (.int .i64 w3) e4 fun f4=>
 Sb h0 5 (.int .i64 x3) f4 fun g4=>
 Sb h0 6 (.slice y3 z3 a4) g4 fun h4=>
 q0 (IntKind.i64.wrap (s0+(1:Int))) h4∧r0 (IntKind.i64.wrap (s0+(1:Int))) h4 < r0 s0 t0)))∧
 (∀ i4 j4,New t0.drew (.cells #[.string (bs []),.slice none 0 0,.slice none 0 0,.int .i64 0,.int .i64 0,.int .i64 0,.slice none 0 0] T.affluxref09_Model) i4 j4→
 j4.cell? (h1.add (s0.toNat * 1))=some (.slice i1 j1 k1)∧
 cellsAt j4 (Addr.mk h0 0 none) 0 (L7 u0 v0 w0 x0 y0 z0 a1 b1 c1 d1 e1 f1 g1)∧
 Cv F.z46 #[A7 u0 v0 w0 x0 y0 z0 a1 b1 c1 d1 e1 f1 g1,.slice i1 j1 k1] j4 (fun k4 l4=>
 ∃ (m4:ByteArray) (n4:Option Addr) (o4 p4:Nat) (q4:Option Addr) (r4 s4:Nat) (t4:Int) (u4:Int) (v4:Int) (w4:Option Addr) (x4 y4:Nat) (z4:Int),
 k4 = .tuple #[A7 m4 n4 o4 p4 q4 r4 s4 t4 u4 v4 w4 x4 y4,.int .i64 z4]∧
 Sb i4 0 (.string m4) l4 fun a5=>
 Sb i4 1 (.slice n4 o4 p4) a5 fun b5=>
 Sb i4 2 (.slice q4 r4 s4) b5 fun c5=>
 Sb i4 3 (.int .i64 t4) c5 fun d5=>
 Sb i4 4 (.int .i64 u4) d5 fun e5=>
 Sb i4 5 (.int .i64 v4) e5 fun f5=>
 Sb i4 6 (.slice w4 x4 y4) f5 fun g5=>
 ifB (z4 != (0:Int)) (
 E6 fun h5 i5 j5 k5 l5 m5 n5 o5 p5 q5=>
 cellsAt g5 ((Addr.mk s 0 none).add 0) 0 (L6 h5 i5 j5 k5 l5 m5 n5 o5 p5 q5)∧
 Sb u 0 (.string h5) g5 fun r5=>
 Sb u 1 (.slice i5 j5 k5) r5 fun s5=>
 Sb u 2 (.slice l5 m5 n5) s5 fun t5=>
 Sb u 3 (.int .i64 o5) t5 fun u5=>
 Sb u 4 (.int .i64 p5) u5 fun v5=>
 Sb u 5 (.int .i64 q5) v5 fun w5=>
 Sb u 6 (.slice none 0 0) w5 fun x5=>
 E7 fun y5 z5 a6 b6 c6 d6 e6 f6 g6 h6 i6 j6 k6=>
 cellsAt x5 (Addr.mk u 0 none) 0 (L7 y5 z5 a6 b6 c6 d6 e6 f6 g6 h6 i6 j6 k6)∧
 K (.tuple #[A7 y5 z5 a6 b6 c6 d6 e6 f6 g6 h6 i6 j6 k6,.int .i64 z4]) x5) (
 E7 fun l6 m6 n6 o6 p6 q6 r6 s6 t6 u6 v6 w6 x6=>
 cellsAt g5 (Addr.mk i4 0 none) 0 (L7 l6 m6 n6 o6 p6 q6 r6 s6 t6 u6 v6 w6 x6)∧
 Sb h0 0 (.string l6) g5 fun y6=>
 Sb h0 1 (.slice m6 n6 o6) y6 fun z6=>
 Sb h0 2 (.slice p6 q6 r6) z6 fun a7=>
 Sb h0 3 (.int .i64 s6) a7 fun b7=>
 Sb h0 4 (.int .i64 t6) b7 fun c7=>
 Sb h0 5 (.int .i64 u6) c7 fun d7=>
 Sb h0 6 (.slice v6 w6 x6) d7 fun e7=>
 q0 (IntKind.i64.wrap (s0+(1:Int))) e7∧r0 (IntKind.i64.wrap (s0+(1:Int))) e7 < r0 s0 t0)))) (
 E7 fun f7 g7 h7 i7 j7 k7 l7 m7 n7 o7 p7 q7 r7=>
 cellsAt t0 (Addr.mk h0 0 none) 0 (L7 f7 g7 h7 i7 j7 k7 l7 m7 n7 o7 p7 q7 r7)∧
 Sb u 0 (.string f7) t0 fun s7=>
 Sb u 1 (.slice g7 h7 i7) s7 fun t7=>
 Sb u 2 (.slice j7 k7 l7) t7 fun u7=>
 Sb u 3 (.int .i64 m7) u7 fun v7=>
 Sb u 4 (.int .i64 n7) v7 fun w7=>
 Sb u 5 (.int .i64 o7) w7 fun x7=>
 Sb u 6 (.slice p7 q7 r7) x7 fun y7=>
 E7 fun z7 a8 b8 c8 d8 e8 f8 g8 h8 i8 j8 k8 l8=>
 cellsAt y7 (Addr.mk u 0 none) 0 (L7 z7 a8 b8 c8 d8 e8 f8 g8 h8 i8 j8 k8 l8)∧
 K (.tuple #[A7 z7 a8 b8 c8 d8 e8 f8 g8 h8 i8 j8 k8 l8,.int .i64 0]) y7)
def An.z47:Ann:=⟨[(5,.sil 0 [9] (.sil 1 [] (.sil 2 [] (.sil 3 [] (.sil 4 [9] (.act2 5 (.sil 6 [] (.sil 7 [] (.sil 8 [] (.act 9 (.act 10 (.sil 11 [] (.done))))))) 9 (.act 5 (.sil 6 [] (.sil 7 [] (.sil 8 [] (.act 10 (.sil 11 [] (.done)))))))))))))],[(3,[(7,3)],[1,2,4,6])],[]⟩
theorem R.z47 {a:ByteArray} {b:Option Addr} {c d:Nat} {e:Option Addr} {f g:Nat} {i:Int} {j:Int} {k:Int} {l:Option Addr} {m n:Nat} {o:Option Addr} {p q:Nat} {w:World} {K:Value→World→Prop} (h:C.z47 a b c d e f g i j k l m n o p q w K):Cv F.z47 #[.agg #[.string a,.slice b c d,.slice e f g,.int .i64 i,.int .i64 j,.int .i64 k,.slice l m n],.slice o p q] w K:=
 RR (an:=An.z47) Go.Proofs.Tryz.func85 (by kernel_rfl) (by kernel_rfl) h
end Go.Proofs.YtjcgociobhhijaaGreatDoor
namespace Go.Proofs.YtjcgociobhhijaaGreatDoor
open Go SX
def C.z152 (a:Option Addr) (b:ByteArray) (c:Bool) (w:World) (K:Value→World→Prop):Prop:=
 ifB (!a.isNone) (
 ∃ d,a=some d∧
 ∃ (e:Option Addr),
 w.cell? (d.add 0)=some (.pointer e)∧
 ∃ (f:Option Addr→Option Addr→World→Prop) (g:Option Addr→Option Addr→World→Nat),
 f none e w∧
 ∀ (i:Option Addr) (j:Option Addr) k,f i j k→
 ifB (!j.isNone) (
 ∃ l,j=some l∧
 Cv F.z177 #[.pointer (some (l.add 0)),.string b] k (fun m n=>
 ∃ (o:Int) (p:Bool),
 m = .tuple #[.int .i64 o,.bool p]∧
 ifB p (
 ifB c (
 ∃ q,j=some q∧
 Es fun r s t=>
 n.cell? ((q.add 0).add 0)=some (.slice r s t)∧
 Iq r (o) s fun u=>
 Cv F.z181 #[.pointer (some (u.add (o.toNat * 2)))] n (fun v x=>
 ∃ (y:ByteArray) (z:ByteArray) (a0:Bool),
 v = .tuple #[.string y,.string z,.bool a0]∧
 K (.tuple #[.string y,.string z,.bool a0]) x)) (
 ifB p (
 ∃ b0,j=some b0∧
 Es fun c0 d0 e0=>
 n.cell? ((b0.add 0).add 0)=some (.slice c0 d0 e0)∧
 ifB (decide ((IntKind.i64.wrap (o+(1:Int))) < ((d0:Nat):Int))) (
 ∃ f0,j=some f0∧
 Es fun g0 h0 i0=>
 n.cell? ((f0.add 0).add 0)=some (.slice g0 h0 i0)∧
 Iq g0 (IntKind.i64.wrap (o+(1:Int))) h0 fun j0=>
 Cv F.z163 #[.pointer j,.int .i64 (IntKind.i64.wrap (o+(1:Int)))] n (fun k0 l0=>
 ∃ (m0:Option Addr),
 k0 = .pointer m0∧
 f (some (j0.add ((IntKind.i64.wrap (o+(1:Int))).toNat * 2))) m0 l0∧g (some (j0.add ((IntKind.i64.wrap (o+(1:Int))).toNat * 2))) m0 l0 < g i j k)) (
 Cv F.z163 #[.pointer j,.int .i64 (IntKind.i64.wrap (o+(1:Int)))] n (fun n0 o0=>
 ∃ (p0:Option Addr),
 n0 = .pointer p0∧
 f i p0 o0∧g i p0 o0 < g i j k))) (
 ∃ q0,j=some q0∧
 Es fun r0 s0 t0=>
 n.cell? ((q0.add 0).add 0)=some (.slice r0 s0 t0)∧
 ifB (decide (o < ((s0:Nat):Int))) (
 ∃ u0,j=some u0∧
 Es fun v0 w0 x0=>
 n.cell? ((u0.add 0).add 0)=some (.slice v0 w0 x0)∧
 Iq v0 (o) w0 fun y0=>
 Cv F.z163 #[.pointer j,.int .i64 o] n (fun z0 a1=>
 ∃ (b1:Option Addr),
 z0 = .pointer b1∧
 f (some (y0.add (o.toNat * 2))) b1 a1∧g (some (y0.add (o.toNat * 2))) b1 a1 < g i j k)) (
 Cv F.z163 #[.pointer j,.int .i64 o] n (fun c1 d1=>
 ∃ (e1:Option Addr),
 c1 = .pointer e1∧
 f i e1 d1∧g i e1 d1 < g i j k))))) (
 ifB p (
 ∃ f1,j=some f1∧
 Es fun g1 h1 i1=>
 n.cell? ((f1.add 0).add 0)=some (.slice g1 h1 i1)∧
 ifB (decide ((IntKind.i64.wrap (o+(1:Int))) < ((h1:Nat):Int))) (
 ∃ j1,j=some j1∧
 Es fun k1 l1 m1=>
 n.cell? ((j1.add 0).add 0)=some (.slice k1 l1 m1)∧
 Iq k1 (IntKind.i64.wrap (o+(1:Int))) l1 fun n1=>
 Cv F.z163 #[.pointer j,.int .i64 (IntKind.i64.wrap (o+(1:Int)))] n (fun o1 p1=>
 ∃ (q1:Option Addr),
 o1 = .pointer q1∧
 f (some (n1.add ((IntKind.i64.wrap (o+(1:Int))).toNat * 2))) q1 p1∧g (some (n1.add ((IntKind.i64.wrap (o+(1:Int))).toNat * 2))) q1 p1 < g i j k)) (
 Cv F.z163 #[.pointer j,.int .i64 (IntKind.i64.wrap (o+(1:Int)))] n (fun r1 s1=>
 ∃ (t1:Option Addr),
 r1 = .pointer t1∧
 f i t1 s1∧g i t1 s1 < g i j k))) (
 ∃ u1,j=some u1∧
 Es fun v1 w1 x1=>
 n.cell? ((u1.add 0).add 0)=some (.slice v1 w1 x1)∧
 ifB (decide (o < ((w1:Nat):Int))) (
 ∃ y1,j=some y1∧
 Es fun z1 a2 b2=>
 n.cell? ((y1.add 0).add 0)=some (.slice z1 a2 b2)∧
 Iq z1 (o) a2 fun c2=>
 Cv F.z163 #[.pointer j,.int .i64 o] n (fun d2 e2=>
 ∃ (f2:Option Addr),
 d2 = .pointer f2∧
 f (some (c2.add (o.toNat * 2))) f2 e2∧g (some (c2.add (o.toNat * 2))) f2 e2 < g i j k)) (
 Cv F.z163 #[.pointer j,.int .i64 o] n (fun g2 h2=>
 ∃ (i2:Option Addr),
 g2 = .pointer i2∧
 f i i2 h2∧g i i2 h2 < g i j k)))))) (
 Cv F.z181 #[.pointer i] k (fun j2 k2=>
 ∃ (l2:ByteArray) (m2:ByteArray) (n2:Bool),
 j2 = .tuple #[.string l2,.string m2,.bool n2]∧
 K (.tuple #[.string l2,.string m2,.bool n2]) k2))) (
 Cv F.z181 #[.pointer none] w (fun o2 p2=>
 ∃ (q2:ByteArray) (r2:ByteArray) (s2:Bool),
 o2 = .tuple #[.string q2,.string r2,.bool s2]∧
 K (.tuple #[.string q2,.string r2,.bool s2]) p2))
def An.z152:Ann:=⟨[],[(4,[(9,215),(10,172)],[1,2])],[]⟩
theorem R.z152 {a:Option Addr} {b:ByteArray} {c:Bool} {w:World} {K:Value→World→Prop} (h:C.z152 a b c w K):Cv F.z152 #[.pointer a,.string b,.bool c] w K:=
 RR (an:=An.z152) Go.Proofs.Tryz.func86 (by kernel_rfl) (by kernel_rfl) h
def C.z133 (a:Option Addr) (b:Option Addr) (c d:Nat) (e:Option Addr) (f g:Nat) (w:World) (K:Value→World→Prop):Prop:=
 ifB (((f:Nat):Int) == (0:Int)) (
 K (.bool true) w) (
 ∃ i,a=some i∧
 E6 fun j k l m n o p q r s=>
 cellsAt w (i.add 0) 0 (L6 j k l m n o p q r s)∧
 Cv F.z142 #[A6 j k l m n o p q r s,.slice b c d] w (fun t u=>
 ∃ (v:Int),
 t = .int .i64 v∧
 Cv F.z97 #[.slice e f g,.int .i64 v] u (fun x y=>
 ∃ (z:Bool),
 x = .bool z∧
 K (.bool z) y)))
def An.z133:Ann:=⟨[],[],[]⟩
theorem R.z133 {a:Option Addr} {b:Option Addr} {c d:Nat} {e:Option Addr} {f g:Nat} {w:World} {K:Value→World→Prop} (h:C.z133 a b c d e f g w K):Cv F.z133 #[.pointer a,.slice b c d,.slice e f g] w K:=
 RR (an:=An.z133) Go.Proofs.Tryz.func87 (by kernel_rfl) (by kernel_rfl) h
def C.z11 (b:Int) (w:World) (K:Value→World→Prop):Prop:=
 ∀ c d,New w (.cells #[.bool false,.slice none 0 0] T.affluxref01_Num) c d→
 ifB (decide (b < (0:Int))) (
 ∃ (e:Int→Option Addr→Nat→Nat→World→Prop) (f:Int→Option Addr→Nat→Nat→World→Nat),
 e (IntKind.u64.wrap (0 - (IntKind.u64.wrap b))) none 0 0 d∧
 ∀ (g:Int) (i:Option Addr) (j k:Nat) l,e g i j k l→
 ifB (decide ((0:Int) < g)) (
 (10:Int)≠0∧
 ∀ m n,New l (.cells #[.int .i64 (IntKind.i64.wrap (Int.tmod g (10:Int)))] T.int) m n→
 BuiltV prog .append #[T.s_int,T.s_int] T.s_int #[.slice i j k,.slice (some (Addr.mk m 0 none)) 1 1] n (fun o p=>
 Es fun q r s=>
 o = .slice q r s∧
 (10:Int)≠0∧
 e (IntKind.u64.wrap (Int.tdiv g (10:Int))) q r s p∧f (IntKind.u64.wrap (Int.tdiv g (10:Int))) q r s p < f g i j k l)) (
 Cv F.z16 #[.bool (decide (b < (0:Int))),.slice i j k] l (fun t u=>
 ∃ (v:Bool) (x:Option Addr) (y z:Nat),
 t = .agg #[.bool v,.slice x y z]∧
 Sb c 0 (.bool v) u fun a0=>
 Sb c 1 (.slice x y z) a0 fun b0=>
 ∃ (c0:Bool) (d0:Option Addr) (e0 f0:Nat),
 cellsAt b0 (Addr.mk c 0 none) 0 [.bool c0,.slice d0 e0 f0]∧
 K (.agg #[.bool c0,.slice d0 e0 f0]) b0))) (
 ∃ (g0:Int→Option Addr→Nat→Nat→World→Prop) (h0:Int→Option Addr→Nat→Nat→World→Nat),
 g0 (IntKind.u64.wrap b) none 0 0 d∧
 ∀ (i0:Int) (j0:Option Addr) (k0 l0:Nat) m0,g0 i0 j0 k0 l0 m0→
 ifB (decide ((0:Int) < i0)) (
 (10:Int)≠0∧
 ∀ n0 o0,New m0 (.cells #[.int .i64 (IntKind.i64.wrap (Int.tmod i0 (10:Int)))] T.int) n0 o0→
 BuiltV prog .append #[T.s_int,T.s_int] T.s_int #[.slice j0 k0 l0,.slice (some (Addr.mk n0 0 none)) 1 1] o0 (fun p0 q0=>
 Es fun r0 s0 t0=>
 p0 = .slice r0 s0 t0∧
 (10:Int)≠0∧
 g0 (IntKind.u64.wrap (Int.tdiv i0 (10:Int))) r0 s0 t0 q0∧h0 (IntKind.u64.wrap (Int.tdiv i0 (10:Int))) r0 s0 t0 q0 < h0 i0 j0 k0 l0 m0)) (
 Cv F.z16 #[.bool (decide (b < (0:Int))),.slice j0 k0 l0] m0 (fun u0 v0=>
 ∃ (w0:Bool) (x0:Option Addr) (y0 z0:Nat),
 u0 = .agg #[.bool w0,.slice x0 y0 z0]∧
 Sb c 0 (.bool w0) v0 fun a1=>
 Sb c 1 (.slice x0 y0 z0) a1 fun b1=>
 ∃ (c1:Bool) (d1:Option Addr) (e1 f1:Nat),
 cellsAt b1 (Addr.mk c 0 none) 0 [.bool c1,.slice d1 e1 f1]∧
 K (.agg #[.bool c1,.slice d1 e1 f1]) b1)))
def An.z11:Ann:=⟨[],[(5,[(3,209),(4,27)],[0,2])],[]⟩
theorem R.z11 {a:Int} {w:World} {K:Value→World→Prop} (h:C.z11 a w K):Cv F.z11 #[.int .i64 a] w K:=
 RR (an:=An.z11) Go.Proofs.Tryz.func88 (by kernel_rfl) (by kernel_rfl) h
def C.z12 (b:Bool) (c:Option Addr) (d e:Nat) (f:Bool) (g:Option Addr) (i j:Nat) (w:World) (K:Value→World→Prop):Prop:=
 ∀ k l,New w (.cells #[.bool b,.slice c d e] T.affluxref01_Num) k l→
 ∀ m n,New l (.cells #[.bool f,.slice g i j] T.affluxref01_Num) m n→
 ∀ o p,New n (.cells #[.bool false,.slice none 0 0] T.affluxref01_Num) o p→
 ∃ (q:Bool),
 p.cell? ((Addr.mk k 0 none).add 0)=some (.bool q)∧
 ∃ (r:Bool),
 p.cell? ((Addr.mk m 0 none).add 0)=some (.bool r)∧
 ifB (q == r) (
 ∃ (s:Bool),
 p.drew.cell? ((Addr.mk k 0 none).add 0)=some (.bool s)∧
 Es fun t u v=>
 p.drew.cell? ((Addr.mk k 0 none).add 1)=some (.slice t u v)∧
 Es fun x y z=>
 p.drew.cell? ((Addr.mk m 0 none).add 1)=some (.slice x y z)∧
 Cv F.z13 #[.slice t u v,.slice x y z] p.drew (fun a0 b0=>
 Es fun c0 d0 e0=>
 a0 = .slice c0 d0 e0∧
 b0.cell? ((Addr.mk k 0 none).add 0)=some (.bool s)∧
 Cv F.z16 #[.bool s,.slice c0 d0 e0] b0 (fun f0 g0=>
 ∃ (h0:Bool) (i0:Option Addr) (j0 k0:Nat),
 f0 = .agg #[.bool h0,.slice i0 j0 k0]∧
 Sb o 0 (.bool h0) g0 fun l0=>
 Sb o 1 (.slice i0 j0 k0) l0 fun m0=>
 ∃ (n0:Bool) (o0:Option Addr) (p0 q0:Nat),
 cellsAt m0 (Addr.mk o 0 none) 0 [.bool n0,.slice o0 p0 q0]∧
 K (.agg #[.bool n0,.slice o0 p0 q0]) m0))) (
 Es fun r0 s0 t0=>
 p.cell? ((Addr.mk k 0 none).add 1)=some (.slice r0 s0 t0)∧
 Es fun u0 v0 w0=>
 p.cell? ((Addr.mk m 0 none).add 1)=some (.slice u0 v0 w0)∧
 Cv F.z15 #[.slice r0 s0 t0,.slice u0 v0 w0] p (fun x0 y0=>
 ∃ (z0:Bool),
 x0 = .bool z0∧
 ifB z0 (
 ∃ (a1:Bool),
 y0.drew.cell? ((Addr.mk m 0 none).add 0)=some (.bool a1)∧
 Es fun b1 c1 d1=>
 y0.drew.cell? ((Addr.mk m 0 none).add 1)=some (.slice b1 c1 d1)∧
 Es fun e1 f1 g1=>
 y0.drew.cell? ((Addr.mk k 0 none).add 1)=some (.slice e1 f1 g1)∧
 Cv F.z17 #[.slice b1 c1 d1,.slice e1 f1 g1] y0.drew (fun h1 i1=>
 Es fun j1 k1 l1=>
 h1 = .slice j1 k1 l1∧
 i1.cell? ((Addr.mk m 0 none).add 0)=some (.bool a1)∧
 Cv F.z16 #[.bool a1,.slice j1 k1 l1] i1 (fun m1 n1=>
 ∃ (o1:Bool) (p1:Option Addr) (q1 r1:Nat),
 m1 = .agg #[.bool o1,.slice p1 q1 r1]∧
 Sb o 0 (.bool o1) n1 fun s1=>
 Sb o 1 (.slice p1 q1 r1) s1 fun t1=>
 ∃ (u1:Bool) (v1:Option Addr) (w1 x1:Nat),
 cellsAt t1 (Addr.mk o 0 none) 0 [.bool u1,.slice v1 w1 x1]∧
 K (.agg #[.bool u1,.slice v1 w1 x1]) t1))) (
 ∃ (y1:Bool),
 y0.drew.cell? ((Addr.mk k 0 none).add 0)=some (.bool y1)∧
 Es fun z1 a2 b2=>
 y0.drew.cell? ((Addr.mk k 0 none).add 1)=some (.slice z1 a2 b2)∧
 Es fun c2 d2 e2=>
 y0.drew.cell? ((Addr.mk m 0 none).add 1)=some (.slice c2 d2 e2)∧
 Cv F.z17 #[.slice z1 a2 b2,.slice c2 d2 e2] y0.drew (fun f2 g2=>
 Es fun h2 i2 j2=>
 f2 = .slice h2 i2 j2∧
 g2.cell? ((Addr.mk k 0 none).add 0)=some (.bool y1)∧
 Cv F.z16 #[.bool y1,.slice h2 i2 j2] g2 (fun k2 l2=>
 ∃ (m2:Bool) (n2:Option Addr) (o2 p2:Nat),
 k2 = .agg #[.bool m2,.slice n2 o2 p2]∧
 Sb o 0 (.bool m2) l2 fun q2=>
 Sb o 1 (.slice n2 o2 p2) q2 fun r2=>
 ∃ (s2:Bool) (t2:Option Addr) (u2 v2:Nat),
 cellsAt r2 (Addr.mk o 0 none) 0 [.bool s2,.slice t2 u2 v2]∧
 K (.agg #[.bool s2,.slice t2 u2 v2]) r2)))))
def An.z12:Ann:=⟨[(2,.sil 0 [] (.sil 1 [6] (.sil 2 [] (.sil 3 [] (.sil 4 [] (.sil 5 [] (.act 6 (.act 7 (.act 8 (.done)))))))))),(4,.sil 0 [] (.sil 1 [6] (.sil 2 [] (.sil 3 [] (.sil 4 [] (.sil 5 [] (.act 6 (.act 7 (.act 8 (.done)))))))))),(5,.sil 0 [] (.sil 1 [6] (.sil 2 [] (.sil 3 [] (.sil 4 [] (.sil 5 [] (.act 6 (.act 7 (.act 8 (.done))))))))))],[],[]⟩
theorem R.z12 {a:Bool} {b:Option Addr} {c d:Nat} {e:Bool} {f:Option Addr} {g i:Nat} {w:World} {K:Value→World→Prop} (h:C.z12 a b c d e f g i w K):Cv F.z12 #[.agg #[.bool a,.slice b c d],.agg #[.bool e,.slice f g i]] w K:=
 RR (an:=An.z12) Go.Proofs.Tryz.func89 (by kernel_rfl) (by kernel_rfl) h
def C.z21 (b:Int) (c:Int) (d:ByteArray) (w:World) (K:Value→World→Prop):Prop:=
 ∀ e f,New w (.cells #[.int .i64 b,.int .i64 c,.string d] T.api_Value) e f→
 ∃ (g:Int),
 f.cell? ((Addr.mk e 0 none).add 0)=some (.int .i64 g)∧
 ifB (g == (1:Int)) (
 ∃ (i:Int),
 f.cell? ((Addr.mk e 0 none).add 1)=some (.int .i64 i)∧
 ∃ (j:Int→ByteArray→Int→World→Prop) (k:Int→ByteArray→Int→World→Nat),
 j (IntKind.u64.wrap ((IntKind.u64.wrap i)+(9223372036854775808:Int))) (bs []) 0 f∧
 ∀ (l:Int) (m:ByteArray) (n:Int) o,j l m n o→
 ifB (decide (n < (8:Int))) (
 (256:Int)≠0∧
 ∀ p q,New o (.cells #[.int .u8 (IntKind.u8.wrap (Int.tmod l (256:Int)))] T.uint8) p q→
 ConvV prog T.s_uint8 T.string (.slice (some (Addr.mk p 0 none)) 1 1) q (fun r s=>
 ∃ (t:ByteArray),
 r = .string t∧
 t.size+m.size≤9223372036854775807∧
 (256:Int)≠0∧
 j (IntKind.u64.wrap (Int.tdiv l (256:Int))) (t++m) (IntKind.i64.wrap (n+(1:Int))) s∧k (IntKind.u64.wrap (Int.tdiv l (256:Int))) (t++m) (IntKind.i64.wrap (n+(1:Int))) s < k l m n o)) (
 (bs [1]).size+m.size≤9223372036854775807∧
 K (.string ((bs [1])++m)) o)) (
 ifB (g == (2:Int)) (
 ∀ u v,New f (.cells #[.int .u8 2] T.uint8) u v→
 ∃ (x:Option Addr→Nat→Nat→Int→World→Prop) (y:Option Addr→Nat→Nat→Int→World→Nat),
 x (some (Addr.mk u 0 none)) 1 1 0 v∧
 ∀ (z:Option Addr) (a0 b0:Nat) (c0:Int) d0,x z a0 b0 c0 d0→
 ∃ (e0:ByteArray),
 d0.cell? ((Addr.mk e 0 none).add 2)=some (.string e0)∧
 ifB (decide (c0 < ((e0.size:Nat):Int))) (
 ∃ (f0:ByteArray),
 d0.cell? ((Addr.mk e 0 none).add 2)=some (.string f0)∧
 0≤c0∧c0 < ((f0.size:Nat):Int)∧
 ∀ g0 h0,New d0 (.cells #[.int .u8 (bt f0 c0)] T.uint8) g0 h0→
 BuiltV prog .append #[T.s_uint8,T.s_uint8] T.s_uint8 #[.slice z a0 b0,.slice (some (Addr.mk g0 0 none)) 1 1] h0 (fun i0 j0=>
 Es fun k0 l0 m0=>
 i0 = .slice k0 l0 m0∧
 ∃ (n0:ByteArray),
 j0.cell? ((Addr.mk e 0 none).add 2)=some (.string n0)∧
 0≤c0∧c0 < ((n0.size:Nat):Int)∧
 ifB ((bt n0 c0) == (0:Int)) (
 ∀ o0 p0,New j0 (.cells #[.int .u8 255] T.uint8) o0 p0→
 BuiltV prog .append #[T.s_uint8,T.s_uint8] T.s_uint8 #[.slice k0 l0 m0,.slice (some (Addr.mk o0 0 none)) 1 1] p0 (fun q0 r0=>
 Es fun s0 t0 u0=>
 q0 = .slice s0 t0 u0∧
 x s0 t0 u0 (IntKind.i64.wrap (c0+(1:Int))) r0∧y s0 t0 u0 (IntKind.i64.wrap (c0+(1:Int))) r0 < y z a0 b0 c0 d0)) (
 x k0 l0 m0 (IntKind.i64.wrap (c0+(1:Int))) j0∧y k0 l0 m0 (IntKind.i64.wrap (c0+(1:Int))) j0 < y z a0 b0 c0 d0))) (
 ConvV prog T.s_uint8 T.string (.slice z a0 b0) d0 (fun v0 w0=>
 ∃ (x0:ByteArray),
 v0 = .string x0∧
 x0.size+(bs [0,1]).size≤9223372036854775807∧
 K (.string (x0++(bs [0,1]))) w0))) (
 ∃ (y0:Int),
 f.cell? ((Addr.mk e 0 none).add 1)=some (.int .i64 y0)∧
 ∀ z0 a1,New f (.cells #[.int .u8 3,.int .u8 (IntKind.u8.wrap y0)] T.uint8) z0 a1→
 ConvV prog T.s_uint8 T.string (.slice (some (Addr.mk z0 0 none)) 2 2) a1 (fun b1 c1=>
 ∃ (d1:ByteArray),
 b1 = .string d1∧
 K (.string d1) c1)))
def An.z21:Ann:=⟨[],[(6,[(3,209),(4,9),(5,3)],[]),(14,[(6,57),(7,3)],[1])],[]⟩
theorem R.z21 {a:Int} {b:Int} {c:ByteArray} {w:World} {K:Value→World→Prop} (h:C.z21 a b c w K):Cv F.z21 #[.agg #[.int .i64 a,.int .i64 b,.string c]] w K:=
 RR (an:=An.z21) Go.Proofs.Tryz.func90 (by kernel_rfl) (by kernel_rfl) h
def C.z177 (a:Option Addr) (b:ByteArray) (w:World) (K:Value→World→Prop):Prop:=
 ∃ c,a=some c∧
 Es fun d e f=>
 w.cell? (c.add 0)=some (.slice d e f)∧
 Cv F.z87 #[.slice d e f,.string b,.func (.func F.z178) #[] #[]] w (fun g i=>
 ∃ (j:Int) (k:Bool),
 g = .tuple #[.int .i64 j,.bool k]∧
 K (.tuple #[.int .i64 j,.bool k]) i)
def An.z177:Ann:=⟨[],[],[]⟩
theorem R.z177 {a:Option Addr} {b:ByteArray} {w:World} {K:Value→World→Prop} (h:C.z177 a b w K):Cv F.z177 #[.pointer a,.string b] w K:=
 RR (an:=An.z177) Go.Proofs.Tryz.func91 (by kernel_rfl) (by kernel_rfl) h
def C.z167 (a:Option Addr) (w:World) (K:Value→World→Prop):Prop:=
 ∃ b,a=some b∧
 Es fun c d e=>
 w.cell? (b.add 1)=some (.slice c d e)∧
 K (.bool (((d:Nat):Int) == (0:Int))) w
def An.z167:Ann:=⟨[],[],[]⟩
theorem R.z167 {a:Option Addr} {w:World} {K:Value→World→Prop} (h:C.z167 a w K):Cv F.z167 #[.pointer a] w K:=
 RR (an:=An.z167) Go.Proofs.Tryz.func92 (by kernel_rfl) (by kernel_rfl) h
def C.z66 (a:ByteArray) (b:Option Addr) (c d:Nat) (e:Option Addr) (f g:Nat) (i:Int) (j:Int) (k:Int) (l:Option Addr) (m n:Nat) (w:World) (K:Value→World→Prop):Prop:=
 ∀ o p,New w (.cells #[.string a,.slice b c d,.slice e f g,.int .i64 i,.int .i64 j,.int .i64 k] T.api_Schema) o p→
 E6 fun q r s t u v x y z a0=>
 cellsAt p (Addr.mk o 0 none) 0 (L6 q r s t u v x y z a0)∧
 Cv F.z70 #[A6 q r s t u v x y z a0,.int .i64 0,.slice l m n] p (fun b0 c0=>
 ∃ (d0:Int),
 b0 = .int .i64 d0∧
 ifB (d0 != (0:Int)) (
 K (.tuple #[.slice none 0 0,.int .i64 d0]) c0) (
 Es fun e0 f0 g0=>
 c0.cell? ((Addr.mk o 0 none).add 2)=some (.slice e0 f0 g0)∧
 ∃ (h0:Option Addr→Nat→Nat→Int→World→Prop) (i0:Option Addr→Nat→Nat→Int→World→Nat),
 h0 none 0 0 0 c0∧
 ∀ (j0:Option Addr) (k0 l0:Nat) (m0:Int) n0,h0 j0 k0 l0 m0 n0→
 ifB (decide (m0 < ((f0:Nat):Int))) (
 E6 fun o0 p0 q0 r0 s0 t0 u0 v0 w0 x0=>
 cellsAt n0 (Addr.mk o 0 none) 0 (L6 o0 p0 q0 r0 s0 t0 u0 v0 w0 x0)∧
 Cv F.z76 #[A6 o0 p0 q0 r0 s0 t0 u0 v0 w0 x0,.int .i64 m0,.slice l m n] n0 (fun y0 z0=>
 ∃ (a1:ByteArray),
 y0 = .string a1∧
 ∀ b1 c1,New z0 (.cells #[.string a1] T.string) b1 c1→
 BuiltV prog .append #[T.s_string,T.s_string] T.s_string #[.slice j0 k0 l0,.slice (some (Addr.mk b1 0 none)) 1 1] c1 (fun d1 e1=>
 Es fun f1 g1 h1=>
 d1 = .slice f1 g1 h1∧
 h0 f1 g1 h1 (IntKind.i64.wrap (m0+(1:Int))) e1∧i0 f1 g1 h1 (IntKind.i64.wrap (m0+(1:Int))) e1 < i0 j0 k0 l0 m0 n0))) (
 K (.tuple #[.slice j0 k0 l0,.int .i64 0]) n0)))
def An.z66:Ann:=⟨[],[(6,[(7,130),(18,3)],[1,2,17])],[]⟩
theorem R.z66 {a:ByteArray} {b:Option Addr} {c d:Nat} {e:Option Addr} {f g:Nat} {i:Int} {j:Int} {k:Int} {l:Option Addr} {m n:Nat} {w:World} {K:Value→World→Prop} (h:C.z66 a b c d e f g i j k l m n w K):Cv F.z66 #[.agg #[.string a,.slice b c d,.slice e f g,.int .i64 i,.int .i64 j,.int .i64 k],.slice l m n] w K:=
 RR (an:=An.z66) Go.Proofs.Tryz.func93 (by kernel_rfl) (by kernel_rfl) h
def C.z173 (a:Option Addr) (b:ByteArray) (w:World) (K:Value→World→Prop):Prop:=
 ∃ c,a=some c∧
 Es fun d e f=>
 w.cell? (c.add 0)=some (.slice d e f)∧
 Cv F.z86 #[.slice d e f,.string b,.func (.func F.z174) #[] #[]] w (fun g i=>
 ∃ (j:Int) (k:Bool),
 g = .tuple #[.int .i64 j,.bool k]∧
 K (.tuple #[.int .i64 j,.bool k]) i)
def An.z173:Ann:=⟨[],[],[]⟩
theorem R.z173 {a:Option Addr} {b:ByteArray} {w:World} {K:Value→World→Prop} (h:C.z173 a b w K):Cv F.z173 #[.pointer a,.string b] w K:=
 RR (an:=An.z173) Go.Proofs.Tryz.func94 (by kernel_rfl) (by kernel_rfl) h
def C.z157 (a:Option Addr) (w:World) (K:Value→World→Prop):Prop:=
 ∃ b,a=some b∧
 Es fun c d e=>
 w.cell? (b.add 1)=some (.slice c d e)∧
 K (.bool (((d:Nat):Int) == (0:Int))) w
def An.z157:Ann:=⟨[],[],[]⟩
theorem R.z157 {a:Option Addr} {w:World} {K:Value→World→Prop} (h:C.z157 a w K):Cv F.z157 #[.pointer a] w K:=
 RR (an:=An.z157) Go.Proofs.Tryz.func95 (by kernel_rfl) (by kernel_rfl) h
def C.z78 (a:ByteArray) (w:World) (K:Value→World→Prop):Prop:=
 ifB (sEq a (bs [])) (
 K (.bool false) w) (
 ifB (decide ((16:Int) < ((a.size:Nat):Int))) (
 K (.bool false) w) (
 0≤(0:Int)∧(0:Int) < ((a.size:Nat):Int)∧
 Cv F.z77 #[.int .u8 (bt a (0:Int))] w (fun b c=>
 ∃ (d:Bool),
 b = .bool d∧
 ifB (!d) (
 K (.bool false) c) (
 ConvV prog T.string T.s_uint8 (.string a) c (fun e f=>
 Es fun g i j=>
 e = .slice g i j∧
 ∃ (k:Int→World→Prop) (l:Int→World→Nat),
 k 0 f∧
 ∀ (m:Int) n,k m n→
 ifB (decide (m < ((i:Nat):Int))) (
 Iq g (m) i fun o=>
 ∃ (p:Int),
 n.cell? (o.add (m.toNat * 1))=some (.int .u8 p)∧
 Cv F.z79 #[.int .u8 p] n (fun q r=>
 ∃ (s:Bool),
 q = .bool s∧
 ifB (!s) (
 K (.bool false) r) (
 k (IntKind.i64.wrap (m+(1:Int))) r∧l (IntKind.i64.wrap (m+(1:Int))) r < l m n))) (
 K (.bool true) n))))))
def An.z78:Ann:=⟨[],[(4,[(21,3)],[19,20])],[]⟩
theorem R.z78 {a:ByteArray} {w:World} {K:Value→World→Prop} (h:C.z78 a w K):Cv F.z78 #[.string a] w K:=
 RR (an:=An.z78) Go.Proofs.Tryz.func96 (by kernel_rfl) (by kernel_rfl) h
def C.z71 (a:Option Addr) (b c:Nat) (w:World) (K:Value→World→Prop):Prop:=
 ∃ (d:Int→World→Prop) (e:Int→World→Nat),
 d 0 w∧
 ∀ (f:Int) g,d f g→
 ifB (decide (f < ((b:Nat):Int))) (
 Iq a (f) b fun i=>
 ∃ (j:ByteArray) (k:Int),
 cellsAt g (i.add (f.toNat * 2)) 0 [.string j,.int .i64 k]∧
 ∀ l m,New g (.cells #[.string (bs []),.int .i64 0] T.api_Column) l m→
 Sb l 0 (.string j) m fun n=>
 Sb l 1 (.int .i64 k) n fun o=>
 ∃ (p:ByteArray),
 o.cell? ((Addr.mk l 0 none).add 0)=some (.string p)∧
 Cv F.z78 #[.string p] o (fun q r=>
 ∃ (s:Bool),
 q = .bool s∧
 ifB (!s) (
 K (.bool false) r) (
 ∃ (t:Int),
 r.cell? ((Addr.mk l 0 none).add 1)=some (.int .i64 t)∧
 Cv F.z85 #[.int .i64 t,.int .i64 1,.int .i64 3] r (fun u v=>
 ∃ (x:Bool),
 u = .bool x∧
 ifB (!x) (
 K (.bool false) v) (
 d (IntKind.i64.wrap (f+(1:Int))) v∧e (IntKind.i64.wrap (f+(1:Int))) v < e f g))))) (
 Cv F.z85 #[.int .i64 ((b:Nat):Int),.int .i64 1,.int .i64 8] g (fun y z=>
 ∃ (a0:Bool),
 y = .bool a0∧
 ifB a0 (
 Cv F.z82 #[.slice a b c,.func (.func F.z72) #[] #[]] z (fun b0 c0=>
 ∃ (d0:Bool),
 b0 = .bool d0∧
 K (.bool d0) c0)) (
 K (.bool false) z)))
def An.z71:Ann:=⟨[],[(2,[(7,3)],[0,5,6])],[]⟩
theorem R.z71 {a:Option Addr} {b c:Nat} {w:World} {K:Value→World→Prop} (h:C.z71 a b c w K):Cv F.z71 #[.slice a b c] w K:=
 RR (an:=An.z71) Go.Proofs.Tryz.func97 (by kernel_rfl) (by kernel_rfl) h
def C.z74 (a:Option Addr) (b c:Nat) (d:Int) (w:World) (K:Value→World→Prop):Prop:=
 ∃ (e:Int→World→Prop) (f:Int→World→Nat),
 e 0 w∧
 ∀ (g:Int) i,e g i→
 ifB (decide (g < ((b:Nat):Int))) (
 Iq a (g) b fun j=>
 ∃ (k:Option Addr) (l m:Nat) (n:Bool),
 cellsAt i (j.add (g.toNat * 2)) 0 [.slice k l m,.bool n]∧
 ∀ o p,New i (.cells #[.slice none 0 0,.bool false] T.api_Index) o p→
 Sb o 0 (.slice k l m) p fun q=>
 Sb o 1 (.bool n) q fun r=>
 ∃ (s:Option Addr) (t u:Nat) (v:Bool),
 cellsAt r (Addr.mk o 0 none) 0 [.slice s t u,.bool v]∧
 Cv F.z80 #[.agg #[.slice s t u,.bool v],.int .i64 d] r (fun x y=>
 ∃ (z:Bool),
 x = .bool z∧
 ifB (!z) (
 K (.bool false) y) (
 e (IntKind.i64.wrap (g+(1:Int))) y∧f (IntKind.i64.wrap (g+(1:Int))) y < f g i))) (
 Cv F.z85 #[.int .i64 ((b:Nat):Int),.int .i64 1,.int .i64 4] i (fun a0 b0=>
 ∃ (c0:Bool),
 a0 = .bool c0∧
 ifB c0 (
 Iq a ((0:Int)) b fun d0=>
 ∃ (e0:Bool),
 b0.cell? ((d0.add ((0:Int).toNat * 2)).add 1)=some (.bool e0)∧
 ifB e0 (
 Cv F.z83 #[.slice a b c,.func (.func F.z75) #[] #[]] b0 (fun f0 g0=>
 ∃ (h0:Bool),
 f0 = .bool h0∧
 K (.bool h0) g0)) (
 K (.bool false) b0)) (
 K (.bool false) b0)))
def An.z74:Ann:=⟨[],[(2,[(9,3)],[0,1,7,8])],[]⟩
theorem R.z74 {a:Option Addr} {b c:Nat} {d:Int} {w:World} {K:Value→World→Prop} (h:C.z74 a b c d w K):Cv F.z74 #[.slice a b c,.int .i64 d] w K:=
 RR (an:=An.z74) Go.Proofs.Tryz.func98 (by kernel_rfl) (by kernel_rfl) h
def C.z85 (a:Int) (b:Int) (c:Int) (w:World) (K:Value→World→Prop):Prop:=
 ifB (decide (b≤a)) (
 K (.bool (decide (a≤c))) w) (
 K (.bool false) w)
def An.z85:Ann:=⟨[],[],[]⟩
theorem R.z85 {a:Int} {b:Int} {c:Int} {w:World} {K:Value→World→Prop} (h:C.z85 a b c w K):Cv F.z85 #[.int .i64 a,.int .i64 b,.int .i64 c] w K:=
 RR (an:=An.z85) Go.Proofs.Tryz.func99 (by kernel_rfl) (by kernel_rfl) h
def C.z88 (a:Option Addr) (b c:Nat) (w:World) (K:Value→World→Prop):Prop:=
 ifB a.isNone (
 K (.slice none 0 0) w) (
 ∀ d e,New w (.cells #[] T.api_Column) d e→
 BuiltV prog .append #[T.s_api_Column,T.s_api_Column] T.s_api_Column #[.slice (some (Addr.mk d 0 none)) 0 0,.slice a b c] e (fun f g=>
 Es fun i j k=>
 f = .slice i j k∧
 K (.slice i j k) g))
def An.z88:Ann:=⟨[],[],[]⟩
theorem R.z88 {a:Option Addr} {b c:Nat} {w:World} {K:Value→World→Prop} (h:C.z88 a b c w K):Cv F.z88 #[.slice a b c] w K:=
 RR (an:=An.z88) Go.Proofs.Tryz.func100 (by kernel_rfl) (by kernel_rfl) h
def C.z89 (a:Option Addr) (b c:Nat) (w:World) (K:Value→World→Prop):Prop:=
 ifB a.isNone (
 K (.slice none 0 0) w) (
 ∀ d e,New w (.cells #[] T.api_Index) d e→
 BuiltV prog .append #[T.s_api_Index,T.s_api_Index] T.s_api_Index #[.slice (some (Addr.mk d 0 none)) 0 0,.slice a b c] e (fun f g=>
 Es fun i j k=>
 f = .slice i j k∧
 K (.slice i j k) g))
def An.z89:Ann:=⟨[],[],[]⟩
theorem R.z89 {a:Option Addr} {b c:Nat} {w:World} {K:Value→World→Prop} (h:C.z89 a b c w K):Cv F.z89 #[.slice a b c] w K:=
 RR (an:=An.z89) Go.Proofs.Tryz.func101 (by kernel_rfl) (by kernel_rfl) h
def C.z91 (a:Option Addr) (b c:Nat) (w:World) (K:Value→World→Prop):Prop:=
 ifB a.isNone (
 K (.slice none 0 0) w) (
 ∀ d e,New w (.cells #[] T.int) d e→
 BuiltV prog .append #[T.s_int,T.s_int] T.s_int #[.slice (some (Addr.mk d 0 none)) 0 0,.slice a b c] e (fun f g=>
 Es fun i j k=>
 f = .slice i j k∧
 K (.slice i j k) g))
def An.z91:Ann:=⟨[],[],[]⟩
theorem R.z91 {a:Option Addr} {b c:Nat} {w:World} {K:Value→World→Prop} (h:C.z91 a b c w K):Cv F.z91 #[.slice a b c] w K:=
 RR (an:=An.z91) Go.Proofs.Tryz.func102 (by kernel_rfl) (by kernel_rfl) h
def C.z143  (w:World) (K:Value→World→Prop):Prop:=
 ∀ a b,New w (.cells #[.slice none 0 0,.slice none 0 0] T.tree_page_s_afflux_api_Value) a b→
 ∀ c d,New b (.cells #[.pointer (some (Addr.mk a 0 none)),.int .i64 0] T.tree_Tree_s_afflux_api_Value) c d→
 K (.pointer (some (Addr.mk c 0 none))) d
def An.z143:Ann:=⟨[],[],[]⟩
theorem R.z143  {w:World} {K:Value→World→Prop} (h:C.z143  w K):Cv F.z143 #[] w K:=
 RR (an:=An.z143) Go.Proofs.Tryz.func103 (by kernel_rfl) (by kernel_rfl) h
def C.z144  (w:World) (K:Value→World→Prop):Prop:=
 ∀ a b,New w (.cells #[.slice none 0 0,.slice none 0 0] T.tree_page_string) a b→
 ∀ c d,New b (.cells #[.pointer (some (Addr.mk a 0 none)),.int .i64 0] T.tree_Tree_string) c d→
 K (.pointer (some (Addr.mk c 0 none))) d
def An.z144:Ann:=⟨[],[],[]⟩
theorem R.z144  {w:World} {K:Value→World→Prop} (h:C.z144  w K):Cv F.z144 #[] w K:=
 RR (an:=An.z144) Go.Proofs.Tryz.func104 (by kernel_rfl) (by kernel_rfl) h
def C.z140 (a:Option Addr) (b:Option Addr) (c d:Nat) (w:World) (K:Value→World→Prop):Prop:=
 ∃ e,a=some e∧
 E6 fun f g i j k l m n o p=>
 cellsAt w (e.add 0) 0 (L6 f g i j k l m n o p)∧
 Cv F.z141 #[A6 f g i j k l m n o p,.slice b c d] w (fun q r=>
 ∃ (s:Option Addr) (t u:Nat) (v:Int),
 q = .tuple #[.slice s t u,.int .i64 v]∧
 ∃ x,a=some x∧
 ∃ (y:Option Addr),
 r.drew.cell? (x.add 6)=some (.pointer y)∧
 Iq s ((0:Int)) t fun z=>
 ∃ (a0:ByteArray),
 r.drew.cell? (z.add ((0:Int).toNat * 1))=some (.string a0)∧
 Cv F.z145 #[.pointer y,.string a0] r.drew (fun b0 c0=>
 ∃ (d0:Option Addr) (e0 f0:Nat) (g0:Bool),
 b0 = .tuple #[.slice d0 e0 f0,.bool g0]∧
 ∃ h0,a=some h0∧
 Es fun i0 j0 k0=>
 c0.cell? (h0.add 7)=some (.slice i0 j0 k0)∧
 ∃ (l0:Int→World→Prop) (m0:Int→World→Nat),
 l0 0 c0∧
 ∀ (n0:Int) o0,l0 n0 o0→
 ifB (decide (n0 < ((j0:Nat):Int))) (
 Iq i0 (n0) j0 fun p0=>
 ∃ (q0:Option Addr) (r0 s0:Nat) (t0:Bool) (u0:Option Addr),
 cellsAt o0 (p0.add (n0.toNat * 3)) 0 [.slice q0 r0 s0,.bool t0,.pointer u0]∧
 ∀ v0 w0,New o0 (.cells #[.slice none 0 0,.bool false,.pointer none] T.table_index) v0 w0→
 Sb v0 0 (.slice q0 r0 s0) w0 fun x0=>
 Sb v0 1 (.bool t0) x0 fun y0=>
 Sb v0 2 (.pointer u0) y0 fun z0=>
 ∃ (a1:Option Addr),
 z0.drew.cell? ((Addr.mk v0 0 none).add 2)=some (.pointer a1)∧
 Iq s (n0) t fun b1=>
 ∃ (c1:ByteArray),
 z0.drew.cell? (b1.add (n0.toNat * 1))=some (.string c1)∧
 Cv F.z149 #[.pointer a1,.string c1] z0.drew (fun d1 e1=>
 ∃ (f1:ByteArray) (g1:Bool),
 d1 = .tuple #[.string f1,.bool g1]∧
 l0 (IntKind.i64.wrap (n0+(1:Int))) e1∧m0 (IntKind.i64.wrap (n0+(1:Int))) e1 < m0 n0 o0)) (
 K (.tuple #[]) o0)))
def An.z140:Ann:=⟨[(1,.sil 0 [] (.sil 1 [] (.sil 2 [] (.sil 3 [] (.sil 4 [] (.sil 5 [] (.sil 6 [] (.act 7 (.done))))))))),(5,.sil 0 [] (.sil 1 [] (.sil 2 [] (.sil 3 [] (.sil 4 [] (.sil 5 [] (.act 6 (.done))))))))],[(3,[(30,3)],[4,28,29])],[]⟩
theorem R.z140 {a:Option Addr} {b:Option Addr} {c d:Nat} {w:World} {K:Value→World→Prop} (h:C.z140 a b c d w K):Cv F.z140 #[.pointer a,.slice b c d] w K:=
 RR (an:=An.z140) Go.Proofs.Tryz.func105 (by kernel_rfl) (by kernel_rfl) h
def C.z60 (a:Option Addr) (b:Option Addr) (c d:Nat) (w:World) (K:Value→World→Prop):Prop:=
 ∃ (e:Int→World→Prop) (f:Int→World→Nat),
 e 0 w∧
 ∀ (g:Int) i,e g i→
 ifB (decide (g < ((c:Nat):Int))) (
 Iq b (g) c fun j=>
 ∃ (k:Int),
 i.cell? (j.add (g.toNat * 1))=some (.int .i64 k)∧
 ifB (!a.isNone) (
 ∃ l,a=some l∧
 Cv F.z56 #[.pointer (some (l.add 0)),.int .u64 (IntKind.u64.wrap (mm2 true k 0))] i (fun m n=>
 m = .tuple #[]∧
 e (IntKind.i64.wrap (g+(1:Int))) n∧f (IntKind.i64.wrap (g+(1:Int))) n < f g i)) (
 e (IntKind.i64.wrap (g+(1:Int))) i∧f (IntKind.i64.wrap (g+(1:Int))) i < f g i)) (
 K (.pointer a) i)
def An.z60:Ann:=⟨[],[(2,[(9,3)],[0,7,8])],[]⟩
theorem R.z60 {a:Option Addr} {b:Option Addr} {c d:Nat} {w:World} {K:Value→World→Prop} (h:C.z60 a b c d w K):Cv F.z60 #[.pointer a,.slice b c d] w K:=
 RR (an:=An.z60) Go.Proofs.Tryz.func106 (by kernel_rfl) (by kernel_rfl) h
def C.z57 (a:Option Addr) (b:Option Addr) (c d:Nat) (w:World) (K:Value→World→Prop):Prop:=
 ∀ e f,New w (.cells #[.int .i64 ((c:Nat):Int)] T.int) e f→
 Cv F.z60 #[.pointer a,.slice (some (Addr.mk e 0 none)) 1 1] f (fun g i=>
 ∃ (j:Option Addr),
 g = .pointer j∧
 Cv F.z63 #[.pointer j,.slice b c d] i (fun k l=>
 ∃ (m:Option Addr),
 k = .pointer m∧
 K (.pointer m) l))
def An.z57:Ann:=⟨[],[],[]⟩
theorem R.z57 {a:Option Addr} {b:Option Addr} {c d:Nat} {w:World} {K:Value→World→Prop} (h:C.z57 a b c d w K):Cv F.z57 #[.pointer a,.slice b c d] w K:=
 RR (an:=An.z57) Go.Proofs.Tryz.func107 (by kernel_rfl) (by kernel_rfl) h
def C.z54 (a:Option Addr) (w:World) (K:Value→World→Prop):Prop:=
 ifB a.isNone (
 K (.string (bs [])) w) (
 ∃ b,a=some b∧
 Es fun c d e=>
 w.cell? (b.add 0)=some (.slice c d e)∧
 ConvV prog T.s_uint8 T.string (.slice c d e) w (fun f g=>
 ∃ (i:ByteArray),
 f = .string i∧
 K (.string i) g))
def An.z54:Ann:=⟨[],[],[]⟩
theorem R.z54 {a:Option Addr} {w:World} {K:Value→World→Prop} (h:C.z54 a w K):Cv F.z54 #[.pointer a] w K:=
 RR (an:=An.z54) Go.Proofs.Tryz.func108 (by kernel_rfl) (by kernel_rfl) h
def C.z35 (b:Int) (w:World) (K:Value→World→Prop):Prop:=
 ∃ (c:Int→ByteArray→World→Prop) (d:Int→ByteArray→World→Nat),
 c b (bs []) w∧
 ∀ (e:Int) (f:ByteArray) g,c e f g→
 ifB (decide ((0:Int) < e)) (
 (256:Int)≠0∧
 ∀ i j,New g (.cells #[.int .u8 (IntKind.u8.wrap (Int.tmod e (256:Int)))] T.uint8) i j→
 ConvV prog T.s_uint8 T.string (.slice (some (Addr.mk i 0 none)) 1 1) j (fun k l=>
 ∃ (m:ByteArray),
 k = .string m∧
 m.size+f.size≤9223372036854775807∧
 (256:Int)≠0∧
 c (IntKind.u64.wrap (Int.tdiv e (256:Int))) (m++f) l∧d (IntKind.u64.wrap (Int.tdiv e (256:Int))) (m++f) l < d e f g)) (
 ∀ n o,New g (.cells #[.int .u8 (IntKind.u8.wrap ((f.size:Nat):Int))] T.uint8) n o→
 ConvV prog T.s_uint8 T.string (.slice (some (Addr.mk n 0 none)) 1 1) o (fun p q=>
 ∃ (r:ByteArray),
 p = .string r∧
 r.size+f.size≤9223372036854775807∧
 K (.string (r++f)) q))
def An.z35:Ann:=⟨[],[(2,[(0,209),(3,9)],[])],[]⟩
theorem R.z35 {a:Int} {w:World} {K:Value→World→Prop} (h:C.z35 a w K):Cv F.z35 #[.int .u64 a] w K:=
 RR (an:=An.z35) Go.Proofs.Tryz.func109 (by kernel_rfl) (by kernel_rfl) h
def C.z42 (b:Int) (c:Int) (d:ByteArray) (w:World) (K:Value→World→Prop):Prop:=
 ∀ e f,New w (.cells #[.int .i64 b,.int .i64 c,.string d] T.api_Value) e f→
 ∃ (g:Int) (i:Int) (j:ByteArray),
 cellsAt f (Addr.mk e 0 none) 0 [.int .i64 g,.int .i64 i,.string j]∧
 Cv F.z23 #[.agg #[.int .i64 g,.int .i64 i,.string j]] f (fun k l=>
 ∃ (m:Bool),
 k = .bool m∧
 ifB (!m) (
 Cv F.z39 #[.int .i64 0] l (fun n o=>
 ∃ (p:ByteArray),
 n = .string p∧
 (bs [1]).size+p.size≤9223372036854775807∧
 K (.string ((bs [1])++p)) o)) (
 ∃ (q:Int),
 l.cell? ((Addr.mk e 0 none).add 0)=some (.int .i64 q)∧
 ifB (q == (1:Int)) (
 ∃ (r:Int),
 l.cell? ((Addr.mk e 0 none).add 1)=some (.int .i64 r)∧
 Cv F.z39 #[.int .i64 r] l (fun s t=>
 ∃ (u:ByteArray),
 s = .string u∧
 (bs [1]).size+u.size≤9223372036854775807∧
 K (.string ((bs [1])++u)) t)) (
 ifB (q == (2:Int)) (
 ∃ (v:ByteArray),
 l.cell? ((Addr.mk e 0 none).add 2)=some (.string v)∧
 Cv F.z41 #[.string v] l (fun x y=>
 ∃ (z:ByteArray),
 x = .string z∧
 (bs [2]).size+z.size≤9223372036854775807∧
 K (.string ((bs [2])++z)) y)) (
 ∃ (a0:Int),
 l.cell? ((Addr.mk e 0 none).add 1)=some (.int .i64 a0)∧
 ∀ b0 c0,New l (.cells #[.int .u8 3,.int .u8 (IntKind.u8.wrap a0)] T.uint8) b0 c0→
 ConvV prog T.s_uint8 T.string (.slice (some (Addr.mk b0 0 none)) 2 2) c0 (fun d0 e0=>
 ∃ (f0:ByteArray),
 d0 = .string f0∧
 K (.string f0) e0)))))
def An.z42:Ann:=⟨[],[],[]⟩
theorem R.z42 {a:Int} {b:Int} {c:ByteArray} {w:World} {K:Value→World→Prop} (h:C.z42 a b c w K):Cv F.z42 #[.agg #[.int .i64 a,.int .i64 b,.string c]] w K:=
 RR (an:=An.z42) Go.Proofs.Tryz.func110 (by kernel_rfl) (by kernel_rfl) h
def C.z148 (a:Option Addr) (b:ByteArray) (c:Option Addr) (d e:Nat) (w:World) (K:Value→World→Prop):Prop:=
 ifB a.isNone (
 K (.tuple #[.slice none 0 0,.bool false]) w) (
 ∃ f,a=some f∧
 ∃ (g:Option Addr),
 w.cell? (f.add 0)=some (.pointer g)∧
 Cv F.z160 #[.pointer g,.string b,.slice c d e] w (fun i j=>
 ∃ (k:Option Addr) (l m:Nat) (n:Bool),
 i = .tuple #[.slice k l m,.bool n]∧
 ∃ o,a=some o∧
 ∃ (p:Option Addr),
 j.cell? (o.add 0)=some (.pointer p)∧
 ∃ q,p=some q∧
 Es fun r s t=>
 j.cell? ((q.add 0).add 0)=some (.slice r s t)∧
 ifB (decide ((5:Int) < ((s:Nat):Int))) (
 ∃ u,a=some u∧
 ∃ (v:Option Addr),
 j.cell? (u.add 0)=some (.pointer v)∧
 ∀ x y,New j (.cells #[.pointer v] T.p_tree_page_s_afflux_api_Value) x y→
 ∀ z a0,New y (.cells #[.slice none 0 0,.slice (some (Addr.mk x 0 none)) 1 1] T.tree_page_s_afflux_api_Value) z a0→
 ∃ b0,a=some b0∧
 CanSt a0 (b0.add 0)∧∀ c0,c0=a0.setCell (b0.add 0) (.pointer (some (Addr.mk z 0 none)))→
 ∃ d0,a=some d0∧
 ∃ (e0:Option Addr),
 c0.cell? (d0.add 0)=some (.pointer e0)∧
 Cv F.z162 #[.pointer e0,.int .i64 0] c0 (fun f0 g0=>
 f0 = .tuple #[]∧
 ifB (!n) (
 ∃ h0,a=some h0∧
 ∃ (i0:Int),
 g0.cell? (h0.add 1)=some (.int .i64 i0)∧
 ∃ j0,a=some j0∧
 CanSt g0 (j0.add 1)∧∀ k0,k0=g0.setCell (j0.add 1) (.int .i64 (IntKind.i64.wrap (i0+(1:Int))))→
 K (.tuple #[.slice k l m,.bool n]) k0) (
 K (.tuple #[.slice k l m,.bool n]) g0))) (
 ifB (!n) (
 ∃ l0,a=some l0∧
 ∃ (m0:Int),
 j.cell? (l0.add 1)=some (.int .i64 m0)∧
 ∃ n0,a=some n0∧
 CanSt j (n0.add 1)∧∀ o0,o0=j.setCell (n0.add 1) (.int .i64 (IntKind.i64.wrap (m0+(1:Int))))→
 K (.tuple #[.slice k l m,.bool n]) o0) (
 K (.tuple #[.slice k l m,.bool n]) j))))
def An.z148:Ann:=⟨[],[],[]⟩
theorem R.z148 {a:Option Addr} {b:ByteArray} {c:Option Addr} {d e:Nat} {w:World} {K:Value→World→Prop} (h:C.z148 a b c d e w K):Cv F.z148 #[.pointer a,.string b,.slice c d e] w K:=
 RR (an:=An.z148) Go.Proofs.Tryz.func111 (by kernel_rfl) (by kernel_rfl) h
def C.z153 (a:Option Addr) (b:ByteArray) (c:ByteArray) (w:World) (K:Value→World→Prop):Prop:=
 ifB a.isNone (
 K (.tuple #[.string (bs []),.bool false]) w) (
 ∃ d,a=some d∧
 ∃ (e:Option Addr),
 w.cell? (d.add 0)=some (.pointer e)∧
 Cv F.z170 #[.pointer e,.string b,.string c] w (fun f g=>
 ∃ (i:ByteArray) (j:Bool),
 f = .tuple #[.string i,.bool j]∧
 ∃ k,a=some k∧
 ∃ (l:Option Addr),
 g.cell? (k.add 0)=some (.pointer l)∧
 ∃ m,l=some m∧
 Es fun n o p=>
 g.cell? ((m.add 0).add 0)=some (.slice n o p)∧
 ifB (decide ((5:Int) < ((o:Nat):Int))) (
 ∃ q,a=some q∧
 ∃ (r:Option Addr),
 g.cell? (q.add 0)=some (.pointer r)∧
 ∀ s t,New g (.cells #[.pointer r] T.p_tree_page_string) s t→
 ∀ u v,New t (.cells #[.slice none 0 0,.slice (some (Addr.mk s 0 none)) 1 1] T.tree_page_string) u v→
 ∃ x,a=some x∧
 CanSt v (x.add 0)∧∀ y,y=v.setCell (x.add 0) (.pointer (some (Addr.mk u 0 none)))→
 ∃ z,a=some z∧
 ∃ (a0:Option Addr),
 y.cell? (z.add 0)=some (.pointer a0)∧
 Cv F.z172 #[.pointer a0,.int .i64 0] y (fun b0 c0=>
 b0 = .tuple #[]∧
 ifB (!j) (
 ∃ d0,a=some d0∧
 ∃ (e0:Int),
 c0.cell? (d0.add 1)=some (.int .i64 e0)∧
 ∃ f0,a=some f0∧
 CanSt c0 (f0.add 1)∧∀ g0,g0=c0.setCell (f0.add 1) (.int .i64 (IntKind.i64.wrap (e0+(1:Int))))→
 K (.tuple #[.string i,.bool j]) g0) (
 K (.tuple #[.string i,.bool j]) c0))) (
 ifB (!j) (
 ∃ h0,a=some h0∧
 ∃ (i0:Int),
 g.cell? (h0.add 1)=some (.int .i64 i0)∧
 ∃ j0,a=some j0∧
 CanSt g (j0.add 1)∧∀ k0,k0=g.setCell (j0.add 1) (.int .i64 (IntKind.i64.wrap (i0+(1:Int))))→
 K (.tuple #[.string i,.bool j]) k0) (
 K (.tuple #[.string i,.bool j]) g))))
def An.z153:Ann:=⟨[],[],[]⟩
theorem R.z153 {a:Option Addr} {b:ByteArray} {c:ByteArray} {w:World} {K:Value→World→Prop} (h:C.z153 a b c w K):Cv F.z153 #[.pointer a,.string b,.string c] w K:=
 RR (an:=An.z153) Go.Proofs.Tryz.func112 (by kernel_rfl) (by kernel_rfl) h
def C.z26 (b:ByteArray) (c:Option Addr) (d e:Nat) (f:Option Addr) (g i:Nat) (j:Int) (k:Int) (l:Int) (m:Option Addr) (n o:Nat) (w:World) (K:Value→World→Prop):Prop:=
 ∀ p q,New w (.cells #[.string b,.slice c d e,.slice f g i,.int .i64 j,.int .i64 k,.int .i64 l] T.api_Schema) p q→
 Es fun r s t=>
 q.cell? ((Addr.mk p 0 none).add 1)=some (.slice r s t)∧
 ifB (((n:Nat):Int) != ((s:Nat):Int)) (
 K (.bool false) q) (
 Cv F.z19 #[.slice m n o] q (fun u v=>
 ∃ (x:Bool),
 u = .bool x∧
 ifB (!x) (
 K (.bool false) v) (
 ∃ (y:Int→World→Prop) (z:Int→World→Nat),
 y 0 v∧
 ∀ (a0:Int) b0,y a0 b0→
 ifB (decide (a0 < ((n:Nat):Int))) (
 Iq m (a0) n fun c0=>
 ∃ (d0:Int),
 b0.drew.cell? ((c0.add (a0.toNat * 3)).add 0)=some (.int .i64 d0)∧
 Es fun e0 f0 g0=>
 b0.drew.cell? ((Addr.mk p 0 none).add 1)=some (.slice e0 f0 g0)∧
 Iq e0 (a0) f0 fun h0=>
 ∃ (i0:Int),
 b0.drew.cell? ((h0.add (a0.toNat * 2)).add 1)=some (.int .i64 i0)∧
 ifB (d0 != i0) (
 K (.bool false) b0.drew) (
 y (IntKind.i64.wrap (a0+(1:Int))) b0.drew∧z (IntKind.i64.wrap (a0+(1:Int))) b0.drew < z a0 b0)) (
 K (.bool true) b0))))
def An.z26:Ann:=⟨[(6,.sil 0 [] (.sil 1 [] (.sil 2 [] (.sil 3 [] (.sil 4 [] (.sil 5 [] (.sil 6 [] (.sil 7 [] (.sil 8 [] (.sil 9 [] (.sil 10 [] (.sil 11 [] (.done)))))))))))))],[(4,[(5,3)],[1,2])],[]⟩
theorem R.z26 {a:ByteArray} {b:Option Addr} {c d:Nat} {e:Option Addr} {f g:Nat} {i:Int} {j:Int} {k:Int} {l:Option Addr} {m n:Nat} {w:World} {K:Value→World→Prop} (h:C.z26 a b c d e f g i j k l m n w K):Cv F.z26 #[.agg #[.string a,.slice b c d,.slice e f g,.int .i64 i,.int .i64 j,.int .i64 k],.slice l m n] w K:=
 RR (an:=An.z26) Go.Proofs.Tryz.func113 (by kernel_rfl) (by kernel_rfl) h
def C.z49 (b:ByteArray) (c:Option Addr) (d e:Nat) (f:Option Addr) (g i:Nat) (j:Int) (k:Int) (l:Int) (m:Option Addr) (n o:Nat) (p:Option Addr) (q r:Nat) (s:Int) (w:World) (K:Value→World→Prop):Prop:=
 ∀ t u,New w (.cells #[.string b,.slice c d e,.slice f g i,.int .i64 j,.int .i64 k,.int .i64 l,.slice m n o] T.affluxref09_Model) t u→
 ∃ (v:Int→World→Prop) (x:Int→World→Nat),
 v 0 u∧
 ∀ (y:Int) z,v y z→
 Es fun a0 b0 c0=>
 z.cell? ((Addr.mk t 0 none).add 6)=some (.slice a0 b0 c0)∧
 ifB (decide (y < ((b0:Nat):Int))) (
 ∃ (d0:Int→World→Prop) (e0:Int→World→Nat),
 d0 0 z∧
 ∀ (f0:Int) g0,d0 f0 g0→
 Es fun h0 i0 j0=>
 g0.cell? (((Addr.mk t 0 none).add 0).add 2)=some (.slice h0 i0 j0)∧
 ifB (decide (f0 < ((i0:Nat):Int))) (
 ifB (y != s) (
 Es fun k0 l0 m0=>
 g0.drew.cell? (((Addr.mk t 0 none).add 0).add 2)=some (.slice k0 l0 m0)∧
 Iq k0 (f0) l0 fun n0=>
 ∃ (o0:Bool),
 g0.drew.cell? ((n0.add (f0.toNat * 2)).add 1)=some (.bool o0)∧
 ifB o0 (
 E6 fun p0 q0 r0 s0 t0 u0 v0 w0 x0 y0=>
 cellsAt g0.drew ((Addr.mk t 0 none).add 0) 0 (L6 p0 q0 r0 s0 t0 u0 v0 w0 x0 y0)∧
 E6 fun z0 a1 b1 c1 d1 e1 f1 g1 h1 i1=>
 cellsAt g0.drew ((Addr.mk t 0 none).add 0) 0 (L6 z0 a1 b1 c1 d1 e1 f1 g1 h1 i1)∧
 Es fun j1 k1 l1=>
 g0.drew.cell? ((Addr.mk t 0 none).add 6)=some (.slice j1 k1 l1)∧
 Iq j1 (y) k1 fun m1=>
 Es fun n1 o1 p1=>
 g0.drew.cell? (m1.add (y.toNat * 1))=some (.slice n1 o1 p1)∧
 Cv F.z28 #[A6 p0 q0 r0 s0 t0 u0 v0 w0 x0 y0,.int .i64 f0,.slice p q r] g0.drew (fun q1 r1=>
 ∃ (s1:ByteArray),
 q1 = .string s1∧
 r1.cell? (m1.add (y.toNat * 1))=some (.slice n1 o1 p1)∧
 r1.cell? ((Addr.mk t 0 none).add 6)=some (.slice j1 k1 l1)∧
 cellsAt r1 ((Addr.mk t 0 none).add 0) 0 (L6 z0 a1 b1 c1 d1 e1 f1 g1 h1 i1)∧
 Cv F.z28 #[A6 z0 a1 b1 c1 d1 e1 f1 g1 h1 i1,.int .i64 f0,.slice n1 o1 p1] r1 (fun t1 u1=>
 ∃ (v1:ByteArray),
 t1 = .string v1∧
 ifB (sEq s1 v1) (
 K (.bool true) u1) (
 d0 (IntKind.i64.wrap (f0+(1:Int))) u1∧e0 (IntKind.i64.wrap (f0+(1:Int))) u1 < e0 f0 g0)))) (
 d0 (IntKind.i64.wrap (f0+(1:Int))) g0.drew∧e0 (IntKind.i64.wrap (f0+(1:Int))) g0.drew < e0 f0 g0)) (
 d0 (IntKind.i64.wrap (f0+(1:Int))) g0.drew∧e0 (IntKind.i64.wrap (f0+(1:Int))) g0.drew < e0 f0 g0)) (
 v (IntKind.i64.wrap (y+(1:Int))) g0∧x (IntKind.i64.wrap (y+(1:Int))) g0 < x y z)) (
 K (.bool false) z)
def An.z49:Ann:=⟨[(7,.sil 0 [] (.sil 1 [] (.sil 2 [] (.sil 3 [] (.sil 4 [] (.sil 5 [] (.sil 6 [] (.sil 7 [] (.sil 8 [] (.sil 9 [] (.sil 10 [] (.sil 11 [] (.sil 12 [] (.sil 13 [] (.sil 14 [] (.sil 15 [] (.sil 16 [] (.sil 18 [] (.sil 19 [17] (.sil 20 [] (.sil 21 [] (.sil 22 [17] (.sil 23 [] (.sil 24 [] (.sil 25 [17] (.act 17 (.act 26 (.sil 27 [] (.sil 28 [] (.done))))))))))))))))))))))))))))))],[(2,[(7,3)],[1,2,3]),(5,[(8,3)],[1,2,3,7])],[]⟩
theorem R.z49 {a:ByteArray} {b:Option Addr} {c d:Nat} {e:Option Addr} {f g:Nat} {i:Int} {j:Int} {k:Int} {l:Option Addr} {m n:Nat} {o:Option Addr} {p q:Nat} {r:Int} {w:World} {K:Value→World→Prop} (h:C.z49 a b c d e f g i j k l m n o p q r w K):Cv F.z49 #[.agg #[.string a,.slice b c d,.slice e f g,.int .i64 i,.int .i64 j,.int .i64 k,.slice l m n],.slice o p q,.int .i64 r] w K:=
 RR (an:=An.z49) Go.Proofs.Tryz.func114 (by kernel_rfl) (by kernel_rfl) h
def C.z50 (b:ByteArray) (c:Option Addr) (d e:Nat) (f:Option Addr) (g i:Nat) (j:Int) (k:Int) (l:Int) (m:Option Addr) (n o:Nat) (p:Option Addr) (q r:Nat) (s:Int) (t:Bool) (w:World) (K:Value→World→Prop):Prop:=
 ∀ u v,New w (.cells #[.string b,.slice c d e,.slice f g i,.int .i64 j,.int .i64 k,.int .i64 l,.slice m n o] T.affluxref09_Model) u v→
 ∀ x y,New v (.cells #[.string (bs []),.slice none 0 0,.slice none 0 0,.int .i64 0,.int .i64 0,.int .i64 0,.slice none 0 0] T.affluxref09_Model) x y→
 ∃ (z:Option Addr→Nat→Nat→Bool→Int→World→Prop) (a0:Option Addr→Nat→Nat→Bool→Int→World→Nat),
 z none 0 0 (!t) 0 y∧
 ∀ (b0:Option Addr) (c0 d0:Nat) (e0:Bool) (f0:Int) g0,z b0 c0 d0 e0 f0 g0→
 Es fun h0 i0 j0=>
 g0.cell? ((Addr.mk u 0 none).add 6)=some (.slice h0 i0 j0)∧
 ifB (decide (f0 < ((i0:Nat):Int))) (
 ifB (f0 == s) (
 z b0 c0 d0 e0 (IntKind.i64.wrap (f0+(1:Int))) g0∧a0 b0 c0 d0 e0 (IntKind.i64.wrap (f0+(1:Int))) g0 < a0 b0 c0 d0 e0 f0 g0) (
 ifB (!e0) (
 E6 fun k0 l0 m0 n0 o0 p0 q0 r0 s0 t0=>
 cellsAt g0.drew ((Addr.mk u 0 none).add 0) 0 (L6 k0 l0 m0 n0 o0 p0 q0 r0 s0 t0)∧
 E6 fun u0 v0 w0 x0 y0 z0 a1 b1 c1 d1=>
 cellsAt g0.drew ((Addr.mk u 0 none).add 0) 0 (L6 u0 v0 w0 x0 y0 z0 a1 b1 c1 d1)∧
 Es fun e1 f1 g1=>
 g0.drew.cell? ((Addr.mk u 0 none).add 6)=some (.slice e1 f1 g1)∧
 Iq e1 (f0) f1 fun h1=>
 Es fun i1 j1 k1=>
 g0.drew.cell? (h1.add (f0.toNat * 1))=some (.slice i1 j1 k1)∧
 Cv F.z28 #[A6 k0 l0 m0 n0 o0 p0 q0 r0 s0 t0,.int .i64 0,.slice p q r] g0.drew (fun l1 m1=>
 ∃ (n1:ByteArray),
 l1 = .string n1∧
 m1.cell? (h1.add (f0.toNat * 1))=some (.slice i1 j1 k1)∧
 m1.cell? ((Addr.mk u 0 none).add 6)=some (.slice e1 f1 g1)∧
 cellsAt m1 ((Addr.mk u 0 none).add 0) 0 (L6 u0 v0 w0 x0 y0 z0 a1 b1 c1 d1)∧
 Cv F.z28 #[A6 u0 v0 w0 x0 y0 z0 a1 b1 c1 d1,.int .i64 0,.slice i1 j1 k1] m1 (fun o1 p1=>
 ∃ (q1:ByteArray),
 o1 = .string q1∧
 ifB (sLt n1 q1) (
 ∀ r1 s1,New p1 (.cells #[.slice p q r] T.s_api_Value) r1 s1→
 BuiltV prog .append #[T.s_s_api_Value,T.s_s_api_Value] T.s_s_api_Value #[.slice b0 c0 d0,.slice (some (Addr.mk r1 0 none)) 1 1] s1 (fun t1 u1=>
 Es fun v1 w1 x1=>
 t1 = .slice v1 w1 x1∧
 Es fun y1 z1 a2=>
 u1.cell? ((Addr.mk u 0 none).add 6)=some (.slice y1 z1 a2)∧
 Iq y1 (f0) z1 fun b2=>
 Es fun c2 d2 e2=>
 u1.cell? (b2.add (f0.toNat * 1))=some (.slice c2 d2 e2)∧
 ∀ f2 g2,New u1 (.cells #[.slice c2 d2 e2] T.s_api_Value) f2 g2→
 BuiltV prog .append #[T.s_s_api_Value,T.s_s_api_Value] T.s_s_api_Value #[.slice v1 w1 x1,.slice (some (Addr.mk f2 0 none)) 1 1] g2 (fun h2 i2=>
 Es fun j2 k2 l2=>
 h2 = .slice j2 k2 l2∧
 z j2 k2 l2 true (IntKind.i64.wrap (f0+(1:Int))) i2∧a0 j2 k2 l2 true (IntKind.i64.wrap (f0+(1:Int))) i2 < a0 b0 c0 d0 e0 f0 g0))) (
 Es fun m2 n2 o2=>
 p1.cell? ((Addr.mk u 0 none).add 6)=some (.slice m2 n2 o2)∧
 Iq m2 (f0) n2 fun p2=>
 Es fun q2 r2 s2=>
 p1.cell? (p2.add (f0.toNat * 1))=some (.slice q2 r2 s2)∧
 ∀ t2 u2,New p1 (.cells #[.slice q2 r2 s2] T.s_api_Value) t2 u2→
 BuiltV prog .append #[T.s_s_api_Value,T.s_s_api_Value] T.s_s_api_Value #[.slice b0 c0 d0,.slice (some (Addr.mk t2 0 none)) 1 1] u2 (fun v2 w2=>
 Es fun x2 y2 z2=>
 v2 = .slice x2 y2 z2∧
 z x2 y2 z2 e0 (IntKind.i64.wrap (f0+(1:Int))) w2∧a0 x2 y2 z2 e0 (IntKind.i64.wrap (f0+(1:Int))) w2 < a0 b0 c0 d0 e0 f0 g0))))) (
 Es fun a3 b3 c3=>
 g0.drew.cell? ((Addr.mk u 0 none).add 6)=some (.slice a3 b3 c3)∧
 Iq a3 (f0) b3 fun d3=>
 Es fun e3 f3 g3=>
 g0.drew.cell? (d3.add (f0.toNat * 1))=some (.slice e3 f3 g3)∧
 ∀ h3 i3,New g0.drew (.cells #[.slice e3 f3 g3] T.s_api_Value) h3 i3→
 BuiltV prog .append #[T.s_s_api_Value,T.s_s_api_Value] T.s_s_api_Value #[.slice b0 c0 d0,.slice (some (Addr.mk h3 0 none)) 1 1] i3 (fun j3 k3=>
 Es fun l3 m3 n3=>
 j3 = .slice l3 m3 n3∧
 z l3 m3 n3 e0 (IntKind.i64.wrap (f0+(1:Int))) k3∧a0 l3 m3 n3 e0 (IntKind.i64.wrap (f0+(1:Int))) k3 < a0 b0 c0 d0 e0 f0 g0)))) (
 ifB (!e0) (
 ∀ o3 p3,New g0 (.cells #[.slice p q r] T.s_api_Value) o3 p3→
 BuiltV prog .append #[T.s_s_api_Value,T.s_s_api_Value] T.s_s_api_Value #[.slice b0 c0 d0,.slice (some (Addr.mk o3 0 none)) 1 1] p3 (fun q3 r3=>
 Es fun s3 t3 u3=>
 q3 = .slice s3 t3 u3∧
 E6 fun v3 w3 x3 y3 z3 a4 b4 c4 d4 e4=>
 cellsAt r3 ((Addr.mk u 0 none).add 0) 0 (L6 v3 w3 x3 y3 z3 a4 b4 c4 d4 e4)∧
 Sb x 0 (.string v3) r3 fun f4=>
 Sb x 1 (.slice w3 x3 y3) f4 fun g4=>
 Sb x 2 (.slice z3 a4 b4) g4 fun h4=>
 Sb x 3 (.int .i64 c4) h4 fun i4=>
 Sb x 4 (.int .i64 d4) i4 fun j4=>
 Sb x 5 (.int .i64 e4) j4 fun k4=>
 Sb x 6 (.slice s3 t3 u3) k4 fun l4=>
 E7 fun m4 n4 o4 p4 q4 r4 s4 t4 u4 v4 w4 x4 y4=>
 cellsAt l4 (Addr.mk x 0 none) 0 (L7 m4 n4 o4 p4 q4 r4 s4 t4 u4 v4 w4 x4 y4)∧
 K (A7 m4 n4 o4 p4 q4 r4 s4 t4 u4 v4 w4 x4 y4) l4)) (
 E6 fun z4 a5 b5 c5 d5 e5 f5 g5 h5 i5=>
 cellsAt g0 ((Addr.mk u 0 none).add 0) 0 (L6 z4 a5 b5 c5 d5 e5 f5 g5 h5 i5)∧
 Sb x 0 (.string z4) g0 fun j5=>
 Sb x 1 (.slice a5 b5 c5) j5 fun k5=>
 Sb x 2 (.slice d5 e5 f5) k5 fun l5=>
 Sb x 3 (.int .i64 g5) l5 fun m5=>
 Sb x 4 (.int .i64 h5) m5 fun n5=>
 Sb x 5 (.int .i64 i5) n5 fun o5=>
 Sb x 6 (.slice b0 c0 d0) o5 fun p5=>
 E7 fun q5 r5 s5 t5 u5 v5 w5 x5 y5 z5 a6 b6 c6=>
 cellsAt p5 (Addr.mk x 0 none) 0 (L7 q5 r5 s5 t5 u5 v5 w5 x5 y5 z5 a6 b6 c6)∧
 K (A7 q5 r5 s5 t5 u5 v5 w5 x5 y5 z5 a6 b6 c6) p5))
def An.z50:Ann:=⟨[(7,.sil 0 [] (.sil 1 [] (.sil 2 [] (.sil 3 [] (.sil 4 [] (.sil 5 [] (.sil 7 [] (.sil 8 [6] (.sil 9 [] (.sil 10 [6] (.sil 11 [] (.sil 12 [] (.sil 13 [6] (.act 6 (.act 14 (.sil 15 [] (.sil 16 [] (.done))))))))))))))))))],[(4,[(9,32),(10,4),(11,3)],[1,2,4,8])],[]⟩
theorem R.z50 {a:ByteArray} {b:Option Addr} {c d:Nat} {e:Option Addr} {f g:Nat} {i:Int} {j:Int} {k:Int} {l:Option Addr} {m n:Nat} {o:Option Addr} {p q:Nat} {r:Int} {s:Bool} {w:World} {K:Value→World→Prop} (h:C.z50 a b c d e f g i j k l m n o p q r s w K):Cv F.z50 #[.agg #[.string a,.slice b c d,.slice e f g,.int .i64 i,.int .i64 j,.int .i64 k,.slice l m n],.slice o p q,.int .i64 r,.bool s] w K:=
 RR (an:=An.z50) Go.Proofs.Tryz.func115 (by kernel_rfl) (by kernel_rfl) h
def C.z181 (a:Option Addr) (w:World) (K:Value→World→Prop):Prop:=
 ifB a.isNone (
 K (.tuple #[.string (bs []),.string (bs []),.bool false]) w) (
 ∃ b,a=some b∧
 ∃ (c:ByteArray),
 w.drew.cell? (b.add 0)=some (.string c)∧
 ∃ d,a=some d∧
 ∃ (e:ByteArray),
 w.drew.cell? (d.add 1)=some (.string e)∧
 K (.tuple #[.string c,.string e,.bool true]) w.drew)
def An.z181:Ann:=⟨[(4,.sil 0 [] (.sil 1 [] (.sil 2 [] (.sil 3 [] (.sil 4 [] (.sil 5 [] (.sil 6 [] (.sil 7 [] (.sil 8 [] (.sil 9 [] (.sil 10 [] (.done))))))))))))],[],[]⟩
theorem R.z181 {a:Option Addr} {w:World} {K:Value→World→Prop} (h:C.z181 a w K):Cv F.z181 #[.pointer a] w K:=
 RR (an:=An.z181) Go.Proofs.Tryz.func116 (by kernel_rfl) (by kernel_rfl) h
def C.z163 (a:Option Addr) (b:Int) (w:World) (K:Value→World→Prop):Prop:=
 Cv F.z167 #[.pointer a] w (fun c d=>
 ∃ (e:Bool),
 c = .bool e∧
 ifB e (
 K (.pointer none) d) (
 ∃ f,a=some f∧
 Es fun g i j=>
 d.cell? (f.add 1)=some (.slice g i j)∧
 Iq g (b) i fun k=>
 ∃ (l:Option Addr),
 d.cell? (k.add (b.toNat * 1))=some (.pointer l)∧
 K (.pointer l) d))
def An.z163:Ann:=⟨[],[],[]⟩
theorem R.z163 {a:Option Addr} {b:Int} {w:World} {K:Value→World→Prop} (h:C.z163 a b w K):Cv F.z163 #[.pointer a,.int .i64 b] w K:=
 RR (an:=An.z163) Go.Proofs.Tryz.func117 (by kernel_rfl) (by kernel_rfl) h
def C.z97 (a:Option Addr) (b c:Nat) (d:Int) (w:World) (K:Value→World→Prop):Prop:=
 Cv F.z104 #[.slice a b c,.int .i64 d] w (fun e f=>
 ∃ (g:Int),
 e = .int .i64 g∧
 K (.bool (decide ((0:Int)≤g))) f)
def An.z97:Ann:=⟨[],[],[]⟩
theorem R.z97 {a:Option Addr} {b c:Nat} {d:Int} {w:World} {K:Value→World→Prop} (h:C.z97 a b c d w K):Cv F.z97 #[.slice a b c,.int .i64 d] w K:=
 RR (an:=An.z97) Go.Proofs.Tryz.func118 (by kernel_rfl) (by kernel_rfl) h
def C.z142 (a:ByteArray) (b:Option Addr) (c d:Nat) (e:Option Addr) (f g:Nat) (i:Int) (j:Int) (k:Int) (l:Option Addr) (m n:Nat) (w:World) (K:Value→World→Prop):Prop:=
 ∀ o p,New w (.cells #[.string a,.slice b c d,.slice e f g,.int .i64 i,.int .i64 j,.int .i64 k] T.table_plan) o p→
 E6 fun q r s t u v x y z a0=>
 cellsAt p ((Addr.mk o 0 none).add 0) 0 (L6 q r s t u v x y z a0)∧
 Cv F.z67 #[A6 q r s t u v x y z a0,.slice l m n] p (fun b0 c0=>
 ∃ (d0:Int) (e0:Int),
 b0 = .tuple #[.int .i64 d0,.int .i64 e0]∧
 K (.int .i64 d0) c0)
def An.z142:Ann:=⟨[],[],[]⟩
theorem R.z142 {a:ByteArray} {b:Option Addr} {c d:Nat} {e:Option Addr} {f g:Nat} {i:Int} {j:Int} {k:Int} {l:Option Addr} {m n:Nat} {w:World} {K:Value→World→Prop} (h:C.z142 a b c d e f g i j k l m n w K):Cv F.z142 #[.agg #[.string a,.slice b c d,.slice e f g,.int .i64 i,.int .i64 j,.int .i64 k],.slice l m n] w K:=
 RR (an:=An.z142) Go.Proofs.Tryz.func119 (by kernel_rfl) (by kernel_rfl) h
def C.z16 (b:Bool) (c:Option Addr) (d e:Nat) (w:World) (K:Value→World→Prop):Prop:=
 ∀ f g,New w (.cells #[.bool false,.slice none 0 0] T.affluxref01_Num) f g→
 Cv F.z18 #[.slice c d e] g (fun i j=>
 Es fun k l m=>
 i = .slice k l m∧
 ifB b (
 Sb f 0 (.bool (decide ((0:Int) < ((l:Nat):Int)))) j fun n=>
 Sb f 1 (.slice k l m) n fun o=>
 ∃ (p:Bool) (q:Option Addr) (r s:Nat),
 cellsAt o (Addr.mk f 0 none) 0 [.bool p,.slice q r s]∧
 K (.agg #[.bool p,.slice q r s]) o) (
 Sb f 0 (.bool false) j fun t=>
 Sb f 1 (.slice k l m) t fun u=>
 ∃ (v:Bool) (x:Option Addr) (y z:Nat),
 cellsAt u (Addr.mk f 0 none) 0 [.bool v,.slice x y z]∧
 K (.agg #[.bool v,.slice x y z]) u))
def An.z16:Ann:=⟨[],[],[]⟩
theorem R.z16 {a:Bool} {b:Option Addr} {c d:Nat} {w:World} {K:Value→World→Prop} (h:C.z16 a b c d w K):Cv F.z16 #[.bool a,.slice b c d] w K:=
 RR (an:=An.z16) Go.Proofs.Tryz.func120 (by kernel_rfl) (by kernel_rfl) h
def C.z13 (b:Option Addr) (c d:Nat) (e:Option Addr) (f g:Nat) (w:World) (K:Value→World→Prop):Prop:=
 ∃ (i:Option Addr→Nat→Nat→Int→Int→World→Prop) (j:Option Addr→Nat→Nat→Int→Int→World→Nat),
 i none 0 0 0 0 w∧
 ∀ (k:Option Addr) (l m:Nat) (n:Int) (o:Int) p,i k l m n o p→
 ∃ q:World→Prop,
 (ifB (decide (o < ((c:Nat):Int))) (
 q p) (
 ifB (decide (o < ((f:Nat):Int))) (
 q p) (
 ifB (decide ((0:Int) < n)) (
 q p) (
 K (.slice k l m) p))))∧
 (∀ r,q r→
 Cv F.z14 #[.slice b c d,.int .i64 o] r (fun s t=>
 ∃ (u:Int),
 s = .int .i64 u∧
 Cv F.z14 #[.slice e f g,.int .i64 o] t (fun v x=>
 ∃ (y:Int),
 v = .int .i64 y∧
 (10:Int)≠0∧
 ∀ z a0,New x (.cells #[.int .i64 (Int.tmod (IntKind.i64.wrap ((IntKind.i64.wrap (u+y))+n)) (10:Int))] T.int) z a0→
 BuiltV prog .append #[T.s_int,T.s_int] T.s_int #[.slice k l m,.slice (some (Addr.mk z 0 none)) 1 1] a0 (fun b0 c0=>
 Es fun d0 e0 f0=>
 b0 = .slice d0 e0 f0∧
 (10:Int)≠0∧
 i d0 e0 f0 (IntKind.i64.wrap (Int.tdiv (IntKind.i64.wrap ((IntKind.i64.wrap (u+y))+n)) (10:Int))) (IntKind.i64.wrap (o+(1:Int))) c0∧j d0 e0 f0 (IntKind.i64.wrap (Int.tdiv (IntKind.i64.wrap ((IntKind.i64.wrap (u+y))+n)) (10:Int))) (IntKind.i64.wrap (o+(1:Int))) c0 < j k l m n o p))))
def An.z13:Ann:=⟨[],[(4,[(5,27),(6,3),(7,3)],[0,1])],[(6,[],[0,1,5,6,7])]⟩
theorem R.z13 {a:Option Addr} {b c:Nat} {d:Option Addr} {e f:Nat} {w:World} {K:Value→World→Prop} (h:C.z13 a b c d e f w K):Cv F.z13 #[.slice a b c,.slice d e f] w K:=
 RR (an:=An.z13) Go.Proofs.Tryz.func121 (by kernel_rfl) (by kernel_rfl) h
def C.z87 (a:Option Addr) (b c:Nat) (d:ByteArray) (cmp1f:Nat) (e:Array Value) (w:World) (K:Value→World→Prop):Prop:=
 ∃ (f:Int→Int→World→Prop) (g:Int→Int→World→Nat),
 f 0 ((b:Nat):Int) w∧
 ∀ (i:Int) (j:Int) k,f i j k→
 ifB (decide (i < j)) (
 0≤(1:Int)∧
 Iq a (IntKind.i64.wrap (Int.fdiv (IntKind.u64.wrap (IntKind.i64.wrap (i+j))) (2 ^ (min (1:Int).toNat IntKind.u64.bits)))) b fun l=>
 ∃ (m:ByteArray) (n:ByteArray),
 cellsAt k (l.add ((IntKind.i64.wrap (Int.fdiv (IntKind.u64.wrap (IntKind.i64.wrap (i+j))) (2 ^ (min (1:Int).toNat IntKind.u64.bits)))).toNat * 2)) 0 [.string m,.string n]∧
 CallsV prog cmp1f (#[]++#[.agg #[.string m,.string n],.string d]++e) k (fun o p=>
 ∃ (q:Int),
 o = .int .i64 q∧
 ifB (decide (q < (0:Int))) (
 f (IntKind.i64.wrap ((IntKind.i64.wrap (Int.fdiv (IntKind.u64.wrap (IntKind.i64.wrap (i+j))) (2 ^ (min (1:Int).toNat IntKind.u64.bits))))+(1:Int))) j p∧g (IntKind.i64.wrap ((IntKind.i64.wrap (Int.fdiv (IntKind.u64.wrap (IntKind.i64.wrap (i+j))) (2 ^ (min (1:Int).toNat IntKind.u64.bits))))+(1:Int))) j p < g i j k) (
 f i (IntKind.i64.wrap (Int.fdiv (IntKind.u64.wrap (IntKind.i64.wrap (i+j))) (2 ^ (min (1:Int).toNat IntKind.u64.bits)))) p∧g i (IntKind.i64.wrap (Int.fdiv (IntKind.u64.wrap (IntKind.i64.wrap (i+j))) (2 ^ (min (1:Int).toNat IntKind.u64.bits)))) p < g i j k))) (
 ifB (decide (i < ((b:Nat):Int))) (
 Iq a (i) b fun r=>
 ∃ (s:ByteArray) (t:ByteArray),
 cellsAt k (r.add (i.toNat * 2)) 0 [.string s,.string t]∧
 CallsV prog cmp1f (#[]++#[.agg #[.string s,.string t],.string d]++e) k (fun u v=>
 ∃ (x:Int),
 u = .int .i64 x∧
 K (.tuple #[.int .i64 i,.bool (x == (0:Int))]) v)) (
 K (.tuple #[.int .i64 i,.bool false]) k))
def An.z87:Ann:=⟨[],[(3,[(9,3),(10,3)],[0,1,2,8])],[]⟩
theorem R.z87 {a:Option Addr} {b c:Nat} {d:ByteArray} {cmp1f:Nat} {e:Array Value} {w:World} {K:Value→World→Prop} (h:C.z87 a b c d cmp1f e w K):Cv F.z87 #[.slice a b c,.string d,.func (.func cmp1f) #[] e] w K:=
 RR (an:=An.z87) Go.Proofs.Tryz.func124 (by kernel_rfl) (by kernel_rfl) h
def C.z178 (a:ByteArray) (b:ByteArray) (c:ByteArray) (w:World) (K:Value→World→Prop):Prop:=
 ∀ d e,New w (.cells #[.string a,.string b] T.tree_entry_string) d e→
 ∃ (f:ByteArray),
 e.cell? ((Addr.mk d 0 none).add 0)=some (.string f)∧
 ifB (sLt f c) (
 K (.int .i64 (-1)) e) (
 ∃ (g:ByteArray),
 e.cell? ((Addr.mk d 0 none).add 0)=some (.string g)∧
 ifB (!(sLt g c || sEq g c)) (
 K (.int .i64 1) e) (
 K (.int .i64 0) e))
def An.z178:Ann:=⟨[],[],[]⟩
theorem R.z178 {a:ByteArray} {b:ByteArray} {c:ByteArray} {w:World} {K:Value→World→Prop} (h:C.z178 a b c w K):Cv F.z178 #[.agg #[.string a,.string b],.string c] w K:=
 RR (an:=An.z178) Go.Proofs.Tryz.func125 (by kernel_rfl) (by kernel_rfl) h
def C.z70 (a:ByteArray) (b:Option Addr) (c d:Nat) (e:Option Addr) (f g:Nat) (i:Int) (j:Int) (k:Int) (l:Int) (m:Option Addr) (n o:Nat) (w:World) (K:Value→World→Prop):Prop:=
 ∀ p q,New w (.cells #[.string a,.slice b c d,.slice e f g,.int .i64 i,.int .i64 j,.int .i64 k] T.api_Schema) p q→
 E6 fun r s t u v x y z a0 b0=>
 cellsAt q (Addr.mk p 0 none) 0 (L6 r s t u v x y z a0 b0)∧
 Cv F.z69 #[A6 r s t u v x y z a0 b0] q (fun c0 d0=>
 ∃ (e0:Bool),
 c0 = .bool e0∧
 ifB (!e0) (
 K (.int .i64 1) d0) (
 Es fun f0 g0 h0=>
 d0.cell? ((Addr.mk p 0 none).add 2)=some (.slice f0 g0 h0)∧
 Cv F.z85 #[.int .i64 l,.int .i64 0,.int .i64 (IntKind.i64.wrap (((g0:Nat):Int) - (1:Int)))] d0 (fun i0 j0=>
 ∃ (k0:Bool),
 i0 = .bool k0∧
 ifB (!k0) (
 K (.int .i64 1) j0) (
 Es fun l0 m0 n0=>
 j0.cell? ((Addr.mk p 0 none).add 1)=some (.slice l0 m0 n0)∧
 Cv F.z73 #[.slice l0 m0 n0,.slice m n o] j0 (fun o0 p0=>
 ∃ (q0:Bool),
 o0 = .bool q0∧
 ifB (!q0) (
 K (.int .i64 13) p0) (
 K (.int .i64 0) p0))))))
def An.z70:Ann:=⟨[],[],[]⟩
theorem R.z70 {a:ByteArray} {b:Option Addr} {c d:Nat} {e:Option Addr} {f g:Nat} {i:Int} {j:Int} {k:Int} {l:Int} {m:Option Addr} {n o:Nat} {w:World} {K:Value→World→Prop} (h:C.z70 a b c d e f g i j k l m n o w K):Cv F.z70 #[.agg #[.string a,.slice b c d,.slice e f g,.int .i64 i,.int .i64 j,.int .i64 k],.int .i64 l,.slice m n o] w K:=
 RR (an:=An.z70) Go.Proofs.Tryz.func126 (by kernel_rfl) (by kernel_rfl) h
def C.z76 (a:ByteArray) (b:Option Addr) (c d:Nat) (e:Option Addr) (f g:Nat) (i:Int) (j:Int) (k:Int) (l:Int) (m:Option Addr) (n o:Nat) (w:World) (K:Value→World→Prop):Prop:=
 ∀ p q,New w (.cells #[.string a,.slice b c d,.slice e f g,.int .i64 i,.int .i64 j,.int .i64 k] T.api_Schema) p q→
 Es fun r s t=>
 q.cell? ((Addr.mk p 0 none).add 2)=some (.slice r s t)∧
 Iq r (l) s fun u=>
 ∃ (v:Option Addr) (x y:Nat) (z:Bool),
 cellsAt q (u.add (l.toNat * 2)) 0 [.slice v x y,.bool z]∧
 ∀ a0 b0,New q (.cells #[.slice none 0 0,.bool false] T.api_Index) a0 b0→
 Sb a0 0 (.slice v x y) b0 fun c0=>
 Sb a0 1 (.bool z) c0 fun d0=>
 Es fun e0 f0 g0=>
 d0.cell? ((Addr.mk a0 0 none).add 0)=some (.slice e0 f0 g0)∧
 Cv F.z68 #[.slice m n o,.slice e0 f0 g0] d0 (fun h0 i0=>
 Es fun j0 k0 l0=>
 h0 = .slice j0 k0 l0∧
 Cv F.z183 #[.slice j0 k0 l0] i0 (fun m0 n0=>
 ∃ (o0:ByteArray),
 m0 = .string o0∧
 ∃ (p0:Bool),
 n0.cell? ((Addr.mk a0 0 none).add 1)=some (.bool p0)∧
 ifB (!p0) (
 Es fun q0 r0 s0=>
 n0.cell? ((Addr.mk p 0 none).add 2)=some (.slice q0 r0 s0)∧
 Iq q0 ((0:Int)) r0 fun t0=>
 Es fun u0 v0 w0=>
 n0.cell? ((t0.add ((0:Int).toNat * 2)).add 0)=some (.slice u0 v0 w0)∧
 Cv F.z68 #[.slice m n o,.slice u0 v0 w0] n0 (fun x0 y0=>
 Es fun z0 a1 b1=>
 x0 = .slice z0 a1 b1∧
 Cv F.z183 #[.slice z0 a1 b1] y0 (fun c1 d1=>
 ∃ (e1:ByteArray),
 c1 = .string e1∧
 o0.size+e1.size≤9223372036854775807∧
 K (.string (o0++e1)) d1))) (
 K (.string o0) n0)))
def An.z76:Ann:=⟨[],[],[]⟩
theorem R.z76 {a:ByteArray} {b:Option Addr} {c d:Nat} {e:Option Addr} {f g:Nat} {i:Int} {j:Int} {k:Int} {l:Int} {m:Option Addr} {n o:Nat} {w:World} {K:Value→World→Prop} (h:C.z76 a b c d e f g i j k l m n o w K):Cv F.z76 #[.agg #[.string a,.slice b c d,.slice e f g,.int .i64 i,.int .i64 j,.int .i64 k],.int .i64 l,.slice m n o] w K:=
 RR (an:=An.z76) Go.Proofs.Tryz.func127 (by kernel_rfl) (by kernel_rfl) h
def C.z86 (a:Option Addr) (b c:Nat) (d:ByteArray) (cmp1f:Nat) (e:Array Value) (w:World) (K:Value→World→Prop):Prop:=
 ∃ (f:Int→Int→World→Prop) (g:Int→Int→World→Nat),
 f 0 ((b:Nat):Int) w∧
 ∀ (i:Int) (j:Int) k,f i j k→
 ifB (decide (i < j)) (
 0≤(1:Int)∧
 Iq a (IntKind.i64.wrap (Int.fdiv (IntKind.u64.wrap (IntKind.i64.wrap (i+j))) (2 ^ (min (1:Int).toNat IntKind.u64.bits)))) b fun l=>
 ∃ (m:ByteArray) (n:Option Addr) (o p:Nat),
 cellsAt k (l.add ((IntKind.i64.wrap (Int.fdiv (IntKind.u64.wrap (IntKind.i64.wrap (i+j))) (2 ^ (min (1:Int).toNat IntKind.u64.bits)))).toNat * 2)) 0 [.string m,.slice n o p]∧
 CallsV prog cmp1f (#[]++#[.agg #[.string m,.slice n o p],.string d]++e) k (fun q r=>
 ∃ (s:Int),
 q = .int .i64 s∧
 ifB (decide (s < (0:Int))) (
 f (IntKind.i64.wrap ((IntKind.i64.wrap (Int.fdiv (IntKind.u64.wrap (IntKind.i64.wrap (i+j))) (2 ^ (min (1:Int).toNat IntKind.u64.bits))))+(1:Int))) j r∧g (IntKind.i64.wrap ((IntKind.i64.wrap (Int.fdiv (IntKind.u64.wrap (IntKind.i64.wrap (i+j))) (2 ^ (min (1:Int).toNat IntKind.u64.bits))))+(1:Int))) j r < g i j k) (
 f i (IntKind.i64.wrap (Int.fdiv (IntKind.u64.wrap (IntKind.i64.wrap (i+j))) (2 ^ (min (1:Int).toNat IntKind.u64.bits)))) r∧g i (IntKind.i64.wrap (Int.fdiv (IntKind.u64.wrap (IntKind.i64.wrap (i+j))) (2 ^ (min (1:Int).toNat IntKind.u64.bits)))) r < g i j k))) (
 ifB (decide (i < ((b:Nat):Int))) (
 Iq a (i) b fun t=>
 ∃ (u:ByteArray) (v:Option Addr) (x y:Nat),
 cellsAt k (t.add (i.toNat * 2)) 0 [.string u,.slice v x y]∧
 CallsV prog cmp1f (#[]++#[.agg #[.string u,.slice v x y],.string d]++e) k (fun z a0=>
 ∃ (b0:Int),
 z = .int .i64 b0∧
 K (.tuple #[.int .i64 i,.bool (b0 == (0:Int))]) a0)) (
 K (.tuple #[.int .i64 i,.bool false]) k))
def An.z86:Ann:=⟨[],[(3,[(9,3),(10,3)],[0,1,2,8])],[]⟩
theorem R.z86 {a:Option Addr} {b c:Nat} {d:ByteArray} {cmp1f:Nat} {e:Array Value} {w:World} {K:Value→World→Prop} (h:C.z86 a b c d cmp1f e w K):Cv F.z86 #[.slice a b c,.string d,.func (.func cmp1f) #[] e] w K:=
 RR (an:=An.z86) Go.Proofs.Tryz.func128 (by kernel_rfl) (by kernel_rfl) h
def C.z174 (a:ByteArray) (b:Option Addr) (c d:Nat) (e:ByteArray) (w:World) (K:Value→World→Prop):Prop:=
 ∀ f g,New w (.cells #[.string a,.slice b c d] T.tree_entry_s_afflux_api_Value) f g→
 ∃ (i:ByteArray),
 g.cell? ((Addr.mk f 0 none).add 0)=some (.string i)∧
 ifB (sLt i e) (
 K (.int .i64 (-1)) g) (
 ∃ (j:ByteArray),
 g.cell? ((Addr.mk f 0 none).add 0)=some (.string j)∧
 ifB (!(sLt j e || sEq j e)) (
 K (.int .i64 1) g) (
 K (.int .i64 0) g))
def An.z174:Ann:=⟨[],[],[]⟩
theorem R.z174 {a:ByteArray} {b:Option Addr} {c d:Nat} {e:ByteArray} {w:World} {K:Value→World→Prop} (h:C.z174 a b c d e w K):Cv F.z174 #[.agg #[.string a,.slice b c d],.string e] w K:=
 RR (an:=An.z174) Go.Proofs.Tryz.func129 (by kernel_rfl) (by kernel_rfl) h
def C.z77 (a:Int) (w:World) (K:Value→World→Prop):Prop:=
 ifB (decide ((97:Int)≤a)) (
 K (.bool (decide (a≤(122:Int)))) w) (
 K (.bool false) w)
def An.z77:Ann:=⟨[],[],[]⟩
theorem R.z77 {a:Int} {w:World} {K:Value→World→Prop} (h:C.z77 a w K):Cv F.z77 #[.int .u8 a] w K:=
 RR (an:=An.z77) Go.Proofs.Tryz.func130 (by kernel_rfl) (by kernel_rfl) h
def C.z79 (a:Int) (w:World) (K:Value→World→Prop):Prop:=
 Cv F.z77 #[.int .u8 a] w (fun b c=>
 ∃ (d:Bool),
 b = .bool d∧
 ifB d (
 K (.bool true) c) (
 ifB (decide ((48:Int)≤a)) (
 ifB (decide (a≤(57:Int))) (
 K (.bool true) c) (
 K (.bool (a == (95:Int))) c)) (
 K (.bool (a == (95:Int))) c)))
def An.z79:Ann:=⟨[],[],[]⟩
theorem R.z79 {a:Int} {w:World} {K:Value→World→Prop} (h:C.z79 a w K):Cv F.z79 #[.int .u8 a] w K:=
 RR (an:=An.z79) Go.Proofs.Tryz.func131 (by kernel_rfl) (by kernel_rfl) h
def C.z82 (a:Option Addr) (b c:Nat) (same1f:Nat) (d:Array Value) (w:World) (K:Value→World→Prop):Prop:=
 ∃ (e:Int→World→Prop) (f:Int→World→Nat),
 e 0 w∧
 ∀ (g:Int) i,e g i→
 ifB (decide (g < ((b:Nat):Int))) (
 Iq a (g) b fun j=>
 ∃ (k:ByteArray) (l:Int),
 cellsAt i (j.add (g.toNat * 2)) 0 [.string k,.int .i64 l]∧
 ∀ m n,New i (.cells #[.string (bs []),.int .i64 0] T.api_Column) m n→
 Sb m 0 (.string k) n fun o=>
 Sb m 1 (.int .i64 l) o fun p=>
 0≤g∧g≤((c:Nat):Int)∧
 ∃ (q:Int→World→Prop) (r:Int→World→Nat),
 q 0 p∧
 ∀ (s:Int) t,q s t→
 ifB (decide (s < ((g.toNat - 0:Nat):Int))) (
 ∃ u,cutAt a 0 c 2=some u∧0≤s∧s < ((g.toNat - 0:Nat):Int)∧
 ∃ (v:ByteArray) (x:Int),
 cellsAt t (u.add (s.toNat * 2)) 0 [.string v,.int .i64 x]∧
 ∀ y z,New t (.cells #[.string (bs []),.int .i64 0] T.api_Column) y z→
 Sb y 0 (.string v) z fun a0=>
 Sb y 1 (.int .i64 x) a0 fun b0=>
 ∃ (c0:ByteArray) (d0:Int),
 cellsAt b0 (Addr.mk m 0 none) 0 [.string c0,.int .i64 d0]∧
 ∃ (e0:ByteArray) (f0:Int),
 cellsAt b0 (Addr.mk y 0 none) 0 [.string e0,.int .i64 f0]∧
 CallsV prog same1f (#[]++#[.agg #[.string c0,.int .i64 d0],.agg #[.string e0,.int .i64 f0]]++d) b0 (fun g0 h0=>
 ∃ (i0:Bool),
 g0 = .bool i0∧
 ifB i0 (
 K (.bool false) h0) (
 q (IntKind.i64.wrap (s+(1:Int))) h0∧r (IntKind.i64.wrap (s+(1:Int))) h0 < r s t))) (
 e (IntKind.i64.wrap (g+(1:Int))) t∧f (IntKind.i64.wrap (g+(1:Int))) t < f g i)) (
 K (.bool true) i)
def An.z82:Ann:=⟨[],[(2,[(11,3)],[0,1,9,10]),(5,[(20,3)],[0,1,6,9,10,11,18,19])],[]⟩
theorem R.z82 {a:Option Addr} {b c:Nat} {same1f:Nat} {d:Array Value} {w:World} {K:Value→World→Prop} (h:C.z82 a b c same1f d w K):Cv F.z82 #[.slice a b c,.func (.func same1f) #[] d] w K:=
 RR (an:=An.z82) Go.Proofs.Tryz.func132 (by kernel_rfl) (by kernel_rfl) h
def C.z72 (a:ByteArray) (b:Int) (c:ByteArray) (d:Int) (w:World) (K:Value→World→Prop):Prop:=
 ∀ e f,New w (.cells #[.string a,.int .i64 b] T.api_Column) e f→
 ∀ g i,New f (.cells #[.string c,.int .i64 d] T.api_Column) g i→
 ∃ (j:ByteArray),
 i.cell? ((Addr.mk e 0 none).add 0)=some (.string j)∧
 ∃ (k:ByteArray),
 i.cell? ((Addr.mk g 0 none).add 0)=some (.string k)∧
 K (.bool (sEq j k)) i
def An.z72:Ann:=⟨[],[],[]⟩
theorem R.z72 {a:ByteArray} {b:Int} {c:ByteArray} {d:Int} {w:World} {K:Value→World→Prop} (h:C.z72 a b c d w K):Cv F.z72 #[.agg #[.string a,.int .i64 b],.agg #[.string c,.int .i64 d]] w K:=
 RR (an:=An.z72) Go.Proofs.Tryz.func133 (by kernel_rfl) (by kernel_rfl) h
def C.z80 (a:Option Addr) (b c:Nat) (d:Bool) (e:Int) (w:World) (K:Value→World→Prop):Prop:=
 ∀ f g,New w (.cells #[.slice a b c,.bool d] T.api_Index) f g→
 Es fun i j k=>
 g.cell? ((Addr.mk f 0 none).add 0)=some (.slice i j k)∧
 ∃ (l:Int→World→Prop) (m:Int→World→Nat),
 l 0 g∧
 ∀ (n:Int) o,l n o→
 ifB (decide (n < ((j:Nat):Int))) (
 Iq i (n) j fun p=>
 ∃ (q:Int),
 o.cell? (p.add (n.toNat * 1))=some (.int .i64 q)∧
 Cv F.z85 #[.int .i64 q,.int .i64 0,.int .i64 (IntKind.i64.wrap (e - (1:Int)))] o (fun r s=>
 ∃ (t:Bool),
 r = .bool t∧
 ifB (!t) (
 K (.bool false) s) (
 l (IntKind.i64.wrap (n+(1:Int))) s∧m (IntKind.i64.wrap (n+(1:Int))) s < m n o))) (
 Es fun u v x=>
 o.cell? ((Addr.mk f 0 none).add 0)=some (.slice u v x)∧
 ifB (decide ((0:Int) < ((v:Nat):Int))) (
 Es fun y z a0=>
 o.cell? ((Addr.mk f 0 none).add 0)=some (.slice y z a0)∧
 Cv F.z84 #[.slice y z a0,.func (.func F.z81) #[] #[]] o (fun b0 c0=>
 ∃ (d0:Bool),
 b0 = .bool d0∧
 K (.bool d0) c0)) (
 K (.bool false) o))
def An.z80:Ann:=⟨[],[(2,[(10,3)],[1,2,8,9])],[]⟩
theorem R.z80 {a:Option Addr} {b c:Nat} {d:Bool} {e:Int} {w:World} {K:Value→World→Prop} (h:C.z80 a b c d e w K):Cv F.z80 #[.agg #[.slice a b c,.bool d],.int .i64 e] w K:=
 RR (an:=An.z80) Go.Proofs.Tryz.func134 (by kernel_rfl) (by kernel_rfl) h
def C.z83 (a:Option Addr) (b c:Nat) (same1f:Nat) (d:Array Value) (w:World) (K:Value→World→Prop):Prop:=
 ∃ (e:Int→World→Prop) (f:Int→World→Nat),
 e 0 w∧
 ∀ (g:Int) i,e g i→
 ifB (decide (g < ((b:Nat):Int))) (
 Iq a (g) b fun j=>
 ∃ (k:Option Addr) (l m:Nat) (n:Bool),
 cellsAt i (j.add (g.toNat * 2)) 0 [.slice k l m,.bool n]∧
 ∀ o p,New i (.cells #[.slice none 0 0,.bool false] T.api_Index) o p→
 Sb o 0 (.slice k l m) p fun q=>
 Sb o 1 (.bool n) q fun r=>
 0≤g∧g≤((c:Nat):Int)∧
 ∃ (s:Int→World→Prop) (t:Int→World→Nat),
 s 0 r∧
 ∀ (u:Int) v,s u v→
 ifB (decide (u < ((g.toNat - 0:Nat):Int))) (
 ∃ x,cutAt a 0 c 2=some x∧0≤u∧u < ((g.toNat - 0:Nat):Int)∧
 ∃ (y:Option Addr) (z a0:Nat) (b0:Bool),
 cellsAt v (x.add (u.toNat * 2)) 0 [.slice y z a0,.bool b0]∧
 ∀ c0 d0,New v (.cells #[.slice none 0 0,.bool false] T.api_Index) c0 d0→
 Sb c0 0 (.slice y z a0) d0 fun e0=>
 Sb c0 1 (.bool b0) e0 fun f0=>
 ∃ (g0:Option Addr) (h0 i0:Nat) (j0:Bool),
 cellsAt f0 (Addr.mk o 0 none) 0 [.slice g0 h0 i0,.bool j0]∧
 ∃ (k0:Option Addr) (l0 m0:Nat) (n0:Bool),
 cellsAt f0 (Addr.mk c0 0 none) 0 [.slice k0 l0 m0,.bool n0]∧
 CallsV prog same1f (#[]++#[.agg #[.slice g0 h0 i0,.bool j0],.agg #[.slice k0 l0 m0,.bool n0]]++d) f0 (fun o0 p0=>
 ∃ (q0:Bool),
 o0 = .bool q0∧
 ifB q0 (
 K (.bool false) p0) (
 s (IntKind.i64.wrap (u+(1:Int))) p0∧t (IntKind.i64.wrap (u+(1:Int))) p0 < t u v))) (
 e (IntKind.i64.wrap (g+(1:Int))) v∧f (IntKind.i64.wrap (g+(1:Int))) v < f g i)) (
 K (.bool true) i)
def An.z83:Ann:=⟨[],[(2,[(11,3)],[0,1,9,10]),(5,[(20,3)],[0,1,6,9,10,11,18,19])],[]⟩
theorem R.z83 {a:Option Addr} {b c:Nat} {same1f:Nat} {d:Array Value} {w:World} {K:Value→World→Prop} (h:C.z83 a b c same1f d w K):Cv F.z83 #[.slice a b c,.func (.func same1f) #[] d] w K:=
 RR (an:=An.z83) Go.Proofs.Tryz.func135 (by kernel_rfl) (by kernel_rfl) h
def C.z75 (a:Option Addr) (b c:Nat) (d:Bool) (e:Option Addr) (f g:Nat) (i:Bool) (w:World) (K:Value→World→Prop):Prop:=
 ∀ j k,New w (.cells #[.slice a b c,.bool d] T.api_Index) j k→
 ∀ l m,New k (.cells #[.slice e f g,.bool i] T.api_Index) l m→
 Es fun n o p=>
 m.cell? ((Addr.mk j 0 none).add 0)=some (.slice n o p)∧
 Es fun q r s=>
 m.cell? ((Addr.mk l 0 none).add 0)=some (.slice q r s)∧
 Cv F.z102 #[.slice n o p,.slice q r s] m (fun t u=>
 ∃ (v:Bool),
 t = .bool v∧
 K (.bool v) u)
def An.z75:Ann:=⟨[],[],[]⟩
theorem R.z75 {a:Option Addr} {b c:Nat} {d:Bool} {e:Option Addr} {f g:Nat} {i:Bool} {w:World} {K:Value→World→Prop} (h:C.z75 a b c d e f g i w K):Cv F.z75 #[.agg #[.slice a b c,.bool d],.agg #[.slice e f g,.bool i]] w K:=
 RR (an:=An.z75) Go.Proofs.Tryz.func136 (by kernel_rfl) (by kernel_rfl) h
def C.z102 (a:Option Addr) (b c:Nat) (d:Option Addr) (e f:Nat) (w:World) (K:Value→World→Prop):Prop:=
 ifB (((b:Nat):Int) != ((e:Nat):Int)) (
 K (.bool false) w) (
 ∃ (g:Int→World→Prop) (i:Int→World→Nat),
 g 0 w∧
 ∀ (j:Int) k,g j k→
 ifB (decide (j < ((b:Nat):Int))) (
 Iq a (j) b fun l=>
 ∃ (m:Int),
 k.drew.cell? (l.add (j.toNat * 1))=some (.int .i64 m)∧
 Iq d (j) e fun n=>
 ∃ (o:Int),
 k.drew.cell? (n.add (j.toNat * 1))=some (.int .i64 o)∧
 ifB (m != o) (
 K (.bool false) k.drew) (
 g (IntKind.i64.wrap (j+(1:Int))) k.drew∧i (IntKind.i64.wrap (j+(1:Int))) k.drew < i j k)) (
 K (.bool true) k))
def An.z102:Ann:=⟨[(6,.sil 0 [] (.sil 1 [] (.sil 2 [] (.sil 3 [] (.sil 4 [] (.sil 5 [] (.sil 6 [] (.sil 7 [] (.sil 8 [] (.done))))))))))],[(4,[(13,3)],[0,1,12])],[]⟩
theorem R.z102 {a:Option Addr} {b c:Nat} {d:Option Addr} {e f:Nat} {w:World} {K:Value→World→Prop} (h:C.z102 a b c d e f w K):Cv F.z102 #[.slice a b c,.slice d e f] w K:=
 RR (an:=An.z102) Go.Proofs.Tryz.func137 (by kernel_rfl) (by kernel_rfl) h
def C.z145 (a:Option Addr) (b:ByteArray) (w:World) (K:Value→World→Prop):Prop:=
 ifB a.isNone (
 K (.tuple #[.slice none 0 0,.bool false]) w) (
 ∃ c,a=some c∧
 ∃ (d:Option Addr),
 w.cell? (c.add 0)=some (.pointer d)∧
 Cv F.z154 #[.pointer d,.string b] w (fun e f=>
 ∃ (g:Option Addr) (i j:Nat) (k:Bool),
 e = .tuple #[.slice g i j,.bool k]∧
 ifB k (
 ∃ l,a=some l∧
 ∃ (m:Int),
 f.cell? (l.add 1)=some (.int .i64 m)∧
 ∃ n,a=some n∧
 CanSt f (n.add 1)∧∀ o,o=f.setCell (n.add 1) (.int .i64 (IntKind.i64.wrap (m - (1:Int))))→
 ∃ p,a=some p∧
 ∃ (q:Option Addr),
 o.cell? (p.add 0)=some (.pointer q)∧
 ∃ r,q=some r∧
 Es fun s t u=>
 o.cell? ((r.add 0).add 0)=some (.slice s t u)∧
 ifB (((t:Nat):Int) == (0:Int)) (
 ∃ v,a=some v∧
 ∃ (x:Option Addr),
 o.cell? (v.add 0)=some (.pointer x)∧
 Cv F.z157 #[.pointer x] o (fun y z=>
 ∃ (a0:Bool),
 y = .bool a0∧
 ifB (!a0) (
 ∃ b0,a=some b0∧
 ∃ (c0:Option Addr),
 z.cell? (b0.add 0)=some (.pointer c0)∧
 ∃ d0,c0=some d0∧
 Es fun e0 f0 g0=>
 z.cell? (d0.add 1)=some (.slice e0 f0 g0)∧
 Iq e0 ((0:Int)) f0 fun h0=>
 ∃ (i0:Option Addr),
 z.cell? (h0.add ((0:Int).toNat * 1))=some (.pointer i0)∧
 ∃ j0,a=some j0∧
 CanSt z (j0.add 0)∧∀ k0,k0=z.setCell (j0.add 0) (.pointer i0)→
 K (.tuple #[.slice g i j,.bool k]) k0) (
 K (.tuple #[.slice g i j,.bool k]) z))) (
 K (.tuple #[.slice g i j,.bool k]) o)) (
 ∃ l0,a=some l0∧
 ∃ (m0:Option Addr),
 f.cell? (l0.add 0)=some (.pointer m0)∧
 ∃ n0,m0=some n0∧
 Es fun o0 p0 q0=>
 f.cell? ((n0.add 0).add 0)=some (.slice o0 p0 q0)∧
 ifB (((p0:Nat):Int) == (0:Int)) (
 ∃ r0,a=some r0∧
 ∃ (s0:Option Addr),
 f.cell? (r0.add 0)=some (.pointer s0)∧
 Cv F.z157 #[.pointer s0] f (fun t0 u0=>
 ∃ (v0:Bool),
 t0 = .bool v0∧
 ifB (!v0) (
 ∃ w0,a=some w0∧
 ∃ (x0:Option Addr),
 u0.cell? (w0.add 0)=some (.pointer x0)∧
 ∃ y0,x0=some y0∧
 Es fun z0 a1 b1=>
 u0.cell? (y0.add 1)=some (.slice z0 a1 b1)∧
 Iq z0 ((0:Int)) a1 fun c1=>
 ∃ (d1:Option Addr),
 u0.cell? (c1.add ((0:Int).toNat * 1))=some (.pointer d1)∧
 ∃ e1,a=some e1∧
 CanSt u0 (e1.add 0)∧∀ f1,f1=u0.setCell (e1.add 0) (.pointer d1)→
 K (.tuple #[.slice g i j,.bool k]) f1) (
 K (.tuple #[.slice g i j,.bool k]) u0))) (
 K (.tuple #[.slice g i j,.bool k]) f))))
def An.z145:Ann:=⟨[],[],[]⟩
theorem R.z145 {a:Option Addr} {b:ByteArray} {w:World} {K:Value→World→Prop} (h:C.z145 a b w K):Cv F.z145 #[.pointer a,.string b] w K:=
 RR (an:=An.z145) Go.Proofs.Tryz.func138 (by kernel_rfl) (by kernel_rfl) h
def C.z149 (a:Option Addr) (b:ByteArray) (w:World) (K:Value→World→Prop):Prop:=
 ifB a.isNone (
 K (.tuple #[.string (bs []),.bool false]) w) (
 ∃ c,a=some c∧
 ∃ (d:Option Addr),
 w.cell? (c.add 0)=some (.pointer d)∧
 Cv F.z164 #[.pointer d,.string b] w (fun e f=>
 ∃ (g:ByteArray) (i:Bool),
 e = .tuple #[.string g,.bool i]∧
 ifB i (
 ∃ j,a=some j∧
 ∃ (k:Int),
 f.cell? (j.add 1)=some (.int .i64 k)∧
 ∃ l,a=some l∧
 CanSt f (l.add 1)∧∀ m,m=f.setCell (l.add 1) (.int .i64 (IntKind.i64.wrap (k - (1:Int))))→
 ∃ n,a=some n∧
 ∃ (o:Option Addr),
 m.cell? (n.add 0)=some (.pointer o)∧
 ∃ p,o=some p∧
 Es fun q r s=>
 m.cell? ((p.add 0).add 0)=some (.slice q r s)∧
 ifB (((r:Nat):Int) == (0:Int)) (
 ∃ t,a=some t∧
 ∃ (u:Option Addr),
 m.cell? (t.add 0)=some (.pointer u)∧
 Cv F.z167 #[.pointer u] m (fun v x=>
 ∃ (y:Bool),
 v = .bool y∧
 ifB (!y) (
 ∃ z,a=some z∧
 ∃ (a0:Option Addr),
 x.cell? (z.add 0)=some (.pointer a0)∧
 ∃ b0,a0=some b0∧
 Es fun c0 d0 e0=>
 x.cell? (b0.add 1)=some (.slice c0 d0 e0)∧
 Iq c0 ((0:Int)) d0 fun f0=>
 ∃ (g0:Option Addr),
 x.cell? (f0.add ((0:Int).toNat * 1))=some (.pointer g0)∧
 ∃ h0,a=some h0∧
 CanSt x (h0.add 0)∧∀ i0,i0=x.setCell (h0.add 0) (.pointer g0)→
 K (.tuple #[.string g,.bool i]) i0) (
 K (.tuple #[.string g,.bool i]) x))) (
 K (.tuple #[.string g,.bool i]) m)) (
 ∃ j0,a=some j0∧
 ∃ (k0:Option Addr),
 f.cell? (j0.add 0)=some (.pointer k0)∧
 ∃ l0,k0=some l0∧
 Es fun m0 n0 o0=>
 f.cell? ((l0.add 0).add 0)=some (.slice m0 n0 o0)∧
 ifB (((n0:Nat):Int) == (0:Int)) (
 ∃ p0,a=some p0∧
 ∃ (q0:Option Addr),
 f.cell? (p0.add 0)=some (.pointer q0)∧
 Cv F.z167 #[.pointer q0] f (fun r0 s0=>
 ∃ (t0:Bool),
 r0 = .bool t0∧
 ifB (!t0) (
 ∃ u0,a=some u0∧
 ∃ (v0:Option Addr),
 s0.cell? (u0.add 0)=some (.pointer v0)∧
 ∃ w0,v0=some w0∧
 Es fun x0 y0 z0=>
 s0.cell? (w0.add 1)=some (.slice x0 y0 z0)∧
 Iq x0 ((0:Int)) y0 fun a1=>
 ∃ (b1:Option Addr),
 s0.cell? (a1.add ((0:Int).toNat * 1))=some (.pointer b1)∧
 ∃ c1,a=some c1∧
 CanSt s0 (c1.add 0)∧∀ d1,d1=s0.setCell (c1.add 0) (.pointer b1)→
 K (.tuple #[.string g,.bool i]) d1) (
 K (.tuple #[.string g,.bool i]) s0))) (
 K (.tuple #[.string g,.bool i]) f))))
def An.z149:Ann:=⟨[],[],[]⟩
theorem R.z149 {a:Option Addr} {b:ByteArray} {w:World} {K:Value→World→Prop} (h:C.z149 a b w K):Cv F.z149 #[.pointer a,.string b] w K:=
 RR (an:=An.z149) Go.Proofs.Tryz.func139 (by kernel_rfl) (by kernel_rfl) h
def C.z56 (a:Option Addr) (b:Int) (w:World) (K:Value→World→Prop):Prop:=
 ∃ (c:Int→World→Prop) (d:Int→World→Nat),
 c 0 w∧
 ∀ (e:Int) f,c e f→
 ifB (decide (e < (8:Int))) (
 0≤(IntKind.i64.wrap ((8:Int) * e))∧
 ifB ((Int.fdiv b (2 ^ (min (IntKind.i64.wrap ((8:Int) * e)).toNat IntKind.u64.bits))) != (0:Int)) (
 c (IntKind.i64.wrap (e+(1:Int))) f∧d (IntKind.i64.wrap (e+(1:Int))) f < d e f) (
 ∀ g i,New f (.cells #[.int .u8 (IntKind.u8.wrap e)] T.uint8) g i→
 Cv F.z55 #[.pointer a,.slice (some (Addr.mk g 0 none)) 1 1] i (fun j k=>
 j = .tuple #[]∧
 ∃ (l:Int→World→Prop) (m:Int→World→Nat),
 l (IntKind.i64.wrap (e - (1:Int))) k∧
 ∀ (n:Int) o,l n o→
 ifB (decide ((0:Int)≤n)) (
 0≤(IntKind.i64.wrap ((8:Int) * n))∧
 ∀ p q,New o (.cells #[.int .u8 (IntKind.u8.wrap (Int.fdiv b (2 ^ (min (IntKind.i64.wrap ((8:Int) * n)).toNat IntKind.u64.bits))))] T.uint8) p q→
 Cv F.z55 #[.pointer a,.slice (some (Addr.mk p 0 none)) 1 1] q (fun r s=>
 r = .tuple #[]∧
 l (IntKind.i64.wrap (n - (1:Int))) s∧m (IntKind.i64.wrap (n - (1:Int))) s < m n o)) (
 K (.tuple #[]) o)))) (
 ∀ t u,New f (.cells #[.int .u8 (IntKind.u8.wrap e)] T.uint8) t u→
 Cv F.z55 #[.pointer a,.slice (some (Addr.mk t 0 none)) 1 1] u (fun v x=>
 v = .tuple #[]∧
 ∃ (y:Int→World→Prop) (z:Int→World→Nat),
 y (IntKind.i64.wrap (e - (1:Int))) x∧
 ∀ (a0:Int) b0,y a0 b0→
 ifB (decide ((0:Int)≤a0)) (
 0≤(IntKind.i64.wrap ((8:Int) * a0))∧
 ∀ c0 d0,New b0 (.cells #[.int .u8 (IntKind.u8.wrap (Int.fdiv b (2 ^ (min (IntKind.i64.wrap ((8:Int) * a0)).toNat IntKind.u64.bits))))] T.uint8) c0 d0→
 Cv F.z55 #[.pointer a,.slice (some (Addr.mk c0 0 none)) 1 1] d0 (fun e0 f0=>
 e0 = .tuple #[]∧
 y (IntKind.i64.wrap (a0 - (1:Int))) f0∧z (IntKind.i64.wrap (a0 - (1:Int))) f0 < z a0 b0)) (
 K (.tuple #[]) b0)))
def An.z56:Ann:=⟨[],[(1,[(4,3)],[0,1]),(5,[(5,3)],[0,1])],[]⟩
theorem R.z56 {a:Option Addr} {b:Int} {w:World} {K:Value→World→Prop} (h:C.z56 a b w K):Cv F.z56 #[.pointer a,.int .u64 b] w K:=
 RR (an:=An.z56) Go.Proofs.Tryz.func140 (by kernel_rfl) (by kernel_rfl) h
def C.z63 (a:Option Addr) (b:Option Addr) (c d:Nat) (w:World) (K:Value→World→Prop):Prop:=
 ∃ (e:Int→World→Prop) (f:Int→World→Nat),
 e 0 w∧
 ∀ (g:Int) i,e g i→
 ifB (decide (g < ((c:Nat):Int))) (
 Iq b (g) c fun j=>
 ∃ (k:Int) (l:Int) (m:ByteArray),
 cellsAt i (j.add (g.toNat * 3)) 0 [.int .i64 k,.int .i64 l,.string m]∧
 ∀ n o,New i (.cells #[.int .i64 0,.int .i64 0,.string (bs [])] T.api_Value) n o→
 Sb n 0 (.int .i64 k) o fun p=>
 Sb n 1 (.int .i64 l) p fun q=>
 Sb n 2 (.string m) q fun r=>
 ifB (!a.isNone) (
 ∃ (s:Int) (t:Int) (u:ByteArray),
 cellsAt r (Addr.mk n 0 none) 0 [.int .i64 s,.int .i64 t,.string u]∧
 Cv F.z64 #[.pointer a,.agg #[.int .i64 s,.int .i64 t,.string u]] r (fun v x=>
 v = .tuple #[]∧
 e (IntKind.i64.wrap (g+(1:Int))) x∧f (IntKind.i64.wrap (g+(1:Int))) x < f g i)) (
 e (IntKind.i64.wrap (g+(1:Int))) r∧f (IntKind.i64.wrap (g+(1:Int))) r < f g i)) (
 K (.pointer a) i)
def An.z63:Ann:=⟨[],[(2,[(9,3)],[0,7,8])],[]⟩
theorem R.z63 {a:Option Addr} {b:Option Addr} {c d:Nat} {w:World} {K:Value→World→Prop} (h:C.z63 a b c d w K):Cv F.z63 #[.pointer a,.slice b c d] w K:=
 RR (an:=An.z63) Go.Proofs.Tryz.func141 (by kernel_rfl) (by kernel_rfl) h
def C.z23 (b:Int) (c:Int) (d:ByteArray) (w:World) (K:Value→World→Prop):Prop:=
 ∀ e f,New w (.cells #[.int .i64 b,.int .i64 c,.string d] T.api_Value) e f→
 ∃ (g:Int),
 f.cell? ((Addr.mk e 0 none).add 0)=some (.int .i64 g)∧
 ifB (g == (1:Int)) (
 ∃ (i:ByteArray),
 f.cell? ((Addr.mk e 0 none).add 2)=some (.string i)∧
 ifB (sEq i (bs [])) (
 K (.bool true) f) (
 ∃ (j:Int),
 f.cell? ((Addr.mk e 0 none).add 0)=some (.int .i64 j)∧
 ifB (j == (2:Int)) (
 ∃ (k:Int),
 f.cell? ((Addr.mk e 0 none).add 1)=some (.int .i64 k)∧
 ifB (k == (0:Int)) (
 ∃ (l:ByteArray),
 f.cell? ((Addr.mk e 0 none).add 2)=some (.string l)∧
 ifB (decide (((l.size:Nat):Int)≤(200:Int))) (
 K (.bool true) f) (
 ∃ (m:Int),
 f.cell? ((Addr.mk e 0 none).add 0)=some (.int .i64 m)∧
 ifB (m == (3:Int)) (
 ∃ (n:Int),
 f.cell? ((Addr.mk e 0 none).add 1)=some (.int .i64 n)∧
 ifB (n == (0:Int)) (
 ∃ (o:ByteArray),
 f.cell? ((Addr.mk e 0 none).add 2)=some (.string o)∧
 K (.bool (sEq o (bs []))) f) (
 ∃ (p:Int),
 f.cell? ((Addr.mk e 0 none).add 1)=some (.int .i64 p)∧
 ifB (p == (1:Int)) (
 ∃ (q:ByteArray),
 f.cell? ((Addr.mk e 0 none).add 2)=some (.string q)∧
 K (.bool (sEq q (bs []))) f) (
 K (.bool false) f))) (
 K (.bool false) f))) (
 ∃ (r:Int),
 f.cell? ((Addr.mk e 0 none).add 0)=some (.int .i64 r)∧
 ifB (r == (3:Int)) (
 ∃ (s:Int),
 f.cell? ((Addr.mk e 0 none).add 1)=some (.int .i64 s)∧
 ifB (s == (0:Int)) (
 ∃ (t:ByteArray),
 f.cell? ((Addr.mk e 0 none).add 2)=some (.string t)∧
 K (.bool (sEq t (bs []))) f) (
 ∃ (u:Int),
 f.cell? ((Addr.mk e 0 none).add 1)=some (.int .i64 u)∧
 ifB (u == (1:Int)) (
 ∃ (v:ByteArray),
 f.cell? ((Addr.mk e 0 none).add 2)=some (.string v)∧
 K (.bool (sEq v (bs []))) f) (
 K (.bool false) f))) (
 K (.bool false) f))) (
 ∃ (x:Int),
 f.cell? ((Addr.mk e 0 none).add 0)=some (.int .i64 x)∧
 ifB (x == (3:Int)) (
 ∃ (y:Int),
 f.cell? ((Addr.mk e 0 none).add 1)=some (.int .i64 y)∧
 ifB (y == (0:Int)) (
 ∃ (z:ByteArray),
 f.cell? ((Addr.mk e 0 none).add 2)=some (.string z)∧
 K (.bool (sEq z (bs []))) f) (
 ∃ (a0:Int),
 f.cell? ((Addr.mk e 0 none).add 1)=some (.int .i64 a0)∧
 ifB (a0 == (1:Int)) (
 ∃ (b0:ByteArray),
 f.cell? ((Addr.mk e 0 none).add 2)=some (.string b0)∧
 K (.bool (sEq b0 (bs []))) f) (
 K (.bool false) f))) (
 K (.bool false) f)))) (
 ∃ (c0:Int),
 f.cell? ((Addr.mk e 0 none).add 0)=some (.int .i64 c0)∧
 ifB (c0 == (2:Int)) (
 ∃ (d0:Int),
 f.cell? ((Addr.mk e 0 none).add 1)=some (.int .i64 d0)∧
 ifB (d0 == (0:Int)) (
 ∃ (e0:ByteArray),
 f.cell? ((Addr.mk e 0 none).add 2)=some (.string e0)∧
 ifB (decide (((e0.size:Nat):Int)≤(200:Int))) (
 K (.bool true) f) (
 ∃ (f0:Int),
 f.cell? ((Addr.mk e 0 none).add 0)=some (.int .i64 f0)∧
 ifB (f0 == (3:Int)) (
 ∃ (g0:Int),
 f.cell? ((Addr.mk e 0 none).add 1)=some (.int .i64 g0)∧
 ifB (g0 == (0:Int)) (
 ∃ (h0:ByteArray),
 f.cell? ((Addr.mk e 0 none).add 2)=some (.string h0)∧
 K (.bool (sEq h0 (bs []))) f) (
 ∃ (i0:Int),
 f.cell? ((Addr.mk e 0 none).add 1)=some (.int .i64 i0)∧
 ifB (i0 == (1:Int)) (
 ∃ (j0:ByteArray),
 f.cell? ((Addr.mk e 0 none).add 2)=some (.string j0)∧
 K (.bool (sEq j0 (bs []))) f) (
 K (.bool false) f))) (
 K (.bool false) f))) (
 ∃ (k0:Int),
 f.cell? ((Addr.mk e 0 none).add 0)=some (.int .i64 k0)∧
 ifB (k0 == (3:Int)) (
 ∃ (l0:Int),
 f.cell? ((Addr.mk e 0 none).add 1)=some (.int .i64 l0)∧
 ifB (l0 == (0:Int)) (
 ∃ (m0:ByteArray),
 f.cell? ((Addr.mk e 0 none).add 2)=some (.string m0)∧
 K (.bool (sEq m0 (bs []))) f) (
 ∃ (n0:Int),
 f.cell? ((Addr.mk e 0 none).add 1)=some (.int .i64 n0)∧
 ifB (n0 == (1:Int)) (
 ∃ (o0:ByteArray),
 f.cell? ((Addr.mk e 0 none).add 2)=some (.string o0)∧
 K (.bool (sEq o0 (bs []))) f) (
 K (.bool false) f))) (
 K (.bool false) f))) (
 ∃ (p0:Int),
 f.cell? ((Addr.mk e 0 none).add 0)=some (.int .i64 p0)∧
 ifB (p0 == (3:Int)) (
 ∃ (q0:Int),
 f.cell? ((Addr.mk e 0 none).add 1)=some (.int .i64 q0)∧
 ifB (q0 == (0:Int)) (
 ∃ (r0:ByteArray),
 f.cell? ((Addr.mk e 0 none).add 2)=some (.string r0)∧
 K (.bool (sEq r0 (bs []))) f) (
 ∃ (s0:Int),
 f.cell? ((Addr.mk e 0 none).add 1)=some (.int .i64 s0)∧
 ifB (s0 == (1:Int)) (
 ∃ (t0:ByteArray),
 f.cell? ((Addr.mk e 0 none).add 2)=some (.string t0)∧
 K (.bool (sEq t0 (bs []))) f) (
 K (.bool false) f))) (
 K (.bool false) f)))
def An.z23:Ann:=⟨[],[],[]⟩
theorem R.z23 {a:Int} {b:Int} {c:ByteArray} {w:World} {K:Value→World→Prop} (h:C.z23 a b c w K):Cv F.z23 #[.agg #[.int .i64 a,.int .i64 b,.string c]] w K:=
 RR (an:=An.z23) Go.Proofs.Tryz.func142 (by kernel_rfl) (by kernel_rfl) h
def C.z39 (b:Int) (w:World) (K:Value→World→Prop):Prop:=
 ifB (decide (b < (0:Int))) (
 Cv F.z35 #[.int .u64 (IntKind.u64.wrap ((IntKind.u64.wrap ((2:Int) * (IntKind.u64.wrap (IntKind.i64.wrap (0 - (IntKind.i64.wrap (b+(1:Int))))))))+(1:Int)))] w (fun c d=>
 ∃ (e:ByteArray),
 c = .string e∧
 K (.string e) d)) (
 Cv F.z35 #[.int .u64 (IntKind.u64.wrap ((2:Int) * (IntKind.u64.wrap b)))] w (fun f g=>
 ∃ (i:ByteArray),
 f = .string i∧
 K (.string i) g))
def An.z39:Ann:=⟨[],[],[]⟩
theorem R.z39 {a:Int} {w:World} {K:Value→World→Prop} (h:C.z39 a w K):Cv F.z39 #[.int .i64 a] w K:=
 RR (an:=An.z39) Go.Proofs.Tryz.func143 (by kernel_rfl) (by kernel_rfl) h
def C.z41 (b:ByteArray) (w:World) (K:Value→World→Prop):Prop:=
 Cv F.z40 #[.int .i64 ((b.size:Nat):Int)] w (fun c d=>
 ∃ (e:ByteArray),
 c = .string e∧
 e.size+b.size≤9223372036854775807∧
 K (.string (e++b)) d)
def An.z41:Ann:=⟨[],[],[]⟩
theorem R.z41 {a:ByteArray} {w:World} {K:Value→World→Prop} (h:C.z41 a w K):Cv F.z41 #[.string a] w K:=
 RR (an:=An.z41) Go.Proofs.Tryz.func144 (by kernel_rfl) (by kernel_rfl) h
def C.z160 (a:Option Addr) (b:ByteArray) (c:Option Addr) (d e:Nat) (w:World) (K:Value→World→Prop):Prop:=
 ∃ f,a=some f∧
 Cv F.z173 #[.pointer (some (f.add 0)),.string b] w (fun g i=>
 ∃ (j:Int) (k:Bool),
 g = .tuple #[.int .i64 j,.bool k]∧
 ifB k (
 ∃ l,a=some l∧
 Es fun m n o=>
 i.drew.cell? ((l.add 0).add 0)=some (.slice m n o)∧
 ∃ p,a=some p∧
 Es fun q r s=>
 i.drew.cell? ((p.add 0).add 0)=some (.slice q r s)∧
 Iq q (j) r fun t=>
 Es fun u v x=>
 i.drew.cell? ((t.add (j.toNat * 2)).add 1)=some (.slice u v x)∧
 Iq m (j) n fun y=>
 CanSt i.drew ((y.add (j.toNat * 2)).add 1)∧∀ z,z=i.drew.setCell ((y.add (j.toNat * 2)).add 1) (.slice c d e)→
 K (.tuple #[.slice u v x,.bool true]) z) (
 Cv F.z157 #[.pointer a] i (fun a0 b0=>
 ∃ (c0:Bool),
 a0 = .bool c0∧
 ifB c0 (
 ∃ d0,a=some d0∧
 Cv F.z175 #[.pointer (some (d0.add 0)),.int .i64 j,.agg #[.string b,.slice c d e]] b0 (fun e0 f0=>
 e0 = .tuple #[]∧
 K (.tuple #[.slice none 0 0,.bool false]) f0)) (
 ∃ g0,a=some g0∧
 Es fun h0 i0 j0=>
 b0.cell? (g0.add 1)=some (.slice h0 i0 j0)∧
 Iq h0 (j) i0 fun k0=>
 ∃ (l0:Option Addr),
 b0.cell? (k0.add (j.toNat * 1))=some (.pointer l0)∧
 Cv F.z160 #[.pointer l0,.string b,.slice c d e] b0 (fun m0 n0=>
 ∃ (o0:Option Addr) (p0 q0:Nat) (r0:Bool),
 m0 = .tuple #[.slice o0 p0 q0,.bool r0]∧
 ∃ s0,a=some s0∧
 Es fun t0 u0 v0=>
 n0.cell? (s0.add 1)=some (.slice t0 u0 v0)∧
 Iq t0 (j) u0 fun w0=>
 ∃ (x0:Option Addr),
 n0.cell? (w0.add (j.toNat * 1))=some (.pointer x0)∧
 ∃ y0,x0=some y0∧
 Es fun z0 a1 b1=>
 n0.cell? ((y0.add 0).add 0)=some (.slice z0 a1 b1)∧
 ifB (decide ((5:Int) < ((a1:Nat):Int))) (
 Cv F.z162 #[.pointer a,.int .i64 j] n0 (fun c1 d1=>
 c1 = .tuple #[]∧
 K (.tuple #[.slice o0 p0 q0,.bool r0]) d1)) (
 K (.tuple #[.slice o0 p0 q0,.bool r0]) n0))))))
def An.z160:Ann:=⟨[(4,.sil 0 [] (.sil 1 [] (.sil 2 [] (.sil 3 [] (.sil 4 [] (.sil 5 [] (.sil 6 [] (.sil 7 [] (.sil 8 [] (.sil 9 [] (.sil 10 [] (.sil 11 [] (.sil 12 [] (.sil 13 [] (.sil 14 [] (.sil 15 [] (.sil 16 [] (.sil 17 [] (.sil 18 [] (.act 19 (.done)))))))))))))))))))))],[],[]⟩
theorem R.z160 {a:Option Addr} {b:ByteArray} {c:Option Addr} {d e:Nat} {w:World} {K:Value→World→Prop} (h:C.z160 a b c d e w K):Cv F.z160 #[.pointer a,.string b,.slice c d e] w K:=
 RR (an:=An.z160) Go.Proofs.Tryz.func145 (by kernel_rfl) (by kernel_rfl) h
def C.z162 (a:Option Addr) (b:Int) (w:World) (K:Value→World→Prop):Prop:=
 ∃ c,a=some c∧
 Es fun d e f=>
 w.cell? (c.add 1)=some (.slice d e f)∧
 Iq d (b) e fun g=>
 ∃ (i:Option Addr),
 w.cell? (g.add (b.toNat * 1))=some (.pointer i)∧
 ∃ j,i=some j∧
 Es fun k l m=>
 w.cell? ((j.add 0).add 0)=some (.slice k l m)∧
 0≤IntKind.i64.wrap ((2:Int)+(1:Int))∧IntKind.i64.wrap ((2:Int)+(1:Int))≤((l:Nat):Int)∧
 Cv F.z92 #[.slice (cutAt k ((IntKind.i64.wrap ((2:Int)+(1:Int))).toNat) m 2) (l - ((IntKind.i64.wrap ((2:Int)+(1:Int))).toNat)) (m - ((IntKind.i64.wrap ((2:Int)+(1:Int))).toNat))] w (fun n o=>
 Es fun p q r=>
 n = .slice p q r∧
 ∀ s t,New o (.cells #[.slice p q r,.slice none 0 0] T.tree_page_s_afflux_api_Value) s t→
 Cv F.z157 #[.pointer i] t (fun u v=>
 ∃ (x:Bool),
 u = .bool x∧
 ifB (!x) (
 ∃ y,i=some y∧
 Es fun z a0 b0=>
 v.cell? (y.add 1)=some (.slice z a0 b0)∧
 0≤IntKind.i64.wrap ((2:Int)+(1:Int))∧IntKind.i64.wrap ((2:Int)+(1:Int))≤((a0:Nat):Int)∧
 Cv F.z94 #[.slice (cutAt z ((IntKind.i64.wrap ((2:Int)+(1:Int))).toNat) b0 1) (a0 - ((IntKind.i64.wrap ((2:Int)+(1:Int))).toNat)) (b0 - ((IntKind.i64.wrap ((2:Int)+(1:Int))).toNat))] v (fun c0 d0=>
 Es fun e0 f0 g0=>
 c0 = .slice e0 f0 g0∧
 ∃ h0,(some (Addr.mk s 0 none))=some h0∧
 CanSt d0 (h0.add 1)∧∀ i0,i0=d0.setCell (h0.add 1) (.slice e0 f0 g0)→
 ∃ j0,i=some j0∧
 Es fun k0 l0 m0=>
 i0.cell? (j0.add 1)=some (.slice k0 l0 m0)∧
 0≤IntKind.i64.wrap ((2:Int)+(1:Int))∧IntKind.i64.wrap ((2:Int)+(1:Int))≤((m0:Nat):Int)∧
 0≤IntKind.i64.wrap ((2:Int)+(1:Int))∧IntKind.i64.wrap ((2:Int)+(1:Int))≤(((IntKind.i64.wrap ((2:Int)+(1:Int))).toNat:Nat):Int)∧
 ∃ n0,i=some n0∧
 CanSt i0 (n0.add 1)∧∀ o0,o0=i0.setCell (n0.add 1) (.slice (cutAt k0 0 ((IntKind.i64.wrap ((2:Int)+(1:Int))).toNat) 1) (((IntKind.i64.wrap ((2:Int)+(1:Int))).toNat) - 0) (((IntKind.i64.wrap ((2:Int)+(1:Int))).toNat) - 0))→
 ∃ p0,a=some p0∧
 ∃ q0,i=some q0∧
 Es fun r0 s0 t0=>
 o0.drew.cell? ((q0.add 0).add 0)=some (.slice r0 s0 t0)∧
 Iq r0 ((2:Int)) s0 fun u0=>
 ∃ (v0:ByteArray) (w0:Option Addr) (x0 y0:Nat),
 cellsAt o0.drew (u0.add ((2:Int).toNat * 2)) 0 [.string v0,.slice w0 x0 y0]∧
 Cv F.z175 #[.pointer (some (p0.add 0)),.int .i64 b,.agg #[.string v0,.slice w0 x0 y0]] o0.drew (fun z0 a1=>
 z0 = .tuple #[]∧
 ∃ b1,a=some b1∧
 Es fun c1 d1 e1=>
 a1.cell? (b1.add 1)=some (.slice c1 d1 e1)∧
 ∀ f1 g1,New a1 (.cells #[.pointer (some (Addr.mk s 0 none))] T.p_tree_page_s_afflux_api_Value) f1 g1→
 Cv F.z107 #[.slice c1 d1 e1,.int .i64 (IntKind.i64.wrap (b+(1:Int))),.slice (some (Addr.mk f1 0 none)) 1 1] g1 (fun h1 i1=>
 Es fun j1 k1 l1=>
 h1 = .slice j1 k1 l1∧
 ∃ m1,a=some m1∧
 CanSt i1 (m1.add 1)∧∀ n1,n1=i1.setCell (m1.add 1) (.slice j1 k1 l1)→
 ∃ o1,i=some o1∧
 Es fun p1 q1 r1=>
 n1.cell? ((o1.add 0).add 0)=some (.slice p1 q1 r1)∧
 0≤(2:Int)∧(2:Int)≤((r1:Nat):Int)∧
 0≤(2:Int)∧(2:Int)≤(((2:Int).toNat:Nat):Int)∧
 ∃ s1,i=some s1∧
 CanSt n1 ((s1.add 0).add 0)∧∀ t1,t1=n1.setCell ((s1.add 0).add 0) (.slice (cutAt p1 0 ((2:Int).toNat) 2) (((2:Int).toNat) - 0) (((2:Int).toNat) - 0))→
 K (.tuple #[]) t1)))) (
 ∃ u1,a=some u1∧
 ∃ v1,i=some v1∧
 Es fun w1 x1 y1=>
 v.drew.cell? ((v1.add 0).add 0)=some (.slice w1 x1 y1)∧
 Iq w1 ((2:Int)) x1 fun z1=>
 ∃ (a2:ByteArray) (b2:Option Addr) (c2 d2:Nat),
 cellsAt v.drew (z1.add ((2:Int).toNat * 2)) 0 [.string a2,.slice b2 c2 d2]∧
 Cv F.z175 #[.pointer (some (u1.add 0)),.int .i64 b,.agg #[.string a2,.slice b2 c2 d2]] v.drew (fun e2 f2=>
 e2 = .tuple #[]∧
 ∃ g2,a=some g2∧
 Es fun h2 i2 j2=>
 f2.cell? (g2.add 1)=some (.slice h2 i2 j2)∧
 ∀ k2 l2,New f2 (.cells #[.pointer (some (Addr.mk s 0 none))] T.p_tree_page_s_afflux_api_Value) k2 l2→
 Cv F.z107 #[.slice h2 i2 j2,.int .i64 (IntKind.i64.wrap (b+(1:Int))),.slice (some (Addr.mk k2 0 none)) 1 1] l2 (fun m2 n2=>
 Es fun o2 p2 q2=>
 m2 = .slice o2 p2 q2∧
 ∃ r2,a=some r2∧
 CanSt n2 (r2.add 1)∧∀ s2,s2=n2.setCell (r2.add 1) (.slice o2 p2 q2)→
 ∃ t2,i=some t2∧
 Es fun u2 v2 w2=>
 s2.cell? ((t2.add 0).add 0)=some (.slice u2 v2 w2)∧
 0≤(2:Int)∧(2:Int)≤((w2:Nat):Int)∧
 0≤(2:Int)∧(2:Int)≤(((2:Int).toNat:Nat):Int)∧
 ∃ x2,i=some x2∧
 CanSt s2 ((x2.add 0).add 0)∧∀ y2,y2=s2.setCell ((x2.add 0).add 0) (.slice (cutAt u2 0 ((2:Int).toNat) 2) (((2:Int).toNat) - 0) (((2:Int).toNat) - 0))→
 K (.tuple #[]) y2)))))
def An.z162:Ann:=⟨[(6,.sil 0 [] (.sil 1 [] (.sil 2 [] (.sil 3 [] (.sil 4 [] (.sil 5 [] (.sil 6 [] (.sil 7 [] (.sil 8 [] (.sil 9 [] (.sil 10 [] (.sil 11 [] (.act 12 (.done))))))))))))))],[],[]⟩
theorem R.z162 {a:Option Addr} {b:Int} {w:World} {K:Value→World→Prop} (h:C.z162 a b w K):Cv F.z162 #[.pointer a,.int .i64 b] w K:=
 RR (an:=An.z162) Go.Proofs.Tryz.func146 (by kernel_rfl) (by kernel_rfl) h
def C.z170 (a:Option Addr) (b:ByteArray) (c:ByteArray) (w:World) (K:Value→World→Prop):Prop:=
 ∃ d,a=some d∧
 Cv F.z177 #[.pointer (some (d.add 0)),.string b] w (fun e f=>
 ∃ (g:Int) (i:Bool),
 e = .tuple #[.int .i64 g,.bool i]∧
 ifB i (
 ∃ j,a=some j∧
 Es fun k l m=>
 f.drew.cell? ((j.add 0).add 0)=some (.slice k l m)∧
 ∃ n,a=some n∧
 Es fun o p q=>
 f.drew.cell? ((n.add 0).add 0)=some (.slice o p q)∧
 Iq o (g) p fun r=>
 ∃ (s:ByteArray),
 f.drew.cell? ((r.add (g.toNat * 2)).add 1)=some (.string s)∧
 Iq k (g) l fun t=>
 CanSt f.drew ((t.add (g.toNat * 2)).add 1)∧∀ u,u=f.drew.setCell ((t.add (g.toNat * 2)).add 1) (.string c)→
 K (.tuple #[.string s,.bool true]) u) (
 Cv F.z167 #[.pointer a] f (fun v x=>
 ∃ (y:Bool),
 v = .bool y∧
 ifB y (
 ∃ z,a=some z∧
 Cv F.z179 #[.pointer (some (z.add 0)),.int .i64 g,.agg #[.string b,.string c]] x (fun a0 b0=>
 a0 = .tuple #[]∧
 K (.tuple #[.string (bs []),.bool false]) b0)) (
 ∃ c0,a=some c0∧
 Es fun d0 e0 f0=>
 x.cell? (c0.add 1)=some (.slice d0 e0 f0)∧
 Iq d0 (g) e0 fun g0=>
 ∃ (h0:Option Addr),
 x.cell? (g0.add (g.toNat * 1))=some (.pointer h0)∧
 Cv F.z170 #[.pointer h0,.string b,.string c] x (fun i0 j0=>
 ∃ (k0:ByteArray) (l0:Bool),
 i0 = .tuple #[.string k0,.bool l0]∧
 ∃ m0,a=some m0∧
 Es fun n0 o0 p0=>
 j0.cell? (m0.add 1)=some (.slice n0 o0 p0)∧
 Iq n0 (g) o0 fun q0=>
 ∃ (r0:Option Addr),
 j0.cell? (q0.add (g.toNat * 1))=some (.pointer r0)∧
 ∃ s0,r0=some s0∧
 Es fun t0 u0 v0=>
 j0.cell? ((s0.add 0).add 0)=some (.slice t0 u0 v0)∧
 ifB (decide ((5:Int) < ((u0:Nat):Int))) (
 Cv F.z172 #[.pointer a,.int .i64 g] j0 (fun w0 x0=>
 w0 = .tuple #[]∧
 K (.tuple #[.string k0,.bool l0]) x0)) (
 K (.tuple #[.string k0,.bool l0]) j0))))))
def An.z170:Ann:=⟨[(4,.sil 0 [] (.sil 1 [] (.sil 2 [] (.sil 3 [] (.sil 4 [] (.sil 5 [] (.sil 6 [] (.sil 7 [] (.sil 8 [] (.sil 9 [] (.sil 10 [] (.sil 11 [] (.sil 12 [] (.sil 13 [] (.sil 14 [] (.sil 15 [] (.sil 16 [] (.sil 17 [] (.sil 18 [] (.act 19 (.done)))))))))))))))))))))],[],[]⟩
theorem R.z170 {a:Option Addr} {b:ByteArray} {c:ByteArray} {w:World} {K:Value→World→Prop} (h:C.z170 a b c w K):Cv F.z170 #[.pointer a,.string b,.string c] w K:=
 RR (an:=An.z170) Go.Proofs.Tryz.func147 (by kernel_rfl) (by kernel_rfl) h
def C.z172 (a:Option Addr) (b:Int) (w:World) (K:Value→World→Prop):Prop:=
 ∃ c,a=some c∧
 Es fun d e f=>
 w.cell? (c.add 1)=some (.slice d e f)∧
 Iq d (b) e fun g=>
 ∃ (i:Option Addr),
 w.cell? (g.add (b.toNat * 1))=some (.pointer i)∧
 ∃ j,i=some j∧
 Es fun k l m=>
 w.cell? ((j.add 0).add 0)=some (.slice k l m)∧
 0≤IntKind.i64.wrap ((2:Int)+(1:Int))∧IntKind.i64.wrap ((2:Int)+(1:Int))≤((l:Nat):Int)∧
 Cv F.z93 #[.slice (cutAt k ((IntKind.i64.wrap ((2:Int)+(1:Int))).toNat) m 2) (l - ((IntKind.i64.wrap ((2:Int)+(1:Int))).toNat)) (m - ((IntKind.i64.wrap ((2:Int)+(1:Int))).toNat))] w (fun n o=>
 Es fun p q r=>
 n = .slice p q r∧
 ∀ s t,New o (.cells #[.slice p q r,.slice none 0 0] T.tree_page_string) s t→
 Cv F.z167 #[.pointer i] t (fun u v=>
 ∃ (x:Bool),
 u = .bool x∧
 ifB (!x) (
 ∃ y,i=some y∧
 Es fun z a0 b0=>
 v.cell? (y.add 1)=some (.slice z a0 b0)∧
 0≤IntKind.i64.wrap ((2:Int)+(1:Int))∧IntKind.i64.wrap ((2:Int)+(1:Int))≤((a0:Nat):Int)∧
 Cv F.z95 #[.slice (cutAt z ((IntKind.i64.wrap ((2:Int)+(1:Int))).toNat) b0 1) (a0 - ((IntKind.i64.wrap ((2:Int)+(1:Int))).toNat)) (b0 - ((IntKind.i64.wrap ((2:Int)+(1:Int))).toNat))] v (fun c0 d0=>
 Es fun e0 f0 g0=>
 c0 = .slice e0 f0 g0∧
 ∃ h0,(some (Addr.mk s 0 none))=some h0∧
 CanSt d0 (h0.add 1)∧∀ i0,i0=d0.setCell (h0.add 1) (.slice e0 f0 g0)→
 ∃ j0,i=some j0∧
 Es fun k0 l0 m0=>
 i0.cell? (j0.add 1)=some (.slice k0 l0 m0)∧
 0≤IntKind.i64.wrap ((2:Int)+(1:Int))∧IntKind.i64.wrap ((2:Int)+(1:Int))≤((m0:Nat):Int)∧
 0≤IntKind.i64.wrap ((2:Int)+(1:Int))∧IntKind.i64.wrap ((2:Int)+(1:Int))≤(((IntKind.i64.wrap ((2:Int)+(1:Int))).toNat:Nat):Int)∧
 ∃ n0,i=some n0∧
 CanSt i0 (n0.add 1)∧∀ o0,o0=i0.setCell (n0.add 1) (.slice (cutAt k0 0 ((IntKind.i64.wrap ((2:Int)+(1:Int))).toNat) 1) (((IntKind.i64.wrap ((2:Int)+(1:Int))).toNat) - 0) (((IntKind.i64.wrap ((2:Int)+(1:Int))).toNat) - 0))→
 ∃ p0,a=some p0∧
 ∃ q0,i=some q0∧
 Es fun r0 s0 t0=>
 o0.drew.cell? ((q0.add 0).add 0)=some (.slice r0 s0 t0)∧
 Iq r0 ((2:Int)) s0 fun u0=>
 ∃ (v0:ByteArray) (w0:ByteArray),
 cellsAt o0.drew (u0.add ((2:Int).toNat * 2)) 0 [.string v0,.string w0]∧
 Cv F.z179 #[.pointer (some (p0.add 0)),.int .i64 b,.agg #[.string v0,.string w0]] o0.drew (fun x0 y0=>
 x0 = .tuple #[]∧
 ∃ z0,a=some z0∧
 Es fun a1 b1 c1=>
 y0.cell? (z0.add 1)=some (.slice a1 b1 c1)∧
 ∀ d1 e1,New y0 (.cells #[.pointer (some (Addr.mk s 0 none))] T.p_tree_page_string) d1 e1→
 Cv F.z108 #[.slice a1 b1 c1,.int .i64 (IntKind.i64.wrap (b+(1:Int))),.slice (some (Addr.mk d1 0 none)) 1 1] e1 (fun f1 g1=>
 Es fun h1 i1 j1=>
 f1 = .slice h1 i1 j1∧
 ∃ k1,a=some k1∧
 CanSt g1 (k1.add 1)∧∀ l1,l1=g1.setCell (k1.add 1) (.slice h1 i1 j1)→
 ∃ m1,i=some m1∧
 Es fun n1 o1 p1=>
 l1.cell? ((m1.add 0).add 0)=some (.slice n1 o1 p1)∧
 0≤(2:Int)∧(2:Int)≤((p1:Nat):Int)∧
 0≤(2:Int)∧(2:Int)≤(((2:Int).toNat:Nat):Int)∧
 ∃ q1,i=some q1∧
 CanSt l1 ((q1.add 0).add 0)∧∀ r1,r1=l1.setCell ((q1.add 0).add 0) (.slice (cutAt n1 0 ((2:Int).toNat) 2) (((2:Int).toNat) - 0) (((2:Int).toNat) - 0))→
 K (.tuple #[]) r1)))) (
 ∃ s1,a=some s1∧
 ∃ t1,i=some t1∧
 Es fun u1 v1 w1=>
 v.drew.cell? ((t1.add 0).add 0)=some (.slice u1 v1 w1)∧
 Iq u1 ((2:Int)) v1 fun x1=>
 ∃ (y1:ByteArray) (z1:ByteArray),
 cellsAt v.drew (x1.add ((2:Int).toNat * 2)) 0 [.string y1,.string z1]∧
 Cv F.z179 #[.pointer (some (s1.add 0)),.int .i64 b,.agg #[.string y1,.string z1]] v.drew (fun a2 b2=>
 a2 = .tuple #[]∧
 ∃ c2,a=some c2∧
 Es fun d2 e2 f2=>
 b2.cell? (c2.add 1)=some (.slice d2 e2 f2)∧
 ∀ g2 h2,New b2 (.cells #[.pointer (some (Addr.mk s 0 none))] T.p_tree_page_string) g2 h2→
 Cv F.z108 #[.slice d2 e2 f2,.int .i64 (IntKind.i64.wrap (b+(1:Int))),.slice (some (Addr.mk g2 0 none)) 1 1] h2 (fun i2 j2=>
 Es fun k2 l2 m2=>
 i2 = .slice k2 l2 m2∧
 ∃ n2,a=some n2∧
 CanSt j2 (n2.add 1)∧∀ o2,o2=j2.setCell (n2.add 1) (.slice k2 l2 m2)→
 ∃ p2,i=some p2∧
 Es fun q2 r2 s2=>
 o2.cell? ((p2.add 0).add 0)=some (.slice q2 r2 s2)∧
 0≤(2:Int)∧(2:Int)≤((s2:Nat):Int)∧
 0≤(2:Int)∧(2:Int)≤(((2:Int).toNat:Nat):Int)∧
 ∃ t2,i=some t2∧
 CanSt o2 ((t2.add 0).add 0)∧∀ u2,u2=o2.setCell ((t2.add 0).add 0) (.slice (cutAt q2 0 ((2:Int).toNat) 2) (((2:Int).toNat) - 0) (((2:Int).toNat) - 0))→
 K (.tuple #[]) u2)))))
def An.z172:Ann:=⟨[(6,.sil 0 [] (.sil 1 [] (.sil 2 [] (.sil 3 [] (.sil 4 [] (.sil 5 [] (.sil 6 [] (.sil 7 [] (.sil 8 [] (.sil 9 [] (.sil 10 [] (.sil 11 [] (.act 12 (.done))))))))))))))],[],[]⟩
theorem R.z172 {a:Option Addr} {b:Int} {w:World} {K:Value→World→Prop} (h:C.z172 a b w K):Cv F.z172 #[.pointer a,.int .i64 b] w K:=
 RR (an:=An.z172) Go.Proofs.Tryz.func148 (by kernel_rfl) (by kernel_rfl) h
def C.z19 (b:Option Addr) (c d:Nat) (w:World) (K:Value→World→Prop):Prop:=
 ∃ (e:Int→World→Prop) (f:Int→World→Nat),
 e 0 w∧
 ∀ (g:Int) i,e g i→
 ifB (decide (g < ((c:Nat):Int))) (
 Iq b (g) c fun j=>
 ∃ (k:Int) (l:Int) (m:ByteArray),
 cellsAt i (j.add (g.toNat * 3)) 0 [.int .i64 k,.int .i64 l,.string m]∧
 Cv F.z23 #[.agg #[.int .i64 k,.int .i64 l,.string m]] i (fun n o=>
 ∃ (p:Bool),
 n = .bool p∧
 ifB (!p) (
 K (.bool false) o) (
 e (IntKind.i64.wrap (g+(1:Int))) o∧f (IntKind.i64.wrap (g+(1:Int))) o < f g i))) (
 K (.bool true) i)
def An.z19:Ann:=⟨[],[(2,[(3,3)],[0])],[]⟩
theorem R.z19 {a:Option Addr} {b c:Nat} {w:World} {K:Value→World→Prop} (h:C.z19 a b c w K):Cv F.z19 #[.slice a b c] w K:=
 RR (an:=An.z19) Go.Proofs.Tryz.func149 (by kernel_rfl) (by kernel_rfl) h
def C.z104 (a:Option Addr) (b c:Nat) (d:Int) (w:World) (K:Value→World→Prop):Prop:=
 ∃ (e:Int→World→Prop) (f:Int→World→Nat),
 e 0 w∧
 ∀ (g:Int) i,e g i→
 ifB (decide (g < ((b:Nat):Int))) (
 Iq a (g) b fun j=>
 ∃ (k:Int),
 i.cell? (j.add (g.toNat * 1))=some (.int .i64 k)∧
 ifB (d == k) (
 K (.int .i64 g) i) (
 e (IntKind.i64.wrap (g+(1:Int))) i∧f (IntKind.i64.wrap (g+(1:Int))) i < f g i)) (
 K (.int .i64 (-1)) i)
def An.z104:Ann:=⟨[],[(2,[(8,3)],[0,1,7])],[]⟩
theorem R.z104 {a:Option Addr} {b c:Nat} {d:Int} {w:World} {K:Value→World→Prop} (h:C.z104 a b c d w K):Cv F.z104 #[.slice a b c,.int .i64 d] w K:=
 RR (an:=An.z104) Go.Proofs.Tryz.func150 (by kernel_rfl) (by kernel_rfl) h
def C.z67 (a:ByteArray) (b:Option Addr) (c d:Nat) (e:Option Addr) (f g:Nat) (i:Int) (j:Int) (k:Int) (l:Option Addr) (m n:Nat) (w:World) (K:Value→World→Prop):Prop:=
 ∀ o p,New w (.cells #[.string a,.slice b c d,.slice e f g,.int .i64 i,.int .i64 j,.int .i64 k] T.api_Schema) o p→
 E6 fun q r s t u v x y z a0=>
 cellsAt p (Addr.mk o 0 none) 0 (L6 q r s t u v x y z a0)∧
 Cv F.z70 #[A6 q r s t u v x y z a0,.int .i64 0,.slice l m n] p (fun b0 c0=>
 ∃ (d0:Int),
 b0 = .int .i64 d0∧
 ifB (d0 != (0:Int)) (
 K (.tuple #[.int .i64 0,.int .i64 d0]) c0) (
 ∃ (e0:Int),
 c0.drew.cell? ((Addr.mk o 0 none).add 5)=some (.int .i64 e0)∧
 Iq l (e0) m fun f0=>
 ∃ (g0:Int) (h0:Int) (i0:ByteArray),
 cellsAt c0.drew (f0.add (e0.toNat * 3)) 0 [.int .i64 g0,.int .i64 h0,.string i0]∧
 ∃ (j0:Int),
 c0.drew.cell? ((Addr.mk o 0 none).add 4)=some (.int .i64 j0)∧
 Cv F.z185 #[.agg #[.int .i64 g0,.int .i64 h0,.string i0],.int .i64 j0] c0.drew (fun k0 l0=>
 ∃ (m0:Int),
 k0 = .int .i64 m0∧
 K (.tuple #[.int .i64 m0,.int .i64 0]) l0)))
def An.z67:Ann:=⟨[(4,.sil 0 [] (.sil 1 [] (.sil 2 [] (.sil 3 [] (.sil 4 [] (.sil 5 [] (.sil 6 [] (.act 7 (.sil 8 [] (.sil 9 [] (.done)))))))))))],[],[]⟩
theorem R.z67 {a:ByteArray} {b:Option Addr} {c d:Nat} {e:Option Addr} {f g:Nat} {i:Int} {j:Int} {k:Int} {l:Option Addr} {m n:Nat} {w:World} {K:Value→World→Prop} (h:C.z67 a b c d e f g i j k l m n w K):Cv F.z67 #[.agg #[.string a,.slice b c d,.slice e f g,.int .i64 i,.int .i64 j,.int .i64 k],.slice l m n] w K:=
 RR (an:=An.z67) Go.Proofs.Tryz.func151 (by kernel_rfl) (by kernel_rfl) h
def C.z18 (b:Option Addr) (c d:Nat) (w:World) (K:Value→World→Prop):Prop:=
 ∃ (e:Option Addr→Nat→Nat→World→Prop) (f:Option Addr→Nat→Nat→World→Nat),
 e b c d w∧
 ∀ (g:Option Addr) (i j:Nat) k,e g i j k→
 ifB (decide ((0:Int) < ((i:Nat):Int))) (
 Iq g (IntKind.i64.wrap (((i:Nat):Int) - (1:Int))) i fun l=>
 ∃ (m:Int),
 k.cell? (l.add ((IntKind.i64.wrap (((i:Nat):Int) - (1:Int))).toNat * 1))=some (.int .i64 m)∧
 ifB (m == (0:Int)) (
 0≤IntKind.i64.wrap (((i:Nat):Int) - (1:Int))∧IntKind.i64.wrap (((i:Nat):Int) - (1:Int))≤((j:Nat):Int)∧
 e (cutAt g 0 j 1) (((IntKind.i64.wrap (((i:Nat):Int) - (1:Int))).toNat) - 0) (j - 0) k∧f (cutAt g 0 j 1) (((IntKind.i64.wrap (((i:Nat):Int) - (1:Int))).toNat) - 0) (j - 0) k < f g i j k) (
 K (.slice g i j) k)) (
 K (.slice g i j) k)
def An.z18:Ann:=⟨[],[(1,[(0,27)],[])],[]⟩
theorem R.z18 {a:Option Addr} {b c:Nat} {w:World} {K:Value→World→Prop} (h:C.z18 a b c w K):Cv F.z18 #[.slice a b c] w K:=
 RR (an:=An.z18) Go.Proofs.Tryz.func152 (by kernel_rfl) (by kernel_rfl) h
def C.z14 (b:Option Addr) (c d:Nat) (e:Int) (w:World) (K:Value→World→Prop):Prop:=
 ifB (decide (e < ((c:Nat):Int))) (
 Iq b (e) c fun f=>
 ∃ (g:Int),
 w.cell? (f.add (e.toNat * 1))=some (.int .i64 g)∧
 K (.int .i64 g) w) (
 K (.int .i64 0) w)
def An.z14:Ann:=⟨[],[],[]⟩
theorem R.z14 {a:Option Addr} {b c:Nat} {d:Int} {w:World} {K:Value→World→Prop} (h:C.z14 a b c d w K):Cv F.z14 #[.slice a b c,.int .i64 d] w K:=
 RR (an:=An.z14) Go.Proofs.Tryz.func153 (by kernel_rfl) (by kernel_rfl) h
def C.z73 (a:Option Addr) (b c:Nat) (d:Option Addr) (e f:Nat) (w:World) (K:Value→World→Prop):Prop:=
 ifB (((e:Nat):Int) != ((b:Nat):Int)) (
 K (.bool false) w) (
 Cv F.z184 #[.slice d e f] w (fun g i=>
 ∃ (j:Bool),
 g = .bool j∧
 ifB (!j) (
 K (.bool false) i) (
 ∃ (k:Int→World→Prop) (l:Int→World→Nat),
 k 0 i∧
 ∀ (m:Int) n,k m n→
 ifB (decide (m < ((e:Nat):Int))) (
 Iq d (m) e fun o=>
 ∃ (p:Int) (q:Int) (r:ByteArray),
 cellsAt n (o.add (m.toNat * 3)) 0 [.int .i64 p,.int .i64 q,.string r]∧
 ∀ s t,New n (.cells #[.int .i64 0,.int .i64 0,.string (bs [])] T.api_Value) s t→
 Sb s 0 (.int .i64 p) t fun u=>
 Sb s 1 (.int .i64 q) u fun v=>
 Sb s 2 (.string r) v fun x=>
 ∃ (y:Int),
 x.drew.cell? ((Addr.mk s 0 none).add 0)=some (.int .i64 y)∧
 Iq a (m) b fun z=>
 ∃ (a0:Int),
 x.drew.cell? ((z.add (m.toNat * 2)).add 1)=some (.int .i64 a0)∧
 ifB (y != a0) (
 K (.bool false) x.drew) (
 k (IntKind.i64.wrap (m+(1:Int))) x.drew∧l (IntKind.i64.wrap (m+(1:Int))) x.drew < l m n)) (
 K (.bool true) n))))
def An.z73:Ann:=⟨[(6,.sil 0 [] (.sil 1 [] (.sil 2 [] (.sil 3 [] (.sil 4 [] (.sil 5 [] (.sil 6 [] (.sil 7 [] (.done)))))))))],[(4,[(19,3)],[0,17,18])],[]⟩
theorem R.z73 {a:Option Addr} {b c:Nat} {d:Option Addr} {e f:Nat} {w:World} {K:Value→World→Prop} (h:C.z73 a b c d e f w K):Cv F.z73 #[.slice a b c,.slice d e f] w K:=
 RR (an:=An.z73) Go.Proofs.Tryz.func154 (by kernel_rfl) (by kernel_rfl) h
def C.z183 (a:Option Addr) (b c:Nat) (w:World) (K:Value→World→Prop):Prop:=
 Cv F.z184 #[.slice a b c] w (fun d e=>
 ∃ (f:Bool),
 d = .bool f∧
 ifB (!f) (
 K (.string (bs [])) e) (
 ∃ (g:Option Addr→Nat→Nat→Int→World→Prop) (i:Option Addr→Nat→Nat→Int→World→Nat),
 g none 0 0 0 e∧
 ∀ (j:Option Addr) (k l:Nat) (m:Int) n,g j k l m n→
 ifB (decide (m < ((b:Nat):Int))) (
 Iq a (m) b fun o=>
 ∃ (p:Int) (q:Int) (r:ByteArray),
 cellsAt n (o.add (m.toNat * 3)) 0 [.int .i64 p,.int .i64 q,.string r]∧
 ∀ s t,New n (.cells #[.int .i64 0,.int .i64 0,.string (bs [])] T.api_Value) s t→
 Sb s 0 (.int .i64 p) t fun u=>
 Sb s 1 (.int .i64 q) u fun v=>
 Sb s 2 (.string r) v fun x=>
 ∃ (y:Int) (z:Int) (a0:ByteArray),
 cellsAt x (Addr.mk s 0 none) 0 [.int .i64 y,.int .i64 z,.string a0]∧
 Cv F.z186 #[.slice j k l,.agg #[.int .i64 y,.int .i64 z,.string a0]] x (fun b0 c0=>
 Es fun d0 e0 f0=>
 b0 = .slice d0 e0 f0∧
 g d0 e0 f0 (IntKind.i64.wrap (m+(1:Int))) c0∧i d0 e0 f0 (IntKind.i64.wrap (m+(1:Int))) c0 < i j k l m n)) (
 ConvV prog T.s_uint8 T.string (.slice j k l) n (fun g0 h0=>
 ∃ (i0:ByteArray),
 g0 = .string i0∧
 K (.string i0) h0))))
def An.z183:Ann:=⟨[],[(5,[(3,57),(11,3)],[9,10])],[]⟩
theorem R.z183 {a:Option Addr} {b c:Nat} {w:World} {K:Value→World→Prop} (h:C.z183 a b c w K):Cv F.z183 #[.slice a b c] w K:=
 RR (an:=An.z183) Go.Proofs.Tryz.func155 (by kernel_rfl) (by kernel_rfl) h
def C.z68 (a:Option Addr) (b c:Nat) (d:Option Addr) (e f:Nat) (w:World) (K:Value→World→Prop):Prop:=
 ∃ (g:Option Addr→Nat→Nat→Int→World→Prop) (i:Option Addr→Nat→Nat→Int→World→Nat),
 g none 0 0 0 w∧
 ∀ (j:Option Addr) (k l:Nat) (m:Int) n,g j k l m n→
 ifB (decide (m < ((e:Nat):Int))) (
 Iq d (m) e fun o=>
 ∃ (p:Int),
 n.cell? (o.add (m.toNat * 1))=some (.int .i64 p)∧
 Cv F.z85 #[.int .i64 p,.int .i64 0,.int .i64 (IntKind.i64.wrap (((b:Nat):Int) - (1:Int)))] n (fun q r=>
 ∃ (s:Bool),
 q = .bool s∧
 ifB (!s) (
 K (.slice none 0 0) r) (
 Iq a (p) b fun t=>
 ∃ (u:Int) (v:Int) (x:ByteArray),
 cellsAt r (t.add (p.toNat * 3)) 0 [.int .i64 u,.int .i64 v,.string x]∧
 ∀ y z,New r (.cells #[.int .i64 u,.int .i64 v,.string x] T.api_Value) y z→
 BuiltV prog .append #[T.s_api_Value,T.s_api_Value] T.s_api_Value #[.slice j k l,.slice (some (Addr.mk y 0 none)) 1 1] z (fun a0 b0=>
 Es fun c0 d0 e0=>
 a0 = .slice c0 d0 e0∧
 g c0 d0 e0 (IntKind.i64.wrap (m+(1:Int))) b0∧i c0 d0 e0 (IntKind.i64.wrap (m+(1:Int))) b0 < i j k l m n)))) (
 K (.slice j k l) n)
def An.z68:Ann:=⟨[],[(3,[(5,37),(10,3)],[0,8,9])],[]⟩
theorem R.z68 {a:Option Addr} {b c:Nat} {d:Option Addr} {e f:Nat} {w:World} {K:Value→World→Prop} (h:C.z68 a b c d e f w K):Cv F.z68 #[.slice a b c,.slice d e f] w K:=
 RR (an:=An.z68) Go.Proofs.Tryz.func156 (by kernel_rfl) (by kernel_rfl) h
def C.z84 (a:Option Addr) (b c:Nat) (same1f:Nat) (d:Array Value) (w:World) (K:Value→World→Prop):Prop:=
 ∃ (e:Int→World→Prop) (f:Int→World→Nat),
 e 0 w∧
 ∀ (g:Int) i,e g i→
 ifB (decide (g < ((b:Nat):Int))) (
 Iq a (g) b fun j=>
 ∃ (k:Int),
 i.cell? (j.add (g.toNat * 1))=some (.int .i64 k)∧
 0≤g∧g≤((c:Nat):Int)∧
 ∃ (l:Int→World→Prop) (m:Int→World→Nat),
 l 0 i∧
 ∀ (n:Int) o,l n o→
 ifB (decide (n < ((g.toNat - 0:Nat):Int))) (
 ∃ p,cutAt a 0 c 1=some p∧0≤n∧n < ((g.toNat - 0:Nat):Int)∧
 ∃ (q:Int),
 o.cell? (p.add (n.toNat * 1))=some (.int .i64 q)∧
 CallsV prog same1f (#[]++#[.int .i64 k,.int .i64 q]++d) o (fun r s=>
 ∃ (t:Bool),
 r = .bool t∧
 ifB t (
 K (.bool false) s) (
 l (IntKind.i64.wrap (n+(1:Int))) s∧m (IntKind.i64.wrap (n+(1:Int))) s < m n o))) (
 e (IntKind.i64.wrap (g+(1:Int))) o∧f (IntKind.i64.wrap (g+(1:Int))) o < f g i)) (
 K (.bool true) i)
def An.z84:Ann:=⟨[],[(2,[(11,3)],[0,1,9,10]),(5,[(20,3)],[0,1,6,9,10,11,18,19])],[]⟩
theorem R.z84 {a:Option Addr} {b c:Nat} {same1f:Nat} {d:Array Value} {w:World} {K:Value→World→Prop} (h:C.z84 a b c same1f d w K):Cv F.z84 #[.slice a b c,.func (.func same1f) #[] d] w K:=
 RR (an:=An.z84) Go.Proofs.Tryz.func157 (by kernel_rfl) (by kernel_rfl) h
def C.z81 (a:Int) (b:Int) (w:World) (K:Value→World→Prop):Prop:=
 K (.bool (a == b)) w
def An.z81:Ann:=⟨[],[],[]⟩
theorem R.z81 {a:Int} {b:Int} {w:World} {K:Value→World→Prop} (h:C.z81 a b w K):Cv F.z81 #[.int .i64 a,.int .i64 b] w K:=
 RR (an:=An.z81) Go.Proofs.Tryz.func158 (by kernel_rfl) (by kernel_rfl) h
end Go.Proofs.YtjcgociobhhijaaGreatDoor
