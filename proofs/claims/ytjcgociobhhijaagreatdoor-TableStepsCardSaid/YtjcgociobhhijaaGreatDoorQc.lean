/- Texts of the proofs of TPlays, TSame, TScans, TSteps, one behind the other. -/
import Derived.Laws.Externs
import Derived.Test.YtjcgociobhhijaaGreatDoorQa
import Derived.Test.YtjcgociobhhijaaGreatDoorQb
set_option linter.unusedVariables false
set_option linter.unusedSimpArgs false
set_option maxRecDepth 100000
namespace Go.Proofs.YtjcgociobhhijaaGreatDoor
open Go SX
def C.z154 (a:Option Addr) (b:ByteArray) (w:World) (K:Value→World→Prop):Prop:=
 ∃ c,a=some c∧
 Cv F.z173 #[.pointer (some (c.add 0)),.string b] w (fun d e=>
 ∃ (f:Int) (g:Bool),
 d = .tuple #[.int .i64 f,.bool g]∧
 ∃ i:Bool→World→Prop,
 (Cv F.z157 #[.pointer a] e (fun j k=>
 ∃ (l:Bool),
 j = .bool l∧
 ifB l (
 i (!g) k) (
 i false k)))∧
 (∀ (m:Bool) n,i m n→
 ifB m (
 K (.tuple #[.slice none 0 0,.bool false]) n) (
 Cv F.z157 #[.pointer a] n (fun o p=>
 ∃ (q:Bool),
 o = .bool q∧
 ifB q (
 ∃ r,a=some r∧
 Cv F.z176 #[.pointer (some (r.add 0)),.int .i64 f] p (fun s t=>
 ∃ (u:ByteArray) (v:Option Addr) (x y:Nat),
 s = .agg #[.string u,.slice v x y]∧
 K (.tuple #[.slice v x y,.bool true]) t)) (
 ifB g (
 ∃ z,a=some z∧
 Es fun a0 b0 c0=>
 p.cell? ((z.add 0).add 0)=some (.slice a0 b0 c0)∧
 Iq a0 (f) b0 fun d0=>
 Es fun e0 f0 g0=>
 p.cell? ((d0.add (f.toNat * 2)).add 1)=some (.slice e0 f0 g0)∧
 ∃ h0,a=some h0∧
 Es fun i0 j0 k0=>
 p.drew.cell? ((h0.add 0).add 0)=some (.slice i0 j0 k0)∧
 ∃ l0,a=some l0∧
 Es fun m0 n0 o0=>
 p.drew.cell? (l0.add 1)=some (.slice m0 n0 o0)∧
 Iq m0 (f) n0 fun p0=>
 ∃ (q0:Option Addr),
 p.drew.cell? (p0.add (f.toNat * 1))=some (.pointer q0)∧
 Cv F.z156 #[.pointer q0] p.drew (fun r0 s0=>
 ∃ (t0:ByteArray) (u0:Option Addr) (v0 w0:Nat),
 r0 = .agg #[.string t0,.slice u0 v0 w0]∧
 s0.cell? ((h0.add 0).add 0)=some (.slice i0 j0 k0)∧
 Iq i0 (f) j0 fun x0=>
 CanSt s0 ((x0.add (f.toNat * 2)).add 0)∧∀ y0,y0=s0.setCell ((x0.add (f.toNat * 2)).add 0) (.string t0)→
 CanSt y0 ((x0.add (f.toNat * 2)).add 1)∧∀ z0,z0=y0.setCell ((x0.add (f.toNat * 2)).add 1) (.slice u0 v0 w0)→
 Cv F.z159 #[.pointer a,.int .i64 f] z0 (fun a1 b1=>
 a1 = .tuple #[]∧
 K (.tuple #[.slice e0 f0 g0,.bool g]) b1))) (
 ∃ c1,a=some c1∧
 Es fun d1 e1 f1=>
 p.cell? (c1.add 1)=some (.slice d1 e1 f1)∧
 Iq d1 (f) e1 fun g1=>
 ∃ (h1:Option Addr),
 p.cell? (g1.add (f.toNat * 1))=some (.pointer h1)∧
 Cv F.z154 #[.pointer h1,.string b] p (fun i1 j1=>
 ∃ (k1:Option Addr) (l1 m1:Nat) (n1:Bool),
 i1 = .tuple #[.slice k1 l1 m1,.bool n1]∧
 Cv F.z159 #[.pointer a,.int .i64 f] j1 (fun o1 p1=>
 o1 = .tuple #[]∧
 K (.tuple #[.slice k1 l1 m1,.bool n1]) p1))))))))
def An.z154:Ann:=⟨[(10,.sil 0 [] (.sil 1 [] (.sil 2 [] (.sil 3 [] (.sil 4 [13] (.sil 5 [] (.sil 6 [] (.sil 7 [] (.sil 8 [] (.sil 9 [] (.sil 10 [] (.sil 11 [] (.sil 12 [] (.act 13 (.sil 14 [] (.act 15 (.done)))))))))))))))))],[],[(5,[(29,4)],[0,1,6,7,8])]⟩
theorem R.z154 {a:Option Addr} {b:ByteArray} {w:World} {K:Value→World→Prop} (h:C.z154 a b w K):Cv F.z154 #[.pointer a,.string b] w K:=
 RR (an:=An.z154) Go.Proofs.Tryz.func159 (by kernel_rfl) (by kernel_rfl) h
def C.z164 (a:Option Addr) (b:ByteArray) (w:World) (K:Value→World→Prop):Prop:=
 ∃ c,a=some c∧
 Cv F.z177 #[.pointer (some (c.add 0)),.string b] w (fun d e=>
 ∃ (f:Int) (g:Bool),
 d = .tuple #[.int .i64 f,.bool g]∧
 ∃ i:Bool→World→Prop,
 (Cv F.z167 #[.pointer a] e (fun j k=>
 ∃ (l:Bool),
 j = .bool l∧
 ifB l (
 i (!g) k) (
 i false k)))∧
 (∀ (m:Bool) n,i m n→
 ifB m (
 K (.tuple #[.string (bs []),.bool false]) n) (
 Cv F.z167 #[.pointer a] n (fun o p=>
 ∃ (q:Bool),
 o = .bool q∧
 ifB q (
 ∃ r,a=some r∧
 Cv F.z180 #[.pointer (some (r.add 0)),.int .i64 f] p (fun s t=>
 ∃ (u:ByteArray) (v:ByteArray),
 s = .agg #[.string u,.string v]∧
 K (.tuple #[.string v,.bool true]) t)) (
 ifB g (
 ∃ x,a=some x∧
 Es fun y z a0=>
 p.cell? ((x.add 0).add 0)=some (.slice y z a0)∧
 Iq y (f) z fun b0=>
 ∃ (c0:ByteArray),
 p.cell? ((b0.add (f.toNat * 2)).add 1)=some (.string c0)∧
 ∃ d0,a=some d0∧
 Es fun e0 f0 g0=>
 p.drew.cell? ((d0.add 0).add 0)=some (.slice e0 f0 g0)∧
 ∃ h0,a=some h0∧
 Es fun i0 j0 k0=>
 p.drew.cell? (h0.add 1)=some (.slice i0 j0 k0)∧
 Iq i0 (f) j0 fun l0=>
 ∃ (m0:Option Addr),
 p.drew.cell? (l0.add (f.toNat * 1))=some (.pointer m0)∧
 Cv F.z166 #[.pointer m0] p.drew (fun n0 o0=>
 ∃ (p0:ByteArray) (q0:ByteArray),
 n0 = .agg #[.string p0,.string q0]∧
 o0.cell? ((d0.add 0).add 0)=some (.slice e0 f0 g0)∧
 Iq e0 (f) f0 fun r0=>
 CanSt o0 ((r0.add (f.toNat * 2)).add 0)∧∀ s0,s0=o0.setCell ((r0.add (f.toNat * 2)).add 0) (.string p0)→
 CanSt s0 ((r0.add (f.toNat * 2)).add 1)∧∀ t0,t0=s0.setCell ((r0.add (f.toNat * 2)).add 1) (.string q0)→
 Cv F.z169 #[.pointer a,.int .i64 f] t0 (fun u0 v0=>
 u0 = .tuple #[]∧
 K (.tuple #[.string c0,.bool g]) v0))) (
 ∃ w0,a=some w0∧
 Es fun x0 y0 z0=>
 p.cell? (w0.add 1)=some (.slice x0 y0 z0)∧
 Iq x0 (f) y0 fun a1=>
 ∃ (b1:Option Addr),
 p.cell? (a1.add (f.toNat * 1))=some (.pointer b1)∧
 Cv F.z164 #[.pointer b1,.string b] p (fun c1 d1=>
 ∃ (e1:ByteArray) (f1:Bool),
 c1 = .tuple #[.string e1,.bool f1]∧
 Cv F.z169 #[.pointer a,.int .i64 f] d1 (fun g1 h1=>
 g1 = .tuple #[]∧
 K (.tuple #[.string e1,.bool f1]) h1))))))))
def An.z164:Ann:=⟨[(10,.sil 0 [] (.sil 1 [] (.sil 2 [] (.sil 3 [] (.sil 4 [13] (.sil 5 [] (.sil 6 [] (.sil 7 [] (.sil 8 [] (.sil 9 [] (.sil 10 [] (.sil 11 [] (.sil 12 [] (.act 13 (.sil 14 [] (.act 15 (.done)))))))))))))))))],[],[(5,[(29,4)],[0,1,6,7,8])]⟩
theorem R.z164 {a:Option Addr} {b:ByteArray} {w:World} {K:Value→World→Prop} (h:C.z164 a b w K):Cv F.z164 #[.pointer a,.string b] w K:=
 RR (an:=An.z164) Go.Proofs.Tryz.func160 (by kernel_rfl) (by kernel_rfl) h
def C.z55 (a:Option Addr) (b:Option Addr) (c d:Nat) (w:World) (K:Value→World→Prop):Prop:=
 ∃ e,a=some e∧
 Es fun f g i=>
 w.cell? (e.add 0)=some (.slice f g i)∧
 BuiltV prog .append #[T.s_uint8,T.s_uint8] T.s_uint8 #[.slice f g i,.slice b c d] w (fun j k=>
 Es fun l m n=>
 j = .slice l m n∧
 ∃ o,a=some o∧
 CanSt k (o.add 0)∧∀ p,p=k.setCell (o.add 0) (.slice l m n)→
 K (.tuple #[]) p)
def An.z55:Ann:=⟨[],[],[]⟩
theorem R.z55 {a:Option Addr} {b:Option Addr} {c d:Nat} {w:World} {K:Value→World→Prop} (h:C.z55 a b c d w K):Cv F.z55 #[.pointer a,.slice b c d] w K:=
 RR (an:=An.z55) Go.Proofs.Tryz.func161 (by kernel_rfl) (by kernel_rfl) h
def C.z64 (a:Option Addr) (b:Int) (c:Int) (d:ByteArray) (w:World) (K:Value→World→Prop):Prop:=
 ∀ e f,New w (.cells #[.int .i64 b,.int .i64 c,.string d] T.api_Value) e f→
 ∃ g:World→Prop,
 (∃ (i:Int) (j:Int) (k:ByteArray),
 cellsAt f (Addr.mk e 0 none) 0 [.int .i64 i,.int .i64 j,.string k]∧
 ∀ l m,New f (.cells #[.int .i64 i,.int .i64 j,.string k] T.api_Value) l m→
 Cv F.z184 #[.slice (some (Addr.mk l 0 none)) 1 1] m (fun n o=>
 ∃ (p:Bool),
 n = .bool p∧
 ifB (!p) (
 Cv F.z182 #[.int .i64 0] o (fun q r=>
 ∃ (s:Int) (t:Int) (u:ByteArray),
 q = .agg #[.int .i64 s,.int .i64 t,.string u]∧
 Sb e 0 (.int .i64 s) r fun v=>
 Sb e 1 (.int .i64 t) v fun x=>
 Sb e 2 (.string u) x fun y=>
 g y)) (
 g o)))∧
 (∀ z,g z→
 ∃ a0,a=some a0∧
 ∃ (b0:Int),
 z.drew.cell? ((Addr.mk e 0 none).add 0)=some (.int .i64 b0)∧
 ∀ c0 d0,New z.drew (.cells #[.int .u8 (IntKind.u8.wrap b0)] T.uint8) c0 d0→
 Cv F.z55 #[.pointer (some (a0.add 0)),.slice (some (Addr.mk c0 0 none)) 1 1] d0 (fun e0 f0=>
 e0 = .tuple #[]∧
 ∃ (g0:Int),
 f0.cell? ((Addr.mk e 0 none).add 0)=some (.int .i64 g0)∧
 ifB (g0 == (1:Int)) (
 ∃ (h0:Int),
 f0.cell? ((Addr.mk e 0 none).add 1)=some (.int .i64 h0)∧
 ∀ i0 j0,New f0 (.cells #[.int .i64 h0] T.int64) i0 j0→
 Cv F.z59 #[.pointer a,.slice (some (Addr.mk i0 0 none)) 1 1] j0 (fun k0 l0=>
 ∃ (m0:Option Addr),
 k0 = .pointer m0∧
 K (.tuple #[]) l0)) (
 ifB (g0 == (2:Int)) (
 ∃ (n0:ByteArray),
 f0.cell? ((Addr.mk e 0 none).add 2)=some (.string n0)∧
 ∀ o0 p0,New f0 (.cells #[.string n0] T.string) o0 p0→
 Cv F.z62 #[.pointer a,.slice (some (Addr.mk o0 0 none)) 1 1] p0 (fun q0 r0=>
 ∃ (s0:Option Addr),
 q0 = .pointer s0∧
 K (.tuple #[]) r0)) (
 ∃ t0,a=some t0∧
 ∃ (u0:Int),
 f0.drew.cell? ((Addr.mk e 0 none).add 1)=some (.int .i64 u0)∧
 ∀ v0 w0,New f0.drew (.cells #[.int .u8 (IntKind.u8.wrap u0)] T.uint8) v0 w0→
 Cv F.z55 #[.pointer (some (t0.add 0)),.slice (some (Addr.mk v0 0 none)) 1 1] w0 (fun x0 y0=>
 x0 = .tuple #[]∧
 K (.tuple #[]) y0)))))
def An.z64:Ann:=⟨[(3,.sil 0 [] (.sil 1 [] (.sil 2 [] (.sil 3 [] (.sil 4 [] (.sil 5 [] (.act 6 (.act 7 (.done))))))))),(5,.sil 0 [] (.sil 1 [] (.sil 2 [] (.sil 3 [] (.sil 4 [] (.sil 5 [] (.act 6 (.act 7 (.done)))))))))],[],[(3,[],[0,3])]⟩
theorem R.z64 {a:Option Addr} {b:Int} {c:Int} {d:ByteArray} {w:World} {K:Value→World→Prop} (h:C.z64 a b c d w K):Cv F.z64 #[.pointer a,.agg #[.int .i64 b,.int .i64 c,.string d]] w K:=
 RR (an:=An.z64) Go.Proofs.Tryz.func162 (by kernel_rfl) (by kernel_rfl) h
def C.z175 (a:Option Addr) (b:Int) (c:ByteArray) (d:Option Addr) (e f:Nat) (w:World) (K:Value→World→Prop):Prop:=
 ∀ g i,New w (.cells #[.string c,.slice d e f] T.tree_entry_s_afflux_api_Value) g i→
 ∃ j,a=some j∧
 Es fun k l m=>
 i.drew.cell? (j.add 0)=some (.slice k l m)∧
 ∃ (n:ByteArray) (o:Option Addr) (p q:Nat),
 cellsAt i.drew (Addr.mk g 0 none) 0 [.string n,.slice o p q]∧
 ∀ r s,New i.drew (.cells #[.string n,.slice o p q] T.tree_entry_s_afflux_api_Value) r s→
 s.cell? (j.add 0)=some (.slice k l m)∧
 Cv F.z105 #[.slice k l m,.int .i64 b,.slice (some (Addr.mk r 0 none)) 1 1] s (fun t u=>
 Es fun v x y=>
 t = .slice v x y∧
 ∃ z,a=some z∧
 CanSt u (z.add 0)∧∀ a0,a0=u.setCell (z.add 0) (.slice v x y)→
 K (.tuple #[]) a0)
def An.z175:Ann:=⟨[(1,.sil 0 [] (.sil 1 [] (.sil 2 [] (.sil 3 [] (.sil 4 [7] (.sil 5 [] (.sil 6 [] (.act 7 (.act 8 (.sil 9 [] (.sil 10 [] (.act 11 (.done)))))))))))))],[],[]⟩
theorem R.z175 {a:Option Addr} {b:Int} {c:ByteArray} {d:Option Addr} {e f:Nat} {w:World} {K:Value→World→Prop} (h:C.z175 a b c d e f w K):Cv F.z175 #[.pointer a,.int .i64 b,.agg #[.string c,.slice d e f]] w K:=
 RR (an:=An.z175) Go.Proofs.Tryz.func163 (by kernel_rfl) (by kernel_rfl) h
def C.z92 (a:Option Addr) (b c:Nat) (w:World) (K:Value→World→Prop):Prop:=
 ifB a.isNone (
 K (.slice none 0 0) w) (
 ∀ d e,New w (.cells #[] T.tree_entry_s_afflux_api_Value) d e→
 BuiltV prog .append #[T.s_tree_entry_s_afflux_api_Value,T.s_tree_entry_s_afflux_api_Value] T.s_tree_entry_s_afflux_api_Value #[.slice (some (Addr.mk d 0 none)) 0 0,.slice a b c] e (fun f g=>
 Es fun i j k=>
 f = .slice i j k∧
 K (.slice i j k) g))
def An.z92:Ann:=⟨[],[],[]⟩
theorem R.z92 {a:Option Addr} {b c:Nat} {w:World} {K:Value→World→Prop} (h:C.z92 a b c w K):Cv F.z92 #[.slice a b c] w K:=
 RR (an:=An.z92) Go.Proofs.Tryz.func164 (by kernel_rfl) (by kernel_rfl) h
def C.z94 (a:Option Addr) (b c:Nat) (w:World) (K:Value→World→Prop):Prop:=
 ifB a.isNone (
 K (.slice none 0 0) w) (
 ∀ d e,New w (.cells #[] T.p_tree_page_s_afflux_api_Value) d e→
 BuiltV prog .append #[T.s_p_tree_page_s_afflux_api_Value,T.s_p_tree_page_s_afflux_api_Value] T.s_p_tree_page_s_afflux_api_Value #[.slice (some (Addr.mk d 0 none)) 0 0,.slice a b c] e (fun f g=>
 Es fun i j k=>
 f = .slice i j k∧
 K (.slice i j k) g))
def An.z94:Ann:=⟨[],[],[]⟩
theorem R.z94 {a:Option Addr} {b c:Nat} {w:World} {K:Value→World→Prop} (h:C.z94 a b c w K):Cv F.z94 #[.slice a b c] w K:=
 RR (an:=An.z94) Go.Proofs.Tryz.func165 (by kernel_rfl) (by kernel_rfl) h
def C.z107 (a:Option Addr) (b c:Nat) (d:Int) (e:Option Addr) (f g:Nat) (w:World) (K:Value→World→Prop):Prop:=
 0≤d∧d≤((b:Nat):Int)∧
 ifB (((f:Nat):Int) == (0:Int)) (
 K (.slice a b c) w) (
 ifB (d == ((b:Nat):Int)) (
 BuiltV prog .append #[T.s_p_tree_page_s_afflux_api_Value,T.s_p_tree_page_s_afflux_api_Value] T.s_p_tree_page_s_afflux_api_Value #[.slice a b c,.slice e f g] w (fun i j=>
 Es fun k l m=>
 i = .slice k l m∧
 K (.slice k l m) j)) (
 ifB (decide (((c:Nat):Int) < (IntKind.i64.wrap (((b:Nat):Int)+((f:Nat):Int))))) (
 0≤d∧d≤((c:Nat):Int)∧
 BuiltV prog .append #[T.s_p_tree_page_s_afflux_api_Value,T.int] T.s_p_tree_page_s_afflux_api_Value #[.slice (cutAt a 0 c 1) (d.toNat - 0) (c - 0),.int .i64 (IntKind.i64.wrap ((IntKind.i64.wrap (((b:Nat):Int)+((f:Nat):Int))) - d))] w (fun n o=>
 Es fun p q r=>
 n = .slice p q r∧
 0≤d∧d≤((q:Nat):Int)∧
 BuiltV prog .copy #[T.s_p_tree_page_s_afflux_api_Value,T.s_p_tree_page_s_afflux_api_Value] T.int #[.slice (cutAt p d.toNat r 1) (q - d.toNat) (r - d.toNat),.slice e f g] o (fun s t=>
 ∃ (u:Int),
 s = .int .i64 u∧
 0≤IntKind.i64.wrap (d+((f:Nat):Int))∧IntKind.i64.wrap (d+((f:Nat):Int))≤((q:Nat):Int)∧
 0≤d∧d≤((b:Nat):Int)∧
 BuiltV prog .copy #[T.s_p_tree_page_s_afflux_api_Value,T.s_p_tree_page_s_afflux_api_Value] T.int #[.slice (cutAt p ((IntKind.i64.wrap (d+((f:Nat):Int))).toNat) r 1) (q - ((IntKind.i64.wrap (d+((f:Nat):Int))).toNat)) (r - ((IntKind.i64.wrap (d+((f:Nat):Int))).toNat)),.slice (cutAt a d.toNat c 1) (b - d.toNat) (c - d.toNat)] t.drew (fun v x=>
 ∃ (y:Int),
 v = .int .i64 y∧
 K (.slice p q r) x)))) (
 0≤IntKind.i64.wrap (((b:Nat):Int)+((f:Nat):Int))∧IntKind.i64.wrap (((b:Nat):Int)+((f:Nat):Int))≤((c:Nat):Int)∧
 0≤IntKind.i64.wrap (d+((f:Nat):Int))∧IntKind.i64.wrap (d+((f:Nat):Int))≤((((IntKind.i64.wrap (((b:Nat):Int)+((f:Nat):Int))).toNat) - 0:Nat):Int)∧
 Cv F.z111 #[.slice e f g,.slice (cutAt (cutAt a 0 c 1) ((IntKind.i64.wrap (d+((f:Nat):Int))).toNat) (c - 0) 1) ((((IntKind.i64.wrap (((b:Nat):Int)+((f:Nat):Int))).toNat) - 0) - ((IntKind.i64.wrap (d+((f:Nat):Int))).toNat)) ((c - 0) - ((IntKind.i64.wrap (d+((f:Nat):Int))).toNat))] w (fun z a0=>
 ∃ (b0:Bool),
 z = .bool b0∧
 ifB (!b0) (
 0≤IntKind.i64.wrap (d+((f:Nat):Int))∧IntKind.i64.wrap (d+((f:Nat):Int))≤((((IntKind.i64.wrap (((b:Nat):Int)+((f:Nat):Int))).toNat) - 0:Nat):Int)∧
 0≤d∧d≤((((IntKind.i64.wrap (((b:Nat):Int)+((f:Nat):Int))).toNat) - 0:Nat):Int)∧
 BuiltV prog .copy #[T.s_p_tree_page_s_afflux_api_Value,T.s_p_tree_page_s_afflux_api_Value] T.int #[.slice (cutAt (cutAt a 0 c 1) ((IntKind.i64.wrap (d+((f:Nat):Int))).toNat) (c - 0) 1) ((((IntKind.i64.wrap (((b:Nat):Int)+((f:Nat):Int))).toNat) - 0) - ((IntKind.i64.wrap (d+((f:Nat):Int))).toNat)) ((c - 0) - ((IntKind.i64.wrap (d+((f:Nat):Int))).toNat)),.slice (cutAt (cutAt a 0 c 1) d.toNat (c - 0) 1) ((((IntKind.i64.wrap (((b:Nat):Int)+((f:Nat):Int))).toNat) - 0) - d.toNat) ((c - 0) - d.toNat)] a0.drew (fun c0 d0=>
 ∃ (e0:Int),
 c0 = .int .i64 e0∧
 0≤d∧d≤((((IntKind.i64.wrap (((b:Nat):Int)+((f:Nat):Int))).toNat) - 0:Nat):Int)∧
 BuiltV prog .copy #[T.s_p_tree_page_s_afflux_api_Value,T.s_p_tree_page_s_afflux_api_Value] T.int #[.slice (cutAt (cutAt a 0 c 1) d.toNat (c - 0) 1) ((((IntKind.i64.wrap (((b:Nat):Int)+((f:Nat):Int))).toNat) - 0) - d.toNat) ((c - 0) - d.toNat),.slice e f g] d0 (fun f0 g0=>
 ∃ (h0:Int),
 f0 = .int .i64 h0∧
 K (.slice (cutAt a 0 c 1) (((IntKind.i64.wrap (((b:Nat):Int)+((f:Nat):Int))).toNat) - 0) (c - 0)) g0))) (
 0≤((b:Nat):Int)∧((b:Nat):Int)≤((((IntKind.i64.wrap (((b:Nat):Int)+((f:Nat):Int))).toNat) - 0:Nat):Int)∧
 BuiltV prog .copy #[T.s_p_tree_page_s_afflux_api_Value,T.s_p_tree_page_s_afflux_api_Value] T.int #[.slice (cutAt (cutAt a 0 c 1) (((b:Nat):Int).toNat) (c - 0) 1) ((((IntKind.i64.wrap (((b:Nat):Int)+((f:Nat):Int))).toNat) - 0) - (((b:Nat):Int).toNat)) ((c - 0) - (((b:Nat):Int).toNat)),.slice e f g] a0 (fun i0 j0=>
 ∃ (k0:Int),
 i0 = .int .i64 k0∧
 0≤d∧d≤((((IntKind.i64.wrap (((b:Nat):Int)+((f:Nat):Int))).toNat) - 0:Nat):Int)∧
 Cv F.z115 #[.slice (cutAt (cutAt a 0 c 1) d.toNat (c - 0) 1) ((((IntKind.i64.wrap (((b:Nat):Int)+((f:Nat):Int))).toNat) - 0) - d.toNat) ((c - 0) - d.toNat),.int .i64 ((f:Nat):Int)] j0 (fun l0 m0=>
 l0 = .tuple #[]∧
 K (.slice (cutAt a 0 c 1) (((IntKind.i64.wrap (((b:Nat):Int)+((f:Nat):Int))).toNat) - 0) (c - 0)) m0)))))))
def An.z107:Ann:=⟨[(11,.sil 0 [] (.sil 1 [] (.sil 2 [] (.sil 3 [] (.sil 4 [] (.sil 5 [] (.sil 6 [] (.sil 7 [] (.act 8 (.done)))))))))),(15,.sil 0 [] (.sil 1 [] (.sil 2 [] (.sil 3 [] (.sil 4 [] (.sil 5 [] (.sil 6 [] (.sil 7 [] (.act 8 (.done))))))))))],[],[]⟩
theorem R.z107 {a:Option Addr} {b c:Nat} {d:Int} {e:Option Addr} {f g:Nat} {w:World} {K:Value→World→Prop} (h:C.z107 a b c d e f g w K):Cv F.z107 #[.slice a b c,.int .i64 d,.slice e f g] w K:=
 RR (an:=An.z107) Go.Proofs.Tryz.func166 (by kernel_rfl) (by kernel_rfl) h
def C.z179 (a:Option Addr) (b:Int) (c:ByteArray) (d:ByteArray) (w:World) (K:Value→World→Prop):Prop:=
 ∀ e f,New w (.cells #[.string c,.string d] T.tree_entry_string) e f→
 ∃ g,a=some g∧
 Es fun i j k=>
 f.drew.cell? (g.add 0)=some (.slice i j k)∧
 ∃ (l:ByteArray) (m:ByteArray),
 cellsAt f.drew (Addr.mk e 0 none) 0 [.string l,.string m]∧
 ∀ n o,New f.drew (.cells #[.string l,.string m] T.tree_entry_string) n o→
 o.cell? (g.add 0)=some (.slice i j k)∧
 Cv F.z106 #[.slice i j k,.int .i64 b,.slice (some (Addr.mk n 0 none)) 1 1] o (fun p q=>
 Es fun r s t=>
 p = .slice r s t∧
 ∃ u,a=some u∧
 CanSt q (u.add 0)∧∀ v,v=q.setCell (u.add 0) (.slice r s t)→
 K (.tuple #[]) v)
def An.z179:Ann:=⟨[(1,.sil 0 [] (.sil 1 [] (.sil 2 [] (.sil 3 [] (.sil 4 [7] (.sil 5 [] (.sil 6 [] (.act 7 (.act 8 (.sil 9 [] (.sil 10 [] (.act 11 (.done)))))))))))))],[],[]⟩
theorem R.z179 {a:Option Addr} {b:Int} {c:ByteArray} {d:ByteArray} {w:World} {K:Value→World→Prop} (h:C.z179 a b c d w K):Cv F.z179 #[.pointer a,.int .i64 b,.agg #[.string c,.string d]] w K:=
 RR (an:=An.z179) Go.Proofs.Tryz.func167 (by kernel_rfl) (by kernel_rfl) h
def C.z93 (a:Option Addr) (b c:Nat) (w:World) (K:Value→World→Prop):Prop:=
 ifB a.isNone (
 K (.slice none 0 0) w) (
 ∀ d e,New w (.cells #[] T.tree_entry_string) d e→
 BuiltV prog .append #[T.s_tree_entry_string,T.s_tree_entry_string] T.s_tree_entry_string #[.slice (some (Addr.mk d 0 none)) 0 0,.slice a b c] e (fun f g=>
 Es fun i j k=>
 f = .slice i j k∧
 K (.slice i j k) g))
def An.z93:Ann:=⟨[],[],[]⟩
theorem R.z93 {a:Option Addr} {b c:Nat} {w:World} {K:Value→World→Prop} (h:C.z93 a b c w K):Cv F.z93 #[.slice a b c] w K:=
 RR (an:=An.z93) Go.Proofs.Tryz.func168 (by kernel_rfl) (by kernel_rfl) h
def C.z95 (a:Option Addr) (b c:Nat) (w:World) (K:Value→World→Prop):Prop:=
 ifB a.isNone (
 K (.slice none 0 0) w) (
 ∀ d e,New w (.cells #[] T.p_tree_page_string) d e→
 BuiltV prog .append #[T.s_p_tree_page_string,T.s_p_tree_page_string] T.s_p_tree_page_string #[.slice (some (Addr.mk d 0 none)) 0 0,.slice a b c] e (fun f g=>
 Es fun i j k=>
 f = .slice i j k∧
 K (.slice i j k) g))
def An.z95:Ann:=⟨[],[],[]⟩
theorem R.z95 {a:Option Addr} {b c:Nat} {w:World} {K:Value→World→Prop} (h:C.z95 a b c w K):Cv F.z95 #[.slice a b c] w K:=
 RR (an:=An.z95) Go.Proofs.Tryz.func169 (by kernel_rfl) (by kernel_rfl) h
def C.z108 (a:Option Addr) (b c:Nat) (d:Int) (e:Option Addr) (f g:Nat) (w:World) (K:Value→World→Prop):Prop:=
 0≤d∧d≤((b:Nat):Int)∧
 ifB (((f:Nat):Int) == (0:Int)) (
 K (.slice a b c) w) (
 ifB (d == ((b:Nat):Int)) (
 BuiltV prog .append #[T.s_p_tree_page_string,T.s_p_tree_page_string] T.s_p_tree_page_string #[.slice a b c,.slice e f g] w (fun i j=>
 Es fun k l m=>
 i = .slice k l m∧
 K (.slice k l m) j)) (
 ifB (decide (((c:Nat):Int) < (IntKind.i64.wrap (((b:Nat):Int)+((f:Nat):Int))))) (
 0≤d∧d≤((c:Nat):Int)∧
 BuiltV prog .append #[T.s_p_tree_page_string,T.int] T.s_p_tree_page_string #[.slice (cutAt a 0 c 1) (d.toNat - 0) (c - 0),.int .i64 (IntKind.i64.wrap ((IntKind.i64.wrap (((b:Nat):Int)+((f:Nat):Int))) - d))] w (fun n o=>
 Es fun p q r=>
 n = .slice p q r∧
 0≤d∧d≤((q:Nat):Int)∧
 BuiltV prog .copy #[T.s_p_tree_page_string,T.s_p_tree_page_string] T.int #[.slice (cutAt p d.toNat r 1) (q - d.toNat) (r - d.toNat),.slice e f g] o (fun s t=>
 ∃ (u:Int),
 s = .int .i64 u∧
 0≤IntKind.i64.wrap (d+((f:Nat):Int))∧IntKind.i64.wrap (d+((f:Nat):Int))≤((q:Nat):Int)∧
 0≤d∧d≤((b:Nat):Int)∧
 BuiltV prog .copy #[T.s_p_tree_page_string,T.s_p_tree_page_string] T.int #[.slice (cutAt p ((IntKind.i64.wrap (d+((f:Nat):Int))).toNat) r 1) (q - ((IntKind.i64.wrap (d+((f:Nat):Int))).toNat)) (r - ((IntKind.i64.wrap (d+((f:Nat):Int))).toNat)),.slice (cutAt a d.toNat c 1) (b - d.toNat) (c - d.toNat)] t.drew (fun v x=>
 ∃ (y:Int),
 v = .int .i64 y∧
 K (.slice p q r) x)))) (
 0≤IntKind.i64.wrap (((b:Nat):Int)+((f:Nat):Int))∧IntKind.i64.wrap (((b:Nat):Int)+((f:Nat):Int))≤((c:Nat):Int)∧
 0≤IntKind.i64.wrap (d+((f:Nat):Int))∧IntKind.i64.wrap (d+((f:Nat):Int))≤((((IntKind.i64.wrap (((b:Nat):Int)+((f:Nat):Int))).toNat) - 0:Nat):Int)∧
 Cv F.z112 #[.slice e f g,.slice (cutAt (cutAt a 0 c 1) ((IntKind.i64.wrap (d+((f:Nat):Int))).toNat) (c - 0) 1) ((((IntKind.i64.wrap (((b:Nat):Int)+((f:Nat):Int))).toNat) - 0) - ((IntKind.i64.wrap (d+((f:Nat):Int))).toNat)) ((c - 0) - ((IntKind.i64.wrap (d+((f:Nat):Int))).toNat))] w (fun z a0=>
 ∃ (b0:Bool),
 z = .bool b0∧
 ifB (!b0) (
 0≤IntKind.i64.wrap (d+((f:Nat):Int))∧IntKind.i64.wrap (d+((f:Nat):Int))≤((((IntKind.i64.wrap (((b:Nat):Int)+((f:Nat):Int))).toNat) - 0:Nat):Int)∧
 0≤d∧d≤((((IntKind.i64.wrap (((b:Nat):Int)+((f:Nat):Int))).toNat) - 0:Nat):Int)∧
 BuiltV prog .copy #[T.s_p_tree_page_string,T.s_p_tree_page_string] T.int #[.slice (cutAt (cutAt a 0 c 1) ((IntKind.i64.wrap (d+((f:Nat):Int))).toNat) (c - 0) 1) ((((IntKind.i64.wrap (((b:Nat):Int)+((f:Nat):Int))).toNat) - 0) - ((IntKind.i64.wrap (d+((f:Nat):Int))).toNat)) ((c - 0) - ((IntKind.i64.wrap (d+((f:Nat):Int))).toNat)),.slice (cutAt (cutAt a 0 c 1) d.toNat (c - 0) 1) ((((IntKind.i64.wrap (((b:Nat):Int)+((f:Nat):Int))).toNat) - 0) - d.toNat) ((c - 0) - d.toNat)] a0.drew (fun c0 d0=>
 ∃ (e0:Int),
 c0 = .int .i64 e0∧
 0≤d∧d≤((((IntKind.i64.wrap (((b:Nat):Int)+((f:Nat):Int))).toNat) - 0:Nat):Int)∧
 BuiltV prog .copy #[T.s_p_tree_page_string,T.s_p_tree_page_string] T.int #[.slice (cutAt (cutAt a 0 c 1) d.toNat (c - 0) 1) ((((IntKind.i64.wrap (((b:Nat):Int)+((f:Nat):Int))).toNat) - 0) - d.toNat) ((c - 0) - d.toNat),.slice e f g] d0 (fun f0 g0=>
 ∃ (h0:Int),
 f0 = .int .i64 h0∧
 K (.slice (cutAt a 0 c 1) (((IntKind.i64.wrap (((b:Nat):Int)+((f:Nat):Int))).toNat) - 0) (c - 0)) g0))) (
 0≤((b:Nat):Int)∧((b:Nat):Int)≤((((IntKind.i64.wrap (((b:Nat):Int)+((f:Nat):Int))).toNat) - 0:Nat):Int)∧
 BuiltV prog .copy #[T.s_p_tree_page_string,T.s_p_tree_page_string] T.int #[.slice (cutAt (cutAt a 0 c 1) (((b:Nat):Int).toNat) (c - 0) 1) ((((IntKind.i64.wrap (((b:Nat):Int)+((f:Nat):Int))).toNat) - 0) - (((b:Nat):Int).toNat)) ((c - 0) - (((b:Nat):Int).toNat)),.slice e f g] a0 (fun i0 j0=>
 ∃ (k0:Int),
 i0 = .int .i64 k0∧
 0≤d∧d≤((((IntKind.i64.wrap (((b:Nat):Int)+((f:Nat):Int))).toNat) - 0:Nat):Int)∧
 Cv F.z116 #[.slice (cutAt (cutAt a 0 c 1) d.toNat (c - 0) 1) ((((IntKind.i64.wrap (((b:Nat):Int)+((f:Nat):Int))).toNat) - 0) - d.toNat) ((c - 0) - d.toNat),.int .i64 ((f:Nat):Int)] j0 (fun l0 m0=>
 l0 = .tuple #[]∧
 K (.slice (cutAt a 0 c 1) (((IntKind.i64.wrap (((b:Nat):Int)+((f:Nat):Int))).toNat) - 0) (c - 0)) m0)))))))
def An.z108:Ann:=⟨[(11,.sil 0 [] (.sil 1 [] (.sil 2 [] (.sil 3 [] (.sil 4 [] (.sil 5 [] (.sil 6 [] (.sil 7 [] (.act 8 (.done)))))))))),(15,.sil 0 [] (.sil 1 [] (.sil 2 [] (.sil 3 [] (.sil 4 [] (.sil 5 [] (.sil 6 [] (.sil 7 [] (.act 8 (.done))))))))))],[],[]⟩
theorem R.z108 {a:Option Addr} {b c:Nat} {d:Int} {e:Option Addr} {f g:Nat} {w:World} {K:Value→World→Prop} (h:C.z108 a b c d e f g w K):Cv F.z108 #[.slice a b c,.int .i64 d,.slice e f g] w K:=
 RR (an:=An.z108) Go.Proofs.Tryz.func170 (by kernel_rfl) (by kernel_rfl) h
def C.z185 (a:Int) (b:Int) (c:ByteArray) (d:Int) (w:World) (K:Value→World→Prop):Prop:=
 ∀ e f,New w (.cells #[.int .i64 a,.int .i64 b,.string c] T.api_Value) e f→
 ifB (decide (d < (1:Int))) (
 K (.int .i64 0) f) (
 ∃ (g:Int),
 f.cell? ((Addr.mk e 0 none).add 1)=some (.int .i64 g)∧
 ∃ (i:Int),
 f.cell? ((Addr.mk e 0 none).add 0)=some (.int .i64 i)∧
 ifB (i == (2:Int)) (
 ∃ (j:ByteArray),
 f.cell? ((Addr.mk e 0 none).add 2)=some (.string j)∧
 ConvV prog T.string T.s_uint8 (.string j) f (fun k l=>
 Es fun m n o=>
 k = .slice m n o∧
 ∃ (p:Int→Int→World→Prop) (q:Int→Int→World→Nat),
 p g 0 l∧
 ∀ (r:Int) (s:Int) t,p r s t→
 ifB (decide (s < ((n:Nat):Int))) (
 Iq m (s) n fun u=>
 ∃ (v:Int),
 t.cell? (u.add (s.toNat * 1))=some (.int .u8 v)∧
 p (IntKind.i64.wrap (r+(IntKind.i64.wrap ((IntKind.i64.wrap (s+(1:Int))) * (IntKind.i64.wrap v))))) (IntKind.i64.wrap (s+(1:Int))) t∧q (IntKind.i64.wrap (r+(IntKind.i64.wrap ((IntKind.i64.wrap (s+(1:Int))) * (IntKind.i64.wrap v))))) (IntKind.i64.wrap (s+(1:Int))) t < q r s t) (
 Cv F.z51 #[.int .i64 r,.int .i64 d] t (fun x y=>
 ∃ (z:Int) (a0:Int),
 x = .tuple #[.int .i64 z,.int .i64 a0]∧
 K (.int .i64 z) y)))) (
 Cv F.z51 #[.int .i64 g,.int .i64 d] f (fun b0 c0=>
 ∃ (d0:Int) (e0:Int),
 b0 = .tuple #[.int .i64 d0,.int .i64 e0]∧
 K (.int .i64 d0) c0)))
def An.z185:Ann:=⟨[],[(6,[(5,2),(21,3)],[1,19,20])],[]⟩
theorem R.z185 {a:Int} {b:Int} {c:ByteArray} {d:Int} {w:World} {K:Value→World→Prop} (h:C.z185 a b c d w K):Cv F.z185 #[.agg #[.int .i64 a,.int .i64 b,.string c],.int .i64 d] w K:=
 RR (an:=An.z185) Go.Proofs.Tryz.func171 (by kernel_rfl) (by kernel_rfl) h
def C.z184 (a:Option Addr) (b c:Nat) (w:World) (K:Value→World→Prop):Prop:=
 Cv F.z96 #[.slice a b c,.func (.func F.z187) #[] #[]] w (fun d e=>
 ∃ (f:Bool),
 d = .bool f∧
 K (.bool (!f)) e)
def An.z184:Ann:=⟨[],[],[]⟩
theorem R.z184 {a:Option Addr} {b c:Nat} {w:World} {K:Value→World→Prop} (h:C.z184 a b c w K):Cv F.z184 #[.slice a b c] w K:=
 RR (an:=An.z184) Go.Proofs.Tryz.func172 (by kernel_rfl) (by kernel_rfl) h
def C.z186 (a:Option Addr) (b c:Nat) (d:Int) (e:Int) (f:ByteArray) (w:World) (K:Value→World→Prop):Prop:=
 ∀ g i,New w (.cells #[.int .i64 d,.int .i64 e,.string f] T.api_Value) g i→
 ∃ (j:Int),
 i.cell? ((Addr.mk g 0 none).add 0)=some (.int .i64 j)∧
 ∀ k l,New i (.cells #[.int .u8 (IntKind.u8.wrap j)] T.uint8) k l→
 BuiltV prog .append #[T.s_uint8,T.s_uint8] T.s_uint8 #[.slice a b c,.slice (some (Addr.mk k 0 none)) 1 1] l (fun m n=>
 Es fun o p q=>
 m = .slice o p q∧
 ∃ (r:Int),
 n.cell? ((Addr.mk g 0 none).add 0)=some (.int .i64 r)∧
 ifB (r == (1:Int)) (
 ∃ (s:Int),
 n.cell? ((Addr.mk g 0 none).add 1)=some (.int .i64 s)∧
 ∃ (t:Option Addr→Nat→Nat→Int→World→Prop) (u:Option Addr→Nat→Nat→Int→World→Nat),
 t o p q 56 n∧
 ∀ (v:Option Addr) (x y:Nat) (z:Int) a0,t v x y z a0→
 ifB (decide ((0:Int)≤z)) (
 0≤z∧
 ∀ b0 c0,New a0 (.cells #[.int .u8 (IntKind.u8.wrap (Int.fdiv (bits .xor .u64 (IntKind.u64.wrap s) (9223372036854775808:Int)) (2 ^ (min z.toNat IntKind.u64.bits))))] T.uint8) b0 c0→
 BuiltV prog .append #[T.s_uint8,T.s_uint8] T.s_uint8 #[.slice v x y,.slice (some (Addr.mk b0 0 none)) 1 1] c0 (fun d0 e0=>
 Es fun f0 g0 h0=>
 d0 = .slice f0 g0 h0∧
 t f0 g0 h0 (IntKind.i64.wrap (z - (8:Int))) e0∧u f0 g0 h0 (IntKind.i64.wrap (z - (8:Int))) e0 < u v x y z a0)) (
 K (.slice v x y) a0)) (
 ifB (r == (2:Int)) (
 ∃ (i0:ByteArray),
 n.cell? ((Addr.mk g 0 none).add 2)=some (.string i0)∧
 Cv F.z117 #[.string i0,.string (bs [0]),.string (bs [0,255])] n (fun j0 k0=>
 ∃ (l0:ByteArray),
 j0 = .string l0∧
 BuiltV prog .append #[T.s_uint8,T.string] T.s_uint8 #[.slice o p q,.string l0] k0 (fun m0 n0=>
 Es fun o0 p0 q0=>
 m0 = .slice o0 p0 q0∧
 BuiltV prog .append #[T.s_uint8,T.string] T.s_uint8 #[.slice o0 p0 q0,.string (bs [0,1])] n0 (fun r0 s0=>
 Es fun t0 u0 v0=>
 r0 = .slice t0 u0 v0∧
 K (.slice t0 u0 v0) s0)))) (
 ifB (r == (3:Int)) (
 ∃ (w0:Int),
 n.cell? ((Addr.mk g 0 none).add 1)=some (.int .i64 w0)∧
 ∀ x0 y0,New n (.cells #[.int .u8 (IntKind.u8.wrap w0)] T.uint8) x0 y0→
 BuiltV prog .append #[T.s_uint8,T.s_uint8] T.s_uint8 #[.slice o p q,.slice (some (Addr.mk x0 0 none)) 1 1] y0 (fun z0 a1=>
 Es fun b1 c1 d1=>
 z0 = .slice b1 c1 d1∧
 K (.slice b1 c1 d1) a1)) (
 K (.slice o p q) n))))
def An.z186:Ann:=⟨[],[(6,[(0,57),(6,3)],[5])],[]⟩
theorem R.z186 {a:Option Addr} {b c:Nat} {d:Int} {e:Int} {f:ByteArray} {w:World} {K:Value→World→Prop} (h:C.z186 a b c d e f w K):Cv F.z186 #[.slice a b c,.agg #[.int .i64 d,.int .i64 e,.string f]] w K:=
 RR (an:=An.z186) Go.Proofs.Tryz.func173 (by kernel_rfl) (by kernel_rfl) h
def C.z176 (a:Option Addr) (b:Int) (w:World) (K:Value→World→Prop):Prop:=
 ∀ c d,New w (.cells #[.string (bs []),.slice none 0 0] T.tree_entry_s_afflux_api_Value) c d→
 ∃ e,a=some e∧
 Es fun f g i=>
 d.cell? (e.add 0)=some (.slice f g i)∧
 Iq f (b) g fun j=>
 ∃ (k:ByteArray) (l:Option Addr) (m n:Nat),
 cellsAt d (j.add (b.toNat * 2)) 0 [.string k,.slice l m n]∧
 ∀ o p,New d (.cells #[.string (bs []),.slice none 0 0] T.tree_entry_s_afflux_api_Value) o p→
 Sb o 0 (.string k) p fun q=>
 Sb o 1 (.slice l m n) q fun r=>
 ∃ s,a=some s∧
 Es fun t u v=>
 r.cell? (s.add 0)=some (.slice t u v)∧
 Cv F.z98 #[.slice t u v,.int .i64 b,.int .i64 (IntKind.i64.wrap (b+(1:Int)))] r (fun x y=>
 Es fun z a0 b0=>
 x = .slice z a0 b0∧
 ∃ c0,a=some c0∧
 CanSt y (c0.add 0)∧∀ d0,d0=y.setCell (c0.add 0) (.slice z a0 b0)→
 ∃ (e0:ByteArray) (f0:Option Addr) (g0 h0:Nat),
 cellsAt d0 (Addr.mk o 0 none) 0 [.string e0,.slice f0 g0 h0]∧
 Sb c 0 (.string e0) d0 fun i0=>
 Sb c 1 (.slice f0 g0 h0) i0 fun j0=>
 ∃ (k0:ByteArray) (l0:Option Addr) (m0 n0:Nat),
 cellsAt j0 (Addr.mk c 0 none) 0 [.string k0,.slice l0 m0 n0]∧
 K (.agg #[.string k0,.slice l0 m0 n0]) j0)
def An.z176:Ann:=⟨[],[],[]⟩
theorem R.z176 {a:Option Addr} {b:Int} {w:World} {K:Value→World→Prop} (h:C.z176 a b w K):Cv F.z176 #[.pointer a,.int .i64 b] w K:=
 RR (an:=An.z176) Go.Proofs.Tryz.func174 (by kernel_rfl) (by kernel_rfl) h
def C.z156 (a:Option Addr) (w:World) (K:Value→World→Prop):Prop:=
 ∀ b c,New w (.cells #[.string (bs []),.slice none 0 0] T.tree_entry_s_afflux_api_Value) b c→
 Cv F.z157 #[.pointer a] c (fun d e=>
 ∃ (f:Bool),
 d = .bool f∧
 ifB f (
 ∃ g,a=some g∧
 ∃ i,a=some i∧
 Es fun j k l=>
 e.drew.cell? ((i.add 0).add 0)=some (.slice j k l)∧
 Cv F.z176 #[.pointer (some (g.add 0)),.int .i64 (IntKind.i64.wrap (((k:Nat):Int) - (1:Int)))] e.drew (fun m n=>
 ∃ (o:ByteArray) (p:Option Addr) (q r:Nat),
 m = .agg #[.string o,.slice p q r]∧
 Sb b 0 (.string o) n fun s=>
 Sb b 1 (.slice p q r) s fun t=>
 ∃ (u:ByteArray) (v:Option Addr) (x y:Nat),
 cellsAt t (Addr.mk b 0 none) 0 [.string u,.slice v x y]∧
 K (.agg #[.string u,.slice v x y]) t)) (
 ∃ z,a=some z∧
 Es fun a0 b0 c0=>
 e.cell? (z.add 1)=some (.slice a0 b0 c0)∧
 ∃ d0,a=some d0∧
 Es fun e0 f0 g0=>
 e.cell? (d0.add 1)=some (.slice e0 f0 g0)∧
 Iq e0 (IntKind.i64.wrap (((b0:Nat):Int) - (1:Int))) f0 fun h0=>
 ∃ (i0:Option Addr),
 e.cell? (h0.add ((IntKind.i64.wrap (((b0:Nat):Int) - (1:Int))).toNat * 1))=some (.pointer i0)∧
 Cv F.z156 #[.pointer i0] e (fun j0 k0=>
 ∃ (l0:ByteArray) (m0:Option Addr) (n0 o0:Nat),
 j0 = .agg #[.string l0,.slice m0 n0 o0]∧
 ∀ p0 q0,New k0 (.cells #[.string (bs []),.slice none 0 0] T.tree_entry_s_afflux_api_Value) p0 q0→
 Sb p0 0 (.string l0) q0 fun r0=>
 Sb p0 1 (.slice m0 n0 o0) r0 fun s0=>
 Cv F.z159 #[.pointer a,.int .i64 (IntKind.i64.wrap (((b0:Nat):Int) - (1:Int)))] s0 (fun t0 u0=>
 t0 = .tuple #[]∧
 ∃ (v0:ByteArray) (w0:Option Addr) (x0 y0:Nat),
 cellsAt u0 (Addr.mk p0 0 none) 0 [.string v0,.slice w0 x0 y0]∧
 Sb b 0 (.string v0) u0 fun z0=>
 Sb b 1 (.slice w0 x0 y0) z0 fun a1=>
 ∃ (b1:ByteArray) (c1:Option Addr) (d1 e1:Nat),
 cellsAt a1 (Addr.mk b 0 none) 0 [.string b1,.slice c1 d1 e1]∧
 K (.agg #[.string b1,.slice c1 d1 e1]) a1))))
def An.z156:Ann:=⟨[(2,.sil 0 [] (.sil 1 [] (.sil 2 [] (.sil 3 [] (.sil 4 [] (.sil 5 [] (.sil 6 [] (.sil 7 [] (.sil 8 [] (.sil 9 [] (.act 10 (.act 11 (.done)))))))))))))],[],[]⟩
theorem R.z156 {a:Option Addr} {w:World} {K:Value→World→Prop} (h:C.z156 a w K):Cv F.z156 #[.pointer a] w K:=
 RR (an:=An.z156) Go.Proofs.Tryz.func175 (by kernel_rfl) (by kernel_rfl) h
def C.z159 (a:Option Addr) (b:Int) (w:World) (K:Value→World→Prop):Prop:=
 ∃ c,a=some c∧
 Es fun d e f=>
 w.cell? (c.add 1)=some (.slice d e f)∧
 Iq d (b) e fun g=>
 ∃ (i:Option Addr),
 w.cell? (g.add (b.toNat * 1))=some (.pointer i)∧
 ∃ j,i=some j∧
 Es fun k l m=>
 w.cell? ((j.add 0).add 0)=some (.slice k l m)∧
 ifB (decide ((2:Int)≤((l:Nat):Int))) (
 K (.tuple #[]) w) (
 ∃ n:Bool→World→Prop,
 (ifB (decide ((0:Int) < b)) (
 ∃ o,a=some o∧
 Es fun p q r=>
 w.cell? (o.add 1)=some (.slice p q r)∧
 Iq p (IntKind.i64.wrap (b - (1:Int))) q fun s=>
 ∃ (t:Option Addr),
 w.cell? (s.add ((IntKind.i64.wrap (b - (1:Int))).toNat * 1))=some (.pointer t)∧
 ∃ u,t=some u∧
 Es fun v x y=>
 w.cell? ((u.add 0).add 0)=some (.slice v x y)∧
 n (decide ((2:Int) < ((x:Nat):Int))) w) (
 n false w))∧
 (∀ (z:Bool) a0,n z a0→
 ifB z (
 Cv F.z161 #[.pointer a,.int .i64 (IntKind.i64.wrap (b - (1:Int)))] a0 (fun b0 c0=>
 b0 = .tuple #[]∧
 K (.tuple #[]) c0)) (
 ∃ d0,a=some d0∧
 Es fun e0 f0 g0=>
 a0.cell? (d0.add 1)=some (.slice e0 f0 g0)∧
 ifB (decide (b < (IntKind.i64.wrap (((f0:Nat):Int) - (1:Int))))) (
 ∃ h0,a=some h0∧
 Es fun i0 j0 k0=>
 a0.cell? (h0.add 1)=some (.slice i0 j0 k0)∧
 Iq i0 (IntKind.i64.wrap (b+(1:Int))) j0 fun l0=>
 ∃ (m0:Option Addr),
 a0.cell? (l0.add ((IntKind.i64.wrap (b+(1:Int))).toNat * 1))=some (.pointer m0)∧
 ∃ n0,m0=some n0∧
 Es fun o0 p0 q0=>
 a0.cell? ((n0.add 0).add 0)=some (.slice o0 p0 q0)∧
 ifB (decide ((2:Int) < ((p0:Nat):Int))) (
 Cv F.z158 #[.pointer a,.int .i64 b] a0 (fun r0 s0=>
 r0 = .tuple #[]∧
 K (.tuple #[]) s0)) (
 ifB (decide ((0:Int) < b)) (
 Cv F.z155 #[.pointer a,.int .i64 (IntKind.i64.wrap (b - (1:Int)))] a0 (fun t0 u0=>
 t0 = .tuple #[]∧
 K (.tuple #[]) u0)) (
 Cv F.z155 #[.pointer a,.int .i64 b] a0 (fun v0 w0=>
 v0 = .tuple #[]∧
 K (.tuple #[]) w0)))) (
 ifB (decide ((0:Int) < b)) (
 Cv F.z155 #[.pointer a,.int .i64 (IntKind.i64.wrap (b - (1:Int)))] a0 (fun x0 y0=>
 x0 = .tuple #[]∧
 K (.tuple #[]) y0)) (
 Cv F.z155 #[.pointer a,.int .i64 b] a0 (fun z0 a1=>
 z0 = .tuple #[]∧
 K (.tuple #[]) a1))))))
def An.z159:Ann:=⟨[],[],[(3,[(21,4)],[0,1])]⟩
theorem R.z159 {a:Option Addr} {b:Int} {w:World} {K:Value→World→Prop} (h:C.z159 a b w K):Cv F.z159 #[.pointer a,.int .i64 b] w K:=
 RR (an:=An.z159) Go.Proofs.Tryz.func176 (by kernel_rfl) (by kernel_rfl) h
def C.z180 (a:Option Addr) (b:Int) (w:World) (K:Value→World→Prop):Prop:=
 ∀ c d,New w (.cells #[.string (bs []),.string (bs [])] T.tree_entry_string) c d→
 ∃ e,a=some e∧
 Es fun f g i=>
 d.cell? (e.add 0)=some (.slice f g i)∧
 Iq f (b) g fun j=>
 ∃ (k:ByteArray) (l:ByteArray),
 cellsAt d (j.add (b.toNat * 2)) 0 [.string k,.string l]∧
 ∀ m n,New d (.cells #[.string (bs []),.string (bs [])] T.tree_entry_string) m n→
 Sb m 0 (.string k) n fun o=>
 Sb m 1 (.string l) o fun p=>
 ∃ q,a=some q∧
 Es fun r s t=>
 p.cell? (q.add 0)=some (.slice r s t)∧
 Cv F.z99 #[.slice r s t,.int .i64 b,.int .i64 (IntKind.i64.wrap (b+(1:Int)))] p (fun u v=>
 Es fun x y z=>
 u = .slice x y z∧
 ∃ a0,a=some a0∧
 CanSt v (a0.add 0)∧∀ b0,b0=v.setCell (a0.add 0) (.slice x y z)→
 ∃ (c0:ByteArray) (d0:ByteArray),
 cellsAt b0 (Addr.mk m 0 none) 0 [.string c0,.string d0]∧
 Sb c 0 (.string c0) b0 fun e0=>
 Sb c 1 (.string d0) e0 fun f0=>
 ∃ (g0:ByteArray) (h0:ByteArray),
 cellsAt f0 (Addr.mk c 0 none) 0 [.string g0,.string h0]∧
 K (.agg #[.string g0,.string h0]) f0)
def An.z180:Ann:=⟨[],[],[]⟩
theorem R.z180 {a:Option Addr} {b:Int} {w:World} {K:Value→World→Prop} (h:C.z180 a b w K):Cv F.z180 #[.pointer a,.int .i64 b] w K:=
 RR (an:=An.z180) Go.Proofs.Tryz.func177 (by kernel_rfl) (by kernel_rfl) h
def C.z166 (a:Option Addr) (w:World) (K:Value→World→Prop):Prop:=
 ∀ b c,New w (.cells #[.string (bs []),.string (bs [])] T.tree_entry_string) b c→
 Cv F.z167 #[.pointer a] c (fun d e=>
 ∃ (f:Bool),
 d = .bool f∧
 ifB f (
 ∃ g,a=some g∧
 ∃ i,a=some i∧
 Es fun j k l=>
 e.drew.cell? ((i.add 0).add 0)=some (.slice j k l)∧
 Cv F.z180 #[.pointer (some (g.add 0)),.int .i64 (IntKind.i64.wrap (((k:Nat):Int) - (1:Int)))] e.drew (fun m n=>
 ∃ (o:ByteArray) (p:ByteArray),
 m = .agg #[.string o,.string p]∧
 Sb b 0 (.string o) n fun q=>
 Sb b 1 (.string p) q fun r=>
 ∃ (s:ByteArray) (t:ByteArray),
 cellsAt r (Addr.mk b 0 none) 0 [.string s,.string t]∧
 K (.agg #[.string s,.string t]) r)) (
 ∃ u,a=some u∧
 Es fun v x y=>
 e.cell? (u.add 1)=some (.slice v x y)∧
 ∃ z,a=some z∧
 Es fun a0 b0 c0=>
 e.cell? (z.add 1)=some (.slice a0 b0 c0)∧
 Iq a0 (IntKind.i64.wrap (((x:Nat):Int) - (1:Int))) b0 fun d0=>
 ∃ (e0:Option Addr),
 e.cell? (d0.add ((IntKind.i64.wrap (((x:Nat):Int) - (1:Int))).toNat * 1))=some (.pointer e0)∧
 Cv F.z166 #[.pointer e0] e (fun f0 g0=>
 ∃ (h0:ByteArray) (i0:ByteArray),
 f0 = .agg #[.string h0,.string i0]∧
 ∀ j0 k0,New g0 (.cells #[.string (bs []),.string (bs [])] T.tree_entry_string) j0 k0→
 Sb j0 0 (.string h0) k0 fun l0=>
 Sb j0 1 (.string i0) l0 fun m0=>
 Cv F.z169 #[.pointer a,.int .i64 (IntKind.i64.wrap (((x:Nat):Int) - (1:Int)))] m0 (fun n0 o0=>
 n0 = .tuple #[]∧
 ∃ (p0:ByteArray) (q0:ByteArray),
 cellsAt o0 (Addr.mk j0 0 none) 0 [.string p0,.string q0]∧
 Sb b 0 (.string p0) o0 fun r0=>
 Sb b 1 (.string q0) r0 fun s0=>
 ∃ (t0:ByteArray) (u0:ByteArray),
 cellsAt s0 (Addr.mk b 0 none) 0 [.string t0,.string u0]∧
 K (.agg #[.string t0,.string u0]) s0))))
def An.z166:Ann:=⟨[(2,.sil 0 [] (.sil 1 [] (.sil 2 [] (.sil 3 [] (.sil 4 [] (.sil 5 [] (.sil 6 [] (.sil 7 [] (.sil 8 [] (.sil 9 [] (.act 10 (.act 11 (.done)))))))))))))],[],[]⟩
theorem R.z166 {a:Option Addr} {w:World} {K:Value→World→Prop} (h:C.z166 a w K):Cv F.z166 #[.pointer a] w K:=
 RR (an:=An.z166) Go.Proofs.Tryz.func178 (by kernel_rfl) (by kernel_rfl) h
def C.z169 (a:Option Addr) (b:Int) (w:World) (K:Value→World→Prop):Prop:=
 ∃ c,a=some c∧
 Es fun d e f=>
 w.cell? (c.add 1)=some (.slice d e f)∧
 Iq d (b) e fun g=>
 ∃ (i:Option Addr),
 w.cell? (g.add (b.toNat * 1))=some (.pointer i)∧
 ∃ j,i=some j∧
 Es fun k l m=>
 w.cell? ((j.add 0).add 0)=some (.slice k l m)∧
 ifB (decide ((2:Int)≤((l:Nat):Int))) (
 K (.tuple #[]) w) (
 ∃ n:Bool→World→Prop,
 (ifB (decide ((0:Int) < b)) (
 ∃ o,a=some o∧
 Es fun p q r=>
 w.cell? (o.add 1)=some (.slice p q r)∧
 Iq p (IntKind.i64.wrap (b - (1:Int))) q fun s=>
 ∃ (t:Option Addr),
 w.cell? (s.add ((IntKind.i64.wrap (b - (1:Int))).toNat * 1))=some (.pointer t)∧
 ∃ u,t=some u∧
 Es fun v x y=>
 w.cell? ((u.add 0).add 0)=some (.slice v x y)∧
 n (decide ((2:Int) < ((x:Nat):Int))) w) (
 n false w))∧
 (∀ (z:Bool) a0,n z a0→
 ifB z (
 Cv F.z171 #[.pointer a,.int .i64 (IntKind.i64.wrap (b - (1:Int)))] a0 (fun b0 c0=>
 b0 = .tuple #[]∧
 K (.tuple #[]) c0)) (
 ∃ d0,a=some d0∧
 Es fun e0 f0 g0=>
 a0.cell? (d0.add 1)=some (.slice e0 f0 g0)∧
 ifB (decide (b < (IntKind.i64.wrap (((f0:Nat):Int) - (1:Int))))) (
 ∃ h0,a=some h0∧
 Es fun i0 j0 k0=>
 a0.cell? (h0.add 1)=some (.slice i0 j0 k0)∧
 Iq i0 (IntKind.i64.wrap (b+(1:Int))) j0 fun l0=>
 ∃ (m0:Option Addr),
 a0.cell? (l0.add ((IntKind.i64.wrap (b+(1:Int))).toNat * 1))=some (.pointer m0)∧
 ∃ n0,m0=some n0∧
 Es fun o0 p0 q0=>
 a0.cell? ((n0.add 0).add 0)=some (.slice o0 p0 q0)∧
 ifB (decide ((2:Int) < ((p0:Nat):Int))) (
 Cv F.z168 #[.pointer a,.int .i64 b] a0 (fun r0 s0=>
 r0 = .tuple #[]∧
 K (.tuple #[]) s0)) (
 ifB (decide ((0:Int) < b)) (
 Cv F.z165 #[.pointer a,.int .i64 (IntKind.i64.wrap (b - (1:Int)))] a0 (fun t0 u0=>
 t0 = .tuple #[]∧
 K (.tuple #[]) u0)) (
 Cv F.z165 #[.pointer a,.int .i64 b] a0 (fun v0 w0=>
 v0 = .tuple #[]∧
 K (.tuple #[]) w0)))) (
 ifB (decide ((0:Int) < b)) (
 Cv F.z165 #[.pointer a,.int .i64 (IntKind.i64.wrap (b - (1:Int)))] a0 (fun x0 y0=>
 x0 = .tuple #[]∧
 K (.tuple #[]) y0)) (
 Cv F.z165 #[.pointer a,.int .i64 b] a0 (fun z0 a1=>
 z0 = .tuple #[]∧
 K (.tuple #[]) a1))))))
def An.z169:Ann:=⟨[],[],[(3,[(21,4)],[0,1])]⟩
theorem R.z169 {a:Option Addr} {b:Int} {w:World} {K:Value→World→Prop} (h:C.z169 a b w K):Cv F.z169 #[.pointer a,.int .i64 b] w K:=
 RR (an:=An.z169) Go.Proofs.Tryz.func179 (by kernel_rfl) (by kernel_rfl) h
def C.z182 (a:Int) (w:World) (K:Value→World→Prop):Prop:=
 ∀ b c,New w (.cells #[.int .i64 0,.int .i64 0,.string (bs [])] T.api_Value) b c→
 Sb b 0 (.int .i64 1) c fun d=>
 Sb b 1 (.int .i64 a) d fun e=>
 Sb b 2 (.string (bs [])) e fun f=>
 ∃ (g:Int) (i:Int) (j:ByteArray),
 cellsAt f (Addr.mk b 0 none) 0 [.int .i64 g,.int .i64 i,.string j]∧
 K (.agg #[.int .i64 g,.int .i64 i,.string j]) f
def An.z182:Ann:=⟨[],[],[]⟩
theorem R.z182 {a:Int} {w:World} {K:Value→World→Prop} (h:C.z182 a w K):Cv F.z182 #[.int .i64 a] w K:=
 RR (an:=An.z182) Go.Proofs.Tryz.func180 (by kernel_rfl) (by kernel_rfl) h
def C.z59 (a:Option Addr) (b:Option Addr) (c d:Nat) (w:World) (K:Value→World→Prop):Prop:=
 ∃ (e:Int→World→Prop) (f:Int→World→Nat),
 e 0 w∧
 ∀ (g:Int) i,e g i→
 ifB (decide (g < ((c:Nat):Int))) (
 Iq b (g) c fun j=>
 ∃ (k:Int),
 i.cell? (j.add (g.toNat * 1))=some (.int .i64 k)∧
 ifB (!a.isNone) (
 ∃ l,a=some l∧
 0≤(1:Int)∧
 0≤(63:Int)∧
 Cv F.z56 #[.pointer (some (l.add 0)),.int .u64 (bits .xor .u64 (IntKind.u64.wrap ((IntKind.u64.wrap k) * 2 ^ (min (1:Int).toNat IntKind.u64.bits))) (IntKind.u64.wrap (Int.fdiv k (2 ^ (min (63:Int).toNat IntKind.i64.bits)))))] i (fun m n=>
 m = .tuple #[]∧
 e (IntKind.i64.wrap (g+(1:Int))) n∧f (IntKind.i64.wrap (g+(1:Int))) n < f g i)) (
 e (IntKind.i64.wrap (g+(1:Int))) i∧f (IntKind.i64.wrap (g+(1:Int))) i < f g i)) (
 K (.pointer a) i)
def An.z59:Ann:=⟨[],[(2,[(9,3)],[0,7,8])],[]⟩
theorem R.z59 {a:Option Addr} {b:Option Addr} {c d:Nat} {w:World} {K:Value→World→Prop} (h:C.z59 a b c d w K):Cv F.z59 #[.pointer a,.slice b c d] w K:=
 RR (an:=An.z59) Go.Proofs.Tryz.func181 (by kernel_rfl) (by kernel_rfl) h
def C.z62 (a:Option Addr) (b:Option Addr) (c d:Nat) (w:World) (K:Value→World→Prop):Prop:=
 ∃ (e:Int→World→Prop) (f:Int→World→Nat),
 e 0 w∧
 ∀ (g:Int) i,e g i→
 ifB (decide (g < ((c:Nat):Int))) (
 Iq b (g) c fun j=>
 ∃ (k:ByteArray),
 i.cell? (j.add (g.toNat * 1))=some (.string k)∧
 ifB (!a.isNone) (
 ∃ l,a=some l∧
 Cv F.z56 #[.pointer (some (l.add 0)),.int .u64 (IntKind.u64.wrap ((k.size:Nat):Int))] i (fun m n=>
 m = .tuple #[]∧
 ∃ o,a=some o∧
 ConvV prog T.string T.s_uint8 (.string k) n (fun p q=>
 Es fun r s t=>
 p = .slice r s t∧
 Cv F.z55 #[.pointer (some (o.add 0)),.slice r s t] q (fun u v=>
 u = .tuple #[]∧
 e (IntKind.i64.wrap (g+(1:Int))) v∧f (IntKind.i64.wrap (g+(1:Int))) v < f g i)))) (
 e (IntKind.i64.wrap (g+(1:Int))) i∧f (IntKind.i64.wrap (g+(1:Int))) i < f g i)) (
 K (.pointer a) i)
def An.z62:Ann:=⟨[],[(2,[(9,3)],[0,7,8])],[]⟩
theorem R.z62 {a:Option Addr} {b:Option Addr} {c d:Nat} {w:World} {K:Value→World→Prop} (h:C.z62 a b c d w K):Cv F.z62 #[.pointer a,.slice b c d] w K:=
 RR (an:=An.z62) Go.Proofs.Tryz.func182 (by kernel_rfl) (by kernel_rfl) h
def C.z105 (a:Option Addr) (b c:Nat) (d:Int) (e:Option Addr) (f g:Nat) (w:World) (K:Value→World→Prop):Prop:=
 0≤d∧d≤((b:Nat):Int)∧
 ifB (((f:Nat):Int) == (0:Int)) (
 K (.slice a b c) w) (
 ifB (d == ((b:Nat):Int)) (
 BuiltV prog .append #[T.s_tree_entry_s_afflux_api_Value,T.s_tree_entry_s_afflux_api_Value] T.s_tree_entry_s_afflux_api_Value #[.slice a b c,.slice e f g] w (fun i j=>
 Es fun k l m=>
 i = .slice k l m∧
 K (.slice k l m) j)) (
 ifB (decide (((c:Nat):Int) < (IntKind.i64.wrap (((b:Nat):Int)+((f:Nat):Int))))) (
 0≤d∧d≤((c:Nat):Int)∧
 BuiltV prog .append #[T.s_tree_entry_s_afflux_api_Value,T.int] T.s_tree_entry_s_afflux_api_Value #[.slice (cutAt a 0 c 2) (d.toNat - 0) (c - 0),.int .i64 (IntKind.i64.wrap ((IntKind.i64.wrap (((b:Nat):Int)+((f:Nat):Int))) - d))] w (fun n o=>
 Es fun p q r=>
 n = .slice p q r∧
 0≤d∧d≤((q:Nat):Int)∧
 BuiltV prog .copy #[T.s_tree_entry_s_afflux_api_Value,T.s_tree_entry_s_afflux_api_Value] T.int #[.slice (cutAt p d.toNat r 2) (q - d.toNat) (r - d.toNat),.slice e f g] o (fun s t=>
 ∃ (u:Int),
 s = .int .i64 u∧
 0≤IntKind.i64.wrap (d+((f:Nat):Int))∧IntKind.i64.wrap (d+((f:Nat):Int))≤((q:Nat):Int)∧
 0≤d∧d≤((b:Nat):Int)∧
 BuiltV prog .copy #[T.s_tree_entry_s_afflux_api_Value,T.s_tree_entry_s_afflux_api_Value] T.int #[.slice (cutAt p ((IntKind.i64.wrap (d+((f:Nat):Int))).toNat) r 2) (q - ((IntKind.i64.wrap (d+((f:Nat):Int))).toNat)) (r - ((IntKind.i64.wrap (d+((f:Nat):Int))).toNat)),.slice (cutAt a d.toNat c 2) (b - d.toNat) (c - d.toNat)] t.drew (fun v x=>
 ∃ (y:Int),
 v = .int .i64 y∧
 K (.slice p q r) x)))) (
 0≤IntKind.i64.wrap (((b:Nat):Int)+((f:Nat):Int))∧IntKind.i64.wrap (((b:Nat):Int)+((f:Nat):Int))≤((c:Nat):Int)∧
 0≤IntKind.i64.wrap (d+((f:Nat):Int))∧IntKind.i64.wrap (d+((f:Nat):Int))≤((((IntKind.i64.wrap (((b:Nat):Int)+((f:Nat):Int))).toNat) - 0:Nat):Int)∧
 Cv F.z109 #[.slice e f g,.slice (cutAt (cutAt a 0 c 2) ((IntKind.i64.wrap (d+((f:Nat):Int))).toNat) (c - 0) 2) ((((IntKind.i64.wrap (((b:Nat):Int)+((f:Nat):Int))).toNat) - 0) - ((IntKind.i64.wrap (d+((f:Nat):Int))).toNat)) ((c - 0) - ((IntKind.i64.wrap (d+((f:Nat):Int))).toNat))] w (fun z a0=>
 ∃ (b0:Bool),
 z = .bool b0∧
 ifB (!b0) (
 0≤IntKind.i64.wrap (d+((f:Nat):Int))∧IntKind.i64.wrap (d+((f:Nat):Int))≤((((IntKind.i64.wrap (((b:Nat):Int)+((f:Nat):Int))).toNat) - 0:Nat):Int)∧
 0≤d∧d≤((((IntKind.i64.wrap (((b:Nat):Int)+((f:Nat):Int))).toNat) - 0:Nat):Int)∧
 BuiltV prog .copy #[T.s_tree_entry_s_afflux_api_Value,T.s_tree_entry_s_afflux_api_Value] T.int #[.slice (cutAt (cutAt a 0 c 2) ((IntKind.i64.wrap (d+((f:Nat):Int))).toNat) (c - 0) 2) ((((IntKind.i64.wrap (((b:Nat):Int)+((f:Nat):Int))).toNat) - 0) - ((IntKind.i64.wrap (d+((f:Nat):Int))).toNat)) ((c - 0) - ((IntKind.i64.wrap (d+((f:Nat):Int))).toNat)),.slice (cutAt (cutAt a 0 c 2) d.toNat (c - 0) 2) ((((IntKind.i64.wrap (((b:Nat):Int)+((f:Nat):Int))).toNat) - 0) - d.toNat) ((c - 0) - d.toNat)] a0.drew (fun c0 d0=>
 ∃ (e0:Int),
 c0 = .int .i64 e0∧
 0≤d∧d≤((((IntKind.i64.wrap (((b:Nat):Int)+((f:Nat):Int))).toNat) - 0:Nat):Int)∧
 BuiltV prog .copy #[T.s_tree_entry_s_afflux_api_Value,T.s_tree_entry_s_afflux_api_Value] T.int #[.slice (cutAt (cutAt a 0 c 2) d.toNat (c - 0) 2) ((((IntKind.i64.wrap (((b:Nat):Int)+((f:Nat):Int))).toNat) - 0) - d.toNat) ((c - 0) - d.toNat),.slice e f g] d0 (fun f0 g0=>
 ∃ (h0:Int),
 f0 = .int .i64 h0∧
 K (.slice (cutAt a 0 c 2) (((IntKind.i64.wrap (((b:Nat):Int)+((f:Nat):Int))).toNat) - 0) (c - 0)) g0))) (
 0≤((b:Nat):Int)∧((b:Nat):Int)≤((((IntKind.i64.wrap (((b:Nat):Int)+((f:Nat):Int))).toNat) - 0:Nat):Int)∧
 BuiltV prog .copy #[T.s_tree_entry_s_afflux_api_Value,T.s_tree_entry_s_afflux_api_Value] T.int #[.slice (cutAt (cutAt a 0 c 2) (((b:Nat):Int).toNat) (c - 0) 2) ((((IntKind.i64.wrap (((b:Nat):Int)+((f:Nat):Int))).toNat) - 0) - (((b:Nat):Int).toNat)) ((c - 0) - (((b:Nat):Int).toNat)),.slice e f g] a0 (fun i0 j0=>
 ∃ (k0:Int),
 i0 = .int .i64 k0∧
 0≤d∧d≤((((IntKind.i64.wrap (((b:Nat):Int)+((f:Nat):Int))).toNat) - 0:Nat):Int)∧
 Cv F.z113 #[.slice (cutAt (cutAt a 0 c 2) d.toNat (c - 0) 2) ((((IntKind.i64.wrap (((b:Nat):Int)+((f:Nat):Int))).toNat) - 0) - d.toNat) ((c - 0) - d.toNat),.int .i64 ((f:Nat):Int)] j0 (fun l0 m0=>
 l0 = .tuple #[]∧
 K (.slice (cutAt a 0 c 2) (((IntKind.i64.wrap (((b:Nat):Int)+((f:Nat):Int))).toNat) - 0) (c - 0)) m0)))))))
def An.z105:Ann:=⟨[(11,.sil 0 [] (.sil 1 [] (.sil 2 [] (.sil 3 [] (.sil 4 [] (.sil 5 [] (.sil 6 [] (.sil 7 [] (.act 8 (.done)))))))))),(15,.sil 0 [] (.sil 1 [] (.sil 2 [] (.sil 3 [] (.sil 4 [] (.sil 5 [] (.sil 6 [] (.sil 7 [] (.act 8 (.done))))))))))],[],[]⟩
theorem R.z105 {a:Option Addr} {b c:Nat} {d:Int} {e:Option Addr} {f g:Nat} {w:World} {K:Value→World→Prop} (h:C.z105 a b c d e f g w K):Cv F.z105 #[.slice a b c,.int .i64 d,.slice e f g] w K:=
 RR (an:=An.z105) Go.Proofs.Tryz.func183 (by kernel_rfl) (by kernel_rfl) h
def C.z106 (a:Option Addr) (b c:Nat) (d:Int) (e:Option Addr) (f g:Nat) (w:World) (K:Value→World→Prop):Prop:=
 0≤d∧d≤((b:Nat):Int)∧
 ifB (((f:Nat):Int) == (0:Int)) (
 K (.slice a b c) w) (
 ifB (d == ((b:Nat):Int)) (
 BuiltV prog .append #[T.s_tree_entry_string,T.s_tree_entry_string] T.s_tree_entry_string #[.slice a b c,.slice e f g] w (fun i j=>
 Es fun k l m=>
 i = .slice k l m∧
 K (.slice k l m) j)) (
 ifB (decide (((c:Nat):Int) < (IntKind.i64.wrap (((b:Nat):Int)+((f:Nat):Int))))) (
 0≤d∧d≤((c:Nat):Int)∧
 BuiltV prog .append #[T.s_tree_entry_string,T.int] T.s_tree_entry_string #[.slice (cutAt a 0 c 2) (d.toNat - 0) (c - 0),.int .i64 (IntKind.i64.wrap ((IntKind.i64.wrap (((b:Nat):Int)+((f:Nat):Int))) - d))] w (fun n o=>
 Es fun p q r=>
 n = .slice p q r∧
 0≤d∧d≤((q:Nat):Int)∧
 BuiltV prog .copy #[T.s_tree_entry_string,T.s_tree_entry_string] T.int #[.slice (cutAt p d.toNat r 2) (q - d.toNat) (r - d.toNat),.slice e f g] o (fun s t=>
 ∃ (u:Int),
 s = .int .i64 u∧
 0≤IntKind.i64.wrap (d+((f:Nat):Int))∧IntKind.i64.wrap (d+((f:Nat):Int))≤((q:Nat):Int)∧
 0≤d∧d≤((b:Nat):Int)∧
 BuiltV prog .copy #[T.s_tree_entry_string,T.s_tree_entry_string] T.int #[.slice (cutAt p ((IntKind.i64.wrap (d+((f:Nat):Int))).toNat) r 2) (q - ((IntKind.i64.wrap (d+((f:Nat):Int))).toNat)) (r - ((IntKind.i64.wrap (d+((f:Nat):Int))).toNat)),.slice (cutAt a d.toNat c 2) (b - d.toNat) (c - d.toNat)] t.drew (fun v x=>
 ∃ (y:Int),
 v = .int .i64 y∧
 K (.slice p q r) x)))) (
 0≤IntKind.i64.wrap (((b:Nat):Int)+((f:Nat):Int))∧IntKind.i64.wrap (((b:Nat):Int)+((f:Nat):Int))≤((c:Nat):Int)∧
 0≤IntKind.i64.wrap (d+((f:Nat):Int))∧IntKind.i64.wrap (d+((f:Nat):Int))≤((((IntKind.i64.wrap (((b:Nat):Int)+((f:Nat):Int))).toNat) - 0:Nat):Int)∧
 Cv F.z110 #[.slice e f g,.slice (cutAt (cutAt a 0 c 2) ((IntKind.i64.wrap (d+((f:Nat):Int))).toNat) (c - 0) 2) ((((IntKind.i64.wrap (((b:Nat):Int)+((f:Nat):Int))).toNat) - 0) - ((IntKind.i64.wrap (d+((f:Nat):Int))).toNat)) ((c - 0) - ((IntKind.i64.wrap (d+((f:Nat):Int))).toNat))] w (fun z a0=>
 ∃ (b0:Bool),
 z = .bool b0∧
 ifB (!b0) (
 0≤IntKind.i64.wrap (d+((f:Nat):Int))∧IntKind.i64.wrap (d+((f:Nat):Int))≤((((IntKind.i64.wrap (((b:Nat):Int)+((f:Nat):Int))).toNat) - 0:Nat):Int)∧
 0≤d∧d≤((((IntKind.i64.wrap (((b:Nat):Int)+((f:Nat):Int))).toNat) - 0:Nat):Int)∧
 BuiltV prog .copy #[T.s_tree_entry_string,T.s_tree_entry_string] T.int #[.slice (cutAt (cutAt a 0 c 2) ((IntKind.i64.wrap (d+((f:Nat):Int))).toNat) (c - 0) 2) ((((IntKind.i64.wrap (((b:Nat):Int)+((f:Nat):Int))).toNat) - 0) - ((IntKind.i64.wrap (d+((f:Nat):Int))).toNat)) ((c - 0) - ((IntKind.i64.wrap (d+((f:Nat):Int))).toNat)),.slice (cutAt (cutAt a 0 c 2) d.toNat (c - 0) 2) ((((IntKind.i64.wrap (((b:Nat):Int)+((f:Nat):Int))).toNat) - 0) - d.toNat) ((c - 0) - d.toNat)] a0.drew (fun c0 d0=>
 ∃ (e0:Int),
 c0 = .int .i64 e0∧
 0≤d∧d≤((((IntKind.i64.wrap (((b:Nat):Int)+((f:Nat):Int))).toNat) - 0:Nat):Int)∧
 BuiltV prog .copy #[T.s_tree_entry_string,T.s_tree_entry_string] T.int #[.slice (cutAt (cutAt a 0 c 2) d.toNat (c - 0) 2) ((((IntKind.i64.wrap (((b:Nat):Int)+((f:Nat):Int))).toNat) - 0) - d.toNat) ((c - 0) - d.toNat),.slice e f g] d0 (fun f0 g0=>
 ∃ (h0:Int),
 f0 = .int .i64 h0∧
 K (.slice (cutAt a 0 c 2) (((IntKind.i64.wrap (((b:Nat):Int)+((f:Nat):Int))).toNat) - 0) (c - 0)) g0))) (
 0≤((b:Nat):Int)∧((b:Nat):Int)≤((((IntKind.i64.wrap (((b:Nat):Int)+((f:Nat):Int))).toNat) - 0:Nat):Int)∧
 BuiltV prog .copy #[T.s_tree_entry_string,T.s_tree_entry_string] T.int #[.slice (cutAt (cutAt a 0 c 2) (((b:Nat):Int).toNat) (c - 0) 2) ((((IntKind.i64.wrap (((b:Nat):Int)+((f:Nat):Int))).toNat) - 0) - (((b:Nat):Int).toNat)) ((c - 0) - (((b:Nat):Int).toNat)),.slice e f g] a0 (fun i0 j0=>
 ∃ (k0:Int),
 i0 = .int .i64 k0∧
 0≤d∧d≤((((IntKind.i64.wrap (((b:Nat):Int)+((f:Nat):Int))).toNat) - 0:Nat):Int)∧
 Cv F.z114 #[.slice (cutAt (cutAt a 0 c 2) d.toNat (c - 0) 2) ((((IntKind.i64.wrap (((b:Nat):Int)+((f:Nat):Int))).toNat) - 0) - d.toNat) ((c - 0) - d.toNat),.int .i64 ((f:Nat):Int)] j0 (fun l0 m0=>
 l0 = .tuple #[]∧
 K (.slice (cutAt a 0 c 2) (((IntKind.i64.wrap (((b:Nat):Int)+((f:Nat):Int))).toNat) - 0) (c - 0)) m0)))))))
def An.z106:Ann:=⟨[(11,.sil 0 [] (.sil 1 [] (.sil 2 [] (.sil 3 [] (.sil 4 [] (.sil 5 [] (.sil 6 [] (.sil 7 [] (.act 8 (.done)))))))))),(15,.sil 0 [] (.sil 1 [] (.sil 2 [] (.sil 3 [] (.sil 4 [] (.sil 5 [] (.sil 6 [] (.sil 7 [] (.act 8 (.done))))))))))],[],[]⟩
theorem R.z106 {a:Option Addr} {b c:Nat} {d:Int} {e:Option Addr} {f g:Nat} {w:World} {K:Value→World→Prop} (h:C.z106 a b c d e f g w K):Cv F.z106 #[.slice a b c,.int .i64 d,.slice e f g] w K:=
 RR (an:=An.z106) Go.Proofs.Tryz.func186 (by kernel_rfl) (by kernel_rfl) h
def C.z51 (a:Int) (b:Int) (w:World) (K:Value→World→Prop):Prop:=
 ifB (b == (-1)) (
 K (.tuple #[.int .i64 0,.int .i64 0]) w) (
 Cv F.z53 #[.int .i64 a,.int .i64 b] w (fun c d=>
 ∃ (e:Int) (f:Int) (g:Int),
 c = .tuple #[.int .i64 e,.int .i64 f,.int .i64 g]∧
 K (.tuple #[.int .i64 f,.int .i64 g]) d))
def An.z51:Ann:=⟨[],[],[]⟩
theorem R.z51 {a:Int} {b:Int} {w:World} {K:Value→World→Prop} (h:C.z51 a b w K):Cv F.z51 #[.int .i64 a,.int .i64 b] w K:=
 RR (an:=An.z51) Go.Proofs.Tryz.func189 (by kernel_rfl) (by kernel_rfl) h
def C.z96 (a:Option Addr) (b c:Nat) (f1f:Nat) (d:Array Value) (w:World) (K:Value→World→Prop):Prop:=
 Cv F.z103 #[.slice a b c,.func (.func f1f) #[] d] w (fun e f=>
 ∃ (g:Int),
 e = .int .i64 g∧
 K (.bool (decide ((0:Int)≤g))) f)
def An.z96:Ann:=⟨[],[],[]⟩
theorem R.z96 {a:Option Addr} {b c:Nat} {f1f:Nat} {d:Array Value} {w:World} {K:Value→World→Prop} (h:C.z96 a b c f1f d w K):Cv F.z96 #[.slice a b c,.func (.func f1f) #[] d] w K:=
 RR (an:=An.z96) Go.Proofs.Tryz.func190 (by kernel_rfl) (by kernel_rfl) h
def C.z187 (a:Int) (b:Int) (c:ByteArray) (w:World) (K:Value→World→Prop):Prop:=
 ∀ d e,New w (.cells #[.int .i64 a,.int .i64 b,.string c] T.api_Value) d e→
 ∃ (f:Int),
 e.cell? ((Addr.mk d 0 none).add 0)=some (.int .i64 f)∧
 ifB (f == (1:Int)) (
 ∃ (g:ByteArray),
 e.cell? ((Addr.mk d 0 none).add 2)=some (.string g)∧
 K (.bool (!sEq g (bs []))) e) (
 ifB (f == (2:Int)) (
 ∃ (i:Int),
 e.cell? ((Addr.mk d 0 none).add 1)=some (.int .i64 i)∧
 ifB (i != (0:Int)) (
 K (.bool true) e) (
 ∃ (j:ByteArray),
 e.cell? ((Addr.mk d 0 none).add 2)=some (.string j)∧
 K (.bool (decide ((200:Int) < ((j.size:Nat):Int)))) e)) (
 ifB (f == (3:Int)) (
 ∃ (k:Int),
 e.cell? ((Addr.mk d 0 none).add 1)=some (.int .i64 k)∧
 0≤(1:Int)∧
 ifB ((Int.fdiv k (2 ^ (min (1:Int).toNat IntKind.i64.bits))) != (0:Int)) (
 K (.bool true) e) (
 ∃ (l:ByteArray),
 e.cell? ((Addr.mk d 0 none).add 2)=some (.string l)∧
 K (.bool (!sEq l (bs []))) e)) (
 K (.bool true) e)))
def An.z187:Ann:=⟨[],[],[]⟩
theorem R.z187 {a:Int} {b:Int} {c:ByteArray} {w:World} {K:Value→World→Prop} (h:C.z187 a b c w K):Cv F.z187 #[.agg #[.int .i64 a,.int .i64 b,.string c]] w K:=
 RR (an:=An.z187) Go.Proofs.Tryz.func191 (by kernel_rfl) (by kernel_rfl) h
def C.z98 (a:Option Addr) (b c:Nat) (d:Int) (e:Int) (w:World) (K:Value→World→Prop):Prop:=
 0≤((b:Nat):Int)∧((b:Nat):Int)≤((c:Nat):Int)∧
 0≤e∧e≤((((b:Nat):Int).toNat:Nat):Int)∧
 0≤d∧d≤((e.toNat:Nat):Int)∧
 ifB (d == e) (
 K (.slice a b c) w) (
 0≤d∧d≤((c:Nat):Int)∧
 0≤e∧e≤((b:Nat):Int)∧
 BuiltV prog .append #[T.s_tree_entry_s_afflux_api_Value,T.s_tree_entry_s_afflux_api_Value] T.s_tree_entry_s_afflux_api_Value #[.slice (cutAt a 0 c 2) (d.toNat - 0) (c - 0),.slice (cutAt a e.toNat c 2) (b - e.toNat) (c - e.toNat)] w.drew (fun f g=>
 Es fun i j k=>
 f = .slice i j k∧
 0≤((b:Nat):Int)∧((b:Nat):Int)≤((k:Nat):Int)∧
 0≤((j:Nat):Int)∧((j:Nat):Int)≤((((b:Nat):Int).toNat:Nat):Int)∧
 BuiltV prog .clear #[T.s_tree_entry_s_afflux_api_Value] T.unit #[.slice (cutAt i (((j:Nat):Int).toNat) k 2) ((((b:Nat):Int).toNat) - (((j:Nat):Int).toNat)) (k - (((j:Nat):Int).toNat))] g (fun l m=>
 K (.slice i j k) m)))
def An.z98:Ann:=⟨[(5,.sil 0 [] (.sil 1 [] (.sil 2 [] (.sil 3 [] (.sil 4 [] (.sil 5 [] (.act 6 (.sil 7 [] (.done)))))))))],[],[]⟩
theorem R.z98 {a:Option Addr} {b c:Nat} {d:Int} {e:Int} {w:World} {K:Value→World→Prop} (h:C.z98 a b c d e w K):Cv F.z98 #[.slice a b c,.int .i64 d,.int .i64 e] w K:=
 RR (an:=An.z98) Go.Proofs.Tryz.func193 (by kernel_rfl) (by kernel_rfl) h
def C.z161 (a:Option Addr) (b:Int) (w:World) (K:Value→World→Prop):Prop:=
 ∃ c,a=some c∧
 Es fun d e f=>
 w.drew.cell? (c.add 1)=some (.slice d e f)∧
 Iq d (b) e fun g=>
 ∃ (i:Option Addr),
 w.drew.cell? (g.add (b.toNat * 1))=some (.pointer i)∧
 ∃ j,a=some j∧
 Es fun k l m=>
 w.drew.cell? (j.add 1)=some (.slice k l m)∧
 Iq k (IntKind.i64.wrap (b+(1:Int))) l fun n=>
 ∃ (o:Option Addr),
 w.drew.cell? (n.add ((IntKind.i64.wrap (b+(1:Int))).toNat * 1))=some (.pointer o)∧
 ∃ p,o=some p∧
 ∃ q,a=some q∧
 Es fun r s t=>
 w.drew.drew.cell? ((q.add 0).add 0)=some (.slice r s t)∧
 Iq r (b) s fun u=>
 ∃ (v:ByteArray) (x:Option Addr) (y z:Nat),
 cellsAt w.drew.drew (u.add (b.toNat * 2)) 0 [.string v,.slice x y z]∧
 Cv F.z175 #[.pointer (some (p.add 0)),.int .i64 0,.agg #[.string v,.slice x y z]] w.drew.drew (fun a0 b0=>
 a0 = .tuple #[]∧
 ∃ c0,a=some c0∧
 Es fun d0 e0 f0=>
 b0.drew.cell? ((c0.add 0).add 0)=some (.slice d0 e0 f0)∧
 ∃ g0,i=some g0∧
 ∃ h0,i=some h0∧
 Es fun i0 j0 k0=>
 b0.drew.cell? ((h0.add 0).add 0)=some (.slice i0 j0 k0)∧
 Cv F.z176 #[.pointer (some (g0.add 0)),.int .i64 (IntKind.i64.wrap (((j0:Nat):Int) - (1:Int)))] b0.drew (fun l0 m0=>
 ∃ (n0:ByteArray) (o0:Option Addr) (p0 q0:Nat),
 l0 = .agg #[.string n0,.slice o0 p0 q0]∧
 m0.cell? ((c0.add 0).add 0)=some (.slice d0 e0 f0)∧
 Iq d0 (b) e0 fun r0=>
 CanSt m0 ((r0.add (b.toNat * 2)).add 0)∧∀ s0,s0=m0.setCell ((r0.add (b.toNat * 2)).add 0) (.string n0)→
 CanSt s0 ((r0.add (b.toNat * 2)).add 1)∧∀ t0,t0=s0.setCell ((r0.add (b.toNat * 2)).add 1) (.slice o0 p0 q0)→
 Cv F.z157 #[.pointer i] t0 (fun u0 v0=>
 ∃ (w0:Bool),
 u0 = .bool w0∧
 ifB (!w0) (
 ∃ x0,i=some x0∧
 Es fun y0 z0 a1=>
 v0.cell? (x0.add 1)=some (.slice y0 z0 a1)∧
 ∃ b1,o=some b1∧
 Es fun c1 d1 e1=>
 v0.drew.cell? (b1.add 1)=some (.slice c1 d1 e1)∧
 ∃ f1,i=some f1∧
 Es fun g1 h1 i1=>
 v0.drew.cell? (f1.add 1)=some (.slice g1 h1 i1)∧
 Iq g1 (IntKind.i64.wrap (((z0:Nat):Int) - (1:Int))) h1 fun j1=>
 ∃ (k1:Option Addr),
 v0.drew.cell? (j1.add ((IntKind.i64.wrap (((z0:Nat):Int) - (1:Int))).toNat * 1))=some (.pointer k1)∧
 ∀ l1 m1,New v0.drew (.cells #[.pointer k1] T.p_tree_page_s_afflux_api_Value) l1 m1→
 m1.cell? (b1.add 1)=some (.slice c1 d1 e1)∧
 Cv F.z107 #[.slice c1 d1 e1,.int .i64 0,.slice (some (Addr.mk l1 0 none)) 1 1] m1 (fun n1 o1=>
 Es fun p1 q1 r1=>
 n1 = .slice p1 q1 r1∧
 ∃ s1,o=some s1∧
 CanSt o1 (s1.add 1)∧∀ t1,t1=o1.setCell (s1.add 1) (.slice p1 q1 r1)→
 ∃ u1,i=some u1∧
 Es fun v1 w1 x1=>
 t1.cell? (u1.add 1)=some (.slice v1 w1 x1)∧
 0≤IntKind.i64.wrap (((z0:Nat):Int) - (1:Int))∧IntKind.i64.wrap (((z0:Nat):Int) - (1:Int))≤((x1:Nat):Int)∧
 ∃ y1,i=some y1∧
 CanSt t1 (y1.add 1)∧∀ z1,z1=t1.setCell (y1.add 1) (.slice (cutAt v1 0 x1 1) (((IntKind.i64.wrap (((z0:Nat):Int) - (1:Int))).toNat) - 0) (x1 - 0))→
 K (.tuple #[]) z1)) (
 K (.tuple #[]) v0))))
def An.z161:Ann:=⟨[(0,.sil 0 [] (.sil 1 [] (.sil 2 [] (.sil 3 [] (.sil 4 [] (.sil 5 [] (.sil 6 [] (.sil 7 [] (.sil 8 [] (.sil 9 [] (.sil 10 [] (.sil 11 [] (.sil 12 [] (.sil 13 [] (.sil 14 [] (.sil 15 [] (.sil 16 [] (.done)))))))))))))))))),(1,.sil 0 [] (.sil 1 [] (.sil 2 [] (.sil 3 [] (.sil 4 [] (.sil 5 [] (.sil 6 [] (.sil 7 [] (.sil 8 [] (.sil 9 [] (.sil 10 [] (.act 11 (.done))))))))))))),(2,.sil 0 [] (.sil 1 [] (.sil 2 [] (.sil 3 [] (.sil 4 [16] (.sil 5 [] (.sil 6 [] (.sil 7 [] (.sil 8 [] (.sil 9 [] (.sil 10 [] (.sil 11 [] (.sil 12 [] (.sil 13 [] (.sil 14 [] (.sil 15 [] (.act 16 (.sil 17 [] (.act 18 (.done)))))))))))))))))))),(5,.sil 0 [] (.sil 1 [] (.sil 2 [] (.sil 3 [] (.sil 4 [12] (.sil 5 [] (.sil 6 [] (.sil 7 [] (.sil 8 [] (.sil 9 [] (.sil 10 [] (.sil 11 [] (.act 12 (.act 13 (.sil 14 [] (.sil 15 [] (.act 16 (.done))))))))))))))))))],[],[]⟩
theorem R.z161 {a:Option Addr} {b:Int} {w:World} {K:Value→World→Prop} (h:C.z161 a b w K):Cv F.z161 #[.pointer a,.int .i64 b] w K:=
 RR (an:=An.z161) Go.Proofs.Tryz.func194 (by kernel_rfl) (by kernel_rfl) h
def C.z158 (a:Option Addr) (b:Int) (w:World) (K:Value→World→Prop):Prop:=
 ∃ c,a=some c∧
 Es fun d e f=>
 w.drew.cell? (c.add 1)=some (.slice d e f)∧
 Iq d (b) e fun g=>
 ∃ (i:Option Addr),
 w.drew.cell? (g.add (b.toNat * 1))=some (.pointer i)∧
 ∃ j,a=some j∧
 Es fun k l m=>
 w.drew.cell? (j.add 1)=some (.slice k l m)∧
 Iq k (IntKind.i64.wrap (b+(1:Int))) l fun n=>
 ∃ (o:Option Addr),
 w.drew.cell? (n.add ((IntKind.i64.wrap (b+(1:Int))).toNat * 1))=some (.pointer o)∧
 ∃ p,i=some p∧
 ∃ q,i=some q∧
 Es fun r s t=>
 w.drew.drew.cell? ((q.add 0).add 0)=some (.slice r s t)∧
 ∃ u,a=some u∧
 Es fun v x y=>
 w.drew.drew.cell? ((u.add 0).add 0)=some (.slice v x y)∧
 Iq v (b) x fun z=>
 ∃ (a0:ByteArray) (b0:Option Addr) (c0 d0:Nat),
 cellsAt w.drew.drew (z.add (b.toNat * 2)) 0 [.string a0,.slice b0 c0 d0]∧
 Cv F.z175 #[.pointer (some (p.add 0)),.int .i64 ((s:Nat):Int),.agg #[.string a0,.slice b0 c0 d0]] w.drew.drew (fun e0 f0=>
 e0 = .tuple #[]∧
 ∃ g0,a=some g0∧
 Es fun h0 i0 j0=>
 f0.drew.cell? ((g0.add 0).add 0)=some (.slice h0 i0 j0)∧
 ∃ k0,o=some k0∧
 Cv F.z176 #[.pointer (some (k0.add 0)),.int .i64 0] f0.drew (fun l0 m0=>
 ∃ (n0:ByteArray) (o0:Option Addr) (p0 q0:Nat),
 l0 = .agg #[.string n0,.slice o0 p0 q0]∧
 m0.cell? ((g0.add 0).add 0)=some (.slice h0 i0 j0)∧
 Iq h0 (b) i0 fun r0=>
 CanSt m0 ((r0.add (b.toNat * 2)).add 0)∧∀ s0,s0=m0.setCell ((r0.add (b.toNat * 2)).add 0) (.string n0)→
 CanSt s0 ((r0.add (b.toNat * 2)).add 1)∧∀ t0,t0=s0.setCell ((r0.add (b.toNat * 2)).add 1) (.slice o0 p0 q0)→
 Cv F.z157 #[.pointer o] t0 (fun u0 v0=>
 ∃ (w0:Bool),
 u0 = .bool w0∧
 ifB (!w0) (
 ∃ x0,i=some x0∧
 Es fun y0 z0 a1=>
 v0.drew.cell? (x0.add 1)=some (.slice y0 z0 a1)∧
 ∃ b1,o=some b1∧
 Es fun c1 d1 e1=>
 v0.drew.cell? (b1.add 1)=some (.slice c1 d1 e1)∧
 Iq c1 ((0:Int)) d1 fun f1=>
 ∃ (g1:Option Addr),
 v0.drew.cell? (f1.add ((0:Int).toNat * 1))=some (.pointer g1)∧
 ∀ h1 i1,New v0.drew (.cells #[.pointer g1] T.p_tree_page_s_afflux_api_Value) h1 i1→
 i1.cell? (x0.add 1)=some (.slice y0 z0 a1)∧
 BuiltV prog .append #[T.s_p_tree_page_s_afflux_api_Value,T.s_p_tree_page_s_afflux_api_Value] T.s_p_tree_page_s_afflux_api_Value #[.slice y0 z0 a1,.slice (some (Addr.mk h1 0 none)) 1 1] i1 (fun j1 k1=>
 Es fun l1 m1 n1=>
 j1 = .slice l1 m1 n1∧
 ∃ o1,i=some o1∧
 CanSt k1 (o1.add 1)∧∀ p1,p1=k1.setCell (o1.add 1) (.slice l1 m1 n1)→
 ∃ q1,o=some q1∧
 Es fun r1 s1 t1=>
 p1.cell? (q1.add 1)=some (.slice r1 s1 t1)∧
 Cv F.z100 #[.slice r1 s1 t1,.int .i64 0,.int .i64 1] p1 (fun u1 v1=>
 Es fun w1 x1 y1=>
 u1 = .slice w1 x1 y1∧
 ∃ z1,o=some z1∧
 CanSt v1 (z1.add 1)∧∀ a2,a2=v1.setCell (z1.add 1) (.slice w1 x1 y1)→
 K (.tuple #[]) a2))) (
 K (.tuple #[]) v0))))
def An.z158:Ann:=⟨[(0,.sil 0 [] (.sil 1 [] (.sil 2 [] (.sil 3 [] (.sil 4 [] (.sil 5 [] (.sil 6 [] (.sil 7 [] (.sil 8 [] (.sil 9 [] (.sil 10 [] (.sil 11 [] (.sil 12 [] (.sil 13 [] (.sil 14 [] (.sil 15 [] (.sil 16 [] (.done)))))))))))))))))),(1,.sil 0 [] (.sil 1 [] (.sil 2 [] (.sil 3 [] (.sil 4 [] (.sil 5 [] (.sil 6 [] (.sil 7 [] (.sil 8 [] (.sil 9 [] (.sil 10 [] (.sil 11 [] (.sil 12 [] (.sil 13 [] (.sil 14 [] (.sil 15 [] (.sil 16 [] (.act 17 (.done))))))))))))))))))),(2,.sil 0 [] (.sil 1 [] (.sil 2 [] (.sil 3 [] (.sil 4 [9] (.sil 5 [] (.sil 6 [] (.sil 7 [] (.sil 8 [] (.act 9 (.sil 10 [] (.act 11 (.done))))))))))))),(4,.sil 0 [] (.sil 1 [] (.sil 2 [] (.sil 3 [] (.sil 4 [11] (.sil 5 [] (.sil 6 [] (.sil 7 [] (.sil 8 [] (.sil 9 [] (.sil 10 [] (.act 11 (.act 12 (.sil 13 [] (.sil 14 [] (.act 15 (.done)))))))))))))))))],[],[]⟩
theorem R.z158 {a:Option Addr} {b:Int} {w:World} {K:Value→World→Prop} (h:C.z158 a b w K):Cv F.z158 #[.pointer a,.int .i64 b] w K:=
 RR (an:=An.z158) Go.Proofs.Tryz.func195 (by kernel_rfl) (by kernel_rfl) h
def C.z155 (a:Option Addr) (b:Int) (w:World) (K:Value→World→Prop):Prop:=
 ∃ c,a=some c∧
 Es fun d e f=>
 w.drew.cell? (c.add 1)=some (.slice d e f)∧
 Iq d (b) e fun g=>
 ∃ (i:Option Addr),
 w.drew.cell? (g.add (b.toNat * 1))=some (.pointer i)∧
 ∃ j,a=some j∧
 Es fun k l m=>
 w.drew.cell? (j.add 1)=some (.slice k l m)∧
 Iq k (IntKind.i64.wrap (b+(1:Int))) l fun n=>
 ∃ (o:Option Addr),
 w.drew.cell? (n.add ((IntKind.i64.wrap (b+(1:Int))).toNat * 1))=some (.pointer o)∧
 ∃ p,i=some p∧
 ∃ q,i=some q∧
 Es fun r s t=>
 w.drew.drew.cell? ((q.add 0).add 0)=some (.slice r s t)∧
 ∃ u,a=some u∧
 Cv F.z176 #[.pointer (some (u.add 0)),.int .i64 b] w.drew.drew (fun v x=>
 ∃ (y:ByteArray) (z:Option Addr) (a0 b0:Nat),
 v = .agg #[.string y,.slice z a0 b0]∧
 x.cell? ((q.add 0).add 0)=some (.slice r s t)∧
 Cv F.z175 #[.pointer (some (p.add 0)),.int .i64 ((s:Nat):Int),.agg #[.string y,.slice z a0 b0]] x (fun c0 d0=>
 c0 = .tuple #[]∧
 ∃ e0,i=some e0∧
 Es fun f0 g0 h0=>
 d0.drew.cell? ((e0.add 0).add 0)=some (.slice f0 g0 h0)∧
 ∃ i0,o=some i0∧
 Es fun j0 k0 l0=>
 d0.drew.cell? ((i0.add 0).add 0)=some (.slice j0 k0 l0)∧
 BuiltV prog .append #[T.s_tree_entry_s_afflux_api_Value,T.s_tree_entry_s_afflux_api_Value] T.s_tree_entry_s_afflux_api_Value #[.slice f0 g0 h0,.slice j0 k0 l0] d0.drew (fun m0 n0=>
 Es fun o0 p0 q0=>
 m0 = .slice o0 p0 q0∧
 ∃ r0,i=some r0∧
 CanSt n0 ((r0.add 0).add 0)∧∀ s0,s0=n0.setCell ((r0.add 0).add 0) (.slice o0 p0 q0)→
 ∃ t0,i=some t0∧
 Es fun u0 v0 w0=>
 s0.drew.cell? (t0.add 1)=some (.slice u0 v0 w0)∧
 ∃ x0,o=some x0∧
 Es fun y0 z0 a1=>
 s0.drew.cell? (x0.add 1)=some (.slice y0 z0 a1)∧
 BuiltV prog .append #[T.s_p_tree_page_s_afflux_api_Value,T.s_p_tree_page_s_afflux_api_Value] T.s_p_tree_page_s_afflux_api_Value #[.slice u0 v0 w0,.slice y0 z0 a1] s0.drew (fun b1 c1=>
 Es fun d1 e1 f1=>
 b1 = .slice d1 e1 f1∧
 ∃ g1,i=some g1∧
 CanSt c1 (g1.add 1)∧∀ h1,h1=c1.setCell (g1.add 1) (.slice d1 e1 f1)→
 ∃ i1,a=some i1∧
 Es fun j1 k1 l1=>
 h1.cell? (i1.add 1)=some (.slice j1 k1 l1)∧
 Cv F.z100 #[.slice j1 k1 l1,.int .i64 (IntKind.i64.wrap (b+(1:Int))),.int .i64 (IntKind.i64.wrap (b+(2:Int)))] h1 (fun m1 n1=>
 Es fun o1 p1 q1=>
 m1 = .slice o1 p1 q1∧
 ∃ r1,a=some r1∧
 CanSt n1 (r1.add 1)∧∀ s1,s1=n1.setCell (r1.add 1) (.slice o1 p1 q1)→
 K (.tuple #[]) s1)))))
def An.z155:Ann:=⟨[(0,.sil 0 [] (.sil 1 [] (.sil 2 [] (.sil 3 [] (.sil 4 [] (.sil 5 [] (.sil 6 [] (.sil 7 [] (.sil 8 [] (.sil 9 [] (.sil 10 [] (.sil 11 [] (.sil 12 [] (.sil 13 [] (.sil 14 [] (.sil 15 [] (.sil 16 [] (.done)))))))))))))))))),(1,.sil 0 [] (.sil 1 [] (.sil 2 [] (.sil 3 [] (.sil 4 [] (.sil 5 [] (.sil 6 [] (.sil 7 [13] (.sil 8 [] (.sil 9 [] (.sil 10 [] (.sil 11 [] (.sil 12 [] (.act 13 (.act 14 (.done)))))))))))))))),(2,.sil 0 [] (.sil 1 [] (.sil 2 [] (.sil 3 [] (.sil 4 [] (.sil 5 [] (.sil 6 [] (.sil 7 [] (.sil 8 [] (.sil 9 [] (.sil 10 [] (.act 11 (.sil 12 [] (.sil 13 [] (.sil 14 [] (.act 15 (.done))))))))))))))))),(3,.sil 0 [] (.sil 1 [] (.sil 2 [] (.sil 3 [] (.sil 4 [] (.sil 5 [] (.sil 6 [] (.sil 7 [] (.sil 8 [] (.act 9 (.sil 10 [] (.sil 11 [] (.act 12 (.done))))))))))))))],[],[]⟩
theorem R.z155 {a:Option Addr} {b:Int} {w:World} {K:Value→World→Prop} (h:C.z155 a b w K):Cv F.z155 #[.pointer a,.int .i64 b] w K:=
 RR (an:=An.z155) Go.Proofs.Tryz.func196 (by kernel_rfl) (by kernel_rfl) h
def C.z99 (a:Option Addr) (b c:Nat) (d:Int) (e:Int) (w:World) (K:Value→World→Prop):Prop:=
 0≤((b:Nat):Int)∧((b:Nat):Int)≤((c:Nat):Int)∧
 0≤e∧e≤((((b:Nat):Int).toNat:Nat):Int)∧
 0≤d∧d≤((e.toNat:Nat):Int)∧
 ifB (d == e) (
 K (.slice a b c) w) (
 0≤d∧d≤((c:Nat):Int)∧
 0≤e∧e≤((b:Nat):Int)∧
 BuiltV prog .append #[T.s_tree_entry_string,T.s_tree_entry_string] T.s_tree_entry_string #[.slice (cutAt a 0 c 2) (d.toNat - 0) (c - 0),.slice (cutAt a e.toNat c 2) (b - e.toNat) (c - e.toNat)] w.drew (fun f g=>
 Es fun i j k=>
 f = .slice i j k∧
 0≤((b:Nat):Int)∧((b:Nat):Int)≤((k:Nat):Int)∧
 0≤((j:Nat):Int)∧((j:Nat):Int)≤((((b:Nat):Int).toNat:Nat):Int)∧
 BuiltV prog .clear #[T.s_tree_entry_string] T.unit #[.slice (cutAt i (((j:Nat):Int).toNat) k 2) ((((b:Nat):Int).toNat) - (((j:Nat):Int).toNat)) (k - (((j:Nat):Int).toNat))] g (fun l m=>
 K (.slice i j k) m)))
def An.z99:Ann:=⟨[(5,.sil 0 [] (.sil 1 [] (.sil 2 [] (.sil 3 [] (.sil 4 [] (.sil 5 [] (.act 6 (.sil 7 [] (.done)))))))))],[],[]⟩
theorem R.z99 {a:Option Addr} {b c:Nat} {d:Int} {e:Int} {w:World} {K:Value→World→Prop} (h:C.z99 a b c d e w K):Cv F.z99 #[.slice a b c,.int .i64 d,.int .i64 e] w K:=
 RR (an:=An.z99) Go.Proofs.Tryz.func197 (by kernel_rfl) (by kernel_rfl) h
def C.z171 (a:Option Addr) (b:Int) (w:World) (K:Value→World→Prop):Prop:=
 ∃ c,a=some c∧
 Es fun d e f=>
 w.drew.cell? (c.add 1)=some (.slice d e f)∧
 Iq d (b) e fun g=>
 ∃ (i:Option Addr),
 w.drew.cell? (g.add (b.toNat * 1))=some (.pointer i)∧
 ∃ j,a=some j∧
 Es fun k l m=>
 w.drew.cell? (j.add 1)=some (.slice k l m)∧
 Iq k (IntKind.i64.wrap (b+(1:Int))) l fun n=>
 ∃ (o:Option Addr),
 w.drew.cell? (n.add ((IntKind.i64.wrap (b+(1:Int))).toNat * 1))=some (.pointer o)∧
 ∃ p,o=some p∧
 ∃ q,a=some q∧
 Es fun r s t=>
 w.drew.drew.cell? ((q.add 0).add 0)=some (.slice r s t)∧
 Iq r (b) s fun u=>
 ∃ (v:ByteArray) (x:ByteArray),
 cellsAt w.drew.drew (u.add (b.toNat * 2)) 0 [.string v,.string x]∧
 Cv F.z179 #[.pointer (some (p.add 0)),.int .i64 0,.agg #[.string v,.string x]] w.drew.drew (fun y z=>
 y = .tuple #[]∧
 ∃ a0,a=some a0∧
 Es fun b0 c0 d0=>
 z.drew.cell? ((a0.add 0).add 0)=some (.slice b0 c0 d0)∧
 ∃ e0,i=some e0∧
 ∃ f0,i=some f0∧
 Es fun g0 h0 i0=>
 z.drew.cell? ((f0.add 0).add 0)=some (.slice g0 h0 i0)∧
 Cv F.z180 #[.pointer (some (e0.add 0)),.int .i64 (IntKind.i64.wrap (((h0:Nat):Int) - (1:Int)))] z.drew (fun j0 k0=>
 ∃ (l0:ByteArray) (m0:ByteArray),
 j0 = .agg #[.string l0,.string m0]∧
 k0.cell? ((a0.add 0).add 0)=some (.slice b0 c0 d0)∧
 Iq b0 (b) c0 fun n0=>
 CanSt k0 ((n0.add (b.toNat * 2)).add 0)∧∀ o0,o0=k0.setCell ((n0.add (b.toNat * 2)).add 0) (.string l0)→
 CanSt o0 ((n0.add (b.toNat * 2)).add 1)∧∀ p0,p0=o0.setCell ((n0.add (b.toNat * 2)).add 1) (.string m0)→
 Cv F.z167 #[.pointer i] p0 (fun q0 r0=>
 ∃ (s0:Bool),
 q0 = .bool s0∧
 ifB (!s0) (
 ∃ t0,i=some t0∧
 Es fun u0 v0 w0=>
 r0.cell? (t0.add 1)=some (.slice u0 v0 w0)∧
 ∃ x0,o=some x0∧
 Es fun y0 z0 a1=>
 r0.drew.cell? (x0.add 1)=some (.slice y0 z0 a1)∧
 ∃ b1,i=some b1∧
 Es fun c1 d1 e1=>
 r0.drew.cell? (b1.add 1)=some (.slice c1 d1 e1)∧
 Iq c1 (IntKind.i64.wrap (((v0:Nat):Int) - (1:Int))) d1 fun f1=>
 ∃ (g1:Option Addr),
 r0.drew.cell? (f1.add ((IntKind.i64.wrap (((v0:Nat):Int) - (1:Int))).toNat * 1))=some (.pointer g1)∧
 ∀ h1 i1,New r0.drew (.cells #[.pointer g1] T.p_tree_page_string) h1 i1→
 i1.cell? (x0.add 1)=some (.slice y0 z0 a1)∧
 Cv F.z108 #[.slice y0 z0 a1,.int .i64 0,.slice (some (Addr.mk h1 0 none)) 1 1] i1 (fun j1 k1=>
 Es fun l1 m1 n1=>
 j1 = .slice l1 m1 n1∧
 ∃ o1,o=some o1∧
 CanSt k1 (o1.add 1)∧∀ p1,p1=k1.setCell (o1.add 1) (.slice l1 m1 n1)→
 ∃ q1,i=some q1∧
 Es fun r1 s1 t1=>
 p1.cell? (q1.add 1)=some (.slice r1 s1 t1)∧
 0≤IntKind.i64.wrap (((v0:Nat):Int) - (1:Int))∧IntKind.i64.wrap (((v0:Nat):Int) - (1:Int))≤((t1:Nat):Int)∧
 ∃ u1,i=some u1∧
 CanSt p1 (u1.add 1)∧∀ v1,v1=p1.setCell (u1.add 1) (.slice (cutAt r1 0 t1 1) (((IntKind.i64.wrap (((v0:Nat):Int) - (1:Int))).toNat) - 0) (t1 - 0))→
 K (.tuple #[]) v1)) (
 K (.tuple #[]) r0))))
def An.z171:Ann:=⟨[(0,.sil 0 [] (.sil 1 [] (.sil 2 [] (.sil 3 [] (.sil 4 [] (.sil 5 [] (.sil 6 [] (.sil 7 [] (.sil 8 [] (.sil 9 [] (.sil 10 [] (.sil 11 [] (.sil 12 [] (.sil 13 [] (.sil 14 [] (.sil 15 [] (.sil 16 [] (.done)))))))))))))))))),(1,.sil 0 [] (.sil 1 [] (.sil 2 [] (.sil 3 [] (.sil 4 [] (.sil 5 [] (.sil 6 [] (.sil 7 [] (.sil 8 [] (.sil 9 [] (.sil 10 [] (.act 11 (.done))))))))))))),(2,.sil 0 [] (.sil 1 [] (.sil 2 [] (.sil 3 [] (.sil 4 [16] (.sil 5 [] (.sil 6 [] (.sil 7 [] (.sil 8 [] (.sil 9 [] (.sil 10 [] (.sil 11 [] (.sil 12 [] (.sil 13 [] (.sil 14 [] (.sil 15 [] (.act 16 (.sil 17 [] (.act 18 (.done)))))))))))))))))))),(5,.sil 0 [] (.sil 1 [] (.sil 2 [] (.sil 3 [] (.sil 4 [12] (.sil 5 [] (.sil 6 [] (.sil 7 [] (.sil 8 [] (.sil 9 [] (.sil 10 [] (.sil 11 [] (.act 12 (.act 13 (.sil 14 [] (.sil 15 [] (.act 16 (.done))))))))))))))))))],[],[]⟩
theorem R.z171 {a:Option Addr} {b:Int} {w:World} {K:Value→World→Prop} (h:C.z171 a b w K):Cv F.z171 #[.pointer a,.int .i64 b] w K:=
 RR (an:=An.z171) Go.Proofs.Tryz.func198 (by kernel_rfl) (by kernel_rfl) h
def C.z168 (a:Option Addr) (b:Int) (w:World) (K:Value→World→Prop):Prop:=
 ∃ c,a=some c∧
 Es fun d e f=>
 w.drew.cell? (c.add 1)=some (.slice d e f)∧
 Iq d (b) e fun g=>
 ∃ (i:Option Addr),
 w.drew.cell? (g.add (b.toNat * 1))=some (.pointer i)∧
 ∃ j,a=some j∧
 Es fun k l m=>
 w.drew.cell? (j.add 1)=some (.slice k l m)∧
 Iq k (IntKind.i64.wrap (b+(1:Int))) l fun n=>
 ∃ (o:Option Addr),
 w.drew.cell? (n.add ((IntKind.i64.wrap (b+(1:Int))).toNat * 1))=some (.pointer o)∧
 ∃ p,i=some p∧
 ∃ q,i=some q∧
 Es fun r s t=>
 w.drew.drew.cell? ((q.add 0).add 0)=some (.slice r s t)∧
 ∃ u,a=some u∧
 Es fun v x y=>
 w.drew.drew.cell? ((u.add 0).add 0)=some (.slice v x y)∧
 Iq v (b) x fun z=>
 ∃ (a0:ByteArray) (b0:ByteArray),
 cellsAt w.drew.drew (z.add (b.toNat * 2)) 0 [.string a0,.string b0]∧
 Cv F.z179 #[.pointer (some (p.add 0)),.int .i64 ((s:Nat):Int),.agg #[.string a0,.string b0]] w.drew.drew (fun c0 d0=>
 c0 = .tuple #[]∧
 ∃ e0,a=some e0∧
 Es fun f0 g0 h0=>
 d0.drew.cell? ((e0.add 0).add 0)=some (.slice f0 g0 h0)∧
 ∃ i0,o=some i0∧
 Cv F.z180 #[.pointer (some (i0.add 0)),.int .i64 0] d0.drew (fun j0 k0=>
 ∃ (l0:ByteArray) (m0:ByteArray),
 j0 = .agg #[.string l0,.string m0]∧
 k0.cell? ((e0.add 0).add 0)=some (.slice f0 g0 h0)∧
 Iq f0 (b) g0 fun n0=>
 CanSt k0 ((n0.add (b.toNat * 2)).add 0)∧∀ o0,o0=k0.setCell ((n0.add (b.toNat * 2)).add 0) (.string l0)→
 CanSt o0 ((n0.add (b.toNat * 2)).add 1)∧∀ p0,p0=o0.setCell ((n0.add (b.toNat * 2)).add 1) (.string m0)→
 Cv F.z167 #[.pointer o] p0 (fun q0 r0=>
 ∃ (s0:Bool),
 q0 = .bool s0∧
 ifB (!s0) (
 ∃ t0,i=some t0∧
 Es fun u0 v0 w0=>
 r0.drew.cell? (t0.add 1)=some (.slice u0 v0 w0)∧
 ∃ x0,o=some x0∧
 Es fun y0 z0 a1=>
 r0.drew.cell? (x0.add 1)=some (.slice y0 z0 a1)∧
 Iq y0 ((0:Int)) z0 fun b1=>
 ∃ (c1:Option Addr),
 r0.drew.cell? (b1.add ((0:Int).toNat * 1))=some (.pointer c1)∧
 ∀ d1 e1,New r0.drew (.cells #[.pointer c1] T.p_tree_page_string) d1 e1→
 e1.cell? (t0.add 1)=some (.slice u0 v0 w0)∧
 BuiltV prog .append #[T.s_p_tree_page_string,T.s_p_tree_page_string] T.s_p_tree_page_string #[.slice u0 v0 w0,.slice (some (Addr.mk d1 0 none)) 1 1] e1 (fun f1 g1=>
 Es fun h1 i1 j1=>
 f1 = .slice h1 i1 j1∧
 ∃ k1,i=some k1∧
 CanSt g1 (k1.add 1)∧∀ l1,l1=g1.setCell (k1.add 1) (.slice h1 i1 j1)→
 ∃ m1,o=some m1∧
 Es fun n1 o1 p1=>
 l1.cell? (m1.add 1)=some (.slice n1 o1 p1)∧
 Cv F.z101 #[.slice n1 o1 p1,.int .i64 0,.int .i64 1] l1 (fun q1 r1=>
 Es fun s1 t1 u1=>
 q1 = .slice s1 t1 u1∧
 ∃ v1,o=some v1∧
 CanSt r1 (v1.add 1)∧∀ w1,w1=r1.setCell (v1.add 1) (.slice s1 t1 u1)→
 K (.tuple #[]) w1))) (
 K (.tuple #[]) r0))))
def An.z168:Ann:=⟨[(0,.sil 0 [] (.sil 1 [] (.sil 2 [] (.sil 3 [] (.sil 4 [] (.sil 5 [] (.sil 6 [] (.sil 7 [] (.sil 8 [] (.sil 9 [] (.sil 10 [] (.sil 11 [] (.sil 12 [] (.sil 13 [] (.sil 14 [] (.sil 15 [] (.sil 16 [] (.done)))))))))))))))))),(1,.sil 0 [] (.sil 1 [] (.sil 2 [] (.sil 3 [] (.sil 4 [] (.sil 5 [] (.sil 6 [] (.sil 7 [] (.sil 8 [] (.sil 9 [] (.sil 10 [] (.sil 11 [] (.sil 12 [] (.sil 13 [] (.sil 14 [] (.sil 15 [] (.sil 16 [] (.act 17 (.done))))))))))))))))))),(2,.sil 0 [] (.sil 1 [] (.sil 2 [] (.sil 3 [] (.sil 4 [9] (.sil 5 [] (.sil 6 [] (.sil 7 [] (.sil 8 [] (.act 9 (.sil 10 [] (.act 11 (.done))))))))))))),(4,.sil 0 [] (.sil 1 [] (.sil 2 [] (.sil 3 [] (.sil 4 [11] (.sil 5 [] (.sil 6 [] (.sil 7 [] (.sil 8 [] (.sil 9 [] (.sil 10 [] (.act 11 (.act 12 (.sil 13 [] (.sil 14 [] (.act 15 (.done)))))))))))))))))],[],[]⟩
theorem R.z168 {a:Option Addr} {b:Int} {w:World} {K:Value→World→Prop} (h:C.z168 a b w K):Cv F.z168 #[.pointer a,.int .i64 b] w K:=
 RR (an:=An.z168) Go.Proofs.Tryz.func199 (by kernel_rfl) (by kernel_rfl) h
def C.z165 (a:Option Addr) (b:Int) (w:World) (K:Value→World→Prop):Prop:=
 ∃ c,a=some c∧
 Es fun d e f=>
 w.drew.cell? (c.add 1)=some (.slice d e f)∧
 Iq d (b) e fun g=>
 ∃ (i:Option Addr),
 w.drew.cell? (g.add (b.toNat * 1))=some (.pointer i)∧
 ∃ j,a=some j∧
 Es fun k l m=>
 w.drew.cell? (j.add 1)=some (.slice k l m)∧
 Iq k (IntKind.i64.wrap (b+(1:Int))) l fun n=>
 ∃ (o:Option Addr),
 w.drew.cell? (n.add ((IntKind.i64.wrap (b+(1:Int))).toNat * 1))=some (.pointer o)∧
 ∃ p,i=some p∧
 ∃ q,i=some q∧
 Es fun r s t=>
 w.drew.drew.cell? ((q.add 0).add 0)=some (.slice r s t)∧
 ∃ u,a=some u∧
 Cv F.z180 #[.pointer (some (u.add 0)),.int .i64 b] w.drew.drew (fun v x=>
 ∃ (y:ByteArray) (z:ByteArray),
 v = .agg #[.string y,.string z]∧
 x.cell? ((q.add 0).add 0)=some (.slice r s t)∧
 Cv F.z179 #[.pointer (some (p.add 0)),.int .i64 ((s:Nat):Int),.agg #[.string y,.string z]] x (fun a0 b0=>
 a0 = .tuple #[]∧
 ∃ c0,i=some c0∧
 Es fun d0 e0 f0=>
 b0.drew.cell? ((c0.add 0).add 0)=some (.slice d0 e0 f0)∧
 ∃ g0,o=some g0∧
 Es fun h0 i0 j0=>
 b0.drew.cell? ((g0.add 0).add 0)=some (.slice h0 i0 j0)∧
 BuiltV prog .append #[T.s_tree_entry_string,T.s_tree_entry_string] T.s_tree_entry_string #[.slice d0 e0 f0,.slice h0 i0 j0] b0.drew (fun k0 l0=>
 Es fun m0 n0 o0=>
 k0 = .slice m0 n0 o0∧
 ∃ p0,i=some p0∧
 CanSt l0 ((p0.add 0).add 0)∧∀ q0,q0=l0.setCell ((p0.add 0).add 0) (.slice m0 n0 o0)→
 ∃ r0,i=some r0∧
 Es fun s0 t0 u0=>
 q0.drew.cell? (r0.add 1)=some (.slice s0 t0 u0)∧
 ∃ v0,o=some v0∧
 Es fun w0 x0 y0=>
 q0.drew.cell? (v0.add 1)=some (.slice w0 x0 y0)∧
 BuiltV prog .append #[T.s_p_tree_page_string,T.s_p_tree_page_string] T.s_p_tree_page_string #[.slice s0 t0 u0,.slice w0 x0 y0] q0.drew (fun z0 a1=>
 Es fun b1 c1 d1=>
 z0 = .slice b1 c1 d1∧
 ∃ e1,i=some e1∧
 CanSt a1 (e1.add 1)∧∀ f1,f1=a1.setCell (e1.add 1) (.slice b1 c1 d1)→
 ∃ g1,a=some g1∧
 Es fun h1 i1 j1=>
 f1.cell? (g1.add 1)=some (.slice h1 i1 j1)∧
 Cv F.z101 #[.slice h1 i1 j1,.int .i64 (IntKind.i64.wrap (b+(1:Int))),.int .i64 (IntKind.i64.wrap (b+(2:Int)))] f1 (fun k1 l1=>
 Es fun m1 n1 o1=>
 k1 = .slice m1 n1 o1∧
 ∃ p1,a=some p1∧
 CanSt l1 (p1.add 1)∧∀ q1,q1=l1.setCell (p1.add 1) (.slice m1 n1 o1)→
 K (.tuple #[]) q1)))))
def An.z165:Ann:=⟨[(0,.sil 0 [] (.sil 1 [] (.sil 2 [] (.sil 3 [] (.sil 4 [] (.sil 5 [] (.sil 6 [] (.sil 7 [] (.sil 8 [] (.sil 9 [] (.sil 10 [] (.sil 11 [] (.sil 12 [] (.sil 13 [] (.sil 14 [] (.sil 15 [] (.sil 16 [] (.done)))))))))))))))))),(1,.sil 0 [] (.sil 1 [] (.sil 2 [] (.sil 3 [] (.sil 4 [] (.sil 5 [] (.sil 6 [] (.sil 7 [13] (.sil 8 [] (.sil 9 [] (.sil 10 [] (.sil 11 [] (.sil 12 [] (.act 13 (.act 14 (.done)))))))))))))))),(2,.sil 0 [] (.sil 1 [] (.sil 2 [] (.sil 3 [] (.sil 4 [] (.sil 5 [] (.sil 6 [] (.sil 7 [] (.sil 8 [] (.sil 9 [] (.sil 10 [] (.act 11 (.sil 12 [] (.sil 13 [] (.sil 14 [] (.act 15 (.done))))))))))))))))),(3,.sil 0 [] (.sil 1 [] (.sil 2 [] (.sil 3 [] (.sil 4 [] (.sil 5 [] (.sil 6 [] (.sil 7 [] (.sil 8 [] (.act 9 (.sil 10 [] (.sil 11 [] (.act 12 (.done))))))))))))))],[],[]⟩
theorem R.z165 {a:Option Addr} {b:Int} {w:World} {K:Value→World→Prop} (h:C.z165 a b w K):Cv F.z165 #[.pointer a,.int .i64 b] w K:=
 RR (an:=An.z165) Go.Proofs.Tryz.func200 (by kernel_rfl) (by kernel_rfl) h
def C.z53 (a:Int) (b:Int) (w:World) (K:Value→World→Prop):Prop:=
 ifB (b == (0:Int)) (
 K (.tuple #[.int .i64 0,.int .i64 0,.int .i64 3]) w) (
 ifB (b == (-1)) (
 Cv F.z52 #[.int .i64 a] w (fun c d=>
 ∃ (e:Int) (f:Int),
 c = .tuple #[.int .i64 e,.int .i64 f]∧
 K (.tuple #[.int .i64 e,.int .i64 0,.int .i64 f]) d)) (
 b≠0∧
 b≠0∧
 ifB ((Int.tmod a b) != (0:Int)) (
 ifB (!((decide ((Int.tmod a b) < (0:Int))) == (decide (b < (0:Int))))) (
 K (.tuple #[.int .i64 (IntKind.i64.wrap ((IntKind.i64.wrap (Int.tdiv a b)) - (1:Int))),.int .i64 (IntKind.i64.wrap ((Int.tmod a b)+b)),.int .i64 0]) w.drew) (
 K (.tuple #[.int .i64 (IntKind.i64.wrap (Int.tdiv a b)),.int .i64 (Int.tmod a b),.int .i64 0]) w.drew)) (
 K (.tuple #[.int .i64 (IntKind.i64.wrap (Int.tdiv a b)),.int .i64 (Int.tmod a b),.int .i64 0]) w.drew)))
def An.z53:Ann:=⟨[(6,.sil 0 [] (.sil 1 [] (.sil 2 [] (.sil 3 [] (.sil 4 [] (.sil 5 [] (.sil 6 [] (.sil 7 [] (.done)))))))))],[],[]⟩
theorem R.z53 {a:Int} {b:Int} {w:World} {K:Value→World→Prop} (h:C.z53 a b w K):Cv F.z53 #[.int .i64 a,.int .i64 b] w K:=
 RR (an:=An.z53) Go.Proofs.Tryz.func207 (by kernel_rfl) (by kernel_rfl) h
def C.z103 (a:Option Addr) (b c:Nat) (f1f:Nat) (d:Array Value) (w:World) (K:Value→World→Prop):Prop:=
 ∃ (e:Int→World→Prop) (f:Int→World→Nat),
 e 0 w∧
 ∀ (g:Int) i,e g i→
 ifB (decide (g < ((b:Nat):Int))) (
 Iq a (g) b fun j=>
 ∃ (k:Int) (l:Int) (m:ByteArray),
 cellsAt i (j.add (g.toNat * 3)) 0 [.int .i64 k,.int .i64 l,.string m]∧
 CallsV prog f1f (#[]++#[.agg #[.int .i64 k,.int .i64 l,.string m]]++d) i (fun n o=>
 ∃ (p:Bool),
 n = .bool p∧
 ifB p (
 K (.int .i64 g) o) (
 e (IntKind.i64.wrap (g+(1:Int))) o∧f (IntKind.i64.wrap (g+(1:Int))) o < f g i))) (
 K (.int .i64 (-1)) i)
def An.z103:Ann:=⟨[],[(2,[(8,3)],[0,1,7])],[]⟩
theorem R.z103 {a:Option Addr} {b c:Nat} {f1f:Nat} {d:Array Value} {w:World} {K:Value→World→Prop} (h:C.z103 a b c f1f d w K):Cv F.z103 #[.slice a b c,.func (.func f1f) #[] d] w K:=
 RR (an:=An.z103) Go.Proofs.Tryz.func208 (by kernel_rfl) (by kernel_rfl) h
def C.z100 (a:Option Addr) (b c:Nat) (d:Int) (e:Int) (w:World) (K:Value→World→Prop):Prop:=
 0≤((b:Nat):Int)∧((b:Nat):Int)≤((c:Nat):Int)∧
 0≤e∧e≤((((b:Nat):Int).toNat:Nat):Int)∧
 0≤d∧d≤((e.toNat:Nat):Int)∧
 ifB (d == e) (
 K (.slice a b c) w) (
 0≤d∧d≤((c:Nat):Int)∧
 0≤e∧e≤((b:Nat):Int)∧
 BuiltV prog .append #[T.s_p_tree_page_s_afflux_api_Value,T.s_p_tree_page_s_afflux_api_Value] T.s_p_tree_page_s_afflux_api_Value #[.slice (cutAt a 0 c 1) (d.toNat - 0) (c - 0),.slice (cutAt a e.toNat c 1) (b - e.toNat) (c - e.toNat)] w.drew (fun f g=>
 Es fun i j k=>
 f = .slice i j k∧
 0≤((b:Nat):Int)∧((b:Nat):Int)≤((k:Nat):Int)∧
 0≤((j:Nat):Int)∧((j:Nat):Int)≤((((b:Nat):Int).toNat:Nat):Int)∧
 BuiltV prog .clear #[T.s_p_tree_page_s_afflux_api_Value] T.unit #[.slice (cutAt i (((j:Nat):Int).toNat) k 1) ((((b:Nat):Int).toNat) - (((j:Nat):Int).toNat)) (k - (((j:Nat):Int).toNat))] g (fun l m=>
 K (.slice i j k) m)))
def An.z100:Ann:=⟨[(5,.sil 0 [] (.sil 1 [] (.sil 2 [] (.sil 3 [] (.sil 4 [] (.sil 5 [] (.act 6 (.sil 7 [] (.done)))))))))],[],[]⟩
theorem R.z100 {a:Option Addr} {b c:Nat} {d:Int} {e:Int} {w:World} {K:Value→World→Prop} (h:C.z100 a b c d e w K):Cv F.z100 #[.slice a b c,.int .i64 d,.int .i64 e] w K:=
 RR (an:=An.z100) Go.Proofs.Tryz.func210 (by kernel_rfl) (by kernel_rfl) h
def C.z101 (a:Option Addr) (b c:Nat) (d:Int) (e:Int) (w:World) (K:Value→World→Prop):Prop:=
 0≤((b:Nat):Int)∧((b:Nat):Int)≤((c:Nat):Int)∧
 0≤e∧e≤((((b:Nat):Int).toNat:Nat):Int)∧
 0≤d∧d≤((e.toNat:Nat):Int)∧
 ifB (d == e) (
 K (.slice a b c) w) (
 0≤d∧d≤((c:Nat):Int)∧
 0≤e∧e≤((b:Nat):Int)∧
 BuiltV prog .append #[T.s_p_tree_page_string,T.s_p_tree_page_string] T.s_p_tree_page_string #[.slice (cutAt a 0 c 1) (d.toNat - 0) (c - 0),.slice (cutAt a e.toNat c 1) (b - e.toNat) (c - e.toNat)] w.drew (fun f g=>
 Es fun i j k=>
 f = .slice i j k∧
 0≤((b:Nat):Int)∧((b:Nat):Int)≤((k:Nat):Int)∧
 0≤((j:Nat):Int)∧((j:Nat):Int)≤((((b:Nat):Int).toNat:Nat):Int)∧
 BuiltV prog .clear #[T.s_p_tree_page_string] T.unit #[.slice (cutAt i (((j:Nat):Int).toNat) k 1) ((((b:Nat):Int).toNat) - (((j:Nat):Int).toNat)) (k - (((j:Nat):Int).toNat))] g (fun l m=>
 K (.slice i j k) m)))
def An.z101:Ann:=⟨[(5,.sil 0 [] (.sil 1 [] (.sil 2 [] (.sil 3 [] (.sil 4 [] (.sil 5 [] (.act 6 (.sil 7 [] (.done)))))))))],[],[]⟩
theorem R.z101 {a:Option Addr} {b c:Nat} {d:Int} {e:Int} {w:World} {K:Value→World→Prop} (h:C.z101 a b c d e w K):Cv F.z101 #[.slice a b c,.int .i64 d,.int .i64 e] w K:=
 RR (an:=An.z101) Go.Proofs.Tryz.func211 (by kernel_rfl) (by kernel_rfl) h
end Go.Proofs.YtjcgociobhhijaaGreatDoor
namespace Go.Proofs.YtjcgociobhhijaaGreatDoor
open Go SX
end Go.Proofs.YtjcgociobhhijaaGreatDoor
namespace Go.Proofs.YtjcgociobhhijaaGreatDoor
open Go SX Bt
namespace Ts
def IsV (v:Value):Prop:=∃ s:ByteArray,v = .string s
abbrev TT:Tys:=⟨T.tree_page_string,T.tree_entry_string,T.p_tree_page_string,by decide,by decide,by decide⟩
theorem sent:SliceT prog T.s_tree_entry_string T.tree_entry_string 2 32 [.string ByteArray.empty,.string ByteArray.empty]:=SliceT.of_tab (ti:=ti177) (te:=ti184) tabOK (by kernel_rfl) (by kernel_rfl) (by kernel_rfl) (by kernel_rfl)
theorem sptr:SliceT prog T.s_p_tree_page_string T.p_tree_page_string 1 8 [.pointer none]:=SliceT.of_tab (ti:=ti180) (te:=ti172) tabOK (by kernel_rfl) (by kernel_rfl) (by kernel_rfl) (by kernel_rfl)
theorem eent:ElemT prog T.tree_entry_string 2 32 [.string ByteArray.empty,.string ByteArray.empty] Tryz.t184 (.agg #[.string ByteArray.empty,.string ByteArray.empty]):=⟨by kernel_rfl,by kernel_rfl,by kernel_rfl,by kernel_rfl,rfl⟩
theorem eptr:ElemT prog T.p_tree_page_string 1 8 [.pointer none] Tryz.t172 (.pointer none):=⟨by kernel_rfl,by kernel_rfl,by kernel_rfl,by kernel_rfl,rfl⟩
theorem tint:prog.underlying T.int=some (.int .i64):=by kernel_rfl
theorem ov_ent {w:World} (args:Array Value) (v:Value) (K:Value→World→Prop) (h:(Extern.SlicesOverlaps.overlaps #[T.s_tree_entry_string,T.s_tree_entry_string] #[T.bool] args).run prog w = .ok v w) (hK:K v w):CallsV prog F.z110 args w K:=by
 unfold CallsV Yield
 rw [run_callFunc_extern Tryz.func204 (by kernel_rfl) (by kernel_rfl) (by kernel_rfl) (e:=Extern.SlicesOverlaps.overlaps #[T.s_tree_entry_string,T.s_tree_entry_string] #[T.bool]) (by kernel_rfl),h]
 exact hK
theorem ov_ptr {w:World} (args:Array Value) (v:Value) (K:Value→World→Prop) (h:(Extern.SlicesOverlaps.overlaps #[T.s_p_tree_page_string,T.s_p_tree_page_string] #[T.bool] args).run prog w = .ok v w) (hK:K v w):CallsV prog F.z112 args w K:=by
 unfold CallsV Yield
 rw [run_callFunc_extern Tryz.func187 (by kernel_rfl) (by kernel_rfl) (by kernel_rfl) (e:=Extern.SlicesOverlaps.overlaps #[T.s_p_tree_page_string,T.s_p_tree_page_string] #[T.bool]) (by kernel_rfl),h]
 exact hK
section
variable {w:World} {K:Value→World→Prop} {r:Rec} {k:ByteArray} {i:Nat}
theorem one_of {v:Value} (h:IsV v):v.oneCell'=true:=by
 obtain ⟨vs,rfl⟩:=h
 rfl
theorem sins_ent {p:Option Addr} {n c b:Nat} {xs ys:List Value} {w0:World} (hN:New w0 (.cells ys.toArray T.tree_entry_string) b w) (ho:OwnW w0 T.tree_entry_string 2 p n c xs) (hy:ys.length=2) (h1:∀ v∈ys,v.oneCell'=true) (hi:i≤n) (hn:n≤1000000)
  (hK:∀ p' c' w',OwnW w' T.tree_entry_string 2 p' (n+1) c' (xs.take (i * 2)++ys++xs.drop (i * 2))→Upd (Fp p c) w w'→(∀ k,Fp p' c' k→Fp p c k∨w.heap.size≤k)→K (.slice p' (n+1) c') w'):Cv F.z106 #[.slice p n c,.int .i64 (i:Int),.slice (some (Addr.mk b 0 none)) 1 1] w K:=
 R.z106 (by
  unfold C.z106
  exact G.insertW (K:=K) (ti:=T.int) (tR:=T.bool) sent eent tint (by decide) (by decide) hN ho hy h1 hi hn (by omega) (fun args v K=>ov_ent args v K) hK)
theorem sins_ptr {p:Option Addr} {n c b:Nat} {xs ys:List Value} {w0:World} (hN:New w0 (.cells ys.toArray T.p_tree_page_string) b w) (ho:OwnW w0 T.p_tree_page_string 1 p n c xs) (hy:ys.length=1) (h1:∀ v∈ys,v.oneCell'=true) (hi:i≤n) (hn:n≤1000000)
  (hK:∀ p' c' w',OwnW w' T.p_tree_page_string 1 p' (n+1) c' (xs.take (i * 1)++ys++xs.drop (i * 1))→Upd (Fp p c) w w'→(∀ k,Fp p' c' k→Fp p c k∨w.heap.size≤k)→K (.slice p' (n+1) c') w'):Cv F.z108 #[.slice p n c,.int .i64 (i:Int),.slice (some (Addr.mk b 0 none)) 1 1] w K:=
 R.z108 (by
  unfold C.z108
  exact G.insertW (K:=K) (ti:=T.int) (tR:=T.bool) sptr eptr tint (by decide) (by decide) hN ho hy h1 hi hn (by omega) (fun args v K=>ov_ptr args v K) hK)
theorem sdel_ent {p:Option Addr} {n c i j:Nat} {xs:List Value} (ho:OwnW w T.tree_entry_string 2 p n c xs) (hij:i≤j) (hjn:j≤n) (hn:n≤1000000)
  (hK:∀ w',OwnW w' T.tree_entry_string 2 p (n - (j - i)) c (xs.take (i * 2)++xs.drop (j * 2))→Upd (Fp p c) w w'→K (.slice p (n - (j - i)) c) w'):Cv F.z99 #[.slice p n c,.int .i64 (i:Int),.int .i64 (j:Int)] w K:=
 R.z99 (by
  unfold C.z99
  exact G.deleteW (K:=K) sent (by decide) ho hij hjn (by omega) hK)
theorem sdel_ptr {p:Option Addr} {n c i j:Nat} {xs:List Value} (ho:OwnW w T.p_tree_page_string 1 p n c xs) (hij:i≤j) (hjn:j≤n) (hn:n≤1000000)
  (hK:∀ w',OwnW w' T.p_tree_page_string 1 p (n - (j - i)) c (xs.take (i * 1)++xs.drop (j * 1))→Upd (Fp p c) w w'→K (.slice p (n - (j - i)) c) w'):Cv F.z101 #[.slice p n c,.int .i64 (i:Int),.int .i64 (j:Int)] w K:=
 R.z101 (by
  unfold C.z101
  exact G.deleteW (K:=K) sptr (by decide) ho hij hjn (by omega) hK)
theorem insert_spec {v:Value} (h:RecAt TT w r) (hv:IsV v) (hi:i≤r.es.length) (hn:r.es.length≤1000)
  (hK:∀ ep ec w',Mv TT w w' [r] [{ r with es:=r.es.take i++(k,v) :: r.es.drop i,ep:=ep,ec:=ec }]→K (.tuple #[]) w'):Cv F.z179 #[.pointer (some ⟨r.a,0,none⟩),.int .i64 (i:Int),.agg #[.string k,v]] w K:=by
 obtain ⟨vs,rfl⟩:=hv
 exact R.z179 (by
  unfold C.z179
  refine New.use (by simp [Value.oneCell']) fun b1 w1 hb1 hu1 hge1 _=>?_
  have hu1d:Upd Nothing w w1.drew:=hu1.then (Upd.drew _ _)
  have h1:RecAt TT w1.drew r:=h.upd hu1d fun _ _ f=>f
  refine ⟨_,rfl,_,_,_,h1.1.cell (i:=0) rfl,_,_,⟨hb1.drew.cell (i:=0) rfl,hb1.drew.cell (i:=1) rfl,trivial⟩,?_⟩
  intro b2 w2 hN
  have hu2:Upd Nothing w1.drew w2:=Upd.new hN
  have h2:=h1.upd hu2 fun _ _ f=>f
  refine ⟨h2.1.cell (i:=0) rfl,sins_ent (ys:=[.string k,.string vs]) hN h1.2.1 rfl (by simp [Value.oneCell']) hi (by omega) fun p' c' w3 ho3 hu3 hf3=>⟨_,_,_,rfl,_,rfl,?_⟩⟩
  have hn3:∀ k,Fp r.ep r.ec k→k≠r.a:=fun k hk=>h.ae h hk
  have hb3:=hu3.blk h2.1 fun hk=>hn3 _ hk rfl
  refine hb3.store (i:=0) (by simp) rfl fun w4 hb4 hu4 _=>?_
  have hlen:(r.es.take i++(k,.string vs) :: r.es.drop i).length=r.es.length+1:=by simp; omega
  have hu02:Upd Nothing w w2:=hu1d.then hu2
  have hsz:=hu02.size
  have hne3:∀ k,Fp p' c' k→¬ One r.a k:=fun k hk e=>by
   obtain ⟨l,hb⟩:=ho3.blk hk
   have e':k=r.a:=e
   subst e'
   exact TT.h1 (hb3.same hb).2
  refine hK p' c' w4 (Mv.step h ⟨?_,?_,?_⟩ ?_ fun k hk=>?_)
  ·show Blk w4 r.a [.slice p' (r.es.take i++(k,.string vs) :: r.es.drop i).length c',_] _
   rw [hlen]
   exact hb4
  ·show OwnW w4 _ 2 p' (r.es.take i++(k,.string vs) :: r.es.drop i).length c' _
   rw [hlen,ecells_app,← ecells_take]
   have he:ecells ((k,.string vs) :: r.es.drop i)=[.string k,.string vs]++(ecells r.es).drop (i * 2):=by rw [ecells_drop]; rfl
   rw [he,← List.append_assoc]
   exact ho3.upd hu4 hne3
  ·exact ((h.2.2.upd0 hu02).upd hu3 fun k hk hk'=>h.eb h hk' hk).upd hu4 fun k hk e=>h.ab h hk e
  ·exact (hu02.mono fun _ _ f=>f.elim).trans (hu3.then' hu4) (fun _ _ h=>h) fun k _ hk=>hk.elim (fun h=>.inr (.inl h)) fun h=>.inl h
  ·rcases hk with hk | hk | hk
   ·exact .inl (.inl hk)
   ·rcases hf3 k hk with h | h
    ·exact .inl (.inr (.inl h))
    ·exact .inr (by omega)
   ·exact .inl (.inr (.inr hk)))
theorem remove_spec {v:Value} {es1 es2:List Ent} (h:RecAt TT w r) (he:r.es=es1++(k,v) :: es2) (hv:IsV v) (hi:es1.length=i) (hn:r.es.length≤1000)
  (hK:∀ w',Mv TT w w' [r] [{ r with es:=es1++es2 }]→K (.agg #[.string k,v]) w'):Cv F.z180 #[.pointer (some ⟨r.a,0,none⟩),.int .i64 (i:Int)] w K:=by
 obtain ⟨vs,rfl⟩:=hv
 subst hi
 exact R.z180 (by
  unfold C.z180
  have hlen:r.es.length=es1.length+1+es2.length:=by rw [he]; simp; omega
  refine New.use (by simp [Value.oneCell']) fun b1 w1 hb1 hu1 hge1 _=>?_
  have h1:RecAt TT w1 r:=h.upd hu1 fun _ _ f=>f
  have hat:=h1.2.1.at
  rw [he] at hat
  obtain ⟨a,ha,hc⟩:=At.pair hat (ecells_mid es1 es2 k (.string vs)).1 (ecells_mid es1 es2 k (.string vs)).2
  refine ⟨_,rfl,_,_,_,h1.1.cell (i:=0) rfl,a,ha,by omega,by omega,_,_,by simpa using hc,New.use (by simp [Value.oneCell']) fun b2 w2 hb2 hu2 hge2 _=>Blk.set2 hb2 rfl rfl fun w4 hb4 hu4=>?_⟩
  have hu14:Upd Nothing w1 w4:=hu2.fresh hu4 fun i hi=>by rw [show i=b2 from hi]; exact hge2
  have h4:RecAt TT w4 r:=h1.upd hu14 fun _ _ f=>f
  have hw1:IntKind.i64.wrap ((es1.length:Int)+1)=((es1.length+1:Nat):Int):=by rw [i64_wrap (by omega) (by omega)]; omega
  rw [hw1]
  refine ⟨_,rfl,_,_,_,h4.1.cell (i:=0) rfl,sdel_ent h4.2.1 (by omega) (by omega) (by omega) fun w5 ho5 hu5=>⟨_,_,_,rfl,_,rfl,?_⟩⟩
  have hn5:∀ k,Fp r.ep r.ec k→k≠r.a:=fun k hk=>h.ae h hk
  have hb5:=hu5.blk h4.1 fun hk=>hn5 _ hk rfl
  have hu04:Upd Nothing w w4:=hu1.then hu14
  refine hb5.store (i:=0) (by simp) rfl fun w6 hb6 hu6 _=>?_
  have hb1lt:=hb1.lt
  have halt:=h.1.lt
  have hnb:∀ b,w.heap.size≤b→¬ Fp r.ep r.ec b∧¬ One r.a b:=fun b hb=>⟨fun hk=>by have:=h.2.1.lt hk; omega,fun e=>by have e':b=r.a:=e; omega⟩
  have hsz1:=hu1.size
  have hb26:Blk w6 b2 _ _:=hu6.blk (hu5.blk hb4 (hnb b2 (by omega)).1) (hnb b2 (by omega)).2
  have hb16:Blk w6 b1 _ _:=hu6.blk (hu5.blk (hu14.blk hb1 fun f=>f) (hnb b1 (by omega)).1) (hnb b1 (by omega)).2
  refine ⟨_,_,⟨hb26.cell (i:=0) rfl,hb26.cell (i:=1) rfl,trivial⟩,Blk.set2 hb16 rfl rfl fun w8 hb8 hu8=>⟨_,_,⟨hb8.cell (i:=0) rfl,hb8.cell (i:=1) rfl,trivial⟩,?_⟩⟩
  have hlen':r.es.length - (es1.length+1 - es1.length)=(es1++es2).length:=by rw [hlen,List.length_append]; omega
  have htd:(ecells r.es).take (es1.length * 2)++(ecells r.es).drop ((es1.length+1) * 2)=ecells (es1++es2):=by
   rw [ecells_take,ecells_drop,he,ecells_app]
   congr 2
   ·simp
   ·rw [← List.drop_drop]; simp
  rw [hlen'] at ho5 hb6
  rw [htd] at ho5
  have hu06:Upd (FP r) w w6:=(hu04.mono fun _ _ f=>f.elim).trans (hu5.then' hu6) (fun _ _ h=>h) fun k _ hk=>hk.elim (fun h=>.inr (.inl h)) fun h=>.inl h
  have h6:RecAt TT w6 { r with es:=es1++es2 }:=by
   refine ⟨hb6,ho5.upd hu6 fun k hk e=>?_,?_⟩
   ·exact hn5 k hk e
   ·exact ((h.2.2.upd0 hu04).upd hu5 fun k hk hk'=>h.eb h hk' hk).upd hu6 fun k hk e=>h.ab h hk e
  have hmv:Mv TT w w6 [r] [{ r with es:=es1++es2 }]:=Mv.step h h6 hu06 fun k hk=>.inl hk
  refine hK w8 ⟨hmv.rs.upd hu8 fun k hk e=>?_,hmv.upd.fresh hu8 fun i hi=>by rw [show i=b1 from hi]; exact hge1,hmv.fresh⟩
  have e':k=b1:=e
  have:=(FPs.one.1 hk)
  have h7:FP r k:=this
  have:=h.lt h7
  omega)
theorem half {a b:Nat} (ha:a≤100000) (hb:b≤100000):IntKind.i64.wrap (Int.fdiv (IntKind.u64.wrap (IntKind.i64.wrap ((a:Int)+(b:Int)))) (2 ^ (min (1:Int).toNat IntKind.u64.bits)))=(((a+b) / 2:Nat):Int):=by
 have e1:IntKind.i64.wrap ((a:Int)+(b:Int))=((a+b:Nat):Int):=by rw [i64_wrap (by omega) (by omega)]; omega
 have e2:IntKind.u64.wrap ((a+b:Nat):Int)=((a+b:Nat):Int):=by simp [IntKind.wrap,IntKind.signed,IntKind.bits]; omega
 have e3:(2:Int) ^ (min (1:Int).toNat IntKind.u64.bits)=2:=by decide
 rw [e1,e2,e3,Int.fdiv_eq_ediv_of_nonneg _ (by omega),i64_wrap (by omega) (by omega)]
 omega
theorem cmp_spec {e k:ByteArray} {v:Value} (hv:IsV v) (hK:∀ (c:Int) w',(c < 0↔sLt e k=true)→(c=0↔e=k)→Upd Nothing w w'→K (.int .i64 c) w'):Cv F.z178 #[.agg #[.string e,v],.string k] w K:=by
 obtain ⟨vs,rfl⟩:=hv
 exact R.z178 (by
  unfold C.z178
  refine New.use (by simp [Value.oneCell']) fun b1 w1 hb1 hu1 hge1 _=>⟨_,hb1.cell (i:=0) rfl,ifB_mk (fun h=>hK _ _ ⟨fun _=>h,fun _=>by decide⟩ ⟨fun h=>(by cases h),fun e=>?_⟩ hu1) (fun h=>⟨_,hb1.cell (i:=0) rfl,ifB_mk (fun h2=>hK _ _ ⟨fun h=>absurd h (by decide),fun h'=>?_⟩ ⟨fun h=>(by cases h),fun e=>?_⟩ hu1) (fun h2=>hK _ _ ⟨fun h=>absurd h (by decide),fun h'=>?_⟩ ⟨fun _=>?_,fun _=>rfl⟩ hu1)⟩)⟩
  ·subst e; rw [sLt_irrefl] at h; cases h
  ·rw [h'] at h; cases h
  ·subst e; rw [sEq_self] at h2; simp at h2
  ·rw [h'] at h; cases h
  ·rw [h] at h2
   exact sEq_iff.1 (by simpa using h2))
theorem find_spec (h:RecAt TT w r) (hs:Srt r.es) (hV:∀ e∈r.es,IsV e.2) (hn:r.es.length≤1000)
  (hK:∀ (i:Nat) (ok:Bool) w',(ok=true→∃ u,IsV u∧FindT r.es k i u)→(ok=false→FindF r.es k i)→Upd Nothing w w'→K (.tuple #[.int .i64 (i:Int),.bool ok]) w'):Cv F.z177 #[.pointer (some ⟨r.a,0,none⟩),.string k] w K:=
 R.z177 (by
  unfold C.z177
  refine ⟨_,rfl,_,_,_,h.1.cell (i:=0) rfl,R.z87 (by
   unfold C.z87
   refine ⟨fun i j w'=>∃ a b:Nat,i=a∧j=b∧a≤b∧b≤r.es.length∧Lo k (r.es.take a)∧(∀ x (hx:x < r.es.length),b≤x→sLt r.es[x].1 k=false)∧Upd Nothing w w',fun i j _=>j.toNat - i.toNat,⟨0,_,rfl,rfl,by omega,Nat.le_refl _,fun e he=>by simp at he,fun x hx hb=>by omega,Upd.refl _ _⟩,?_⟩
   rintro i j w1 ⟨a,b,rfl,rfl,hab,hb,hlo,hhi,hu⟩
   have h1:=h.upd hu fun _ _ f=>f
   have hcell:∀ x (hx:x < r.es.length),∃ c,r.ep=some c∧SX.cellsAt w1 (c.add (x * 2)) 0 [.string r.es[x].1,r.es[x].2]:=fun x hx=>At.pair h1.2.1.at (ecells_get0 hx).1 (ecells_get0 hx).2
   refine ifB_mk (fun h2=>?_) (fun h2=>?_)
   ·have hlt:a < b:=by have:=of_decide_eq_true h2; omega
    rw [half (by omega) (by omega)]
    have hm:(a+b) / 2 < r.es.length:=by omega
    obtain ⟨c,hc,hcc⟩:=hcell _ hm
    have hv:=hV _ (List.getElem_mem hm)
    generalize hE:r.es[(a+b) / 2]=E at hcc hv
    obtain ⟨ek,ev⟩:=E
    simp only at hcc hv
    have hv':=hv
    obtain ⟨vs,rfl⟩:=hv
    refine ⟨by omega,c,hc,by omega,by omega,_,_,hcc,cmp_spec hv' fun cc w2 c1 c2 hu2=>⟨cc,rfl,ifB_mk (fun h3=>?_) (fun h3=>?_)⟩⟩
    ·have hlt':sLt ek k=true:=c1.1 (of_decide_eq_true h3)
     have hw:IntKind.i64.wrap ((((a+b) / 2:Nat):Int)+1)=(((a+b) / 2+1:Nat):Int):=by rw [i64_wrap (by omega) (by omega)]; omega
     rw [hw]
     refine ⟨⟨_,b,rfl,rfl,by omega,hb,fun e he=>?_,hhi,hu.then hu2⟩,by show b - _ < b - _; omega⟩
     rw [List.mem_take_iff_getElem] at he
     obtain ⟨x,hx,rfl⟩:=he
     by_cases hxm:x=(a+b) / 2
     ·subst hxm; rw [hE]; exact hlt'
     ·have hxl:x < (a+b) / 2:=by omega
      have:=List.pairwise_iff_getElem.1 hs x ((a+b) / 2) (by omega) hm hxl
      rw [hE] at this
      exact sLt_trans this hlt'
    ·have hge:sLt ek k=false:=by
      cases hh:sLt ek k with
      | false=>rfl
      | true=>exact absurd (c1.2 hh) (of_decide_eq_false h3)
     refine ⟨⟨a,_,rfl,rfl,by omega,by omega,hlo,fun x hx hbx=>?_,hu.then hu2⟩,by show _ - a < b - a; omega⟩
     by_cases hxm:x=(a+b) / 2
     ·subst hxm; rw [hE]; exact hge
     ·cases hh:sLt r.es[x].1 k with
      | false=>rfl
      | true=>
       have:=List.pairwise_iff_getElem.1 hs ((a+b) / 2) x hm hx (by omega)
       rw [hE] at this
       rw [sLt_trans this hh] at hge
       cases hge
   ·have hab':a=b:=by have:=of_decide_eq_false h2; omega
    subst hab'
    have hfin:=find_at hs hb hlo fun hx=>hhi a hx (Nat.le_refl _)
    refine ifB_mk (fun h3=>?_) (fun h3=>?_)
    ·have hm:a < r.es.length:=by have:=of_decide_eq_true h3; omega
     obtain ⟨c,hc,hcc⟩:=hcell _ hm
     have hv:=hV _ (List.getElem_mem hm)
     generalize hE:r.es[a]=E at hcc hv
     obtain ⟨ek,ev⟩:=E
     simp only at hcc hv
     have hv':=hv
     have hv'':=hv
     obtain ⟨vs,rfl⟩:=hv
     refine ⟨c,hc,by omega,by omega,_,_,hcc,cmp_spec hv' fun cc w2 c1 c2 hu2=>⟨cc,rfl,_,_,rfl,hK a _ _ (fun hok=>?_) (fun hok=>?_) (hu.then hu2)⟩⟩
     ·have hek:ek=k:=c2.1 (by simpa using hok)
      rcases hfin with ⟨_,_,hf⟩ | ⟨hne,_⟩
      ·rw [hE] at hf
       exact ⟨_,hv'',hf⟩
      ·have:=hne hm
       rw [hE] at this
       exact absurd hek this
     ·have hek:ek≠k:=fun e=>by rw [c2.2 e] at hok; cases hok
      rcases hfin with ⟨_,he,_⟩ | ⟨_,hf⟩
      ·rw [hE] at he
       exact absurd he hek
      ·exact hf
    ·have hm:¬ a < r.es.length:=by have:=of_decide_eq_false h3; omega
     refine ⟨_,_,rfl,hK a false _ (fun h=>by cases h) (fun _=>?_) hu⟩
     rcases hfin with ⟨h,_⟩ | ⟨_,hf⟩
     ·exact absurd h hm
     ·exact hf)⟩)
theorem leaf_spec (h:RecAt TT w r) (hK:K (.bool (decide (r.bs.length=0))) w):Cv F.z167 #[.pointer (some ⟨r.a,0,none⟩)] w K:=
 R.z167 (by
  unfold C.z167
  refine ⟨_,rfl,_,_,_,h.1.cell (i:=1) rfl,?_⟩
  have:(((r.bs.length:Nat):Int) == (0:Int))=decide (r.bs.length=0):=by
   rw [Bool.eq_iff_iff]
   simp
  rw [this]
  exact hK)
end
end Ts
end Go.Proofs.YtjcgociobhhijaaGreatDoor
namespace Go.Proofs.YtjcgociobhhijaaGreatDoor
open Go SX Bt
namespace Ts
section
variable {w:World} {K:Value→World→Prop} {r c:Rec} {k:ByteArray} {i:Nat}
theorem pcells_len (bs:List Nat):(pcells bs).length=bs.length:=by simp [pcells]
theorem pcells_at {bs1 bs2:List Nat} {a:Nat}:(pcells (bs1++a :: bs2))[bs1.length * 1]? = some (.pointer (some ⟨a,0,none⟩)):=by simp [pcells]
theorem clone_ent {p:Option Addr} {n d:Nat} {xs:List Value} (hat:At w p xs) (hl:xs.length=n * 2) (h1:∀ v∈xs,v.oneCell'=true) (hn:n≤1000000) (hK:∀ p' c' w',Own w' T.tree_entry_string 2 p' n c' xs→Upd Nothing w w'→(∀ k,Fp p' c' k→w.heap.size≤k)→K (.slice p' n c') w'):Cv F.z93 #[.slice p n d] w K:=
 R.z93 (by
  unfold C.z93
  exact G.clone (K:=K) sent (by decide) (by decide) hat hl h1 (by omega) (fun hp=>by
   rcases Nat.eq_zero_or_pos n with h | h
   ·exact h
   ·obtain ⟨a,h2,_⟩:=hat 0 _ (List.getElem?_eq_getElem (show 0 < xs.length by omega))
    rw [hp] at h2
    cases h2) hK)
theorem clone_ptr {p:Option Addr} {n d:Nat} {xs:List Value} (hat:At w p xs) (hl:xs.length=n * 1) (h1:∀ v∈xs,v.oneCell'=true) (hn:n≤1000000) (hK:∀ p' c' w',Own w' T.p_tree_page_string 1 p' n c' xs→Upd Nothing w w'→(∀ k,Fp p' c' k→w.heap.size≤k)→K (.slice p' n c') w'):Cv F.z95 #[.slice p n d] w K:=
 R.z95 (by
  unfold C.z95
  exact G.clone (K:=K) sptr (by decide) (by decide) hat hl h1 (by omega) (fun hp=>by
   rcases Nat.eq_zero_or_pos n with h | h
   ·exact h
   ·obtain ⟨a,h2,_⟩:=hat 0 _ (List.getElem?_eq_getElem (show 0 < xs.length by omega))
    rw [hp] at h2
    cases h2) hK)
theorem rs_mem {A:List Rec} {r:Rec} (h:RS TT w A) (hr:r∈A):RecAt TT w r:=h.1 r hr
theorem split_end {q : Rec} {es1 es2 A B : List Ent} {m : ByteArray} {v : Value} {bs1 bs2 : List Nat} {w0 : World} {R0 : List Rec} (hmv : Mv TT w0 w R0 [r, c, q]) (hv : IsV v) (he : r.es = es1 ++ es2) (hb : r.bs = bs1 ++ c.a :: bs2) (hi : es1.length = i) (hbi : bs1.length = i) (hn : r.es.length ≤ 100) (hnb : r.bs.length ≤ 100) (hce : c.es = A ++ (m, v) :: B) (hA : A.length = 2) (hcc : c.es.length ≤ c.ec)
    (hK : ∀ (r' c' : Rec) w', r'.a = r.a → r'.es = es1 ++ (m, v) :: es2 → r'.bs = bs1 ++ c.a :: q.a :: bs2 → c'.a = c.a → c'.es = A → c'.bs = c.bs → Mv TT w0 w' R0 [r', c', q] → K (.tuple #[]) w') :
    Cv F.z179 #[.pointer (some ⟨r.a, 0, none⟩), .int .i64 (i : Int), .agg #[.string m, v]] w (fun v6 wv12 =>
          v6 = .tuple #[] ∧
          ∃ pa6, some (Addr.mk r.a 0 none) = some pa6 ∧
          ∃ (below5p : Option Addr) (below5n below5c : Nat),
          wv12.cell? (pa6.add 1) = some (.slice below5p below5n below5c) ∧
          ∀ b3 wv13, New wv12 (.cells #[.pointer (some (Addr.mk q.a 0 none))] T.p_tree_page_string) b3 wv13 →
          Cv F.z108 #[.slice below5p below5n below5c, .int .i64 (IntKind.i64.wrap ((i : Int) + (1 : Int))), .slice (some (Addr.mk b3 0 none)) 1 1] wv13 (fun v7 wv14 =>
            ∃ (r5p : Option Addr) (r5n r5c : Nat),
            v7 = .slice r5p r5n r5c ∧
            ∃ pa7, some (Addr.mk r.a 0 none) = some pa7 ∧
            CanSt wv14 (pa7.add 1) ∧ ∀ wv15, wv15 = wv14.setCell (pa7.add 1) (.slice r5p r5n r5c) →
            ∃ ea9, some (Addr.mk c.a 0 none) = some ea9 ∧
            ∃ (all5p : Option Addr) (all5n all5c : Nat),
            wv15.cell? ((ea9.add 0).add 0) = some (.slice all5p all5n all5c) ∧
            0 ≤ (2 : Int) ∧ (2 : Int) ≤ ((all5c : Nat) : Int) ∧
            0 ≤ (2 : Int) ∧ (2 : Int) ≤ (((2 : Int).toNat : Nat) : Int) ∧
            ∃ ea10, some (Addr.mk c.a 0 none) = some ea10 ∧
            CanSt wv15 ((ea10.add 0).add 0) ∧ ∀ wv16, wv16 = wv15.setCell ((ea10.add 0).add 0) (.slice (cutAt all5p 0 ((2 : Int).toNat) 2) (((2 : Int).toNat) - 0) (((2 : Int).toNat) - 0)) →
            K (.tuple #[]) wv16)) := by
  have hr := rs_mem hmv.rs (r := r) (by simp)
  have hrl : r.es.length = es1.length + es2.length := by rw [he]; simp
  have hbl : r.bs.length = bs1.length + 1 + bs2.length := by rw [hb]; simp; omega
  refine insert_spec hr hv (by omega) (by omega) fun ep ec w1 hm1 => ⟨rfl, _, rfl, ?_⟩
  have hm1' := hmv.trans (Mv.fst hmv.rs hm1)
  have hr1 := rs_mem hm1'.rs (r := { r with es := r.es.take i ++ (m, v) :: r.es.drop i, ep := ep, ec := ec }) (by simp)
  refine ⟨_, _, _, hr1.1.cell (i := 1) rfl, fun b3 w2 hN => ?_⟩
  have hu2 : Upd Nothing w1 w2 := Upd.new hN
  have hw1 : IntKind.i64.wrap ((i : Int) + 1) = ((i + 1 : Nat) : Int) := by rw [i64_wrap (by omega) (by omega)]; omega
  rw [hw1]
  refine sins_ptr (ys := [.pointer (some (Addr.mk q.a 0 none))]) hN hr1.2.2 rfl (by simp [Value.oneCell']) (by show i + 1 ≤ r.bs.length; omega) (by show r.bs.length ≤ _; omega) fun p' c' w3 ho3 hu3 hf3 => ⟨_, _, _, rfl, _, rfl, ?_⟩
  have hm2 := hm1'.more hu2
  have hr2 := rs_mem hm2.rs (r := { r with es := r.es.take i ++ (m, v) :: r.es.drop i, ep := ep, ec := ec }) (by simp)
  -- the record with its blocks, behind the insertion
  have hb3 := hu3.blk hr2.1 fun hk => hr2.ab hr2 hk rfl
  have ho2e := hr2.2.1.upd hu3 fun k hk hk' => hr2.eb hr2 hk hk'
  have hcells : (pcells r.bs).take ((i + 1) * 1) ++ [Value.pointer (some ⟨q.a, 0, none⟩)] ++ (pcells r.bs).drop ((i + 1) * 1) = pcells (bs1 ++ c.a :: q.a :: bs2) := by
    have h1 : pcells r.bs = pcells (bs1 ++ [c.a]) ++ pcells bs2 := by rw [hb]; simp [pcells]
    have h2 : (pcells (bs1 ++ [c.a])).length = (i + 1) * 1 := by simp [pcells]; omega
    rw [h1, ← h2, List.take_left, List.drop_left]
    simp [pcells]
  have hlen3 : r.bs.length + 1 = (bs1 ++ c.a :: q.a :: bs2).length := by rw [hbl]; simp; omega
  have ho3' : OwnW w3 T.p_tree_page_string 1 p' (bs1 ++ c.a :: q.a :: bs2).length c' (pcells (bs1 ++ c.a :: q.a :: bs2)) := by rw [← hlen3, ← hcells]; exact ho3
  have hgoal : r.bs.length + 1 = (bs1 ++ c.a :: q.a :: bs2).length := hlen3
  show CanSt w3 ((Addr.mk r.a 0 none).add 1) ∧ ∀ wv15, wv15 = w3.setCell ((Addr.mk r.a 0 none).add 1) (.slice p' (r.bs.length + 1) c') → _
  rw [hgoal]
  refine hb3.store (i := 1) (by simp) rfl fun w4 hb4 hu4 hs4 => ?_
  have hne3 : ∀ k, Fp p' c' k → ¬ SX.One r.a k := fun k hk e => by
    obtain ⟨l, hb⟩ := ho3'.blk hk
    have e' : k = r.a := e
    subst e'
    exact TT.h2 (hb3.same hb).2
  have hr4 : RecAt TT w4 { r with es := r.es.take i ++ (m, v) :: r.es.drop i, ep := ep, ec := ec, bp := p', bc := c', bs := bs1 ++ c.a :: q.a :: bs2 } := ⟨hb4, ho2e.upd hu4 fun k hk e => hr2.ae hr2 hk e, ho3'.upd hu4 hne3⟩
  have hstep : Mv TT w2 w4 [{ r with es := r.es.take i ++ (m, v) :: r.es.drop i, ep := ep, ec := ec }] [{ r with es := r.es.take i ++ (m, v) :: r.es.drop i, ep := ep, ec := ec, bp := p', bc := c', bs := bs1 ++ c.a :: q.a :: bs2 }] := Mv.step hr2 hr4 ((hu3.then' hu4).mono fun k _ hk => hk.elim (fun h => .inr (.inr h)) fun h => .inl h) fun k hk => by
    rcases hk with hk | hk | hk
    · exact .inl (.inl hk)
    · exact .inl (.inr (.inl hk))
    · rcases hf3 k hk with h | h
      · exact .inl (.inr (.inr h))
      · exact .inr h
  have hm4 := hm2.trans (Mv.fst hm2.rs hstep)
  have hc4 := rs_mem hm4.rs (r := c) (by simp)
  have hcl : 2 ≤ c.es.length := by rw [hce]; simp; omega
  refine ⟨_, rfl, _, _, _, hc4.1.cell (i := 0) rfl, by omega, by omega, by omega, by decide, _, rfl, ?_⟩
  have hcut : cutAt c.ep 0 (2 : Int).toNat 2 = c.ep := cutAt_zero _ _ _
  rw [hcut]
  have hoc := hc4.2.1.cut (k := 2) (d := 2) hcl (Nat.le_refl _) (by omega)
  have hAe : (ecells c.es).take (2 * 2) = ecells A := by rw [ecells_take, hce, ← hA]; simp
  rw [hAe] at hoc
  have hoc' : OwnW w4 TT.te 2 c.ep A.length 2 (ecells A) := by rw [hA]; exact hoc
  have key := RecAt.set0 (K := fun w' => K (.tuple #[]) w') hc4 hoc' fun w5 hr5 hu5 hs5 => ?_
  · rw [hA] at key
    exact key
  · have hstep5 : Mv TT w4 w5 [c] [{ c with ep := c.ep, ec := 2, es := A }] := Mv.step hc4 hr5 (hu5.mono fun k _ hk => .inl hk) fun k hk => by
      rcases hk with hk | hk | hk
      · exact .inl (.inl hk)
      · exact .inl (.inr (.inl ⟨by omega, hk.2⟩))
      · exact .inl (.inr (.inr hk))
    refine hK { r with es := r.es.take i ++ (m, v) :: r.es.drop i, ep := ep, ec := ec, bp := p', bc := c', bs := bs1 ++ c.a :: q.a :: bs2 } { c with ep := c.ep, ec := 2, es := A } w5 rfl ?_ rfl rfl rfl rfl (hm4.trans (Mv.snd hm4.rs hstep5))
    show r.es.take i ++ (m, v) :: r.es.drop i = _
    rw [he, ← hi]
    simp
theorem split_spec {es1 es2 A B:List Ent} {m:ByteArray} {v:Value} {bs1 bs2 X Y:List Nat} (h:RS TT w [r,c]) (hv:IsV v) (he:r.es=es1++es2) (hb:r.bs=bs1++c.a :: bs2) (hi:es1.length=i) (hbi:bs1.length=i) (hn:r.es.length≤100) (hnb:r.bs.length≤100) (hce:c.es=A++(m,v) :: B) (hA:A.length=2) (hB:B.length≤100) (hcb:c.bs=X++Y) (hXY:(X=[]∧Y=[])∨(X.length=3∧Y.length≤100))
  (hK:∀ (r' c' q:Rec) w',r'.a=r.a→r'.es=es1++(m,v) :: es2→r'.bs=bs1++c.a :: q.a :: bs2→c'.a=c.a→c'.es=A→c'.bs=X→q.es=B→q.bs=Y→Mv TT w w' [r,c] [r',c',q]→K (.tuple #[]) w') :
  Cv F.z172 #[.pointer (some ⟨r.a,0,none⟩),.int .i64 (i:Int)] w K:=by
 have hv0:=hv
 obtain ⟨vs,rfl⟩:=hv
 exact R.z172 (by
  unfold C.z172
  have e3:IntKind.i64.wrap ((2:Int)+(1:Int))=3:=by decide
  have t3:(3:Int).toNat=3:=rfl
  rw [e3,t3]
  have hr:=rs_mem h (r:=r) (by simp)
  have hc:=rs_mem h (r:=c) (by simp)
  have hbl:r.bs.length=bs1.length+1+bs2.length:=by rw [hb]; simp; omega
  have hcl:c.es.length=3+B.length:=by rw [hce]; simp; omega
  have hce0:=hc.2.1.le
  obtain ⟨a,ha,hca⟩:∃ a,r.bp=some a∧w.cell? (a.add (i * 1))=some (.pointer (some ⟨c.a,0,none⟩)):=by
   have:=hr.2.2.at
   rw [hb] at this
   rw [← hbi]
   exact this _ _ pcells_at
  refine ⟨_,rfl,_,_,_,hr.1.cell (i:=1) rfl,a,ha,by omega,by omega,_,by simpa using hca,_,rfl,_,_,_,hc.1.cell (i:=0) rfl,by omega,by omega,?_⟩
  have hdE:(ecells c.es).drop (3 * 2)=ecells B:=by rw [ecells_drop,hce,show (3:Nat)=A.length+1 by omega,← List.drop_drop]; simp
  have htail:=hc.2.1.tail (k:=3) (by omega)
  rw [hdE] at htail
  have hn3:c.es.length - 3=B.length:=by omega
  rw [hn3]
  refine clone_ent htail (by rw [ecells_len]) (fun u hu=>hc.2.1.one u (by rw [hce]; rw [show A++(m,.string vs) :: B=A++[(m,.string vs)]++B by simp,ecells_app]; exact List.mem_append_right _ hu)) (by omega) fun qp qc w1 hoq hu1 hfq=>⟨_,_,_,rfl,New.use (by simp [Value.oneCell']) fun b w2 hb2 hu2 hgb hltb=>?_⟩
  have hu12:=hu1.then hu2
  have hq0:RecAt TT w2 ⟨b,qp,qc,B,none,0,[]⟩:=⟨hb2,(hoq.upd0 hu2).wide,OwnW.nil _ _ _⟩
  have hsz1:=hu1.size
  have hm2:Mv TT w w2 [r,c] [r,c,⟨b,qp,qc,B,none,0,[]⟩]:=by
   have:=Mv.add h (Mv.made hq0 hu12 fun k hk=>by
    rcases hk with rfl | hk | hk
    ·exact Nat.le_trans hsz1 hgb
    ·exact hfq k hk
    ·have h0:0 < 0:=hk.1
     omega)
   exact this.perm (List.Perm.refl _) (List.perm_append_comm (l₁:=[_]) (l₂:=[r,c]))
  have hc2:=rs_mem hm2.rs (r:=c) (by simp)
  refine leaf_spec hc2 ⟨_,rfl,?_⟩
  have hmid:∀ (c3:Rec) w',RecAt TT w' c3→c3.es=c.es→∃ a4,c3.ep=some a4∧SX.cellsAt w' (a4.add (2 * 2)) 0 [.string m,.string vs]:=fun c3 w' h3 e=>by
   have hat:=h3.2.1.at
   rw [e,hce] at hat
   have h1:=ecells_mid A B m (.string vs)
   rw [hA] at h1
   exact At.pair hat h1.1 h1.2
  refine ifB_mk (fun hl=>?_) (fun hl=>?_)
  ·have hne:c.bs.length≠0:=by simpa using hl
   obtain ⟨hX,hY⟩:X.length=3∧Y.length≤100:=by
    rcases hXY with ⟨h1,h2⟩ | h
    ·rw [hcb,h1,h2] at hne; exact absurd rfl hne
    ·exact h
   have hcbl:c.bs.length=3+Y.length:=by rw [hcb]; simp; omega
   refine ⟨_,rfl,_,_,_,hc2.1.cell (i:=1) rfl,by omega,by omega,?_⟩
   have hdP:(pcells c.bs).drop (3 * 1)=pcells Y:=by rw [hcb]; simp [pcells,← hX]
   have htl2:=hc2.2.2.tail (k:=3) (by omega)
   rw [hdP] at htl2
   have hn4:c.bs.length - 3=Y.length:=by omega
   rw [hn4]
   refine clone_ptr htl2 (by rw [pcells_len,Nat.mul_one]) (fun u hu=>by simp only [pcells,List.mem_map] at hu; obtain ⟨_,_,rfl⟩:=hu; rfl) (by omega) fun yp yc w4 hoy hu4 hfy=>⟨_,_,_,rfl,_,rfl,?_⟩
   have hq2:=rs_mem hm2.rs (r:=⟨b,qp,qc,B,none,0,[]⟩) (by simp)
   have hq4:RecAt TT w4 ⟨b,qp,qc,B,none,0,[]⟩:=hq2.upd hu4 fun _ _ f=>f
   refine RecAt.set1 hq4 hoy.wide fun w5 hq5 hu5 hs5=>?_
   have hst5:Mv TT w2 w5 [⟨b,qp,qc,B,none,0,[]⟩] [⟨b,qp,qc,B,yp,yc,Y⟩]:=by
    refine Mv.step hq2 hq5 ((hu4.mono fun _ _ f=>f.elim).then (hu5.mono fun k _ hk=>.inl hk)) fun k hk=>?_
    rcases hk with hk | hk | hk
    ·exact .inl (.inl hk)
    ·exact .inl (.inr (.inl hk))
    ·exact .inr (hfy k hk)
   have hm5:=hm2.trans (Mv.thd hm2.rs hst5)
   have hc5:=rs_mem hm5.rs (r:=c) (by simp)
   have hcb0:=hc5.2.2.le
   refine ⟨_,rfl,_,_,_,hc5.1.cell (i:=1) rfl,by omega,by omega,by omega,by decide,_,rfl,?_⟩
   have hocut:=hc5.2.2.cut (k:=3) (d:=3) (by omega) (Nat.le_refl _) (by omega)
   have hXe:(pcells c.bs).take (3 * 1)=pcells X:=by rw [hcb]; simp [pcells,← hX]
   rw [hXe] at hocut
   rw [cutAt_zero]
   refine RecAt.set1' hc5 hX hocut fun w6 hc6 hu6 hs6=>?_
   have hst6:Mv TT w5 w6 [c] [{ c with bp:=c.bp,bc:=3,bs:=X }]:=Mv.step hc5 hc6 (hu6.mono fun k _ hk=>.inl hk) fun k hk=>by
    rcases hk with hk | hk | hk
    ·exact .inl (.inl hk)
    ·exact .inl (.inr (.inl hk))
    ·exact .inl (.inr (.inr ⟨by omega,hk.2⟩))
   have hm6:=(hm5.trans (Mv.snd hm5.rs hst6)).more (Upd.drew Nothing _)
   have hc6':=rs_mem hm6.rs (r:={ c with bp:=c.bp,bc:=3,bs:=X }) (by simp)
   obtain ⟨a4,ha4,hc4⟩:=hmid _ _ hc6' rfl
   refine ⟨_,rfl,_,rfl,_,_,_,hc6'.1.cell (i:=0) rfl,a4,ha4,by decide,by show (2:Int) < ((c.es.length:Nat):Int); omega,_,_,hc4,?_⟩
   exact split_end hm6 hv0 he hb hi hbi hn hnb hce hA hce0 fun r' c' w' k1 k2 k3 k4 k5 k6 k7=>hK r' c' ⟨b,qp,qc,B,yp,yc,Y⟩ w' k1 k2 k3 k4 k5 k6 rfl rfl k7
  ·have hz:c.bs.length=0:=by simpa using hl
   obtain ⟨hX,hY⟩:X=[]∧Y=[]:=by
    have h0:c.bs=[]:=List.length_eq_zero_iff.1 hz
    rw [hcb] at h0
    exact List.append_eq_nil_iff.1 h0
   have hm6:=hm2.more (Upd.drew Nothing _)
   have hc6':=rs_mem hm6.rs (r:=c) (by simp)
   obtain ⟨a4,ha4,hc4⟩:=hmid _ _ hc6' rfl
   refine ⟨_,rfl,_,rfl,_,_,_,hc6'.1.cell (i:=0) rfl,a4,ha4,by decide,by omega,_,_,hc4,?_⟩
   exact split_end hm6 hv0 he hb hi hbi hn hnb hce hA hce0 fun r' c' w' k1 k2 k3 k4 k5 k6 k7=>hK r' c' ⟨b,qp,qc,B,none,0,[]⟩ w' k1 k2 k3 k4 k5 (by rw [k6,hcb,hX,hY]; rfl) rfl hY.symm k7)
end
end Ts
end Go.Proofs.YtjcgociobhhijaaGreatDoor
namespace Go.Proofs.YtjcgociobhhijaaGreatDoor.SX
open Go
namespace Bt
def Pg:Nat→Type
 | 0=>Rec
 | h+1=>Rec×List (Pg h)
def root:(h:Nat)→Pg h→Rec
 | 0,r=>r
 | _+1,p=>p.1
def subs:(h:Nat)→Pg h→List Rec
 | 0,_=>[]
 | h+1,p=>p.2.flatMap fun c=>root h c :: subs h c
def recs (h:Nat) (p:Pg h):List Rec:=root h p :: subs h p
def toL:(h:Nat)→Pg h→List Ent
 | 0,r=>r.es
 | h+1,p=>weave p.1.es (p.2.map (toL h))
def Ok:(h:Nat)→Nat→Nat→Pg h→Prop
 | 0,lo,hi,r=>r.bs=[]∧lo≤r.es.length∧r.es.length≤hi
 | h+1,lo,hi,p=>p.1.bs=p.2.map (fun c=>(root h c).a)∧p.2.length=p.1.es.length+1∧lo≤p.1.es.length∧p.1.es.length≤hi∧∀ c∈p.2,Ok h 2 5 c
theorem recs_node (h:Nat) (r:Rec) (cs:List (Pg h)):recs (h+1) (r,cs)=r :: cs.flatMap (recs h):=rfl
theorem toL_node (h:Nat) (r:Rec) (cs:List (Pg h)):toL (h+1) (r,cs)=weave r.es (cs.map (toL h)):=rfl
theorem Ok.root_len:∀ {h lo hi:Nat} {p:Pg h},Ok h lo hi p→lo≤(root h p).es.length∧(root h p).es.length≤hi
 | 0,_,_,_,ho=>ho.2
 | _+1,_,_,_,ho=>⟨ho.2.2.1,ho.2.2.2.1⟩
theorem Ok.mono {lo hi lo' hi':Nat}:∀ {h:Nat} {p:Pg h},Ok h lo hi p→lo'≤(root h p).es.length→(root h p).es.length≤hi'→Ok h lo' hi' p
 | 0,_,ho,h1,h2=>⟨ho.1,h1,h2⟩
 | _+1,_,ho,h1,h2=>⟨ho.1,ho.2.1,h1,h2,ho.2.2.2.2⟩
theorem root_sub:∀ {h lo hi:Nat} {p:Pg h},Ok h lo hi p→(root h p).es.Sublist (toL h p)
 | 0,_,_,_,_=>List.Sublist.refl _
 | _+1,_,_,(r,cs),ho=>sub_weave (by rw [List.length_map]; exact ho.2.1)
theorem node_at {h lo hi i:Nat} {r:Rec} {cs:List (Pg h)} {es1 es2:List Ent} (ho:Ok (h+1) lo hi (r,cs)) (he:r.es=es1++es2) (hi:es1.length=i) :
  ∃ cs1 c cs2,cs=cs1++c :: cs2∧cs1.length=i∧cs2.length=es2.length∧r.bs=cs1.map (fun c=>(root h c).a)++(root h c).a :: cs2.map (fun c=>(root h c).a)∧
   toL (h+1) (r,cs)=lw es1 (cs1.map (toL h))++toL h c++rw' es2 (cs2.map (toL h))∧Ok h 2 5 c∧(∀ x∈cs1,Ok h 2 5 x)∧∀ x∈cs2,Ok h 2 5 x:=by
 obtain ⟨hb,hl,_,_,hk⟩:=ho
 have hl':cs.length=es1.length+es2.length+1:=by
  have:cs.length=r.es.length+1:=hl
  rw [this,he,List.length_append]
 have hlt:i < cs.length:=by omega
 have hd:cs=cs.take i++cs[i] :: cs.drop (i+1):=by rw [← List.drop_eq_getElem_cons hlt,List.take_append_drop]
 generalize hc1:cs.take i=cs1 at hd
 generalize hcc:cs[i]=c at hd
 generalize hc2:cs.drop (i+1)=cs2 at hd
 have l1:cs1.length=i:=by rw [← hc1,List.length_take]; omega
 have l2:cs2.length=es2.length:=by rw [← hc2,List.length_drop]; omega
 refine ⟨cs1,c,cs2,hd,l1,l2,?_,?_,hk c (by rw [hd]; simp),fun x hx=>hk x (by rw [hd]; simp [hx]),fun x hx=>hk x (by rw [hd]; simp [hx])⟩
 ·have hb':r.bs=cs.map (fun c=>(root h c).a):=hb
  rw [hb',hd]
  simp
 ·rw [toL_node,he,hd,List.map_append,List.map_cons]
  exact weave_mid (by rw [List.length_map,l1,hi])
theorem perm_mid {α:Type} {A B C:List α} {x:α}:(x :: (A++(B++C))).Perm (B++(x :: (A++C))):=by
 have h1:(A++(B++C)).Perm (B++(A++C)):=by
  rw [← List.append_assoc,← List.append_assoc]
  exact List.Perm.append_right C List.perm_append_comm
 exact (h1.cons x).trans (List.perm_middle.symm)
theorem recs_mid {h:Nat} {r:Rec} {cs1 cs2:List (Pg h)} {c:Pg h}:(recs (h+1) (r,cs1++c :: cs2)).Perm (recs h c++(r :: (cs1.flatMap (recs h)++cs2.flatMap (recs h)))):=by
 rw [recs_node,List.flatMap_append,List.flatMap_cons]
 exact perm_mid
end Bt
end Go.Proofs.YtjcgociobhhijaaGreatDoor.SX
namespace Go.Proofs.YtjcgociobhhijaaGreatDoor
open Go SX Bt
namespace Ts
def zero:Value:=.string (bs [])
theorem zero_isV:IsV zero:=by
 unfold IsV zero
 first | exact ⟨_,rfl⟩ | exact ⟨_,_,_,rfl⟩
theorem get_isV {k:ByteArray} {l:List Ent} (h:∀ e∈l,IsV e.2):IsV ((kval k l).getD zero):=by
 unfold kval
 cases hf:l.find? (fun e=>sEq e.1 k) with
 | none=>exact zero_isV
 | some e=>exact h e (List.mem_of_find?_eq_some hf)
def setRoot:(h:Nat)→Pg h→Rec→Pg h
 | 0,_,r=>r
 | _+1,p,r=>(r,p.2)
theorem ok_set {r:Rec}:∀ {h lo hi lo' hi':Nat} {p:Pg h},Ok h lo hi p→r.bs=(root h p).bs→r.es.length=(root h p).es.length→lo'≤r.es.length→r.es.length≤hi'→Ok h lo' hi' (setRoot h p r)
 | 0,_,_,_,_,_,ho,hb,_,h1,h2=>⟨hb.trans ho.1,h1,h2⟩
 | _+1,_,_,_,_,_,ho,hb,hl,h1,h2=>⟨hb.trans ho.1,by show _=r.es.length+1; rw [hl]; exact ho.2.1,h1,h2,ho.2.2.2.2⟩
theorem toL_set {k:ByteArray} {u v:Value} {es1 es2:List Ent} {r:Rec}:∀ {h lo hi:Nat} {p:Pg h},Ok h lo hi p→Srt (toL h p)→(root h p).es=es1++(k,u) :: es2→r.es=es1++(k,v) :: es2→toL h (setRoot h p r)=ins k v (toL h p)∧kval k (toL h p)=some u
 | 0,_,_,p,ho,hs,he,hr=>by
  have e:toL 0 p=es1++(k,u) :: es2:=he
  rw [e] at hs ⊢
  obtain ⟨h1,h2⟩:=srt_at hs
  refine ⟨?_,get_old h1 h2⟩
  rw [ins_old h1 h2]
  exact hr
 | h+1,_,_,(r0,cs),ho,hs,he,hr=>by
  obtain ⟨cs1,c,cs2,hcs,l1,l2,_,hL,_⟩:=node_at ho he rfl
  match cs2,l2 with
  | d :: cs2',l2=>
   have e:toL (h+1) (r0,cs)=(lw es1 (cs1.map (toL h))++toL h c)++(k,u) :: (toL h d++rw' es2 (cs2'.map (toL h))):=hL
   have e2:toL (h+1) (r,cs)=(lw es1 (cs1.map (toL h))++toL h c)++(k,v) :: (toL h d++rw' es2 (cs2'.map (toL h))):=by
    rw [toL_node,hr,hcs,List.map_append,List.map_cons]
    exact weave_mid (by rw [List.length_map,l1])
   show toL (h+1) (r,cs)=_∧_
   rw [e2]
   rw [e] at hs ⊢
   obtain ⟨h1,h2⟩:=srt_at hs
   exact ⟨(ins_old h1 h2).symm,get_old h1 h2⟩
theorem ecells_set (es1 es2:List Ent) (k:ByteArray) (u v:Value):(ecells (es1++(k,u) :: es2)).set (es1.length * 2+1) v=ecells (es1++(k,v) :: es2):=by
 rw [ecells_app,ecells_app,List.set_append_right _ _ (by rw [ecells_len]; omega),ecells_len,show es1.length * 2+1 - es1.length * 2=1 by omega]
 rfl
section
variable {w:World} {K:Value→World→Prop} {r:Rec} {k:ByteArray}
theorem val_set {u v:Value} {es1 es2:List Ent} {a:Addr} {Q:World→Prop} (h:RecAt TT w r) (he:r.es=es1++(k,u) :: es2) (hv:IsV v) (ha:r.ep=some a) (hK:∀ w',Mv TT w w' [r] [{ r with es:=es1++(k,v) :: es2 }]→Q w') :
  CanSt w ((a.add (es1.length * 2)).add 1)∧∀ w',w'=w.setCell ((a.add (es1.length * 2)).add 1) v→Q w':=by
 have hlen:es1.length * 2+1 < (ecells r.es).length:=by rw [ecells_len,he]; simp; omega
 obtain ⟨a',ha',hst⟩:=h.2.1.store (K:=Q) hlen (one_of hv) fun w' ho hu hs=>by
  have hl:(es1++(k,v) :: es2).length=r.es.length:=by rw [he]; simp
  refine hK w' (Mv.step h ⟨?_,?_,?_⟩ (hu.mono fun k _ hk=>.inr (.inl hk)) fun k hk=>.inl hk)
  ·show Blk w' r.a [.slice r.ep (es1++(k,v) :: es2).length r.ec,_] _
   rw [hl]
   exact hu.blk h.1 fun hk=>h.ae h hk rfl
  ·show OwnW w' _ 2 r.ep (es1++(k,v) :: es2).length r.ec (ecells (es1++(k,v) :: es2))
   rw [hl,← ecells_set es1 es2 k u v,← he]
   exact ho
  ·exact h.2.2.upd hu fun k hk hk'=>h.eb h hk' hk
 rw [ha] at ha'
 injection ha' with ha'
 subst ha'
 rw [Addr.add_two]
 exact hst
def splitL:(h:Nat)→Pg h→Rec→Pg h
 | 0,_,r=>r
 | _+1,p,r=>(r,p.2.take 3)
def splitR:(h:Nat)→Pg h→Rec→Pg h
 | 0,_,r=>r
 | _+1,p,r=>(r,p.2.drop 3)
theorem subs_split:∀ (h:Nat) (p:Pg h) (r q:Rec),subs h p=subs h (splitL h p r)++subs h (splitR h p q)
 | 0,_,_,_=>rfl
 | h+1,p,r,q=>by
  show p.2.flatMap (recs h)=(p.2.take 3).flatMap (recs h)++(p.2.drop 3).flatMap (recs h)
  rw [← List.flatMap_append,List.take_append_drop]
theorem root_splitL:∀ (h:Nat) (p:Pg h) (r:Rec),root h (splitL h p r)=r
 | 0,_,_=>rfl
 | _+1,_,_=>rfl
theorem root_splitR:∀ (h:Nat) (p:Pg h) (r:Rec),root h (splitR h p r)=r
 | 0,_,_=>rfl
 | _+1,_,_=>rfl
theorem page_split:∀ {h:Nat} {p:Pg h} {lo:Nat},Ok h lo 6 p→(root h p).es.length=6→∃ (A:List Ent) (m:ByteArray) (v:Value) (B:List Ent) (X Y:List Nat),(root h p).es=A++(m,v) :: B∧A.length=2∧B.length=3∧(root h p).bs=X++Y∧((X=[]∧Y=[])∨(X.length=3∧Y.length≤100))∧
  ∀ r q:Rec,r.es=A→r.bs=X→q.es=B→q.bs=Y→toL h p=toL h (splitL h p r)++(m,v) :: toL h (splitR h p q)∧Ok h 2 5 (splitL h p r)∧Ok h 2 5 (splitR h p q):=by
 intro h p lo ho h6
 have hd:(root h p).es=(root h p).es.take 2++(root h p).es[2] :: (root h p).es.drop 3:=by rw [← List.drop_eq_getElem_cons,List.take_append_drop]
 have lA:((root h p).es.take 2).length=2:=by rw [List.length_take]; omega
 have lB:((root h p).es.drop 3).length=3:=by rw [List.length_drop]; omega
 match h,p,ho,h6,hd,lA,lB with
 | 0,p,ho,h6,hd,lA,lB=>
  refine ⟨_,(root 0 p).es[2].1,(root 0 p).es[2].2,_,[],[],hd,lA,lB,ho.1,.inl ⟨rfl,rfl⟩,fun r q hr hrb hq hqb=>⟨?_,⟨hrb,?_,?_⟩,⟨hqb,?_,?_⟩⟩⟩
  ·show (root 0 p).es=r.es++_ :: q.es
   rw [hr,hq]
   exact hd
  ·show 2≤r.es.length
   rw [hr,lA]; exact Nat.le_refl _
  ·show r.es.length≤5
   rw [hr,lA]; decide
  ·show 2≤q.es.length
   rw [hq,lB]; decide
  ·show q.es.length≤5
   rw [hq,lB]; decide
 | h+1,(p,cs),ho,h6,hd,lA,lB=>
  obtain ⟨hb,hl,_,_,hk⟩:=ho
  have h6':p.es.length=6:=h6
  have hcl:cs.length=7:=by have:cs.length=p.es.length+1:=hl; omega
  have hc3:(cs.take 3).length=3:=by rw [List.length_take]; omega
  have hc4:(cs.drop 3).length=4:=by rw [List.length_drop]; omega
  have hcs:cs=cs.take 3++cs.drop 3:=(List.take_append_drop _ _).symm
  refine ⟨_,_,_,_,(cs.take 3).map fun c=>(root h c).a,(cs.drop 3).map fun c=>(root h c).a,hd,lA,lB,?_,.inr ⟨by rw [List.length_map,hc3],by rw [List.length_map,hc4]; decide⟩,fun r q hr hrb hq hqb=>⟨?_,⟨hrb,?_,?_,?_,fun c hc=>hk c (List.mem_of_mem_take hc)⟩,⟨hqb,?_,?_,?_,fun c hc=>hk c (List.mem_of_mem_drop hc)⟩⟩⟩
  ·show p.bs=_
   have hb':p.bs=cs.map fun c=>(root h c).a:=hb
   rw [← List.map_append,← hcs]
   exact hb'
  ·show weave p.es (cs.map (toL h))=weave r.es ((cs.take 3).map (toL h))++_ :: weave q.es ((cs.drop 3).map (toL h))
   obtain ⟨c0,c1,c2,h3⟩:∃ a b c,cs.take 3=[a,b,c]:=by
    match cs.take 3,hc3 with
    | [a,b,c],_=>exact ⟨a,b,c,rfl⟩
   obtain ⟨c3,c4',c5,c6,h4⟩:∃ a b c d,cs.drop 3=[a,b,c,d]:=by
    match cs.drop 3,hc4 with
    | [a,b,c,d],_=>exact ⟨a,b,c,d,rfl⟩
   have e1:p.es=r.es++(p.es[2]'(by omega)) :: q.es:=by rw [hr,hq]; exact hd
   have lr:r.es.length=2:=by rw [hr]; exact lA
   obtain ⟨a,b,hab⟩:∃ a b,r.es=[a,b]:=by
    match r.es,lr with
    | [a,b],_=>exact ⟨a,b,rfl⟩
   show weave p.es (cs.map (toL h))=weave r.es ((cs.take 3).map (toL h))++(p.es[2]'(by omega)) :: weave q.es ((cs.drop 3).map (toL h))
   generalize p.es[2]'(by omega)=E at e1 ⊢
   rw [e1,hab,hcs,h3,h4]
   simp [weave,rw']
  ·show (cs.take 3).length=r.es.length+1
   rw [hr,hc3]; exact (by rw [lA]:3=((root (h+1) (p,cs)).es.take 2).length+1)
  ·show 2≤r.es.length
   rw [hr]; exact Nat.le_of_eq lA.symm
  ·show r.es.length≤5
   rw [hr]; exact Nat.le_trans (Nat.le_of_eq lA) (by decide)
  ·show (cs.drop 3).length=q.es.length+1
   rw [hq,hc4]; exact (by rw [lB]:4=((root (h+1) (p,cs)).es.drop 3).length+1)
  ·show 2≤q.es.length
   rw [hq]; exact Nat.le_trans (by decide) (Nat.le_of_eq lB.symm)
  ·show q.es.length≤5
   rw [hq]; exact Nat.le_trans (Nat.le_of_eq lB) (by decide)
theorem ins_mem {k:ByteArray} {v:Value} {l:List Ent} {e:Ent} (h:e∈ins k v l):e∈l∨e=(k,v):=by
 unfold ins at h
 rcases List.mem_append.1 h with h | h
 ·exact .inl (List.mem_filter.1 h).1
 ·rcases List.mem_cons.1 h with h | h
  ·exact .inr h
  ·exact .inl (List.mem_filter.1 h).1
theorem perm_two {α:Type} (A B:List α) (x y:α) (X Y:List α):(A++((x :: X)++((y :: Y)++B))).Perm (x :: y :: (X++Y++(A++B))):=by
 have h1:(A++((x :: X)++((y :: Y)++B))).Perm (x :: (A++(X++(y :: (Y++B))))):=List.perm_middle
 have h2:(A++(X++(y :: (Y++B)))).Perm (y :: ((A++X)++(Y++B))):=by rw [← List.append_assoc]; exact List.perm_middle
 have h3:((A++X)++(Y++B)).Perm (X++Y++(A++B)):=by
  have e:(A++X)++(Y++B)=(A++(X++Y))++B:=by simp [List.append_assoc]
  have e2:X++Y++(A++B)=(X++Y++A)++B:=by simp [List.append_assoc]
  rw [e,e2]
  exact List.Perm.append_right B List.perm_append_comm
 exact h1.trans ((h2.trans (h3.cons y)).cons x)
theorem put_spec:∀ (h:Nat) {p:Pg h} {lo:Nat} {w:World} {K:Value→World→Prop} {k:ByteArray} {v:Value},Ok h lo 5 p→Srt (toL h p)→(∀ e∈toL h p,IsV e.2)→RS TT w (recs h p)→IsV v→
  (∀ p' w',Ok h lo 6 p'→(root h p').a=(root h p).a→toL h p'=ins k v (toL h p)→Mv TT w w' (recs h p) (recs h p')→K (.tuple #[(kval k (toL h p)).getD zero,.bool (kval k (toL h p)).isSome]) w')→
  Cv F.z170 #[.pointer (some ⟨(root h p).a,0,none⟩),.string k,v] w K:=by
 intro h
 induction h with
 | zero=>
  intro (p:Rec) lo w K k v ho hs hV hR hv hK
  have hv0:=hv
  obtain ⟨vs,rfl⟩:=hv
  have hr:RecAt TT w p:=RS.one.1 hR
  have hes:p.es.length≤5:=ho.2.2
  show Cv F.z170 #[.pointer (some ⟨p.a,0,none⟩),.string k,.string vs] w K
  refine R.z170 (by
   unfold C.z170
   refine ⟨_,rfl,find_spec (r:=p) hr hs hV (by omega) fun i ok w1 hT hF hu1=>⟨_,_,rfl,?_⟩⟩
   have hm1:Mv TT w w1.drew [p] [p]:=Mv.of0 (RS.one.2 hr) (hu1.then (Upd.drew _ _))
   refine ifB_mk (fun hok=>?_) (fun hok=>?_)
   ·obtain ⟨u,hu,es1,es2,he,hi,hlo,hhi⟩:=hT hok
    have hu0:=hu
    have hel:p.es.length=es1.length+1+es2.length:=by rw [he]; simp; omega
    have hr1:=RS.one.1 hm1.rs
    have hat:=hr1.2.1.at
    rw [he] at hat
    obtain ⟨a,ha,hc⟩:=At.pair hat (ecells_mid es1 es2 k u).1 (ecells_mid es1 es2 k u).2
    obtain ⟨hL,hG⟩:=toL_set (r:={ p with es:=es1++(k,.string vs) :: es2 }) (h:=0) ho hs he rfl
    rw [hG] at hK
    subst hi
    obtain ⟨us,rfl⟩:=hu
    refine ⟨_,rfl,_,_,_,hr1.1.cell (i:=0) rfl,_,rfl,_,_,_,hr1.1.cell (i:=0) rfl,a,ha,by omega,by omega,_,hc.2.1,a,ha,by omega,by omega,val_set (k:=k) hr1 he hv0 ha fun w2 hm2=>?_⟩
    have hl':(es1++(k,.string vs) :: es2).length=p.es.length:=by rw [hel]; simp; omega
    have h1:lo≤p.es.length:=ho.2.1
    exact hK _ w2 (ok_set (h:=0) (p:=p) (r:={ p with es:=es1++(k,.string vs) :: es2 }) (lo':=lo) (hi':=6) ho rfl hl' (by show lo≤(es1++(k,.string vs) :: es2).length; omega) (by show (es1++(k,.string vs) :: es2).length≤6; omega)) rfl hL (hm1.trans hm2)
   ·obtain ⟨es1,es2,he,hi,hlo,hhi⟩:=hF hok
    have hel:p.es.length=es1.length+es2.length:=by rw [he]; simp
    have hr1:RecAt TT w1 p:=hr.upd hu1 fun _ _ f=>f
    have hb:p.bs=[]:=ho.1
    have hG:kval k (toL 0 p)=none:=by
     have e:toL 0 p=es1++es2:=he
     rw [e]; exact get_none hlo hhi
    have hL:ins k (.string vs) (toL 0 p)=es1++(k,.string vs) :: es2:=by
     have e:toL 0 p=es1++es2:=he
     rw [e]; exact ins_new hlo hhi
    rw [hG,hL] at hK
    refine leaf_spec hr1 ⟨_,rfl,ifB_mk (fun _=>⟨_,rfl,insert_spec hr1 hv0 (by omega) (by omega) fun ep ec w2 hm2=>⟨rfl,?_⟩⟩) (fun h=>by rw [hb] at h; simp at h)⟩
    have he2:p.es.take i++(k,.string vs) :: p.es.drop i=es1++(k,.string vs) :: es2:=by rw [he,← hi]; simp
    refine hK { p with es:=p.es.take i++(k,.string vs) :: p.es.drop i,ep:=ep,ec:=ec } w2 ⟨hb,?_,?_⟩ rfl he2 (Mv.after (RS.one.2 hr) hu1 hm2)
    ·show lo≤(p.es.take i++(k,.string vs) :: p.es.drop i).length
     have h1:lo≤p.es.length:=ho.2.1
     rw [he2]; simp; omega
    ·show (p.es.take i++(k,.string vs) :: p.es.drop i).length≤6
     rw [he2]; simp; omega)
 | succ h ih=>
  intro (r,cs) lo w K k v ho hs hV hR hv hK
  have hv0:=hv
  obtain ⟨vs,rfl⟩:=hv
  have hR':RS TT w (r :: cs.flatMap (recs h)):=hR
  have hr:RecAt TT w r:=(RS.cons.1 hR').1
  have hes:r.es.length≤5:=ho.2.2.2.1
  have hlo0:lo≤r.es.length:=ho.2.2.1
  have hsr:Srt r.es:=List.Pairwise.sublist (root_sub ho) hs
  have hVr:∀ e∈r.es,IsV e.2:=fun e he=>hV e ((root_sub ho).subset he)
  show Cv F.z170 #[.pointer (some ⟨r.a,0,none⟩),.string k,.string vs] w K
  refine R.z170 (by
   unfold C.z170
   refine ⟨_,rfl,find_spec (r:=r) hr hsr hVr (by omega) fun i ok w1 hT hF hu1=>⟨_,_,rfl,?_⟩⟩
   refine ifB_mk (fun hok=>?_) (fun hok=>?_)
   ·have hm1:Mv TT w w1.drew [r] [r]:=Mv.of0 (RS.one.2 hr) (hu1.then (Upd.drew _ _))
    obtain ⟨u,hu,es1,es2,he,hi,hlo,hhi⟩:=hT hok
    have hel:r.es.length=es1.length+1+es2.length:=by rw [he]; simp; omega
    have hr1:=RS.one.1 hm1.rs
    have hat:=hr1.2.1.at
    rw [he] at hat
    obtain ⟨a,ha,hc⟩:=At.pair hat (ecells_mid es1 es2 k u).1 (ecells_mid es1 es2 k u).2
    obtain ⟨hL,hG⟩:=toL_set (r:={ r with es:=es1++(k,.string vs) :: es2 }) (h:=h+1) (p:=(r,cs)) (v:=(.string vs)) ho hs he rfl
    rw [hG] at hK
    subst hi
    obtain ⟨us,rfl⟩:=hu
    refine ⟨_,rfl,_,_,_,hr1.1.cell (i:=0) rfl,_,rfl,_,_,_,hr1.1.cell (i:=0) rfl,a,ha,by omega,by omega,_,hc.2.1,a,ha,by omega,by omega,val_set (k:=k) hr1 he hv0 ha fun w2 hm2=>?_⟩
    have hl':(es1++(k,.string vs) :: es2).length=r.es.length:=by rw [hel]; simp; omega
    exact hK _ w2 (ok_set (h:=h+1) (p:=(r,cs)) (r:={ r with es:=es1++(k,.string vs) :: es2 }) (lo':=lo) (hi':=6) ho rfl hl' (by show lo≤(es1++(k,.string vs) :: es2).length; omega) (by show (es1++(k,.string vs) :: es2).length≤6; omega)) rfl hL (Mv.fst hR' (hm1.trans hm2))
   ·obtain ⟨es1,es2,he,hi,hlo,hhi⟩:=hF hok
    have hel:r.es.length=es1.length+es2.length:=by rw [he]; simp
    have hr1:RecAt TT w1 r:=hr.upd hu1 fun _ _ f=>f
    obtain ⟨cs1,c,cs2,rfl,l1,l2,hb,hL,hokc,hok1,hok2⟩:=node_at ho he hi
    have hbl:r.bs.length=cs1.length+1+cs2.length:=by rw [hb]; simp; omega
    -- the lists beside the page below
    rw [hL] at hs hV
    obtain ⟨hs12,hs3,hs4⟩:=hs.app
    obtain ⟨hs1,hs2,hs5⟩:=hs12.app
    have hlo':=lw_lo hs1 hlo
    have hhi':=rw_hi hs3 hhi
    have hVc:∀ e∈toL h c,IsV e.2:=fun e he=>hV e (by simp [he])
    have hG:kval k (toL (h+1) (r,cs1++c :: cs2))=kval k (toL h c):=by rw [hL]; exact get_mid hlo' hhi'
    have hI:ins k (.string vs) (toL (h+1) (r,cs1++c :: cs2))=lw es1 (cs1.map (toL h))++ins k (.string vs) (toL h c)++rw' es2 (cs2.map (toL h)):=by rw [hL]; exact ins_mid hlo' hhi'
    rw [hG,hI] at hK
    have hRp:=(hR.perm recs_mid).upd0 hu1
    have hRc:=(RS.app.1 hRp).1
    have hcell:∀ w' (r':Rec),RecAt TT w' r'→r'.bs=r.bs→∃ a,r'.bp=some a∧w'.cell? (a.add (i * 1))=some (.pointer (some ⟨(root h c).a,0,none⟩)):=fun w' r' h' e=>by
     have hat:=h'.2.2.at
     rw [e,hb] at hat
     have:=pcells_at (bs1:=cs1.map fun c=>(root h c).a) (bs2:=cs2.map fun c=>(root h c).a) (a:=(root h c).a)
     rw [List.length_map,l1] at this
     exact hat _ _ this
    obtain ⟨a,ha,hc⟩:=hcell w1 r hr1 rfl
    refine leaf_spec hr1 ⟨_,rfl,ifB_mk (fun h=>by have:=of_decide_eq_true h; omega) (fun _=>?_)⟩
    have hgv:=get_isV (k:=k) hVc
    refine ⟨_,rfl,_,_,_,hr1.1.cell (i:=1) rfl,a,ha,by omega,by omega,_,by simpa using hc,ih hokc hs2 hVc hRc hv0 fun c' w5 hokc' hra hLc hmc=>?_⟩
    generalize (kval k (toL h c)).getD zero=ov at hgv hK ⊢
    generalize (kval k (toL h c)).isSome=ob at hK ⊢
    obtain ⟨us,rfl⟩:=hgv
    -- the whole
    have hm5:Mv TT w w5 (recs (h+1) (r,cs1++c :: cs2)) (recs (h+1) (r,cs1++c' :: cs2)):=Mv.after hR hu1 ((hmc.frame hRp).perm recs_mid.symm recs_mid.symm)
    have hr5:RecAt TT w5 r:=hm5.rs.1 r (by rw [recs_node]; simp)
    have hc5:RecAt TT w5 (root h c'):=hm5.rs.1 _ (by rw [recs_node]; simp [recs])
    obtain ⟨a5,ha5,hcc5⟩:=hcell w5 r hr5 rfl
    have hc5c:w5.cell? (((Addr.mk (root h c).a 0 none).add 0).add 0)=some (.slice (root h c').ep (root h c').es.length (root h c').ec):=by
     rw [← hra]
     exact hc5.1.cell (i:=0) rfl
    refine ⟨us,_,rfl,_,rfl,_,_,_,hr5.1.cell (i:=1) rfl,a5,ha5,by omega,by omega,_,by simpa using hcc5,_,rfl,_,_,_,hc5c,?_⟩
    have hb':r.bs=(cs1++c' :: cs2).map fun c=>(root h c).a:=by rw [hb]; simp [hra]
    have hlen':(cs1++c' :: cs2).length=r.es.length+1:=by rw [hel,← l2,hi,← l1]; simp; omega
    have hLn:toL (h+1) (r,cs1++c' :: cs2)=lw es1 (cs1.map (toL h))++ins k (.string vs) (toL h c)++rw' es2 (cs2.map (toL h)):=by
     rw [toL_node,he,List.map_append,List.map_cons,hLc]
     exact weave_mid (by rw [List.length_map,l1,hi])
    have hcr:=hokc'.root_len
    refine ifB_mk (fun h6=>?_) (fun h6=>?_)
    ·have h66:(root h c').es.length=6:=by have:=of_decide_eq_true h6; omega
     obtain ⟨A,m,mv,B,X,Y,hA1,hA2,hB2,hXYe,hXY,hsp⟩:=page_split hokc' h66
     have hVc':∀ e∈toL h c',IsV e.2:=fun e he=>by
      rw [hLc] at he
      rcases ins_mem he with h1 | h1
      ·exact hVc e h1
      ·rw [h1]; exact hv0
     have hmv:IsV mv:=hVc' (m,mv) ((root_sub hokc').subset (by rw [hA1]; simp))
     have hpm:(recs (h+1) (r,cs1++c' :: cs2)).Perm ([r,root h c']++(subs h c'++(cs1.flatMap (recs h)++cs2.flatMap (recs h)))):=by
      refine recs_mid.trans ?_
      show (root h c' :: (subs h c'++r :: (cs1.flatMap (recs h)++cs2.flatMap (recs h)))).Perm (r :: root h c' :: (subs h c'++(cs1.flatMap (recs h)++cs2.flatMap (recs h))))
      exact (List.perm_middle.cons _).trans (List.Perm.swap _ _ _)
     have hRS2:=hm5.rs.perm hpm
     have hbr:r.bs=cs1.map (fun c=>(root h c).a)++(root h c').a :: cs2.map (fun c=>(root h c).a):=by rw [hb,hra]
     refine split_spec (c:=root h c') (RS.app.1 hRS2).1 hmv he hbr hi (by rw [List.length_map,l1]) (by omega) (by omega) hA1 hA2 (by omega) hXYe hXY fun r' cc q w6 k1 k2 k3 k4 k5 k6 k7 k8 hm6=>⟨rfl,?_⟩
     obtain ⟨hT6,hoL,hoR⟩:=hsp cc q k5 k6 k7 k8
     have hpm':(recs (h+1) (r',cs1++splitL h c' cc :: splitR h c' q :: cs2)).Perm ([r',cc,q]++(subs h c'++(cs1.flatMap (recs h)++cs2.flatMap (recs h)))):=by
      rw [recs_node,List.flatMap_append,List.flatMap_cons,List.flatMap_cons,subs_split h c' cc q]
      show (r' :: (cs1.flatMap (recs h)++((root h (splitL h c' cc) :: subs h (splitL h c' cc))++((root h (splitR h c' q) :: subs h (splitR h c' q))++cs2.flatMap (recs h))))).Perm _
      rw [root_splitL,root_splitR]
      exact (perm_two _ _ _ _ _ _).cons r'
     have hel':r'.es.length=r.es.length+1:=by rw [k2,hel]; simp; omega
     refine hK (r',cs1++splitL h c' cc :: splitR h c' q :: cs2) w6 ⟨?_,?_,by show lo≤r'.es.length; omega,by show r'.es.length≤6; omega,fun x hx=>?_⟩ k1 ?_ (hm5.trans ((hm6.frame hRS2).perm hpm.symm hpm'.symm))
     ·show r'.bs=_
      rw [k3,List.map_append,List.map_cons,List.map_cons,root_splitL,root_splitR,k4]
     ·show (cs1++splitL h c' cc :: splitR h c' q :: cs2).length=r'.es.length+1
      rw [hel',hel,← l2,hi,← l1]; simp; omega
     ·rcases List.mem_append.1 hx with hx | hx
      ·exact hok1 x hx
      ·rcases List.mem_cons.1 hx with rfl | hx
       ·exact hoL
       ·rcases List.mem_cons.1 hx with rfl | hx
        ·exact hoR
        ·exact hok2 x hx
     ·rw [toL_node,k2,List.map_append,List.map_cons,List.map_cons,← hLc,hT6]
      exact weave_two (by rw [List.length_map,l1,hi])
    ·have h5:(root h c').es.length≤5:=by have:=of_decide_eq_false h6; omega
     refine hK (r,cs1++c' :: cs2) w5 ⟨hb',hlen',hlo0,by show r.es.length≤6; omega,fun x hx=>?_⟩ rfl hLn hm5
     rcases List.mem_append.1 hx with hx | hx
     ·exact hok1 x hx
     ·rcases List.mem_cons.1 hx with rfl | hx
      ·exact hokc'.mono hcr.1 h5
      ·exact hok2 x hx)
end
end Ts
end Go.Proofs.YtjcgociobhhijaaGreatDoor
namespace Go.Proofs.YtjcgociobhhijaaGreatDoor
open Go SX Bt
namespace Ts
section
variable {w w0:World} {K:Value→World→Prop} {Q:World→Prop} {r a b:Rec} {k:ByteArray} {i x g:Nat} {bs1 bs2:List Nat} {es1 es2:List Ent} {v:Value}
theorem ptr_at (h:RecAt TT w r) (hb:r.bs=bs1++x :: bs2) (hi:bs1.length=i):∃ c,r.bp=some c∧w.cell? (c.add (i * 1))=some (.pointer (some ⟨x,0,none⟩)):=by
 have hat:=h.2.2.at
 rw [hb] at hat
 rw [← hi]
 exact hat _ _ pcells_at
theorem ent_at (h:RecAt TT w r) (he:r.es=es1++(k,v) :: es2) (hi:es1.length=i):∃ c,r.ep=some c∧SX.cellsAt w (c.add (i * 2)) 0 [.string k,v]:=by
 have hat:=h.2.1.at
 rw [he] at hat
 rw [← hi]
 exact At.pair hat (ecells_mid es1 es2 k v).1 (ecells_mid es1 es2 k v).2
theorem pcells_one (l:List Nat):∀ u∈pcells l,u.oneCell'=true:=fun u hu=>by
 simp only [pcells,List.mem_map] at hu
 obtain ⟨_,_,rfl⟩:=hu
 rfl
theorem below_end {p:Option Addr} {n c:Nat} {bs:List Nat} (h:RecAt TT w0 r) (hn:bs.length=n) (ho:OwnW w T.p_tree_page_string 1 p n c (pcells bs)) (hu:Upd (fun k=>Fp r.bp r.bc k) w0 w) (hf:∀ k,Fp p c k→Fp r.bp r.bc k∨w0.heap.size≤k)
  (hK:∀ w',Mv TT w0 w' [r] [{ r with bp:=p,bc:=c,bs:=bs }]→Q w'):CanSt w ⟨r.a,1,none⟩∧∀ w',w'=w.setCell ⟨r.a,1,none⟩ (.slice p n c)→Q w':=by
 subst hn
 have hb:=hu.blk h.1 fun hk=>h.ab h hk rfl
 refine hb.store (i:=1) (by simp) rfl fun w4 hb4 hu4 hs4=>hK w4 (Mv.step h ⟨hb4,(h.2.1.upd hu fun k hk hk'=>h.eb h hk hk').upd hu4 fun k hk e=>h.ae h hk e,ho.upd hu4 fun k hk e=>?_⟩ ((hu.then' hu4).mono fun k _ hk=>hk.elim (fun h=>.inr (.inr h)) fun h=>.inl h) fun k hk=>?_)
 ·obtain ⟨l,hb'⟩:=ho.blk hk
  have e':k=r.a:=e
  subst e'
  exact TT.h2 (hb.same hb').2
 ·rcases hk with hk | hk | hk
  ·exact .inl (.inl hk)
  ·exact .inl (.inr (.inl hk))
  ·rcases hf k hk with h | h
   ·exact .inl (.inr (.inr h))
   ·exact .inr h
theorem bins_set (h:RecAt TT w0 r) (hN:New w0 (.cells #[.pointer (some ⟨x,0,none⟩)] T.p_tree_page_string) g w) (hb:r.bs=bs1++bs2) (hi:bs1.length=i) (hn:r.bs.length≤1000) (hK:∀ p c w',Mv TT w0 w' [r] [{ r with bp:=p,bc:=c,bs:=bs1++x :: bs2 }]→Q w') :
  Cv F.z108 #[.slice r.bp r.bs.length r.bc,.int .i64 (i:Int),.slice (some (Addr.mk g 0 none)) 1 1] w (fun v4 wv7=>∃ (r2p:Option Addr) (r2n r2c:Nat),v4 = .slice r2p r2n r2c∧∃ ea7,some (Addr.mk r.a 0 none)=some ea7∧CanSt wv7 (ea7.add 1)∧∀ wv8,wv8=wv7.setCell (ea7.add 1) (.slice r2p r2n r2c)→Q wv8):=by
 have hu0:Upd Nothing w0 w:=Upd.new hN
 have hl:r.bs.length=bs1.length+bs2.length:=by rw [hb]; simp
 refine sins_ptr (ys:=[.pointer (some ⟨x,0,none⟩)]) hN h.2.2 rfl (by simp [Value.oneCell']) (by omega) (by omega) fun p' c' w3 ho3 hu3 hf3=>⟨_,_,_,rfl,_,rfl,?_⟩
 have hcells:(pcells r.bs).take (i * 1)++[Value.pointer (some ⟨x,0,none⟩)]++(pcells r.bs).drop (i * 1)=pcells (bs1++x :: bs2):=by
  have h1:pcells r.bs=pcells bs1++pcells bs2:=by rw [hb]; simp [pcells]
  have h2:(pcells bs1).length=i * 1:=by simp [pcells]; omega
  rw [h1,← h2,List.take_left,List.drop_left]
  simp [pcells]
 rw [hcells] at ho3
 exact below_end h (by simp; omega) ho3 ((hu0.mono fun _ _ f=>f.elim).then hu3) (fun k hk=>by
  rcases hf3 k hk with h | h
  ·exact .inl h
  ·exact .inr (Nat.le_trans hu0.size h)) fun w' hm=>hK p' c' w' hm
theorem bdel_set {j:Nat} (h:RecAt TT w r) (hb:r.bs=bs1++x :: bs2) (hi:bs1.length=i) (hj:j=i+1) (hn:r.bs.length≤1000) (hK:∀ w',Mv TT w w' [r] [{ r with bs:=bs1++bs2 }]→Q w') :
  Cv F.z101 #[.slice r.bp r.bs.length r.bc,.int .i64 (i:Int),.int .i64 (j:Int)] w (fun v5 wv9=>∃ (r2p:Option Addr) (r2n r2c:Nat),v5 = .slice r2p r2n r2c∧∃ ea8,some (Addr.mk r.a 0 none)=some ea8∧CanSt wv9 (ea8.add 1)∧∀ wv10,wv10=wv9.setCell (ea8.add 1) (.slice r2p r2n r2c)→Q wv10):=by
 have hl:r.bs.length=bs1.length+1+bs2.length:=by rw [hb]; simp; omega
 refine sdel_ptr h.2.2 (by omega) (by omega) (by omega) fun w3 ho3 hu3=>⟨_,_,_,rfl,_,rfl,?_⟩
 have hcells:(pcells r.bs).take (i * 1)++(pcells r.bs).drop (j * 1)=pcells (bs1++bs2):=by
  have h1:pcells r.bs=pcells bs1++(pcells [x]++pcells bs2):=by rw [hb]; simp [pcells]
  have h2:(pcells bs1).length=i * 1:=by simp [pcells]; omega
  have h3:(pcells bs1++pcells [x]).length=j * 1:=by simp [pcells]; omega
  have h4:(pcells r.bs).take (i * 1)=pcells bs1:=by rw [h1,← h2,List.take_left]
  have h5:(pcells r.bs).drop (j * 1)=pcells bs2:=by rw [h1,← List.append_assoc,← h3,List.drop_left]
  rw [h4,h5]
  simp [pcells]
 rw [hcells] at ho3
 exact below_end h (by rw [hl]; simp; omega) ho3 hu3 (fun k hk=>.inl hk) fun w' hm=>hK w' hm
theorem ent_set {k':ByteArray} {v':Value} {c:Addr} (h:RecAt TT w r) (he:r.es=es1++(k,v) :: es2) (hi:es1.length=i) (hv:v'.oneCell'=true) (hc:r.ep=some c) (hK:∀ w',Mv TT w w' [r] [{ r with es:=es1++(k',v') :: es2 }]→Q w') :
  CanSt w ((c.add (i * 2)).add 0)∧∀ w1,w1=w.setCell ((c.add (i * 2)).add 0) (.string k')→CanSt w1 ((c.add (i * 2)).add 1)∧∀ w2,w2=w1.setCell ((c.add (i * 2)).add 1) v'→Q w2:=by
 have hl0:(ecells r.es).length=r.es.length * 2:=ecells_len _
 have hel:r.es.length=es1.length+1+es2.length:=by rw [he]; simp; omega
 rw [Addr.add_two,Addr.add_two]
 obtain ⟨c',hc',hst⟩:=h.2.1.store (j:=i * 2+0) (v:=.string k') (by omega) rfl (K:=fun w1=>CanSt w1 (c.add (i * 2+1))∧∀ w2,w2=w1.setCell (c.add (i * 2+1)) v'→Q w2) fun w1 ho1 hu1 _=>by
  obtain ⟨c'',hc'',hst⟩:=ho1.store (j:=i * 2+1) (v:=v') (by rw [List.length_set]; omega) hv (K:=Q) fun w2 ho2 hu2 _=>by
   have hl:(es1++(k',v') :: es2).length=r.es.length:=by rw [he]; simp
   have hu:=hu1.then hu2
   refine hK w2 (Mv.step h ⟨?_,?_,?_⟩ (hu.mono fun k _ hk=>.inr (.inl hk)) fun k hk=>.inl hk)
   ·show Blk w2 r.a [.slice r.ep (es1++(k',v') :: es2).length r.ec,_] _
    rw [hl]
    exact hu.blk h.1 fun hk=>h.ae h hk rfl
   ·show OwnW w2 _ 2 r.ep (es1++(k',v') :: es2).length r.ec (ecells (es1++(k',v') :: es2))
    rw [hl]
    have e:((ecells r.es).set (i * 2+0) (.string k')).set (i * 2+1) v'=ecells (es1++(k',v') :: es2):=by
     rw [he,ecells_app,ecells_app,List.set_append_right _ _ (by rw [ecells_len]; omega),List.set_append_right _ _ (by rw [ecells_len]; omega),ecells_len,hi,Nat.add_sub_cancel_left,Nat.add_sub_cancel_left]
     rfl
    rw [← e]
    exact ho2
   ·exact h.2.2.upd hu fun k hk hk'=>h.eb h hk' hk
  rw [hc] at hc''
  injection hc'' with hc''
  subst hc''
  exact hst
 rw [hc] at hc'
 injection hc' with hc'
 subst hc'
 exact hst
theorem right_spec {k':ByteArray} {v':Value} {A:List Ent} {X Z:List Nat} (h:RS TT w [r,a,b]) (hv:IsV v) (hv':IsV v') (he:r.es=es1++(k,v) :: es2) (hi:es1.length=i) (hb:r.bs=bs1++a.a :: b.a :: bs2) (hbi:bs1.length=i) (hn:r.bs.length≤100) (hen:r.es.length≤100)
  (hae:a.es=A++[(k',v')]) (hal:a.es.length≤100) (hbl:b.es.length≤100) (hab:a.bs=X++Z) (hZ:(X=[]∧Z=[])∨∃ x,Z=[x]) (ha100:a.bs.length≤100) (hb100:b.bs.length≤100)
  (hK:∀ (r' a' b':Rec) w',r'.a=r.a→r'.es=es1++(k',v') :: es2→r'.bs=r.bs→a'.a=a.a→a'.es=A→a'.bs=X→b'.a=b.a→b'.es=(k,v) :: b.es→b'.bs=Z++b.bs→Mv TT w w' [r,a,b] [r',a',b']→K (.tuple #[]) w') :
  Cv F.z171 #[.pointer (some ⟨r.a,0,none⟩),.int .i64 (i:Int)] w K:=by
 have hv0:=hv
 have hv0':=hv'
 obtain ⟨vs,rfl⟩:=hv
 obtain ⟨us,rfl⟩:=hv'
 exact R.z171 (by
  unfold C.z171
  have hbl0:r.bs.length=bs1.length+2+bs2.length:=by rw [hb]; simp; omega
  have hel0:r.es.length=es1.length+1+es2.length:=by rw [he]; simp; omega
  have hal0:a.es.length=A.length+1:=by rw [hae]; simp
  have hw1:IntKind.i64.wrap ((i:Int)+1)=((i+1:Nat):Int):=by rw [i64_wrap (by omega) (by omega)]; omega
  rw [hw1]
  have hm0:Mv TT w w.drew.drew [r,a,b] [r,a,b]:=Mv.of0 h ((Upd.drew _ _).then (Upd.drew _ _))
  have hmd:Mv TT w w.drew [r,a,b] [r,a,b]:=Mv.of0 h (Upd.drew _ _)
  have hr1:=rs_mem hmd.rs (r:=r) (by simp)
  have hr2:=rs_mem hm0.rs (r:=r) (by simp)
  have hb2:=rs_mem hm0.rs (r:=b) (by simp)
  obtain ⟨c1,hc1,hcc1⟩:=ptr_at hr1 hb hbi
  obtain ⟨c2,hc2,hcc2⟩:=ptr_at (bs1:=bs1++[a.a]) (x:=b.a) (bs2:=bs2) (i:=i+1) hr1 (by rw [hb]; simp) (by simp; omega)
  obtain ⟨c3,hc3,hcc3⟩:=ent_at hr2 he hi
  refine ⟨_,rfl,_,_,_,hr1.1.cell (i:=1) rfl,c1,hc1,by omega,by omega,_,by simpa using hcc1,_,rfl,_,_,_,hr1.1.cell (i:=1) rfl,c2,hc2,by omega,by omega,_,hcc2,_,rfl,_,rfl,_,_,_,hr2.1.cell (i:=0) rfl,c3,hc3,by omega,by omega,_,_,by simpa using hcc3,?_⟩
  refine insert_spec (i:=0) hb2 hv0 (Nat.zero_le _) (by omega) fun ep ec w1 hm1=>⟨rfl,?_⟩
  have hM1:=(hm0.trans (Mv.thd hm0.rs hm1)).more (Upd.drew Nothing _)
  have hr3:=rs_mem hM1.rs (r:=r) (by simp)
  have ha3:=rs_mem hM1.rs (r:=a) (by simp)
  have hw2:IntKind.i64.wrap (((a.es.length:Nat):Int) - 1)=((A.length:Nat):Int):=by rw [i64_wrap (by omega) (by omega)]; omega
  refine ⟨_,rfl,_,_,_,hr3.1.cell (i:=0) rfl,_,rfl,_,rfl,_,_,_,ha3.1.cell (i:=0) rfl,?_⟩
  rw [hw2]
  refine remove_spec (es2:=[]) ha3 hae hv0' rfl (by omega) fun w2 hm2=>⟨_,_,rfl,?_⟩
  rw [List.append_nil] at hm2
  have hM2:=hM1.trans (Mv.snd hM1.rs hm2)
  have hr4:=rs_mem hM2.rs (r:=r) (by simp)
  refine ⟨hr4.1.cell (i:=0) rfl,c3,hc3,by omega,by omega,ent_set (k':=k') (v':=(.string us)) hr4 he hi rfl hc3 fun w4 hm4=>?_⟩
  have hM4:=hM2.trans (Mv.fst hM2.rs hm4)
  have ha4:=rs_mem hM4.rs (r:={ a with es:=A }) (by simp)
  refine leaf_spec (r:={ a with es:=A }) ha4 ⟨_,rfl,ifB_mk (fun hl=>?_) (fun hl=>?_)⟩
  ·have hne:a.bs.length≠0:=by simpa using hl
   obtain ⟨x,rfl⟩:∃ x,Z=[x]:=by
    rcases hZ with ⟨h1,h2⟩ | h
    ·rw [hab,h1,h2] at hne; exact absurd rfl hne
    ·exact h
   have hal4:a.bs.length=X.length+1:=by rw [hab]; simp
   have hw3:IntKind.i64.wrap (((a.bs.length:Nat):Int) - 1)=((X.length:Nat):Int):=by rw [i64_wrap (by omega) (by omega)]; omega
   have hM5:=hM4.more (Upd.drew Nothing _)
   have ha5:=rs_mem hM5.rs (r:={ a with es:=A }) (by simp)
   have hb5:=rs_mem hM5.rs (r:={ b with es:=b.es.take 0++(k,.string vs) :: b.es.drop 0,ep:=ep,ec:=ec }) (by simp)
   obtain ⟨c5,hc5,hcc5⟩:=ptr_at (bs2:=[]) ha5 hab rfl
   refine ⟨_,rfl,a.bp,a.bs.length,a.bc,ha4.1.cell (i:=1) rfl,?_⟩
   rw [hw3]
   refine ⟨_,rfl,b.bp,b.bs.length,b.bc,hb5.1.cell (i:=1) rfl,_,rfl,a.bp,a.bs.length,a.bc,ha5.1.cell (i:=1) rfl,c5,hc5,by omega,by omega,_,by simpa using hcc5,fun g w6 hN=>⟨(hb5.upd (Upd.new hN:Upd Nothing _ _) fun _ _ f=>f).1.cell (i:=1) rfl,?_⟩⟩
   refine bins_set (r:={ b with es:=b.es.take 0++(k,.string vs) :: b.es.drop 0,ep:=ep,ec:=ec }) (bs1:=[]) (bs2:=b.bs) (i:=0) hb5 hN rfl rfl (by show b.bs.length≤1000; omega) fun p c w8 hm8=>?_
   have hM8:=hM5.trans (Mv.thd hM5.rs hm8)
   have ha8:=rs_mem hM8.rs (r:={ a with es:=A }) (by simp)
   have hac:=ha8.2.2.le
   refine ⟨_,rfl,a.bp,a.bs.length,a.bc,ha8.1.cell (i:=1) rfl,by omega,by have:a.bs.length≤a.bc:=hac; omega,_,rfl,?_⟩
   rw [cutAt_zero]
   have hocut:=ha8.2.2.cut (k:=X.length) (d:=a.bc) (by show X.length≤a.bs.length; omega) (by have:a.bs.length≤a.bc:=hac; omega) (Nat.le_refl _)
   have hXe:(pcells a.bs).take (X.length * 1)=pcells X:=by rw [hab]; simp [pcells]
   have hocut':OwnW w8 TT.tq 1 a.bp X.length a.bc (pcells X):=by rw [← hXe]; exact hocut
   refine RecAt.set1' (r:={ a with es:=A }) ha8 (by simp) hocut' fun w9 ha9 hu9 _=>?_
   have hst9:Mv TT w8 w9 [{ a with es:=A }] [{ a with es:=A,bs:=X }]:=Mv.step ha8 ha9 (hu9.mono fun k _ hk=>.inl hk) fun k hk=>.inl hk
   exact hK { r with es:=es1++(k',.string us) :: es2 } { a with es:=A,bs:=X } { b with es:=b.es.take 0++(k,.string vs) :: b.es.drop 0,ep:=ep,ec:=ec,bp:=p,bc:=c,bs:=[]++x :: b.bs } w9 rfl rfl rfl rfl rfl rfl rfl (by simp) rfl (hM8.trans (Mv.snd hM8.rs hst9))
  ·have hz:a.bs.length=0:=by simpa using hl
   have h0:X=[]∧Z=[]:=by
    have:a.bs=[]:=List.length_eq_zero_iff.1 hz
    rw [hab] at this
    exact List.append_eq_nil_iff.1 this
   exact hK { r with es:=es1++(k',.string us) :: es2 } { a with es:=A } { b with es:=b.es.take 0++(k,.string vs) :: b.es.drop 0,ep:=ep,ec:=ec } w4 rfl rfl rfl rfl rfl (by show a.bs=X; rw [hab,h0.1,h0.2]; rfl) rfl (by simp) (by show b.bs=Z++b.bs; rw [h0.2]; rfl) hM4)
theorem all_end {p:Option Addr} {n c:Nat} {es:List Ent} (h:RecAt TT w0 r) (hn:es.length=n) (ho:OwnW w T.tree_entry_string 2 p n c (ecells es)) (hu:Upd (fun k=>Fp r.ep r.ec k) w0 w) (hf:∀ k,Fp p c k→Fp r.ep r.ec k∨w0.heap.size≤k)
  (hK:∀ w',Mv TT w0 w' [r] [{ r with ep:=p,ec:=c,es:=es }]→Q w'):CanSt w ⟨r.a,0,none⟩∧∀ w',w'=w.setCell ⟨r.a,0,none⟩ (.slice p n c)→Q w':=by
 subst hn
 have hb:=hu.blk h.1 fun hk=>h.ae h hk rfl
 refine hb.store (i:=0) (by simp) rfl fun w4 hb4 hu4 hs4=>hK w4 (Mv.step h ⟨hb4,ho.upd hu4 fun k hk e=>?_,(h.2.2.upd hu fun k hk hk'=>h.eb h hk' hk).upd hu4 fun k hk e=>h.ab h hk e⟩ ((hu.then' hu4).mono fun k _ hk=>hk.elim (fun h=>.inr (.inl h)) fun h=>.inl h) fun k hk=>?_)
 ·obtain ⟨l,hb'⟩:=ho.blk hk
  have e':k=r.a:=e
  subst e'
  exact TT.h1 (hb.same hb').2
 ·rcases hk with hk | hk | hk
  ·exact .inl (.inl hk)
  ·rcases hf k hk with h | h
   ·exact .inl (.inr (.inl h))
   ·exact .inr h
  ·exact .inl (.inr (.inr hk))
theorem bapp_set {ys:List Nat} {q:Option Addr} {m d:Nat} (h:RecAt TT w r) (hat:At w q (pcells ys)) (hm:ys.length=m) (hn:r.bs.length≤1000) (hm2:m≤1000) (hK:∀ p c w',Mv TT w w' [r] [{ r with bp:=p,bc:=c,bs:=r.bs++ys }]→Q w') :
  BuiltV prog .append #[T.s_p_tree_page_string,T.s_p_tree_page_string] T.s_p_tree_page_string #[.slice r.bp r.bs.length r.bc,.slice q m d] w (fun v4 wv7=>∃ (r2p:Option Addr) (r2n r2c:Nat),v4 = .slice r2p r2n r2c∧∃ ea7,some (Addr.mk r.a 0 none)=some ea7∧CanSt wv7 (ea7.add 1)∧∀ wv8,wv8=wv7.setCell (ea7.add 1) (.slice r2p r2n r2c)→Q wv8):=by
 refine append_ownW sptr (.inl sptr.desc) h.2.2 (Src.slice (m:=m) hat (by rw [pcells_len,hm,Nat.mul_one]) (pcells_one _)) (by decide) (by decide) (by omega) fun p' c' w3 ho3 hu3 hf3=>⟨_,_,_,rfl,_,rfl,?_⟩
 have hcells:pcells r.bs++pcells ys=pcells (r.bs++ys):=by simp [pcells]
 rw [hcells] at ho3
 exact below_end h (by simp; omega) ho3 hu3 hf3 fun w' hm=>hK p' c' w' hm
theorem eapp_set {ys:List Ent} {q:Option Addr} {m d:Nat} (h:RecAt TT w r) (hat:At w q (ecells ys)) (h1:∀ u∈ecells ys,u.oneCell'=true) (hm:ys.length=m) (hn:r.es.length≤1000) (hm2:m≤1000) (hK:∀ p c w',Mv TT w w' [r] [{ r with ep:=p,ec:=c,es:=r.es++ys }]→Q w') :
  BuiltV prog .append #[T.s_tree_entry_string,T.s_tree_entry_string] T.s_tree_entry_string #[.slice r.ep r.es.length r.ec,.slice q m d] w (fun v4 wv7=>∃ (r2p:Option Addr) (r2n r2c:Nat),v4 = .slice r2p r2n r2c∧∃ ea7,some (Addr.mk r.a 0 none)=some ea7∧CanSt wv7 ((ea7.add 0).add 0)∧∀ wv8,wv8=wv7.setCell ((ea7.add 0).add 0) (.slice r2p r2n r2c)→Q wv8):=by
 refine append_ownW sent (.inl sent.desc) h.2.1 (Src.slice (m:=m) hat (by rw [ecells_len,hm]) h1) (by decide) (by decide) (by omega) fun p' c' w3 ho3 hu3 hf3=>⟨_,_,_,rfl,_,rfl,?_⟩
 rw [← ecells_app] at ho3
 exact all_end h (by simp; omega) ho3 hu3 hf3 fun w' hm=>hK p' c' w' hm
theorem left_spec {k':ByteArray} {v':Value} {B:List Ent} {Y Z:List Nat} (h:RS TT w [r,a,b]) (hv:IsV v) (hv':IsV v') (he:r.es=es1++(k,v) :: es2) (hi:es1.length=i) (hb:r.bs=bs1++a.a :: b.a :: bs2) (hbi:bs1.length=i) (hn:r.bs.length≤100) (hen:r.es.length≤100)
  (hbe:b.es=(k',v') :: B) (hal:a.es.length≤100) (hbl:b.es.length≤100) (hbb:b.bs=Z++Y) (hZ:(Y=[]∧Z=[])∨∃ x,Z=[x]) (ha100:a.bs.length≤100) (hb100:b.bs.length≤100)
  (hK:∀ (r' a' b':Rec) w',r'.a=r.a→r'.es=es1++(k',v') :: es2→r'.bs=r.bs→a'.a=a.a→a'.es=a.es++[(k,v)]→a'.bs=a.bs++Z→b'.a=b.a→b'.es=B→b'.bs=Y→Mv TT w w' [r,a,b] [r',a',b']→K (.tuple #[]) w') :
  Cv F.z168 #[.pointer (some ⟨r.a,0,none⟩),.int .i64 (i:Int)] w K:=by
 have hv0:=hv
 have hv0':=hv'
 obtain ⟨vs,rfl⟩:=hv
 obtain ⟨us,rfl⟩:=hv'
 exact R.z168 (by
  unfold C.z168
  have hbl0:r.bs.length=bs1.length+2+bs2.length:=by rw [hb]; simp; omega
  have hel0:r.es.length=es1.length+1+es2.length:=by rw [he]; simp; omega
  have hbl1:b.es.length=B.length+1:=by rw [hbe]; simp
  have hw1:IntKind.i64.wrap ((i:Int)+1)=((i+1:Nat):Int):=by rw [i64_wrap (by omega) (by omega)]; omega
  rw [hw1]
  have hm0:Mv TT w w.drew.drew [r,a,b] [r,a,b]:=Mv.of0 h ((Upd.drew _ _).then (Upd.drew _ _))
  have hmd:Mv TT w w.drew [r,a,b] [r,a,b]:=Mv.of0 h (Upd.drew _ _)
  have hr1:=rs_mem hmd.rs (r:=r) (by simp)
  have hr2:=rs_mem hm0.rs (r:=r) (by simp)
  have ha2:=rs_mem hm0.rs (r:=a) (by simp)
  obtain ⟨c1,hc1,hcc1⟩:=ptr_at hr1 hb hbi
  obtain ⟨c2,hc2,hcc2⟩:=ptr_at (bs1:=bs1++[a.a]) (x:=b.a) (bs2:=bs2) (i:=i+1) hr1 (by rw [hb]; simp) (by simp; omega)
  obtain ⟨c3,hc3,hcc3⟩:=ent_at hr2 he hi
  refine ⟨_,rfl,_,_,_,hr1.1.cell (i:=1) rfl,c1,hc1,by omega,by omega,_,by simpa using hcc1,_,rfl,_,_,_,hr1.1.cell (i:=1) rfl,c2,hc2,by omega,by omega,_,hcc2,_,rfl,_,rfl,_,_,_,ha2.1.cell (i:=0) rfl,_,rfl,_,_,_,hr2.1.cell (i:=0) rfl,c3,hc3,by omega,by omega,_,_,by simpa using hcc3,?_⟩
  refine insert_spec ha2 hv0 (Nat.le_refl _) (by omega) fun ep ec w1 hm1=>⟨rfl,?_⟩
  have hM1:=(hm0.trans (Mv.snd hm0.rs hm1)).more (Upd.drew Nothing _)
  have hr3:=rs_mem hM1.rs (r:=r) (by simp)
  have hb3:=rs_mem hM1.rs (r:=b) (by simp)
  refine ⟨_,rfl,_,_,_,hr3.1.cell (i:=0) rfl,_,rfl,?_⟩
  refine remove_spec (es1:=[]) (es2:=B) (i:=0) hb3 hbe hv0' rfl (by omega) fun w2 hm2=>⟨_,_,rfl,?_⟩
  rw [List.nil_append] at hm2
  have hM2:=hM1.trans (Mv.thd hM1.rs hm2)
  have hr4:=rs_mem hM2.rs (r:=r) (by simp)
  refine ⟨hr4.1.cell (i:=0) rfl,c3,hc3,by omega,by omega,ent_set (k':=k') (v':=(.string us)) hr4 he hi rfl hc3 fun w4 hm4=>?_⟩
  have hM4:=hM2.trans (Mv.fst hM2.rs hm4)
  have hb4:=rs_mem hM4.rs (r:={ b with es:=B }) (by simp)
  refine leaf_spec (r:={ b with es:=B }) hb4 ⟨_,rfl,ifB_mk (fun hl=>?_) (fun hl=>?_)⟩
  ·have hne:b.bs.length≠0:=by simpa using hl
   obtain ⟨x,rfl⟩:∃ x,Z=[x]:=by
    rcases hZ with ⟨h1,h2⟩ | h
    ·rw [hbb,h1,h2] at hne; exact absurd rfl hne
    ·exact h
   have hbl4:b.bs.length=Y.length+1:=by rw [hbb]; simp
   have hM5:=hM4.more (Upd.drew Nothing _)
   have ha5:=rs_mem hM5.rs (r:={ a with es:=a.es.take a.es.length++(k,.string vs) :: a.es.drop a.es.length,ep:=ep,ec:=ec }) (by simp)
   have hb5:=rs_mem hM5.rs (r:={ b with es:=B }) (by simp)
   obtain ⟨c5,hc5,hcc5⟩:=ptr_at (bs1:=[]) (x:=x) (bs2:=Y) (i:=0) hb5 hbb rfl
   refine ⟨_,rfl,a.bp,a.bs.length,a.bc,ha5.1.cell (i:=1) rfl,_,rfl,b.bp,b.bs.length,b.bc,hb5.1.cell (i:=1) rfl,c5,hc5,by omega,by omega,_,by simpa using hcc5,New.use (by simp [Value.oneCell']) fun g w6 hg6 hu6 hge6 _=>?_⟩
   have hM6:=hM5.more hu6
   have ha6:=rs_mem hM6.rs (r:={ a with es:=a.es.take a.es.length++(k,.string vs) :: a.es.drop a.es.length,ep:=ep,ec:=ec }) (by simp)
   refine ⟨ha6.1.cell (i:=1) rfl,bapp_set (r:={ a with es:=a.es.take a.es.length++(k,.string vs) :: a.es.drop a.es.length,ep:=ep,ec:=ec }) (ys:=[x]) ha6 (At.of_blk hg6 fun j v hj=>by rw [Nat.zero_add]; exact hj) rfl (by show a.bs.length≤1000; omega) (by decide) fun p c w8 hm8=>?_⟩
   have hM8:=hM6.trans (Mv.snd hM6.rs hm8)
   have hb8:=rs_mem hM8.rs (r:={ b with es:=B }) (by simp)
   refine ⟨_,rfl,b.bp,b.bs.length,b.bc,hb8.1.cell (i:=1) rfl,bdel_set (r:={ b with es:=B }) (bs1:=[]) (x:=x) (bs2:=Y) (i:=0) (j:=1) hb8 hbb rfl rfl (by show b.bs.length≤1000; omega) fun w10 hm10=>?_⟩
   exact hK { r with es:=es1++(k',.string us) :: es2 } { a with es:=a.es.take a.es.length++(k,.string vs) :: a.es.drop a.es.length,ep:=ep,ec:=ec,bp:=p,bc:=c,bs:=a.bs++[x] } { b with es:=B,bs:=[]++Y } w10 rfl rfl rfl rfl (by simp) rfl rfl rfl rfl (hM8.trans (Mv.thd hM8.rs hm10))
  ·have hz:b.bs.length=0:=by simpa using hl
   have h0:Z=[]∧Y=[]:=by
    have:b.bs=[]:=List.length_eq_zero_iff.1 hz
    rw [hbb] at this
    exact List.append_eq_nil_iff.1 this
   exact hK { r with es:=es1++(k',.string us) :: es2 } { a with es:=a.es.take a.es.length++(k,.string vs) :: a.es.drop a.es.length,ep:=ep,ec:=ec } { b with es:=B } w4 rfl rfl rfl rfl (by simp) (by show a.bs=a.bs++Z; rw [h0.1]; simp) rfl rfl (by show b.bs=Y; rw [hbb,h0.1]; rfl) hM4)
theorem join_spec {B:List Ent} {Y:List Nat} (h:RS TT w [r,a,b]) (hv:IsV v) (he:r.es=es1++(k,v) :: es2) (hi:es1.length=i) (hb:r.bs=bs1++a.a :: b.a :: bs2) (hbi:bs1.length=i) (hn:r.bs.length≤100) (hen:r.es.length≤100)
  (hbe:b.es=B) (hal:a.es.length≤100) (hbl:b.es.length≤100) (hbb:b.bs=Y) (ha100:a.bs.length≤100) (hb100:b.bs.length≤100)
  (hK:∀ (r' a':Rec) w',r'.a=r.a→r'.es=es1++es2→r'.bs=bs1++a.a :: bs2→a'.a=a.a→a'.es=a.es++(k,v) :: B→a'.bs=a.bs++Y→Mv TT w w' [r,a,b] [r',a']→K (.tuple #[]) w') :
  Cv F.z165 #[.pointer (some ⟨r.a,0,none⟩),.int .i64 (i:Int)] w K:=by
 have hv0:=hv
 obtain ⟨vs,rfl⟩:=hv
 subst hbe
 subst hbb
 exact R.z165 (by
  unfold C.z165
  have hbl0:r.bs.length=bs1.length+2+bs2.length:=by rw [hb]; simp; omega
  have hel0:r.es.length=es1.length+1+es2.length:=by rw [he]; simp; omega
  have hw1:IntKind.i64.wrap ((i:Int)+1)=((i+1:Nat):Int):=by rw [i64_wrap (by omega) (by omega)]; omega
  have hw2:IntKind.i64.wrap ((i:Int)+2)=((i+1+1:Nat):Int):=by rw [i64_wrap (by omega) (by omega)]; omega
  rw [hw1,hw2]
  have hm0:Mv TT w w.drew.drew [r,a,b] [r,a,b]:=Mv.of0 h ((Upd.drew _ _).then (Upd.drew _ _))
  have hmd:Mv TT w w.drew [r,a,b] [r,a,b]:=Mv.of0 h (Upd.drew _ _)
  have hr1:=rs_mem hmd.rs (r:=r) (by simp)
  have hr2:=rs_mem hm0.rs (r:=r) (by simp)
  have ha2:=rs_mem hm0.rs (r:=a) (by simp)
  obtain ⟨c1,hc1,hcc1⟩:=ptr_at hr1 hb hbi
  obtain ⟨c2,hc2,hcc2⟩:=ptr_at (bs1:=bs1++[a.a]) (x:=b.a) (bs2:=bs2) (i:=i+1) hr1 (by rw [hb]; simp) (by simp; omega)
  refine ⟨_,rfl,_,_,_,hr1.1.cell (i:=1) rfl,c1,hc1,by omega,by omega,_,by simpa using hcc1,_,rfl,_,_,_,hr1.1.cell (i:=1) rfl,c2,hc2,by omega,by omega,_,hcc2,_,rfl,_,rfl,_,_,_,ha2.1.cell (i:=0) rfl,_,rfl,?_⟩
  refine remove_spec hr2 he hv0 hi (by omega) fun w1 hm1=>⟨_,_,rfl,?_⟩
  have hM1:=hm0.trans (Mv.fst hm0.rs hm1)
  have ha3:=rs_mem hM1.rs (r:=a) (by simp)
  refine ⟨ha3.1.cell (i:=0) rfl,insert_spec ha3 hv0 (Nat.le_refl _) (by omega) fun ep ec w2 hm2=>⟨rfl,?_⟩⟩
  have hM2:=(hM1.trans (Mv.snd hM1.rs hm2)).more (Upd.drew Nothing _)
  have ha4:=rs_mem hM2.rs (r:={ a with es:=a.es.take a.es.length++(k,.string vs) :: a.es.drop a.es.length,ep:=ep,ec:=ec }) (by simp)
  have hb4:=rs_mem hM2.rs (r:=b) (by simp)
  have hlen:(a.es.take a.es.length++(k,.string vs) :: a.es.drop a.es.length).length=a.es.length+1:=by simp
  refine ⟨_,rfl,ep,(a.es.take a.es.length++(k,.string vs) :: a.es.drop a.es.length).length,ec,ha4.1.cell (i:=0) rfl,_,rfl,b.ep,b.es.length,b.ec,hb4.1.cell (i:=0) rfl,?_⟩
  refine eapp_set (r:={ a with es:=a.es.take a.es.length++(k,.string vs) :: a.es.drop a.es.length,ep:=ep,ec:=ec }) (ys:=b.es) ha4 hb4.2.1.at hb4.2.1.one rfl (by show (a.es.take a.es.length++(k,.string vs) :: a.es.drop a.es.length).length≤1000; omega) (by omega) fun p3 q3 w4 hm4=>?_
  have hM4:=(hM2.trans (Mv.snd hM2.rs hm4)).more (Upd.drew Nothing _)
  have ha5:=rs_mem hM4.rs (r:={ a with es:=(a.es.take a.es.length++(k,.string vs) :: a.es.drop a.es.length)++b.es,ep:=p3,ec:=q3 }) (by simp)
  have hb5:=rs_mem hM4.rs (r:=b) (by simp)
  refine ⟨_,rfl,a.bp,a.bs.length,a.bc,ha5.1.cell (i:=1) rfl,_,rfl,b.bp,b.bs.length,b.bc,hb5.1.cell (i:=1) rfl,?_⟩
  refine bapp_set (r:={ a with es:=(a.es.take a.es.length++(k,.string vs) :: a.es.drop a.es.length)++b.es,ep:=p3,ec:=q3 }) (ys:=b.bs) ha5 hb5.2.2.at rfl (by show a.bs.length≤1000; omega) (by omega) fun p5 q5 w6 hm6=>?_
  have hM6:=hM4.trans (Mv.snd hM4.rs hm6)
  have hr6:=rs_mem hM6.rs (r:={ r with es:=es1++es2 }) (by simp)
  refine ⟨_,rfl,r.bp,r.bs.length,r.bc,hr6.1.cell (i:=1) rfl,bdel_set (r:={ r with es:=es1++es2 }) (bs1:=bs1++[a.a]) (x:=b.a) (bs2:=bs2) (i:=i+1) (j:=i+1+1) hr6 (by show r.bs=_; rw [hb]; simp) (by simp; omega) rfl (by show r.bs.length≤1000; omega) fun w8 hm8=>?_⟩
  have hM8:=hM6.trans (Mv.fst hM6.rs hm8)
  exact hK { r with es:=es1++es2,bs:=bs1++[a.a]++bs2 } { a with es:=(a.es.take a.es.length++(k,.string vs) :: a.es.drop a.es.length)++b.es,ep:=p3,ec:=q3,bp:=p5,bc:=q5,bs:=a.bs++b.bs } w8 rfl rfl (by simp) rfl (by simp) rfl (Mv.drop (A':=[_,_]) (B:=[b]) hM8))
end
end Ts
end Go.Proofs.YtjcgociobhhijaaGreatDoor
namespace Go.Proofs.YtjcgociobhhijaaGreatDoor.SX
open Go
namespace Bt
theorem rw_app:∀ {A B:List Ent} {X Y:List (List Ent)},X.length=A.length→rw' (A++B) (X++Y)=rw' A X++rw' B Y
 | [],_,[],_,_=>rfl
 | [],_,_ :: _,_,h=>by simp at h
 | e :: A,_,[],_,h=>by simp at h
 | e :: A,B,x :: X,Y,h=>by
  have ih:=rw_app (A:=A) (B:=B) (X:=X) (Y:=Y) (by simpa using h)
  simp [rw',ih]
theorem weave_app {A B:List Ent} {X Y:List (List Ent)} {e:Ent} (h:X.length=A.length+1) (hY:Y≠[]):weave (A++e :: B) (X++Y)=weave A X++e :: weave B Y:=by
 obtain ⟨y,Y,rfl⟩:=List.exists_cons_of_ne_nil hY
 cases X with
 | nil=>simp at h
 | cons x X=>
  show x++rw' (A++e :: B) (X++y :: Y)=x++rw' A X++e :: (y++rw' B Y)
  rw [rw_app (by simpa using h)]
  simp [rw']
def movRx:(h:Nat)→Pg h→Rec→Pg h
 | 0,_,r=>r
 | _+1,x,r=>(r,x.2.take (x.2.length - 1))
def movRy:(h:Nat)→Pg h→Pg h→Rec→Pg h
 | 0,_,_,r=>r
 | _+1,x,y,r=>(r,x.2.drop (x.2.length - 1)++y.2)
def movLx:(h:Nat)→Pg h→Pg h→Rec→Pg h
 | 0,_,_,r=>r
 | _+1,x,y,r=>(r,x.2++y.2.take 1)
def movLy:(h:Nat)→Pg h→Rec→Pg h
 | 0,_,r=>r
 | _+1,y,r=>(r,y.2.drop 1)
def catP:(h:Nat)→Pg h→Pg h→Rec→Pg h
 | 0,_,_,r=>r
 | _+1,x,y,r=>(r,x.2++y.2)
theorem cat_law:∀ {h lx hx ly hy:Nat} {x y:Pg h} {r:Rec} {e:Ent},Ok h lx hx x→Ok h ly hy y→r.es=(root h x).es++e :: (root h y).es→r.bs=(root h x).bs++(root h y).bs→2≤r.es.length→r.es.length≤5→
  toL h (catP h x y r)=toL h x++e :: toL h y∧Ok h 2 5 (catP h x y r)∧root h (catP h x y r)=r∧subs h (catP h x y r)=subs h x++subs h y
 | 0,_,_,_,_,x,y,r,e,hox,hoy,he,hb,h1,h2=>⟨he,⟨hb.trans (by rw [show (root 0 x).bs=[] from hox.1,show (root 0 y).bs=[] from hoy.1]; rfl),h1,h2⟩,rfl,rfl⟩
 | h+1,_,_,_,_,(rx,xs),(ry,ys),r,e,hox,hoy,he,hb,h1,h2=>by
  obtain ⟨bx,lx,_,_,kx⟩:=hox
  obtain ⟨by',ly,_,_,ky⟩:=hoy
  have lx':xs.length=rx.es.length+1:=lx
  have ly':ys.length=ry.es.length+1:=ly
  have he':r.es=rx.es++e :: ry.es:=he
  refine ⟨?_,⟨?_,?_,h1,h2,fun c hc=>?_⟩,rfl,?_⟩
  ·show weave r.es ((xs++ys).map (toL h))=weave rx.es (xs.map (toL h))++e :: weave ry.es (ys.map (toL h))
   rw [he',List.map_append]
   exact weave_app (by rw [List.length_map]; exact lx') fun h0=>by
    have:=congrArg List.length h0
    rw [List.length_map] at this
    simp at this
    rw [this] at ly'
    simp at ly'
  ·show r.bs=(xs++ys).map fun c=>(root h c).a
   have b1:rx.bs=xs.map fun c=>(root h c).a:=bx
   have b2:ry.bs=ys.map fun c=>(root h c).a:=by'
   rw [hb,List.map_append]
   show rx.bs++ry.bs=_
   rw [b1,b2]
  ·show (xs++ys).length=r.es.length+1
   rw [he',List.length_append,List.length_append,List.length_cons]
   omega
  ·rcases List.mem_append.1 hc with hc | hc
   ·exact kx c hc
   ·exact ky c hc
  ·show (xs++ys).flatMap (recs h)=xs.flatMap (recs h)++ys.flatMap (recs h)
   rw [List.flatMap_append]
theorem dropLast_at {α:Type} {l:List α} {n:Nat} (h:l.length=n+1):∃ X z,l=X++[z]∧X.length=n∧l.take (l.length - 1)=X∧l.drop (l.length - 1)=[z]:=by
 have hlt:n < l.length:=by omega
 have hd:l=l.take n++[l[n]]:=by
  have:=List.drop_eq_getElem_cons hlt
  rw [List.drop_of_length_le (by omega:l.length≤n+1)] at this
  rw [← this,List.take_append_drop]
 have e:l.length - 1=n:=by omega
 refine ⟨l.take n,l[n],hd,by rw [List.length_take]; omega,by rw [e],?_⟩
 rw [e]
 have:=List.drop_eq_getElem_cons hlt
 rw [List.drop_of_length_le (by omega:l.length≤n+1)] at this
 exact this
theorem movR_law {h lx hx ly hy:Nat} {x y:Pg h} (hox:Ok h lx hx x) (hoy:Ok h ly hy y) (h3:3≤(root h x).es.length) (h5:(root h x).es.length≤5) (hy1:1≤(root h y).es.length) (hy4:(root h y).es.length≤4) :
  ∃ (A:List Ent) (k':ByteArray) (v':Value) (X Z:List Nat),(root h x).es=A++[(k',v')]∧(root h x).bs=X++Z∧((X=[]∧Z=[])∨∃ z,Z=[z])∧∀ (ra rb:Rec) (e:Ent),ra.es=A→ra.bs=X→rb.es=e :: (root h y).es→rb.bs=Z++(root h y).bs→
   toL h x++e :: toL h y=toL h (movRx h x ra)++(k',v') :: toL h (movRy h x y rb)∧Ok h 2 5 (movRx h x ra)∧Ok h 2 5 (movRy h x y rb)∧root h (movRx h x ra)=ra∧root h (movRy h x y rb)=rb∧subs h x++subs h y=subs h (movRx h x ra)++subs h (movRy h x y rb):=by
 obtain ⟨A,⟨k',v'⟩,hA,lA,_,_⟩:=dropLast_at (l:=(root h x).es) (n:=(root h x).es.length - 1) (by omega)
 match h,x,y,hox,hoy,h3,h5,hy1,hy4,hA,lA with
 | 0,x,y,hox,hoy,h3,h5,hy1,hy4,hA,lA=>
  refine ⟨A,k',v',[],[],hA,hox.1,.inl ⟨rfl,rfl⟩,fun ra rb e h1 h2 h3' h4=>⟨?_,⟨h2,?_,?_⟩,⟨h4.trans hoy.1,?_,?_⟩,rfl,rfl,rfl⟩⟩
  ·show (root 0 x).es++e :: (root 0 y).es=ra.es++(k',v') :: rb.es
   rw [h1,h3',hA]; simp
  ·show 2≤ra.es.length
   rw [h1]; omega
  ·show ra.es.length≤5
   rw [h1]; omega
  ·show 2≤rb.es.length
   rw [h3',List.length_cons]; omega
  ·show rb.es.length≤5
   rw [h3',List.length_cons]; omega
 | h+1,(rx,xs),(ry,ys),hox,hoy,h3,h5,hy1,hy4,hA,lA=>
  obtain ⟨bx,lx,_,_,kx⟩:=hox
  obtain ⟨by',ly,_,_,ky⟩:=hoy
  have lx':xs.length=rx.es.length+1:=lx
  have ly':ys.length=ry.es.length+1:=ly
  have hA':rx.es=A++[(k',v')]:=hA
  have hAl:rx.es.length=A.length+1:=by rw [hA']; simp
  obtain ⟨X,z,hX,lX,hT,hD⟩:=dropLast_at (l:=xs) (n:=A.length+1) (by omega)
  have b1:rx.bs=xs.map fun c=>(root h c).a:=bx
  have b2:ry.bs=ys.map fun c=>(root h c).a:=by'
  refine ⟨A,k',v',X.map fun c=>(root h c).a,[(root h z).a],hA,by show rx.bs=_; rw [b1,hX]; simp,.inr ⟨_,rfl⟩,fun ra rb e h1 h2 h3' h4=>?_⟩
  have e1:movRx (h+1) (rx,xs) ra=(ra,X):=by show (ra,xs.take (xs.length - 1))=_; rw [hT]
  have e2:movRy (h+1) (rx,xs) (ry,ys) rb=(rb,z :: ys):=by show (rb,xs.drop (xs.length - 1)++ys)=_; rw [hD]; rfl
  rw [e1,e2]
  have h3'':rb.es=e :: ry.es:=h3'
  have hyn:ys.map (toL h)≠[]:=fun h0=>by
   have:=congrArg List.length h0
   rw [List.length_map,ly'] at this
   simp at this
  refine ⟨?_,⟨h2,?_,?_,?_,fun c hc=>kx c (by rw [hX]; simp [hc])⟩,⟨?_,?_,?_,?_,fun c hc=>?_⟩,rfl,rfl,?_⟩
  ·show weave rx.es (xs.map (toL h))++e :: weave ry.es (ys.map (toL h))=weave ra.es (X.map (toL h))++(k',v') :: weave rb.es ((z :: ys).map (toL h))
   rw [h1,h3'',hA',hX,List.map_append,List.map_cons,weave_app (B:=[]) (by rw [List.length_map,lX]) (by simp)]
   have hw:weave (e :: ry.es) (toL h z :: ys.map (toL h))=toL h z++e :: weave ry.es (ys.map (toL h)):=by
    obtain ⟨y0,Y0,hY0⟩:=List.exists_cons_of_ne_nil hyn
    rw [hY0]
    rfl
   rw [List.map_cons,hw]
   simp [weave,rw']
  ·show X.length=ra.es.length+1
   rw [h1,lX]
  ·show 2≤ra.es.length
   have:3≤rx.es.length:=h3
   rw [h1]; omega
  ·show ra.es.length≤5
   have:rx.es.length≤5:=h5
   rw [h1]; omega
  ·show rb.bs=(z :: ys).map fun c=>(root h c).a
   rw [h4]
   show [(root h z).a]++ry.bs=_
   rw [b2]; rfl
  ·show (z :: ys).length=rb.es.length+1
   rw [h3'',List.length_cons,List.length_cons]; omega
  ·show 2≤rb.es.length
   have:1≤ry.es.length:=hy1
   rw [h3'',List.length_cons]; omega
  ·show rb.es.length≤5
   have:ry.es.length≤4:=hy4
   rw [h3'',List.length_cons]; omega
  ·rcases List.mem_cons.1 hc with rfl | hc
   ·exact kx c (by rw [hX]; simp)
   ·exact ky c hc
  ·show xs.flatMap (recs h)++ys.flatMap (recs h)=X.flatMap (recs h)++(z :: ys).flatMap (recs h)
   rw [hX,List.flatMap_append]
   simp
theorem movL_law {h lx hx ly hy:Nat} {x y:Pg h} (hox:Ok h lx hx x) (hoy:Ok h ly hy y) (h3:3≤(root h y).es.length) (h5:(root h y).es.length≤5) (hx1:1≤(root h x).es.length) (hx4:(root h x).es.length≤4) :
  ∃ (k':ByteArray) (v':Value) (B:List Ent) (Z Y:List Nat),(root h y).es=(k',v') :: B∧(root h y).bs=Z++Y∧((Y=[]∧Z=[])∨∃ z,Z=[z])∧∀ (ra rb:Rec) (e:Ent),ra.es=(root h x).es++[e]→ra.bs=(root h x).bs++Z→rb.es=B→rb.bs=Y→
   toL h x++e :: toL h y=toL h (movLx h x y ra)++(k',v') :: toL h (movLy h y rb)∧Ok h 2 5 (movLx h x y ra)∧Ok h 2 5 (movLy h y rb)∧root h (movLx h x y ra)=ra∧root h (movLy h y rb)=rb∧subs h x++subs h y=subs h (movLx h x y ra)++subs h (movLy h y rb):=by
 obtain ⟨⟨k',v'⟩,B,hB⟩:=List.exists_cons_of_ne_nil (show (root h y).es≠[] from fun h0=>by rw [h0] at h3; simp at h3)
 match h,x,y,hox,hoy,h3,h5,hx1,hx4,hB with
 | 0,x,y,hox,hoy,h3,h5,hx1,hx4,hB=>
  have hBl:(root 0 y).es.length=B.length+1:=by rw [hB]; simp
  refine ⟨k',v',B,[],[],hB,hoy.1,.inl ⟨rfl,rfl⟩,fun ra rb e h1 h2 h3' h4=>⟨?_,⟨h2.trans (by rw [show (root 0 x).bs=[] from hox.1]; rfl),?_,?_⟩,⟨h4,?_,?_⟩,rfl,rfl,rfl⟩⟩
  ·show (root 0 x).es++e :: (root 0 y).es=ra.es++(k',v') :: rb.es
   rw [h1,h3',hB]; simp
  ·show 2≤ra.es.length
   rw [h1,List.length_append,List.length_singleton]; omega
  ·show ra.es.length≤5
   rw [h1,List.length_append,List.length_singleton]; omega
  ·show 2≤rb.es.length
   rw [h3']; omega
  ·show rb.es.length≤5
   rw [h3']; omega
 | h+1,(rx,xs),(ry,ys),hox,hoy,h3,h5,hx1,hx4,hB=>
  obtain ⟨bx,lx,_,_,kx⟩:=hox
  obtain ⟨by',ly,_,_,ky⟩:=hoy
  have lx':xs.length=rx.es.length+1:=lx
  have ly':ys.length=ry.es.length+1:=ly
  have hB':ry.es=(k',v') :: B:=hB
  have hBl:ry.es.length=B.length+1:=by rw [hB']; simp
  have h3b:3≤ry.es.length:=h3
  have h5b:ry.es.length≤5:=h5
  have hx1b:1≤rx.es.length:=hx1
  have hx4b:rx.es.length≤4:=hx4
  obtain ⟨z,Y,rfl⟩:=List.exists_cons_of_ne_nil (show ys≠[] from fun h0=>by rw [h0] at ly'; simp at ly')
  have lY:Y.length=B.length+1:=by rw [List.length_cons] at ly'; omega
  have b1:rx.bs=xs.map fun c=>(root h c).a:=bx
  have b2:ry.bs=(z :: Y).map fun c=>(root h c).a:=by'
  refine ⟨k',v',B,[(root h z).a],Y.map fun c=>(root h c).a,hB,by show ry.bs=_; rw [b2]; rfl,.inr ⟨_,rfl⟩,fun ra rb e h1 h2 h3' h4=>?_⟩
  have h1':ra.es=rx.es++[e]:=h1
  show weave rx.es (xs.map (toL h))++e :: weave ry.es ((z :: Y).map (toL h))=weave ra.es ((xs++[z]).map (toL h))++(k',v') :: weave rb.es (Y.map (toL h))∧Ok (h+1) 2 5 (ra,xs++[z])∧Ok (h+1) 2 5 (rb,Y)∧ra=ra∧rb=rb∧xs.flatMap (recs h)++(z :: Y).flatMap (recs h)=(xs++[z]).flatMap (recs h)++Y.flatMap (recs h)
  refine ⟨?_,⟨?_,?_,?_,?_,fun c hc=>?_⟩,⟨h4,?_,?_,?_,fun c hc=>ky c (by simp [hc])⟩,rfl,rfl,?_⟩
  ·rw [h1',h3',hB',List.map_append,List.map_cons]
   have e1:weave (rx.es++[e]) (xs.map (toL h)++[z].map (toL h))=weave rx.es (xs.map (toL h))++e :: weave [] ([z].map (toL h)):=weave_app (by rw [List.length_map,lx']) (by simp)
   rw [e1]
   obtain ⟨y0,Y0,hY0⟩:=List.exists_cons_of_ne_nil (show Y.map (toL h)≠[] from fun h0=>by
    have:=congrArg List.length h0
    rw [List.length_map,lY] at this
    simp at this)
   rw [hY0]
   simp [weave,rw']
  ·show ra.bs=(xs++[z]).map fun c=>(root h c).a
   rw [h2,List.map_append]
   show rx.bs++_=_
   rw [b1]; rfl
  ·show (xs++[z]).length=ra.es.length+1
   rw [h1',List.length_append,List.length_append]; simp; omega
  ·show 2≤ra.es.length
   rw [h1',List.length_append,List.length_singleton]; omega
  ·show ra.es.length≤5
   rw [h1',List.length_append,List.length_singleton]; omega
  ·rcases List.mem_append.1 hc with hc | hc
   ·exact kx c hc
   ·rw [List.mem_singleton.1 hc]; exact ky z (by simp)
  ·show Y.length=rb.es.length+1
   rw [h3',lY]
  ·show 2≤rb.es.length
   rw [h3']; omega
  ·show rb.es.length≤5
   rw [h3']; omega
  ·rw [List.flatMap_append]
   simp
end Bt
end Go.Proofs.YtjcgociobhhijaaGreatDoor.SX
namespace Go.Proofs.YtjcgociobhhijaaGreatDoor
open Go SX Bt
namespace Ts
section
variable {w:World} {K:Value→World→Prop} {r:Rec} {k:ByteArray} {j h lo:Nat} {v:Value} {fs1 fs2:List Ent} {ds1 ds2:List (Pg h)} {x y:Pg h}
theorem pair_perm {r:Rec} {x y:Pg h}:(recs (h+1) (r,ds1++x :: y :: ds2)).Perm ([r,root h x,root h y]++(subs h x++subs h y++(ds1.flatMap (recs h)++ds2.flatMap (recs h)))):=by
 rw [recs_node,List.flatMap_append,List.flatMap_cons,List.flatMap_cons]
 exact (perm_two _ _ _ _ _ _).cons r
theorem pair_bs (hb:r.bs=(ds1++x :: y :: ds2).map fun c=>(root h c).a):r.bs=ds1.map (fun c=>(root h c).a)++(root h x).a :: (root h y).a :: ds2.map (fun c=>(root h c).a):=by rw [hb]; simp
theorem pair_toL (he:r.es=fs1++(k,v) :: fs2) (h1:fs1.length=j) (h2:ds1.length=j):toL (h+1) (r,ds1++x :: y :: ds2)=lw fs1 (ds1.map (toL h))++(toL h x++(k,v) :: toL h y)++rw' fs2 (ds2.map (toL h)):=by
 rw [toL_node,he,List.map_append,List.map_cons,List.map_cons]
 exact weave_two (by rw [List.length_map,h2,h1])
theorem pair_right {lx ly:Nat} (hR:RS TT w (recs (h+1) (r,ds1++x :: y :: ds2))) (hb:r.bs=(ds1++x :: y :: ds2).map fun c=>(root h c).a) (hl:(ds1++x :: y :: ds2).length=r.es.length+1) (he:r.es=fs1++(k,v) :: fs2) (h1:fs1.length=j) (h2:ds1.length=j) (hV:∀ e∈toL (h+1) (r,ds1++x :: y :: ds2),IsV e.2)
  (hox:Ok h lx 5 x) (hoy:Ok h ly 5 y) (hx3:3≤(root h x).es.length) (hy1:(root h y).es.length=1) (hd1:∀ c∈ds1,Ok h 2 5 c) (hd2:∀ c∈ds2,Ok h 2 5 c) (hlo:lo≤r.es.length) (h5:r.es.length≤5)
  (hbl:∀ p:Pg h,(∃ l,Ok h l 5 p)→(root h p).bs.length≤100)
  (hK:∀ p' w',Ok (h+1) lo 5 p'→(root (h+1) p').a=r.a→toL (h+1) p'=toL (h+1) (r,ds1++x :: y :: ds2)→Mv TT w w' (recs (h+1) (r,ds1++x :: y :: ds2)) (recs (h+1) p')→K (.tuple #[]) w') :
  Cv F.z171 #[.pointer (some ⟨r.a,0,none⟩),.int .i64 (j:Int)] w K:=by
 have hT:=pair_toL (x:=x) (y:=y) (ds2:=ds2) he h1 h2
 have hx5:=hox.root_len.2
 obtain ⟨A,k',v',X,Z,hA,hX,hZ,hlaw⟩:=movR_law hox hoy hx3 hx5 (by omega) (by omega)
 have hv:IsV v:=hV (k,v) (by rw [hT]; simp)
 have hv':IsV v':=hV (k',v') (by
  rw [hT]
  have:(k',v')∈toL h x:=(root_sub hox).subset (by rw [hA]; simp)
  simp [this])
 have hRp:=hR.perm pair_perm
 have hrl:r.bs.length≤100:=by rw [hb,List.length_map,hl]; omega
 refine right_spec (a:=root h x) (b:=root h y) (RS.app.1 hRp).1 hv hv' he h1 (pair_bs hb) (by rw [List.length_map,h2]) hrl (by omega) hA (by omega) (by omega) hX hZ (hbl x ⟨_,hox⟩) (hbl y ⟨_,hoy⟩) fun r' a' b' w' k1 k2 k3 k4 k5 k6 k7 k8 k9 hm=>?_
 obtain ⟨m1,m2,m3,m4,m5,m6⟩:=hlaw a' b' (k,v) k5 k6 k8 k9
 have hel:r'.es.length=r.es.length:=by rw [k2,he]; simp
 have hpm:(recs (h+1) (r',ds1++movRx h x a' :: movRy h x y b' :: ds2)).Perm ([r',a',b']++(subs h x++subs h y++(ds1.flatMap (recs h)++ds2.flatMap (recs h)))):=by
  rw [m6]
  have:=pair_perm (r:=r') (ds1:=ds1) (ds2:=ds2) (x:=movRx h x a') (y:=movRy h x y b')
  rw [m4,m5] at this
  exact this
 refine hK (r',ds1++movRx h x a' :: movRy h x y b' :: ds2) w' ⟨?_,?_,by show lo≤r'.es.length; omega,by show r'.es.length≤5; omega,fun c hc=>?_⟩ k1 ?_ ((hm.frame hRp).perm pair_perm.symm hpm.symm)
 ·show r'.bs=_
  rw [k3,pair_bs hb,List.map_append,List.map_cons,List.map_cons,m4,m5,k4,k7]
 ·show (ds1++movRx h x a' :: movRy h x y b' :: ds2).length=r'.es.length+1
  rw [hel,← hl]; simp
 ·rcases List.mem_append.1 hc with hc | hc
  ·exact hd1 c hc
  ·rcases List.mem_cons.1 hc with rfl | hc
   ·exact m2
   ·rcases List.mem_cons.1 hc with rfl | hc
    ·exact m3
    ·exact hd2 c hc
 ·rw [hT,m1]
  exact pair_toL k2 h1 h2
theorem pair_left {lx ly:Nat} (hR:RS TT w (recs (h+1) (r,ds1++x :: y :: ds2))) (hb:r.bs=(ds1++x :: y :: ds2).map fun c=>(root h c).a) (hl:(ds1++x :: y :: ds2).length=r.es.length+1) (he:r.es=fs1++(k,v) :: fs2) (h1:fs1.length=j) (h2:ds1.length=j) (hV:∀ e∈toL (h+1) (r,ds1++x :: y :: ds2),IsV e.2)
  (hox:Ok h lx 5 x) (hoy:Ok h ly 5 y) (hy3:3≤(root h y).es.length) (hx1:(root h x).es.length=1) (hd1:∀ c∈ds1,Ok h 2 5 c) (hd2:∀ c∈ds2,Ok h 2 5 c) (hlo:lo≤r.es.length) (h5:r.es.length≤5)
  (hbl:∀ p:Pg h,(∃ l,Ok h l 5 p)→(root h p).bs.length≤100)
  (hK:∀ p' w',Ok (h+1) lo 5 p'→(root (h+1) p').a=r.a→toL (h+1) p'=toL (h+1) (r,ds1++x :: y :: ds2)→Mv TT w w' (recs (h+1) (r,ds1++x :: y :: ds2)) (recs (h+1) p')→K (.tuple #[]) w') :
  Cv F.z168 #[.pointer (some ⟨r.a,0,none⟩),.int .i64 (j:Int)] w K:=by
 have hT:=pair_toL (x:=x) (y:=y) (ds2:=ds2) he h1 h2
 have hy5:=hoy.root_len.2
 obtain ⟨k',v',B,Z,Y,hB,hY,hZ,hlaw⟩:=movL_law hox hoy hy3 hy5 (by omega) (by omega)
 have hv:IsV v:=hV (k,v) (by rw [hT]; simp)
 have hv':IsV v':=hV (k',v') (by
  rw [hT]
  have:(k',v')∈toL h y:=(root_sub hoy).subset (by rw [hB]; simp)
  simp [this])
 have hRp:=hR.perm pair_perm
 have hrl:r.bs.length≤100:=by rw [hb,List.length_map,hl]; omega
 refine left_spec (a:=root h x) (b:=root h y) (RS.app.1 hRp).1 hv hv' he h1 (pair_bs hb) (by rw [List.length_map,h2]) hrl (by omega) hB (by omega) (by omega) hY hZ (hbl x ⟨_,hox⟩) (hbl y ⟨_,hoy⟩) fun r' a' b' w' k1 k2 k3 k4 k5 k6 k7 k8 k9 hm=>?_
 obtain ⟨m1,m2,m3,m4,m5,m6⟩:=hlaw a' b' (k,v) k5 k6 k8 k9
 have hel:r'.es.length=r.es.length:=by rw [k2,he]; simp
 have hpm:(recs (h+1) (r',ds1++movLx h x y a' :: movLy h y b' :: ds2)).Perm ([r',a',b']++(subs h x++subs h y++(ds1.flatMap (recs h)++ds2.flatMap (recs h)))):=by
  rw [m6]
  have:=pair_perm (r:=r') (ds1:=ds1) (ds2:=ds2) (x:=movLx h x y a') (y:=movLy h y b')
  rw [m4,m5] at this
  exact this
 refine hK (r',ds1++movLx h x y a' :: movLy h y b' :: ds2) w' ⟨?_,?_,by show lo≤r'.es.length; omega,by show r'.es.length≤5; omega,fun c hc=>?_⟩ k1 ?_ ((hm.frame hRp).perm pair_perm.symm hpm.symm)
 ·show r'.bs=_
  rw [k3,pair_bs hb,List.map_append,List.map_cons,List.map_cons,m4,m5,k4,k7]
 ·show (ds1++movLx h x y a' :: movLy h y b' :: ds2).length=r'.es.length+1
  rw [hel,← hl]; simp
 ·rcases List.mem_append.1 hc with hc | hc
  ·exact hd1 c hc
  ·rcases List.mem_cons.1 hc with rfl | hc
   ·exact m2
   ·rcases List.mem_cons.1 hc with rfl | hc
    ·exact m3
    ·exact hd2 c hc
 ·rw [hT,m1]
  exact pair_toL k2 h1 h2
theorem pair_join {lx ly:Nat} (hR:RS TT w (recs (h+1) (r,ds1++x :: y :: ds2))) (hb:r.bs=(ds1++x :: y :: ds2).map fun c=>(root h c).a) (hl:(ds1++x :: y :: ds2).length=r.es.length+1) (he:r.es=fs1++(k,v) :: fs2) (h1:fs1.length=j) (h2:ds1.length=j) (hV:∀ e∈toL (h+1) (r,ds1++x :: y :: ds2),IsV e.2)
  (hox:Ok h lx 5 x) (hoy:Ok h ly 5 y) (hxy:(root h x).es.length+(root h y).es.length≤4) (hxy1:1≤(root h x).es.length+(root h y).es.length) (hd1:∀ c∈ds1,Ok h 2 5 c) (hd2:∀ c∈ds2,Ok h 2 5 c) (hlo:lo+1≤r.es.length) (h5:r.es.length≤5)
  (hbl:∀ p:Pg h,(∃ l,Ok h l 5 p)→(root h p).bs.length≤100)
  (hK:∀ p' w',Ok (h+1) lo 5 p'→(root (h+1) p').a=r.a→toL (h+1) p'=toL (h+1) (r,ds1++x :: y :: ds2)→Mv TT w w' (recs (h+1) (r,ds1++x :: y :: ds2)) (recs (h+1) p')→K (.tuple #[]) w') :
  Cv F.z165 #[.pointer (some ⟨r.a,0,none⟩),.int .i64 (j:Int)] w K:=by
 have hT:=pair_toL (x:=x) (y:=y) (ds2:=ds2) he h1 h2
 have hv:IsV v:=hV (k,v) (by rw [hT]; simp)
 have hRp:=hR.perm pair_perm
 have hrl:r.bs.length≤100:=by rw [hb,List.length_map,hl]; omega
 refine join_spec (a:=root h x) (b:=root h y) (RS.app.1 hRp).1 hv he h1 (pair_bs hb) (by rw [List.length_map,h2]) hrl (by omega) rfl (by omega) (by omega) rfl (hbl x ⟨_,hox⟩) (hbl y ⟨_,hoy⟩) fun r' a' w' k1 k2 k3 k4 k5 k6 hm=>?_
 have ha5:a'.es.length=(root h x).es.length+1+(root h y).es.length:=by rw [k5]; simp; omega
 obtain ⟨m1,m2,m4,m6⟩:=cat_law hox hoy k5 k6 (by omega) (by omega)
 have hel:r'.es.length+1=r.es.length:=by rw [k2,he]; simp; omega
 have hpm:(recs (h+1) (r',ds1++catP h x y a' :: ds2)).Perm ([r',a']++(subs h x++subs h y++(ds1.flatMap (recs h)++ds2.flatMap (recs h)))):=by
  rw [recs_node,List.flatMap_append,List.flatMap_cons]
  show (r' :: (ds1.flatMap (recs h)++((root h (catP h x y a') :: subs h (catP h x y a'))++ds2.flatMap (recs h)))).Perm _
  rw [m4,m6]
  have e:(ds1.flatMap (recs h)++((a' :: (subs h x++subs h y))++ds2.flatMap (recs h))).Perm ((a' :: (subs h x++subs h y))++(ds1.flatMap (recs h)++ds2.flatMap (recs h))):=by
   rw [← List.append_assoc,← List.append_assoc]
   exact List.Perm.append_right _ List.perm_append_comm
  exact e.cons r'
 refine hK (r',ds1++catP h x y a' :: ds2) w' ⟨?_,?_,by show lo≤r'.es.length; omega,by show r'.es.length≤5; omega,fun c hc=>?_⟩ k1 ?_ ((hm.frame hRp).perm pair_perm.symm hpm.symm)
 ·show r'.bs=_
  rw [k3,List.map_append,List.map_cons,m4,k4]
 ·show (ds1++catP h x y a' :: ds2).length=r'.es.length+1
  have:(ds1++x :: y :: ds2).length=(ds1++catP h x y a' :: ds2).length+1:=by simp; omega
  omega
 ·rcases List.mem_append.1 hc with hc | hc
  ·exact hd1 c hc
  ·rcases List.mem_cons.1 hc with rfl | hc
   ·exact m2
   ·exact hd2 c hc
 ·rw [hT,toL_node,k2,List.map_append,List.map_cons,← m1]
  exact weave_mid (by rw [List.length_map,h2,h1])
theorem bs_len:∀ {h l:Nat} {p:Pg h},Ok h l 5 p→(root h p).bs.length≤100
 | 0,_,p,ho=>by rw [show (root 0 p).bs=[] from ho.1]; simp
 | h+1,_,(r,cs),ho=>by
  have h1:r.bs=cs.map fun c=>(root h c).a:=ho.1
  have h2:cs.length=r.es.length+1:=ho.2.1
  have h3:r.es.length≤5:=ho.2.2.2.1
  show r.bs.length≤100
  rw [h1,List.length_map]; omega
theorem kid_rec {r:Rec} {cs:List (Pg h)} {c:Pg h} (hR:RS TT w (recs (h+1) (r,cs))) (hc:c∈cs):RecAt TT w (root h c):=hR.1 _ (by
 rw [recs_node]
 exact List.mem_cons_of_mem _ (List.mem_flatMap.2 ⟨c,hc,by simp [recs]⟩))
theorem es_at {es:List Ent} {j:Nat} (h:j < es.length):∃ fs1 k v fs2,es=fs1++(k,v) :: fs2∧fs1.length=j:=⟨es.take j,es[j].1,es[j].2,es.drop (j+1),by
 show es=es.take j++es[j] :: _
 rw [← List.drop_eq_getElem_cons h,List.take_append_drop],by rw [List.length_take]; omega⟩
theorem mend_spec {c:Pg h} {cs1 cs2:List (Pg h)} {i:Nat} (hR:RS TT w (recs (h+1) (r,cs1++c :: cs2))) (hb:r.bs=(cs1++c :: cs2).map fun c=>(root h c).a) (hl:(cs1++c :: cs2).length=r.es.length+1) (hi:cs1.length=i) (hV:∀ e∈toL (h+1) (r,cs1++c :: cs2),IsV e.2)
  (hoc:Ok h 1 5 c) (hd1:∀ x∈cs1,Ok h 2 5 x) (hd2:∀ x∈cs2,Ok h 2 5 x) (hlo:lo+1≤r.es.length) (h5:r.es.length≤5)
  (hK:∀ p' w',Ok (h+1) lo 5 p'→(root (h+1) p').a=r.a→toL (h+1) p'=toL (h+1) (r,cs1++c :: cs2)→Mv TT w w' (recs (h+1) (r,cs1++c :: cs2)) (recs (h+1) p')→K (.tuple #[]) w') :
  Cv F.z169 #[.pointer (some ⟨r.a,0,none⟩),.int .i64 (i:Int)] w K:=
 R.z169 (by
  unfold C.z169
  have hr:RecAt TT w r:=(RS.cons.1 hR).1
  have hcr:=kid_rec hR (c:=c) (by simp)
  have hrl:r.bs.length=cs1.length+1+cs2.length:=by rw [hb]; simp; omega
  have hrl2:cs1.length+1+cs2.length=r.es.length+1:=by rw [← hl]; simp; omega
  obtain ⟨a,ha,hca⟩:=ptr_at (bs1:=cs1.map fun c=>(root h c).a) (x:=(root h c).a) (bs2:=cs2.map fun c=>(root h c).a) (i:=i) hr (by rw [hb]; simp) (by rw [List.length_map,hi])
  have hc1:=hoc.root_len
  refine ⟨_,rfl,_,_,_,hr.1.cell (i:=1) rfl,a,ha,by omega,by omega,_,by simpa using hca,_,rfl,_,_,_,hcr.1.cell (i:=0) rfl,ifB_mk (fun h2=>?_) (fun h2=>?_)⟩
  ·have h2':2≤(root h c).es.length:=by have:=of_decide_eq_true h2; omega
   refine hK (r,cs1++c :: cs2) w ⟨hb,hl,by show lo≤r.es.length; omega,h5,fun x hx=>?_⟩ rfl rfl (Mv.refl hR)
   rcases List.mem_append.1 hx with hx | hx
   ·exact hd1 x hx
   ·rcases List.mem_cons.1 hx with rfl | hx
    ·exact hoc.mono h2' hc1.2
    ·exact hd2 x hx
  ·have hc1':(root h c).es.length=1:=by have:=of_decide_eq_false h2; omega
   have hbl:∀ p:Pg h,(∃ l,Ok h l 5 p)→(root h p).bs.length≤100:=fun p ⟨l,hp⟩=>bs_len hp
   have hahead:0 < i→∃ ds x,cs1=ds++[x]∧ds.length=i - 1:=fun h0=>by
    obtain ⟨X,z,hX,lX,_⟩:=dropLast_at (l:=cs1) (n:=i - 1) (by omega)
    exact ⟨X,z,hX,lX⟩
   have hwm:0 < i→IntKind.i64.wrap ((i:Int) - 1)=((i - 1:Nat):Int):=fun h0=>by rw [i64_wrap (by omega) (by omega)]; omega
   have hjoin1:0 < i→(∀ ds x,cs1=ds++[x]→(root h x).es.length≤2)→Cv F.z165 #[.pointer (some ⟨r.a,0,none⟩),.int .i64 (IntKind.i64.wrap ((i:Int) - 1))] w fun v3 wv4=>v3 = .tuple #[]∧K (.tuple #[]) wv4:=fun h0 hs=>by
    obtain ⟨ds,x,rfl,hds⟩:=hahead h0
    have e:ds++[x]++c :: cs2=ds++x :: c :: cs2:=by simp
    rw [e] at hR hb hl hV hK
    rw [hwm h0]
    obtain ⟨fs1,k,v,fs2,he,h1⟩:=es_at (es:=r.es) (j:=i - 1) (by omega)
    exact pair_join (lo:=lo) hR hb hl he h1 hds hV (hd1 x (by simp)) hoc (by have:=hs ds x rfl; omega) (by omega) (fun d hd=>hd1 d (by simp [hd])) hd2 hlo h5 hbl fun p' w' a b c d=>⟨rfl,hK p' w' a b c d⟩
   have hjoin2:i=0→(∀ y ds,cs2=y :: ds→(root h y).es.length≤2)→Cv F.z165 #[.pointer (some ⟨r.a,0,none⟩),.int .i64 (i:Int)] w fun v3 wv4=>v3 = .tuple #[]∧K (.tuple #[]) wv4:=fun h0 hs=>by
    obtain ⟨y,ds,rfl⟩:=List.exists_cons_of_ne_nil (show cs2≠[] from fun h=>by rw [h] at hrl2; simp at hrl2; omega)
    obtain ⟨fs1,k,v,fs2,he,h1⟩:=es_at (es:=r.es) (j:=i) (by omega)
    exact pair_join (lo:=lo) hR hb hl he h1 hi hV hoc (hd2 y (by simp)) (by have:=hs y ds rfl; omega) (by omega) hd1 (fun d hd=>hd2 d (by simp [hd])) hlo h5 hbl fun p' w' a b c d=>⟨rfl,hK p' w' a b c d⟩
   refine ⟨fun s w'=>w'=w∧(s=true→0 < i∧∀ ds x,cs1=ds++[x]→3≤(root h x).es.length)∧(s=false→∀ ds x,cs1=ds++[x]→(root h x).es.length≤2),?_,?_⟩
   ·refine ifB_mk (fun h0=>?_) (fun h0=>⟨rfl,fun h=>by (cases h),fun _ ds x hx=>?_⟩)
    ·have h0':0 < i:=by have:=of_decide_eq_true h0; omega
     obtain ⟨ds,x,hcs,hds⟩:=hahead h0'
     have hxr:=kid_rec hR (c:=x) (by rw [hcs]; simp)
     obtain ⟨a2,ha2,hca2⟩:=ptr_at (bs1:=ds.map fun c=>(root h c).a) (x:=(root h x).a) (bs2:=(c :: cs2).map fun c=>(root h c).a) (i:=i - 1) hr (by rw [hb,hcs]; simp) (by rw [List.length_map,hds])
     rw [hwm h0']
     have huniq:∀ ds' x',cs1=ds'++[x']→x'=x:=fun ds' x' hx=>by
      rw [hcs] at hx
      have:=List.append_inj_right' hx rfl
      simpa using this.symm
     refine ⟨_,rfl,_,_,_,hr.1.cell (i:=1) rfl,a2,ha2,by omega,by omega,_,by simpa using hca2,_,rfl,_,_,_,hxr.1.cell (i:=0) rfl,rfl,fun hs=>⟨h0',fun ds' x' hx=>?_⟩,fun hs ds' x' hx=>?_⟩
     ·rw [huniq ds' x' hx]; have:=of_decide_eq_true hs; omega
     ·rw [huniq ds' x' hx]; have:=of_decide_eq_false hs; omega
    ·have h0':i=0:=by have:=of_decide_eq_false h0; omega
     rw [hx] at hi
     simp at hi
     omega
   ·rintro s w' ⟨rfl,hs1,hs2⟩
    refine ifB_mk (fun hh=>?_) (fun hh=>?_)
    ·obtain ⟨h0,hs⟩:=hs1 hh
     obtain ⟨ds,x,rfl,hds⟩:=hahead h0
     have e:ds++[x]++c :: cs2=ds++x :: c :: cs2:=by simp
     rw [e] at hR hb hl hV hK
     rw [hwm h0]
     obtain ⟨fs1,k,v,fs2,he,h1⟩:=es_at (es:=r.es) (j:=i - 1) (by omega)
     exact pair_right (lo:=lo) hR hb hl he h1 hds hV (hd1 x (by simp)) hoc (hs ds x rfl) hc1' (fun d hd=>hd1 d (by simp [hd])) hd2 (by omega) h5 hbl fun p' w' a b c d=>⟨rfl,hK p' w' a b c d⟩
    ·have hs:=hs2 hh
     have hwl:IntKind.i64.wrap (((r.bs.length:Nat):Int) - 1)=((r.bs.length - 1:Nat):Int):=by rw [i64_wrap (by omega) (by omega)]; omega
     have hwp:IntKind.i64.wrap ((i:Int)+1)=((i+1:Nat):Int):=by rw [i64_wrap (by omega) (by omega)]; omega
     refine ⟨_,rfl,_,_,_,hr.1.cell (i:=1) rfl,?_⟩
     rw [hwl,hwp]
     refine ifB_mk (fun h3=>?_) (fun h3=>?_)
     ·have hlt:i < r.bs.length - 1:=by have:=of_decide_eq_true h3; omega
      obtain ⟨y,ds,rfl⟩:=List.exists_cons_of_ne_nil (show cs2≠[] from fun h=>by rw [h] at hrl; simp at hrl; omega)
      have hyr:=kid_rec hR (c:=y) (by simp)
      obtain ⟨a2,ha2,hca2⟩:=ptr_at (bs1:=(cs1++[c]).map fun c=>(root h c).a) (x:=(root h y).a) (bs2:=ds.map fun c=>(root h c).a) (i:=i+1) hr (by rw [hb]; simp) (by rw [List.length_map,List.length_append,hi]; rfl)
      refine ⟨_,rfl,_,_,_,hr.1.cell (i:=1) rfl,a2,ha2,by omega,by omega,_,hca2,_,rfl,_,_,_,hyr.1.cell (i:=0) rfl,ifB_mk (fun h4=>?_) (fun h4=>?_)⟩
      ·obtain ⟨fs1,k,v,fs2,he,h1⟩:=es_at (es:=r.es) (j:=i) (by simp at hrl2; omega)
       exact pair_left (lo:=lo) hR hb hl he h1 hi hV hoc (hd2 y (by simp)) (by have:=of_decide_eq_true h4; omega) hc1' hd1 (fun d hd=>hd2 d (by simp [hd])) (by omega) h5 hbl fun p' w' a b c d=>⟨rfl,hK p' w' a b c d⟩
      ·refine ifB_mk (fun h6=>hjoin1 (by have:=of_decide_eq_true h6; omega) hs) (fun h6=>hjoin2 (by have:=of_decide_eq_false h6; omega) fun y' ds' hy=>?_)
       injection hy with hy _
       rw [← hy]
       have:=of_decide_eq_false h4; omega
     ·have hge:¬ i < r.bs.length - 1:=by have:=of_decide_eq_false h3; omega
      have h0:0 < i:=by omega
      exact ifB_mk (fun _=>hjoin1 h0 hs) (fun h6=>by have:=of_decide_eq_false h6; omega))
end
end Ts
end Go.Proofs.YtjcgociobhhijaaGreatDoor
namespace Go.Proofs.YtjcgociobhhijaaGreatDoor
open Go SX Bt
namespace Ts
theorem mv_fresh {w w' w'':World} {A A':List Rec} {b:Nat} (hA:RS TT w A) (h:Mv TT w w' A A') (hb:w.heap.size≤b) (hn:¬ FPs A' b) (hu:Upd (SX.One b) w' w''):Mv TT w w'' A A':=⟨h.rs.upd hu fun k hk e=>hn (by rw [show b=k from (show k=b from e).symm]; exact hk),h.upd.fresh hu fun i hi=>by rw [show i=b from hi]; exact hb,h.fresh⟩
theorem last_spec:∀ (h:Nat) {p:Pg h} {lo:Nat} {w:World} {K:Value→World→Prop},Ok h (lo+1) 5 p→(∀ e∈toL h p,IsV e.2)→RS TT w (recs h p)→
  (∀ p' k v w',Ok h lo 5 p'→(root h p').a=(root h p).a→toL h p=toL h p'++[(k,v)]→IsV v→Mv TT w w' (recs h p) (recs h p')→K (.agg #[.string k,v]) w')→Cv F.z166 #[.pointer (some ⟨(root h p).a,0,none⟩)] w K:=by
 intro h
 induction h with
 | zero=>
  intro (p:Rec) lo w K ho hV hR hK
  have hr:RecAt TT w p:=RS.one.1 hR
  have hlo:lo+1≤p.es.length:=ho.2.1
  have h5:p.es.length≤5:=ho.2.2
  obtain ⟨A,⟨k,v⟩,hA,lA,_⟩:=dropLast_at (l:=p.es) (n:=p.es.length - 1) (by omega)
  have hv:IsV v:=hV (k,v) (by show (k,v)∈p.es; rw [hA]; simp)
  have hv0:=hv
  obtain ⟨vs,rfl⟩:=hv
  show Cv F.z166 #[.pointer (some ⟨p.a,0,none⟩)] w K
  refine R.z166 (by
   unfold C.z166
   refine New.use (by simp [Value.oneCell']) fun b1 w1 hb1 hu1 hge1 _=>?_
   have hr1:RecAt TT w1 p:=hr.upd hu1 fun _ _ f=>f
   refine leaf_spec hr1 ⟨_,rfl,ifB_mk (fun _=>?_) (fun h=>by rw [show p.bs=[] from ho.1] at h; simp at h)⟩
   have hr2:RecAt TT w1.drew p:=hr1.upd (Upd.drew Nothing _) fun _ _ f=>f
   have hw:IntKind.i64.wrap (((p.es.length:Nat):Int) - 1)=((A.length:Nat):Int):=by rw [i64_wrap (by omega) (by omega)]; omega
   refine ⟨_,rfl,_,rfl,_,_,_,hr2.1.cell (i:=0) rfl,?_⟩
   rw [hw]
   refine remove_spec (es2:=[]) hr2 hA hv0 rfl (by omega) fun w3 hm3=>⟨_,_,rfl,?_⟩
   rw [List.append_nil] at hm3
   have hm:=Mv.after (RS.one.2 hr) (hu1.then (Upd.drew _ _)) hm3
   have hb1n:¬ FPs [p] b1:=fun hk=>by have:=(RS.one.2 hr).lt hk; omega
   have hb1d:=hb1.drew
   have hlt1:=hb1.lt
   have hb3:Blk w3 b1 _ _:=hm3.upd.blk hb1d hb1n
   refine Blk.set2 hb3 rfl rfl fun w5 hb5 hu5=>⟨_,_,⟨hb5.cell (i:=0) rfl,hb5.cell (i:=1) rfl,trivial⟩,?_⟩
   refine hK { p with es:=A } k _ w5 ⟨ho.1,by show lo≤A.length; omega,by show A.length≤5; omega⟩ rfl hA hv0 (mv_fresh (RS.one.2 hr) hm hge1 (fun hk=>?_) hu5)
   rcases hm3.fresh b1 hk with h | h
   ·exact hb1n h
   ·have:w1.drew.heap.size=w1.heap.size:=rfl
    omega)
 | succ h ih=>
  intro (r,cs) lo w K ho hV hR hK
  obtain ⟨hb,hl,hlo,h5,hk⟩:=id ho
  have hl':cs.length=r.es.length+1:=hl
  have hlo':lo+1≤r.es.length:=hlo
  have h5':r.es.length≤5:=h5
  have hb':r.bs=cs.map fun c=>(root h c).a:=hb
  obtain ⟨cs1,c,hcs,l1,_⟩:=dropLast_at (l:=cs) (n:=r.es.length) hl'
  subst hcs
  have hr:RecAt TT w r:=(RS.cons.1 hR).1
  have hbl:r.bs.length=cs1.length+1:=by rw [hb']; simp
  have hLL:∀ c:Pg h,toL (h+1) (r,cs1++[c])=lw r.es (cs1.map (toL h))++toL h c:=fun c=>by
   rw [toL_node,List.map_append]
   have:=weave_mid (es1:=r.es) (es2:=[]) (bs1:=cs1.map (toL h)) (bs2:=[]) (b:=toL h c) (by rw [List.length_map,l1])
   simpa [rw'] using this
  show Cv F.z166 #[.pointer (some ⟨r.a,0,none⟩)] w K
  refine R.z166 (by
   unfold C.z166
   refine New.use (by simp [Value.oneCell']) fun b1 w1 hb1 hu1 hge1 _=>?_
   have hr1:RecAt TT w1 r:=hr.upd hu1 fun _ _ f=>f
   have hR1:=hR.upd0 hu1
   refine leaf_spec hr1 ⟨_,rfl,ifB_mk (fun h=>by have:=of_decide_eq_true h; omega) (fun _=>?_)⟩
   have hw:IntKind.i64.wrap (((r.bs.length:Nat):Int) - 1)=((cs1.length:Nat):Int):=by rw [i64_wrap (by omega) (by omega)]; omega
   obtain ⟨a,ha,hca⟩:=ptr_at (bs1:=cs1.map fun c=>(root h c).a) (x:=(root h c).a) (bs2:=[]) (i:=cs1.length) hr1 (by rw [hb']; simp) (by rw [List.length_map])
   refine ⟨_,rfl,_,_,_,hr1.1.cell (i:=1) rfl,?_⟩
   rw [hw]
   have hRp:=hR1.perm (recs_mid (cs2:=[]))
   have hVc:∀ e∈toL h c,IsV e.2:=fun e he=>hV e (by rw [hLL]; simp [he])
   refine ⟨_,rfl,_,_,_,hr1.1.cell (i:=1) rfl,a,ha,by omega,by omega,_,by simpa using hca,ih (lo:=1) (hk c (by simp)) hVc (RS.app.1 hRp).1 fun c' k v w6 hoc' hra hL hv hmc=>?_⟩
   have hv0:=hv
   obtain ⟨vs,rfl⟩:=hv
   refine ⟨_,_,rfl,New.use (by simp [Value.oneCell']) fun b2 w7 hb2 hu7 hge7 _=>Blk.set2 hb2 rfl rfl fun w9 hb9 hu9=>?_⟩
   have hm6:Mv TT w w6 (recs (h+1) (r,cs1++[c])) (recs (h+1) (r,cs1++[c'])):=Mv.after hR hu1 ((hmc.frame hRp).perm (recs_mid (cs2:=[])).symm (recs_mid (cs2:=[])).symm)
   have hu69:Upd Nothing w6 w9:=hu7.fresh hu9 fun i hi=>by rw [show i=b2 from hi]; exact hge7
   have hm9:=hm6.more hu69
   have hV':∀ e∈toL (h+1) (r,cs1++[c']),IsV e.2:=fun e he=>hV e (by rw [hLL] at he ⊢; rw [hL]; rcases List.mem_append.1 he with h | h <;> simp [h])
   refine mend_spec (lo:=lo) (c:=c') (cs1:=cs1) (cs2:=[]) (i:=cs1.length) hm9.rs (by rw [hb']; simp [hra]) (by simp [l1]) rfl hV' hoc' (fun x hx=>hk x (by simp [hx])) (fun x hx=>by (cases hx)) hlo' h5' fun p' w10 hok' hra' hT' hm10=>⟨rfl,?_⟩
   have hn2:¬ FPs (recs (h+1) (r,cs1++[c'])) b2:=fun hk'=>by have:=hm6.rs.lt hk'; omega
   have hb10:=hm10.upd.blk hb9 hn2
   have hm:=hm9.trans hm10
   have hn1:¬ FPs (recs (h+1) (r,cs1++[c])) b1:=fun hk'=>by have:=hR.lt hk'; omega
   have hlt1:=hb1.lt
   have h69:Upd (FPs (recs h c)) w1 w6:=hmc.upd
   have hb6:=h69.blk hb1 fun hk'=>hn1 ((FPs.perm (recs_mid (cs2:=[]))).2 (FPs.app.2 (.inl hk')))
   have hF:∀ k,FPs (recs (h+1) (r,cs1++[c'])) k→FPs (recs (h+1) (r,cs1++[c])) k∨w1.heap.size≤k:=((hmc.frame hRp).perm (recs_mid (cs2:=[])).symm (recs_mid (cs2:=[])).symm).fresh
   have hb1':=hm10.upd.blk (hu69.blk hb6 fun f=>f) fun hk'=>by
    rcases hF b1 hk' with h' | h'
    ·exact hn1 h'
    ·omega
   refine ⟨_,_,⟨hb10.cell (i:=0) rfl,hb10.cell (i:=1) rfl,trivial⟩,Blk.set2 hb1' rfl rfl fun w12 hb12 hu12=>⟨_,_,⟨hb12.cell (i:=0) rfl,hb12.cell (i:=1) rfl,trivial⟩,?_⟩⟩
   refine hK p' k _ w12 hok' hra' (by rw [hT',hLL,hLL,hL,List.append_assoc]) hv0 (mv_fresh hR hm hge1 (fun hk'=>?_) hu12)
   rcases hm10.fresh b1 hk' with h' | h'
   ·rcases hF b1 h' with h'' | h''
    ·exact hn1 h''
    ·omega
   ·have:=hb1'.lt; have h1:=hb1.lt; have h2:=hmc.upd.size; have h3:=hu69.size; omega)
end Ts
end Go.Proofs.YtjcgociobhhijaaGreatDoor
namespace Go.Proofs.YtjcgociobhhijaaGreatDoor
open Go SX Bt
namespace Ts
theorem drop_spec:∀ (h:Nat) {p:Pg h} {lo:Nat} {w:World} {K:Value→World→Prop} {k:ByteArray},Ok h lo 5 p→(h≠0→1≤lo)→Srt (toL h p)→(∀ e∈toL h p,IsV e.2)→RS TT w (recs h p)→
  (∀ p' w',Ok h (lo - 1) 5 p'→(root h p').a=(root h p).a→toL h p'=del k (toL h p)→Mv TT w w' (recs h p) (recs h p')→K (.tuple #[(kval k (toL h p)).getD zero,.bool (kval k (toL h p)).isSome]) w')→
  Cv F.z164 #[.pointer (some ⟨(root h p).a,0,none⟩),.string k] w K:=by
 intro h
 induction h with
 | zero=>
  intro (p:Rec) lo w K k ho _ hs hV hR hK
  have hr:RecAt TT w p:=RS.one.1 hR
  have hlo:lo≤p.es.length:=ho.2.1
  have h5:p.es.length≤5:=ho.2.2
  have hb:p.bs=[]:=ho.1
  show Cv F.z164 #[.pointer (some ⟨p.a,0,none⟩),.string k] w K
  refine R.z164 (by
   unfold C.z164
   refine ⟨_,rfl,find_spec (r:=p) hr hs hV (by omega) fun i ok w1 hT hF hu1=>⟨_,_,rfl,fun s w'=>w'=w1∧s = !ok,?_,?_⟩⟩
   ·have hr1:RecAt TT w1 p:=hr.upd hu1 fun _ _ f=>f
    exact leaf_spec hr1 ⟨_,rfl,ifB_mk (fun _=>⟨rfl,rfl⟩) (fun h=>by rw [hb] at h; simp at h)⟩
   rintro s w3 ⟨rfl,rfl⟩
   have hr1:RecAt TT w3 p:=hr.upd hu1 fun _ _ f=>f
   have hm1:Mv TT w w3 [p] [p]:=Mv.of0 (RS.one.2 hr) hu1
   refine ifB_mk (fun hn=>?_) (fun hn=>?_)
   ·have hok:ok=false:=by simpa using hn
    obtain ⟨es1,es2,he,hi,hl1,hl2⟩:=hF hok
    have e:toL 0 p=es1++es2:=he
    rw [e,get_none hl1 hl2,del_none hl1 hl2] at hK
    exact hK p w3 ⟨hb,by show lo - 1≤p.es.length; omega,h5⟩ rfl e hm1
   ·have hok:ok=true:=by simpa using hn
    obtain ⟨u,hu,es1,es2,he,hi,hl1,hl2⟩:=hT hok
    have e:toL 0 p=es1++(k,u) :: es2:=he
    have hel:p.es.length=es1.length+1+es2.length:=by rw [he]; simp; omega
    rw [e,get_old hl1 hl2,del_old hl1 hl2] at hK
    have hu0:=hu
    obtain ⟨us,rfl⟩:=hu
    refine leaf_spec hr1 ⟨_,rfl,ifB_mk (fun _=>⟨_,rfl,remove_spec hr1 he hu0 hi (by omega) fun w5 hm5=>⟨_,us,rfl,?_⟩⟩) (fun h=>by rw [hb] at h; simp at h)⟩
    exact hK { p with es:=es1++es2 } w5 ⟨hb,by show lo - 1≤(es1++es2).length; simp; omega,by show (es1++es2).length≤5; simp; omega⟩ rfl rfl (hm1.trans hm5))
 | succ h ih=>
  intro (r,cs) lo w K k ho hlo1 hs hV hR hK
  have hlo0:1≤lo:=hlo1 (by omega)
  have hR':RS TT w (r :: cs.flatMap (recs h)):=hR
  have hr:RecAt TT w r:=(RS.cons.1 hR').1
  have hes:r.es.length≤5:=ho.2.2.2.1
  have hlo:lo≤r.es.length:=ho.2.2.1
  have hsr:Srt r.es:=List.Pairwise.sublist (root_sub ho) hs
  have hVr:∀ e∈r.es,IsV e.2:=fun e he=>hV e ((root_sub ho).subset he)
  have hb0:r.bs=cs.map fun c=>(root h c).a:=ho.1
  have hl0:cs.length=r.es.length+1:=ho.2.1
  have hbl:r.bs.length=r.es.length+1:=by rw [hb0,List.length_map,hl0]
  show Cv F.z164 #[.pointer (some ⟨r.a,0,none⟩),.string k] w K
  refine R.z164 (by
   unfold C.z164
   refine ⟨_,rfl,find_spec (r:=r) hr hsr hVr (by omega) fun i ok w1 hT hF hu1=>⟨_,_,rfl,fun s w'=>w'=w1∧s=false,?_,?_⟩⟩
   ·have hr1:RecAt TT w1 r:=hr.upd hu1 fun _ _ f=>f
    exact leaf_spec hr1 ⟨_,rfl,ifB_mk (fun h=>by have:=of_decide_eq_true h; omega) (fun _=>⟨rfl,rfl⟩)⟩
   rintro s w3 ⟨rfl,rfl⟩
   have hr1:RecAt TT w3 r:=hr.upd hu1 fun _ _ f=>f
   refine ifB_mk (fun hn=>by cases hn) (fun _=>?_)
   refine leaf_spec hr1 ⟨_,rfl,ifB_mk (fun h=>by have:=of_decide_eq_true h; omega) (fun _=>?_)⟩
   refine ifB_mk (fun hok=>?_) (fun hok=>?_)
   ·obtain ⟨u,hu,es1,es2,he,hi,hl1,hl2⟩:=hT hok
    obtain ⟨cs1,c,cs2,rfl,l1,l2,hb,hL,hokc,hok1,hok2⟩:=node_at ho he hi
    obtain ⟨d,cs3,rfl⟩:=List.exists_cons_of_ne_nil (show cs2≠[] from fun h=>by rw [h] at l2; simp at l2)
    have hW:toL (h+1) (r,cs1++c :: d :: cs3)=(lw es1 (cs1.map (toL h))++toL h c)++(k,u) :: (toL h d++rw' es2 (cs3.map (toL h))):=hL
    rw [hW] at hs hV
    obtain ⟨q1,q2⟩:=srt_at hs
    rw [hW,get_old q1 q2,del_old q1 q2] at hK
    have hu0:=hu
    obtain ⟨c3,hc3,hcc3⟩:=ent_at hr1 he hi
    have hm1:Mv TT w w3.drew (recs (h+1) (r,cs1++c :: d :: cs3)) (recs (h+1) (r,cs1++c :: d :: cs3)):=Mv.of0 hR (hu1.then (Upd.drew _ _))
    have hr2:RecAt TT w3.drew r:=hr1.upd (Upd.drew Nothing _) fun _ _ f=>f
    obtain ⟨a,ha,hca⟩:=ptr_at (bs1:=cs1.map fun c=>(root h c).a) (x:=(root h c).a) (bs2:=(d :: cs3).map fun c=>(root h c).a) (i:=i) hr2 hb (by rw [List.length_map,l1])
    have hel:r.es.length=es1.length+1+es2.length:=by rw [he]; simp; omega
    have hRp:=hm1.rs.perm recs_mid
    have hVc:∀ e∈toL h c,IsV e.2:=fun e he=>hV e (by simp [he])
    obtain ⟨us,rfl⟩:=hu
    refine ⟨_,rfl,_,_,_,hr1.1.cell (i:=0) rfl,c3,hc3,by omega,by omega,us,hcc3.2.1,_,rfl,_,_,_,hr2.1.cell (i:=0) rfl,_,rfl,_,_,_,hr2.1.cell (i:=1) rfl,a,ha,by omega,by omega,_,by simpa using hca,last_spec h (lo:=1) hokc hVc (RS.app.1 hRp).1 fun c' k' v' w6 hokc' hra hLc hv' hmc=>?_⟩
    have hv0':=hv'
    obtain ⟨vs,rfl⟩:=hv'
    have hm6:Mv TT w w6 (recs (h+1) (r,cs1++c :: d :: cs3)) (recs (h+1) (r,cs1++c' :: d :: cs3)):=hm1.trans ((hmc.frame hRp).perm recs_mid.symm recs_mid.symm)
    have hr6:RecAt TT w6 r:=(RS.cons.1 hm6.rs).1
    refine ⟨_,_,rfl,hr6.1.cell (i:=0) rfl,c3,hc3,by omega,by omega,ent_set (k':=k') (v':=(.string vs)) hr6 he hi rfl hc3 fun w8 hm8=>?_⟩
    have hm9:Mv TT w w8 (recs (h+1) (r,cs1++c :: d :: cs3)) (recs (h+1) ({ r with es:=es1++(k',.string vs) :: es2 },cs1++c' :: d :: cs3)):=hm6.trans (Mv.fst hm6.rs hm8)
    have hel':(es1++(k',.string vs) :: es2).length=r.es.length:=by rw [hel]; simp; omega
    have hLn:toL (h+1) ({ r with es:=es1++(k',.string vs) :: es2 },cs1++c' :: d :: cs3)=(lw es1 (cs1.map (toL h))++toL h c)++(toL h d++rw' es2 (cs3.map (toL h))):=by
     rw [toL_node,List.map_append,List.map_cons,hLc]
     have:=weave_mid (es1:=es1) (es2:=(k',(.string vs)) :: es2) (bs1:=cs1.map (toL h)) (bs2:=(d :: cs3).map (toL h)) (b:=toL h c') (by rw [List.length_map,l1,hi])
     rw [this]
     simp [rw']
    refine mend_spec (r:={ r with es:=es1++(k',.string vs) :: es2 }) (lo:=lo - 1) (c:=c') (cs1:=cs1) (cs2:=d :: cs3) (i:=i) hm9.rs (by show r.bs=_; rw [hb]; simp [hra]) (by show _=(es1++(k',.string vs) :: es2).length+1; rw [hel',← hl0]; simp) l1 (fun e he=>hV e (by
     rw [hLn] at he
     rcases List.mem_append.1 he with he | he
     ·exact List.mem_append_left _ he
     ·exact List.mem_append_right _ (List.mem_cons_of_mem _ he))) hokc' hok1 hok2 (by show lo - 1+1≤(es1++(k',.string vs) :: es2).length; omega) (by show (es1++(k',.string vs) :: es2).length≤5; omega) fun p' w9 a1 a2 a3 a4=>⟨rfl,?_⟩
    rw [hok]
    exact hK p' w9 a1 a2 (a3.trans hLn) (hm9.trans a4)
   ·obtain ⟨es1,es2,he,hi,hlo',hhi'⟩:=hF hok
    obtain ⟨cs1,c,cs2,rfl,l1,l2,hb,hL,hokc,hok1,hok2⟩:=node_at ho he hi
    rw [hL] at hs hV
    obtain ⟨hs12,hs3,hs4⟩:=hs.app
    obtain ⟨hs1,hs2,hs5⟩:=hs12.app
    have hA:=lw_lo hs1 hlo'
    have hC:=rw_hi hs3 hhi'
    have hVc:∀ e∈toL h c,IsV e.2:=fun e he=>hV e (by simp [he])
    have hG:kval k (toL (h+1) (r,cs1++c :: cs2))=kval k (toL h c):=by rw [hL]; exact get_mid hA hC
    have hD:del k (toL (h+1) (r,cs1++c :: cs2))=lw es1 (cs1.map (toL h))++del k (toL h c)++rw' es2 (cs2.map (toL h)):=by rw [hL]; exact del_mid hA hC
    rw [hG,hD] at hK
    have hRp:=(hR.perm recs_mid).upd0 hu1
    obtain ⟨a,ha,hca⟩:=ptr_at (bs1:=cs1.map fun c=>(root h c).a) (x:=(root h c).a) (bs2:=cs2.map fun c=>(root h c).a) (i:=i) hr1 hb (by rw [List.length_map,l1])
    have hel:r.es.length=es1.length+es2.length:=by rw [he]; simp
    have hgv:=get_isV (k:=k) hVc
    refine ⟨_,rfl,_,_,_,hr1.1.cell (i:=1) rfl,a,ha,by omega,by omega,_,by simpa using hca,ih hokc (fun _=>by decide) hs2 hVc (RS.app.1 hRp).1 fun c' w5 hokc' hra hLc hmc=>?_⟩
    generalize (kval k (toL h c)).getD zero=ov at hgv hK ⊢
    generalize (kval k (toL h c)).isSome=ob at hK ⊢
    obtain ⟨us,rfl⟩:=hgv
    have hm5:Mv TT w w5 (recs (h+1) (r,cs1++c :: cs2)) (recs (h+1) (r,cs1++c' :: cs2)):=Mv.after hR hu1 ((hmc.frame hRp).perm recs_mid.symm recs_mid.symm)
    have hLn:toL (h+1) (r,cs1++c' :: cs2)=lw es1 (cs1.map (toL h))++del k (toL h c)++rw' es2 (cs2.map (toL h)):=by
     rw [toL_node,he,List.map_append,List.map_cons,hLc]
     exact weave_mid (by rw [List.length_map,l1,hi])
    refine ⟨us,_,rfl,mend_spec (lo:=lo - 1) (c:=c') (cs1:=cs1) (cs2:=cs2) (i:=i) hm5.rs (by rw [hb]; simp [hra]) (by rw [← hl0]; simp) l1 (fun e he=>hV e (by
     rw [hLn] at he
     rcases List.mem_append.1 he with he | he
     ·rcases List.mem_append.1 he with he | he
      ·simp [he]
      ·have:=(List.mem_filter.1 he).1; simp [this]
     ·simp [he])) hokc' hok1 hok2 (by omega) hes fun p' w6 a1 a2 a3 a4=>⟨rfl,hK p' w6 a1 a2 (a3.trans hLn) (hm5.trans a4)⟩⟩)
end Ts
end Go.Proofs.YtjcgociobhhijaaGreatDoor
namespace Go.Proofs.YtjcgociobhhijaaGreatDoor
open Go SX Bt
namespace Ts
structure TrAt (w:World) (g h:Nat) (top:Pg h) (l:List Ent):Prop where
 ok:Ok h (if h=0 then 0 else 1) 5 top
 toL:toL h top=l
 srt:Srt l
 isV:∀ e∈l,IsV e.2
 hdr:Blk w g [.pointer (some ⟨(root h top).a,0,none⟩),.int .i64 (l.length:Int)] T.tree_Tree_string
 rs:RS TT w (recs h top)
section
variable {w:World} {K:Value→World→Prop}
theorem new_spec (hK:∀ g top w',TrAt w' g 0 top []→Upd Nothing w w'→w.heap.size≤g→(∀ k,FPs (recs 0 top) k→w.heap.size≤k)→K (.pointer (some ⟨g,0,none⟩)) w'):Cv F.z144 #[] w K:=
 R.z144 (by
  unfold C.z144
  refine New.use (by simp [Value.oneCell']) fun b1 w1 hb1 hu1 hge1 _=>New.use (by simp [Value.oneCell']) fun b2 w2 hb2 hu2 hge2 _=>?_
  have hr:RecAt TT w2 ⟨b1,none,0,[],none,0,[]⟩:=⟨hu2.blk hb1 fun f=>f,OwnW.nil _ _ _,OwnW.nil _ _ _⟩
  refine hK b2 (⟨b1,none,0,[],none,0,[]⟩:Rec) w2 ⟨⟨rfl,Nat.le_refl _,Nat.zero_le _⟩,rfl,List.Pairwise.nil,fun e he=>by (cases he),hb2,RS.one.2 hr⟩ (hu1.then hu2) (by have:=hu1.size; omega) fun k hk=>?_
  rcases FPs.one.1 hk with rfl | hk | hk
  ·exact hge1
  ·have h0:0 < 0:=hk.1
   omega
  ·have h0:0 < 0:=hk.1
   omega)
def PgKey (w:World) (k:ByteArray) (t:Option Value) (q:Option Addr) (n:Nat):Prop:=∃ (p:Pg n) (lo:Nat),q=some ⟨(root n p).a,0,none⟩∧Ok n lo 5 p∧Srt (toL n p)∧(∀ e∈toL n p,IsV e.2)∧RS TT w (recs n p)∧kval k (toL n p)=t
theorem least_ex {P:Nat→Prop}:∀ n,P n→∃ m,P m∧∀ k,P k→m≤k:=by
 intro n
 induction n using Nat.strongRecOn with
 | _ n ih=>
  intro hp
  by_cases h:∃ k,P k∧k < n
  ·obtain ⟨k,hk,hlt⟩:=h
   exact ih k hlt hk
  ·exact ⟨n,hp,fun k hk=>Nat.le_of_not_lt fun hlt=>h ⟨k,hk,hlt⟩⟩
open Classical in
noncomputable def leastN (P:Nat→Prop):Nat:=if h:∃ m,P m∧∀ k,P k→m≤k then Classical.choose h else 0
theorem leastN_spec {P:Nat→Prop} (h:∃ n,P n):P (leastN P):=by
 obtain ⟨n,hn⟩:=h
 unfold leastN
 rw [dif_pos (least_ex n hn)]
 exact (Classical.choose_spec (least_ex n hn)).1
theorem leastN_le {P:Nat→Prop} {n:Nat} (h:P n):leastN P≤n:=by
 unfold leastN
 rw [dif_pos (least_ex n h)]
 exact (Classical.choose_spec (least_ex n h)).2 n h
theorem get_spec {g h:Nat} {top:Pg h} {l:List Ent} {k:ByteArray} (ht:TrAt w g h top l) (hK:∀ w',Upd Nothing w w'→K (.tuple #[(kval k l).getD zero,.bool (kval k l).isSome]) w'):Cv F.z150 #[.pointer (some ⟨g,0,none⟩),.string k] w K:=
 R.z150 (by
  unfold C.z150
  refine ifB_mk (fun h=>by cases h) (fun _=>⟨_,rfl,_,ht.hdr.cell (i:=0) rfl,?_⟩)
  refine ⟨fun q w'=>Upd Nothing w w'∧∃ n,PgKey w' k (kval k l) q n,fun q w'=>leastN fun n=>PgKey w' k (kval k l) q n,⟨Upd.refl _ _,h,top,_,rfl,ht.ok,by rw [ht.toL]; exact ht.srt,by rw [ht.toL]; exact ht.isV,ht.rs,by rw [ht.toL]⟩,?_⟩
  rintro q w1 ⟨hu1,hex⟩
  obtain ⟨p,lo,hq,ho,hs,hV,hR,hkv⟩:=leastN_spec hex
  generalize hn:(leastN fun n=>PgKey w1 k (kval k l) q n)=n at p ho hs hV hR hkv hq ⊢
  subst hq
  have hr:RecAt TT w1 (root n p):=hR.1 _ (by simp [recs])
  have hsub:=root_sub ho
  have hes:=ho.root_len.2
  refine ⟨_,rfl,find_spec hr (List.Pairwise.sublist hsub hs) (fun e he=>hV e (hsub.subset he)) (by omega) fun i ok w2 hT hF hu2=>⟨_,_,rfl,?_⟩⟩
  have hr2:RecAt TT w2 (root n p):=hr.upd hu2 fun _ _ f=>f
  refine ifB_mk (fun hok=>?_) (fun hok=>?_)
  ·obtain ⟨u,hu,es1,es2,he,hi,_,_⟩:=hT hok
   obtain ⟨_,hG⟩:=toL_set (v:=zero) (r:={ root n p with es:=es1++(k,zero) :: es2 }) ho hs he rfl
   rw [hG] at hkv
   obtain ⟨c,hc,hcc⟩:=ent_at hr2 he hi
   have hel:(root n p).es.length=es1.length+1+es2.length:=by rw [he]; simp; omega
   have:=hK w2 (hu1.then hu2)
   rw [← hkv] at this
   obtain ⟨us,rfl⟩:=hu
   exact ⟨_,rfl,_,_,_,hr2.1.cell (i:=0) rfl,c,hc,by omega,by omega,us,hcc.2.1,this⟩
  ·obtain ⟨es1,es2,he,hi,h1,h2⟩:=hF hok
   have hel:(root n p).es.length=es1.length+es2.length:=by rw [he]; simp
   refine leaf_spec hr2 ⟨_,rfl,?_⟩
   match n,p,ho,hs,hV,hR,hkv,hn,hr,hr2,hsub,hes,es1,es2,he,hi,h1,h2,hel with
   | 0,p,ho,hs,hV,hR,hkv,hn,hr,hr2,hsub,hes,es1,es2,he,hi,h1,h2,hel=>
    refine ifB_mk (fun _=>?_) (fun hl=>by rw [show (root 0 p).bs=[] from ho.1] at hl; simp at hl)
    have e:toL 0 p=es1++es2:=he
    rw [e,get_none h1 h2] at hkv
    have:=hK w2 (hu1.then hu2)
    rw [← hkv] at this
    exact this
   | n+1,(r,cs),ho,hs,hV,hR,hkv,hn,hr,hr2,hsub,hes,es1,es2,he,hi,h1,h2,hel=>
    have hb0:r.bs=cs.map fun c=>(root n c).a:=ho.1
    have hl0:cs.length=r.es.length+1:=ho.2.1
    have hbl:r.bs.length=r.es.length+1:=by rw [hb0,List.length_map,hl0]
    have hel':r.es.length=es1.length+es2.length:=hel
    refine ifB_mk (fun hl=>by have hl':r.bs.length=0:=of_decide_eq_true hl; omega) (fun _=>?_)
    obtain ⟨cs1,c,cs2,rfl,l1,l2,hb,hL,hokc,_,_⟩:=node_at ho he hi
    rw [hL] at hs hV hkv
    obtain ⟨hs12,hs3,_⟩:=hs.app
    obtain ⟨hs1,hs2,_⟩:=hs12.app
    rw [get_mid (lw_lo hs1 h1) (rw_hi hs3 h2)] at hkv
    obtain ⟨a,ha,hca⟩:=ptr_at (r:=r) (bs1:=cs1.map fun c=>(root n c).a) (x:=(root n c).a) (bs2:=cs2.map fun c=>(root n c).a) (i:=i) hr2 hb (by rw [List.length_map,l1])
    have hpk:PgKey w2 k (kval k l) (some ⟨(root n c).a,0,none⟩) n:=⟨c,2,rfl,hokc,hs2,fun e he=>hV e (by simp [he]),(RS.app.1 ((hR.upd0 hu2).perm recs_mid)).1,hkv⟩
    refine ⟨_,rfl,r.bp,r.bs.length,r.bc,hr2.1.cell (i:=1) rfl,a,ha,by omega,by omega,_,by simpa using hca,⟨hu1.then hu2,n,hpk⟩,?_⟩
    have h3:=leastN_le hpk
    refine Nat.lt_of_le_of_lt h3 ?_
    exact Nat.lt_of_lt_of_le (Nat.lt_succ_self n) (Nat.le_of_eq hn.symm))
theorem hdr_out {w:World} {g:Nat} {L:List Value} {A:List Rec} (hb:Blk w g L T.tree_Tree_string) (hR:RS TT w A):¬ FPs A g:=by
 rintro ⟨r,hr,hk⟩
 obtain ⟨l,e,hb',he⟩:=(hR.1 r hr).ty hk
 have:=(hb.same hb').2
 subst this
 exact absurd he (by decide)
theorem tput_spec {g h : Nat} {top : Pg h} {l : List Ent} {k : ByteArray} {v : Value} (ht : TrAt w g h top l) (hv : IsV v) (hsz : l.length ≤ 1000000)
    (hK : ∀ h' (top' : Pg h') w', TrAt w' g h' top' (ins k v l) → Upd (fun i => i = g ∨ FPs (recs h top) i) w w' → (∀ i, (i = g ∨ FPs (recs h' top') i) → (i = g ∨ FPs (recs h top) i) ∨ w.heap.size ≤ i) → K (.tuple #[(kval k l).getD zero, .bool (kval k l).isSome]) w') :
    Cv F.z153 #[.pointer (some ⟨g, 0, none⟩), .string k, v] w K := by
  have hv0 := hv
  obtain ⟨vs, rfl⟩ := hv
  refine R.z153 ?_
  unfold C.z153
  have hVt : ∀ e ∈ toL h top, IsV e.2 := by rw [ht.toL]; exact ht.isV
  have hSt : Srt (toL h top) := by rw [ht.toL]; exact ht.srt
  have hV' : ∀ e ∈ ins k (.string vs) l, IsV e.2 := fun e he => by
    rcases ins_mem he with h1 | h1
    · exact ht.isV e h1
    · rw [h1]; exact hv0
  refine ifB_mk (fun h => by cases h) (fun _ => ⟨_, rfl, _, ht.hdr.cell (i := 0) rfl, put_spec h ht.ok hSt hVt ht.rs hv0 fun p' w1 hok' hra hL' hm1 => ?_⟩)
  rw [ht.toL] at hL' ⊢
  have hgv := get_isV (k := k) ht.isV
  have hlen := ins_len (k := k) (v := (.string vs)) ht.srt
  generalize (kval k l).getD zero = ov at hgv hK ⊢
  generalize (kval k l).isSome = ob at hK hlen ⊢
  obtain ⟨us, rfl⟩ := hgv
  have hb1 := hm1.upd.blk ht.hdr (hdr_out ht.hdr ht.rs)
  have hr1 : RecAt TT w1 (root h p') := hm1.rs.1 _ (by simp [recs])
  have hc1 : w1.cell? (((Addr.mk (root h top).a 0 none).add 0).add 0) = some (.slice (root h p').ep (root h p').es.length (root h p').ec) := by
    rw [← hra]
    exact hr1.1.cell (i := 0) rfl
  have fin : ∀ h' (top' : Pg h') w5, Ok h' (if h' = 0 then 0 else 1) 5 top' → toL h' top' = ins k (.string vs) l → Blk w5 g [.pointer (some ⟨(root h' top').a, 0, none⟩), .int .i64 (l.length : Int)] T.tree_Tree_string → RS TT w5 (recs h' top') → Upd (fun i => i = g ∨ FPs (recs h top) i) w w5 → (∀ i, FPs (recs h' top') i → FPs (recs h top) i ∨ w.heap.size ≤ i) →
      ifB (!ob) (
            ∃ ta6, (some (Addr.mk g 0 none)) = some ta6 ∧
            ∃ (n1 : Int),
            w5.cell? (ta6.add 1) = some (.int .i64 n1) ∧
            ∃ ta7, (some (Addr.mk g 0 none)) = some ta7 ∧
            CanSt w5 (ta7.add 1) ∧ ∀ wv6, wv6 = w5.setCell (ta7.add 1) (.int .i64 (IntKind.i64.wrap (n1 + (1 : Int)))) →
            K (.tuple #[.string us, .bool ob]) wv6) (
            K (.tuple #[.string us, .bool ob]) w5) := by
    intro h' top' w5 k1 k2 k3 k4 k5 k6
    refine ifB_mk (fun ho => ?_) (fun ho => ?_)
    · have ho' : ob = false := by simpa using ho
      rw [ho', if_neg (by decide)] at hlen
      refine ⟨_, rfl, _, k3.cell (i := 1) rfl, _, rfl, k3.store (i := 1) (by simp) rfl fun w6 hb6 hu6 _ => ?_⟩
      rw [i64_wrap (by omega) (by omega)] at hb6
      refine hK h' top' w6 ⟨k1, k2, srt_ins ht.srt, hV', ?_, k4.upd hu6 fun i hi e => hdr_out k3 k4 (by rw [← show i = g from e]; exact hi)⟩ (k5.then (hu6.mono fun i _ hi => .inl hi)) fun i hi => ?_
      · rw [hlen]; exact hb6
      · rcases hi with hi | hi
        · exact .inl (.inl hi)
        · rcases k6 i hi with h | h
          · exact .inl (.inr h)
          · exact .inr h
    · have ho' : ob = true := by simpa using ho
      rw [ho', if_pos rfl] at hlen
      refine hK h' top' w5 ⟨k1, k2, srt_ins ht.srt, hV', by rw [hlen]; exact k3, k4⟩ k5 fun i hi => ?_
      rcases hi with hi | hi
      · exact .inl (.inl hi)
      · rcases k6 i hi with h | h
        · exact .inl (.inr h)
        · exact .inr h
  have hu1 : Upd (fun i => i = g ∨ FPs (recs h top) i) w w1 := hm1.upd.mono fun i _ hi => .inr hi
  have hrl := hok'.root_len
  refine ⟨us, _, rfl, _, rfl, _, hb1.cell (i := 0) rfl, _, rfl, _, _, _, hc1, ifB_mk (fun h6 => ?_) (fun h6 => ?_)⟩
  · have h66 : (root h p').es.length = 6 := by have := of_decide_eq_true h6; omega
    refine ⟨_, rfl, _, hb1.cell (i := 0) rfl, New.use (by simp [Value.oneCell']) fun b1 w2 hn1 hu2 hge1 _ => New.use (by simp [Value.oneCell']) fun b2 w3 hn2 hu3 hge2 _ => ?_⟩
    have hu23 := hu2.then hu3
    have hb3 := hu23.blk hb1 fun f => f
    have hsz1 := hm1.upd.size
    have hsz2 := hu2.size
    have hgl := ht.hdr.lt
    have hgl1 := hb1.lt
    let r : Rec := ⟨b2, none, 0, [], some ⟨b1, 0, none⟩, 1, [(root h p').a]⟩
    have hr3 : RecAt TT w3 r := ⟨hn2, OwnW.nil _ _ _, by
      refine ⟨rfl, Nat.le_refl _, .inr ⟨b1, [], rfl, ?_, Nat.le_refl _⟩⟩
      have := hu3.blk hn1 fun f => f
      rw [← hra] at this
      exact this⟩
    have hrf : ∀ i, FP r i → w1.heap.size ≤ i := fun i hi => by
      rcases hi with rfl | hi | hi
      · exact Nat.le_trans hsz2 hge2
      · have h0 : 0 < 0 := hi.1
        omega
      · obtain ⟨_, a, ha, rfl⟩ := hi
        have ha' : some (Addr.mk b1 0 none) = some a := ha
        injection ha' with ha'
        subst ha'
        exact hge1
    have hm13 : Mv TT w1 w3 (recs h p') (r :: recs h p') := Mv.add hm1.rs (Mv.made hr3 hu23 hrf)
    refine ⟨_, rfl, hb3.store (i := 0) (by simp) rfl fun w4 hb4 hu4 _ => ?_⟩
    have hR4 : RS TT w4 (r :: recs h p') := hm13.rs.upd hu4 fun i hi e => hdr_out hb3 hm13.rs (by rw [← show i = g from e]; exact hi)
    have hpm : (r :: recs h p').Perm ([r, root h p'] ++ subs h p') := List.Perm.refl _
    obtain ⟨A, m, mv, B, X, Y, hA1, hA2, hB2, hXYe, hXY, hsp⟩ := page_split hok' h66
    have hmv : IsV mv := hV' (m, mv) (by rw [← hL']; exact (root_sub hok').subset (by rw [hA1]; simp))
    refine ⟨_, rfl, _, hb4.cell (i := 0) rfl, split_spec (i := 0) (r := r) (c := root h p') (es1 := []) (es2 := []) (bs1 := []) (bs2 := []) (RS.app.1 hR4).1 hmv rfl rfl rfl rfl (by show 0 ≤ 100; omega) (by show 1 ≤ 100; omega) hA1 hA2 (by omega) hXYe hXY fun r' cc q w5 k1 k2 k3 k4 k5 k6 k7 k8 hm5 => ⟨rfl, ?_⟩⟩
    obtain ⟨hT6, hoL, hoR⟩ := hsp cc q k5 k6 k7 k8
    have hpm' : (recs (h + 1) (r', [splitL h p' cc, splitR h p' q])).Perm ([r', cc, q] ++ subs h p') := by
      rw [recs_node, List.flatMap_cons, List.flatMap_cons, List.flatMap_nil, subs_split h p' cc q]
      show (r' :: ((root h (splitL h p' cc) :: subs h (splitL h p' cc)) ++ ((root h (splitR h p' q) :: subs h (splitR h p' q)) ++ []))).Perm _
      rw [root_splitL, root_splitR]
      have := (perm_two [] [] cc q (subs h (splitL h p' cc)) (subs h (splitR h p' q))).cons r'
      simp only [List.nil_append, List.append_nil] at this ⊢
      exact this
    have hm45 : Mv TT w4 w5 (r :: recs h p') (recs (h + 1) (r', [splitL h p' cc, splitR h p' q])) := (hm5.frame hR4).perm (List.Perm.refl _) hpm'.symm
    have hb5 : Blk w5 g [.pointer (some ⟨r'.a, 0, none⟩), .int .i64 (l.length : Int)] T.tree_Tree_string := by
      rw [k1]
      exact hm45.upd.blk hb4 (hdr_out hb4 hR4)
    have hfr : ∀ i, FPs (r :: recs h p') i → FPs (recs h top) i ∨ w.heap.size ≤ i := fun i hi => by
      rcases FPs.cons.1 hi with hi | hi
      · have := hrf i hi; exact .inr (by omega)
      · exact hm1.fresh i hi
    refine fin (h + 1) (r', [splitL h p' cc, splitR h p' q]) w5 ⟨?_, ?_, ?_, ?_, fun x hx => ?_⟩ ?_ hb5 hm45.rs ?_ fun i hi => ?_
    · show r'.bs = _
      rw [k3, List.map_cons, List.map_cons, List.map_nil, root_splitL, root_splitR, k4]
      rfl
    · show 2 = r'.es.length + 1
      rw [k2]; rfl
    · show (if h + 1 = 0 then 0 else 1) ≤ r'.es.length
      rw [k2]; simp
    · show r'.es.length ≤ 5
      rw [k2]; simp
    · rcases List.mem_cons.1 hx with rfl | hx
      · exact hoL
      · rcases List.mem_cons.1 hx with rfl | hx
        · exact hoR
        · cases hx
    · rw [toL_node, k2, ← hL', hT6]
      simp [weave, rw']
    · refine ((hu1.then (hu23.mono fun _ _ f => f.elim)).then (hu4.mono fun i _ hi => .inl hi)).trans hm45.upd (fun _ _ h => h) fun i hi hf => ?_
      rcases hfr i hf with h | h
      · exact .inr h
      · omega
    · rcases hm45.fresh i hi with h | h
      · exact hfr i h
      · have := hu4.size
        have := hu23.size
        exact .inr (by omega)
  · have h5 : (root h p').es.length ≤ 5 := by have := of_decide_eq_false h6; omega
    exact fin h p' w1 (hok'.mono hrl.1 h5) hL' (by rw [hra]; exact hb1) hm1.rs hu1 hm1.fresh
theorem lone {h:Nat} {r:Rec} {c:Pg h} (he:r.es=[]):toL (h+1) (r,[c])=toL h c:=by
 rw [toL_node,he]
 simp [weave,rw']
theorem tdelete_spec {g h : Nat} {top : Pg h} {l : List Ent} {k : ByteArray} (ht : TrAt w g h top l) (hsz : l.length ≤ 1000000)
    (hK : ∀ h' (top' : Pg h') w', TrAt w' g h' top' (del k l) → Upd (fun i => i = g ∨ FPs (recs h top) i) w w' → (∀ i, (i = g ∨ FPs (recs h' top') i) → (i = g ∨ FPs (recs h top) i) ∨ w.heap.size ≤ i) → K (.tuple #[(kval k l).getD zero, .bool (kval k l).isSome]) w') :
    Cv F.z149 #[.pointer (some ⟨g, 0, none⟩), .string k] w K := by
  refine R.z149 ?_
  unfold C.z149
  have hVt : ∀ e ∈ toL h top, IsV e.2 := by rw [ht.toL]; exact ht.isV
  have hSt : Srt (toL h top) := by rw [ht.toL]; exact ht.srt
  have hV' : ∀ e ∈ del k l, IsV e.2 := fun e he => ht.isV e (List.mem_filter.1 he).1
  refine ifB_mk (fun h => by cases h) (fun _ => ⟨_, rfl, _, ht.hdr.cell (i := 0) rfl, drop_spec h ht.ok (fun h0 => by rw [if_neg h0]; exact Nat.le_refl _) hSt hVt ht.rs fun p' w1 hok' hra hL' hm1 => ?_⟩)
  rw [ht.toL] at hL' ⊢
  have hgv := get_isV (k := k) ht.isV
  have hlen := del_len (k := k) ht.srt
  generalize (kval k l).getD zero = ov at hgv hK ⊢
  generalize (kval k l).isSome = ob at hK hlen ⊢
  obtain ⟨us, rfl⟩ := hgv
  have hb1 := hm1.upd.blk ht.hdr (hdr_out ht.hdr ht.rs)
  rw [← hra] at hb1
  have hu1 : Upd (fun i => i = g ∨ FPs (recs h top) i) w w1 := hm1.upd.mono fun i _ hi => .inr hi
  have fin : ∀ w2, Blk w2 g [.pointer (some ⟨(root h p').a, 0, none⟩), .int .i64 ((del k l).length : Int)] T.tree_Tree_string → RS TT w2 (recs h p') → Upd (fun i => i = g ∨ FPs (recs h top) i) w w2 →
        ∃ ta4, (some (Addr.mk g 0 none)) = some ta4 ∧
        ∃ (top2 : Option Addr),
        w2.cell? (ta4.add 0) = some (.pointer top2) ∧
        ∃ topa1, top2 = some topa1 ∧
        ∃ (all1p : Option Addr) (all1n all1c : Nat),
        w2.cell? ((topa1.add 0).add 0) = some (.slice all1p all1n all1c) ∧
        ifB (((all1n : Nat) : Int) == (0 : Int)) (
          ∃ ta5, (some (Addr.mk g 0 none)) = some ta5 ∧
          ∃ (top3 : Option Addr),
          w2.cell? (ta5.add 0) = some (.pointer top3) ∧
          Cv F.z167 #[.pointer top3] w2 (fun v2 wv3 =>
            ∃ (r1 : Bool),
            v2 = .bool r1 ∧
            ifB (!r1) (
              ∃ ta6, (some (Addr.mk g 0 none)) = some ta6 ∧
              ∃ (top4 : Option Addr),
              wv3.cell? (ta6.add 0) = some (.pointer top4) ∧
              ∃ topa2, top4 = some topa2 ∧
              ∃ (below1p : Option Addr) (below1n below1c : Nat),
              wv3.cell? (topa2.add 1) = some (.slice below1p below1n below1c) ∧
              ∃ a1, below1p = some a1 ∧ 0 ≤ (0 : Int) ∧ (0 : Int) < ((below1n : Nat) : Int) ∧
              ∃ (e1 : Option Addr),
              wv3.cell? (a1.add ((0 : Int).toNat * 1)) = some (.pointer e1) ∧
              ∃ ta7, (some (Addr.mk g 0 none)) = some ta7 ∧
              CanSt wv3 (ta7.add 0) ∧ ∀ wv4, wv4 = wv3.setCell (ta7.add 0) (.pointer e1) →
              K (.tuple #[.string us, .bool ob]) wv4) (
              K (.tuple #[.string us, .bool ob]) wv3))) (
          K (.tuple #[.string us, .bool ob]) w2) := by
    intro w2 hb2 hR2 hu2
    have hr2 : RecAt TT w2 (root h p') := hR2.1 _ (by simp [recs])
    have done : Ok h (if h = 0 then 0 else 1) 5 p' → K (.tuple #[.string us, .bool ob]) w2 := fun hok => hK h p' w2 ⟨hok, hL', srt_del ht.srt, hV', hb2, hR2⟩ hu2 fun i hi => by
      rcases hi with hi | hi
      · exact .inl (.inl hi)
      · rcases hm1.fresh i hi with h | h
        · exact .inl (.inr h)
        · exact .inr h
    have hrl := hok'.root_len
    refine ⟨_, rfl, _, hb2.cell (i := 0) rfl, _, rfl, _, _, _, hr2.1.cell (i := 0) rfl, ifB_mk (fun h0 => ?_) (fun h0 => ?_)⟩
    · have he0 : (root h p').es.length = 0 := by simpa using h0
      refine ⟨_, rfl, _, hb2.cell (i := 0) rfl, leaf_spec hr2 ⟨_, rfl, ifB_mk (fun hl => ?_) (fun hl => ?_)⟩⟩
      · match h, p', top, hok', hL', hb2, hR2, hr2, he0, hl, hK, ht, hra, hm1, hu2 with
        | 0, p', top, hok', hL', hb2, hR2, hr2, he0, hl, hK, ht, hra, hm1, hu2 =>
          have : (root 0 p').bs = [] := hok'.1
          rw [this] at hl
          simp at hl
        | h + 1, (r, cs), top, hok', hL', hb2, hR2, hr2, he0, hl, hK, ht, hra, hm1, hu2 =>
          have he : r.es = [] := List.length_eq_zero_iff.1 he0
          have hcl : cs.length = 1 := by
            have : cs.length = r.es.length + 1 := hok'.2.1
            rw [this, he]; rfl
          obtain ⟨c, rfl⟩ : ∃ c, cs = [c] := by
            match cs, hcl with
            | [c], _ => exact ⟨c, rfl⟩
          have hbs : r.bs = [(root h c).a] := hok'.1
          have hokc : Ok h 2 5 c := hok'.2.2.2.2 c (by simp)
          have hlone := lone (c := c) he
          have hpos : (0 : Int) < (((root (h + 1) (r, [c])).bs.length : Nat) : Int) := by
            show (0 : Int) < ((r.bs.length : Nat) : Int)
            rw [hbs]
            exact (by decide : (0 : Int) < ((1 : Nat) : Int))
          obtain ⟨a, ha, hca⟩ := ptr_at (r := r) (bs1 := []) (x := (root h c).a) (bs2 := []) (i := 0) hr2 hbs rfl
          refine ⟨_, rfl, _, hb2.cell (i := 0) rfl, _, rfl, _, _, _, hr2.1.cell (i := 1) rfl, a, ha, by omega, hpos, _, hca, _, rfl, hb2.store (i := 0) (by simp) rfl fun w3 hb3 hu3 _ => ?_⟩
          have hRc : RS TT w2 (recs h c) := by
            have : RS TT w2 ([r] ++ (recs h c ++ [])) := hR2
            rw [List.append_nil] at this
            exact (RS.app.1 this).2.1
          have hcr := hokc.root_len
          refine hK h c w3 ⟨hokc.mono (by split <;> omega) hcr.2, by rw [← hL', hlone], srt_del ht.srt, hV', hb3, hRc.upd hu3 fun i hi e => hdr_out hb2 hRc (by rw [← show i = g from e]; exact hi)⟩ (hu2.then (hu3.mono fun i _ hi => .inl hi)) fun i hi => ?_
          rcases hi with hi | hi
          · exact .inl (.inl hi)
          · rcases hm1.fresh i (by
              obtain ⟨x, hx, hk⟩ := hi
              exact ⟨x, by rw [recs_node]; simp [hx], hk⟩) with h | h
            · exact .inl (.inr h)
            · exact .inr h
      · refine done ?_
        have hl0 : (root h p').bs.length = 0 := by simpa using hl
        match h, p', hok', he0, hl0 with
        | 0, p', hok', he0, hl0 => exact ⟨hok'.1, Nat.zero_le _, hok'.2.2⟩
        | h + 1, (r, cs), hok', he0, hl0 =>
          have h1 : r.bs = cs.map (fun c => (root h c).a) := hok'.1
          have h2 : cs.length = r.es.length + 1 := hok'.2.1
          have h3 : r.bs.length = 0 := hl0
          rw [h1, List.length_map] at h3
          omega
    · have he0 : (root h p').es.length ≠ 0 := by simpa using h0
      exact done (hok'.mono (by split <;> omega) hrl.2)
  refine ⟨us, _, rfl, ifB_mk (fun ho => ?_) (fun ho => ?_)⟩
  · subst ho
    rw [if_pos rfl] at hlen
    refine ⟨_, rfl, _, hb1.cell (i := 1) rfl, _, rfl, hb1.store (i := 1) (by simp) rfl fun w2 hb2 hu2 _ => ?_⟩
    rw [i64_wrap (by omega) (by omega)] at hb2
    refine fin w2 ?_ (hm1.rs.upd hu2 fun i hi e => hdr_out hb1 hm1.rs (by rw [← show i = g from e]; exact hi)) (hu1.then (hu2.mono fun i _ hi => .inl hi))
    have e : ((l.length : Nat) : Int) - 1 = ((del k l).length : Int) := by omega
    rw [← e]
    exact hb2
  · subst ho
    rw [if_neg (by decide)] at hlen
    refine fin w1 ?_ hm1.rs hu1
    have e : l.length = (del k l).length := by omega
    rw [e] at hb1
    exact hb1
end
end Ts
end Go.Proofs.YtjcgociobhhijaaGreatDoor
namespace Go.Proofs.YtjcgociobhhijaaGreatDoor.SX
open Go
def ints (xs:List Int):List Value:=xs.map (Value.int .i64)
@[simp] theorem ints_length (xs:List Int):(ints xs).length=xs.length:=by simp [ints]
theorem ints_get {xs:List Int} {i:Nat} (h:i < xs.length):(ints xs)[i]? = some (.int .i64 xs[i]):=by simp [ints,h]
theorem ints_append (xs ys:List Int):ints (xs++ys)=ints xs++ints ys:=by simp [ints]
theorem ints_take (xs:List Int) (n:Nat):ints (xs.take n)=(ints xs).take n:=by simp [ints]
theorem ints_one (xs:List Int):∀ v∈ints xs,v.oneCell'=true:=by intro v hv; simp only [ints,List.mem_map] at hv; obtain ⟨_,_,rfl⟩:=hv; rfl
theorem scan_next {n k:Nat} {w w2:World} {Q:Nat→Prop} (hk:k < n) (hn:n≤9223372036854775806) (hu:Upd Nothing w w2) (hq:Q (k+1)) :
  (∃ k':Nat,IntKind.i64.wrap ((k:Int)+1)=(k':Int)∧k'≤n∧Upd Nothing w w2∧Q k')∧n - (IntKind.i64.wrap ((k:Int)+1)).toNat < n - (k:Int).toNat:=by
 rw [i64_wrap (by omega) (by omega)]
 exact ⟨⟨k+1,by omega,by omega,hu,hq⟩,by omega⟩
theorem forall_take {α:Type} {P:α→Prop} {l:List α} {k:Nat} (hk:k < l.length) (h:∀ x∈l.take k,P x) (hx:P l[k]):∀ x∈l.take (k+1),P x:=by
 rw [List.take_succ_eq_append_getElem hk]
 intro x hm
 rcases List.mem_append.1 hm with hm | hm
 ·exact h x hm
 ·have:x=l[k]:=by simpa using hm
  rw [this]; exact hx
def letterP (c:Int):Prop:=97≤c∧c≤122
def partP (c:Int):Prop:=letterP c∨(48≤c∧c≤57)∨c=95
def NameP (s:ByteArray):Prop:=1≤s.size∧s.size≤16∧letterP (bt s 0)∧∀ b∈s.data.toList,partP (b.toNat:Int)
structure Col where
 name:ByteArray
 kind:Int
def Col.cells (c:Col):List Value:=[.string c.name,.int .i64 c.kind]
structure Ix where
 cols:List Int
 unique:Bool
structure Schm where
 name:ByteArray
 cols:List Col
 ixs:List Ix
 limit:Int
 parts:Int
 by_:Int
def Cols (w:World) (p:Option Addr) (l:List Col):Prop:=∀ i (h:i < l.length),∃ a,p=some a∧cellsAt w (a.add (i * 2)) 0 [.string l[i].name,.int .i64 l[i].kind]
def Ixs (w:World) (p:Option Addr) (l:List Ix):Prop:=∀ i (h:i < l.length),∃ a q n c,p=some a∧cellsAt w (a.add (i * 2)) 0 [.slice q n c,.bool l[i].unique]∧At w q (ints l[i].cols)∧l[i].cols.length=n∧n≤c
theorem cellsAt_upd0 {w w':World} (hu:Upd Nothing w w'):∀ {xs:List Value} {a:Addr} {i:Nat},cellsAt w a i xs→cellsAt w' a i xs
 | [],_,_,_=>trivial
 | x :: xs,a,i,h=>⟨hu.cell h.1 fun f=>f,cellsAt_upd0 hu h.2⟩
theorem Cols.upd0 {w w':World} {p:Option Addr} {l:List Col} (h:Cols w p l) (hu:Upd Nothing w w'):Cols w' p l:=fun i hi=>by
 obtain ⟨a,hp,hc⟩:=h i hi
 exact ⟨a,hp,cellsAt_upd0 hu hc⟩
theorem Ixs.upd0 {w w':World} {p:Option Addr} {l:List Ix} (h:Ixs w p l) (hu:Upd Nothing w w'):Ixs w' p l:=fun i hi=>by
 obtain ⟨a,q,n,c,hp,hc,hat,hl,hn⟩:=h i hi
 exact ⟨a,q,n,c,hp,cellsAt_upd0 hu hc,hat.upd0 hu,hl,hn⟩
def Unlike {α:Type} (same:α→α→Prop) (l:List α):Prop:=∀ i j (hi:i < l.length) (hj:j < i),¬ same l[i] (l[j]'(Nat.lt_trans hj hi))
def IxP (n:Nat) (x:Ix):Prop:=(∀ c∈x.cols,0≤c∧c≤(n:Int) - 1)∧0 < x.cols.length∧Unlike (· = ·) x.cols
def Schm.Right (s:Schm):Prop:=
 NameP s.name∧((∀ c∈s.cols,NameP c.name∧1≤c.kind∧c.kind≤3)∧(1≤s.cols.length∧s.cols.length≤8)∧Unlike (fun a b:Col=>a.name=b.name) s.cols)∧
 ((∀ x∈s.ixs,IxP s.cols.length x)∧(1≤s.ixs.length∧s.ixs.length≤4)∧(∀ x,s.ixs[0]? = some x→x.unique=true)∧Unlike (fun a b:Ix=>a.cols=b.cols) s.ixs)∧
 (1≤s.limit∧s.limit≤1000)∧(1≤s.parts∧s.parts≤8)∧0≤s.by_∧s.by_≤(s.cols.length:Int) - 1
end Go.Proofs.YtjcgociobhhijaaGreatDoor.SX
namespace Go.Proofs.YtjcgociobhhijaaGreatDoor.SX
open Go
def Typed (w:World) (es:List Nat):Nat→Prop:=fun k=>∃ l e,Blk w k l e∧e∈es
theorem Typed.not {w:World} {es:List Nat} {k e:Nat} {l:List Value} (h:Blk w k l e) (he:e∉es):¬ Typed w es k:=by
 rintro ⟨l',e',h',hm⟩
 exact he ((h.same h').2 ▸ hm)
theorem Blk.of_heap {w w':World} {k e:Nat} {l:List Value} (h:Blk w k l e) (hh:w'.heap[k]? = w.heap[k]?):Blk w' k l e:=by
 obtain ⟨⟨lo,hi,h1,h2⟩,h3⟩:=h
 exact ⟨⟨lo,hi,hh.trans h1,h2⟩,h3⟩
theorem Upd.typed {a b c:World} {es:List Nat} (h:Upd (Typed a es) a b) (k:Upd (Typed b es) b c):Upd (Typed a es) a c:=by
 refine ⟨k.os.trans h.os,k.tape.trans h.tape,k.output.trans h.output,Nat.le_trans h.size k.size,fun i hi hn=>?_⟩
 have h1:=h.block i hi hn
 rw [k.block i (Nat.lt_of_lt_of_le hi h.size) (fun ⟨l,e,hb,he⟩=>hn ⟨l,e,hb.of_heap h1.symm,he⟩),h1]
theorem Upd.typed0 {a b c:World} {es:List Nat} (h:Upd Nothing a b) (k:Upd (Typed b es) b c):Upd (Typed a es) a c:=by
 refine ⟨k.os.trans h.os,k.tape.trans h.tape,k.output.trans h.output,Nat.le_trans h.size k.size,fun i hi hn=>?_⟩
 have h1:=h.block i hi fun f=>f
 rw [k.block i (Nat.lt_of_lt_of_le hi h.size) (fun ⟨l,e,hb,he⟩=>hn ⟨l,e,hb.of_heap h1.symm,he⟩),h1]
theorem Upd.sub {a b:World} {es fs:List Nat} (h:Upd (Typed a es) a b) (hs:∀ e∈es,e∈fs):Upd (Typed a fs) a b:=h.mono fun i _ ⟨l,e,hb,he⟩=>⟨l,e,hb,hs e he⟩
theorem Upd.any {a b:World} {es:List Nat} (h:Upd Nothing a b):Upd (Typed a es) a b:=h.mono fun _ _ f=>f.elim
theorem Upd.tblk {w w':World} {es:List Nat} (h:Upd (Typed w es) w w') {b e:Nat} {l:List Value} (hb:Blk w b l e) (he:e∉es):Blk w' b l e:=h.blk hb (Typed.not hb he)
theorem Upd.tone {w w':World} {g e:Nat} {l:List Value} {es:List Nat} (hb:Blk w g l e) (hu:Upd (One g) w w') (he:e∈es):Upd (Typed w es) w w':=hu.mono fun i _ hi=>⟨l,e,by rw [show i=g from hi]; exact hb,he⟩
theorem own_typed {w:World} {e s n c:Nat} {p:Option Addr} {xs:List Value} {es:List Nat} (h:Own w e s p n c xs) (he:e∈es):∀ k,Fp p c k→Typed w es k:=by
 rintro k ⟨h0,a,ha,rfl⟩
 rcases h.mem with h1 | ⟨g,rest,hp,hb,_⟩
 ·omega
 ·rw [hp] at ha
  injection ha with ha
  subst ha
  exact ⟨_,_,hb,he⟩
theorem own_not_typed {w:World} {e s n c:Nat} {p:Option Addr} {xs:List Value} {es:List Nat} (h:Own w e s p n c xs) (he:e∉es):∀ k,Fp p c k→¬ Typed w es k:=by
 rintro k ⟨h0,a,ha,rfl⟩
 rcases h.mem with h1 | ⟨g,rest,hp,hb,_⟩
 ·omega
 ·rw [hp] at ha
  injection ha with ha
  subst ha
  exact Typed.not hb he
theorem Upd.town {w w':World} {es:List Nat} (hu:Upd (Typed w es) w w') {e s n c:Nat} {p:Option Addr} {xs:List Value} (h:Own w e s p n c xs) (he:e∉es):Own w' e s p n c xs:=h.upd hu (own_not_typed h he)
def Rws (w:World) (p:Option Addr) (l:List (List Val)):Prop:=∀ i (h:i < l.length),∃ a q m d,p=some a∧w.cell? (a.add i)=some (.slice q m d)∧At w q (vals l[i])∧l[i].length=m∧m≤d
theorem Rws.upd0 {w w':World} {p:Option Addr} {l:List (List Val)} (h:Rws w p l) (hu:Upd Nothing w w'):Rws w' p l:=fun i hi=>by
 obtain ⟨a,q,m,d,hp,hc,hat,hl,hd⟩:=h i hi
 exact ⟨a,q,m,d,hp,hu.cell hc fun f=>f,hat.upd0 hu,hl,hd⟩
end Go.Proofs.YtjcgociobhhijaaGreatDoor.SX
namespace Go.Proofs.YtjcgociobhhijaaGreatDoor
open Go SX Bt
namespace Ts
structure Tre where
 g:Nat
 h:Nat
 top:Pg h
 l:List Ent
def TF (t:Tre) (k:Nat):Prop:=k=t.g∨FPs (recs t.h t.top) k
def At' (w:World) (t:Tre):Prop:=TrAt w t.g t.h t.top t.l
def TEs:List Nat:=[T.tree_Tree_string,TT.tp,TT.te,TT.tq]
theorem At'.typed {w:World} {t:Tre} {k:Nat} (h:At' w t) (hk:TF t k):Typed w TEs k:=by
 rcases hk with rfl | ⟨r,hr,hk⟩
 ·exact ⟨_,_,TrAt.hdr h,by simp [TEs]⟩
 ·obtain ⟨l,e,hb,he⟩:=((TrAt.rs h).1 r hr).ty hk
  exact ⟨l,e,hb,List.mem_cons_of_mem _ he⟩
theorem At'.lt {w:World} {t:Tre} {k:Nat} (h:At' w t) (hk:TF t k):k < w.heap.size:=by
 obtain ⟨l,e,hb,_⟩:=h.typed hk
 exact hb.lt
theorem At'.upd {F:Nat→Prop} {w w':World} {t:Tre} (h:At' w t) (hu:Upd F w w') (hn:∀ k,TF t k→¬ F k):At' w' t:=
 ⟨TrAt.ok h,TrAt.toL h,TrAt.srt h,TrAt.isV h,hu.blk (TrAt.hdr h) (hn _ (.inl rfl)),(TrAt.rs h).upd hu fun k hk=>hn k (.inr hk)⟩
theorem At'.upd0 {w w':World} {t:Tre} (h:At' w t) (hu:Upd Nothing w w'):At' w' t:=h.upd hu fun _ _ f=>f
structure TMv (w w':World) (t t':Tre):Prop where
 at_:At' w' t'
 upd:Upd (TF t) w w'
 fresh:∀ k,TF t' k→TF t k∨w.heap.size≤k
 g:t'.g=t.g
def Trs (w:World) (l:List Tre):Prop:=(∀ t∈l,At' w t)∧l.Pairwise fun a b=>∀ k,TF a k→¬ TF b k
def TFs (l:List Tre) (k:Nat):Prop:=∃ t∈l,TF t k
theorem Trs.typed {w:World} {l:List Tre} {k:Nat} (h:Trs w l) (hk:TFs l k):Typed w TEs k:=by
 obtain ⟨t,ht,hk⟩:=hk
 exact (h.1 t ht).typed hk
theorem Trs.lt {w:World} {l:List Tre} {k:Nat} (h:Trs w l) (hk:TFs l k):k < w.heap.size:=by
 obtain ⟨t,ht,hk⟩:=hk
 exact (h.1 t ht).lt hk
theorem Trs.upd {F:Nat→Prop} {w w':World} {l:List Tre} (h:Trs w l) (hu:Upd F w w') (hn:∀ k,TFs l k→¬ F k):Trs w' l:=⟨fun t ht=>(h.1 t ht).upd hu fun k hk=>hn k ⟨t,ht,hk⟩,h.2⟩
theorem Trs.upd0 {w w':World} {l:List Tre} (h:Trs w l) (hu:Upd Nothing w w'):Trs w' l:=h.upd hu fun _ _ f=>f
theorem Trs.nil {w:World}:Trs w []:=⟨fun _ h=>(by cases h),List.Pairwise.nil⟩
theorem Trs.snoc {w:World} {l:List Tre} {t:Tre} (h:Trs w l) (ht:At' w t) (hn:∀ k,TFs l k→¬ TF t k):Trs w (l++[t]):=⟨fun x hx=>by
 rcases List.mem_append.1 hx with hx | hx
 ·exact h.1 x hx
 ·rw [List.mem_singleton.1 hx]; exact ht,List.pairwise_append.2 ⟨h.2,List.pairwise_singleton _ _,fun a ha b hb k hk=>by
 rw [List.mem_singleton.1 hb]
 exact hn k ⟨a,ha,hk⟩⟩⟩
theorem Trs.set {w w':World} {A B:List Tre} {t t':Tre} (h:Trs w (A++t :: B)) (hm:TMv w w' t t'):Trs w' (A++t' :: B)∧Upd (TFs (A++t :: B)) w w'∧∀ k,TFs (A++t' :: B) k→TFs (A++t :: B) k∨w.heap.size≤k:=by
 obtain ⟨h1,h2⟩:=h
 obtain ⟨hA,htB,hAB⟩:=List.pairwise_append.1 h2
 obtain ⟨htb,hB⟩:=List.pairwise_cons.1 htB
 have hat:∀ a∈A,At' w a:=fun a ha=>h1 a (by simp [ha])
 have hbt:∀ b∈B,At' w b:=fun b hb=>h1 b (by simp [hb])
 have ha':∀ a∈A,∀ k,TF a k→¬ TF t' k:=fun a ha k hk hk'=>by
  rcases hm.fresh k hk' with h | h
  ·exact hAB a ha t (by simp) k hk h
  ·have:=(hat a ha).lt hk; omega
 have hb':∀ b∈B,∀ k,TF t' k→¬ TF b k:=fun b hb k hk' hk=>by
  rcases hm.fresh k hk' with h | h
  ·exact htb b hb k h hk
  ·have:=(hbt b hb).lt hk; omega
 refine ⟨⟨fun x hx=>?_,List.pairwise_append.2 ⟨hA,List.pairwise_cons.2 ⟨hb',hB⟩,fun a ha b hb=>?_⟩⟩,hm.upd.mono fun k _ hk=>⟨t,by simp,hk⟩,fun k hk=>?_⟩
 ·rcases List.mem_append.1 hx with hx | hx
  ·exact (hat x hx).upd hm.upd fun k hk hk'=>hAB x hx t (by simp) k hk hk'
  ·rcases List.mem_cons.1 hx with rfl | hx
   ·exact hm.at_
   ·exact (hbt x hx).upd hm.upd fun k hk hk'=>htb x hx k hk' hk
 ·rcases List.mem_cons.1 hb with rfl | hb
  ·exact ha' a ha
  ·exact hAB a ha b (by simp [hb])
 ·obtain ⟨x,hx,hk⟩:=hk
  rcases List.mem_append.1 hx with hx | hx
  ·exact .inl ⟨x,by simp [hx],hk⟩
  ·rcases List.mem_cons.1 hx with rfl | hx
   ·rcases hm.fresh k hk with h | h
    ·exact .inl ⟨t,by simp,h⟩
    ·exact .inr h
   ·exact .inl ⟨x,by simp [hx],hk⟩
section
variable {w:World} {K:Value→World→Prop} {t:Tre} {k:ByteArray}
theorem Put_spec {v:Value} (ht:At' w t) (hv:IsV v) (hsz:t.l.length≤1000000) (hK:∀ t' w',t'.l=ins k v t.l→TMv w w' t t'→K (.tuple #[(kval k t.l).getD zero,.bool (kval k t.l).isSome]) w'):Cv F.z153 #[.pointer (some ⟨t.g,0,none⟩),.string k,v] w K:=
 tput_spec ht hv hsz fun h' top' w' h1 h2 h3=>hK ⟨t.g,h',top',ins k v t.l⟩ w' rfl ⟨h1,h2,h3,rfl⟩
theorem Delete_spec (ht:At' w t) (hsz:t.l.length≤1000000) (hK:∀ t' w',t'.l=del k t.l→TMv w w' t t'→K (.tuple #[(kval k t.l).getD zero,.bool (kval k t.l).isSome]) w'):Cv F.z149 #[.pointer (some ⟨t.g,0,none⟩),.string k] w K:=
 tdelete_spec ht hsz fun h' top' w' h1 h2 h3=>hK ⟨t.g,h',top',del k t.l⟩ w' rfl ⟨h1,h2,h3,rfl⟩
theorem Get_spec (ht:At' w t) (hK:∀ w',Upd Nothing w w'→K (.tuple #[(kval k t.l).getD zero,.bool (kval k t.l).isSome]) w'):Cv F.z150 #[.pointer (some ⟨t.g,0,none⟩),.string k] w K:=get_spec ht hK
theorem New_spec (hK:∀ t w',At' w' t→t.l=[]→Upd Nothing w w'→(∀ k,TF t k→w.heap.size≤k)→K (.pointer (some ⟨t.g,0,none⟩)) w'):Cv F.z144 #[] w K:=
 new_spec fun g top w' h1 h2 h3 h4=>hK ⟨g,0,top,[]⟩ w' h1 rfl h2 fun k hk=>by
  rcases hk with rfl | hk
  ·exact h3
  ·exact h4 k hk
end
end Ts
end Go.Proofs.YtjcgociobhhijaaGreatDoor
namespace Go.Proofs.YtjcgociobhhijaaGreatDoor
open Go SX Bt
namespace Tv
def IsV (v:Value):Prop:=∃ (p:Option Addr) (n c:Nat),v = .slice p n c
abbrev TT:Tys:=⟨T.tree_page_s_afflux_api_Value,T.tree_entry_s_afflux_api_Value,T.p_tree_page_s_afflux_api_Value,by decide,by decide,by decide⟩
theorem sent:SliceT prog T.s_tree_entry_s_afflux_api_Value T.tree_entry_s_afflux_api_Value 2 40 [.string ByteArray.empty,.slice none 0 0]:=SliceT.of_tab (ti:=ti189) (te:=ti196) tabOK (by kernel_rfl) (by kernel_rfl) (by kernel_rfl) (by kernel_rfl)
theorem sptr:SliceT prog T.s_p_tree_page_s_afflux_api_Value T.p_tree_page_s_afflux_api_Value 1 8 [.pointer none]:=SliceT.of_tab (ti:=ti192) (te:=ti185) tabOK (by kernel_rfl) (by kernel_rfl) (by kernel_rfl) (by kernel_rfl)
theorem eent:ElemT prog T.tree_entry_s_afflux_api_Value 2 40 [.string ByteArray.empty,.slice none 0 0] Tryz.t196 (.agg #[.string ByteArray.empty,.slice none 0 0]):=⟨by kernel_rfl,by kernel_rfl,by kernel_rfl,by kernel_rfl,rfl⟩
theorem eptr:ElemT prog T.p_tree_page_s_afflux_api_Value 1 8 [.pointer none] Tryz.t185 (.pointer none):=⟨by kernel_rfl,by kernel_rfl,by kernel_rfl,by kernel_rfl,rfl⟩
theorem tint:prog.underlying T.int=some (.int .i64):=by kernel_rfl
theorem ov_ent {w:World} (args:Array Value) (v:Value) (K:Value→World→Prop) (h:(Extern.SlicesOverlaps.overlaps #[T.s_tree_entry_s_afflux_api_Value,T.s_tree_entry_s_afflux_api_Value] #[T.bool] args).run prog w = .ok v w) (hK:K v w):CallsV prog F.z109 args w K:=by
 unfold CallsV Yield
 rw [run_callFunc_extern Tryz.func201 (by kernel_rfl) (by kernel_rfl) (by kernel_rfl) (e:=Extern.SlicesOverlaps.overlaps #[T.s_tree_entry_s_afflux_api_Value,T.s_tree_entry_s_afflux_api_Value] #[T.bool]) (by kernel_rfl),h]
 exact hK
theorem ov_ptr {w:World} (args:Array Value) (v:Value) (K:Value→World→Prop) (h:(Extern.SlicesOverlaps.overlaps #[T.s_p_tree_page_s_afflux_api_Value,T.s_p_tree_page_s_afflux_api_Value] #[T.bool] args).run prog w = .ok v w) (hK:K v w):CallsV prog F.z111 args w K:=by
 unfold CallsV Yield
 rw [run_callFunc_extern Tryz.func184 (by kernel_rfl) (by kernel_rfl) (by kernel_rfl) (e:=Extern.SlicesOverlaps.overlaps #[T.s_p_tree_page_s_afflux_api_Value,T.s_p_tree_page_s_afflux_api_Value] #[T.bool]) (by kernel_rfl),h]
 exact hK
section
variable {w:World} {K:Value→World→Prop} {r:Rec} {k:ByteArray} {i:Nat}
theorem one_of {v:Value} (h:IsV v):v.oneCell'=true:=by
 obtain ⟨vp,vn,vc,rfl⟩:=h
 rfl
theorem sins_ent {p:Option Addr} {n c b:Nat} {xs ys:List Value} {w0:World} (hN:New w0 (.cells ys.toArray T.tree_entry_s_afflux_api_Value) b w) (ho:OwnW w0 T.tree_entry_s_afflux_api_Value 2 p n c xs) (hy:ys.length=2) (h1:∀ v∈ys,v.oneCell'=true) (hi:i≤n) (hn:n≤1000000)
  (hK:∀ p' c' w',OwnW w' T.tree_entry_s_afflux_api_Value 2 p' (n+1) c' (xs.take (i * 2)++ys++xs.drop (i * 2))→Upd (Fp p c) w w'→(∀ k,Fp p' c' k→Fp p c k∨w.heap.size≤k)→K (.slice p' (n+1) c') w'):Cv F.z105 #[.slice p n c,.int .i64 (i:Int),.slice (some (Addr.mk b 0 none)) 1 1] w K:=
 R.z105 (by
  unfold C.z105
  exact G.insertW (K:=K) (ti:=T.int) (tR:=T.bool) sent eent tint (by decide) (by decide) hN ho hy h1 hi hn (by omega) (fun args v K=>ov_ent args v K) hK)
theorem sins_ptr {p:Option Addr} {n c b:Nat} {xs ys:List Value} {w0:World} (hN:New w0 (.cells ys.toArray T.p_tree_page_s_afflux_api_Value) b w) (ho:OwnW w0 T.p_tree_page_s_afflux_api_Value 1 p n c xs) (hy:ys.length=1) (h1:∀ v∈ys,v.oneCell'=true) (hi:i≤n) (hn:n≤1000000)
  (hK:∀ p' c' w',OwnW w' T.p_tree_page_s_afflux_api_Value 1 p' (n+1) c' (xs.take (i * 1)++ys++xs.drop (i * 1))→Upd (Fp p c) w w'→(∀ k,Fp p' c' k→Fp p c k∨w.heap.size≤k)→K (.slice p' (n+1) c') w'):Cv F.z107 #[.slice p n c,.int .i64 (i:Int),.slice (some (Addr.mk b 0 none)) 1 1] w K:=
 R.z107 (by
  unfold C.z107
  exact G.insertW (K:=K) (ti:=T.int) (tR:=T.bool) sptr eptr tint (by decide) (by decide) hN ho hy h1 hi hn (by omega) (fun args v K=>ov_ptr args v K) hK)
theorem sdel_ent {p:Option Addr} {n c i j:Nat} {xs:List Value} (ho:OwnW w T.tree_entry_s_afflux_api_Value 2 p n c xs) (hij:i≤j) (hjn:j≤n) (hn:n≤1000000)
  (hK:∀ w',OwnW w' T.tree_entry_s_afflux_api_Value 2 p (n - (j - i)) c (xs.take (i * 2)++xs.drop (j * 2))→Upd (Fp p c) w w'→K (.slice p (n - (j - i)) c) w'):Cv F.z98 #[.slice p n c,.int .i64 (i:Int),.int .i64 (j:Int)] w K:=
 R.z98 (by
  unfold C.z98
  exact G.deleteW (K:=K) sent (by decide) ho hij hjn (by omega) hK)
theorem sdel_ptr {p:Option Addr} {n c i j:Nat} {xs:List Value} (ho:OwnW w T.p_tree_page_s_afflux_api_Value 1 p n c xs) (hij:i≤j) (hjn:j≤n) (hn:n≤1000000)
  (hK:∀ w',OwnW w' T.p_tree_page_s_afflux_api_Value 1 p (n - (j - i)) c (xs.take (i * 1)++xs.drop (j * 1))→Upd (Fp p c) w w'→K (.slice p (n - (j - i)) c) w'):Cv F.z100 #[.slice p n c,.int .i64 (i:Int),.int .i64 (j:Int)] w K:=
 R.z100 (by
  unfold C.z100
  exact G.deleteW (K:=K) sptr (by decide) ho hij hjn (by omega) hK)
theorem insert_spec {v:Value} (h:RecAt TT w r) (hv:IsV v) (hi:i≤r.es.length) (hn:r.es.length≤1000)
  (hK:∀ ep ec w',Mv TT w w' [r] [{ r with es:=r.es.take i++(k,v) :: r.es.drop i,ep:=ep,ec:=ec }]→K (.tuple #[]) w'):Cv F.z175 #[.pointer (some ⟨r.a,0,none⟩),.int .i64 (i:Int),.agg #[.string k,v]] w K:=by
 obtain ⟨vp,vn,vc,rfl⟩:=hv
 exact R.z175 (by
  unfold C.z175
  refine New.use (by simp [Value.oneCell']) fun b1 w1 hb1 hu1 hge1 _=>?_
  have hu1d:Upd Nothing w w1.drew:=hu1.then (Upd.drew _ _)
  have h1:RecAt TT w1.drew r:=h.upd hu1d fun _ _ f=>f
  refine ⟨_,rfl,_,_,_,h1.1.cell (i:=0) rfl,_,_,_,_,⟨hb1.drew.cell (i:=0) rfl,hb1.drew.cell (i:=1) rfl,trivial⟩,?_⟩
  intro b2 w2 hN
  have hu2:Upd Nothing w1.drew w2:=Upd.new hN
  have h2:=h1.upd hu2 fun _ _ f=>f
  refine ⟨h2.1.cell (i:=0) rfl,sins_ent (ys:=[.string k,.slice vp vn vc]) hN h1.2.1 rfl (by simp [Value.oneCell']) hi (by omega) fun p' c' w3 ho3 hu3 hf3=>⟨_,_,_,rfl,_,rfl,?_⟩⟩
  have hn3:∀ k,Fp r.ep r.ec k→k≠r.a:=fun k hk=>h.ae h hk
  have hb3:=hu3.blk h2.1 fun hk=>hn3 _ hk rfl
  refine hb3.store (i:=0) (by simp) rfl fun w4 hb4 hu4 _=>?_
  have hlen:(r.es.take i++(k,.slice vp vn vc) :: r.es.drop i).length=r.es.length+1:=by simp; omega
  have hu02:Upd Nothing w w2:=hu1d.then hu2
  have hsz:=hu02.size
  have hne3:∀ k,Fp p' c' k→¬ One r.a k:=fun k hk e=>by
   obtain ⟨l,hb⟩:=ho3.blk hk
   have e':k=r.a:=e
   subst e'
   exact TT.h1 (hb3.same hb).2
  refine hK p' c' w4 (Mv.step h ⟨?_,?_,?_⟩ ?_ fun k hk=>?_)
  ·show Blk w4 r.a [.slice p' (r.es.take i++(k,.slice vp vn vc) :: r.es.drop i).length c',_] _
   rw [hlen]
   exact hb4
  ·show OwnW w4 _ 2 p' (r.es.take i++(k,.slice vp vn vc) :: r.es.drop i).length c' _
   rw [hlen,ecells_app,← ecells_take]
   have he:ecells ((k,.slice vp vn vc) :: r.es.drop i)=[.string k,.slice vp vn vc]++(ecells r.es).drop (i * 2):=by rw [ecells_drop]; rfl
   rw [he,← List.append_assoc]
   exact ho3.upd hu4 hne3
  ·exact ((h.2.2.upd0 hu02).upd hu3 fun k hk hk'=>h.eb h hk' hk).upd hu4 fun k hk e=>h.ab h hk e
  ·exact (hu02.mono fun _ _ f=>f.elim).trans (hu3.then' hu4) (fun _ _ h=>h) fun k _ hk=>hk.elim (fun h=>.inr (.inl h)) fun h=>.inl h
  ·rcases hk with hk | hk | hk
   ·exact .inl (.inl hk)
   ·rcases hf3 k hk with h | h
    ·exact .inl (.inr (.inl h))
    ·exact .inr (by omega)
   ·exact .inl (.inr (.inr hk)))
theorem remove_spec {v:Value} {es1 es2:List Ent} (h:RecAt TT w r) (he:r.es=es1++(k,v) :: es2) (hv:IsV v) (hi:es1.length=i) (hn:r.es.length≤1000)
  (hK:∀ w',Mv TT w w' [r] [{ r with es:=es1++es2 }]→K (.agg #[.string k,v]) w'):Cv F.z176 #[.pointer (some ⟨r.a,0,none⟩),.int .i64 (i:Int)] w K:=by
 obtain ⟨vp,vn,vc,rfl⟩:=hv
 subst hi
 exact R.z176 (by
  unfold C.z176
  have hlen:r.es.length=es1.length+1+es2.length:=by rw [he]; simp; omega
  refine New.use (by simp [Value.oneCell']) fun b1 w1 hb1 hu1 hge1 _=>?_
  have h1:RecAt TT w1 r:=h.upd hu1 fun _ _ f=>f
  have hat:=h1.2.1.at
  rw [he] at hat
  obtain ⟨a,ha,hc⟩:=At.pair hat (ecells_mid es1 es2 k (.slice vp vn vc)).1 (ecells_mid es1 es2 k (.slice vp vn vc)).2
  refine ⟨_,rfl,_,_,_,h1.1.cell (i:=0) rfl,a,ha,by omega,by omega,_,_,_,_,by simpa using hc,New.use (by simp [Value.oneCell']) fun b2 w2 hb2 hu2 hge2 _=>Blk.set2 hb2 rfl rfl fun w4 hb4 hu4=>?_⟩
  have hu14:Upd Nothing w1 w4:=hu2.fresh hu4 fun i hi=>by rw [show i=b2 from hi]; exact hge2
  have h4:RecAt TT w4 r:=h1.upd hu14 fun _ _ f=>f
  have hw1:IntKind.i64.wrap ((es1.length:Int)+1)=((es1.length+1:Nat):Int):=by rw [i64_wrap (by omega) (by omega)]; omega
  rw [hw1]
  refine ⟨_,rfl,_,_,_,h4.1.cell (i:=0) rfl,sdel_ent h4.2.1 (by omega) (by omega) (by omega) fun w5 ho5 hu5=>⟨_,_,_,rfl,_,rfl,?_⟩⟩
  have hn5:∀ k,Fp r.ep r.ec k→k≠r.a:=fun k hk=>h.ae h hk
  have hb5:=hu5.blk h4.1 fun hk=>hn5 _ hk rfl
  have hu04:Upd Nothing w w4:=hu1.then hu14
  refine hb5.store (i:=0) (by simp) rfl fun w6 hb6 hu6 _=>?_
  have hb1lt:=hb1.lt
  have halt:=h.1.lt
  have hnb:∀ b,w.heap.size≤b→¬ Fp r.ep r.ec b∧¬ One r.a b:=fun b hb=>⟨fun hk=>by have:=h.2.1.lt hk; omega,fun e=>by have e':b=r.a:=e; omega⟩
  have hsz1:=hu1.size
  have hb26:Blk w6 b2 _ _:=hu6.blk (hu5.blk hb4 (hnb b2 (by omega)).1) (hnb b2 (by omega)).2
  have hb16:Blk w6 b1 _ _:=hu6.blk (hu5.blk (hu14.blk hb1 fun f=>f) (hnb b1 (by omega)).1) (hnb b1 (by omega)).2
  refine ⟨_,_,_,_,⟨hb26.cell (i:=0) rfl,hb26.cell (i:=1) rfl,trivial⟩,Blk.set2 hb16 rfl rfl fun w8 hb8 hu8=>⟨_,_,_,_,⟨hb8.cell (i:=0) rfl,hb8.cell (i:=1) rfl,trivial⟩,?_⟩⟩
  have hlen':r.es.length - (es1.length+1 - es1.length)=(es1++es2).length:=by rw [hlen,List.length_append]; omega
  have htd:(ecells r.es).take (es1.length * 2)++(ecells r.es).drop ((es1.length+1) * 2)=ecells (es1++es2):=by
   rw [ecells_take,ecells_drop,he,ecells_app]
   congr 2
   ·simp
   ·rw [← List.drop_drop]; simp
  rw [hlen'] at ho5 hb6
  rw [htd] at ho5
  have hu06:Upd (FP r) w w6:=(hu04.mono fun _ _ f=>f.elim).trans (hu5.then' hu6) (fun _ _ h=>h) fun k _ hk=>hk.elim (fun h=>.inr (.inl h)) fun h=>.inl h
  have h6:RecAt TT w6 { r with es:=es1++es2 }:=by
   refine ⟨hb6,ho5.upd hu6 fun k hk e=>?_,?_⟩
   ·exact hn5 k hk e
   ·exact ((h.2.2.upd0 hu04).upd hu5 fun k hk hk'=>h.eb h hk' hk).upd hu6 fun k hk e=>h.ab h hk e
  have hmv:Mv TT w w6 [r] [{ r with es:=es1++es2 }]:=Mv.step h h6 hu06 fun k hk=>.inl hk
  refine hK w8 ⟨hmv.rs.upd hu8 fun k hk e=>?_,hmv.upd.fresh hu8 fun i hi=>by rw [show i=b1 from hi]; exact hge1,hmv.fresh⟩
  have e':k=b1:=e
  have:=(FPs.one.1 hk)
  have h7:FP r k:=this
  have:=h.lt h7
  omega)
theorem half {a b:Nat} (ha:a≤100000) (hb:b≤100000):IntKind.i64.wrap (Int.fdiv (IntKind.u64.wrap (IntKind.i64.wrap ((a:Int)+(b:Int)))) (2 ^ (min (1:Int).toNat IntKind.u64.bits)))=(((a+b) / 2:Nat):Int):=by
 have e1:IntKind.i64.wrap ((a:Int)+(b:Int))=((a+b:Nat):Int):=by rw [i64_wrap (by omega) (by omega)]; omega
 have e2:IntKind.u64.wrap ((a+b:Nat):Int)=((a+b:Nat):Int):=by simp [IntKind.wrap,IntKind.signed,IntKind.bits]; omega
 have e3:(2:Int) ^ (min (1:Int).toNat IntKind.u64.bits)=2:=by decide
 rw [e1,e2,e3,Int.fdiv_eq_ediv_of_nonneg _ (by omega),i64_wrap (by omega) (by omega)]
 omega
theorem cmp_spec {e k:ByteArray} {v:Value} (hv:IsV v) (hK:∀ (c:Int) w',(c < 0↔sLt e k=true)→(c=0↔e=k)→Upd Nothing w w'→K (.int .i64 c) w'):Cv F.z174 #[.agg #[.string e,v],.string k] w K:=by
 obtain ⟨vp,vn,vc,rfl⟩:=hv
 exact R.z174 (by
  unfold C.z174
  refine New.use (by simp [Value.oneCell']) fun b1 w1 hb1 hu1 hge1 _=>⟨_,hb1.cell (i:=0) rfl,ifB_mk (fun h=>hK _ _ ⟨fun _=>h,fun _=>by decide⟩ ⟨fun h=>(by cases h),fun e=>?_⟩ hu1) (fun h=>⟨_,hb1.cell (i:=0) rfl,ifB_mk (fun h2=>hK _ _ ⟨fun h=>absurd h (by decide),fun h'=>?_⟩ ⟨fun h=>(by cases h),fun e=>?_⟩ hu1) (fun h2=>hK _ _ ⟨fun h=>absurd h (by decide),fun h'=>?_⟩ ⟨fun _=>?_,fun _=>rfl⟩ hu1)⟩)⟩
  ·subst e; rw [sLt_irrefl] at h; cases h
  ·rw [h'] at h; cases h
  ·subst e; rw [sEq_self] at h2; simp at h2
  ·rw [h'] at h; cases h
  ·rw [h] at h2
   exact sEq_iff.1 (by simpa using h2))
theorem find_spec (h:RecAt TT w r) (hs:Srt r.es) (hV:∀ e∈r.es,IsV e.2) (hn:r.es.length≤1000)
  (hK:∀ (i:Nat) (ok:Bool) w',(ok=true→∃ u,IsV u∧FindT r.es k i u)→(ok=false→FindF r.es k i)→Upd Nothing w w'→K (.tuple #[.int .i64 (i:Int),.bool ok]) w'):Cv F.z173 #[.pointer (some ⟨r.a,0,none⟩),.string k] w K:=
 R.z173 (by
  unfold C.z173
  refine ⟨_,rfl,_,_,_,h.1.cell (i:=0) rfl,R.z86 (by
   unfold C.z86
   refine ⟨fun i j w'=>∃ a b:Nat,i=a∧j=b∧a≤b∧b≤r.es.length∧Lo k (r.es.take a)∧(∀ x (hx:x < r.es.length),b≤x→sLt r.es[x].1 k=false)∧Upd Nothing w w',fun i j _=>j.toNat - i.toNat,⟨0,_,rfl,rfl,by omega,Nat.le_refl _,fun e he=>by simp at he,fun x hx hb=>by omega,Upd.refl _ _⟩,?_⟩
   rintro i j w1 ⟨a,b,rfl,rfl,hab,hb,hlo,hhi,hu⟩
   have h1:=h.upd hu fun _ _ f=>f
   have hcell:∀ x (hx:x < r.es.length),∃ c,r.ep=some c∧SX.cellsAt w1 (c.add (x * 2)) 0 [.string r.es[x].1,r.es[x].2]:=fun x hx=>At.pair h1.2.1.at (ecells_get0 hx).1 (ecells_get0 hx).2
   refine ifB_mk (fun h2=>?_) (fun h2=>?_)
   ·have hlt:a < b:=by have:=of_decide_eq_true h2; omega
    rw [half (by omega) (by omega)]
    have hm:(a+b) / 2 < r.es.length:=by omega
    obtain ⟨c,hc,hcc⟩:=hcell _ hm
    have hv:=hV _ (List.getElem_mem hm)
    generalize hE:r.es[(a+b) / 2]=E at hcc hv
    obtain ⟨ek,ev⟩:=E
    simp only at hcc hv
    have hv':=hv
    obtain ⟨vp,vn,vc,rfl⟩:=hv
    refine ⟨by omega,c,hc,by omega,by omega,_,_,_,_,hcc,cmp_spec hv' fun cc w2 c1 c2 hu2=>⟨cc,rfl,ifB_mk (fun h3=>?_) (fun h3=>?_)⟩⟩
    ·have hlt':sLt ek k=true:=c1.1 (of_decide_eq_true h3)
     have hw:IntKind.i64.wrap ((((a+b) / 2:Nat):Int)+1)=(((a+b) / 2+1:Nat):Int):=by rw [i64_wrap (by omega) (by omega)]; omega
     rw [hw]
     refine ⟨⟨_,b,rfl,rfl,by omega,hb,fun e he=>?_,hhi,hu.then hu2⟩,by show b - _ < b - _; omega⟩
     rw [List.mem_take_iff_getElem] at he
     obtain ⟨x,hx,rfl⟩:=he
     by_cases hxm:x=(a+b) / 2
     ·subst hxm; rw [hE]; exact hlt'
     ·have hxl:x < (a+b) / 2:=by omega
      have:=List.pairwise_iff_getElem.1 hs x ((a+b) / 2) (by omega) hm hxl
      rw [hE] at this
      exact sLt_trans this hlt'
    ·have hge:sLt ek k=false:=by
      cases hh:sLt ek k with
      | false=>rfl
      | true=>exact absurd (c1.2 hh) (of_decide_eq_false h3)
     refine ⟨⟨a,_,rfl,rfl,by omega,by omega,hlo,fun x hx hbx=>?_,hu.then hu2⟩,by show _ - a < b - a; omega⟩
     by_cases hxm:x=(a+b) / 2
     ·subst hxm; rw [hE]; exact hge
     ·cases hh:sLt r.es[x].1 k with
      | false=>rfl
      | true=>
       have:=List.pairwise_iff_getElem.1 hs ((a+b) / 2) x hm hx (by omega)
       rw [hE] at this
       rw [sLt_trans this hh] at hge
       cases hge
   ·have hab':a=b:=by have:=of_decide_eq_false h2; omega
    subst hab'
    have hfin:=find_at hs hb hlo fun hx=>hhi a hx (Nat.le_refl _)
    refine ifB_mk (fun h3=>?_) (fun h3=>?_)
    ·have hm:a < r.es.length:=by have:=of_decide_eq_true h3; omega
     obtain ⟨c,hc,hcc⟩:=hcell _ hm
     have hv:=hV _ (List.getElem_mem hm)
     generalize hE:r.es[a]=E at hcc hv
     obtain ⟨ek,ev⟩:=E
     simp only at hcc hv
     have hv':=hv
     have hv'':=hv
     obtain ⟨vp,vn,vc,rfl⟩:=hv
     refine ⟨c,hc,by omega,by omega,_,_,_,_,hcc,cmp_spec hv' fun cc w2 c1 c2 hu2=>⟨cc,rfl,_,_,rfl,hK a _ _ (fun hok=>?_) (fun hok=>?_) (hu.then hu2)⟩⟩
     ·have hek:ek=k:=c2.1 (by simpa using hok)
      rcases hfin with ⟨_,_,hf⟩ | ⟨hne,_⟩
      ·rw [hE] at hf
       exact ⟨_,hv'',hf⟩
      ·have:=hne hm
       rw [hE] at this
       exact absurd hek this
     ·have hek:ek≠k:=fun e=>by rw [c2.2 e] at hok; cases hok
      rcases hfin with ⟨_,he,_⟩ | ⟨_,hf⟩
      ·rw [hE] at he
       exact absurd he hek
      ·exact hf
    ·have hm:¬ a < r.es.length:=by have:=of_decide_eq_false h3; omega
     refine ⟨_,_,rfl,hK a false _ (fun h=>by cases h) (fun _=>?_) hu⟩
     rcases hfin with ⟨h,_⟩ | ⟨_,hf⟩
     ·exact absurd h hm
     ·exact hf)⟩)
theorem leaf_spec (h:RecAt TT w r) (hK:K (.bool (decide (r.bs.length=0))) w):Cv F.z157 #[.pointer (some ⟨r.a,0,none⟩)] w K:=
 R.z157 (by
  unfold C.z157
  refine ⟨_,rfl,_,_,_,h.1.cell (i:=1) rfl,?_⟩
  have:(((r.bs.length:Nat):Int) == (0:Int))=decide (r.bs.length=0):=by
   rw [Bool.eq_iff_iff]
   simp
  rw [this]
  exact hK)
end
end Tv
end Go.Proofs.YtjcgociobhhijaaGreatDoor
namespace Go.Proofs.YtjcgociobhhijaaGreatDoor
open Go SX Bt
namespace Tv
section
variable {w:World} {K:Value→World→Prop} {r c:Rec} {k:ByteArray} {i:Nat}
theorem pcells_len (bs:List Nat):(pcells bs).length=bs.length:=by simp [pcells]
theorem pcells_at {bs1 bs2:List Nat} {a:Nat}:(pcells (bs1++a :: bs2))[bs1.length * 1]? = some (.pointer (some ⟨a,0,none⟩)):=by simp [pcells]
theorem clone_ent {p:Option Addr} {n d:Nat} {xs:List Value} (hat:At w p xs) (hl:xs.length=n * 2) (h1:∀ v∈xs,v.oneCell'=true) (hn:n≤1000000) (hK:∀ p' c' w',Own w' T.tree_entry_s_afflux_api_Value 2 p' n c' xs→Upd Nothing w w'→(∀ k,Fp p' c' k→w.heap.size≤k)→K (.slice p' n c') w'):Cv F.z92 #[.slice p n d] w K:=
 R.z92 (by
  unfold C.z92
  exact G.clone (K:=K) sent (by decide) (by decide) hat hl h1 (by omega) (fun hp=>by
   rcases Nat.eq_zero_or_pos n with h | h
   ·exact h
   ·obtain ⟨a,h2,_⟩:=hat 0 _ (List.getElem?_eq_getElem (show 0 < xs.length by omega))
    rw [hp] at h2
    cases h2) hK)
theorem clone_ptr {p:Option Addr} {n d:Nat} {xs:List Value} (hat:At w p xs) (hl:xs.length=n * 1) (h1:∀ v∈xs,v.oneCell'=true) (hn:n≤1000000) (hK:∀ p' c' w',Own w' T.p_tree_page_s_afflux_api_Value 1 p' n c' xs→Upd Nothing w w'→(∀ k,Fp p' c' k→w.heap.size≤k)→K (.slice p' n c') w'):Cv F.z94 #[.slice p n d] w K:=
 R.z94 (by
  unfold C.z94
  exact G.clone (K:=K) sptr (by decide) (by decide) hat hl h1 (by omega) (fun hp=>by
   rcases Nat.eq_zero_or_pos n with h | h
   ·exact h
   ·obtain ⟨a,h2,_⟩:=hat 0 _ (List.getElem?_eq_getElem (show 0 < xs.length by omega))
    rw [hp] at h2
    cases h2) hK)
theorem rs_mem {A:List Rec} {r:Rec} (h:RS TT w A) (hr:r∈A):RecAt TT w r:=h.1 r hr
theorem split_end {q : Rec} {es1 es2 A B : List Ent} {m : ByteArray} {v : Value} {bs1 bs2 : List Nat} {w0 : World} {R0 : List Rec} (hmv : Mv TT w0 w R0 [r, c, q]) (hv : IsV v) (he : r.es = es1 ++ es2) (hb : r.bs = bs1 ++ c.a :: bs2) (hi : es1.length = i) (hbi : bs1.length = i) (hn : r.es.length ≤ 100) (hnb : r.bs.length ≤ 100) (hce : c.es = A ++ (m, v) :: B) (hA : A.length = 2) (hcc : c.es.length ≤ c.ec)
    (hK : ∀ (r' c' : Rec) w', r'.a = r.a → r'.es = es1 ++ (m, v) :: es2 → r'.bs = bs1 ++ c.a :: q.a :: bs2 → c'.a = c.a → c'.es = A → c'.bs = c.bs → Mv TT w0 w' R0 [r', c', q] → K (.tuple #[]) w') :
    Cv F.z175 #[.pointer (some ⟨r.a, 0, none⟩), .int .i64 (i : Int), .agg #[.string m, v]] w (fun v6 wv12 =>
          v6 = .tuple #[] ∧
          ∃ pa6, some (Addr.mk r.a 0 none) = some pa6 ∧
          ∃ (below5p : Option Addr) (below5n below5c : Nat),
          wv12.cell? (pa6.add 1) = some (.slice below5p below5n below5c) ∧
          ∀ b3 wv13, New wv12 (.cells #[.pointer (some (Addr.mk q.a 0 none))] T.p_tree_page_s_afflux_api_Value) b3 wv13 →
          Cv F.z107 #[.slice below5p below5n below5c, .int .i64 (IntKind.i64.wrap ((i : Int) + (1 : Int))), .slice (some (Addr.mk b3 0 none)) 1 1] wv13 (fun v7 wv14 =>
            ∃ (r5p : Option Addr) (r5n r5c : Nat),
            v7 = .slice r5p r5n r5c ∧
            ∃ pa7, some (Addr.mk r.a 0 none) = some pa7 ∧
            CanSt wv14 (pa7.add 1) ∧ ∀ wv15, wv15 = wv14.setCell (pa7.add 1) (.slice r5p r5n r5c) →
            ∃ ea9, some (Addr.mk c.a 0 none) = some ea9 ∧
            ∃ (all5p : Option Addr) (all5n all5c : Nat),
            wv15.cell? ((ea9.add 0).add 0) = some (.slice all5p all5n all5c) ∧
            0 ≤ (2 : Int) ∧ (2 : Int) ≤ ((all5c : Nat) : Int) ∧
            0 ≤ (2 : Int) ∧ (2 : Int) ≤ (((2 : Int).toNat : Nat) : Int) ∧
            ∃ ea10, some (Addr.mk c.a 0 none) = some ea10 ∧
            CanSt wv15 ((ea10.add 0).add 0) ∧ ∀ wv16, wv16 = wv15.setCell ((ea10.add 0).add 0) (.slice (cutAt all5p 0 ((2 : Int).toNat) 2) (((2 : Int).toNat) - 0) (((2 : Int).toNat) - 0)) →
            K (.tuple #[]) wv16)) := by
  have hr := rs_mem hmv.rs (r := r) (by simp)
  have hrl : r.es.length = es1.length + es2.length := by rw [he]; simp
  have hbl : r.bs.length = bs1.length + 1 + bs2.length := by rw [hb]; simp; omega
  refine insert_spec hr hv (by omega) (by omega) fun ep ec w1 hm1 => ⟨rfl, _, rfl, ?_⟩
  have hm1' := hmv.trans (Mv.fst hmv.rs hm1)
  have hr1 := rs_mem hm1'.rs (r := { r with es := r.es.take i ++ (m, v) :: r.es.drop i, ep := ep, ec := ec }) (by simp)
  refine ⟨_, _, _, hr1.1.cell (i := 1) rfl, fun b3 w2 hN => ?_⟩
  have hu2 : Upd Nothing w1 w2 := Upd.new hN
  have hw1 : IntKind.i64.wrap ((i : Int) + 1) = ((i + 1 : Nat) : Int) := by rw [i64_wrap (by omega) (by omega)]; omega
  rw [hw1]
  refine sins_ptr (ys := [.pointer (some (Addr.mk q.a 0 none))]) hN hr1.2.2 rfl (by simp [Value.oneCell']) (by show i + 1 ≤ r.bs.length; omega) (by show r.bs.length ≤ _; omega) fun p' c' w3 ho3 hu3 hf3 => ⟨_, _, _, rfl, _, rfl, ?_⟩
  have hm2 := hm1'.more hu2
  have hr2 := rs_mem hm2.rs (r := { r with es := r.es.take i ++ (m, v) :: r.es.drop i, ep := ep, ec := ec }) (by simp)
  -- the record with its blocks, behind the insertion
  have hb3 := hu3.blk hr2.1 fun hk => hr2.ab hr2 hk rfl
  have ho2e := hr2.2.1.upd hu3 fun k hk hk' => hr2.eb hr2 hk hk'
  have hcells : (pcells r.bs).take ((i + 1) * 1) ++ [Value.pointer (some ⟨q.a, 0, none⟩)] ++ (pcells r.bs).drop ((i + 1) * 1) = pcells (bs1 ++ c.a :: q.a :: bs2) := by
    have h1 : pcells r.bs = pcells (bs1 ++ [c.a]) ++ pcells bs2 := by rw [hb]; simp [pcells]
    have h2 : (pcells (bs1 ++ [c.a])).length = (i + 1) * 1 := by simp [pcells]; omega
    rw [h1, ← h2, List.take_left, List.drop_left]
    simp [pcells]
  have hlen3 : r.bs.length + 1 = (bs1 ++ c.a :: q.a :: bs2).length := by rw [hbl]; simp; omega
  have ho3' : OwnW w3 T.p_tree_page_s_afflux_api_Value 1 p' (bs1 ++ c.a :: q.a :: bs2).length c' (pcells (bs1 ++ c.a :: q.a :: bs2)) := by rw [← hlen3, ← hcells]; exact ho3
  have hgoal : r.bs.length + 1 = (bs1 ++ c.a :: q.a :: bs2).length := hlen3
  show CanSt w3 ((Addr.mk r.a 0 none).add 1) ∧ ∀ wv15, wv15 = w3.setCell ((Addr.mk r.a 0 none).add 1) (.slice p' (r.bs.length + 1) c') → _
  rw [hgoal]
  refine hb3.store (i := 1) (by simp) rfl fun w4 hb4 hu4 hs4 => ?_
  have hne3 : ∀ k, Fp p' c' k → ¬ SX.One r.a k := fun k hk e => by
    obtain ⟨l, hb⟩ := ho3'.blk hk
    have e' : k = r.a := e
    subst e'
    exact TT.h2 (hb3.same hb).2
  have hr4 : RecAt TT w4 { r with es := r.es.take i ++ (m, v) :: r.es.drop i, ep := ep, ec := ec, bp := p', bc := c', bs := bs1 ++ c.a :: q.a :: bs2 } := ⟨hb4, ho2e.upd hu4 fun k hk e => hr2.ae hr2 hk e, ho3'.upd hu4 hne3⟩
  have hstep : Mv TT w2 w4 [{ r with es := r.es.take i ++ (m, v) :: r.es.drop i, ep := ep, ec := ec }] [{ r with es := r.es.take i ++ (m, v) :: r.es.drop i, ep := ep, ec := ec, bp := p', bc := c', bs := bs1 ++ c.a :: q.a :: bs2 }] := Mv.step hr2 hr4 ((hu3.then' hu4).mono fun k _ hk => hk.elim (fun h => .inr (.inr h)) fun h => .inl h) fun k hk => by
    rcases hk with hk | hk | hk
    · exact .inl (.inl hk)
    · exact .inl (.inr (.inl hk))
    · rcases hf3 k hk with h | h
      · exact .inl (.inr (.inr h))
      · exact .inr h
  have hm4 := hm2.trans (Mv.fst hm2.rs hstep)
  have hc4 := rs_mem hm4.rs (r := c) (by simp)
  have hcl : 2 ≤ c.es.length := by rw [hce]; simp; omega
  refine ⟨_, rfl, _, _, _, hc4.1.cell (i := 0) rfl, by omega, by omega, by omega, by decide, _, rfl, ?_⟩
  have hcut : cutAt c.ep 0 (2 : Int).toNat 2 = c.ep := cutAt_zero _ _ _
  rw [hcut]
  have hoc := hc4.2.1.cut (k := 2) (d := 2) hcl (Nat.le_refl _) (by omega)
  have hAe : (ecells c.es).take (2 * 2) = ecells A := by rw [ecells_take, hce, ← hA]; simp
  rw [hAe] at hoc
  have hoc' : OwnW w4 TT.te 2 c.ep A.length 2 (ecells A) := by rw [hA]; exact hoc
  have key := RecAt.set0 (K := fun w' => K (.tuple #[]) w') hc4 hoc' fun w5 hr5 hu5 hs5 => ?_
  · rw [hA] at key
    exact key
  · have hstep5 : Mv TT w4 w5 [c] [{ c with ep := c.ep, ec := 2, es := A }] := Mv.step hc4 hr5 (hu5.mono fun k _ hk => .inl hk) fun k hk => by
      rcases hk with hk | hk | hk
      · exact .inl (.inl hk)
      · exact .inl (.inr (.inl ⟨by omega, hk.2⟩))
      · exact .inl (.inr (.inr hk))
    refine hK { r with es := r.es.take i ++ (m, v) :: r.es.drop i, ep := ep, ec := ec, bp := p', bc := c', bs := bs1 ++ c.a :: q.a :: bs2 } { c with ep := c.ep, ec := 2, es := A } w5 rfl ?_ rfl rfl rfl rfl (hm4.trans (Mv.snd hm4.rs hstep5))
    show r.es.take i ++ (m, v) :: r.es.drop i = _
    rw [he, ← hi]
    simp
theorem split_spec {es1 es2 A B:List Ent} {m:ByteArray} {v:Value} {bs1 bs2 X Y:List Nat} (h:RS TT w [r,c]) (hv:IsV v) (he:r.es=es1++es2) (hb:r.bs=bs1++c.a :: bs2) (hi:es1.length=i) (hbi:bs1.length=i) (hn:r.es.length≤100) (hnb:r.bs.length≤100) (hce:c.es=A++(m,v) :: B) (hA:A.length=2) (hB:B.length≤100) (hcb:c.bs=X++Y) (hXY:(X=[]∧Y=[])∨(X.length=3∧Y.length≤100))
  (hK:∀ (r' c' q:Rec) w',r'.a=r.a→r'.es=es1++(m,v) :: es2→r'.bs=bs1++c.a :: q.a :: bs2→c'.a=c.a→c'.es=A→c'.bs=X→q.es=B→q.bs=Y→Mv TT w w' [r,c] [r',c',q]→K (.tuple #[]) w') :
  Cv F.z162 #[.pointer (some ⟨r.a,0,none⟩),.int .i64 (i:Int)] w K:=by
 have hv0:=hv
 obtain ⟨vp,vn,vc,rfl⟩:=hv
 exact R.z162 (by
  unfold C.z162
  have e3:IntKind.i64.wrap ((2:Int)+(1:Int))=3:=by decide
  have t3:(3:Int).toNat=3:=rfl
  rw [e3,t3]
  have hr:=rs_mem h (r:=r) (by simp)
  have hc:=rs_mem h (r:=c) (by simp)
  have hbl:r.bs.length=bs1.length+1+bs2.length:=by rw [hb]; simp; omega
  have hcl:c.es.length=3+B.length:=by rw [hce]; simp; omega
  have hce0:=hc.2.1.le
  obtain ⟨a,ha,hca⟩:∃ a,r.bp=some a∧w.cell? (a.add (i * 1))=some (.pointer (some ⟨c.a,0,none⟩)):=by
   have:=hr.2.2.at
   rw [hb] at this
   rw [← hbi]
   exact this _ _ pcells_at
  refine ⟨_,rfl,_,_,_,hr.1.cell (i:=1) rfl,a,ha,by omega,by omega,_,by simpa using hca,_,rfl,_,_,_,hc.1.cell (i:=0) rfl,by omega,by omega,?_⟩
  have hdE:(ecells c.es).drop (3 * 2)=ecells B:=by rw [ecells_drop,hce,show (3:Nat)=A.length+1 by omega,← List.drop_drop]; simp
  have htail:=hc.2.1.tail (k:=3) (by omega)
  rw [hdE] at htail
  have hn3:c.es.length - 3=B.length:=by omega
  rw [hn3]
  refine clone_ent htail (by rw [ecells_len]) (fun u hu=>hc.2.1.one u (by rw [hce]; rw [show A++(m,.slice vp vn vc) :: B=A++[(m,.slice vp vn vc)]++B by simp,ecells_app]; exact List.mem_append_right _ hu)) (by omega) fun qp qc w1 hoq hu1 hfq=>⟨_,_,_,rfl,New.use (by simp [Value.oneCell']) fun b w2 hb2 hu2 hgb hltb=>?_⟩
  have hu12:=hu1.then hu2
  have hq0:RecAt TT w2 ⟨b,qp,qc,B,none,0,[]⟩:=⟨hb2,(hoq.upd0 hu2).wide,OwnW.nil _ _ _⟩
  have hsz1:=hu1.size
  have hm2:Mv TT w w2 [r,c] [r,c,⟨b,qp,qc,B,none,0,[]⟩]:=by
   have:=Mv.add h (Mv.made hq0 hu12 fun k hk=>by
    rcases hk with rfl | hk | hk
    ·exact Nat.le_trans hsz1 hgb
    ·exact hfq k hk
    ·have h0:0 < 0:=hk.1
     omega)
   exact this.perm (List.Perm.refl _) (List.perm_append_comm (l₁:=[_]) (l₂:=[r,c]))
  have hc2:=rs_mem hm2.rs (r:=c) (by simp)
  refine leaf_spec hc2 ⟨_,rfl,?_⟩
  have hmid:∀ (c3:Rec) w',RecAt TT w' c3→c3.es=c.es→∃ a4,c3.ep=some a4∧SX.cellsAt w' (a4.add (2 * 2)) 0 [.string m,.slice vp vn vc]:=fun c3 w' h3 e=>by
   have hat:=h3.2.1.at
   rw [e,hce] at hat
   have h1:=ecells_mid A B m (.slice vp vn vc)
   rw [hA] at h1
   exact At.pair hat h1.1 h1.2
  refine ifB_mk (fun hl=>?_) (fun hl=>?_)
  ·have hne:c.bs.length≠0:=by simpa using hl
   obtain ⟨hX,hY⟩:X.length=3∧Y.length≤100:=by
    rcases hXY with ⟨h1,h2⟩ | h
    ·rw [hcb,h1,h2] at hne; exact absurd rfl hne
    ·exact h
   have hcbl:c.bs.length=3+Y.length:=by rw [hcb]; simp; omega
   refine ⟨_,rfl,_,_,_,hc2.1.cell (i:=1) rfl,by omega,by omega,?_⟩
   have hdP:(pcells c.bs).drop (3 * 1)=pcells Y:=by rw [hcb]; simp [pcells,← hX]
   have htl2:=hc2.2.2.tail (k:=3) (by omega)
   rw [hdP] at htl2
   have hn4:c.bs.length - 3=Y.length:=by omega
   rw [hn4]
   refine clone_ptr htl2 (by rw [pcells_len,Nat.mul_one]) (fun u hu=>by simp only [pcells,List.mem_map] at hu; obtain ⟨_,_,rfl⟩:=hu; rfl) (by omega) fun yp yc w4 hoy hu4 hfy=>⟨_,_,_,rfl,_,rfl,?_⟩
   have hq2:=rs_mem hm2.rs (r:=⟨b,qp,qc,B,none,0,[]⟩) (by simp)
   have hq4:RecAt TT w4 ⟨b,qp,qc,B,none,0,[]⟩:=hq2.upd hu4 fun _ _ f=>f
   refine RecAt.set1 hq4 hoy.wide fun w5 hq5 hu5 hs5=>?_
   have hst5:Mv TT w2 w5 [⟨b,qp,qc,B,none,0,[]⟩] [⟨b,qp,qc,B,yp,yc,Y⟩]:=by
    refine Mv.step hq2 hq5 ((hu4.mono fun _ _ f=>f.elim).then (hu5.mono fun k _ hk=>.inl hk)) fun k hk=>?_
    rcases hk with hk | hk | hk
    ·exact .inl (.inl hk)
    ·exact .inl (.inr (.inl hk))
    ·exact .inr (hfy k hk)
   have hm5:=hm2.trans (Mv.thd hm2.rs hst5)
   have hc5:=rs_mem hm5.rs (r:=c) (by simp)
   have hcb0:=hc5.2.2.le
   refine ⟨_,rfl,_,_,_,hc5.1.cell (i:=1) rfl,by omega,by omega,by omega,by decide,_,rfl,?_⟩
   have hocut:=hc5.2.2.cut (k:=3) (d:=3) (by omega) (Nat.le_refl _) (by omega)
   have hXe:(pcells c.bs).take (3 * 1)=pcells X:=by rw [hcb]; simp [pcells,← hX]
   rw [hXe] at hocut
   rw [cutAt_zero]
   refine RecAt.set1' hc5 hX hocut fun w6 hc6 hu6 hs6=>?_
   have hst6:Mv TT w5 w6 [c] [{ c with bp:=c.bp,bc:=3,bs:=X }]:=Mv.step hc5 hc6 (hu6.mono fun k _ hk=>.inl hk) fun k hk=>by
    rcases hk with hk | hk | hk
    ·exact .inl (.inl hk)
    ·exact .inl (.inr (.inl hk))
    ·exact .inl (.inr (.inr ⟨by omega,hk.2⟩))
   have hm6:=(hm5.trans (Mv.snd hm5.rs hst6)).more (Upd.drew Nothing _)
   have hc6':=rs_mem hm6.rs (r:={ c with bp:=c.bp,bc:=3,bs:=X }) (by simp)
   obtain ⟨a4,ha4,hc4⟩:=hmid _ _ hc6' rfl
   refine ⟨_,rfl,_,rfl,_,_,_,hc6'.1.cell (i:=0) rfl,a4,ha4,by decide,by show (2:Int) < ((c.es.length:Nat):Int); omega,_,_,_,_,hc4,?_⟩
   exact split_end hm6 hv0 he hb hi hbi hn hnb hce hA hce0 fun r' c' w' k1 k2 k3 k4 k5 k6 k7=>hK r' c' ⟨b,qp,qc,B,yp,yc,Y⟩ w' k1 k2 k3 k4 k5 k6 rfl rfl k7
  ·have hz:c.bs.length=0:=by simpa using hl
   obtain ⟨hX,hY⟩:X=[]∧Y=[]:=by
    have h0:c.bs=[]:=List.length_eq_zero_iff.1 hz
    rw [hcb] at h0
    exact List.append_eq_nil_iff.1 h0
   have hm6:=hm2.more (Upd.drew Nothing _)
   have hc6':=rs_mem hm6.rs (r:=c) (by simp)
   obtain ⟨a4,ha4,hc4⟩:=hmid _ _ hc6' rfl
   refine ⟨_,rfl,_,rfl,_,_,_,hc6'.1.cell (i:=0) rfl,a4,ha4,by decide,by omega,_,_,_,_,hc4,?_⟩
   exact split_end hm6 hv0 he hb hi hbi hn hnb hce hA hce0 fun r' c' w' k1 k2 k3 k4 k5 k6 k7=>hK r' c' ⟨b,qp,qc,B,none,0,[]⟩ w' k1 k2 k3 k4 k5 (by rw [k6,hcb,hX,hY]; rfl) rfl hY.symm k7)
end
end Tv
end Go.Proofs.YtjcgociobhhijaaGreatDoor
