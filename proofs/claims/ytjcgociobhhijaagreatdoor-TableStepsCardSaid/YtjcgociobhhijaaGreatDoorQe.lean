/- Texts of the proofs of TPlays, TSame, TScans, TSteps, one behind the other. -/
import Derived.Test.YtjcgociobhhijaaGreatDoorQd
import Derived.Test.YtjcgociobhhijaaGreatDoorQc
import Derived.Test.YtjcgociobhhijaaGreatDoorQa
import Derived.Test.YtjcgociobhhijaaGreatDoorQb
set_option linter.unusedVariables false
set_option linter.unusedSimpArgs false
set_option maxRecDepth 100000
namespace Go.Proofs.YtjcgociobhhijaaGreatDoor
open Go SX Va
namespace Sc
theorem col_ext {a b:Col} (h1:a.name=b.name) (h2:a.kind=b.kind):a=b:=by cases a; cases b; simp_all
theorem ix_ext {a b:Ix} (h1:a.cols=b.cols) (h2:a.unique=b.unique):a=b:=by cases a; cases b; simp_all
theorem schm_ext {a b:Schm} (h1:a.name=b.name) (h2:a.cols=b.cols) (h3:a.ixs=b.ixs) (h4:a.limit=b.limit) (h5:a.parts=b.parts) (h6:a.by_=b.by_):a=b:=by cases a; cases b; simp_all
def SchIf (H:Prop) (w:World) (s:Schm) (v:Value):Prop:=∃ (cp:Option Addr) (cc:Nat) (ip:Option Addr) (ic:Nat),v = .agg #[.string s.name,.slice cp s.cols.length cc,.slice ip s.ixs.length ic,.int .i64 s.limit,.int .i64 s.parts,.int .i64 s.by_]∧Cols w cp s.cols∧s.cols.length≤cc∧(H→Ixs w ip s.ixs)∧s.ixs.length≤ic
theorem SchEx.if {H:Prop} {w:World} {s:Schm} {v:Value} (h:SchEx w s v):SchIf H w s v:=by
 obtain ⟨cp,cc,ip,ic,hv,h1,h2,h3,h4⟩:=h
 exact ⟨cp,cc,ip,ic,hv,h1,h2,fun _=>h3,h4⟩
section
variable {w:World} {K:Value→World→Prop} {p q:Option Addr} {n c m d:Nat} {s t:Schm} {v u:Value} {row:List Val}
theorem rsame3_spec (hs:SchIf (s.cols=t.cols) w s v) (ht:SchIf (s.cols=t.cols) w t u) (hs1:s.cols.length≤1000000) (hs2:s.ixs.length≤1000000) (hs3:∀ x∈s.ixs,x.cols.length≤1000000)
  (hK:∀ (b:Bool) w',(b=true↔s=t)→Upd Nothing w w'→K (.bool b) w'):Cv F.z32 #[v,u] w K:=by
 obtain ⟨cp,cc,ip,ic,rfl,hcols,hcc,hixs,hic⟩:=hs
 obtain ⟨cp2,cc2,ip2,ic2,rfl,hcols2,hcc2,hixs2,hic2⟩:=ht
 refine R.z32 ?_
 unfold C.z32
 refine New.use (by simp [Value.oneCell']) fun g1 w1 hb1 hu1 hge1 _=>New.use (by simp [Value.oneCell']) fun g2 w2 hb2 hu2 hge2 _=>?_
 have hu12:=hu1.then hu2
 have hb1':=hu2.blk hb1 fun f=>f
 have hno:∀ w',Upd Nothing w2 w'→¬ s=t→K (.bool false) w':=fun w' hu hn=>hK _ _ ⟨fun h=>(by cases h),fun h=>absurd h hn⟩ (hu12.then hu)
 have hno1:=fun hn=>hno w2 (Upd.refl _ _) hn
 refine ⟨fun w'=>w'=w2∧s.name=t.name∧s.limit=t.limit∧s.parts=t.parts∧s.by_=t.by_∧s.cols.length=t.cols.length∧s.ixs.length=t.ixs.length,?_,?_⟩
 ·refine ⟨_,hb1'.cell (i:=0) rfl,_,hb2.cell (i:=0) rfl,ifB_mk (fun h=>hno1 fun e=>by rw [e] at h; simp [sEq_self] at h) (fun h=>⟨_,hb1'.cell (i:=3) rfl,_,hb2.cell (i:=3) rfl,ifB_mk (fun h1=>hno1 fun e=>by rw [e] at h1; simp at h1) (fun h1=>?_)⟩)⟩
  refine ⟨_,hb1'.cell (i:=4) rfl,_,hb2.cell (i:=4) rfl,ifB_mk (fun h2=>hno1 fun e=>by rw [e] at h2; simp at h2) (fun h2=>⟨_,hb1'.cell (i:=5) rfl,_,hb2.cell (i:=5) rfl,ifB_mk (fun h3=>hno1 fun e=>by rw [e] at h3; simp at h3) (fun h3=>?_)⟩)⟩
  refine ⟨_,_,_,hb1'.cell (i:=1) rfl,_,_,_,hb2.cell (i:=1) rfl,ifB_mk (fun h4=>hno1 fun e=>by rw [e] at h4; simp at h4) (fun h4=>⟨_,_,_,hb1'.cell (i:=2) rfl,_,_,_,hb2.cell (i:=2) rfl,ifB_mk (fun h5=>hno1 fun e=>by rw [e] at h5; simp at h5) (fun h5=>⟨rfl,?_,?_,?_,?_,?_,?_⟩)⟩)⟩
  ·exact sEq_iff.1 (by simpa using h)
  ·simpa using h1
  ·simpa using h2
  ·simpa using h3
  ·simp at h4; omega
  ·simp at h5; omega
 rintro w3 ⟨rfl,e1,e2,e3,e4,l1,l2⟩
 have hA:=fun w' (hu:Upd Nothing w3 w')=>hu.blk hb1' fun f=>f
 have hB:=fun w' (hu:Upd Nothing w3 w')=>hu.blk hb2 fun f=>f
 refine ⟨fun i w'=>∃ k:Nat,i=k∧k≤s.cols.length∧Upd Nothing w3 w'∧s.cols.take k=t.cols.take k,fun i _=>s.cols.length - i.toNat,⟨0,rfl,by omega,Upd.refl _ _,by simp⟩,?_⟩
 rintro i w4 ⟨k,rfl,hk,hu4,hq⟩
 refine ⟨_,_,_,(hA _ hu4).cell (i:=1) rfl,ifB_mk (fun h=>?_) (fun h=>?_)⟩
 ·have hkn:k < s.cols.length:=by have:=of_decide_eq_true h; omega
  have hu4':=hu4.then (Upd.drew _ _)
  obtain ⟨a1,ha1,hc1⟩:=(hcols.upd0 (hu12.then hu4')) k hkn
  obtain ⟨a2,ha2,hc2⟩:=(hcols2.upd0 (hu12.then hu4')) k (by omega)
  refine ⟨_,_,_,(hA _ hu4').cell (i:=1) rfl,a1,ha1,by omega,by omega,_,_,hc1,_,_,_,(hB _ hu4').cell (i:=1) rfl,a2,ha2,by omega,by omega,_,_,hc2,ifB_mk (fun h1=>hno _ hu4' fun e=>?_) (fun h1=>?_)⟩
  ·subst e
   simp [sEq_self] at h1
  ·simp only [Bool.not_eq_false',Bool.and_eq_true,beq_iff_eq,sEq_iff,and_true] at h1
   exact scan_next (Q:=fun k=>s.cols.take k=t.cols.take k) hkn (by omega) hu4' (by rw [List.take_succ_eq_append_getElem (by omega),List.take_succ_eq_append_getElem (by omega),hq,col_ext h1.1 h1.2])
 ·have hkn:k=s.cols.length:=by have:=of_decide_eq_false h; omega
  subst hkn
  rw [List.take_of_length_le (by omega),List.take_of_length_le (by omega)] at hq
  have hixs':=hixs hq
  have hixs2':=hixs2 hq
  refine ⟨fun i w'=>∃ k:Nat,i=k∧k≤s.ixs.length∧Upd Nothing w3 w'∧s.ixs.take k=t.ixs.take k,fun i _=>s.ixs.length - i.toNat,⟨0,rfl,by omega,hu4,by simp⟩,?_⟩
  rintro i w5 ⟨k,rfl,hk,hu5,hq5⟩
  refine ⟨_,_,_,(hA _ hu5).cell (i:=2) rfl,ifB_mk (fun h=>?_) (fun h=>?_)⟩
  ·have hkn:k < s.ixs.length:=by have:=of_decide_eq_true h; omega
   have hu5':=hu5.then (Upd.drew _ _)
   obtain ⟨a1,q1,n1,c1,ha1,hcl1,hat1,hl1,hc1⟩:=(hixs'.upd0 (hu12.then hu5')) k hkn
   obtain ⟨a2,q2,n2,c2,ha2,hcl2,hat2,hl2,hc2⟩:=(hixs2'.upd0 (hu12.then hu5')) k (by omega)
   have hs3':=hs3 _ (List.getElem_mem hkn)
   refine ⟨_,_,_,(hA _ hu5').cell (i:=2) rfl,a1,ha1,by omega,by omega,_,hcl1.2.1,_,_,_,(hB _ hu5').cell (i:=2) rfl,a2,ha2,by omega,by omega,_,hcl2.2.1,ifB_mk (fun h1=>hno _ hu5' fun e=>?_) (fun h1=>?_)⟩
   ·subst e
    simp at h1
   refine ⟨_,_,_,(hA _ hu5').cell (i:=2) rfl,a1,ha1,by omega,by omega,_,_,_,hcl1.1,_,_,_,(hB _ hu5').cell (i:=2) rfl,a2,ha2,by omega,by omega,_,_,_,hcl2.1,rsame_spec hat1 hl1 hat2 hl2 (by omega) fun b w6 hb hu6=>⟨b,rfl,ifB_mk (fun h2=>hno _ (hu5'.then hu6) fun e=>?_) (fun h2=>?_)⟩⟩
   ·subst e
    rw [hb.2 rfl] at h2
    cases h2
   ·have h3:s.ixs[k].unique=t.ixs[k].unique:=by simpa using h1
    have h4:s.ixs[k].cols=t.ixs[k].cols:=hb.1 (by simpa using h2)
    exact scan_next (Q:=fun k=>s.ixs.take k=t.ixs.take k) hkn (by omega) (hu5'.then hu6) (by rw [List.take_succ_eq_append_getElem (by omega),List.take_succ_eq_append_getElem (by omega),hq5,ix_ext h4 h3])
  ·have hkn:k=s.ixs.length:=by have:=of_decide_eq_false h; omega
   subst hkn
   rw [List.take_of_length_le (by omega),List.take_of_length_le (by omega)] at hq5
   exact hK _ _ ⟨fun _=>schm_ext e1 hq hq5 e2 e3 e4,fun _=>rfl⟩ (hu12.then hu5)
theorem rfits3_spec (hs:SchEx w s v) (hr:At w q (vals row)) (hrl:row.length=m) (hm:m≤9223372036854775806) (hK:∀ (b:Bool) w',(b=true↔FitsP s.cols row)→Upd Nothing w w'→K (.bool b) w') :
  Cv F.z26 #[v,.slice q m d] w K:=by
 obtain ⟨cp,cc,ip,ic,rfl,hcols,hcc,hixs,hic⟩:=hs
 refine R.z26 ?_
 unfold C.z26
 refine New.use (by simp [Value.oneCell']) fun g1 w1 hb1 hu1 hge1 _=>⟨_,_,_,hb1.cell (i:=1) rfl,ifB_mk (fun h=>hK _ _ ⟨fun h=>(by cases h),fun h'=>?_⟩ hu1) (fun h=>?_)⟩
 ·have:=h'.1; simp at h; omega
 have hnm:m=s.cols.length:=by simp at h; omega
 refine all_spec (hr.upd0 hu1) hrl hm fun w2 hu2=>⟨_,rfl,ifB_mk (fun h1=>hK _ _ ⟨fun h=>(by cases h),fun h'=>?_⟩ (hu1.then hu2)) (fun h1=>?_)⟩
 ·rw [h'.2.1] at h1
  cases h1
 have hall:row.all Val.right=true:=by simpa using h1
 refine ⟨fun i w'=>∃ k:Nat,i=k∧k≤m∧Upd Nothing w1 w'∧∀ i (h:i < row.length) (h':i < s.cols.length),i < k→row[i].k=s.cols[i].kind,fun i _=>m - i.toNat,⟨0,rfl,by omega,hu2,fun i _ _ h=>by omega⟩,?_⟩
 rintro i w3 ⟨k,rfl,hk,hu3,hq⟩
 refine ifB_mk (fun h4=>?_) (fun h4=>?_)
 ·have hkn:k < m:=by have:=of_decide_eq_true h4; omega
  have hu3':=hu3.then (Upd.drew _ _)
  obtain ⟨a,ha,hcl⟩:=(hr.upd0 (hu1.then hu3')).val (i:=k) (by omega)
  obtain ⟨a2,ha2,hcl2⟩:=(hcols.upd0 (hu1.then hu3')) k (by omega)
  refine ⟨a,ha,by omega,by omega,_,hcl.1,_,_,_,(hu3'.blk hb1 fun f=>f).cell (i:=1) rfl,a2,ha2,by omega,by omega,_,hcl2.2.1,ifB_mk (fun h5=>?_) (fun h5=>?_)⟩
  ·refine hK _ _ ⟨fun h=>(by cases h),fun h'=>?_⟩ (hu1.then hu3')
   have:=h'.2.2 k (by omega) (by omega)
   simp [this] at h5
  ·have h6:row[k].k=s.cols[k].kind:=by simpa using h5
   refine scan_next (Q:=fun k=>∀ i (h:i < row.length) (h':i < s.cols.length),i < k→row[i].k=s.cols[i].kind) hkn hm hu3' fun i h h' hik=>?_
   by_cases h7:i < k
   ·exact hq i h h' h7
   ·have:i=k:=by omega
    subst this
    exact h6
 ·have hkn:k=m:=by have:=of_decide_eq_false h4; omega
  exact hK _ _ ⟨fun _=>⟨by omega,hall,fun i h h'=>hq i h h' (by omega)⟩,fun _=>rfl⟩ (hu1.then hu3)
def zeroV (c:Col):Val:=⟨if 1≤c.kind∧c.kind≤3 then c.kind else 0,0,bs []⟩
def FirstAt (l:List Col) (name:ByteArray) (r:Int):Prop:=(r = -1∧∀ j (hj:j < l.length),l[j].name≠name)∨∃ k:Nat,r=k∧∃ h:k < l.length,l[k].name=name∧∀ j (hj:j < k),(l[j]'(Nat.lt_trans hj h)).name≠name
theorem FirstAt.unique {l:List Col} {name:ByteArray} {a b:Int} (ha:FirstAt l name a) (hb:FirstAt l name b):a=b:=by
 rcases ha with ⟨rfl,h1⟩ | ⟨k,rfl,hk,h1,h2⟩ <;> rcases hb with ⟨rfl,h3⟩ | ⟨j,rfl,hj,h3,h4⟩
 ·rfl
 ·exact absurd h3 (h1 j hj)
 ·exact absurd h1 (h3 k hk)
 ·rcases Nat.lt_trichotomy k j with h | h | h
  ·exact absurd h1 (h4 k h)
  ·rw [h]
  ·exact absurd h3 (h2 j h)
end
end Sc
end Go.Proofs.YtjcgociobhhijaaGreatDoor
namespace Go.Proofs.YtjcgociobhhijaaGreatDoor
open Go SX Va
namespace Sc
theorem own_apart {w:World} {e s n c e' s' m d:Nat} {p q:Option Addr} {xs ys:List Value} (h:Own w e s p n c xs) (h':Own w e' s' q m d ys) (he:e≠e'):∀ k,Fp p c k→¬ Fp q d k:=by
 rintro k ⟨h0,a,ha,rfl⟩ ⟨h1,a',ha',hk⟩
 rcases h.mem with h2 | ⟨g,rest,hp,hb,_⟩
 ·omega
 rcases h'.mem with h2 | ⟨g',rest',hq,hb',_⟩
 ·omega
 rw [ha] at hp
 rw [ha'] at hq
 injection hp with hp
 injection hq with hq
 subst hp; subst hq
 exact hb.ne_type hb' he hk
theorem flat_length {α:Type} (f:α→List Value) (s:Nat) (hf:∀ x,(f x).length=s):∀ l:List α,(l.flatMap f).length=l.length * s
 | []=>by simp
 | x :: l=>by rw [List.flatMap_cons,List.length_append,hf,flat_length f s hf l,List.length_cons,Nat.add_mul]; omega
theorem flat_get {α:Type} (f:α→List Value) (s:Nat) (hf:∀ x,(f x).length=s):∀ {l:List α} {i j:Nat} (h:i < l.length),j < s→(l.flatMap f)[i * s+j]? = (f l[i])[j]?
 | [],_,_,h,_=>by simp at h
 | x :: l,0,j,_,hj=>by
  rw [List.flatMap_cons,Nat.zero_mul,Nat.zero_add,List.getElem?_append_left (by rw [hf]; exact hj)]
  rfl
 | x :: l,i+1,j,h,hj=>by
  rw [List.flatMap_cons,List.getElem?_append_right (by rw [hf,Nat.add_mul]; omega)]
  have:=flat_get f s hf (l:=l) (i:=i) (j:=j) (by simpa using h) hj
  rw [show (i+1) * s+j - (f x).length=i * s+j by rw [hf,Nat.add_mul]; omega,this]
  rfl
theorem At.two {w:World} {p:Option Addr} {xs:List Value} {i:Nat} {u v:Value} (h:At w p xs) (h0:xs[i * 2]? = some u) (h1:xs[i * 2+1]? = some v):∃ a,p=some a∧SX.cellsAt w (a.add (i * 2)) 0 [u,v]:=by
 obtain ⟨a,hp,c0⟩:=h _ _ h0
 obtain ⟨a1,hp1,c1⟩:=h _ _ h1
 rw [hp] at hp1
 injection hp1 with hp1
 subst hp1
 exact ⟨a,hp,by rw [Addr.add_two]; exact c0,by rw [Addr.add_two]; exact c1,trivial⟩
theorem At.of_two {w:World} {p:Option Addr} {xs:List Value} {n:Nat} (hl:xs.length=n * 2) (h:∀ i,i < n→∃ a u v,p=some a∧SX.cellsAt w (a.add (i * 2)) 0 [u,v]∧xs[i * 2]? = some u∧xs[i * 2+1]? = some v):At w p xs:=by
 intro j v hj
 have hjn:j < n * 2:=by have:=(List.getElem?_eq_some_iff.1 hj).1; omega
 obtain ⟨a,u0,u1,hp,hc,e0,e1⟩:=h (j / 2) (by omega)
 refine ⟨a,hp,?_⟩
 obtain ⟨c0,c1,_⟩:=hc
 rw [Addr.add_two] at c0 c1
 rcases (by omega:j % 2=0∨j % 2=1) with h2 | h2
 ·have e:j=j / 2 * 2:=by omega
  rw [← e] at e0
  rw [hj] at e0
  injection e0 with e0
  rw [e0]
  rw [show j / 2 * 2+0=j by omega] at c0
  exact c0
 ·have e:j=j / 2 * 2+1:=by omega
  rw [← e] at e1
  rw [hj] at e1
  injection e1 with e1
  rw [e1]
  rw [show j / 2 * 2+(0+1)=j by omega] at c1
  exact c1
def colsV (l:List Col):List Value:=l.flatMap Col.cells
theorem colsV_length (l:List Col):(colsV l).length=l.length * 2:=flat_length Col.cells 2 (fun _=>rfl) l
theorem colsV_get0 {l:List Col} {i:Nat} (h:i < l.length):(colsV l)[i * 2]? = some (.string l[i].name):=flat_get Col.cells 2 (fun _=>rfl) (j:=0) h (by decide)
theorem colsV_get1 {l:List Col} {i:Nat} (h:i < l.length):(colsV l)[i * 2+1]? = some (.int .i64 l[i].kind):=flat_get Col.cells 2 (fun _=>rfl) (j:=1) h (by decide)
theorem colsV_one (l:List Col):∀ v∈colsV l,v.oneCell'=true:=by
 intro v hv
 simp only [colsV,List.mem_flatMap,Col.cells,List.mem_cons,List.mem_nil_iff,or_false] at hv
 obtain ⟨c,_,rfl | rfl⟩:=hv <;> rfl
theorem cols_of_at {w:World} {p:Option Addr} {l:List Col} (h:At w p (colsV l)):Cols w p l:=fun i hi=>At.two h (colsV_get0 hi) (colsV_get1 hi)
theorem cols_at {w:World} {p:Option Addr} {l:List Col} (h:Cols w p l):At w p (colsV l):=At.of_two (colsV_length l) fun i hi=>by
 obtain ⟨a,ha,hc⟩:=h i hi
 exact ⟨a,_,_,ha,hc,colsV_get0 hi,colsV_get1 hi⟩
def IxV (xs:List Value) (l:List Ix) (P:Nat→Option Addr→Nat→Nat→Prop):Prop:=xs.length=l.length * 2∧(∀ v∈xs,v.oneCell'=true)∧∀ i (h:i < l.length),∃ q n c,xs[i * 2]? = some (.slice q n c)∧xs[i * 2+1]? = some (.bool l[i].unique)∧P i q n c
theorem ixs_cells {w:World} {p:Option Addr} {l:List Ix} (h:Ixs w p l):∃ xs,At w p xs∧IxV xs l fun i q n c=>∃ h:i < l.length,At w q (ints l[i].cols)∧l[i].cols.length=n∧n≤c:=by
 have key:∀ i,∃ x:Option Addr×Nat×Nat,∀ hi:i < l.length,∃ a,p=some a∧SX.cellsAt w (a.add (i * 2)) 0 [.slice x.1 x.2.1 x.2.2,.bool l[i].unique]∧At w x.1 (ints l[i].cols)∧l[i].cols.length=x.2.1∧x.2.1≤x.2.2:=fun i=>by
  by_cases hi:i < l.length
  ·obtain ⟨a,q,n,c,h1,h2,h3,h4,h5⟩:=h i hi
   exact ⟨(q,n,c),fun _=>⟨a,h1,h2,h3,h4,h5⟩⟩
  ·exact ⟨(none,0,0),fun h=>absurd h hi⟩
 let f:Nat→Option Addr×Nat×Nat:=fun i=>Classical.choose (key i)
 have hf:∀ i (hi:i < l.length),∃ a,p=some a∧SX.cellsAt w (a.add (i * 2)) 0 [.slice (f i).1 (f i).2.1 (f i).2.2,.bool l[i].unique]∧At w (f i).1 (ints l[i].cols)∧l[i].cols.length=(f i).2.1∧(f i).2.1≤(f i).2.2:=fun i hi=>Classical.choose_spec (key i) hi
 let g:Nat→List Value:=fun i=>[.slice (f i).1 (f i).2.1 (f i).2.2,.bool ((l[i]?.map Ix.unique).getD false)]
 have hg:∀ i,(g i).length=2:=fun _=>rfl
 have hlen:((List.range l.length).flatMap g).length=l.length * 2:=by rw [flat_length g 2 hg,List.length_range]
 have h0:∀ i (hi:i < l.length),((List.range l.length).flatMap g)[i * 2]? = some (.slice (f i).1 (f i).2.1 (f i).2.2):=fun i hi=>by
  have:=flat_get g 2 hg (l:=List.range l.length) (i:=i) (j:=0) (by simpa using hi) (by decide)
  rw [Nat.add_zero] at this
  rw [this,List.getElem_range]
  rfl
 have h1:∀ i (hi:i < l.length),((List.range l.length).flatMap g)[i * 2+1]? = some (.bool l[i].unique):=fun i hi=>by
  have:=flat_get g 2 hg (l:=List.range l.length) (i:=i) (j:=1) (by simpa using hi) (by decide)
  rw [this,List.getElem_range]
  show some (Value.bool ((l[i]?.map Ix.unique).getD false))=_
  rw [List.getElem?_eq_getElem hi]
  rfl
 refine ⟨(List.range l.length).flatMap g,At.of_two hlen fun i hi=>?_,hlen,fun v hv=>?_,fun i hi=>?_⟩
 ·obtain ⟨a,ha,hc,_⟩:=hf i hi
  exact ⟨a,_,_,ha,hc,h0 i hi,h1 i hi⟩
 ·obtain ⟨i,_,hv⟩:=List.mem_flatMap.1 hv
  have:v = .slice (f i).1 (f i).2.1 (f i).2.2∨v = .bool ((l[i]?.map Ix.unique).getD false):=by simpa [g] using hv
  rcases this with rfl | rfl <;> rfl
 ·obtain ⟨a,ha,hc,hat,hl,hn⟩:=hf i hi
  exact ⟨_,_,_,h0 i hi,h1 i hi,hi,hat,hl,hn⟩
structure OwnSch (w:World) (s:Schm) (cp:Option Addr) (cc:Nat) (ip:Option Addr) (ic:Nat) (B:Nat):Prop where
 cols:Own w T.api_Column 2 cp s.cols.length cc (colsV s.cols)
 ixs:∃ xs,Own w T.api_Index 2 ip s.ixs.length ic xs∧IxV xs s.ixs fun i q n c=>∃ h:i < s.ixs.length,Own w T.int 1 q n c (ints s.ixs[i].cols)∧∀ k,Fp q c k→B≤k
 cols0:∀ k,Fp cp cc k→B≤k
 ixs0:∀ k,Fp ip ic k→B≤k
theorem OwnSch.upd {F:Nat→Prop} {w w':World} {s:Schm} {cp ip:Option Addr} {cc ic B:Nat} (h:OwnSch w s cp cc ip ic B) (hu:Upd F w w') (hF:∀ k,B≤k→k < w.heap.size→¬ F k):OwnSch w' s cp cc ip ic B:=by
 obtain ⟨xs,ho,hl,h1,hx⟩:=h.ixs
 refine ⟨h.cols.upd hu fun k hk=>hF k (h.cols0 k hk) (h.cols.lt hk),⟨xs,ho.upd hu fun k hk=>hF k (h.ixs0 k hk) (ho.lt hk),hl,h1,fun i hi=>?_⟩,h.cols0,h.ixs0⟩
 obtain ⟨q,n,c,e0,e1,hi',hoi,hf⟩:=hx i hi
 exact ⟨q,n,c,e0,e1,hi',hoi.upd hu fun k hk=>hF k (hf k hk) (hoi.lt hk),hf⟩
theorem OwnSch.upd0 {w w':World} {s:Schm} {cp ip:Option Addr} {cc ic B:Nat} (h:OwnSch w s cp cc ip ic B) (hu:Upd Nothing w w'):OwnSch w' s cp cc ip ic B:=h.upd hu fun _ _ _ f=>f
theorem OwnSch.ex {w:World} {s:Schm} {cp ip:Option Addr} {cc ic B:Nat} (h:OwnSch w s cp cc ip ic B):SchEx w s (.agg #[.string s.name,.slice cp s.cols.length cc,.slice ip s.ixs.length ic,.int .i64 s.limit,.int .i64 s.parts,.int .i64 s.by_]):=by
 obtain ⟨xs,ho,hl,h1,hx⟩:=h.ixs
 refine ⟨cp,cc,ip,ic,rfl,cols_of_at h.cols.at,h.cols.le,fun i hi=>?_,ho.le⟩
 obtain ⟨q,n,c,e0,e1,hi',hoi,hf⟩:=hx i hi
 obtain ⟨a,ha,hc⟩:=At.two ho.at e0 e1
 refine ⟨a,q,n,c,ha,hc,hoi.at,?_,hoi.le⟩
 have:=hoi.len
 simpa using this
theorem set_six {w:World} {e:Nat} {g:Nat} {x0 x1 x2 x3 x4 x5 u0 u1 u2 u3 u4 u5:Value} {Q:World→Prop} (h0:u0.oneCell'=true) (h1:u1.oneCell'=true) (h2:u2.oneCell'=true) (h3:u3.oneCell'=true) (h4:u4.oneCell'=true) (h5:u5.oneCell'=true) (hb:Blk w g [x0,x1,x2,x3,x4,x5] e) (hQ:∀ w',Blk w' g [u0,u1,u2,u3,u4,u5] e→Upd (One g) w w'→Q w') :
  CanSt w ((Addr.mk g 0 none).add 0)∧∀ w1,w1=w.setCell ((Addr.mk g 0 none).add 0) u0→
  CanSt w1 ((Addr.mk g 0 none).add 1)∧∀ w2,w2=w1.setCell ((Addr.mk g 0 none).add 1) u1→
  CanSt w2 ((Addr.mk g 0 none).add 2)∧∀ w3,w3=w2.setCell ((Addr.mk g 0 none).add 2) u2→
  CanSt w3 ((Addr.mk g 0 none).add 3)∧∀ w4,w4=w3.setCell ((Addr.mk g 0 none).add 3) u3→
  CanSt w4 ((Addr.mk g 0 none).add 4)∧∀ w5,w5=w4.setCell ((Addr.mk g 0 none).add 4) u4→
  CanSt w5 ((Addr.mk g 0 none).add 5)∧∀ w6,w6=w5.setCell ((Addr.mk g 0 none).add 5) u5→Q w6:=
 hb.store (i:=0) (by simp) h0 fun w1 hb1 hu1 _=>hb1.store (i:=1) (by simp) h1 fun w2 hb2 hu2 _=>hb2.store (i:=2) (by simp) h2 fun w3 hb3 hu3 _=>hb3.store (i:=3) (by simp) h3 fun w4 hb4 hu4 _=>
  hb4.store (i:=4) (by simp) h4 fun w5 hb5 hu5 _=>hb5.store (i:=5) (by simp) h5 fun w6 hb6 hu6 _=>hQ w6 hb6 (((((hu1.then hu2).then hu3).then hu4).then hu5).then hu6)
section
variable {w:World} {K:Value→World→Prop} {p q:Option Addr} {n c m d:Nat} {s t:Schm} {v u:Value}
theorem clone_cols {l:List Col} (ha:Cols w p l) (hl:l.length=n) (hn:n≤1000000) (hK:∀ p' c' w',Own w' T.api_Column 2 p' n c' (colsV l)→Upd Nothing w w'→(∀ k,Fp p' c' k→w.heap.size≤k)→K (.slice p' n c') w') :
  Cv F.z88 #[.slice p n c] w K:=
 R.z88 (by
  unfold C.z88
  exact G.clone scol (by decide) (by decide) (cols_at ha) (by rw [colsV_length,hl]) (colsV_one l) (by omega) (fun hp=>by
   rcases Nat.eq_zero_or_pos n with h | h
   ·exact h
   ·obtain ⟨a,h1,_⟩:=ha 0 (by omega)
    rw [hp] at h1
    cases h1) hK)
theorem clone_ixs {l:List Ix} {xs:List Value} (ha:Ixs w p l) (hat:At w p xs) (hxl:xs.length=l.length * 2) (h1:∀ v∈xs,v.oneCell'=true) (hl:l.length=n) (hn:n≤1000000) (hK:∀ p' c' w',Own w' T.api_Index 2 p' n c' xs→Upd Nothing w w'→(∀ k,Fp p' c' k→w.heap.size≤k)→K (.slice p' n c') w') :
  Cv F.z89 #[.slice p n c] w K:=
 R.z89 (by
  unfold C.z89
  exact G.clone six (by decide) (by decide) hat (by rw [hxl,hl]) h1 (by omega) (fun hp=>by
   rcases Nat.eq_zero_or_pos n with h | h
   ·exact h
   ·obtain ⟨a,_,_,_,h1,_⟩:=ha 0 (by omega)
    rw [hp] at h1
    cases h1) hK)
theorem clone_ints {xs:List Int} (hat:At w p (ints xs)) (hl:xs.length=n) (hn:n≤1000000) (hK:∀ p' c' w',Own w' T.int 1 p' n c' (ints xs)→Upd Nothing w w'→(∀ k,Fp p' c' k→w.heap.size≤k)→K (.slice p' n c') w') :
  Cv F.z91 #[.slice p n c] w K:=
 R.z91 (by
  unfold C.z91
  exact G.clone sint (by decide) (by decide) hat (by rw [ints_length,hl,Nat.mul_one]) (ints_one xs) (by omega) (fun hp=>by
   rcases Nat.eq_zero_or_pos n with h | h
   ·exact h
   ·obtain ⟨a,h1,_⟩:=hat 0 _ (ints_get (by omega))
    rw [hp] at h1
    cases h1) hK)
theorem copy_spec (hs:SchEx w s v) (hs1:s.cols.length≤1000000) (hs2:s.ixs.length≤1000000) (hs3:∀ x∈s.ixs,x.cols.length≤1000000)
  (hK:∀ cp cc ip ic w',OwnSch w' s cp cc ip ic w.heap.size→Upd Nothing w w'→K (.agg #[.string s.name,.slice cp s.cols.length cc,.slice ip s.ixs.length ic,.int .i64 s.limit,.int .i64 s.parts,.int .i64 s.by_]) w') :
  Cv F.z65 #[v] w K:=by
 obtain ⟨cp,cc,ip,ic,rfl,hcols,hcc,hixs,hic⟩:=hs
 refine R.z65 ?_
 unfold C.z65
 refine New.use (by simp [Value.oneCell']) fun g1 w1 hb1 hu1 hge1 hlt1=>New.use (by simp [Value.oneCell']) fun g2 w2 hb2 hu2 hge2 hlt2=>?_
 have hu12:=hu1.then hu2
 have hb12:=hu2.blk hb1 fun f=>f
 have hsz1:=hu1.size
 have hsz2:=hu2.size
 refine ⟨_,_,_,hb12.cell (i:=1) rfl,clone_cols (hcols.upd0 hu12) rfl hs1 fun cp' cc' w3 hoc hu3 hfc=>⟨_,_,_,rfl,?_⟩⟩
 have hsz3:=hu3.size
 refine (hu3.blk hb12 fun f=>f).store (i:=1) (by simp) rfl fun w4 hb4 hu4 hsz4=>?_
 have hu14:Upd Nothing w w4:=(hu12.then hu3).fresh hu4 fun i hi=>by rw [show i=g1 from hi]; exact hge1
 have hoc4:=hoc.upd hu4 fun k hk e=>by have:=hfc k hk; rw [show k=g1 from e] at this; omega
 have hb24:=hu4.blk (hu3.blk hb2 fun f=>f) fun e=>by have:g2=g1:=e; omega
 obtain ⟨xs,hxat,hxl,hx1,hxs⟩:=ixs_cells hixs
 refine ⟨_,_,_,hb4.cell (i:=2) rfl,clone_ixs (hixs.upd0 hu14) (hxat.upd0 hu14) hxl hx1 rfl hs2 fun ip' ic' w5 hoi hu5 hfi=>⟨_,_,_,rfl,?_⟩⟩
 have hsz5:=hu5.size
 refine (hu5.blk hb4 fun f=>f).store (i:=2) (by simp) rfl fun w6 hb6 hu6 hsz6=>?_
 have hu16:Upd Nothing w w6:=(hu14.then hu5).fresh hu6 fun i hi=>by rw [show i=g1 from hi]; exact hge1
 have hoc6:=(hoc4.upd0 hu5).upd hu6 fun k hk e=>by have:=hfc k hk; rw [show k=g1 from e] at this; omega
 have hoi6:=hoi.upd hu6 fun k hk e=>by have:=hfi k hk; rw [show k=g1 from e] at this; omega
 have hb26:=hu6.blk (hu5.blk hb24 fun f=>f) fun e=>by have:g2=g1:=e; omega
 refine ⟨_,_,_,hb6.cell (i:=2) rfl,fun i w'=>∃ (k:Nat) (ys:List Value),i=k∧k≤s.ixs.length∧Own w' T.api_Index 2 ip' s.ixs.length ic' ys∧Upd (Fp ip' ic') w6 w'∧Upd Nothing w w'∧
   IxV ys s.ixs fun i q n c=>∃ h:i < s.ixs.length,(i < k→Own w' T.int 1 q n c (ints s.ixs[i].cols)∧∀ k,Fp q c k→w.heap.size≤k)∧(k≤i→At w q (ints s.ixs[i].cols)∧s.ixs[i].cols.length=n∧n≤c),
  fun i _=>s.ixs.length - i.toNat,⟨0,xs,rfl,by omega,hoi6,Upd.refl _ _,hu16,hxl,hx1,fun i hi=>?_⟩,?_⟩
 ·obtain ⟨q,n,c,e0,e1,hi',h1⟩:=hxs i hi
  exact ⟨q,n,c,e0,e1,hi',fun h=>by omega,fun _=>h1⟩
 rintro i w7 ⟨k,ys,rfl,hk,hoi7,hu67,hu7,hyl,hy1,hys⟩
 have hg1:¬ Fp ip' ic' g1:=fun h=>by have:=hfi _ h; omega
 have hg2:¬ Fp ip' ic' g2:=fun h=>by have:=hfi _ h; omega
 have hb17:=hu67.blk hb6 hg1
 have hb27:=hu67.blk hb26 hg2
 have hoc7:=hoc6.upd hu67 fun k hk h=>by
  have h1:=hfi _ h
  have h2:=hoc4.lt hk
  omega
 refine ifB_mk (fun h=>?_) (fun h=>?_)
 ·have hkn:k < s.ixs.length:=by have:=of_decide_eq_true h; omega
  obtain ⟨q,n,c,e0,e1,hk',hown,horig⟩:=hys k hkn
  obtain ⟨hatq,hnq,hcq⟩:=horig (Nat.le_refl _)
  obtain ⟨a,ha,hc⟩:=At.two hoi7.at e0 e1
  refine ⟨a,ha,by omega,by omega,_,_,_,_,hc,New.use (by simp [Value.oneCell']) fun g8 w8 hb8 hu8 hge8 _=>set_two rfl rfl hb8 fun w9 hb9 hu9=>?_⟩
  have hu79:Upd Nothing w7 w9.drew:=(hu8.fresh hu9 fun i hi=>by rw [show i=g8 from hi]; exact hge8).then (Upd.drew _ _)
  refine ⟨_,_,_,(hu79.blk hb17 fun f=>f).cell (i:=2) rfl,_,_,_,hb9.drew.cell (i:=0) rfl,clone_ints (hatq.upd0 (hu7.then hu79)) hnq (by have:=hs3 _ (List.getElem_mem hkn); omega) fun q' c' w11 ho11 hu11 hf11=>⟨_,_,_,rfl,?_⟩⟩
  have hu711:=hu79.then hu11
  obtain ⟨a2,ha2,hcan,hst⟩:=(hoi7.upd0 hu711).put (j:=k * 2) (v:=.slice q' n c') (by rw [hyl]; omega) rfl
  refine ⟨(hu711.blk hb17 fun f=>f).cell (i:=2) rfl,a2,ha2,by omega,by omega,by rw [Addr.add_two]; exact hcan,fun w12 hw12=>?_⟩
  rw [Addr.add_two] at hw12
  obtain ⟨hoi12,hu12',hsz12⟩:=hst w12 hw12
  rw [i64_wrap (by omega) (by omega)]
  have hf11':∀ k,Fp q' c' k→w.heap.size≤k:=fun k hk=>Nat.le_trans (hu7.then hu79).size (hf11 k hk)
  have hfi':∀ k,Fp ip' ic' k→w.heap.size≤k:=fun k hk=>Nat.le_trans hu14.size (hfi k hk)
  refine ⟨⟨k+1,ys.set (k * 2) (.slice q' n c'),by omega,by omega,hoi12,(hu67.trans hu711 (fun _ _ h=>h) (fun _ _ h=>h.elim)).then hu12',(hu7.then hu711).fresh hu12' hfi',by rw [List.length_set]; exact hyl,fun v hv=>?_,fun i hi=>?_⟩,by show s.ixs.length - _ < s.ixs.length - _; omega⟩
  ·rcases List.mem_or_eq_of_mem_set hv with hv | rfl
   ·exact hy1 v hv
   ·rfl
  ·by_cases hik:i=k
   ·subst hik
    refine ⟨q',n,c',by rw [List.getElem?_set_self (by rw [hyl]; omega)],by rw [List.getElem?_set_ne (by omega)]; exact e1,hi,fun _=>⟨ho11.upd hu12' fun k hk hk'=>own_apart ho11 (hoi7.upd0 hu711) (by decide) k hk hk',hf11'⟩,fun h=>by omega⟩
   ·obtain ⟨qi,ni,ci,f0,f1,hi',g1,g2⟩:=hys i hi
    refine ⟨qi,ni,ci,by rw [List.getElem?_set_ne (by omega)]; exact f0,by rw [List.getElem?_set_ne (by omega)]; exact f1,hi,fun hlt=>?_,fun hge=>g2 (by omega)⟩
    obtain ⟨h1,h2⟩:=g1 (by omega)
    exact ⟨(h1.upd0 hu711).upd hu12' fun k hk hk'=>own_apart (h1.upd0 hu711) (hoi7.upd0 hu711) (by decide) k hk hk',h2⟩
 ·have hkn:k=s.ixs.length:=by have:=of_decide_eq_false h; omega
  subst hkn
  refine ⟨_,_,_,_,_,_,_,_,_,_,six_cells hb17,set_six rfl rfl rfl rfl rfl rfl hb27 fun w8 hb8 hu8=>⟨_,_,_,_,_,_,_,_,_,_,six_cells hb8,?_⟩⟩
  refine hK cp' cc' ip' ic' w8 ⟨hoc7.upd hu8 fun k hk e=>?_,⟨ys,hoi7.upd hu8 fun k hk e=>?_,hyl,hy1,fun i hi=>?_⟩,fun k hk=>?_,fun k hk=>?_⟩ (hu7.fresh hu8 fun i hi=>by rw [show i=g2 from hi]; omega)
  ·have:=hfc k hk
   rw [show k=g2 from e] at this
   omega
  ·have:=hfi k hk
   rw [show k=g2 from e] at this
   omega
  ·obtain ⟨q,n,c,e0,e1,hi',h1,_⟩:=hys i hi
   obtain ⟨h2,h3⟩:=h1 hi
   refine ⟨q,n,c,e0,e1,hi',h2.upd hu8 fun k hk e=>?_,h3⟩
   rcases h2.mem with h4 | ⟨g,rest,hq,hbq,_⟩
   ·have:=hk.1; omega
   ·obtain ⟨_,a,ha,rfl⟩:=hk
    rw [hq] at ha
    injection ha with ha
    subst ha
    exact hbq.ne_type hb27 (by decide) e
  ·have:=hfc k hk; omega
  ·have:=hfi k hk; have:=hu14.size; omega
end
end Sc
end Go.Proofs.YtjcgociobhhijaaGreatDoor
namespace Go.Proofs.YtjcgociobhhijaaGreatDoor.SX
open Go
def dval:List Nat→Nat
 | []=>0
 | d :: l=>d+10 * dval l
def digs (n:Nat):List Nat:=if h:n=0 then [] else n % 10 :: digs (n / 10)
 termination_by n
 decreasing_by omega
theorem digs_zero:digs 0=[]:=by rw [digs]; rfl
theorem digs_pos {n:Nat} (h:0 < n):digs n=n % 10 :: digs (n / 10):=by rw [digs,dif_neg (by omega)]
theorem dval_digs (n:Nat):dval (digs n)=n:=by
 induction n using Nat.strongRecOn with
 | ind n ih=>
  rcases Nat.eq_zero_or_pos n with h | h
  ·subst h; rw [digs_zero]; rfl
  ·rw [digs_pos h]
   show n % 10+10 * dval (digs (n / 10))=n
   rw [ih (n / 10) (by omega)]
   omega
theorem digs_lt (n:Nat):∀ d∈digs n,d < 10:=by
 induction n using Nat.strongRecOn with
 | ind n ih=>
  rcases Nat.eq_zero_or_pos n with h | h
  ·subst h; rw [digs_zero]; simp
  ·rw [digs_pos h]
   intro d hd
   rcases List.mem_cons.1 hd with rfl | hd
   ·omega
   ·exact ih (n / 10) (by omega) d hd
theorem dval_append:∀ a b:List Nat,dval (a++b)=dval a+10 ^ a.length * dval b
 | [],b=>by simp [dval]
 | d :: a,b=>by
  rw [List.cons_append]
  simp only [dval]
  rw [dval_append a b,List.length_cons,Nat.pow_succ,Nat.mul_add,Nat.add_assoc,Nat.mul_comm (10 ^ a.length) 10,Nat.mul_assoc]
theorem digs_of:∀ l:List Nat,(∀ d∈l,d < 10)→l.getLast?≠some 0→digs (dval l)=l
 | [],_,_=>by simp [dval,digs_zero]
 | [d],h,hl=>by
  have h1:=h d (by simp)
  have h2:d≠0:=fun e=>hl (by simp [e])
  have h3:d / 10=0:=by omega
  simp only [dval,Nat.mul_zero,Nat.add_zero]
  rw [digs_pos (by omega),h3,digs_zero,Nat.mod_eq_of_lt h1]
 | d :: x :: l,h,hl=>by
  have h1:=h d (by simp)
  have ih:=digs_of (x :: l) (fun y hy=>h y (List.mem_cons_of_mem _ hy)) (by rw [List.getLast?_cons_cons] at hl; exact hl)
  have hpos:0 < dval (x :: l):=by
   rcases Nat.eq_zero_or_pos (dval (x :: l)) with h0 | h0
   ·rw [h0,digs_zero] at ih; cases ih
   ·exact h0
  show digs (d+10 * dval (x :: l))=_
  rw [digs_pos (by omega),show (d+10 * dval (x :: l)) % 10=d by omega,show (d+10 * dval (x :: l)) / 10=dval (x :: l) by omega,ih]
theorem dval_snoc_zero (l:List Nat):dval (l++[0])=dval l:=by rw [dval_append]; simp [dval]
theorem digs_length_le {n k:Nat} (h:n < 10 ^ k):(digs n).length≤k:=by
 induction k generalizing n with
 | zero=>
  have:n=0:=by simpa using h
  subst this
  simp [digs_zero]
 | succ k ih=>
  rcases Nat.eq_zero_or_pos n with h0 | h0
  ·subst h0; simp [digs_zero]
  ·rw [digs_pos h0,List.length_cons]
   have:=ih (n:=n / 10) (by rw [Nat.pow_succ] at h; omega)
   omega
end Go.Proofs.YtjcgociobhhijaaGreatDoor.SX
namespace Go.Proofs.YtjcgociobhhijaaGreatDoor
open Go SX Va Sc
namespace Ca
def dg (ds:List Nat):List Value:=ints (ds.map fun d:Nat=>(d:Int))
@[simp] theorem dg_length (ds:List Nat):(dg ds).length=ds.length:=by simp [dg]
theorem dg_get {ds:List Nat} {i:Nat} (h:i < ds.length):(dg ds)[i]? = some (.int .i64 (ds[i]:Int)):=by unfold dg; rw [ints_get (by simpa using h)]; simp
theorem dg_snoc (ds:List Nat) (d:Nat):ints ((ds.map fun d:Nat=>(d:Int))++[(d:Int)])=dg (ds++[d]):=by simp [dg]
theorem dg_take (ds:List Nat) (k:Nat):dg (ds.take k)=(dg ds).take k:=by unfold dg; rw [← ints_take,List.map_take]
theorem own_one {w:World} {e s n c e' g:Nat} {p:Option Addr} {xs l:List Value} (h:Own w e s p n c xs) (hb:Blk w g l e') (he:e≠e'):∀ k,Fp p c k→¬ SX.One g k:=by
 rintro k ⟨h0,a,ha,rfl⟩ hk
 rcases h.mem with h2 | ⟨g',rest,hp,hb',_⟩
 ·omega
 rw [ha] at hp
 injection hp with hp
 subst hp
 exact hb'.ne_type hb he hk
def NumAt (w:World) (v:Value) (x:Int):Prop:=∃ (p:Option Addr) (c:Nat),v = .agg #[.bool (decide (x < 0)),.slice p (digs x.natAbs).length c]∧Own w T.int 1 p (digs x.natAbs).length c (dg (digs x.natAbs))
theorem NumAt.upd0 {w w':World} {v:Value} {x:Int} (h:NumAt w v x) (hu:Upd Nothing w w'):NumAt w' v x:=by
 obtain ⟨p,c,hv,ho⟩:=h
 exact ⟨p,c,hv,ho.upd0 hu⟩
theorem NumAt.one {w w':World} {v:Value} {x:Int} {g e:Nat} {l:List Value} (h:NumAt w v x) (hb:Blk w g l e) (he:T.int≠e) (hu:Upd (SX.One g) w w'):NumAt w' v x:=by
 obtain ⟨p,c,hv,ho⟩:=h
 exact ⟨p,c,hv,ho.upd hu (own_one ho hb he)⟩
theorem dval_take_succ:∀ (l:List Nat) (k:Nat),dval (l.take (k+1))=dval (l.take k)+10 ^ k * (l[k]?.getD 0)
 | [],k=>by simp [dval]
 | d :: l,0=>by simp [dval]
 | d :: l,k+1=>by
  simp only [List.take_succ_cons,dval,List.getElem?_cons_succ]
  rw [dval_take_succ l k,Nat.pow_succ,Nat.mul_add,Nat.add_assoc,Nat.mul_comm (10 ^ k) 10,Nat.mul_assoc]
section
variable {w:World} {K:Value→World→Prop} {p q:Option Addr} {n c m d:Nat}
theorem app_int {x:Int} {xs:List Int} (ho:Own w T.int 1 p n c (ints xs)) (hsz:n+1≤1099511627776)
  (hK:∀ p' c' w',Own w' T.int 1 p' (n+1) c' (ints (xs++[x]))→Upd (Fp p c) w w'→(∀ k,Fp p' c' k→Fp p c k∨w.heap.size≤k)→K (.slice p' (n+1) c') w') :
  ∀ g w1,New w (.cells #[.int .i64 x] T.int) g w1→BuiltV prog .append #[T.s_int,T.s_int] T.s_int #[.slice p n c,.slice (some (Addr.mk g 0 none)) 1 1] w1 K:=by
 refine New.use (by simp [Value.oneCell']) fun g w1 hb hu hge _=>?_
 refine append_own (m:=1) sint (.inl sint.desc) (ho.upd0 hu) (Src.slice (m:=1) (ys:=[.int .i64 x]) (At.of_blk hb fun j v hj=>by rw [Nat.zero_add]; exact hj) rfl (by simp [Value.oneCell'])) (by decide) (by decide) (by omega) fun p' c' w' ho' hu' hf'=>?_
 refine hK p' c' w' (by rw [ints_append]; exact ho') (hu.trans hu' (fun _ _ h=>h.elim) (fun _ _ h=>h)) fun k hk=>?_
 rcases hf' k hk with h | h
 ·exact .inl h
 ·exact .inr (Nat.le_trans hu.size h)
theorem trim_spec {ds:List Nat} (hat:At w p (dg ds)) (hl:ds.length=n) (hc:n≤c) (hn:n≤1000000) (hd:∀ d∈ds,d < 10)
  (hK:∀ m,m≤n→digs (dval ds)=ds.take m→(digs (dval ds)).length=m→K (.slice p m c) w):Cv F.z18 #[.slice p n c] w K:=
 R.z18 (by
  unfold C.z18
  refine ⟨fun p2 n2 c2 w'=>w'=w∧p2=p∧c2=c∧n2≤n∧dval (ds.take n2)=dval ds,fun _ n2 _ _=>n2,⟨rfl,rfl,rfl,Nat.le_refl _,by rw [List.take_of_length_le (by omega)]⟩,?_⟩
  rintro p2 n2 c2 w2 ⟨rfl,rfl,rfl,hn2,hv⟩
  have hlt:∀ d∈ds.take n2,d < 10:=fun d hd'=>hd d (List.mem_of_mem_take hd')
  refine ifB_mk (fun h=>?_) (fun h=>?_)
  ·have hpos:0 < n2:=by have:=of_decide_eq_true h; omega
   obtain ⟨k,rfl⟩:∃ k,n2=k+1:=⟨n2 - 1,by omega⟩
   have hw:IntKind.i64.wrap (((k+1:Nat):Int) - 1)=(k:Int):=by rw [i64_wrap (by omega) (by omega)]; omega
   obtain ⟨a,ha,hc'⟩:=hat k _ (dg_get (by omega))
   have htk:ds.take (k+1)=ds.take k++[ds[k]]:=List.take_succ_eq_append_getElem (by omega)
   rw [hw]
   refine ⟨a,ha,by omega,by omega,((ds[k]'(by omega):Nat):Int),by simpa using hc',ifB_mk (fun h1=>⟨by omega,by omega,?_⟩) (fun h1=>hK _ hn2 ?_ ?_)⟩
   ·have h0:ds[k]=0:=by have:=beq_iff_eq.1 h1; omega
    rw [cutAt_zero]
    refine ⟨⟨rfl,rfl,Nat.sub_zero _,by simp; omega,?_⟩,by simp⟩
    simp only [Int.toNat_natCast,Nat.sub_zero]
    rw [htk,h0,dval_snoc_zero] at hv
    exact hv
   ·have h0:ds[k]≠0:=fun e=>by rw [e] at h1; simp at h1
    rw [← hv]
    exact digs_of _ hlt (by rw [htk,List.getLast?_concat]; exact fun e=>h0 (Option.some.inj e))
   ·have h0:ds[k]≠0:=fun e=>by rw [e] at h1; simp at h1
    rw [← hv,digs_of _ hlt (by rw [htk,List.getLast?_concat]; exact fun e=>h0 (Option.some.inj e))]
    simp
    omega
  ·have h0:n2=0:=by have:=of_decide_eq_false h; omega
   subst h0
   have h1:dval ds=0:=by rw [← hv]; rfl
   exact hK 0 hn2 (by rw [h1,digs_zero]; rfl) (by rw [h1,digs_zero]; rfl))
theorem sign_spec {ds:List Nat} {neg:Bool} (ho:Own w T.int 1 p n c (dg ds)) (hl:ds.length=n) (hn:n≤1000000) (hd:∀ d∈ds,d < 10)
  (hK:∀ v w',NumAt w' v (if neg=true then -(dval ds:Int) else (dval ds:Int))→Upd Nothing w w'→K v w'):Cv F.z16 #[.bool neg,.slice p n c] w K:=
 R.z16 (by
  unfold C.z16
  refine New.use (by simp [Value.oneCell']) fun g w1 hb1 hu1 hge1 _=>trim_spec (ho.at.upd0 hu1) hl ho.le hn hd fun m hm hdg hml=>⟨_,_,_,rfl,?_⟩
  have hown:Own w1 T.int 1 p m c (dg (digs (dval ds))):=by
   have:=(ho.upd0 hu1).head hm
   rw [Nat.mul_one,← dg_take,← hdg] at this
   exact this
  have hpos:(0 < (m:Int))↔0 < dval ds:=by
   constructor
   ·intro h
    rcases Nat.eq_zero_or_pos (dval ds) with h0 | h0
    ·rw [h0,digs_zero] at hml; simp at hml; omega
    ·exact h0
   ·intro h
    have:0 < (digs (dval ds)).length:=by rw [digs_pos h]; simp
    omega
  have hfin:∀ (b:Bool) (x:Int),x.natAbs=dval ds→b=decide (x < 0)→(∀ v w',NumAt w' v x→Upd Nothing w w'→K v w')→∀ w4,Blk w4 g [.bool b,.slice p m c] T.affluxref01_Num→Upd (SX.One g) w1 w4→
    ∃ (xNeg1:Bool) (xD1p:Option Addr) (xD1n xD1c:Nat),SX.cellsAt w4 (Addr.mk g 0 none) 0 [.bool xNeg1,.slice xD1p xD1n xD1c]∧K (.agg #[.bool xNeg1,.slice xD1p xD1n xD1c]) w4:=fun b x hx hb hk w4 hb4 hu4=>by
   refine ⟨_,_,_,_,two_cells hb4,hk _ w4 ⟨p,c,?_,?_⟩ (hu1.fresh hu4 fun i hi=>by rw [show i=g from hi]; exact hge1)⟩
   ·rw [hx,hml,hb]
   ·rw [hx,hml]
    exact hown.upd hu4 (own_one hown hb1 (by decide))
  refine ifB_mk (fun h=>?_) (fun h=>?_)
  ·refine set_two rfl rfl hb1 fun w4 hb4 hu4=>hfin _ (-(dval ds:Int)) (by omega) ?_ (by rw [if_pos h] at hK; exact hK) w4 hb4 hu4
   rw [decide_eq_decide,hpos]
   omega
  ·refine set_two rfl rfl hb1 fun w4 hb4 hu4=>hfin _ (dval ds:Int) (by omega) ?_ (by rw [if_neg (by rw [h]; decide)] at hK; exact hK) w4 hb4 hu4
   exact (decide_eq_false (by omega)).symm)
theorem of_spec {x:Int} (hx : -9223372036854775808≤x∧x≤9223372036854775807) (hK:∀ v w',NumAt w' v x→Upd Nothing w w'→K v w'):Cv F.z11 #[.int .i64 x] w K:=
 R.z11 (by
  unfold C.z11
  refine New.use (by simp [Value.oneCell']) fun g w1 hb1 hu1 hge1 _=>?_
  have hN:(digs x.natAbs).length≤19:=digs_length_le (by show x.natAbs < 10 ^ 19; omega)
  let Iv:Int→Option Addr→Nat→Nat→World→Prop:=fun u dp dn dc w'=>∃ (done:List Nat) (U:Nat),u=U∧digs x.natAbs=done++digs U∧dn=done.length∧Own w' T.int 1 dp dn dc (dg done)∧Upd Nothing w1 w'∧∀ k,Fp dp dc k→w1.heap.size≤k
  have hstep:∀ (u:Int) (dp:Option Addr) (dn dc:Nat) w2,Iv u dp dn dc w2→0 < u→∀ b2 wv3,New w2 (.cells #[.int .i64 (IntKind.i64.wrap (Int.tmod u (10:Int)))] T.int) b2 wv3→
    BuiltV prog .append #[T.s_int,T.s_int] T.s_int #[.slice dp dn dc,.slice (some (Addr.mk b2 0 none)) 1 1] wv3 (fun v1 wv4=>∃ (a1p:Option Addr) (a1n a1c:Nat),v1 = .slice a1p a1n a1c∧(10:Int)≠0∧
     Iv (IntKind.u64.wrap (Int.tdiv u (10:Int))) a1p a1n a1c wv4∧(IntKind.u64.wrap (Int.tdiv u (10:Int))).toNat < u.toNat):=by
   rintro u dp dn dc w2 ⟨done,U,rfl,hdg,rfl,ho,hu,hf⟩ hU
   have hU0:0 < U:=by omega
   have hUle:U≤x.natAbs:=by
    have h1:=congrArg dval hdg
    rw [dval_digs,dval_append,dval_digs] at h1
    have:1≤10 ^ done.length:=Nat.one_le_pow _ _ (by decide)
    have:=Nat.mul_le_mul_right U this
    omega
   have h1:IntKind.i64.wrap (Int.tmod (U:Int) 10)=((U % 10:Nat):Int):=by
    rw [Int.tmod_eq_emod_of_nonneg (by omega)]
    rw [i64_wrap (by omega) (by omega)]
    omega
   have h2:IntKind.u64.wrap (Int.tdiv (U:Int) 10)=((U / 10:Nat):Int):=by
    rw [Int.tdiv_eq_ediv_of_nonneg (by omega)]
    simp [IntKind.wrap,IntKind.signed,IntKind.bits]
    omega
   rw [h1,h2]
   have hlen:done.length+1≤19:=by
    have:=congrArg List.length hdg
    rw [List.length_append,digs_pos hU0,List.length_cons] at this
    omega
   refine app_int (xs:=done.map fun d:Nat=>(d:Int)) ho (by omega) fun p' c' w' ho' hu' hf'=>⟨_,_,_,rfl,by decide,⟨done++[U % 10],U / 10,rfl,?_,by simp,by rw [← dg_snoc]; exact ho',hu.fresh hu' fun i hi=>hf i hi,fun k hk=>?_⟩,by omega⟩
   ·rw [hdg,digs_pos hU0,List.append_assoc]; rfl
   ·rcases hf' k hk with h | h
    ·exact hf k h
    ·exact Nat.le_trans hu.size h
  have hend:∀ (u:Int) (dp:Option Addr) (dn dc:Nat) w2,Iv u dp dn dc w2→¬ 0 < u→
    Cv F.z16 #[.bool (decide (x < (0:Int))),.slice dp dn dc] w2 (fun v2 wv5=>∃ (rNeg1:Bool) (rD1p:Option Addr) (rD1n rD1c:Nat),v2 = .agg #[.bool rNeg1,.slice rD1p rD1n rD1c]∧
     CanSt wv5 ((Addr.mk g 0 none).add 0)∧∀ wv6,wv6=wv5.setCell ((Addr.mk g 0 none).add 0) (.bool rNeg1)→
     CanSt wv6 ((Addr.mk g 0 none).add 1)∧∀ wv7,wv7=wv6.setCell ((Addr.mk g 0 none).add 1) (.slice rD1p rD1n rD1c)→
     ∃ (xNeg1:Bool) (xD1p:Option Addr) (xD1n xD1c:Nat),SX.cellsAt wv7 (Addr.mk g 0 none) 0 [.bool xNeg1,.slice xD1p xD1n xD1c]∧K (.agg #[.bool xNeg1,.slice xD1p xD1n xD1c]) wv7):=by
   rintro u dp dn dc w2 ⟨done,U,rfl,hdg,rfl,ho,hu,hf⟩ hU
   have hU0:U=0:=by omega
   subst hU0
   rw [digs_zero,List.append_nil] at hdg
   refine sign_spec ho rfl (by rw [← hdg]; omega) (by rw [← hdg]; exact digs_lt _) fun v w5 hnum hu5=>?_
   have hx':(if decide (x < 0)=true then -(dval done:Int) else (dval done:Int))=x:=by
    rw [← hdg,dval_digs]
    by_cases h:x < 0
    ·rw [if_pos (decide_eq_true h)]; omega
    ·rw [if_neg (by simpa using h)]; omega
   rw [hx'] at hnum
   have hnum':=hnum
   obtain ⟨rp,rc,rfl,hro⟩:=hnum
   have hb5:=(hu.then hu5).blk hb1 fun f=>f
   refine ⟨_,_,_,_,rfl,set_two rfl rfl hb5 fun w7 hb7 hu7=>⟨_,_,_,_,two_cells hb7,hK _ w7 (hnum'.one hb5 (by decide) hu7) (((hu1.then hu).then hu5).fresh hu7 fun i hi=>by rw [show i=g from hi]; exact hge1)⟩⟩
  have hstart:∀ N:Int,N=x.natAbs→Iv N none 0 0 w1:=fun N hN=>⟨[],x.natAbs,hN,rfl,rfl,Own.nil _ _ _,Upd.refl _ _,fun k hk=>by have:=hk.1; omega⟩
  refine ifB_mk (fun h=>?_) (fun h=>?_)
  ·have h0:=of_decide_eq_true h
   refine ⟨Iv,fun u _ _ _ _=>u.toNat,hstart _ ?_,fun u dp dn dc w2 hI=>ifB_mk (fun h=>⟨by decide,hstep u dp dn dc w2 hI (of_decide_eq_true h)⟩) (fun h=>hend u dp dn dc w2 hI (of_decide_eq_false h))⟩
   simp [IntKind.wrap,IntKind.signed,IntKind.bits]
   omega
  ·have h0:=of_decide_eq_false h
   refine ⟨Iv,fun u _ _ _ _=>u.toNat,hstart _ ?_,fun u dp dn dc w2 hI=>ifB_mk (fun h=>⟨by decide,hstep u dp dn dc w2 hI (of_decide_eq_true h)⟩) (fun h=>hend u dp dn dc w2 hI (of_decide_eq_false h))⟩
   simp [IntKind.wrap,IntKind.signed,IntKind.bits]
   omega)
theorem at_spec {ds:List Nat} {k:Nat} (hat:At w p (dg ds)) (hl:ds.length=n) (hK:K (.int .i64 ((ds[k]?.getD 0:Nat):Int)) w):Cv F.z14 #[.slice p n c,.int .i64 (k:Int)] w K:=
 R.z14 (by
  unfold C.z14
  refine ifB_mk (fun h=>?_) (fun h=>?_)
  ·have hk:k < ds.length:=by have:=of_decide_eq_true h; omega
   obtain ⟨a,ha,hc⟩:=hat k _ (dg_get hk)
   refine ⟨a,ha,by omega,by omega,((ds[k]:Nat):Int),by simpa using hc,?_⟩
   rw [List.getElem?_eq_getElem hk] at hK
   exact hK
  ·have hk:¬ k < ds.length:=by have:=of_decide_eq_false h; omega
   rw [List.getElem?_eq_none (by omega)] at hK
   exact hK)
theorem getD_lt {ds:List Nat} (hd:∀ d∈ds,d < 10) (k:Nat):ds[k]?.getD 0 < 10:=by
 by_cases h:k < ds.length
 ·rw [List.getElem?_eq_getElem h]
  exact hd _ (List.getElem_mem h)
 ·rw [List.getElem?_eq_none (by omega)]
  decide
theorem add_spec {xs ys:List Nat} (ha:At w p (dg xs)) (hl:xs.length=n) (hn:n≤1000000) (hda:∀ d∈xs,d < 10) (hb:At w q (dg ys)) (hl':ys.length=m) (hm:m≤1000000) (hdb:∀ d∈ys,d < 10)
  (hK:∀ p' c' out w',Own w' T.int 1 p' out.length c' (dg out)→(∀ d∈out,d < 10)→dval out=dval xs+dval ys→out.length≤max n m+1→Upd Nothing w w'→K (.slice p' out.length c') w') :
  Cv F.z13 #[.slice p n c,.slice q m d] w K:=
 R.z13 (by
  unfold C.z13
  refine ⟨fun op on oc carry i w'=>∃ (out:List Nat) (cy:Nat),i=out.length∧on=out.length∧carry=cy∧cy≤1∧(∀ d∈out,d < 10)∧dval out+10 ^ out.length * cy=dval (xs.take out.length)+dval (ys.take out.length)∧out.length≤max n m+1∧(max n m < out.length→cy=0)∧
   Own w' T.int 1 op on oc (dg out)∧Upd Nothing w w'∧∀ k,Fp op oc k→w.heap.size≤k,fun _ _ _ _ i _=>max n m+2 - i.toNat,⟨[],0,rfl,rfl,rfl,by decide,by simp,by simp [dval],by simp,fun _=>rfl,Own.nil _ _ _,Upd.refl _ _,fun k hk=>by have:=hk.1; omega⟩,?_⟩
  rintro op on oc carry i w1 ⟨out,cy,rfl,rfl,rfl,hcy,hdo,hv,hlen,hend,ho,hu,hf⟩
  have hmax:max n m≤1000000:=by omega
  refine ⟨fun w'=>w'=w1∧(out.length < n∨out.length < m∨0 < cy),ifB_mk (fun h=>⟨rfl,.inl (by have:=of_decide_eq_true h; omega)⟩) (fun h1=>ifB_mk (fun h=>⟨rfl,.inr (.inl (by have:=of_decide_eq_true h; omega))⟩) (fun h2=>ifB_mk (fun h=>⟨rfl,.inr (.inr (by have:=of_decide_eq_true h; omega))⟩) (fun h3=>?_))),?_⟩
  ·have h1':=of_decide_eq_false h1
   have h2':=of_decide_eq_false h2
   have h3':=of_decide_eq_false h3
   have hc0:cy=0:=by omega
   rw [hc0,Nat.mul_zero,Nat.add_zero,List.take_of_length_le (by omega),List.take_of_length_le (by omega)] at hv
   exact hK op oc out w1 ho hdo hv hlen hu
  rintro w2 ⟨rfl,hgo⟩
  have hle:out.length≤max n m:=by
   rcases Nat.lt_or_ge (max n m) out.length with h | h
   ·have:=hend h; omega
   ·exact h
  have hx:=getD_lt hda out.length
  have hy:=getD_lt hdb out.length
  refine at_spec (ha.upd0 hu) hl ⟨_,rfl,at_spec (hb.upd0 hu) hl' ⟨_,rfl,by decide,?_⟩⟩
  have hs:dval (xs.take (out.length+1))+dval (ys.take (out.length+1))=dval out+10 ^ out.length * cy+10 ^ out.length * (xs[out.length]?.getD 0)+10 ^ out.length * (ys[out.length]?.getD 0):=by
   rw [dval_take_succ,dval_take_succ]
   omega
  have hxs:max n m < out.length+1→xs[out.length]?.getD 0=0∧ys[out.length]?.getD 0=0:=fun h=>by
   rw [List.getElem?_eq_none (by omega),List.getElem?_eq_none (by omega)]
   exact ⟨rfl,rfl⟩
  generalize xs[out.length]?.getD 0=x at hx hs hxs ⊢
  generalize ys[out.length]?.getD 0=y at hy hs hxs ⊢
  have e1:IntKind.i64.wrap (IntKind.i64.wrap ((x:Int)+(y:Int))+(cy:Int))=((x+y+cy:Nat):Int):=by
   rw [i64_wrap_add,i64_wrap (by omega) (by omega)]; omega
  have e2:Int.tmod ((x+y+cy:Nat):Int) 10=(((x+y+cy) % 10:Nat):Int):=by
   rw [Int.tmod_eq_emod_of_nonneg (by omega)]; omega
  have e3:IntKind.i64.wrap (Int.tdiv ((x+y+cy:Nat):Int) 10)=(((x+y+cy) / 10:Nat):Int):=by
   rw [Int.tdiv_eq_ediv_of_nonneg (by omega),i64_wrap (by omega) (by omega)]; omega
  rw [e1,e2,e3]
  refine app_int (xs:=out.map fun d:Nat=>(d:Int)) ho (by omega) fun p' c' w' ho' hu' hf'=>⟨_,_,_,rfl,by decide,?_⟩
  rw [i64_wrap (by omega) (by omega)]
  rw [dg_snoc] at ho'
  refine ⟨⟨out++[(x+y+cy) % 10],(x+y+cy) / 10,by simp,by simp,rfl,by omega,?_,?_,by simp; omega,?_,ho',hu.fresh hu' fun i hi=>hf i hi,fun k hk=>?_⟩,?_⟩
  ·intro z hz
   rcases List.mem_append.1 hz with hz | hz
   ·exact hdo z hz
   ·simp at hz; subst hz; omega
  ·have hlen1:(out++[(x+y+cy) % 10]).length=out.length+1:=by simp
   rw [hlen1,hs,dval_append,Nat.pow_succ]
   have h10:10 ^ out.length * ((x+y+cy) % 10+10 * ((x+y+cy) / 10))=10 ^ out.length * (x+y+cy):=by rw [Nat.mod_add_div]
   simp only [Nat.mul_add,← Nat.mul_assoc] at h10
   simp only [dval,Nat.mul_zero,Nat.add_zero]
   omega
  ·intro h
   have hlen1:(out++[(x+y+cy) % 10]).length=out.length+1:=by simp
   rw [hlen1] at h
   obtain ⟨rfl,rfl⟩:=hxs h
   omega
  ·rcases hf' k hk with h | h
   ·exact hf k h
   ·exact Nat.le_trans hu.size h
  ·show max n m+2 - _ < max n m+2 - _
   omega)
theorem num_cell0 {x:Int} (h:0≤x):decide (x < 0)=false:=decide_eq_false (by omega)
theorem plus_spec {v u:Value} {x y:Int} (hx:NumAt w v x) (hy:NumAt w u y) (hx0:0≤x) (hy0:0≤y) (hxl:(digs x.natAbs).length≤10000) (hyl:(digs y.natAbs).length≤10000)
  (hK:∀ v' w',NumAt w' v' (x+y)→Upd Nothing w w'→K v' w'):Cv F.z12 #[v,u] w K:=by
 obtain ⟨p,c,rfl,hp⟩:=hx
 obtain ⟨q,d,rfl,hq⟩:=hy
 rw [num_cell0 hx0,num_cell0 hy0]
 refine R.z12 ?_
 unfold C.z12
 refine New.use (by simp [Value.oneCell']) fun g1 w1 hb1 hu1 hge1 _=>New.use (by simp [Value.oneCell']) fun g2 w2 hb2 hu2 hge2 _=>New.use (by simp [Value.oneCell']) fun g3 w3 hb3 hu3 hge3 _=>?_
 have hu13:=(hu1.then hu2).then hu3
 have hb13:=(hu2.then hu3).blk hb1 fun f=>f
 have hb23:=hu3.blk hb2 fun f=>f
 refine ⟨_,hb13.cell (i:=0) rfl,_,hb23.cell (i:=0) rfl,ifB_mk (fun _=>?_) (fun h=>by cases h)⟩
 have hud:=hu13.then (Upd.drew _ _)
 refine ⟨_,hb13.drew.cell (i:=0) rfl,_,_,_,hb13.drew.cell (i:=1) rfl,_,_,_,hb23.drew.cell (i:=1) rfl,?_⟩
 refine add_spec (hp.at.upd0 hud) rfl (by omega) (digs_lt _) (hq.at.upd0 hud) rfl (by omega) (digs_lt _) fun p' c' out w4 ho hdo hv hlen hu4=>⟨_,_,_,rfl,(hu4.blk hb13.drew fun f=>f).cell (i:=0) rfl,?_⟩
 refine sign_spec ho rfl (by omega) hdo fun v5 w5 hnum hu5=>?_
 rw [if_neg (by decide),hv,dval_digs,dval_digs] at hnum
 have hxy:((x.natAbs+y.natAbs:Nat):Int)=x+y:=by omega
 rw [hxy] at hnum
 have hnum':=hnum
 obtain ⟨rp,rc,rfl,hro⟩:=hnum
 have hu45:=((Upd.drew Nothing w3).then hu4).then hu5
 have hb5:=hu45.blk hb3 fun f=>f
 refine ⟨_,_,_,_,rfl,set_two rfl rfl hb5 fun w7 hb7 hu7=>⟨_,_,_,_,two_cells hb7,hK _ w7 (hnum'.one hb5 (by decide) hu7) ((hu13.then hu45).fresh hu7 fun i hi=>?_)⟩⟩
 rw [show i=g3 from hi]
 have:=(hu1.then hu2).size
 omega
theorem emod_of {x n r q:Int} (h:x=r+n * q) (h0:0≤r) (h1:r < n):x % n=r:=by
 rw [h,Int.add_mul_emod_self_left,Int.emod_eq_of_lt h0 h1]
theorem mod_spec {a b:Int} (ha : -9223372036854775808≤a∧a≤9223372036854775807) (hb:1≤b∧b≤9223372036854775807) (hK:∀ w',Upd Nothing w w'→K (.tuple #[.int .i64 (a % b),.int .i64 0]) w'):Cv F.z51 #[.int .i64 a,.int .i64 b] w K:=
 R.z51 (by
  unfold C.z51
  refine ifB_mk (fun h=>by have:=beq_iff_eq.1 h; omega) (fun _=>R.z53 (by
   unfold C.z53
   refine ifB_mk (fun h=>by have:=beq_iff_eq.1 h; omega) (fun _=>ifB_mk (fun h=>by have:=beq_iff_eq.1 h; omega) (fun _=>⟨by omega,by omega,?_⟩))
   have hm:=Int.mul_tdiv_add_tmod a b
   have hlt:Int.tmod a b < b:=Int.tmod_lt_of_pos a (by omega)
   have hgt : -b < Int.tmod a b:=by
    by_cases h:0≤a
    ·have:=Int.tmod_nonneg b h; omega
    ·have h2:=Int.tmod_lt_of_pos (-a) (show 0 < b by omega)
     rw [Int.neg_tmod] at h2
     omega
   have hud:Upd Nothing w w.drew:=Upd.drew _ _
   have key0:0≤Int.tmod a b→Int.tmod a b=a % b:=fun h=>(emod_of (q:=Int.tdiv a b) (by omega) h hlt).symm
   refine ifB_mk (fun h1=>ifB_mk (fun h2=>?_) (fun h2=>?_)) (fun h1=>?_)
   ·have hneg:Int.tmod a b < 0:=by
     rcases Int.lt_or_le (Int.tmod a b) 0 with h | h
     ·exact h
     ·have e1:decide (Int.tmod a b < 0)=false:=decide_eq_false (by omega)
      have e2:decide (b < 0)=false:=decide_eq_false (by omega)
      rw [e1,e2] at h2
      simp at h2
    rw [i64_wrap (n:=Int.tmod a b+b) (by omega) (by omega)]
    refine ⟨_,_,_,rfl,?_⟩
    have:a % b=Int.tmod a b+b:=emod_of (q:=Int.tdiv a b - 1) (by rw [Int.mul_sub,Int.mul_one]; omega) (by omega) (by omega)
    rw [← this]
    exact hK _ hud
   ·have hpos:0≤Int.tmod a b:=by
     rcases Int.lt_or_le (Int.tmod a b) 0 with h | h
     ·have e1:decide (Int.tmod a b < 0)=true:=decide_eq_true h
      have e2:decide (b < 0)=false:=decide_eq_false (by omega)
      rw [e1,e2] at h2
      simp at h2
     ·exact h
    rw [key0 hpos]
    exact ⟨_,_,_,rfl,hK _ hud⟩
   ·have hz:Int.tmod a b=0:=by simpa using h1
    rw [key0 (by omega)]
    exact ⟨_,_,_,rfl,hK _ hud⟩)))
end
end Ca
end Go.Proofs.YtjcgociobhhijaaGreatDoor
namespace Go.Proofs.YtjcgociobhhijaaGreatDoor
open Go SX Va Sc
namespace Ca
def wsum:Nat→List UInt8→Nat
 | _,[]=>0
 | i,b :: l=>(i+1) * b.toNat+wsum (i+1) l
theorem wsum_snoc:∀ (i:Nat) (l:List UInt8) (b:UInt8),wsum i (l++[b])=wsum i l+(i+l.length+1) * b.toNat
 | i,[],b=>by simp [wsum]
 | i,x :: l,b=>by
  simp only [List.cons_append,wsum,List.length_cons]
  rw [wsum_snoc (i+1) l b,show i+1+l.length+1=i+(l.length+1)+1 by omega]
  omega
theorem wsum_le:∀ (i:Nat) (l:List UInt8),i+l.length≤300→wsum i l≤76500 * l.length
 | i,[],_=>by simp [wsum]
 | i,x :: l,h=>by
  simp only [wsum,List.length_cons] at h ⊢
  have h1:=wsum_le (i+1) l (by omega)
  have h2:(i+1) * x.toNat≤300 * 255:=Nat.mul_le_mul (by omega) (by have:=x.toNat_lt; omega)
  omega
def total (v:Val):Int:=v.n+(if v.k=2 then (wsum 0 v.s.data.toList:Int) else 0)
def spreadV (v:Val) (n:Int):Int:=total v % n
section
variable {w:World} {K:Value→World→Prop} {p q:Option Addr} {n c m d:Nat} {v:Val}
theorem spread_spec {N:Int} (hr:v.right=true) (hw:Va.Val.wf v) (hN:1≤N∧N≤9223372036854775807) (hK:∀ w',Upd Nothing w w'→K (.int .i64 (spreadV v N)) w'):Cv F.z185 #[v.val,.int .i64 N] w K:=
 R.z185 (by
  unfold C.z185
  refine New.use (by simp [Value.oneCell']) fun g1 w1 hb1 hu1 hge1 _=>ifB_mk (fun h=>by have:=of_decide_eq_true h; omega) (fun _=>⟨_,hb1.cell (i:=1) rfl,_,hb1.cell (i:=0) rfl,ifB_mk (fun h=>?_) (fun h=>?_)⟩)
  ·have hk2:v.k=2:=beq_iff_eq.1 h
   have hg:=good_kinds hr
   have hv0:v.n=0∧v.s.size≤200:=by
    rcases hg with h | h | h
    ·have:=h.1; omega
    ·exact h.2
    ·have:=h.1; omega
   have hlen:v.s.data.toList.length=v.s.size:=rfl
   refine ⟨_,hb1.cell (i:=2) rfl,conv_text Va.und_str Va.su8.desc Va.und_u8 fun cp cc w2 hat2 hu2=>⟨cp,_,cc,rfl,?_⟩⟩
   refine ⟨fun sum i w'=>w'=w2∧∃ k:Nat,i=k∧k≤v.s.size∧sum=(wsum 0 (v.s.data.toList.take k):Int),fun _ i _=>v.s.size - i.toNat,⟨rfl,0,rfl,by omega,by rw [hv0.1]; rfl⟩,?_⟩
   rintro sum i w3 ⟨rfl,k,rfl,hk,rfl⟩
   have hle:=wsum_le 0 (v.s.data.toList.take k) (by simp; omega)
   have hle':wsum 0 (v.s.data.toList.take k)≤76500 * 200:=Nat.le_trans hle (Nat.mul_le_mul_left _ (by simp; omega))
   refine ifB_mk (fun h1=>?_) (fun h1=>?_)
   ·have hkn:k < v.s.size:=by have:=of_decide_eq_true h1; omega
    obtain ⟨a,ha,hc⟩:=hat2 k _ (bytesV_get (by rw [hlen]; exact hkn))
    refine ⟨a,ha,by omega,by omega,((v.s.data.toList[k]'(by rw [hlen]; exact hkn)).toNat:Int),by simpa using hc,?_⟩
    have hb:=(v.s.data.toList[k]'(by rw [hlen]; exact hkn)).toNat_lt
    have hsn:=wsum_snoc 0 (v.s.data.toList.take k) (v.s.data.toList[k]'(by rw [hlen]; exact hkn))
    rw [← List.take_succ_eq_append_getElem (by rw [hlen]; exact hkn)] at hsn
    have hl':(v.s.data.toList.take k).length=k:=by simp; omega
    rw [hl',Nat.zero_add] at hsn
    generalize (v.s.data.toList[k]'(by rw [hlen]; exact hkn)).toNat=b at hb hsn ⊢
    have hm:(k+1) * b≤201 * 256:=Nat.mul_le_mul (by omega) (by omega)
    have e1:IntKind.i64.wrap ((k:Int)+1)=((k+1:Nat):Int):=by rw [i64_wrap (by omega) (by omega)]; omega
    have e2:IntKind.i64.wrap (b:Int)=(b:Int):=i64_wrap (by omega) (by omega)
    have e3:IntKind.i64.wrap (((k+1:Nat):Int) * (b:Int))=(((k+1) * b:Nat):Int):=by rw [← Int.natCast_mul]; exact i64_wrap (by omega) (by omega)
    rw [e1,e2,e3,i64_wrap (by omega) (by omega)]
    refine ⟨⟨rfl,k+1,rfl,by omega,by omega⟩,by show v.s.size - _ < v.s.size - _; omega⟩
   ·have hkn:k=v.s.size:=by have:=of_decide_eq_false h1; omega
    subst hkn
    have hall:v.s.data.toList.take v.s.size=v.s.data.toList:=List.take_of_length_le (by rw [hlen]; exact Nat.le_refl _)
    rw [hall] at hle' ⊢
    refine mod_spec (by omega) hN fun w4 hu4=>⟨_,_,rfl,?_⟩
    have:spreadV v N=(wsum 0 v.s.data.toList:Int) % N:=by unfold spreadV total; rw [if_pos hk2,hv0.1,Int.zero_add]
    rw [← this]
    exact hK _ ((hu1.then hu2).then hu4)
  ·have hk2:v.k≠2:=by simpa using h
   refine mod_spec hw.2.1 hN fun w4 hu4=>⟨_,_,rfl,?_⟩
   have:spreadV v N=v.n % N:=by unfold spreadV total; rw [if_neg hk2,Int.add_zero]
   rw [← this]
   exact hK _ (hu1.then hu4))
theorem left_loop {X:Int} {N g:Nat} (hb:Blk w g [.bool (decide (X < 0)),.slice p (digs X.natAbs).length c] T.affluxref01_Num) (hat:At w p (dg (digs X.natAbs))) (hl:(digs X.natAbs).length≤10000) (hN:1≤N∧N≤1000000) (hK:K (.int .i64 (X % (N:Int))) w) :
  ∃ (D1p:Option Addr) (D1n D1c:Nat),
  w.cell? ((Addr.mk g 0 none).add 1)=some (.slice D1p D1n D1c)∧
  ∃ (Iv2:Int→Int→World→Prop) (m2:Int→Int→World→Nat),
  Iv2 0 (IntKind.i64.wrap (((D1n:Nat):Int) - (1:Int))) w∧
  ∀ (left1:Int) (i2:Int) wv11,Iv2 left1 i2 wv11→
  ifB (decide ((0:Int)≤i2)) (
   ∃ (D2p:Option Addr) (D2n D2c:Nat),
   wv11.cell? ((Addr.mk g 0 none).add 1)=some (.slice D2p D2n D2c)∧
   ∃ a1,D2p=some a1∧0≤i2∧i2 < ((D2n:Nat):Int)∧
   ∃ (e1:Int),
   wv11.cell? (a1.add (i2.toNat * 1))=some (.int .i64 e1)∧
   (N:Int)≠0∧
   Iv2 (Int.tmod (IntKind.i64.wrap ((IntKind.i64.wrap ((10:Int) * left1))+e1)) (N:Int)) (IntKind.i64.wrap (i2 - (1:Int))) wv11∧m2 (Int.tmod (IntKind.i64.wrap ((IntKind.i64.wrap ((10:Int) * left1))+e1)) (N:Int)) (IntKind.i64.wrap (i2 - (1:Int))) wv11 < m2 left1 i2 wv11) (
   ∃ (Neg1:Bool),
   wv11.cell? ((Addr.mk g 0 none).add 0)=some (.bool Neg1)∧
   ifB Neg1 (
    ifB (decide ((0:Int) < left1)) (
     K (.int .i64 (IntKind.i64.wrap ((N:Int) - left1))) wv11) (
     K (.int .i64 left1) wv11)) (
    K (.int .i64 left1) wv11)):=by
 refine ⟨_,_,_,hb.cell (i:=1) rfl,fun left i w'=>w'=w∧∃ k:Nat,i=(k:Int) - 1∧k≤(digs X.natAbs).length∧left=((dval ((digs X.natAbs).drop k) % N:Nat):Int),fun _ i _=>(i+1).toNat,⟨rfl,(digs X.natAbs).length,by rw [i64_wrap (by omega) (by omega)],Nat.le_refl _,by rw [List.drop_length]; simp [dval]⟩,?_⟩
 rintro left i w1 ⟨rfl,k,rfl,hk,rfl⟩
 have hlt:dval ((digs X.natAbs).drop k) % N < N:=Nat.mod_lt _ (by omega)
 refine ifB_mk (fun h=>?_) (fun h=>?_)
 ·have h0:=of_decide_eq_true h
  obtain ⟨j,rfl⟩:∃ j,k=j+1:=⟨k - 1,by omega⟩
  have hj:((j+1:Nat):Int) - 1=(j:Int):=by omega
  rw [hj]
  have hjl:j < (digs X.natAbs).length:=by omega
  obtain ⟨a,ha,hc⟩:=hat j _ (dg_get hjl)
  have hd:=digs_lt X.natAbs _ (List.getElem_mem hjl)
  refine ⟨_,_,_,hb.cell (i:=1) rfl,a,ha,by omega,by omega,((digs X.natAbs)[j]:Int),by simpa using hc,by omega,?_⟩
  have hdr:(digs X.natAbs).drop j=(digs X.natAbs)[j] :: (digs X.natAbs).drop (j+1):=List.drop_eq_getElem_cons hjl
  have hv:dval ((digs X.natAbs).drop j) % N=(10 * (dval ((digs X.natAbs).drop (j+1)) % N)+(digs X.natAbs)[j]) % N:=by
   rw [hdr]
   show ((digs X.natAbs)[j]+10 * dval ((digs X.natAbs).drop (j+1))) % N=_
   have h10:10 * dval ((digs X.natAbs).drop (j+1)) % N=10 * (dval ((digs X.natAbs).drop (j+1)) % N) % N:=by rw [Nat.mul_mod 10 (dval _),Nat.mul_mod 10 (dval _ % N),Nat.mod_mod]
   rw [Nat.add_comm,Nat.add_mod,h10,← Nat.add_mod]
  generalize (digs X.natAbs)[j]=e at hd hv ⊢
  generalize dval ((digs X.natAbs).drop (j+1)) % N=l at hlt hv ⊢
  have e1:IntKind.i64.wrap (IntKind.i64.wrap ((10:Int) * (l:Int))+(e:Int))=((10 * l+e:Nat):Int):=by
   rw [i64_wrap_add,i64_wrap (by omega) (by omega)]; omega
  have e2:Int.tmod ((10 * l+e:Nat):Int) (N:Int)=(((10 * l+e) % N:Nat):Int):=by
   rw [Int.tmod_eq_emod_of_nonneg (by omega),Int.natCast_emod]
  rw [e1,e2,i64_wrap (by omega) (by omega)]
  refine ⟨⟨rfl,j,by omega,by omega,by rw [hv]⟩,by show Int.toNat _ < Int.toNat _; omega⟩
 ·have hk0:k=0:=by have:=of_decide_eq_false h; omega
  subst hk0
  rw [List.drop_zero,dval_digs] at hlt ⊢
  have hdm:=Nat.div_add_mod X.natAbs N
  have hdm':(X.natAbs:Int)=(N:Int) * ((X.natAbs / N:Nat):Int)+((X.natAbs % N:Nat):Int):=by rw [← Int.natCast_mul]; omega
  refine ⟨_,hb.cell (i:=0) rfl,ifB_mk (fun h1=>?_) (fun h1=>?_)⟩
  ·have hneg:=of_decide_eq_true h1
   refine ifB_mk (fun h2=>?_) (fun h2=>?_)
   ·have h2':=of_decide_eq_true h2
    rw [i64_wrap (by omega) (by omega)]
    have:X % (N:Int)=(N:Int) - ((X.natAbs % N:Nat):Int):=emod_of (q:=-((X.natAbs / N:Nat):Int) - 1) (by rw [Int.mul_sub,Int.mul_neg,Int.mul_one]; omega) (by omega) (by omega)
    rw [← this]
    exact hK
   ·have h2':=of_decide_eq_false h2
    have:X % (N:Int)=((X.natAbs % N:Nat):Int):=emod_of (q:=-((X.natAbs / N:Nat):Int)) (by rw [Int.mul_neg]; omega) (by omega) (by omega)
    rw [← this]
    exact hK
  ·have hpos:=of_decide_eq_false h1
   have:X % (N:Int)=((X.natAbs % N:Nat):Int):=emod_of (q:=((X.natAbs / N:Nat):Int)) (by omega) (by omega) (by omega)
   rw [← this]
   exact hK
theorem digs_small {x:Int} (h:x.natAbs < 10 ^ 19):(digs x.natAbs).length≤10000:=by have:=digs_length_le h; omega
theorem rspread_spec {N:Nat} (hr:v.right=true) (hw:Va.Val.wf v) (hN:1≤N∧N≤1000000) (hK:∀ w',Upd Nothing w w'→K (.int .i64 (spreadV v (N:Int))) w'):Cv F.z25 #[v.val,.int .i64 (N:Int)] w K:=
 R.z25 (by
  unfold C.z25
  have hlen:v.s.data.toList.length=v.s.size:=rfl
  have hg:=good_kinds hr
  refine New.use (by simp [Value.oneCell']) fun g1 w1 hb1 hu1 hge1 hlt1=>⟨_,hb1.cell (i:=1) rfl,of_spec hw.2.1 fun u w2 hnum hu2=>?_⟩
  obtain ⟨p,c,rfl,ho⟩:=hnum
  refine ⟨_,_,_,_,rfl,New.use (by simp [Value.oneCell']) fun g3 w3 hb3 hu3 hge3 _=>set_two rfl rfl hb3 fun w5 hb5 hu5=>?_⟩
  have hu35:Upd Nothing w2 w5:=hu3.fresh hu5 fun i hi=>by rw [show i=g3 from hi]; exact hge3
  have hu15:=hu2.then hu35
  refine ⟨fun i w'=>∃ (k:Nat) (X:Int) (p:Option Addr) (c:Nat),i=k∧k≤v.s.size∧X=v.n+(wsum 0 (v.s.data.toList.take k):Int)∧(0 < k→v.k=2)∧Blk w' g3 [.bool (decide (X < 0)),.slice p (digs X.natAbs).length c] T.affluxref01_Num∧Own w' T.int 1 p (digs X.natAbs).length c (dg (digs X.natAbs))∧Upd Nothing w1 w',
   fun i _=>v.s.size - i.toNat,⟨0,v.n,p,c,rfl,by omega,by simp [wsum],fun h=>by omega,hb5,ho.upd0 hu35,hu15⟩,?_⟩
  rintro i w6 ⟨k,X,p,c,rfl,hk,hX,hk2,hb6,ho6,hu6⟩
  have hb16:=hu6.blk hb1 fun f=>f
  have hXb:X.natAbs < 10 ^ 19:=by
   have h1:=hw.2.1
   by_cases h0:0 < k
   ·rcases hg with h | h | h
    ·have:=h.1; have:=hk2 h0; omega
    ·have h2:=wsum_le 0 (v.s.data.toList.take k) (by simp; omega)
     have h3:wsum 0 (v.s.data.toList.take k)≤76500 * 200:=Nat.le_trans h2 (Nat.mul_le_mul_left _ (by simp; omega))
     have:=h.2.1
     show X.natAbs < 10000000000000000000
     omega
    ·have:=h.1; have:=hk2 h0; omega
   ·have:k=0:=by omega
    subst this
    have:wsum 0 (v.s.data.toList.take 0)=0:=rfl
    show X.natAbs < 10000000000000000000
    omega
  refine ⟨_,hb16.cell (i:=2) rfl,ifB_mk (fun h=>⟨_,hb16.cell (i:=0) rfl,ifB_mk (fun h1=>?_) (fun h1=>?_)⟩) (fun h=>?_)⟩
  ·have hkn:k < v.s.size:=by have:=of_decide_eq_true h; omega
   have hv2:v.k=2:=beq_iff_eq.1 h1
   have hv0:v.n=0∧v.s.size≤200:=by
    rcases hg with h | h | h
    ·have:=h.1; omega
    ·exact h.2
    ·have:=h.1; omega
   have hX0:0≤X:=by omega
   have hud:=Upd.drew Nothing w6
   have hb:=(v.s.data.toList[k]'(by rw [hlen]; exact hkn)).toNat_lt
   have hsn:=wsum_snoc 0 (v.s.data.toList.take k) (v.s.data.toList[k]'(by rw [hlen]; exact hkn))
   rw [← List.take_succ_eq_append_getElem (by rw [hlen]; exact hkn)] at hsn
   have hl':(v.s.data.toList.take k).length=k:=by simp; omega
   rw [hl',Nat.zero_add] at hsn
   refine ⟨_,_,_,_,two_cells hb6.drew,_,hb16.drew.cell (i:=2) rfl,by omega,by omega,?_⟩
   rw [bt_get hkn]
   generalize (v.s.data.toList[k]'(by rw [hlen]; exact hkn)).toNat=b at hb hsn ⊢
   have hm:(k+1) * b≤201 * 256:=Nat.mul_le_mul (by omega) (by omega)
   have e1:IntKind.i64.wrap ((k:Int)+1)=((k+1:Nat):Int):=by rw [i64_wrap (by omega) (by omega)]; omega
   have e2:IntKind.i64.wrap (b:Int)=(b:Int):=i64_wrap (by omega) (by omega)
   have e3:IntKind.i64.wrap (((k+1:Nat):Int) * (b:Int))=(((k+1) * b:Nat):Int):=by rw [← Int.natCast_mul]; exact i64_wrap (by omega) (by omega)
   rw [e1,e2,e3]
   refine of_spec (by omega) fun u7 w7 hnum7 hu7=>?_
   have hnum7':=hnum7
   obtain ⟨p7,c7,rfl,ho7⟩:=hnum7
   refine ⟨_,_,_,_,rfl,two_cells (hu7.blk hb6.drew fun f=>f),?_⟩
   have hu67:=hud.then hu7
   refine plus_spec (x:=X) (y:=(((k+1) * b:Nat):Int)) ⟨p,c,rfl,ho6.upd0 hu67⟩ hnum7' hX0 (by omega) (digs_small hXb) (digs_small (by show _ < 10000000000000000000; omega)) fun u8 w8 hnum8 hu8=>?_
   obtain ⟨p8,c8,rfl,ho8⟩:=hnum8
   have hb8:=(hu67.then hu8).blk hb6 fun f=>f
   refine ⟨_,_,_,_,rfl,set_two rfl rfl hb8 fun w10 hb10 hu10=>?_⟩
   refine ⟨⟨k+1,X+(((k+1) * b:Nat):Int),p8,c8,rfl,by omega,by omega,fun _=>hv2,hb10,ho8.upd hu10 (own_one ho8 hb8 (by decide)),(hu6.then (hu67.then hu8)).fresh hu10 fun i hi=>?_⟩,by show v.s.size - _ < v.s.size - _; omega⟩
   rw [show i=g3 from hi]
   exact Nat.le_trans hu2.size hge3
  ·have hv2:v.k≠2:=by simpa using h1
   have hk0:k=0:=by
    rcases Nat.eq_zero_or_pos k with h | h
    ·exact h
    ·exact absurd (hk2 h) hv2
   subst hk0
   have hXv:X % (N:Int)=spreadV v (N:Int):=by unfold spreadV total; rw [if_neg hv2,hX]; simp [wsum]
   exact left_loop hb6 ho6.at (digs_small hXb) hN (by rw [hXv]; exact hK _ (hu1.then hu6))
  ·have hkn:k=v.s.size:=by have:=of_decide_eq_false h; omega
   subst hkn
   have hall:v.s.data.toList.take v.s.size=v.s.data.toList:=List.take_of_length_le (by rw [hlen]; exact Nat.le_refl _)
   have hXv:X % (N:Int)=spreadV v (N:Int):=by
    unfold spreadV total
    rw [hX,hall]
    by_cases hv2:v.k=2
    ·rw [if_pos hv2]
    ·rw [if_neg hv2]
     have:v.s.size=0:=by
      rcases Nat.eq_zero_or_pos v.s.size with h | h
      ·exact h
      ·exact absurd (hk2 h) hv2
     have:v.s.data.toList=[]:=List.length_eq_zero_iff.1 (by rw [hlen,this])
     rw [this]
     rfl
   exact left_loop hb6 ho6.at (digs_small hXb) hN (by rw [hXv]; exact hK _ (hu1.then hu6)))
end
end Ca
end Go.Proofs.YtjcgociobhhijaaGreatDoor
namespace Go.Proofs.YtjcgociobhhijaaGreatDoor
open Go SX
namespace Sc
theorem sstr:SliceT prog T.s_string T.string 1 16 [.string ByteArray.empty]:=SliceT.of_tab (ti:=ti130) (te:=ti9) tabOK (by kernel_rfl) (by kernel_rfl) (by kernel_rfl) (by kernel_rfl)
def strs (l:List ByteArray):List Value:=l.map Value.string
@[simp] theorem strs_length (l:List ByteArray):(strs l).length=l.length:=by simp [strs]
theorem strs_get {l:List ByteArray} {i:Nat} (h:i < l.length):(strs l)[i]? = some (.string l[i]):=by simp [strs,h]
theorem strs_append (a b:List ByteArray):strs (a++b)=strs a++strs b:=by simp [strs]
section
variable {w:World} {K:Value→World→Prop} {p:Option Addr} {n c:Nat}
theorem app_str {x:ByteArray} {xs:List ByteArray} (ho:Own w T.string 1 p n c (strs xs)) (hsz:n+1≤1099511627776)
  (hK:∀ p' c' w',Own w' T.string 1 p' (n+1) c' (strs (xs++[x]))→Upd (Fp p c) w w'→(∀ k,Fp p' c' k→Fp p c k∨w.heap.size≤k)→K (.slice p' (n+1) c') w') :
  ∀ g w1,New w (.cells #[.string x] T.string) g w1→BuiltV prog .append #[T.s_string,T.s_string] T.s_string #[.slice p n c,.slice (some (Addr.mk g 0 none)) 1 1] w1 K:=by
 refine New.use (by simp [Value.oneCell']) fun g w1 hb hu hge _=>?_
 refine append_own (m:=1) sstr (.inl sstr.desc) (ho.upd0 hu) (Src.slice (m:=1) (ys:=[.string x]) (At.of_blk hb fun j v hj=>by rw [Nat.zero_add]; exact hj) rfl (by simp [Value.oneCell'])) (by decide) (by decide) (by omega) fun p' c' w' ho' hu' hf'=>?_
 refine hK p' c' w' (by rw [strs_append]; exact ho') (hu.trans hu' (fun _ _ h=>h.elim) (fun _ _ h=>h)) fun k hk=>?_
 rcases hf' k hk with h | h
 ·exact .inl h
 ·exact .inr (Nat.le_trans hu.size h)
end
end Sc
end Go.Proofs.YtjcgociobhhijaaGreatDoor
namespace Go.Proofs.YtjcgociobhhijaaGreatDoor
open Go SX Va Ca
namespace Sc
def skeysN (s:Schm) (row:List Val) (k:Nat):List ByteArray:=(List.range k).map fun i=>if h:i < s.ixs.length then tx (skey s i h row) else ⟨#[]⟩
def skeys (s:Schm) (row:List Val):List ByteArray:=skeysN s row s.ixs.length
@[simp] theorem skeysN_length (s:Schm) (row:List Val) (k:Nat):(skeysN s row k).length=k:=by simp [skeysN]
@[simp] theorem skeys_length (s:Schm) (row:List Val):(skeys s row).length=s.ixs.length:=by simp [skeys]
theorem skeysN_succ {s:Schm} {row:List Val} {k:Nat} (h:k < s.ixs.length):skeysN s row (k+1)=skeysN s row k++[tx (skey s k h row)]:=by
 unfold skeysN
 rw [List.range_succ,List.map_append,List.map_cons,List.map_nil,dif_pos h]
theorem skeys_get {s:Schm} {row:List Val} {i:Nat} (h:i < s.ixs.length) (h':i < (skeys s row).length):(skeys s row)[i]=tx (skey s i h row):=by
 simp [skeys,skeysN,h]
theorem pick_in {s:Schm} {row:List Val} {i:Nat} (hi:i < s.ixs.length) (hr:s.Right) (hf:FitsP s.cols row):pickB row s.ixs[i].cols=true:=by
 unfold pickB
 rw [List.all_eq_true]
 intro c hc
 have h1:=(hr.2.2.1.1 _ (List.getElem_mem hi)).1 c hc
 have h2:=hf.1
 simp only [Bool.and_eq_true,decide_eq_true_eq]
 omega
theorem pick_right {row:List Val} {ps:List Int} (hall:row.all Val.right=true) (hin:pickB row ps=true):(pk row ps).all Val.right=true:=by
 unfold pk
 rw [if_pos hin,List.all_eq_true]
 intro x hx
 obtain ⟨c,hc,rfl⟩:=List.mem_map.1 hx
 have h1:=List.all_eq_true.1 hin c hc
 simp only [Bool.and_eq_true,decide_eq_true_eq] at h1
 unfold pickV
 rw [List.getElem?_eq_getElem (by omega)]
 exact List.all_eq_true.1 hall _ (List.getElem_mem _)
theorem keyText_right {xs:List Val} (h:xs.all Val.right=true):keyText xs=tx (vkeys xs):=by unfold keyText; rw [if_pos h]
section
variable {w:World} {K:Value→World→Prop} {p q:Option Addr} {n c m d:Nat} {s t:Schm} {v u:Value} {row:List Val} {index:Int}
theorem rkey3_spec {i:Nat} (hi:i < s.ixs.length) (hs:SchEx w s v) (hright:s.Right) (hf:FitsP s.cols row) (hsm:∀ x∈s.ixs,x.cols.length≤1000) (hr:At w q (vals row)) (hrl:row.length=m) (hm:m≤9223372036854775806)
  (hK:∀ w',Upd Nothing w w'→K (.string (tx (skey s i hi row))) w'):Cv F.z28 #[v,.int .i64 (i:Nat),.slice q m d] w K:=by
 obtain ⟨cp,cc,ip,ic,rfl,hcols,hcc,hixs,hic⟩:=hs
 have hp0:0 < s.ixs.length:=by omega
 have hall:∀ j (hj:j < s.ixs.length),(pk row s.ixs[j].cols).all Val.right=true:=fun j hj=>pick_right hf.2.1 (pick_in hj hright hf)
 refine R.z28 ?_
 unfold C.z28
 refine New.use (by simp [Value.oneCell']) fun g w1 hb1 hu1 hge1 _=>?_
 obtain ⟨a,q1,n1,c1,ha,hcl,hat1,hl1,hc1⟩:=(hixs.upd0 hu1) i hi
 have hsi:=hsm _ (List.getElem_mem hi)
 refine ⟨_,_,_,hb1.cell (i:=2) rfl,a,ha,by omega,by omega,_,_,_,hcl.1,rpick_spec (hr.upd0 hu1) hrl hm hat1 hl1 (by omega) (pick_in hi hright hf) fun p2 n2 c2 w2 hat2 hl2 hu2=>⟨_,_,_,rfl,?_⟩⟩
 have hpl:=pk_length row s.ixs[i].cols
 refine rkeys_spec hat2 hl2 (by omega) (hall i hi) fun w3 hu3=>⟨_,rfl,?_⟩
 have hu13:=hu2.then hu3
 have hb3:=hu13.blk hb1 fun f=>f
 have hfin:=hK
 unfold skey at hfin
 rw [keyText_right (hall i hi),keyText_right (hall 0 hp0)] at hfin
 refine ⟨_,_,_,hb3.cell (i:=2) rfl,a,ha,by omega,by omega,_,hu13.cell hcl.2.1 fun f=>f,ifB_mk (fun h=>?_) (fun h=>?_)⟩
 ·have hun:s.ixs[i].unique=false:=by simpa using h
  obtain ⟨a0,q0,n0,c0,ha0,hcl0,hat0,hl0,hc0⟩:=(hixs.upd0 (hu1.then hu13)) 0 hp0
  have hs0:=hsm _ (List.getElem_mem hp0)
  have hpl0:=pk_length row s.ixs[0].cols
  refine ⟨_,_,_,hb3.cell (i:=2) rfl,a0,ha0,by omega,by omega,_,_,_,hcl0.1,rpick_spec (hr.upd0 (hu1.then hu13)) hrl hm hat0 hl0 (by omega) (pick_in hp0 hright hf) fun p4 n4 c4 w4 hat4 hl4 hu4=>⟨_,_,_,rfl,?_⟩⟩
  refine rkeys_spec hat4 hl4 (by omega) (hall 0 hp0) fun w5 hu5=>⟨_,rfl,?_,?_⟩
  ·have h1:=keyText_size (xs:=pk row s.ixs[i].cols) (by omega)
   have h2:=keyText_size (xs:=pk row s.ixs[0].cols) (by omega)
   rw [keyText_right (hall i hi)] at h1
   rw [keyText_right (hall 0 hp0)] at h2
   omega
  ·have:=hfin w5 (((hu1.then hu13).then hu4).then hu5)
   rw [if_neg (by rw [hun]; decide),← tx_app,tx_self,tx_self] at this
   exact this
 ·have hun:s.ixs[i].unique=true:=by simpa using h
  have:=hfin w3 (hu1.then hu13)
  rw [if_pos hun,List.append_nil,tx_self] at this
  exact this
theorem keys_spec (hM:MX w) (hs:SchAt w s v) (hsm:∀ x∈s.ixs,x.cols.length≤1000) (hr:At w q (vals row)) (hrl:row.length=m) (hm:m≤9223372036854775806)
  (hK1:∀ (e:Int) w',(¬ s.Right→e=1)→(s.Right→¬ FitsP s.cols row→e=13)→e≠0→¬ (s.Right∧FitsP s.cols row)→Upd Nothing w w'→K (.tuple #[.slice none 0 0,.int .i64 e]) w')
  (hK2:∀ p c w',s.Right→FitsP s.cols row→Own w' T.string 1 p s.ixs.length c (strs (skeys s row))→Upd Nothing w w'→(∀ k,Fp p c k→w.heap.size≤k)→K (.tuple #[.slice p s.ixs.length c,.int .i64 0]) w') :
  Cv F.z66 #[v,.slice q m d] w K:=by
 have hs0:=hs
 obtain ⟨⟨cp,cc,ip,ic,rfl,hcols,hcc,hixs,hic⟩,hs1,hs2,hs3⟩:=hs
 refine R.z66 ?_
 unfold C.z66
 refine New.use (by simp [Value.oneCell']) fun g w1 hb1 hu1 hge1 _=>⟨_,_,_,_,_,_,_,_,_,_,six_cells hb1,?_⟩
 have hin0:s.Right→InP s 0:=fun h=>⟨by omega,by have:=h.2.2.1.2.1.1; omega⟩
 refine checked_spec (s:=s) (hs0.upd0 hu1) (hr.upd0 hu1) hrl hm fun e w2 e1 e2 e3 hu2=>⟨e,rfl,ifB_mk (fun h=>?_) (fun h=>?_)⟩
 ·have h0:e≠0:=by simpa using h
  exact hK1 e w2 (fun h'=>e1 fun h=>h' h.1) (fun h'=>e2 h' (hin0 h')) h0 (fun h'=>h0 (e3 h'.1 (hin0 h'.1) h'.2)) (hu1.then hu2)
 have h0:e=0:=by simpa using h
 have hri:s.Right∧InP s 0:=Classical.byContradiction fun h'=>by have:=e1 h'; omega
 have hf:FitsP s.cols row:=Classical.byContradiction fun h'=>by have:=e2 hri.1 hri.2 h'; omega
 have hix4:=hri.1.2.2.1.2.1.2
 have hu12:=hu1.then hu2
 have hb2:=hu2.blk hb1 fun f=>f
 refine ⟨_,_,_,hb2.cell (i:=2) rfl,fun lp ln lc i w'=>∃ k:Nat,i=k∧k≤s.ixs.length∧ln=k∧Own w' T.string 1 lp ln lc (strs (skeysN s row k))∧Upd Nothing w2 w'∧∀ k,Fp lp lc k→w2.heap.size≤k,fun _ _ _ i _=>s.ixs.length - i.toNat,⟨0,rfl,by omega,rfl,Own.nil _ _ _,Upd.refl _ _,fun k hk=>by have:=hk.1; omega⟩,?_⟩
 rintro lp ln lc i w3 ⟨k,rfl,hk,rfl,ho,hu3,hfr⟩
 refine ifB_mk (fun h=>?_) (fun h=>?_)
 ·have hkn:ln < s.ixs.length:=by have:=of_decide_eq_true h; omega
  have hu13:=hu12.then hu3
  refine ⟨_,_,_,_,_,_,_,_,_,_,six_cells (hu3.blk hb2 fun f=>f),key_of hkn (hM.upd0 hu13) (hs0.upd0 hu13) hsm (hr.upd0 hu13) hrl hm fun w4 hu4=>⟨_,rfl,app_str (ho.upd0 hu4) (by omega) fun p' c' w' ho' hu' hf'=>⟨_,_,_,rfl,?_⟩⟩⟩
  rw [i64_wrap (by omega) (by omega)]
  refine ⟨⟨ln+1,by omega,by omega,rfl,by rw [skeysN_succ hkn]; exact ho',(hu3.then hu4).fresh hu' fun i hi=>hfr i hi,fun k hk=>?_⟩,by show s.ixs.length - _ < s.ixs.length - _; omega⟩
  rcases hf' k hk with h | h
  ·exact hfr k h
  ·exact Nat.le_trans (hu3.then hu4).size h
 ·have hkn:ln=s.ixs.length:=by have:=of_decide_eq_false h; omega
  subst hkn
  exact hK2 lp lc w3 hri.1 hf ho (hu12.then hu3) fun k hk=>Nat.le_trans hu12.size (hfr k hk)
theorem part3_spec (hs:SchAt w s v) (hr:At w q (vals row)) (hrl:row.length=m) (hm:m≤9223372036854775806) (hrw:∀ x∈row,Va.Val.wf x)
  (hK1:∀ (e:Int) w',(¬ s.Right→e=1)→(s.Right→¬ FitsP s.cols row→e=13)→e≠0→¬ (s.Right∧FitsP s.cols row)→Upd Nothing w w'→K (.tuple #[.int .i64 0,.int .i64 e]) w')
  (hK2:∀ w',s.Right→FitsP s.cols row→(h:s.by_.toNat < row.length)→Upd Nothing w w'→K (.tuple #[.int .i64 (spreadV (row[s.by_.toNat]'h) s.parts),.int .i64 0]) w') :
  Cv F.z67 #[v,.slice q m d] w K:=by
 have hs0:=hs
 obtain ⟨⟨cp,cc,ip,ic,rfl,hcols,hcc,hixs,hic⟩,hs1,hs2,hs3⟩:=hs
 refine R.z67 ?_
 unfold C.z67
 refine New.use (by simp [Value.oneCell']) fun g w1 hb1 hu1 hge1 _=>⟨_,_,_,_,_,_,_,_,_,_,six_cells hb1,?_⟩
 have hin0:s.Right→InP s 0:=fun h=>⟨by omega,by have:=h.2.2.1.2.1.1; omega⟩
 refine checked_spec (s:=s) (hs0.upd0 hu1) (hr.upd0 hu1) hrl hm fun e w2 e1 e2 e3 hu2=>⟨e,rfl,ifB_mk (fun h=>?_) (fun h=>?_)⟩
 ·have h0:e≠0:=by simpa using h
  exact hK1 e w2 (fun h'=>e1 fun h=>h' h.1) (fun h'=>e2 h' (hin0 h')) h0 (fun h'=>h0 (e3 h'.1 (hin0 h'.1) h'.2)) (hu1.then hu2)
 have h0:e=0:=by simpa using h
 have hri:s.Right∧InP s 0:=Classical.byContradiction fun h'=>by have:=e1 h'; omega
 have hf:FitsP s.cols row:=Classical.byContradiction fun h'=>by have:=e2 hri.1 hri.2 h'; omega
 have hud:=hu2.then (Upd.drew _ _)
 have hb2:=hud.blk hb1 fun f=>f
 have hby:=hri.1.2.2.2.2.2
 have hpa:=hri.1.2.2.2.2.1
 have hlen:=hf.1
 have hlt:s.by_.toNat < row.length:=by omega
 obtain ⟨a,ha,hcl⟩:=(hr.upd0 (hu1.then hud)).val hlt
 refine ⟨_,hb2.cell (i:=5) rfl,a,ha,by omega,by omega,_,_,_,hcl,_,hb2.cell (i:=4) rfl,?_⟩
 show Cv F.z185 #[(row[s.by_.toNat]'hlt).val,.int .i64 s.parts] w2.drew _
 exact spread_spec (List.all_eq_true.1 hf.2.1 _ (List.getElem_mem hlt)) (hrw _ (List.getElem_mem hlt)) (by omega) fun w3 hu3=>⟨_,rfl,hK2 w3 hri.1 hf hlt ((hu1.then hud).then hu3)⟩
end
end Sc
end Go.Proofs.YtjcgociobhhijaaGreatDoor
namespace Go.Proofs.YtjcgociobhhijaaGreatDoor.SX
open Go
def SlE {α:Type} (P:Option Addr→Nat→α→Prop) (xs:List Value) (l:List α):Prop:=xs.length=l.length∧∀ i (h:i < l.length),∃ q m d,xs[i]? = some (.slice q m d)∧P q m l[i]∧m≤d
section
variable {α:Type} {P Q:Option Addr→Nat→α→Prop} {xs ys:List Value} {l r:List α}
theorem SlE.nil:SlE P [] ([]:List α):=⟨rfl,fun i h=>by simp at h⟩
theorem SlE.one {q:Option Addr} {m d:Nat} {x:α} (h:P q m x) (hd:m≤d):SlE P [.slice q m d] [x]:=⟨rfl,fun i hi=>by
 have:i=0:=by simp at hi; exact hi
 subst this
 exact ⟨q,m,d,rfl,h,hd⟩⟩
theorem SlE.append (h:SlE P xs l) (k:SlE P ys r):SlE P (xs++ys) (l++r):=by
 refine ⟨by simp [h.1,k.1],fun i hi=>?_⟩
 by_cases hl:i < l.length
 ·obtain ⟨q,m,d,h1,h2,h3⟩:=h.2 i hl
  refine ⟨q,m,d,by rw [List.getElem?_append_left (by rw [h.1]; exact hl)]; exact h1,?_,h3⟩
  rw [List.getElem_append_left hl]; exact h2
 ·have hi':i - l.length < r.length:=by simp at hi; omega
  obtain ⟨q,m,d,h1,h2,h3⟩:=k.2 (i - l.length) hi'
  refine ⟨q,m,d,by rw [List.getElem?_append_right (by rw [h.1]; omega),h.1]; exact h1,?_,h3⟩
  rw [List.getElem_append_right (by omega)]; exact h2
theorem SlE.mono (h:SlE P xs l) (hP:∀ q m x,x∈l→P q m x→Q q m x):SlE Q xs l:=⟨h.1,fun i hi=>by
 obtain ⟨q,m,d,h1,h2,h3⟩:=h.2 i hi
 exact ⟨q,m,d,h1,hP _ _ _ (List.getElem_mem hi) h2,h3⟩⟩
theorem SlE.drop (h:SlE P xs l) (k:Nat):SlE P (xs.drop k) (l.drop k):=⟨by simp [h.1],fun i hi=>by
 have hi':k+i < l.length:=by simp at hi; omega
 obtain ⟨q,m,d,h1,h2,h3⟩:=h.2 (k+i) hi'
 refine ⟨q,m,d,by rw [List.getElem?_drop]; exact h1,?_,h3⟩
 rw [List.getElem_drop]; exact h2⟩
theorem SlE.take (h:SlE P xs l) (k:Nat):SlE P (xs.take k) (l.take k):=⟨by simp [h.1],fun i hi=>by
 have hi':i < k∧i < l.length:=by simp at hi; omega
 obtain ⟨q,m,d,h1,h2,h3⟩:=h.2 i hi'.2
 refine ⟨q,m,d,by rw [List.getElem?_take,if_pos hi'.1]; exact h1,?_,h3⟩
 rw [List.getElem_take]; exact h2⟩
end
def LsS {α:Type} (S:World→Nat→Prop) (w:World) (P:Option Addr→Nat→α→Prop) (p:Option Addr) (n:Nat) (l:List α):Prop:=∃ xs,At w p xs∧(xs≠[]→∀ a,p=some a→S w a.block)∧SlE P xs l∧l.length=n
def RowS (S:World→Nat→Prop) (w:World) (q:Option Addr) (m:Nat) (r:List Val):Prop:=At w q (vals r)∧(r≠[]→∀ b,q=some b→S w b.block)∧r.length=m
abbrev RwsS' (S:World→Nat→Prop) (w:World):=LsS S w (RowS S w)
def Moves (S S':World→Nat→Prop) (F:Nat→Prop) (w w':World):Prop:=Upd F w w'∧∀ k,k < w.heap.size→S w k→¬ F k∧S' w' k
abbrev Keeps (S:World→Nat→Prop) (F:Nat→Prop) (w w':World):Prop:=Moves S S F w w'
theorem at_keeps {S S':World→Nat→Prop} {F:Nat→Prop} {w w':World} {p:Option Addr} {xs:List Value} (hk:Moves S S' F w w') (h:At w p xs) (hS:xs≠[]→∀ a,p=some a→S w a.block):At w' p xs∧(xs≠[]→∀ a,p=some a→S' w' a.block):=by
 by_cases hx:xs=[]
 ·subst hx; exact ⟨At.nil _ _,fun h=>absurd rfl h⟩
 ·obtain ⟨x,r,rfl⟩:=List.exists_cons_of_ne_nil hx
  obtain ⟨a,ha,hc⟩:=h 0 x rfl
  have hlt:a.block < w.heap.size:=by
   have:=World.block_lt_of_cell? w _ hc
   unfold Addr.add at this
   simpa using this
  obtain ⟨h1,h2⟩:=hk.2 a.block hlt (hS hx a ha)
  refine ⟨h.upd hk.1 fun k ⟨b,hb,e⟩=>?_,fun _ b hb=>?_⟩
  ·rw [ha] at hb; injection hb with hb; subst hb; subst e; exact h1
  ·rw [ha] at hb; injection hb with hb; subst hb; exact h2
section
variable {α:Type} {S S':World→Nat→Prop} {F:Nat→Prop} {w w':World}
theorem RowS.keep {q:Option Addr} {m:Nat} {r:List Val} (h:RowS S w q m r) (hk:Moves S S' F w w'):RowS S' w' q m r:=by
 have hn:vals r≠[]↔r≠[]:=by cases r with
  | nil=>simp
  | cons x r=>simp [Val.cells]
 obtain ⟨h1,h2⟩:=at_keeps hk h.1 fun hx=>h.2.1 (hn.1 hx)
 exact ⟨h1,fun hx=>h2 (hn.2 hx),h.2.2⟩
theorem LsS.keep {P Q:Option Addr→Nat→α→Prop} {p:Option Addr} {n:Nat} {l:List α} (h:LsS S w P p n l) (hk:Moves S S' F w w') (hP:∀ q m x,P q m x→Q q m x):LsS S' w' Q p n l:=by
 obtain ⟨xs,h1,h2,h3,h4⟩:=h
 obtain ⟨k1,k2⟩:=at_keeps hk h1 h2
 exact ⟨xs,k1,k2,h3.mono fun q m x _ h=>hP q m x h,h4⟩
theorem rows_plain {p:Option Addr} {n:Nat} {l:List (List Val)} (h:RwsS' S w p n l):Rws w p l:=fun i hi=>by
 obtain ⟨xs,h1,_,h3,_⟩:=h
 obtain ⟨q,m,d,e,hr,hd⟩:=h3.2 i hi
 obtain ⟨a,ha,hc⟩:=h1 i _ e
 exact ⟨a,q,m,d,ha,hc,hr.1,hr.2.2,hd⟩
end
def TyS (es:List Nat) (w:World) (k:Nat):Prop:=Typed w es k
theorem keeps_typed {es fs:List Nat} {w w':World} (hu:Upd (Typed w fs) w w') (hd:∀ e∈es,e∉fs):Keeps (TyS es) (Typed w fs) w w':=by
 refine ⟨hu,fun k hk ⟨l,e,hb,he⟩=>?_⟩
 have hn:=Typed.not hb (hd e he)
 exact ⟨hn,l,e,hu.blk hb hn,he⟩
theorem keeps_nothing {es:List Nat} {w w':World} (hu:Upd Nothing w w'):Keeps (TyS es) Nothing w w':=⟨hu,fun k hk ⟨l,e,hb,he⟩=>⟨fun f=>f,l,e,hu.blk hb fun f=>f,he⟩⟩
theorem keeps_own {es:List Nat} {w w':World} {e s n c:Nat} {p:Option Addr} {xs:List Value} (ho:Own w e s p n c xs) (he:e∉es) (hu:Upd (Fp p c) w w'):Keeps (TyS es) (Fp p c) w w':=by
 refine ⟨hu,fun k hk ⟨l',e',hb',he'⟩=>?_⟩
 have hn:¬ Fp p c k:=fun hk'=>own_not_typed ho he k hk' ⟨l',e',hb',he'⟩
 exact ⟨hn,l',e',hu.blk hb' hn,he'⟩
theorem own_tyS {w:World} {e s n c:Nat} {p:Option Addr} {xs:List Value} {es:List Nat} (h:Own w e s p n c xs) (he:e∈es):xs≠[]→∀ a,p=some a→TyS es w a.block:=fun hx a ha=>by
 rcases h.mem with h0 | ⟨g,rest,hp,hb,_⟩
 ·subst h0; exact absurd h.empty.2 hx
 ·rw [hp] at ha
  injection ha with ha
  subst ha
  exact ⟨_,_,hb,he⟩
abbrev Row:=List Val
abbrev Unit':=List Row
structure Win where
 name:ByteArray
 on:ByteArray
 owner:ByteArray
 batches:Bool
 size:Nat
 slide:Nat
 seen:List Unit'
 staged:List Unit'
 cols:List Col
def Win.come (x:Win) (u:Unit'):Win×Bool:=
 if x.staged.length+1 < x.slide then ({ x with staged:=x.staged++[u] },false)
 else ({ x with seen:=(x.seen++(x.staged++[u])).drop ((x.seen++(x.staged++[u])).length - x.size),staged:=[] },true)
def Win.comes (x:Win):List Unit'→Win×Nat
 | []=>(x,0)
 | u :: us=>((x.come u).1.comes us).map id fun n=>(x.come u).2.toNat+n
def seenOf (size slide:Nat) (all:List Unit'):List Unit':=(all.take (all.length / slide * slide)).drop (all.length / slide * slide - size)
def stagedOf (slide:Nat) (all:List Unit'):List Unit':=all.drop (all.length / slide * slide)
def Win.Has (x:Win) (all:List Unit'):Prop:=x.seen=seenOf x.size x.slide all∧x.staged=stagedOf x.slide all
theorem last_of {α:Type} (A B:List α) (s:Nat):(A.drop (A.length - s)++B).drop ((A.drop (A.length - s)++B).length - s)=(A++B).drop ((A++B).length - s):=by
 rcases Nat.lt_or_ge s A.length with h | h
 ·have e:A=A.take (A.length - s)++A.drop (A.length - s):=(List.take_append_drop _ _).symm
  have hl:(A.drop (A.length - s)).length=s:=by simp; omega
  have hr:(A++B).drop ((A++B).length - s)=(A.drop (A.length - s)++B).drop B.length:=by
   have:(A++B).length - s=(A.length - s)+B.length:=by simp; omega
   rw [this,← List.drop_drop,List.drop_append_of_le_length (by omega)]
  rw [hr]
  congr 1
  rw [List.length_append,hl]
  omega
 ·have:A.length - s=0:=by omega
  rw [this,List.drop_zero]
theorem Win.Has.come {x:Win} {all:List Unit'} (h:x.Has all) (h1:1≤x.slide) (u:Unit') :
  (x.come u).1.Has (all++[u])∧(all++[u]).length / x.slide=all.length / x.slide+(x.come u).2.toNat:=by
 obtain ⟨hs,ht⟩:=h
 have hdm:=Nat.div_add_mod all.length x.slide
 have hml:=Nat.mod_lt all.length h1
 have hst:x.staged.length=all.length % x.slide:=by
  rw [ht]
  unfold stagedOf
  rw [List.length_drop,Nat.mul_comm]
  omega
 unfold Win.come
 by_cases hlt:x.staged.length+1 < x.slide
 ·rw [if_pos hlt]
  have hq:(all.length+1) / x.slide=all.length / x.slide:=by
   rw [show all.length+1=all.length % x.slide+1+x.slide * (all.length / x.slide) by omega,Nat.add_mul_div_left _ _ h1,Nat.div_eq_of_lt (by omega)]
   omega
  have hk:all.length / x.slide * x.slide≤all.length:=Nat.div_mul_le_self _ _
  refine ⟨⟨?_,?_⟩,by simp [hq]⟩
  ·show x.seen=seenOf x.size x.slide (all++[u])
   unfold seenOf at hs ⊢
   rw [List.length_append,List.length_singleton,hq,List.take_append_of_le_length hk]
   exact hs
  ·show x.staged++[u]=stagedOf x.slide (all++[u])
   unfold stagedOf at ht ⊢
   rw [List.length_append,List.length_singleton,hq,List.drop_append_of_le_length hk,ht]
 ·rw [if_neg hlt]
  have hq:(all.length+1) / x.slide=all.length / x.slide+1:=by
   have:all.length % x.slide+1=x.slide:=by omega
   rw [show all.length+1=x.slide+x.slide * (all.length / x.slide) by omega,Nat.add_mul_div_left _ _ h1,Nat.div_self h1]
   omega
  have hk:all.length / x.slide * x.slide≤all.length:=Nat.div_mul_le_self _ _
  have hk2:(all.length / x.slide+1) * x.slide=all.length+1:=by
   rw [Nat.add_mul,Nat.one_mul,Nat.mul_comm]
   omega
  refine ⟨⟨?_,?_⟩,by simp [hq]⟩
  ·show (x.seen++(x.staged++[u])).drop ((x.seen++(x.staged++[u])).length - x.size)=seenOf x.size x.slide (all++[u])
   unfold seenOf at hs ⊢
   unfold stagedOf at ht
   have hall:(all++[u]).length=all.length+1:=by simp
   rw [hall,hq,hk2,List.take_of_length_le (by simp)]
   have hA:(all.take (all.length / x.slide * x.slide)).length=all.length / x.slide * x.slide:=by rw [List.length_take]; omega
   have hs':x.seen=(all.take (all.length / x.slide * x.slide)).drop ((all.take (all.length / x.slide * x.slide)).length - x.size):=by rw [hA]; exact hs
   have key:=last_of (all.take (all.length / x.slide * x.slide)) (x.staged++[u]) x.size
   rw [← hs'] at key
   have e:all.take (all.length / x.slide * x.slide)++(x.staged++[u])=all++[u]:=by rw [ht,← List.append_assoc,List.take_append_drop]
   rw [e,hall] at key
   exact key
  ·show []=stagedOf x.slide (all++[u])
   unfold stagedOf
   rw [List.length_append,List.length_singleton,hq,hk2,List.drop_of_length_le (by simp)]
theorem Win.come_same (x:Win) (u:Unit'):(x.come u).1.name=x.name∧(x.come u).1.on=x.on∧(x.come u).1.owner=x.owner∧(x.come u).1.batches=x.batches∧(x.come u).1.size=x.size∧(x.come u).1.slide=x.slide∧(x.come u).1.cols=x.cols:=by
 unfold Win.come
 split <;> exact ⟨rfl,rfl,rfl,rfl,rfl,rfl,rfl⟩
theorem Win.Has.comes:∀ (us:List Unit') {x:Win} {all:List Unit'},x.Has all→1≤x.slide→(x.comes us).1.Has (all++us)∧(x.comes us).1.slide=x.slide∧(all++us).length / x.slide=all.length / x.slide+(x.comes us).2
 | [],x,all,h,h1=>by simp [Win.comes]; exact h
 | u :: us,x,all,h,h1=>by
  obtain ⟨k1,k2⟩:=h.come h1 u
  have hs:=x.come_same u
  obtain ⟨k3,k4,k5⟩:=Win.Has.comes us k1 (by rw [hs.2.2.2.2.2.1]; exact h1)
  rw [hs.2.2.2.2.2.1] at k4 k5
  simp only [List.append_assoc,List.singleton_append] at k3 k5
  refine ⟨k3,k4,?_⟩
  show _=_+((x.come u).2.toNat+((x.come u).1.comes us).2)
  rw [k5,k2]
  omega
end Go.Proofs.YtjcgociobhhijaaGreatDoor.SX
namespace Go.Proofs.YtjcgociobhhijaaGreatDoor.SX
open Go
abbrev bl:=Op.bytesLess
theorem bl_cons (a b:UInt8) (x y:List UInt8):bl (a :: x) (b :: y)=(decide (a < b) || a == b && bl x y):=Op.bytesLess.eq_3 a x b y
theorem bl_nil_cons (b:UInt8) (y:List UInt8):bl [] (b :: y)=true:=rfl
theorem bl_cons_nil (a:UInt8) (x:List UInt8):bl (a :: x) []=false:=rfl
theorem lt_self (b:UInt8):decide (b < b)=false:=by
 rw [decide_eq_false_iff_not]
 intro h
 have h1:b.toNat < b.toNat:=h
 omega
theorem bl_same (a:UInt8) (x y:List UInt8):bl (a :: x) (a :: y)=bl x y:=by rw [bl_cons,lt_self]; simp
theorem bl_ne {a b:UInt8} (h:a≠b) (x y:List UInt8):bl (a :: x) (b :: y)=decide (a.toNat < b.toNat):=by
 have h1:(a == b)=false:=by simpa using h
 rw [bl_cons,h1,Bool.false_and,Bool.or_false]
 rfl
theorem num_cons (b:UInt8) (l:List UInt8):num (b :: l)=b.toNat * 256 ^ l.length+num l:=by
 have key:∀ (l:List UInt8) (u:Nat),l.foldl (fun u b=>u * 256+b.toNat) u=u * 256 ^ l.length+num l:=by
  intro l
  induction l with
  | nil=>intro u; simp [num]
  | cons c l ih=>
   intro u
   have h1:=ih (u * 256+c.toNat)
   have h2:=ih (0 * 256+c.toNat)
   unfold num
   rw [List.foldl_cons,List.foldl_cons,h1,h2,List.length_cons,Nat.pow_succ,Nat.add_mul,Nat.mul_assoc,Nat.mul_comm 256]
   simp only [Nat.zero_mul,Nat.zero_add]
   omega
 have:=key l (0 * 256+b.toNat)
 unfold num
 rw [List.foldl_cons,this]
 simp only [Nat.zero_mul,Nat.zero_add]
 rfl
theorem bl_num:∀ (x y s t:List UInt8),x.length=y.length→bl (x++s) (y++t)=if num x=num y then bl s t else decide (num x < num y)
 | [],[],s,t,_=>by simp [num]
 | a :: x,b :: y,s,t,h=>by
  have hl:x.length=y.length:=by simpa using h
  have hx:=num_lt x.length x rfl
  have hy:=num_lt y.length y rfl
  rw [hl] at hx
  rw [num_cons,num_cons,hl]
  have ih:=bl_num x y s t hl
  generalize 256 ^ y.length=p at *
  show bl (a :: (x++s)) (b :: (y++t))=_
  by_cases hab:a=b
  ·subst hab
   rw [bl_same,ih]
   by_cases hn:num x=num y
   ·rw [if_pos hn,if_pos (by omega)]
   ·rw [if_neg hn,if_neg (by omega)]
    rw [decide_eq_decide]
    omega
  ·rw [bl_ne hab]
   have hne:a.toNat≠b.toNat:=fun e=>hab (UInt8.toNat_inj.1 e)
   rcases Nat.lt_or_gt_of_ne hne with h1 | h1
   ·have h2:(a.toNat+1) * p≤b.toNat * p:=Nat.mul_le_mul_right _ h1
    rw [Nat.add_mul,Nat.one_mul] at h2
    rw [if_neg (by omega),decide_eq_decide]
    omega
   ·have h2:(b.toNat+1) * p≤a.toNat * p:=Nat.mul_le_mul_right _ h1
    rw [Nat.add_mul,Nat.one_mul] at h2
    rw [if_neg (by omega),decide_eq_decide]
    omega
theorem bl_text:∀ (x y s t:List UInt8),bl (repl 0 [0,255] x++[0,1]++s) (repl 0 [0,255] y++[0,1]++t)=if x=y then bl s t else bl x y
 | [],[],s,t=>by
  show bl (0 :: 1 :: s) (0 :: 1 :: t)=_
  rw [bl_same,bl_same,if_pos rfl]
 | [],b :: y,s,t=>by
  have e:repl 0 [0,255] (b :: y)=(if b=0 then [0,255] else [b])++repl 0 [0,255] y:=rfl
  rw [e,if_neg (show ¬ ([]=b :: y) by simp),bl_nil_cons]
  by_cases hb:b=0
  ·rw [if_pos hb]
   show bl (0 :: 1 :: s) (0 :: 255 :: _)=true
   rw [bl_same,bl_ne (by decide)]
   decide
  ·rw [if_neg hb]
   show bl (0 :: 1 :: s) (b :: _)=true
   rw [bl_ne (fun h=>hb h.symm)]
   have:b.toNat≠0:=fun e=>hb (UInt8.toNat_inj.1 e)
   exact decide_eq_true (by show 0 < b.toNat; omega)
 | a :: x,[],s,t=>by
  have e:repl 0 [0,255] (a :: x)=(if a=0 then [0,255] else [a])++repl 0 [0,255] x:=rfl
  rw [e,if_neg (show ¬ (a :: x=[]) by simp),bl_cons_nil]
  by_cases ha:a=0
  ·rw [if_pos ha]
   show bl (0 :: 255 :: _) (0 :: 1 :: t)=false
   rw [bl_same,bl_ne (by decide)]
   decide
  ·rw [if_neg ha]
   show bl (a :: _) (0 :: 1 :: t)=false
   rw [bl_ne ha]
   exact decide_eq_false (by show ¬ a.toNat < 0; omega)
 | a :: x,b :: y,s,t=>by
  have e:repl 0 [0,255] (a :: x)=(if a=0 then [0,255] else [a])++repl 0 [0,255] x:=rfl
  have e':repl 0 [0,255] (b :: y)=(if b=0 then [0,255] else [b])++repl 0 [0,255] y:=rfl
  rw [e,e']
  by_cases hab:a=b
  ·subst hab
   have ih:=bl_text x y s t
   have hif:(if a :: x=a :: y then bl s t else bl (a :: x) (a :: y))=if x=y then bl s t else bl x y:=by
    by_cases h:x=y
    ·rw [if_pos h,if_pos (by rw [h])]
    ·rw [if_neg h,if_neg (fun h'=>h (by injection h')),bl_same]
   rw [hif,← ih]
   by_cases ha:a=0
   ·rw [if_pos ha]
    show bl (0 :: 255 :: _) (0 :: 255 :: _)=_
    rw [bl_same,bl_same]
    rfl
   ·rw [if_neg ha]
    show bl (a :: _) (a :: _)=_
    rw [bl_same]
    rfl
  ·rw [if_neg (show ¬ (a :: x=b :: y) from fun h=>hab (by injection h)),bl_ne hab]
   by_cases ha:a=0
   ·have hb:b≠0:=fun h=>hab (by rw [ha,h])
    rw [if_pos ha,if_neg hb,ha]
    show bl (0 :: 255 :: _) (b :: _)=_
    rw [bl_ne (fun h=>hb h.symm)]
   ·rw [if_neg ha]
    by_cases hb:b=0
    ·rw [if_pos hb,hb]
     show bl (a :: _) (0 :: 255 :: _)=_
     rw [bl_ne ha]
    ·rw [if_neg hb]
     show bl (a :: _) (b :: _)=_
     rw [bl_ne hab]
theorem up_lt {m n:Int} (hm : -9223372036854775808≤m∧m≤9223372036854775807) (hn : -9223372036854775808≤n∧n≤9223372036854775807):(up m=up n↔m=n)∧(up m < up n↔m < n):=by
 unfold up
 omega
theorem scmp_lt (x y:ByteArray):(scmp x y≠0↔x≠y)∧(scmp x y < 0↔sLt x y=true):=by
 unfold scmp
 by_cases h:sLt x y=true
 ·rw [if_pos h]
  refine ⟨⟨fun _ e=>?_,fun _=>by decide⟩,⟨fun _=>h,fun _=>by decide⟩⟩
  subst e
  rw [sLt_irrefl] at h
  cases h
 ·rw [if_neg h]
  by_cases e:x=y
  ·simp [e,h,sLt_irrefl]
  ·simp [e,h]
theorem bl_key {u v:Val} (hu:u.good) (hv:v.good) (s t:List UInt8):bl (vkey u++s) (vkey v++t)=if u.cmp v≠0 then decide (u.cmp v < 0) else bl s t:=by
 obtain ⟨k,n,x⟩:=u
 obtain ⟨k',n',y⟩:=v
 obtain ⟨hur,hun⟩:=hu
 obtain ⟨hvr,hvn⟩:=hv
 have hkd:∀ (a b:UInt8) (i j:Int) (x' y':List UInt8),a≠b→i≠j→(a.toNat < b.toNat↔i < j)→k=i→k'=j→bl (a :: x') (b :: y')=if Val.cmp ⟨k,n,x⟩ ⟨k',n',y⟩≠0 then decide (Val.cmp ⟨k,n,x⟩ ⟨k',n',y⟩ < 0) else bl s t:=by
  intro a b i j x' y' hab hij hlt hk hk'
  rw [bl_ne hab]
  unfold Val.cmp icmp
  simp only [hk,hk']
  by_cases h1:i < j
  ·simp [h1,hlt.2 h1]
  ·have h2:j < i:=by omega
   have h3:¬ a.toNat < b.toNat:=fun h=>h1 (hlt.1 h)
   simp [h1,h2,h3]
 rcases good_kinds hur with ⟨hk,hs⟩ | ⟨hk,hn0,hs⟩ | ⟨hk,hn0,hs⟩ <;> rcases good_kinds hvr with ⟨hk',hs'⟩ | ⟨hk',hn0',hs'⟩ | ⟨hk',hn0',hs'⟩
 all_goals simp only at hk hk' hs hs' hun hvn
 ·rw [vkey_one hk,vkey_one hk']
  show bl (1 :: (be8 n++s)) (1 :: (be8 n'++t))=_
  rw [bl_same,bl_num (be8 n) (be8 n') s t rfl,num_be8,num_be8]
  obtain ⟨h1,h2⟩:=up_lt hun hvn
  unfold Val.cmp icmp scmp
  simp only [hk,hk',hs,hs']
  by_cases hne:n=n'
  ·subst hne
   simp [sLt_irrefl]
  ·rw [if_neg (fun e=>hne (h1.1 e))]
   by_cases hlt:n < n'
   ·simp [hlt,h2.2 hlt]
   ·have h4:n' < n:=by omega
    have h5:¬ up n < up n':=fun h=>hlt (h2.1 h)
    simp [hlt,h4,h5]
 ·rw [vkey_one hk,vkey_two hk']; exact hkd 1 2 1 2 _ _ (by decide) (by decide) (by decide) hk hk'
 ·rw [vkey_one hk,vkey_three hk']; exact hkd 1 3 1 3 _ _ (by decide) (by decide) (by decide) hk hk'
 ·rw [vkey_two hk,vkey_one hk']; exact hkd 2 1 2 1 _ _ (by decide) (by decide) (by decide) hk hk'
 ·rw [vkey_two hk,vkey_two hk']
  simp only at hn0 hn0'
  show bl (2 :: (repl 0 [0,255] x.data.toList++[0,1]++s)) (2 :: (repl 0 [0,255] y.data.toList++[0,1]++t))=_
  rw [bl_same,bl_text]
  have hsl:bl x.data.toList y.data.toList=sLt x y:=by unfold sLt; rw [ByteArray.toList_eq,ByteArray.toList_eq]
  have hxy:x.data.toList=y.data.toList↔x=y:=⟨ba_ext,fun e=>by rw [e]⟩
  obtain ⟨h1,h2⟩:=scmp_lt x y
  have hc:Val.cmp ⟨k,n,x⟩ ⟨k',n',y⟩=scmp x y:=by
   unfold Val.cmp icmp
   simp [hk,hk',hn0,hn0']
  rw [hc,hsl]
  by_cases he:x=y
  ·rw [if_pos (hxy.2 he),if_neg (fun h=>h1.1 h he)]
  ·rw [if_neg (fun h=>he (hxy.1 h)),if_pos (h1.2 he)]
   rw [Bool.eq_iff_iff,← h2,decide_eq_true_eq]
 ·rw [vkey_two hk,vkey_three hk']; exact hkd 2 3 2 3 _ _ (by decide) (by decide) (by decide) hk hk'
 ·rw [vkey_three hk,vkey_one hk']; exact hkd 3 1 3 1 _ _ (by decide) (by decide) (by decide) hk hk'
 ·rw [vkey_three hk,vkey_two hk']; exact hkd 3 2 3 2 _ _ (by decide) (by decide) (by decide) hk hk'
 ·rw [vkey_three hk,vkey_three hk']
  simp only at hn0 hn0'
  show bl (3 :: lowByte n :: s) (3 :: lowByte n' :: t)=_
  rw [bl_same]
  have hc:Val.cmp ⟨k,n,x⟩ ⟨k',n',y⟩=icmp n n':=by
   unfold Val.cmp icmp scmp
   simp only [hk,hk',hs,hs',sLt_irrefl]
   by_cases h:n < n' <;> by_cases h':n' < n <;> simp [h,h']
  rw [hc]
  have l0:lowByte 0=0:=rfl
  have l1:lowByte 1=1:=rfl
  rcases hn0 with rfl | rfl <;> rcases hn0' with rfl | rfl
  ·rw [bl_same]; rfl
  ·rw [l0,l1,bl_ne (by decide)]; rfl
  ·rw [l0,l1,bl_ne (by decide)]; rfl
  ·rw [bl_same]; rfl
theorem cmp_eq {u v:Val} (h:u.cmp v=0):u=v:=by
 unfold Val.cmp at h
 split at h
 ·rename_i h1; exact absurd h h1
 ·rename_i h1
  split at h
  ·rename_i h2; exact absurd h h2
  ·rename_i h2
   obtain ⟨k,n,x⟩:=u
   obtain ⟨k',n',y⟩:=v
   simp only [ne_eq,Decidable.not_not] at h1 h2 h
   have e3:x=y:=by
    refine Classical.byContradiction fun hne=>?_
    exact ((scmp_lt x y).1.2 hne) h
   unfold icmp at h1 h2
   have e1:k=k':=by
    split at h1
    ·cases h1
    ·split at h1
     ·cases h1
     ·omega
   have e2:n=n':=by
    split at h2
    ·cases h2
    ·split at h2
     ·cases h2
     ·omega
   rw [e1,e2,e3]
theorem cmp_self (u:Val):u.cmp u=0:=by
 unfold Val.cmp icmp scmp
 simp [sLt_irrefl]
theorem rows_eq:∀ xs ys:List Val,rowsCmp xs ys=0↔xs=ys
 | [],[]=>by simp [rowsCmp]
 | [],y :: ys=>by simp [rowsCmp]
 | x :: xs,[]=>by simp [rowsCmp]
 | x :: xs,y :: ys=>by
  rw [rowsCmp]
  by_cases h:x.cmp y=0
  ·rw [if_neg (fun h'=>h' h),rows_eq xs ys,cmp_eq h]
   simp
  ·rw [if_pos h]
   refine ⟨fun h'=>absurd h' h,fun e=>?_⟩
   injection e with e1 e2
   subst e1
   exact absurd (cmp_self x) h
theorem bl_keys:∀ xs ys:List Val,(∀ x∈xs,x.good)→(∀ y∈ys,y.good)→bl (vkeys xs) (vkeys ys)=decide (rowsCmp xs ys < 0)
 | [],[],_,_=>rfl
 | [],y :: ys,_,_=>by
  have e:vkeys (y :: ys)=vkey y++vkeys ys:=rfl
  rw [e]
  unfold vkey
  rfl
 | x :: xs,[],_,_=>by
  have e:vkeys (x :: xs)=vkey x++vkeys xs:=rfl
  rw [e]
  unfold vkey
  rfl
 | x :: xs,y :: ys,hx,hy=>by
  have e:vkeys (x :: xs)=vkey x++vkeys xs:=rfl
  have e':vkeys (y :: ys)=vkey y++vkeys ys:=rfl
  rw [e,e',bl_key (hx x (by simp)) (hy y (by simp)),bl_keys xs ys (fun a ha=>hx a (by simp [ha])) (fun a ha=>hy a (by simp [ha])),rowsCmp]
  split <;> rfl
theorem bl_keys_app:∀ (xs ys:List Val) (s t:List UInt8),xs.length=ys.length→(∀ x∈xs,x.good)→(∀ y∈ys,y.good)→bl (vkeys xs++s) (vkeys ys++t)=if rowsCmp xs ys≠0 then decide (rowsCmp xs ys < 0) else bl s t
 | [],[],s,t,_,_,_=>by simp [rowsCmp,vkeys]
 | x :: xs,y :: ys,s,t,hl,hx,hy=>by
  have e:vkeys (x :: xs)=vkey x++vkeys xs:=rfl
  have e':vkeys (y :: ys)=vkey y++vkeys ys:=rfl
  rw [e,e',List.append_assoc,List.append_assoc,bl_key (hx x (by simp)) (hy y (by simp)),bl_keys_app xs ys s t (by simpa using hl) (fun a ha=>hx a (by simp [ha])) (fun a ha=>hy a (by simp [ha])),rowsCmp]
  by_cases h:x.cmp y≠0
  ·rw [if_pos h,if_pos h,if_pos h]
  ·rw [if_neg h,if_neg h]
end Go.Proofs.YtjcgociobhhijaaGreatDoor.SX
namespace Go.Proofs.YtjcgociobhhijaaGreatDoor
open Go SX Va
namespace Sc
theorem vkeys_split:∀ {xs ys:List Val} {s t:List UInt8},xs.length=ys.length→(∀ x∈xs,x.good)→(∀ y∈ys,y.good)→vkeys xs++s=vkeys ys++t→xs=ys∧s=t
 | [],[],s,t,_,_,_,h=>⟨rfl,h⟩
 | x :: xs,y :: ys,s,t,hl,hx,hy,h=>by
  have e:vkeys (x :: xs)=vkey x++vkeys xs:=rfl
  have e':vkeys (y :: ys)=vkey y++vkeys ys:=rfl
  rw [e,e',List.append_assoc,List.append_assoc] at h
  have h1:=firstV_vkey (hx x (by simp)) (vkeys xs++s)
  rw [h,firstV_vkey (hy y (by simp))] at h1
  simp only [Option.some.injEq,Prod.mk.injEq] at h1
  obtain ⟨rfl,h2⟩:=h1
  obtain ⟨rfl,rfl⟩:=vkeys_split (by simpa using hl) (fun a ha=>hx a (by simp [ha])) (fun a ha=>hy a (by simp [ha])) h2.symm
  exact ⟨rfl,rfl⟩
theorem pk_good {row:List Val} {ps:List Int} {n:Nat} (hg:∀ x∈row,x.good) (hl:row.length=n) (hps:∀ c∈ps,0≤c∧c≤(n:Int) - 1):(pk row ps).length=ps.length∧∀ x∈pk row ps,x.good:=by
 have hin:pickB row ps=true:=by
  unfold pickB
  rw [List.all_eq_true]
  intro x hx
  have:=hps x hx
  simp only [Bool.and_eq_true,decide_eq_true_eq]
  omega
 unfold pk
 rw [if_pos hin]
 refine ⟨by simp,fun x hx=>?_⟩
 simp only [List.mem_map] at hx
 obtain ⟨i,hi,rfl⟩:=hx
 have:=hps i hi
 have hlt:i.toNat < row.length:=by omega
 unfold pickV
 rw [List.getElem?_eq_getElem hlt]
 exact hg _ (List.getElem_mem _)
theorem keyText_good {xs:List Val} (h:∀ x∈xs,x.good):(keyText xs).data.toList=vkeys xs:=by
 unfold keyText
 rw [if_pos (List.all_eq_true.2 fun x hx=>(h x hx).1)]
 simp [tx]
theorem skey_stands {s:Schm} {i:Nat} (hi:i < s.ixs.length) (hs:s.Right) {a b:List Val} (ha:FitsP s.cols a) (hb:FitsP s.cols b) (hga:∀ x∈a,x.good) (hgb:∀ x∈b,x.good) (way:Int)
  (hw:way=if rowsCmp (pk a s.ixs[i].cols) (pk b s.ixs[i].cols)=0∧s.ixs[i].unique=false then rowsCmp (pk a (s.ixs[0]'(by omega)).cols) (pk b (s.ixs[0]'(by omega)).cols) else rowsCmp (pk a s.ixs[i].cols) (pk b s.ixs[i].cols)) :
  (sLt (tx (skey s i hi a)) (tx (skey s i hi b))=decide (way < 0))∧(sEq (tx (skey s i hi a)) (tx (skey s i hi b))=(way == 0)):=by
 have h0:0 < s.ixs.length:=by omega
 have hx:=hs.2.2.1.1 _ (List.getElem_mem hi)
 have hx0:=hs.2.2.1.1 _ (List.getElem_mem h0)
 obtain ⟨la,ga⟩:=pk_good hga ha.1 hx.1
 obtain ⟨lb,gb⟩:=pk_good hgb hb.1 hx.1
 obtain ⟨la0,ga0⟩:=pk_good hga ha.1 hx0.1
 obtain ⟨lb0,gb0⟩:=pk_good hgb hb.1 hx0.1
 have ta:∀ l,(tx l).data.toList=l:=fun l=>by simp [tx]
 have hlt:∀ x y,sLt (tx x) (tx y)=bl x y:=fun x y=>by unfold sLt; rw [ByteArray.toList_eq,ByteArray.toList_eq,ta,ta]
 have heq:∀ x y,sEq (tx x) (tx y)=true↔x=y:=fun x y=>by
  rw [sEq_iff]
  exact ⟨fun h=>by have:=congrArg (fun z:ByteArray=>z.data.toList) h; simpa only [ta] using this,fun h=>by rw [h]⟩
 have hb2:∀ r:Int,(r == 0)=true↔r=0:=fun r=>beq_iff_eq
 unfold skey
 rw [keyText_good ga,keyText_good gb,keyText_good ga0,keyText_good gb0]
 generalize pk a s.ixs[i].cols=X at *
 generalize pk b s.ixs[i].cols=Y at *
 generalize pk a (s.ixs[0]'(by omega)).cols=X0 at *
 generalize pk b (s.ixs[0]'(by omega)).cols=Y0 at *
 have hXY:X.length=Y.length:=by omega
 have hXY0:X0.length=Y0.length:=by omega
 rw [hlt,bl_keys_app X Y _ _ hXY ga gb,Bool.eq_iff_iff (a:=sEq _ _),heq,hb2]
 have hz:=rows_eq X Y
 have hz0:=rows_eq X0 Y0
 by_cases hr:rowsCmp X Y=0
 ·rw [if_neg (fun h=>h hr)]
  have e:=hz.1 hr
  subst e
  cases hu:s.ixs[i].unique with
  | true=>
   rw [if_pos rfl,if_pos rfl]
   rw [hu,hr] at hw
   have hw0:way=0:=by simpa using hw
   subst hw0
   exact ⟨rfl,fun _=>rfl,fun _=>rfl⟩
  | false=>
   rw [hu] at hw
   have hw0:way=rowsCmp X0 Y0:=by rw [hw,if_pos ⟨hr,rfl⟩]
   rw [hw0]
   simp only [Bool.false_eq_true,↓reduceIte]
   refine ⟨bl_keys X0 Y0 ga0 gb0,fun h=>?_,fun h=>by rw [hz0.1 h]⟩
   have h1:=List.append_cancel_left h
   have h2:=vkeys_split (s:=[]) (t:=[]) hXY0 ga0 gb0 (by rw [h1])
   exact hz0.2 h2.1
 ·rw [if_pos hr]
  have hw0:way=rowsCmp X Y:=by rw [hw,if_neg (fun h=>hr h.1)]
  rw [hw0]
  exact ⟨rfl,fun h=>hz.2 (vkeys_split hXY ga gb h).1,fun h=>absurd h hr⟩
end Sc
end Go.Proofs.YtjcgociobhhijaaGreatDoor
namespace Go.Proofs.YtjcgociobhhijaaGreatDoor
open Go SX Bt Va
namespace Pt
def kx (s:Schm) (i:Nat) (r:Row):ByteArray:=if h:i < s.ixs.length then tx (Sc.skey s i h r) else ⟨#[]⟩
theorem kx_lt {s:Schm} {i:Nat} {r:Row} (h:i < s.ixs.length):kx s i r=tx (Sc.skey s i h r):=dif_pos h
def RowOk (s:Schm) (r:Row):Prop:=Sc.FitsP s.cols r∧∀ x∈r,Va.Val.wf x
theorem RowOk.good {s:Schm} {r:Row} (h:RowOk s r):∀ x∈r,x.good:=fun x hx=>⟨List.all_eq_true.1 h.1.2.1 x hx,(h.2 x hx).2.1⟩
theorem kx_stands {s:Schm} {i:Nat} (hi:i < s.ixs.length) (hs:s.Right) {a b:Row} (ha:RowOk s a) (hb:RowOk s b) (he:kx s i a=kx s i b):kx s 0 a=kx s 0 b∨(s.ixs[i].unique=true):=by
 have h0:0 < s.ixs.length:=by omega
 cases hu:s.ixs[i].unique with
 | true=>exact .inr rfl
 | false=>
  refine .inl ?_
  have hu0:(s.ixs[0]'h0).unique=true:=hs.2.2.1.2.2.1 _ (List.getElem?_eq_getElem h0)
  have h1:=(Sc.skey_stands hi hs ha.1 hb.1 ha.good hb.good _ rfl).2
  have h2:=(Sc.skey_stands h0 hs ha.1 hb.1 ha.good hb.good _ rfl).2
  rw [kx_lt hi,kx_lt hi] at he
  rw [he,sEq_self] at h1
  rw [kx_lt h0,kx_lt h0]
  refine sEq_iff.1 ?_
  rw [h2]
  rw [if_neg (fun h=>by rw [hu0] at h; exact absurd h.2 (by decide))]
  have h3:=h1.symm
  rw [beq_iff_eq] at h3 ⊢
  by_cases hz:SX.rowsCmp (Sc.pk a s.ixs[i].cols) (Sc.pk b s.ixs[i].cols)=0
  ·rw [if_pos ⟨hz,hu⟩] at h3; exact h3
  ·rw [if_neg (fun h=>hz h.1)] at h3; exact absurd h3 hz
structure Inv (s:Schm) (rs:List Row):Prop where
 ok:∀ r∈rs,RowOk s r
 srt:rs.Pairwise fun a b=>sLt (kx s 0 a) (kx s 0 b)=true
 uni:∀ i (h:i < s.ixs.length),s.ixs[i].unique=true→∀ a∈rs,∀ b∈rs,kx s i a=kx s i b→a=b
 lim:(rs.length:Int)≤s.limit
theorem right_zero {s:Schm} (hs:s.Right):∃ h:0 < s.ixs.length,s.ixs[0].unique=true:=⟨by have:=hs.2.2.1.2.1.1; omega,hs.2.2.1.2.2.1 _ (List.getElem?_eq_getElem _)⟩
theorem Inv.nil {s:Schm} (hs:s.Right):Inv s []:=⟨fun _ h=>(by cases h),List.Pairwise.nil,fun _ _ _ _ h=>(by cases h),by have:=hs.2.2.2.1.1; show (0:Int)≤_; omega⟩
theorem Inv.dist {s:Schm} {rs:List Row} (h:Inv s rs) (hs:s.Right) {i:Nat} (hi:i < s.ixs.length) {a b:Row} (ha:a∈rs) (hb:b∈rs) (he:kx s i a=kx s i b):a=b:=by
 obtain ⟨h0,hu0⟩:=right_zero hs
 rcases kx_stands hi hs (h.ok a ha) (h.ok b hb) he with h1 | h1
 ·exact h.uni 0 h0 hu0 a ha b hb h1
 ·exact h.uni i hi h1 a ha b hb he
def Clash (s:Schm) (rs:List Row) (row:Row) (own:Option ByteArray):Prop:=∃ r∈rs,own≠some (kx s 0 r)∧∃ i,∃ h:i < s.ixs.length,s.ixs[i].unique=true∧kx s i row=kx s i r
theorem no_clash {s:Schm} {rs:List Row} {row:Row} (h:Inv s rs) (hs:s.Right) (hr:RowOk s row) (hc:¬ Clash s rs row none) {i:Nat} (hi:i < s.ixs.length) {r:Row} (hm:r∈rs):kx s i row≠kx s i r:=fun he=>by
 obtain ⟨h0,hu0⟩:=right_zero hs
 rcases kx_stands hi hs hr (h.ok r hm) he with h1 | h1
 ·exact hc ⟨r,hm,by simp,0,h0,hu0,h1⟩
 ·exact hc ⟨r,hm,by simp,i,hi,h1,he⟩
def mput (s:Schm) (row:Row) (rs:List Row):List Row:=rs.filter (fun r=>sLt (kx s 0 r) (kx s 0 row))++row :: rs.filter (fun r=>sLt (kx s 0 row) (kx s 0 r))
def mdel (s:Schm) (k:ByteArray) (rs:List Row):List Row:=rs.filter fun r=>sLt (kx s 0 r) k || sLt k (kx s 0 r)
theorem lt_or {a b:ByteArray}:(sLt a b || sLt b a)=true↔a≠b:=by
 constructor
 ·rintro h rfl
  rw [sLt_irrefl] at h
  exact absurd h (by decide)
 ·intro h
  cases h1:sLt a b with
  | true=>rfl
  | false=>rw [sLt_total h1 h]; rfl
theorem mem_mdel {s:Schm} {k:ByteArray} {rs:List Row} {r:Row}:r∈mdel s k rs↔r∈rs∧kx s 0 r≠k:=by
 unfold mdel
 rw [List.mem_filter,lt_or]
theorem mem_mput {s:Schm} {row:Row} {rs:List Row} {r:Row}:r∈mput s row rs↔r=row∨(r∈rs∧kx s 0 r≠kx s 0 row):=by
 unfold mput
 rw [List.mem_append,List.mem_cons,List.mem_filter,List.mem_filter]
 constructor
 ·rintro (⟨h1,h2⟩ | h | ⟨h1,h2⟩)
  ·exact .inr ⟨h1,lt_or.1 (by rw [h2]; rfl)⟩
  ·exact .inl h
  ·exact .inr ⟨h1,lt_or.1 (by rw [h2]; simp)⟩
 ·rintro (h | ⟨h1,h2⟩)
  ·exact .inr (.inl h)
  ·have:=lt_or.2 h2
   rw [Bool.or_eq_true] at this
   rcases this with h | h
   ·exact .inl ⟨h1,h⟩
   ·exact .inr (.inr ⟨h1,h⟩)
theorem mem_ins {k:ByteArray} {v:Value} {l:List Ent} {e:Ent}:e∈ins k v l↔e=(k,v)∨(e∈l∧e.1≠k):=by
 unfold ins
 rw [List.mem_append,List.mem_cons,List.mem_filter,List.mem_filter]
 constructor
 ·rintro (⟨h1,h2⟩ | h | ⟨h1,h2⟩)
  ·exact .inr ⟨h1,lt_or.1 (by rw [h2]; rfl)⟩
  ·exact .inl h
  ·exact .inr ⟨h1,lt_or.1 (by rw [h2]; simp)⟩
 ·rintro (h | ⟨h1,h2⟩)
  ·exact .inr (.inl h)
  ·have:=lt_or.2 h2
   rw [Bool.or_eq_true] at this
   rcases this with h | h
   ·exact .inl ⟨h1,h⟩
   ·exact .inr (.inr ⟨h1,h⟩)
theorem mem_del {k:ByteArray} {l:List Ent} {e:Ent}:e∈del k l↔e∈l∧e.1≠k:=by
 unfold del
 rw [List.mem_filter,lt_or]
theorem srt_split {s:Schm} {rs:List Row} {was:Row} (h:rs.Pairwise fun a b=>sLt (kx s 0 a) (kx s 0 b)=true) (hm:was∈rs):∃ A B,rs=A++was :: B∧mdel s (kx s 0 was) rs=A++B:=by
 obtain ⟨A,B,rfl⟩:=List.append_of_mem hm
 refine ⟨A,B,rfl,?_⟩
 obtain ⟨h1,h2,h3⟩:=List.pairwise_append.1 h
 obtain ⟨h4,h5⟩:=List.pairwise_cons.1 h2
 unfold mdel
 rw [List.filter_append,List.filter_cons,if_neg (by rw [sLt_irrefl]; simp)]
 rw [List.filter_eq_self.2 fun r hr=>by rw [h3 r hr was (by simp)]; rfl,List.filter_eq_self.2 fun r hr=>by rw [h4 r hr]; simp]
theorem mdel_len {s:Schm} {rs:List Row} {was:Row} (h:Inv s rs) (hm:was∈rs):(mdel s (kx s 0 was) rs).length+1=rs.length:=by
 obtain ⟨A,B,h1,h2⟩:=srt_split h.srt hm
 rw [h2,h1]; simp; omega
theorem mput_len {s:Schm} {rs:List Row} {row:Row} (hn:∀ r∈rs,kx s 0 r≠kx s 0 row):(mput s row rs).length=rs.length+1:=by
 unfold mput
 have key:∀ l:List Row,(∀ r∈l,kx s 0 r≠kx s 0 row)→(l.filter (fun r=>sLt (kx s 0 r) (kx s 0 row))).length+(l.filter (fun r=>sLt (kx s 0 row) (kx s 0 r))).length=l.length:=by
  intro l
  induction l with
  | nil=>intro _; rfl
  | cons a l ih=>
   intro h
   have h1:=ih fun r hr=>h r (by simp [hr])
   have h2:=h a (by simp)
   rw [List.filter_cons,List.filter_cons]
   cases h3:sLt (kx s 0 a) (kx s 0 row) with
   | true=>
    rw [sLt_asymm h3]
    simp only [if_true,Bool.false_eq_true,if_false,List.length_cons]
    omega
   | false=>
    rw [sLt_total h3 h2]
    simp only [if_true,Bool.false_eq_true,if_false,List.length_cons]
    omega
 have:=key rs hn
 simp only [List.length_append,List.length_cons]
 omega
theorem Inv.del {s:Schm} {rs:List Row} {k:ByteArray} (h:Inv s rs):Inv s (mdel s k rs):=by
 have hs:(mdel s k rs).Sublist rs:=List.filter_sublist
 refine ⟨fun r hr=>h.ok r (hs.subset hr),List.Pairwise.sublist hs h.srt,fun i hi hu a ha b hb he=>h.uni i hi hu a (hs.subset ha) b (hs.subset hb) he,?_⟩
 have:=hs.length_le
 have:=h.lim
 omega
theorem Inv.put {s:Schm} {rs:List Row} {row:Row} (h:Inv s rs) (hs:s.Right) (hr:RowOk s row) (hc:¬ Clash s rs row none) (hl:(rs.length:Int) < s.limit):Inv s (mput s row rs):=by
 obtain ⟨h0,hu0⟩:=right_zero hs
 refine ⟨fun r hm=>?_,?_,fun i hi hu a ha b hb he=>?_,?_⟩
 ·rcases mem_mput.1 hm with rfl | ⟨hm,_⟩
  ·exact hr
  ·exact h.ok r hm
 ·unfold mput
  refine List.pairwise_append.2 ⟨List.Pairwise.sublist List.filter_sublist h.srt,List.pairwise_cons.2 ⟨fun b hb=>(List.mem_filter.1 hb).2,List.Pairwise.sublist List.filter_sublist h.srt⟩,fun a ha b hb=>?_⟩
  have h1:=(List.mem_filter.1 ha).2
  rcases List.mem_cons.1 hb with rfl | hb
  ·exact h1
  ·exact sLt_trans h1 (List.mem_filter.1 hb).2
 ·rcases mem_mput.1 ha with e1 | ⟨ha',_⟩
  ·rcases mem_mput.1 hb with e2 | ⟨hb',_⟩
   ·rw [e1,e2]
   ·rw [e1] at he; exact absurd he (no_clash h hs hr hc hi hb')
  ·rcases mem_mput.1 hb with e2 | ⟨hb',_⟩
   ·rw [e2] at he; exact absurd he.symm (no_clash h hs hr hc hi ha')
   ·exact h.uni i hi hu a ha' b hb' he
 ·have:=mput_len (s:=s) (rs:=rs) (row:=row) fun r hm=>(no_clash h hs hr hc h0 hm).symm
  omega
theorem clash_del {s:Schm} {rs:List Row} {row:Row} {k:ByteArray} (hc:¬ Clash s rs row (some k)):¬ Clash s (mdel s k rs) row none:=by
 rintro ⟨r,hm,_,i,hi,hu,he⟩
 obtain ⟨h1,h2⟩:=mem_mdel.1 hm
 exact hc ⟨r,h1,fun h=>h2 (Option.some.inj h).symm,i,hi,hu,he⟩
def IxL (s:Schm) (i:Nat) (rs:List Row) (l:List Ent):Prop:=Srt l∧∀ e,e∈l↔∃ r∈rs,e=(kx s i r,.string (kx s 0 r))
theorem IxL.nil {s:Schm} {i:Nat}:IxL s i [] []:=⟨List.Pairwise.nil,fun e=>⟨fun h=>(by cases h),fun ⟨r,h,_⟩=>(by cases h)⟩⟩
theorem IxL.put {s:Schm} {i:Nat} {rs:List Row} {l:List Ent} {row:Row} (hl:IxL s i rs l) (h:Inv s rs) (hs:s.Right) (hr:RowOk s row) (hc:¬ Clash s rs row none) (hi:i < s.ixs.length):IxL s i (mput s row rs) (ins (kx s i row) (.string (kx s 0 row)) l):=by
 obtain ⟨h0,_⟩:=right_zero hs
 refine ⟨srt_ins hl.1,fun e=>?_⟩
 rw [mem_ins]
 constructor
 ·rintro (rfl | ⟨he,hn⟩)
  ·exact ⟨row,mem_mput.2 (.inl rfl),rfl⟩
  ·obtain ⟨r,hm,rfl⟩:=(hl.2 e).1 he
   exact ⟨r,mem_mput.2 (.inr ⟨hm,(no_clash h hs hr hc h0 hm).symm⟩),rfl⟩
 ·rintro ⟨r,hm,rfl⟩
  rcases mem_mput.1 hm with rfl | ⟨hm,_⟩
  ·exact .inl rfl
  ·exact .inr ⟨(hl.2 _).2 ⟨r,hm,rfl⟩,(no_clash h hs hr hc hi hm).symm⟩
theorem IxL.del {s:Schm} {i:Nat} {rs:List Row} {l:List Ent} {was:Row} (hl:IxL s i rs l) (h:Inv s rs) (hs:s.Right) (hm:was∈rs) (hi:i < s.ixs.length):IxL s i (mdel s (kx s 0 was) rs) (del (kx s i was) l):=by
 obtain ⟨h0,_⟩:=right_zero hs
 refine ⟨srt_del hl.1,fun e=>?_⟩
 rw [mem_del]
 constructor
 ·rintro ⟨he,hn⟩
  obtain ⟨r,hr,rfl⟩:=(hl.2 e).1 he
  refine ⟨r,mem_mdel.2 ⟨hr,fun h1=>hn ?_⟩,rfl⟩
  rw [h.dist hs h0 hr hm h1]
 ·rintro ⟨r,hr,rfl⟩
  obtain ⟨h1,h2⟩:=mem_mdel.1 hr
  refine ⟨(hl.2 _).2 ⟨r,h1,rfl⟩,fun h3=>h2 ?_⟩
  rw [h.dist hs hi h1 hm h3]
theorem kval_mem {k:ByteArray} {v:Value} {l:List Ent} (h:Srt l):kval k l=some v↔(k,v)∈l:=by
 rcases srt_cases (k:=k) h with ⟨A,u,C,rfl,ha,hc⟩ | ⟨A,C,rfl,ha,hc⟩
 ·rw [get_old ha hc]
  constructor
  ·intro h; rw [Option.some.inj h]; simp
  ·intro h
   rcases List.mem_append.1 h with h | h
   ·have:=ha _ h; rw [sLt_irrefl] at this; cases this
   ·rcases List.mem_cons.1 h with h | h
    ·injection h with _ h; rw [h]
    ·have:=hc _ h; rw [sLt_irrefl] at this; cases this
 ·rw [get_none ha hc]
  constructor
  ·intro h; cases h
  ·intro h
   rcases List.mem_append.1 h with h | h
   ·have:=ha _ h; rw [sLt_irrefl] at this; cases this
   ·have:=hc _ h; rw [sLt_irrefl] at this; cases this
theorem IxL.get {s:Schm} {i:Nat} {rs:List Row} {l:List Ent} (hl:IxL s i rs l) {k:ByteArray}:(kval k l=none∧∀ r∈rs,kx s i r≠k)∨∃ r∈rs,kx s i r=k∧kval k l=some (.string (kx s 0 r)):=by
 cases h:kval k l with
 | none=>
  refine .inl ⟨rfl,fun r hr he=>?_⟩
  have:=(kval_mem hl.1).2 ((hl.2 (k,.string (kx s 0 r))).2 ⟨r,hr,by rw [he]⟩)
  rw [h] at this
  cases this
 | some v=>
  obtain ⟨r,hr,he⟩:=(hl.2 _).1 ((kval_mem hl.1).1 h)
  injection he with h1 h2
  exact .inr ⟨r,hr,h1.symm,by rw [h2]⟩
abbrev TR:=List (Row×Value)
def rowsL (s:Schm) (t:TR):List Ent:=t.map fun x=>(kx s 0 x.1,x.2)
def rowsOf (t:TR):List Row:=t.map (·.1)
def tput (s:Schm) (row:Row) (v:Value) (t:TR):TR:=t.filter (fun x=>sLt (kx s 0 x.1) (kx s 0 row))++(row,v) :: t.filter (fun x=>sLt (kx s 0 row) (kx s 0 x.1))
def tdel (s:Schm) (k:ByteArray) (t:TR):TR:=t.filter fun x=>sLt (kx s 0 x.1) k || sLt k (kx s 0 x.1)
theorem rowsL_put (s:Schm) (row:Row) (v:Value) (t:TR):rowsL s (tput s row v t)=ins (kx s 0 row) v (rowsL s t)∧rowsOf (tput s row v t)=mput s row (rowsOf t):=by
 unfold rowsL tput ins rowsOf mput
 simp only [List.map_append,List.map_cons,List.filter_map]
 exact ⟨rfl,rfl⟩
theorem rowsL_del (s:Schm) (k:ByteArray) (t:TR):rowsL s (tdel s k t)=del k (rowsL s t)∧rowsOf (tdel s k t)=mdel s k (rowsOf t):=by
 unfold rowsL tdel del rowsOf mdel
 simp only [List.filter_map]
 exact ⟨rfl,rfl⟩
theorem rowsL_srt {s:Schm} {t:TR} (h:(rowsOf t).Pairwise fun a b=>sLt (kx s 0 a) (kx s 0 b)=true):Srt (rowsL s t):=by
 unfold rowsOf at h
 unfold rowsL Srt
 rw [List.pairwise_map] at h ⊢
 exact h
theorem rowsL_get {s:Schm} {t:TR} (h:(rowsOf t).Pairwise fun a b=>sLt (kx s 0 a) (kx s 0 b)=true) (k:ByteArray):(kval k (rowsL s t)=none∧∀ r∈rowsOf t,kx s 0 r≠k)∨∃ x∈t,kx s 0 x.1=k∧kval k (rowsL s t)=some x.2:=by
 have hs:=rowsL_srt h
 cases hk:kval k (rowsL s t) with
 | none=>
  refine .inl ⟨rfl,fun r hr he=>?_⟩
  obtain ⟨x,hx,rfl⟩:=List.mem_map.1 hr
  have:=(kval_mem hs).2 (List.mem_map.2 ⟨x,hx,rfl⟩)
  rw [he,hk] at this
  cases this
 | some v=>
  obtain ⟨x,hx,he⟩:=List.mem_map.1 ((kval_mem hs).1 hk)
  injection he with h1 h2
  exact .inr ⟨x,hx,h1,by rw [h2]⟩
open Classical in
noncomputable def tins (s:Schm) (rs:List Row) (row:Row):List Row×Int:=
 if ¬ Sc.FitsP s.cols row then (rs,13) else if Clash s rs row none then (rs,9) else if s.limit≤(rs.length:Int) then (rs,15) else (mput s row rs,0)
open Classical in
noncomputable def tupd (s:Schm) (rs:List Row) (k:ByteArray) (row:Row):List Row×Int:=
 if ¬ ∃ r∈rs,kx s 0 r=k then (rs,8) else if ¬ Sc.FitsP s.cols row then (rs,13) else if Clash s rs row (some k) then (rs,9) else (mput s row (mdel s k rs),0)
open Classical in
noncomputable def tdlt (s:Schm) (rs:List Row) (k:ByteArray):List Row×Int:=
 if ¬ ∃ r∈rs,kx s 0 r=k then (rs,8) else (mdel s k rs,0)
noncomputable def tlds (s:Schm) (rs:List Row):List Row→List Row×Int
 | []=>(rs,0)
 | r :: l=>if (tins s rs r).2=0 then tlds s (tins s rs r).1 l else ([],(tins s rs r).2)
theorem tins_inv {s:Schm} {rs:List Row} {row:Row} (h:Inv s rs) (hs:s.Right) (hw:∀ x∈row,Va.Val.wf x):Inv s (tins s rs row).1:=by
 unfold tins
 by_cases h1:¬ Sc.FitsP s.cols row
 ·rw [if_pos h1]; exact h
 rw [if_neg h1]
 by_cases h2:Clash s rs row none
 ·rw [if_pos h2]; exact h
 rw [if_neg h2]
 by_cases h3:s.limit≤(rs.length:Int)
 ·rw [if_pos h3]; exact h
 rw [if_neg h3]
 exact h.put hs ⟨Classical.not_not.1 h1,hw⟩ h2 (by omega)
theorem tlds_inv {s:Schm} (hs:s.Right):∀ {l rs:List Row},Inv s rs→(∀ r∈l,∀ x∈r,Va.Val.wf x)→Inv s (tlds s rs l).1
 | [],rs,h,_=>h
 | r :: l,rs,h,hw=>by
  unfold tlds
  split
  ·exact tlds_inv hs (tins_inv h hs (hw r (by simp))) fun x hx=>hw x (by simp [hx])
  ·exact Inv.nil hs
theorem tlds_cons (s:Schm) (rs:List Row) (r:Row) (l:List Row):tlds s rs (r :: l)=if (tins s rs r).2=0 then tlds s (tins s rs r).1 l else ([],(tins s rs r).2):=rfl
theorem tlds_snoc (s:Schm):∀ (l rs:List Row) (r:Row),(tlds s rs l).2=0→tlds s rs (l++[r])=if (tins s (tlds s rs l).1 r).2=0 then tins s (tlds s rs l).1 r else ([],(tins s (tlds s rs l).1 r).2)
 | [],rs,r,_=>by
  rw [List.nil_append,tlds_cons]
  show (if (tins s rs r).2=0 then ((tins s rs r).1,(0:Int)) else _)=if (tins s rs r).2=0 then tins s rs r else _
  by_cases h:(tins s rs r).2=0
  ·rw [if_pos h,if_pos h,← h]
  ·rw [if_neg h,if_neg h]
   rfl
 | a :: l,rs,r,h=>by
  rw [tlds_cons] at h
  rw [List.cons_append,tlds_cons,tlds_cons]
  by_cases h1:(tins s rs a).2=0
  ·rw [if_pos h1] at h
   rw [if_pos h1,if_pos h1]
   exact tlds_snoc s l _ r h
  ·rw [if_neg h1] at h
   exact absurd h h1
theorem tlds_stop (s:Schm):∀ (l rs m:List Row),(tlds s rs l).2≠0→tlds s rs (l++m)=([],(tlds s rs l).2)
 | [],rs,m,h=>absurd rfl h
 | a :: l,rs,m,h=>by
  rw [tlds_cons] at h
  rw [List.cons_append,tlds_cons,tlds_cons]
  by_cases h1:(tins s rs a).2=0
  ·rw [if_pos h1] at h
   rw [if_pos h1,if_pos h1]
   exact tlds_stop s l _ m h
  ·rw [if_neg h1,if_neg h1]
def ByL (s:Schm) (i:Nat) (rs by_:List Row):Prop:=(by_.Pairwise fun a b=>sLt (kx s i a) (kx s i b)=true)∧∀ r,r∈by_↔r∈rs
theorem srt_ext:∀ {l m:List Ent},Srt l→Srt m→(∀ e,e∈l↔e∈m)→l=m
 | [],[],_,_,_=>rfl
 | [],b :: m,_,_,h=>by have:=(h b).2 (by simp); cases this
 | a :: l,[],_,_,h=>by have:=(h a).1 (by simp); cases this
 | a :: l,b :: m,hl,hm,h=>by
  obtain ⟨l1,l2⟩:=List.pairwise_cons.1 hl
  obtain ⟨m1,m2⟩:=List.pairwise_cons.1 hm
  have hab:a=b:=by
   rcases List.mem_cons.1 ((h a).1 (by simp)) with h1 | h1
   ·exact h1
   ·rcases List.mem_cons.1 ((h b).2 (by simp)) with h2 | h2
    ·exact h2.symm
    ·have:=sLt_asymm (m1 a h1)
     rw [l1 b h2] at this
     cases this
  subst hab
  rw [srt_ext l2 m2 fun e=>?_]
  constructor
  ·intro he
   rcases List.mem_cons.1 ((h e).1 (by simp [he])) with rfl | h1
   ·have:=l1 e he; rw [sLt_irrefl] at this; cases this
   ·exact h1
  ·intro he
   rcases List.mem_cons.1 ((h e).2 (by simp [he])) with rfl | h1
   ·have:=m1 e he; rw [sLt_irrefl] at this; cases this
   ·exact h1
theorem ByL.ixl {s:Schm} {i:Nat} {rs by_:List Row} {l:List Ent} (h:ByL s i rs by_) (hl:IxL s i rs l):l=by_.map fun r=>(kx s i r,.string (kx s 0 r)):=by
 refine srt_ext hl.1 ?_ fun e=>?_
 ·unfold Srt
  rw [List.pairwise_map]
  exact h.1
 ·rw [hl.2,List.mem_map]
  constructor
  ·rintro ⟨r,hr,rfl⟩; exact ⟨r,(h.2 r).2 hr,rfl⟩
  ·rintro ⟨r,hr,rfl⟩; exact ⟨r,(h.2 r).1 hr,rfl⟩
theorem ByL.ex {s:Schm} {i:Nat} {rs:List Row} {l:List Ent} (h:Inv s rs) (hs:s.Right) (hi:i < s.ixs.length) (hl:IxL s i rs l):∃ by_,ByL s i rs by_:=by
 have key:∀ m:List Ent,(∀ e∈m,∃ r∈rs,e=(kx s i r,.string (kx s 0 r)))→Srt m→∃ by_:List Row,m=by_.map (fun r=>(kx s i r,.string (kx s 0 r)))∧∀ r∈by_,r∈rs:=by
  intro m
  induction m with
  | nil=>intro _ _; exact ⟨[],rfl,fun _ h=>(by cases h)⟩
  | cons e m ih=>
   intro h1 h2
   obtain ⟨b,hb,hm⟩:=ih (fun x hx=>h1 x (by simp [hx])) (List.pairwise_cons.1 h2).2
   obtain ⟨r,hr,he⟩:=h1 e (by simp)
   refine ⟨r :: b,by rw [List.map_cons,← hb,← he],fun x hx=>?_⟩
   rcases List.mem_cons.1 hx with rfl | hx
   ·exact hr
   ·exact hm x hx
 obtain ⟨b,hb,hm⟩:=key l (fun e he=>(hl.2 e).1 he) hl.1
 refine ⟨b,?_,fun r=>⟨hm r,fun hr=>?_⟩⟩
 ·have:=hl.1
  rw [hb] at this
  unfold Srt at this
  rw [List.pairwise_map] at this
  exact this
 ·have:=(hl.2 _).2 ⟨r,hr,rfl⟩
  rw [hb] at this
  obtain ⟨x,hx,he⟩:=List.mem_map.1 this
  injection he with h1 _
  rw [← h.dist hs hi (hm x hx) hr h1]
  exact hx
theorem nodup_le {α:Type}:∀ {l m:List α},l.Nodup→(∀ x∈l,x∈m)→l.length≤m.length
 | [],_,_,_=>Nat.zero_le _
 | a :: l,m,hn,hs=>by
  obtain ⟨h1,h2⟩:=List.nodup_cons.1 hn
  obtain ⟨A,B,rfl⟩:=List.append_of_mem (hs a (by simp))
  have:=nodup_le (m:=A++B) h2 fun x hx=>by
   have h3:=hs x (by simp [hx])
   rcases List.mem_append.1 h3 with h3 | h3
   ·simp [h3]
   ·rcases List.mem_cons.1 h3 with rfl | h3
    ·exact absurd hx h1
    ·simp [h3]
  simp only [List.length_append,List.length_cons] at this ⊢
  omega
theorem IxL.len {s:Schm} {i:Nat} {rs:List Row} {l:List Ent} (hl:IxL s i rs l) (h:Inv s rs) (hs:s.Right) (hi:i < s.ixs.length):l.length≤1000:=by
 obtain ⟨b,hb⟩:=ByL.ex h hs hi hl
 have e:=hb.ixl hl
 have hnd:b.Nodup:=hb.1.imp fun {x y} hxy e=>by rw [e,sLt_irrefl] at hxy; cases hxy
 have hle:b.length≤rs.length:=nodup_le hnd fun x hx=>(hb.2 x).1 hx
 have h1:=h.lim
 have h2:=hs.2.2.2.1.2
 rw [e,List.length_map]
 omega
theorem ByL.zero {s:Schm} {rs:List Row} (h:Inv s rs):ByL s 0 rs rs:=⟨h.srt,fun _=>Iff.rfl⟩
theorem ByL.len {s:Schm} {i:Nat} {rs a b:List Row} (h:ByL s i rs a) (k:ByL s i rs b) (hi:∀ x∈rs,∀ y∈rs,kx s i x=kx s i y→x=y):a=b:=by
 have e:IxL s i rs (b.map fun r=>(kx s i r,.string (kx s 0 r))):=⟨by unfold Srt; rw [List.pairwise_map]; exact k.1,fun e=>by
  rw [List.mem_map]
  constructor
  ·rintro ⟨r,hr,rfl⟩; exact ⟨r,(k.2 r).1 hr,rfl⟩
  ·rintro ⟨r,hr,rfl⟩; exact ⟨r,(k.2 r).2 hr,rfl⟩⟩
 have h1:=h.ixl e
 have key:∀ l m:List Row,(∀ x∈l,x∈rs)→(∀ x∈m,x∈rs)→(l.map fun r=>((kx s i r,.string (kx s 0 r)):Ent))=m.map (fun r=>(kx s i r,.string (kx s 0 r)))→l=m:=by
  intro l
  induction l with
  | nil=>
   intro m _ _ he
   cases m with
   | nil=>rfl
   | cons _ _=>simp at he
  | cons x l ih=>
   intro m hl hm he
   cases m with
   | nil=>simp at he
   | cons y m=>
    rw [List.map_cons,List.map_cons] at he
    injection he with h1 h2
    injection h1 with h1 _
    rw [hi x (hl x (by simp)) y (hm y (by simp)) h1,ih m (fun z hz=>hl z (by simp [hz])) (fun z hz=>hm z (by simp [hz])) h2]
 exact key a b (fun x hx=>(h.2 x).1 hx) (fun x hx=>(k.2 x).1 hx) h1.symm
theorem mput_app {s:Schm} {row:Row} {A B:List Row} (ha:∀ r∈A,sLt (kx s 0 r) (kx s 0 row)=true) (hb:∀ r∈B,sLt (kx s 0 row) (kx s 0 r)=true):mput s row (A++B)=A++row :: B:=by
 unfold mput
 rw [List.filter_append,List.filter_append,List.filter_eq_self.2 ha,List.filter_eq_self.2 hb,List.filter_eq_nil_iff.2 fun r hr=>by rw [sLt_asymm (hb r hr)]; decide,List.filter_eq_nil_iff.2 fun r hr=>by rw [sLt_asymm (ha r hr)]; decide]
 simp
end Pt
end Go.Proofs.YtjcgociobhhijaaGreatDoor
namespace Go.Proofs.YtjcgociobhhijaaGreatDoor
open Go SX Go.ChangeShapes Go.WideShapes Go.ChangeAt Go.RowKit Va Cd Sc
namespace Tb
theorem srows2:SliceT prog T.s_s_api_Value T.s_api_Value 1 24 [.slice none 0 0]:=SliceT.of_tab (ti:=ti32) (te:=ti37) tabOK (by kernel_rfl) (by kernel_rfl) (by kernel_rfl) (by kernel_rfl)
section
variable {w:World} {K:Value→World→Prop} {p q:Option Addr} {n c m d:Nat}
theorem app_cell {t e by_:Nat} {z xs:List Value} {x:Value} (hT:SliceT prog t e 1 by_ z) (hby:0 < by_) (hx:x.oneCell'=true) (ho:Own w e 1 p n c xs) (hsz:(n+1) * by_≤140737488355328)
  (hK:∀ p' c' w',Own w' e 1 p' (n+1) c' (xs++[x])→Upd (Fp p c) w w'→(∀ k,Fp p' c' k→Fp p c k∨w.heap.size≤k)→K (.slice p' (n+1) c') w') :
  ∀ g w1,New w (.cells #[x] e) g w1→BuiltV prog .append #[t,t] t #[.slice p n c,.slice (some (Addr.mk g 0 none)) 1 1] w1 K:=by
 refine New.use (by simpa using hx) fun g w1 hb hu hge _=>?_
 refine append_own (m:=1) hT (.inl hT.desc) (ho.upd0 hu) (Src.slice (m:=1) (ys:=[x]) (At.of_blk hb fun j v hj=>by rw [Nat.zero_add]; exact hj) rfl (by simpa using hx)) (by decide) hby hsz fun p' c' w' ho' hu' hf'=>?_
 refine hK p' c' w' ho' (hu.trans hu' (fun _ _ h=>h.elim) (fun _ _ h=>h)) fun k hk=>?_
 rcases hf' k hk with h | h
 ·exact .inl h
 ·exact .inr (Nat.le_trans hu.size h)
theorem clone_row {r:List Val} (hat:At w p (vals r)) (hl:r.length=n) (hn:n≤1000000) (hK:∀ p' c' w',Own w' T.api_Value 3 p' n c' (vals r)→Upd Nothing w w'→(∀ k,Fp p' c' k→w.heap.size≤k)→K (.slice p' n c') w') :
  Cv F.z90 #[.slice p n c] w K:=
 R.z90 (by
  unfold C.z90
  exact G.clone sval (by decide) (by decide) hat (by rw [vals_length,hl]) (vals_one r) (by omega) (fun hp=>by
   rcases Nat.eq_zero_or_pos n with h | h
   ·exact h
   ·obtain ⟨a,h1,_⟩:=hat.val (show 0 < r.length by omega)
    rw [hp] at h1
    cases h1) hK)
end
theorem own_one' {w:World} {e s n c e' g:Nat} {p:Option Addr} {xs l:List Value} (h:Own w e s p n c xs) (hb:Blk w g l e') (he:e≠e'):∀ k,Fp p c k→¬ SX.One g k:=fun k hk hk'=>own_not_typed (es:=[e']) h (by simpa using he) k hk ⟨l,e',by rw [show k=g from hk']; exact hb,by simp⟩
theorem moves_refl {S S':World→Nat→Prop} {w:World} (h:∀ k,S w k→S' w k):Moves S S' Nothing w w:=⟨Upd.refl _ _,fun k _ hs=>⟨fun f=>f,h k hs⟩⟩
theorem typed_sub {w:World} {es fs:List Nat} {k:Nat} (h:Typed w es k) (hs:∀ e∈es,e∈fs):Typed w fs k:=by
 obtain ⟨l,e,hb,he⟩:=h
 exact ⟨l,e,hb,hs e he⟩
theorem choose_list {α:Type} {P:Nat→α→Prop}:∀ (n:Nat),(∀ i,i < n→∃ x,P i x)→∃ l:List α,l.length=n∧∀ i (h:i < l.length),P i l[i]
 | 0,_=>⟨[],rfl,fun i h=>by simp at h⟩
 | n+1,h=>by
  obtain ⟨l,hl,hp⟩:=choose_list n fun i hi=>h i (by omega)
  obtain ⟨x,hx⟩:=h n (by omega)
  refine ⟨l++[x],by simp [hl],fun i hi=>?_⟩
  by_cases hin:i < l.length
  ·rw [List.getElem_append_left hin]; exact hp i hin
  ·have:i=n:=by simp at hi; omega
   subst this
   rw [List.getElem_append_right (by omega)]
   simpa using hx
def RowIn (W:World) (q:Option Addr) (m:Nat) (r:Row):Prop:=At W q (vals r)∧r.length=m
def RwsP (P:Option Addr→Nat→Row→Prop) (w:World) (p:Option Addr) (n:Nat) (l:List Row):Prop:=(∀ i (h:i < l.length),∃ (a:Addr) (q:Option Addr) (m d:Nat),p=some a∧w.cell? (a.add i)=some (.slice q m d)∧P q m l[i]∧m≤d)∧l.length=n
theorem RwsP.upd0 {P:Option Addr→Nat→Row→Prop} {w w':World} {p:Option Addr} {n:Nat} {l:List Row} (h:RwsP P w p n l) (hu:Upd Nothing w w'):RwsP P w' p n l:=⟨fun i hi=>by
 obtain ⟨a,q,m,d,h1,h2,h3,h4⟩:=h.1 i hi
 exact ⟨a,q,m,d,h1,hu.cell h2 fun f=>f,h3,h4⟩,h.2⟩
theorem RwsP.plain {W w:World} {p:Option Addr} {n:Nat} {l:List Row} (h:RwsP (RowIn W) w p n l) (hu:Upd Nothing W w):Rws w p l:=fun i hi=>by
 obtain ⟨a,q,m,d,h1,h2,h3,h4⟩:=h.1 i hi
 exact ⟨a,q,m,d,h1,h2,h3.1.upd0 hu,h3.2,h4⟩
theorem RwsP.plain' {W w:World} {p:Option Addr} {n:Nat} {l:List Row} (h:RwsP (RowIn W) W p n l) (hu:Upd Nothing W w):Rws w p l:=(h.upd0 hu).plain hu
structure Act where
 kind:Int
 n:Int
 key:ByteArray
 row:Row
 rows:List Row
def ActAt (W w:World) (a:Addr) (x:Act):Prop:=∃ (q:Option Addr) (m d:Nat) (q':Option Addr) (m' d':Nat),SX.cellsAt w a 0 [.int .i64 x.kind,.int .i64 x.n,.string x.key,.slice q m d,.slice q' m' d']∧RowIn W q m x.row∧m≤d∧RwsP (RowIn W) W q' m' x.rows∧m'≤d'
def ActsAt (W w:World) (p:Option Addr) (n:Nat) (l:List Act):Prop:=(∀ i (h:i < l.length),∃ a,p=some a∧ActAt W w (a.add (i * 5)) l[i])∧l.length=n
theorem ActsAt.upd0 {W w w':World} {p:Option Addr} {n:Nat} {l:List Act} (h:ActsAt W w p n l) (hu:Upd Nothing w w'):ActsAt W w' p n l:=⟨fun i hi=>by
 obtain ⟨a,ha,q,m,d,q',m',d',h1,h2⟩:=h.1 i hi
 exact ⟨a,ha,q,m,d,q',m',d',cellsAt_upd0 hu h1,h2⟩,h.2⟩
def Act.wf (x:Act):Prop:=(-9223372036854775808≤x.kind∧x.kind≤9223372036854775807)∧(-9223372036854775808≤x.n∧x.n≤9223372036854775807)∧(∀ v∈x.row,Va.Val.wf v)∧∀ r∈x.rows,∀ v∈r,Va.Val.wf v
section
variable {W:World} {cs:List Value}
theorem rd_rows (h:Rd prog W T.s_s_api_Value cs):∃ (p:Option Addr) (n c:Nat) (l:List Row),cs=[.slice p n c]∧n≤c∧c≤maxLen∧RwsP (RowIn W) W p n l∧∀ r∈l,∀ v∈r,Va.Val.wf v:=by
 obtain ⟨p,n,c,rfl,hle,hc,hnil,hel⟩:=h.slice Tryz.underlying32
 have hs:prog.cellsOf T.s_api_Value=1:=by kernel_rfl
 obtain ⟨l,hl,hp⟩:=choose_list (P:=fun i (r:Row)=>(∃ (a:Addr) (q:Option Addr) (m d:Nat),p=some a∧W.cell? (a.add i)=some (.slice q m d)∧RowIn W q m r∧m≤d)∧∀ v∈r,Va.Val.wf v) n fun i hi=>by
  obtain ⟨a,es,hpa,hm,hr⟩:=hel i hi
  obtain ⟨q,m,d,xs,rfl,hmd,_,hat,hxl,hw⟩:=rd_vals hr
  obtain ⟨_,hcell⟩:=cells_of_mapM (W:=W) (f:=fun j=>(a.add (i * prog.cellsOf T.s_api_Value)).add j) hm
  have c0:=hcell 0 _ rfl
  rw [hs,Addr.add_two,Nat.mul_one,Nat.add_zero] at c0
  exact ⟨xs,⟨a,q,m,d,hpa,c0,⟨hat,hxl⟩,hmd⟩,hw⟩
 refine ⟨p,n,c,l,rfl,hle,hc,⟨fun i hi=>(hp i hi).1,hl⟩,fun r hr=>?_⟩
 obtain ⟨i,hi,rfl⟩:=List.mem_iff_getElem.1 hr
 exact (hp i hi).2
theorem rd_act (h:Rd prog W T.affluxlaw09_Act cs):∃ (x:Act) (q:Option Addr) (m d:Nat) (q':Option Addr) (m' d':Nat),cs=[.int .i64 x.kind,.int .i64 x.n,.string x.key,.slice q m d,.slice q' m' d']∧RowIn W q m x.row∧m≤d∧RwsP (RowIn W) W q' m' x.rows∧m'≤d'∧x.wf:=by
 obtain ⟨hl,hf⟩:=h.struct Tryz.underlying104
 have h5:prog.cellsOf T.affluxlaw09_Act=5:=by kernel_rfl
 have h1:prog.cellsOf T.int=1:=by kernel_rfl
 have h1b:prog.cellsOf T.string=1:=by kernel_rfl
 have h1c:prog.cellsOf T.s_api_Value=1:=by kernel_rfl
 have h1d:prog.cellsOf T.s_s_api_Value=1:=by kernel_rfl
 rw [h5] at hl
 match cs,hl with
 | [u0,u1,u2,u3,u4],_=>
  have f0:Rd prog W T.int (([u0,u1,u2,u3,u4].drop 0).take (prog.cellsOf T.int)):=hf 0 _ rfl
  have f1:Rd prog W T.int (([u0,u1,u2,u3,u4].drop 1).take (prog.cellsOf T.int)):=hf 1 _ rfl
  have f2:Rd prog W T.string (([u0,u1,u2,u3,u4].drop 2).take (prog.cellsOf T.string)):=hf 2 _ rfl
  have f3:Rd prog W T.s_api_Value (([u0,u1,u2,u3,u4].drop 3).take (prog.cellsOf T.s_api_Value)):=hf 3 _ rfl
  have f4:Rd prog W T.s_s_api_Value (([u0,u1,u2,u3,u4].drop 4).take (prog.cellsOf T.s_s_api_Value)):=hf 4 _ rfl
  rw [h1] at f0 f1
  rw [h1b] at f2
  rw [h1c] at f3
  rw [h1d] at f4
  replace f0:Rd prog W T.int [u0]:=f0
  replace f1:Rd prog W T.int [u1]:=f1
  replace f2:Rd prog W T.string [u2]:=f2
  replace f3:Rd prog W T.s_api_Value [u3]:=f3
  replace f4:Rd prog W T.s_s_api_Value [u4]:=f4
  obtain ⟨k,e0,w0⟩:=f0.int Tryz.underlying3
  obtain ⟨n,e1,w1⟩:=f1.int Tryz.underlying3
  obtain ⟨s,e2,_⟩:=f2.str Tryz.underlying9
  obtain ⟨q,m,d,xs,e3,hmd,_,hat,hxl,hw⟩:=rd_vals f3
  obtain ⟨q',m',d',l,e4,hmd',_,hrs,hw'⟩:=rd_rows f4
  simp only [List.cons.injEq,and_true] at e0 e1 e2 e3 e4
  subst e0; subst e1; subst e2; subst e3; subst e4
  exact ⟨⟨k,n,s,xs,l⟩,q,m,d,q',m',d',rfl,⟨hat,hxl⟩,hmd,hrs,hmd',wf_i64 w0,wf_i64 w1,hw,hw'⟩
theorem rd_acts (h:Rd prog W T.s_affluxlaw09_Act cs):∃ (p:Option Addr) (n c:Nat) (l:List Act),cs=[.slice p n c]∧n≤c∧ActsAt W W p n l∧∀ x∈l,x.wf:=by
 obtain ⟨p,n,c,rfl,hle,hc,hnil,hel⟩:=h.slice Tryz.underlying26
 have hs:prog.cellsOf T.affluxlaw09_Act=5:=by kernel_rfl
 obtain ⟨l,hl,hp⟩:=choose_list (P:=fun i (x:Act)=>(∃ a,p=some a∧ActAt W W (a.add (i * 5)) x)∧x.wf) n fun i hi=>by
  obtain ⟨a,es,hpa,hm,hr⟩:=hel i hi
  obtain ⟨x,q,m,d,q',m',d',rfl,h1,h2,h3,h4,h5⟩:=rd_act hr
  obtain ⟨_,hcell⟩:=cells_of_mapM (W:=W) (f:=fun j=>(a.add (i * prog.cellsOf T.affluxlaw09_Act)).add j) hm
  have c0:=hcell 0 _ rfl
  have c1:=hcell 1 _ rfl
  have c2:=hcell 2 _ rfl
  have c3:=hcell 3 _ rfl
  have c4:=hcell 4 _ rfl
  rw [hs] at c0 c1 c2 c3 c4
  exact ⟨x,⟨a,hpa,q,m,d,q',m',d',⟨c0,c1,c2,c3,c4,trivial⟩,h1,h2,h3,h4⟩,h5⟩
 refine ⟨p,n,c,l,rfl,hle,⟨fun i hi=>(hp i hi).1,hl⟩,fun x hx=>?_⟩
 obtain ⟨i,hi,rfl⟩:=List.mem_iff_getElem.1 hx
 exact (hp i hi).2
end
end Tb
end Go.Proofs.YtjcgociobhhijaaGreatDoor
namespace Go.Proofs.YtjcgociobhhijaaGreatDoor
open Go SX Va Cd Sc Bt
namespace Tb
theorem ownsch_typed {es:List Nat} {w w':World} {s:Schm} {cp ip:Option Addr} {cc ic B:Nat} (h:OwnSch w s cp cc ip ic B) (hu:Upd (Typed w es) w w') (h1:T.api_Column∉es) (h2:T.api_Index∉es) (h3:T.int∉es):OwnSch w' s cp cc ip ic B:=by
 obtain ⟨xs,ho,hl,h1',hx⟩:=h.ixs
 refine ⟨hu.town h.cols h1,⟨xs,hu.town ho h2,hl,h1',fun i hi=>?_⟩,h.cols0,h.ixs0⟩
 obtain ⟨q,n,c,e0,e1,hi',hoi,hf⟩:=hx i hi
 exact ⟨q,n,c,e0,e1,hi',hu.town hoi h3,hf⟩
structure Tbl where
 g:Nat
 cp:Option Addr
 cc:Nat
 ip:Option Addr
 ic:Nat
 B:Nat
 rt:Tv.Tre
 ix:List Ts.Tre
 xp:Option Addr
 xc:Nat
 t:Pt.TR
def TTy:List Nat:=T.table_Table :: T.table_index :: (Ts.TEs++Tv.TEs)
def FT (t:Tbl) (k:Nat):Prop:=k=t.g∨Tv.TF t.rt k∨Ts.TFs t.ix k∨Fp t.xp t.xc k
def IxE (s:Schm) (xs:List Value) (ix:List Ts.Tre):Prop:=xs.length=ix.length * 3∧(∀ v∈xs,v.oneCell'=true)∧∀ i (h:i < ix.length),∃ (h':i < s.ixs.length) (q:Option Addr) (n c:Nat),xs[i * 3]? = some (.slice q n c)∧xs[i * 3+1]? = some (.bool s.ixs[i].unique)∧xs[i * 3+2]? = some (.pointer (some ⟨ix[i].g,0,none⟩))
def RowV (w:World) (v:Value) (r:Row):Prop:=∃ (q:Option Addr) (m d:Nat),v = .slice q m d∧RowS (TyS [T.api_Value]) w q m r∧m≤d
theorem RowV.keep {es:List Nat} {w w':World} {v:Value} {r:Row} (h:RowV w v r) (hu:Upd (Typed w es) w w') (he:T.api_Value∉es):RowV w' v r:=by
 obtain ⟨q,m,d,hv,hr,hd⟩:=h
 exact ⟨q,m,d,hv,hr.keep (keeps_typed hu (by simpa using he)),hd⟩
theorem RowV.upd0 {w w':World} {v:Value} {r:Row} (h:RowV w v r) (hu:Upd Nothing w w'):RowV w' v r:=by
 obtain ⟨q,m,d,hv,hr,hd⟩:=h
 exact ⟨q,m,d,hv,hr.keep (keeps_nothing hu),hd⟩
theorem RowV.isV {w:World} {v:Value} {r:Row} (h:RowV w v r):Tv.IsV v:=by
 obtain ⟨q,m,d,hv,_,hd⟩:=h
 exact ⟨q,m,d,hv⟩
def Tbl.sv (s:Schm) (t:Tbl):Value:=.agg #[.string s.name,.slice t.cp s.cols.length t.cc,.slice t.ip s.ixs.length t.ic,.int .i64 s.limit,.int .i64 s.parts,.int .i64 s.by_]
structure TabAt (w:World) (s:Schm) (t:Tbl):Prop where
 right:s.Right
 small:Small s
 hdr:Blk w t.g [.string s.name,.slice t.cp s.cols.length t.cc,.slice t.ip s.ixs.length t.ic,.int .i64 s.limit,.int .i64 s.parts,.int .i64 s.by_,.pointer (some ⟨t.rt.g,0,none⟩),.slice t.xp t.ix.length t.xc] T.table_Table
 sch:OwnSch w s t.cp t.cc t.ip t.ic t.B
 rt:Tv.At' w t.rt
 rl:t.rt.l=Pt.rowsL s t.t
 rows:∀ x∈t.t,RowV w x.2 x.1
 ix:Ts.Trs w t.ix
 il:t.ix.length=s.ixs.length
 ixl:∀ i (h:i < t.ix.length),Pt.IxL s i (Pt.rowsOf t.t) t.ix[i].l
 xs:∃ xs,Own w T.table_index 3 t.xp t.ix.length t.xc xs∧IxE s xs t.ix
 inv:Pt.Inv s (Pt.rowsOf t.t)
abbrev Tbl.rs (t:Tbl):List Row:=Pt.rowsOf t.t
section
variable {w w':World} {s:Schm} {t:Tbl} {k:Nat}
theorem TabAt.typed (h:TabAt w s t) (hk:FT t k):Typed w TTy k:=by
 rcases hk with rfl | hk | hk | hk
 ·exact ⟨_,_,h.hdr,by simp [TTy]⟩
 ·exact typed_sub (h.rt.typed hk) fun e he=>by simp [TTy,he]
 ·exact typed_sub (h.ix.typed hk) fun e he=>by simp [TTy,he]
 ·obtain ⟨xs,ho,_⟩:=h.xs
  exact own_typed ho (by simp [TTy]) k hk
theorem TabAt.lt (h:TabAt w s t) (hk:FT t k):k < w.heap.size:=by
 obtain ⟨l,e,hb,_⟩:=h.typed hk
 exact hb.lt
theorem TabAt.nrows (h:TabAt w s t):t.rs.length≤1000:=by
 have h1:=h.inv.lim
 have h2:=h.right.2.2.2.1.2
 show (Pt.rowsOf t.t).length≤1000
 omega
theorem TabAt.upd {F:Nat→Prop} (h:TabAt w s t) (hu:Upd F w w') (hF:∀ k,F k→Typed w TTy k) (hn:∀ k,FT t k→¬ F k):TabAt w' s t:=by
 have hu':Upd (Typed w TTy) w w':=hu.mono fun k _ hk=>hF k hk
 obtain ⟨xs,ho,hx⟩:=h.xs
 exact ⟨h.right,h.small,hu.blk h.hdr (hn _ (.inl rfl)),ownsch_typed h.sch hu' (by decide) (by decide) (by decide),h.rt.upd hu fun k hk=>hn k (.inr (.inl hk)),h.rl,fun x hx=>(h.rows x hx).keep hu' (by decide),h.ix.upd hu fun k hk=>hn k (.inr (.inr (.inl hk))),h.il,h.ixl,⟨xs,ho.upd hu fun k hk=>hn k (.inr (.inr (.inr hk))),hx⟩,h.inv⟩
theorem TabAt.upd0 (h:TabAt w s t) (hu:Upd Nothing w w'):TabAt w' s t:=h.upd hu (fun _ f=>f.elim) fun _ _ f=>f
theorem TabAt.sx (h:TabAt w s t):SchEx w s (t.sv s):=h.sch.ex
theorem TabAt.sat (h:TabAt w s t):SchAt w s (t.sv s):=h.sx.at h.small
end
theorem TabAt.upd' {w w':World} {s:Schm} {t:Tbl} {g e:Nat} {L:List Value} (h:TabAt w s t) (hu:Upd (SX.One g) w w') (hb:Blk w g L e) (he:e∉TTy) (h1:T.api_Column≠e) (h2:T.api_Index≠e) (h3:T.int≠e) (h4:T.api_Value≠e):TabAt w' s t:=by
 have hne:∀ k,FT t k→¬ SX.One g k:=fun k hk e'=>by
  have:=h.typed hk
  rw [show k=g from e'] at this
  exact Typed.not hb he this
 have hu':Upd (Typed w [e]) w w':=hu.tone hb (by simp)
 obtain ⟨xs,ho,hx⟩:=h.xs
 exact ⟨h.right,h.small,hu.blk h.hdr (hne _ (.inl rfl)),ownsch_typed h.sch hu' (by simpa using h1) (by simpa using h2) (by simpa using h3),h.rt.upd hu fun k hk=>hne k (.inr (.inl hk)),h.rl,fun x hx=>(h.rows x hx).keep hu' (by simpa using h4),h.ix.upd hu fun k hk=>hne k (.inr (.inr (.inl hk))),h.il,h.ixl,⟨xs,ho.upd hu fun k hk=>hne k (.inr (.inr (.inr hk))),hx⟩,h.inv⟩
structure TabMv (w w':World) (s:Schm) (t t':Tbl):Prop where
 at_:TabAt w' s t'
 upd:Upd (FT t) w w'
 fresh:∀ k,FT t' k→FT t k∨w.heap.size≤k
 g:t'.g=t.g
theorem TabMv.refl {w w':World} {s:Schm} {t:Tbl} (h:TabAt w s t) (hu:Upd Nothing w w'):TabMv w w' s t t:=⟨h.upd0 hu,hu.mono fun _ _ f=>f.elim,fun k hk=>.inl hk,rfl⟩
theorem TabMv.trans {w w' w'':World} {s:Schm} {t t' t'':Tbl} (h:TabMv w w' s t t') (k:TabMv w' w'' s t' t''):TabMv w w'' s t t'':=⟨k.at_,h.upd.trans k.upd (fun _ _ h=>h) (fun i hi hf=>by
 rcases h.fresh i hf with h | h
 ·exact h
 ·omega),fun i hi=>by
 rcases k.fresh i hi with h1 | h1
 ·exact h.fresh i h1
 ·exact .inr (Nat.le_trans h.upd.size h1),k.g.trans h.g⟩
theorem TabMv.more {w w' w'':World} {s:Schm} {t t':Tbl} (h:TabMv w w' s t t') (hu:Upd Nothing w' w''):TabMv w w'' s t t':=h.trans (TabMv.refl h.at_ hu)
theorem TabMv.after {w w' w'':World} {s:Schm} {t t':Tbl} (ht:TabAt w s t) (hu:Upd Nothing w w') (h:TabMv w' w'' s t t'):TabMv w w'' s t t':=(TabMv.refl ht hu).trans h
end Tb
end Go.Proofs.YtjcgociobhhijaaGreatDoor
namespace Go.Proofs.YtjcgociobhhijaaGreatDoor
open Go SX Bt
namespace Ts
def nx (b:Bool) (k:ByteArray) (e:Ent):Bool:=if b=true then !sLt e.1 k else sLt k e.1
def nxt (b:Bool) (k:ByteArray) (l:List Ent):Option Ent:=l.find? (nx b k)
theorem nx_mono {b:Bool} {k:ByteArray} {x e:Ent} (h:sLt x.1 e.1=true) (hx:nx b k x=true):nx b k e=true:=by
 unfold nx at hx ⊢
 cases b with
 | true=>
  simp only [if_true,Bool.not_eq_true'] at hx ⊢
  cases he:sLt e.1 k with
  | false=>rfl
  | true=>rw [sLt_trans h he] at hx; cases hx
 | false=>
  simp only [Bool.false_eq_true,if_false] at hx ⊢
  exact sLt_trans hx h
theorem nx_lo {b:Bool} {k:ByteArray} {l:List Ent} (h:Lo k l):∀ e∈l,nx b k e=false:=fun e he=>by
 unfold nx
 cases b with
 | true=>rw [if_pos rfl,h e he]; rfl
 | false=>rw [if_neg (by decide)]; exact sLt_asymm (h e he)
theorem nx_hi {b:Bool} {k:ByteArray} {l:List Ent} (h:Hi k l):∀ e∈l,nx b k e=true:=fun e he=>by
 unfold nx
 cases b with
 | true=>rw [if_pos rfl,sLt_asymm (h e he)]; rfl
 | false=>rw [if_neg (by decide)]; exact h e he
theorem lw_nx {b:Bool} {k:ByteArray}:∀ {es:List Ent} {bs:List (List Ent)},Srt (lw es bs)→(∀ e∈es,nx b k e=false)→∀ e∈lw es bs,nx b k e=false
 | [],[],_,_=>fun e he=>by simp [lw] at he
 | [],_ :: _,_,_=>fun e he=>by simp [lw] at he
 | _ :: _,[],_,_=>fun e he=>by simp [lw] at he
 | e :: es,b :: bs,h,hl=>by
  have h':Srt (b++e :: lw es bs):=h
  obtain ⟨_,h2,h3⟩:=h'.app
  have he:=hl e (by simp)
  intro x hx
  have hx':x∈b++e :: lw es bs:=hx
  rcases List.mem_append.1 hx' with hx | hx
  ·refine Bool.eq_false_iff.2 fun hxx=>?_
   rw [nx_mono (h3 x hx e (by simp)) hxx] at he
   cases he
  ·rcases List.mem_cons.1 hx with rfl | hx
   ·exact he
   ·exact lw_nx (List.pairwise_cons.1 h2).2 (fun y hy=>hl y (by simp [hy])) x hx
theorem rw_nx {b:Bool} {k:ByteArray}:∀ {es:List Ent} {bs:List (List Ent)},bs.length=es.length→(∀ e∈es,nx b k e=true)→nxt b k (rw' es bs)=es.head?
 | [],[],_,_=>rfl
 | [],_ :: _,h,_=>by simp at h
 | _ :: _,[],h,_=>by simp at h
 | e :: es,b' :: bs,h,hl=>by
  show (e :: (b'++rw' es bs)).find? _=some e
  rw [List.find?_cons,hl e (by simp)]
theorem nxt_none {b:Bool} {k:ByteArray} {l:List Ent} (h:∀ e∈l,nx b k e=false):nxt b k l=none:=List.find?_eq_none.2 fun e he=>by rw [h e he]; decide
theorem nxt_app (b:Bool) (k:ByteArray) (l m:List Ent):nxt b k (l++m)=(nxt b k l).or (nxt b k m):=List.find?_append
theorem nxt_head {b:Bool} {k:ByteArray}:∀ {l:List Ent},(∀ e∈l,nx b k e=true)→nxt b k l=l.head?
 | [],_=>rfl
 | e :: l,h=>by unfold nxt; rw [List.find?_cons,h e (by simp)]; rfl
theorem nxt_self {k:ByteArray} {u:Value} {l:List Ent} (hs:Srt l) (h:(k,u)∈l):nxt true k l=some (k,u):=by
 rcases srt_cases (k:=k) hs with ⟨A,u',C,rfl,ha,hc⟩ | ⟨A,C,rfl,ha,hc⟩
 ·have hu:u=u':=by
   rcases List.mem_append.1 h with h | h
   ·have:=ha _ h; rw [sLt_irrefl] at this; cases this
   ·rcases List.mem_cons.1 h with h | h
    ·injection h
    ·have:=hc _ h; rw [sLt_irrefl] at this; cases this
  subst hu
  rw [nxt_app,nxt_none (nx_lo ha)]
  show (((k,u) :: C).find? _)=_
  rw [List.find?_cons,show nx true k (k,u)=true by unfold nx; rw [if_pos rfl,sLt_irrefl]; rfl]
 ·rcases List.mem_append.1 h with h | h
  ·have:=ha _ h; rw [sLt_irrefl] at this; cases this
  ·have:=hc _ h; rw [sLt_irrefl] at this; cases this
def BestAt (w:World) (best:Option Addr) (bv:Option Ent):Prop:=(bv=none∧best=none)∨∃ e a,bv=some e∧best=some a∧SX.cellsAt w a 0 [.string e.1,e.2]∧IsV e.2
theorem BestAt.upd0 {w w':World} {best:Option Addr} {bv:Option Ent} (h:BestAt w best bv) (hu:Upd Nothing w w'):BestAt w' best bv:=by
 rcases h with h | ⟨e,a,h1,h2,h3,h4⟩
 ·exact .inl h
 ·exact .inr ⟨e,a,h1,h2,cellsAt_upd0 hu h3,h4⟩
def tell (r:Option Ent):Value:=match r with
 | none=>.tuple #[.string (bs []),.string (bs []),.bool false]
 | some e=>.tuple #[.string e.1,e.2,.bool true]
def PgNx (w:World) (b:Bool) (k:ByteArray) (R:Option Ent) (best q:Option Addr) (n:Nat):Prop:=∃ (bv:Option Ent) (p:Pg n) (lo:Nat),BestAt w best bv∧q=some ⟨(root n p).a,0,none⟩∧Ok n lo 5 p∧Srt (toL n p)∧(∀ e∈toL n p,IsV e.2)∧RS TT w (recs n p)∧(nxt b k (toL n p)).or bv=R
section
variable {w:World} {K:Value→World→Prop} {k:ByteArray} {b:Bool}
theorem told_spec {best:Option Addr} {bv:Option Ent} (h:BestAt w best bv) (hK:∀ w',Upd Nothing w w'→K (tell bv) w'):Cv F.z181 #[.pointer best] w K:=
 R.z181 (by
  unfold C.z181
  rcases h with ⟨rfl,rfl⟩ | ⟨⟨k,v⟩,a,rfl,rfl,hc,⟨u,rfl⟩⟩
  ·exact ifB_mk (fun _=>hK w (Upd.refl _ _)) (fun h=>by cases h)
  ·exact ifB_mk (fun h=>by cases h) (fun _=>⟨_,rfl,_,hc.1,_,rfl,_,hc.2.1,hK _ (Upd.drew _ _)⟩))
theorem tell_get {r:Option Ent} (hv:∀ e,r=some e→IsV e.2):∃ (a c:ByteArray) (o:Bool),tell r = .tuple #[.string a,.string c,.bool o]∧((r=none∧o=false∧a=bs []∧c=bs [])∨(r=some (a,.string c)∧o=true)):=by
 cases r with
 | none=>exact ⟨_,_,_,rfl,.inl ⟨rfl,rfl,rfl,rfl⟩⟩
 | some e=>
  obtain ⟨k,v⟩:=e
  obtain ⟨u,rfl⟩:=hv _ rfl
  exact ⟨_,_,_,rfl,.inr ⟨rfl,rfl⟩⟩
theorem child_spec {r:Rec} {i:Nat} (h:RecAt TT w r) (h0:r.bs=[]→K (.pointer none) w) (h1:r.bs≠[]→∃ hi:i < r.bs.length,K (.pointer (some ⟨r.bs[i],0,none⟩)) w):Cv F.z163 #[.pointer (some ⟨r.a,0,none⟩),.int .i64 (i:Int)] w K:=
 R.z163 (by
  unfold C.z163
  refine leaf_spec h ⟨_,rfl,ifB_mk (fun hl=>h0 (List.length_eq_zero_iff.1 (of_decide_eq_true hl))) (fun hl=>?_)⟩
  have hne:r.bs≠[]:=fun e=>by rw [e] at hl; simp at hl
  obtain ⟨hi,hk⟩:=h1 hne
  have hd:r.bs=r.bs.take i++r.bs[i] :: r.bs.drop (i+1):=by rw [← List.drop_eq_getElem_cons hi,List.take_append_drop]
  obtain ⟨a,ha,hca⟩:=ptr_at (i:=i) h hd (by simp; omega)
  exact ⟨_,rfl,_,_,_,h.1.cell (i:=1) rfl,a,ha,by omega,by omega,_,by simpa using hca,hk⟩)
theorem next_step {R : Option Ent} {best : Option Addr} {bv : Option Ent} {n lo : Nat} {p : Pg n} {es1 es2 : List Ent} {w0 : World} (hb : BestAt w best bv) (ho : Ok n lo 5 p) (hs : Srt (toL n p)) (hV : ∀ e ∈ toL n p, IsV e.2) (hR : RS TT w (recs n p)) (hn : (nxt b k (toL n p)).or bv = R)
    (he : (root n p).es = es1 ++ es2) (h1 : ∀ e ∈ es1, nx b k e = false) (h2 : ∀ e ∈ es2, nx b k e = true) (M : Option Addr → Option Addr → World → Nat) (hM : ∀ b' q', M b' q' w = if q'.isNone then 0 else leastN (fun n => PgNx w b k R b' q' n) + 1) (hu : Upd Nothing w0 w) (N : Nat) (hN : n ≤ N) :
    ∃ pa3, (some (Addr.mk (root n p).a 0 none)) = some pa3 ∧
              ∃ (all2p : Option Addr) (all2n all2c : Nat),
              w.cell? ((pa3.add 0).add 0) = some (.slice all2p all2n all2c) ∧
              ifB (decide (((es1.length : Nat) : Int) < ((all2n : Nat) : Int))) (
                ∃ pa4, (some (Addr.mk (root n p).a 0 none)) = some pa4 ∧
                ∃ (all3p : Option Addr) (all3n all3c : Nat),
                w.cell? ((pa4.add 0).add 0) = some (.slice all3p all3n all3c) ∧
                ∃ a2, all3p = some a2 ∧ 0 ≤ ((es1.length : Nat) : Int) ∧ ((es1.length : Nat) : Int) < ((all3n : Nat) : Int) ∧
                Cv F.z163 #[.pointer (some (Addr.mk (root n p).a 0 none)), .int .i64 ((es1.length : Nat) : Int)] w (fun v3 wv4 =>
                  ∃ (r1 : Option Addr),
                  v3 = .pointer r1 ∧
                  (Upd Nothing w0 wv4 ∧ ((r1 = none ∧ BestAt wv4 (some (a2.add (((es1.length : Nat) : Int).toNat * 2))) R) ∨ ∃ n, PgNx wv4 b k R (some (a2.add (((es1.length : Nat) : Int).toNat * 2))) r1 n)) ∧ M (some (a2.add (((es1.length : Nat) : Int).toNat * 2))) r1 wv4 < N + 1)) (
                Cv F.z163 #[.pointer (some (Addr.mk (root n p).a 0 none)), .int .i64 ((es1.length : Nat) : Int)] w (fun v4 wv5 =>
                  ∃ (r2 : Option Addr),
                  v4 = .pointer r2 ∧
                  (Upd Nothing w0 wv5 ∧ ((r2 = none ∧ BestAt wv5 best R) ∨ ∃ n, PgNx wv5 b k R best r2 n)) ∧ M best r2 wv5 < N + 1)) := by
  have hr : RecAt TT w (root n p) := hR.1 _ (by simp [recs])
  have hel : (root n p).es.length = es1.length + es2.length := by rw [he]; simp
  -- one step, whatever is best then
  have go : ∀ best' bv', BestAt w best' bv' → bv' = es2.head?.or bv → Cv F.z163 #[.pointer (some (Addr.mk (root n p).a 0 none)), .int .i64 ((es1.length : Nat) : Int)] w (fun v4 wv5 =>
                  ∃ (r2 : Option Addr),
                  v4 = .pointer r2 ∧
                  (Upd Nothing w0 wv5 ∧ ((r2 = none ∧ BestAt wv5 best' R) ∨ ∃ n, PgNx wv5 b k R best' r2 n)) ∧ M best' r2 wv5 < N + 1) := by
    intro best' bv' hb' hbv'
    match n, p, ho, hs, hV, hR, hn, he, hr, hel, hN with
    | 0, p, ho, hs, hV, hR, hn, he, hr, hel, hN =>
      have e : toL 0 p = es1 ++ es2 := he
      rw [e, nxt_app, nxt_none h1, nxt_head h2, Option.none_or, ← hbv'] at hn
      subst hn
      have hbs : (root 0 p).bs = [] := ho.1
      refine child_spec hr (fun _ => ⟨_, rfl, ⟨hu, .inl ⟨rfl, hb'⟩⟩, ?_⟩) (fun h => absurd hbs h)
      rw [hM]
      exact Nat.succ_pos _
    | n + 1, (r, cs), ho, hs, hV, hR, hn, he, hr, hel, hN =>
      have hb0 : r.bs = cs.map fun c => (root n c).a := ho.1
      have hl0 : cs.length = r.es.length + 1 := ho.2.1
      have hel' : r.es.length = es1.length + es2.length := hel
      have hbl : r.bs.length = r.es.length + 1 := by rw [hb0, List.length_map, hl0]
      obtain ⟨cs1, c, cs2, rfl, l1, l2, hbb, hL, hokc, _, _⟩ := node_at (i := es1.length) ho he rfl
      rw [hL] at hs hV hn
      obtain ⟨hs12, hs3, _⟩ := hs.app
      obtain ⟨hs1, hs2, _⟩ := hs12.app
      rw [nxt_app, nxt_app, nxt_none (lw_nx hs1 h1), Option.none_or, rw_nx (by rw [List.length_map, l2]) h2, Option.or_assoc, ← hbv'] at hn
      refine child_spec hr (fun h => ?_) (fun _ => ⟨by show es1.length < r.bs.length; omega, ?_⟩)
      · have h' : r.bs.length = 0 := by rw [show r.bs = [] from h]; rfl
        omega
      have hpick : (root (n + 1) (r, cs1 ++ c :: cs2)).bs[es1.length]'(by show es1.length < r.bs.length; omega) = (root n c).a := by
        show r.bs[es1.length]'(by omega) = _
        have h3 : r.bs[es1.length]? = some (root n c).a := by
          rw [hbb, List.getElem?_append_right (by rw [List.length_map, l1]; exact Nat.le_refl _)]
          simp [l1]
        rw [List.getElem?_eq_getElem (by omega)] at h3
        exact Option.some.inj h3
      rw [hpick]
      have hpk : PgNx w b k R best' (some ⟨(root n c).a, 0, none⟩) n := ⟨bv', c, 2, hb', rfl, hokc, hs2, fun e he => hV e (by simp [he]), (RS.app.1 (hR.perm recs_mid)).1, hn⟩
      refine ⟨_, rfl, ⟨hu, .inr ⟨n, hpk⟩⟩, ?_⟩
      rw [hM]
      have h3 := leastN_le hpk
      exact Nat.succ_lt_succ (Nat.lt_of_le_of_lt h3 (by omega : n < N))
  refine ⟨_, rfl, _, _, _, hr.1.cell (i := 0) rfl, ifB_mk (fun h => ?_) (fun h => ?_)⟩
  · have hlt : 0 < es2.length := by have := of_decide_eq_true h; omega
    obtain ⟨⟨k', v'⟩, es3, rfl⟩ := List.exists_cons_of_ne_nil (show es2 ≠ [] from fun e => by rw [e] at hlt; simp at hlt)
    obtain ⟨a, ha, hca⟩ := ent_at (i := es1.length) hr he rfl
    refine ⟨_, rfl, _, _, _, hr.1.cell (i := 0) rfl, a, ha, by omega, by omega, go _ (some (k', v')) (.inr ⟨(k', v'), _, rfl, rfl, by simpa using hca, ?_⟩) rfl⟩
    exact hV (k', v') ((root_sub ho).subset (by rw [he]; simp))
  · have hz : es2 = [] := by have := of_decide_eq_false h; exact List.length_eq_zero_iff.1 (by omega)
    exact go best bv hb (by rw [hz]; rfl)
theorem Next_spec {t:Tre} (ht:At' w t) (hK:∀ w',Upd Nothing w w'→K (tell (nxt b k t.l)) w'):Cv F.z152 #[.pointer (some ⟨t.g,0,none⟩),.string k,.bool b] w K:=
 R.z152 (by
  unfold C.z152
  have ht0:TrAt w t.g t.h t.top t.l:=ht
  have hVR:∀ e,nxt b k t.l=some e→IsV e.2:=fun e he=>ht0.isV e (List.mem_of_find?_eq_some he)
  obtain ⟨ra,rb,rc,htell,_⟩:=tell_get hVR
  refine ifB_mk (fun _=>?_) (fun h=>by cases h)
  refine ⟨_,rfl,_,ht0.hdr.cell (i:=0) rfl,fun best q w'=>Upd Nothing w w'∧((q=none∧BestAt w' best (nxt b k t.l))∨∃ n,PgNx w' b k (nxt b k t.l) best q n),fun best q w'=>if q.isNone then 0 else leastN (fun n=>PgNx w' b k (nxt b k t.l) best q n)+1,⟨Upd.refl _ _,.inr ⟨t.h,none,t.top,_,.inl ⟨rfl,rfl⟩,rfl,ht0.ok,by rw [ht0.toL]; exact ht0.srt,by rw [ht0.toL]; exact ht0.isV,ht0.rs,by rw [ht0.toL,Option.or_none]⟩⟩,?_⟩
  generalize hR:nxt b k t.l=R at *
  rintro best q w1 ⟨hu1,hq⟩
  rcases hq with ⟨rfl,hbest⟩ | hex
  ·refine ifB_mk (fun h=>by cases h) (fun _=>told_spec hbest fun w2 hu2=>?_)
   rw [htell]
   refine ⟨_,_,_,rfl,?_⟩
   rw [← htell]
   exact hK w2 (hu1.then hu2)
  obtain ⟨bv,p,lo,hbest,hq,ho,hs,hV,hRS,hn⟩:=leastN_spec hex
  generalize hnn:(leastN fun n=>PgNx w1 b k R best q n)=n at p ho hs hV hRS hn hq ⊢
  subst hq
  have hr:RecAt TT w1 (root n p):=hRS.1 _ (by simp [recs])
  have hsub:=root_sub ho
  have hes:=ho.root_len.2
  refine ifB_mk (fun _=>⟨_,rfl,find_spec hr (List.Pairwise.sublist hsub hs) (fun e he=>hV e (hsub.subset he)) (by omega) fun i ok w2 hT hF hu2=>⟨_,_,rfl,?_⟩⟩) (fun h=>by cases h)
  have hr2:RecAt TT w2 (root n p):=hr.upd hu2 fun _ _ f=>f
  have hu02:=hu1.then hu2
  refine ifB_mk (fun hok=>?_) (fun hok=>?_)
  ·obtain ⟨u,hu,es1,es2,he,hi,hlo,hhi⟩:=hT hok
   have hel:(root n p).es.length=es1.length+1+es2.length:=by rw [he]; simp; omega
   refine ifB_mk (fun hb=>?_) (fun hb=>?_)
   ·obtain ⟨c,hc,hcc⟩:=ent_at hr2 he hi
    have hself:nxt b k (toL n p)=some (k,u):=by rw [hb]; exact nxt_self hs (hsub.subset (by rw [he]; simp))
    rw [hself,Option.some_or] at hn
    refine ⟨_,rfl,_,_,_,hr2.1.cell (i:=0) rfl,c,hc,by omega,by omega,told_spec (bv:=R) (.inr ⟨(k,u),_,hn.symm,rfl,by simpa using hcc,hu⟩) fun w3 hu3=>?_⟩
    rw [htell]
    refine ⟨_,_,_,rfl,?_⟩
    rw [← htell]
    exact hK w3 (hu02.then hu3)
   ·refine ifB_mk (fun _=>?_) (fun h=>by rw [hok] at h; cases h)
    have hb':b=false:=by simpa using hb
    have e1:IntKind.i64.wrap ((i:Int)+1)=(((es1++[(k,u)]).length:Nat):Int):=by rw [i64_wrap (by omega) (by omega)]; simp; omega
    rw [e1]
    refine next_step (w:=w2) (w0:=w) (b:=b) (k:=k) (R:=R) (best:=best) (bv:=bv) (p:=p) (es1:=es1++[(k,u)]) (es2:=es2) (hbest.upd0 hu2) ho hs hV (hRS.upd0 hu2) hn (by rw [he]; simp) (fun e he=>?_) (nx_hi hhi) (fun best q w'=>if q.isNone then 0 else leastN (fun n=>PgNx w' b k R best q n)+1) (fun _ _=>rfl) hu02 _ (Nat.le_of_eq hnn.symm)
    rcases List.mem_append.1 he with he | he
    ·exact nx_lo hlo e he
    ·rw [List.mem_singleton.1 he,hb']
     unfold nx
     rw [if_neg (by decide)]
     exact sLt_irrefl k
  ·obtain ⟨es1,es2,he,hi,hlo,hhi⟩:=hF hok
   subst hi
   refine ifB_mk (fun h=>by rw [hok] at h; cases h) (fun _=>?_)
   exact next_step (w:=w2) (w0:=w) (b:=b) (k:=k) (R:=R) (best:=best) (bv:=bv) (p:=p) (es1:=es1) (es2:=es2) (hbest.upd0 hu2) ho hs hV (hRS.upd0 hu2) hn he (nx_lo hlo) (nx_hi hhi) (fun best q w'=>if q.isNone then 0 else leastN (fun n=>PgNx w' b k R best q n)+1) (fun _ _=>rfl) hu02 _ (Nat.le_of_eq hnn.symm))
theorem srt_from {b:Bool} {k:ByteArray}:∀ {l:List Ent},Srt l→∃ A,l=A++l.filter (nx b k)∧∀ e∈A,nx b k e=false
 | [],_=>⟨[],rfl,fun _ h=>(by cases h)⟩
 | e :: l,h=>by
  obtain ⟨h1,h2⟩:=List.pairwise_cons.1 h
  cases he:nx b k e with
  | true=>
   have hall:∀ x∈l,nx b k x=true:=fun x hx=>nx_mono (h1 x hx) he
   refine ⟨[],?_,fun _ h=>(by cases h)⟩
   rw [List.nil_append,List.filter_cons,if_pos he,List.filter_eq_self.2 hall]
  | false=>
   obtain ⟨A,hA,hn⟩:=srt_from (b:=b) (k:=k) h2
   refine ⟨e :: A,?_,fun x hx=>(List.mem_cons.1 hx).elim (fun e'=>e' ▸ he) (hn x)⟩
   rw [List.filter_cons,if_neg (by rw [he]; decide),List.cons_append,← hA]
theorem nxt_filter (b:Bool) (k:ByteArray) (l:List Ent):nxt b k l=(l.filter (nx b k)).head?:=by
 unfold nxt
 rw [List.head?_filter]
theorem nxt_behind {l X Y:List Ent} {e:Ent} (hs:Srt l) (h:l=X++e :: Y):nxt false e.1 l=Y.head?:=by
 subst h
 obtain ⟨h1,h2⟩:=srt_at (k:=e.1) (u:=e.2) hs
 rw [nxt_app,nxt_none (nx_lo h1),Option.none_or]
 show ((e :: Y).find? _)=_
 rw [List.find?_cons,show nx false e.1 e=false by unfold nx; rw [if_neg (by decide)]; exact sLt_irrefl _]
 exact nxt_head (nx_hi h2)
def toB (to_:ByteArray) (e:Ent):Bool:=sEq to_ (bs []) || sLt e.1 to_
theorem toB_mono {to_:ByteArray} {x e:Ent} (h:sLt x.1 e.1=true) (he:toB to_ e=true):toB to_ x=true:=by
 unfold toB at he ⊢
 rw [Bool.or_eq_true] at he ⊢
 rcases he with h1 | h1
 ·exact .inl h1
 ·exact .inr (sLt_trans h h1)
def keysOf (fr to_:ByteArray) (most:Int) (l:List Ent):List Ent:=((l.filter (nx true fr)).filter (toB to_)).take most.toNat
theorem Keys_spec {t:Tre} {fr to_:ByteArray} {most:Int} (ht:At' w t) (hn:t.l.length≤1000000) (hK:∀ p c w',Own w' T.string 1 p (keysOf fr to_ most t.l).length c (Sc.strs ((keysOf fr to_ most t.l).map (·.1)))→Upd Nothing w w'→(∀ k,Fp p c k→w.heap.size≤k)→K (.slice p (keysOf fr to_ most t.l).length c) w') :
  Cv F.z151 #[.pointer (some ⟨t.g,0,none⟩),.string fr,.string to_,.int .i64 most] w K:=
 R.z151 (by
  unfold C.z151
  have ht0:TrAt w t.g t.h t.top t.l:=ht
  have hsl:=ht0.srt
  have hVR:∀ b k e,nxt b k t.l=some e→IsV e.2:=fun b k e he=>ht0.isV e (List.mem_of_find?_eq_some he)
  obtain ⟨A,hA,hAn⟩:=srt_from (b:=true) (k:=fr) hsl
  generalize hD:t.l.filter (nx true fr)=D at hA
  have hDl:D.length≤1000000:=by rw [← hD]; exact Nat.le_trans (List.length_filter_le _ _) hn
  have hDs:Srt D:=by rw [hA] at hsl; exact hsl.app.2.1
  have hkeys:keysOf fr to_ most t.l=(D.filter (toB to_)).take most.toNat:=by unfold keysOf; rw [hD]
  rw [hkeys] at hK
  refine Next_spec ht fun w1 hu1=>?_
  have hhead:nxt true fr t.l=D.head?:=by rw [nxt_filter,hD]
  -- the state: what is told,and what is to_ come
  let I:Option Addr→Nat→Nat→ByteArray→Bool→World→Prop:=fun lp ln lc k ok w'=>∃ D1 D2,D=D1++D2∧ln=D1.length∧(ln:Int)≤(most.toNat:Int)∧(∀ e∈D1,toB to_ e=true)∧Own w' T.string 1 lp ln lc (Sc.strs (D1.map (·.1)))∧Upd Nothing w w'∧(∀ k,Fp lp lc k→w.heap.size≤k)∧((ok=false∧D2=[])∨∃ e D3,ok=true∧D2=e :: D3∧k=e.1)
  have hst:∀ (D2:List Ent) (b:Bool) (k:ByteArray),nxt b k t.l=D2.head?→∃ a c o,tell (nxt b k t.l) = .tuple #[.string a,.string c,.bool o]∧((o=false∧D2=[])∨∃ e D3,o=true∧D2=e :: D3∧a=e.1):=by
   intro D2 b k hh
   obtain ⟨a,c,o,h1,h2⟩:=tell_get (hVR b k)
   refine ⟨a,c,o,h1,?_⟩
   rcases h2 with ⟨h3,h4,_⟩ | ⟨h3,h4⟩
   ·rw [h3] at hh
    cases D2 with
    | nil=>exact .inl ⟨h4,rfl⟩
    | cons e D3=>cases hh
   ·rw [h3] at hh
    cases D2 with
    | nil=>cases hh
    | cons e D3=>
     injection hh with hh
     exact .inr ⟨e,D3,h4,rfl,by rw [← hh]⟩
  obtain ⟨ra,rb,rc,htell,hcase⟩:=hst D true fr hhead
  rw [htell]
  refine ⟨ra,rb,rc,rfl,I,fun lp ln lc k ok w'=>D.length - ln,⟨[],D,rfl,rfl,Int.ofNat_le.2 (Nat.zero_le _),fun _ h=>(by cases h),Own.nil _ _ _,hu1,fun k hk=>(by have:=hk.1; omega),hcase⟩,?_⟩
  rintro lp ln lc k ok w2 ⟨D1,D2,hDD,rfl,hmo,hD1,ho,hu2,hf,hcs⟩
  have hf1:D1.filter (toB to_)=D1:=List.filter_eq_self.2 hD1
  have fin:(D.filter (toB to_)).take most.toNat=D1→K (.slice lp D1.length lc) w2:=fun e=>by
   rw [e] at hK
   exact hK lp lc w2 ho hu2 hf
  rcases hcs with ⟨rfl,rfl⟩ | ⟨e,D3,rfl,rfl,rfl⟩
  ·refine ⟨fun _=>False,ifB_mk (fun h=>by cases h) (fun _=>fin ?_),fun _ h=>h.elim⟩
   rw [hDD,List.append_nil,hf1,List.take_of_length_le (by omega)]
  have hcut:toB to_ e=false→(D.filter (toB to_)).take most.toNat=D1:=fun he=>by
   rw [hDD,List.filter_append,hf1,List.filter_cons,if_neg (by rw [he]; decide),List.filter_eq_nil_iff.2 fun x hx=>?_,List.append_nil,List.take_of_length_le (by omega)]
   intro hx'
   have h2:Srt (e :: D3):=by rw [hDD] at hDs; exact hDs.app.2.1
   rw [toB_mono ((List.pairwise_cons.1 h2).1 x hx) hx'] at he
   cases he
  have hfull:¬ ((D1.length:Int) < most)→(D.filter (toB to_)).take most.toNat=D1:=fun hm=>by
   have:most.toNat=D1.length:=by omega
   rw [hDD,List.filter_append,hf1,this,List.take_left]
  refine ⟨fun w'=>w'=w2∧(D1.length:Int) < most∧toB to_ e=true,ifB_mk (fun _=>ifB_mk (fun hm=>?_) (fun hm=>fin (hfull (of_decide_eq_false hm)))) (fun h=>by cases h),?_⟩
  ·have hm':=of_decide_eq_true hm
   refine ifB_mk (fun h1=>⟨rfl,hm',by unfold toB; rw [h1]; rfl⟩) (fun h1=>ifB_mk (fun h2=>⟨rfl,hm',by unfold toB; rw [h2]; simp⟩) (fun h2=>fin (hcut ?_)))
   unfold toB
   rw [h1,h2]
   rfl
  rintro w3 ⟨rfl,hm,hto⟩
  have hln:D1.length < D.length:=by rw [hDD]; simp
  refine Sc.app_str (x:=e.1) ho (by omega) fun p' c' w4 ho' hu' hf'=>⟨_,_,_,rfl,?_⟩
  have hu4:Upd Nothing w w4:=hu2.fresh hu' hf
  refine Next_spec (ht.upd0 hu4) fun w5 hu5=>?_
  have hh:nxt false e.1 t.l=D3.head?:=nxt_behind hsl (X:=A++D1) (by rw [hA,hDD]; simp)
  obtain ⟨ra2,rb2,rc2,htell2,hcase2⟩:=hst D3 false e.1 hh
  rw [htell2]
  refine ⟨ra2,rb2,rc2,rfl,⟨D1++[e],D3,by rw [hDD]; simp,by simp,by omega,fun x hx=>?_,?_,hu4.then hu5,fun k hk=>?_,hcase2⟩,by show D.length - (D1.length+1) < D.length - D1.length; omega⟩
  ·rcases List.mem_append.1 hx with hx | hx
   ·exact hD1 x hx
   ·rw [List.mem_singleton.1 hx]; exact hto
  ·rw [List.map_append]
   exact ho'.upd0 hu5
  ·rcases hf' k hk with h | h
   ·exact hf k h
   ·exact Nat.le_trans hu2.size h)
end
end Ts
end Go.Proofs.YtjcgociobhhijaaGreatDoor
namespace Go.Proofs.YtjcgociobhhijaaGreatDoor
open Go SX Va Cd Sc Bt
namespace Tb
theorem typed_apart {w:World} {es fs:List Nat} {k:Nat} (h1:Typed w es k) (h2:Typed w fs k) (hd:∀ e∈es,e∉fs):False:=by
 obtain ⟨l,e,hb,he⟩:=h1
 obtain ⟨l',e',hb',he'⟩:=h2
 exact hd e he ((hb.same hb').2 ▸ he')
structure Str (w:World) (s:Schm) (t:Tbl):Prop where
 right:s.Right
 small:Small s
 hdr:Blk w t.g [.string s.name,.slice t.cp s.cols.length t.cc,.slice t.ip s.ixs.length t.ic,.int .i64 s.limit,.int .i64 s.parts,.int .i64 s.by_,.pointer (some ⟨t.rt.g,0,none⟩),.slice t.xp t.ix.length t.xc] T.table_Table
 sch:OwnSch w s t.cp t.cc t.ip t.ic t.B
 rt:Tv.At' w t.rt
 rows:∀ x∈t.t,RowV w x.2 x.1
 ix:Ts.Trs w t.ix
 il:t.ix.length=s.ixs.length
 xs:∃ xs,Own w T.table_index 3 t.xp t.ix.length t.xc xs∧IxE s xs t.ix
theorem TabAt.str {w:World} {s:Schm} {t:Tbl} (h:TabAt w s t):Str w s t:=⟨h.right,h.small,h.hdr,h.sch,h.rt,h.rows,h.ix,h.il,h.xs⟩
theorem Str.tab {w:World} {s:Schm} {t:Tbl} (h:Str w s t) (rl:t.rt.l=Pt.rowsL s t.t) (ixl:∀ i (h:i < t.ix.length),Pt.IxL s i (Pt.rowsOf t.t) t.ix[i].l) (inv:Pt.Inv s (Pt.rowsOf t.t)):TabAt w s t:=⟨h.right,h.small,h.hdr,h.sch,h.rt,rl,h.rows,h.ix,h.il,ixl,h.xs,inv⟩
section
variable {w w' w'':World} {s:Schm} {t t' t'':Tbl} {k:Nat}
theorem Str.typed (h:Str w s t) (hk:FT t k):Typed w TTy k:=by
 rcases hk with rfl | hk | hk | hk
 ·exact ⟨_,_,h.hdr,by simp [TTy]⟩
 ·exact typed_sub (h.rt.typed hk) fun e he=>by simp [TTy,he]
 ·exact typed_sub (h.ix.typed hk) fun e he=>by simp [TTy,he]
 ·obtain ⟨xs,ho,_⟩:=h.xs
  exact own_typed ho (by simp [TTy]) k hk
theorem Str.upd {F:Nat→Prop} (h:Str w s t) (hu:Upd F w w') (hF:∀ k,F k→Typed w TTy k) (hn:∀ k,FT t k→¬ F k):Str w' s t:=by
 have hu':Upd (Typed w TTy) w w':=hu.mono fun k _ hk=>hF k hk
 obtain ⟨xs,ho,hx⟩:=h.xs
 exact ⟨h.right,h.small,hu.blk h.hdr (hn _ (.inl rfl)),ownsch_typed h.sch hu' (by decide) (by decide) (by decide),h.rt.upd hu fun k hk=>hn k (.inr (.inl hk)),fun x hx=>(h.rows x hx).keep hu' (by decide),h.ix.upd hu fun k hk=>hn k (.inr (.inr (.inl hk))),h.il,⟨xs,ho.upd hu fun k hk=>hn k (.inr (.inr (.inr hk))),hx⟩⟩
theorem Str.upd0 (h:Str w s t) (hu:Upd Nothing w w'):Str w' s t:=h.upd hu (fun _ f=>f.elim) fun _ _ f=>f
structure StrMv (w w':World) (s:Schm) (t t':Tbl):Prop where
 at_:Str w' s t'
 upd:Upd (FT t) w w'
 fresh:∀ k,FT t' k→FT t k∨w.heap.size≤k
 g:t'.g=t.g
 xp:t'.xp=t.xp
theorem StrMv.refl (h:Str w s t) (hu:Upd Nothing w w'):StrMv w w' s t t:=⟨h.upd0 hu,hu.mono fun _ _ f=>f.elim,fun k hk=>.inl hk,rfl,rfl⟩
theorem StrMv.trans (h:StrMv w w' s t t') (k:StrMv w' w'' s t' t''):StrMv w w'' s t t'':=⟨k.at_,h.upd.trans k.upd (fun _ _ h=>h) (fun i hi hf=>by
 rcases h.fresh i hf with h | h
 ·exact h
 ·omega),fun i hi=>by
 rcases k.fresh i hi with h1 | h1
 ·exact h.fresh i h1
 ·exact .inr (Nat.le_trans h.upd.size h1),k.g.trans h.g,k.xp.trans h.xp⟩
theorem StrMv.more (h:StrMv w w' s t t') (hu:Upd Nothing w' w''):StrMv w w'' s t t':=h.trans (StrMv.refl h.at_ hu)
theorem StrMv.tab (h:StrMv w w' s t t') (rl:t'.rt.l=Pt.rowsL s t'.t) (ixl:∀ i (h:i < t'.ix.length),Pt.IxL s i (Pt.rowsOf t'.t) t'.ix[i].l) (inv:Pt.Inv s (Pt.rowsOf t'.t)):TabMv w w' s t t':=⟨h.at_.tab rl ixl inv,h.upd,h.fresh,h.g⟩
theorem Str.setRt (h:Str w s t) {rt':Tv.Tre} {T':Pt.TR} (hm:Tv.TMv w w' t.rt rt') (hT:∀ x∈T',RowV w' x.2 x.1):StrMv w w' s t { t with rt:=rt',t:=T' }:=by
 have hty:∀ k,Tv.TF t.rt k→Typed w Tv.TEs k:=fun k hk=>h.rt.typed hk
 have hu':Upd (Typed w Tv.TEs) w w':=hm.upd.mono fun k _ hk=>hty k hk
 obtain ⟨xs,ho,hx⟩:=h.xs
 refine ⟨⟨h.right,h.small,?_,ownsch_typed h.sch hu' (by decide) (by decide) (by decide),hm.at_,hT,h.ix.upd hm.upd fun k hk hk'=>typed_apart (h.ix.typed hk) (hty k hk') (by decide),h.il,xs,ho.upd hm.upd fun k hk hk'=>own_not_typed (es:=Tv.TEs) ho (by decide) k hk (hty k hk'),hx⟩,hm.upd.mono fun k _ hk=>.inr (.inl hk),fun k hk=>?_,rfl,rfl⟩
 ·show Blk w' t.g [_,_,_,_,_,_,.pointer (some ⟨rt'.g,0,none⟩),_] _
  rw [hm.g]
  exact hm.upd.blk h.hdr fun hk=>Typed.not h.hdr (es:=Tv.TEs) (by decide) (hty _ hk)
 ·rcases hk with hk | hk | hk | hk
  ·exact .inl (.inl hk)
  ·rcases hm.fresh k hk with h | h
   ·exact .inl (.inr (.inl h))
   ·exact .inr h
  ·exact .inl (.inr (.inr (.inl hk)))
  ·exact .inl (.inr (.inr (.inr hk)))
theorem Str.setIx (h:Str w s t) {A B:List Ts.Tre} {x x':Ts.Tre} (he:t.ix=A++x :: B) (hm:Ts.TMv w w' x x'):StrMv w w' s t { t with ix:=A++x' :: B }:=by
 have hix:=h.ix
 rw [he] at hix
 obtain ⟨k1,k2,k3⟩:=hix.set hm
 rw [← he] at k2 k3
 have hty:∀ k,Ts.TFs t.ix k→Typed w Ts.TEs k:=fun k hk=>h.ix.typed hk
 have hu':Upd (Typed w Ts.TEs) w w':=k2.mono fun k _ hk=>hty k hk
 obtain ⟨xs,ho,hl,h1,hx⟩:=h.xs
 have hlen:(A++x' :: B).length=t.ix.length:=by rw [he]; simp
 have hg:∀ i (hi:i < (A++x' :: B).length) (hi':i < t.ix.length),(A++x' :: B)[i].g=t.ix[i].g:=by
  intro i hi hi'
  have:(A++x' :: B).map (·.g)=t.ix.map (·.g):=by rw [he]; simp [hm.g]
  have h2:=congrArg (fun l=>l[i]?) this
  simp only [List.getElem?_map,List.getElem?_eq_getElem hi,List.getElem?_eq_getElem hi',Option.map_some] at h2
  exact Option.some.inj h2
 refine ⟨⟨h.right,h.small,?_,ownsch_typed h.sch hu' (by decide) (by decide) (by decide),h.rt.upd k2 fun k hk hk'=>typed_apart (h.rt.typed hk) (hty k hk') (by decide),fun x hx=>(h.rows x hx).keep hu' (by decide),k1,hlen.trans h.il,xs,?_,by rw [hl]; show _=(A++x' :: B).length * 3; rw [hlen],h1,fun i hi=>?_⟩,k2.mono fun k _ hk=>.inr (.inr (.inl hk)),fun k hk=>?_,rfl,rfl⟩
 ·show Blk w' t.g [_,_,_,_,_,_,_,.slice t.xp (A++x' :: B).length t.xc] _
  rw [hlen]
  exact k2.blk h.hdr fun hk=>Typed.not h.hdr (es:=Ts.TEs) (by decide) (hty _ hk)
 ·show Own w' _ 3 t.xp (A++x' :: B).length t.xc xs
  rw [hlen]
  exact ho.upd k2 fun k hk hk'=>own_not_typed (es:=Ts.TEs) ho (by decide) k hk (hty k hk')
 ·have hi':i < t.ix.length:=by rw [← hlen]; exact hi
  obtain ⟨hs,q,n,c,e0,e1,e2⟩:=hx i hi'
  exact ⟨hs,q,n,c,e0,e1,by rw [e2,← hg i hi hi']⟩
 ·rcases hk with hk | hk | hk | hk
  ·exact .inl (.inl hk)
  ·exact .inl (.inr (.inl hk))
  ·rcases k3 k hk with h | h
   ·exact .inl (.inr (.inr (.inl h)))
   ·exact .inr h
  ·exact .inl (.inr (.inr (.inr hk)))
theorem Str.index (h:Str w s t) {i:Nat} (hi:i < t.ix.length):∃ (h':i < s.ixs.length) (a:Addr) (q:Option Addr) (n c:Nat),t.xp=some a∧SX.cellsAt w (a.add (i * 3)) 0 [.slice q n c,.bool s.ixs[i].unique,.pointer (some ⟨t.ix[i].g,0,none⟩)]:=by
 obtain ⟨xs,ho,hl,h1,hx⟩:=h.xs
 obtain ⟨h',q,n,c,e0,e1,e2⟩:=hx i hi
 have hat:=ho.at
 obtain ⟨a,ha,c0⟩:=hat _ _ e0
 obtain ⟨a1,ha1,c1⟩:=hat _ _ e1
 obtain ⟨a2,ha2,c2⟩:=hat _ _ e2
 rw [ha] at ha1 ha2
 injection ha1 with ha1
 injection ha2 with ha2
 subst ha1; subst ha2
 refine ⟨h',a,q,n,c,ha,?_,?_,?_,trivial⟩
 ·rw [Addr.add_two]; exact c0
 ·rw [Addr.add_two]; exact c1
 ·rw [Addr.add_two]; exact c2
end
theorem set_three {w:World} {e:Nat} {g:Nat} {x y z:Value} {Q:World→Prop} {u v o:Value} (hu1:u.oneCell'=true) (hv1:v.oneCell'=true) (ho1:o.oneCell'=true) (hb:Blk w g [x,y,z] e) (hQ:∀ w',Blk w' g [u,v,o] e→Upd (One g) w w'→Q w') :
  CanSt w ((Addr.mk g 0 none).add 0)∧∀ w1,w1=w.setCell ((Addr.mk g 0 none).add 0) u→
  CanSt w1 ((Addr.mk g 0 none).add 1)∧∀ w2,w2=w1.setCell ((Addr.mk g 0 none).add 1) v→
  CanSt w2 ((Addr.mk g 0 none).add 2)∧∀ w3,w3=w2.setCell ((Addr.mk g 0 none).add 2) o→Q w3:=
 hb.store (i:=0) (by simp) hu1 fun w1 hb1 hu1 _=>hb1.store (i:=1) (by simp) hv1 fun w2 hb2 hu2 _=>hb2.store (i:=2) (by simp) ho1 fun w3 hb3 hu3 _=>hQ w3 hb3 ((hu1.then hu2).then hu3)
theorem kx_get {s:Schm} {row:Row} {i:Nat} (hi:i < s.ixs.length):(strs (skeys s row))[i]? = some (.string (Pt.kx s i row)):=by
 rw [strs_get (by rw [skeys_length]; exact hi),skeys_get hi,Pt.kx_lt hi]
section
variable {w:World} {K:Value→World→Prop} {p q kp:Option Addr} {n c m d kc:Nat} {s:Schm} {t:Tbl} {row:Row}
theorem small_th {s:Schm} (h:Small s):∀ x∈s.ixs,x.cols.length≤1000:=fun x hx=>by have:=h.2.2 x hx; omega
theorem pkeys_spec (hM:MX w) (ht:TabAt w s t) (hr:At w q (vals row)) (hrl:row.length=m) (hm:m≤9223372036854775806)
  (hK1:∀ w',¬ FitsP s.cols row→Upd Nothing w w'→K (.tuple #[.slice none 0 0,.int .i64 13]) w')
  (hK2:∀ p c w',FitsP s.cols row→Own w' T.string 1 p s.ixs.length c (strs (skeys s row))→Upd Nothing w w'→(∀ k,Fp p c k→w.heap.size≤k)→K (.tuple #[.slice p s.ixs.length c,.int .i64 0]) w') :
  Cv F.z141 #[t.sv s,.slice q m d] w K:=
 R.z141 (by
  unfold C.z141
  refine New.use (by simp [Value.oneCell']) fun g w1 hb1 hu1 hge1 _=>⟨_,_,_,_,_,_,_,_,_,_,six_cells hb1,?_⟩
  refine keys_spec (hM.upd0 hu1) (ht.sat.upd0 hu1) (small_th ht.small) (hr.upd0 hu1) hrl hm (fun e w2 e1 e2 h0 hn hu2=>?_) (fun p c w2 hs hf ho hu2 hfr=>?_)
  ·have hn':¬ FitsP s.cols row:=fun h=>hn ⟨ht.right,h⟩
   have:=e2 ht.right hn'
   subst this
   exact ⟨_,_,_,_,rfl,hK1 w2 hn' (hu1.then hu2)⟩
  ·exact ⟨_,_,_,_,rfl,hK2 p c w2 hf ho (hu1.then hu2) fun k hk=>Nat.le_trans hu1.size (hfr k hk)⟩)
theorem ppart_spec (ht:TabAt w s t) (hr:At w q (vals row)) (hrl:row.length=m) (hok:Pt.RowOk s row)
  (hK:∀ w' (h:s.by_.toNat < row.length),Upd Nothing w w'→K (.int .i64 (Ca.spreadV (row[s.by_.toNat]'h) s.parts)) w') :
  Cv F.z142 #[t.sv s,.slice q m d] w K:=
 R.z142 (by
  unfold C.z142
  have hm:m≤9223372036854775806:=by have:=hok.1.1; have:=ht.small.1; omega
  refine New.use (by simp [Value.oneCell']) fun g w1 hb1 hu1 hge1 _=>⟨_,_,_,_,_,_,_,_,_,_,six_cells hb1,?_⟩
  refine part3_spec (ht.sat.upd0 hu1) (hr.upd0 hu1) hrl hm hok.2 (fun e w2 _ _ _ hn _=>absurd ⟨ht.right,hok.1⟩ hn) (fun w2 hs hf h hu2=>⟨_,_,rfl,hK w2 h (hu1.then hu2)⟩))
theorem TabAt.six (ht:TabAt w s t):SX.cellsAt w ((Addr.mk t.g 0 none).add 0) 0 [.string s.name,.slice t.cp s.cols.length t.cc,.slice t.ip s.ixs.length t.ic,.int .i64 s.limit,.int .i64 s.parts,.int .i64 s.by_]:=
 ⟨ht.hdr.cell (i:=0) rfl,ht.hdr.cell (i:=1) rfl,ht.hdr.cell (i:=2) rfl,ht.hdr.cell (i:=3) rfl,ht.hdr.cell (i:=4) rfl,ht.hdr.cell (i:=5) rfl,trivial⟩
theorem TabAt.nix (ht:TabAt w s t):t.ix.length≤4:=by rw [ht.il]; exact ht.right.2.2.1.2.1.2
theorem clash_spec {own:ByteArray} {has:Bool} {o:Option ByteArray} (ho:o=if has=true then some own else none) (ht:TabAt w s t) (hk:At w kp (strs (skeys s row)))
  (hK:∀ (b:Bool) w',(b=true↔Pt.Clash s t.rs row o)→Upd Nothing w w'→K (.bool b) w') :
  Cv F.z134 #[.pointer (some ⟨t.g,0,none⟩),.slice kp s.ixs.length kc,.string own,.bool has] w K:=
 R.z134 (by
  unfold C.z134
  have hn4:=ht.nix
  have hil:=ht.il
  refine ⟨_,rfl,_,_,_,ht.hdr.cell (i:=7) rfl,fun i w'=>∃ k:Nat,i=k∧k≤t.ix.length∧Upd Nothing w w'∧∀ j (hj:j < s.ixs.length),j < k→s.ixs[j].unique=true→∀ r∈t.rs,Pt.kx s j row=Pt.kx s j r→o=some (Pt.kx s 0 r),fun i _=>t.ix.length - i.toNat,⟨0,rfl,by omega,Upd.refl _ _,fun j hj h=>by omega⟩,?_⟩
  rintro i w1 ⟨k,rfl,hk',hu1,hq⟩
  refine ifB_mk (fun h=>?_) (fun h=>?_)
  ·have hkn:k < t.ix.length:=by have:=of_decide_eq_true h; omega
   have ht1:=ht.upd0 hu1
   obtain ⟨hks,a,q1,n1,c1,ha,hcl⟩:=ht1.str.index hkn
   refine ⟨a,ha,by omega,by omega,_,_,_,_,_,hcl,New.use (by simp [Value.oneCell']) fun b1 w2 hb1 hu2 hge1 _=>set_three rfl rfl rfl hb1 fun w5 hb5 hu5=>?_⟩
   have hu15:Upd Nothing w1 w5.drew:=(hu2.fresh hu5 fun i hi=>by rw [show i=b1 from hi]; exact hge1).then (Upd.drew _ _)
   have hu05:=hu1.then hu15
   obtain ⟨a2,ha2,hc2⟩:=(hk.upd0 hu05) k _ (kx_get hks)
   refine ⟨_,hb5.drew.cell (i:=2) rfl,a2,ha2,by omega,by omega,_,by simpa using hc2,?_⟩
   have ht5:=ht.upd0 hu05
   have htr:=ht5.ix.1 _ (List.getElem_mem hkn)
   refine Ts.Get_spec htr fun w6 hu6=>?_
   have hnext:∀ w',Upd Nothing w w'→(∀ r∈t.rs,s.ixs[k].unique=true→Pt.kx s k row=Pt.kx s k r→o=some (Pt.kx s 0 r))→(∃ k':Nat,IntKind.i64.wrap ((k:Int)+1)=(k':Int)∧k'≤t.ix.length∧Upd Nothing w w'∧∀ j (hj:j < s.ixs.length),j < k'→s.ixs[j].unique=true→∀ r∈t.rs,Pt.kx s j row=Pt.kx s j r→o=some (Pt.kx s 0 r))∧t.ix.length - (IntKind.i64.wrap ((k:Int)+1)).toNat < t.ix.length - (k:Int).toNat:=fun w' hu hx=>scan_next (Q:=fun k'=>∀ j (hj:j < s.ixs.length),j < k'→s.ixs[j].unique=true→∀ r∈t.rs,Pt.kx s j row=Pt.kx s j r→o=some (Pt.kx s 0 r)) hkn (by omega) hu fun j hj hjk hu' r hr he=>by
    by_cases hjk':j=k
    ·subst hjk'; exact hx r hr hu' he
    ·exact hq j hj (by omega) hu' r hr he
   have hcell:w6.cell? (((Addr.mk b1 0 none).add 0).add 1)=some (.bool s.ixs[k].unique):=(hu6.blk hb5.drew fun f=>f).cell (i:=1) rfl
   have hu06:=hu05.then hu6
   rcases Pt.IxL.get (ht.ixl k hkn) (k:=Pt.kx s k row) with ⟨hnone,hall⟩ | ⟨r,hr,her,hval⟩
   ·rw [hnone]
    refine ⟨_,_,rfl,_,hcell,?_⟩
    have hx:=hnext w6 hu06 fun r hr _ he=>absurd he.symm (hall r hr)
    exact ifB_mk (fun _=>ifB_mk (fun h=>by cases h) (fun _=>hx)) (fun _=>hx)
   ·rw [hval]
    refine ⟨_,_,rfl,_,hcell,?_⟩
    refine ifB_mk (fun hun=>?_) (fun hun=>hnext w6 hu06 fun r _ h=>by rw [h] at hun; cases hun)
    refine ifB_mk (fun _=>?_) (fun h=>by cases h)
    have hyes:o≠some (Pt.kx s 0 r)→Pt.Clash s t.rs row o:=fun h=>⟨r,hr,h,k,hks,hun,her.symm⟩
    refine ifB_mk (fun hh=>ifB_mk (fun h=>hK true w6 ⟨fun _=>hyes fun e=>?_,fun _=>rfl⟩ hu06) (fun h=>hnext w6 hu06 fun r' hr' _ he=>?_)) (fun hh=>hK true w6 ⟨fun _=>hyes fun e=>?_,fun _=>rfl⟩ hu06)
    ·rw [ho,if_pos hh] at e
     have e':=Option.some.inj e
     rw [← e',sEq_self] at h
     cases h
    ·have e1:Pt.kx s 0 r=own:=sEq_iff.1 (by simpa using h)
     have e2:r'=r:=ht.inv.uni k hks hun r' hr' r hr (by rw [← he,her])
     rw [e2,ho,if_pos hh,e1]
    ·rw [ho,if_neg (by rw [hh]; decide)] at e
     cases e
  ·have hkn:k=t.ix.length:=by have:=of_decide_eq_false h; omega
   refine hK false w1 ⟨fun h=>(by cases h),fun ⟨r,hr,hne,i,hi,hun,he⟩=>absurd (hq i hi (by omega) hun r hr he) hne⟩ hu1)
theorem split_at {α:Type} {l:List α} {k:Nat} (hk:k < l.length):l=l.take k++l[k] :: l.drop (k+1):=by rw [← List.drop_eq_getElem_cons hk,List.take_append_drop]
theorem lay_spec (ht:TabAt w s t) (hr:At w q (vals row)) (hrl:row.length=m) (hok:Pt.RowOk s row) (hc:¬ Pt.Clash s t.rs row none) (hlim:(t.rs.length:Int) < s.limit) (hk:Own w T.string 1 kp s.ixs.length kc (strs (skeys s row)))
  (hK:∀ t' w',TabMv w w' s t t'→t'.rs=Pt.mput s row t.rs→K (.tuple #[]) w') :
  Cv F.z138 #[.pointer (some ⟨t.g,0,none⟩),.slice q m d,.slice kp s.ixs.length kc] w K:=
 R.z138 (by
  unfold C.z138
  have hn4:=ht.nix
  have hil:=ht.il
  have hnr:=ht.nrows
  obtain ⟨h0,_⟩:=Pt.right_zero ht.right
  have hmm:m≤12:=by have:=hok.1.1; have:=ht.small.1; omega
  obtain ⟨a1,ha1,hc1⟩:=hk.at 0 _ (kx_get h0)
  refine ⟨_,rfl,_,ht.hdr.drew.cell (i:=6) rfl,a1,ha1,by omega,by omega,_,by simpa using hc1,clone_row (hr.upd0 (Upd.drew _ _)) hrl (by omega) fun rp rc w1 hor hu1 hfr=>⟨_,_,_,rfl,?_⟩⟩
  have hu01:Upd Nothing w w1:=(Upd.drew _ _).then hu1
  have ht1:=ht.upd0 hu01
  have hk1:=hk.upd0 hu01
  obtain ⟨a1',ha1',hc1'⟩:=hk1.at 0 _ (kx_get h0)
  rw [ha1] at ha1'
  injection ha1' with ha1'
  subst ha1'
  have hrv:RowV w1 (.slice rp m rc) row:=⟨rp,m,rc,rfl,⟨hor.at,fun hne b hb=>own_tyS hor (by simp) (fun e=>hne (by cases row with
   | nil=>rfl
   | cons x r=>simp [vals,Val.cells] at e)) b hb,hrl⟩,hor.le⟩
  have hrl0:=ht.rl
  refine ⟨by simpa using hc1',ht1.hdr.cell (i:=6) rfl,Tv.Put_spec ht1.rt hrv.isV (by rw [hrl0]; unfold Pt.rowsL; rw [List.length_map]; have:(Pt.rowsOf t.t).length=t.t.length:=List.length_map _; have h':(Pt.rowsOf t.t).length≤1000:=hnr; omega) fun rt' w2 hl2 hm2=>?_⟩
  have hgv:=Tv.get_isV (k:=Pt.kx s 0 row) (Tv.TrAt.isV ht1.rt)
  generalize (kval (Pt.kx s 0 row) t.rt.l).getD Tv.zero=ov at hgv ⊢
  obtain ⟨op,on,oc,rfl⟩:=hgv
  have hput:=Pt.rowsL_put s row (.slice rp m rc) t.t
  have hu12:Upd (Typed w1 Tv.TEs) w1 w2:=hm2.upd.mono fun k _ hk=>ht1.rt.typed hk
  have hst2:StrMv w w2 s t { t with rt:=rt',t:=Pt.tput s row (.slice rp m rc) t.t }:=(StrMv.refl ht.str hu01).trans (ht1.str.setRt hm2 fun x hx=>by
   rcases List.mem_append.1 hx with hx | hx
   ·exact (ht1.rows x (List.mem_filter.1 hx).1).keep hu12 (by decide)
   ·rcases List.mem_cons.1 hx with rfl | hx
    ·exact hrv.keep hu12 (by decide)
    ·exact (ht1.rows x (List.mem_filter.1 hx).1).keep hu12 (by decide))
  let L:Nat→List Ent:=fun j=>((t.ix[j]?).map Ts.Tre.l).getD []
  refine ⟨_,_,_,_,rfl,_,rfl,_,_,_,hst2.at_.hdr.cell (i:=7) rfl,fun i w'=>∃ (k:Nat) (tk:Tbl),i=k∧k≤t.ix.length∧StrMv w w' s t tk∧tk.rt.l=ins (Pt.kx s 0 row) (.slice rp m rc) t.rt.l∧tk.t=Pt.tput s row (.slice rp m rc) t.t∧∀ j (h:j < tk.ix.length),tk.ix[j].l=if j < k then ins (Pt.kx s j row) (.string (Pt.kx s 0 row)) (L j) else L j,fun i _=>t.ix.length - i.toNat,⟨0,_,rfl,by omega,hst2,hl2,rfl,fun j h=>?_⟩,?_⟩
  ·show t.ix[j].l=_
   rw [if_neg (by omega)]
   show _=((t.ix[j]?).map Ts.Tre.l).getD []
   rw [List.getElem?_eq_getElem h]
   rfl
  rintro i w3 ⟨k,tk,rfl,hkn,hst3,hrl3,ht3,hix3⟩
  have hil3:tk.ix.length=t.ix.length:=hst3.at_.il.trans hil.symm
  refine ifB_mk (fun h=>?_) (fun h=>?_)
  ·have hlt:k < t.ix.length:=by have:=of_decide_eq_true h; exact Int.ofNat_lt.1 this
   have hltk:k < tk.ix.length:=by omega
   obtain ⟨hks,a,q1,n1,c1,ha,hcl⟩:=hst3.at_.index hltk
   rw [hst3.xp] at ha
   refine ⟨a,ha,by omega,Int.ofNat_lt.2 hlt,_,_,_,_,_,hcl,New.use (by simp [Value.oneCell']) fun b1 w4 hb1 hu4 hge1 _=>set_three rfl rfl rfl hb1 fun w7 hb7 hu7=>?_⟩
   have hu37:Upd Nothing w3 w7.drew:=(hu4.fresh hu7 fun i hi=>by rw [show i=b1 from hi]; exact hge1).then (Upd.drew _ _)
   have hst7:=hst3.more hu37
   have hu07:Upd (Typed w TTy) w w7.drew:=hst7.upd.mono fun k _ hk=>ht.typed hk
   have hk7:=hu07.town hk (by decide)
   obtain ⟨a3,ha3,hc3⟩:=hk7.at k _ (kx_get hks)
   obtain ⟨a4,ha4,hc4⟩:=hk7.at 0 _ (kx_get h0)
   refine ⟨_,hb7.drew.cell (i:=2) rfl,a3,ha3,by omega,by omega,_,by simpa using hc3,a4,ha4,by omega,by omega,_,by simpa using hc4,?_⟩
   have htr:=hst7.at_.ix.1 _ (List.getElem_mem hltk)
   have hlk:tk.ix[k].l=L k:=by rw [hix3 k hltk,if_neg (by omega)]
   have hLk:L k=t.ix[k].l:=by show ((t.ix[k]?).map Ts.Tre.l).getD []=_; rw [List.getElem?_eq_getElem hlt]; rfl
   have hixl:=ht.ixl k hlt
   have hsz:tk.ix[k].l.length≤1000000:=by rw [hlk,hLk]; have:=Pt.IxL.len hixl ht.inv ht.right hks; omega
   refine Ts.Put_spec htr ⟨_,rfl⟩ hsz fun x' w8 hl8 hm8=>?_
   have hgv8:=Ts.get_isV (k:=Pt.kx s k row) (Ts.TrAt.isV htr)
   generalize (kval (Pt.kx s k row) tk.ix[k].l).getD Ts.zero=ov8 at hgv8 ⊢
   obtain ⟨os,rfl⟩:=hgv8
   refine ⟨_,_,rfl,?_⟩
   have hst8:=hst7.trans (hst7.at_.setIx (split_at hltk) hm8)
   rw [i64_wrap (by omega) (by omega)]
   refine ⟨⟨k+1,_,by omega,by omega,hst8,hrl3,ht3,fun j h=>?_⟩,by show t.ix.length - _ < t.ix.length - _; omega⟩
   have hj:j < tk.ix.length:=by
    have:({ tk with ix:=tk.ix.take k++x' :: tk.ix.drop (k+1) }:Tbl).ix.length=tk.ix.length:=by
     show (tk.ix.take k++x' :: tk.ix.drop (k+1)).length=_
     simp only [List.length_append,List.length_cons,List.length_take,List.length_drop]
     omega
    omega
   show (tk.ix.take k++x' :: tk.ix.drop (k+1))[j].l=_
   by_cases hjk:j=k
   ·subst hjk
    have:(tk.ix.take j++x' :: tk.ix.drop (j+1))[j]'h=x':=by
     have h1:(tk.ix.take j++x' :: tk.ix.drop (j+1))=tk.ix.set j x':=by rw [List.set_eq_take_append_cons_drop,if_pos hltk]
     have h2:(tk.ix.take j++x' :: tk.ix.drop (j+1))[j]? = some x':=by rw [h1,List.getElem?_set_self hltk]
     rw [List.getElem?_eq_getElem h] at h2
     exact Option.some.inj h2
    rw [this,if_pos (by omega),hl8,hlk]
   ·have:(tk.ix.take k++x' :: tk.ix.drop (k+1))[j]'h=tk.ix[j]:=by
     have h1:(tk.ix.take k++x' :: tk.ix.drop (k+1))=tk.ix.set k x':=by rw [List.set_eq_take_append_cons_drop,if_pos hltk]
     have h2:(tk.ix.take k++x' :: tk.ix.drop (k+1))[j]? = tk.ix[j]?:=by rw [h1,List.getElem?_set_ne (by omega)]
     rw [List.getElem?_eq_getElem h,List.getElem?_eq_getElem hj] at h2
     exact Option.some.inj h2
    rw [this,hix3 j hj]
    by_cases hlt':j < k
    ·rw [if_pos hlt',if_pos (by omega)]
    ·rw [if_neg hlt',if_neg (by omega)]
  ·have hkn':k=t.ix.length:=by have:=of_decide_eq_false h; have h2:¬ k < t.ix.length:=fun h=>this (Int.ofNat_lt.2 h); omega
   have hrs:Pt.rowsOf tk.t=Pt.mput s row t.rs:=by rw [ht3]; exact hput.2
   refine hK tk w3 (hst3.tab (by rw [hrl3,ht3,hput.1,hrl0]) (fun i hi=>?_) (by rw [hrs]; exact ht.inv.put ht.right hok hc hlim)) hrs
   have hi':i < t.ix.length:=by omega
   rw [hix3 i hi,if_pos (by omega),hrs]
   have hLi:L i=t.ix[i].l:=by show ((t.ix[i]?).map Ts.Tre.l).getD []=_; rw [List.getElem?_eq_getElem hi']; rfl
   rw [hLi]
   exact (ht.ixl i hi').put ht.inv ht.right hok hc (by omega))
end
end Tb
end Go.Proofs.YtjcgociobhhijaaGreatDoor
namespace Go.Proofs.YtjcgociobhhijaaGreatDoor
open Go SX Va Cd Sc Bt
namespace Tb
theorem sidx:SliceT prog T.s_table_index T.table_index 3 40 [.slice none 0 0,.bool false,.pointer none]:=SliceT.of_tab (ti:=ti127) (te:=ti123) tabOK (by kernel_rfl) (by kernel_rfl) (by kernel_rfl) (by kernel_rfl)
section
variable {w:World} {K:Value→World→Prop} {p q kp:Option Addr} {n c m d kc:Nat} {s:Schm} {t:Tbl} {row:Row}
theorem take_spec (hM:MX w) (ht:TabAt w s t) (hr:At w q (vals row)) (hrl:row.length=m) (hin:row∈t.rs)
  (hK:∀ t' w',TabMv w w' s t t'→t'.rs=Pt.mdel s (Pt.kx s 0 row) t.rs→K (.tuple #[]) w') :
  Cv F.z140 #[.pointer (some ⟨t.g,0,none⟩),.slice q m d] w K:=
 R.z140 (by
  unfold C.z140
  have hn4:=ht.nix
  have hil:=ht.il
  have hnr:=ht.nrows
  have hok:=ht.inv.ok row hin
  obtain ⟨h0,_⟩:=Pt.right_zero ht.right
  have hmm:m≤12:=by have:=hok.1.1; have:=ht.small.1; omega
  refine ⟨_,rfl,_,_,_,_,_,_,_,_,_,_,ht.six,pkeys_spec hM ht hr hrl (by omega) (fun w1 hn _=>absurd hok.1 hn) (fun kp kc w1 hf hk hu1 hfr=>⟨_,_,_,_,rfl,?_⟩)⟩
  have hu01:Upd Nothing w w1.drew:=hu1.then (Upd.drew _ _)
  have ht1:=ht.upd0 hu01
  have hk1:=hk.upd0 (Upd.drew Nothing _)
  obtain ⟨a1,ha1,hc1⟩:=hk1.at 0 _ (kx_get h0)
  have hrl0:=ht.rl
  refine ⟨_,rfl,_,ht1.hdr.cell (i:=6) rfl,a1,ha1,by omega,by omega,_,by simpa using hc1,Tv.Delete_spec ht1.rt (by rw [hrl0]; unfold Pt.rowsL; rw [List.length_map]; have:(Pt.rowsOf t.t).length=t.t.length:=List.length_map _; have h':(Pt.rowsOf t.t).length≤1000:=hnr; omega) fun rt' w2 hl2 hm2=>?_⟩
  have hgv:=Tv.get_isV (k:=Pt.kx s 0 row) (Tv.TrAt.isV ht1.rt)
  generalize (kval (Pt.kx s 0 row) t.rt.l).getD Tv.zero=ov at hgv ⊢
  obtain ⟨op,on,oc,rfl⟩:=hgv
  have hput:=Pt.rowsL_del s (Pt.kx s 0 row) t.t
  have hu12:Upd (Typed w1.drew Tv.TEs) w1.drew w2:=hm2.upd.mono fun k _ hk=>ht1.rt.typed hk
  have hst2:StrMv w w2 s t { t with rt:=rt',t:=Pt.tdel s (Pt.kx s 0 row) t.t }:=(StrMv.refl ht.str hu01).trans (ht1.str.setRt hm2 fun x hx=>(ht1.rows x (List.mem_filter.1 hx).1).keep hu12 (by decide))
  let L:Nat→List Ent:=fun j=>((t.ix[j]?).map Ts.Tre.l).getD []
  refine ⟨_,_,_,_,rfl,_,rfl,_,_,_,hst2.at_.hdr.cell (i:=7) rfl,fun i w'=>∃ (k:Nat) (tk:Tbl),i=k∧k≤t.ix.length∧StrMv w w' s t tk∧tk.rt.l=del (Pt.kx s 0 row) t.rt.l∧tk.t=Pt.tdel s (Pt.kx s 0 row) t.t∧Upd (Typed w1 TTy) w1 w'∧∀ j (h:j < tk.ix.length),tk.ix[j].l=if j < k then del (Pt.kx s j row) (L j) else L j,fun i _=>t.ix.length - i.toNat,⟨0,_,rfl,by omega,hst2,hl2,rfl,(Upd.drew _ _).then (hm2.upd.mono fun k _ hk=>typed_sub (ht1.rt.typed hk) fun e he=>by simp [TTy,he]),fun j h=>?_⟩,?_⟩
  ·show t.ix[j].l=_
   rw [if_neg (by omega)]
   show _=((t.ix[j]?).map Ts.Tre.l).getD []
   rw [List.getElem?_eq_getElem h]
   rfl
  rintro i w3 ⟨k,tk,rfl,hkn,hst3,hrl3,ht3,hu13,hix3⟩
  have hil3:tk.ix.length=t.ix.length:=hst3.at_.il.trans hil.symm
  refine ifB_mk (fun h=>?_) (fun h=>?_)
  ·have hlt:k < t.ix.length:=by have:=of_decide_eq_true h; exact Int.ofNat_lt.1 this
   have hltk:k < tk.ix.length:=by omega
   obtain ⟨hks,a,q1,n1,c1,ha,hcl⟩:=hst3.at_.index hltk
   rw [hst3.xp] at ha
   refine ⟨a,ha,by omega,Int.ofNat_lt.2 hlt,_,_,_,_,_,hcl,New.use (by simp [Value.oneCell']) fun b1 w4 hb1 hu4 hge1 _=>set_three rfl rfl rfl hb1 fun w7 hb7 hu7=>?_⟩
   have hu37:Upd Nothing w3 w7.drew:=(hu4.fresh hu7 fun i hi=>by rw [show i=b1 from hi]; exact hge1).then (Upd.drew _ _)
   have hst7:=hst3.more hu37
   have hu17:Upd (Typed w1 TTy) w1 w7.drew:=hu13.more hu37
   have hk7:=hu17.town hk (by decide)
   obtain ⟨a3,ha3,hc3⟩:=hk7.at k _ (kx_get hks)
   refine ⟨_,hb7.drew.cell (i:=2) rfl,a3,ha3,by omega,by omega,_,by simpa using hc3,?_⟩
   have htr:=hst7.at_.ix.1 _ (List.getElem_mem hltk)
   have hlk:tk.ix[k].l=L k:=by rw [hix3 k hltk,if_neg (by omega)]
   have hLk:L k=t.ix[k].l:=by show ((t.ix[k]?).map Ts.Tre.l).getD []=_; rw [List.getElem?_eq_getElem hlt]; rfl
   have hixl:=ht.ixl k hlt
   have hsz:tk.ix[k].l.length≤1000000:=by rw [hlk,hLk]; have:=Pt.IxL.len hixl ht.inv ht.right hks; omega
   refine Ts.Delete_spec htr hsz fun x' w8 hl8 hm8=>?_
   have hgv8:=Ts.get_isV (k:=Pt.kx s k row) (Ts.TrAt.isV htr)
   generalize (kval (Pt.kx s k row) tk.ix[k].l).getD Ts.zero=ov8 at hgv8 ⊢
   obtain ⟨os,rfl⟩:=hgv8
   refine ⟨_,_,rfl,?_⟩
   have hst78:=hst7.at_.setIx (split_at hltk) hm8
   have hst8:=hst7.trans hst78
   rw [i64_wrap (by omega) (by omega)]
   refine ⟨⟨k+1,_,by omega,by omega,hst8,hrl3,ht3,hu17.typed (hst78.upd.mono fun k _ hk=>hst7.at_.typed hk),fun j h=>?_⟩,by show t.ix.length - _ < t.ix.length - _; omega⟩
   have hj:j < tk.ix.length:=by
    have:({ tk with ix:=tk.ix.take k++x' :: tk.ix.drop (k+1) }:Tbl).ix.length=tk.ix.length:=by
     show (tk.ix.take k++x' :: tk.ix.drop (k+1)).length=_
     simp only [List.length_append,List.length_cons,List.length_take,List.length_drop]
     omega
    omega
   show (tk.ix.take k++x' :: tk.ix.drop (k+1))[j].l=_
   have h1:(tk.ix.take k++x' :: tk.ix.drop (k+1))=tk.ix.set k x':=by rw [List.set_eq_take_append_cons_drop,if_pos hltk]
   by_cases hjk:j=k
   ·subst hjk
    have:(tk.ix.take j++x' :: tk.ix.drop (j+1))[j]'h=x':=by
     have h2:(tk.ix.take j++x' :: tk.ix.drop (j+1))[j]? = some x':=by rw [h1,List.getElem?_set_self hltk]
     rw [List.getElem?_eq_getElem h] at h2
     exact Option.some.inj h2
    rw [this,if_pos (by omega),hl8,hlk]
   ·have:(tk.ix.take k++x' :: tk.ix.drop (k+1))[j]'h=tk.ix[j]:=by
     have h2:(tk.ix.take k++x' :: tk.ix.drop (k+1))[j]? = tk.ix[j]?:=by rw [h1,List.getElem?_set_ne (by omega)]
     rw [List.getElem?_eq_getElem h,List.getElem?_eq_getElem hj] at h2
     exact Option.some.inj h2
    rw [this,hix3 j hj]
    by_cases hlt':j < k
    ·rw [if_pos hlt',if_pos (by omega)]
    ·rw [if_neg hlt',if_neg (by omega)]
  ·have hkn':k=t.ix.length:=by have:=of_decide_eq_false h; have h2:¬ k < t.ix.length:=fun h=>this (Int.ofNat_lt.2 h); omega
   have hrs:Pt.rowsOf tk.t=Pt.mdel s (Pt.kx s 0 row) t.rs:=by rw [ht3]; exact hput.2
   refine hK tk w3 (hst3.tab (by rw [hrl3,ht3,hput.1,hrl0]) (fun i hi=>?_) (by rw [hrs]; exact ht.inv.del)) hrs
   have hi':i < t.ix.length:=by omega
   rw [hix3 i hi,if_pos (by omega),hrs]
   have hLi:L i=t.ix[i].l:=by show ((t.ix[i]?).map Ts.Tre.l).getD []=_; rw [List.getElem?_eq_getElem hi']; rfl
   rw [hLi]
   exact (ht.ixl i hi').del ht.inv ht.right hin (by omega))
theorem clear_spec {g B:Nat} {cp ip:Option Addr} {cc ic:Nat} {x6 x7:Value} (hs:s.Right) (hsm:Small s) (hsch:OwnSch w s cp cc ip ic B)
  (hb:Blk w g [.string s.name,.slice cp s.cols.length cc,.slice ip s.ixs.length ic,.int .i64 s.limit,.int .i64 s.parts,.int .i64 s.by_,x6,x7] T.table_Table)
  (hK:∀ t' w',TabAt w' s t'→t'.rs=[]→t'.g=g→Upd (SX.One g) w w'→(∀ k,FT t' k→k=g∨w.heap.size≤k)→K (.tuple #[]) w') :
  Cv F.z135 #[.pointer (some ⟨g,0,none⟩)] w K:=
 R.z135 (by
  unfold C.z135
  have hi4:s.ixs.length≤4:=hs.2.2.1.2.1.2
  have hgl:=hb.lt
  refine Tv.New_spec fun rt w1 hrt hrl hu1 hrf=>⟨_,rfl,_,rfl,(hu1.blk hb fun f=>f).store (i:=6) (by simp) rfl fun w2 hb2 hu2 _=>⟨_,rfl,hb2.store (i:=7) (by simp) rfl fun w3 hb3 hu3 _=>?_⟩⟩
  have hu23:=hu2.then hu3
  have hu03:Upd (SX.One g) w w3:=(hu1.mono fun _ _ f=>f.elim).then hu23
  have hrg:∀ k,Tv.TF rt k→¬ SX.One g k:=fun k hk e=>by have:=hrf k hk; rw [show k=g from e] at this; omega
  have hrt3:=hrt.upd hu23 hrg
  have hsz1:=hu1.size
  -- the state of the loop
  let I:Nat→World→Prop:=fun k w'=>∃ (ix:List Ts.Tre) (xp:Option Addr) (xc:Nat) (xs:List Value),ix.length=k∧Blk w' g [.string s.name,.slice cp s.cols.length cc,.slice ip s.ixs.length ic,.int .i64 s.limit,.int .i64 s.parts,.int .i64 s.by_,.pointer (some ⟨rt.g,0,none⟩),.slice xp k xc] T.table_Table∧
   Own w' T.table_index 3 xp k xc xs∧IxE s xs ix∧Ts.Trs w' ix∧(∀ x∈ix,x.l=[])∧Upd (SX.One g) w w'∧Tv.At' w' rt∧(∀ k,Ts.TFs ix k→w.heap.size≤k)∧∀ k,Fp xp xc k→w.heap.size≤k
  have hsch3:∀ w',Upd (SX.One g) w w'→OwnSch w' s cp cc ip ic B:=fun w' hu=>ownsch_typed (es:=[T.table_Table]) hsch (hu.tone hb (by simp)) (by decide) (by decide) (by decide)
  refine ⟨_,rfl,_,_,_,hb3.cell (i:=2) rfl,fun i w'=>∃ k:Nat,i=k∧k≤s.ixs.length∧I k w',fun i _=>s.ixs.length - i.toNat,⟨0,rfl,by omega,[],none,0,[],rfl,hb3,Own.nil _ _ _,⟨rfl,fun _ h=>(by cases h),fun i h=>by simp at h⟩,Ts.Trs.nil,fun _ h=>(by cases h),hu03,hrt3,fun k ⟨_,h,_⟩=>(by cases h),fun k hk=>by have:=hk.1; omega⟩,?_⟩
  rintro i w4 ⟨k,rfl,hk,ix,xp,xc,xs,rfl,hb4,hxo,hxe,hix,hnil,hu4,hrt4,hixf,hxf⟩
  refine ifB_mk (fun h=>?_) (fun h=>?_)
  ·have hkn:ix.length < s.ixs.length:=by have:=of_decide_eq_true h; omega
   obtain ⟨ys,hyo,hyl,hy1,hyx⟩:=(hsch3 w4 hu4).ixs
   obtain ⟨q,n,c,e0,e1,hi',hoi,_⟩:=hyx ix.length hkn
   obtain ⟨a,ha,hcl⟩:=At.two hyo.at e0 e1
   refine ⟨a,ha,by omega,by omega,_,_,_,_,hcl,New.use (by simp [Value.oneCell']) fun b1 w5 hb1 hu5 hge1 hlt1=>set_two rfl rfl hb1 fun w7 hb7 hu7=>?_⟩
   have hu47:Upd Nothing w4 w7.drew:=(hu5.fresh hu7 fun i hi=>by rw [show i=b1 from hi]; exact hge1).then (Upd.drew _ _)
   have hb47:=hu47.blk hb4 fun f=>f
   refine ⟨_,rfl,_,_,_,hb47.cell (i:=7) rfl,_,_,_,_,two_cells hb7.drew,Ts.New_spec fun x w8 hx hxl hu8 hxfr=>⟨_,rfl,two_cells (hu8.blk hb7.drew fun f=>f),(hu8.blk hb47 fun f=>f).cell (i:=7) rfl,New.use (by simp [Value.oneCell']) fun b2 w9 hb9 hu9 hge9 _=>⟨(hu9.blk (hu8.blk hb47 fun f=>f) fun f=>f).cell (i:=7) rfl,?_⟩⟩⟩
   have hu49:=(hu47.then hu8).then hu9
   have hxo9:=hxo.upd0 hu49
   have hb49:=hu49.blk hb4 fun f=>f
   refine append_own (m:=1) sidx (.inl sidx.desc) hxo9 (Src.slice (m:=1) (ys:=[.slice q n c,.bool s.ixs[ix.length].unique,.pointer (some ⟨x.g,0,none⟩)]) (At.of_blk hb9 fun j v hj=>by rw [Nat.zero_add]; exact hj) rfl (by simp [Value.oneCell'])) (by decide) (by decide) (by omega) fun xp' xc' w10 hxo10 hu10 hxf10=>⟨_,_,_,rfl,?_⟩
   have hsz4:=hu4.size
   have hsz9:=hu49.size
   have hxg:∀ k,Fp xp xc k→¬ SX.One g k:=fun k hk e=>by have:=hxf k hk; rw [show k=g from e] at this; omega
   have hb10:Blk w10 g _ T.table_Table:=hu10.blk hb49 fun hk=>hxg g hk rfl
   refine ⟨_,rfl,hb10.store (i:=7) (by simp) rfl fun w11 hb11 hu11 _=>?_⟩
   rw [i64_wrap (by omega) (by omega)]
   -- what is not of the header,nor of the list of indexes
   have hty:∀ (es:List Nat) (k:Nat),T.table_index∉es→Typed w9 es k→¬ Fp xp xc k:=fun es k he hk hk'=>own_not_typed hxo9 he k hk' hk
   have hix9:=hix.upd0 hu49
   have hx9:=hx.upd0 hu9
   have hrt9:=hrt4.upd0 hu49
   have hix10:=hix9.upd hu10 fun k hk=>hty _ k (by decide) (hix9.typed hk)
   have hx10:=hx9.upd hu10 fun k hk=>hty _ k (by decide) (hx9.typed hk)
   have hrt10:=hrt9.upd hu10 fun k hk=>hty _ k (by decide) (hrt9.typed hk)
   have hone:∀ (es:List Nat) (k:Nat),T.table_Table∉es→Typed w10 es k→¬ SX.One g k:=fun es k he hk e=>by
    rw [show k=g from e] at hk
    exact Typed.not hb10 he hk
   have hu011:Upd (SX.One g) w w11:=((hu4.more hu49).trans hu10 (fun _ _ h=>h) fun i hi hf=>by have:=hxf i hf; omega).then hu11
   refine ⟨⟨ix.length+1,by omega,by omega,ix++[x],xp',xc',_,by simp,hb11,hxo10.upd hu11 fun k hk e=>?_,⟨?_,fun v hv=>?_,fun i hi=>?_⟩,?_,fun y hy=>?_,hu011,hrt10.upd hu11 fun k hk=>hone _ k (by decide) (hrt10.typed hk),fun k hk=>?_,fun k hk=>?_⟩,by show s.ixs.length - _ < s.ixs.length - _; omega⟩
   ·rcases hxf10 k hk with h | h
    ·exact hxg k h e
    ·rw [show k=g from e] at h; omega
   ·rw [List.length_append,hxe.1,List.length_append]; simp; omega
   ·rcases List.mem_append.1 hv with hv | hv
    ·exact hxe.2.1 v hv
    ·simp only [List.mem_cons,List.mem_nil_iff,or_false] at hv
     rcases hv with rfl | rfl | rfl <;> rfl
   ·have hxl3:=hxe.1
    by_cases hi2:i < ix.length
    ·obtain ⟨k1,k2,k3,k4,k5,k6,k7⟩:=hxe.2.2 i hi2
     refine ⟨k1,k2,k3,k4,by rw [List.getElem?_append_left (by omega)]; exact k5,by rw [List.getElem?_append_left (by omega)]; exact k6,by rw [List.getElem?_append_left (by omega),List.getElem_append_left hi2]; exact k7⟩
    ·have hie:i=ix.length:=by simp at hi; omega
     subst hie
     refine ⟨hkn,q,n,c,?_,?_,?_⟩
     ·rw [List.getElem?_append_right (by omega),hxl3]; simp
     ·rw [List.getElem?_append_right (by omega),hxl3,show ix.length * 3+1 - ix.length * 3=1 by omega]; rfl
     ·rw [List.getElem?_append_right (by omega),hxl3,show ix.length * 3+2 - ix.length * 3=2 by omega,List.getElem_append_right (by omega)]; simp
   ·have hix11:=hix10.upd hu11 fun k hk=>hone _ k (by decide) (hix10.typed hk)
    have hx11:=hx10.upd hu11 fun k hk=>hone _ k (by decide) (hx10.typed hk)
    exact hix11.snoc hx11 fun k hk hk'=>by
     have h1:=hix.lt hk
     have h2:=hxfr k hk'
     have:=hu47.size
     omega
   ·rcases List.mem_append.1 hy with hy | hy
    ·exact hnil y hy
    ·rw [List.mem_singleton.1 hy]; exact hxl
   ·obtain ⟨y,hy,hk⟩:=hk
    rcases List.mem_append.1 hy with hy | hy
    ·exact hixf k ⟨y,hy,hk⟩
    ·rw [List.mem_singleton.1 hy] at hk
     have:=hxfr k hk
     have:=hu47.size
     omega
   ·rcases hxf10 k hk with h | h
    ·exact hxf k h
    ·omega
  ·have hkn:ix.length=s.ixs.length:=by have:=of_decide_eq_false h; omega
   refine hK ⟨g,cp,cc,ip,ic,B,rt,ix,xp,xc,[]⟩ w4 ⟨hs,hsm,hb4,hsch3 w4 hu4,hrt4,hrl,fun _ h=>(by cases h),hix,hkn,fun i hi=>?_,⟨xs,hxo,hxe⟩,Pt.Inv.nil hs⟩ rfl rfl hu4 fun k hk=>?_
   ·rw [hnil _ (List.getElem_mem hi)]
    exact Pt.IxL.nil
   ·rcases hk with hk | hk | hk | hk
    ·exact .inl hk
    ·exact .inr (hrf k hk)
    ·exact .inr (hixf k hk)
    ·exact .inr (hxf k hk))
theorem tnew_spec {v:Value} (hs:SchEx w s v) (hsm:Small s) (hK1:∀ w',¬ s.Right→Upd Nothing w w'→K (.tuple #[.pointer none,.int .i64 1]) w')
  (hK2:∀ t w',TabAt w' s t→t.rs=[]→Upd Nothing w w'→(∀ k,FT t k→w.heap.size≤k)→K (.tuple #[.pointer (some ⟨t.g,0,none⟩),.int .i64 0]) w') :
  Cv F.z118 #[v] w K:=by
 have hs0:=hs
 obtain ⟨cp,cc,ip,ic,rfl,hcols,hcc,hixs,hic⟩:=hs
 refine R.z118 ?_
 unfold C.z118
 refine New.use (by simp [Value.oneCell']) fun g1 w1 hb1 hu1 hge1 _=>⟨_,_,_,_,_,_,_,_,_,_,six_cells hb1,schema_right ((hs0.upd0 hu1).at hsm) fun b w2 hb hu2=>⟨_,rfl,ifB_mk (fun h=>hK1 w2 (fun h'=>by rw [hb.2 h'] at h; cases h) (hu1.then hu2)) (fun h=>?_)⟩⟩
 have hright:=hb.1 (by simpa using h)
 have hu12:=hu1.then hu2
 refine ⟨_,_,_,_,_,_,_,_,_,_,six_cells (hu2.blk hb1 fun f=>f),copy_spec (hs0.upd0 hu12) (by have:=hsm.1; omega) (by have:=hsm.2.1; omega) (fun x hx=>by have:=hsm.2.2 x hx; omega) fun cp' cc' ip' ic' w3 ho3 hu3=>⟨_,_,_,_,_,_,_,_,_,_,rfl,New.use (by simp [Value.oneCell']) fun g2 w4 hb4 hu4 hge4 _=>?_⟩⟩
 have hu04:=(hu12.then hu3).then hu4
 refine clear_spec hright hsm (ho3.upd0 hu4) hb4 fun t' w5 ht hrs hg hu5 hf=>⟨rfl,?_⟩
 have hsz:=(hu12.then hu3).size
 have:=hK2 t' w5 ht hrs (hu04.fresh hu5 fun i hi=>by rw [show i=g2 from hi]; omega) fun k hk=>by
  rcases hf k hk with rfl | h
  ·omega
  ·have:=hu04.size; omega
 rw [hg] at this
 exact this
end
end Tb
end Go.Proofs.YtjcgociobhhijaaGreatDoor
namespace Go.Proofs.YtjcgociobhhijaaGreatDoor
open Go SX Va Cd Sc Bt
namespace Tb
theorem rows_len (t:Tbl):t.t.length=t.rs.length:=(List.length_map _).symm
section
variable {w:World} {K:Value→World→Prop} {p q kp:Option Addr} {n c m d kc:Nat} {s:Schm} {t:Tbl} {row:Row} {key:ByteArray}
theorem tlen_spec (ht:TabAt w s t) (hK:K (.int .i64 (t.rs.length:Int)) w):Cv F.z126 #[.pointer (some ⟨t.g,0,none⟩)] w K:=
 R.z126 (by
  unfold C.z126
  refine ifB_mk (fun h=>by cases h) (fun _=>⟨_,rfl,_,ht.hdr.cell (i:=6) rfl,R.z147 (by
   unfold C.z147
   refine ifB_mk (fun h=>by cases h) (fun _=>⟨_,rfl,_,(Tv.TrAt.hdr ht.rt).cell (i:=1) rfl,_,rfl,?_⟩)
   have e:t.rt.l.length=t.rs.length:=by rw [ht.rl]; unfold Pt.rowsL; rw [List.length_map]; exact rows_len t
   rw [e]
   exact hK)⟩))
theorem rget_spec (ht:TabAt w s t) (hK1:∀ w',(∀ r∈t.rs,Pt.kx s 0 r≠key)→Upd Nothing w w'→K (.tuple #[.slice none 0 0,.bool false]) w') (hK2:∀ r q m d w',r∈t.rs→Pt.kx s 0 r=key→RowS (TyS [T.api_Value]) w q m r→m≤d→Upd Nothing w w'→K (.tuple #[.slice q m d,.bool true]) w') :
  Cv F.z146 #[.pointer (some ⟨t.rt.g,0,none⟩),.string key] w K:=
 Tv.Get_spec ht.rt fun w1 hu1=>by
  rw [ht.rl]
  rcases Pt.rowsL_get ht.inv.srt key with ⟨h1,h2⟩ | ⟨x,hx,h2,h3⟩
  ·rw [h1]
   exact hK1 w1 h2 hu1
  ·rw [h3]
   obtain ⟨q,m,d,hv,hr,hd⟩:=ht.rows x hx
   show K (.tuple #[x.2,.bool true]) w1
   rw [hv]
   exact hK2 x.1 q m d w1 (List.mem_map.2 ⟨x,hx,rfl⟩) h2 hr hd hu1
theorem row_small (ht:TabAt w s t) {r:Row} (hr:r∈t.rs):r.length≤12:=by
 have h1:=(ht.inv.ok r hr).1.1
 have h2:=ht.small.1
 omega
theorem get_row (ht:TabAt w s t) (hK1:∀ p c w',(∀ r∈t.rs,Pt.kx s 0 r≠key)→Upd Nothing w w'→K (.tuple #[.slice p 0 c,.bool false]) w') (hK2:∀ r p c w',r∈t.rs→Pt.kx s 0 r=key→Own w' T.api_Value 3 p r.length c (vals r)→Upd Nothing w w'→(∀ k,Fp p c k→w.heap.size≤k)→K (.tuple #[.slice p r.length c,.bool true]) w') :
  Cv F.z122 #[.pointer (some ⟨t.g,0,none⟩),.string key] w K:=
 R.z122 (by
  unfold C.z122
  refine ifB_mk (fun h=>by cases h) (fun _=>⟨_,rfl,_,ht.hdr.cell (i:=6) rfl,rget_spec ht (fun w1 h1 hu1=>⟨_,_,_,_,rfl,?_⟩) (fun r q m d w1 hr hk hrow hd hu1=>⟨_,_,_,_,rfl,?_⟩)⟩)
  ·refine clone_row (r:=[]) (At.nil _ _) rfl (by omega) fun p' c' w2 ho hu2 hf=>⟨_,_,_,rfl,hK1 _ _ w2 h1 (hu1.then hu2)⟩
  ·have:=row_small ht hr
   have hml:=hrow.2.2
   subst hml
   refine clone_row (hrow.1.upd0 hu1) rfl (by omega) fun p' c' w2 ho hu2 hf=>⟨_,_,_,rfl,hK2 r _ _ w2 hr hk ho (hu1.then hu2) fun k hk=>Nat.le_trans hu1.size (hf k hk)⟩)
theorem row_spec {r:Row} (ht:TabAt w s t) (hr:r∈t.rs) (hK:∀ p c w',Own w' T.api_Value 3 p r.length c (vals r)→Upd Nothing w w'→(∀ k,Fp p c k→w.heap.size≤k)→K (.slice p r.length c) w') :
  Cv F.z139 #[.pointer (some ⟨t.g,0,none⟩),.string (Pt.kx s 0 r)] w K:=
 R.z139 (by
  unfold C.z139
  refine ⟨_,rfl,_,ht.hdr.cell (i:=6) rfl,rget_spec ht (fun w1 h1 hu1=>absurd rfl (h1 r hr)) (fun r' q m d w1 hr' hk hrow hd hu1=>⟨_,_,_,_,rfl,?_⟩)⟩
  obtain ⟨h0,_⟩:=Pt.right_zero ht.right
  have e:r'=r:=ht.inv.dist ht.right h0 hr' hr hk
  subst e
  have:=row_small ht hr
  have hml:=hrow.2.2
  subst hml
  refine clone_row (hrow.1.upd0 hu1) rfl (by omega) fun p' c' w2 ho hu2 hf=>⟨_,_,_,rfl,hK _ _ w2 ho (hu1.then hu2) fun k hk=>Nat.le_trans hu1.size (hf k hk)⟩)
theorem tkey_spec (hM:MX w) (ht:TabAt w s t) (hr:At w q (vals row)) (hrl:row.length=m) (hm:m≤9223372036854775806)
  (hK1:∀ w',¬ FitsP s.cols row→Upd Nothing w w'→K (.tuple #[.string (bs []),.int .i64 13]) w') (hK2:∀ w',FitsP s.cols row→Upd Nothing w w'→K (.tuple #[.string (Pt.kx s 0 row),.int .i64 0]) w') :
  Cv F.z125 #[.pointer (some ⟨t.g,0,none⟩),.slice q m d] w K:=
 R.z125 (by
  unfold C.z125
  obtain ⟨h0,_⟩:=Pt.right_zero ht.right
  refine ifB_mk (fun h=>by cases h) (fun _=>⟨_,rfl,_,_,_,_,_,_,_,_,_,_,ht.six,pkeys_spec hM ht hr hrl hm (fun w1 hn hu1=>⟨_,_,_,_,rfl,ifB_mk (fun _=>hK1 w1 hn hu1) (fun h=>by cases h)⟩) (fun kp kc w1 hf hk hu1 _=>⟨_,_,_,_,rfl,ifB_mk (fun h=>by cases h) (fun _=>?_)⟩)⟩)
  obtain ⟨a,ha,hc⟩:=hk.at 0 _ (kx_get h0)
  exact ⟨a,ha,by omega,by omega,_,by simpa using hc,hK2 w1 hf hu1⟩)
theorem insert_spec (hM:MX w) (ht:TabAt w s t) (hr:At w q (vals row)) (hrl:row.length=m) (hm:m≤9223372036854775806) (hw:∀ x∈row,Va.Val.wf x)
  (hK:∀ t' w',TabMv w w' s t t'→t'.rs=(Pt.tins s t.rs row).1→K (.int .i64 (Pt.tins s t.rs row).2) w') :
  Cv F.z124 #[.pointer (some ⟨t.g,0,none⟩),.slice q m d] w K:=
 R.z124 (by
  unfold C.z124
  unfold Pt.tins at hK
  refine ifB_mk (fun h=>by cases h) (fun _=>⟨_,rfl,_,_,_,_,_,_,_,_,_,_,ht.six,pkeys_spec hM ht hr hrl hm (fun w1 hn hu1=>⟨_,_,_,_,rfl,ifB_mk (fun _=>?_) (fun h=>by cases h)⟩) (fun kp kc w1 hf hk hu1 _=>⟨_,_,_,_,rfl,ifB_mk (fun h=>by cases h) (fun _=>?_)⟩)⟩)
  ·rw [if_pos hn] at hK
   exact hK t w1 (TabMv.refl ht hu1) rfl
  rw [if_neg (not_not_intro hf)] at hK
  refine clash_spec (o:=none) rfl (ht.upd0 hu1) hk.at fun b w2 hb hu2=>⟨_,rfl,ifB_mk (fun h=>?_) (fun h=>?_)⟩
  ·rw [if_pos (hb.1 h)] at hK
   exact hK t w2 (TabMv.refl ht (hu1.then hu2)) rfl
  have hc:¬ Pt.Clash s t.rs row none:=fun h'=>by rw [hb.2 h'] at h; cases h
  rw [if_neg hc] at hK
  have hu02:Upd Nothing w w2.drew:=(hu1.then hu2).then (Upd.drew _ _)
  have ht2:=ht.upd0 hu02
  refine ⟨_,rfl,_,ht2.hdr.cell (i:=3) rfl,tlen_spec ht2 ⟨_,rfl,ht2.hdr.cell (i:=3) rfl,ifB_mk (fun h=>?_) (fun h=>?_)⟩⟩
  ·rw [if_pos (of_decide_eq_true h)] at hK
   exact hK t _ (TabMv.refl ht hu02) rfl
  ·have hl:=of_decide_eq_false h
   rw [if_neg hl] at hK
   refine lay_spec ht2 (hr.upd0 hu02) hrl ⟨hf,hw⟩ hc (by omega) (hk.upd0 (hu2.then (Upd.drew _ _))) fun t' w' hmv hrs=>⟨rfl,hK t' w' (TabMv.after ht hu02 hmv) hrs⟩)
theorem update_spec (hM:MX w) (ht:TabAt w s t) (hr:∀ w',Upd (FT t) w w'→At w' q (vals row)) (hrl:row.length=m) (hm:m≤9223372036854775806) (hw:∀ x∈row,Va.Val.wf x)
  (hK:∀ t' w',TabMv w w' s t t'→t'.rs=(Pt.tupd s t.rs key row).1→K (.int .i64 (Pt.tupd s t.rs key row).2) w') :
  Cv F.z132 #[.pointer (some ⟨t.g,0,none⟩),.string key,.slice q m d] w K:=
 R.z132 (by
  unfold C.z132
  unfold Pt.tupd at hK
  have hr0:=hr w (Upd.refl _ _)
  refine ifB_mk (fun h=>by cases h) (fun _=>⟨_,rfl,_,ht.hdr.cell (i:=6) rfl,rget_spec ht (fun w1 h1 hu1=>⟨_,_,_,_,rfl,ifB_mk (fun _=>?_) (fun h=>by cases h)⟩) (fun was q0 m0 d0 w1 hwas hk hrow hd hu1=>⟨_,_,_,_,rfl,ifB_mk (fun h=>by cases h) (fun _=>?_)⟩)⟩)
  ·rw [if_pos (fun ⟨r,hr,he⟩=>h1 r hr he)] at hK
   exact hK t w1 (TabMv.refl ht hu1) rfl
  subst hk
  rw [if_neg (fun h=>h ⟨was,hwas,rfl⟩)] at hK
  have ht1:=ht.upd0 hu1
  refine ⟨_,rfl,_,_,_,_,_,_,_,_,_,_,ht1.six,pkeys_spec (hM.upd0 hu1) ht1 (hr0.upd0 hu1) hrl hm (fun w2 hn hu2=>⟨_,_,_,_,rfl,ifB_mk (fun _=>?_) (fun h=>by cases h)⟩) (fun kp kc w2 hf hkk hu2 _=>⟨_,_,_,_,rfl,ifB_mk (fun h=>by cases h) (fun _=>?_)⟩)⟩
  ·rw [if_pos hn] at hK
   exact hK t w2 (TabMv.refl ht (hu1.then hu2)) rfl
  rw [if_neg (not_not_intro hf)] at hK
  have hu02:=hu1.then hu2
  refine clash_spec (o:=some (Pt.kx s 0 was)) rfl (ht.upd0 hu02) hkk.at fun b w3 hb hu3=>⟨_,rfl,ifB_mk (fun h=>?_) (fun h=>?_)⟩
  ·rw [if_pos (hb.1 h)] at hK
   exact hK t w3 (TabMv.refl ht (hu02.then hu3)) rfl
  have hc:¬ Pt.Clash s t.rs row (some (Pt.kx s 0 was)):=fun h'=>by rw [hb.2 h'] at h; cases h
  rw [if_neg hc] at hK
  have hu03:=hu02.then hu3
  have ht3:=ht.upd0 hu03
  have hml:=hrow.2.2
  refine take_spec (hM.upd0 hu03) ht3 (hrow.1.upd0 hu03) hml hwas fun t1 w4 hmv1 hrs1=>⟨rfl,?_⟩
  have hmv01:TabMv w w4 s t t1:=TabMv.after ht hu03 hmv1
  have hu34:Upd (Typed w3 TTy) w3 w4:=hmv1.upd.mono fun k _ hk=>ht3.typed hk
  have hl1:(Pt.mdel s (Pt.kx s 0 was) t.rs).length+1=t.rs.length:=Pt.mdel_len ht.inv hwas
  have hlim:(t.rs.length:Int)≤s.limit:=ht.inv.lim
  rw [← hmv1.g]
  refine lay_spec hmv1.at_ (hr w4 hmv01.upd) hrl ⟨hf,hw⟩ (by rw [hrs1]; exact Pt.clash_del hc) (by rw [hrs1]; omega) ((hu34.town (hkk.upd0 hu3) (by decide))) fun t' w' hmv hrs=>⟨rfl,hK t' w' (hmv01.trans hmv) (by rw [hrs,hrs1])⟩)
theorem delete_spec (hM:MX w) (ht:TabAt w s t)
  (hK:∀ t' w',TabMv w w' s t t'→t'.rs=(Pt.tdlt s t.rs key).1→K (.int .i64 (Pt.tdlt s t.rs key).2) w') :
  Cv F.z120 #[.pointer (some ⟨t.g,0,none⟩),.string key] w K:=
 R.z120 (by
  unfold C.z120
  unfold Pt.tdlt at hK
  refine ifB_mk (fun h=>by cases h) (fun _=>⟨_,rfl,_,ht.hdr.cell (i:=6) rfl,rget_spec ht (fun w1 h1 hu1=>⟨_,_,_,_,rfl,ifB_mk (fun _=>?_) (fun h=>by cases h)⟩) (fun was q0 m0 d0 w1 hwas hk hrow hd hu1=>⟨_,_,_,_,rfl,ifB_mk (fun h=>by cases h) (fun _=>?_)⟩)⟩)
  ·rw [if_pos (fun ⟨r,hr,he⟩=>h1 r hr he)] at hK
   exact hK t w1 (TabMv.refl ht hu1) rfl
  subst hk
  rw [if_neg (fun h=>h ⟨was,hwas,rfl⟩)] at hK
  exact take_spec (hM.upd0 hu1) (ht.upd0 hu1) (hrow.1.upd0 hu1) hrow.2.2 hwas fun t1 w4 hmv1 hrs1=>⟨rfl,hK t1 w4 (TabMv.after ht hu1 hmv1) hrs1⟩)
theorem tclear_spec (ht:TabAt w s t) (hK:∀ t' w',TabMv w w' s t t'→t'.rs=[]→K (.tuple #[]) w'):Cv F.z135 #[.pointer (some ⟨t.g,0,none⟩)] w K:=
 clear_spec ht.right ht.small ht.sch ht.hdr fun t' w' h1 h2 h3 h4 h5=>hK t' w' ⟨h1,h4.mono fun i _ hi=>.inl hi,fun k hk=>by
  rcases h5 k hk with h | h
  ·exact .inl (.inl h)
  ·exact .inr h,h3⟩ h2
theorem load_spec {rows:List Row} (hM:∀ w',Upd (FT t) w w'→MX w') (ht:TabAt w s t) (hr:∀ w',Upd (FT t) w w'→Rws w' p rows) (hn:rows.length=n) (hn2:n≤1000000) (hm:∀ r∈rows,r.length≤9223372036854775806) (hw:∀ r∈rows,∀ x∈r,Va.Val.wf x)
  (hK:∀ t' w',TabMv w w' s t t'→t'.rs=(Pt.tlds s [] rows).1→K (.int .i64 (Pt.tlds s [] rows).2) w') :
  Cv F.z127 #[.pointer (some ⟨t.g,0,none⟩),.slice p n c] w K:=
 R.z127 (by
  unfold C.z127
  refine ifB_mk (fun h=>by cases h) (fun _=>tclear_spec ht fun t0 w1 hmv1 hrs1=>⟨rfl,fun i w'=>∃ (k:Nat) (tk:Tbl),i=k∧k≤n∧TabMv w w' s t tk∧(Pt.tlds s [] (rows.take k)).2=0∧tk.rs=(Pt.tlds s [] (rows.take k)).1,fun i _=>n - i.toNat,⟨0,t0,rfl,by omega,hmv1,rfl,hrs1⟩,?_⟩)
  rintro i w2 ⟨k,tk,rfl,hk,hmv2,he2,hrs2⟩
  have hg2:=hmv2.g
  refine ifB_mk (fun h=>?_) (fun h=>?_)
  ·have hkn:k < n:=by have:=of_decide_eq_true h; omega
   have hkr:k < rows.length:=by omega
   obtain ⟨a,q,m,d,ha,hc,hat,hml,hmd⟩:=hr w2 hmv2.upd k hkr
   have hmem:=List.getElem_mem hkr
   rw [← hg2]
   have htk:rows.take (k+1)=rows.take k++[rows[k]]:=List.take_succ_eq_append_getElem hkr
   have hsn:=Pt.tlds_snoc s (rows.take k) [] rows[k] he2
   rw [← htk,← hrs2] at hsn
   refine ⟨a,ha,by omega,by omega,_,_,_,by simpa using hc,insert_spec (hM w2 hmv2.upd) hmv2.at_ hat hml (by rw [← hml]; exact hm _ hmem) (hw _ hmem) fun t3 w3 hmv3 hrs3=>⟨_,rfl,ifB_mk (fun h0=>?_) (fun h0=>?_)⟩⟩
   ·have hne:(Pt.tins s tk.rs rows[k]).2≠0:=by simpa using h0
    rw [if_neg hne] at hsn
    rw [← hmv3.g]
    refine tclear_spec hmv3.at_ fun t4 w4 hmv4 hrs4=>⟨rfl,?_⟩
    have hst:=Pt.tlds_stop s (rows.take (k+1)) [] (rows.drop (k+1)) (by rw [hsn]; exact hne)
    rw [List.take_append_drop,hsn] at hst
    rw [hst] at hK
    exact hK t4 w4 ((hmv2.trans hmv3).trans hmv4) hrs4
   ·have h00:(Pt.tins s tk.rs rows[k]).2=0:=by simpa using h0
    rw [if_pos h00] at hsn
    rw [i64_wrap (by omega) (by omega)]
    exact ⟨⟨k+1,t3,by omega,by omega,hmv2.trans hmv3,by rw [hsn]; exact h00,by rw [hsn]; exact hrs3⟩,by show n - _ < n - _; omega⟩
  ·have hkn:k=n:=by have:=of_decide_eq_false h; omega
   subst hkn
   rw [List.take_of_length_le (by omega)] at he2 hrs2
   have:=hK tk w2 hmv2 hrs2
   rw [he2] at this
   exact this)
end
end Tb
end Go.Proofs.YtjcgociobhhijaaGreatDoor
namespace Go.Proofs.YtjcgociobhhijaaGreatDoor
open Go SX Va Cd Sc Bt
namespace Tb
def OutRows (w:World) (p:Option Addr) (n c:Nat) (l:List Row):Prop:=∃ xs,Own w T.s_api_Value 1 p n c xs∧SlE (RowS (TyS [T.api_Value]) w) xs l∧l.length=n
section
variable {w w':World} {p:Option Addr} {n c:Nat} {l:List Row}
theorem OutRows.nil (w:World):OutRows w none 0 0 []:=⟨[],Own.nil _ _ _,SlE.nil,rfl⟩
theorem OutRows.upd0 (h:OutRows w p n c l) (hu:Upd Nothing w w'):OutRows w' p n c l:=by
 obtain ⟨xs,ho,hs,hl⟩:=h
 exact ⟨xs,ho.upd0 hu,hs.mono fun _ _ _ _ h=>h.keep (keeps_nothing hu),hl⟩
theorem OutRows.keep {es:List Nat} (h:OutRows w p n c l) (hu:Upd (Typed w es) w w') (h1:T.s_api_Value∉es) (h2:T.api_Value∉es):OutRows w' p n c l:=by
 obtain ⟨xs,ho,hs,hl⟩:=h
 exact ⟨xs,hu.town ho h1,hs.mono fun _ _ _ _ h=>h.keep (keeps_typed hu (by simpa using h2)),hl⟩
theorem OutRows.plain (h:OutRows w p n c l):Rws w p l:=by
 obtain ⟨xs,ho,hs,hl⟩:=h
 exact rows_plain (S:=TyS [T.s_api_Value,T.api_Value]) ⟨xs,ho.at,own_tyS ho (by simp),hs.mono fun _ _ _ _ h=>h.keep (moves_refl fun k hk=>typed_sub hk (by simp)),hl⟩
theorem OutRows.len (h:OutRows w p n c l):l.length=n:=by obtain ⟨_,_,_,h⟩:=h; exact h
theorem OutRows.le (h:OutRows w p n c l):n≤c:=by obtain ⟨_,h,_⟩:=h; exact h.le
theorem OutRows.stay {w0:World} {g:Nat} (h:OutRows w p n c l):RwsS (Stay w0 w g) p l:=fun i hi=>by
 obtain ⟨xs,ho,hs,hl⟩:=h
 obtain ⟨q,m,d,hx,hr,hd⟩:=hs.2 i hi
 obtain ⟨a,ha,_⟩:=ho.at i _ hx
 refine ⟨a,q,m,d,ha,fun w' l' _ hu=>?_,fun w' l' _ hu=>(hr.keep (keeps_typed hu (by decide))).1,hr.2.2,hd⟩
 obtain ⟨a',ha',hc⟩:=(hu.town ho (by decide)).at i _ hx
 rw [ha] at ha'
 injection ha' with ha'
 subst ha'
 exact hc
theorem row_own {r:Row} {q:Option Addr} {m d:Nat} (h:Own w T.api_Value 3 q m d (vals r)) (hl:r.length=m):RowS (TyS [T.api_Value]) w q m r:=⟨h.at,fun hne b hb=>own_tyS h (by simp) (fun e=>hne (by cases r with
 | nil=>rfl
 | cons x r=>simp [vals,Val.cells] at e)) b hb,hl⟩
theorem app_row {K:Value→World→Prop} {q:Option Addr} {m d:Nat} {r:Row} (ho:OutRows w p n c l) (hor:Own w T.api_Value 3 q m d (vals r)) (hrl:r.length=m) (hsz:n≤1000000)
  (hK:∀ p' c' w',OutRows w' p' (n+1) c' (l++[r])→Upd (Fp p c) w w'→(∀ k,Fp p' c' k→Fp p c k∨w.heap.size≤k)→K (.slice p' (n+1) c') w') :
  ∀ g w1,New w (.cells #[.slice q m d] T.s_api_Value) g w1→BuiltV prog .append #[T.s_s_api_Value,T.s_s_api_Value] T.s_s_api_Value #[.slice p n c,.slice (some (Addr.mk g 0 none)) 1 1] w1 K:=by
 obtain ⟨xs,hx,hs,hl⟩:=ho
 refine app_cell srows2 (by decide) rfl hx (by omega) fun p' c' w' ho' hu' hf'=>hK p' c' w' ⟨_,ho',SlE.append (hs.mono fun _ _ _ _ h=>h.keep (keeps_own hx (by decide) hu')) (SlE.one ((row_own hor hrl).keep (keeps_own hx (by decide) hu')) hor.le),by simp [hl]⟩ hu' hf'
end
def partOf (s:Schm) (r:Row):Int:=if h:s.by_.toNat < r.length then Ca.spreadV (r[s.by_.toNat]'h) s.parts else 0
def inP (s:Schm) (parts:List Int) (r:Row):Bool:=decide (parts=[]) || decide (partOf s r∈parts)
section
variable {w:World} {K:Value→World→Prop} {p q kp pp:Option Addr} {n c m d kc pn pc:Nat} {s:Schm} {t:Tbl} {row:Row} {key:ByteArray} {i:Nat} {parts:List Int}
theorem contains_spec {v:Int} (hat:At w pp (ints parts)) (hl:parts.length=pn) (hn:pn≤9223372036854775806) (hK:∀ w',Upd Nothing w w'→K (.bool (decide (v∈parts))) w'):Cv F.z97 #[.slice pp pn pc,.int .i64 v] w K:=
 R.z97 (by
  unfold C.z97
  refine R.z104 (by
   unfold C.z104
   refine ⟨fun i w'=>∃ k:Nat,i=k∧k≤pn∧Upd Nothing w w'∧v∉parts.take k,fun i _=>pn - i.toNat,⟨0,rfl,by omega,Upd.refl _ _,by simp⟩,?_⟩
   rintro i w1 ⟨k,rfl,hk,hu1,hq⟩
   refine ifB_mk (fun h=>?_) (fun h=>?_)
   ·have hkn:k < pn:=by have:=of_decide_eq_true h; omega
    have hkp:k < parts.length:=by omega
    obtain ⟨a,ha,hc⟩:=(hat.upd0 hu1) k _ (ints_get hkp)
    refine ⟨a,ha,by omega,by omega,_,by simpa using hc,ifB_mk (fun h=>⟨_,rfl,?_⟩) (fun h=>scan_next (Q:=fun k=>v∉parts.take k) hkn (by omega) hu1 ?_)⟩
    ·have e:v=parts[k]:=by simpa using h
     have:=hK w1 hu1
     rw [decide_eq_true (show v∈parts by rw [e]; exact List.getElem_mem hkp)] at this
     have h2:decide ((0:Int)≤(k:Int))=true:=decide_eq_true (by omega)
     rw [h2]
     exact this
    ·have hne:v≠parts[k]:=by simpa using h
     rw [List.take_succ_eq_append_getElem hkp]
     intro hm
     rcases List.mem_append.1 hm with hm | hm
     ·exact hq hm
     ·exact hne (by simpa using hm)
   ·have hkn:k=pn:=by have:=of_decide_eq_false h; omega
    rw [List.take_of_length_le (by omega)] at hq
    have:=hK w1 hu1
    rw [decide_eq_false hq] at this
    exact ⟨_,rfl,this⟩))
theorem among_spec (ht:TabAt w s t) (hok:Pt.RowOk s row) (hr:At w q (vals row)) (hrl:row.length=m) (hat:At w pp (ints parts)) (hl:parts.length=pn) (hn:pn≤9223372036854775806) (hK:∀ w',Upd Nothing w w'→K (.bool (inP s parts row)) w') :
  Cv F.z133 #[.pointer (some ⟨t.g,0,none⟩),.slice q m d,.slice pp pn pc] w K:=
 R.z133 (by
  unfold C.z133
  refine ifB_mk (fun h=>?_) (fun h=>?_)
  ·have h0:pn=0:=by simpa using h
   have he:parts=[]:=List.length_eq_zero_iff.1 (by omega)
   have:=hK w (Upd.refl _ _)
   unfold inP at this
   rw [decide_eq_true he] at this
   exact this
  ·have h0:parts≠[]:=fun e=>by rw [e] at hl; rw [← hl] at h; exact absurd h (by decide)
   refine ⟨_,rfl,_,_,_,_,_,_,_,_,_,_,ht.six,ppart_spec ht hr hrl hok fun w1 hlt hu1=>⟨_,rfl,contains_spec (hat.upd0 hu1) hl hn fun w2 hu2=>⟨_,rfl,?_⟩⟩⟩
   have:=hK w2 (hu1.then hu2)
   unfold inP partOf at this
   rw [decide_eq_false h0,dif_pos hlt,Bool.false_or] at this
   exact this)
theorem has_spec {index:Int} (ht:TabAt w s t) (hK:K (.bool (decide (0≤index) && decide (index < (t.ix.length:Int)))) w):Cv F.z137 #[.pointer (some ⟨t.g,0,none⟩),.int .i64 index] w K:=
 R.z137 (by
  unfold C.z137
  refine ifB_mk (fun _=>ifB_mk (fun h=>⟨_,rfl,_,_,_,ht.hdr.cell (i:=7) rfl,?_⟩) (fun h=>?_)) (fun h=>by cases h)
  ·rw [h,Bool.true_and] at hK; exact hK
  ·rw [h,Bool.false_and] at hK; exact hK)
def ent (s:Schm) (i:Nat) (r:Row):Ent:=(Pt.kx s i r,.string (Pt.kx s 0 r))
def nxR (s:Schm) (i:Nat) (b:Bool) (k:ByteArray) (parts:List Int) (l:List Row):Option Row:=l.find? fun r=>Ts.nx b k (ent s i r) && inP s parts r
theorem nxt_map (b:Bool) (k:ByteArray) (l:List Row):Ts.nxt b k (l.map (ent s i))=(l.find? fun r=>Ts.nx b k (ent s i r)).map (ent s i):=by
 unfold Ts.nxt
 rw [List.find?_map]
 rfl
theorem find_and (f g:Row→Bool):∀ l:List Row,l.find? (fun r=>f r && g r)=(l.filter g).find? f
 | []=>rfl
 | a :: l=>by
  rw [List.find?_cons,List.filter_cons]
  cases hg:g a with
  | false=>rw [Bool.and_false,if_neg (by decide)]; exact find_and f g l
  | true=>
   rw [Bool.and_true,if_pos rfl,List.find?_cons]
   cases f a with
   | true=>rfl
   | false=>exact find_and f g l
theorem nxR_behind {l D1 D3:List Row} {r:Row} (hs:l.Pairwise fun a b=>sLt (Pt.kx s i a) (Pt.kx s i b)=true) (h:l.filter (inP s parts)=D1++r :: D3):nxR s i false (Pt.kx s i r) parts l=D3.head?:=by
 unfold nxR
 rw [find_and,h]
 have hs':(D1++r :: D3).Pairwise fun a b=>sLt (Pt.kx s i a) (Pt.kx s i b)=true:=by rw [← h]; exact List.Pairwise.sublist List.filter_sublist hs
 obtain ⟨h1,h2,h3⟩:=List.pairwise_append.1 hs'
 obtain ⟨h4,_⟩:=List.pairwise_cons.1 h2
 rw [List.find?_append,List.find?_eq_none.2 fun x hx=>?_,Option.none_or,List.find?_cons]
 ·have e:Ts.nx false (Pt.kx s i r) (ent s i r)=false:=by unfold Ts.nx; rw [if_neg (by decide)]; exact sLt_irrefl _
  rw [e]
  show D3.find? _=_
  cases D3 with
  | nil=>rfl
  | cons y D3=>
   rw [List.find?_cons]
   have:Ts.nx false (Pt.kx s i r) (ent s i y)=true:=by unfold Ts.nx; rw [if_neg (by decide)]; exact h4 y (by simp)
   rw [this]
   rfl
 ·have:=h3 x hx r (by simp)
  unfold Ts.nx
  rw [if_neg (by decide)]
  show ¬ sLt (Pt.kx s i r) (Pt.kx s i x)=true
  rw [sLt_asymm this]
  decide
theorem sLt_nil (x:ByteArray):sLt x (bs [])=false:=by
 unfold sLt
 rw [ByteArray.toList_eq (bs [])]
 cases x.toList <;> rfl
theorem nxR_first {l:List Row}:nxR s i true (bs []) parts l=(l.filter (inP s parts)).head?:=by
 unfold nxR
 rw [find_and]
 cases h:l.filter (inP s parts) with
 | nil=>rfl
 | cons a m=>
  rw [List.find?_cons]
  have:Ts.nx true (bs []) (ent s i a)=true:=by unfold Ts.nx; rw [if_pos rfl,sLt_nil]; rfl
  rw [this]
  rfl
theorem from_spec {b:Bool} {k:ByteArray} {by_:List Row} (ht:TabAt w s t) (hi:i < s.ixs.length) (hby:Pt.ByL s i t.rs by_) (hat:At w pp (ints parts)) (hl:parts.length=pn) (hn:pn≤9223372036854775806)
  (hK1:∀ w',nxR s i b k parts by_=none→Upd Nothing w w'→K (.tuple #[.string (bs []),.slice none 0 0,.bool false]) w')
  (hK2:∀ r p c w',nxR s i b k parts by_=some r→Own w' T.api_Value 3 p r.length c (vals r)→Upd Nothing w w'→(∀ k,Fp p c k→w.heap.size≤k)→K (.tuple #[.string (Pt.kx s i r),.slice p r.length c,.bool true]) w') :
  Cv F.z136 #[.pointer (some ⟨t.g,0,none⟩),.int .i64 (i:Int),.string k,.bool b,.slice pp pn pc] w K:=
 R.z136 (by
  unfold C.z136
  have hil:=ht.il
  have hlt:i < t.ix.length:=by omega
  refine has_spec ht ⟨_,rfl,ifB_mk (fun h=>?_) (fun _=>?_)⟩
  ·rw [decide_eq_true (show (0:Int)≤(i:Int) by omega),decide_eq_true (show (i:Int) < (t.ix.length:Int) by omega)] at h
   cases h
  obtain ⟨_,a,q1,n1,c1,ha,hcl⟩:=ht.str.index hlt
  refine ⟨_,rfl,_,_,_,ht.hdr.cell (i:=7) rfl,a,ha,by omega,by omega,_,_,_,_,_,hcl,New.use (by simp [Value.oneCell']) fun b1 w2 hb1 hu2 hge1 _=>set_three rfl rfl rfl hb1 fun w5 hb5 hu5=>?_⟩
  have hu05:Upd Nothing w w5:=hu2.fresh hu5 fun i hi=>by rw [show i=b1 from hi]; exact hge1
  refine ⟨_,hb5.cell (i:=2) rfl,?_⟩
  have hL:t.ix[i].l=by_.map (ent s i):=hby.ixl (ht.ixl i hlt)
  have htr:=ht.ix.1 _ (List.getElem_mem hlt)
  have hsl:=Ts.TrAt.srt htr
  refine Ts.Next_spec (htr.upd0 hu05) fun w6 hu6=>?_
  -- those from the key on
  have hbm:∀ r∈by_,r∈t.rs:=fun r hr=>(hby.2 r).1 hr
  generalize hD:by_.filter (fun r=>Ts.nx b k (ent s i r))=D
  have hDs:D.Pairwise fun a b=>sLt (Pt.kx s i a) (Pt.kx s i b)=true:=by rw [← hD]; exact List.Pairwise.sublist List.filter_sublist hby.1
  have hDm:∀ r∈D,r∈by_:=fun r hr=>by rw [← hD] at hr; exact (List.mem_filter.1 hr).1
  have hDA:∃ A,by_=A++D:=by
   obtain ⟨A',hA',_⟩:=Ts.srt_from (b:=b) (k:=k) hsl
   rw [hL,List.filter_map] at hA'
   have hf:by_.filter (Ts.nx b k ∘ ent s i)=D:=hD
   rw [hf] at hA'
   refine ⟨by_.take A'.length,?_⟩
   have h1:(by_.map (ent s i)).drop A'.length=D.map (ent s i):=by rw [hA']; simp
   rw [← List.map_drop] at h1
   have h2:by_.drop A'.length=D:=by
    have key:∀ (l m:List Row),(∀ x∈l,x∈t.rs)→(∀ x∈m,x∈t.rs)→l.map (ent s i)=m.map (ent s i)→l=m:=by
     intro l
     induction l with
     | nil=>intro m _ _ he; cases m with
      | nil=>rfl
      | cons _ _=>simp at he
     | cons x l ih=>intro m hl hm he; cases m with
      | nil=>simp at he
      | cons y m=>
       rw [List.map_cons,List.map_cons] at he
       injection he with h1 h2
       have h1':Pt.kx s i x=Pt.kx s i y:=congrArg Prod.fst h1
       rw [ht.inv.dist ht.right hi (hl x (by simp)) (hm y (by simp)) h1',ih m (fun z hz=>hl z (by simp [hz])) (fun z hz=>hm z (by simp [hz])) h2]
    exact key _ _ (fun x hx=>hbm x (List.mem_of_mem_drop hx)) (fun x hx=>hbm x (hDm x hx)) h1
   rw [← h2,List.take_append_drop]
  have hres:nxR s i b k parts by_=D.find? (inP s parts):=by
   unfold nxR
   rw [show (fun r=>Ts.nx b k (ent s i r) && inP s parts r)=(fun r=>inP s parts r && Ts.nx b k (ent s i r)) from funext fun r=>Bool.and_comm _ _,find_and,hD]
  have hhead:Ts.nxt b k t.ix[i].l=D.head?.map (ent s i):=by
   rw [hL,nxt_map,← hD,List.head?_filter]
  have htell:∀ (o:Option Row),∃ a c o',Ts.tell (o.map (ent s i)) = .tuple #[.string a,.string c,.bool o']∧((o=none∧o'=false)∨∃ r,o=some r∧o'=true∧a=Pt.kx s i r∧c=Pt.kx s 0 r):=fun o=>by
   cases o with
   | none=>exact ⟨_,_,_,rfl,.inl ⟨rfl,rfl⟩⟩
   | some r=>exact ⟨_,_,_,rfl,.inr ⟨r,rfl,rfl,rfl,rfl⟩⟩
  rw [hhead]
  obtain ⟨ra,rb,rc,ht1,hc1⟩:=htell D.head?
  rw [ht1]
  have hcase:∀ (D2:List Row) (a c:ByteArray) (o':Bool),((D2.head? = none∧o'=false)∨∃ r,D2.head? = some r∧o'=true∧a=Pt.kx s i r∧c=Pt.kx s 0 r)→(o'=false∧D2=[])∨∃ r D3,o'=true∧D2=r :: D3∧a=Pt.kx s i r∧c=Pt.kx s 0 r:=by
   intro D2 a c o' h
   cases D2 with
   | nil=>
    rcases h with ⟨_,h⟩ | ⟨r,h,_⟩
    ·exact .inl ⟨h,rfl⟩
    ·cases h
   | cons r D3=>
    rcases h with ⟨h,_⟩ | ⟨r',h,h2,h3,h4⟩
    ·cases h
    ·injection h with h
     subst h
     exact .inr ⟨r,D3,h2,rfl,h3,h4⟩
  refine ⟨ra,rb,rc,rfl,fun k2 keyv ok w'=>Upd Nothing w w'∧Upd Nothing w5 w'∧∃ D1 D2,D=D1++D2∧(∀ r∈D1,inP s parts r=false)∧((ok=false∧D2=[])∨∃ r D3,ok=true∧D2=r :: D3∧k2=Pt.kx s i r∧keyv=Pt.kx s 0 r),fun k2 _ ok _=>if ok=true then (D.filter fun r=>!sLt (Pt.kx s i r) k2).length else 0,⟨hu05.then hu6,hu6,[],D,rfl,fun _ h=>(by cases h),hcase D ra rb rc hc1⟩,?_⟩
  rintro k2 keyv ok w7 ⟨hu7,hu57,D1,D2,hDD,hD1,hcs⟩
  rcases hcs with ⟨rfl,rfl⟩ | ⟨r,D3,rfl,rfl,rfl,rfl⟩
  ·refine ifB_mk (fun h=>by cases h) (fun _=>ifB_mk (fun _=>hK1 w7 ?_ hu7) (fun h=>by cases h))
   rw [hres,hDD,List.append_nil]
   exact List.find?_eq_none.2 fun x hx=>by rw [hD1 x hx]; decide
  have hrin:r∈t.rs:=hbm r (hDm r (by rw [hDD]; simp))
  have hrok:=ht.inv.ok r hrin
  have ht7:=ht.upd0 hu7
  refine ifB_mk (fun _=>row_spec ht7 hrin fun p8 c8 w8 ho8 hu8 _=>⟨_,_,_,rfl,?_⟩) (fun h=>by cases h)
  have hu08:=hu7.then hu8
  have ht8:=ht.upd0 hu08
  refine among_spec ht8 hrok ho8.at rfl (hat.upd0 hu08) hl hn fun w9 hu9=>⟨_,rfl,?_⟩
  have hu09:=hu08.then hu9
  have hu59:=(hu57.then hu8).then hu9
  have ht9:=ht.upd0 hu09
  refine ifB_mk (fun hin=>?_) (fun hin=>?_)
  ·have hin':inP s parts r=false:=by simpa using hin
   refine ⟨_,(hu59.blk hb5 fun f=>f).cell (i:=2) rfl,Ts.Next_spec (htr.upd0 hu09) fun w10 hu10=>?_⟩
   have hbh:Ts.nxt false (Pt.kx s i r) t.ix[i].l=D3.head?.map (ent s i):=by
    obtain ⟨A,hA⟩:=hDA
    have:=Ts.nxt_behind (e:=ent s i r) (X:=(A++D1).map (ent s i)) (Y:=D3.map (ent s i)) hsl (by rw [hL,hA,hDD]; simp)
    rw [List.head?_map] at this
    exact this
   rw [hbh]
   obtain ⟨ra2,rb2,rc2,ht2,hc2⟩:=htell D3.head?
   rw [ht2]
   have hcc:=hcase D3 ra2 rb2 rc2 hc2
   refine ⟨ra2,rb2,rc2,rfl,⟨hu09.then hu10,hu59.then hu10,D1++[r],D3,by rw [hDD]; simp,fun x hx=>?_,hcc⟩,?_⟩
   ·rcases List.mem_append.1 hx with hx | hx
    ·exact hD1 x hx
    ·rw [List.mem_singleton.1 hx]; exact hin'
   ·
    have cnt:∀ (X Y:List Row) (y:Row),D=X++y :: Y→(D.filter fun r=>!sLt (Pt.kx s i r) (Pt.kx s i y)).length=Y.length+1:=by
     intro X Y y hXY
     rw [hXY] at hDs ⊢
     obtain ⟨k1,k2,k3⟩:=List.pairwise_append.1 hDs
     obtain ⟨k4,_⟩:=List.pairwise_cons.1 k2
     rw [List.filter_append,List.filter_eq_nil_iff.2 fun x hx=>by rw [k3 x hx y (by simp)]; decide,List.filter_cons,if_pos (by rw [sLt_irrefl]; rfl),List.filter_eq_self.2 fun x hx=>by rw [sLt_asymm (k4 x hx)]; rfl]
     simp
    have h1:=cnt D1 D3 r hDD
    show (if rc2=true then (D.filter fun r=>!sLt (Pt.kx s i r) ra2).length else 0) < (if true=true then (D.filter fun r'=>!sLt (Pt.kx s i r') (Pt.kx s i r)).length else 0)
    rw [if_pos rfl,h1]
    rcases hcc with ⟨rfl,_⟩ | ⟨y,D4,rfl,rfl,rfl,_⟩
    ·rw [if_neg (by decide)]; omega
    ·rw [if_pos rfl,cnt (D1++[r]) D4 y (by rw [hDD]; simp)]
     simp
  ·have hin':inP s parts r=true:=by simpa using hin
   refine ifB_mk (fun h=>by cases h) (fun _=>row_spec ht9 hrin fun p11 c11 w11 ho11 hu11 hf11=>⟨_,_,_,rfl,hK2 r p11 c11 w11 ?_ ho11 (hu09.then hu11) fun k hk=>Nat.le_trans hu09.size (hf11 k hk)⟩)
   rw [hres,hDD,List.find?_append,List.find?_eq_none.2 fun x hx=>by rw [hD1 x hx]; decide,Option.none_or,List.find?_cons,hin'])
theorem from_none {index:Int} {b:Bool} {k:ByteArray} (ht:TabAt w s t) (hi:¬ (0≤index∧index < (s.ixs.length:Int))) (hK:K (.tuple #[.string (bs []),.slice none 0 0,.bool false]) w) :
  Cv F.z136 #[.pointer (some ⟨t.g,0,none⟩),.int .i64 index,.string k,.bool b,.slice pp pn pc] w K:=
 R.z136 (by
  unfold C.z136
  refine has_spec ht ⟨_,rfl,ifB_mk (fun _=>hK) (fun h=>?_)⟩
  rw [Bool.not_eq_false',Bool.and_eq_true,decide_eq_true_eq,decide_eq_true_eq,ht.il] at h
  exact absurd h hi)
end
end Tb
end Go.Proofs.YtjcgociobhhijaaGreatDoor
namespace Go.Proofs.YtjcgociobhhijaaGreatDoor
open Go SX Va Cd Sc Bt
namespace Tb
section
variable {w:World} {K:Value→World→Prop} {p q kp pp:Option Addr} {n c m d kc pn pc:Nat} {s:Schm} {t:Tbl} {row:Row} {key:ByteArray} {i:Nat} {parts:List Int} {by_:List Row}
theorem first_spec (ht:TabAt w s t) (hi:i < s.ixs.length) (hby:Pt.ByL s i t.rs by_) (hat:At w pp (ints parts)) (hl:parts.length=pn) (hn:pn≤9223372036854775806)
  (hK1:∀ w',by_.filter (inP s parts)=[]→Upd Nothing w w'→K (.tuple #[.string (bs []),.slice none 0 0,.bool false]) w')
  (hK2:∀ r l p c w',by_.filter (inP s parts)=r :: l→Own w' T.api_Value 3 p r.length c (vals r)→Upd Nothing w w'→(∀ k,Fp p c k→w.heap.size≤k)→K (.tuple #[.string (Pt.kx s i r),.slice p r.length c,.bool true]) w') :
  Cv F.z121 #[.pointer (some ⟨t.g,0,none⟩),.int .i64 (i:Int),.slice pp pn pc] w K:=
 R.z121 (by
  unfold C.z121
  refine from_spec ht hi hby hat hl hn (fun w1 h hu=>⟨_,_,_,_,_,rfl,?_⟩) (fun r p c w1 h ho hu hf=>⟨_,_,_,_,_,rfl,?_⟩)
  ·rw [nxR_first] at h
   exact hK1 w1 (List.head?_eq_none_iff.1 h) hu
  ·rw [nxR_first] at h
   obtain ⟨l,e⟩:∃ l,by_.filter (inP s parts)=r :: l:=by
    cases hb:by_.filter (inP s parts) with
    | nil=>rw [hb] at h; cases h
    | cons a l=>rw [hb] at h; injection h with h; exact ⟨l,by rw [h]⟩
   exact hK2 r l p c w1 e ho hu hf)
theorem next_spec {D1 D3:List Row} {r:Row} (ht:TabAt w s t) (hi:i < s.ixs.length) (hby:Pt.ByL s i t.rs by_) (hD:by_.filter (inP s parts)=D1++r :: D3) (hat:At w pp (ints parts)) (hl:parts.length=pn) (hn:pn≤9223372036854775806)
  (hK1:∀ w',D3=[]→Upd Nothing w w'→K (.tuple #[.string (bs []),.slice none 0 0,.bool false]) w')
  (hK2:∀ r l p c w',D3=r :: l→Own w' T.api_Value 3 p r.length c (vals r)→Upd Nothing w w'→(∀ k,Fp p c k→w.heap.size≤k)→K (.tuple #[.string (Pt.kx s i r),.slice p r.length c,.bool true]) w') :
  Cv F.z128 #[.pointer (some ⟨t.g,0,none⟩),.int .i64 (i:Int),.string (Pt.kx s i r),.slice pp pn pc] w K:=
 R.z128 (by
  unfold C.z128
  have hb:=nxR_behind hby.1 hD
  refine from_spec ht hi hby hat hl hn (fun w1 h hu=>⟨_,_,_,_,_,rfl,?_⟩) (fun r p c w1 h ho hu hf=>⟨_,_,_,_,_,rfl,?_⟩)
  ·rw [hb] at h
   exact hK1 w1 (List.head?_eq_none_iff.1 h) hu
  ·rw [hb] at h
   cases D3 with
   | nil=>cases h
   | cons a l=>injection h with h; exact hK2 r l p c w1 (by rw [h]) ho hu hf)
theorem behind_spec {k:ByteArray} (ht:TabAt w s t) (hi:i < s.ixs.length) (hby:Pt.ByL s i t.rs by_) (hat:At w pp (ints parts)) (hl:parts.length=pn) (hn:pn≤9223372036854775806)
  (hK1:∀ w',nxR s i false k parts by_=none→Upd Nothing w w'→K (.tuple #[.string (bs []),.slice none 0 0,.bool false]) w')
  (hK2:∀ r p c w',nxR s i false k parts by_=some r→Own w' T.api_Value 3 p r.length c (vals r)→Upd Nothing w w'→(∀ k,Fp p c k→w.heap.size≤k)→K (.tuple #[.string (Pt.kx s i r),.slice p r.length c,.bool true]) w') :
  Cv F.z128 #[.pointer (some ⟨t.g,0,none⟩),.int .i64 (i:Int),.string k,.slice pp pn pc] w K:=
 R.z128 (by
  unfold C.z128
  exact from_spec ht hi hby hat hl hn (fun w1 h hu=>⟨_,_,_,_,_,rfl,hK1 w1 h hu⟩) (fun r p c w1 h ho hu hf=>⟨_,_,_,_,_,rfl,hK2 r p c w1 h ho hu hf⟩))
theorem filter_rows (s:Schm) (l:List Row):l.filter (inP s [])=l:=List.filter_eq_self.2 fun r _=>by unfold inP; simp
theorem trows_spec (ht:TabAt w s t) (hat:At w pp (ints parts)) (hl:parts.length=pn) (hn:pn≤9223372036854775806)
  (hK:∀ p c w',OutRows w' p (t.rs.filter (inP s parts)).length c (t.rs.filter (inP s parts))→Upd Nothing w w'→(∀ k,Fp p c k→w.heap.size≤k)→K (.slice p (t.rs.filter (inP s parts)).length c) w') :
  Cv F.z129 #[.pointer (some ⟨t.g,0,none⟩),.slice pp pn pc] w K:=
 R.z129 (by
  unfold C.z129
  obtain ⟨h0,_⟩:=Pt.right_zero ht.right
  have hnr:=ht.nrows
  have hby:Pt.ByL s 0 t.rs t.rs:=Pt.ByL.zero ht.inv
  generalize hD:t.rs.filter (inP s parts)=D at hK
  have hDl:D.length≤1000:=by rw [← hD]; exact Nat.le_trans (List.length_filter_le _ _) hnr
  let I:Option Addr→Nat→Nat→ByteArray→Option Addr→Nat→Nat→Bool→World→Prop:=fun lp ln lc k rp rn rc ok w'=>∃ D1 D2,D=D1++D2∧OutRows w' lp ln lc D1∧Upd Nothing w w'∧(∀ k,Fp lp lc k→w.heap.size≤k)∧((ok=false∧D2=[])∨∃ r D3,ok=true∧D2=r :: D3∧k=Pt.kx s 0 r∧rn=r.length∧Own w' T.api_Value 3 rp r.length rc (vals r)∧∀ k,Fp rp rc k→¬ Fp lp lc k)
  have start:∀ k rp rn rc ok w1,Upd Nothing w w1→((ok=false∧D=[])∨∃ r D3,ok=true∧D=r :: D3∧k=Pt.kx s 0 r∧rn=r.length∧Own w1 T.api_Value 3 rp r.length rc (vals r))→I none 0 0 k rp rn rc ok w1:=fun k rp rn rc ok w1 hu h=>⟨[],D,rfl,OutRows.nil _,hu,fun k hk=>by have:=hk.1; omega,h.imp id fun ⟨r,D3,h1,h2,h3,h4,h5⟩=>⟨r,D3,h1,h2,h3,h4,h5,fun k _ hk=>by have:=hk.1; omega⟩⟩
  have loop:∀ (lp:Option Addr) (ln lc:Nat) (k:ByteArray) (rp:Option Addr) (rn rc:Nat) (ok:Bool) (w2:World),I lp ln lc k rp rn rc ok w2→
   ifB ok (
   ∀ b1 wv3,New w2 (.cells #[.slice rp rn rc] T.s_api_Value) b1 wv3→
   BuiltV prog .append #[T.s_s_api_Value,T.s_s_api_Value] T.s_s_api_Value #[.slice lp ln lc,.slice (some (Addr.mk b1 0 none)) 1 1] wv3 (fun v2 wv4=>
    ∃ (a1p:Option Addr) (a1n a1c:Nat),
    v2 = .slice a1p a1n a1c∧
    Cv F.z128 #[.pointer (some ⟨t.g,0,none⟩),.int .i64 0,.string k,.slice pp pn pc] wv4 (fun v3 wv5=>
     ∃ (ra2:ByteArray) (rb2p:Option Addr) (rb2n rb2c:Nat) (rc2:Bool),
     v3 = .tuple #[.string ra2,.slice rb2p rb2n rb2c,.bool rc2]∧
     I a1p a1n a1c ra2 rb2p rb2n rb2c rc2 wv5∧D.length - a1n < D.length - ln))) (
   K (.slice lp ln lc) w2):=by
   rintro lp ln lc k rp rn rc ok w2 ⟨D1,D2,hDD,ho,hu2,hf,hcs⟩
   have hln:=ho.len
   rcases hcs with ⟨rfl,rfl⟩ | ⟨r,D3,rfl,rfl,rfl,rfl,hr,hap⟩
   ·refine ifB_mk (fun h=>by cases h) (fun _=>?_)
    have e:D=D1:=by rw [hDD,List.append_nil]
    have:=hK lp lc w2 (by rw [e,hln]; exact ho) hu2 hf
    rw [e,hln] at this
    exact this
   ·refine ifB_mk (fun _=>?_) (fun h=>by cases h)
    have hDl':D1.length+1+D3.length≤1000:=by rw [hDD] at hDl; simp at hDl; omega
    refine app_row ho hr rfl (by omega) fun p' c' w4 ho4 hu4 hf4=>⟨_,_,_,rfl,?_⟩
    have hu04:Upd Nothing w w4:=hu2.fresh hu4 hf
    have hf4':∀ k,Fp p' c' k→w.heap.size≤k:=fun k hk=>by
     rcases hf4 k hk with h | h
     ·exact hf k h
     ·exact Nat.le_trans hu2.size h
    have hmeas:D.length - (ln+1) < D.length - ln:=by rw [hDD]; simp; omega
    have ht4:=ht.upd0 hu04
    refine next_spec (i:=0) (D1:=D1) (D3:=D3) (r:=r) ht4 h0 hby (by rw [hD,hDD]) (hat.upd0 hu04) hl hn (fun w5 h3 hu5=>⟨_,_,_,_,_,rfl,⟨D1++[r],D3,by rw [hDD]; simp,ho4.upd0 hu5,hu04.then hu5,hf4',.inl ⟨rfl,h3⟩⟩,hmeas⟩) (fun r' l p5 c5 w5 h3 ho5 hu5 hf5=>⟨_,_,_,_,_,rfl,⟨D1++[r],D3,by rw [hDD]; simp,ho4.upd0 hu5,hu04.then hu5,hf4',.inr ⟨r',l,rfl,h3,rfl,rfl,ho5,fun k hk hk'=>?_⟩⟩,hmeas⟩)
    have h1:=hf5 k hk
    obtain ⟨xs,hxo,_⟩:=ho4
    have:=hxo.lt hk'
    omega
  refine first_spec (i:=0) ht h0 hby hat hl hn (fun w1 h hu1=>⟨_,_,_,_,_,rfl,I,fun _ ln _ _ _ _ _ _ _=>D.length - ln,start _ _ _ _ _ w1 hu1 (.inl ⟨rfl,by rw [← hD]; exact h⟩),loop⟩) (fun r l p c w1 h ho hu1 hf=>⟨_,_,_,_,_,rfl,I,fun _ ln _ _ _ _ _ _ _=>D.length - ln,start _ _ _ _ _ w1 hu1 (.inr ⟨r,l,rfl,by rw [← hD]; exact h,rfl,rfl,ho⟩),loop⟩))
theorem tin_spec (ht:TabAt w s t) (hat:At w pp (ints parts)) (hl:parts.length=pn) (hn:pn≤9223372036854775806) (hK:∀ w',Upd Nothing w w'→K (.int .i64 ((t.rs.filter (inP s parts)).length:Int)) w') :
  Cv F.z123 #[.pointer (some ⟨t.g,0,none⟩),.slice pp pn pc] w K:=
 R.z123 (by
  unfold C.z123
  exact trows_spec ht hat hl hn fun p c w1 _ hu1 _=>⟨_,_,_,rfl,hK w1 hu1⟩)
theorem tbytes_spec (ht:TabAt w s t) (hK:∀ w',Upd Nothing w w'→K (.string (tx (rowsT t.rs))) w'):Cv F.z119 #[.pointer (some ⟨t.g,0,none⟩)] w K:=
 R.z119 (by
  unfold C.z119
  intro g w1 hN
  have hW:=Wr.new hN
  have hu1:Upd Nothing w w1:=Upd.new hN
  have hnr:=ht.nrows
  refine trows_spec (parts:=[]) (ht.upd0 hu1) (At.nil _ _) rfl (by omega) fun p c w2 ho hu2 _=>⟨_,_,_,rfl,?_⟩
  rw [filter_rows] at ho ⊢
  refine rows_spec ho.stay ho.len (by omega) (fun r hr=>by have:=row_small ht hr; omega) (fun r hr=>(ht.inv.ok r hr).2) (hW.upd0 hu2) (by simp; omega) fun w3 h3 hu3=>⟨_,rfl,string_spec h3 ⟨_,rfl,?_⟩⟩
  exact hK w3 h3.here)
def scanOf (s:Schm) (i:Nat) (fr tt:ByteArray) (most:Int) (l:List Row):List Row:=((l.filter fun r=>Ts.nx true fr (ent s i r)).filter fun r=>Ts.toB tt (ent s i r)).take most.toNat
theorem keysOf_map (s:Schm) (i:Nat) (fr tt:ByteArray) (most:Int) (l:List Row):Ts.keysOf fr tt most (l.map (ent s i))=(scanOf s i fr tt most l).map (ent s i):=by
 unfold Ts.keysOf scanOf
 rw [List.filter_map,List.filter_map,← List.map_take]
 rfl
theorem scan_spec {fr tt:ByteArray} {most:Int} (ht:TabAt w s t) (hi:i < s.ixs.length) (hby:Pt.ByL s i t.rs by_)
  (hK:∀ p n c w',OutRows w' p n c (scanOf s i fr tt most by_)→Upd Nothing w w'→(∀ k,Fp p c k→w.heap.size≤k)→K (.slice p n c) w') :
  Cv F.z130 #[.pointer (some ⟨t.g,0,none⟩),.int .i64 (i:Int),.string fr,.string tt,.int .i64 most] w K:=
 R.z130 (by
  unfold C.z130
  have hil:=ht.il
  have hlt:i < t.ix.length:=by omega
  refine has_spec ht ⟨_,rfl,ifB_mk (fun h=>?_) (fun _=>?_)⟩
  ·rw [decide_eq_true (show (0:Int)≤(i:Int) by omega),decide_eq_true (show (i:Int) < (t.ix.length:Int) by omega)] at h
   cases h
  obtain ⟨_,a,q1,n1,c1,ha,hcl⟩:=ht.str.index hlt
  refine ⟨_,rfl,_,_,_,ht.hdr.cell (i:=7) rfl,a,ha,by omega,by omega,_,_,_,_,_,hcl,New.use (by simp [Value.oneCell']) fun b1 w2 hb1 hu2 hge1 _=>set_three rfl rfl rfl hb1 fun w5 hb5 hu5=>?_⟩
  have hu05:Upd Nothing w w5:=hu2.fresh hu5 fun i hi=>by rw [show i=b1 from hi]; exact hge1
  have hL:t.ix[i].l=by_.map (ent s i):=hby.ixl (ht.ixl i hlt)
  have htr:=ht.ix.1 _ (List.getElem_mem hlt)
  have hlen:=Pt.IxL.len (ht.ixl i hlt) ht.inv ht.right hi
  have hko:=keysOf_map s i fr tt most by_
  rw [← hL] at hko
  refine ⟨_,hb5.cell (i:=2) rfl,Ts.Keys_spec (htr.upd0 hu05) (by omega) fun kp kc w6 hk hu6 hkf=>⟨_,_,_,rfl,?_⟩⟩
  rw [hko] at hk ⊢
  rw [List.length_map] at hk ⊢
  have hSl:(scanOf s i fr tt most by_).length≤1000:=by
   have h1:by_.length=t.ix[i].l.length:=by rw [hL,List.length_map]
   have h2:(scanOf s i fr tt most by_).length≤by_.length:=by
    unfold scanOf
    rw [List.length_take]
    exact Nat.le_trans (Nat.min_le_right _ _) (Nat.le_trans (List.length_filter_le _ _) (List.length_filter_le _ _))
   omega
  have hSm:∀ r∈scanOf s i fr tt most by_,r∈t.rs:=fun r hr=>by
   have h1:=List.mem_of_mem_take hr
   exact (hby.2 r).1 (List.mem_filter.1 (List.mem_filter.1 h1).1).1
  generalize scanOf s i fr tt most by_=S at *
  have hu06:=hu05.then hu6
  refine ⟨fun lp ln lc j w'=>∃ k:Nat,j=k∧k≤S.length∧ln=k∧OutRows w' lp ln lc (S.take k)∧Upd Nothing w6 w'∧∀ x,Fp lp lc x→w6.heap.size≤x,fun _ _ _ j _=>S.length - j.toNat,⟨0,rfl,by omega,rfl,OutRows.nil _,Upd.refl _ _,fun x hx=>by have:=hx.1; omega⟩,?_⟩
  rintro lp ln lc j w7 ⟨k,rfl,hk7,rfl,ho7,hu7,hf7⟩
  refine ifB_mk (fun h=>?_) (fun h=>?_)
  ·have hkn:ln < S.length:=by have:=of_decide_eq_true h; omega
   have hu07:=hu06.then hu7
   have hmem:=hSm _ (List.getElem_mem hkn)
   have hkg:(strs ((S.map (ent s i)).map (·.1)))[ln]? = some (.string (Pt.kx s i S[ln])):=by
    unfold strs
    simp only [List.map_map,List.getElem?_map,List.getElem?_eq_getElem hkn,Option.map_some]
    rfl
   obtain ⟨a2,ha2,hc2⟩:=(hk.upd0 hu7).at ln _ hkg
   refine ⟨a2,ha2,by omega,by omega,_,by simpa using hc2,_,((hu6.then hu7).blk hb5 fun f=>f).cell (i:=2) rfl,Ts.Get_spec (htr.upd0 hu07) fun w8 hu8=>?_⟩
   rcases Pt.IxL.get (ht.ixl i hlt) (k:=Pt.kx s i S[ln]) with ⟨_,hall⟩ | ⟨r,hr,her,hval⟩
   ·exact absurd rfl (hall _ hmem)
   have e:r=S[ln]:=ht.inv.dist ht.right hi hr hmem her
   subst e
   rw [hval]
   refine ⟨_,_,rfl,row_spec (ht.upd0 (hu07.then hu8)) hmem fun p9 c9 w9 ho9 hu9 hf9=>⟨_,_,_,rfl,?_⟩⟩
   have hu79:=hu8.then hu9
   refine app_row (ho7.upd0 hu79) ho9 rfl (by omega) fun p' c' w10 ho10 hu10 hf10=>⟨_,_,_,rfl,?_⟩
   rw [i64_wrap (by omega) (by omega)]
   have hS:S.take (ln+1)=S.take ln++[S[ln]]:=List.take_succ_eq_append_getElem hkn
   refine ⟨⟨ln+1,by omega,by omega,rfl,by rw [hS]; exact ho10,(hu7.then hu79).fresh hu10 hf7,fun x hx=>?_⟩,by show S.length - _ < S.length - _; omega⟩
   rcases hf10 x hx with h | h
   ·exact hf7 x h
   ·exact Nat.le_trans (hu7.then hu79).size h
  ·have hkn:ln=S.length:=by have:=of_decide_eq_false h; omega
   rw [List.take_of_length_le (by omega)] at ho7
   exact hK lp ln lc w7 ho7 (hu06.then hu7) fun x hx=>Nat.le_trans hu06.size (hf7 x hx))
theorem scan_none {index:Int} {fr tt:ByteArray} {most:Int} (ht:TabAt w s t) (hi:¬ (0≤index∧index < (s.ixs.length:Int))) (hK:K (.slice none 0 0) w) :
  Cv F.z130 #[.pointer (some ⟨t.g,0,none⟩),.int .i64 index,.string fr,.string tt,.int .i64 most] w K:=
 R.z130 (by
  unfold C.z130
  refine has_spec ht ⟨_,rfl,ifB_mk (fun _=>hK) (fun h=>?_)⟩
  rw [Bool.not_eq_false',Bool.and_eq_true,decide_eq_true_eq,decide_eq_true_eq,ht.il] at h
  exact absurd h hi)
theorem tschema_spec (ht:TabAt w s t) (hK:∀ v w',SchEx w' s v→Upd Nothing w w'→K v w'):Cv F.z131 #[.pointer (some ⟨t.g,0,none⟩)] w K:=
 R.z131 (by
  unfold C.z131
  refine New.use (by simp [Value.oneCell']) fun g w1 hb1 hu1 hge1 hlt1=>ifB_mk (fun h=>by cases h) (fun _=>?_)
  have ht1:=ht.upd0 hu1
  have hsm:=ht.small
  refine ⟨_,rfl,_,_,_,_,_,_,_,_,_,_,ht1.six,copy_spec ht1.sx (by have:=hsm.1; omega) (by have:=hsm.2.1; omega) (fun x hx=>by have:=hsm.2.2 x hx; omega) fun cp cc ip ic w2 ho hu2=>⟨_,_,_,_,_,_,_,_,_,_,rfl,?_⟩⟩
  refine set_six rfl rfl rfl rfl rfl rfl (hu2.blk hb1 fun f=>f) fun w3 hb3 hu3=>⟨_,_,_,_,_,_,_,_,_,_,six_cells hb3,?_⟩
  exact hK _ w3 (ho.upd hu3 fun k hk _ e=>by rw [show k=g from e] at hk; omega).ex ((hu1.then hu2).fresh hu3 fun i hi=>by rw [show i=g from hi]; exact hge1))
end
end Tb
end Go.Proofs.YtjcgociobhhijaaGreatDoor
namespace Go.Proofs.YtjcgociobhhijaaGreatDoor
open Go SX Va Cd Sc Bt
namespace Tb
def MdlAt (W w:World) (p:Option Addr) (n c:Nat) (l:List Row):Prop:=∃ xs,Own w T.s_api_Value 1 p n c xs∧SlE (RowIn W) xs l∧l.length=n
section
variable {W w w':World} {p:Option Addr} {n c:Nat} {l:List Row}
theorem MdlAt.nil (W w:World):MdlAt W w none 0 0 []:=⟨[],Own.nil _ _ _,SlE.nil,rfl⟩
theorem MdlAt.upd0 (h:MdlAt W w p n c l) (hu:Upd Nothing w w'):MdlAt W w' p n c l:=by
 obtain ⟨xs,ho,hs,hl⟩:=h
 exact ⟨xs,ho.upd0 hu,hs,hl⟩
theorem MdlAt.keep {es:List Nat} (h:MdlAt W w p n c l) (hu:Upd (Typed w es) w w') (h1:T.s_api_Value∉es):MdlAt W w' p n c l:=by
 obtain ⟨xs,ho,hs,hl⟩:=h
 exact ⟨xs,hu.town ho h1,hs,hl⟩
theorem MdlAt.one {g e:Nat} {L:List Value} (h:MdlAt W w p n c l) (hb:Blk w g L e) (he:T.s_api_Value≠e) (hu:Upd (SX.One g) w w'):MdlAt W w' p n c l:=by
 obtain ⟨xs,ho,hs,hl⟩:=h
 exact ⟨xs,ho.upd hu fun k hk=>own_one' ho hb he k hk,hs,hl⟩
theorem MdlAt.len (h:MdlAt W w p n c l):l.length=n:=by obtain ⟨_,_,_,h⟩:=h; exact h
theorem MdlAt.get (h:MdlAt W w p n c l) {i:Nat} (hi:i < l.length):∃ (a:Addr) (q:Option Addr) (m d:Nat),p=some a∧w.cell? (a.add (i * 1))=some (.slice q m d)∧RowIn W q m l[i]∧m≤d:=by
 obtain ⟨xs,ho,hs,hl⟩:=h
 obtain ⟨q,m,d,hx,hr,hd⟩:=hs.2 i hi
 obtain ⟨a,ha,hc⟩:=ho.at i _ hx
 exact ⟨a,q,m,d,ha,by simpa using hc,hr,hd⟩
theorem MdlAt.plain (h:MdlAt W w p n c l) (hu:Upd Nothing W w):Rws w p l:=fun i hi=>by
 obtain ⟨a,q,m,d,ha,hc,hr,hd⟩:=h.get hi
 exact ⟨a,q,m,d,ha,by simpa using hc,hr.1.upd0 hu,hr.2,hd⟩
theorem app_in {K:Value→World→Prop} {q:Option Addr} {m d:Nat} {r:Row} (ho:MdlAt W w p n c l) (hr:RowIn W q m r) (hd:m≤d) (hsz:n≤1000000)
  (hK:∀ p' c' w',MdlAt W w' p' (n+1) c' (l++[r])→Upd (Fp p c) w w'→(∀ k,Fp p' c' k→Fp p c k∨w.heap.size≤k)→K (.slice p' (n+1) c') w') :
  ∀ g w1,New w (.cells #[.slice q m d] T.s_api_Value) g w1→BuiltV prog .append #[T.s_s_api_Value,T.s_s_api_Value] T.s_s_api_Value #[.slice p n c,.slice (some (Addr.mk g 0 none)) 1 1] w1 K:=by
 obtain ⟨xs,hx,hs,hl⟩:=ho
 exact app_cell srows2 (by decide) rfl hx (by omega) fun p' c' w' ho' hu' hf'=>hK p' c' w' ⟨_,ho',SlE.append hs (SlE.one hr hd),by simp [hl]⟩ hu' hf'
end
theorem seven_cells {w:World} {g e:Nat} {a0 a1 a2 a3 a4 a5 a6:Value} (hb:Blk w g [a0,a1,a2,a3,a4,a5,a6] e):SX.cellsAt w (Addr.mk g 0 none) 0 [a0,a1,a2,a3,a4,a5,a6]:=
 ⟨hb.cell (i:=0) rfl,hb.cell (i:=1) rfl,hb.cell (i:=2) rfl,hb.cell (i:=3) rfl,hb.cell (i:=4) rfl,hb.cell (i:=5) rfl,hb.cell (i:=6) rfl,trivial⟩
theorem first_six {w:World} {g e:Nat} {a0 a1 a2 a3 a4 a5 a6:Value} (hb:Blk w g [a0,a1,a2,a3,a4,a5,a6] e):SX.cellsAt w ((Addr.mk g 0 none).add 0) 0 [a0,a1,a2,a3,a4,a5]:=
 ⟨hb.cell (i:=0) rfl,hb.cell (i:=1) rfl,hb.cell (i:=2) rfl,hb.cell (i:=3) rfl,hb.cell (i:=4) rfl,hb.cell (i:=5) rfl,trivial⟩
theorem set_seven {w:World} {e:Nat} {g:Nat} {x0 x1 x2 x3 x4 x5 x6 u0 u1 u2 u3 u4 u5 u6:Value} {Q:World→Prop} (h0:u0.oneCell'=true) (h1:u1.oneCell'=true) (h2:u2.oneCell'=true) (h3:u3.oneCell'=true) (h4:u4.oneCell'=true) (h5:u5.oneCell'=true) (h6:u6.oneCell'=true) (hb:Blk w g [x0,x1,x2,x3,x4,x5,x6] e) (hQ:∀ w',Blk w' g [u0,u1,u2,u3,u4,u5,u6] e→Upd (One g) w w'→Q w') :
  CanSt w ((Addr.mk g 0 none).add 0)∧∀ w1,w1=w.setCell ((Addr.mk g 0 none).add 0) u0→
  CanSt w1 ((Addr.mk g 0 none).add 1)∧∀ w2,w2=w1.setCell ((Addr.mk g 0 none).add 1) u1→
  CanSt w2 ((Addr.mk g 0 none).add 2)∧∀ w3,w3=w2.setCell ((Addr.mk g 0 none).add 2) u2→
  CanSt w3 ((Addr.mk g 0 none).add 3)∧∀ w4,w4=w3.setCell ((Addr.mk g 0 none).add 3) u3→
  CanSt w4 ((Addr.mk g 0 none).add 4)∧∀ w5,w5=w4.setCell ((Addr.mk g 0 none).add 4) u4→
  CanSt w5 ((Addr.mk g 0 none).add 5)∧∀ w6,w6=w5.setCell ((Addr.mk g 0 none).add 5) u5→
  CanSt w6 ((Addr.mk g 0 none).add 6)∧∀ w7,w7=w6.setCell ((Addr.mk g 0 none).add 6) u6→Q w7:=
 hb.store (i:=0) (by simp) h0 fun w1 hb1 hu1 _=>hb1.store (i:=1) (by simp) h1 fun w2 hb2 hu2 _=>hb2.store (i:=2) (by simp) h2 fun w3 hb3 hu3 _=>hb3.store (i:=3) (by simp) h3 fun w4 hb4 hu4 _=>hb4.store (i:=4) (by simp) h4 fun w5 hb5 hu5 _=>hb5.store (i:=5) (by simp) h5 fun w6 hb6 hu6 _=>hb6.store (i:=6) (by simp) h6 fun w7 hb7 hu7 _=>hQ w7 hb7 ((((((hu1.then hu2).then hu3).then hu4).then hu5).then hu6).then hu7)
def mcs (s:Schm) (cp:Option Addr) (cc:Nat) (ip:Option Addr) (ic:Nat) (p:Option Addr) (n c:Nat):List Value:=[.string s.name,.slice cp s.cols.length cc,.slice ip s.ixs.length ic,.int .i64 s.limit,.int .i64 s.parts,.int .i64 s.by_,.slice p n c]
abbrev mval (s:Schm) (cp:Option Addr) (cc:Nat) (ip:Option Addr) (ic:Nat) (p:Option Addr) (n c:Nat):Value:=.agg #[.string s.name,.slice cp s.cols.length cc,.slice ip s.ixs.length ic,.int .i64 s.limit,.int .i64 s.parts,.int .i64 s.by_,.slice p n c]
abbrev sval' (s:Schm) (cp:Option Addr) (cc:Nat) (ip:Option Addr) (ic:Nat):Value:=.agg #[.string s.name,.slice cp s.cols.length cc,.slice ip s.ixs.length ic,.int .i64 s.limit,.int .i64 s.parts,.int .i64 s.by_]
def FindR (s:Schm) (l:List Row) (key:ByteArray) (i:Int):Prop:=(i = -1∧∀ r∈l,Pt.kx s 0 r≠key)∨∃ (k:Nat) (h:k < l.length),i=k∧Pt.kx s 0 l[k]=key
def qk (l:List Row) (gone:Int) (k:Nat):List Row:=((l.take k).zipIdx.filter fun x=>decide ((x.2:Int)≠gone)).map (·.1)
theorem qk_succ {l:List Row} {gone:Int} {k:Nat} (h:k < l.length):qk l gone (k+1)=qk l gone k++if (k:Int)=gone then [] else [l[k]]:=by
 unfold qk
 rw [List.take_succ_eq_append_getElem h,List.zipIdx_append,List.filter_append,List.map_append]
 congr 1
 have:(l.take k).length=k:=by simp; omega
 rw [this]
 by_cases hk:(k:Int)=gone
 ·simp [hk]
 ·simp [hk]
def WithR (s:Schm) (row:Row) (put:Bool) (Q l':List Row):Prop:=(put=false∧l'=Q)∨(put=true∧∃ A B,Q=A++B∧l'=A++row :: B∧(∀ r∈A,sLt (Pt.kx s 0 row) (Pt.kx s 0 r)=false)∧∀ b,B.head? = some b→sLt (Pt.kx s 0 row) (Pt.kx s 0 b)=true)
section
variable {W w:World} {K:Value→World→Prop} {p q cp ip:Option Addr} {n c m d cc ic:Nat} {s:Schm} {l:List Row} {row:Row} {key:ByteArray}
theorem rkey_spec {i:Nat} (hW:Upd Nothing W w) (hs:SchEx W s (sval' s cp cc ip ic)) (hright:s.Right) (hsm:Small s) (hi:i < s.ixs.length) (hr:RowIn W q m row) (hf:FitsP s.cols row) (hK:∀ w',Upd Nothing w w'→K (.string (Pt.kx s i row)) w') :
  Cv F.z28 #[sval' s cp cc ip ic,.int .i64 (i:Nat),.slice q m d] w K:=by
 have hm:m≤9223372036854775806:=by have:=hf.1; have:=hsm.1; have:=hr.2; omega
 refine rkey3_spec hi (hs.upd0 hW) hright hf (small_th hsm) (hr.1.upd0 hW) hr.2 hm fun w1 hu1=>?_
 have:=hK w1 hu1
 rw [Pt.kx_lt hi] at this
 exact this
theorem mfind_spec (hW:Upd Nothing W w) (hs:SchEx W s (sval' s cp cc ip ic)) (hright:s.Right) (hsm:Small s) (hm:MdlAt W w p n c l) (hn:n≤1000000) (hok:∀ r∈l,FitsP s.cols r) (hK:∀ i w',FindR s l key i→Upd Nothing w w'→K (.int .i64 i) w') :
  Cv F.z45 #[mval s cp cc ip ic p n c,.string key] w K:=
 R.z45 (by
  unfold C.z45
  obtain ⟨h0,_⟩:=Pt.right_zero hright
  have hln:=hm.len
  refine New.use (by simp [Value.oneCell']) fun g w1 hb1 hu1 hge1 _=>⟨fun i w'=>∃ k:Nat,i=k∧k≤n∧Upd Nothing w1 w'∧∀ r∈l.take k,Pt.kx s 0 r≠key,fun i _=>n - i.toNat,⟨0,rfl,by omega,Upd.refl _ _,by simp⟩,?_⟩
  rintro i w2 ⟨k,rfl,hk,hu2,hq⟩
  have hb2:=hu2.blk hb1 fun f=>f
  refine ⟨_,_,_,hb2.cell (i:=6) rfl,ifB_mk (fun h=>?_) (fun h=>?_)⟩
  ·have hkn:k < n:=by have:=of_decide_eq_true h; omega
   have hkl:k < l.length:=by omega
   have hud:Upd Nothing w w2.drew:=(hu1.then hu2).then (Upd.drew _ _)
   obtain ⟨a,q,m,d,ha,hc,hr,hd⟩:=(hm.upd0 hud).get hkl
   refine ⟨_,_,_,_,_,_,_,_,_,_,first_six hb2.drew,_,_,_,hb2.drew.cell (i:=6) rfl,a,ha,by omega,by omega,_,_,_,hc,?_⟩
   refine rkey_spec (i:=0) (hW.then hud) hs hright hsm h0 hr (hok _ (List.getElem_mem hkl)) fun w3 hu3=>⟨_,rfl,ifB_mk (fun he=>hK k w3 (.inr ⟨k,hkl,rfl,sEq_iff.1 he⟩) (hud.then hu3)) (fun he=>?_)⟩
   refine scan_next (Q:=fun k=>∀ r∈l.take k,Pt.kx s 0 r≠key) hkn (by omega) ((hu2.then (Upd.drew _ _)).then hu3) (forall_take hkl hq fun e=>?_)
   rw [e,sEq_self] at he
   cases he
  ·have hkn:k=n:=by have:=of_decide_eq_false h; omega
   rw [List.take_of_length_le (by omega)] at hq
   exact hK (-1) w2 (.inl ⟨rfl,hq⟩) (hu1.then hu2))
theorem mwith_spec {gone:Int} {put:Bool} (hW:Upd Nothing W w) (hs:SchEx W s (sval' s cp cc ip ic)) (hright:s.Right) (hsm:Small s) (hm:MdlAt W w p n c l) (hn:n≤100000) (hok:∀ r∈l,FitsP s.cols r) (hr:put=true→RowIn W q m row∧m≤d∧FitsP s.cols row)
  (hK:∀ p' n' c' l' w',MdlAt W w' p' n' c' l'→WithR s row put (qk l gone n) l'→Upd Nothing w w'→K (mval s cp cc ip ic p' n' c') w') :
  Cv F.z50 #[mval s cp cc ip ic p n c,.slice q m d,.int .i64 gone,.bool put] w K:=
 R.z50 (by
  unfold C.z50
  obtain ⟨h0,_⟩:=Pt.right_zero hright
  have hln:=hm.len
  refine New.use (by simp [Value.oneCell']) fun g w1 hb1 hu1 hge1 _=>New.use (by simp [Value.oneCell']) fun g2 w2 hb2 hu2 hge2 _=>?_
  have hu02:=hu1.then hu2
  have hb12:=hu2.blk hb1 fun f=>f
  have hsz2:=hu02.size
  -- where the loop stands
  let St:Nat→Bool→List Row→Prop:=fun k done l'=>(done=false∧put=true∧l'=qk l gone k∧∀ r∈qk l gone k,sLt (Pt.kx s 0 row) (Pt.kx s 0 r)=false)∨(done=true∧put=false∧l'=qk l gone k)∨(done=true∧put=true∧∃ A b B,qk l gone k=A++b :: B∧l'=A++row :: b :: B∧(∀ r∈A,sLt (Pt.kx s 0 row) (Pt.kx s 0 r)=false)∧sLt (Pt.kx s 0 row) (Pt.kx s 0 b)=true)
  have hql:∀ k,(qk l gone k).length≤k:=fun k=>by
   unfold qk
   rw [List.length_map]
   refine Nat.le_trans (List.length_filter_le _ _) ?_
   simp
   omega
  refine ⟨fun lp ln lc done i w'=>∃ (k:Nat) (l':List Row),i=k∧k≤n∧MdlAt W w' lp ln lc l'∧Upd Nothing w2 w'∧(∀ x,Fp lp lc x→w2.heap.size≤x)∧St k done l'∧ln≤k+1,fun _ _ _ _ i _=>n - i.toNat,⟨0,[],rfl,by omega,MdlAt.nil _ _,Upd.refl _ _,fun x hx=>by have:=hx.1; omega,?_,by omega⟩,?_⟩
  ·cases put with
   | false=>exact .inr (.inl ⟨rfl,rfl,rfl⟩)
   | true=>exact .inl ⟨rfl,rfl,rfl,fun _ h=>(by cases h)⟩
  rintro lp ln lc done i w3 ⟨k,l',rfl,hk,ho3,hu3,hf3,hst,hlk⟩
  have hb13:=hu3.blk hb12 fun f=>f
  have hb23:=hu3.blk hb2 fun f=>f
  have hu03:=hu02.then hu3
  refine ⟨_,_,_,hb13.cell (i:=6) rfl,ifB_mk (fun h=>?_) (fun h=>?_)⟩
  ·have hkn:k < n:=by have:=of_decide_eq_true h; omega
   have hkl:k < l.length:=by omega
   have hqs:=qk_succ (gone:=gone) hkl
   have hmem:=List.getElem_mem hkl
   have hwr:IntKind.i64.wrap ((k:Int)+1)=((k+1:Nat):Int):=by rw [i64_wrap (by omega) (by omega)]; omega
   rw [hwr]
   have hmeas:n - ((k+1:Nat):Int).toNat < n - (k:Int).toNat:=by omega
   refine ifB_mk (fun hg=>⟨⟨k+1,l',rfl,by omega,ho3,hu3,hf3,?_,by omega⟩,hmeas⟩) (fun hg=>?_)
   ·have hg':(k:Int)=gone:=by simpa using hg
    have e:qk l gone (k+1)=qk l gone k:=by rw [hqs,if_pos hg',List.append_nil]
    show St (k+1) done l'
    simp only [St,e]
    exact hst
   have hg':(k:Int)≠gone:=by simpa using hg
   rw [if_neg hg'] at hqs
   -- the next row is appended
   have step:∀ (w4:World) (lp ln lc) (l'':List Row) (done':Bool),MdlAt W w4 lp ln lc l''→Upd Nothing w2 w4→(∀ x,Fp lp lc x→w2.heap.size≤x)→ln≤k+1→St (k+1) done' (l''++[l[k]])→
     ∃ (Rows2p:Option Addr) (Rows2n Rows2c:Nat),w4.cell? ((Addr.mk g 0 none).add 6)=some (.slice Rows2p Rows2n Rows2c)∧
     ∃ a1,Rows2p=some a1∧0≤(k:Int)∧(k:Int) < ((Rows2n:Nat):Int)∧
     ∃ (e1p:Option Addr) (e1n e1c:Nat),w4.cell? (a1.add ((k:Int).toNat * 1))=some (.slice e1p e1n e1c)∧
     ∀ b6 wv12,New w4 (.cells #[.slice e1p e1n e1c] T.s_api_Value) b6 wv12→
     BuiltV prog .append #[T.s_s_api_Value,T.s_s_api_Value] T.s_s_api_Value #[.slice lp ln lc,.slice (some (Addr.mk b6 0 none)) 1 1] wv12 (fun v6 wv13=>
     ∃ (a8p:Option Addr) (a8n a8c:Nat),
     v6 = .slice a8p a8n a8c∧
     (∃ (k':Nat) (l':List Row),((k+1:Nat):Int)=k'∧k'≤n∧MdlAt W wv13 a8p a8n a8c l'∧Upd Nothing w2 wv13∧(∀ x,Fp a8p a8c x→w2.heap.size≤x)∧St k' done' l'∧a8n≤k'+1)∧n - ((k+1:Nat):Int).toNat < n - (k:Int).toNat):=by
    intro w4 lp ln lc l'' done' ho4 hu4 hf4 hl4 hst4
    obtain ⟨a,q1,m1,d1,ha,hc,hr1,hd1⟩:=((hm.upd0 hu02).upd0 hu4).get hkl
    refine ⟨_,_,_,(hu4.blk hb12 fun f=>f).cell (i:=6) rfl,a,ha,by omega,by omega,_,_,_,by simpa using hc,app_in ho4 hr1 hd1 (by omega) fun p' c' w5 ho5 hu5 hf5=>⟨_,_,_,rfl,⟨k+1,_,rfl,by omega,ho5,hu4.fresh hu5 hf4,fun x hx=>?_,hst4,by omega⟩,hmeas⟩⟩
    rcases hf5 x hx with h | h
    ·exact hf4 x h
    ·exact Nat.le_trans hu4.size h
   refine ifB_mk (fun hnd=>?_) (fun hnd=>?_)
   ·have hd0:done=false:=by simpa using hnd
    subst hd0
    rcases hst with ⟨_,hput,hl',hlo⟩ | ⟨h,_⟩ | ⟨h,_⟩
    ·obtain ⟨hrow,hmd,hfrow⟩:=hr hput
     have hud:Upd Nothing w2 w3.drew:=hu3.then (Upd.drew _ _)
     have hb1d:=hud.blk hb12 fun f=>f
     obtain ⟨a,q1,m1,d1,ha,hc,hr1,hd1⟩:=((hm.upd0 hu02).upd0 hud).get hkl
     have hWd:=(hW.then hu02).then hud
     refine ⟨_,_,_,_,_,_,_,_,_,_,first_six hb1d,_,_,_,_,_,_,_,_,_,_,first_six hb1d,_,_,_,hb1d.cell (i:=6) rfl,a,ha,by omega,by omega,_,_,_,by simpa using hc,?_⟩
     refine rkey_spec (i:=0) hWd hs hright hsm h0 hrow hfrow fun w4 hu4=>⟨_,rfl,?_⟩
     have hb14:=hu4.blk hb1d fun f=>f
     refine ⟨by simpa using hu4.cell hc fun f=>f,hb14.cell (i:=6) rfl,first_six hb14,rkey_spec (i:=0) (hWd.then hu4) hs hright hsm h0 hr1 (hok _ hmem) fun w5 hu5=>⟨_,rfl,?_⟩⟩
     have hu25:=(hud.then hu4).then hu5
     have ho5:MdlAt W w5 lp ln lc l':=ho3.upd0 (((Upd.drew _ _).then hu4).then hu5)
     have hll:ln≤k:=by have h1:=ho3.len; have h2:=hql k; rw [hl'] at h1; omega
     refine ifB_mk (fun hlt=>?_) (fun hlt=>?_)
     ·refine app_in ho5 hrow hmd (by omega) fun p' c' w6 ho6 hu6 hf6=>⟨_,_,_,rfl,?_⟩
      have hu26:Upd Nothing w2 w6:=hu25.fresh hu6 hf3
      refine step w6 p' (ln+1) c' (l'++[row]) true ho6 hu26 (fun x hx=>?_) (by omega) (.inr (.inr ⟨rfl,hput,qk l gone k,l[k],[],by rw [hqs],by rw [hl']; simp,hlo,hlt⟩))
      rcases hf6 x hx with h | h
      ·exact hf3 x h
      ·exact Nat.le_trans hu25.size h
     ·refine step w5 lp ln lc l' false ho5 hu25 hf3 (by omega) (.inl ⟨rfl,hput,by rw [hqs,hl'],fun r hr=>?_⟩)
      rw [hqs] at hr
      rcases List.mem_append.1 hr with hr | hr
      ·exact hlo r hr
      ·rw [List.mem_singleton.1 hr]; exact hlt
    ·cases h
    ·cases h
   ·have hd1:done=true:=by simpa using hnd
    subst hd1
    refine step w3.drew lp ln lc l' true (ho3.upd0 (Upd.drew _ _)) (hu3.then (Upd.drew _ _)) hf3 hlk ?_
    rcases hst with ⟨h,_⟩ | ⟨_,hput,hl'⟩ | ⟨_,hput,A,b,B,hA,hl',hlo,hb⟩
    ·cases h
    ·exact .inr (.inl ⟨rfl,hput,by rw [hqs,hl']⟩)
    ·exact .inr (.inr ⟨rfl,hput,A,b,B++[l[k]],by rw [hqs,hA]; simp,by rw [hl']; simp,hlo,hb⟩)
  ·have hkn:k=n:=by have:=of_decide_eq_false h; omega
   subst hkn
   -- what is handed back
   have fin:∀ (w4:World) (lp ln lc) (l'':List Row),MdlAt W w4 lp ln lc l''→Upd Nothing w2 w4→WithR s row put (qk l gone k) l''→
    ∃ (SName3:ByteArray) (SCols3p:Option Addr) (SCols3n SCols3c:Nat) (SIndexes3p:Option Addr) (SIndexes3n SIndexes3c:Nat) (SLimit3:Int) (SParts3:Int) (SBy3:Int),
    SX.cellsAt w4 ((Addr.mk g 0 none).add 0) 0 [.string SName3,.slice SCols3p SCols3n SCols3c,.slice SIndexes3p SIndexes3n SIndexes3c,.int .i64 SLimit3,.int .i64 SParts3,.int .i64 SBy3]∧
    CanSt w4 ((Addr.mk g2 0 none).add 0)∧∀ wv16,wv16=w4.setCell ((Addr.mk g2 0 none).add 0) (.string SName3)→
    CanSt wv16 ((Addr.mk g2 0 none).add 1)∧∀ wv17,wv17=wv16.setCell ((Addr.mk g2 0 none).add 1) (.slice SCols3p SCols3n SCols3c)→
    CanSt wv17 ((Addr.mk g2 0 none).add 2)∧∀ wv18,wv18=wv17.setCell ((Addr.mk g2 0 none).add 2) (.slice SIndexes3p SIndexes3n SIndexes3c)→
    CanSt wv18 ((Addr.mk g2 0 none).add 3)∧∀ wv19,wv19=wv18.setCell ((Addr.mk g2 0 none).add 3) (.int .i64 SLimit3)→
    CanSt wv19 ((Addr.mk g2 0 none).add 4)∧∀ wv20,wv20=wv19.setCell ((Addr.mk g2 0 none).add 4) (.int .i64 SParts3)→
    CanSt wv20 ((Addr.mk g2 0 none).add 5)∧∀ wv21,wv21=wv20.setCell ((Addr.mk g2 0 none).add 5) (.int .i64 SBy3)→
    CanSt wv21 ((Addr.mk g2 0 none).add 6)∧∀ wv22,wv22=wv21.setCell ((Addr.mk g2 0 none).add 6) (.slice lp ln lc)→
    ∃ (xSName1:ByteArray) (xSCols1p:Option Addr) (xSCols1n xSCols1c:Nat) (xSIndexes1p:Option Addr) (xSIndexes1n xSIndexes1c:Nat) (xSLimit1:Int) (xSParts1:Int) (xSBy1:Int) (xRows1p:Option Addr) (xRows1n xRows1c:Nat),
    SX.cellsAt wv22 (Addr.mk g2 0 none) 0 [.string xSName1,.slice xSCols1p xSCols1n xSCols1c,.slice xSIndexes1p xSIndexes1n xSIndexes1c,.int .i64 xSLimit1,.int .i64 xSParts1,.int .i64 xSBy1,.slice xRows1p xRows1n xRows1c]∧
    K (.agg #[.string xSName1,.slice xSCols1p xSCols1n xSCols1c,.slice xSIndexes1p xSIndexes1n xSIndexes1c,.int .i64 xSLimit1,.int .i64 xSParts1,.int .i64 xSBy1,.slice xRows1p xRows1n xRows1c]) wv22:=by
    intro w4 lp ln lc l'' ho4 hu4 hw
    have hb24:=hu4.blk hb2 fun f=>f
    refine ⟨_,_,_,_,_,_,_,_,_,_,first_six (hu4.blk hb12 fun f=>f),set_seven rfl rfl rfl rfl rfl rfl rfl hb24 fun w5 hb5 hu5=>⟨_,_,_,_,_,_,_,_,_,_,_,_,_,seven_cells hb5,?_⟩⟩
    exact hK lp ln lc l'' w5 (ho4.one hb24 (by decide) hu5) hw ((hu02.then hu4).fresh hu5 fun i hi=>by rw [show i=g2 from hi]; have:=hu1.size; omega)
   refine ifB_mk (fun hnd=>?_) (fun hnd=>?_)
   ·have hd0:done=false:=by simpa using hnd
    subst hd0
    rcases hst with ⟨_,hput,hl',hlo⟩ | ⟨h,_⟩ | ⟨h,_⟩
    ·obtain ⟨hrow,hmd,hfrow⟩:=hr hput
     refine app_in ho3 hrow hmd (by omega) fun p' c' w6 ho6 hu6 hf6=>⟨_,_,_,rfl,?_⟩
     exact fin w6 p' (ln+1) c' (l'++[row]) ho6 (hu3.fresh hu6 hf3) (.inr ⟨hput,qk l gone k,[],by simp,by rw [hl'],hlo,fun b h=>(by cases h)⟩)
    ·cases h
    ·cases h
   ·have hd1:done=true:=by simpa using hnd
    subst hd1
    refine fin w3 lp ln lc l' ho3 hu3 ?_
    rcases hst with ⟨h,_⟩ | ⟨_,hput,hl'⟩ | ⟨_,hput,A,b,B,hA,hl',hlo,hb⟩
    ·cases h
    ·exact .inl ⟨hput,hl'⟩
    ·exact .inr ⟨hput,A,b :: B,hA,hl',hlo,fun b' h=>by injection h with h; rw [← h]; exact hb⟩)
end
end Tb
end Go.Proofs.YtjcgociobhhijaaGreatDoor
namespace Go.Proofs.YtjcgociobhhijaaGreatDoor
open Go SX Va Cd Sc Bt
namespace Tb
theorem qk_all (l:List Row):qk l (-1) l.length=l:=by
 unfold qk
 rw [List.take_length,List.filter_eq_self.2 fun x _=>by simp]
 exact List.zipIdx_map_fst _ _
theorem qk_but {A B:List Row} {x:Row} {l:List Row} (h:l=A++x :: B):qk l (A.length:Int) l.length=A++B:=by
 subst h
 unfold qk
 rw [List.take_length,List.zipIdx_append,List.zipIdx_cons,List.filter_append,List.filter_cons,List.filter_eq_self.2,if_neg,List.filter_eq_self.2,List.map_append,List.zipIdx_map_fst,List.zipIdx_map_fst]
 ·intro y hy
  have:=List.le_snd_of_mem_zipIdx hy
  simp
  omega
 ·simp
 ·intro y hy
  have:=List.snd_lt_of_mem_zipIdx hy
  simp
  omega
theorem withR_put {s:Schm} {row:Row} {Q l':List Row} (h:WithR s row true Q l') (hs:Q.Pairwise fun a b=>sLt (Pt.kx s 0 a) (Pt.kx s 0 b)=true) (hn:∀ r∈Q,Pt.kx s 0 row≠Pt.kx s 0 r):l'=Pt.mput s row Q:=by
 rcases h with ⟨h,_⟩ | ⟨_,A,B,rfl,rfl,ha,hb⟩
 ·cases h
 ·obtain ⟨_,h2,_⟩:=List.pairwise_append.1 hs
  refine (Pt.mput_app (fun r hr=>sLt_total (ha r hr) (hn r (by simp [hr]))) fun r hr=>?_).symm
  cases B with
  | nil=>cases hr
  | cons b B=>
   have h3:=hb b rfl
   rcases List.mem_cons.1 hr with rfl | hr
   ·exact h3
   ·exact sLt_trans h3 ((List.pairwise_cons.1 h2).1 r hr)
theorem place_eq {s:Schm} {l:List Row} (h:l.Pairwise fun a b=>sLt (Pt.kx s 0 a) (Pt.kx s 0 b)=true) {i j:Nat} (hi:i < l.length) (hj:j < l.length) (he:Pt.kx s 0 l[i]=Pt.kx s 0 l[j]):i=j:=by
 rcases Nat.lt_trichotomy i j with h1 | h1 | h1
 ·have:=List.pairwise_iff_getElem.1 h i j hi hj h1
  rw [he,sLt_irrefl] at this
  cases this
 ·exact h1
 ·have:=List.pairwise_iff_getElem.1 h j i hj hi h1
  rw [he,sLt_irrefl] at this
  cases this
def ClashAt (s:Schm) (l:List Row) (row:Row) (but:Int):Prop:=∃ (j:Nat) (h:j < l.length),(j:Int)≠but∧∃ i,∃ h':i < s.ixs.length,s.ixs[i].unique=true∧Pt.kx s i row=Pt.kx s i l[j]
theorem clashAt_none {s:Schm} {l:List Row} {row:Row}:ClashAt s l row (-1)↔Pt.Clash s l row none:=by
 constructor
 ·rintro ⟨j,h,_,hx⟩
  exact ⟨l[j],List.getElem_mem h,by simp,hx⟩
 ·rintro ⟨r,hr,_,hx⟩
  obtain ⟨j,h,rfl⟩:=List.mem_iff_getElem.1 hr
  exact ⟨j,h,by omega,hx⟩
theorem clashAt_some {s:Schm} {l:List Row} {row:Row} (hs:l.Pairwise fun a b=>sLt (Pt.kx s 0 a) (Pt.kx s 0 b)=true) {k:Nat} (hk:k < l.length):ClashAt s l row (k:Int)↔Pt.Clash s l row (some (Pt.kx s 0 l[k])):=by
 constructor
 ·rintro ⟨j,h,hne,hx⟩
  refine ⟨l[j],List.getElem_mem h,fun e=>hne ?_,hx⟩
  have:=place_eq hs hk h (Option.some.inj e)
  omega
 ·rintro ⟨r,hr,hne,hx⟩
  obtain ⟨j,h,rfl⟩:=List.mem_iff_getElem.1 hr
  refine ⟨j,h,fun e=>hne ?_,hx⟩
  have:j=k:=by omega
  subst this
  rfl
section
variable {W w:World} {K:Value→World→Prop} {p q cp ip:Option Addr} {n c m d cc ic:Nat} {s:Schm} {l:List Row} {row:Row} {key:ByteArray}
theorem mclash_spec {but:Int} (hW:Upd Nothing W w) (hs:SchEx W s (sval' s cp cc ip ic)) (hright:s.Right) (hsm:Small s) (hm:MdlAt W w p n c l) (hn:n≤1000000) (hok:∀ r∈l,FitsP s.cols r) (hr:RowIn W q m row) (hf:FitsP s.cols row)
  (hK:∀ (b:Bool) w',(b=true↔ClashAt s l row but)→Upd Nothing w w'→K (.bool b) w') :
  Cv F.z49 #[mval s cp cc ip ic p n c,.slice q m d,.int .i64 but] w K:=
 R.z49 (by
  unfold C.z49
  have hln:=hm.len
  have hi4:s.ixs.length≤4:=hright.2.2.1.2.1.2
  have hs':=hs
  obtain ⟨cp',cc',ip',ic',he,_,_,hixs,_⟩:=hs
  injection he with he
  have he1:ip=ip':=by
   have:=congrArg (fun x:Array Value=>x[2]?) he
   simp at this
   exact this.1
  subst he1
  refine New.use (by simp [Value.oneCell']) fun g w1 hb1 hu1 hge1 _=>⟨fun i w'=>∃ k:Nat,i=k∧k≤n∧Upd Nothing w1 w'∧∀ j (hj:j < l.length),j < k→(j:Int)≠but→∀ i,∀ h':i < s.ixs.length,s.ixs[i].unique=true→Pt.kx s i row≠Pt.kx s i l[j],fun i _=>n - i.toNat,⟨0,rfl,by omega,Upd.refl _ _,fun j hj h=>by omega⟩,?_⟩
  rintro i w2 ⟨k,rfl,hk,hu2,hq⟩
  have hb2:=hu2.blk hb1 fun f=>f
  refine ⟨_,_,_,hb2.cell (i:=6) rfl,ifB_mk (fun h=>?_) (fun h=>?_)⟩
  ·have hkn:k < n:=by have:=of_decide_eq_true h; omega
   have hkl:k < l.length:=by omega
   have hmem:=List.getElem_mem hkl
   refine ⟨fun x w'=>∃ t:Nat,x=t∧t≤s.ixs.length∧Upd Nothing w2 w'∧((k:Int)≠but→∀ i,∀ h':i < s.ixs.length,i < t→s.ixs[i].unique=true→Pt.kx s i row≠Pt.kx s i l[k]),fun x _=>s.ixs.length - x.toNat,⟨0,rfl,by omega,Upd.refl _ _,fun _ i h' h=>by omega⟩,?_⟩
   rintro x w3 ⟨t,rfl,ht,hu3,hq3⟩
   have hb3:=hu3.blk hb2 fun f=>f
   refine ⟨_,_,_,hb3.cell (i:=2) rfl,ifB_mk (fun h=>?_) (fun h=>?_)⟩
   ·have htn:t < s.ixs.length:=by have:=of_decide_eq_true h; omega
    have hu3d:Upd Nothing w2 w3.drew:=hu3.then (Upd.drew _ _)
    have hu0d:Upd Nothing w w3.drew:=(hu1.then hu2).then hu3d
    have next:∀ w',Upd Nothing w2 w'→((k:Int)≠but→s.ixs[t].unique=true→Pt.kx s t row≠Pt.kx s t l[k])→(∃ t':Nat,IntKind.i64.wrap ((t:Int)+1)=(t':Int)∧t'≤s.ixs.length∧Upd Nothing w2 w'∧((k:Int)≠but→∀ i,∀ h':i < s.ixs.length,i < t'→s.ixs[i].unique=true→Pt.kx s i row≠Pt.kx s i l[k]))∧s.ixs.length - (IntKind.i64.wrap ((t:Int)+1)).toNat < s.ixs.length - (t:Int).toNat:=fun w' hu hx=>scan_next (Q:=fun t'=>(k:Int)≠but→∀ i,∀ h':i < s.ixs.length,i < t'→s.ixs[i].unique=true→Pt.kx s i row≠Pt.kx s i l[k]) htn (by omega) hu fun hb i h' hit hun=>by
     by_cases hit':i=t
     ·subst hit'; exact hx hb hun
     ·exact hq3 hb i h' (by omega) hun
    refine ifB_mk (fun hne=>?_) (fun hne=>next _ hu3d fun hb=>absurd (by simpa using hne) hb)
    have hne':(k:Int)≠but:=by simpa using hne
    obtain ⟨a1,q1,n1,c1,ha1,hcl1,_⟩:=(hixs.upd0 (hW.then hu0d)) t htn
    refine ⟨_,_,_,hb3.drew.cell (i:=2) rfl,a1,ha1,by omega,by omega,_,hcl1.2.1,ifB_mk (fun hun=>?_) (fun hun=>next _ hu3d fun _ h=>by rw [h] at hun; cases hun)⟩
    obtain ⟨a,q2,m2,d2,ha,hc,hr2,hd2⟩:=(hm.upd0 hu0d).get hkl
    have hb3d:=hb3.drew
    refine ⟨_,_,_,_,_,_,_,_,_,_,first_six hb3d,_,_,_,_,_,_,_,_,_,_,first_six hb3d,_,_,_,hb3d.cell (i:=6) rfl,a,ha,by omega,by omega,_,_,_,hc,?_⟩
    refine rkey_spec (hW.then hu0d) hs' hright hsm htn hr hf fun w4 hu4=>⟨_,rfl,?_⟩
    have hb4:=hu4.blk hb3d fun f=>f
    refine ⟨hu4.cell hc fun f=>f,hb4.cell (i:=6) rfl,first_six hb4,rkey_spec ((hW.then hu0d).then hu4) hs' hright hsm htn hr2 (hok _ hmem) fun w5 hu5=>⟨_,rfl,ifB_mk (fun hee=>?_) (fun hee=>next _ ((hu3d.then hu4).then hu5) fun _ _ e=>?_)⟩⟩
    ·exact hK true w5 ⟨fun _=>⟨k,hkl,hne',t,htn,hun,sEq_iff.1 hee⟩,fun _=>rfl⟩ ((hu0d.then hu4).then hu5)
    ·rw [e,sEq_self] at hee
     cases hee
   ·have htn:t=s.ixs.length:=by have:=of_decide_eq_false h; omega
    refine scan_next (Q:=fun k=>∀ j (hj:j < l.length),j < k→(j:Int)≠but→∀ i,∀ h':i < s.ixs.length,s.ixs[i].unique=true→Pt.kx s i row≠Pt.kx s i l[j]) hkn (by omega) (hu2.then hu3) fun j hj hjk hb i h' hun=>?_
    by_cases hjk':j=k
    ·subst hjk'; exact hq3 hb i h' (by omega) hun
    ·exact hq j hj (by omega) hb i h' hun
  ·have hkn:k=n:=by have:=of_decide_eq_false h; omega
   exact hK false w2 ⟨fun h=>(by cases h),fun ⟨j,hj,hne,i,hi,hun,he⟩=>absurd he (hq j hj (by omega) hne i hi hun)⟩ (hu1.then hu2))
structure Dc (W w:World) (s:Schm) (cp:Option Addr) (cc:Nat) (ip:Option Addr) (ic:Nat) (p:Option Addr) (n c:Nat) (l:List Row):Prop where
 hW:Upd Nothing W w
 sx:SchEx W s (sval' s cp cc ip ic)
 right:s.Right
 small:Small s
 mdl:MdlAt W w p n c l
 inv:Pt.Inv s l
theorem Dc.upd0 {w':World} (h:Dc W w s cp cc ip ic p n c l) (hu:Upd Nothing w w'):Dc W w' s cp cc ip ic p n c l:=⟨h.hW.then hu,h.sx,h.right,h.small,h.mdl.upd0 hu,h.inv⟩
theorem Dc.n1000 (h:Dc W w s cp cc ip ic p n c l):n≤1000:=by
 have h1:=h.inv.lim
 have h2:=h.right.2.2.2.1.2
 have:=h.mdl.len
 omega
theorem Dc.fits (h:Dc W w s cp cc ip ic p n c l):∀ r∈l,FitsP s.cols r:=fun r hr=>(h.inv.ok r hr).1
theorem Dc.len (h:Dc W w s cp cc ip ic p n c l):l.length=n:=h.mdl.len
theorem hand {g e:Nat} {x0 x1 x2 x3 x4 x5 x6:Value} {Q:ByteArray→Option Addr→Nat→Nat→Option Addr→Nat→Nat→Int→Int→Int→Option Addr→Nat→Nat→World→Prop} (hb:Blk w g [x0,x1,x2,x3,x4,x5,x6] e)
  (hQ:∀ w',Blk w' g (mcs s cp cc ip ic p n c) e→Upd (One g) w w'→Q s.name cp s.cols.length cc ip s.ixs.length ic s.limit s.parts s.by_ p n c w') :
  CanSt w ((Addr.mk g 0 none).add 0)∧∀ w1,w1=w.setCell ((Addr.mk g 0 none).add 0) (.string s.name)→
  CanSt w1 ((Addr.mk g 0 none).add 1)∧∀ w2,w2=w1.setCell ((Addr.mk g 0 none).add 1) (.slice cp s.cols.length cc)→
  CanSt w2 ((Addr.mk g 0 none).add 2)∧∀ w3,w3=w2.setCell ((Addr.mk g 0 none).add 2) (.slice ip s.ixs.length ic)→
  CanSt w3 ((Addr.mk g 0 none).add 3)∧∀ w4,w4=w3.setCell ((Addr.mk g 0 none).add 3) (.int .i64 s.limit)→
  CanSt w4 ((Addr.mk g 0 none).add 4)∧∀ w5,w5=w4.setCell ((Addr.mk g 0 none).add 4) (.int .i64 s.parts)→
  CanSt w5 ((Addr.mk g 0 none).add 5)∧∀ w6,w6=w5.setCell ((Addr.mk g 0 none).add 5) (.int .i64 s.by_)→
  CanSt w6 ((Addr.mk g 0 none).add 6)∧∀ w7,w7=w6.setCell ((Addr.mk g 0 none).add 6) (.slice p n c)→
  ∃ (xSName1:ByteArray) (xSCols1p:Option Addr) (xSCols1n xSCols1c:Nat) (xSIndexes1p:Option Addr) (xSIndexes1n xSIndexes1c:Nat) (xSLimit1:Int) (xSParts1:Int) (xSBy1:Int) (xRows1p:Option Addr) (xRows1n xRows1c:Nat),
   SX.cellsAt w7 (Addr.mk g 0 none) 0 [.string xSName1,.slice xSCols1p xSCols1n xSCols1c,.slice xSIndexes1p xSIndexes1n xSIndexes1c,.int .i64 xSLimit1,.int .i64 xSParts1,.int .i64 xSBy1,.slice xRows1p xRows1n xRows1c]∧
   Q xSName1 xSCols1p xSCols1n xSCols1c xSIndexes1p xSIndexes1n xSIndexes1c xSLimit1 xSParts1 xSBy1 xRows1p xRows1n xRows1c w7:=
 set_seven rfl rfl rfl rfl rfl rfl rfl hb fun w' hb' hu'=>⟨_,_,_,_,_,_,_,_,_,_,_,_,_,seven_cells hb',hQ w' hb' hu'⟩
theorem minsert_spec (h:Dc W w s cp cc ip ic p n c l) (hr:RowIn W q m row) (hd:m≤d) (hm:m≤9223372036854775806) (hw:∀ x∈row,Va.Val.wf x)
  (hK:∀ p' n' c' w',MdlAt W w' p' n' c' (Pt.tins s l row).1→Upd Nothing w w'→K (.tuple #[mval s cp cc ip ic p' n' c',.int .i64 (Pt.tins s l row).2]) w') :
  Cv F.z46 #[mval s cp cc ip ic p n c,.slice q m d] w K:=
 R.z46 (by
  unfold C.z46
  unfold Pt.tins at hK
  have hn:=h.n1000
  obtain ⟨h0,_⟩:=Pt.right_zero h.right
  refine New.use (by simp [Value.oneCell']) fun g1 w1 hb1 hu1 hge1 _=>New.use (by simp [Value.oneCell']) fun g2 w2 hb2 hu2 hge2 _=>?_
  have hu02:=hu1.then hu2
  have hb12:=hu2.blk hb1 fun f=>f
  have hsz1:=hu1.size
  have hback:∀ (w3:World) (e:Int) (l':List Row) (p':Option Addr) (n' c':Nat),Upd Nothing w2 w3→MdlAt W w3 p' n' c' l'→(∀ p' n' c' w',MdlAt W w' p' n' c' l'→Upd Nothing w w'→K (.tuple #[mval s cp cc ip ic p' n' c',.int .i64 e]) w')→∀ w4,Blk w4 g2 (mcs s cp cc ip ic p' n' c') T.affluxref09_Model→Upd (One g2) w3 w4→K (.tuple #[mval s cp cc ip ic p' n' c',.int .i64 e]) w4:=fun w3 e l' p' n' c' hu3 hm3 hk w4 hb4 hu4=>
   hk p' n' c' w4 (hm3.one (hu3.blk hb2 fun f=>f) (by decide) hu4) ((hu02.then hu3).fresh hu4 fun i hi=>by rw [show i=g2 from hi]; omega)
  refine ⟨_,_,_,_,_,_,_,_,_,_,first_six hb12,rfits3_spec (h.sx.upd0 (h.hW.then hu02)) (hr.1.upd0 (h.hW.then hu02)) hr.2 hm fun b w3 hb hu3=>⟨_,rfl,ifB_mk (fun hx=>?_) (fun hx=>?_)⟩⟩
  ·have hn:¬ FitsP s.cols row:=fun h'=>by rw [hb.2 h'] at hx; cases hx
   rw [if_pos hn] at hK
   exact ⟨_,_,_,_,_,_,_,_,_,_,_,_,_,seven_cells (hu3.blk hb12 fun f=>f),hand (hu3.blk hb2 fun f=>f) (hback w3 13 l p n c hu3 (h.mdl.upd0 (hu02.then hu3)) hK)⟩
  have hf:=hb.1 (by simpa using hx)
  rw [if_neg (not_not_intro hf)] at hK
  have hu03:=hu02.then hu3
  refine ⟨_,_,_,_,_,_,_,_,_,_,_,_,_,seven_cells (hu3.blk hb12 fun f=>f),mclash_spec (h.hW.then hu03) h.sx h.right h.small (h.mdl.upd0 hu03) (by omega) h.fits hr hf fun b2 w4 hb2' hu4=>⟨_,rfl,?_⟩⟩
  rw [clashAt_none] at hb2'
  have hu24:=hu3.then hu4
  have hu04:=hu02.then hu24
  refine ifB_mk (fun hx=>?_) (fun hx=>?_)
  ·rw [if_pos (hb2'.1 hx)] at hK
   exact ⟨_,_,_,_,_,_,_,_,_,_,_,_,_,seven_cells (hu24.blk hb12 fun f=>f),hand (hu24.blk hb2 fun f=>f) (hback w4 9 l p n c hu24 (h.mdl.upd0 hu04) hK)⟩
  have hc:¬ Pt.Clash s l row none:=fun h'=>by rw [hb2'.2 h'] at hx; cases hx
  rw [if_neg hc] at hK
  have hb14:=hu24.blk hb12 fun f=>f
  have hln:=h.len
  refine ⟨_,_,_,hb14.cell (i:=6) rfl,_,hb14.cell (i:=3) rfl,ifB_mk (fun hx=>?_) (fun hx=>?_)⟩
  ·have hl:=of_decide_eq_true hx
   rw [if_pos (by omega)] at hK
   exact ⟨_,_,_,_,_,_,_,_,_,_,_,_,_,seven_cells hb14,hand (hu24.blk hb2 fun f=>f) (hback w4 15 l p n c hu24 (h.mdl.upd0 hu04) hK)⟩
  have hl:=of_decide_eq_false hx
  rw [if_neg (by omega)] at hK
  refine ⟨_,_,_,_,_,_,_,_,_,_,_,_,_,seven_cells hb14,mwith_spec (gone:=-1) (put:=true) (h.hW.then hu04) h.sx h.right h.small (h.mdl.upd0 hu04) (by omega) h.fits (fun _=>⟨hr,hd,hf⟩) fun p' n' c' l' w5 hm5 hw5 hu5=>⟨_,_,_,_,_,_,_,_,_,_,_,_,_,rfl,?_⟩⟩
  rw [← hln,qk_all] at hw5
  have hl':=withR_put hw5 h.inv.srt fun r hr'=>Pt.no_clash h.inv h.right ⟨hf,hw⟩ hc h0 hr'
  exact hand ((hu24.then hu5).blk hb2 fun f=>f) (hback w5 0 l' p' n' c' (hu24.then hu5) hm5 (by rw [hl']; exact hK)))
theorem find_split {l:List Row} {k:Nat} (hk:k < l.length):l=l.take k++l[k] :: l.drop (k+1)∧(l.take k).length=k:=⟨split_at hk,by simp; omega⟩
theorem mupdate_spec (h:Dc W w s cp cc ip ic p n c l) (hr:RowIn W q m row) (hd:m≤d) (hm:m≤9223372036854775806) (hw:∀ x∈row,Va.Val.wf x)
  (hK:∀ p' n' c' w',MdlAt W w' p' n' c' (Pt.tupd s l key row).1→Upd Nothing w w'→K (.tuple #[mval s cp cc ip ic p' n' c',.int .i64 (Pt.tupd s l key row).2]) w') :
  Cv F.z48 #[mval s cp cc ip ic p n c,.string key,.slice q m d] w K:=
 R.z48 (by
  unfold C.z48
  unfold Pt.tupd at hK
  have hn:=h.n1000
  have hln:=h.len
  obtain ⟨h0,_⟩:=Pt.right_zero h.right
  refine New.use (by simp [Value.oneCell']) fun g1 w1 hb1 hu1 hge1 _=>New.use (by simp [Value.oneCell']) fun g2 w2 hb2 hu2 hge2 _=>?_
  have hu02:=hu1.then hu2
  have hb12:=hu2.blk hb1 fun f=>f
  have hsz1:=hu1.size
  have hback:∀ (w3:World) (e:Int) (l':List Row) (p':Option Addr) (n' c':Nat),Upd Nothing w2 w3→MdlAt W w3 p' n' c' l'→(∀ p' n' c' w',MdlAt W w' p' n' c' l'→Upd Nothing w w'→K (.tuple #[mval s cp cc ip ic p' n' c',.int .i64 e]) w')→∀ w4,Blk w4 g2 (mcs s cp cc ip ic p' n' c') T.affluxref09_Model→Upd (One g2) w3 w4→K (.tuple #[mval s cp cc ip ic p' n' c',.int .i64 e]) w4:=fun w3 e l' p' n' c' hu3 hm3 hk w4 hb4 hu4=>
   hk p' n' c' w4 (hm3.one (hu3.blk hb2 fun f=>f) (by decide) hu4) ((hu02.then hu3).fresh hu4 fun i hi=>by rw [show i=g2 from hi]; omega)
  refine ⟨_,_,_,_,_,_,_,_,_,_,_,_,_,seven_cells hb12,mfind_spec (h.hW.then hu02) h.sx h.right h.small (h.mdl.upd0 hu02) (by omega) h.fits fun i w3 hfi hu3=>⟨_,rfl,?_⟩⟩
  have hu03:=hu02.then hu3
  have hb13:=hu3.blk hb12 fun f=>f
  rcases hfi with ⟨rfl,hall⟩ | ⟨k,hk,rfl,hke⟩
  ·rw [if_pos (fun ⟨r,hr',he⟩=>hall r hr' he)] at hK
   exact ifB_mk (fun _=>⟨_,_,_,_,_,_,_,_,_,_,_,_,_,seven_cells hb13,hand (hu3.blk hb2 fun f=>f) (hback w3 8 l p n c hu3 (h.mdl.upd0 hu03) hK)⟩) (fun hx=>by cases hx)
  rw [if_neg (fun h'=>h' ⟨_,List.getElem_mem hk,hke⟩)] at hK
  refine ifB_mk (fun hx=>by have:=of_decide_eq_true hx; omega) (fun _=>?_)
  refine ⟨_,_,_,_,_,_,_,_,_,_,first_six hb13,rfits3_spec (h.sx.upd0 (h.hW.then hu03)) (hr.1.upd0 (h.hW.then hu03)) hr.2 hm fun b w4 hb hu4=>⟨_,rfl,?_⟩⟩
  have hu24:=hu3.then hu4
  have hu04:=hu02.then hu24
  have hb14:=hu24.blk hb12 fun f=>f
  refine ifB_mk (fun hx=>?_) (fun hx=>?_)
  ·have hn:¬ FitsP s.cols row:=fun h'=>by rw [hb.2 h'] at hx; cases hx
   rw [if_pos hn] at hK
   exact ⟨_,_,_,_,_,_,_,_,_,_,_,_,_,seven_cells hb14,hand (hu24.blk hb2 fun f=>f) (hback w4 13 l p n c hu24 (h.mdl.upd0 hu04) hK)⟩
  have hf:=hb.1 (by simpa using hx)
  rw [if_neg (not_not_intro hf)] at hK
  refine ⟨_,_,_,_,_,_,_,_,_,_,_,_,_,seven_cells hb14,mclash_spec (h.hW.then hu04) h.sx h.right h.small (h.mdl.upd0 hu04) (by omega) h.fits hr hf fun b2 w5 hb2' hu5=>⟨_,rfl,?_⟩⟩
  rw [clashAt_some h.inv.srt hk,hke] at hb2'
  have hu25:=hu24.then hu5
  have hu05:=hu02.then hu25
  have hb15:=hu25.blk hb12 fun f=>f
  refine ifB_mk (fun hx=>?_) (fun hx=>?_)
  ·rw [if_pos (hb2'.1 hx)] at hK
   exact ⟨_,_,_,_,_,_,_,_,_,_,_,_,_,seven_cells hb15,hand (hu25.blk hb2 fun f=>f) (hback w5 9 l p n c hu25 (h.mdl.upd0 hu05) hK)⟩
  have hc:¬ Pt.Clash s l row (some key):=fun h'=>by rw [hb2'.2 h'] at hx; cases hx
  rw [if_neg hc] at hK
  refine ⟨_,_,_,_,_,_,_,_,_,_,_,_,_,seven_cells hb15,mwith_spec (gone:=(k:Int)) (put:=true) (h.hW.then hu05) h.sx h.right h.small (h.mdl.upd0 hu05) (by omega) h.fits (fun _=>⟨hr,hd,hf⟩) fun p' n' c' l' w6 hm6 hw6 hu6=>⟨_,_,_,_,_,_,_,_,_,_,_,_,_,rfl,?_⟩⟩
  obtain ⟨hsp,htl⟩:=find_split hk
  have hq:=qk_but hsp
  rw [htl,hln] at hq
  have hmd:Pt.mdel s key l=l.take k++l.drop (k+1):=by
   obtain ⟨A,B,e1,e2⟩:=Pt.srt_split h.inv.srt (List.getElem_mem hk)
   rw [← hke]
   have hAl:A.length=k:=by
    have hA:A.length < l.length:=by rw [e1]; simp
    refine place_eq h.inv.srt hA hk ?_
    have:l[A.length]? = some l[k]:=by
     conv=>lhs; rw [e1]
     rw [List.getElem?_append_right (Nat.le_refl _),Nat.sub_self]
     rfl
    rw [List.getElem?_eq_getElem hA] at this
    rw [Option.some.inj this]
   rw [e2]
   obtain ⟨x,e1'⟩:∃ x,l=A++x :: B:=⟨_,e1⟩
   have h1:l.take k=A:=by rw [e1',← hAl,List.take_left]
   have h2:l.drop (k+1)=B:=by rw [e1',← hAl,← List.drop_drop,List.drop_left]; rfl
   rw [h1,h2]
  rw [hq,← hmd] at hw6
  have hinv:=h.inv.del (k:=key)
  have hl':=withR_put hw6 hinv.srt fun r hr'=>Pt.no_clash hinv h.right ⟨hf,hw⟩ (Pt.clash_del hc) h0 hr'
  exact hand ((hu25.then hu6).blk hb2 fun f=>f) (hback w6 0 l' p' n' c' (hu25.then hu6) hm6 (by rw [hl']; exact hK)))
end
end Tb
end Go.Proofs.YtjcgociobhhijaaGreatDoor
