/- Texts of the proofs of TPlays, TSame, TScans, TSteps, one behind the other. -/
import Derived.Shelf.Strings.Builder1
import Derived.Shelf.Strings.Builder2
import Derived.Shelf.Utf8.RuneCount
import Derived.Shelf.Strings.Search1
import Derived.Shelf.Strings.Search2
import Derived.Shelf.Strings.Search3
import Derived.Shelf.Strings.Count
import Derived.Shelf.LaysM
import Derived.Shelf.Strings.Shaped
import Derived.Shelf.Strings.Split
import Derived.Shelf.Strings.Replace
import Derived.Shelf.Strings.SplitShaped
import Derived.Shelf.Unicode.Decode
import Derived.Shelf.Strings.RuneCount
import Derived.Shelf.Unicode.DecodeSlow
import Derived.Shelf.Unicode.DecodeAny
import Derived.Shelf.Slices.Equal
import Derived.Ground.Names2Prog
import Derived.Shelf.Slices.Clone
import Derived.Ground.SlgnProg
import Derived.Shelf.SlicesE.Clone
import Derived.Test.YtjcgociobhhijaaGreatDoorProg
import Derived.Test.YtjcgociobhhijaaGreatDoorRows
import Derived.ProofKit
import Derived.LaidMore
import Derived.HandedShaped
import Derived.Shelf.Vars
import Derived.SevenTiedAt
import Derived.Test.YtjcgociobhhijaaGreatDoorQc
import Derived.Test.YtjcgociobhhijaaGreatDoorQa
import Derived.Test.YtjcgociobhhijaaGreatDoorQb
set_option linter.unusedVariables false
set_option linter.unusedSimpArgs false
set_option maxRecDepth 100000
namespace Go.Proofs.YtjcgociobhhijaaGreatDoor
open Go SX Bt
namespace Tv
def zero:Value:=.slice none 0 0
theorem zero_isV:IsV zero:=by
 unfold IsV zero
 first | exact ⟨_,rfl⟩ | exact ⟨_,_,_,rfl⟩
theorem get_isV {k:ByteArray} {l:List Ent} (h:∀ e∈l,IsV e.2):IsV ((kval k l).getD zero):=by
 unfold kval
 cases hf:l.find? (fun e=>sEq e.1 k) with
 | none=>exact zero_isV
 | some e=>exact h e (List.mem_of_find?_eq_some hf)
def setRoot:(h:Nat)→Pg h→Rec→Pg h
 | 0,_,r=>r
 | _+1,p,r=>(r,p.2)
theorem ok_set {r:Rec}:∀ {h lo hi lo' hi':Nat} {p:Pg h},Ok h lo hi p→r.bs=(root h p).bs→r.es.length=(root h p).es.length→lo'≤r.es.length→r.es.length≤hi'→Ok h lo' hi' (setRoot h p r)
 | 0,_,_,_,_,_,ho,hb,_,h1,h2=>⟨hb.trans ho.1,h1,h2⟩
 | _+1,_,_,_,_,_,ho,hb,hl,h1,h2=>⟨hb.trans ho.1,by show _=r.es.length+1; rw [hl]; exact ho.2.1,h1,h2,ho.2.2.2.2⟩
theorem toL_set {k:ByteArray} {u v:Value} {es1 es2:List Ent} {r:Rec}:∀ {h lo hi:Nat} {p:Pg h},Ok h lo hi p→Srt (toL h p)→(root h p).es=es1++(k,u) :: es2→r.es=es1++(k,v) :: es2→toL h (setRoot h p r)=ins k v (toL h p)∧kval k (toL h p)=some u
 | 0,_,_,p,ho,hs,he,hr=>by
  have e:toL 0 p=es1++(k,u) :: es2:=he
  rw [e] at hs ⊢
  obtain ⟨h1,h2⟩:=srt_at hs
  refine ⟨?_,get_old h1 h2⟩
  rw [ins_old h1 h2]
  exact hr
 | h+1,_,_,(r0,cs),ho,hs,he,hr=>by
  obtain ⟨cs1,c,cs2,hcs,l1,l2,_,hL,_⟩:=node_at ho he rfl
  match cs2,l2 with
  | d :: cs2',l2=>
   have e:toL (h+1) (r0,cs)=(lw es1 (cs1.map (toL h))++toL h c)++(k,u) :: (toL h d++rw' es2 (cs2'.map (toL h))):=hL
   have e2:toL (h+1) (r,cs)=(lw es1 (cs1.map (toL h))++toL h c)++(k,v) :: (toL h d++rw' es2 (cs2'.map (toL h))):=by
    rw [toL_node,hr,hcs,List.map_append,List.map_cons]
    exact weave_mid (by rw [List.length_map,l1])
   show toL (h+1) (r,cs)=_∧_
   rw [e2]
   rw [e] at hs ⊢
   obtain ⟨h1,h2⟩:=srt_at hs
   exact ⟨(ins_old h1 h2).symm,get_old h1 h2⟩
theorem ecells_set (es1 es2:List Ent) (k:ByteArray) (u v:Value):(ecells (es1++(k,u) :: es2)).set (es1.length * 2+1) v=ecells (es1++(k,v) :: es2):=by
 rw [ecells_app,ecells_app,List.set_append_right _ _ (by rw [ecells_len]; omega),ecells_len,show es1.length * 2+1 - es1.length * 2=1 by omega]
 rfl
section
variable {w:World} {K:Value→World→Prop} {r:Rec} {k:ByteArray}
theorem val_set {u v:Value} {es1 es2:List Ent} {a:Addr} {Q:World→Prop} (h:RecAt TT w r) (he:r.es=es1++(k,u) :: es2) (hv:IsV v) (ha:r.ep=some a) (hK:∀ w',Mv TT w w' [r] [{ r with es:=es1++(k,v) :: es2 }]→Q w') :
  CanSt w ((a.add (es1.length * 2)).add 1)∧∀ w',w'=w.setCell ((a.add (es1.length * 2)).add 1) v→Q w':=by
 have hlen:es1.length * 2+1 < (ecells r.es).length:=by rw [ecells_len,he]; simp; omega
 obtain ⟨a',ha',hst⟩:=h.2.1.store (K:=Q) hlen (one_of hv) fun w' ho hu hs=>by
  have hl:(es1++(k,v) :: es2).length=r.es.length:=by rw [he]; simp
  refine hK w' (Mv.step h ⟨?_,?_,?_⟩ (hu.mono fun k _ hk=>.inr (.inl hk)) fun k hk=>.inl hk)
  ·show Blk w' r.a [.slice r.ep (es1++(k,v) :: es2).length r.ec,_] _
   rw [hl]
   exact hu.blk h.1 fun hk=>h.ae h hk rfl
  ·show OwnW w' _ 2 r.ep (es1++(k,v) :: es2).length r.ec (ecells (es1++(k,v) :: es2))
   rw [hl,← ecells_set es1 es2 k u v,← he]
   exact ho
  ·exact h.2.2.upd hu fun k hk hk'=>h.eb h hk' hk
 rw [ha] at ha'
 injection ha' with ha'
 subst ha'
 rw [Addr.add_two]
 exact hst
def splitL:(h:Nat)→Pg h→Rec→Pg h
 | 0,_,r=>r
 | _+1,p,r=>(r,p.2.take 3)
def splitR:(h:Nat)→Pg h→Rec→Pg h
 | 0,_,r=>r
 | _+1,p,r=>(r,p.2.drop 3)
theorem subs_split:∀ (h:Nat) (p:Pg h) (r q:Rec),subs h p=subs h (splitL h p r)++subs h (splitR h p q)
 | 0,_,_,_=>rfl
 | h+1,p,r,q=>by
  show p.2.flatMap (recs h)=(p.2.take 3).flatMap (recs h)++(p.2.drop 3).flatMap (recs h)
  rw [← List.flatMap_append,List.take_append_drop]
theorem root_splitL:∀ (h:Nat) (p:Pg h) (r:Rec),root h (splitL h p r)=r
 | 0,_,_=>rfl
 | _+1,_,_=>rfl
theorem root_splitR:∀ (h:Nat) (p:Pg h) (r:Rec),root h (splitR h p r)=r
 | 0,_,_=>rfl
 | _+1,_,_=>rfl
theorem page_split:∀ {h:Nat} {p:Pg h} {lo:Nat},Ok h lo 6 p→(root h p).es.length=6→∃ (A:List Ent) (m:ByteArray) (v:Value) (B:List Ent) (X Y:List Nat),(root h p).es=A++(m,v) :: B∧A.length=2∧B.length=3∧(root h p).bs=X++Y∧((X=[]∧Y=[])∨(X.length=3∧Y.length≤100))∧
  ∀ r q:Rec,r.es=A→r.bs=X→q.es=B→q.bs=Y→toL h p=toL h (splitL h p r)++(m,v) :: toL h (splitR h p q)∧Ok h 2 5 (splitL h p r)∧Ok h 2 5 (splitR h p q):=by
 intro h p lo ho h6
 have hd:(root h p).es=(root h p).es.take 2++(root h p).es[2] :: (root h p).es.drop 3:=by rw [← List.drop_eq_getElem_cons,List.take_append_drop]
 have lA:((root h p).es.take 2).length=2:=by rw [List.length_take]; omega
 have lB:((root h p).es.drop 3).length=3:=by rw [List.length_drop]; omega
 match h,p,ho,h6,hd,lA,lB with
 | 0,p,ho,h6,hd,lA,lB=>
  refine ⟨_,(root 0 p).es[2].1,(root 0 p).es[2].2,_,[],[],hd,lA,lB,ho.1,.inl ⟨rfl,rfl⟩,fun r q hr hrb hq hqb=>⟨?_,⟨hrb,?_,?_⟩,⟨hqb,?_,?_⟩⟩⟩
  ·show (root 0 p).es=r.es++_ :: q.es
   rw [hr,hq]
   exact hd
  ·show 2≤r.es.length
   rw [hr,lA]; exact Nat.le_refl _
  ·show r.es.length≤5
   rw [hr,lA]; decide
  ·show 2≤q.es.length
   rw [hq,lB]; decide
  ·show q.es.length≤5
   rw [hq,lB]; decide
 | h+1,(p,cs),ho,h6,hd,lA,lB=>
  obtain ⟨hb,hl,_,_,hk⟩:=ho
  have h6':p.es.length=6:=h6
  have hcl:cs.length=7:=by have:cs.length=p.es.length+1:=hl; omega
  have hc3:(cs.take 3).length=3:=by rw [List.length_take]; omega
  have hc4:(cs.drop 3).length=4:=by rw [List.length_drop]; omega
  have hcs:cs=cs.take 3++cs.drop 3:=(List.take_append_drop _ _).symm
  refine ⟨_,_,_,_,(cs.take 3).map fun c=>(root h c).a,(cs.drop 3).map fun c=>(root h c).a,hd,lA,lB,?_,.inr ⟨by rw [List.length_map,hc3],by rw [List.length_map,hc4]; decide⟩,fun r q hr hrb hq hqb=>⟨?_,⟨hrb,?_,?_,?_,fun c hc=>hk c (List.mem_of_mem_take hc)⟩,⟨hqb,?_,?_,?_,fun c hc=>hk c (List.mem_of_mem_drop hc)⟩⟩⟩
  ·show p.bs=_
   have hb':p.bs=cs.map fun c=>(root h c).a:=hb
   rw [← List.map_append,← hcs]
   exact hb'
  ·show weave p.es (cs.map (toL h))=weave r.es ((cs.take 3).map (toL h))++_ :: weave q.es ((cs.drop 3).map (toL h))
   obtain ⟨c0,c1,c2,h3⟩:∃ a b c,cs.take 3=[a,b,c]:=by
    match cs.take 3,hc3 with
    | [a,b,c],_=>exact ⟨a,b,c,rfl⟩
   obtain ⟨c3,c4',c5,c6,h4⟩:∃ a b c d,cs.drop 3=[a,b,c,d]:=by
    match cs.drop 3,hc4 with
    | [a,b,c,d],_=>exact ⟨a,b,c,d,rfl⟩
   have e1:p.es=r.es++(p.es[2]'(by omega)) :: q.es:=by rw [hr,hq]; exact hd
   have lr:r.es.length=2:=by rw [hr]; exact lA
   obtain ⟨a,b,hab⟩:∃ a b,r.es=[a,b]:=by
    match r.es,lr with
    | [a,b],_=>exact ⟨a,b,rfl⟩
   show weave p.es (cs.map (toL h))=weave r.es ((cs.take 3).map (toL h))++(p.es[2]'(by omega)) :: weave q.es ((cs.drop 3).map (toL h))
   generalize p.es[2]'(by omega)=E at e1 ⊢
   rw [e1,hab,hcs,h3,h4]
   simp [weave,rw']
  ·show (cs.take 3).length=r.es.length+1
   rw [hr,hc3]; exact (by rw [lA]:3=((root (h+1) (p,cs)).es.take 2).length+1)
  ·show 2≤r.es.length
   rw [hr]; exact Nat.le_of_eq lA.symm
  ·show r.es.length≤5
   rw [hr]; exact Nat.le_trans (Nat.le_of_eq lA) (by decide)
  ·show (cs.drop 3).length=q.es.length+1
   rw [hq,hc4]; exact (by rw [lB]:4=((root (h+1) (p,cs)).es.drop 3).length+1)
  ·show 2≤q.es.length
   rw [hq]; exact Nat.le_trans (by decide) (Nat.le_of_eq lB.symm)
  ·show q.es.length≤5
   rw [hq]; exact Nat.le_trans (Nat.le_of_eq lB) (by decide)
theorem ins_mem {k:ByteArray} {v:Value} {l:List Ent} {e:Ent} (h:e∈ins k v l):e∈l∨e=(k,v):=by
 unfold ins at h
 rcases List.mem_append.1 h with h | h
 ·exact .inl (List.mem_filter.1 h).1
 ·rcases List.mem_cons.1 h with h | h
  ·exact .inr h
  ·exact .inl (List.mem_filter.1 h).1
theorem perm_two {α:Type} (A B:List α) (x y:α) (X Y:List α):(A++((x :: X)++((y :: Y)++B))).Perm (x :: y :: (X++Y++(A++B))):=by
 have h1:(A++((x :: X)++((y :: Y)++B))).Perm (x :: (A++(X++(y :: (Y++B))))):=List.perm_middle
 have h2:(A++(X++(y :: (Y++B)))).Perm (y :: ((A++X)++(Y++B))):=by rw [← List.append_assoc]; exact List.perm_middle
 have h3:((A++X)++(Y++B)).Perm (X++Y++(A++B)):=by
  have e:(A++X)++(Y++B)=(A++(X++Y))++B:=by simp [List.append_assoc]
  have e2:X++Y++(A++B)=(X++Y++A)++B:=by simp [List.append_assoc]
  rw [e,e2]
  exact List.Perm.append_right B List.perm_append_comm
 exact h1.trans ((h2.trans (h3.cons y)).cons x)
theorem put_spec:∀ (h:Nat) {p:Pg h} {lo:Nat} {w:World} {K:Value→World→Prop} {k:ByteArray} {v:Value},Ok h lo 5 p→Srt (toL h p)→(∀ e∈toL h p,IsV e.2)→RS TT w (recs h p)→IsV v→
  (∀ p' w',Ok h lo 6 p'→(root h p').a=(root h p).a→toL h p'=ins k v (toL h p)→Mv TT w w' (recs h p) (recs h p')→K (.tuple #[(kval k (toL h p)).getD zero,.bool (kval k (toL h p)).isSome]) w')→
  Cv F.z160 #[.pointer (some ⟨(root h p).a,0,none⟩),.string k,v] w K:=by
 intro h
 induction h with
 | zero=>
  intro (p:Rec) lo w K k v ho hs hV hR hv hK
  have hv0:=hv
  obtain ⟨vp,vn,vc,rfl⟩:=hv
  have hr:RecAt TT w p:=RS.one.1 hR
  have hes:p.es.length≤5:=ho.2.2
  show Cv F.z160 #[.pointer (some ⟨p.a,0,none⟩),.string k,.slice vp vn vc] w K
  refine R.z160 (by
   unfold C.z160
   refine ⟨_,rfl,find_spec (r:=p) hr hs hV (by omega) fun i ok w1 hT hF hu1=>⟨_,_,rfl,?_⟩⟩
   have hm1:Mv TT w w1.drew [p] [p]:=Mv.of0 (RS.one.2 hr) (hu1.then (Upd.drew _ _))
   refine ifB_mk (fun hok=>?_) (fun hok=>?_)
   ·obtain ⟨u,hu,es1,es2,he,hi,hlo,hhi⟩:=hT hok
    have hu0:=hu
    have hel:p.es.length=es1.length+1+es2.length:=by rw [he]; simp; omega
    have hr1:=RS.one.1 hm1.rs
    have hat:=hr1.2.1.at
    rw [he] at hat
    obtain ⟨a,ha,hc⟩:=At.pair hat (ecells_mid es1 es2 k u).1 (ecells_mid es1 es2 k u).2
    obtain ⟨hL,hG⟩:=toL_set (r:={ p with es:=es1++(k,.slice vp vn vc) :: es2 }) (h:=0) ho hs he rfl
    rw [hG] at hK
    subst hi
    obtain ⟨up,un,uc,rfl⟩:=hu
    refine ⟨_,rfl,_,_,_,hr1.1.cell (i:=0) rfl,_,rfl,_,_,_,hr1.1.cell (i:=0) rfl,a,ha,by omega,by omega,_,_,_,hc.2.1,a,ha,by omega,by omega,val_set (k:=k) hr1 he hv0 ha fun w2 hm2=>?_⟩
    have hl':(es1++(k,.slice vp vn vc) :: es2).length=p.es.length:=by rw [hel]; simp; omega
    have h1:lo≤p.es.length:=ho.2.1
    exact hK _ w2 (ok_set (h:=0) (p:=p) (r:={ p with es:=es1++(k,.slice vp vn vc) :: es2 }) (lo':=lo) (hi':=6) ho rfl hl' (by show lo≤(es1++(k,.slice vp vn vc) :: es2).length; omega) (by show (es1++(k,.slice vp vn vc) :: es2).length≤6; omega)) rfl hL (hm1.trans hm2)
   ·obtain ⟨es1,es2,he,hi,hlo,hhi⟩:=hF hok
    have hel:p.es.length=es1.length+es2.length:=by rw [he]; simp
    have hr1:RecAt TT w1 p:=hr.upd hu1 fun _ _ f=>f
    have hb:p.bs=[]:=ho.1
    have hG:kval k (toL 0 p)=none:=by
     have e:toL 0 p=es1++es2:=he
     rw [e]; exact get_none hlo hhi
    have hL:ins k (.slice vp vn vc) (toL 0 p)=es1++(k,.slice vp vn vc) :: es2:=by
     have e:toL 0 p=es1++es2:=he
     rw [e]; exact ins_new hlo hhi
    rw [hG,hL] at hK
    refine leaf_spec hr1 ⟨_,rfl,ifB_mk (fun _=>⟨_,rfl,insert_spec hr1 hv0 (by omega) (by omega) fun ep ec w2 hm2=>⟨rfl,?_⟩⟩) (fun h=>by rw [hb] at h; simp at h)⟩
    have he2:p.es.take i++(k,.slice vp vn vc) :: p.es.drop i=es1++(k,.slice vp vn vc) :: es2:=by rw [he,← hi]; simp
    refine hK { p with es:=p.es.take i++(k,.slice vp vn vc) :: p.es.drop i,ep:=ep,ec:=ec } w2 ⟨hb,?_,?_⟩ rfl he2 (Mv.after (RS.one.2 hr) hu1 hm2)
    ·show lo≤(p.es.take i++(k,.slice vp vn vc) :: p.es.drop i).length
     have h1:lo≤p.es.length:=ho.2.1
     rw [he2]; simp; omega
    ·show (p.es.take i++(k,.slice vp vn vc) :: p.es.drop i).length≤6
     rw [he2]; simp; omega)
 | succ h ih=>
  intro (r,cs) lo w K k v ho hs hV hR hv hK
  have hv0:=hv
  obtain ⟨vp,vn,vc,rfl⟩:=hv
  have hR':RS TT w (r :: cs.flatMap (recs h)):=hR
  have hr:RecAt TT w r:=(RS.cons.1 hR').1
  have hes:r.es.length≤5:=ho.2.2.2.1
  have hlo0:lo≤r.es.length:=ho.2.2.1
  have hsr:Srt r.es:=List.Pairwise.sublist (root_sub ho) hs
  have hVr:∀ e∈r.es,IsV e.2:=fun e he=>hV e ((root_sub ho).subset he)
  show Cv F.z160 #[.pointer (some ⟨r.a,0,none⟩),.string k,.slice vp vn vc] w K
  refine R.z160 (by
   unfold C.z160
   refine ⟨_,rfl,find_spec (r:=r) hr hsr hVr (by omega) fun i ok w1 hT hF hu1=>⟨_,_,rfl,?_⟩⟩
   refine ifB_mk (fun hok=>?_) (fun hok=>?_)
   ·have hm1:Mv TT w w1.drew [r] [r]:=Mv.of0 (RS.one.2 hr) (hu1.then (Upd.drew _ _))
    obtain ⟨u,hu,es1,es2,he,hi,hlo,hhi⟩:=hT hok
    have hel:r.es.length=es1.length+1+es2.length:=by rw [he]; simp; omega
    have hr1:=RS.one.1 hm1.rs
    have hat:=hr1.2.1.at
    rw [he] at hat
    obtain ⟨a,ha,hc⟩:=At.pair hat (ecells_mid es1 es2 k u).1 (ecells_mid es1 es2 k u).2
    obtain ⟨hL,hG⟩:=toL_set (r:={ r with es:=es1++(k,.slice vp vn vc) :: es2 }) (h:=h+1) (p:=(r,cs)) (v:=(.slice vp vn vc)) ho hs he rfl
    rw [hG] at hK
    subst hi
    obtain ⟨up,un,uc,rfl⟩:=hu
    refine ⟨_,rfl,_,_,_,hr1.1.cell (i:=0) rfl,_,rfl,_,_,_,hr1.1.cell (i:=0) rfl,a,ha,by omega,by omega,_,_,_,hc.2.1,a,ha,by omega,by omega,val_set (k:=k) hr1 he hv0 ha fun w2 hm2=>?_⟩
    have hl':(es1++(k,.slice vp vn vc) :: es2).length=r.es.length:=by rw [hel]; simp; omega
    exact hK _ w2 (ok_set (h:=h+1) (p:=(r,cs)) (r:={ r with es:=es1++(k,.slice vp vn vc) :: es2 }) (lo':=lo) (hi':=6) ho rfl hl' (by show lo≤(es1++(k,.slice vp vn vc) :: es2).length; omega) (by show (es1++(k,.slice vp vn vc) :: es2).length≤6; omega)) rfl hL (Mv.fst hR' (hm1.trans hm2))
   ·obtain ⟨es1,es2,he,hi,hlo,hhi⟩:=hF hok
    have hel:r.es.length=es1.length+es2.length:=by rw [he]; simp
    have hr1:RecAt TT w1 r:=hr.upd hu1 fun _ _ f=>f
    obtain ⟨cs1,c,cs2,rfl,l1,l2,hb,hL,hokc,hok1,hok2⟩:=node_at ho he hi
    have hbl:r.bs.length=cs1.length+1+cs2.length:=by rw [hb]; simp; omega
    -- the lists beside the page below
    rw [hL] at hs hV
    obtain ⟨hs12,hs3,hs4⟩:=hs.app
    obtain ⟨hs1,hs2,hs5⟩:=hs12.app
    have hlo':=lw_lo hs1 hlo
    have hhi':=rw_hi hs3 hhi
    have hVc:∀ e∈toL h c,IsV e.2:=fun e he=>hV e (by simp [he])
    have hG:kval k (toL (h+1) (r,cs1++c :: cs2))=kval k (toL h c):=by rw [hL]; exact get_mid hlo' hhi'
    have hI:ins k (.slice vp vn vc) (toL (h+1) (r,cs1++c :: cs2))=lw es1 (cs1.map (toL h))++ins k (.slice vp vn vc) (toL h c)++rw' es2 (cs2.map (toL h)):=by rw [hL]; exact ins_mid hlo' hhi'
    rw [hG,hI] at hK
    have hRp:=(hR.perm recs_mid).upd0 hu1
    have hRc:=(RS.app.1 hRp).1
    have hcell:∀ w' (r':Rec),RecAt TT w' r'→r'.bs=r.bs→∃ a,r'.bp=some a∧w'.cell? (a.add (i * 1))=some (.pointer (some ⟨(root h c).a,0,none⟩)):=fun w' r' h' e=>by
     have hat:=h'.2.2.at
     rw [e,hb] at hat
     have:=pcells_at (bs1:=cs1.map fun c=>(root h c).a) (bs2:=cs2.map fun c=>(root h c).a) (a:=(root h c).a)
     rw [List.length_map,l1] at this
     exact hat _ _ this
    obtain ⟨a,ha,hc⟩:=hcell w1 r hr1 rfl
    refine leaf_spec hr1 ⟨_,rfl,ifB_mk (fun h=>by have:=of_decide_eq_true h; omega) (fun _=>?_)⟩
    have hgv:=get_isV (k:=k) hVc
    refine ⟨_,rfl,_,_,_,hr1.1.cell (i:=1) rfl,a,ha,by omega,by omega,_,by simpa using hc,ih hokc hs2 hVc hRc hv0 fun c' w5 hokc' hra hLc hmc=>?_⟩
    generalize (kval k (toL h c)).getD zero=ov at hgv hK ⊢
    generalize (kval k (toL h c)).isSome=ob at hK ⊢
    obtain ⟨up,un,uc,rfl⟩:=hgv
    -- the whole
    have hm5:Mv TT w w5 (recs (h+1) (r,cs1++c :: cs2)) (recs (h+1) (r,cs1++c' :: cs2)):=Mv.after hR hu1 ((hmc.frame hRp).perm recs_mid.symm recs_mid.symm)
    have hr5:RecAt TT w5 r:=hm5.rs.1 r (by rw [recs_node]; simp)
    have hc5:RecAt TT w5 (root h c'):=hm5.rs.1 _ (by rw [recs_node]; simp [recs])
    obtain ⟨a5,ha5,hcc5⟩:=hcell w5 r hr5 rfl
    have hc5c:w5.cell? (((Addr.mk (root h c).a 0 none).add 0).add 0)=some (.slice (root h c').ep (root h c').es.length (root h c').ec):=by
     rw [← hra]
     exact hc5.1.cell (i:=0) rfl
    refine ⟨up,un,uc,_,rfl,_,rfl,_,_,_,hr5.1.cell (i:=1) rfl,a5,ha5,by omega,by omega,_,by simpa using hcc5,_,rfl,_,_,_,hc5c,?_⟩
    have hb':r.bs=(cs1++c' :: cs2).map fun c=>(root h c).a:=by rw [hb]; simp [hra]
    have hlen':(cs1++c' :: cs2).length=r.es.length+1:=by rw [hel,← l2,hi,← l1]; simp; omega
    have hLn:toL (h+1) (r,cs1++c' :: cs2)=lw es1 (cs1.map (toL h))++ins k (.slice vp vn vc) (toL h c)++rw' es2 (cs2.map (toL h)):=by
     rw [toL_node,he,List.map_append,List.map_cons,hLc]
     exact weave_mid (by rw [List.length_map,l1,hi])
    have hcr:=hokc'.root_len
    refine ifB_mk (fun h6=>?_) (fun h6=>?_)
    ·have h66:(root h c').es.length=6:=by have:=of_decide_eq_true h6; omega
     obtain ⟨A,m,mv,B,X,Y,hA1,hA2,hB2,hXYe,hXY,hsp⟩:=page_split hokc' h66
     have hVc':∀ e∈toL h c',IsV e.2:=fun e he=>by
      rw [hLc] at he
      rcases ins_mem he with h1 | h1
      ·exact hVc e h1
      ·rw [h1]; exact hv0
     have hmv:IsV mv:=hVc' (m,mv) ((root_sub hokc').subset (by rw [hA1]; simp))
     have hpm:(recs (h+1) (r,cs1++c' :: cs2)).Perm ([r,root h c']++(subs h c'++(cs1.flatMap (recs h)++cs2.flatMap (recs h)))):=by
      refine recs_mid.trans ?_
      show (root h c' :: (subs h c'++r :: (cs1.flatMap (recs h)++cs2.flatMap (recs h)))).Perm (r :: root h c' :: (subs h c'++(cs1.flatMap (recs h)++cs2.flatMap (recs h))))
      exact (List.perm_middle.cons _).trans (List.Perm.swap _ _ _)
     have hRS2:=hm5.rs.perm hpm
     have hbr:r.bs=cs1.map (fun c=>(root h c).a)++(root h c').a :: cs2.map (fun c=>(root h c).a):=by rw [hb,hra]
     refine split_spec (c:=root h c') (RS.app.1 hRS2).1 hmv he hbr hi (by rw [List.length_map,l1]) (by omega) (by omega) hA1 hA2 (by omega) hXYe hXY fun r' cc q w6 k1 k2 k3 k4 k5 k6 k7 k8 hm6=>⟨rfl,?_⟩
     obtain ⟨hT6,hoL,hoR⟩:=hsp cc q k5 k6 k7 k8
     have hpm':(recs (h+1) (r',cs1++splitL h c' cc :: splitR h c' q :: cs2)).Perm ([r',cc,q]++(subs h c'++(cs1.flatMap (recs h)++cs2.flatMap (recs h)))):=by
      rw [recs_node,List.flatMap_append,List.flatMap_cons,List.flatMap_cons,subs_split h c' cc q]
      show (r' :: (cs1.flatMap (recs h)++((root h (splitL h c' cc) :: subs h (splitL h c' cc))++((root h (splitR h c' q) :: subs h (splitR h c' q))++cs2.flatMap (recs h))))).Perm _
      rw [root_splitL,root_splitR]
      exact (perm_two _ _ _ _ _ _).cons r'
     have hel':r'.es.length=r.es.length+1:=by rw [k2,hel]; simp; omega
     refine hK (r',cs1++splitL h c' cc :: splitR h c' q :: cs2) w6 ⟨?_,?_,by show lo≤r'.es.length; omega,by show r'.es.length≤6; omega,fun x hx=>?_⟩ k1 ?_ (hm5.trans ((hm6.frame hRS2).perm hpm.symm hpm'.symm))
     ·show r'.bs=_
      rw [k3,List.map_append,List.map_cons,List.map_cons,root_splitL,root_splitR,k4]
     ·show (cs1++splitL h c' cc :: splitR h c' q :: cs2).length=r'.es.length+1
      rw [hel',hel,← l2,hi,← l1]; simp; omega
     ·rcases List.mem_append.1 hx with hx | hx
      ·exact hok1 x hx
      ·rcases List.mem_cons.1 hx with rfl | hx
       ·exact hoL
       ·rcases List.mem_cons.1 hx with rfl | hx
        ·exact hoR
        ·exact hok2 x hx
     ·rw [toL_node,k2,List.map_append,List.map_cons,List.map_cons,← hLc,hT6]
      exact weave_two (by rw [List.length_map,l1,hi])
    ·have h5:(root h c').es.length≤5:=by have:=of_decide_eq_false h6; omega
     refine hK (r,cs1++c' :: cs2) w5 ⟨hb',hlen',hlo0,by show r.es.length≤6; omega,fun x hx=>?_⟩ rfl hLn hm5
     rcases List.mem_append.1 hx with hx | hx
     ·exact hok1 x hx
     ·rcases List.mem_cons.1 hx with rfl | hx
      ·exact hokc'.mono hcr.1 h5
      ·exact hok2 x hx)
end
end Tv
end Go.Proofs.YtjcgociobhhijaaGreatDoor
namespace Go.Proofs.YtjcgociobhhijaaGreatDoor
open Go SX Bt
namespace Tv
section
variable {w w0:World} {K:Value→World→Prop} {Q:World→Prop} {r a b:Rec} {k:ByteArray} {i x g:Nat} {bs1 bs2:List Nat} {es1 es2:List Ent} {v:Value}
theorem ptr_at (h:RecAt TT w r) (hb:r.bs=bs1++x :: bs2) (hi:bs1.length=i):∃ c,r.bp=some c∧w.cell? (c.add (i * 1))=some (.pointer (some ⟨x,0,none⟩)):=by
 have hat:=h.2.2.at
 rw [hb] at hat
 rw [← hi]
 exact hat _ _ pcells_at
theorem ent_at (h:RecAt TT w r) (he:r.es=es1++(k,v) :: es2) (hi:es1.length=i):∃ c,r.ep=some c∧SX.cellsAt w (c.add (i * 2)) 0 [.string k,v]:=by
 have hat:=h.2.1.at
 rw [he] at hat
 rw [← hi]
 exact At.pair hat (ecells_mid es1 es2 k v).1 (ecells_mid es1 es2 k v).2
theorem pcells_one (l:List Nat):∀ u∈pcells l,u.oneCell'=true:=fun u hu=>by
 simp only [pcells,List.mem_map] at hu
 obtain ⟨_,_,rfl⟩:=hu
 rfl
theorem below_end {p:Option Addr} {n c:Nat} {bs:List Nat} (h:RecAt TT w0 r) (hn:bs.length=n) (ho:OwnW w T.p_tree_page_s_afflux_api_Value 1 p n c (pcells bs)) (hu:Upd (fun k=>Fp r.bp r.bc k) w0 w) (hf:∀ k,Fp p c k→Fp r.bp r.bc k∨w0.heap.size≤k)
  (hK:∀ w',Mv TT w0 w' [r] [{ r with bp:=p,bc:=c,bs:=bs }]→Q w'):CanSt w ⟨r.a,1,none⟩∧∀ w',w'=w.setCell ⟨r.a,1,none⟩ (.slice p n c)→Q w':=by
 subst hn
 have hb:=hu.blk h.1 fun hk=>h.ab h hk rfl
 refine hb.store (i:=1) (by simp) rfl fun w4 hb4 hu4 hs4=>hK w4 (Mv.step h ⟨hb4,(h.2.1.upd hu fun k hk hk'=>h.eb h hk hk').upd hu4 fun k hk e=>h.ae h hk e,ho.upd hu4 fun k hk e=>?_⟩ ((hu.then' hu4).mono fun k _ hk=>hk.elim (fun h=>.inr (.inr h)) fun h=>.inl h) fun k hk=>?_)
 ·obtain ⟨l,hb'⟩:=ho.blk hk
  have e':k=r.a:=e
  subst e'
  exact TT.h2 (hb.same hb').2
 ·rcases hk with hk | hk | hk
  ·exact .inl (.inl hk)
  ·exact .inl (.inr (.inl hk))
  ·rcases hf k hk with h | h
   ·exact .inl (.inr (.inr h))
   ·exact .inr h
theorem bins_set (h:RecAt TT w0 r) (hN:New w0 (.cells #[.pointer (some ⟨x,0,none⟩)] T.p_tree_page_s_afflux_api_Value) g w) (hb:r.bs=bs1++bs2) (hi:bs1.length=i) (hn:r.bs.length≤1000) (hK:∀ p c w',Mv TT w0 w' [r] [{ r with bp:=p,bc:=c,bs:=bs1++x :: bs2 }]→Q w') :
  Cv F.z107 #[.slice r.bp r.bs.length r.bc,.int .i64 (i:Int),.slice (some (Addr.mk g 0 none)) 1 1] w (fun v4 wv7=>∃ (r2p:Option Addr) (r2n r2c:Nat),v4 = .slice r2p r2n r2c∧∃ ea7,some (Addr.mk r.a 0 none)=some ea7∧CanSt wv7 (ea7.add 1)∧∀ wv8,wv8=wv7.setCell (ea7.add 1) (.slice r2p r2n r2c)→Q wv8):=by
 have hu0:Upd Nothing w0 w:=Upd.new hN
 have hl:r.bs.length=bs1.length+bs2.length:=by rw [hb]; simp
 refine sins_ptr (ys:=[.pointer (some ⟨x,0,none⟩)]) hN h.2.2 rfl (by simp [Value.oneCell']) (by omega) (by omega) fun p' c' w3 ho3 hu3 hf3=>⟨_,_,_,rfl,_,rfl,?_⟩
 have hcells:(pcells r.bs).take (i * 1)++[Value.pointer (some ⟨x,0,none⟩)]++(pcells r.bs).drop (i * 1)=pcells (bs1++x :: bs2):=by
  have h1:pcells r.bs=pcells bs1++pcells bs2:=by rw [hb]; simp [pcells]
  have h2:(pcells bs1).length=i * 1:=by simp [pcells]; omega
  rw [h1,← h2,List.take_left,List.drop_left]
  simp [pcells]
 rw [hcells] at ho3
 exact below_end h (by simp; omega) ho3 ((hu0.mono fun _ _ f=>f.elim).then hu3) (fun k hk=>by
  rcases hf3 k hk with h | h
  ·exact .inl h
  ·exact .inr (Nat.le_trans hu0.size h)) fun w' hm=>hK p' c' w' hm
theorem bdel_set {j:Nat} (h:RecAt TT w r) (hb:r.bs=bs1++x :: bs2) (hi:bs1.length=i) (hj:j=i+1) (hn:r.bs.length≤1000) (hK:∀ w',Mv TT w w' [r] [{ r with bs:=bs1++bs2 }]→Q w') :
  Cv F.z100 #[.slice r.bp r.bs.length r.bc,.int .i64 (i:Int),.int .i64 (j:Int)] w (fun v5 wv9=>∃ (r2p:Option Addr) (r2n r2c:Nat),v5 = .slice r2p r2n r2c∧∃ ea8,some (Addr.mk r.a 0 none)=some ea8∧CanSt wv9 (ea8.add 1)∧∀ wv10,wv10=wv9.setCell (ea8.add 1) (.slice r2p r2n r2c)→Q wv10):=by
 have hl:r.bs.length=bs1.length+1+bs2.length:=by rw [hb]; simp; omega
 refine sdel_ptr h.2.2 (by omega) (by omega) (by omega) fun w3 ho3 hu3=>⟨_,_,_,rfl,_,rfl,?_⟩
 have hcells:(pcells r.bs).take (i * 1)++(pcells r.bs).drop (j * 1)=pcells (bs1++bs2):=by
  have h1:pcells r.bs=pcells bs1++(pcells [x]++pcells bs2):=by rw [hb]; simp [pcells]
  have h2:(pcells bs1).length=i * 1:=by simp [pcells]; omega
  have h3:(pcells bs1++pcells [x]).length=j * 1:=by simp [pcells]; omega
  have h4:(pcells r.bs).take (i * 1)=pcells bs1:=by rw [h1,← h2,List.take_left]
  have h5:(pcells r.bs).drop (j * 1)=pcells bs2:=by rw [h1,← List.append_assoc,← h3,List.drop_left]
  rw [h4,h5]
  simp [pcells]
 rw [hcells] at ho3
 exact below_end h (by rw [hl]; simp; omega) ho3 hu3 (fun k hk=>.inl hk) fun w' hm=>hK w' hm
theorem ent_set {k':ByteArray} {v':Value} {c:Addr} (h:RecAt TT w r) (he:r.es=es1++(k,v) :: es2) (hi:es1.length=i) (hv:v'.oneCell'=true) (hc:r.ep=some c) (hK:∀ w',Mv TT w w' [r] [{ r with es:=es1++(k',v') :: es2 }]→Q w') :
  CanSt w ((c.add (i * 2)).add 0)∧∀ w1,w1=w.setCell ((c.add (i * 2)).add 0) (.string k')→CanSt w1 ((c.add (i * 2)).add 1)∧∀ w2,w2=w1.setCell ((c.add (i * 2)).add 1) v'→Q w2:=by
 have hl0:(ecells r.es).length=r.es.length * 2:=ecells_len _
 have hel:r.es.length=es1.length+1+es2.length:=by rw [he]; simp; omega
 rw [Addr.add_two,Addr.add_two]
 obtain ⟨c',hc',hst⟩:=h.2.1.store (j:=i * 2+0) (v:=.string k') (by omega) rfl (K:=fun w1=>CanSt w1 (c.add (i * 2+1))∧∀ w2,w2=w1.setCell (c.add (i * 2+1)) v'→Q w2) fun w1 ho1 hu1 _=>by
  obtain ⟨c'',hc'',hst⟩:=ho1.store (j:=i * 2+1) (v:=v') (by rw [List.length_set]; omega) hv (K:=Q) fun w2 ho2 hu2 _=>by
   have hl:(es1++(k',v') :: es2).length=r.es.length:=by rw [he]; simp
   have hu:=hu1.then hu2
   refine hK w2 (Mv.step h ⟨?_,?_,?_⟩ (hu.mono fun k _ hk=>.inr (.inl hk)) fun k hk=>.inl hk)
   ·show Blk w2 r.a [.slice r.ep (es1++(k',v') :: es2).length r.ec,_] _
    rw [hl]
    exact hu.blk h.1 fun hk=>h.ae h hk rfl
   ·show OwnW w2 _ 2 r.ep (es1++(k',v') :: es2).length r.ec (ecells (es1++(k',v') :: es2))
    rw [hl]
    have e:((ecells r.es).set (i * 2+0) (.string k')).set (i * 2+1) v'=ecells (es1++(k',v') :: es2):=by
     rw [he,ecells_app,ecells_app,List.set_append_right _ _ (by rw [ecells_len]; omega),List.set_append_right _ _ (by rw [ecells_len]; omega),ecells_len,hi,Nat.add_sub_cancel_left,Nat.add_sub_cancel_left]
     rfl
    rw [← e]
    exact ho2
   ·exact h.2.2.upd hu fun k hk hk'=>h.eb h hk' hk
  rw [hc] at hc''
  injection hc'' with hc''
  subst hc''
  exact hst
 rw [hc] at hc'
 injection hc' with hc'
 subst hc'
 exact hst
theorem right_spec {k':ByteArray} {v':Value} {A:List Ent} {X Z:List Nat} (h:RS TT w [r,a,b]) (hv:IsV v) (hv':IsV v') (he:r.es=es1++(k,v) :: es2) (hi:es1.length=i) (hb:r.bs=bs1++a.a :: b.a :: bs2) (hbi:bs1.length=i) (hn:r.bs.length≤100) (hen:r.es.length≤100)
  (hae:a.es=A++[(k',v')]) (hal:a.es.length≤100) (hbl:b.es.length≤100) (hab:a.bs=X++Z) (hZ:(X=[]∧Z=[])∨∃ x,Z=[x]) (ha100:a.bs.length≤100) (hb100:b.bs.length≤100)
  (hK:∀ (r' a' b':Rec) w',r'.a=r.a→r'.es=es1++(k',v') :: es2→r'.bs=r.bs→a'.a=a.a→a'.es=A→a'.bs=X→b'.a=b.a→b'.es=(k,v) :: b.es→b'.bs=Z++b.bs→Mv TT w w' [r,a,b] [r',a',b']→K (.tuple #[]) w') :
  Cv F.z161 #[.pointer (some ⟨r.a,0,none⟩),.int .i64 (i:Int)] w K:=by
 have hv0:=hv
 have hv0':=hv'
 obtain ⟨vp,vn,vc,rfl⟩:=hv
 obtain ⟨up,un,uc,rfl⟩:=hv'
 exact R.z161 (by
  unfold C.z161
  have hbl0:r.bs.length=bs1.length+2+bs2.length:=by rw [hb]; simp; omega
  have hel0:r.es.length=es1.length+1+es2.length:=by rw [he]; simp; omega
  have hal0:a.es.length=A.length+1:=by rw [hae]; simp
  have hw1:IntKind.i64.wrap ((i:Int)+1)=((i+1:Nat):Int):=by rw [i64_wrap (by omega) (by omega)]; omega
  rw [hw1]
  have hm0:Mv TT w w.drew.drew [r,a,b] [r,a,b]:=Mv.of0 h ((Upd.drew _ _).then (Upd.drew _ _))
  have hmd:Mv TT w w.drew [r,a,b] [r,a,b]:=Mv.of0 h (Upd.drew _ _)
  have hr1:=rs_mem hmd.rs (r:=r) (by simp)
  have hr2:=rs_mem hm0.rs (r:=r) (by simp)
  have hb2:=rs_mem hm0.rs (r:=b) (by simp)
  obtain ⟨c1,hc1,hcc1⟩:=ptr_at hr1 hb hbi
  obtain ⟨c2,hc2,hcc2⟩:=ptr_at (bs1:=bs1++[a.a]) (x:=b.a) (bs2:=bs2) (i:=i+1) hr1 (by rw [hb]; simp) (by simp; omega)
  obtain ⟨c3,hc3,hcc3⟩:=ent_at hr2 he hi
  refine ⟨_,rfl,_,_,_,hr1.1.cell (i:=1) rfl,c1,hc1,by omega,by omega,_,by simpa using hcc1,_,rfl,_,_,_,hr1.1.cell (i:=1) rfl,c2,hc2,by omega,by omega,_,hcc2,_,rfl,_,rfl,_,_,_,hr2.1.cell (i:=0) rfl,c3,hc3,by omega,by omega,_,_,_,_,by simpa using hcc3,?_⟩
  refine insert_spec (i:=0) hb2 hv0 (Nat.zero_le _) (by omega) fun ep ec w1 hm1=>⟨rfl,?_⟩
  have hM1:=(hm0.trans (Mv.thd hm0.rs hm1)).more (Upd.drew Nothing _)
  have hr3:=rs_mem hM1.rs (r:=r) (by simp)
  have ha3:=rs_mem hM1.rs (r:=a) (by simp)
  have hw2:IntKind.i64.wrap (((a.es.length:Nat):Int) - 1)=((A.length:Nat):Int):=by rw [i64_wrap (by omega) (by omega)]; omega
  refine ⟨_,rfl,_,_,_,hr3.1.cell (i:=0) rfl,_,rfl,_,rfl,_,_,_,ha3.1.cell (i:=0) rfl,?_⟩
  rw [hw2]
  refine remove_spec (es2:=[]) ha3 hae hv0' rfl (by omega) fun w2 hm2=>⟨_,_,_,_,rfl,?_⟩
  rw [List.append_nil] at hm2
  have hM2:=hM1.trans (Mv.snd hM1.rs hm2)
  have hr4:=rs_mem hM2.rs (r:=r) (by simp)
  refine ⟨hr4.1.cell (i:=0) rfl,c3,hc3,by omega,by omega,ent_set (k':=k') (v':=(.slice up un uc)) hr4 he hi rfl hc3 fun w4 hm4=>?_⟩
  have hM4:=hM2.trans (Mv.fst hM2.rs hm4)
  have ha4:=rs_mem hM4.rs (r:={ a with es:=A }) (by simp)
  refine leaf_spec (r:={ a with es:=A }) ha4 ⟨_,rfl,ifB_mk (fun hl=>?_) (fun hl=>?_)⟩
  ·have hne:a.bs.length≠0:=by simpa using hl
   obtain ⟨x,rfl⟩:∃ x,Z=[x]:=by
    rcases hZ with ⟨h1,h2⟩ | h
    ·rw [hab,h1,h2] at hne; exact absurd rfl hne
    ·exact h
   have hal4:a.bs.length=X.length+1:=by rw [hab]; simp
   have hw3:IntKind.i64.wrap (((a.bs.length:Nat):Int) - 1)=((X.length:Nat):Int):=by rw [i64_wrap (by omega) (by omega)]; omega
   have hM5:=hM4.more (Upd.drew Nothing _)
   have ha5:=rs_mem hM5.rs (r:={ a with es:=A }) (by simp)
   have hb5:=rs_mem hM5.rs (r:={ b with es:=b.es.take 0++(k,.slice vp vn vc) :: b.es.drop 0,ep:=ep,ec:=ec }) (by simp)
   obtain ⟨c5,hc5,hcc5⟩:=ptr_at (bs2:=[]) ha5 hab rfl
   refine ⟨_,rfl,a.bp,a.bs.length,a.bc,ha4.1.cell (i:=1) rfl,?_⟩
   rw [hw3]
   refine ⟨_,rfl,b.bp,b.bs.length,b.bc,hb5.1.cell (i:=1) rfl,_,rfl,a.bp,a.bs.length,a.bc,ha5.1.cell (i:=1) rfl,c5,hc5,by omega,by omega,_,by simpa using hcc5,fun g w6 hN=>⟨(hb5.upd (Upd.new hN:Upd Nothing _ _) fun _ _ f=>f).1.cell (i:=1) rfl,?_⟩⟩
   refine bins_set (r:={ b with es:=b.es.take 0++(k,.slice vp vn vc) :: b.es.drop 0,ep:=ep,ec:=ec }) (bs1:=[]) (bs2:=b.bs) (i:=0) hb5 hN rfl rfl (by show b.bs.length≤1000; omega) fun p c w8 hm8=>?_
   have hM8:=hM5.trans (Mv.thd hM5.rs hm8)
   have ha8:=rs_mem hM8.rs (r:={ a with es:=A }) (by simp)
   have hac:=ha8.2.2.le
   refine ⟨_,rfl,a.bp,a.bs.length,a.bc,ha8.1.cell (i:=1) rfl,by omega,by have:a.bs.length≤a.bc:=hac; omega,_,rfl,?_⟩
   rw [cutAt_zero]
   have hocut:=ha8.2.2.cut (k:=X.length) (d:=a.bc) (by show X.length≤a.bs.length; omega) (by have:a.bs.length≤a.bc:=hac; omega) (Nat.le_refl _)
   have hXe:(pcells a.bs).take (X.length * 1)=pcells X:=by rw [hab]; simp [pcells]
   have hocut':OwnW w8 TT.tq 1 a.bp X.length a.bc (pcells X):=by rw [← hXe]; exact hocut
   refine RecAt.set1' (r:={ a with es:=A }) ha8 (by simp) hocut' fun w9 ha9 hu9 _=>?_
   have hst9:Mv TT w8 w9 [{ a with es:=A }] [{ a with es:=A,bs:=X }]:=Mv.step ha8 ha9 (hu9.mono fun k _ hk=>.inl hk) fun k hk=>.inl hk
   exact hK { r with es:=es1++(k',.slice up un uc) :: es2 } { a with es:=A,bs:=X } { b with es:=b.es.take 0++(k,.slice vp vn vc) :: b.es.drop 0,ep:=ep,ec:=ec,bp:=p,bc:=c,bs:=[]++x :: b.bs } w9 rfl rfl rfl rfl rfl rfl rfl (by simp) rfl (hM8.trans (Mv.snd hM8.rs hst9))
  ·have hz:a.bs.length=0:=by simpa using hl
   have h0:X=[]∧Z=[]:=by
    have:a.bs=[]:=List.length_eq_zero_iff.1 hz
    rw [hab] at this
    exact List.append_eq_nil_iff.1 this
   exact hK { r with es:=es1++(k',.slice up un uc) :: es2 } { a with es:=A } { b with es:=b.es.take 0++(k,.slice vp vn vc) :: b.es.drop 0,ep:=ep,ec:=ec } w4 rfl rfl rfl rfl rfl (by show a.bs=X; rw [hab,h0.1,h0.2]; rfl) rfl (by simp) (by show b.bs=Z++b.bs; rw [h0.2]; rfl) hM4)
theorem all_end {p:Option Addr} {n c:Nat} {es:List Ent} (h:RecAt TT w0 r) (hn:es.length=n) (ho:OwnW w T.tree_entry_s_afflux_api_Value 2 p n c (ecells es)) (hu:Upd (fun k=>Fp r.ep r.ec k) w0 w) (hf:∀ k,Fp p c k→Fp r.ep r.ec k∨w0.heap.size≤k)
  (hK:∀ w',Mv TT w0 w' [r] [{ r with ep:=p,ec:=c,es:=es }]→Q w'):CanSt w ⟨r.a,0,none⟩∧∀ w',w'=w.setCell ⟨r.a,0,none⟩ (.slice p n c)→Q w':=by
 subst hn
 have hb:=hu.blk h.1 fun hk=>h.ae h hk rfl
 refine hb.store (i:=0) (by simp) rfl fun w4 hb4 hu4 hs4=>hK w4 (Mv.step h ⟨hb4,ho.upd hu4 fun k hk e=>?_,(h.2.2.upd hu fun k hk hk'=>h.eb h hk' hk).upd hu4 fun k hk e=>h.ab h hk e⟩ ((hu.then' hu4).mono fun k _ hk=>hk.elim (fun h=>.inr (.inl h)) fun h=>.inl h) fun k hk=>?_)
 ·obtain ⟨l,hb'⟩:=ho.blk hk
  have e':k=r.a:=e
  subst e'
  exact TT.h1 (hb.same hb').2
 ·rcases hk with hk | hk | hk
  ·exact .inl (.inl hk)
  ·rcases hf k hk with h | h
   ·exact .inl (.inr (.inl h))
   ·exact .inr h
  ·exact .inl (.inr (.inr hk))
theorem bapp_set {ys:List Nat} {q:Option Addr} {m d:Nat} (h:RecAt TT w r) (hat:At w q (pcells ys)) (hm:ys.length=m) (hn:r.bs.length≤1000) (hm2:m≤1000) (hK:∀ p c w',Mv TT w w' [r] [{ r with bp:=p,bc:=c,bs:=r.bs++ys }]→Q w') :
  BuiltV prog .append #[T.s_p_tree_page_s_afflux_api_Value,T.s_p_tree_page_s_afflux_api_Value] T.s_p_tree_page_s_afflux_api_Value #[.slice r.bp r.bs.length r.bc,.slice q m d] w (fun v4 wv7=>∃ (r2p:Option Addr) (r2n r2c:Nat),v4 = .slice r2p r2n r2c∧∃ ea7,some (Addr.mk r.a 0 none)=some ea7∧CanSt wv7 (ea7.add 1)∧∀ wv8,wv8=wv7.setCell (ea7.add 1) (.slice r2p r2n r2c)→Q wv8):=by
 refine append_ownW sptr (.inl sptr.desc) h.2.2 (Src.slice (m:=m) hat (by rw [pcells_len,hm,Nat.mul_one]) (pcells_one _)) (by decide) (by decide) (by omega) fun p' c' w3 ho3 hu3 hf3=>⟨_,_,_,rfl,_,rfl,?_⟩
 have hcells:pcells r.bs++pcells ys=pcells (r.bs++ys):=by simp [pcells]
 rw [hcells] at ho3
 exact below_end h (by simp; omega) ho3 hu3 hf3 fun w' hm=>hK p' c' w' hm
theorem eapp_set {ys:List Ent} {q:Option Addr} {m d:Nat} (h:RecAt TT w r) (hat:At w q (ecells ys)) (h1:∀ u∈ecells ys,u.oneCell'=true) (hm:ys.length=m) (hn:r.es.length≤1000) (hm2:m≤1000) (hK:∀ p c w',Mv TT w w' [r] [{ r with ep:=p,ec:=c,es:=r.es++ys }]→Q w') :
  BuiltV prog .append #[T.s_tree_entry_s_afflux_api_Value,T.s_tree_entry_s_afflux_api_Value] T.s_tree_entry_s_afflux_api_Value #[.slice r.ep r.es.length r.ec,.slice q m d] w (fun v4 wv7=>∃ (r2p:Option Addr) (r2n r2c:Nat),v4 = .slice r2p r2n r2c∧∃ ea7,some (Addr.mk r.a 0 none)=some ea7∧CanSt wv7 ((ea7.add 0).add 0)∧∀ wv8,wv8=wv7.setCell ((ea7.add 0).add 0) (.slice r2p r2n r2c)→Q wv8):=by
 refine append_ownW sent (.inl sent.desc) h.2.1 (Src.slice (m:=m) hat (by rw [ecells_len,hm]) h1) (by decide) (by decide) (by omega) fun p' c' w3 ho3 hu3 hf3=>⟨_,_,_,rfl,_,rfl,?_⟩
 rw [← ecells_app] at ho3
 exact all_end h (by simp; omega) ho3 hu3 hf3 fun w' hm=>hK p' c' w' hm
theorem left_spec {k':ByteArray} {v':Value} {B:List Ent} {Y Z:List Nat} (h:RS TT w [r,a,b]) (hv:IsV v) (hv':IsV v') (he:r.es=es1++(k,v) :: es2) (hi:es1.length=i) (hb:r.bs=bs1++a.a :: b.a :: bs2) (hbi:bs1.length=i) (hn:r.bs.length≤100) (hen:r.es.length≤100)
  (hbe:b.es=(k',v') :: B) (hal:a.es.length≤100) (hbl:b.es.length≤100) (hbb:b.bs=Z++Y) (hZ:(Y=[]∧Z=[])∨∃ x,Z=[x]) (ha100:a.bs.length≤100) (hb100:b.bs.length≤100)
  (hK:∀ (r' a' b':Rec) w',r'.a=r.a→r'.es=es1++(k',v') :: es2→r'.bs=r.bs→a'.a=a.a→a'.es=a.es++[(k,v)]→a'.bs=a.bs++Z→b'.a=b.a→b'.es=B→b'.bs=Y→Mv TT w w' [r,a,b] [r',a',b']→K (.tuple #[]) w') :
  Cv F.z158 #[.pointer (some ⟨r.a,0,none⟩),.int .i64 (i:Int)] w K:=by
 have hv0:=hv
 have hv0':=hv'
 obtain ⟨vp,vn,vc,rfl⟩:=hv
 obtain ⟨up,un,uc,rfl⟩:=hv'
 exact R.z158 (by
  unfold C.z158
  have hbl0:r.bs.length=bs1.length+2+bs2.length:=by rw [hb]; simp; omega
  have hel0:r.es.length=es1.length+1+es2.length:=by rw [he]; simp; omega
  have hbl1:b.es.length=B.length+1:=by rw [hbe]; simp
  have hw1:IntKind.i64.wrap ((i:Int)+1)=((i+1:Nat):Int):=by rw [i64_wrap (by omega) (by omega)]; omega
  rw [hw1]
  have hm0:Mv TT w w.drew.drew [r,a,b] [r,a,b]:=Mv.of0 h ((Upd.drew _ _).then (Upd.drew _ _))
  have hmd:Mv TT w w.drew [r,a,b] [r,a,b]:=Mv.of0 h (Upd.drew _ _)
  have hr1:=rs_mem hmd.rs (r:=r) (by simp)
  have hr2:=rs_mem hm0.rs (r:=r) (by simp)
  have ha2:=rs_mem hm0.rs (r:=a) (by simp)
  obtain ⟨c1,hc1,hcc1⟩:=ptr_at hr1 hb hbi
  obtain ⟨c2,hc2,hcc2⟩:=ptr_at (bs1:=bs1++[a.a]) (x:=b.a) (bs2:=bs2) (i:=i+1) hr1 (by rw [hb]; simp) (by simp; omega)
  obtain ⟨c3,hc3,hcc3⟩:=ent_at hr2 he hi
  refine ⟨_,rfl,_,_,_,hr1.1.cell (i:=1) rfl,c1,hc1,by omega,by omega,_,by simpa using hcc1,_,rfl,_,_,_,hr1.1.cell (i:=1) rfl,c2,hc2,by omega,by omega,_,hcc2,_,rfl,_,rfl,_,_,_,ha2.1.cell (i:=0) rfl,_,rfl,_,_,_,hr2.1.cell (i:=0) rfl,c3,hc3,by omega,by omega,_,_,_,_,by simpa using hcc3,?_⟩
  refine insert_spec ha2 hv0 (Nat.le_refl _) (by omega) fun ep ec w1 hm1=>⟨rfl,?_⟩
  have hM1:=(hm0.trans (Mv.snd hm0.rs hm1)).more (Upd.drew Nothing _)
  have hr3:=rs_mem hM1.rs (r:=r) (by simp)
  have hb3:=rs_mem hM1.rs (r:=b) (by simp)
  refine ⟨_,rfl,_,_,_,hr3.1.cell (i:=0) rfl,_,rfl,?_⟩
  refine remove_spec (es1:=[]) (es2:=B) (i:=0) hb3 hbe hv0' rfl (by omega) fun w2 hm2=>⟨_,_,_,_,rfl,?_⟩
  rw [List.nil_append] at hm2
  have hM2:=hM1.trans (Mv.thd hM1.rs hm2)
  have hr4:=rs_mem hM2.rs (r:=r) (by simp)
  refine ⟨hr4.1.cell (i:=0) rfl,c3,hc3,by omega,by omega,ent_set (k':=k') (v':=(.slice up un uc)) hr4 he hi rfl hc3 fun w4 hm4=>?_⟩
  have hM4:=hM2.trans (Mv.fst hM2.rs hm4)
  have hb4:=rs_mem hM4.rs (r:={ b with es:=B }) (by simp)
  refine leaf_spec (r:={ b with es:=B }) hb4 ⟨_,rfl,ifB_mk (fun hl=>?_) (fun hl=>?_)⟩
  ·have hne:b.bs.length≠0:=by simpa using hl
   obtain ⟨x,rfl⟩:∃ x,Z=[x]:=by
    rcases hZ with ⟨h1,h2⟩ | h
    ·rw [hbb,h1,h2] at hne; exact absurd rfl hne
    ·exact h
   have hbl4:b.bs.length=Y.length+1:=by rw [hbb]; simp
   have hM5:=hM4.more (Upd.drew Nothing _)
   have ha5:=rs_mem hM5.rs (r:={ a with es:=a.es.take a.es.length++(k,.slice vp vn vc) :: a.es.drop a.es.length,ep:=ep,ec:=ec }) (by simp)
   have hb5:=rs_mem hM5.rs (r:={ b with es:=B }) (by simp)
   obtain ⟨c5,hc5,hcc5⟩:=ptr_at (bs1:=[]) (x:=x) (bs2:=Y) (i:=0) hb5 hbb rfl
   refine ⟨_,rfl,a.bp,a.bs.length,a.bc,ha5.1.cell (i:=1) rfl,_,rfl,b.bp,b.bs.length,b.bc,hb5.1.cell (i:=1) rfl,c5,hc5,by omega,by omega,_,by simpa using hcc5,New.use (by simp [Value.oneCell']) fun g w6 hg6 hu6 hge6 _=>?_⟩
   have hM6:=hM5.more hu6
   have ha6:=rs_mem hM6.rs (r:={ a with es:=a.es.take a.es.length++(k,.slice vp vn vc) :: a.es.drop a.es.length,ep:=ep,ec:=ec }) (by simp)
   refine ⟨ha6.1.cell (i:=1) rfl,bapp_set (r:={ a with es:=a.es.take a.es.length++(k,.slice vp vn vc) :: a.es.drop a.es.length,ep:=ep,ec:=ec }) (ys:=[x]) ha6 (At.of_blk hg6 fun j v hj=>by rw [Nat.zero_add]; exact hj) rfl (by show a.bs.length≤1000; omega) (by decide) fun p c w8 hm8=>?_⟩
   have hM8:=hM6.trans (Mv.snd hM6.rs hm8)
   have hb8:=rs_mem hM8.rs (r:={ b with es:=B }) (by simp)
   refine ⟨_,rfl,b.bp,b.bs.length,b.bc,hb8.1.cell (i:=1) rfl,bdel_set (r:={ b with es:=B }) (bs1:=[]) (x:=x) (bs2:=Y) (i:=0) (j:=1) hb8 hbb rfl rfl (by show b.bs.length≤1000; omega) fun w10 hm10=>?_⟩
   exact hK { r with es:=es1++(k',.slice up un uc) :: es2 } { a with es:=a.es.take a.es.length++(k,.slice vp vn vc) :: a.es.drop a.es.length,ep:=ep,ec:=ec,bp:=p,bc:=c,bs:=a.bs++[x] } { b with es:=B,bs:=[]++Y } w10 rfl rfl rfl rfl (by simp) rfl rfl rfl rfl (hM8.trans (Mv.thd hM8.rs hm10))
  ·have hz:b.bs.length=0:=by simpa using hl
   have h0:Z=[]∧Y=[]:=by
    have:b.bs=[]:=List.length_eq_zero_iff.1 hz
    rw [hbb] at this
    exact List.append_eq_nil_iff.1 this
   exact hK { r with es:=es1++(k',.slice up un uc) :: es2 } { a with es:=a.es.take a.es.length++(k,.slice vp vn vc) :: a.es.drop a.es.length,ep:=ep,ec:=ec } { b with es:=B } w4 rfl rfl rfl rfl (by simp) (by show a.bs=a.bs++Z; rw [h0.1]; simp) rfl rfl (by show b.bs=Y; rw [hbb,h0.1]; rfl) hM4)
theorem join_spec {B:List Ent} {Y:List Nat} (h:RS TT w [r,a,b]) (hv:IsV v) (he:r.es=es1++(k,v) :: es2) (hi:es1.length=i) (hb:r.bs=bs1++a.a :: b.a :: bs2) (hbi:bs1.length=i) (hn:r.bs.length≤100) (hen:r.es.length≤100)
  (hbe:b.es=B) (hal:a.es.length≤100) (hbl:b.es.length≤100) (hbb:b.bs=Y) (ha100:a.bs.length≤100) (hb100:b.bs.length≤100)
  (hK:∀ (r' a':Rec) w',r'.a=r.a→r'.es=es1++es2→r'.bs=bs1++a.a :: bs2→a'.a=a.a→a'.es=a.es++(k,v) :: B→a'.bs=a.bs++Y→Mv TT w w' [r,a,b] [r',a']→K (.tuple #[]) w') :
  Cv F.z155 #[.pointer (some ⟨r.a,0,none⟩),.int .i64 (i:Int)] w K:=by
 have hv0:=hv
 obtain ⟨vp,vn,vc,rfl⟩:=hv
 subst hbe
 subst hbb
 exact R.z155 (by
  unfold C.z155
  have hbl0:r.bs.length=bs1.length+2+bs2.length:=by rw [hb]; simp; omega
  have hel0:r.es.length=es1.length+1+es2.length:=by rw [he]; simp; omega
  have hw1:IntKind.i64.wrap ((i:Int)+1)=((i+1:Nat):Int):=by rw [i64_wrap (by omega) (by omega)]; omega
  have hw2:IntKind.i64.wrap ((i:Int)+2)=((i+1+1:Nat):Int):=by rw [i64_wrap (by omega) (by omega)]; omega
  rw [hw1,hw2]
  have hm0:Mv TT w w.drew.drew [r,a,b] [r,a,b]:=Mv.of0 h ((Upd.drew _ _).then (Upd.drew _ _))
  have hmd:Mv TT w w.drew [r,a,b] [r,a,b]:=Mv.of0 h (Upd.drew _ _)
  have hr1:=rs_mem hmd.rs (r:=r) (by simp)
  have hr2:=rs_mem hm0.rs (r:=r) (by simp)
  have ha2:=rs_mem hm0.rs (r:=a) (by simp)
  obtain ⟨c1,hc1,hcc1⟩:=ptr_at hr1 hb hbi
  obtain ⟨c2,hc2,hcc2⟩:=ptr_at (bs1:=bs1++[a.a]) (x:=b.a) (bs2:=bs2) (i:=i+1) hr1 (by rw [hb]; simp) (by simp; omega)
  refine ⟨_,rfl,_,_,_,hr1.1.cell (i:=1) rfl,c1,hc1,by omega,by omega,_,by simpa using hcc1,_,rfl,_,_,_,hr1.1.cell (i:=1) rfl,c2,hc2,by omega,by omega,_,hcc2,_,rfl,_,rfl,_,_,_,ha2.1.cell (i:=0) rfl,_,rfl,?_⟩
  refine remove_spec hr2 he hv0 hi (by omega) fun w1 hm1=>⟨_,_,_,_,rfl,?_⟩
  have hM1:=hm0.trans (Mv.fst hm0.rs hm1)
  have ha3:=rs_mem hM1.rs (r:=a) (by simp)
  refine ⟨ha3.1.cell (i:=0) rfl,insert_spec ha3 hv0 (Nat.le_refl _) (by omega) fun ep ec w2 hm2=>⟨rfl,?_⟩⟩
  have hM2:=(hM1.trans (Mv.snd hM1.rs hm2)).more (Upd.drew Nothing _)
  have ha4:=rs_mem hM2.rs (r:={ a with es:=a.es.take a.es.length++(k,.slice vp vn vc) :: a.es.drop a.es.length,ep:=ep,ec:=ec }) (by simp)
  have hb4:=rs_mem hM2.rs (r:=b) (by simp)
  have hlen:(a.es.take a.es.length++(k,.slice vp vn vc) :: a.es.drop a.es.length).length=a.es.length+1:=by simp
  refine ⟨_,rfl,ep,(a.es.take a.es.length++(k,.slice vp vn vc) :: a.es.drop a.es.length).length,ec,ha4.1.cell (i:=0) rfl,_,rfl,b.ep,b.es.length,b.ec,hb4.1.cell (i:=0) rfl,?_⟩
  refine eapp_set (r:={ a with es:=a.es.take a.es.length++(k,.slice vp vn vc) :: a.es.drop a.es.length,ep:=ep,ec:=ec }) (ys:=b.es) ha4 hb4.2.1.at hb4.2.1.one rfl (by show (a.es.take a.es.length++(k,.slice vp vn vc) :: a.es.drop a.es.length).length≤1000; omega) (by omega) fun p3 q3 w4 hm4=>?_
  have hM4:=(hM2.trans (Mv.snd hM2.rs hm4)).more (Upd.drew Nothing _)
  have ha5:=rs_mem hM4.rs (r:={ a with es:=(a.es.take a.es.length++(k,.slice vp vn vc) :: a.es.drop a.es.length)++b.es,ep:=p3,ec:=q3 }) (by simp)
  have hb5:=rs_mem hM4.rs (r:=b) (by simp)
  refine ⟨_,rfl,a.bp,a.bs.length,a.bc,ha5.1.cell (i:=1) rfl,_,rfl,b.bp,b.bs.length,b.bc,hb5.1.cell (i:=1) rfl,?_⟩
  refine bapp_set (r:={ a with es:=(a.es.take a.es.length++(k,.slice vp vn vc) :: a.es.drop a.es.length)++b.es,ep:=p3,ec:=q3 }) (ys:=b.bs) ha5 hb5.2.2.at rfl (by show a.bs.length≤1000; omega) (by omega) fun p5 q5 w6 hm6=>?_
  have hM6:=hM4.trans (Mv.snd hM4.rs hm6)
  have hr6:=rs_mem hM6.rs (r:={ r with es:=es1++es2 }) (by simp)
  refine ⟨_,rfl,r.bp,r.bs.length,r.bc,hr6.1.cell (i:=1) rfl,bdel_set (r:={ r with es:=es1++es2 }) (bs1:=bs1++[a.a]) (x:=b.a) (bs2:=bs2) (i:=i+1) (j:=i+1+1) hr6 (by show r.bs=_; rw [hb]; simp) (by simp; omega) rfl (by show r.bs.length≤1000; omega) fun w8 hm8=>?_⟩
  have hM8:=hM6.trans (Mv.fst hM6.rs hm8)
  exact hK { r with es:=es1++es2,bs:=bs1++[a.a]++bs2 } { a with es:=(a.es.take a.es.length++(k,.slice vp vn vc) :: a.es.drop a.es.length)++b.es,ep:=p3,ec:=q3,bp:=p5,bc:=q5,bs:=a.bs++b.bs } w8 rfl rfl (by simp) rfl (by simp) rfl (Mv.drop (A':=[_,_]) (B:=[b]) hM8))
end
end Tv
end Go.Proofs.YtjcgociobhhijaaGreatDoor
namespace Go.Proofs.YtjcgociobhhijaaGreatDoor
open Go SX Bt
namespace Tv
section
variable {w:World} {K:Value→World→Prop} {r:Rec} {k:ByteArray} {j h lo:Nat} {v:Value} {fs1 fs2:List Ent} {ds1 ds2:List (Pg h)} {x y:Pg h}
theorem pair_perm {r:Rec} {x y:Pg h}:(recs (h+1) (r,ds1++x :: y :: ds2)).Perm ([r,root h x,root h y]++(subs h x++subs h y++(ds1.flatMap (recs h)++ds2.flatMap (recs h)))):=by
 rw [recs_node,List.flatMap_append,List.flatMap_cons,List.flatMap_cons]
 exact (perm_two _ _ _ _ _ _).cons r
theorem pair_bs (hb:r.bs=(ds1++x :: y :: ds2).map fun c=>(root h c).a):r.bs=ds1.map (fun c=>(root h c).a)++(root h x).a :: (root h y).a :: ds2.map (fun c=>(root h c).a):=by rw [hb]; simp
theorem pair_toL (he:r.es=fs1++(k,v) :: fs2) (h1:fs1.length=j) (h2:ds1.length=j):toL (h+1) (r,ds1++x :: y :: ds2)=lw fs1 (ds1.map (toL h))++(toL h x++(k,v) :: toL h y)++rw' fs2 (ds2.map (toL h)):=by
 rw [toL_node,he,List.map_append,List.map_cons,List.map_cons]
 exact weave_two (by rw [List.length_map,h2,h1])
theorem pair_right {lx ly:Nat} (hR:RS TT w (recs (h+1) (r,ds1++x :: y :: ds2))) (hb:r.bs=(ds1++x :: y :: ds2).map fun c=>(root h c).a) (hl:(ds1++x :: y :: ds2).length=r.es.length+1) (he:r.es=fs1++(k,v) :: fs2) (h1:fs1.length=j) (h2:ds1.length=j) (hV:∀ e∈toL (h+1) (r,ds1++x :: y :: ds2),IsV e.2)
  (hox:Ok h lx 5 x) (hoy:Ok h ly 5 y) (hx3:3≤(root h x).es.length) (hy1:(root h y).es.length=1) (hd1:∀ c∈ds1,Ok h 2 5 c) (hd2:∀ c∈ds2,Ok h 2 5 c) (hlo:lo≤r.es.length) (h5:r.es.length≤5)
  (hbl:∀ p:Pg h,(∃ l,Ok h l 5 p)→(root h p).bs.length≤100)
  (hK:∀ p' w',Ok (h+1) lo 5 p'→(root (h+1) p').a=r.a→toL (h+1) p'=toL (h+1) (r,ds1++x :: y :: ds2)→Mv TT w w' (recs (h+1) (r,ds1++x :: y :: ds2)) (recs (h+1) p')→K (.tuple #[]) w') :
  Cv F.z161 #[.pointer (some ⟨r.a,0,none⟩),.int .i64 (j:Int)] w K:=by
 have hT:=pair_toL (x:=x) (y:=y) (ds2:=ds2) he h1 h2
 have hx5:=hox.root_len.2
 obtain ⟨A,k',v',X,Z,hA,hX,hZ,hlaw⟩:=movR_law hox hoy hx3 hx5 (by omega) (by omega)
 have hv:IsV v:=hV (k,v) (by rw [hT]; simp)
 have hv':IsV v':=hV (k',v') (by
  rw [hT]
  have:(k',v')∈toL h x:=(root_sub hox).subset (by rw [hA]; simp)
  simp [this])
 have hRp:=hR.perm pair_perm
 have hrl:r.bs.length≤100:=by rw [hb,List.length_map,hl]; omega
 refine right_spec (a:=root h x) (b:=root h y) (RS.app.1 hRp).1 hv hv' he h1 (pair_bs hb) (by rw [List.length_map,h2]) hrl (by omega) hA (by omega) (by omega) hX hZ (hbl x ⟨_,hox⟩) (hbl y ⟨_,hoy⟩) fun r' a' b' w' k1 k2 k3 k4 k5 k6 k7 k8 k9 hm=>?_
 obtain ⟨m1,m2,m3,m4,m5,m6⟩:=hlaw a' b' (k,v) k5 k6 k8 k9
 have hel:r'.es.length=r.es.length:=by rw [k2,he]; simp
 have hpm:(recs (h+1) (r',ds1++movRx h x a' :: movRy h x y b' :: ds2)).Perm ([r',a',b']++(subs h x++subs h y++(ds1.flatMap (recs h)++ds2.flatMap (recs h)))):=by
  rw [m6]
  have:=pair_perm (r:=r') (ds1:=ds1) (ds2:=ds2) (x:=movRx h x a') (y:=movRy h x y b')
  rw [m4,m5] at this
  exact this
 refine hK (r',ds1++movRx h x a' :: movRy h x y b' :: ds2) w' ⟨?_,?_,by show lo≤r'.es.length; omega,by show r'.es.length≤5; omega,fun c hc=>?_⟩ k1 ?_ ((hm.frame hRp).perm pair_perm.symm hpm.symm)
 ·show r'.bs=_
  rw [k3,pair_bs hb,List.map_append,List.map_cons,List.map_cons,m4,m5,k4,k7]
 ·show (ds1++movRx h x a' :: movRy h x y b' :: ds2).length=r'.es.length+1
  rw [hel,← hl]; simp
 ·rcases List.mem_append.1 hc with hc | hc
  ·exact hd1 c hc
  ·rcases List.mem_cons.1 hc with rfl | hc
   ·exact m2
   ·rcases List.mem_cons.1 hc with rfl | hc
    ·exact m3
    ·exact hd2 c hc
 ·rw [hT,m1]
  exact pair_toL k2 h1 h2
theorem pair_left {lx ly:Nat} (hR:RS TT w (recs (h+1) (r,ds1++x :: y :: ds2))) (hb:r.bs=(ds1++x :: y :: ds2).map fun c=>(root h c).a) (hl:(ds1++x :: y :: ds2).length=r.es.length+1) (he:r.es=fs1++(k,v) :: fs2) (h1:fs1.length=j) (h2:ds1.length=j) (hV:∀ e∈toL (h+1) (r,ds1++x :: y :: ds2),IsV e.2)
  (hox:Ok h lx 5 x) (hoy:Ok h ly 5 y) (hy3:3≤(root h y).es.length) (hx1:(root h x).es.length=1) (hd1:∀ c∈ds1,Ok h 2 5 c) (hd2:∀ c∈ds2,Ok h 2 5 c) (hlo:lo≤r.es.length) (h5:r.es.length≤5)
  (hbl:∀ p:Pg h,(∃ l,Ok h l 5 p)→(root h p).bs.length≤100)
  (hK:∀ p' w',Ok (h+1) lo 5 p'→(root (h+1) p').a=r.a→toL (h+1) p'=toL (h+1) (r,ds1++x :: y :: ds2)→Mv TT w w' (recs (h+1) (r,ds1++x :: y :: ds2)) (recs (h+1) p')→K (.tuple #[]) w') :
  Cv F.z158 #[.pointer (some ⟨r.a,0,none⟩),.int .i64 (j:Int)] w K:=by
 have hT:=pair_toL (x:=x) (y:=y) (ds2:=ds2) he h1 h2
 have hy5:=hoy.root_len.2
 obtain ⟨k',v',B,Z,Y,hB,hY,hZ,hlaw⟩:=movL_law hox hoy hy3 hy5 (by omega) (by omega)
 have hv:IsV v:=hV (k,v) (by rw [hT]; simp)
 have hv':IsV v':=hV (k',v') (by
  rw [hT]
  have:(k',v')∈toL h y:=(root_sub hoy).subset (by rw [hB]; simp)
  simp [this])
 have hRp:=hR.perm pair_perm
 have hrl:r.bs.length≤100:=by rw [hb,List.length_map,hl]; omega
 refine left_spec (a:=root h x) (b:=root h y) (RS.app.1 hRp).1 hv hv' he h1 (pair_bs hb) (by rw [List.length_map,h2]) hrl (by omega) hB (by omega) (by omega) hY hZ (hbl x ⟨_,hox⟩) (hbl y ⟨_,hoy⟩) fun r' a' b' w' k1 k2 k3 k4 k5 k6 k7 k8 k9 hm=>?_
 obtain ⟨m1,m2,m3,m4,m5,m6⟩:=hlaw a' b' (k,v) k5 k6 k8 k9
 have hel:r'.es.length=r.es.length:=by rw [k2,he]; simp
 have hpm:(recs (h+1) (r',ds1++movLx h x y a' :: movLy h y b' :: ds2)).Perm ([r',a',b']++(subs h x++subs h y++(ds1.flatMap (recs h)++ds2.flatMap (recs h)))):=by
  rw [m6]
  have:=pair_perm (r:=r') (ds1:=ds1) (ds2:=ds2) (x:=movLx h x y a') (y:=movLy h y b')
  rw [m4,m5] at this
  exact this
 refine hK (r',ds1++movLx h x y a' :: movLy h y b' :: ds2) w' ⟨?_,?_,by show lo≤r'.es.length; omega,by show r'.es.length≤5; omega,fun c hc=>?_⟩ k1 ?_ ((hm.frame hRp).perm pair_perm.symm hpm.symm)
 ·show r'.bs=_
  rw [k3,pair_bs hb,List.map_append,List.map_cons,List.map_cons,m4,m5,k4,k7]
 ·show (ds1++movLx h x y a' :: movLy h y b' :: ds2).length=r'.es.length+1
  rw [hel,← hl]; simp
 ·rcases List.mem_append.1 hc with hc | hc
  ·exact hd1 c hc
  ·rcases List.mem_cons.1 hc with rfl | hc
   ·exact m2
   ·rcases List.mem_cons.1 hc with rfl | hc
    ·exact m3
    ·exact hd2 c hc
 ·rw [hT,m1]
  exact pair_toL k2 h1 h2
theorem pair_join {lx ly:Nat} (hR:RS TT w (recs (h+1) (r,ds1++x :: y :: ds2))) (hb:r.bs=(ds1++x :: y :: ds2).map fun c=>(root h c).a) (hl:(ds1++x :: y :: ds2).length=r.es.length+1) (he:r.es=fs1++(k,v) :: fs2) (h1:fs1.length=j) (h2:ds1.length=j) (hV:∀ e∈toL (h+1) (r,ds1++x :: y :: ds2),IsV e.2)
  (hox:Ok h lx 5 x) (hoy:Ok h ly 5 y) (hxy:(root h x).es.length+(root h y).es.length≤4) (hxy1:1≤(root h x).es.length+(root h y).es.length) (hd1:∀ c∈ds1,Ok h 2 5 c) (hd2:∀ c∈ds2,Ok h 2 5 c) (hlo:lo+1≤r.es.length) (h5:r.es.length≤5)
  (hbl:∀ p:Pg h,(∃ l,Ok h l 5 p)→(root h p).bs.length≤100)
  (hK:∀ p' w',Ok (h+1) lo 5 p'→(root (h+1) p').a=r.a→toL (h+1) p'=toL (h+1) (r,ds1++x :: y :: ds2)→Mv TT w w' (recs (h+1) (r,ds1++x :: y :: ds2)) (recs (h+1) p')→K (.tuple #[]) w') :
  Cv F.z155 #[.pointer (some ⟨r.a,0,none⟩),.int .i64 (j:Int)] w K:=by
 have hT:=pair_toL (x:=x) (y:=y) (ds2:=ds2) he h1 h2
 have hv:IsV v:=hV (k,v) (by rw [hT]; simp)
 have hRp:=hR.perm pair_perm
 have hrl:r.bs.length≤100:=by rw [hb,List.length_map,hl]; omega
 refine join_spec (a:=root h x) (b:=root h y) (RS.app.1 hRp).1 hv he h1 (pair_bs hb) (by rw [List.length_map,h2]) hrl (by omega) rfl (by omega) (by omega) rfl (hbl x ⟨_,hox⟩) (hbl y ⟨_,hoy⟩) fun r' a' w' k1 k2 k3 k4 k5 k6 hm=>?_
 have ha5:a'.es.length=(root h x).es.length+1+(root h y).es.length:=by rw [k5]; simp; omega
 obtain ⟨m1,m2,m4,m6⟩:=cat_law hox hoy k5 k6 (by omega) (by omega)
 have hel:r'.es.length+1=r.es.length:=by rw [k2,he]; simp; omega
 have hpm:(recs (h+1) (r',ds1++catP h x y a' :: ds2)).Perm ([r',a']++(subs h x++subs h y++(ds1.flatMap (recs h)++ds2.flatMap (recs h)))):=by
  rw [recs_node,List.flatMap_append,List.flatMap_cons]
  show (r' :: (ds1.flatMap (recs h)++((root h (catP h x y a') :: subs h (catP h x y a'))++ds2.flatMap (recs h)))).Perm _
  rw [m4,m6]
  have e:(ds1.flatMap (recs h)++((a' :: (subs h x++subs h y))++ds2.flatMap (recs h))).Perm ((a' :: (subs h x++subs h y))++(ds1.flatMap (recs h)++ds2.flatMap (recs h))):=by
   rw [← List.append_assoc,← List.append_assoc]
   exact List.Perm.append_right _ List.perm_append_comm
  exact e.cons r'
 refine hK (r',ds1++catP h x y a' :: ds2) w' ⟨?_,?_,by show lo≤r'.es.length; omega,by show r'.es.length≤5; omega,fun c hc=>?_⟩ k1 ?_ ((hm.frame hRp).perm pair_perm.symm hpm.symm)
 ·show r'.bs=_
  rw [k3,List.map_append,List.map_cons,m4,k4]
 ·show (ds1++catP h x y a' :: ds2).length=r'.es.length+1
  have:(ds1++x :: y :: ds2).length=(ds1++catP h x y a' :: ds2).length+1:=by simp; omega
  omega
 ·rcases List.mem_append.1 hc with hc | hc
  ·exact hd1 c hc
  ·rcases List.mem_cons.1 hc with rfl | hc
   ·exact m2
   ·exact hd2 c hc
 ·rw [hT,toL_node,k2,List.map_append,List.map_cons,← m1]
  exact weave_mid (by rw [List.length_map,h2,h1])
theorem bs_len:∀ {h l:Nat} {p:Pg h},Ok h l 5 p→(root h p).bs.length≤100
 | 0,_,p,ho=>by rw [show (root 0 p).bs=[] from ho.1]; simp
 | h+1,_,(r,cs),ho=>by
  have h1:r.bs=cs.map fun c=>(root h c).a:=ho.1
  have h2:cs.length=r.es.length+1:=ho.2.1
  have h3:r.es.length≤5:=ho.2.2.2.1
  show r.bs.length≤100
  rw [h1,List.length_map]; omega
theorem kid_rec {r:Rec} {cs:List (Pg h)} {c:Pg h} (hR:RS TT w (recs (h+1) (r,cs))) (hc:c∈cs):RecAt TT w (root h c):=hR.1 _ (by
 rw [recs_node]
 exact List.mem_cons_of_mem _ (List.mem_flatMap.2 ⟨c,hc,by simp [recs]⟩))
theorem es_at {es:List Ent} {j:Nat} (h:j < es.length):∃ fs1 k v fs2,es=fs1++(k,v) :: fs2∧fs1.length=j:=⟨es.take j,es[j].1,es[j].2,es.drop (j+1),by
 show es=es.take j++es[j] :: _
 rw [← List.drop_eq_getElem_cons h,List.take_append_drop],by rw [List.length_take]; omega⟩
theorem mend_spec {c:Pg h} {cs1 cs2:List (Pg h)} {i:Nat} (hR:RS TT w (recs (h+1) (r,cs1++c :: cs2))) (hb:r.bs=(cs1++c :: cs2).map fun c=>(root h c).a) (hl:(cs1++c :: cs2).length=r.es.length+1) (hi:cs1.length=i) (hV:∀ e∈toL (h+1) (r,cs1++c :: cs2),IsV e.2)
  (hoc:Ok h 1 5 c) (hd1:∀ x∈cs1,Ok h 2 5 x) (hd2:∀ x∈cs2,Ok h 2 5 x) (hlo:lo+1≤r.es.length) (h5:r.es.length≤5)
  (hK:∀ p' w',Ok (h+1) lo 5 p'→(root (h+1) p').a=r.a→toL (h+1) p'=toL (h+1) (r,cs1++c :: cs2)→Mv TT w w' (recs (h+1) (r,cs1++c :: cs2)) (recs (h+1) p')→K (.tuple #[]) w') :
  Cv F.z159 #[.pointer (some ⟨r.a,0,none⟩),.int .i64 (i:Int)] w K:=
 R.z159 (by
  unfold C.z159
  have hr:RecAt TT w r:=(RS.cons.1 hR).1
  have hcr:=kid_rec hR (c:=c) (by simp)
  have hrl:r.bs.length=cs1.length+1+cs2.length:=by rw [hb]; simp; omega
  have hrl2:cs1.length+1+cs2.length=r.es.length+1:=by rw [← hl]; simp; omega
  obtain ⟨a,ha,hca⟩:=ptr_at (bs1:=cs1.map fun c=>(root h c).a) (x:=(root h c).a) (bs2:=cs2.map fun c=>(root h c).a) (i:=i) hr (by rw [hb]; simp) (by rw [List.length_map,hi])
  have hc1:=hoc.root_len
  refine ⟨_,rfl,_,_,_,hr.1.cell (i:=1) rfl,a,ha,by omega,by omega,_,by simpa using hca,_,rfl,_,_,_,hcr.1.cell (i:=0) rfl,ifB_mk (fun h2=>?_) (fun h2=>?_)⟩
  ·have h2':2≤(root h c).es.length:=by have:=of_decide_eq_true h2; omega
   refine hK (r,cs1++c :: cs2) w ⟨hb,hl,by show lo≤r.es.length; omega,h5,fun x hx=>?_⟩ rfl rfl (Mv.refl hR)
   rcases List.mem_append.1 hx with hx | hx
   ·exact hd1 x hx
   ·rcases List.mem_cons.1 hx with rfl | hx
    ·exact hoc.mono h2' hc1.2
    ·exact hd2 x hx
  ·have hc1':(root h c).es.length=1:=by have:=of_decide_eq_false h2; omega
   have hbl:∀ p:Pg h,(∃ l,Ok h l 5 p)→(root h p).bs.length≤100:=fun p ⟨l,hp⟩=>bs_len hp
   have hahead:0 < i→∃ ds x,cs1=ds++[x]∧ds.length=i - 1:=fun h0=>by
    obtain ⟨X,z,hX,lX,_⟩:=dropLast_at (l:=cs1) (n:=i - 1) (by omega)
    exact ⟨X,z,hX,lX⟩
   have hwm:0 < i→IntKind.i64.wrap ((i:Int) - 1)=((i - 1:Nat):Int):=fun h0=>by rw [i64_wrap (by omega) (by omega)]; omega
   have hjoin1:0 < i→(∀ ds x,cs1=ds++[x]→(root h x).es.length≤2)→Cv F.z155 #[.pointer (some ⟨r.a,0,none⟩),.int .i64 (IntKind.i64.wrap ((i:Int) - 1))] w fun v3 wv4=>v3 = .tuple #[]∧K (.tuple #[]) wv4:=fun h0 hs=>by
    obtain ⟨ds,x,rfl,hds⟩:=hahead h0
    have e:ds++[x]++c :: cs2=ds++x :: c :: cs2:=by simp
    rw [e] at hR hb hl hV hK
    rw [hwm h0]
    obtain ⟨fs1,k,v,fs2,he,h1⟩:=es_at (es:=r.es) (j:=i - 1) (by omega)
    exact pair_join (lo:=lo) hR hb hl he h1 hds hV (hd1 x (by simp)) hoc (by have:=hs ds x rfl; omega) (by omega) (fun d hd=>hd1 d (by simp [hd])) hd2 hlo h5 hbl fun p' w' a b c d=>⟨rfl,hK p' w' a b c d⟩
   have hjoin2:i=0→(∀ y ds,cs2=y :: ds→(root h y).es.length≤2)→Cv F.z155 #[.pointer (some ⟨r.a,0,none⟩),.int .i64 (i:Int)] w fun v3 wv4=>v3 = .tuple #[]∧K (.tuple #[]) wv4:=fun h0 hs=>by
    obtain ⟨y,ds,rfl⟩:=List.exists_cons_of_ne_nil (show cs2≠[] from fun h=>by rw [h] at hrl2; simp at hrl2; omega)
    obtain ⟨fs1,k,v,fs2,he,h1⟩:=es_at (es:=r.es) (j:=i) (by omega)
    exact pair_join (lo:=lo) hR hb hl he h1 hi hV hoc (hd2 y (by simp)) (by have:=hs y ds rfl; omega) (by omega) hd1 (fun d hd=>hd2 d (by simp [hd])) hlo h5 hbl fun p' w' a b c d=>⟨rfl,hK p' w' a b c d⟩
   refine ⟨fun s w'=>w'=w∧(s=true→0 < i∧∀ ds x,cs1=ds++[x]→3≤(root h x).es.length)∧(s=false→∀ ds x,cs1=ds++[x]→(root h x).es.length≤2),?_,?_⟩
   ·refine ifB_mk (fun h0=>?_) (fun h0=>⟨rfl,fun h=>by (cases h),fun _ ds x hx=>?_⟩)
    ·have h0':0 < i:=by have:=of_decide_eq_true h0; omega
     obtain ⟨ds,x,hcs,hds⟩:=hahead h0'
     have hxr:=kid_rec hR (c:=x) (by rw [hcs]; simp)
     obtain ⟨a2,ha2,hca2⟩:=ptr_at (bs1:=ds.map fun c=>(root h c).a) (x:=(root h x).a) (bs2:=(c :: cs2).map fun c=>(root h c).a) (i:=i - 1) hr (by rw [hb,hcs]; simp) (by rw [List.length_map,hds])
     rw [hwm h0']
     have huniq:∀ ds' x',cs1=ds'++[x']→x'=x:=fun ds' x' hx=>by
      rw [hcs] at hx
      have:=List.append_inj_right' hx rfl
      simpa using this.symm
     refine ⟨_,rfl,_,_,_,hr.1.cell (i:=1) rfl,a2,ha2,by omega,by omega,_,by simpa using hca2,_,rfl,_,_,_,hxr.1.cell (i:=0) rfl,rfl,fun hs=>⟨h0',fun ds' x' hx=>?_⟩,fun hs ds' x' hx=>?_⟩
     ·rw [huniq ds' x' hx]; have:=of_decide_eq_true hs; omega
     ·rw [huniq ds' x' hx]; have:=of_decide_eq_false hs; omega
    ·have h0':i=0:=by have:=of_decide_eq_false h0; omega
     rw [hx] at hi
     simp at hi
     omega
   ·rintro s w' ⟨rfl,hs1,hs2⟩
    refine ifB_mk (fun hh=>?_) (fun hh=>?_)
    ·obtain ⟨h0,hs⟩:=hs1 hh
     obtain ⟨ds,x,rfl,hds⟩:=hahead h0
     have e:ds++[x]++c :: cs2=ds++x :: c :: cs2:=by simp
     rw [e] at hR hb hl hV hK
     rw [hwm h0]
     obtain ⟨fs1,k,v,fs2,he,h1⟩:=es_at (es:=r.es) (j:=i - 1) (by omega)
     exact pair_right (lo:=lo) hR hb hl he h1 hds hV (hd1 x (by simp)) hoc (hs ds x rfl) hc1' (fun d hd=>hd1 d (by simp [hd])) hd2 (by omega) h5 hbl fun p' w' a b c d=>⟨rfl,hK p' w' a b c d⟩
    ·have hs:=hs2 hh
     have hwl:IntKind.i64.wrap (((r.bs.length:Nat):Int) - 1)=((r.bs.length - 1:Nat):Int):=by rw [i64_wrap (by omega) (by omega)]; omega
     have hwp:IntKind.i64.wrap ((i:Int)+1)=((i+1:Nat):Int):=by rw [i64_wrap (by omega) (by omega)]; omega
     refine ⟨_,rfl,_,_,_,hr.1.cell (i:=1) rfl,?_⟩
     rw [hwl,hwp]
     refine ifB_mk (fun h3=>?_) (fun h3=>?_)
     ·have hlt:i < r.bs.length - 1:=by have:=of_decide_eq_true h3; omega
      obtain ⟨y,ds,rfl⟩:=List.exists_cons_of_ne_nil (show cs2≠[] from fun h=>by rw [h] at hrl; simp at hrl; omega)
      have hyr:=kid_rec hR (c:=y) (by simp)
      obtain ⟨a2,ha2,hca2⟩:=ptr_at (bs1:=(cs1++[c]).map fun c=>(root h c).a) (x:=(root h y).a) (bs2:=ds.map fun c=>(root h c).a) (i:=i+1) hr (by rw [hb]; simp) (by rw [List.length_map,List.length_append,hi]; rfl)
      refine ⟨_,rfl,_,_,_,hr.1.cell (i:=1) rfl,a2,ha2,by omega,by omega,_,hca2,_,rfl,_,_,_,hyr.1.cell (i:=0) rfl,ifB_mk (fun h4=>?_) (fun h4=>?_)⟩
      ·obtain ⟨fs1,k,v,fs2,he,h1⟩:=es_at (es:=r.es) (j:=i) (by simp at hrl2; omega)
       exact pair_left (lo:=lo) hR hb hl he h1 hi hV hoc (hd2 y (by simp)) (by have:=of_decide_eq_true h4; omega) hc1' hd1 (fun d hd=>hd2 d (by simp [hd])) (by omega) h5 hbl fun p' w' a b c d=>⟨rfl,hK p' w' a b c d⟩
      ·refine ifB_mk (fun h6=>hjoin1 (by have:=of_decide_eq_true h6; omega) hs) (fun h6=>hjoin2 (by have:=of_decide_eq_false h6; omega) fun y' ds' hy=>?_)
       injection hy with hy _
       rw [← hy]
       have:=of_decide_eq_false h4; omega
     ·have hge:¬ i < r.bs.length - 1:=by have:=of_decide_eq_false h3; omega
      have h0:0 < i:=by omega
      exact ifB_mk (fun _=>hjoin1 h0 hs) (fun h6=>by have:=of_decide_eq_false h6; omega))
end
end Tv
end Go.Proofs.YtjcgociobhhijaaGreatDoor
namespace Go.Proofs.YtjcgociobhhijaaGreatDoor
open Go SX Bt
namespace Tv
theorem mv_fresh {w w' w'':World} {A A':List Rec} {b:Nat} (hA:RS TT w A) (h:Mv TT w w' A A') (hb:w.heap.size≤b) (hn:¬ FPs A' b) (hu:Upd (SX.One b) w' w''):Mv TT w w'' A A':=⟨h.rs.upd hu fun k hk e=>hn (by rw [show b=k from (show k=b from e).symm]; exact hk),h.upd.fresh hu fun i hi=>by rw [show i=b from hi]; exact hb,h.fresh⟩
theorem last_spec:∀ (h:Nat) {p:Pg h} {lo:Nat} {w:World} {K:Value→World→Prop},Ok h (lo+1) 5 p→(∀ e∈toL h p,IsV e.2)→RS TT w (recs h p)→
  (∀ p' k v w',Ok h lo 5 p'→(root h p').a=(root h p).a→toL h p=toL h p'++[(k,v)]→IsV v→Mv TT w w' (recs h p) (recs h p')→K (.agg #[.string k,v]) w')→Cv F.z156 #[.pointer (some ⟨(root h p).a,0,none⟩)] w K:=by
 intro h
 induction h with
 | zero=>
  intro (p:Rec) lo w K ho hV hR hK
  have hr:RecAt TT w p:=RS.one.1 hR
  have hlo:lo+1≤p.es.length:=ho.2.1
  have h5:p.es.length≤5:=ho.2.2
  obtain ⟨A,⟨k,v⟩,hA,lA,_⟩:=dropLast_at (l:=p.es) (n:=p.es.length - 1) (by omega)
  have hv:IsV v:=hV (k,v) (by show (k,v)∈p.es; rw [hA]; simp)
  have hv0:=hv
  obtain ⟨vp,vn,vc,rfl⟩:=hv
  show Cv F.z156 #[.pointer (some ⟨p.a,0,none⟩)] w K
  refine R.z156 (by
   unfold C.z156
   refine New.use (by simp [Value.oneCell']) fun b1 w1 hb1 hu1 hge1 _=>?_
   have hr1:RecAt TT w1 p:=hr.upd hu1 fun _ _ f=>f
   refine leaf_spec hr1 ⟨_,rfl,ifB_mk (fun _=>?_) (fun h=>by rw [show p.bs=[] from ho.1] at h; simp at h)⟩
   have hr2:RecAt TT w1.drew p:=hr1.upd (Upd.drew Nothing _) fun _ _ f=>f
   have hw:IntKind.i64.wrap (((p.es.length:Nat):Int) - 1)=((A.length:Nat):Int):=by rw [i64_wrap (by omega) (by omega)]; omega
   refine ⟨_,rfl,_,rfl,_,_,_,hr2.1.cell (i:=0) rfl,?_⟩
   rw [hw]
   refine remove_spec (es2:=[]) hr2 hA hv0 rfl (by omega) fun w3 hm3=>⟨_,_,_,_,rfl,?_⟩
   rw [List.append_nil] at hm3
   have hm:=Mv.after (RS.one.2 hr) (hu1.then (Upd.drew _ _)) hm3
   have hb1n:¬ FPs [p] b1:=fun hk=>by have:=(RS.one.2 hr).lt hk; omega
   have hb1d:=hb1.drew
   have hlt1:=hb1.lt
   have hb3:Blk w3 b1 _ _:=hm3.upd.blk hb1d hb1n
   refine Blk.set2 hb3 rfl rfl fun w5 hb5 hu5=>⟨_,_,_,_,⟨hb5.cell (i:=0) rfl,hb5.cell (i:=1) rfl,trivial⟩,?_⟩
   refine hK { p with es:=A } k _ w5 ⟨ho.1,by show lo≤A.length; omega,by show A.length≤5; omega⟩ rfl hA hv0 (mv_fresh (RS.one.2 hr) hm hge1 (fun hk=>?_) hu5)
   rcases hm3.fresh b1 hk with h | h
   ·exact hb1n h
   ·have:w1.drew.heap.size=w1.heap.size:=rfl
    omega)
 | succ h ih=>
  intro (r,cs) lo w K ho hV hR hK
  obtain ⟨hb,hl,hlo,h5,hk⟩:=id ho
  have hl':cs.length=r.es.length+1:=hl
  have hlo':lo+1≤r.es.length:=hlo
  have h5':r.es.length≤5:=h5
  have hb':r.bs=cs.map fun c=>(root h c).a:=hb
  obtain ⟨cs1,c,hcs,l1,_⟩:=dropLast_at (l:=cs) (n:=r.es.length) hl'
  subst hcs
  have hr:RecAt TT w r:=(RS.cons.1 hR).1
  have hbl:r.bs.length=cs1.length+1:=by rw [hb']; simp
  have hLL:∀ c:Pg h,toL (h+1) (r,cs1++[c])=lw r.es (cs1.map (toL h))++toL h c:=fun c=>by
   rw [toL_node,List.map_append]
   have:=weave_mid (es1:=r.es) (es2:=[]) (bs1:=cs1.map (toL h)) (bs2:=[]) (b:=toL h c) (by rw [List.length_map,l1])
   simpa [rw'] using this
  show Cv F.z156 #[.pointer (some ⟨r.a,0,none⟩)] w K
  refine R.z156 (by
   unfold C.z156
   refine New.use (by simp [Value.oneCell']) fun b1 w1 hb1 hu1 hge1 _=>?_
   have hr1:RecAt TT w1 r:=hr.upd hu1 fun _ _ f=>f
   have hR1:=hR.upd0 hu1
   refine leaf_spec hr1 ⟨_,rfl,ifB_mk (fun h=>by have:=of_decide_eq_true h; omega) (fun _=>?_)⟩
   have hw:IntKind.i64.wrap (((r.bs.length:Nat):Int) - 1)=((cs1.length:Nat):Int):=by rw [i64_wrap (by omega) (by omega)]; omega
   obtain ⟨a,ha,hca⟩:=ptr_at (bs1:=cs1.map fun c=>(root h c).a) (x:=(root h c).a) (bs2:=[]) (i:=cs1.length) hr1 (by rw [hb']; simp) (by rw [List.length_map])
   refine ⟨_,rfl,_,_,_,hr1.1.cell (i:=1) rfl,?_⟩
   rw [hw]
   have hRp:=hR1.perm (recs_mid (cs2:=[]))
   have hVc:∀ e∈toL h c,IsV e.2:=fun e he=>hV e (by rw [hLL]; simp [he])
   refine ⟨_,rfl,_,_,_,hr1.1.cell (i:=1) rfl,a,ha,by omega,by omega,_,by simpa using hca,ih (lo:=1) (hk c (by simp)) hVc (RS.app.1 hRp).1 fun c' k v w6 hoc' hra hL hv hmc=>?_⟩
   have hv0:=hv
   obtain ⟨vp,vn,vc,rfl⟩:=hv
   refine ⟨_,_,_,_,rfl,New.use (by simp [Value.oneCell']) fun b2 w7 hb2 hu7 hge7 _=>Blk.set2 hb2 rfl rfl fun w9 hb9 hu9=>?_⟩
   have hm6:Mv TT w w6 (recs (h+1) (r,cs1++[c])) (recs (h+1) (r,cs1++[c'])):=Mv.after hR hu1 ((hmc.frame hRp).perm (recs_mid (cs2:=[])).symm (recs_mid (cs2:=[])).symm)
   have hu69:Upd Nothing w6 w9:=hu7.fresh hu9 fun i hi=>by rw [show i=b2 from hi]; exact hge7
   have hm9:=hm6.more hu69
   have hV':∀ e∈toL (h+1) (r,cs1++[c']),IsV e.2:=fun e he=>hV e (by rw [hLL] at he ⊢; rw [hL]; rcases List.mem_append.1 he with h | h <;> simp [h])
   refine mend_spec (lo:=lo) (c:=c') (cs1:=cs1) (cs2:=[]) (i:=cs1.length) hm9.rs (by rw [hb']; simp [hra]) (by simp [l1]) rfl hV' hoc' (fun x hx=>hk x (by simp [hx])) (fun x hx=>by (cases hx)) hlo' h5' fun p' w10 hok' hra' hT' hm10=>⟨rfl,?_⟩
   have hn2:¬ FPs (recs (h+1) (r,cs1++[c'])) b2:=fun hk'=>by have:=hm6.rs.lt hk'; omega
   have hb10:=hm10.upd.blk hb9 hn2
   have hm:=hm9.trans hm10
   have hn1:¬ FPs (recs (h+1) (r,cs1++[c])) b1:=fun hk'=>by have:=hR.lt hk'; omega
   have hlt1:=hb1.lt
   have h69:Upd (FPs (recs h c)) w1 w6:=hmc.upd
   have hb6:=h69.blk hb1 fun hk'=>hn1 ((FPs.perm (recs_mid (cs2:=[]))).2 (FPs.app.2 (.inl hk')))
   have hF:∀ k,FPs (recs (h+1) (r,cs1++[c'])) k→FPs (recs (h+1) (r,cs1++[c])) k∨w1.heap.size≤k:=((hmc.frame hRp).perm (recs_mid (cs2:=[])).symm (recs_mid (cs2:=[])).symm).fresh
   have hb1':=hm10.upd.blk (hu69.blk hb6 fun f=>f) fun hk'=>by
    rcases hF b1 hk' with h' | h'
    ·exact hn1 h'
    ·omega
   refine ⟨_,_,_,_,⟨hb10.cell (i:=0) rfl,hb10.cell (i:=1) rfl,trivial⟩,Blk.set2 hb1' rfl rfl fun w12 hb12 hu12=>⟨_,_,_,_,⟨hb12.cell (i:=0) rfl,hb12.cell (i:=1) rfl,trivial⟩,?_⟩⟩
   refine hK p' k _ w12 hok' hra' (by rw [hT',hLL,hLL,hL,List.append_assoc]) hv0 (mv_fresh hR hm hge1 (fun hk'=>?_) hu12)
   rcases hm10.fresh b1 hk' with h' | h'
   ·rcases hF b1 h' with h'' | h''
    ·exact hn1 h''
    ·omega
   ·have:=hb1'.lt; have h1:=hb1.lt; have h2:=hmc.upd.size; have h3:=hu69.size; omega)
end Tv
end Go.Proofs.YtjcgociobhhijaaGreatDoor
namespace Go.Proofs.YtjcgociobhhijaaGreatDoor
open Go SX Bt
namespace Tv
theorem drop_spec:∀ (h:Nat) {p:Pg h} {lo:Nat} {w:World} {K:Value→World→Prop} {k:ByteArray},Ok h lo 5 p→(h≠0→1≤lo)→Srt (toL h p)→(∀ e∈toL h p,IsV e.2)→RS TT w (recs h p)→
  (∀ p' w',Ok h (lo - 1) 5 p'→(root h p').a=(root h p).a→toL h p'=del k (toL h p)→Mv TT w w' (recs h p) (recs h p')→K (.tuple #[(kval k (toL h p)).getD zero,.bool (kval k (toL h p)).isSome]) w')→
  Cv F.z154 #[.pointer (some ⟨(root h p).a,0,none⟩),.string k] w K:=by
 intro h
 induction h with
 | zero=>
  intro (p:Rec) lo w K k ho _ hs hV hR hK
  have hr:RecAt TT w p:=RS.one.1 hR
  have hlo:lo≤p.es.length:=ho.2.1
  have h5:p.es.length≤5:=ho.2.2
  have hb:p.bs=[]:=ho.1
  show Cv F.z154 #[.pointer (some ⟨p.a,0,none⟩),.string k] w K
  refine R.z154 (by
   unfold C.z154
   refine ⟨_,rfl,find_spec (r:=p) hr hs hV (by omega) fun i ok w1 hT hF hu1=>⟨_,_,rfl,fun s w'=>w'=w1∧s = !ok,?_,?_⟩⟩
   ·have hr1:RecAt TT w1 p:=hr.upd hu1 fun _ _ f=>f
    exact leaf_spec hr1 ⟨_,rfl,ifB_mk (fun _=>⟨rfl,rfl⟩) (fun h=>by rw [hb] at h; simp at h)⟩
   rintro s w3 ⟨rfl,rfl⟩
   have hr1:RecAt TT w3 p:=hr.upd hu1 fun _ _ f=>f
   have hm1:Mv TT w w3 [p] [p]:=Mv.of0 (RS.one.2 hr) hu1
   refine ifB_mk (fun hn=>?_) (fun hn=>?_)
   ·have hok:ok=false:=by simpa using hn
    obtain ⟨es1,es2,he,hi,hl1,hl2⟩:=hF hok
    have e:toL 0 p=es1++es2:=he
    rw [e,get_none hl1 hl2,del_none hl1 hl2] at hK
    exact hK p w3 ⟨hb,by show lo - 1≤p.es.length; omega,h5⟩ rfl e hm1
   ·have hok:ok=true:=by simpa using hn
    obtain ⟨u,hu,es1,es2,he,hi,hl1,hl2⟩:=hT hok
    have e:toL 0 p=es1++(k,u) :: es2:=he
    have hel:p.es.length=es1.length+1+es2.length:=by rw [he]; simp; omega
    rw [e,get_old hl1 hl2,del_old hl1 hl2] at hK
    have hu0:=hu
    obtain ⟨up,un,uc,rfl⟩:=hu
    refine leaf_spec hr1 ⟨_,rfl,ifB_mk (fun _=>⟨_,rfl,remove_spec hr1 he hu0 hi (by omega) fun w5 hm5=>⟨_,up,un,uc,rfl,?_⟩⟩) (fun h=>by rw [hb] at h; simp at h)⟩
    exact hK { p with es:=es1++es2 } w5 ⟨hb,by show lo - 1≤(es1++es2).length; simp; omega,by show (es1++es2).length≤5; simp; omega⟩ rfl rfl (hm1.trans hm5))
 | succ h ih=>
  intro (r,cs) lo w K k ho hlo1 hs hV hR hK
  have hlo0:1≤lo:=hlo1 (by omega)
  have hR':RS TT w (r :: cs.flatMap (recs h)):=hR
  have hr:RecAt TT w r:=(RS.cons.1 hR').1
  have hes:r.es.length≤5:=ho.2.2.2.1
  have hlo:lo≤r.es.length:=ho.2.2.1
  have hsr:Srt r.es:=List.Pairwise.sublist (root_sub ho) hs
  have hVr:∀ e∈r.es,IsV e.2:=fun e he=>hV e ((root_sub ho).subset he)
  have hb0:r.bs=cs.map fun c=>(root h c).a:=ho.1
  have hl0:cs.length=r.es.length+1:=ho.2.1
  have hbl:r.bs.length=r.es.length+1:=by rw [hb0,List.length_map,hl0]
  show Cv F.z154 #[.pointer (some ⟨r.a,0,none⟩),.string k] w K
  refine R.z154 (by
   unfold C.z154
   refine ⟨_,rfl,find_spec (r:=r) hr hsr hVr (by omega) fun i ok w1 hT hF hu1=>⟨_,_,rfl,fun s w'=>w'=w1∧s=false,?_,?_⟩⟩
   ·have hr1:RecAt TT w1 r:=hr.upd hu1 fun _ _ f=>f
    exact leaf_spec hr1 ⟨_,rfl,ifB_mk (fun h=>by have:=of_decide_eq_true h; omega) (fun _=>⟨rfl,rfl⟩)⟩
   rintro s w3 ⟨rfl,rfl⟩
   have hr1:RecAt TT w3 r:=hr.upd hu1 fun _ _ f=>f
   refine ifB_mk (fun hn=>by cases hn) (fun _=>?_)
   refine leaf_spec hr1 ⟨_,rfl,ifB_mk (fun h=>by have:=of_decide_eq_true h; omega) (fun _=>?_)⟩
   refine ifB_mk (fun hok=>?_) (fun hok=>?_)
   ·obtain ⟨u,hu,es1,es2,he,hi,hl1,hl2⟩:=hT hok
    obtain ⟨cs1,c,cs2,rfl,l1,l2,hb,hL,hokc,hok1,hok2⟩:=node_at ho he hi
    obtain ⟨d,cs3,rfl⟩:=List.exists_cons_of_ne_nil (show cs2≠[] from fun h=>by rw [h] at l2; simp at l2)
    have hW:toL (h+1) (r,cs1++c :: d :: cs3)=(lw es1 (cs1.map (toL h))++toL h c)++(k,u) :: (toL h d++rw' es2 (cs3.map (toL h))):=hL
    rw [hW] at hs hV
    obtain ⟨q1,q2⟩:=srt_at hs
    rw [hW,get_old q1 q2,del_old q1 q2] at hK
    have hu0:=hu
    obtain ⟨c3,hc3,hcc3⟩:=ent_at hr1 he hi
    have hm1:Mv TT w w3.drew (recs (h+1) (r,cs1++c :: d :: cs3)) (recs (h+1) (r,cs1++c :: d :: cs3)):=Mv.of0 hR (hu1.then (Upd.drew _ _))
    have hr2:RecAt TT w3.drew r:=hr1.upd (Upd.drew Nothing _) fun _ _ f=>f
    obtain ⟨a,ha,hca⟩:=ptr_at (bs1:=cs1.map fun c=>(root h c).a) (x:=(root h c).a) (bs2:=(d :: cs3).map fun c=>(root h c).a) (i:=i) hr2 hb (by rw [List.length_map,l1])
    have hel:r.es.length=es1.length+1+es2.length:=by rw [he]; simp; omega
    have hRp:=hm1.rs.perm recs_mid
    have hVc:∀ e∈toL h c,IsV e.2:=fun e he=>hV e (by simp [he])
    obtain ⟨up,un,uc,rfl⟩:=hu
    refine ⟨_,rfl,_,_,_,hr1.1.cell (i:=0) rfl,c3,hc3,by omega,by omega,up,un,uc,hcc3.2.1,_,rfl,_,_,_,hr2.1.cell (i:=0) rfl,_,rfl,_,_,_,hr2.1.cell (i:=1) rfl,a,ha,by omega,by omega,_,by simpa using hca,last_spec h (lo:=1) hokc hVc (RS.app.1 hRp).1 fun c' k' v' w6 hokc' hra hLc hv' hmc=>?_⟩
    have hv0':=hv'
    obtain ⟨vp,vn,vc,rfl⟩:=hv'
    have hm6:Mv TT w w6 (recs (h+1) (r,cs1++c :: d :: cs3)) (recs (h+1) (r,cs1++c' :: d :: cs3)):=hm1.trans ((hmc.frame hRp).perm recs_mid.symm recs_mid.symm)
    have hr6:RecAt TT w6 r:=(RS.cons.1 hm6.rs).1
    refine ⟨_,_,_,_,rfl,hr6.1.cell (i:=0) rfl,c3,hc3,by omega,by omega,ent_set (k':=k') (v':=(.slice vp vn vc)) hr6 he hi rfl hc3 fun w8 hm8=>?_⟩
    have hm9:Mv TT w w8 (recs (h+1) (r,cs1++c :: d :: cs3)) (recs (h+1) ({ r with es:=es1++(k',.slice vp vn vc) :: es2 },cs1++c' :: d :: cs3)):=hm6.trans (Mv.fst hm6.rs hm8)
    have hel':(es1++(k',.slice vp vn vc) :: es2).length=r.es.length:=by rw [hel]; simp; omega
    have hLn:toL (h+1) ({ r with es:=es1++(k',.slice vp vn vc) :: es2 },cs1++c' :: d :: cs3)=(lw es1 (cs1.map (toL h))++toL h c)++(toL h d++rw' es2 (cs3.map (toL h))):=by
     rw [toL_node,List.map_append,List.map_cons,hLc]
     have:=weave_mid (es1:=es1) (es2:=(k',(.slice vp vn vc)) :: es2) (bs1:=cs1.map (toL h)) (bs2:=(d :: cs3).map (toL h)) (b:=toL h c') (by rw [List.length_map,l1,hi])
     rw [this]
     simp [rw']
    refine mend_spec (r:={ r with es:=es1++(k',.slice vp vn vc) :: es2 }) (lo:=lo - 1) (c:=c') (cs1:=cs1) (cs2:=d :: cs3) (i:=i) hm9.rs (by show r.bs=_; rw [hb]; simp [hra]) (by show _=(es1++(k',.slice vp vn vc) :: es2).length+1; rw [hel',← hl0]; simp) l1 (fun e he=>hV e (by
     rw [hLn] at he
     rcases List.mem_append.1 he with he | he
     ·exact List.mem_append_left _ he
     ·exact List.mem_append_right _ (List.mem_cons_of_mem _ he))) hokc' hok1 hok2 (by show lo - 1+1≤(es1++(k',.slice vp vn vc) :: es2).length; omega) (by show (es1++(k',.slice vp vn vc) :: es2).length≤5; omega) fun p' w9 a1 a2 a3 a4=>⟨rfl,?_⟩
    rw [hok]
    exact hK p' w9 a1 a2 (a3.trans hLn) (hm9.trans a4)
   ·obtain ⟨es1,es2,he,hi,hlo',hhi'⟩:=hF hok
    obtain ⟨cs1,c,cs2,rfl,l1,l2,hb,hL,hokc,hok1,hok2⟩:=node_at ho he hi
    rw [hL] at hs hV
    obtain ⟨hs12,hs3,hs4⟩:=hs.app
    obtain ⟨hs1,hs2,hs5⟩:=hs12.app
    have hA:=lw_lo hs1 hlo'
    have hC:=rw_hi hs3 hhi'
    have hVc:∀ e∈toL h c,IsV e.2:=fun e he=>hV e (by simp [he])
    have hG:kval k (toL (h+1) (r,cs1++c :: cs2))=kval k (toL h c):=by rw [hL]; exact get_mid hA hC
    have hD:del k (toL (h+1) (r,cs1++c :: cs2))=lw es1 (cs1.map (toL h))++del k (toL h c)++rw' es2 (cs2.map (toL h)):=by rw [hL]; exact del_mid hA hC
    rw [hG,hD] at hK
    have hRp:=(hR.perm recs_mid).upd0 hu1
    obtain ⟨a,ha,hca⟩:=ptr_at (bs1:=cs1.map fun c=>(root h c).a) (x:=(root h c).a) (bs2:=cs2.map fun c=>(root h c).a) (i:=i) hr1 hb (by rw [List.length_map,l1])
    have hel:r.es.length=es1.length+es2.length:=by rw [he]; simp
    have hgv:=get_isV (k:=k) hVc
    refine ⟨_,rfl,_,_,_,hr1.1.cell (i:=1) rfl,a,ha,by omega,by omega,_,by simpa using hca,ih hokc (fun _=>by decide) hs2 hVc (RS.app.1 hRp).1 fun c' w5 hokc' hra hLc hmc=>?_⟩
    generalize (kval k (toL h c)).getD zero=ov at hgv hK ⊢
    generalize (kval k (toL h c)).isSome=ob at hK ⊢
    obtain ⟨up,un,uc,rfl⟩:=hgv
    have hm5:Mv TT w w5 (recs (h+1) (r,cs1++c :: cs2)) (recs (h+1) (r,cs1++c' :: cs2)):=Mv.after hR hu1 ((hmc.frame hRp).perm recs_mid.symm recs_mid.symm)
    have hLn:toL (h+1) (r,cs1++c' :: cs2)=lw es1 (cs1.map (toL h))++del k (toL h c)++rw' es2 (cs2.map (toL h)):=by
     rw [toL_node,he,List.map_append,List.map_cons,hLc]
     exact weave_mid (by rw [List.length_map,l1,hi])
    refine ⟨up,un,uc,_,rfl,mend_spec (lo:=lo - 1) (c:=c') (cs1:=cs1) (cs2:=cs2) (i:=i) hm5.rs (by rw [hb]; simp [hra]) (by rw [← hl0]; simp) l1 (fun e he=>hV e (by
     rw [hLn] at he
     rcases List.mem_append.1 he with he | he
     ·rcases List.mem_append.1 he with he | he
      ·simp [he]
      ·have:=(List.mem_filter.1 he).1; simp [this]
     ·simp [he])) hokc' hok1 hok2 (by omega) hes fun p' w6 a1 a2 a3 a4=>⟨rfl,hK p' w6 a1 a2 (a3.trans hLn) (hm5.trans a4)⟩⟩)
end Tv
end Go.Proofs.YtjcgociobhhijaaGreatDoor
namespace Go.Proofs.YtjcgociobhhijaaGreatDoor
open Go SX Bt
namespace Tv
structure TrAt (w:World) (g h:Nat) (top:Pg h) (l:List Ent):Prop where
 ok:Ok h (if h=0 then 0 else 1) 5 top
 toL:toL h top=l
 srt:Srt l
 isV:∀ e∈l,IsV e.2
 hdr:Blk w g [.pointer (some ⟨(root h top).a,0,none⟩),.int .i64 (l.length:Int)] T.tree_Tree_s_afflux_api_Value
 rs:RS TT w (recs h top)
section
variable {w:World} {K:Value→World→Prop}
theorem new_spec (hK:∀ g top w',TrAt w' g 0 top []→Upd Nothing w w'→w.heap.size≤g→(∀ k,FPs (recs 0 top) k→w.heap.size≤k)→K (.pointer (some ⟨g,0,none⟩)) w'):Cv F.z143 #[] w K:=
 R.z143 (by
  unfold C.z143
  refine New.use (by simp [Value.oneCell']) fun b1 w1 hb1 hu1 hge1 _=>New.use (by simp [Value.oneCell']) fun b2 w2 hb2 hu2 hge2 _=>?_
  have hr:RecAt TT w2 ⟨b1,none,0,[],none,0,[]⟩:=⟨hu2.blk hb1 fun f=>f,OwnW.nil _ _ _,OwnW.nil _ _ _⟩
  refine hK b2 (⟨b1,none,0,[],none,0,[]⟩:Rec) w2 ⟨⟨rfl,Nat.le_refl _,Nat.zero_le _⟩,rfl,List.Pairwise.nil,fun e he=>by (cases he),hb2,RS.one.2 hr⟩ (hu1.then hu2) (by have:=hu1.size; omega) fun k hk=>?_
  rcases FPs.one.1 hk with rfl | hk | hk
  ·exact hge1
  ·have h0:0 < 0:=hk.1
   omega
  ·have h0:0 < 0:=hk.1
   omega)
def PgKey (w:World) (k:ByteArray) (t:Option Value) (q:Option Addr) (n:Nat):Prop:=∃ (p:Pg n) (lo:Nat),q=some ⟨(root n p).a,0,none⟩∧Ok n lo 5 p∧Srt (toL n p)∧(∀ e∈toL n p,IsV e.2)∧RS TT w (recs n p)∧kval k (toL n p)=t
theorem least_ex {P:Nat→Prop}:∀ n,P n→∃ m,P m∧∀ k,P k→m≤k:=by
 intro n
 induction n using Nat.strongRecOn with
 | _ n ih=>
  intro hp
  by_cases h:∃ k,P k∧k < n
  ·obtain ⟨k,hk,hlt⟩:=h
   exact ih k hlt hk
  ·exact ⟨n,hp,fun k hk=>Nat.le_of_not_lt fun hlt=>h ⟨k,hk,hlt⟩⟩
open Classical in
noncomputable def leastN (P:Nat→Prop):Nat:=if h:∃ m,P m∧∀ k,P k→m≤k then Classical.choose h else 0
theorem leastN_spec {P:Nat→Prop} (h:∃ n,P n):P (leastN P):=by
 obtain ⟨n,hn⟩:=h
 unfold leastN
 rw [dif_pos (least_ex n hn)]
 exact (Classical.choose_spec (least_ex n hn)).1
theorem leastN_le {P:Nat→Prop} {n:Nat} (h:P n):leastN P≤n:=by
 unfold leastN
 rw [dif_pos (least_ex n h)]
 exact (Classical.choose_spec (least_ex n h)).2 n h
theorem get_spec {g h:Nat} {top:Pg h} {l:List Ent} {k:ByteArray} (ht:TrAt w g h top l) (hK:∀ w',Upd Nothing w w'→K (.tuple #[(kval k l).getD zero,.bool (kval k l).isSome]) w'):Cv F.z146 #[.pointer (some ⟨g,0,none⟩),.string k] w K:=
 R.z146 (by
  unfold C.z146
  refine ifB_mk (fun h=>by cases h) (fun _=>⟨_,rfl,_,ht.hdr.cell (i:=0) rfl,?_⟩)
  refine ⟨fun q w'=>Upd Nothing w w'∧∃ n,PgKey w' k (kval k l) q n,fun q w'=>leastN fun n=>PgKey w' k (kval k l) q n,⟨Upd.refl _ _,h,top,_,rfl,ht.ok,by rw [ht.toL]; exact ht.srt,by rw [ht.toL]; exact ht.isV,ht.rs,by rw [ht.toL]⟩,?_⟩
  rintro q w1 ⟨hu1,hex⟩
  obtain ⟨p,lo,hq,ho,hs,hV,hR,hkv⟩:=leastN_spec hex
  generalize hn:(leastN fun n=>PgKey w1 k (kval k l) q n)=n at p ho hs hV hR hkv hq ⊢
  subst hq
  have hr:RecAt TT w1 (root n p):=hR.1 _ (by simp [recs])
  have hsub:=root_sub ho
  have hes:=ho.root_len.2
  refine ⟨_,rfl,find_spec hr (List.Pairwise.sublist hsub hs) (fun e he=>hV e (hsub.subset he)) (by omega) fun i ok w2 hT hF hu2=>⟨_,_,rfl,?_⟩⟩
  have hr2:RecAt TT w2 (root n p):=hr.upd hu2 fun _ _ f=>f
  refine ifB_mk (fun hok=>?_) (fun hok=>?_)
  ·obtain ⟨u,hu,es1,es2,he,hi,_,_⟩:=hT hok
   obtain ⟨_,hG⟩:=toL_set (v:=zero) (r:={ root n p with es:=es1++(k,zero) :: es2 }) ho hs he rfl
   rw [hG] at hkv
   obtain ⟨c,hc,hcc⟩:=ent_at hr2 he hi
   have hel:(root n p).es.length=es1.length+1+es2.length:=by rw [he]; simp; omega
   have:=hK w2 (hu1.then hu2)
   rw [← hkv] at this
   obtain ⟨up,un,uc,rfl⟩:=hu
   exact ⟨_,rfl,_,_,_,hr2.1.cell (i:=0) rfl,c,hc,by omega,by omega,up,un,uc,hcc.2.1,this⟩
  ·obtain ⟨es1,es2,he,hi,h1,h2⟩:=hF hok
   have hel:(root n p).es.length=es1.length+es2.length:=by rw [he]; simp
   refine leaf_spec hr2 ⟨_,rfl,?_⟩
   match n,p,ho,hs,hV,hR,hkv,hn,hr,hr2,hsub,hes,es1,es2,he,hi,h1,h2,hel with
   | 0,p,ho,hs,hV,hR,hkv,hn,hr,hr2,hsub,hes,es1,es2,he,hi,h1,h2,hel=>
    refine ifB_mk (fun _=>?_) (fun hl=>by rw [show (root 0 p).bs=[] from ho.1] at hl; simp at hl)
    have e:toL 0 p=es1++es2:=he
    rw [e,get_none h1 h2] at hkv
    have:=hK w2 (hu1.then hu2)
    rw [← hkv] at this
    exact this
   | n+1,(r,cs),ho,hs,hV,hR,hkv,hn,hr,hr2,hsub,hes,es1,es2,he,hi,h1,h2,hel=>
    have hb0:r.bs=cs.map fun c=>(root n c).a:=ho.1
    have hl0:cs.length=r.es.length+1:=ho.2.1
    have hbl:r.bs.length=r.es.length+1:=by rw [hb0,List.length_map,hl0]
    have hel':r.es.length=es1.length+es2.length:=hel
    refine ifB_mk (fun hl=>by have hl':r.bs.length=0:=of_decide_eq_true hl; omega) (fun _=>?_)
    obtain ⟨cs1,c,cs2,rfl,l1,l2,hb,hL,hokc,_,_⟩:=node_at ho he hi
    rw [hL] at hs hV hkv
    obtain ⟨hs12,hs3,_⟩:=hs.app
    obtain ⟨hs1,hs2,_⟩:=hs12.app
    rw [get_mid (lw_lo hs1 h1) (rw_hi hs3 h2)] at hkv
    obtain ⟨a,ha,hca⟩:=ptr_at (r:=r) (bs1:=cs1.map fun c=>(root n c).a) (x:=(root n c).a) (bs2:=cs2.map fun c=>(root n c).a) (i:=i) hr2 hb (by rw [List.length_map,l1])
    have hpk:PgKey w2 k (kval k l) (some ⟨(root n c).a,0,none⟩) n:=⟨c,2,rfl,hokc,hs2,fun e he=>hV e (by simp [he]),(RS.app.1 ((hR.upd0 hu2).perm recs_mid)).1,hkv⟩
    refine ⟨_,rfl,r.bp,r.bs.length,r.bc,hr2.1.cell (i:=1) rfl,a,ha,by omega,by omega,_,by simpa using hca,⟨hu1.then hu2,n,hpk⟩,?_⟩
    have h3:=leastN_le hpk
    refine Nat.lt_of_le_of_lt h3 ?_
    exact Nat.lt_of_lt_of_le (Nat.lt_succ_self n) (Nat.le_of_eq hn.symm))
theorem hdr_out {w:World} {g:Nat} {L:List Value} {A:List Rec} (hb:Blk w g L T.tree_Tree_s_afflux_api_Value) (hR:RS TT w A):¬ FPs A g:=by
 rintro ⟨r,hr,hk⟩
 obtain ⟨l,e,hb',he⟩:=(hR.1 r hr).ty hk
 have:=(hb.same hb').2
 subst this
 exact absurd he (by decide)
theorem tput_spec {g h : Nat} {top : Pg h} {l : List Ent} {k : ByteArray} {v : Value} (ht : TrAt w g h top l) (hv : IsV v) (hsz : l.length ≤ 1000000)
    (hK : ∀ h' (top' : Pg h') w', TrAt w' g h' top' (ins k v l) → Upd (fun i => i = g ∨ FPs (recs h top) i) w w' → (∀ i, (i = g ∨ FPs (recs h' top') i) → (i = g ∨ FPs (recs h top) i) ∨ w.heap.size ≤ i) → K (.tuple #[(kval k l).getD zero, .bool (kval k l).isSome]) w') :
    Cv F.z148 #[.pointer (some ⟨g, 0, none⟩), .string k, v] w K := by
  have hv0 := hv
  obtain ⟨vp, vn, vc, rfl⟩ := hv
  refine R.z148 ?_
  unfold C.z148
  have hVt : ∀ e ∈ toL h top, IsV e.2 := by rw [ht.toL]; exact ht.isV
  have hSt : Srt (toL h top) := by rw [ht.toL]; exact ht.srt
  have hV' : ∀ e ∈ ins k (.slice vp vn vc) l, IsV e.2 := fun e he => by
    rcases ins_mem he with h1 | h1
    · exact ht.isV e h1
    · rw [h1]; exact hv0
  refine ifB_mk (fun h => by cases h) (fun _ => ⟨_, rfl, _, ht.hdr.cell (i := 0) rfl, put_spec h ht.ok hSt hVt ht.rs hv0 fun p' w1 hok' hra hL' hm1 => ?_⟩)
  rw [ht.toL] at hL' ⊢
  have hgv := get_isV (k := k) ht.isV
  have hlen := ins_len (k := k) (v := (.slice vp vn vc)) ht.srt
  generalize (kval k l).getD zero = ov at hgv hK ⊢
  generalize (kval k l).isSome = ob at hK hlen ⊢
  obtain ⟨up, un, uc, rfl⟩ := hgv
  have hb1 := hm1.upd.blk ht.hdr (hdr_out ht.hdr ht.rs)
  have hr1 : RecAt TT w1 (root h p') := hm1.rs.1 _ (by simp [recs])
  have hc1 : w1.cell? (((Addr.mk (root h top).a 0 none).add 0).add 0) = some (.slice (root h p').ep (root h p').es.length (root h p').ec) := by
    rw [← hra]
    exact hr1.1.cell (i := 0) rfl
  have fin : ∀ h' (top' : Pg h') w5, Ok h' (if h' = 0 then 0 else 1) 5 top' → toL h' top' = ins k (.slice vp vn vc) l → Blk w5 g [.pointer (some ⟨(root h' top').a, 0, none⟩), .int .i64 (l.length : Int)] T.tree_Tree_s_afflux_api_Value → RS TT w5 (recs h' top') → Upd (fun i => i = g ∨ FPs (recs h top) i) w w5 → (∀ i, FPs (recs h' top') i → FPs (recs h top) i ∨ w.heap.size ≤ i) →
      ifB (!ob) (
            ∃ ta6, (some (Addr.mk g 0 none)) = some ta6 ∧
            ∃ (n1 : Int),
            w5.cell? (ta6.add 1) = some (.int .i64 n1) ∧
            ∃ ta7, (some (Addr.mk g 0 none)) = some ta7 ∧
            CanSt w5 (ta7.add 1) ∧ ∀ wv6, wv6 = w5.setCell (ta7.add 1) (.int .i64 (IntKind.i64.wrap (n1 + (1 : Int)))) →
            K (.tuple #[.slice up un uc, .bool ob]) wv6) (
            K (.tuple #[.slice up un uc, .bool ob]) w5) := by
    intro h' top' w5 k1 k2 k3 k4 k5 k6
    refine ifB_mk (fun ho => ?_) (fun ho => ?_)
    · have ho' : ob = false := by simpa using ho
      rw [ho', if_neg (by decide)] at hlen
      refine ⟨_, rfl, _, k3.cell (i := 1) rfl, _, rfl, k3.store (i := 1) (by simp) rfl fun w6 hb6 hu6 _ => ?_⟩
      rw [i64_wrap (by omega) (by omega)] at hb6
      refine hK h' top' w6 ⟨k1, k2, srt_ins ht.srt, hV', ?_, k4.upd hu6 fun i hi e => hdr_out k3 k4 (by rw [← show i = g from e]; exact hi)⟩ (k5.then (hu6.mono fun i _ hi => .inl hi)) fun i hi => ?_
      · rw [hlen]; exact hb6
      · rcases hi with hi | hi
        · exact .inl (.inl hi)
        · rcases k6 i hi with h | h
          · exact .inl (.inr h)
          · exact .inr h
    · have ho' : ob = true := by simpa using ho
      rw [ho', if_pos rfl] at hlen
      refine hK h' top' w5 ⟨k1, k2, srt_ins ht.srt, hV', by rw [hlen]; exact k3, k4⟩ k5 fun i hi => ?_
      rcases hi with hi | hi
      · exact .inl (.inl hi)
      · rcases k6 i hi with h | h
        · exact .inl (.inr h)
        · exact .inr h
  have hu1 : Upd (fun i => i = g ∨ FPs (recs h top) i) w w1 := hm1.upd.mono fun i _ hi => .inr hi
  have hrl := hok'.root_len
  refine ⟨up, un, uc, _, rfl, _, rfl, _, hb1.cell (i := 0) rfl, _, rfl, _, _, _, hc1, ifB_mk (fun h6 => ?_) (fun h6 => ?_)⟩
  · have h66 : (root h p').es.length = 6 := by have := of_decide_eq_true h6; omega
    refine ⟨_, rfl, _, hb1.cell (i := 0) rfl, New.use (by simp [Value.oneCell']) fun b1 w2 hn1 hu2 hge1 _ => New.use (by simp [Value.oneCell']) fun b2 w3 hn2 hu3 hge2 _ => ?_⟩
    have hu23 := hu2.then hu3
    have hb3 := hu23.blk hb1 fun f => f
    have hsz1 := hm1.upd.size
    have hsz2 := hu2.size
    have hgl := ht.hdr.lt
    have hgl1 := hb1.lt
    let r : Rec := ⟨b2, none, 0, [], some ⟨b1, 0, none⟩, 1, [(root h p').a]⟩
    have hr3 : RecAt TT w3 r := ⟨hn2, OwnW.nil _ _ _, by
      refine ⟨rfl, Nat.le_refl _, .inr ⟨b1, [], rfl, ?_, Nat.le_refl _⟩⟩
      have := hu3.blk hn1 fun f => f
      rw [← hra] at this
      exact this⟩
    have hrf : ∀ i, FP r i → w1.heap.size ≤ i := fun i hi => by
      rcases hi with rfl | hi | hi
      · exact Nat.le_trans hsz2 hge2
      · have h0 : 0 < 0 := hi.1
        omega
      · obtain ⟨_, a, ha, rfl⟩ := hi
        have ha' : some (Addr.mk b1 0 none) = some a := ha
        injection ha' with ha'
        subst ha'
        exact hge1
    have hm13 : Mv TT w1 w3 (recs h p') (r :: recs h p') := Mv.add hm1.rs (Mv.made hr3 hu23 hrf)
    refine ⟨_, rfl, hb3.store (i := 0) (by simp) rfl fun w4 hb4 hu4 _ => ?_⟩
    have hR4 : RS TT w4 (r :: recs h p') := hm13.rs.upd hu4 fun i hi e => hdr_out hb3 hm13.rs (by rw [← show i = g from e]; exact hi)
    have hpm : (r :: recs h p').Perm ([r, root h p'] ++ subs h p') := List.Perm.refl _
    obtain ⟨A, m, mv, B, X, Y, hA1, hA2, hB2, hXYe, hXY, hsp⟩ := page_split hok' h66
    have hmv : IsV mv := hV' (m, mv) (by rw [← hL']; exact (root_sub hok').subset (by rw [hA1]; simp))
    refine ⟨_, rfl, _, hb4.cell (i := 0) rfl, split_spec (i := 0) (r := r) (c := root h p') (es1 := []) (es2 := []) (bs1 := []) (bs2 := []) (RS.app.1 hR4).1 hmv rfl rfl rfl rfl (by show 0 ≤ 100; omega) (by show 1 ≤ 100; omega) hA1 hA2 (by omega) hXYe hXY fun r' cc q w5 k1 k2 k3 k4 k5 k6 k7 k8 hm5 => ⟨rfl, ?_⟩⟩
    obtain ⟨hT6, hoL, hoR⟩ := hsp cc q k5 k6 k7 k8
    have hpm' : (recs (h + 1) (r', [splitL h p' cc, splitR h p' q])).Perm ([r', cc, q] ++ subs h p') := by
      rw [recs_node, List.flatMap_cons, List.flatMap_cons, List.flatMap_nil, subs_split h p' cc q]
      show (r' :: ((root h (splitL h p' cc) :: subs h (splitL h p' cc)) ++ ((root h (splitR h p' q) :: subs h (splitR h p' q)) ++ []))).Perm _
      rw [root_splitL, root_splitR]
      have := (perm_two [] [] cc q (subs h (splitL h p' cc)) (subs h (splitR h p' q))).cons r'
      simp only [List.nil_append, List.append_nil] at this ⊢
      exact this
    have hm45 : Mv TT w4 w5 (r :: recs h p') (recs (h + 1) (r', [splitL h p' cc, splitR h p' q])) := (hm5.frame hR4).perm (List.Perm.refl _) hpm'.symm
    have hb5 : Blk w5 g [.pointer (some ⟨r'.a, 0, none⟩), .int .i64 (l.length : Int)] T.tree_Tree_s_afflux_api_Value := by
      rw [k1]
      exact hm45.upd.blk hb4 (hdr_out hb4 hR4)
    have hfr : ∀ i, FPs (r :: recs h p') i → FPs (recs h top) i ∨ w.heap.size ≤ i := fun i hi => by
      rcases FPs.cons.1 hi with hi | hi
      · have := hrf i hi; exact .inr (by omega)
      · exact hm1.fresh i hi
    refine fin (h + 1) (r', [splitL h p' cc, splitR h p' q]) w5 ⟨?_, ?_, ?_, ?_, fun x hx => ?_⟩ ?_ hb5 hm45.rs ?_ fun i hi => ?_
    · show r'.bs = _
      rw [k3, List.map_cons, List.map_cons, List.map_nil, root_splitL, root_splitR, k4]
      rfl
    · show 2 = r'.es.length + 1
      rw [k2]; rfl
    · show (if h + 1 = 0 then 0 else 1) ≤ r'.es.length
      rw [k2]; simp
    · show r'.es.length ≤ 5
      rw [k2]; simp
    · rcases List.mem_cons.1 hx with rfl | hx
      · exact hoL
      · rcases List.mem_cons.1 hx with rfl | hx
        · exact hoR
        · cases hx
    · rw [toL_node, k2, ← hL', hT6]
      simp [weave, rw']
    · refine ((hu1.then (hu23.mono fun _ _ f => f.elim)).then (hu4.mono fun i _ hi => .inl hi)).trans hm45.upd (fun _ _ h => h) fun i hi hf => ?_
      rcases hfr i hf with h | h
      · exact .inr h
      · omega
    · rcases hm45.fresh i hi with h | h
      · exact hfr i h
      · have := hu4.size
        have := hu23.size
        exact .inr (by omega)
  · have h5 : (root h p').es.length ≤ 5 := by have := of_decide_eq_false h6; omega
    exact fin h p' w1 (hok'.mono hrl.1 h5) hL' (by rw [hra]; exact hb1) hm1.rs hu1 hm1.fresh
theorem lone {h:Nat} {r:Rec} {c:Pg h} (he:r.es=[]):toL (h+1) (r,[c])=toL h c:=by
 rw [toL_node,he]
 simp [weave,rw']
theorem tdelete_spec {g h : Nat} {top : Pg h} {l : List Ent} {k : ByteArray} (ht : TrAt w g h top l) (hsz : l.length ≤ 1000000)
    (hK : ∀ h' (top' : Pg h') w', TrAt w' g h' top' (del k l) → Upd (fun i => i = g ∨ FPs (recs h top) i) w w' → (∀ i, (i = g ∨ FPs (recs h' top') i) → (i = g ∨ FPs (recs h top) i) ∨ w.heap.size ≤ i) → K (.tuple #[(kval k l).getD zero, .bool (kval k l).isSome]) w') :
    Cv F.z145 #[.pointer (some ⟨g, 0, none⟩), .string k] w K := by
  refine R.z145 ?_
  unfold C.z145
  have hVt : ∀ e ∈ toL h top, IsV e.2 := by rw [ht.toL]; exact ht.isV
  have hSt : Srt (toL h top) := by rw [ht.toL]; exact ht.srt
  have hV' : ∀ e ∈ del k l, IsV e.2 := fun e he => ht.isV e (List.mem_filter.1 he).1
  refine ifB_mk (fun h => by cases h) (fun _ => ⟨_, rfl, _, ht.hdr.cell (i := 0) rfl, drop_spec h ht.ok (fun h0 => by rw [if_neg h0]; exact Nat.le_refl _) hSt hVt ht.rs fun p' w1 hok' hra hL' hm1 => ?_⟩)
  rw [ht.toL] at hL' ⊢
  have hgv := get_isV (k := k) ht.isV
  have hlen := del_len (k := k) ht.srt
  generalize (kval k l).getD zero = ov at hgv hK ⊢
  generalize (kval k l).isSome = ob at hK hlen ⊢
  obtain ⟨up, un, uc, rfl⟩ := hgv
  have hb1 := hm1.upd.blk ht.hdr (hdr_out ht.hdr ht.rs)
  rw [← hra] at hb1
  have hu1 : Upd (fun i => i = g ∨ FPs (recs h top) i) w w1 := hm1.upd.mono fun i _ hi => .inr hi
  have fin : ∀ w2, Blk w2 g [.pointer (some ⟨(root h p').a, 0, none⟩), .int .i64 ((del k l).length : Int)] T.tree_Tree_s_afflux_api_Value → RS TT w2 (recs h p') → Upd (fun i => i = g ∨ FPs (recs h top) i) w w2 →
        ∃ ta4, (some (Addr.mk g 0 none)) = some ta4 ∧
        ∃ (top2 : Option Addr),
        w2.cell? (ta4.add 0) = some (.pointer top2) ∧
        ∃ topa1, top2 = some topa1 ∧
        ∃ (all1p : Option Addr) (all1n all1c : Nat),
        w2.cell? ((topa1.add 0).add 0) = some (.slice all1p all1n all1c) ∧
        ifB (((all1n : Nat) : Int) == (0 : Int)) (
          ∃ ta5, (some (Addr.mk g 0 none)) = some ta5 ∧
          ∃ (top3 : Option Addr),
          w2.cell? (ta5.add 0) = some (.pointer top3) ∧
          Cv F.z157 #[.pointer top3] w2 (fun v2 wv3 =>
            ∃ (r1 : Bool),
            v2 = .bool r1 ∧
            ifB (!r1) (
              ∃ ta6, (some (Addr.mk g 0 none)) = some ta6 ∧
              ∃ (top4 : Option Addr),
              wv3.cell? (ta6.add 0) = some (.pointer top4) ∧
              ∃ topa2, top4 = some topa2 ∧
              ∃ (below1p : Option Addr) (below1n below1c : Nat),
              wv3.cell? (topa2.add 1) = some (.slice below1p below1n below1c) ∧
              ∃ a1, below1p = some a1 ∧ 0 ≤ (0 : Int) ∧ (0 : Int) < ((below1n : Nat) : Int) ∧
              ∃ (e1 : Option Addr),
              wv3.cell? (a1.add ((0 : Int).toNat * 1)) = some (.pointer e1) ∧
              ∃ ta7, (some (Addr.mk g 0 none)) = some ta7 ∧
              CanSt wv3 (ta7.add 0) ∧ ∀ wv4, wv4 = wv3.setCell (ta7.add 0) (.pointer e1) →
              K (.tuple #[.slice up un uc, .bool ob]) wv4) (
              K (.tuple #[.slice up un uc, .bool ob]) wv3))) (
          K (.tuple #[.slice up un uc, .bool ob]) w2) := by
    intro w2 hb2 hR2 hu2
    have hr2 : RecAt TT w2 (root h p') := hR2.1 _ (by simp [recs])
    have done : Ok h (if h = 0 then 0 else 1) 5 p' → K (.tuple #[.slice up un uc, .bool ob]) w2 := fun hok => hK h p' w2 ⟨hok, hL', srt_del ht.srt, hV', hb2, hR2⟩ hu2 fun i hi => by
      rcases hi with hi | hi
      · exact .inl (.inl hi)
      · rcases hm1.fresh i hi with h | h
        · exact .inl (.inr h)
        · exact .inr h
    have hrl := hok'.root_len
    refine ⟨_, rfl, _, hb2.cell (i := 0) rfl, _, rfl, _, _, _, hr2.1.cell (i := 0) rfl, ifB_mk (fun h0 => ?_) (fun h0 => ?_)⟩
    · have he0 : (root h p').es.length = 0 := by simpa using h0
      refine ⟨_, rfl, _, hb2.cell (i := 0) rfl, leaf_spec hr2 ⟨_, rfl, ifB_mk (fun hl => ?_) (fun hl => ?_)⟩⟩
      · match h, p', top, hok', hL', hb2, hR2, hr2, he0, hl, hK, ht, hra, hm1, hu2 with
        | 0, p', top, hok', hL', hb2, hR2, hr2, he0, hl, hK, ht, hra, hm1, hu2 =>
          have : (root 0 p').bs = [] := hok'.1
          rw [this] at hl
          simp at hl
        | h + 1, (r, cs), top, hok', hL', hb2, hR2, hr2, he0, hl, hK, ht, hra, hm1, hu2 =>
          have he : r.es = [] := List.length_eq_zero_iff.1 he0
          have hcl : cs.length = 1 := by
            have : cs.length = r.es.length + 1 := hok'.2.1
            rw [this, he]; rfl
          obtain ⟨c, rfl⟩ : ∃ c, cs = [c] := by
            match cs, hcl with
            | [c], _ => exact ⟨c, rfl⟩
          have hbs : r.bs = [(root h c).a] := hok'.1
          have hokc : Ok h 2 5 c := hok'.2.2.2.2 c (by simp)
          have hlone := lone (c := c) he
          have hpos : (0 : Int) < (((root (h + 1) (r, [c])).bs.length : Nat) : Int) := by
            show (0 : Int) < ((r.bs.length : Nat) : Int)
            rw [hbs]
            exact (by decide : (0 : Int) < ((1 : Nat) : Int))
          obtain ⟨a, ha, hca⟩ := ptr_at (r := r) (bs1 := []) (x := (root h c).a) (bs2 := []) (i := 0) hr2 hbs rfl
          refine ⟨_, rfl, _, hb2.cell (i := 0) rfl, _, rfl, _, _, _, hr2.1.cell (i := 1) rfl, a, ha, by omega, hpos, _, hca, _, rfl, hb2.store (i := 0) (by simp) rfl fun w3 hb3 hu3 _ => ?_⟩
          have hRc : RS TT w2 (recs h c) := by
            have : RS TT w2 ([r] ++ (recs h c ++ [])) := hR2
            rw [List.append_nil] at this
            exact (RS.app.1 this).2.1
          have hcr := hokc.root_len
          refine hK h c w3 ⟨hokc.mono (by split <;> omega) hcr.2, by rw [← hL', hlone], srt_del ht.srt, hV', hb3, hRc.upd hu3 fun i hi e => hdr_out hb2 hRc (by rw [← show i = g from e]; exact hi)⟩ (hu2.then (hu3.mono fun i _ hi => .inl hi)) fun i hi => ?_
          rcases hi with hi | hi
          · exact .inl (.inl hi)
          · rcases hm1.fresh i (by
              obtain ⟨x, hx, hk⟩ := hi
              exact ⟨x, by rw [recs_node]; simp [hx], hk⟩) with h | h
            · exact .inl (.inr h)
            · exact .inr h
      · refine done ?_
        have hl0 : (root h p').bs.length = 0 := by simpa using hl
        match h, p', hok', he0, hl0 with
        | 0, p', hok', he0, hl0 => exact ⟨hok'.1, Nat.zero_le _, hok'.2.2⟩
        | h + 1, (r, cs), hok', he0, hl0 =>
          have h1 : r.bs = cs.map (fun c => (root h c).a) := hok'.1
          have h2 : cs.length = r.es.length + 1 := hok'.2.1
          have h3 : r.bs.length = 0 := hl0
          rw [h1, List.length_map] at h3
          omega
    · have he0 : (root h p').es.length ≠ 0 := by simpa using h0
      exact done (hok'.mono (by split <;> omega) hrl.2)
  refine ⟨up, un, uc, _, rfl, ifB_mk (fun ho => ?_) (fun ho => ?_)⟩
  · subst ho
    rw [if_pos rfl] at hlen
    refine ⟨_, rfl, _, hb1.cell (i := 1) rfl, _, rfl, hb1.store (i := 1) (by simp) rfl fun w2 hb2 hu2 _ => ?_⟩
    rw [i64_wrap (by omega) (by omega)] at hb2
    refine fin w2 ?_ (hm1.rs.upd hu2 fun i hi e => hdr_out hb1 hm1.rs (by rw [← show i = g from e]; exact hi)) (hu1.then (hu2.mono fun i _ hi => .inl hi))
    have e : ((l.length : Nat) : Int) - 1 = ((del k l).length : Int) := by omega
    rw [← e]
    exact hb2
  · subst ho
    rw [if_neg (by decide)] at hlen
    refine fin w1 ?_ hm1.rs hu1
    have e : l.length = (del k l).length := by omega
    rw [e] at hb1
    exact hb1
end
end Tv
end Go.Proofs.YtjcgociobhhijaaGreatDoor
namespace Go.Proofs.YtjcgociobhhijaaGreatDoor
open Go SX Bt
namespace Tv
structure Tre where
 g:Nat
 h:Nat
 top:Pg h
 l:List Ent
def TF (t:Tre) (k:Nat):Prop:=k=t.g∨FPs (recs t.h t.top) k
def At' (w:World) (t:Tre):Prop:=TrAt w t.g t.h t.top t.l
def TEs:List Nat:=[T.tree_Tree_s_afflux_api_Value,TT.tp,TT.te,TT.tq]
theorem At'.typed {w:World} {t:Tre} {k:Nat} (h:At' w t) (hk:TF t k):Typed w TEs k:=by
 rcases hk with rfl | ⟨r,hr,hk⟩
 ·exact ⟨_,_,TrAt.hdr h,by simp [TEs]⟩
 ·obtain ⟨l,e,hb,he⟩:=((TrAt.rs h).1 r hr).ty hk
  exact ⟨l,e,hb,List.mem_cons_of_mem _ he⟩
theorem At'.lt {w:World} {t:Tre} {k:Nat} (h:At' w t) (hk:TF t k):k < w.heap.size:=by
 obtain ⟨l,e,hb,_⟩:=h.typed hk
 exact hb.lt
theorem At'.upd {F:Nat→Prop} {w w':World} {t:Tre} (h:At' w t) (hu:Upd F w w') (hn:∀ k,TF t k→¬ F k):At' w' t:=
 ⟨TrAt.ok h,TrAt.toL h,TrAt.srt h,TrAt.isV h,hu.blk (TrAt.hdr h) (hn _ (.inl rfl)),(TrAt.rs h).upd hu fun k hk=>hn k (.inr hk)⟩
theorem At'.upd0 {w w':World} {t:Tre} (h:At' w t) (hu:Upd Nothing w w'):At' w' t:=h.upd hu fun _ _ f=>f
structure TMv (w w':World) (t t':Tre):Prop where
 at_:At' w' t'
 upd:Upd (TF t) w w'
 fresh:∀ k,TF t' k→TF t k∨w.heap.size≤k
 g:t'.g=t.g
def Trs (w:World) (l:List Tre):Prop:=(∀ t∈l,At' w t)∧l.Pairwise fun a b=>∀ k,TF a k→¬ TF b k
def TFs (l:List Tre) (k:Nat):Prop:=∃ t∈l,TF t k
theorem Trs.typed {w:World} {l:List Tre} {k:Nat} (h:Trs w l) (hk:TFs l k):Typed w TEs k:=by
 obtain ⟨t,ht,hk⟩:=hk
 exact (h.1 t ht).typed hk
theorem Trs.lt {w:World} {l:List Tre} {k:Nat} (h:Trs w l) (hk:TFs l k):k < w.heap.size:=by
 obtain ⟨t,ht,hk⟩:=hk
 exact (h.1 t ht).lt hk
theorem Trs.upd {F:Nat→Prop} {w w':World} {l:List Tre} (h:Trs w l) (hu:Upd F w w') (hn:∀ k,TFs l k→¬ F k):Trs w' l:=⟨fun t ht=>(h.1 t ht).upd hu fun k hk=>hn k ⟨t,ht,hk⟩,h.2⟩
theorem Trs.upd0 {w w':World} {l:List Tre} (h:Trs w l) (hu:Upd Nothing w w'):Trs w' l:=h.upd hu fun _ _ f=>f
theorem Trs.nil {w:World}:Trs w []:=⟨fun _ h=>(by cases h),List.Pairwise.nil⟩
theorem Trs.snoc {w:World} {l:List Tre} {t:Tre} (h:Trs w l) (ht:At' w t) (hn:∀ k,TFs l k→¬ TF t k):Trs w (l++[t]):=⟨fun x hx=>by
 rcases List.mem_append.1 hx with hx | hx
 ·exact h.1 x hx
 ·rw [List.mem_singleton.1 hx]; exact ht,List.pairwise_append.2 ⟨h.2,List.pairwise_singleton _ _,fun a ha b hb k hk=>by
 rw [List.mem_singleton.1 hb]
 exact hn k ⟨a,ha,hk⟩⟩⟩
theorem Trs.set {w w':World} {A B:List Tre} {t t':Tre} (h:Trs w (A++t :: B)) (hm:TMv w w' t t'):Trs w' (A++t' :: B)∧Upd (TFs (A++t :: B)) w w'∧∀ k,TFs (A++t' :: B) k→TFs (A++t :: B) k∨w.heap.size≤k:=by
 obtain ⟨h1,h2⟩:=h
 obtain ⟨hA,htB,hAB⟩:=List.pairwise_append.1 h2
 obtain ⟨htb,hB⟩:=List.pairwise_cons.1 htB
 have hat:∀ a∈A,At' w a:=fun a ha=>h1 a (by simp [ha])
 have hbt:∀ b∈B,At' w b:=fun b hb=>h1 b (by simp [hb])
 have ha':∀ a∈A,∀ k,TF a k→¬ TF t' k:=fun a ha k hk hk'=>by
  rcases hm.fresh k hk' with h | h
  ·exact hAB a ha t (by simp) k hk h
  ·have:=(hat a ha).lt hk; omega
 have hb':∀ b∈B,∀ k,TF t' k→¬ TF b k:=fun b hb k hk' hk=>by
  rcases hm.fresh k hk' with h | h
  ·exact htb b hb k h hk
  ·have:=(hbt b hb).lt hk; omega
 refine ⟨⟨fun x hx=>?_,List.pairwise_append.2 ⟨hA,List.pairwise_cons.2 ⟨hb',hB⟩,fun a ha b hb=>?_⟩⟩,hm.upd.mono fun k _ hk=>⟨t,by simp,hk⟩,fun k hk=>?_⟩
 ·rcases List.mem_append.1 hx with hx | hx
  ·exact (hat x hx).upd hm.upd fun k hk hk'=>hAB x hx t (by simp) k hk hk'
  ·rcases List.mem_cons.1 hx with rfl | hx
   ·exact hm.at_
   ·exact (hbt x hx).upd hm.upd fun k hk hk'=>htb x hx k hk' hk
 ·rcases List.mem_cons.1 hb with rfl | hb
  ·exact ha' a ha
  ·exact hAB a ha b (by simp [hb])
 ·obtain ⟨x,hx,hk⟩:=hk
  rcases List.mem_append.1 hx with hx | hx
  ·exact .inl ⟨x,by simp [hx],hk⟩
  ·rcases List.mem_cons.1 hx with rfl | hx
   ·rcases hm.fresh k hk with h | h
    ·exact .inl ⟨t,by simp,h⟩
    ·exact .inr h
   ·exact .inl ⟨x,by simp [hx],hk⟩
section
variable {w:World} {K:Value→World→Prop} {t:Tre} {k:ByteArray}
theorem Put_spec {v:Value} (ht:At' w t) (hv:IsV v) (hsz:t.l.length≤1000000) (hK:∀ t' w',t'.l=ins k v t.l→TMv w w' t t'→K (.tuple #[(kval k t.l).getD zero,.bool (kval k t.l).isSome]) w'):Cv F.z148 #[.pointer (some ⟨t.g,0,none⟩),.string k,v] w K:=
 tput_spec ht hv hsz fun h' top' w' h1 h2 h3=>hK ⟨t.g,h',top',ins k v t.l⟩ w' rfl ⟨h1,h2,h3,rfl⟩
theorem Delete_spec (ht:At' w t) (hsz:t.l.length≤1000000) (hK:∀ t' w',t'.l=del k t.l→TMv w w' t t'→K (.tuple #[(kval k t.l).getD zero,.bool (kval k t.l).isSome]) w'):Cv F.z145 #[.pointer (some ⟨t.g,0,none⟩),.string k] w K:=
 tdelete_spec ht hsz fun h' top' w' h1 h2 h3=>hK ⟨t.g,h',top',del k t.l⟩ w' rfl ⟨h1,h2,h3,rfl⟩
theorem Get_spec (ht:At' w t) (hK:∀ w',Upd Nothing w w'→K (.tuple #[(kval k t.l).getD zero,.bool (kval k t.l).isSome]) w'):Cv F.z146 #[.pointer (some ⟨t.g,0,none⟩),.string k] w K:=get_spec ht hK
theorem New_spec (hK:∀ t w',At' w' t→t.l=[]→Upd Nothing w w'→(∀ k,TF t k→w.heap.size≤k)→K (.pointer (some ⟨t.g,0,none⟩)) w'):Cv F.z143 #[] w K:=
 new_spec fun g top w' h1 h2 h3 h4=>hK ⟨g,0,top,[]⟩ w' h1 rfl h2 fun k hk=>by
  rcases hk with rfl | hk
  ·exact h3
  ·exact h4 k hk
end
end Tv
end Go.Proofs.YtjcgociobhhijaaGreatDoor
namespace Go.Proofs.YtjcgociobhhijaaGreatDoor
open Go SX
namespace Va
theorem bs_nil:bs []=⟨#[]⟩:=rfl
theorem cells_cells {w:World} {b:Nat} {v:Val} {e:Nat} (hb:Blk w b v.cells e):SX.cellsAt w (Addr.mk b 0 none) 0 [.int .i64 v.k,.int .i64 v.n,.string v.s]:=⟨hb.cell (i:=0) rfl,hb.cell (i:=1) rfl,hb.cell (i:=2) rfl,trivial⟩
theorem val_one (v:Val):∀ x∈(#[.int .i64 v.k,.int .i64 v.n,.string v.s]:Array Value).toList,x.oneCell'=true:=by simp [Value.oneCell']
section
variable {w:World} {K:Value→World→Prop} {p q:Option Addr} {n c m d:Nat} {xs ys:List Val} {a b v:Val}
theorem wrong_spec (hK:∀ w',Upd Nothing w w'→K (.bool (!v.right)) w'):Cv F.z187 #[v.val] w K:=
 R.z187 (by
  unfold C.z187
  refine New.use (val_one v) fun g w1 hb1 hu1 hge1 _=>?_
  have hfin:∀ x:Bool,x = !v.right→K (.bool x) w1:=fun x hx=>hx ▸ hK w1 hu1
  refine ⟨v.k,hb1.cell (i:=0) rfl,ifB_mk (fun h=>?_) (fun h=>ifB_mk (fun h2=>?_) (fun h2=>ifB_mk (fun h3=>?_) (fun h3=>?_)))⟩
  ·refine ⟨v.s,hb1.cell (i:=2) rfl,hfin _ ?_⟩
   have:v.k=1:=by simpa using h
   simp [Val.right,this,bs_nil]
  ·have:v.k=2:=by simpa using h2
   refine ⟨v.n,hb1.cell (i:=1) rfl,ifB_mk (fun h3=>hfin _ ?_) (fun h3=>⟨v.s,hb1.cell (i:=2) rfl,hfin _ ?_⟩)⟩
   ·have h3':v.n≠0:=by simpa using h3
    simp [Val.right,this,h3']
   ·have h3':v.n=0:=by simpa using h3
    rw [Bool.eq_iff_iff]
    simp [Val.right,this,h3']
  ·have:v.k=3:=by simpa using h3
   have hd:Int.fdiv v.n (2 ^ (min (1:Int).toNat IntKind.i64.bits))=v.n / 2:=by
    rw [show (2:Int) ^ (min (1:Int).toNat IntKind.i64.bits)=2 by decide,Int.fdiv_eq_ediv_of_nonneg _ (by omega)]
   refine ⟨v.n,hb1.cell (i:=1) rfl,by omega,ifB_mk (fun h4=>hfin _ ?_) (fun h4=>⟨v.s,hb1.cell (i:=2) rfl,hfin _ ?_⟩)⟩
   ·rw [hd] at h4
    have h4':v.n / 2≠0:=by simpa using h4
    have h5:v.n≠0:=by omega
    have h6:v.n≠1:=by omega
    simp [Val.right,this,h5,h6]
   ·rw [hd] at h4
    have h4':v.n / 2=0:=by simpa using h4
    have h5:v.n=0∨v.n=1:=by omega
    rcases h5 with h5 | h5 <;> simp [Val.right,this,h5,bs_nil]
  ·have e1:v.k≠1:=by simpa using h
   have e2:v.k≠2:=by simpa using h2
   have e3:v.k≠3:=by simpa using h3
   exact hfin _ (by simp [Val.right,e1,e2,e3]))
theorem rright_spec (hK:∀ w',Upd Nothing w w'→K (.bool v.right) w'):Cv F.z23 #[v.val] w K:=
 R.z23 (by
  unfold C.z23
  refine New.use (val_one v) fun g w1 hb1 hu1 hge1 _=>?_
  have hfin:=hK w1 hu1
  have hk:w1.cell? ((Addr.mk g 0 none).add 0)=some (.int .i64 v.k):=hb1.cell (i:=0) rfl
  have hn:w1.cell? ((Addr.mk g 0 none).add 1)=some (.int .i64 v.n):=hb1.cell (i:=1) rfl
  have hs:w1.cell? ((Addr.mk g 0 none).add 2)=some (.string v.s):=hb1.cell (i:=2) rfl
  simp only [hk,hn,hs,Option.some.injEq,Value.int.injEq,Value.string.injEq,true_and,exists_eq_left',bs_nil]
  unfold Val.right at hfin
  by_cases e1:v.k=1
  ·simp only [e1,beq_self_eq_true,ifB,Bool.true_and,Bool.true_or,show ((1:Int) == 2)=false by decide,show ((1:Int) == 3)=false by decide,Bool.false_and,Bool.or_false] at hfin ⊢
   cases hse:sEq v.s ⟨#[]⟩ <;> simp only [hse,ifB] at hfin ⊢ <;> exact hfin
  ·by_cases e2:v.k=2
   ·simp only [e2,beq_self_eq_true,ifB,Bool.true_and,show ((2:Int) == 1)=false by decide,show ((2:Int) == 3)=false by decide,Bool.false_and,Bool.or_false,Bool.false_or] at hfin ⊢
    by_cases hn0:v.n=0
    ·simp only [hn0,beq_self_eq_true,Bool.true_and] at hfin ⊢
     cases hse:decide ((v.s.size:Int)≤200) <;> simp only [hse] at hfin ⊢ <;> exact hfin
    ·have:(v.n == 0)=false:=by simpa using hn0
     simp only [this,Bool.false_and] at hfin ⊢
     exact hfin
   ·have h1:(v.k == 1)=false:=by simpa using e1
    have h2:(v.k == 2)=false:=by simpa using e2
    simp only [h1,h2,Bool.false_and,Bool.false_or,ifB] at hfin ⊢
    cases h3:v.k == 3 <;> simp only [h3,Bool.true_and,Bool.false_and] at hfin ⊢
    ·exact hfin
    ·cases h4:v.n == 0 <;> simp only [h4,Bool.true_or,Bool.true_and,Bool.false_or] at hfin ⊢
     ·cases h5:v.n == 1 <;> simp only [h5,Bool.true_and,Bool.false_and] at hfin ⊢ <;> exact hfin
     ·exact hfin)
theorem index_wrong (hat:At w p (vals xs)) (hl:xs.length=n) (hn:n≤9223372036854775806) (hK:∀ w' (r:Int),(r < 0↔∀ x∈xs,x.right=true)→Upd Nothing w w'→K (.int .i64 r) w') :
  Cv F.z103 #[.slice p n c,.func (.func F.z187) #[] #[]] w K:=
 R.z103 (by
  unfold C.z103
  refine ⟨fun i w'=>∃ k:Nat,i=k∧k≤n∧Upd Nothing w w'∧∀ x∈xs.take k,x.right=true,fun i _=>n - i.toNat,⟨0,rfl,by omega,Upd.refl _ _,by simp⟩,?_⟩
  rintro i w1 ⟨k,rfl,hk,hu1,hr⟩
  refine ifB_mk (fun h=>?_) (fun h=>?_)
  ·have hkn:k < n:=by simpa using h
   obtain ⟨a,ha,hc⟩:=(hat.upd0 hu1).val (i:=k) (by omega)
   refine ⟨a,ha,by omega,by omega,_,_,_,hc,?_⟩
   show Cv F.z187 #[xs[k].val] w1 _
   refine wrong_spec fun w2 hu2=>⟨_,rfl,ifB_mk (fun h=>?_) (fun h=>?_)⟩
   ·refine hK w2 k ⟨fun h=>by omega,fun h'=>?_⟩ (hu1.then hu2)
    have:=h' xs[k] (List.getElem_mem _)
    rw [this] at h
    cases h
   ·rw [i64_wrap (by omega) (by omega)]
    refine ⟨⟨k+1,by omega,by omega,hu1.then hu2,?_⟩,by show n - _ < n - _; omega⟩
    rw [List.take_succ_eq_append_getElem (by omega)]
    intro x hx
    rcases List.mem_append.1 hx with hx | hx
    ·exact hr x hx
    ·have:x=xs[k]:=by simpa using hx
     rw [this]; simpa using h
  ·have hkn:k=n:=by simp at h; omega
   rw [List.take_of_length_le (by omega)] at hr
   exact hK w1 (-1) ⟨fun _=>hr,fun _=>by omega⟩ hu1)
theorem right_spec (hat:At w p (vals xs)) (hl:xs.length=n) (hn:n≤9223372036854775806) (hK:∀ w',Upd Nothing w w'→K (.bool (xs.all Val.right)) w'):Cv F.z184 #[.slice p n c] w K:=
 R.z184 (by
  unfold C.z184
  refine R.z96 ?_
  unfold C.z96
  refine index_wrong hat hl hn fun w1 r hr hu1=>⟨r,rfl,_,rfl,?_⟩
  have:=hK w1 hu1
  have e:(!decide (0≤r))=xs.all Val.right:=by
   rw [Bool.eq_iff_iff,List.all_eq_true,← hr]
   simp
  rw [e]
  exact this)
theorem all_spec (hat:At w p (vals xs)) (hl:xs.length=n) (hn:n≤9223372036854775806) (hK:∀ w',Upd Nothing w w'→K (.bool (xs.all Val.right)) w'):Cv F.z19 #[.slice p n c] w K:=
 R.z19 (by
  unfold C.z19
  refine ⟨fun i w'=>∃ k:Nat,i=k∧k≤n∧Upd Nothing w w'∧∀ x∈xs.take k,x.right=true,fun i _=>n - i.toNat,⟨0,rfl,by omega,Upd.refl _ _,by simp⟩,?_⟩
  rintro i w1 ⟨k,rfl,hk,hu1,hr⟩
  refine ifB_mk (fun h=>?_) (fun h=>?_)
  ·have hkn:k < n:=by simpa using h
   obtain ⟨a,ha,hc⟩:=(hat.upd0 hu1).val (i:=k) (by omega)
   refine ⟨a,ha,by omega,by omega,_,_,_,hc,?_⟩
   show Cv F.z23 #[xs[k].val] w1 _
   refine rright_spec fun w2 hu2=>⟨_,rfl,ifB_mk (fun h=>?_) (fun h=>?_)⟩
   ·have:=hK w2 (hu1.then hu2)
    have e:xs.all Val.right=false:=by
     rw [Bool.eq_false_iff]
     intro hall
     have:=List.all_eq_true.1 hall xs[k] (List.getElem_mem _)
     rw [this] at h
     cases h
    rw [e] at this
    exact this
   ·rw [i64_wrap (by omega) (by omega)]
    refine ⟨⟨k+1,by omega,by omega,hu1.then hu2,?_⟩,by show n - _ < n - _; omega⟩
    rw [List.take_succ_eq_append_getElem (by omega)]
    intro x hx
    rcases List.mem_append.1 hx with hx | hx
    ·exact hr x hx
    ·have:x=xs[k]:=by simpa using hx
     rw [this]; simpa using h
  ·have hkn:k=n:=by simp at h; omega
   rw [List.take_of_length_le (by omega)] at hr
   have:=hK w1 hu1
   rw [List.all_eq_true.2 hr] at this
   exact this)
def great (xs:List Val):Bool:=decide (30 < xs.length) || xs.any fun x=>decide (300 < x.s.size)
theorem great_spec (hat:At w p (vals xs)) (hl:xs.length=n) (hK:∀ w',Upd Nothing w w'→K (.bool (great xs)) w'):Cv F.z20 #[.slice p n c] w K:=
 R.z20 (by
  unfold C.z20
  refine ifB_mk (fun h=>?_) (fun h=>?_)
  ·have:=hK w (Upd.refl _ _)
   have e:great xs=true:=by simp at h; simp [great]; omega
   rw [e] at this
   exact this
  have hn:n≤30:=by simp at h; omega
  refine ⟨fun i w'=>∃ k:Nat,i=k∧k≤n∧Upd Nothing w w'∧∀ x∈xs.take k,¬ 300 < x.s.size,fun i _=>n - i.toNat,⟨0,rfl,by omega,Upd.refl _ _,by simp⟩,?_⟩
  rintro i w1 ⟨k,rfl,hk,hu1,hr⟩
  refine ifB_mk (fun h=>?_) (fun h=>?_)
  ·have hkn:k < n:=by simpa using h
   obtain ⟨a,ha,hc⟩:=(hat.upd0 hu1).val (i:=k) (by omega)
   refine ⟨a,ha,by omega,by omega,_,hc.2.2.1,ifB_mk (fun h2=>?_) (fun h2=>?_)⟩
   ·have:=hK w1 hu1
    have e:great xs=true:=by
     unfold great
     rw [Bool.or_eq_true]
     right
     rw [List.any_eq_true]
     exact ⟨xs[k],List.getElem_mem _,by simp at h2 ⊢; omega⟩
    rw [e] at this
    exact this
   ·rw [i64_wrap (by omega) (by omega)]
    refine ⟨⟨k+1,by omega,by omega,hu1,?_⟩,by show n - _ < n - _; omega⟩
    rw [List.take_succ_eq_append_getElem (by omega)]
    intro x hx
    rcases List.mem_append.1 hx with hx | hx
    ·exact hr x hx
    ·have:x=xs[k]:=by simpa using hx
     rw [this]; simp at h2; omega
  ·have hkn:k=n:=by simp at h; omega
   rw [List.take_of_length_le (by omega)] at hr
   have:=hK w1 hu1
   have e:great xs=false:=by
    unfold great
    rw [Bool.or_eq_false_iff]
    refine ⟨by simp; omega,?_⟩
    rw [List.any_eq_false]
    intro x hx
    simpa using hr x hx
   rw [e] at this
   exact this)
theorem int_spec {x:Int} (hK:∀ w',Upd Nothing w w'→K (Val.val ⟨1,x,⟨#[]⟩⟩) w'):Cv F.z182 #[.int .i64 x] w K:=
 R.z182 (by
  unfold C.z182
  refine New.use (by simp [Value.oneCell']) fun g w2 hb2 hu2 hge2 _=>?_
  refine hb2.store (i:=0) (by simp) rfl fun w3 hb3 hu3 _=>hb3.store (i:=1) (by simp) rfl fun w4 hb4 hu4 _=>hb4.store (i:=2) (by simp) rfl fun w5 hb5 hu5 _=>?_
  have hg:∀ i,One g i→w.heap.size≤i:=fun i hi=>by rw [show i=g from hi]; exact hge2
  exact ⟨_,_,_,cells_cells (v:=⟨1,x,⟨#[]⟩⟩) hb5,hK w5 (((hu2.fresh hu3 hg).fresh hu4 hg).fresh hu5 hg)⟩)
end
end Va
end Go.Proofs.YtjcgociobhhijaaGreatDoor
namespace Go.Proofs.YtjcgociobhhijaaGreatDoor.SX
open Go
def up (n:Int):Nat:=((n+9223372036854775808) % 18446744073709551616).toNat
def be8 (n:Int):List UInt8:=[up n / 2 ^ 56,up n / 2 ^ 48,up n / 2 ^ 40,up n / 2 ^ 32,up n / 2 ^ 24,up n / 2 ^ 16,up n / 2 ^ 8,up n / 2 ^ 0].map fun x=>UInt8.ofNat (x % 256)
@[simp] theorem be8_length (n:Int):(be8 n).length=8:=rfl
def vrest (v:Val):List UInt8:=if v.k=1 then be8 v.n else if v.k=2 then repl 0 [0,255] v.s.data.toList++[0,1] else if v.k=3 then [lowByte v.n] else []
def vkey (v:Val):List UInt8:=lowByte v.k :: vrest v
def vkeys (xs:List Val):List UInt8:=xs.flatMap vkey
theorem vkeys_take {xs:List Val} {k:Nat} (h:k < xs.length):vkeys (xs.take (k+1))=vkeys (xs.take k)++vkey xs[k]:=by
 unfold vkeys
 rw [List.take_succ_eq_append_getElem h,List.flatMap_append]
 simp only [List.flatMap_cons,List.flatMap_nil,List.append_nil]
theorem repl_length (c:UInt8) (new s:List UInt8) (h:new.length=2):(repl c new s).length≤2 * s.length:=by
 induction s with
 | nil=>simp [repl]
 | cons b s ih=>
  have:repl c new (b :: s)=(if b=c then new else [b])++repl c new s:=rfl
  rw [this,List.length_append,List.length_cons]
  split <;> simp [*] <;> omega
theorem vkey_length (v:Val):(vkey v).length≤2 * v.s.size+9:=by
 unfold vkey vrest
 rw [List.length_cons]
 split
 ·simp
 ·split
  ·have:=repl_length 0 [0,255] v.s.data.toList rfl
   have e:v.s.data.toList.length=v.s.size:=rfl
   rw [List.length_append]
   simp only [List.length_cons,List.length_nil]
   omega
  ·split <;> simp
theorem vkeys_length {B:Nat}:∀ xs:List Val,(∀ x∈xs,x.s.size≤B)→(vkeys xs).length≤xs.length * (2 * B+9)
 | [],_=>by simp [vkeys]
 | x :: xs,h=>by
  have ih:=vkeys_length xs fun y hy=>h y (by simp [hy])
  have h1:=vkey_length x
  have h2:=h x (by simp)
  have:vkeys (x :: xs)=vkey x++vkeys xs:=rfl
  rw [this,List.length_append,List.length_cons,Nat.add_mul,Nat.one_mul]
  omega
theorem xor_top_lt {x:Nat} (h:x < 2 ^ 63):x ^^^ 2 ^ 63=2 ^ 63+x:=by
 apply Nat.eq_of_testBit_eq
 intro i
 rw [Nat.testBit_xor]
 rcases Nat.lt_trichotomy i 63 with hi | hi | hi
 ·rw [Nat.testBit_two_pow_add_gt hi,Nat.testBit_two_pow_of_ne (by omega)]
  simp
 ·subst hi
  rw [Nat.testBit_two_pow_add_eq,Nat.testBit_two_pow_self]
  simp
 ·rw [Nat.testBit_two_pow_of_ne (by omega)]
  have h1:x.testBit i=false:=Nat.testBit_lt_two_pow (Nat.lt_of_lt_of_le h (Nat.pow_le_pow_right (by omega) (by omega)))
  have h2:(2 ^ 63+x).testBit i=false:=Nat.testBit_lt_two_pow (by
   have:2 ^ 64≤2 ^ i:=Nat.pow_le_pow_right (by omega) (by omega)
   omega)
  rw [h1,h2]
  rfl
theorem xor_top {x:Nat} (h:x < 2 ^ 64):x ^^^ 2 ^ 63=(x+2 ^ 63) % 2 ^ 64:=by
 by_cases hx:x < 2 ^ 63
 ·rw [xor_top_lt hx]; omega
 ·obtain ⟨y,rfl⟩:∃ y,x=2 ^ 63+y:=⟨x - 2 ^ 63,by omega⟩
  have hy:y < 2 ^ 63:=by omega
  have h1:=xor_top_lt hy
  rw [← h1,Nat.xor_assoc,Nat.xor_self,Nat.xor_zero]
  have:=h1 ▸ h
  omega
theorem bits_top (n:Int):bits .xor .u64 (IntKind.u64.wrap n) 9223372036854775808=(up n:Int):=by
 have h1:IntKind.u64.wrap n=((n % 18446744073709551616).toNat:Int):=by
  simp [IntKind.wrap,IntKind.signed,IntKind.bits]
  omega
 have hlt:(n % 18446744073709551616).toNat < 2 ^ 64:=by omega
 rw [h1]
 have key:∀ a:Nat,a < 2 ^ 64→(BitVec.ofInt 64 (a:Int) ^^^ BitVec.ofInt 64 ((2 ^ 63:Nat):Int)).toNat=(a+2 ^ 63) % 2 ^ 64:=fun a ha=>by
  rw [BitVec.ofInt_natCast,BitVec.ofInt_natCast,BitVec.toNat_xor,BitVec.toNat_ofNat,BitVec.toNat_ofNat,Nat.mod_eq_of_lt ha,Nat.mod_eq_of_lt (show 2 ^ 63 < 2 ^ 64 by decide),xor_top ha]
 show IntKind.u64.wrap (((BitVec.ofInt 64 (((n % 18446744073709551616).toNat:Nat):Int) ^^^ BitVec.ofInt 64 ((2 ^ 63:Nat):Int)).toNat:Nat):Int)=_
 rw [key _ hlt]
 simp [IntKind.wrap,IntKind.signed,IntKind.bits,up]
 omega
theorem lay_byte (n:Int) {i:Nat} (hi:i≤64):IntKind.u8.wrap (Int.fdiv (bits .xor .u64 (IntKind.u64.wrap n) 9223372036854775808) (2 ^ (min i IntKind.u64.bits)))=((UInt8.ofNat (up n / 2 ^ i % 256)).toNat:Int):=by
 rw [bits_top,show min i IntKind.u64.bits=i by simp [IntKind.bits]; omega]
 have h2:(2:Int) ^ i=((2 ^ i:Nat):Int):=by simp
 rw [h2,Int.fdiv_eq_ediv_of_nonneg _ (Int.natCast_nonneg _),← Int.natCast_ediv,lowByte_wrap]
 unfold lowByte
 congr 2
def beN (u:Nat):Nat→List UInt8
 | 0=>[]
 | i+1=>UInt8.ofNat (u / 256 ^ i % 256) :: beN u i
theorem beN_eight (n:Int):beN (up n) 8=be8 n:=by
 simp [beN,be8]
end Go.Proofs.YtjcgociobhhijaaGreatDoor.SX
namespace Go.Proofs
open Go.Shelf
def Tryz.lays155_ren:Go.Shelf.Ren:=⟨fun | 155=>192 | 154=>209 | 138=>217 | 165=>218 | 143=>219 | 166=>220 | 197=>221 | 169=>222 | 195=>226 | 218=>227 | 240=>228 | 241=>229 | 219=>230 | 260=>231 | 276=>235 | 277=>236 | 217=>237 | 225=>238 | 224=>239 | 267=>240 | 266=>245 | 314=>246 | n=>n,fun | 9=>9 | 3=>3 | 4=>4 | 72=>297 | 0=>0 | 76=>300 | 105=>302 | 21=>21 | 5=>5 | 70=>295 | 20=>20 | 37=>57 | 75=>299 | 127=>308 | 164=>315 | 46=>87 | 119=>318 | 139=>321 | 138=>320 | 146=>326 | 51=>325 | 80=>98 | n=>n,fun | 1=>0 | 3=>1 | 4=>2 | n=>n⟩
theorem Tryz.lays155:Go.Proofs.Lays.n155 Tryz.prog Tryz.lays155_ren:={
 mixed:=by kernel_rfl
 f138:=Tryz.func217.trans (congrArg some (by kernel_rfl))
 f143:=Tryz.func219.trans (congrArg some (by kernel_rfl))
 f154:=Tryz.func209.trans (congrArg some (by kernel_rfl))
 f155:=Tryz.func192.trans (congrArg some (by kernel_rfl))
 f165:=Tryz.func218.trans (congrArg some (by kernel_rfl))
 f166:=Tryz.func220.trans (congrArg some (by kernel_rfl))
 f169:=Tryz.func222.trans (congrArg some (by kernel_rfl))
 f195:=Tryz.func226.trans (congrArg some (by kernel_rfl))
 f197:=Tryz.func221.trans (congrArg some (by kernel_rfl))
 f217:=Tryz.func237.trans (congrArg some (by kernel_rfl))
 f218:=Tryz.func227.trans (congrArg some (by kernel_rfl))
 f219:=Tryz.func230.trans (congrArg some (by kernel_rfl))
 f224:=Tryz.func239.trans (congrArg some (by kernel_rfl))
 f225:=Tryz.func238.trans (congrArg some (by kernel_rfl))
 f240:=Tryz.func228.trans (congrArg some (by kernel_rfl))
 f241:=Tryz.func229.trans (congrArg some (by kernel_rfl))
 f260:=Tryz.func231.trans (congrArg some (by kernel_rfl))
 f266:=Tryz.func245.trans (congrArg some (by kernel_rfl))
 f267:=Tryz.func240.trans (congrArg some (by kernel_rfl))
 f276:=Tryz.func235.trans (congrArg some (by kernel_rfl))
 f277:=Tryz.func236.trans (congrArg some (by kernel_rfl))
 f314:=Tryz.func246.trans (congrArg some (by kernel_rfl))
 t0:=Tryz.underlying0
 a0:=Tryz.isAgg0
 z0:=Tryz.sizeOf0
 v0:=Tryz.zeroValue0
 t3:=Tryz.underlying3
 a3:=Tryz.isAgg3
 z3:=Tryz.sizeOf3
 v3:=Tryz.zeroValue3
 t4:=Tryz.underlying4
 a4:=Tryz.isAgg4
 z4:=Tryz.sizeOf4
 v4:=Tryz.zeroValue4
 t5:=Tryz.underlying5
 a5:=Tryz.isAgg5
 z5:=Tryz.sizeOf5
 v5:=Tryz.zeroValue5
 t9:=Tryz.underlying9
 a9:=Tryz.isAgg9
 z9:=Tryz.sizeOf9
 v9:=Tryz.zeroValue9
 t20:=Tryz.underlying20
 a20:=Tryz.isAgg20
 z20:=Tryz.sizeOf20
 v20:=Tryz.zeroValue20
 t21:=Tryz.underlying21
 a21:=Tryz.isAgg21
 z21:=Tryz.sizeOf21
 v21:=Tryz.zeroValue21
 t37:=Tryz.underlying57
 a37:=Tryz.isAgg57
 z37:=Tryz.sizeOf57
 v37:=Tryz.zeroValue57
 t46:=Tryz.underlying87
 a46:=Tryz.isAgg87
 z46:=Tryz.sizeOf87
 v46:=Tryz.zeroValue87
 t51:=Tryz.underlying325
 a51:=Tryz.isAgg325
 z51:=Tryz.sizeOf325
 v51:=Tryz.zeroValue325
 t70:=Tryz.underlying295
 a70:=Tryz.isAgg295
 z70:=Tryz.sizeOf295
 v70:=Tryz.zeroValue295
 t72:=Tryz.underlying297
 a72:=Tryz.isAgg297
 z72:=Tryz.sizeOf297
 v72:=Tryz.zeroValue297
 t75:=Tryz.underlying299
 a75:=Tryz.isAgg299
 z75:=Tryz.sizeOf299
 v75:=Tryz.zeroValue299
 t76:=Tryz.underlying300
 a76:=Tryz.isAgg300
 z76:=Tryz.sizeOf300
 v76:=Tryz.zeroValue300
 t105:=Tryz.underlying302
 a105:=Tryz.isAgg302
 z105:=Tryz.sizeOf302
 v105:=Tryz.zeroValue302
 t119:=Tryz.underlying318
 a119:=Tryz.isAgg318
 z119:=Tryz.sizeOf318
 t127:=Tryz.underlying308
 a127:=Tryz.isAgg308
 z127:=Tryz.sizeOf308
 v127:=Tryz.zeroValue308
 t138:=Tryz.underlying320
 a138:=Tryz.isAgg320
 z138:=Tryz.sizeOf320
 v138:=Tryz.zeroValue320
 t139:=Tryz.underlying321
 a139:=Tryz.isAgg321
 z139:=Tryz.sizeOf321
 v139:=Tryz.zeroValue321
 t146:=Tryz.underlying326
 a146:=Tryz.isAgg326
 z146:=Tryz.sizeOf326
 v146:=Tryz.zeroValue326
 t164:=Tryz.underlying315
 a164:=Tryz.isAgg315
 z164:=Tryz.sizeOf315
 v164:=Tryz.zeroValue315
 g1:=by kernel_rfl
 g3:=by kernel_rfl
 g4:=by kernel_rfl }
theorem Tryz.Builder_Extra_155:Builder.Extra Tryz.prog Tryz.lays155_ren:={
 sizeBuilder:=by kernel_rfl
 liesBuilder:=by kernel_rfl
 t5:=Tryz.underlying5
 a5:=Tryz.isAgg5
 z5:=Tryz.sizeOf5
 v5:=Tryz.zeroValue5
 infoByte:=by kernel_rfl
 cellsByte:=by kernel_rfl
 sizeByte:=by kernel_rfl
 neB5:=by decide }
open Go.RowKit Go.Lib in
theorem Tryz.strings_ReplaceAll (s old new:ByteArray) (m:Int) (w:World) (hs:s.size < 4294967281) (hm:w.cell? ⟨0,0,none⟩=some (.int .i64 m)) (h1:1≤old.size) (hlen:s.size+Lib.countB s old * new.size≤140737488355328) :
  Calls Tryz.prog 192 #[.string s,.string old,.string new] w fun e w'=>
   e = .returned (.string ⟨(Lib.replaceAll s.data.toList old.data.toList new.data.toList).toArray⟩)∧Below w.heap.size w w':=Any.strings_ReplaceAll Tryz.lays155 Tryz.Builder_Extra_155 s old new m w hs hm h1 hlen
end Go.Proofs
namespace Go.Proofs.YtjcgociobhhijaaGreatDoor
open Go SX
namespace Va
def MX (w:World):Prop:=∃ m,w.cell? ⟨0,0,none⟩=some (.int .i64 m)
theorem MX.upd {F:Nat→Prop} {w w':World} (h:MX w) (hu:Upd F w w') (hn:¬ F 0):MX w':=⟨_,hu.cell h.choose_spec hn⟩
theorem MX.upd0 {w w':World} (h:MX w) (hu:Upd Nothing w w'):MX w':=h.upd hu fun f=>f
theorem MX.lt {w:World} (h:MX w):0 < w.heap.size:=World.block_lt_of_cell? w ⟨0,0,none⟩ h.choose_spec
theorem su8:SliceT prog T.s_uint8 T.uint8 1 1 [.int .u8 0]:=SliceT.of_tab (ti:=ti57) (te:=ti5) tabOK (by kernel_rfl) (by kernel_rfl) (by kernel_rfl) (by kernel_rfl)
theorem und_u8:prog.underlying T.uint8=some (.int .u8):=Tryz.underlying5
theorem und_str:prog.underlying T.string=some .string:=Tryz.underlying9
section
variable {w:World} {K:Value→World→Prop} {p q:Option Addr} {n c m d:Nat} {xs ys:List Val} {a b v:Val} {l:List UInt8}
theorem to_text (hat:At w p (bytesV l)) (hl:l.length=n) (hK:K (.string ⟨l.toArray⟩) w):ConvV prog T.s_uint8 T.string (.slice p n c) w K:=conv_bytes su8.desc und_u8 und_str hat hl hK
theorem app1 {x:Int} {y:UInt8} (hx:x=(y.toNat:Int)) (ho:Own w T.uint8 1 p n c (bytesV l)) (hsz:n+1≤1099511627776)
  (hK:∀ p' c' w',Own w' T.uint8 1 p' (n+1) c' (bytesV (l++[y]))→Upd (Fp p c) w w'→(∀ k,Fp p' c' k→Fp p c k∨w.heap.size≤k)→K (.slice p' (n+1) c') w') :
  ∀ g w1,New w (.cells #[.int .u8 x] T.uint8) g w1→BuiltV prog .append #[T.s_uint8,T.s_uint8] T.s_uint8 #[.slice p n c,.slice (some (Addr.mk g 0 none)) 1 1] w1 K:=by
 subst hx
 refine New.use (by simp [Value.oneCell']) fun g w1 hb hu hge _=>?_
 refine append_own (m:=1) su8 (.inl su8.desc) (ho.upd0 hu) (Src.slice (m:=1) (ys:=[.int .u8 (y.toNat:Int)]) (At.of_blk hb fun j v hj=>by rw [Nat.zero_add]; exact hj) rfl (by simp [Value.oneCell'])) (by decide) (by decide) (by omega) fun p' c' w' ho' hu' hf'=>?_
 refine hK p' c' w' (by rw [bytesV_append]; exact ho') (hu.trans hu' (fun _ _ h=>h.elim) (fun _ _ h=>h)) fun k hk=>?_
 rcases hf' k hk with h | h
 ·exact .inl h
 ·exact .inr (Nat.le_trans hu.size h)
theorem app_text {s:ByteArray} (ho:Own w T.uint8 1 p n c (bytesV l)) (hsz:n+s.size≤1099511627776)
  (hK:∀ p' c' w',Own w' T.uint8 1 p' (n+s.size) c' (bytesV (l++s.data.toList))→Upd (Fp p c) w w'→(∀ k,Fp p' c' k→Fp p c k∨w.heap.size≤k)→K (.slice p' (n+s.size) c') w') :
  BuiltV prog .append #[T.s_uint8,T.string] T.s_uint8 #[.slice p n c,.string s] w K:=by
 refine append_own su8 (.inr und_str) ho (Src.str s) (by decide) (by decide) (by omega) fun p' c' w' ho' hu' hf'=>?_
 exact hK p' c' w' (by rw [bytesV_append]; exact ho') hu' hf'
theorem replace_spec {s old new:ByteArray} (hM:MX w) (hs:s.size < 4294967281) (h1:1≤old.size) (hlen:s.size+Lib.countB s old * new.size≤140737488355328)
  (hK:∀ w',Upd Nothing w w'→K (.string ⟨(Lib.replaceAll s.data.toList old.data.toList new.data.toList).toArray⟩) w'):Cv F.z117 #[.string s,.string old,.string new] w K:=
 CallsV.of_body Tryz.func192 (by kernel_rfl) (by kernel_rfl) (Calls.mono (Tryz.strings_ReplaceAll s old new hM.choose w hs hM.choose_spec h1 hlen) fun e w' ⟨he,hb⟩=>⟨_,he,hK w' ⟨hb.os,hb.tape,hb.output,hb.size,fun k hk _=>hb.block k hk⟩⟩)
theorem replace_one {s new:ByteArray} {ch:UInt8} (hM:MX w) (hs:s.size≤1000000) (hnew:new.size≤1000)
  (hK:∀ w',Upd Nothing w w'→K (.string ⟨(repl ch new.data.toList s.data.toList).toArray⟩) w'):Cv F.z117 #[.string s,.string (bs [ch]),.string new] w K:=by
 refine replace_spec hM (by omega) (by show 1≤1; omega) ?_ fun w' hu=>?_
 ·have h1:Lib.countB s (bs [ch])≤s.size:=countB_one ch s
  have h2:Lib.countB s (bs [ch]) * new.size≤1000000 * 1000:=Nat.mul_le_mul (by omega) hnew
  omega
 ·have:=hK w' hu
  rw [show (bs [ch]).data.toList=[ch] from rfl,replaceAll_one]
  exact this
theorem put_spec (hM:MX w) (hm:¬ Fp p c 0) (hsz:v.s.size≤1000000) (ho:Own w T.uint8 1 p n c (bytesV l)) (hn:n≤1000000000)
  (hK:∀ p' n' c' w',Own w' T.uint8 1 p' n' c' (bytesV (l++vkey v))→Upd (Fp p c) w w'→(∀ k,Fp p' c' k→Fp p c k∨w.heap.size≤k)→K (.slice p' n' c') w') :
  Cv F.z186 #[.slice p n c,v.val] w K:=
 R.z186 (by
  unfold C.z186
  refine New.use (val_one v) fun g w1 hb1 hu1 hge1 hlt1=>⟨v.k,hb1.cell (i:=0) rfl,?_⟩
  refine app1 (lowByte_wrap _) (ho.upd0 hu1) (by omega) fun p2 c2 w2 ho2 hu2 hf2=>⟨p2,_,c2,rfl,?_⟩
  have hgp:¬ Fp p c g:=fun h=>by have:=ho.lt h; omega
  have hgp2:¬ Fp p2 c2 g:=fun h=>by
   rcases hf2 g h with h | h
   ·exact hgp h
   ·omega
  have hb2:=hu2.blk hb1 hgp
  have hup2:Upd (Fp p c) w w2:=hu1.trans hu2 (fun _ _ h=>h.elim) (fun _ _ h=>h)
  have hf2':∀ k,Fp p2 c2 k→Fp p c k∨w.heap.size≤k:=fun k hk=>by
   rcases hf2 k hk with h | h
   ·exact .inl h
   ·exact .inr (Nat.le_trans hu1.size h)
  have hfin:∀ p' n' c' w',Own w' T.uint8 1 p' n' c' (bytesV (l++[lowByte v.k]++vrest v))→Upd (Fp p2 c2) w2 w'→(∀ k,Fp p' c' k→Fp p2 c2 k∨w2.heap.size≤k)→K (.slice p' n' c') w':=by
   intro p' n' c' w' ho' hu' hf'
   refine hK p' n' c' w' (by rw [show l++vkey v=l++[lowByte v.k]++vrest v by simp [vkey]]; exact ho') (hup2.trans hu' (fun _ _ h=>h) (fun i hi h=>?_)) (fun k hk=>?_)
   ·rcases hf2' i h with h | h
    ·exact h
    ·omega
   ·rcases hf' k hk with h | h
    ·exact hf2' k h
    ·exact .inr (Nat.le_trans hup2.size h)
  have hnl:n=l.length:=by have:=ho.len; simp at this; omega
  refine ⟨v.k,hb2.cell (i:=0) rfl,ifB_mk (fun h=>?_) (fun h=>ifB_mk (fun h2=>?_) (fun h2=>ifB_mk (fun h3=>?_) (fun h3=>?_)))⟩
  ·have hk:v.k=1:=by simpa using h
   have hr:vrest v=be8 v.n:=by unfold vrest; rw [if_pos hk]
   rw [hr] at hfin
   refine ⟨v.n,hb2.cell (i:=1) rfl,?_⟩
   refine ⟨fun bp bn bc i w'=>∃ j:Nat,i=56 - 8 * (j:Int)∧j≤8∧bn=n+1+j∧Own w' T.uint8 1 bp bn bc (bytesV (l++[lowByte v.k]++(be8 v.n).take j))∧Upd (Fp p2 c2) w2 w'∧(∀ k,Fp bp bc k→Fp p2 c2 k∨w2.heap.size≤k),fun _ _ _ i _=>(i+8).toNat,
    ⟨0,by omega,by omega,rfl,by simpa using ho2,Upd.refl _ _,fun k hk=>.inl hk⟩,?_⟩
   rintro bp bn bc i w3 ⟨j,rfl,hj,rfl,ho3,hu3,hf3⟩
   refine ifB_mk (fun h=>?_) (fun h=>?_)
   ·have hj7:j≤7:=by simp at h; omega
    refine ⟨by omega,?_⟩
    have hx:=lay_byte v.n (i:=56 - 8 * j) (by omega)
    have ei:(56 - 8 * (j:Int)).toNat=56 - 8 * j:=by omega
    rw [ei]
    refine app1 hx ho3 (by omega) fun p4 c4 w4 ho4 hu4 hf4=>⟨p4,_,c4,rfl,?_⟩
    rw [i64_wrap (by omega) (by omega)]
    refine ⟨⟨j+1,by omega,by omega,by omega,?_,hu3.trans hu4 (fun _ _ h=>h) (fun i hi h=>?_),fun k hk=>?_⟩,by show Int.toNat _ < Int.toNat _; omega⟩
    ·have e:(be8 v.n).take (j+1)=(be8 v.n).take j++[UInt8.ofNat (up v.n / 2 ^ (56 - 8 * j) % 256)]:=by
      rw [List.take_succ_eq_append_getElem (by rw [be8_length]; omega)]
      congr 2
      obtain rfl | rfl | rfl | rfl | rfl | rfl | rfl | rfl:j=0∨j=1∨j=2∨j=3∨j=4∨j=5∨j=6∨j=7:=by omega
      all_goals rfl
     rw [e,← List.append_assoc]
     exact ho4
    ·rcases hf3 i h with h | h
     ·exact h
     ·omega
    ·rcases hf4 k hk with h | h
     ·exact hf3 k h
     ·exact .inr (Nat.le_trans hu3.size h)
   ·have hj8:j=8:=by simp at h; omega
    subst hj8
    rw [List.take_of_length_le (by rw [be8_length]; omega)] at ho3
    exact hfin bp _ bc w3 ho3 hu3 hf3
  ·have hk:v.k=2:=by simpa using h2
   have hr:vrest v=repl 0 [0,255] v.s.data.toList++[0,1]:=by unfold vrest; rw [if_neg (by omega),if_pos hk]
   rw [hr] at hfin
   have hM2:MX w2:=hM.upd hup2 hm
   refine ⟨v.s,hb2.cell (i:=2) rfl,replace_one hM2 hsz (by show 2≤1000; omega) fun w3 hu3=>⟨_,rfl,?_⟩⟩
   have hrl:(repl 0 [0,255] v.s.data.toList).length≤2 * v.s.size:=repl_length 0 [0,255] v.s.data.toList rfl
   have hrs:(⟨(repl 0 [0,255] v.s.data.toList).toArray⟩:ByteArray).size=(repl 0 [0,255] v.s.data.toList).length:=by show (repl 0 [0,255] v.s.data.toList).toArray.size=_; simp
   refine app_text (ho2.upd0 hu3) (by show _+(⟨(repl 0 [0,255] v.s.data.toList).toArray⟩:ByteArray).size≤_; rw [hrs]; omega) fun p4 c4 w4 ho4 hu4 hf4=>⟨p4,_,c4,rfl,?_⟩
   refine app_text ho4 (by show _+(⟨(repl 0 [0,255] v.s.data.toList).toArray⟩:ByteArray).size+2≤_; rw [hrs]; omega) fun p5 c5 w5 ho5 hu5 hf5=>⟨p5,_,c5,rfl,?_⟩
   refine hfin p5 _ c5 w5 ?_ ((hu3.trans hu4 (fun _ _ h=>h.elim) (fun _ _ h=>h)).trans hu5 (fun _ _ h=>h) (fun i hi h=>?_)) (fun k hk=>?_)
   ·rw [← List.append_assoc]
    exact ho5
   ·rcases hf4 i h with h | h
    ·exact h
    ·have:=hu3.size; omega
   ·rcases hf5 k hk with h | h
    ·rcases hf4 k h with h | h
     ·exact .inl h
     ·exact .inr (Nat.le_trans hu3.size h)
    ·exact .inr (Nat.le_trans (Nat.le_trans hu3.size hu4.size) h)
  ·have hk:v.k=3:=by simpa using h3
   have hr:vrest v=[lowByte v.n]:=by unfold vrest; rw [if_neg (by omega),if_neg (by omega),if_pos hk]
   rw [hr] at hfin
   refine ⟨v.n,hb2.cell (i:=1) rfl,app1 (lowByte_wrap _) ho2 (by omega) fun p4 c4 w4 ho4 hu4 hf4=>⟨p4,_,c4,rfl,hfin p4 _ c4 w4 ho4 hu4 hf4⟩⟩
  ·have e1:v.k≠1:=by simpa using h
   have e2:v.k≠2:=by simpa using h2
   have e3:v.k≠3:=by simpa using h3
   have hr:vrest v=[]:=by unfold vrest; rw [if_neg e1,if_neg e2,if_neg e3]
   rw [hr,List.append_nil] at hfin
   exact hfin p2 _ c2 w2 ho2 (Upd.refl _ _) (fun k hk=>.inl hk))
def tx (l:List UInt8):ByteArray:=⟨l.toArray⟩
theorem tx_app (a b:List UInt8):tx a++tx b=tx (a++b):=by
 refine ba_ext ?_
 simp [tx]
theorem tx_size (l:List UInt8):(tx l).size=l.length:=by simp [tx,ByteArray.size]
theorem tx_bs (l:List UInt8):bs l=tx l:=rfl
theorem tx_self (s:ByteArray):tx s.data.toList=s:=by refine ba_ext ?_; simp [tx]
theorem right_size {v:Val} (h:v.right=true):v.s.size≤200:=by
 unfold Val.right at h
 simp only [Bool.or_eq_true,Bool.and_eq_true,sEq_iff,decide_eq_true_eq] at h
 rcases h with (⟨_,h⟩ | ⟨_,_,h⟩) | ⟨_,_,h⟩
 ·rw [h]; show 0≤200; omega
 ·omega
 ·rw [h]; show 0≤200; omega
def keyText (xs:List Val):ByteArray:=tx (if xs.all Val.right=true then vkeys xs else [])
theorem key_spec (hM:MX w) (hat:At w p (vals xs)) (hl:xs.length=n) (hn:n≤1000) (hK:∀ w',Upd Nothing w w'→K (.string (keyText xs)) w'):Cv F.z183 #[.slice p n c] w K:=
 R.z183 (by
  unfold C.z183
  refine right_spec hat hl (by omega) fun w1 hu1=>⟨_,rfl,ifB_mk (fun h=>?_) (fun h=>?_)⟩
  ·have:=hK w1 hu1
   unfold keyText at this
   rw [if_neg (by simpa using h)] at this
   exact this
  have hall:xs.all Val.right=true:=by simpa using h
  have hsz:∀ x∈xs,x.s.size≤200:=fun x hx=>right_size (List.all_eq_true.1 hall x hx)
  refine ⟨fun bp bn bc i w'=>∃ k:Nat,i=k∧k≤n∧Own w' T.uint8 1 bp bn bc (bytesV (vkeys (xs.take k)))∧Upd Nothing w w'∧(∀ j,Fp bp bc j→w.heap.size≤j),fun _ _ _ i _=>n - i.toNat,⟨0,rfl,by omega,Own.nil _ _ _,hu1,fun j hj=>by have:=hj.1; omega⟩,?_⟩
  rintro bp bn bc i w2 ⟨k,rfl,hk,ho2,hu2,hf2⟩
  have hbn:bn=(vkeys (xs.take k)).length:=by have:=ho2.len; simp at this; omega
  refine ifB_mk (fun h=>?_) (fun h=>?_)
  ·have hkn:k < n:=by simpa using h
   have hlen:=vkeys_length (B:=200) (xs.take k) fun x hx=>hsz x (List.mem_of_mem_take hx)
   have hlt:(xs.take k).length≤1000:=by rw [List.length_take]; omega
   have hlen':(vkeys (xs.take k)).length≤1000 * 409:=Nat.le_trans hlen (Nat.mul_le_mul_right _ hlt)
   obtain ⟨a,ha,hc⟩:=(hat.upd0 hu2).val (i:=k) (by omega)
   refine ⟨a,ha,by omega,by omega,_,_,_,hc,?_⟩
   refine New.use (by simp [Value.oneCell']) fun g w3 hb3 hu3 hge3 _=>?_
   refine hb3.store (i:=0) (by simp) rfl fun w4 hb4 hu4 _=>hb4.store (i:=1) (by simp) rfl fun w5 hb5 hu5 _=>hb5.store (i:=2) (by simp) rfl fun w6 hb6 hu6 _=>?_
   have hg:∀ i,One g i→w2.heap.size≤i:=fun i hi=>by rw [show i=g from hi]; exact hge3
   have hu26:Upd Nothing w2 w6:=((hu3.fresh hu4 hg).fresh hu5 hg).fresh hu6 hg
   refine ⟨_,_,_,cells_cells (v:=xs[k]) hb6,?_⟩
   show Cv F.z186 #[.slice bp bn bc,xs[k].val] w6 _
   refine put_spec ((hM.upd0 hu2).upd0 hu26) (fun hj=>by have:=hf2 _ hj; have:=hM.lt; omega) (by have:=hsz xs[k] (List.getElem_mem _); omega) (ho2.upd0 hu26) (by omega) fun p' n' c' w7 ho7 hu7 hf7=>⟨p',n',c',rfl,?_⟩
   rw [i64_wrap (by omega) (by omega)]
   refine ⟨⟨k+1,by omega,by omega,by rw [vkeys_take (by omega)]; exact ho7,(hu2.then hu26).fresh hu7 hf2,fun j hj=>?_⟩,by show n - _ < n - _; omega⟩
   rcases hf7 j hj with h | h
   ·exact hf2 j h
   ·exact Nat.le_trans (hu2.then hu26).size h
  ·have hkn:k=n:=by simp at h; omega
   rw [List.take_of_length_le (by omega)] at ho2 hbn
   refine to_text ho2.at hbn.symm ⟨_,rfl,?_⟩
   have:=hK w2 hu2
   unfold keyText at this
   rw [if_pos hall] at this
   exact this)
theorem rkey_spec (hsz:v.s.size≤1000000) (hk:v.k=1∨v.k=2∨v.k=3) (hK:∀ w',Upd Nothing w w'→K (.string (tx (vkey v))) w'):Cv F.z21 #[v.val] w K:=
 R.z21 (by
  unfold C.z21
  refine New.use (val_one v) fun g w1 hb1 hu1 hge1 hlt1=>⟨v.k,hb1.cell (i:=0) rfl,ifB_mk (fun h=>?_) (fun h=>ifB_mk (fun h2=>?_) (fun h2=>?_))⟩
  ·have hk1:v.k=1:=by simpa using h
   refine ⟨v.n,hb1.cell (i:=1) rfl,?_⟩
   refine ⟨fun u s i w'=>∃ j:Nat,i=j∧j≤8∧u=((up v.n / 256 ^ j:Nat):Int)∧s=tx (beN (up v.n) j)∧Upd Nothing w w',fun _ _ i _=>8 - i.toNat,⟨0,rfl,by omega,?_,rfl,hu1⟩,?_⟩
   ·simp [IntKind.wrap,IntKind.signed,IntKind.bits,up]
    omega
   ·rintro u s i w2 ⟨j,rfl,hj,rfl,rfl,hu2⟩
    have hbl:∀ j,(beN (up v.n) j).length=j:=by
     intro j
     induction j with
     | zero=>rfl
     | succ j ih=>show (beN (up v.n) j).length+1=_; rw [ih]
    refine ifB_mk (fun h=>?_) (fun h=>?_)
    ·have hj8:j < 8:=by simp at h; omega
     refine ⟨by omega,New.use (by simp [Value.oneCell']) fun g2 w3 hb3 hu3 _ _=>?_⟩
     have hb':IntKind.u8.wrap (Int.tmod ((up v.n / 256 ^ j:Nat):Int) 256)=((UInt8.ofNat (up v.n / 256 ^ j % 256)).toNat:Int):=by
      rw [Int.tmod_eq_emod_of_nonneg (Int.natCast_nonneg _),lowByte_wrap]
      unfold lowByte
      generalize up v.n / 256 ^ j=z
      congr 2
      rw [show (((z:Nat):Int) % 256 % 256).toNat=z % 256 by omega]
     rw [hb'] at hb3
     refine to_text (l:=[UInt8.ofNat (up v.n / 256 ^ j % 256)]) (At.of_blk hb3 fun i v hi=>by rw [Nat.zero_add]; exact hi) rfl ⟨_,rfl,?_,by omega,?_⟩
     ·rw [tx_size,hbl]; show 1+j≤_; omega
     ·rw [i64_wrap (by omega) (by omega)]
      refine ⟨⟨j+1,by omega,by omega,?_,?_,hu2.then hu3⟩,by show 8 - _ < 8 - _; omega⟩
      ·have e1:Int.tdiv ((up v.n / 256 ^ j:Nat):Int) 256=((up v.n / 256 ^ (j+1):Nat):Int):=by
        rw [Int.tdiv_eq_ediv_of_nonneg (Int.natCast_nonneg _),show (256:Int)=((256:Nat):Int) from rfl,← Int.natCast_ediv,Nat.div_div_eq_div_mul,← Nat.pow_succ]
       have hup:up v.n < 18446744073709551616:=by unfold up; omega
       have:up v.n / 256 ^ (j+1)≤up v.n:=Nat.div_le_self _ _
       rw [e1]
       generalize up v.n / 256 ^ (j+1)=z at *
       simp [IntKind.wrap,IntKind.signed,IntKind.bits]
       omega
      ·exact (tx_app [UInt8.ofNat (up v.n / 256 ^ j % 256)] (beN (up v.n) j))
    ·have hj8:j=8:=by simp at h; omega
     subst hj8
     refine ⟨by rw [tx_size,hbl]; show 1+8≤_; omega,?_⟩
     have:=hK w2 hu2
     rw [beN_eight,tx_bs,tx_app]
     have e:vkey v=[1]++be8 v.n:=by unfold vkey vrest; rw [if_pos hk1,hk1]; rfl
     rw [e] at this
     exact this
  ·have hk2:v.k=2:=by simpa using h2
   refine New.use (by simp [Value.oneCell']) fun g2 w2 hb2 hu2 hge2 hlt2=>?_
   have hlt1':=hb1.lt
   refine ⟨fun bp bn bc i w'=>∃ j:Nat,i=j∧j≤v.s.size∧Own w' T.uint8 1 bp bn bc (bytesV (2 :: repl 0 [0,255] (v.s.data.toList.take j)))∧Upd Nothing w1 w'∧(∀ k,Fp bp bc k→w1.heap.size≤k),fun _ _ _ i _=>v.s.size - i.toNat,⟨0,rfl,by omega,?_,hu2,?_⟩,?_⟩
   ·exact ⟨rfl,by omega,.inr ⟨g2,[],rfl,hb2,rfl⟩⟩
   ·rintro k ⟨_,a,ha,rfl⟩
    injection ha with ha
    subst ha
    exact hge2
   rintro bp bn bc i w3 ⟨j,rfl,hj,ho3,hu3,hf3⟩
   have hb3:=hu3.blk hb1 fun f=>f
   have hrl:(repl 0 [0,255] (v.s.data.toList.take j)).length≤2 * (v.s.data.toList.take j).length:=repl_length 0 [0,255] _ rfl
   have hsl:v.s.data.toList.length=v.s.size:=rfl
   rw [List.length_take] at hrl
   have hbn:bn=(2 :: repl 0 [0,255] (v.s.data.toList.take j)).length:=by have:=ho3.len; simp at this ⊢; omega
   rw [List.length_cons] at hbn
   refine ⟨v.s,hb3.cell (i:=2) rfl,ifB_mk (fun h=>?_) (fun h=>?_)⟩
   ·have hjs:j < v.s.size:=by simpa using h
    have hbt:bt v.s (j:Int)=((v.s.data.toList[j]'(by omega)).toNat:Int):=by
     unfold bt
     rw [dif_pos (by simpa using hjs)]
     rfl
    refine ⟨v.s,hb3.cell (i:=2) rfl,by omega,by omega,?_⟩
    rw [hbt]
    have htk:repl 0 [0,255] (v.s.data.toList.take (j+1))=repl 0 [0,255] (v.s.data.toList.take j)++(if v.s.data.toList[j]'(by omega)=0 then [0,255] else [v.s.data.toList[j]'(by omega)]):=by
     unfold repl
     rw [List.take_succ_eq_append_getElem (by omega),List.flatMap_append]
     simp only [List.flatMap_cons,List.flatMap_nil,List.append_nil]
    refine app1 rfl ho3 (by omega) fun p4 c4 w4 ho4 hu4 hf4=>⟨p4,_,c4,rfl,?_⟩
    have hng:¬ Fp bp bc g:=fun h=>by have:=hf3 g h; omega
    have hb4:=hu4.blk hb3 hng
    have hf4':∀ k,Fp p4 c4 k→w1.heap.size≤k:=fun k hk=>by
     rcases hf4 k hk with h | h
     ·exact hf3 k h
     ·exact Nat.le_trans hu3.size h
    refine ⟨v.s,hb4.cell (i:=2) rfl,by omega,by omega,?_⟩
    rw [i64_wrap (by omega) (by omega)]
    refine ifB_mk (fun h0=>?_) (fun h0=>?_)
    ·have hz:v.s.data.toList[j]'(by omega)=0:=by
      have:(v.s.data.toList[j]'(by omega)).toNat=0:=by rw [hbt] at h0; simp only [beq_iff_eq] at h0; omega
      exact UInt8.toNat_inj.1 this
     rw [if_pos hz] at htk
     rw [hz] at ho4
     refine app1 (y:=255) rfl ho4 (by omega) fun p5 c5 w5 ho5 hu5 hf5=>⟨p5,_,c5,rfl,⟨j+1,by omega,by omega,?_,(hu3.fresh hu4 hf3).fresh hu5 hf4',fun k hk=>?_⟩,by show v.s.size - _ < v.s.size - _; omega⟩
     ·rw [htk]
      simpa using ho5
     ·rcases hf5 k hk with h | h
      ·exact hf4' k h
      ·exact Nat.le_trans (hu3.fresh hu4 hf3).size h
    ·have hz:v.s.data.toList[j]'(by omega)≠0:=fun e=>by
      rw [hbt] at h0
      rw [e] at h0
      simp at h0
     rw [if_neg hz] at htk
     refine ⟨⟨j+1,by omega,by omega,?_,hu3.fresh hu4 hf3,hf4'⟩,by show v.s.size - _ < v.s.size - _; omega⟩
     rw [htk]
     exact ho4
   ·have hjs:j=v.s.size:=by simp at h; omega
    subst hjs
    rw [List.take_of_length_le (by omega)] at ho3 hbn hrl
    refine to_text ho3.at (by rw [List.length_cons]; omega) ⟨_,rfl,?_,?_⟩
    ·rw [show (⟨(2 :: repl 0 [0,255] v.s.data.toList).toArray⟩:ByteArray)=tx (2 :: repl 0 [0,255] v.s.data.toList) from rfl,tx_size,tx_bs,tx_size,List.length_cons,List.length_cons,List.length_cons,List.length_nil]
     omega
    ·have:=hK w3 (hu1.then hu3)
     have e:vkey v=(2 :: repl 0 [0,255] v.s.data.toList)++[0,1]:=by unfold vkey vrest; rw [if_neg (by omega),if_pos hk2,hk2]; rfl
     rw [e,← tx_app] at this
     exact this
  ·have hk3:v.k=3:=by
    have e1:v.k≠1:=by simpa using h
    have e2:v.k≠2:=by simpa using h2
    omega
   refine ⟨v.n,hb1.cell (i:=1) rfl,New.use (by simp [Value.oneCell']) fun g2 w2 hb2 hu2 hge2 hlt2=>?_⟩
   rw [lowByte_wrap] at hb2
   refine to_text (l:=[3,lowByte v.n]) (At.of_blk hb2 fun i v hi=>by rw [Nat.zero_add]; exact hi) rfl ⟨_,rfl,?_⟩
   have:=hK w2 (hu1.then hu2)
   have e:vkey v=[3,lowByte v.n]:=by unfold vkey vrest; rw [if_neg (by omega),if_neg (by omega),if_pos hk3,hk3]; rfl
   rw [e] at this
   exact this)
end
end Va
end Go.Proofs.YtjcgociobhhijaaGreatDoor
namespace Go.Proofs.YtjcgociobhhijaaGreatDoor
open Go SX
namespace Va
section
variable {w:World} {K:Value→World→Prop} {p q:Option Addr} {n c m d:Nat} {xs ys:List Val} {a b v:Val} {l:List UInt8}
theorem rkeys_spec (hat:At w p (vals xs)) (hl:xs.length=n) (hn:n≤1000) (hall:xs.all Val.right=true) (hK:∀ w',Upd Nothing w w'→K (.string (tx (vkeys xs))) w'):Cv F.z22 #[.slice p n c] w K:=
 R.z22 (by
  unfold C.z22
  have hr:∀ x∈xs,x.right=true:=List.all_eq_true.1 hall
  refine ⟨fun s i w'=>∃ k:Nat,i=k∧k≤n∧s=tx (vkeys (xs.take k))∧Upd Nothing w w',fun _ i _=>n - i.toNat,⟨0,rfl,by omega,rfl,Upd.refl _ _⟩,?_⟩
  rintro s i w1 ⟨k,rfl,hk,rfl,hu1⟩
  refine ifB_mk (fun h=>?_) (fun h=>?_)
  ·have hkn:k < n:=by simpa using h
   obtain ⟨a,ha,hc⟩:=(hat.upd0 hu1).val (i:=k) (by omega)
   refine ⟨a,ha,by omega,by omega,_,_,_,hc,?_⟩
   have hrk:=hr xs[k] (List.getElem_mem _)
   have hsz:=right_size hrk
   have hkk:xs[k].k=1∨xs[k].k=2∨xs[k].k=3:=by
    unfold Val.right at hrk
    simp only [Bool.or_eq_true,Bool.and_eq_true,beq_iff_eq] at hrk
    rcases hrk with (⟨h,_⟩ | ⟨h,_⟩) | ⟨h,_⟩
    ·exact .inl h
    ·exact .inr (.inl h)
    ·exact .inr (.inr h)
   show Cv F.z21 #[xs[k].val] w1 _
   have hlen:=vkeys_length (B:=200) (xs.take k) fun x hx=>right_size (hr x (List.mem_of_mem_take hx))
   have hlt:(xs.take k).length≤1000:=by rw [List.length_take]; omega
   have hlen':(vkeys (xs.take k)).length≤1000 * 409:=Nat.le_trans hlen (Nat.mul_le_mul_right _ hlt)
   have hkl:=vkey_length xs[k]
   refine rkey_spec (by omega) hkk fun w2 hu2=>⟨_,rfl,by rw [tx_size,tx_size]; omega,?_⟩
   rw [i64_wrap (by omega) (by omega)]
   exact ⟨⟨k+1,by omega,by omega,by rw [tx_app,← vkeys_take (by omega)],hu1.then hu2⟩,by show n - _ < n - _; omega⟩
  ·have hkn:k=n:=by simp at h; omega
   rw [List.take_of_length_le (by omega)]
   exact hK w1 hu1)
end
end Va
end Go.Proofs.YtjcgociobhhijaaGreatDoor
namespace Go.Proofs.YtjcgociobhhijaaGreatDoor.SX
open Go
def txt (l:List UInt8):ByteArray:=⟨l.toArray⟩
def untext:List UInt8→Option (List UInt8×List UInt8)
 | []=>none
 | [b]=>none
 | b :: c :: r=>if b=0 then (if c=1 then some ([],r) else if c=255 then (untext r).map (fun x=>(0 :: x.1,x.2)) else none) else (untext (c :: r)).map fun x=>(b :: x.1,x.2)
theorem untext_step {b:UInt8} (hb:b≠0) (r:List UInt8):untext (b :: r)=(untext r).map fun x=>(b :: x.1,x.2):=by
 cases r with
 | nil=>rfl
 | cons c r=>rw [untext,if_neg hb]
theorem untext_repl (s rest:List UInt8):untext (repl 0 [0,255] s++[0,1]++rest)=some (s,rest):=by
 induction s with
 | nil=>rfl
 | cons b s ih=>
  have e:repl 0 [0,255] (b :: s)=(if b=0 then [0,255] else [b])++repl 0 [0,255] s:=rfl
  rw [e]
  by_cases hb:b=0
  ·rw [if_pos hb,hb]
   show untext (0 :: 255 :: (repl 0 [0,255] s++[0,1]++rest))=_
   rw [untext,ih]
   rfl
  ·rw [if_neg hb]
   show untext (b :: (repl 0 [0,255] s++[0,1]++rest))=_
   rw [untext_step hb,ih]
   rfl
def num (l:List UInt8):Nat:=l.foldl (fun u b=>u * 256+b.toNat) 0
theorem num_append (l:List UInt8) (b:UInt8):num (l++[b])=num l * 256+b.toNat:=by simp [num]
theorem num_lt : ∀ (n : Nat) (l : List UInt8), l.length = n → num l < 256 ^ n := by
  intro n
  induction n with
  | zero => intro l h; have : l = [] := by simpa using h
            subst this; simp [num]
  | succ n ih =>
    intro l h
    obtain ⟨l', b, rfl⟩ : ∃ l' b, l = l' ++ [b] := ⟨l.dropLast, l.getLast (by intro e; subst e; simp at h), (List.dropLast_concat_getLast _).symm⟩
    rw [num_append]
    have := ih l' (by simpa using h)
    have hb := b.toNat_lt
    rw [Nat.pow_succ]
    omega
theorem beN_snoc (u:Nat):∀ k:Nat,beN u (k+1)=beN (u / 256) k++[UInt8.ofNat (u % 256)]
 | 0=>by simp [beN]
 | k+1=>by
  have ih:=beN_snoc u k
  rw [beN,ih,beN,Nat.div_div_eq_div_mul,Nat.pow_succ,Nat.mul_comm 256]
  rfl
theorem num_beN:∀ (k u:Nat),num (beN u k)=u % 256 ^ k
 | 0,u=>by simp [beN,num,Nat.mod_one]
 | k+1,u=>by
  rw [beN_snoc,num_append,num_beN k,Nat.pow_succ,Nat.mul_comm (256 ^ k) 256,Nat.mod_mul,UInt8.toNat_ofNat']
  omega
theorem num_be8 (n:Int):num (be8 n)=up n:=by
 have hup:up n < 18446744073709551616:=by unfold up; omega
 have:(256:Nat) ^ 8=18446744073709551616:=by decide
 rw [← beN_eight,num_beN,this,Nat.mod_eq_of_lt hup]
def Val.good (v:Val):Prop:=v.right=true∧-9223372036854775808≤v.n∧v.n≤9223372036854775807
def third:List UInt8→Option (Val×List UInt8)
 | []=>none
 | c :: r=>if c.toNat≤1 then some (⟨3,c.toNat,⟨#[]⟩⟩,r) else none
def firstV (s:List UInt8):Option (Val×List UInt8):=if s.head? = some 1 then (if s.tail.length < 8 then none else some (⟨1,(num (s.tail.take 8):Int) - 9223372036854775808,⟨#[]⟩⟩,s.tail.drop 8))
  else if s.head? = some 2 then (untext s.tail).map fun x=>(⟨2,0,txt x.1⟩,x.2)
  else if s.head? = some 3 then third s.tail
  else none
theorem firstV_cons (b:UInt8) (r:List UInt8):firstV (b :: r)=if b=1 then (if r.length < 8 then none else some (⟨1,(num (r.take 8):Int) - 9223372036854775808,⟨#[]⟩⟩,r.drop 8))
  else if b=2 then (untext r).map fun x=>(⟨2,0,txt x.1⟩,x.2)
  else if b=3 then third r
  else none:=by
 unfold firstV
 by_cases h1:b=1
 ·simp [h1]
 ·by_cases h2:b=2
  ·simp [h2]
  ·by_cases h3:b=3 <;> simp [h1,h2,h3]
theorem good_kinds {v:Val} (h:v.right=true):(v.k=1∧v.s=⟨#[]⟩)∨(v.k=2∧v.n=0∧v.s.size≤200)∨(v.k=3∧(v.n=0∨v.n=1)∧v.s=⟨#[]⟩):=by
 unfold Val.right at h
 simp only [Bool.or_eq_true,Bool.and_eq_true,beq_iff_eq,sEq_iff,decide_eq_true_eq] at h
 rcases h with (⟨h1,h2⟩ | ⟨h1,h2,h3⟩) | ⟨h1,h2,h3⟩
 ·exact .inl ⟨h1,h2⟩
 ·exact .inr (.inl ⟨h1,h2,by omega⟩)
 ·exact .inr (.inr ⟨h1,h2,h3⟩)
theorem vkey_one {v:Val} (h:v.k=1):vkey v=1 :: be8 v.n:=by unfold vkey vrest; rw [if_pos h,h]; rfl
theorem vkey_two {v:Val} (h:v.k=2):vkey v=2 :: (repl 0 [0,255] v.s.data.toList++[0,1]):=by unfold vkey vrest; rw [if_neg (by omega),if_pos h,h]; rfl
theorem vkey_three {v:Val} (h:v.k=3):vkey v=[3,lowByte v.n]:=by unfold vkey vrest; rw [if_neg (by omega),if_neg (by omega),if_pos h,h]; rfl
theorem txt_self (s:ByteArray):txt s.data.toList=s:=by refine ba_ext ?_; simp [txt]
theorem firstV_vkey {v:Val} (h:v.good) (rest:List UInt8):firstV (vkey v++rest)=some (v,rest):=by
 obtain ⟨hr,h1,h2⟩:=h
 obtain ⟨k,n,s⟩:=v
 simp only at h1 h2
 rcases good_kinds hr with ⟨hk,hs⟩ | ⟨hk,hn,hs⟩ | ⟨hk,hn,hs⟩
 ·simp only at hk hs
  subst hk; subst hs
  rw [vkey_one rfl]
  show firstV (1 :: (be8 n++rest))=_
  rw [firstV_cons,if_pos rfl,if_neg (by rw [List.length_append,be8_length]; omega),List.take_left' (be8_length n),List.drop_left' (be8_length n),num_be8]
  congr 3
  unfold up
  omega
 ·simp only at hk hn hs
  subst hk; subst hn
  rw [vkey_two rfl]
  show firstV (2 :: (repl 0 [0,255] s.data.toList++[0,1]++rest))=_
  rw [firstV_cons,if_neg (by decide),if_pos rfl,untext_repl]
  simp [txt_self]
 ·simp only at hk hn hs
  subst hk; subst hs
  rw [vkey_three rfl]
  show firstV (3 :: lowByte n :: rest)=_
  rw [firstV_cons,if_neg (by decide),if_neg (by decide),if_pos rfl]
  rcases hn with rfl | rfl
  ·rfl
  ·rfl
theorem vkey_ne (v:Val):vkey v≠[]:=by unfold vkey; simp
theorem vkeys_inj:∀ {xs ys:List Val} {s:List UInt8},(∀ x∈xs,x.good)→(∀ y∈ys,y.good)→vkeys xs++s=vkeys ys→∃ zs,ys=xs++zs∧s=vkeys zs
 | [],ys,s,_,_,h=>⟨ys,rfl,h⟩
 | x :: xs,[],s,_,_,h=>by
  have e:vkeys (x :: xs)=vkey x++vkeys xs:=rfl
  rw [e,List.append_assoc] at h
  have:=congrArg List.length h
  have h0:vkeys ([]:List Val)=[]:=rfl
  rw [h0,List.length_append,List.length_nil] at this
  have hx:=vkey_ne x
  have:(vkey x).length=0:=by omega
  exact absurd (List.length_eq_zero_iff.1 this) hx
 | x :: xs,y :: ys,s,hx,hy,h=>by
  have e:vkeys (x :: xs)=vkey x++vkeys xs:=rfl
  have e':vkeys (y :: ys)=vkey y++vkeys ys:=rfl
  rw [e,e',List.append_assoc] at h
  have h1:=firstV_vkey (hx x (by simp)) (vkeys xs++s)
  rw [h,firstV_vkey (hy y (by simp))] at h1
  simp only [Option.some.injEq,Prod.mk.injEq] at h1
  obtain ⟨rfl,h2⟩:=h1
  obtain ⟨zs,rfl,hz⟩:=vkeys_inj (fun a ha=>hx a (by simp [ha])) (fun a ha=>hy a (by simp [ha])) h2.symm
  exact ⟨zs,rfl,hz⟩
def Unk (s:List UInt8) (ok:Bool) (xs:List Val):Prop:=(ok=true∧(∀ x∈xs,x.good)∧vkeys xs=s)∨(ok=false∧xs=[]∧∀ ys,(∀ y∈ys,y.good)→vkeys ys≠s)
theorem Unk.unique {s:List UInt8} {a b:Bool} {xs ys:List Val} (h:Unk s a xs) (k:Unk s b ys):a=b∧xs=ys:=by
 rcases h with ⟨rfl,h1,h2⟩ | ⟨rfl,rfl,h2⟩ <;> rcases k with ⟨rfl,k1,k2⟩ | ⟨rfl,rfl,k2⟩
 ·refine ⟨rfl,?_⟩
  obtain ⟨zs,rfl,hz⟩:=vkeys_inj (s:=[]) h1 k1 (by rw [List.append_nil,h2,k2])
  cases zs with
  | nil=>simp
  | cons z zs=>
   have e:vkeys (z :: zs)=vkey z++vkeys zs:=rfl
   rw [e] at hz
   have:=congrArg List.length hz
   have hx:=vkey_ne z
   rw [List.length_append,List.length_nil] at this
   have:(vkey z).length=0:=by omega
   exact absurd (List.length_eq_zero_iff.1 this) hx
 ·exact absurd h2 (k2 _ h1)
 ·exact absurd k2 (h2 _ k1)
 ·exact ⟨rfl,rfl⟩
end Go.Proofs.YtjcgociobhhijaaGreatDoor.SX
namespace Go.Proofs.YtjcgociobhhijaaGreatDoor
open Go SX
namespace Va
theorem size_len (s:ByteArray):s.data.toList.length=s.size:=rfl
theorem bt_get {s:ByteArray} {i:Nat} (h:i < s.size):bt s (i:Int)=((s.data.toList[i]'(by rw [size_len]; exact h)).toNat:Int):=by
 unfold bt
 rw [dif_pos (by simpa using h)]
 rfl
section
variable {w:World} {K:Value→World→Prop} {p q:Option Addr} {n c m d:Nat} {xs ys:List Val} {a b v:Val} {l:List UInt8} {s:ByteArray}
theorem set_val {e:Nat} {g:Nat} {x y z:Value} {Q:World→Prop} (v:Val) (hb:Blk w g [x,y,z] e) (hQ:∀ w',Blk w' g v.cells e→Upd (One g) w w'→Q w') :
  CanSt w ((Addr.mk g 0 none).add 0)∧∀ w2,w2=w.setCell ((Addr.mk g 0 none).add 0) (.int .i64 v.k)→
  CanSt w2 ((Addr.mk g 0 none).add 1)∧∀ w3,w3=w2.setCell ((Addr.mk g 0 none).add 1) (.int .i64 v.n)→
  CanSt w3 ((Addr.mk g 0 none).add 2)∧∀ w4,w4=w3.setCell ((Addr.mk g 0 none).add 2) (.string v.s)→Q w4:=
 hb.store (i:=0) (by simp) rfl fun w2 hb2 hu2 _=>hb2.store (i:=1) (by simp) rfl fun w3 hb3 hu3 _=>hb3.store (i:=2) (by simp) rfl fun w4 hb4 hu4 _=>hQ w4 hb4 ((hu2.then hu3).then hu4)
end
end Va
end Go.Proofs.YtjcgociobhhijaaGreatDoor
namespace Go.Proofs.YtjcgociobhhijaaGreatDoor.SX
open Go Go.ChangeShapes Go.WideShapes Go.RowKit
theorem CallsV.back {P:Program} {f:FuncId} {fn:Func} {args:Array Value} {w:World} {K:Value→World→Prop} (hf:P.funcs[f]? = some fn) (hn:(fn.name == "runtime.NumGoroutine")=false) (hb:fn.body.isNone=false)
  (h:CallsV P f args w K):Calls P f args w fun e w'=>∃ v,e = .returned v∧K v w':=by
 unfold CallsV Yield callFunc at h
 simp only [Sem.run_bind,run_program,Result.andThen_ok,hf,hn,hb,Bool.false_eq_true,↓reduceIte,Sem.run_pure] at h
 exact h
theorem Upd.below {w w':World} (h:Upd Nothing w w'):Below w.heap.size w w':=⟨h.os,h.tape,h.output,h.size,fun k hk=>h.block k hk fun f=>f⟩
theorem trodAll_stays {H:Type} {enc:TypeId×Value→H} {P:Program} {W W':World} (hl:laidOutB P=true) (hb:Below W.heap.size W W'):∀ {ts:List TypeId} {vs:List Value} {ds:List (DataW H)} {ps:List MemPlace},
  (ts.all fun t=>P.readableRec t && decide (t < P.types.size))=true→DataW.TrodAll enc P W 0 (fun _=>true) true ts vs ds ps→(∀ x∈ps,x.block < W.heap.size)→
  DataW.TrodAll enc P W' 0 (fun b=>decide (b < W.heap.size)) true ts vs ds ps
 | [],vs,ds,ps,_,h,_=>by
  obtain ⟨rfl,rfl,rfl⟩:=trodAll_nil h
  exact rfl
 | t :: ts,vs,ds,ps,hr,h,hlt=>by
  obtain ⟨v,vs1,d,ds1,a,b,rfl,rfl,rfl,h1,h2⟩:=trodAll_cons h
  simp only [List.all_cons,Bool.and_eq_true] at hr
  exact ⟨a,b,Below.trod hl hr.1.1 (of_decide_eq_true hr.1.2) h1 hb (fun x hx=>hlt x (by simp [hx])),trodAll_stays hl hb hr.2 h2 (fun x hx=>hlt x (by simp [hx])),rfl⟩
theorem law_post {H:Type} {enc:TypeId×Value→H} {P:Program} {f:Func} {s:ChangeSpec} {W W':World} {args:Array Value} {ds gs:List (DataW H)} {before:List MemPlace} {tb:TypeId} (hl:laidOutB P=true)
  (hts:(f.params.toList.all fun t=>P.readableRec t && decide (t < P.types.size))=true) (hW:DataW.Whole enc P f.params.toList s.vars false W args.toList ds gs before) (hv:s.vars=[])
  (hfn:s.fn H ds=⟨[.lit (.bool true)],ds,[]⟩) (hr:f.resultTypes = #[tb]) (ht:P.underlying tb=some .bool) (hu:Upd Nothing W W') :
  s.post enc P f false true false false W args (.bool true) W':=by
 have hlt:=hW.lt
 have hW':=hW
 obtain ⟨p,q,hA,hV,rfl,_,_⟩:=hW
 rw [hv] at hV
 obtain ⟨rfl,rfl⟩:=trodVars_none hV
 have hlt':∀ x∈p,x.block < W.heap.size:=fun x hx=>hlt x (by simp [hx])
 refine ⟨ds,[],p++[],[],p,[],hW',?_,?_,?_,?_,fun h=>by cases h⟩
 ·rw [List.append_nil,hfn,hr]
  exact trodAll_mk1 (shut_bool ht true)
 ·rw [List.append_nil,hfn]
  exact trodAll_stays hl hu.below hts hA hlt'
 ·rw [List.append_nil,hfn,hv]
  exact rfl
 ·exact Below.frame hu.below _
def Rd (P:Program) (W:World) (t:TypeId) (cs:List Value):Prop:=∃ (H:Type) (enc:TypeId×Value→H) (spare:Nat→Bool) (fuel:Nat) (x:DataW H×List MemPlace),DataW.trod enc P W 0 spare true fuel t cs=some x
theorem Rd.of_trod {H:Type} {enc:TypeId×Value→H} {P:Program} {W:World} {sp:Nat→Bool} {t:TypeId} {v:Value} {d:DataW H} {ps:List MemPlace} (h:DataW.Trod enc P W 0 sp true t v d ps):Rd P W t v.cells.toList:=by
 obtain ⟨fuel,h⟩:=h
 exact ⟨H,enc,sp,fuel,_,h⟩
section
variable {P:Program} {W:World} {t e:TypeId} {cs:List Value}
theorem Rd.int {k:IntKind} (ht:P.underlying t=some (.int k)) (h:Rd P W t cs):∃ n,cs=[.int k n]∧(Lit.int k n).wf=true:=by
 obtain ⟨H,enc,sp,fuel,x,h⟩:=h
 obtain ⟨n,h1,_,h2⟩:=DataW.trod_int ht h
 exact ⟨n,h1,h2⟩
theorem Rd.bool (ht:P.underlying t=some .bool) (h:Rd P W t cs):∃ b,cs=[.bool b]:=by
 obtain ⟨H,enc,sp,fuel,x,h⟩:=h
 obtain ⟨n,h1,_⟩:=DataW.trod_bool ht h
 exact ⟨n,h1⟩
theorem Rd.str (ht:P.underlying t=some .string) (h:Rd P W t cs):∃ s:ByteArray,cs=[.string s]∧s.size≤maxLen:=by
 obtain ⟨H,enc,sp,fuel,x,h⟩:=h
 obtain ⟨n,h1,_,h2⟩:=DataW.trod_string ht h
 exact ⟨n,h1,h2⟩
theorem Rd.slice (ht:P.underlying t=some (.slice e)) (h:Rd P W t cs):∃ (p:Option Addr) (n c:Nat),cs=[.slice p n c]∧n≤c∧c≤maxLen∧(p=none→n=0∧c=0)∧
  ∀ i,i < n→∃ a es,p=some a∧(List.range (P.cellsOf e)).mapM (fun j=>W.cell? ((a.add (i * P.cellsOf e)).add j))=some es∧Rd P W e es:=by
 obtain ⟨H,enc,sp,fuel,x,h⟩:=h
 rcases DataW.trod_slice ht h with ⟨rfl,_⟩ | ⟨a,len,cap,elems,rest,n,_,rfl,_,_,hle,hcap,hlen,hel,_⟩
 ·exact ⟨none,0,0,rfl,Nat.le_refl _,by unfold maxLen; omega,fun _=>⟨rfl,rfl⟩,fun i hi=>by omega⟩
 ·refine ⟨some a,len,cap,rfl,hle,hcap,fun h=>by simp at h,fun i hi=>?_⟩
  have h1:=hel i hi
  rw [List.getElem?_eq_getElem (by omega)] at h1
  obtain ⟨es,h2,h3⟩:=Option.bind_eq_some_iff.1 h1
  refine ⟨a,es,rfl,?_,⟨H,enc,sp,n,_,h3⟩⟩
  unfold World.cells? at h2
  split at h2
  ·exact h2
  ·simp at h2
theorem Rd.struct {fs:Array Field} (ht:P.underlying t=some (.struct fs)) (h:Rd P W t cs):cs.length=P.cellsOf t∧∀ (i:Nat) (f:Field),fs[i]? = some f→Rd P W f.type ((cs.drop f.offset).take (P.cellsOf f.type)):=by
 obtain ⟨H,enc,sp,fuel,x,h⟩:=h
 obtain ⟨xs,n,_,_,hl,hxs,hf⟩:=DataW.trod_struct ht h
 refine ⟨hl,fun i f hi=>?_⟩
 have:=hf i f hi
 rw [List.getElem?_eq_getElem (by rw [hxs]; exact (Array.getElem?_eq_some_iff.1 hi).1)] at this
 exact ⟨H,enc,sp,n,_,this⟩
theorem cells_of_ok {v u:Value} (hs:∀ cs,v≠.agg cs) (hm:∀ cs,v≠.tuple cs) (h:v.cells.toList=[u]):v=u:=by
 cases v <;> simp_all [Value.cells]
theorem Rd.arg {b0:Nat} {v:Value} {d:TypeDesc} (ht:P.underlying t=some d) (hd:(match d with | .struct _ | .array _ _=>false | _=>true)=true) (hval:Value.okWide P W .any b0 t v) {u:Value} (h:v.cells.toList=[u]):v=u:=by
 have key:Cell.okWide P W .any b0 t v:=by
  unfold Value.okWide at hval
  rw [ht] at hval
  cases d <;> simp_all
 refine cells_of_ok (fun cs hv=>?_) (fun cs hv=>?_) h
 all_goals
  subst hv
  unfold Cell.okWide at key
  rw [ht] at key
  cases d <;> simp_all [Cell.ok]
end
theorem cells_of_mapM {W:World} {f:Nat→Addr}:∀ {n:Nat} {es:List Value},(List.range n).mapM (fun j=>W.cell? (f j))=some es→es.length=n∧∀ j v,es[j]? = some v→W.cell? (f j)=some v:=by
 intro n es h
 have h1:∀ (l:List Nat) (es:List Value),l.mapM (fun j=>W.cell? (f j))=some es→es.length=l.length∧∀ (j:Nat) (v:Value),es[j]? = some v→∃ k:Nat,l[j]? = some k∧W.cell? (f k)=some v:=by
  intro l
  induction l with
  | nil=>intro es h; simp at h; subst h; simp
  | cons x l ih=>
   intro es h
   simp only [List.mapM_cons,Option.pure_def,Option.bind_eq_bind,Option.bind_eq_some_iff,Option.some.injEq] at h
   obtain ⟨y,hy,ys,hys,rfl⟩:=h
   obtain ⟨h1,h2⟩:=ih ys hys
   refine ⟨by simp [h1],fun j v hj=>?_⟩
   cases j with
   | zero=>simp at hj; subst hj; exact ⟨x,rfl,hy⟩
   | succ j=>simp at hj; obtain ⟨k,hk,hv⟩:=h2 j v hj; exact ⟨k,by simpa using hk,hv⟩
 obtain ⟨h2,h3⟩:=h1 _ _ h
 refine ⟨by simpa using h2,fun j v hj=>?_⟩
 obtain ⟨k,hk,hv⟩:=h3 j v hj
 have hjn:j < n:=by have:=(List.getElem?_eq_some_iff.1 hj).1; simpa [h2] using this
 rw [List.getElem?_range hjn] at hk
 injection hk with hk
 subst hk
 exact hv
end Go.Proofs.YtjcgociobhhijaaGreatDoor.SX
namespace Go.Proofs.YtjcgociobhhijaaGreatDoor.SX
open Go Go.ChangeShapes Go.WideShapes Go.RowKit Go.ChangeAt
theorem returns_and_shaped {H:Type} {enc:TypeId×Value→H} {a:Assume} {C:Checked} {os:Os} {f:FuncId} {fn:Func} {s:ChangeSpec} {conds:List PathCond} {apart fresh handsOn again:Bool} {X:World→Array Value→Prop}
  (hX:∀ (w w':World) (args:Array Value),w.heap=w'.heap→X w args→X w' args)
  (own:ownKnob C.prog.godebug=none) (started:os.Started) (noInit:C.prog.inits.idxOf? f=none) (hfn:C.prog.funcs[f]? = some fn)
  (witness:∃ (w:World) (tape:Tape) (i:Input),w.os=os∧(w.forCall tape i).Shaped C.prog∧i.vars=[]∧Input.okWide C.prog (w.forCall tape i) .any w.heap.size f i∧
   ((s.pre enc C.prog fn conds apart (w.forCall tape i).memory i.args∧X (w.forCall tape i).memory i.args)∧sizedMet enc C.prog fn (OpenSpec.ofChange s) apart (w.forCall tape i).memory i.args)∧a.holds C.prog (lone (Frame.enter C.prog f i.args .normal) [] (w.forCall tape i)))
  (contract:∀ (W:World) (base:Nat) (args:Array Value) (ds gs:List (DataW H)) (before:List MemPlace),
   (∀ (j:Nat) t v,fn.params[j]? = some t→args[j]? = some v→Value.okWide C.prog W .any base t v)→
   DataW.Whole enc C.prog fn.params.toList s.vars apart W args.toList ds gs before→
   W.ShapedOpen C.prog→
   Calls C.prog f args W fun e W'=>∃ v,e = .returned v∧s.post enc C.prog fn apart fresh handsOn again W args v W') :
  ReturnsInHanded a C os f .any (fun w args=>(s.pre enc C.prog fn conds apart w args∧X w args)∧sizedMet enc C.prog fn (OpenSpec.ofChange s) apart w args) (s.post enc C.prog fn apart fresh handsOn again):=by
 refine returnsInHanded_of_calls own started noInit witness ?_
 intro w tape i _ hsh _ hok hpre hholds
 obtain ⟨_,_,_,fn',hfn',_,_,_,_,hval⟩:=hok
 have e:fn'=fn:=Option.some.inj (hfn'.symm.trans hfn)
 subst e
 obtain ⟨⟨⟨ds,gs,before,hw,hc⟩,hx⟩,hz⟩:=hpre
 have hw':=DataW.Whole.of_heap (w':=w.forCall tape i) (by rfl) hw
 refine (contract (w.forCall tape i) w.heap.size i.args ds gs before hval hw' hsh).mono fun e W' ⟨v,he,hp⟩=>?_
 subst he
 exact ChangeSpec.post_blind hp
noncomputable def laid2:List (String×DataW Unit):=[("unicode/utf8.acceptRanges",Rows.laid_unicode_utf8_acceptRanges),("unicode/utf8.first",Rows.laid_unicode_utf8_first)]
def acceptCells:Array Value:=([128,191,160,191,128,159,144,191,128,143,0,0,0,0,0,0,0,0,0,0,0,0,0,0,0,0,0,0,0,0,0,0].map fun n:Int=>Value.int .u8 n).toArray
def firstCells:Array Value:=(Go.Pinned.utf8FirstZ.map fun n:Nat=>Value.int .u8 (n:Int)).toArray
noncomputable def laidWorld (os:Os):World:=
 let w0:=World.holding Tryz.prog os ⟨#[],#[],[]⟩
 { w0 with heap:=(w0.heap.modify 2 fun
   | .cells _ t frozen=>.cells acceptCells t frozen
   | o=>o).modify 1 fun
   | .cells _ t frozen=>.cells firstCells t frozen
   | o=>o }
theorem laidWorld_met (os:Os) (args:Array Value):laidMetH Tryz.prog laid2 ((laidWorld os).forCall (fun _ _=>0) ⟨#[],args,[]⟩).memory:=
 laidMetH_of_parts (laidMet_of_run' 8 (by kernel_rfl) (by kernel_rfl)) (by kernel_rfl)
theorem maxlen_of_shaped {W:World} (h:W.ShapedOpen Tryz.prog):∃ m,W.cell? ⟨0,0,none⟩=some (.int .i64 m):=by
 exact cell_of_shapedOpen_int (g:=0) (t:=3) (zero:=#[.int .i64 0]) (k:=.i64) h (of_decide_eq_true (by kernel_rfl)) (by kernel_rfl) rfl (by kernel_rfl) (by kernel_rfl) Tryz.underlying3
end Go.Proofs.YtjcgociobhhijaaGreatDoor.SX
namespace Go.Proofs.YtjcgociobhhijaaGreatDoor
open Go SX Go.ChangeShapes Go.WideShapes Go.ChangeAt Go.RowKit
namespace Va
def Val.wf (v:Val):Prop:=(-9223372036854775808≤v.k∧v.k≤9223372036854775807)∧(-9223372036854775808≤v.n∧v.n≤9223372036854775807)∧v.s.size≤maxLen
theorem rd_val {W:World} {cs:List Value} (h:Rd prog W T.api_Value cs):∃ v:Val,cs=v.cells∧Val.wf v:=by
 obtain ⟨hl,hf⟩:=h.struct Tryz.underlying113
 have h3:prog.cellsOf T.api_Value=3:=by kernel_rfl
 have h1:prog.cellsOf T.int=1:=by kernel_rfl
 have h1':prog.cellsOf T.int64=1:=by kernel_rfl
 have h1'':prog.cellsOf T.string=1:=by kernel_rfl
 rw [h3] at hl
 match cs,hl with
 | [u0,u1,u2],_=>
  have f0:Rd prog W T.int (([u0,u1,u2].drop 0).take (prog.cellsOf T.int)):=hf 0 _ rfl
  have f1:Rd prog W T.int64 (([u0,u1,u2].drop 1).take (prog.cellsOf T.int64)):=hf 1 _ rfl
  have f2:Rd prog W T.string (([u0,u1,u2].drop 2).take (prog.cellsOf T.string)):=hf 2 _ rfl
  rw [h1] at f0
  rw [h1'] at f1
  rw [h1''] at f2
  replace f0:Rd prog W T.int [u0]:=f0
  replace f1:Rd prog W T.int64 [u1]:=f1
  replace f2:Rd prog W T.string [u2]:=f2
  obtain ⟨k,e0,w0⟩:=f0.int Tryz.underlying3
  obtain ⟨n,e1,w1⟩:=f1.int Tryz.underlying2
  obtain ⟨s,e2,w2⟩:=f2.str Tryz.underlying9
  simp only [List.cons.injEq,and_true] at e0 e1 e2
  subst e0; subst e1; subst e2
  exact ⟨⟨k,n,s⟩,rfl,wf_i64 w0,wf_i64 w1,w2⟩
theorem sval:SliceT prog T.s_api_Value T.api_Value 3 32 [.int .i64 0,.int .i64 0,.string ByteArray.empty]:=SliceT.of_tab (ti:=ti37) (te:=ti113) tabOK (by kernel_rfl) (by kernel_rfl) (by kernel_rfl) (by kernel_rfl)
theorem rd_vals {W:World} {cs:List Value} (h:Rd prog W T.s_api_Value cs):∃ (p:Option Addr) (n c:Nat) (xs:List Val),cs=[.slice p n c]∧n≤c∧c≤maxLen∧At W p (vals xs)∧xs.length=n∧∀ x∈xs,Val.wf x:=by
 obtain ⟨p,n,c,rfl,hle,hc,hnil,hel⟩:=h.slice sval.desc
 have hs:prog.cellsOf T.api_Value=3:=by kernel_rfl
 have key:∀ i,∃ x:Val,i < n→((∃ a,p=some a∧W.cell? (a.add (i * 3))=some (.int .i64 x.k)∧W.cell? (a.add (i * 3+1))=some (.int .i64 x.n)∧W.cell? (a.add (i * 3+2))=some (.string x.s))∧Val.wf x):=by
  intro i
  by_cases hi:i < n
  ·obtain ⟨a,es,hp,hm,hr⟩:=hel i hi
   obtain ⟨x,rfl,hw⟩:=rd_val hr
   obtain ⟨_,hcell⟩:=cells_of_mapM (W:=W) (f:=fun j=>(a.add (i * prog.cellsOf T.api_Value)).add j) hm
   have c0:=hcell 0 _ rfl
   have c1:=hcell 1 _ rfl
   have c2:=hcell 2 _ rfl
   rw [hs,Addr.add_two] at c0 c1 c2
   exact ⟨x,fun _=>⟨⟨a,hp,c0,c1,c2⟩,hw⟩⟩
  ·exact ⟨⟨0,0,⟨#[]⟩⟩,fun h=>absurd h hi⟩
 let xs:List Val:=(List.range n).map fun i=>Classical.choose (key i)
 have hxl:xs.length=n:=by simp [xs]
 have hxi:∀ i (hi:i < xs.length),xs[i]=Classical.choose (key i):=by intro i hi; simp [xs]
 refine ⟨p,n,c,xs,rfl,hle,hc,?_,hxl,?_⟩
 ·intro j v hj
  have hjn:j < n * 3:=by have:=(List.getElem?_eq_some_iff.1 hj).1; simpa [hxl] using this
  have hi:j / 3 < xs.length:=by omega
  obtain ⟨⟨a,hp,c0,c1,c2⟩,_⟩:=Classical.choose_spec (key (j / 3)) (by omega)
  have hg:=vals_get (xs:=xs) (i:=j / 3) (j:=j % 3) hi (by omega)
  rw [show j / 3 * 3+j % 3=j by omega,hj,hxi] at hg
  refine ⟨a,hp,?_⟩
  obtain h3 | h3 | h3:j % 3=0∨j % 3=1∨j % 3=2:=by omega
  ·rw [h3] at hg
   rw [show j=j / 3 * 3 by omega,c0]
   exact hg.symm
  ·rw [h3] at hg
   rw [show j=j / 3 * 3+1 by omega]
   rw [c1]
   exact hg.symm
  ·rw [h3] at hg
   rw [show j=j / 3 * 3+2 by omega]
   rw [c2]
   exact hg.symm
 ·intro x hx
  simp only [xs,List.mem_map,List.mem_range] at hx
  obtain ⟨i,hi,rfl⟩:=hx
  exact (Classical.choose_spec (key i) hi).2
end Va
end Go.Proofs.YtjcgociobhhijaaGreatDoor
namespace Go.Proofs.YtjcgociobhhijaaGreatDoor
open Go SX
namespace Va
section
variable {w:World} {K:Value→World→Prop} {p q:Option Addr} {n c m d:Nat} {xs ys:List Val} {a b v:Val} {l:List UInt8} {s:ByteArray}
theorem vals_snoc (xs:List Val) (v:Val):vals (xs++[v])=vals xs++v.cells:=by rw [vals_append]; simp
theorem app_val {x:Val} (ho:Own w T.api_Value 3 p n c (vals xs)) (hsz:n+1≤1099511627776)
  (hK:∀ p' c' w',Own w' T.api_Value 3 p' (n+1) c' (vals (xs++[x]))→Upd (Fp p c) w w'→(∀ k,Fp p' c' k→Fp p c k∨w.heap.size≤k)→K (.slice p' (n+1) c') w') :
  ∀ g w1,New w (.cells #[.int .i64 x.k,.int .i64 x.n,.string x.s] T.api_Value) g w1→BuiltV prog .append #[T.s_api_Value,T.s_api_Value] T.s_api_Value #[.slice p n c,.slice (some (Addr.mk g 0 none)) 1 1] w1 K:=by
 refine New.use (val_one x) fun g w1 hb hu hge _=>?_
 refine append_own (m:=1) sval (.inl sval.desc) (ho.upd0 hu) (Src.slice (m:=1) (ys:=x.cells) (At.of_blk hb fun j v hj=>by rw [Nat.zero_add]; exact hj) rfl (val_one x)) (by decide) (by decide) (by omega) fun p' c' w' ho' hu' hf'=>?_
 refine hK p' c' w' (by rw [vals_snoc]; exact ho') (hu.trans hu' (fun _ _ h=>h.elim) (fun _ _ h=>h)) fun k hk=>?_
 rcases hf' k hk with h | h
 ·exact .inl h
 ·exact .inr (Nat.le_trans hu.size h)
theorem same_rows (hat:At w p (vals xs)) (hl:xs.length=n) (hn:n≤9223372036854775806) (hat':At w q (vals ys)) (hl':ys.length=m) (hK:∀ (r:Bool) w',(r=true↔xs=ys)→Upd Nothing w w'→K (.bool r) w') :
  Cv F.z24 #[.slice p n c,.slice q m d] w K:=
 R.z24 (by
  unfold C.z24
  refine ifB_mk (fun h=>?_) (fun h=>?_)
  ·refine hK false w ⟨fun h=>(by cases h),fun e=>?_⟩ (Upd.refl _ _)
   subst e
   simp at h
   omega
  have hnm:n=m:=by simp at h; omega
  subst hnm
  refine ⟨fun i w'=>∃ k:Nat,i=k∧k≤n∧Upd Nothing w w'∧xs.take k=ys.take k,fun i _=>n - i.toNat,⟨0,rfl,by omega,Upd.refl _ _,by simp⟩,?_⟩
  rintro i w1 ⟨k,rfl,hk,hu1,htk⟩
  refine ifB_mk (fun h=>?_) (fun h=>?_)
  ·have hkn:k < n:=by simpa using h
   have hu1':=hu1.then (Upd.drew _ _)
   obtain ⟨a,ha,hc⟩:=(hat.upd0 hu1').val (i:=k) (by omega)
   obtain ⟨a',ha',hc'⟩:=(hat'.upd0 hu1').val (i:=k) (by omega)
   refine ⟨a,ha,by omega,by omega,_,_,_,hc,a',ha',by omega,by omega,_,_,_,hc',ifB_mk (fun hne=>?_) (fun he=>?_)⟩
   ·refine hK false _ ⟨fun h=>(by cases h),fun e=>?_⟩ hu1'
    subst e
    simp [sEq_self] at hne
   ·simp only [Bool.not_eq_false',Bool.and_eq_true,beq_iff_eq,sEq_iff,and_true] at he
    have hv:xs[k]=ys[k]:=by
     obtain ⟨h1,h2,h3⟩:=he
     cases hx:xs[k]; cases hy:ys[k]
     rw [hx,hy] at h1 h2 h3
     simp only at h1 h2 h3
     rw [h1,h2,h3]
    rw [i64_wrap (by omega) (by omega)]
    refine ⟨⟨k+1,by omega,by omega,hu1',?_⟩,by show n - _ < n - _; omega⟩
    rw [List.take_succ_eq_append_getElem (by omega),List.take_succ_eq_append_getElem (by omega),htk,hv]
  ·have hkn:k=n:=by simp at h; omega
   rw [List.take_of_length_le (by omega),List.take_of_length_le (by omega)] at htk
   exact hK true w1 ⟨fun _=>htk,fun _=>rfl⟩ hu1)
structure Try (rest:List UInt8) (v:Val):Prop where
 only:∀ v' r,Val.good v'→rest=vkey v'++r→v'=v
 range : -9223372036854775808≤v.n∧v.n≤9223372036854775807
 size:v.s.size≤100000
end
end Va
end Go.Proofs.YtjcgociobhhijaaGreatDoor
namespace Go.Proofs.YtjcgociobhhijaaGreatDoor.SX
open Go
def bdig (n:Nat):List Nat:=if h:n=0 then [] else n % 256 :: bdig (n / 256)
 termination_by n
 decreasing_by omega
theorem bdig_zero:bdig 0=[]:=by rw [bdig]; rfl
theorem bdig_pos {n:Nat} (h:0 < n):bdig n=n % 256 :: bdig (n / 256):=by rw [bdig,dif_neg (by omega)]
theorem bdig_len (n:Nat):∀ k,k < (bdig n).length↔n / 256 ^ k≠0:=by
 induction n using Nat.strongRecOn with
 | ind n ih=>
  intro k
  rcases Nat.eq_zero_or_pos n with h | h
  ·subst h; rw [bdig_zero]; simp
  ·rw [bdig_pos h,List.length_cons]
   cases k with
   | zero=>simp; omega
   | succ k=>
    have:=ih (n / 256) (by omega) k
    rw [Nat.div_div_eq_div_mul,← Nat.pow_succ'] at this
    rw [← this]
    omega
theorem bdig_get (n:Nat):∀ k (h:k < (bdig n).length),(bdig n)[k]=n / 256 ^ k % 256:=by
 induction n using Nat.strongRecOn with
 | ind n ih=>
  intro k hk
  rcases Nat.eq_zero_or_pos n with h | h
  ·subst h; simp [bdig_zero] at hk
  ·have e:=bdig_pos h
   cases k with
   | zero=>
    have:(bdig n)[0]? = some (n % 256):=by rw [e]; rfl
    rw [List.getElem?_eq_getElem hk] at this
    simpa using this
   | succ k=>
    have hk':k < (bdig (n / 256)).length:=by rw [e,List.length_cons] at hk; omega
    have h1:(bdig n)[k+1]? = (bdig (n / 256))[k]?:=by rw [e]; rfl
    rw [List.getElem?_eq_getElem hk,List.getElem?_eq_getElem hk'] at h1
    rw [Option.some.inj h1,ih (n / 256) (by omega) k hk',Nat.div_div_eq_div_mul,← Nat.pow_succ']
theorem bdig_len8 {n:Nat} (h:n < 18446744073709551616):(bdig n).length≤8:=by
 rcases Nat.lt_or_ge 8 (bdig n).length with h1 | h1
 ·have:=(bdig_len n 8).1 h1
  exact absurd (Nat.div_eq_of_lt (by show n < 18446744073709551616; exact h)) this
 ·exact h1
def nb (n:Nat):List UInt8:=(bdig n).reverse.map UInt8.ofNat
def numT (n:Nat):List UInt8:=UInt8.ofNat (bdig n).length :: nb n
theorem nb_length (n:Nat):(nb n).length=(bdig n).length:=by simp [nb]
theorem numT_len {n:Nat} (h:n < 18446744073709551616):(numT n).length≤9:=by
 unfold numT
 rw [List.length_cons,nb_length]
 have:=bdig_len8 h
 omega
def sizeT (n:Int):List UInt8:=numT (if n < 0 then 0 else n.toNat)
def zig (n:Int):Nat:=if n < 0 then (2 * (-(n+1))+1).toNat else (2 * n).toNat
def signedT (n:Int):List UInt8:=numT (zig n)
def textT (s:List UInt8):List UInt8:=sizeT s.length++s
def valT (v:Val):List UInt8:=if v.right=true then (if v.k=1 then 1 :: signedT v.n else if v.k=2 then 2 :: textT v.s.data.toList else [3,lowByte v.n]) else 1 :: signedT 0
def rowT (r:List Val):List UInt8:=sizeT r.length++r.flatMap valT
def rowsT (l:List (List Val)):List UInt8:=sizeT l.length++l.flatMap rowT
theorem sizeT_len {n:Int} (h:n≤9223372036854775807):(sizeT n).length≤9:=by
 unfold sizeT
 refine numT_len ?_
 split <;> omega
theorem signedT_len {n:Int} (h : -9223372036854775808≤n∧n≤9223372036854775807):(signedT n).length≤9:=by
 refine numT_len ?_
 unfold zig
 split <;> omega
theorem valT_len {v:Val} (h : -9223372036854775808≤v.n∧v.n≤9223372036854775807):(valT v).length≤300:=by
 unfold valT
 by_cases hr:v.right=true
 ·rw [if_pos hr]
  split
  ·have:=signedT_len h
   rw [List.length_cons]; omega
  ·split
   ·unfold textT
    have h1:=sizeT_len (n:=(v.s.data.toList.length:Int))
    have hsz:v.s.size≤200:=by
     unfold Val.right at hr
     rename_i h2 h3
     simp [h3] at hr
     omega
    have hl:v.s.data.toList.length=v.s.size:=rfl
    have:=h1 (by omega)
    simp only [List.length_cons,List.length_append]
    omega
   ·simp
 ·rw [if_neg hr]
  have:=signedT_len (n:=0) (by omega)
  rw [List.length_cons]; omega
theorem flat_len {α:Type} {f:α→List UInt8} {B:Nat}:∀ {l:List α},(∀ x∈l,(f x).length≤B)→(l.flatMap f).length≤B * l.length
 | [],_=>by simp
 | x :: l,h=>by
  have h1:=h x (by simp)
  have h2:=flat_len (l:=l) fun y hy=>h y (by simp [hy])
  rw [List.flatMap_cons,List.length_append,List.length_cons,Nat.mul_add]
  omega
theorem rowT_len {r:List Val} (hn:r.length≤1000000) (h:∀ v∈r,-9223372036854775808≤v.n∧v.n≤9223372036854775807):(rowT r).length≤9+300 * r.length:=by
 unfold rowT
 rw [List.length_append]
 have h1:=sizeT_len (n:=(r.length:Int)) (by omega)
 have h2:=flat_len (f:=valT) (B:=300) (l:=r) fun v hv=>valT_len (h v hv)
 omega
end Go.Proofs.YtjcgociobhhijaaGreatDoor.SX
namespace Go.Proofs.YtjcgociobhhijaaGreatDoor
open Go SX Va
namespace Cd
theorem shr_byte (N:Nat) {i:Nat} (hi:i≤7):Int.fdiv (N:Int) (2 ^ (min (IntKind.i64.wrap ((8:Int) * (i:Int))).toNat IntKind.u64.bits))=((N / 256 ^ i:Nat):Int):=by
 have e1:IntKind.i64.wrap ((8:Int) * (i:Int))=((8 * i:Nat):Int):=by rw [i64_wrap (by omega) (by omega)]; omega
 rw [e1,Int.toNat_natCast,show min (8 * i) IntKind.u64.bits=8 * i by simp [IntKind.bits]; omega]
 have h2:(2:Int) ^ (8 * i)=((2 ^ (8 * i):Nat):Int):=by simp
 rw [h2,Int.fdiv_eq_ediv_of_nonneg _ (Int.natCast_nonneg _),← Int.natCast_ediv,Nat.pow_mul]
theorem u8_mod (N:Nat):IntKind.u8.wrap (N:Int)=((UInt8.ofNat (N % 256)).toNat:Int):=by
 simp [IntKind.wrap,IntKind.signed,IntKind.bits]
theorem xor_ones (x:Nat) (h:x < 18446744073709551616):x ^^^ 18446744073709551615=18446744073709551615 - x:=by
 have h1:=congrArg BitVec.toNat (BitVec.xor_allOnes (x:=BitVec.ofNat 64 x))
 rw [BitVec.toNat_xor,BitVec.toNat_not,BitVec.toNat_allOnes,BitVec.toNat_ofNat,Nat.mod_eq_of_lt (show x < 2 ^ 64 from h)] at h1
 exact h1
theorem bits_xor_u64 {x y:Nat} (hx:x < 18446744073709551616) (hy:y < 18446744073709551616) (hxy:x ^^^ y < 18446744073709551616):bits .xor .u64 (x:Int) (y:Int)=((x ^^^ y:Nat):Int):=by
 show IntKind.u64.wrap (((BitVec.ofInt 64 (x:Int) ^^^ BitVec.ofInt 64 (y:Int)).toNat:Nat):Int)=_
 rw [BitVec.ofInt_natCast,BitVec.ofInt_natCast,BitVec.toNat_xor,BitVec.toNat_ofNat,BitVec.toNat_ofNat,Nat.mod_eq_of_lt (show x < 2 ^ 64 from hx),Nat.mod_eq_of_lt (show y < 2 ^ 64 from hy)]
 generalize x ^^^ y=z at hxy ⊢
 simp [IntKind.wrap,IntKind.signed,IntKind.bits]
 omega
theorem zig_bits {e:Int} (h1 : -9223372036854775808≤e) (h2:e≤9223372036854775807):bits .xor .u64 (IntKind.u64.wrap ((IntKind.u64.wrap e) * 2 ^ (min (1:Int).toNat IntKind.u64.bits))) (IntKind.u64.wrap (Int.fdiv e (2 ^ (min (63:Int).toNat IntKind.i64.bits))))=((zig e:Nat):Int):=by
 have p1:(2:Int) ^ (min (1:Int).toNat IntKind.u64.bits)=2:=by decide
 have p2:(2:Int) ^ (min (63:Int).toNat IntKind.i64.bits)=9223372036854775808:=by decide
 rw [p1,p2]
 by_cases h:e < 0
 ·have e1:IntKind.u64.wrap (IntKind.u64.wrap e * 2)=((18446744073709551616+2 * e).toNat:Int):=by
   simp [IntKind.wrap,IntKind.signed,IntKind.bits]
   omega
  have e2:IntKind.u64.wrap (Int.fdiv e 9223372036854775808)=((18446744073709551615:Nat):Int):=by
   have:Int.fdiv e 9223372036854775808 = -1:=by rw [Int.fdiv_eq_ediv_of_nonneg _ (by decide)]; omega
   rw [this]
   decide
  have hx:=xor_ones (18446744073709551616+2 * e).toNat (by omega)
  rw [e1,e2,bits_xor_u64 (by omega) (by omega) (by rw [hx]; omega),hx]
  unfold zig
  rw [if_pos h]
  omega
 ·have e1:IntKind.u64.wrap (IntKind.u64.wrap e * 2)=((2 * e).toNat:Int):=by
   simp [IntKind.wrap,IntKind.signed,IntKind.bits]
   omega
  have e2:IntKind.u64.wrap (Int.fdiv e 9223372036854775808)=((0:Nat):Int):=by
   have:Int.fdiv e 9223372036854775808=0:=by rw [Int.fdiv_eq_ediv_of_nonneg _ (by decide)]; omega
   rw [this]
   decide
  rw [e1,e2,bits_xor_u64 (by omega) (by omega) (by rw [Nat.xor_zero]; omega),Nat.xor_zero]
  unfold zig
  rw [if_neg h]
abbrev WT:List Nat:=[T.codec_Writer,T.uint8]
def Wr (w0 w:World) (g:Nat) (l:List UInt8):Prop:=∃ (p:Option Addr) (c:Nat),Blk w g [.slice p l.length c] T.codec_Writer∧Own w T.uint8 1 p l.length c (bytesV l)∧Upd Nothing w0 w∧w0.heap.size≤g∧∀ k,Fp p c k→w0.heap.size≤k
theorem Wr.upd0 {w0 w w':World} {g:Nat} {l:List UInt8} (h:Wr w0 w g l) (hu:Upd Nothing w w'):Wr w0 w' g l:=by
 obtain ⟨p,c,h1,h2,h3,h4,h5⟩:=h
 exact ⟨p,c,hu.blk h1 fun f=>f,h2.upd0 hu,h3.then hu,h4,h5⟩
theorem Wr.more {w0 w w':World} {g:Nat} {l:List UInt8} {F:Nat→Prop} (h:Wr w0 w g l) (hu:Upd F w w') (h0:∀ k,F k→w0.heap.size≤k) (hn:∀ k,F k→¬ Typed w WT k):Wr w0 w' g l:=by
 obtain ⟨p,c,h1,h2,h3,h4,h5⟩:=h
 exact ⟨p,c,hu.blk h1 fun f=>hn _ f ⟨_,_,h1,by decide⟩,h2.upd hu fun k hk f=>hn k f (own_typed h2 (by decide) k hk),h3.fresh hu h0,h4,h5⟩
theorem Wr.here {w0 w:World} {g:Nat} {l:List UInt8} (h:Wr w0 w g l):Upd Nothing w0 w:=h.choose_spec.choose_spec.2.2.1
theorem Wr.new {w0 w:World} {g:Nat} (h:New w0 (.cells #[.slice none 0 0] T.codec_Writer) g w):Wr w0 w g []:=by
 have hb:=Blk.new h (by simp [Value.oneCell'])
 exact ⟨none,0,hb,Own.nil _ _ _,Upd.new h,by rw [h.1]; exact Nat.le_refl _,fun k hk=>by have:=hk.1; omega⟩
section
variable {w0 w:World} {K:Value→World→Prop} {p q:Option Addr} {n c m d g:Nat} {l:List UInt8}
theorem lay_spec {ys:List UInt8} (h:Wr w0 w g l) (hat:At w q (bytesV ys)) (hl:ys.length=m) (hsz:l.length+m≤1099511627776) (hK:∀ w',Wr w0 w' g (l++ys)→Upd (Typed w WT) w w'→K (.tuple #[]) w') :
  Cv F.z55 #[.pointer (some ⟨g,0,none⟩),.slice q m d] w K:=
 R.z55 (by
  unfold C.z55
  obtain ⟨p,c,hb,ho,hu0,hg,hf⟩:=h
  refine ⟨_,rfl,p,_,c,hb.cell (i:=0) rfl,?_⟩
  refine append_own (m:=m) (ys:=bytesV ys) su8 (.inl su8.desc) ho (Src.slice hat (by rw [bytesV_length,hl,Nat.mul_one]) (bytesV_one ys)) (by decide) (by decide) (by omega) fun p' c' w1 ho1 hu1 hf1=>⟨_,_,_,rfl,_,rfl,?_⟩
  have hbn:¬ Fp p c g:=fun h=>own_not_typed (es:=[T.codec_Writer]) ho (by decide) g h ⟨_,_,hb,by decide⟩
  have hb1:=hu1.blk hb hbn
  have hu1':Upd (Typed w WT) w w1:=hu1.mono fun i _ hi=>own_typed ho (by decide) i hi
  refine hb1.store (i:=0) (by simp) rfl fun w2 hb2 hu2 _=>hK w2 ⟨p',c',?_,?_,(hu0.fresh hu1 hf).fresh hu2 fun i hi=>by rw [show i=g from hi]; exact hg,hg,fun k hk=>?_⟩ (hu1'.typed (Upd.tone hb1 hu2 (by decide)))
  ·rw [List.length_append,hl]; exact hb2
  ·rw [List.length_append,hl,bytesV_append]
   exact ho1.upd hu2 fun k hk e=>own_not_typed (es:=[T.codec_Writer]) ho1 (by decide) k hk ⟨[.slice p l.length c],T.codec_Writer,by rw [show k=g from e]; exact hb1,by decide⟩
  ·rcases hf1 k hk with h | h
   ·exact hf k h
   ·exact Nat.le_trans hu0.size h)
theorem lay_one {x:Int} {y:UInt8} (hx:x=(y.toNat:Int)) (h:Wr w0 w g l) (hsz:l.length+1≤1099511627776) (hK:∀ w',Wr w0 w' g (l++[y])→Upd (Typed w WT) w w'→K (.tuple #[]) w') :
  ∀ b w1,New w (.cells #[.int .u8 x] T.uint8) b w1→Cv F.z55 #[.pointer (some ⟨g,0,none⟩),.slice (some (Addr.mk b 0 none)) 1 1] w1 K:=by
 subst hx
 refine New.use (by simp [Value.oneCell']) fun b w1 hb hu hge _=>?_
 exact lay_spec (ys:=[y]) (h.upd0 hu) (At.of_blk hb fun j v hj=>by rw [Nat.zero_add]; exact hj) rfl hsz fun w2 h2 hu2=>hK w2 h2 (hu.typed0 hu2)
theorem number_tail {N:Nat} (hN:(bdig N).length≤8) (h:Wr w0 w g l) (hl:l.length≤1000000000) (hK:∀ w',Wr w0 w' g (l++numT N)→Upd (Typed w WT) w w'→K (.tuple #[]) w') :
  ∀ b2 wv2,New w (.cells #[.int .u8 (IntKind.u8.wrap ((bdig N).length:Int))] T.uint8) b2 wv2→
   Cv F.z55 #[.pointer (some ⟨g,0,none⟩),.slice (some (Addr.mk b2 0 none)) 1 1] wv2 (fun v1 wv3=>
    v1 = .tuple #[]∧
    ∃ (Iv2:Int→World→Prop) (m2:Int→World→Nat),
    Iv2 (IntKind.i64.wrap (((bdig N).length:Int) - (1:Int))) wv3∧
    ∀ (i1:Int) wv4,Iv2 i1 wv4→
    ifB (decide ((0:Int)≤i1)) (
     0≤(IntKind.i64.wrap ((8:Int) * i1))∧
     ∀ b3 wv5,New wv4 (.cells #[.int .u8 (IntKind.u8.wrap (Int.fdiv (N:Int) (2 ^ (min (IntKind.i64.wrap ((8:Int) * i1)).toNat IntKind.u64.bits))))] T.uint8) b3 wv5→
     Cv F.z55 #[.pointer (some ⟨g,0,none⟩),.slice (some (Addr.mk b3 0 none)) 1 1] wv5 (fun v2 wv6=>
      v2 = .tuple #[]∧
      Iv2 (IntKind.i64.wrap (i1 - (1:Int))) wv6∧m2 (IntKind.i64.wrap (i1 - (1:Int))) wv6 < m2 i1 wv4)) (
     K (.tuple #[]) wv4)):=by
 refine lay_one (y:=UInt8.ofNat (bdig N).length) (by rw [u8_mod,Nat.mod_eq_of_lt (by omega)]) h (by omega) fun w1 h1 hu1=>⟨rfl,?_⟩
 refine ⟨fun i w'=>∃ k:Nat,i=(k:Int) - 1∧k≤(bdig N).length∧Wr w0 w' g (l++[UInt8.ofNat (bdig N).length]++((bdig N).drop k).reverse.map UInt8.ofNat)∧Upd (Typed w WT) w w',fun i _=>(i+1).toNat,⟨(bdig N).length,by rw [i64_wrap (by omega) (by omega)],Nat.le_refl _,by rw [List.drop_length]; simpa using h1,hu1⟩,?_⟩
 rintro i w2 ⟨k,rfl,hk,h2,hu2⟩
 refine ifB_mk (fun h3=>?_) (fun h3=>?_)
 ·have h0:=of_decide_eq_true h3
  obtain ⟨j,rfl⟩:∃ j,k=j+1:=⟨k - 1,by omega⟩
  have hj:((j+1:Nat):Int) - 1=(j:Int):=by omega
  rw [hj]
  refine ⟨by rw [i64_wrap (by omega) (by omega)]; omega,?_⟩
  rw [shr_byte N (by omega)]
  have hjl:j < (bdig N).length:=by omega
  have hlen:(l++[UInt8.ofNat (bdig N).length]++((bdig N).drop (j+1)).reverse.map UInt8.ofNat).length≤l.length+9:=by simp; omega
  refine lay_one (y:=UInt8.ofNat (N / 256 ^ j % 256)) (u8_mod _) h2 (by omega) fun w3 h3 hu3=>⟨rfl,⟨j,?_,by omega,?_,hu2.typed hu3⟩,?_⟩
  ·rw [i64_wrap (by omega) (by omega)]
  ·have e:(bdig N).drop j=(N / 256 ^ j % 256) :: (bdig N).drop (j+1):=by rw [List.drop_eq_getElem_cons hjl,bdig_get]
   rw [e,List.reverse_cons,List.map_append,← List.append_assoc]
   exact h3
  ·rw [i64_wrap (by omega) (by omega)]
   show Int.toNat _ < Int.toNat _
   omega
 ·have hk0:k=0:=by have:=of_decide_eq_false h3; omega
  subst hk0
  rw [List.drop_zero,List.append_assoc] at h2
  exact hK w2 h2 hu2
theorem number_spec {N:Nat} (hN:N < 18446744073709551616) (h:Wr w0 w g l) (hl:l.length≤1000000000) (hK:∀ w',Wr w0 w' g (l++numT N)→Upd (Typed w WT) w w'→K (.tuple #[]) w') :
  Cv F.z56 #[.pointer (some ⟨g,0,none⟩),.int .u64 (N:Int)] w K:=
 R.z56 (by
  unfold C.z56
  have h8:=bdig_len8 hN
  refine ⟨fun i w'=>w'=w∧∃ k:Nat,i=k∧k≤(bdig N).length,fun i _=>8 - i.toNat,⟨rfl,0,rfl,by omega⟩,?_⟩
  rintro i w1 ⟨rfl,k,rfl,hk⟩
  refine ifB_mk (fun h1=>?_) (fun h1=>?_)
  ·have hk8:k < 8:=by have:=of_decide_eq_true h1; omega
   refine ⟨by rw [i64_wrap (by omega) (by omega)]; omega,?_⟩
   rw [shr_byte N (by omega)]
   refine ifB_mk (fun h2=>?_) (fun h2=>?_)
   ·have hlt:k < (bdig N).length:=(bdig_len N k).2 fun e=>by rw [e] at h2; simp at h2
    rw [i64_wrap (by omega) (by omega)]
    exact ⟨⟨rfl,k+1,by omega,by omega⟩,by show 8 - _ < 8 - _; omega⟩
   ·have hge:¬ k < (bdig N).length:=fun h3=>(bdig_len N k).1 h3 (by
     have:((N / 256 ^ k:Nat):Int)=0:=by simpa using h2
     omega)
    have hkl:k=(bdig N).length:=by omega
    rw [hkl]
    exact number_tail h8 h hl hK
  ·have hkl:k=(bdig N).length:=by have:=of_decide_eq_false h1; omega
   rw [hkl]
   exact number_tail h8 h hl hK)
def Stay (w0 w:World) (g:Nat) (P:World→Prop):Prop:=∀ w' l',Wr w0 w' g l'→Upd (Typed w WT) w w'→P w'
theorem Stay.of0 {P:World→Prop} (h:∀ w',Upd Nothing w0 w'→P w'):Stay w0 w g P:=fun w' l' hw _=>h w' hw.here
theorem Stay.step {w1:World} {P:World→Prop} (h:Stay w0 w g P) (hu:Upd (Typed w WT) w w1):Stay w0 w1 g P:=fun w' l' hw hu'=>h w' l' hw (hu.typed hu')
theorem Stay.blk {b e:Nat} {L:List Value} {P:World→Prop} (hb:Blk w b L e) (he:e∉WT) (h:∀ w',Blk w' b L e→P w'):Stay w0 w g P:=fun w' l' _ hu=>h w' (hu.tblk hb he)
theorem size_spec {xs:List Int} (hat:Stay w0 w g fun w'=>At w' p (ints xs)) (hn:xs.length=n) (hn':n≤1000000) (hx:∀ x∈xs,x≤9223372036854775807) (h:Wr w0 w g l) (hl:l.length+9 * n≤1000000000) (hK:∀ w',Wr w0 w' g (l++xs.flatMap sizeT)→Upd (Typed w WT) w w'→K (.pointer (some ⟨g,0,none⟩)) w') :
  Cv F.z60 #[.pointer (some ⟨g,0,none⟩),.slice p n c] w K:=
 R.z60 (by
  unfold C.z60
  refine ⟨fun i w'=>∃ k:Nat,i=k∧k≤n∧Wr w0 w' g (l++(xs.take k).flatMap sizeT)∧Upd (Typed w WT) w w',fun i _=>n - i.toNat,⟨0,rfl,by omega,by simpa using h,Upd.refl _ _⟩,?_⟩
  rintro i w1 ⟨k,rfl,hk,h1,hu1⟩
  refine ifB_mk (fun h2=>?_) (fun h2=>?_)
  ·have hkn:k < n:=by have:=of_decide_eq_true h2; omega
   obtain ⟨a,ha,hc⟩:=hat _ _ h1 hu1 k _ (ints_get (by omega))
   have hxk:=hx _ (List.getElem_mem (show k < xs.length by omega))
   refine ⟨a,ha,by omega,by omega,xs[k],by simpa using hc,ifB_mk (fun _=>⟨_,rfl,?_⟩) (fun h=>by cases h)⟩
   have e:IntKind.u64.wrap (mm2 true xs[k] 0)=(((if xs[k] < 0 then 0 else xs[k].toNat):Nat):Int):=by
    unfold mm2
    by_cases hneg:xs[k] < 0
    ·simp [hneg,IntKind.wrap,IntKind.signed,IntKind.bits]
    ·simp [hneg,IntKind.wrap,IntKind.signed,IntKind.bits]
     omega
   rw [e]
   have hlen:((xs.take k).flatMap sizeT).length≤9 * k:=by
    have:=flat_len (f:=sizeT) (B:=9) (l:=xs.take k) fun x hx'=>sizeT_len (hx x (List.mem_of_mem_take hx'))
    rw [List.length_take,Nat.min_eq_left (by omega)] at this
    exact this
   refine number_spec (by split <;> omega) h1 (by rw [List.length_append]; omega) fun w2 h3 hu3=>⟨rfl,?_⟩
   rw [i64_wrap (by omega) (by omega)]
   refine ⟨⟨k+1,by omega,by omega,?_,hu1.typed hu3⟩,by show n - _ < n - _; omega⟩
   rw [List.take_succ_eq_append_getElem (by omega),List.flatMap_append,← List.append_assoc]
   simpa [sizeT] using h3
  ·have hkn:k=n:=by have:=of_decide_eq_false h2; omega
   rw [List.take_of_length_le (by omega)] at h1
   exact hK w1 h1 hu1)
theorem size_one {x:Int} (hx:x≤9223372036854775807) (h:Wr w0 w g l) (hl:l.length≤999999990) (hK:∀ w',Wr w0 w' g (l++sizeT x)→Upd (Typed w WT) w w'→K (.pointer (some ⟨g,0,none⟩)) w') :
  ∀ b w1,New w (.cells #[.int .i64 x] T.int) b w1→Cv F.z60 #[.pointer (some ⟨g,0,none⟩),.slice (some (Addr.mk b 0 none)) 1 1] w1 K:=by
 refine New.use (by simp [Value.oneCell']) fun b w1 hb hu hge _=>?_
 refine size_spec (xs:=[x]) (Stay.blk hb (by decide) fun w' hb'=>At.of_blk hb' fun j v hj=>by rw [Nat.zero_add]; exact hj) rfl (by omega) (by simpa using hx) (h.upd0 hu) (by omega) fun w2 h2 hu2=>hK w2 (by simpa using h2) (hu.typed0 hu2)
theorem signed_one {x:Int} (hx : -9223372036854775808≤x∧x≤9223372036854775807) (h:Wr w0 w g l) (hl:l.length≤999999990) (hK:∀ w',Wr w0 w' g (l++signedT x)→Upd (Typed w WT) w w'→K (.pointer (some ⟨g,0,none⟩)) w') :
  ∀ b w1,New w (.cells #[.int .i64 x] T.int64) b w1→Cv F.z59 #[.pointer (some ⟨g,0,none⟩),.slice (some (Addr.mk b 0 none)) 1 1] w1 K:=by
 refine New.use (by simp [Value.oneCell']) fun b w1 hb hu hge _=>R.z59 ?_
 unfold C.z59
 refine ⟨fun i w'=>(i=0∧w'=w1)∨(i=1∧Wr w0 w' g (l++signedT x)∧Upd (Typed w WT) w w'),fun i _=>1 - i.toNat,.inl ⟨rfl,rfl⟩,?_⟩
 rintro i w2 (⟨rfl,rfl⟩ | ⟨rfl,h2,hu2⟩)
 ·refine ifB_mk (fun _=>⟨_,rfl,by decide,by decide,x,hb.cell (i:=0) rfl,ifB_mk (fun _=>⟨_,rfl,by decide,by decide,?_⟩) (fun h=>by cases h)⟩) (fun h=>by cases h)
  rw [zig_bits hx.1 hx.2]
  refine number_spec ?_ (h.upd0 hu) (by omega) fun w3 h3 hu3=>⟨rfl,.inr ⟨by decide,h3,hu.typed0 hu3⟩,by show 1 - (IntKind.i64.wrap (0+1)).toNat < 1 - (0:Int).toNat; decide⟩
  unfold zig
  split <;> omega
 ·exact ifB_mk (fun h=>by cases h) (fun _=>hK w2 h2 hu2)
theorem text_one {x:ByteArray} (hx:x.size≤1000000) (h:Wr w0 w g l) (hl:l.length≤990000000) (hK:∀ w',Wr w0 w' g (l++textT x.data.toList)→Upd (Typed w WT) w w'→K (.pointer (some ⟨g,0,none⟩)) w') :
  ∀ b w1,New w (.cells #[.string x] T.string) b w1→Cv F.z62 #[.pointer (some ⟨g,0,none⟩),.slice (some (Addr.mk b 0 none)) 1 1] w1 K:=by
 refine New.use (by simp [Value.oneCell']) fun b w1 hb hu hge _=>R.z62 ?_
 unfold C.z62
 have hlen:x.data.toList.length=x.size:=rfl
 refine ⟨fun i w'=>(i=0∧w'=w1)∨(i=1∧Wr w0 w' g (l++textT x.data.toList)∧Upd (Typed w WT) w w'),fun i _=>1 - i.toNat,.inl ⟨rfl,rfl⟩,?_⟩
 rintro i w2 (⟨rfl,rfl⟩ | ⟨rfl,h2,hu2⟩)
 ·refine ifB_mk (fun _=>⟨_,rfl,by decide,by decide,x,hb.cell (i:=0) rfl,ifB_mk (fun _=>⟨_,rfl,?_⟩) (fun h=>by cases h)⟩) (fun h=>by cases h)
  have e:IntKind.u64.wrap ((x.size:Nat):Int)=((x.size:Nat):Int):=by
   simp [IntKind.wrap,IntKind.signed,IntKind.bits]
   omega
  rw [e]
  have hst:sizeT (x.data.toList.length:Int)=numT x.size:=by unfold sizeT; rw [if_neg (by omega),hlen]; simp
  have hnl:=numT_len (n:=x.size) (by omega)
  refine number_spec (by omega) (h.upd0 hu) (by omega) fun w3 h3 hu3=>⟨rfl,_,rfl,conv_text und_str su8.desc und_u8 fun cp cc w4 hat4 hu4=>⟨cp,_,cc,rfl,?_⟩⟩
  refine lay_spec (ys:=x.data.toList) (h3.upd0 hu4) hat4 rfl (by rw [List.length_append]; omega) fun w5 h5 hu5=>⟨rfl,.inr ⟨by decide,?_,((hu.typed0 hu3).more hu4).typed (hu5)⟩,by show 1 - (IntKind.i64.wrap (0+1)).toNat < 1 - (0:Int).toNat; decide⟩
  unfold textT
  rw [hst,← List.append_assoc]
  exact h5
 ·exact ifB_mk (fun h=>by cases h) (fun _=>hK w2 h2 hu2)
theorem one_spec {v:Val} (hv:Va.Val.wf v) (h:Wr w0 w g l) (hl:l.length≤900000000) (hK:∀ w',Wr w0 w' g (l++valT v)→Upd (Typed w WT) w w'→K (.tuple #[]) w'):Cv F.z64 #[.pointer (some ⟨g,0,none⟩),v.val] w K:=
 R.z64 (by
  unfold C.z64
  refine New.use (val_one v) fun g1 w1 hb1 hu1 hge1 hlt1=>?_
  let u:Val:=if v.right=true then v else ⟨1,0,⟨#[]⟩⟩
  have hgw:∀ w',Upd Nothing w w'→Wr w0 w' g l:=fun w' hu=>h.upd0 hu
  refine ⟨fun w'=>Blk w' g1 u.cells T.api_Value∧Upd Nothing w w',⟨_,_,_,cells_cells (v:=v) hb1,New.use (val_one v) fun g2 w2 hb2 hu2 hge2 _=>?_⟩,?_⟩
  ·have hat:At w2 (some (Addr.mk g2 0 none)) (vals [v]):=At.of_blk hb2 fun j x hj=>by
    rw [Nat.zero_add]
    simpa [vals,Val.cells] using hj
   refine right_spec (xs:=[v]) hat rfl (by omega) fun w3 hu3=>⟨_,rfl,ifB_mk (fun h1=>?_) (fun h1=>?_)⟩
   ·have hr:¬ v.right=true:=by simpa using h1
    refine int_spec fun w4 hu4=>⟨_,_,_,rfl,set_val ⟨1,0,⟨#[]⟩⟩ (((hu2.then hu3).then hu4).blk hb1 fun f=>f) fun w5 hb5 hu5=>⟨?_,(hu1.then ((hu2.then hu3).then hu4)).fresh hu5 fun i hi=>by rw [show i=g1 from hi]; exact hge1⟩⟩
    show Blk w5 g1 (Val.cells (if v.right=true then v else ⟨1,0,⟨#[]⟩⟩)) _
    rw [if_neg hr]
    exact hb5
   ·have hr:v.right=true:=by simpa using h1
    refine ⟨?_,hu1.then (hu2.then hu3)⟩
    show Blk w3 g1 (Val.cells (if v.right=true then v else ⟨1,0,⟨#[]⟩⟩)) _
    rw [if_pos hr]
    exact (hu2.then hu3).blk hb1 fun f=>f
  have hur:u.right=true:=by
   show (if v.right=true then v else (⟨1,0,⟨#[]⟩⟩:Val)).right=true
   by_cases hr:v.right=true
   ·rw [if_pos hr]; exact hr
   ·rw [if_neg hr]; decide +kernel
  have hun : -9223372036854775808≤u.n∧u.n≤9223372036854775807:=by
   show _≤(if v.right=true then v else (⟨1,0,⟨#[]⟩⟩:Val)).n∧(if v.right=true then v else (⟨1,0,⟨#[]⟩⟩:Val)).n≤_
   by_cases hr:v.right=true
   ·rw [if_pos hr]; exact hv.2.1
   ·rw [if_neg hr]; exact ⟨by decide,by decide⟩
  have hvu:valT v=valT u:=by
   show valT v=valT (if v.right=true then v else (⟨1,0,⟨#[]⟩⟩:Val))
   by_cases hr:v.right=true
   ·rw [if_pos hr]
   ·rw [if_neg hr]
    unfold valT
    rw [if_neg hr,if_pos (by decide +kernel),if_pos rfl]
  rw [hvu] at hK
  rintro w9 ⟨hb9,hu9⟩
  have hud:=hu9.then (Upd.drew _ _)
  have hg:=good_kinds hur
  have hk:u.k=1∨u.k=2∨u.k=3:=by
   rcases hg with h | h | h
   ·exact .inl h.1
   ·exact .inr (.inl h.1)
   ·exact .inr (.inr h.1)
  have hku:IntKind.u8.wrap u.k=((lowByte u.k).toNat:Int):=lowByte_wrap _
  refine ⟨_,rfl,_,hb9.drew.cell (i:=0) rfl,lay_one (y:=lowByte u.k) hku (hgw _ hud) (by omega) fun w11 h11 hu11=>⟨rfl,?_⟩⟩
  have hb11:=hu11.tblk hb9.drew (by decide)
  have hu011:Upd (Typed w WT) w w11:=hud.typed0 hu11
  have hl11:(l++[lowByte u.k]).length≤900000001:=by simp; omega
  refine ⟨_,hb11.cell (i:=0) rfl,ifB_mk (fun h1=>?_) (fun h1=>ifB_mk (fun h2=>?_) (fun h2=>?_))⟩
  ·have hk1:u.k=1:=beq_iff_eq.1 h1
   refine ⟨_,hb11.cell (i:=1) rfl,signed_one hun h11 (by omega) fun w13 h13 hu13=>⟨_,rfl,hK w13 ?_ (hu011.typed hu13)⟩⟩
   unfold valT
   rw [if_pos hur,if_pos hk1]
   rw [hk1,List.append_assoc] at h13
   exact h13
  ·have hk2:u.k=2:=beq_iff_eq.1 h2
   have hsz:=right_size hur
   refine ⟨_,hb11.cell (i:=2) rfl,text_one (by omega) h11 (by omega) fun w13 h13 hu13=>⟨_,rfl,hK w13 ?_ (hu011.typed hu13)⟩⟩
   unfold valT
   rw [if_pos hur,if_neg (by omega),if_pos hk2]
   rw [hk2,List.append_assoc] at h13
   exact h13
  ·have hk1:u.k≠1:=by simpa using h1
   have hk2:u.k≠2:=by simpa using h2
   have hk3:u.k=3:=by omega
   refine ⟨_,rfl,_,hb11.drew.cell (i:=1) rfl,lay_one (y:=lowByte u.n) (lowByte_wrap _) (h11.upd0 (Upd.drew _ _)) (by omega) fun w13 h13 hu13=>⟨rfl,hK w13 ?_ ((hu011.more (Upd.drew _ _)).typed hu13)⟩⟩
   unfold valT
   rw [if_pos hur,if_neg hk1,if_neg hk2]
   rw [hk3,List.append_assoc] at h13
   exact h13)
theorem values_spec {xs:List Val} (hat:Stay w0 w g fun w'=>At w' p (vals xs)) (hn:xs.length=n) (hn':n≤1000000) (hx:∀ x∈xs,Va.Val.wf x) (h:Wr w0 w g l) (hl:l.length+300 * n≤900000000) (hK:∀ w',Wr w0 w' g (l++xs.flatMap valT)→Upd (Typed w WT) w w'→K (.pointer (some ⟨g,0,none⟩)) w') :
  Cv F.z63 #[.pointer (some ⟨g,0,none⟩),.slice p n c] w K:=
 R.z63 (by
  unfold C.z63
  refine ⟨fun i w'=>∃ k:Nat,i=k∧k≤n∧Wr w0 w' g (l++(xs.take k).flatMap valT)∧Upd (Typed w WT) w w',fun i _=>n - i.toNat,⟨0,rfl,by omega,by simpa using h,Upd.refl _ _⟩,?_⟩
  rintro i w1 ⟨k,rfl,hk,h1,hu1⟩
  refine ifB_mk (fun h2=>?_) (fun h2=>?_)
  ·have hkn:k < n:=by have:=of_decide_eq_true h2; omega
   have hkx:k < xs.length:=by omega
   obtain ⟨a,ha,hcl⟩:=(hat _ _ h1 hu1).val hkx
   have hlen:((xs.take k).flatMap valT).length≤300 * k:=by
    have:=flat_len (f:=valT) (B:=300) (l:=xs.take k) fun x hx'=>valT_len (hx x (List.mem_of_mem_take hx')).2.1
    rw [List.length_take,Nat.min_eq_left (by omega)] at this
    exact this
   refine ⟨a,ha,by omega,by omega,_,_,_,hcl,New.use (by simp [Value.oneCell']) fun g3 w3 hb3 hu3 hge3 _=>set_val xs[k] hb3 fun w6 hb6 hu6=>ifB_mk (fun _=>⟨_,_,_,cells_cells (v:=xs[k]) hb6,?_⟩) (fun h=>by cases h)⟩
   have hu16:Upd Nothing w1 w6:=hu3.fresh hu6 fun i hi=>by rw [show i=g3 from hi]; exact hge3
   show Cv F.z64 #[.pointer (some ⟨g,0,none⟩),(xs[k]).val] w6 _
   refine one_spec (hx _ (List.getElem_mem hkx)) (h1.upd0 hu16) (by rw [List.length_append]; omega) fun w7 h7 hu7=>⟨rfl,?_⟩
   rw [i64_wrap (by omega) (by omega)]
   refine ⟨⟨k+1,by omega,by omega,?_,(hu1.more hu16).typed hu7⟩,by show n - _ < n - _; omega⟩
   rw [List.take_succ_eq_append_getElem hkx,List.flatMap_append,← List.append_assoc]
   simpa using h7
  ·have hkn:k=n:=by have:=of_decide_eq_false h2; omega
   rw [List.take_of_length_le (by omega)] at h1
   exact hK w1 h1 hu1)
theorem row_spec {xs:List Val} (hat:Stay w0 w g fun w'=>At w' p (vals xs)) (hn:xs.length=n) (hn':n≤1000000) (hx:∀ x∈xs,Va.Val.wf x) (h:Wr w0 w g l) (hl:l.length+300 * n≤899999900) (hK:∀ w',Wr w0 w' g (l++rowT xs)→Upd (Typed w WT) w w'→K (.pointer (some ⟨g,0,none⟩)) w') :
  Cv F.z57 #[.pointer (some ⟨g,0,none⟩),.slice p n c] w K:=
 R.z57 (by
  unfold C.z57
  have hst:=sizeT_len (n:=(n:Int)) (by omega)
  refine size_one (by omega) h (by omega) fun w1 h1 hu1=>⟨_,rfl,values_spec (hat.step hu1) hn hn' hx h1 (by rw [List.length_append]; omega) fun w2 h2 hu2=>⟨_,rfl,hK w2 ?_ (hu1.typed hu2)⟩⟩
  unfold rowT
  rw [hn,← List.append_assoc]
  exact h2)
def RwsS (S:(World→Prop)→Prop) (p:Option Addr) (ls:List (List Val)):Prop:=∀ i (h:i < ls.length),∃ a q m d,p=some a∧S (fun w'=>w'.cell? (a.add i)=some (.slice q m d))∧S (fun w'=>At w' q (vals ls[i]))∧ls[i].length=m∧m≤d
theorem RwsS.of0 {ls:List (List Val)} (h:Rws w0 p ls):RwsS (Stay w0 w g) p ls:=fun i hi=>by
 obtain ⟨a,q,m,d,ha,hc,hat,hl,hd⟩:=h i hi
 exact ⟨a,q,m,d,ha,Stay.of0 fun w' hu=>hu.cell hc fun f=>f,Stay.of0 fun w' hu=>hat.upd0 hu,hl,hd⟩
theorem rows_spec {ls:List (List Val)} (hat:RwsS (Stay w0 w g) p ls) (hn:ls.length=n) (hn':n≤10000) (hB:∀ r∈ls,r.length≤40) (hx:∀ r∈ls,∀ x∈r,Va.Val.wf x) (h:Wr w0 w g l) (hl:l.length+12100 * n≤800000000) (hK:∀ w',Wr w0 w' g (l++rowsT ls)→Upd (Typed w WT) w w'→K (.pointer (some ⟨g,0,none⟩)) w') :
  Cv F.z58 #[.pointer (some ⟨g,0,none⟩),.slice p n c] w K:=
 R.z58 (by
  unfold C.z58
  have hst:=sizeT_len (n:=(n:Int)) (by omega)
  have hrl:∀ r∈ls,(rowT r).length≤12100:=fun r hr=>by
   have:=rowT_len (r:=r) (by have:=hB r hr; omega) fun v hv=>(hx r hr v hv).2.1
   have:=hB r hr
   omega
  refine size_one (by omega) h (by omega) fun w1 h1 hu1=>⟨_,rfl,?_⟩
  refine ⟨fun i w'=>∃ k:Nat,i=k∧k≤n∧Wr w0 w' g (l++sizeT (n:Int)++(ls.take k).flatMap rowT)∧Upd (Typed w WT) w w',fun i _=>n - i.toNat,⟨0,rfl,by omega,by simpa using h1,hu1⟩,?_⟩
  rintro i w2 ⟨k,rfl,hk,h2,hu2⟩
  refine ifB_mk (fun h3=>?_) (fun h3=>?_)
  ·have hkn:k < n:=by have:=of_decide_eq_true h3; omega
   have hkx:k < ls.length:=by omega
   obtain ⟨a,q,m,d,ha,hc,hstay,hl2,hd2⟩:=hat k hkx
   have hlen:((ls.take k).flatMap rowT).length≤12100 * k:=by
    have:=flat_len (f:=rowT) (B:=12100) (l:=ls.take k) fun x hx'=>hrl x (List.mem_of_mem_take hx')
    rw [List.length_take,Nat.min_eq_left (by omega)] at this
    exact this
   have hmem:=List.getElem_mem hkx
   have h40:=hB _ hmem
   refine ⟨a,ha,by omega,by omega,_,_,_,by simpa using hc _ _ h2 hu2,?_⟩
   refine row_spec (hstay.step hu2) hl2 (by omega) (hx _ hmem) h2 (by simp only [List.length_append]; omega) fun w3 h3 hu3=>⟨_,rfl,?_⟩
   rw [i64_wrap (by omega) (by omega)]
   refine ⟨⟨k+1,by omega,by omega,?_,hu2.typed hu3⟩,by show n - _ < n - _; omega⟩
   rw [List.take_succ_eq_append_getElem hkx,List.flatMap_append,← List.append_assoc]
   simpa using h3
  ·have hkn:k=n:=by have:=of_decide_eq_false h3; omega
   rw [List.take_of_length_le (by omega)] at h2
   refine hK w2 ?_ hu2
   unfold rowsT
   rw [hn,← List.append_assoc]
   exact h2)
theorem string_spec (h:Wr w0 w g l) (hK:K (.string (tx l)) w):Cv F.z61 #[.pointer (some ⟨g,0,none⟩)] w K:=
 R.z61 (by
  unfold C.z61
  refine ifB_mk (fun h=>by cases h) (fun _=>⟨_,rfl,R.z54 (by
   unfold C.z54
   obtain ⟨p,c,hb,ho,_⟩:=h
   exact ifB_mk (fun h=>by cases h) (fun _=>⟨_,rfl,p,_,c,hb.cell (i:=0) rfl,to_text ho.at rfl ⟨_,rfl,_,rfl,hK⟩⟩))⟩))
end
end Cd
end Go.Proofs.YtjcgociobhhijaaGreatDoor
namespace Go.Proofs.YtjcgociobhhijaaGreatDoor
open Go SX Va
namespace Cd
section
variable {w:World} {K:Value→World→Prop} {p q:Option Addr} {n c m d g:Nat}
theorem rnumber_spec {N:Nat} (hN:N < 18446744073709551616) (hK:∀ w',Upd Nothing w w'→K (.string (tx (numT N))) w'):Cv F.z35 #[.int .u64 (N:Int)] w K:=
 R.z35 (by
  unfold C.z35
  have h8:=bdig_len8 hN
  refine ⟨fun u s w'=>∃ (U:Nat) (done:List Nat),u=U∧bdig N=done++bdig U∧s=tx (done.reverse.map UInt8.ofNat)∧U≤N∧Upd Nothing w w',fun u _ _=>u.toNat,⟨N,[],rfl,rfl,rfl,Nat.le_refl _,Upd.refl _ _⟩,?_⟩
  rintro u s w1 ⟨U,done,rfl,hd,rfl,hUN,hu1⟩
  have hlen:=congrArg List.length hd
  rw [List.length_append] at hlen
  refine ifB_mk (fun h=>?_) (fun h=>?_)
  ·have hU:0 < U:=by have:=of_decide_eq_true h; omega
   have e1:Int.tmod (U:Int) 256=((U % 256:Nat):Int):=by rw [Int.tmod_eq_emod_of_nonneg (by omega)]; omega
   have e2:IntKind.u64.wrap (Int.tdiv (U:Int) 256)=((U / 256:Nat):Int):=by
    rw [Int.tdiv_eq_ediv_of_nonneg (by omega)]
    simp [IntKind.wrap,IntKind.signed,IntKind.bits]
    omega
   have e3:IntKind.u8.wrap ((U % 256:Nat):Int)=((UInt8.ofNat (U % 256)).toNat:Int):=by rw [u8_mod,Nat.mod_mod]
   rw [e1,e2,e3]
   refine ⟨by decide,New.use (by simp [Value.oneCell']) fun b w2 hb2 hu2 hge2 _=>to_text (l:=[UInt8.ofNat (U % 256)]) (At.of_blk hb2 fun j v hj=>by rw [Nat.zero_add]; exact hj) rfl ⟨_,rfl,?_,by decide,⟨U / 256,done++[U % 256],rfl,?_,?_,by omega,hu1.then hu2⟩,by show Int.toNat _ < Int.toNat _; omega⟩⟩
   ·show (tx [UInt8.ofNat (U % 256)]).size+_≤_
    rw [tx_size,tx_size]
    simp
    omega
   ·rw [hd,bdig_pos hU,List.append_assoc]; rfl
   ·show tx [UInt8.ofNat (U % 256)]++_=_
    rw [tx_app,List.reverse_append]
    rfl
  ·have hU:U=0:=by have:=of_decide_eq_false h; omega
   subst hU
   rw [bdig_zero,List.append_nil] at hd
   have e3:IntKind.u8.wrap (((tx (done.reverse.map UInt8.ofNat)).size:Nat):Int)=((UInt8.ofNat (bdig N).length).toNat:Int):=by
    rw [tx_size,u8_mod,hd]
    simp
   rw [e3]
   refine New.use (by simp [Value.oneCell']) fun b w2 hb2 hu2 hge2 _=>to_text (l:=[UInt8.ofNat (bdig N).length]) (At.of_blk hb2 fun j v hj=>by rw [Nat.zero_add]; exact hj) rfl ⟨_,rfl,?_,?_⟩
   ·show (tx [UInt8.ofNat (bdig N).length]).size+_≤_
    rw [tx_size,tx_size]
    simp
    omega
   ·have:=hK w2 (hu1.then hu2)
    unfold numT nb at this
    show K (.string (tx [UInt8.ofNat (bdig N).length]++_)) w2
    rw [tx_app]
    rw [hd] at this ⊢
    exact this)
theorem rsize_spec {x:Int} (hx:x≤9223372036854775807) (hK:∀ w',Upd Nothing w w'→K (.string (tx (sizeT x))) w'):Cv F.z40 #[.int .i64 x] w K:=
 R.z40 (by
  unfold C.z40
  unfold sizeT at hK
  refine ifB_mk (fun h=>?_) (fun h=>?_)
  ·have h0:=of_decide_eq_true h
   rw [if_pos h0] at hK
   exact rnumber_spec (N:=0) (by decide) fun w1 hu1=>⟨_,rfl,hK w1 hu1⟩
  ·have h0:=of_decide_eq_false h
   rw [if_neg h0] at hK
   have e:IntKind.u64.wrap x=((x.toNat:Nat):Int):=by
    simp [IntKind.wrap,IntKind.signed,IntKind.bits]
    omega
   rw [e]
   exact rnumber_spec (by omega) fun w1 hu1=>⟨_,rfl,hK w1 hu1⟩)
theorem rsigned_spec {x:Int} (hx : -9223372036854775808≤x∧x≤9223372036854775807) (hK:∀ w',Upd Nothing w w'→K (.string (tx (signedT x))) w'):Cv F.z39 #[.int .i64 x] w K:=
 R.z39 (by
  obtain ⟨h1,h2⟩:=hx
  unfold C.z39
  unfold signedT zig at hK
  refine ifB_mk (fun h=>?_) (fun h=>?_)
  ·have h0:=of_decide_eq_true h
   rw [if_pos h0] at hK
   have e:IntKind.u64.wrap ((IntKind.u64.wrap ((2:Int) * (IntKind.u64.wrap (IntKind.i64.wrap (0 - (IntKind.i64.wrap (x+(1:Int))))))))+(1:Int))=(((2 * (-(x+1))+1).toNat:Nat):Int):=by
    simp [IntKind.wrap,IntKind.signed,IntKind.bits]
    omega
   rw [e]
   exact rnumber_spec (by omega) fun w1 hu1=>⟨_,rfl,hK w1 hu1⟩
  ·have h0:=of_decide_eq_false h
   rw [if_neg h0] at hK
   have e:IntKind.u64.wrap ((2:Int) * (IntKind.u64.wrap x))=(((2 * x).toNat:Nat):Int):=by
    simp [IntKind.wrap,IntKind.signed,IntKind.bits]
    omega
   rw [e]
   exact rnumber_spec (by omega) fun w1 hu1=>⟨_,rfl,hK w1 hu1⟩)
theorem rtext_spec {s:ByteArray} (hs:s.size≤1000000) (hK:∀ w',Upd Nothing w w'→K (.string (tx (textT s.data.toList))) w'):Cv F.z41 #[.string s] w K:=
 R.z41 (by
  unfold C.z41
  have h1:=sizeT_len (n:=((s.size:Nat):Int)) (by omega)
  refine rsize_spec (by omega) fun w1 hu1=>⟨_,rfl,?_,?_⟩
  ·rw [tx_size]; omega
  ·have:=hK w1 hu1
   unfold textT at this
   rw [← tx_app,tx_self] at this
   exact this)
theorem rvalue_spec {v:Val} (hv:Va.Val.wf v) (hK:∀ w',Upd Nothing w w'→K (.string (tx (valT v))) w'):Cv F.z42 #[v.val] w K:=
 R.z42 (by
  unfold C.z42
  refine New.use (val_one v) fun g w1 hb1 hu1 hge1 _=>⟨_,_,_,cells_cells (v:=v) hb1,?_⟩
  show Cv F.z23 #[v.val] w1 _
  refine rright_spec fun w2 hu2=>⟨_,rfl,ifB_mk (fun h=>?_) (fun h=>?_)⟩
  ·have hr:¬ v.right=true:=by simpa using h
   have h1:=signedT_len (n:=0) (by omega)
   refine rsigned_spec (by omega) fun w3 hu3=>⟨_,rfl,?_,?_⟩
   ·rw [tx_bs,tx_size,tx_size]; simp; omega
   ·have:=hK w3 ((hu1.then hu2).then hu3)
    unfold valT at this
    rw [if_neg hr] at this
    rw [tx_bs,tx_app]
    exact this
  have hr:v.right=true:=by simpa using h
  have hb2:=hu2.blk hb1 fun f=>f
  have hk':∀ w',Upd Nothing w2 w'→K (.string (tx (valT v))) w':=fun w' hu=>hK w' ((hu1.then hu2).then hu)
  unfold valT at hk'
  rw [if_pos hr] at hk'
  refine ⟨_,hb2.cell (i:=0) rfl,ifB_mk (fun h1=>?_) (fun h1=>ifB_mk (fun h2=>?_) (fun h2=>?_))⟩
  ·rw [if_pos (beq_iff_eq.1 h1)] at hk'
   have h3:=signedT_len hv.2.1
   refine ⟨_,hb2.cell (i:=1) rfl,rsigned_spec hv.2.1 fun w3 hu3=>⟨_,rfl,?_,?_⟩⟩
   ·rw [tx_bs,tx_size,tx_size]; simp; omega
   ·rw [tx_bs,tx_app]
    exact hk' w3 hu3
  ·rw [if_neg (by simpa using h1),if_pos (beq_iff_eq.1 h2)] at hk'
   have hsz:=right_size hr
   have h3:(textT v.s.data.toList).length≤209:=by
    unfold textT
    have h4:=sizeT_len (n:=(v.s.data.toList.length:Int)) (by have:v.s.data.toList.length=v.s.size:=rfl; omega)
    have:v.s.data.toList.length=v.s.size:=rfl
    rw [List.length_append]
    omega
   refine ⟨_,hb2.cell (i:=2) rfl,rtext_spec (by omega) fun w3 hu3=>⟨_,rfl,?_,?_⟩⟩
   ·rw [tx_bs,tx_size,tx_size]; simp; omega
   ·rw [tx_bs,tx_app]
    exact hk' w3 hu3
  ·rw [if_neg (by simpa using h1),if_neg (by simpa using h2)] at hk'
   refine ⟨_,hb2.cell (i:=1) rfl,?_⟩
   rw [lowByte_wrap]
   refine New.use (by simp [Value.oneCell']) fun b w3 hb3 hu3 hge3 _=>to_text (l:=[3,lowByte v.n]) (At.of_blk hb3 fun j x hj=>by rw [Nat.zero_add]; exact hj) rfl ⟨_,rfl,hk' w3 hu3⟩)
theorem rrow_spec {xs:List Val} (hat:At w p (vals xs)) (hn:xs.length=n) (hn':n≤1000000) (hx:∀ x∈xs,Va.Val.wf x) (hK:∀ w',Upd Nothing w w'→K (.string (tx (rowT xs))) w'):Cv F.z36 #[.slice p n c] w K:=
 R.z36 (by
  unfold C.z36
  have hst:=sizeT_len (n:=(n:Int)) (by omega)
  refine rsize_spec (by omega) fun w1 hu1=>⟨_,rfl,?_⟩
  refine ⟨fun s i w'=>∃ k:Nat,i=k∧k≤n∧s=tx (sizeT (n:Int)++(xs.take k).flatMap valT)∧Upd Nothing w w',fun _ i _=>n - i.toNat,⟨0,rfl,by omega,by simp,hu1⟩,?_⟩
  rintro s i w2 ⟨k,rfl,hk,rfl,hu2⟩
  refine ifB_mk (fun h=>?_) (fun h=>?_)
  ·have hkn:k < n:=by have:=of_decide_eq_true h; omega
   have hkx:k < xs.length:=by omega
   obtain ⟨a,ha,hcl⟩:=(hat.upd0 hu2).val hkx
   refine ⟨a,ha,by omega,by omega,_,_,_,hcl,?_⟩
   show Cv F.z42 #[(xs[k]).val] w2 _
   have h1:=valT_len (hx _ (List.getElem_mem hkx)).2.1
   have hlen:((xs.take k).flatMap valT).length≤300 * k:=by
    have:=flat_len (f:=valT) (B:=300) (l:=xs.take k) fun x hx'=>valT_len (hx x (List.mem_of_mem_take hx')).2.1
    rw [List.length_take,Nat.min_eq_left (by omega)] at this
    exact this
   refine rvalue_spec (hx _ (List.getElem_mem hkx)) fun w3 hu3=>⟨_,rfl,?_,?_⟩
   ·rw [tx_size,tx_size,List.length_append]; omega
   ·rw [i64_wrap (by omega) (by omega)]
    refine ⟨⟨k+1,by omega,by omega,?_,hu2.then hu3⟩,by show n - _ < n - _; omega⟩
    rw [tx_app,List.take_succ_eq_append_getElem hkx,List.flatMap_append,List.append_assoc]
    simp
  ·have hkn:k=n:=by have:=of_decide_eq_false h; omega
   rw [List.take_of_length_le (by omega)]
   have:=hK w2 hu2
   unfold rowT at this
   rw [hn] at this
   exact this)
theorem rrows_lay {ls:List (List Val)} (hat:Rws w p ls) (hn:ls.length=n) (hn':n≤10000) (hB:∀ r∈ls,r.length≤40) (hx:∀ r∈ls,∀ x∈r,Va.Val.wf x) (hK:∀ w',Upd Nothing w w'→K (.string (tx (rowsT ls))) w'):Cv F.z37 #[.slice p n c] w K:=
 R.z37 (by
  unfold C.z37
  have hst:=sizeT_len (n:=(n:Int)) (by omega)
  have hrl:∀ r∈ls,(rowT r).length≤12100:=fun r hr=>by
   have:=rowT_len (r:=r) (by have:=hB r hr; omega) fun v hv=>(hx r hr v hv).2.1
   have:=hB r hr
   omega
  refine rsize_spec (by omega) fun w1 hu1=>⟨_,rfl,?_⟩
  refine ⟨fun s i w'=>∃ k:Nat,i=k∧k≤n∧s=tx (sizeT (n:Int)++(ls.take k).flatMap rowT)∧Upd Nothing w w',fun _ i _=>n - i.toNat,⟨0,rfl,by omega,by simp,hu1⟩,?_⟩
  rintro s i w2 ⟨k,rfl,hk,rfl,hu2⟩
  refine ifB_mk (fun h=>?_) (fun h=>?_)
  ·have hkn:k < n:=by have:=of_decide_eq_true h; omega
   have hkx:k < ls.length:=by omega
   obtain ⟨a,q,m,d,ha,hc,hrow,hl2,hd2⟩:=(hat.upd0 hu2) k hkx
   have hmem:=List.getElem_mem hkx
   have h40:=hB _ hmem
   have hrk:=hrl _ hmem
   have hlen:((ls.take k).flatMap rowT).length≤12100 * k:=by
    have:=flat_len (f:=rowT) (B:=12100) (l:=ls.take k) fun x hx'=>hrl x (List.mem_of_mem_take hx')
    rw [List.length_take,Nat.min_eq_left (by omega)] at this
    exact this
   refine ⟨a,ha,by omega,by omega,_,_,_,by simpa using hc,rrow_spec hrow hl2 (by omega) (hx _ hmem) fun w3 hu3=>⟨_,rfl,?_,?_⟩⟩
   ·rw [tx_size,tx_size,List.length_append]; omega
   ·rw [i64_wrap (by omega) (by omega)]
    refine ⟨⟨k+1,by omega,by omega,?_,hu2.then hu3⟩,by show n - _ < n - _; omega⟩
    rw [tx_app,List.take_succ_eq_append_getElem hkx,List.flatMap_append,List.append_assoc]
    simp
  ·have hkn:k=n:=by have:=of_decide_eq_false h; omega
   rw [List.take_of_length_le (by omega)]
   have:=hK w2 hu2
   unfold rowsT at this
   rw [hn] at this
   exact this)
theorem rsame4_spec {xs ys:List (List Val)} (ha:Rws w p xs) (hl:xs.length=n) (hb:Rws w q ys) (hl':ys.length=m) (hn:n≤1000000) (hB:∀ r∈xs,r.length≤9223372036854775806) (hK:∀ (b:Bool) w',(b=true↔xs=ys)→Upd Nothing w w'→K (.bool b) w') :
  Cv F.z38 #[.slice p n c,.slice q m d] w K:=
 R.z38 (by
  unfold C.z38
  refine ifB_mk (fun h=>hK _ _ ⟨fun h=>(by cases h),fun e=>?_⟩ (Upd.refl _ _)) (fun h=>?_)
  ·subst e; simp at h; omega
  have hnm:n=m:=by simp at h; omega
  subst hnm
  refine ⟨fun i w'=>∃ k:Nat,i=k∧k≤n∧Upd Nothing w w'∧xs.take k=ys.take k,fun i _=>n - i.toNat,⟨0,rfl,by omega,Upd.refl _ _,by simp⟩,?_⟩
  rintro i w1 ⟨k,rfl,hk,hu1,htk⟩
  refine ifB_mk (fun h4=>?_) (fun h4=>?_)
  ·have hkn:k < n:=by have:=of_decide_eq_true h4; omega
   have hu1':=hu1.then (Upd.drew _ _)
   obtain ⟨a1,q1,m1,d1,ha1,hc1,hat1,hl1,hd1⟩:=(ha.upd0 hu1') k (by omega)
   obtain ⟨a2,q2,m2,d2,ha2,hc2,hat2,hl2,hd2⟩:=(hb.upd0 hu1') k (by omega)
   have hBk:=hB _ (List.getElem_mem (show k < xs.length by omega))
   refine ⟨a1,ha1,by omega,by omega,_,_,_,by simpa using hc1,a2,ha2,by omega,by omega,_,_,_,by simpa using hc2,same_rows hat1 hl1 (by omega) hat2 hl2 fun b w2 hb hu2=>⟨b,rfl,ifB_mk (fun h=>hK _ _ ⟨fun h=>(by cases h),fun e=>?_⟩ (hu1'.then hu2)) (fun h=>?_)⟩⟩
   ·subst e
    rw [hb.2 rfl] at h
    cases h
   ·have he:=hb.1 (by simpa using h)
    exact scan_next (Q:=fun k=>xs.take k=ys.take k) hkn (by omega) (hu1'.then hu2) (by rw [List.take_succ_eq_append_getElem (by omega),List.take_succ_eq_append_getElem (by omega),htk,he])
  ·have hkn:k=n:=by have:=of_decide_eq_false h4; omega
   rw [List.take_of_length_le (by omega),List.take_of_length_le (by omega)] at htk
   exact hK _ _ ⟨fun _=>htk,fun _=>rfl⟩ hu1)
end
end Cd
end Go.Proofs.YtjcgociobhhijaaGreatDoor
namespace Go.Proofs.YtjcgociobhhijaaGreatDoor
open Go SX
namespace Sc
theorem su8:SliceT prog T.s_uint8 T.uint8 1 1 [.int .u8 0]:=SliceT.of_tab (ti:=ti57) (te:=ti5) tabOK (by kernel_rfl) (by kernel_rfl) (by kernel_rfl) (by kernel_rfl)
theorem und_u8:prog.underlying T.uint8=some (.int .u8):=Tryz.underlying5
theorem und_str:prog.underlying T.string=some .string:=Tryz.underlying9
section
variable {w:World} {K:Value→World→Prop} {p q:Option Addr} {n c m d:Nat} {s:ByteArray}
theorem letter_spec {x:Int} (hK:∀ b:Bool,(b=true↔letterP x)→K (.bool b) w):Cv F.z77 #[.int .u8 x] w K:=
 R.z77 (by
  unfold C.z77 letterP at *
  refine ifB_mk (fun h=>hK _ ?_) (fun h=>hK _ ?_)
  ·have:=of_decide_eq_true h
   rw [decide_eq_true_eq]; omega
  ·have:=of_decide_eq_false h
   exact ⟨fun h=>(by cases h),fun h=>by omega⟩)
theorem part_spec {x:Int} (hK:∀ b:Bool,(b=true↔partP x)→K (.bool b) w):Cv F.z79 #[.int .u8 x] w K:=
 R.z79 (by
  unfold C.z79
  refine letter_spec fun b hb=>⟨b,rfl,ifB_mk (fun h=>hK _ ⟨fun _=>.inl (hb.1 h),fun _=>rfl⟩) (fun h=>?_)⟩
  have hn:¬ letterP x:=fun h'=>by rw [hb.2 h'] at h; cases h
  have h95:(x == 95)=true↔x=95:=beq_iff_eq
  refine ifB_mk (fun h1=>ifB_mk (fun h2=>hK _ ⟨fun _=>.inr (.inl ⟨of_decide_eq_true h1,of_decide_eq_true h2⟩),fun _=>rfl⟩) (fun h2=>hK _ ?_)) (fun h1=>hK _ ?_)
  ·have:=of_decide_eq_false h2
   rw [h95]
   unfold partP
   exact ⟨fun h=>.inr (.inr h),fun h=>by rcases h with h | h | h; exact absurd h hn; omega; exact h⟩
  ·have:=of_decide_eq_false h1
   rw [h95]
   unfold partP
   exact ⟨fun h=>.inr (.inr h),fun h=>by rcases h with h | h | h; exact absurd h hn; omega; exact h⟩)
theorem within_spec {x lo hi:Int} (hK:∀ b:Bool,(b=true↔lo≤x∧x≤hi)→K (.bool b) w):Cv F.z85 #[.int .i64 x,.int .i64 lo,.int .i64 hi] w K:=
 R.z85 (by
  unfold C.z85
  refine ifB_mk (fun h=>hK _ ?_) (fun h=>hK _ ?_)
  ·have:=of_decide_eq_true h
   rw [decide_eq_true_eq]; omega
  ·have:=of_decide_eq_false h
   exact ⟨fun h=>(by cases h),fun h=>by omega⟩)
theorem named_spec (hK:∀ (b:Bool) w',(b=true↔NameP s)→Upd Nothing w w'→K (.bool b) w'):Cv F.z78 #[.string s] w K:=
 R.z78 (by
  unfold C.z78
  have hlen:s.data.toList.length=s.size:=rfl
  refine ifB_mk (fun h=>hK _ _ ⟨fun h=>(by cases h),fun h'=>?_⟩ (Upd.refl _ _)) (fun h=>ifB_mk (fun h2=>hK _ _ ⟨fun h=>(by cases h),fun h'=>?_⟩ (Upd.refl _ _)) (fun h2=>?_))
  ·have h1:=h'.1
   rw [sEq_iff] at h
   rw [h] at h1
   exact absurd h1 (by show ¬ 1≤0; omega)
  ·have:=of_decide_eq_true h2
   have:=h'.2.1
   omega
  ·have h16:s.size≤16:=by have:=of_decide_eq_false h2; omega
   have h1:1≤s.size:=by
    rcases Nat.eq_zero_or_pos s.size with h0 | h0
    ·exfalso
     have he:s=bs []:=by
      refine ba_ext ?_
      have:s.data.toList=[]:=List.length_eq_zero_iff.1 (by rw [hlen,h0])
      rw [this]; rfl
     rw [he,sEq_self] at h
     cases h
    ·exact h0
   refine ⟨by omega,by omega,letter_spec fun b hb=>⟨b,rfl,ifB_mk (fun h3=>?_) (fun h3=>?_)⟩⟩
   ·refine hK _ _ ⟨fun h=>(by cases h),fun h'=>?_⟩ (Upd.refl _ _)
    rw [hb.2 h'.2.2.1] at h3
    cases h3
   have hb1:b=true:=by simpa using h3
   refine conv_text und_str su8.desc und_u8 fun cp cc w2 hat2 hu2=>⟨cp,_,cc,rfl,?_⟩
   refine ⟨fun i w'=>∃ k:Nat,i=k∧k≤s.size∧Upd Nothing w2 w'∧∀ x∈s.data.toList.take k,partP (x.toNat:Int),fun i _=>s.size - i.toNat,⟨0,rfl,by omega,Upd.refl _ _,by simp⟩,?_⟩
   rintro i w3 ⟨k,rfl,hk,hu3,hq⟩
   refine ifB_mk (fun h4=>?_) (fun h4=>?_)
   ·have hkn:k < s.size:=by have:=of_decide_eq_true h4; omega
    obtain ⟨a,ha,hc⟩:=(hat2.upd0 hu3) k _ (bytesV_get (by rw [hlen]; exact hkn))
    refine ⟨a,ha,by omega,by omega,_,by simpa using hc,part_spec fun b2 hb2=>⟨b2,rfl,ifB_mk (fun h5=>?_) (fun h5=>?_)⟩⟩
    ·refine hK _ _ ⟨fun h=>(by cases h),fun h'=>?_⟩ (hu2.then hu3)
     rw [hb2.2 (h'.2.2.2 _ (List.getElem_mem _))] at h5
     cases h5
    ·exact scan_next (Q:=fun k=>∀ x∈s.data.toList.take k,partP (x.toNat:Int)) hkn (by omega) hu3 (forall_take (by rw [hlen]; exact hkn) hq (hb2.1 (by simpa using h5)))
   ·have hkn:k=s.size:=by have:=of_decide_eq_false h4; omega
    rw [List.take_of_length_le (by omega)] at hq
    exact hK _ _ ⟨fun _=>⟨h1,h16,hb.1 hb1,hq⟩,fun _=>rfl⟩ (hu2.then hu3))
theorem equal_spec {xs ys:List Int} (ha:At w p (ints xs)) (hl:xs.length=n) (hb:At w q (ints ys)) (hl':ys.length=m) (hn:n≤9223372036854775806) (hK:∀ (b:Bool) w',(b=true↔xs=ys)→Upd Nothing w w'→K (.bool b) w') :
  Cv F.z102 #[.slice p n c,.slice q m d] w K:=
 R.z102 (by
  unfold C.z102
  refine ifB_mk (fun h=>hK _ _ ⟨fun h=>(by cases h),fun e=>?_⟩ (Upd.refl _ _)) (fun h=>?_)
  ·subst e; simp at h; omega
  have hnm:n=m:=by simp at h; omega
  subst hnm
  refine ⟨fun i w'=>∃ k:Nat,i=k∧k≤n∧Upd Nothing w w'∧xs.take k=ys.take k,fun i _=>n - i.toNat,⟨0,rfl,by omega,Upd.refl _ _,by simp⟩,?_⟩
  rintro i w1 ⟨k,rfl,hk,hu1,htk⟩
  refine ifB_mk (fun h4=>?_) (fun h4=>?_)
  ·have hkn:k < n:=by have:=of_decide_eq_true h4; omega
   have hu1':=hu1.then (Upd.drew _ _)
   obtain ⟨a1,h1,h2⟩:=(ha.upd0 hu1') k _ (ints_get (by omega))
   obtain ⟨a2,h3,h4⟩:=(hb.upd0 hu1') k _ (ints_get (by omega))
   refine ⟨a1,h1,by omega,by omega,xs[k],by simpa using h2,a2,h3,by omega,by omega,ys[k],by simpa using h4,ifB_mk (fun hne=>hK _ _ ⟨fun h=>(by cases h),fun e=>?_⟩ hu1') (fun he=>?_)⟩
   ·subst e; simp at hne
   ·have he':xs[k]=ys[k]:=by simpa using he
    exact scan_next (Q:=fun k=>xs.take k=ys.take k) hkn hn hu1' (by rw [List.take_succ_eq_append_getElem (by omega),List.take_succ_eq_append_getElem (by omega),htk,he'])
  ·have hkn:k=n:=by have:=of_decide_eq_false h4; omega
   rw [List.take_of_length_le (by omega),List.take_of_length_le (by omega)] at htk
   exact hK _ _ ⟨fun _=>htk,fun _=>rfl⟩ hu1)
end
end Sc
end Go.Proofs.YtjcgociobhhijaaGreatDoor
namespace Go.Proofs.YtjcgociobhhijaaGreatDoor
open Go SX
namespace Sc
theorem set_two {w:World} {e:Nat} {g:Nat} {x y:Value} {Q:World→Prop} {u v:Value} (hu1:u.oneCell'=true) (hv1:v.oneCell'=true) (hb:Blk w g [x,y] e) (hQ:∀ w',Blk w' g [u,v] e→Upd (One g) w w'→Q w') :
  CanSt w ((Addr.mk g 0 none).add 0)∧∀ w2,w2=w.setCell ((Addr.mk g 0 none).add 0) u→
  CanSt w2 ((Addr.mk g 0 none).add 1)∧∀ w3,w3=w2.setCell ((Addr.mk g 0 none).add 1) v→Q w3:=
 hb.store (i:=0) (by simp) hu1 fun w2 hb2 hu2 _=>hb2.store (i:=1) (by simp) hv1 fun w3 hb3 hu3 _=>hQ w3 hb3 (hu2.then hu3)
theorem two_cells {w:World} {g e:Nat} {u v:Value} (hb:Blk w g [u,v] e):SX.cellsAt w (Addr.mk g 0 none) 0 [u,v]:=⟨hb.cell (i:=0) rfl,hb.cell (i:=1) rfl,trivial⟩
theorem unlike_next {α:Type} {same:α→α→Prop} {l:List α} {k:Nat} (hk:k < l.length) (h:∀ i j (hi:i < l.length) (hj:j < i),i < k→¬ same l[i] (l[j]'(Nat.lt_trans hj hi))) (hx:∀ j (hj:j < k),¬ same l[k] (l[j]'(Nat.lt_trans hj hk))) :
  ∀ i j (hi:i < l.length) (hj:j < i),i < k+1→¬ same l[i] (l[j]'(Nat.lt_trans hj hi)):=by
 intro i j hi hj hik
 by_cases h':i < k
 ·exact h i j hi hj h'
 ·have:i=k:=by omega
  subst this
  exact hx j hj
section
variable {w:World} {K:Value→World→Prop} {p q:Option Addr} {n c m d:Nat} {s:ByteArray}
theorem unlike_ints {xs:List Int} (hat:At w p (ints xs)) (hl:xs.length=n) (hc:n≤c) (hn:n≤9223372036854775806) (hK:∀ (b:Bool) w',(b=true↔Unlike (· = ·) xs)→Upd Nothing w w'→K (.bool b) w') :
  Cv F.z84 #[.slice p n c,.func (.func F.z81) #[] #[]] w K:=
 R.z84 (by
  unfold C.z84
  refine ⟨fun i w'=>∃ k:Nat,i=k∧k≤n∧Upd Nothing w w'∧∀ i j (hi:i < xs.length) (hj:j < i),i < k→¬ xs[i]=(xs[j]'(Nat.lt_trans hj hi)),fun i _=>n - i.toNat,⟨0,rfl,by omega,Upd.refl _ _,fun i j hi hj h=>by omega⟩,?_⟩
  rintro i w1 ⟨k,rfl,hk,hu1,hq⟩
  rw [cutAt_zero]
  refine ifB_mk (fun h4=>?_) (fun h4=>?_)
  ·have hkn:k < n:=by have:=of_decide_eq_true h4; omega
   obtain ⟨a,ha,hcl⟩:=(hat.upd0 hu1) k _ (ints_get (by omega))
   refine ⟨a,ha,by omega,by omega,_,by simpa using hcl,by omega,by omega,?_⟩
   simp only [Int.toNat_natCast,Nat.sub_zero]
   refine ⟨fun i w'=>∃ j:Nat,i=j∧j≤k∧Upd Nothing w w'∧∀ t (ht:t < xs.length) (hk':k < xs.length),t < j→¬ xs[k]=xs[t],fun i _=>k - i.toNat,⟨0,rfl,by omega,hu1,fun t ht _ h=>by omega⟩,?_⟩
   rintro i w2 ⟨j,rfl,hj,hu2,hq2⟩
   refine ifB_mk (fun h5=>?_) (fun h5=>?_)
   ·have hjk:j < k:=by have:=of_decide_eq_true h5; omega
    obtain ⟨a2,ha2,hc2⟩:=(hat.upd0 hu2) j _ (ints_get (by omega))
    refine ⟨a2,ha2,by omega,by omega,_,by simpa using hc2,?_⟩
    show Cv F.z81 #[.int .i64 xs[k],.int .i64 xs[j]] w2 _
    refine R.z81 ?_
    unfold C.z81
    refine ⟨_,rfl,ifB_mk (fun h6=>?_) (fun h6=>?_)⟩
    ·refine hK _ _ ⟨fun h=>(by cases h),fun h'=>?_⟩ hu2
     exact ((h' k j (by omega) hjk) (by simpa using h6)).elim
    ·rw [i64_wrap (by omega) (by omega)]
     refine ⟨⟨j+1,by omega,by omega,hu2,fun t ht hk' htj=>?_⟩,by show k - _ < k - _; omega⟩
     by_cases h7:t < j
     ·exact hq2 t ht hk' h7
     ·have:t=j:=by omega
      subst this
      simpa using h6
   ·have hjk:j=k:=by have:=of_decide_eq_false h5; omega
    subst hjk
    exact scan_next (Q:=fun k=>∀ i j (hi:i < xs.length) (hj:j < i),i < k→¬ xs[i]=(xs[j]'(Nat.lt_trans hj hi))) hkn hn hu2 (unlike_next (same:=(· = ·)) (by omega) hq fun t ht=>hq2 t (by omega) (by omega) ht)
  ·have hkn:k=n:=by have:=of_decide_eq_false h4; omega
   exact hK _ _ ⟨fun _=>fun i j hi hj=>hq i j hi hj (by omega),fun _=>rfl⟩ hu1)
theorem unlike_cols {l:List Col} (hat:Cols w p l) (hl:l.length=n) (hc:n≤c) (hn:n≤9223372036854775806) (hK:∀ (b:Bool) w',(b=true↔Unlike (fun a b:Col=>a.name=b.name) l)→Upd Nothing w w'→K (.bool b) w') :
  Cv F.z82 #[.slice p n c,.func (.func F.z72) #[] #[]] w K:=
 R.z82 (by
  unfold C.z82
  refine ⟨fun i w'=>∃ k:Nat,i=k∧k≤n∧Upd Nothing w w'∧∀ i j (hi:i < l.length) (hj:j < i),i < k→¬ l[i].name=(l[j]'(Nat.lt_trans hj hi)).name,fun i _=>n - i.toNat,⟨0,rfl,by omega,Upd.refl _ _,fun i j hi hj h=>by omega⟩,?_⟩
  rintro i w1 ⟨k,rfl,hk,hu1,hq⟩
  rw [cutAt_zero]
  refine ifB_mk (fun h4=>?_) (fun h4=>?_)
  ·have hkn:k < n:=by have:=of_decide_eq_true h4; omega
   obtain ⟨a,ha,hcl⟩:=(hat.upd0 hu1) k (by omega)
   refine ⟨a,ha,by omega,by omega,_,_,hcl,New.use (by simp [Value.oneCell']) fun g w2 hb2 hu2 hge2 hlt2=>?_⟩
   refine set_two rfl rfl hb2 fun w3 hb3 hu3=>⟨by omega,by omega,?_⟩
   have hg:∀ i,One g i→w1.heap.size≤i:=fun i hi=>by rw [show i=g from hi]; exact hge2
   have hu13:Upd Nothing w1 w3:=hu2.fresh hu3 hg
   simp only [Int.toNat_natCast,Nat.sub_zero]
   refine ⟨fun i w'=>∃ j:Nat,i=j∧j≤k∧Upd Nothing w3 w'∧∀ t (ht:t < l.length) (hk':k < l.length),t < j→¬ l[k].name=l[t].name,fun i _=>k - i.toNat,⟨0,rfl,by omega,Upd.refl _ _,fun t ht _ h=>by omega⟩,?_⟩
   rintro i w4 ⟨j,rfl,hj,hu4,hq2⟩
   refine ifB_mk (fun h5=>?_) (fun h5=>?_)
   ·have hjk:j < k:=by have:=of_decide_eq_true h5; omega
    obtain ⟨a2,ha2,hc2⟩:=(hat.upd0 ((hu1.then hu13).then hu4)) j (by omega)
    refine ⟨a2,ha2,by omega,by omega,_,_,hc2,New.use (by simp [Value.oneCell']) fun g2 w5 hb5 hu5 hge5 hlt5=>?_⟩
    refine set_two rfl rfl hb5 fun w6 hb6 hu6=>?_
    have hg2:∀ i,One g2 i→w4.heap.size≤i:=fun i hi=>by rw [show i=g2 from hi]; exact hge5
    have hu46:Upd Nothing w4 w6:=hu5.fresh hu6 hg2
    refine ⟨_,_,two_cells ((hu4.then hu46).blk hb3 fun f=>f),_,_,two_cells hb6,?_⟩
    show Cv F.z72 #[.agg #[.string l[k].name,.int .i64 l[k].kind],.agg #[.string l[j].name,.int .i64 l[j].kind]] w6 _
    refine R.z72 ?_
    unfold C.z72
    refine New.use (by simp [Value.oneCell']) fun g3 w7 hb7 hu7 hge7 _=>New.use (by simp [Value.oneCell']) fun g4 w8 hb8 hu8 hge8 _=>?_
    have hu48:=(hu46.then hu7).then hu8
    refine ⟨_,(hu8.blk hb7 fun f=>f).cell (i:=0) rfl,_,hb8.cell (i:=0) rfl,_,rfl,ifB_mk (fun h6=>?_) (fun h6=>?_)⟩
    ·refine hK _ _ ⟨fun h=>(by cases h),fun h'=>?_⟩ (((hu1.then hu13).then hu4).then hu48)
     exact absurd (sEq_iff.1 h6) (h' k j (by omega) hjk)
    ·rw [i64_wrap (by omega) (by omega)]
     refine ⟨⟨j+1,by omega,by omega,hu4.then hu48,fun t ht hk' htj=>?_⟩,by show k - _ < k - _; omega⟩
     by_cases h7:t < j
     ·exact hq2 t ht hk' h7
     ·have:t=j:=by omega
      subst this
      exact sEq_not.1 h6
   ·have hjk:j=k:=by have:=of_decide_eq_false h5; omega
    subst hjk
    exact scan_next (Q:=fun k=>∀ i j (hi:i < l.length) (hj:j < i),i < k→¬ l[i].name=(l[j]'(Nat.lt_trans hj hi)).name) hkn hn ((hu1.then hu13).then hu4) (unlike_next (same:=fun a b:Col=>a.name=b.name) (by omega) hq fun t ht=>hq2 t (by omega) (by omega) ht)
  ·have hkn:k=n:=by have:=of_decide_eq_false h4; omega
   exact hK _ _ ⟨fun _=>fun i j hi hj=>hq i j hi hj (by omega),fun _=>rfl⟩ hu1)
theorem columns_spec {l:List Col} (hat:Cols w p l) (hl:l.length=n) (hc:n≤c) (hn:n≤9223372036854775806)
  (hK:∀ (b:Bool) w',(b=true↔(∀ c∈l,NameP c.name∧1≤c.kind∧c.kind≤3)∧(1≤l.length∧l.length≤8)∧Unlike (fun a b:Col=>a.name=b.name) l)→Upd Nothing w w'→K (.bool b) w') :
  Cv F.z71 #[.slice p n c] w K:=
 R.z71 (by
  unfold C.z71
  refine ⟨fun i w'=>∃ k:Nat,i=k∧k≤n∧Upd Nothing w w'∧∀ c∈l.take k,NameP c.name∧1≤c.kind∧c.kind≤3,fun i _=>n - i.toNat,⟨0,rfl,by omega,Upd.refl _ _,by simp⟩,?_⟩
  rintro i w1 ⟨k,rfl,hk,hu1,hq⟩
  refine ifB_mk (fun h4=>?_) (fun h4=>?_)
  ·have hkn:k < n:=by have:=of_decide_eq_true h4; omega
   obtain ⟨a,ha,hcl⟩:=(hat.upd0 hu1) k (by omega)
   refine ⟨a,ha,by omega,by omega,_,_,hcl,New.use (by simp [Value.oneCell']) fun g w2 hb2 hu2 hge2 hlt2=>?_⟩
   refine set_two rfl rfl hb2 fun w3 hb3 hu3=>⟨_,hb3.cell (i:=0) rfl,?_⟩
   have hg:∀ i,One g i→w1.heap.size≤i:=fun i hi=>by rw [show i=g from hi]; exact hge2
   have hu13:Upd Nothing w1 w3:=hu2.fresh hu3 hg
   refine named_spec fun b w4 hb hu4=>⟨b,rfl,ifB_mk (fun h5=>?_) (fun h5=>⟨_,(hu4.blk hb3 fun f=>f).cell (i:=1) rfl,?_⟩)⟩
   ·refine hK _ _ ⟨fun h=>(by cases h),fun h'=>?_⟩ ((hu1.then hu13).then hu4)
    rw [hb.2 (h'.1 _ (List.getElem_mem _)).1] at h5
    cases h5
   ·refine within_spec fun b2 hb2=>⟨b2,rfl,ifB_mk (fun h6=>?_) (fun h6=>?_)⟩
    ·refine hK _ _ ⟨fun h=>(by cases h),fun h'=>?_⟩ ((hu1.then hu13).then hu4)
     rw [hb2.2 (h'.1 _ (List.getElem_mem _)).2] at h6
     cases h6
    ·exact scan_next (Q:=fun k=>∀ c∈l.take k,NameP c.name∧1≤c.kind∧c.kind≤3) hkn hn ((hu1.then hu13).then hu4) (forall_take (by omega) hq ⟨hb.1 (by simpa using h5),hb2.1 (by simpa using h6)⟩)
  ·have hkn:k=n:=by have:=of_decide_eq_false h4; omega
   rw [List.take_of_length_le (by omega)] at hq
   refine within_spec fun b hb=>⟨b,rfl,ifB_mk (fun h5=>?_) (fun h5=>?_)⟩
   ·refine unlike_cols (hat.upd0 hu1) hl hc hn fun b2 w2 hb2 hu2=>⟨b2,rfl,hK _ _ ?_ (hu1.then hu2)⟩
    have:=hb.1 h5
    rw [hb2]
    exact ⟨fun h=>⟨hq,⟨by omega,by omega⟩,h⟩,fun h=>h.2.2⟩
   ·refine hK _ _ ⟨fun h=>(by cases h),fun h'=>?_⟩ hu1
    have:=h'.2.1
    rw [hb.2 ⟨by omega,by omega⟩] at h5
    cases h5)
theorem unlike_ixs {l:List Ix} (hat:Ixs w p l) (hl:l.length=n) (hc:n≤c) (hn:n≤9223372036854775806) (hsm:∀ x∈l,x.cols.length≤9223372036854775806) (hK:∀ (b:Bool) w',(b=true↔Unlike (fun a b:Ix=>a.cols=b.cols) l)→Upd Nothing w w'→K (.bool b) w') :
  Cv F.z83 #[.slice p n c,.func (.func F.z75) #[] #[]] w K:=
 R.z83 (by
  unfold C.z83
  refine ⟨fun i w'=>∃ k:Nat,i=k∧k≤n∧Upd Nothing w w'∧∀ i j (hi:i < l.length) (hj:j < i),i < k→¬ l[i].cols=(l[j]'(Nat.lt_trans hj hi)).cols,fun i _=>n - i.toNat,⟨0,rfl,by omega,Upd.refl _ _,fun i j hi hj h=>by omega⟩,?_⟩
  rintro i w1 ⟨k,rfl,hk,hu1,hq⟩
  rw [cutAt_zero]
  refine ifB_mk (fun h4=>?_) (fun h4=>?_)
  ·have hkn:k < n:=by have:=of_decide_eq_true h4; omega
   obtain ⟨a,q1,n1,c1,ha,hcl,hat1,hl1,_⟩:=(hat.upd0 hu1) k (by omega)
   refine ⟨a,ha,by omega,by omega,_,_,_,_,hcl,New.use (by simp [Value.oneCell']) fun g w2 hb2 hu2 hge2 hlt2=>?_⟩
   refine set_two rfl rfl hb2 fun w3 hb3 hu3=>⟨by omega,by omega,?_⟩
   have hg:∀ i,One g i→w1.heap.size≤i:=fun i hi=>by rw [show i=g from hi]; exact hge2
   have hu13:Upd Nothing w1 w3:=hu2.fresh hu3 hg
   simp only [Int.toNat_natCast,Nat.sub_zero]
   refine ⟨fun i w'=>∃ j:Nat,i=j∧j≤k∧Upd Nothing w3 w'∧∀ t (ht:t < l.length) (hk':k < l.length),t < j→¬ l[k].cols=l[t].cols,fun i _=>k - i.toNat,⟨0,rfl,by omega,Upd.refl _ _,fun t ht _ h=>by omega⟩,?_⟩
   rintro i w4 ⟨j,rfl,hj,hu4,hq2⟩
   refine ifB_mk (fun h5=>?_) (fun h5=>?_)
   ·have hjk:j < k:=by have:=of_decide_eq_true h5; omega
    obtain ⟨a2,q2,n2,c2,ha2,hc2,hat2,hl2,_⟩:=(hat.upd0 ((hu1.then hu13).then hu4)) j (by omega)
    refine ⟨a2,ha2,by omega,by omega,_,_,_,_,hc2,New.use (by simp [Value.oneCell']) fun g2 w5 hb5 hu5 hge5 hlt5=>?_⟩
    refine set_two rfl rfl hb5 fun w6 hb6 hu6=>?_
    have hg2:∀ i,One g2 i→w4.heap.size≤i:=fun i hi=>by rw [show i=g2 from hi]; exact hge5
    have hu46:Upd Nothing w4 w6:=hu5.fresh hu6 hg2
    refine ⟨_,_,_,_,two_cells ((hu4.then hu46).blk hb3 fun f=>f),_,_,_,_,two_cells hb6,?_⟩
    show Cv F.z75 #[.agg #[.slice q1 n1 c1,.bool l[k].unique],.agg #[.slice q2 n2 c2,.bool l[j].unique]] w6 _
    refine R.z75 ?_
    unfold C.z75
    refine New.use (by simp [Value.oneCell']) fun g3 w7 hb7 hu7 hge7 _=>New.use (by simp [Value.oneCell']) fun g4 w8 hb8 hu8 hge8 _=>?_
    have hu48:=(hu46.then hu7).then hu8
    have hk1:=hsm _ (List.getElem_mem (l:=l) (n:=k) (by omega))
    refine ⟨_,_,_,(hu8.blk hb7 fun f=>f).cell (i:=0) rfl,_,_,_,hb8.cell (i:=0) rfl,?_⟩
    refine equal_spec (hat1.upd0 ((hu13.then hu4).then hu48)) hl1 (hat2.upd0 hu48) hl2 (by omega) fun b w9 hb hu9=>⟨_,rfl,_,rfl,ifB_mk (fun h6=>?_) (fun h6=>?_)⟩
    ·refine hK _ _ ⟨fun h=>(by cases h),fun h'=>?_⟩ ((((hu1.then hu13).then hu4).then hu48).then hu9)
     exact ((h' k j (by omega) hjk) (hb.1 h6)).elim
    ·rw [i64_wrap (by omega) (by omega)]
     refine ⟨⟨j+1,by omega,by omega,(hu4.then hu48).then hu9,fun t ht hk' htj=>?_⟩,by show k - _ < k - _; omega⟩
     by_cases h7:t < j
     ·exact hq2 t ht hk' h7
     ·have:t=j:=by omega
      subst this
      intro he
      rw [hb.2 he] at h6
      cases h6
   ·have hjk:j=k:=by have:=of_decide_eq_false h5; omega
    subst hjk
    exact scan_next (Q:=fun k=>∀ i j (hi:i < l.length) (hj:j < i),i < k→¬ l[i].cols=(l[j]'(Nat.lt_trans hj hi)).cols) hkn hn ((hu1.then hu13).then hu4) (unlike_next (same:=fun a b:Ix=>a.cols=b.cols) (by omega) hq fun t ht=>hq2 t (by omega) (by omega) ht)
  ·have hkn:k=n:=by have:=of_decide_eq_false h4; omega
   exact hK _ _ ⟨fun _=>fun i j hi hj=>hq i j hi hj (by omega),fun _=>rfl⟩ hu1)
theorem places_spec {x:Ix} {N:Nat} (hat:At w q (ints x.cols)) (hl:x.cols.length=m) (hc:m≤d) (hn:m≤9223372036854775806) (hN:N≤9223372036854775806) (hK:∀ (b:Bool) w',(b=true↔IxP N x)→Upd Nothing w w'→K (.bool b) w') :
  Cv F.z80 #[.agg #[.slice q m d,.bool x.unique],.int .i64 N] w K:=
 R.z80 (by
  unfold C.z80
  refine New.use (by simp [Value.oneCell']) fun g w1 hb1 hu1 hge1 _=>⟨q,m,d,hb1.cell (i:=0) rfl,?_⟩
  rw [i64_wrap (n:=(N:Int) - 1) (by omega) (by omega)]
  refine ⟨fun i w'=>∃ k:Nat,i=k∧k≤m∧Upd Nothing w1 w'∧∀ c∈x.cols.take k,0≤c∧c≤(N:Int) - 1,fun i _=>m - i.toNat,⟨0,rfl,by omega,Upd.refl _ _,by simp⟩,?_⟩
  rintro i w2 ⟨k,rfl,hk,hu2,hq⟩
  refine ifB_mk (fun h4=>?_) (fun h4=>?_)
  ·have hkn:k < m:=by have:=of_decide_eq_true h4; omega
   obtain ⟨a,ha,hcl⟩:=(hat.upd0 (hu1.then hu2)) k _ (ints_get (by omega))
   refine ⟨a,ha,by omega,by omega,_,by simpa using hcl,within_spec fun b hb=>⟨b,rfl,ifB_mk (fun h6=>?_) (fun h6=>?_)⟩⟩
   ·refine hK _ _ ⟨fun h=>(by cases h),fun h'=>?_⟩ (hu1.then hu2)
    rw [hb.2 (h'.1 _ (List.getElem_mem _))] at h6
    cases h6
   ·exact scan_next (Q:=fun k=>∀ c∈x.cols.take k,0≤c∧c≤(N:Int) - 1) hkn hn hu2 (forall_take (by omega) hq (hb.1 (by simpa using h6)))
  ·have hkn:k=m:=by have:=of_decide_eq_false h4; omega
   rw [List.take_of_length_le (by omega)] at hq
   have hb2:=hu2.blk hb1 fun f=>f
   refine ⟨q,m,d,hb2.cell (i:=0) rfl,ifB_mk (fun h5=>⟨q,m,d,hb2.cell (i:=0) rfl,?_⟩) (fun h5=>?_)⟩
   ·have h0:=of_decide_eq_true h5
    refine unlike_ints (hat.upd0 (hu1.then hu2)) hl hc hn fun b w3 hb hu3=>⟨b,rfl,hK _ _ ?_ ((hu1.then hu2).then hu3)⟩
    rw [hb]
    exact ⟨fun h=>⟨hq,by omega,h⟩,fun h=>h.2.2⟩
   ·have h0:=of_decide_eq_false h5
    refine hK _ _ ⟨fun h=>(by cases h),fun h'=>?_⟩ (hu1.then hu2)
    have:=h'.2.1
    omega)
theorem indexes_spec {l:List Ix} {N:Nat} (hat:Ixs w p l) (hl:l.length=n) (hc:n≤c) (hn:n≤9223372036854775806) (hN:N≤9223372036854775806) (hsm:∀ x∈l,x.cols.length≤9223372036854775806)
  (hK:∀ (b:Bool) w',(b=true↔(∀ x∈l,IxP N x)∧(1≤l.length∧l.length≤4)∧(∀ x,l[0]? = some x→x.unique=true)∧Unlike (fun a b:Ix=>a.cols=b.cols) l)→Upd Nothing w w'→K (.bool b) w') :
  Cv F.z74 #[.slice p n c,.int .i64 N] w K:=
 R.z74 (by
  unfold C.z74
  refine ⟨fun i w'=>∃ k:Nat,i=k∧k≤n∧Upd Nothing w w'∧∀ x∈l.take k,IxP N x,fun i _=>n - i.toNat,⟨0,rfl,by omega,Upd.refl _ _,by simp⟩,?_⟩
  rintro i w1 ⟨k,rfl,hk,hu1,hq⟩
  refine ifB_mk (fun h4=>?_) (fun h4=>?_)
  ·have hkn:k < n:=by have:=of_decide_eq_true h4; omega
   obtain ⟨a,q1,n1,c1,ha,hcl,hat1,hl1,hc1⟩:=(hat.upd0 hu1) k (by omega)
   refine ⟨a,ha,by omega,by omega,_,_,_,_,hcl,New.use (by simp [Value.oneCell']) fun g w2 hb2 hu2 hge2 hlt2=>?_⟩
   refine set_two rfl rfl hb2 fun w3 hb3 hu3=>⟨_,_,_,_,two_cells hb3,?_⟩
   have hg:∀ i,One g i→w1.heap.size≤i:=fun i hi=>by rw [show i=g from hi]; exact hge2
   have hu13:Upd Nothing w1 w3:=hu2.fresh hu3 hg
   have hk1:=hsm _ (List.getElem_mem (l:=l) (n:=k) (by omega))
   refine places_spec (x:=l[k]) (hat1.upd0 hu13) hl1 hc1 (by omega) hN fun b w4 hb hu4=>⟨b,rfl,ifB_mk (fun h5=>?_) (fun h5=>?_)⟩
   ·refine hK _ _ ⟨fun h=>(by cases h),fun h'=>?_⟩ ((hu1.then hu13).then hu4)
    rw [hb.2 (h'.1 _ (List.getElem_mem _))] at h5
    cases h5
   ·exact scan_next (Q:=fun k=>∀ x∈l.take k,IxP N x) hkn hn ((hu1.then hu13).then hu4) (forall_take (by omega) hq (hb.1 (by simpa using h5)))
  ·have hkn:k=n:=by have:=of_decide_eq_false h4; omega
   rw [List.take_of_length_le (by omega)] at hq
   refine within_spec fun b hb=>⟨b,rfl,ifB_mk (fun h5=>?_) (fun h5=>?_)⟩
   ·have h14:=hb.1 h5
    obtain ⟨a,q1,n1,c1,ha,hcl,hat1,hl1,hc1⟩:=(hat.upd0 hu1) 0 (by omega)
    have hl0:l[0]? = some l[0]:=List.getElem?_eq_getElem (by omega)
    refine ⟨a,ha,by omega,by omega,_,hcl.2.1,ifB_mk (fun h6=>?_) (fun h6=>?_)⟩
    ·refine unlike_ixs (hat.upd0 hu1) hl hc hn hsm fun b2 w2 hb2 hu2=>⟨b2,rfl,hK _ _ ?_ (hu1.then hu2)⟩
     rw [hb2]
     refine ⟨fun h=>⟨hq,⟨by omega,by omega⟩,fun x hx=>?_,h⟩,fun h=>h.2.2.2⟩
     rw [hl0] at hx
     injection hx with hx
     subst hx
     exact h6
    ·refine hK _ _ ⟨fun h=>(by cases h),fun h'=>?_⟩ hu1
     rw [h'.2.2.1 _ hl0] at h6
     cases h6
   ·refine hK _ _ ⟨fun h=>(by cases h),fun h'=>?_⟩ hu1
    have:=h'.2.1
    rw [hb.2 ⟨by omega,by omega⟩] at h5
    cases h5)
structure SchAt (w:World) (s:Schm) (v:Value):Prop where
 ex:∃ (cp:Option Addr) (cc:Nat) (ip:Option Addr) (ic:Nat),v = .agg #[.string s.name,.slice cp s.cols.length cc,.slice ip s.ixs.length ic,.int .i64 s.limit,.int .i64 s.parts,.int .i64 s.by_]∧Cols w cp s.cols∧s.cols.length≤cc∧Ixs w ip s.ixs∧s.ixs.length≤ic
 small:s.cols.length≤9223372036854775806∧s.ixs.length≤9223372036854775806∧∀ x∈s.ixs,x.cols.length≤9223372036854775806
theorem SchAt.upd0 {w w':World} {s:Schm} {v:Value} (h:SchAt w s v) (hu:Upd Nothing w w'):SchAt w' s v:=by
 obtain ⟨⟨cp,cc,ip,ic,hv,h1,h2,h3,h4⟩,h5⟩:=h
 exact ⟨⟨cp,cc,ip,ic,hv,h1.upd0 hu,h2,h3.upd0 hu,h4⟩,h5⟩
theorem schema_right {s:Schm} {v:Value} (hs:SchAt w s v) (hK:∀ (b:Bool) w',(b=true↔s.Right)→Upd Nothing w w'→K (.bool b) w'):Cv F.z69 #[v] w K:=by
 obtain ⟨⟨cp,cc,ip,ic,rfl,hcols,hcc,hixs,hic⟩,hs1,hs2,hs3⟩:=hs
 refine R.z69 ?_
 unfold C.z69
 have hno:∀ w',Upd Nothing w w'→¬ s.Right→K (.bool false) w':=fun w' hu hn=>hK _ _ ⟨fun h=>(by cases h),fun h=>absurd h hn⟩ hu
 refine New.use (by simp [Value.oneCell']) fun g w1 hb1 hu1 hge1 _=>⟨_,hb1.cell (i:=0) rfl,?_⟩
 refine named_spec fun b1 w2 e1 hu2=>⟨b1,rfl,ifB_mk (fun t1=>?_) (fun t1=>hno w2 (hu1.then hu2) fun h=>by rw [e1.2 h.1] at t1; cases t1)⟩
 have hb2:=hu2.blk hb1 fun f=>f
 have hu2':=hu1.then hu2
 refine ⟨_,_,_,hb2.cell (i:=1) rfl,columns_spec (hcols.upd0 hu2') rfl hcc hs1 fun b2 w3 e2 hu3=>⟨b2,rfl,ifB_mk (fun t2=>?_) (fun t2=>hno w3 (hu2'.then hu3) fun h=>by rw [e2.2 h.2.1] at t2; cases t2)⟩⟩
 have hb3:=hu3.blk hb2 fun f=>f
 have hu3':=hu2'.then hu3
 refine ⟨_,_,_,hb3.cell (i:=2) rfl,_,_,_,hb3.cell (i:=1) rfl,indexes_spec (hixs.upd0 hu3') rfl hic hs2 hs1 hs3 fun b3 w4 e3 hu4=>⟨b3,rfl,ifB_mk (fun t3=>?_) (fun t3=>hno w4 (hu3'.then hu4) fun h=>by rw [e3.2 h.2.2.1] at t3; cases t3)⟩⟩
 have hb4:=hu4.blk hb3 fun f=>f
 have hu4':=hu3'.then hu4
 refine ⟨_,hb4.cell (i:=3) rfl,within_spec fun b4 e4=>⟨b4,rfl,ifB_mk (fun t4=>?_) (fun t4=>hno w4 hu4' fun h=>by rw [e4.2 h.2.2.2.1] at t4; cases t4)⟩⟩
 refine ⟨_,hb4.cell (i:=4) rfl,within_spec fun b5 e5=>⟨b5,rfl,ifB_mk (fun t5=>?_) (fun t5=>hno w4 hu4' fun h=>by rw [e5.2 h.2.2.2.2.1] at t5; cases t5)⟩⟩
 refine ⟨_,hb4.cell (i:=5) rfl,_,_,_,hb4.cell (i:=1) rfl,?_⟩
 rw [i64_wrap (by omega) (by omega)]
 refine within_spec fun b6 e6=>⟨b6,rfl,hK _ _ ?_ hu4'⟩
 rw [e6]
 exact ⟨fun h=>⟨e1.1 t1,e2.1 t2,e3.1 t3,e4.1 t4,e5.1 t5,h⟩,fun h=>h.2.2.2.2.2⟩
end
end Sc
end Go.Proofs.YtjcgociobhhijaaGreatDoor
namespace Go.Proofs.YtjcgociobhhijaaGreatDoor
open Go SX Va
namespace Sc
def FitsP (cols:List Col) (row:List Val):Prop:=row.length=cols.length∧row.all Val.right=true∧∀ i (h:i < row.length) (h':i < cols.length),row[i].k=cols[i].kind
def pickB (row:List Val) (ps:List Int):Bool:=ps.all fun i=>decide (0≤i) && decide (i≤(row.length:Int) - 1)
def pickV (row:List Val) (i:Int):Val:=(row[i.toNat]?).getD ⟨0,0,⟨#[]⟩⟩
def pk (row:List Val) (ps:List Int):List Val:=if pickB row ps=true then ps.map (pickV row) else []
theorem pk_length (row:List Val) (ps:List Int):(pk row ps).length≤ps.length:=by unfold pk; split <;> simp
section
variable {w:World} {K:Value→World→Prop} {p q:Option Addr} {n c m d:Nat} {s:ByteArray}
theorem fits_spec {l:List Col} {row:List Val} (hc:Cols w p l) (hl:l.length=n) (hr:At w q (vals row)) (hrl:row.length=m) (hm:m≤9223372036854775806) (hK:∀ (b:Bool) w',(b=true↔FitsP l row)→Upd Nothing w w'→K (.bool b) w') :
  Cv F.z73 #[.slice p n c,.slice q m d] w K:=
 R.z73 (by
  unfold C.z73
  refine ifB_mk (fun h=>hK _ _ ⟨fun h=>(by cases h),fun h'=>?_⟩ (Upd.refl _ _)) (fun h=>?_)
  ·have:=h'.1; simp at h; omega
  have hnm:m=n:=by simp at h; omega
  subst hnm
  refine right_spec hr hrl hm fun w1 hu1=>⟨_,rfl,ifB_mk (fun h1=>?_) (fun h1=>?_)⟩
  ·refine hK _ _ ⟨fun h=>(by cases h),fun h'=>?_⟩ hu1
   rw [h'.2.1] at h1
   cases h1
  have hall:row.all Val.right=true:=by simpa using h1
  refine ⟨fun i w'=>∃ k:Nat,i=k∧k≤m∧Upd Nothing w w'∧∀ i (h:i < row.length) (h':i < l.length),i < k→row[i].k=l[i].kind,fun i _=>m - i.toNat,⟨0,rfl,by omega,hu1,fun i _ _ h=>by omega⟩,?_⟩
  rintro i w2 ⟨k,rfl,hk,hu2,hq⟩
  refine ifB_mk (fun h4=>?_) (fun h4=>?_)
  ·have hkn:k < m:=by have:=of_decide_eq_true h4; omega
   obtain ⟨a,ha,hcl⟩:=(hr.upd0 hu2).val (i:=k) (by omega)
   refine ⟨a,ha,by omega,by omega,_,_,_,hcl,New.use (by simp [Value.oneCell']) fun g w3 hb3 hu3 hge3 _=>?_⟩
   refine set_val row[k] hb3 fun w4 hb4 hu4=>⟨_,hb4.drew.cell (i:=0) rfl,?_⟩
   have hg:∀ i,SX.One g i→w2.heap.size≤i:=fun i hi=>by rw [show i=g from hi]; exact hge3
   have hu24:Upd Nothing w2 w4.drew:=(hu3.fresh hu4 hg).then (Upd.drew _ _)
   obtain ⟨a2,ha2,hcl2⟩:=(hc.upd0 (hu2.then hu24)) k (by omega)
   refine ⟨a2,ha2,by omega,by omega,_,hcl2.2.1,ifB_mk (fun h5=>?_) (fun h5=>?_)⟩
   ·refine hK _ _ ⟨fun h=>(by cases h),fun h'=>?_⟩ (hu2.then hu24)
    have:=h'.2.2 k (by omega) (by omega)
    simp [this] at h5
   ·have h6:row[k].k=l[k].kind:=by simpa using h5
    refine scan_next (Q:=fun k=>∀ i (h:i < row.length) (h':i < l.length),i < k→row[i].k=l[i].kind) hkn hm (hu2.then hu24) fun i h h' hik=>?_
    by_cases h7:i < k
    ·exact hq i h h' h7
    ·have:i=k:=by omega
     subst this
     exact h6
  ·have hkn:k=m:=by have:=of_decide_eq_false h4; omega
   exact hK _ _ ⟨fun _=>⟨by omega,hall,fun i h h'=>hq i h h' (by omega)⟩,fun _=>rfl⟩ hu2)
theorem pick_spec {row:List Val} {ps:List Int} (hr:At w p (vals row)) (hrl:row.length=n) (hn:n≤9223372036854775806) (hps:At w q (ints ps)) (hpl:ps.length=m) (hm:m≤1000000)
  (hK:∀ p' n' c' w',At w' p' (vals (pk row ps))→(pk row ps).length=n'→Upd Nothing w w'→K (.slice p' n' c') w') :
  Cv F.z68 #[.slice p n c,.slice q m d] w K:=
 R.z68 (by
  unfold C.z68
  refine ⟨fun op on oc i w'=>∃ k:Nat,i=k∧k≤m∧on=k∧Own w' T.api_Value 3 op on oc (vals ((ps.take k).map (pickV row)))∧Upd Nothing w w'∧(∀ j,Fp op oc j→w.heap.size≤j)∧∀ i∈ps.take k,0≤i∧i≤(row.length:Int) - 1,
   fun _ _ _ i _=>m - i.toNat,⟨0,rfl,by omega,rfl,by simpa using Own.nil _ _ _,Upd.refl _ _,fun j hj=>by have:=hj.1; omega,by simp⟩,?_⟩
  rintro op on oc i w1 ⟨k,rfl,hk,rfl,ho1,hu1,hf1,hq⟩
  rw [i64_wrap (n:=(n:Int) - 1) (by omega) (by omega)]
  refine ifB_mk (fun h4=>?_) (fun h4=>?_)
  ·have hkn:on < m:=by have:=of_decide_eq_true h4; omega
   obtain ⟨a,ha,hcl⟩:=(hps.upd0 hu1) on _ (ints_get (by omega))
   refine ⟨a,ha,by omega,by omega,_,by simpa using hcl,within_spec fun b hb=>⟨b,rfl,ifB_mk (fun h5=>?_) (fun h5=>?_)⟩⟩
   ·have e:pk row ps=[]:=by
     unfold pk
     rw [if_neg]
     intro h
     have:=List.all_eq_true.1 h ps[on] (List.getElem_mem _)
     simp only [Bool.and_eq_true,decide_eq_true_eq] at this
     rw [hb.2 (by omega)] at h5
     cases h5
    exact hK none 0 0 w1 (by rw [e]; exact At.nil _ _) (by rw [e]; rfl) hu1
   ·obtain ⟨h6,h7⟩:=hb.1 (by simpa using h5)
    obtain ⟨i,hi⟩:∃ i:Nat,ps[on]=i:=⟨ps[on].toNat,by omega⟩
    rw [hi] at h6 h7 ⊢
    rw [Int.toNat_natCast]
    have hil:i < row.length:=by omega
    obtain ⟨a2,ha2,hcl2⟩:=(hr.upd0 hu1).val (i:=i) hil
    refine ⟨a2,ha2,by omega,by omega,_,_,_,hcl2,?_⟩
    refine app_val (x:=row[i]) ho1 (by omega) fun p6 c6 w6 ho6 hu6 hf6=>⟨p6,_,c6,rfl,?_⟩
    rw [i64_wrap (by omega) (by omega)]
    have e:(ps.take (on+1)).map (pickV row)=(ps.take on).map (pickV row)++[row[i]]:=by
     rw [List.take_succ_eq_append_getElem (by omega),List.map_append,hi]
     simp [pickV,hil]
    refine ⟨⟨on+1,by omega,by omega,rfl,by rw [e]; exact ho6,hu1.fresh hu6 hf1,fun j hj=>?_,forall_take (by omega) hq (by rw [hi]; omega)⟩,by show m - _ < m - _; omega⟩
    rcases hf6 j hj with h | h
    ·exact hf1 j h
    ·exact Nat.le_trans hu1.size h
  ·have hkn:on=m:=by have:=of_decide_eq_false h4; omega
   rw [List.take_of_length_le (by omega)] at ho1 hq
   have e:pk row ps=ps.map (pickV row):=by
    unfold pk
    rw [if_pos]
    unfold pickB
    rw [List.all_eq_true]
    intro x hx
    have:=hq x hx
    simp only [Bool.and_eq_true,decide_eq_true_eq]
    exact this
   exact hK op on oc w1 (by rw [e]; exact ho1.at) (by rw [e,List.length_map]; omega) hu1)
theorem rpick_spec {row:List Val} {ps:List Int} (hr:At w p (vals row)) (hrl:row.length=n) (hn:n≤9223372036854775806) (hps:At w q (ints ps)) (hpl:ps.length=m) (hm:m≤1000000) (hin:pickB row ps=true)
  (hK:∀ p' n' c' w',At w' p' (vals (pk row ps))→(pk row ps).length=n'→Upd Nothing w w'→K (.slice p' n' c') w') :
  Cv F.z30 #[.slice p n c,.slice q m d] w K:=
 R.z30 (by
  unfold C.z30
  have hq:∀ i∈ps,0≤i∧i≤(row.length:Int) - 1:=fun i hi=>by
   have:=List.all_eq_true.1 hin i hi
   simpa only [Bool.and_eq_true,decide_eq_true_eq] using this
  have e:pk row ps=ps.map (pickV row):=by unfold pk; rw [if_pos hin]
  refine ⟨fun op on oc i w'=>∃ k:Nat,i=k∧k≤m∧on=k∧Own w' T.api_Value 3 op on oc (vals ((ps.take k).map (pickV row)))∧Upd Nothing w w'∧(∀ j,Fp op oc j→w.heap.size≤j),
   fun _ _ _ i _=>m - i.toNat,⟨0,rfl,by omega,rfl,by simpa using Own.nil _ _ _,Upd.refl _ _,fun j hj=>by have:=hj.1; omega⟩,?_⟩
  rintro op on oc i w1 ⟨k,rfl,hk,rfl,ho1,hu1,hf1⟩
  refine ifB_mk (fun h4=>?_) (fun h4=>?_)
  ·have hkn:on < m:=by have:=of_decide_eq_true h4; omega
   obtain ⟨a,ha,hcl⟩:=(hps.upd0 hu1) on _ (ints_get (by omega))
   obtain ⟨h6,h7⟩:=hq ps[on] (List.getElem_mem _)
   refine ⟨a,ha,by omega,by omega,ps[on],by simpa using hcl,?_⟩
   obtain ⟨i,hi⟩:∃ i:Nat,ps[on]=i:=⟨ps[on].toNat,by omega⟩
   rw [hi] at h6 h7 ⊢
   rw [Int.toNat_natCast]
   have hil:i < row.length:=by omega
   obtain ⟨a2,ha2,hcl2⟩:=(hr.upd0 hu1).val (i:=i) hil
   refine ⟨a2,ha2,by omega,by omega,_,_,_,hcl2,?_⟩
   refine app_val (x:=row[i]) ho1 (by omega) fun p6 c6 w6 ho6 hu6 hf6=>⟨p6,_,c6,rfl,?_⟩
   rw [i64_wrap (by omega) (by omega)]
   have e:(ps.take (on+1)).map (pickV row)=(ps.take on).map (pickV row)++[row[i]]:=by
    rw [List.take_succ_eq_append_getElem (by omega),List.map_append,hi]
    simp [pickV,hil]
   refine ⟨⟨on+1,by omega,by omega,rfl,by rw [e]; exact ho6,hu1.fresh hu6 hf1,fun j hj=>?_⟩,by show m - _ < m - _; omega⟩
   rcases hf6 j hj with h | h
   ·exact hf1 j h
   ·exact Nat.le_trans hu1.size h
  ·have hkn:on=m:=by have:=of_decide_eq_false h4; omega
   rw [List.take_of_length_le (by omega)] at ho1
   exact hK op on oc w1 (by rw [e]; exact ho1.at) (by rw [e,List.length_map]; omega) hu1)
end
end Sc
end Go.Proofs.YtjcgociobhhijaaGreatDoor
namespace Go.Proofs.YtjcgociobhhijaaGreatDoor
open Go SX Va
namespace Sc
section
variable {w:World} {K:Value→World→Prop} {p q:Option Addr} {n c m d:Nat} {s:Schm} {v:Value} {row:List Val} {index:Int}
theorem six_cells {g e:Nat} {a0 a1 a2 a3 a4 a5:Value} (hb:Blk w g [a0,a1,a2,a3,a4,a5] e):SX.cellsAt w (Addr.mk g 0 none) 0 [a0,a1,a2,a3,a4,a5]:=
 ⟨hb.cell (i:=0) rfl,hb.cell (i:=1) rfl,hb.cell (i:=2) rfl,hb.cell (i:=3) rfl,hb.cell (i:=4) rfl,hb.cell (i:=5) rfl,trivial⟩
def InP (s:Schm) (index:Int):Prop:=0≤index∧index≤(s.ixs.length:Int) - 1
theorem checked_spec (hs:SchAt w s v) (hr:At w q (vals row)) (hrl:row.length=m) (hm:m≤9223372036854775806)
  (hK:∀ (e:Int) w',(¬ (s.Right∧InP s index)→e=1)→(s.Right→InP s index→¬ FitsP s.cols row→e=13)→(s.Right→InP s index→FitsP s.cols row→e=0)→Upd Nothing w w'→K (.int .i64 e) w') :
  Cv F.z70 #[v,.int .i64 index,.slice q m d] w K:=by
 have hs0:=hs
 obtain ⟨⟨cp,cc,ip,ic,rfl,hcols,hcc,hixs,hic⟩,hs1,hs2,hs3⟩:=hs
 refine R.z70 ?_
 unfold C.z70
 refine New.use (by simp [Value.oneCell']) fun g w1 hb1 hu1 hge1 _=>⟨_,_,_,_,_,_,_,_,_,_,six_cells hb1,?_⟩
 refine schema_right (s:=s) (hs0.upd0 hu1) fun b w2 hb hu2=>⟨b,rfl,ifB_mk (fun h=>?_) (fun h=>?_)⟩
 ·have hn:¬ s.Right:=fun h'=>by rw [hb.2 h'] at h; cases h
  exact hK 1 _ (fun _=>rfl) (fun h'=>absurd h' hn) (fun h'=>absurd h' hn) (hu1.then hu2)
 have hright:=hb.1 (by simpa using h)
 have hb2:=hu2.blk hb1 fun f=>f
 have hu2':=hu1.then hu2
 refine ⟨_,_,_,hb2.cell (i:=2) rfl,?_⟩
 rw [i64_wrap (by omega) (by omega)]
 refine within_spec fun b2 e2=>⟨b2,rfl,ifB_mk (fun h2=>?_) (fun h2=>?_)⟩
 ·have hn:¬ InP s index:=fun h'=>by rw [e2.2 h'] at h2; cases h2
  exact hK 1 _ (fun _=>rfl) (fun _ h'=>absurd h' hn) (fun _ h'=>absurd h' hn) hu2'
 have hin:InP s index:=e2.1 (by simpa using h2)
 refine ⟨_,_,_,hb2.cell (i:=1) rfl,fits_spec (hcols.upd0 hu2') rfl (hr.upd0 hu2') hrl hm fun b3 w3 e3 hu3=>⟨b3,rfl,ifB_mk (fun h3=>?_) (fun h3=>?_)⟩⟩
 ·have hn:¬ FitsP s.cols row:=fun h'=>by rw [e3.2 h'] at h3; cases h3
  exact hK 13 _ (fun h'=>absurd ⟨hright,hin⟩ h') (fun _ _ _=>rfl) (fun _ _ h'=>absurd h' hn) (hu2'.then hu3)
 ·have hf:=e3.1 (by simpa using h3)
  exact hK 0 _ (fun h'=>absurd ⟨hright,hin⟩ h') (fun _ _ h'=>absurd hf h') (fun _ _ _=>rfl) (hu2'.then hu3)
def skey (s:Schm) (i:Nat) (hi:i < s.ixs.length) (row:List Val):List UInt8:=
 (keyText (pk row s.ixs[i].cols)).data.toList++if s.ixs[i].unique=true then [] else (keyText (pk row (s.ixs[0]'(by omega)).cols)).data.toList
theorem keyText_size {xs:List Val} (h:xs.length≤1000):(keyText xs).size≤409000:=by
 unfold keyText
 rw [tx_size]
 split
 ·rename_i hall
  have hl:=vkeys_length (B:=200) xs fun x hx=>right_size (List.all_eq_true.1 hall x hx)
  have:=Nat.mul_le_mul_right 409 h
  omega
 ·simp
theorem key_of {i:Nat} (hi:i < s.ixs.length) (hM:MX w) (hs:SchAt w s v) (hsm:∀ x∈s.ixs,x.cols.length≤1000) (hr:At w q (vals row)) (hrl:row.length=m) (hm:m≤9223372036854775806)
  (hK:∀ w',Upd Nothing w w'→K (.string (tx (skey s i hi row))) w'):Cv F.z76 #[v,.int .i64 (i:Nat),.slice q m d] w K:=by
 obtain ⟨⟨cp,cc,ip,ic,rfl,hcols,hcc,hixs,hic⟩,hs1,hs2,hs3⟩:=hs
 refine R.z76 ?_
 unfold C.z76
 refine New.use (by simp [Value.oneCell']) fun g w1 hb1 hu1 hge1 _=>⟨_,_,_,hb1.cell (i:=2) rfl,?_⟩
 obtain ⟨a,q1,n1,c1,ha,hcl,hat1,hl1,hc1⟩:=(hixs.upd0 hu1) i hi
 refine ⟨a,ha,by omega,by omega,_,_,_,_,hcl,New.use (by simp [Value.oneCell']) fun g2 w2 hb2 hu2 hge2 _=>?_⟩
 refine set_two rfl rfl hb2 fun w3 hb3 hu3=>⟨_,_,_,hb3.cell (i:=0) rfl,?_⟩
 have hg2:∀ i,SX.One g2 i→w1.heap.size≤i:=fun i hi=>by rw [show i=g2 from hi]; exact hge2
 have hu13:Upd Nothing w1 w3:=hu2.fresh hu3 hg2
 have hu3':=hu1.then hu13
 have hsi:=hsm _ (List.getElem_mem hi)
 refine pick_spec (hr.upd0 hu3') hrl hm (hat1.upd0 hu13) hl1 (by omega) fun p4 n4 c4 w4 hat4 hl4 hu4=>⟨_,_,_,rfl,?_⟩
 have hpl:=pk_length row s.ixs[i].cols
 have hu4':=hu3'.then hu4
 refine key_spec (hM.upd0 hu4') hat4 hl4 (by omega) fun w5 hu5=>⟨_,rfl,?_⟩
 have hu35:=hu4.then hu5
 have hu5':=hu4'.then hu5
 have hfin:=hK
 unfold skey at hfin
 refine ⟨_,(hu35.blk hb3 fun f=>f).cell (i:=1) rfl,ifB_mk (fun h=>?_) (fun h=>?_)⟩
 ·have hun:s.ixs[i].unique=false:=by simpa using h
  refine ⟨_,_,_,((hu13.then hu35).blk hb1 fun f=>f).cell (i:=2) rfl,?_⟩
  obtain ⟨a0,q0,n0,c0,ha0,hcl0,hat0,hl0,hc0⟩:=(hixs.upd0 hu5') 0 (by omega)
  have hs0:=hsm _ (List.getElem_mem (l:=s.ixs) (n:=0) (by omega))
  refine ⟨a0,ha0,by omega,by omega,_,_,_,hcl0.1,?_⟩
  refine pick_spec (hr.upd0 hu5') hrl hm hat0 hl0 (by omega) fun p6 n6 c6 w6 hat6 hl6 hu6=>⟨_,_,_,rfl,?_⟩
  have hpl0:=pk_length row (s.ixs[0]'(by omega)).cols
  have hu6':=hu5'.then hu6
  refine key_spec (hM.upd0 hu6') hat6 hl6 (by omega) fun w7 hu7=>⟨_,rfl,?_,?_⟩
  ·have h1:=keyText_size (xs:=pk row s.ixs[i].cols) (by omega)
   have h2:=keyText_size (xs:=pk row (s.ixs[0]'(by omega)).cols) (by omega)
   omega
  ·have:=hfin w7 (hu6'.then hu7)
   rw [if_neg (by rw [hun]; decide),← tx_app,tx_self,tx_self] at this
   exact this
 ·have hun:s.ixs[i].unique=true:=by simpa using h
  have:=hfin w5 hu5'
  rw [if_pos hun,List.append_nil,tx_self] at this
  exact this
end
end Sc
end Go.Proofs.YtjcgociobhhijaaGreatDoor
namespace Go.Proofs.YtjcgociobhhijaaGreatDoor
open Go SX Va
namespace Sc
theorem name_one {c:UInt8} (h1:97≤(c.toNat:Int)) (h2:(c.toNat:Int)≤122):NameP (bs [c]):=by
 have hb:bt (bs [c]) 0=(c.toNat:Int):=rfl
 refine ⟨by show 1≤1; omega,by show 1≤16; omega,?_,fun b hb'=>?_⟩
 ·rw [hb]; exact ⟨h1,h2⟩
 ·have:b=c:=by simpa [bs] using hb'
  rw [this]
  exact .inl ⟨h1,h2⟩
end Sc
end Go.Proofs.YtjcgociobhhijaaGreatDoor
namespace Go.Proofs.YtjcgociobhhijaaGreatDoor
open Go SX Va
namespace Sc
section
variable {w:World} {K:Value→World→Prop} {p q:Option Addr} {n c m d:Nat} {s:Schm} {v:Value} {row:List Val} {index:Int}
def Small (s:Schm):Prop:=s.cols.length≤12∧s.ixs.length≤8∧∀ x∈s.ixs,x.cols.length≤12
def SchEx (w:World) (s:Schm) (v:Value):Prop:=∃ (cp:Option Addr) (cc:Nat) (ip:Option Addr) (ic:Nat),v = .agg #[.string s.name,.slice cp s.cols.length cc,.slice ip s.ixs.length ic,.int .i64 s.limit,.int .i64 s.parts,.int .i64 s.by_]∧Cols w cp s.cols∧s.cols.length≤cc∧Ixs w ip s.ixs∧s.ixs.length≤ic
theorem SchEx.at {w:World} {s:Schm} {v:Value} (h:SchEx w s v) (hs:Small s):SchAt w s v:=⟨h,by have:=hs.1; omega,by have:=hs.2.1; omega,fun x hx=>by have:=hs.2.2 x hx; omega⟩
theorem SchEx.upd0 {w w':World} {s:Schm} {v:Value} (h:SchEx w s v) (hu:Upd Nothing w w'):SchEx w' s v:=by
 obtain ⟨cp,cc,ip,ic,hv,h1,h2,h3,h4⟩:=h
 exact ⟨cp,cc,ip,ic,hv,h1.upd0 hu,h2,h3.upd0 hu,h4⟩
theorem great3_spec (hs:SchEx w s v) (hK:∀ (b:Bool) w',(b=false→Small s)→Upd Nothing w w'→K (.bool b) w'):Cv F.z27 #[v] w K:=by
 obtain ⟨cp,cc,ip,ic,rfl,hcols,hcc,hixs,hic⟩:=hs
 refine R.z27 ?_
 unfold C.z27
 refine New.use (by simp [Value.oneCell']) fun g w1 hb1 hu1 hge1 _=>?_
 have hT:K (.bool true) w1:=hK true w1 (fun h=>by cases h) hu1
 refine ⟨fun w'=>w'=w1∧s.cols.length≤12∧s.ixs.length≤8,⟨_,_,_,hb1.cell (i:=1) rfl,ifB_mk (fun _=>hT) (fun h1=>⟨_,_,_,hb1.cell (i:=2) rfl,ifB_mk (fun _=>hT) (fun h2=>⟨_,hb1.cell (i:=0) rfl,ifB_mk (fun _=>hT) (fun _=>⟨rfl,by have:=of_decide_eq_false h1; omega,by have:=of_decide_eq_false h2; omega⟩)⟩)⟩)⟩,?_⟩
 rintro w2 ⟨rfl,l1,l2⟩
 refine ⟨fun i w'=>w'=w2∧∃ k:Nat,i=k∧k≤s.cols.length,fun i _=>s.cols.length - i.toNat,⟨rfl,0,rfl,by omega⟩,?_⟩
 rintro i w3 ⟨rfl,k,rfl,hk⟩
 refine ⟨_,_,_,hb1.cell (i:=1) rfl,ifB_mk (fun h=>?_) (fun h=>?_)⟩
 ·have hkn:k < s.cols.length:=by have:=of_decide_eq_true h; omega
  obtain ⟨a,ha,hcl⟩:=(hcols.upd0 hu1) k hkn
  refine ⟨_,_,_,hb1.cell (i:=1) rfl,a,ha,by omega,by omega,_,hcl.1,ifB_mk (fun _=>hT) (fun _=>?_)⟩
  rw [i64_wrap (by omega) (by omega)]
  exact ⟨⟨rfl,k+1,by omega,by omega⟩,by show s.cols.length - _ < s.cols.length - _; omega⟩
 ·refine ⟨fun i w'=>w'=w3∧∃ k:Nat,i=k∧k≤s.ixs.length∧∀ x∈s.ixs.take k,x.cols.length≤12,fun i _=>s.ixs.length - i.toNat,⟨rfl,0,rfl,by omega,by simp⟩,?_⟩
  rintro i w4 ⟨rfl,k,rfl,hk,hq⟩
  refine ⟨_,_,_,hb1.cell (i:=2) rfl,ifB_mk (fun h=>?_) (fun h=>?_)⟩
  ·have hkn:k < s.ixs.length:=by have:=of_decide_eq_true h; omega
   obtain ⟨a,q1,n1,c1,ha,hcl,hat1,hl1,hc1⟩:=(hixs.upd0 hu1) k hkn
   refine ⟨_,_,_,hb1.cell (i:=2) rfl,a,ha,by omega,by omega,_,_,_,hcl.1,ifB_mk (fun _=>hT) (fun h5=>?_)⟩
   have h6:=of_decide_eq_false h5
   rw [i64_wrap (by omega) (by omega)]
   exact ⟨⟨rfl,k+1,by omega,by omega,forall_take hkn hq (by omega)⟩,by show s.ixs.length - _ < s.ixs.length - _; omega⟩
  ·have hkn:k=s.ixs.length:=by have:=of_decide_eq_false h; omega
   rw [List.take_of_length_le (by omega)] at hq
   exact hK false _ (fun _=>⟨l1,l2,hq⟩) hu1
theorem scol:SliceT prog T.s_api_Column T.api_Column 2 24 [.string ByteArray.empty,.int .i64 0]:=SliceT.of_tab (ti:=ti22) (te:=ti110) tabOK (by kernel_rfl) (by kernel_rfl) (by kernel_rfl) (by kernel_rfl)
theorem six:SliceT prog T.s_api_Index T.api_Index 2 32 [.slice none 0 0,.bool false]:=SliceT.of_tab (ti:=ti23) (te:=ti108) tabOK (by kernel_rfl) (by kernel_rfl) (by kernel_rfl) (by kernel_rfl)
theorem sint:SliceT prog T.s_int T.int 1 8 [.int .i64 0]:=SliceT.of_tab (ti:=ti27) (te:=ti3) tabOK (by kernel_rfl) (by kernel_rfl) (by kernel_rfl) (by kernel_rfl)
theorem rd_ints {W:World} {cs:List Value} (h:Rd prog W T.s_int cs):∃ (p:Option Addr) (n c:Nat) (ys:List Int),cs=[.slice p n c]∧n≤c∧c≤maxLen∧At W p (ints ys)∧ys.length=n:=by
 obtain ⟨p,n,c,rfl,hle,hc,hnil,hel⟩:=h.slice sint.desc
 have hs:prog.cellsOf T.int=1:=by kernel_rfl
 have key:∀ i,∃ x:Int,i < n→∃ a,p=some a∧W.cell? (a.add i)=some (.int .i64 x):=by
  intro i
  by_cases hi:i < n
  ·obtain ⟨a,es,hp,hm,hr⟩:=hel i hi
   obtain ⟨x,rfl,_⟩:=hr.int Tryz.underlying3
   obtain ⟨_,hcell⟩:=cells_of_mapM (W:=W) (f:=fun j=>(a.add (i * prog.cellsOf T.int)).add j) hm
   have:=hcell 0 _ rfl
   rw [hs,Nat.mul_one] at this
   exact ⟨x,fun _=>⟨a,hp,this⟩⟩
  ·exact ⟨0,fun h=>absurd h hi⟩
 let ys:List Int:=(List.range n).map fun i=>Classical.choose (key i)
 refine ⟨p,n,c,ys,rfl,hle,hc,?_,by simp [ys]⟩
 intro j v hj
 have hjn:j < n:=by have:=(List.getElem?_eq_some_iff.1 hj).1; simpa [ys] using this
 have hv:v = .int .i64 (Classical.choose (key j)):=by
  simp [ints,ys,List.getElem?_range hjn] at hj
  exact hj.symm
 rw [hv]
 exact Classical.choose_spec (key j) hjn
end
end Sc
end Go.Proofs.YtjcgociobhhijaaGreatDoor
namespace Go.Proofs.YtjcgociobhhijaaGreatDoor
open Go SX Go.ChangeShapes Go.WideShapes Go.ChangeAt Go.RowKit Va
namespace Sc
section
variable {W:World} {cs:List Value}
theorem rd_col (h:Rd prog W T.api_Column cs):∃ c:Col,cs=c.cells:=by
 obtain ⟨hl,hf⟩:=h.struct Tryz.underlying110
 have h2:prog.cellsOf T.api_Column=2:=by kernel_rfl
 have h1:prog.cellsOf T.int=1:=by kernel_rfl
 have h1':prog.cellsOf T.string=1:=by kernel_rfl
 rw [h2] at hl
 match cs,hl with
 | [u0,u1],_=>
  have f0:Rd prog W T.string (([u0,u1].drop 0).take (prog.cellsOf T.string)):=hf 0 _ rfl
  have f1:Rd prog W T.int (([u0,u1].drop 1).take (prog.cellsOf T.int)):=hf 1 _ rfl
  rw [h1'] at f0
  rw [h1] at f1
  replace f0:Rd prog W T.string [u0]:=f0
  replace f1:Rd prog W T.int [u1]:=f1
  obtain ⟨s,e0,_⟩:=f0.str Tryz.underlying9
  obtain ⟨k,e1,_⟩:=f1.int Tryz.underlying3
  simp only [List.cons.injEq,and_true] at e0 e1
  subst e0; subst e1
  exact ⟨⟨s,k⟩,rfl⟩
theorem rd_cols (h:Rd prog W T.s_api_Column cs):∃ (p:Option Addr) (n c:Nat) (l:List Col),cs=[.slice p n c]∧n≤c∧c≤maxLen∧Cols W p l∧l.length=n:=by
 obtain ⟨p,n,c,rfl,hle,hc,hnil,hel⟩:=h.slice scol.desc
 have hs:prog.cellsOf T.api_Column=2:=by kernel_rfl
 have key:∀ i,∃ x:Col,i < n→∃ a,p=some a∧SX.cellsAt W (a.add (i * 2)) 0 [.string x.name,.int .i64 x.kind]:=by
  intro i
  by_cases hi:i < n
  ·obtain ⟨a,es,hp,hm,hr⟩:=hel i hi
   obtain ⟨x,rfl⟩:=rd_col hr
   obtain ⟨_,hcell⟩:=cells_of_mapM (W:=W) (f:=fun j=>(a.add (i * prog.cellsOf T.api_Column)).add j) hm
   have c0:=hcell 0 _ rfl
   have c1:=hcell 1 _ rfl
   rw [hs] at c0 c1
   exact ⟨x,fun _=>⟨a,hp,c0,c1,trivial⟩⟩
  ·exact ⟨⟨⟨#[]⟩,0⟩,fun h=>absurd h hi⟩
 refine ⟨p,n,c,(List.range n).map fun i=>Classical.choose (key i),rfl,hle,hc,fun i hi=>?_,by simp⟩
 have hin:i < n:=by simpa using hi
 have e:((List.range n).map fun i=>Classical.choose (key i))[i]=Classical.choose (key i):=by simp
 rw [e]
 exact Classical.choose_spec (key i) hin
theorem rd_ix (h:Rd prog W T.api_Index cs):∃ (x:Ix) (q:Option Addr) (n c:Nat),cs=[.slice q n c,.bool x.unique]∧At W q (ints x.cols)∧x.cols.length=n∧n≤c∧c≤maxLen:=by
 obtain ⟨hl,hf⟩:=h.struct Tryz.underlying108
 have h2:prog.cellsOf T.api_Index=2:=by kernel_rfl
 have h1:prog.cellsOf T.s_int=1:=by kernel_rfl
 have h1':prog.cellsOf T.bool=1:=by kernel_rfl
 rw [h2] at hl
 match cs,hl with
 | [u0,u1],_=>
  have f0:Rd prog W T.s_int (([u0,u1].drop 0).take (prog.cellsOf T.s_int)):=hf 0 _ rfl
  have f1:Rd prog W T.bool (([u0,u1].drop 1).take (prog.cellsOf T.bool)):=hf 1 _ rfl
  rw [h1] at f0
  rw [h1'] at f1
  replace f0:Rd prog W T.s_int [u0]:=f0
  replace f1:Rd prog W T.bool [u1]:=f1
  obtain ⟨q,n,c,ys,e0,hle,hc,hat,hlen⟩:=rd_ints f0
  obtain ⟨b,e1⟩:=f1.bool Tryz.underlying4
  simp only [List.cons.injEq,and_true] at e0 e1
  subst e0; subst e1
  exact ⟨⟨ys,b⟩,q,n,c,rfl,hat,hlen,hle,hc⟩
theorem rd_ixs (h:Rd prog W T.s_api_Index cs):∃ (p:Option Addr) (n c:Nat) (l:List Ix),cs=[.slice p n c]∧n≤c∧c≤maxLen∧Ixs W p l∧l.length=n∧∀ x∈l,x.cols.length≤maxLen:=by
 obtain ⟨p,n,c,rfl,hle,hc,hnil,hel⟩:=h.slice six.desc
 have hs:prog.cellsOf T.api_Index=2:=by kernel_rfl
 have key:∀ i,∃ x:Ix,i < n→(∃ a q m d,p=some a∧SX.cellsAt W (a.add (i * 2)) 0 [.slice q m d,.bool x.unique]∧At W q (ints x.cols)∧x.cols.length=m∧m≤d)∧x.cols.length≤maxLen:=by
  intro i
  by_cases hi:i < n
  ·obtain ⟨a,es,hp,hm,hr⟩:=hel i hi
   obtain ⟨x,q,m,d,rfl,hat,hlen,hmd,hd⟩:=rd_ix hr
   obtain ⟨_,hcell⟩:=cells_of_mapM (W:=W) (f:=fun j=>(a.add (i * prog.cellsOf T.api_Index)).add j) hm
   have c0:=hcell 0 _ rfl
   have c1:=hcell 1 _ rfl
   rw [hs] at c0 c1
   exact ⟨x,fun _=>⟨⟨a,q,m,d,hp,⟨c0,c1,trivial⟩,hat,hlen,hmd⟩,by omega⟩⟩
  ·exact ⟨⟨[],false⟩,fun h=>absurd h hi⟩
 refine ⟨p,n,c,(List.range n).map fun i=>Classical.choose (key i),rfl,hle,hc,fun i hi=>?_,by simp,fun x hx=>?_⟩
 ·have hin:i < n:=by simpa using hi
  have e:((List.range n).map fun i=>Classical.choose (key i))[i]=Classical.choose (key i):=by simp
  rw [e]
  exact (Classical.choose_spec (key i) hin).1
 ·simp only [List.mem_map,List.mem_range] at hx
  obtain ⟨i,hi,rfl⟩:=hx
  exact (Classical.choose_spec (key i) hi).2
theorem rd_sch (h:Rd prog W T.api_Schema cs):∃ (s:Schm) (cp:Option Addr) (cc:Nat) (ip:Option Addr) (ic:Nat),cs=[.string s.name,.slice cp s.cols.length cc,.slice ip s.ixs.length ic,.int .i64 s.limit,.int .i64 s.parts,.int .i64 s.by_]∧
  Cols W cp s.cols∧s.cols.length≤cc∧cc≤maxLen∧Ixs W ip s.ixs∧s.ixs.length≤ic∧ic≤maxLen∧(∀ x∈s.ixs,x.cols.length≤maxLen):=by
 obtain ⟨hl,hf⟩:=h.struct Tryz.underlying25
 have h6:prog.cellsOf T.api_Schema=6:=by kernel_rfl
 have h1:prog.cellsOf T.int=1:=by kernel_rfl
 have h1':prog.cellsOf T.string=1:=by kernel_rfl
 have hc1:prog.cellsOf T.s_api_Column=1:=by kernel_rfl
 have hi1:prog.cellsOf T.s_api_Index=1:=by kernel_rfl
 rw [h6] at hl
 match cs,hl with
 | [u0,u1,u2,u3,u4,u5],_=>
  have f0:Rd prog W T.string (([u0,u1,u2,u3,u4,u5].drop 0).take (prog.cellsOf T.string)):=hf 0 _ rfl
  have f1:Rd prog W T.s_api_Column (([u0,u1,u2,u3,u4,u5].drop 1).take (prog.cellsOf T.s_api_Column)):=hf 1 _ rfl
  have f2:Rd prog W T.s_api_Index (([u0,u1,u2,u3,u4,u5].drop 2).take (prog.cellsOf T.s_api_Index)):=hf 2 _ rfl
  have f3:Rd prog W T.int (([u0,u1,u2,u3,u4,u5].drop 3).take (prog.cellsOf T.int)):=hf 3 _ rfl
  have f4:Rd prog W T.int (([u0,u1,u2,u3,u4,u5].drop 4).take (prog.cellsOf T.int)):=hf 4 _ rfl
  have f5:Rd prog W T.int (([u0,u1,u2,u3,u4,u5].drop 5).take (prog.cellsOf T.int)):=hf 5 _ rfl
  rw [h1'] at f0
  rw [hc1] at f1
  rw [hi1] at f2
  rw [h1] at f3 f4 f5
  replace f0:Rd prog W T.string [u0]:=f0
  replace f1:Rd prog W T.s_api_Column [u1]:=f1
  replace f2:Rd prog W T.s_api_Index [u2]:=f2
  replace f3:Rd prog W T.int [u3]:=f3
  replace f4:Rd prog W T.int [u4]:=f4
  replace f5:Rd prog W T.int [u5]:=f5
  obtain ⟨nm,e0,_⟩:=f0.str Tryz.underlying9
  obtain ⟨cp,cn,cc,cl,e1,hcn,hcc,hcols,hcl⟩:=rd_cols f1
  obtain ⟨ip,inn,ic,il,e2,hin,hic,hixs,hil,hsm⟩:=rd_ixs f2
  obtain ⟨li,e3,_⟩:=f3.int Tryz.underlying3
  obtain ⟨pa,e4,_⟩:=f4.int Tryz.underlying3
  obtain ⟨by_,e5,_⟩:=f5.int Tryz.underlying3
  simp only [List.cons.injEq,and_true] at e0 e1 e2 e3 e4 e5
  subst e0; subst e1; subst e2; subst e3; subst e4; subst e5
  subst hcl; subst hil
  exact ⟨⟨nm,cl,il,li,pa,by_⟩,cp,cc,ip,ic,rfl,hcols,hcn,hcc,hixs,hin,hic,hsm⟩
theorem arg_struct {b0:Nat} {t:TypeId} {v:Value} {fs:Array Field} {l:List Value} (ht:prog.underlying t=some (.struct fs)) (hval:Value.okWide prog W .any b0 t v) (h:v.cells.toList=l):v = .agg l.toArray:=by
 unfold Value.okWide at hval
 rw [ht] at hval
 obtain ⟨cs,rfl,_⟩:=hval
 have:cs.toList=l:=h
 rw [← this]
end
end Sc
end Go.Proofs.YtjcgociobhhijaaGreatDoor
namespace Go.Proofs.YtjcgociobhhijaaGreatDoor
open Go SX Va
namespace Sc
section
variable {w:World} {K:Value→World→Prop} {p q:Option Addr} {n c m d:Nat} {s:ByteArray}
theorem rnamed_spec (hK:∀ b:Bool,(b=true↔NameP s)→K (.bool b) w):Cv F.z29 #[.string s] w K:=
 R.z29 (by
  unfold C.z29
  have hlen:s.data.toList.length=s.size:=rfl
  refine ifB_mk (fun h=>hK _ ⟨fun h=>(by cases h),fun h'=>?_⟩) (fun h=>ifB_mk (fun h2=>hK _ ⟨fun h=>(by cases h),fun h'=>?_⟩) (fun h2=>?_))
  ·have:=of_decide_eq_true h; have:=h'.1; omega
  ·have:=of_decide_eq_true h2; have:=h'.2.1; omega
  have h1:1≤s.size:=by have:=of_decide_eq_false h; omega
  have h16:s.size≤16:=by have:=of_decide_eq_false h2; omega
  refine ⟨fun i w'=>w'=w∧∃ k:Nat,i=k∧k≤s.size∧(0 < k→letterP (bt s 0))∧∀ x∈s.data.toList.take k,partP (x.toNat:Int),fun i _=>s.size - i.toNat,⟨rfl,0,rfl,by omega,fun h=>by omega,by simp⟩,?_⟩
  rintro i w1 ⟨rfl,k,rfl,hk,hq0,hq⟩
  refine ifB_mk (fun h4=>?_) (fun h4=>?_)
  ·have hkn:k < s.size:=by have:=of_decide_eq_true h4; omega
   have hb:bt s (k:Int)=((s.data.toList[k]'(by rw [hlen]; exact hkn)).toNat:Int):=bt_get hkn
   have hnext:partP (bt s (k:Int))→(k=0→letterP (bt s (k:Int)))→(w1=w1∧∃ k':Nat,IntKind.i64.wrap ((k:Int)+1)=k'∧k'≤s.size∧(0 < k'→letterP (bt s 0))∧∀ x∈s.data.toList.take k',partP (x.toNat:Int))∧s.size - (IntKind.i64.wrap ((k:Int)+1)).toNat < s.size - (k:Int).toNat:=fun hp h0=>by
    rw [i64_wrap (by omega) (by omega)]
    refine ⟨⟨rfl,k+1,by omega,by omega,fun _=>?_,forall_take (by rw [hlen]; exact hkn) hq (by rw [← hb]; exact hp)⟩,by omega⟩
    by_cases hk0:k=0
    ·subst hk0; exact h0 rfl
    ·exact hq0 (by omega)
   have hbad:¬ (partP (bt s (k:Int))∧(k=0→letterP (bt s (k:Int))))→K (.bool false) w1:=fun hn=>hK _ ⟨fun h=>(by cases h),fun h'=>by
    refine absurd ⟨?_,fun hk0=>?_⟩ hn
    ·rw [hb]; exact h'.2.2.2 _ (List.getElem_mem _)
    ·subst hk0; exact h'.2.2.1⟩
   generalize bt s (k:Int)=x at hnext hbad ⊢
   have hk0:((k:Int) == 0)=decide (k=0):=by
    rw [Bool.eq_iff_iff]; simp only [beq_iff_eq,decide_eq_true_eq]; omega
   unfold partP letterP at hnext hbad
   have hrest:¬ (97≤x∧x≤122)→ifB ((k:Int) == 0) (K (.bool false) w1) (ifB (decide ((48:Int)≤x)) (ifB (!(decide (x≤(57:Int)))) (ifB (x != (95:Int)) (K (.bool false) w1) _) _) (ifB (x != (95:Int)) (K (.bool false) w1) _)):=fun hl=>by
    refine ifB_mk (fun h5=>hbad fun h=>hl (h.2 (by rw [hk0] at h5; exact of_decide_eq_true h5))) (fun h5=>?_)
    have hkz:k≠0:=by rw [hk0] at h5; exact of_decide_eq_false h5
    refine ifB_mk (fun h6=>ifB_mk (fun h7=>ifB_mk (fun h8=>hbad fun h=>?_) (fun h8=>hnext ?_ (fun h=>absurd h hkz))) (fun h7=>hnext ?_ (fun h=>absurd h hkz))) (fun h6=>ifB_mk (fun h8=>hbad fun h=>?_) (fun h8=>hnext ?_ (fun h=>absurd h hkz)))
    ·simp at h6 h7 h8; omega
    ·simp at h8; omega
    ·simp at h6 h7; omega
    ·simp at h6 h8; omega
    ·simp at h8; omega
   refine ⟨by omega,by omega,ifB_mk (fun h5=>ifB_mk (fun h6=>hrest ?_) (fun h6=>hnext ?_ (fun _=>?_))) (fun h5=>hrest ?_)⟩
   ·simp at h5 h6; omega
   ·simp at h5 h6; omega
   ·simp at h5 h6; omega
   ·simp at h5; omega
  ·have hkn:k=s.size:=by have:=of_decide_eq_false h4; omega
   rw [List.take_of_length_le (by omega)] at hq
   exact hK _ ⟨fun _=>⟨h1,h16,hq0 (by omega),hq⟩,fun _=>rfl⟩)
theorem rsame_spec {xs ys:List Int} (ha:At w p (ints xs)) (hl:xs.length=n) (hb:At w q (ints ys)) (hl':ys.length=m) (hn:n≤9223372036854775806) (hK:∀ (b:Bool) w',(b=true↔xs=ys)→Upd Nothing w w'→K (.bool b) w') :
  Cv F.z33 #[.slice p n c,.slice q m d] w K:=
 R.z33 (by
  unfold C.z33
  refine ifB_mk (fun h=>hK _ _ ⟨fun h=>(by cases h),fun e=>?_⟩ (Upd.refl _ _)) (fun h=>?_)
  ·subst e; simp at h; omega
  have hnm:n=m:=by simp at h; omega
  subst hnm
  refine ⟨fun i w'=>∃ k:Nat,i=k∧k≤n∧Upd Nothing w w'∧xs.take k=ys.take k,fun i _=>n - i.toNat,⟨0,rfl,by omega,Upd.refl _ _,by simp⟩,?_⟩
  rintro i w1 ⟨k,rfl,hk,hu1,htk⟩
  refine ifB_mk (fun h4=>?_) (fun h4=>?_)
  ·have hkn:k < n:=by have:=of_decide_eq_true h4; omega
   have hu1':=hu1.then (Upd.drew _ _)
   obtain ⟨a1,h1,h2⟩:=(ha.upd0 hu1') k _ (ints_get (by omega))
   obtain ⟨a2,h3,h4⟩:=(hb.upd0 hu1') k _ (ints_get (by omega))
   refine ⟨a1,h1,by omega,by omega,xs[k],by simpa using h2,a2,h3,by omega,by omega,ys[k],by simpa using h4,ifB_mk (fun hne=>hK _ _ ⟨fun h=>(by cases h),fun e=>?_⟩ hu1') (fun he=>?_)⟩
   ·subst e; simp at hne
   ·have he':xs[k]=ys[k]:=by simpa using he
    exact scan_next (Q:=fun k=>xs.take k=ys.take k) hkn hn hu1' (by rw [List.take_succ_eq_append_getElem (by omega),List.take_succ_eq_append_getElem (by omega),htk,he'])
  ·have hkn:k=n:=by have:=of_decide_eq_false h4; omega
   rw [List.take_of_length_le (by omega),List.take_of_length_le (by omega)] at htk
   exact hK _ _ ⟨fun _=>htk,fun _=>rfl⟩ hu1)
end
end Sc
end Go.Proofs.YtjcgociobhhijaaGreatDoor
namespace Go.Proofs.YtjcgociobhhijaaGreatDoor.SX
open Go
theorem nodup_of_unlike {l:List Int} (h:Unlike (· = ·) l):l.Nodup:=by
 rw [List.nodup_iff_pairwise_ne,List.pairwise_iff_getElem]
 intro i j hi hj hij e
 exact h j i hj hij e.symm
theorem pigeon:∀ (n:Nat) (l:List Int),(∀ c∈l,0≤c∧c≤(n:Int) - 1)→l.Nodup→l.length≤n
 | 0,l,h,_=>by
  cases l with
  | nil=>simp
  | cons x l=>have:=h x (by simp); omega
 | n+1,l,h,hd=>by
  by_cases hm:(n:Int)∈l
  ·have ih:=pigeon n (l.erase (n:Int)) (fun c hc=>by
    have h1:=h c (List.mem_of_mem_erase hc)
    have h2:c≠(n:Int):=((List.Nodup.mem_erase_iff hd).1 hc).1
    omega) (hd.erase _)
   have:=List.length_erase_of_mem hm
   omega
  ·have ih:=pigeon n l (fun c hc=>by
    have h1:=h c hc
    have h2:c≠(n:Int):=fun e=>hm (e ▸ hc)
    omega) hd
   omega
end Go.Proofs.YtjcgociobhhijaaGreatDoor.SX
namespace Go.Proofs.YtjcgociobhhijaaGreatDoor
open Go SX Va
namespace Sc
section
variable {w:World} {K:Value→World→Prop} {s:Schm} {v:Value}
theorem rright3_spec (hs:SchAt w s v) (hK:∀ (b:Bool) w',(b=true↔s.Right)→Upd Nothing w w'→K (.bool b) w'):Cv F.z31 #[v] w K:=by
 obtain ⟨⟨cp,cc,ip,ic,rfl,hcols,hcc,hixs,hic⟩,hs1,hs2,hs3⟩:=hs
 refine R.z31 ?_
 unfold C.z31
 refine New.use (by simp [Value.oneCell']) fun g w1 hb1 hu1 hge1 _=>⟨_,_,_,hb1.cell (i:=1) rfl,?_⟩
 have hno:∀ w',Upd Nothing w1 w'→¬ s.Right→K (.bool false) w':=fun w' hu hn=>hK _ _ ⟨fun h=>(by cases h),fun h=>absurd h hn⟩ (hu1.then hu)
 have hno1:=fun hn=>hno w1 (Upd.refl _ _) hn
 refine ⟨fun w'=>w'=w1∧NameP s.name∧(1≤s.cols.length∧s.cols.length≤8)∧(1≤s.ixs.length∧s.ixs.length≤4)∧(1≤s.limit∧s.limit≤1000)∧(1≤s.parts∧s.parts≤8)∧(0≤s.by_∧s.by_≤(s.cols.length:Int) - 1)∧(∀ x,s.ixs[0]? = some x→x.unique=true),?_,?_⟩
 ·refine ⟨_,hb1.cell (i:=0) rfl,rnamed_spec fun b hb=>⟨b,rfl,ifB_mk (fun h=>hno1 fun h'=>by rw [hb.2 h'.1] at h; cases h) (fun h=>?_)⟩⟩
  have hnm:=hb.1 (by simpa using h)
  refine ifB_mk (fun h1=>hno1 fun h'=>by have:=of_decide_eq_true h1; have:=h'.2.1.2.1; omega) (fun h1=>ifB_mk (fun h2=>hno1 fun h'=>by have:=of_decide_eq_true h2; have:=h'.2.1.2.1; omega) (fun h2=>⟨_,_,_,hb1.cell (i:=2) rfl,?_⟩))
  refine ifB_mk (fun h3=>hno1 fun h'=>by have:=of_decide_eq_true h3; have:=h'.2.2.1.2.1; omega) (fun h3=>⟨_,_,_,hb1.cell (i:=2) rfl,ifB_mk (fun h4=>hno1 fun h'=>by have:=of_decide_eq_true h4; have:=h'.2.2.1.2.1; omega) (fun h4=>⟨_,hb1.cell (i:=3) rfl,?_⟩)⟩)
  refine ifB_mk (fun h5=>hno1 fun h'=>by have:=of_decide_eq_true h5; have:=h'.2.2.2.1; omega) (fun h5=>⟨_,hb1.cell (i:=3) rfl,ifB_mk (fun h6=>hno1 fun h'=>by have:=of_decide_eq_true h6; have:=h'.2.2.2.1; omega) (fun h6=>⟨_,hb1.cell (i:=4) rfl,?_⟩)⟩)
  refine ifB_mk (fun h7=>hno1 fun h'=>by have:=of_decide_eq_true h7; have:=h'.2.2.2.2.1; omega) (fun h7=>⟨_,hb1.cell (i:=4) rfl,ifB_mk (fun h8=>hno1 fun h'=>by have:=of_decide_eq_true h8; have:=h'.2.2.2.2.1; omega) (fun h8=>⟨_,hb1.cell (i:=5) rfl,?_⟩)⟩)
  refine ifB_mk (fun h9=>hno1 fun h'=>by have:=of_decide_eq_true h9; have:=h'.2.2.2.2.2; omega) (fun h9=>⟨_,hb1.cell (i:=5) rfl,ifB_mk (fun h10=>hno1 fun h'=>by have:=of_decide_eq_true h10; have:=h'.2.2.2.2.2; omega) (fun h10=>⟨_,_,_,hb1.cell (i:=2) rfl,?_⟩)⟩)
  replace h1:=of_decide_eq_false h1; replace h2:=of_decide_eq_false h2; replace h3:=of_decide_eq_false h3; replace h4:=of_decide_eq_false h4; replace h5:=of_decide_eq_false h5
  replace h6:=of_decide_eq_false h6; replace h7:=of_decide_eq_false h7; replace h8:=of_decide_eq_false h8; replace h9:=of_decide_eq_false h9; replace h10:=of_decide_eq_false h10
  obtain ⟨a,q1,n1,c1,ha,hcl,hat1,hl1,hc1⟩:=(hixs.upd0 hu1) 0 (by omega)
  have hl0:s.ixs[0]? = some (s.ixs[0]'(by omega)):=List.getElem?_eq_getElem (by omega)
  refine ⟨a,ha,by omega,by omega,_,hcl.2.1,ifB_mk (fun h11=>hno1 fun h'=>by rw [h'.2.2.1.2.2.1 _ hl0] at h11; cases h11) (fun h11=>⟨rfl,hnm,by omega,by omega,by omega,by omega,by omega,fun x hx=>?_⟩)⟩
  rw [hl0] at hx
  injection hx with hx
  rw [← hx]
  simpa using h11
 rintro w2 ⟨rfl,hnm,hn8,hi4,hlim,hpar,hby,huq⟩
 have hcell1:∀ w',Upd Nothing w2 w'→w'.cell? ((Addr.mk g 0 none).add 1)=some (.slice cp s.cols.length cc):=fun w' hu=>(hu.blk hb1 fun f=>f).cell (i:=1) rfl
 have hcell2:∀ w',Upd Nothing w2 w'→w'.cell? ((Addr.mk g 0 none).add 2)=some (.slice ip s.ixs.length ic):=fun w' hu=>(hu.blk hb1 fun f=>f).cell (i:=2) rfl
 refine ⟨fun i w'=>∃ k:Nat,i=k∧k≤s.cols.length∧Upd Nothing w2 w'∧(∀ c∈s.cols.take k,NameP c.name∧1≤c.kind∧c.kind≤3)∧∀ i j (hi:i < s.cols.length) (hj:j < i),i < k→¬ s.cols[i].name=(s.cols[j]'(Nat.lt_trans hj hi)).name,fun i _=>s.cols.length - i.toNat,⟨0,rfl,by omega,Upd.refl _ _,by simp,fun i j hi hj h=>by omega⟩,?_⟩
 rintro i w3 ⟨k,rfl,hk,hu3,hq,hq'⟩
 refine ifB_mk (fun h=>?_) (fun h=>?_)
 ·have hkn:k < s.cols.length:=by have:=of_decide_eq_true h; omega
  obtain ⟨a,ha,hcl⟩:=(hcols.upd0 (hu1.then hu3)) k hkn
  refine ⟨_,_,_,hcell1 _ hu3,a,ha,by omega,by omega,_,hcl.1,rnamed_spec fun b hb=>⟨b,rfl,ifB_mk (fun h1=>hno w3 hu3 fun h'=>by rw [hb.2 (h'.2.1.1 _ (List.getElem_mem hkn)).1] at h1; cases h1) (fun h1=>⟨_,_,_,hcell1 _ hu3,a,ha,by omega,by omega,_,hcl.2.1,?_⟩)⟩⟩
  refine ifB_mk (fun h2=>hno w3 hu3 fun h'=>by have:=of_decide_eq_true h2; have:=(h'.2.1.1 _ (List.getElem_mem hkn)).2; omega) (fun h2=>⟨_,_,_,hcell1 _ hu3,a,ha,by omega,by omega,_,hcl.2.1,ifB_mk (fun h3=>hno w3 hu3 fun h'=>by have:=of_decide_eq_true h3; have:=(h'.2.1.1 _ (List.getElem_mem hkn)).2; omega) (fun h3=>?_)⟩)
  have h2':=of_decide_eq_false h2
  have h3':=of_decide_eq_false h3
  refine ⟨fun i w'=>∃ j:Nat,i=j∧j≤k∧Upd Nothing w2 w'∧∀ t (ht:t < s.cols.length) (hk':k < s.cols.length),t < j→¬ s.cols[k].name=s.cols[t].name,fun i _=>k - i.toNat,⟨0,rfl,by omega,hu3,fun t ht _ h=>by omega⟩,?_⟩
  rintro i w4 ⟨j,rfl,hj,hu4,hq2⟩
  refine ifB_mk (fun h5=>?_) (fun h5=>?_)
  ·have hjk:j < k:=by have:=of_decide_eq_true h5; omega
   have hu4':=hu4.then (Upd.drew _ _)
   obtain ⟨aj,haj,hclj⟩:=(hcols.upd0 (hu1.then hu4')) j (by omega)
   obtain ⟨ak,hak,hclk⟩:=(hcols.upd0 (hu1.then hu4')) k hkn
   refine ⟨_,_,_,hcell1 _ hu4',aj,haj,by omega,by omega,_,hclj.1,_,_,_,hcell1 _ hu4',ak,hak,by omega,by omega,_,hclk.1,ifB_mk (fun h6=>hno _ hu4' fun h'=>h'.2.1.2.2 k j hkn hjk (sEq_iff.1 h6).symm) (fun h6=>?_)⟩
   rw [i64_wrap (by omega) (by omega)]
   refine ⟨⟨j+1,by omega,by omega,hu4',fun t ht hk' htj=>?_⟩,by show k - _ < k - _; omega⟩
   by_cases h7:t < j
   ·exact hq2 t ht hk' h7
   ·have:t=j:=by omega
    subst this
    exact fun e=>sEq_not.1 h6 e.symm
  ·have hjk:j=k:=by have:=of_decide_eq_false h5; omega
   subst hjk
   rw [i64_wrap (by omega) (by omega)]
   refine ⟨⟨j+1,by omega,by omega,hu4,forall_take hkn hq ⟨hb.1 (by simpa using h1),by omega,by omega⟩,unlike_next (same:=fun a b:Col=>a.name=b.name) hkn hq' fun t ht=>hq2 t (by omega) hkn ht⟩,by show s.cols.length - _ < s.cols.length - _; omega⟩
 ·have hkn0:k=s.cols.length:=by have:=of_decide_eq_false h; omega
  subst hkn0
  rw [List.take_of_length_le (by omega)] at hq
  refine ⟨fun i w'=>∃ k:Nat,i=k∧k≤s.ixs.length∧Upd Nothing w2 w'∧(∀ x∈s.ixs.take k,IxP s.cols.length x)∧∀ i j (hi:i < s.ixs.length) (hj:j < i),i < k→¬ s.ixs[i].cols=(s.ixs[j]'(Nat.lt_trans hj hi)).cols,fun i _=>s.ixs.length - i.toNat,⟨0,rfl,by omega,hu3,by simp,fun i j hi hj h=>by omega⟩,?_⟩
  rintro i w4 ⟨k,rfl,hk,hu4,hp,hp'⟩
  refine ⟨_,_,_,hcell2 _ hu4,ifB_mk (fun h5=>?_) (fun h5=>?_)⟩
  ·have hkn:k < s.ixs.length:=by have:=of_decide_eq_true h5; omega
   obtain ⟨a,q1,n1,c1,ha,hcl,hat1,hl1,hc1⟩:=(hixs.upd0 (hu1.then hu4)) k hkn
   have hin:s.Right→IxP s.cols.length s.ixs[k]:=fun h'=>h'.2.2.1.1 _ (List.getElem_mem hkn)
   refine ⟨_,_,_,hcell2 _ hu4,a,ha,by omega,by omega,_,_,_,hcl.1,fun w'=>w'=w4∧1≤n1∧n1≤8,ifB_mk (fun h6=>hno w4 hu4 fun h'=>?_) (fun h6=>ifB_mk (fun h7=>hno w4 hu4 fun h'=>?_) (fun h7=>⟨rfl,?_,?_⟩)),?_⟩
   ·have:=of_decide_eq_true h6; have:=(hin h').2.1; omega
   ·have:=of_decide_eq_true h7
    have:=pigeon _ _ (hin h').1 (nodup_of_unlike (hin h').2.2)
    omega
   ·have:=of_decide_eq_false h6; omega
   ·have:=of_decide_eq_false h7; omega
   rintro w5 ⟨rfl,hn1,hn8'⟩
   refine ⟨fun i w'=>∃ j:Nat,i=j∧j≤n1∧Upd Nothing w5 w'∧(∀ c∈s.ixs[k].cols.take j,0≤c∧c≤(s.cols.length:Int) - 1)∧∀ i t (hi:i < s.ixs[k].cols.length) (ht:t < i),i < j→¬ s.ixs[k].cols[i]=(s.ixs[k].cols[t]'(Nat.lt_trans ht hi)),fun i _=>n1 - i.toNat,⟨0,rfl,by omega,Upd.refl _ _,by simp,fun i t hi ht h=>by omega⟩,?_⟩
   rintro i w6 ⟨j,rfl,hj,hu6,hr,hr'⟩
   refine ifB_mk (fun h8=>?_) (fun h8=>?_)
   ·have hjn:j < s.ixs[k].cols.length:=by have:=of_decide_eq_true h8; omega
    obtain ⟨b,hb,hbc⟩:=(hat1.upd0 hu6) j _ (ints_get hjn)
    refine ⟨b,hb,by omega,by omega,s.ixs[k].cols[j],by simpa using hbc,ifB_mk (fun h9=>hno w6 (hu4.then hu6) fun h'=>?_) (fun h9=>⟨b,hb,by omega,by omega,s.ixs[k].cols[j],by simpa using hbc,ifB_mk (fun h10=>hno w6 (hu4.then hu6) fun h'=>?_) (fun h10=>?_)⟩)⟩
    ·have:=of_decide_eq_true h9; have:=(hin h').1 _ (List.getElem_mem hjn); omega
    ·have:=of_decide_eq_true h10; have:=(hin h').1 _ (List.getElem_mem hjn); omega
    have h9':=of_decide_eq_false h9
    have h10':=of_decide_eq_false h10
    refine ⟨fun i w'=>∃ t:Nat,i=t∧t≤j∧Upd Nothing w5 w'∧∀ u (hu:u < s.ixs[k].cols.length),u < t→¬ s.ixs[k].cols[j]=s.ixs[k].cols[u],fun i _=>j - i.toNat,⟨0,rfl,by omega,hu6,fun u hu h=>by omega⟩,?_⟩
    rintro i w7 ⟨t,rfl,ht,hu7,ht'⟩
    refine ifB_mk (fun h11=>?_) (fun h11=>?_)
    ·have htj:t < j:=by have:=of_decide_eq_true h11; omega
     have hu7':=hu7.then (Upd.drew _ _)
     obtain ⟨b1,hb1',hc1'⟩:=(hat1.upd0 hu7') t _ (ints_get (by omega))
     obtain ⟨b2,hb2',hc2'⟩:=(hat1.upd0 hu7') j _ (ints_get hjn)
     refine ⟨b1,hb1',by omega,by omega,s.ixs[k].cols[t],by simpa using hc1',b2,hb2',by omega,by omega,s.ixs[k].cols[j],by simpa using hc2',ifB_mk (fun h12=>hno _ (hu4.then hu7') fun h'=>?_) (fun h12=>?_)⟩
     ·exact (hin h').2.2 j t hjn htj (beq_iff_eq.1 h12).symm
     ·rw [i64_wrap (by omega) (by omega)]
      refine ⟨⟨t+1,by omega,by omega,hu7',fun u hu hut=>?_⟩,by show j - _ < j - _; omega⟩
      by_cases h13:u < t
      ·exact ht' u hu h13
      ·have:u=t:=by omega
       subst this
       exact fun e=>by rw [e] at h12; simp at h12
    ·have htj:t=j:=by have:=of_decide_eq_false h11; omega
     subst htj
     rw [i64_wrap (by omega) (by omega)]
     refine ⟨⟨t+1,by omega,by omega,hu7,forall_take hjn hr ⟨by omega,by omega⟩,unlike_next (same:=fun a b:Int=>a=b) hjn hr' fun u hu=>ht' u (by omega) hu⟩,by show n1 - _ < n1 - _; omega⟩
   ·have hjn:j=n1:=by have:=of_decide_eq_false h8; omega
    subst hjn
    rw [List.take_of_length_le (by omega)] at hr
    have hixp:IxP s.cols.length s.ixs[k]:=⟨hr,by omega,fun i t hi ht=>hr' i t hi ht (by omega)⟩
    refine ⟨fun i w'=>∃ t:Nat,i=t∧t≤k∧Upd Nothing w5 w'∧∀ u (hu:u < s.ixs.length),u < t→¬ s.ixs[k].cols=s.ixs[u].cols,fun i _=>k - i.toNat,⟨0,rfl,by omega,hu6,fun u hu h=>by omega⟩,?_⟩
    rintro i w7 ⟨t,rfl,ht,hu7,ht'⟩
    refine ifB_mk (fun h11=>?_) (fun h11=>?_)
    ·have htk:t < k:=by have:=of_decide_eq_true h11; omega
     obtain ⟨a2,q2,n2,c2,ha2,hcl2,hat2,hl2,hc2⟩:=(hixs.upd0 (hu1.then (hu4.then hu7))) t (by omega)
     have hs3':=hs3 _ (List.getElem_mem (show t < s.ixs.length by omega))
     refine ⟨_,_,_,hcell2 _ (hu4.then hu7),a2,ha2,by omega,by omega,_,_,_,hcl2.1,rsame_spec hat2 hl2 (hat1.upd0 hu7) hl1 (by omega) fun b w8 hb hu8=>⟨b,rfl,ifB_mk (fun h12=>hno _ (hu4.then (hu7.then hu8)) fun h'=>?_) (fun h12=>?_)⟩⟩
     ·exact h'.2.2.1.2.2.2 k t hkn htk (hb.1 h12).symm
     ·rw [i64_wrap (by omega) (by omega)]
      refine ⟨⟨t+1,by omega,by omega,hu7.then hu8,fun u hu hut=>?_⟩,by show k - _ < k - _; omega⟩
      by_cases h13:u < t
      ·exact ht' u hu h13
      ·have:u=t:=by omega
       subst this
       exact fun e=>by rw [hb.2 e.symm] at h12; cases h12
    ·have htk:t=k:=by have:=of_decide_eq_false h11; omega
     subst htk
     rw [i64_wrap (by omega) (by omega)]
     exact ⟨⟨t+1,by omega,by omega,hu4.then hu7,forall_take hkn hp hixp,unlike_next (same:=fun a b:Ix=>a.cols=b.cols) hkn hp' fun u hu=>ht' u (by omega) hu⟩,by show s.ixs.length - _ < s.ixs.length - _; omega⟩
  ·have hkn:k=s.ixs.length:=by have:=of_decide_eq_false h5; omega
   subst hkn
   rw [List.take_of_length_le (by omega)] at hp
   exact hK _ _ ⟨fun _=>⟨hnm,⟨hq,hn8,fun i j hi hj=>hq' i j hi hj hi⟩,⟨hp,hi4,huq,fun i j hi hj=>hp' i j hi hj hi⟩,hlim,hpar,hby⟩,fun _=>rfl⟩ (hu1.then hu4)
end
end Sc
end Go.Proofs.YtjcgociobhhijaaGreatDoor
