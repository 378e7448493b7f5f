/- Texts of the proofs of TPlays, TSame, TScans, TSteps, one behind the other. -/
import Derived.Test.YtjcgociobhhijaaGreatDoorQe
import Derived.Test.YtjcgociobhhijaaGreatDoorQd
set_option linter.unusedVariables false
set_option linter.unusedSimpArgs false
set_option maxRecDepth 100000
namespace Go.Proofs.YtjcgociobhhijaaGreatDoor
open Go SX Va Cd Sc Bt
namespace Tb
theorem del_place {s:Schm} {l:List Row} (hs:l.Pairwise fun a b=>sLt (Pt.kx s 0 a) (Pt.kx s 0 b)=true) {k:Nat} (hk:k < l.length):Pt.mdel s (Pt.kx s 0 l[k]) l=qk l (k:Int) l.length:=by
 obtain ⟨hsp,htl⟩:=find_split hk
 have hq:=qk_but hsp
 rw [htl] at hq
 rw [hq]
 obtain ⟨A,B,e1,e2⟩:=Pt.srt_split hs (List.getElem_mem hk)
 have hAl:A.length=k:=by
  have hA:A.length < l.length:=by rw [e1]; simp
  refine place_eq hs hA hk ?_
  have:l[A.length]? = some l[k]:=by
   conv=>lhs; rw [e1]
   rw [List.getElem?_append_right (Nat.le_refl _),Nat.sub_self]
   rfl
  rw [List.getElem?_eq_getElem hA] at this
  rw [Option.some.inj this]
 rw [e2]
 obtain ⟨x,e1'⟩:∃ x,l=A++x :: B:=⟨_,e1⟩
 have h1:l.take k=A:=by rw [e1',← hAl,List.take_left]
 have h2:l.drop (k+1)=B:=by rw [e1',← hAl,← List.drop_drop,List.drop_left]; rfl
 rw [h1,h2]
section
variable {W w:World} {K:Value→World→Prop} {p q cp ip:Option Addr} {n c m d cc ic:Nat} {s:Schm} {l:List Row} {row:Row} {key:ByteArray}
theorem mdelete_spec (h:Dc W w s cp cc ip ic p n c l)
  (hK:∀ p' n' c' w',MdlAt W w' p' n' c' (Pt.tdlt s l key).1→Upd Nothing w w'→K (.tuple #[mval s cp cc ip ic p' n' c',.int .i64 (Pt.tdlt s l key).2]) w') :
  Cv F.z44 #[mval s cp cc ip ic p n c,.string key] w K:=
 R.z44 (by
  unfold C.z44
  unfold Pt.tdlt at hK
  have hn:=h.n1000
  have hln:=h.len
  refine New.use (by simp [Value.oneCell']) fun g1 w1 hb1 hu1 hge1 _=>New.use (by simp [Value.oneCell']) fun g2 w2 hb2 hu2 hge2 _=>?_
  have hu02:=hu1.then hu2
  have hb12:=hu2.blk hb1 fun f=>f
  have hsz1:=hu1.size
  have hback:∀ (w3:World) (e:Int) (l':List Row) (p':Option Addr) (n' c':Nat),Upd Nothing w2 w3→MdlAt W w3 p' n' c' l'→(∀ p' n' c' w',MdlAt W w' p' n' c' l'→Upd Nothing w w'→K (.tuple #[mval s cp cc ip ic p' n' c',.int .i64 e]) w')→∀ w4,Blk w4 g2 (mcs s cp cc ip ic p' n' c') T.affluxref09_Model→Upd (One g2) w3 w4→K (.tuple #[mval s cp cc ip ic p' n' c',.int .i64 e]) w4:=fun w3 e l' p' n' c' hu3 hm3 hk w4 hb4 hu4=>
   hk p' n' c' w4 (hm3.one (hu3.blk hb2 fun f=>f) (by decide) hu4) ((hu02.then hu3).fresh hu4 fun i hi=>by rw [show i=g2 from hi]; omega)
  refine ⟨_,_,_,_,_,_,_,_,_,_,_,_,_,seven_cells hb12,mfind_spec (h.hW.then hu02) h.sx h.right h.small (h.mdl.upd0 hu02) (by omega) h.fits fun i w3 hfi hu3=>⟨_,rfl,?_⟩⟩
  have hu03:=hu02.then hu3
  have hb13:=hu3.blk hb12 fun f=>f
  rcases hfi with ⟨rfl,hall⟩ | ⟨k,hk,rfl,rfl⟩
  ·rw [if_pos (fun ⟨r,hr',he⟩=>hall r hr' he)] at hK
   exact ifB_mk (fun _=>⟨_,_,_,_,_,_,_,_,_,_,_,_,_,seven_cells hb13,hand (hu3.blk hb2 fun f=>f) (hback w3 8 l p n c hu3 (h.mdl.upd0 hu03) hK)⟩) (fun hx=>by cases hx)
  rw [if_neg (fun h'=>h' ⟨_,List.getElem_mem hk,rfl⟩)] at hK
  refine ifB_mk (fun hx=>by have:=of_decide_eq_true hx; omega) (fun _=>?_)
  refine ⟨_,_,_,_,_,_,_,_,_,_,_,_,_,seven_cells hb13,mwith_spec (m:=0) (d:=0) (row:=[]) (gone:=(k:Int)) (put:=false) (h.hW.then hu03) h.sx h.right h.small (h.mdl.upd0 hu03) (by omega) h.fits (fun h'=>by cases h') fun p' n' c' l' w6 hm6 hw6 hu6=>⟨_,_,_,_,_,_,_,_,_,_,_,_,_,rfl,?_⟩⟩
  have hl':l'=Pt.mdel s (Pt.kx s 0 l[k]) l:=by
   rcases hw6 with ⟨_,h6⟩ | ⟨h6,_⟩
   ·rw [h6,del_place h.inv.srt hk,hln]
   ·cases h6
  exact hand ((hu3.then hu6).blk hb2 fun f=>f) (hback w6 0 l' p' n' c' (hu3.then hu6) hm6 (by rw [hl']; exact hK)))
theorem mload_spec {rows:List Row} {rp:Option Addr} {rn rc:Nat} (h:Dc W w s cp cc ip ic p n c l) (hr:RwsP (RowIn W) W rp rn rows) (hrn:rn≤1000000) (hm:∀ r∈rows,r.length≤9223372036854775806) (hw:∀ r∈rows,∀ x∈r,Va.Val.wf x)
  (hK:∀ p' n' c' w',MdlAt W w' p' n' c' (Pt.tlds s [] rows).1→Upd Nothing w w'→K (.tuple #[mval s cp cc ip ic p' n' c',.int .i64 (Pt.tlds s [] rows).2]) w') :
  Cv F.z47 #[mval s cp cc ip ic p n c,.slice rp rn rc] w K:=
 R.z47 (by
  unfold C.z47
  have hrl:=hr.2
  refine New.use (by simp [Value.oneCell']) fun g1 w1 hb1 hu1 hge1 _=>New.use (by simp [Value.oneCell']) fun g2 w2 hb2 hu2 hge2 _=>?_
  have hb12:=hu2.blk hb1 fun f=>f
  refine ⟨_,_,_,_,_,_,_,_,_,_,first_six hb12,New.use (by simp [Value.oneCell']) fun g3 w3 hb3 hu3 hge3 _=>?_⟩
  have hu03:=(hu1.then hu2).then hu3
  have hsz1:=hu1.size
  have hsz2:=hu2.size
  have hsz3:=hu3.size
  have hl1:=hb1.lt
  have hl2:=hb2.lt
  have hge3':∀ i,One g3 i→w2.heap.size≤i:=fun i hi=>by rw [show i=g3 from hi]; exact hge3
  refine set_seven rfl rfl rfl rfl rfl rfl rfl hb3 fun w10 hb10 hu10=>?_
  have hu010:Upd Nothing w w10:=hu03.fresh hu10 fun i hi=>by have:=hge3' i hi; omega
  have hu210:Upd Nothing w2 w10:=hu3.fresh hu10 hge3'
  refine ⟨fun i w'=>∃ (k:Nat) (p':Option Addr) (n' c':Nat),i=k∧k≤rn∧Upd Nothing w2 w'∧Blk w' g3 (mcs s cp cc ip ic p' n' c') T.affluxref09_Model∧(Pt.tlds s [] (rows.take k)).2=0∧MdlAt W w' p' n' c' (Pt.tlds s [] (rows.take k)).1,fun i _=>rn - i.toNat,⟨0,none,0,0,rfl,by omega,hu210,hb10,rfl,MdlAt.nil _ _⟩,?_⟩
  rintro i w11 ⟨k,p',n',c',rfl,hk,hu11,hb11,he2,hm11⟩
  have hu011:=(hu1.then hu2).then hu11
  refine ifB_mk (fun hx=>?_) (fun hx=>?_)
  ·have hkn:k < rn:=by have:=of_decide_eq_true hx; omega
   have hkr:k < rows.length:=by omega
   have hmem:=List.getElem_mem hkr
   have hud:Upd Nothing w w11.drew:=hu011.then (Upd.drew _ _)
   obtain ⟨a,q,m,d,ha,hc,hrow,hmd⟩:=(hr.upd0 (h.hW.then hud)).1 k hkr
   have hc':w11.drew.cell? (a.add ((k:Int).toNat * 1))=some (.slice q m d):=by simpa using hc
   have htk:rows.take (k+1)=rows.take k++[rows[k]]:=List.take_succ_eq_append_getElem hkr
   have hsn:=Pt.tlds_snoc s (rows.take k) [] rows[k] he2
   rw [← htk] at hsn
   have hinv:Pt.Inv s (Pt.tlds s [] (rows.take k)).1:=Pt.tlds_inv h.right (Pt.Inv.nil h.right) fun r hr'=>hw r (List.mem_of_mem_take hr')
   have hwk:=hw _ hmem
   have hmk:=hm _ hmem
   rw [hrow.2] at hmk
   -- behind the row's answer,noted in a block gT
   have after:∀ (w20:World) (gT:Nat) (p2:Option Addr) (n2 c2:Nat) (e:Int),Upd Nothing w2 w20→Blk w20 g3 (mcs s cp cc ip ic p' n' c') T.affluxref09_Model→gT≠g3→Blk w20 gT (mcs s cp cc ip ic p2 n2 c2) T.affluxref09_Model→MdlAt W w20 p2 n2 c2 (Pt.tins s (Pt.tlds s [] (rows.take k)).1 rows[k]).1→e=(Pt.tins s (Pt.tlds s [] (rows.take k)).1 rows[k]).2→
     ifB (e != (0:Int)) (
     ∃ (SName2:ByteArray) (SCols2p:Option Addr) (SCols2n SCols2c:Nat) (SIndexes2p:Option Addr) (SIndexes2n SIndexes2c:Nat) (SLimit2:Int) (SParts2:Int) (SBy2:Int),
     SX.cellsAt w20 ((Addr.mk g1 0 none).add 0) 0 [.string SName2,.slice SCols2p SCols2n SCols2c,.slice SIndexes2p SIndexes2n SIndexes2c,.int .i64 SLimit2,.int .i64 SParts2,.int .i64 SBy2]∧
     CanSt w20 ((Addr.mk g2 0 none).add 0)∧∀ wv21,wv21=w20.setCell ((Addr.mk g2 0 none).add 0) (.string SName2)→
     CanSt wv21 ((Addr.mk g2 0 none).add 1)∧∀ wv22,wv22=wv21.setCell ((Addr.mk g2 0 none).add 1) (.slice SCols2p SCols2n SCols2c)→
     CanSt wv22 ((Addr.mk g2 0 none).add 2)∧∀ wv23,wv23=wv22.setCell ((Addr.mk g2 0 none).add 2) (.slice SIndexes2p SIndexes2n SIndexes2c)→
     CanSt wv23 ((Addr.mk g2 0 none).add 3)∧∀ wv24,wv24=wv23.setCell ((Addr.mk g2 0 none).add 3) (.int .i64 SLimit2)→
     CanSt wv24 ((Addr.mk g2 0 none).add 4)∧∀ wv25,wv25=wv24.setCell ((Addr.mk g2 0 none).add 4) (.int .i64 SParts2)→
     CanSt wv25 ((Addr.mk g2 0 none).add 5)∧∀ wv26,wv26=wv25.setCell ((Addr.mk g2 0 none).add 5) (.int .i64 SBy2)→
     CanSt wv26 ((Addr.mk g2 0 none).add 6)∧∀ wv27,wv27=wv26.setCell ((Addr.mk g2 0 none).add 6) (.slice none 0 0)→
     ∃ (xSName1:ByteArray) (xSCols1p:Option Addr) (xSCols1n xSCols1c:Nat) (xSIndexes1p:Option Addr) (xSIndexes1n xSIndexes1c:Nat) (xSLimit1:Int) (xSParts1:Int) (xSBy1:Int) (xRows1p:Option Addr) (xRows1n xRows1c:Nat),
     SX.cellsAt wv27 (Addr.mk g2 0 none) 0 [.string xSName1,.slice xSCols1p xSCols1n xSCols1c,.slice xSIndexes1p xSIndexes1n xSIndexes1c,.int .i64 xSLimit1,.int .i64 xSParts1,.int .i64 xSBy1,.slice xRows1p xRows1n xRows1c]∧
     K (.tuple #[.agg #[.string xSName1,.slice xSCols1p xSCols1n xSCols1c,.slice xSIndexes1p xSIndexes1n xSIndexes1c,.int .i64 xSLimit1,.int .i64 xSParts1,.int .i64 xSBy1,.slice xRows1p xRows1n xRows1c],.int .i64 e]) wv27) (
     ∃ (xSName1:ByteArray) (xSCols1p:Option Addr) (xSCols1n xSCols1c:Nat) (xSIndexes1p:Option Addr) (xSIndexes1n xSIndexes1c:Nat) (xSLimit1:Int) (xSParts1:Int) (xSBy1:Int) (xRows1p:Option Addr) (xRows1n xRows1c:Nat),
     SX.cellsAt w20 (Addr.mk gT 0 none) 0 [.string xSName1,.slice xSCols1p xSCols1n xSCols1c,.slice xSIndexes1p xSIndexes1n xSIndexes1c,.int .i64 xSLimit1,.int .i64 xSParts1,.int .i64 xSBy1,.slice xRows1p xRows1n xRows1c]∧
     CanSt w20 ((Addr.mk g3 0 none).add 0)∧∀ wv28,wv28=w20.setCell ((Addr.mk g3 0 none).add 0) (.string xSName1)→
     CanSt wv28 ((Addr.mk g3 0 none).add 1)∧∀ wv29,wv29=wv28.setCell ((Addr.mk g3 0 none).add 1) (.slice xSCols1p xSCols1n xSCols1c)→
     CanSt wv29 ((Addr.mk g3 0 none).add 2)∧∀ wv30,wv30=wv29.setCell ((Addr.mk g3 0 none).add 2) (.slice xSIndexes1p xSIndexes1n xSIndexes1c)→
     CanSt wv30 ((Addr.mk g3 0 none).add 3)∧∀ wv31,wv31=wv30.setCell ((Addr.mk g3 0 none).add 3) (.int .i64 xSLimit1)→
     CanSt wv31 ((Addr.mk g3 0 none).add 4)∧∀ wv32,wv32=wv31.setCell ((Addr.mk g3 0 none).add 4) (.int .i64 xSParts1)→
     CanSt wv32 ((Addr.mk g3 0 none).add 5)∧∀ wv33,wv33=wv32.setCell ((Addr.mk g3 0 none).add 5) (.int .i64 xSBy1)→
     CanSt wv33 ((Addr.mk g3 0 none).add 6)∧∀ wv34,wv34=wv33.setCell ((Addr.mk g3 0 none).add 6) (.slice xRows1p xRows1n xRows1c)→
     (∃ (k':Nat) (p':Option Addr) (n' c':Nat),IntKind.i64.wrap ((k:Int)+1)=k'∧k'≤rn∧Upd Nothing w2 wv34∧Blk wv34 g3 (mcs s cp cc ip ic p' n' c') T.affluxref09_Model∧(Pt.tlds s [] (rows.take k')).2=0∧MdlAt W wv34 p' n' c' (Pt.tlds s [] (rows.take k')).1)∧rn - (IntKind.i64.wrap ((k:Int)+1)).toNat < rn - (k:Int).toNat):=by
    intro w20 gT p2 n2 c2 e hu20 hb20 hne hbT hm20 he
    refine ifB_mk (fun h0=>?_) (fun h0=>?_)
    ·have hne0:e≠0:=by simpa using h0
     rw [he] at hne0
     rw [if_neg hne0] at hsn
     have hst:=Pt.tlds_stop s (rows.take (k+1)) [] (rows.drop (k+1)) (by rw [hsn]; exact hne0)
     rw [List.take_append_drop,hsn] at hst
     rw [hst,← he] at hK
     refine ⟨_,_,_,_,_,_,_,_,_,_,first_six (hu20.blk hb12 fun f=>f),hand (p:=none) (n:=0) (c:=0) (hu20.blk hb2 fun f=>f) fun w4 hb4 hu4=>?_⟩
     exact hK none 0 0 w4 (MdlAt.nil _ _) (((hu1.then hu2).then hu20).fresh hu4 fun i hi=>by rw [show i=g2 from hi]; omega)
    ·have h00:e=0:=by simpa using h0
     rw [he] at h00
     rw [if_pos h00] at hsn
     refine ⟨_,_,_,_,_,_,_,_,_,_,_,_,_,seven_cells hbT,set_seven rfl rfl rfl rfl rfl rfl rfl hb20 fun w34 hb34 hu34=>?_⟩
     rw [i64_wrap (by omega) (by omega)]
     exact ⟨⟨k+1,p2,n2,c2,by omega,by omega,hu20.fresh hu34 hge3',hb34,by rw [hsn]; exact h00,by rw [hsn]; exact hm20.one hb20 (by decide) hu34⟩,by omega⟩
   have hdc:∀ w',Upd Nothing w11 w'→Dc W w' s cp cc ip ic p' n' c' (Pt.tlds s [] (rows.take k)).1:=fun w' hu=>⟨(h.hW.then hu011).then hu,h.sx,h.right,h.small,hm11.upd0 hu,hinv⟩
   have hl3:=hb11.lt
   refine ⟨_,_,_,_,_,_,_,_,_,_,_,_,_,seven_cells hb11.drew,a,ha,by omega,by omega,_,_,_,hc',?_,?_⟩
   ·refine minsert_spec (hdc _ (Upd.drew _ _)) hrow hmd hmk hwk fun p2 n2 c2 w12 hm12 hu12=>⟨_,_,_,_,_,_,_,_,_,_,_,_,_,_,rfl,New.use (by simp [Value.oneCell']) fun g4 w13 hb13 hu13 hge13 _=>?_⟩
    have hud13:=hu12.then hu13
    have hu1113:Upd Nothing w11 w13:=(Upd.drew _ _).then hud13
    have hsz:=hu12.size
    have hszd:w11.drew.heap.size=w11.heap.size:=rfl
    refine ⟨hud13.cell hc' fun f=>f,seven_cells (hud13.blk hb11.drew fun f=>f),set_seven rfl rfl rfl rfl rfl rfl rfl hb13 fun w20 hb20 hu20=>?_⟩
    have hne:g3≠g4:=by omega
    exact after w20 g4 p2 n2 c2 _ ((hu11.then hu1113).fresh hu20 fun i hi=>by rw [show i=g4 from hi]; have:=hu11.size; omega) (hu20.blk (hu1113.blk hb11 fun f=>f) fun e=>hne e) hne.symm hb20 ((hm12.upd0 hu13).one hb13 (by decide) hu20) rfl
   ·refine New.use (by simp [Value.oneCell']) fun g5 w35 hb35 hu35 hge35 _=>?_
    have hszd:w11.drew.heap.size=w11.heap.size:=rfl
    have hu1135:Upd Nothing w11 w35:=(Upd.drew _ _).then hu35
    refine ⟨hu35.cell hc' fun f=>f,seven_cells (hu35.blk hb11.drew fun f=>f),minsert_spec (hdc _ hu1135) hrow hmd hmk hwk fun p2 n2 c2 w36 hm36 hu36=>⟨_,_,_,_,_,_,_,_,_,_,_,_,_,_,rfl,?_⟩⟩
    have hb536:=hu36.blk hb35 fun f=>f
    refine set_seven rfl rfl rfl rfl rfl rfl rfl hb536 fun w43 hb43 hu43=>?_
    have hne:g3≠g5:=by omega
    exact after w43 g5 p2 n2 c2 _ (((hu11.then hu1135).then hu36).fresh hu43 fun i hi=>by rw [show i=g5 from hi]; have:=hu11.size; omega) (hu43.blk ((hu1135.then hu36).blk hb11 fun f=>f) fun e=>hne e) hne.symm hb43 (hm36.one hb536 (by decide) hu43) rfl
  ·have hkn:k=rn:=by have:=of_decide_eq_false hx; omega
   rw [List.take_of_length_le (by omega)] at he2 hm11
   rw [he2] at hK
   refine ⟨_,_,_,_,_,_,_,_,_,_,_,_,_,seven_cells hb11,hand (hu11.blk hb2 fun f=>f) fun w64 hb64 hu64=>?_⟩
   exact hK _ _ _ w64 (hm11.one (hu11.blk hb2 fun f=>f) (by decide) hu64) (hu011.fresh hu64 fun i hi=>by rw [show i=g2 from hi]; omega))
end
end Tb
end Go.Proofs.YtjcgociobhhijaaGreatDoor
namespace Go.Proofs.YtjcgociobhhijaaGreatDoor
open Go SX Va Cd Sc Bt
namespace Tb
def S9:Schm:=⟨bs [116],[⟨bs [97],1⟩,⟨bs [98],2⟩],[⟨[0],true⟩,⟨[1],true⟩],5,2,0⟩
theorem S9_right:S9.Right:=by
 refine ⟨name_one (by decide) (by decide),⟨?_,by decide,?_⟩,⟨?_,by decide,?_,?_⟩,by decide,by decide,by decide,by decide⟩
 ·intro c hc
  simp only [S9,List.mem_cons,List.mem_nil_iff,or_false] at hc
  rcases hc with rfl | rfl
  ·exact ⟨name_one (by decide) (by decide),by decide,by decide⟩
  ·exact ⟨name_one (by decide) (by decide),by decide,by decide⟩
 ·intro i j hi hj
  have hi':i < 2:=hi
  obtain ⟨rfl,rfl⟩:i=1∧j=0:=by omega
  intro h
  have h1:bs [98]=bs [97]:=h
  have:=congrArg (fun x:ByteArray=>x.data.toList) h1
  simp [bs] at this
 ·intro x hx
  simp only [S9,List.mem_cons,List.mem_nil_iff,or_false] at hx
  rcases hx with rfl | rfl
  ·refine ⟨fun c hc=>?_,by decide,fun i j hi hj=>?_⟩
   ·have:c=0:=by simpa using hc
    subst this; decide
   ·have hi':i < 1:=hi
    omega
  ·refine ⟨fun c hc=>?_,by decide,fun i j hi hj=>?_⟩
   ·have:c=1:=by simpa using hc
    subst this; decide
   ·have hi':i < 1:=hi
    omega
 ·intro x hx
  have hx':some (⟨[0],true⟩:Ix)=some x:=hx
  injection hx' with hx'
  rw [← hx']
 ·intro i j hi hj
  have hi':i < 2:=hi
  obtain ⟨rfl,rfl⟩:i=1∧j=0:=by omega
  intro h
  have h1:([1]:List Int)=[0]:=h
  simp at h1
theorem S9_small:Small S9:=⟨by decide,by decide,fun x hx=>by
 simp only [S9,List.mem_cons,List.mem_nil_iff,or_false] at hx
 rcases hx with rfl | rfl <;> decide⟩
def rowN (n:Int):Row:=[⟨1,n,bs []⟩,⟨2,0,bs [120]⟩]
theorem row_fits1:FitsP S9.cols (rowN 1):=by
 refine ⟨rfl,by decide +kernel,fun i h h'=>?_⟩
 have hi:i < 2:=h
 obtain rfl | rfl:i=0∨i=1:=by omega
 ·rfl
 ·rfl
theorem row_fits2:FitsP S9.cols (rowN 2):=by
 refine ⟨rfl,by decide +kernel,fun i h h'=>?_⟩
 have hi:i < 2:=h
 obtain rfl | rfl:i=0∨i=1:=by omega
 ·rfl
 ·rfl
theorem row_wf (n:Int) (h1 : -9223372036854775808≤n) (h2:n≤9223372036854775807):∀ x∈rowN n,Va.Val.wf x:=by
 intro x hx
 simp only [rowN,List.mem_cons,List.mem_nil_iff,or_false] at hx
 rcases hx with rfl | rfl
 ·exact ⟨⟨(by decide:(-9223372036854775808:Int)≤1),(by decide:(1:Int)≤9223372036854775807)⟩,⟨h1,h2⟩,Nat.zero_le _⟩
 ·exact ⟨⟨by decide,by decide⟩,⟨by decide,by decide⟩,by decide⟩
theorem tins_one:Pt.tins S9 [] (rowN 1)=([rowN 1],0):=by
 unfold Pt.tins
 rw [if_neg (not_not_intro row_fits1),if_neg (fun ⟨r,hr,_⟩=>by cases hr),if_neg (by decide)]
 rfl
theorem tins_two:Pt.tins S9 [rowN 1] (rowN 2)=([rowN 1],9):=by
 unfold Pt.tins
 rw [if_neg (not_not_intro row_fits2),if_pos]
 refine ⟨rowN 1,by simp,by simp,1,by decide,rfl,?_⟩
 rw [Pt.kx_lt (by decide),Pt.kx_lt (by decide)]
 rfl
section
variable {W w:World} {K:Value→World→Prop} {p q cp ip:Option Addr} {n c m d cc ic:Nat} {s:Schm} {l:List Row} {row:Row} {key:ByteArray}
theorem plan9_spec (hK:∀ v w',SchEx w' S9 v→Upd Nothing w w'→K v w'):Cv F.z9 #[] w K:=
 R.z9 (by
  unfold C.z9
  refine New.use (by simp [Value.oneCell']) fun b0 w1 hb0 hu1 hge1 _=>New.use (by simp [Value.oneCell']) fun b1 w2 hb1 hu2 hge2 _=>New.use (by simp [Value.oneCell']) fun b2 w3 hb2 hu3 hge3 _=>New.use (by simp [Value.oneCell']) fun b3 w4 hb3 hu4 hge4 _=>New.use (by simp [Value.oneCell']) fun b4 w5 hb4 hu5 hge5 _=>?_
  have hl0:=hb0.lt
  have hu15:=((hu2.then hu3).then hu4).then hu5
  have hb05:=hu15.blk hb0 fun f=>f
  refine set_six rfl rfl rfl rfl rfl rfl hb05 fun w6 hb6 hu6=>⟨_,_,_,_,_,_,_,_,_,_,six_cells hb6,?_⟩
  have hne1:¬ SX.One b0 b1:=fun e=>by have:b1=b0:=e; omega
  have hne2:¬ SX.One b0 b2:=fun e=>by have:b2=b0:=e; have:=hu2.size; omega
  have hne3:¬ SX.One b0 b3:=fun e=>by have:b3=b0:=e; have:=hu2.size; have:=hu3.size; omega
  have hne4:¬ SX.One b0 b4:=fun e=>by have:b4=b0:=e; have:=hu2.size; have:=hu3.size; have:=hu4.size; omega
  have k1:=hu6.blk (((hu3.then hu4).then hu5).blk hb1 fun f=>f) hne1
  have k2:=hu6.blk ((hu4.then hu5).blk hb2 fun f=>f) hne2
  have k3:=hu6.blk (hu5.blk hb3 fun f=>f) hne3
  have k4:=hu6.blk hb4 hne4
  have hcols:Cols w6 (some ⟨b1,0,none⟩) S9.cols:=by
   intro i hi
   have hi':i < 2:=hi
   obtain rfl | rfl:i=0∨i=1:=by omega
   ·exact ⟨_,rfl,k1.cell (i:=0) rfl,k1.cell (i:=1) rfl,trivial⟩
   ·exact ⟨_,rfl,k1.cell (i:=2) rfl,k1.cell (i:=3) rfl,trivial⟩
  have hixs:Ixs w6 (some ⟨b4,0,none⟩) S9.ixs:=by
   intro i hi
   have hi':i < 2:=hi
   obtain rfl | rfl:i=0∨i=1:=by omega
   ·exact ⟨_,some ⟨b2,0,none⟩,1,1,rfl,⟨k4.cell (i:=0) rfl,k4.cell (i:=1) rfl,trivial⟩,At.of_blk k2 fun j v hj=>by rw [Nat.zero_add]; exact hj,rfl,by omega⟩
   ·exact ⟨_,some ⟨b3,0,none⟩,1,1,rfl,⟨k4.cell (i:=2) rfl,k4.cell (i:=3) rfl,trivial⟩,At.of_blk k3 fun j v hj=>by rw [Nat.zero_add]; exact hj,rfl,by omega⟩
  exact hK _ w6 ⟨_,2,_,2,rfl,hcols,by decide,hixs,by decide⟩ ((hu1.then hu15).fresh hu6 fun i hi=>by rw [show i=b0 from hi]; exact hge1))
theorem mv_new {w':World} {t t':Tbl} (hW:Upd Nothing W w) (hf:∀ k,FT t k→W.heap.size≤k) (hm:TabMv w w' s t t'):Upd Nothing W w'∧∀ k,FT t' k→W.heap.size≤k:=
 ⟨hW.fresh hm.upd hf,fun k hk=>by
  rcases hm.fresh k hk with h | h
  ·exact hf k h
  ·exact Nat.le_trans hW.size h⟩
theorem awake9_spec (hM:MX w) (hK:∀ w',Upd Nothing w w'→K (.bool true) w'):Cv F.z4 #[] w K:=
 R.z4 (by
  unfold C.z4
  refine plan9_spec fun v w1 hs hu1=>?_
  obtain ⟨cp,cc,ip,ic,rfl,hx⟩:=hs
  refine ⟨_,_,_,_,_,_,_,_,_,_,rfl,tnew_spec (s:=S9) ⟨cp,cc,ip,ic,rfl,hx⟩ S9_small (fun w2 hn _=>absurd S9_right hn) (fun t w2 ht hrs hu2 hf2=>⟨_,_,rfl,?_⟩)⟩
  have hu02:=hu1.then hu2
  have hsz1:=hu1.size
  have hf:∀ k,FT t k→w.heap.size≤k:=fun k hk=>by have:=hf2 k hk; omega
  refine New.use (by simp [Value.oneCell']) fun b1 w3 hb3 hu3 hge3 _=>hb3.store (i:=0) (by simp) rfl fun w4 hb4 hu4 _=>hb4.store (i:=1) (by simp) rfl fun w5 hb5 hu5 _=>hb5.store (i:=2) (by simp) rfl fun w6 hb6 hu6 _=>?_
  have hg:∀ i,SX.One b1 i→w2.heap.size≤i:=fun i hi=>by rw [show i=b1 from hi]; exact hge3
  have hu26:Upd Nothing w2 w6:=((hu3.fresh hu4 hg).fresh hu5 hg).fresh hu6 hg
  refine ⟨_,_,_,⟨hb6.cell (i:=0) rfl,hb6.cell (i:=1) rfl,hb6.cell (i:=2) rfl,trivial⟩,New.use (by simp [Value.oneCell']) fun b2 w7 hb7 hu7 _ _=>?_⟩
  have hu27:=hu26.then hu7
  have hu07:=hu02.then hu27
  have ht7:=ht.upd0 hu27
  have hrow1:At w7 (some ⟨b2,0,none⟩) (vals (rowN 1)):=At.of_blk hb7 fun j v hj=>by rw [Nat.zero_add]; exact hj
  refine insert_spec (hM.upd0 hu07) ht7 hrow1 rfl (by omega) (row_wf 1 (by decide) (by decide)) fun t8 w8 hmv8 hrs8=>⟨_,rfl,?_⟩
  rw [hrs,tins_one] at hrs8 ⊢
  obtain ⟨hu08,hf8⟩:=mv_new hu07 hf hmv8
  have hb18:Blk w8 b1 _ T.api_Value:=hmv8.upd.blk (hu7.blk hb6 fun f=>f) fun hk=>Typed.not (hu7.blk hb6 fun f=>f) (es:=TTy) (by decide) (ht7.typed hk)
  refine ⟨_,_,_,⟨hb18.cell (i:=0) rfl,hb18.cell (i:=1) rfl,hb18.cell (i:=2) rfl,trivial⟩,New.use (by simp [Value.oneCell']) fun b3 w9 hb9 hu9 _ _=>?_⟩
  have hu09:=hu08.then hu9
  have ht9:=hmv8.at_.upd0 hu9
  have hrow2:At w9 (some ⟨b3,0,none⟩) (vals (rowN 2)):=At.of_blk hb9 fun j v hj=>by rw [Nat.zero_add]; exact hj
  rw [← hmv8.g]
  refine insert_spec (hM.upd0 hu09) ht9 hrow2 rfl (by omega) (row_wf 2 (by decide) (by decide)) fun t10 w10 hmv10 hrs10=>⟨_,rfl,?_⟩
  rw [hrs8,tins_two] at hrs10 ⊢
  obtain ⟨hu010,hf10⟩:=mv_new hu09 hf8 hmv10
  rw [← hmv10.g]
  refine ifB_mk (fun _=>ifB_mk (fun _=>ifB_mk (fun _=>tlen_spec hmv10.at_ ⟨_,rfl,?_⟩) (fun h=>by cases h)) (fun h=>by cases h)) (fun h=>by cases h)
  rw [hrs10]
  refine ifB_mk (fun _=>trows_spec (parts:=[]) hmv10.at_ (At.nil _ _) rfl (by omega) fun p c w11 ho hu11 _=>⟨_,_,_,rfl,?_⟩) (fun h=>by cases h)
  rw [filter_rows,hrs10]
  exact hK w11 (hu010.then hu11))
theorem great4_spec {rows:List Row} (hr:RwsP (RowIn W) W p n rows) (hW:Upd Nothing W w) (hK:∀ (b:Bool) w',(b=false→rows.length≤30∧∀ r∈rows,r.length≤30)→Upd Nothing w w'→K (.bool b) w'):Cv F.z34 #[.slice p n c] w K:=
 R.z34 (by
  unfold C.z34
  have hl:=hr.2
  refine ifB_mk (fun _=>hK true w (fun h=>by cases h) (Upd.refl _ _)) (fun h=>?_)
  have hn:n≤30:=by have:=of_decide_eq_false h; omega
  refine ⟨fun i w'=>∃ k:Nat,i=k∧k≤n∧Upd Nothing w w'∧∀ r∈rows.take k,r.length≤30,fun i _=>n - i.toNat,⟨0,rfl,by omega,Upd.refl _ _,by simp⟩,?_⟩
  rintro i w1 ⟨k,rfl,hk,hu1,hq⟩
  refine ifB_mk (fun h=>?_) (fun h=>?_)
  ·have hkn:k < n:=by have:=of_decide_eq_true h; omega
   have hkr:k < rows.length:=by omega
   obtain ⟨a,q,m,d,ha,hc,hrow,hd⟩:=(hr.upd0 (hW.then hu1)).1 k hkr
   refine ⟨a,ha,by omega,by omega,_,_,_,by simpa using hc,Va.great_spec (hrow.1.upd0 (hW.then hu1)) hrow.2 fun w2 hu2=>⟨_,rfl,ifB_mk (fun _=>hK true w2 (fun h=>by cases h) (hu1.then hu2)) (fun hg=>?_)⟩⟩
   refine scan_next (Q:=fun k=>∀ r∈rows.take k,r.length≤30) hkn (by omega) (hu1.then hu2) (forall_take hkr hq ?_)
   unfold Va.great at hg
   rw [Bool.or_eq_false_iff] at hg
   have:=of_decide_eq_false hg.1
   omega
  ·have hkn:k=n:=by have:=of_decide_eq_false h; omega
   rw [List.take_of_length_le (by omega)] at hq
   exact hK false w1 (fun _=>⟨by omega,hq⟩) hu1)
def Act.small (x:Act):Prop:=x.row.length≤30∧x.rows.length≤30∧∀ r∈x.rows,r.length≤30
theorem great9_spec {la:List Act} (hs:SchEx W s (sval' s cp cc ip ic)) (hW:Upd Nothing W w) (ha:ActsAt W W p n la) (hK:∀ (b:Bool) w',(b=false→Small s∧la.length≤40∧∀ x∈la,x.small)→Upd Nothing w w'→K (.bool b) w') :
  Cv F.z6 #[sval' s cp cc ip ic,.slice p n c] w K:=
 R.z6 (by
  unfold C.z6
  have hl:=ha.2
  have htrue:∀ w',Upd Nothing w w'→K (.bool true) w':=fun w' hu=>hK true w' (fun h=>by cases h) hu
  refine New.use (by simp [Value.oneCell']) fun g w1 hb1 hu1 _ _=>⟨_,_,_,_,_,_,_,_,_,_,six_cells hb1,great3_spec (hs.upd0 (hW.then hu1)) fun b w2 hb hu2=>⟨_,rfl,ifB_mk (fun _=>htrue _ (hu1.then hu2)) (fun hg=>ifB_mk (fun _=>htrue _ (hu1.then hu2)) (fun h=>?_))⟩⟩
  have hsm:=hb hg
  have hn:n≤40:=by have:=of_decide_eq_false h; omega
  have hu02:=hu1.then hu2
  refine ⟨fun i w'=>∃ k:Nat,i=k∧k≤n∧Upd Nothing w w'∧∀ x∈la.take k,x.small,fun i _=>n - i.toNat,⟨0,rfl,by omega,hu02,by simp⟩,?_⟩
  rintro i w3 ⟨k,rfl,hk,hu3,hq⟩
  refine ifB_mk (fun h=>?_) (fun h=>?_)
  ·have hkn:k < n:=by have:=of_decide_eq_true h; omega
   have hkr:k < la.length:=by omega
   have get:∀ w',Upd Nothing w w'→∃ a,p=some a∧ActAt W w' (a.add (k * 5)) la[k]:=fun w' hu=>(ha.upd0 (hW.then hu)).1 k hkr
   obtain ⟨a,ha3,q,m,d,q',m',d',hc,hrow,hmd,hrows,hmd'⟩:=get w3 hu3
   refine ⟨a,ha3,by omega,by omega,_,_,_,hc.2.2.2.1,Va.great_spec (hrow.1.upd0 (hW.then hu3)) hrow.2 fun w4 hu4=>⟨_,rfl,ifB_mk (fun _=>htrue _ (hu3.then hu4)) (fun hg1=>?_)⟩⟩
   have hc4:=cellsAt_upd0 hu4 hc
   refine ⟨a,ha3,by omega,by omega,_,_,_,hc4.2.2.2.2.1,great4_spec hrows (hW.then (hu3.then hu4)) fun b5 w5 hb5 hu5=>⟨_,rfl,ifB_mk (fun _=>htrue _ ((hu3.then hu4).then hu5)) (fun hg2=>?_)⟩⟩
   have hc5:=cellsAt_upd0 hu5 hc4
   refine ⟨a,ha3,by omega,by omega,_,hc5.2.2.1,ifB_mk (fun _=>htrue _ ((hu3.then hu4).then hu5)) (fun _=>?_)⟩
   refine scan_next (Q:=fun k=>∀ x∈la.take k,x.small) hkn (by omega) ((hu3.then hu4).then hu5) (forall_take hkr hq ⟨?_,hb5 hg2⟩)
   unfold Va.great at hg1
   rw [Bool.or_eq_false_iff] at hg1
   have:=of_decide_eq_false hg1.1
   omega
  ·have hkn:k=n:=by have:=of_decide_eq_false h; omega
   rw [List.take_of_length_le (by omega)] at hq
   exact hK false w3 (fun _=>⟨hsm,by omega,hq⟩) hu3)
end
end Tb
end Go.Proofs.YtjcgociobhhijaaGreatDoor
namespace Go.Proofs.YtjcgociobhhijaaGreatDoor
open Go SX Va Cd Sc Bt
namespace Tb
def keyOf' (s:Schm) (rs:List Row) (x:Act):ByteArray:=if rs.length=0∨x.n < 0 then x.key else match rs[x.n.toNat % rs.length]? with
 | some r=>Pt.kx s 0 r
 | none=>x.key
noncomputable def acts1 (s:Schm) (rs:List Row) (x:Act):List Row×Int:=
 if x.kind=0 then Pt.tins s rs x.row else if x.kind=1 then Pt.tupd s rs (keyOf' s rs x) x.row else if x.kind=2 then Pt.tdlt s rs (keyOf' s rs x) else Pt.tlds s [] x.rows
structure Pl (W w:World) (s:Schm) (cp:Option Addr) (cc:Nat) (ip:Option Addr) (ic:Nat) (t:Tbl) (p:Option Addr) (n c:Nat):Prop where
 hM:MX W
 tab:TabAt w s t
 low:∀ k,FT t k→W.heap.size≤k
 dc:Dc W w s cp cc ip ic p n c t.rs
section
variable {W w:World} {K:Value→World→Prop} {p q q' cp ip:Option Addr} {n c m d m' d' cc ic:Nat} {s:Schm} {l:List Row} {row:Row} {key:ByteArray} {t:Tbl} {x:Act}
theorem Pl.upd0 {w':World} (h:Pl W w s cp cc ip ic t p n c) (hu:Upd Nothing w w'):Pl W w' s cp cc ip ic t p n c:=⟨h.hM,h.tab.upd0 hu,h.low,h.dc.upd0 hu⟩
theorem lkey_spec (h:Dc W w s cp cc ip ic p n c l) (hK:∀ w',Upd Nothing w w'→K (.string (keyOf' s l x)) w') :
  Cv F.z8 #[mval s cp cc ip ic p n c,.agg #[.int .i64 x.kind,.int .i64 x.n,.string x.key,.slice q m d,.slice q' m' d']] w K:=
 R.z8 (by
  unfold C.z8
  unfold keyOf' at hK
  have hn:=h.n1000
  have hln:=h.len
  obtain ⟨h0,_⟩:=Pt.right_zero h.right
  refine New.use (by simp [Value.oneCell']) fun g1 w1 hb1 hu1 _ _=>New.use (by simp [Value.oneCell']) fun g2 w2 hb2 hu2 _ _=>?_
  have hb12:=hu2.blk hb1 fun f=>f
  have hu02:=hu1.then hu2
  refine ⟨_,_,_,hb12.cell (i:=6) rfl,ifB_mk (fun hx=>⟨_,hb2.cell (i:=2) rfl,?_⟩) (fun hx=>⟨_,hb2.cell (i:=1) rfl,ifB_mk (fun hy=>⟨_,hb2.cell (i:=2) rfl,?_⟩) (fun hy=>?_)⟩)⟩
  ·have h1:n=0:=by simpa using hx
   have:=hK w2 hu02
   rw [if_pos (.inl (by omega))] at this
   exact this
  ·have:=hK w2 hu02
   rw [if_pos (.inr (of_decide_eq_true hy))] at this
   exact this
  ·have hn0:n≠0:=by simpa using hx
   have hx0:=of_decide_eq_false hy
   have hb1d:=hb12.drew
   have hb2d:=hb2.drew
   have hud:Upd Nothing w w2.drew:=hu02.then (Upd.drew _ _)
   have hmod:Int.tmod x.n (n:Int)=((x.n.toNat % n:Nat):Int):=by
    rw [Int.tmod_eq_emod_of_nonneg (by omega)]
    have:x.n=(x.n.toNat:Int):=by omega
    conv=>lhs; rw [this]
    rfl
   have hlt:x.n.toNat % n < n:=Nat.mod_lt _ (by omega)
   have hkl:x.n.toNat % n < l.length:=by omega
   obtain ⟨a,q,m,d,ha,hc,hr,hd⟩:=(h.mdl.upd0 hud).get hkl
   refine ⟨_,_,_,_,_,_,_,_,_,_,first_six hb1d,_,_,_,hb1d.cell (i:=6) rfl,_,hb2d.cell (i:=1) rfl,_,_,_,hb1d.cell (i:=6) rfl,by omega,a,ha,by rw [hmod]; omega,by rw [hmod]; omega,_,_,_,by rw [hmod]; exact hc,?_⟩
   refine rkey_spec (i:=0) (h.hW.then hud) h.sx h.right h.small h0 hr (h.fits _ (List.getElem_mem hkl)) fun w3 hu3=>⟨_,rfl,?_⟩
   have:=hK w3 (hud.then hu3)
   rw [if_neg (by omega),hln,List.getElem?_eq_getElem hkl] at this
   exact this)
def ActIn (W:World) (q:Option Addr) (m d:Nat) (q':Option Addr) (m' d':Nat) (x:Act):Prop:=RowIn W q m x.row∧m≤d∧RwsP (RowIn W) W q' m' x.rows∧m'≤d'
theorem does_spec (h:Pl W w s cp cc ip ic t p n c) (hx:ActIn W q m d q' m' d' x) (hwf:x.wf) (hsm:x.small)
  (hK:∀ t' p' n' c' w',Pl W w' s cp cc ip ic t' p' n' c'→t'.rs=(acts1 s t.rs x).1→t'.g=t.g→Upd (FT t) w w'→(∀ k,FT t' k→FT t k∨w.heap.size≤k)→K (.tuple #[mval s cp cc ip ic p' n' c',.bool true]) w') :
  Cv F.z5 #[.pointer (some ⟨t.g,0,none⟩),mval s cp cc ip ic p n c,.agg #[.int .i64 x.kind,.int .i64 x.n,.string x.key,.slice q m d,.slice q' m' d']] w K:=
 R.z5 (by
  unfold C.z5
  obtain ⟨hrow,hmd,hrows,hmd'⟩:=hx
  have hm30:m≤30:=by rw [← hrow.2]; exact hsm.1
  have hm30':m'≤30:=by rw [← hrows.2]; exact hsm.2.1
  refine New.use (by simp [Value.oneCell']) fun g1 w1 hb1 hu1 _ hl1=>New.use (by simp [Value.oneCell']) fun g2 w2 hb2 hu2 hge2 hl2=>New.use (by simp [Value.oneCell']) fun g3 w3 hb3 hu3 hge3 hl3=>?_
  have hu03:=(hu1.then hu2).then hu3
  have hb13:=(hu2.then hu3).blk hb1 fun f=>f
  have hb23:=hu3.blk hb2 fun f=>f
  refine ⟨_,_,_,_,_,_,_,_,_,_,_,_,_,seven_cells hb13,_,_,_,_,_,_,_,_,_,⟨hb23.cell (i:=0) rfl,hb23.cell (i:=1) rfl,hb23.cell (i:=2) rfl,hb23.cell (i:=3) rfl,hb23.cell (i:=4) rfl,trivial⟩,lkey_spec (h.dc.upd0 hu03) fun w4 hu4=>⟨_,rfl,?_⟩⟩
  have hb14:=hu4.blk hb13 fun f=>f
  refine ⟨_,_,_,_,_,_,_,_,_,_,_,_,_,seven_cells hb14,New.use (by simp [Value.oneCell']) fun g4 w5 hb5 hu5 hge5 hl5=>set_seven rfl rfl rfl rfl rfl rfl rfl hb5 fun w12 hb12 hu12=>?_⟩
  have hu412:Upd Nothing w4 w12:=hu5.fresh hu12 fun i hi=>by rw [show i=g4 from hi]; exact hge5
  have hu312:=hu4.then hu412
  have hu012:=hu03.then hu312
  have hb1':=hu312.blk hb13 fun f=>f
  have hb2':=hu312.blk hb23 fun f=>f
  have hb3':=hu312.blk hb3 fun f=>f
  have ht12:=h.tab.upd0 hu012
  have hW12:=h.dc.hW.then hu012
  have hsz3:=hu3.size
  have hsz4:=hu4.size
  have hsz2:=hu2.size
  have hsz1:=hu1.size
  have h34:g3≠g4:=by omega
  have h14:g1≠g4:=by omega
  have h24:g2≠g4:=by omega
  have hg4:∀ i,One g4 i→w.heap.size≤i:=fun i hi=>by rw [show i=g4 from hi]; omega
  have hkey:keyOf' s t.rs x=keyOf' s t.rs x:=rfl
  -- what has been done
  refine ⟨fun e want w'=>∃ (t':Tbl) (p':Option Addr) (n' c':Nat),e=want∧TabMv w w' s t t'∧t'.rs=(acts1 s t.rs x).1∧MdlAt W w' p' n' c' t'.rs∧Blk w' g4 (mcs s cp cc ip ic p' n' c') T.affluxref09_Model∧(∃ L,Blk w' g3 L T.affluxref09_Model∧L.length=7),?_,?_⟩
  ·
   have tabmv:∀ (t':Tbl) (w13:World),TabMv w12 w13 s t t'→Upd Nothing W w13∧Blk w13 g1 (mcs s cp cc ip ic p n c) T.affluxref09_Model∧Blk w13 g2 [.int .i64 x.kind,.int .i64 x.n,.string x.key,.slice q m d,.slice q' m' d'] T.affluxlaw09_Act∧Dc W w13 s cp cc ip ic p n c t.rs:=fun t' w13 hmv=>by
    have hty:∀ k,FT t k→Typed w12 TTy k:=fun k hk=>ht12.typed hk
    have hut:Upd (Typed w12 TTy) w12 w13:=hmv.upd.mono fun k _ hk=>hty k hk
    obtain ⟨hW13,_⟩:=mv_new hW12 h.low hmv
    exact ⟨hW13,hut.tblk hb1' (by decide),hut.tblk hb2' (by decide),hW13,h.dc.sx,h.dc.right,h.dc.small,(h.dc.mdl.upd0 hu012).keep hut (by decide),h.dc.inv⟩
   -- behind the document's answer
   have fin:∀ (t':Tbl) (w13 w14:World) (p':Option Addr) (n' c':Nat) (e want:Int),TabMv w12 w13 s t t'→t'.rs=(acts1 s t.rs x).1→e=want→Upd Nothing w13 w14→MdlAt W w14 p' n' c' t'.rs→∀ w21,Blk w21 g4 (mcs s cp cc ip ic p' n' c') T.affluxref09_Model→Upd (One g4) w14 w21→
     ∃ (t':Tbl) (p':Option Addr) (n' c':Nat),e=want∧TabMv w w21 s t t'∧t'.rs=(acts1 s t.rs x).1∧MdlAt W w21 p' n' c' t'.rs∧Blk w21 g4 (mcs s cp cc ip ic p' n' c') T.affluxref09_Model∧(∃ L,Blk w21 g3 L T.affluxref09_Model∧L.length=7):=fun t' w13 w14 p' n' c' e want hmv hrs he hu14 hm14 w21 hb21 hu21=>by
    have hty:∀ k,FT t k→Typed w12 TTy k:=fun k hk=>ht12.typed hk
    have hut:Upd (Typed w12 TTy) w12 w13:=hmv.upd.mono fun k _ hk=>hty k hk
    have hb4:Blk w14 g4 _ T.affluxref09_Model:=hu14.blk (hut.tblk hb12 (by decide)) fun f=>f
    have hb3'':Blk w14 g3 _ T.affluxref09_Model:=hu14.blk (hut.tblk hb3' (by decide)) fun f=>f
    have hmv14:TabMv w w14 s t t':=(TabMv.after h.tab hu012 hmv).more hu14
    have hn4:∀ k,FT t' k→¬ One g4 k:=fun k hk e=>by
     have:=hmv14.at_.typed hk
     rw [show k=g4 from e] at this
     exact Typed.not hb4 (es:=TTy) (by decide) this
    refine ⟨t',p',n',c',he,⟨hmv14.at_.upd' hu21 hb4 (by decide) (by decide) (by decide) (by decide) (by decide),hmv14.upd.fresh hu21 hg4,hmv14.fresh,hmv14.g⟩,hrs,hm14.one hb4 (by decide) hu21,hb21,_,hu21.blk hb3'' (fun e=>h34 e),rfl⟩
   refine ⟨_,hb2'.cell (i:=0) rfl,?_⟩
   refine ifB_mk (fun h0=>?_) (fun h0=>?_)
   ·have hk0:x.kind=0:=by simpa using h0
    have hact:acts1 s t.rs x=Pt.tins s t.rs x.row:=by unfold acts1; rw [if_pos hk0]
    refine ⟨_,_,_,hb2'.cell (i:=3) rfl,insert_spec (h.hM.upd0 hW12) ht12 (hrow.1.upd0 hW12) hrow.2 (by omega) hwf.2.2.1 fun t' w13 hmv hrs=>⟨_,rfl,?_⟩⟩
    obtain ⟨hW13,k1,k2,kd⟩:=tabmv t' w13 hmv
    have hb4:=(hmv.upd.mono fun k _ hk=>ht12.typed hk:Upd (Typed w12 TTy) w12 w13).tblk hb12 (by decide)
    refine ⟨_,_,_,_,_,_,_,_,_,_,_,_,_,seven_cells k1,_,_,_,k2.cell (i:=3) rfl,minsert_spec kd hrow hmd (by omega) hwf.2.2.1 fun p' n' c' w14 hm14 hu14=>⟨_,_,_,_,_,_,_,_,_,_,_,_,_,_,rfl,?_⟩⟩
    exact set_seven rfl rfl rfl rfl rfl rfl rfl (hu14.blk hb4 fun f=>f) (fin t' w13 w14 p' n' c' _ _ hmv (by rw [hrs,hact]) rfl hu14 (by rw [hrs]; exact hm14))
   ·have hk0:x.kind≠0:=by simpa using h0
    refine ifB_mk (fun h1=>?_) (fun h1=>?_)
    ·have hk1:x.kind=1:=by simpa using h1
     have hact:acts1 s t.rs x=Pt.tupd s t.rs (keyOf' s t.rs x) x.row:=by unfold acts1; rw [if_neg hk0,if_pos hk1]
     refine ⟨_,_,_,hb2'.cell (i:=3) rfl,update_spec (h.hM.upd0 hW12) ht12 (fun w' hu=>hrow.1.upd0 (hW12.fresh hu h.low)) hrow.2 (by omega) hwf.2.2.1 fun t' w13 hmv hrs=>⟨_,rfl,?_⟩⟩
     obtain ⟨hW13,k1,k2,kd⟩:=tabmv t' w13 hmv
     have hb4:=(hmv.upd.mono fun k _ hk=>ht12.typed hk:Upd (Typed w12 TTy) w12 w13).tblk hb12 (by decide)
     refine ⟨_,_,_,_,_,_,_,_,_,_,_,_,_,seven_cells k1,_,_,_,k2.cell (i:=3) rfl,mupdate_spec kd hrow hmd (by omega) hwf.2.2.1 fun p' n' c' w14 hm14 hu14=>⟨_,_,_,_,_,_,_,_,_,_,_,_,_,_,rfl,?_⟩⟩
     exact set_seven rfl rfl rfl rfl rfl rfl rfl (hu14.blk hb4 fun f=>f) (fin t' w13 w14 p' n' c' _ _ hmv (by rw [hrs,hact]) rfl hu14 (by rw [hrs]; exact hm14))
    ·have hk1:x.kind≠1:=by simpa using h1
     refine ifB_mk (fun h2=>?_) (fun h2=>?_)
     ·have hk2:x.kind=2:=by simpa using h2
      have hact:acts1 s t.rs x=Pt.tdlt s t.rs (keyOf' s t.rs x):=by unfold acts1; rw [if_neg hk0,if_neg hk1,if_pos hk2]
      refine delete_spec (h.hM.upd0 hW12) ht12 fun t' w13 hmv hrs=>⟨_,rfl,?_⟩
      obtain ⟨hW13,k1,k2,kd⟩:=tabmv t' w13 hmv
      have hb4:=(hmv.upd.mono fun k _ hk=>ht12.typed hk:Upd (Typed w12 TTy) w12 w13).tblk hb12 (by decide)
      refine ⟨_,_,_,_,_,_,_,_,_,_,_,_,_,seven_cells k1,mdelete_spec kd fun p' n' c' w14 hm14 hu14=>⟨_,_,_,_,_,_,_,_,_,_,_,_,_,_,rfl,?_⟩⟩
      exact set_seven rfl rfl rfl rfl rfl rfl rfl (hu14.blk hb4 fun f=>f) (fin t' w13 w14 p' n' c' _ _ hmv (by rw [hrs,hact]) rfl hu14 (by rw [hrs]; exact hm14))
     ·have hk2:x.kind≠2:=by simpa using h2
      have hact:acts1 s t.rs x=Pt.tlds s [] x.rows:=by unfold acts1; rw [if_neg hk0,if_neg hk1,if_neg hk2]
      have hs30:∀ r∈x.rows,r.length≤9223372036854775807 - 1:=fun r hr=>by have:=hsm.2.2 r hr; omega
      refine ⟨_,_,_,hb2'.cell (i:=4) rfl,load_spec (fun w' hu=>h.hM.upd0 (hW12.fresh hu h.low)) ht12 (fun w' hu=>hrows.plain' (hW12.fresh hu h.low)) hrows.2 (by omega) hs30 hwf.2.2.2 fun t' w13 hmv hrs=>⟨_,rfl,?_⟩⟩
      obtain ⟨hW13,k1,k2,kd⟩:=tabmv t' w13 hmv
      have hb4:=(hmv.upd.mono fun k _ hk=>ht12.typed hk:Upd (Typed w12 TTy) w12 w13).tblk hb12 (by decide)
      refine ⟨_,_,_,_,_,_,_,_,_,_,_,_,_,seven_cells k1,_,_,_,k2.cell (i:=4) rfl,mload_spec kd hrows (by omega) hs30 hwf.2.2.2 fun p' n' c' w14 hm14 hu14=>⟨_,_,_,_,_,_,_,_,_,_,_,_,_,_,rfl,?_⟩⟩
      exact set_seven rfl rfl rfl rfl rfl rfl rfl (hu14.blk hb4 fun f=>f) (fin t' w13 w14 p' n' c' _ _ hmv (by rw [hrs,hact]) rfl hu14 (by rw [hrs]; exact hm14))
  ·rintro e want w49 ⟨t',p',n',c',he,hmv,hrs,hm49,hb49,L,hb349,hL⟩
   have hb49d:=hb49.drew
   refine ⟨_,_,_,_,_,_,_,_,_,_,_,_,_,seven_cells hb49d,ifB_mk (fun _=>?_) (fun hne=>by rw [he] at hne; simp at hne)⟩
   have hmvd:=hmv.more (Upd.drew Nothing w49)
   refine ⟨_,_,_,hb49d.cell (i:=6) rfl,?_⟩
   rw [← hmv.g]
   match L,hL,hb349 with
   | [y0,y1,y2,y3,y4,y5,y6],_,hb349=>
    refine tlen_spec hmvd.at_ ⟨_,rfl,hb49d.cell (i:=6) rfl,seven_cells hb49d,set_seven rfl rfl rfl rfl rfl rfl rfl hb349.drew fun w57 hb57 hu57=>?_⟩
    have hb457:Blk w57 g4 _ T.affluxref09_Model:=hu57.blk hb49d fun e=>h34 (show g4=g3 from e).symm
    refine ⟨hb457.cell (i:=6) rfl,_,_,_,_,_,_,_,_,_,_,_,_,_,seven_cells hb57,?_⟩
    have hlen:=hm49.len
    have e1:((t'.rs.length:Int) == ((n':Nat):Int))=true:=by rw [hlen]; exact beq_self_eq_true _
    rw [e1]
    have hu057:Upd (FT t) w w57:=hmvd.upd.fresh hu57 fun i hi=>by rw [show i=g3 from hi]; omega
    have hinv:Pt.Inv s t'.rs:=hmv.at_.inv
    refine hK t' p' n' c' w57 ⟨h.hM,hmvd.at_.upd' hu57 hb349.drew (by decide) (by decide) (by decide) (by decide) (by decide),fun k hk=>?_,h.dc.hW.fresh hu057 h.low,h.dc.sx,h.dc.right,h.dc.small,(hm49.upd0 (Upd.drew _ _)).one hb349.drew (by decide) hu57,hinv⟩ hrs hmv.g hu057 hmv.fresh
    rcases hmv.fresh k hk with h1 | h1
    ·exact h.low k h1
    ·exact Nat.le_trans h.dc.hW.size h1)
end
end Tb
end Go.Proofs.YtjcgociobhhijaaGreatDoor
namespace Go.Proofs.YtjcgociobhhijaaGreatDoor
open Go SX Va Cd Sc Bt
namespace Tb
theorem Pl.one {W w w':World} {cp ip:Option Addr} {cc ic n c g:Nat} {p:Option Addr} {s:Schm} {t:Tbl} {L:List Value} (h:Pl W w s cp cc ip ic t p n c) (hb:Blk w g L T.affluxref09_Model) (hg:W.heap.size≤g) (hu:Upd (SX.One g) w w'):Pl W w' s cp cc ip ic t p n c:=
 ⟨h.hM,h.tab.upd' hu hb (by decide) (by decide) (by decide) (by decide) (by decide),h.low,h.dc.hW.fresh hu fun i hi=>by rw [show i=g from hi]; exact hg,h.dc.sx,h.dc.right,h.dc.small,h.dc.mdl.one hb (by decide) hu,h.dc.inv⟩
section
variable {W w:World} {K:Value→World→Prop} {lp cp ip:Option Addr} {ln lc cc ic:Nat} {s:Schm} {la:List Act}
theorem play_spec (hM:MX W) (hW:Upd Nothing W w) (hs:SchEx W s (sval' s cp cc ip ic)) (hright:s.Right) (hsm:Small s) (ha:ActsAt W W lp ln la) (hln:ln≤1000) (hwf:∀ x∈la,x.wf) (hsmall:∀ x∈la,x.small)
  (hK:∀ t p n c w',Pl W w' s cp cc ip ic t p n c→Upd Nothing w w'→K (.tuple #[.pointer (some ⟨t.g,0,none⟩),mval s cp cc ip ic p n c,.bool true]) w') :
  Cv F.z10 #[sval' s cp cc ip ic,.slice lp ln lc] w K:=
 R.z10 (by
  unfold C.z10
  have hall:=ha.2
  refine New.use (by simp [Value.oneCell']) fun g1 w1 hb1 hu1 _ hl1=>New.use (by simp [Value.oneCell']) fun g2 w2 hb2 hu2 hge2 hl2=>?_
  have hu02:=hu1.then hu2
  have hb12:=hu2.blk hb1 fun f=>f
  refine ⟨_,_,_,_,_,_,_,_,_,_,six_cells hb12,tnew_spec (hs.upd0 (hW.then hu02)) hsm (fun w3 hn _=>absurd hright hn) fun t0 w3 ht0 hrs0 hu3 hf0=>⟨_,_,rfl,?_⟩⟩
  have hb13:=hu3.blk hb12 fun f=>f
  refine ⟨_,_,_,_,_,_,_,_,_,_,six_cells hb13,New.use (by simp [Value.oneCell']) fun g3 w4 hb4 hu4 hge4 hl4=>set_seven rfl rfl rfl rfl rfl rfl rfl hb4 fun w11 hb11 hu11=>?_⟩
  have hsz1:=hu1.size
  have hsz2:=hu2.size
  have hsz3:=hu3.size
  have hszW:=hW.size
  have hu24:=hu3.then hu4
  have hu311:Upd Nothing w3 w11:=hu4.fresh hu11 fun i hi=>by rw [show i=g3 from hi]; exact hge4
  have hu211:=hu3.then hu311
  have hu011:=hu02.then hu211
  have h23:g2≠g3:=by omega
  have hf0':∀ k,FT t0 k→w2.heap.size≤k:=hf0
  have hPl0:Pl W w11 s cp cc ip ic t0 none 0 0:=⟨hM,ht0.upd0 hu311,fun k hk=>by have:=hf0 k hk; omega,hW.then hu011,hs,hright,hsm,by rw [hrs0]; exact MdlAt.nil _ _,by rw [hrs0]; exact Pt.Inv.nil hright⟩
  refine ⟨fun i w'=>∃ (k:Nat) (t:Tbl) (p:Option Addr) (n c:Nat),i=k∧k≤ln∧Pl W w' s cp cc ip ic t p n c∧t.g=t0.g∧Upd Nothing w2 w'∧(∀ x,FT t x→w2.heap.size≤x)∧Blk w' g3 (mcs s cp cc ip ic p n c) T.affluxref09_Model,fun i _=>ln - i.toNat,⟨0,t0,none,0,0,rfl,by omega,hPl0,rfl,hu211,hf0,hb11⟩,?_⟩
  rintro i w12 ⟨k,t,p,n,c,rfl,hk,hPl,hg,hu12,hfl,hb312⟩
  have hu012:=hu02.then hu12
  have hb312d:=hb312.drew
  have hPld:=hPl.upd0 (Upd.drew Nothing w12)
  have hl3:w2.heap.size≤g3:=by omega
  refine ifB_mk (fun hlt=>ifB_mk (fun _=>?_) (fun h=>by cases h)) (fun hlt=>?_)
  ·have hkn:k < ln:=by have:=of_decide_eq_true hlt; omega
   have hka:k < la.length:=by omega
   have hmem:=List.getElem_mem hka
   have hWd:Upd Nothing W w12.drew:=hPld.dc.hW
   obtain ⟨a,haa,q,m,d,q',m',d',hc,hin⟩:=(ha.upd0 hWd).1 k hka
   -- behind the act,noted in a block gT
   have after:∀ (w20:World) (gT:Nat) (t':Tbl) (p':Option Addr) (n' c':Nat),Pl W w20 s cp cc ip ic t' p' n' c'→t'.g=t.g→Upd Nothing w2 w20→(∀ x,FT t' x→w2.heap.size≤x)→Blk w20 g3 (mcs s cp cc ip ic p n c) T.affluxref09_Model→Blk w20 gT (mcs s cp cc ip ic p' n' c') T.affluxref09_Model→
     ∃ (xSName1:ByteArray) (xSCols1p:Option Addr) (xSCols1n xSCols1c:Nat) (xSIndexes1p:Option Addr) (xSIndexes1n xSIndexes1c:Nat) (xSLimit1:Int) (xSParts1:Int) (xSBy1:Int) (xRows1p:Option Addr) (xRows1n xRows1c:Nat),
     SX.cellsAt w20 (Addr.mk gT 0 none) 0 [.string xSName1,.slice xSCols1p xSCols1n xSCols1c,.slice xSIndexes1p xSIndexes1n xSIndexes1c,.int .i64 xSLimit1,.int .i64 xSParts1,.int .i64 xSBy1,.slice xRows1p xRows1n xRows1c]∧
     CanSt w20 ((Addr.mk g3 0 none).add 0)∧∀ wv28,wv28=w20.setCell ((Addr.mk g3 0 none).add 0) (.string xSName1)→
     CanSt wv28 ((Addr.mk g3 0 none).add 1)∧∀ wv29,wv29=wv28.setCell ((Addr.mk g3 0 none).add 1) (.slice xSCols1p xSCols1n xSCols1c)→
     CanSt wv29 ((Addr.mk g3 0 none).add 2)∧∀ wv30,wv30=wv29.setCell ((Addr.mk g3 0 none).add 2) (.slice xSIndexes1p xSIndexes1n xSIndexes1c)→
     CanSt wv30 ((Addr.mk g3 0 none).add 3)∧∀ wv31,wv31=wv30.setCell ((Addr.mk g3 0 none).add 3) (.int .i64 xSLimit1)→
     CanSt wv31 ((Addr.mk g3 0 none).add 4)∧∀ wv32,wv32=wv31.setCell ((Addr.mk g3 0 none).add 4) (.int .i64 xSParts1)→
     CanSt wv32 ((Addr.mk g3 0 none).add 5)∧∀ wv33,wv33=wv32.setCell ((Addr.mk g3 0 none).add 5) (.int .i64 xSBy1)→
     CanSt wv33 ((Addr.mk g3 0 none).add 6)∧∀ wv34,wv34=wv33.setCell ((Addr.mk g3 0 none).add 6) (.slice xRows1p xRows1n xRows1c)→
     (∃ (k':Nat) (t1:Tbl) (p:Option Addr) (n c:Nat),IntKind.i64.wrap ((k:Int)+1)=k'∧k'≤ln∧Pl W wv34 s cp cc ip ic t1 p n c∧t1.g=t.g∧Upd Nothing w2 wv34∧(∀ x,FT t1 x→w2.heap.size≤x)∧Blk wv34 g3 (mcs s cp cc ip ic p n c) T.affluxref09_Model)∧ln - (IntKind.i64.wrap ((k:Int)+1)).toNat < ln - (k:Int).toNat:=by
    intro w20 gT t' p' n' c' hPl' hg' hu20 hfl' hb20 hbT
    refine ⟨_,_,_,_,_,_,_,_,_,_,_,_,_,seven_cells hbT,set_seven rfl rfl rfl rfl rfl rfl rfl hb20 fun w34 hb34 hu34=>?_⟩
    rw [i64_wrap (by omega) (by omega)]
    exact ⟨⟨k+1,t',p',n',c',by omega,by omega,hPl'.one hb20 (by omega) hu34,hg',hu20.fresh hu34 fun i hi=>by rw [show i=g3 from hi]; exact hl3,hfl',hb34⟩,by omega⟩
   have hud:Upd Nothing w2 w12.drew:=hu12.then (Upd.drew _ _)
   rw [← hg]
   refine ⟨_,_,_,_,_,_,_,_,_,_,_,_,_,seven_cells hb312d,a,haa,by omega,by omega,_,_,_,_,_,_,_,_,_,hc,?_,?_⟩
   ·refine does_spec hPld hin (hwf _ hmem) (hsmall _ hmem) fun t' p' n' c' w13 hPl' hrs' hg' hu13 hf13=>⟨_,_,_,_,_,_,_,_,_,_,_,_,_,_,rfl,New.use (by simp [Value.oneCell']) fun g4 w14 hb14 hu14 hge14 hl14=>?_⟩
    have hty:Upd (Typed w12.drew TTy) w12.drew w13:=hu13.mono fun x _ hx=>hPld.tab.typed hx
    have hb313:=hty.tblk hb312d (by decide)
    have hb314:=hu14.blk hb313 fun f=>f
    have hu213:Upd Nothing w2 w13:=hud.fresh hu13 hfl
    have hfl':∀ x,FT t' x→w2.heap.size≤x:=fun x hx=>by
     rcases hf13 x hx with h | h
     ·exact hfl x h
     ·have:=hud.size; omega
    have hPl14:=hPl'.upd0 hu14
    have hc14:SX.cellsAt w14 (a.add ((k:Int).toNat * 5)) 0 [.int .i64 la[k].kind,.int .i64 la[k].n,.string la[k].key,.slice q m d,.slice q' m' d']:=by
     obtain ⟨a0,ha0,q0,m0,d0,q0',m0',d0',hc0,_⟩:=ha.1 k hka
     have e0:=cellsAt_upd0 hWd hc0
     rw [haa] at ha0
     injection ha0 with ha0
     subst ha0
     have hcc:SX.cellsAt w12.drew (a.add (k * 5)) 0 [.int .i64 la[k].kind,.int .i64 la[k].n,.string la[k].key,.slice q m d,.slice q' m' d']:=hc
     have s3:=e0.2.2.2.1.symm.trans hcc.2.2.2.1
     have s4:=e0.2.2.2.2.1.symm.trans hcc.2.2.2.2.1
     have e14:=cellsAt_upd0 hPl14.dc.hW hc0
     rw [Option.some.inj s3,Option.some.inj s4] at e14
     exact e14
    refine ⟨hc14,seven_cells hb314,set_seven rfl rfl rfl rfl rfl rfl rfl hb14 fun w21 hb21 hu21=>?_⟩
    have hne:g3≠g4:=by have:=hb313.lt; omega
    have hPl21:=hPl14.one hb14 (by have:=hu213.size; omega) hu21
    exact ifB_mk (fun h=>by cases h) (fun _=>after w21 g4 t' p' n' c' hPl21 hg' ((hu213.then hu14).fresh hu21 fun i hi=>by rw [show i=g4 from hi]; have:=hu213.size; omega) hfl' (hu21.blk hb314 fun e=>hne e) hb21)
   ·refine New.use (by simp [Value.oneCell']) fun g5 w36 hb36 hu36 hge36 hl36=>?_
    have hPl36:=hPld.upd0 hu36
    have hb336:=hu36.blk hb312d fun f=>f
    refine ⟨cellsAt_upd0 hu36 hc,seven_cells hb336,does_spec hPl36 hin (hwf _ hmem) (hsmall _ hmem) fun t' p' n' c' w37 hPl' hrs' hg' hu37 hf37=>⟨_,_,_,_,_,_,_,_,_,_,_,_,_,_,rfl,?_⟩⟩
    have hty:Upd (Typed w36 TTy) w36 w37:=hu37.mono fun x _ hx=>hPl36.tab.typed hx
    have hb337:=hty.tblk hb336 (by decide)
    have hb537:=hty.tblk hb36 (by decide)
    have hu236:=hud.then hu36
    have hu237:Upd Nothing w2 w37:=hu236.fresh hu37 hfl
    have hfl':∀ x,FT t' x→w2.heap.size≤x:=fun x hx=>by
     rcases hf37 x hx with h | h
     ·exact hfl x h
     ·have:=hu236.size; omega
    have hne:g3≠g5:=by have:=hb312.lt; have:w12.drew.heap.size=w12.heap.size:=rfl; omega
    have hg5:w2.heap.size≤g5:=by have:=hud.size; omega
    refine set_seven rfl rfl rfl rfl rfl rfl rfl hb537 fun w44 hb44 hu44=>?_
    have hPl44:=hPl'.one hb537 (by omega) hu44
    exact ifB_mk (fun h=>by cases h) (fun _=>after w44 g5 t' p' n' c' hPl44 hg' (hu237.fresh hu44 fun i hi=>by rw [show i=g5 from hi]; exact hg5) hfl' (hu44.blk hb337 fun e=>hne e) hb44)
  ·have hkn:k=ln:=by have:=of_decide_eq_false hlt; omega
   have hb2d:=(hu12.then (Upd.drew _ _)).blk hb2 fun f=>f
   refine ⟨_,_,_,_,_,_,_,_,_,_,_,_,_,seven_cells hb312d,set_seven rfl rfl rfl rfl rfl rfl rfl hb2d fun w72 hb72 hu72=>⟨_,_,_,_,_,_,_,_,_,_,_,_,_,seven_cells hb72,?_⟩⟩
   rw [← hg]
   exact hK t p n c w72 (hPld.one hb2d (by omega) hu72) ((hu012.then (Upd.drew _ _)).fresh hu72 fun i hi=>by rw [show i=g2 from hi]; omega))
end
end Tb
end Go.Proofs.YtjcgociobhhijaaGreatDoor
namespace Go.Proofs.YtjcgociobhhijaaGreatDoor
open Go SX Va Cd Sc Bt
namespace Tb
section
variable {W w:World} {K:Value→World→Prop} {p q cp ip:Option Addr} {n c m d cc ic:Nat} {s:Schm} {t:Tbl} {row:Row} {key:ByteArray}
theorem Pl.hW (h:Pl W w s cp cc ip ic t p n c):Upd Nothing W w:=h.dc.hW
theorem Pl.mx (h:Pl W w s cp cc ip ic t p n c):MX w:=h.hM.upd0 h.dc.hW
theorem Pl.small (h:Pl W w s cp cc ip ic t p n c) {r:Row} (hr:r∈t.rs):r.length≤12:=row_small h.tab hr
theorem all_rows (h:Pl W w s cp cc ip ic t p n c) {rp:Option Addr} {rn rc:Nat} (hr:OutRows w rp rn rc t.rs) (hK:∀ w',Upd Nothing w w'→K (.bool true) w'):Cv F.z38 #[.slice rp rn rc,.slice p n c] w K:=by
 have hn:=h.dc.n1000
 have hl:=h.dc.len
 refine rsame4_spec hr.plain hr.len (h.dc.mdl.plain h.hW) hl (by have:=hr.len; omega) (fun r hr'=>by have:=h.small hr'; omega) fun b w1 hb hu1=>?_
 have e:b=true:=hb.2 rfl
 subst e
 exact hK w1 hu1
theorem own_row (h:Pl W w s cp cc ip ic t p n c) {r:Row} (hr:r∈t.rs) (hK:∀ rp rc w',Own w' T.api_Value 3 rp r.length rc (vals r)→Upd Nothing w w'→K (.tuple #[.slice rp r.length rc,.bool true]) w') :
  Cv F.z122 #[.pointer (some ⟨t.g,0,none⟩),.string (Pt.kx s 0 r)] w K:=by
 obtain ⟨h0,_⟩:=Pt.right_zero h.dc.right
 refine get_row h.tab (fun p c w1 hn _=>absurd rfl (hn r hr)) (fun r' p c w1 hr' hk ho hu1 _=>?_)
 have e:r'=r:=h.tab.inv.dist h.dc.right h0 hr' hr hk
 subst e
 exact hK p c w1 ho hu1
theorem same_row {r:Row} (ha:At w q (vals r)) (hl:r.length=m) (hm:m≤9223372036854775806) (hb:At w p (vals r)) (hl':r.length=n) (hK:∀ w',Upd Nothing w w'→K (.bool true) w'):Cv F.z24 #[.slice q m d,.slice p n c] w K:=
 same_rows ha hl hm hb hl' fun b w1 hb hu1=>by
  have e:b=true:=hb.2 rfl
  subst e
  exact hK w1 hu1
end
end Tb
end Go.Proofs.YtjcgociobhhijaaGreatDoor
namespace Go.Proofs.YtjcgociobhhijaaGreatDoor
open Go SX Va Cd Sc Bt
namespace Tb
theorem set_mid {α:Type} (A B:List α) (x y:α):(A++x :: B).set A.length y=A++y :: B:=by
 rw [List.set_append_right _ _ (Nat.le_refl _),Nat.sub_self]
 rfl
theorem byl_ins {s:Schm} {i t:Nat} {R l:List Row} {row:Row} (h:Pt.ByL s i R l) (hn:∀ r∈R,Pt.kx s i row≠Pt.kx s i r) (ht:t≤l.length) (h1:∀ r∈l.take t,sLt (Pt.kx s i r) (Pt.kx s i row)=true) (h2:∀ (hx:t < l.length),sLt (Pt.kx s i l[t]) (Pt.kx s i row)=false):Pt.ByL s i (R++[row]) (l.take t++row :: l.drop t):=by
 have hsp:l=l.take t++l.drop t:=(List.take_append_drop _ _).symm
 have hs:=h.1
 rw [hsp] at hs
 obtain ⟨a1,a2,a3⟩:=List.pairwise_append.1 hs
 have hgt:∀ r∈l.drop t,sLt (Pt.kx s i row) (Pt.kx s i r)=true:=by
  intro r hr
  by_cases hx:t < l.length
  ·rw [List.drop_eq_getElem_cons hx] at hr a2
   have h3:=sLt_total (h2 hx) fun e=>hn _ ((h.2 _).1 (List.getElem_mem hx)) e.symm
   rcases List.mem_cons.1 hr with rfl | hr
   ·exact h3
   ·exact sLt_trans h3 ((List.pairwise_cons.1 a2).1 r hr)
  ·rw [List.drop_eq_nil_iff.2 (by omega)] at hr
   cases hr
 refine ⟨List.pairwise_append.2 ⟨a1,List.pairwise_cons.2 ⟨hgt,a2⟩,fun a ha b hb=>?_⟩,fun r=>?_⟩
 ·rcases List.mem_cons.1 hb with rfl | hb
  ·exact h1 a ha
  ·exact a3 a ha b hb
 ·have hm:r∈l↔r∈l.take t∨r∈l.drop t:=by
   conv=>lhs; rw [hsp]
   exact List.mem_append
  rw [List.mem_append,List.mem_cons,List.mem_append,List.mem_singleton,← h.2 r,hm]
  constructor
  ·rintro (h | h | h)
   ·exact .inl (.inl h)
   ·exact .inr h
   ·exact .inl (.inr h)
  ·rintro ((h | h) | h)
   ·exact .inl h
   ·exact .inr (.inr h)
   ·exact .inr (.inl h)
section
variable {W w:World} {K:Value→World→Prop} {p q pp cp ip:Option Addr} {n c m d pn pc cc ic:Nat} {s:Schm} {l:List Row} {row:Row} {key:ByteArray} {parts:List Int} {i:Nat}
theorem mby_spec (h : Dc W w s cp cc ip ic p n c l) (hi : i < s.ixs.length) (hK : ∀ p' n' c' by_ w', MdlAt W w' p' n' c' by_ → Pt.ByL s i l by_ → Upd Nothing w w' → K (.slice p' n' c') w') :
    Cv F.z43 #[mval s cp cc ip ic p n c, .int .i64 (i : Int)] w K :=
  R.z43 (by
    unfold C.z43
    have hn := h.n1000
    have hln := h.len
    refine New.use (by simp [Value.oneCell']) fun g w1 hb1 hu1 hge1 _ => ?_
    refine ⟨fun lp ln lc x w' => ∃ (k : Nat) (l' : List Row), x = k ∧ k ≤ n ∧ MdlAt W w' lp ln lc l' ∧ Pt.ByL s i (l.take k) l' ∧ ln = k ∧ Upd Nothing w1 w' ∧ ∀ y, Fp lp lc y → w1.heap.size ≤ y, fun _ _ _ x _ => n - x.toNat, ⟨0, [], rfl, by omega, MdlAt.nil _ _, ⟨List.Pairwise.nil, fun r => Iff.rfl⟩, rfl, Upd.refl _ _, fun y hy => by have := hy.1; omega⟩, ?_⟩
    rintro lp ln lc x w2 ⟨k, l', rfl, hk, hm2, hby, rfl, hu2, hf2⟩
    have hu02 := hu1.then hu2
    have hb2 := hu2.blk hb1 fun f => f
    have hl'n := hm2.len
    refine ⟨_, _, _, hb2.cell (i := 6) rfl, ifB_mk (fun hx => ?_) (fun hx => ?fin)⟩
    case fin =>
      have hkn : ln = n := by have := of_decide_eq_false hx; omega
      rw [List.take_of_length_le (by omega)] at hby
      exact hK lp ln lc l' w2 hm2 hby hu02
    have hkn : ln < n := by have := of_decide_eq_true hx; omega
    have hkl : ln < l.length := by omega
    have hmem := List.getElem_mem hkl
    have htk : l.take (ln + 1) = l.take ln ++ [l[ln]] := List.take_succ_eq_append_getElem hkl
    have hnew : ∀ r ∈ l.take ln, Pt.kx s i l[ln] ≠ Pt.kx s i r := fun r hr he => by
      have e := h.inv.dist h.right hi hmem (List.mem_of_mem_take hr) he
      obtain ⟨j, hj, hjr⟩ := List.mem_iff_getElem.1 hr
      have hj' : j < ln := by simp at hj; omega
      rw [List.getElem_take] at hjr
      have := place_eq h.inv.srt (i := j) (j := ln) (by omega) hkl (by rw [hjr, e])
      omega
    -- the row is put in at a place
    have tail : ∀ (w5 : World) (t : Nat), Upd Nothing w2 w5 → t ≤ ln → (∀ r ∈ l'.take t, sLt (Pt.kx s i r) (Pt.kx s i l[ln]) = true) → (∀ (hx : t < l'.length), sLt (Pt.kx s i l'[t]) (Pt.kx s i l[ln]) = false) →
            ∀ b2 wv6, New w5 (.cells #[.slice none 0 0] T.s_api_Value) b2 wv6 →
            BuiltV prog .append #[T.s_s_api_Value, T.s_s_api_Value] T.s_s_api_Value #[.slice lp ln lc, .slice (some (Addr.mk b2 0 none)) 1 1] wv6 (fun v3 wv7 =>
              ∃ (a3p : Option Addr) (a3n a3c : Nat),
              v3 = .slice a3p a3n a3c ∧
              ∃ (Iv3 : Int → World → Prop) (m3 : Int → World → Nat),
              Iv3 (IntKind.i64.wrap (((a3n : Nat) : Int) - (1 : Int))) wv7 ∧
              ∀ (k1 : Int) wv8, Iv3 k1 wv8 →
              ifB (decide ((t : Int) < k1)) (
                ∃ a4, a3p = some a4 ∧ 0 ≤ IntKind.i64.wrap (k1 - (1 : Int)) ∧ IntKind.i64.wrap (k1 - (1 : Int)) < ((a3n : Nat) : Int) ∧
                ∃ (e3p : Option Addr) (e3n e3c : Nat),
                wv8.cell? (a4.add ((IntKind.i64.wrap (k1 - (1 : Int))).toNat * 1)) = some (.slice e3p e3n e3c) ∧
                ∃ a5, a3p = some a5 ∧ 0 ≤ k1 ∧ k1 < ((a3n : Nat) : Int) ∧
                CanSt wv8 (a5.add (k1.toNat * 1)) ∧ ∀ wv9, wv9 = wv8.setCell (a5.add (k1.toNat * 1)) (.slice e3p e3n e3c) →
                Iv3 (IntKind.i64.wrap (k1 - (1 : Int))) wv9 ∧ m3 (IntKind.i64.wrap (k1 - (1 : Int))) wv9 < m3 k1 wv8) (
                ∃ (Rows3p : Option Addr) (Rows3n Rows3c : Nat),
                wv8.cell? ((Addr.mk g 0 none).add 6) = some (.slice Rows3p Rows3n Rows3c) ∧
                ∃ a6, Rows3p = some a6 ∧ 0 ≤ (ln : Int) ∧ (ln : Int) < ((Rows3n : Nat) : Int) ∧
                ∃ (e4p : Option Addr) (e4n e4c : Nat),
                wv8.cell? (a6.add ((ln : Int).toNat * 1)) = some (.slice e4p e4n e4c) ∧
                ∃ a7, a3p = some a7 ∧ 0 ≤ (t : Int) ∧ (t : Int) < ((a3n : Nat) : Int) ∧
                CanSt wv8 (a7.add ((t : Int).toNat * 1)) ∧ ∀ wv10, wv10 = wv8.setCell (a7.add ((t : Int).toNat * 1)) (.slice e4p e4n e4c) →
                (∃ (k : Nat) (l' : List Row), IntKind.i64.wrap ((ln : Int) + (1 : Int)) = k ∧ k ≤ n ∧ MdlAt W wv10 a3p a3n a3c l' ∧ Pt.ByL s i (l.take k) l' ∧ a3n = k ∧ Upd Nothing w1 wv10 ∧ ∀ y, Fp a3p a3c y → w1.heap.size ≤ y) ∧ n - (IntKind.i64.wrap ((ln : Int) + (1 : Int))).toNat < n - (ln : Int).toNat)) := by
      intro w5 t hu5 ht hlo hhi
      obtain ⟨xs, ho, hs, hl⟩ := hm2.upd0 hu5
      have hxl : xs.length = ln := by rw [hs.1, hl]
      refine app_cell srows2 (by decide) rfl ho (by omega) fun p' c' w7 ho7 hu7 hf7 => ⟨_, _, _, rfl, ?_⟩
      have hu15 := hu2.then hu5
      have hu17 : Upd Nothing w1 w7 := hu15.fresh hu7 hf2
      have hf7' : ∀ y, Fp p' c' y → w1.heap.size ≤ y := fun y hy => by
        rcases hf7 y hy with h | h
        · exact hf2 y h
        · exact Nat.le_trans hu15.size h
      refine ⟨fun k1 w' => ∃ (j : Nat) (y : Value), k1 = j ∧ t ≤ j ∧ j ≤ ln ∧ Own w' T.s_api_Value 1 p' (ln + 1) c' (xs.take j ++ y :: xs.drop j) ∧ Upd (Fp p' c') w7 w', fun k1 _ => k1.toNat, ⟨ln, .slice none 0 0, ?_, ht, Nat.le_refl _, ?_, Upd.refl _ _⟩, ?_⟩
      · rw [i64_wrap (by omega) (by omega)]; omega
      · rw [List.take_of_length_le (by omega), List.drop_eq_nil_iff.2 (by omega)]; exact ho7
      rintro k1 w8 ⟨j, y, rfl, htj, hjn, ho8, hu8⟩
      have hu18 : Upd Nothing w1 w8 := hu17.fresh hu8 hf7'
      have hlj : (xs.take j).length = j := by simp; omega
      refine ifB_mk (fun hlt => ?_) (fun hlt => ?_)
      · have hjt : t < j := by have := of_decide_eq_true hlt; omega
        obtain ⟨j', rfl⟩ : ∃ j', j = j' + 1 := ⟨j - 1, by omega⟩
        have hw : IntKind.i64.wrap (((j' + 1 : Nat) : Int) - 1) = (j' : Int) := by rw [i64_wrap (by omega) (by omega)]; omega
        rw [hw]
        obtain ⟨q, m, d, hxj, _, _⟩ := hs.2 j' (by omega)
        obtain ⟨a, ha, hc⟩ := ho8.at j' _ (show (xs.take (j' + 1) ++ y :: xs.drop (j' + 1))[j']? = some (.slice q m d) by rw [List.getElem?_append_left (by omega), List.getElem?_take, if_pos (by omega)]; exact hxj)
        obtain ⟨a5, ha5, hcan, hst⟩ := ho8.put (j := j' + 1) (v := .slice q m d) (by rw [List.length_append, hlj]; simp) rfl
        refine ⟨a, ha, by omega, by omega, _, _, _, by simpa using hc, a5, ha5, by omega, by omega, by simpa using hcan, fun w9 hw9 => ?_⟩
        obtain ⟨ho9, hu9, _⟩ := hst w9 (by simpa using hw9)
        refine ⟨⟨j', .slice q m d, rfl, by omega, by omega, ?_, hu8.then hu9⟩, by show (j' : Int).toNat < ((j' + 1 : Nat) : Int).toNat; omega⟩
        have e1 := set_mid (xs.take (j' + 1)) (xs.drop (j' + 1)) y (.slice q m d)
        rw [hlj] at e1
        rw [e1] at ho9
        have hj'x : j' < xs.length := by omega
        have hxv : xs[j'] = .slice q m d := by rw [List.getElem?_eq_getElem hj'x] at hxj; exact Option.some.inj hxj
        have e2 : xs.take (j' + 1) = xs.take j' ++ [.slice q m d] := by rw [List.take_succ_eq_append_getElem hj'x, hxv]
        have e3 : xs.drop j' = .slice q m d :: xs.drop (j' + 1) := by rw [List.drop_eq_getElem_cons hj'x, hxv]
        rw [e2, List.append_assoc] at ho9
        rw [e3]
        exact ho9
      · have hjt : t = j := by have := of_decide_eq_false hlt; omega
        subst hjt
        have hu08 := hu1.then hu18
        obtain ⟨a, q, m, d, ha, hc, hr, hd⟩ := (h.mdl.upd0 hu08).get hkl
        obtain ⟨a7, ha7, hcan, hst⟩ := ho8.put (j := t) (v := .slice q m d) (by rw [List.length_append, hlj]; simp) rfl
        refine ⟨_, _, _, (hu18.blk hb1 fun f => f).cell (i := 6) rfl, a, ha, by omega, by omega, _, _, _, by simpa using hc, a7, ha7, by omega, by omega, by simpa using hcan, fun w10 hw10 => ?_⟩
        obtain ⟨ho10, hu10, _⟩ := hst w10 (by simpa using hw10)
        have e1 := set_mid (xs.take t) (xs.drop t) y (.slice q m d)
        rw [hlj] at e1
        rw [e1] at ho10
        rw [i64_wrap (by omega) (by omega)]
        refine ⟨⟨ln + 1, l'.take t ++ l[ln] :: l'.drop t, by omega, by omega, ⟨_, ho10, ?_, ?_⟩, ?_, rfl, hu18.fresh hu10 hf7', hf7'⟩, by show n - _ < n - _; omega⟩
        · exact SlE.append (hs.take t) (SlE.append (SlE.one hr hd) (hs.drop t))
        · simp; omega
        · rw [htk]
          exact byl_ins hby hnew (by omega) hlo hhi
    refine ⟨fun x w' => ∃ t : Nat, x = t ∧ t ≤ ln ∧ Upd Nothing w2 w' ∧ ∀ r ∈ l'.take t, sLt (Pt.kx s i r) (Pt.kx s i l[ln]) = true, fun x _ => ln - x.toNat, ⟨0, rfl, by omega, Upd.refl _ _, by simp⟩, ?_⟩
    rintro x w3 ⟨t, rfl, ht, hu3, hq3⟩
    refine ifB_mk (fun hx => ?_) (fun hx => tail w3.drew t (hu3.then (Upd.drew _ _)) ht hq3 fun h' => by have := of_decide_eq_false hx; omega)
    have htn : t < ln := by have := of_decide_eq_true hx; omega
    have htl : t < l'.length := by omega
    have hud : Upd Nothing w2 w3.drew := hu3.then (Upd.drew _ _)
    have hu0d := hu02.then hud
    have hbd := hud.blk hb2 fun f => f
    have hmt : l'[t] ∈ l := List.mem_of_mem_take ((hby.2 _).1 (List.getElem_mem htl))
    obtain ⟨a, q1, m1, d1, ha, hc, hr1, hd1⟩ := (hm2.upd0 hud).get htl
    obtain ⟨a2, q2, m2, d2, ha2, hc2, hr2, hd2⟩ := (h.mdl.upd0 hu0d).get hkl
    refine ⟨_, _, _, _, _, _, _, _, _, _, first_six hbd, a, ha, by omega, by omega, _, _, _, by simpa using hc, _, _, _, _, _, _, _, _, _, _, first_six hbd, _, _, _, hbd.cell (i := 6) rfl, a2, ha2, by omega, by omega, _, _, _, by simpa using hc2, ?_⟩
    refine rkey_spec (h.hW.then hu0d) h.sx h.right h.small hi hr1 (h.fits _ hmt) fun w4 hu4 => ⟨_, rfl, ?_⟩
    have hb4 := hu4.blk hbd fun f => f
    refine ⟨by simpa using hu4.cell hc2 fun f => f, hb4.cell (i := 6) rfl, first_six hb4, rkey_spec ((h.hW.then hu0d).then hu4) h.sx h.right h.small hi hr2 (h.fits _ hmem) fun w5 hu5 => ⟨_, rfl, ?_⟩⟩
    have hu25 := (hud.then hu4).then hu5
    exact ifB_mk (fun hlt => scan_next (Q := fun t => ∀ r ∈ l'.take t, sLt (Pt.kx s i r) (Pt.kx s i l[ln]) = true) htn (by omega) hu25 (forall_take htl hq3 hlt)) (fun hlt => tail w5 t hu25 ht hq3 fun _ => hlt))
theorem in_spec (hW:Upd Nothing W w) (hs:SchEx W s (sval' s cp cc ip ic)) (hright:s.Right) (hr:RowIn W q m row) (hok:Pt.RowOk s row) (hat:At W pp (ints parts)) (hl:parts.length=pn) (hn:pn≤9223372036854775806) (hK:∀ w',Upd Nothing w w'→K (.bool (inP s parts row)) w') :
  Cv F.z7 #[sval' s cp cc ip ic,.slice q m d,.slice pp pn pc] w K:=
 R.z7 (by
  unfold C.z7
  have hby:=hright.2.2.2.2.2
  have hpa:=hright.2.2.2.2.1
  have hfl:=hok.1.1
  have hlt:s.by_.toNat < row.length:=by omega
  have hpo:partOf s row=Ca.spreadV (row[s.by_.toNat]'hlt) s.parts:=by unfold partOf; rw [dif_pos hlt]
  refine New.use (by simp [Value.oneCell']) fun g w1 hb1 hu1 _ _=>⟨fun x w'=>∃ k:Nat,x=k∧k≤pn∧Upd Nothing w1 w'∧∀ e∈parts.take k,e≠partOf s row,fun x _=>pn - x.toNat,⟨0,rfl,by omega,Upd.refl _ _,by simp⟩,?_⟩
  rintro x w2 ⟨k,rfl,hk,hu2,hq⟩
  have hu02:=hu1.then hu2
  refine ifB_mk (fun hx=>?_) (fun hx=>?_)
  ·have hkn:k < pn:=by have:=of_decide_eq_true hx; omega
   have hkp:k < parts.length:=by omega
   have hud:Upd Nothing w1 w2.drew:=hu2.then (Upd.drew _ _)
   have hWd:=(hW.then hu1).then hud
   have hbd:=hud.blk hb1 fun f=>f
   obtain ⟨a,ha,hc⟩:=(hat.upd0 hWd) k _ (ints_get hkp)
   obtain ⟨a2,ha2,hcl⟩:=(hr.1.upd0 hWd).val hlt
   have hml:=hr.2
   refine ⟨a,ha,by omega,by omega,_,by simpa using hc,_,hbd.cell (i:=5) rfl,a2,ha2,by omega,by omega,_,_,_,hcl,_,hbd.cell (i:=4) rfl,?_⟩
   obtain ⟨N,hN⟩:∃ N:Nat,s.parts=N:=⟨s.parts.toNat,by omega⟩
   show Cv F.z25 #[(row[s.by_.toNat]'hlt).val,.int .i64 s.parts] w2.drew _
   rw [hN]
   refine Ca.rspread_spec (List.all_eq_true.1 hok.1.2.1 _ (List.getElem_mem hlt)) (hok.2 _ (List.getElem_mem hlt)) (by omega) fun w3 hu3=>⟨_,rfl,by simpa using hu3.cell hc fun f=>f,?_⟩
   rw [← hN,← hpo]
   have hu13:=hud.then hu3
   refine ifB_mk (fun he=>?_) (fun he=>scan_next (Q:=fun k=>∀ e∈parts.take k,e≠partOf s row) hkn (by omega) hu13 (forall_take hkp hq (by simpa using he)))
   have e:parts[k]=partOf s row:=by simpa using he
   have:=hK w3 (hu1.then hu13)
   unfold inP at this
   rw [decide_eq_true (show partOf s row∈parts by rw [← e]; exact List.getElem_mem hkp),Bool.or_true] at this
   exact this
  ·have hkn:k=pn:=by have:=of_decide_eq_false hx; omega
   rw [List.take_of_length_le (by omega)] at hq
   have:=hK w2 hu02
   unfold inP at this
   rw [decide_eq_false (show ¬ partOf s row∈parts from fun h=>hq _ h rfl),Bool.or_false] at this
   have e:((pn:Int) == 0)=decide (parts=[]):=by
    rw [Bool.eq_iff_iff,beq_iff_eq,decide_eq_true_iff,← List.length_eq_zero_iff]
    omega
   rw [e]
   exact this)
end
end Tb
end Go.Proofs.YtjcgociobhhijaaGreatDoor
