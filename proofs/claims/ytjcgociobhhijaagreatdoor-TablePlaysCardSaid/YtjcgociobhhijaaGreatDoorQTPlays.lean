/- Proved: 'affluxlaw09.TablePlays' returns true for every input, and its arguments read behind the call as they did; the library's tables that the row lists hold what the program's text lays (the card ties them). -/
import Derived.Test.YtjcgociobhhijaaGreatDoorCards
import Derived.Test.YtjcgociobhhijaaGreatDoorTie
import Derived.Test.YtjcgociobhhijaaGreatDoorQf
import Derived.Test.YtjcgociobhhijaaGreatDoorQd
set_option linter.unusedVariables false
set_option linter.unusedSimpArgs false
set_option maxRecDepth 100000
namespace Go.Proofs.YtjcgociobhhijaaGreatDoor
open Go SX Go.ChangeShapes Go.WideShapes Go.ChangeAt Go.RowKit Va Cd Sc Tb
namespace TPlays
theorem walk {s:Schm} {v:Value} {lp:Option Addr} {ln lc:Nat} {la:List Tb.Act} {ask:ByteArray} {w:World} {K:Value→World→Prop} (hM:MX w) (hs:SchEx w s v) (ha:ActsAt w w lp ln la) (hwf:∀ x∈la,x.wf) (hK:∀ w',Upd Nothing w w'→K (.bool true) w') :
  Cv F.z0 #[v,.slice lp ln lc,.string ask] w K:=by
 have hs0:=hs
 obtain ⟨cp,cc,ip,ic,rfl,hcols,hcc,hixs,hic⟩:=hs
 refine R.z0 ?_
 unfold C.z0
 have haw:∀ w1,Upd Nothing w w1→Cv F.z4 #[] w1 (fun v w2=>∃ r:Bool,v = .bool r∧K (.bool r) w2):=fun w1 hu1=>awake9_spec (hM.upd0 hu1) fun w2 hu2=>⟨true,rfl,hK _ (hu1.then hu2)⟩
 refine New.use (by simp [Value.oneCell']) fun g1 w1 hb1 hu1 hge1 hlt1=>?_
 have hS:=fun w' (hu:Upd Nothing w1 w')=>hu.blk hb1 fun f=>f
 refine ⟨fun w'=>Upd Nothing w1 w'∧Small s∧la.length≤40∧∀ x∈la,x.small,?_,?_⟩
 ·refine ⟨_,_,_,_,_,_,_,_,_,_,six_cells hb1,great9_spec hs0 hu1 ha fun b w2 hb hu2=>⟨_,rfl,ifB_mk (fun _=>haw w2 (hu1.then hu2)) (fun hg=>ifB_mk (fun _=>haw w2 (hu1.then hu2)) (fun _=>?_))⟩⟩
  exact awake9_spec (hM.upd0 (hu1.then hu2)) fun w3 hu3=>⟨_,rfl,ifB_mk (fun h=>by cases h) (fun _=>⟨hu2.then hu3,hb hg⟩)⟩
 rintro w7 ⟨hu7,hsm,hl40,hsmall⟩
 have hu07:=hu1.then hu7
 have hlen:=ha.2
 refine ⟨_,_,_,_,_,_,_,_,_,_,six_cells (hS _ hu7),rright3_spec (s:=s) ((hs0.upd0 hu07).at hsm) fun b6 w8 hb6 hu8=>⟨_,rfl,?_⟩⟩
 have hu18:=hu7.then hu8
 have hu08:=hu1.then hu18
 refine ifB_mk (fun hx=>?_) (fun hx=>?_)
 ·have hn:¬ s.Right:=fun h'=>by rw [hb6.2 h'] at hx; cases hx
  exact ⟨_,_,_,_,_,_,_,_,_,_,six_cells (hS _ hu18),tnew_spec (hs0.upd0 hu08) hsm (fun w9 _ hu9=>⟨_,_,rfl,ifB_mk (fun _=>hK w9 (hu08.then hu9)) (fun h=>by cases h)⟩) (fun t w9 ht _ _ _=>absurd ht.right hn)⟩
 have hright:=hb6.1 (by simpa using hx)
 refine ⟨_,_,_,_,_,_,_,_,_,_,six_cells (hS _ hu18),play_spec hM hu08 hs0 hright hsm ha (by omega) hwf hsmall fun t p n c w10 hPl hu10=>⟨_,_,_,_,_,_,_,_,_,_,_,_,_,_,_,rfl,New.use (by simp [Value.oneCell']) fun g2 w11 hb2 hu11 hge2 hl2=>set_seven rfl rfl rfl rfl rfl rfl rfl hb2 fun w18 hb18 hu18'=>?_⟩⟩
 have hg2:w.heap.size≤g2:=by have:=(hu08.then hu10).size; omega
 have hu1018:Upd Nothing w10 w18:=hu11.fresh hu18' fun i hi=>by rw [show i=g2 from hi]; exact hge2
 have hu118:Upd Nothing w1 w18:=(hu18.then hu10).then hu1018
 have hPl18:=((hPl.upd0 hu11).one hb2 hg2 hu18').upd0 (Upd.drew Nothing _)
 have hb18d:=hb18.drew
 have hrs:∀ r∈t.rs,Pt.RowOk s r:=hPl18.tab.inv.ok
 have hn1000:=hPl18.dc.n1000
 have hln:=hPl18.dc.len
 refine ⟨fun w'=>Upd Nothing w18.drew w',ifB_mk (fun h=>by cases h) (fun _=>?_),?_⟩
 ·refine ⟨_,_,_,_,_,_,_,_,_,_,six_cells (hS _ (hu118.then (Upd.drew _ _))),tschema_spec hPl18.tab fun v9 w19 hv9 hu19=>?_⟩
  have hv9':=hv9
  obtain ⟨cp9,cc9,ip9,ic9,rfl,_⟩:=hv9
  have hu119:=(hu118.then (Upd.drew _ _)).then hu19
  refine ⟨_,_,_,_,_,_,_,_,_,_,rfl,six_cells (hS _ hu119),rsame3_spec hv9'.if (hs0.upd0 (hu1.then hu119)).if (by have:=hsm.1; omega) (by have:=hsm.2.1; omega) (fun x hx=>by have:=hsm.2.2 x hx; omega) fun b w20 hb hu20=>⟨_,rfl,?_⟩⟩
  have e:b=true:=hb.2 rfl
  subst e
  have hu1820:=hu19.then hu20
  refine ifB_mk (fun h=>by cases h) (fun _=>⟨_,_,_,(hu1820.blk hb18d fun f=>f).cell (i:=6) rfl,trows_spec (parts:=[]) (hPl18.upd0 hu1820).tab (At.nil _ _) rfl (by omega) fun rp rc w21 ho hu21 _=>⟨_,_,_,rfl,?_⟩⟩)
  rw [filter_rows] at ho ⊢
  have hu1821:=hu1820.then hu21
  have hPl21:=hPl18.upd0 hu1821
  refine ⟨(hu1821.blk hb18d fun f=>f).cell (i:=6) rfl,all_rows hPl21 ho fun w22 hu22=>⟨_,rfl,ifB_mk (fun h=>by cases h) (fun _=>?_)⟩⟩
  have hu1822:=hu1821.then hu22
  refine ⟨_,_,_,(hu1822.blk hb18d fun f=>f).cell (i:=6) rfl,tbytes_spec (hPl18.upd0 hu1822).tab fun w23 hu23=>⟨_,rfl,?_⟩⟩
  have hu1823:=hu1822.then hu23
  have hPl23:=hPl18.upd0 hu1823
  refine ⟨(hu1823.blk hb18d fun f=>f).cell (i:=6) rfl,rrows_lay (hPl23.dc.mdl.plain hPl23.hW) hln (by omega) (fun r hr=>by have:=hPl23.small hr; omega) (fun r hr=>(hrs r hr).2) fun w24 hu24=>⟨_,rfl,?_⟩⟩
  exact ifB_mk (fun h=>by rw [sEq_self] at h; cases h) (fun _=>hu1823.then hu24)
 rintro w25 hu25
 refine ⟨fun i w'=>∃ k:Nat,i=k∧k≤n∧Upd Nothing w18.drew w',fun i _=>n - i.toNat,⟨0,rfl,by omega,hu25⟩,?_⟩
 rintro i w26 ⟨k,rfl,hk,hu26⟩
 have hb26:=hu26.blk hb18d fun f=>f
 have hPl26:=hPl18.upd0 hu26
 refine ⟨_,_,_,hb26.cell (i:=6) rfl,ifB_mk (fun hx=>?_) (fun hx=>?_)⟩
 ·have hkn:k < n:=by have:=of_decide_eq_true hx; omega
  have hkl:k < t.rs.length:=by omega
  have hmem:=List.getElem_mem hkl
  obtain ⟨a,q,m,d,haa,hc,hr,hd⟩:=hPl26.dc.mdl.get hkl
  have hsm12:=hPl26.small hmem
  have hm12:m≤12:=by rw [← hr.2]; exact hsm12
  refine ⟨_,_,_,hb26.cell (i:=6) rfl,a,haa,by omega,by omega,_,_,_,hc,tkey_spec hPl26.mx hPl26.tab (hr.1.upd0 hPl26.hW) hr.2 (by omega) (fun w27 hn _=>absurd (hrs _ hmem).1 hn) (fun w27 _ hu27=>⟨_,_,rfl,?_⟩)⟩
  have hPl27:=hPl26.upd0 hu27
  refine own_row hPl27 hmem fun rp rc w28 ho28 hu28=>⟨_,_,_,_,rfl,ifB_mk (fun h=>by cases h) (fun _=>ifB_mk (fun h=>by cases h) (fun _=>?_))⟩
  have hPl28:=hPl27.upd0 hu28
  have hu2628:=hu27.then hu28
  refine ⟨_,_,_,((hu26.then hu2628).blk hb18d fun f=>f).cell (i:=6) rfl,a,haa,by omega,by omega,_,_,_,hu2628.cell hc fun f=>f,same_row ho28.at rfl (by omega) (hr.1.upd0 hPl28.hW) hr.2 fun w29 hu29=>⟨_,rfl,ifB_mk (fun h=>by cases h) (fun _=>?_)⟩⟩
  rw [i64_wrap (by omega) (by omega)]
  exact ⟨⟨k+1,by omega,by omega,(hu26.then hu2628).then hu29⟩,by show n - _ < n - _; omega⟩
 ·have hu026:Upd Nothing w w26:=hPl26.hW
  have fin:∀ (rp:Option Addr) (rn rc:Nat) (o:Bool) (w30:World),Upd Nothing w26 w30→((o=false∧rn=0∧∀ r∈t.rs,Pt.kx s 0 r≠ask)∨(o=true∧∃ r∈t.rs,Pt.kx s 0 r=ask))→
    ∃ (xSName1:ByteArray) (xSCols1p:Option Addr) (xSCols1n xSCols1c:Nat) (xSIndexes1p:Option Addr) (xSIndexes1n xSIndexes1c:Nat) (xSLimit1:Int) (xSParts1:Int) (xSBy1:Int) (xRows1p:Option Addr) (xRows1n xRows1c:Nat),
    SX.cellsAt w30 (Addr.mk g2 0 none) 0 [.string xSName1,.slice xSCols1p xSCols1n xSCols1c,.slice xSIndexes1p xSIndexes1n xSIndexes1c,.int .i64 xSLimit1,.int .i64 xSParts1,.int .i64 xSBy1,.slice xRows1p xRows1n xRows1c]∧
    Cv F.z45 #[.agg #[.string xSName1,.slice xSCols1p xSCols1n xSCols1c,.slice xSIndexes1p xSIndexes1n xSIndexes1c,.int .i64 xSLimit1,.int .i64 xSParts1,.int .i64 xSBy1,.slice xRows1p xRows1n xRows1c],.string ask] w30 (fun v19 wv31=>
     ∃ (r13:Int),
     v19 = .int .i64 r13∧
     ifB (o == (decide ((0:Int)≤r13))) (
      ifB o (
       K (.bool true) wv31) (
       K (.bool (((rn:Nat):Int) == (0:Int))) wv31)) (
      K (.bool false) wv31)):=by
   intro rp rn rc o w30 hu30 hcase
   have hPl30:=hPl26.upd0 hu30
   refine ⟨_,_,_,_,_,_,_,_,_,_,_,_,_,seven_cells (hu30.blk hb26 fun f=>f),mfind_spec hPl30.hW hs0 hright hsm hPl30.dc.mdl (by omega) hPl30.dc.fits fun i w31 hfi hu31=>⟨_,rfl,?_⟩⟩
   have hu031:=(hu026.then hu30).then hu31
   rcases hcase with ⟨rfl,rfl,hall⟩ | ⟨rfl,r,hr,he⟩
   ·rcases hfi with ⟨rfl,_⟩ | ⟨k,hk,rfl,hke⟩
    ·exact ifB_mk (fun _=>ifB_mk (fun h=>by cases h) (fun _=>hK w31 hu031)) (fun h=>by cases h)
    ·exact absurd hke (hall _ (List.getElem_mem hk))
   ·rcases hfi with ⟨rfl,hno⟩ | ⟨k,hk,rfl,hke⟩
    ·exact absurd he (hno r hr)
    ·refine ifB_mk (fun _=>ifB_mk (fun _=>hK w31 hu031) (fun h=>by cases h)) (fun h=>?_)
     rw [decide_eq_true (show (0:Int)≤(k:Int) by omega)] at h
     cases h
  exact get_row hPl26.tab (fun p c w30 hno hu30=>⟨_,_,_,_,rfl,fin p 0 c false w30 hu30 (.inl ⟨rfl,rfl,hno⟩)⟩) (fun r p c w30 hr hk ho hu30 _=>⟨_,_,_,_,rfl,fin p _ c true w30 hu30 (.inr ⟨rfl,r,hr,hk⟩)⟩)
theorem own:ownKnob Tryz.prog.godebug=none:=by kernel_rfl
theorem laid:laidOutB Tryz.prog=true:=by kernel_rfl
theorem lifted (os:Os) (started:os.Started) (H:Type) (enc:TypeId×Value→H) :
  ReturnsInHanded {} Tryz.checked os 9 .any (fun w args=>(Rows.tablePlaysSpec.pre enc Tryz.prog Tryz.f9 [] false w args∧laidMetH Tryz.prog laid2 w)∧sizedMet enc Tryz.prog Tryz.f9 (OpenSpec.ofChange Rows.tablePlaysSpec) false w args)
   (Rows.tablePlaysSpec.post enc Tryz.prog Tryz.f9 false true false false):=by
 refine returns_and_shaped (C:=Tryz.checked) (X:=fun w _=>laidMetH Tryz.prog laid2 w) (fun _ _ _ hh h=>h.of_heap hh) own started (by kernel_rfl) Tryz.func9
  (ChangeSpec.witness_at (enc:=enc) (C:=Tryz.checked) (os:=os) (X:=fun w _=>laidMetH Tryz.prog laid2 w) false (laidWorld os) #[.agg #[.string ByteArray.empty,.slice none 0 0,.slice none 0 0,.int .i64 0,.int .i64 0,.int .i64 0],.slice none 0 0,.string ByteArray.empty] 8 rfl (by kernel_rfl) (by kernel_rfl) (by kernel_rfl) (by kernel_rfl) (by kernel_rfl) (laidWorld_met os _)) ?_
 intro W base args ds gs before hval0 hW hsh
 have hM:Va.MX W:=maxlen_of_shaped hsh
 have hval:∀ (j:Nat) t v,Tryz.f9.params[j]? = some t→args[j]? = some v→Value.okWide Tryz.prog W .any base t v:=hval0
 have hW':=hW
 obtain ⟨p,q,hA0,hV,rfl,hfz,hnd⟩:=hW
 have hA:DataW.TrodAll enc Tryz.prog W 0 (fun _=>true) true Tryz.f9.params.toList args.toList ds p:=hA0
 rw [Tryz.params9] at hA hval
 obtain ⟨v0,vs0,d0,ds0,p0,q0,hargs,rfl,rfl,h0,r0⟩:=trodAll_cons hA
 obtain ⟨v1,vs1,d1,ds1,p1,q1,rfl,rfl,rfl,h1,r1⟩:=trodAll_cons r0
 obtain ⟨v2,vs2,d2,ds2,p2,q2,rfl,rfl,rfl,h2,r2⟩:=trodAll_cons r1
 obtain ⟨rfl,rfl,rfl⟩:=trodAll_nil r2
 obtain rfl:args = #[v0,v1,v2]:=by cases args; simp_all
 obtain ⟨s,cps,ccs,ips,ics,ess,hcolss,hccs,hccms,hixss,hics,hicms,hsms⟩:=rd_sch (Rd.of_trod h0)
 have evs:=arg_struct Tryz.underlying25 (hval 0 25 v0 rfl rfl) ess
 subst evs
 have hsxs:SchEx W s _:=⟨cps,ccs,ips,ics,rfl,hcolss,hccs,hixss,hics⟩
 obtain ⟨lp,ln,lc,la,elp,hle,ha,hwf⟩:=rd_acts (Rd.of_trod h1)
 obtain rfl:=Rd.arg Tryz.underlying26 rfl (hval 1 26 v1 rfl rfl) elp
 obtain ⟨ask,eask,wfask⟩:=(Rd.of_trod h2).str Tryz.underlying9
 obtain rfl:=Rd.arg Tryz.underlying9 rfl (hval 2 9 v2 rfl rfl) eask
 refine ((walk (w:=W) (K:=fun v w'=>v = .bool true∧Upd Nothing W w') hM hsxs ha hwf fun w' hu=>⟨rfl,hu⟩).back Tryz.func9 (by kernel_rfl) (by kernel_rfl)).mono fun e W' ⟨v,he,hv,hu⟩=>?_
 subst he; subst hv
 exact ⟨_,rfl,law_post (tb:=4) laid (by kernel_rfl) hW' rfl rfl (by kernel_rfl) Tryz.underlying4 hu⟩
theorem row:Rows.TablePlaysSaid:=
 OpenClaim.holds_of_wide 9 Tryz.f9 rfl rfl rfl rfl rfl rfl rfl ⟨rfl,rfl,rfl,rfl,rfl⟩ rfl rfl rfl rfl rfl (by kernel_rfl) Tryz.func9 (by kernel_rfl)
  (of_decide_eq_true (by kernel_rfl)) (by unfold Func.isWrapper; first | (rw [if_pos (by decide +kernel)]; kernel_rfl) | (rw [if_neg (by decide +kernel)]; exact ⟨rfl,rfl⟩))
  (fun os started H enc _=>lifted os started H enc)
theorem over:Rows.TablePlaysCardSaid:=
 Claim7.holds_tied_plain_at .later [] [.data,.pinned] true (true,"e827eb7d9dc74149675413fa3376f07fa26dafbb914b0e2785aa856a10c5615b") false
  row (fun _ h=>by cases h) (by kernel_rfl) (fun _ h=>by cases h) tablePlays_row_tie rfl ⟨rfl,rfl⟩ (by kernel_rfl) rfl
  (fun f fn hf hfn=>by
   obtain rfl:f=9:=Option.some.inj ((show Tryz.prog.funcNamed Rows.tablePlaysRow.func=some 9 by kernel_rfl).symm.trans hf) |>.symm
   obtain rfl:fn=Tryz.f9:=(Option.some.inj (Tryz.func9.symm.trans hfn)).symm
   refine ⟨by kernel_rfl,fun j t ht=>?_⟩
   have hall:(Tryz.f9.params.toList.all fun t=>!(Tryz.prog.wantsStandIn t))=true:=by kernel_rfl
   have hm:t∈Tryz.f9.params.toList:=by rw [Array.mem_toList_iff]; exact Array.mem_of_getElem? ht
   exact (show Tryz.prog.wantsStandIn t=false by simpa using List.all_eq_true.1 hall t hm))
  (by kernel_rfl)
#print axioms over
end TPlays
end Go.Proofs.YtjcgociobhhijaaGreatDoor
