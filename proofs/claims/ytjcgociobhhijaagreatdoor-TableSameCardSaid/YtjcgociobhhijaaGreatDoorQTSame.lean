/- Proved: 'affluxlaw09.TableSame' returns true for every input, and its arguments read behind the call as they did; the library's tables that the row lists hold what the program's text lays (the card ties them). -/
import Derived.Test.YtjcgociobhhijaaGreatDoorCards
import Derived.Test.YtjcgociobhhijaaGreatDoorTie
import Derived.Test.YtjcgociobhhijaaGreatDoorQf
import Derived.Test.YtjcgociobhhijaaGreatDoorQd
set_option linter.unusedVariables false
set_option linter.unusedSimpArgs false
set_option maxRecDepth 100000
namespace Go.Proofs.YtjcgociobhhijaaGreatDoor
open Go SX Go.ChangeShapes Go.WideShapes Go.ChangeAt Go.RowKit Va Cd Sc Tb
namespace TSame
theorem by_len {s:Schm} {i:Nat} {rs by_:List Row} (h:Pt.Inv s rs) (hby:Pt.ByL s i rs by_):by_.length=rs.length:=by
 have n1:by_.Nodup:=hby.1.imp fun {x y} hxy e=>by rw [e,sLt_irrefl] at hxy; cases hxy
 have n2:rs.Nodup:=h.srt.imp fun {x y} hxy e=>by rw [e,sLt_irrefl] at hxy; cases hxy
 have l1:=Pt.nodup_le n1 fun x hx=>(hby.2 x).1 hx
 have l2:=Pt.nodup_le n2 fun x hx=>(hby.2 x).2 hx
 omega
theorem scan_all {s:Schm} {i:Nat} {l:List Row} (hl:l.length≤2000):scanOf s i (bs []) (bs []) 2000 l=l:=by
 unfold scanOf
 rw [List.filter_eq_self.2 fun r hr=>?_,List.filter_eq_self.2 fun r hr=>?_,List.take_of_length_le (by omega)]
 ·unfold Ts.nx
  rw [if_pos rfl,sLt_nil]
  rfl
 ·unfold Ts.toB
  rw [sEq_self]
  rfl
theorem walk {s:Schm} {v:Value} {lp:Option Addr} {ln lc:Nat} {la:List Tb.Act} {w:World} {K:Value→World→Prop} (hM:MX w) (hs:SchEx w s v) (ha:ActsAt w w lp ln la) (hwf:∀ x∈la,x.wf) (hK:∀ w',Upd Nothing w w'→K (.bool true) w') :
  Cv F.z1 #[v,.slice lp ln lc] w K:=by
 have hs0:=hs
 obtain ⟨cp,cc,ip,ic,rfl,hcols,hcc,hixs,hic⟩:=hs
 refine R.z1 ?_
 unfold C.z1
 have haw:∀ w1,Upd Nothing w w1→Cv F.z4 #[] w1 (fun v w2=>∃ r:Bool,v = .bool r∧K (.bool r) w2):=fun w1 hu1=>awake9_spec (hM.upd0 hu1) fun w2 hu2=>⟨true,rfl,hK _ (hu1.then hu2)⟩
 refine New.use (by simp [Value.oneCell']) fun g1 w1 hb1 hu1 hge1 hlt1=>?_
 have hS:=fun w' (hu:Upd Nothing w1 w')=>hu.blk hb1 fun f=>f
 refine ⟨fun w'=>Upd Nothing w1 w'∧s.Right∧Small s∧la.length≤40∧∀ x∈la,x.small,?_,?_⟩
 ·refine ⟨_,_,_,_,_,_,_,_,_,_,six_cells hb1,great9_spec hs0 hu1 ha fun b w2 hb hu2=>⟨_,rfl,ifB_mk (fun _=>haw w2 (hu1.then hu2)) (fun hg=>?_)⟩⟩
  have hsm:=(hb hg).1
  refine ⟨_,_,_,_,_,_,_,_,_,_,six_cells (hS _ hu2),rright3_spec (s:=s) ((hs0.upd0 (hu1.then hu2)).at hsm) fun b6 w4 hb6 hu4=>⟨_,rfl,ifB_mk (fun _=>haw w4 (hu1.then (hu2.then hu4))) (fun hx=>?_)⟩⟩
  exact awake9_spec (hM.upd0 (hu1.then (hu2.then hu4))) fun w5 hu5=>⟨_,rfl,ifB_mk (fun h=>by cases h) (fun _=>⟨(hu2.then hu4).then hu5,hb6.1 (by simpa using hx),hb hg⟩)⟩
 rintro w8 ⟨hu18,hright,hsm,hl40,hsmall⟩
 have hu08:=hu1.then hu18
 have hlen:=ha.2
 refine ⟨_,_,_,_,_,_,_,_,_,_,six_cells (hS _ hu18),play_spec hM hu08 hs0 hright hsm ha (by omega) hwf hsmall fun t p n c w9 hPl hu9=>⟨_,_,_,_,_,_,_,_,_,_,_,_,_,_,_,rfl,New.use (by simp [Value.oneCell']) fun g2 w10 hb2 hu10 hge2 hl2=>set_seven rfl rfl rfl rfl rfl rfl rfl hb2 fun w17 hb17 hu17=>ifB_mk (fun h=>by cases h) (fun _=>?_)⟩⟩
 have hg2:w.heap.size≤g2:=by have:=(hu08.then hu9).size; omega
 have hu917:Upd Nothing w9 w17:=hu10.fresh hu17 fun i hi=>by rw [show i=g2 from hi]; exact hge2
 have hu117:Upd Nothing w1 w17:=(hu18.then hu9).then hu917
 have hPl17:=(hPl.upd0 hu10).one hb2 hg2 hu17
 have ht:=hPl17.tab
 have hil:=ht.il
 have hnr:=ht.nrows
 have hi4:=ht.nix
 refine ⟨fun i w'=>∃ k:Nat,i=k∧k≤s.ixs.length∧Upd Nothing w17 w',fun i _=>s.ixs.length - i.toNat,⟨0,rfl,by omega,Upd.refl _ _⟩,?_⟩
 rintro i w18 ⟨k,rfl,hk,hu1718⟩
 have hu118:=hu117.then hu1718
 refine ⟨_,_,_,(hS _ hu118).cell (i:=2) rfl,ifB_mk (fun hx=>?_) (fun hx=>hK w18 (hu1.then hu118))⟩
 have hkn:k < s.ixs.length:=by have:=of_decide_eq_true hx; omega
 have hPl18:=hPl17.upd0 hu1718
 obtain ⟨by_,hby⟩:=Pt.ByL.ex hPl18.tab.inv hright hkn (hPl18.tab.ixl k (by omega))
 have hbl:=by_len hPl18.tab.inv hby
 have hnr':(Pt.rowsOf t.t).length≤1000:=hnr
 refine scan_spec hPl18.tab hkn hby fun rp rn rc w19 ho hu19 _=>⟨_,_,_,rfl,?_⟩
 rw [scan_all (by omega)] at ho
 have hrl:=ho.len
 have hPl19:=hPl18.upd0 hu19
 refine tlen_spec hPl19.tab ⟨_,rfl,ifB_mk (fun hne=>?_) (fun _=>?_)⟩
 ·have e:((rn:Nat):Int)=(t.rs.length:Int):=by rw [← hrl,hbl]
  rw [e] at hne
  simp at hne
 refine ⟨fun j w'=>∃ x:Nat,j=x∧x≤rn∧Upd Nothing w19 w',fun j _=>rn - j.toNat,⟨0,rfl,by omega,Upd.refl _ _⟩,?_⟩
 rintro j w21 ⟨x,rfl,hxr,hu21⟩
 have hPl21:=hPl19.upd0 hu21
 refine ifB_mk (fun hy=>?_) (fun hy=>?_)
 ·have hxn:x < rn:=by have:=of_decide_eq_true hy; omega
  have hxl:x < by_.length:=by omega
  have hmem:by_[x]∈t.rs:=(hby.2 _).1 (List.getElem_mem hxl)
  obtain ⟨a,q,m,d,haa,hc,hat,hml,hmd⟩:=(ho.upd0 hu21).plain x hxl
  have h12:=hPl21.small hmem
  refine ⟨a,haa,by omega,by omega,_,_,_,by simpa using hc,tkey_spec hPl21.mx hPl21.tab hat hml (by omega) (fun w22 hn _=>absurd (hPl21.tab.inv.ok _ hmem).1 hn) (fun w22 _ hu22=>⟨_,_,rfl,?_⟩)⟩
  have hPl22:=hPl21.upd0 hu22
  refine own_row hPl22 hmem fun gp gc w23 ho23 hu23=>⟨_,_,_,_,rfl,ifB_mk (fun h=>by cases h) (fun _=>ifB_mk (fun h=>by cases h) (fun _=>?_))⟩
  have hu2123:=hu22.then hu23
  refine ⟨a,haa,by omega,by omega,_,_,_,by simpa using hu2123.cell hc fun f=>f,same_row ho23.at rfl (by omega) (hat.upd0 hu2123) hml fun w24 hu24=>⟨_,rfl,ifB_mk (fun h=>by cases h) (fun _=>?_)⟩⟩
  rw [i64_wrap (by omega) (by omega)]
  exact ⟨⟨x+1,by omega,by omega,(hu21.then hu2123).then hu24⟩,by show rn - _ < rn - _; omega⟩
 ·rw [i64_wrap (by omega) (by omega)]
  exact ⟨⟨k+1,by omega,by omega,(hu1718.then hu19).then hu21⟩,by show s.ixs.length - _ < s.ixs.length - _; omega⟩
theorem own:ownKnob Tryz.prog.godebug=none:=by kernel_rfl
theorem laid:laidOutB Tryz.prog=true:=by kernel_rfl
theorem lifted (os:Os) (started:os.Started) (H:Type) (enc:TypeId×Value→H) :
  ReturnsInHanded {} Tryz.checked os 5 .any (fun w args=>(Rows.tableSameSpec.pre enc Tryz.prog Tryz.f5 [] false w args∧laidMetH Tryz.prog laid2 w)∧sizedMet enc Tryz.prog Tryz.f5 (OpenSpec.ofChange Rows.tableSameSpec) false w args)
   (Rows.tableSameSpec.post enc Tryz.prog Tryz.f5 false true false false):=by
 refine returns_and_shaped (C:=Tryz.checked) (X:=fun w _=>laidMetH Tryz.prog laid2 w) (fun _ _ _ hh h=>h.of_heap hh) own started (by kernel_rfl) Tryz.func5
  (ChangeSpec.witness_at (enc:=enc) (C:=Tryz.checked) (os:=os) (X:=fun w _=>laidMetH Tryz.prog laid2 w) false (laidWorld os) #[.agg #[.string ByteArray.empty,.slice none 0 0,.slice none 0 0,.int .i64 0,.int .i64 0,.int .i64 0],.slice none 0 0] 8 rfl (by kernel_rfl) (by kernel_rfl) (by kernel_rfl) (by kernel_rfl) (by kernel_rfl) (laidWorld_met os _)) ?_
 intro W base args ds gs before hval0 hW hsh
 have hM:Va.MX W:=maxlen_of_shaped hsh
 have hval:∀ (j:Nat) t v,Tryz.f5.params[j]? = some t→args[j]? = some v→Value.okWide Tryz.prog W .any base t v:=hval0
 have hW':=hW
 obtain ⟨p,q,hA0,hV,rfl,hfz,hnd⟩:=hW
 have hA:DataW.TrodAll enc Tryz.prog W 0 (fun _=>true) true Tryz.f5.params.toList args.toList ds p:=hA0
 rw [Tryz.params5] at hA hval
 obtain ⟨v0,vs0,d0,ds0,p0,q0,hargs,rfl,rfl,h0,r0⟩:=trodAll_cons hA
 obtain ⟨v1,vs1,d1,ds1,p1,q1,rfl,rfl,rfl,h1,r1⟩:=trodAll_cons r0
 obtain ⟨rfl,rfl,rfl⟩:=trodAll_nil r1
 obtain rfl:args = #[v0,v1]:=by cases args; simp_all
 obtain ⟨s,cps,ccs,ips,ics,ess,hcolss,hccs,hccms,hixss,hics,hicms,hsms⟩:=rd_sch (Rd.of_trod h0)
 have evs:=arg_struct Tryz.underlying25 (hval 0 25 v0 rfl rfl) ess
 subst evs
 have hsxs:SchEx W s _:=⟨cps,ccs,ips,ics,rfl,hcolss,hccs,hixss,hics⟩
 obtain ⟨lp,ln,lc,la,elp,hle,ha,hwf⟩:=rd_acts (Rd.of_trod h1)
 obtain rfl:=Rd.arg Tryz.underlying26 rfl (hval 1 26 v1 rfl rfl) elp
 refine ((walk (w:=W) (K:=fun v w'=>v = .bool true∧Upd Nothing W w') hM hsxs ha hwf fun w' hu=>⟨rfl,hu⟩).back Tryz.func5 (by kernel_rfl) (by kernel_rfl)).mono fun e W' ⟨v,he,hv,hu⟩=>?_
 subst he; subst hv
 exact ⟨_,rfl,law_post (tb:=4) laid (by kernel_rfl) hW' rfl rfl (by kernel_rfl) Tryz.underlying4 hu⟩
theorem row:Rows.TableSameSaid:=
 OpenClaim.holds_of_wide 5 Tryz.f5 rfl rfl rfl rfl rfl rfl rfl ⟨rfl,rfl,rfl,rfl,rfl⟩ rfl rfl rfl rfl rfl (by kernel_rfl) Tryz.func5 (by kernel_rfl)
  (of_decide_eq_true (by kernel_rfl)) (by unfold Func.isWrapper; first | (rw [if_pos (by decide +kernel)]; kernel_rfl) | (rw [if_neg (by decide +kernel)]; exact ⟨rfl,rfl⟩))
  (fun os started H enc _=>lifted os started H enc)
theorem over:Rows.TableSameCardSaid:=
 Claim7.holds_tied_plain_at .later [] [.data,.pinned] true (true,"e827eb7d9dc74149675413fa3376f07fa26dafbb914b0e2785aa856a10c5615b") false
  row (fun _ h=>by cases h) (by kernel_rfl) (fun _ h=>by cases h) tableSame_row_tie rfl ⟨rfl,rfl⟩ (by kernel_rfl) rfl
  (fun f fn hf hfn=>by
   obtain rfl:f=5:=Option.some.inj ((show Tryz.prog.funcNamed Rows.tableSameRow.func=some 5 by kernel_rfl).symm.trans hf) |>.symm
   obtain rfl:fn=Tryz.f5:=(Option.some.inj (Tryz.func5.symm.trans hfn)).symm
   refine ⟨by kernel_rfl,fun j t ht=>?_⟩
   have hall:(Tryz.f5.params.toList.all fun t=>!(Tryz.prog.wantsStandIn t))=true:=by kernel_rfl
   have hm:t∈Tryz.f5.params.toList:=by rw [Array.mem_toList_iff]; exact Array.mem_of_getElem? ht
   exact (show Tryz.prog.wantsStandIn t=false by simpa using List.all_eq_true.1 hall t hm))
  (by kernel_rfl)
#print axioms over
end TSame
end Go.Proofs.YtjcgociobhhijaaGreatDoor
