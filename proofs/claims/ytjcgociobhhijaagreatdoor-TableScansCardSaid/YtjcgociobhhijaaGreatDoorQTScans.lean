/- Proved: 'affluxlaw09.TableScans' returns true for every input, and its arguments read behind the call as they did; the library's tables that the row lists hold what the program's text lays (the card ties them). -/
import Derived.Test.YtjcgociobhhijaaGreatDoorCards
import Derived.Test.YtjcgociobhhijaaGreatDoorTie
import Derived.Test.YtjcgociobhhijaaGreatDoorQf
import Derived.Test.YtjcgociobhhijaaGreatDoorQd
set_option linter.unusedVariables false
set_option linter.unusedSimpArgs false
set_option maxRecDepth 100000
namespace Go.Proofs.YtjcgociobhhijaaGreatDoor
open Go SX Go.ChangeShapes Go.WideShapes Go.ChangeAt Go.RowKit Va Cd Sc Tb
namespace TScans
/-- What is wanted of the first rows. -/
def wantOf (P:Row→Bool) (most:Int) (l:List Row) (k:Nat):List Row:=((l.take k).filter P).take most.toNat
theorem want_yes {P:Row→Bool} {most:Int} {l:List Row} {k:Nat} (hk:k < l.length) (hp:P l[k]=true) (hm:((wantOf P most l k).length:Int) < most):wantOf P most l (k+1)=wantOf P most l k++[l[k]]:=by
 unfold wantOf at *
 rw [List.take_succ_eq_append_getElem hk,List.filter_append,List.filter_cons,if_pos hp,List.filter_nil]
 rw [List.length_take] at hm
 generalize (l.take k).filter P=fl at hm ⊢
 have h1:fl.take most.toNat=fl:=List.take_of_length_le (by omega)
 rw [h1]
 exact List.take_of_length_le (by simp; omega)
theorem want_full {P:Row→Bool} {most:Int} {l:List Row} {k:Nat} (hk:k < l.length) (hm:¬ ((wantOf P most l k).length:Int) < most):wantOf P most l (k+1)=wantOf P most l k:=by
 unfold wantOf at *
 rw [List.length_take] at hm
 rw [List.take_succ_eq_append_getElem hk,List.filter_append,List.take_append_of_le_length (by omega)]
theorem want_no {P:Row→Bool} {most:Int} {l:List Row} {k:Nat} (hk:k < l.length) (hp:P l[k]=false):wantOf P most l (k+1)=wantOf P most l k:=by
 unfold wantOf at *
 rw [List.take_succ_eq_append_getElem hk,List.filter_append,List.filter_cons,if_neg (by rw [hp]; decide)]
 simp
theorem walk {s : Schm} {v : Value} {lp : Option Addr} {ln lc : Nat} {la : List Tb.Act} {index most : Int} {fr tt : ByteArray} {w : World} {K : Value → World → Prop} (hM : MX w) (hs : SchEx w s v) (ha : ActsAt w w lp ln la) (hwf : ∀ x ∈ la, x.wf) (hK : ∀ w', Upd Nothing w w' → K (.bool true) w') :
    Cv F.z2 #[v, .slice lp ln lc, .int .i64 index, .string fr, .string tt, .int .i64 most] w K := by
  have hs0 := hs
  obtain ⟨cp, cc, ip, ic, rfl, hcols, hcc, hixs, hic⟩ := hs
  refine R.z2 ?_
  unfold C.z2
  have haw : ∀ w1, Upd Nothing w w1 → Cv F.z4 #[] w1 (fun v w2 => ∃ r : Bool, v = .bool r ∧ K (.bool r) w2) := fun w1 hu1 => awake9_spec (hM.upd0 hu1) fun w2 hu2 => ⟨true, rfl, hK _ (hu1.then hu2)⟩
  refine New.use (by simp [Value.oneCell']) fun g1 w1 hb1 hu1 hge1 hlt1 => ?_
  have hS := fun w' (hu : Upd Nothing w1 w') => hu.blk hb1 fun f => f
  refine ⟨fun w' => Upd Nothing w1 w' ∧ s.Right ∧ Small s ∧ la.length ≤ 40 ∧ ∀ x ∈ la, x.small, ?_, ?_⟩
  · refine ⟨_, _, _, _, _, _, _, _, _, _, six_cells hb1, great9_spec hs0 hu1 ha fun b w2 hb hu2 => ⟨_, rfl, ifB_mk (fun _ => haw w2 (hu1.then hu2)) (fun hg => ifB_mk (fun _ => haw w2 (hu1.then hu2)) (fun _ => ifB_mk (fun _ => haw w2 (hu1.then hu2)) (fun _ => ?_)))⟩⟩
    have hsm := (hb hg).1
    refine ⟨_, _, _, _, _, _, _, _, _, _, six_cells (hS _ hu2), rright3_spec (s := s) ((hs0.upd0 (hu1.then hu2)).at hsm) fun b6 w4 hb6 hu4 => ⟨_, rfl, ifB_mk (fun _ => haw w4 (hu1.then (hu2.then hu4))) (fun hx => ?_)⟩⟩
    exact awake9_spec (hM.upd0 (hu1.then (hu2.then hu4))) fun w5 hu5 => ⟨_, rfl, ifB_mk (fun h => by cases h) (fun _ => ⟨(hu2.then hu4).then hu5, hb6.1 (by simpa using hx), hb hg⟩)⟩
  rintro w8 ⟨hu18, hright, hsm, hl40, hsmall⟩
  have hu08 := hu1.then hu18
  have hlen := ha.2
  refine ⟨_, _, _, _, _, _, _, _, _, _, six_cells (hS _ hu18), play_spec hM hu08 hs0 hright hsm ha (by omega) hwf hsmall fun t p n c w9 hPl hu9 => ⟨_, _, _, _, _, _, _, _, _, _, _, _, _, _, _, rfl, New.use (by simp [Value.oneCell']) fun g2 w10 hb2 hu10 hge2 hl2 => set_seven rfl rfl rfl rfl rfl rfl rfl hb2 fun w17 hb17 hu17 => ifB_mk (fun h => by cases h) (fun _ => ?_)⟩⟩
  have hg2 : w.heap.size ≤ g2 := by have := (hu08.then hu9).size; omega
  have hu917 : Upd Nothing w9 w17 := hu10.fresh hu17 fun i hi => by rw [show i = g2 from hi]; exact hge2
  have hu117 : Upd Nothing w1 w17 := (hu18.then hu9).then hu917
  have hPl17 := (hPl.upd0 hu10).one hb2 hg2 hu17
  have ht := hPl17.tab
  have hnr := ht.nrows
  by_cases hin : 0 ≤ index ∧ index < (s.ixs.length : Int)
  case neg =>
    refine scan_none ht hin ⟨_, _, _, rfl, fun _ => False, ifB_mk (fun _ => hK w17 (hu1.then hu117)) (fun h0 => ⟨_, _, _, (hS _ hu117).cell (i := 2) rfl, ifB_mk (fun _ => hK w17 (hu1.then hu117)) (fun h1 => ?_)⟩), fun _ h => h.elim⟩
    have := of_decide_eq_false h0
    have := of_decide_eq_false h1
    exact absurd ⟨by omega, by omega⟩ hin
  obtain ⟨i, rfl⟩ : ∃ i : Nat, index = i := ⟨index.toNat, by omega⟩
  have hi : i < s.ixs.length := by omega
  obtain ⟨by_, hby⟩ := Pt.ByL.ex ht.inv hright hi (ht.ixl i (by have := ht.il; omega))
  refine scan_spec ht hi hby fun rp rn rc w20 ho hu20 hrf => ⟨_, _, _, rfl, fun w' => Upd Nothing w20 w', ifB_mk (fun h => by have := of_decide_eq_true h; omega) (fun _ => ⟨_, _, _, (hS _ (hu117.then hu20)).cell (i := 2) rfl, ifB_mk (fun h => by have := of_decide_eq_true h; omega) (fun _ => Upd.refl _ _)⟩), ?_⟩
  rintro w21 hu21
  have hu1721 := hu20.then hu21
  have hPl21 := hPl17.upd0 hu1721
  refine ⟨_, _, _, _, _, _, _, _, _, _, _, _, _, seven_cells (hu1721.blk hb17 fun f => f), mby_spec hPl21.dc hi fun bp bn bc by' w22 hm22 hby' hu22 => ⟨_, _, _, rfl, ?_⟩⟩
  have e : by' = by_ := Pt.ByL.len hby' hby fun x hx y hy he => ht.inv.dist hright hi hx hy he
  subst e
  have hu1722 := hu1721.then hu22
  have hPl22 := hPl21.upd0 hu22
  have hbn := hm22.len
  have hb1000 : by'.length ≤ 1000 := by
    have n1 : by'.Nodup := hby.1.imp fun {x y} hxy e => by rw [e, sLt_irrefl] at hxy; cases hxy
    have := Pt.nodup_le n1 fun x hx => (hby.2 x).1 hx
    have hnr' : (Pt.rowsOf t.t).length ≤ 1000 := hnr
    omega
  let P : Row → Bool := fun r => Ts.toB tt (ent s i r) && Ts.nx true fr (ent s i r)
  have hwl : ∀ k, (wantOf P most by' k).length ≤ k := fun k => by
    unfold wantOf
    rw [List.length_take]
    have := List.length_filter_le P (by'.take k)
    rw [List.length_take] at this
    omega
  refine ⟨fun wp wn wc x w' => ∃ k : Nat, x = k ∧ k ≤ bn ∧ MdlAt w w' wp wn wc (wantOf P most by' k) ∧ Upd Nothing w22 w' ∧ ∀ y, Fp wp wc y → w22.heap.size ≤ y, fun _ _ _ x _ => bn - x.toNat, ⟨0, rfl, by omega, by unfold wantOf; rw [List.take_zero, List.filter_nil, List.take_nil]; exact MdlAt.nil _ _, Upd.refl _ _, fun y hy => by have := hy.1; omega⟩, ?_⟩
  rintro wp wn wc x w23 ⟨k, rfl, hk, hw23, hu23, hf23⟩
  have hwn := hw23.len
  have hu1723 := hu1722.then hu23
  have hPl23 := hPl22.upd0 hu23
  refine ifB_mk (fun hx => ?_) (fun hx => ?_)
  · have hkn : k < bn := by have := of_decide_eq_true hx; omega
    have hkl : k < by'.length := by omega
    have hmem : by'[k] ∈ t.rs := (hby.2 _).1 (List.getElem_mem hkl)
    have hud : Upd Nothing w22 w23.drew := hu23.then (Upd.drew _ _)
    obtain ⟨a, q, m, d, haa, hc, hr, hd⟩ := (hm22.upd0 hud).get hkl
    have hPld := hPl23.upd0 (Upd.drew Nothing _)
    refine ⟨_, _, _, _, _, _, _, _, _, _, six_cells (hS _ (hu117.then (hu1723.then (Upd.drew _ _)))), a, haa, by omega, by omega, _, _, _, hc, ?_⟩
    refine rkey_spec hPld.hW hs0 hright hsm hi hr (ht.inv.ok _ hmem).1 fun w24 hu24 => ⟨_, rfl, ?_⟩
    have hu2224 := hud.then hu24
    have hw24 : MdlAt w w24 wp wn wc (wantOf P most by' k) := hw23.upd0 ((Upd.drew _ _).then hu24)
    have hmeas : bn - ((k + 1 : Nat) : Int).toNat < bn - (k : Int).toNat := by omega
    have hwr : IntKind.i64.wrap ((k : Int) + 1) = ((k + 1 : Nat) : Int) := by rw [i64_wrap (by omega) (by omega)]; omega
    rw [hwr]
    have keep : wantOf P most by' (k + 1) = wantOf P most by' k → (∃ k' : Nat, ((k + 1 : Nat) : Int) = k' ∧ k' ≤ bn ∧ MdlAt w w24 wp wn wc (wantOf P most by' k') ∧ Upd Nothing w22 w24 ∧ ∀ y, Fp wp wc y → w22.heap.size ≤ y) ∧ bn - ((k + 1 : Nat) : Int).toNat < bn - (k : Int).toNat := fun e => ⟨⟨k + 1, rfl, by omega, by rw [e]; exact hw24, hu2224, hf23⟩, hmeas⟩
    have more : P by'[k] = true → ((wn : Nat) : Int) < most → ∃ a2, bp = some a2 ∧ 0 ≤ (k : Int) ∧ (k : Int) < ((bn : Nat) : Int) ∧
                    ∃ (e2p : Option Addr) (e2n e2c : Nat),
                    w24.cell? (a2.add ((k : Int).toNat * 1)) = some (.slice e2p e2n e2c) ∧
                    ∀ b3 wv25, New w24 (.cells #[.slice e2p e2n e2c] T.s_api_Value) b3 wv25 →
                    BuiltV prog .append #[T.s_s_api_Value, T.s_s_api_Value] T.s_s_api_Value #[.slice wp wn wc, .slice (some (Addr.mk b3 0 none)) 1 1] wv25 (fun v13 wv26 =>
                      ∃ (a3p : Option Addr) (a3n a3c : Nat),
                      v13 = .slice a3p a3n a3c ∧
                      (∃ k' : Nat, ((k + 1 : Nat) : Int) = k' ∧ k' ≤ bn ∧ MdlAt w wv26 a3p a3n a3c (wantOf P most by' k') ∧ Upd Nothing w22 wv26 ∧ ∀ y, Fp a3p a3c y → w22.heap.size ≤ y) ∧ bn - ((k + 1 : Nat) : Int).toNat < bn - (k : Int).toNat) := fun hp hm => by
      have hwk := hwl k
      refine ⟨a, haa, by omega, by omega, _, _, _, hu24.cell hc fun f => f, app_in hw24 hr hd (by omega) fun p' c' w26 ho26 hu26 hf26 => ⟨_, _, _, rfl, ⟨k + 1, rfl, by omega, by rw [want_yes hkl hp (by rw [hwn]; exact hm)]; exact ho26, hu2224.fresh hu26 hf23, fun y hy => ?_⟩, hmeas⟩⟩
      rcases hf26 y hy with h | h
      · exact hf23 y h
      · exact Nat.le_trans hu2224.size h
    refine ifB_mk (fun h1 => ?_) (fun h1 => keep (want_no hkl ?_))
    · have hnx : Ts.nx true fr (ent s i by'[k]) = true := by unfold Ts.nx; rw [if_pos rfl]; exact h1
      refine ifB_mk (fun h2 => ?_) (fun h2 => ifB_mk (fun h3 => ?_) (fun h3 => keep (want_no hkl ?_)))
      · have hp : P by'[k] = true := by
          show (Ts.toB tt _ && Ts.nx true fr _) = true
          unfold Ts.toB
          rw [hnx, h2]
          rfl
        exact ifB_mk (fun h4 => more hp (of_decide_eq_true h4)) (fun h4 => keep (want_full hkl (by rw [hwn]; exact of_decide_eq_false h4)))
      · have hp : P by'[k] = true := by
          show (Ts.toB tt _ && Ts.nx true fr _) = true
          unfold Ts.toB
          rw [hnx]
          show (sEq tt (bs []) || sLt (Pt.kx s i by'[k]) tt) && true = true
          rw [h3, Bool.or_true]
          rfl
        exact ifB_mk (fun h4 => more hp (of_decide_eq_true h4)) (fun h4 => keep (want_full hkl (by rw [hwn]; exact of_decide_eq_false h4)))
      · show (Ts.toB tt _ && Ts.nx true fr _) = false
        unfold Ts.toB
        show ((sEq tt (bs []) || sLt (Pt.kx s i by'[k]) tt) && _) = false
        rw [h2, h3]
        rfl
    · have hnx : Ts.nx true fr (ent s i by'[k]) = false := by unfold Ts.nx; rw [if_pos rfl]; exact h1
      show (Ts.toB tt _ && Ts.nx true fr _) = false
      rw [hnx, Bool.and_false]
  · have hkn : k = bn := by have := of_decide_eq_false hx; omega
    subst hkn
    have hE : wantOf P most by' k = scanOf s i fr tt most by' := by
      unfold wantOf scanOf
      have e0 : by'.take k = by' := List.take_of_length_le (by omega)
      rw [e0, List.filter_filter]
    rw [hE] at hw23 hwn
    have ho23 := ho.upd0 ((hu21.then hu22).then hu23)
    have hrn := ho.len
    have hw1000 := hwl k
    rw [hE] at hw1000
    refine rsame4_spec ho23.plain hrn (hw23.plain hPl23.hW) hwn (by omega) (fun r hr => ?_) fun b w29 hb hu29 => ⟨_, rfl, ?_⟩
    · have h1 := List.mem_of_mem_take hr
      have h2 := (List.mem_filter.1 (List.mem_filter.1 h1).1).1
      have := hPl23.small ((hby.2 r).1 h2)
      omega
    · have e : b = true := hb.2 rfl
      subst e
      exact hK w29 (hPl23.hW.then hu29)
theorem own:ownKnob Tryz.prog.godebug=none:=by kernel_rfl
theorem laid:laidOutB Tryz.prog=true:=by kernel_rfl
theorem lifted (os:Os) (started:os.Started) (H:Type) (enc:TypeId×Value→H) :
  ReturnsInHanded {} Tryz.checked os 4 .any (fun w args=>(Rows.tableScansSpec.pre enc Tryz.prog Tryz.f4 [] false w args∧laidMetH Tryz.prog laid2 w)∧sizedMet enc Tryz.prog Tryz.f4 (OpenSpec.ofChange Rows.tableScansSpec) false w args)
   (Rows.tableScansSpec.post enc Tryz.prog Tryz.f4 false true false false):=by
 refine returns_and_shaped (C:=Tryz.checked) (X:=fun w _=>laidMetH Tryz.prog laid2 w) (fun _ _ _ hh h=>h.of_heap hh) own started (by kernel_rfl) Tryz.func4
  (ChangeSpec.witness_at (enc:=enc) (C:=Tryz.checked) (os:=os) (X:=fun w _=>laidMetH Tryz.prog laid2 w) false (laidWorld os) #[.agg #[.string ByteArray.empty,.slice none 0 0,.slice none 0 0,.int .i64 0,.int .i64 0,.int .i64 0],.slice none 0 0,.int .i64 0,.string ByteArray.empty,.string ByteArray.empty,.int .i64 0] 8 rfl (by kernel_rfl) (by kernel_rfl) (by kernel_rfl) (by kernel_rfl) (by kernel_rfl) (laidWorld_met os _)) ?_
 intro W base args ds gs before hval0 hW hsh
 have hM:Va.MX W:=maxlen_of_shaped hsh
 have hval:∀ (j:Nat) t v,Tryz.f4.params[j]? = some t→args[j]? = some v→Value.okWide Tryz.prog W .any base t v:=hval0
 have hW':=hW
 obtain ⟨p,q,hA0,hV,rfl,hfz,hnd⟩:=hW
 have hA:DataW.TrodAll enc Tryz.prog W 0 (fun _=>true) true Tryz.f4.params.toList args.toList ds p:=hA0
 rw [Tryz.params4] at hA hval
 obtain ⟨v0,vs0,d0,ds0,p0,q0,hargs,rfl,rfl,h0,r0⟩:=trodAll_cons hA
 obtain ⟨v1,vs1,d1,ds1,p1,q1,rfl,rfl,rfl,h1,r1⟩:=trodAll_cons r0
 obtain ⟨v2,vs2,d2,ds2,p2,q2,rfl,rfl,rfl,h2,r2⟩:=trodAll_cons r1
 obtain ⟨v3,vs3,d3,ds3,p3,q3,rfl,rfl,rfl,h3,r3⟩:=trodAll_cons r2
 obtain ⟨v4,vs4,d4,ds4,p4,q4,rfl,rfl,rfl,h4,r4⟩:=trodAll_cons r3
 obtain ⟨v5,vs5,d5,ds5,p5,q5,rfl,rfl,rfl,h5,r5⟩:=trodAll_cons r4
 obtain ⟨rfl,rfl,rfl⟩:=trodAll_nil r5
 obtain rfl:args = #[v0,v1,v2,v3,v4,v5]:=by cases args; simp_all
 obtain ⟨s,cps,ccs,ips,ics,ess,hcolss,hccs,hccms,hixss,hics,hicms,hsms⟩:=rd_sch (Rd.of_trod h0)
 have evs:=arg_struct Tryz.underlying25 (hval 0 25 v0 rfl rfl) ess
 subst evs
 have hsxs:SchEx W s _:=⟨cps,ccs,ips,ics,rfl,hcolss,hccs,hixss,hics⟩
 obtain ⟨lp,ln,lc,la,elp,hle,ha,hwf⟩:=rd_acts (Rd.of_trod h1)
 obtain rfl:=Rd.arg Tryz.underlying26 rfl (hval 1 26 v1 rfl rfl) elp
 obtain ⟨index,eindex,wfindex⟩:=(Rd.of_trod h2).int Tryz.underlying3
 obtain rfl:=Rd.arg Tryz.underlying3 rfl (hval 2 3 v2 rfl rfl) eindex
 obtain ⟨fr,efr,wffr⟩:=(Rd.of_trod h3).str Tryz.underlying9
 obtain rfl:=Rd.arg Tryz.underlying9 rfl (hval 3 9 v3 rfl rfl) efr
 obtain ⟨tt,ett,wftt⟩:=(Rd.of_trod h4).str Tryz.underlying9
 obtain rfl:=Rd.arg Tryz.underlying9 rfl (hval 4 9 v4 rfl rfl) ett
 obtain ⟨most,emost,wfmost⟩:=(Rd.of_trod h5).int Tryz.underlying3
 obtain rfl:=Rd.arg Tryz.underlying3 rfl (hval 5 3 v5 rfl rfl) emost
 refine ((walk (w:=W) (K:=fun v w'=>v = .bool true∧Upd Nothing W w') hM hsxs ha hwf fun w' hu=>⟨rfl,hu⟩).back Tryz.func4 (by kernel_rfl) (by kernel_rfl)).mono fun e W' ⟨v,he,hv,hu⟩=>?_
 subst he; subst hv
 exact ⟨_,rfl,law_post (tb:=4) laid (by kernel_rfl) hW' rfl rfl (by kernel_rfl) Tryz.underlying4 hu⟩
theorem row:Rows.TableScansSaid:=
 OpenClaim.holds_of_wide 4 Tryz.f4 rfl rfl rfl rfl rfl rfl rfl ⟨rfl,rfl,rfl,rfl,rfl⟩ rfl rfl rfl rfl rfl (by kernel_rfl) Tryz.func4 (by kernel_rfl)
  (of_decide_eq_true (by kernel_rfl)) (by unfold Func.isWrapper; first | (rw [if_pos (by decide +kernel)]; kernel_rfl) | (rw [if_neg (by decide +kernel)]; exact ⟨rfl,rfl⟩))
  (fun os started H enc _=>lifted os started H enc)
theorem over:Rows.TableScansCardSaid:=
 Claim7.holds_tied_plain_at .later [] [.data,.pinned] true (true,"e827eb7d9dc74149675413fa3376f07fa26dafbb914b0e2785aa856a10c5615b") false
  row (fun _ h=>by cases h) (by kernel_rfl) (fun _ h=>by cases h) tableScans_row_tie rfl ⟨rfl,rfl⟩ (by kernel_rfl) rfl
  (fun f fn hf hfn=>by
   obtain rfl:f=4:=Option.some.inj ((show Tryz.prog.funcNamed Rows.tableScansRow.func=some 4 by kernel_rfl).symm.trans hf) |>.symm
   obtain rfl:fn=Tryz.f4:=(Option.some.inj (Tryz.func4.symm.trans hfn)).symm
   refine ⟨by kernel_rfl,fun j t ht=>?_⟩
   have hall:(Tryz.f4.params.toList.all fun t=>!(Tryz.prog.wantsStandIn t))=true:=by kernel_rfl
   have hm:t∈Tryz.f4.params.toList:=by rw [Array.mem_toList_iff]; exact Array.mem_of_getElem? ht
   exact (show Tryz.prog.wantsStandIn t=false by simpa using List.all_eq_true.1 hall t hm))
  (by kernel_rfl)
#print axioms over
end TScans
end Go.Proofs.YtjcgociobhhijaaGreatDoor
