/- Proved: 'affluxlaw09.TableSteps' returns true for every input, and its arguments read behind the call as they did; the library's tables that the row lists hold what the program's text lays (the card ties them). -/
import Derived.Test.YtjcgociobhhijaaGreatDoorCards
import Derived.Test.YtjcgociobhhijaaGreatDoorTie
import Derived.Test.YtjcgociobhhijaaGreatDoorQf
import Derived.Test.YtjcgociobhhijaaGreatDoorQd
set_option linter.unusedVariables false
set_option linter.unusedSimpArgs false
set_option maxRecDepth 100000
namespace Go.Proofs.YtjcgociobhhijaaGreatDoor
open Go SX Go.ChangeShapes Go.WideShapes Go.ChangeAt Go.RowKit Va Cd Sc Tb
namespace TSteps
/-- The first row behind a key, so far. -/
def Aft (s:Schm) (i:Nat) (parts:List Int) (behind:ByteArray) (l:List Row) (x:Nat) (a:Int):Prop:=(a = -1∧∀ j (h:j < l.length),j < x→inP s parts l[j]=true→sLt behind (Pt.kx s i l[j])=false)∨∃ (j:Nat) (h:j < l.length),a=j∧j < x∧inP s parts l[j]=true∧sLt behind (Pt.kx s i l[j])=true∧∀ j' (h':j' < l.length),j' < j→inP s parts l[j']=true→sLt behind (Pt.kx s i l[j'])=false
theorem Aft.zero {s:Schm} {i:Nat} {parts:List Int} {behind:ByteArray} {l:List Row}:Aft s i parts behind l 0 (-1):=.inl ⟨rfl,fun j h hx=>by omega⟩
theorem Aft.skip {s:Schm} {i:Nat} {parts:List Int} {behind:ByteArray} {l:List Row} {x:Nat} {a:Int} (h:Aft s i parts behind l x a) (hx:x < l.length) (hn:inP s parts l[x]=true→0≤a∨sLt behind (Pt.kx s i l[x])=false):Aft s i parts behind l (x+1) a:=by
 rcases h with ⟨rfl,h⟩ | ⟨j,hj,rfl,hjx,h1,h2,h3⟩
 ·refine .inl ⟨rfl,fun j hj hjx hp=>?_⟩
  by_cases he:j=x
  ·subst he
   rcases hn hp with h0 | h0
   ·omega
   ·exact h0
  ·exact h j hj (by omega) hp
 ·exact .inr ⟨j,hj,rfl,by omega,h1,h2,h3⟩
theorem Aft.take {s:Schm} {i:Nat} {parts:List Int} {behind:ByteArray} {l:List Row} {x:Nat} {a:Int} (h:Aft s i parts behind l x a) (ha:a < 0) (hx:x < l.length) (hp:inP s parts l[x]=true) (hk:sLt behind (Pt.kx s i l[x])=true):Aft s i parts behind l (x+1) (x:Int):=by
 rcases h with ⟨rfl,h⟩ | ⟨j,hj,rfl,_⟩
 ·exact .inr ⟨x,hx,rfl,by omega,hp,hk,fun j' h' hj' hp'=>h j' h' hj' hp'⟩
 ·omega
theorem Aft.find {s:Schm} {i:Nat} {parts:List Int} {behind:ByteArray} {l:List Row} {a:Int} (h:Aft s i parts behind l l.length a):(a = -1∧nxR s i false behind parts l=none)∨∃ (j:Nat) (hj:j < l.length),a=j∧nxR s i false behind parts l=some l[j]:=by
 have hnx:∀ r,Ts.nx false behind (ent s i r)=sLt behind (Pt.kx s i r):=fun r=>by unfold Ts.nx; rw [if_neg (by decide)]; rfl
 rcases h with ⟨rfl,h⟩ | ⟨j,hj,rfl,hjx,h1,h2,h3⟩
 ·refine .inl ⟨rfl,List.find?_eq_none.2 fun r hr hc=>?_⟩
  obtain ⟨j,hj,rfl⟩:=List.mem_iff_getElem.1 hr
  rw [Bool.and_eq_true,hnx] at hc
  rw [h j hj hj hc.2] at hc
  exact absurd hc.1 (by decide)
 ·refine .inr ⟨j,hj,rfl,?_⟩
  unfold nxR
  have hsp:=split_at hj
  have:(l.take j++l[j] :: l.drop (j+1)).find? (fun r=>Ts.nx false behind (ent s i r) && inP s parts r)=some l[j]:=by
   rw [List.find?_append,List.find?_eq_none.2 fun r hr hc=>?_,Option.none_or,List.find?_cons,hnx,h2,h1]
   ·rfl
   ·obtain ⟨j',hj',rfl⟩:=List.mem_iff_getElem.1 hr
    have hlt:j' < j:=by simp at hj'; omega
    rw [List.getElem_take,Bool.and_eq_true,hnx] at hc
    rw [h3 j' (by omega) hlt hc.2] at hc
    exact absurd hc.1 (by decide)
  rw [← hsp] at this
  exact this
theorem first_none {w:World} {K:Value→World→Prop} {pp:Option Addr} {pn pc:Nat} {s:Schm} {t:Tbl} {index:Int} (ht:TabAt w s t) (hi:¬ (0≤index∧index < (s.ixs.length:Int))) (hK:K (.tuple #[.string (bs []),.slice none 0 0,.bool false]) w) :
  Cv F.z121 #[.pointer (some ⟨t.g,0,none⟩),.int .i64 index,.slice pp pn pc] w K:=
 R.z121 (by
  unfold C.z121
  exact from_none ht hi ⟨_,_,_,_,_,rfl,hK⟩)
/-- What is told at a place. -/
def Cur (w:World) (s:Schm) (i:Nat) (D:List Row) (k:ByteArray) (rp:Option Addr) (rn:Nat) (is:Bool):Prop:=(is=false∧D=[]∧k=bs []∧rn=0)∨∃ r D3,is=true∧D=r :: D3∧k=Pt.kx s i r∧rn=r.length∧At w rp (vals r)
theorem Cur.upd0 {w w':World} {s:Schm} {i:Nat} {D:List Row} {k:ByteArray} {rp:Option Addr} {rn:Nat} {is:Bool} (h:Cur w s i D k rp rn is) (hu:Upd Nothing w w'):Cur w' s i D k rp rn is:=by
 rcases h with h | ⟨r,D3,h1,h2,h3,h4,h5⟩
 ·exact .inl h
 ·exact .inr ⟨r,D3,h1,h2,h3,h4,h5.upd0 hu⟩
theorem first_cur {w:World} {K:Value→World→Prop} {pp:Option Addr} {pn pc i:Nat} {s:Schm} {t:Tbl} {parts:List Int} {by_:List Row} (ht:TabAt w s t) (hi:i < s.ixs.length) (hby:Pt.ByL s i t.rs by_) (hat:At w pp (ints parts)) (hl:parts.length=pn) (hn:pn≤9223372036854775806)
  (hK:∀ k rp rn rc is w',Cur w' s i (by_.filter (inP s parts)) k rp rn is→Upd Nothing w w'→K (.tuple #[.string k,.slice rp rn rc,.bool is]) w') :
  Cv F.z121 #[.pointer (some ⟨t.g,0,none⟩),.int .i64 (i:Int),.slice pp pn pc] w K:=
 first_spec ht hi hby hat hl hn (fun w1 h hu=>hK _ _ _ _ _ w1 (.inl ⟨rfl,h,rfl,rfl⟩) hu) (fun r l p c w1 h ho hu _=>hK _ _ _ _ _ w1 (.inr ⟨r,l,rfl,h,rfl,rfl,ho.at⟩) hu)
theorem next_cur {w:World} {K:Value→World→Prop} {pp:Option Addr} {pn pc i:Nat} {s:Schm} {t:Tbl} {parts:List Int} {by_ D1 D3:List Row} {r:Row} (ht:TabAt w s t) (hi:i < s.ixs.length) (hby:Pt.ByL s i t.rs by_) (hD:by_.filter (inP s parts)=D1++r :: D3) (hat:At w pp (ints parts)) (hl:parts.length=pn) (hn:pn≤9223372036854775806)
  (hK:∀ k rp rn rc is w',Cur w' s i D3 k rp rn is→Upd Nothing w w'→K (.tuple #[.string k,.slice rp rn rc,.bool is]) w') :
  Cv F.z128 #[.pointer (some ⟨t.g,0,none⟩),.int .i64 (i:Int),.string (Pt.kx s i r),.slice pp pn pc] w K:=
 next_spec ht hi hby hD hat hl hn (fun w1 h hu=>hK _ _ _ _ _ w1 (.inl ⟨rfl,h,rfl,rfl⟩) hu) (fun r l p c w1 h ho hu _=>hK _ _ _ _ _ w1 (.inr ⟨r,l,rfl,h,rfl,rfl,ho.at⟩) hu)
theorem walk {s : Schm} {v : Value} {lp pp : Option Addr} {ln lc pn pc : Nat} {la : List Tb.Act} {index : Int} {behind : ByteArray} {parts : List Int} {w : World} {K : Value → World → Prop} (hM : MX w) (hs : SchEx w s v) (ha : ActsAt w w lp ln la) (hwf : ∀ x ∈ la, x.wf) (hat : At w pp (ints parts)) (hpl : parts.length = pn) (hK : ∀ w', Upd Nothing w w' → K (.bool true) w') :
    Cv F.z3 #[v, .slice lp ln lc, .int .i64 index, .string behind, .slice pp pn pc] w K := by
  have hs0 := hs
  obtain ⟨cp, cc, ip, ic, rfl, hcols, hcc, hixs, hic⟩ := hs
  refine R.z3 ?_
  unfold C.z3
  have haw : ∀ w1, Upd Nothing w w1 → Cv F.z4 #[] w1 (fun v w2 => ∃ r : Bool, v = .bool r ∧ K (.bool r) w2) := fun w1 hu1 => awake9_spec (hM.upd0 hu1) fun w2 hu2 => ⟨true, rfl, hK _ (hu1.then hu2)⟩
  refine New.use (by simp [Value.oneCell']) fun g1 w1 hb1 hu1 hge1 hlt1 => ?_
  have hS := fun w' (hu : Upd Nothing w1 w') => hu.blk hb1 fun f => f
  refine ⟨fun w' => Upd Nothing w1 w' ∧ s.Right ∧ pn ≤ 10 ∧ Small s ∧ la.length ≤ 40 ∧ ∀ x ∈ la, x.small, ?_, ?_⟩
  · refine ⟨_, _, _, _, _, _, _, _, _, _, six_cells hb1, great9_spec hs0 hu1 ha fun b w2 hb hu2 => ⟨_, rfl, ifB_mk (fun _ => haw w2 (hu1.then hu2)) (fun hg => ifB_mk (fun _ => haw w2 (hu1.then hu2)) (fun _ => ifB_mk (fun _ => haw w2 (hu1.then hu2)) (fun hp10 => ?_)))⟩⟩
    have hsm := (hb hg).1
    have hp : pn ≤ 10 := by have := of_decide_eq_false hp10; omega
    refine ⟨_, _, _, _, _, _, _, _, _, _, six_cells (hS _ hu2), rright3_spec (s := s) ((hs0.upd0 (hu1.then hu2)).at hsm) fun b6 w4 hb6 hu4 => ⟨_, rfl, ifB_mk (fun _ => haw w4 (hu1.then (hu2.then hu4))) (fun hx => ?_)⟩⟩
    exact awake9_spec (hM.upd0 (hu1.then (hu2.then hu4))) fun w5 hu5 => ⟨_, rfl, ifB_mk (fun h => by cases h) (fun _ => ⟨(hu2.then hu4).then hu5, hb6.1 (by simpa using hx), hp, hb hg⟩)⟩
  rintro w8 ⟨hu18, hright, hp10, hsm, hl40, hsmall⟩
  have hu08 := hu1.then hu18
  have hlen := ha.2
  refine ⟨_, _, _, _, _, _, _, _, _, _, six_cells (hS _ hu18), play_spec hM hu08 hs0 hright hsm ha (by omega) hwf hsmall fun t p n c w9 hPl hu9 => ⟨_, _, _, _, _, _, _, _, _, _, _, _, _, _, _, rfl, New.use (by simp [Value.oneCell']) fun g2 w10 hb2 hu10 hge2 hl2 => set_seven rfl rfl rfl rfl rfl rfl rfl hb2 fun w17 hb17 hu17 => ifB_mk (fun h => by cases h) (fun _ => ?_)⟩⟩
  have hg2 : w.heap.size ≤ g2 := by have := (hu08.then hu9).size; omega
  have hu917 : Upd Nothing w9 w17 := hu10.fresh hu17 fun i hi => by rw [show i = g2 from hi]; exact hge2
  have hu117 : Upd Nothing w1 w17 := (hu18.then hu9).then hu917
  have hPl17 := (hPl.upd0 hu10).one hb2 hg2 hu17
  have ht := hPl17.tab
  have hnr := ht.nrows
  by_cases hin : 0 ≤ index ∧ index < (s.ixs.length : Int)
  case neg =>
    have hdone := hK w17 (hu1.then hu117)
    refine first_none ht hin ⟨_, _, _, _, _, rfl, fun _ => False, ifB_mk (fun _ => ifB_mk (fun _ => ifB_mk (fun _ => hdone) (fun h => by cases h)) (fun h => by rw [sEq_self] at h; cases h)) (fun h0 => ⟨_, _, _, (hS _ hu117).cell (i := 2) rfl, ifB_mk (fun _ => ifB_mk (fun _ => ifB_mk (fun _ => hdone) (fun h => by cases h)) (fun h => by rw [sEq_self] at h; cases h)) (fun h1 => ?_)⟩), fun _ h => h.elim⟩
    have := of_decide_eq_false h0
    have := of_decide_eq_false h1
    exact absurd ⟨by omega, by omega⟩ hin
  obtain ⟨i, rfl⟩ : ∃ i : Nat, index = i := ⟨index.toNat, by omega⟩
  have hi : i < s.ixs.length := by omega
  obtain ⟨by_, hby⟩ := Pt.ByL.ex ht.inv hright hi (ht.ixl i (by have := ht.il; omega))
  have hat17 := hat.upd0 hPl17.hW
  have hpn : pn ≤ 9223372036854775806 := by omega
  have hb1000 : by_.length ≤ 1000 := by
    have n1 : by_.Nodup := hby.1.imp fun {x y} hxy e => by rw [e, sLt_irrefl] at hxy; cases hxy
    have := Pt.nodup_le n1 fun x hx => (hby.2 x).1 hx
    have hnr' : (Pt.rowsOf t.t).length ≤ 1000 := hnr
    omega
  have hmt : ∀ r ∈ by_, r ∈ t.rs := fun r hr => (hby.2 r).1 hr
  have hfl : (by_.filter (inP s parts)).length = (t.rs.filter (inP s parts)).length := by
    have n1 : by_.Nodup := hby.1.imp fun {x y} hxy e => by rw [e, sLt_irrefl] at hxy; cases hxy
    have n2 : t.rs.Nodup := ht.inv.srt.imp fun {x y} hxy e => by rw [e, sLt_irrefl] at hxy; cases hxy
    have l1 := Pt.nodup_le (n1.sublist List.filter_sublist) (m := t.rs.filter (inP s parts)) fun x hx => List.mem_filter.2 ⟨(hby.2 x).1 (List.mem_filter.1 hx).1, (List.mem_filter.1 hx).2⟩
    have l2 := Pt.nodup_le (n2.sublist List.filter_sublist) (m := by_.filter (inP s parts)) fun x hx => List.mem_filter.2 ⟨(hby.2 x).2 (List.mem_filter.1 hx).1, (List.mem_filter.1 hx).2⟩
    omega
  refine first_cur ht hi hby hat17 hpl hpn fun ra rp0 rn0 rc0 is0 w20 hcur0 hu20 => ⟨_, _, _, _, _, rfl, fun w' => Upd Nothing w20 w', ifB_mk (fun h => by have := of_decide_eq_true h; omega) (fun _ => ⟨_, _, _, (hS _ (hu117.then hu20)).cell (i := 2) rfl, ifB_mk (fun h => by have := of_decide_eq_true h; omega) (fun _ => Upd.refl _ _)⟩), ?_⟩
  rintro w21 hu21
  have hu1721 := hu20.then hu21
  have hPl21 := hPl17.upd0 hu1721
  refine ⟨_, _, _, _, _, _, _, _, _, _, _, _, _, seven_cells (hu1721.blk hb17 fun f => f), mby_spec hPl21.dc hi fun bp bn bc by' w22 hm22 hby' hu22 => ⟨_, _, _, rfl, ?_⟩⟩
  have e : by' = by_ := Pt.ByL.len hby' hby fun x hx y hy he => ht.inv.dist hright hi hx hy he
  subst e
  have hu1722 := hu1721.then hu22
  have hPl22 := hPl21.upd0 hu22
  have hbn := hm22.len
  refine ⟨fun k rp rn rc is nn aft x w' => ∃ y : Nat, x = y ∧ y ≤ bn ∧ Upd Nothing w22 w' ∧ nn = (((by'.take y).filter (inP s parts)).length : Int) ∧ Cur w' s i ((by'.drop y).filter (inP s parts)) k rp rn is ∧ Aft s i parts behind by' y aft, fun _ _ _ _ _ _ _ x _ => bn - x.toNat, ⟨0, rfl, by omega, Upd.refl _ _, rfl, hcur0.upd0 (hu21.then hu22), Aft.zero⟩, ?_⟩
  rintro k rp rn rc is nn aft x w23 ⟨y, rfl, hy, hu23, rfl, hcur, haft⟩
  have hu1723 := hu1722.then hu23
  have hPl23 := hPl22.upd0 hu23
  refine ifB_mk (fun hx => ?_) (fun hx => ?_)
  · have hyn : y < bn := by have := of_decide_eq_true hx; omega
    have hyl : y < by'.length := by omega
    have hmem : by'[y] ∈ t.rs := hmt _ (List.getElem_mem hyl)
    have hokr := ht.inv.ok _ hmem
    have hud : Upd Nothing w22 w23.drew := hu23.then (Upd.drew _ _)
    have hPld := hPl23.upd0 (Upd.drew Nothing _)
    have hu1d := hu117.then (hu1722.then hud)
    obtain ⟨a, q, m, d, haa, hc, hr, hd⟩ := (hm22.upd0 hud).get hyl
    have htk : (by'.take (y + 1)).filter (inP s parts) = (by'.take y).filter (inP s parts) ++ [by'[y]].filter (inP s parts) := by rw [List.take_succ_eq_append_getElem hyl, List.filter_append]
    have hdk : (by'.drop y).filter (inP s parts) = [by'[y]].filter (inP s parts) ++ (by'.drop (y + 1)).filter (inP s parts) := by rw [List.drop_eq_getElem_cons hyl, ← List.filter_append]; rfl
    have hwr : IntKind.i64.wrap ((y : Int) + 1) = ((y + 1 : Nat) : Int) := by rw [i64_wrap (by omega) (by omega)]; omega
    have hmeas : bn - ((y + 1 : Nat) : Int).toNat < bn - (y : Int).toNat := by omega
    have htl : ((by'.take y).filter (inP s parts)).length ≤ y := by
      have := List.length_filter_le (inP s parts) (by'.take y)
      rw [List.length_take] at this
      omega
    rw [hwr]
    refine ⟨_, _, _, _, _, _, _, _, _, _, six_cells (hS _ hu1d), a, haa, by omega, by omega, _, _, _, hc, in_spec hPld.hW hs0 hright hr hokr hat hpl hpn fun w24 hu24 => ⟨_, rfl, ifB_mk (fun hnin => ?_) (fun hyes => ?_)⟩⟩
    · have hnp : inP s parts by'[y] = false := by simpa using hnin
      have hf0 : [by'[y]].filter (inP s parts) = [] := by rw [List.filter_cons, if_neg (by rw [hnp]; decide)]; rfl
      rw [hf0, List.append_nil] at htk
      rw [hf0, List.nil_append] at hdk
      exact ⟨⟨y + 1, rfl, by omega, hud.then hu24, by rw [htk], by rw [← hdk]; exact (hcur.upd0 (Upd.drew _ _)).upd0 hu24, haft.skip hyl fun h => by rw [hnp] at h; cases h⟩, hmeas⟩
    · have hp : inP s parts by'[y] = true := by simpa using hyes
      have hf1 : [by'[y]].filter (inP s parts) = [by'[y]] := by rw [List.filter_cons, if_pos hp]; rfl
      rw [hf1] at htk hdk
      rw [hdk] at hcur
      have hcur : Cur w23 s i (by'[y] :: (by'.drop (y + 1)).filter (inP s parts)) k rp rn is := hcur
      have hu2224 := hud.then hu24
      have hu124 := hu1d.then hu24
      refine ⟨fun aa w' => Upd Nothing w24 w' ∧ Aft s i parts behind by' (y + 1) aa, ifB_mk (fun hneg => ?_) (fun hneg => ⟨Upd.drew _ _, haft.skip hyl fun _ => .inl (by have := of_decide_eq_false hneg; omega)⟩), ?_⟩
      · have hPl24 := (hPld.upd0 hu24).upd0 (Upd.drew Nothing _)
        refine ⟨_, _, _, _, _, _, _, _, _, _, six_cells (hS _ (hu124.then (Upd.drew _ _))), a, haa, by omega, by omega, _, _, _, (hu24.cell hc fun f => f), ?_⟩
        refine rkey_spec hPl24.hW hs0 hright hsm hi hr hokr.1 fun w25 hu25 => ⟨_, rfl, ifB_mk (fun hb => ⟨(Upd.drew _ _).then hu25, haft.take (of_decide_eq_true hneg) hyl hp ?_⟩) (fun hb => ⟨(Upd.drew _ _).then hu25, haft.skip hyl fun _ => .inr ?_⟩)⟩
        · rw [Bool.not_eq_true', Bool.or_eq_false_iff] at hb
          exact sLt_total hb.1 fun e => by rw [e, sEq_self] at hb; cases hb.2
        · rw [Bool.not_eq_false', Bool.or_eq_true] at hb
          rcases hb with hb | hb
          · exact sLt_asymm hb
          · rw [sEq_iff.1 hb]; exact sLt_irrefl _
      rintro aa w26 ⟨hu26, haa2⟩
      have hu2226 := hu2224.then hu26
      rcases hcur with ⟨_, h, _⟩ | ⟨r, D3, rfl, hrD, rfl, rfl, hrat⟩
      · cases h
      injection hrD with hr1 hr2
      subst hr1
      have hdd : Upd Nothing w23 w26.drew := (((Upd.drew _ _).then hu24).then hu26).then (Upd.drew _ _)
      have hPl26 := hPl23.upd0 hdd
      have hc26 := ((hu24.then hu26).then (Upd.drew _ _)).cell hc fun f => f
      refine ifB_mk (fun h => by cases h) (fun _ => ⟨_, _, _, _, _, _, _, _, _, _, six_cells (hS _ ((hu124.then hu26).then (Upd.drew _ _))), a, haa, by omega, by omega, _, _, _, hc26, ?_⟩)
      have h12 := hPl26.small hmem
      refine rkey_spec hPl26.hW hs0 hright hsm hi hr hokr.1 fun w27 hu27 => ⟨_, rfl, ifB_mk (fun h => by rw [sEq_self] at h; cases h) (fun _ => ?_)⟩
      have hPl27 := hPl26.upd0 hu27
      refine ⟨a, haa, by omega, by omega, _, _, _, hu27.cell hc26 fun f => f, same_row (hrat.upd0 (hdd.then hu27)) rfl (by omega) (hr.1.upd0 hPl27.hW) hr.2 fun w28 hu28 => ⟨_, rfl, ifB_mk (fun h => by cases h) (fun _ => ?_)⟩⟩
      have hPl28 := hPl27.upd0 hu28
      have hall : by'.filter (inP s parts) = (by'.take y).filter (inP s parts) ++ by'[y] :: (by'.drop (y + 1)).filter (inP s parts) := by
        conv => lhs; rw [← List.take_append_drop y by', List.filter_append, hdk]
        rfl
      refine next_cur (D1 := (by'.take y).filter (inP s parts)) (D3 := (by'.drop (y + 1)).filter (inP s parts)) (r := by'[y]) hPl28.tab hi hby hall (hat.upd0 hPl28.hW) hpl hpn fun k' rp' rn' rc' is' w29 hcur' hu29 => ⟨_, _, _, _, _, rfl, ⟨y + 1, rfl, by omega, ((((hud.then hu24).then hu26).then (Upd.drew _ _)).then hu27).then (hu28.then hu29), ?_, hcur', haa2⟩, hmeas⟩
      rw [i64_wrap (by omega) (by omega), htk]
      simp
  · have hyn : y = bn := by have := of_decide_eq_false hx; omega
    have hdn : by'.drop y = [] := List.drop_eq_nil_iff.2 (by omega)
    have htn : by'.take y = by' := List.take_of_length_le (by omega)
    rw [hdn] at hcur
    have hcur : Cur w23 s i [] k rp rn is := hcur
    obtain ⟨rfl, _, rfl, rfl⟩ : is = false ∧ ([] : List Row) = [] ∧ k = bs [] ∧ rn = 0 := by
      rcases hcur with h | ⟨r, D3, _, h, _⟩
      · exact h
      · cases h
    rw [htn]
    rw [show y = by'.length by omega] at haft
    have hPlat := hat.upd0 hPl23.hW
    have fin : ∀ w35, Upd Nothing w23 w35 → ifB (!false) (
                ifB (sEq (bs []) (bs [])) (
                  ifB (((0 : Nat) : Int) == (0 : Int)) (
                    Cv F.z123 #[.pointer (some ⟨t.g, 0, none⟩), .slice pp pn pc] w35 (fun v22 wv36 =>
                      ∃ (r18 : Int),
                      v22 = .int .i64 r18 ∧
                      ifB (r18 == ((by'.filter (inP s parts)).length : Int)) (
                        Cv F.z129 #[.pointer (some ⟨t.g, 0, none⟩), .slice pp pn pc] wv36 (fun v23 wv37 =>
                          ∃ (r19p : Option Addr) (r19n r19c : Nat),
                          v23 = .slice r19p r19n r19c ∧
                          K (.bool (((r19n : Nat) : Int) == ((by'.filter (inP s parts)).length : Int))) wv37)) (
                        K (.bool false) wv36))) (
                    K (.bool false) w35)) (
                  K (.bool false) w35)) (
                K (.bool false) w35) := by
      intro w35 hu35
      have hPl35 := hPl23.upd0 hu35
      refine ifB_mk (fun _ => ifB_mk (fun _ => ifB_mk (fun _ => ?_) (fun h => by cases h)) (fun h => by rw [sEq_self] at h; cases h)) (fun h => by cases h)
      refine tin_spec hPl35.tab (hat.upd0 hPl35.hW) hpl hpn fun w36 hu36 => ⟨_, rfl, ?_⟩
      rw [hfl]
      have hPl36 := hPl35.upd0 hu36
      refine ifB_mk (fun _ => trows_spec hPl36.tab (hat.upd0 hPl36.hW) hpl hpn fun p c w37 _ hu37 _ => ⟨_, _, _, rfl, ?_⟩) (fun h => by simp at h)
      rw [beq_self_eq_true]
      exact hK w37 (hPl36.hW.then hu37)
    rcases haft.find with ⟨rfl, hnone⟩ | ⟨j, hj, rfl, hsome⟩
    · refine behind_spec hPl23.tab hi hby hPlat hpl hpn (fun w30 _ hu30 => ⟨_, _, _, _, _, rfl, fun w' => Upd Nothing w23 w', ?_, fun w35 hu35 => fin w35 hu35⟩) (fun r p c w30 h _ _ _ => by rw [hnone] at h; cases h)
      exact ifB_mk (fun _ => ifB_mk (fun h => by rw [sEq_self] at h; cases h) (fun _ => ifB_mk (fun h => by cases h) (fun _ => ifB_mk (fun h => by cases h) (fun _ => ifB_mk (fun h => by cases h) (fun _ => hu30.then (Upd.drew _ _)))))) (fun h => by cases h)
    · refine behind_spec hPl23.tab hi hby hPlat hpl hpn (fun w30 h _ => by rw [hsome] at h; cases h) (fun r p' c' w30 h ho30 hu30 _ => ⟨_, _, _, _, _, rfl, fun w' => Upd Nothing w23 w', ?_, fun w35 hu35 => fin w35 hu35⟩)
      rw [hsome] at h
      injection h with h
      subst h
      have hmem := hmt _ (List.getElem_mem hj)
      have hokr := ht.inv.ok _ hmem
      have hdd : Upd Nothing w23 w30.drew := hu30.then (Upd.drew _ _)
      have hPl30 := hPl23.upd0 hdd
      obtain ⟨a, q, m, d, haa, hc, hr, hd⟩ := (hm22.upd0 (hu23.then hdd)).get hj
      have h12 := hPl30.small hmem
      refine ifB_mk (fun h => by have := of_decide_eq_true h; omega) (fun _ => ifB_mk (fun _ => ?_) (fun h => by have := of_decide_eq_false h; omega))
      refine ⟨_, _, _, _, _, _, _, _, _, _, six_cells (hS _ (hu117.then (hu1723.then hdd))), a, haa, by omega, by omega, _, _, _, hc, ?_⟩
      refine rkey_spec hPl30.hW hs0 hright hsm hi hr hokr.1 fun w31 hu31 => ⟨_, rfl, ifB_mk (fun h => by rw [sEq_self] at h; cases h) (fun _ => ?_)⟩
      have hPl31 := hPl30.upd0 hu31
      exact ⟨a, haa, by omega, by omega, _, _, _, hu31.cell hc fun f => f, same_row (ho30.at.upd0 ((Upd.drew _ _).then hu31)) rfl (by omega) (hr.1.upd0 hPl31.hW) hr.2 fun w32 hu32 => ⟨_, rfl, ifB_mk (fun h => by cases h) (fun _ => ifB_mk (fun h => by cases h) (fun _ => (hdd.then hu31).then hu32))⟩⟩
theorem own:ownKnob Tryz.prog.godebug=none:=by kernel_rfl
theorem laid:laidOutB Tryz.prog=true:=by kernel_rfl
theorem lifted (os:Os) (started:os.Started) (H:Type) (enc:TypeId×Value→H) :
  ReturnsInHanded {} Tryz.checked os 3 .any (fun w args=>(Rows.tableStepsSpec.pre enc Tryz.prog Tryz.f3 [] false w args∧laidMetH Tryz.prog laid2 w)∧sizedMet enc Tryz.prog Tryz.f3 (OpenSpec.ofChange Rows.tableStepsSpec) false w args)
   (Rows.tableStepsSpec.post enc Tryz.prog Tryz.f3 false true false false):=by
 refine returns_and_shaped (C:=Tryz.checked) (X:=fun w _=>laidMetH Tryz.prog laid2 w) (fun _ _ _ hh h=>h.of_heap hh) own started (by kernel_rfl) Tryz.func3
  (ChangeSpec.witness_at (enc:=enc) (C:=Tryz.checked) (os:=os) (X:=fun w _=>laidMetH Tryz.prog laid2 w) false (laidWorld os) #[.agg #[.string ByteArray.empty,.slice none 0 0,.slice none 0 0,.int .i64 0,.int .i64 0,.int .i64 0],.slice none 0 0,.int .i64 0,.string ByteArray.empty,.slice none 0 0] 8 rfl (by kernel_rfl) (by kernel_rfl) (by kernel_rfl) (by kernel_rfl) (by kernel_rfl) (laidWorld_met os _)) ?_
 intro W base args ds gs before hval0 hW hsh
 have hM:Va.MX W:=maxlen_of_shaped hsh
 have hval:∀ (j:Nat) t v,Tryz.f3.params[j]? = some t→args[j]? = some v→Value.okWide Tryz.prog W .any base t v:=hval0
 have hW':=hW
 obtain ⟨p,q,hA0,hV,rfl,hfz,hnd⟩:=hW
 have hA:DataW.TrodAll enc Tryz.prog W 0 (fun _=>true) true Tryz.f3.params.toList args.toList ds p:=hA0
 rw [Tryz.params3] at hA hval
 obtain ⟨v0,vs0,d0,ds0,p0,q0,hargs,rfl,rfl,h0,r0⟩:=trodAll_cons hA
 obtain ⟨v1,vs1,d1,ds1,p1,q1,rfl,rfl,rfl,h1,r1⟩:=trodAll_cons r0
 obtain ⟨v2,vs2,d2,ds2,p2,q2,rfl,rfl,rfl,h2,r2⟩:=trodAll_cons r1
 obtain ⟨v3,vs3,d3,ds3,p3,q3,rfl,rfl,rfl,h3,r3⟩:=trodAll_cons r2
 obtain ⟨v4,vs4,d4,ds4,p4,q4,rfl,rfl,rfl,h4,r4⟩:=trodAll_cons r3
 obtain ⟨rfl,rfl,rfl⟩:=trodAll_nil r4
 obtain rfl:args = #[v0,v1,v2,v3,v4]:=by cases args; simp_all
 obtain ⟨s,cps,ccs,ips,ics,ess,hcolss,hccs,hccms,hixss,hics,hicms,hsms⟩:=rd_sch (Rd.of_trod h0)
 have evs:=arg_struct Tryz.underlying25 (hval 0 25 v0 rfl rfl) ess
 subst evs
 have hsxs:SchEx W s _:=⟨cps,ccs,ips,ics,rfl,hcolss,hccs,hixss,hics⟩
 obtain ⟨lp,ln,lc,la,elp,hle,ha,hwf⟩:=rd_acts (Rd.of_trod h1)
 obtain rfl:=Rd.arg Tryz.underlying26 rfl (hval 1 26 v1 rfl rfl) elp
 obtain ⟨index,eindex,wfindex⟩:=(Rd.of_trod h2).int Tryz.underlying3
 obtain rfl:=Rd.arg Tryz.underlying3 rfl (hval 2 3 v2 rfl rfl) eindex
 obtain ⟨behind,ebehind,wfbehind⟩:=(Rd.of_trod h3).str Tryz.underlying9
 obtain rfl:=Rd.arg Tryz.underlying9 rfl (hval 3 9 v3 rfl rfl) ebehind
 obtain ⟨pp,pn,pc,parts,epp,hple,hpm,hpat,hpl⟩:=rd_ints (Rd.of_trod h4)
 obtain rfl:=Rd.arg Tryz.underlying27 rfl (hval 4 27 v4 rfl rfl) epp
 refine ((walk (w:=W) (K:=fun v w'=>v = .bool true∧Upd Nothing W w') hM hsxs ha hwf hpat hpl fun w' hu=>⟨rfl,hu⟩).back Tryz.func3 (by kernel_rfl) (by kernel_rfl)).mono fun e W' ⟨v,he,hv,hu⟩=>?_
 subst he; subst hv
 exact ⟨_,rfl,law_post (tb:=4) laid (by kernel_rfl) hW' rfl rfl (by kernel_rfl) Tryz.underlying4 hu⟩
theorem row:Rows.TableStepsSaid:=
 OpenClaim.holds_of_wide 3 Tryz.f3 rfl rfl rfl rfl rfl rfl rfl ⟨rfl,rfl,rfl,rfl,rfl⟩ rfl rfl rfl rfl rfl (by kernel_rfl) Tryz.func3 (by kernel_rfl)
  (of_decide_eq_true (by kernel_rfl)) (by unfold Func.isWrapper; first | (rw [if_pos (by decide +kernel)]; kernel_rfl) | (rw [if_neg (by decide +kernel)]; exact ⟨rfl,rfl⟩))
  (fun os started H enc _=>lifted os started H enc)
theorem over:Rows.TableStepsCardSaid:=
 Claim7.holds_tied_plain_at .later [] [.data,.pinned] true (true,"e827eb7d9dc74149675413fa3376f07fa26dafbb914b0e2785aa856a10c5615b") false
  row (fun _ h=>by cases h) (by kernel_rfl) (fun _ h=>by cases h) tableSteps_row_tie rfl ⟨rfl,rfl⟩ (by kernel_rfl) rfl
  (fun f fn hf hfn=>by
   obtain rfl:f=3:=Option.some.inj ((show Tryz.prog.funcNamed Rows.tableStepsRow.func=some 3 by kernel_rfl).symm.trans hf) |>.symm
   obtain rfl:fn=Tryz.f3:=(Option.some.inj (Tryz.func3.symm.trans hfn)).symm
   refine ⟨by kernel_rfl,fun j t ht=>?_⟩
   have hall:(Tryz.f3.params.toList.all fun t=>!(Tryz.prog.wantsStandIn t))=true:=by kernel_rfl
   have hm:t∈Tryz.f3.params.toList:=by rw [Array.mem_toList_iff]; exact Array.mem_of_getElem? ht
   exact (show Tryz.prog.wantsStandIn t=false by simpa using List.all_eq_true.1 hall t hm))
  (by kernel_rfl)
#print axioms over
end TSteps
end Go.Proofs.YtjcgociobhhijaaGreatDoor
