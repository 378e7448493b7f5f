/- Proved: 'affluxlaw19.WindowPuts' returns true for every input, and its arguments read behind the call as they did. There is no condition. -/
import Derived.Test.YtjcgociobhhijaaWH
set_option linter.unusedVariables false
set_option linter.unusedSimpArgs false
set_option maxRecDepth 100000
namespace Go.Proofs.Ytjcgociobhhijaa
open Go Go.Proofs.Ytjcgociobhhijaa.SX Go.ChangeShapes Go.WideShapes Go.ChangeAt Go.RowKit Va Cd Sc Wn
namespace WPuts
/-- From W on, what there was is left. -/
abbrev On (W : World) : Nat → Prop := fun k => W.heap.size ≤ k
theorem on_done {W w : World} (h : Upd (On W) W w) : Upd Nothing W w := h.mono fun i hi hf => by have hf' : W.heap.size ≤ i := hf; omega
theorem on_next {W w w' : World} {F : Nat → Prop} (h : Upd (On W) W w) (hu : Upd F w w') (hF : ∀ k, F k → W.heap.size ≤ k) : Upd (On W) W w' := h.then (hu.mono fun i _ hf => hF i hf)
theorem small_units {b : Bool} {bl : List (List Row)} (h1 : SmallB bl) (hw : ∀ rows ∈ bl, WfR rows) : SmallA (unitsOfAll b bl) := by
  intro u hu
  obtain ⟨rows, hr, hur⟩ := List.mem_flatMap.1 hu
  unfold unitsOf at hur
  split at hur
  · have : u = rows := by simpa using hur
    subst this
    exact ⟨(h1.2 _ hr).1, fun r hrr => ⟨(h1.2 _ hr).2 r hrr, hw _ hr r hrr⟩⟩
  · obtain ⟨r, hrr, rfl⟩ := List.mem_map.1 hur
    refine ⟨by simp, fun r' hr' => ?_⟩
    have : r' = r := by simpa using hr'
    subst this
    exact ⟨(h1.2 _ hr).2 _ hrr, hw _ hr _ hrr⟩
theorem AllAt.one {B g : Nat} {w w' : World} {p : Option Addr} {c : Nat} {all : List Unit'} {l : List Value} (h : AllAt B w p c all) (hb : Blk w g l T.window_Window) (hg : B ≤ g) (hu : Upd (SX.One g) w w') : AllAt B w' p c all := by
  have ho : ∃ xs, Own w T.s_s_api_Value 1 p all.length c xs := by obtain ⟨xs, ho, _⟩ := h; exact ⟨xs, ho⟩
  obtain ⟨xs, ho⟩ := ho
  exact h.keep hu (fun k hk => by rw [show k = g from hk]; exact hg) (own_one' ho hb (by decide))

theorem walk {name onn owner : ByteArray} {bt : Bool} {size slide : Int} {cp lp : Option Addr} {cn cc ln lc : Nat} {cols : List Col} {gl : List (List (List Row))} {W : World} {K : Value → World → Prop}
    (hcols : Cols W cp cols) (hcl : cols.length = cn) (hcc : cn ≤ cc) (hl : GrpsS (Lo W) W lp ln gl) (hw : ∀ bl ∈ gl, ∀ rows ∈ bl, WfR rows) (hK : ∀ w', Upd Nothing W w' → K (.bool true) w') :
    CallsV prog F.affluxlaw19_WindowPuts #[.agg #[.string name, .string onn, .string owner, .bool bt, .int .i64 size, .int .i64 slide], .slice cp cn cc, .slice lp ln lc] W K := by
  refine R.affluxlaw19_WindowPuts ?_
  unfold C.affluxlaw19_WindowPuts
  have haw : ∀ w1, Upd Nothing W w1 → CallsV prog F.affluxlaw19_awake #[] w1 (fun v w2 => ∃ r : Bool, v = .bool r ∧ K (.bool r) w2) := fun w1 hu1 => awake19_spec fun w2 hu2 => ⟨true, rfl, hK _ (hu1.then hu2)⟩
  have hgl := hl.2
  refine New.use (by simp [Value.oneCell']) fun g1 w1 hb1 hu1 hge1 _ => ⟨fun w' => Upd Nothing w1 w' ∧ cn ≤ 8 ∧ SmallG gl, ?_, ?_⟩
  · exact ⟨_, _, _, _, _, _, six_cells hb1, great19_spec (hl.upd0 hu1) fun b w2 hb hu2 => ⟨b, rfl, ifB_mk (fun _ => haw _ (hu1.then hu2)) (fun h => awake19_spec fun w4 hu4 => ⟨true, rfl, ifB_mk (fun h => by cases h) (fun _ => ⟨hu2.then hu4, hb h⟩)⟩)⟩⟩
  rintro w6 ⟨hu6, hn8, hsm⟩
  have hS := fun w' (hu : Upd Nothing w1 w') => six_cells (hu.blk hb1 fun f => f)
  have hu06 := hu1.then hu6
  refine ⟨_, _, _, _, _, _, hS w6 hu6, new_spec (hcols.upd0 hu06) hcl (by omega) (fun w7 hn hu7 => ?_) (fun g w7 hr hwin hu7 hge => ?_)⟩
  · have hd := (hu6.then hu7).then (Upd.drew _ _)
    refine ⟨_, _, rfl, _, _, _, _, _, _, hS _ hd, _, _, _, _, _, _, hS _ hd, wright_spec fun b5 w8 h5 hu8 => ⟨b5, rfl, hS _ (hd.then hu8), rwright_spec fun b6 w9 h6 hu9 => ⟨b6, rfl, ?_⟩⟩⟩
    have e5 : b5 = false := by cases b5 with
      | false => rfl
      | true => exact absurd (h5.1 rfl) hn
    have e6 : b6 = false := by cases b6 with
      | false => rfl
      | true => exact absurd (h6.1 rfl) hn
    subst e5; subst e6
    refine ifB_mk (fun h => by cases h) (fun _ => ⟨_, _, _, _, _, _, hS _ ((hd.then hu8).then hu9), rwright_spec fun b7 w10 h7 hu10 => ⟨b7, rfl, ?_⟩⟩)
    have e7 : b7 = false := by cases b7 with
      | false => rfl
      | true => exact absurd (h7.1 rfl) hn
    subst e7
    exact ifB_mk (fun _ => ifB_mk (fun _ => hK _ (hu1.then (((hd.then hu8).then hu9).then hu10))) (fun h => by cases h)) (fun h => by cases h)
  have hd := (hu6.then hu7).then (Upd.drew _ _)
  refine ⟨_, _, rfl, _, _, _, _, _, _, hS _ hd, _, _, _, _, _, _, hS _ hd, wright_spec fun b5 w8 h5 hu8 => ⟨b5, rfl, hS _ (hd.then hu8), rwright_spec fun b6 w9 h6 hu9 => ⟨b6, rfl, ?_⟩⟩⟩
  have e5 : b5 = true := h5.2 hr
  have e6 : b6 = true := h6.2 hr
  subst e5; subst e6
  refine ifB_mk (fun h => by cases h) (fun _ => ⟨_, _, _, _, _, _, hS _ ((hd.then hu8).then hu9), rwright_spec fun b7 w10 h7 hu10 => ⟨b7, rfl, ?_⟩⟩)
  have e7 : b7 = true := h7.2 hr
  subst e7
  refine ifB_mk (fun h => by cases h) (fun _ => ?_)
  have hu110 := ((hd.then hu8).then hu9).then hu10
  have hu010 := hu1.then hu110
  have hb10 := hu110.blk hb1 fun f => f
  have hwin10 := hwin.upd0 ((((Upd.drew Nothing w7).then hu8).then hu9).then hu10)
  obtain ⟨_, _, _, ⟨hs1, hs2⟩, hs3, hs4⟩ := hr
  obtain ⟨sz, rfl⟩ : ∃ n : Nat, size = n := ⟨size.toNat, by omega⟩
  obtain ⟨sl, rfl⟩ : ∃ n : Nat, slide = n := ⟨slide.toNat, by omega⟩
  replace hwin10 : WinAt w10 g ⟨name, onn, owner, bt, sz, sl, [], [], cols⟩ := hwin10
  have hgW : W.heap.size ≤ g := by have := hu06.size; omega
  -- what holds at each group
  let St : Option Addr → Nat → Win → List Unit' → World → Prop := fun p c x all w' => (x.batches = bt ∧ x.size = sz ∧ x.slide = sl ∧ x.cols = cols) ∧ WOk x ∧ x.Has all ∧ SmallA all ∧ WinAt w' g x ∧ AllAt W.heap.size w' p c all ∧ Upd (On W) W w' ∧ Blk w' g1 [.string name, .string onn, .string owner, .bool bt, .int .i64 (sz : Int), .int .i64 (sl : Int)] T.api_Window
  have hSt0 : ∀ {p c x all w' w''}, St p c x all w' → Upd Nothing w' w'' → St p c x all w'' := fun ⟨a, b, h, s, wi, al, u, bl⟩ hu => ⟨a, b, h, s, wi.upd0 hu, al.upd0 hu, on_next u hu fun _ f => f.elim, hu.blk bl fun f => f⟩
  have hlook : ∀ {p c x all w'} {Q : Value → World → Prop}, St p c x all w' → all.length ≤ 100000 → (∀ w'', St p c x all w'' → Q (.bool true) w'') → CallsV prog F.affluxlaw19_looks #[.pointer (some ⟨g, 0, none⟩), .agg #[.string name, .string onn, .string owner, .bool bt, .int .i64 (sz : Int), .int .i64 (sl : Int)], .slice p all.length c] w' Q := by
    intro p c x all w' Q hst hal hQ
    have hst' := hst
    obtain ⟨⟨e1, e2, e3, e4⟩, b, h, s, wi, al, u, bl⟩ := hst'
    have := looks19_spec (K := Q) (name := name) (onn := onn) (owner := owner) (bt := bt) wi b h s al hal fun w'' hu => hQ w'' (hSt0 hst hu)
    rw [e2, e3] at this
    exact this
  refine ⟨fun p n c i w' => ∃ (k : Nat) (x : Win) (all : List Unit'), i = k ∧ k ≤ ln ∧ n = all.length ∧ all.length ≤ 400 * k ∧ St p c x all w', fun _ _ _ i _ => ln - i.toNat, ⟨0, _, [], rfl, by omega, rfl, by simp, ⟨rfl, rfl, rfl, rfl⟩, ⟨by show 1 ≤ sl; omega, by show sl ≤ sz; omega, by show sz ≤ 100; omega, by show 0 ≤ sz; omega, by show 0 < sl; omega⟩, ⟨by simp [seenOf], by simp [stagedOf]⟩, fun u hu => by (cases hu), hwin10, ⟨[], Own.nil _ _ _, SlE.nil, fun k hk => by have := hk.1; omega⟩, hu010.mono fun _ _ f => f.elim, hb10⟩, ?_⟩
  rintro p n c i w11 ⟨k, x, all, rfl, hk, rfl, hal, hst⟩
  refine ifB_mk (fun h1 => ?_) (fun h1 => by obtain ⟨_, _, _, _, _, _, hu, _⟩ := hst; exact hK _ (on_done hu))
  have hkn : k < ln := by have := of_decide_eq_true h1; omega
  have hkg : k < gl.length := by omega
  have hln20 : ln ≤ 20 := by have := hsm.1; omega
  have hmem := List.getElem_mem hkg
  obtain ⟨hb10', hrows⟩ := hsm.2 _ hmem
  have hgrp := fun w' (hu : Upd (On W) W w') => (hl.keep hu (fun k hk f => by have hk' : k < W.heap.size := hk; have f' : W.heap.size ≤ k := f; omega)).1 k hkg
  have huS : ∀ {p c x all w'}, St p c x all w' → Upd (On W) W w' := fun ⟨_, _, _, _, _, _, u, _⟩ => u
  have hbS : ∀ {p c x all w'}, St p c x all w' → Blk w' g1 [.string name, .string onn, .string owner, .bool bt, .int .i64 (sz : Int), .int .i64 (sl : Int)] T.api_Window := fun ⟨_, _, _, _, _, _, _, b⟩ => b
  obtain ⟨a, q1, m1, d1, ha, _, hc, hbt, hd1⟩ := hgrp w11 (huS hst)
  have hblen := hbt.2
  refine ⟨_, (hbS hst).cell (i := 5) rfl, by omega, ?_⟩
  refine ⟨fun ok i w' => ∃ t : Nat, i = t ∧ t ≤ m1 ∧ Upd Nothing w11 w' ∧ (ok = true ↔ ∀ rows ∈ gl[k].take t, FitR cols rows), fun _ i _ => m1 - i.toNat, ⟨0, rfl, by omega, Upd.refl _ _, by simp⟩, ?_⟩
  rintro ok i w12 ⟨t, rfl, ht, hu12, hok⟩
  have hc12 := hu12.cell hc fun f => f
  refine ⟨a, ha, by omega, by omega, _, _, _, hc12, ifB_mk (fun h2 => ?_) (fun h2 => ?_)⟩
  · have htm : t < m1 := by have := of_decide_eq_true h2; omega
    have htb : t < gl[k].length := by omega
    have htk : gl[k].take (t + 1) = gl[k].take t ++ [gl[k][t]] := List.take_succ_eq_append_getElem htb
    refine ifB_mk (fun h3 => ?_) (fun h3 => ?_)
    · obtain ⟨a3, id, q3, m3, d3, ha3, _, hcell, hrw, hd3⟩ := (hbt.upd0 hu12).1 t htb
      have hmr := List.getElem_mem htb
      have hrl : gl[k][t].length = m3 := by obtain ⟨_, _, _, _, hh⟩ := hrw; exact hh
      have hS40 := hrows _ hmr
      refine ⟨a, ha, by omega, by omega, _, _, _, hc12, a3, ha3, by omega, by omega, _, _, _, hcell.2.1, ?_⟩
      have hcW : Cols w12 cp cols := by
        have hat := cols_at hcols
        have hu' : Upd Nothing W w12 := on_done (on_next (huS hst) hu12 fun _ f => f.elim)
        exact hcols.upd0 hu'
      refine rfitR_spec hcW hcl hcc (rows_plain hrw) hrl (by have := hS40.1; omega) (fun r hr => by have := hS40.2 r hr; omega) fun b w13 hb hu13 => ⟨b, rfl, ?_⟩
      rw [i64_wrap (by omega) (by omega)]
      refine ⟨⟨t + 1, by omega, by omega, hu12.then hu13, ?_⟩, by show m1 - _ < m1 - _; omega⟩
      rw [hb, htk]
      constructor
      · intro h rows hr
        rcases List.mem_append.1 hr with hr | hr
        · exact hok.1 h3 rows hr
        · have : rows = gl[k][t] := by simpa using hr
          rw [this]; exact h
      · intro h
        exact h _ (List.mem_append_right _ (List.mem_singleton.2 rfl))
    · rw [i64_wrap (by omega) (by omega)]
      refine ⟨⟨t + 1, by omega, by omega, hu12, ⟨fun h => (by cases h), fun h => ?_⟩⟩, by show m1 - _ < m1 - _; omega⟩
      have := hok.2 fun rows hr => h rows (by rw [htk]; exact List.mem_append_left _ hr)
      rw [h3] at this
      exact this
  · have htm : t = m1 := by have := of_decide_eq_false h2; omega
    rw [htm, List.take_of_length_le (by omega)] at hok
    have hst12 := hSt0 hst hu12
    have hst12' := hst12
    obtain ⟨⟨e1, e2, e3, e4⟩, hwok, hhas, hsA, hwi, hall, hu, hbk⟩ := hst12'
    obtain ⟨xsA, hoA, hslA, hfA⟩ := hall
    refine ⟨a, ha, by omega, by omega, _, _, _, hc12, ?_⟩
    have hnl : (k : Int) + 1 = ((k + 1 : Nat) : Int) := by omega
    refine put_spec (S := Lo W) (N := fun w2 => Upd Nothing w12 w2) hwi hwok (fun k' hk' e => by have hk'' : k' < W.heap.size := hk'; omega) (hbt.upd0 hu12) (by omega) (fun rows hr => (hrows rows hr).1) (fun rows hr r hrr => (hrows rows hr).2 r hrr) (by rw [e4, hcl]; omega) (note_none fun _ h => h) (fun w14 hnf hwi14 hu14 => ⟨_, _, rfl, ?_⟩) (fun w14 w2 hfit hN hu14 hwi14 => ⟨_, _, rfl, ?_⟩)
    · have hokf : ok = false := by
        cases hk' : ok with
        | false => rfl
        | true => rw [e4] at hnf; exact absurd (hok.1 hk') hnf
      rw [hokf]
      refine ifB_mk (fun _ => ifB_mk (fun h => by cases h) (fun _ => ifB_mk (fun h => by cases h) (fun _ => ?_))) (fun h => by cases h)
      have hst14 := hSt0 hst12 hu14
      refine ⟨_, _, _, _, _, _, six_cells (hbS hst14), hlook hst14 (by omega) fun w15 hst15 => ⟨_, rfl, ifB_mk (fun h => by cases h) (fun _ => ?_)⟩⟩
      rw [i64_wrap (by omega) (by omega), hnl]
      exact ⟨⟨k + 1, x, all, rfl, by omega, rfl, by omega, hst15⟩, by show ln - _ < ln - _; omega⟩
    · have hokt : ok = true := by rw [e4] at hfit; exact hok.2 hfit
      rw [hokt, e1]
      rw [e1] at hwi14
      refine ifB_mk (fun h => by cases h) (fun _ => ?_)
      have hwi2 := hwi.upd0 hN
      obtain ⟨L2, hbw⟩ : ∃ L, Blk w2 g L T.window_Window := by obtain ⟨_, _, _, _, _, _, hb, _⟩ := hwi2; exact ⟨_, hb⟩
      have hb2 := hN.blk hbk fun f => f
      have hne : ¬ SX.One g g1 := fun e => by
        have e' : g1 = g := e
        rw [e'] at hb2
        have := (hb2.same hbw).2
        revert this
        decide
      have hb14 := (hu14.blk hb2 hne).drew
      have hall14 : AllAt W.heap.size w14.drew p c all := (AllAt.one (AllAt.upd0 ⟨xsA, hoA, hslA, hfA⟩ hN) hbw hgW hu14).upd0 (Upd.drew _ _)
      have hon14 : Upd (On W) W w14.drew := on_next (on_next (on_next hu hN fun _ f => f.elim) hu14 fun k hk => by rw [show k = g from hk]; exact hgW) (Upd.drew Nothing _) fun _ f => f.elim
      obtain ⟨a5, q5, m5, d5, ha5, _, hc5, hbt5, hd5⟩ := hgrp _ hon14
      refine ⟨_, _, _, _, _, _, six_cells hb14, a5, ha5, by omega, by omega, _, _, _, hc5, ?_⟩
      have hm5 := hbt5.2
      refine units19_spec (B := W.heap.size) hbt5 (by omega) (fun rows hr => (hrows rows hr).1) fun up uc xsu w16 hou hslu hu16 hfu => ⟨_, _, _, rfl, ?_⟩
      obtain ⟨xs16, ho16, hsl16, hf16⟩ := hall14.upd0 hu16
      have hul := unitsAll_len bt gl[k] fun rows hr => (hrows rows hr).1
      generalize hus : unitsOfAll bt gl[k] = us at hou hslu hul hwi14 ⊢
      refine append_own (m := us.length) sall (.inl sall.desc) ho16 (Src.slice hou.at hou.len hou.one) (by decide) (by decide) (by omega) fun ap ac w17 ho17 hu17 hf17 => ⟨_, _, _, rfl, ?_⟩
      have hb16 := hu16.blk hb14 fun f => f
      have hb17 := hu17.blk hb16 fun h => own_not_typed (es := [T.api_Window]) ho16 (by decide) g1 h ⟨_, _, hb16, by simp⟩
      have hon16 := on_next hon14 hu16 fun _ f => f.elim
      have hon17 : Upd (On W) W w17 := on_next hon16 hu17 hf16
      have hlow : Keeps (LowS W.heap.size) (Fp p c) w16 w17 := keeps_low hu17 hf16
      have hlen : all.length + us.length = (all ++ us).length := by simp
      rw [hlen] at ho17 ⊢
      have hallN : AllAt W.heap.size w17 ap ac (all ++ us) := ⟨_, ho17, SlE.append (hsl16.mono fun _ _ _ _ h => rows_keep h hlow) (hslu.mono fun _ _ _ _ h => rows_keep h hlow), fun k hk => by
        rcases hf17 k hk with h | h
        · exact hf16 k h
        · have := hon16.size; omega⟩
      obtain ⟨hh1, hh2, hh3⟩ := Win.Has.comes us hhas hwok.1
      rw [e3] at hh3
      obtain ⟨_, _, _, f1, f2, f3, f4⟩ := comes_same us x
      have hbw14 : ∃ L, Blk w14 g L T.window_Window := by obtain ⟨_, _, _, _, _, _, hb, _⟩ := hwi14; exact ⟨_, hb⟩
      obtain ⟨L14, hbw14⟩ := hbw14
      have hwi16 := (hwi14.upd0 (Upd.drew Nothing _)).upd0 hu16
      have hwi17 : WinAt w17 g (x.comes us).1 := by
        obtain ⟨sp, sc, tp, tc, cp', cc', hb, h1, h2, h3, h4, h5⟩ := hwi16
        have hkp : Keeps (TyS UT) (Fp p c) w16 w17 := keeps_own ho16 (by decide) hu17
        exact ⟨sp, sc, tp, tc, cp', cc', hu17.blk hb fun h => own_not_typed (es := [T.window_Window]) ho16 (by decide) g h ⟨_, _, hb, by simp⟩, units_keep h1 hkp, h2, units_keep h3 hkp, h4, h5.upd hu17 (own_apart h5 ho16 (by decide))⟩
      have hstN : St ap ac (x.comes us).1 (all ++ us) w17 := by
        refine ⟨⟨f1.trans e1, f2.trans e2, f3.trans e3, f4.trans e4⟩, WOk.comes us hwok, hh1, ?_, hwi17, hallN, hon17, hb17⟩
        intro u hu
        rcases List.mem_append.1 hu with hu | hu
        · exact hsA u hu
        · exact small_units (b := bt) (hsm.2 _ hmem) (hw _ hmem) u (by rw [hus]; exact hu)
      refine ⟨_, hb17.cell (i := 5) rfl, by omega, ?_⟩
      have hq1 : (all ++ us).length / sl ≤ (all ++ us).length := Nat.div_le_self _ _
      have hq2 : all.length / sl ≤ all.length := Nat.div_le_self _ _
      have hul' : (all ++ us).length ≤ 100000 := by rw [← hlen]; omega
      have d1 : Int.tdiv (((all ++ us).length : Nat) : Int) (sl : Int) = (((all ++ us).length / sl : Nat) : Int) := by rw [Int.tdiv_eq_ediv_of_nonneg (by omega)]; rfl
      have d2 : Int.tdiv ((all.length : Nat) : Int) (sl : Int) = ((all.length / sl : Nat) : Int) := by rw [Int.tdiv_eq_ediv_of_nonneg (by omega)]; rfl
      rw [d1, d2]
      clear d1 d2
      generalize (all ++ us).length / sl = Q1 at hh3 hq1 ⊢
      generalize all.length / sl = Q2 at hh3 hq2 ⊢
      have w1' : IntKind.i64.wrap ((Q1 : Nat) : Int) = ((Q1 : Nat) : Int) := i64_wrap (by omega) (by omega)
      have w2' : IntKind.i64.wrap ((Q2 : Nat) : Int) = ((Q2 : Nat) : Int) := i64_wrap (by omega) (by omega)
      rw [w1', w2', i64_wrap (by omega) (by omega)]
      have hdiff : ((Q1 : Nat) : Int) - ((Q2 : Nat) : Int) = (((x.comes us).2 : Nat) : Int) := by omega
      rw [hdiff]
      refine ifB_mk (fun h => by simp at h) (fun _ => ifB_mk (fun h => by cases h) (fun _ => ?_))
      refine ⟨_, _, _, _, _, _, six_cells hb17, hlook hstN hul' fun w18 hst18 => ⟨_, rfl, ifB_mk (fun h => by cases h) (fun _ => ?_)⟩⟩
      rw [i64_wrap (by omega) (by omega), hnl]
      exact ⟨⟨k + 1, _, all ++ us, rfl, by omega, rfl, by rw [← hlen]; omega, hst18⟩, by show ln - _ < ln - _; omega⟩
theorem own : ownKnob Try.prog.godebug = none := by kernel_rfl
theorem laid : laidOutB Try.prog = true := by kernel_rfl

theorem lifted (os : Os) (started : os.Started) (H : Type) (enc : TypeId × Value → H) :
    ReturnsInHanded {} Try.checked os 6 .any (Rows.windowPutsSpec.pre6 enc Try.prog Try.f6 Rows.windowPutsRow.domain false) (Rows.windowPutsSpec.post enc Try.prog Try.f6 false true false false) := by
  refine returnsInHanded_of_change (C := Try.checked) own started (by kernel_rfl) Try.func6
    (ChangeSpec.witness6 (enc := enc) (C := Try.checked) false ⟨#[], #[.agg #[.string ByteArray.empty, .string ByteArray.empty, .string ByteArray.empty, .bool false, .int .i64 0, .int .i64 0], .slice none 0 0, .slice none 0 0], []⟩ 8 (by kernel_rfl) (by kernel_rfl) (by kernel_rfl) (by kernel_rfl)) ?_
  intro W base args ds gs before hval0 hW hcnd _
  have hval : ∀ (j : Nat) t v, Try.f6.params[j]? = some t → args[j]? = some v → Value.okWide Try.prog W .any base t v := hval0
  have hW' := hW
  obtain ⟨p, q, hA0, hV, rfl, hfz, hnd⟩ := hW
  have hA : DataW.TrodAll enc Try.prog W 0 (fun _ => true) true Try.f6.params.toList args.toList ds p := hA0
  rw [Try.params6] at hA hval
  obtain ⟨v0, vs0, d0, ds0, p0, q0, hargs, rfl, rfl, h0, r0⟩ := trodAll_cons hA
  obtain ⟨v1, vs1, d1, ds1, p1, q1, rfl, rfl, rfl, h1, r1⟩ := trodAll_cons r0
  obtain ⟨v2, vs2, d2, ds2, p2, q2, rfl, rfl, rfl, h2, r2⟩ := trodAll_cons r1
  obtain ⟨rfl, rfl, rfl⟩ := trodAll_nil r2
  obtain rfl : args = #[v0, v1, v2] := by cases args; simp_all
  obtain ⟨namex, onx, ownerx, btx, sizex, slidex, esx⟩ := rd_win (Rd.of_trod h0)
  have evx := arg_struct Try.underlying45 (hval 0 45 v0 rfl rfl) esx
  subst evx
  obtain ⟨cp, cn, cc, cols, ecp, hcc, hccm, hcols, hcl⟩ := rd_cols (Rd.of_trod h1)
  obtain rfl := Rd.arg Try.underlying46 rfl (hval 1 46 v1 rfl rfl) ecp
  obtain ⟨lp, ln, lc, gl, elp, hl, hw⟩ := rd_groups (Rd.of_trod h2)
  obtain rfl := Rd.arg Try.underlying47 rfl (hval 2 47 v2 rfl rfl) elp
  refine ((walk (W := W) (K := fun v w' => v = .bool true ∧ Upd Nothing W w') hcols hcl hcc hl hw fun w' hu => ⟨rfl, hu⟩).back Try.func6 (by kernel_rfl) (by kernel_rfl)).mono fun e W' ⟨v, he, hv, hu⟩ => ?_
  subst he; subst hv
  exact ⟨_, rfl, law_post (tb := 4) laid (by kernel_rfl) hW' rfl rfl (by kernel_rfl) Try.underlying4 hu⟩

theorem over : Rows.WindowPutsSaid :=
  OpenClaim.holds_of_wide 6 Try.f6 rfl rfl rfl rfl rfl rfl rfl ⟨rfl, rfl, rfl, rfl, rfl⟩ rfl rfl rfl rfl rfl (by kernel_rfl) Try.func6 (by kernel_rfl)
    (of_decide_eq_true (by kernel_rfl)) (by unfold Func.isWrapper; first | (rw [if_pos (by decide +kernel)]; kernel_rfl) | (rw [if_neg (by decide +kernel)]; exact ⟨rfl, rfl⟩))
    (fun os started H enc _ => lifted os started H enc)

#print axioms over
end WPuts
end Go.Proofs.Ytjcgociobhhijaa
