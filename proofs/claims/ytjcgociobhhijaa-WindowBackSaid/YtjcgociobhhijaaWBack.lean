/- Proved: 'affluxlaw19.WindowBack' returns true for every input, and its arguments read behind the call as they did. There is no condition. -/
import Derived.Test.YtjcgociobhhijaaWI
set_option linter.unusedVariables false
set_option linter.unusedSimpArgs false
set_option maxRecDepth 100000
namespace Go.Proofs.Ytjcgociobhhijaa
open Go Go.Proofs.Ytjcgociobhhijaa.SX Go.ChangeShapes Go.WideShapes Go.ChangeAt Go.RowKit Va Cd Sc Wn
namespace WBack
/-- From W on, what there was is left. -/
abbrev On (W : World) : Nat → Prop := fun k => W.heap.size ≤ k
theorem on_done {W w : World} (h : Upd (On W) W w) : Upd Nothing W w := h.mono fun i hi hf => by have hf' : W.heap.size ≤ i := hf; omega
theorem on_next {W w w' : World} {F : Nat → Prop} (h : Upd (On W) W w) (hu : Upd F w w') (hF : ∀ k, F k → W.heap.size ≤ k) : Upd (On W) W w' := h.then (hu.mono fun i _ hf => hF i hf)
theorem small_units {b : Bool} {bl : List (List Row)} (h1 : SmallB bl) (hw : ∀ rows ∈ bl, WfR rows) : SmallA (unitsOfAll b bl) := by
  intro u hu
  obtain ⟨rows, hr, hur⟩ := List.mem_flatMap.1 hu
  unfold unitsOf at hur
  split at hur
  · have : u = rows := by simpa using hur
    subst this
    exact ⟨(h1.2 _ hr).1, fun r hrr => ⟨(h1.2 _ hr).2 r hrr, hw _ hr r hrr⟩⟩
  · obtain ⟨r, hrr, rfl⟩ := List.mem_map.1 hur
    refine ⟨by simp, fun r' hr' => ?_⟩
    have : r' = r := by simpa using hr'
    subst this
    exact ⟨(h1.2 _ hr).2 _ hrr, hw _ hr _ hrr⟩
theorem u64_self {n : Nat} (h : n ≤ 1000) : IntKind.u64.wrap (n : Int) = (n : Int) := by
  simp [IntKind.wrap, IntKind.signed, IntKind.bits]
  omega
def bytesW (z : Win) : ByteArray := tx (unitsT z.seen ++ unitsT z.staged)

theorem walk {name onn owner : ByteArray} {bt : Bool} {size slide atv : Int} {cp lp : Option Addr} {cn cc ln lc : Nat} {cols : List Col} {gl : List (List (List Row))} {W : World} {K : Value → World → Prop}
    (hcols : Cols W cp cols) (hcl : cols.length = cn) (hcc : cn ≤ cc) (hl : GrpsS (Lo W) W lp ln gl) (hw : ∀ bl ∈ gl, ∀ rows ∈ bl, WfR rows) (hK : ∀ w', Upd Nothing W w' → K (.bool true) w') :
    CallsV prog F.affluxlaw19_WindowBack #[.agg #[.string name, .string onn, .string owner, .bool bt, .int .i64 size, .int .i64 slide], .slice cp cn cc, .slice lp ln lc, .int .i64 atv] W K := by
  refine R.affluxlaw19_WindowBack ?_
  unfold C.affluxlaw19_WindowBack
  have haw : ∀ w1, Upd Nothing W w1 → CallsV prog F.affluxlaw19_awake #[] w1 (fun v w2 => ∃ r : Bool, v = .bool r ∧ K (.bool r) w2) := fun w1 hu1 => awake19_spec fun w2 hu2 => ⟨true, rfl, hK _ (hu1.then hu2)⟩
  have hgl := hl.2
  refine New.use (by simp [Value.oneCell']) fun g1 w1 hb1 hu1 hge1 _ => ⟨fun w' => Upd Nothing w1 w' ∧ cn ≤ 8 ∧ SmallG gl, ?_, ?_⟩
  · exact ⟨_, _, _, _, _, _, six_cells hb1, great19_spec (hl.upd0 hu1) fun b w2 hb hu2 => ⟨b, rfl, ifB_mk (fun _ => haw _ (hu1.then hu2)) (fun h => awake19_spec fun w4 hu4 => ⟨true, rfl, ifB_mk (fun h => by cases h) (fun _ => ⟨hu2.then hu4, hb h⟩)⟩)⟩⟩
  rintro w6 ⟨hu6, hn8, hsm⟩
  have hln20 : ln ≤ 20 := by have := hsm.1; omega
  have hu06 := hu1.then hu6
  refine ⟨_, _, _, _, _, _, six_cells (hu6.blk hb1 fun f => f), new_spec (hcols.upd0 hu06) hcl (by omega) (fun w7 hn hu7 => ?_) (fun g w7 hr hwin hu7 hge => ?_)⟩
  · exact ⟨_, _, rfl, ifB_mk (fun _ => hK _ (hu06.then hu7)) (fun h => by cases h)⟩
  refine ⟨_, _, rfl, ifB_mk (fun h => by cases h) (fun _ => ?_)⟩
  have hgW : W.heap.size ≤ g := by have := hu06.size; omega
  refine New.use (by simp [Value.oneCell']) fun j w8 hb8 hu8 hge8 _ => ?_
  have hu07 := hu06.then hu7
  have hjW : W.heap.size ≤ j := by have := hu07.size; omega
  have hu08 := hu07.then hu8
  obtain ⟨_, _, _, ⟨hs1, hs2⟩, hs3, hs4⟩ := hr
  obtain ⟨sz, rfl⟩ : ∃ n : Nat, size = n := ⟨size.toNat, by omega⟩
  obtain ⟨sl, rfl⟩ : ∃ n : Nat, slide = n := ⟨slide.toNat, by omega⟩
  have hwin8 : WinAt w8 g ⟨name, onn, owner, bt, sz, sl, [], [], cols⟩ := hwin.upd0 hu8
  have hnl1 : IntKind.i64.wrap (((ln : Nat) : Int) + 1) = ((ln + 1 : Nat) : Int) := by rw [i64_wrap (by omega) (by omega)]; omega
  refine ⟨by rw [hnl1, u64_self (by omega)]; omega, ?_⟩
  have hS0 : SmallU ([] : List Unit') := ⟨by simp, fun u hu => by (cases hu)⟩
  refine bytes_spec hwin8 hS0 hS0 fun w9 hu9 => ⟨_, rfl, ?_⟩
  -- what holds at each group
  let St : List Win → Win → World → Prop := fun hs x w' => (x.batches = bt ∧ x.cols = cols) ∧ WOk x ∧ (∃ all, x.Has all ∧ SmallA all) ∧ WinAt w' g x ∧ JAt W.heap.size w' j g hs ∧ Upd (On W) W w' ∧ (∀ (i : Nat) z, (hs ++ [x])[i]? = some z → SmallU z.seen ∧ SmallU z.staged) ∧ ∃ z0, (hs ++ [x])[0]? = some z0 ∧ z0.seen = [] ∧ z0.staged = []
  have hSt0 : ∀ {hs x w' w''}, St hs x w' → Upd Nothing w' w'' → St hs x w'' := fun ⟨a, b, h, wi, jt, u, s, z⟩ hu => ⟨a, b, h, wi.upd0 hu, jt.upd0 hu, on_next u hu fun _ f => f.elim, s, z⟩
  have hSu : ∀ {hs x w'}, St hs x w' → Upd (On W) W w' := fun ⟨_, _, _, _, _, u, _⟩ => u
  have hSx : ∀ {hs x w'}, St hs x w' → SmallU x.seen ∧ SmallU x.staged := fun {hs x w'} ⟨_, _, _, _, _, _, s, _⟩ => s hs.length x (by simp)
  have hput : ∀ {hs x w'} {k : Nat} {e : Option Addr} {n c : Nat} {Q : Value → World → Prop} (hkg : k < gl.length), St hs x w' → hs.length ≤ 100 → BatsS (Lo W) w' e n gl[k] → (∀ (r1 r2 : Int) hs' x' w'', St hs' x' w'' → hs'.length ≤ hs.length + 1 → (∀ M, M ≤ hs.length → M ≤ hs'.length ∧ (hs' ++ [x'])[M]? = (hs ++ [x])[M]?) → Q (.tuple #[.int .i64 r1, .int .i64 r2]) w'') →
      CallsV prog F.window_Window_Put #[.pointer (some ⟨g, 0, none⟩), .pointer (some ⟨j, 0, none⟩), .slice e n c] w' Q := by
    intro hs x w' k e n c Q hkg hst hlen hbt hQ
    have hst' := hst
    obtain ⟨⟨e1, e2⟩, hwok, ⟨all, hhas, hsA⟩, hwi, hjt, hu, hsU, z0, hz0, hz1, hz2⟩ := hst'
    have hmem := List.getElem_mem hkg
    obtain ⟨hb10', hrows⟩ := hsm.2 _ hmem
    have hbl := hbt.2
    refine put_spec (S := Lo W) (N := fun w2 => JAt W.heap.size w2 j g (hs ++ [x]) ∧ WinAt w2 g x ∧ Upd (On W) w' w2) hwi hwok (fun k' hk' e => by have hk'' : k' < W.heap.size := hk'; omega) hbt (by omega) (fun rows hr => (hrows rows hr).1) (fun rows hr r hrr => (hrows rows hr).2 r hrr) (by rw [e2, hcl]; omega)
      (fun wa b Q' hua hwa hta hla hQ' => note_spec (hjt.upd0 hua) hta hwa hla (fun _ h => h) hjW (by omega) fun w2 k1 k2 k3 k4 => hQ' w2 k1 k2 ⟨k3, k1, (hua.mono fun _ _ f => f.elim).then k4⟩)
      (fun w14 hnf hwi14 hu14 => hQ _ _ hs x w14 (hSt0 hst hu14) (by omega) fun M hM => ⟨hM, rfl⟩)
      (fun w14 w2 hfit hN hu14 hwi14 => ?_)
    obtain ⟨hj2, hwi2, hon2⟩ := hN
    obtain ⟨L, hbw⟩ : ∃ L, Blk w2 g L T.window_Window := by obtain ⟨_, _, _, _, _, _, hb, _⟩ := hwi2; exact ⟨_, hb⟩
    rw [e1] at hwi14 ⊢
    generalize hus : unitsOfAll bt gl[k] = us at hwi14 ⊢
    obtain ⟨hh1, hh2, hh3⟩ := Win.Has.comes us hhas hwok.1
    obtain ⟨_, _, _, f1, f2, f3, f4⟩ := comes_same us x
    have hsA' : SmallA (all ++ us) := by
      intro u hu
      rcases List.mem_append.1 hu with hu | hu
      · exact hsA u hu
      · exact small_units (b := bt) (hsm.2 _ hmem) (hw _ hmem) u (by rw [hus]; exact hu)
    have hwok' := WOk.comes us hwok
    have happ : ∀ M, M ≤ hs.length → ((hs ++ [x]) ++ [(x.comes us).1])[M]? = (hs ++ [x])[M]? := fun M hM => List.getElem?_append_left (by simp; omega)
    refine hQ _ _ (hs ++ [x]) (x.comes us).1 w14 ⟨⟨f1.trans e1, f4.trans e2⟩, hwok', ⟨_, hh1, hsA'⟩, hwi14, hj2.one hbw hu14, on_next (on_next hu hon2 fun _ h => h) hu14 (fun k hk => by rw [show k = g from hk]; exact hgW), fun i z hi => ?_, z0, by rw [happ 0 (by omega)]; exact hz0, hz1, hz2⟩ (by simp) fun M hM => ⟨by simp; omega, happ M hM⟩
    by_cases hil : i < (hs ++ [x]).length
    · rw [List.getElem?_append_left hil] at hi
      exact hsU i z hi
    · rw [List.getElem?_append_right (by omega)] at hi
      have : z = (x.comes us).1 := by
        have := List.mem_of_getElem? hi
        simpa using this
      subst this
      exact has_small hwok' hh1 hsA'
  have hgrp : ∀ w' (k : Nat) (hkg : k < gl.length), Upd (On W) W w' → ∃ (a : Addr) (q : Option Addr) (m d : Nat), lp = some a ∧ Lo W a.block ∧ w'.cell? (a.add (k * 1)) = some (.slice q m d) ∧ BatsS (Lo W) w' q m gl[k] ∧ m ≤ d := fun w' k hkg hu => (hl.keep hu (fun k hk f => by have hk' : k < W.heap.size := hk; have f' : W.heap.size ≤ k := f; omega)).1 k hkg
  have hst9 : St [] ⟨name, onn, owner, bt, sz, sl, [], [], cols⟩ w9 := by
    refine ⟨⟨rfl, rfl⟩, ⟨by show 1 ≤ sl; omega, by show sl ≤ sz; omega, by show sz ≤ 100; omega, by show 0 ≤ sz; omega, by show 0 < sl; omega⟩, ⟨[], ⟨by simp [seenOf], by simp [stagedOf]⟩, fun u hu => by (cases hu)⟩, hwin8.upd0 hu9, ⟨none, 0, [], hu9.blk hb8 fun f => f, Own.nil _ _ _, fun i hi => by simp at hi, fun k hk => by have := hk.1; omega⟩, (hu08.then hu9).mono fun _ _ f => f.elim, fun i z hi => ?_, ⟨_, rfl, rfl, rfl⟩⟩
    have := List.mem_of_getElem? hi
    have : z = ⟨name, onn, owner, bt, sz, sl, [], [], cols⟩ := by simpa using this
    subst this
    exact ⟨hS0, hS0⟩
  refine ⟨fun was mark i w' => ∃ (k : Nat) (hs : List Win) (x : Win) (M : Nat) (z : Win), i = k ∧ k ≤ ln ∧ hs.length ≤ k ∧ St hs x w' ∧ mark = (M : Int) ∧ M ≤ hs.length ∧ (hs ++ [x])[M]? = some z ∧ was = bytesW z, fun _ _ i _ => ln - i.toNat, ⟨0, [], _, 0, _, rfl, by omega, Nat.le_refl _, hst9, rfl, Nat.le_refl _, rfl, rfl⟩, ?_⟩
  rintro was mark i w10 ⟨k, hs, x, M, z, rfl, hk, hlen, hst, rfl, hM, hz, rfl⟩
  have hnk : (k : Int) + 1 = ((k + 1 : Nat) : Int) := by omega
  refine ifB_mk (fun h1 => ?_) (fun h1 => ?_)
  · have hkn : k < ln := by have := of_decide_eq_true h1; omega
    have hkg : k < gl.length := by omega
    have hwk : IntKind.i64.wrap ((k : Int) + 1) = ((k + 1 : Nat) : Int) := by rw [i64_wrap (by omega) (by omega), hnk]
    rw [hwk]
    refine ifB_mk (fun _ => ?_) (fun _ => ?_)
    · obtain ⟨_, _, _, hwi, _⟩ := id hst
      refine bytes_spec hwi (hSx hst).1 (hSx hst).2 fun w11 hu11 => ⟨_, rfl, ?_⟩
      have hst11 := hSt0 hst hu11
      obtain ⟨_, _, _, _, hjt, _⟩ := id hst11
      refine mark_spec hjt ⟨_, rfl, ?_⟩
      obtain ⟨a, q, m, d, ha, _, hc, hbt, _⟩ := hgrp _ k hkg (hSu hst11)
      refine ⟨a, ha, by omega, by omega, _, _, _, hc, hput hkg hst11 (by omega) hbt fun r1 r2 hs' x' w'' hst' hl' hM' => ⟨_, _, rfl, ⟨k + 1, hs', x', hs.length, x, rfl, by omega, by omega, hst', rfl, (hM' _ (Nat.le_refl _)).1, ?_, rfl⟩, by show ln - _ < ln - _; omega⟩⟩
      rw [(hM' _ (Nat.le_refl _)).2]
      simp
    · obtain ⟨a, q, m, d, ha, _, hc, hbt, _⟩ := hgrp _ k hkg (hSu hst)
      refine ⟨a, ha, by omega, by omega, _, _, _, hc, hput hkg hst (by omega) hbt fun r1 r2 hs' x' w'' hst' hl' hM' => ⟨_, _, rfl, ⟨k + 1, hs', x', M, z, rfl, by omega, by omega, hst', rfl, (hM' _ hM).1, ?_, rfl⟩, by show ln - _ < ln - _; omega⟩⟩
      rw [(hM' _ hM).2]
      exact hz
  refine ⟨fun was mark w' => ∃ (hs : List Win) (x : Win) (M : Nat) (z : Win), hs.length ≤ 100 ∧ St hs x w' ∧ mark = (M : Int) ∧ M ≤ hs.length ∧ (hs ++ [x])[M]? = some z ∧ was = bytesW z, ?_, ?_⟩
  · refine ifB_mk (fun _ => ?_) (fun _ => ⟨hs, x, M, z, by omega, hst, rfl, hM, hz, rfl⟩)
    obtain ⟨_, _, _, hwi, _⟩ := id hst
    refine bytes_spec hwi (hSx hst).1 (hSx hst).2 fun w11 hu11 => ⟨_, rfl, ?_⟩
    have hst11 := hSt0 hst hu11
    obtain ⟨_, _, _, _, hjt, _⟩ := id hst11
    exact mark_spec hjt ⟨_, rfl, hs, x, hs.length, x, by omega, hst11, rfl, Nat.le_refl _, by simp, rfl⟩
  clear hM hz hst hlen
  rintro was mark w17 ⟨hs, x, M, z, hlen, hst, rfl, hM, hz, rfl⟩
  obtain ⟨_, _, _, hwi, hjt, hu, hsU, z0, hz0, hz1, hz2⟩ := id hst
  refine back_spec hM hjt hwi (by omega) hjW hgW fun y z' w18 hz' e1 e2 hwy hjy huy => ⟨_, rfl, ?_⟩
  obtain rfl : z' = z := Option.some.inj (hz'.symm.trans hz)
  obtain ⟨s1, s2⟩ := hsU M z' hz'
  rw [← e1] at s1
  rw [← e2] at s2
  refine bytes_spec hwy s1 s2 fun w19 hu19 => ⟨_, rfl, ?_⟩
  have hbe : tx (unitsT y.seen ++ unitsT y.staged) = bytesW z' := by unfold bytesW; rw [e1, e2]
  rw [hbe]
  refine ifB_mk (fun h => by rw [sEq_self] at h; cases h) (fun _ => ?_)
  have hon18 := on_next hu huy fun _ h => h
  have hon19 : Upd (On W) W w19 := on_next hon18 hu19 fun _ f => f.elim
  refine back_spec (M := 0) (Nat.zero_le _) (hjy.upd0 hu19) (hwy.upd0 hu19) (by simp; omega) hjW hgW fun y2 z2 w20 hz2' f1 f2 hwy2 _ hu20 => ⟨_, rfl, ?_⟩
  have hend : y2.seen = [] ∧ y2.staged = [] := by
    rw [f1, f2]
    by_cases hM0 : M = 0
    · subst hM0
      have hzy : z2 = y := by simpa using hz2'.symm
      rw [hzy, e1, e2]
      have : z' = z0 := Option.some.inj (hz'.symm.trans hz0)
      rw [this]
      exact ⟨hz1, hz2⟩
    · have hlen0 : 0 < hs.length := by omega
      have h3 : (hs.take M ++ [y])[0]? = (hs ++ [x])[0]? := by
        rw [List.getElem?_append_left (by simp; omega), List.getElem?_append_left hlen0, List.getElem?_take, if_pos (by omega)]
      rw [h3, hz0] at hz2'
      have : z2 = z0 := (Option.some.inj hz2').symm
      rw [this]
      exact ⟨hz1, hz2⟩
  obtain ⟨n1, n2⟩ := hend
  have hon20 : Upd (On W) W w20 := on_next hon19 hu20 fun _ h => h
  refine seen_spec hwy2 ⟨_, rfl, ?_⟩
  rw [n1]
  refine ifB_mk (fun _ => ?_) (fun h => by cases h)
  refine staged_spec hwy2 ⟨_, rfl, ?_⟩
  rw [n2]
  refine ifB_mk (fun _ => ?_) (fun h => by cases h)
  refine wrows_spec hwy2 (by rw [n1]; simp) (by rw [n1]; simp) (by rw [n1]; simp) fun p c w23 _ hu23 => ⟨_, _, _, rfl, ?_⟩
  rw [n1]
  exact hK _ (on_done (on_next hon20 hu23 fun _ f => f.elim))
theorem own : ownKnob Try.prog.godebug = none := by kernel_rfl
theorem laid : laidOutB Try.prog = true := by kernel_rfl

theorem lifted (os : Os) (started : os.Started) (H : Type) (enc : TypeId × Value → H) :
    ReturnsInHanded {} Try.checked os 8 .any (Rows.windowBackSpec.pre6 enc Try.prog Try.f8 Rows.windowBackRow.domain false) (Rows.windowBackSpec.post enc Try.prog Try.f8 false true false false) := by
  refine returnsInHanded_of_change (C := Try.checked) own started (by kernel_rfl) Try.func8
    (ChangeSpec.witness6 (enc := enc) (C := Try.checked) false ⟨#[], #[.agg #[.string ByteArray.empty, .string ByteArray.empty, .string ByteArray.empty, .bool false, .int .i64 0, .int .i64 0], .slice none 0 0, .slice none 0 0, .int .i64 0], []⟩ 8 (by kernel_rfl) (by kernel_rfl) (by kernel_rfl) (by kernel_rfl)) ?_
  intro W base args ds gs before hval0 hW hcnd _
  have hval : ∀ (j : Nat) t v, Try.f8.params[j]? = some t → args[j]? = some v → Value.okWide Try.prog W .any base t v := hval0
  have hW' := hW
  obtain ⟨p, q, hA0, hV, rfl, hfz, hnd⟩ := hW
  have hA : DataW.TrodAll enc Try.prog W 0 (fun _ => true) true Try.f8.params.toList args.toList ds p := hA0
  rw [Try.params8] at hA hval
  obtain ⟨v0, vs0, d0, ds0, p0, q0, hargs, rfl, rfl, h0, r0⟩ := trodAll_cons hA
  obtain ⟨v1, vs1, d1, ds1, p1, q1, rfl, rfl, rfl, h1, r1⟩ := trodAll_cons r0
  obtain ⟨v2, vs2, d2, ds2, p2, q2, rfl, rfl, rfl, h2, r2⟩ := trodAll_cons r1
  obtain ⟨v3, vs3, d3, ds3, p3, q3, rfl, rfl, rfl, h3, r3⟩ := trodAll_cons r2
  obtain ⟨rfl, rfl, rfl⟩ := trodAll_nil r3
  obtain rfl : args = #[v0, v1, v2, v3] := by cases args; simp_all
  obtain ⟨namex, onx, ownerx, btx, sizex, slidex, esx⟩ := rd_win (Rd.of_trod h0)
  have evx := arg_struct Try.underlying45 (hval 0 45 v0 rfl rfl) esx
  subst evx
  obtain ⟨cp, cn, cc, cols, ecp, hcc, hccm, hcols, hcl⟩ := rd_cols (Rd.of_trod h1)
  obtain rfl := Rd.arg Try.underlying46 rfl (hval 1 46 v1 rfl rfl) ecp
  obtain ⟨lp, ln, lc, gl, elp, hl, hw⟩ := rd_groups (Rd.of_trod h2)
  obtain rfl := Rd.arg Try.underlying47 rfl (hval 2 47 v2 rfl rfl) elp
  obtain ⟨a, ea, wfa⟩ := (Rd.of_trod h3).int Try.underlying3
  obtain rfl := Rd.arg Try.underlying3 rfl (hval 3 3 v3 rfl rfl) ea
  refine ((walk (W := W) (K := fun v w' => v = .bool true ∧ Upd Nothing W w') hcols hcl hcc hl hw fun w' hu => ⟨rfl, hu⟩).back Try.func8 (by kernel_rfl) (by kernel_rfl)).mono fun e W' ⟨v, he, hv, hu⟩ => ?_
  subst he; subst hv
  exact ⟨_, rfl, law_post (tb := 4) laid (by kernel_rfl) hW' rfl rfl (by kernel_rfl) Try.underlying4 hu⟩

theorem over : Rows.WindowBackSaid :=
  OpenClaim.holds_of_wide 8 Try.f8 rfl rfl rfl rfl rfl rfl rfl ⟨rfl, rfl, rfl, rfl, rfl⟩ rfl rfl rfl rfl rfl (by kernel_rfl) Try.func8 (by kernel_rfl)
    (of_decide_eq_true (by kernel_rfl)) (by unfold Func.isWrapper; first | (rw [if_pos (by decide +kernel)]; kernel_rfl) | (rw [if_neg (by decide +kernel)]; exact ⟨rfl, rfl⟩))
    (fun os started H enc _ => lifted os started H enc)

#print axioms over
end WBack
end Go.Proofs.Ytjcgociobhhijaa
