/- Windows: how much there may be; the example. -/
import Derived.Test.YtjcgociobhhijaaWF
set_option linter.unusedVariables false
set_option linter.unusedSimpArgs false
set_option maxRecDepth 100000
namespace Go.Proofs.Ytjcgociobhhijaa
open Go Go.Proofs.Ytjcgociobhhijaa.SX Va Cd Sc
namespace Wn
/-- Groups of batches in memory, in blocks of S. -/
def GrpsS (S : Nat → Prop) (w : World) (p : Option Addr) (n : Nat) (gl : List (List (List Row))) : Prop := (∀ i (h : i < gl.length), ∃ (a : Addr) (q : Option Addr) (m d : Nat), p = some a ∧ S a.block ∧ w.cell? (a.add (i * 1)) = some (.slice q m d) ∧ BatsS S w q m gl[i] ∧ m ≤ d) ∧ gl.length = n
theorem GrpsS.keep {S F : Nat → Prop} {w w' : World} {p : Option Addr} {n : Nat} {gl : List (List (List Row))} (h : GrpsS S w p n gl) (hu : Upd F w w') (hS : ∀ k, S k → ¬ F k) : GrpsS S w' p n gl := ⟨fun i hi => by
  obtain ⟨a, q, m, d, ha, hs, hc, hb, hd⟩ := h.1 i hi
  exact ⟨a, q, m, d, ha, hs, hu.cell hc (by rw [addr_block]; exact hS _ hs), hb.keep hu hS, hd⟩, h.2⟩
theorem GrpsS.upd0 {S : Nat → Prop} {w w' : World} {p : Option Addr} {n : Nat} {gl : List (List (List Row))} (h : GrpsS S w p n gl) (hu : Upd Nothing w w') : GrpsS S w' p n gl := h.keep hu fun _ _ f => f
def SmallR (rows : List Row) : Prop := rows.length ≤ 40 ∧ ∀ r ∈ rows, r.length ≤ 30
def SmallB (bl : List (List Row)) : Prop := bl.length ≤ 10 ∧ ∀ rows ∈ bl, SmallR rows
def SmallG (gl : List (List (List Row))) : Prop := gl.length ≤ 20 ∧ ∀ bl ∈ gl, SmallB bl
theorem great_len' {xs : List Val} (h : great xs = false) : xs.length ≤ 30 := by
  unfold great at h
  rw [Bool.or_eq_false_iff] at h
  have := of_decide_eq_false h.1
  omega

section
variable {w : World} {K : Value → World → Prop} {p q : Option Addr} {n c m d g B : Nat} {x : Win}
theorem great19_spec {S : Nat → Prop} {name onn owner : ByteArray} {bt : Bool} {size slide : Int} {gl : List (List (List Row))} (hl : GrpsS S w q m gl) (hK : ∀ (b : Bool) w', (b = false → n ≤ 8 ∧ SmallG gl) → Upd Nothing w w' → K (.bool b) w') :
    CallsV prog F.affluxlaw19_great #[.agg #[.string name, .string onn, .string owner, .bool bt, .int .i64 size, .int .i64 slide], .slice p n c, .slice q m d] w K :=
  R.affluxlaw19_great (by
    unfold C.affluxlaw19_great
    have htrue : ∀ w', Upd Nothing w w' → K (.bool true) w' := fun w' hu => hK _ _ (fun h => by cases h) hu
    have hgl := hl.2
    refine New.use (by simp [Value.oneCell']) fun g1 w1 hb1 hu1 hge1 _ => ⟨fun w' => Upd Nothing w w' ∧ n ≤ 8 ∧ m ≤ 20, ?_, ?_⟩
    · refine ifB_mk (fun _ => htrue _ hu1) (fun h1 => ifB_mk (fun _ => htrue _ hu1) (fun h2 => ⟨_, hb1.cell (i := 0) rfl, ifB_mk (fun _ => htrue _ hu1) (fun _ => ⟨_, hb1.cell (i := 1) rfl, ifB_mk (fun _ => htrue _ hu1) (fun _ => ⟨_, hb1.cell (i := 2) rfl, ifB_mk (fun _ => htrue _ hu1) (fun _ => ⟨hu1, ?_, ?_⟩)⟩)⟩)⟩))
      · have := of_decide_eq_false h1; omega
      · have := of_decide_eq_false h2; omega
    rintro w2 ⟨hu2, hn8, hm20⟩
    refine ⟨fun i w' => ∃ k : Nat, i = k ∧ k ≤ m ∧ Upd Nothing w w' ∧ ∀ bl ∈ gl.take k, SmallB bl, fun i _ => m - i.toNat, ⟨0, rfl, by omega, hu2, by simp⟩, ?_⟩
    rintro i w3 ⟨k, rfl, hk, hu3, hq⟩
    refine ifB_mk (fun h1 => ?_) (fun h1 => ?_)
    · have hkm : k < m := by have := of_decide_eq_true h1; omega
      have hkg : k < gl.length := by omega
      have hg := fun w' (hu : Upd Nothing w w') => (hl.upd0 hu).1 k hkg
      obtain ⟨a, q1, m1, d1, ha, _, hc, hbt, hd⟩ := hg w3 hu3
      refine ⟨a, ha, by omega, by omega, _, _, _, hc, ifB_mk (fun _ => htrue _ hu3) (fun h2 => ?_)⟩
      have hm10 : m1 ≤ 10 := by have := of_decide_eq_false h2; omega
      have hbl := hbt.2
      refine ⟨fun i w' => ∃ j : Nat, i = j ∧ j ≤ m1 ∧ Upd Nothing w3 w' ∧ ∀ rows ∈ gl[k].take j, SmallR rows, fun i _ => m1 - i.toNat, ⟨0, rfl, by omega, Upd.refl _ _, by simp⟩, ?_⟩
      rintro i w4 ⟨j, rfl, hj, hu4, hq4⟩
      have hc4 := hu4.cell hc fun f => f
      refine ⟨a, ha, by omega, by omega, _, _, _, hc4, ifB_mk (fun h3 => ?_) (fun h3 => ?_)⟩
      · have hjm : j < m1 := by have := of_decide_eq_true h3; omega
        have hjb : j < gl[k].length := by omega
        obtain ⟨a4, id, q2, m2, d2, ha4, _, hcell, hrows, hd2⟩ := (hbt.upd0 hu4).1 j hjb
        have hrl : gl[k][j].length = m2 := by obtain ⟨_, _, _, _, hh⟩ := hrows; exact hh
        refine ⟨a, ha, by omega, by omega, _, _, _, hc4, a4, ha4, by omega, by omega, _, _, _, hcell.2.1, ifB_mk (fun _ => htrue _ (hu3.then hu4)) (fun h4 => ?_)⟩
        have hm40 : m2 ≤ 40 := by have := of_decide_eq_false h4; omega
        refine ⟨fun i w' => ∃ t : Nat, i = t ∧ t ≤ m2 ∧ Upd Nothing w4 w' ∧ ∀ r ∈ gl[k][j].take t, r.length ≤ 30, fun i _ => m2 - i.toNat, ⟨0, rfl, by omega, Upd.refl _ _, by simp⟩, ?_⟩
        rintro i w5 ⟨t, rfl, ht, hu5, hq5⟩
        have hc5 := hu5.cell hc4 fun f => f
        have hcell5 := cellsAt_upd hu5 (fun f => f) hcell
        refine ⟨a, ha, by omega, by omega, _, _, _, hc5, a4, ha4, by omega, by omega, _, _, _, hcell5.2.1, ifB_mk (fun h5 => ?_) (fun h5 => ?_)⟩
        · have htm : t < m2 := by have := of_decide_eq_true h5; omega
          have htr : t < gl[k][j].length := by omega
          obtain ⟨a9, q6, m6, d6, ha9, hc9, hat9, hl9, hd9⟩ := ((rows_plain hrows).upd0 hu5) t htr
          refine ⟨a, ha, by omega, by omega, _, _, _, hc5, a4, ha4, by omega, by omega, _, _, _, hcell5.2.1, a9, ha9, by omega, by omega, _, _, _, by simpa using hc9, ?_⟩
          refine great_spec hat9 hl9 fun w6 hu6 => ⟨_, rfl, ifB_mk (fun _ => htrue _ ((hu3.then hu4).then (hu5.then hu6))) (fun h6 => ?_)⟩
          exact scan_next (Q := fun t => ∀ r ∈ gl[k][j].take t, r.length ≤ 30) htm (by omega) (hu5.then hu6) (forall_take htr hq5 (great_len' h6))
        · have htm : t = m2 := by have := of_decide_eq_false h5; omega
          rw [htm, List.take_of_length_le (by omega)] at hq5
          exact scan_next (Q := fun j => ∀ rows ∈ gl[k].take j, SmallR rows) hjm (by omega) (hu4.then hu5) (forall_take hjb hq4 ⟨by omega, hq5⟩)
      · have hjm : j = m1 := by have := of_decide_eq_false h3; omega
        rw [hjm, List.take_of_length_le (by omega)] at hq4
        exact scan_next (Q := fun k => ∀ bl ∈ gl.take k, SmallB bl) hkm (by omega) (hu3.then hu4) (forall_take hkg hq ⟨by omega, hq4⟩)
    · have hkm : k = m := by have := of_decide_eq_false h1; omega
      rw [hkm, List.take_of_length_le (by omega)] at hq
      exact hK _ _ (fun _ => ⟨hn8, by omega, hq⟩) hu3)

/-! ### the example -/
abbrev num (i : Int) : Row := [⟨1, i, bs []⟩]
theorem row_up {S : Nat → Prop} {w' : World} {r : Row} (h : RowS (fun _ => S) w q m r) (hu : Upd Nothing w w') : RowS (fun _ => S) w' q m r := h.keep ⟨hu, fun k _ hs => ⟨fun f => f, hs⟩⟩
theorem rws_up {S : Nat → Prop} {w' : World} {r : List Row} (h : RwsS' (fun _ => S) w q m r) (hu : Upd Nothing w w') : RwsS' (fun _ => S) w' q m r := rows_keep h ⟨hu, fun k _ hs => ⟨fun f => f, hs⟩⟩
theorem num_spec {S : Nat → Prop} {i : Int} (hS : ∀ k, w.heap.size ≤ k → S k) (hK : ∀ b w', RowS (fun _ => S) w' (some ⟨b, 0, none⟩) 1 (num i) → Upd Nothing w w' → K (.slice (some ⟨b, 0, none⟩) 1 1) w') : CallsV prog F.affluxlaw19_num #[.int .i64 i] w K :=
  R.affluxlaw19_num (by
    unfold C.affluxlaw19_num
    refine New.use (by simp [Value.oneCell']) fun g1 w1 hb1 hu1 hge1 _ => hK _ _ ⟨At.of_blk hb1 fun j v hj => by rw [Nat.zero_add]; exact hj, fun _ b hb => ?_, rfl⟩ hu1
    injection hb with hb
    subst hb
    exact hS _ hge1)
def xw : Win := ⟨bs [119], bs [115], bs [112], false, 3, 2, [], [], [⟨bs [97], 1⟩]⟩
theorem xw_comes : xw.comes (unitsOfAll false [[num 1, num 2, num 3], [num 4, num 5]]) = (⟨bs [119], bs [115], bs [112], false, 3, 2, [[num 2], [num 3], [num 4]], [[num 5]], [⟨bs [97], 1⟩]⟩, 2) := by rfl
theorem num_right (i : Int) : Val.right ⟨1, i, bs []⟩ = true := by
  unfold Val.right
  have : sEq (bs []) ⟨#[]⟩ = true := sEq_self _
  simp [this]
theorem num_fits (i : Int) : FitsP [⟨bs [97], 1⟩] (num i) := ⟨rfl, by simp [num_right], fun j h h' => by
  have : j = 0 := by simpa using h
  subst this
  rfl⟩
theorem bats_two {S : Nat → Prop} {w : World} {g4 : Nat} {p1 p2 : Option Addr} {n1 c1 n2 c2 : Nat} {id1 id2 : Int} {r1 r2 : List Row} (hb : Blk w g4 [.int .i64 id1, .slice p1 n1 c1, .int .i64 id2, .slice p2 n2 c2] T.stream_Batch) (hS : S g4) (h1 : RwsS' (fun _ => S) w p1 n1 r1) (l1 : n1 ≤ c1) (h2 : RwsS' (fun _ => S) w p2 n2 r2) (l2 : n2 ≤ c2) :
    BatsS S w (some ⟨g4, 0, none⟩) 2 [r1, r2] := ⟨fun i hi => by
  have : i = 0 ∨ i = 1 := by simp at hi; omega
  rcases this with rfl | rfl
  · exact ⟨_, id1, p1, n1, c1, rfl, hS, ⟨hb.cell (i := 0) rfl, hb.cell (i := 1) rfl, trivial⟩, h1, l1⟩
  · exact ⟨_, id2, p2, n2, c2, rfl, hS, ⟨hb.cell (i := 2) rfl, hb.cell (i := 3) rfl, trivial⟩, h2, l2⟩, rfl⟩

theorem note_none {N : World → Prop} {S : Nat → Prop} {bl : List (List Row)} (hN : ∀ w1, Upd Nothing w w1 → N w1) : ∀ w1 b (Q : Value → World → Prop), Upd Nothing w w1 → WinAt w1 g x → Told w1 g x b → BatsS S w1 p n bl → (∀ w2, WinAt w2 g x → BatsS S w2 p n bl → N w2 → Q (.tuple #[]) w2) → CallsV prog F.undo_Journal_Note #[.pointer none, .slice (some (Addr.mk b 0 none)) 1 1] w1 Q :=
  fun w1 b Q hu hw _ hl hQ => R.undo_Journal_Note (by
    unfold C.undo_Journal_Note
    exact ifB_mk (fun h => by cases h) (fun _ => hQ w1 hw hl (hN w1 hu)))

theorem awake19_spec (hK : ∀ w', Upd Nothing w w' → K (.bool true) w') : CallsV prog F.affluxlaw19_awake #[] w K :=
  R.affluxlaw19_awake (by
    unfold C.affluxlaw19_awake
    have hright : WRight (bs [119]) (bs [115]) (bs [112]) 3 2 := ⟨name_one (by decide) (by decide), name_one (by decide) (by decide), name_one (by decide) (by decide), ⟨by decide, by decide⟩, by decide, by decide⟩
    refine New.use (by simp [Value.oneCell']) fun g1 w1 hb1 hu1 hge1 _ => ?_
    have hcols : Cols w1 (some ⟨g1, 0, none⟩) [⟨bs [97], 1⟩] := cols_of_at (At.of_blk hb1 fun j v hj => by rw [Nat.zero_add]; exact hj)
    refine new_spec hcols rfl (by decide) (fun _ h => absurd hright h) fun g w2 _ hwin hu2 hge => ⟨_, _, rfl, ?_⟩
    have hwin : WinAt w2 g xw := hwin
    have hlt : g < w2.heap.size := by obtain ⟨_, _, _, _, _, _, hb, _⟩ := hwin; exact hb.lt
    let S : Nat → Prop := fun k => k ≠ g
    have hS : ∀ w', Upd Nothing w2 w' → ∀ k, w'.heap.size ≤ k → S k := fun w' hu k hk => by have := hu.size; show k ≠ g; omega
    refine num_spec (S := S) (hS _ (Upd.refl _ _)) fun b1 w3 r1 hu3 => ⟨_, _, _, rfl, num_spec (S := S) (hS _ hu3) fun b2 w4 r2 hu4 => ⟨_, _, _, rfl, num_spec (S := S) (hS _ (hu3.then hu4)) fun b3 w5 r3 hu5 => ⟨_, _, _, rfl, ?_⟩⟩⟩
    have hu25 := (hu3.then hu4).then hu5
    refine New.use (by simp [Value.oneCell']) fun g6 w6 hb6 hu6 hge6 _ => ?_
    have hu26 := hu25.then hu6
    have hrA : RwsS' (fun _ => S) w6 (some ⟨g6, 0, none⟩) 3 [num 1, num 2, num 3] := ⟨_, At.of_blk hb6 fun j v hj => by rw [Nat.zero_add]; exact hj, fun _ b hb => by injection hb with hb; subst hb; exact hS _ hu25 _ hge6,
      SlE.append (xs := [_]) (SlE.one (row_up (row_up (row_up r1 hu4) hu5) hu6) (Nat.le_refl _)) (SlE.append (xs := [_]) (SlE.one (row_up (row_up r2 hu5) hu6) (Nat.le_refl _)) (SlE.one (row_up r3 hu6) (Nat.le_refl _))), rfl⟩
    refine num_spec (S := S) (hS _ hu26) fun b4 w7 r4 hu7 => ⟨_, _, _, rfl, num_spec (S := S) (hS _ (hu26.then hu7)) fun b5 w8 r5 hu8 => ⟨_, _, _, rfl, ?_⟩⟩
    have hu28 := (hu26.then hu7).then hu8
    refine New.use (by simp [Value.oneCell']) fun g9 w9 hb9 hu9 hge9 _ => ?_
    have hrB : RwsS' (fun _ => S) w9 (some ⟨g9, 0, none⟩) 2 [num 4, num 5] := ⟨_, At.of_blk hb9 fun j v hj => by rw [Nat.zero_add]; exact hj, fun _ b hb => by injection hb with hb; subst hb; exact hS _ hu28 _ hge9,
      SlE.append (xs := [_]) (SlE.one (row_up (row_up r4 hu8) hu9) (Nat.le_refl _)) (SlE.one (row_up r5 hu9) (Nat.le_refl _)), rfl⟩
    refine New.use (by simp [Value.oneCell']) fun g10 w10 hb10 hu10 hge10 _ => ?_
    have hu29 := hu28.then hu9
    have hu210 := hu29.then hu10
    have hbats := bats_two (S := S) hb10 (hS _ hu29 _ hge10) (rws_up hrA (((hu7.then hu8).then hu9).then hu10)) (Nat.le_refl _) (rws_up hrB hu10) (Nat.le_refl _)
    have hfit : ∀ rows ∈ [[num 1, num 2, num 3], [num 4, num 5]], FitR xw.cols rows := by
      intro rows hr
      simp only [List.mem_cons, List.mem_nil_iff, or_false] at hr
      rcases hr with rfl | rfl <;> refine ⟨fun r hr => ?_, by decide⟩ <;> simp only [List.mem_cons, List.mem_nil_iff, or_false] at hr
      · rcases hr with rfl | rfl | rfl <;> exact num_fits _
      · rcases hr with rfl | rfl <;> exact num_fits _
    have h40 : ∀ rows ∈ [[num 1, num 2, num 3], [num 4, num 5]], rows.length ≤ 40 := by
      intro rows hr
      simp only [List.mem_cons, List.mem_nil_iff, or_false] at hr
      rcases hr with rfl | rfl <;> decide
    have h30 : ∀ rows ∈ [[num 1, num 2, num 3], [num 4, num 5]], ∀ r ∈ rows, r.length ≤ 30 := by
      intro rows hr r hr'
      have := ((hfit rows hr).1 r hr').1
      rw [this]
      decide
    have hok : WOk xw := by unfold WOk; decide
    refine put_spec (N := fun w' => Upd Nothing w10 w') (hwin.upd0 hu210) hok (fun _ h => h) hbats (by decide) h40 h30 (by decide) (note_none fun _ h => h) (fun _ h => absurd hfit h) fun w11 w12 _ hu12 hu11 hwin' => ⟨_, _, rfl, ?_⟩
    have hbt : xw.batches = false := rfl
    rw [hbt, xw_comes] at hwin'
    rw [hbt, xw_comes]
    have hu : Upd Nothing w w11 := ((hu1.then hu2).then (hu210.then hu12)).fresh hu11 fun i hi => by rw [show i = g from hi]; have := hu1.size; omega
    refine ifB_mk (fun _ => ?_) (fun h => by cases h)
    refine ifB_mk (fun _ => ?_) (fun h => by cases h)
    refine ifB_mk (fun _ => ?_) (fun h => by cases h)
    refine wrows_spec hwin' (by decide) (by decide) (by decide) fun p13 c13 w13 hrows hu13 => ⟨_, _, _, rfl, ?_⟩
    have hT : ∀ (w' : World) k, w'.heap.size ≤ k → (fun _ => True) k := fun _ _ _ => trivial
    refine num_spec (hT _) fun b14 w14 s2 hu14 => ⟨_, _, _, rfl, num_spec (hT _) fun b15 w15 s3 hu15 => ⟨_, _, _, rfl, num_spec (hT _) fun b16 w16 s4 hu16 => ⟨_, _, _, rfl, ?_⟩⟩⟩
    refine New.use (by simp [Value.oneCell']) fun g17 w17 hb17 hu17 hge17 _ => ?_
    have hrC : RwsS' (fun _ _ => True) w17 (some ⟨g17, 0, none⟩) 3 [num 2, num 3, num 4] := ⟨_, At.of_blk hb17 fun j v hj => by rw [Nat.zero_add]; exact hj, fun _ _ _ => trivial,
      SlE.append (xs := [_]) (SlE.one (row_up (row_up (row_up s2 hu15) hu16) hu17) (Nat.le_refl _)) (SlE.append (xs := [_]) (SlE.one (row_up (row_up s3 hu16) hu17) (Nat.le_refl _)) (SlE.one (row_up s4 hu17) (Nat.le_refl _))), rfl⟩
    have hu1317 := ((hu14.then hu15).then hu16).then hu17
    refine rsame4_spec (ys := [num 2, num 3, num 4]) (hrows.upd0 hu1317) rfl (rows_plain hrC) rfl (by decide) (by decide) fun b w18 hb18 hu18 => ⟨b, rfl, ifB_mk (fun _ => ?_) (fun h => by rw [hb18.2 rfl] at h; cases h)⟩
    exact staged_spec (hwin'.upd0 ((hu13.then hu1317).then hu18)) ⟨_, rfl, hK _ (hu.then ((hu13.then hu1317).then hu18))⟩)
end
end Wn
end Go.Proofs.Ytjcgociobhhijaa
