/- Windows: the document's units, what is seen and staged of them; what a window looks like; the example. -/
import Derived.Test.YtjcgociobhhijaaWE
set_option linter.unusedVariables false
set_option linter.unusedSimpArgs false
set_option maxRecDepth 100000
namespace Go.Proofs.Ytjcgociobhhijaa
open Go Go.Proofs.Ytjcgociobhhijaa.SX Va Cd Sc
namespace Wn
theorem rows_cut {S : World → Nat → Prop} {w : World} {p : Option Addr} {n c k : Nat} {rows : List Row} (h : RwsS' S w p n rows) (hk : k < rows.length) (hc : n ≤ c) : RwsS' S w (cutAt p k c 1) 1 [rows[k]] := by
  obtain ⟨xs, hat, hS, hsl, hn⟩ := h
  obtain ⟨q, m, d, hx, hr, hd⟩ := hsl.2 k hk
  obtain ⟨a, ha, hcell⟩ := hat k _ hx
  have hne : xs ≠ [] := fun e => by rw [e] at hx; simp at hx
  have hcut : cutAt p k c 1 = some (a.add k) := by unfold cutAt; rw [if_neg (by omega), ha]; simp
  rw [hcut]
  refine ⟨[.slice q m d], fun j v hj => ?_, fun _ b hb => ?_, SlE.one hr hd, rfl⟩
  · have : j = 0 := by
      have := (List.getElem?_eq_some_iff.1 hj).1
      simpa using this
    subst this
    refine ⟨_, rfl, ?_⟩
    rw [Addr.add_two, Nat.add_zero, hcell]
    simpa using hj
  · injection hb with hb
    rw [← hb, addr_block]
    exact hS hne a ha

/-- Blocks below B, or of lists of units. -/
def S2 (B : Nat) (w : World) (k : Nat) : Prop := k < B ∨ Typed w [T.s_s_api_Value] k
/-- All units that came, by the document. -/
def AllAt (B : Nat) (w : World) (p : Option Addr) (c : Nat) (all : List Unit') : Prop := ∃ xs, Own w T.s_s_api_Value 1 p all.length c xs ∧ SlE (RwsS' (LowS B) w) xs all ∧ ∀ k, Fp p c k → B ≤ k
theorem AllAt.keep {B : Nat} {F : Nat → Prop} {w w' : World} {p : Option Addr} {c : Nat} {all : List Unit'} (h : AllAt B w p c all) (hu : Upd F w w') (hF : ∀ k, F k → B ≤ k) (hn : ∀ k, Fp p c k → ¬ F k) : AllAt B w' p c all := by
  obtain ⟨xs, ho, hsl, hf⟩ := h
  exact ⟨xs, ho.upd hu hn, hsl.mono fun _ _ _ _ h => rows_keep h (keeps_low hu hF), hf⟩
theorem AllAt.upd0 {B : Nat} {w w' : World} {p : Option Addr} {c : Nat} {all : List Unit'} (h : AllAt B w p c all) (hu : Upd Nothing w w') : AllAt B w' p c all := h.keep hu (fun _ f => f.elim) fun _ _ f => f

section
variable {w : World} {K : Value → World → Prop} {p q : Option Addr} {n c m d g B : Nat} {x : Win}
theorem unitsAll_snoc (b : Bool) (l : List (List Row)) (k : Nat) (hk : k < l.length) : unitsOfAll b (l.take (k + 1)) = unitsOfAll b (l.take k) ++ unitsOf b l[k] := by
  rw [List.take_succ_eq_append_getElem hk]
  unfold unitsOfAll
  rw [List.flatMap_append]
  simp
theorem units19_spec {name onn owner : ByteArray} {bt : Bool} {size slide : Int} {bl : List (List Row)} (hl : BatsS (fun k => k < B) w p n bl) (hn : n ≤ 10) (hrn : ∀ rows ∈ bl, rows.length ≤ 40)
    (hK : ∀ p c xs w', Own w' T.s_s_api_Value 1 p (unitsOfAll bt bl).length c xs → SlE (RwsS' (LowS B) w') xs (unitsOfAll bt bl) → Upd Nothing w w' → (∀ k, Fp p c k → w.heap.size ≤ k) → K (.slice p (unitsOfAll bt bl).length c) w') :
    CallsV prog F.affluxlaw19_units #[.agg #[.string name, .string onn, .string owner, .bool bt, .int .i64 size, .int .i64 slide], .slice p n c] w K :=
  R.affluxlaw19_units (by
    unfold C.affluxlaw19_units
    have hbl := hl.2
    refine New.use (by simp [Value.oneCell']) fun g1 w1 hb1 hu1 hge1 _ => ?_
    let I : List Unit' → Option Addr → Nat → Nat → World → Prop := fun done op on oc w' => ∃ xs, on = done.length ∧ Own w' T.s_s_api_Value 1 op on oc xs ∧ SlE (RwsS' (LowS B) w) xs done ∧ Upd Nothing w w' ∧ (∀ k, Fp op oc k → w.heap.size ≤ k) ∧ Blk w' g1 [.string name, .string onn, .string owner, .bool bt, .int .i64 size, .int .i64 slide] T.api_Window
    -- one unit more
    have happ : ∀ (done : List Unit') (op : Option Addr) (on oc : Nat) (w2 : World) (q : Option Addr) (m d : Nat) (u : Unit') (Q : Value → World → Prop), I done op on oc w2 → RwsS' (LowS B) w q m u → m ≤ d → done.length ≤ 1000 → (∀ op' oc' w', I (done ++ [u]) op' (on + 1) oc' w' → Q (.slice op' (on + 1) oc') w') →
        ∀ b wv, New w2 (.cells #[.slice q m d] T.s_s_api_Value) b wv → BuiltV prog .append #[T.s_s_s_api_Value, T.s_s_s_api_Value] T.s_s_s_api_Value #[.slice op on oc, .slice (some (Addr.mk b 0 none)) 1 1] wv Q := by
      rintro done op on oc w2 q m d u Q ⟨xs, rfl, ho, hsl, hu, hf, hb⟩ hru hmd hdl hQ
      refine app_cell sall (by decide) rfl ho (by omega) fun p' c' w' ho' hu' hf' => hQ p' c' w' ⟨_, by simp, ho', SlE.append hsl (SlE.one hru hmd), hu.fresh hu' hf, fun k hk => ?_, hu'.blk hb fun h => own_not_typed (es := [T.api_Window]) ho (by decide) g1 h ⟨_, _, hb, by simp⟩⟩
      rcases hf' k hk with h | h
      · exact hf k h
      · exact Nat.le_trans hu.size h
    refine ⟨fun op on oc i w' => ∃ k : Nat, i = k ∧ k ≤ n ∧ I (unitsOfAll bt (bl.take k)) op on oc w', fun _ _ _ i _ => n - i.toNat, ⟨0, rfl, by omega, ⟨[], rfl, Own.nil _ _ _, SlE.nil, hu1, fun k hk => by have := hk.1; omega, hb1⟩⟩, ?_⟩
    rintro op on oc i w2 ⟨k, rfl, hk, hI⟩
    have hIu : ∀ {done op on oc w'}, I done op on oc w' → Upd Nothing w w' := fun h => by obtain ⟨_, _, _, _, hu, _⟩ := h; exact hu
    have hIb : ∀ {done op on oc w'}, I done op on oc w' → Blk w' g1 [.string name, .string onn, .string owner, .bool bt, .int .i64 size, .int .i64 slide] T.api_Window := fun h => by obtain ⟨_, _, _, _, _, _, hb⟩ := h; exact hb
    have hIn : ∀ {done op on oc w'}, I done op on oc w' → on = done.length := fun h => by obtain ⟨_, hh, _⟩ := h; exact hh
    have hul := unitsAll_len bt (bl.take k) fun rows hr => hrn _ (List.mem_of_mem_take hr)
    have hlk : (bl.take k).length ≤ k := by simp; omega
    refine ifB_mk (fun h1 => ?_) (fun h1 => ?_)
    · have hkn : k < n := by have := of_decide_eq_true h1; omega
      have hkb : k < bl.length := by omega
      have hm40 := hrn _ (List.getElem_mem hkb)
      have hsn := unitsAll_snoc bt bl k hkb
      refine ⟨bt, (hIb hI).cell (i := 3) rfl, ifB_mk (fun hb => ?_) (fun hb => ?_)⟩
      · obtain ⟨a, id, q, m, d, ha, _, hcell, hrows, hd⟩ := (hl.upd0 (hIu hI)).1 k hkb
        refine ⟨a, ha, by omega, by omega, _, _, _, hcell.2.1, ?_⟩
        have hone : unitsOf bt bl[k] = [bl[k]] := by unfold unitsOf; rw [if_pos hb]
        have hrows0 : RwsS' (LowS B) w q m bl[k] := by
          obtain ⟨a', id', q', m', d', ha', _, hcell', hrows', hd'⟩ := hl.1 k hkb
          have hc2 := cellsAt_upd (hIu hI) (fun f => f) hcell'
          rw [ha] at ha'
          injection ha' with ha'
          subst ha'
          have e := hc2.2.1.symm.trans hcell.2.1
          injection e with e
          injection e with e1 e2 e3
          subst e1; subst e2
          exact hrows'
        refine happ _ _ _ _ _ _ _ _ _ _ hI hrows0 hd (by omega) fun op' oc' w' hI' => ⟨_, _, _, rfl, ?_⟩
        rw [i64_wrap (by omega) (by omega)]
        exact ⟨⟨k + 1, by omega, by omega, by rw [hsn, hone]; exact hI'⟩, by show n - _ < n - _; omega⟩
      · have hmap : unitsOf bt bl[k] = bl[k].map fun r => [r] := by unfold unitsOf; rw [if_neg (by rw [hb]; decide)]
        refine ⟨fun op on oc i w' => ∃ j : Nat, i = j ∧ j ≤ bl[k].length ∧ I (unitsOfAll bt (bl.take k) ++ (bl[k].take j).map fun r => [r]) op on oc w', fun _ _ _ i _ => bl[k].length - i.toNat, ⟨0, rfl, by omega, by rw [List.take_zero, List.map_nil, List.append_nil]; exact hI⟩, ?_⟩
        rintro op2 on2 oc2 i w3 ⟨j, rfl, hj, hI3⟩
        obtain ⟨a, id, q, m, d, ha, _, hcell, hrows, hd⟩ := (hl.upd0 (hIu hI3)).1 k hkb
        have hrl : bl[k].length = m := by obtain ⟨_, _, _, _, hh⟩ := hrows; exact hh
        refine ⟨a, ha, by omega, by omega, _, _, _, hcell.2.1, ifB_mk (fun h2 => ?_) (fun h2 => ?_)⟩
        · have hjm : j < m := by have := of_decide_eq_true h2; omega
          have hjb : j < bl[k].length := by omega
          refine ⟨a, ha, by omega, by omega, _, _, _, hcell.2.1, ?_⟩
          rw [i64_wrap (by omega) (by omega)]
          refine ⟨by omega, by omega, by omega, by omega, ?_⟩
          have hrows0 : RwsS' (LowS B) w q m bl[k] := by
            obtain ⟨a', id', q', m', d', ha', _, hcell', hrows', hd'⟩ := hl.1 k hkb
            have hc2 := cellsAt_upd (hIu hI3) (fun f => f) hcell'
            rw [ha] at ha'
            injection ha' with ha'
            subst ha'
            have e := hc2.2.1.symm.trans hcell.2.1
            injection e with e
            injection e with e1 e2 e3
            subst e1; subst e2
            exact hrows'
          have hcut := rows_cut (c := d) hrows0 hjb hd
          have hjt : ((j : Int)).toNat = j := rfl
          have h1j : ((j : Int) + 1).toNat - j = 1 := by omega
          rw [hjt, h1j]
          refine happ _ _ _ _ _ _ _ _ _ _ hI3 hcut (by omega) (by rw [List.length_append, List.length_map, List.length_take]; omega) fun op' oc' w' hI' => ⟨_, _, _, rfl, ⟨j + 1, by omega, by omega, ?_⟩, by show bl[k].length - _ < bl[k].length - _; omega⟩
          rw [List.take_succ_eq_append_getElem hjb, List.map_append, ← List.append_assoc]
          exact hI'
        · have hjm : j = bl[k].length := by have := of_decide_eq_false h2; omega
          rw [i64_wrap (by omega) (by omega)]
          refine ⟨⟨k + 1, by omega, by omega, ?_⟩, by show n - _ < n - _; omega⟩
          rw [hsn, hmap]
          rw [hjm, List.take_of_length_le (Nat.le_refl _)] at hI3
          exact hI3
    · have hkn : k = n := by have := of_decide_eq_false h1; omega
      subst hkn
      rw [List.take_of_length_le (by omega)] at hI
      obtain ⟨xs, rfl, ho, hsl, hu, hf, _⟩ := hI
      exact hK _ _ _ _ ho (hsl.mono fun _ _ _ _ h => rows_keep h (keeps_low hu fun _ f => f.elim)) hu hf)

theorem At.take' {xs : List Value} (h : At w p xs) (k : Nat) : At w p (xs.take k) := fun i v hi => by
  rw [List.getElem?_take] at hi
  split at hi
  · exact h i v hi
  · cases hi
theorem S2_mono (w w' : World) (k : Nat) (h : S2 B w k) (hk : k < w.heap.size) (hu : Upd Nothing w w') : S2 B w' k := by
  rcases h with h | ⟨l, e, hb, he⟩
  · exact .inl h
  · exact .inr ⟨l, e, hu.blk hb fun f => f, he⟩
theorem S2_low {l : List Row} (h : RwsS' (LowS B) w q m l) : RwsS' (S2 B) w q m l := rows_mono h fun _ h => .inl h
theorem cuts {all : List Unit'} (h : AllAt B w p c all) {i j : Nat} (hi : i ≤ j) (hj : j ≤ all.length) : UnitsS (S2 B) w (cutAt p i c 1) (j - i) ((all.take j).drop i) := by
  obtain ⟨xs, ho, hsl, _⟩ := h
  have hxl := hsl.1
  obtain ⟨hat, hty⟩ := own_cut (es := [T.s_s_api_Value]) ho (by omega : i ≤ all.length) (by simp)
  refine ⟨(xs.drop i).take (j - i), At.take' hat _, fun hne a ha => .inr (hty (fun e => hne (by rw [e]; simp)) a ha), ?_, by simp; omega⟩
  rw [List.drop_take]
  exact ((hsl.drop i).take (j - i)).mono fun _ _ _ _ h => S2_low h

theorem split19_spec {name onn owner : ByteArray} {bt : Bool} {size slide : Nat} {all : List Unit'} (h : AllAt B w p c all) (hs : 1 ≤ slide) (hs2 : slide ≤ 1000) (hs3 : size ≤ 1000) (ha : all.length ≤ 100000)
    (hK : ∀ p1 c1 p2 c2 w', UnitsS (S2 B) w' p1 (seenOf size slide all).length (seenOf size slide all) → UnitsS (S2 B) w' p2 (stagedOf slide all).length (stagedOf slide all) → Upd Nothing w w' → K (.tuple #[.slice p1 (seenOf size slide all).length c1, .slice p2 (stagedOf slide all).length c2]) w') :
    CallsV prog F.affluxlaw19_split #[.agg #[.string name, .string onn, .string owner, .bool bt, .int .i64 (size : Int), .int .i64 (slide : Int)], .slice p all.length c] w K :=
  R.affluxlaw19_split (by
    unfold C.affluxlaw19_split
    refine New.use (by simp [Value.oneCell']) fun g1 w1 hb1 hu1 hge1 _ => ?_
    have hbd := hb1.drew
    have hle : all.length ≤ c := by obtain ⟨_, ho, _⟩ := h; exact ho.le
    have hq : all.length / slide * slide ≤ all.length := Nat.div_mul_le_self _ _
    have hq1 : all.length / slide ≤ all.length := Nat.div_le_self _ _
    have e1 : Int.tdiv ((all.length : Nat) : Int) (slide : Int) = ((all.length / slide : Nat) : Int) := by rw [Int.tdiv_eq_ediv_of_nonneg (by omega)]; rfl
    have e2 : ((all.length / slide : Nat) : Int) * (slide : Int) = ((all.length / slide * slide : Nat) : Int) := by rw [Int.natCast_mul]
    refine ⟨_, hbd.cell (i := 5) rfl, by omega, _, hbd.cell (i := 5) rfl, _, hbd.drew.cell (i := 4) rfl, ?_⟩
    have e4 : IntKind.i64.wrap ((all.length / slide : Nat) : Int) = ((all.length / slide : Nat) : Int) := by
      clear e1
      generalize all.length / slide = qq at hq1 ⊢
      exact i64_wrap (by omega) (by omega)
    rw [e1, e4, e2, i64_wrap (by omega) (by omega)]
    generalize hcut : all.length / slide * slide = cut at *
    have e3 : mm2 true (IntKind.i64.wrap (((cut : Nat) : Int) - (size : Int))) 0 = ((cut - size : Nat) : Int) := by
      rw [i64_wrap (by omega) (by omega)]
      unfold mm2
      simp only [cond_true]
      split <;> omega
    rw [e3]
    simp only [Int.toNat_natCast]
    refine ⟨by omega, by omega, by omega, by omega, by omega, by omega, ?_⟩
    have hu : Upd Nothing w w1.drew.drew := (hu1.then (Upd.drew _ _)).then (Upd.drew _ _)
    have h' := h.upd0 hu
    have k1 := cuts h' (i := cut - size) (j := cut) (by omega) hq
    have k2 := cuts h' (i := cut) (j := all.length) hq (Nat.le_refl _)
    rw [List.take_of_length_le (Nat.le_refl _)] at k2
    have l1 : (seenOf size slide all).length = cut - (cut - size) := by unfold seenOf; rw [hcut, List.length_drop, List.length_take]; omega
    have l2 : (stagedOf slide all).length = all.length - cut := by unfold stagedOf; rw [hcut, List.length_drop]
    have k1' : UnitsS (S2 B) w1.drew.drew (cutAt p (cut - size) c 1) (seenOf size slide all).length (seenOf size slide all) := by rw [l1]; unfold seenOf; rw [hcut]; exact k1
    have k2' : UnitsS (S2 B) w1.drew.drew (cutAt p cut c 1) (stagedOf slide all).length (stagedOf slide all) := by rw [l2]; unfold stagedOf; rw [hcut]; exact k2
    have := hK _ (c - (cut - size)) _ (c - cut) _ k1' k2' hu
    rw [l1, l2] at this
    exact this)

/-- What is small of all that came. -/
def SmallA (us : List Unit') : Prop := ∀ u ∈ us, u.length ≤ 40 ∧ ∀ r ∈ u, r.length ≤ 30 ∧ ∀ v ∈ r, Va.Val.wf v
theorem has_small {all : List Unit'} (hx : WOk x) (hh : x.Has all) (hs : SmallA all) : SmallU x.seen ∧ SmallU x.staged := by
  obtain ⟨o1, o2, o3, o4, o5⟩ := hx
  refine ⟨⟨by omega, fun u hu => hs u ?_⟩, ⟨by omega, fun u hu => hs u ?_⟩⟩
  · rw [hh.1] at hu
    exact List.mem_of_mem_take (List.mem_of_mem_drop hu)
  · rw [hh.2] at hu
    exact List.mem_of_mem_drop hu

theorem looks19_spec {name onn owner : ByteArray} {bt : Bool} {all : List Unit'} (h : WinAt w g x) (hx : WOk x) (hh : x.Has all) (hs : SmallA all) (ha : AllAt B w p c all) (hal : all.length ≤ 100000) (hK : ∀ w', Upd Nothing w w' → K (.bool true) w') :
    CallsV prog F.affluxlaw19_looks #[.pointer (some ⟨g, 0, none⟩), .agg #[.string name, .string onn, .string owner, .bool bt, .int .i64 (x.size : Int), .int .i64 (x.slide : Int)], .slice p all.length c] w K :=
  R.affluxlaw19_looks (by
    unfold C.affluxlaw19_looks
    obtain ⟨s1, s2⟩ := has_small hx hh hs
    obtain ⟨o1, o2, o3, o4, o5⟩ := hx
    obtain ⟨hh1, hh2⟩ := hh
    refine New.use (by simp [Value.oneCell']) fun g1 w1 hb1 hu1 hge1 _ => ⟨_, _, _, _, _, _, six_cells hb1, ?_⟩
    refine split19_spec (ha.upd0 hu1) o1 (by omega) (by omega) hal fun p1 c1 p2 c2 w2 k1 k2 hu2 => ⟨_, _, _, _, _, _, rfl, ?_⟩
    rw [← hh1] at k1 ⊢
    rw [← hh2] at k2 ⊢
    refine wrows_spec (h.upd0 (hu1.then hu2)) s1.1 (fun u hu => (s1.2 u hu).1) (fun u hu r hr => by have := ((s1.2 u hu).2 r hr).1; omega) fun p3 c3 w3 k3 hu3 => ⟨_, _, _, rfl, ?_⟩
    have kk1 : UnitsS (S2 B) w3 p1 x.seen.length x.seen := units_keep k1 (keeps_any hu3 fun k h hk => S2_mono _ _ _ h hk hu3)
    refine flat_spec S2_mono kk1 s1 fun p4 c4 w4 k4 hu4 => ⟨_, _, _, rfl, ?_⟩
    have hfl : ∀ l : List Unit', (∀ u ∈ l, u.length ≤ 40) → l.flatten.length ≤ 40 * l.length := by
      intro l
      induction l with
      | nil => intro _; simp
      | cons u l ih => intro h; have h1 := h u (by simp); have h2 := ih fun v hv => h v (by simp [hv]); simp only [List.flatten_cons, List.length_append, List.length_cons] at *; omega
    have hf1 := hfl x.seen fun u hu => (s1.2 u hu).1
    refine rsame4_spec (k3.upd0 hu4) rfl k4 rfl (by omega) (fun r hr => ?_) fun b w5 e5 hu5 => ⟨b, rfl, ?_⟩
    · obtain ⟨u, hu, hru⟩ := List.mem_flatten.1 hr
      have := ((s1.2 u hu).2 r hru).1
      omega
    have hu15 : Upd Nothing w w5 := ((hu1.then hu2).then hu3).then (hu4.then hu5)
    refine ifB_mk (fun _ => ?_) (fun hb => by rw [e5.2 rfl] at hb; cases hb)
    refine seen_spec (h.upd0 hu15) ⟨_, rfl, ifB_mk (fun _ => ?_) (fun hb => by simp at hb)⟩
    refine staged_spec (h.upd0 hu15) ⟨_, rfl, ifB_mk (fun _ => ?_) (fun hb => by simp at hb)⟩
    refine bytes_spec (h.upd0 hu15) s1 s2 fun w6 hu6 => ⟨_, rfl, ?_⟩
    have hu36 : Upd Nothing w3 w6 := (hu4.then hu5).then hu6
    refine lay19_spec (units_keep kk1 (keeps_any hu36 fun k h hk => S2_mono _ _ _ h hk hu36)) s1 fun w7 hu7 => ⟨_, rfl, ?_⟩
    have hu27 : Upd Nothing w2 w7 := hu3.then (hu36.then hu7)
    refine lay19_spec (units_keep k2 (keeps_any hu27 fun k h hk => S2_mono _ _ _ h hk hu27)) s2 fun w8 hu8 => ⟨_, rfl, ?_, ?_⟩
    · have l1 := unitsT_len s1
      have l2 := unitsT_len s2
      have n1 := s1.1
      have n2 := s2.1
      rw [tx_size, tx_size]
      omega
    · rw [tx_app]
      have : sEq (tx (unitsT x.seen ++ unitsT x.staged)) (tx (unitsT x.seen ++ unitsT x.staged)) = true := by simp [sEq]
      rw [this]
      exact hK w8 ((hu1.then hu2).then (hu27.then hu8)))
end
end Wn
end Go.Proofs.Ytjcgociobhhijaa
