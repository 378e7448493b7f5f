/- The functions of package schema that tell whether a schema is right: columns, indexes, schemas. -/
import Derived.Test.YtjcgociobhhijaaDoorSC
set_option linter.unusedVariables false
set_option linter.unusedSimpArgs false
set_option maxRecDepth 100000
namespace Go.Proofs.YtjcgociobhhijaaDoor
open Go Go.Proofs.YtjcgociobhhijaaDoor.SX
namespace Sc

theorem set_two {w : World} {e : Nat} {g : Nat} {x y : Value} {Q : World → Prop} {u v : Value} (hu1 : u.oneCell' = true) (hv1 : v.oneCell' = true) (hb : Blk w g [x, y] e) (hQ : ∀ w', Blk w' g [u, v] e → Upd (One g) w w' → Q w') :
    CanSt w ((Addr.mk g 0 none).add 0) ∧ ∀ w2, w2 = w.setCell ((Addr.mk g 0 none).add 0) u →
    CanSt w2 ((Addr.mk g 0 none).add 1) ∧ ∀ w3, w3 = w2.setCell ((Addr.mk g 0 none).add 1) v → Q w3 :=
  hb.store (i := 0) (by simp) hu1 fun w2 hb2 hu2 _ => hb2.store (i := 1) (by simp) hv1 fun w3 hb3 hu3 _ => hQ w3 hb3 (hu2.then hu3)
theorem two_cells {w : World} {g e : Nat} {u v : Value} (hb : Blk w g [u, v] e) : SX.cellsAt w (Addr.mk g 0 none) 0 [u, v] := ⟨hb.cell (i := 0) rfl, hb.cell (i := 1) rfl, trivial⟩

/-- One row more of which no two are the same. -/
theorem unlike_next {α : Type} {same : α → α → Prop} {l : List α} {k : Nat} (hk : k < l.length) (h : ∀ i j (hi : i < l.length) (hj : j < i), i < k → ¬ same l[i] (l[j]'(Nat.lt_trans hj hi))) (hx : ∀ j (hj : j < k), ¬ same l[k] (l[j]'(Nat.lt_trans hj hk))) :
    ∀ i j (hi : i < l.length) (hj : j < i), i < k + 1 → ¬ same l[i] (l[j]'(Nat.lt_trans hj hi)) := by
  intro i j hi hj hik
  by_cases h' : i < k
  · exact h i j hi hj h'
  · have : i = k := by omega
    subst this
    exact hx j hj

section
variable {w : World} {K : Value → World → Prop} {p q : Option Addr} {n c m d : Nat} {s : ByteArray}

theorem unlike_ints {xs : List Int} (hat : At w p (ints xs)) (hl : xs.length = n) (hc : n ≤ c) (hn : n ≤ 9223372036854775806) (hK : ∀ (b : Bool) w', (b = true ↔ Unlike (· = ·) xs) → Upd Nothing w w' → K (.bool b) w') :
    CallsV prog F.schema_unlike_int #[.slice p n c, .func (.func F.schema_places_1) #[] #[]] w K :=
  R.schema_unlike_int (by
    unfold C.schema_unlike_int
    refine ⟨fun i w' => ∃ k : Nat, i = k ∧ k ≤ n ∧ Upd Nothing w w' ∧ ∀ i j (hi : i < xs.length) (hj : j < i), i < k → ¬ xs[i] = (xs[j]'(Nat.lt_trans hj hi)), fun i _ => n - i.toNat, ⟨0, rfl, by omega, Upd.refl _ _, fun i j hi hj h => by omega⟩, ?_⟩
    rintro i w1 ⟨k, rfl, hk, hu1, hq⟩
    rw [cutAt_zero]
    refine ifB_mk (fun h4 => ?_) (fun h4 => ?_)
    · have hkn : k < n := by have := of_decide_eq_true h4; omega
      obtain ⟨a, ha, hcl⟩ := (hat.upd0 hu1) k _ (ints_get (by omega))
      refine ⟨a, ha, by omega, by omega, _, by simpa using hcl, by omega, by omega, ?_⟩
      simp only [Int.toNat_natCast, Nat.sub_zero]
      refine ⟨fun i w' => ∃ j : Nat, i = j ∧ j ≤ k ∧ Upd Nothing w w' ∧ ∀ t (ht : t < xs.length) (hk' : k < xs.length), t < j → ¬ xs[k] = xs[t], fun i _ => k - i.toNat, ⟨0, rfl, by omega, hu1, fun t ht _ h => by omega⟩, ?_⟩
      rintro i w2 ⟨j, rfl, hj, hu2, hq2⟩
      refine ifB_mk (fun h5 => ?_) (fun h5 => ?_)
      · have hjk : j < k := by have := of_decide_eq_true h5; omega
        obtain ⟨a2, ha2, hc2⟩ := (hat.upd0 hu2) j _ (ints_get (by omega))
        refine ⟨a2, ha2, by omega, by omega, _, by simpa using hc2, ?_⟩
        show CallsV prog F.schema_places_1 #[.int .i64 xs[k], .int .i64 xs[j]] w2 _
        refine R.schema_places_1 ?_
        unfold C.schema_places_1
        refine ⟨_, rfl, ifB_mk (fun h6 => ?_) (fun h6 => ?_)⟩
        · refine hK _ _ ⟨fun h => (by cases h), fun h' => ?_⟩ hu2
          exact ((h' k j (by omega) hjk) (by simpa using h6)).elim
        · rw [i64_wrap (by omega) (by omega)]
          refine ⟨⟨j + 1, by omega, by omega, hu2, fun t ht hk' htj => ?_⟩, by show k - _ < k - _; omega⟩
          by_cases h7 : t < j
          · exact hq2 t ht hk' h7
          · have : t = j := by omega
            subst this
            simpa using h6
      · have hjk : j = k := by have := of_decide_eq_false h5; omega
        subst hjk
        exact scan_next (Q := fun k => ∀ i j (hi : i < xs.length) (hj : j < i), i < k → ¬ xs[i] = (xs[j]'(Nat.lt_trans hj hi))) hkn hn hu2 (unlike_next (same := (· = ·)) (by omega) hq fun t ht => hq2 t (by omega) (by omega) ht)
    · have hkn : k = n := by have := of_decide_eq_false h4; omega
      exact hK _ _ ⟨fun _ => fun i j hi hj => hq i j hi hj (by omega), fun _ => rfl⟩ hu1)

theorem unlike_cols {l : List Col} (hat : Cols w p l) (hl : l.length = n) (hc : n ≤ c) (hn : n ≤ 9223372036854775806) (hK : ∀ (b : Bool) w', (b = true ↔ Unlike (fun a b : Col => a.name = b.name) l) → Upd Nothing w w' → K (.bool b) w') :
    CallsV prog F.schema_unlike_api_Column #[.slice p n c, .func (.func F.schema_columns_1) #[] #[]] w K :=
  R.schema_unlike_api_Column (by
    unfold C.schema_unlike_api_Column
    refine ⟨fun i w' => ∃ k : Nat, i = k ∧ k ≤ n ∧ Upd Nothing w w' ∧ ∀ i j (hi : i < l.length) (hj : j < i), i < k → ¬ l[i].name = (l[j]'(Nat.lt_trans hj hi)).name, fun i _ => n - i.toNat, ⟨0, rfl, by omega, Upd.refl _ _, fun i j hi hj h => by omega⟩, ?_⟩
    rintro i w1 ⟨k, rfl, hk, hu1, hq⟩
    rw [cutAt_zero]
    refine ifB_mk (fun h4 => ?_) (fun h4 => ?_)
    · have hkn : k < n := by have := of_decide_eq_true h4; omega
      obtain ⟨a, ha, hcl⟩ := (hat.upd0 hu1) k (by omega)
      refine ⟨a, ha, by omega, by omega, _, _, hcl, New.use (by simp [Value.oneCell']) fun g w2 hb2 hu2 hge2 hlt2 => ?_⟩
      refine set_two rfl rfl hb2 fun w3 hb3 hu3 => ⟨by omega, by omega, ?_⟩
      have hg : ∀ i, One g i → w1.heap.size ≤ i := fun i hi => by rw [show i = g from hi]; exact hge2
      have hu13 : Upd Nothing w1 w3 := hu2.fresh hu3 hg
      simp only [Int.toNat_natCast, Nat.sub_zero]
      refine ⟨fun i w' => ∃ j : Nat, i = j ∧ j ≤ k ∧ Upd Nothing w3 w' ∧ ∀ t (ht : t < l.length) (hk' : k < l.length), t < j → ¬ l[k].name = l[t].name, fun i _ => k - i.toNat, ⟨0, rfl, by omega, Upd.refl _ _, fun t ht _ h => by omega⟩, ?_⟩
      rintro i w4 ⟨j, rfl, hj, hu4, hq2⟩
      refine ifB_mk (fun h5 => ?_) (fun h5 => ?_)
      · have hjk : j < k := by have := of_decide_eq_true h5; omega
        obtain ⟨a2, ha2, hc2⟩ := (hat.upd0 ((hu1.then hu13).then hu4)) j (by omega)
        refine ⟨a2, ha2, by omega, by omega, _, _, hc2, New.use (by simp [Value.oneCell']) fun g2 w5 hb5 hu5 hge5 hlt5 => ?_⟩
        refine set_two rfl rfl hb5 fun w6 hb6 hu6 => ?_
        have hg2 : ∀ i, One g2 i → w4.heap.size ≤ i := fun i hi => by rw [show i = g2 from hi]; exact hge5
        have hu46 : Upd Nothing w4 w6 := hu5.fresh hu6 hg2
        refine ⟨_, _, two_cells ((hu4.then hu46).blk hb3 fun f => f), _, _, two_cells hb6, ?_⟩
        show CallsV prog F.schema_columns_1 #[.agg #[.string l[k].name, .int .i64 l[k].kind], .agg #[.string l[j].name, .int .i64 l[j].kind]] w6 _
        refine R.schema_columns_1 ?_
        unfold C.schema_columns_1
        refine New.use (by simp [Value.oneCell']) fun g3 w7 hb7 hu7 hge7 _ => New.use (by simp [Value.oneCell']) fun g4 w8 hb8 hu8 hge8 _ => ?_
        have hu48 := (hu46.then hu7).then hu8
        refine ⟨_, (hu8.blk hb7 fun f => f).cell (i := 0) rfl, _, hb8.cell (i := 0) rfl, _, rfl, ifB_mk (fun h6 => ?_) (fun h6 => ?_)⟩
        · refine hK _ _ ⟨fun h => (by cases h), fun h' => ?_⟩ (((hu1.then hu13).then hu4).then hu48)
          exact absurd (sEq_iff.1 h6) (h' k j (by omega) hjk)
        · rw [i64_wrap (by omega) (by omega)]
          refine ⟨⟨j + 1, by omega, by omega, hu4.then hu48, fun t ht hk' htj => ?_⟩, by show k - _ < k - _; omega⟩
          by_cases h7 : t < j
          · exact hq2 t ht hk' h7
          · have : t = j := by omega
            subst this
            exact sEq_not.1 h6
      · have hjk : j = k := by have := of_decide_eq_false h5; omega
        subst hjk
        exact scan_next (Q := fun k => ∀ i j (hi : i < l.length) (hj : j < i), i < k → ¬ l[i].name = (l[j]'(Nat.lt_trans hj hi)).name) hkn hn ((hu1.then hu13).then hu4) (unlike_next (same := fun a b : Col => a.name = b.name) (by omega) hq fun t ht => hq2 t (by omega) (by omega) ht)
    · have hkn : k = n := by have := of_decide_eq_false h4; omega
      exact hK _ _ ⟨fun _ => fun i j hi hj => hq i j hi hj (by omega), fun _ => rfl⟩ hu1)

theorem columns_spec {l : List Col} (hat : Cols w p l) (hl : l.length = n) (hc : n ≤ c) (hn : n ≤ 9223372036854775806)
    (hK : ∀ (b : Bool) w', (b = true ↔ (∀ c ∈ l, NameP c.name ∧ 1 ≤ c.kind ∧ c.kind ≤ 3) ∧ (1 ≤ l.length ∧ l.length ≤ 8) ∧ Unlike (fun a b : Col => a.name = b.name) l) → Upd Nothing w w' → K (.bool b) w') :
    CallsV prog F.schema_columns #[.slice p n c] w K :=
  R.schema_columns (by
    unfold C.schema_columns
    refine ⟨fun i w' => ∃ k : Nat, i = k ∧ k ≤ n ∧ Upd Nothing w w' ∧ ∀ c ∈ l.take k, NameP c.name ∧ 1 ≤ c.kind ∧ c.kind ≤ 3, fun i _ => n - i.toNat, ⟨0, rfl, by omega, Upd.refl _ _, by simp⟩, ?_⟩
    rintro i w1 ⟨k, rfl, hk, hu1, hq⟩
    refine ifB_mk (fun h4 => ?_) (fun h4 => ?_)
    · have hkn : k < n := by have := of_decide_eq_true h4; omega
      obtain ⟨a, ha, hcl⟩ := (hat.upd0 hu1) k (by omega)
      refine ⟨a, ha, by omega, by omega, _, _, hcl, New.use (by simp [Value.oneCell']) fun g w2 hb2 hu2 hge2 hlt2 => ?_⟩
      refine set_two rfl rfl hb2 fun w3 hb3 hu3 => ⟨_, hb3.cell (i := 0) rfl, ?_⟩
      have hg : ∀ i, One g i → w1.heap.size ≤ i := fun i hi => by rw [show i = g from hi]; exact hge2
      have hu13 : Upd Nothing w1 w3 := hu2.fresh hu3 hg
      refine named_spec fun b w4 hb hu4 => ⟨b, rfl, ifB_mk (fun h5 => ?_) (fun h5 => ⟨_, (hu4.blk hb3 fun f => f).cell (i := 1) rfl, ?_⟩)⟩
      · refine hK _ _ ⟨fun h => (by cases h), fun h' => ?_⟩ ((hu1.then hu13).then hu4)
        rw [hb.2 (h'.1 _ (List.getElem_mem _)).1] at h5
        cases h5
      · refine within_spec fun b2 hb2 => ⟨b2, rfl, ifB_mk (fun h6 => ?_) (fun h6 => ?_)⟩
        · refine hK _ _ ⟨fun h => (by cases h), fun h' => ?_⟩ ((hu1.then hu13).then hu4)
          rw [hb2.2 (h'.1 _ (List.getElem_mem _)).2] at h6
          cases h6
        · exact scan_next (Q := fun k => ∀ c ∈ l.take k, NameP c.name ∧ 1 ≤ c.kind ∧ c.kind ≤ 3) hkn hn ((hu1.then hu13).then hu4) (forall_take (by omega) hq ⟨hb.1 (by simpa using h5), hb2.1 (by simpa using h6)⟩)
    · have hkn : k = n := by have := of_decide_eq_false h4; omega
      rw [List.take_of_length_le (by omega)] at hq
      refine within_spec fun b hb => ⟨b, rfl, ifB_mk (fun h5 => ?_) (fun h5 => ?_)⟩
      · refine unlike_cols (hat.upd0 hu1) hl hc hn fun b2 w2 hb2 hu2 => ⟨b2, rfl, hK _ _ ?_ (hu1.then hu2)⟩
        have := hb.1 h5
        rw [hb2]
        exact ⟨fun h => ⟨hq, ⟨by omega, by omega⟩, h⟩, fun h => h.2.2⟩
      · refine hK _ _ ⟨fun h => (by cases h), fun h' => ?_⟩ hu1
        have := h'.2.1
        rw [hb.2 ⟨by omega, by omega⟩] at h5
        cases h5)
/-- Indexes: no two of the same places. -/
theorem unlike_ixs {l : List Ix} (hat : Ixs w p l) (hl : l.length = n) (hc : n ≤ c) (hn : n ≤ 9223372036854775806) (hsm : ∀ x ∈ l, x.cols.length ≤ 9223372036854775806) (hK : ∀ (b : Bool) w', (b = true ↔ Unlike (fun a b : Ix => a.cols = b.cols) l) → Upd Nothing w w' → K (.bool b) w') :
    CallsV prog F.schema_unlike_api_Index #[.slice p n c, .func (.func F.schema_indexes_1) #[] #[]] w K :=
  R.schema_unlike_api_Index (by
    unfold C.schema_unlike_api_Index
    refine ⟨fun i w' => ∃ k : Nat, i = k ∧ k ≤ n ∧ Upd Nothing w w' ∧ ∀ i j (hi : i < l.length) (hj : j < i), i < k → ¬ l[i].cols = (l[j]'(Nat.lt_trans hj hi)).cols, fun i _ => n - i.toNat, ⟨0, rfl, by omega, Upd.refl _ _, fun i j hi hj h => by omega⟩, ?_⟩
    rintro i w1 ⟨k, rfl, hk, hu1, hq⟩
    rw [cutAt_zero]
    refine ifB_mk (fun h4 => ?_) (fun h4 => ?_)
    · have hkn : k < n := by have := of_decide_eq_true h4; omega
      obtain ⟨a, q1, n1, c1, ha, hcl, hat1, hl1, _⟩ := (hat.upd0 hu1) k (by omega)
      refine ⟨a, ha, by omega, by omega, _, _, _, _, hcl, New.use (by simp [Value.oneCell']) fun g w2 hb2 hu2 hge2 hlt2 => ?_⟩
      refine set_two rfl rfl hb2 fun w3 hb3 hu3 => ⟨by omega, by omega, ?_⟩
      have hg : ∀ i, One g i → w1.heap.size ≤ i := fun i hi => by rw [show i = g from hi]; exact hge2
      have hu13 : Upd Nothing w1 w3 := hu2.fresh hu3 hg
      simp only [Int.toNat_natCast, Nat.sub_zero]
      refine ⟨fun i w' => ∃ j : Nat, i = j ∧ j ≤ k ∧ Upd Nothing w3 w' ∧ ∀ t (ht : t < l.length) (hk' : k < l.length), t < j → ¬ l[k].cols = l[t].cols, fun i _ => k - i.toNat, ⟨0, rfl, by omega, Upd.refl _ _, fun t ht _ h => by omega⟩, ?_⟩
      rintro i w4 ⟨j, rfl, hj, hu4, hq2⟩
      refine ifB_mk (fun h5 => ?_) (fun h5 => ?_)
      · have hjk : j < k := by have := of_decide_eq_true h5; omega
        obtain ⟨a2, q2, n2, c2, ha2, hc2, hat2, hl2, _⟩ := (hat.upd0 ((hu1.then hu13).then hu4)) j (by omega)
        refine ⟨a2, ha2, by omega, by omega, _, _, _, _, hc2, New.use (by simp [Value.oneCell']) fun g2 w5 hb5 hu5 hge5 hlt5 => ?_⟩
        refine set_two rfl rfl hb5 fun w6 hb6 hu6 => ?_
        have hg2 : ∀ i, One g2 i → w4.heap.size ≤ i := fun i hi => by rw [show i = g2 from hi]; exact hge5
        have hu46 : Upd Nothing w4 w6 := hu5.fresh hu6 hg2
        refine ⟨_, _, _, _, two_cells ((hu4.then hu46).blk hb3 fun f => f), _, _, _, _, two_cells hb6, ?_⟩
        show CallsV prog F.schema_indexes_1 #[.agg #[.slice q1 n1 c1, .bool l[k].unique], .agg #[.slice q2 n2 c2, .bool l[j].unique]] w6 _
        refine R.schema_indexes_1 ?_
        unfold C.schema_indexes_1
        refine New.use (by simp [Value.oneCell']) fun g3 w7 hb7 hu7 hge7 _ => New.use (by simp [Value.oneCell']) fun g4 w8 hb8 hu8 hge8 _ => ?_
        have hu48 := (hu46.then hu7).then hu8
        have hk1 := hsm _ (List.getElem_mem (l := l) (n := k) (by omega))
        refine ⟨_, _, _, (hu8.blk hb7 fun f => f).cell (i := 0) rfl, _, _, _, hb8.cell (i := 0) rfl, ?_⟩
        refine equal_spec (hat1.upd0 ((hu13.then hu4).then hu48)) hl1 (hat2.upd0 hu48) hl2 (by omega) fun b w9 hb hu9 => ⟨_, rfl, _, rfl, ifB_mk (fun h6 => ?_) (fun h6 => ?_)⟩
        · refine hK _ _ ⟨fun h => (by cases h), fun h' => ?_⟩ ((((hu1.then hu13).then hu4).then hu48).then hu9)
          exact ((h' k j (by omega) hjk) (hb.1 h6)).elim
        · rw [i64_wrap (by omega) (by omega)]
          refine ⟨⟨j + 1, by omega, by omega, (hu4.then hu48).then hu9, fun t ht hk' htj => ?_⟩, by show k - _ < k - _; omega⟩
          by_cases h7 : t < j
          · exact hq2 t ht hk' h7
          · have : t = j := by omega
            subst this
            intro he
            rw [hb.2 he] at h6
            cases h6
      · have hjk : j = k := by have := of_decide_eq_false h5; omega
        subst hjk
        exact scan_next (Q := fun k => ∀ i j (hi : i < l.length) (hj : j < i), i < k → ¬ l[i].cols = (l[j]'(Nat.lt_trans hj hi)).cols) hkn hn ((hu1.then hu13).then hu4) (unlike_next (same := fun a b : Ix => a.cols = b.cols) (by omega) hq fun t ht => hq2 t (by omega) (by omega) ht)
    · have hkn : k = n := by have := of_decide_eq_false h4; omega
      exact hK _ _ ⟨fun _ => fun i j hi hj => hq i j hi hj (by omega), fun _ => rfl⟩ hu1)

theorem places_spec {x : Ix} {N : Nat} (hat : At w q (ints x.cols)) (hl : x.cols.length = m) (hc : m ≤ d) (hn : m ≤ 9223372036854775806) (hN : N ≤ 9223372036854775806) (hK : ∀ (b : Bool) w', (b = true ↔ IxP N x) → Upd Nothing w w' → K (.bool b) w') :
    CallsV prog F.schema_places #[.agg #[.slice q m d, .bool x.unique], .int .i64 N] w K :=
  R.schema_places (by
    unfold C.schema_places
    refine New.use (by simp [Value.oneCell']) fun g w1 hb1 hu1 hge1 _ => ⟨q, m, d, hb1.cell (i := 0) rfl, ?_⟩
    rw [i64_wrap (n := (N : Int) - 1) (by omega) (by omega)]
    refine ⟨fun i w' => ∃ k : Nat, i = k ∧ k ≤ m ∧ Upd Nothing w1 w' ∧ ∀ c ∈ x.cols.take k, 0 ≤ c ∧ c ≤ (N : Int) - 1, fun i _ => m - i.toNat, ⟨0, rfl, by omega, Upd.refl _ _, by simp⟩, ?_⟩
    rintro i w2 ⟨k, rfl, hk, hu2, hq⟩
    refine ifB_mk (fun h4 => ?_) (fun h4 => ?_)
    · have hkn : k < m := by have := of_decide_eq_true h4; omega
      obtain ⟨a, ha, hcl⟩ := (hat.upd0 (hu1.then hu2)) k _ (ints_get (by omega))
      refine ⟨a, ha, by omega, by omega, _, by simpa using hcl, within_spec fun b hb => ⟨b, rfl, ifB_mk (fun h6 => ?_) (fun h6 => ?_)⟩⟩
      · refine hK _ _ ⟨fun h => (by cases h), fun h' => ?_⟩ (hu1.then hu2)
        rw [hb.2 (h'.1 _ (List.getElem_mem _))] at h6
        cases h6
      · exact scan_next (Q := fun k => ∀ c ∈ x.cols.take k, 0 ≤ c ∧ c ≤ (N : Int) - 1) hkn hn hu2 (forall_take (by omega) hq (hb.1 (by simpa using h6)))
    · have hkn : k = m := by have := of_decide_eq_false h4; omega
      rw [List.take_of_length_le (by omega)] at hq
      have hb2 := hu2.blk hb1 fun f => f
      refine ⟨q, m, d, hb2.cell (i := 0) rfl, ifB_mk (fun h5 => ⟨q, m, d, hb2.cell (i := 0) rfl, ?_⟩) (fun h5 => ?_)⟩
      · have h0 := of_decide_eq_true h5
        refine unlike_ints (hat.upd0 (hu1.then hu2)) hl hc hn fun b w3 hb hu3 => ⟨b, rfl, hK _ _ ?_ ((hu1.then hu2).then hu3)⟩
        rw [hb]
        exact ⟨fun h => ⟨hq, by omega, h⟩, fun h => h.2.2⟩
      · have h0 := of_decide_eq_false h5
        refine hK _ _ ⟨fun h => (by cases h), fun h' => ?_⟩ (hu1.then hu2)
        have := h'.2.1
        omega)

theorem indexes_spec {l : List Ix} {N : Nat} (hat : Ixs w p l) (hl : l.length = n) (hc : n ≤ c) (hn : n ≤ 9223372036854775806) (hN : N ≤ 9223372036854775806) (hsm : ∀ x ∈ l, x.cols.length ≤ 9223372036854775806)
    (hK : ∀ (b : Bool) w', (b = true ↔ (∀ x ∈ l, IxP N x) ∧ (1 ≤ l.length ∧ l.length ≤ 4) ∧ (∀ x, l[0]? = some x → x.unique = true) ∧ Unlike (fun a b : Ix => a.cols = b.cols) l) → Upd Nothing w w' → K (.bool b) w') :
    CallsV prog F.schema_indexes #[.slice p n c, .int .i64 N] w K :=
  R.schema_indexes (by
    unfold C.schema_indexes
    refine ⟨fun i w' => ∃ k : Nat, i = k ∧ k ≤ n ∧ Upd Nothing w w' ∧ ∀ x ∈ l.take k, IxP N x, fun i _ => n - i.toNat, ⟨0, rfl, by omega, Upd.refl _ _, by simp⟩, ?_⟩
    rintro i w1 ⟨k, rfl, hk, hu1, hq⟩
    refine ifB_mk (fun h4 => ?_) (fun h4 => ?_)
    · have hkn : k < n := by have := of_decide_eq_true h4; omega
      obtain ⟨a, q1, n1, c1, ha, hcl, hat1, hl1, hc1⟩ := (hat.upd0 hu1) k (by omega)
      refine ⟨a, ha, by omega, by omega, _, _, _, _, hcl, New.use (by simp [Value.oneCell']) fun g w2 hb2 hu2 hge2 hlt2 => ?_⟩
      refine set_two rfl rfl hb2 fun w3 hb3 hu3 => ⟨_, _, _, _, two_cells hb3, ?_⟩
      have hg : ∀ i, One g i → w1.heap.size ≤ i := fun i hi => by rw [show i = g from hi]; exact hge2
      have hu13 : Upd Nothing w1 w3 := hu2.fresh hu3 hg
      have hk1 := hsm _ (List.getElem_mem (l := l) (n := k) (by omega))
      refine places_spec (x := l[k]) (hat1.upd0 hu13) hl1 hc1 (by omega) hN fun b w4 hb hu4 => ⟨b, rfl, ifB_mk (fun h5 => ?_) (fun h5 => ?_)⟩
      · refine hK _ _ ⟨fun h => (by cases h), fun h' => ?_⟩ ((hu1.then hu13).then hu4)
        rw [hb.2 (h'.1 _ (List.getElem_mem _))] at h5
        cases h5
      · exact scan_next (Q := fun k => ∀ x ∈ l.take k, IxP N x) hkn hn ((hu1.then hu13).then hu4) (forall_take (by omega) hq (hb.1 (by simpa using h5)))
    · have hkn : k = n := by have := of_decide_eq_false h4; omega
      rw [List.take_of_length_le (by omega)] at hq
      refine within_spec fun b hb => ⟨b, rfl, ifB_mk (fun h5 => ?_) (fun h5 => ?_)⟩
      · have h14 := hb.1 h5
        obtain ⟨a, q1, n1, c1, ha, hcl, hat1, hl1, hc1⟩ := (hat.upd0 hu1) 0 (by omega)
        have hl0 : l[0]? = some l[0] := List.getElem?_eq_getElem (by omega)
        refine ⟨a, ha, by omega, by omega, _, hcl.2.1, ifB_mk (fun h6 => ?_) (fun h6 => ?_)⟩
        · refine unlike_ixs (hat.upd0 hu1) hl hc hn hsm fun b2 w2 hb2 hu2 => ⟨b2, rfl, hK _ _ ?_ (hu1.then hu2)⟩
          rw [hb2]
          refine ⟨fun h => ⟨hq, ⟨by omega, by omega⟩, fun x hx => ?_, h⟩, fun h => h.2.2.2⟩
          rw [hl0] at hx
          injection hx with hx
          subst hx
          exact h6
        · refine hK _ _ ⟨fun h => (by cases h), fun h' => ?_⟩ hu1
          rw [h'.2.2.1 _ hl0] at h6
          cases h6
      · refine hK _ _ ⟨fun h => (by cases h), fun h' => ?_⟩ hu1
        have := h'.2.1
        rw [hb.2 ⟨by omega, by omega⟩] at h5
        cases h5)

/-- A schema in memory. -/
structure SchAt (w : World) (s : Schm) (v : Value) : Prop where
  ex : ∃ (cp : Option Addr) (cc : Nat) (ip : Option Addr) (ic : Nat), v = .agg #[.string s.name, .slice cp s.cols.length cc, .slice ip s.ixs.length ic, .int .i64 s.limit, .int .i64 s.parts, .int .i64 s.by_] ∧ Cols w cp s.cols ∧ s.cols.length ≤ cc ∧ Ixs w ip s.ixs ∧ s.ixs.length ≤ ic
  small : s.cols.length ≤ 9223372036854775806 ∧ s.ixs.length ≤ 9223372036854775806 ∧ ∀ x ∈ s.ixs, x.cols.length ≤ 9223372036854775806
theorem SchAt.upd0 {w w' : World} {s : Schm} {v : Value} (h : SchAt w s v) (hu : Upd Nothing w w') : SchAt w' s v := by
  obtain ⟨⟨cp, cc, ip, ic, hv, h1, h2, h3, h4⟩, h5⟩ := h
  exact ⟨⟨cp, cc, ip, ic, hv, h1.upd0 hu, h2, h3.upd0 hu, h4⟩, h5⟩

theorem schema_right {s : Schm} {v : Value} (hs : SchAt w s v) (hK : ∀ (b : Bool) w', (b = true ↔ s.Right) → Upd Nothing w w' → K (.bool b) w') : CallsV prog F.schema_Right #[v] w K := by
  obtain ⟨⟨cp, cc, ip, ic, rfl, hcols, hcc, hixs, hic⟩, hs1, hs2, hs3⟩ := hs
  refine R.schema_Right ?_
  unfold C.schema_Right
  have hno : ∀ w', Upd Nothing w w' → ¬ s.Right → K (.bool false) w' := fun w' hu hn => hK _ _ ⟨fun h => (by cases h), fun h => absurd h hn⟩ hu
  refine New.use (by simp [Value.oneCell']) fun g w1 hb1 hu1 hge1 _ => ⟨_, hb1.cell (i := 0) rfl, ?_⟩
  refine named_spec fun b1 w2 e1 hu2 => ⟨b1, rfl, ifB_mk (fun t1 => ?_) (fun t1 => hno w2 (hu1.then hu2) fun h => by rw [e1.2 h.1] at t1; cases t1)⟩
  have hb2 := hu2.blk hb1 fun f => f
  have hu2' := hu1.then hu2
  refine ⟨_, _, _, hb2.cell (i := 1) rfl, columns_spec (hcols.upd0 hu2') rfl hcc hs1 fun b2 w3 e2 hu3 => ⟨b2, rfl, ifB_mk (fun t2 => ?_) (fun t2 => hno w3 (hu2'.then hu3) fun h => by rw [e2.2 h.2.1] at t2; cases t2)⟩⟩
  have hb3 := hu3.blk hb2 fun f => f
  have hu3' := hu2'.then hu3
  refine ⟨_, _, _, hb3.cell (i := 2) rfl, _, _, _, hb3.cell (i := 1) rfl, indexes_spec (hixs.upd0 hu3') rfl hic hs2 hs1 hs3 fun b3 w4 e3 hu4 => ⟨b3, rfl, ifB_mk (fun t3 => ?_) (fun t3 => hno w4 (hu3'.then hu4) fun h => by rw [e3.2 h.2.2.1] at t3; cases t3)⟩⟩
  have hb4 := hu4.blk hb3 fun f => f
  have hu4' := hu3'.then hu4
  refine ⟨_, hb4.cell (i := 3) rfl, within_spec fun b4 e4 => ⟨b4, rfl, ifB_mk (fun t4 => ?_) (fun t4 => hno w4 hu4' fun h => by rw [e4.2 h.2.2.2.1] at t4; cases t4)⟩⟩
  refine ⟨_, hb4.cell (i := 4) rfl, within_spec fun b5 e5 => ⟨b5, rfl, ifB_mk (fun t5 => ?_) (fun t5 => hno w4 hu4' fun h => by rw [e5.2 h.2.2.2.2.1] at t5; cases t5)⟩⟩
  refine ⟨_, hb4.cell (i := 5) rfl, _, _, _, hb4.cell (i := 1) rfl, ?_⟩
  rw [i64_wrap (by omega) (by omega)]
  refine within_spec fun b6 e6 => ⟨b6, rfl, hK _ _ ?_ hu4'⟩
  rw [e6]
  exact ⟨fun h => ⟨e1.1 t1, e2.1 t2, e3.1 t3, e4.1 t4, e5.1 t5, h⟩, fun h => h.2.2.2.2.2⟩
end
end Sc
end Go.Proofs.YtjcgociobhhijaaDoor
