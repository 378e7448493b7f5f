/- Schemas: whether two are the same, whether a row fits, a row of nothing, a column's place. -/
import Derived.Test.YtjcgociobhhijaaDoorSQ
set_option linter.unusedVariables false
set_option linter.unusedSimpArgs false
set_option maxRecDepth 100000
namespace Go.Proofs.YtjcgociobhhijaaDoor
open Go Go.Proofs.YtjcgociobhhijaaDoor.SX Va
namespace Sc
theorem col_ext {a b : Col} (h1 : a.name = b.name) (h2 : a.kind = b.kind) : a = b := by cases a; cases b; simp_all
theorem ix_ext {a b : Ix} (h1 : a.cols = b.cols) (h2 : a.unique = b.unique) : a = b := by cases a; cases b; simp_all
theorem schm_ext {a b : Schm} (h1 : a.name = b.name) (h2 : a.cols = b.cols) (h3 : a.ixs = b.ixs) (h4 : a.limit = b.limit) (h5 : a.parts = b.parts) (h6 : a.by_ = b.by_) : a = b := by cases a; cases b; simp_all

/-- A schema in memory, whose indexes are told if H is so. -/
def SchIf (H : Prop) (w : World) (s : Schm) (v : Value) : Prop := ∃ (cp : Option Addr) (cc : Nat) (ip : Option Addr) (ic : Nat), v = .agg #[.string s.name, .slice cp s.cols.length cc, .slice ip s.ixs.length ic, .int .i64 s.limit, .int .i64 s.parts, .int .i64 s.by_] ∧ Cols w cp s.cols ∧ s.cols.length ≤ cc ∧ (H → Ixs w ip s.ixs) ∧ s.ixs.length ≤ ic
theorem SchEx.if {H : Prop} {w : World} {s : Schm} {v : Value} (h : SchEx w s v) : SchIf H w s v := by
  obtain ⟨cp, cc, ip, ic, hv, h1, h2, h3, h4⟩ := h
  exact ⟨cp, cc, ip, ic, hv, h1, h2, fun _ => h3, h4⟩
section
variable {w : World} {K : Value → World → Prop} {p q : Option Addr} {n c m d : Nat} {s t : Schm} {v u : Value} {row : List Val}

/-- Whether two schemas are the same, by the document. -/
theorem rsame3_spec (hs : SchIf (s.cols = t.cols) w s v) (ht : SchIf (s.cols = t.cols) w t u) (hs1 : s.cols.length ≤ 1000000) (hs2 : s.ixs.length ≤ 1000000) (hs3 : ∀ x ∈ s.ixs, x.cols.length ≤ 1000000)
    (hK : ∀ (b : Bool) w', (b = true ↔ s = t) → Upd Nothing w w' → K (.bool b) w') : CallsV prog F.affluxref03_Same #[v, u] w K := by
  obtain ⟨cp, cc, ip, ic, rfl, hcols, hcc, hixs, hic⟩ := hs
  obtain ⟨cp2, cc2, ip2, ic2, rfl, hcols2, hcc2, hixs2, hic2⟩ := ht
  refine R.affluxref03_Same ?_
  unfold C.affluxref03_Same
  refine New.use (by simp [Value.oneCell']) fun g1 w1 hb1 hu1 hge1 _ => New.use (by simp [Value.oneCell']) fun g2 w2 hb2 hu2 hge2 _ => ?_
  have hu12 := hu1.then hu2
  have hb1' := hu2.blk hb1 fun f => f
  have hno : ∀ w', Upd Nothing w2 w' → ¬ s = t → K (.bool false) w' := fun w' hu hn => hK _ _ ⟨fun h => (by cases h), fun h => absurd h hn⟩ (hu12.then hu)
  have hno1 := fun hn => hno w2 (Upd.refl _ _) hn
  refine ⟨fun w' => w' = w2 ∧ s.name = t.name ∧ s.limit = t.limit ∧ s.parts = t.parts ∧ s.by_ = t.by_ ∧ s.cols.length = t.cols.length ∧ s.ixs.length = t.ixs.length, ?_, ?_⟩
  · refine ⟨_, hb1'.cell (i := 0) rfl, _, hb2.cell (i := 0) rfl, ifB_mk (fun h => hno1 fun e => by rw [e] at h; simp [sEq_self] at h) (fun h => ⟨_, hb1'.cell (i := 3) rfl, _, hb2.cell (i := 3) rfl, ifB_mk (fun h1 => hno1 fun e => by rw [e] at h1; simp at h1) (fun h1 => ?_)⟩)⟩
    refine ⟨_, hb1'.cell (i := 4) rfl, _, hb2.cell (i := 4) rfl, ifB_mk (fun h2 => hno1 fun e => by rw [e] at h2; simp at h2) (fun h2 => ⟨_, hb1'.cell (i := 5) rfl, _, hb2.cell (i := 5) rfl, ifB_mk (fun h3 => hno1 fun e => by rw [e] at h3; simp at h3) (fun h3 => ?_)⟩)⟩
    refine ⟨_, _, _, hb1'.cell (i := 1) rfl, _, _, _, hb2.cell (i := 1) rfl, ifB_mk (fun h4 => hno1 fun e => by rw [e] at h4; simp at h4) (fun h4 => ⟨_, _, _, hb1'.cell (i := 2) rfl, _, _, _, hb2.cell (i := 2) rfl, ifB_mk (fun h5 => hno1 fun e => by rw [e] at h5; simp at h5) (fun h5 => ⟨rfl, ?_, ?_, ?_, ?_, ?_, ?_⟩)⟩)⟩
    · exact sEq_iff.1 (by simpa using h)
    · simpa using h1
    · simpa using h2
    · simpa using h3
    · simp at h4; omega
    · simp at h5; omega
  rintro w3 ⟨rfl, e1, e2, e3, e4, l1, l2⟩
  have hA := fun w' (hu : Upd Nothing w3 w') => hu.blk hb1' fun f => f
  have hB := fun w' (hu : Upd Nothing w3 w') => hu.blk hb2 fun f => f
  refine ⟨fun i w' => ∃ k : Nat, i = k ∧ k ≤ s.cols.length ∧ Upd Nothing w3 w' ∧ s.cols.take k = t.cols.take k, fun i _ => s.cols.length - i.toNat, ⟨0, rfl, by omega, Upd.refl _ _, by simp⟩, ?_⟩
  rintro i w4 ⟨k, rfl, hk, hu4, hq⟩
  refine ⟨_, _, _, (hA _ hu4).cell (i := 1) rfl, ifB_mk (fun h => ?_) (fun h => ?_)⟩
  · have hkn : k < s.cols.length := by have := of_decide_eq_true h; omega
    have hu4' := hu4.then (Upd.drew _ _)
    obtain ⟨a1, ha1, hc1⟩ := (hcols.upd0 (hu12.then hu4')) k hkn
    obtain ⟨a2, ha2, hc2⟩ := (hcols2.upd0 (hu12.then hu4')) k (by omega)
    refine ⟨_, _, _, (hA _ hu4').cell (i := 1) rfl, a1, ha1, by omega, by omega, _, _, hc1, _, _, _, (hB _ hu4').cell (i := 1) rfl, a2, ha2, by omega, by omega, _, _, hc2, ifB_mk (fun h1 => hno _ hu4' fun e => ?_) (fun h1 => ?_)⟩
    · subst e
      simp [sEq_self] at h1
    · simp only [Bool.not_eq_false', Bool.and_eq_true, beq_iff_eq, sEq_iff, and_true] at h1
      exact scan_next (Q := fun k => s.cols.take k = t.cols.take k) hkn (by omega) hu4' (by rw [List.take_succ_eq_append_getElem (by omega), List.take_succ_eq_append_getElem (by omega), hq, col_ext h1.1 h1.2])
  · have hkn : k = s.cols.length := by have := of_decide_eq_false h; omega
    subst hkn
    rw [List.take_of_length_le (by omega), List.take_of_length_le (by omega)] at hq
    have hixs' := hixs hq
    have hixs2' := hixs2 hq
    refine ⟨fun i w' => ∃ k : Nat, i = k ∧ k ≤ s.ixs.length ∧ Upd Nothing w3 w' ∧ s.ixs.take k = t.ixs.take k, fun i _ => s.ixs.length - i.toNat, ⟨0, rfl, by omega, hu4, by simp⟩, ?_⟩
    rintro i w5 ⟨k, rfl, hk, hu5, hq5⟩
    refine ⟨_, _, _, (hA _ hu5).cell (i := 2) rfl, ifB_mk (fun h => ?_) (fun h => ?_)⟩
    · have hkn : k < s.ixs.length := by have := of_decide_eq_true h; omega
      have hu5' := hu5.then (Upd.drew _ _)
      obtain ⟨a1, q1, n1, c1, ha1, hcl1, hat1, hl1, hc1⟩ := (hixs'.upd0 (hu12.then hu5')) k hkn
      obtain ⟨a2, q2, n2, c2, ha2, hcl2, hat2, hl2, hc2⟩ := (hixs2'.upd0 (hu12.then hu5')) k (by omega)
      have hs3' := hs3 _ (List.getElem_mem hkn)
      refine ⟨_, _, _, (hA _ hu5').cell (i := 2) rfl, a1, ha1, by omega, by omega, _, hcl1.2.1, _, _, _, (hB _ hu5').cell (i := 2) rfl, a2, ha2, by omega, by omega, _, hcl2.2.1, ifB_mk (fun h1 => hno _ hu5' fun e => ?_) (fun h1 => ?_)⟩
      · subst e
        simp at h1
      refine ⟨_, _, _, (hA _ hu5').cell (i := 2) rfl, a1, ha1, by omega, by omega, _, _, _, hcl1.1, _, _, _, (hB _ hu5').cell (i := 2) rfl, a2, ha2, by omega, by omega, _, _, _, hcl2.1, rsame_spec hat1 hl1 hat2 hl2 (by omega) fun b w6 hb hu6 => ⟨b, rfl, ifB_mk (fun h2 => hno _ (hu5'.then hu6) fun e => ?_) (fun h2 => ?_)⟩⟩
      · subst e
        rw [hb.2 rfl] at h2
        cases h2
      · have h3 : s.ixs[k].unique = t.ixs[k].unique := by simpa using h1
        have h4 : s.ixs[k].cols = t.ixs[k].cols := hb.1 (by simpa using h2)
        exact scan_next (Q := fun k => s.ixs.take k = t.ixs.take k) hkn (by omega) (hu5'.then hu6) (by rw [List.take_succ_eq_append_getElem (by omega), List.take_succ_eq_append_getElem (by omega), hq5, ix_ext h4 h3])
    · have hkn : k = s.ixs.length := by have := of_decide_eq_false h; omega
      subst hkn
      rw [List.take_of_length_le (by omega), List.take_of_length_le (by omega)] at hq5
      exact hK _ _ ⟨fun _ => schm_ext e1 hq hq5 e2 e3 e4, fun _ => rfl⟩ (hu12.then hu5)

/-- slices.Equal of columns. -/
theorem equal_cols {l r : List Col} (ha : Cols w p l) (hl : l.length = n) (hb : Cols w q r) (hl' : r.length = m) (hn : n ≤ 1000000) (hK : ∀ (b : Bool) w', (b = true ↔ l = r) → Upd Nothing w w' → K (.bool b) w') :
    CallsV prog F.slices_Equal_api_Column_api_Column #[.slice p n c, .slice q m d] w K :=
  R.slices_Equal_api_Column_api_Column (by
    unfold C.slices_Equal_api_Column_api_Column
    refine ifB_mk (fun h => hK _ _ ⟨fun h => (by cases h), fun e => ?_⟩ (Upd.refl _ _)) (fun h => ?_)
    · subst e; simp at h; omega
    have hnm : n = m := by simp at h; omega
    subst hnm
    refine ⟨fun i w' => ∃ k : Nat, i = k ∧ k ≤ n ∧ Upd Nothing w w' ∧ l.take k = r.take k, fun i _ => n - i.toNat, ⟨0, rfl, by omega, Upd.refl _ _, by simp⟩, ?_⟩
    rintro i w1 ⟨k, rfl, hk, hu1, hq⟩
    refine ifB_mk (fun h => ?_) (fun h => ?_)
    · have hkn : k < n := by have := of_decide_eq_true h; omega
      have hu1' := hu1.then (Upd.drew _ _)
      obtain ⟨a1, ha1, hc1⟩ := (ha.upd0 hu1') k (by omega)
      obtain ⟨a2, ha2, hc2⟩ := (hb.upd0 hu1') k (by omega)
      refine ⟨a1, ha1, by omega, by omega, _, _, hc1, a2, ha2, by omega, by omega, _, _, hc2, ifB_mk (fun h1 => hK _ _ ⟨fun h => (by cases h), fun e => ?_⟩ hu1') (fun h1 => ?_)⟩
      · subst e
        simp [sEq_self] at h1
      · simp only [Bool.not_eq_false', Bool.and_eq_true, beq_iff_eq, sEq_iff, and_true] at h1
        exact scan_next (Q := fun k => l.take k = r.take k) hkn (by omega) hu1' (by rw [List.take_succ_eq_append_getElem (by omega), List.take_succ_eq_append_getElem (by omega), hq, col_ext h1.1 h1.2])
    · have hkn : k = n := by have := of_decide_eq_false h; omega
      rw [List.take_of_length_le (by omega), List.take_of_length_le (by omega)] at hq
      exact hK _ _ ⟨fun _ => hq, fun _ => rfl⟩ hu1)

/-- slices.EqualFunc of indexes. -/
theorem equal_ixs {l r : List Ix} (ha : Ixs w p l) (hl : l.length = n) (hb : Ixs w q r) (hl' : r.length = m) (hn : n ≤ 1000000) (hsm : ∀ x ∈ l, x.cols.length ≤ 1000000) (hK : ∀ (b : Bool) w', (b = true ↔ l = r) → Upd Nothing w w' → K (.bool b) w') :
    CallsV prog F.slices_EqualFunc_api_Index_api_Index_api_Index_api_Index #[.slice p n c, .slice q m d, .func (.func F.schema_Same_1) #[] #[]] w K :=
  R.slices_EqualFunc_api_Index_api_Index_api_Index_api_Index (by
    unfold C.slices_EqualFunc_api_Index_api_Index_api_Index_api_Index
    refine ifB_mk (fun h => hK _ _ ⟨fun h => (by cases h), fun e => ?_⟩ (Upd.refl _ _)) (fun h => ?_)
    · subst e; simp at h; omega
    have hnm : n = m := by simp at h; omega
    subst hnm
    refine ⟨fun i w' => ∃ k : Nat, i = k ∧ k ≤ n ∧ Upd Nothing w w' ∧ l.take k = r.take k, fun i _ => n - i.toNat, ⟨0, rfl, by omega, Upd.refl _ _, by simp⟩, ?_⟩
    rintro i w1 ⟨k, rfl, hk, hu1, hq⟩
    refine ifB_mk (fun h => ?_) (fun h => ?_)
    · have hkn : k < n := by have := of_decide_eq_true h; omega
      obtain ⟨a1, q1, n1, c1, ha1, hcl1, hat1, hl1, hc1⟩ := (ha.upd0 hu1) k (by omega)
      refine ⟨a1, ha1, by omega, by omega, _, _, _, _, hcl1, New.use (by simp [Value.oneCell']) fun g2 w2 hb2 hu2 hge2 _ => ?_⟩
      refine set_two rfl rfl hb2 fun w3 hb3 hu3 => ?_
      have hu13 : Upd Nothing w1 w3 := hu2.fresh hu3 fun i hi => by rw [show i = g2 from hi]; exact hge2
      obtain ⟨a2, q2, n2, c2, ha2, hcl2, hat2, hl2, hc2⟩ := (hb.upd0 (hu1.then hu13)) k (by omega)
      refine ⟨a2, ha2, by omega, by omega, _, _, _, _, hcl2, New.use (by simp [Value.oneCell']) fun g4 w4 hb4 hu4 hge4 _ => ?_⟩
      refine set_two rfl rfl hb4 fun w5 hb5 hu5 => ?_
      have hu35 : Upd Nothing w3 w5 := hu4.fresh hu5 fun i hi => by rw [show i = g4 from hi]; exact hge4
      refine ⟨_, _, _, _, two_cells (hu35.blk hb3 fun f => f), _, _, _, _, two_cells hb5, ?_⟩
      show CallsV prog F.schema_Same_1 #[.agg #[.slice q1 n1 c1, .bool l[k].unique], .agg #[.slice q2 n2 c2, .bool r[k].unique]] w5 _
      refine R.schema_Same_1 ?_
      unfold C.schema_Same_1
      refine New.use (by simp [Value.oneCell']) fun g6 w6 hb6 hu6 hge6 _ => New.use (by simp [Value.oneCell']) fun g7 w7 hb7 hu7 hge7 _ => ?_
      have hu17 := ((hu13.then hu35).then hu6).then hu7
      have hb67 := hu7.blk hb6 fun f => f
      refine ⟨_, hb67.cell (i := 1) rfl, _, hb7.cell (i := 1) rfl, ifB_mk (fun h1 => ?_) (fun h1 => ⟨_, rfl, ifB_mk (fun _ => hK _ _ ⟨fun h => (by cases h), fun e => ?_⟩ (hu1.then hu17)) (fun h => by cases h)⟩)⟩
      · have h1' : l[k].unique = r[k].unique := by simpa using h1
        have hsm' := hsm _ (List.getElem_mem (show k < l.length by omega))
        refine ⟨_, _, _, hb67.cell (i := 0) rfl, _, _, _, hb7.cell (i := 0) rfl, equal_spec (hat1.upd0 hu17) hl1 (hat2.upd0 ((hu35.then hu6).then hu7)) hl2 (by omega) fun b w8 hb hu8 => ⟨_, rfl, _, rfl, ifB_mk (fun h2 => ?_) (fun h2 => ?_)⟩⟩
        · refine hK _ _ ⟨fun h => (by cases h), fun e => ?_⟩ ((hu1.then hu17).then hu8)
          subst e
          rw [hb.2 rfl] at h2
          cases h2
        · exact scan_next (Q := fun k => l.take k = r.take k) hkn (by omega) ((hu1.then hu17).then hu8) (by rw [List.take_succ_eq_append_getElem (by omega), List.take_succ_eq_append_getElem (by omega), hq, ix_ext (hb.1 (by simpa using h2)) h1'])
      · subst e
        simp at h1
    · have hkn : k = n := by have := of_decide_eq_false h; omega
      rw [List.take_of_length_le (by omega), List.take_of_length_le (by omega)] at hq
      exact hK _ _ ⟨fun _ => hq, fun _ => rfl⟩ hu1)

/-- Whether two schemas are the same. -/
theorem schema_same_spec (hs : SchEx w s v) (ht : SchEx w t u) (hs1 : s.cols.length ≤ 1000000) (hs2 : s.ixs.length ≤ 1000000) (hs3 : ∀ x ∈ s.ixs, x.cols.length ≤ 1000000)
    (hK : ∀ (b : Bool) w', (b = true ↔ s = t) → Upd Nothing w w' → K (.bool b) w') : CallsV prog F.schema_Same #[v, u] w K := by
  obtain ⟨cp, cc, ip, ic, rfl, hcols, hcc, hixs, hic⟩ := hs
  obtain ⟨cp2, cc2, ip2, ic2, rfl, hcols2, hcc2, hixs2, hic2⟩ := ht
  refine R.schema_Same ?_
  unfold C.schema_Same
  refine New.use (by simp [Value.oneCell']) fun g1 w1 hb1 hu1 hge1 _ => New.use (by simp [Value.oneCell']) fun g2 w2 hb2 hu2 hge2 _ => ?_
  have hu12 := hu1.then hu2
  have hb1' := hu2.blk hb1 fun f => f
  have hno : ∀ w', Upd Nothing w2 w' → ¬ s = t → K (.bool false) w' := fun w' hu hn => hK _ _ ⟨fun h => (by cases h), fun h => absurd h hn⟩ (hu12.then hu)
  have hno1 := fun hn => hno w2 (Upd.refl _ _) hn
  refine ⟨_, hb1'.cell (i := 0) rfl, _, hb2.cell (i := 0) rfl, ifB_mk (fun h => ⟨_, hb1'.cell (i := 3) rfl, _, hb2.cell (i := 3) rfl, ifB_mk (fun h1 => ?_) (fun h1 => hno1 fun e => by rw [e] at h1; simp at h1)⟩) (fun h => hno1 fun e => by rw [e] at h; simp [sEq_self] at h)⟩
  refine ⟨_, hb1'.cell (i := 4) rfl, _, hb2.cell (i := 4) rfl, ifB_mk (fun h2 => ⟨_, hb1'.cell (i := 5) rfl, _, hb2.cell (i := 5) rfl, ifB_mk (fun h3 => ?_) (fun h3 => hno1 fun e => by rw [e] at h3; simp at h3)⟩) (fun h2 => hno1 fun e => by rw [e] at h2; simp at h2)⟩
  refine ⟨_, _, _, hb1'.cell (i := 1) rfl, _, _, _, hb2.cell (i := 1) rfl, equal_cols (hcols.upd0 hu12) rfl (hcols2.upd0 hu12) rfl hs1 fun b w3 hb hu3 => ⟨_, rfl, ifB_mk (fun h4 => ?_) (fun h4 => hno _ hu3 fun e => ?_)⟩⟩
  · refine ⟨_, _, _, (hu3.blk hb1' fun f => f).cell (i := 2) rfl, _, _, _, (hu3.blk hb2 fun f => f).cell (i := 2) rfl, equal_ixs (hixs.upd0 (hu12.then hu3)) rfl (hixs2.upd0 (hu12.then hu3)) rfl hs2 hs3 fun b2 w4 hb2 hu4 => ⟨_, rfl, hK _ _ ?_ ((hu12.then hu3).then hu4)⟩⟩
    exact ⟨fun h5 => schm_ext (sEq_iff.1 h) (hb.1 h4) (hb2.1 h5) (by simpa using h1) (by simpa using h2) (by simpa using h3), fun e => hb2.2 (by rw [e])⟩
  · subst e
    rw [hb.2 rfl] at h4
    cases h4

/-- Whether a row fits, by the document. -/
theorem rfits3_spec (hs : SchEx w s v) (hr : At w q (vals row)) (hrl : row.length = m) (hm : m ≤ 9223372036854775806) (hK : ∀ (b : Bool) w', (b = true ↔ FitsP s.cols row) → Upd Nothing w w' → K (.bool b) w') :
    CallsV prog F.affluxref03_Fits #[v, .slice q m d] w K := by
  obtain ⟨cp, cc, ip, ic, rfl, hcols, hcc, hixs, hic⟩ := hs
  refine R.affluxref03_Fits ?_
  unfold C.affluxref03_Fits
  refine New.use (by simp [Value.oneCell']) fun g1 w1 hb1 hu1 hge1 _ => ⟨_, _, _, hb1.cell (i := 1) rfl, ifB_mk (fun h => hK _ _ ⟨fun h => (by cases h), fun h' => ?_⟩ hu1) (fun h => ?_)⟩
  · have := h'.1; simp at h; omega
  have hnm : m = s.cols.length := by simp at h; omega
  refine all_spec (hr.upd0 hu1) hrl hm fun w2 hu2 => ⟨_, rfl, ifB_mk (fun h1 => hK _ _ ⟨fun h => (by cases h), fun h' => ?_⟩ (hu1.then hu2)) (fun h1 => ?_)⟩
  · rw [h'.2.1] at h1
    cases h1
  have hall : row.all Val.right = true := by simpa using h1
  refine ⟨fun i w' => ∃ k : Nat, i = k ∧ k ≤ m ∧ Upd Nothing w1 w' ∧ ∀ i (h : i < row.length) (h' : i < s.cols.length), i < k → row[i].k = s.cols[i].kind, fun i _ => m - i.toNat, ⟨0, rfl, by omega, hu2, fun i _ _ h => by omega⟩, ?_⟩
  rintro i w3 ⟨k, rfl, hk, hu3, hq⟩
  refine ifB_mk (fun h4 => ?_) (fun h4 => ?_)
  · have hkn : k < m := by have := of_decide_eq_true h4; omega
    have hu3' := hu3.then (Upd.drew _ _)
    obtain ⟨a, ha, hcl⟩ := (hr.upd0 (hu1.then hu3')).val (i := k) (by omega)
    obtain ⟨a2, ha2, hcl2⟩ := (hcols.upd0 (hu1.then hu3')) k (by omega)
    refine ⟨a, ha, by omega, by omega, _, hcl.1, _, _, _, (hu3'.blk hb1 fun f => f).cell (i := 1) rfl, a2, ha2, by omega, by omega, _, hcl2.2.1, ifB_mk (fun h5 => ?_) (fun h5 => ?_)⟩
    · refine hK _ _ ⟨fun h => (by cases h), fun h' => ?_⟩ (hu1.then hu3')
      have := h'.2.2 k (by omega) (by omega)
      simp [this] at h5
    · have h6 : row[k].k = s.cols[k].kind := by simpa using h5
      refine scan_next (Q := fun k => ∀ i (h : i < row.length) (h' : i < s.cols.length), i < k → row[i].k = s.cols[i].kind) hkn hm hu3' fun i h h' hik => ?_
      by_cases h7 : i < k
      · exact hq i h h' h7
      · have : i = k := by omega
        subst this
        exact h6
  · have hkn : k = m := by have := of_decide_eq_false h4; omega
    exact hK _ _ ⟨fun _ => ⟨by omega, hall, fun i h h' => hq i h h' (by omega)⟩, fun _ => rfl⟩ (hu1.then hu3)

/-- Nothing, of a column. -/
def zeroV (c : Col) : Val := ⟨if 1 ≤ c.kind ∧ c.kind ≤ 3 then c.kind else 0, 0, bs []⟩
theorem zero_fits (hs : s.Right) : FitsP s.cols (s.cols.map zeroV) := by
  have hk := hs.2.1.1
  refine ⟨by simp, ?_, fun i h h' => ?_⟩
  · rw [List.all_eq_true]
    intro x hx
    obtain ⟨c, hc, rfl⟩ := List.mem_map.1 hx
    obtain ⟨_, h1, h2⟩ := hk c hc
    unfold zeroV Val.right
    rw [if_pos ⟨h1, h2⟩]
    have h3 : c.kind = 1 ∨ c.kind = 2 ∨ c.kind = 3 := by omega
    rcases h3 with h3 | h3 | h3 <;> rw [h3] <;> decide +kernel
  · have hc := hk _ (List.getElem_mem h')
    simp only [List.getElem_map]
    show (if _ then _ else _) = _
    rw [if_pos hc.2]

theorem zero_spec (hs : SchEx w s v) (hs1 : s.cols.length ≤ 1000000) (hK : ∀ p c w', Own w' T.api_Value 3 p s.cols.length c (vals (s.cols.map zeroV)) → Upd Nothing w w' → (∀ k, Fp p c k → w.heap.size ≤ k) → K (.slice p s.cols.length c) w') :
    CallsV prog F.schema_Zero #[v] w K := by
  obtain ⟨cp, cc, ip, ic, rfl, hcols, hcc, hixs, hic⟩ := hs
  refine R.schema_Zero ?_
  unfold C.schema_Zero
  refine New.use (by simp [Value.oneCell']) fun g1 w1 hb1 hu1 hge1 _ => ⟨_, _, _, hb1.cell (i := 1) rfl, ?_⟩
  refine ⟨fun lp ln lc i w' => ∃ k : Nat, i = k ∧ k ≤ s.cols.length ∧ ln = k ∧ Own w' T.api_Value 3 lp ln lc (vals ((s.cols.take k).map zeroV)) ∧ Upd Nothing w w' ∧ ∀ k, Fp lp lc k → w.heap.size ≤ k, fun _ _ _ i _ => s.cols.length - i.toNat, ⟨0, rfl, by omega, rfl, Own.nil _ _ _, hu1, fun k hk => by have := hk.1; omega⟩, ?_⟩
  rintro lp ln lc i w2 ⟨k, rfl, hk, rfl, hown, hu2, hfr⟩
  refine ifB_mk (fun h => ?_) (fun h => ?_)
  · have hkn : ln < s.cols.length := by have := of_decide_eq_true h; omega
    obtain ⟨a, ha, hcl⟩ := (hcols.upd0 hu2) ln hkn
    have htake : (s.cols.take (ln + 1)).map zeroV = (s.cols.take ln).map zeroV ++ [zeroV s.cols[ln]] := by rw [List.take_succ_eq_append_getElem hkn, List.map_append]; rfl
    refine ⟨a, ha, by omega, by omega, _, _, hcl, New.use (by simp [Value.oneCell']) fun g3 w3 hb3 hu3 hge3 _ => set_two rfl rfl hb3 fun w4 hb4 hu4 => ?_⟩
    have hu24 : Upd Nothing w2 w4 := hu3.fresh hu4 fun i hi => by rw [show i = g3 from hi]; exact hge3
    refine New.use (by simp [Value.oneCell']) fun g5 w5 hb5 hu5 hge5 _ => set_val (v := ⟨0, 0, bs []⟩) hb5 fun w6 hb6 hu6 => ?_
    have hu46 : Upd Nothing w4 w6 := hu5.fresh hu6 fun i hi => by rw [show i = g5 from hi]; exact hge5
    have hu26 := hu24.then hu46
    have hb46 := hu46.blk hb4 fun f => f
    have hfin : ∀ (w7 : World) (p' : Option Addr) (c' : Nat) (w' : World), Upd Nothing w2 w7 → Own w' T.api_Value 3 p' (ln + 1) c' (vals ((s.cols.take ln).map zeroV ++ [zeroV s.cols[ln]])) → Upd (Fp lp lc) w7 w' → (∀ k, Fp p' c' k → Fp lp lc k ∨ w7.heap.size ≤ k) →
        (∃ k : Nat, IntKind.i64.wrap ((ln : Int) + 1) = k ∧ k ≤ s.cols.length ∧ ln + 1 = k ∧ Own w' T.api_Value 3 p' (ln + 1) c' (vals ((s.cols.take k).map zeroV)) ∧ Upd Nothing w w' ∧ ∀ k, Fp p' c' k → w.heap.size ≤ k) ∧ s.cols.length - (IntKind.i64.wrap ((ln : Int) + 1)).toNat < s.cols.length - (ln : Int).toNat := fun w7 p' c' w' hu7 ho hu' hf => by
      rw [i64_wrap (by omega) (by omega)]
      refine ⟨⟨ln + 1, by omega, by omega, rfl, by rw [htake]; exact ho, (hu2.then hu7).fresh hu' fun i hi => hfr i hi, fun k hk => ?_⟩, by omega⟩
      rcases hf k hk with h | h
      · exact hfr k h
      · exact Nat.le_trans (hu2.then hu7).size h
    refine ⟨_, hb46.cell (i := 1) rfl, within_spec fun b hb => ⟨b, rfl, ifB_mk (fun h1 => ?_) (fun h1 => ?_)⟩⟩
    · have hz : zeroV s.cols[ln] = ⟨s.cols[ln].kind, 0, bs []⟩ := by unfold zeroV; rw [if_pos (hb.1 h1)]
      refine ⟨_, hb46.cell (i := 1) rfl, hb6.store (i := 0) (by simp [Val.cells]) rfl fun w7 hb7 hu7 _ => ?_⟩
      have hu27 : Upd Nothing w2 w7 := hu26.fresh hu7 fun i hi => by rw [show i = g5 from hi]; exact Nat.le_trans hu24.size hge5
      have hb7' : Blk w7 g5 (Val.cells ⟨s.cols[ln].kind, 0, bs []⟩) T.api_Value := hb7
      refine ⟨_, _, _, cells_cells hb7', app_val (x := ⟨s.cols[ln].kind, 0, bs []⟩) (hown.upd0 hu27) (by omega) fun p' c' w' ho' hu' hf' => ⟨_, _, _, rfl, ?_⟩⟩
      rw [← hz] at ho'
      exact hfin w7 p' c' w' hu27 ho' hu' hf'
    · have hz : zeroV s.cols[ln] = ⟨0, 0, bs []⟩ := by unfold zeroV; rw [if_neg (fun h' => by rw [hb.2 h'] at h1; cases h1)]
      refine ⟨_, _, _, cells_cells hb6, app_val (x := ⟨0, 0, bs []⟩) (hown.upd0 hu26) (by omega) fun p' c' w' ho' hu' hf' => ⟨_, _, _, rfl, ?_⟩⟩
      rw [← hz] at ho'
      exact hfin w6 p' c' w' hu26 ho' hu' hf'
  · have hkn : ln = s.cols.length := by have := of_decide_eq_false h; omega
    subst hkn
    rw [List.take_of_length_le (by omega)] at hown
    exact hK lp lc w2 hown hu2 hfr

/-- The place of the first column of a name; -1: there is none. -/
def FirstAt (l : List Col) (name : ByteArray) (r : Int) : Prop := (r = -1 ∧ ∀ j (hj : j < l.length), l[j].name ≠ name) ∨ ∃ k : Nat, r = k ∧ ∃ h : k < l.length, l[k].name = name ∧ ∀ j (hj : j < k), (l[j]'(Nat.lt_trans hj h)).name ≠ name
theorem FirstAt.unique {l : List Col} {name : ByteArray} {a b : Int} (ha : FirstAt l name a) (hb : FirstAt l name b) : a = b := by
  rcases ha with ⟨rfl, h1⟩ | ⟨k, rfl, hk, h1, h2⟩ <;> rcases hb with ⟨rfl, h3⟩ | ⟨j, rfl, hj, h3, h4⟩
  · rfl
  · exact absurd h3 (h1 j hj)
  · exact absurd h1 (h3 k hk)
  · rcases Nat.lt_trichotomy k j with h | h | h
    · exact absurd h1 (h4 k h)
    · rw [h]
    · exact absurd h3 (h2 j h)

theorem index_col {l : List Col} {name : ByteArray} {a : Addr} (ha : Cols w p l) (hl : l.length = n) (hn : n ≤ 1000000) (hcap : w.cell? a = some (.string name)) (hK : ∀ r w', FirstAt l name r → Upd Nothing w w' → K (.int .i64 r) w') :
    CallsV prog F.slices_IndexFunc_api_Column_api_Column #[.slice p n c, .func (.func F.schema_Col_1) #[] #[.pointer (some a)]] w K :=
  R.slices_IndexFunc_api_Column_api_Column (by
    unfold C.slices_IndexFunc_api_Column_api_Column
    refine ⟨fun i w' => ∃ k : Nat, i = k ∧ k ≤ n ∧ Upd Nothing w w' ∧ ∀ j (hj : j < l.length), j < k → l[j].name ≠ name, fun i _ => n - i.toNat, ⟨0, rfl, by omega, Upd.refl _ _, fun j hj h => by omega⟩, ?_⟩
    rintro i w1 ⟨k, rfl, hk, hu1, hq⟩
    refine ifB_mk (fun h => ?_) (fun h => ?_)
    · have hkn : k < n := by have := of_decide_eq_true h; omega
      obtain ⟨a1, ha1, hc1⟩ := (ha.upd0 hu1) k (by omega)
      refine ⟨a1, ha1, by omega, by omega, _, _, hc1, ?_⟩
      show CallsV prog F.schema_Col_1 #[.agg #[.string l[k].name, .int .i64 l[k].kind], .pointer (some a)] w1 _
      refine R.schema_Col_1 ?_
      unfold C.schema_Col_1
      refine New.use (by simp [Value.oneCell']) fun g2 w2 hb2 hu2 hge2 _ => ⟨_, hb2.cell (i := 0) rfl, _, (hu1.then hu2).cell hcap fun f => f, _, rfl, ifB_mk (fun h1 => ?_) (fun h1 => ?_)⟩
      · exact hK _ _ (.inr ⟨k, rfl, by omega, sEq_iff.1 h1, fun j hj => hq j (by omega) hj⟩) (hu1.then hu2)
      · refine scan_next (Q := fun k => ∀ j (hj : j < l.length), j < k → l[j].name ≠ name) hkn (by omega) (hu1.then hu2) fun j hj hjk => ?_
        by_cases h7 : j < k
        · exact hq j hj h7
        · have : j = k := by omega
          subst this
          exact sEq_not.1 h1
    · have hkn : k = n := by have := of_decide_eq_false h; omega
      exact hK _ _ (.inl ⟨rfl, fun j hj => hq j hj (by omega)⟩) hu1)

theorem col_spec {name : ByteArray} (hs : SchEx w s v) (hs1 : s.cols.length ≤ 1000000) (hK : ∀ r w', FirstAt s.cols name r → Upd Nothing w w' → K (.int .i64 r) w') : CallsV prog F.schema_Col #[v, .string name] w K := by
  obtain ⟨cp, cc, ip, ic, rfl, hcols, hcc, hixs, hic⟩ := hs
  refine R.schema_Col ?_
  unfold C.schema_Col
  refine New.use (by simp [Value.oneCell']) fun g1 w1 hb1 hu1 hge1 _ => New.use (by simp [Value.oneCell']) fun g2 w2 hb2 hu2 hge2 _ => ⟨_, _, _, (hu2.blk hb1 fun f => f).cell (i := 1) rfl, ?_⟩
  exact index_col (hcols.upd0 (hu1.then hu2)) rfl hs1 (hb2.cell (i := 0) rfl) fun r w3 hr hu3 => ⟨_, rfl, hK _ _ hr ((hu1.then hu2).then hu3)⟩
end
end Sc
end Go.Proofs.YtjcgociobhhijaaDoor
