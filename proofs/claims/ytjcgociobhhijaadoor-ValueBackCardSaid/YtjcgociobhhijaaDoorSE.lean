/- The functions of package schema on rows: what fits, what is picked, what the keys are. -/
import Derived.Test.YtjcgociobhhijaaDoorVY
import Derived.Test.YtjcgociobhhijaaDoorSD
set_option linter.unusedVariables false
set_option linter.unusedSimpArgs false
set_option maxRecDepth 100000
namespace Go.Proofs.YtjcgociobhhijaaDoor
open Go Go.Proofs.YtjcgociobhhijaaDoor.SX Va
namespace Sc

/-- Does a row fit columns? -/
def FitsP (cols : List Col) (row : List Val) : Prop := row.length = cols.length ∧ row.all Val.right = true ∧ ∀ i (h : i < row.length) (h' : i < cols.length), row[i].k = cols[i].kind

def pickB (row : List Val) (ps : List Int) : Bool := ps.all fun i => decide (0 ≤ i) && decide (i ≤ (row.length : Int) - 1)
def pickV (row : List Val) (i : Int) : Val := (row[i.toNat]?).getD ⟨0, 0, ⟨#[]⟩⟩
/-- A row's values at places; nothing, if one isn't there. -/
def pk (row : List Val) (ps : List Int) : List Val := if pickB row ps = true then ps.map (pickV row) else []
theorem pk_length (row : List Val) (ps : List Int) : (pk row ps).length ≤ ps.length := by unfold pk; split <;> simp

section
variable {w : World} {K : Value → World → Prop} {p q : Option Addr} {n c m d : Nat} {s : ByteArray}

theorem fits_spec {l : List Col} {row : List Val} (hc : Cols w p l) (hl : l.length = n) (hr : At w q (vals row)) (hrl : row.length = m) (hm : m ≤ 9223372036854775806) (hK : ∀ (b : Bool) w', (b = true ↔ FitsP l row) → Upd Nothing w w' → K (.bool b) w') :
    CallsV prog F.schema_fits #[.slice p n c, .slice q m d] w K :=
  R.schema_fits (by
    unfold C.schema_fits
    refine ifB_mk (fun h => hK _ _ ⟨fun h => (by cases h), fun h' => ?_⟩ (Upd.refl _ _)) (fun h => ?_)
    · have := h'.1; simp at h; omega
    have hnm : m = n := by simp at h; omega
    subst hnm
    refine right_spec hr hrl hm fun w1 hu1 => ⟨_, rfl, ifB_mk (fun h1 => ?_) (fun h1 => ?_)⟩
    · refine hK _ _ ⟨fun h => (by cases h), fun h' => ?_⟩ hu1
      rw [h'.2.1] at h1
      cases h1
    have hall : row.all Val.right = true := by simpa using h1
    refine ⟨fun i w' => ∃ k : Nat, i = k ∧ k ≤ m ∧ Upd Nothing w w' ∧ ∀ i (h : i < row.length) (h' : i < l.length), i < k → row[i].k = l[i].kind, fun i _ => m - i.toNat, ⟨0, rfl, by omega, hu1, fun i _ _ h => by omega⟩, ?_⟩
    rintro i w2 ⟨k, rfl, hk, hu2, hq⟩
    refine ifB_mk (fun h4 => ?_) (fun h4 => ?_)
    · have hkn : k < m := by have := of_decide_eq_true h4; omega
      obtain ⟨a, ha, hcl⟩ := (hr.upd0 hu2).val (i := k) (by omega)
      refine ⟨a, ha, by omega, by omega, _, _, _, hcl, New.use (by simp [Value.oneCell']) fun g w3 hb3 hu3 hge3 _ => ?_⟩
      refine set_val row[k] hb3 fun w4 hb4 hu4 => ⟨_, hb4.drew.cell (i := 0) rfl, ?_⟩
      have hg : ∀ i, SX.One g i → w2.heap.size ≤ i := fun i hi => by rw [show i = g from hi]; exact hge3
      have hu24 : Upd Nothing w2 w4.drew := (hu3.fresh hu4 hg).then (Upd.drew _ _)
      obtain ⟨a2, ha2, hcl2⟩ := (hc.upd0 (hu2.then hu24)) k (by omega)
      refine ⟨a2, ha2, by omega, by omega, _, hcl2.2.1, ifB_mk (fun h5 => ?_) (fun h5 => ?_)⟩
      · refine hK _ _ ⟨fun h => (by cases h), fun h' => ?_⟩ (hu2.then hu24)
        have := h'.2.2 k (by omega) (by omega)
        simp [this] at h5
      · have h6 : row[k].k = l[k].kind := by simpa using h5
        refine scan_next (Q := fun k => ∀ i (h : i < row.length) (h' : i < l.length), i < k → row[i].k = l[i].kind) hkn hm (hu2.then hu24) fun i h h' hik => ?_
        by_cases h7 : i < k
        · exact hq i h h' h7
        · have : i = k := by omega
          subst this
          exact h6
    · have hkn : k = m := by have := of_decide_eq_false h4; omega
      exact hK _ _ ⟨fun _ => ⟨by omega, hall, fun i h h' => hq i h h' (by omega)⟩, fun _ => rfl⟩ hu2)

theorem pick_spec {row : List Val} {ps : List Int} (hr : At w p (vals row)) (hrl : row.length = n) (hn : n ≤ 9223372036854775806) (hps : At w q (ints ps)) (hpl : ps.length = m) (hm : m ≤ 1000000)
    (hK : ∀ p' n' c' w', At w' p' (vals (pk row ps)) → (pk row ps).length = n' → Upd Nothing w w' → K (.slice p' n' c') w') :
    CallsV prog F.schema_Pick #[.slice p n c, .slice q m d] w K :=
  R.schema_Pick (by
    unfold C.schema_Pick
    refine ⟨fun op on oc i w' => ∃ k : Nat, i = k ∧ k ≤ m ∧ on = k ∧ Own w' T.api_Value 3 op on oc (vals ((ps.take k).map (pickV row))) ∧ Upd Nothing w w' ∧ (∀ j, Fp op oc j → w.heap.size ≤ j) ∧ ∀ i ∈ ps.take k, 0 ≤ i ∧ i ≤ (row.length : Int) - 1,
      fun _ _ _ i _ => m - i.toNat, ⟨0, rfl, by omega, rfl, by simpa using Own.nil _ _ _, Upd.refl _ _, fun j hj => by have := hj.1; omega, by simp⟩, ?_⟩
    rintro op on oc i w1 ⟨k, rfl, hk, rfl, ho1, hu1, hf1, hq⟩
    rw [i64_wrap (n := (n : Int) - 1) (by omega) (by omega)]
    refine ifB_mk (fun h4 => ?_) (fun h4 => ?_)
    · have hkn : on < m := by have := of_decide_eq_true h4; omega
      obtain ⟨a, ha, hcl⟩ := (hps.upd0 hu1) on _ (ints_get (by omega))
      refine ⟨a, ha, by omega, by omega, _, by simpa using hcl, within_spec fun b hb => ⟨b, rfl, ifB_mk (fun h5 => ?_) (fun h5 => ?_)⟩⟩
      · have e : pk row ps = [] := by
          unfold pk
          rw [if_neg]
          intro h
          have := List.all_eq_true.1 h ps[on] (List.getElem_mem _)
          simp only [Bool.and_eq_true, decide_eq_true_eq] at this
          rw [hb.2 (by omega)] at h5
          cases h5
        exact hK none 0 0 w1 (by rw [e]; exact At.nil _ _) (by rw [e]; rfl) hu1
      · obtain ⟨h6, h7⟩ := hb.1 (by simpa using h5)
        obtain ⟨i, hi⟩ : ∃ i : Nat, ps[on] = i := ⟨ps[on].toNat, by omega⟩
        rw [hi] at h6 h7 ⊢
        rw [Int.toNat_natCast]
        have hil : i < row.length := by omega
        obtain ⟨a2, ha2, hcl2⟩ := (hr.upd0 hu1).val (i := i) hil
        refine ⟨a2, ha2, by omega, by omega, _, _, _, hcl2, ?_⟩
        refine app_val (x := row[i]) ho1 (by omega) fun p6 c6 w6 ho6 hu6 hf6 => ⟨p6, _, c6, rfl, ?_⟩
        rw [i64_wrap (by omega) (by omega)]
        have e : (ps.take (on + 1)).map (pickV row) = (ps.take on).map (pickV row) ++ [row[i]] := by
          rw [List.take_succ_eq_append_getElem (by omega), List.map_append, hi]
          simp [pickV, hil]
        refine ⟨⟨on + 1, by omega, by omega, rfl, by rw [e]; exact ho6, hu1.fresh hu6 hf1, fun j hj => ?_, forall_take (by omega) hq (by rw [hi]; omega)⟩, by show m - _ < m - _; omega⟩
        rcases hf6 j hj with h | h
        · exact hf1 j h
        · exact Nat.le_trans hu1.size h
    · have hkn : on = m := by have := of_decide_eq_false h4; omega
      rw [List.take_of_length_le (by omega)] at ho1 hq
      have e : pk row ps = ps.map (pickV row) := by
        unfold pk
        rw [if_pos]
        unfold pickB
        rw [List.all_eq_true]
        intro x hx
        have := hq x hx
        simp only [Bool.and_eq_true, decide_eq_true_eq]
        exact this
      exact hK op on oc w1 (by rw [e]; exact ho1.at) (by rw [e, List.length_map]; omega) hu1)

/-- The document's pick, at places that there are. -/
theorem rpick_spec {row : List Val} {ps : List Int} (hr : At w p (vals row)) (hrl : row.length = n) (hn : n ≤ 9223372036854775806) (hps : At w q (ints ps)) (hpl : ps.length = m) (hm : m ≤ 1000000) (hin : pickB row ps = true)
    (hK : ∀ p' n' c' w', At w' p' (vals (pk row ps)) → (pk row ps).length = n' → Upd Nothing w w' → K (.slice p' n' c') w') :
    CallsV prog F.affluxref03_Pick #[.slice p n c, .slice q m d] w K :=
  R.affluxref03_Pick (by
    unfold C.affluxref03_Pick
    have hq : ∀ i ∈ ps, 0 ≤ i ∧ i ≤ (row.length : Int) - 1 := fun i hi => by
      have := List.all_eq_true.1 hin i hi
      simpa only [Bool.and_eq_true, decide_eq_true_eq] using this
    have e : pk row ps = ps.map (pickV row) := by unfold pk; rw [if_pos hin]
    refine ⟨fun op on oc i w' => ∃ k : Nat, i = k ∧ k ≤ m ∧ on = k ∧ Own w' T.api_Value 3 op on oc (vals ((ps.take k).map (pickV row))) ∧ Upd Nothing w w' ∧ (∀ j, Fp op oc j → w.heap.size ≤ j),
      fun _ _ _ i _ => m - i.toNat, ⟨0, rfl, by omega, rfl, by simpa using Own.nil _ _ _, Upd.refl _ _, fun j hj => by have := hj.1; omega⟩, ?_⟩
    rintro op on oc i w1 ⟨k, rfl, hk, rfl, ho1, hu1, hf1⟩
    refine ifB_mk (fun h4 => ?_) (fun h4 => ?_)
    · have hkn : on < m := by have := of_decide_eq_true h4; omega
      obtain ⟨a, ha, hcl⟩ := (hps.upd0 hu1) on _ (ints_get (by omega))
      obtain ⟨h6, h7⟩ := hq ps[on] (List.getElem_mem _)
      refine ⟨a, ha, by omega, by omega, ps[on], by simpa using hcl, ?_⟩
      obtain ⟨i, hi⟩ : ∃ i : Nat, ps[on] = i := ⟨ps[on].toNat, by omega⟩
      rw [hi] at h6 h7 ⊢
      rw [Int.toNat_natCast]
      have hil : i < row.length := by omega
      obtain ⟨a2, ha2, hcl2⟩ := (hr.upd0 hu1).val (i := i) hil
      refine ⟨a2, ha2, by omega, by omega, _, _, _, hcl2, ?_⟩
      refine app_val (x := row[i]) ho1 (by omega) fun p6 c6 w6 ho6 hu6 hf6 => ⟨p6, _, c6, rfl, ?_⟩
      rw [i64_wrap (by omega) (by omega)]
      have e : (ps.take (on + 1)).map (pickV row) = (ps.take on).map (pickV row) ++ [row[i]] := by
        rw [List.take_succ_eq_append_getElem (by omega), List.map_append, hi]
        simp [pickV, hil]
      refine ⟨⟨on + 1, by omega, by omega, rfl, by rw [e]; exact ho6, hu1.fresh hu6 hf1, fun j hj => ?_⟩, by show m - _ < m - _; omega⟩
      rcases hf6 j hj with h | h
      · exact hf1 j h
      · exact Nat.le_trans hu1.size h
    · have hkn : on = m := by have := of_decide_eq_false h4; omega
      rw [List.take_of_length_le (by omega)] at ho1
      exact hK op on oc w1 (by rw [e]; exact ho1.at) (by rw [e, List.length_map]; omega) hu1)
end
end Sc
end Go.Proofs.YtjcgociobhhijaaDoor
