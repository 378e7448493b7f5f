/- The functions of package value, and of the document's answer for it, that tell right values and orders: what each does. -/
import Derived.Test.YtjcgociobhhijaaVS
import Derived.Test.YtjcgociobhhijaaRl0
import Derived.Test.YtjcgociobhhijaaRl1
set_option linter.unusedVariables false
set_option linter.unusedSimpArgs false
set_option maxRecDepth 100000
namespace Go.Proofs.Ytjcgociobhhijaa
open Go Go.Proofs.Ytjcgociobhhijaa.SX
namespace Va

theorem bs_nil : bs [] = ⟨#[]⟩ := rfl
theorem cells_cells {w : World} {b : Nat} {v : Val} {e : Nat} (hb : Blk w b v.cells e) : SX.cellsAt w (Addr.mk b 0 none) 0 [.int .i64 v.k, .int .i64 v.n, .string v.s] := ⟨hb.cell (i := 0) rfl, hb.cell (i := 1) rfl, hb.cell (i := 2) rfl, trivial⟩
theorem val_one (v : Val) : ∀ x ∈ (#[.int .i64 v.k, .int .i64 v.n, .string v.s] : Array Value).toList, x.oneCell' = true := by simp [Value.oneCell']

section
variable {w : World} {K : Value → World → Prop} {p q : Option Addr} {n c m d : Nat} {xs ys : List Val} {a b v : Val}

/-! ### cmp -/
/-! ### Cmp -/
/-! ### right values -/
theorem wrong_spec (hK : ∀ w', Upd Nothing w w' → K (.bool (!v.right)) w') : CallsV prog F.value_wrong #[v.val] w K :=
  R.value_wrong (by
    unfold C.value_wrong
    refine New.use (val_one v) fun g w1 hb1 hu1 hge1 _ => ?_
    have hfin : ∀ x : Bool, x = !v.right → K (.bool x) w1 := fun x hx => hx ▸ hK w1 hu1
    refine ⟨v.k, hb1.cell (i := 0) rfl, ifB_mk (fun h => ?_) (fun h => ifB_mk (fun h2 => ?_) (fun h2 => ifB_mk (fun h3 => ?_) (fun h3 => ?_)))⟩
    · refine ⟨v.s, hb1.cell (i := 2) rfl, hfin _ ?_⟩
      have : v.k = 1 := by simpa using h
      simp [Val.right, this, bs_nil]
    · have : v.k = 2 := by simpa using h2
      refine ⟨v.n, hb1.cell (i := 1) rfl, ifB_mk (fun h3 => hfin _ ?_) (fun h3 => ⟨v.s, hb1.cell (i := 2) rfl, hfin _ ?_⟩)⟩
      · have h3' : v.n ≠ 0 := by simpa using h3
        simp [Val.right, this, h3']
      · have h3' : v.n = 0 := by simpa using h3
        rw [Bool.eq_iff_iff]
        simp [Val.right, this, h3']
    · have : v.k = 3 := by simpa using h3
      have hd : Int.fdiv v.n (2 ^ (min (1 : Int).toNat IntKind.i64.bits)) = v.n / 2 := by
        rw [show (2 : Int) ^ (min (1 : Int).toNat IntKind.i64.bits) = 2 by decide, Int.fdiv_eq_ediv_of_nonneg _ (by omega)]
      refine ⟨v.n, hb1.cell (i := 1) rfl, by omega, ifB_mk (fun h4 => hfin _ ?_) (fun h4 => ⟨v.s, hb1.cell (i := 2) rfl, hfin _ ?_⟩)⟩
      · rw [hd] at h4
        have h4' : v.n / 2 ≠ 0 := by simpa using h4
        have h5 : v.n ≠ 0 := by omega
        have h6 : v.n ≠ 1 := by omega
        simp [Val.right, this, h5, h6]
      · rw [hd] at h4
        have h4' : v.n / 2 = 0 := by simpa using h4
        have h5 : v.n = 0 ∨ v.n = 1 := by omega
        rcases h5 with h5 | h5 <;> simp [Val.right, this, h5, bs_nil]
    · have e1 : v.k ≠ 1 := by simpa using h
      have e2 : v.k ≠ 2 := by simpa using h2
      have e3 : v.k ≠ 3 := by simpa using h3
      exact hfin _ (by simp [Val.right, e1, e2, e3]))

theorem rright_spec (hK : ∀ w', Upd Nothing w w' → K (.bool v.right) w') : CallsV prog F.affluxref02_Right #[v.val] w K :=
  R.affluxref02_Right (by
    unfold C.affluxref02_Right
    refine New.use (val_one v) fun g w1 hb1 hu1 hge1 _ => ?_
    have hfin := hK w1 hu1
    have hk : w1.cell? ((Addr.mk g 0 none).add 0) = some (.int .i64 v.k) := hb1.cell (i := 0) rfl
    have hn : w1.cell? ((Addr.mk g 0 none).add 1) = some (.int .i64 v.n) := hb1.cell (i := 1) rfl
    have hs : w1.cell? ((Addr.mk g 0 none).add 2) = some (.string v.s) := hb1.cell (i := 2) rfl
    simp only [hk, hn, hs, Option.some.injEq, Value.int.injEq, Value.string.injEq, true_and, exists_eq_left', bs_nil]
    unfold Val.right at hfin
    by_cases e1 : v.k = 1
    · simp only [e1, beq_self_eq_true, ifB, Bool.true_and, Bool.true_or, show ((1 : Int) == 2) = false by decide, show ((1 : Int) == 3) = false by decide, Bool.false_and, Bool.or_false] at hfin ⊢
      cases hse : sEq v.s ⟨#[]⟩ <;> simp only [hse, ifB] at hfin ⊢ <;> exact hfin
    · by_cases e2 : v.k = 2
      · simp only [e2, beq_self_eq_true, ifB, Bool.true_and, show ((2 : Int) == 1) = false by decide, show ((2 : Int) == 3) = false by decide, Bool.false_and, Bool.or_false, Bool.false_or] at hfin ⊢
        by_cases hn0 : v.n = 0
        · simp only [hn0, beq_self_eq_true, Bool.true_and] at hfin ⊢
          cases hse : decide ((v.s.size : Int) ≤ 200) <;> simp only [hse] at hfin ⊢ <;> exact hfin
        · have : (v.n == 0) = false := by simpa using hn0
          simp only [this, Bool.false_and] at hfin ⊢
          exact hfin
      · have h1 : (v.k == 1) = false := by simpa using e1
        have h2 : (v.k == 2) = false := by simpa using e2
        simp only [h1, h2, Bool.false_and, Bool.false_or, ifB] at hfin ⊢
        cases h3 : v.k == 3 <;> simp only [h3, Bool.true_and, Bool.false_and] at hfin ⊢
        · exact hfin
        · cases h4 : v.n == 0 <;> simp only [h4, Bool.true_or, Bool.true_and, Bool.false_or] at hfin ⊢
          · cases h5 : v.n == 1 <;> simp only [h5, Bool.true_and, Bool.false_and] at hfin ⊢ <;> exact hfin
          · exact hfin)
theorem index_wrong (hat : At w p (vals xs)) (hl : xs.length = n) (hn : n ≤ 9223372036854775806) (hK : ∀ w' (r : Int), (r < 0 ↔ ∀ x ∈ xs, x.right = true) → Upd Nothing w w' → K (.int .i64 r) w') :
    CallsV prog F.slices_IndexFunc_api_Value_api_Value #[.slice p n c, .func (.func F.value_wrong) #[] #[]] w K :=
  R.slices_IndexFunc_api_Value_api_Value (by
    unfold C.slices_IndexFunc_api_Value_api_Value
    refine ⟨fun i w' => ∃ k : Nat, i = k ∧ k ≤ n ∧ Upd Nothing w w' ∧ ∀ x ∈ xs.take k, x.right = true, fun i _ => n - i.toNat, ⟨0, rfl, by omega, Upd.refl _ _, by simp⟩, ?_⟩
    rintro i w1 ⟨k, rfl, hk, hu1, hr⟩
    refine ifB_mk (fun h => ?_) (fun h => ?_)
    · have hkn : k < n := by simpa using h
      obtain ⟨a, ha, hc⟩ := (hat.upd0 hu1).val (i := k) (by omega)
      refine ⟨a, ha, by omega, by omega, _, _, _, hc, ?_⟩
      show CallsV prog F.value_wrong #[xs[k].val] w1 _
      refine wrong_spec fun w2 hu2 => ⟨_, rfl, ifB_mk (fun h => ?_) (fun h => ?_)⟩
      · refine hK w2 k ⟨fun h => by omega, fun h' => ?_⟩ (hu1.then hu2)
        have := h' xs[k] (List.getElem_mem _)
        rw [this] at h
        cases h
      · rw [i64_wrap (by omega) (by omega)]
        refine ⟨⟨k + 1, by omega, by omega, hu1.then hu2, ?_⟩, by show n - _ < n - _; omega⟩
        rw [List.take_succ_eq_append_getElem (by omega)]
        intro x hx
        rcases List.mem_append.1 hx with hx | hx
        · exact hr x hx
        · have : x = xs[k] := by simpa using hx
          rw [this]; simpa using h
    · have hkn : k = n := by simp at h; omega
      rw [List.take_of_length_le (by omega)] at hr
      exact hK w1 (-1) ⟨fun _ => hr, fun _ => by omega⟩ hu1)

theorem right_spec (hat : At w p (vals xs)) (hl : xs.length = n) (hn : n ≤ 9223372036854775806) (hK : ∀ w', Upd Nothing w w' → K (.bool (xs.all Val.right)) w') : CallsV prog F.value_Right #[.slice p n c] w K :=
  R.value_Right (by
    unfold C.value_Right
    refine R.slices_ContainsFunc_api_Value_api_Value ?_
    unfold C.slices_ContainsFunc_api_Value_api_Value
    refine index_wrong hat hl hn fun w1 r hr hu1 => ⟨r, rfl, _, rfl, ?_⟩
    have := hK w1 hu1
    have e : (!decide (0 ≤ r)) = xs.all Val.right := by
      rw [Bool.eq_iff_iff, List.all_eq_true, ← hr]
      simp
    rw [e]
    exact this)

theorem all_spec (hat : At w p (vals xs)) (hl : xs.length = n) (hn : n ≤ 9223372036854775806) (hK : ∀ w', Upd Nothing w w' → K (.bool (xs.all Val.right)) w') : CallsV prog F.affluxref02_All #[.slice p n c] w K :=
  R.affluxref02_All (by
    unfold C.affluxref02_All
    refine ⟨fun i w' => ∃ k : Nat, i = k ∧ k ≤ n ∧ Upd Nothing w w' ∧ ∀ x ∈ xs.take k, x.right = true, fun i _ => n - i.toNat, ⟨0, rfl, by omega, Upd.refl _ _, by simp⟩, ?_⟩
    rintro i w1 ⟨k, rfl, hk, hu1, hr⟩
    refine ifB_mk (fun h => ?_) (fun h => ?_)
    · have hkn : k < n := by simpa using h
      obtain ⟨a, ha, hc⟩ := (hat.upd0 hu1).val (i := k) (by omega)
      refine ⟨a, ha, by omega, by omega, _, _, _, hc, ?_⟩
      show CallsV prog F.affluxref02_Right #[xs[k].val] w1 _
      refine rright_spec fun w2 hu2 => ⟨_, rfl, ifB_mk (fun h => ?_) (fun h => ?_)⟩
      · have := hK w2 (hu1.then hu2)
        have e : xs.all Val.right = false := by
          rw [Bool.eq_false_iff]
          intro hall
          have := List.all_eq_true.1 hall xs[k] (List.getElem_mem _)
          rw [this] at h
          cases h
        rw [e] at this
        exact this
      · rw [i64_wrap (by omega) (by omega)]
        refine ⟨⟨k + 1, by omega, by omega, hu1.then hu2, ?_⟩, by show n - _ < n - _; omega⟩
        rw [List.take_succ_eq_append_getElem (by omega)]
        intro x hx
        rcases List.mem_append.1 hx with hx | hx
        · exact hr x hx
        · have : x = xs[k] := by simpa using hx
          rw [this]; simpa using h
    · have hkn : k = n := by simp at h; omega
      rw [List.take_of_length_le (by omega)] at hr
      have := hK w1 hu1
      rw [List.all_eq_true.2 hr] at this
      exact this)

/-! ### rows -/
/-! ### how much there may be -/
def great (xs : List Val) : Bool := decide (30 < xs.length) || xs.any fun x => decide (300 < x.s.size)

theorem great_spec (hat : At w p (vals xs)) (hl : xs.length = n) (hK : ∀ w', Upd Nothing w w' → K (.bool (great xs)) w') : CallsV prog F.affluxref02_Great #[.slice p n c] w K :=
  R.affluxref02_Great (by
    unfold C.affluxref02_Great
    refine ifB_mk (fun h => ?_) (fun h => ?_)
    · have := hK w (Upd.refl _ _)
      have e : great xs = true := by simp at h; simp [great]; omega
      rw [e] at this
      exact this
    have hn : n ≤ 30 := by simp at h; omega
    refine ⟨fun i w' => ∃ k : Nat, i = k ∧ k ≤ n ∧ Upd Nothing w w' ∧ ∀ x ∈ xs.take k, ¬ 300 < x.s.size, fun i _ => n - i.toNat, ⟨0, rfl, by omega, Upd.refl _ _, by simp⟩, ?_⟩
    rintro i w1 ⟨k, rfl, hk, hu1, hr⟩
    refine ifB_mk (fun h => ?_) (fun h => ?_)
    · have hkn : k < n := by simpa using h
      obtain ⟨a, ha, hc⟩ := (hat.upd0 hu1).val (i := k) (by omega)
      refine ⟨a, ha, by omega, by omega, _, hc.2.2.1, ifB_mk (fun h2 => ?_) (fun h2 => ?_)⟩
      · have := hK w1 hu1
        have e : great xs = true := by
          unfold great
          rw [Bool.or_eq_true]
          right
          rw [List.any_eq_true]
          exact ⟨xs[k], List.getElem_mem _, by simp at h2 ⊢; omega⟩
        rw [e] at this
        exact this
      · rw [i64_wrap (by omega) (by omega)]
        refine ⟨⟨k + 1, by omega, by omega, hu1, ?_⟩, by show n - _ < n - _; omega⟩
        rw [List.take_succ_eq_append_getElem (by omega)]
        intro x hx
        rcases List.mem_append.1 hx with hx | hx
        · exact hr x hx
        · have : x = xs[k] := by simpa using hx
          rw [this]; simp at h2; omega
    · have hkn : k = n := by simp at h; omega
      rw [List.take_of_length_le (by omega)] at hr
      have := hK w1 hu1
      have e : great xs = false := by
        unfold great
        rw [Bool.or_eq_false_iff]
        refine ⟨by simp; omega, ?_⟩
        rw [List.any_eq_false]
        intro x hx
        simpa using hr x hx
      rw [e] at this
      exact this)

/-! ### Int, Text, Bool -/
theorem int_spec {x : Int} (hK : ∀ w', Upd Nothing w w' → K (Val.val ⟨1, x, ⟨#[]⟩⟩) w') : CallsV prog F.value_Int #[.int .i64 x] w K :=
  R.value_Int (by
    unfold C.value_Int
    refine New.use (by simp [Value.oneCell']) fun g w2 hb2 hu2 hge2 _ => ?_
    refine hb2.store (i := 0) (by simp) rfl fun w3 hb3 hu3 _ => hb3.store (i := 1) (by simp) rfl fun w4 hb4 hu4 _ => hb4.store (i := 2) (by simp) rfl fun w5 hb5 hu5 _ => ?_
    have hg : ∀ i, One g i → w.heap.size ≤ i := fun i hi => by rw [show i = g from hi]; exact hge2
    exact ⟨_, _, _, cells_cells (v := ⟨1, x, ⟨#[]⟩⟩) hb5, hK w5 (((hu2.fresh hu3 hg).fresh hu4 hg).fresh hu5 hg)⟩)
end
end Va
end Go.Proofs.Ytjcgociobhhijaa
