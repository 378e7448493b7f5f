/- The functions of package value, and of the document's answer for it, that tell right values and orders: what each does. -/
import Derived.Test.YtjcgociobhhijaaDoorVS
import Derived.Test.YtjcgociobhhijaaDoorRl0
import Derived.Test.YtjcgociobhhijaaDoorRl1
import Derived.Test.YtjcgociobhhijaaDoorRl2
set_option linter.unusedVariables false
set_option linter.unusedSimpArgs false
set_option maxRecDepth 100000
namespace Go.Proofs.YtjcgociobhhijaaDoor
open Go Go.Proofs.YtjcgociobhhijaaDoor.SX
namespace Va

theorem bs_nil : bs [] = ⟨#[]⟩ := rfl
theorem cells_cells {w : World} {b : Nat} {v : Val} {e : Nat} (hb : Blk w b v.cells e) : SX.cellsAt w (Addr.mk b 0 none) 0 [.int .i64 v.k, .int .i64 v.n, .string v.s] := ⟨hb.cell (i := 0) rfl, hb.cell (i := 1) rfl, hb.cell (i := 2) rfl, trivial⟩
theorem val_one (v : Val) : ∀ x ∈ (#[.int .i64 v.k, .int .i64 v.n, .string v.s] : Array Value).toList, x.oneCell' = true := by simp [Value.oneCell']

section
variable {w : World} {K : Value → World → Prop} {p q : Option Addr} {n c m d : Nat} {xs ys : List Val} {a b v : Val}

/-! ### cmp -/
theorem nan_int {x : Int} (hK : K (.bool false) w) : CallsV prog F.cmp_isNaN_int #[.int .i64 x] w K := R.cmp_isNaN_int (by unfold C.cmp_isNaN_int; simpa using hK)
theorem nan_int64 {x : Int} (hK : K (.bool false) w) : CallsV prog F.cmp_isNaN_int64 #[.int .i64 x] w K := R.cmp_isNaN_int64 (by unfold C.cmp_isNaN_int64; simpa using hK)
theorem nan_str {x : ByteArray} (hK : K (.bool false) w) : CallsV prog F.cmp_isNaN_string #[.string x] w K := R.cmp_isNaN_string (by unfold C.cmp_isNaN_string; simpa [sEq_self] using hK)

theorem compare_int {x y : Int} (hK : K (.int .i64 (icmp x y)) w) : CallsV prog F.cmp_Compare_int #[.int .i64 x, .int .i64 y] w K :=
  R.cmp_Compare_int (by
    unfold C.cmp_Compare_int
    refine nan_int ⟨false, rfl, nan_int ⟨false, rfl, ifB_mk (fun h => by cases h) (fun _ => ifB_mk (fun h => by cases h) (fun _ => ?_))⟩⟩
    unfold icmp at hK
    refine ifB_mk (fun h => ?_) (fun h => ifB_mk (fun h' => ?_) (fun h' => ?_))
    · rw [if_pos (by simpa using h)] at hK; exact hK
    · rw [if_neg (by simpa using h), if_pos (by simpa using h')] at hK; exact hK
    · rw [if_neg (by simpa using h), if_neg (by simpa using h')] at hK; exact hK)
theorem compare_int64 {x y : Int} (hK : K (.int .i64 (icmp x y)) w) : CallsV prog F.cmp_Compare_int64 #[.int .i64 x, .int .i64 y] w K :=
  R.cmp_Compare_int64 (by
    unfold C.cmp_Compare_int64
    refine nan_int64 ⟨false, rfl, nan_int64 ⟨false, rfl, ifB_mk (fun h => by cases h) (fun _ => ifB_mk (fun h => by cases h) (fun _ => ?_))⟩⟩
    unfold icmp at hK
    refine ifB_mk (fun h => ?_) (fun h => ifB_mk (fun h' => ?_) (fun h' => ?_))
    · rw [if_pos (by simpa using h)] at hK; exact hK
    · rw [if_neg (by simpa using h), if_pos (by simpa using h')] at hK; exact hK
    · rw [if_neg (by simpa using h), if_neg (by simpa using h')] at hK; exact hK)
theorem compare_str {x y : ByteArray} (hK : K (.int .i64 (scmp x y)) w) : CallsV prog F.cmp_Compare_string #[.string x, .string y] w K :=
  R.cmp_Compare_string (by
    unfold C.cmp_Compare_string
    refine nan_str ⟨false, rfl, nan_str ⟨false, rfl, ifB_mk (fun h => by cases h) (fun _ => ifB_mk (fun h => by cases h) (fun _ => ?_))⟩⟩
    unfold scmp at hK
    refine ifB_mk (fun h => ?_) (fun h => ifB_mk (fun h' => ?_) (fun h' => ?_))
    · rw [if_pos h] at hK; exact hK
    · rw [h] at h' hK
      simp only [Bool.false_or, Bool.not_eq_true', Bool.false_eq_true, ↓reduceIte] at h' hK
      rw [if_neg (sEq_not.1 h')] at hK; exact hK
    · rw [h] at h' hK
      simp only [Bool.false_or, Bool.not_eq_false', Bool.false_eq_true, ↓reduceIte] at h' hK
      rw [if_pos (sEq_iff.1 h')] at hK; exact hK)

theorem or_three {x y z : Int} {g : Nat} (hb : Blk w g [.int .i64 x, .int .i64 y, .int .i64 z] T.int) (hK : K (.int .i64 (if x ≠ 0 then x else if y ≠ 0 then y else z)) w) :
    CallsV prog F.cmp_Or_int #[.slice (some ⟨g, 0, none⟩) 3 3] w K :=
  R.cmp_Or_int (by
    unfold C.cmp_Or_int
    refine ⟨fun i w' => w' = w ∧ ∃ k : Nat, i = k ∧ k ≤ 3 ∧ (0 < k → x = 0) ∧ (1 < k → y = 0) ∧ (2 < k → z = 0), fun i _ => 3 - i.toNat, ⟨rfl, 0, rfl, by omega, by omega, by omega, by omega⟩, ?_⟩
    rintro i w' ⟨rfl, k, rfl, hk, h0, h1, h2⟩
    refine ifB_mk (fun h => ?_) (fun h => ?_)
    · have hk3 : k < 3 := by simp at h; omega
      rw [i64_wrap (by omega) (by omega)]
      have hm : 3 - ((k : Int) + 1).toNat < 3 - (k : Int).toNat := by omega
      obtain rfl | rfl | rfl : k = 0 ∨ k = 1 ∨ k = 2 := by omega
      · refine ⟨_, rfl, by omega, by omega, x, hb.cell (i := 0) rfl, ifB_mk (fun h => ?_) (fun h => ⟨⟨rfl, 1, rfl, by omega, fun _ => by simpa using h, by omega, by omega⟩, hm⟩)⟩
        rw [if_pos (by simpa using h)] at hK; exact hK
      · refine ⟨_, rfl, by omega, by omega, y, hb.cell (i := 1) rfl, ifB_mk (fun h => ?_) (fun h => ⟨⟨rfl, 2, rfl, by omega, fun _ => h0 (by omega), fun _ => by simpa using h, by omega⟩, hm⟩)⟩
        rw [if_neg (by have := h0 (by omega); simpa using this), if_pos (by simpa using h)] at hK; exact hK
      · refine ⟨_, rfl, by omega, by omega, z, hb.cell (i := 2) rfl, ifB_mk (fun h => ?_) (fun h => ⟨⟨rfl, 3, rfl, by omega, fun _ => h0 (by omega), fun _ => h1 (by omega), fun _ => by simpa using h⟩, hm⟩)⟩
        rw [if_neg (by have := h0 (by omega); simpa using this), if_neg (by have := h1 (by omega); simpa using this)] at hK; exact hK
    · have hk3 : k = 3 := by simp at h; omega
      subst hk3
      rw [h0 (by omega), h1 (by omega), h2 (by omega)] at hK
      simpa using hK)

/-! ### Cmp -/
theorem cmp_spec (hK : ∀ w', Upd Nothing w w' → K (.int .i64 (a.cmp b)) w') : CallsV prog F.value_Cmp #[a.val, b.val] w K :=
  R.value_Cmp (by
    unfold C.value_Cmp
    refine New.use (val_one a) fun g w1 hb1 hu1 hge1 _ => New.use (val_one b) fun g2 w2 hb2 hu2 hge2 _ => ?_
    have hb1' := (hu2.blk hb1 fun f => f).drew
    have hb2' := hb2.drew
    refine ⟨a.k, hb1'.cell (i := 0) rfl, b.k, hb2'.cell (i := 0) rfl, a.n, hb1'.cell (i := 1) rfl, b.n, hb2'.cell (i := 1) rfl, a.s, hb1'.cell (i := 2) rfl, b.s, hb2'.cell (i := 2) rfl, ?_⟩
    refine compare_int ⟨_, rfl, hb2'.cell (i := 2) rfl, hb1'.cell (i := 2) rfl, hb2'.cell (i := 1) rfl, hb1'.cell (i := 1) rfl, compare_int64 ⟨_, rfl, hb2'.cell (i := 2) rfl, hb1'.cell (i := 2) rfl, compare_str ⟨_, rfl, ?_⟩⟩⟩
    refine New.use (by simp [Value.oneCell']) fun g3 w3 hb3 hu3 _ _ => or_three hb3 ⟨_, rfl, ?_⟩
    exact hK w3 (((hu1.then hu2).then (Upd.drew _ _)).then hu3))

theorem less_spec (hK : ∀ w', Upd Nothing w w' → K (.bool (a.less b)) w') : CallsV prog F.affluxref02_Less #[a.val, b.val] w K :=
  R.affluxref02_Less (by
    unfold C.affluxref02_Less
    refine New.use (val_one a) fun g w1 hb1 hu1 hge1 _ => New.use (val_one b) fun g2 w2 hb2 hu2 hge2 _ => ?_
    have hb1' := hu2.blk hb1 fun f => f
    have hfin := hK w2 (hu1.then hu2)
    unfold Val.less at hfin
    refine ⟨a.k, hb1'.cell (i := 0) rfl, b.k, hb2.cell (i := 0) rfl, ifB_mk (fun h => ?_) (fun h => ?_)⟩
    · rw [if_pos (by simpa using h)] at hfin
      exact ⟨a.k, hb1'.cell (i := 0) rfl, b.k, hb2.cell (i := 0) rfl, hfin⟩
    · rw [if_neg (by simpa using h)] at hfin
      refine ⟨a.n, hb1'.cell (i := 1) rfl, b.n, hb2.cell (i := 1) rfl, ifB_mk (fun h => ?_) (fun h => ?_)⟩
      · rw [if_pos (by simpa using h)] at hfin
        exact ⟨a.n, hb1'.cell (i := 1) rfl, b.n, hb2.cell (i := 1) rfl, hfin⟩
      · rw [if_neg (by simpa using h)] at hfin
        exact ⟨a.s, hb1'.cell (i := 2) rfl, b.s, hb2.cell (i := 2) rfl, hfin⟩)

theorem rcmp_spec (hK : ∀ w', Upd Nothing w w' → K (.int .i64 (a.cmp b)) w') : CallsV prog F.affluxref02_Cmp #[a.val, b.val] w K :=
  R.affluxref02_Cmp (by
    unfold C.affluxref02_Cmp
    refine New.use (val_one a) fun g w1 hb1 hu1 hge1 _ => New.use (val_one b) fun g2 w2 hb2 hu2 hge2 _ => ?_
    have hb1' : Blk w2 g a.cells _ := hu2.blk hb1 fun f => f
    refine ⟨a.k, a.n, a.s, cells_cells hb1', b.k, b.n, b.s, cells_cells (v := b) hb2, less_spec (a := a) (b := b) fun w3 hu3 => ⟨_, rfl, ifB_mk (fun h => ?_) (fun h => ?_)⟩⟩
    · have := hK w3 ((hu1.then hu2).then hu3)
      rw [Val.cmp_less, if_pos h] at this
      exact this
    · refine ⟨b.k, b.n, b.s, cells_cells (v := b) (hu3.blk hb2 fun f => f), a.k, a.n, a.s, cells_cells (hu3.blk hb1' fun f => f), less_spec (a := b) (b := a) fun w4 hu4 => ⟨_, rfl, ifB_mk (fun h' => ?_) (fun h' => ?_)⟩⟩
      · have := hK w4 (((hu1.then hu2).then hu3).then hu4)
        rw [Val.cmp_less, if_neg (by simp [h]), if_pos h'] at this
        exact this
      · have := hK w4 (((hu1.then hu2).then hu3).then hu4)
        rw [Val.cmp_less, if_neg (by simp [h]), if_neg (by simp [h'])] at this
        exact this)

/-! ### right values -/
theorem wrong_spec (hK : ∀ w', Upd Nothing w w' → K (.bool (!v.right)) w') : CallsV prog F.value_wrong #[v.val] w K :=
  R.value_wrong (by
    unfold C.value_wrong
    refine New.use (val_one v) fun g w1 hb1 hu1 hge1 _ => ?_
    have hfin : ∀ x : Bool, x = !v.right → K (.bool x) w1 := fun x hx => hx ▸ hK w1 hu1
    refine ⟨v.k, hb1.cell (i := 0) rfl, ifB_mk (fun h => ?_) (fun h => ifB_mk (fun h2 => ?_) (fun h2 => ifB_mk (fun h3 => ?_) (fun h3 => ?_)))⟩
    · refine ⟨v.s, hb1.cell (i := 2) rfl, hfin _ ?_⟩
      have : v.k = 1 := by simpa using h
      simp [Val.right, this, bs_nil]
    · have : v.k = 2 := by simpa using h2
      refine ⟨v.n, hb1.cell (i := 1) rfl, ifB_mk (fun h3 => hfin _ ?_) (fun h3 => ⟨v.s, hb1.cell (i := 2) rfl, hfin _ ?_⟩)⟩
      · have h3' : v.n ≠ 0 := by simpa using h3
        simp [Val.right, this, h3']
      · have h3' : v.n = 0 := by simpa using h3
        rw [Bool.eq_iff_iff]
        simp [Val.right, this, h3']
    · have : v.k = 3 := by simpa using h3
      have hd : Int.fdiv v.n (2 ^ (min (1 : Int).toNat IntKind.i64.bits)) = v.n / 2 := by
        rw [show (2 : Int) ^ (min (1 : Int).toNat IntKind.i64.bits) = 2 by decide, Int.fdiv_eq_ediv_of_nonneg _ (by omega)]
      refine ⟨v.n, hb1.cell (i := 1) rfl, by omega, ifB_mk (fun h4 => hfin _ ?_) (fun h4 => ⟨v.s, hb1.cell (i := 2) rfl, hfin _ ?_⟩)⟩
      · rw [hd] at h4
        have h4' : v.n / 2 ≠ 0 := by simpa using h4
        have h5 : v.n ≠ 0 := by omega
        have h6 : v.n ≠ 1 := by omega
        simp [Val.right, this, h5, h6]
      · rw [hd] at h4
        have h4' : v.n / 2 = 0 := by simpa using h4
        have h5 : v.n = 0 ∨ v.n = 1 := by omega
        rcases h5 with h5 | h5 <;> simp [Val.right, this, h5, bs_nil]
    · have e1 : v.k ≠ 1 := by simpa using h
      have e2 : v.k ≠ 2 := by simpa using h2
      have e3 : v.k ≠ 3 := by simpa using h3
      exact hfin _ (by simp [Val.right, e1, e2, e3]))

theorem rright_spec (hK : ∀ w', Upd Nothing w w' → K (.bool v.right) w') : CallsV prog F.affluxref02_Right #[v.val] w K :=
  R.affluxref02_Right (by
    unfold C.affluxref02_Right
    refine New.use (val_one v) fun g w1 hb1 hu1 hge1 _ => ?_
    have hfin := hK w1 hu1
    have hk : w1.cell? ((Addr.mk g 0 none).add 0) = some (.int .i64 v.k) := hb1.cell (i := 0) rfl
    have hn : w1.cell? ((Addr.mk g 0 none).add 1) = some (.int .i64 v.n) := hb1.cell (i := 1) rfl
    have hs : w1.cell? ((Addr.mk g 0 none).add 2) = some (.string v.s) := hb1.cell (i := 2) rfl
    simp only [hk, hn, hs, Option.some.injEq, Value.int.injEq, Value.string.injEq, true_and, exists_eq_left', bs_nil]
    unfold Val.right at hfin
    by_cases e1 : v.k = 1
    · simp only [e1, beq_self_eq_true, ifB, Bool.true_and, Bool.true_or, show ((1 : Int) == 2) = false by decide, show ((1 : Int) == 3) = false by decide, Bool.false_and, Bool.or_false] at hfin ⊢
      cases hse : sEq v.s ⟨#[]⟩ <;> simp only [hse, ifB] at hfin ⊢ <;> exact hfin
    · by_cases e2 : v.k = 2
      · simp only [e2, beq_self_eq_true, ifB, Bool.true_and, show ((2 : Int) == 1) = false by decide, show ((2 : Int) == 3) = false by decide, Bool.false_and, Bool.or_false, Bool.false_or] at hfin ⊢
        by_cases hn0 : v.n = 0
        · simp only [hn0, beq_self_eq_true, Bool.true_and] at hfin ⊢
          cases hse : decide ((v.s.size : Int) ≤ 200) <;> simp only [hse] at hfin ⊢ <;> exact hfin
        · have : (v.n == 0) = false := by simpa using hn0
          simp only [this, Bool.false_and] at hfin ⊢
          exact hfin
      · have h1 : (v.k == 1) = false := by simpa using e1
        have h2 : (v.k == 2) = false := by simpa using e2
        simp only [h1, h2, Bool.false_and, Bool.false_or, ifB] at hfin ⊢
        cases h3 : v.k == 3 <;> simp only [h3, Bool.true_and, Bool.false_and] at hfin ⊢
        · exact hfin
        · cases h4 : v.n == 0 <;> simp only [h4, Bool.true_or, Bool.true_and, Bool.false_or] at hfin ⊢
          · cases h5 : v.n == 1 <;> simp only [h5, Bool.true_and, Bool.false_and] at hfin ⊢ <;> exact hfin
          · exact hfin)
theorem index_wrong (hat : At w p (vals xs)) (hl : xs.length = n) (hn : n ≤ 9223372036854775806) (hK : ∀ w' (r : Int), (r < 0 ↔ ∀ x ∈ xs, x.right = true) → Upd Nothing w w' → K (.int .i64 r) w') :
    CallsV prog F.slices_IndexFunc_api_Value_api_Value #[.slice p n c, .func (.func F.value_wrong) #[] #[]] w K :=
  R.slices_IndexFunc_api_Value_api_Value (by
    unfold C.slices_IndexFunc_api_Value_api_Value
    refine ⟨fun i w' => ∃ k : Nat, i = k ∧ k ≤ n ∧ Upd Nothing w w' ∧ ∀ x ∈ xs.take k, x.right = true, fun i _ => n - i.toNat, ⟨0, rfl, by omega, Upd.refl _ _, by simp⟩, ?_⟩
    rintro i w1 ⟨k, rfl, hk, hu1, hr⟩
    refine ifB_mk (fun h => ?_) (fun h => ?_)
    · have hkn : k < n := by simpa using h
      obtain ⟨a, ha, hc⟩ := (hat.upd0 hu1).val (i := k) (by omega)
      refine ⟨a, ha, by omega, by omega, _, _, _, hc, ?_⟩
      show CallsV prog F.value_wrong #[xs[k].val] w1 _
      refine wrong_spec fun w2 hu2 => ⟨_, rfl, ifB_mk (fun h => ?_) (fun h => ?_)⟩
      · refine hK w2 k ⟨fun h => by omega, fun h' => ?_⟩ (hu1.then hu2)
        have := h' xs[k] (List.getElem_mem _)
        rw [this] at h
        cases h
      · rw [i64_wrap (by omega) (by omega)]
        refine ⟨⟨k + 1, by omega, by omega, hu1.then hu2, ?_⟩, by show n - _ < n - _; omega⟩
        rw [List.take_succ_eq_append_getElem (by omega)]
        intro x hx
        rcases List.mem_append.1 hx with hx | hx
        · exact hr x hx
        · have : x = xs[k] := by simpa using hx
          rw [this]; simpa using h
    · have hkn : k = n := by simp at h; omega
      rw [List.take_of_length_le (by omega)] at hr
      exact hK w1 (-1) ⟨fun _ => hr, fun _ => by omega⟩ hu1)

theorem right_spec (hat : At w p (vals xs)) (hl : xs.length = n) (hn : n ≤ 9223372036854775806) (hK : ∀ w', Upd Nothing w w' → K (.bool (xs.all Val.right)) w') : CallsV prog F.value_Right #[.slice p n c] w K :=
  R.value_Right (by
    unfold C.value_Right
    refine R.slices_ContainsFunc_api_Value_api_Value ?_
    unfold C.slices_ContainsFunc_api_Value_api_Value
    refine index_wrong hat hl hn fun w1 r hr hu1 => ⟨r, rfl, _, rfl, ?_⟩
    have := hK w1 hu1
    have e : (!decide (0 ≤ r)) = xs.all Val.right := by
      rw [Bool.eq_iff_iff, List.all_eq_true, ← hr]
      simp
    rw [e]
    exact this)

theorem all_spec (hat : At w p (vals xs)) (hl : xs.length = n) (hn : n ≤ 9223372036854775806) (hK : ∀ w', Upd Nothing w w' → K (.bool (xs.all Val.right)) w') : CallsV prog F.affluxref02_All #[.slice p n c] w K :=
  R.affluxref02_All (by
    unfold C.affluxref02_All
    refine ⟨fun i w' => ∃ k : Nat, i = k ∧ k ≤ n ∧ Upd Nothing w w' ∧ ∀ x ∈ xs.take k, x.right = true, fun i _ => n - i.toNat, ⟨0, rfl, by omega, Upd.refl _ _, by simp⟩, ?_⟩
    rintro i w1 ⟨k, rfl, hk, hu1, hr⟩
    refine ifB_mk (fun h => ?_) (fun h => ?_)
    · have hkn : k < n := by simpa using h
      obtain ⟨a, ha, hc⟩ := (hat.upd0 hu1).val (i := k) (by omega)
      refine ⟨a, ha, by omega, by omega, _, _, _, hc, ?_⟩
      show CallsV prog F.affluxref02_Right #[xs[k].val] w1 _
      refine rright_spec fun w2 hu2 => ⟨_, rfl, ifB_mk (fun h => ?_) (fun h => ?_)⟩
      · have := hK w2 (hu1.then hu2)
        have e : xs.all Val.right = false := by
          rw [Bool.eq_false_iff]
          intro hall
          have := List.all_eq_true.1 hall xs[k] (List.getElem_mem _)
          rw [this] at h
          cases h
        rw [e] at this
        exact this
      · rw [i64_wrap (by omega) (by omega)]
        refine ⟨⟨k + 1, by omega, by omega, hu1.then hu2, ?_⟩, by show n - _ < n - _; omega⟩
        rw [List.take_succ_eq_append_getElem (by omega)]
        intro x hx
        rcases List.mem_append.1 hx with hx | hx
        · exact hr x hx
        · have : x = xs[k] := by simpa using hx
          rw [this]; simpa using h
    · have hkn : k = n := by simp at h; omega
      rw [List.take_of_length_le (by omega)] at hr
      have := hK w1 hu1
      rw [List.all_eq_true.2 hr] at this
      exact this)

/-! ### rows -/
theorem compare_rows (hat : At w p (vals xs)) (hl : xs.length = n) (hn : n ≤ 9223372036854775806) (hat' : At w q (vals ys)) (hl' : ys.length = m) (hK : ∀ w', Upd Nothing w w' → K (.int .i64 (rowsCmp xs ys)) w') :
    CallsV prog F.slices_CompareFunc_api_Value_api_Value_api_Value_api_Value #[.slice p n c, .slice q m d, .func (.func F.value_Cmp) #[] #[]] w K :=
  R.slices_CompareFunc_api_Value_api_Value_api_Value_api_Value (by
    unfold C.slices_CompareFunc_api_Value_api_Value_api_Value_api_Value
    refine ⟨fun i w' => ∃ k : Nat, i = k ∧ k ≤ n ∧ k ≤ m ∧ Upd Nothing w w' ∧ rowsCmp xs ys = rowsCmp (xs.drop k) (ys.drop k), fun i _ => n - i.toNat, ⟨0, rfl, by omega, by omega, Upd.refl _ _, by simp⟩, ?_⟩
    rintro i w1 ⟨k, rfl, hk, hk', hu1, hr⟩
    refine ifB_mk (fun h => ?_) (fun h => ?_)
    · have hkn : k < n := by simpa using h
      obtain ⟨a, ha, hc⟩ := (hat.upd0 hu1).val (i := k) (by omega)
      refine ⟨a, ha, by omega, by omega, _, _, _, hc, ?_⟩
      refine New.use (by simp [Value.oneCell']) fun g w2 hb2 hu2 hge2 _ => ?_
      refine hb2.store (i := 0) (by simp) rfl fun w3 hb3 hu3 _ => hb3.store (i := 1) (by simp) rfl fun w4 hb4 hu4 _ => hb4.store (i := 2) (by simp) rfl fun w5 hb5 hu5 _ => ?_
      have hg : ∀ i, One g i → w1.heap.size ≤ i := fun i hi => by rw [show i = g from hi]; exact hge2
      have hu15 : Upd Nothing w1 w5 := ((hu2.fresh hu3 hg).fresh hu4 hg).fresh hu5 hg
      refine ifB_mk (fun h2 => ?_) (fun h2 => ?_)
      · have hkm : ¬ k < m := by simp at h2; omega
        have := hK w5 (hu1.then hu15)
        rw [hr, rowsCmp_end (by omega) (by omega) (by omega), if_neg (by omega), if_neg (by omega)] at this
        exact this
      · have hkm : k < m := by simp at h2; omega
        obtain ⟨a', ha', hc'⟩ := (hat'.upd0 (hu1.then hu15)).val (i := k) (by omega)
        refine ⟨a', ha', by omega, by omega, _, _, _, hc', ?_⟩
        refine New.use (by simp [Value.oneCell']) fun g2 w6 hb6 hu6 hge6 _ => ?_
        refine hb6.store (i := 0) (by simp) rfl fun w7 hb7 hu7 _ => hb7.store (i := 1) (by simp) rfl fun w8 hb8 hu8 _ => hb8.store (i := 2) (by simp) rfl fun w9 hb9 hu9 _ => ?_
        have hg2 : ∀ i, One g2 i → w5.heap.size ≤ i := fun i hi => by rw [show i = g2 from hi]; exact hge6
        have hu59 : Upd Nothing w5 w9 := ((hu6.fresh hu7 hg2).fresh hu8 hg2).fresh hu9 hg2
        refine ⟨_, _, _, cells_cells (v := xs[k]) (hu59.blk hb5 fun f => f), _, _, _, cells_cells (v := ys[k]) hb9, ?_⟩
        show CallsV prog F.value_Cmp #[xs[k].val, ys[k].val] w9 _
        refine cmp_spec fun w10 hu10 => ⟨_, rfl, ifB_mk (fun h3 => ?_) (fun h3 => ?_)⟩
        · have := hK w10 (((hu1.then hu15).then hu59).then hu10)
          rw [hr, rowsCmp_step (by omega) (by omega), if_pos (by simpa using h3)] at this
          exact this
        · rw [i64_wrap (by omega) (by omega)]
          refine ⟨⟨k + 1, by omega, by omega, by omega, ((hu1.then hu15).then hu59).then hu10, ?_⟩, by show n - _ < n - _; omega⟩
          rw [hr, rowsCmp_step (by omega) (by omega), if_neg (by simpa using h3)]
    · have hkn : k = n := by simp at h; omega
      have := hK w1 hu1
      rw [hr, rowsCmp_end (by omega) (by omega) (by omega)] at this
      refine ifB_mk (fun h2 => ?_) (fun h2 => ?_)
      · have h2' : n < m := by simp at h2; omega
        rw [if_neg (by omega), if_pos (by omega)] at this
        exact this
      · have h2' : n = m := by simp at h2; omega
        rw [if_pos (by omega)] at this
        exact this)

theorem rows_spec (hat : At w p (vals xs)) (hl : xs.length = n) (hn : n ≤ 9223372036854775806) (hat' : At w q (vals ys)) (hl' : ys.length = m) (hK : ∀ w', Upd Nothing w w' → K (.int .i64 (rowsCmp xs ys)) w') : CallsV prog F.value_Rows #[.slice p n c, .slice q m d] w K :=
  R.value_Rows (by
    unfold C.value_Rows
    exact compare_rows hat hl hn hat' hl' fun w1 hu1 => ⟨_, rfl, hK w1 hu1⟩)

theorem rrows_spec (hat : At w p (vals xs)) (hl : xs.length = n) (hn : n ≤ 9223372036854775806) (hat' : At w q (vals ys)) (hl' : ys.length = m) (hK : ∀ w', Upd Nothing w w' → K (.int .i64 (rowsCmp xs ys)) w') : CallsV prog F.affluxref02_Rows #[.slice p n c, .slice q m d] w K :=
  R.affluxref02_Rows (by
    unfold C.affluxref02_Rows
    refine ⟨fun i w' => ∃ k : Nat, i = k ∧ k ≤ n ∧ k ≤ m ∧ Upd Nothing w w' ∧ rowsCmp xs ys = rowsCmp (xs.drop k) (ys.drop k), fun i _ => n - i.toNat, ⟨0, rfl, by omega, by omega, Upd.refl _ _, by simp⟩, ?_⟩
    rintro i w1 ⟨k, rfl, hk, hk', hu1, hr⟩
    have hend : ¬ (k < n ∧ k < m) → ifB (((n : Nat) : Int) == ((m : Nat) : Int)) (K (.int .i64 0) w1) (ifB (decide (((n : Nat) : Int) < ((m : Nat) : Int))) (K (.int .i64 (-1)) w1) (K (.int .i64 1) w1)) := fun hno => by
      have := hK w1 hu1
      rw [hr, rowsCmp_end (by omega) (by omega) (by omega)] at this
      refine ifB_mk (fun h2 => ?_) (fun h2 => ifB_mk (fun h3 => ?_) (fun h3 => ?_))
      · have h2' : n = m := by simp at h2; omega
        rw [if_pos (by omega)] at this
        exact this
      · have h2' : n < m := by simp at h3; omega
        rw [if_neg (by omega), if_pos (by omega)] at this
        exact this
      · have h2' : ¬ n < m := by simp at h3; omega
        have h3' : n ≠ m := by simp at h2; omega
        rw [if_neg (by omega), if_neg (by omega)] at this
        exact this
    refine ifB_mk (fun h => ifB_mk (fun h2 => ?_) (fun h2 => hend (by simp at h2; omega))) (fun h => hend (by simp at h; omega))
    have hkn : k < n := by simpa using h
    have hkm : k < m := by simpa using h2
    have hu1' := hu1.then (Upd.drew _ _)
    obtain ⟨a, ha, hc⟩ := (hat.upd0 hu1').val (i := k) (by omega)
    obtain ⟨a', ha', hc'⟩ := (hat'.upd0 hu1').val (i := k) (by omega)
    refine ⟨a, ha, by omega, by omega, _, _, _, hc, a', ha', by omega, by omega, _, _, _, hc', ?_⟩
    show CallsV prog F.affluxref02_Cmp #[xs[k].val, ys[k].val] w1.drew _
    refine rcmp_spec fun w2 hu2 => ⟨_, rfl, ifB_mk (fun h3 => ?_) (fun h3 => ?_)⟩
    · have := hK w2 (hu1'.then hu2)
      rw [hr, rowsCmp_step (by omega) (by omega), if_pos (by simpa using h3)] at this
      exact this
    · rw [i64_wrap (by omega) (by omega)]
      refine ⟨⟨k + 1, by omega, by omega, by omega, hu1'.then hu2, ?_⟩, by show n - _ < n - _; omega⟩
      rw [hr, rowsCmp_step (by omega) (by omega), if_neg (by simpa using h3)])

/-! ### how much there may be -/
def great (xs : List Val) : Bool := decide (30 < xs.length) || xs.any fun x => decide (300 < x.s.size)

theorem great_spec (hat : At w p (vals xs)) (hl : xs.length = n) (hK : ∀ w', Upd Nothing w w' → K (.bool (great xs)) w') : CallsV prog F.affluxref02_Great #[.slice p n c] w K :=
  R.affluxref02_Great (by
    unfold C.affluxref02_Great
    refine ifB_mk (fun h => ?_) (fun h => ?_)
    · have := hK w (Upd.refl _ _)
      have e : great xs = true := by simp at h; simp [great]; omega
      rw [e] at this
      exact this
    have hn : n ≤ 30 := by simp at h; omega
    refine ⟨fun i w' => ∃ k : Nat, i = k ∧ k ≤ n ∧ Upd Nothing w w' ∧ ∀ x ∈ xs.take k, ¬ 300 < x.s.size, fun i _ => n - i.toNat, ⟨0, rfl, by omega, Upd.refl _ _, by simp⟩, ?_⟩
    rintro i w1 ⟨k, rfl, hk, hu1, hr⟩
    refine ifB_mk (fun h => ?_) (fun h => ?_)
    · have hkn : k < n := by simpa using h
      obtain ⟨a, ha, hc⟩ := (hat.upd0 hu1).val (i := k) (by omega)
      refine ⟨a, ha, by omega, by omega, _, hc.2.2.1, ifB_mk (fun h2 => ?_) (fun h2 => ?_)⟩
      · have := hK w1 hu1
        have e : great xs = true := by
          unfold great
          rw [Bool.or_eq_true]
          right
          rw [List.any_eq_true]
          exact ⟨xs[k], List.getElem_mem _, by simp at h2 ⊢; omega⟩
        rw [e] at this
        exact this
      · rw [i64_wrap (by omega) (by omega)]
        refine ⟨⟨k + 1, by omega, by omega, hu1, ?_⟩, by show n - _ < n - _; omega⟩
        rw [List.take_succ_eq_append_getElem (by omega)]
        intro x hx
        rcases List.mem_append.1 hx with hx | hx
        · exact hr x hx
        · have : x = xs[k] := by simpa using hx
          rw [this]; simp at h2; omega
    · have hkn : k = n := by simp at h; omega
      rw [List.take_of_length_le (by omega)] at hr
      have := hK w1 hu1
      have e : great xs = false := by
        unfold great
        rw [Bool.or_eq_false_iff]
        refine ⟨by simp; omega, ?_⟩
        rw [List.any_eq_false]
        intro x hx
        simpa using hr x hx
      rw [e] at this
      exact this)

/-! ### Int, Text, Bool -/
theorem int_spec {x : Int} (hK : ∀ w', Upd Nothing w w' → K (Val.val ⟨1, x, ⟨#[]⟩⟩) w') : CallsV prog F.value_Int #[.int .i64 x] w K :=
  R.value_Int (by
    unfold C.value_Int
    refine New.use (by simp [Value.oneCell']) fun g w2 hb2 hu2 hge2 _ => ?_
    refine hb2.store (i := 0) (by simp) rfl fun w3 hb3 hu3 _ => hb3.store (i := 1) (by simp) rfl fun w4 hb4 hu4 _ => hb4.store (i := 2) (by simp) rfl fun w5 hb5 hu5 _ => ?_
    have hg : ∀ i, One g i → w.heap.size ≤ i := fun i hi => by rw [show i = g from hi]; exact hge2
    exact ⟨_, _, _, cells_cells (v := ⟨1, x, ⟨#[]⟩⟩) hb5, hK w5 (((hu2.fresh hu3 hg).fresh hu4 hg).fresh hu5 hg)⟩)
theorem text_spec {x : ByteArray} (hK : ∀ w', Upd Nothing w w' → K (Val.val ⟨2, 0, x⟩) w') : CallsV prog F.value_Text #[.string x] w K :=
  R.value_Text (by
    unfold C.value_Text
    refine New.use (by simp [Value.oneCell']) fun g w2 hb2 hu2 hge2 _ => ?_
    refine hb2.store (i := 0) (by simp) rfl fun w3 hb3 hu3 _ => hb3.store (i := 1) (by simp) rfl fun w4 hb4 hu4 _ => hb4.store (i := 2) (by simp) rfl fun w5 hb5 hu5 _ => ?_
    have hg : ∀ i, One g i → w.heap.size ≤ i := fun i hi => by rw [show i = g from hi]; exact hge2
    exact ⟨_, _, _, cells_cells (v := ⟨2, 0, x⟩) hb5, hK w5 (((hu2.fresh hu3 hg).fresh hu4 hg).fresh hu5 hg)⟩)
theorem bool_spec {x : Bool} (hK : ∀ w', Upd Nothing w w' → K (Val.val ⟨3, if x = true then 1 else 0, ⟨#[]⟩⟩) w') : CallsV prog F.value_Bool #[.bool x] w K :=
  R.value_Bool (by
    unfold C.value_Bool
    refine New.use (by simp [Value.oneCell']) fun g0 w1 hb1 hu1 hge1 _ => New.use (by simp [Value.oneCell']) fun g w2 hb2 hu2 hge2 hlt2 => ?_
    refine hb2.store (i := 0) (by simp) rfl fun w3 hb3 hu3 _ => hb3.store (i := 1) (by simp) rfl fun w4 hb4 hu4 _ => hb4.store (i := 2) (by simp) rfl fun w5 hb5 hu5 _ => ?_
    have hlt1 := hb1.lt
    have hg : ∀ i, One g i → w1.heap.size ≤ i := fun i hi => by rw [show i = g from hi]; exact hge2
    have hg0 : ∀ i, One g0 i → w.heap.size ≤ i := fun i hi => by rw [show i = g0 from hi]; exact hge1
    have hu15 : Upd Nothing w1 w5 := ((hu2.fresh hu3 hg).fresh hu4 hg).fresh hu5 hg
    have hb15 := hu15.blk hb1 fun f => f
    refine ifB_mk (fun h => ?_) (fun h => ?_)
    · subst h
      refine hb5.store (i := 1) (by simp) rfl fun w6 hb6 hu6 _ => ⟨_, _, _, cells_cells (v := ⟨3, 1, ⟨#[]⟩⟩) hb6, ?_⟩
      have hu16 := hu15.fresh hu6 hg
      have hb16 := hu16.blk hb1 fun f => f
      refine hb16.store (i := 0) (by simp) rfl fun w7 hb7 hu7 _ => hb7.store (i := 1) (by simp) rfl fun w8 hb8 hu8 _ => hb8.store (i := 2) (by simp) rfl fun w9 hb9 hu9 _ => ?_
      exact ⟨_, _, _, cells_cells (v := ⟨3, 1, ⟨#[]⟩⟩) hb9, hK w9 ((((hu1.then hu16).fresh hu7 hg0).fresh hu8 hg0).fresh hu9 hg0)⟩
    · subst h
      refine ⟨_, _, _, cells_cells (v := ⟨3, 0, ⟨#[]⟩⟩) hb5, ?_⟩
      refine hb15.store (i := 0) (by simp) rfl fun w7 hb7 hu7 _ => hb7.store (i := 1) (by simp) rfl fun w8 hb8 hu8 _ => hb8.store (i := 2) (by simp) rfl fun w9 hb9 hu9 _ => ?_
      exact ⟨_, _, _, cells_cells (v := ⟨3, 0, ⟨#[]⟩⟩) hb9, hK w9 ((((hu1.then hu15).fresh hu7 hg0).fresh hu8 hg0).fresh hu9 hg0)⟩)
end
end Va
end Go.Proofs.YtjcgociobhhijaaDoor
