/- The place of a value, of so many: by the program and by the document. -/
import Derived.Test.YtjcgociobhhijaaDoorCA
set_option linter.unusedVariables false
set_option linter.unusedSimpArgs false
set_option maxRecDepth 100000
namespace Go.Proofs.YtjcgociobhhijaaDoor
open Go Go.Proofs.YtjcgociobhhijaaDoor.SX Va Sc
namespace Ca
def wsum : Nat → List UInt8 → Nat
  | _, [] => 0
  | i, b :: l => (i + 1) * b.toNat + wsum (i + 1) l
theorem wsum_snoc : ∀ (i : Nat) (l : List UInt8) (b : UInt8), wsum i (l ++ [b]) = wsum i l + (i + l.length + 1) * b.toNat
  | i, [], b => by simp [wsum]
  | i, x :: l, b => by
    simp only [List.cons_append, wsum, List.length_cons]
    rw [wsum_snoc (i + 1) l b, show i + 1 + l.length + 1 = i + (l.length + 1) + 1 by omega]
    omega
theorem wsum_le : ∀ (i : Nat) (l : List UInt8), i + l.length ≤ 300 → wsum i l ≤ 76500 * l.length
  | i, [], _ => by simp [wsum]
  | i, x :: l, h => by
    simp only [wsum, List.length_cons] at h ⊢
    have h1 := wsum_le (i + 1) l (by omega)
    have h2 : (i + 1) * x.toNat ≤ 300 * 255 := Nat.mul_le_mul (by omega) (by have := x.toNat_lt; omega)
    omega
def total (v : Val) : Int := v.n + (if v.k = 2 then (wsum 0 v.s.data.toList : Int) else 0)
/-- The place of a value, of so many. -/
def spreadV (v : Val) (n : Int) : Int := total v % n
section
variable {w : World} {K : Value → World → Prop} {p q : Option Addr} {n c m d : Nat} {v : Val}

theorem spread_low {N : Int} (hN : N < 1) (hK : ∀ w', Upd Nothing w w' → K (.int .i64 0) w') : CallsV prog F.value_Spread #[v.val, .int .i64 N] w K :=
  R.value_Spread (by
    unfold C.value_Spread
    refine New.use (by simp [Value.oneCell']) fun g1 w1 hb1 hu1 hge1 _ => ifB_mk (fun _ => hK _ hu1) (fun h => by have := of_decide_eq_false h; omega))

theorem spread_spec {N : Int} (hr : v.right = true) (hw : Va.Val.wf v) (hN : 1 ≤ N ∧ N ≤ 9223372036854775807) (hK : ∀ w', Upd Nothing w w' → K (.int .i64 (spreadV v N)) w') : CallsV prog F.value_Spread #[v.val, .int .i64 N] w K :=
  R.value_Spread (by
    unfold C.value_Spread
    refine New.use (by simp [Value.oneCell']) fun g1 w1 hb1 hu1 hge1 _ => ifB_mk (fun h => by have := of_decide_eq_true h; omega) (fun _ => ⟨_, hb1.cell (i := 1) rfl, _, hb1.cell (i := 0) rfl, ifB_mk (fun h => ?_) (fun h => ?_)⟩)
    · have hk2 : v.k = 2 := beq_iff_eq.1 h
      have hg := good_kinds hr
      have hv0 : v.n = 0 ∧ v.s.size ≤ 200 := by
        rcases hg with h | h | h
        · have := h.1; omega
        · exact h.2
        · have := h.1; omega
      have hlen : v.s.data.toList.length = v.s.size := rfl
      refine ⟨_, hb1.cell (i := 2) rfl, conv_text Va.und_str Va.su8.desc Va.und_u8 fun cp cc w2 hat2 hu2 => ⟨cp, _, cc, rfl, ?_⟩⟩
      refine ⟨fun sum i w' => w' = w2 ∧ ∃ k : Nat, i = k ∧ k ≤ v.s.size ∧ sum = (wsum 0 (v.s.data.toList.take k) : Int), fun _ i _ => v.s.size - i.toNat, ⟨rfl, 0, rfl, by omega, by rw [hv0.1]; rfl⟩, ?_⟩
      rintro sum i w3 ⟨rfl, k, rfl, hk, rfl⟩
      have hle := wsum_le 0 (v.s.data.toList.take k) (by simp; omega)
      have hle' : wsum 0 (v.s.data.toList.take k) ≤ 76500 * 200 := Nat.le_trans hle (Nat.mul_le_mul_left _ (by simp; omega))
      refine ifB_mk (fun h1 => ?_) (fun h1 => ?_)
      · have hkn : k < v.s.size := by have := of_decide_eq_true h1; omega
        obtain ⟨a, ha, hc⟩ := hat2 k _ (bytesV_get (by rw [hlen]; exact hkn))
        refine ⟨a, ha, by omega, by omega, ((v.s.data.toList[k]'(by rw [hlen]; exact hkn)).toNat : Int), by simpa using hc, ?_⟩
        have hb := (v.s.data.toList[k]'(by rw [hlen]; exact hkn)).toNat_lt
        have hsn := wsum_snoc 0 (v.s.data.toList.take k) (v.s.data.toList[k]'(by rw [hlen]; exact hkn))
        rw [← List.take_succ_eq_append_getElem (by rw [hlen]; exact hkn)] at hsn
        have hl' : (v.s.data.toList.take k).length = k := by simp; omega
        rw [hl', Nat.zero_add] at hsn
        generalize (v.s.data.toList[k]'(by rw [hlen]; exact hkn)).toNat = b at hb hsn ⊢
        have hm : (k + 1) * b ≤ 201 * 256 := Nat.mul_le_mul (by omega) (by omega)
        have e1 : IntKind.i64.wrap ((k : Int) + 1) = ((k + 1 : Nat) : Int) := by rw [i64_wrap (by omega) (by omega)]; omega
        have e2 : IntKind.i64.wrap (b : Int) = (b : Int) := i64_wrap (by omega) (by omega)
        have e3 : IntKind.i64.wrap (((k + 1 : Nat) : Int) * (b : Int)) = (((k + 1) * b : Nat) : Int) := by rw [← Int.natCast_mul]; exact i64_wrap (by omega) (by omega)
        rw [e1, e2, e3, i64_wrap (by omega) (by omega)]
        refine ⟨⟨rfl, k + 1, rfl, by omega, by omega⟩, by show v.s.size - _ < v.s.size - _; omega⟩
      · have hkn : k = v.s.size := by have := of_decide_eq_false h1; omega
        subst hkn
        have hall : v.s.data.toList.take v.s.size = v.s.data.toList := List.take_of_length_le (by rw [hlen]; exact Nat.le_refl _)
        rw [hall] at hle' ⊢
        refine mod_spec (by omega) hN fun w4 hu4 => ⟨_, _, rfl, ?_⟩
        have : spreadV v N = (wsum 0 v.s.data.toList : Int) % N := by unfold spreadV total; rw [if_pos hk2, hv0.1, Int.zero_add]
        rw [← this]
        exact hK _ ((hu1.then hu2).then hu4)
    · have hk2 : v.k ≠ 2 := by simpa using h
      refine mod_spec hw.2.1 hN fun w4 hu4 => ⟨_, _, rfl, ?_⟩
      have : spreadV v N = v.n % N := by unfold spreadV total; rw [if_neg hk2, Int.add_zero]
      rw [← this]
      exact hK _ (hu1.then hu4))

/-- What is left, digit by digit. -/
theorem left_loop {X : Int} {N g : Nat} (hb : Blk w g [.bool (decide (X < 0)), .slice p (digs X.natAbs).length c] T.affluxref01_Num) (hat : At w p (dg (digs X.natAbs))) (hl : (digs X.natAbs).length ≤ 10000) (hN : 1 ≤ N ∧ N ≤ 1000000) (hK : K (.int .i64 (X % (N : Int))) w) :
    ∃ (D1p : Option Addr) (D1n D1c : Nat),
    w.cell? ((Addr.mk g 0 none).add 1) = some (.slice D1p D1n D1c) ∧
    ∃ (Iv2 : Int → Int → World → Prop) (m2 : Int → Int → World → Nat),
    Iv2 0 (IntKind.i64.wrap (((D1n : Nat) : Int) - (1 : Int))) w ∧
    ∀ (left1 : Int) (i2 : Int) wv11, Iv2 left1 i2 wv11 →
    ifB (decide ((0 : Int) ≤ i2)) (
      ∃ (D2p : Option Addr) (D2n D2c : Nat),
      wv11.cell? ((Addr.mk g 0 none).add 1) = some (.slice D2p D2n D2c) ∧
      ∃ a1, D2p = some a1 ∧ 0 ≤ i2 ∧ i2 < ((D2n : Nat) : Int) ∧
      ∃ (e1 : Int),
      wv11.cell? (a1.add (i2.toNat * 1)) = some (.int .i64 e1) ∧
      (N : Int) ≠ 0 ∧
      Iv2 (Int.tmod (IntKind.i64.wrap ((IntKind.i64.wrap ((10 : Int) * left1)) + e1)) (N : Int)) (IntKind.i64.wrap (i2 - (1 : Int))) wv11 ∧ m2 (Int.tmod (IntKind.i64.wrap ((IntKind.i64.wrap ((10 : Int) * left1)) + e1)) (N : Int)) (IntKind.i64.wrap (i2 - (1 : Int))) wv11 < m2 left1 i2 wv11) (
      ∃ (Neg1 : Bool),
      wv11.cell? ((Addr.mk g 0 none).add 0) = some (.bool Neg1) ∧
      ifB Neg1 (
        ifB (decide ((0 : Int) < left1)) (
          K (.int .i64 (IntKind.i64.wrap ((N : Int) - left1))) wv11) (
          K (.int .i64 left1) wv11)) (
        K (.int .i64 left1) wv11)) := by
  refine ⟨_, _, _, hb.cell (i := 1) rfl, fun left i w' => w' = w ∧ ∃ k : Nat, i = (k : Int) - 1 ∧ k ≤ (digs X.natAbs).length ∧ left = ((dval ((digs X.natAbs).drop k) % N : Nat) : Int), fun _ i _ => (i + 1).toNat, ⟨rfl, (digs X.natAbs).length, by rw [i64_wrap (by omega) (by omega)], Nat.le_refl _, by rw [List.drop_length]; simp [dval]⟩, ?_⟩
  rintro left i w1 ⟨rfl, k, rfl, hk, rfl⟩
  have hlt : dval ((digs X.natAbs).drop k) % N < N := Nat.mod_lt _ (by omega)
  refine ifB_mk (fun h => ?_) (fun h => ?_)
  · have h0 := of_decide_eq_true h
    obtain ⟨j, rfl⟩ : ∃ j, k = j + 1 := ⟨k - 1, by omega⟩
    have hj : ((j + 1 : Nat) : Int) - 1 = (j : Int) := by omega
    rw [hj]
    have hjl : j < (digs X.natAbs).length := by omega
    obtain ⟨a, ha, hc⟩ := hat j _ (dg_get hjl)
    have hd := digs_lt X.natAbs _ (List.getElem_mem hjl)
    refine ⟨_, _, _, hb.cell (i := 1) rfl, a, ha, by omega, by omega, ((digs X.natAbs)[j] : Int), by simpa using hc, by omega, ?_⟩
    have hdr : (digs X.natAbs).drop j = (digs X.natAbs)[j] :: (digs X.natAbs).drop (j + 1) := List.drop_eq_getElem_cons hjl
    have hv : dval ((digs X.natAbs).drop j) % N = (10 * (dval ((digs X.natAbs).drop (j + 1)) % N) + (digs X.natAbs)[j]) % N := by
      rw [hdr]
      show ((digs X.natAbs)[j] + 10 * dval ((digs X.natAbs).drop (j + 1))) % N = _
      have h10 : 10 * dval ((digs X.natAbs).drop (j + 1)) % N = 10 * (dval ((digs X.natAbs).drop (j + 1)) % N) % N := by rw [Nat.mul_mod 10 (dval _), Nat.mul_mod 10 (dval _ % N), Nat.mod_mod]
      rw [Nat.add_comm, Nat.add_mod, h10, ← Nat.add_mod]
    generalize (digs X.natAbs)[j] = e at hd hv ⊢
    generalize dval ((digs X.natAbs).drop (j + 1)) % N = l at hlt hv ⊢
    have e1 : IntKind.i64.wrap (IntKind.i64.wrap ((10 : Int) * (l : Int)) + (e : Int)) = ((10 * l + e : Nat) : Int) := by
      rw [i64_wrap_add, i64_wrap (by omega) (by omega)]; omega
    have e2 : Int.tmod ((10 * l + e : Nat) : Int) (N : Int) = (((10 * l + e) % N : Nat) : Int) := by
      rw [Int.tmod_eq_emod_of_nonneg (by omega), Int.natCast_emod]
    rw [e1, e2, i64_wrap (by omega) (by omega)]
    refine ⟨⟨rfl, j, by omega, by omega, by rw [hv]⟩, by show Int.toNat _ < Int.toNat _; omega⟩
  · have hk0 : k = 0 := by have := of_decide_eq_false h; omega
    subst hk0
    rw [List.drop_zero, dval_digs] at hlt ⊢
    have hdm := Nat.div_add_mod X.natAbs N
    have hdm' : (X.natAbs : Int) = (N : Int) * ((X.natAbs / N : Nat) : Int) + ((X.natAbs % N : Nat) : Int) := by rw [← Int.natCast_mul]; omega
    refine ⟨_, hb.cell (i := 0) rfl, ifB_mk (fun h1 => ?_) (fun h1 => ?_)⟩
    · have hneg := of_decide_eq_true h1
      refine ifB_mk (fun h2 => ?_) (fun h2 => ?_)
      · have h2' := of_decide_eq_true h2
        rw [i64_wrap (by omega) (by omega)]
        have : X % (N : Int) = (N : Int) - ((X.natAbs % N : Nat) : Int) := emod_of (q := -((X.natAbs / N : Nat) : Int) - 1) (by rw [Int.mul_sub, Int.mul_neg, Int.mul_one]; omega) (by omega) (by omega)
        rw [← this]
        exact hK
      · have h2' := of_decide_eq_false h2
        have : X % (N : Int) = ((X.natAbs % N : Nat) : Int) := emod_of (q := -((X.natAbs / N : Nat) : Int)) (by rw [Int.mul_neg]; omega) (by omega) (by omega)
        rw [← this]
        exact hK
    · have hpos := of_decide_eq_false h1
      have : X % (N : Int) = ((X.natAbs % N : Nat) : Int) := emod_of (q := ((X.natAbs / N : Nat) : Int)) (by omega) (by omega) (by omega)
      rw [← this]
      exact hK

theorem digs_small {x : Int} (h : x.natAbs < 10 ^ 19) : (digs x.natAbs).length ≤ 10000 := by have := digs_length_le h; omega

theorem rspread_spec {N : Nat} (hr : v.right = true) (hw : Va.Val.wf v) (hN : 1 ≤ N ∧ N ≤ 1000000) (hK : ∀ w', Upd Nothing w w' → K (.int .i64 (spreadV v (N : Int))) w') : CallsV prog F.affluxref02_Spread #[v.val, .int .i64 (N : Int)] w K :=
  R.affluxref02_Spread (by
    unfold C.affluxref02_Spread
    have hlen : v.s.data.toList.length = v.s.size := rfl
    have hg := good_kinds hr
    refine New.use (by simp [Value.oneCell']) fun g1 w1 hb1 hu1 hge1 hlt1 => ⟨_, hb1.cell (i := 1) rfl, of_spec hw.2.1 fun u w2 hnum hu2 => ?_⟩
    obtain ⟨p, c, rfl, ho⟩ := hnum
    refine ⟨_, _, _, _, rfl, New.use (by simp [Value.oneCell']) fun g3 w3 hb3 hu3 hge3 _ => set_two rfl rfl hb3 fun w5 hb5 hu5 => ?_⟩
    have hu35 : Upd Nothing w2 w5 := hu3.fresh hu5 fun i hi => by rw [show i = g3 from hi]; exact hge3
    have hu15 := hu2.then hu35
    refine ⟨fun i w' => ∃ (k : Nat) (X : Int) (p : Option Addr) (c : Nat), i = k ∧ k ≤ v.s.size ∧ X = v.n + (wsum 0 (v.s.data.toList.take k) : Int) ∧ (0 < k → v.k = 2) ∧ Blk w' g3 [.bool (decide (X < 0)), .slice p (digs X.natAbs).length c] T.affluxref01_Num ∧ Own w' T.int 1 p (digs X.natAbs).length c (dg (digs X.natAbs)) ∧ Upd Nothing w1 w',
      fun i _ => v.s.size - i.toNat, ⟨0, v.n, p, c, rfl, by omega, by simp [wsum], fun h => by omega, hb5, ho.upd0 hu35, hu15⟩, ?_⟩
    rintro i w6 ⟨k, X, p, c, rfl, hk, hX, hk2, hb6, ho6, hu6⟩
    have hb16 := hu6.blk hb1 fun f => f
    have hXb : X.natAbs < 10 ^ 19 := by
      have h1 := hw.2.1
      by_cases h0 : 0 < k
      · rcases hg with h | h | h
        · have := h.1; have := hk2 h0; omega
        · have h2 := wsum_le 0 (v.s.data.toList.take k) (by simp; omega)
          have h3 : wsum 0 (v.s.data.toList.take k) ≤ 76500 * 200 := Nat.le_trans h2 (Nat.mul_le_mul_left _ (by simp; omega))
          have := h.2.1
          show X.natAbs < 10000000000000000000
          omega
        · have := h.1; have := hk2 h0; omega
      · have : k = 0 := by omega
        subst this
        have : wsum 0 (v.s.data.toList.take 0) = 0 := rfl
        show X.natAbs < 10000000000000000000
        omega
    refine ⟨_, hb16.cell (i := 2) rfl, ifB_mk (fun h => ⟨_, hb16.cell (i := 0) rfl, ifB_mk (fun h1 => ?_) (fun h1 => ?_)⟩) (fun h => ?_)⟩
    · have hkn : k < v.s.size := by have := of_decide_eq_true h; omega
      have hv2 : v.k = 2 := beq_iff_eq.1 h1
      have hv0 : v.n = 0 ∧ v.s.size ≤ 200 := by
        rcases hg with h | h | h
        · have := h.1; omega
        · exact h.2
        · have := h.1; omega
      have hX0 : 0 ≤ X := by omega
      have hud := Upd.drew Nothing w6
      have hb := (v.s.data.toList[k]'(by rw [hlen]; exact hkn)).toNat_lt
      have hsn := wsum_snoc 0 (v.s.data.toList.take k) (v.s.data.toList[k]'(by rw [hlen]; exact hkn))
      rw [← List.take_succ_eq_append_getElem (by rw [hlen]; exact hkn)] at hsn
      have hl' : (v.s.data.toList.take k).length = k := by simp; omega
      rw [hl', Nat.zero_add] at hsn
      refine ⟨_, _, _, _, two_cells hb6.drew, _, hb16.drew.cell (i := 2) rfl, by omega, by omega, ?_⟩
      rw [bt_get hkn]
      generalize (v.s.data.toList[k]'(by rw [hlen]; exact hkn)).toNat = b at hb hsn ⊢
      have hm : (k + 1) * b ≤ 201 * 256 := Nat.mul_le_mul (by omega) (by omega)
      have e1 : IntKind.i64.wrap ((k : Int) + 1) = ((k + 1 : Nat) : Int) := by rw [i64_wrap (by omega) (by omega)]; omega
      have e2 : IntKind.i64.wrap (b : Int) = (b : Int) := i64_wrap (by omega) (by omega)
      have e3 : IntKind.i64.wrap (((k + 1 : Nat) : Int) * (b : Int)) = (((k + 1) * b : Nat) : Int) := by rw [← Int.natCast_mul]; exact i64_wrap (by omega) (by omega)
      rw [e1, e2, e3]
      refine of_spec (by omega) fun u7 w7 hnum7 hu7 => ?_
      have hnum7' := hnum7
      obtain ⟨p7, c7, rfl, ho7⟩ := hnum7
      refine ⟨_, _, _, _, rfl, two_cells (hu7.blk hb6.drew fun f => f), ?_⟩
      have hu67 := hud.then hu7
      refine plus_spec (x := X) (y := (((k + 1) * b : Nat) : Int)) ⟨p, c, rfl, ho6.upd0 hu67⟩ hnum7' hX0 (by omega) (digs_small hXb) (digs_small (by show _ < 10000000000000000000; omega)) fun u8 w8 hnum8 hu8 => ?_
      obtain ⟨p8, c8, rfl, ho8⟩ := hnum8
      have hb8 := (hu67.then hu8).blk hb6 fun f => f
      refine ⟨_, _, _, _, rfl, set_two rfl rfl hb8 fun w10 hb10 hu10 => ?_⟩
      refine ⟨⟨k + 1, X + (((k + 1) * b : Nat) : Int), p8, c8, rfl, by omega, by omega, fun _ => hv2, hb10, ho8.upd hu10 (own_one ho8 hb8 (by decide)), (hu6.then (hu67.then hu8)).fresh hu10 fun i hi => ?_⟩, by show v.s.size - _ < v.s.size - _; omega⟩
      rw [show i = g3 from hi]
      exact Nat.le_trans hu2.size hge3
    · have hv2 : v.k ≠ 2 := by simpa using h1
      have hk0 : k = 0 := by
        rcases Nat.eq_zero_or_pos k with h | h
        · exact h
        · exact absurd (hk2 h) hv2
      subst hk0
      have hXv : X % (N : Int) = spreadV v (N : Int) := by unfold spreadV total; rw [if_neg hv2, hX]; simp [wsum]
      exact left_loop hb6 ho6.at (digs_small hXb) hN (by rw [hXv]; exact hK _ (hu1.then hu6))
    · have hkn : k = v.s.size := by have := of_decide_eq_false h; omega
      subst hkn
      have hall : v.s.data.toList.take v.s.size = v.s.data.toList := List.take_of_length_le (by rw [hlen]; exact Nat.le_refl _)
      have hXv : X % (N : Int) = spreadV v (N : Int) := by
        unfold spreadV total
        rw [hX, hall]
        by_cases hv2 : v.k = 2
        · rw [if_pos hv2]
        · rw [if_neg hv2]
          have : v.s.size = 0 := by
            rcases Nat.eq_zero_or_pos v.s.size with h | h
            · exact h
            · exact absurd (hk2 h) hv2
          have : v.s.data.toList = [] := List.length_eq_zero_iff.1 (by rw [hlen, this])
          rw [this]
          rfl
      exact left_loop hb6 ho6.at (digs_small hXb) hN (by rw [hXv]; exact hK _ (hu1.then hu6)))
end
end Ca
end Go.Proofs.YtjcgociobhhijaaDoor
