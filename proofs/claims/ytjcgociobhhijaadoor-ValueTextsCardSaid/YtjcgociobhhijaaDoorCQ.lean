/- Numbers' texts: the document's print and parse, the program's parse. -/
import Derived.Test.YtjcgociobhhijaaDoorCP
set_option linter.unusedVariables false
set_option linter.unusedSimpArgs false
set_option maxRecDepth 100000
namespace Go.Proofs.YtjcgociobhhijaaDoor
open Go Go.Proofs.YtjcgociobhhijaaDoor.SX Va Sc
namespace Ca
section
variable {w : World} {K : Value → World → Prop} {p q : Option Addr} {n c m d : Nat}
theorem rprint_spec {x : Int} (hx : inr x) (hK : ∀ w', Upd Nothing w w' → K (.string (tx (dtext x))) w') : CallsV prog F.affluxref01_Print #[.int .i64 x] w K :=
  R.affluxref01_Print (by
    unfold C.affluxref01_Print
    have hN := digs_len19 hx
    refine of_spec hx fun v w1 hnum hu1 => ?_
    obtain ⟨p, c, rfl, ho⟩ := hnum
    refine ⟨_, _, _, _, rfl, New.use (by simp [Value.oneCell']) fun g w2 hb2 hu2 hge2 _ => set_two rfl rfl hb2 fun w3 hb3 hu3 => ?_⟩
    have hu13 : Upd Nothing w1 w3 := hu2.fresh hu3 fun i hi => by rw [show i = g from hi]; exact hge2
    have hat := ho.at.upd0 hu13
    refine ⟨_, _, _, hb3.cell (i := 1) rfl, ifB_mk (fun h => ?_) (fun h => ?_)⟩
    · have h0 : (digs x.natAbs).length = 0 := by have := beq_iff_eq.1 h; omega
      have h1 := digs_nil (List.length_eq_zero_iff.1 h0)
      have h2 : x = 0 := by omega
      subst h2
      exact hK w3 (hu1.then hu13)
    have hnz : x.natAbs ≠ 0 := fun e => by rw [e, digs_zero] at h; simp at h
    refine ⟨fun s i w' => ∃ k : Nat, i = k ∧ k ≤ (digs x.natAbs).length ∧ s = tx (((digs x.natAbs).take k).reverse.map digB) ∧ Upd Nothing w3 w', fun _ i _ => (digs x.natAbs).length - i.toNat, ⟨0, rfl, by omega, rfl, Upd.refl _ _⟩, ?_⟩
    rintro s i w4 ⟨k, rfl, hk, rfl, hu4⟩
    have hb4 := hu4.blk hb3 fun f => f
    refine ⟨_, _, _, hb4.cell (i := 1) rfl, ifB_mk (fun h1 => ?_) (fun h1 => ?_)⟩
    · have hkn : k < (digs x.natAbs).length := by have := of_decide_eq_true h1; omega
      obtain ⟨a, ha, hc⟩ := (hat.upd0 hu4) k _ (dg_get hkn)
      have hd := digs_lt x.natAbs _ (List.getElem_mem hkn)
      have e1 : IntKind.u8.wrap (IntKind.i64.wrap ((48 : Int) + ((digs x.natAbs)[k] : Int))) = ((digB (digs x.natAbs)[k]).toNat : Int) := by
        rw [digB_toNat hd]
        simp [IntKind.wrap, IntKind.signed, IntKind.bits]
        omega
      refine ⟨_, _, _, hb4.cell (i := 1) rfl, a, ha, by omega, by omega, ((digs x.natAbs)[k] : Int), by simpa using hc, ?_⟩
      rw [e1]
      refine New.use (by simp [Value.oneCell']) fun g5 w5 hb5 hu5 hge5 _ => to_text (l := [digB (digs x.natAbs)[k]]) (At.of_blk hb5 fun j v hj => by rw [Nat.zero_add]; exact hj) rfl ⟨_, rfl, ?_, ?_⟩
      · show (tx [digB (digs x.natAbs)[k]]).size + _ ≤ _
        rw [tx_size, tx_size]
        simp
        omega
      · rw [i64_wrap (by omega) (by omega)]
        refine ⟨⟨k + 1, by omega, by omega, ?_, hu4.then hu5⟩, by show (digs x.natAbs).length - _ < (digs x.natAbs).length - _; omega⟩
        show tx [digB (digs x.natAbs)[k]] ++ _ = _
        rw [tx_app, List.take_succ_eq_append_getElem hkn, List.reverse_append]
        rfl
    · have hkn : k = (digs x.natAbs).length := by have := of_decide_eq_false h1; omega
      subst hkn
      rw [List.take_of_length_le (Nat.le_refl _)]
      have hnt : ntext x.natAbs = (digs x.natAbs).reverse.map digB := by unfold ntext; rw [if_neg hnz]
      refine ⟨_, hb4.cell (i := 0) rfl, ifB_mk (fun h2 => ?_) (fun h2 => ?_)⟩
      · have hneg := of_decide_eq_true h2
        have := hK w4 ((hu1.then hu13).then hu4)
        rw [dtext_neg hneg, hnt] at this
        rw [tx_bs, tx_app, tx_size, tx_size]
        refine ⟨by simp; omega, this⟩
      · have hpos := of_decide_eq_false h2
        have := hK w4 ((hu1.then hu13).then hu4)
        rw [dtext_pos (by omega), hnt] at this
        exact this)

theorem less_spec {x y : Nat} (ha : At w p (dg (digs x))) (hl : (digs x).length = n) (hn : n ≤ 10000) (hb : At w q (dg (digs y))) (hl' : (digs y).length = m) (hm : m ≤ 10000) (hK : ∀ w', Upd Nothing w w' → K (.bool (decide (x < y))) w') :
    CallsV prog F.affluxref01_less #[.slice p n c, .slice q m d] w K :=
  R.affluxref01_less (by
    unfold C.affluxref01_less
    refine ifB_mk (fun h => ?_) (fun h => ?_)
    · have hne : n ≠ m := by simp at h; omega
      have : decide ((n : Int) < (m : Int)) = decide (x < y) := by
        rw [decide_eq_decide]
        constructor
        · intro h'
          exact digs_more (by omega)
        · intro h'
          rcases Nat.lt_or_ge n m with h2 | h2
          · omega
          · have := digs_more (x := y) (y := x) (by omega)
            omega
      rw [this]
      exact hK _ (Upd.refl _ _)
    have hnm : n = m := by simp at h; omega
    subst hnm
    refine ⟨fun i w' => ∃ k : Nat, i = (k : Int) - 1 ∧ k ≤ n ∧ Upd Nothing w w' ∧ (digs x).drop k = (digs y).drop k, fun i _ => (i + 1).toNat, ⟨n, by rw [i64_wrap (by omega) (by omega)], by omega, Upd.refl _ _, by rw [List.drop_of_length_le (by omega), List.drop_of_length_le (by omega)]⟩, ?_⟩
    rintro i w1 ⟨k, rfl, hk, hu, hd⟩
    refine ifB_mk (fun h1 => ?_) (fun h1 => ?_)
    · have h0 := of_decide_eq_true h1
      obtain ⟨j, rfl⟩ : ∃ j, k = j + 1 := ⟨k - 1, by omega⟩
      have hj : ((j + 1 : Nat) : Int) - 1 = (j : Int) := by omega
      rw [hj]
      have hu' := hu.then (Upd.drew _ _)
      have hu'' := hu'.then (Upd.drew _ _)
      obtain ⟨a1, ha1, hc1⟩ := (ha.upd0 hu') j _ (dg_get (by omega))
      obtain ⟨a2, ha2, hc2⟩ := (hb.upd0 hu') j _ (dg_get (by omega))
      refine ⟨a1, ha1, by omega, by omega, (((digs x)[j]'(by omega) : Nat) : Int), by simpa using hc1, a2, ha2, by omega, by omega, (((digs y)[j]'(by omega) : Nat) : Int), by simpa using hc2, ifB_mk (fun h2 => ?_) (fun h2 => ?_)⟩
      · refine ⟨a1, ha1, by omega, by omega, (((digs x)[j]'(by omega) : Nat) : Int), by simpa using (Upd.drew Nothing w1.drew).cell hc1 fun f => f, a2, ha2, by omega, by omega, (((digs y)[j]'(by omega) : Nat) : Int), by simpa using (Upd.drew Nothing w1.drew).cell hc2 fun f => f, ?_⟩
        have hne : (digs x)[j]'(by omega) ≠ (digs y)[j]'(by omega) := fun e => by rw [e] at h2; simp at h2
        have : decide ((((digs x)[j]'(by omega) : Nat) : Int) < (((digs y)[j]'(by omega) : Nat) : Int)) = decide (x < y) := by
          rw [decide_eq_decide]
          constructor
          · intro h'
            have := dval_at (i := j) (digs_lt x) (digs_lt y) (by omega) (by omega) hd (by omega)
            rw [dval_digs, dval_digs] at this
            exact this
          · intro h'
            rcases Nat.lt_or_ge ((digs x)[j]'(by omega)) ((digs y)[j]'(by omega)) with h3 | h3
            · omega
            · have := dval_at (i := j) (digs_lt y) (digs_lt x) (by omega) (by omega) hd.symm (by omega)
              rw [dval_digs, dval_digs] at this
              omega
        rw [this]
        exact hK _ hu''
      · have he : (digs x)[j]'(by omega) = (digs y)[j]'(by omega) := by
          have : (((digs x)[j]'(by omega) : Nat) : Int) = (((digs y)[j]'(by omega) : Nat) : Int) := by simpa using h2
          omega
        rw [i64_wrap (by omega) (by omega)]
        refine ⟨⟨j, by omega, by omega, hu', ?_⟩, by show Int.toNat _ < Int.toNat _; omega⟩
        rw [List.drop_eq_getElem_cons (by omega), List.drop_eq_getElem_cons (show j < (digs y).length by omega), he, hd]
    · have hk0 : k = 0 := by have := of_decide_eq_false h1; omega
      subst hk0
      rw [List.drop_zero, List.drop_zero] at hd
      have hxy : x = y := by rw [← dval_digs x, hd, dval_digs]
      have := hK _ hu
      rw [hxy] at this
      have e : decide (y < y) = false := decide_eq_false (by omega)
      rw [e] at this
      exact this)

/-- The end of the document's number of 64 bits. -/
theorem small_loop {x : Int} {g : Nat} (hx : inr x) (hb : Blk w g [.bool (decide (x < 0)), .slice p (digs x.natAbs).length c] T.affluxref01_Num) (hat : At w p (dg (digs x.natAbs))) (hK : K (.tuple #[.int .i64 x, .bool true]) w) :
    ∃ (D3p : Option Addr) (D3n D3c : Nat),
    w.cell? ((Addr.mk g 0 none).add 1) = some (.slice D3p D3n D3c) ∧
    ∃ (Iv1 : Int → Int → World → Prop) (m1 : Int → Int → World → Nat),
    Iv1 0 (IntKind.i64.wrap (((D3n : Nat) : Int) - (1 : Int))) w ∧
    ∀ (u1 : Int) (i1 : Int) wv10, Iv1 u1 i1 wv10 →
    ifB (decide ((0 : Int) ≤ i1)) (
      ∃ (D4p : Option Addr) (D4n D4c : Nat),
      wv10.cell? ((Addr.mk g 0 none).add 1) = some (.slice D4p D4n D4c) ∧
      ∃ a1, D4p = some a1 ∧ 0 ≤ i1 ∧ i1 < ((D4n : Nat) : Int) ∧
      ∃ (e1 : Int),
      wv10.cell? (a1.add (i1.toNat * 1)) = some (.int .i64 e1) ∧
      Iv1 (IntKind.u64.wrap ((IntKind.u64.wrap ((10 : Int) * u1)) + (IntKind.u64.wrap e1))) (IntKind.i64.wrap (i1 - (1 : Int))) wv10 ∧ m1 (IntKind.u64.wrap ((IntKind.u64.wrap ((10 : Int) * u1)) + (IntKind.u64.wrap e1))) (IntKind.i64.wrap (i1 - (1 : Int))) wv10 < m1 u1 i1 wv10) (
      ∃ (Neg2 : Bool),
      wv10.cell? ((Addr.mk g 0 none).add 0) = some (.bool Neg2) ∧
      ifB Neg2 (
        K (.tuple #[.int .i64 (IntKind.i64.wrap (IntKind.u64.wrap (0 - u1))), .bool true]) wv10) (
        K (.tuple #[.int .i64 (IntKind.i64.wrap u1), .bool true]) wv10)) := by
  have hl := digs_len19 hx
  obtain ⟨hx1, hx2⟩ := hx
  refine ⟨_, _, _, hb.cell (i := 1) rfl, fun u i w' => w' = w ∧ ∃ k : Nat, i = (k : Int) - 1 ∧ k ≤ (digs x.natAbs).length ∧ u = (dval ((digs x.natAbs).drop k) : Int), fun _ i _ => (i + 1).toNat, ⟨rfl, (digs x.natAbs).length, by rw [i64_wrap (by omega) (by omega)], Nat.le_refl _, by rw [List.drop_length]; rfl⟩, ?_⟩
  rintro u i w1 ⟨rfl, k, rfl, hk, rfl⟩
  refine ifB_mk (fun h => ?_) (fun h => ?_)
  · have h0 := of_decide_eq_true h
    obtain ⟨j, rfl⟩ : ∃ j, k = j + 1 := ⟨k - 1, by omega⟩
    have hj : ((j + 1 : Nat) : Int) - 1 = (j : Int) := by omega
    rw [hj]
    have hjl : j < (digs x.natAbs).length := by omega
    obtain ⟨a, ha, hc⟩ := hat j _ (dg_get hjl)
    have hd := digs_lt x.natAbs _ (List.getElem_mem hjl)
    refine ⟨_, _, _, hb.cell (i := 1) rfl, a, ha, by omega, by omega, ((digs x.natAbs)[j] : Int), by simpa using hc, ?_⟩
    have hdr : (digs x.natAbs).drop j = (digs x.natAbs)[j] :: (digs x.natAbs).drop (j + 1) := List.drop_eq_getElem_cons hjl
    have hv : dval ((digs x.natAbs).drop j) = (digs x.natAbs)[j] + 10 * dval ((digs x.natAbs).drop (j + 1)) := by rw [hdr]; rfl
    have hle : dval ((digs x.natAbs).drop j) ≤ x.natAbs := by
      have h1 := dval_append ((digs x.natAbs).take j) ((digs x.natAbs).drop j)
      rw [List.take_append_drop, dval_digs] at h1
      have h2 : 1 ≤ 10 ^ ((digs x.natAbs).take j).length := Nat.one_le_pow _ _ (by decide)
      have h3 := Nat.mul_le_mul_right (dval ((digs x.natAbs).drop j)) h2
      omega
    have e1 : IntKind.u64.wrap (IntKind.u64.wrap ((10 : Int) * (dval ((digs x.natAbs).drop (j + 1)) : Int)) + IntKind.u64.wrap ((digs x.natAbs)[j] : Int)) = (dval ((digs x.natAbs).drop j) : Int) := by
      generalize (digs x.natAbs)[j] = e at hd hv ⊢
      generalize dval ((digs x.natAbs).drop (j + 1)) = l at hv ⊢
      generalize dval ((digs x.natAbs).drop j) = t at hv hle ⊢
      simp [IntKind.wrap, IntKind.signed, IntKind.bits]
      omega
    rw [e1, i64_wrap (by omega) (by omega)]
    exact ⟨⟨rfl, j, by omega, by omega, rfl⟩, by show Int.toNat _ < Int.toNat _; omega⟩
  · have hk0 : k = 0 := by have := of_decide_eq_false h; omega
    subst hk0
    rw [List.drop_zero, dval_digs]
    refine ⟨_, hb.cell (i := 0) rfl, ifB_mk (fun h1 => ?_) (fun h1 => ?_)⟩
    · have hneg := of_decide_eq_true h1
      have : IntKind.i64.wrap (IntKind.u64.wrap (0 - (x.natAbs : Int))) = x := by
        simp [IntKind.wrap, IntKind.signed, IntKind.bits]
        omega
      rw [this]
      exact hK
    · have hpos := of_decide_eq_false h1
      have : IntKind.i64.wrap (x.natAbs : Int) = x := by rw [i64_wrap (by omega) (by omega)]; omega
      rw [this]
      exact hK

theorem small_spec {v : Value} {x : Int} (hx : NumAt w v x) (hl : (digs x.natAbs).length ≤ 10000) (hK1 : ∀ w', ¬ inr x → Upd Nothing w w' → K (.tuple #[.int .i64 0, .bool false]) w') (hK2 : ∀ w', inr x → Upd Nothing w w' → K (.tuple #[.int .i64 x, .bool true]) w') :
    CallsV prog F.affluxref01_Small #[v] w K := by
  obtain ⟨p, c, rfl, ho⟩ := hx
  refine R.affluxref01_Small ?_
  unfold C.affluxref01_Small
  refine New.use (by simp [Value.oneCell']) fun g1 w1 hb1 hu1 hge1 _ => of_spec (by omega) fun u w2 hnum2 hu2 => ?_
  obtain ⟨p2, c2, rfl, ho2⟩ := hnum2
  refine ⟨_, _, _, _, rfl, New.use (by simp [Value.oneCell']) fun g3 w3 hb3 hu3 hge3 _ => set_two rfl rfl hb3 fun w5 hb5 hu5 => ?_⟩
  have hu25 : Upd Nothing w2 w5 := hu3.fresh hu5 fun i hi => by rw [show i = g3 from hi]; exact hge3
  have hu15 := hu2.then hu25
  have hb15 := hu15.blk hb1 fun f => f
  have hn1 : (digs (9223372036854775807 : Int).natAbs).length ≤ 19 := digs_length_le (by decide)
  refine ⟨_, hb15.cell (i := 0) rfl, ifB_mk (fun h => ?_) (fun h => ?_)⟩
  · have hneg := of_decide_eq_true h
    refine of_spec (by omega) fun u w6 hnum6 hu6 => ?_
    obtain ⟨p6, c6, rfl, ho6⟩ := hnum6
    have hb6 := hu6.blk hb5 fun f => f
    refine ⟨_, _, _, _, rfl, set_two rfl rfl hb6 fun w8 hb8 hu8 => ?_⟩
    have hg3 : w1.heap.size ≤ g3 := Nat.le_trans hu2.size hge3
    have hu18 : Upd Nothing w1 w8 := (hu15.then hu6).fresh hu8 fun i hi => by rw [show i = g3 from hi]; exact hg3
    have hb18 := hu18.blk hb1 fun f => f
    have hn2 : (digs (-9223372036854775808 : Int).natAbs).length ≤ 19 := digs_length_le (by decide)
    refine ⟨_, _, _, hb8.cell (i := 1) rfl, _, _, _, hb18.cell (i := 1) rfl, ?_⟩
    refine less_spec ((ho6.upd hu8 (own_one ho6 hb6 (by decide))).at) rfl (by omega) (ho.at.upd0 (hu1.then hu18)) rfl hl fun w9 hu9 => ⟨_, rfl, ?_⟩
    have hu19 := hu18.then hu9
    refine ifB_mk (fun h1 => hK1 _ (fun h2 => ?_) (hu1.then hu19)) (fun h1 => ?_)
    · have := of_decide_eq_true h1
      have := h2.1
      omega
    · have h1' := of_decide_eq_false h1
      have hin : inr x := ⟨by omega, by omega⟩
      exact small_loop hin (hu19.blk hb1 fun f => f) (ho.at.upd0 (hu1.then hu19)) (hK2 _ hin (hu1.then hu19))
  · have hpos := of_decide_eq_false h
    refine ⟨_, _, _, hb5.cell (i := 1) rfl, _, _, _, hb15.cell (i := 1) rfl, ?_⟩
    refine less_spec ((ho2.upd0 hu25).at) rfl (by omega) (ho.at.upd0 (hu1.then hu15)) rfl hl fun w9 hu9 => ⟨_, rfl, ?_⟩
    have hu19 := hu15.then hu9
    refine ifB_mk (fun h1 => hK1 _ (fun h2 => ?_) (hu1.then hu19)) (fun h1 => ?_)
    · have := of_decide_eq_true h1
      have := h2.2
      omega
    · have h1' := of_decide_eq_false h1
      have hin : inr x := ⟨by omega, by omega⟩
      exact small_loop hin (hu19.blk hb1 fun f => f) (ho.at.upd0 (hu1.then hu19)) (hK2 _ hin (hu1.then hu19))

theorem bt_head {s : ByteArray} (h : 0 < s.size) : (bt s 0 == 45) = decide (s.data.toList.head? = some 45) := by
  have h1 := bt_get h
  have hl : 0 < s.data.toList.length := h
  rw [show ((0 : Nat) : Int) = 0 from rfl] at h1
  rw [h1, Bool.eq_iff_iff, beq_iff_eq, decide_eq_true_eq, List.head?_eq_getElem?, List.getElem?_eq_getElem hl]
  constructor
  · intro h2
    congr 1
    exact UInt8.toNat_inj.1 (by show _ = 45; omega)
  · intro h2
    injection h2 with h2
    rw [h2]
    rfl

/-- The document's parse. -/
theorem rparse_spec {s : ByteArray} (hs : s.size ≤ 10000) (hK : ∀ n e w', ParseP s.data.toList n e → Upd Nothing w w' → K (.tuple #[.int .i64 n, .int .i64 e]) w') : CallsV prog F.affluxref01_Parse #[.string s] w K :=
  R.affluxref01_Parse (by
    unfold C.affluxref01_Parse
    have hlen : s.data.toList.length = s.size := rfl
    refine New.use (by simp [Value.oneCell']) fun g w1 hb1 hu1 hge1 _ => set_two rfl rfl hb1 fun w3 hb3 hu3 => ?_
    have hu03 : Upd Nothing w w3 := hu1.fresh hu3 fun i hi => by rw [show i = g from hi]; exact hge1
    let F : Nat → Prop := fun f => (f = 1 ∧ s.data.toList.head? = some 45) ∨ (f = 0 ∧ s.data.toList.head? ≠ some 45)
    refine ⟨fun from_ w' => w' = w3 ∧ ∃ f : Nat, from_ = f ∧ F f, ?_, ?_⟩
    · refine ifB_mk (fun h => ⟨by omega, by have := of_decide_eq_true h; omega, ?_⟩) (fun h => ⟨rfl, 0, rfl, .inr ⟨rfl, ?_⟩⟩)
      · have hpos : 0 < s.size := by have := of_decide_eq_true h; omega
        rw [bt_head hpos]
        exact ifB_mk (fun h1 => ⟨rfl, 1, rfl, .inl ⟨rfl, of_decide_eq_true h1⟩⟩) (fun h1 => ⟨rfl, 0, rfl, .inr ⟨rfl, of_decide_eq_false h1⟩⟩)
      · have : s.size = 0 := by have := of_decide_eq_false h; omega
        rw [List.length_eq_zero_iff.1 (hlen.trans this)]
        simp
    rintro from_ w4 ⟨rfl, f, rfl, hF⟩
    have hf1 : f ≤ 1 := by rcases hF with h | h <;> omega
    have hfs : f ≤ s.size := by
      rcases hF with h | h
      · have : s.data.toList ≠ [] := fun e => by rw [e] at h; simp at h
        have := List.length_pos_iff.2 this
        omega
      · omega
    have hbad : ∀ w', Upd Nothing w w' → ((∃ b ∈ s.data.toList.drop f, ¬ isDig b) ∨ s.data.toList.drop f = [] ∨ ((s.data.toList.drop f).head? = some 48 ∧ 1 < s.data.toList.length)) → K (.tuple #[.int .i64 0, .int .i64 12]) w' := fun w' hu h => hK _ _ _ (.inr ⟨by decide, fun m _ => parse_bad hF h m⟩) hu
    refine ⟨fun i w' => ∃ (k : Nat) (p : Option Addr) (c : Nat), i = (k : Int) - 1 ∧ f ≤ k ∧ k ≤ s.size ∧ (∀ b ∈ s.data.toList.drop k, isDig b) ∧ Blk w' g [.bool false, .slice p (s.size - k) c] T.affluxref01_Num ∧ Own w' T.int 1 p (s.size - k) c (dg ((s.data.toList.drop k).reverse.map fun b => b.toNat - 48)) ∧ Upd Nothing w w' ∧ ∀ j, Fp p c j → w.heap.size ≤ j,
      fun i _ => (i + 1).toNat, ⟨s.size, none, 0, by rw [i64_wrap (by omega) (by omega)], hfs, Nat.le_refl _, by rw [List.drop_of_length_le (by omega)]; simp, by rw [Nat.sub_self]; exact hb3, by rw [Nat.sub_self, List.drop_of_length_le (by omega)]; exact Own.nil _ _ _, hu03, fun j hj => by have := hj.1; omega⟩, ?_⟩
    rintro i w5 ⟨k, p, c, rfl, hfk, hk, hdig, hb5, ho5, hu5, hfr⟩
    refine ifB_mk (fun h => ?_) (fun h => ?_)
    · have h0 := of_decide_eq_true h
      obtain ⟨j, rfl⟩ : ∃ j, k = j + 1 := ⟨k - 1, by omega⟩
      have hj : ((j + 1 : Nat) : Int) - 1 = (j : Int) := by omega
      have hjs : j < s.size := by omega
      rw [hj]
      rw [hj] at h0
      have hdr : s.data.toList.drop j = (s.data.toList[j]'(by rw [hlen]; exact hjs)) :: s.data.toList.drop (j + 1) := List.drop_eq_getElem_cons (by rw [hlen]; exact hjs)
      have hmem : (s.data.toList[j]'(by rw [hlen]; exact hjs)) ∈ s.data.toList.drop f := by
        rw [List.mem_iff_getElem]
        exact ⟨j - f, by rw [List.length_drop]; omega, by rw [List.getElem_drop]; congr 1; omega⟩
      rw [bt_get hjs]
      generalize hb : (s.data.toList[j]'(by rw [hlen]; exact hjs)) = b at hdr hmem ⊢
      have hblt := b.toNat_lt
      refine ⟨by omega, by omega, ifB_mk (fun h1 => hbad _ hu5 (.inl ⟨b, hmem, fun h2 => ?_⟩)) (fun h1 => ⟨by omega, by omega, ifB_mk (fun h2 => hbad _ hu5 (.inl ⟨b, hmem, fun h3 => ?_⟩)) (fun h2 => ?_)⟩)⟩
      · have := of_decide_eq_true h1; have := h2.1; omega
      · have := of_decide_eq_true h2; have := h3.2; omega
      have h1' := of_decide_eq_false h1
      have h2' := of_decide_eq_false h2
      have e1 : IntKind.i64.wrap (IntKind.u8.wrap ((b.toNat : Int) - 48)) = ((b.toNat - 48 : Nat) : Int) := by
        have : IntKind.u8.wrap ((b.toNat : Int) - 48) = ((b.toNat - 48 : Nat) : Int) := by
          simp [IntKind.wrap, IntKind.signed, IntKind.bits]
          omega
        rw [this]
        exact i64_wrap (by omega) (by omega)
      have hud := hu5.then (Upd.drew _ _)
      refine ⟨_, _, _, hb5.drew.cell (i := 1) rfl, by omega, by omega, ?_⟩
      rw [e1]
      intro g6 w6 hnew
      have hb6 := (Upd.new (F := Nothing) hnew).blk hb5.drew fun f => f
      have hlenl : ((s.data.toList.drop (j + 1)).reverse.map fun b => b.toNat - 48).length = s.size - (j + 1) := by simp
      refine ⟨hb6.cell (i := 1) rfl, ?_⟩
      refine app_int (x := ((b.toNat - 48 : Nat) : Int)) (xs := ((s.data.toList.drop (j + 1)).reverse.map fun b => b.toNat - 48).map fun d : Nat => (d : Int)) (ho5.upd0 (Upd.drew Nothing w5)) (by omega) (fun p' c' w7 ho7 hu7 hf7 => ⟨_, _, _, rfl, ?_⟩) g6 w6 hnew
      rw [dg_snoc] at ho7
      have hdl : ((s.data.toList.drop (j + 1)).reverse.map fun b => b.toNat - 48) ++ [b.toNat - 48] = (s.data.toList.drop j).reverse.map fun b => b.toNat - 48 := by rw [hdr]; simp
      rw [hdl] at ho7
      have hb7 := hu7.blk hb5.drew (fun h => by
        obtain ⟨h0, a, ha, hg⟩ := h
        rcases ho5.mem with h4 | ⟨g', rest, hp, hbq, _⟩
        · omega
        · rw [hp] at ha
          injection ha with ha
          subst ha
          exact hbq.ne_type hb5 (by decide) hg.symm)
      refine hb7.store (i := 1) (by simp) rfl fun w8 hb8 hu8 _ => ?_
      rw [i64_wrap (by omega) (by omega)]
      have hsz : s.size - (j + 1) + 1 = s.size - j := by omega
      rw [hsz] at ho7 hb8
      refine ⟨⟨j, p', c', by omega, by omega, by omega, fun x hx => ?_, hb8, ho7.upd hu8 (own_one ho7 hb7 (by decide)), (hud.fresh hu7 hfr).fresh hu8 fun i hi => by rw [show i = g from hi]; exact hge1, fun i hi => ?_⟩, by show Int.toNat _ < Int.toNat _; omega⟩
      · rw [hdr] at hx
        rcases List.mem_cons.1 hx with rfl | hx
        · exact ⟨by omega, by omega⟩
        · exact hdig x hx
      · rcases hf7 i hi with h | h
        · exact hfr i h
        · exact Nat.le_trans hud.size h
    · have hkf : k = f := by have := of_decide_eq_false h; omega
      subst hkf
      refine ⟨fun w' => w' = w5 ∧ k < s.size ∧ ((s.data.toList.drop k).head? = some 48 → s.data.toList.length ≤ 1), ?_, ?_⟩
      · refine ifB_mk (fun h1 => hbad _ hu5 (.inr (.inl (List.drop_eq_nil_iff.2 (by have := beq_iff_eq.1 h1; omega))))) (fun h1 => ?_)
        have hks : k < s.size := by
          have : (s.size : Int) ≠ (k : Int) := by simpa using h1
          omega
        have hhd : (s.data.toList.drop k).head? = some (s.data.toList[k]'(by rw [hlen]; exact hks)) := by
          rw [List.drop_eq_getElem_cons (by rw [hlen]; exact hks)]; rfl
        rw [bt_get hks]
        refine ⟨by omega, by omega, ifB_mk (fun h2 => ifB_mk (fun h3 => hbad _ hu5 (.inr (.inr ⟨?_, by have := of_decide_eq_true h3; omega⟩))) (fun h3 => ⟨rfl, hks, fun _ => by have := of_decide_eq_false h3; omega⟩)) (fun h2 => ⟨rfl, hks, fun h3 => ?_⟩)⟩
        · rw [hhd]
          congr 1
          exact UInt8.toNat_inj.1 (by show _ = 48; have := beq_iff_eq.1 h2; omega)
        · rw [hhd] at h3
          injection h3 with h3
          rw [h3] at h2
          exact absurd h2 (by decide)
      rintro w9 ⟨rfl, hks, hh⟩
      have hne : s.data.toList.drop k ≠ [] := fun e => by have := List.drop_eq_nil_iff.1 e; omega
      have hgood := parse_good hF hdig hne hh
      refine ⟨_, _, _, hb5.cell (i := 1) rfl, sign_spec ho5 (by simp) (by omega) (fun d hd => ?_) fun v10 w10 hnum hu10 => ?_⟩
      · simp only [List.mem_map, List.mem_reverse] at hd
        obtain ⟨b, hb, rfl⟩ := hd
        have := hdig b hb
        have h1 := this.1
        have h2 := this.2
        omega
      have hdv : dval ((s.data.toList.drop k).reverse.map fun b => b.toNat - 48) = tval (s.data.toList.drop k) := (tval_dval _).symm
      rw [hdv] at hnum
      have hx : (if ((k : Int) == 1) = true then -(tval (s.data.toList.drop k) : Int) else (tval (s.data.toList.drop k) : Int)) = (if k = 1 then -(tval (s.data.toList.drop k) : Int) else (tval (s.data.toList.drop k) : Int)) := by
        by_cases h1 : k = 1
        · rw [if_pos h1, if_pos (by rw [h1]; rfl)]
        · rw [if_neg h1, if_neg (by rw [beq_iff_eq]; omega)]
      rw [hx] at hnum
      generalize hX : (if k = 1 then -(tval (s.data.toList.drop k) : Int) else (tval (s.data.toList.drop k) : Int)) = X at hnum hgood
      have hnum' := hnum
      obtain ⟨p10, c10, rfl, ho10⟩ := hnum
      have hXl : (digs X.natAbs).length ≤ 10000 := by
        have h1 : X.natAbs = tval (s.data.toList.drop k) := by rw [← hX]; split <;> omega
        rw [h1, ← hdv]
        refine Nat.le_trans (digs_length_le (dval_lt _ fun d hd => ?_)) (by simp; omega)
        simp only [List.mem_map, List.mem_reverse] at hd
        obtain ⟨b, hb, rfl⟩ := hd
        have := hdig b hb
        have h1 := this.1
        have h2 := this.2
        omega
      have hu10' := hu5.then hu10
      refine ⟨_, _, _, _, rfl, small_spec hnum' hXl (fun w11 hn hu11 => ⟨_, _, rfl, ifB_mk (fun _ => hK _ _ _ (.inr ⟨by decide, parse_range hgood hn⟩) (hu10'.then hu11)) (fun h => by cases h)⟩) (fun w11 hn hu11 => ⟨_, _, rfl, ifB_mk (fun h => by cases h) (fun _ => hK _ _ _ (.inl ⟨rfl, hn, hgood⟩) (hu10'.then hu11))⟩)⟩)

theorem mul64 {x y : Nat} (hx : x < 18446744073709551616) (hy : y < 18446744073709551616) (hK : K (.tuple #[.int .u64 ((x * y / 18446744073709551616 : Nat) : Int), .int .u64 ((x * y % 18446744073709551616 : Nat) : Int)]) w) : CallsV prog F.math_bits_Mul64 #[.int .u64 (x : Int), .int .u64 (y : Int)] w K :=
  CallsV.of_body Tryd.func99 (by kernel_rfl) (by kernel_rfl) (Calls.mono (Tryd.bits_Mul64 x y hx hy w) fun e w' ⟨he, hw⟩ => ⟨_, he, by rw [hw]; exact hK⟩)
theorem add64 {x y : Nat} (hK : K (.tuple #[.int .u64 (((x + y) % 18446744073709551616 : Nat) : Int), .int .u64 (((x + y) / 18446744073709551616 : Nat) : Int)]) w) : CallsV prog F.math_bits_Add64 #[.int .u64 (x : Int), .int .u64 (y : Int), .int .u64 0] w K := by
  unfold CallsV Yield
  rw [run_callFunc_extern Tryd.func100 (by kernel_rfl) (by kernel_rfl) (by kernel_rfl) (e := add64Entry) (by kernel_rfl), run_add64 (x : Int) (y : Int) 0 (by omega) (by omega) (by omega) (by omega)]
  have e1 : ((x : Int) + (y : Int) + 0) % 18446744073709551616 = (((x + y) % 18446744073709551616 : Nat) : Int) := by omega
  have e2 : ((x : Int) + (y : Int) + 0) / 18446744073709551616 = (((x + y) / 18446744073709551616 : Nat) : Int) := by omega
  rw [e1, e2]
  exact hK

theorem signed_spec {neg : Bool} {N : Nat} (hN : N < 18446744073709551616) (hK1 : ∀ x, x = (if neg = true then -(N : Int) else (N : Int)) → inr x → K (.tuple #[.int .i64 x, .int .i64 0]) w) (hK2 : ¬ inr (if neg = true then -(N : Int) else (N : Int)) → K (.tuple #[.int .i64 0, .int .i64 2]) w) :
    CallsV prog F.calc_signed #[.bool neg, .int .u64 (N : Int)] w K :=
  R.calc_signed (by
    unfold C.calc_signed
    cases neg with
    | true =>
      refine ifB_mk (fun _ => ifB_mk (fun h => ?_) (fun h => ?_)) (fun h => by cases h)
      · have h1 := of_decide_eq_true h
        have e : IntKind.i64.wrap (0 - IntKind.i64.wrap (N : Int)) = -(N : Int) := by
          simp [IntKind.wrap, IntKind.signed, IntKind.bits]
          omega
        rw [e]
        exact hK1 _ rfl ⟨by omega, by omega⟩
      · have h1 := of_decide_eq_false h
        have := hK2 fun h2 => by have := h2.1; simp at this; omega
        exact ifB_mk (fun h => by cases h) (fun _ => this)
    | false =>
      refine ifB_mk (fun h => by cases h) (fun _ => ifB_mk (fun _ => ifB_mk (fun h => ?_) (fun h => ?_)) (fun h => by cases h))
      · have h1 := of_decide_eq_true h
        rw [i64_wrap (by omega) (by omega)]
        exact hK1 _ rfl ⟨by omega, by omega⟩
      · have h1 := of_decide_eq_false h
        exact hK2 fun h2 => by have := h2.2; simp at this; omega)

/-- The program's parse. -/
theorem cparse_spec {s : ByteArray} (hs : s.size ≤ 10000) (hK : ∀ n e w', ParseP s.data.toList n e → Upd Nothing w w' → K (.tuple #[.int .i64 n, .int .i64 e]) w') : CallsV prog F.calc_Parse #[.string s] w K :=
  R.calc_Parse (by
    unfold C.calc_Parse
    have hlen : s.data.toList.length = s.size := rfl
    refine ⟨fun r neg w' => w' = w ∧ ∃ f : Nat, r = txt (s.data.toList.drop f) ∧ neg = decide (f = 1) ∧ ((f = 1 ∧ s.data.toList.head? = some 45) ∨ (f = 0 ∧ s.data.toList.head? ≠ some 45)), ?_, ?_⟩
    · have h0 : s.data.toList.head? ≠ some 45 → s = txt (s.data.toList.drop 0) ∧ false = decide (0 = 1) ∧ ((0 = 1 ∧ s.data.toList.head? = some 45) ∨ (0 = 0 ∧ s.data.toList.head? ≠ some 45)) := fun h => ⟨by rw [List.drop_zero]; exact (txt_self s).symm, rfl, .inr ⟨rfl, h⟩⟩
      refine ifB_mk (fun h => ?_) (fun h => ⟨rfl, 0, h0 ?_⟩)
      · have hpos : 0 < s.size := by
          rcases Nat.eq_zero_or_pos s.size with h1 | h1
          · have : s = bs [] := ba_ext (List.length_eq_zero_iff.1 (hlen.trans h1))
            rw [this] at h
            simp [sEq_self] at h
          · exact h1
        rw [bt_head hpos]
        refine ⟨by omega, by omega, ifB_mk (fun h1 => ⟨by omega, by omega, rfl, 1, ?_, rfl, .inl ⟨rfl, of_decide_eq_true h1⟩⟩) (fun h1 => ⟨rfl, 0, h0 (of_decide_eq_false h1)⟩)⟩
        exact ext_drop s 1
      · have : s = bs [] := sEq_iff.1 (by simpa using h)
        rw [this]
        exact fun h => by cases h
    rintro r neg w1 ⟨rfl, f, rfl, rfl, hF⟩
    have hf1 : f ≤ 1 := by rcases hF with h | h <;> omega
    have hbad : ∀ w', Upd Nothing w1 w' → ((∃ b ∈ s.data.toList.drop f, ¬ isDig b) ∨ s.data.toList.drop f = [] ∨ ((s.data.toList.drop f).head? = some 48 ∧ 1 < s.data.toList.length)) → K (.tuple #[.int .i64 0, .int .i64 12]) w' := fun w' hu h => hK _ _ _ (.inr ⟨by decide, fun m _ => parse_bad hF h m⟩) hu
    generalize hr : s.data.toList.drop f = l at hbad ⊢
    have hll : l.length = s.size - f := by rw [← hr, List.length_drop, hlen]
    have hsz : (txt l).size = l.length := txt_size l
    have htl : (txt l).data.toList = l := txt_toList l
    refine ⟨fun w' => w' = w1 ∧ l ≠ [] ∧ (l.head? = some 48 → s.data.toList.length ≤ 1), ?_, ?_⟩
    · refine ifB_mk (fun h => hbad _ (Upd.refl _ _) (.inr (.inl (txt_nil h)))) (fun h => ?_)
      have hne := txt_ne h
      have hpos : 0 < (txt l).size := by rw [hsz]; exact List.length_pos_iff.2 hne
      have hl0 : 0 < l.length := by omega
      have hb0 := bt_get hpos
      simp only [htl] at hb0
      rw [show ((0 : Nat) : Int) = 0 from rfl] at hb0
      have hhd : l.head? = some l[0] := by rw [List.head?_eq_getElem?, List.getElem?_eq_getElem hl0]
      rw [hb0]
      have h48 : ((l[0].toNat : Int) == 48) = true → l.head? = some 48 := fun h2 => by
        rw [hhd]
        congr 1
        exact UInt8.toNat_inj.1 (by show _ = 48; have := beq_iff_eq.1 h2; omega)
      refine ⟨by omega, by omega, ifB_mk (fun h2 => ifB_mk (fun h3 => ?_) (fun h3 => ifB_mk (fun h4 => ?_) (fun h4 => ⟨rfl, hne, fun _ => ?_⟩))) (fun h2 => ⟨rfl, hne, fun h3 => ?_⟩)⟩
      · have hf : f = 1 := of_decide_eq_true h3
        exact hbad _ (Upd.refl _ _) (.inr (.inr ⟨h48 h2, by rw [hlen]; omega⟩))
      · exact hbad _ (Upd.refl _ _) (.inr (.inr ⟨h48 h2, by have := of_decide_eq_true h4; rw [hlen]; omega⟩))
      · have hf : f ≠ 1 := of_decide_eq_false h3
        have := of_decide_eq_false h4
        rw [hlen]
        omega
      · rw [hhd] at h3
        injection h3 with h3
        rw [h3] at h2
        exact absurd h2 (by decide)
    rintro w2 ⟨rfl, hne, hh⟩
    refine conv_text Va.und_str Va.su8.desc Va.und_u8 fun cp cc w3 hat3 hu3 => ⟨cp, _, cc, rfl, ?_⟩
    rw [htl] at hat3
    refine ⟨fun n over i w' => w' = w3 ∧ ∃ k N : Nat, i = k ∧ k ≤ l.length ∧ n = N ∧ N < 18446744073709551616 ∧ (∀ b ∈ l.take k, isDig b) ∧ (over = false → N = tval (l.take k)) ∧ (over = true → 18446744073709551616 ≤ tval (l.take k)), fun _ _ i _ => l.length - i.toNat, ⟨rfl, 0, 0, rfl, by omega, rfl, by decide, by simp, fun _ => rfl, fun h => by cases h⟩, ?_⟩
    rintro n over i w4 ⟨rfl, k, N, rfl, hk, rfl, hN, hdig, hov0, hov1⟩
    refine ifB_mk (fun h => ?_) (fun h => ?_)
    · have hkn : k < l.length := by have := of_decide_eq_true h; omega
      obtain ⟨a, ha, hc⟩ := hat3 k _ (bytesV_get hkn)
      have hblt := l[k].toNat_lt
      have hmem : l[k] ∈ l := List.getElem_mem hkn
      have htk : l.take (k + 1) = l.take k ++ [l[k]] := List.take_succ_eq_append_getElem hkn
      refine ⟨a, ha, by omega, by omega, (l[k].toNat : Int), by simpa using hc, ifB_mk (fun h1 => hbad _ hu3 (.inl ⟨l[k], hmem, fun h2 => ?_⟩)) (fun h1 => ifB_mk (fun h2 => hbad _ hu3 (.inl ⟨l[k], hmem, fun h3 => ?_⟩)) (fun h2 => ?_))⟩
      · have := of_decide_eq_true h1; have := h2.1; omega
      · have := of_decide_eq_true h2; have := h3.2; omega
      have h1' := of_decide_eq_false h1
      have h2' := of_decide_eq_false h2
      have hd' : isDig l[k] := ⟨by omega, by omega⟩
      have htv : tval (l.take (k + 1)) = 10 * tval (l.take k) + (l[k].toNat - 48) := by rw [htk, tval_snoc]
      have hdig' : ∀ b ∈ l.take (k + 1), isDig b := forall_take hkn hdig hd'
      generalize l[k].toNat = b at hblt h1' h2' htv ⊢
      have e1 : IntKind.u64.wrap (IntKind.u8.wrap ((b : Int) - 48)) = ((b - 48 : Nat) : Int) := by
        simp [IntKind.wrap, IntKind.signed, IntKind.bits]
        omega
      refine mul64 (y := 10) hN (by decide) ⟨_, _, rfl, ?_⟩
      rw [e1]
      refine add64 ⟨_, _, rfl, ?_⟩
      have hS : (N * 10 % 18446744073709551616 + (b - 48)) % 18446744073709551616 < 18446744073709551616 := Nat.mod_lt _ (by decide)
      have hidx : IntKind.i64.wrap ((k : Int) + 1) = ((k + 1 : Nat) : Int) := by rw [i64_wrap (by omega) (by omega)]; omega
      rw [hidx]
      have hmeas : l.length - ((k + 1 : Nat) : Int).toNat < l.length - (k : Int).toNat := by omega
      refine ifB_mk (fun h3 => ?_) (fun h3 => ifB_mk (fun h4 => ?_) (fun h4 => ?_))
      · have := hov1 h3
        exact ⟨⟨rfl, k + 1, _, rfl, by omega, rfl, hS, hdig', fun h => (by cases h), fun _ => by rw [htv]; omega⟩, hmeas⟩
      · have hNv := hov0 h3
        have h4' : N * 10 / 18446744073709551616 ≠ 0 := fun e => by rw [e] at h4; simp at h4
        exact ⟨⟨rfl, k + 1, _, rfl, by omega, rfl, hS, hdig', fun h => (by cases h), fun _ => by rw [htv, ← hNv]; omega⟩, hmeas⟩
      · have hNv := hov0 h3
        have h4' : N * 10 / 18446744073709551616 = 0 := by
          have : ((N * 10 / 18446744073709551616 : Nat) : Int) = 0 := by simpa using h4
          omega
        refine ⟨⟨rfl, k + 1, _, rfl, by omega, rfl, hS, hdig', fun h => ?_, fun h => ?_⟩, hmeas⟩
        · have h5 : (N * 10 % 18446744073709551616 + (b - 48)) / 18446744073709551616 = 0 := by
            have : (((N * 10 % 18446744073709551616 + (b - 48)) / 18446744073709551616 : Nat) : Int) = 0 := by simpa using h
            omega
          rw [htv, ← hNv]
          omega
        · have h5 : (N * 10 % 18446744073709551616 + (b - 48)) / 18446744073709551616 ≠ 0 := fun e => by rw [e] at h; simp at h
          rw [htv, ← hNv]
          omega
    · have hkn : k = l.length := by have := of_decide_eq_false h; omega
      subst hkn
      rw [List.take_of_length_le (Nat.le_refl _)] at hdig hov0 hov1
      have hgood := parse_good hF (by rw [hr]; exact hdig) (by rw [hr]; exact hne) (by rw [hr]; exact hh)
      rw [hr] at hgood
      refine ifB_mk (fun h1 => ?_) (fun h1 => ?_)
      · have := hov1 h1
        refine hK _ _ _ (.inr ⟨by decide, parse_range hgood fun h2 => ?_⟩) hu3
        obtain ⟨h3, h4⟩ := h2
        by_cases hf : f = 1
        · rw [if_pos hf] at h3 h4; omega
        · rw [if_neg hf] at h3 h4; omega
      · have hNv := hov0 h1
        have hx : (if decide (f = 1) = true then -(N : Int) else (N : Int)) = (if f = 1 then -(tval l : Int) else (tval l : Int)) := by
          rw [hNv]
          by_cases hf : f = 1
          · rw [if_pos hf, if_pos (decide_eq_true hf)]
          · rw [if_neg hf, if_neg (by simpa using hf)]
        refine signed_spec hN (fun x hxe hin => ⟨_, _, rfl, hK _ _ _ (.inl ⟨rfl, hin, by rw [hxe, hx]; exact hgood⟩) hu3⟩) (fun hn => ⟨_, _, rfl, hK _ _ _ (.inr ⟨by decide, parse_range hgood (by rw [← hx]; exact hn)⟩) hu3⟩))
end
end Ca
end Go.Proofs.YtjcgociobhhijaaDoor
