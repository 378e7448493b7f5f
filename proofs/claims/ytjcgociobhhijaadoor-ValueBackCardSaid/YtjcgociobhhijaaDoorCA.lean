/- Numbers as lists of digits (the document's answer for layer 1), and what is left of a quotient: what each function does. -/
import Derived.Test.YtjcgociobhhijaaDoorSL
import Derived.Test.YtjcgociobhhijaaDoorSG
import Derived.Test.YtjcgociobhhijaaDoorDG
set_option linter.unusedVariables false
set_option linter.unusedSimpArgs false
set_option maxRecDepth 100000
namespace Go.Proofs.YtjcgociobhhijaaDoor
open Go Go.Proofs.YtjcgociobhhijaaDoor.SX Va Sc
namespace Ca
/-- Digits, as they lie in memory. -/
def dg (ds : List Nat) : List Value := ints (ds.map fun d : Nat => (d : Int))
@[simp] theorem dg_length (ds : List Nat) : (dg ds).length = ds.length := by simp [dg]
theorem dg_get {ds : List Nat} {i : Nat} (h : i < ds.length) : (dg ds)[i]? = some (.int .i64 (ds[i] : Int)) := by unfold dg; rw [ints_get (by simpa using h)]; simp
theorem dg_snoc (ds : List Nat) (d : Nat) : ints ((ds.map fun d : Nat => (d : Int)) ++ [(d : Int)]) = dg (ds ++ [d]) := by simp [dg]
theorem dg_take (ds : List Nat) (k : Nat) : dg (ds.take k) = (dg ds).take k := by unfold dg; rw [← ints_take, List.map_take]

/-- Two blocks of other elements. -/
theorem own_one {w : World} {e s n c e' g : Nat} {p : Option Addr} {xs l : List Value} (h : Own w e s p n c xs) (hb : Blk w g l e') (he : e ≠ e') : ∀ k, Fp p c k → ¬ SX.One g k := by
  rintro k ⟨h0, a, ha, rfl⟩ hk
  rcases h.mem with h2 | ⟨g', rest, hp, hb', _⟩
  · omega
  rw [ha] at hp
  injection hp with hp
  subst hp
  exact hb'.ne_type hb he hk

/-- A number in memory. -/
def NumAt (w : World) (v : Value) (x : Int) : Prop := ∃ (p : Option Addr) (c : Nat), v = .agg #[.bool (decide (x < 0)), .slice p (digs x.natAbs).length c] ∧ Own w T.int 1 p (digs x.natAbs).length c (dg (digs x.natAbs))
theorem NumAt.upd0 {w w' : World} {v : Value} {x : Int} (h : NumAt w v x) (hu : Upd Nothing w w') : NumAt w' v x := by
  obtain ⟨p, c, hv, ho⟩ := h
  exact ⟨p, c, hv, ho.upd0 hu⟩
theorem NumAt.one {w w' : World} {v : Value} {x : Int} {g e : Nat} {l : List Value} (h : NumAt w v x) (hb : Blk w g l e) (he : T.int ≠ e) (hu : Upd (SX.One g) w w') : NumAt w' v x := by
  obtain ⟨p, c, hv, ho⟩ := h
  exact ⟨p, c, hv, ho.upd hu (own_one ho hb he)⟩

theorem dval_take_succ : ∀ (l : List Nat) (k : Nat), dval (l.take (k + 1)) = dval (l.take k) + 10 ^ k * (l[k]?.getD 0)
  | [], k => by simp [dval]
  | d :: l, 0 => by simp [dval]
  | d :: l, k + 1 => by
    simp only [List.take_succ_cons, dval, List.getElem?_cons_succ]
    rw [dval_take_succ l k, Nat.pow_succ, Nat.mul_add, Nat.add_assoc, Nat.mul_comm (10 ^ k) 10, Nat.mul_assoc]

section
variable {w : World} {K : Value → World → Prop} {p q : Option Addr} {n c m d : Nat}

/-- One number more. -/
theorem app_int {x : Int} {xs : List Int} (ho : Own w T.int 1 p n c (ints xs)) (hsz : n + 1 ≤ 1099511627776)
    (hK : ∀ p' c' w', Own w' T.int 1 p' (n + 1) c' (ints (xs ++ [x])) → Upd (Fp p c) w w' → (∀ k, Fp p' c' k → Fp p c k ∨ w.heap.size ≤ k) → K (.slice p' (n + 1) c') w') :
    ∀ g w1, New w (.cells #[.int .i64 x] T.int) g w1 → BuiltV prog .append #[T.s_int, T.s_int] T.s_int #[.slice p n c, .slice (some (Addr.mk g 0 none)) 1 1] w1 K := by
  refine New.use (by simp [Value.oneCell']) fun g w1 hb hu hge _ => ?_
  refine append_own (m := 1) sint (.inl sint.desc) (ho.upd0 hu) (Src.slice (m := 1) (ys := [.int .i64 x]) (At.of_blk hb fun j v hj => by rw [Nat.zero_add]; exact hj) rfl (by simp [Value.oneCell'])) (by decide) (by decide) (by omega) fun p' c' w' ho' hu' hf' => ?_
  refine hK p' c' w' (by rw [ints_append]; exact ho') (hu.trans hu' (fun _ _ h => h.elim) (fun _ _ h => h)) fun k hk => ?_
  rcases hf' k hk with h | h
  · exact .inl h
  · exact .inr (Nat.le_trans hu.size h)

theorem trim_spec {ds : List Nat} (hat : At w p (dg ds)) (hl : ds.length = n) (hc : n ≤ c) (hn : n ≤ 1000000) (hd : ∀ d ∈ ds, d < 10)
    (hK : ∀ m, m ≤ n → digs (dval ds) = ds.take m → (digs (dval ds)).length = m → K (.slice p m c) w) : CallsV prog F.affluxref01_trim #[.slice p n c] w K :=
  R.affluxref01_trim (by
    unfold C.affluxref01_trim
    refine ⟨fun p2 n2 c2 w' => w' = w ∧ p2 = p ∧ c2 = c ∧ n2 ≤ n ∧ dval (ds.take n2) = dval ds, fun _ n2 _ _ => n2, ⟨rfl, rfl, rfl, Nat.le_refl _, by rw [List.take_of_length_le (by omega)]⟩, ?_⟩
    rintro p2 n2 c2 w2 ⟨rfl, rfl, rfl, hn2, hv⟩
    have hlt : ∀ d ∈ ds.take n2, d < 10 := fun d hd' => hd d (List.mem_of_mem_take hd')
    refine ifB_mk (fun h => ?_) (fun h => ?_)
    · have hpos : 0 < n2 := by have := of_decide_eq_true h; omega
      obtain ⟨k, rfl⟩ : ∃ k, n2 = k + 1 := ⟨n2 - 1, by omega⟩
      have hw : IntKind.i64.wrap (((k + 1 : Nat) : Int) - 1) = (k : Int) := by rw [i64_wrap (by omega) (by omega)]; omega
      obtain ⟨a, ha, hc'⟩ := hat k _ (dg_get (by omega))
      have htk : ds.take (k + 1) = ds.take k ++ [ds[k]] := List.take_succ_eq_append_getElem (by omega)
      rw [hw]
      refine ⟨a, ha, by omega, by omega, ((ds[k]'(by omega) : Nat) : Int), by simpa using hc', ifB_mk (fun h1 => ⟨by omega, by omega, ?_⟩) (fun h1 => hK _ hn2 ?_ ?_)⟩
      · have h0 : ds[k] = 0 := by have := beq_iff_eq.1 h1; omega
        rw [cutAt_zero]
        refine ⟨⟨rfl, rfl, Nat.sub_zero _, by simp; omega, ?_⟩, by simp⟩
        simp only [Int.toNat_natCast, Nat.sub_zero]
        rw [htk, h0, dval_snoc_zero] at hv
        exact hv
      · have h0 : ds[k] ≠ 0 := fun e => by rw [e] at h1; simp at h1
        rw [← hv]
        exact digs_of _ hlt (by rw [htk, List.getLast?_concat]; exact fun e => h0 (Option.some.inj e))
      · have h0 : ds[k] ≠ 0 := fun e => by rw [e] at h1; simp at h1
        rw [← hv, digs_of _ hlt (by rw [htk, List.getLast?_concat]; exact fun e => h0 (Option.some.inj e))]
        simp
        omega
    · have h0 : n2 = 0 := by have := of_decide_eq_false h; omega
      subst h0
      have h1 : dval ds = 0 := by rw [← hv]; rfl
      exact hK 0 hn2 (by rw [h1, digs_zero]; rfl) (by rw [h1, digs_zero]; rfl))

theorem sign_spec {ds : List Nat} {neg : Bool} (ho : Own w T.int 1 p n c (dg ds)) (hl : ds.length = n) (hn : n ≤ 1000000) (hd : ∀ d ∈ ds, d < 10)
    (hK : ∀ v w', NumAt w' v (if neg = true then -(dval ds : Int) else (dval ds : Int)) → Upd Nothing w w' → K v w') : CallsV prog F.affluxref01_sign #[.bool neg, .slice p n c] w K :=
  R.affluxref01_sign (by
    unfold C.affluxref01_sign
    refine New.use (by simp [Value.oneCell']) fun g w1 hb1 hu1 hge1 _ => trim_spec (ho.at.upd0 hu1) hl ho.le hn hd fun m hm hdg hml => ⟨_, _, _, rfl, ?_⟩
    have hown : Own w1 T.int 1 p m c (dg (digs (dval ds))) := by
      have := (ho.upd0 hu1).head hm
      rw [Nat.mul_one, ← dg_take, ← hdg] at this
      exact this
    have hpos : (0 < (m : Int)) ↔ 0 < dval ds := by
      constructor
      · intro h
        rcases Nat.eq_zero_or_pos (dval ds) with h0 | h0
        · rw [h0, digs_zero] at hml; simp at hml; omega
        · exact h0
      · intro h
        have : 0 < (digs (dval ds)).length := by rw [digs_pos h]; simp
        omega
    have hfin : ∀ (b : Bool) (x : Int), x.natAbs = dval ds → b = decide (x < 0) → (∀ v w', NumAt w' v x → Upd Nothing w w' → K v w') → ∀ w4, Blk w4 g [.bool b, .slice p m c] T.affluxref01_Num → Upd (SX.One g) w1 w4 →
        ∃ (xNeg1 : Bool) (xD1p : Option Addr) (xD1n xD1c : Nat), SX.cellsAt w4 (Addr.mk g 0 none) 0 [.bool xNeg1, .slice xD1p xD1n xD1c] ∧ K (.agg #[.bool xNeg1, .slice xD1p xD1n xD1c]) w4 := fun b x hx hb hk w4 hb4 hu4 => by
      refine ⟨_, _, _, _, two_cells hb4, hk _ w4 ⟨p, c, ?_, ?_⟩ (hu1.fresh hu4 fun i hi => by rw [show i = g from hi]; exact hge1)⟩
      · rw [hx, hml, hb]
      · rw [hx, hml]
        exact hown.upd hu4 (own_one hown hb1 (by decide))
    refine ifB_mk (fun h => ?_) (fun h => ?_)
    · refine set_two rfl rfl hb1 fun w4 hb4 hu4 => hfin _ (-(dval ds : Int)) (by omega) ?_ (by rw [if_pos h] at hK; exact hK) w4 hb4 hu4
      rw [decide_eq_decide, hpos]
      omega
    · refine set_two rfl rfl hb1 fun w4 hb4 hu4 => hfin _ (dval ds : Int) (by omega) ?_ (by rw [if_neg (by rw [h]; decide)] at hK; exact hK) w4 hb4 hu4
      exact (decide_eq_false (by omega)).symm)

/-- Digits are got of a number one by one. -/
theorem of_spec {x : Int} (hx : -9223372036854775808 ≤ x ∧ x ≤ 9223372036854775807) (hK : ∀ v w', NumAt w' v x → Upd Nothing w w' → K v w') : CallsV prog F.affluxref01_Of #[.int .i64 x] w K :=
  R.affluxref01_Of (by
    unfold C.affluxref01_Of
    refine New.use (by simp [Value.oneCell']) fun g w1 hb1 hu1 hge1 _ => ?_
    have hN : (digs x.natAbs).length ≤ 19 := digs_length_le (by show x.natAbs < 10 ^ 19; omega)
    let Iv : Int → Option Addr → Nat → Nat → World → Prop := fun u dp dn dc w' => ∃ (done : List Nat) (U : Nat), u = U ∧ digs x.natAbs = done ++ digs U ∧ dn = done.length ∧ Own w' T.int 1 dp dn dc (dg done) ∧ Upd Nothing w1 w' ∧ ∀ k, Fp dp dc k → w1.heap.size ≤ k
    have hstep : ∀ (u : Int) (dp : Option Addr) (dn dc : Nat) w2, Iv u dp dn dc w2 → 0 < u → ∀ b2 wv3, New w2 (.cells #[.int .i64 (IntKind.i64.wrap (Int.tmod u (10 : Int)))] T.int) b2 wv3 →
        BuiltV prog .append #[T.s_int, T.s_int] T.s_int #[.slice dp dn dc, .slice (some (Addr.mk b2 0 none)) 1 1] wv3 (fun v1 wv4 => ∃ (a1p : Option Addr) (a1n a1c : Nat), v1 = .slice a1p a1n a1c ∧ (10 : Int) ≠ 0 ∧
          Iv (IntKind.u64.wrap (Int.tdiv u (10 : Int))) a1p a1n a1c wv4 ∧ (IntKind.u64.wrap (Int.tdiv u (10 : Int))).toNat < u.toNat) := by
      rintro u dp dn dc w2 ⟨done, U, rfl, hdg, rfl, ho, hu, hf⟩ hU
      have hU0 : 0 < U := by omega
      have hUle : U ≤ x.natAbs := by
        have h1 := congrArg dval hdg
        rw [dval_digs, dval_append, dval_digs] at h1
        have : 1 ≤ 10 ^ done.length := Nat.one_le_pow _ _ (by decide)
        have := Nat.mul_le_mul_right U this
        omega
      have h1 : IntKind.i64.wrap (Int.tmod (U : Int) 10) = ((U % 10 : Nat) : Int) := by
        rw [Int.tmod_eq_emod_of_nonneg (by omega)]
        rw [i64_wrap (by omega) (by omega)]
        omega
      have h2 : IntKind.u64.wrap (Int.tdiv (U : Int) 10) = ((U / 10 : Nat) : Int) := by
        rw [Int.tdiv_eq_ediv_of_nonneg (by omega)]
        simp [IntKind.wrap, IntKind.signed, IntKind.bits]
        omega
      rw [h1, h2]
      have hlen : done.length + 1 ≤ 19 := by
        have := congrArg List.length hdg
        rw [List.length_append, digs_pos hU0, List.length_cons] at this
        omega
      refine app_int (xs := done.map fun d : Nat => (d : Int)) ho (by omega) fun p' c' w' ho' hu' hf' => ⟨_, _, _, rfl, by decide, ⟨done ++ [U % 10], U / 10, rfl, ?_, by simp, by rw [← dg_snoc]; exact ho', hu.fresh hu' fun i hi => hf i hi, fun k hk => ?_⟩, by omega⟩
      · rw [hdg, digs_pos hU0, List.append_assoc]; rfl
      · rcases hf' k hk with h | h
        · exact hf k h
        · exact Nat.le_trans hu.size h
    have hend : ∀ (u : Int) (dp : Option Addr) (dn dc : Nat) w2, Iv u dp dn dc w2 → ¬ 0 < u →
        CallsV prog F.affluxref01_sign #[.bool (decide (x < (0 : Int))), .slice dp dn dc] w2 (fun v2 wv5 => ∃ (rNeg1 : Bool) (rD1p : Option Addr) (rD1n rD1c : Nat), v2 = .agg #[.bool rNeg1, .slice rD1p rD1n rD1c] ∧
          CanSt wv5 ((Addr.mk g 0 none).add 0) ∧ ∀ wv6, wv6 = wv5.setCell ((Addr.mk g 0 none).add 0) (.bool rNeg1) →
          CanSt wv6 ((Addr.mk g 0 none).add 1) ∧ ∀ wv7, wv7 = wv6.setCell ((Addr.mk g 0 none).add 1) (.slice rD1p rD1n rD1c) →
          ∃ (xNeg1 : Bool) (xD1p : Option Addr) (xD1n xD1c : Nat), SX.cellsAt wv7 (Addr.mk g 0 none) 0 [.bool xNeg1, .slice xD1p xD1n xD1c] ∧ K (.agg #[.bool xNeg1, .slice xD1p xD1n xD1c]) wv7) := by
      rintro u dp dn dc w2 ⟨done, U, rfl, hdg, rfl, ho, hu, hf⟩ hU
      have hU0 : U = 0 := by omega
      subst hU0
      rw [digs_zero, List.append_nil] at hdg
      refine sign_spec ho rfl (by rw [← hdg]; omega) (by rw [← hdg]; exact digs_lt _) fun v w5 hnum hu5 => ?_
      have hx' : (if decide (x < 0) = true then -(dval done : Int) else (dval done : Int)) = x := by
        rw [← hdg, dval_digs]
        by_cases h : x < 0
        · rw [if_pos (decide_eq_true h)]; omega
        · rw [if_neg (by simpa using h)]; omega
      rw [hx'] at hnum
      have hnum' := hnum
      obtain ⟨rp, rc, rfl, hro⟩ := hnum
      have hb5 := (hu.then hu5).blk hb1 fun f => f
      refine ⟨_, _, _, _, rfl, set_two rfl rfl hb5 fun w7 hb7 hu7 => ⟨_, _, _, _, two_cells hb7, hK _ w7 (hnum'.one hb5 (by decide) hu7) (((hu1.then hu).then hu5).fresh hu7 fun i hi => by rw [show i = g from hi]; exact hge1)⟩⟩
    have hstart : ∀ N : Int, N = x.natAbs → Iv N none 0 0 w1 := fun N hN => ⟨[], x.natAbs, hN, rfl, rfl, Own.nil _ _ _, Upd.refl _ _, fun k hk => by have := hk.1; omega⟩
    refine ifB_mk (fun h => ?_) (fun h => ?_)
    · have h0 := of_decide_eq_true h
      refine ⟨Iv, fun u _ _ _ _ => u.toNat, hstart _ ?_, fun u dp dn dc w2 hI => ifB_mk (fun h => ⟨by decide, hstep u dp dn dc w2 hI (of_decide_eq_true h)⟩) (fun h => hend u dp dn dc w2 hI (of_decide_eq_false h))⟩
      simp [IntKind.wrap, IntKind.signed, IntKind.bits]
      omega
    · have h0 := of_decide_eq_false h
      refine ⟨Iv, fun u _ _ _ _ => u.toNat, hstart _ ?_, fun u dp dn dc w2 hI => ifB_mk (fun h => ⟨by decide, hstep u dp dn dc w2 hI (of_decide_eq_true h)⟩) (fun h => hend u dp dn dc w2 hI (of_decide_eq_false h))⟩
      simp [IntKind.wrap, IntKind.signed, IntKind.bits]
      omega)

theorem at_spec {ds : List Nat} {k : Nat} (hat : At w p (dg ds)) (hl : ds.length = n) (hK : K (.int .i64 ((ds[k]?.getD 0 : Nat) : Int)) w) : CallsV prog F.affluxref01_at #[.slice p n c, .int .i64 (k : Int)] w K :=
  R.affluxref01_at (by
    unfold C.affluxref01_at
    refine ifB_mk (fun h => ?_) (fun h => ?_)
    · have hk : k < ds.length := by have := of_decide_eq_true h; omega
      obtain ⟨a, ha, hc⟩ := hat k _ (dg_get hk)
      refine ⟨a, ha, by omega, by omega, ((ds[k] : Nat) : Int), by simpa using hc, ?_⟩
      rw [List.getElem?_eq_getElem hk] at hK
      exact hK
    · have hk : ¬ k < ds.length := by have := of_decide_eq_false h; omega
      rw [List.getElem?_eq_none (by omega)] at hK
      exact hK)

theorem getD_lt {ds : List Nat} (hd : ∀ d ∈ ds, d < 10) (k : Nat) : ds[k]?.getD 0 < 10 := by
  by_cases h : k < ds.length
  · rw [List.getElem?_eq_getElem h]
    exact hd _ (List.getElem_mem h)
  · rw [List.getElem?_eq_none (by omega)]
    decide

theorem add_spec {xs ys : List Nat} (ha : At w p (dg xs)) (hl : xs.length = n) (hn : n ≤ 1000000) (hda : ∀ d ∈ xs, d < 10) (hb : At w q (dg ys)) (hl' : ys.length = m) (hm : m ≤ 1000000) (hdb : ∀ d ∈ ys, d < 10)
    (hK : ∀ p' c' out w', Own w' T.int 1 p' out.length c' (dg out) → (∀ d ∈ out, d < 10) → dval out = dval xs + dval ys → out.length ≤ max n m + 1 → Upd Nothing w w' → K (.slice p' out.length c') w') :
    CallsV prog F.affluxref01_add #[.slice p n c, .slice q m d] w K :=
  R.affluxref01_add (by
    unfold C.affluxref01_add
    refine ⟨fun op on oc carry i w' => ∃ (out : List Nat) (cy : Nat), i = out.length ∧ on = out.length ∧ carry = cy ∧ cy ≤ 1 ∧ (∀ d ∈ out, d < 10) ∧ dval out + 10 ^ out.length * cy = dval (xs.take out.length) + dval (ys.take out.length) ∧ out.length ≤ max n m + 1 ∧ (max n m < out.length → cy = 0) ∧
      Own w' T.int 1 op on oc (dg out) ∧ Upd Nothing w w' ∧ ∀ k, Fp op oc k → w.heap.size ≤ k, fun _ _ _ _ i _ => max n m + 2 - i.toNat, ⟨[], 0, rfl, rfl, rfl, by decide, by simp, by simp [dval], by simp, fun _ => rfl, Own.nil _ _ _, Upd.refl _ _, fun k hk => by have := hk.1; omega⟩, ?_⟩
    rintro op on oc carry i w1 ⟨out, cy, rfl, rfl, rfl, hcy, hdo, hv, hlen, hend, ho, hu, hf⟩
    have hmax : max n m ≤ 1000000 := by omega
    refine ⟨fun w' => w' = w1 ∧ (out.length < n ∨ out.length < m ∨ 0 < cy), ifB_mk (fun h => ⟨rfl, .inl (by have := of_decide_eq_true h; omega)⟩) (fun h1 => ifB_mk (fun h => ⟨rfl, .inr (.inl (by have := of_decide_eq_true h; omega))⟩) (fun h2 => ifB_mk (fun h => ⟨rfl, .inr (.inr (by have := of_decide_eq_true h; omega))⟩) (fun h3 => ?_))), ?_⟩
    · have h1' := of_decide_eq_false h1
      have h2' := of_decide_eq_false h2
      have h3' := of_decide_eq_false h3
      have hc0 : cy = 0 := by omega
      rw [hc0, Nat.mul_zero, Nat.add_zero, List.take_of_length_le (by omega), List.take_of_length_le (by omega)] at hv
      exact hK op oc out w1 ho hdo hv hlen hu
    rintro w2 ⟨rfl, hgo⟩
    have hle : out.length ≤ max n m := by
      rcases Nat.lt_or_ge (max n m) out.length with h | h
      · have := hend h; omega
      · exact h
    have hx := getD_lt hda out.length
    have hy := getD_lt hdb out.length
    refine at_spec (ha.upd0 hu) hl ⟨_, rfl, at_spec (hb.upd0 hu) hl' ⟨_, rfl, by decide, ?_⟩⟩
    have hs : dval (xs.take (out.length + 1)) + dval (ys.take (out.length + 1)) = dval out + 10 ^ out.length * cy + 10 ^ out.length * (xs[out.length]?.getD 0) + 10 ^ out.length * (ys[out.length]?.getD 0) := by
      rw [dval_take_succ, dval_take_succ]
      omega
    have hxs : max n m < out.length + 1 → xs[out.length]?.getD 0 = 0 ∧ ys[out.length]?.getD 0 = 0 := fun h => by
      rw [List.getElem?_eq_none (by omega), List.getElem?_eq_none (by omega)]
      exact ⟨rfl, rfl⟩
    generalize xs[out.length]?.getD 0 = x at hx hs hxs ⊢
    generalize ys[out.length]?.getD 0 = y at hy hs hxs ⊢
    have e1 : IntKind.i64.wrap (IntKind.i64.wrap ((x : Int) + (y : Int)) + (cy : Int)) = ((x + y + cy : Nat) : Int) := by
      rw [i64_wrap_add, i64_wrap (by omega) (by omega)]; omega
    have e2 : Int.tmod ((x + y + cy : Nat) : Int) 10 = (((x + y + cy) % 10 : Nat) : Int) := by
      rw [Int.tmod_eq_emod_of_nonneg (by omega)]; omega
    have e3 : IntKind.i64.wrap (Int.tdiv ((x + y + cy : Nat) : Int) 10) = (((x + y + cy) / 10 : Nat) : Int) := by
      rw [Int.tdiv_eq_ediv_of_nonneg (by omega), i64_wrap (by omega) (by omega)]; omega
    rw [e1, e2, e3]
    refine app_int (xs := out.map fun d : Nat => (d : Int)) ho (by omega) fun p' c' w' ho' hu' hf' => ⟨_, _, _, rfl, by decide, ?_⟩
    rw [i64_wrap (by omega) (by omega)]
    rw [dg_snoc] at ho'
    refine ⟨⟨out ++ [(x + y + cy) % 10], (x + y + cy) / 10, by simp, by simp, rfl, by omega, ?_, ?_, by simp; omega, ?_, ho', hu.fresh hu' fun i hi => hf i hi, fun k hk => ?_⟩, ?_⟩
    · intro z hz
      rcases List.mem_append.1 hz with hz | hz
      · exact hdo z hz
      · simp at hz; subst hz; omega
    · have hlen1 : (out ++ [(x + y + cy) % 10]).length = out.length + 1 := by simp
      rw [hlen1, hs, dval_append, Nat.pow_succ]
      have h10 : 10 ^ out.length * ((x + y + cy) % 10 + 10 * ((x + y + cy) / 10)) = 10 ^ out.length * (x + y + cy) := by rw [Nat.mod_add_div]
      simp only [Nat.mul_add, ← Nat.mul_assoc] at h10
      simp only [dval, Nat.mul_zero, Nat.add_zero]
      omega
    · intro h
      have hlen1 : (out ++ [(x + y + cy) % 10]).length = out.length + 1 := by simp
      rw [hlen1] at h
      obtain ⟨rfl, rfl⟩ := hxs h
      omega
    · rcases hf' k hk with h | h
      · exact hf k h
      · exact Nat.le_trans hu.size h
    · show max n m + 2 - _ < max n m + 2 - _
      omega)

theorem num_cell0 {x : Int} (h : 0 ≤ x) : decide (x < 0) = false := decide_eq_false (by omega)

/-- The sum of two numbers that aren't below nought. -/
theorem plus_spec {v u : Value} {x y : Int} (hx : NumAt w v x) (hy : NumAt w u y) (hx0 : 0 ≤ x) (hy0 : 0 ≤ y) (hxl : (digs x.natAbs).length ≤ 10000) (hyl : (digs y.natAbs).length ≤ 10000)
    (hK : ∀ v' w', NumAt w' v' (x + y) → Upd Nothing w w' → K v' w') : CallsV prog F.affluxref01_Plus #[v, u] w K := by
  obtain ⟨p, c, rfl, hp⟩ := hx
  obtain ⟨q, d, rfl, hq⟩ := hy
  rw [num_cell0 hx0, num_cell0 hy0]
  refine R.affluxref01_Plus ?_
  unfold C.affluxref01_Plus
  refine New.use (by simp [Value.oneCell']) fun g1 w1 hb1 hu1 hge1 _ => New.use (by simp [Value.oneCell']) fun g2 w2 hb2 hu2 hge2 _ => New.use (by simp [Value.oneCell']) fun g3 w3 hb3 hu3 hge3 _ => ?_
  have hu13 := (hu1.then hu2).then hu3
  have hb13 := (hu2.then hu3).blk hb1 fun f => f
  have hb23 := hu3.blk hb2 fun f => f
  refine ⟨_, hb13.cell (i := 0) rfl, _, hb23.cell (i := 0) rfl, ifB_mk (fun _ => ?_) (fun h => by cases h)⟩
  have hud := hu13.then (Upd.drew _ _)
  refine ⟨_, hb13.drew.cell (i := 0) rfl, _, _, _, hb13.drew.cell (i := 1) rfl, _, _, _, hb23.drew.cell (i := 1) rfl, ?_⟩
  refine add_spec (hp.at.upd0 hud) rfl (by omega) (digs_lt _) (hq.at.upd0 hud) rfl (by omega) (digs_lt _) fun p' c' out w4 ho hdo hv hlen hu4 => ⟨_, _, _, rfl, (hu4.blk hb13.drew fun f => f).cell (i := 0) rfl, ?_⟩
  refine sign_spec ho rfl (by omega) hdo fun v5 w5 hnum hu5 => ?_
  rw [if_neg (by decide), hv, dval_digs, dval_digs] at hnum
  have hxy : ((x.natAbs + y.natAbs : Nat) : Int) = x + y := by omega
  rw [hxy] at hnum
  have hnum' := hnum
  obtain ⟨rp, rc, rfl, hro⟩ := hnum
  have hu45 := ((Upd.drew Nothing w3).then hu4).then hu5
  have hb5 := hu45.blk hb3 fun f => f
  refine ⟨_, _, _, _, rfl, set_two rfl rfl hb5 fun w7 hb7 hu7 => ⟨_, _, _, _, two_cells hb7, hK _ w7 (hnum'.one hb5 (by decide) hu7) ((hu13.then hu45).fresh hu7 fun i hi => ?_)⟩⟩
  rw [show i = g3 from hi]
  have := (hu1.then hu2).size
  omega

/-! ### what is left of a quotient -/
theorem emod_of {x n r q : Int} (h : x = r + n * q) (h0 : 0 ≤ r) (h1 : r < n) : x % n = r := by
  rw [h, Int.add_mul_emod_self_left, Int.emod_eq_of_lt h0 h1]

theorem mod_spec {a b : Int} (ha : -9223372036854775808 ≤ a ∧ a ≤ 9223372036854775807) (hb : 1 ≤ b ∧ b ≤ 9223372036854775807) (hK : ∀ w', Upd Nothing w w' → K (.tuple #[.int .i64 (a % b), .int .i64 0]) w') : CallsV prog F.calc_Mod #[.int .i64 a, .int .i64 b] w K :=
  R.calc_Mod (by
    unfold C.calc_Mod
    refine ifB_mk (fun h => by have := beq_iff_eq.1 h; omega) (fun _ => R.calc_parts (by
      unfold C.calc_parts
      refine ifB_mk (fun h => by have := beq_iff_eq.1 h; omega) (fun _ => ifB_mk (fun h => by have := beq_iff_eq.1 h; omega) (fun _ => ⟨by omega, by omega, ?_⟩))
      have hm := Int.mul_tdiv_add_tmod a b
      have hlt : Int.tmod a b < b := Int.tmod_lt_of_pos a (by omega)
      have hgt : -b < Int.tmod a b := by
        by_cases h : 0 ≤ a
        · have := Int.tmod_nonneg b h; omega
        · have h2 := Int.tmod_lt_of_pos (-a) (show 0 < b by omega)
          rw [Int.neg_tmod] at h2
          omega
      have hud : Upd Nothing w w.drew := Upd.drew _ _
      have key0 : 0 ≤ Int.tmod a b → Int.tmod a b = a % b := fun h => (emod_of (q := Int.tdiv a b) (by omega) h hlt).symm
      refine ifB_mk (fun h1 => ifB_mk (fun h2 => ?_) (fun h2 => ?_)) (fun h1 => ?_)
      · have hneg : Int.tmod a b < 0 := by
          rcases Int.lt_or_le (Int.tmod a b) 0 with h | h
          · exact h
          · have e1 : decide (Int.tmod a b < 0) = false := decide_eq_false (by omega)
            have e2 : decide (b < 0) = false := decide_eq_false (by omega)
            rw [e1, e2] at h2
            simp at h2
        rw [i64_wrap (n := Int.tmod a b + b) (by omega) (by omega)]
        refine ⟨_, _, _, rfl, ?_⟩
        have : a % b = Int.tmod a b + b := emod_of (q := Int.tdiv a b - 1) (by rw [Int.mul_sub, Int.mul_one]; omega) (by omega) (by omega)
        rw [← this]
        exact hK _ hud
      · have hpos : 0 ≤ Int.tmod a b := by
          rcases Int.lt_or_le (Int.tmod a b) 0 with h | h
          · have e1 : decide (Int.tmod a b < 0) = true := decide_eq_true h
            have e2 : decide (b < 0) = false := decide_eq_false (by omega)
            rw [e1, e2] at h2
            simp at h2
          · exact h
        rw [key0 hpos]
        exact ⟨_, _, _, rfl, hK _ hud⟩
      · have hz : Int.tmod a b = 0 := by simpa using h1
        rw [key0 (by omega)]
        exact ⟨_, _, _, rfl, hK _ hud⟩)))
end
end Ca
end Go.Proofs.YtjcgociobhhijaaDoor
