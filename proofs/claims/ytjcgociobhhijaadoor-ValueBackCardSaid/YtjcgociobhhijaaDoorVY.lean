/- The rows of keys: Unkey, the document's Unkey, and whether two rows are the same. -/
import Derived.Test.YtjcgociobhhijaaDoorVX
import Derived.Test.YtjcgociobhhijaaDoorVL
set_option linter.unusedVariables false
set_option linter.unusedSimpArgs false
set_option maxRecDepth 100000
namespace Go.Proofs.YtjcgociobhhijaaDoor
open Go Go.Proofs.YtjcgociobhhijaaDoor.SX
namespace Va
section
variable {w : World} {K : Value → World → Prop} {p q : Option Addr} {n c m d : Nat} {xs ys : List Val} {a b v : Val} {l : List UInt8} {s : ByteArray}

theorem firstV_none {r : List UInt8} (h : firstV r = none) : ∀ v t, Val.good v → r ≠ vkey v ++ t := fun v t hv e => by
  rw [e, firstV_vkey hv] at h
  cases h
theorem firstV_some {r t : List UInt8} {v : Val} (h : firstV r = some (v, t)) : ∀ v' t', Val.good v' → r = vkey v' ++ t' → v' = v := fun v' t' hv e => by
  rw [e, firstV_vkey hv] at h
  simp only [Option.some.injEq, Prod.mk.injEq] at h
  exact h.1
theorem txt_ne {r : List UInt8} (h : sEq (txt r) (bs []) = false) : r ≠ [] := fun e => by
  rw [e, show sEq (txt []) (bs []) = true from sEq_self (bs [])] at h
  cases h
theorem txt_nil {r : List UInt8} (h : sEq (txt r) (bs []) = true) : r = [] := by
  have h1 := sEq_iff.1 h
  have := congrArg (fun x : ByteArray => x.data.toList) h1
  rw [txt_toList] at this
  exact this
theorem vkey_pos (v : Val) : 1 ≤ (vkey v).length := by unfold vkey; rw [List.length_cons]; omega
theorem vkeys_snoc (xs : List Val) (v : Val) : vkeys (xs ++ [v]) = vkeys xs ++ vkey v := by
  unfold vkeys
  rw [List.flatMap_append]
  simp only [List.flatMap_cons, List.flatMap_nil, List.append_nil]
theorem vals_snoc (xs : List Val) (v : Val) : vals (xs ++ [v]) = vals xs ++ v.cells := by rw [vals_append]; simp

/-- One value more. -/
theorem app_val {x : Val} (ho : Own w T.api_Value 3 p n c (vals xs)) (hsz : n + 1 ≤ 1099511627776)
    (hK : ∀ p' c' w', Own w' T.api_Value 3 p' (n + 1) c' (vals (xs ++ [x])) → Upd (Fp p c) w w' → (∀ k, Fp p' c' k → Fp p c k ∨ w.heap.size ≤ k) → K (.slice p' (n + 1) c') w') :
    ∀ g w1, New w (.cells #[.int .i64 x.k, .int .i64 x.n, .string x.s] T.api_Value) g w1 → BuiltV prog .append #[T.s_api_Value, T.s_api_Value] T.s_api_Value #[.slice p n c, .slice (some (Addr.mk g 0 none)) 1 1] w1 K := by
  refine New.use (val_one x) fun g w1 hb hu hge _ => ?_
  refine append_own (m := 1) sval (.inl sval.desc) (ho.upd0 hu) (Src.slice (m := 1) (ys := x.cells) (At.of_blk hb fun j v hj => by rw [Nat.zero_add]; exact hj) rfl (val_one x)) (by decide) (by decide) (by omega) fun p' c' w' ho' hu' hf' => ?_
  refine hK p' c' w' (by rw [vals_snoc]; exact ho') (hu.trans hu' (fun _ _ h => h.elim) (fun _ _ h => h)) fun k hk => ?_
  rcases hf' k hk with h | h
  · exact .inl h
  · exact .inr (Nat.le_trans hu.size h)

theorem unkey_spec (hs : s.size ≤ 100000) (hK : ∀ p n c ok xs w', Unk s.data.toList ok xs → At w' p (vals xs) → xs.length = n → n ≤ 100000 → Upd Nothing w w' → K (.tuple #[.slice p n c, .bool ok]) w') : CallsV prog F.value_Unkey #[.string s] w K :=
  R.value_Unkey (by
    unfold C.value_Unkey
    refine ⟨fun s2 lp ln lc w' => ∃ (done : List Val) (rest : List UInt8), s2 = txt rest ∧ s.data.toList = vkeys done ++ rest ∧ (∀ x ∈ done, x.good) ∧ ln = done.length ∧ done.length + rest.length ≤ s.size ∧ Own w' T.api_Value 3 lp ln lc (vals done) ∧ Upd Nothing w w' ∧ (∀ k, Fp lp lc k → w.heap.size ≤ k),
      fun s2 _ _ _ _ => s2.size, ⟨[], s.data.toList, (txt_self s).symm, rfl, by simp, rfl, by simp [size_len], Own.nil _ _ _, Upd.refl _ _, fun k hk => by have := hk.1; omega⟩, ?_⟩
    rintro s2 lp ln lc w1 ⟨done, rest, rfl, hL, hgd, rfl, hlen, ho1, hu1, hf1⟩
    have hfail : ∀ w', Upd Nothing w w' → rest ≠ [] → (∀ v r, Val.good v → rest ≠ vkey v ++ r) → K (.tuple #[.slice none 0 0, .bool false]) w' := fun w' hu' hne hno => hK none 0 0 false [] w' (Unk.stuck hgd hL hne hno) (At.nil _ _) rfl (by omega) hu'
    refine ifB_mk (fun h => ?_) (fun h => ?_)
    · have hne := txt_ne (by simpa using h)
      obtain ⟨x, r, hr⟩ : ∃ x r, rest = x :: r := by cases rest with
        | nil => exact absurd rfl hne
        | cons x r => exact ⟨x, r, rfl⟩
      refine take_of (s := txt rest) (by rw [txt_toList]; exact hr) (by rw [txt_size]; omega) (fun v rest' w2 hfv hu2 => ?_) (fun v t w2 hfv hu2 => ?_)
      · rw [← hr] at hfv
        obtain ⟨hre, hn1, hn2⟩ := firstV_eq hfv
        refine ⟨_, _, _, _, _, rfl, New.use (by simp [Value.oneCell']) fun g w3 hb3 hu3 hge3 _ => ?_⟩
        refine set_val v hb3 fun w4 hb4 hu4 => ifB_mk (fun h => by cases h) (fun _ => ⟨_, _, _, cells_cells hb4, ?_⟩)
        have hg : ∀ i, SX.One g i → w2.heap.size ≤ i := fun i hi => by rw [show i = g from hi]; exact hge3
        have hu14 : Upd Nothing w1 w4 := hu2.then (hu3.fresh hu4 hg)
        show CallsV prog F.value_wrong #[v.val] w4 _
        refine wrong_spec fun w5 hu5 => ⟨_, rfl, ifB_mk (fun h => ?_) (fun h => ⟨_, _, _, cells_cells (hu5.blk hb4 fun f => f), ?_⟩)⟩
        · refine hfail w5 ((hu1.then hu14).then hu5) hne fun v' r' hv' e => ?_
          have := firstV_some hfv v' r' hv' e
          subst this
          rw [hv'.1] at h
          cases h
        · have hgv : Val.good v := ⟨by simpa using h, hn1, hn2⟩
          refine app_val ((ho1.upd0 hu14).upd0 hu5) (by omega) fun p6 c6 w6 ho6 hu6 hf6 => ⟨p6, _, c6, rfl, ⟨done ++ [v], rest', rfl, ?_, ?_, by simp, ?_, ho6, ((hu1.then hu14).then hu5).fresh hu6 hf1, fun k hk => ?_⟩, ?_⟩
          · rw [hL, hre, vkeys_snoc, List.append_assoc]
          · intro y hy
            rcases List.mem_append.1 hy with hy | hy
            · exact hgd y hy
            · have : y = v := by simpa using hy
              rw [this]; exact hgv
          · have := vkey_pos v
            rw [hre, List.length_append] at hlen
            rw [List.length_append, List.length_cons, List.length_nil]
            omega
          · rcases hf6 k hk with h | h
            · exact hf1 k h
            · exact Nat.le_trans ((hu1.then hu14).then hu5).size h
          · show (txt rest').size < (txt rest).size
            rw [txt_size, txt_size, hre, List.length_append]
            have := vkey_pos v
            omega
      · rw [← hr] at hfv
        refine ⟨_, _, _, _, _, rfl, New.use (by simp [Value.oneCell']) fun g w3 hb3 hu3 hge3 _ => ?_⟩
        have hg : ∀ i, SX.One g i → w2.heap.size ≤ i := fun i hi => by rw [show i = g from hi]; exact hge3
        refine set_val v hb3 fun w4 hb4 hu4 => ifB_mk (fun _ => hfail w4 (hu1.then (hu2.then (hu3.fresh hu4 hg))) hne (firstV_none hfv)) (fun h => by cases h)
    · have hnil := txt_nil (by simpa using h)
      subst hnil
      rw [List.append_nil] at hL
      exact hK lp _ lc true done w1 (.inl ⟨rfl, hgd, hL.symm⟩) ho1.at rfl (by omega) hu1)

/-- Whether two rows are the same. -/
theorem same_rows (hat : At w p (vals xs)) (hl : xs.length = n) (hn : n ≤ 9223372036854775806) (hat' : At w q (vals ys)) (hl' : ys.length = m) (hK : ∀ (r : Bool) w', (r = true ↔ xs = ys) → Upd Nothing w w' → K (.bool r) w') :
    CallsV prog F.affluxref02_Same #[.slice p n c, .slice q m d] w K :=
  R.affluxref02_Same (by
    unfold C.affluxref02_Same
    refine ifB_mk (fun h => ?_) (fun h => ?_)
    · refine hK false w ⟨fun h => (by cases h), fun e => ?_⟩ (Upd.refl _ _)
      subst e
      simp at h
      omega
    have hnm : n = m := by simp at h; omega
    subst hnm
    refine ⟨fun i w' => ∃ k : Nat, i = k ∧ k ≤ n ∧ Upd Nothing w w' ∧ xs.take k = ys.take k, fun i _ => n - i.toNat, ⟨0, rfl, by omega, Upd.refl _ _, by simp⟩, ?_⟩
    rintro i w1 ⟨k, rfl, hk, hu1, htk⟩
    refine ifB_mk (fun h => ?_) (fun h => ?_)
    · have hkn : k < n := by simpa using h
      have hu1' := hu1.then (Upd.drew _ _)
      obtain ⟨a, ha, hc⟩ := (hat.upd0 hu1').val (i := k) (by omega)
      obtain ⟨a', ha', hc'⟩ := (hat'.upd0 hu1').val (i := k) (by omega)
      refine ⟨a, ha, by omega, by omega, _, _, _, hc, a', ha', by omega, by omega, _, _, _, hc', ifB_mk (fun hne => ?_) (fun he => ?_)⟩
      · refine hK false _ ⟨fun h => (by cases h), fun e => ?_⟩ hu1'
        subst e
        simp [sEq_self] at hne
      · simp only [Bool.not_eq_false', Bool.and_eq_true, beq_iff_eq, sEq_iff, and_true] at he
        have hv : xs[k] = ys[k] := by
          obtain ⟨h1, h2, h3⟩ := he
          cases hx : xs[k]; cases hy : ys[k]
          rw [hx, hy] at h1 h2 h3
          simp only at h1 h2 h3
          rw [h1, h2, h3]
        rw [i64_wrap (by omega) (by omega)]
        refine ⟨⟨k + 1, by omega, by omega, hu1', ?_⟩, by show n - _ < n - _; omega⟩
        rw [List.take_succ_eq_append_getElem (by omega), List.take_succ_eq_append_getElem (by omega), htk, hv]
    · have hkn : k = n := by simp at h; omega
      rw [List.take_of_length_le (by omega), List.take_of_length_le (by omega)] at htk
      exact hK true w1 ⟨fun _ => htk, fun _ => rfl⟩ hu1)
theorem i64_byte (x : UInt8) : IntKind.i64.wrap (x.toNat : Int) = (x.toNat : Int) := by
  have := x.toNat_lt
  exact i64_wrap (by omega) (by omega)

theorem num_byte {u y : Nat} (hu : u < 72057594037927936) (hy : y < 256) : IntKind.u64.wrap (IntKind.u64.wrap ((256 : Int) * (u : Int)) + IntKind.u64.wrap (y : Int)) = ((u * 256 + y : Nat) : Int) := by
  simp [IntKind.wrap, IntKind.signed, IntKind.bits]
  omega
theorem num_down {u : Nat} (hu : u < 18446744073709551616) : IntKind.i64.wrap (IntKind.u64.wrap ((u : Int) - 9223372036854775808)) = (u : Int) - 9223372036854775808 := by
  simp [IntKind.wrap, IntKind.signed, IntKind.bits]
  omega

/-- What the document's answer tries first, of bytes. -/
structure Try (rest : List UInt8) (v : Val) : Prop where
  only : ∀ v' r, Val.good v' → rest = vkey v' ++ r → v' = v
  range : -9223372036854775808 ≤ v.n ∧ v.n ≤ 9223372036854775807
  size : v.s.size ≤ 100000

theorem cand2_length : ∀ r : List UInt8, (cand2 r).length ≤ r.length
  | [] => by simp [cand2]
  | [b] => by simp [cand2]
  | b :: c :: r => by
    rw [cand2]
    split
    · simp
    · split
      · have := cand2_length r
        simp; omega
      · have := cand2_length (c :: r)
        simp at this ⊢; omega

theorem runkey_spec (hs : s.size ≤ 100000) (hK : ∀ p n c ok xs w', Unk s.data.toList ok xs → At w' p (vals xs) → xs.length = n → n ≤ 100000 → Upd Nothing w w' → K (.tuple #[.slice p n c, .bool ok]) w') : CallsV prog F.affluxref02_Unkey #[.string s] w K :=
  R.affluxref02_Unkey (by
    unfold C.affluxref02_Unkey
    refine ⟨fun s2 lp ln lc w' => ∃ (done : List Val) (rest : List UInt8), s2 = txt rest ∧ s.data.toList = vkeys done ++ rest ∧ (∀ x ∈ done, x.good) ∧ ln = done.length ∧ done.length + rest.length ≤ s.size ∧ Own w' T.api_Value 3 lp ln lc (vals done) ∧ Upd Nothing w w' ∧ (∀ k, Fp lp lc k → w.heap.size ≤ k),
      fun s2 _ _ _ _ => s2.size, ⟨[], s.data.toList, (txt_self s).symm, rfl, by simp, rfl, by simp [size_len], Own.nil _ _ _, Upd.refl _ _, fun k hk => by have := hk.1; omega⟩, ?_⟩
    rintro s2 lp ln lc w1 ⟨done, rest, rfl, hL, hgd, rfl, hlen, ho1, hu1, hf1⟩
    have hfail : ∀ w', Upd Nothing w w' → rest ≠ [] → (∀ v r, Val.good v → rest ≠ vkey v ++ r) → K (.tuple #[.slice none 0 0, .bool false]) w' := fun w' hu' hne hno => hK none 0 0 false [] w' (Unk.stuck hgd hL hne hno) (At.nil _ _) rfl (by omega) hu'
    rw [txt_size]
    refine ifB_mk (fun h => ?_) (fun h => ?_)
    · obtain ⟨x, r, hr⟩ : ∃ x r, rest = x :: r := by cases rest with
        | nil => simp at h
        | cons x r => exact ⟨x, r, rfl⟩
      have hne : rest ≠ [] := by rw [hr]; simp
      have hrl : rest.length = r.length + 1 := by rw [hr]; simp
      have hsz : (txt rest).size = rest.length := txt_size rest
      have hb : ∀ (i : Nat) (hi : i < rest.length), bt (txt rest) (i : Int) = ((rest[i]).toNat : Int) := fun i hi => by
        rw [bt_get (by rw [hsz]; exact hi)]
        simp [txt]
      have hb0 : bt (txt rest) (0 : Int) = (x.toNat : Int) := by
        have := hb 0 (by omega)
        simp only [hr, List.getElem_cons_zero] at this
        rw [hr]
        exact this
      have hxlt := x.toNat_lt
      rw [hb0, i64_byte]
      refine ⟨by omega, by omega, New.use (by simp [Value.oneCell']) fun g w2 hb2 hu2 hge2 hlt2 => ?_⟩
      have hg : ∀ i, SX.One g i → w1.heap.size ≤ i := fun i hi => by rw [show i = g from hi]; exact hge2
      refine set_val ⟨(x.toNat : Int), 0, bs []⟩ hb2 fun w5 hb5 hu5 => ?_
      have hu15 : Upd Nothing w1 w5 := hu2.fresh hu5 hg
      have hdec : ∀ k : Nat, k < 256 → ((x.toNat : Int) == (k : Int)) = decide (x = UInt8.ofNat k) := fun k hk => by
        rw [Bool.eq_iff_iff]; simp only [beq_iff_eq, decide_eq_true_eq]
        refine ⟨fun h => UInt8.toNat_inj.1 (by rw [UInt8.toNat_ofNat']; omega), fun h => ?_⟩
        rw [h, UInt8.toNat_ofNat']; omega
      have hx1 : ((x.toNat : Int) == 1) = decide (x = 1) := hdec 1 (by omega)
      have hx2 : ((x.toNat : Int) == 2) = decide (x = 2) := hdec 2 (by omega)
      have hx3 : ((x.toNat : Int) == 3) = decide (x = 3) := hdec 3 (by omega)
      refine ⟨fun w' => ∃ v, (v.k = 1 ∨ v.k = 2 ∨ v.k = 3) ∧ Try rest v ∧ Blk w' g v.cells T.api_Value ∧ Upd Nothing w1 w', ?_, ?_⟩
      · refine ⟨fun b w' => b = decide (x = 1 ∧ 9 ≤ rest.length) ∧ w' = w5, ⟨by omega, by omega, ?_⟩, ?_⟩
        · rw [hx1]
          refine ifB_mk (fun h => ⟨?_, rfl⟩) (fun h => ⟨?_, rfl⟩)
          · have e1 : x = 1 := by simpa using h
            rw [Bool.eq_iff_iff]
            simp only [decide_eq_true_eq]
            exact ⟨fun h => ⟨e1, by omega⟩, fun h => by omega⟩
          · have e1 : x ≠ 1 := by simpa using h
            rw [eq_comm, decide_eq_false_iff_not]
            exact fun h => e1 h.1
        · rintro bb w6 ⟨rfl, rfl⟩
          refine ifB_mk (fun h => ?_) (fun h => ⟨by omega, by omega, ?_⟩)
          · -- a number
            have e1 := of_decide_eq_true h
            have hl8 : (r.take 8).length = 8 := by rw [List.length_take]; omega
            have h8 : (256 : Nat) ^ 8 = 18446744073709551616 := by decide
            refine ⟨fun u i w' => ∃ j : Nat, i = ((j + 1 : Nat) : Int) ∧ j ≤ 8 ∧ u = (num ((r.take 8).take j) : Int) ∧ w' = w6, fun _ i _ => 9 - i.toNat, ⟨0, rfl, by omega, rfl, rfl⟩, ?_⟩
            rintro u i w7 ⟨j, rfl, hj, rfl, rfl⟩
            refine ifB_mk (fun h => ?_) (fun h => ?_)
            · have hj8 : j < 8 := by simp at h; omega
              have hnl := num_lt j ((r.take 8).take j) (by rw [List.length_take]; omega)
              have hpow : (256 : Nat) ^ j ≤ 256 ^ 7 := Nat.pow_le_pow_right (by omega) (by omega)
              have h7 : (256 : Nat) ^ 7 = 72057594037927936 := by decide
              have hbj : bt (txt rest) ((j + 1 : Nat) : Int) = (((r.take 8)[j]'(by omega)).toNat : Int) := by
                rw [hb (j + 1) (by omega)]
                simp only [hr, List.getElem_cons_succ, List.getElem_take]
              refine ⟨by omega, by omega, ?_⟩
              rw [hbj, num_byte (by omega) (UInt8.toNat_lt _), i64_wrap (by omega) (by omega)]
              refine ⟨⟨j + 1, by omega, by omega, ?_, rfl⟩, by show 9 - _ < 9 - _; omega⟩
              have e8 := List.take_succ_eq_append_getElem (l := r.take 8) (i := j) (by omega)
              rw [e8, num_append]
            · have hj8 : j = 8 := by simp at h; omega
              subst hj8
              rw [List.take_of_length_le (by omega)]
              have hnl := num_lt 8 (r.take 8) hl8
              rw [num_down (by omega)]
              refine hb5.store (i := 1) (by simp [Val.cells]) rfl fun w8 hb8 hu8 _ => ⟨⟨1, (num (r.take 8) : Int) - 9223372036854775808, bs []⟩, .inl rfl, ⟨fun v' r' hv' e => ?_, ⟨by show -9223372036854775808 ≤ (num (r.take 8) : Int) - 9223372036854775808; omega, by show (num (r.take 8) : Int) - 9223372036854775808 ≤ 9223372036854775807; omega⟩, by show 0 ≤ 100000; omega⟩, ?_, hu15.fresh hu8 hg⟩
              · refine firstV_some (t := r.drop 8) ?_ v' r' hv' e
                rw [hr, e1.1, firstV_cons, if_pos rfl, if_neg (by omega)]
                rfl
              · rw [e1.1] at hb8
                exact hb8
          · have e19 : ¬ (x = 1 ∧ 9 ≤ rest.length) := of_decide_eq_false h
            have hno1 : x = 1 → firstV rest = none := fun e => by
              have h9 : ¬ 9 ≤ rest.length := fun h9 => e19 ⟨e, h9⟩
              rw [hr, e, firstV_cons, if_pos rfl, if_pos (by omega)]
            rw [hx2, hx3]
            refine ifB_mk (fun h2 => ?_) (fun h2 => ⟨by omega, by omega, ifB_mk (fun h3 => ?_) (fun h3 => ?_)⟩)
            · -- a text
              have e2 : x = 2 := by simpa using h2
              have hcl := cand2_length r
              have hdone : ∀ (w9 : World), Upd Nothing w6 w9 → CanSt w9 ((Addr.mk g 0 none).add 2) ∧ ∀ wv13, wv13 = w9.setCell ((Addr.mk g 0 none).add 2) (.string ⟨(cand2 r).toArray⟩) →
                  ∃ v : Val, (v.k = 1 ∨ v.k = 2 ∨ v.k = 3) ∧ Try rest v ∧ Blk wv13 g v.cells T.api_Value ∧ Upd Nothing w1 wv13 := fun w9 hu9 => by
                refine (hu9.blk hb5 fun f => f).store (i := 2) (by simp [Val.cells]) rfl fun w8 hb8 hu8 _ => ⟨⟨2, 0, txt (cand2 r)⟩, .inr (.inl rfl), ⟨fun v' t' hv' e => ?_, ⟨by show -9223372036854775808 ≤ (0 : Int); omega, by show (0 : Int) ≤ 9223372036854775807; omega⟩, by show (txt (cand2 r)).size ≤ 100000; rw [txt_size]; omega⟩, ?_, (hu15.then hu9).fresh hu8 hg⟩
                · cases hun : untext r with
                  | none => exact absurd e (firstV_none (by rw [hr, e2, firstV_cons, if_neg (by decide), if_pos rfl, hun]; rfl) v' t' hv')
                  | some y =>
                    rw [cand2_of r y.1 y.2 hun]
                    exact firstV_some (t := y.2) (by rw [hr, e2, firstV_cons, if_neg (by decide), if_pos rfl, hun]; rfl) v' t' hv' e
                · rw [e2] at hb8
                  exact hb8
              refine ⟨fun bp bn bc i w' => ∃ (j : Nat) (dn : List UInt8), i = ((j + 1 : Nat) : Int) ∧ j ≤ r.length ∧ dn.length ≤ j ∧ Own w' T.uint8 1 bp bn bc (bytesV dn) ∧ Upd Nothing w6 w' ∧ (∀ k, Fp bp bc k → w6.heap.size ≤ k) ∧ cand2 r = dn ++ cand2 (r.drop j),
                fun _ _ _ i _ => rest.length - i.toNat, ⟨0, [], rfl, by omega, by simp, Own.nil _ _ _, Upd.refl _ _, fun k hk => by have := hk.1; omega, by simp⟩, ?_⟩
              rintro bp bn bc i w7 ⟨j, dn, rfl, hj, hdl, ho7, hu7, hf7, hcd⟩
              have hbn : bn = dn.length := by have := ho7.len; simp at this; omega
              have hend : cand2 (r.drop j) = [] → ConvV prog T.s_uint8 T.string (.slice bp bn bc) w7 (fun v4 wv16 => ∃ (c2 : ByteArray), v4 = .string c2 ∧ CanSt wv16 ((Addr.mk g 0 none).add 2) ∧ ∀ wv17, wv17 = wv16.setCell ((Addr.mk g 0 none).add 2) (.string c2) →
                  ∃ v : Val, (v.k = 1 ∨ v.k = 2 ∨ v.k = 3) ∧ Try rest v ∧ Blk wv17 g v.cells T.api_Value ∧ Upd Nothing w1 wv17) := fun hc => by
                refine to_text ho7.at hbn.symm ⟨_, rfl, ?_⟩
                have : cand2 r = dn := by rw [hcd, hc, List.append_nil]
                rw [← this]
                exact hdone w7 hu7
              rw [i64_wrap (n := ((j + 1 : Nat) : Int) + 1) (by omega) (by omega)]
              refine ifB_mk (fun h5 => ⟨by omega, by have := of_decide_eq_true h5; omega, ?_⟩) (fun h5 => ?_)
              · have hj1 : j + 1 < r.length := by have := of_decide_eq_true h5; omega
                have hbj : bt (txt rest) ((j + 1 : Nat) : Int) = ((r[j]'(by omega)).toNat : Int) := by
                  rw [hb (j + 1) (by omega)]
                  simp only [hr, List.getElem_cons_succ]
                have hbj1 : bt (txt rest) (((j + 1 : Nat) : Int) + 1) = ((r[j + 1]'(by omega)).toNat : Int) := by
                  have := hb (j + 2) (by omega)
                  simp only [hr, List.getElem_cons_succ] at this
                  rw [hr, show (((j + 1 : Nat) : Int) + 1) = ((j + 2 : Nat) : Int) by omega]
                  exact this
                have hdr : r.drop j = r[j]'(by omega) :: r[j + 1]'(by omega) :: r.drop (j + 2) := by
                  rw [List.drop_eq_getElem_cons (by omega), List.drop_eq_getElem_cons (i := j + 1) (by omega)]
                have hdr1 : r.drop (j + 1) = r[j + 1]'(by omega) :: r.drop (j + 2) := List.drop_eq_getElem_cons (by omega)
                rw [hbj, hbj1]
                generalize r[j]'(by omega) = y at hdr
                generalize r[j + 1]'(by omega) = z at hdr hdr1
                have hy0 : ((y.toNat : Int) == 0) = decide (y = 0) := by
                  rw [Bool.eq_iff_iff]; simp only [beq_iff_eq, decide_eq_true_eq]
                  exact ⟨fun h => UInt8.toNat_inj.1 (by show y.toNat = 0; omega), fun h => by rw [h]; rfl⟩
                have hz1 : ((z.toNat : Int) == 1) = decide (z = 1) := by
                  rw [Bool.eq_iff_iff]; simp only [beq_iff_eq, decide_eq_true_eq]
                  exact ⟨fun h => UInt8.toNat_inj.1 (by show z.toNat = 1; omega), fun h => by rw [h]; rfl⟩
                rw [hy0, hz1]
                have hput : ∀ (w8 : World) (p8 : Option Addr) (c8 : Nat), Own w8 T.uint8 1 p8 (bn + 1) c8 (bytesV (dn ++ [y])) → Upd (Fp bp bc) w7 w8 → (∀ k, Fp p8 c8 k → Fp bp bc k ∨ w7.heap.size ≤ k) → Upd Nothing w6 w8 ∧ (∀ k, Fp p8 c8 k → w6.heap.size ≤ k) := fun w8 p8 c8 _ hu8 hf8 => by
                  refine ⟨hu7.fresh hu8 hf7, fun k hk => ?_⟩
                  rcases hf8 k hk with h | h
                  · exact hf7 k h
                  · exact Nat.le_trans hu7.size h
                refine ifB_mk (fun h6 => ⟨by omega, by omega, ifB_mk (fun h7 => ⟨by omega, by omega, ?_⟩) (fun h7 => ?_)⟩) (fun h6 => ⟨by omega, by omega, ?_⟩)
                · have ey : y = 0 := by simpa using h6
                  have ez : z ≠ 1 := by simpa using h7
                  refine app1 (y := y) rfl ho7 (by omega) fun p8 c8 w8 ho8 hu8 hf8 => ⟨p8, _, c8, rfl, by omega, by omega, ifB_mk (fun _ => ?_) (fun h => by rw [h6] at h; cases h)⟩
                  obtain ⟨k1, k2⟩ := hput w8 p8 c8 ho8 hu8 hf8
                  rw [i64_wrap (by omega) (by omega)]
                  refine ⟨⟨j + 2, dn ++ [y], by omega, by omega, by simp; omega, ho8, k1, k2, ?_⟩, by show rest.length - _ < rest.length - _; omega⟩
                  rw [hcd, hdr, cand2, if_neg (fun h => ez h.2), if_pos ey, List.append_assoc]
                  rfl
                · refine hend ?_
                  have ey : y = 0 := by simpa using h6
                  have ez : z = 1 := by simpa using h7
                  rw [hdr, cand2, if_pos ⟨ey, ez⟩]
                · have ey : y ≠ 0 := by simpa using h6
                  refine app1 (y := y) rfl ho7 (by omega) fun p8 c8 w8 ho8 hu8 hf8 => ⟨p8, _, c8, rfl, by omega, by omega, ifB_mk (fun h => by rw [h6] at h; cases h) (fun _ => ?_)⟩
                  obtain ⟨k1, k2⟩ := hput w8 p8 c8 ho8 hu8 hf8
                  refine ⟨⟨j + 1, dn ++ [y], by omega, by omega, by simp; omega, ho8, k1, k2, ?_⟩, by show rest.length - _ < rest.length - _; omega⟩
                  rw [hcd, hdr, hdr1, cand2, if_neg (fun h => ey h.1), if_neg ey, List.append_assoc]
                  rfl
              · refine hend ?_
                have hj1 : ¬ j + 1 < r.length := by have := of_decide_eq_false h5; omega
                have hll : (r.drop j).length ≤ 1 := by rw [List.length_drop]; omega
                match r.drop j, hll with
                | [], _ => rfl
                | [_], _ => rfl
            · have e3 : x = 3 := by simpa using h3
              refine ifB_mk (fun h4 => ?_) (fun h4 => ?_)
              · have h4' : 2 ≤ rest.length := by simp at h4; omega
                obtain ⟨y, r', hr'⟩ : ∃ y r', r = y :: r' := by cases r with
                  | nil => simp at hrl; omega
                  | cons y r' => exact ⟨y, r', rfl⟩
                have hb1 : bt (txt rest) (1 : Int) = (y.toNat : Int) := by
                  have := hb 1 (by omega)
                  simp only [hr, hr', List.getElem_cons_succ, List.getElem_cons_zero] at this
                  rw [hr, hr']
                  exact this
                have hylt := y.toNat_lt
                rw [hb1, i64_byte]
                refine ⟨by omega, by omega, hb5.store (i := 1) (by simp [Val.cells]) rfl fun w8 hb8 hu8 _ => ⟨⟨3, (y.toNat : Int), bs []⟩, .inr (.inr rfl), ⟨fun v' t' hv' e => ?_, ⟨by show -9223372036854775808 ≤ ((y.toNat : Nat) : Int); omega, by show ((y.toNat : Nat) : Int) ≤ 9223372036854775807; omega⟩, by show 0 ≤ 100000; omega⟩, ?_, hu15.fresh hu8 hg⟩⟩
                · by_cases hy : y.toNat ≤ 1
                  · refine firstV_some (t := r') ?_ v' t' hv' e
                    rw [hr, hr', e3, firstV_cons, if_neg (by decide), if_neg (by decide), if_pos rfl, third, if_pos hy]
                    rfl
                  · refine absurd e (firstV_none ?_ v' t' hv')
                    rw [hr, hr', e3, firstV_cons, if_neg (by decide), if_neg (by decide), if_pos rfl, third, if_neg hy]
                · rw [e3] at hb8
                  exact hb8
              · refine hfail w6 (hu1.then hu15) hne (firstV_none ?_)
                have : r = [] := by
                  cases r with
                  | nil => rfl
                  | cons y r => simp at h4 hrl; omega
                rw [hr, e3, this]
                rfl
            · refine hfail w6 (hu1.then hu15) hne (firstV_none ?_)
              have n2 : x ≠ 2 := by simpa using h2
              have n3 : x ≠ 3 := by simpa using h3
              by_cases e1 : x = 1
              · exact hno1 e1
              · rw [hr, firstV_cons, if_neg e1, if_neg n2, if_neg n3]
      · rintro w6 ⟨v, hk, htry, hb6, hu16⟩
        refine ⟨_, _, _, cells_cells hb6, ?_⟩
        show CallsV prog F.affluxref02_Right #[v.val] w6 _
        refine rright_spec fun w7 hu7 => ⟨_, rfl, ifB_mk (fun h => ?_) (fun h => ?_)⟩
        · refine hfail w7 ((hu1.then hu16).then hu7) hne fun v' r' hv' e => ?_
          have := htry.only v' r' hv' e
          subst this
          rw [hv'.1] at h
          cases h
        have hright : v.right = true := by simpa using h
        have hb7 := hu7.blk hb6 fun f => f
        refine ⟨_, _, _, cells_cells hb7, ?_⟩
        show CallsV prog F.affluxref02_Key #[v.val] w7 _
        refine rkey_spec (by have := htry.size; omega) hk fun w8 hu8 => ⟨_, rfl, ?_⟩
        have hu18 := (hu16.then hu7).then hu8
        rw [tx_size]
        refine ifB_mk (fun h => ?_) (fun h => ⟨by omega, by simp at h; omega, ifB_mk (fun h2 => ?_) (fun h2 => ?_)⟩)
        · refine hfail w8 (hu1.then hu18) hne fun v' r' hv' e => ?_
          have := htry.only v' r' hv' e
          subst this
          have := congrArg List.length e
          rw [List.length_append] at this
          simp at h
          omega
        · refine hfail w8 (hu1.then hu18) hne fun v' r' hv' e => ?_
          have := htry.only v' r' hv' e
          subst this
          rw [Int.toNat_natCast, ext_take, txt_toList] at h2
          have e3 : rest.take (vkey v').length = vkey v' := by rw [e, List.take_left']; rfl
          rw [e3] at h2
          rw [show sEq (txt (vkey v')) (tx (vkey v')) = true from sEq_self _] at h2
          cases h2
        · have e2 : rest.take (vkey v).length = vkey v := by
            have h3 : sEq ((txt rest).extract 0 ((((vkey v).length : Nat) : Int).toNat)) (tx (vkey v)) = true := by simpa using h2
            have h4 := sEq_iff.1 h3
            rw [Int.toNat_natCast, ext_take, txt_toList] at h4
            have := congrArg (fun x : ByteArray => x.data.toList) h4
            rw [txt_toList] at this
            exact this.trans (txt_toList _)
          have hre : rest = vkey v ++ rest.drop (vkey v).length := by
            have := List.take_append_drop (vkey v).length rest
            rw [e2] at this
            exact this.symm
          have hgv : Val.good v := ⟨hright, htry.range⟩
          have hb8 := hu8.blk hb7 fun f => f
          have hvp := vkey_pos v
          refine ⟨_, _, _, cells_cells hb8, app_val (ho1.upd0 hu18) (by omega) fun p9 c9 w9 ho9 hu9 hf9 => ⟨p9, _, c9, rfl, by omega, by simp at h; omega, ⟨done ++ [v], rest.drop (vkey v).length, ?_, ?_, ?_, by simp, ?_, ho9, (hu1.then hu18).fresh hu9 hf1, fun k hk => ?_⟩, ?_⟩⟩
          · rw [Int.toNat_natCast, ← hsz, ext_drop, txt_toList]
          · rw [hL, vkeys_snoc, List.append_assoc, ← hre]
          · intro y hy
            rcases List.mem_append.1 hy with hy | hy
            · exact hgd y hy
            · have : y = v := by simpa using hy
              rw [this]; exact hgv
          · rw [List.length_append, List.length_cons, List.length_nil, List.length_drop]
            have : (vkey v).length ≤ rest.length := by simp at h; omega
            omega
          · rcases hf9 k hk with h | h
            · exact hf1 k h
            · exact Nat.le_trans (hu1.then hu18).size h
          · show ((txt rest).extract _ _).size < (txt rest).size
            rw [Int.toNat_natCast, ← hsz, ext_drop, txt_toList, txt_size, txt_size, List.length_drop]
            omega
    · have hnil : rest = [] := by
        cases rest with
        | nil => rfl
        | cons x r => simp at h
      subst hnil
      rw [List.append_nil] at hL
      exact hK lp _ lc true done w1 (.inl ⟨rfl, hgd, hL.symm⟩) ho1.at rfl (by omega) hu1)
end
end Va
end Go.Proofs.YtjcgociobhhijaaDoor
