/- The rows of keys: Unkey, the document's Unkey, and whether two rows are the same. -/
import Derived.Test.YtjcgociobhhijaaVX
import Derived.Test.YtjcgociobhhijaaVL
set_option linter.unusedVariables false
set_option linter.unusedSimpArgs false
set_option maxRecDepth 100000
namespace Go.Proofs.Ytjcgociobhhijaa
open Go Go.Proofs.Ytjcgociobhhijaa.SX
namespace Va
section
variable {w : World} {K : Value → World → Prop} {p q : Option Addr} {n c m d : Nat} {xs ys : List Val} {a b v : Val} {l : List UInt8} {s : ByteArray}

theorem firstV_none {r : List UInt8} (h : firstV r = none) : ∀ v t, Val.good v → r ≠ vkey v ++ t := fun v t hv e => by
  rw [e, firstV_vkey hv] at h
  cases h
theorem firstV_some {r t : List UInt8} {v : Val} (h : firstV r = some (v, t)) : ∀ v' t', Val.good v' → r = vkey v' ++ t' → v' = v := fun v' t' hv e => by
  rw [e, firstV_vkey hv] at h
  simp only [Option.some.injEq, Prod.mk.injEq] at h
  exact h.1
theorem txt_ne {r : List UInt8} (h : sEq (txt r) (bs []) = false) : r ≠ [] := fun e => by
  rw [e, show sEq (txt []) (bs []) = true from sEq_self (bs [])] at h
  cases h
theorem txt_nil {r : List UInt8} (h : sEq (txt r) (bs []) = true) : r = [] := by
  have h1 := sEq_iff.1 h
  have := congrArg (fun x : ByteArray => x.data.toList) h1
  rw [txt_toList] at this
  exact this
theorem vkey_pos (v : Val) : 1 ≤ (vkey v).length := by unfold vkey; rw [List.length_cons]; omega
theorem vkeys_snoc (xs : List Val) (v : Val) : vkeys (xs ++ [v]) = vkeys xs ++ vkey v := by
  unfold vkeys
  rw [List.flatMap_append]
  simp only [List.flatMap_cons, List.flatMap_nil, List.append_nil]
theorem vals_snoc (xs : List Val) (v : Val) : vals (xs ++ [v]) = vals xs ++ v.cells := by rw [vals_append]; simp

/-- One value more. -/
theorem app_val {x : Val} (ho : Own w T.api_Value 3 p n c (vals xs)) (hsz : n + 1 ≤ 1099511627776)
    (hK : ∀ p' c' w', Own w' T.api_Value 3 p' (n + 1) c' (vals (xs ++ [x])) → Upd (Fp p c) w w' → (∀ k, Fp p' c' k → Fp p c k ∨ w.heap.size ≤ k) → K (.slice p' (n + 1) c') w') :
    ∀ g w1, New w (.cells #[.int .i64 x.k, .int .i64 x.n, .string x.s] T.api_Value) g w1 → BuiltV prog .append #[T.s_api_Value, T.s_api_Value] T.s_api_Value #[.slice p n c, .slice (some (Addr.mk g 0 none)) 1 1] w1 K := by
  refine New.use (val_one x) fun g w1 hb hu hge _ => ?_
  refine append_own (m := 1) sval (.inl sval.desc) (ho.upd0 hu) (Src.slice (m := 1) (ys := x.cells) (At.of_blk hb fun j v hj => by rw [Nat.zero_add]; exact hj) rfl (val_one x)) (by decide) (by decide) (by omega) fun p' c' w' ho' hu' hf' => ?_
  refine hK p' c' w' (by rw [vals_snoc]; exact ho') (hu.trans hu' (fun _ _ h => h.elim) (fun _ _ h => h)) fun k hk => ?_
  rcases hf' k hk with h | h
  · exact .inl h
  · exact .inr (Nat.le_trans hu.size h)

/-- Whether two rows are the same. -/
theorem same_rows (hat : At w p (vals xs)) (hl : xs.length = n) (hn : n ≤ 9223372036854775806) (hat' : At w q (vals ys)) (hl' : ys.length = m) (hK : ∀ (r : Bool) w', (r = true ↔ xs = ys) → Upd Nothing w w' → K (.bool r) w') :
    CallsV prog F.affluxref02_Same #[.slice p n c, .slice q m d] w K :=
  R.affluxref02_Same (by
    unfold C.affluxref02_Same
    refine ifB_mk (fun h => ?_) (fun h => ?_)
    · refine hK false w ⟨fun h => (by cases h), fun e => ?_⟩ (Upd.refl _ _)
      subst e
      simp at h
      omega
    have hnm : n = m := by simp at h; omega
    subst hnm
    refine ⟨fun i w' => ∃ k : Nat, i = k ∧ k ≤ n ∧ Upd Nothing w w' ∧ xs.take k = ys.take k, fun i _ => n - i.toNat, ⟨0, rfl, by omega, Upd.refl _ _, by simp⟩, ?_⟩
    rintro i w1 ⟨k, rfl, hk, hu1, htk⟩
    refine ifB_mk (fun h => ?_) (fun h => ?_)
    · have hkn : k < n := by simpa using h
      have hu1' := hu1.then (Upd.drew _ _)
      obtain ⟨a, ha, hc⟩ := (hat.upd0 hu1').val (i := k) (by omega)
      obtain ⟨a', ha', hc'⟩ := (hat'.upd0 hu1').val (i := k) (by omega)
      refine ⟨a, ha, by omega, by omega, _, _, _, hc, a', ha', by omega, by omega, _, _, _, hc', ifB_mk (fun hne => ?_) (fun he => ?_)⟩
      · refine hK false _ ⟨fun h => (by cases h), fun e => ?_⟩ hu1'
        subst e
        simp [sEq_self] at hne
      · simp only [Bool.not_eq_false', Bool.and_eq_true, beq_iff_eq, sEq_iff, and_true] at he
        have hv : xs[k] = ys[k] := by
          obtain ⟨h1, h2, h3⟩ := he
          cases hx : xs[k]; cases hy : ys[k]
          rw [hx, hy] at h1 h2 h3
          simp only at h1 h2 h3
          rw [h1, h2, h3]
        rw [i64_wrap (by omega) (by omega)]
        refine ⟨⟨k + 1, by omega, by omega, hu1', ?_⟩, by show n - _ < n - _; omega⟩
        rw [List.take_succ_eq_append_getElem (by omega), List.take_succ_eq_append_getElem (by omega), htk, hv]
    · have hkn : k = n := by simp at h; omega
      rw [List.take_of_length_le (by omega), List.take_of_length_le (by omega)] at htk
      exact hK true w1 ⟨fun _ => htk, fun _ => rfl⟩ hu1)
theorem i64_byte (x : UInt8) : IntKind.i64.wrap (x.toNat : Int) = (x.toNat : Int) := by
  have := x.toNat_lt
  exact i64_wrap (by omega) (by omega)

theorem num_byte {u y : Nat} (hu : u < 72057594037927936) (hy : y < 256) : IntKind.u64.wrap (IntKind.u64.wrap ((256 : Int) * (u : Int)) + IntKind.u64.wrap (y : Int)) = ((u * 256 + y : Nat) : Int) := by
  simp [IntKind.wrap, IntKind.signed, IntKind.bits]
  omega
theorem num_down {u : Nat} (hu : u < 18446744073709551616) : IntKind.i64.wrap (IntKind.u64.wrap ((u : Int) - 9223372036854775808)) = (u : Int) - 9223372036854775808 := by
  simp [IntKind.wrap, IntKind.signed, IntKind.bits]
  omega

/-- What the document's answer tries first, of bytes. -/
structure Try (rest : List UInt8) (v : Val) : Prop where
  only : ∀ v' r, Val.good v' → rest = vkey v' ++ r → v' = v
  range : -9223372036854775808 ≤ v.n ∧ v.n ≤ 9223372036854775807
  size : v.s.size ≤ 100000

theorem cand2_length : ∀ r : List UInt8, (cand2 r).length ≤ r.length
  | [] => by simp [cand2]
  | [b] => by simp [cand2]
  | b :: c :: r => by
    rw [cand2]
    split
    · simp
    · split
      · have := cand2_length r
        simp; omega
      · have := cand2_length (c :: r)
        simp at this ⊢; omega

end
end Va
end Go.Proofs.Ytjcgociobhhijaa
