/- The document's answer for the codec: what it lays; whether rows are the same. -/
import Derived.Test.YtjcgociobhhijaaCE
set_option linter.unusedVariables false
set_option linter.unusedSimpArgs false
set_option maxRecDepth 100000
namespace Go.Proofs.Ytjcgociobhhijaa
open Go Go.Proofs.Ytjcgociobhhijaa.SX Va
namespace Cd
section
variable {w : World} {K : Value → World → Prop} {p q : Option Addr} {n c m d g : Nat}
theorem rnumber_spec {N : Nat} (hN : N < 18446744073709551616) (hK : ∀ w', Upd Nothing w w' → K (.string (tx (numT N))) w') : CallsV prog F.affluxref04_Number #[.int .u64 (N : Int)] w K :=
  R.affluxref04_Number (by
    unfold C.affluxref04_Number
    have h8 := bdig_len8 hN
    refine ⟨fun u s w' => ∃ (U : Nat) (done : List Nat), u = U ∧ bdig N = done ++ bdig U ∧ s = tx (done.reverse.map UInt8.ofNat) ∧ U ≤ N ∧ Upd Nothing w w', fun u _ _ => u.toNat, ⟨N, [], rfl, rfl, rfl, Nat.le_refl _, Upd.refl _ _⟩, ?_⟩
    rintro u s w1 ⟨U, done, rfl, hd, rfl, hUN, hu1⟩
    have hlen := congrArg List.length hd
    rw [List.length_append] at hlen
    refine ifB_mk (fun h => ?_) (fun h => ?_)
    · have hU : 0 < U := by have := of_decide_eq_true h; omega
      have e1 : Int.tmod (U : Int) 256 = ((U % 256 : Nat) : Int) := by rw [Int.tmod_eq_emod_of_nonneg (by omega)]; omega
      have e2 : IntKind.u64.wrap (Int.tdiv (U : Int) 256) = ((U / 256 : Nat) : Int) := by
        rw [Int.tdiv_eq_ediv_of_nonneg (by omega)]
        simp [IntKind.wrap, IntKind.signed, IntKind.bits]
        omega
      have e3 : IntKind.u8.wrap ((U % 256 : Nat) : Int) = ((UInt8.ofNat (U % 256)).toNat : Int) := by rw [u8_mod, Nat.mod_mod]
      rw [e1, e2, e3]
      refine ⟨by decide, New.use (by simp [Value.oneCell']) fun b w2 hb2 hu2 hge2 _ => to_text (l := [UInt8.ofNat (U % 256)]) (At.of_blk hb2 fun j v hj => by rw [Nat.zero_add]; exact hj) rfl ⟨_, rfl, ?_, by decide, ⟨U / 256, done ++ [U % 256], rfl, ?_, ?_, by omega, hu1.then hu2⟩, by show Int.toNat _ < Int.toNat _; omega⟩⟩
      · show (tx [UInt8.ofNat (U % 256)]).size + _ ≤ _
        rw [tx_size, tx_size]
        simp
        omega
      · rw [hd, bdig_pos hU, List.append_assoc]; rfl
      · show tx [UInt8.ofNat (U % 256)] ++ _ = _
        rw [tx_app, List.reverse_append]
        rfl
    · have hU : U = 0 := by have := of_decide_eq_false h; omega
      subst hU
      rw [bdig_zero, List.append_nil] at hd
      have e3 : IntKind.u8.wrap (((tx (done.reverse.map UInt8.ofNat)).size : Nat) : Int) = ((UInt8.ofNat (bdig N).length).toNat : Int) := by
        rw [tx_size, u8_mod, hd]
        simp
      rw [e3]
      refine New.use (by simp [Value.oneCell']) fun b w2 hb2 hu2 hge2 _ => to_text (l := [UInt8.ofNat (bdig N).length]) (At.of_blk hb2 fun j v hj => by rw [Nat.zero_add]; exact hj) rfl ⟨_, rfl, ?_, ?_⟩
      · show (tx [UInt8.ofNat (bdig N).length]).size + _ ≤ _
        rw [tx_size, tx_size]
        simp
        omega
      · have := hK w2 (hu1.then hu2)
        unfold numT nb at this
        show K (.string (tx [UInt8.ofNat (bdig N).length] ++ _)) w2
        rw [tx_app]
        rw [hd] at this ⊢
        exact this)

theorem rsize_spec {x : Int} (hx : x ≤ 9223372036854775807) (hK : ∀ w', Upd Nothing w w' → K (.string (tx (sizeT x))) w') : CallsV prog F.affluxref04_Size #[.int .i64 x] w K :=
  R.affluxref04_Size (by
    unfold C.affluxref04_Size
    unfold sizeT at hK
    refine ifB_mk (fun h => ?_) (fun h => ?_)
    · have h0 := of_decide_eq_true h
      rw [if_pos h0] at hK
      exact rnumber_spec (N := 0) (by decide) fun w1 hu1 => ⟨_, rfl, hK w1 hu1⟩
    · have h0 := of_decide_eq_false h
      rw [if_neg h0] at hK
      have e : IntKind.u64.wrap x = ((x.toNat : Nat) : Int) := by
        simp [IntKind.wrap, IntKind.signed, IntKind.bits]
        omega
      rw [e]
      exact rnumber_spec (by omega) fun w1 hu1 => ⟨_, rfl, hK w1 hu1⟩)

theorem rsigned_spec {x : Int} (hx : -9223372036854775808 ≤ x ∧ x ≤ 9223372036854775807) (hK : ∀ w', Upd Nothing w w' → K (.string (tx (signedT x))) w') : CallsV prog F.affluxref04_Signed #[.int .i64 x] w K :=
  R.affluxref04_Signed (by
    obtain ⟨h1, h2⟩ := hx
    unfold C.affluxref04_Signed
    unfold signedT zig at hK
    refine ifB_mk (fun h => ?_) (fun h => ?_)
    · have h0 := of_decide_eq_true h
      rw [if_pos h0] at hK
      have e : IntKind.u64.wrap ((IntKind.u64.wrap ((2 : Int) * (IntKind.u64.wrap (IntKind.i64.wrap (0 - (IntKind.i64.wrap (x + (1 : Int)))))))) + (1 : Int)) = (((2 * (-(x + 1)) + 1).toNat : Nat) : Int) := by
        simp [IntKind.wrap, IntKind.signed, IntKind.bits]
        omega
      rw [e]
      exact rnumber_spec (by omega) fun w1 hu1 => ⟨_, rfl, hK w1 hu1⟩
    · have h0 := of_decide_eq_false h
      rw [if_neg h0] at hK
      have e : IntKind.u64.wrap ((2 : Int) * (IntKind.u64.wrap x)) = (((2 * x).toNat : Nat) : Int) := by
        simp [IntKind.wrap, IntKind.signed, IntKind.bits]
        omega
      rw [e]
      exact rnumber_spec (by omega) fun w1 hu1 => ⟨_, rfl, hK w1 hu1⟩)

theorem rtext_spec {s : ByteArray} (hs : s.size ≤ 1000000) (hK : ∀ w', Upd Nothing w w' → K (.string (tx (textT s.data.toList))) w') : CallsV prog F.affluxref04_Text #[.string s] w K :=
  R.affluxref04_Text (by
    unfold C.affluxref04_Text
    have h1 := sizeT_len (n := ((s.size : Nat) : Int)) (by omega)
    refine rsize_spec (by omega) fun w1 hu1 => ⟨_, rfl, ?_, ?_⟩
    · rw [tx_size]; omega
    · have := hK w1 hu1
      unfold textT at this
      rw [← tx_app, tx_self] at this
      exact this)

theorem rvalue_spec {v : Val} (hv : Va.Val.wf v) (hK : ∀ w', Upd Nothing w w' → K (.string (tx (valT v))) w') : CallsV prog F.affluxref04_Value #[v.val] w K :=
  R.affluxref04_Value (by
    unfold C.affluxref04_Value
    refine New.use (val_one v) fun g w1 hb1 hu1 hge1 _ => ⟨_, _, _, cells_cells (v := v) hb1, ?_⟩
    show CallsV prog F.affluxref02_Right #[v.val] w1 _
    refine rright_spec fun w2 hu2 => ⟨_, rfl, ifB_mk (fun h => ?_) (fun h => ?_)⟩
    · have hr : ¬ v.right = true := by simpa using h
      have h1 := signedT_len (n := 0) (by omega)
      refine rsigned_spec (by omega) fun w3 hu3 => ⟨_, rfl, ?_, ?_⟩
      · rw [tx_bs, tx_size, tx_size]; simp; omega
      · have := hK w3 ((hu1.then hu2).then hu3)
        unfold valT at this
        rw [if_neg hr] at this
        rw [tx_bs, tx_app]
        exact this
    have hr : v.right = true := by simpa using h
    have hb2 := hu2.blk hb1 fun f => f
    have hk' : ∀ w', Upd Nothing w2 w' → K (.string (tx (valT v))) w' := fun w' hu => hK w' ((hu1.then hu2).then hu)
    unfold valT at hk'
    rw [if_pos hr] at hk'
    refine ⟨_, hb2.cell (i := 0) rfl, ifB_mk (fun h1 => ?_) (fun h1 => ifB_mk (fun h2 => ?_) (fun h2 => ?_))⟩
    · rw [if_pos (beq_iff_eq.1 h1)] at hk'
      have h3 := signedT_len hv.2.1
      refine ⟨_, hb2.cell (i := 1) rfl, rsigned_spec hv.2.1 fun w3 hu3 => ⟨_, rfl, ?_, ?_⟩⟩
      · rw [tx_bs, tx_size, tx_size]; simp; omega
      · rw [tx_bs, tx_app]
        exact hk' w3 hu3
    · rw [if_neg (by simpa using h1), if_pos (beq_iff_eq.1 h2)] at hk'
      have hsz := right_size hr
      have h3 : (textT v.s.data.toList).length ≤ 209 := by
        unfold textT
        have h4 := sizeT_len (n := (v.s.data.toList.length : Int)) (by have : v.s.data.toList.length = v.s.size := rfl; omega)
        have : v.s.data.toList.length = v.s.size := rfl
        rw [List.length_append]
        omega
      refine ⟨_, hb2.cell (i := 2) rfl, rtext_spec (by omega) fun w3 hu3 => ⟨_, rfl, ?_, ?_⟩⟩
      · rw [tx_bs, tx_size, tx_size]; simp; omega
      · rw [tx_bs, tx_app]
        exact hk' w3 hu3
    · rw [if_neg (by simpa using h1), if_neg (by simpa using h2)] at hk'
      refine ⟨_, hb2.cell (i := 1) rfl, ?_⟩
      rw [lowByte_wrap]
      refine New.use (by simp [Value.oneCell']) fun b w3 hb3 hu3 hge3 _ => to_text (l := [3, lowByte v.n]) (At.of_blk hb3 fun j x hj => by rw [Nat.zero_add]; exact hj) rfl ⟨_, rfl, hk' w3 hu3⟩)

theorem rrow_spec {xs : List Val} (hat : At w p (vals xs)) (hn : xs.length = n) (hn' : n ≤ 1000000) (hx : ∀ x ∈ xs, Va.Val.wf x) (hK : ∀ w', Upd Nothing w w' → K (.string (tx (rowT xs))) w') : CallsV prog F.affluxref04_Row #[.slice p n c] w K :=
  R.affluxref04_Row (by
    unfold C.affluxref04_Row
    have hst := sizeT_len (n := (n : Int)) (by omega)
    refine rsize_spec (by omega) fun w1 hu1 => ⟨_, rfl, ?_⟩
    refine ⟨fun s i w' => ∃ k : Nat, i = k ∧ k ≤ n ∧ s = tx (sizeT (n : Int) ++ (xs.take k).flatMap valT) ∧ Upd Nothing w w', fun _ i _ => n - i.toNat, ⟨0, rfl, by omega, by simp, hu1⟩, ?_⟩
    rintro s i w2 ⟨k, rfl, hk, rfl, hu2⟩
    refine ifB_mk (fun h => ?_) (fun h => ?_)
    · have hkn : k < n := by have := of_decide_eq_true h; omega
      have hkx : k < xs.length := by omega
      obtain ⟨a, ha, hcl⟩ := (hat.upd0 hu2).val hkx
      refine ⟨a, ha, by omega, by omega, _, _, _, hcl, ?_⟩
      show CallsV prog F.affluxref04_Value #[(xs[k]).val] w2 _
      have h1 := valT_len (hx _ (List.getElem_mem hkx)).2.1
      have hlen : ((xs.take k).flatMap valT).length ≤ 300 * k := by
        have := flat_len (f := valT) (B := 300) (l := xs.take k) fun x hx' => valT_len (hx x (List.mem_of_mem_take hx')).2.1
        rw [List.length_take, Nat.min_eq_left (by omega)] at this
        exact this
      refine rvalue_spec (hx _ (List.getElem_mem hkx)) fun w3 hu3 => ⟨_, rfl, ?_, ?_⟩
      · rw [tx_size, tx_size, List.length_append]; omega
      · rw [i64_wrap (by omega) (by omega)]
        refine ⟨⟨k + 1, by omega, by omega, ?_, hu2.then hu3⟩, by show n - _ < n - _; omega⟩
        rw [tx_app, List.take_succ_eq_append_getElem hkx, List.flatMap_append, List.append_assoc]
        simp
    · have hkn : k = n := by have := of_decide_eq_false h; omega
      rw [List.take_of_length_le (by omega)]
      have := hK w2 hu2
      unfold rowT at this
      rw [hn] at this
      exact this)

theorem rrows_lay {ls : List (List Val)} (hat : Rws w p ls) (hn : ls.length = n) (hn' : n ≤ 10000) (hB : ∀ r ∈ ls, r.length ≤ 40) (hx : ∀ r ∈ ls, ∀ x ∈ r, Va.Val.wf x) (hK : ∀ w', Upd Nothing w w' → K (.string (tx (rowsT ls))) w') : CallsV prog F.affluxref04_Rows #[.slice p n c] w K :=
  R.affluxref04_Rows (by
    unfold C.affluxref04_Rows
    have hst := sizeT_len (n := (n : Int)) (by omega)
    have hrl : ∀ r ∈ ls, (rowT r).length ≤ 12100 := fun r hr => by
      have := rowT_len (r := r) (by have := hB r hr; omega) fun v hv => (hx r hr v hv).2.1
      have := hB r hr
      omega
    refine rsize_spec (by omega) fun w1 hu1 => ⟨_, rfl, ?_⟩
    refine ⟨fun s i w' => ∃ k : Nat, i = k ∧ k ≤ n ∧ s = tx (sizeT (n : Int) ++ (ls.take k).flatMap rowT) ∧ Upd Nothing w w', fun _ i _ => n - i.toNat, ⟨0, rfl, by omega, by simp, hu1⟩, ?_⟩
    rintro s i w2 ⟨k, rfl, hk, rfl, hu2⟩
    refine ifB_mk (fun h => ?_) (fun h => ?_)
    · have hkn : k < n := by have := of_decide_eq_true h; omega
      have hkx : k < ls.length := by omega
      obtain ⟨a, q, m, d, ha, hc, hrow, hl2, hd2⟩ := (hat.upd0 hu2) k hkx
      have hmem := List.getElem_mem hkx
      have h40 := hB _ hmem
      have hrk := hrl _ hmem
      have hlen : ((ls.take k).flatMap rowT).length ≤ 12100 * k := by
        have := flat_len (f := rowT) (B := 12100) (l := ls.take k) fun x hx' => hrl x (List.mem_of_mem_take hx')
        rw [List.length_take, Nat.min_eq_left (by omega)] at this
        exact this
      refine ⟨a, ha, by omega, by omega, _, _, _, by simpa using hc, rrow_spec hrow hl2 (by omega) (hx _ hmem) fun w3 hu3 => ⟨_, rfl, ?_, ?_⟩⟩
      · rw [tx_size, tx_size, List.length_append]; omega
      · rw [i64_wrap (by omega) (by omega)]
        refine ⟨⟨k + 1, by omega, by omega, ?_, hu2.then hu3⟩, by show n - _ < n - _; omega⟩
        rw [tx_app, List.take_succ_eq_append_getElem hkx, List.flatMap_append, List.append_assoc]
        simp
    · have hkn : k = n := by have := of_decide_eq_false h; omega
      rw [List.take_of_length_le (by omega)]
      have := hK w2 hu2
      unfold rowsT at this
      rw [hn] at this
      exact this)

/-- Whether two lists of rows are the same. -/
theorem rsame4_spec {xs ys : List (List Val)} (ha : Rws w p xs) (hl : xs.length = n) (hb : Rws w q ys) (hl' : ys.length = m) (hn : n ≤ 1000000) (hB : ∀ r ∈ xs, r.length ≤ 9223372036854775806) (hK : ∀ (b : Bool) w', (b = true ↔ xs = ys) → Upd Nothing w w' → K (.bool b) w') :
    CallsV prog F.affluxref04_Same #[.slice p n c, .slice q m d] w K :=
  R.affluxref04_Same (by
    unfold C.affluxref04_Same
    refine ifB_mk (fun h => hK _ _ ⟨fun h => (by cases h), fun e => ?_⟩ (Upd.refl _ _)) (fun h => ?_)
    · subst e; simp at h; omega
    have hnm : n = m := by simp at h; omega
    subst hnm
    refine ⟨fun i w' => ∃ k : Nat, i = k ∧ k ≤ n ∧ Upd Nothing w w' ∧ xs.take k = ys.take k, fun i _ => n - i.toNat, ⟨0, rfl, by omega, Upd.refl _ _, by simp⟩, ?_⟩
    rintro i w1 ⟨k, rfl, hk, hu1, htk⟩
    refine ifB_mk (fun h4 => ?_) (fun h4 => ?_)
    · have hkn : k < n := by have := of_decide_eq_true h4; omega
      have hu1' := hu1.then (Upd.drew _ _)
      obtain ⟨a1, q1, m1, d1, ha1, hc1, hat1, hl1, hd1⟩ := (ha.upd0 hu1') k (by omega)
      obtain ⟨a2, q2, m2, d2, ha2, hc2, hat2, hl2, hd2⟩ := (hb.upd0 hu1') k (by omega)
      have hBk := hB _ (List.getElem_mem (show k < xs.length by omega))
      refine ⟨a1, ha1, by omega, by omega, _, _, _, by simpa using hc1, a2, ha2, by omega, by omega, _, _, _, by simpa using hc2, same_rows hat1 hl1 (by omega) hat2 hl2 fun b w2 hb hu2 => ⟨b, rfl, ifB_mk (fun h => hK _ _ ⟨fun h => (by cases h), fun e => ?_⟩ (hu1'.then hu2)) (fun h => ?_)⟩⟩
      · subst e
        rw [hb.2 rfl] at h
        cases h
      · have he := hb.1 (by simpa using h)
        exact scan_next (Q := fun k => xs.take k = ys.take k) hkn (by omega) (hu1'.then hu2) (by rw [List.take_succ_eq_append_getElem (by omega), List.take_succ_eq_append_getElem (by omega), htk, he])
    · have hkn : k = n := by have := of_decide_eq_false h4; omega
      rw [List.take_of_length_le (by omega), List.take_of_length_le (by omega)] at htk
      exact hK _ _ ⟨fun _ => htk, fun _ => rfl⟩ hu1)
end
end Cd
end Go.Proofs.Ytjcgociobhhijaa
