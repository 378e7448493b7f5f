/- The functions of package value, and of the document's answer for it, that lay keys: what each does. -/
import Derived.Test.YtjcgociobhhijaaDoorVA
import Derived.Test.YtjcgociobhhijaaDoorVK
import Derived.Test.YtjcgociobhhijaaDoorShelf
set_option linter.unusedVariables false
set_option linter.unusedSimpArgs false
set_option maxRecDepth 100000
namespace Go.Proofs.YtjcgociobhhijaaDoor
open Go Go.Proofs.YtjcgociobhhijaaDoor.SX
namespace Va

/-- The library's own number of bytes, whatever it is. -/
def MX (w : World) : Prop := ∃ m, w.cell? ⟨0, 0, none⟩ = some (.int .i64 m)
theorem MX.upd {F : Nat → Prop} {w w' : World} (h : MX w) (hu : Upd F w w') (hn : ¬ F 0) : MX w' := ⟨_, hu.cell h.choose_spec hn⟩
theorem MX.upd0 {w w' : World} (h : MX w) (hu : Upd Nothing w w') : MX w' := h.upd hu fun f => f
theorem MX.lt {w : World} (h : MX w) : 0 < w.heap.size := World.block_lt_of_cell? w ⟨0, 0, none⟩ h.choose_spec

theorem su8 : SliceT prog T.s_uint8 T.uint8 1 1 [.int .u8 0] := SliceT.of_tab (ti := ti92) (te := ti5) tabOK (by kernel_rfl) (by kernel_rfl) (by kernel_rfl) (by kernel_rfl)
theorem und_u8 : prog.underlying T.uint8 = some (.int .u8) := Tryd.underlying5
theorem und_str : prog.underlying T.string = some .string := Tryd.underlying9

section
variable {w : World} {K : Value → World → Prop} {p q : Option Addr} {n c m d : Nat} {xs ys : List Val} {a b v : Val} {l : List UInt8}

theorem to_text (hat : At w p (bytesV l)) (hl : l.length = n) (hK : K (.string ⟨l.toArray⟩) w) : ConvV prog T.s_uint8 T.string (.slice p n c) w K := conv_bytes su8.desc und_u8 und_str hat hl hK

/-- One byte more. -/
theorem app1 {x : Int} {y : UInt8} (hx : x = (y.toNat : Int)) (ho : Own w T.uint8 1 p n c (bytesV l)) (hsz : n + 1 ≤ 1099511627776)
    (hK : ∀ p' c' w', Own w' T.uint8 1 p' (n + 1) c' (bytesV (l ++ [y])) → Upd (Fp p c) w w' → (∀ k, Fp p' c' k → Fp p c k ∨ w.heap.size ≤ k) → K (.slice p' (n + 1) c') w') :
    ∀ g w1, New w (.cells #[.int .u8 x] T.uint8) g w1 → BuiltV prog .append #[T.s_uint8, T.s_uint8] T.s_uint8 #[.slice p n c, .slice (some (Addr.mk g 0 none)) 1 1] w1 K := by
  subst hx
  refine New.use (by simp [Value.oneCell']) fun g w1 hb hu hge _ => ?_
  refine append_own (m := 1) su8 (.inl su8.desc) (ho.upd0 hu) (Src.slice (m := 1) (ys := [.int .u8 (y.toNat : Int)]) (At.of_blk hb fun j v hj => by rw [Nat.zero_add]; exact hj) rfl (by simp [Value.oneCell'])) (by decide) (by decide) (by omega) fun p' c' w' ho' hu' hf' => ?_
  refine hK p' c' w' (by rw [bytesV_append]; exact ho') (hu.trans hu' (fun _ _ h => h.elim) (fun _ _ h => h)) fun k hk => ?_
  rcases hf' k hk with h | h
  · exact .inl h
  · exact .inr (Nat.le_trans hu.size h)

/-- A text more. -/
theorem app_text {s : ByteArray} (ho : Own w T.uint8 1 p n c (bytesV l)) (hsz : n + s.size ≤ 1099511627776)
    (hK : ∀ p' c' w', Own w' T.uint8 1 p' (n + s.size) c' (bytesV (l ++ s.data.toList)) → Upd (Fp p c) w w' → (∀ k, Fp p' c' k → Fp p c k ∨ w.heap.size ≤ k) → K (.slice p' (n + s.size) c') w') :
    BuiltV prog .append #[T.s_uint8, T.string] T.s_uint8 #[.slice p n c, .string s] w K := by
  refine append_own su8 (.inr und_str) ho (Src.str s) (by decide) (by decide) (by omega) fun p' c' w' ho' hu' hf' => ?_
  exact hK p' c' w' (by rw [bytesV_append]; exact ho') hu' hf'

theorem replace_spec {s old new : ByteArray} (hM : MX w) (hs : s.size < 4294967281) (h1 : 1 ≤ old.size) (hlen : s.size + Lib.countB s old * new.size ≤ 140737488355328)
    (hK : ∀ w', Upd Nothing w w' → K (.string ⟨(Lib.replaceAll s.data.toList old.data.toList new.data.toList).toArray⟩) w') : CallsV prog F.strings_ReplaceAll #[.string s, .string old, .string new] w K :=
  CallsV.of_body Tryd.func71 (by kernel_rfl) (by kernel_rfl) (Calls.mono (Tryd.strings_ReplaceAll s old new hM.choose w hs hM.choose_spec h1 hlen) fun e w' ⟨he, hb⟩ => ⟨_, he, hK w' ⟨hb.os, hb.tape, hb.output, hb.size, fun k hk _ => hb.block k hk⟩⟩)

theorem replace_one {s new : ByteArray} {ch : UInt8} (hM : MX w) (hs : s.size ≤ 1000000) (hnew : new.size ≤ 1000)
    (hK : ∀ w', Upd Nothing w w' → K (.string ⟨(repl ch new.data.toList s.data.toList).toArray⟩) w') : CallsV prog F.strings_ReplaceAll #[.string s, .string (bs [ch]), .string new] w K := by
  refine replace_spec hM (by omega) (by show 1 ≤ 1; omega) ?_ fun w' hu => ?_
  · have h1 : Lib.countB s (bs [ch]) ≤ s.size := countB_one ch s
    have h2 : Lib.countB s (bs [ch]) * new.size ≤ 1000000 * 1000 := Nat.mul_le_mul (by omega) hnew
    omega
  · have := hK w' hu
    rw [show (bs [ch]).data.toList = [ch] from rfl, replaceAll_one]
    exact this

/-! ### put -/
theorem put_spec (hM : MX w) (hm : ¬ Fp p c 0) (hsz : v.s.size ≤ 1000000) (ho : Own w T.uint8 1 p n c (bytesV l)) (hn : n ≤ 1000000000)
    (hK : ∀ p' n' c' w', Own w' T.uint8 1 p' n' c' (bytesV (l ++ vkey v)) → Upd (Fp p c) w w' → (∀ k, Fp p' c' k → Fp p c k ∨ w.heap.size ≤ k) → K (.slice p' n' c') w') :
    CallsV prog F.value_put #[.slice p n c, v.val] w K :=
  R.value_put (by
    unfold C.value_put
    refine New.use (val_one v) fun g w1 hb1 hu1 hge1 hlt1 => ⟨v.k, hb1.cell (i := 0) rfl, ?_⟩
    refine app1 (lowByte_wrap _) (ho.upd0 hu1) (by omega) fun p2 c2 w2 ho2 hu2 hf2 => ⟨p2, _, c2, rfl, ?_⟩
    have hgp : ¬ Fp p c g := fun h => by have := ho.lt h; omega
    have hgp2 : ¬ Fp p2 c2 g := fun h => by
      rcases hf2 g h with h | h
      · exact hgp h
      · omega
    have hb2 := hu2.blk hb1 hgp
    have hup2 : Upd (Fp p c) w w2 := hu1.trans hu2 (fun _ _ h => h.elim) (fun _ _ h => h)
    have hf2' : ∀ k, Fp p2 c2 k → Fp p c k ∨ w.heap.size ≤ k := fun k hk => by
      rcases hf2 k hk with h | h
      · exact .inl h
      · exact .inr (Nat.le_trans hu1.size h)
    have hfin : ∀ p' n' c' w', Own w' T.uint8 1 p' n' c' (bytesV (l ++ [lowByte v.k] ++ vrest v)) → Upd (Fp p2 c2) w2 w' → (∀ k, Fp p' c' k → Fp p2 c2 k ∨ w2.heap.size ≤ k) → K (.slice p' n' c') w' := by
      intro p' n' c' w' ho' hu' hf'
      refine hK p' n' c' w' (by rw [show l ++ vkey v = l ++ [lowByte v.k] ++ vrest v by simp [vkey]]; exact ho') (hup2.trans hu' (fun _ _ h => h) (fun i hi h => ?_)) (fun k hk => ?_)
      · rcases hf2' i h with h | h
        · exact h
        · omega
      · rcases hf' k hk with h | h
        · exact hf2' k h
        · exact .inr (Nat.le_trans hup2.size h)
    have hnl : n = l.length := by have := ho.len; simp at this; omega
    refine ⟨v.k, hb2.cell (i := 0) rfl, ifB_mk (fun h => ?_) (fun h => ifB_mk (fun h2 => ?_) (fun h2 => ifB_mk (fun h3 => ?_) (fun h3 => ?_)))⟩
    · have hk : v.k = 1 := by simpa using h
      have hr : vrest v = be8 v.n := by unfold vrest; rw [if_pos hk]
      rw [hr] at hfin
      refine ⟨v.n, hb2.cell (i := 1) rfl, ?_⟩
      refine ⟨fun bp bn bc i w' => ∃ j : Nat, i = 56 - 8 * (j : Int) ∧ j ≤ 8 ∧ bn = n + 1 + j ∧ Own w' T.uint8 1 bp bn bc (bytesV (l ++ [lowByte v.k] ++ (be8 v.n).take j)) ∧ Upd (Fp p2 c2) w2 w' ∧ (∀ k, Fp bp bc k → Fp p2 c2 k ∨ w2.heap.size ≤ k), fun _ _ _ i _ => (i + 8).toNat,
        ⟨0, by omega, by omega, rfl, by simpa using ho2, Upd.refl _ _, fun k hk => .inl hk⟩, ?_⟩
      rintro bp bn bc i w3 ⟨j, rfl, hj, rfl, ho3, hu3, hf3⟩
      refine ifB_mk (fun h => ?_) (fun h => ?_)
      · have hj7 : j ≤ 7 := by simp at h; omega
        refine ⟨by omega, ?_⟩
        have hx := lay_byte v.n (i := 56 - 8 * j) (by omega)
        have ei : (56 - 8 * (j : Int)).toNat = 56 - 8 * j := by omega
        rw [ei]
        refine app1 hx ho3 (by omega) fun p4 c4 w4 ho4 hu4 hf4 => ⟨p4, _, c4, rfl, ?_⟩
        rw [i64_wrap (by omega) (by omega)]
        refine ⟨⟨j + 1, by omega, by omega, by omega, ?_, hu3.trans hu4 (fun _ _ h => h) (fun i hi h => ?_), fun k hk => ?_⟩, by show Int.toNat _ < Int.toNat _; omega⟩
        · have e : (be8 v.n).take (j + 1) = (be8 v.n).take j ++ [UInt8.ofNat (up v.n / 2 ^ (56 - 8 * j) % 256)] := by
            rw [List.take_succ_eq_append_getElem (by rw [be8_length]; omega)]
            congr 2
            obtain rfl | rfl | rfl | rfl | rfl | rfl | rfl | rfl : j = 0 ∨ j = 1 ∨ j = 2 ∨ j = 3 ∨ j = 4 ∨ j = 5 ∨ j = 6 ∨ j = 7 := by omega
            all_goals rfl
          rw [e, ← List.append_assoc]
          exact ho4
        · rcases hf3 i h with h | h
          · exact h
          · omega
        · rcases hf4 k hk with h | h
          · exact hf3 k h
          · exact .inr (Nat.le_trans hu3.size h)
      · have hj8 : j = 8 := by simp at h; omega
        subst hj8
        rw [List.take_of_length_le (by rw [be8_length]; omega)] at ho3
        exact hfin bp _ bc w3 ho3 hu3 hf3
    · have hk : v.k = 2 := by simpa using h2
      have hr : vrest v = repl 0 [0, 255] v.s.data.toList ++ [0, 1] := by unfold vrest; rw [if_neg (by omega), if_pos hk]
      rw [hr] at hfin
      have hM2 : MX w2 := hM.upd hup2 hm
      refine ⟨v.s, hb2.cell (i := 2) rfl, replace_one hM2 hsz (by show 2 ≤ 1000; omega) fun w3 hu3 => ⟨_, rfl, ?_⟩⟩
      have hrl : (repl 0 [0, 255] v.s.data.toList).length ≤ 2 * v.s.size := repl_length 0 [0, 255] v.s.data.toList rfl
      have hrs : (⟨(repl 0 [0, 255] v.s.data.toList).toArray⟩ : ByteArray).size = (repl 0 [0, 255] v.s.data.toList).length := by show (repl 0 [0, 255] v.s.data.toList).toArray.size = _; simp
      refine app_text (ho2.upd0 hu3) (by show _ + (⟨(repl 0 [0, 255] v.s.data.toList).toArray⟩ : ByteArray).size ≤ _; rw [hrs]; omega) fun p4 c4 w4 ho4 hu4 hf4 => ⟨p4, _, c4, rfl, ?_⟩
      refine app_text ho4 (by show _ + (⟨(repl 0 [0, 255] v.s.data.toList).toArray⟩ : ByteArray).size + 2 ≤ _; rw [hrs]; omega) fun p5 c5 w5 ho5 hu5 hf5 => ⟨p5, _, c5, rfl, ?_⟩
      refine hfin p5 _ c5 w5 ?_ ((hu3.trans hu4 (fun _ _ h => h.elim) (fun _ _ h => h)).trans hu5 (fun _ _ h => h) (fun i hi h => ?_)) (fun k hk => ?_)
      · rw [← List.append_assoc]
        exact ho5
      · rcases hf4 i h with h | h
        · exact h
        · have := hu3.size; omega
      · rcases hf5 k hk with h | h
        · rcases hf4 k h with h | h
          · exact .inl h
          · exact .inr (Nat.le_trans hu3.size h)
        · exact .inr (Nat.le_trans (Nat.le_trans hu3.size hu4.size) h)
    · have hk : v.k = 3 := by simpa using h3
      have hr : vrest v = [lowByte v.n] := by unfold vrest; rw [if_neg (by omega), if_neg (by omega), if_pos hk]
      rw [hr] at hfin
      refine ⟨v.n, hb2.cell (i := 1) rfl, app1 (lowByte_wrap _) ho2 (by omega) fun p4 c4 w4 ho4 hu4 hf4 => ⟨p4, _, c4, rfl, hfin p4 _ c4 w4 ho4 hu4 hf4⟩⟩
    · have e1 : v.k ≠ 1 := by simpa using h
      have e2 : v.k ≠ 2 := by simpa using h2
      have e3 : v.k ≠ 3 := by simpa using h3
      have hr : vrest v = [] := by unfold vrest; rw [if_neg e1, if_neg e2, if_neg e3]
      rw [hr, List.append_nil] at hfin
      exact hfin p2 _ c2 w2 ho2 (Upd.refl _ _) (fun k hk => .inl hk))
/-! ### keys -/
def tx (l : List UInt8) : ByteArray := ⟨l.toArray⟩
theorem tx_app (a b : List UInt8) : tx a ++ tx b = tx (a ++ b) := by
  refine ba_ext ?_
  simp [tx]
theorem tx_size (l : List UInt8) : (tx l).size = l.length := by simp [tx, ByteArray.size]
theorem tx_bs (l : List UInt8) : bs l = tx l := rfl
theorem tx_self (s : ByteArray) : tx s.data.toList = s := by refine ba_ext ?_; simp [tx]

theorem right_size {v : Val} (h : v.right = true) : v.s.size ≤ 200 := by
  unfold Val.right at h
  simp only [Bool.or_eq_true, Bool.and_eq_true, sEq_iff, decide_eq_true_eq] at h
  rcases h with (⟨_, h⟩ | ⟨_, _, h⟩) | ⟨_, _, h⟩
  · rw [h]; show 0 ≤ 200; omega
  · omega
  · rw [h]; show 0 ≤ 200; omega

def keyText (xs : List Val) : ByteArray := tx (if xs.all Val.right = true then vkeys xs else [])

theorem key_spec (hM : MX w) (hat : At w p (vals xs)) (hl : xs.length = n) (hn : n ≤ 1000) (hK : ∀ w', Upd Nothing w w' → K (.string (keyText xs)) w') : CallsV prog F.value_Key #[.slice p n c] w K :=
  R.value_Key (by
    unfold C.value_Key
    refine right_spec hat hl (by omega) fun w1 hu1 => ⟨_, rfl, ifB_mk (fun h => ?_) (fun h => ?_)⟩
    · have := hK w1 hu1
      unfold keyText at this
      rw [if_neg (by simpa using h)] at this
      exact this
    have hall : xs.all Val.right = true := by simpa using h
    have hsz : ∀ x ∈ xs, x.s.size ≤ 200 := fun x hx => right_size (List.all_eq_true.1 hall x hx)
    refine ⟨fun bp bn bc i w' => ∃ k : Nat, i = k ∧ k ≤ n ∧ Own w' T.uint8 1 bp bn bc (bytesV (vkeys (xs.take k))) ∧ Upd Nothing w w' ∧ (∀ j, Fp bp bc j → w.heap.size ≤ j), fun _ _ _ i _ => n - i.toNat, ⟨0, rfl, by omega, Own.nil _ _ _, hu1, fun j hj => by have := hj.1; omega⟩, ?_⟩
    rintro bp bn bc i w2 ⟨k, rfl, hk, ho2, hu2, hf2⟩
    have hbn : bn = (vkeys (xs.take k)).length := by have := ho2.len; simp at this; omega
    refine ifB_mk (fun h => ?_) (fun h => ?_)
    · have hkn : k < n := by simpa using h
      have hlen := vkeys_length (B := 200) (xs.take k) fun x hx => hsz x (List.mem_of_mem_take hx)
      have hlt : (xs.take k).length ≤ 1000 := by rw [List.length_take]; omega
      have hlen' : (vkeys (xs.take k)).length ≤ 1000 * 409 := Nat.le_trans hlen (Nat.mul_le_mul_right _ hlt)
      obtain ⟨a, ha, hc⟩ := (hat.upd0 hu2).val (i := k) (by omega)
      refine ⟨a, ha, by omega, by omega, _, _, _, hc, ?_⟩
      refine New.use (by simp [Value.oneCell']) fun g w3 hb3 hu3 hge3 _ => ?_
      refine hb3.store (i := 0) (by simp) rfl fun w4 hb4 hu4 _ => hb4.store (i := 1) (by simp) rfl fun w5 hb5 hu5 _ => hb5.store (i := 2) (by simp) rfl fun w6 hb6 hu6 _ => ?_
      have hg : ∀ i, One g i → w2.heap.size ≤ i := fun i hi => by rw [show i = g from hi]; exact hge3
      have hu26 : Upd Nothing w2 w6 := ((hu3.fresh hu4 hg).fresh hu5 hg).fresh hu6 hg
      refine ⟨_, _, _, cells_cells (v := xs[k]) hb6, ?_⟩
      show CallsV prog F.value_put #[.slice bp bn bc, xs[k].val] w6 _
      refine put_spec ((hM.upd0 hu2).upd0 hu26) (fun hj => by have := hf2 _ hj; have := hM.lt; omega) (by have := hsz xs[k] (List.getElem_mem _); omega) (ho2.upd0 hu26) (by omega) fun p' n' c' w7 ho7 hu7 hf7 => ⟨p', n', c', rfl, ?_⟩
      rw [i64_wrap (by omega) (by omega)]
      refine ⟨⟨k + 1, by omega, by omega, by rw [vkeys_take (by omega)]; exact ho7, (hu2.then hu26).fresh hu7 hf2, fun j hj => ?_⟩, by show n - _ < n - _; omega⟩
      rcases hf7 j hj with h | h
      · exact hf2 j h
      · exact Nat.le_trans (hu2.then hu26).size h
    · have hkn : k = n := by simp at h; omega
      rw [List.take_of_length_le (by omega)] at ho2 hbn
      refine to_text ho2.at hbn.symm ⟨_, rfl, ?_⟩
      have := hK w2 hu2
      unfold keyText at this
      rw [if_pos hall] at this
      exact this)

/-- The document's key of a value of a kind that there is. -/
theorem rkey_spec (hsz : v.s.size ≤ 1000000) (hk : v.k = 1 ∨ v.k = 2 ∨ v.k = 3) (hK : ∀ w', Upd Nothing w w' → K (.string (tx (vkey v))) w') : CallsV prog F.affluxref02_Key #[v.val] w K :=
  R.affluxref02_Key (by
    unfold C.affluxref02_Key
    refine New.use (val_one v) fun g w1 hb1 hu1 hge1 hlt1 => ⟨v.k, hb1.cell (i := 0) rfl, ifB_mk (fun h => ?_) (fun h => ifB_mk (fun h2 => ?_) (fun h2 => ?_))⟩
    · have hk1 : v.k = 1 := by simpa using h
      refine ⟨v.n, hb1.cell (i := 1) rfl, ?_⟩
      refine ⟨fun u s i w' => ∃ j : Nat, i = j ∧ j ≤ 8 ∧ u = ((up v.n / 256 ^ j : Nat) : Int) ∧ s = tx (beN (up v.n) j) ∧ Upd Nothing w w', fun _ _ i _ => 8 - i.toNat, ⟨0, rfl, by omega, ?_, rfl, hu1⟩, ?_⟩
      · simp [IntKind.wrap, IntKind.signed, IntKind.bits, up]
        omega
      · rintro u s i w2 ⟨j, rfl, hj, rfl, rfl, hu2⟩
        have hbl : ∀ j, (beN (up v.n) j).length = j := by
          intro j
          induction j with
          | zero => rfl
          | succ j ih => show (beN (up v.n) j).length + 1 = _; rw [ih]
        refine ifB_mk (fun h => ?_) (fun h => ?_)
        · have hj8 : j < 8 := by simp at h; omega
          refine ⟨by omega, New.use (by simp [Value.oneCell']) fun g2 w3 hb3 hu3 _ _ => ?_⟩
          have hb' : IntKind.u8.wrap (Int.tmod ((up v.n / 256 ^ j : Nat) : Int) 256) = ((UInt8.ofNat (up v.n / 256 ^ j % 256)).toNat : Int) := by
            rw [Int.tmod_eq_emod_of_nonneg (Int.natCast_nonneg _), lowByte_wrap]
            unfold lowByte
            generalize up v.n / 256 ^ j = z
            congr 2
            rw [show (((z : Nat) : Int) % 256 % 256).toNat = z % 256 by omega]
          rw [hb'] at hb3
          refine to_text (l := [UInt8.ofNat (up v.n / 256 ^ j % 256)]) (At.of_blk hb3 fun i v hi => by rw [Nat.zero_add]; exact hi) rfl ⟨_, rfl, ?_, by omega, ?_⟩
          · rw [tx_size, hbl]; show 1 + j ≤ _; omega
          · rw [i64_wrap (by omega) (by omega)]
            refine ⟨⟨j + 1, by omega, by omega, ?_, ?_, hu2.then hu3⟩, by show 8 - _ < 8 - _; omega⟩
            · have e1 : Int.tdiv ((up v.n / 256 ^ j : Nat) : Int) 256 = ((up v.n / 256 ^ (j + 1) : Nat) : Int) := by
                rw [Int.tdiv_eq_ediv_of_nonneg (Int.natCast_nonneg _), show (256 : Int) = ((256 : Nat) : Int) from rfl, ← Int.natCast_ediv, Nat.div_div_eq_div_mul, ← Nat.pow_succ]
              have hup : up v.n < 18446744073709551616 := by unfold up; omega
              have : up v.n / 256 ^ (j + 1) ≤ up v.n := Nat.div_le_self _ _
              rw [e1]
              generalize up v.n / 256 ^ (j + 1) = z at *
              simp [IntKind.wrap, IntKind.signed, IntKind.bits]
              omega
            · exact (tx_app [UInt8.ofNat (up v.n / 256 ^ j % 256)] (beN (up v.n) j))
        · have hj8 : j = 8 := by simp at h; omega
          subst hj8
          refine ⟨by rw [tx_size, hbl]; show 1 + 8 ≤ _; omega, ?_⟩
          have := hK w2 hu2
          rw [beN_eight, tx_bs, tx_app]
          have e : vkey v = [1] ++ be8 v.n := by unfold vkey vrest; rw [if_pos hk1, hk1]; rfl
          rw [e] at this
          exact this
    · have hk2 : v.k = 2 := by simpa using h2
      refine New.use (by simp [Value.oneCell']) fun g2 w2 hb2 hu2 hge2 hlt2 => ?_
      have hlt1' := hb1.lt
      refine ⟨fun bp bn bc i w' => ∃ j : Nat, i = j ∧ j ≤ v.s.size ∧ Own w' T.uint8 1 bp bn bc (bytesV (2 :: repl 0 [0, 255] (v.s.data.toList.take j))) ∧ Upd Nothing w1 w' ∧ (∀ k, Fp bp bc k → w1.heap.size ≤ k), fun _ _ _ i _ => v.s.size - i.toNat, ⟨0, rfl, by omega, ?_, hu2, ?_⟩, ?_⟩
      · exact ⟨rfl, by omega, .inr ⟨g2, [], rfl, hb2, rfl⟩⟩
      · rintro k ⟨_, a, ha, rfl⟩
        injection ha with ha
        subst ha
        exact hge2
      rintro bp bn bc i w3 ⟨j, rfl, hj, ho3, hu3, hf3⟩
      have hb3 := hu3.blk hb1 fun f => f
      have hrl : (repl 0 [0, 255] (v.s.data.toList.take j)).length ≤ 2 * (v.s.data.toList.take j).length := repl_length 0 [0, 255] _ rfl
      have hsl : v.s.data.toList.length = v.s.size := rfl
      rw [List.length_take] at hrl
      have hbn : bn = (2 :: repl 0 [0, 255] (v.s.data.toList.take j)).length := by have := ho3.len; simp at this ⊢; omega
      rw [List.length_cons] at hbn
      refine ⟨v.s, hb3.cell (i := 2) rfl, ifB_mk (fun h => ?_) (fun h => ?_)⟩
      · have hjs : j < v.s.size := by simpa using h
        have hbt : bt v.s (j : Int) = ((v.s.data.toList[j]'(by omega)).toNat : Int) := by
          unfold bt
          rw [dif_pos (by simpa using hjs)]
          rfl
        refine ⟨v.s, hb3.cell (i := 2) rfl, by omega, by omega, ?_⟩
        rw [hbt]
        have htk : repl 0 [0, 255] (v.s.data.toList.take (j + 1)) = repl 0 [0, 255] (v.s.data.toList.take j) ++ (if v.s.data.toList[j]'(by omega) = 0 then [0, 255] else [v.s.data.toList[j]'(by omega)]) := by
          unfold repl
          rw [List.take_succ_eq_append_getElem (by omega), List.flatMap_append]
          simp only [List.flatMap_cons, List.flatMap_nil, List.append_nil]
        refine app1 rfl ho3 (by omega) fun p4 c4 w4 ho4 hu4 hf4 => ⟨p4, _, c4, rfl, ?_⟩
        have hng : ¬ Fp bp bc g := fun h => by have := hf3 g h; omega
        have hb4 := hu4.blk hb3 hng
        have hf4' : ∀ k, Fp p4 c4 k → w1.heap.size ≤ k := fun k hk => by
          rcases hf4 k hk with h | h
          · exact hf3 k h
          · exact Nat.le_trans hu3.size h
        refine ⟨v.s, hb4.cell (i := 2) rfl, by omega, by omega, ?_⟩
        rw [i64_wrap (by omega) (by omega)]
        refine ifB_mk (fun h0 => ?_) (fun h0 => ?_)
        · have hz : v.s.data.toList[j]'(by omega) = 0 := by
            have : (v.s.data.toList[j]'(by omega)).toNat = 0 := by rw [hbt] at h0; simp only [beq_iff_eq] at h0; omega
            exact UInt8.toNat_inj.1 this
          rw [if_pos hz] at htk
          rw [hz] at ho4
          refine app1 (y := 255) rfl ho4 (by omega) fun p5 c5 w5 ho5 hu5 hf5 => ⟨p5, _, c5, rfl, ⟨j + 1, by omega, by omega, ?_, (hu3.fresh hu4 hf3).fresh hu5 hf4', fun k hk => ?_⟩, by show v.s.size - _ < v.s.size - _; omega⟩
          · rw [htk]
            simpa using ho5
          · rcases hf5 k hk with h | h
            · exact hf4' k h
            · exact Nat.le_trans (hu3.fresh hu4 hf3).size h
        · have hz : v.s.data.toList[j]'(by omega) ≠ 0 := fun e => by
            rw [hbt] at h0
            rw [e] at h0
            simp at h0
          rw [if_neg hz] at htk
          refine ⟨⟨j + 1, by omega, by omega, ?_, hu3.fresh hu4 hf3, hf4'⟩, by show v.s.size - _ < v.s.size - _; omega⟩
          rw [htk]
          exact ho4
      · have hjs : j = v.s.size := by simp at h; omega
        subst hjs
        rw [List.take_of_length_le (by omega)] at ho3 hbn hrl
        refine to_text ho3.at (by rw [List.length_cons]; omega) ⟨_, rfl, ?_, ?_⟩
        · rw [show (⟨(2 :: repl 0 [0, 255] v.s.data.toList).toArray⟩ : ByteArray) = tx (2 :: repl 0 [0, 255] v.s.data.toList) from rfl, tx_size, tx_bs, tx_size, List.length_cons, List.length_cons, List.length_cons, List.length_nil]
          omega
        · have := hK w3 (hu1.then hu3)
          have e : vkey v = (2 :: repl 0 [0, 255] v.s.data.toList) ++ [0, 1] := by unfold vkey vrest; rw [if_neg (by omega), if_pos hk2, hk2]; rfl
          rw [e, ← tx_app] at this
          exact this
    · have hk3 : v.k = 3 := by
        have e1 : v.k ≠ 1 := by simpa using h
        have e2 : v.k ≠ 2 := by simpa using h2
        omega
      refine ⟨v.n, hb1.cell (i := 1) rfl, New.use (by simp [Value.oneCell']) fun g2 w2 hb2 hu2 hge2 hlt2 => ?_⟩
      rw [lowByte_wrap] at hb2
      refine to_text (l := [3, lowByte v.n]) (At.of_blk hb2 fun i v hi => by rw [Nat.zero_add]; exact hi) rfl ⟨_, rfl, ?_⟩
      have := hK w2 (hu1.then hu2)
      have e : vkey v = [3, lowByte v.n] := by unfold vkey vrest; rw [if_neg (by omega), if_neg (by omega), if_pos hk3, hk3]; rfl
      rw [e] at this
      exact this)
end
end Va
end Go.Proofs.YtjcgociobhhijaaDoor
