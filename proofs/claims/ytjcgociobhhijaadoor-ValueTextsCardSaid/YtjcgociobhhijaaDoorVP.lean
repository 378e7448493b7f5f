/- The examples of the document for package value, and the keys of a row. -/
import Derived.Test.YtjcgociobhhijaaDoorVB
set_option linter.unusedVariables false
set_option linter.unusedSimpArgs false
set_option maxRecDepth 100000
namespace Go.Proofs.YtjcgociobhhijaaDoor
open Go Go.Proofs.YtjcgociobhhijaaDoor.SX
namespace Va
section
variable {w : World} {K : Value → World → Prop} {p q : Option Addr} {n c m d : Nat} {xs ys : List Val} {a b v : Val} {l : List UInt8}

/-- A right row's keys, by the document. -/
theorem rkeys_spec (hat : At w p (vals xs)) (hl : xs.length = n) (hn : n ≤ 1000) (hall : xs.all Val.right = true) (hK : ∀ w', Upd Nothing w w' → K (.string (tx (vkeys xs))) w') : CallsV prog F.affluxref02_Keys #[.slice p n c] w K :=
  R.affluxref02_Keys (by
    unfold C.affluxref02_Keys
    have hr : ∀ x ∈ xs, x.right = true := List.all_eq_true.1 hall
    refine ⟨fun s i w' => ∃ k : Nat, i = k ∧ k ≤ n ∧ s = tx (vkeys (xs.take k)) ∧ Upd Nothing w w', fun _ i _ => n - i.toNat, ⟨0, rfl, by omega, rfl, Upd.refl _ _⟩, ?_⟩
    rintro s i w1 ⟨k, rfl, hk, rfl, hu1⟩
    refine ifB_mk (fun h => ?_) (fun h => ?_)
    · have hkn : k < n := by simpa using h
      obtain ⟨a, ha, hc⟩ := (hat.upd0 hu1).val (i := k) (by omega)
      refine ⟨a, ha, by omega, by omega, _, _, _, hc, ?_⟩
      have hrk := hr xs[k] (List.getElem_mem _)
      have hsz := right_size hrk
      have hkk : xs[k].k = 1 ∨ xs[k].k = 2 ∨ xs[k].k = 3 := by
        unfold Val.right at hrk
        simp only [Bool.or_eq_true, Bool.and_eq_true, beq_iff_eq] at hrk
        rcases hrk with (⟨h, _⟩ | ⟨h, _⟩) | ⟨h, _⟩
        · exact .inl h
        · exact .inr (.inl h)
        · exact .inr (.inr h)
      show CallsV prog F.affluxref02_Key #[xs[k].val] w1 _
      have hlen := vkeys_length (B := 200) (xs.take k) fun x hx => right_size (hr x (List.mem_of_mem_take hx))
      have hlt : (xs.take k).length ≤ 1000 := by rw [List.length_take]; omega
      have hlen' : (vkeys (xs.take k)).length ≤ 1000 * 409 := Nat.le_trans hlen (Nat.mul_le_mul_right _ hlt)
      have hkl := vkey_length xs[k]
      refine rkey_spec (by omega) hkk fun w2 hu2 => ⟨_, rfl, by rw [tx_size, tx_size]; omega, ?_⟩
      rw [i64_wrap (by omega) (by omega)]
      exact ⟨⟨k + 1, by omega, by omega, by rw [tx_app, ← vkeys_take (by omega)], hu1.then hu2⟩, by show n - _ < n - _; omega⟩
    · have hkn : k = n := by simp at h; omega
      rw [List.take_of_length_le (by omega)]
      exact hK w1 hu1)

/-- The print of a value that is no number. -/
def vtext (v : Val) : List UInt8 := if v.right = true then (if v.k = 2 then 39 :: repl 39 [39, 39] v.s.data.toList ++ [39] else if v.n = 1 then [116, 114, 117, 101] else [102, 97, 108, 115, 101]) else []

theorem print_spec (hM : MX w) (hk : v.k ≠ 1 ∨ v.right = false) (hK : ∀ w', Upd Nothing w w' → K (.string (tx (vtext v))) w') : CallsV prog F.value_Print #[v.val] w K :=
  R.value_Print (by
    unfold C.value_Print
    refine New.use (val_one v) fun g w1 hb1 hu1 hge1 hlt1 => ⟨_, _, _, cells_cells (v := v) hb1, ?_⟩
    show CallsV prog F.value_wrong #[v.val] w1 _
    refine wrong_spec fun w2 hu2 => ⟨_, rfl, ifB_mk (fun h => ?_) (fun h => ?_)⟩
    · have := hK w2 (hu1.then hu2)
      unfold vtext at this
      rw [if_neg (by simpa using h)] at this
      exact this
    have hr : v.right = true := by simpa using h
    have hk1 : v.k ≠ 1 := by rcases hk with h | h; exact h; rw [hr] at h; cases h
    have hb2 := hu2.blk hb1 fun f => f
    refine ⟨v.k, hb2.cell (i := 0) rfl, ifB_mk (fun h => absurd (by simpa using h) hk1) (fun _ => ⟨v.k, hb2.cell (i := 0) rfl, ifB_mk (fun h2 => ?_) (fun h2 => ?_)⟩)⟩
    · have hk2 : v.k = 2 := by simpa using h2
      have hsz := right_size hr
      refine ⟨v.s, hb2.cell (i := 2) rfl, replace_one (new := bs [39, 39]) ((hM.upd0 hu1).upd0 hu2) (by omega) (by show 2 ≤ 1000; omega) fun w3 hu3 => ⟨tx (repl 39 [39, 39] v.s.data.toList), rfl, ?_⟩⟩
      have hrl : (repl 39 [39, 39] v.s.data.toList).length ≤ 2 * v.s.size := repl_length 39 [39, 39] v.s.data.toList rfl
      have := hK w3 ((hu1.then hu2).then hu3)
      unfold vtext at this
      rw [if_pos hr, if_pos hk2] at this
      rw [tx_bs, tx_app, tx_size, tx_size, tx_size, tx_app]
      refine ⟨by simp only [List.length_cons, List.length_nil]; omega, by simp only [List.length_append, List.length_cons, List.length_nil]; omega, this⟩
    · have hk2 : v.k ≠ 2 := by simpa using h2
      have := hK w2 (hu1.then hu2)
      unfold vtext at this
      rw [if_pos hr, if_neg hk2] at this
      refine ⟨v.n, hb2.cell (i := 1) rfl, ifB_mk (fun h3 => ?_) (fun h3 => ?_)⟩
      · rw [if_pos (by simpa using h3)] at this; exact this
      · rw [if_neg (by simpa using h3)] at this; exact this)

theorem awake_spec (hM : MX w) (hK : ∀ w', Upd Nothing w w' → K (.bool true) w') : CallsV prog F.affluxlaw02_awake #[] w K :=
  R.affluxlaw02_awake (by
    unfold C.affluxlaw02_awake
    refine int_spec fun w1 hu1 => ⟨_, _, _, rfl, text_spec fun w2 hu2 => ⟨_, _, _, rfl, ?_⟩⟩
    refine New.use (by simp [Value.oneCell']) fun g w3 hb3 hu3 hge3 _ => ?_
    have hu13 := (hu1.then hu2).then hu3
    refine key_spec (xs := [⟨1, 1, ⟨#[]⟩⟩, ⟨2, 0, bs [97]⟩]) (hM.upd0 hu13) (At.of_blk hb3 fun j v hj => by rw [Nat.zero_add]; exact hj) rfl (by omega) fun w4 hu4 => ⟨_, rfl, ?_⟩
    refine ifB_mk (fun _ => ?_) (fun h => ?_)
    · refine text_spec fun w5 hu5 => ⟨_, _, _, rfl, ?_⟩
      have hu15 := (hu13.then hu4).then hu5
      show CallsV prog F.value_Print #[Val.val ⟨2, 0, bs [105, 116, 39, 115]⟩] w5 _
      refine print_spec (hM.upd0 hu15) (.inl (by decide)) fun w6 hu6 => ⟨_, rfl, ifB_mk (fun _ => ?_) (fun h => ?_)⟩
      · refine bool_spec fun w7 hu7 => ⟨_, _, _, rfl, ?_⟩
        have hu17 := (hu15.then hu6).then hu7
        show CallsV prog F.value_Print #[Val.val ⟨3, 1, ⟨#[]⟩⟩] w7 _
        refine print_spec (hM.upd0 hu17) (.inl (by decide)) fun w8 hu8 => ⟨_, rfl, ?_⟩
        have e : sEq (tx (vtext ⟨3, 1, ⟨#[]⟩⟩)) (bs [116, 114, 117, 101]) = true := by decide +kernel
        rw [e]
        exact hK w8 (hu17.then hu8)
      · have e : sEq (tx (vtext ⟨2, 0, bs [105, 116, 39, 115]⟩)) (bs [39, 105, 116, 39, 39, 115, 39]) = true := by decide +kernel
        rw [e] at h
        cases h
    · have e : sEq (keyText [⟨1, 1, ⟨#[]⟩⟩, ⟨2, 0, bs [97]⟩]) (bs [1, 128, 0, 0, 0, 0, 0, 0, 1, 2, 97, 0, 1]) = true := by decide +kernel
      rw [e] at h
      cases h)
end
end Va
end Go.Proofs.YtjcgociobhhijaaDoor
