/- Values' texts: what package value and the document's answer print, parse and join. -/
import Derived.Test.YtjcgociobhhijaaDoorCV
import Derived.Test.YtjcgociobhhijaaDoorSF
import Derived.Test.YtjcgociobhhijaaDoorSj
import Derived.Laws.MakeOwn
set_option linter.unusedVariables false
set_option linter.unusedSimpArgs false
set_option maxRecDepth 100000
namespace Go.Proofs.YtjcgociobhhijaaDoor
open Go Go.Proofs.YtjcgociobhhijaaDoor.SX Va Sc
namespace Ca
def val0 : Val := ⟨0, 0, bs []⟩
/-- What parsing a text answers: its value, or none. -/
def ParseV (s : List UInt8) (v : Val) (ok : Bool) : Prop := (ok = true ∧ v.right = true ∧ inr v.n ∧ vprint v = s) ∨ (ok = false ∧ v = val0 ∧ ∀ u : Val, u.right = true → inr u.n → vprint u ≠ s)
theorem ParseV.unique {s : List UInt8} {u v : Val} {a b : Bool} (h : ParseV s u a) (k : ParseV s v b) : u = v ∧ a = b := by
  rcases h with ⟨h1, h2, h3, h4⟩ | ⟨h1, h2, h3⟩ <;> rcases k with ⟨k1, k2, k3, k4⟩ | ⟨k1, k2, k3⟩
  · exact ⟨vprint_inj h2 k2 (h4.trans k4.symm), by rw [h1, k1]⟩
  · exact absurd h4 (k3 u h2 h3)
  · exact absurd k4 (h3 v k2 k3)
  · exact ⟨by rw [h2, k2], by rw [h1, k1]⟩
/-- The one value that a text may be of. -/
def Cand (s : List UInt8) (v : Val) : Prop := inr v.n ∧ ∀ u : Val, u.right = true → inr u.n → vprint u = s → u = v
theorem inr01 {n : Int} (h : n = 0 ∨ n = 1) : inr n := by rcases h with rfl | rfl <;> exact ⟨by decide, by decide⟩
theorem sEq_list {s : ByteArray} {l : List UInt8} : sEq s (bs l) = true ↔ s.data.toList = l := by
  rw [sEq_iff]
  exact ⟨fun h => by rw [h]; rfl, fun h => ba_ext (by rw [h]; rfl)⟩
theorem sEq_tx {l : List UInt8} {s : ByteArray} : sEq (tx l) s = true ↔ l = s.data.toList := by
  rw [sEq_iff]
  exact ⟨fun h => by rw [← h]; simp [tx], fun h => ba_ext (by simp [tx, h])⟩
/-- The value of a truth's text. -/
theorem cand_bool {s : ByteArray} (h : s.data.toList = [116, 114, 117, 101] ∨ s.data.toList = [102, 97, 108, 115, 101]) : Cand s.data.toList ⟨3, if sEq s (bs [116, 114, 117, 101]) = true then 1 else 0, ⟨#[]⟩⟩ := by
  rcases h with h | h
  · have e : sEq s (bs [116, 114, 117, 101]) = true := sEq_list.2 h
    rw [if_pos e]
    refine ⟨inr01 (.inr rfl), fun u hu _ hp => vprint_inj hu (by decide +kernel) ?_⟩
    rw [hp, h, vprint_three (by decide +kernel) rfl, if_pos rfl]
  · have e : ¬ sEq s (bs [116, 114, 117, 101]) = true := fun h' => by rw [sEq_list.1 h'] at h; exact absurd h (by decide)
    rw [if_neg e]
    refine ⟨inr01 (.inl rfl), fun u hu _ hp => vprint_inj hu (by decide +kernel) ?_⟩
    rw [hp, h, vprint_three (by decide +kernel) rfl, if_neg (by decide)]
/-- A value whose text is neither truth's. -/
theorem not_three {s : List UInt8} {u : Val} (h : ¬ (s = [116, 114, 117, 101] ∨ s = [102, 97, 108, 115, 101])) (hu : u.right = true) (hp : vprint u = s) : u.k ≠ 3 := fun h3 => h (by
  rw [vprint_three hu h3] at hp
  split at hp
  · exact .inl hp.symm
  · exact .inr hp.symm)
theorem two_len {u : Val} (hu : u.right = true) (h2 : u.k = 2) {s : List UInt8} (hp : vprint u = s) : 2 ≤ s.length ∧ s.head? = some 39 := by
  rw [vprint_two hu h2] at hp
  subst hp
  exact ⟨by simp, rfl⟩
theorem cand_num {s : List UInt8} {n : Int} (h3 : ¬ (s = [116, 114, 117, 101] ∨ s = [102, 97, 108, 115, 101])) (h2 : ¬ (2 ≤ s.length ∧ s.head? = some 39)) (hn : inr n) (hs : s = dtext n) : Cand s ⟨1, n, ⟨#[]⟩⟩ := by
  refine ⟨hn, fun u hu hun hp => ?_⟩
  rcases good_kinds hu with h | h | h
  · rw [vprint_one hu h.1, hs] at hp
    have := dtext_inj hp
    cases u
    simp_all
  · exact absurd (two_len hu h.1 hp) h2
  · exact absurd h.1 (not_three h3 hu hp)
theorem no_num {s : List UInt8} (h3 : ¬ (s = [116, 114, 117, 101] ∨ s = [102, 97, 108, 115, 101])) (h2 : ¬ (2 ≤ s.length ∧ s.head? = some 39)) (hn : ∀ m, inr m → s ≠ dtext m) : ∀ u : Val, u.right = true → inr u.n → vprint u ≠ s := fun u hu hun hp => by
  rcases good_kinds hu with h | h | h
  · rw [vprint_one hu h.1] at hp
    exact hn _ hun hp.symm
  · exact h2 (two_len hu h.1 hp)
  · exact not_three h3 hu hp h.1
/-- The text between quotes. -/
theorem cand_text {s : List UInt8} {f : List UInt8 → List UInt8} (hf : ∀ t, f (dbl t) = t) (h3 : ¬ (s = [116, 114, 117, 101] ∨ s = [102, 97, 108, 115, 101])) (hh : s.head? = some 39) : Cand s ⟨2, 0, txt (f ((s.drop 1).take (s.length - 1 - 1)))⟩ := by
  refine ⟨inr01 (.inl rfl), fun u hu hun hp => ?_⟩
  rcases good_kinds hu with h | h | h
  · rw [vprint_one hu h.1] at hp
    obtain ⟨b, r, e⟩ : ∃ b r, s = b :: r := by
      cases s with
      | nil => cases hh
      | cons b r => exact ⟨b, r, rfl⟩
    rw [e] at hh hp
    injection hh with hh
    subst hh
    exact absurd (dtext_ne hp) (not_dig (by decide))
  · rw [vprint_two hu h.1] at hp
    subst hp
    have : ((39 :: dbl u.s.data.toList ++ [39]).drop 1).take ((39 :: dbl u.s.data.toList ++ [39]).length - 1 - 1) = dbl u.s.data.toList := by
      simp
    rw [this, hf, txt_self]
    have h1 := h.1
    have h2 := h.2.1
    cases u
    simp_all
  · exact absurd h.1 (not_three h3 hu hp)

section
variable {w : World} {K : Value → World → Prop} {p q : Option Addr} {n c m d : Nat} {v : Val} {s : ByteArray}
theorem vprint_spec (hM : MX w) (hn : inr v.n) (hK : ∀ w', Upd Nothing w w' → K (.string (tx (vprint v))) w') : CallsV prog F.value_Print #[v.val] w K := by
  by_cases h : v.right = true ∧ v.k = 1
  · obtain ⟨hr, hk⟩ := h
    refine R.value_Print ?_
    unfold C.value_Print
    refine New.use (val_one v) fun g w1 hb1 hu1 hge1 hlt1 => ⟨_, _, _, cells_cells (v := v) hb1, ?_⟩
    show CallsV prog F.value_wrong #[v.val] w1 _
    refine wrong_spec fun w2 hu2 => ⟨_, rfl, ifB_mk (fun h => by rw [hr] at h; cases h) (fun _ => ?_)⟩
    have hb2 := hu2.blk hb1 fun f => f
    refine ⟨v.k, hb2.cell (i := 0) rfl, ifB_mk (fun _ => ⟨v.n, hb2.cell (i := 1) rfl, cprint_spec hn fun w3 hu3 => ⟨_, rfl, ?_⟩⟩) (fun h => by rw [hk] at h; cases h)⟩
    rw [← vprint_one hr hk]
    exact hK _ ((hu1.then hu2).then hu3)
  · have e : vprint v = vtext v := by unfold vprint; rw [if_neg h]
    rw [e] at hK
    refine print_spec hM ?_ hK
    by_cases hk : v.k = 1
    · exact .inr (by cases hr : v.right with | false => rfl | true => exact absurd ⟨hr, hk⟩ h)
    · exact .inl hk

/-- The document's text between quotes. -/
theorem quote_loop {g : Nat} (hs : v.s.size ≤ 300) (hb : Blk w g v.cells T.api_Value) (hK : K (.string (tx (39 :: dbl v.s.data.toList ++ [39]))) w) :
    ∃ (Iv1 : ByteArray → Int → World → Prop) (m1 : ByteArray → Int → World → Nat),
    Iv1 (bs [39]) 0 w ∧
    ∀ (s1 : ByteArray) (i1 : Int) wv3, Iv1 s1 i1 wv3 →
    ∃ (S1 : ByteArray),
    wv3.cell? ((Addr.mk g 0 none).add 2) = some (.string S1) ∧
    ifB (decide (i1 < ((S1.size : Nat) : Int))) (
      ∃ (S2 : ByteArray),
      wv3.cell? ((Addr.mk g 0 none).add 2) = some (.string S2) ∧
      0 ≤ IntKind.i64.wrap (i1 + (1 : Int)) ∧ IntKind.i64.wrap (i1 + (1 : Int)) ≤ ((S2.size : Nat) : Int) ∧
      0 ≤ i1 ∧ i1 ≤ (((IntKind.i64.wrap (i1 + (1 : Int))).toNat : Nat) : Int) ∧
      s1.size + (S2.extract i1.toNat ((IntKind.i64.wrap (i1 + (1 : Int))).toNat)).size ≤ 9223372036854775807 ∧
      ∃ (S3 : ByteArray),
      wv3.cell? ((Addr.mk g 0 none).add 2) = some (.string S3) ∧
      0 ≤ i1 ∧ i1 < ((S3.size : Nat) : Int) ∧
      ifB ((bt S3 i1) == (39 : Int)) (
        (s1 ++ (S2.extract i1.toNat ((IntKind.i64.wrap (i1 + (1 : Int))).toNat))).size + (bs [39]).size ≤ 9223372036854775807 ∧
        Iv1 ((s1 ++ (S2.extract i1.toNat ((IntKind.i64.wrap (i1 + (1 : Int))).toNat))) ++ (bs [39])) (IntKind.i64.wrap (i1 + (1 : Int))) wv3 ∧ m1 ((s1 ++ (S2.extract i1.toNat ((IntKind.i64.wrap (i1 + (1 : Int))).toNat))) ++ (bs [39])) (IntKind.i64.wrap (i1 + (1 : Int))) wv3 < m1 s1 i1 wv3) (
        Iv1 (s1 ++ (S2.extract i1.toNat ((IntKind.i64.wrap (i1 + (1 : Int))).toNat))) (IntKind.i64.wrap (i1 + (1 : Int))) wv3 ∧ m1 (s1 ++ (S2.extract i1.toNat ((IntKind.i64.wrap (i1 + (1 : Int))).toNat))) (IntKind.i64.wrap (i1 + (1 : Int))) wv3 < m1 s1 i1 wv3)) (
      s1.size + (bs [39]).size ≤ 9223372036854775807 ∧
      K (.string (s1 ++ (bs [39]))) wv3) := by
  have hlen : v.s.data.toList.length = v.s.size := rfl
  have hcell := hb.cell (i := 2) rfl
  refine ⟨fun s i w' => w' = w ∧ ∃ k : Nat, i = k ∧ k ≤ v.s.size ∧ s = tx (39 :: dbl (v.s.data.toList.take k)), fun _ i _ => v.s.size - i.toNat, ⟨rfl, 0, rfl, by omega, rfl⟩, ?_⟩
  rintro s i w1 ⟨rfl, k, rfl, hk, rfl⟩
  have hdl : (dbl (v.s.data.toList.take k)).length ≤ 2 * 300 := Nat.le_trans (repl_length 39 [39, 39] _ rfl) (Nat.mul_le_mul_left _ (by simp; omega))
  refine ⟨_, hcell, ifB_mk (fun h => ?_) (fun h => ?_)⟩
  · have hkn : k < v.s.size := by have := of_decide_eq_true h; omega
    have hw : IntKind.i64.wrap ((k : Int) + 1) = ((k + 1 : Nat) : Int) := by rw [i64_wrap (by omega) (by omega)]; omega
    have hex : v.s.extract k (k + 1) = tx [v.s.data.toList[k]'(by rw [hlen]; exact hkn)] := by
      have h1 := ext_mid v.s k (k + 1)
      rw [h1, List.drop_eq_getElem_cons (by rw [hlen]; exact hkn), show k + 1 - k = 1 by omega]
      rfl
    refine ⟨_, hcell, ?_⟩
    rw [hw]
    simp only [Int.toNat_natCast]
    rw [hex, tx_app, tx_size, tx_size]
    refine ⟨by omega, by omega, by omega, by omega, by simp; omega, _, hcell, ?_⟩
    rw [bt_get hkn]
    have htk : v.s.data.toList.take (k + 1) = v.s.data.toList.take k ++ [v.s.data.toList[k]'(by rw [hlen]; exact hkn)] := List.take_succ_eq_append_getElem (by rw [hlen]; exact hkn)
    generalize (v.s.data.toList[k]'(by rw [hlen]; exact hkn)) = b at htk ⊢
    refine ⟨by omega, by omega, ifB_mk (fun h1 => ⟨?_, ?_⟩) (fun h1 => ?_)⟩
    · rw [tx_size, tx_bs, tx_size]
      simp
      omega
    · have hb39 : b = 39 := UInt8.toNat_inj.1 (by show _ = 39; have := beq_iff_eq.1 h1; omega)
      refine ⟨⟨trivial, k + 1, rfl, by omega, ?_⟩, by omega⟩
      rw [tx_bs, tx_app, htk, dbl_app, dbl_cons, if_pos hb39, hb39]
      simp [dbl, repl]
    · have hb39 : b ≠ 39 := fun e => by rw [e] at h1; exact absurd h1 (by decide)
      refine ⟨⟨trivial, k + 1, rfl, by omega, ?_⟩, by omega⟩
      rw [htk, dbl_app, dbl_cons, if_neg hb39]
      simp [dbl, repl]
  · have hkn : k = v.s.size := by have := of_decide_eq_false h; omega
    subst hkn
    have hall : v.s.data.toList.take v.s.size = v.s.data.toList := List.take_of_length_le (by rw [hlen]; exact Nat.le_refl _)
    rw [hall] at hdl ⊢
    rw [tx_bs, tx_app, tx_size, tx_size]
    exact ⟨by simp; omega, hK⟩

theorem rprint2_spec (hr : v.right = true) (hn : inr v.n) (hK : ∀ w', Upd Nothing w w' → K (.string (tx (vprint v))) w') : CallsV prog F.affluxref02_Print #[v.val] w K :=
  R.affluxref02_Print (by
    unfold C.affluxref02_Print
    refine New.use (val_one v) fun g w1 hb1 hu1 hge1 hlt1 => ⟨v.k, hb1.cell (i := 0) rfl, ifB_mk (fun h => ?_) (fun h => ?_)⟩
    · have hk : v.k = 1 := beq_iff_eq.1 h
      refine ⟨v.n, hb1.cell (i := 1) rfl, rprint_spec hn fun w2 hu2 => ⟨_, rfl, ?_⟩⟩
      rw [← vprint_one hr hk]
      exact hK _ (hu1.then hu2)
    have hk1 : v.k ≠ 1 := by simpa using h
    refine ⟨v.k, hb1.cell (i := 0) rfl, ifB_mk (fun h3 => ?_) (fun h3 => ?_)⟩
    · have hk3 : v.k = 3 := beq_iff_eq.1 h3
      have := hK w1 hu1
      rw [vprint_three hr hk3] at this
      refine ⟨v.n, hb1.cell (i := 1) rfl, ifB_mk (fun h4 => ?_) (fun h4 => ⟨v.k, hb1.cell (i := 0) rfl, ifB_mk (fun _ => ?_) (fun h5 => by rw [hk3] at h5; cases h5)⟩)⟩
      · rw [if_pos (beq_iff_eq.1 h4)] at this
        exact this
      · rw [if_neg (by simpa using h4)] at this
        exact this
    · have hk3 : v.k ≠ 3 := by simpa using h3
      have hk2 : v.k = 2 := by
        rcases good_kinds hr with h | h | h
        · exact absurd h.1 hk1
        · exact h.1
        · exact absurd h.1 hk3
      have := hK w1 hu1
      rw [vprint_two hr hk2] at this
      exact ⟨v.k, hb1.cell (i := 0) rfl, ifB_mk (fun h5 => absurd (beq_iff_eq.1 h5) hk3) (fun _ => quote_loop (by have := right_size hr; omega) hb1 this)⟩)

theorem val0_cells : Val.cells val0 = [.int .i64 0, .int .i64 0, .string (bs [])] := rfl

theorem vparse_spec (hM : MX w) (hs : s.size ≤ 10000) (hK : ∀ v ok w', ParseV s.data.toList v ok → Upd Nothing w w' → K (.tuple #[v.val, .int .i64 (if ok = true then 0 else 12)]) w') : CallsV prog F.value_Parse #[.string s] w K :=
  R.value_Parse (by
    unfold C.value_Parse
    have hlen : s.data.toList.length = s.size := rfl
    refine New.use (by simp [Value.oneCell']) fun g1 w1 hb1 hu1 hge1 hlt1 => New.use (by simp [Value.oneCell']) fun g2 w2 hb2 hu2 hge2 _ => ?_
    have hu12 := hu1.then hu2
    have hb12 : Blk w2 g1 (Val.cells val0) T.api_Value := hu2.blk hb1 fun f => f
    have hg2 : ∀ i, SX.One g2 i → w1.heap.size ≤ i := fun i hi => by rw [show i = g2 from hi]; exact hge2
    have hne : g1 ≠ g2 := by omega
    -- none
    have hfail : ∀ w', Upd Nothing w w' → Blk w' g1 (Val.cells val0) T.api_Value → (∀ u : Val, u.right = true → inr u.n → vprint u ≠ s.data.toList) →
        CanSt w' ((Addr.mk g1 0 none).add 0) ∧ ∀ wa, wa = w'.setCell ((Addr.mk g1 0 none).add 0) (.int .i64 0) →
        CanSt wa ((Addr.mk g1 0 none).add 1) ∧ ∀ wb, wb = wa.setCell ((Addr.mk g1 0 none).add 1) (.int .i64 0) →
        CanSt wb ((Addr.mk g1 0 none).add 2) ∧ ∀ wc, wc = wb.setCell ((Addr.mk g1 0 none).add 2) (.string (bs [])) →
        ∃ (xKind1 : Int) (xN1 : Int) (xS1 : ByteArray), SX.cellsAt wc (Addr.mk g1 0 none) 0 [.int .i64 xKind1, .int .i64 xN1, .string xS1] ∧ K (.tuple #[.agg #[.int .i64 xKind1, .int .i64 xN1, .string xS1], .int .i64 12]) wc := fun w' hu hb hn =>
      set_val val0 hb fun wc hbc huc => ⟨_, _, _, cells_cells hbc, hK val0 false wc (.inr ⟨rfl, rfl, hn⟩) (hu.fresh huc fun i hi => by rw [show i = g1 from hi]; exact hge1)⟩
    refine ⟨fun w' => ∃ v : Val, Cand s.data.toList v ∧ Blk w' g2 v.cells T.api_Value ∧ Blk w' g1 (Val.cells val0) T.api_Value ∧ Upd Nothing w w', ?_, ?_⟩
    · have hput : ∀ (w' : World) (v : Val), Upd Nothing w2 w' → Cand s.data.toList v → ∀ w'', Blk w'' g2 v.cells T.api_Value → Upd (SX.One g2) w' w'' → (∃ v : Val, Cand s.data.toList v ∧ Blk w'' g2 v.cells T.api_Value ∧ Blk w'' g1 (Val.cells val0) T.api_Value ∧ Upd Nothing w w'') := fun w' v hu hc w'' hb hu'' =>
        ⟨v, hc, hb, hu''.blk (hu.blk hb12 fun f => f) fun e => hne e, (hu12.then hu).fresh hu'' fun i hi => Nat.le_trans hu1.size (hg2 i hi)⟩
      refine ⟨fun b w' => w' = w2 ∧ (b = true ↔ s.data.toList = [116, 114, 117, 101] ∨ s.data.toList = [102, 97, 108, 115, 101]), ifB_mk (fun h => ⟨rfl, ⟨fun _ => .inl (sEq_list.1 h), fun _ => rfl⟩⟩) (fun h => ⟨rfl, ⟨fun h' => .inr (sEq_list.1 h'), fun h' => ?_⟩⟩), ?_⟩
      · rcases h' with h' | h'
        · rw [sEq_list.2 h'] at h; cases h
        · exact sEq_list.2 h'
      rintro b w3 ⟨rfl, hb⟩
      refine ifB_mk (fun h => ?_) (fun h => ?_)
      · refine bool_spec fun w4 hu4 => ⟨_, _, _, rfl, set_val ⟨3, if sEq s (bs [116, 114, 117, 101]) = true then 1 else 0, ⟨#[]⟩⟩ (hu4.blk hb2 fun f => f) fun w7 hb7 hu7 => hput w4 _ hu4 (cand_bool (hb.1 h)) w7 hb7 hu7⟩
      have h3 : ¬ (s.data.toList = [116, 114, 117, 101] ∨ s.data.toList = [102, 97, 108, 115, 101]) := fun h' => by rw [hb.2 h'] at h; cases h
      refine ⟨fun b w' => w' = w3 ∧ (b = true ↔ 2 ≤ s.data.toList.length ∧ s.data.toList.head? = some 39), ifB_mk (fun h2 => ⟨by omega, by have := of_decide_eq_true h2; omega, rfl, ?_⟩) (fun h2 => ⟨rfl, ⟨fun h' => (by cases h'), fun h' => ?_⟩⟩), ?_⟩
      · have h2' := of_decide_eq_true h2
        have hpos : 0 < s.size := by omega
        have hb0 := bt_get hpos
        rw [show ((0 : Nat) : Int) = 0 from rfl] at hb0
        rw [hb0, List.head?_eq_getElem?, List.getElem?_eq_getElem (by rw [hlen]; exact hpos), beq_iff_eq]
        constructor
        · intro h'
          exact ⟨by omega, congrArg some (UInt8.toNat_inj.1 (by show _ = 39; omega))⟩
        · intro h'
          have := Option.some.inj h'.2
          rw [this]
          rfl
      · have := of_decide_eq_false h2
        omega
      rintro b2 w8 ⟨rfl, hb2'⟩
      refine ifB_mk (fun h2 => ?_) (fun h2 => ?_)
      · obtain ⟨h2a, h2b⟩ := hb2'.1 h2
        have hw : IntKind.i64.wrap ((s.size : Int) - 1) = ((s.size - 1 : Nat) : Int) := by rw [i64_wrap (by omega) (by omega)]; omega
        rw [hw]
        refine ⟨by omega, by omega, by omega, by omega, ?_⟩
        simp only [Int.toNat_natCast]
        have hex : s.extract (Int.toNat 1) (s.size - 1) = txt ((s.data.toList.drop 1).take (s.data.toList.length - 1 - 1)) := ext_mid s 1 (s.size - 1)
        rw [hex]
        have hsz : (txt ((s.data.toList.drop 1).take (s.data.toList.length - 1 - 1))).size ≤ 10000 := by rw [txt_size]; simp; omega
        have hcb := countB_le (txt ((s.data.toList.drop 1).take (s.data.toList.length - 1 - 1))) (bs [39, 39])
        refine replace_spec (hM.upd0 hu12) (by omega) (by show 1 ≤ 2; omega) (by show _ + _ * 1 ≤ _; omega) fun w9 hu9 => ⟨_, rfl, text_spec fun w10 hu10 => ⟨_, _, _, rfl, ?_⟩⟩
        rw [txt_toList]
        have hc := cand_text (s := s.data.toList) (f := fun t => Lib.replaceAll t [39, 39] [39]) replaceAll_two h3 h2b
        exact set_val ⟨2, 0, _⟩ ((hu9.then hu10).blk hb2 fun f => f) fun w13 hb13 hu13 => hput w10 _ (hu9.then hu10) hc w13 hb13 hu13
      · have h2' : ¬ (2 ≤ s.data.toList.length ∧ s.data.toList.head? = some 39) := fun h' => by rw [hb2'.2 h'] at h2; cases h2
        refine cparse_spec hs fun n e w14 hp hu14 => ⟨_, _, rfl, ifB_mk (fun he => ?_) (fun he => ?_)⟩
        · have he' : e ≠ 0 := by simpa using he
          rcases hp with hp | hp
          · exact absurd hp.1 he'
          · exact hfail w14 (hu12.then hu14) (hu14.blk hb12 fun f => f) (no_num h3 h2' hp.2)
        · have he' : e = 0 := by simpa using he
          rcases hp with hp | hp
          · exact int_spec fun w18 hu18 => ⟨_, _, _, rfl, set_val ⟨1, n, ⟨#[]⟩⟩ ((hu14.then hu18).blk hb2 fun f => f) fun w21 hb21 hu21 => hput w18 _ (hu14.then hu18) (cand_num h3 h2' hp.2.1 hp.2.2) w21 hb21 hu21⟩
          · exact absurd he' hp.1
    rintro w22 ⟨v, ⟨hvn, hc⟩, hbv, hb0, hu22⟩
    refine ⟨_, _, _, cells_cells (v := v) hbv, ?_⟩
    show CallsV prog F.value_wrong #[v.val] w22 _
    refine wrong_spec fun w23 hu23 => ⟨_, rfl, ifB_mk (fun h => ?_) (fun h => ?_)⟩
    · refine hfail w23 (hu22.then hu23) (hu23.blk hb0 fun f => f) fun u hu hun hp => ?_
      rw [hc u hu hun hp] at hu
      rw [hu] at h
      cases h
    have hr : v.right = true := by simpa using h
    have hb23 := hu23.blk hbv fun f => f
    refine ⟨_, _, _, cells_cells (v := v) hb23, ?_⟩
    show CallsV prog F.value_Print #[v.val] w23 _
    have hu23' := hu22.then hu23
    refine vprint_spec (hM.upd0 hu23') hvn fun w27 hu27 => ⟨_, rfl, ifB_mk (fun h1 => ?_) (fun h1 => ?_)⟩
    · refine hfail w27 (hu23'.then hu27) ((hu23.then hu27).blk hb0 fun f => f) fun u hu hun hp => ?_
      rw [hc u hu hun hp] at hp
      rw [sEq_tx.2 hp] at h1
      cases h1
    · have hp : vprint v = s.data.toList := sEq_tx.1 (by simpa using h1)
      refine ⟨_, _, _, cells_cells (v := v) (hu27.blk hb23 fun f => f), set_val v ((hu23.then hu27).blk hb0 fun f => f) fun w33 hb33 hu33 => ⟨_, _, _, cells_cells (v := v) hb33, ?_⟩⟩
      exact hK v true w33 (.inl ⟨rfl, hr, hvn, hp⟩) ((hu23'.then hu27).fresh hu33 fun i hi => by rw [show i = g1 from hi]; exact hge1))
end
end Ca
end Go.Proofs.YtjcgociobhhijaaDoor
