/- Values' texts, plain: doubled quotes, and that a right value's print tells it. -/
import Derived.Test.YtjcgociobhhijaaDoorCQ
set_option linter.unusedVariables false
set_option linter.unusedSimpArgs false
set_option maxRecDepth 100000
namespace Go.Proofs.YtjcgociobhhijaaDoor
open Go Go.Proofs.YtjcgociobhhijaaDoor.SX Va Sc
namespace Ca
abbrev dbl (t : List UInt8) : List UInt8 := repl 39 [39, 39] t
theorem dbl_cons (b : UInt8) (t : List UInt8) : dbl (b :: t) = (if b = 39 then [39, 39] else [b]) ++ dbl t := by simp [dbl, repl]
theorem dbl_none : ∀ {t : List UInt8}, 39 ∉ t → dbl t = t
  | [], _ => rfl
  | b :: t, h => by
    simp only [List.mem_cons, not_or] at h
    rw [dbl_cons, if_neg (fun e => h.1 e.symm), dbl_none h.2]
    rfl
theorem dbl_app (a b : List UInt8) : dbl (a ++ b) = dbl a ++ dbl b := by simp [dbl, repl]

theorem prefix_two (b : UInt8) (r : List UInt8) (h : b ≠ 39) : [39, 39].isPrefixOf (b :: r) = false := by
  have : ((39 : UInt8) == b) = false := by
    rw [beq_eq_false_iff_ne]
    exact fun e => h e.symm
  simp [List.isPrefixOf, this]
theorem index_two_none : ∀ {t : List UInt8}, 39 ∉ t → Lib.index t [39, 39] = -1
  | [], _ => by simp [Lib.index]
  | b :: t, h => by
    simp only [List.mem_cons, not_or] at h
    have ih := index_two_none h.2
    unfold Lib.index
    rw [prefix_two b t (fun e => h.1 e.symm), ih]
    simp
theorem index_two_hit : ∀ (u r : List UInt8), 39 ∉ u → Lib.index (u ++ 39 :: 39 :: r) [39, 39] = (u.length : Int)
  | [], r, _ => by
    unfold Lib.index
    simp [List.isPrefixOf]
  | b :: u, r, h => by
    simp only [List.mem_cons, not_or] at h
    have ih := index_two_hit u r h.2
    rw [List.cons_append]
    unfold Lib.index
    rw [prefix_two b _ (fun e => h.1 e.symm), ih]
    have : ((u.length : Int) == -1) = false := by rw [beq_eq_false_iff_ne]; omega
    simp [this]
theorem undbl : ∀ (n : Nat) (t : List UInt8), t.length ≤ n → ∀ fuel, t.length < fuel → Lib.countFrom [39, 39] fuel (dbl t) = t.count 39 ∧ Lib.replaceK [39, 39] [39] (t.count 39) (dbl t) = t := by
  intro n
  induction n with
  | zero =>
    intro t ht fuel hf
    have : t = [] := List.length_eq_zero_iff.1 (by omega)
    subst this
    obtain ⟨f, rfl⟩ : ∃ f, fuel = f + 1 := ⟨fuel - 1, by simp at hf; omega⟩
    exact ⟨by rw [Lib.countFrom.eq_2]; simp [dbl, repl, Lib.index], rfl⟩
  | succ n ih =>
    intro t ht fuel hf
    obtain ⟨f, rfl⟩ : ∃ f, fuel = f + 1 := ⟨fuel - 1, by omega⟩
    by_cases hm : 39 ∈ t
    · have hlt : t.idxOf 39 < t.length := List.idxOf_lt_length_of_mem hm
      have hnot : 39 ∉ t.take (t.idxOf 39) := not_mem_take_idxOf 39 t
      have e : t = t.take (t.idxOf 39) ++ 39 :: t.drop (t.idxOf 39 + 1) := by
        have h1 : t.drop (t.idxOf 39) = 39 :: t.drop (t.idxOf 39 + 1) := by rw [List.drop_eq_getElem_cons hlt, List.getElem_idxOf hlt]
        rw [← h1, List.take_append_drop]
      generalize t.take (t.idxOf 39) = u at hnot e
      generalize t.drop (t.idxOf 39 + 1) = r at e
      subst e
      have hd : dbl (u ++ 39 :: r) = u ++ 39 :: 39 :: dbl r := by
        rw [dbl_app, dbl_none hnot, dbl_cons, if_pos rfl]
        rfl
      have hi := index_two_hit u (dbl r) hnot
      have hlen : r.length ≤ n := by simp at ht; omega
      have hc : (u ++ 39 :: r).count 39 = r.count 39 + 1 := by
        rw [List.count_append, List.count_eq_zero.2 hnot, List.count_cons_self]
        omega
      have hdr : (u ++ 39 :: 39 :: dbl r).drop (u.length + 2) = dbl r := by
        rw [List.drop_append]
        simp
      have hm1 : ((u.length : Int) == -1) = false := by rw [beq_eq_false_iff_ne]; omega
      obtain ⟨ih1, ih2⟩ := ih r hlen f (by simp at hf; omega)
      rw [hd, hc]
      constructor
      · rw [Lib.countFrom.eq_2, hi, hm1]
        simp only [Bool.false_eq_true, ↓reduceIte, Int.toNat_natCast, List.length_cons, List.length_nil, Nat.zero_add]
        rw [hdr, ih1]
        omega
      · rw [Lib.replaceK_hit _ _ _ _ _ hi]
        simp only [List.length_cons, List.length_nil, Nat.zero_add]
        rw [hdr, ih2, List.take_left']
        · simp
        · rfl
    · have hc : t.count 39 = 0 := List.count_eq_zero.2 hm
      rw [dbl_none hm, hc]
      exact ⟨by rw [Lib.countFrom.eq_2, index_two_none hm]; simp, rfl⟩
theorem replaceAll_two (t : List UInt8) : Lib.replaceAll (dbl t) [39, 39] [39] = t := by
  unfold Lib.replaceAll Lib.replace
  rw [if_neg (by decide)]
  have hl : t.length ≤ (dbl t).length := by
    have : ∀ l : List UInt8, l.length ≤ (dbl l).length := by
      intro l
      induction l with
      | nil => simp
      | cons b l ih =>
        rw [dbl_cons, List.length_append]
        split <;> simp <;> omega
    exact this t
  have h := undbl t.length t (Nat.le_refl _) ((dbl t).length + 1) (by omega)
  have hc : Lib.count (dbl t) [39, 39] = t.count 39 := h.1
  unfold Lib.replaceNum
  rw [if_pos (.inl (by omega)), hc]
  exact h.2
theorem countFrom_le (sub : List UInt8) : ∀ (fuel : Nat) (s : List UInt8), Lib.countFrom sub fuel s ≤ fuel
  | 0, s => Nat.le_refl _
  | fuel + 1, s => by
    rw [Lib.countFrom.eq_2]
    split
    · omega
    · have := countFrom_le sub fuel (s.drop ((Lib.index s sub).toNat + sub.length))
      omega
theorem countB_le (s old : ByteArray) : Lib.countB s old ≤ s.size + 1 := countFrom_le _ _ _

/-- The text that the document's answer tries: each quote takes the next byte with it. -/
def unq : List UInt8 → List UInt8
  | [] => []
  | [b] => [b]
  | b :: c :: r => b :: (if b = 39 then unq r else unq (c :: r))
theorem unq_dbl : ∀ t : List UInt8, unq (dbl t) = t
  | [] => rfl
  | b :: t => by
    have ih := unq_dbl t
    rw [dbl_cons]
    by_cases hb : b = 39
    · subst hb
      rw [if_pos rfl]
      show unq (39 :: 39 :: dbl t) = _
      rw [unq, if_pos rfl, ih]
    · rw [if_neg hb]
      show unq (b :: dbl t) = _
      cases hd : dbl t with
      | nil =>
        rw [hd] at ih
        rw [unq, ← ih]
        rfl
      | cons c r => rw [unq, if_neg hb, ← hd, ih]
theorem unq_length : ∀ t : List UInt8, (unq t).length ≤ t.length
  | [] => Nat.le_refl _
  | [b] => Nat.le_refl _
  | b :: c :: r => by
    rw [unq]
    have h1 := unq_length r
    have h2 := unq_length (c :: r)
    simp only [List.length_cons] at *
    split <;> omega

/-! ### prints -/
def vprint (v : Val) : List UInt8 := if v.right = true ∧ v.k = 1 then dtext v.n else vtext v
theorem vprint_one {v : Val} (hr : v.right = true) (h : v.k = 1) : vprint v = dtext v.n := by unfold vprint; rw [if_pos ⟨hr, h⟩]
theorem vprint_two {v : Val} (hr : v.right = true) (h : v.k = 2) : vprint v = 39 :: dbl v.s.data.toList ++ [39] := by unfold vprint vtext; rw [if_neg (fun h' => by omega), if_pos hr, if_pos h]
theorem vprint_three {v : Val} (hr : v.right = true) (h : v.k = 3) : vprint v = if v.n = 1 then [116, 114, 117, 101] else [102, 97, 108, 115, 101] := by unfold vprint vtext; rw [if_neg (fun h' => by omega), if_pos hr, if_neg (by omega)]
theorem dtext_head (m : Int) : ∃ b, (dtext m).head? = some b ∧ (b = 45 ∨ isDig b) := by
  by_cases hm : m < 0
  · exact ⟨45, by rw [dtext_neg hm]; rfl, .inl rfl⟩
  · rw [dtext_pos (by omega)]
    obtain ⟨b, r, h⟩ := List.exists_cons_of_ne_nil (ntext_ne m.natAbs)
    exact ⟨b, by rw [h]; rfl, .inr (ntext_dig m.natAbs b (by rw [h]; simp))⟩
theorem dtext_ne {m : Int} {b : UInt8} {r : List UInt8} (h : dtext m = b :: r) : b = 45 ∨ isDig b := by
  obtain ⟨c, hc, h1⟩ := dtext_head m
  rw [h] at hc
  injection hc with hc
  subst hc
  exact h1
theorem not_dig {b : UInt8} (h : b.toNat < 45 ∨ 57 < b.toNat) : ¬ (b = 45 ∨ isDig b) := by
  rintro (rfl | h')
  · rcases h with h | h
    · exact absurd h (by decide)
    · exact absurd h (by decide)
  · have := h'.1
    have := h'.2
    omega
/-- A right value is told by its print. -/
theorem vprint_inj {u v : Val} (hu : u.right = true) (hv : v.right = true) (h : vprint u = vprint v) : u = v := by
  have key : ∀ a b : Val, a.right = true → b.right = true → a.k = 1 → vprint a = vprint b → b.k = 1 := fun a b ha hb h1 h => by
    rw [vprint_one ha h1] at h
    rcases good_kinds hb with h2 | h2 | h2
    · exact h2.1
    · rw [vprint_two hb h2.1] at h
      exact absurd (dtext_ne h) (not_dig (by decide))
    · rw [vprint_three hb h2.1] at h
      split at h
      · exact absurd (dtext_ne h) (not_dig (by decide))
      · exact absurd (dtext_ne h) (not_dig (by decide))
  have key2 : ∀ a b : Val, a.right = true → b.right = true → a.k = 2 → vprint a = vprint b → b.k = 2 := fun a b ha hb h1 h => by
    rcases good_kinds hb with h2 | h2 | h2
    · have := key b a hb ha h2.1 h.symm; omega
    · exact h2.1
    · rw [vprint_two ha h1, vprint_three hb h2.1] at h
      split at h
      · injection h with h3; exact absurd h3 (by decide)
      · injection h with h3; exact absurd h3 (by decide)
  have hext : u.k = v.k → u.n = v.n → u.s = v.s → u = v := fun h1 h2 h3 => by cases u; cases v; simp_all
  rcases good_kinds hu with h1 | h1 | h1
  · have h2 := key u v hu hv h1.1 h
    rcases good_kinds hv with h3 | h3 | h3
    · rw [vprint_one hu h1.1, vprint_one hv h2] at h
      exact hext (by omega) (dtext_inj h) (by rw [h1.2, h3.2])
    · omega
    · omega
  · have h2 := key2 u v hu hv h1.1 h
    rcases good_kinds hv with h3 | h3 | h3
    · omega
    · rw [vprint_two hu h1.1, vprint_two hv h2] at h
      injection h with _ h
      have h4 : dbl u.s.data.toList = dbl v.s.data.toList := List.append_cancel_right h
      have h5 : u.s.data.toList = v.s.data.toList := by rw [← unq_dbl u.s.data.toList, h4, unq_dbl]
      exact hext (by omega) (by omega) (ba_ext h5)
    · omega
  · rcases good_kinds hv with h3 | h3 | h3
    · have := key v u hv hu h3.1 h.symm; omega
    · have := key2 v u hv hu h3.1 h.symm; omega
    · rw [vprint_three hu h1.1, vprint_three hv h3.1] at h
      refine hext (by omega) ?_ (by rw [h1.2.2, h3.2.2])
      rcases h1.2.1 with h4 | h4 <;> rcases h3.2.1 with h5 | h5 <;> rw [h4, h5] at h ⊢
      · exact absurd h (by decide)
      · exact absurd h (by decide)
end Ca
end Go.Proofs.YtjcgociobhhijaaDoor
