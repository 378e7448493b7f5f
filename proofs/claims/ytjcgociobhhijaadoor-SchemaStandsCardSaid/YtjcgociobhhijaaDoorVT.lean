/- Plain laws: keys stand in the order of their rows. -/
import Derived.Test.YtjcgociobhhijaaDoorVU
set_option linter.unusedVariables false
set_option linter.unusedSimpArgs false
namespace Go.Proofs.YtjcgociobhhijaaDoor.SX
open Go

abbrev bl := Op.bytesLess
theorem bl_cons (a b : UInt8) (x y : List UInt8) : bl (a :: x) (b :: y) = (decide (a < b) || a == b && bl x y) := Op.bytesLess.eq_3 a x b y
theorem bl_nil_cons (b : UInt8) (y : List UInt8) : bl [] (b :: y) = true := rfl
theorem bl_cons_nil (a : UInt8) (x : List UInt8) : bl (a :: x) [] = false := rfl
theorem lt_self (b : UInt8) : decide (b < b) = false := by
  rw [decide_eq_false_iff_not]
  intro h
  have h1 : b.toNat < b.toNat := h
  omega
theorem bl_same (a : UInt8) (x y : List UInt8) : bl (a :: x) (a :: y) = bl x y := by rw [bl_cons, lt_self]; simp
theorem bl_ne {a b : UInt8} (h : a ≠ b) (x y : List UInt8) : bl (a :: x) (b :: y) = decide (a.toNat < b.toNat) := by
  have h1 : (a == b) = false := by simpa using h
  rw [bl_cons, h1, Bool.false_and, Bool.or_false]
  rfl

theorem num_cons (b : UInt8) (l : List UInt8) : num (b :: l) = b.toNat * 256 ^ l.length + num l := by
  have key : ∀ (l : List UInt8) (u : Nat), l.foldl (fun u b => u * 256 + b.toNat) u = u * 256 ^ l.length + num l := by
    intro l
    induction l with
    | nil => intro u; simp [num]
    | cons c l ih =>
      intro u
      have h1 := ih (u * 256 + c.toNat)
      have h2 := ih (0 * 256 + c.toNat)
      unfold num
      rw [List.foldl_cons, List.foldl_cons, h1, h2, List.length_cons, Nat.pow_succ, Nat.add_mul, Nat.mul_assoc, Nat.mul_comm 256]
      simp only [Nat.zero_mul, Nat.zero_add]
      omega
  have := key l (0 * 256 + b.toNat)
  unfold num
  rw [List.foldl_cons, this]
  simp only [Nat.zero_mul, Nat.zero_add]
  rfl

theorem bl_num : ∀ (x y s t : List UInt8), x.length = y.length → bl (x ++ s) (y ++ t) = if num x = num y then bl s t else decide (num x < num y)
  | [], [], s, t, _ => by simp [num]
  | a :: x, b :: y, s, t, h => by
    have hl : x.length = y.length := by simpa using h
    have hx := num_lt x.length x rfl
    have hy := num_lt y.length y rfl
    rw [hl] at hx
    rw [num_cons, num_cons, hl]
    have ih := bl_num x y s t hl
    generalize 256 ^ y.length = p at *
    show bl (a :: (x ++ s)) (b :: (y ++ t)) = _
    by_cases hab : a = b
    · subst hab
      rw [bl_same, ih]
      by_cases hn : num x = num y
      · rw [if_pos hn, if_pos (by omega)]
      · rw [if_neg hn, if_neg (by omega)]
        rw [decide_eq_decide]
        omega
    · rw [bl_ne hab]
      have hne : a.toNat ≠ b.toNat := fun e => hab (UInt8.toNat_inj.1 e)
      rcases Nat.lt_or_gt_of_ne hne with h1 | h1
      · have h2 : (a.toNat + 1) * p ≤ b.toNat * p := Nat.mul_le_mul_right _ h1
        rw [Nat.add_mul, Nat.one_mul] at h2
        rw [if_neg (by omega), decide_eq_decide]
        omega
      · have h2 : (b.toNat + 1) * p ≤ a.toNat * p := Nat.mul_le_mul_right _ h1
        rw [Nat.add_mul, Nat.one_mul] at h2
        rw [if_neg (by omega), decide_eq_decide]
        omega

theorem bl_text : ∀ (x y s t : List UInt8), bl (repl 0 [0, 255] x ++ [0, 1] ++ s) (repl 0 [0, 255] y ++ [0, 1] ++ t) = if x = y then bl s t else bl x y
  | [], [], s, t => by
    show bl (0 :: 1 :: s) (0 :: 1 :: t) = _
    rw [bl_same, bl_same, if_pos rfl]
  | [], b :: y, s, t => by
    have e : repl 0 [0, 255] (b :: y) = (if b = 0 then [0, 255] else [b]) ++ repl 0 [0, 255] y := rfl
    rw [e, if_neg (show ¬ ([] = b :: y) by simp), bl_nil_cons]
    by_cases hb : b = 0
    · rw [if_pos hb]
      show bl (0 :: 1 :: s) (0 :: 255 :: _) = true
      rw [bl_same, bl_ne (by decide)]
      decide
    · rw [if_neg hb]
      show bl (0 :: 1 :: s) (b :: _) = true
      rw [bl_ne (fun h => hb h.symm)]
      have : b.toNat ≠ 0 := fun e => hb (UInt8.toNat_inj.1 e)
      exact decide_eq_true (by show 0 < b.toNat; omega)
  | a :: x, [], s, t => by
    have e : repl 0 [0, 255] (a :: x) = (if a = 0 then [0, 255] else [a]) ++ repl 0 [0, 255] x := rfl
    rw [e, if_neg (show ¬ (a :: x = []) by simp), bl_cons_nil]
    by_cases ha : a = 0
    · rw [if_pos ha]
      show bl (0 :: 255 :: _) (0 :: 1 :: t) = false
      rw [bl_same, bl_ne (by decide)]
      decide
    · rw [if_neg ha]
      show bl (a :: _) (0 :: 1 :: t) = false
      rw [bl_ne ha]
      exact decide_eq_false (by show ¬ a.toNat < 0; omega)
  | a :: x, b :: y, s, t => by
    have e : repl 0 [0, 255] (a :: x) = (if a = 0 then [0, 255] else [a]) ++ repl 0 [0, 255] x := rfl
    have e' : repl 0 [0, 255] (b :: y) = (if b = 0 then [0, 255] else [b]) ++ repl 0 [0, 255] y := rfl
    rw [e, e']
    by_cases hab : a = b
    · subst hab
      have ih := bl_text x y s t
      have hif : (if a :: x = a :: y then bl s t else bl (a :: x) (a :: y)) = if x = y then bl s t else bl x y := by
        by_cases h : x = y
        · rw [if_pos h, if_pos (by rw [h])]
        · rw [if_neg h, if_neg (fun h' => h (by injection h')), bl_same]
      rw [hif, ← ih]
      by_cases ha : a = 0
      · rw [if_pos ha]
        show bl (0 :: 255 :: _) (0 :: 255 :: _) = _
        rw [bl_same, bl_same]
        rfl
      · rw [if_neg ha]
        show bl (a :: _) (a :: _) = _
        rw [bl_same]
        rfl
    · rw [if_neg (show ¬ (a :: x = b :: y) from fun h => hab (by injection h)), bl_ne hab]
      by_cases ha : a = 0
      · have hb : b ≠ 0 := fun h => hab (by rw [ha, h])
        rw [if_pos ha, if_neg hb, ha]
        show bl (0 :: 255 :: _) (b :: _) = _
        rw [bl_ne (fun h => hb h.symm)]
      · rw [if_neg ha]
        by_cases hb : b = 0
        · rw [if_pos hb, hb]
          show bl (a :: _) (0 :: 255 :: _) = _
          rw [bl_ne ha]
        · rw [if_neg hb]
          show bl (a :: _) (b :: _) = _
          rw [bl_ne hab]

theorem up_lt {m n : Int} (hm : -9223372036854775808 ≤ m ∧ m ≤ 9223372036854775807) (hn : -9223372036854775808 ≤ n ∧ n ≤ 9223372036854775807) : (up m = up n ↔ m = n) ∧ (up m < up n ↔ m < n) := by
  unfold up
  omega

theorem scmp_lt (x y : ByteArray) : (scmp x y ≠ 0 ↔ x ≠ y) ∧ (scmp x y < 0 ↔ sLt x y = true) := by
  unfold scmp
  by_cases h : sLt x y = true
  · rw [if_pos h]
    refine ⟨⟨fun _ e => ?_, fun _ => by decide⟩, ⟨fun _ => h, fun _ => by decide⟩⟩
    subst e
    rw [sLt_irrefl] at h
    cases h
  · rw [if_neg h]
    by_cases e : x = y
    · simp [e, h, sLt_irrefl]
    · simp [e, h]

/-- Two keys, by their first values. -/
theorem bl_key {u v : Val} (hu : u.good) (hv : v.good) (s t : List UInt8) : bl (vkey u ++ s) (vkey v ++ t) = if u.cmp v ≠ 0 then decide (u.cmp v < 0) else bl s t := by
  obtain ⟨k, n, x⟩ := u
  obtain ⟨k', n', y⟩ := v
  obtain ⟨hur, hun⟩ := hu
  obtain ⟨hvr, hvn⟩ := hv
  have hkd : ∀ (a b : UInt8) (i j : Int) (x' y' : List UInt8), a ≠ b → i ≠ j → (a.toNat < b.toNat ↔ i < j) → k = i → k' = j → bl (a :: x') (b :: y') = if Val.cmp ⟨k, n, x⟩ ⟨k', n', y⟩ ≠ 0 then decide (Val.cmp ⟨k, n, x⟩ ⟨k', n', y⟩ < 0) else bl s t := by
    intro a b i j x' y' hab hij hlt hk hk'
    rw [bl_ne hab]
    unfold Val.cmp icmp
    simp only [hk, hk']
    by_cases h1 : i < j
    · simp [h1, hlt.2 h1]
    · have h2 : j < i := by omega
      have h3 : ¬ a.toNat < b.toNat := fun h => h1 (hlt.1 h)
      simp [h1, h2, h3]
  rcases good_kinds hur with ⟨hk, hs⟩ | ⟨hk, hn0, hs⟩ | ⟨hk, hn0, hs⟩ <;> rcases good_kinds hvr with ⟨hk', hs'⟩ | ⟨hk', hn0', hs'⟩ | ⟨hk', hn0', hs'⟩
  all_goals simp only at hk hk' hs hs' hun hvn
  · rw [vkey_one hk, vkey_one hk']
    show bl (1 :: (be8 n ++ s)) (1 :: (be8 n' ++ t)) = _
    rw [bl_same, bl_num (be8 n) (be8 n') s t rfl, num_be8, num_be8]
    obtain ⟨h1, h2⟩ := up_lt hun hvn
    unfold Val.cmp icmp scmp
    simp only [hk, hk', hs, hs']
    by_cases hne : n = n'
    · subst hne
      simp [sLt_irrefl]
    · rw [if_neg (fun e => hne (h1.1 e))]
      by_cases hlt : n < n'
      · simp [hlt, h2.2 hlt]
      · have h4 : n' < n := by omega
        have h5 : ¬ up n < up n' := fun h => hlt (h2.1 h)
        simp [hlt, h4, h5]
  · rw [vkey_one hk, vkey_two hk']; exact hkd 1 2 1 2 _ _ (by decide) (by decide) (by decide) hk hk'
  · rw [vkey_one hk, vkey_three hk']; exact hkd 1 3 1 3 _ _ (by decide) (by decide) (by decide) hk hk'
  · rw [vkey_two hk, vkey_one hk']; exact hkd 2 1 2 1 _ _ (by decide) (by decide) (by decide) hk hk'
  · rw [vkey_two hk, vkey_two hk']
    simp only at hn0 hn0'
    show bl (2 :: (repl 0 [0, 255] x.data.toList ++ [0, 1] ++ s)) (2 :: (repl 0 [0, 255] y.data.toList ++ [0, 1] ++ t)) = _
    rw [bl_same, bl_text]
    have hsl : bl x.data.toList y.data.toList = sLt x y := by unfold sLt; rw [ByteArray.toList_eq, ByteArray.toList_eq]
    have hxy : x.data.toList = y.data.toList ↔ x = y := ⟨ba_ext, fun e => by rw [e]⟩
    obtain ⟨h1, h2⟩ := scmp_lt x y
    have hc : Val.cmp ⟨k, n, x⟩ ⟨k', n', y⟩ = scmp x y := by
      unfold Val.cmp icmp
      simp [hk, hk', hn0, hn0']
    rw [hc, hsl]
    by_cases he : x = y
    · rw [if_pos (hxy.2 he), if_neg (fun h => h1.1 h he)]
    · rw [if_neg (fun h => he (hxy.1 h)), if_pos (h1.2 he)]
      rw [Bool.eq_iff_iff, ← h2, decide_eq_true_eq]
  · rw [vkey_two hk, vkey_three hk']; exact hkd 2 3 2 3 _ _ (by decide) (by decide) (by decide) hk hk'
  · rw [vkey_three hk, vkey_one hk']; exact hkd 3 1 3 1 _ _ (by decide) (by decide) (by decide) hk hk'
  · rw [vkey_three hk, vkey_two hk']; exact hkd 3 2 3 2 _ _ (by decide) (by decide) (by decide) hk hk'
  · rw [vkey_three hk, vkey_three hk']
    simp only at hn0 hn0'
    show bl (3 :: lowByte n :: s) (3 :: lowByte n' :: t) = _
    rw [bl_same]
    have hc : Val.cmp ⟨k, n, x⟩ ⟨k', n', y⟩ = icmp n n' := by
      unfold Val.cmp icmp scmp
      simp only [hk, hk', hs, hs', sLt_irrefl]
      by_cases h : n < n' <;> by_cases h' : n' < n <;> simp [h, h']
    rw [hc]
    have l0 : lowByte 0 = 0 := rfl
    have l1 : lowByte 1 = 1 := rfl
    rcases hn0 with rfl | rfl <;> rcases hn0' with rfl | rfl
    · rw [bl_same]; rfl
    · rw [l0, l1, bl_ne (by decide)]; rfl
    · rw [l0, l1, bl_ne (by decide)]; rfl
    · rw [bl_same]; rfl

theorem cmp_range (u v : Val) : u.cmp v = -1 ∨ u.cmp v = 0 ∨ u.cmp v = 1 := by
  rw [Val.cmp_less]
  split
  · exact .inl rfl
  · split
    · exact .inr (.inr rfl)
    · exact .inr (.inl rfl)
theorem cmp_eq {u v : Val} (h : u.cmp v = 0) : u = v := by
  unfold Val.cmp at h
  split at h
  · rename_i h1; exact absurd h h1
  · rename_i h1
    split at h
    · rename_i h2; exact absurd h h2
    · rename_i h2
      obtain ⟨k, n, x⟩ := u
      obtain ⟨k', n', y⟩ := v
      simp only [ne_eq, Decidable.not_not] at h1 h2 h
      have e3 : x = y := by
        refine Classical.byContradiction fun hne => ?_
        exact ((scmp_lt x y).1.2 hne) h
      unfold icmp at h1 h2
      have e1 : k = k' := by
        split at h1
        · cases h1
        · split at h1
          · cases h1
          · omega
      have e2 : n = n' := by
        split at h2
        · cases h2
        · split at h2
          · cases h2
          · omega
      rw [e1, e2, e3]
theorem cmp_self (u : Val) : u.cmp u = 0 := by
  unfold Val.cmp icmp scmp
  simp [sLt_irrefl]

theorem rows_range : ∀ xs ys : List Val, rowsCmp xs ys = -1 ∨ rowsCmp xs ys = 0 ∨ rowsCmp xs ys = 1
  | [], [] => .inr (.inl rfl)
  | [], _ :: _ => .inl rfl
  | _ :: _, [] => .inr (.inr rfl)
  | x :: xs, y :: ys => by
    rw [rowsCmp]
    split
    · exact cmp_range x y
    · exact rows_range xs ys
theorem rows_eq : ∀ xs ys : List Val, rowsCmp xs ys = 0 ↔ xs = ys
  | [], [] => by simp [rowsCmp]
  | [], y :: ys => by simp [rowsCmp]
  | x :: xs, [] => by simp [rowsCmp]
  | x :: xs, y :: ys => by
    rw [rowsCmp]
    by_cases h : x.cmp y = 0
    · rw [if_neg (fun h' => h' h), rows_eq xs ys, cmp_eq h]
      simp
    · rw [if_pos h]
      refine ⟨fun h' => absurd h' h, fun e => ?_⟩
      injection e with e1 e2
      subst e1
      exact absurd (cmp_self x) h
theorem bl_keys : ∀ xs ys : List Val, (∀ x ∈ xs, x.good) → (∀ y ∈ ys, y.good) → bl (vkeys xs) (vkeys ys) = decide (rowsCmp xs ys < 0)
  | [], [], _, _ => rfl
  | [], y :: ys, _, _ => by
    have e : vkeys (y :: ys) = vkey y ++ vkeys ys := rfl
    rw [e]
    unfold vkey
    rfl
  | x :: xs, [], _, _ => by
    have e : vkeys (x :: xs) = vkey x ++ vkeys xs := rfl
    rw [e]
    unfold vkey
    rfl
  | x :: xs, y :: ys, hx, hy => by
    have e : vkeys (x :: xs) = vkey x ++ vkeys xs := rfl
    have e' : vkeys (y :: ys) = vkey y ++ vkeys ys := rfl
    rw [e, e', bl_key (hx x (by simp)) (hy y (by simp)), bl_keys xs ys (fun a ha => hx a (by simp [ha])) (fun a ha => hy a (by simp [ha])), rowsCmp]
    split <;> rfl
/-- Of rows of one length: what stands behind the keys decides where the rows are the same. -/
theorem bl_keys_app : ∀ (xs ys : List Val) (s t : List UInt8), xs.length = ys.length → (∀ x ∈ xs, x.good) → (∀ y ∈ ys, y.good) → bl (vkeys xs ++ s) (vkeys ys ++ t) = if rowsCmp xs ys ≠ 0 then decide (rowsCmp xs ys < 0) else bl s t
  | [], [], s, t, _, _, _ => by simp [rowsCmp, vkeys]
  | x :: xs, y :: ys, s, t, hl, hx, hy => by
    have e : vkeys (x :: xs) = vkey x ++ vkeys xs := rfl
    have e' : vkeys (y :: ys) = vkey y ++ vkeys ys := rfl
    rw [e, e', List.append_assoc, List.append_assoc, bl_key (hx x (by simp)) (hy y (by simp)), bl_keys_app xs ys s t (by simpa using hl) (fun a ha => hx a (by simp [ha])) (fun a ha => hy a (by simp [ha])), rowsCmp]
    by_cases h : x.cmp y ≠ 0
    · rw [if_pos h, if_pos h, if_pos h]
    · rw [if_neg h, if_neg h]
end Go.Proofs.YtjcgociobhhijaaDoor.SX
