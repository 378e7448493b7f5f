/- Plain laws of the rows of keys: no program in sight. -/
import Derived.Test.YtjcgociobhhijaaVK
set_option linter.unusedVariables false
set_option linter.unusedSimpArgs false
namespace Go.Proofs.Ytjcgociobhhijaa.SX
open Go

def txt (l : List UInt8) : ByteArray := ⟨l.toArray⟩

/-- A text of a key, and what stands behind it. -/
def untext : List UInt8 → Option (List UInt8 × List UInt8)
  | [] => none
  | [b] => none
  | b :: c :: r => if b = 0 then (if c = 1 then some ([], r) else if c = 255 then (untext r).map (fun x => (0 :: x.1, x.2)) else none) else (untext (c :: r)).map fun x => (b :: x.1, x.2)

theorem untext_step {b : UInt8} (hb : b ≠ 0) (r : List UInt8) : untext (b :: r) = (untext r).map fun x => (b :: x.1, x.2) := by
  cases r with
  | nil => rfl
  | cons c r => rw [untext, if_neg hb]

theorem untext_repl (s rest : List UInt8) : untext (repl 0 [0, 255] s ++ [0, 1] ++ rest) = some (s, rest) := by
  induction s with
  | nil => rfl
  | cons b s ih =>
    have e : repl 0 [0, 255] (b :: s) = (if b = 0 then [0, 255] else [b]) ++ repl 0 [0, 255] s := rfl
    rw [e]
    by_cases hb : b = 0
    · rw [if_pos hb, hb]
      show untext (0 :: 255 :: (repl 0 [0, 255] s ++ [0, 1] ++ rest)) = _
      rw [untext, ih]
      rfl
    · rw [if_neg hb]
      show untext (b :: (repl 0 [0, 255] s ++ [0, 1] ++ rest)) = _
      rw [untext_step hb, ih]
      rfl

theorem untext_eq : ∀ (r t rest : List UInt8), untext r = some (t, rest) → r = repl 0 [0, 255] t ++ [0, 1] ++ rest
  | [], t, rest, h => by simp [untext] at h
  | [b], t, rest, h => by simp [untext] at h
  | b :: c :: r, t, rest, h => by
    rw [untext] at h
    split at h
    · rename_i hb
      subst hb
      split at h
      · rename_i hc
        subst hc
        simp only [Option.some.injEq, Prod.mk.injEq] at h
        obtain ⟨rfl, rfl⟩ := h
        rfl
      · split at h
        · rename_i hc
          subst hc
          obtain ⟨⟨t', rest'⟩, h1, h2⟩ := Option.map_eq_some_iff.1 h
          simp only [Prod.mk.injEq] at h2
          obtain ⟨rfl, rfl⟩ := h2
          have := untext_eq r t' rest' h1
          rw [this]
          rfl
        · simp at h
    · rename_i hb
      obtain ⟨⟨t', rest'⟩, h1, h2⟩ := Option.map_eq_some_iff.1 h
      simp only [Prod.mk.injEq] at h2
      obtain ⟨rfl, rfl⟩ := h2
      have := untext_eq (c :: r) t' rest' h1
      rw [this]
      have e : repl 0 [0, 255] (b :: t') = [b] ++ repl 0 [0, 255] t' := by
        show (if b = 0 then [0, 255] else [b]) ++ repl 0 [0, 255] t' = _
        rw [if_neg hb]
      rw [e]
      rfl

/-- The text that the document's answer tries. -/
def cand2 : List UInt8 → List UInt8
  | [] => []
  | [b] => []
  | b :: c :: r => if b = 0 ∧ c = 1 then [] else if b = 0 then b :: cand2 r else b :: cand2 (c :: r)

theorem cand2_of : ∀ (r t rest : List UInt8), untext r = some (t, rest) → cand2 r = t
  | [], t, rest, h => by simp [untext] at h
  | [b], t, rest, h => by simp [untext] at h
  | b :: c :: r, t, rest, h => by
    rw [untext] at h
    rw [cand2]
    split at h
    · rename_i hb
      split at h
      · rename_i hc
        rw [if_pos ⟨hb, hc⟩]
        simp only [Option.some.injEq, Prod.mk.injEq] at h
        exact h.1
      · rename_i hc
        rw [if_neg (fun h => hc h.2), if_pos hb]
        split at h
        · obtain ⟨⟨t', rest'⟩, h1, h2⟩ := Option.map_eq_some_iff.1 h
          simp only [Prod.mk.injEq] at h2
          obtain ⟨rfl, rfl⟩ := h2
          rw [cand2_of r t' rest' h1, hb]
        · simp at h
    · rename_i hb
      rw [if_neg (fun h => hb h.1), if_neg hb]
      obtain ⟨⟨t', rest'⟩, h1, h2⟩ := Option.map_eq_some_iff.1 h
      simp only [Prod.mk.injEq] at h2
      obtain ⟨rfl, rfl⟩ := h2
      rw [cand2_of (c :: r) t' rest' h1]

/-- A number of bytes, the greatest first. -/
def num (l : List UInt8) : Nat := l.foldl (fun u b => u * 256 + b.toNat) 0
theorem num_append (l : List UInt8) (b : UInt8) : num (l ++ [b]) = num l * 256 + b.toNat := by simp [num]
theorem num_lt : ∀ (n : Nat) (l : List UInt8), l.length = n → num l < 256 ^ n := by
  intro n
  induction n with
  | zero => intro l h; have : l = [] := by simpa using h
            subst this; simp [num]
  | succ n ih =>
    intro l h
    obtain ⟨l', b, rfl⟩ : ∃ l' b, l = l' ++ [b] := ⟨l.dropLast, l.getLast (by intro e; subst e; simp at h), (List.dropLast_concat_getLast _).symm⟩
    rw [num_append]
    have := ih l' (by simpa using h)
    have hb := b.toNat_lt
    rw [Nat.pow_succ]
    omega

theorem beN_snoc (u : Nat) : ∀ k : Nat, beN u (k + 1) = beN (u / 256) k ++ [UInt8.ofNat (u % 256)]
  | 0 => by simp [beN]
  | k + 1 => by
    have ih := beN_snoc u k
    rw [beN, ih, beN, Nat.div_div_eq_div_mul, Nat.pow_succ, Nat.mul_comm 256]
    rfl
theorem beN_num : ∀ (n : Nat) (l : List UInt8), l.length = n → beN (num l) n = l := by
  intro n
  induction n with
  | zero => intro l h; have : l = [] := by simpa using h
            subst this; rfl
  | succ n ih =>
    intro l h
    obtain ⟨l', b, rfl⟩ : ∃ l' b, l = l' ++ [b] := ⟨l.dropLast, l.getLast (by intro e; subst e; simp at h), (List.dropLast_concat_getLast _).symm⟩
    have hb := b.toNat_lt
    rw [num_append, beN_snoc, show (num l' * 256 + b.toNat) / 256 = num l' by omega, ih l' (by simpa using h), show (num l' * 256 + b.toNat) % 256 = b.toNat by omega, UInt8.ofNat_toNat]
theorem be8_num {l : List UInt8} (h : l.length = 8) : be8 ((num l : Int) - 9223372036854775808) = l := by
  have hlt := num_lt 8 l h
  have hu : up ((num l : Int) - 9223372036854775808) = num l := by
    unfold up
    have : (256 : Nat) ^ 8 = 18446744073709551616 := by decide
    omega
  rw [← beN_eight, hu, beN_num 8 l h]

theorem num_beN : ∀ (k u : Nat), num (beN u k) = u % 256 ^ k
  | 0, u => by simp [beN, num, Nat.mod_one]
  | k + 1, u => by
    rw [beN_snoc, num_append, num_beN k, Nat.pow_succ, Nat.mul_comm (256 ^ k) 256, Nat.mod_mul, UInt8.toNat_ofNat']
    omega
theorem num_be8 (n : Int) : num (be8 n) = up n := by
  have hup : up n < 18446744073709551616 := by unfold up; omega
  have : (256 : Nat) ^ 8 = 18446744073709551616 := by decide
  rw [← beN_eight, num_beN, this, Nat.mod_eq_of_lt hup]

/-! ### the first value of a key -/
/-- Right, of a number of 64 bits. -/
def Val.good (v : Val) : Prop := v.right = true ∧ -9223372036854775808 ≤ v.n ∧ v.n ≤ 9223372036854775807

def third : List UInt8 → Option (Val × List UInt8)
  | [] => none
  | c :: r => if c.toNat ≤ 1 then some (⟨3, c.toNat, ⟨#[]⟩⟩, r) else none
def firstV (s : List UInt8) : Option (Val × List UInt8) := if s.head? = some 1 then (if s.tail.length < 8 then none else some (⟨1, (num (s.tail.take 8) : Int) - 9223372036854775808, ⟨#[]⟩⟩, s.tail.drop 8))
    else if s.head? = some 2 then (untext s.tail).map fun x => (⟨2, 0, txt x.1⟩, x.2)
    else if s.head? = some 3 then third s.tail
    else none
theorem firstV_cons (b : UInt8) (r : List UInt8) : firstV (b :: r) = if b = 1 then (if r.length < 8 then none else some (⟨1, (num (r.take 8) : Int) - 9223372036854775808, ⟨#[]⟩⟩, r.drop 8))
    else if b = 2 then (untext r).map fun x => (⟨2, 0, txt x.1⟩, x.2)
    else if b = 3 then third r
    else none := by
  unfold firstV
  by_cases h1 : b = 1
  · simp [h1]
  · by_cases h2 : b = 2
    · simp [h2]
    · by_cases h3 : b = 3 <;> simp [h1, h2, h3]

theorem good_kinds {v : Val} (h : v.right = true) : (v.k = 1 ∧ v.s = ⟨#[]⟩) ∨ (v.k = 2 ∧ v.n = 0 ∧ v.s.size ≤ 200) ∨ (v.k = 3 ∧ (v.n = 0 ∨ v.n = 1) ∧ v.s = ⟨#[]⟩) := by
  unfold Val.right at h
  simp only [Bool.or_eq_true, Bool.and_eq_true, beq_iff_eq, sEq_iff, decide_eq_true_eq] at h
  rcases h with (⟨h1, h2⟩ | ⟨h1, h2, h3⟩) | ⟨h1, h2, h3⟩
  · exact .inl ⟨h1, h2⟩
  · exact .inr (.inl ⟨h1, h2, by omega⟩)
  · exact .inr (.inr ⟨h1, h2, h3⟩)

theorem vkey_one {v : Val} (h : v.k = 1) : vkey v = 1 :: be8 v.n := by unfold vkey vrest; rw [if_pos h, h]; rfl
theorem vkey_two {v : Val} (h : v.k = 2) : vkey v = 2 :: (repl 0 [0, 255] v.s.data.toList ++ [0, 1]) := by unfold vkey vrest; rw [if_neg (by omega), if_pos h, h]; rfl
theorem vkey_three {v : Val} (h : v.k = 3) : vkey v = [3, lowByte v.n] := by unfold vkey vrest; rw [if_neg (by omega), if_neg (by omega), if_pos h, h]; rfl

theorem txt_self (s : ByteArray) : txt s.data.toList = s := by refine ba_ext ?_; simp [txt]

theorem firstV_vkey {v : Val} (h : v.good) (rest : List UInt8) : firstV (vkey v ++ rest) = some (v, rest) := by
  obtain ⟨hr, h1, h2⟩ := h
  obtain ⟨k, n, s⟩ := v
  simp only at h1 h2
  rcases good_kinds hr with ⟨hk, hs⟩ | ⟨hk, hn, hs⟩ | ⟨hk, hn, hs⟩
  · simp only at hk hs
    subst hk; subst hs
    rw [vkey_one rfl]
    show firstV (1 :: (be8 n ++ rest)) = _
    rw [firstV_cons, if_pos rfl, if_neg (by rw [List.length_append, be8_length]; omega), List.take_left' (be8_length n), List.drop_left' (be8_length n), num_be8]
    congr 3
    unfold up
    omega
  · simp only at hk hn hs
    subst hk; subst hn
    rw [vkey_two rfl]
    show firstV (2 :: (repl 0 [0, 255] s.data.toList ++ [0, 1] ++ rest)) = _
    rw [firstV_cons, if_neg (by decide), if_pos rfl, untext_repl]
    simp [txt_self]
  · simp only at hk hn hs
    subst hk; subst hs
    rw [vkey_three rfl]
    show firstV (3 :: lowByte n :: rest) = _
    rw [firstV_cons, if_neg (by decide), if_neg (by decide), if_pos rfl]
    rcases hn with rfl | rfl
    · rfl
    · rfl

theorem firstV_eq {s rest : List UInt8} {v : Val} (h : firstV s = some (v, rest)) : s = vkey v ++ rest ∧ -9223372036854775808 ≤ v.n ∧ v.n ≤ 9223372036854775807 := by
  cases s with
  | nil => simp [firstV] at h
  | cons b r =>
    rw [firstV_cons] at h
    split at h
    · rename_i hb
      split at h
      · simp at h
      · rename_i hlen
        simp only [Option.some.injEq, Prod.mk.injEq] at h
        obtain ⟨rfl, rfl⟩ := h
        have hl : (r.take 8).length = 8 := by rw [List.length_take]; omega
        have hlt := num_lt 8 _ hl
        have : (256 : Nat) ^ 8 = 18446744073709551616 := by decide
        refine ⟨?_, by show _ ≤ (num (r.take 8) : Int) - 9223372036854775808; omega, by show (num (r.take 8) : Int) - 9223372036854775808 ≤ _; omega⟩
        rw [vkey_one rfl]
        show b :: r = 1 :: (be8 ((num (r.take 8) : Int) - 9223372036854775808) ++ r.drop 8)
        rw [be8_num hl, List.take_append_drop, hb]
    · split at h
      · rename_i hb
        obtain ⟨⟨t, rest'⟩, h1, h2⟩ := Option.map_eq_some_iff.1 h
        simp only [Prod.mk.injEq] at h2
        obtain ⟨rfl, rfl⟩ := h2
        refine ⟨?_, by show -9223372036854775808 ≤ (0 : Int); omega, by show (0 : Int) ≤ 9223372036854775807; omega⟩
        rw [vkey_two rfl, hb, untext_eq _ _ _ h1]
        simp [txt]
      · split at h
        · rename_i hb
          cases r with
          | nil => simp [third] at h
          | cons c r' =>
            rw [third] at h
            split at h
            · rename_i hc
              simp only [Option.some.injEq, Prod.mk.injEq] at h
              obtain ⟨rfl, rfl⟩ := h
              refine ⟨?_, by show _ ≤ ((c.toNat : Nat) : Int); omega, by show ((c.toNat : Nat) : Int) ≤ _; omega⟩
              rw [vkey_three rfl, hb]
              show 3 :: c :: r' = 3 :: lowByte (c.toNat : Int) :: r'
              have : lowByte (c.toNat : Int) = c := by
                unfold lowByte
                rw [show ((c.toNat : Int) % 256).toNat = c.toNat by omega, UInt8.ofNat_toNat]
              rw [this]
            · simp at h
        · simp at h

theorem vkey_ne (v : Val) : vkey v ≠ [] := by unfold vkey; simp
theorem vkeys_inj : ∀ {xs ys : List Val} {s : List UInt8}, (∀ x ∈ xs, x.good) → (∀ y ∈ ys, y.good) → vkeys xs ++ s = vkeys ys → ∃ zs, ys = xs ++ zs ∧ s = vkeys zs
  | [], ys, s, _, _, h => ⟨ys, rfl, h⟩
  | x :: xs, [], s, _, _, h => by
    have e : vkeys (x :: xs) = vkey x ++ vkeys xs := rfl
    rw [e, List.append_assoc] at h
    have := congrArg List.length h
    have h0 : vkeys ([] : List Val) = [] := rfl
    rw [h0, List.length_append, List.length_nil] at this
    have hx := vkey_ne x
    have : (vkey x).length = 0 := by omega
    exact absurd (List.length_eq_zero_iff.1 this) hx
  | x :: xs, y :: ys, s, hx, hy, h => by
    have e : vkeys (x :: xs) = vkey x ++ vkeys xs := rfl
    have e' : vkeys (y :: ys) = vkey y ++ vkeys ys := rfl
    rw [e, e', List.append_assoc] at h
    have h1 := firstV_vkey (hx x (by simp)) (vkeys xs ++ s)
    rw [h, firstV_vkey (hy y (by simp))] at h1
    simp only [Option.some.injEq, Prod.mk.injEq] at h1
    obtain ⟨rfl, h2⟩ := h1
    obtain ⟨zs, rfl, hz⟩ := vkeys_inj (fun a ha => hx a (by simp [ha])) (fun a ha => hy a (by simp [ha])) h2.symm
    exact ⟨zs, rfl, hz⟩

/-- What the row of a key is. -/
def Unk (s : List UInt8) (ok : Bool) (xs : List Val) : Prop := (ok = true ∧ (∀ x ∈ xs, x.good) ∧ vkeys xs = s) ∨ (ok = false ∧ xs = [] ∧ ∀ ys, (∀ y ∈ ys, y.good) → vkeys ys ≠ s)
theorem Unk.unique {s : List UInt8} {a b : Bool} {xs ys : List Val} (h : Unk s a xs) (k : Unk s b ys) : a = b ∧ xs = ys := by
  rcases h with ⟨rfl, h1, h2⟩ | ⟨rfl, rfl, h2⟩ <;> rcases k with ⟨rfl, k1, k2⟩ | ⟨rfl, rfl, k2⟩
  · refine ⟨rfl, ?_⟩
    obtain ⟨zs, rfl, hz⟩ := vkeys_inj (s := []) h1 k1 (by rw [List.append_nil, h2, k2])
    cases zs with
    | nil => simp
    | cons z zs =>
      have e : vkeys (z :: zs) = vkey z ++ vkeys zs := rfl
      rw [e] at hz
      have := congrArg List.length hz
      have hx := vkey_ne z
      rw [List.length_append, List.length_nil] at this
      have : (vkey z).length = 0 := by omega
      exact absurd (List.length_eq_zero_iff.1 this) hx
  · exact absurd h2 (k2 _ h1)
  · exact absurd k2 (h2 _ k1)
  · exact ⟨rfl, rfl⟩
theorem Unk.stuck {s rest : List UInt8} {xs : List Val} (hx : ∀ x ∈ xs, x.good) (hs : s = vkeys xs ++ rest) (hne : rest ≠ []) (hno : ∀ v r, v.good → rest ≠ vkey v ++ r) : Unk s false [] := by
  refine .inr ⟨rfl, rfl, fun ys hy h => ?_⟩
  obtain ⟨zs, rfl, hz⟩ := vkeys_inj hx hy (hs.symm.trans h.symm)
  cases zs with
  | nil => exact hne hz
  | cons z zs => exact hno z (vkeys zs) (hy z (by simp)) hz
end Go.Proofs.Ytjcgociobhhijaa.SX
