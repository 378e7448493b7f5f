/- Plain laws of decimal digits, the lowest first, and of numbers' texts: no program in sight. -/
import Derived.Test.YtjcgociobhhijaaDoorSS
set_option linter.unusedVariables false
set_option linter.unusedSimpArgs false
namespace Go.Proofs.YtjcgociobhhijaaDoor.SX
open Go

def dval : List Nat → Nat
  | [] => 0
  | d :: l => d + 10 * dval l
def digs (n : Nat) : List Nat := if h : n = 0 then [] else n % 10 :: digs (n / 10)
  termination_by n
  decreasing_by omega
theorem digs_zero : digs 0 = [] := by rw [digs]; rfl
theorem digs_pos {n : Nat} (h : 0 < n) : digs n = n % 10 :: digs (n / 10) := by rw [digs, dif_neg (by omega)]
theorem digs_nil {n : Nat} (h : digs n = []) : n = 0 := by
  rcases Nat.eq_zero_or_pos n with h0 | h0
  · exact h0
  · rw [digs_pos h0] at h; cases h
theorem dval_digs (n : Nat) : dval (digs n) = n := by
  induction n using Nat.strongRecOn with
  | ind n ih =>
    rcases Nat.eq_zero_or_pos n with h | h
    · subst h; rw [digs_zero]; rfl
    · rw [digs_pos h]
      show n % 10 + 10 * dval (digs (n / 10)) = n
      rw [ih (n / 10) (by omega)]
      omega
theorem digs_lt (n : Nat) : ∀ d ∈ digs n, d < 10 := by
  induction n using Nat.strongRecOn with
  | ind n ih =>
    rcases Nat.eq_zero_or_pos n with h | h
    · subst h; rw [digs_zero]; simp
    · rw [digs_pos h]
      intro d hd
      rcases List.mem_cons.1 hd with rfl | hd
      · omega
      · exact ih (n / 10) (by omega) d hd
theorem dval_append : ∀ a b : List Nat, dval (a ++ b) = dval a + 10 ^ a.length * dval b
  | [], b => by simp [dval]
  | d :: a, b => by
    rw [List.cons_append]
    simp only [dval]
    rw [dval_append a b, List.length_cons, Nat.pow_succ, Nat.mul_add, Nat.add_assoc, Nat.mul_comm (10 ^ a.length) 10, Nat.mul_assoc]
theorem dval_lt : ∀ l : List Nat, (∀ d ∈ l, d < 10) → dval l < 10 ^ l.length
  | [], _ => by simp [dval]
  | d :: l, h => by
    have h1 := dval_lt l fun x hx => h x (by simp [hx])
    have h2 := h d (by simp)
    simp only [dval, List.length_cons, Nat.pow_succ]
    omega
theorem digs_of : ∀ l : List Nat, (∀ d ∈ l, d < 10) → l.getLast? ≠ some 0 → digs (dval l) = l
  | [], _, _ => by simp [dval, digs_zero]
  | [d], h, hl => by
    have h1 := h d (by simp)
    have h2 : d ≠ 0 := fun e => hl (by simp [e])
    have h3 : d / 10 = 0 := by omega
    simp only [dval, Nat.mul_zero, Nat.add_zero]
    rw [digs_pos (by omega), h3, digs_zero, Nat.mod_eq_of_lt h1]
  | d :: x :: l, h, hl => by
    have h1 := h d (by simp)
    have ih := digs_of (x :: l) (fun y hy => h y (List.mem_cons_of_mem _ hy)) (by rw [List.getLast?_cons_cons] at hl; exact hl)
    have hpos : 0 < dval (x :: l) := by
      rcases Nat.eq_zero_or_pos (dval (x :: l)) with h0 | h0
      · rw [h0, digs_zero] at ih; cases ih
      · exact h0
    show digs (d + 10 * dval (x :: l)) = _
    rw [digs_pos (by omega), show (d + 10 * dval (x :: l)) % 10 = d by omega, show (d + 10 * dval (x :: l)) / 10 = dval (x :: l) by omega, ih]
theorem dval_snoc_zero (l : List Nat) : dval (l ++ [0]) = dval l := by rw [dval_append]; simp [dval]
theorem digs_length_le {n k : Nat} (h : n < 10 ^ k) : (digs n).length ≤ k := by
  induction k generalizing n with
  | zero =>
    have : n = 0 := by simpa using h
    subst this
    simp [digs_zero]
  | succ k ih =>
    rcases Nat.eq_zero_or_pos n with h0 | h0
    · subst h0; simp [digs_zero]
    · rw [digs_pos h0, List.length_cons]
      have := ih (n := n / 10) (by rw [Nat.pow_succ] at h; omega)
      omega
theorem digs_last (n : Nat) : (digs n).getLast? ≠ some 0 := by
  induction n using Nat.strongRecOn with
  | ind n ih =>
    rcases Nat.eq_zero_or_pos n with h | h
    · subst h; rw [digs_zero]; simp
    · rw [digs_pos h]
      rcases Nat.eq_zero_or_pos (n / 10) with h1 | h1
      · rw [h1, digs_zero]
        simp
        omega
      · rw [digs_pos h1, List.getLast?_cons_cons, ← digs_pos h1]
        exact ih _ (by omega)
theorem digs_ge {n : Nat} (h : 0 < n) : 10 ^ ((digs n).length - 1) ≤ n := by
  induction n using Nat.strongRecOn with
  | ind n ih =>
    rw [digs_pos h, List.length_cons, Nat.add_sub_cancel]
    rcases Nat.eq_zero_or_pos (n / 10) with h1 | h1
    · rw [h1, digs_zero]
      simp
      omega
    · have h2 := ih (n / 10) (by omega) h1
      have h3 : (digs (n / 10)).length = (digs (n / 10)).length - 1 + 1 := by
        rw [digs_pos h1]; simp
      rw [h3, Nat.pow_succ]
      omega
/-- More digits are more. -/
theorem digs_more {x y : Nat} (h : (digs x).length < (digs y).length) : x < y := by
  have h1 := dval_lt (digs x) (digs_lt x)
  rw [dval_digs] at h1
  have hy : 0 < y := by
    rcases Nat.eq_zero_or_pos y with h0 | h0
    · subst h0; rw [digs_zero] at h; simp at h
    · exact h0
  have h2 := digs_ge hy
  have h3 : 10 ^ (digs x).length ≤ 10 ^ ((digs y).length - 1) := Nat.pow_le_pow_right (by decide) (by omega)
  omega
/-- The first digits, from above, that are unlike tell. -/
theorem dval_at {a b : List Nat} {i : Nat} (ha : ∀ d ∈ a, d < 10) (hb : ∀ d ∈ b, d < 10) (hl : a.length = b.length) (hi : i < a.length) (hd : a.drop (i + 1) = b.drop (i + 1)) (h : a[i] < b[i]'(by omega)) : dval a < dval b := by
  have ea : a = a.take i ++ a[i] :: a.drop (i + 1) := by rw [← List.drop_eq_getElem_cons hi, List.take_append_drop]
  have eb : b = b.take i ++ (b[i]'(by omega)) :: b.drop (i + 1) := by rw [← List.drop_eq_getElem_cons (show i < b.length by omega), List.take_append_drop]
  have va : dval a = dval (a.take i) + 10 ^ i * (a[i] + 10 * dval (a.drop (i + 1))) := by
    have := dval_append (a.take i) (a[i] :: a.drop (i + 1))
    rw [← ea, List.length_take, Nat.min_eq_left (by omega)] at this
    exact this
  have vb : dval b = dval (b.take i) + 10 ^ i * ((b[i]'(by omega)) + 10 * dval (b.drop (i + 1))) := by
    have := dval_append (b.take i) ((b[i]'(by omega)) :: b.drop (i + 1))
    rw [← eb, List.length_take, Nat.min_eq_left (by omega)] at this
    exact this
  have h1 := dval_lt (a.take i) fun d hd => ha d (List.mem_of_mem_take hd)
  rw [List.length_take, Nat.min_eq_left (by omega)] at h1
  rw [va, vb, hd]
  have h2 : 10 ^ i * (a[i] + 1 + 10 * dval (b.drop (i + 1))) ≤ 10 ^ i * ((b[i]'(by omega)) + 10 * dval (b.drop (i + 1))) := Nat.mul_le_mul_left _ (by omega)
  have h3 : 10 ^ i * (a[i] + 1 + 10 * dval (b.drop (i + 1))) = 10 ^ i + 10 ^ i * (a[i] + 10 * dval (b.drop (i + 1))) := by
    rw [Nat.add_right_comm, Nat.mul_add, Nat.mul_one, Nat.add_comm]
  omega

/-! ### texts of numbers -/
def digB (d : Nat) : UInt8 := UInt8.ofNat (48 + d)
theorem digB_toNat {d : Nat} (h : d < 10) : (digB d).toNat = 48 + d := by unfold digB; simp; omega
/-- A size's text. -/
def ntext (n : Nat) : List UInt8 := if n = 0 then [48] else (digs n).reverse.map digB
/-- A number's text. -/
def dtext (n : Int) : List UInt8 := if n < 0 then 45 :: ntext n.natAbs else ntext n.natAbs

/-- The size of a text of digits, the highest first. -/
def tval (s : List UInt8) : Nat := s.foldl (fun u b => 10 * u + (b.toNat - 48)) 0
theorem tval_nil : tval [] = 0 := rfl
theorem tval_snoc (s : List UInt8) (b : UInt8) : tval (s ++ [b]) = 10 * tval s + (b.toNat - 48) := by simp [tval]
def isDig (b : UInt8) : Prop := 48 ≤ b.toNat ∧ b.toNat ≤ 57
theorem tval_rev : ∀ l : List UInt8, tval l.reverse = dval (l.map fun b => b.toNat - 48)
  | [] => rfl
  | b :: l => by
    rw [List.reverse_cons, tval_snoc, tval_rev l, List.map_cons]
    show _ = (b.toNat - 48) + 10 * _
    omega
theorem tval_dval (s : List UInt8) : tval s = dval (s.reverse.map fun b => b.toNat - 48) := by
  have := tval_rev s.reverse
  rw [List.reverse_reverse] at this
  exact this
theorem digB_of {b : UInt8} (h : isDig b) : digB (b.toNat - 48) = b := by
  unfold digB
  refine UInt8.toNat_inj.1 ?_
  have := h.1
  have := b.toNat_lt
  simp
  omega
/-- A text of digits that begins with none that is 0 is the text of its size. -/
theorem ntext_of {s : List UInt8} (hd : ∀ b ∈ s, isDig b) (hne : s ≠ []) (h0 : s.head? = some 48 → s = [48]) : s = ntext (tval s) := by
  by_cases h48 : s.head? = some 48
  · rw [h0 h48]; rfl
  obtain ⟨b, r, rfl⟩ := List.exists_cons_of_ne_nil hne
  have hb : b ≠ 48 := fun e => h48 (by simp [e])
  have hbd := hd b (by simp)
  let l := (b :: r).reverse.map fun b => b.toNat - 48
  have hl : ∀ d ∈ l, d < 10 := by
    intro d hm
    simp only [l, List.mem_map, List.mem_reverse] at hm
    obtain ⟨x, hx, rfl⟩ := hm
    have := (hd x hx).2
    omega
  have hlast : l.getLast? ≠ some 0 := by
    simp only [l, List.reverse_cons, List.map_append, List.map_cons, List.map_nil, List.getLast?_append, List.getLast?_singleton, Option.some_or]
    intro e
    injection e with e
    have := hbd.1
    exact hb (UInt8.toNat_inj.1 (by show b.toNat = 48; omega))
  have hv : dval l = tval (b :: r) := (tval_dval _).symm
  have hdg : digs (tval (b :: r)) = l := by rw [← hv]; exact digs_of l hl hlast
  have hnz : tval (b :: r) ≠ 0 := fun e => by
    rw [e, digs_zero] at hdg
    have : l.length = 0 := by rw [← hdg]; rfl
    simp [l] at this
  unfold ntext
  rw [if_neg hnz, hdg]
  simp only [l, ← List.map_reverse, List.reverse_reverse, List.map_map]
  have : ∀ t : List UInt8, (∀ x ∈ t, isDig x) → t = t.map (digB ∘ fun b => b.toNat - 48) := by
    intro t
    induction t with
    | nil => intro _; rfl
    | cons x t ih => intro h; rw [List.map_cons, ← ih fun y hy => h y (by simp [hy])]; show x :: t = digB (x.toNat - 48) :: t; rw [digB_of (h x (by simp))]
  exact this _ hd
theorem ntext_dig (n : Nat) : ∀ b ∈ ntext n, isDig b := by
  intro b hb
  unfold ntext at hb
  split at hb
  · simp at hb; subst hb; exact ⟨by decide, by decide⟩
  · simp only [List.mem_map, List.mem_reverse] at hb
    obtain ⟨d, hd, rfl⟩ := hb
    have := digs_lt n d hd
    have h2 := digB_toNat this
    exact ⟨by omega, by omega⟩
theorem ntext_ne (n : Nat) : ntext n ≠ [] := by
  unfold ntext
  split
  · simp
  · intro h
    simp at h
    rename_i h0
    exact h0 (digs_nil h)
theorem tval_ntext (n : Nat) : tval (ntext n) = n := by
  unfold ntext
  split
  · rename_i h; subst h; rfl
  · rw [tval_dval, List.map_reverse, List.map_map, List.map_reverse, List.reverse_reverse]
    have : ∀ l : List Nat, (∀ d ∈ l, d < 10) → l.map ((fun b : UInt8 => b.toNat - 48) ∘ digB) = l := by
      intro l
      induction l with
      | nil => intro _; rfl
      | cons x l ih => intro h; rw [List.map_cons, ih fun y hy => h y (by simp [hy])]; show ((digB x).toNat - 48) :: l = _; rw [digB_toNat (h x (by simp))]; simp
    rw [this _ (digs_lt n), dval_digs]
theorem ntext_head (n : Nat) (h : (ntext n).head? = some 48) : ntext n = [48] := by
  by_cases h0 : n = 0
  · subst h0; rfl
  · exfalso
    unfold ntext at h
    rw [if_neg h0] at h
    have hl := digs_last n
    rw [List.head?_map, List.head?_reverse] at h
    obtain ⟨d, hd, he⟩ := Option.map_eq_some_iff.1 h
    have hd' := digs_lt n d (List.mem_of_getLast? hd)
    have h1 := digB_toNat hd'
    rw [he] at h1
    have : d = 0 := by have : (48 : UInt8).toNat = 48 := rfl; omega
    subst this
    exact hl hd
theorem dtext_inj {m n : Int} (h : dtext m = dtext n) : m = n := by
  have hno : ∀ a b : Nat, (45 : UInt8) :: ntext a ≠ ntext b := fun a b e => by
    have := ntext_dig b 45 (by rw [← e]; simp)
    exact absurd this.1 (by decide)
  unfold dtext at h
  split at h <;> split at h
  · injection h with _ h
    have := congrArg tval h
    rw [tval_ntext, tval_ntext] at this
    omega
  · exact absurd h (hno _ _)
  · exact absurd h.symm (hno _ _)
  · have := congrArg tval h
    rw [tval_ntext, tval_ntext] at this
    omega
theorem ntext_length {n : Nat} (h : n < 10 ^ 19) : (ntext n).length ≤ 19 := by
  unfold ntext
  split
  · simp
  · have := digs_length_le h
    simpa using this
end Go.Proofs.YtjcgociobhhijaaDoor.SX
