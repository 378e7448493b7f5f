/- Plain laws of numbers as bytes, and of what the codec lays: no program in sight. -/
import Derived.Test.YtjcgociobhhijaaSS
set_option linter.unusedVariables false
set_option linter.unusedSimpArgs false
namespace Go.Proofs.Ytjcgociobhhijaa.SX
open Go

/-- The bytes of a number, the lowest first. -/
def bdig (n : Nat) : List Nat := if h : n = 0 then [] else n % 256 :: bdig (n / 256)
  termination_by n
  decreasing_by omega
theorem bdig_zero : bdig 0 = [] := by rw [bdig]; rfl
theorem bdig_pos {n : Nat} (h : 0 < n) : bdig n = n % 256 :: bdig (n / 256) := by rw [bdig, dif_neg (by omega)]
theorem bdig_len (n : Nat) : ∀ k, k < (bdig n).length ↔ n / 256 ^ k ≠ 0 := by
  induction n using Nat.strongRecOn with
  | ind n ih =>
    intro k
    rcases Nat.eq_zero_or_pos n with h | h
    · subst h; rw [bdig_zero]; simp
    · rw [bdig_pos h, List.length_cons]
      cases k with
      | zero => simp; omega
      | succ k =>
        have := ih (n / 256) (by omega) k
        rw [Nat.div_div_eq_div_mul, ← Nat.pow_succ'] at this
        rw [← this]
        omega
theorem bdig_get (n : Nat) : ∀ k (h : k < (bdig n).length), (bdig n)[k] = n / 256 ^ k % 256 := by
  induction n using Nat.strongRecOn with
  | ind n ih =>
    intro k hk
    rcases Nat.eq_zero_or_pos n with h | h
    · subst h; simp [bdig_zero] at hk
    · have e := bdig_pos h
      cases k with
      | zero =>
        have : (bdig n)[0]? = some (n % 256) := by rw [e]; rfl
        rw [List.getElem?_eq_getElem hk] at this
        simpa using this
      | succ k =>
        have hk' : k < (bdig (n / 256)).length := by rw [e, List.length_cons] at hk; omega
        have h1 : (bdig n)[k + 1]? = (bdig (n / 256))[k]? := by rw [e]; rfl
        rw [List.getElem?_eq_getElem hk, List.getElem?_eq_getElem hk'] at h1
        rw [Option.some.inj h1, ih (n / 256) (by omega) k hk', Nat.div_div_eq_div_mul, ← Nat.pow_succ']
theorem bdig_len8 {n : Nat} (h : n < 18446744073709551616) : (bdig n).length ≤ 8 := by
  rcases Nat.lt_or_ge 8 (bdig n).length with h1 | h1
  · have := (bdig_len n 8).1 h1
    exact absurd (Nat.div_eq_of_lt (by show n < 18446744073709551616; exact h)) this
  · exact h1
/-- How many bytes a number has, and these, the highest first. -/
def nb (n : Nat) : List UInt8 := (bdig n).reverse.map UInt8.ofNat
def numT (n : Nat) : List UInt8 := UInt8.ofNat (bdig n).length :: nb n
theorem nb_length (n : Nat) : (nb n).length = (bdig n).length := by simp [nb]
theorem numT_len {n : Nat} (h : n < 18446744073709551616) : (numT n).length ≤ 9 := by
  unfold numT
  rw [List.length_cons, nb_length]
  have := bdig_len8 h
  omega

def sizeT (n : Int) : List UInt8 := numT (if n < 0 then 0 else n.toNat)
def zig (n : Int) : Nat := if n < 0 then (2 * (-(n + 1)) + 1).toNat else (2 * n).toNat
def signedT (n : Int) : List UInt8 := numT (zig n)
def textT (s : List UInt8) : List UInt8 := sizeT s.length ++ s
def valT (v : Val) : List UInt8 := if v.right = true then (if v.k = 1 then 1 :: signedT v.n else if v.k = 2 then 2 :: textT v.s.data.toList else [3, lowByte v.n]) else 1 :: signedT 0
def rowT (r : List Val) : List UInt8 := sizeT r.length ++ r.flatMap valT
def rowsT (l : List (List Val)) : List UInt8 := sizeT l.length ++ l.flatMap rowT
theorem sizeT_len {n : Int} (h : n ≤ 9223372036854775807) : (sizeT n).length ≤ 9 := by
  unfold sizeT
  refine numT_len ?_
  split <;> omega
theorem signedT_len {n : Int} (h : -9223372036854775808 ≤ n ∧ n ≤ 9223372036854775807) : (signedT n).length ≤ 9 := by
  refine numT_len ?_
  unfold zig
  split <;> omega
theorem valT_len {v : Val} (h : -9223372036854775808 ≤ v.n ∧ v.n ≤ 9223372036854775807) : (valT v).length ≤ 300 := by
  unfold valT
  by_cases hr : v.right = true
  · rw [if_pos hr]
    split
    · have := signedT_len h
      rw [List.length_cons]; omega
    · split
      · unfold textT
        have h1 := sizeT_len (n := (v.s.data.toList.length : Int))
        have hsz : v.s.size ≤ 200 := by
          unfold Val.right at hr
          rename_i h2 h3
          simp [h3] at hr
          omega
        have hl : v.s.data.toList.length = v.s.size := rfl
        have := h1 (by omega)
        simp only [List.length_cons, List.length_append]
        omega
      · simp
  · rw [if_neg hr]
    have := signedT_len (n := 0) (by omega)
    rw [List.length_cons]; omega
theorem flat_len {α : Type} {f : α → List UInt8} {B : Nat} : ∀ {l : List α}, (∀ x ∈ l, (f x).length ≤ B) → (l.flatMap f).length ≤ B * l.length
  | [], _ => by simp
  | x :: l, h => by
    have h1 := h x (by simp)
    have h2 := flat_len (l := l) fun y hy => h y (by simp [hy])
    rw [List.flatMap_cons, List.length_append, List.length_cons, Nat.mul_add]
    omega
theorem rowT_len {r : List Val} (hn : r.length ≤ 1000000) (h : ∀ v ∈ r, -9223372036854775808 ≤ v.n ∧ v.n ≤ 9223372036854775807) : (rowT r).length ≤ 9 + 300 * r.length := by
  unfold rowT
  rw [List.length_append]
  have h1 := sizeT_len (n := (r.length : Int)) (by omega)
  have h2 := flat_len (f := valT) (B := 300) (l := r) fun v hv => valT_len (h v hv)
  omega
end Go.Proofs.Ytjcgociobhhijaa.SX
