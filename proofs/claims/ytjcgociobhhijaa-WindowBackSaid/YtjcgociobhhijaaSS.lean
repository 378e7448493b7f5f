/- Plain laws of schemas, and how they lie in memory: no program in sight. -/
import Derived.Test.YtjcgociobhhijaaVS
set_option linter.unusedVariables false
set_option linter.unusedSimpArgs false
namespace Go.Proofs.Ytjcgociobhhijaa.SX
open Go

def ints (xs : List Int) : List Value := xs.map (Value.int .i64)
@[simp] theorem ints_length (xs : List Int) : (ints xs).length = xs.length := by simp [ints]
theorem ints_get {xs : List Int} {i : Nat} (h : i < xs.length) : (ints xs)[i]? = some (.int .i64 xs[i]) := by simp [ints, h]
theorem ints_append (xs ys : List Int) : ints (xs ++ ys) = ints xs ++ ints ys := by simp [ints]
theorem ints_take (xs : List Int) (n : Nat) : ints (xs.take n) = (ints xs).take n := by simp [ints]
theorem ints_one (xs : List Int) : ∀ v ∈ ints xs, v.oneCell' = true := by intro v hv; simp only [ints, List.mem_map] at hv; obtain ⟨_, _, rfl⟩ := hv; rfl

/-- One round of a loop that reads. -/
theorem scan_next {n k : Nat} {w w2 : World} {Q : Nat → Prop} (hk : k < n) (hn : n ≤ 9223372036854775806) (hu : Upd Nothing w w2) (hq : Q (k + 1)) :
    (∃ k' : Nat, IntKind.i64.wrap ((k : Int) + 1) = (k' : Int) ∧ k' ≤ n ∧ Upd Nothing w w2 ∧ Q k') ∧ n - (IntKind.i64.wrap ((k : Int) + 1)).toNat < n - (k : Int).toNat := by
  rw [i64_wrap (by omega) (by omega)]
  exact ⟨⟨k + 1, by omega, by omega, hu, hq⟩, by omega⟩

theorem forall_take {α : Type} {P : α → Prop} {l : List α} {k : Nat} (hk : k < l.length) (h : ∀ x ∈ l.take k, P x) (hx : P l[k]) : ∀ x ∈ l.take (k + 1), P x := by
  rw [List.take_succ_eq_append_getElem hk]
  intro x hm
  rcases List.mem_append.1 hm with hm | hm
  · exact h x hm
  · have : x = l[k] := by simpa using hm
    rw [this]; exact hx

/-! ### names -/
def letterP (c : Int) : Prop := 97 ≤ c ∧ c ≤ 122
def partP (c : Int) : Prop := letterP c ∨ (48 ≤ c ∧ c ≤ 57) ∨ c = 95
/-- Is a text a name? -/
def NameP (s : ByteArray) : Prop := 1 ≤ s.size ∧ s.size ≤ 16 ∧ letterP (bt s 0) ∧ ∀ b ∈ s.data.toList, partP (b.toNat : Int)

/-! ### columns, indexes, schemas -/
structure Col where
  name : ByteArray
  kind : Int
def Col.cells (c : Col) : List Value := [.string c.name, .int .i64 c.kind]
structure Ix where
  cols : List Int
  unique : Bool
structure Schm where
  name : ByteArray
  cols : List Col
  ixs : List Ix
  limit : Int
  parts : Int
  by_ : Int

/-- Columns in memory. -/
def Cols (w : World) (p : Option Addr) (l : List Col) : Prop := ∀ i (h : i < l.length), ∃ a, p = some a ∧ cellsAt w (a.add (i * 2)) 0 [.string l[i].name, .int .i64 l[i].kind]
/-- Indexes in memory. -/
def Ixs (w : World) (p : Option Addr) (l : List Ix) : Prop := ∀ i (h : i < l.length), ∃ a q n c, p = some a ∧ cellsAt w (a.add (i * 2)) 0 [.slice q n c, .bool l[i].unique] ∧ At w q (ints l[i].cols) ∧ l[i].cols.length = n ∧ n ≤ c
theorem cellsAt_upd0 {w w' : World} (hu : Upd Nothing w w') : ∀ {xs : List Value} {a : Addr} {i : Nat}, cellsAt w a i xs → cellsAt w' a i xs
  | [], _, _, _ => trivial
  | x :: xs, a, i, h => ⟨hu.cell h.1 fun f => f, cellsAt_upd0 hu h.2⟩
theorem Cols.upd0 {w w' : World} {p : Option Addr} {l : List Col} (h : Cols w p l) (hu : Upd Nothing w w') : Cols w' p l := fun i hi => by
  obtain ⟨a, hp, hc⟩ := h i hi
  exact ⟨a, hp, cellsAt_upd0 hu hc⟩
theorem Ixs.upd0 {w w' : World} {p : Option Addr} {l : List Ix} (h : Ixs w p l) (hu : Upd Nothing w w') : Ixs w' p l := fun i hi => by
  obtain ⟨a, q, n, c, hp, hc, hat, hl, hn⟩ := h i hi
  exact ⟨a, q, n, c, hp, cellsAt_upd0 hu hc, hat.upd0 hu, hl, hn⟩

/-- Is it so of no two? -/
def Unlike {α : Type} (same : α → α → Prop) (l : List α) : Prop := ∀ i j (hi : i < l.length) (hj : j < i), ¬ same l[i] (l[j]'(Nat.lt_trans hj hi))

def IxP (n : Nat) (x : Ix) : Prop := (∀ c ∈ x.cols, 0 ≤ c ∧ c ≤ (n : Int) - 1) ∧ 0 < x.cols.length ∧ Unlike (· = ·) x.cols
/-- Is a schema right? -/
def Schm.Right (s : Schm) : Prop :=
  NameP s.name ∧ ((∀ c ∈ s.cols, NameP c.name ∧ 1 ≤ c.kind ∧ c.kind ≤ 3) ∧ (1 ≤ s.cols.length ∧ s.cols.length ≤ 8) ∧ Unlike (fun a b : Col => a.name = b.name) s.cols) ∧
  ((∀ x ∈ s.ixs, IxP s.cols.length x) ∧ (1 ≤ s.ixs.length ∧ s.ixs.length ≤ 4) ∧ (∀ x, s.ixs[0]? = some x → x.unique = true) ∧ Unlike (fun a b : Ix => a.cols = b.cols) s.ixs) ∧
  (1 ≤ s.limit ∧ s.limit ≤ 1000) ∧ (1 ≤ s.parts ∧ s.parts ≤ 8) ∧ 0 ≤ s.by_ ∧ s.by_ ≤ (s.cols.length : Int) - 1
end Go.Proofs.Ytjcgociobhhijaa.SX
