/- Plain laws of values, bytes and replaced texts: no program in sight. -/
import Derived.Test.YtjcgociobhhijaaHL
import Derived.Lib.Replace
set_option linter.unusedVariables false
set_option linter.unusedSimpArgs false
namespace Go.Proofs.Ytjcgociobhhijaa.SX
open Go

/-! ### bytes -/
theorem ba_ext {a b : ByteArray} (h : a.data.toList = b.data.toList) : a = b := by
  obtain ⟨⟨a⟩⟩ := a; obtain ⟨⟨b⟩⟩ := b
  simp at h
  rw [h]
theorem sEq_iff {x y : ByteArray} : sEq x y = true ↔ x = y := by
  unfold sEq
  rw [beq_iff_eq, ByteArray.toList_eq, ByteArray.toList_eq]
  exact ⟨ba_ext, fun h => by rw [h]⟩
theorem sEq_self (x : ByteArray) : sEq x x = true := sEq_iff.2 rfl
theorem sEq_not {x y : ByteArray} : sEq x y = false ↔ x ≠ y := by
  rw [Ne, ← sEq_iff]
  simp

theorem bytesLess_irrefl : ∀ l : List UInt8, Op.bytesLess l l = false
  | [] => rfl
  | a :: l => by
    rw [Op.bytesLess.eq_3, bytesLess_irrefl l]
    simp
theorem bytesLess_total : ∀ a b : List UInt8, Op.bytesLess a b = false → a ≠ b → Op.bytesLess b a = true
  | [], [], _, h => absurd rfl h
  | a :: x, [], _, _ => rfl
  | [], b :: y, h, _ => by simp [Op.bytesLess] at h
  | a :: x, b :: y, h, hne => by
    rw [Op.bytesLess.eq_3] at h ⊢
    simp only [Bool.or_eq_false_iff, decide_eq_false_iff_not, Bool.and_eq_false_iff] at h
    obtain ⟨h1, h2⟩ := h
    by_cases hab : a = b
    · subst hab
      have h3 : Op.bytesLess x y = false := by rcases h2 with h2 | h2; simp at h2; exact h2
      have := bytesLess_total x y h3 (fun e => hne (by rw [e]))
      simp [this]
    · have : b < a := by
        rcases Nat.lt_or_ge b.toNat a.toNat with h | h
        · exact h
        · exfalso
          have h4 : a.toNat ≠ b.toNat := fun e => hab (UInt8.toNat_inj.1 e)
          exact h1 (show a.toNat < b.toNat by omega)
      simp [this]
theorem bytesLess_asymm : ∀ a b : List UInt8, Op.bytesLess a b = true → Op.bytesLess b a = false
  | _, [], h => by cases ‹List UInt8› <;> simp [Op.bytesLess] at h
  | [], b :: y, _ => rfl
  | a :: x, b :: y, h => by
    rw [Op.bytesLess.eq_3] at h ⊢
    simp only [Bool.or_eq_true, decide_eq_true_eq, Bool.and_eq_true, beq_iff_eq] at h
    simp only [Bool.or_eq_false_iff, decide_eq_false_iff_not, Bool.and_eq_false_iff]
    rcases h with h | ⟨rfl, h⟩
    · have hn : ¬ b < a := fun h' => by
        have h1 : a.toNat < b.toNat := h
        have h2 : b.toNat < a.toNat := h'
        omega
      refine ⟨hn, .inl ?_⟩
      have : b ≠ a := fun e => by subst e; have h1 : b.toNat < b.toNat := h; omega
      simpa using this
    · exact ⟨fun h' => by have h1 : a.toNat < a.toNat := h'; omega, .inr (bytesLess_asymm x y h)⟩

theorem sLt_irrefl (x : ByteArray) : sLt x x = false := bytesLess_irrefl _
theorem sLt_asymm {x y : ByteArray} (h : sLt x y = true) : sLt y x = false := bytesLess_asymm _ _ h
theorem sLt_total {x y : ByteArray} (h : sLt x y = false) (hne : x ≠ y) : sLt y x = true := by
  refine bytesLess_total _ _ h fun e => hne ?_
  rw [ByteArray.toList_eq, ByteArray.toList_eq] at e
  exact ba_ext e

/-! ### values -/
structure Val where
  k : Int
  n : Int
  s : ByteArray

def Val.cells (v : Val) : List Value := [.int .i64 v.k, .int .i64 v.n, .string v.s]
def Val.val (v : Val) : Value := .agg #[.int .i64 v.k, .int .i64 v.n, .string v.s]
def vals (xs : List Val) : List Value := xs.flatMap Val.cells
@[simp] theorem vals_nil : vals [] = [] := rfl
@[simp] theorem vals_cons (x : Val) (xs : List Val) : vals (x :: xs) = x.cells ++ vals xs := rfl
@[simp] theorem vals_length (xs : List Val) : (vals xs).length = xs.length * 3 := by
  induction xs with
  | nil => rfl
  | cons x xs ih => rw [vals_cons, List.length_append, ih, List.length_cons, Nat.add_mul]; simp [Val.cells]; omega
theorem vals_append (xs ys : List Val) : vals (xs ++ ys) = vals xs ++ vals ys := by simp [vals]
theorem vals_one (xs : List Val) : ∀ v ∈ vals xs, v.oneCell' = true := by
  intro v hv
  simp only [vals, List.mem_flatMap] at hv
  obtain ⟨x, _, hx⟩ := hv
  simp only [Val.cells, List.mem_cons, List.mem_nil_iff, or_false] at hx
  rcases hx with rfl | rfl | rfl <;> rfl
theorem vals_get : ∀ {xs : List Val} {i j : Nat} (h : i < xs.length), j < 3 → (vals xs)[i * 3 + j]? = (xs[i].cells)[j]?
  | [], _, _, h, _ => by simp at h
  | x :: xs, 0, j, _, hj => by
    rw [vals_cons, Nat.zero_mul, Nat.zero_add, List.getElem?_append_left (by simpa [Val.cells] using hj)]
    rfl
  | x :: xs, i + 1, j, h, hj => by
    rw [vals_cons, List.getElem?_append_right (by simp [Val.cells]; omega)]
    have h' : i < xs.length := by simpa using h
    have := vals_get (i := i) (j := j) h' hj
    rw [show (i + 1) * 3 + j - x.cells.length = i * 3 + j by simp [Val.cells]; omega, this]
    rfl
theorem vals_take (xs : List Val) (n : Nat) : vals (xs.take n) = (vals xs).take (n * 3) := by
  induction xs generalizing n with
  | nil => simp
  | cons x xs ih =>
    cases n with
    | zero => simp
    | succ n =>
      rw [List.take_succ_cons, vals_cons, vals_cons, ih, List.take_append, show (n + 1) * 3 - x.cells.length = n * 3 by simp [Val.cells]; omega, List.take_of_length_le (l := x.cells) (by simp [Val.cells]; omega)]
theorem vals_drop (xs : List Val) (n : Nat) : vals (xs.drop n) = (vals xs).drop (n * 3) := by
  induction xs generalizing n with
  | nil => simp
  | cons x xs ih =>
    cases n with
    | zero => simp
    | succ n =>
      rw [List.drop_succ_cons, vals_cons, ih, List.drop_append, show (n + 1) * 3 - x.cells.length = n * 3 by simp [Val.cells]; omega, List.drop_of_length_le (l := x.cells) (by simp [Val.cells]; omega)]
      rfl

theorem Addr.add_two (a : Addr) (n m : Nat) : (a.add n).add m = a.add (n + m) := by
  unfold Addr.add
  by_cases hm : m = 0
  · subst hm; simp
  · by_cases hn : n = 0
    · subst hn; simp
    · have : ¬ n + m = 0 := by omega
      simp only [hm, hn, this, ↓reduceIte, Nat.add_assoc]

/-- The value at a place of a row. -/
theorem At.val {w : World} {p : Option Addr} {xs : List Val} (h : At w p (vals xs)) {i : Nat} (hi : i < xs.length) :
    ∃ a, p = some a ∧ SX.cellsAt w (a.add (i * 3)) 0 [.int .i64 xs[i].k, .int .i64 xs[i].n, .string xs[i].s] := by
  obtain ⟨a, hp, h0⟩ := h (i * 3 + 0) _ (vals_get hi (by omega))
  obtain ⟨a1, hp1, h1⟩ := h (i * 3 + 1) _ (vals_get hi (by omega))
  obtain ⟨a2, hp2, h2⟩ := h (i * 3 + 2) _ (vals_get hi (by omega))
  rw [hp] at hp1 hp2
  injection hp1 with hp1; injection hp2 with hp2
  subst hp1; subst hp2
  exact ⟨a, hp, by rw [Addr.add_two]; exact h0, by rw [Addr.add_two]; exact h1, by rw [Addr.add_two]; exact h2, trivial⟩

def empty : ByteArray := ByteArray.empty

/-- Is a value right? -/
def Val.right (v : Val) : Bool := (v.k == 1 && sEq v.s ⟨#[]⟩) || (v.k == 2 && (v.n == 0 && decide ((v.s.size : Int) ≤ 200))) || (v.k == 3 && ((v.n == 0 || v.n == 1) && sEq v.s ⟨#[]⟩))

def icmp (x y : Int) : Int := if x < y then -1 else if y < x then 1 else 0
def scmp (x y : ByteArray) : Int := if sLt x y = true then -1 else if x = y then 0 else 1
def Val.cmp (a b : Val) : Int := if icmp a.k b.k ≠ 0 then icmp a.k b.k else if icmp a.n b.n ≠ 0 then icmp a.n b.n else scmp a.s b.s
def Val.less (a b : Val) : Bool := if a.k ≠ b.k then decide (a.k < b.k) else if a.n ≠ b.n then decide (a.n < b.n) else sLt a.s b.s

theorem Val.cmp_less (a b : Val) : a.cmp b = if a.less b = true then -1 else if b.less a = true then 1 else 0 := by
  unfold Val.cmp Val.less icmp scmp
  by_cases h1 : a.k = b.k
  · by_cases h2 : a.n = b.n
    · simp only [h1, h2, Int.lt_irrefl, ↓reduceIte, ne_eq, not_true_eq_false]
      by_cases h3 : sLt a.s b.s = true
      · simp [h3]
      · simp only [Bool.not_eq_true] at h3
        by_cases h4 : a.s = b.s
        · simp [h4, sLt_irrefl]
        · simp [h3, h4, sLt_total h3 h4]
    · have h2' : ¬ b.n = a.n := fun e => h2 e.symm
      rcases Int.lt_or_lt_of_ne h2 with h | h
      · simp [h1, h2, h2', h]
      · have : ¬ a.n < b.n := by omega
        simp [h1, h2, h2', h, this]
  · have h1' : ¬ b.k = a.k := fun e => h1 e.symm
    rcases Int.lt_or_lt_of_ne h1 with h | h
    · simp [h1, h1', h]
    · have : ¬ a.k < b.k := by omega
      simp [h1, h1', h, this]

/-- Which of two rows stands first. -/
def rowsCmp : List Val → List Val → Int
  | [], [] => 0
  | [], _ :: _ => -1
  | _ :: _, [] => 1
  | a :: as, b :: bs => if a.cmp b ≠ 0 then a.cmp b else rowsCmp as bs

theorem rowsCmp_step {xs ys : List Val} {i : Nat} (hx : i < xs.length) (hy : i < ys.length) : rowsCmp (xs.drop i) (ys.drop i) = if xs[i].cmp ys[i] ≠ 0 then xs[i].cmp ys[i] else rowsCmp (xs.drop (i + 1)) (ys.drop (i + 1)) := by
  rw [List.drop_eq_getElem_cons hx, List.drop_eq_getElem_cons hy, rowsCmp]
theorem rowsCmp_end {xs ys : List Val} {i : Nat} (h : ¬ (i < xs.length ∧ i < ys.length)) (hi : i ≤ xs.length) (hi' : i ≤ ys.length) :
    rowsCmp (xs.drop i) (ys.drop i) = if xs.length = ys.length then 0 else if xs.length < ys.length then -1 else 1 := by
  by_cases hx : i < xs.length
  · have hy : ¬ i < ys.length := fun hy => h ⟨hx, hy⟩
    rw [List.drop_eq_getElem_cons hx, List.drop_of_length_le (l := ys) (by omega), rowsCmp, if_neg (by omega), if_neg (by omega)]
  · by_cases hy : i < ys.length
    · rw [List.drop_of_length_le (l := xs) (by omega), List.drop_eq_getElem_cons hy, rowsCmp, if_neg (by omega), if_pos (by omega)]
    · rw [List.drop_of_length_le (l := xs) (by omega), List.drop_of_length_le (l := ys) (by omega), rowsCmp, if_pos (by omega)]

/-! ### replaced bytes -/
/-- Each byte c is replaced. -/
def repl (c : UInt8) (new : List UInt8) (s : List UInt8) : List UInt8 := s.flatMap fun b => if b = c then new else [b]

theorem not_mem_take_idxOf (c : UInt8) : ∀ s : List UInt8, c ∉ s.take (s.idxOf c)
  | [] => by simp
  | b :: s => by
    rw [List.idxOf_cons]
    by_cases hb : b = c
    · simp [hb]
    · have h2 : (b == c) = false := by simpa using hb
      have ih := not_mem_take_idxOf c s
      simp only [h2, cond_false, List.take_succ_cons, List.mem_cons, not_or]
      exact ⟨fun e => hb e.symm, ih⟩
theorem index_one (c : UInt8) : ∀ s : List UInt8, Lib.index s [c] = if c ∈ s then ((s.idxOf c : Nat) : Int) else -1
  | [] => by simp [Lib.index]
  | b :: s => by
    have ih := index_one c s
    unfold Lib.index
    by_cases hb : c = b
    · subst hb; simp
    · have hb' : ¬ b = c := fun e => hb e.symm
      rw [ih]
      by_cases hm : c ∈ s
      · simp only [List.isPrefixOf, hm, ↓reduceIte, List.mem_cons, or_true, List.idxOf_cons]
        have : (c == b) = false := by simpa using hb
        have h2 : (b == c) = false := by simpa using hb'
        simp [this, h2]
      · have : (c == b) = false := by simpa using hb
        simp [List.isPrefixOf, hm, hb, this]

theorem countFrom_one (c : UInt8) : ∀ (fuel : Nat) (s : List UInt8), s.length < fuel → Lib.countFrom [c] fuel s = s.count c
  | 0, s, h => by omega
  | fuel + 1, s, h => by
    rw [Lib.countFrom.eq_2, index_one]
    by_cases hm : c ∈ s
    · rw [if_pos hm, if_neg (by simp)]
      have hlt : s.idxOf c < s.length := List.idxOf_lt_length_of_mem hm
      rw [countFrom_one c fuel _ (by simp; omega)]
      have e : s = s.take (s.idxOf c) ++ c :: s.drop (s.idxOf c + 1) := by
        have h1 : s.drop (s.idxOf c) = c :: s.drop (s.idxOf c + 1) := by
          rw [List.drop_eq_getElem_cons hlt, List.getElem_idxOf hlt]
        rw [← h1, List.take_append_drop]
      have h0 : (s.take (s.idxOf c)).count c = 0 := by
        rw [List.count_eq_zero]
        exact not_mem_take_idxOf c s
      have hc : s.count c = (s.take (s.idxOf c)).count c + (c :: s.drop (s.idxOf c + 1)).count c := by
        rw [← List.count_append, ← e]
      rw [hc, h0, List.count_cons_self]
      simp
      omega
    · rw [if_neg hm, if_pos (by simp), List.count_eq_zero.2 hm]

theorem replaceK_one (c : UInt8) (new : List UInt8) : ∀ (k : Nat) (s : List UInt8), k = s.count c → Lib.replaceK [c] new k s = repl c new s
  | 0, s, h => by
    have hm : c ∉ s := List.count_eq_zero.1 h.symm
    show s = repl c new s
    unfold repl
    have : ∀ l : List UInt8, c ∉ l → l.flatMap (fun b => if b = c then new else [b]) = l := by
      intro l
      induction l with
      | nil => intro _; rfl
      | cons b l ih =>
        intro h
        simp only [List.mem_cons, not_or] at h
        rw [List.flatMap_cons, ih h.2, if_neg (fun e => h.1 e.symm)]
        rfl
    rw [this s hm]
  | k + 1, s, h => by
    have hm : c ∈ s := by
      refine Classical.byContradiction fun hn => ?_
      rw [List.count_eq_zero.2 hn] at h
      omega
    have hlt : s.idxOf c < s.length := List.idxOf_lt_length_of_mem hm
    have e : s = s.take (s.idxOf c) ++ c :: s.drop (s.idxOf c + 1) := by
      have h1 : s.drop (s.idxOf c) = c :: s.drop (s.idxOf c + 1) := by
        rw [List.drop_eq_getElem_cons hlt, List.getElem_idxOf hlt]
      rw [← h1, List.take_append_drop]
    have hnot : c ∉ s.take (s.idxOf c) := not_mem_take_idxOf c s
    have hc : s.count c = (s.take (s.idxOf c)).count c + (c :: s.drop (s.idxOf c + 1)).count c := by
      rw [← List.count_append, ← e]
    rw [List.count_eq_zero.2 hnot, List.count_cons_self] at hc
    have hi : Lib.index s [c] = ((s.idxOf c : Nat) : Int) := by rw [index_one, if_pos hm]
    rw [Lib.replaceK_hit _ _ _ _ _ hi]
    simp only [List.length_cons, List.length_nil, Nat.zero_add]
    rw [replaceK_one c new k _ (by omega)]
    have h0 := replaceK_one c new 0 (s.take (s.idxOf c)) (List.count_eq_zero.2 hnot).symm
    have h1 : Lib.replaceK [c] new 0 (s.take (s.idxOf c)) = s.take (s.idxOf c) := rfl
    rw [h1] at h0
    rw [show repl c new s = repl c new (s.take (s.idxOf c) ++ c :: s.drop (s.idxOf c + 1)) by rw [← e]]
    unfold repl at h0 ⊢
    rw [List.flatMap_append, ← h0, List.flatMap_cons, if_pos rfl, List.append_assoc]

theorem replaceAll_one (c : UInt8) (new s : List UInt8) : Lib.replaceAll s [c] new = repl c new s := by
  unfold Lib.replaceAll Lib.replace
  have hcnt : Lib.count s [c] = s.count c := countFrom_one c _ s (by omega)
  by_cases h : ([c] == new) = true
  · rw [if_pos h]
    have : [c] = new := by simpa using h
    subst this
    unfold repl
    have : ∀ l : List UInt8, l.flatMap (fun b => if b = c then [c] else [b]) = l := by
      intro l
      induction l with
      | nil => rfl
      | cons b l ih =>
        rw [List.flatMap_cons, ih]
        by_cases hb : b = c <;> simp [hb]
    rw [this]
  · rw [if_neg h]
    refine replaceK_one c new _ s ?_
    unfold Lib.replaceNum
    rw [if_pos (.inl (by omega)), hcnt]
theorem countB_one (c : UInt8) (s : ByteArray) : Lib.countB s ⟨#[c]⟩ ≤ s.size := by
  have : Lib.countB s ⟨#[c]⟩ = s.data.toList.count c := countFrom_one c _ _ (by omega)
  rw [this]
  exact List.count_le_length
end Go.Proofs.Ytjcgociobhhijaa.SX
