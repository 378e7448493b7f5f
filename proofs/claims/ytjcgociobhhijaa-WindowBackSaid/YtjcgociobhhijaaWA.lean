/- Lists of lists in memory, by what blocks they lie in; windows, plain and in memory. -/
import Derived.Test.YtjcgociobhhijaaTY
set_option linter.unusedVariables false
set_option linter.unusedSimpArgs false
namespace Go.Proofs.Ytjcgociobhhijaa.SX
open Go

/-- Slices, one a cell. -/
def SlE {α : Type} (P : Option Addr → Nat → α → Prop) (xs : List Value) (l : List α) : Prop := xs.length = l.length ∧ ∀ i (h : i < l.length), ∃ q m d, xs[i]? = some (.slice q m d) ∧ P q m l[i] ∧ m ≤ d
section
variable {α : Type} {P Q : Option Addr → Nat → α → Prop} {xs ys : List Value} {l r : List α}
theorem SlE.nil : SlE P [] ([] : List α) := ⟨rfl, fun i h => by simp at h⟩
theorem SlE.one {q : Option Addr} {m d : Nat} {x : α} (h : P q m x) (hd : m ≤ d) : SlE P [.slice q m d] [x] := ⟨rfl, fun i hi => by
  have : i = 0 := by simp at hi; exact hi
  subst this
  exact ⟨q, m, d, rfl, h, hd⟩⟩
theorem SlE.append (h : SlE P xs l) (k : SlE P ys r) : SlE P (xs ++ ys) (l ++ r) := by
  refine ⟨by simp [h.1, k.1], fun i hi => ?_⟩
  by_cases hl : i < l.length
  · obtain ⟨q, m, d, h1, h2, h3⟩ := h.2 i hl
    refine ⟨q, m, d, by rw [List.getElem?_append_left (by rw [h.1]; exact hl)]; exact h1, ?_, h3⟩
    rw [List.getElem_append_left hl]; exact h2
  · have hi' : i - l.length < r.length := by simp at hi; omega
    obtain ⟨q, m, d, h1, h2, h3⟩ := k.2 (i - l.length) hi'
    refine ⟨q, m, d, by rw [List.getElem?_append_right (by rw [h.1]; omega), h.1]; exact h1, ?_, h3⟩
    rw [List.getElem_append_right (by omega)]; exact h2
theorem SlE.mono (h : SlE P xs l) (hP : ∀ q m x, x ∈ l → P q m x → Q q m x) : SlE Q xs l := ⟨h.1, fun i hi => by
  obtain ⟨q, m, d, h1, h2, h3⟩ := h.2 i hi
  exact ⟨q, m, d, h1, hP _ _ _ (List.getElem_mem hi) h2, h3⟩⟩
theorem SlE.drop (h : SlE P xs l) (k : Nat) : SlE P (xs.drop k) (l.drop k) := ⟨by simp [h.1], fun i hi => by
  have hi' : k + i < l.length := by simp at hi; omega
  obtain ⟨q, m, d, h1, h2, h3⟩ := h.2 (k + i) hi'
  refine ⟨q, m, d, by rw [List.getElem?_drop]; exact h1, ?_, h3⟩
  rw [List.getElem_drop]; exact h2⟩
theorem SlE.take (h : SlE P xs l) (k : Nat) : SlE P (xs.take k) (l.take k) := ⟨by simp [h.1], fun i hi => by
  have hi' : i < k ∧ i < l.length := by simp at hi; omega
  obtain ⟨q, m, d, h1, h2, h3⟩ := h.2 i hi'.2
  refine ⟨q, m, d, by rw [List.getElem?_take, if_pos hi'.1]; exact h1, ?_, h3⟩
  rw [List.getElem_take]; exact h2⟩
theorem SlE.oneCell (h : SlE P xs l) : ∀ v ∈ xs, v.oneCell' = true := by
  intro v hv
  obtain ⟨i, hi, rfl⟩ := List.mem_iff_getElem.1 hv
  obtain ⟨q, m, d, h1, _⟩ := h.2 i (by rw [← h.1]; exact hi)
  rw [List.getElem?_eq_getElem hi] at h1
  rw [Option.some.inj h1]
  rfl
end

/-- A list of slices in memory, in blocks of S. -/
def LsS {α : Type} (S : World → Nat → Prop) (w : World) (P : Option Addr → Nat → α → Prop) (p : Option Addr) (n : Nat) (l : List α) : Prop := ∃ xs, At w p xs ∧ (xs ≠ [] → ∀ a, p = some a → S w a.block) ∧ SlE P xs l ∧ l.length = n
/-- A row. -/
def RowS (S : World → Nat → Prop) (w : World) (q : Option Addr) (m : Nat) (r : List Val) : Prop := At w q (vals r) ∧ (r ≠ [] → ∀ b, q = some b → S w b.block) ∧ r.length = m
abbrev RwsS' (S : World → Nat → Prop) (w : World) := LsS S w (RowS S w)
abbrev UnitsS (S : World → Nat → Prop) (w : World) := LsS S w (RwsS' S w)

/-- That S is left alone from w to w', and is S' there. -/
def Moves (S S' : World → Nat → Prop) (F : Nat → Prop) (w w' : World) : Prop := Upd F w w' ∧ ∀ k, k < w.heap.size → S w k → ¬ F k ∧ S' w' k
abbrev Keeps (S : World → Nat → Prop) (F : Nat → Prop) (w w' : World) : Prop := Moves S S F w w'
theorem at_keeps {S S' : World → Nat → Prop} {F : Nat → Prop} {w w' : World} {p : Option Addr} {xs : List Value} (hk : Moves S S' F w w') (h : At w p xs) (hS : xs ≠ [] → ∀ a, p = some a → S w a.block) : At w' p xs ∧ (xs ≠ [] → ∀ a, p = some a → S' w' a.block) := by
  by_cases hx : xs = []
  · subst hx; exact ⟨At.nil _ _, fun h => absurd rfl h⟩
  · obtain ⟨x, r, rfl⟩ := List.exists_cons_of_ne_nil hx
    obtain ⟨a, ha, hc⟩ := h 0 x rfl
    have hlt : a.block < w.heap.size := by
      have := World.block_lt_of_cell? w _ hc
      unfold Addr.add at this
      simpa using this
    obtain ⟨h1, h2⟩ := hk.2 a.block hlt (hS hx a ha)
    refine ⟨h.upd hk.1 fun k ⟨b, hb, e⟩ => ?_, fun _ b hb => ?_⟩
    · rw [ha] at hb; injection hb with hb; subst hb; subst e; exact h1
    · rw [ha] at hb; injection hb with hb; subst hb; exact h2
section
variable {α : Type} {S S' : World → Nat → Prop} {F : Nat → Prop} {w w' : World}
theorem RowS.keep {q : Option Addr} {m : Nat} {r : List Val} (h : RowS S w q m r) (hk : Moves S S' F w w') : RowS S' w' q m r := by
  have hn : vals r ≠ [] ↔ r ≠ [] := by cases r with
    | nil => simp
    | cons x r => simp [Val.cells]
  obtain ⟨h1, h2⟩ := at_keeps hk h.1 fun hx => h.2.1 (hn.1 hx)
  exact ⟨h1, fun hx => h2 (hn.2 hx), h.2.2⟩
theorem LsS.keep {P Q : Option Addr → Nat → α → Prop} {p : Option Addr} {n : Nat} {l : List α} (h : LsS S w P p n l) (hk : Moves S S' F w w') (hP : ∀ q m x, P q m x → Q q m x) : LsS S' w' Q p n l := by
  obtain ⟨xs, h1, h2, h3, h4⟩ := h
  obtain ⟨k1, k2⟩ := at_keeps hk h1 h2
  exact ⟨xs, k1, k2, h3.mono fun q m x _ h => hP q m x h, h4⟩
theorem rows_keep {p : Option Addr} {n : Nat} {l : List (List Val)} (h : RwsS' S w p n l) (hk : Moves S S' F w w') : RwsS' S' w' p n l := h.keep hk fun _ _ _ h => h.keep hk
theorem units_keep {p : Option Addr} {n : Nat} {l : List (List (List Val))} (h : UnitsS S w p n l) (hk : Moves S S' F w w') : UnitsS S' w' p n l := h.keep hk fun _ _ _ h => rows_keep h hk
theorem rows_plain {p : Option Addr} {n : Nat} {l : List (List Val)} (h : RwsS' S w p n l) : Rws w p l := fun i hi => by
  obtain ⟨xs, h1, _, h3, _⟩ := h
  obtain ⟨q, m, d, e, hr, hd⟩ := h3.2 i hi
  obtain ⟨a, ha, hc⟩ := h1 i _ e
  exact ⟨a, q, m, d, ha, hc, hr.1, hr.2.2, hd⟩
end

/-- Blocks of these elements. -/
def TyS (es : List Nat) (w : World) (k : Nat) : Prop := Typed w es k
theorem keeps_typed {es fs : List Nat} {w w' : World} (hu : Upd (Typed w fs) w w') (hd : ∀ e ∈ es, e ∉ fs) : Keeps (TyS es) (Typed w fs) w w' := by
  refine ⟨hu, fun k hk ⟨l, e, hb, he⟩ => ?_⟩
  have hn := Typed.not hb (hd e he)
  exact ⟨hn, l, e, hu.blk hb hn, he⟩
theorem keeps_nothing {es : List Nat} {w w' : World} (hu : Upd Nothing w w') : Keeps (TyS es) Nothing w w' := ⟨hu, fun k hk ⟨l, e, hb, he⟩ => ⟨fun f => f, l, e, hu.blk hb fun f => f, he⟩⟩
theorem keeps_one {es : List Nat} {w w' : World} {g e : Nat} {l : List Value} (hb : Blk w g l e) (he : e ∉ es) (hu : Upd (One g) w w') : Keeps (TyS es) (One g) w w' := by
  refine ⟨hu, fun k hk ⟨l', e', hb', he'⟩ => ?_⟩
  have hn : ¬ One g k := fun hk' => by
    rw [show k = g from hk'] at hb'
    exact he ((hb.same hb').2 ▸ he')
  exact ⟨hn, l', e', hu.blk hb' hn, he'⟩
theorem keeps_own {es : List Nat} {w w' : World} {e s n c : Nat} {p : Option Addr} {xs : List Value} (ho : Own w e s p n c xs) (he : e ∉ es) (hu : Upd (Fp p c) w w') : Keeps (TyS es) (Fp p c) w w' := by
  refine ⟨hu, fun k hk ⟨l', e', hb', he'⟩ => ?_⟩
  have hn : ¬ Fp p c k := fun hk' => own_not_typed ho he k hk' ⟨l', e', hb', he'⟩
  exact ⟨hn, l', e', hu.blk hb' hn, he'⟩
/-- Blocks below a number. -/
def LowS (B : Nat) (_ : World) (k : Nat) : Prop := k < B
theorem keeps_low {B : Nat} {F : Nat → Prop} {w w' : World} (hu : Upd F w w') (h : ∀ k, F k → B ≤ k) : Keeps (LowS B) F w w' := ⟨hu, fun k _ hk => ⟨fun f => by have := h k f; have hk' : k < B := hk; omega, hk⟩⟩
theorem keeps_any {S : World → Nat → Prop} {w w' : World} (hu : Upd Nothing w w') (h : ∀ k, S w k → k < w.heap.size → S w' k) : Keeps S Nothing w w' := ⟨hu, fun k hk hs => ⟨fun f => f, h k hs hk⟩⟩

theorem own_tyS {w : World} {e s n c : Nat} {p : Option Addr} {xs : List Value} {es : List Nat} (h : Own w e s p n c xs) (he : e ∈ es) : xs ≠ [] → ∀ a, p = some a → TyS es w a.block := fun hx a ha => by
  rcases h.mem with h0 | ⟨g, rest, hp, hb, _⟩
  · subst h0; exact absurd h.empty.2 hx
  · rw [hp] at ha
    injection ha with ha
    subst ha
    exact ⟨_, _, hb, he⟩

/-! ### windows, plain -/
abbrev Row := List Val
abbrev Unit' := List Row
structure Win where
  name : ByteArray
  on : ByteArray
  owner : ByteArray
  batches : Bool
  size : Nat
  slide : Nat
  seen : List Unit'
  staged : List Unit'
  cols : List Col
/-- A unit comes; whether the window slides. -/
def Win.come (x : Win) (u : Unit') : Win × Bool :=
  if x.staged.length + 1 < x.slide then ({ x with staged := x.staged ++ [u] }, false)
  else ({ x with seen := (x.seen ++ (x.staged ++ [u])).drop ((x.seen ++ (x.staged ++ [u])).length - x.size), staged := [] }, true)
def Win.comes (x : Win) : List Unit' → Win × Nat
  | [] => (x, 0)
  | u :: us => ((x.come u).1.comes us).map id fun n => (x.come u).2.toNat + n
/-- A batch's units. -/
def unitsOf (b : Bool) (rows : List Row) : List Unit' := if b = true then [rows] else rows.map fun r => [r]
def unitsOfAll (b : Bool) (l : List (List Row)) : List Unit' := l.flatMap (unitsOf b)
/-- What is seen, and what is staged, of what came. -/
def seenOf (size slide : Nat) (all : List Unit') : List Unit' := (all.take (all.length / slide * slide)).drop (all.length / slide * slide - size)
def stagedOf (slide : Nat) (all : List Unit') : List Unit' := all.drop (all.length / slide * slide)
def Win.Has (x : Win) (all : List Unit') : Prop := x.seen = seenOf x.size x.slide all ∧ x.staged = stagedOf x.slide all

theorem last_of {α : Type} (A B : List α) (s : Nat) : (A.drop (A.length - s) ++ B).drop ((A.drop (A.length - s) ++ B).length - s) = (A ++ B).drop ((A ++ B).length - s) := by
  rcases Nat.lt_or_ge s A.length with h | h
  · have e : A = A.take (A.length - s) ++ A.drop (A.length - s) := (List.take_append_drop _ _).symm
    have hl : (A.drop (A.length - s)).length = s := by simp; omega
    have hr : (A ++ B).drop ((A ++ B).length - s) = (A.drop (A.length - s) ++ B).drop B.length := by
      have : (A ++ B).length - s = (A.length - s) + B.length := by simp; omega
      rw [this, ← List.drop_drop, List.drop_append_of_le_length (by omega)]
    rw [hr]
    congr 1
    rw [List.length_append, hl]
    omega
  · have : A.length - s = 0 := by omega
    rw [this, List.drop_zero]
theorem Win.Has.come {x : Win} {all : List Unit'} (h : x.Has all) (h1 : 1 ≤ x.slide) (u : Unit') :
    (x.come u).1.Has (all ++ [u]) ∧ (all ++ [u]).length / x.slide = all.length / x.slide + (x.come u).2.toNat := by
  obtain ⟨hs, ht⟩ := h
  have hdm := Nat.div_add_mod all.length x.slide
  have hml := Nat.mod_lt all.length h1
  have hst : x.staged.length = all.length % x.slide := by
    rw [ht]
    unfold stagedOf
    rw [List.length_drop, Nat.mul_comm]
    omega
  unfold Win.come
  by_cases hlt : x.staged.length + 1 < x.slide
  · rw [if_pos hlt]
    have hq : (all.length + 1) / x.slide = all.length / x.slide := by
      rw [show all.length + 1 = all.length % x.slide + 1 + x.slide * (all.length / x.slide) by omega, Nat.add_mul_div_left _ _ h1, Nat.div_eq_of_lt (by omega)]
      omega
    have hk : all.length / x.slide * x.slide ≤ all.length := Nat.div_mul_le_self _ _
    refine ⟨⟨?_, ?_⟩, by simp [hq]⟩
    · show x.seen = seenOf x.size x.slide (all ++ [u])
      unfold seenOf at hs ⊢
      rw [List.length_append, List.length_singleton, hq, List.take_append_of_le_length hk]
      exact hs
    · show x.staged ++ [u] = stagedOf x.slide (all ++ [u])
      unfold stagedOf at ht ⊢
      rw [List.length_append, List.length_singleton, hq, List.drop_append_of_le_length hk, ht]
  · rw [if_neg hlt]
    have hq : (all.length + 1) / x.slide = all.length / x.slide + 1 := by
      have : all.length % x.slide + 1 = x.slide := by omega
      rw [show all.length + 1 = x.slide + x.slide * (all.length / x.slide) by omega, Nat.add_mul_div_left _ _ h1, Nat.div_self h1]
      omega
    have hk : all.length / x.slide * x.slide ≤ all.length := Nat.div_mul_le_self _ _
    have hk2 : (all.length / x.slide + 1) * x.slide = all.length + 1 := by
      rw [Nat.add_mul, Nat.one_mul, Nat.mul_comm]
      omega
    refine ⟨⟨?_, ?_⟩, by simp [hq]⟩
    · show (x.seen ++ (x.staged ++ [u])).drop ((x.seen ++ (x.staged ++ [u])).length - x.size) = seenOf x.size x.slide (all ++ [u])
      unfold seenOf at hs ⊢
      unfold stagedOf at ht
      have hall : (all ++ [u]).length = all.length + 1 := by simp
      rw [hall, hq, hk2, List.take_of_length_le (by simp)]
      have hA : (all.take (all.length / x.slide * x.slide)).length = all.length / x.slide * x.slide := by rw [List.length_take]; omega
      have hs' : x.seen = (all.take (all.length / x.slide * x.slide)).drop ((all.take (all.length / x.slide * x.slide)).length - x.size) := by rw [hA]; exact hs
      have key := last_of (all.take (all.length / x.slide * x.slide)) (x.staged ++ [u]) x.size
      rw [← hs'] at key
      have e : all.take (all.length / x.slide * x.slide) ++ (x.staged ++ [u]) = all ++ [u] := by rw [ht, ← List.append_assoc, List.take_append_drop]
      rw [e, hall] at key
      exact key
    · show [] = stagedOf x.slide (all ++ [u])
      unfold stagedOf
      rw [List.length_append, List.length_singleton, hq, hk2, List.drop_of_length_le (by simp)]
theorem Win.come_same (x : Win) (u : Unit') : (x.come u).1.name = x.name ∧ (x.come u).1.on = x.on ∧ (x.come u).1.owner = x.owner ∧ (x.come u).1.batches = x.batches ∧ (x.come u).1.size = x.size ∧ (x.come u).1.slide = x.slide ∧ (x.come u).1.cols = x.cols := by
  unfold Win.come
  split <;> exact ⟨rfl, rfl, rfl, rfl, rfl, rfl, rfl⟩
theorem comes_nil (x : Win) : x.comes [] = (x, 0) := rfl
theorem comes_snoc : ∀ (us : List Unit') (x : Win) (u : Unit'), x.comes (us ++ [u]) = (((x.comes us).1.come u).1, (x.comes us).2 + ((x.comes us).1.come u).2.toNat)
  | [], x, u => by simp [Win.comes, Prod.map]
  | v :: us, x, u => by
    have ih := comes_snoc us (x.come v).1 u
    simp only [List.cons_append, Win.comes, Prod.map, ih, id]
    rw [Nat.add_assoc]
theorem comes_append (us vs : List Unit') (x : Win) : x.comes (us ++ vs) = (((x.comes us).1.comes vs).1, (x.comes us).2 + ((x.comes us).1.comes vs).2) := by
  induction us generalizing x with
  | nil => simp [Win.comes]
  | cons v us ih =>
    simp only [List.cons_append, Win.comes, Prod.map, ih, id]
    rw [Nat.add_assoc]
theorem Win.Has.comes : ∀ (us : List Unit') {x : Win} {all : List Unit'}, x.Has all → 1 ≤ x.slide → (x.comes us).1.Has (all ++ us) ∧ (x.comes us).1.slide = x.slide ∧ (all ++ us).length / x.slide = all.length / x.slide + (x.comes us).2
  | [], x, all, h, h1 => by simp [Win.comes]; exact h
  | u :: us, x, all, h, h1 => by
    obtain ⟨k1, k2⟩ := h.come h1 u
    have hs := x.come_same u
    obtain ⟨k3, k4, k5⟩ := Win.Has.comes us k1 (by rw [hs.2.2.2.2.2.1]; exact h1)
    rw [hs.2.2.2.2.2.1] at k4 k5
    simp only [List.append_assoc, List.singleton_append] at k3 k5
    refine ⟨k3, k4, ?_⟩
    show _ = _ + ((x.come u).2.toNat + ((x.come u).1.comes us).2)
    rw [k5, k2]
    omega
end Go.Proofs.Ytjcgociobhhijaa.SX
