/- Memory as a proof speaks of it: blocks, what is changed, slices, the built-in functions: of every program of the model. -/
import Derived.Test.YtjcgociobhhijaaSX
import Derived.Laws.Slices
import Derived.Laws.AppendOwn
import Derived.Laws.Append
import Derived.Laws.BytesArg
import Derived.Laws.IdiomStrings
set_option linter.unusedVariables false
set_option linter.unusedSimpArgs false
namespace Go.Proofs.Ytjcgociobhhijaa.SX
open Go

/-! ### 1. A block of cells, known whole -/
def Blk (w : World) (b : Nat) (l : List Value) (e : Nat) : Prop :=
  (∃ lo hi, w.heap[b]? = some (.cells l.toArray e (lo, hi)) ∧ (lo = hi ∨ l.length ≤ lo)) ∧ ∀ v ∈ l, v.oneCell' = true

theorem Blk.lt {w : World} {b : Nat} {l : List Value} {e : Nat} (h : Blk w b l e) : b < w.heap.size := by
  obtain ⟨⟨lo, hi, h, _⟩, _⟩ := h
  exact (Array.getElem?_eq_some_iff.1 h).1

theorem Blk.cell {w : World} {b i : Nat} {l : List Value} {e : Nat} {v : Value} (h : Blk w b l e) (hi : l[i]? = some v) : w.cell? ⟨b, i, none⟩ = some v := by
  obtain ⟨⟨lo, hi', h, _⟩, _⟩ := h
  simp [World.cell?, h, hi]

theorem Blk.frozen {w : World} {b i : Nat} {l : List Value} {e : Nat} (h : Blk w b l e) (hi : i < l.length) : w.frozen? ⟨b, i, none⟩ = false := by
  obtain ⟨⟨lo, hi', h, hf⟩, _⟩ := h
  simp only [World.frozen?, h]
  rcases hf with hf | hf
  · subst hf; simp
  · simp; omega

theorem Blk.can {w : World} {b i : Nat} {l : List Value} {e : Nat} (h : Blk w b l e) (hi : i < l.length) : CanSt w ⟨b, i, none⟩ :=
  ⟨⟨l[i], h.cell (List.getElem?_eq_getElem hi)⟩, h.frozen hi⟩

theorem Blk.drew {w : World} {b : Nat} {l : List Value} {e : Nat} (h : Blk w b l e) : Blk w.drew b l e := h

/-! ### 2. What is changed: the blocks of F, and what is new -/
structure Upd (F : Nat → Prop) (w w' : World) : Prop where
  os : w'.os = w.os
  tape : w'.tape = w.tape
  output : w'.output = w.output
  size : w.heap.size ≤ w'.heap.size
  block : ∀ k, k < w.heap.size → ¬ F k → w'.heap[k]? = w.heap[k]?

def Nothing : Nat → Prop := fun _ => False
def One (b : Nat) : Nat → Prop := fun k => k = b
/-- The block that a slice lies in. -/
def BlkOf (p : Option Addr) : Nat → Prop := fun k => ∃ a, p = some a ∧ k = a.block
def Or2 (F G : Nat → Prop) : Nat → Prop := fun k => F k ∨ G k

theorem Upd.refl (F : Nat → Prop) (w : World) : Upd F w w := ⟨rfl, rfl, rfl, Nat.le_refl _, fun _ _ _ => rfl⟩
theorem Upd.drew (F : Nat → Prop) (w : World) : Upd F w w.drew := ⟨rfl, rfl, rfl, Nat.le_refl _, fun _ _ _ => rfl⟩
theorem Upd.trans {F G H : Nat → Prop} {a b c : World} (h : Upd F a b) (k : Upd G b c) (hF : ∀ i, i < a.heap.size → F i → H i) (hG : ∀ i, i < a.heap.size → G i → H i) : Upd H a c :=
  ⟨k.os.trans h.os, k.tape.trans h.tape, k.output.trans h.output, Nat.le_trans h.size k.size, fun i hi hn => by
    rw [k.block i (Nat.lt_of_lt_of_le hi h.size) (fun hg => hn (hG i hi hg)), h.block i hi (fun hf => hn (hF i hi hf))]⟩
theorem Upd.mono {F G : Nat → Prop} {a b : World} (h : Upd F a b) (hF : ∀ i, i < a.heap.size → F i → G i) : Upd G a b := ⟨h.os, h.tape, h.output, h.size, fun i hi hn => h.block i hi fun hf => hn (hF i hi hf)⟩
/-- Two steps that change the same. -/
theorem Upd.then {F : Nat → Prop} {a b c : World} (h : Upd F a b) (k : Upd F b c) : Upd F a c := h.trans k (fun _ _ h => h) (fun _ _ h => h)
/-- Two steps that change nothing that was there. -/
theorem Upd.more {F : Nat → Prop} {a b c : World} (h : Upd F a b) (k : Upd Nothing b c) : Upd F a c := h.trans k (fun _ _ h => h) (fun _ _ h => h.elim)
theorem Upd.fresh {F : Nat → Prop} {a b c : World} (h : Upd F a b) {G : Nat → Prop} (k : Upd G b c) (hG : ∀ i, G i → a.heap.size ≤ i) : Upd F a c := h.trans k (fun _ _ h => h) (fun i hi hg => by have := hG i hg; omega)
theorem Upd.new {F : Nat → Prop} {w w' : World} {o : Obj} {b : Nat} (h : New w o b w') : Upd F w w' := by
  obtain ⟨rfl, rfl⟩ := h
  refine ⟨rfl, rfl, rfl, by simp, fun k hk _ => ?_⟩
  show (w.heap.push o)[k]? = _
  rw [Array.getElem?_push, if_neg (by omega)]
theorem Upd.set (w : World) (a : Addr) (v : Value) : Upd (One a.block) w (w.setCell a v) := by
  refine ⟨rfl, rfl, rfl, by simp, fun k hk hn => ?_⟩
  simp only [World.setCell, Array.getElem?_modify]
  rw [if_neg (fun e => hn e.symm)]

theorem Upd.blk {F : Nat → Prop} {w w' : World} (h : Upd F w w') {b : Nat} {l : List Value} {e : Nat} (hb : Blk w b l e) (hn : ¬ F b) : Blk w' b l e := by
  have hlt := hb.lt
  obtain ⟨⟨lo, hi, h1, h2⟩, h3⟩ := hb
  exact ⟨⟨lo, hi, by rw [h.block b hlt hn]; exact h1, h2⟩, h3⟩
theorem Upd.cell {F : Nat → Prop} {w w' : World} (h : Upd F w w') {a : Addr} {v : Value} (hc : w.cell? a = some v) (hn : ¬ F a.block) : w'.cell? a = some v := by
  have hlt := World.block_lt_of_cell? w a hc
  rw [World.cell?_of_block (w := w) (h.block a.block hlt hn)]
  exact hc
theorem Upd.can {F : Nat → Prop} {w w' : World} (h : Upd F w w') {a : Addr} (hc : CanSt w a) (hn : ¬ F a.block) : CanSt w' a := by
  obtain ⟨⟨u, hu⟩, hf⟩ := hc
  have hlt := World.block_lt_of_cell? w a hu
  exact ⟨⟨u, h.cell hu hn⟩, by rw [World.frozen?_of_block (w := w) (h.block a.block hlt hn)]; exact hf⟩

theorem Blk.new {w w' : World} {cs : Array Value} {e b : Nat} (h : New w (.cells cs e) b w') (h1 : ∀ v ∈ cs.toList, v.oneCell' = true) : Blk w' b cs.toList e := by
  obtain ⟨rfl, rfl⟩ := h
  refine ⟨⟨0, 0, ?_, .inl rfl⟩, h1⟩
  show (w.heap.push _)[w.heap.size]? = _
  simp

theorem Blk.set {w : World} {b i : Nat} {l : List Value} {e : Nat} {v : Value} (h : Blk w b l e) (hv : v.oneCell' = true) : Blk (w.setCell ⟨b, i, none⟩ v) b (l.set i v) e := by
  obtain ⟨⟨lo, hi, h1, h2⟩, h3⟩ := h
  refine ⟨⟨lo, hi, ?_, by simpa using h2⟩, fun u hu => ?_⟩
  · simp only [World.setCell, Array.getElem?_modify, ↓reduceIte, h1, Option.map_some]
    simp
  · rcases List.mem_or_eq_of_mem_set hu with hu | rfl
    · exact h3 u hu
    · exact hv

/-- Two blocks of other elements are two. -/
theorem Blk.ne_type {w : World} {b b' : Nat} {l l' : List Value} {e e' : Nat} (h : Blk w b l e) (h' : Blk w b' l' e') (he : e ≠ e') : b ≠ b' := by
  rintro rfl
  obtain ⟨⟨_, _, h1, _⟩, _⟩ := h
  obtain ⟨⟨_, _, h2, _⟩, _⟩ := h'
  rw [h1] at h2
  injection h2 with h2
  injection h2 with _ h2
  exact he h2
theorem Blk.same {w : World} {b : Nat} {l l' : List Value} {e e' : Nat} (h : Blk w b l e) (h' : Blk w b l' e') : l = l' ∧ e = e' := by
  obtain ⟨⟨_, _, h1, _⟩, _⟩ := h
  obtain ⟨⟨_, _, h2, _⟩, _⟩ := h'
  rw [h1] at h2
  injection h2 with h2
  injection h2 with h2 h3
  exact ⟨by simpa using congrArg Array.toList h2, h3⟩

theorem Blk.get {w : World} {b : Nat} {l : List Value} {e : Nat} (h : Blk w b l e) (i : Nat) : w.cell? ⟨b, i, none⟩ = l[i]? := by
  obtain ⟨⟨lo, hi', h, _⟩, _⟩ := h
  simp [World.cell?, h]

/-- A store into a block. -/
theorem Blk.store {w : World} {b i : Nat} {l : List Value} {e : Nat} {v : Value} {K : World → Prop} (h : Blk w b l e) (hi : i < l.length) (hv : v.oneCell' = true)
    (hK : ∀ w', Blk w' b (l.set i v) e → Upd (One b) w w' → w'.heap.size = w.heap.size → K w') : CanSt w ⟨b, i, none⟩ ∧ ∀ w', w' = w.setCell ⟨b, i, none⟩ v → K w' :=
  ⟨h.can hi, fun w' hw => hK w' (hw ▸ h.set hv) (hw ▸ Upd.set w ⟨b, i, none⟩ v) (by rw [hw]; simp)⟩

/-- A new block. -/
theorem New.use {w : World} {cs : Array Value} {e : Nat} {K : Nat → World → Prop} (h1 : ∀ v ∈ cs.toList, v.oneCell' = true)
    (hK : ∀ b w', Blk w' b cs.toList e → Upd Nothing w w' → w.heap.size ≤ b → b < w'.heap.size → K b w') : ∀ b w', New w (.cells cs e) b w' → K b w' := by
  intro b w' h
  have hb := Blk.new h h1
  exact hK b w' hb (Upd.new h) (by rw [h.1]; exact Nat.le_refl _) hb.lt

/-! ### 3. Cells that lie one behind the other -/
theorem Addr.add_mk (b i n : Nat) : (⟨b, i, none⟩ : Addr).add n = ⟨b, i + n, none⟩ := by unfold Addr.add; split <;> simp_all
theorem Addr.add_add (a : Addr) (n m : Nat) (h : a.spot = none) : (a.add n).add m = a.add (n + m) := by
  obtain ⟨b, i, s⟩ := a
  simp only at h
  subst h
  simp [Addr.add_mk, Nat.add_assoc]

/-- At p lie these cells (no address is wanted for none). -/
def At (w : World) (p : Option Addr) (xs : List Value) : Prop :=
  ∀ j v, xs[j]? = some v → ∃ a, p = some a ∧ w.cell? (a.add j) = some v

theorem At.nil (w : World) (p : Option Addr) : At w p [] := by intro j v h; simp at h
theorem At.upd {F : Nat → Prop} {w w' : World} {p : Option Addr} {xs : List Value} (h : At w p xs) (hu : Upd F w w') (hn : ∀ k, BlkOf p k → ¬ F k) : At w' p xs := by
  intro j v hj
  obtain ⟨a, hp, hc⟩ := h j v hj
  refine ⟨a, hp, hu.cell hc (hn _ ⟨a, hp, ?_⟩)⟩
  unfold Addr.add; split <;> rfl
theorem At.upd0 {w w' : World} {p : Option Addr} {xs : List Value} (h : At w p xs) (hu : Upd Nothing w w') : At w' p xs := h.upd hu fun _ _ h => h
theorem At.of_blk {w : World} {b i : Nat} {l xs : List Value} {e : Nat} (h : Blk w b l e) (hx : ∀ j v, xs[j]? = some v → l[i + j]? = some v) : At w (some ⟨b, i, none⟩) xs := by
  intro j v hj
  exact ⟨_, rfl, by rw [Addr.add_mk]; exact h.cell (hx j v hj)⟩
theorem At.take {w : World} {p : Option Addr} {xs : List Value} (h : At w p xs) (n : Nat) : At w p (xs.take n) := by
  intro j v hj
  rw [List.getElem?_take] at hj
  split at hj
  · exact h j v hj
  · simp at hj

theorem At.cellsAt {w : World} {a : Addr} : ∀ {xs : List Value} {i : Nat}, (∀ j v, xs[j]? = some v → w.cell? (a.add (i + j)) = some v) → cellsAt w a i xs
  | [], _, _ => trivial
  | x :: xs, i, h => ⟨by simpa using h 0 x rfl, At.cellsAt (i := i + 1) fun j v hj => by have := h (j + 1) v (by simpa using hj); rw [show i + 1 + j = i + (j + 1) by omega]; exact this⟩

theorem At.load {P : Program} {w : World} {a : Addr} {xs : List Value} (h : At w (some a) xs) : (loadCells a xs.length).run P w = .ok xs.toArray w :=
  run_loadCells_at (At.cellsAt fun j v hj => by obtain ⟨a', ha, hc⟩ := h j v hj; injection ha with ha; subst ha; simpa using hc)

theorem At.first {P : Program} {w : World} {p : Option Addr} {n c s : Nat} {xs : List Value} (h : At w p xs) (hl : xs.length = n * s) : (Builtin.firstCells s n (.slice p n c)).run P w = .ok xs.toArray w := by
  cases p with
  | none =>
    have : xs = [] := by
      cases xs with
      | nil => rfl
      | cons x xs => obtain ⟨a, ha, _⟩ := h 0 x rfl; simp at ha
    subst this
    simp [Builtin.firstCells]
  | some a =>
    simp only [Builtin.firstCells]
    rw [← hl]
    exact h.load

theorem run_storeCells_blk {P : Program} {b e : Nat} : ∀ (vs : List Value) (j i : Nat) (w : World) (l : List Value), Blk w b l e → i + j + vs.length ≤ l.length → (∀ v ∈ vs, v.oneCell' = true) →
    ∃ w', (storeCells ⟨b, i, none⟩ vs j).run P w = .ok () w' ∧ Blk w' b (over (i + j) vs l) e ∧ Upd (One b) w w' ∧ w'.heap.size = w.heap.size
  | [], j, i, w, l, hb, _, _ => by
    refine ⟨w, by simp [storeCells], ?_, Upd.refl _ _, rfl⟩
    have : ∀ (n : Nat) (l : List Value), over n [] l = l := by
      intro n
      induction n with
      | zero => intro l; cases l <;> rfl
      | succ n ih => intro l; cases l <;> simp [over, ih]
    rw [this]
    exact hb
  | v :: vs, j, i, w, l, hb, hl, h1 => by
    have hlt : i + j < l.length := by simp at hl; omega
    have hc := hb.can hlt
    have hv := h1 v (by simp)
    have hb' := hb.set (i := i + j) hv
    obtain ⟨w', hr, hbl, hu, hs⟩ := run_storeCells_blk (P := P) vs (j + 1) i _ _ hb' (by simp at hl ⊢; omega) (fun u hu => h1 u (by simp [hu]))
    refine ⟨w', ?_, ?_, (Upd.set w ⟨b, i + j, none⟩ v).then hu, by rw [hs]; simp⟩
    · simp only [storeCells, Sem.run_bind, Addr.add_mk, run_store_can hc hv, Result.andThen_ok]
      exact hr
    · have key : ∀ (n : Nat) (l : List Value), n < l.length → over (n + 1) vs (l.set n v) = over n (v :: vs) l := by
        intro n
        induction n with
        | zero => intro l hl; cases l with
          | nil => simp at hl
          | cons x r => simp [over]
        | succ n ih => intro l hl; cases l with
          | nil => simp at hl
          | cons x r =>
            simp only [List.set_cons_succ]
            have := ih r (by simpa using hl)
            simp only [over] at this ⊢
            exact congrArg _ this
      have := key (i + j) l hlt
      rw [← this, show i + j + 1 = i + (j + 1) by omega]
      exact hbl

/-! ### 4. A slice that is one's own: it begins at the head of its block (or there is no room in it) -/
structure Own (w : World) (e s : Nat) (p : Option Addr) (n c : Nat) (xs : List Value) : Prop where
  len : xs.length = n * s
  le : n ≤ c
  mem : c = 0 ∨ ∃ g rest, p = some ⟨g, 0, none⟩ ∧ Blk w g (xs ++ rest) e ∧ (xs ++ rest).length = c * s

/-- The block that it owns. -/
def Fp (p : Option Addr) (c : Nat) : Nat → Prop := fun k => 0 < c ∧ BlkOf p k

theorem Own.nil (w : World) (e s : Nat) : Own w e s none 0 0 [] := ⟨by simp, Nat.le_refl _, .inl rfl⟩
theorem Own.zero (w : World) (e s : Nat) (p : Option Addr) : Own w e s p 0 0 [] := ⟨by simp, Nat.le_refl _, .inl rfl⟩
theorem Own.empty {w : World} {e s n : Nat} {p : Option Addr} {xs : List Value} (h : Own w e s p n 0 xs) : n = 0 ∧ xs = [] := by
  have h1 := h.len
  have h2 := h.le
  have : n = 0 := by omega
  subst this
  exact ⟨rfl, by simpa using h1⟩
theorem Own.at {w : World} {e s n c : Nat} {p : Option Addr} {xs : List Value} (h : Own w e s p n c xs) : At w p xs := by
  rcases h.mem with rfl | ⟨g, rest, rfl, hb, hl⟩
  · rw [h.empty.2]; exact At.nil _ _
  · exact At.of_blk hb fun j v hj => by
      rw [Nat.zero_add, List.getElem?_append_left (List.getElem?_eq_some_iff.1 hj).1]; exact hj
theorem Own.upd {F : Nat → Prop} {w w' : World} {e s n c : Nat} {p : Option Addr} {xs : List Value} (h : Own w e s p n c xs) (hu : Upd F w w') (hn : ∀ k, Fp p c k → ¬ F k) : Own w' e s p n c xs := by
  refine ⟨h.len, h.le, ?_⟩
  by_cases hc : c = 0
  · exact .inl hc
  · rcases h.mem with hm | ⟨g, rest, rfl, hb, hl⟩
    · exact .inl hm
    · exact .inr ⟨g, rest, rfl, hu.blk hb (hn g ⟨by omega, _, rfl, rfl⟩), hl⟩
theorem Own.upd0 {w w' : World} {e s n c : Nat} {p : Option Addr} {xs : List Value} (h : Own w e s p n c xs) (hu : Upd Nothing w w') : Own w' e s p n c xs := h.upd hu fun _ _ h => h
theorem Own.lt {w : World} {e s n c : Nat} {p : Option Addr} {xs : List Value} (h : Own w e s p n c xs) {k : Nat} (hk : Fp p c k) : k < w.heap.size := by
  obtain ⟨h0, a, ha, rfl⟩ := hk
  rcases h.mem with rfl | ⟨g, rest, rfl, hb, _⟩
  · omega
  · injection ha with ha; subst ha; exact hb.lt
theorem Own.one {w : World} {e s n c : Nat} {p : Option Addr} {xs : List Value} (h : Own w e s p n c xs) : ∀ v ∈ xs, v.oneCell' = true := by
  rcases h.mem with rfl | ⟨g, rest, rfl, hb, hl⟩
  · rw [h.empty.2]; simp
  · exact fun v hv => hb.2 v (by simp [hv])
/-- A part of it from its head on. -/
theorem Own.head {w : World} {e s n c : Nat} {p : Option Addr} {xs : List Value} (h : Own w e s p n c xs) {k : Nat} (hk : k ≤ n) : Own w e s p k c (xs.take (k * s)) := by
  have hle : k * s ≤ n * s := Nat.mul_le_mul_right _ hk
  refine ⟨by rw [List.length_take, h.len]; omega, Nat.le_trans hk h.le, ?_⟩
  rcases h.mem with hm | ⟨g, rest, rfl, hb, hl⟩
  · exact .inl hm
  · refine .inr ⟨g, xs.drop (k * s) ++ rest, rfl, ?_, ?_⟩
    · rw [← List.append_assoc, List.take_append_drop]; exact hb
    · rw [← List.append_assoc, List.take_append_drop]; exact hl

/-- What is wanted of a slice's type: its element's number, cells, bytes, zero. -/
structure SliceT (P : Program) (t e s by_ : Nat) (z : List Value) : Prop where
  desc : P.underlying t = some (.slice e)
  size : ∀ w, (sizeOf e).run P w = .ok s w
  info : ∀ w, (typeInfo e).run P w = .ok ((P.info? e).getD default) w
  bytes : ((P.info? e).getD default).bytes = by_
  zero : ∀ w, ∃ v, (zeroValue e).run P w = .ok v w ∧ v.cells = z.toArray
  zlen : z.length = s
  zone : ∀ v ∈ z, v.oneCell' = true

theorem leaf_zero_one (l : Leaf) : l.zero.oneCell' = true := by cases l <;> rfl

theorem SliceT.of_tab {P : Program} {tab : Tab} {t e : Nat} {ti te : TI} (hok : TabOK P tab) (h1 : tab.get t = some ti) (h2 : ti.kind = .leaf .slice e) (h3 : tab.get e = some te) (h4 : te.kind.sizedK = true) : SliceT P t e te.leaves.length te.bytes (te.leaves.map Leaf.zero) := by
  have hT := hok.get h1
  have hE := hok.get h3
  obtain ⟨i, hi, hz, hs, hb⟩ := hE.info h4
  refine ⟨hT.slice h2, hE.size h4, fun w => by simp [typeInfo, hi], by simp [hi, hb], fun w => ⟨te.zero, hE.zeroV h4 w, TI.zero_cells hE h4⟩, by simp, ?_⟩
  intro v hv
  simp only [List.mem_map] at hv
  obtain ⟨l, _, rfl⟩ := hv
  exact leaf_zero_one l

theorem over_nil (n : Nat) (l : List Value) : over n [] l = l := by
  induction n generalizing l with
  | zero => cases l <;> rfl
  | succ n ih => cases l <;> simp [over, ih]

theorem over_eq : ∀ (n : Nat) (vs l : List Value), n + vs.length ≤ l.length → over n vs l = l.take n ++ vs ++ l.drop (n + vs.length)
  | 0, [], l, _ => by simp [over_nil]
  | 0, v :: vs, [], h => by simp at h
  | 0, v :: vs, x :: r, h => by
    simp only [over, List.length_cons] at *
    rw [over_eq 0 vs r (by omega)]
    simp
  | n + 1, vs, [], h => by simp at h
  | n + 1, vs, x :: r, h => by
    simp only [over, List.length_cons] at *
    rw [over_eq n vs r (by omega)]
    simp [List.take_succ_cons, show n + 1 + vs.length = (n + vs.length) + 1 by omega]

section
variable {P : Program} {t t2 ty e s by_ : Nat} {z : List Value} {w : World} {K : Value → World → Prop}

theorem builtV_of_run {b : Builtin} {ats : Array Nat} {args : Array Value} {sv : Sem Value} {v : Value} {w' : World} (hb : builtin b ats ty #[] args = (do pure (.value (← sv)))) (h : sv.run P w = .ok v w') (hK : K v w') : BuiltV P b ats ty args w K := by
  unfold BuiltV
  rw [hb]
  exact yield_v h hK

/-- append in place: what lies behind the slice in its block is written. -/
theorem append_in (hT : SliceT P t e s by_ z) (h2 : P.underlying t2 = some (.slice e) ∨ P.underlying t2 = some .string) {b off n c m : Nat} {x : Value} {l ys : List Value}
    (hm : ∀ w, (Builtin.lenOf x).run P w = .ok m w) (hx : (Builtin.firstCells s m x).run P w = .ok ys.toArray w) (hy : ys.length = m * s) (h1 : ∀ v ∈ ys, v.oneCell' = true)
    (hb : Blk w b l e) (hl : off + n * s + m * s ≤ l.length) (hc : n + m ≤ c)
    (hK : ∀ w', Blk w' b (l.take (off + n * s) ++ ys ++ l.drop (off + n * s + m * s)) e → Upd (One b) w w' → K (.slice (some ⟨b, off, none⟩) (n + m) c) w') :
    BuiltV P .append #[t, t2] ty #[.slice (some ⟨b, off, none⟩) n c, x] w K := by
  obtain ⟨w', hr, hbl, hu, _⟩ := run_storeCells_blk (P := P) ys 0 (off + n * s) w l hb (by rw [hy]; omega) h1
  rw [Nat.add_zero, over_eq _ _ _ (by rw [hy]; omega), hy] at hbl
  refine builtV_of_run (sv := Builtin.append_ #[t, t2] ty #[.slice (some ⟨b, off, none⟩) n c, x]) (w' := w') rfl ?_ (hK w' hbl hu)
  rcases h2 with hd | hd
  all_goals
    simp only [Builtin.append_, List.getElem?_toArray, List.getElem?_cons_zero, List.getElem?_cons_succ, Sem.run_bind, run_underlying hT.desc, run_underlying hd, Result.andThen_ok, hT.size, Sem.run_pure, Bool.false_eq_true, ↓reduceIte, hm]
    rw [if_pos hc]
    simp only [Bool.not_false, ↓reduceIte, hx, Sem.run_bind, Result.andThen_ok, Addr.add_mk]
    rw [hr]
    simp

theorem append_none_in (hT : SliceT P t e s by_ z) (h2 : P.underlying t2 = some (.slice e) ∨ P.underlying t2 = some .string) {n c m : Nat} {x : Value} {ys : List Value}
    (hm : ∀ w, (Builtin.lenOf x).run P w = .ok m w) (hx : (Builtin.firstCells s m x).run P w = .ok ys.toArray w) (hc : n + m ≤ c)
    (hK : K (.slice none (n + m) c) w) :
    BuiltV P .append #[t, t2] ty #[.slice none n c, x] w K := by
  refine builtV_of_run (sv := Builtin.append_ #[t, t2] ty #[.slice none n c, x]) (w' := w) rfl ?_ hK
  rcases h2 with hd | hd
  all_goals
    simp only [Builtin.append_, List.getElem?_toArray, List.getElem?_cons_zero, List.getElem?_cons_succ, Sem.run_bind, run_underlying hT.desc, run_underlying hd, Result.andThen_ok, hT.size, Sem.run_pure, Bool.false_eq_true, ↓reduceIte, hm]
    rw [if_pos hc]
    simp only [Bool.not_false, ↓reduceIte, hx, Sem.run_bind, Result.andThen_ok, Sem.run_pure]

theorem zeroCells_toList (z : List Value) (hz : 0 < z.length) (n : Nat) : (Builtin.zeroCells z.toArray n).toList = rep n z := by
  have := zeros_eq z hz n
  unfold Builtin.zeroCells
  simp only [List.size_toArray] at *
  rw [this]

/-- append that grows: a new block. -/
theorem append_grow (hT : SliceT P t e s by_ z) (h2 : P.underlying t2 = some (.slice e) ∨ P.underlying t2 = some .string) {p : Option Addr} {n c m : Nat} {x : Value} {xs ys : List Value}
    (hm : ∀ w, (Builtin.lenOf x).run P w = .ok m w) (hx : ∀ w', w'.heap = w.heap → (Builtin.firstCells s m x).run P w' = .ok ys.toArray w') (hy : ys.length = m * s) (h1 : ∀ v ∈ ys, v.oneCell' = true)
    (hs : 0 < s) (hat : At w p xs) (hxs : xs.length = n * s) (h1x : ∀ v ∈ xs, v.oneCell' = true) (hc : c < n + m) (hby : 0 < by_) (hroom : (n + m) * by_ ≤ 140737488355328)
    (hK : ∀ b c' w', n + m ≤ c' → Blk w' b (xs ++ ys ++ rep (c' - (n + m)) z) e → Upd Nothing w w' → w.heap.size ≤ b → K (.slice (some ⟨b, 0, none⟩) (n + m) c') w') :
    BuiltV P .append #[t, t2] ty #[.slice p n c, x] w K := by
  obtain ⟨zv, hz1, hz2⟩ := hT.zero { w with drawn := w.drawn + 1 }
  have hbyt := hT.bytes
  have hfit := growslice_fits (need := n + m) (old := c) (bytes := by_) hc hroom
  let q : Question := .appendCap (n + m) c e
  let c' := q.cut (w.tape w.drawn q)
  have hc' : n + m ≤ c' := Nat.le_add_right _ _
  have hfx := hx { w with drawn := w.drawn + 1 } rfl
  have hat' : At { w with drawn := w.drawn + 1 } p xs := hat
  have hfo := hat'.first (P := P) (c := c) hxs
  have hnew : ∀ v ∈ xs ++ ys ++ rep (c' - (n + m)) z, v.oneCell' = true := by
    intro v hv
    simp only [List.mem_append] at hv
    rcases hv with (hv | hv) | hv
    · exact h1x v hv
    · exact h1 v hv
    · have : ∀ k, v ∈ rep k z → v ∈ z := by
        intro k
        induction k with
        | zero => intro h; simp [rep] at h
        | succ k ih => intro h; simp only [rep, List.mem_append] at h; rcases h with h | h; exact h; exact ih h
      exact hT.zone v (this _ hv)
  let cells : Array Value := xs.toArray ++ ys.toArray ++ Builtin.zeroCells z.toArray (c' - (n + m))
  have hcl : cells.toList = xs ++ ys ++ rep (c' - (n + m)) z := by
    simp only [cells, Array.toList_append]
    rw [zeroCells_toList z (by rw [hT.zlen]; exact hs)]
  have hN : New w.drew (.cells cells e) w.heap.size (w.drew.alloc (.cells cells e)) := ⟨rfl, rfl⟩
  have hB := Blk.new hN (by rw [hcl]; exact hnew)
  rw [hcl] at hB
  have hU : Upd Nothing w (w.drew.alloc (.cells cells e)) := (Upd.drew _ w).then (Upd.new hN)
  refine builtV_of_run (sv := Builtin.append_ #[t, t2] ty #[.slice p n c, x]) (w' := w.drew.alloc (.cells cells e)) rfl ?_ (hK _ c' _ hc' hB hU (Nat.le_refl _))
  have hmax : ¬ ((n + m : Nat) : Int) > 9223372036854775807 := by
    have : n + m ≤ (n + m) * by_ := Nat.le_mul_of_pos_right _ hby
    omega
  have hforced : (Question.appendCap (n + m) c e).forced = false := rfl
  rcases h2 with hd | hd
  all_goals
    simp only [Builtin.append_, List.getElem?_toArray, List.getElem?_cons_zero, List.getElem?_cons_succ, Sem.run_bind, run_underlying hT.desc, run_underlying hd, Result.andThen_ok, hT.size, Sem.run_pure, Bool.false_eq_true, ↓reduceIte, hm]
    rw [if_neg (by omega)]
    simp only [Sem.run_bind, hT.info, Result.andThen_ok, hbyt, false_or, IntKind.max_i64]
    rw [if_neg (fun h => hmax h.1)]
    simp only [Sem.run_bind, Result.andThen_ok, hT.info, hbyt]
    rw [if_neg (by omega)]
    simp only [Sem.run_bind, run_choose, hforced, Bool.false_eq_true, ↓reduceIte, Result.andThen_ok, hT.info, run_askRoom, hfo, Bool.not_false, hfx, hz1, hz2, newRow, run_newObj, Sem.run_pure]
    rfl

theorem At.heap {w w' : World} {p : Option Addr} {xs : List Value} (h : At w p xs) (hh : w'.heap = w.heap) : At w' p xs := by
  intro j v hj
  obtain ⟨a, ha, hc⟩ := h j v hj
  exact ⟨a, ha, by rw [World.cell?_of_block (w := w) (by rw [hh])]; exact hc⟩

/-- What is appended: its length and its cells. -/
structure Src (P : Program) (w : World) (s : Nat) (x : Value) (m : Nat) (ys : List Value) : Prop where
  lenOf : ∀ w, (Builtin.lenOf x).run P w = .ok m w
  first : ∀ w', w'.heap = w.heap → (Builtin.firstCells s m x).run P w' = .ok ys.toArray w'
  len : ys.length = m * s
  one : ∀ v ∈ ys, v.oneCell' = true

theorem Src.slice {q : Option Addr} {m d : Nat} {ys : List Value} (h : At w q ys) (hl : ys.length = m * s) (h1 : ∀ v ∈ ys, v.oneCell' = true) : Src P w s (.slice q m d) m ys :=
  ⟨fun w => by simp [Builtin.lenOf], fun w' hw => (h.heap hw).first hl, hl, h1⟩
theorem Src.str (x : ByteArray) : Src P w 1 (.string x) x.size (x.data.toList.map fun b => .int .u8 (b.toNat : Int)) := by
  refine ⟨fun w => by simp [Builtin.lenOf], fun w' _ => ?_, by rw [List.length_map, Nat.mul_one]; rfl, fun v hv => by simp only [List.mem_map] at hv; obtain ⟨_, _, rfl⟩ := hv; rfl⟩
  have : x.extract 0 x.size = x := by simp
  simp only [Builtin.firstCells, this, Sem.run_pure]
  congr 1
  apply Array.ext'
  simp

/-- append to a slice of one's own. -/
theorem append_own (hT : SliceT P t e s by_ z) (h2 : P.underlying t2 = some (.slice e) ∨ P.underlying t2 = some .string) {p : Option Addr} {n c m : Nat} {x : Value} {xs ys : List Value}
    (hown : Own w e s p n c xs) (hx : Src P w s x m ys) (hs : 0 < s) (hby : 0 < by_) (hroom : (n + m) * by_ ≤ 140737488355328)
    (hK : ∀ p' c' w', Own w' e s p' (n + m) c' (xs ++ ys) → Upd (Fp p c) w w' → (∀ k, Fp p' c' k → Fp p c k ∨ w.heap.size ≤ k) → K (.slice p' (n + m) c') w') :
    BuiltV P .append #[t, t2] ty #[.slice p n c, x] w K := by
  by_cases hc : n + m ≤ c
  · by_cases hc0 : c = 0
    · subst hc0
      obtain ⟨rfl, rfl⟩ := hown.empty
      have hm0 : m = 0 := by omega
      subst hm0
      have hy0 : ys = [] := by have := hx.len; simpa using this
      subst hy0
      refine builtV_of_run (sv := Builtin.append_ #[t, t2] ty #[.slice p 0 0, x]) (v := .slice p 0 0) (w' := w) rfl ?_ (hK p 0 w (Own.zero _ _ _ _) (Upd.refl _ _) fun k hk => .inl hk)
      have hf := hx.first w rfl
      rcases h2 with hd | hd
      all_goals
        cases p with
        | none => simp [Builtin.append_, run_underlying hT.desc, run_underlying hd, hT.size, hx.lenOf, hf]
        | some a => simp [Builtin.append_, run_underlying hT.desc, run_underlying hd, hT.size, hx.lenOf, hf, storeCells]
    · rcases hown.mem with h | ⟨g, rest, rfl, hb, hl⟩
      · exact absurd h hc0
      · have hxl := hown.len
        have hmul : (n + m) * s ≤ c * s := Nat.mul_le_mul_right _ hc
        rw [Nat.add_mul] at hmul
        refine append_in hT h2 (l := xs ++ rest) hx.lenOf (hx.first w rfl) hx.len hx.one hb (by rw [hl]; omega) hc fun w' hb' hu => ?_
        have htake : (xs ++ rest).take (0 + n * s) = xs := by rw [Nat.zero_add, ← hxl, List.take_left']; rfl
        refine hK _ _ _ ⟨by simp [hxl, hx.len, Nat.add_mul], hc, ?_⟩ (hu.mono fun i _ hi => ⟨by omega, _, rfl, hi⟩) (fun k hk => .inl hk)
        refine .inr ⟨g, (xs ++ rest).drop (0 + n * s + m * s), rfl, ?_, ?_⟩
        · rw [htake] at hb'; exact hb'
        · rw [List.length_append, List.length_append, List.length_drop, hl, hxl, hx.len]; omega
  · refine append_grow hT h2 hx.lenOf hx.first hx.len hx.one hs hown.at hown.len hown.one (by omega) hby hroom fun b c' w' hc' hb hu hsz => ?_
    refine hK _ _ _ ⟨by simp [hown.len, hx.len, Nat.add_mul], hc', .inr ⟨b, _, rfl, hb, ?_⟩⟩ (hu.mono fun _ _ h => h.elim) fun k hk => .inr ?_
    · simp only [List.length_append, hown.len, hx.len, rep_length, hT.zlen]
      rw [← Nat.add_mul, ← Nat.add_mul]
      congr 1
      omega
    · obtain ⟨_, a, ha, rfl⟩ := hk
      injection ha with ha
      subst ha
      exact hsz
end

theorem i64_wrap {n : Int} (h1 : -9223372036854775808 ≤ n) (h2 : n ≤ 9223372036854775807) : IntKind.i64.wrap n = n := by
  simp [IntKind.wrap, IntKind.signed, IntKind.bits] at *
  omega

theorem cutAt_zero (p : Option Addr) (m s : Nat) : cutAt p 0 m s = p := by
  unfold cutAt
  split
  · rfl
  · cases p with
    | none => rfl
    | some a => simp [Addr.add]

theorem cutAt_mk (b l m s : Nat) : cutAt (some ⟨b, 0, none⟩) l m s = if m = l then some ⟨b, 0, none⟩ else some ⟨b, l * s, none⟩ := by
  unfold cutAt
  split
  · rfl
  · simp [Addr.add_mk]

theorem At.append {w : World} {b i : Nat} {xs ys : List Value} {e : Nat} {l : List Value} (h : Blk w b l e) (hx : (xs ++ ys) = l.drop i) : At w (some ⟨b, i + xs.length, none⟩) ys := by
  refine At.of_blk h fun j v hj => ?_
  have : (l.drop i)[xs.length + j]? = some v := by rw [← hx, List.getElem?_append_right (by omega)]; simpa using hj
  rw [List.getElem?_drop] at this
  rw [← this]
  congr 1
  omega

section
variable {P : Program} {t e s by_ ty : Nat} {z : List Value} {w : World} {K : Value → World → Prop}

/-- clear of a part of a block. -/
theorem clear_in (hT : SliceT P t e s by_ z) (hs : 0 < s) {b off n c : Nat} {l : List Value} (hb : Blk w b l e) (hl : off + n * s ≤ l.length)
    (hK : ∀ w', Blk w' b (l.take off ++ rep n z ++ l.drop (off + n * s)) e → Upd (One b) w w' → K (.tuple #[]) w') :
    BuiltV P .clear #[t] ty #[.slice (some ⟨b, off, none⟩) n c] w K := by
  by_cases hn : n = 0
  · subst hn
    refine builtV_of_run (sv := Builtin.clear_ #[t] ty #[.slice (some ⟨b, off, none⟩) 0 c]) (w' := w) rfl ?_ (hK w ?_ (Upd.refl _ _))
    · simp [Builtin.clear_, run_underlying hT.desc]
    · simpa [rep] using hb
  · obtain ⟨zv, hz1, hz2⟩ := hT.zero w
    have hrl : (rep n z).length = n * s := by rw [rep_length, hT.zlen]
    have hone : ∀ v ∈ rep n z, v.oneCell' = true := by
      intro v hv
      have : ∀ k, v ∈ rep k z → v ∈ z := by
        intro k
        induction k with
        | zero => intro h; simp [rep] at h
        | succ k ih => intro h; simp only [rep, List.mem_append] at h; rcases h with h | h; exact h; exact ih h
      exact hT.zone v (this _ hv)
    obtain ⟨w', hr, hbl, hu, _⟩ := run_storeCells_blk (P := P) (rep n z) 0 off w l hb (by rw [hrl]; omega) hone
    rw [Nat.add_zero, over_eq _ _ _ (by rw [hrl]; omega), hrl] at hbl
    refine builtV_of_run (sv := Builtin.clear_ #[t] ty #[.slice (some ⟨b, off, none⟩) n c]) (w' := w') rfl ?_ (hK w' hbl hu)
    have hzc : (Builtin.zeroCells zv.cells n).toList = rep n z := by rw [hz2]; exact zeroCells_toList z (by rw [hT.zlen]; exact hs) n
    obtain ⟨m, rfl⟩ : ∃ m, n = m + 1 := ⟨n - 1, by omega⟩
    simp only [Builtin.clear_, List.getElem?_toArray, List.getElem?_cons_zero, Sem.run_bind, run_underlying hT.desc, Result.andThen_ok, hz1, hzc, hr, Sem.run_pure]

/-- slices.Clone. -/
theorem G.clone (hT : SliceT P t e s by_ z) (hs : 0 < s) (hby : 0 < by_) {p : Option Addr} {n c : Nat} {xs : List Value} (hat : At w p xs) (hl : xs.length = n * s) (h1 : ∀ v ∈ xs, v.oneCell' = true) (hroom : n * by_ ≤ 140737488355328)
    (hnil : p = none → n = 0)
    (hK : ∀ p' c' w', Own w' e s p' n c' xs → Upd Nothing w w' → (∀ k, Fp p' c' k → w.heap.size ≤ k) → K (.slice p' n c') w') :
    ifB p.isNone (K (.slice none 0 0) w) (∀ b1 wv1, New w (.cells #[] e) b1 wv1 →
      BuiltV P .append #[t, t] t #[.slice (some (Addr.mk b1 0 none)) 0 0, .slice p n c] wv1 (fun v1 wv2 => ∃ (a1p : Option Addr) (a1n a1c : Nat), v1 = .slice a1p a1n a1c ∧ K (.slice a1p a1n a1c) wv2)) := by
  refine ifB_mk (fun hp => ?_) (fun hp => ?_)
  · have : p = none := by simpa using hp
    subst this
    have hn := hnil rfl
    subst hn
    have : xs = [] := by simpa using hl
    subst this
    exact hK none 0 w (Own.nil _ _ _) (Upd.refl _ _) fun k hk => by have := hk.1; omega
  · refine New.use (by simp) fun b w1 hb hu hge hlt => ?_
    refine append_own hT (.inl hT.desc) (Own.zero w1 e s _) (Src.slice (hat.upd0 hu) hl h1) hs hby (by rw [Nat.zero_add]; exact hroom) fun p' c' w' hown hu' hf => ?_
    refine ⟨_, _, _, rfl, ?_⟩
    rw [Nat.zero_add] at hown ⊢
    refine hK _ _ _ (by simpa using hown) (hu.trans hu' (fun _ _ h => h) (fun i _ hi => by have := hi.1; omega)) fun k hk => ?_
    rcases hf k hk with h | h
    · have := h.1; omega
    · exact Nat.le_trans hu.size h

/-- slices.Delete. -/
theorem G.delete (hT : SliceT P t e s by_ z) (hs : 0 < s) {p : Option Addr} {n c i j : Nat} {xs : List Value} (hown : Own w e s p n c xs) (hij : i ≤ j) (hjn : j ≤ n) (hn : n ≤ 9223372036854775807)
    (hK : ∀ w', Own w' e s p (n - (j - i)) c (xs.take (i * s) ++ xs.drop (j * s)) → Upd (Fp p c) w w' → K (.slice p (n - (j - i)) c) w') :
    0 ≤ ((n : Nat) : Int) ∧ ((n : Nat) : Int) ≤ ((c : Nat) : Int) ∧
    0 ≤ (j : Int) ∧ (j : Int) ≤ ((((n : Nat) : Int).toNat : Nat) : Int) ∧
    0 ≤ (i : Int) ∧ (i : Int) ≤ (((j : Int).toNat : Nat) : Int) ∧
    ifB ((i : Int) == (j : Int)) (K (.slice p n c) w) (
      0 ≤ (i : Int) ∧ (i : Int) ≤ ((c : Nat) : Int) ∧
      0 ≤ (j : Int) ∧ (j : Int) ≤ ((n : Nat) : Int) ∧
      BuiltV P .append #[t, t] t #[.slice (cutAt p 0 c s) (((i : Int).toNat) - 0) (c - 0), .slice (cutAt p ((j : Int).toNat) c s) (n - ((j : Int).toNat)) (c - ((j : Int).toNat))] w.drew (fun v1 wv1 =>
        ∃ (a1p : Option Addr) (a1n a1c : Nat), v1 = .slice a1p a1n a1c ∧
        0 ≤ ((n : Nat) : Int) ∧ ((n : Nat) : Int) ≤ ((a1c : Nat) : Int) ∧
        0 ≤ ((a1n : Nat) : Int) ∧ ((a1n : Nat) : Int) ≤ ((((n : Nat) : Int).toNat : Nat) : Int) ∧
        BuiltV P .clear #[t] ty #[.slice (cutAt a1p (((a1n : Nat) : Int).toNat) a1c s) ((((n : Nat) : Int).toNat) - (((a1n : Nat) : Int).toNat)) (a1c - (((a1n : Nat) : Int).toNat))] wv1 (fun v2 wv2 => K (.slice a1p a1n a1c) wv2))) := by
  have hnc := hown.le
  refine ⟨by omega, by omega, by omega, by omega, by omega, by omega, ifB_mk (fun h => ?_) (fun h => ?_)⟩
  · have hij' : i = j := by have : (i : Int) = j := (by simpa using h); omega
    subst hij'
    have := hK w (by rw [List.take_append_drop, Nat.sub_self, Nat.sub_zero]; exact hown) (Upd.refl _ _)
    rw [Nat.sub_self, Nat.sub_zero] at this
    exact this
  · have hij' : i < j := by have : (i : Int) ≠ j := (by simpa using h); omega
    have hc0 : c ≠ 0 := by omega
    obtain ⟨g, rest, rfl, hb, hl⟩ := hown.mem.resolve_left hc0
    have hxl := hown.len
    have hmi : i * s ≤ j * s := Nat.mul_le_mul_right _ hij
    have hmj : j * s ≤ n * s := Nat.mul_le_mul_right _ hjn
    have hmn : n * s ≤ c * s := Nat.mul_le_mul_right _ hnc
    have hsub : (n - j) * s = n * s - j * s := Nat.sub_mul ..
    refine ⟨by omega, by omega, by omega, by omega, ?_⟩
    simp only [Int.toNat_natCast, Nat.sub_zero, cutAt_zero]
    have hys : (xs.drop (j * s)).length = (n - j) * s := by rw [List.length_drop, hxl, hsub]
    have hatd : At w.drew (cutAt (some ⟨g, 0, none⟩) j c s) (xs.drop (j * s)) := by
      by_cases hjc : c = j
      · have : xs.drop (j * s) = [] := by rw [List.drop_eq_nil_iff, hxl]; subst hjc; omega
        rw [this]; exact At.nil _ _
      · have : cutAt (some ⟨g, 0, none⟩) j c s = some ⟨g, j * s, none⟩ := by unfold cutAt; rw [if_neg hjc]; simp [Addr.add_mk]
        rw [this]
        refine At.of_blk hb.drew fun k v hk => ?_
        rw [List.getElem?_drop] at hk
        rw [List.getElem?_append_left (List.getElem?_eq_some_iff.1 hk).1]
        exact hk
    have hsrc : Src P w.drew s (.slice (cutAt (some ⟨g, 0, none⟩) j c s) (n - j) (c - j)) (n - j) (xs.drop (j * s)) := Src.slice hatd hys fun v hv => hown.one v (List.mem_of_mem_drop hv)
    refine append_in hT (.inl hT.desc) hsrc.lenOf (hsrc.first _ rfl) hsrc.len hsrc.one hb.drew (by rw [hl]; omega) (by omega) fun w1 hb1 hu1 => ?_
    refine ⟨_, _, _, rfl, by omega, by omega, by omega, by omega, ?_⟩
    try simp only [Int.toNat_natCast]
    have hlen' : i + (n - j) = n - (j - i) := by omega
    have hLn : (i + (n - j)) * s = i * s + (n - j) * s := Nat.add_mul ..
    -- where the rest begins
    have hcut : cutAt (some ⟨g, 0, none⟩) (i + (n - j)) c s = some ⟨g, (i + (n - j)) * s, none⟩ := by
      unfold cutAt; rw [if_neg (by omega)]; simp [Addr.add_mk]
    rw [hcut]
    have hbl : ((xs ++ rest).take (0 + i * s) ++ xs.drop (j * s) ++ (xs ++ rest).drop (0 + i * s + (n - j) * s)).length = c * s := by
      simp only [List.length_append, List.length_take, List.length_drop, hxl] at hl ⊢
      omega
    generalize hLdef : (xs ++ rest).take (0 + i * s) ++ xs.drop (j * s) ++ (xs ++ rest).drop (0 + i * s + (n - j) * s) = L at hb1 hbl
    have hnum : (n - (i + (n - j))) * s = j * s - i * s := by rw [show n - (i + (n - j)) = j - i by omega]; exact Nat.sub_mul ..
    refine clear_in hT hs hb1 (by rw [hbl]; omega) fun w2 hb2 hu2 => ?_
    have hfin := hK w2
    rw [← hlen'] at hfin
    refine hfin ⟨?_, by omega, .inr ⟨g, rep (n - (i + (n - j))) z ++ (L.drop ((i + (n - j)) * s + (n - (i + (n - j))) * s)), rfl, ?_, ?_⟩⟩ ?_
    · rw [List.length_append, List.length_take, List.length_drop, hxl]; omega
    · have htk : L.take ((i + (n - j)) * s) = xs.take (i * s) ++ xs.drop (j * s) := by
        have h1 : (xs ++ rest).take (0 + i * s) = xs.take (i * s) := by rw [Nat.zero_add, List.take_append_of_le_length (by omega)]
        rw [← hLdef, h1, List.take_append_of_le_length (by rw [List.length_append, List.length_take, List.length_drop, hxl]; omega), List.take_of_length_le (by rw [List.length_append, List.length_take, List.length_drop, hxl]; omega)]
      rw [← List.append_assoc]
      rw [htk] at hb2
      exact hb2
    · simp only [List.length_append, List.length_drop, List.length_take, hbl, rep_length, hT.zlen, hxl]
      omega
    · have hpos : 0 < c := by omega
      exact ((Upd.drew (Fp (some ⟨g, 0, none⟩) c) w).then (hu1.mono fun k _ hk => ⟨hpos, _, rfl, hk⟩)).then (hu2.mono fun k _ hk => ⟨hpos, _, rfl, hk⟩)
end

/-- A store into a slice of one's own. -/
theorem Own.store {w : World} {e s n c : Nat} {p : Option Addr} {xs : List Value} {K : World → Prop} {v : Value} {j : Nat} (h : Own w e s p n c xs) (hj : j < xs.length) (hv : v.oneCell' = true)
    (hK : ∀ w', Own w' e s p n c (xs.set j v) → Upd (Fp p c) w w' → w'.heap.size = w.heap.size → K w') :
    ∃ a, p = some a ∧ CanSt w (a.add j) ∧ ∀ w', w' = w.setCell (a.add j) v → K w' := by
  rcases h.mem with rfl | ⟨g, rest, rfl, hb, hl⟩
  · rw [h.empty.2] at hj; simp at hj
  · have hpos : 0 < c := by
      rcases Nat.eq_zero_or_pos c with h0 | h0
      · rw [h0] at hl; simp at hl; rw [hl.1] at hj; simp at hj
      · exact h0
    refine ⟨_, rfl, ?_⟩
    rw [Addr.add_mk, Nat.zero_add]
    refine hb.store (by simp; omega) hv fun w1 hb1 hu1 hs1 => hK w1 ⟨by simp [h.len], h.le, .inr ⟨g, rest, rfl, ?_, by simp at hl ⊢; omega⟩⟩ (hu1.mono fun k _ hk => ⟨hpos, _, rfl, hk⟩) hs1
    rw [List.set_append_left _ _ hj] at hb1
    exact hb1

theorem Own.put {w : World} {e s n c : Nat} {p : Option Addr} {xs : List Value} {v : Value} {j : Nat} (h : Own w e s p n c xs) (hj : j < xs.length) (hv : v.oneCell' = true) :
    ∃ a, p = some a ∧ CanSt w (a.add j) ∧ ∀ w', w' = w.setCell (a.add j) v → Own w' e s p n c (xs.set j v) ∧ Upd (Fp p c) w w' ∧ w'.heap.size = w.heap.size :=
  h.store hj hv fun _ h1 h2 h3 => ⟨h1, h2, h3⟩

theorem i64_wrap_add (a b : Int) : IntKind.i64.wrap (IntKind.i64.wrap a + b) = IntKind.i64.wrap (a + b) := by
  simp [IntKind.wrap, IntKind.signed, IntKind.bits]
  omega
theorem i64_wrap_add' (a b : Int) : IntKind.i64.wrap (a + IntKind.i64.wrap b) = IntKind.i64.wrap (a + b) := by
  rw [Int.add_comm, i64_wrap_add, Int.add_comm]
theorem i64_wrap_sub (a b : Int) : IntKind.i64.wrap (IntKind.i64.wrap a - b) = IntKind.i64.wrap (a - b) := by
  simp [IntKind.wrap, IntKind.signed, IntKind.bits]
  omega
theorem wf_u8 {n : Int} (h : (Lit.int .u8 n).wf = true) : 0 ≤ n ∧ n ≤ 255 := by
  simp only [Lit.wf, Bool.and_eq_true, decide_eq_true_eq] at h
  exact ⟨by have := h.1; simpa [IntKind.min, IntKind.signed] using this, by have := h.2; simpa [IntKind.max, IntKind.signed, IntKind.bits] using this⟩
theorem wf_i64 {n : Int} (h : (Lit.int .i64 n).wf = true) : -9223372036854775808 ≤ n ∧ n ≤ 9223372036854775807 := by
  simp only [Lit.wf, Bool.and_eq_true, decide_eq_true_eq] at h
  exact ⟨by have := h.1; simpa [IntKind.min, IntKind.signed, IntKind.bits] using this, by have := h.2; simpa [IntKind.max, IntKind.signed, IntKind.bits] using this⟩

def bytesV (l : List UInt8) : List Value := l.map fun b => .int .u8 (b.toNat : Int)
@[simp] theorem bytesV_length (l : List UInt8) : (bytesV l).length = l.length := by simp [bytesV]
theorem bytesV_append (a b : List UInt8) : bytesV (a ++ b) = bytesV a ++ bytesV b := by simp [bytesV]
theorem bytesV_one (l : List UInt8) : ∀ v ∈ bytesV l, v.oneCell' = true := by
  intro v hv
  simp only [bytesV, List.mem_map] at hv
  obtain ⟨_, _, rfl⟩ := hv
  rfl
theorem bytesV_get {l : List UInt8} {i : Nat} (h : i < l.length) : (bytesV l)[i]? = some (.int .u8 (l[i].toNat : Int)) := by simp [bytesV, h]

/-- The low byte of a number. -/
def lowByte (x : Int) : UInt8 := UInt8.ofNat (x % 256).toNat
theorem lowByte_wrap (x : Int) : IntKind.u8.wrap x = ((lowByte x).toNat : Int) := by
  simp [IntKind.wrap, IntKind.signed, IntKind.bits, lowByte]
  omega

section
variable {P : Program} {w : World} {K : Value → World → Prop} {src dst e : Nat}
/-- A text of bytes. -/
theorem conv_bytes (hs : P.underlying src = some (.slice e)) (he : P.underlying e = some (.int .u8)) (hd : P.underlying dst = some .string) {p : Option Addr} {n c : Nat} {l : List UInt8}
    (hat : At w p (bytesV l)) (hl : l.length = n) (hK : K (.string ⟨l.toArray⟩) w) : ConvV P src dst (.slice p n c) w K := by
  subst hl
  unfold ConvV Yield
  cases p with
  | none =>
    have : l = [] := by
      cases l with
      | nil => rfl
      | cons x xs => obtain ⟨a, ha, _⟩ := hat 0 _ rfl; simp at ha
    subst this
    simp only [Sem.run_bind, run_convert_bytes_string w src dst e none _ c hs he hd, Conv.bytesToString, Sem.run_pure, Result.andThen_ok]
    exact hK
  | some a =>
    have := run_convert_bytes_back (P := P) w src dst e a c l hs he hd fun j hj => by
      obtain ⟨a', ha, hc⟩ := hat j _ (bytesV_get hj)
      injection ha with ha
      subst ha
      exact hc
    simp only [Sem.run_bind, this, Result.andThen_ok, Sem.run_pure]
    exact hK

/-- A text's bytes, in memory of their own. -/
theorem conv_text (hs : P.underlying src = some .string) (hd : P.underlying dst = some (.slice e)) (he : P.underlying e = some (.int .u8)) {x : ByteArray}
    (hK : ∀ p c w', At w' p (bytesV x.data.toList) → Upd Nothing w w' → K (.slice p x.size c) w') : ConvV P src dst (.string x) w K := by
  have h := run_bytes_of_string (P := P) w src dst e x hs hd he
  unfold ConvV Yield
  simp only [Sem.run_bind, h, Result.andThen_ok, Sem.run_pure]
  have hN : New w.drew (.cells (bytesRow x (grownCap w x.size 0 e)) e ((bytesRow x (grownCap w x.size 0 e)).size, (bytesRow x (grownCap w x.size 0 e)).size + 1)) w.heap.size
    (w.drew.alloc (.cells (bytesRow x (grownCap w x.size 0 e)) e ((bytesRow x (grownCap w x.size 0 e)).size, (bytesRow x (grownCap w x.size 0 e)).size + 1))) := ⟨rfl, rfl⟩
  refine hK _ _ _ ?_ ((Upd.drew _ w).then (Upd.new hN))
  · intro j v hj
    refine ⟨_, rfl, ?_⟩
    rw [Addr.add_mk, Nat.zero_add]
    have := World.cell?_alloc_mark w.drew (bytesRow x (grownCap w x.size 0 e)) e ((bytesRow x (grownCap w x.size 0 e)).size, (bytesRow x (grownCap w x.size 0 e)).size + 1) j
    refine this.trans ?_
    have hj' : j < x.data.toList.length := by have := (List.getElem?_eq_some_iff.1 hj).1; simpa using this
    rw [← hj]
    unfold bytesRow
    rw [Array.getElem?_append_left (by simpa using hj')]
    simp [bytesV]
end

end Go.Proofs.Ytjcgociobhhijaa.SX
