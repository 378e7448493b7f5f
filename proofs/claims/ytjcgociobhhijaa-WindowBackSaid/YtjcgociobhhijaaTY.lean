/- What is changed, told by its elements' type; memory that stays. -/
import Derived.Test.YtjcgociobhhijaaSS
set_option linter.unusedVariables false
set_option linter.unusedSimpArgs false
namespace Go.Proofs.Ytjcgociobhhijaa.SX
open Go
/-- The blocks whose elements are of one of these types. -/
def Typed (w : World) (es : List Nat) : Nat → Prop := fun k => ∃ l e, Blk w k l e ∧ e ∈ es
theorem Typed.not {w : World} {es : List Nat} {k e : Nat} {l : List Value} (h : Blk w k l e) (he : e ∉ es) : ¬ Typed w es k := by
  rintro ⟨l', e', h', hm⟩
  exact he ((h.same h').2 ▸ hm)
theorem Blk.of_heap {w w' : World} {k e : Nat} {l : List Value} (h : Blk w k l e) (hh : w'.heap[k]? = w.heap[k]?) : Blk w' k l e := by
  obtain ⟨⟨lo, hi, h1, h2⟩, h3⟩ := h
  exact ⟨⟨lo, hi, hh.trans h1, h2⟩, h3⟩
theorem Upd.typed {a b c : World} {es : List Nat} (h : Upd (Typed a es) a b) (k : Upd (Typed b es) b c) : Upd (Typed a es) a c := by
  refine ⟨k.os.trans h.os, k.tape.trans h.tape, k.output.trans h.output, Nat.le_trans h.size k.size, fun i hi hn => ?_⟩
  have h1 := h.block i hi hn
  rw [k.block i (Nat.lt_of_lt_of_le hi h.size) (fun ⟨l, e, hb, he⟩ => hn ⟨l, e, hb.of_heap h1.symm, he⟩), h1]
theorem Upd.typed0 {a b c : World} {es : List Nat} (h : Upd Nothing a b) (k : Upd (Typed b es) b c) : Upd (Typed a es) a c := by
  refine ⟨k.os.trans h.os, k.tape.trans h.tape, k.output.trans h.output, Nat.le_trans h.size k.size, fun i hi hn => ?_⟩
  have h1 := h.block i hi fun f => f
  rw [k.block i (Nat.lt_of_lt_of_le hi h.size) (fun ⟨l, e, hb, he⟩ => hn ⟨l, e, hb.of_heap h1.symm, he⟩), h1]
theorem Upd.sub {a b : World} {es fs : List Nat} (h : Upd (Typed a es) a b) (hs : ∀ e ∈ es, e ∈ fs) : Upd (Typed a fs) a b := h.mono fun i _ ⟨l, e, hb, he⟩ => ⟨l, e, hb, hs e he⟩
theorem Upd.any {a b : World} {es : List Nat} (h : Upd Nothing a b) : Upd (Typed a es) a b := h.mono fun _ _ f => f.elim
theorem Upd.tblk {w w' : World} {es : List Nat} (h : Upd (Typed w es) w w') {b e : Nat} {l : List Value} (hb : Blk w b l e) (he : e ∉ es) : Blk w' b l e := h.blk hb (Typed.not hb he)
theorem Upd.tone {w w' : World} {g e : Nat} {l : List Value} {es : List Nat} (hb : Blk w g l e) (hu : Upd (One g) w w') (he : e ∈ es) : Upd (Typed w es) w w' := hu.mono fun i _ hi => ⟨l, e, by rw [show i = g from hi]; exact hb, he⟩
theorem own_typed {w : World} {e s n c : Nat} {p : Option Addr} {xs : List Value} {es : List Nat} (h : Own w e s p n c xs) (he : e ∈ es) : ∀ k, Fp p c k → Typed w es k := by
  rintro k ⟨h0, a, ha, rfl⟩
  rcases h.mem with h1 | ⟨g, rest, hp, hb, _⟩
  · omega
  · rw [hp] at ha
    injection ha with ha
    subst ha
    exact ⟨_, _, hb, he⟩
theorem own_not_typed {w : World} {e s n c : Nat} {p : Option Addr} {xs : List Value} {es : List Nat} (h : Own w e s p n c xs) (he : e ∉ es) : ∀ k, Fp p c k → ¬ Typed w es k := by
  rintro k ⟨h0, a, ha, rfl⟩
  rcases h.mem with h1 | ⟨g, rest, hp, hb, _⟩
  · omega
  · rw [hp] at ha
    injection ha with ha
    subst ha
    exact Typed.not hb he
theorem Upd.town {w w' : World} {es : List Nat} (hu : Upd (Typed w es) w w') {e s n c : Nat} {p : Option Addr} {xs : List Value} (h : Own w e s p n c xs) (he : e ∉ es) : Own w' e s p n c xs := h.upd hu (own_not_typed h he)

/-- Rows of values in memory. -/
def Rws (w : World) (p : Option Addr) (l : List (List Val)) : Prop := ∀ i (h : i < l.length), ∃ a q m d, p = some a ∧ w.cell? (a.add i) = some (.slice q m d) ∧ At w q (vals l[i]) ∧ l[i].length = m ∧ m ≤ d
theorem Rws.upd0 {w w' : World} {p : Option Addr} {l : List (List Val)} (h : Rws w p l) (hu : Upd Nothing w w') : Rws w' p l := fun i hi => by
  obtain ⟨a, q, m, d, hp, hc, hat, hl, hd⟩ := h i hi
  exact ⟨a, q, m, d, hp, hu.cell hc fun f => f, hat.upd0 hu, hl, hd⟩
end Go.Proofs.Ytjcgociobhhijaa.SX
