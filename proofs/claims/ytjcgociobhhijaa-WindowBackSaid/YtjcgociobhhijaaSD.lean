/- The functions of package schema that tell whether a schema is right: columns, indexes, schemas. -/
import Derived.Test.YtjcgociobhhijaaSC
set_option linter.unusedVariables false
set_option linter.unusedSimpArgs false
set_option maxRecDepth 100000
namespace Go.Proofs.Ytjcgociobhhijaa
open Go Go.Proofs.Ytjcgociobhhijaa.SX
namespace Sc

theorem set_two {w : World} {e : Nat} {g : Nat} {x y : Value} {Q : World → Prop} {u v : Value} (hu1 : u.oneCell' = true) (hv1 : v.oneCell' = true) (hb : Blk w g [x, y] e) (hQ : ∀ w', Blk w' g [u, v] e → Upd (One g) w w' → Q w') :
    CanSt w ((Addr.mk g 0 none).add 0) ∧ ∀ w2, w2 = w.setCell ((Addr.mk g 0 none).add 0) u →
    CanSt w2 ((Addr.mk g 0 none).add 1) ∧ ∀ w3, w3 = w2.setCell ((Addr.mk g 0 none).add 1) v → Q w3 :=
  hb.store (i := 0) (by simp) hu1 fun w2 hb2 hu2 _ => hb2.store (i := 1) (by simp) hv1 fun w3 hb3 hu3 _ => hQ w3 hb3 (hu2.then hu3)
theorem two_cells {w : World} {g e : Nat} {u v : Value} (hb : Blk w g [u, v] e) : SX.cellsAt w (Addr.mk g 0 none) 0 [u, v] := ⟨hb.cell (i := 0) rfl, hb.cell (i := 1) rfl, trivial⟩

/-- One row more of which no two are the same. -/
theorem unlike_next {α : Type} {same : α → α → Prop} {l : List α} {k : Nat} (hk : k < l.length) (h : ∀ i j (hi : i < l.length) (hj : j < i), i < k → ¬ same l[i] (l[j]'(Nat.lt_trans hj hi))) (hx : ∀ j (hj : j < k), ¬ same l[k] (l[j]'(Nat.lt_trans hj hk))) :
    ∀ i j (hi : i < l.length) (hj : j < i), i < k + 1 → ¬ same l[i] (l[j]'(Nat.lt_trans hj hi)) := by
  intro i j hi hj hik
  by_cases h' : i < k
  · exact h i j hi hj h'
  · have : i = k := by omega
    subst this
    exact hx j hj

section
variable {w : World} {K : Value → World → Prop} {p q : Option Addr} {n c m d : Nat} {s : ByteArray}

/-- A schema in memory. -/
structure SchAt (w : World) (s : Schm) (v : Value) : Prop where
  ex : ∃ (cp : Option Addr) (cc : Nat) (ip : Option Addr) (ic : Nat), v = .agg #[.string s.name, .slice cp s.cols.length cc, .slice ip s.ixs.length ic, .int .i64 s.limit, .int .i64 s.parts, .int .i64 s.by_] ∧ Cols w cp s.cols ∧ s.cols.length ≤ cc ∧ Ixs w ip s.ixs ∧ s.ixs.length ≤ ic
  small : s.cols.length ≤ 9223372036854775806 ∧ s.ixs.length ≤ 9223372036854775806 ∧ ∀ x ∈ s.ixs, x.cols.length ≤ 9223372036854775806
theorem SchAt.upd0 {w w' : World} {s : Schm} {v : Value} (h : SchAt w s v) (hu : Upd Nothing w w') : SchAt w' s v := by
  obtain ⟨⟨cp, cc, ip, ic, hv, h1, h2, h3, h4⟩, h5⟩ := h
  exact ⟨⟨cp, cc, ip, ic, hv, h1.upd0 hu, h2, h3.upd0 hu, h4⟩, h5⟩

end
end Sc
end Go.Proofs.Ytjcgociobhhijaa
