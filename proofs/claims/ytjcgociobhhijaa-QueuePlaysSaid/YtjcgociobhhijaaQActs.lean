/- The arguments of the statements over package queue, as they lie in memory. -/
import Derived.Test.YtjcgociobhhijaaQL
set_option linter.unusedVariables false
set_option linter.unusedSimpArgs false
set_option maxRecDepth 100000
namespace Go.Proofs.Ytjcgociobhhijaa
open Go Go.Proofs.Ytjcgociobhhijaa.SX Go.ChangeShapes Go.WideShapes Go.ChangeAt Go.RowKit
namespace Qu

structure ActAt (w : World) (a : Addr) (kind n : Int) (lp : Option Addr) (ln lc : Nat) (ys : List Int) : Prop where
  c0 : w.cell? (a.add 0) = some (.int .i64 kind)
  c1 : w.cell? (a.add 1) = some (.int .i64 n)
  c2 : w.cell? (a.add 2) = some (.slice lp ln lc)
  lt : ln ≤ lc
  at_ : At w lp (ints ys)
  len : ys.length = ln

/-- A list of acts. -/
def Acts (w : World) (p : Option Addr) (n : Nat) : Prop := ∀ i, i < n → ∃ a kind m lp ln lc ys, p = some a ∧ ActAt w (a.add (i * 3)) kind m lp ln lc ys

theorem ActAt.upd0 {w w' : World} {a : Addr} {kind n : Int} {lp : Option Addr} {ln lc : Nat} {ys : List Int} (h : ActAt w a kind n lp ln lc ys) (hu : Upd Nothing w w') : ActAt w' a kind n lp ln lc ys :=
  ⟨hu.cell h.c0 fun f => f, hu.cell h.c1 fun f => f, hu.cell h.c2 fun f => f, h.lt, h.at_.upd0 hu, h.len⟩

theorem rd_int {W : World} {t : TypeId} {cs : List Value} (ht : t = T.int) (h : Rd prog W t cs) : ∃ n, cs = [.int .i64 n] ∧ (Lit.int .i64 n).wf = true := by
  subst ht
  exact h.int Try.underlying3

theorem rd_ints {W : World} {cs : List Value} (h : Rd prog W T.s_int cs) : ∃ (p : Option Addr) (n c : Nat) (ys : List Int), cs = [.slice p n c] ∧ n ≤ c ∧ c ≤ maxLen ∧ At W p (ints ys) ∧ ys.length = n := by
  obtain ⟨p, n, c, rfl, hle, hc, hnil, hel⟩ := h.slice sint.desc
  have hs : prog.cellsOf T.int = 1 := by kernel_rfl
  have key : ∀ i, ∃ x : Int, i < n → ∃ a, p = some a ∧ W.cell? (a.add i) = some (.int .i64 x) := by
    intro i
    by_cases hi : i < n
    · obtain ⟨a, es, hp, hm, hr⟩ := hel i hi
      obtain ⟨x, rfl, _⟩ := rd_int rfl hr
      obtain ⟨_, hcell⟩ := cells_of_mapM (W := W) (f := fun j => (a.add (i * prog.cellsOf T.int)).add j) hm
      have := hcell 0 _ rfl
      rw [hs, Nat.mul_one] at this
      exact ⟨x, fun _ => ⟨a, hp, this⟩⟩
    · exact ⟨0, fun h => absurd h hi⟩
  let ys : List Int := (List.range n).map fun i => Classical.choose (key i)
  refine ⟨p, n, c, ys, rfl, hle, hc, ?_, by simp [ys]⟩
  intro j v hj
  have hjn : j < n := by have := (List.getElem?_eq_some_iff.1 hj).1; simpa [ys] using this
  have hv : v = .int .i64 (Classical.choose (key j)) := by
    simp [ints, ys, List.getElem?_range hjn] at hj
    exact hj.symm
  rw [hv]
  exact Classical.choose_spec (key j) hjn

theorem rd_act {W : World} {cs : List Value} (h : Rd prog W T.affluxlaw23_Act cs) : ∃ (kind m : Int) (lp : Option Addr) (ln lc : Nat) (ys : List Int), cs = [.int .i64 kind, .int .i64 m, .slice lp ln lc] ∧ ln ≤ lc ∧ At W lp (ints ys) ∧ ys.length = ln := by
  obtain ⟨hl, hf⟩ := h.struct Try.underlying30
  have h3 : prog.cellsOf T.affluxlaw23_Act = 3 := by kernel_rfl
  have h1 : prog.cellsOf T.int = 1 := by kernel_rfl
  have h1' : prog.cellsOf T.s_int = 1 := by kernel_rfl
  rw [h3] at hl
  match cs, hl with
  | [u0, u1, u2], _ =>
    have f0 : Rd prog W T.int (([u0, u1, u2].drop 0).take (prog.cellsOf T.int)) := hf 0 _ rfl
    have f1 : Rd prog W T.int (([u0, u1, u2].drop 1).take (prog.cellsOf T.int)) := hf 1 _ rfl
    have f2 : Rd prog W T.s_int (([u0, u1, u2].drop 2).take (prog.cellsOf T.s_int)) := hf 2 _ rfl
    rw [h1] at f0 f1
    rw [h1'] at f2
    replace f0 : Rd prog W T.int [u0] := f0
    replace f1 : Rd prog W T.int [u1] := f1
    replace f2 : Rd prog W T.s_int [u2] := f2
    obtain ⟨kind, e0, _⟩ := rd_int rfl f0
    obtain ⟨m, e1, _⟩ := rd_int rfl f1
    obtain ⟨lp, ln, lc, ys, e2, hle, _, hat, hlen⟩ := rd_ints f2
    simp only [List.cons.injEq, and_true] at e0 e1 e2
    subst e0; subst e1; subst e2
    exact ⟨kind, m, lp, ln, lc, ys, rfl, hle, hat, hlen⟩

theorem rd_acts {W : World} {cs : List Value} (h : Rd prog W T.s_affluxlaw23_Act cs) : ∃ (p : Option Addr) (n c : Nat), cs = [.slice p n c] ∧ Acts W p n := by
  obtain ⟨p, n, c, rfl, hle, hc, hnil, hel⟩ := h.slice Try.underlying22
  refine ⟨p, n, c, rfl, fun i hi => ?_⟩
  have h3 : prog.cellsOf T.affluxlaw23_Act = 3 := by kernel_rfl
  obtain ⟨a, es, hp, hm, hr⟩ := hel i hi
  obtain ⟨kind, m, lp, ln, lc, ys, rfl, hle, hat, hlen⟩ := rd_act hr
  obtain ⟨_, hcell⟩ := cells_of_mapM (W := W) (f := fun j => (a.add (i * prog.cellsOf T.affluxlaw23_Act)).add j) hm
  have c0 := hcell 0 _ rfl
  have c1 := hcell 1 _ rfl
  have c2 := hcell 2 _ rfl
  rw [h3] at c0 c1 c2
  exact ⟨a, kind, m, lp, ln, lc, ys, hp, ⟨c0, c1, c2, hle, hat, hlen⟩⟩
end Qu
end Go.Proofs.Ytjcgociobhhijaa
