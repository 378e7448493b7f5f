/- The arguments of the statements over package value, as they lie in memory. -/
import Derived.Test.YtjcgociobhhijaaVP
import Derived.Test.YtjcgociobhhijaaLF
set_option linter.unusedVariables false
set_option linter.unusedSimpArgs false
set_option maxRecDepth 100000
namespace Go.Proofs.Ytjcgociobhhijaa
open Go Go.Proofs.Ytjcgociobhhijaa.SX Go.ChangeShapes Go.WideShapes Go.ChangeAt Go.RowKit
namespace Va

/-- The numbers of a value are numbers of 64 bits. -/
def Val.wf (v : Val) : Prop := (-9223372036854775808 ≤ v.k ∧ v.k ≤ 9223372036854775807) ∧ (-9223372036854775808 ≤ v.n ∧ v.n ≤ 9223372036854775807) ∧ v.s.size ≤ maxLen

theorem rd_val {W : World} {cs : List Value} (h : Rd prog W T.api_Value cs) : ∃ v : Val, cs = v.cells ∧ Val.wf v := by
  obtain ⟨hl, hf⟩ := h.struct Try.underlying109
  have h3 : prog.cellsOf T.api_Value = 3 := by kernel_rfl
  have h1 : prog.cellsOf T.int = 1 := by kernel_rfl
  have h1' : prog.cellsOf T.int64 = 1 := by kernel_rfl
  have h1'' : prog.cellsOf T.string = 1 := by kernel_rfl
  rw [h3] at hl
  match cs, hl with
  | [u0, u1, u2], _ =>
    have f0 : Rd prog W T.int (([u0, u1, u2].drop 0).take (prog.cellsOf T.int)) := hf 0 _ rfl
    have f1 : Rd prog W T.int64 (([u0, u1, u2].drop 1).take (prog.cellsOf T.int64)) := hf 1 _ rfl
    have f2 : Rd prog W T.string (([u0, u1, u2].drop 2).take (prog.cellsOf T.string)) := hf 2 _ rfl
    rw [h1] at f0
    rw [h1'] at f1
    rw [h1''] at f2
    replace f0 : Rd prog W T.int [u0] := f0
    replace f1 : Rd prog W T.int64 [u1] := f1
    replace f2 : Rd prog W T.string [u2] := f2
    obtain ⟨k, e0, w0⟩ := f0.int Try.underlying3
    obtain ⟨n, e1, w1⟩ := f1.int Try.underlying2
    obtain ⟨s, e2, w2⟩ := f2.str Try.underlying9
    simp only [List.cons.injEq, and_true] at e0 e1 e2
    subst e0; subst e1; subst e2
    exact ⟨⟨k, n, s⟩, rfl, wf_i64 w0, wf_i64 w1, w2⟩

theorem sval : SliceT prog T.s_api_Value T.api_Value 3 32 [.int .i64 0, .int .i64 0, .string ByteArray.empty] := SliceT.of_tab (ti := ti79) (te := ti109) tabOK (by kernel_rfl) (by kernel_rfl) (by kernel_rfl) (by kernel_rfl)

theorem rd_vals {W : World} {cs : List Value} (h : Rd prog W T.s_api_Value cs) : ∃ (p : Option Addr) (n c : Nat) (xs : List Val), cs = [.slice p n c] ∧ n ≤ c ∧ c ≤ maxLen ∧ At W p (vals xs) ∧ xs.length = n ∧ ∀ x ∈ xs, Val.wf x := by
  obtain ⟨p, n, c, rfl, hle, hc, hnil, hel⟩ := h.slice sval.desc
  have hs : prog.cellsOf T.api_Value = 3 := by kernel_rfl
  have key : ∀ i, ∃ x : Val, i < n → ((∃ a, p = some a ∧ W.cell? (a.add (i * 3)) = some (.int .i64 x.k) ∧ W.cell? (a.add (i * 3 + 1)) = some (.int .i64 x.n) ∧ W.cell? (a.add (i * 3 + 2)) = some (.string x.s)) ∧ Val.wf x) := by
    intro i
    by_cases hi : i < n
    · obtain ⟨a, es, hp, hm, hr⟩ := hel i hi
      obtain ⟨x, rfl, hw⟩ := rd_val hr
      obtain ⟨_, hcell⟩ := cells_of_mapM (W := W) (f := fun j => (a.add (i * prog.cellsOf T.api_Value)).add j) hm
      have c0 := hcell 0 _ rfl
      have c1 := hcell 1 _ rfl
      have c2 := hcell 2 _ rfl
      rw [hs, Addr.add_two] at c0 c1 c2
      exact ⟨x, fun _ => ⟨⟨a, hp, c0, c1, c2⟩, hw⟩⟩
    · exact ⟨⟨0, 0, ⟨#[]⟩⟩, fun h => absurd h hi⟩
  let xs : List Val := (List.range n).map fun i => Classical.choose (key i)
  have hxl : xs.length = n := by simp [xs]
  have hxi : ∀ i (hi : i < xs.length), xs[i] = Classical.choose (key i) := by intro i hi; simp [xs]
  refine ⟨p, n, c, xs, rfl, hle, hc, ?_, hxl, ?_⟩
  · intro j v hj
    have hjn : j < n * 3 := by have := (List.getElem?_eq_some_iff.1 hj).1; simpa [hxl] using this
    have hi : j / 3 < xs.length := by omega
    obtain ⟨⟨a, hp, c0, c1, c2⟩, _⟩ := Classical.choose_spec (key (j / 3)) (by omega)
    have hg := vals_get (xs := xs) (i := j / 3) (j := j % 3) hi (by omega)
    rw [show j / 3 * 3 + j % 3 = j by omega, hj, hxi] at hg
    refine ⟨a, hp, ?_⟩
    obtain h3 | h3 | h3 : j % 3 = 0 ∨ j % 3 = 1 ∨ j % 3 = 2 := by omega
    · rw [h3] at hg
      rw [show j = j / 3 * 3 by omega, c0]
      exact hg.symm
    · rw [h3] at hg
      rw [show j = j / 3 * 3 + 1 by omega]
      rw [c1]
      exact hg.symm
    · rw [h3] at hg
      rw [show j = j / 3 * 3 + 2 by omega]
      rw [c2]
      exact hg.symm
  · intro x hx
    simp only [xs, List.mem_map, List.mem_range] at hx
    obtain ⟨i, hi, rfl⟩ := hx
    exact (Classical.choose_spec (key i) hi).2
end Va
end Go.Proofs.Ytjcgociobhhijaa
