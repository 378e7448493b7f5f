/- Schemas as arguments: how they lie in memory; what the document's answer asks of them; what fits a schema. -/
import Derived.Test.YtjcgociobhhijaaSL
set_option linter.unusedVariables false
set_option linter.unusedSimpArgs false
set_option maxRecDepth 100000
namespace Go.Proofs.Ytjcgociobhhijaa
open Go Go.Proofs.Ytjcgociobhhijaa.SX Va
namespace Sc
section
variable {w : World} {K : Value → World → Prop} {p q : Option Addr} {n c m d : Nat} {s : Schm} {v : Value} {row : List Val} {index : Int}

/-- What is small of a schema that is not too great. -/
def Small (s : Schm) : Prop := s.cols.length ≤ 12 ∧ s.ixs.length ≤ 8 ∧ ∀ x ∈ s.ixs, x.cols.length ≤ 12

/-- A schema in memory, of whatever length. -/
def SchEx (w : World) (s : Schm) (v : Value) : Prop := ∃ (cp : Option Addr) (cc : Nat) (ip : Option Addr) (ic : Nat), v = .agg #[.string s.name, .slice cp s.cols.length cc, .slice ip s.ixs.length ic, .int .i64 s.limit, .int .i64 s.parts, .int .i64 s.by_] ∧ Cols w cp s.cols ∧ s.cols.length ≤ cc ∧ Ixs w ip s.ixs ∧ s.ixs.length ≤ ic
theorem SchEx.at {w : World} {s : Schm} {v : Value} (h : SchEx w s v) (hs : Small s) : SchAt w s v := ⟨h, by have := hs.1; omega, by have := hs.2.1; omega, fun x hx => by have := hs.2.2 x hx; omega⟩
theorem SchEx.upd0 {w w' : World} {s : Schm} {v : Value} (h : SchEx w s v) (hu : Upd Nothing w w') : SchEx w' s v := by
  obtain ⟨cp, cc, ip, ic, hv, h1, h2, h3, h4⟩ := h
  exact ⟨cp, cc, ip, ic, hv, h1.upd0 hu, h2, h3.upd0 hu, h4⟩

/-! ### as an argument -/
theorem scol : SliceT prog T.s_api_Column T.api_Column 2 24 [.string ByteArray.empty, .int .i64 0] := SliceT.of_tab (ti := ti46) (te := ti81) tabOK (by kernel_rfl) (by kernel_rfl) (by kernel_rfl) (by kernel_rfl)
theorem six : SliceT prog T.s_api_Index T.api_Index 2 32 [.slice none 0 0, .bool false] := SliceT.of_tab (ti := ti93) (te := ti177) tabOK (by kernel_rfl) (by kernel_rfl) (by kernel_rfl) (by kernel_rfl)
theorem sint : SliceT prog T.s_int T.int 1 8 [.int .i64 0] := SliceT.of_tab (ti := ti26) (te := ti3) tabOK (by kernel_rfl) (by kernel_rfl) (by kernel_rfl) (by kernel_rfl)
theorem rd_ints {W : World} {cs : List Value} (h : Rd prog W T.s_int cs) : ∃ (p : Option Addr) (n c : Nat) (ys : List Int), cs = [.slice p n c] ∧ n ≤ c ∧ c ≤ maxLen ∧ At W p (ints ys) ∧ ys.length = n := by
  obtain ⟨p, n, c, rfl, hle, hc, hnil, hel⟩ := h.slice sint.desc
  have hs : prog.cellsOf T.int = 1 := by kernel_rfl
  have key : ∀ i, ∃ x : Int, i < n → ∃ a, p = some a ∧ W.cell? (a.add i) = some (.int .i64 x) := by
    intro i
    by_cases hi : i < n
    · obtain ⟨a, es, hp, hm, hr⟩ := hel i hi
      obtain ⟨x, rfl, _⟩ := hr.int Try.underlying3
      obtain ⟨_, hcell⟩ := cells_of_mapM (W := W) (f := fun j => (a.add (i * prog.cellsOf T.int)).add j) hm
      have := hcell 0 _ rfl
      rw [hs, Nat.mul_one] at this
      exact ⟨x, fun _ => ⟨a, hp, this⟩⟩
    · exact ⟨0, fun h => absurd h hi⟩
  let ys : List Int := (List.range n).map fun i => Classical.choose (key i)
  refine ⟨p, n, c, ys, rfl, hle, hc, ?_, by simp [ys]⟩
  intro j v hj
  have hjn : j < n := by have := (List.getElem?_eq_some_iff.1 hj).1; simpa [ys] using this
  have hv : v = .int .i64 (Classical.choose (key j)) := by
    simp [ints, ys, List.getElem?_range hjn] at hj
    exact hj.symm
  rw [hv]
  exact Classical.choose_spec (key j) hjn
end
end Sc
end Go.Proofs.Ytjcgociobhhijaa
