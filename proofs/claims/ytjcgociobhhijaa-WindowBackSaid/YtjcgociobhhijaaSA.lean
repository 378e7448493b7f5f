/- Schemas as arguments: what a schema reads as. -/
import Derived.Test.YtjcgociobhhijaaSG
set_option linter.unusedVariables false
set_option linter.unusedSimpArgs false
set_option maxRecDepth 100000
namespace Go.Proofs.Ytjcgociobhhijaa
open Go Go.Proofs.Ytjcgociobhhijaa.SX Go.ChangeShapes Go.WideShapes Go.ChangeAt Go.RowKit Va
namespace Sc
section
variable {W : World} {cs : List Value}

theorem rd_col (h : Rd prog W T.api_Column cs) : ∃ c : Col, cs = c.cells := by
  obtain ⟨hl, hf⟩ := h.struct Try.underlying81
  have h2 : prog.cellsOf T.api_Column = 2 := by kernel_rfl
  have h1 : prog.cellsOf T.int = 1 := by kernel_rfl
  have h1' : prog.cellsOf T.string = 1 := by kernel_rfl
  rw [h2] at hl
  match cs, hl with
  | [u0, u1], _ =>
    have f0 : Rd prog W T.string (([u0, u1].drop 0).take (prog.cellsOf T.string)) := hf 0 _ rfl
    have f1 : Rd prog W T.int (([u0, u1].drop 1).take (prog.cellsOf T.int)) := hf 1 _ rfl
    rw [h1'] at f0
    rw [h1] at f1
    replace f0 : Rd prog W T.string [u0] := f0
    replace f1 : Rd prog W T.int [u1] := f1
    obtain ⟨s, e0, _⟩ := f0.str Try.underlying9
    obtain ⟨k, e1, _⟩ := f1.int Try.underlying3
    simp only [List.cons.injEq, and_true] at e0 e1
    subst e0; subst e1
    exact ⟨⟨s, k⟩, rfl⟩

theorem rd_cols (h : Rd prog W T.s_api_Column cs) : ∃ (p : Option Addr) (n c : Nat) (l : List Col), cs = [.slice p n c] ∧ n ≤ c ∧ c ≤ maxLen ∧ Cols W p l ∧ l.length = n := by
  obtain ⟨p, n, c, rfl, hle, hc, hnil, hel⟩ := h.slice scol.desc
  have hs : prog.cellsOf T.api_Column = 2 := by kernel_rfl
  have key : ∀ i, ∃ x : Col, i < n → ∃ a, p = some a ∧ SX.cellsAt W (a.add (i * 2)) 0 [.string x.name, .int .i64 x.kind] := by
    intro i
    by_cases hi : i < n
    · obtain ⟨a, es, hp, hm, hr⟩ := hel i hi
      obtain ⟨x, rfl⟩ := rd_col hr
      obtain ⟨_, hcell⟩ := cells_of_mapM (W := W) (f := fun j => (a.add (i * prog.cellsOf T.api_Column)).add j) hm
      have c0 := hcell 0 _ rfl
      have c1 := hcell 1 _ rfl
      rw [hs] at c0 c1
      exact ⟨x, fun _ => ⟨a, hp, c0, c1, trivial⟩⟩
    · exact ⟨⟨⟨#[]⟩, 0⟩, fun h => absurd h hi⟩
  refine ⟨p, n, c, (List.range n).map fun i => Classical.choose (key i), rfl, hle, hc, fun i hi => ?_, by simp⟩
  have hin : i < n := by simpa using hi
  have e : ((List.range n).map fun i => Classical.choose (key i))[i] = Classical.choose (key i) := by simp
  rw [e]
  exact Classical.choose_spec (key i) hin

theorem rd_ix (h : Rd prog W T.api_Index cs) : ∃ (x : Ix) (q : Option Addr) (n c : Nat), cs = [.slice q n c, .bool x.unique] ∧ At W q (ints x.cols) ∧ x.cols.length = n ∧ n ≤ c ∧ c ≤ maxLen := by
  obtain ⟨hl, hf⟩ := h.struct Try.underlying177
  have h2 : prog.cellsOf T.api_Index = 2 := by kernel_rfl
  have h1 : prog.cellsOf T.s_int = 1 := by kernel_rfl
  have h1' : prog.cellsOf T.bool = 1 := by kernel_rfl
  rw [h2] at hl
  match cs, hl with
  | [u0, u1], _ =>
    have f0 : Rd prog W T.s_int (([u0, u1].drop 0).take (prog.cellsOf T.s_int)) := hf 0 _ rfl
    have f1 : Rd prog W T.bool (([u0, u1].drop 1).take (prog.cellsOf T.bool)) := hf 1 _ rfl
    rw [h1] at f0
    rw [h1'] at f1
    replace f0 : Rd prog W T.s_int [u0] := f0
    replace f1 : Rd prog W T.bool [u1] := f1
    obtain ⟨q, n, c, ys, e0, hle, hc, hat, hlen⟩ := rd_ints f0
    obtain ⟨b, e1⟩ := f1.bool Try.underlying4
    simp only [List.cons.injEq, and_true] at e0 e1
    subst e0; subst e1
    exact ⟨⟨ys, b⟩, q, n, c, rfl, hat, hlen, hle, hc⟩

theorem rd_ixs (h : Rd prog W T.s_api_Index cs) : ∃ (p : Option Addr) (n c : Nat) (l : List Ix), cs = [.slice p n c] ∧ n ≤ c ∧ c ≤ maxLen ∧ Ixs W p l ∧ l.length = n ∧ ∀ x ∈ l, x.cols.length ≤ maxLen := by
  obtain ⟨p, n, c, rfl, hle, hc, hnil, hel⟩ := h.slice six.desc
  have hs : prog.cellsOf T.api_Index = 2 := by kernel_rfl
  have key : ∀ i, ∃ x : Ix, i < n → (∃ a q m d, p = some a ∧ SX.cellsAt W (a.add (i * 2)) 0 [.slice q m d, .bool x.unique] ∧ At W q (ints x.cols) ∧ x.cols.length = m ∧ m ≤ d) ∧ x.cols.length ≤ maxLen := by
    intro i
    by_cases hi : i < n
    · obtain ⟨a, es, hp, hm, hr⟩ := hel i hi
      obtain ⟨x, q, m, d, rfl, hat, hlen, hmd, hd⟩ := rd_ix hr
      obtain ⟨_, hcell⟩ := cells_of_mapM (W := W) (f := fun j => (a.add (i * prog.cellsOf T.api_Index)).add j) hm
      have c0 := hcell 0 _ rfl
      have c1 := hcell 1 _ rfl
      rw [hs] at c0 c1
      exact ⟨x, fun _ => ⟨⟨a, q, m, d, hp, ⟨c0, c1, trivial⟩, hat, hlen, hmd⟩, by omega⟩⟩
    · exact ⟨⟨[], false⟩, fun h => absurd h hi⟩
  refine ⟨p, n, c, (List.range n).map fun i => Classical.choose (key i), rfl, hle, hc, fun i hi => ?_, by simp, fun x hx => ?_⟩
  · have hin : i < n := by simpa using hi
    have e : ((List.range n).map fun i => Classical.choose (key i))[i] = Classical.choose (key i) := by simp
    rw [e]
    exact (Classical.choose_spec (key i) hin).1
  · simp only [List.mem_map, List.mem_range] at hx
    obtain ⟨i, hi, rfl⟩ := hx
    exact (Classical.choose_spec (key i) hi).2

/-- A schema. (The lengths of its lists are below the greatest number: the laws ask it of great ones.) -/
theorem rd_sch (h : Rd prog W T.api_Schema cs) : ∃ (s : Schm) (cp : Option Addr) (cc : Nat) (ip : Option Addr) (ic : Nat), cs = [.string s.name, .slice cp s.cols.length cc, .slice ip s.ixs.length ic, .int .i64 s.limit, .int .i64 s.parts, .int .i64 s.by_] ∧
    Cols W cp s.cols ∧ s.cols.length ≤ cc ∧ cc ≤ maxLen ∧ Ixs W ip s.ixs ∧ s.ixs.length ≤ ic ∧ ic ≤ maxLen ∧ (∀ x ∈ s.ixs, x.cols.length ≤ maxLen) := by
  obtain ⟨hl, hf⟩ := h.struct Try.underlying95
  have h6 : prog.cellsOf T.api_Schema = 6 := by kernel_rfl
  have h1 : prog.cellsOf T.int = 1 := by kernel_rfl
  have h1' : prog.cellsOf T.string = 1 := by kernel_rfl
  have hc1 : prog.cellsOf T.s_api_Column = 1 := by kernel_rfl
  have hi1 : prog.cellsOf T.s_api_Index = 1 := by kernel_rfl
  rw [h6] at hl
  match cs, hl with
  | [u0, u1, u2, u3, u4, u5], _ =>
    have f0 : Rd prog W T.string (([u0, u1, u2, u3, u4, u5].drop 0).take (prog.cellsOf T.string)) := hf 0 _ rfl
    have f1 : Rd prog W T.s_api_Column (([u0, u1, u2, u3, u4, u5].drop 1).take (prog.cellsOf T.s_api_Column)) := hf 1 _ rfl
    have f2 : Rd prog W T.s_api_Index (([u0, u1, u2, u3, u4, u5].drop 2).take (prog.cellsOf T.s_api_Index)) := hf 2 _ rfl
    have f3 : Rd prog W T.int (([u0, u1, u2, u3, u4, u5].drop 3).take (prog.cellsOf T.int)) := hf 3 _ rfl
    have f4 : Rd prog W T.int (([u0, u1, u2, u3, u4, u5].drop 4).take (prog.cellsOf T.int)) := hf 4 _ rfl
    have f5 : Rd prog W T.int (([u0, u1, u2, u3, u4, u5].drop 5).take (prog.cellsOf T.int)) := hf 5 _ rfl
    rw [h1'] at f0
    rw [hc1] at f1
    rw [hi1] at f2
    rw [h1] at f3 f4 f5
    replace f0 : Rd prog W T.string [u0] := f0
    replace f1 : Rd prog W T.s_api_Column [u1] := f1
    replace f2 : Rd prog W T.s_api_Index [u2] := f2
    replace f3 : Rd prog W T.int [u3] := f3
    replace f4 : Rd prog W T.int [u4] := f4
    replace f5 : Rd prog W T.int [u5] := f5
    obtain ⟨nm, e0, _⟩ := f0.str Try.underlying9
    obtain ⟨cp, cn, cc, cl, e1, hcn, hcc, hcols, hcl⟩ := rd_cols f1
    obtain ⟨ip, inn, ic, il, e2, hin, hic, hixs, hil, hsm⟩ := rd_ixs f2
    obtain ⟨li, e3, _⟩ := f3.int Try.underlying3
    obtain ⟨pa, e4, _⟩ := f4.int Try.underlying3
    obtain ⟨by_, e5, _⟩ := f5.int Try.underlying3
    simp only [List.cons.injEq, and_true] at e0 e1 e2 e3 e4 e5
    subst e0; subst e1; subst e2; subst e3; subst e4; subst e5
    subst hcl; subst hil
    exact ⟨⟨nm, cl, il, li, pa, by_⟩, cp, cc, ip, ic, rfl, hcols, hcn, hcc, hixs, hin, hic, hsm⟩

/-- An argument that is a structure. -/
theorem arg_struct {b0 : Nat} {t : TypeId} {v : Value} {fs : Array Field} {l : List Value} (ht : prog.underlying t = some (.struct fs)) (hval : Value.okWide prog W .any b0 t v) (h : v.cells.toList = l) : v = .agg l.toArray := by
  unfold Value.okWide at hval
  rw [ht] at hval
  obtain ⟨cs, rfl, _⟩ := hval
  have : cs.toList = l := h
  rw [← this]
end
end Sc
end Go.Proofs.Ytjcgociobhhijaa
