/- Windows: the arguments, read. -/
import Derived.Test.YtjcgociobhhijaaWG
set_option linter.unusedVariables false
set_option linter.unusedSimpArgs false
set_option maxRecDepth 100000
namespace Go.Proofs.Ytjcgociobhhijaa
open Go Go.Proofs.Ytjcgociobhhijaa.SX Go.ChangeShapes Go.WideShapes Go.ChangeAt Go.RowKit Va Cd Sc
namespace Wn
theorem choose_list {α : Type} {P : Nat → α → Prop} : ∀ (n : Nat), (∀ i, i < n → ∃ x, P i x) → ∃ l : List α, l.length = n ∧ ∀ i (h : i < l.length), P i l[i]
  | 0, _ => ⟨[], rfl, fun i h => by simp at h⟩
  | n + 1, h => by
    obtain ⟨l, hl, hp⟩ := choose_list n fun i hi => h i (by omega)
    obtain ⟨x, hx⟩ := h n (by omega)
    refine ⟨l ++ [x], by simp [hl], fun i hi => ?_⟩
    by_cases hin : i < l.length
    · rw [List.getElem_append_left hin]; exact hp i hin
    · have : i = n := by simp at hi; omega
      subst this
      rw [List.getElem_append_right (by omega)]
      simpa using hx
theorem at_low {w : World} {p : Option Addr} {xs : List Value} (h : At w p xs) : xs ≠ [] → ∀ a, p = some a → a.block < w.heap.size := fun hx a ha => by
  obtain ⟨x, r, rfl⟩ := List.exists_cons_of_ne_nil hx
  obtain ⟨b, hb, hc⟩ := h 0 x rfl
  have := World.block_lt_of_cell? w _ hc
  rw [ha] at hb
  injection hb with hb
  subst hb
  rw [addr_block] at this
  exact this
/-- Blocks that there are. -/
abbrev Lo (W : World) : Nat → Prop := fun k => k < W.heap.size
theorem ls_of {α : Type} {W : World} {P : Option Addr → Nat → α → Prop} {p : Option Addr} {l : List α} (h : ∀ i (h : i < l.length), ∃ (a : Addr) (q : Option Addr) (m d : Nat), p = some a ∧ W.cell? (a.add (i * 1)) = some (.slice q m d) ∧ P q m l[i] ∧ m ≤ d) : LsS (fun _ => Lo W) W P p l.length l := by
  obtain ⟨xs, hx, hp⟩ := choose_list (P := fun i v => ∃ (_ : i < l.length) (a : Addr) (q : Option Addr) (m d : Nat), p = some a ∧ W.cell? (a.add (i * 1)) = some v ∧ v = .slice q m d ∧ P q m l[i] ∧ m ≤ d) l.length fun i hi => by
    obtain ⟨a, q, m, d, h1, h2, h3, h4⟩ := h i hi
    exact ⟨_, hi, a, q, m, d, h1, h2, rfl, h3, h4⟩
  have hat : At W p xs := fun i v hi => by
    obtain ⟨hix, rfl⟩ := List.getElem?_eq_some_iff.1 hi
    obtain ⟨_, a, q, m, d, h1, h2, _⟩ := hp i hix
    exact ⟨a, h1, by simpa using h2⟩
  refine ⟨xs, hat, at_low hat, ⟨hx, fun i hi => ?_⟩, rfl⟩
  obtain ⟨_, a, q, m, d, h1, h2, h3, h4, h5⟩ := hp i (by omega)
  exact ⟨q, m, d, by rw [List.getElem?_eq_getElem (by omega), h3], h4, h5⟩

section
variable {W : World} {cs : List Value}
def WfR (rows : List Row) : Prop := ∀ r ∈ rows, ∀ v ∈ r, Va.Val.wf v
theorem rd_rows (h : Rd prog W T.s_s_api_Value cs) : ∃ (p : Option Addr) (n c : Nat) (l : List Row), cs = [.slice p n c] ∧ n ≤ c ∧ c ≤ maxLen ∧ RwsS' (fun _ => Lo W) W p n l ∧ WfR l := by
  obtain ⟨p, n, c, rfl, hle, hc, hnil, hel⟩ := h.slice Try.underlying56
  have hs : prog.cellsOf T.s_api_Value = 1 := by kernel_rfl
  obtain ⟨l, hl, hp⟩ := choose_list (P := fun i (r : Row) => (∃ (a : Addr) (q : Option Addr) (m d : Nat), p = some a ∧ W.cell? (a.add (i * 1)) = some (.slice q m d) ∧ RowS (fun _ => Lo W) W q m r ∧ m ≤ d) ∧ ∀ v ∈ r, Va.Val.wf v) n fun i hi => by
    obtain ⟨a, es, hpa, hm, hr⟩ := hel i hi
    obtain ⟨q, m, d, xs, rfl, hmd, _, hat, hxl, hw⟩ := rd_vals hr
    obtain ⟨_, hcell⟩ := cells_of_mapM (W := W) (f := fun j => (a.add (i * prog.cellsOf T.s_api_Value)).add j) hm
    have c0 := hcell 0 _ rfl
    rw [hs, Addr.add_two] at c0
    refine ⟨xs, ⟨a, q, m, d, hpa, c0, ⟨hat, fun hne => at_low hat fun e => hne ?_, hxl⟩, hmd⟩, hw⟩
    cases xs with
    | nil => rfl
    | cons x r => simp [vals, Val.cells] at e
  have key := ls_of (W := W) (P := RowS (fun _ => Lo W) W) (p := p) fun i hi => (hp i hi).1
  rw [hl] at key
  refine ⟨p, n, c, l, rfl, hle, hc, key, fun r hr => ?_⟩
  obtain ⟨i, hi, rfl⟩ := List.mem_iff_getElem.1 hr
  exact (hp i hi).2
theorem rd_batch (h : Rd prog W T.stream_Batch cs) : ∃ (id : Int) (q : Option Addr) (m d : Nat) (l : List Row), cs = [.int .i64 id, .slice q m d] ∧ RwsS' (fun _ => Lo W) W q m l ∧ m ≤ d ∧ WfR l := by
  obtain ⟨hl, hf⟩ := h.struct Try.underlying58
  have h2 : prog.cellsOf T.stream_Batch = 2 := by kernel_rfl
  have h1 : prog.cellsOf T.int = 1 := by kernel_rfl
  have h1' : prog.cellsOf T.s_s_api_Value = 1 := by kernel_rfl
  rw [h2] at hl
  match cs, hl with
  | [u0, u1], _ =>
    have f0 : Rd prog W T.int (([u0, u1].drop 0).take (prog.cellsOf T.int)) := hf 0 _ rfl
    have f1 : Rd prog W T.s_s_api_Value (([u0, u1].drop 1).take (prog.cellsOf T.s_s_api_Value)) := hf 1 _ rfl
    rw [h1] at f0
    rw [h1'] at f1
    replace f0 : Rd prog W T.int [u0] := f0
    replace f1 : Rd prog W T.s_s_api_Value [u1] := f1
    obtain ⟨id, e0, _⟩ := f0.int Try.underlying3
    obtain ⟨q, m, d, l, e1, hle, _, hr, hw⟩ := rd_rows f1
    simp only [List.cons.injEq, and_true] at e0 e1
    subst e0; subst e1
    exact ⟨id, q, m, d, l, rfl, hr, hle, hw⟩
theorem rd_batches (h : Rd prog W T.s_stream_Batch cs) : ∃ (p : Option Addr) (n c : Nat) (bl : List (List Row)), cs = [.slice p n c] ∧ n ≤ c ∧ BatsS (Lo W) W p n bl ∧ ∀ rows ∈ bl, WfR rows := by
  obtain ⟨p, n, c, rfl, hle, hc, hnil, hel⟩ := h.slice Try.underlying54
  have hs : prog.cellsOf T.stream_Batch = 2 := by kernel_rfl
  obtain ⟨l, hl, hp⟩ := choose_list (P := fun i (rows : List Row) => (∃ (a : Addr) (id : Int) (q : Option Addr) (m d : Nat), p = some a ∧ Lo W a.block ∧ SX.cellsAt W (a.add (i * 2)) 0 [.int .i64 id, .slice q m d] ∧ RwsS' (fun _ => Lo W) W q m rows ∧ m ≤ d) ∧ WfR rows) n fun i hi => by
    obtain ⟨a, es, hpa, hm, hr⟩ := hel i hi
    obtain ⟨id, q, m, d, rows, rfl, hrs, hmd, hw⟩ := rd_batch hr
    obtain ⟨_, hcell⟩ := cells_of_mapM (W := W) (f := fun j => (a.add (i * prog.cellsOf T.stream_Batch)).add j) hm
    have c0 := hcell 0 _ rfl
    have c1 := hcell 1 _ rfl
    rw [hs] at c0 c1
    have hlt := World.block_lt_of_cell? W _ c0
    rw [addr_block, addr_block] at hlt
    exact ⟨rows, ⟨a, id, q, m, d, hpa, hlt, ⟨c0, c1, trivial⟩, hrs, hmd⟩, hw⟩
  refine ⟨p, n, c, l, rfl, hle, ⟨fun i hi => (hp i hi).1, hl⟩, fun r hr => ?_⟩
  obtain ⟨i, hi, rfl⟩ := List.mem_iff_getElem.1 hr
  exact (hp i hi).2
theorem rd_groups (h : Rd prog W T.s_s_stream_Batch cs) : ∃ (p : Option Addr) (n c : Nat) (gl : List (List (List Row))), cs = [.slice p n c] ∧ GrpsS (Lo W) W p n gl ∧ ∀ bl ∈ gl, ∀ rows ∈ bl, WfR rows := by
  obtain ⟨p, n, c, rfl, hle, hc, hnil, hel⟩ := h.slice Try.underlying47
  have hs : prog.cellsOf T.s_stream_Batch = 1 := by kernel_rfl
  obtain ⟨l, hl, hp⟩ := choose_list (P := fun i (bl : List (List Row)) => (∃ (a : Addr) (q : Option Addr) (m d : Nat), p = some a ∧ Lo W a.block ∧ W.cell? (a.add (i * 1)) = some (.slice q m d) ∧ BatsS (Lo W) W q m bl ∧ m ≤ d) ∧ ∀ rows ∈ bl, WfR rows) n fun i hi => by
    obtain ⟨a, es, hpa, hm, hr⟩ := hel i hi
    obtain ⟨q, m, d, bl, rfl, hmd, hrs, hw⟩ := rd_batches hr
    obtain ⟨_, hcell⟩ := cells_of_mapM (W := W) (f := fun j => (a.add (i * prog.cellsOf T.s_stream_Batch)).add j) hm
    have c0 := hcell 0 _ rfl
    rw [hs, Addr.add_two] at c0
    have hlt := World.block_lt_of_cell? W _ c0
    rw [addr_block] at hlt
    exact ⟨bl, ⟨a, q, m, d, hpa, hlt, c0, hrs, hmd⟩, hw⟩
  refine ⟨p, n, c, l, rfl, ⟨fun i hi => (hp i hi).1, hl⟩, fun r hr => ?_⟩
  obtain ⟨i, hi, rfl⟩ := List.mem_iff_getElem.1 hr
  exact (hp i hi).2
theorem rd_win (h : Rd prog W T.api_Window cs) : ∃ (name onn owner : ByteArray) (bt : Bool) (size slide : Int), cs = [.string name, .string onn, .string owner, .bool bt, .int .i64 size, .int .i64 slide] := by
  obtain ⟨hl, hf⟩ := h.struct Try.underlying45
  have h6 : prog.cellsOf T.api_Window = 6 := by kernel_rfl
  have h1 : prog.cellsOf T.int = 1 := by kernel_rfl
  have h1' : prog.cellsOf T.string = 1 := by kernel_rfl
  have h1'' : prog.cellsOf T.bool = 1 := by kernel_rfl
  rw [h6] at hl
  match cs, hl with
  | [u0, u1, u2, u3, u4, u5], _ =>
    have f0 : Rd prog W T.string (([u0, u1, u2, u3, u4, u5].drop 0).take (prog.cellsOf T.string)) := hf 0 _ rfl
    have f1 : Rd prog W T.string (([u0, u1, u2, u3, u4, u5].drop 1).take (prog.cellsOf T.string)) := hf 1 _ rfl
    have f2 : Rd prog W T.string (([u0, u1, u2, u3, u4, u5].drop 2).take (prog.cellsOf T.string)) := hf 2 _ rfl
    have f3 : Rd prog W T.bool (([u0, u1, u2, u3, u4, u5].drop 3).take (prog.cellsOf T.bool)) := hf 3 _ rfl
    have f4 : Rd prog W T.int (([u0, u1, u2, u3, u4, u5].drop 4).take (prog.cellsOf T.int)) := hf 4 _ rfl
    have f5 : Rd prog W T.int (([u0, u1, u2, u3, u4, u5].drop 5).take (prog.cellsOf T.int)) := hf 5 _ rfl
    rw [h1'] at f0 f1 f2
    rw [h1''] at f3
    rw [h1] at f4 f5
    replace f0 : Rd prog W T.string [u0] := f0
    replace f1 : Rd prog W T.string [u1] := f1
    replace f2 : Rd prog W T.string [u2] := f2
    replace f3 : Rd prog W T.bool [u3] := f3
    replace f4 : Rd prog W T.int [u4] := f4
    replace f5 : Rd prog W T.int [u5] := f5
    obtain ⟨n0, e0, _⟩ := f0.str Try.underlying9
    obtain ⟨n1, e1, _⟩ := f1.str Try.underlying9
    obtain ⟨n2, e2, _⟩ := f2.str Try.underlying9
    obtain ⟨b, e3⟩ := f3.bool Try.underlying4
    obtain ⟨i4, e4, _⟩ := f4.int Try.underlying3
    obtain ⟨i5, e5, _⟩ := f5.int Try.underlying3
    simp only [List.cons.injEq, and_true] at e0 e1 e2 e3 e4 e5
    subst e0; subst e1; subst e2; subst e3; subst e4; subst e5
    exact ⟨n0, n1, n2, b, i4, i5, rfl⟩
end
end Wn
end Go.Proofs.Ytjcgociobhhijaa
