/- Schemas as arguments: how they lie in memory; what the document's answer asks of them; what fits a schema. -/
import Derived.Test.YtjcgociobhhijaaDoorSL
set_option linter.unusedVariables false
set_option linter.unusedSimpArgs false
set_option maxRecDepth 100000
namespace Go.Proofs.YtjcgociobhhijaaDoor
open Go Go.Proofs.YtjcgociobhhijaaDoor.SX Va
namespace Sc
section
variable {w : World} {K : Value → World → Prop} {p q : Option Addr} {n c m d : Nat} {s : Schm} {v : Value} {row : List Val} {index : Int}

/-- What is small of a schema that is not too great. -/
def Small (s : Schm) : Prop := s.cols.length ≤ 12 ∧ s.ixs.length ≤ 8 ∧ ∀ x ∈ s.ixs, x.cols.length ≤ 12

/-- A schema in memory, of whatever length. -/
def SchEx (w : World) (s : Schm) (v : Value) : Prop := ∃ (cp : Option Addr) (cc : Nat) (ip : Option Addr) (ic : Nat), v = .agg #[.string s.name, .slice cp s.cols.length cc, .slice ip s.ixs.length ic, .int .i64 s.limit, .int .i64 s.parts, .int .i64 s.by_] ∧ Cols w cp s.cols ∧ s.cols.length ≤ cc ∧ Ixs w ip s.ixs ∧ s.ixs.length ≤ ic
theorem SchEx.at {w : World} {s : Schm} {v : Value} (h : SchEx w s v) (hs : Small s) : SchAt w s v := ⟨h, by have := hs.1; omega, by have := hs.2.1; omega, fun x hx => by have := hs.2.2 x hx; omega⟩
theorem SchEx.upd0 {w w' : World} {s : Schm} {v : Value} (h : SchEx w s v) (hu : Upd Nothing w w') : SchEx w' s v := by
  obtain ⟨cp, cc, ip, ic, hv, h1, h2, h3, h4⟩ := h
  exact ⟨cp, cc, ip, ic, hv, h1.upd0 hu, h2, h3.upd0 hu, h4⟩

theorem great3_spec (hs : SchEx w s v) (hK : ∀ (b : Bool) w', (b = false → Small s) → Upd Nothing w w' → K (.bool b) w') : CallsV prog F.affluxref03_Great #[v] w K := by
  obtain ⟨cp, cc, ip, ic, rfl, hcols, hcc, hixs, hic⟩ := hs
  refine R.affluxref03_Great ?_
  unfold C.affluxref03_Great
  refine New.use (by simp [Value.oneCell']) fun g w1 hb1 hu1 hge1 _ => ?_
  have hT : K (.bool true) w1 := hK true w1 (fun h => by cases h) hu1
  refine ⟨fun w' => w' = w1 ∧ s.cols.length ≤ 12 ∧ s.ixs.length ≤ 8, ⟨_, _, _, hb1.cell (i := 1) rfl, ifB_mk (fun _ => hT) (fun h1 => ⟨_, _, _, hb1.cell (i := 2) rfl, ifB_mk (fun _ => hT) (fun h2 => ⟨_, hb1.cell (i := 0) rfl, ifB_mk (fun _ => hT) (fun _ => ⟨rfl, by have := of_decide_eq_false h1; omega, by have := of_decide_eq_false h2; omega⟩)⟩)⟩)⟩, ?_⟩
  rintro w2 ⟨rfl, l1, l2⟩
  refine ⟨fun i w' => w' = w2 ∧ ∃ k : Nat, i = k ∧ k ≤ s.cols.length, fun i _ => s.cols.length - i.toNat, ⟨rfl, 0, rfl, by omega⟩, ?_⟩
  rintro i w3 ⟨rfl, k, rfl, hk⟩
  refine ⟨_, _, _, hb1.cell (i := 1) rfl, ifB_mk (fun h => ?_) (fun h => ?_)⟩
  · have hkn : k < s.cols.length := by have := of_decide_eq_true h; omega
    obtain ⟨a, ha, hcl⟩ := (hcols.upd0 hu1) k hkn
    refine ⟨_, _, _, hb1.cell (i := 1) rfl, a, ha, by omega, by omega, _, hcl.1, ifB_mk (fun _ => hT) (fun _ => ?_)⟩
    rw [i64_wrap (by omega) (by omega)]
    exact ⟨⟨rfl, k + 1, by omega, by omega⟩, by show s.cols.length - _ < s.cols.length - _; omega⟩
  · refine ⟨fun i w' => w' = w3 ∧ ∃ k : Nat, i = k ∧ k ≤ s.ixs.length ∧ ∀ x ∈ s.ixs.take k, x.cols.length ≤ 12, fun i _ => s.ixs.length - i.toNat, ⟨rfl, 0, rfl, by omega, by simp⟩, ?_⟩
    rintro i w4 ⟨rfl, k, rfl, hk, hq⟩
    refine ⟨_, _, _, hb1.cell (i := 2) rfl, ifB_mk (fun h => ?_) (fun h => ?_)⟩
    · have hkn : k < s.ixs.length := by have := of_decide_eq_true h; omega
      obtain ⟨a, q1, n1, c1, ha, hcl, hat1, hl1, hc1⟩ := (hixs.upd0 hu1) k hkn
      refine ⟨_, _, _, hb1.cell (i := 2) rfl, a, ha, by omega, by omega, _, _, _, hcl.1, ifB_mk (fun _ => hT) (fun h5 => ?_)⟩
      have h6 := of_decide_eq_false h5
      rw [i64_wrap (by omega) (by omega)]
      exact ⟨⟨rfl, k + 1, by omega, by omega, forall_take hkn hq (by omega)⟩, by show s.ixs.length - _ < s.ixs.length - _; omega⟩
    · have hkn : k = s.ixs.length := by have := of_decide_eq_false h; omega
      rw [List.take_of_length_le (by omega)] at hq
      exact hK false _ (fun _ => ⟨l1, l2, hq⟩) hu1

theorem Fits_spec (hs : SchAt w s v) (hr : At w q (vals row)) (hrl : row.length = m) (hm : m ≤ 9223372036854775806) (hK : ∀ (b : Bool) w', (b = true ↔ s.Right ∧ FitsP s.cols row) → Upd Nothing w w' → K (.bool b) w') :
    CallsV prog F.schema_Fits #[v, .slice q m d] w K := by
  have hs0 := hs
  obtain ⟨⟨cp, cc, ip, ic, rfl, hcols, hcc, hixs, hic⟩, hs1, hs2, hs3⟩ := hs
  refine R.schema_Fits ?_
  unfold C.schema_Fits
  refine New.use (by simp [Value.oneCell']) fun g w1 hb1 hu1 hge1 _ => ⟨_, _, _, _, _, _, _, _, _, _, six_cells hb1, ?_⟩
  refine schema_right (s := s) (hs0.upd0 hu1) fun b w2 hb hu2 => ⟨b, rfl, ifB_mk (fun h => ?_) (fun h => ?_)⟩
  · have hu2' := hu1.then hu2
    refine ⟨_, _, _, (hu2.blk hb1 fun f => f).cell (i := 1) rfl, fits_spec (hcols.upd0 hu2') rfl (hr.upd0 hu2') hrl hm fun b3 w3 e3 hu3 => ⟨b3, rfl, hK _ _ ?_ (hu2'.then hu3)⟩⟩
    rw [e3]
    exact ⟨fun h' => ⟨hb.1 h, h'⟩, fun h' => h'.2⟩
  · refine hK _ _ ⟨fun h => (by cases h), fun h' => ?_⟩ (hu1.then hu2)
    rw [hb.2 h'.1] at h
    cases h

/-! ### as an argument -/
theorem scol : SliceT prog T.s_api_Column T.api_Column 2 24 [.string ByteArray.empty, .int .i64 0] := SliceT.of_tab (ti := ti44) (te := ti66) tabOK (by kernel_rfl) (by kernel_rfl) (by kernel_rfl) (by kernel_rfl)
theorem six : SliceT prog T.s_api_Index T.api_Index 2 32 [.slice none 0 0, .bool false] := SliceT.of_tab (ti := ti45) (te := ti55) tabOK (by kernel_rfl) (by kernel_rfl) (by kernel_rfl) (by kernel_rfl)
theorem sint : SliceT prog T.s_int T.int 1 8 [.int .i64 0] := SliceT.of_tab (ti := ti40) (te := ti3) tabOK (by kernel_rfl) (by kernel_rfl) (by kernel_rfl) (by kernel_rfl)
theorem rd_ints {W : World} {cs : List Value} (h : Rd prog W T.s_int cs) : ∃ (p : Option Addr) (n c : Nat) (ys : List Int), cs = [.slice p n c] ∧ n ≤ c ∧ c ≤ maxLen ∧ At W p (ints ys) ∧ ys.length = n := by
  obtain ⟨p, n, c, rfl, hle, hc, hnil, hel⟩ := h.slice sint.desc
  have hs : prog.cellsOf T.int = 1 := by kernel_rfl
  have key : ∀ i, ∃ x : Int, i < n → ∃ a, p = some a ∧ W.cell? (a.add i) = some (.int .i64 x) := by
    intro i
    by_cases hi : i < n
    · obtain ⟨a, es, hp, hm, hr⟩ := hel i hi
      obtain ⟨x, rfl, _⟩ := hr.int Tryd.underlying3
      obtain ⟨_, hcell⟩ := cells_of_mapM (W := W) (f := fun j => (a.add (i * prog.cellsOf T.int)).add j) hm
      have := hcell 0 _ rfl
      rw [hs, Nat.mul_one] at this
      exact ⟨x, fun _ => ⟨a, hp, this⟩⟩
    · exact ⟨0, fun h => absurd h hi⟩
  let ys : List Int := (List.range n).map fun i => Classical.choose (key i)
  refine ⟨p, n, c, ys, rfl, hle, hc, ?_, by simp [ys]⟩
  intro j v hj
  have hjn : j < n := by have := (List.getElem?_eq_some_iff.1 hj).1; simpa [ys] using this
  have hv : v = .int .i64 (Classical.choose (key j)) := by
    simp [ints, ys, List.getElem?_range hjn] at hj
    exact hj.symm
  rw [hv]
  exact Classical.choose_spec (key j) hjn
end
end Sc
end Go.Proofs.YtjcgociobhhijaaDoor
