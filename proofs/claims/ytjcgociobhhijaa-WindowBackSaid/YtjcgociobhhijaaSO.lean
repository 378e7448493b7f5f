/- Schemas: whether two are the same, whether a row fits, a row of nothing, a column's place. -/
import Derived.Test.YtjcgociobhhijaaSQ
set_option linter.unusedVariables false
set_option linter.unusedSimpArgs false
set_option maxRecDepth 100000
namespace Go.Proofs.Ytjcgociobhhijaa
open Go Go.Proofs.Ytjcgociobhhijaa.SX Va
namespace Sc
theorem col_ext {a b : Col} (h1 : a.name = b.name) (h2 : a.kind = b.kind) : a = b := by cases a; cases b; simp_all
theorem ix_ext {a b : Ix} (h1 : a.cols = b.cols) (h2 : a.unique = b.unique) : a = b := by cases a; cases b; simp_all
theorem schm_ext {a b : Schm} (h1 : a.name = b.name) (h2 : a.cols = b.cols) (h3 : a.ixs = b.ixs) (h4 : a.limit = b.limit) (h5 : a.parts = b.parts) (h6 : a.by_ = b.by_) : a = b := by cases a; cases b; simp_all

/-- A schema in memory, whose indexes are told if H is so. -/
def SchIf (H : Prop) (w : World) (s : Schm) (v : Value) : Prop := ∃ (cp : Option Addr) (cc : Nat) (ip : Option Addr) (ic : Nat), v = .agg #[.string s.name, .slice cp s.cols.length cc, .slice ip s.ixs.length ic, .int .i64 s.limit, .int .i64 s.parts, .int .i64 s.by_] ∧ Cols w cp s.cols ∧ s.cols.length ≤ cc ∧ (H → Ixs w ip s.ixs) ∧ s.ixs.length ≤ ic
theorem SchEx.if {H : Prop} {w : World} {s : Schm} {v : Value} (h : SchEx w s v) : SchIf H w s v := by
  obtain ⟨cp, cc, ip, ic, hv, h1, h2, h3, h4⟩ := h
  exact ⟨cp, cc, ip, ic, hv, h1, h2, fun _ => h3, h4⟩
section
variable {w : World} {K : Value → World → Prop} {p q : Option Addr} {n c m d : Nat} {s t : Schm} {v u : Value} {row : List Val}

/-- Whether a row fits, by the document. -/
theorem rfits3_spec (hs : SchEx w s v) (hr : At w q (vals row)) (hrl : row.length = m) (hm : m ≤ 9223372036854775806) (hK : ∀ (b : Bool) w', (b = true ↔ FitsP s.cols row) → Upd Nothing w w' → K (.bool b) w') :
    CallsV prog F.affluxref03_Fits #[v, .slice q m d] w K := by
  obtain ⟨cp, cc, ip, ic, rfl, hcols, hcc, hixs, hic⟩ := hs
  refine R.affluxref03_Fits ?_
  unfold C.affluxref03_Fits
  refine New.use (by simp [Value.oneCell']) fun g1 w1 hb1 hu1 hge1 _ => ⟨_, _, _, hb1.cell (i := 1) rfl, ifB_mk (fun h => hK _ _ ⟨fun h => (by cases h), fun h' => ?_⟩ hu1) (fun h => ?_)⟩
  · have := h'.1; simp at h; omega
  have hnm : m = s.cols.length := by simp at h; omega
  refine all_spec (hr.upd0 hu1) hrl hm fun w2 hu2 => ⟨_, rfl, ifB_mk (fun h1 => hK _ _ ⟨fun h => (by cases h), fun h' => ?_⟩ (hu1.then hu2)) (fun h1 => ?_)⟩
  · rw [h'.2.1] at h1
    cases h1
  have hall : row.all Val.right = true := by simpa using h1
  refine ⟨fun i w' => ∃ k : Nat, i = k ∧ k ≤ m ∧ Upd Nothing w1 w' ∧ ∀ i (h : i < row.length) (h' : i < s.cols.length), i < k → row[i].k = s.cols[i].kind, fun i _ => m - i.toNat, ⟨0, rfl, by omega, hu2, fun i _ _ h => by omega⟩, ?_⟩
  rintro i w3 ⟨k, rfl, hk, hu3, hq⟩
  refine ifB_mk (fun h4 => ?_) (fun h4 => ?_)
  · have hkn : k < m := by have := of_decide_eq_true h4; omega
    have hu3' := hu3.then (Upd.drew _ _)
    obtain ⟨a, ha, hcl⟩ := (hr.upd0 (hu1.then hu3')).val (i := k) (by omega)
    obtain ⟨a2, ha2, hcl2⟩ := (hcols.upd0 (hu1.then hu3')) k (by omega)
    refine ⟨a, ha, by omega, by omega, _, hcl.1, _, _, _, (hu3'.blk hb1 fun f => f).cell (i := 1) rfl, a2, ha2, by omega, by omega, _, hcl2.2.1, ifB_mk (fun h5 => ?_) (fun h5 => ?_)⟩
    · refine hK _ _ ⟨fun h => (by cases h), fun h' => ?_⟩ (hu1.then hu3')
      have := h'.2.2 k (by omega) (by omega)
      simp [this] at h5
    · have h6 : row[k].k = s.cols[k].kind := by simpa using h5
      refine scan_next (Q := fun k => ∀ i (h : i < row.length) (h' : i < s.cols.length), i < k → row[i].k = s.cols[i].kind) hkn hm hu3' fun i h h' hik => ?_
      by_cases h7 : i < k
      · exact hq i h h' h7
      · have : i = k := by omega
        subst this
        exact h6
  · have hkn : k = m := by have := of_decide_eq_false h4; omega
    exact hK _ _ ⟨fun _ => ⟨by omega, hall, fun i h h' => hq i h h' (by omega)⟩, fun _ => rfl⟩ (hu1.then hu3)

/-- Nothing, of a column. -/
def zeroV (c : Col) : Val := ⟨if 1 ≤ c.kind ∧ c.kind ≤ 3 then c.kind else 0, 0, bs []⟩
theorem zero_fits (hs : s.Right) : FitsP s.cols (s.cols.map zeroV) := by
  have hk := hs.2.1.1
  refine ⟨by simp, ?_, fun i h h' => ?_⟩
  · rw [List.all_eq_true]
    intro x hx
    obtain ⟨c, hc, rfl⟩ := List.mem_map.1 hx
    obtain ⟨_, h1, h2⟩ := hk c hc
    unfold zeroV Val.right
    rw [if_pos ⟨h1, h2⟩]
    have h3 : c.kind = 1 ∨ c.kind = 2 ∨ c.kind = 3 := by omega
    rcases h3 with h3 | h3 | h3 <;> rw [h3] <;> decide +kernel
  · have hc := hk _ (List.getElem_mem h')
    simp only [List.getElem_map]
    show (if _ then _ else _) = _
    rw [if_pos hc.2]

/-- The place of the first column of a name; -1: there is none. -/
def FirstAt (l : List Col) (name : ByteArray) (r : Int) : Prop := (r = -1 ∧ ∀ j (hj : j < l.length), l[j].name ≠ name) ∨ ∃ k : Nat, r = k ∧ ∃ h : k < l.length, l[k].name = name ∧ ∀ j (hj : j < k), (l[j]'(Nat.lt_trans hj h)).name ≠ name
theorem FirstAt.unique {l : List Col} {name : ByteArray} {a b : Int} (ha : FirstAt l name a) (hb : FirstAt l name b) : a = b := by
  rcases ha with ⟨rfl, h1⟩ | ⟨k, rfl, hk, h1, h2⟩ <;> rcases hb with ⟨rfl, h3⟩ | ⟨j, rfl, hj, h3, h4⟩
  · rfl
  · exact absurd h3 (h1 j hj)
  · exact absurd h1 (h3 k hk)
  · rcases Nat.lt_trichotomy k j with h | h | h
    · exact absurd h1 (h4 k h)
    · rw [h]
    · exact absurd h3 (h2 j h)

end
end Sc
end Go.Proofs.Ytjcgociobhhijaa
