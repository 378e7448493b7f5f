/- The keys of rows by schemas, and the document's example. -/
import Derived.Test.YtjcgociobhhijaaDoorSE
set_option linter.unusedVariables false
set_option linter.unusedSimpArgs false
set_option maxRecDepth 100000
namespace Go.Proofs.YtjcgociobhhijaaDoor
open Go Go.Proofs.YtjcgociobhhijaaDoor.SX Va
namespace Sc
section
variable {w : World} {K : Value → World → Prop} {p q : Option Addr} {n c m d : Nat} {s : Schm} {v : Value} {row : List Val} {index : Int}

theorem six_cells {g e : Nat} {a0 a1 a2 a3 a4 a5 : Value} (hb : Blk w g [a0, a1, a2, a3, a4, a5] e) : SX.cellsAt w (Addr.mk g 0 none) 0 [a0, a1, a2, a3, a4, a5] :=
  ⟨hb.cell (i := 0) rfl, hb.cell (i := 1) rfl, hb.cell (i := 2) rfl, hb.cell (i := 3) rfl, hb.cell (i := 4) rfl, hb.cell (i := 5) rfl, trivial⟩

def InP (s : Schm) (index : Int) : Prop := 0 ≤ index ∧ index ≤ (s.ixs.length : Int) - 1

theorem checked_spec (hs : SchAt w s v) (hr : At w q (vals row)) (hrl : row.length = m) (hm : m ≤ 9223372036854775806)
    (hK : ∀ (e : Int) w', (¬ (s.Right ∧ InP s index) → e = 1) → (s.Right → InP s index → ¬ FitsP s.cols row → e = 13) → (s.Right → InP s index → FitsP s.cols row → e = 0) → Upd Nothing w w' → K (.int .i64 e) w') :
    CallsV prog F.schema_checked #[v, .int .i64 index, .slice q m d] w K := by
  have hs0 := hs
  obtain ⟨⟨cp, cc, ip, ic, rfl, hcols, hcc, hixs, hic⟩, hs1, hs2, hs3⟩ := hs
  refine R.schema_checked ?_
  unfold C.schema_checked
  refine New.use (by simp [Value.oneCell']) fun g w1 hb1 hu1 hge1 _ => ⟨_, _, _, _, _, _, _, _, _, _, six_cells hb1, ?_⟩
  refine schema_right (s := s) (hs0.upd0 hu1) fun b w2 hb hu2 => ⟨b, rfl, ifB_mk (fun h => ?_) (fun h => ?_)⟩
  · have hn : ¬ s.Right := fun h' => by rw [hb.2 h'] at h; cases h
    exact hK 1 _ (fun _ => rfl) (fun h' => absurd h' hn) (fun h' => absurd h' hn) (hu1.then hu2)
  have hright := hb.1 (by simpa using h)
  have hb2 := hu2.blk hb1 fun f => f
  have hu2' := hu1.then hu2
  refine ⟨_, _, _, hb2.cell (i := 2) rfl, ?_⟩
  rw [i64_wrap (by omega) (by omega)]
  refine within_spec fun b2 e2 => ⟨b2, rfl, ifB_mk (fun h2 => ?_) (fun h2 => ?_)⟩
  · have hn : ¬ InP s index := fun h' => by rw [e2.2 h'] at h2; cases h2
    exact hK 1 _ (fun _ => rfl) (fun _ h' => absurd h' hn) (fun _ h' => absurd h' hn) hu2'
  have hin : InP s index := e2.1 (by simpa using h2)
  refine ⟨_, _, _, hb2.cell (i := 1) rfl, fits_spec (hcols.upd0 hu2') rfl (hr.upd0 hu2') hrl hm fun b3 w3 e3 hu3 => ⟨b3, rfl, ifB_mk (fun h3 => ?_) (fun h3 => ?_)⟩⟩
  · have hn : ¬ FitsP s.cols row := fun h' => by rw [e3.2 h'] at h3; cases h3
    exact hK 13 _ (fun h' => absurd ⟨hright, hin⟩ h') (fun _ _ _ => rfl) (fun _ _ h' => absurd h' hn) (hu2'.then hu3)
  · have hf := e3.1 (by simpa using h3)
    exact hK 0 _ (fun h' => absurd ⟨hright, hin⟩ h') (fun _ _ h' => absurd hf h') (fun _ _ _ => rfl) (hu2'.then hu3)

/-- The key by an index that there is. -/
def skey (s : Schm) (i : Nat) (hi : i < s.ixs.length) (row : List Val) : List UInt8 :=
  (keyText (pk row s.ixs[i].cols)).data.toList ++ if s.ixs[i].unique = true then [] else (keyText (pk row (s.ixs[0]'(by omega)).cols)).data.toList

theorem keyText_size {xs : List Val} (h : xs.length ≤ 1000) : (keyText xs).size ≤ 409000 := by
  unfold keyText
  rw [tx_size]
  split
  · rename_i hall
    have hl := vkeys_length (B := 200) xs fun x hx => right_size (List.all_eq_true.1 hall x hx)
    have := Nat.mul_le_mul_right 409 h
    omega
  · simp

theorem key_of {i : Nat} (hi : i < s.ixs.length) (hM : MX w) (hs : SchAt w s v) (hsm : ∀ x ∈ s.ixs, x.cols.length ≤ 1000) (hr : At w q (vals row)) (hrl : row.length = m) (hm : m ≤ 9223372036854775806)
    (hK : ∀ w', Upd Nothing w w' → K (.string (tx (skey s i hi row))) w') : CallsV prog F.schema_key #[v, .int .i64 (i : Nat), .slice q m d] w K := by
  obtain ⟨⟨cp, cc, ip, ic, rfl, hcols, hcc, hixs, hic⟩, hs1, hs2, hs3⟩ := hs
  refine R.schema_key ?_
  unfold C.schema_key
  refine New.use (by simp [Value.oneCell']) fun g w1 hb1 hu1 hge1 _ => ⟨_, _, _, hb1.cell (i := 2) rfl, ?_⟩
  obtain ⟨a, q1, n1, c1, ha, hcl, hat1, hl1, hc1⟩ := (hixs.upd0 hu1) i hi
  refine ⟨a, ha, by omega, by omega, _, _, _, _, hcl, New.use (by simp [Value.oneCell']) fun g2 w2 hb2 hu2 hge2 _ => ?_⟩
  refine set_two rfl rfl hb2 fun w3 hb3 hu3 => ⟨_, _, _, hb3.cell (i := 0) rfl, ?_⟩
  have hg2 : ∀ i, SX.One g2 i → w1.heap.size ≤ i := fun i hi => by rw [show i = g2 from hi]; exact hge2
  have hu13 : Upd Nothing w1 w3 := hu2.fresh hu3 hg2
  have hu3' := hu1.then hu13
  have hsi := hsm _ (List.getElem_mem hi)
  refine pick_spec (hr.upd0 hu3') hrl hm (hat1.upd0 hu13) hl1 (by omega) fun p4 n4 c4 w4 hat4 hl4 hu4 => ⟨_, _, _, rfl, ?_⟩
  have hpl := pk_length row s.ixs[i].cols
  have hu4' := hu3'.then hu4
  refine key_spec (hM.upd0 hu4') hat4 hl4 (by omega) fun w5 hu5 => ⟨_, rfl, ?_⟩
  have hu35 := hu4.then hu5
  have hu5' := hu4'.then hu5
  have hfin := hK
  unfold skey at hfin
  refine ⟨_, (hu35.blk hb3 fun f => f).cell (i := 1) rfl, ifB_mk (fun h => ?_) (fun h => ?_)⟩
  · have hun : s.ixs[i].unique = false := by simpa using h
    refine ⟨_, _, _, ((hu13.then hu35).blk hb1 fun f => f).cell (i := 2) rfl, ?_⟩
    obtain ⟨a0, q0, n0, c0, ha0, hcl0, hat0, hl0, hc0⟩ := (hixs.upd0 hu5') 0 (by omega)
    have hs0 := hsm _ (List.getElem_mem (l := s.ixs) (n := 0) (by omega))
    refine ⟨a0, ha0, by omega, by omega, _, _, _, hcl0.1, ?_⟩
    refine pick_spec (hr.upd0 hu5') hrl hm hat0 hl0 (by omega) fun p6 n6 c6 w6 hat6 hl6 hu6 => ⟨_, _, _, rfl, ?_⟩
    have hpl0 := pk_length row (s.ixs[0]'(by omega)).cols
    have hu6' := hu5'.then hu6
    refine key_spec (hM.upd0 hu6') hat6 hl6 (by omega) fun w7 hu7 => ⟨_, rfl, ?_, ?_⟩
    · have h1 := keyText_size (xs := pk row s.ixs[i].cols) (by omega)
      have h2 := keyText_size (xs := pk row (s.ixs[0]'(by omega)).cols) (by omega)
      omega
    · have := hfin w7 (hu6'.then hu7)
      rw [if_neg (by rw [hun]; decide), ← tx_app, tx_self, tx_self] at this
      exact this
  · have hun : s.ixs[i].unique = true := by simpa using h
    have := hfin w5 hu5'
    rw [if_pos hun, List.append_nil, tx_self] at this
    exact this

/-- A row's key, or why there is none. -/
theorem schema_key_spec (hM : MX w) (hs : SchAt w s v) (hsm : ∀ x ∈ s.ixs, x.cols.length ≤ 1000) (hr : At w q (vals row)) (hrl : row.length = m) (hm : m ≤ 9223372036854775806)
    (hK1 : ∀ (e : Int) w', (¬ (s.Right ∧ InP s index) → e = 1) → (s.Right → InP s index → ¬ FitsP s.cols row → e = 13) → e ≠ 0 → ¬ (s.Right ∧ InP s index ∧ FitsP s.cols row) → Upd Nothing w w' → K (.tuple #[.string (bs []), .int .i64 e]) w')
    (hK2 : ∀ (i : Nat) (hi : i < s.ixs.length) w', index = i → s.Right → FitsP s.cols row → Upd Nothing w w' → K (.tuple #[.string (tx (skey s i hi row)), .int .i64 0]) w') :
    CallsV prog F.schema_Key #[v, .int .i64 index, .slice q m d] w K := by
  have hs0 := hs
  obtain ⟨⟨cp, cc, ip, ic, rfl, hcols, hcc, hixs, hic⟩, hs1, hs2, hs3⟩ := hs
  refine R.schema_Key ?_
  unfold C.schema_Key
  refine New.use (by simp [Value.oneCell']) fun g w1 hb1 hu1 hge1 _ => ⟨_, _, _, _, _, _, _, _, _, _, six_cells hb1, ?_⟩
  refine checked_spec (s := s) (hs0.upd0 hu1) (hr.upd0 hu1) hrl hm fun e w2 e1 e2 e3 hu2 => ⟨e, rfl, ifB_mk (fun h => ?_) (fun h => ?_)⟩
  · have h0 : e ≠ 0 := by simpa using h
    exact hK1 e _ e1 e2 h0 (fun h' => h0 (e3 h'.1 h'.2.1 h'.2.2)) (hu1.then hu2)
  · have h0 : e = 0 := by simpa using h
    have hri : s.Right ∧ InP s index := Classical.byContradiction fun h' => by have := e1 h'; omega
    have hf : FitsP s.cols row := Classical.byContradiction fun h' => by have := e2 hri.1 hri.2 h'; omega
    obtain ⟨h1, h2⟩ := hri.2
    obtain ⟨i, rfl⟩ : ∃ i : Nat, index = i := ⟨index.toNat, by omega⟩
    have hi : i < s.ixs.length := by omega
    have hu2' := hu1.then hu2
    refine ⟨_, _, _, _, _, _, _, _, _, _, six_cells (hu2.blk hb1 fun f => f), ?_⟩
    exact key_of hi (hM.upd0 hu2') (hs0.upd0 hu2') hsm (hr.upd0 hu2') hrl hm fun w3 hu3 => ⟨_, rfl, hK2 i hi w3 rfl hri.1 hf (hu2'.then hu3)⟩
end
end Sc
end Go.Proofs.YtjcgociobhhijaaDoor
