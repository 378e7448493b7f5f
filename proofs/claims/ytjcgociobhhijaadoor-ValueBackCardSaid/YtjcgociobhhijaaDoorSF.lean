/- The functions of package schema on rows: keys by all indexes, the partition; the document's keys. -/
import Derived.Test.YtjcgociobhhijaaDoorSO
import Derived.Test.YtjcgociobhhijaaDoorCS
set_option linter.unusedVariables false
set_option linter.unusedSimpArgs false
set_option maxRecDepth 100000
namespace Go.Proofs.YtjcgociobhhijaaDoor
open Go Go.Proofs.YtjcgociobhhijaaDoor.SX Va Ca
namespace Sc
theorem sstr : SliceT prog T.s_string T.string 1 16 [.string ByteArray.empty] := SliceT.of_tab (ti := ti75) (te := ti9) tabOK (by kernel_rfl) (by kernel_rfl) (by kernel_rfl) (by kernel_rfl)
def strs (l : List ByteArray) : List Value := l.map Value.string
@[simp] theorem strs_length (l : List ByteArray) : (strs l).length = l.length := by simp [strs]
theorem strs_get {l : List ByteArray} {i : Nat} (h : i < l.length) : (strs l)[i]? = some (.string l[i]) := by simp [strs, h]
theorem strs_append (a b : List ByteArray) : strs (a ++ b) = strs a ++ strs b := by simp [strs]
theorem strs_one (l : List ByteArray) : ∀ v ∈ strs l, v.oneCell' = true := by intro v hv; simp only [strs, List.mem_map] at hv; obtain ⟨_, _, rfl⟩ := hv; rfl

/-- The keys of a row by the first k indexes. -/
def skeysN (s : Schm) (row : List Val) (k : Nat) : List ByteArray := (List.range k).map fun i => if h : i < s.ixs.length then tx (skey s i h row) else ⟨#[]⟩
def skeys (s : Schm) (row : List Val) : List ByteArray := skeysN s row s.ixs.length
@[simp] theorem skeysN_length (s : Schm) (row : List Val) (k : Nat) : (skeysN s row k).length = k := by simp [skeysN]
@[simp] theorem skeys_length (s : Schm) (row : List Val) : (skeys s row).length = s.ixs.length := by simp [skeys]
theorem skeysN_succ {s : Schm} {row : List Val} {k : Nat} (h : k < s.ixs.length) : skeysN s row (k + 1) = skeysN s row k ++ [tx (skey s k h row)] := by
  unfold skeysN
  rw [List.range_succ, List.map_append, List.map_cons, List.map_nil, dif_pos h]
theorem skeys_get {s : Schm} {row : List Val} {i : Nat} (h : i < s.ixs.length) (h' : i < (skeys s row).length) : (skeys s row)[i] = tx (skey s i h row) := by
  simp [skeys, skeysN, h]

theorem pick_in {s : Schm} {row : List Val} {i : Nat} (hi : i < s.ixs.length) (hr : s.Right) (hf : FitsP s.cols row) : pickB row s.ixs[i].cols = true := by
  unfold pickB
  rw [List.all_eq_true]
  intro c hc
  have h1 := (hr.2.2.1.1 _ (List.getElem_mem hi)).1 c hc
  have h2 := hf.1
  simp only [Bool.and_eq_true, decide_eq_true_eq]
  omega
theorem pick_right {row : List Val} {ps : List Int} (hall : row.all Val.right = true) (hin : pickB row ps = true) : (pk row ps).all Val.right = true := by
  unfold pk
  rw [if_pos hin, List.all_eq_true]
  intro x hx
  obtain ⟨c, hc, rfl⟩ := List.mem_map.1 hx
  have h1 := List.all_eq_true.1 hin c hc
  simp only [Bool.and_eq_true, decide_eq_true_eq] at h1
  unfold pickV
  rw [List.getElem?_eq_getElem (by omega)]
  exact List.all_eq_true.1 hall _ (List.getElem_mem _)
theorem keyText_right {xs : List Val} (h : xs.all Val.right = true) : keyText xs = tx (vkeys xs) := by unfold keyText; rw [if_pos h]

section
variable {w : World} {K : Value → World → Prop} {p q : Option Addr} {n c m d : Nat} {s t : Schm} {v u : Value} {row : List Val} {index : Int}

/-- One text more. -/
theorem app_str {x : ByteArray} {xs : List ByteArray} (ho : Own w T.string 1 p n c (strs xs)) (hsz : n + 1 ≤ 1099511627776)
    (hK : ∀ p' c' w', Own w' T.string 1 p' (n + 1) c' (strs (xs ++ [x])) → Upd (Fp p c) w w' → (∀ k, Fp p' c' k → Fp p c k ∨ w.heap.size ≤ k) → K (.slice p' (n + 1) c') w') :
    ∀ g w1, New w (.cells #[.string x] T.string) g w1 → BuiltV prog .append #[T.s_string, T.s_string] T.s_string #[.slice p n c, .slice (some (Addr.mk g 0 none)) 1 1] w1 K := by
  refine New.use (by simp [Value.oneCell']) fun g w1 hb hu hge _ => ?_
  refine append_own (m := 1) sstr (.inl sstr.desc) (ho.upd0 hu) (Src.slice (m := 1) (ys := [.string x]) (At.of_blk hb fun j v hj => by rw [Nat.zero_add]; exact hj) rfl (by simp [Value.oneCell'])) (by decide) (by decide) (by omega) fun p' c' w' ho' hu' hf' => ?_
  refine hK p' c' w' (by rw [strs_append]; exact ho') (hu.trans hu' (fun _ _ h => h.elim) (fun _ _ h => h)) fun k hk => ?_
  rcases hf' k hk with h | h
  · exact .inl h
  · exact .inr (Nat.le_trans hu.size h)

/-- The document's key. -/
theorem rkey3_spec {i : Nat} (hi : i < s.ixs.length) (hs : SchEx w s v) (hright : s.Right) (hf : FitsP s.cols row) (hsm : ∀ x ∈ s.ixs, x.cols.length ≤ 1000) (hr : At w q (vals row)) (hrl : row.length = m) (hm : m ≤ 9223372036854775806)
    (hK : ∀ w', Upd Nothing w w' → K (.string (tx (skey s i hi row))) w') : CallsV prog F.affluxref03_Key #[v, .int .i64 (i : Nat), .slice q m d] w K := by
  obtain ⟨cp, cc, ip, ic, rfl, hcols, hcc, hixs, hic⟩ := hs
  have hp0 : 0 < s.ixs.length := by omega
  have hall : ∀ j (hj : j < s.ixs.length), (pk row s.ixs[j].cols).all Val.right = true := fun j hj => pick_right hf.2.1 (pick_in hj hright hf)
  refine R.affluxref03_Key ?_
  unfold C.affluxref03_Key
  refine New.use (by simp [Value.oneCell']) fun g w1 hb1 hu1 hge1 _ => ?_
  obtain ⟨a, q1, n1, c1, ha, hcl, hat1, hl1, hc1⟩ := (hixs.upd0 hu1) i hi
  have hsi := hsm _ (List.getElem_mem hi)
  refine ⟨_, _, _, hb1.cell (i := 2) rfl, a, ha, by omega, by omega, _, _, _, hcl.1, rpick_spec (hr.upd0 hu1) hrl hm hat1 hl1 (by omega) (pick_in hi hright hf) fun p2 n2 c2 w2 hat2 hl2 hu2 => ⟨_, _, _, rfl, ?_⟩⟩
  have hpl := pk_length row s.ixs[i].cols
  refine rkeys_spec hat2 hl2 (by omega) (hall i hi) fun w3 hu3 => ⟨_, rfl, ?_⟩
  have hu13 := hu2.then hu3
  have hb3 := hu13.blk hb1 fun f => f
  have hfin := hK
  unfold skey at hfin
  rw [keyText_right (hall i hi), keyText_right (hall 0 hp0)] at hfin
  refine ⟨_, _, _, hb3.cell (i := 2) rfl, a, ha, by omega, by omega, _, hu13.cell hcl.2.1 fun f => f, ifB_mk (fun h => ?_) (fun h => ?_)⟩
  · have hun : s.ixs[i].unique = false := by simpa using h
    obtain ⟨a0, q0, n0, c0, ha0, hcl0, hat0, hl0, hc0⟩ := (hixs.upd0 (hu1.then hu13)) 0 hp0
    have hs0 := hsm _ (List.getElem_mem hp0)
    have hpl0 := pk_length row s.ixs[0].cols
    refine ⟨_, _, _, hb3.cell (i := 2) rfl, a0, ha0, by omega, by omega, _, _, _, hcl0.1, rpick_spec (hr.upd0 (hu1.then hu13)) hrl hm hat0 hl0 (by omega) (pick_in hp0 hright hf) fun p4 n4 c4 w4 hat4 hl4 hu4 => ⟨_, _, _, rfl, ?_⟩⟩
    refine rkeys_spec hat4 hl4 (by omega) (hall 0 hp0) fun w5 hu5 => ⟨_, rfl, ?_, ?_⟩
    · have h1 := keyText_size (xs := pk row s.ixs[i].cols) (by omega)
      have h2 := keyText_size (xs := pk row s.ixs[0].cols) (by omega)
      rw [keyText_right (hall i hi)] at h1
      rw [keyText_right (hall 0 hp0)] at h2
      omega
    · have := hfin w5 (((hu1.then hu13).then hu4).then hu5)
      rw [if_neg (by rw [hun]; decide), ← tx_app, tx_self, tx_self] at this
      exact this
  · have hun : s.ixs[i].unique = true := by simpa using h
    have := hfin w3 (hu1.then hu13)
    rw [if_pos hun, List.append_nil, tx_self] at this
    exact this

/-- A row's keys, or why there are none. -/
theorem keys_spec (hM : MX w) (hs : SchAt w s v) (hsm : ∀ x ∈ s.ixs, x.cols.length ≤ 1000) (hr : At w q (vals row)) (hrl : row.length = m) (hm : m ≤ 9223372036854775806)
    (hK1 : ∀ (e : Int) w', (¬ s.Right → e = 1) → (s.Right → ¬ FitsP s.cols row → e = 13) → e ≠ 0 → ¬ (s.Right ∧ FitsP s.cols row) → Upd Nothing w w' → K (.tuple #[.slice none 0 0, .int .i64 e]) w')
    (hK2 : ∀ p c w', s.Right → FitsP s.cols row → Own w' T.string 1 p s.ixs.length c (strs (skeys s row)) → Upd Nothing w w' → (∀ k, Fp p c k → w.heap.size ≤ k) → K (.tuple #[.slice p s.ixs.length c, .int .i64 0]) w') :
    CallsV prog F.schema_Keys #[v, .slice q m d] w K := by
  have hs0 := hs
  obtain ⟨⟨cp, cc, ip, ic, rfl, hcols, hcc, hixs, hic⟩, hs1, hs2, hs3⟩ := hs
  refine R.schema_Keys ?_
  unfold C.schema_Keys
  refine New.use (by simp [Value.oneCell']) fun g w1 hb1 hu1 hge1 _ => ⟨_, _, _, _, _, _, _, _, _, _, six_cells hb1, ?_⟩
  have hin0 : s.Right → InP s 0 := fun h => ⟨by omega, by have := h.2.2.1.2.1.1; omega⟩
  refine checked_spec (s := s) (hs0.upd0 hu1) (hr.upd0 hu1) hrl hm fun e w2 e1 e2 e3 hu2 => ⟨e, rfl, ifB_mk (fun h => ?_) (fun h => ?_)⟩
  · have h0 : e ≠ 0 := by simpa using h
    exact hK1 e w2 (fun h' => e1 fun h => h' h.1) (fun h' => e2 h' (hin0 h')) h0 (fun h' => h0 (e3 h'.1 (hin0 h'.1) h'.2)) (hu1.then hu2)
  have h0 : e = 0 := by simpa using h
  have hri : s.Right ∧ InP s 0 := Classical.byContradiction fun h' => by have := e1 h'; omega
  have hf : FitsP s.cols row := Classical.byContradiction fun h' => by have := e2 hri.1 hri.2 h'; omega
  have hix4 := hri.1.2.2.1.2.1.2
  have hu12 := hu1.then hu2
  have hb2 := hu2.blk hb1 fun f => f
  refine ⟨_, _, _, hb2.cell (i := 2) rfl, fun lp ln lc i w' => ∃ k : Nat, i = k ∧ k ≤ s.ixs.length ∧ ln = k ∧ Own w' T.string 1 lp ln lc (strs (skeysN s row k)) ∧ Upd Nothing w2 w' ∧ ∀ k, Fp lp lc k → w2.heap.size ≤ k, fun _ _ _ i _ => s.ixs.length - i.toNat, ⟨0, rfl, by omega, rfl, Own.nil _ _ _, Upd.refl _ _, fun k hk => by have := hk.1; omega⟩, ?_⟩
  rintro lp ln lc i w3 ⟨k, rfl, hk, rfl, ho, hu3, hfr⟩
  refine ifB_mk (fun h => ?_) (fun h => ?_)
  · have hkn : ln < s.ixs.length := by have := of_decide_eq_true h; omega
    have hu13 := hu12.then hu3
    refine ⟨_, _, _, _, _, _, _, _, _, _, six_cells (hu3.blk hb2 fun f => f), key_of hkn (hM.upd0 hu13) (hs0.upd0 hu13) hsm (hr.upd0 hu13) hrl hm fun w4 hu4 => ⟨_, rfl, app_str (ho.upd0 hu4) (by omega) fun p' c' w' ho' hu' hf' => ⟨_, _, _, rfl, ?_⟩⟩⟩
    rw [i64_wrap (by omega) (by omega)]
    refine ⟨⟨ln + 1, by omega, by omega, rfl, by rw [skeysN_succ hkn]; exact ho', (hu3.then hu4).fresh hu' fun i hi => hfr i hi, fun k hk => ?_⟩, by show s.ixs.length - _ < s.ixs.length - _; omega⟩
    rcases hf' k hk with h | h
    · exact hfr k h
    · exact Nat.le_trans (hu3.then hu4).size h
  · have hkn : ln = s.ixs.length := by have := of_decide_eq_false h; omega
    subst hkn
    exact hK2 lp lc w3 hri.1 hf ho (hu12.then hu3) fun k hk => Nat.le_trans hu12.size (hfr k hk)

/-- A row's partition, or why there is none. -/
theorem part3_spec (hs : SchAt w s v) (hr : At w q (vals row)) (hrl : row.length = m) (hm : m ≤ 9223372036854775806) (hrw : ∀ x ∈ row, Va.Val.wf x)
    (hK1 : ∀ (e : Int) w', (¬ s.Right → e = 1) → (s.Right → ¬ FitsP s.cols row → e = 13) → e ≠ 0 → ¬ (s.Right ∧ FitsP s.cols row) → Upd Nothing w w' → K (.tuple #[.int .i64 0, .int .i64 e]) w')
    (hK2 : ∀ w', s.Right → FitsP s.cols row → (h : s.by_.toNat < row.length) → Upd Nothing w w' → K (.tuple #[.int .i64 (spreadV (row[s.by_.toNat]'h) s.parts), .int .i64 0]) w') :
    CallsV prog F.schema_Part #[v, .slice q m d] w K := by
  have hs0 := hs
  obtain ⟨⟨cp, cc, ip, ic, rfl, hcols, hcc, hixs, hic⟩, hs1, hs2, hs3⟩ := hs
  refine R.schema_Part ?_
  unfold C.schema_Part
  refine New.use (by simp [Value.oneCell']) fun g w1 hb1 hu1 hge1 _ => ⟨_, _, _, _, _, _, _, _, _, _, six_cells hb1, ?_⟩
  have hin0 : s.Right → InP s 0 := fun h => ⟨by omega, by have := h.2.2.1.2.1.1; omega⟩
  refine checked_spec (s := s) (hs0.upd0 hu1) (hr.upd0 hu1) hrl hm fun e w2 e1 e2 e3 hu2 => ⟨e, rfl, ifB_mk (fun h => ?_) (fun h => ?_)⟩
  · have h0 : e ≠ 0 := by simpa using h
    exact hK1 e w2 (fun h' => e1 fun h => h' h.1) (fun h' => e2 h' (hin0 h')) h0 (fun h' => h0 (e3 h'.1 (hin0 h'.1) h'.2)) (hu1.then hu2)
  have h0 : e = 0 := by simpa using h
  have hri : s.Right ∧ InP s 0 := Classical.byContradiction fun h' => by have := e1 h'; omega
  have hf : FitsP s.cols row := Classical.byContradiction fun h' => by have := e2 hri.1 hri.2 h'; omega
  have hud := hu2.then (Upd.drew _ _)
  have hb2 := hud.blk hb1 fun f => f
  have hby := hri.1.2.2.2.2.2
  have hpa := hri.1.2.2.2.2.1
  have hlen := hf.1
  have hlt : s.by_.toNat < row.length := by omega
  obtain ⟨a, ha, hcl⟩ := (hr.upd0 (hu1.then hud)).val hlt
  refine ⟨_, hb2.cell (i := 5) rfl, a, ha, by omega, by omega, _, _, _, hcl, _, hb2.cell (i := 4) rfl, ?_⟩
  show CallsV prog F.value_Spread #[(row[s.by_.toNat]'hlt).val, .int .i64 s.parts] w2.drew _
  exact spread_spec (List.all_eq_true.1 hf.2.1 _ (List.getElem_mem hlt)) (hrw _ (List.getElem_mem hlt)) (by omega) fun w3 hu3 => ⟨_, rfl, hK2 w3 hri.1 hf hlt ((hu1.then hud).then hu3)⟩
end
end Sc
end Go.Proofs.YtjcgociobhhijaaDoor
