/- Windows: whether rows fit, whether a window is right, a new one, a batch's units, a unit that comes. -/
import Derived.Test.YtjcgociobhhijaaCF
import Derived.Test.YtjcgociobhhijaaSW
import Derived.Test.YtjcgociobhhijaaWA
set_option linter.unusedVariables false
set_option linter.unusedSimpArgs false
set_option maxRecDepth 100000
namespace Go.Proofs.Ytjcgociobhhijaa
open Go Go.Proofs.Ytjcgociobhhijaa.SX Va Cd Sc
namespace Wn
theorem sunits : SliceT prog T.s_window_unit T.window_unit 1 24 [.slice none 0 0] := SliceT.of_tab (ti := ti85) (te := ti101) tabOK (by kernel_rfl) (by kernel_rfl) (by kernel_rfl) (by kernel_rfl)
theorem srows : SliceT prog T.window_unit T.s_api_Value 1 24 [.slice none 0 0] := SliceT.of_tab (ti := ti101) (te := ti79) tabOK (by kernel_rfl) (by kernel_rfl) (by kernel_rfl) (by kernel_rfl)
theorem srows2 : SliceT prog T.s_s_api_Value T.s_api_Value 1 24 [.slice none 0 0] := SliceT.of_tab (ti := ti56) (te := ti79) tabOK (by kernel_rfl) (by kernel_rfl) (by kernel_rfl) (by kernel_rfl)
theorem sall : SliceT prog T.s_s_s_api_Value T.s_s_api_Value 1 24 [.slice none 0 0] := SliceT.of_tab (ti := ti53) (te := ti56) tabOK (by kernel_rfl) (by kernel_rfl) (by kernel_rfl) (by kernel_rfl)
abbrev UT : List Nat := [T.window_unit, T.s_api_Value, T.api_Value]
/-- Do rows fit columns? -/
def FitR (cols : List Col) (rows : List Row) : Prop := (∀ r ∈ rows, FitsP cols r) ∧ rows.length ≤ 32
/-- Is a window right? -/
def WRight (name on owner : ByteArray) (size slide : Int) : Prop := NameP name ∧ NameP on ∧ NameP owner ∧ (1 ≤ size ∧ size ≤ 100) ∧ 1 ≤ slide ∧ slide ≤ size

section
variable {w : World} {K : Value → World → Prop} {p q : Option Addr} {n c m d : Nat}
/-- One cell more. -/
theorem app_cell {t e by_ : Nat} {z xs : List Value} {x : Value} (hT : SliceT prog t e 1 by_ z) (hby : 0 < by_) (hx : x.oneCell' = true) (ho : Own w e 1 p n c xs) (hsz : (n + 1) * by_ ≤ 140737488355328)
    (hK : ∀ p' c' w', Own w' e 1 p' (n + 1) c' (xs ++ [x]) → Upd (Fp p c) w w' → (∀ k, Fp p' c' k → Fp p c k ∨ w.heap.size ≤ k) → K (.slice p' (n + 1) c') w') :
    ∀ g w1, New w (.cells #[x] e) g w1 → BuiltV prog .append #[t, t] t #[.slice p n c, .slice (some (Addr.mk g 0 none)) 1 1] w1 K := by
  refine New.use (by simpa using hx) fun g w1 hb hu hge _ => ?_
  refine append_own (m := 1) hT (.inl hT.desc) (ho.upd0 hu) (Src.slice (m := 1) (ys := [x]) (At.of_blk hb fun j v hj => by rw [Nat.zero_add]; exact hj) rfl (by simpa using hx)) (by decide) hby hsz fun p' c' w' ho' hu' hf' => ?_
  refine hK p' c' w' ho' (hu.trans hu' (fun _ _ h => h.elim) (fun _ _ h => h)) fun k hk => ?_
  rcases hf' k hk with h | h
  · exact .inl h
  · exact .inr (Nat.le_trans hu.size h)

theorem clone_row {r : List Val} (hat : At w p (vals r)) (hl : r.length = n) (hn : n ≤ 1000000) (hK : ∀ p' c' w', Own w' T.api_Value 3 p' n c' (vals r) → Upd Nothing w w' → (∀ k, Fp p' c' k → w.heap.size ≤ k) → K (.slice p' n c') w') :
    CallsV prog F.slices_Clone_api_Value_api_Value #[.slice p n c] w K :=
  R.slices_Clone_api_Value_api_Value (by
    unfold C.slices_Clone_api_Value_api_Value
    exact G.clone sval (by decide) (by decide) hat (by rw [vals_length, hl]) (vals_one r) (by omega) (fun hp => by
      rcases Nat.eq_zero_or_pos n with h | h
      · exact h
      · obtain ⟨a, h1, _⟩ := hat.val (show 0 < r.length by omega)
        rw [hp] at h1
        cases h1) hK)
theorem clone_units {xs : List Value} (hat : At w p xs) (hl : xs.length = n) (h1 : ∀ v ∈ xs, v.oneCell' = true) (hn : n ≤ 1000000) (hK : ∀ p' c' w', Own w' T.window_unit 1 p' n c' xs → Upd Nothing w w' → (∀ k, Fp p' c' k → w.heap.size ≤ k) → K (.slice p' n c') w') :
    CallsV prog F.slices_Clone_window_unit_window_unit #[.slice p n c] w K :=
  R.slices_Clone_window_unit_window_unit (by
    unfold C.slices_Clone_window_unit_window_unit
    exact G.clone sunits (by decide) (by decide) hat (by rw [hl, Nat.mul_one]) h1 (by omega) (fun hp => by
      rcases Nat.eq_zero_or_pos n with h | h
      · exact h
      · obtain ⟨a, h2, _⟩ := hat 0 _ (List.getElem?_eq_getElem (show 0 < xs.length by omega))
        rw [hp] at h2
        cases h2) hK)

theorem fitR_nil (cols : List Col) : FitR cols [] := ⟨by simp, by decide⟩

/-- Whether rows fit. -/
theorem sfits_spec {cols : List Col} {rows : List Row} (hc : Cols w p cols) (hcl : cols.length = n) (hr : Rws w q rows) (hrl : rows.length = m) (hm : m ≤ 1000000) (hrn : ∀ r ∈ rows, r.length ≤ 9223372036854775806)
    (hK : ∀ (b : Bool) w', (b = true ↔ FitR cols rows) → Upd Nothing w w' → K (.bool b) w') : CallsV prog F.stream_Fits #[.slice p n c, .slice q m d] w K :=
  R.stream_Fits (by
    unfold C.stream_Fits
    refine R.stream_columns_fits ?_
    unfold C.stream_columns_fits
    refine New.use (by simp [Value.oneCell']) fun g w1 hb1 hu1 hge1 hlt1 => ?_
    have hno : ∀ w', Upd Nothing w1 w' → ¬ FitR cols rows → (∃ r1 : Bool, Value.bool false = .bool r1 ∧ K (.bool r1) w') := fun w' hu hn => ⟨false, rfl, hK _ _ ⟨fun h => (by cases h), fun h => absurd h hn⟩ (hu1.then hu)⟩
    refine ⟨fun i w' => ∃ k : Nat, i = k ∧ k ≤ m ∧ Upd Nothing w1 w' ∧ ∀ r ∈ rows.take k, FitsP cols r, fun i _ => m - i.toNat, ⟨0, rfl, by omega, Upd.refl _ _, by simp⟩, ?_⟩
    rintro i w2 ⟨k, rfl, hk, hu2, hq⟩
    have hb2 := hu2.blk hb1 fun f => f
    refine ifB_mk (fun h => ?_) (fun h => ?_)
    · have hkm : k < m := by have := of_decide_eq_true h; omega
      have hkr : k < rows.length := by omega
      obtain ⟨a, q1, m1, d1, ha, hcl1, hat1, hl1, hd1⟩ := (hr.upd0 (hu1.then hu2)) k hkr
      have hmem := List.getElem_mem hkr
      have hrk := hrn _ hmem
      have hin : FitR cols rows → FitsP cols rows[k] := fun h' => h'.1 _ hmem
      refine ⟨a, ha, by omega, by omega, _, _, _, by simpa using hcl1, _, _, _, hb2.cell (i := 1) rfl, ifB_mk (fun h1 => hno _ hu2 fun h' => ?_) (fun h1 => ?_)⟩
      · have := (hin h').1
        simp at h1
        omega
      have hmn : m1 = n := by simp at h1; omega
      refine right_spec hat1 hl1 (by omega) fun w3 hu3 => ⟨_, rfl, ifB_mk (fun h2 => hno _ (hu2.then hu3) fun h' => ?_) (fun h2 => ?_)⟩
      · rw [(hin h').2.1] at h2
        cases h2
      have hall : rows[k].all Val.right = true := by simpa using h2
      refine ⟨fun i w' => ∃ j : Nat, i = j ∧ j ≤ m1 ∧ Upd Nothing w2 w' ∧ ∀ i (h : i < rows[k].length) (h' : i < cols.length), i < j → rows[k][i].k = cols[i].kind, fun i _ => m1 - i.toNat, ⟨0, rfl, by omega, hu3, fun i _ _ h => by omega⟩, ?_⟩
      rintro i w4 ⟨j, rfl, hj, hu4, hq4⟩
      refine ifB_mk (fun h4 => ?_) (fun h4 => ?_)
      · have hjm : j < m1 := by have := of_decide_eq_true h4; omega
        have hat4 := hat1.upd0 hu4
        obtain ⟨a2, ha2, hcl2⟩ := hat4.val (i := j) (by omega)
        refine ⟨a2, ha2, by omega, by omega, _, _, _, hcl2, New.use (by simp [Value.oneCell']) fun g5 w5 hb5 hu5 hge5 _ => set_val rows[k][j] hb5 fun w6 hb6 hu6 => ⟨_, hb6.drew.cell (i := 0) rfl, ?_⟩⟩
        have hu46 : Upd Nothing w4 w6.drew := (hu5.fresh hu6 fun i hi => by rw [show i = g5 from hi]; exact hge5).then (Upd.drew _ _)
        have hu16 := hu2.then (hu4.then hu46)
        obtain ⟨a3, ha3, hcl3⟩ := (hc.upd0 (hu1.then hu16)) j (by omega)
        refine ⟨_, _, _, (hu16.blk hb1 fun f => f).cell (i := 1) rfl, a3, ha3, by omega, by omega, _, hcl3.2.1, ifB_mk (fun h5 => hno _ hu16 fun h' => ?_) (fun h5 => ?_)⟩
        · have := (hin h').2.2 j (by omega) (by omega)
          simp [this] at h5
        · have h6 : rows[k][j].k = cols[j].kind := by simpa using h5
          refine scan_next (Q := fun j => ∀ i (h : i < rows[k].length) (h' : i < cols.length), i < j → rows[k][i].k = cols[i].kind) hjm (by omega) (hu4.then hu46) fun i h h' hij => ?_
          by_cases h7 : i < j
          · exact hq4 i h h' h7
          · have : i = j := by omega
            subst this
            exact h6
      · have hjm : j = m1 := by have := of_decide_eq_false h4; omega
        exact scan_next (Q := fun k => ∀ r ∈ rows.take k, FitsP cols r) hkm (by omega) (hu2.then hu4) (forall_take hkr hq ⟨by omega, hall, fun i h h' => hq4 i h h' (by omega)⟩)
    · have hkm : k = m := by have := of_decide_eq_false h; omega
      subst hkm
      rw [List.take_of_length_le (by omega)] at hq
      refine ⟨_, rfl, hK _ _ ?_ (hu1.then hu2)⟩
      rw [decide_eq_true_eq]
      exact ⟨fun h => ⟨hq, by omega⟩, fun h => by have := h.2; omega⟩)

/-- Whether rows fit, by the law. -/
theorem rfitR_spec {cols : List Col} {rows : List Row} (hc : Cols w p cols) (hcl : cols.length = n) (hcc : n ≤ c) (hr : Rws w q rows) (hrl : rows.length = m) (hm : m ≤ 1000000) (hrn : ∀ r ∈ rows, r.length ≤ 9223372036854775806)
    (hK : ∀ (b : Bool) w', (b = true ↔ FitR cols rows) → Upd Nothing w w' → K (.bool b) w') : CallsV prog F.affluxlaw19_fits #[.slice p n c, .slice q m d] w K :=
  R.affluxlaw19_fits (by
    unfold C.affluxlaw19_fits
    refine ⟨fun i w' => ∃ k : Nat, i = k ∧ k ≤ m ∧ Upd Nothing w w' ∧ ∀ r ∈ rows.take k, FitsP cols r, fun i _ => m - i.toNat, ⟨0, rfl, by omega, Upd.refl _ _, by simp⟩, ?_⟩
    rintro i w2 ⟨k, rfl, hk, hu2, hq⟩
    refine ifB_mk (fun h => ?_) (fun h => ?_)
    · have hkm : k < m := by have := of_decide_eq_true h; omega
      have hkr : k < rows.length := by omega
      obtain ⟨a, q1, m1, d1, ha, hcl1, hat1, hl1, hd1⟩ := (hr.upd0 hu2) k hkr
      have hmem := List.getElem_mem hkr
      have hrk := hrn _ hmem
      subst hcl
      refine ⟨a, ha, by omega, by omega, _, _, _, by simpa using hcl1, ?_⟩
      refine rfits3_spec (s := ⟨bs [], cols, [], 0, 0, 0⟩) ⟨p, c, none, 0, rfl, hc.upd0 hu2, hcc, fun i hi => by simp at hi, Nat.le_refl _⟩ hat1 hl1 (by omega) fun b w3 hb hu3 => ⟨b, rfl, ifB_mk (fun h1 => hK _ _ ⟨fun h => (by cases h), fun h' => ?_⟩ (hu2.then hu3)) (fun h1 => ?_)⟩
      · rw [hb.2 (h'.1 _ hmem)] at h1
        cases h1
      · exact scan_next (Q := fun k => ∀ r ∈ rows.take k, FitsP cols r) hkm (by omega) (hu2.then hu3) (forall_take hkr hq (hb.1 (by simpa using h1)))
    · have hkm : k = m := by have := of_decide_eq_false h; omega
      subst hkm
      rw [List.take_of_length_le (by omega)] at hq
      refine hK _ _ ?_ hu2
      rw [decide_eq_true_eq]
      exact ⟨fun h => ⟨hq, by omega⟩, fun h => by have := h.2; omega⟩)

theorem wright_spec {name on owner : ByteArray} {bt : Bool} {size slide : Int} (hK : ∀ (b : Bool) w', (b = true ↔ WRight name on owner size slide) → Upd Nothing w w' → K (.bool b) w') :
    CallsV prog F.window_Right #[.agg #[.string name, .string on, .string owner, .bool bt, .int .i64 size, .int .i64 slide]] w K :=
  R.window_Right (by
    unfold C.window_Right
    refine New.use (by simp [Value.oneCell']) fun g w1 hb1 hu1 hge1 _ => ⟨_, hb1.cell (i := 0) rfl, _, hb1.cell (i := 1) rfl, _, hb1.cell (i := 2) rfl, New.use (by simp [Value.oneCell']) fun g2 w2 hb2 hu2 hge2 _ => ?_⟩
    have hat : At w2 (some (Addr.mk g2 0 none)) ([name, on, owner].map Value.string) := At.of_blk hb2 fun j v hj => by rw [Nat.zero_add]; exact hj
    refine Named_spec (l := [name, on, owner]) hat rfl (by omega) fun b w3 hb hu3 => ⟨b, rfl, ?_⟩
    have hu13 := hu2.then hu3
    have hb3 := hu13.blk hb1 fun f => f
    have hu := hu1.then hu13
    have hno : ¬ WRight name on owner size slide → K (.bool false) w3 := fun hn => hK _ _ ⟨fun h => (by cases h), fun h => absurd h hn⟩ hu
    refine ifB_mk (fun h => ?_) (fun h => hno fun h' => ?_)
    · have hn := hb.1 h
      refine ⟨_, hb3.cell (i := 4) rfl, ifB_mk (fun h1 => ⟨_, hb3.cell (i := 4) rfl, ifB_mk (fun h2 => ⟨_, hb3.cell (i := 5) rfl, ifB_mk (fun h3 => ⟨_, hb3.cell (i := 5) rfl, _, hb3.cell (i := 4) rfl, hK _ _ ?_ hu⟩) (fun h3 => hno fun h' => ?_)⟩) (fun h2 => hno fun h' => ?_)⟩) (fun h1 => hno fun h' => ?_)⟩
      · rw [decide_eq_true_eq]
        exact ⟨fun h4 => ⟨hn _ (by simp), hn _ (by simp), hn _ (by simp), ⟨of_decide_eq_true h1, of_decide_eq_true h2⟩, of_decide_eq_true h3, h4⟩, fun h' => h'.2.2.2.2.2⟩
      · exact of_decide_eq_false h3 h'.2.2.2.2.1
      · exact of_decide_eq_false h2 h'.2.2.2.1.2
      · exact of_decide_eq_false h1 h'.2.2.2.1.1
    · rw [hb.2 fun s hs => ?_] at h
      · cases h
      · simp only [List.mem_cons, List.mem_nil_iff, or_false] at hs
        rcases hs with rfl | rfl | rfl
        · exact h'.1
        · exact h'.2.1
        · exact h'.2.2.1)

theorem rwright_spec {name on owner : ByteArray} {bt : Bool} {size slide : Int} (hK : ∀ (b : Bool) w', (b = true ↔ WRight name on owner size slide) → Upd Nothing w w' → K (.bool b) w') :
    CallsV prog F.affluxlaw19_right #[.agg #[.string name, .string on, .string owner, .bool bt, .int .i64 size, .int .i64 slide]] w K :=
  R.affluxlaw19_right (by
    unfold C.affluxlaw19_right
    refine New.use (by simp [Value.oneCell']) fun g w1 hb1 hu hge1 _ => ?_
    have hno : ¬ WRight name on owner size slide → K (.bool false) w1 := fun hn => hK _ _ ⟨fun h => (by cases h), fun h => absurd h hn⟩ hu
    refine ⟨_, hb1.cell (i := 0) rfl, rnamed_spec fun b1 e1 => ⟨b1, rfl, ifB_mk (fun t1 => ⟨_, hb1.cell (i := 1) rfl, rnamed_spec fun b2 e2 => ⟨b2, rfl, ifB_mk (fun t2 => ⟨_, hb1.cell (i := 2) rfl, rnamed_spec fun b3 e3 => ⟨b3, rfl, ifB_mk (fun t3 => ?_) (fun t3 => hno fun h' => ?_)⟩⟩) (fun t2 => hno fun h' => ?_)⟩⟩) (fun t1 => hno fun h' => ?_)⟩⟩
    · refine ⟨_, hb1.cell (i := 4) rfl, ifB_mk (fun h1 => ⟨_, hb1.cell (i := 4) rfl, ifB_mk (fun h2 => ⟨_, hb1.cell (i := 5) rfl, ifB_mk (fun h3 => ⟨_, hb1.cell (i := 5) rfl, _, hb1.cell (i := 4) rfl, hK _ _ ?_ hu⟩) (fun h3 => hno fun h' => ?_)⟩) (fun h2 => hno fun h' => ?_)⟩) (fun h1 => hno fun h' => ?_)⟩
      · rw [decide_eq_true_eq]
        exact ⟨fun h4 => ⟨e1.1 t1, e2.1 t2, e3.1 t3, ⟨of_decide_eq_true h1, of_decide_eq_true h2⟩, of_decide_eq_true h3, h4⟩, fun h' => h'.2.2.2.2.2⟩
      · exact of_decide_eq_false h3 h'.2.2.2.2.1
      · exact of_decide_eq_false h2 h'.2.2.2.1.2
      · exact of_decide_eq_false h1 h'.2.2.2.1.1
    · rw [e3.2 h'.2.2.1] at t3; cases t3
    · rw [e2.2 h'.2.1] at t2; cases t2
    · rw [e1.2 h'.1] at t1; cases t1)

/-- A window in memory. -/
def WinAt (w : World) (g : Nat) (x : Win) : Prop := ∃ (sp : Option Addr) (sc : Nat) (tp : Option Addr) (tc : Nat) (cp : Option Addr) (cc : Nat),
  Blk w g [.string x.name, .string x.on, .string x.owner, .bool x.batches, .int .i64 (x.size : Int), .int .i64 (x.slide : Int), .slice sp x.seen.length sc, .slice tp x.staged.length tc, .slice cp x.cols.length cc] T.window_Window ∧
  UnitsS (TyS UT) w sp x.seen.length x.seen ∧ x.seen.length ≤ sc ∧ UnitsS (TyS UT) w tp x.staged.length x.staged ∧ x.staged.length ≤ tc ∧ Own w T.api_Column 2 cp x.cols.length cc (colsV x.cols)
theorem WinAt.upd0 {w w' : World} {g : Nat} {x : Win} (h : WinAt w g x) (hu : Upd Nothing w w') : WinAt w' g x := by
  obtain ⟨sp, sc, tp, tc, cp, cc, hb, h1, h2, h3, h4, h5⟩ := h
  exact ⟨sp, sc, tp, tc, cp, cc, hu.blk hb fun f => f, units_keep h1 (keeps_nothing hu), h2, units_keep h3 (keeps_nothing hu), h4, h5.upd0 hu⟩
theorem units_nil {S : World → Nat → Prop} (p : Option Addr) : UnitsS S w p 0 [] := ⟨[], At.nil _ _, fun h => absurd rfl h, SlE.nil, rfl⟩

theorem new_spec {name on owner : ByteArray} {bt : Bool} {size slide : Int} {cols : List Col} (hc : Cols w p cols) (hcl : cols.length = n) (hn : n ≤ 1000000)
    (hK1 : ∀ w', ¬ WRight name on owner size slide → Upd Nothing w w' → K (.tuple #[.pointer none, .int .i64 1]) w')
    (hK2 : ∀ g w', WRight name on owner size slide → WinAt w' g ⟨name, on, owner, bt, size.toNat, slide.toNat, [], [], cols⟩ → Upd Nothing w w' → w.heap.size ≤ g → K (.tuple #[.pointer (some ⟨g, 0, none⟩), .int .i64 0]) w') :
    CallsV prog F.window_New #[.agg #[.string name, .string on, .string owner, .bool bt, .int .i64 size, .int .i64 slide], .slice p n c] w K :=
  R.window_New (by
    unfold C.window_New
    refine New.use (by simp [Value.oneCell']) fun g w1 hb1 hu1 hge1 _ => ?_
    have hS := fun w' (hu : Upd Nothing w1 w') => six_cells (hu.blk hb1 fun f => f)
    refine ⟨_, _, _, _, _, _, hS w1 (Upd.refl _ _), wright_spec fun b w2 hb hu2 => ⟨b, rfl, ifB_mk (fun h => hK1 _ (fun h' => ?_) (hu1.then hu2)) (fun h => ?_)⟩⟩
    · rw [hb.2 h'] at h; cases h
    have hr := hb.1 (by simpa using h)
    have hud := hu2.then (Upd.drew _ _)
    refine ⟨_, _, _, _, _, _, hS _ hud, clone_cols (hc.upd0 (hu1.then hud)) hcl hn fun p' c' w3 ho3 hu3 hf3 => ⟨_, _, _, rfl, hS _ (hud.then hu3), New.use (by simp [Value.oneCell']) fun g4 w4 hb4 hu4 hge4 _ => ?_⟩⟩
    have hu := (hu1.then hud).then (hu3.then hu4)
    have hsz := (hu1.then (hud.then hu3)).size
    obtain ⟨h1, h2, h3, ⟨h4, h5⟩, h6, h7⟩ := hr
    refine hK2 g4 w4 ⟨h1, h2, h3, ⟨h4, h5⟩, h6, h7⟩ ⟨none, 0, none, 0, p', c', ?_, units_nil _, Nat.le_refl _, units_nil _, Nat.le_refl _, ?_⟩ hu (by omega)
    · show Blk w4 g4 [_, _, _, _, .int .i64 ((size.toNat : Nat) : Int), .int .i64 ((slide.toNat : Nat) : Int), _, _, .slice p' cols.length c'] _
      rw [show ((size.toNat : Nat) : Int) = size by omega, show ((slide.toNat : Nat) : Int) = slide by omega, hcl]
      exact hb4
    · show Own w4 _ _ _ cols.length _ _
      rw [hcl]
      exact ho3.upd0 hu4)
end
end Wn
end Go.Proofs.Ytjcgociobhhijaa
