/- A copy of a schema, in memory of its own. -/
import Derived.Test.YtjcgociobhhijaaSO
set_option linter.unusedVariables false
set_option linter.unusedSimpArgs false
set_option maxRecDepth 100000
namespace Go.Proofs.Ytjcgociobhhijaa
open Go Go.Proofs.Ytjcgociobhhijaa.SX Va
namespace Sc
/-- Two slices of one's own of other elements lie apart. -/
theorem own_apart {w : World} {e s n c e' s' m d : Nat} {p q : Option Addr} {xs ys : List Value} (h : Own w e s p n c xs) (h' : Own w e' s' q m d ys) (he : e ≠ e') : ∀ k, Fp p c k → ¬ Fp q d k := by
  rintro k ⟨h0, a, ha, rfl⟩ ⟨h1, a', ha', hk⟩
  rcases h.mem with h2 | ⟨g, rest, hp, hb, _⟩
  · omega
  rcases h'.mem with h2 | ⟨g', rest', hq, hb', _⟩
  · omega
  rw [ha] at hp
  rw [ha'] at hq
  injection hp with hp
  injection hq with hq
  subst hp; subst hq
  exact hb.ne_type hb' he hk

theorem flat_length {α : Type} (f : α → List Value) (s : Nat) (hf : ∀ x, (f x).length = s) : ∀ l : List α, (l.flatMap f).length = l.length * s
  | [] => by simp
  | x :: l => by rw [List.flatMap_cons, List.length_append, hf, flat_length f s hf l, List.length_cons, Nat.add_mul]; omega
theorem flat_get {α : Type} (f : α → List Value) (s : Nat) (hf : ∀ x, (f x).length = s) : ∀ {l : List α} {i j : Nat} (h : i < l.length), j < s → (l.flatMap f)[i * s + j]? = (f l[i])[j]?
  | [], _, _, h, _ => by simp at h
  | x :: l, 0, j, _, hj => by
    rw [List.flatMap_cons, Nat.zero_mul, Nat.zero_add, List.getElem?_append_left (by rw [hf]; exact hj)]
    rfl
  | x :: l, i + 1, j, h, hj => by
    rw [List.flatMap_cons, List.getElem?_append_right (by rw [hf, Nat.add_mul]; omega)]
    have := flat_get f s hf (l := l) (i := i) (j := j) (by simpa using h) hj
    rw [show (i + 1) * s + j - (f x).length = i * s + j by rw [hf, Nat.add_mul]; omega, this]
    rfl
theorem At.two {w : World} {p : Option Addr} {xs : List Value} {i : Nat} {u v : Value} (h : At w p xs) (h0 : xs[i * 2]? = some u) (h1 : xs[i * 2 + 1]? = some v) : ∃ a, p = some a ∧ SX.cellsAt w (a.add (i * 2)) 0 [u, v] := by
  obtain ⟨a, hp, c0⟩ := h _ _ h0
  obtain ⟨a1, hp1, c1⟩ := h _ _ h1
  rw [hp] at hp1
  injection hp1 with hp1
  subst hp1
  exact ⟨a, hp, by rw [Addr.add_two]; exact c0, by rw [Addr.add_two]; exact c1, trivial⟩
theorem At.of_two {w : World} {p : Option Addr} {xs : List Value} {n : Nat} (hl : xs.length = n * 2) (h : ∀ i, i < n → ∃ a u v, p = some a ∧ SX.cellsAt w (a.add (i * 2)) 0 [u, v] ∧ xs[i * 2]? = some u ∧ xs[i * 2 + 1]? = some v) : At w p xs := by
  intro j v hj
  have hjn : j < n * 2 := by have := (List.getElem?_eq_some_iff.1 hj).1; omega
  obtain ⟨a, u0, u1, hp, hc, e0, e1⟩ := h (j / 2) (by omega)
  refine ⟨a, hp, ?_⟩
  obtain ⟨c0, c1, _⟩ := hc
  rw [Addr.add_two] at c0 c1
  rcases (by omega : j % 2 = 0 ∨ j % 2 = 1) with h2 | h2
  · have e : j = j / 2 * 2 := by omega
    rw [← e] at e0
    rw [hj] at e0
    injection e0 with e0
    rw [e0]
    rw [show j / 2 * 2 + 0 = j by omega] at c0
    exact c0
  · have e : j = j / 2 * 2 + 1 := by omega
    rw [← e] at e1
    rw [hj] at e1
    injection e1 with e1
    rw [e1]
    rw [show j / 2 * 2 + (0 + 1) = j by omega] at c1
    exact c1

def colsV (l : List Col) : List Value := l.flatMap Col.cells
theorem colsV_length (l : List Col) : (colsV l).length = l.length * 2 := flat_length Col.cells 2 (fun _ => rfl) l
theorem colsV_get0 {l : List Col} {i : Nat} (h : i < l.length) : (colsV l)[i * 2]? = some (.string l[i].name) := flat_get Col.cells 2 (fun _ => rfl) (j := 0) h (by decide)
theorem colsV_get1 {l : List Col} {i : Nat} (h : i < l.length) : (colsV l)[i * 2 + 1]? = some (.int .i64 l[i].kind) := flat_get Col.cells 2 (fun _ => rfl) (j := 1) h (by decide)
theorem colsV_one (l : List Col) : ∀ v ∈ colsV l, v.oneCell' = true := by
  intro v hv
  simp only [colsV, List.mem_flatMap, Col.cells, List.mem_cons, List.mem_nil_iff, or_false] at hv
  obtain ⟨c, _, rfl | rfl⟩ := hv <;> rfl
theorem cols_of_at {w : World} {p : Option Addr} {l : List Col} (h : At w p (colsV l)) : Cols w p l := fun i hi => At.two h (colsV_get0 hi) (colsV_get1 hi)
theorem cols_at {w : World} {p : Option Addr} {l : List Col} (h : Cols w p l) : At w p (colsV l) := At.of_two (colsV_length l) fun i hi => by
  obtain ⟨a, ha, hc⟩ := h i hi
  exact ⟨a, _, _, ha, hc, colsV_get0 hi, colsV_get1 hi⟩

/-- The cells of indexes. -/
def IxV (xs : List Value) (l : List Ix) (P : Nat → Option Addr → Nat → Nat → Prop) : Prop := xs.length = l.length * 2 ∧ (∀ v ∈ xs, v.oneCell' = true) ∧ ∀ i (h : i < l.length), ∃ q n c, xs[i * 2]? = some (.slice q n c) ∧ xs[i * 2 + 1]? = some (.bool l[i].unique) ∧ P i q n c
theorem ixs_cells {w : World} {p : Option Addr} {l : List Ix} (h : Ixs w p l) : ∃ xs, At w p xs ∧ IxV xs l fun i q n c => ∃ h : i < l.length, At w q (ints l[i].cols) ∧ l[i].cols.length = n ∧ n ≤ c := by
  have key : ∀ i, ∃ x : Option Addr × Nat × Nat, ∀ hi : i < l.length, ∃ a, p = some a ∧ SX.cellsAt w (a.add (i * 2)) 0 [.slice x.1 x.2.1 x.2.2, .bool l[i].unique] ∧ At w x.1 (ints l[i].cols) ∧ l[i].cols.length = x.2.1 ∧ x.2.1 ≤ x.2.2 := fun i => by
    by_cases hi : i < l.length
    · obtain ⟨a, q, n, c, h1, h2, h3, h4, h5⟩ := h i hi
      exact ⟨(q, n, c), fun _ => ⟨a, h1, h2, h3, h4, h5⟩⟩
    · exact ⟨(none, 0, 0), fun h => absurd h hi⟩
  let f : Nat → Option Addr × Nat × Nat := fun i => Classical.choose (key i)
  have hf : ∀ i (hi : i < l.length), ∃ a, p = some a ∧ SX.cellsAt w (a.add (i * 2)) 0 [.slice (f i).1 (f i).2.1 (f i).2.2, .bool l[i].unique] ∧ At w (f i).1 (ints l[i].cols) ∧ l[i].cols.length = (f i).2.1 ∧ (f i).2.1 ≤ (f i).2.2 := fun i hi => Classical.choose_spec (key i) hi
  let g : Nat → List Value := fun i => [.slice (f i).1 (f i).2.1 (f i).2.2, .bool ((l[i]?.map Ix.unique).getD false)]
  have hg : ∀ i, (g i).length = 2 := fun _ => rfl
  have hlen : ((List.range l.length).flatMap g).length = l.length * 2 := by rw [flat_length g 2 hg, List.length_range]
  have h0 : ∀ i (hi : i < l.length), ((List.range l.length).flatMap g)[i * 2]? = some (.slice (f i).1 (f i).2.1 (f i).2.2) := fun i hi => by
    have := flat_get g 2 hg (l := List.range l.length) (i := i) (j := 0) (by simpa using hi) (by decide)
    rw [Nat.add_zero] at this
    rw [this, List.getElem_range]
    rfl
  have h1 : ∀ i (hi : i < l.length), ((List.range l.length).flatMap g)[i * 2 + 1]? = some (.bool l[i].unique) := fun i hi => by
    have := flat_get g 2 hg (l := List.range l.length) (i := i) (j := 1) (by simpa using hi) (by decide)
    rw [this, List.getElem_range]
    show some (Value.bool ((l[i]?.map Ix.unique).getD false)) = _
    rw [List.getElem?_eq_getElem hi]
    rfl
  refine ⟨(List.range l.length).flatMap g, At.of_two hlen fun i hi => ?_, hlen, fun v hv => ?_, fun i hi => ?_⟩
  · obtain ⟨a, ha, hc, _⟩ := hf i hi
    exact ⟨a, _, _, ha, hc, h0 i hi, h1 i hi⟩
  · obtain ⟨i, _, hv⟩ := List.mem_flatMap.1 hv
    have : v = .slice (f i).1 (f i).2.1 (f i).2.2 ∨ v = .bool ((l[i]?.map Ix.unique).getD false) := by simpa [g] using hv
    rcases this with rfl | rfl <;> rfl
  · obtain ⟨a, ha, hc, hat, hl, hn⟩ := hf i hi
    exact ⟨_, _, _, h0 i hi, h1 i hi, hi, hat, hl, hn⟩

/-- A schema in memory of its own, from block B on. -/
structure OwnSch (w : World) (s : Schm) (cp : Option Addr) (cc : Nat) (ip : Option Addr) (ic : Nat) (B : Nat) : Prop where
  cols : Own w T.api_Column 2 cp s.cols.length cc (colsV s.cols)
  ixs : ∃ xs, Own w T.api_Index 2 ip s.ixs.length ic xs ∧ IxV xs s.ixs fun i q n c => ∃ h : i < s.ixs.length, Own w T.int 1 q n c (ints s.ixs[i].cols) ∧ ∀ k, Fp q c k → B ≤ k
  cols0 : ∀ k, Fp cp cc k → B ≤ k
  ixs0 : ∀ k, Fp ip ic k → B ≤ k
theorem OwnSch.upd {F : Nat → Prop} {w w' : World} {s : Schm} {cp ip : Option Addr} {cc ic B : Nat} (h : OwnSch w s cp cc ip ic B) (hu : Upd F w w') (hF : ∀ k, B ≤ k → k < w.heap.size → ¬ F k) : OwnSch w' s cp cc ip ic B := by
  obtain ⟨xs, ho, hl, h1, hx⟩ := h.ixs
  refine ⟨h.cols.upd hu fun k hk => hF k (h.cols0 k hk) (h.cols.lt hk), ⟨xs, ho.upd hu fun k hk => hF k (h.ixs0 k hk) (ho.lt hk), hl, h1, fun i hi => ?_⟩, h.cols0, h.ixs0⟩
  obtain ⟨q, n, c, e0, e1, hi', hoi, hf⟩ := hx i hi
  exact ⟨q, n, c, e0, e1, hi', hoi.upd hu fun k hk => hF k (hf k hk) (hoi.lt hk), hf⟩
theorem OwnSch.upd0 {w w' : World} {s : Schm} {cp ip : Option Addr} {cc ic B : Nat} (h : OwnSch w s cp cc ip ic B) (hu : Upd Nothing w w') : OwnSch w' s cp cc ip ic B := h.upd hu fun _ _ _ f => f
theorem OwnSch.ex {w : World} {s : Schm} {cp ip : Option Addr} {cc ic B : Nat} (h : OwnSch w s cp cc ip ic B) : SchEx w s (.agg #[.string s.name, .slice cp s.cols.length cc, .slice ip s.ixs.length ic, .int .i64 s.limit, .int .i64 s.parts, .int .i64 s.by_]) := by
  obtain ⟨xs, ho, hl, h1, hx⟩ := h.ixs
  refine ⟨cp, cc, ip, ic, rfl, cols_of_at h.cols.at, h.cols.le, fun i hi => ?_, ho.le⟩
  obtain ⟨q, n, c, e0, e1, hi', hoi, hf⟩ := hx i hi
  obtain ⟨a, ha, hc⟩ := At.two ho.at e0 e1
  refine ⟨a, q, n, c, ha, hc, hoi.at, ?_, hoi.le⟩
  have := hoi.len
  simpa using this

theorem set_six {w : World} {e : Nat} {g : Nat} {x0 x1 x2 x3 x4 x5 u0 u1 u2 u3 u4 u5 : Value} {Q : World → Prop} (h0 : u0.oneCell' = true) (h1 : u1.oneCell' = true) (h2 : u2.oneCell' = true) (h3 : u3.oneCell' = true) (h4 : u4.oneCell' = true) (h5 : u5.oneCell' = true) (hb : Blk w g [x0, x1, x2, x3, x4, x5] e) (hQ : ∀ w', Blk w' g [u0, u1, u2, u3, u4, u5] e → Upd (One g) w w' → Q w') :
    CanSt w ((Addr.mk g 0 none).add 0) ∧ ∀ w1, w1 = w.setCell ((Addr.mk g 0 none).add 0) u0 →
    CanSt w1 ((Addr.mk g 0 none).add 1) ∧ ∀ w2, w2 = w1.setCell ((Addr.mk g 0 none).add 1) u1 →
    CanSt w2 ((Addr.mk g 0 none).add 2) ∧ ∀ w3, w3 = w2.setCell ((Addr.mk g 0 none).add 2) u2 →
    CanSt w3 ((Addr.mk g 0 none).add 3) ∧ ∀ w4, w4 = w3.setCell ((Addr.mk g 0 none).add 3) u3 →
    CanSt w4 ((Addr.mk g 0 none).add 4) ∧ ∀ w5, w5 = w4.setCell ((Addr.mk g 0 none).add 4) u4 →
    CanSt w5 ((Addr.mk g 0 none).add 5) ∧ ∀ w6, w6 = w5.setCell ((Addr.mk g 0 none).add 5) u5 → Q w6 :=
  hb.store (i := 0) (by simp) h0 fun w1 hb1 hu1 _ => hb1.store (i := 1) (by simp) h1 fun w2 hb2 hu2 _ => hb2.store (i := 2) (by simp) h2 fun w3 hb3 hu3 _ => hb3.store (i := 3) (by simp) h3 fun w4 hb4 hu4 _ =>
    hb4.store (i := 4) (by simp) h4 fun w5 hb5 hu5 _ => hb5.store (i := 5) (by simp) h5 fun w6 hb6 hu6 _ => hQ w6 hb6 (((((hu1.then hu2).then hu3).then hu4).then hu5).then hu6)
section
variable {w : World} {K : Value → World → Prop} {p q : Option Addr} {n c m d : Nat} {s t : Schm} {v u : Value}

theorem clone_cols {l : List Col} (ha : Cols w p l) (hl : l.length = n) (hn : n ≤ 1000000) (hK : ∀ p' c' w', Own w' T.api_Column 2 p' n c' (colsV l) → Upd Nothing w w' → (∀ k, Fp p' c' k → w.heap.size ≤ k) → K (.slice p' n c') w') :
    CallsV prog F.slices_Clone_api_Column_api_Column #[.slice p n c] w K :=
  R.slices_Clone_api_Column_api_Column (by
    unfold C.slices_Clone_api_Column_api_Column
    exact G.clone scol (by decide) (by decide) (cols_at ha) (by rw [colsV_length, hl]) (colsV_one l) (by omega) (fun hp => by
      rcases Nat.eq_zero_or_pos n with h | h
      · exact h
      · obtain ⟨a, h1, _⟩ := ha 0 (by omega)
        rw [hp] at h1
        cases h1) hK)
theorem clone_ints {xs : List Int} (hat : At w p (ints xs)) (hl : xs.length = n) (hn : n ≤ 1000000) (hK : ∀ p' c' w', Own w' T.int 1 p' n c' (ints xs) → Upd Nothing w w' → (∀ k, Fp p' c' k → w.heap.size ≤ k) → K (.slice p' n c') w') :
    CallsV prog F.slices_Clone_int_int #[.slice p n c] w K :=
  R.slices_Clone_int_int (by
    unfold C.slices_Clone_int_int
    exact G.clone sint (by decide) (by decide) hat (by rw [ints_length, hl, Nat.mul_one]) (ints_one xs) (by omega) (fun hp => by
      rcases Nat.eq_zero_or_pos n with h | h
      · exact h
      · obtain ⟨a, h1, _⟩ := hat 0 _ (ints_get (by omega))
        rw [hp] at h1
        cases h1) hK)

end
end Sc
end Go.Proofs.Ytjcgociobhhijaa
