/- Windows: batches that come, what is seen and staged, what is laid. -/
import Derived.Test.YtjcgociobhhijaaWC
set_option linter.unusedVariables false
set_option linter.unusedSimpArgs false
set_option maxRecDepth 100000
namespace Go.Proofs.Ytjcgociobhhijaa
open Go Go.Proofs.Ytjcgociobhhijaa.SX Va Cd Sc
namespace Wn
/-- Batches in memory, in blocks of S. -/
def BatsS (S : Nat → Prop) (w : World) (p : Option Addr) (n : Nat) (bl : List (List Row)) : Prop := (∀ i (h : i < bl.length), ∃ (a : Addr) (id : Int) (q : Option Addr) (m d : Nat), p = some a ∧ S a.block ∧ SX.cellsAt w (a.add (i * 2)) 0 [.int .i64 id, .slice q m d] ∧ RwsS' (fun _ => S) w q m bl[i] ∧ m ≤ d) ∧ bl.length = n
theorem addr_block (a : Addr) (n : Nat) : (a.add n).block = a.block := by unfold Addr.add; split <;> rfl
theorem cellsAt_upd {F : Nat → Prop} {w w' : World} (hu : Upd F w w') : ∀ {xs : List Value} {a : Addr} {i : Nat}, ¬ F a.block → SX.cellsAt w a i xs → SX.cellsAt w' a i xs
  | [], _, _, _, _ => trivial
  | x :: xs, a, i, hn, h => ⟨hu.cell h.1 (by rw [addr_block]; exact hn), cellsAt_upd hu hn h.2⟩
theorem BatsS.keep {S F : Nat → Prop} {w w' : World} {p : Option Addr} {n : Nat} {bl : List (List Row)} (h : BatsS S w p n bl) (hu : Upd F w w') (hS : ∀ k, S k → ¬ F k) : BatsS S w' p n bl := ⟨fun i hi => by
  obtain ⟨a, id, q, m, d, ha, hs, hc, hr, hd⟩ := h.1 i hi
  exact ⟨a, id, q, m, d, ha, hs, cellsAt_upd hu (by rw [addr_block]; exact hS _ hs) hc, rows_keep hr ⟨hu, fun k _ hk => ⟨hS k hk, hk⟩⟩, hd⟩, h.2⟩
theorem BatsS.upd0 {S : Nat → Prop} {w w' : World} {p : Option Addr} {n : Nat} {bl : List (List Row)} (h : BatsS S w p n bl) (hu : Upd Nothing w w') : BatsS S w' p n bl := h.keep hu fun _ _ f => f
theorem comes_le : ∀ (us : List Unit') (x : Win), (x.comes us).2 ≤ us.length
  | [], x => Nat.le_refl _
  | u :: us, x => by
    have h1 := comes_le us (x.come u).1
    have h2 : (x.come u).2.toNat ≤ 1 := by cases (x.come u).2 <;> decide
    show (x.come u).2.toNat + _ ≤ us.length + 1
    omega
theorem comes_same : ∀ (us : List Unit') (x : Win), (x.comes us).1.name = x.name ∧ (x.comes us).1.on = x.on ∧ (x.comes us).1.owner = x.owner ∧ (x.comes us).1.batches = x.batches ∧ (x.comes us).1.size = x.size ∧ (x.comes us).1.slide = x.slide ∧ (x.comes us).1.cols = x.cols
  | [], x => ⟨rfl, rfl, rfl, rfl, rfl, rfl, rfl⟩
  | u :: us, x => by
    have h1 := comes_same us (x.come u).1
    have h2 := x.come_same u
    refine ⟨h1.1.trans h2.1, h1.2.1.trans h2.2.1, h1.2.2.1.trans h2.2.2.1, h1.2.2.2.1.trans h2.2.2.2.1, h1.2.2.2.2.1.trans h2.2.2.2.2.1, h1.2.2.2.2.2.1.trans h2.2.2.2.2.2.1, h1.2.2.2.2.2.2.trans h2.2.2.2.2.2.2⟩
theorem unitsOf_len (b : Bool) (rows : List Row) (h : rows.length ≤ 40) : (unitsOf b rows).length ≤ 40 := by unfold unitsOf; split <;> simp; omega
theorem unitsAll_len (b : Bool) : ∀ (bl : List (List Row)), (∀ rows ∈ bl, rows.length ≤ 40) → (unitsOfAll b bl).length ≤ 40 * bl.length
  | [], _ => by simp [unitsOfAll]
  | r :: bl, h => by
    have h1 := unitsOf_len b r (h r (by simp))
    have h2 := unitsAll_len b bl fun x hx => h x (by simp [hx])
    unfold unitsOfAll at *
    rw [List.flatMap_cons, List.length_append, List.length_cons]
    omega

section
variable {w : World} {K : Value → World → Prop} {p q : Option Addr} {n c m d g : Nat} {x : Win}
/-- What is noted of a window, ahead of what comes. -/
def Told (w : World) (g : Nat) (x : Win) (b : Nat) : Prop := ∃ (sp : Option Addr) (sc : Nat) (tp : Option Addr) (tc : Nat), Blk w b [.iface T.window_back (.agg #[.slice sp x.seen.length sc, .slice tp x.staged.length tc, .pointer (some ⟨g, 0, none⟩)])] T.undo_Step ∧
  UnitsS (TyS UT) w sp x.seen.length x.seen ∧ x.seen.length ≤ sc ∧ UnitsS (TyS UT) w tp x.staged.length x.staged ∧ x.staged.length ≤ tc

theorem put_spec {S : Nat → Prop} {bl : List (List Row)} {j : Option Addr} {N : World → Prop} (h : WinAt w g x) (hx : WOk x) (hS : ∀ k, S k → k ≠ g) (hl : BatsS S w p n bl) (hn : n ≤ 10) (hrn : ∀ rows ∈ bl, rows.length ≤ 40) (hvn : ∀ rows ∈ bl, ∀ r ∈ rows, r.length ≤ 30) (hcl : x.cols.length ≤ 1000000)
    (hnote : ∀ w1 b (Q : Value → World → Prop), Upd Nothing w w1 → WinAt w1 g x → Told w1 g x b → BatsS S w1 p n bl → (∀ w2, WinAt w2 g x → BatsS S w2 p n bl → N w2 → Q (.tuple #[]) w2) → CallsV prog F.undo_Journal_Note #[.pointer j, .slice (some (Addr.mk b 0 none)) 1 1] w1 Q)
    (hK1 : ∀ w', ¬ (∀ rows ∈ bl, FitR x.cols rows) → WinAt w' g x → Upd Nothing w w' → K (.tuple #[.int .i64 0, .int .i64 13]) w')
    (hK2 : ∀ w' w2, (∀ rows ∈ bl, FitR x.cols rows) → N w2 → Upd (SX.One g) w2 w' → WinAt w' g (x.comes (unitsOfAll x.batches bl)).1 → K (.tuple #[.int .i64 ((x.comes (unitsOfAll x.batches bl)).2 : Int), .int .i64 0]) w') :
    CallsV prog F.window_Window_Put #[.pointer (some ⟨g, 0, none⟩), .pointer j, .slice p n c] w K :=
  R.window_Window_Put (by
    unfold C.window_Window_Put
    have hbl := hl.2
    refine ifB_mk (fun h => by cases h) (fun _ => ?_)
    refine ⟨fun i w' => ∃ k : Nat, i = k ∧ k ≤ n ∧ Upd Nothing w w' ∧ ∀ rows ∈ bl.take k, FitR x.cols rows, fun i _ => n - i.toNat, ⟨0, rfl, by omega, Upd.refl _ _, by simp⟩, ?_⟩
    rintro i w2 ⟨k, rfl, hk, hu2, hq⟩
    refine ifB_mk (fun h1 => ?_) (fun h1 => ?_)
    · have hkn : k < n := by have := of_decide_eq_true h1; omega
      have hkb : k < bl.length := by omega
      obtain ⟨a, id, q1, m1, d1, ha, _, hcell, hrows, hd1⟩ := (hl.upd0 hu2).1 k hkb
      have hmem := List.getElem_mem hkb
      refine ⟨a, ha, by omega, by omega, _, _, _, _, hcell, New.use (by simp [Value.oneCell']) fun g3 w3 hb3 hu3 hge3 _ => set_two rfl rfl hb3 fun w5 hb5 hu5 => ?_⟩
      have hu25 : Upd Nothing w2 w5.drew := (hu3.fresh hu5 fun i hi => by rw [show i = g3 from hi]; exact hge3).then (Upd.drew _ _)
      obtain ⟨sp, sc, tp, tc, cp, cc, hb, _, _, _, _, hcols⟩ := h.upd0 (hu2.then hu25)
      refine ⟨_, rfl, _, _, _, hb.cell (i := 8) rfl, _, _, _, hb5.drew.cell (i := 1) rfl, ?_⟩
      have hrl : bl[k].length = m1 := by obtain ⟨_, _, _, _, hh⟩ := hrows; exact hh
      refine sfits_spec (cols_of_at hcols.at) rfl ((rows_plain hrows).upd0 hu25) hrl (by have := hrn _ hmem; omega) (fun r hr => by have := hvn _ hmem r hr; omega) fun b w6 hb6 hu6 => ⟨b, rfl, ifB_mk (fun h2 => ?_) (fun h2 => ?_)⟩
      · refine hK1 _ (fun h3 => ?_) (h.upd0 ((hu2.then hu25).then hu6)) ((hu2.then hu25).then hu6)
        rw [hb6.2 (h3 _ hmem)] at h2
        cases h2
      · exact scan_next (Q := fun k => ∀ rows ∈ bl.take k, FitR x.cols rows) hkn (by omega) ((hu2.then hu25).then hu6) (forall_take hkb hq (hb6.1 (by simpa using h2)))
    have hkn : k = n := by have := of_decide_eq_false h1; omega
    subst hkn
    rw [List.take_of_length_le (by omega)] at hq
    have h2 := h.upd0 hu2
    obtain ⟨sp, sc, tp, tc, cp, cc, hb, hsn, hsc, hst, htc, _⟩ := h2
    refine ⟨_, rfl, _, _, _, _, _, _, ⟨hb.cell (i := 6) rfl, hb.cell (i := 7) rfl, trivial⟩, New.use (by simp [Value.oneCell']) fun g7 w7 hb7 hu7 hge7 _ => ?_⟩
    have hu07 := hu2.then hu7
    refine hnote w7 g7 _ hu07 (h.upd0 hu07) ⟨sp, sc, tp, tc, hb7, units_keep hsn (keeps_nothing hu7), hsc, units_keep hst (keeps_nothing hu7), htc⟩ (hl.upd0 hu07) fun w8 hw8 hl8 hN => ⟨rfl, ?_⟩
    refine ⟨fun n1 i w' => ∃ k : Nat, i = k ∧ k ≤ bl.length ∧ n1 = ((x.comes (unitsOfAll x.batches (bl.take k))).2 : Int) ∧ WinAt w' g (x.comes (unitsOfAll x.batches (bl.take k))).1 ∧ Upd (SX.One g) w8 w', fun _ i _ => bl.length - i.toNat, ⟨0, rfl, by omega, rfl, hw8, Upd.refl _ _⟩, ?_⟩
    rintro n1 i w9 ⟨k, rfl, hk, rfl, hw9, hu9⟩
    have hsk : ∀ k', S k' → ¬ SX.One g k' := fun k' hs e => hS k' hs e
    have hl9 := hl8.keep hu9 hsk
    refine ifB_mk (fun h3 => ?_) (fun h3 => ?_)
    · have hkb : k < bl.length := by have := of_decide_eq_true h3; omega
      obtain ⟨a, id, q1, m1, d1, ha, _, hcell, hrows, hd1⟩ := hl9.1 k hkb
      have hmem := List.getElem_mem hkb
      have hrl : bl[k].length = m1 := by obtain ⟨_, _, _, _, hh⟩ := hrows; exact hh
      have htk : bl.take (k + 1) = bl.take k ++ [bl[k]] := List.take_succ_eq_append_getElem hkb
      have hall : unitsOfAll x.batches (bl.take (k + 1)) = unitsOfAll x.batches (bl.take k) ++ unitsOf x.batches bl[k] := by
        rw [htk]
        unfold unitsOfAll
        rw [List.flatMap_append]
        simp
      have hmb : ∀ rows ∈ bl.take k, rows.length ≤ 40 := fun rows hr => hrn _ (List.mem_of_mem_take hr)
      have hul := unitsAll_len x.batches (bl.take k) hmb
      have hlk : (bl.take k).length = k := by simp; omega
      have hcb := (comes_same (unitsOfAll x.batches (bl.take k)) x).2.2.2.1
      have hcle := comes_le (unitsOfAll x.batches (bl.take k)) x
      have hok := WOk.comes (unitsOfAll x.batches (bl.take k)) hx
      refine ⟨a, ha, by omega, by omega, _, _, _, _, hcell, New.use (by simp [Value.oneCell']) fun g10 w10 hb10 hu10 hge10 _ => set_two rfl rfl hb10 fun w12 hb12 hu12 => ⟨_, _, _, _, two_cells hb12, ?_⟩⟩
      have hu912 : Upd Nothing w9 w12 := hu10.fresh hu12 fun i hi => by rw [show i = g10 from hi]; exact hge10
      generalize hY : (x.comes (unitsOfAll x.batches (bl.take k))).1 = y at hw9 hcb hok
      refine split_spec (hw9.upd0 hu912) ((rows_plain hrows).upd0 hu912) hrl (by have := hrn _ hmem; omega) (fun r hr => by have := hvn _ hmem r hr; omega) fun rp rc w13 hun hurc hu13 => ⟨_, _, _, rfl, ?_⟩
      rw [hcb] at hun hurc ⊢
      have hwl := unitsOf_len x.batches bl[k] (hrn _ hmem)
      have hu913 := hu912.then hu13
      refine ⟨fun n2 i w' => ∃ t : Nat, i = t ∧ t ≤ (unitsOf x.batches bl[k]).length ∧ n2 = ((x.comes (unitsOfAll x.batches (bl.take k))).2 : Int) + ((y.comes ((unitsOf x.batches bl[k]).take t)).2 : Int) ∧ WinAt w' g (y.comes ((unitsOf x.batches bl[k]).take t)).1 ∧ Upd (SX.One g) w13 w', fun _ i _ => (unitsOf x.batches bl[k]).length - i.toNat, ⟨0, rfl, by omega, by simp [Win.comes], hw9.upd0 hu913, Upd.refl _ _⟩, ?_⟩
      rintro n2 i w14 ⟨t, rfl, ht, rfl, hw14, hu14⟩
      have hw13b : ∃ L, Blk w13 g L T.window_Window := by
        obtain ⟨_, _, _, _, _, _, hb13, _⟩ := hw9.upd0 hu913
        exact ⟨_, hb13⟩
      refine ifB_mk (fun h4 => ?_) (fun h4 => ?_)
      · have htl : t < (unitsOf x.batches bl[k]).length := by have := of_decide_eq_true h4; omega
        obtain ⟨L, hb13⟩ := hw13b
        obtain ⟨xs, hat, _, hsl, _⟩ := units_keep hun (keeps_one hb13 (es := UT) (by decide) hu14)
        obtain ⟨q3, m3, d3, hxt, hru, hmd⟩ := hsl.2 t htl
        obtain ⟨a3, ha3, hc3⟩ := hat t _ hxt
        have htt : (unitsOf x.batches bl[k]).take (t + 1) = (unitsOf x.batches bl[k]).take t ++ [(unitsOf x.batches bl[k])[t]] := List.take_succ_eq_append_getElem htl
        have hcle2 := comes_le ((unitsOf x.batches bl[k]).take t) y
        have htl2 : ((unitsOf x.batches bl[k]).take t).length ≤ 40 := by simp; omega
        have hsn := comes_snoc ((unitsOf x.batches bl[k]).take t) y (unitsOf x.batches bl[k])[t]
        rw [← htt] at hsn
        have hidx : IntKind.i64.wrap ((t : Int) + 1) = ((t + 1 : Nat) : Int) := by rw [i64_wrap (by omega) (by omega)]; omega
        rw [hidx]
        refine ⟨a3, ha3, by omega, by omega, _, _, _, by simpa using hc3, come_spec hw14 (WOk.comes _ hok) hru hmd fun w15 hw15 hu15 => ⟨_, rfl, ?_⟩⟩
        have hw15' : WinAt w15 g (y.comes ((unitsOf x.batches bl[k]).take (t + 1))).1 := by rw [hsn]; exact hw15
        have hmeas : (unitsOf x.batches bl[k]).length - ((t + 1 : Nat) : Int).toNat < (unitsOf x.batches bl[k]).length - (t : Int).toNat := by omega
        refine ifB_mk (fun h5 => ⟨⟨t + 1, rfl, by omega, ?_, hw15', hu14.then hu15⟩, hmeas⟩) (fun h5 => ⟨⟨t + 1, rfl, by omega, ?_, hw15', hu14.then hu15⟩, hmeas⟩)
        · rw [hsn, h5, i64_wrap (by omega) (by omega)]
          simp
          omega
        · rw [hsn, h5]
          simp
      · have htl : t = (unitsOf x.batches bl[k]).length := by have := of_decide_eq_false h4; omega
        rw [htl, List.take_of_length_le (Nat.le_refl _)] at hw14 ⊢
        have hca := comes_append (unitsOfAll x.batches (bl.take k)) (unitsOf x.batches bl[k]) x
        rw [← hall, hY] at hca
        rw [i64_wrap (by omega) (by omega)]
        refine ⟨⟨k + 1, by omega, by omega, ?_, ?_, (hu9.then (hu913.mono fun _ _ f => f.elim)).then hu14⟩, by show bl.length - _ < bl.length - _; omega⟩
        · rw [hca]; simp
        · rw [hca]; exact hw14
    · have hkn : k = bl.length := by have := of_decide_eq_false h3; omega
      subst hkn
      rw [List.take_of_length_le (Nat.le_refl _)] at hw9 ⊢
      exact hK2 w9 w8 hq hN hu9 hw9)

theorem seen_spec (h : WinAt w g x) (hK : K (.int .i64 (x.seen.length : Int)) w) : CallsV prog F.window_Window_Seen #[.pointer (some ⟨g, 0, none⟩)] w K :=
  R.window_Window_Seen (by
    unfold C.window_Window_Seen
    obtain ⟨sp, sc, tp, tc, cp, cc, hb, _⟩ := h
    exact ifB_mk (fun h => by cases h) (fun _ => ⟨_, rfl, _, _, _, hb.cell (i := 6) rfl, hK⟩))
theorem staged_spec (h : WinAt w g x) (hK : K (.int .i64 (x.staged.length : Int)) w) : CallsV prog F.window_Window_Staged #[.pointer (some ⟨g, 0, none⟩)] w K :=
  R.window_Window_Staged (by
    unfold C.window_Window_Staged
    obtain ⟨sp, sc, tp, tc, cp, cc, hb, _⟩ := h
    exact ifB_mk (fun h => by cases h) (fun _ => ⟨_, rfl, _, _, _, hb.cell (i := 7) rfl, hK⟩))

/-- The rows that are seen, in memory of their own. -/
theorem wrows_spec (h : WinAt w g x) (hs : x.seen.length ≤ 100) (hus : ∀ u ∈ x.seen, u.length ≤ 40) (hrs : ∀ u ∈ x.seen, ∀ r ∈ u, r.length ≤ 1000) (hK : ∀ p c w', Rws w' p x.seen.flatten → Upd Nothing w w' → K (.slice p x.seen.flatten.length c) w') :
    CallsV prog F.window_Window_Rows #[.pointer (some ⟨g, 0, none⟩)] w K :=
  R.window_Window_Rows (by
    unfold C.window_Window_Rows
    obtain ⟨sp, sc, tp, tc, cp, cc, hb, hseen, hsc, _⟩ := h
    have hfl : ∀ l : List Unit', (∀ u ∈ l, u.length ≤ 40) → l.flatten.length ≤ 40 * l.length := by
      intro l
      induction l with
      | nil => intro _; simp
      | cons u l ih => intro h; have h1 := h u (by simp); have h2 := ih fun v hv => h v (by simp [hv]); simp only [List.flatten_cons, List.length_append, List.length_cons] at *; omega
    refine ifB_mk (fun _ => ⟨_, rfl, _, _, _, hb.cell (i := 6) rfl, ?_⟩) (fun h => by cases h)
    let I : List Row → Option Addr → Nat → Nat → World → Prop := fun done lp ln lc w' => ∃ xs, ln = done.length ∧ Own w' T.s_api_Value 1 lp ln lc xs ∧ SlE (RowS (TyS [T.api_Value]) w') xs done ∧ Upd Nothing w w' ∧ ∀ k, Fp lp lc k → w.heap.size ≤ k
    refine ⟨fun lp ln lc i w' => ∃ k : Nat, i = k ∧ k ≤ x.seen.length ∧ I (x.seen.take k).flatten lp ln lc w', fun _ _ _ i _ => x.seen.length - i.toNat, ⟨0, rfl, by omega, [], rfl, Own.nil _ _ _, SlE.nil, Upd.refl _ _, fun k hk => by have := hk.1; omega⟩, ?_⟩
    rintro lp ln lc i w2 ⟨k, rfl, hk, hI⟩
    refine ifB_mk (fun h1 => ?_) (fun h1 => ?_)
    · have hkn : k < x.seen.length := by have := of_decide_eq_true h1; omega
      have hu2 : Upd Nothing w w2 := by obtain ⟨_, _, _, _, h, _⟩ := hI; exact h
      obtain ⟨xs0, hat0, _, hsl0, _⟩ := hseen
      obtain ⟨q1, m1, d1, hx0, hru, hd1⟩ := hsl0.2 k hkn
      obtain ⟨a, ha, hc⟩ := (hat0.upd0 hu2) k _ hx0
      have hmem := List.getElem_mem hkn
      have hu40 := hus _ hmem
      have hrl : x.seen[k].length = m1 := by obtain ⟨_, _, _, _, hh⟩ := hru; exact hh
      have htk : (x.seen.take (k + 1)).flatten = (x.seen.take k).flatten ++ x.seen[k] := by rw [List.take_succ_eq_append_getElem hkn, List.flatten_append]; simp only [List.flatten_cons, List.flatten_nil, List.append_nil]
      have hfk := hfl (x.seen.take k) fun u hu => hus u (List.mem_of_mem_take hu)
      have hfk' : (x.seen.take k).length ≤ 100 := by simp; omega
      refine ⟨a, ha, by omega, by omega, _, _, _, by simpa using hc, ?_⟩
      refine ⟨fun lp ln lc i w' => ∃ j : Nat, i = j ∧ j ≤ m1 ∧ I ((x.seen.take k).flatten ++ x.seen[k].take j) lp ln lc w', fun _ _ _ i _ => m1 - i.toNat, ⟨0, rfl, by omega, by rw [List.take_zero, List.append_nil]; exact hI⟩, ?_⟩
      rintro lp ln lc i w3 ⟨j, rfl, hj, xs, rfl, ho3, hsl3, hu3, hf3⟩
      refine ifB_mk (fun h2 => ?_) (fun h2 => ?_)
      · have hjm : j < m1 := by have := of_decide_eq_true h2; omega
        have hju : j < x.seen[k].length := by omega
        obtain ⟨xsr, hatr, _, hslr, _⟩ := rows_keep hru (keeps_nothing hu3)
        obtain ⟨q2, m2, d2, hx2, hrow, hd2⟩ := hslr.2 j hju
        obtain ⟨a2, ha2, hc2⟩ := hatr j _ hx2
        have hr1000 := hrs _ hmem _ (List.getElem_mem hju)
        have hlen : ((x.seen.take k).flatten ++ x.seen[k].take j).length ≤ 40 * 100 + 40 := by rw [List.length_append, List.length_take]; omega
        refine ⟨a2, ha2, by omega, by omega, _, _, _, by simpa using hc2, clone_row hrow.1 hrow.2.2 (by have := hrow.2.2; omega) fun rp rc w4 hor hu4 hfr => ⟨_, _, _, rfl, ?_⟩⟩
        refine app_cell srows2 (by decide) rfl (ho3.upd0 hu4) (by omega) fun lp' lc' w6 ho6 hu6 hf6 => ⟨_, _, _, rfl, ?_⟩
        have ho4 := ho3.upd0 hu4
        have hor6 := hor.upd hu6 (own_apart hor ho4 (by decide))
        have hu06 : Upd Nothing w w6 := (hu3.then hu4).fresh hu6 hf3
        rw [i64_wrap (by omega) (by omega)]
        have htj : x.seen[k].take (j + 1) = x.seen[k].take j ++ [x.seen[k][j]] := List.take_succ_eq_append_getElem hju
        have hk36 : Keeps (TyS [T.api_Value]) (Fp lp lc) w4 w6 := keeps_own ho4 (by decide) hu6
        refine ⟨⟨j + 1, by omega, by omega, _, ?_, ho6, ?_, hu06, fun k hk => ?_⟩, by show m1 - _ < m1 - _; omega⟩
        · rw [htj, ← List.append_assoc, List.length_append (bs := [x.seen[k][j]])]; rfl
        · rw [htj, ← List.append_assoc]
          refine SlE.append (hsl3.mono fun _ _ _ _ h => (h.keep (keeps_nothing hu4)).keep hk36) (SlE.one ⟨hor6.at, fun hne b hb => ?_, hrow.2.2⟩ hor.le)
          have hvn : vals x.seen[k][j] ≠ [] := by
            cases hcs : x.seen[k][j] with
            | nil => exact absurd hcs hne
            | cons v r => simp [Val.cells]
          exact own_tyS hor6 (by decide) hvn b hb
        · rcases hf6 k hk with h | h
          · exact hf3 k h
          · exact Nat.le_trans (hu3.then hu4).size h
      · have hjm : j = m1 := by have := of_decide_eq_false h2; omega
        rw [i64_wrap (by omega) (by omega)]
        refine ⟨⟨k + 1, by omega, by omega, ?_⟩, by show x.seen.length - _ < x.seen.length - _; omega⟩
        rw [htk]
        rw [hjm, ← hrl, List.take_of_length_le (Nat.le_refl _)] at hsl3 ho3 ⊢
        exact ⟨xs, rfl, ho3, hsl3, hu3, hf3⟩
    · have hkn : k = x.seen.length := by have := of_decide_eq_false h1; omega
      subst hkn
      rw [List.take_of_length_le (Nat.le_refl _)] at hI
      obtain ⟨xs, rfl, ho, hsl, hu, _⟩ := hI
      exact hK lp lc w2 (rows_plain ⟨xs, ho.at, own_tyS ho (es := [T.s_api_Value, T.api_Value]) (by decide), hsl.mono fun _ _ _ _ h => h.keep (moves_refl fun k hk => typed_sub hk (by decide)), rfl⟩) hu)
end
end Wn
end Go.Proofs.Ytjcgociobhhijaa
