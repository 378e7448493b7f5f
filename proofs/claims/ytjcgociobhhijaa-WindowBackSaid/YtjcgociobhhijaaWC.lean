/- Windows: a batch's units, a unit that comes. -/
import Derived.Test.YtjcgociobhhijaaWB
set_option linter.unusedVariables false
set_option linter.unusedSimpArgs false
set_option maxRecDepth 100000
namespace Go.Proofs.Ytjcgociobhhijaa
open Go Go.Proofs.Ytjcgociobhhijaa.SX Va Cd Sc
namespace Wn
/-- A block that isn't of one's own. -/
theorem own_one' {w : World} {e s n c e' g : Nat} {p : Option Addr} {xs l : List Value} (h : Own w e s p n c xs) (hb : Blk w g l e') (he : e ≠ e') : ∀ k, Fp p c k → ¬ SX.One g k := fun k hk hk' => own_not_typed (es := [e']) h (by simpa using he) k hk ⟨l, e', by rw [show k = g from hk']; exact hb, by simp⟩
theorem moves_refl {S S' : World → Nat → Prop} {w : World} (h : ∀ k, S w k → S' w k) : Moves S S' Nothing w w := ⟨Upd.refl _ _, fun k _ hs => ⟨fun f => f, h k hs⟩⟩
theorem typed_sub {w : World} {es fs : List Nat} {k : Nat} (h : Typed w es k) (hs : ∀ e ∈ es, e ∈ fs) : Typed w fs k := by
  obtain ⟨l, e, hb, he⟩ := h
  exact ⟨l, e, hb, hs e he⟩
/-- Blocks of rows and units of a batch, but that of its rows as a whole. -/
def SE (p : Option Addr) (c : Nat) (w : World) (k : Nat) : Prop := Typed w [T.s_api_Value, T.api_Value] k ∧ ¬ Fp p c k
theorem rows_mono {S S' : World → Nat → Prop} {w : World} {p : Option Addr} {n : Nat} {l : List Row} (h : RwsS' S w p n l) (hs : ∀ k, S w k → S' w k) : RwsS' S' w p n l := rows_keep h (moves_refl hs)

theorem own_cut {w : World} {e n c d : Nat} {p : Option Addr} {xs : List Value} {es : List Nat} (h : Own w e 1 p n c xs) (hd : d ≤ n) (he : e ∈ es) : At w (cutAt p d c 1) (xs.drop d) ∧ (xs.drop d ≠ [] → ∀ a, cutAt p d c 1 = some a → Typed w es a.block) := by
  have hxl := h.len
  have hle := h.le
  rcases h.mem with h0 | ⟨g, rest, hp, hb, hl⟩
  · have : xs.drop d = [] := List.drop_eq_nil_iff.2 (by omega)
    rw [this]
    exact ⟨At.nil _ _, fun h => absurd rfl h⟩
  · subst hp
    by_cases hc : c = d
    · have : xs.drop d = [] := List.drop_eq_nil_iff.2 (by omega)
      rw [this]
      exact ⟨At.nil _ _, fun h => absurd rfl h⟩
    · have e1 : cutAt (some (Addr.mk g 0 none)) d c 1 = some ⟨g, d, none⟩ := by unfold cutAt; rw [if_neg hc]; simp [Addr.add_mk]
      rw [e1]
      refine ⟨At.of_blk hb fun j v hj => ?_, fun _ a ha => ?_⟩
      · rw [List.getElem?_drop] at hj
        rw [List.getElem?_append_left (List.getElem?_eq_some_iff.1 hj).1]
        exact hj
      · injection ha with ha
        subst ha
        exact ⟨_, _, hb, he⟩

section
variable {w : World} {K : Value → World → Prop} {p q : Option Addr} {n c m d g : Nat} {x : Win}
theorem split_spec {rows : List Row} {id : Int} (h : WinAt w g x) (hr : Rws w q rows) (hrl : rows.length = m) (hm : m ≤ 10000) (hrn : ∀ r ∈ rows, r.length ≤ 1000000)
    (hK : ∀ p c w', UnitsS (TyS UT) w' p (unitsOf x.batches rows).length (unitsOf x.batches rows) → (unitsOf x.batches rows).length ≤ c → Upd Nothing w w' → K (.slice p (unitsOf x.batches rows).length c) w') :
    CallsV prog F.window_Window_split #[.pointer (some ⟨g, 0, none⟩), .agg #[.int .i64 id, .slice q m d]] w K :=
  R.window_Window_split (by
    unfold C.window_Window_split
    refine New.use (by simp [Value.oneCell']) fun g1 w1 hb1 hu1 hge1 _ => ⟨_, _, _, hb1.cell (i := 1) rfl, ?_⟩
    refine ⟨fun wp wn wc ep en ec i w' => ∃ (k : Nat) (xsw xse : List Value), i = k ∧ k ≤ m ∧ wn = k ∧ en = k ∧ Own w' T.s_api_Value 1 wp k wc xsw ∧ Own w' T.window_unit 1 ep k ec xse ∧ SlE (RowS (TyS [T.api_Value]) w') xsw (rows.take k) ∧ SlE (RwsS' (SE wp wc) w') xse ((rows.take k).map fun r => [r]) ∧ Upd Nothing w w' ∧ (∀ k, Fp wp wc k → w.heap.size ≤ k) ∧ ∀ k, Fp ep ec k → w.heap.size ≤ k,
      fun _ _ _ _ _ _ i _ => m - i.toNat, ⟨0, [], [], rfl, by omega, rfl, rfl, Own.nil _ _ _, Own.nil _ _ _, SlE.nil, SlE.nil, hu1, fun k hk => by have := hk.1; omega, fun k hk => by have := hk.1; omega⟩, ?_⟩
    rintro wp wn wc ep en ec i w3 ⟨k, xsw, xse, rfl, hk, rfl, rfl, how, hoe, hsw, hse, hu3, hfw, hfe⟩
    refine ifB_mk (fun h1 => ?_) (fun h1 => ?_)
    · have hkm : en < m := by have := of_decide_eq_true h1; omega
      have hkr : en < rows.length := by omega
      obtain ⟨a, q1, m1, d1, ha, hcl, hat1, hl1, hd1⟩ := (hr.upd0 hu3) en hkr
      have hrk := hrn _ (List.getElem_mem hkr)
      refine ⟨a, ha, by omega, by omega, _, _, _, by simpa using hcl, clone_row hat1 hl1 (by omega) fun rp rc w4 hor hu4 hfr => ⟨_, _, _, rfl, ?_⟩⟩
      refine app_cell srows (by decide) rfl (how.upd0 hu4) (by omega) fun wp' wc' w6 how6 hu6 hfw6 => ⟨_, _, _, rfl, New.use (by simp [Value.oneCell']) fun g7 w7 hb7 hu7 hge7 _ => ?_⟩
      have how4 := how.upd0 hu4
      have hoe4 := hoe.upd0 hu4
      have hoe6 := hoe4.upd hu6 (own_apart hoe4 how4 (by decide))
      have hor6 := hor.upd hu6 (own_apart hor how4 (by decide))
      refine app_cell sunits (by decide) rfl (hoe6.upd0 hu7) (by omega) fun ep' ec' w9 hoe9 hu9 hfe9 => ⟨_, _, _, rfl, ?_⟩
      have hoe7 := hoe6.upd0 hu7
      have how7 := how6.upd0 hu7
      have hor7 := hor6.upd0 hu7
      have how9 := how7.upd hu9 (own_apart how7 hoe7 (by decide))
      have hor9 := hor7.upd hu9 (own_apart hor7 hoe7 (by decide))
      have hb9 := hu9.blk hb7 fun h => own_not_typed (es := [T.s_api_Value]) hoe7 (by decide) g7 h ⟨_, _, hb7, by decide⟩
      have hu36 : Upd Nothing w w6 := (hu3.then hu4).fresh hu6 hfw
      have hu37 := hu36.then hu7
      have hu39 : Upd Nothing w w9 := hu37.fresh hu9 hfe
      rw [i64_wrap (by omega) (by omega)]
      have htk : rows.take (en + 1) = rows.take en ++ [rows[en]] := List.take_succ_eq_append_getElem hkr
      have hrow9 : ∀ S : World → Nat → Prop, (∀ k, Fp rp rc k → S w9 k) → RowS S w9 rp m1 rows[en] := fun S hS => by
        refine ⟨hor9.at, fun hne b hb => ?_, hl1⟩
        rcases hor9.mem with h0 | ⟨g', rest, hp, hb', _⟩
        · subst h0
          have := hor9.empty.1
          rw [← hl1] at this
          exact absurd (List.length_eq_zero_iff.1 this) hne
        · have hc0 : 0 < rc := by
            have := hor9.le
            have h2 : 0 < rows[en].length := List.length_pos_iff.2 hne
            omega
          exact hS _ ⟨hc0, b, hb, rfl⟩
      have hg7 : ¬ Fp wp' wc' g7 := fun h => by have := how6.lt h; omega
      -- from w3 to w9
      have hW : Moves (TyS [T.api_Value]) (TyS [T.api_Value]) (fun k => Fp wp wc k ∨ Fp ep ec k) w3 w9 := by
        refine ⟨((hu4.mono fun _ _ f => f.elim).then ((hu6.mono fun i _ h => .inl h))).then ((hu7.mono fun _ _ f => f.elim).then (hu9.mono fun i _ h => .inr h)), fun k hk ⟨l, e, hb, he⟩ => ?_⟩
        have n1 : ¬ Fp wp wc k := fun h => own_not_typed how (by decide) k h ⟨l, e, hb, he⟩
        have n2 : ¬ Fp ep ec k := fun h => own_not_typed hoe (by decide) k h ⟨l, e, hb, he⟩
        exact ⟨fun h => h.elim n1 n2, l, e, hu9.blk (hu7.blk (hu6.blk (hu4.blk hb fun f => f) n1) fun f => f) n2, he⟩
      have hE : Moves (SE wp wc) (SE wp' wc') (fun k => Fp wp wc k ∨ Fp ep ec k) w3 w9 := by
        refine ⟨hW.1, fun k hk ⟨⟨l, e, hb, he⟩, n1⟩ => ?_⟩
        have n2 : ¬ Fp ep ec k := fun h => own_not_typed hoe (by decide) k h ⟨l, e, hb, he⟩
        refine ⟨fun h => h.elim n1 n2, ⟨l, e, hu9.blk (hu7.blk (hu6.blk (hu4.blk hb fun f => f) n1) fun f => f) n2, he⟩, fun h => ?_⟩
        rcases hfw6 k h with h | h
        · exact n1 h
        · have := hu4.size; omega
      refine ⟨⟨en + 1, xsw ++ [.slice rp m1 rc], xse ++ [.slice (some (Addr.mk g7 0 none)) 1 1], by omega, by omega, rfl, rfl, how9, hoe9, ?_, ?_, hu39, fun k hk => ?_, fun k hk => ?_⟩, by show m - _ < m - _; omega⟩
      · rw [htk]
        refine SlE.append (hsw.mono fun _ _ _ _ h => h.keep hW) (SlE.one (hrow9 _ fun k hk => ?_) hor.le)
        obtain ⟨_, b, hb, rfl⟩ := hk
        rcases hor9.mem with h0 | ⟨g', rest, hp, hb', _⟩
        · have := hk; subst h0; omega
        · rw [hp] at hb; injection hb with hb; subst hb; exact ⟨_, _, hb', by decide⟩
      · rw [htk, List.map_append]
        refine SlE.append (hse.mono fun _ _ _ _ h => rows_keep h hE) (SlE.one ⟨[.slice rp m1 rc], At.of_blk hb9 fun j v hj => by rw [Nat.zero_add]; exact hj, fun _ b hb => ?_, SlE.one (hrow9 _ fun k hk => ?_) hor.le, rfl⟩ (Nat.le_refl _))
        · injection hb with hb
          subst hb
          exact ⟨⟨_, _, hb9, by decide⟩, hg7⟩
        · refine ⟨?_, own_apart hor9 how9 (by decide) k hk⟩
          obtain ⟨_, b, hb, rfl⟩ := hk
          rcases hor9.mem with h0 | ⟨g', rest, hp, hb', _⟩
          · have := hk; subst h0; omega
          · rw [hp] at hb; injection hb with hb; subst hb; exact ⟨_, _, hb', by decide⟩
      · rcases hfw6 k hk with h | h
        · exact hfw k h
        · exact Nat.le_trans (hu3.then hu4).size h
      · rcases hfe9 k hk with h | h
        · exact hfe k h
        · exact Nat.le_trans hu37.size h
    · have hkm : en = m := by have := of_decide_eq_false h1; omega
      subst hkm
      rw [List.take_of_length_le (by omega)] at hsw hse
      obtain ⟨sp, sc, tp, tc, cp, cc, hbw, _⟩ := h.upd0 hu3
      unfold unitsOf at hK
      refine ⟨_, rfl, _, hbw.cell (i := 3) rfl, ifB_mk (fun hb => ?_) (fun hb => ?_)⟩
      · rw [if_pos hb] at hK
        refine New.use (by simp [Value.oneCell']) fun g5 w5 hb5 hu5 hge5 _ => ?_
        have how5 := how.upd0 hu5
        refine hK _ _ _ ⟨[.slice wp en wc], At.of_blk hb5 fun j v hj => by rw [Nat.zero_add]; exact hj, fun _ b hb => ?_, SlE.one ⟨xsw, how5.at, own_tyS how5 (by decide), hsw.mono fun _ _ _ _ h => h.keep ⟨hu5, fun k _ hs => ⟨fun f => f, ?_⟩⟩, hrl⟩ how.le, rfl⟩ (Nat.le_refl _) (hu3.then hu5)
        · injection hb with hb
          subst hb
          exact ⟨_, _, hb5, by decide⟩
        · obtain ⟨l, e, hb', he⟩ := hs
          exact typed_sub ⟨l, e, hu5.blk hb' fun f => f, he⟩ (by decide)
      · rw [if_neg (by rw [hb]; decide)] at hK
        have hlen : (rows.map fun r => [r]).length = en := by simp [hrl]
        have := hK ep ec w3 ⟨xse, hoe.at, own_tyS hoe (by decide), hse.mono fun _ _ _ _ h => rows_mono h fun k hs => typed_sub hs.1 (by decide), rfl⟩ (by rw [hlen]; exact hoe.le) hu3
        rw [hlen] at this
        exact this)

/-- What is so of a window at all times. -/
def WOk (x : Win) : Prop := 1 ≤ x.slide ∧ x.slide ≤ x.size ∧ x.size ≤ 100 ∧ x.seen.length ≤ x.size ∧ x.staged.length < x.slide
theorem WOk.come {x : Win} (h : WOk x) (u : Unit') : WOk (x.come u).1 := by
  obtain ⟨h1, h2, h3, h4, h5⟩ := h
  unfold Win.come
  split
  · rename_i hlt
    exact ⟨h1, h2, h3, h4, by simpa using hlt⟩
  · refine ⟨h1, h2, h3, ?_, by show ([] : List Unit').length < x.slide; simp; omega⟩
    show ((x.seen ++ (x.staged ++ [u])).drop _).length ≤ x.size
    rw [List.length_drop]
    omega
theorem WOk.comes : ∀ (us : List Unit') {x : Win}, WOk x → WOk (x.comes us).1
  | [], x, h => h
  | u :: us, x, h => WOk.comes us (h.come u)

theorem come_spec {u : Unit'} (h : WinAt w g x) (hx : WOk x) (hu : RwsS' (TyS UT) w p n u) (hn : n ≤ c) (hK : ∀ w', WinAt w' g (x.come u).1 → Upd (SX.One g) w w' → K (.bool (x.come u).2) w') :
    CallsV prog F.window_Window_come #[.pointer (some ⟨g, 0, none⟩), .slice p n c] w K :=
  R.window_Window_come (by
    unfold C.window_Window_come
    obtain ⟨o1, o2, o3, o4, o5⟩ := hx
    obtain ⟨sp, sc, tp, tc, cp, cc, hb, hseen, hsc, hstaged, htc, hcols⟩ := h
    obtain ⟨xst, hat_t, hty_t, hsl_t, _⟩ := hstaged
    have hsl0 := hsl_t.1
    refine ⟨_, rfl, _, _, _, hb.cell (i := 7) rfl, clone_units hat_t hsl0 hsl_t.oneCell (by omega) fun r1p r1c w2 ho2 hu2 hf2 => ⟨_, _, _, rfl, ?_⟩⟩
    refine app_cell sunits (x := .slice p n c) (by decide) rfl ho2 (by omega) fun ap ac w4 ho4 hu4 hf4 => ⟨_, _, _, rfl, _, rfl, ?_⟩
    have hu04 : Upd Nothing w w4 := hu2.fresh hu4 hf2
    have hb4 := hu04.blk hb fun f => f
    have hfa : ∀ k, Fp ap ac k → w.heap.size ≤ k := fun k hk => by
      rcases hf4 k hk with h | h
      · exact hf2 k h
      · exact Nat.le_trans hu2.size h
    refine hb4.store (i := 7) (by simp) rfl fun w5 hb5 hu5 _ => ?_
    have hblt := hb.lt
    have hk05 : Keeps (TyS UT) (SX.One g) w w5.drew := by
      have k1 := keeps_one hb4 (es := UT) (by decide) hu5
      refine ⟨((hu04.mono fun _ _ f => f.elim).then hu5).then (Upd.drew _ _), fun k hk hs => ?_⟩
      have h4 := (keeps_nothing (es := UT) hu04).2 k hk hs
      have h5 := k1.2 k (Nat.lt_of_lt_of_le hk hu04.size) h4.2
      exact ⟨h5.1, (keeps_nothing (es := UT) (Upd.drew Nothing w5)).2 k (by have := hu5.size; have := hu04.size; omega) h5.2 |>.2⟩
    have ho5 := (ho4.upd hu5 (own_one' ho4 hb4 (by decide))).upd0 (Upd.drew _ _)
    have hst5 : SlE (RwsS' (TyS UT) w5.drew) (xst ++ [.slice p n c]) (x.staged ++ [u]) := SlE.append (hsl_t.mono fun _ _ _ _ h => rows_keep h hk05) (SlE.one (rows_keep hu hk05) hn)
    have hlen : (x.staged ++ [u]).length = x.staged.length + 1 := by simp
    have hcols5 := hcols.upd hk05.1 (own_one' hcols hb (by decide))
    refine ⟨_, rfl, _, _, _, hb5.drew.cell (i := 7) rfl, _, rfl, _, hb5.drew.cell (i := 5) rfl, ifB_mk (fun hlt => ?_) (fun hlt => ?_)⟩
    · have hlt' : x.staged.length + 1 < x.slide := by have := of_decide_eq_true hlt; omega
      unfold Win.come at hK
      rw [if_pos hlt'] at hK
      refine hK _ ⟨sp, sc, ap, ac, cp, cc, ?_, units_keep hseen hk05, hsc, ⟨_, ho5.at, own_tyS ho5 (by decide), hst5, rfl⟩, ?_, hcols5⟩ hk05.1
      · show Blk _ g [_, _, _, _, _, _, _, .slice ap (x.staged ++ [u]).length ac, _] _
        rw [hlen]
        exact hb5.drew
      · show (x.staged ++ [u]).length ≤ ac
        rw [hlen]
        exact ho4.le
    · have hlt' : ¬ x.staged.length + 1 < x.slide := by have := of_decide_eq_false hlt; omega
      unfold Win.come at hK
      rw [if_neg hlt'] at hK
      have hdd : Keeps (TyS UT) (SX.One g) w w5.drew.drew := by
        refine ⟨hk05.1.then (Upd.drew _ _), fun k hk hs => ?_⟩
        have h5 := hk05.2 k hk hs
        exact ⟨h5.1, (keeps_nothing (es := UT) (Upd.drew Nothing w5.drew)).2 k (by have := hk05.1.size; omega) h5.2 |>.2⟩
      obtain ⟨xss, hat_s, hty_s, hsl_s, _⟩ := units_keep hseen hdd
      have hsls := hsl_s.1
      refine ⟨_, rfl, _, _, _, hb5.drew.drew.cell (i := 6) rfl, _, rfl, _, _, _, hb5.drew.drew.cell (i := 7) rfl, clone_units hat_s hsls hsl_s.oneCell (by omega) fun r2p r2c w6 ho6 hu6 hf6 => ⟨_, _, _, rfl, (hu6.blk hb5.drew.drew fun f => f).cell (i := 7) rfl, ?_⟩⟩
      have ho56 := (ho5.upd0 (Upd.drew Nothing _)).upd0 hu6
      have hxl := ho56.len
      refine append_own (m := x.staged.length + 1) sunits (.inl sunits.desc) ho6 (Src.slice ho56.at hxl ho56.one) (by decide) (by decide) (by omega) fun a2p a2c w7 ho7 hu7 hf7 => ⟨_, _, _, rfl, _, rfl, ?_⟩
      have hb6 := hu6.blk hb5.drew.drew fun f => f
      have hg6 : ¬ Fp r2p r2c g := fun h => by have := hf6 g h; have := hb5.lt; have e : w5.drew.drew.heap.size = w5.heap.size := rfl; omega
      have hb7 := hu7.blk hb6 hg6
      have hu57 : Upd Nothing w5.drew.drew w7 := hu6.fresh hu7 hf6
      have hL : x.seen.length + (x.staged.length + 1) = (x.seen ++ (x.staged ++ [u])).length := by simp
      have hmm : mm2 true (IntKind.i64.wrap (((x.seen.length + (x.staged.length + 1) : Nat) : Int) - (x.size : Int))) 0 = (((x.seen ++ (x.staged ++ [u])).length - x.size : Nat) : Int) := by
        rw [← hL, i64_wrap (by omega) (by omega)]
        unfold mm2
        simp only [cond_true]
        split <;> omega
      refine ⟨_, hb7.cell (i := 4) rfl, ?_⟩
      rw [hmm]
      refine ⟨by omega, by omega, _, rfl, hb7.store (i := 6) (by simp) rfl fun w8 hb8 hu8 _ => ⟨_, rfl, hb8.store (i := 7) (by simp) rfl fun w9 hb9 hu9 _ => ?_⟩⟩
      simp only [Int.toNat_natCast] at hb9
      have hu79 : Upd (SX.One g) w7 w9 := hu8.then hu9
      have hk57 : Keeps (TyS UT) Nothing w5.drew.drew w7 := keeps_nothing hu57
      have hk79 : Keeps (TyS UT) (SX.One g) w7 w9 := keeps_one hb7 (by decide) hu79
      have hk59 : Keeps (TyS UT) (SX.One g) w5.drew.drew w9 := by
        refine ⟨(hu57.mono fun _ _ f => f.elim).then hu79, fun k hk hs => ?_⟩
        have h7 := hk57.2 k hk hs
        exact hk79.2 k (Nat.lt_of_lt_of_le hk hu57.size) h7.2
      have ho9 := ho7.upd hu79 (own_one' ho7 hb7 (by decide))
      have hsl9 : SlE (RwsS' (TyS UT) w9) (xss ++ (xst ++ [.slice p n c])) (x.seen ++ (x.staged ++ [u])) := SlE.append (hsl_s.mono fun _ _ _ _ h => rows_keep h hk59) (hst5.mono fun _ _ _ _ h => rows_keep (rows_keep h (keeps_nothing (Upd.drew Nothing _))) hk59)
      have hdn : (x.seen ++ (x.staged ++ [u])).length - x.size ≤ x.seen.length + (x.staged.length + 1) := by omega
      obtain ⟨hat9, hty9⟩ := own_cut (es := UT) ho9 hdn (by decide)
      have hdl : ((x.seen ++ (x.staged ++ [u])).drop ((x.seen ++ (x.staged ++ [u])).length - x.size)).length = x.seen.length + (x.staged.length + 1) - ((x.seen ++ (x.staged ++ [u])).length - x.size) := by rw [List.length_drop, hL]
      refine hK w9 ⟨_, a2c - ((x.seen ++ (x.staged ++ [u])).length - x.size), none, 0, cp, cc, ?_, ⟨_, hat9, hty9, hsl9.drop _, rfl⟩, ?_, units_nil none, Nat.le_refl _, ?_⟩ ((hk05.1.then (Upd.drew _ _)).then hk59.1)
      · show Blk _ g [_, _, _, _, _, _, .slice _ ((x.seen ++ (x.staged ++ [u])).drop ((x.seen ++ (x.staged ++ [u])).length - x.size)).length _, .slice none 0 0, _] _
        rw [hdl]
        exact hb9
      · show ((x.seen ++ (x.staged ++ [u])).drop ((x.seen ++ (x.staged ++ [u])).length - x.size)).length ≤ _
        rw [hdl]
        have := ho7.le
        omega
      · exact ((hcols5.upd0 (Upd.drew Nothing _)).upd hk59.1 (own_one' (hcols5.upd0 (Upd.drew Nothing _)) hb5.drew.drew (by decide))))
end
end Wn
end Go.Proofs.Ytjcgociobhhijaa
