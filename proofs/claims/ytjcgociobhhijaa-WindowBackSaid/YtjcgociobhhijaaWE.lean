/- Windows: what is laid; the document's units, what is seen and staged of them, and how they are laid. -/
import Derived.Test.YtjcgociobhhijaaWD
set_option linter.unusedVariables false
set_option linter.unusedSimpArgs false
set_option maxRecDepth 100000
namespace Go.Proofs.Ytjcgociobhhijaa
open Go Go.Proofs.Ytjcgociobhhijaa.SX Va Cd Sc
namespace Wn
def unitsT (us : List Unit') : List UInt8 := sizeT us.length ++ us.flatMap rowsT
/-- What is small of units. -/
def SmallU (us : List Unit') : Prop := us.length ≤ 100 ∧ ∀ u ∈ us, u.length ≤ 40 ∧ ∀ r ∈ u, r.length ≤ 30 ∧ ∀ v ∈ r, Va.Val.wf v
theorem rowsT_len {ls : List Row} (hn : ls.length ≤ 1000) (h : ∀ r ∈ ls, r.length ≤ 30 ∧ ∀ v ∈ r, Va.Val.wf v) : (rowsT ls).length ≤ 9 + 12100 * ls.length := by
  unfold rowsT
  have h1 := sizeT_len (n := (ls.length : Int)) (by omega)
  have h2 := flat_len (f := rowT) (B := 12100) (l := ls) fun r hr => by
    have h3 := (h r hr).1
    have := rowT_len (r := r) (by omega) fun v hv => ((h r hr).2 v hv).2.1
    omega
  rw [List.length_append]
  omega
theorem unitsT_len {us : List Unit'} (h : SmallU us) : (unitsT us).length ≤ 9 + 484009 * us.length := by
  unfold unitsT
  have h1 := sizeT_len (n := (us.length : Int)) (by have := h.1; omega)
  have h2 := flat_len (f := rowsT) (B := 484009) (l := us) fun u hu => by
    have h3 := (h.2 u hu).1
    have := rowsT_len (ls := u) (by omega) (h.2 u hu).2
    omega
  rw [List.length_append]
  omega
theorem take_flat_len {us : List Unit'} (h : SmallU us) (k : Nat) : ((us.take k).flatMap rowsT).length ≤ 48400900 := by
  have h2 := flat_len (f := rowsT) (B := 484009) (l := us.take k) fun u hu => by
    have hm := List.mem_of_mem_take hu
    have h3 := (h.2 u hm).1
    have := rowsT_len (ls := u) (by omega) (h.2 u hm).2
    omega
  have := h.1
  rw [List.length_take] at h2
  have : min k us.length ≤ 100 := by omega
  have := Nat.mul_le_mul_left 484009 this
  omega

section
variable {w w0 : World} {K : Value → World → Prop} {p q : Option Addr} {n c m d g : Nat} {x : Win} {l : List UInt8}
theorem units_lay {us : List Unit'} {X : World → Prop} (hun : UnitsS (TyS UT) w0 p us.length us) (hs : SmallU us) (h : Wr w0 w g l) (hl : l.length ≤ 100000000) (hX : ∀ w', Wr w0 w' g (l ++ unitsT us) → Upd (Typed w WT) w w' → X w') :
    ∀ b3 wv5, New w (.cells #[.int .i64 ((us.length : Nat) : Int)] T.int) b3 wv5 →
      CallsV prog F.codec_Writer_Size #[.pointer (some (Addr.mk g 0 none)), .slice (some (Addr.mk b3 0 none)) 1 1] wv5 (fun v1 wv6 =>
        ∃ (r1 : Option Addr),
        v1 = .pointer r1 ∧
        ∃ (Iv2 : Int → World → Prop) (m2 : Int → World → Nat),
        Iv2 0 wv6 ∧
        ∀ (s351 : Int) wv7, Iv2 s351 wv7 →
        ifB (decide (s351 < ((us.length : Nat) : Int))) (
          ∃ a2, p = some a2 ∧ 0 ≤ s351 ∧ s351 < ((us.length : Nat) : Int) ∧
          ∃ (e2p : Option Addr) (e2n e2c : Nat),
          wv7.cell? (a2.add (s351.toNat * 1)) = some (.slice e2p e2n e2c) ∧
          CallsV prog F.codec_Writer_Rows #[.pointer (some (Addr.mk g 0 none)), .slice e2p e2n e2c] wv7 (fun v2 wv8 =>
            ∃ (r2 : Option Addr),
            v2 = .pointer r2 ∧
            Iv2 (IntKind.i64.wrap (s351 + (1 : Int))) wv8 ∧ m2 (IntKind.i64.wrap (s351 + (1 : Int))) wv8 < m2 s351 wv7)) (
          X wv7)) := by
  have hst := sizeT_len (n := (us.length : Int)) (by have := hs.1; omega)
  have h100 := hs.1
  obtain ⟨xs, hat, _, hsl, _⟩ := hun
  refine size_one (by omega) h (by omega) fun w1 h1 hu1 => ⟨_, rfl, ?_⟩
  refine ⟨fun i w' => ∃ k : Nat, i = k ∧ k ≤ us.length ∧ Wr w0 w' g (l ++ sizeT (us.length : Int) ++ (us.take k).flatMap rowsT) ∧ Upd (Typed w WT) w w', fun i _ => us.length - i.toNat, ⟨0, rfl, by omega, by simpa using h1, hu1⟩, ?_⟩
  rintro i w2 ⟨k, rfl, hk, h2, hu2⟩
  refine ifB_mk (fun h3 => ?_) (fun h3 => ?_)
  · have hkn : k < us.length := by have := of_decide_eq_true h3; omega
    obtain ⟨q1, m1, d1, hx1, hrw, hd1⟩ := hsl.2 k hkn
    obtain ⟨a, ha, hc⟩ := (hat.upd0 h2.here) k _ hx1
    have hmem := hs.2 _ (List.getElem_mem hkn)
    have hrl : us[k].length = m1 := by obtain ⟨_, _, _, _, hh⟩ := hrw; exact hh
    have hfl := take_flat_len hs k
    refine ⟨a, ha, by omega, by omega, _, _, _, by simpa using hc, ?_⟩
    refine rows_spec (RwsS.of0 (rows_plain hrw)) hrl (by omega) (fun r hr => by have := (hmem.2 r hr).1; omega) (fun r hr => (hmem.2 r hr).2) h2 (by simp only [List.length_append]; omega) fun w3 h3 hu3 => ⟨_, rfl, ?_⟩
    rw [i64_wrap (by omega) (by omega)]
    refine ⟨⟨k + 1, by omega, by omega, ?_, hu2.typed hu3⟩, by show us.length - _ < us.length - _; omega⟩
    rw [List.take_succ_eq_append_getElem hkn, List.flatMap_append, ← List.append_assoc]
    simpa using h3
  · have hkn : k = us.length := by have := of_decide_eq_false h3; omega
    rw [List.take_of_length_le (by omega)] at h2
    refine hX w2 ?_ hu2
    unfold unitsT
    rw [← List.append_assoc]
    exact h2

theorem bytes_spec (h : WinAt w g x) (h1 : SmallU x.seen) (h2 : SmallU x.staged) (hK : ∀ w', Upd Nothing w w' → K (.string (tx (unitsT x.seen ++ unitsT x.staged))) w') : CallsV prog F.window_Window_Bytes #[.pointer (some ⟨g, 0, none⟩)] w K :=
  R.window_Window_Bytes (by
    unfold C.window_Window_Bytes
    obtain ⟨sp, sc, tp, tc, cp, cc, hb, hseen, hsc, hstaged, htc, _⟩ := h
    refine ifB_mk (fun h => by cases h) (fun _ => ?_)
    intro g1 w1 hN
    have hW := Wr.new hN
    have hu1 : Upd Nothing w w1 := Upd.new hN
    have hbd := (hu1.blk hb fun f => f).drew
    have hWd := hW.upd0 (Upd.drew _ _)
    have l1 := unitsT_len h1
    have l2 := unitsT_len h2
    have n1 := h1.1
    have n2 := h2.1
    refine ⟨_, rfl, _, _, _, hbd.cell (i := 6) rfl, _, rfl, _, _, _, hbd.cell (i := 7) rfl, New.use (by simp [Value.oneCell']) fun g3 w3 hb3 hu3 hge3 _ => ?_⟩
    have hW3 := hWd.upd0 hu3
    refine ⟨fun i w' => (i = 0 ∧ Wr w w' g1 [] ∧ Blk w' g3 [.slice sp x.seen.length sc, .slice tp x.staged.length tc] T.s_window_unit) ∨ (i = 1 ∧ Wr w w' g1 (unitsT x.seen) ∧ Blk w' g3 [.slice sp x.seen.length sc, .slice tp x.staged.length tc] T.s_window_unit) ∨ (i = 2 ∧ Wr w w' g1 (unitsT x.seen ++ unitsT x.staged)), fun i _ => 2 - i.toNat, .inl ⟨rfl, hW3, hb3⟩, ?_⟩
    rintro i w4 (⟨rfl, hW4, hb4⟩ | ⟨rfl, hW4, hb4⟩ | ⟨rfl, hW4⟩)
    · refine ifB_mk (fun _ => ⟨_, rfl, by decide, by decide, _, _, _, hb4.cell (i := 0) rfl, ?_⟩) (fun h => by cases h)
      exact units_lay hseen h1 hW4 (by simp) fun w' hw' hu' => ⟨.inr (.inl ⟨by decide, by simpa using hw', hu'.tblk hb4 (by decide)⟩), by show 2 - (IntKind.i64.wrap (0 + 1)).toNat < 2 - (0 : Int).toNat; decide⟩
    · refine ifB_mk (fun _ => ⟨_, rfl, by decide, by decide, _, _, _, hb4.cell (i := 1) rfl, ?_⟩) (fun h => by cases h)
      exact units_lay hstaged h2 hW4 (by omega) fun w' hw' hu' => ⟨.inr (.inr ⟨by decide, hw'⟩), by show 2 - (IntKind.i64.wrap (1 + 1)).toNat < 2 - (1 : Int).toNat; decide⟩
    · refine ifB_mk (fun h => by cases h) (fun _ => ?_)
      exact string_spec hW4 ⟨_, rfl, hK w4 hW4.here⟩)

/-! ### the document's side -/
/-- Units in blocks below B, or of lists of units of one's own. -/
theorem lay19_spec {S : World → Nat → Prop} {us : List Unit'} (hun : UnitsS S w p n us) (hs : SmallU us) (hK : ∀ w', Upd Nothing w w' → K (.string (tx (unitsT us))) w') : CallsV prog F.affluxlaw19_lay #[.slice p n c] w K :=
  R.affluxlaw19_lay (by
    unfold C.affluxlaw19_lay
    obtain ⟨xs, hat, _, hsl, hn⟩ := hun
    have h100 := hs.1
    have hst := sizeT_len (n := (n : Int)) (by omega)
    refine rsize_spec (by omega) fun w1 hu1 => ⟨_, rfl, ?_⟩
    refine ⟨fun s i w' => ∃ k : Nat, i = k ∧ k ≤ n ∧ s = tx (sizeT (n : Int) ++ (us.take k).flatMap rowsT) ∧ Upd Nothing w w', fun _ i _ => n - i.toNat, ⟨0, rfl, by omega, by simp, hu1⟩, ?_⟩
    rintro s i w2 ⟨k, rfl, hk, rfl, hu2⟩
    refine ifB_mk (fun h3 => ?_) (fun h3 => ?_)
    · have hkn : k < us.length := by have := of_decide_eq_true h3; omega
      obtain ⟨q1, m1, d1, hx1, hrw, hd1⟩ := hsl.2 k hkn
      obtain ⟨a, ha, hc⟩ := (hat.upd0 hu2) k _ hx1
      have hmem := hs.2 _ (List.getElem_mem hkn)
      have hrl : us[k].length = m1 := by obtain ⟨_, _, _, _, hh⟩ := hrw; exact hh
      have hfl := take_flat_len hs k
      have hrT := rowsT_len (ls := us[k]) (by omega) hmem.2
      refine ⟨a, ha, by omega, by omega, _, _, _, by simpa using hc, ?_⟩
      refine rrows_lay ((rows_plain hrw).upd0 hu2) hrl (by omega) (fun r hr => by have := (hmem.2 r hr).1; omega) (fun r hr => (hmem.2 r hr).2) fun w3 hu3 => ⟨_, rfl, ?_, ?_⟩
      · rw [tx_size, tx_size, List.length_append]; omega
      · rw [i64_wrap (by omega) (by omega)]
        refine ⟨⟨k + 1, by omega, by omega, ?_, hu2.then hu3⟩, by show n - _ < n - _; omega⟩
        rw [tx_app, List.take_succ_eq_append_getElem hkn, List.flatMap_append, List.append_assoc]
        simp
    · have hkn : k = n := by have := of_decide_eq_false h3; omega
      rw [List.take_of_length_le (by omega)]
      have := hK w2 hu2
      unfold unitsT at this
      rw [hn] at this
      exact this)

theorem flat_spec {S : World → Nat → Prop} {us : List Unit'} (hS : ∀ (w w' : World) (k : Nat), S w k → k < w.heap.size → Upd Nothing w w' → S w' k) (hun : UnitsS S w p n us) (hs : SmallU us) (hK : ∀ p c w', Rws w' p us.flatten → Upd Nothing w w' → K (.slice p us.flatten.length c) w') : CallsV prog F.affluxlaw19_flat #[.slice p n c] w K :=
  R.affluxlaw19_flat (by
    unfold C.affluxlaw19_flat
    obtain ⟨xs, hat, _, hsl, hn⟩ := hun
    have h100 := hs.1
    have hfl : ∀ l : List Unit', (∀ u ∈ l, u.length ≤ 40) → l.flatten.length ≤ 40 * l.length := by
      intro l
      induction l with
      | nil => intro _; simp
      | cons u l ih => intro h; have h1 := h u (by simp); have h2 := ih fun v hv => h v (by simp [hv]); simp only [List.flatten_cons, List.length_append, List.length_cons] at *; omega
    refine ⟨fun lp ln lc i w' => ∃ (k : Nat) (ys : List Value), i = k ∧ k ≤ n ∧ ln = (us.take k).flatten.length ∧ Own w' T.s_api_Value 1 lp ln lc ys ∧ SlE (RowS S w) ys (us.take k).flatten ∧ Upd Nothing w w' ∧ ∀ k, Fp lp lc k → w.heap.size ≤ k, fun _ _ _ i _ => n - i.toNat, ⟨0, [], rfl, by omega, rfl, Own.nil _ _ _, SlE.nil, Upd.refl _ _, fun k hk => by have := hk.1; omega⟩, ?_⟩
    rintro lp ln lc i w2 ⟨k, ys, rfl, hk, rfl, ho2, hys, hu2, hf2⟩
    refine ifB_mk (fun h3 => ?_) (fun h3 => ?_)
    · have hkn : k < us.length := by have := of_decide_eq_true h3; omega
      obtain ⟨q1, m1, d1, hx1, hrw, hd1⟩ := hsl.2 k hkn
      obtain ⟨a, ha, hc⟩ := (hat.upd0 hu2) k _ hx1
      have hmem := hs.2 _ (List.getElem_mem hkn)
      obtain ⟨zs, hatz, _, hslz, hrl⟩ := hrw
      have htk : (us.take (k + 1)).flatten = (us.take k).flatten ++ us[k] := by rw [List.take_succ_eq_append_getElem hkn, List.flatten_append]; simp only [List.flatten_cons, List.flatten_nil, List.append_nil]
      have hfk := hfl (us.take k) fun u hu => (hs.2 u (List.mem_of_mem_take hu)).1
      have hfk' : (us.take k).length ≤ 100 := by simp; omega
      refine ⟨a, ha, by omega, by omega, _, _, _, by simpa using hc, ?_⟩
      refine append_own (m := m1) srows2 (.inl srows2.desc) ho2 (Src.slice (hatz.upd0 hu2) (by rw [hslz.1]; omega) hslz.oneCell) (by decide) (by decide) (by omega) fun p' c' w3 ho3 hu3 hf3 => ⟨_, _, _, rfl, ?_⟩
      rw [i64_wrap (by omega) (by omega)]
      refine ⟨⟨k + 1, ys ++ zs, by omega, by omega, by rw [htk, List.length_append]; omega, ho3, by rw [htk]; exact SlE.append hys hslz, hu2.fresh hu3 hf2, fun j hj => ?_⟩, by show n - _ < n - _; omega⟩
      rcases hf3 j hj with h | h
      · exact hf2 j h
      · exact Nat.le_trans hu2.size h
    · have hkn : k = n := by have := of_decide_eq_false h3; omega
      rw [List.take_of_length_le (by omega)] at ho2 hys ⊢
      refine hK lp lc w2 (fun i hi => ?_) hu2
      obtain ⟨q, m, d, e, hr, hd⟩ := hys.2 i hi
      obtain ⟨a, ha, hc⟩ := ho2.at i _ e
      exact ⟨a, q, m, d, ha, hc, hr.1.upd0 hu2, hr.2.2, hd⟩)
end
end Wn
end Go.Proofs.Ytjcgociobhhijaa
