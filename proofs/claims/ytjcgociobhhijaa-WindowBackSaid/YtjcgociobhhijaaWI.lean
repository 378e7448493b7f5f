/- Windows: the journal. -/
import Derived.Test.YtjcgociobhhijaaWH
set_option linter.unusedVariables false
set_option linter.unusedSimpArgs false
set_option maxRecDepth 100000
namespace Go.Proofs.Ytjcgociobhhijaa
open Go Go.Proofs.Ytjcgociobhhijaa.SX Va Cd Sc
namespace Wn
theorem ssteps : SliceT prog T.s_undo_Step T.undo_Step 1 16 [.nilIface] := SliceT.of_tab (ti := ti63) (te := ti123) tabOK (by kernel_rfl) (by kernel_rfl) (by kernel_rfl) (by kernel_rfl)
/-- A step's method is called. -/
theorem callsM_back {v : Value} {w : World} {K : Value → World → Prop} (h : CallsV prog F.window_back_Back #[v] w K) : CallsM prog (.iface T.window_back v) "Back" #[] w K := by
  have e : (callMethod (.iface T.window_back v) "Back" #[]).run prog w = (callFunc F.window_back_Back #[v]).run prog w := by
    have hi : prog.info? T.window_back = some Try.t99 := by kernel_rfl
    have hm : (Try.t99.methods.find? (·.name == "Back")) = some ⟨"Back", 1, #[], some (F.window_back_Back, false)⟩ := by kernel_rfl
    have hr : ∀ wr, (receiverAt T.window_back (.val v) false wr).run prog w = .ok v w := fun wr => by
      simp [receiverAt, run_underlying Try.underlying99, Place.get]
    have hme : ∀ n, (method (n + 1) T.window_back v "Back").run prog w = .ok (F.window_back_Back, v) w := fun n => by
      simp [method, typeInfo, hi, hm, follow, hr]
    have hd : ∃ n, prog.types.size + Made.depth = n + 1 := by
      have : 1 ≤ Made.depth := by decide
      exact ⟨prog.types.size + (Made.depth - 1), by omega⟩
    obtain ⟨n, hd⟩ := hd
    unfold callMethod
    simp only [Sem.run_bind, run_program, Result.andThen_ok, hd, hme]
    rfl
  unfold CallsM Yield
  rw [e]
  exact h

/-- A step: what a window was. -/
def StepV (w : World) (g : Nat) (x : Win) (v : Value) : Prop := ∃ (sp : Option Addr) (sc : Nat) (tp : Option Addr) (tc : Nat), v = .iface T.window_back (.agg #[.slice sp x.seen.length sc, .slice tp x.staged.length tc, .pointer (some ⟨g, 0, none⟩)]) ∧
  UnitsS (TyS UT) w sp x.seen.length x.seen ∧ x.seen.length ≤ sc ∧ UnitsS (TyS UT) w tp x.staged.length x.staged ∧ x.staged.length ≤ tc
theorem StepV.keep {F : Nat → Prop} {w w' : World} {g : Nat} {x : Win} {v : Value} (h : StepV w g x v) (hk : Keeps (TyS UT) F w w') : StepV w' g x v := by
  obtain ⟨sp, sc, tp, tc, e, h1, h2, h3, h4⟩ := h
  exact ⟨sp, sc, tp, tc, e, units_keep h1 hk, h2, units_keep h3 hk, h4⟩
/-- A journal in memory: what a window was, ahead of each change. -/
def JAt (B : Nat) (w : World) (j g : Nat) (hs : List Win) : Prop := ∃ (lp : Option Addr) (lc : Nat) (xs : List Value), Blk w j [.slice lp hs.length lc] T.undo_Journal ∧ Own w T.undo_Step 1 lp hs.length lc xs ∧ (∀ i (h : i < hs.length), ∃ v, xs[i]? = some v ∧ StepV w g hs[i] v) ∧ ∀ k, Fp lp lc k → B ≤ k
section
variable {w w' : World} {K : Value → World → Prop} {p q : Option Addr} {n c m d g j B : Nat} {x : Win} {hs : List Win}
theorem JAt.upd0 (h : JAt B w j g hs) (hu : Upd Nothing w w') : JAt B w' j g hs := by
  obtain ⟨lp, lc, xs, hb, ho, hx, hf⟩ := h
  exact ⟨lp, lc, xs, hu.blk hb fun f => f, ho.upd0 hu, fun i hi => by
    obtain ⟨v, e, hv⟩ := hx i hi
    exact ⟨v, e, hv.keep (keeps_nothing hu)⟩, hf⟩
theorem JAt.one {l : List Value} (h : JAt B w j g hs) (hbw : Blk w g l T.window_Window) (hu : Upd (SX.One g) w w') : JAt B w' j g hs := by
  obtain ⟨lp, lc, xs, hb, ho, hx, hf⟩ := h
  refine ⟨lp, lc, xs, hu.blk hb fun e => ?_, ho.upd hu (own_one' ho hbw (by decide)), fun i hi => ?_, hf⟩
  · have e' : j = g := e
    rw [e'] at hb
    have := (hb.same hbw).2
    revert this
    decide
  · obtain ⟨v, e, hv⟩ := hx i hi
    exact ⟨v, e, hv.keep (keeps_one hbw (by decide) hu)⟩
theorem WinAt.typed {es : List Nat} (h : WinAt w g x) (hu : Upd (Typed w es) w w') (h1 : T.window_Window ∉ es) (h2 : T.api_Column ∉ es) (h3 : ∀ e ∈ UT, e ∉ es) : WinAt w' g x := by
  obtain ⟨sp, sc, tp, tc, cp, cc, hb, k1, k2, k3, k4, k5⟩ := h
  exact ⟨sp, sc, tp, tc, cp, cc, hu.tblk hb h1, units_keep k1 (keeps_typed hu h3), k2, units_keep k3 (keeps_typed hu h3), k4, hu.town k5 h2⟩

theorem mark_spec (h : JAt B w j g hs) (hK : K (.int .i64 (hs.length : Int)) w) : CallsV prog F.undo_Journal_Mark #[.pointer (some ⟨j, 0, none⟩)] w K :=
  R.undo_Journal_Mark (by
    unfold C.undo_Journal_Mark
    obtain ⟨lp, lc, xs, hb, _⟩ := h
    exact ifB_mk (fun h => by cases h) (fun _ => ⟨_, rfl, _, _, _, hb.cell (i := 0) rfl, hK⟩))

theorem note_spec {b : Nat} {S : Nat → Prop} {bl : List (List Row)} (h : JAt B w j g hs) (ht : Told w g x b) (hw : WinAt w g x) (hl : BatsS S w p n bl) (hS : ∀ k, S k → k < B) (hjB : B ≤ j) (hlen : hs.length ≤ 1000)
    (hK : ∀ w2, WinAt w2 g x → BatsS S w2 p n bl → JAt B w2 j g (hs ++ [x]) → Upd (fun k => B ≤ k) w w2 → K (.tuple #[]) w2) : CallsV prog F.undo_Journal_Note #[.pointer (some ⟨j, 0, none⟩), .slice (some (Addr.mk b 0 none)) 1 1] w K :=
  R.undo_Journal_Note (by
    unfold C.undo_Journal_Note
    obtain ⟨lp, lc, xs, hb, ho, hx, hf⟩ := h
    obtain ⟨sp, sc, tp, tc, hbT, t1, t2, t3, t4⟩ := ht
    refine ifB_mk (fun _ => ⟨_, rfl, _, _, _, hb.cell (i := 0) rfl, ?_⟩) (fun h => by cases h)
    refine append_own (m := 1) ssteps (.inl ssteps.desc) ho (Src.slice (m := 1) (At.of_blk hbT fun j v hj => by rw [Nat.zero_add]; exact hj) rfl (by simp [Value.oneCell'])) (by decide) (by decide) (by omega) fun p' c' w1 ho1 hu1 hf1 => ⟨_, _, _, rfl, _, rfl, ?_⟩
    have hb1 := hu1.blk hb fun h => own_not_typed (es := [T.undo_Journal]) ho (by decide) j h ⟨_, _, hb, by simp⟩
    refine hb1.store (i := 0) (by simp) rfl fun w2 hb2 hu2 _ => ?_
    have hT1 : Upd (Typed w [T.undo_Step, T.undo_Journal]) w w1 := hu1.mono fun k _ hk => own_typed ho (by simp) k hk
    have hT : Upd (Typed w [T.undo_Step, T.undo_Journal]) w w2 := hT1.typed (Upd.tone hb1 hu2 (by simp))
    have hon : Upd (fun k => B ≤ k) w w2 := (hu1.mono fun k _ hk => hf k hk).then (hu2.mono fun k _ hk => by rw [show k = j from hk]; exact hjB)
    have hkp := keeps_typed (es := UT) hT (by decide)
    have hBw : B ≤ w.heap.size := by have := hb.lt; omega
    have hlen1 : (hs ++ [x]).length = hs.length + 1 := by simp
    refine hK w2 (hw.typed hT (by decide) (by decide) (by decide)) (hl.keep hon fun k hk f => by have := hS k hk; have f' : B ≤ k := f; omega) ⟨p', c', _, by rw [hlen1]; exact hb2, by rw [hlen1]; exact ho1.upd hu2 (own_one' ho1 hb1 (by decide)), fun i hi => ?_, fun k hk => ?_⟩ hon
    · by_cases hil : i < hs.length
      · obtain ⟨v, e, hv⟩ := hx i hil
        have hxi : i < xs.length := (List.getElem?_eq_some_iff.1 e).1
        refine ⟨v, by rw [List.getElem?_append_left hxi]; exact e, ?_⟩
        rw [List.getElem_append_left hil]
        exact hv.keep hkp
      · have hi' : i = hs.length := by omega
        subst hi'
        have hxl : xs.length = hs.length := by have := ho.len; omega
        refine ⟨_, by rw [List.getElem?_append_right (by omega), hxl, Nat.sub_self]; rfl, ?_⟩
        rw [List.getElem_append_right (Nat.le_refl _)]
        simp only [Nat.sub_self, List.getElem_cons_zero]
        exact ⟨sp, sc, tp, tc, rfl, units_keep t1 hkp, t2, units_keep t3 hkp, t4⟩
    · rcases hf1 k hk with h | h
      · exact hf k h
      · omega)

theorem back_spec {M : Nat} (hM : M ≤ hs.length) (h : JAt B w j g hs) (hw : WinAt w g x) (hlen : hs.length ≤ 1000) (hjB : B ≤ j) (hgB : B ≤ g)
    (hK : ∀ y z w', (hs ++ [x])[M]? = some z → y.seen = z.seen → y.staged = z.staged → WinAt w' g y → JAt B w' j g (hs.take M) → Upd (fun k => B ≤ k) w w' → K (.int .i64 ((hs.length - M : Nat) : Int)) w') : CallsV prog F.undo_Journal_Back #[.pointer (some ⟨j, 0, none⟩), .int .i64 (M : Int)] w K :=
  R.undo_Journal_Back (by
    unfold C.undo_Journal_Back
    refine ⟨fun n1 w' => ∃ (s : Nat) (y z : Win), M ≤ s ∧ s ≤ hs.length ∧ n1 = ((hs.length - s : Nat) : Int) ∧ JAt B w' j g (hs.take s) ∧ WinAt w' g y ∧ (hs ++ [x])[s]? = some z ∧ y.seen = z.seen ∧ y.staged = z.staged ∧ Upd (fun k => B ≤ k) w w', fun n1 _ => hs.length - n1.toNat, ⟨hs.length, x, x, hM, Nat.le_refl _, by simp, by rw [List.take_length]; exact h, hw, by simp, rfl, rfl, Upd.refl _ _⟩, ?_⟩
    rintro n1 w1 ⟨s, y, z, hMs, hsl, rfl, hj, hwy, hz, e1, e2, hu⟩
    have hts : (hs.take s).length = s := by simp; omega
    refine mark_spec hj ⟨_, rfl, ?_⟩
    have hmm : mm2 true (M : Int) 0 = (M : Int) := by unfold mm2; simp only [cond_true]; split <;> omega
    rw [hmm, hts]
    refine ifB_mk (fun h1 => ?_) (fun h1 => ?_)
    · have hlt : M < s := by have := of_decide_eq_true h1; omega
      obtain ⟨lp, lc, xs, hb, ho, hx, hf⟩ := hj
      rw [hts] at hb ho
      obtain ⟨v, ev, hv⟩ := hx (s - 1) (by rw [hts]; omega)
      obtain ⟨a, ha, hca⟩ := ho.at (s - 1) v ev
      obtain ⟨sp, sc, tp, tc, rfl, t1, t2, t3, t4⟩ := hv
      have hsm : (hs.take s)[s - 1]'(by rw [hts]; omega) = hs[s - 1]'(by omega) := List.getElem_take
      rw [hsm] at t1 t2 t3 t4 ev hca
      have hidx : IntKind.i64.wrap (((s : Nat) : Int) - 1) = ((s - 1 : Nat) : Int) := by rw [i64_wrap (by omega) (by omega)]; omega
      have hle := ho.le
      refine ⟨_, rfl, _, _, _, hb.cell (i := 0) rfl, ?_⟩
      rw [hidx]
      refine ⟨_, rfl, _, _, _, hb.cell (i := 0) rfl, a, ha, by omega, by omega, _, by simpa using hca, _, rfl, _, _, _, hb.cell (i := 0) rfl, by omega, by omega, _, rfl, hb.store (i := 0) (by simp) rfl fun w2 hb2 hu2 _ => ?_⟩
      refine callsM_back (R.window_back_Back (by
        unfold C.window_back_Back
        refine New.use (by simp [Value.oneCell']) fun g3 w3 hb3 hu3 hge3 _ => ⟨_, hb3.cell (i := 2) rfl, _, _, _, _, _, _, ⟨hb3.cell (i := 0) rfl, hb3.cell (i := 1) rfl, trivial⟩, ?_⟩
        obtain ⟨_, _, _, _, cp, cc, hbw, _, _, _, _, hcols⟩ := hwy
        have hjg : ¬ SX.One j g := fun e => by
          have e' : g = j := e
          rw [e'] at hbw
          have := (hb.same hbw).2
          revert this
          decide
        have hbw3 := hu3.blk (hu2.blk hbw hjg) fun f => f
        refine ⟨_, rfl, hbw3.store (i := 6) (by simp) rfl fun w4 hb4 hu4 _ => hb4.store (i := 7) (by simp) rfl fun w5 hb5 hu5 _ => ?_⟩
        have hT1 : Upd (Typed w1 [T.undo_Journal, T.window_Window]) w1 w2 := Upd.tone hb hu2 (by simp)
        have hT : Upd (Typed w1 [T.undo_Journal, T.window_Window]) w1 w5 := (hT1.typed (Upd.any hu3)).typed (Upd.tone hbw3 (hu4.then hu5) (by simp))
        have hkp := keeps_typed (es := UT) hT (by decide)
        have hon : Upd (fun k => B ≤ k) w1 w5 := ((hu2.mono fun k _ hk => by rw [show k = j from hk]; exact hjB).then (hu3.mono fun _ _ f => f.elim)).then ((hu4.then hu5).mono fun k _ hk => by rw [show k = g from hk]; exact hgB)
        have hs1 : hs[s - 1]? = some (hs[s - 1]'(by omega)) := List.getElem?_eq_getElem (by omega)
        have hgj3 : ¬ SX.One g j := fun e => hjg (show g = j from (show j = g from e).symm)
        have hb5j : Blk w5 j _ _ := (hu4.then hu5).blk (hu3.blk hb2 fun f => f) hgj3
        have htk : (hs.take s).take (s - 1) = hs.take (s - 1) := by rw [List.take_take]; congr 1; omega
        have htl : (hs.take (s - 1)).length = s - 1 := by simp; omega
        have hcut : cutAt lp 0 lc 1 = lp := by
          rcases ho.mem with h0 | ⟨g', rest, hp, _, _⟩
          · omega
          · rw [hp]
            unfold cutAt
            rw [if_neg (by omega)]
            simp [Addr.add_mk]
        refine ⟨rfl, ?_⟩
        rw [i64_wrap (by omega) (by omega)]
        refine ⟨⟨s - 1, { y with seen := (hs[s - 1]'(by omega)).seen, staged := (hs[s - 1]'(by omega)).staged }, hs[s - 1]'(by omega), by omega, by omega, by omega, ⟨lp, lc, xs.take ((s - 1) * 1), ?_, ?_, fun i hi => ?_, hf⟩, ⟨sp, sc, tp, tc, cp, cc, hb5, units_keep t1 hkp, t2, units_keep t3 hkp, t4, hT.town hcols (by decide)⟩, by rw [List.getElem?_append_left (by omega)]; exact hs1, rfl, rfl, hu.then hon⟩, by show hs.length - _ < hs.length - _; omega⟩
        · rw [htl]
          have : Blk w5 j [.slice (cutAt lp 0 lc 1) (((s - 1 : Nat) : Int).toNat - 0) (lc - 0)] T.undo_Journal := hb5j
          rw [hcut] at this
          exact this
        · rw [htl]
          exact (hT.town ho (by decide)).head (by omega)
        · rw [htl] at hi
          obtain ⟨v, e, hv⟩ := hx i (by rw [hts]; omega)
          refine ⟨v, by rw [List.getElem?_take, if_pos (by omega)]; exact e, ?_⟩
          have : (hs.take (s - 1))[i]'(by rw [htl]; exact hi) = (hs.take s)[i]'(by rw [hts]; omega) := by rw [List.getElem_take, List.getElem_take]
          rw [this]
          exact hv.keep hkp))
    · have hlt : s = M := by have := of_decide_eq_false h1; omega
      subst hlt
      exact hK y z w1 hz e1 e2 hwy hj hu)
end
end Wn
end Go.Proofs.Ytjcgociobhhijaa
