/- Proved: 'affluxlaw03.SchemaFits' returns true for every input, and its arguments read behind the call as they did; the library's tables that the row lists hold what the program's text lays (the card ties them). -/
import Derived.Test.YtjcgociobhhijaaDoorSF
import Derived.Test.YtjcgociobhhijaaDoorVL
import Derived.Test.YtjcgociobhhijaaDoorCards
import Derived.Test.YtjcgociobhhijaaDoorTie
set_option linter.unusedVariables false
set_option linter.unusedSimpArgs false
set_option maxRecDepth 100000
namespace Go.Proofs.YtjcgociobhhijaaDoor
open Go Go.Proofs.YtjcgociobhhijaaDoor.SX Go.ChangeShapes Go.WideShapes Go.ChangeAt Go.RowKit Va Ca Sc
namespace SFits

theorem walk {s : Schm} {v : Value} {rp : Option Addr} {rn rc : Nat} {row : List Val} {index : Int} {w : World} {K : Value → World → Prop} (hM : MX w) (hs : SchEx w s v)
    (hr : At w rp (vals row)) (hrl : row.length = rn) (hrw : ∀ x ∈ row, Va.Val.wf x) (hK : ∀ w', Upd Nothing w w' → K (.bool true) w') :
    CallsV prog F.affluxlaw03_SchemaFits #[v, .slice rp rn rc, .int .i64 index] w K := by
  have hs0 := hs
  obtain ⟨cp, cc, ip, ic, rfl, hcols, hcc, hixs, hic⟩ := hs
  refine R.affluxlaw03_SchemaFits ?_
  unfold C.affluxlaw03_SchemaFits
  have haw : ∀ w1, Upd Nothing w w1 → CallsV prog F.affluxlaw03_awake #[] w1 (fun v w2 => ∃ r : Bool, v = .bool r ∧ K (.bool r) w2) := fun w1 hu1 => Sc.awake_spec (hM.upd0 hu1) fun w2 hu2 => ⟨true, rfl, hK _ (hu1.then hu2)⟩
  refine New.use (by simp [Value.oneCell']) fun g1 w1 hb1 hu1 hge1 hlt1 => ?_
  have hS := fun w' (hu : Upd Nothing w1 w') => hu.blk hb1 fun f => f
  have hE := fun w' (hu : Upd Nothing w1 w') => hs0.upd0 (hu1.then hu)
  have hR := fun w' (hu : Upd Nothing w1 w') => hr.upd0 (hu1.then hu)
  refine ⟨fun w' => Upd Nothing w1 w' ∧ Small s ∧ row.length ≤ 30, ?_, ?_⟩
  · refine ⟨_, _, _, _, _, _, _, _, _, _, six_cells hb1, great3_spec (s := s) (hE _ (Upd.refl _ _)) fun b w2 e2 hu2 => ⟨b, rfl, ifB_mk (fun _ => haw w2 (hu1.then hu2)) (fun h1 => ?_)⟩⟩
    refine great_spec (hR _ hu2) hrl fun w3 hu3 => ⟨_, rfl, ifB_mk (fun _ => haw w3 (hu1.then (hu2.then hu3))) (fun h2 => ⟨hu2.then hu3, e2 h1, ?_⟩)⟩
    unfold great at h2
    rw [Bool.or_eq_false_iff] at h2
    have := of_decide_eq_false h2.1
    omega
  rintro w6 ⟨hu6, hsm, hrow⟩
  have hsm' : ∀ x ∈ s.ixs, x.cols.length ≤ 1000 := fun x hx => by have := hsm.2.2 x hx; omega
  have hA := fun w' (hu : Upd Nothing w1 w') => (hE w' hu).at hsm
  refine ⟨_, _, _, _, _, _, _, _, _, _, six_cells (hS _ hu6), rright3_spec (s := s) (hA _ hu6) fun b5 w7 hb5 hu7 => ⟨b5, rfl, ?_⟩⟩
  have hu7' := hu6.then hu7
  refine ⟨fun f w' => Upd Nothing w1 w' ∧ (f = true ↔ s.Right ∧ FitsP s.cols row), ifB_mk (fun h => ?_) (fun h => ⟨hu7', ⟨fun h' => (by cases h'), fun h' => by rw [hb5.2 h'.1] at h; cases h⟩⟩), ?_⟩
  · refine ⟨_, _, _, _, _, _, _, _, _, _, six_cells (hS _ hu7'), rfits3_spec (s := s) (hE _ hu7') (hR _ hu7') hrl (by omega) fun b6 w8 hb6 hu8 => ⟨b6, rfl, hu7'.then hu8, ?_⟩⟩
    rw [hb6]
    exact ⟨fun h' => ⟨hb5.1 h, h'⟩, fun h' => h'.2⟩
  rintro fits w9 ⟨hu9, hfits⟩
  refine ⟨fun f w' => Upd Nothing w1 w' ∧ (f = true ↔ s.Right ∧ InP s index), ifB_mk (fun h => ifB_mk (fun h1 => ⟨_, _, _, (hS _ hu9).cell (i := 2) rfl, hu9, ?_⟩) (fun h1 => ⟨hu9, ⟨fun h' => (by cases h'), fun h' => ?_⟩⟩)) (fun h => ⟨hu9, ⟨fun h' => (by cases h'), fun h' => by rw [hb5.2 h'.1] at h; cases h⟩⟩), ?_⟩
  · have h1' := of_decide_eq_true h1
    rw [decide_eq_true_eq]
    exact ⟨fun h' => ⟨hb5.1 h, h1', by omega⟩, fun h' => by have := h'.2.2; omega⟩
  · have h1' := of_decide_eq_false h1
    exact absurd h'.2.1 h1'
  rintro has w10 ⟨hu10, hhas⟩
  refine ⟨_, _, _, _, _, _, _, _, _, _, six_cells (hS _ hu10), ?_⟩
  -- what each answers
  let A : ByteArray → Int → Prop := fun k e => (¬ (s.Right ∧ InP s index ∧ FitsP s.cols row) ∧ k = bs [] ∧ (¬ (s.Right ∧ InP s index) → e = 1) ∧ (s.Right → InP s index → ¬ FitsP s.cols row → e = 13)) ∨ (e = 0 ∧ s.Right ∧ FitsP s.cols row ∧ ∃ (i : Nat) (hi : i < s.ixs.length), index = i ∧ k = tx (skey s i hi row))
  have key : ∀ w' (Q : Value → World → Prop), Upd Nothing w1 w' → (∀ k e w2, A k e → Upd Nothing w' w2 → Q (.tuple #[.string k, .int .i64 e]) w2) → CallsV prog F.schema_Key #[.agg #[.string s.name, .slice cp s.cols.length cc, .slice ip s.ixs.length ic, .int .i64 s.limit, .int .i64 s.parts, .int .i64 s.by_], .int .i64 index, .slice rp rn rc] w' Q := fun w' Q hu hQ =>
    schema_key_spec (s := s) (hM.upd0 (hu1.then hu)) (hA _ hu) hsm' (hR _ hu) hrl (by omega) (fun e w2 e1 e2 _ hn hu2 => hQ _ _ _ (.inl ⟨hn, rfl, e1, e2⟩) hu2) (fun i hi w2 hie hr hf hu2 => hQ _ _ _ (.inr ⟨rfl, hr, hf, i, hi, hie, rfl⟩) hu2)
  refine key w10 _ hu10 fun k e w11 hA11 hu11' => ?_
  have hu11 := hu10.then hu11'
  refine ⟨_, _, rfl, _, _, _, _, _, _, _, _, _, _, six_cells (hS _ hu11), ?_⟩
  let B : Option Addr → Nat → Nat → Int → World → Prop := fun p n c e w' => (¬ (s.Right ∧ FitsP s.cols row) ∧ n = 0 ∧ (¬ s.Right → e = 1) ∧ (s.Right → ¬ FitsP s.cols row → e = 13)) ∨ (e = 0 ∧ s.Right ∧ FitsP s.cols row ∧ n = s.ixs.length ∧ At w' p (strs (skeys s row)))
  have keys : ∀ w' (Q : Value → World → Prop), Upd Nothing w1 w' → (∀ p n c e w2, B p n c e w2 → Upd Nothing w' w2 → Q (.tuple #[.slice p n c, .int .i64 e]) w2) → CallsV prog F.schema_Keys #[.agg #[.string s.name, .slice cp s.cols.length cc, .slice ip s.ixs.length ic, .int .i64 s.limit, .int .i64 s.parts, .int .i64 s.by_], .slice rp rn rc] w' Q := fun w' Q hu hQ =>
    keys_spec (s := s) (hM.upd0 (hu1.then hu)) (hA _ hu) hsm' (hR _ hu) hrl (by omega) (fun e w2 e1 e2 _ hn hu2 => hQ _ _ _ _ _ (.inl ⟨hn, rfl, e1, e2⟩) hu2) (fun p c w2 hr hf ho hu2 _ => hQ _ _ _ _ _ (.inr ⟨rfl, hr, hf, rfl, ho.at⟩) hu2)
  refine keys w11 _ hu11 fun lp ln lc f w12 hB12 hu12' => ?_
  have hu12 := hu11.then hu12'
  refine ⟨_, _, _, _, rfl, _, _, _, _, _, _, _, _, _, _, six_cells (hS _ hu12), ?_⟩
  let D : Int → Int → Prop := fun p e => (¬ (s.Right ∧ FitsP s.cols row) ∧ p = 0 ∧ (¬ s.Right → e = 1) ∧ (s.Right → ¬ FitsP s.cols row → e = 13)) ∨ (e = 0 ∧ s.Right ∧ FitsP s.cols row ∧ ∃ h : s.by_.toNat < row.length, p = spreadV (row[s.by_.toNat]'h) s.parts)
  have part : ∀ w' (Q : Value → World → Prop), Upd Nothing w1 w' → (∀ p e w2, D p e → Upd Nothing w' w2 → Q (.tuple #[.int .i64 p, .int .i64 e]) w2) → CallsV prog F.schema_Part #[.agg #[.string s.name, .slice cp s.cols.length cc, .slice ip s.ixs.length ic, .int .i64 s.limit, .int .i64 s.parts, .int .i64 s.by_], .slice rp rn rc] w' Q := fun w' Q hu hQ =>
    part3_spec (s := s) (hA _ hu) (hR _ hu) hrl (by omega) hrw (fun e w2 e1 e2 _ hn hu2 => hQ _ _ _ (.inl ⟨hn, rfl, e1, e2⟩) hu2) (fun w2 hr hf hlt hu2 => hQ _ _ _ (.inr ⟨rfl, hr, hf, hlt, rfl⟩) hu2)
  refine part w12 _ hu12 fun pa g w13 hD13 hu13' => ?_
  have hu13 := hu12.then hu13'
  refine ⟨_, _, rfl, _, _, _, _, _, _, _, _, _, _, six_cells (hS _ hu13), ?_⟩
  refine Fits_spec (s := s) (hA _ hu13) (hR _ hu13) hrl (by omega) fun b14 w14 hb14 hu14 => ⟨b14, rfl, ifB_mk (fun h => ?_) (fun _ => ?_)⟩
  · rw [Bool.eq_iff_iff.2 (hb14.trans hfits.symm)] at h
    simp at h
  have hu14' := hu13.then hu14
  have hend := haw w14 (hu1.then hu14')
  refine ifB_mk (fun hnf => ?_) (fun hf => ?_)
  · have hn : ¬ (s.Right ∧ FitsP s.cols row) := fun h' => by rw [hfits.2 h'] at hnf; cases hnf
    have hA' : k = bs [] ∧ (¬ (s.Right ∧ InP s index) → e = 1) ∧ (s.Right → InP s index → ¬ FitsP s.cols row → e = 13) := by
      rcases hA11 with h | h
      · exact h.2
      · exact absurd ⟨h.2.1, h.2.2.1⟩ hn
    have hB' : ln = 0 ∧ (¬ s.Right → f = 1) ∧ (s.Right → ¬ FitsP s.cols row → f = 13) := by
      rcases hB12 with h | h
      · exact h.2
      · exact absurd ⟨h.2.1, h.2.2.1⟩ hn
    have hD' : pa = 0 ∧ (¬ s.Right → g = 1) ∧ (s.Right → ¬ FitsP s.cols row → g = 13) := by
      rcases hD13 with h | h
      · exact h.2
      · exact absurd ⟨h.2.1, h.2.2.1⟩ hn
    obtain ⟨rfl, ha1, ha2⟩ := hA'
    obtain ⟨rfl, hb1, hb2⟩ := hB'
    obtain ⟨rfl, hd1, hd2⟩ := hD'
    refine ifB_mk (fun hr5 => ?_) (fun hr5 => ?_)
    · have hnr : ¬ s.Right := fun h' => by rw [hb5.2 h'] at hr5; cases hr5
      have hhas0 : has = false := by
        cases hh : has with
        | false => rfl
        | true => exact absurd (hhas.1 hh).1 hnr
      rw [hhas0, ha1 fun h => hnr h.1, hb1 hnr, hd1 hnr]
      exact ifB_mk (fun _ => hend) (fun h => by rw [sEq_self] at h; cases h)
    · have hr : s.Right := hb5.1 (by simpa using hr5)
      have hnf' : ¬ FitsP s.cols row := fun h => hn ⟨hr, h⟩
      rw [hb2 hr hnf', hd2 hr hnf']
      cases hh : has with
      | false =>
        rw [ha1 fun h => by rw [hhas.2 h] at hh; cases hh]
        exact ifB_mk (fun _ => hend) (fun h => by rw [sEq_self] at h; cases h)
      | true =>
        rw [ha2 hr (hhas.1 hh).2 hnf']
        exact ifB_mk (fun _ => hend) (fun h => by rw [sEq_self] at h; cases h)
  · have hrf : s.Right ∧ FitsP s.cols row := hfits.1 (by simpa using hf)
    have hix4 := hrf.1.2.2.1.2.1.2
    obtain ⟨rfl, _, _, rfl, hat⟩ : f = 0 ∧ s.Right ∧ FitsP s.cols row ∧ ln = s.ixs.length ∧ At w12 lp (strs (skeys s row)) := by
      rcases hB12 with h | h
      · exact absurd hrf h.1
      · exact h
    obtain ⟨rfl, _, _, hby, hpa⟩ : g = 0 ∧ s.Right ∧ FitsP s.cols row ∧ ∃ h : s.by_.toNat < row.length, pa = spreadV (row[s.by_.toNat]'h) s.parts := by
      rcases hD13 with h | h
      · exact absurd hrf h.1
      · exact h
    have hat14 := hat.upd0 (hu13'.then hu14)
    have hnn : ∀ (X Y : Prop), Y → ifB (((s.ixs.length : Nat) : Int) != ((s.ixs.length : Nat) : Int)) X Y := fun X Y h => ifB_mk (fun h' => by simp at h') (fun _ => h)
    refine ⟨fun w' => Upd Nothing w14 w', ?_, ?_⟩
    · cases hh : has with
      | false =>
        obtain ⟨rfl, ha1⟩ : k = bs [] ∧ (¬ (s.Right ∧ InP s index) → e = 1) := by
          rcases hA11 with h | ⟨_, _, _, i, hi, hie, _⟩
          · exact ⟨h.2.1, h.2.2.1⟩
          · have := hhas.2 ⟨hrf.1, by unfold InP; omega⟩
            rw [hh] at this
            cases this
        rw [ha1 fun h => by rw [hhas.2 h] at hh; cases hh]
        refine ifB_mk (fun _ => ?_) (fun h => by cases h)
        refine ifB_mk (fun h => by simp [sEq_self] at h) (fun _ => ifB_mk (fun h => by simp at h) (fun _ => ifB_mk (fun h => by cases h) (fun _ => ⟨_, _, _, (hS _ hu14').cell (i := 2) rfl, hnn _ _ (Upd.refl _ _)⟩)))
      | true =>
        have hin := hhas.1 hh
        obtain ⟨rfl, i, hi, rfl, rfl⟩ : e = 0 ∧ ∃ (i : Nat) (hi : i < s.ixs.length), index = i ∧ k = tx (skey s i hi row) := by
          rcases hA11 with h | ⟨h1, _, _, h2⟩
          · exact absurd ⟨hin.1, hin.2, hrf.2⟩ h.1
          · exact ⟨h1, h2⟩
        refine ifB_mk (fun h => by cases h) (fun _ => ifB_mk (fun _ => ?_) (fun h => by cases h))
        refine ⟨_, _, _, _, _, _, _, _, _, _, six_cells (hS _ hu14'), rkey3_spec (s := s) hi (hE _ hu14') hrf.1 hrf.2 hsm' (hR _ hu14') hrl (by omega) fun w15 hu15 => ⟨_, rfl, ?_⟩⟩
        exact ifB_mk (fun h => by simp [sEq_self] at h) (fun _ => ifB_mk (fun h => by simp at h) (fun _ => ⟨_, _, _, (hS _ (hu14'.then hu15)).cell (i := 2) rfl, hnn _ _ hu15⟩))
    rintro w23 hu23
    refine ⟨fun i w' => ∃ k : Nat, i = k ∧ k ≤ s.ixs.length ∧ Upd Nothing w14 w', fun i _ => s.ixs.length - i.toNat, ⟨0, rfl, by omega, hu23⟩, ?_⟩
    rintro i w24 ⟨k, rfl, hk, hu24⟩
    have hud := hu24.then (Upd.drew _ _)
    have hud' := hu14'.then hud
    refine ifB_mk (fun h => ?_) (fun h => ?_)
    · have hkn : k < s.ixs.length := by have := of_decide_eq_true h; omega
      obtain ⟨a, ha, hc⟩ := (hat14.upd0 hud) k _ (strs_get (by simpa using hkn))
      rw [skeys_get hkn] at hc
      refine ⟨a, ha, by omega, by omega, tx (skey s k hkn row), by simpa using hc, _, _, _, _, _, _, _, _, _, _, six_cells (hS _ hud'), ?_⟩
      refine rkey3_spec (s := s) hkn (hE _ hud') hrf.1 hrf.2 hsm' (hR _ hud') hrl (by omega) fun w25 hu25 => ⟨_, rfl, by simpa using hu25.cell hc fun f => f, ifB_mk (fun h => by simp [sEq_self] at h) (fun _ => ?_)⟩
      rw [i64_wrap (by omega) (by omega)]
      exact ⟨⟨k + 1, by omega, by omega, hud.then hu25⟩, by show s.ixs.length - _ < s.ixs.length - _; omega⟩
    · have hbr := hrf.1.2.2.2.2.2
      have hpr := hrf.1.2.2.2.2.1
      obtain ⟨a2, ha2, hcl2⟩ := (hR _ hud').val hby
      have hlen := hrf.2.1
      refine ifB_mk (fun _ => ⟨_, (hS _ hud').cell (i := 5) rfl, a2, ha2, by omega, by omega, _, _, _, hcl2, _, (hS _ hud').cell (i := 4) rfl, ?_⟩) (fun h => by simp at h)
      obtain ⟨N, hN⟩ : ∃ N : Nat, s.parts = N := ⟨s.parts.toNat, by omega⟩
      rw [hN] at hpr hpa ⊢
      show CallsV prog F.affluxref02_Spread #[(row[s.by_.toNat]'hby).val, .int .i64 (N : Int)] w24.drew _
      refine rspread_spec (List.all_eq_true.1 hrf.2.2.1 _ (List.getElem_mem hby)) (hrw _ (List.getElem_mem hby)) (by omega) fun w26 hu26 => ⟨_, rfl, ifB_mk (fun _ => ifB_mk (fun _ => haw _ (hu1.then (hud'.then hu26))) (fun h => by simp at h)) (fun h => ?_)⟩
      rw [hpa] at h
      simp at h
theorem own : ownKnob Tryd.prog.godebug = none := by kernel_rfl
theorem laid : laidOutB Tryd.prog = true := by kernel_rfl

theorem lifted (os : Os) (started : os.Started) (H : Type) (enc : TypeId × Value → H) :
    ReturnsInHanded {} Tryd.checked os 12 .any (fun w args => (Rows.schemaFitsSpec.pre enc Tryd.prog Tryd.f12 [] false w args ∧ laidMetH Tryd.prog laid2 w) ∧ sizedMet enc Tryd.prog Tryd.f12 (OpenSpec.ofChange Rows.schemaFitsSpec) false w args)
      (Rows.schemaFitsSpec.post enc Tryd.prog Tryd.f12 false true false false) := by
  refine returns_and_shaped (C := Tryd.checked) (X := fun w _ => laidMetH Tryd.prog laid2 w) (fun _ _ _ hh h => h.of_heap hh) own started (by kernel_rfl) Tryd.func12
    (ChangeSpec.witness_at (enc := enc) (C := Tryd.checked) (os := os) (X := fun w _ => laidMetH Tryd.prog laid2 w) false (laidWorld os) #[.agg #[.string ByteArray.empty, .slice none 0 0, .slice none 0 0, .int .i64 0, .int .i64 0, .int .i64 0], .slice none 0 0, .int .i64 0] 8 rfl (by kernel_rfl) (by kernel_rfl) (by kernel_rfl) (by kernel_rfl) (by kernel_rfl) (laidWorld_met os _)) ?_
  intro W base args ds gs before hval0 hW hsh
  have hM : Va.MX W := maxlen_of_shaped hsh
  have hval : ∀ (j : Nat) t v, Tryd.f12.params[j]? = some t → args[j]? = some v → Value.okWide Tryd.prog W .any base t v := hval0
  have hW' := hW
  obtain ⟨p, q, hA0, hV, rfl, hfz, hnd⟩ := hW
  have hA : DataW.TrodAll enc Tryd.prog W 0 (fun _ => true) true Tryd.f12.params.toList args.toList ds p := hA0
  rw [Tryd.params12] at hA hval
  obtain ⟨v0, vs0, d0, ds0, p0, q0, hargs, rfl, rfl, h0, r0⟩ := trodAll_cons hA
  obtain ⟨v1, vs1, d1, ds1, p1, q1, rfl, rfl, rfl, h1, r1⟩ := trodAll_cons r0
  obtain ⟨v2, vs2, d2, ds2, p2, q2, rfl, rfl, rfl, h2, r2⟩ := trodAll_cons r1
  obtain ⟨rfl, rfl, rfl⟩ := trodAll_nil r2
  obtain rfl : args = #[v0, v1, v2] := by cases args; simp_all
  obtain ⟨s, cps, ccs, ips, ics, ess, hcolss, hccs, hccms, hixss, hics, hicms, hsms⟩ := rd_sch (Rd.of_trod h0)
  have evs := arg_struct Tryd.underlying47 (hval 0 47 v0 rfl rfl) ess
  subst evs
  have hsxs : SchEx W s _ := ⟨cps, ccs, ips, ics, rfl, hcolss, hccs, hixss, hics⟩
  obtain ⟨ap, an, ac, xs, eap, hac, hacm, hxs, hal, hxw⟩ := rd_vals (Rd.of_trod h1)
  obtain rfl := Rd.arg Tryd.underlying22 rfl (hval 1 22 v1 rfl rfl) eap
  obtain ⟨index, eindex, wfindex⟩ := (Rd.of_trod h2).int Tryd.underlying3
  obtain rfl := Rd.arg Tryd.underlying3 rfl (hval 2 3 v2 rfl rfl) eindex
  refine ((walk (w := W) (K := fun v w' => v = .bool true ∧ Upd Nothing W w') hM hsxs hxs hal hxw fun w' hu => ⟨rfl, hu⟩).back Tryd.func12 (by kernel_rfl) (by kernel_rfl)).mono fun e W' ⟨v, he, hv, hu⟩ => ?_
  subst he; subst hv
  exact ⟨_, rfl, law_post (tb := 4) laid (by kernel_rfl) hW' rfl rfl (by kernel_rfl) Tryd.underlying4 hu⟩

theorem row : Rows.SchemaFitsSaid :=
  OpenClaim.holds_of_wide 12 Tryd.f12 rfl rfl rfl rfl rfl rfl rfl ⟨rfl, rfl, rfl, rfl, rfl⟩ rfl rfl rfl rfl rfl (by kernel_rfl) Tryd.func12 (by kernel_rfl)
    (of_decide_eq_true (by kernel_rfl)) (by unfold Func.isWrapper; first | (rw [if_pos (by decide +kernel)]; kernel_rfl) | (rw [if_neg (by decide +kernel)]; exact ⟨rfl, rfl⟩))
    (fun os started H enc _ => lifted os started H enc)

theorem over : Rows.SchemaFitsCardSaid :=
  Claim7.holds_tied_plain_at .later [] [.data, .pinned] true (true, "44a05c6656fad0a98acfb041a4270392b8082a07142de41ef3bee6dd98f36de4") false
    row (fun _ h => by cases h) (by kernel_rfl) (fun _ h => by cases h) schemaFits_row_tie rfl ⟨rfl, rfl⟩ (by kernel_rfl) rfl
    (fun f fn hf hfn => by
      obtain rfl : f = 12 := Option.some.inj ((show Tryd.prog.funcNamed Rows.schemaFitsRow.func = some 12 by kernel_rfl).symm.trans hf) |>.symm
      obtain rfl : fn = Tryd.f12 := (Option.some.inj (Tryd.func12.symm.trans hfn)).symm
      refine ⟨by kernel_rfl, fun j t ht => ?_⟩
      have hall : (Tryd.f12.params.toList.all fun t => !(Tryd.prog.wantsStandIn t)) = true := by kernel_rfl
      have hm : t ∈ Tryd.f12.params.toList := by rw [Array.mem_toList_iff]; exact Array.mem_of_getElem? ht
      exact (show Tryd.prog.wantsStandIn t = false by simpa using List.all_eq_true.1 hall t hm))
    (by kernel_rfl)

#print axioms over
end SFits
end Go.Proofs.YtjcgociobhhijaaDoor
