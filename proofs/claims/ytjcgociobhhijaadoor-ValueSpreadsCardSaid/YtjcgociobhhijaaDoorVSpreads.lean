/- Proved: 'affluxlaw02.ValueSpreads' returns true for every input, and its arguments read behind the call as they did; the library's tables that the row lists hold what the program's text lays (the card ties them). -/
import Derived.Test.YtjcgociobhhijaaDoorCS
import Derived.Test.YtjcgociobhhijaaDoorVL
import Derived.Test.YtjcgociobhhijaaDoorSA
import Derived.Test.YtjcgociobhhijaaDoorCards
import Derived.Test.YtjcgociobhhijaaDoorTie
set_option linter.unusedVariables false
set_option linter.unusedSimpArgs false
set_option maxRecDepth 100000
namespace Go.Proofs.YtjcgociobhhijaaDoor
open Go Go.Proofs.YtjcgociobhhijaaDoor.SX Go.ChangeShapes Go.WideShapes Go.ChangeAt Go.RowKit Va Ca Sc
namespace VSpreads

theorem walk {v : Val} {n : Int} {w : World} {K : Value → World → Prop} (hM : MX w) (hw : Va.Val.wf v) (hn : -9223372036854775808 ≤ n ∧ n ≤ 9223372036854775807) (hK : ∀ w', Upd Nothing w w' → K (.bool true) w') :
    CallsV prog F.affluxlaw02_ValueSpreads #[v.val, .int .i64 n] w K :=
  R.affluxlaw02_ValueSpreads (by
    unfold C.affluxlaw02_ValueSpreads
    have haw : ∀ w1, Upd Nothing w w1 → CallsV prog F.affluxlaw02_awake #[] w1 (fun v w2 => ∃ r : Bool, v = .bool r ∧ K (.bool r) w2) := fun w1 hu1 => Va.awake_spec (hM.upd0 hu1) fun w2 hu2 => ⟨true, rfl, hK _ (hu1.then hu2)⟩
    refine New.use (val_one v) fun g w1 hb1 hu1 hge1 _ => ?_
    have hV : ∀ w', Upd Nothing w1 w' → SX.cellsAt w' (Addr.mk g 0 none) 0 [.int .i64 v.k, .int .i64 v.n, .string v.s] := fun w' hu => cells_cells (v := v) (hu.blk hb1 fun f => f)
    refine ⟨fun w' => Upd Nothing w1 w' ∧ v.right = true ∧ n ≤ 1000000, ⟨v.s, hb1.cell (i := 2) rfl, ifB_mk (fun _ => haw w1 hu1) (fun h1 => ⟨_, _, _, hV w1 (Upd.refl _ _), ?_⟩)⟩, ?_⟩
    · show CallsV prog F.affluxref02_Right #[v.val] w1 _
      refine rright_spec fun w2 hu2 => ⟨_, rfl, ifB_mk (fun _ => haw w2 (hu1.then hu2)) (fun h2 => ifB_mk (fun _ => haw w2 (hu1.then hu2)) (fun h3 => ⟨hu2, by simpa using h2, by have := of_decide_eq_false h3; omega⟩))⟩
    rintro w2 ⟨hu2, hr, hn1⟩
    refine ifB_mk (fun h => ?_) (fun h => ?_)
    · refine ⟨_, _, _, hV w2 hu2, ?_⟩
      show CallsV prog F.value_Spread #[v.val, .int .i64 n] w2 _
      exact spread_low (of_decide_eq_true h) fun w3 hu3 => ⟨_, rfl, ifB_mk (fun _ => haw w3 ((hu1.then hu2).then hu3)) (fun h => by cases h)⟩
    · have h0 := of_decide_eq_false h
      obtain ⟨N, rfl⟩ : ∃ N : Nat, n = N := ⟨n.toNat, by omega⟩
      have hu2' := hu2.then (Upd.drew _ _)
      refine ⟨_, _, _, hV _ hu2', _, _, _, hV _ hu2', ?_⟩
      show CallsV prog F.value_Spread #[v.val, .int .i64 (N : Int)] w2.drew _
      refine spread_spec hr hw (by omega) fun w3 hu3 => ⟨_, rfl, hV _ (hu2'.then hu3), ?_⟩
      show CallsV prog F.affluxref02_Spread #[v.val, .int .i64 (N : Int)] w3 _
      exact rspread_spec hr hw (by omega) fun w4 hu4 => ⟨_, rfl, ifB_mk (fun _ => haw w4 (hu1.then ((hu2'.then hu3).then hu4))) (fun h => by simp at h)⟩)
theorem own : ownKnob Tryd.prog.godebug = none := by kernel_rfl
theorem laid : laidOutB Tryd.prog = true := by kernel_rfl

theorem lifted (os : Os) (started : os.Started) (H : Type) (enc : TypeId × Value → H) :
    ReturnsInHanded {} Tryd.checked os 8 .any (fun w args => (Rows.valueSpreadsSpec.pre enc Tryd.prog Tryd.f8 [] false w args ∧ laidMetH Tryd.prog laid2 w) ∧ sizedMet enc Tryd.prog Tryd.f8 (OpenSpec.ofChange Rows.valueSpreadsSpec) false w args)
      (Rows.valueSpreadsSpec.post enc Tryd.prog Tryd.f8 false true false false) := by
  refine returns_and_shaped (C := Tryd.checked) (X := fun w _ => laidMetH Tryd.prog laid2 w) (fun _ _ _ hh h => h.of_heap hh) own started (by kernel_rfl) Tryd.func8
    (ChangeSpec.witness_at (enc := enc) (C := Tryd.checked) (os := os) (X := fun w _ => laidMetH Tryd.prog laid2 w) false (laidWorld os) #[.agg #[.int .i64 0, .int .i64 0, .string ByteArray.empty], .int .i64 0] 8 rfl (by kernel_rfl) (by kernel_rfl) (by kernel_rfl) (by kernel_rfl) (by kernel_rfl) (laidWorld_met os _)) ?_
  intro W base args ds gs before hval0 hW hsh
  have hM : Va.MX W := maxlen_of_shaped hsh
  have hval : ∀ (j : Nat) t v, Tryd.f8.params[j]? = some t → args[j]? = some v → Value.okWide Tryd.prog W .any base t v := hval0
  have hW' := hW
  obtain ⟨p, q, hA0, hV, rfl, hfz, hnd⟩ := hW
  have hA : DataW.TrodAll enc Tryd.prog W 0 (fun _ => true) true Tryd.f8.params.toList args.toList ds p := hA0
  rw [Tryd.params8] at hA hval
  obtain ⟨v0, vs0, d0, ds0, p0, q0, hargs, rfl, rfl, h0, r0⟩ := trodAll_cons hA
  obtain ⟨v1, vs1, d1, ds1, p1, q1, rfl, rfl, rfl, h1, r1⟩ := trodAll_cons r0
  obtain ⟨rfl, rfl, rfl⟩ := trodAll_nil r1
  obtain rfl : args = #[v0, v1] := by cases args; simp_all
  obtain ⟨v, esv, wfv⟩ := rd_val (Rd.of_trod h0)
  have evv := arg_struct Tryd.underlying27 (hval 0 27 v0 rfl rfl) esv
  subst evv
  obtain ⟨n, en, wfn⟩ := (Rd.of_trod h1).int Tryd.underlying3
  obtain rfl := Rd.arg Tryd.underlying3 rfl (hval 1 3 v1 rfl rfl) en
  refine ((walk (w := W) (K := fun v w' => v = .bool true ∧ Upd Nothing W w') hM wfv (wf_i64 wfn) fun w' hu => ⟨rfl, hu⟩).back Tryd.func8 (by kernel_rfl) (by kernel_rfl)).mono fun e W' ⟨v, he, hv, hu⟩ => ?_
  subst he; subst hv
  exact ⟨_, rfl, law_post (tb := 4) laid (by kernel_rfl) hW' rfl rfl (by kernel_rfl) Tryd.underlying4 hu⟩

theorem row : Rows.ValueSpreadsSaid :=
  OpenClaim.holds_of_wide 8 Tryd.f8 rfl rfl rfl rfl rfl rfl rfl ⟨rfl, rfl, rfl, rfl, rfl⟩ rfl rfl rfl rfl rfl (by kernel_rfl) Tryd.func8 (by kernel_rfl)
    (of_decide_eq_true (by kernel_rfl)) (by unfold Func.isWrapper; first | (rw [if_pos (by decide +kernel)]; kernel_rfl) | (rw [if_neg (by decide +kernel)]; exact ⟨rfl, rfl⟩))
    (fun os started H enc _ => lifted os started H enc)

theorem over : Rows.ValueSpreadsCardSaid :=
  Claim7.holds_tied_plain_at .later [] [.data, .pinned] true (true, "44a05c6656fad0a98acfb041a4270392b8082a07142de41ef3bee6dd98f36de4") false
    row (fun _ h => by cases h) (by kernel_rfl) (fun _ h => by cases h) valueSpreads_row_tie rfl ⟨rfl, rfl⟩ (by kernel_rfl) rfl
    (fun f fn hf hfn => by
      obtain rfl : f = 8 := Option.some.inj ((show Tryd.prog.funcNamed Rows.valueSpreadsRow.func = some 8 by kernel_rfl).symm.trans hf) |>.symm
      obtain rfl : fn = Tryd.f8 := (Option.some.inj (Tryd.func8.symm.trans hfn)).symm
      refine ⟨by kernel_rfl, fun j t ht => ?_⟩
      have hall : (Tryd.f8.params.toList.all fun t => !(Tryd.prog.wantsStandIn t)) = true := by kernel_rfl
      have hm : t ∈ Tryd.f8.params.toList := by rw [Array.mem_toList_iff]; exact Array.mem_of_getElem? ht
      exact (show Tryd.prog.wantsStandIn t = false by simpa using List.all_eq_true.1 hall t hm))
    (by kernel_rfl)

#print axioms over
end VSpreads
end Go.Proofs.YtjcgociobhhijaaDoor
