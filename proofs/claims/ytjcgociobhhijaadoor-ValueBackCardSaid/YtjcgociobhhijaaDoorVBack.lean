/- Proved: 'affluxlaw02.ValueBack' returns true for every input, and its arguments read behind the call as they did; the library's tables that the row lists hold what the program's text lays (the card ties them). -/
import Derived.Test.YtjcgociobhhijaaDoorCX
import Derived.Test.YtjcgociobhhijaaDoorVL
import Derived.Test.YtjcgociobhhijaaDoorSA
import Derived.Test.YtjcgociobhhijaaDoorCards
import Derived.Test.YtjcgociobhhijaaDoorTie
set_option linter.unusedVariables false
set_option linter.unusedSimpArgs false
set_option maxRecDepth 100000
namespace Go.Proofs.YtjcgociobhhijaaDoor
open Go Go.Proofs.YtjcgociobhhijaaDoor.SX Go.ChangeShapes Go.WideShapes Go.ChangeAt Go.RowKit Va Ca Sc
namespace VBack

theorem walk {v : Val} {w : World} {K : Value → World → Prop} (hM : MX w) (hw : Va.Val.wf v) (hK : ∀ w', Upd Nothing w w' → K (.bool true) w') : CallsV prog F.affluxlaw02_ValueBack #[v.val] w K :=
  R.affluxlaw02_ValueBack (by
    unfold C.affluxlaw02_ValueBack
    have haw : ∀ w1, Upd Nothing w w1 → CallsV prog F.affluxlaw02_awake #[] w1 (fun v w2 => ∃ r : Bool, v = .bool r ∧ K (.bool r) w2) := fun w1 hu1 => Va.awake_spec (hM.upd0 hu1) fun w2 hu2 => ⟨true, rfl, hK _ (hu1.then hu2)⟩
    refine New.use (val_one v) fun g w1 hb1 hu1 hge1 _ => ?_
    have hV : ∀ w', Upd Nothing w1 w' → SX.cellsAt w' (Addr.mk g 0 none) 0 [.int .i64 v.k, .int .i64 v.n, .string v.s] := fun w' hu => cells_cells (v := v) (hu.blk hb1 fun f => f)
    refine ⟨v.s, hb1.cell (i := 2) rfl, ifB_mk (fun _ => haw w1 hu1) (fun h1 => ⟨_, _, _, hV w1 (Upd.refl _ _), ?_⟩)⟩
    show CallsV prog F.affluxref02_Right #[v.val] w1 _
    refine rright_spec fun w2 hu2 => ⟨_, rfl, ifB_mk (fun _ => haw w2 (hu1.then hu2)) (fun h2 => ⟨_, _, _, hV w2 hu2, ?_⟩)⟩
    have hr : v.right = true := by simpa using h2
    show CallsV prog F.value_Print #[v.val] w2 _
    refine vprint_spec (hM.upd0 (hu1.then hu2)) hw.2.1 fun w3 hu3 => ⟨_, rfl, ?_⟩
    have hu13 := hu2.then hu3
    have hsz := vprint_length hw.2.1
    refine vparse_spec (hM.upd0 (hu1.then hu13)) (by rw [tx_size]; omega) fun u ok w4 hp hu4 => ⟨_, _, _, _, rfl, ?_⟩
    have htx : (tx (vprint v)).data.toList = vprint v := by simp [tx]
    rw [htx] at hp
    obtain ⟨rfl, rfl⟩ : u = v ∧ ok = true := by
      rcases hp with ⟨h1, h2, h3, h4⟩ | ⟨h1, h2, h3⟩
      · exact ⟨vprint_inj h2 hr h4, h1⟩
      · exact absurd rfl (h3 v hr hw.2.1)
    refine New.use (by simp [Value.oneCell']) fun g5 w5 hb5 hu5 hge5 _ => set_val u hb5 fun w6 hb6 hu6 => ?_
    have hu46 : Upd Nothing w4 w6 := hu5.fresh hu6 fun i hi => by rw [show i = g5 from hi]; exact hge5
    have hu16 := (hu13.then hu4).then hu46
    refine ⟨_, _, _, cells_cells (v := u) hb6, _, _, _, hV _ hu16, ifB_mk (fun _ => ifB_mk (fun _ => haw _ (hu1.then hu16)) (fun h => by cases h)) (fun h => by simp [sEq_self] at h)⟩)
theorem own : ownKnob Tryd.prog.godebug = none := by kernel_rfl
theorem laid : laidOutB Tryd.prog = true := by kernel_rfl

theorem lifted (os : Os) (started : os.Started) (H : Type) (enc : TypeId × Value → H) :
    ReturnsInHanded {} Tryd.checked os 7 .any (fun w args => (Rows.valueBackSpec.pre enc Tryd.prog Tryd.f7 [] false w args ∧ laidMetH Tryd.prog laid2 w) ∧ sizedMet enc Tryd.prog Tryd.f7 (OpenSpec.ofChange Rows.valueBackSpec) false w args)
      (Rows.valueBackSpec.post enc Tryd.prog Tryd.f7 false true false false) := by
  refine returns_and_shaped (C := Tryd.checked) (X := fun w _ => laidMetH Tryd.prog laid2 w) (fun _ _ _ hh h => h.of_heap hh) own started (by kernel_rfl) Tryd.func7
    (ChangeSpec.witness_at (enc := enc) (C := Tryd.checked) (os := os) (X := fun w _ => laidMetH Tryd.prog laid2 w) false (laidWorld os) #[.agg #[.int .i64 0, .int .i64 0, .string ByteArray.empty]] 8 rfl (by kernel_rfl) (by kernel_rfl) (by kernel_rfl) (by kernel_rfl) (by kernel_rfl) (laidWorld_met os _)) ?_
  intro W base args ds gs before hval0 hW hsh
  have hM : Va.MX W := maxlen_of_shaped hsh
  have hval : ∀ (j : Nat) t v, Tryd.f7.params[j]? = some t → args[j]? = some v → Value.okWide Tryd.prog W .any base t v := hval0
  have hW' := hW
  obtain ⟨p, q, hA0, hV, rfl, hfz, hnd⟩ := hW
  have hA : DataW.TrodAll enc Tryd.prog W 0 (fun _ => true) true Tryd.f7.params.toList args.toList ds p := hA0
  rw [Tryd.params7] at hA hval
  obtain ⟨v0, vs0, d0, ds0, p0, q0, hargs, rfl, rfl, h0, r0⟩ := trodAll_cons hA
  obtain ⟨rfl, rfl, rfl⟩ := trodAll_nil r0
  obtain rfl : args = #[v0] := by cases args; simp_all
  obtain ⟨v, esv, wfv⟩ := rd_val (Rd.of_trod h0)
  have evv := arg_struct Tryd.underlying27 (hval 0 27 v0 rfl rfl) esv
  subst evv
  refine ((walk (w := W) (K := fun v w' => v = .bool true ∧ Upd Nothing W w') hM wfv fun w' hu => ⟨rfl, hu⟩).back Tryd.func7 (by kernel_rfl) (by kernel_rfl)).mono fun e W' ⟨v, he, hv, hu⟩ => ?_
  subst he; subst hv
  exact ⟨_, rfl, law_post (tb := 4) laid (by kernel_rfl) hW' rfl rfl (by kernel_rfl) Tryd.underlying4 hu⟩

theorem row : Rows.ValueBackSaid :=
  OpenClaim.holds_of_wide 7 Tryd.f7 rfl rfl rfl rfl rfl rfl rfl ⟨rfl, rfl, rfl, rfl, rfl⟩ rfl rfl rfl rfl rfl (by kernel_rfl) Tryd.func7 (by kernel_rfl)
    (of_decide_eq_true (by kernel_rfl)) (by unfold Func.isWrapper; first | (rw [if_pos (by decide +kernel)]; kernel_rfl) | (rw [if_neg (by decide +kernel)]; exact ⟨rfl, rfl⟩))
    (fun os started H enc _ => lifted os started H enc)

theorem over : Rows.ValueBackCardSaid :=
  Claim7.holds_tied_plain_at .later [] [.data, .pinned] true (true, "44a05c6656fad0a98acfb041a4270392b8082a07142de41ef3bee6dd98f36de4") false
    row (fun _ h => by cases h) (by kernel_rfl) (fun _ h => by cases h) valueBack_row_tie rfl ⟨rfl, rfl⟩ (by kernel_rfl) rfl
    (fun f fn hf hfn => by
      obtain rfl : f = 7 := Option.some.inj ((show Tryd.prog.funcNamed Rows.valueBackRow.func = some 7 by kernel_rfl).symm.trans hf) |>.symm
      obtain rfl : fn = Tryd.f7 := (Option.some.inj (Tryd.func7.symm.trans hfn)).symm
      refine ⟨by kernel_rfl, fun j t ht => ?_⟩
      have hall : (Tryd.f7.params.toList.all fun t => !(Tryd.prog.wantsStandIn t)) = true := by kernel_rfl
      have hm : t ∈ Tryd.f7.params.toList := by rw [Array.mem_toList_iff]; exact Array.mem_of_getElem? ht
      exact (show Tryd.prog.wantsStandIn t = false by simpa using List.all_eq_true.1 hall t hm))
    (by kernel_rfl)

#print axioms over
end VBack
end Go.Proofs.YtjcgociobhhijaaDoor
