/- Proved: 'affluxlaw02.ValueTexts' returns true for every input, and its arguments read behind the call as they did; the library's tables that the row lists hold what the program's text lays (the card ties them). -/
import Derived.Test.YtjcgociobhhijaaDoorCX
import Derived.Test.YtjcgociobhhijaaDoorVL
import Derived.Test.YtjcgociobhhijaaDoorSA
import Derived.Test.YtjcgociobhhijaaDoorCards
import Derived.Test.YtjcgociobhhijaaDoorTie
set_option linter.unusedVariables false
set_option linter.unusedSimpArgs false
set_option maxRecDepth 100000
namespace Go.Proofs.YtjcgociobhhijaaDoor
open Go Go.Proofs.YtjcgociobhhijaaDoor.SX Go.ChangeShapes Go.WideShapes Go.ChangeAt Go.RowKit Va Ca Sc
namespace VTexts
theorem vprint_wrong {x : Val} (h : x.right = false) : vprint x = [] := by
  unfold vprint vtext
  rw [if_neg (fun h' => by rw [h] at h'; cases h'.1), if_neg (by rw [h]; decide)]
theorem vline_len {xs : List Val} (h : ∀ x ∈ xs, inr x.n) : (vline xs).length ≤ 404 * xs.length := by
  have := join_len (xs.map vprint) fun y hy => by
    obtain ⟨x, hx, rfl⟩ := List.mem_map.1 hy
    exact vprint_length (h x hx)
  unfold vline
  simpa using this

theorem walk {lp : Option Addr} {ln lc : Nat} {xs : List Val} {s : ByteArray} {w : World} {K : Value → World → Prop} (hM : MX w) (hat : At w lp (vals xs)) (hl : xs.length = ln) (hw : ∀ x ∈ xs, Va.Val.wf x) (hK : ∀ w', Upd Nothing w w' → K (.bool true) w') :
    CallsV prog F.affluxlaw02_ValueTexts #[.slice lp ln lc, .string s] w K :=
  R.affluxlaw02_ValueTexts (by
    unfold C.affluxlaw02_ValueTexts
    have haw : ∀ w1, Upd Nothing w w1 → CallsV prog F.affluxlaw02_awake #[] w1 (fun v w2 => ∃ r : Bool, v = .bool r ∧ K (.bool r) w2) := fun w1 hu1 => Va.awake_spec (hM.upd0 hu1) fun w2 hu2 => ⟨true, rfl, hK _ (hu1.then hu2)⟩
    have hin : ∀ x ∈ xs, inr x.n := fun x hx => (hw x hx).2.1
    refine ⟨fun w' => Upd Nothing w w' ∧ xs.length ≤ 30 ∧ s.size ≤ 600, great_spec hat hl fun w1 hu1 => ⟨_, rfl, ifB_mk (fun _ => haw w1 hu1) (fun h1 => ifB_mk (fun _ => haw w1 hu1) (fun h2 => ⟨hu1, ?_, by have := of_decide_eq_false h2; omega⟩))⟩, ?_⟩
    · unfold great at h1
      rw [Bool.or_eq_false_iff] at h1
      have := of_decide_eq_false h1.1
      omega
    rintro w4 ⟨hu4, hxl, hsl⟩
    refine ⟨fun line i w' => ∃ k : Nat, i = k ∧ k ≤ ln ∧ line = tx (vline (xs.take k)) ∧ Upd Nothing w w', fun _ i _ => ln - i.toNat, ⟨0, rfl, by omega, rfl, hu4⟩, ?_⟩
    rintro line i w5 ⟨k, rfl, hk, rfl, hu5⟩
    refine ifB_mk (fun h => ?_) (fun h => ?_)
    · have hkn : k < ln := by have := of_decide_eq_true h; omega
      have hkx : k < xs.length := by omega
      obtain ⟨a, ha, hcl⟩ := (hat.upd0 hu5).val hkx
      have hlen := vline_len (xs := xs.take k) fun x hx => hin x (List.mem_of_mem_take hx)
      have hlk : (xs.take k).length = k := by simp; omega
      rw [hlk] at hlen
      have hpl := vprint_length (hin _ (List.getElem_mem hkx))
      have htk : xs.take (k + 1) = xs.take k ++ [xs[k]] := List.take_succ_eq_append_getElem hkx
      have hnil : xs.take k = [] ↔ k = 0 := by rw [← List.length_eq_zero_iff, hlk]
      have hvl : ∀ (hk0 : 0 < k), vline (xs.take (k + 1)) = vline (xs.take k) ++ [44, 32] ++ vprint xs[k] := fun hk0 => by rw [htk, vline_snoc, if_neg (fun h => by have := hnil.1 h; omega)]
      have hvl0 : k = 0 → vline (xs.take (k + 1)) = vprint xs[k] := fun hk0 => by rw [htk, vline_snoc, if_pos (hnil.2 hk0)]
      have hidx : IntKind.i64.wrap ((k : Int) + 1) = ((k + 1 : Nat) : Int) := by rw [i64_wrap (by omega) (by omega)]; omega
      rw [hidx]
      have hmeas : ln - ((k + 1 : Nat) : Int).toNat < ln - (k : Int).toNat := by omega
      refine ⟨a, ha, by omega, by omega, _, _, _, hcl, ?_⟩
      show CallsV prog F.affluxref02_Right #[(xs[k]).val] w5 _
      refine rright_spec fun w6 hu6 => ⟨_, rfl, ifB_mk (fun h1 => ?_) (fun h1 => ?_)⟩
      · refine ⟨a, ha, by omega, by omega, _, _, _, cellsAt_upd0 hu6 hcl, ?_⟩
        show CallsV prog F.affluxref02_Print #[(xs[k]).val] w6 _
        refine rprint2_spec h1 (hin _ (List.getElem_mem hkx)) fun w7 hu7 => ⟨_, rfl, a, ha, by omega, by omega, _, _, _, cellsAt_upd0 (hu6.then hu7) hcl, ?_⟩
        show CallsV prog F.value_Print #[(xs[k]).val] w7 _
        have hu07 := hu5.then (hu6.then hu7)
        refine vprint_spec (hM.upd0 hu07) (hin _ (List.getElem_mem hkx)) fun w8 hu8 => ⟨_, rfl, ifB_mk (fun h2 => by simp [sEq_self] at h2) (fun _ => ifB_mk (fun h3 => ?_) (fun h3 => ?_))⟩
        · have hk0 : 0 < k := by have := of_decide_eq_true h3; omega
          rw [tx_bs, tx_app, tx_app, tx_size, tx_size, tx_size, tx_size]
          exact ⟨by simp; omega, by simp; omega, ⟨k + 1, rfl, by omega, by rw [hvl hk0], hu07.then hu8⟩, hmeas⟩
        · have hk0 : k = 0 := by have := of_decide_eq_false h3; omega
          rw [tx_app, tx_size, tx_size]
          refine ⟨by omega, ⟨k + 1, rfl, by omega, ?_, hu07.then hu8⟩, hmeas⟩
          rw [hvl0 hk0, hnil.2 hk0]
          rfl
      · refine ⟨a, ha, by omega, by omega, _, _, _, cellsAt_upd0 hu6 hcl, ?_⟩
        show CallsV prog F.value_Print #[(xs[k]).val] w6 _
        have hu06 := hu5.then hu6
        have hv0 := vprint_wrong h1
        refine vprint_spec (hM.upd0 hu06) (hin _ (List.getElem_mem hkx)) fun w8 hu8 => ⟨_, rfl, ?_⟩
        rw [hv0]
        refine ifB_mk (fun h2 => by rw [tx_bs, sEq_self] at h2; cases h2) (fun _ => ifB_mk (fun h3 => ?_) (fun h3 => ?_))
        · have hk0 : 0 < k := by have := of_decide_eq_true h3; omega
          rw [tx_bs, tx_bs, tx_app, tx_app, tx_size, tx_size, tx_size, tx_size]
          exact ⟨by simp; omega, by simp; omega, ⟨k + 1, rfl, by omega, by rw [hvl hk0, hv0], hu06.then hu8⟩, hmeas⟩
        · have hk0 : k = 0 := by have := of_decide_eq_false h3; omega
          rw [tx_bs, tx_app, tx_size, tx_size]
          refine ⟨by simp; omega, ⟨k + 1, rfl, by omega, ?_, hu06.then hu8⟩, hmeas⟩
          rw [hvl0 hk0, hv0, hnil.2 hk0]
          rfl
    · have hkn : k = ln := by have := of_decide_eq_false h; omega
      subst hkn
      rw [List.take_of_length_le (by omega)]
      refine vparse_spec (hM.upd0 hu5) (by omega) fun u ok w10 hp hu10 => ⟨_, _, _, _, rfl, ?_⟩
      refine New.use (by simp [Value.oneCell']) fun g1 w11 hb11 hu11 hge11 hlt11 => set_val u hb11 fun w14 hb14 hu14 => ?_
      have hu10' : Upd Nothing w10 w14 := hu11.fresh hu14 fun i hi => by rw [show i = g1 from hi]; exact hge11
      refine rparse2_spec (by omega) fun u2 ok2 w15 hp2 hu15 => ⟨_, _, _, _, rfl, ?_⟩
      refine New.use (by simp [Value.oneCell']) fun g2 w16 hb16 hu16 hge16 hlt16 => set_val u2 hb16 fun w19 hb19 hu19 => ?_
      have hu1519 : Upd Nothing w15 w19 := hu16.fresh hu19 fun i hi => by rw [show i = g2 from hi]; exact hge16
      obtain ⟨rfl, rfl⟩ := hp.unique hp2
      have hu19' := hu5.then (((hu10.then hu10').then hu15).then hu1519)
      refine line_spec (hM.upd0 hu19') (hat.upd0 hu19') hl (by omega) hin fun w20 hu20 => ⟨_, rfl, ifB_mk (fun _ => ?_) (fun h => by rw [sEq_self] at h; cases h)⟩
      have hb1 := ((hu15.then hu1519).then hu20).blk hb14 fun f => f
      have hb2 := hu20.blk hb19 fun f => f
      have hend := haw w20 (hu19'.then hu20)
      refine ⟨_, _, _, cells_cells (v := u) hb1, _, _, _, cells_cells (v := u) hb2, ifB_mk (fun _ => ?_) (fun h => by simp [sEq_self] at h)⟩
      cases ok with
      | true => exact ifB_mk (fun _ => ifB_mk (fun _ => hend) (fun h => by cases h)) (fun h => by cases h)
      | false => exact ifB_mk (fun h => by cases h) (fun _ => ifB_mk (fun _ => ifB_mk (fun _ => hend) (fun h => by cases h)) (fun h => by cases h)))
theorem own : ownKnob Tryd.prog.godebug = none := by kernel_rfl
theorem laid : laidOutB Tryd.prog = true := by kernel_rfl

theorem lifted (os : Os) (started : os.Started) (H : Type) (enc : TypeId × Value → H) :
    ReturnsInHanded {} Tryd.checked os 10 .any (fun w args => (Rows.valueTextsSpec.pre enc Tryd.prog Tryd.f10 [] false w args ∧ laidMetH Tryd.prog laid2 w) ∧ sizedMet enc Tryd.prog Tryd.f10 (OpenSpec.ofChange Rows.valueTextsSpec) false w args)
      (Rows.valueTextsSpec.post enc Tryd.prog Tryd.f10 false true false false) := by
  refine returns_and_shaped (C := Tryd.checked) (X := fun w _ => laidMetH Tryd.prog laid2 w) (fun _ _ _ hh h => h.of_heap hh) own started (by kernel_rfl) Tryd.func10
    (ChangeSpec.witness_at (enc := enc) (C := Tryd.checked) (os := os) (X := fun w _ => laidMetH Tryd.prog laid2 w) false (laidWorld os) #[.slice none 0 0, .string ByteArray.empty] 8 rfl (by kernel_rfl) (by kernel_rfl) (by kernel_rfl) (by kernel_rfl) (by kernel_rfl) (laidWorld_met os _)) ?_
  intro W base args ds gs before hval0 hW hsh
  have hM : Va.MX W := maxlen_of_shaped hsh
  have hval : ∀ (j : Nat) t v, Tryd.f10.params[j]? = some t → args[j]? = some v → Value.okWide Tryd.prog W .any base t v := hval0
  have hW' := hW
  obtain ⟨p, q, hA0, hV, rfl, hfz, hnd⟩ := hW
  have hA : DataW.TrodAll enc Tryd.prog W 0 (fun _ => true) true Tryd.f10.params.toList args.toList ds p := hA0
  rw [Tryd.params10] at hA hval
  obtain ⟨v0, vs0, d0, ds0, p0, q0, hargs, rfl, rfl, h0, r0⟩ := trodAll_cons hA
  obtain ⟨v1, vs1, d1, ds1, p1, q1, rfl, rfl, rfl, h1, r1⟩ := trodAll_cons r0
  obtain ⟨rfl, rfl, rfl⟩ := trodAll_nil r1
  obtain rfl : args = #[v0, v1] := by cases args; simp_all
  obtain ⟨lp, ln, lc, xs, elp, hac, hacm, hxs, hal, hxw⟩ := rd_vals (Rd.of_trod h0)
  obtain rfl := Rd.arg Tryd.underlying22 rfl (hval 0 22 v0 rfl rfl) elp
  obtain ⟨s, es, wfs⟩ := (Rd.of_trod h1).str Tryd.underlying9
  obtain rfl := Rd.arg Tryd.underlying9 rfl (hval 1 9 v1 rfl rfl) es
  refine ((walk (w := W) (K := fun v w' => v = .bool true ∧ Upd Nothing W w') hM hxs hal hxw fun w' hu => ⟨rfl, hu⟩).back Tryd.func10 (by kernel_rfl) (by kernel_rfl)).mono fun e W' ⟨v, he, hv, hu⟩ => ?_
  subst he; subst hv
  exact ⟨_, rfl, law_post (tb := 4) laid (by kernel_rfl) hW' rfl rfl (by kernel_rfl) Tryd.underlying4 hu⟩

theorem row : Rows.ValueTextsSaid :=
  OpenClaim.holds_of_wide 10 Tryd.f10 rfl rfl rfl rfl rfl rfl rfl ⟨rfl, rfl, rfl, rfl, rfl⟩ rfl rfl rfl rfl rfl (by kernel_rfl) Tryd.func10 (by kernel_rfl)
    (of_decide_eq_true (by kernel_rfl)) (by unfold Func.isWrapper; first | (rw [if_pos (by decide +kernel)]; kernel_rfl) | (rw [if_neg (by decide +kernel)]; exact ⟨rfl, rfl⟩))
    (fun os started H enc _ => lifted os started H enc)

theorem over : Rows.ValueTextsCardSaid :=
  Claim7.holds_tied_plain_at .later [] [.data, .pinned] true (true, "44a05c6656fad0a98acfb041a4270392b8082a07142de41ef3bee6dd98f36de4") false
    row (fun _ h => by cases h) (by kernel_rfl) (fun _ h => by cases h) valueTexts_row_tie rfl ⟨rfl, rfl⟩ (by kernel_rfl) rfl
    (fun f fn hf hfn => by
      obtain rfl : f = 10 := Option.some.inj ((show Tryd.prog.funcNamed Rows.valueTextsRow.func = some 10 by kernel_rfl).symm.trans hf) |>.symm
      obtain rfl : fn = Tryd.f10 := (Option.some.inj (Tryd.func10.symm.trans hfn)).symm
      refine ⟨by kernel_rfl, fun j t ht => ?_⟩
      have hall : (Tryd.f10.params.toList.all fun t => !(Tryd.prog.wantsStandIn t)) = true := by kernel_rfl
      have hm : t ∈ Tryd.f10.params.toList := by rw [Array.mem_toList_iff]; exact Array.mem_of_getElem? ht
      exact (show Tryd.prog.wantsStandIn t = false by simpa using List.all_eq_true.1 hall t hm))
    (by kernel_rfl)

#print axioms over
end VTexts
end Go.Proofs.YtjcgociobhhijaaDoor
