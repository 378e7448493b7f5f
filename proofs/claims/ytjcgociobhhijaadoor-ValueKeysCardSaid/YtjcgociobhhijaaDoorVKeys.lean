/- Proved: 'affluxlaw02.ValueKeys' returns true for every input, and its arguments read behind the call as they did; the library's tables that the row lists hold what the program's text lays (the card ties them). -/
import Derived.Test.YtjcgociobhhijaaDoorVY
import Derived.Test.YtjcgociobhhijaaDoorCards
import Derived.Test.YtjcgociobhhijaaDoorTie
set_option linter.unusedVariables false
set_option linter.unusedSimpArgs false
set_option maxRecDepth 100000
namespace Go.Proofs.YtjcgociobhhijaaDoor
open Go Go.Proofs.YtjcgociobhhijaaDoor.SX Go.ChangeShapes Go.WideShapes Go.ChangeAt Go.RowKit Va
namespace VKeys

theorem walk {lp : Option Addr} {ln lc : Nat} {xs : List Val} {s : ByteArray} {w : World} {K : Value → World → Prop} (hM : MX w) (ha : At w lp (vals xs)) (hal : xs.length = ln) (hK : ∀ w', Upd Nothing w w' → K (.bool true) w') :
    CallsV prog F.affluxlaw02_ValueKeys #[.slice lp ln lc, .string s] w K :=
  R.affluxlaw02_ValueKeys (by
    unfold C.affluxlaw02_ValueKeys
    have haw : ∀ w1, Upd Nothing w w1 → CallsV prog F.affluxlaw02_awake #[] w1 (fun v w2 => ∃ r : Bool, v = .bool r ∧ K (.bool r) w2) := fun w1 hu1 => awake_spec (hM.upd0 hu1) fun w2 hu2 => ⟨true, rfl, hK _ (hu1.then hu2)⟩
    refine ⟨fun w' => Upd Nothing w w' ∧ xs.length ≤ 30 ∧ s.size ≤ 2000, ?_, ?_⟩
    · refine great_spec ha hal fun w1 hu1 => ⟨_, rfl, ifB_mk (fun _ => haw w1 hu1) (fun h1 => ifB_mk (fun _ => haw w1 hu1) (fun h2 => ⟨hu1, ?_, ?_⟩))⟩
      · unfold great at h1
        rw [Bool.or_eq_false_iff] at h1
        have := of_decide_eq_false h1.1
        omega
      · have := of_decide_eq_false h2
        omega
    rintro w1 ⟨hu1, hl, hs⟩
    refine ⟨fun want w' => want = keyText xs ∧ Upd Nothing w w', ?_, ?_⟩
    · refine all_spec (ha.upd0 hu1) hal (by omega) fun w2 hu2 => ⟨_, rfl, ifB_mk (fun h => ?_) (fun h => ⟨?_, hu1.then hu2⟩)⟩
      · refine rkeys_spec (ha.upd0 (hu1.then hu2)) hal (by omega) h fun w3 hu3 => ⟨_, rfl, ?_, (hu1.then hu2).then hu3⟩
        unfold keyText
        rw [if_pos h]
      · unfold keyText
        rw [if_neg (by rw [h]; decide)]
        rfl
    rintro want w2 ⟨rfl, hu2⟩
    refine unkey_spec (by omega) fun p1 n1 c1 ok1 r1 w3 hk1 hat1 hl1 hn1 hu3 => ⟨_, _, _, _, rfl, ?_⟩
    refine runkey_spec (by omega) fun p2 n2 c2 ok2 r2 w4 hk2 hat2 hl2 hn2 hu4 => ⟨_, _, _, _, rfl, ?_⟩
    have hu24 := (hu2.then hu3).then hu4
    refine key_spec (hM.upd0 hu24) (ha.upd0 hu24) hal (by omega) fun w5 hu5 => ⟨_, rfl, ifB_mk (fun _ => ?_) (fun h => by rw [sEq_self] at h; cases h)⟩
    obtain ⟨e1, e2⟩ := hk1.unique hk2
    subst e1; subst e2
    refine same_rows ((hat1.upd0 hu4).upd0 hu5) hl1 (by omega) (hat2.upd0 hu5) hl2 fun r w6 hr hu6 => ⟨_, rfl, ?_⟩
    rw [hr.2 rfl]
    exact ifB_mk (fun _ => ifB_mk (fun _ => haw w6 ((hu24.then hu5).then hu6)) (fun h => by simp at h)) (fun h => by cases h))
theorem own : ownKnob Tryd.prog.godebug = none := by kernel_rfl
theorem laid : laidOutB Tryd.prog = true := by kernel_rfl

theorem lifted (os : Os) (started : os.Started) (H : Type) (enc : TypeId × Value → H) :
    ReturnsInHanded {} Tryd.checked os 4 .any (fun w args => (Rows.valueKeysSpec.pre enc Tryd.prog Tryd.f4 [] false w args ∧ laidMetH Tryd.prog laid2 w) ∧ sizedMet enc Tryd.prog Tryd.f4 (OpenSpec.ofChange Rows.valueKeysSpec) false w args)
      (Rows.valueKeysSpec.post enc Tryd.prog Tryd.f4 false true false false) := by
  refine returns_and_shaped (C := Tryd.checked) (X := fun w _ => laidMetH Tryd.prog laid2 w) (fun _ _ _ hh h => h.of_heap hh) own started (by kernel_rfl) Tryd.func4
    (ChangeSpec.witness_at (enc := enc) (C := Tryd.checked) (os := os) (X := fun w _ => laidMetH Tryd.prog laid2 w) false (laidWorld os) #[.slice none 0 0, .string ByteArray.empty] 8 rfl (by kernel_rfl) (by kernel_rfl) (by kernel_rfl) (by kernel_rfl) (by kernel_rfl) (laidWorld_met os _)) ?_
  intro W base args ds gs before hval0 hW hsh
  have hM : Va.MX W := maxlen_of_shaped hsh
  have hval : ∀ (j : Nat) t v, Tryd.f4.params[j]? = some t → args[j]? = some v → Value.okWide Tryd.prog W .any base t v := hval0
  have hW' := hW
  obtain ⟨p, q, hA0, hV, rfl, hfz, hnd⟩ := hW
  have hA : DataW.TrodAll enc Tryd.prog W 0 (fun _ => true) true Tryd.f4.params.toList args.toList ds p := hA0
  rw [Tryd.params4] at hA hval
  obtain ⟨v0, vs0, d0, ds0, p0, q0, hargs, rfl, rfl, h0, r0⟩ := trodAll_cons hA
  obtain ⟨v1, vs1, d1, ds1, p1, q1, rfl, rfl, rfl, h1, r1⟩ := trodAll_cons r0
  obtain ⟨rfl, rfl, rfl⟩ := trodAll_nil r1
  obtain rfl : args = #[v0, v1] := by cases args; simp_all
  obtain ⟨lp, ln, lc, xs, elp, hac, hacm, hxs, hal, hxw⟩ := rd_vals (Rd.of_trod h0)
  obtain rfl := Rd.arg Tryd.underlying22 rfl (hval 0 22 v0 rfl rfl) elp
  obtain ⟨s, es, wfs⟩ := (Rd.of_trod h1).str Tryd.underlying9
  obtain rfl := Rd.arg Tryd.underlying9 rfl (hval 1 9 v1 rfl rfl) es
  refine ((walk (w := W) (K := fun v w' => v = .bool true ∧ Upd Nothing W w') hM hxs hal fun w' hu => ⟨rfl, hu⟩).back Tryd.func4 (by kernel_rfl) (by kernel_rfl)).mono fun e W' ⟨v, he, hv, hu⟩ => ?_
  subst he; subst hv
  exact ⟨_, rfl, law_post (tb := 4) laid (by kernel_rfl) hW' rfl rfl (by kernel_rfl) Tryd.underlying4 hu⟩

theorem row : Rows.ValueKeysSaid :=
  OpenClaim.holds_of_wide 4 Tryd.f4 rfl rfl rfl rfl rfl rfl rfl ⟨rfl, rfl, rfl, rfl, rfl⟩ rfl rfl rfl rfl rfl (by kernel_rfl) Tryd.func4 (by kernel_rfl)
    (of_decide_eq_true (by kernel_rfl)) (by unfold Func.isWrapper; first | (rw [if_pos (by decide +kernel)]; kernel_rfl) | (rw [if_neg (by decide +kernel)]; exact ⟨rfl, rfl⟩))
    (fun os started H enc _ => lifted os started H enc)

theorem over : Rows.ValueKeysCardSaid :=
  Claim7.holds_tied_plain_at .later [] [.data, .pinned] true (true, "44a05c6656fad0a98acfb041a4270392b8082a07142de41ef3bee6dd98f36de4") false
    row (fun _ h => by cases h) (by kernel_rfl) (fun _ h => by cases h) valueKeys_row_tie rfl ⟨rfl, rfl⟩ (by kernel_rfl) rfl
    (fun f fn hf hfn => by
      obtain rfl : f = 4 := Option.some.inj ((show Tryd.prog.funcNamed Rows.valueKeysRow.func = some 4 by kernel_rfl).symm.trans hf) |>.symm
      obtain rfl : fn = Tryd.f4 := (Option.some.inj (Tryd.func4.symm.trans hfn)).symm
      refine ⟨by kernel_rfl, fun j t ht => ?_⟩
      have hall : (Tryd.f4.params.toList.all fun t => !(Tryd.prog.wantsStandIn t)) = true := by kernel_rfl
      have hm : t ∈ Tryd.f4.params.toList := by rw [Array.mem_toList_iff]; exact Array.mem_of_getElem? ht
      exact (show Tryd.prog.wantsStandIn t = false by simpa using List.all_eq_true.1 hall t hm))
    (by kernel_rfl)

#print axioms over
end VKeys
end Go.Proofs.YtjcgociobhhijaaDoor
