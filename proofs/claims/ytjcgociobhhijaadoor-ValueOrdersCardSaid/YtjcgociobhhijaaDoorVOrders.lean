/- Proved: 'affluxlaw02.ValueOrders' returns true for every input, and its arguments read behind the call as they did; the library's tables that the row lists hold what the program's text lays (the card ties them). -/
import Derived.Test.YtjcgociobhhijaaDoorVL
import Derived.Test.YtjcgociobhhijaaDoorCards
import Derived.Test.YtjcgociobhhijaaDoorTie
set_option linter.unusedVariables false
set_option linter.unusedSimpArgs false
set_option maxRecDepth 100000
namespace Go.Proofs.YtjcgociobhhijaaDoor
open Go Go.Proofs.YtjcgociobhhijaaDoor.SX Go.ChangeShapes Go.WideShapes Go.ChangeAt Go.RowKit Va
namespace VOrders

theorem great_not {xs : List Val} (h : great xs = false) : xs.length ≤ 30 ∧ ∀ x ∈ xs, x.s.size ≤ 300 := by
  unfold great at h
  rw [Bool.or_eq_false_iff, List.any_eq_false] at h
  exact ⟨by have := h.1; simp at this; omega, fun x hx => by have := h.2 x hx; simp at this; omega⟩

theorem walk {ap bp : Option Addr} {an ac bn bc : Nat} {xs ys : List Val} {n : Int} {s : ByteArray} {t : Bool} {w : World} {K : Value → World → Prop} (hM : MX w)
    (ha : At w ap (vals xs)) (hal : xs.length = an) (hb : At w bp (vals ys)) (hbl : ys.length = bn) (hK : ∀ w', Upd Nothing w w' → K (.bool true) w') :
    CallsV prog F.affluxlaw02_ValueOrders #[.slice ap an ac, .slice bp bn bc, .int .i64 n, .string s, .bool t] w K :=
  R.affluxlaw02_ValueOrders (by
    unfold C.affluxlaw02_ValueOrders
    have haw : ∀ w1, Upd Nothing w w1 → CallsV prog F.affluxlaw02_awake #[] w1 (fun v w2 => ∃ r : Bool, v = .bool r ∧ K (.bool r) w2) := fun w1 hu1 => awake_spec (hM.upd0 hu1) fun w2 hu2 => ⟨true, rfl, hK _ (hu1.then hu2)⟩
    refine ⟨fun w' => Upd Nothing w w' ∧ great xs = false ∧ great ys = false, ?_, ?_⟩
    · refine great_spec ha hal fun w1 hu1 => ⟨_, rfl, ifB_mk (fun _ => haw w1 hu1) (fun h1 => ?_)⟩
      refine great_spec (hb.upd0 hu1) hbl fun w2 hu2 => ⟨_, rfl, ifB_mk (fun _ => haw w2 (hu1.then hu2)) (fun h2 => ?_)⟩
      exact ifB_mk (fun _ => haw w2 (hu1.then hu2)) (fun _ => ⟨hu1.then hu2, h1, h2⟩)
    rintro w1 ⟨hu1, hg1, hg2⟩
    obtain ⟨hl1, _⟩ := great_not hg1
    obtain ⟨hl2, _⟩ := great_not hg2
    refine ⟨fun w' => Upd Nothing w w', ?_, ?_⟩
    · refine ⟨fun i w' => ∃ k : Nat, i = k ∧ k ≤ an ∧ Upd Nothing w w', fun i _ => an - i.toNat, ⟨0, rfl, by omega, hu1⟩, ?_⟩
      rintro i w2 ⟨k, rfl, hk, hu2⟩
      refine ifB_mk (fun h => ifB_mk (fun h' => ?_) (fun _ => hu2)) (fun _ => hu2)
      have hkn : k < an := by simpa using h
      have hkm : k < bn := by simpa using h'
      have hu2' := hu2.then (Upd.drew _ _)
      obtain ⟨a, hpa, hca⟩ := (ha.upd0 hu2').val (i := k) (by omega)
      obtain ⟨b, hpb, hcb⟩ := (hb.upd0 hu2').val (i := k) (by omega)
      refine ⟨a, hpa, by omega, by omega, _, _, _, hca, b, hpb, by omega, by omega, _, _, _, hcb, a, hpa, by omega, by omega, _, _, _, hca, b, hpb, by omega, by omega, _, _, _, hcb, ?_⟩
      show CallsV prog F.value_Cmp #[xs[k].val, ys[k].val] w2.drew _
      refine cmp_spec fun w3 hu3 => ⟨_, rfl, ?_⟩
      obtain ⟨a', hpa', hca'⟩ := (ha.upd0 (hu2'.then hu3)).val (i := k) (by omega)
      obtain ⟨b', hpb', hcb'⟩ := (hb.upd0 (hu2'.then hu3)).val (i := k) (by omega)
      rw [hpa] at hpa'; injection hpa' with hpa'; subst hpa'
      rw [hpb] at hpb'; injection hpb' with hpb'; subst hpb'
      refine ⟨hcb', hca', ?_⟩
      show CallsV prog F.affluxref02_Cmp #[xs[k].val, ys[k].val] w3 _
      refine rcmp_spec fun w4 hu4 => ⟨_, rfl, ifB_mk (fun h => by simp at h) (fun _ => ?_)⟩
      rw [i64_wrap (by omega) (by omega)]
      exact ⟨⟨k + 1, by omega, by omega, (hu2'.then hu3).then hu4⟩, by show an - _ < an - _; omega⟩
    intro w2 hu2
    refine ⟨fun x w' => x = (if t = true then 1 else 0) ∧ Upd Nothing w w', ifB_mk (fun h => ⟨by rw [if_pos h], hu2⟩) (fun h => ⟨by rw [if_neg (by simp [h])], hu2⟩), ?_⟩
    rintro x w3 ⟨rfl, hu3⟩
    refine right_spec (ha.upd0 hu3) hal (by omega) fun w4 hu4 => ⟨_, rfl, ?_⟩
    have hu4' := hu3.then hu4
    refine all_spec (ha.upd0 hu4') hal (by omega) fun w5 hu5 => ⟨_, rfl, ifB_mk (fun _ => ?_) (fun h => by simp at h)⟩
    have hu5' := hu4'.then hu5
    refine rows_spec (ha.upd0 hu5') hal (by omega) (hb.upd0 hu5') hbl fun w6 hu6 => ⟨_, rfl, ?_⟩
    have hu6' := hu5'.then hu6
    refine rrows_spec (ha.upd0 hu6') hal (by omega) (hb.upd0 hu6') hbl fun w7 hu7 => ⟨_, rfl, ifB_mk (fun _ => ?_) (fun h => by simp at h)⟩
    have hu7' := hu6'.then hu7
    refine int_spec fun w8 hu8 => ⟨_, _, _, rfl, ifB_mk (fun _ => ?_) (fun h => by simp [bs_nil, sEq_self] at h)⟩
    refine text_spec fun w9 hu9 => ⟨_, _, _, rfl, ifB_mk (fun _ => ?_) (fun h => by simp [sEq_self] at h)⟩
    refine bool_spec fun w10 hu10 => ⟨_, _, _, rfl, ifB_mk (fun _ => ?_) (fun h => by simp [bs_nil, sEq_self] at h)⟩
    exact haw w10 (((hu7'.then hu8).then hu9).then hu10))
theorem own : ownKnob Tryd.prog.godebug = none := by kernel_rfl
theorem laid : laidOutB Tryd.prog = true := by kernel_rfl

theorem lifted (os : Os) (started : os.Started) (H : Type) (enc : TypeId × Value → H) :
    ReturnsInHanded {} Tryd.checked os 3 .any (fun w args => (Rows.valueOrdersSpec.pre enc Tryd.prog Tryd.f3 [] false w args ∧ laidMetH Tryd.prog laid2 w) ∧ sizedMet enc Tryd.prog Tryd.f3 (OpenSpec.ofChange Rows.valueOrdersSpec) false w args)
      (Rows.valueOrdersSpec.post enc Tryd.prog Tryd.f3 false true false false) := by
  refine returns_and_shaped (C := Tryd.checked) (X := fun w _ => laidMetH Tryd.prog laid2 w) (fun _ _ _ hh h => h.of_heap hh) own started (by kernel_rfl) Tryd.func3
    (ChangeSpec.witness_at (enc := enc) (C := Tryd.checked) (os := os) (X := fun w _ => laidMetH Tryd.prog laid2 w) false (laidWorld os) #[.slice none 0 0, .slice none 0 0, .int .i64 0, .string ByteArray.empty, .bool false] 8 rfl (by kernel_rfl) (by kernel_rfl) (by kernel_rfl) (by kernel_rfl) (by kernel_rfl) (laidWorld_met os _)) ?_
  intro W base args ds gs before hval0 hW hsh
  have hM : Va.MX W := maxlen_of_shaped hsh
  have hval : ∀ (j : Nat) t v, Tryd.f3.params[j]? = some t → args[j]? = some v → Value.okWide Tryd.prog W .any base t v := hval0
  have hW' := hW
  obtain ⟨p, q, hA0, hV, rfl, hfz, hnd⟩ := hW
  have hA : DataW.TrodAll enc Tryd.prog W 0 (fun _ => true) true Tryd.f3.params.toList args.toList ds p := hA0
  rw [Tryd.params3] at hA hval
  obtain ⟨v0, vs0, d0, ds0, p0, q0, hargs, rfl, rfl, h0, r0⟩ := trodAll_cons hA
  obtain ⟨v1, vs1, d1, ds1, p1, q1, rfl, rfl, rfl, h1, r1⟩ := trodAll_cons r0
  obtain ⟨v2, vs2, d2, ds2, p2, q2, rfl, rfl, rfl, h2, r2⟩ := trodAll_cons r1
  obtain ⟨v3, vs3, d3, ds3, p3, q3, rfl, rfl, rfl, h3, r3⟩ := trodAll_cons r2
  obtain ⟨v4, vs4, d4, ds4, p4, q4, rfl, rfl, rfl, h4, r4⟩ := trodAll_cons r3
  obtain ⟨rfl, rfl, rfl⟩ := trodAll_nil r4
  obtain rfl : args = #[v0, v1, v2, v3, v4] := by cases args; simp_all
  obtain ⟨ap, an, ac, xs, eap, hac, hacm, hxs, hal, hxw⟩ := rd_vals (Rd.of_trod h0)
  obtain rfl := Rd.arg Tryd.underlying22 rfl (hval 0 22 v0 rfl rfl) eap
  obtain ⟨bp, bn, bc, ys, ebp, hbc, hbcm, hys, hbl, hyw⟩ := rd_vals (Rd.of_trod h1)
  obtain rfl := Rd.arg Tryd.underlying22 rfl (hval 1 22 v1 rfl rfl) ebp
  obtain ⟨n, en, wfn⟩ := (Rd.of_trod h2).int Tryd.underlying2
  obtain rfl := Rd.arg Tryd.underlying2 rfl (hval 2 2 v2 rfl rfl) en
  obtain ⟨s, es, wfs⟩ := (Rd.of_trod h3).str Tryd.underlying9
  obtain rfl := Rd.arg Tryd.underlying9 rfl (hval 3 9 v3 rfl rfl) es
  obtain ⟨t, et⟩ := (Rd.of_trod h4).bool Tryd.underlying4
  obtain rfl := Rd.arg Tryd.underlying4 rfl (hval 4 4 v4 rfl rfl) et
  refine ((walk (w := W) (K := fun v w' => v = .bool true ∧ Upd Nothing W w') hM hxs hal hys hbl fun w' hu => ⟨rfl, hu⟩).back Tryd.func3 (by kernel_rfl) (by kernel_rfl)).mono fun e W' ⟨v, he, hv, hu⟩ => ?_
  subst he; subst hv
  exact ⟨_, rfl, law_post (tb := 4) laid (by kernel_rfl) hW' rfl rfl (by kernel_rfl) Tryd.underlying4 hu⟩

theorem row : Rows.ValueOrdersSaid :=
  OpenClaim.holds_of_wide 3 Tryd.f3 rfl rfl rfl rfl rfl rfl rfl ⟨rfl, rfl, rfl, rfl, rfl⟩ rfl rfl rfl rfl rfl (by kernel_rfl) Tryd.func3 (by kernel_rfl)
    (of_decide_eq_true (by kernel_rfl)) (by unfold Func.isWrapper; first | (rw [if_pos (by decide +kernel)]; kernel_rfl) | (rw [if_neg (by decide +kernel)]; exact ⟨rfl, rfl⟩))
    (fun os started H enc _ => lifted os started H enc)

theorem over : Rows.ValueOrdersCardSaid :=
  Claim7.holds_tied_plain_at .later [] [.data, .pinned] true (true, "44a05c6656fad0a98acfb041a4270392b8082a07142de41ef3bee6dd98f36de4") false
    row (fun _ h => by cases h) (by kernel_rfl) (fun _ h => by cases h) valueOrders_row_tie rfl ⟨rfl, rfl⟩ (by kernel_rfl) rfl
    (fun f fn hf hfn => by
      obtain rfl : f = 3 := Option.some.inj ((show Tryd.prog.funcNamed Rows.valueOrdersRow.func = some 3 by kernel_rfl).symm.trans hf) |>.symm
      obtain rfl : fn = Tryd.f3 := (Option.some.inj (Tryd.func3.symm.trans hfn)).symm
      refine ⟨by kernel_rfl, fun j t ht => ?_⟩
      have hall : (Tryd.f3.params.toList.all fun t => !(Tryd.prog.wantsStandIn t)) = true := by kernel_rfl
      have hm : t ∈ Tryd.f3.params.toList := by rw [Array.mem_toList_iff]; exact Array.mem_of_getElem? ht
      exact (show Tryd.prog.wantsStandIn t = false by simpa using List.all_eq_true.1 hall t hm))
    (by kernel_rfl)

#print axioms over
end VOrders
end Go.Proofs.YtjcgociobhhijaaDoor
