/- Proved: 'affluxlaw03.SchemaPicks' returns true for every input, and its arguments read behind the call as they did; the library's tables that the row lists hold what the program's text lays (the card ties them). -/
import Derived.Test.YtjcgociobhhijaaDoorSL
import Derived.Test.YtjcgociobhhijaaDoorCards
import Derived.Test.YtjcgociobhhijaaDoorTie
set_option linter.unusedVariables false
set_option linter.unusedSimpArgs false
set_option maxRecDepth 100000
namespace Go.Proofs.YtjcgociobhhijaaDoor
open Go Go.Proofs.YtjcgociobhhijaaDoor.SX Go.ChangeShapes Go.WideShapes Go.ChangeAt Go.RowKit Va
namespace SPicks

theorem sint : SliceT prog T.s_int T.int 1 8 [.int .i64 0] := SliceT.of_tab (ti := ti40) (te := ti3) tabOK (by kernel_rfl) (by kernel_rfl) (by kernel_rfl) (by kernel_rfl)
theorem rd_ints {W : World} {cs : List Value} (h : Rd prog W T.s_int cs) : ∃ (p : Option Addr) (n c : Nat) (ys : List Int), cs = [.slice p n c] ∧ n ≤ c ∧ c ≤ maxLen ∧ At W p (ints ys) ∧ ys.length = n := by
  obtain ⟨p, n, c, rfl, hle, hc, hnil, hel⟩ := h.slice sint.desc
  have hs : prog.cellsOf T.int = 1 := by kernel_rfl
  have key : ∀ i, ∃ x : Int, i < n → ∃ a, p = some a ∧ W.cell? (a.add i) = some (.int .i64 x) := by
    intro i
    by_cases hi : i < n
    · obtain ⟨a, es, hp, hm, hr⟩ := hel i hi
      obtain ⟨x, rfl, _⟩ := hr.int Tryd.underlying3
      obtain ⟨_, hcell⟩ := cells_of_mapM (W := W) (f := fun j => (a.add (i * prog.cellsOf T.int)).add j) hm
      have := hcell 0 _ rfl
      rw [hs, Nat.mul_one] at this
      exact ⟨x, fun _ => ⟨a, hp, this⟩⟩
    · exact ⟨0, fun h => absurd h hi⟩
  let ys : List Int := (List.range n).map fun i => Classical.choose (key i)
  refine ⟨p, n, c, ys, rfl, hle, hc, ?_, by simp [ys]⟩
  intro j v hj
  have hjn : j < n := by have := (List.getElem?_eq_some_iff.1 hj).1; simpa [ys] using this
  have hv : v = .int .i64 (Classical.choose (key j)) := by
    simp [ints, ys, List.getElem?_range hjn] at hj
    exact hj.symm
  rw [hv]
  exact Classical.choose_spec (key j) hjn

theorem great_len {xs : List Val} (h : great xs = false) : xs.length ≤ 30 := by
  unfold great at h
  rw [Bool.or_eq_false_iff] at h
  have := of_decide_eq_false h.1
  omega

theorem walk {rp pp : Option Addr} {rn rc pn pc : Nat} {row : List Val} {ps : List Int} {w : World} {K : Value → World → Prop} (hM : MX w)
    (hr : At w rp (vals row)) (hrl : row.length = rn) (hps : At w pp (ints ps)) (hpl : ps.length = pn) (hK : ∀ w', Upd Nothing w w' → K (.bool true) w') :
    CallsV prog F.affluxlaw03_SchemaPicks #[.slice rp rn rc, .slice pp pn pc] w K :=
  R.affluxlaw03_SchemaPicks (by
    unfold C.affluxlaw03_SchemaPicks
    have haw : ∀ w1, Upd Nothing w w1 → CallsV prog F.affluxlaw03_awake #[] w1 (fun v w2 => ∃ r : Bool, v = .bool r ∧ K (.bool r) w2) := fun w1 hu1 => Sc.awake_spec (hM.upd0 hu1) fun w2 hu2 => ⟨true, rfl, hK _ (hu1.then hu2)⟩
    refine ⟨fun w' => Upd Nothing w w' ∧ row.length ≤ 30 ∧ pn ≤ 30, ?_, ?_⟩
    · refine great_spec hr hrl fun w1 hu1 => ⟨_, rfl, ifB_mk (fun _ => haw w1 hu1) (fun h1 => ifB_mk (fun _ => haw w1 hu1) (fun h2 => ⟨hu1, great_len h1, by have := of_decide_eq_false h2; omega⟩))⟩
    rintro w1 ⟨hu1, l1, l2⟩
    refine ⟨fun t i w' => ∃ k : Nat, i = k ∧ k ≤ pn ∧ Upd Nothing w w' ∧ t = Sc.pickB row (ps.take k), fun _ i _ => pn - i.toNat, ⟨0, rfl, by omega, hu1, rfl⟩, ?_⟩
    rintro t i w2 ⟨k, rfl, hk, hu2, rfl⟩
    have hstep : ∀ (hkn : k < pn), Sc.pickB row (ps.take (k + 1)) = (Sc.pickB row (ps.take k) && (decide (0 ≤ ps[k]) && decide (ps[k] ≤ (row.length : Int) - 1))) := fun hkn => by
      unfold Sc.pickB
      rw [List.take_succ_eq_append_getElem (by omega), List.all_append]
      simp
    have hnext : ∀ (hkn : k < pn) (t' : Bool), t' = Sc.pickB row (ps.take (k + 1)) →
        (∃ k' : Nat, IntKind.i64.wrap ((k : Int) + 1) = k' ∧ k' ≤ pn ∧ Upd Nothing w w2 ∧ t' = Sc.pickB row (ps.take k')) ∧ pn - (IntKind.i64.wrap ((k : Int) + 1)).toNat < pn - (k : Int).toNat := fun hkn t' ht => by
      rw [i64_wrap (by omega) (by omega)]
      exact ⟨⟨k + 1, by omega, by omega, hu2, ht⟩, by omega⟩
    refine ifB_mk (fun h => ?_) (fun h => ?_)
    · have hkn : k < pn := by have := of_decide_eq_true h; omega
      refine ifB_mk (fun h2 => ?_) (fun h2 => hnext hkn false (by rw [hstep hkn, h2, Bool.false_and]))
      obtain ⟨a, ha, hcl⟩ := (hps.upd0 hu2) k _ (ints_get (by omega))
      refine ⟨a, ha, by omega, by omega, ps[k], by simpa using hcl, ifB_mk (fun h3 => ⟨a, ha, by omega, by omega, ps[k], by simpa using hcl, hnext hkn _ ?_⟩) (fun h3 => hnext hkn false (by rw [hstep hkn, h3]; simp))⟩
      rw [hstep hkn, h2, h3, Bool.true_and, Bool.true_and, decide_eq_decide]
      omega
    · have hkn : k = pn := by have := of_decide_eq_false h; omega
      rw [List.take_of_length_le (by omega)]
      refine Sc.pick_spec (hr.upd0 hu2) hrl (by omega) (hps.upd0 hu2) hpl (by omega) fun p3 n3 c3 w3 hat3 hl3 hu3 => ⟨_, _, _, rfl, ifB_mk (fun h5 => ?_) (fun h5 => ?_)⟩
      · have e : Sc.pk row ps = [] := by unfold Sc.pk; rw [if_neg (by simpa using h5)]
        rw [e] at hl3
        refine ifB_mk (fun _ => haw w3 (hu2.then hu3)) (fun h6 => ?_)
        rw [← hl3] at h6
        simp at h6
      · have hin : Sc.pickB row ps = true := by simpa using h5
        have hu3' := hu2.then hu3
        refine Sc.rpick_spec (hr.upd0 hu3') hrl (by omega) (hps.upd0 hu3') hpl (by omega) hin fun p4 n4 c4 w4 hat4 hl4 hu4 => ⟨_, _, _, rfl, ?_⟩
        have hlen := Sc.pk_length row ps
        refine same_rows (hat3.upd0 hu4) hl3 (by omega) hat4 hl4 fun r w5 hrr hu5 => ⟨_, rfl, ?_⟩
        rw [hrr.2 rfl]
        exact ifB_mk (fun _ => haw w5 ((hu3'.then hu4).then hu5)) (fun h => by cases h))
theorem own : ownKnob Tryd.prog.godebug = none := by kernel_rfl
theorem laid : laidOutB Tryd.prog = true := by kernel_rfl

theorem lifted (os : Os) (started : os.Started) (H : Type) (enc : TypeId × Value → H) :
    ReturnsInHanded {} Tryd.checked os 5 .any (fun w args => (Rows.schemaPicksSpec.pre enc Tryd.prog Tryd.f5 [] false w args ∧ laidMetH Tryd.prog laid2 w) ∧ sizedMet enc Tryd.prog Tryd.f5 (OpenSpec.ofChange Rows.schemaPicksSpec) false w args)
      (Rows.schemaPicksSpec.post enc Tryd.prog Tryd.f5 false true false false) := by
  refine returns_and_shaped (C := Tryd.checked) (X := fun w _ => laidMetH Tryd.prog laid2 w) (fun _ _ _ hh h => h.of_heap hh) own started (by kernel_rfl) Tryd.func5
    (ChangeSpec.witness_at (enc := enc) (C := Tryd.checked) (os := os) (X := fun w _ => laidMetH Tryd.prog laid2 w) false (laidWorld os) #[.slice none 0 0, .slice none 0 0] 8 rfl (by kernel_rfl) (by kernel_rfl) (by kernel_rfl) (by kernel_rfl) (by kernel_rfl) (laidWorld_met os _)) ?_
  intro W base args ds gs before hval0 hW hsh
  have hM : Va.MX W := maxlen_of_shaped hsh
  have hval : ∀ (j : Nat) t v, Tryd.f5.params[j]? = some t → args[j]? = some v → Value.okWide Tryd.prog W .any base t v := hval0
  have hW' := hW
  obtain ⟨p, q, hA0, hV, rfl, hfz, hnd⟩ := hW
  have hA : DataW.TrodAll enc Tryd.prog W 0 (fun _ => true) true Tryd.f5.params.toList args.toList ds p := hA0
  rw [Tryd.params5] at hA hval
  obtain ⟨v0, vs0, d0, ds0, p0, q0, hargs, rfl, rfl, h0, r0⟩ := trodAll_cons hA
  obtain ⟨v1, vs1, d1, ds1, p1, q1, rfl, rfl, rfl, h1, r1⟩ := trodAll_cons r0
  obtain ⟨rfl, rfl, rfl⟩ := trodAll_nil r1
  obtain rfl : args = #[v0, v1] := by cases args; simp_all
  obtain ⟨rp, rn, rc, row, erp, hac, hacm, hxs, hal, hxw⟩ := rd_vals (Rd.of_trod h0)
  obtain rfl := Rd.arg Tryd.underlying22 rfl (hval 0 22 v0 rfl rfl) erp
  obtain ⟨pp, pn, pc, ps, epp, hpc, hpcm, hys, hyl⟩ := rd_ints (Rd.of_trod h1)
  obtain rfl := Rd.arg Tryd.underlying40 rfl (hval 1 40 v1 rfl rfl) epp
  refine ((walk (w := W) (K := fun v w' => v = .bool true ∧ Upd Nothing W w') hM hxs hal hys hyl fun w' hu => ⟨rfl, hu⟩).back Tryd.func5 (by kernel_rfl) (by kernel_rfl)).mono fun e W' ⟨v, he, hv, hu⟩ => ?_
  subst he; subst hv
  exact ⟨_, rfl, law_post (tb := 4) laid (by kernel_rfl) hW' rfl rfl (by kernel_rfl) Tryd.underlying4 hu⟩

theorem row : Rows.SchemaPicksSaid :=
  OpenClaim.holds_of_wide 5 Tryd.f5 rfl rfl rfl rfl rfl rfl rfl ⟨rfl, rfl, rfl, rfl, rfl⟩ rfl rfl rfl rfl rfl (by kernel_rfl) Tryd.func5 (by kernel_rfl)
    (of_decide_eq_true (by kernel_rfl)) (by unfold Func.isWrapper; first | (rw [if_pos (by decide +kernel)]; kernel_rfl) | (rw [if_neg (by decide +kernel)]; exact ⟨rfl, rfl⟩))
    (fun os started H enc _ => lifted os started H enc)

theorem over : Rows.SchemaPicksCardSaid :=
  Claim7.holds_tied_plain_at .later [] [.data, .pinned] true (true, "44a05c6656fad0a98acfb041a4270392b8082a07142de41ef3bee6dd98f36de4") false
    row (fun _ h => by cases h) (by kernel_rfl) (fun _ h => by cases h) schemaPicks_row_tie rfl ⟨rfl, rfl⟩ (by kernel_rfl) rfl
    (fun f fn hf hfn => by
      obtain rfl : f = 5 := Option.some.inj ((show Tryd.prog.funcNamed Rows.schemaPicksRow.func = some 5 by kernel_rfl).symm.trans hf) |>.symm
      obtain rfl : fn = Tryd.f5 := (Option.some.inj (Tryd.func5.symm.trans hfn)).symm
      refine ⟨by kernel_rfl, fun j t ht => ?_⟩
      have hall : (Tryd.f5.params.toList.all fun t => !(Tryd.prog.wantsStandIn t)) = true := by kernel_rfl
      have hm : t ∈ Tryd.f5.params.toList := by rw [Array.mem_toList_iff]; exact Array.mem_of_getElem? ht
      exact (show Tryd.prog.wantsStandIn t = false by simpa using List.all_eq_true.1 hall t hm))
    (by kernel_rfl)

#print axioms over
end SPicks
end Go.Proofs.YtjcgociobhhijaaDoor
