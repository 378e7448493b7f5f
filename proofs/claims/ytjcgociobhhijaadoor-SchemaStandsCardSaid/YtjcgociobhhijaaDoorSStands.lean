/- Proved: 'affluxlaw03.SchemaStands' returns true for every input, and its arguments read behind the call as they did; the library's tables that the row lists hold what the program's text lays (the card ties them). -/
import Derived.Test.YtjcgociobhhijaaDoorST
import Derived.Test.YtjcgociobhhijaaDoorSA
import Derived.Test.YtjcgociobhhijaaDoorCards
import Derived.Test.YtjcgociobhhijaaDoorTie
set_option linter.unusedVariables false
set_option linter.unusedSimpArgs false
set_option maxRecDepth 100000
namespace Go.Proofs.YtjcgociobhhijaaDoor
open Go Go.Proofs.YtjcgociobhhijaaDoor.SX Go.ChangeShapes Go.WideShapes Go.ChangeAt Go.RowKit Va Sc
namespace SStands

theorem index_of (index : Int) {n : Nat} (h0 : 0 < n) (hn : n ≤ 8) : IntKind.u64.wrap (n : Int) ≠ 0 ∧ ∃ i : Nat, i < n ∧ IntKind.i64.wrap (Int.tmod (IntKind.u64.wrap index) (IntKind.u64.wrap (n : Int))) = (i : Int) := by
  have h1 : IntKind.u64.wrap (n : Int) = (n : Int) := by
    simp [IntKind.wrap, IntKind.signed, IntKind.bits]
    omega
  obtain ⟨u, hu⟩ : ∃ u : Nat, IntKind.u64.wrap index = (u : Int) := ⟨(index % 18446744073709551616).toNat, by simp [IntKind.wrap, IntKind.signed, IntKind.bits]; omega⟩
  rw [h1, hu]
  refine ⟨by omega, u % n, Nat.mod_lt _ h0, ?_⟩
  rw [Int.tmod_eq_emod_of_nonneg (Int.natCast_nonneg _), ← Int.natCast_emod]
  have := Nat.mod_lt u h0
  exact i64_wrap (by omega) (by omega)

theorem great_len {xs : List Val} (h : great xs = false) : xs.length ≤ 30 := by
  unfold great at h
  rw [Bool.or_eq_false_iff] at h
  have := of_decide_eq_false h.1
  omega

theorem walk {s : Schm} {v : Value} {ap bp : Option Addr} {an ac bn bc : Nat} {a b : List Val} {index : Int} {w : World} {K : Value → World → Prop} (hM : MX w) (hs : SchEx w s v)
    (ha : At w ap (vals a)) (hal : a.length = an) (haw' : ∀ x ∈ a, Va.Val.wf x) (hb : At w bp (vals b)) (hbl : b.length = bn) (hbw' : ∀ x ∈ b, Va.Val.wf x) (hK : ∀ w', Upd Nothing w w' → K (.bool true) w') :
    CallsV prog F.affluxlaw03_SchemaStands #[v, .slice ap an ac, .slice bp bn bc, .int .i64 index] w K := by
  have hs0 := hs
  obtain ⟨cp, cc, ip, ic, rfl, hcols, hcc, hixs, hic⟩ := hs
  refine R.affluxlaw03_SchemaStands ?_
  unfold C.affluxlaw03_SchemaStands
  have haw : ∀ w1, Upd Nothing w w1 → CallsV prog F.affluxlaw03_awake #[] w1 (fun v w2 => ∃ r : Bool, v = .bool r ∧ K (.bool r) w2) := fun w1 hu1 => Sc.awake_spec (hM.upd0 hu1) fun w2 hu2 => ⟨true, rfl, hK _ (hu1.then hu2)⟩
  refine New.use (by simp [Value.oneCell']) fun g w1 hb1 hu1 hge1 _ => ?_
  have hcells : ∀ w', Upd Nothing w1 w' → SX.cellsAt w' (Addr.mk g 0 none) 0 [.string s.name, .slice cp s.cols.length cc, .slice ip s.ixs.length ic, .int .i64 s.limit, .int .i64 s.parts, .int .i64 s.by_] := fun w' hu => six_cells (hu.blk hb1 fun f => f)
  have hix : ∀ w', Upd Nothing w1 w' → w'.cell? ((Addr.mk g 0 none).add 2) = some (.slice ip s.ixs.length ic) := fun w' hu => (hu.blk hb1 fun f => f).cell (i := 2) rfl
  refine ⟨fun w' => Upd Nothing w1 w' ∧ Small s ∧ a.length ≤ 30 ∧ b.length ≤ 30 ∧ s.Right ∧ FitsP s.cols a ∧ FitsP s.cols b ∧ 0 < s.ixs.length, ?_, ?_⟩
  · refine ⟨_, _, _, _, _, _, _, _, _, _, hcells w1 (Upd.refl _ _), great3_spec (s := s) (hs0.upd0 hu1) fun g1 w2 e1 hu2 => ⟨g1, rfl, ifB_mk (fun _ => haw w2 (hu1.then hu2)) (fun h1 => ?_)⟩⟩
    have hsm := e1 h1
    refine great_spec (ha.upd0 (hu1.then hu2)) hal fun w3 hu3 => ⟨_, rfl, ifB_mk (fun _ => haw w3 ((hu1.then hu2).then hu3)) (fun h2 => ?_)⟩
    have hu13 := hu2.then hu3
    refine great_spec (hb.upd0 (hu1.then hu13)) hbl fun w4 hu4 => ⟨_, rfl, ifB_mk (fun _ => haw w4 ((hu1.then hu13).then hu4)) (fun h3 => ?_)⟩
    have hu14 := hu13.then hu4
    have l1 := great_len h2
    have l2 := great_len h3
    refine ⟨_, _, _, _, _, _, _, _, _, _, hcells w4 hu14, Fits_spec (s := s) ((hs0.upd0 (hu1.then hu14)).at hsm) (ha.upd0 (hu1.then hu14)) hal (by omega) fun g5 w5 e5 hu5 => ⟨g5, rfl, ifB_mk (fun _ => haw w5 ((hu1.then hu14).then hu5)) (fun h5 => ?_)⟩⟩
    have hu15 := hu14.then hu5
    refine ⟨_, _, _, _, _, _, _, _, _, _, hcells w5 hu15, Fits_spec (s := s) ((hs0.upd0 (hu1.then hu15)).at hsm) (hb.upd0 (hu1.then hu15)) hbl (by omega) fun g6 w6 e6 hu6 => ⟨g6, rfl, ifB_mk (fun _ => haw w6 ((hu1.then hu15).then hu6)) (fun h6 => ?_)⟩⟩
    have hu16 := hu15.then hu6
    obtain ⟨r1, f1⟩ := e5.1 (by simpa using h5)
    obtain ⟨_, f2⟩ := e6.1 (by simpa using h6)
    refine ⟨_, _, _, hix w6 hu16, ifB_mk (fun _ => haw w6 (hu1.then hu16)) (fun h7 => ⟨hu16, hsm, l1, l2, r1, f1, f2, ?_⟩)⟩
    simp at h7
    rcases Nat.eq_zero_or_pos s.ixs.length with h | h
    · exact absurd (List.length_eq_zero_iff.1 h) h7
    · exact h
  rintro w2 ⟨hu2, hsm, l1, l2, hright, fa, fb, hpos⟩
  obtain ⟨hnz, i, hi, hidx⟩ := index_of index hpos hsm.2.1
  have hu02 := hu1.then hu2
  have hsm' : ∀ x ∈ s.ixs, x.cols.length ≤ 1000 := fun x hx => by have := hsm.2.2 x hx; omega
  have hga : ∀ x ∈ a, x.good := fun x hx => ⟨List.all_eq_true.1 fa.2.1 x hx, (haw' x hx).2.1⟩
  have hgb : ∀ x ∈ b, x.good := fun x hx => ⟨List.all_eq_true.1 fb.2.1 x hx, (hbw' x hx).2.1⟩
  refine ⟨_, _, _, hix w2 hu2, hnz, _, _, _, _, _, _, _, _, _, _, hcells w2 hu2, ?_⟩
  simp only [hidx, Int.toNat_natCast]
  have hin : InP s (i : Int) := ⟨by omega, by omega⟩
  refine schema_key_spec (s := s) (hM.upd0 hu02) ((hs0.upd0 hu02).at hsm) hsm' (ha.upd0 hu02) hal (by omega) (fun e w3 _ _ _ hn _ => absurd ⟨hright, hin, fa⟩ hn) (fun i1 hi1 w3 hie _ _ hu3 => ?_)
  obtain rfl : i = i1 := by omega
  have hu13 := hu2.then hu3
  have hu03 := hu1.then hu13
  refine ⟨_, _, rfl, _, _, _, _, _, _, _, _, _, _, hcells w3 hu13, ?_⟩
  refine schema_key_spec (s := s) (hM.upd0 hu03) ((hs0.upd0 hu03).at hsm) hsm' (hb.upd0 hu03) hbl (by omega) (fun e w4 _ _ _ hn _ => absurd ⟨hright, hin, fb⟩ hn) (fun i2 hi2 w4 hie2 _ _ hu4 => ?_)
  obtain rfl : i = i2 := by omega
  have hu14 := (hu13.then hu4).then (Upd.drew _ _)
  have hu04 := hu1.then hu14
  obtain ⟨aa, q1, n1, c1, hpa, hcl, hat1, hl1, hc1⟩ := (hixs.upd0 hu04) i hi
  have hsi := hsm.2.2 _ (List.getElem_mem hi)
  refine ⟨_, _, rfl, _, _, _, hix _ hu14, aa, hpa, by omega, by omega, _, _, _, hcl.1, _, _, _, hix _ hu14, aa, hpa, by omega, by omega, _, _, _, hcl.1, ?_⟩
  refine pick_spec (ha.upd0 hu04) hal (by omega) hat1 hl1 (by omega) fun p5 n5 c5 w5 hat5 hl5 hu5 => ⟨_, _, _, rfl, hu5.cell hcl.1 (fun f => f), hix _ (hu14.then hu5), ?_⟩
  have hu15 := hu14.then hu5
  have hu05 := hu1.then hu15
  refine pick_spec (hb.upd0 hu05) hbl (by omega) (hat1.upd0 hu5) hl1 (by omega) fun p6 n6 c6 w6 hat6 hl6 hu6 => ⟨_, _, _, rfl, ?_⟩
  have hu16 := hu15.then hu6
  have pl5 := pk_length a s.ixs[i].cols
  have pl6 := pk_length b s.ixs[i].cols
  refine rrows_spec (hat5.upd0 hu6) hl5 (by omega) hat6 hl6 fun w7 hu7 => ⟨_, rfl, ?_⟩
  have hu17 := hu16.then hu7
  have hu07 := hu1.then hu17
  refine ⟨fun way w' => Upd Nothing w1 w' ∧ way = if rowsCmp (pk a s.ixs[i].cols) (pk b s.ixs[i].cols) = 0 ∧ s.ixs[i].unique = false then rowsCmp (pk a (s.ixs[0]'(by omega)).cols) (pk b (s.ixs[0]'(by omega)).cols) else rowsCmp (pk a s.ixs[i].cols) (pk b s.ixs[i].cols), ?_, ?_⟩
  · refine ifB_mk (fun h => ?_) (fun h => ⟨hu17, ?_⟩)
    · have hr0 : rowsCmp (pk a s.ixs[i].cols) (pk b s.ixs[i].cols) = 0 := by simpa using h
      have hcl7 := ((hixs.upd0 hu07) i hi)
      obtain ⟨a7, q7, n7, c7, hpa7, hcl7, _, _, _⟩ := hcl7
      refine ⟨_, _, _, hix _ hu17, a7, hpa7, by omega, by omega, _, hcl7.2.1, ifB_mk (fun h8 => ?_) (fun h8 => ⟨hu17, ?_⟩)⟩
      · have hun : s.ixs[i].unique = false := by simpa using h8
        have hu17d := hu17.then (Upd.drew _ _)
        have hu07d := hu1.then hu17d
        obtain ⟨a0, q0, n0, c0, hpa0, hcl0, hat0, hl0, hc0⟩ := (hixs.upd0 hu07d) 0 hpos
        have hs0' := hsm.2.2 _ (List.getElem_mem hpos)
        refine ⟨_, _, _, hix _ hu17d, a0, hpa0, by omega, by omega, _, _, _, hcl0.1, _, _, _, hix _ hu17d, a0, hpa0, by omega, by omega, _, _, _, hcl0.1, ?_⟩
        refine pick_spec (ha.upd0 hu07d) hal (by omega) hat0 hl0 (by omega) fun p8 n8 c8 w8 hat8 hl8 hu8 => ⟨_, _, _, rfl, hu8.cell hcl0.1 (fun f => f), hix _ (hu17d.then hu8), ?_⟩
        have hu18 := hu17d.then hu8
        refine pick_spec (hb.upd0 (hu1.then hu18)) hbl (by omega) (hat0.upd0 hu8) hl0 (by omega) fun p9 n9 c9 w9 hat9 hl9 hu9 => ⟨_, _, _, rfl, ?_⟩
        have pl8 := pk_length a (s.ixs[0]'(by omega)).cols
        refine rrows_spec (hat8.upd0 hu9) hl8 (by omega) hat9 hl9 fun w10 hu10 => ⟨_, rfl, (hu18.then hu9).then hu10, ?_⟩
        rw [if_pos ⟨hr0, hun⟩]
      · have hun : s.ixs[i].unique = true := by simpa using h8
        rw [if_neg (fun h => by rw [hun] at h; cases h.2)]
    · have hr0 : rowsCmp (pk a s.ixs[i].cols) (pk b s.ixs[i].cols) ≠ 0 := by simpa using h
      rw [if_neg (fun h => hr0 h.1)]
  · rintro way w8 ⟨hu18, hway⟩
    obtain ⟨s1, s2⟩ := skey_stands hi hright fa fb hga hgb way hway
    rw [s1, s2]
    exact ifB_mk (fun _ => ifB_mk (fun _ => ifB_mk (fun _ => ifB_mk (fun _ => haw w8 (hu1.then hu18)) (fun h => by simp at h)) (fun h => by simp at h)) (fun h => by cases h)) (fun h => by cases h)
theorem own : ownKnob Tryd.prog.godebug = none := by kernel_rfl
theorem laid : laidOutB Tryd.prog = true := by kernel_rfl

theorem lifted (os : Os) (started : os.Started) (H : Type) (enc : TypeId × Value → H) :
    ReturnsInHanded {} Tryd.checked os 6 .any (fun w args => (Rows.schemaStandsSpec.pre enc Tryd.prog Tryd.f6 [] false w args ∧ laidMetH Tryd.prog laid2 w) ∧ sizedMet enc Tryd.prog Tryd.f6 (OpenSpec.ofChange Rows.schemaStandsSpec) false w args)
      (Rows.schemaStandsSpec.post enc Tryd.prog Tryd.f6 false true false false) := by
  refine returns_and_shaped (C := Tryd.checked) (X := fun w _ => laidMetH Tryd.prog laid2 w) (fun _ _ _ hh h => h.of_heap hh) own started (by kernel_rfl) Tryd.func6
    (ChangeSpec.witness_at (enc := enc) (C := Tryd.checked) (os := os) (X := fun w _ => laidMetH Tryd.prog laid2 w) false (laidWorld os) #[.agg #[.string ByteArray.empty, .slice none 0 0, .slice none 0 0, .int .i64 0, .int .i64 0, .int .i64 0], .slice none 0 0, .slice none 0 0, .int .i64 0] 8 rfl (by kernel_rfl) (by kernel_rfl) (by kernel_rfl) (by kernel_rfl) (by kernel_rfl) (laidWorld_met os _)) ?_
  intro W base args ds gs before hval0 hW hsh
  have hM : Va.MX W := maxlen_of_shaped hsh
  have hval : ∀ (j : Nat) t v, Tryd.f6.params[j]? = some t → args[j]? = some v → Value.okWide Tryd.prog W .any base t v := hval0
  have hW' := hW
  obtain ⟨p, q, hA0, hV, rfl, hfz, hnd⟩ := hW
  have hA : DataW.TrodAll enc Tryd.prog W 0 (fun _ => true) true Tryd.f6.params.toList args.toList ds p := hA0
  rw [Tryd.params6] at hA hval
  obtain ⟨v0, vs0, d0, ds0, p0, q0, hargs, rfl, rfl, h0, r0⟩ := trodAll_cons hA
  obtain ⟨v1, vs1, d1, ds1, p1, q1, rfl, rfl, rfl, h1, r1⟩ := trodAll_cons r0
  obtain ⟨v2, vs2, d2, ds2, p2, q2, rfl, rfl, rfl, h2, r2⟩ := trodAll_cons r1
  obtain ⟨v3, vs3, d3, ds3, p3, q3, rfl, rfl, rfl, h3, r3⟩ := trodAll_cons r2
  obtain ⟨rfl, rfl, rfl⟩ := trodAll_nil r3
  obtain rfl : args = #[v0, v1, v2, v3] := by cases args; simp_all
  obtain ⟨s, cps, ccs, ips, ics, ess, hcolss, hccs, hccms, hixss, hics, hicms, hsms⟩ := rd_sch (Rd.of_trod h0)
  have evs := arg_struct Tryd.underlying47 (hval 0 47 v0 rfl rfl) ess
  subst evs
  have hsxs : SchEx W s _ := ⟨cps, ccs, ips, ics, rfl, hcolss, hccs, hixss, hics⟩
  obtain ⟨ap, an, ac, xs, eap, hac, hacm, hxs, hal, hxw⟩ := rd_vals (Rd.of_trod h1)
  obtain rfl := Rd.arg Tryd.underlying22 rfl (hval 1 22 v1 rfl rfl) eap
  obtain ⟨bp, bn, bc, ys, ebp, hbc, hbcm, hys, hbl, hyw⟩ := rd_vals (Rd.of_trod h2)
  obtain rfl := Rd.arg Tryd.underlying22 rfl (hval 2 22 v2 rfl rfl) ebp
  obtain ⟨index, eindex, wfindex⟩ := (Rd.of_trod h3).int Tryd.underlying3
  obtain rfl := Rd.arg Tryd.underlying3 rfl (hval 3 3 v3 rfl rfl) eindex
  refine ((walk (w := W) (K := fun v w' => v = .bool true ∧ Upd Nothing W w') hM hsxs hxs hal hxw hys hbl hyw fun w' hu => ⟨rfl, hu⟩).back Tryd.func6 (by kernel_rfl) (by kernel_rfl)).mono fun e W' ⟨v, he, hv, hu⟩ => ?_
  subst he; subst hv
  exact ⟨_, rfl, law_post (tb := 4) laid (by kernel_rfl) hW' rfl rfl (by kernel_rfl) Tryd.underlying4 hu⟩

theorem row : Rows.SchemaStandsSaid :=
  OpenClaim.holds_of_wide 6 Tryd.f6 rfl rfl rfl rfl rfl rfl rfl ⟨rfl, rfl, rfl, rfl, rfl⟩ rfl rfl rfl rfl rfl (by kernel_rfl) Tryd.func6 (by kernel_rfl)
    (of_decide_eq_true (by kernel_rfl)) (by unfold Func.isWrapper; first | (rw [if_pos (by decide +kernel)]; kernel_rfl) | (rw [if_neg (by decide +kernel)]; exact ⟨rfl, rfl⟩))
    (fun os started H enc _ => lifted os started H enc)

theorem over : Rows.SchemaStandsCardSaid :=
  Claim7.holds_tied_plain_at .later [] [.data, .pinned] true (true, "44a05c6656fad0a98acfb041a4270392b8082a07142de41ef3bee6dd98f36de4") false
    row (fun _ h => by cases h) (by kernel_rfl) (fun _ h => by cases h) schemaStands_row_tie rfl ⟨rfl, rfl⟩ (by kernel_rfl) rfl
    (fun f fn hf hfn => by
      obtain rfl : f = 6 := Option.some.inj ((show Tryd.prog.funcNamed Rows.schemaStandsRow.func = some 6 by kernel_rfl).symm.trans hf) |>.symm
      obtain rfl : fn = Tryd.f6 := (Option.some.inj (Tryd.func6.symm.trans hfn)).symm
      refine ⟨by kernel_rfl, fun j t ht => ?_⟩
      have hall : (Tryd.f6.params.toList.all fun t => !(Tryd.prog.wantsStandIn t)) = true := by kernel_rfl
      have hm : t ∈ Tryd.f6.params.toList := by rw [Array.mem_toList_iff]; exact Array.mem_of_getElem? ht
      exact (show Tryd.prog.wantsStandIn t = false by simpa using List.all_eq_true.1 hall t hm))
    (by kernel_rfl)

#print axioms over
end SStands
end Go.Proofs.YtjcgociobhhijaaDoor
