/- Proved: 'affluxlaw02.ValueStands' returns true for every input, and its arguments read behind the call as they did; the library's tables that the row lists hold what the program's text lays (the card ties them). -/
import Derived.Test.YtjcgociobhhijaaDoorVY
import Derived.Test.YtjcgociobhhijaaDoorVT
import Derived.Test.YtjcgociobhhijaaDoorCards
import Derived.Test.YtjcgociobhhijaaDoorTie
set_option linter.unusedVariables false
set_option linter.unusedSimpArgs false
set_option maxRecDepth 100000
namespace Go.Proofs.YtjcgociobhhijaaDoor
open Go Go.Proofs.YtjcgociobhhijaaDoor.SX Go.ChangeShapes Go.WideShapes Go.ChangeAt Go.RowKit Va
namespace VStands

theorem great_len {xs : List Val} (h : great xs = false) : xs.length ≤ 30 := by
  unfold great at h
  rw [Bool.or_eq_false_iff] at h
  have := of_decide_eq_false h.1
  omega

theorem walk {ap bp : Option Addr} {an ac bn bc : Nat} {xs ys : List Val} {w : World} {K : Value → World → Prop} (hM : MX w)
    (ha : At w ap (vals xs)) (hal : xs.length = an) (hxw : ∀ x ∈ xs, Va.Val.wf x) (hb : At w bp (vals ys)) (hbl : ys.length = bn) (hbc : bn ≤ bc) (hyw : ∀ x ∈ ys, Va.Val.wf x) (hK : ∀ w', Upd Nothing w w' → K (.bool true) w') :
    CallsV prog F.affluxlaw02_ValueStands #[.slice ap an ac, .slice bp bn bc] w K :=
  R.affluxlaw02_ValueStands (by
    unfold C.affluxlaw02_ValueStands
    have haw : ∀ w1, Upd Nothing w w1 → CallsV prog F.affluxlaw02_awake #[] w1 (fun v w2 => ∃ r : Bool, v = .bool r ∧ K (.bool r) w2) := fun w1 hu1 => awake_spec (hM.upd0 hu1) fun w2 hu2 => ⟨true, rfl, hK _ (hu1.then hu2)⟩
    refine ⟨fun w' => Upd Nothing w w' ∧ xs.length ≤ 30 ∧ ys.length ≤ 30 ∧ xs.all Val.right = true ∧ ys.all Val.right = true, ?_, ?_⟩
    · refine great_spec ha hal fun w1 hu1 => ⟨_, rfl, ifB_mk (fun _ => haw w1 hu1) (fun h1 => ?_)⟩
      refine great_spec (hb.upd0 hu1) hbl fun w2 hu2 => ⟨_, rfl, ifB_mk (fun _ => haw w2 (hu1.then hu2)) (fun h2 => ?_)⟩
      have l1 := great_len h1
      have l2 := great_len h2
      have hu12 := hu1.then hu2
      refine all_spec (ha.upd0 hu12) hal (by omega) fun w3 hu3 => ⟨_, rfl, ifB_mk (fun _ => haw w3 (hu12.then hu3)) (fun h3 => ?_)⟩
      have hu13 := hu12.then hu3
      refine all_spec (hb.upd0 hu13) hbl (by omega) fun w4 hu4 => ⟨_, rfl, ifB_mk (fun _ => haw w4 (hu13.then hu4)) (fun h4 => ?_)⟩
      exact ⟨hu13.then hu4, l1, l2, by simpa using h3, by simpa using h4⟩
    rintro w1 ⟨hu1, l1, l2, hra, hrb⟩
    have hga : ∀ x ∈ xs, x.good := fun x hx => ⟨List.all_eq_true.1 hra x hx, (hxw x hx).2.1⟩
    have hgb : ∀ y ∈ ys, y.good := fun y hy => ⟨List.all_eq_true.1 hrb y hy, (hyw y hy).2.1⟩
    have hX : keyText xs = tx (vkeys xs) := by unfold keyText; rw [if_pos hra]
    have hY : keyText ys = tx (vkeys ys) := by unfold keyText; rw [if_pos hrb]
    have hlx := vkeys_length (B := 200) xs fun x hx => right_size (List.all_eq_true.1 hra x hx)
    have hlx' : (vkeys xs).length ≤ 30 * 409 := Nat.le_trans hlx (Nat.mul_le_mul_right _ l1)
    have hlt : sLt (tx (vkeys xs)) (tx (vkeys ys)) = decide (rowsCmp xs ys < 0) := by
      rw [← bl_keys xs ys hga hgb]
      unfold sLt
      rw [ByteArray.toList_eq, ByteArray.toList_eq]
      simp [tx]
    have hinj : vkeys xs = vkeys ys ↔ xs = ys := by
      refine ⟨fun h => ?_, fun h => by rw [h]⟩
      obtain ⟨zs, h1, h2⟩ := vkeys_inj (s := []) hga hgb (by rw [List.append_nil, h])
      cases zs with
      | nil => rw [h1, List.append_nil]
      | cons z zs =>
        have e : vkeys (z :: zs) = vkey z ++ vkeys zs := rfl
        rw [e] at h2
        have := congrArg List.length h2
        have hz := vkey_pos z
        rw [List.length_append, List.length_nil] at this
        omega
    have heq : sEq (tx (vkeys xs)) (tx (vkeys ys)) = decide (rowsCmp xs ys = 0) := by
      rw [Bool.eq_iff_iff, sEq_iff, decide_eq_true_eq, rows_eq, ← hinj]
      refine ⟨fun h => ?_, fun h => by rw [h]⟩
      have := congrArg (fun x : ByteArray => x.data.toList) h
      simpa [tx] using this
    have hrng := rows_range xs ys
    refine key_spec (hM.upd0 hu1) (ha.upd0 hu1) hal (by omega) fun w2 hu2 => ⟨_, rfl, ?_⟩
    have hu2' := hu1.then hu2
    refine key_spec (hM.upd0 hu2') (hb.upd0 hu2') hbl (by omega) fun w3 hu3 => ⟨_, rfl, ?_⟩
    have hu3' := hu2'.then hu3
    rw [hX, hY]
    refine ⟨fun way w' => way = (if rowsCmp xs ys < 0 then -1 else 0) ∧ Upd Nothing w w', ?_, ?_⟩
    · rw [hlt]
      refine ifB_mk (fun h => ⟨by rw [if_pos (of_decide_eq_true h)], hu3'⟩) (fun h => ⟨by rw [if_neg (of_decide_eq_false h)], hu3'⟩)
    rintro way w4 ⟨rfl, hu4⟩
    refine ⟨fun way w' => way = rowsCmp xs ys ∧ Upd Nothing w w', ?_, ?_⟩
    · rw [hlt, heq]
      refine ifB_mk (fun h => ⟨?_, hu4⟩) (fun h => ⟨?_, hu4⟩)
      · simp at h; omega
      · simp at h
        split <;> omega
    rintro way w5 ⟨rfl, hu5⟩
    refine unkey_spec (by rw [tx_size]; omega) fun p1 n1 c1 ok1 r1 w6 hk1 hat1 hl1 hn1 hu6 => ⟨_, _, _, _, rfl, ?_⟩
    obtain ⟨e1, e2⟩ := hk1.unique (.inl ⟨rfl, hga, by simp [tx]⟩)
    subst e1; subst e2
    have hu6' := hu5.then hu6
    refine ⟨fun w' => Upd Nothing w w', ?_, ?_⟩
    · refine rows_spec (ha.upd0 hu6') hal (by omega) (hb.upd0 hu6') hbl fun w7 hu7 => ⟨_, rfl, ifB_mk (fun h => by simp at h) (fun _ => ifB_mk (fun h => by cases h) (fun _ => ?_))⟩
      refine same_rows (hat1.upd0 hu7) hl1 (by omega) (ha.upd0 (hu6'.then hu7)) hal fun r w8 hr hu8 => ⟨_, rfl, ?_⟩
      rw [hr.2 rfl]
      exact ifB_mk (fun h => by cases h) (fun _ => (hu6'.then hu7).then hu8)
    intro w7 hu7
    rw [tx_size, tx_size, Int.toNat_natCast, Int.toNat_natCast, cutAt_zero, Nat.sub_zero, Nat.sub_zero]
    -- the one key begins the other where the one row begins the other
    have hbeg : ∀ zs, ys = r1 ++ zs → (vkeys ys).take (vkeys r1).length = vkeys r1 ∧ (vkeys r1).length ≤ (vkeys ys).length := fun zs e => by
      have e2 : vkeys ys = vkeys r1 ++ vkeys zs := by rw [e]; unfold vkeys; rw [List.flatMap_append]
      rw [e2]
      exact ⟨List.take_left' rfl, by rw [List.length_append]; omega⟩
    have hpre : (vkeys ys).take (vkeys r1).length = vkeys r1 → ∃ zs, ys = r1 ++ zs := fun h => by
      have h1 := List.take_append_drop (vkeys r1).length (vkeys ys)
      rw [h] at h1
      obtain ⟨zs, h2, _⟩ := vkeys_inj hga hgb h1
      exact ⟨zs, h2⟩
    have hext : sEq ((tx (vkeys ys)).extract 0 (vkeys r1).length) (tx (vkeys r1)) = true ↔ (vkeys ys).take (vkeys r1).length = vkeys r1 := by
      rw [sEq_iff, ext_take]
      refine ⟨fun h => ?_, fun h => ?_⟩
      · have := congrArg (fun x : ByteArray => x.data.toList) h
        simpa [tx, txt] using this
      · have e3 : (tx (vkeys ys)).data.toList = vkeys ys := by simp [tx]
        rw [e3, h]; rfl
    have htake : ∀ hle : an ≤ bn, (r1 = ys.take an ↔ ∃ zs, ys = r1 ++ zs) := fun hle => by
      refine ⟨fun h => ⟨ys.drop an, by rw [h, List.take_append_drop]⟩, fun ⟨zs, h⟩ => ?_⟩
      rw [h, ← hal, List.take_left' rfl]
    refine ifB_mk (fun h8 => ⟨by omega, by have := of_decide_eq_true h8; omega, ?_⟩) (fun h8 => ?_)
    · refine ifB_mk (fun h9 => ⟨by omega, by have := of_decide_eq_true h9; omega, ?_⟩) (fun h9 => ?_)
      · have hle : an ≤ bn := by have := of_decide_eq_true h9; omega
        refine same_rows (ys := ys.take an) (ha.upd0 hu7) hal (by omega) (by rw [vals_take]; exact (hb.upd0 hu7).take _) (by rw [List.length_take]; omega) fun r w8 hr hu8 => ⟨_, rfl, ifB_mk (fun _ => haw w8 (hu7.then hu8)) (fun h => ?_)⟩
        have e : sEq ((tx (vkeys ys)).extract 0 (vkeys r1).length) (tx (vkeys r1)) = r := by
          rw [Bool.eq_iff_iff, hext, hr, htake hle]
          exact ⟨hpre, fun ⟨zs, h⟩ => (hbeg zs h).1⟩
        rw [e] at h
        simp at h
      · refine ifB_mk (fun _ => haw w7 hu7) (fun h => ?_)
        have e : sEq ((tx (vkeys ys)).extract 0 (vkeys r1).length) (tx (vkeys r1)) = false := by
          rw [Bool.eq_false_iff]
          intro h'
          obtain ⟨zs, h''⟩ := hpre (hext.1 h')
          have := congrArg List.length h''
          rw [List.length_append] at this
          have := of_decide_eq_false h9
          omega
        rw [e] at h
        cases h
    · have hgt := of_decide_eq_false h8
      refine ifB_mk (fun h9 => ⟨by omega, by have := of_decide_eq_true h9; omega, ?_⟩) (fun h9 => ifB_mk (fun _ => haw w7 hu7) (fun h => by cases h))
      have hle : an ≤ bn := by have := of_decide_eq_true h9; omega
      refine same_rows (ys := ys.take an) (ha.upd0 hu7) hal (by omega) (by rw [vals_take]; exact (hb.upd0 hu7).take _) (by rw [List.length_take]; omega) fun r w8 hr hu8 => ⟨_, rfl, ifB_mk (fun _ => haw w8 (hu7.then hu8)) (fun h => ?_)⟩
      have e : r = false := by
        rw [Bool.eq_false_iff]
        intro h'
        obtain ⟨zs, h''⟩ := (htake hle).1 (hr.1 h')
        have := (hbeg zs h'').2
        omega
      rw [e] at h
      cases h)
theorem own : ownKnob Tryd.prog.godebug = none := by kernel_rfl
theorem laid : laidOutB Tryd.prog = true := by kernel_rfl

theorem lifted (os : Os) (started : os.Started) (H : Type) (enc : TypeId × Value → H) :
    ReturnsInHanded {} Tryd.checked os 9 .any (fun w args => (Rows.valueStandsSpec.pre enc Tryd.prog Tryd.f9 [] false w args ∧ laidMetH Tryd.prog laid2 w) ∧ sizedMet enc Tryd.prog Tryd.f9 (OpenSpec.ofChange Rows.valueStandsSpec) false w args)
      (Rows.valueStandsSpec.post enc Tryd.prog Tryd.f9 false true false false) := by
  refine returns_and_shaped (C := Tryd.checked) (X := fun w _ => laidMetH Tryd.prog laid2 w) (fun _ _ _ hh h => h.of_heap hh) own started (by kernel_rfl) Tryd.func9
    (ChangeSpec.witness_at (enc := enc) (C := Tryd.checked) (os := os) (X := fun w _ => laidMetH Tryd.prog laid2 w) false (laidWorld os) #[.slice none 0 0, .slice none 0 0] 8 rfl (by kernel_rfl) (by kernel_rfl) (by kernel_rfl) (by kernel_rfl) (by kernel_rfl) (laidWorld_met os _)) ?_
  intro W base args ds gs before hval0 hW hsh
  have hM : Va.MX W := maxlen_of_shaped hsh
  have hval : ∀ (j : Nat) t v, Tryd.f9.params[j]? = some t → args[j]? = some v → Value.okWide Tryd.prog W .any base t v := hval0
  have hW' := hW
  obtain ⟨p, q, hA0, hV, rfl, hfz, hnd⟩ := hW
  have hA : DataW.TrodAll enc Tryd.prog W 0 (fun _ => true) true Tryd.f9.params.toList args.toList ds p := hA0
  rw [Tryd.params9] at hA hval
  obtain ⟨v0, vs0, d0, ds0, p0, q0, hargs, rfl, rfl, h0, r0⟩ := trodAll_cons hA
  obtain ⟨v1, vs1, d1, ds1, p1, q1, rfl, rfl, rfl, h1, r1⟩ := trodAll_cons r0
  obtain ⟨rfl, rfl, rfl⟩ := trodAll_nil r1
  obtain rfl : args = #[v0, v1] := by cases args; simp_all
  obtain ⟨ap, an, ac, xs, eap, hac, hacm, hxs, hal, hxw⟩ := rd_vals (Rd.of_trod h0)
  obtain rfl := Rd.arg Tryd.underlying22 rfl (hval 0 22 v0 rfl rfl) eap
  obtain ⟨bp, bn, bc, ys, ebp, hbc, hbcm, hys, hbl, hyw⟩ := rd_vals (Rd.of_trod h1)
  obtain rfl := Rd.arg Tryd.underlying22 rfl (hval 1 22 v1 rfl rfl) ebp
  refine ((walk (w := W) (K := fun v w' => v = .bool true ∧ Upd Nothing W w') hM hxs hal hxw hys hbl hbc hyw fun w' hu => ⟨rfl, hu⟩).back Tryd.func9 (by kernel_rfl) (by kernel_rfl)).mono fun e W' ⟨v, he, hv, hu⟩ => ?_
  subst he; subst hv
  exact ⟨_, rfl, law_post (tb := 4) laid (by kernel_rfl) hW' rfl rfl (by kernel_rfl) Tryd.underlying4 hu⟩

theorem row : Rows.ValueStandsSaid :=
  OpenClaim.holds_of_wide 9 Tryd.f9 rfl rfl rfl rfl rfl rfl rfl ⟨rfl, rfl, rfl, rfl, rfl⟩ rfl rfl rfl rfl rfl (by kernel_rfl) Tryd.func9 (by kernel_rfl)
    (of_decide_eq_true (by kernel_rfl)) (by unfold Func.isWrapper; first | (rw [if_pos (by decide +kernel)]; kernel_rfl) | (rw [if_neg (by decide +kernel)]; exact ⟨rfl, rfl⟩))
    (fun os started H enc _ => lifted os started H enc)

theorem over : Rows.ValueStandsCardSaid :=
  Claim7.holds_tied_plain_at .later [] [.data, .pinned] true (true, "44a05c6656fad0a98acfb041a4270392b8082a07142de41ef3bee6dd98f36de4") false
    row (fun _ h => by cases h) (by kernel_rfl) (fun _ h => by cases h) valueStands_row_tie rfl ⟨rfl, rfl⟩ (by kernel_rfl) rfl
    (fun f fn hf hfn => by
      obtain rfl : f = 9 := Option.some.inj ((show Tryd.prog.funcNamed Rows.valueStandsRow.func = some 9 by kernel_rfl).symm.trans hf) |>.symm
      obtain rfl : fn = Tryd.f9 := (Option.some.inj (Tryd.func9.symm.trans hfn)).symm
      refine ⟨by kernel_rfl, fun j t ht => ?_⟩
      have hall : (Tryd.f9.params.toList.all fun t => !(Tryd.prog.wantsStandIn t)) = true := by kernel_rfl
      have hm : t ∈ Tryd.f9.params.toList := by rw [Array.mem_toList_iff]; exact Array.mem_of_getElem? ht
      exact (show Tryd.prog.wantsStandIn t = false by simpa using List.all_eq_true.1 hall t hm))
    (by kernel_rfl)

#print axioms over
end VStands
end Go.Proofs.YtjcgociobhhijaaDoor
