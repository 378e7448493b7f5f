/- Proved: 'affluxlaw23.QueueKeeps' returns true for every input, and its arguments read behind the call as they did. There is no condition. -/
import Derived.Test.YtjcgociobhhijaaQActs
set_option linter.unusedVariables false
set_option linter.unusedSimpArgs false
set_option maxRecDepth 100000
namespace Go.Proofs.Ytjcgociobhhijaa
open Go Go.Proofs.Ytjcgociobhhijaa.SX Go.ChangeShapes Go.WideShapes Go.ChangeAt Go.RowKit Qu
namespace QKeeps

/-- What holds at each act. -/
def Inv (W : World) (b N : Nat) (w : World) : Prop :=
  ∃ p c xs t, Que w b p c xs N t ∧ Upd Nothing W w ∧ (∀ k, QF b p c k → W.heap.size ≤ k) ∧ t.came = IntKind.i64.wrap (t.went + xs.length) ∧ t.most ≤ N


theorem put_inv {W w w' : World} {b N : Nat} {p p' : Option Addr} {c c' n ln : Nat} {xs ys : List Int} {t : Tl} (hf : ∀ k, QF b p c k → W.heap.size ≤ k) (hW : W.heap.size ≤ w.heap.size) (ht : t.came = IntKind.i64.wrap (t.went + xs.length)) (hm : t.most ≤ N) (hle : xs.length + n ≤ N) (hn : n ≤ ys.length)
    (hf3 : ∀ k, QF b p' c' k → QF b p c k ∨ w.heap.size ≤ k) (hq : Que w' b p' c' (xs ++ ys.take n) N (t.put n ln (xs.length + n))) (hu : Upd Nothing W w') : Inv W b N w' := by
  have hlen3 : (xs ++ ys.take n).length = xs.length + n := by simp; omega
  refine ⟨p', c', _, _, hq, hu, fun k hk => ?_, ?_, ?_⟩
  · rcases hf3 k hk with h | h
    · exact hf k h
    · exact Nat.le_trans hW h
  · show IntKind.i64.wrap (t.came + n) = IntKind.i64.wrap (t.went + ((xs ++ ys.take n).length : Nat))
    rw [ht, i64_wrap_add, hlen3]
    congr 1
    omega
  · show mm2 true t.most ((xs.length + n : Nat) : Int) ≤ N
    rw [mm2_max]
    split <;> omega

/-- The thing at the end, whenever it is asked for. -/
theorem at_end {b N : Nat} {p : Option Addr} {c : Nat} {xs : List Int} {t : Tl} (hN : xs.length ≤ 10000) : ∃ (r : Int) (x : Bool), ∀ (w : World) (K : Value → World → Prop), Que w b p c xs N t → K (.tuple #[.int .i64 r, .bool x]) w →
    CallsV prog F.queue_Queue_int_At #[.pointer (some ⟨b, 0, none⟩), .int .i64 (IntKind.i64.wrap ((xs.length : Nat) - (1 : Int)))] w K := by
  rw [i64_wrap (by omega) (by omega)]
  by_cases h0 : xs.length = 0
  · exact ⟨0, false, fun w K hq hK => at_out hq (.inl (by omega)) hK⟩
  · refine ⟨xs[xs.length - 1]'(by omega), true, fun w K hq hK => ?_⟩
    rw [show ((xs.length : Nat) : Int) - 1 = ((xs.length - 1 : Nat) : Int) by omega]
    exact at_in hq (by omega) hK

theorem walk {room : Int} {lp : Option Addr} {ln lc : Nat} {W : World} {K : Value → World → Prop} (hr : 0 ≤ room ∧ room ≤ 255) (hA : Acts W lp ln) (hK : ∀ w', Upd Nothing W w' → K (.bool true) w') :
    CallsV prog F.affluxlaw23_QueueKeeps #[.int .u8 room, .slice lp ln lc] W K :=
  R.affluxlaw23_QueueKeeps (by
    unfold C.affluxlaw23_QueueKeeps
    refine ⟨fun w' => ln ≤ 60 ∧ Upd Nothing W w', ifB_mk (fun _ => awake_spec fun w1 hu1 => ⟨true, rfl, hK _ hu1⟩) (fun h => awake_spec fun w1 hu1 => ⟨true, rfl, ifB_mk (fun h => by simp at h) (fun _ => ⟨by simp at h; omega, hu1⟩)⟩), ?_⟩
    rintro w1 ⟨h60, hu1⟩
    refine ⟨by omega, ?_⟩
    obtain ⟨N, hN1, hN2, hN⟩ : ∃ N : Nat, 1 ≤ N ∧ N ≤ 40 ∧ IntKind.i64.wrap ((1 : Int) + (Int.tmod (IntKind.i64.wrap room) (40 : Int))) = (N : Int) := by
      refine ⟨1 + room.toNat % 40, by omega, by omega, ?_⟩
      rw [i64_wrap (n := room) (by omega) (by omega), Int.tmod_eq_emod_of_nonneg hr.1, i64_wrap (by omega) (by omega)]
      omega
    simp only [hN]
    refine new_some hN1 (by omega) fun b w2 hq2 hu2 hge2 => ⟨_, rfl, ?_⟩
    refine ⟨fun i w' => ∃ k : Nat, i = k ∧ k ≤ ln ∧ Inv W b N w', fun i _ => ln - i.toNat, ⟨0, rfl, by omega, none, 0, [], _, hq2, hu1.then hu2, ?_, rfl, by show (0 : Int) ≤ _; omega⟩, ?_⟩
    · intro k hk
      rcases hk with hk | hk
      · rw [show k = b from hk]; exact Nat.le_trans hu1.size hge2
      · have := hk.1; omega
    rintro i w ⟨i, rfl, hi, hI⟩
    have hI' := hI
    obtain ⟨p, c, xs, t, hq, hu, hf, ht, hm⟩ := hI'
    refine ifB_mk (fun h => ?_) (fun h => hK _ hu)
    have hil : i < ln := by simpa using h
    obtain ⟨a, kind, m, Lp, Ln, Lc, ys, rfl, ha0⟩ := hA i hil
    have ha := ha0.upd0 hu
    simp only [Int.toNat_natCast]
    refine ⟨a, rfl, by omega, by omega, Lp, Ln, Lc, ha.c2, ifB_mk (fun _ => hK _ hu) (fun h100 => ?_)⟩
    have hL : Ln ≤ 100 := by simp at h100; omega
    have hle := hq.le
    have hsm := hq.small
    refine ⟨fun w' => Inv W b N w', ⟨a, rfl, by omega, by omega, kind, ha.c0, ifB_mk (fun hk0 => ?_) (fun _ => ifB_mk (fun hk1 => ?_) (fun _ => ?_))⟩, ?_⟩
    · -- put
      refine New.use (by simp) fun g w3 hb3 hu3 hge3 _ => ?_
      have ha3 := ha.upd0 hu3
      refine ⟨a, rfl, by omega, by omega, Lp, Ln, Lc, ha3.c2, ?_⟩
      refine append_own (n := 0) (m := Ln) (xs := []) sint (.inl sint.desc) (Own.zero _ _ _ _) (Src.slice (m := Ln) ha3.at_ (by simp [ha3.len]) (ints_one _)) (by decide) (by decide) (by omega) fun ip ic w4 ho4 hu4 hfi => ?_
      rw [Nat.zero_add, List.nil_append] at ho4
      rw [Nat.zero_add]
      have hu4' : Upd Nothing w3 w4 := hu4.mono fun k _ hk => by have := hk.1; omega
      have hq4 := (hq.upd0 hu3).upd0 hu4'
      have hif : ∀ k, Fp ip ic k → w.heap.size ≤ k := fun k hk => by
        rcases hfi k hk with h | h
        · have := h.1; omega
        · exact Nat.le_trans hu3.size h
      refine ⟨ip, Ln, ic, rfl, put_some (ys := ys) hq4 ho4.at ha.len ho4.le fun n p' c' w5 hn hq5 hu5 hf5 => ⟨_, _, rfl, ?_⟩⟩
      have hQI : ∀ k, Fp ip ic k → ¬ QF b p c k := fun k hk hk' => by have := hif k hk; have := hq.lt hk'; omega
      have hQI' : ∀ k, QF b p' c' k → ¬ Fp ip ic k := fun k hk hk' => by
        rcases hf5 k hk with h | h
        · exact hQI k hk' h
        · have := ho4.lt hk'; omega
      have hIf : ∀ k, Fp ip ic k → W.heap.size ≤ k := fun k hk => Nat.le_trans hu.size (hif k hk)
      have ho5 := ho4.upd hu5 hQI
      have hup5 : Upd Nothing W w5 := ((hu.then hu3).then hu4').fresh hu5 hf
      have hend : ∀ w', Que w' b p' c' (xs ++ ys.take n) N (t.put n Ln (xs.length + n)) → Upd Nothing W w' → Inv W b N w' := fun w' hq' hu' => put_inv hf ((hu.then hu3).then hu4').size ht hm (by omega) (by have := ha.len; omega) hf5 hq' hu'
      obtain ⟨r, x, hat⟩ := at_end (b := b) (N := N) (p := p') (c := c') (xs := xs ++ ys.take n) (t := t.put n Ln (xs.length + n)) (by have := hq5.le; omega)
      refine len_some hq5 ⟨_, rfl, hat _ _ hq5 ⟨r, x, rfl, ?_⟩⟩
      refine ⟨fun i w' => ∃ (k : Nat) (zs : List Int), i = (k : Int) ∧ k ≤ Ln ∧ zs.length = Ln ∧ Own w' T.int 1 ip Ln ic (ints zs) ∧ Que w' b p' c' (xs ++ ys.take n) N (t.put n Ln (xs.length + n)) ∧ Upd Nothing W w', fun i _ => Ln - i.toNat, ⟨0, ys, rfl, by omega, ha.len, ho5, hq5, hup5⟩, ?_⟩
      rintro k w6 ⟨k, zs, rfl, hk, hzl, ho6, hq6, hu6⟩
      simp only [Int.toNat_natCast, Nat.mul_one]
      refine ifB_mk (fun h => ?_) (fun h => ?_)
      · have hkl : k < Ln := by simpa using h
        obtain ⟨a5, h1, h2⟩ := ho6.at k _ (ints_get (by omega))
        refine ⟨a5, h1, by omega, by omega, zs[k], h2, ?_⟩
        obtain ⟨a6, h3, h4, h5⟩ := ho6.put (j := k) (v := .int .i64 (IntKind.i64.wrap (zs[k] + 1))) (by simp; omega) rfl
        refine ⟨a6, h3, by omega, by omega, h4, fun w7 hw7 => ?_⟩
        obtain ⟨ho7, hu7, _⟩ := h5 w7 hw7
        rw [i64_wrap (by omega) (by omega)]
        refine ⟨⟨k + 1, zs.set k (IntKind.i64.wrap (zs[k] + 1)), by omega, by omega, by simp [hzl], ?_, hq6.upd hu7 hQI', hu6.fresh hu7 hIf⟩, by omega⟩
        rw [show ints (zs.set k (IntKind.i64.wrap (zs[k] + 1))) = (ints zs).set k (.int .i64 (IntKind.i64.wrap (zs[k] + 1))) by simp [ints, List.map_set]]
        exact ho7
      · refine len_some hq6 ⟨_, rfl, hat _ _ hq6 ⟨r, x, rfl, ifB_mk (fun h => by simp at h) (fun _ => ifB_mk (fun h => by simp at h) (fun _ => hend w6 hq6 hu6))⟩⟩
    · -- take
      have hN1 : N ≤ 40 := hN2
      have hnew : ∀ (rb : Bool) (ra : Int), (∀ h0 : 0 < xs.length, rb = true ∧ ra = xs[0]) → ∀ (w3 : World), w3 = w →
          ∃ a7, some a = some a7 ∧ 0 ≤ ((i : Nat) : Int) ∧ ((i : Nat) : Int) < ((ln : Nat) : Int) ∧ ∃ (N1 : Int), w3.cell? ((a7.add (i * 3)).add 1) = some (.int .i64 N1) ∧
          CallsV prog F.queue_Queue_int_Take #[.pointer (some ⟨b, 0, none⟩), .int .i64 N1] w3 (fun v12 wv17 => ∃ (r7p : Option Addr) (r7n r7c : Nat), v12 = .slice r7p r7n r7c ∧
            ifB (decide ((0 : Int) < ((r7n : Nat) : Int))) (ifB (!rb) (K (.bool false) wv17) (∃ a8, r7p = some a8 ∧ 0 ≤ (0 : Int) ∧ (0 : Int) < ((r7n : Nat) : Int) ∧ ∃ (e2 : Int), wv17.cell? (a8.add ((0 : Int).toNat * 1)) = some (.int .i64 e2) ∧
              ifB (e2 != ra) (K (.bool false) wv17) (Inv W b N wv17))) (Inv W b N wv17)) := by
        rintro rb ra hrb w3 rfl
        refine ⟨a, rfl, by omega, by omega, m, ha.c1, take_some hq fun k rp rc p' c' w4 hk ho4 hfr hq4 hu4 hf4 => ⟨rp, k, rc, rfl, ?_⟩⟩
        have hend : Inv W b N w4 := by
          refine ⟨p', c', _, _, hq4, hu.fresh hu4 hf, fun j hj => hf j (hf4 j hj), ?_, ?_⟩
          · split
            · rename_i h0; subst h0; simpa using ht
            · show t.came = IntKind.i64.wrap (IntKind.i64.wrap (t.went + k) + ((xs.drop k).length : Nat))
              rw [ht, i64_wrap_add, List.length_drop]
              congr 1
              omega
          · split <;> exact hm
        refine ifB_mk (fun hpos => ?_) (fun _ => hend)
        have hk0 : 0 < k := by simpa using hpos
        have hx0 : 0 < xs.length := by omega
        obtain ⟨h1, h2⟩ := hrb hx0
        refine ifB_mk (fun h => by rw [h1] at h; simp at h) (fun _ => ?_)
        obtain ⟨a8, h3, h4⟩ := ho4.at 0 _ (ints_get (xs := xs.take k) (by simp; omega))
        refine ⟨a8, h3, by omega, by omega, _, h4, ifB_mk (fun h => ?_) (fun _ => hend)⟩
        rw [h2] at h
        simp at h
      by_cases hx0 : 0 < xs.length
      · exact at_in (i := 0) hq hx0 ⟨_, _, rfl, hnew _ _ (fun _ => ⟨rfl, rfl⟩) w rfl⟩
      · exact at_out hq (.inr (by omega)) ⟨_, _, rfl, hnew _ _ (fun h => absurd h hx0) w rfl⟩
    · -- remove
      refine ⟨a, rfl, by omega, by omega, m, ha.c1, ?_⟩
      by_cases hout : m < 0 ∨ (xs.length : Int) ≤ m
      · exact remove_out hq hout ⟨_, _, rfl, hI⟩
      · obtain ⟨j, rfl⟩ : ∃ j : Nat, m = j := ⟨m.toNat, by omega⟩
        refine remove_in hq (i := j) (by omega) fun w3 hq3 hu3 => ⟨_, _, rfl, p, c, _, _, hq3, hu.fresh hu3 hf, hf, ?_, hm⟩
        show t.came = IntKind.i64.wrap (IntKind.i64.wrap (t.went + 1) + ((xs.take j ++ xs.drop (j + 1)).length : Nat))
        rw [ht, i64_wrap_add]
        congr 1
        simp
        omega
    · -- the tally
      rintro w3 ⟨p, c, xs, t, hq, hu, hf, ht, hm⟩
      have hle := hq.le
      have hsm := hq.small
      refine counts_some hq fun w4 hu4 => ⟨t.came, t.went, t.refused, t.most, rfl, New.use (by simp [Value.oneCell']) fun g w5 hb5 hu5 hge5 _ => ?_⟩
      refine hb5.store (i := 0) (by simp) rfl fun w6 hb6 hu6 _ => hb6.store (i := 1) (by simp) rfl fun w7 hb7 hu7 _ => hb7.store (i := 2) (by simp) rfl fun w8 hb8 hu8 _ => hb8.store (i := 3) (by simp) rfl fun w9 hb9 hu9 _ => ?_
      have hg : ∀ i, One g i → w4.heap.size ≤ i := fun i hi => by rw [show i = g from hi]; exact hge5
      have hu49 : Upd Nothing w4 w9 := (((hu5.fresh hu6 hg).fresh hu7 hg).fresh hu8 hg).fresh hu9 hg
      have hq9 := (hq.upd0 (hu4.then hu49)).upd0 (Upd.drew _ _)
      have hb9' := hb9.drew
      refine ⟨t.came, hb9'.cell (i := 0) rfl, t.went, hb9'.cell (i := 1) rfl, len_some hq9 ⟨_, rfl, hb9'.cell (i := 1) rfl, hb9'.cell (i := 0) rfl, ?_⟩⟩
      rw [← ht]
      refine ifB_mk (fun h => by simp at h) (fun _ => len_some hq9 ⟨_, rfl, ifB_mk (fun h => by simp at h; omega) (fun _ => ⟨t.most, hb9'.cell (i := 3) rfl, ifB_mk (fun h => by simp at h; omega) (fun _ => ?_)⟩)⟩)
      refine free_some hq9 ⟨_, rfl, ifB_mk (fun h => by simp at h; omega) (fun _ => ?_)⟩
      rw [i64_wrap (by omega) (by omega)]
      have hu10 := ((hu.then (hu4.then hu49)).then (Upd.drew _ _)).then (Upd.drew _ _)
      exact ⟨⟨i + 1, by omega, by omega, p, c, xs, t, hq9.upd0 (Upd.drew _ _), hu10, hf, ht, hm⟩, by simp; omega⟩)
theorem own : ownKnob Try.prog.godebug = none := by kernel_rfl
theorem laid : laidOutB Try.prog = true := by kernel_rfl

theorem lifted (os : Os) (started : os.Started) (H : Type) (enc : TypeId × Value → H) :
    ReturnsInHanded {} Try.checked os 4 .any (Rows.queueKeepsSpec.pre6 enc Try.prog Try.f4 Rows.queueKeepsRow.domain false) (Rows.queueKeepsSpec.post enc Try.prog Try.f4 false true false false) := by
  refine returnsInHanded_of_change (C := Try.checked) own started (by kernel_rfl) Try.func4
    (ChangeSpec.witness6 (enc := enc) (C := Try.checked) false ⟨#[], #[.int .u8 0, .slice none 0 0], []⟩ 8 (by kernel_rfl) (by kernel_rfl) (by kernel_rfl) (by kernel_rfl)) ?_
  intro W base args ds gs before hval0 hW hcnd _
  have hval : ∀ (j : Nat) t v, Try.f4.params[j]? = some t → args[j]? = some v → Value.okWide Try.prog W .any base t v := hval0
  have hW' := hW
  obtain ⟨p, q, hA0, hV, rfl, hfz, hnd⟩ := hW
  have hA : DataW.TrodAll enc Try.prog W 0 (fun _ => true) true Try.f4.params.toList args.toList ds p := hA0
  rw [Try.params4] at hA hval
  obtain ⟨v0, vs0, d0, ds0, p0, q0, hargs, rfl, rfl, h0, r0⟩ := trodAll_cons hA
  obtain ⟨v1, vs1, d1, ds1, p1, q1, rfl, rfl, rfl, h1, r1⟩ := trodAll_cons r0
  obtain ⟨rfl, rfl, rfl⟩ := trodAll_nil r1
  obtain rfl : args = #[v0, v1] := by cases args; simp_all
  obtain ⟨room, eroom, wfroom⟩ := (Rd.of_trod h0).int Try.underlying5
  obtain rfl := Rd.arg Try.underlying5 rfl (hval 0 5 v0 rfl rfl) eroom
  obtain ⟨lp, ln, lc, elp, hacts⟩ := rd_acts (Rd.of_trod h1)
  obtain rfl := Rd.arg Try.underlying22 rfl (hval 1 22 v1 rfl rfl) elp
  refine ((walk (W := W) (K := fun v w' => v = .bool true ∧ Upd Nothing W w') (wf_u8 wfroom) hacts fun w' hu => ⟨rfl, hu⟩).back Try.func4 (by kernel_rfl) (by kernel_rfl)).mono fun e W' ⟨v, he, hv, hu⟩ => ?_
  subst he; subst hv
  exact ⟨_, rfl, law_post (tb := 4) laid (by kernel_rfl) hW' rfl rfl (by kernel_rfl) Try.underlying4 hu⟩

theorem over : Rows.QueueKeepsSaid :=
  OpenClaim.holds_of_wide 4 Try.f4 rfl rfl rfl rfl rfl rfl rfl ⟨rfl, rfl, rfl, rfl, rfl⟩ rfl rfl rfl rfl rfl (by kernel_rfl) Try.func4 (by kernel_rfl)
    (of_decide_eq_true (by kernel_rfl)) (by unfold Func.isWrapper; first | (rw [if_pos (by decide +kernel)]; kernel_rfl) | (rw [if_neg (by decide +kernel)]; exact ⟨rfl, rfl⟩))
    (fun os started H enc _ => lifted os started H enc)

#print axioms over
end QKeeps
end Go.Proofs.Ytjcgociobhhijaa
