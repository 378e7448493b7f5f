/- The helpers of the statements over package queue: what each answers. -/
import Derived.Test.YtjcgociobhhijaaQU
import Derived.Test.YtjcgociobhhijaaLF
set_option linter.unusedVariables false
set_option linter.unusedSimpArgs false
set_option maxRecDepth 100000
namespace Go.Proofs.Ytjcgociobhhijaa
open Go Go.Proofs.Ytjcgociobhhijaa.SX
namespace Qu
section
variable {w : World} {K : Value → World → Prop} {b : Nat} {p : Option Addr} {c room : Nat} {xs : List Int} {t : Tl}

theorem awake_spec (hK : ∀ w', Upd Nothing w w' → K (.bool true) w') : CallsV prog F.affluxlaw23_awake #[] w K :=
  R.affluxlaw23_awake (by
    unfold C.affluxlaw23_awake
    refine new_some (n := 2) (by omega) (by omega) fun b w1 hq1 hu1 hge1 => ⟨_, rfl, ?_⟩
    refine New.use (by simp [Value.oneCell']) fun g w2 hb2 hu2 hge2 _ => ?_
    have hq2 := hq1.upd0 hu2
    refine put_some (ys := [1, 2, 3]) hq2 (At.of_blk hb2 fun j v hj => by rw [Nat.zero_add]; exact hj) rfl (by omega) fun n p' c' w3 hn hq3 hu3 hf3 => ?_
    have hn2 : n = 2 := by simpa using hn
    subst hn2
    refine ⟨2, 18, rfl, take_some (n := 1) hq3 fun m rp rc p'' c'' w4 hm hr4 _ hq4 hu4 _ => ?_⟩
    have hm1 : m = 1 := by simpa using hm
    subst hm1
    refine ⟨rp, 1, rc, rfl, ifB_mk (fun _ => ifB_mk (fun _ => ifB_mk (fun _ => ?_) (fun h => by simp at h)) (fun h => by simp at h)) (fun h => by simp at h)⟩
    obtain ⟨a, ha, hc⟩ := hr4.at 0 (.int .i64 1) rfl
    refine ⟨a, ha, by omega, by omega, 1, by simpa using hc, ifB_mk (fun _ => ?_) (fun h => by simp at h)⟩
    refine counts_some hq4 fun w5 hu5 => ⟨2, 1, 1, 2, rfl, ?_⟩
    refine hK w5 ?_
    have e1 : ∀ i, QF b none 0 i → w.heap.size ≤ i := fun i hi => by
      rcases hi with hi | hi
      · rw [show i = b from hi]; exact hge1
      · have := hi.1; omega
    have hu := ((hu1.then hu2).fresh hu3 e1)
    have e2 : ∀ i, QF b p' c' i → w.heap.size ≤ i := fun i hi => by
      rcases hf3 i hi with h | h
      · exact e1 i h
      · exact Nat.le_trans (hu1.then hu2).size h
    exact (hu.fresh hu4 e2).then hu5)

theorem same_spec {ap bp : Option Addr} {an ac bn bc : Nat} {ys : List Int} (ha : At w ap (ints xs)) (hl : xs.length = an) (hb : At w bp (ints ys)) (hl' : ys.length = bn) (hsz : an ≤ 9223372036854775806)
    (hK : ∀ w', Upd Nothing w w' → K (.bool (decide (xs = ys))) w') : CallsV prog F.affluxlaw23_same #[.slice ap an ac, .slice bp bn bc] w K :=
  R.affluxlaw23_same (by
    unfold C.affluxlaw23_same
    refine ifB_mk (fun h => ?_) (fun h => ?_)
    · have : xs ≠ ys := fun e => by subst e; simp at h; omega
      have := hK w (Upd.refl _ _)
      rw [decide_eq_false (by assumption)] at this
      exact this
    have hnn : an = bn := by simp at h; omega
    subst hnn
    refine ⟨fun i w' => ∃ k : Nat, i = k ∧ k ≤ an ∧ Upd Nothing w w' ∧ xs.take k = ys.take k, fun i _ => an - i.toNat, ⟨0, rfl, by omega, Upd.refl _ _, by simp⟩, ?_⟩
    rintro i w1 ⟨k, rfl, hk, hu1, htk⟩
    refine ifB_mk (fun h => ?_) (fun h => ?_)
    · have hkn : k < an := by simpa using h
      obtain ⟨a1, h1, h2⟩ := (ha.upd0 (hu1.then (Upd.drew _ _))) k _ (ints_get (by omega))
      obtain ⟨a2, h3, h4⟩ := (hb.upd0 (hu1.then (Upd.drew _ _))) k _ (ints_get (by omega))
      refine ⟨a1, h1, by omega, by omega, xs[k], by simpa using h2, a2, h3, by omega, by omega, ys[k], by simpa using h4, ifB_mk (fun hne => ?_) (fun he => ?_)⟩
      · have hne' : xs[k] ≠ ys[k] := by simpa using hne
        have : xs ≠ ys := fun e => by subst e; exact hne' rfl
        have := hK _ (hu1.then (Upd.drew _ _))
        rw [decide_eq_false (by assumption)] at this
        exact this
      · have he' : xs[k] = ys[k] := by simpa using he
        rw [i64_wrap (by omega) (by omega)]
        refine ⟨⟨k + 1, by omega, by omega, hu1.then (Upd.drew _ _), ?_⟩, by show an - _ < an - _; omega⟩
        rw [List.take_succ_eq_append_getElem (by omega), List.take_succ_eq_append_getElem (by omega), htk, he']
    · have hkn : k = an := by simp at h; omega
      subst hkn
      have : xs = ys := by rw [List.take_of_length_le (by omega), List.take_of_length_le (by omega)] at htk; exact htk
      have h2 := hK w1 hu1
      rw [decide_eq_true this] at h2
      exact h2)

theorem looks_spec {np : Option Addr} {nc : Nat} {ask : Int} (hq : Que w b p c xs room t) (hn : At w np (ints xs)) (hK : ∀ w', Upd Nothing w w' → K (.bool true) w') :
    CallsV prog F.affluxlaw23_looks #[.pointer (some ⟨b, 0, none⟩), .slice np xs.length nc, .int .i64 room, .int .i64 ask] w K :=
  R.affluxlaw23_looks (by
    have hle := hq.le
    have hsm := hq.small
    unfold C.affluxlaw23_looks
    refine ⟨fun i w' => ∃ k : Nat, i = k ∧ k ≤ xs.length ∧ Upd Nothing w w', fun i _ => xs.length - i.toNat, ⟨0, rfl, by omega, Upd.refl _ _⟩, ?_⟩
    rintro i w1 ⟨k, rfl, hk, hu1⟩
    have hq1 := hq.upd0 hu1
    refine ifB_mk (fun h => ?_) (fun h => ?_)
    · have hkn : k < xs.length := by simpa using h
      obtain ⟨a, ha, hc⟩ := (hn.upd0 hu1) k _ (ints_get hkn)
      refine at_in hq1 hkn ⟨_, _, rfl, a, ha, by omega, by omega, xs[k], by simpa using hc, ifB_mk (fun h => by simp at h) (fun _ => ifB_mk (fun h => by simp at h) (fun _ => ?_))⟩
      rw [i64_wrap (by omega) (by omega)]
      exact ⟨⟨k + 1, by omega, by omega, hu1⟩, by show xs.length - _ < xs.length - _; omega⟩
    · have key : ∀ (r : Int) (x : Bool), (ask < 0 ∨ (xs.length : Int) ≤ ask → r = 0 ∧ x = false) → (0 ≤ ask → ask < (xs.length : Int) → x = true) →
          ∃ (ra2 : Int) (rb2 : Bool), Value.tuple #[.int .i64 r, .bool x] = .tuple #[.int .i64 ra2, .bool rb2] ∧
          ifB (decide ((0 : Int) ≤ ask)) (CallsV prog F.queue_Queue_int_Len #[.pointer (some ⟨b, 0, none⟩)] w1 (fun v3 wv4 => ∃ (r1 : Int), v3 = .int .i64 r1 ∧
            ifB (r1 == ((xs.length : Nat) : Int)) (CallsV prog F.queue_Queue_int_Free #[.pointer (some ⟨b, 0, none⟩)] wv4 (fun v4 wv5 => ∃ (r2 : Int), v4 = .int .i64 r2 ∧
              ifB (r2 == (IntKind.i64.wrap ((room : Int) - ((xs.length : Nat) : Int)))) (ifB (rb2 == (decide (ask < ((xs.length : Nat) : Int)))) (ifB (decide (ask < ((xs.length : Nat) : Int))) (K (.bool true) wv5) (K (.bool (ra2 == (0 : Int))) wv5)) (K (.bool false) wv5)) (K (.bool false) wv5))) (K (.bool false) wv4)))
          (CallsV prog F.queue_Queue_int_Len #[.pointer (some ⟨b, 0, none⟩)] w1 (fun v5 wv6 => ∃ (r3 : Int), v5 = .int .i64 r3 ∧
            ifB (r3 == ((xs.length : Nat) : Int)) (CallsV prog F.queue_Queue_int_Free #[.pointer (some ⟨b, 0, none⟩)] wv6 (fun v6 wv7 => ∃ (r4 : Int), v6 = .int .i64 r4 ∧
              ifB (r4 == (IntKind.i64.wrap ((room : Int) - ((xs.length : Nat) : Int)))) (ifB (rb2 == false) (K (.bool (ra2 == (0 : Int))) wv7) (K (.bool false) wv7)) (K (.bool false) wv7))) (K (.bool false) wv6))) := by
        intro r x h1 h2
        have hfin := hK w1.drew (hu1.then (Upd.drew _ _))
        refine ⟨r, x, rfl, ifB_mk (fun h0 => ?_) (fun h0 => ?_)⟩
        · refine len_some hq1 ⟨_, rfl, ifB_mk (fun _ => ?_) (fun h => by simp at h)⟩
          refine free_some hq1 ⟨_, rfl, ifB_mk (fun _ => ?_) (fun h => ?_)⟩
          · by_cases hin : ask < (xs.length : Int)
            · have hx := h2 (by simpa using h0) hin
              subst hx
              refine ifB_mk (fun _ => ifB_mk (fun _ => hfin) (fun h => ?_)) (fun h => ?_)
              · simp at h; omega
              · simp at h; omega
            · obtain ⟨rfl, rfl⟩ := h1 (.inr (by omega))
              refine ifB_mk (fun _ => ifB_mk (fun h => ?_) (fun h => hfin)) (fun h => ?_)
              · simp at h; omega
              · simp at h; omega
          · rw [i64_wrap (by omega) (by omega)] at h; simp at h; omega
        · obtain ⟨rfl, rfl⟩ := h1 (.inl (by simp at h0; omega))
          refine len_some hq1 ⟨_, rfl, ifB_mk (fun _ => ?_) (fun h => by simp at h)⟩
          refine free_some hq1 ⟨_, rfl, ifB_mk (fun _ => ?_) (fun h => ?_)⟩
          · exact ifB_mk (fun _ => hfin) (fun h => by simp at h)
          · rw [i64_wrap (by omega) (by omega)] at h; simp at h; omega
      by_cases hout : ask < 0 ∨ (xs.length : Int) ≤ ask
      · exact at_out hq1 hout (key 0 false (fun _ => ⟨rfl, rfl⟩) (fun h1 h2 => by omega))
      · obtain ⟨m, rfl⟩ : ∃ m : Nat, ask = m := ⟨ask.toNat, by omega⟩
        exact at_in hq1 (i := m) (by omega) (key _ true (fun h => absurd h hout) (fun _ _ => rfl)))
end
end Qu
end Go.Proofs.Ytjcgociobhhijaa
