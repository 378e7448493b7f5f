/- Proved: 'affluxlaw23.QueuePlays' returns true for every input, and its arguments read behind the call as they did. There is no condition. -/
import Derived.Test.YtjcgociobhhijaaQActs
set_option linter.unusedVariables false
set_option linter.unusedSimpArgs false
set_option maxRecDepth 100000
namespace Go.Proofs.Ytjcgociobhhijaa
open Go Go.Proofs.Ytjcgociobhhijaa.SX Go.ChangeShapes Go.WideShapes Go.ChangeAt Go.RowKit Qu
namespace QPlays

theorem at_cut {w : World} {p : Option Addr} {n c k : Nat} {xs : List Int} (h : Own w T.int 1 p n c (ints xs)) (hk : k ≤ n) : At w (cutAt p k c 1) (ints (xs.drop k)) := by
  intro j v hj
  have hjl : j < (xs.drop k).length := by have := (List.getElem?_eq_some_iff.1 hj).1; simpa using this
  have hln := h.len
  have hle := h.le
  simp at hjl hln
  obtain ⟨a', h1, h2⟩ := h.at (k + j) v (by rw [ints_drop, List.getElem?_drop] at hj; exact hj)
  rcases h.mem with hc0 | ⟨g', rest, hp, _, _⟩
  · omega
  · rw [hp] at h1
    injection h1 with h1
    subst h1
    refine ⟨⟨g', k, none⟩, ?_, ?_⟩
    · rw [hp, cutAt_mk, if_neg (by omega), Nat.mul_one]
    · rw [Addr.add_mk] at h2 ⊢
      rw [Nat.zero_add] at h2
      exact h2

theorem own_ne {w : World} {e e' s n c b : Nat} {p : Option Addr} {xs l : List Value} (h : Own w e s p n c xs) (hb : Blk w b l e') (he : e ≠ e') : ¬ Fp p c b := by
  rintro ⟨h0, a, rfl, hk⟩
  rcases h.mem with hc | ⟨g, rest, hp, hg, _⟩
  · omega
  · injection hp with hp
    subst hp
    exact hg.ne_type hb he hk.symm
theorem que_ne {w : World} {b g : Nat} {p : Option Addr} {c room : Nat} {xs : List Int} {t : Tl} {l : List Value} (h : Que w b p c xs room t) (hg : Blk w g l T.queue_Tally) : ¬ QF b p c g := by
  rintro (hk | hk)
  · exact h.blk.ne_type hg (by decide) (by rw [show g = b from hk])
  · exact own_ne h.own hg (by decide) hk

/-- The queue, the list beside it, the tally beside it. -/
structure PI (W : World) (b tb room : Nat) (p : Option Addr) (c : Nat) (xs : List Int) (t : Tl) (np : Option Addr) (nn nc : Nat) (zs : List Int) (t' : Tl) (w : World) : Prop where
  q : Que w b p c xs room t
  n : Own w T.int 1 np nn nc (ints zs)
  tl : Blk w tb [.int .i64 t'.came, .int .i64 t'.went, .int .i64 t'.refused, .int .i64 t'.most] T.queue_Tally
  u : Upd Nothing W w
  fq : ∀ k, QF b p c k → W.heap.size ≤ k
  fn : ∀ k, Fp np nc k → W.heap.size ≤ k
  ft : W.heap.size ≤ tb
  d : ∀ k, Fp np nc k → ¬ QF b p c k

section
variable {W w w' : World} {b tb room : Nat} {p p' : Option Addr} {c c' : Nat} {xs xs' zs zs' : List Int} {t t' t'' : Tl} {np np' : Option Addr} {nn nc nn' nc' : Nat}

theorem PI.upd0 (h : PI W b tb room p c xs t np nn nc zs t' w) (hu : Upd Nothing w w') : PI W b tb room p c xs t np nn nc zs t' w' :=
  ⟨h.q.upd0 hu, h.n.upd0 hu, hu.blk h.tl fun f => f, h.u.then hu, h.fq, h.fn, h.ft, h.d⟩
theorem PI.tally (h : PI W b tb room p c xs t np nn nc zs t' w) (hu : Upd (One tb) w w') (hb : Blk w' tb [.int .i64 t''.came, .int .i64 t''.went, .int .i64 t''.refused, .int .i64 t''.most] T.queue_Tally) : PI W b tb room p c xs t np nn nc zs t'' w' :=
  ⟨h.q.upd hu fun k hk ho => que_ne h.q h.tl (by rw [show k = tb from ho] at hk; exact hk), h.n.upd hu fun k hk ho => own_ne h.n h.tl (by decide) (by rw [show k = tb from ho] at hk; exact hk), hb,
    h.u.fresh hu fun k hk => by rw [show k = tb from hk]; exact h.ft, h.fq, h.fn, h.ft, h.d⟩
theorem PI.now (h : PI W b tb room p c xs t np nn nc zs t' w) (hu : Upd (Fp np nc) w w') (ho : Own w' T.int 1 np' nn' nc' (ints zs')) (hf : ∀ k, Fp np' nc' k → Fp np nc k ∨ w.heap.size ≤ k) : PI W b tb room p c xs t np' nn' nc' zs' t' w' := by
  refine ⟨h.q.upd hu fun k hk ho => h.d k ho hk, ho, hu.blk h.tl fun hk => own_ne h.n h.tl (by decide) hk, h.u.fresh hu h.fn, h.fq, fun k hk => ?_, h.ft, fun k hk => ?_⟩
  · rcases hf k hk with h1 | h1
    · exact h.fn k h1
    · exact Nat.le_trans h.u.size h1
  · rcases hf k hk with h1 | h1
    · exact h.d k h1
    · intro h2
      have := h.q.lt h2
      omega
theorem PI.queue (h : PI W b tb room p c xs t np nn nc zs t' w) (hu : Upd (QF b p c) w w') (hq : Que w' b p' c' xs' room t'') (hf : ∀ k, QF b p' c' k → QF b p c k ∨ w.heap.size ≤ k) : PI W b tb room p' c' xs' t'' np nn nc zs t' w' := by
  refine ⟨hq, h.n.upd hu fun k hk => h.d k hk, hu.blk h.tl (que_ne h.q h.tl), h.u.fresh hu h.fq, fun k hk => ?_, h.fn, h.ft, fun k hk hk' => ?_⟩
  · rcases hf k hk with h1 | h1
    · exact h.fq k h1
    · exact Nat.le_trans h.u.size h1
  · rcases hf k hk' with h1 | h1
    · exact h.d k hk h1
    · have := h.n.lt hk
      omega
end

theorem walk {room ask : Int} {lp : Option Addr} {ln lc : Nat} {W : World} {K : Value → World → Prop} (hA : Acts W lp ln) (hK : ∀ w', Upd Nothing W w' → K (.bool true) w') :
    CallsV prog F.affluxlaw23_QueuePlays #[.int .i64 room, .slice lp ln lc, .int .i64 ask] W K :=
  R.affluxlaw23_QueuePlays (by
    unfold C.affluxlaw23_QueuePlays
    refine ⟨fun w' => ln ≤ 60 ∧ Upd Nothing W w', ifB_mk (fun _ => awake_spec fun w1 hu1 => ⟨true, rfl, hK _ hu1⟩) (fun h => awake_spec fun w1 hu1 => ⟨true, rfl, ifB_mk (fun h => by simp at h) (fun _ => ⟨by simp at h; omega, hu1⟩)⟩), ?_⟩
    rintro w1 ⟨h60, hu1⟩
    by_cases hroom : room < 1 ∨ 10000 < room
    · refine new_none hroom ⟨none, rfl, fun _ => False, ?_, fun _ h => h.elim⟩
      refine ifB_mk (fun _ => hK _ hu1) (fun h => ifB_mk (fun _ => hK _ hu1) (fun h' => ?_))
      simp at h h'
      omega
    obtain ⟨room, rfl⟩ : ∃ r : Nat, room = r := ⟨room.toNat, by omega⟩
    refine new_some (by omega) (by omega) fun b w2 hq2 hu2 hge2 => ⟨_, rfl, fun w' => w' = w2, ?_, ?_⟩
    · refine ifB_mk (fun h => ?_) (fun _ => ifB_mk (fun h => ?_) (fun _ => rfl))
      · simp at h; omega
      · simp at h; omega
    rintro w2 rfl
    refine New.use (by simp [Value.oneCell']) fun tb w3 hb3 hu3 hge3 _ => ?_
    refine hb3.store (i := 0) (by simp) rfl fun w4 hb4 hu4 _ => hb4.store (i := 1) (by simp) rfl fun w5 hb5 hu5 _ => hb5.store (i := 2) (by simp) rfl fun w6 hb6 hu6 _ => hb6.store (i := 3) (by simp) rfl fun w7 hb7 hu7 _ => ?_
    have htb : ∀ i, One tb i → w2.heap.size ≤ i := fun i hi => by rw [show i = tb from hi]; exact hge3
    have hu27 : Upd Nothing w2 w7 := (((hu3.fresh hu4 htb).fresh hu5 htb).fresh hu6 htb).fresh hu7 htb
    have hfb : ∀ k, QF b none 0 k → W.heap.size ≤ k := fun k hk => by
      rcases hk with hk | hk
      · rw [show k = b from hk]; exact Nat.le_trans hu1.size hge2
      · have := hk.1; omega
    have hI0 : PI W b tb room none 0 [] ⟨0, 0, 0, 0⟩ none 0 0 [] ⟨0, 0, 0, 0⟩ w7 :=
      ⟨hq2.upd0 hu27, Own.nil _ _ _, hb7, (hu1.then hu2).then hu27, hfb, fun k hk => by have := hk.1; omega, Nat.le_trans (hu1.then hu2).size hge3, fun k hk => by have := hk.1; omega⟩
    refine ⟨fun np nn nc i w => ∃ (k : Nat) (p : Option Addr) (c : Nat) (xs : List Int) (t : Tl), i = k ∧ k ≤ ln ∧ IntKind.i64.wrap t.went = t.went ∧ PI W b tb room p c xs t np nn nc xs t w, fun _ _ _ i _ => ln - i.toNat, ⟨0, none, 0, [], _, rfl, by omega, rfl, hI0⟩, ?_⟩
    rintro np nn nc i w ⟨i, p, c, xs, t, rfl, hi, hwr, hI⟩
    refine ifB_mk (fun h => ?_) (fun _ => hK _ hI.u)
    have hil : i < ln := by simpa using h
    obtain ⟨a, kind, m, Lp, Ln, Lc, ys, rfl, ha0⟩ := hA i hil
    have ha := ha0.upd0 hI.u
    have hle := hI.q.le
    have hsm := hI.q.small
    have hnn : nn = xs.length := by have := hI.n.len; simp at this; omega
    subst hnn
    simp only [Int.toNat_natCast]
    refine ⟨fun np nn nc w' => ∃ (p : Option Addr) (c : Nat) (xs : List Int) (t : Tl), IntKind.i64.wrap t.went = t.went ∧ PI W b tb room p c xs t np nn nc xs t w', ⟨a, rfl, by omega, by omega, kind, ha.c0, ifB_mk (fun hk0 => ?_) (fun _ => ifB_mk (fun hk1 => ?_) (fun _ => ?_))⟩, ?_⟩
    · -- put
      refine ⟨a, rfl, by omega, by omega, Lp, Ln, Lc, ha.c2, ifB_mk (fun _ => hK _ hI.u) (fun h100 => ?_)⟩
      have hL : Ln ≤ 100 := by simp at h100; omega
      have hyl := ha.len
      refine ⟨fun np nn nc n w' => ∃ m : Nat, n = m ∧ m = min Ln (room - xs.length) ∧ nn = xs.length + m ∧ PI W b tb room p c xs t np nn nc (xs ++ ys.take m) t w', ?_, ?_⟩
      · refine ⟨fun np nn nc n w' => ∃ m : Nat, n = m ∧ m ≤ Ln ∧ m ≤ room - xs.length ∧ nn = xs.length + m ∧ PI W b tb room p c xs t np nn nc (xs ++ ys.take m) t w', fun _ _ _ n _ => Ln - n.toNat, ⟨0, rfl, by omega, by omega, by omega, by simpa using hI⟩, ?_⟩
        rintro np2 nn2 nc2 n w8 ⟨m, rfl, hm1, hm2, rfl, h8⟩
        have ha8 := ha0.upd0 h8.u
        simp only [Int.toNat_natCast]
        refine ⟨a, rfl, by omega, by omega, Lp, Ln, Lc, ha8.c2, ifB_mk (fun h1 => ifB_mk (fun h2 => ?_) (fun h2 => ?_)) (fun h1 => ?_)⟩
        · have h1' : m < Ln := by simpa using h1
          have h2' : xs.length + m < room := by simp at h2; omega
          obtain ⟨a5, h3, h4⟩ := ha8.at_ m _ (ints_get (by omega))
          refine ⟨a, rfl, by omega, by omega, Lp, Ln, Lc, ha8.c2, a5, h3, by omega, by omega, ys[m], by simpa using h4, New.use (by simp [Value.oneCell']) fun g w9 hb9 hu9 hge9 _ => ?_⟩
          have h9 := h8.upd0 hu9
          refine append_own (m := 1) sint (.inl sint.desc) h9.n (Src.slice (m := 1) (ys := [.int .i64 ys[m]]) (At.of_blk hb9 fun j v hj => by rw [Nat.zero_add]; exact hj) rfl (by simp [Value.oneCell'])) (by decide) (by decide) (by omega) fun p' c' w10 ho10 hu10 hf10 => ?_
          have hz : ints (xs ++ ys.take m) ++ [.int .i64 ys[m]] = ints (xs ++ ys.take (m + 1)) := by
            rw [List.take_succ_eq_append_getElem (by omega), ← List.append_assoc, ints_append _ [ys[m]]]; rfl
          rw [hz] at ho10
          refine ⟨p', _, c', rfl, ?_⟩
          rw [i64_wrap (by omega) (by omega)]
          exact ⟨⟨m + 1, by omega, by omega, by omega, by omega, h9.now hu10 ho10 hf10⟩, by show Ln - _ < Ln - _; omega⟩
        · exact ⟨m, rfl, by simp at h2; omega, rfl, h8⟩
        · exact ⟨m, rfl, by simp at h1; omega, rfl, h8⟩
      · rintro np2 nn2 nc2 n w8 ⟨m, rfl, hm, rfl, h8⟩
        refine ⟨t.came, h8.tl.cell (i := 0) rfl, h8.tl.store (i := 0) (by simp) rfl fun w9 hb9 hu9 _ => ?_⟩
        have h9 := (h8.tally (t'' := { t with came := IntKind.i64.wrap (t.came + m) }) hu9 hb9).upd0 (Upd.drew _ _)
        have ha9 := ha0.upd0 h9.u
        refine ⟨t.refused, h9.tl.cell (i := 2) rfl, a, rfl, by omega, by omega, Lp, Ln, Lc, ha9.c2, h9.tl.store (i := 2) (by simp) rfl fun w10 hb10 hu10 _ => ?_⟩
        have h10 := h9.tally (t'' := { t with came := IntKind.i64.wrap (t.came + m), refused := IntKind.i64.wrap (IntKind.i64.wrap (t.refused + (Ln : Nat)) - m) }) hu10 hb10
        refine ⟨t.most, h10.tl.cell (i := 3) rfl, h10.tl.store (i := 3) (by simp) rfl fun w11 hb11 hu11 _ => ?_⟩
        have h11 := h10.tally (t'' := t.put m Ln (xs.length + m)) hu11 (by
          have e : IntKind.i64.wrap (t.refused + IntKind.i64.wrap ((Ln : Int) - (m : Int))) = IntKind.i64.wrap (IntKind.i64.wrap (t.refused + (Ln : Nat)) - m) := by
            rw [i64_wrap_add', i64_wrap_sub]; congr 1; omega
          show Blk w11 tb [.int .i64 (IntKind.i64.wrap (t.came + m)), .int .i64 t.went, .int .i64 (IntKind.i64.wrap (t.refused + IntKind.i64.wrap ((Ln : Int) - (m : Int)))), .int .i64 (mm2 true t.most ((xs.length + m : Nat) : Int))] T.queue_Tally
          rw [e]
          exact hb11)
        have ha11 := ha0.upd0 h11.u
        refine ⟨a, rfl, by omega, by omega, Lp, Ln, Lc, ha11.c2, put_some h11.q ha11.at_ ha11.len ha11.lt fun n p' c' w12 hn hq12 hu12 hf12 => ?_⟩
        have hnm : n = m := by omega
        subst hnm
        have h12 := h11.queue hu12 hq12 hf12
        have ha12 := ha0.upd0 h12.u
        refine ⟨_, _, rfl, ifB_mk (fun h => by simp at h) (fun _ => ⟨a, rfl, by omega, by omega, Lp, Ln, Lc, ha12.c2, ifB_mk (fun h => ?_) (fun _ => ifB_mk (fun h => ifB_mk (fun h' => ?_) (fun _ => ⟨p', c', _, t.put n Ln (xs.length + n), hwr, h12⟩)) (fun _ => ⟨p', c', _, t.put n Ln (xs.length + n), hwr, h12⟩))⟩)⟩
        · by_cases hnl : n < Ln
          · rw [if_pos hnl] at h; simp at h; omega
          · rw [if_neg hnl] at h; simp at h; omega
        · by_cases hnl : n < Ln
          · rw [if_pos hnl] at h'; simp at h'
          · rw [if_neg hnl] at h; simp at h
    · -- take
      have hdr : Upd Nothing w w.drew := Upd.drew _ _
      have hId := hI.upd0 hdr
      have hlec := hI.n.le
      refine ⟨a, rfl, by omega, by omega, m, ha.c1, a, rfl, by omega, by omega, m, (ha.upd0 hdr).c1, ?_⟩
      rw [mm_clip]
      refine ⟨by omega, by omega, take_some hId.q fun k rp rc p' c' w8 hk ho8 hfr hq8 hu8 hf8 => ⟨rp, k, rc, rfl, ?_⟩⟩
      rw [← hk]
      simp only [Int.toNat_natCast, Nat.sub_zero, cutAt_zero]
      have h8 := hId.queue hu8 hq8 (fun j hj => .inl (hf8 j hj))
      refine same_spec (ys := xs.take k) ho8.at (by simp; omega) (by rw [ints_take]; exact h8.n.at.take k) (by simp; omega) (by omega) fun w9 hu9 => ⟨_, rfl, ifB_mk (fun h => by simp at h) (fun _ => ?_)⟩
      have h9 := h8.upd0 hu9
      refine New.use (by simp) fun g w10 hb10 hu10 hge10 _ => ⟨by omega, by omega, ?_⟩
      have h10 := h9.upd0 hu10
      have hatd : At w10 (cutAt np k nc 1) (ints (xs.drop k)) := at_cut h10.n (by omega)
      refine append_own (n := 0) (m := xs.length - k) (xs := []) sint (.inl sint.desc) (Own.zero _ _ _ _) (Src.slice (m := xs.length - k) hatd (by simp) (ints_one _)) (by decide) (by decide) (by omega) fun np' nc' w11 ho11 hu11 hf11 => ?_
      rw [Nat.zero_add, List.nil_append] at ho11
      rw [Nat.zero_add]
      have hu11' : Upd Nothing w10 w11 := hu11.mono fun k _ hk => by have := hk.1; omega
      have h11 : PI W b tb room p' c' (xs.drop k) (if k = 0 then t else t.take k) np' (xs.length - k) nc' (xs.drop k) t w11 := by
        refine h10.now (hu11'.mono fun _ _ h => h.elim) ho11 fun j hj => .inr ?_
        rcases hf11 j hj with h | h
        · have := h.1; omega
        · exact h
      refine ⟨np', _, nc', rfl, t.went, h11.tl.cell (i := 1) rfl, h11.tl.store (i := 1) (by simp) rfl fun w12 hb12 hu12 _ => ?_⟩
      have h12 := h11.tally (t'' := t.take k) hu12 hb12
      have hww : IntKind.i64.wrap (t.take k).went = (t.take k).went := by
        show IntKind.i64.wrap (IntKind.i64.wrap (t.went + k)) = _
        have := i64_wrap_add (t.went + k) 0
        rw [Int.add_zero, Int.add_zero] at this
        exact this
      refine ⟨p', c', xs.drop k, t.take k, hww, ?_⟩
      by_cases hk0 : k = 0
      · rw [if_pos hk0] at h12
        have e : t.take k = t := by
          rw [hk0]
          show ({ t with went := IntKind.i64.wrap (t.went + ((0 : Nat) : Int)) } : Tl) = t
          rw [show t.went + ((0 : Nat) : Int) = t.went by simp, hwr]
        rw [e] at h12 ⊢
        exact h12
      · rw [if_neg hk0] at h12
        exact h12
    · -- remove
      refine ⟨a, rfl, by omega, by omega, m, ha.c1, ?_⟩
      by_cases hout : m < 0 ∨ (xs.length : Int) ≤ m
      · have hrest : ∀ J : Prop, J → ifB ((0 : Int) != 0) (K (.bool false) w) (ifB false (K (.bool false) w) J) := fun J hJ => ifB_mk (fun h => by simp at h) (fun _ => ifB_mk (fun h => by simp at h) (fun _ => hJ))
        have hnext : (∃ (k : Nat) (p : Option Addr) (c : Nat) (xs' : List Int) (t : Tl), IntKind.i64.wrap ((i : Nat) + 1) = k ∧ k ≤ ln ∧ IntKind.i64.wrap t.went = t.went ∧ PI W b tb room p c xs' t np xs.length nc xs' t w) := by
          rw [i64_wrap (by omega) (by omega)]
          exact ⟨i + 1, p, c, xs, t, by omega, by omega, hwr, hI⟩
        have hms : (ln - (IntKind.i64.wrap ((i : Nat) + 1)).toNat) < ln - i := by rw [i64_wrap (by omega) (by omega)]; omega
        refine remove_out hI.q hout ⟨0, false, rfl, a, rfl, by omega, by omega, m, ha.c1, ifB_mk (fun _ => hrest _ ⟨hnext, hms⟩) (fun hneg => ⟨a, rfl, by omega, by omega, m, ha.c1, ifB_mk (fun _ => hrest _ ⟨hnext, hms⟩) (fun hin => ?_)⟩)⟩
        simp at hneg hin
        omega
      · obtain ⟨j, rfl⟩ : ∃ j : Nat, m = j := ⟨m.toNat, by omega⟩
        have hj : j < xs.length := by omega
        refine remove_in hI.q hj fun w8 hq8 hu8 => ?_
        have h8 := hI.queue hu8 hq8 (fun k hk => .inl hk)
        have ha8 := ha0.upd0 h8.u
        refine ⟨_, _, rfl, a, rfl, by omega, by omega, j, ha8.c1, ifB_mk (fun h => by simp at h; omega) (fun _ => ⟨a, rfl, by omega, by omega, j, ha8.c1, ifB_mk (fun h => by simp at h; omega) (fun _ => ?_)⟩)⟩
        obtain ⟨a17, h1, h2⟩ := h8.n.at j _ (ints_get hj)
        refine ⟨a, rfl, by omega, by omega, j, ha8.c1, a17, h1, by omega, by omega, xs[j], by simpa using h2, ifB_mk (fun h => by simp at h) (fun _ => ifB_mk (fun h => by simp at h) (fun _ => ?_))⟩
        have hdr : Upd Nothing w8 w8.drew := Upd.drew _ _
        have hlec := hI.n.le
        have h8d := h8.upd0 hdr
        have ha8d := ha8.upd0 hdr
        refine ⟨a, rfl, by omega, by omega, j, ha8d.c1, by omega, by omega, a, rfl, by omega, by omega, j, ha8d.c1, ?_⟩
        rw [i64_wrap (n := (j : Int) + 1) (by omega) (by omega), show (j : Int) + 1 = ((j + 1 : Nat) : Int) by omega]
        refine ⟨by omega, by omega, New.use (by simp) fun g w9 hb9 hu9 hge9 _ => ?_⟩
        have h9 := h8d.upd0 hu9
        have ha9 := ha8d.upd0 hu9
        refine ⟨ha9.c1, ha9.c1, ?_⟩
        simp only [Int.toNat_natCast, Nat.sub_zero, cutAt_zero]
        refine append_own (n := 0) (m := j) (xs := []) (ys := ints (xs.take j)) sint (.inl sint.desc) (Own.zero _ _ _ _) (Src.slice (m := j) (by rw [ints_take]; exact h9.n.at.take j) (by simp; omega) (ints_one _)) (by decide) (by decide) (by omega) fun bp bc w10 ho10 hu10 hf10 => ?_
        rw [Nat.zero_add, List.nil_append] at ho10
        rw [Nat.zero_add]
        have hu10' : Upd Nothing w9 w10 := hu10.mono fun k _ hk => by have := hk.1; omega
        have hf10' : ∀ k, Fp bp bc k → w9.heap.size ≤ k := fun k hk => by
          rcases hf10 k hk with h | h
          · have := h.1; omega
          · exact h
        have h10 := h9.upd0 hu10'
        have ha10 := ha9.upd0 hu10'
        refine ⟨bp, _, bc, rfl, ha10.c1, ?_⟩
        have hatd : At w10 (cutAt np (j + 1) nc 1) (ints (xs.drop (j + 1))) := at_cut h10.n (by omega)
        refine append_own (n := j) (m := xs.length - (j + 1)) sint (.inl sint.desc) ho10 (Src.slice (m := xs.length - (j + 1)) hatd (by simp) (ints_one _)) (by decide) (by decide) (by omega) fun cp cc w11 ho11 hu11 hf11 => ?_
        rw [← ints_append] at ho11
        have hf11' : ∀ k, Fp cp cc k → w9.heap.size ≤ k := fun k hk => by
          rcases hf11 k hk with h | h
          · exact hf10' k h
          · exact Nat.le_trans hu10'.size h
        have hfd : ∀ k, Fp bp bc k → ∀ k', k' < w9.heap.size → k ≠ k' := fun k hk k' hk' e => by have := hf10' k hk; omega
        have h11 : PI W b tb room p c (xs.take j ++ xs.drop (j + 1)) { t with went := IntKind.i64.wrap (t.went + 1) } cp (j + (xs.length - (j + 1))) cc (xs.take j ++ xs.drop (j + 1)) t w11 := by
          refine ⟨h10.q.upd hu11 fun k hk ho => ?_, ho11, hu11.blk h10.tl fun hk => own_ne ho10 h10.tl (by decide) hk, h10.u.fresh hu11 fun k hk => Nat.le_trans h9.u.size (hf10' k hk), h10.fq, fun k hk => Nat.le_trans h9.u.size (hf11' k hk), h10.ft, fun k hk hk' => ?_⟩
          · have := h9.q.lt hk; have := hf10' k ho; omega
          · have := h9.q.lt hk'; have := hf11' k hk; omega
        refine ⟨cp, _, cc, rfl, t.went, h11.tl.cell (i := 1) rfl, h11.tl.store (i := 1) (by simp) rfl fun w12 hb12 hu12 _ => ?_⟩
        have h12 := h11.tally (t'' := { t with went := IntKind.i64.wrap (t.went + 1) }) hu12 hb12
        refine ⟨p, c, xs.take j ++ xs.drop (j + 1), { t with went := IntKind.i64.wrap (t.went + 1) }, ?_, h12⟩
        have := i64_wrap_add (t.went + 1) 0
        rw [Int.add_zero, Int.add_zero] at this
        exact this
    · -- what waits
      rintro np' nn' nc' w8 ⟨p', c', xs', t', hwr', h8⟩
      have h9 := h8.upd0 (Upd.drew _ _)
      have hnn : nn' = xs'.length := by have := h8.n.len; simp at this; omega
      subst hnn
      refine looks_spec h9.q h9.n.at fun w9 hu9 => ⟨true, rfl, ifB_mk (fun h => by simp at h) (fun _ => ?_)⟩
      have h10 := h9.upd0 hu9
      have hcs : ∀ w', Blk w' tb [.int .i64 t'.came, .int .i64 t'.went, .int .i64 t'.refused, .int .i64 t'.most] T.queue_Tally → cellsAt w' (Addr.mk tb 0 none) 0 [.int .i64 t'.came, .int .i64 t'.went, .int .i64 t'.refused, .int .i64 t'.most] := fun w' hb => ⟨hb.cell (i := 0) rfl, hb.cell (i := 1) rfl, hb.cell (i := 2) rfl, hb.cell (i := 3) rfl, trivial⟩
      refine ⟨t'.came, t'.went, t'.refused, t'.most, hcs _ h10.tl, counts_some h10.q fun w11 hu11 => ⟨_, _, _, _, rfl, hcs _ (h10.upd0 hu11).tl, ifB_mk (fun h => by simp at h) (fun _ => ?_)⟩⟩
      rw [i64_wrap (by omega) (by omega)]
      exact ⟨⟨i + 1, p', c', xs', t', by omega, by omega, hwr', h10.upd0 hu11⟩, by show ln - _ < ln - _; omega⟩)
theorem own : ownKnob Try.prog.godebug = none := by kernel_rfl
theorem laid : laidOutB Try.prog = true := by kernel_rfl

theorem lifted (os : Os) (started : os.Started) (H : Type) (enc : TypeId × Value → H) :
    ReturnsInHanded {} Try.checked os 3 .any (Rows.queuePlaysSpec.pre6 enc Try.prog Try.f3 Rows.queuePlaysRow.domain false) (Rows.queuePlaysSpec.post enc Try.prog Try.f3 false true false false) := by
  refine returnsInHanded_of_change (C := Try.checked) own started (by kernel_rfl) Try.func3
    (ChangeSpec.witness6 (enc := enc) (C := Try.checked) false ⟨#[], #[.int .i64 0, .slice none 0 0, .int .i64 0], []⟩ 8 (by kernel_rfl) (by kernel_rfl) (by kernel_rfl) (by kernel_rfl)) ?_
  intro W base args ds gs before hval0 hW hcnd _
  have hval : ∀ (j : Nat) t v, Try.f3.params[j]? = some t → args[j]? = some v → Value.okWide Try.prog W .any base t v := hval0
  have hW' := hW
  obtain ⟨p, q, hA0, hV, rfl, hfz, hnd⟩ := hW
  have hA : DataW.TrodAll enc Try.prog W 0 (fun _ => true) true Try.f3.params.toList args.toList ds p := hA0
  rw [Try.params3] at hA hval
  obtain ⟨v0, vs0, d0, ds0, p0, q0, hargs, rfl, rfl, h0, r0⟩ := trodAll_cons hA
  obtain ⟨v1, vs1, d1, ds1, p1, q1, rfl, rfl, rfl, h1, r1⟩ := trodAll_cons r0
  obtain ⟨v2, vs2, d2, ds2, p2, q2, rfl, rfl, rfl, h2, r2⟩ := trodAll_cons r1
  obtain ⟨rfl, rfl, rfl⟩ := trodAll_nil r2
  obtain rfl : args = #[v0, v1, v2] := by cases args; simp_all
  obtain ⟨room, eroom, wfroom⟩ := (Rd.of_trod h0).int Try.underlying3
  obtain rfl := Rd.arg Try.underlying3 rfl (hval 0 3 v0 rfl rfl) eroom
  obtain ⟨lp, ln, lc, elp, hacts⟩ := rd_acts (Rd.of_trod h1)
  obtain rfl := Rd.arg Try.underlying22 rfl (hval 1 22 v1 rfl rfl) elp
  obtain ⟨ask, eask, wfask⟩ := (Rd.of_trod h2).int Try.underlying3
  obtain rfl := Rd.arg Try.underlying3 rfl (hval 2 3 v2 rfl rfl) eask
  refine ((walk (W := W) (K := fun v w' => v = .bool true ∧ Upd Nothing W w') hacts fun w' hu => ⟨rfl, hu⟩).back Try.func3 (by kernel_rfl) (by kernel_rfl)).mono fun e W' ⟨v, he, hv, hu⟩ => ?_
  subst he; subst hv
  exact ⟨_, rfl, law_post (tb := 4) laid (by kernel_rfl) hW' rfl rfl (by kernel_rfl) Try.underlying4 hu⟩

theorem over : Rows.QueuePlaysSaid :=
  OpenClaim.holds_of_wide 3 Try.f3 rfl rfl rfl rfl rfl rfl rfl ⟨rfl, rfl, rfl, rfl, rfl⟩ rfl rfl rfl rfl rfl (by kernel_rfl) Try.func3 (by kernel_rfl)
    (of_decide_eq_true (by kernel_rfl)) (by unfold Func.isWrapper; first | (rw [if_pos (by decide +kernel)]; kernel_rfl) | (rw [if_neg (by decide +kernel)]; exact ⟨rfl, rfl⟩))
    (fun os started H enc _ => lifted os started H enc)

#print axioms over
end QPlays
end Go.Proofs.Ytjcgociobhhijaa
