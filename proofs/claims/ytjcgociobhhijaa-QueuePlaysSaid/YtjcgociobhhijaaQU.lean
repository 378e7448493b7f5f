/- The functions of package queue: what each does. -/
import Derived.Test.YtjcgociobhhijaaHL
import Derived.Test.YtjcgociobhhijaaRl0
set_option linter.unusedVariables false
set_option linter.unusedSimpArgs false
set_option maxRecDepth 100000
namespace Go.Proofs.Ytjcgociobhhijaa
open Go Go.Proofs.Ytjcgociobhhijaa.SX
namespace Qu

def ints (xs : List Int) : List Value := xs.map (Value.int .i64)
@[simp] theorem ints_length (xs : List Int) : (ints xs).length = xs.length := by simp [ints]
theorem ints_get {xs : List Int} {i : Nat} (h : i < xs.length) : (ints xs)[i]? = some (.int .i64 xs[i]) := by simp [ints, h]
theorem ints_append (xs ys : List Int) : ints (xs ++ ys) = ints xs ++ ints ys := by simp [ints]
theorem ints_take (xs : List Int) (n : Nat) : ints (xs.take n) = (ints xs).take n := by simp [ints]
theorem ints_drop (xs : List Int) (n : Nat) : ints (xs.drop n) = (ints xs).drop n := by simp [ints]
theorem ints_one (xs : List Int) : ∀ v ∈ ints xs, v.oneCell' = true := by intro v hv; simp only [ints, List.mem_map] at hv; obtain ⟨_, _, rfl⟩ := hv; rfl

theorem sint : SliceT prog T.s_int T.int 1 8 [.int .i64 0] := SliceT.of_tab (ti := ti26) (te := ti3) tabOK (by kernel_rfl) (by kernel_rfl) (by kernel_rfl) (by kernel_rfl)

structure Tl where
  came : Int
  went : Int
  refused : Int
  most : Int

def QF (b : Nat) (p : Option Addr) (c : Nat) : Nat → Prop := Or2 (One b) (Fp p c)

/-- A queue in memory. -/
structure Que (w : World) (b : Nat) (p : Option Addr) (c : Nat) (xs : List Int) (room : Nat) (t : Tl) : Prop where
  blk : Blk w b [.int .i64 t.came, .int .i64 t.went, .int .i64 t.refused, .int .i64 t.most, .slice p xs.length c, .int .i64 room] T.queue_Queue_int
  own : Own w T.int 1 p xs.length c (ints xs)
  le : xs.length ≤ room
  small : room ≤ 10000

section
variable {w : World} {K : Value → World → Prop} {b : Nat} {p : Option Addr} {c room : Nat} {xs : List Int} {t : Tl} {e : Nat} {v1 v2 : Value}

theorem Que.upd {F : Nat → Prop} {w' : World} (h : Que w b p c xs room t) (hu : Upd F w w') (hn : ∀ k, QF b p c k → ¬ F k) : Que w' b p c xs room t :=
  ⟨hu.blk h.blk (hn b (.inl rfl)), h.own.upd hu fun k hk => hn k (.inr hk), h.le, h.small⟩
theorem Que.upd0 {w' : World} (h : Que w b p c xs room t) (hu : Upd Nothing w w') : Que w' b p c xs room t := h.upd hu fun _ _ h => h
theorem Que.lt {k : Nat} (h : Que w b p c xs room t) (hk : QF b p c k) : k < w.heap.size := by
  rcases hk with hk | hk
  · rw [show k = b from hk]; exact h.blk.lt
  · exact h.own.lt hk
/-- The head of a queue is not in its room. -/
theorem Que.ne (h : Que w b p c xs room t) : ¬ Fp p c b := by
  rintro ⟨h0, a, rfl, hk⟩
  rcases h.own.mem with hc | ⟨g, rest, hp, hb, _⟩
  · omega
  · injection hp with hp
    subst hp
    exact h.blk.ne_type hb (by decide) hk

/-! ### New -/
theorem new_none {n : Int} (hn : n < 1 ∨ 10000 < n) (hK : K (.pointer none) w) : CallsV prog F.queue_New_int #[.int .i64 n] w K :=
  R.queue_New_int (by
    unfold C.queue_New_int
    refine ifB_mk (fun h => hK) (fun h => ifB_mk (fun h' => hK) (fun h' => ?_))
    simp at h h'
    omega)

theorem new_some {n : Nat} (h1 : 1 ≤ n) (h2 : n ≤ 10000) (hK : ∀ b w', Que w' b none 0 [] n ⟨0, 0, 0, 0⟩ → Upd Nothing w w' → w.heap.size ≤ b → K (.pointer (some ⟨b, 0, none⟩)) w') : CallsV prog F.queue_New_int #[.int .i64 n] w K :=
  R.queue_New_int (by
    unfold C.queue_New_int
    refine ifB_mk (fun h => ?_) (fun h => ifB_mk (fun h' => ?_) (fun h' => ?_))
    · simp at h; omega
    · simp at h'; omega
    · refine New.use (by simp [Value.oneCell']) fun b w1 hb hu hge hlt => ?_
      exact hK b w1 ⟨hb, Own.nil _ _ _, by simp, h2⟩ hu hge)

/-! ### Len, Free, At, Counts -/
theorem len_none (hK : K (.int .i64 0) w) : CallsV prog F.queue_Queue_int_Len #[.pointer none] w K :=
  R.queue_Queue_int_Len (by unfold C.queue_Queue_int_Len; exact ifB_mk (fun _ => hK) (fun h => by simp at h))
theorem len_some (hq : Que w b p c xs room t) (hK : K (.int .i64 xs.length) w) : CallsV prog F.queue_Queue_int_Len #[.pointer (some ⟨b, 0, none⟩)] w K :=
  R.queue_Queue_int_Len (by
    unfold C.queue_Queue_int_Len
    refine ifB_mk (fun h => by simp at h) (fun _ => ?_)
    refine ⟨_, rfl, p, xs.length, c, ?_, hK⟩
    simp only [Addr.add_mk, Nat.zero_add, hq.blk.get, List.getElem?_cons_zero, List.getElem?_cons_succ])

theorem free_none (hK : K (.int .i64 0) w) : CallsV prog F.queue_Queue_int_Free #[.pointer none] w K :=
  R.queue_Queue_int_Free (by unfold C.queue_Queue_int_Free; exact ifB_mk (fun _ => hK) (fun h => by simp at h))
theorem free_some (hq : Que w b p c xs room t) (hK : K (.int .i64 ((room - xs.length : Nat) : Int)) w.drew) : CallsV prog F.queue_Queue_int_Free #[.pointer (some ⟨b, 0, none⟩)] w K :=
  R.queue_Queue_int_Free (by
    have h1 := hq.le
    have h2 := hq.small
    unfold C.queue_Queue_int_Free
    refine ifB_mk (fun h => by simp at h) (fun _ => ?_)
    have hb := hq.blk.drew
    refine ⟨_, rfl, (room : Int), ?_, _, rfl, p, xs.length, c, ?_, ?_⟩
    · simp only [Addr.add_mk, Nat.zero_add, hb.get, List.getElem?_cons_zero, List.getElem?_cons_succ]
    · simp only [Addr.add_mk, Nat.zero_add, hb.get, List.getElem?_cons_zero, List.getElem?_cons_succ]
    · rw [i64_wrap (by omega) (by omega), show ((room : Int) - (xs.length : Int)) = ((room - xs.length : Nat) : Int) by omega]
      exact hK)

theorem at_none {i : Int} (hK : K (.tuple #[.int .i64 0, .bool false]) w) : CallsV prog F.queue_Queue_int_At #[.pointer none, .int .i64 i] w K :=
  R.queue_Queue_int_At (by
    unfold C.queue_Queue_int_At
    refine ifB_mk (fun _ => hK) (fun h => len_none ⟨0, rfl, ifB_mk (fun _ => hK) (fun h' => ?_)⟩)
    simp at h h'
    omega)
theorem at_out {i : Int} (hq : Que w b p c xs room t) (hi : i < 0 ∨ (xs.length : Int) ≤ i) (hK : K (.tuple #[.int .i64 0, .bool false]) w) : CallsV prog F.queue_Queue_int_At #[.pointer (some ⟨b, 0, none⟩), .int .i64 i] w K :=
  R.queue_Queue_int_At (by
    unfold C.queue_Queue_int_At
    refine ifB_mk (fun _ => hK) (fun h => len_some hq ⟨_, rfl, ifB_mk (fun _ => hK) (fun h' => ?_)⟩)
    simp at h h'
    omega)
theorem at_in {i : Nat} (hq : Que w b p c xs room t) (hi : i < xs.length) (hK : K (.tuple #[.int .i64 xs[i], .bool true]) w) : CallsV prog F.queue_Queue_int_At #[.pointer (some ⟨b, 0, none⟩), .int .i64 i] w K :=
  R.queue_Queue_int_At (by
    unfold C.queue_Queue_int_At
    refine ifB_mk (fun h => by simp at h; omega) (fun h => len_some hq ⟨_, rfl, ifB_mk (fun h' => by simp at h'; omega) (fun h' => ?_)⟩)
    obtain ⟨a, ha, hc⟩ := hq.own.at i _ (ints_get hi)
    refine ⟨_, rfl, p, xs.length, c, ?_, a, ha, by omega, by omega, xs[i], ?_, hK⟩
    · simp only [Addr.add_mk, Nat.zero_add, hq.blk.get, List.getElem?_cons_zero, List.getElem?_cons_succ]
    · simpa using hc)
theorem mm2_nat (a b : Nat) : mm2 false (a : Int) (b : Int) = ((min a b : Nat) : Int) := by rw [mm2_min]; split <;> omega

/-! ### Put -/
theorem put_none {lp : Option Addr} {ln lc : Nat} (hK : K (.tuple #[.int .i64 0, .int .i64 1]) w) : CallsV prog F.queue_Queue_int_Put #[.pointer none, .slice lp ln lc] w K :=
  R.queue_Queue_int_Put (by unfold C.queue_Queue_int_Put; exact ifB_mk (fun _ => hK) (fun h => by simp at h))

theorem came_spec {n m came most : Int} {l : List Value} (hb : Blk w b (.int .i64 came :: v1 :: v2 :: .int .i64 most :: l) e)
    (hK : ∀ w', Blk w' b (.int .i64 (IntKind.i64.wrap (came + n)) :: v1 :: v2 :: .int .i64 (mm2 true most m) :: l) e → Upd (One b) w w' → K (.tuple #[]) w') :
    CallsV prog F.queue_Tally_came #[.pointer (some ⟨b, 0, none⟩), .int .i64 n, .int .i64 m] w K :=
  R.queue_Tally_came (by
    unfold C.queue_Tally_came
    refine ⟨_, rfl, came, hb.cell (i := 0) rfl, _, rfl, hb.store (i := 0) (by simp) rfl fun w1 hb1 hu1 _ => ?_⟩
    refine ⟨_, rfl, most, hb1.cell (i := 3) rfl, _, rfl, hb1.store (i := 3) (by simp) rfl fun w2 hb2 hu2 _ => ?_⟩
    exact hK w2 hb2 (hu1.then hu2))

def Tl.put (t : Tl) (n ln m : Nat) : Tl := ⟨IntKind.i64.wrap (t.came + n), t.went, IntKind.i64.wrap (t.refused + IntKind.i64.wrap ((ln : Int) - (n : Int))), mm2 true t.most (m : Int)⟩

theorem put_some {lp : Option Addr} {ln lc : Nat} {ys : List Int} (hq : Que w b p c xs room t) (hat : At w lp (ints ys)) (hl : ys.length = ln) (hlc : ln ≤ lc)
    (hK : ∀ n p' c' w', n = min ln (room - xs.length) → Que w' b p' c' (xs ++ ys.take n) room (t.put n ln (xs.length + n)) → Upd (QF b p c) w w' → (∀ k, QF b p' c' k → QF b p c k ∨ w.heap.size ≤ k) →
      K (.tuple #[.int .i64 n, .int .i64 (if n < ln then 18 else 0)]) w') : CallsV prog F.queue_Queue_int_Put #[.pointer (some ⟨b, 0, none⟩), .slice lp ln lc] w K :=
  R.queue_Queue_int_Put (by
    have hle := hq.le
    have hsm := hq.small
    have hne := hq.ne
    unfold C.queue_Queue_int_Put
    refine ifB_mk (fun h => by simp at h) (fun _ => free_some hq ⟨_, rfl, _, rfl, p, xs.length, c, hq.blk.drew.drew.cell (i := 4) rfl, ?_⟩)
    rw [mm2_nat]
    obtain ⟨n, hn⟩ : ∃ n, n = min ln (room - xs.length) := ⟨_, rfl⟩
    rw [← hn]
    refine ⟨by omega, by omega, ?_⟩
    rw [cutAt_zero]
    simp only [Int.toNat_natCast, Nat.sub_zero]
    have hd2 : Upd Nothing w w.drew.drew := (Upd.drew _ _).then (Upd.drew _ _)
    have hown : Own w.drew.drew T.int 1 p xs.length c (ints xs) := hq.own.upd0 hd2
    have hat2 : At w.drew.drew lp (ints (ys.take n)) := by rw [ints_take]; exact (hat.upd0 hd2).take n
    refine append_own (m := n) sint (.inl sint.desc) hown (Src.slice (m := n) hat2 (by simp; omega) (ints_one _)) (by decide) (by decide) (by omega) fun p' c' w1 hown1 hu1 hf1 => ?_
    rw [← ints_append] at hown1
    have hb1 := hu1.blk hq.blk.drew.drew hne
    refine ⟨p', _, c', rfl, _, rfl, hb1.store (i := 4) (by simp) rfl fun w2 hb2 hu2 _ => ?_⟩
    have hne' : ¬ Fp p' c' b := fun h => by
      rcases hf1 b h with h | h
      · exact hne h
      · have := hq.blk.lt
        simp at h
        omega
    have hown2 := hown1.upd hu2 (fun k hk ho => hne' (by rw [show k = b from ho] at hk; exact hk))
    have hb2' := hb2.drew
    refine ⟨_, rfl, _, rfl, p', _, c', hb2'.cell (i := 4) rfl, came_spec hb2' fun w3 hb3 hu3 => ⟨rfl, _, rfl, t.refused, hb3.cell (i := 2) rfl, _, rfl, hb3.store (i := 2) (by simp) rfl fun w4 hb4 hu4 _ => ?_⟩⟩
    have hoK : ∀ k, One b k → QF b p c k := fun k hk => .inl hk
    have hu : Upd (QF b p c) w w4 := by
      refine ((((hd2.trans hu1 (fun _ _ h => h.elim) (fun k _ hk => .inr hk)).trans hu2 (fun _ _ h => h) (fun k _ hk => hoK k hk)).then (Upd.drew _ _)).trans hu3 (fun _ _ h => h) (fun k _ hk => hoK k hk)).trans hu4 (fun _ _ h => h) (fun k _ hk => hoK k hk)
    have hown4 : Own w4 T.int 1 p' (xs.length + n) c' (ints (xs ++ ys.take n)) := by
      have h1 := hown2.upd0 (Upd.drew Nothing w2)
      have h2 := h1.upd hu3 (fun k hk ho => hne' (by rw [show k = b from ho] at hk; exact hk))
      exact h2.upd hu4 (fun k hk ho => hne' (by rw [show k = b from ho] at hk; exact hk))
    have hlen : (xs ++ ys.take n).length = xs.length + n := by simp; omega
    have hq4 : Que w4 b p' c' (xs ++ ys.take n) room (t.put n ln (xs.length + n)) := by
      refine ⟨?_, ?_, by omega, hsm⟩
      · rw [hlen]; exact hb4
      · rw [hlen]; exact hown4
    have hfin := hK n p' c' w4 hn hq4 hu fun k hk => by
      rcases hk with hk | hk
      · exact .inl (.inl hk)
      · rcases hf1 k hk with h | h
        · exact .inl (.inr h)
        · exact .inr h
    refine ifB_mk (fun h => ?_) (fun h => ?_)
    · rw [if_pos (by simpa using h)] at hfin; exact hfin
    · rw [if_neg (by simpa using h)] at hfin; exact hfin)
/-! ### slices.Clone, slices.Delete of integers -/
theorem clone_ints {q : Option Addr} {n d : Nat} {ys : List Int} (hat : At w q (ints ys)) (hl : ys.length = n) (hn : n ≤ 10000) (hnil : q = none → n = 0)
    (hK : ∀ p' c' w', Own w' T.int 1 p' n c' (ints ys) → Upd Nothing w w' → (∀ k, Fp p' c' k → w.heap.size ≤ k) → K (.slice p' n c') w') : CallsV prog F.slices_Clone_int_int #[.slice q n d] w K :=
  R.slices_Clone_int_int (by unfold C.slices_Clone_int_int; exact G.clone sint (by decide) (by decide) hat (by simp [hl]) (ints_one _) (by omega) hnil hK)

theorem delete_ints {q : Option Addr} {n d i j : Nat} {ys : List Int} (hown : Own w T.int 1 q n d (ints ys)) (hij : i ≤ j) (hjn : j ≤ n) (hn : n ≤ 10000)
    (hK : ∀ w', Own w' T.int 1 q (n - (j - i)) d (ints (ys.take i ++ ys.drop j)) → Upd (Fp q d) w w' → K (.slice q (n - (j - i)) d) w') : CallsV prog F.slices_Delete_int_int #[.slice q n d, .int .i64 i, .int .i64 j] w K :=
  R.slices_Delete_int_int (by
    unfold C.slices_Delete_int_int
    refine G.delete sint (by decide) hown hij hjn (by omega) fun w' ho hu => hK w' ?_ hu
    rw [Nat.mul_one, Nat.mul_one] at ho
    rw [ints_append, ints_take, ints_drop]
    exact ho)

/-! ### Take -/
theorem take_none {n : Int} (hK : K (.slice none 0 0) w) : CallsV prog F.queue_Queue_int_Take #[.pointer none, .int .i64 n] w K :=
  R.queue_Queue_int_Take (by
    unfold C.queue_Queue_int_Take
    refine len_none ⟨0, rfl, ifB_mk (fun _ => hK) (fun h => ?_)⟩
    exfalso
    simp [mm2_min, mm2_max] at h
    split at h <;> omega)

theorem mm_clip (n : Int) (m : Nat) : mm2 false (mm2 true n 0) (m : Int) = ((min n.toNat m : Nat) : Int) := by
  rw [mm2_min, mm2_max]
  split <;> split <;> omega

def Tl.take (t : Tl) (n : Nat) : Tl := { t with went := IntKind.i64.wrap (t.went + n) }

theorem take_some {n : Int} (hq : Que w b p c xs room t)
    (hK : ∀ (m : Nat) rp rc p' c' w', m = min n.toNat xs.length → Own w' T.int 1 rp m rc (ints (xs.take m)) → (∀ k, Fp rp rc k → w.heap.size ≤ k) → Que w' b p' c' (xs.drop m) room (if m = 0 then t else t.take m) → Upd (QF b p c) w w' → (∀ k, QF b p' c' k → QF b p c k) →
      K (.slice rp m rc) w') : CallsV prog F.queue_Queue_int_Take #[.pointer (some ⟨b, 0, none⟩), .int .i64 n] w K :=
  R.queue_Queue_int_Take (by
    have hle := hq.le
    have hsm := hq.small
    have hne := hq.ne
    unfold C.queue_Queue_int_Take
    refine len_some hq ⟨_, rfl, ?_⟩
    rw [mm_clip]
    obtain ⟨m, hm⟩ : ∃ m, m = min n.toNat xs.length := ⟨_, rfl⟩
    rw [← hm]
    refine ifB_mk (fun h => ?_) (fun h => ?_)
    · have h0 : m = 0 := by simpa using h
      have := hK m none 0 p c w hm (by rw [h0]; exact Own.nil _ _ _) (fun k hk => by have := hk.1; omega) (by rw [h0]; exact hq) (Upd.refl _ _) (fun k hk => hk)
      rw [h0] at this
      exact this
    · have h0 : m ≠ 0 := by simpa using h
      refine ⟨_, rfl, p, xs.length, c, hq.blk.cell (i := 4) rfl, by omega, by have := hq.own.le; omega, ?_⟩
      rw [cutAt_zero]
      simp only [Int.toNat_natCast, Nat.sub_zero]
      have hat : At w p (ints (xs.take m)) := by rw [ints_take]; exact hq.own.at.take m
      refine clone_ints hat (by simp; omega) (by omega) (fun hp => ?_) fun rp rc w1 hr1 hu1 hf1 => ?_
      · obtain ⟨a, ha, _⟩ := hat 0 _ (ints_get (xs := xs.take m) (by simp; omega))
        rw [hp] at ha; simp at ha
      have hq1 := hq.upd0 hu1
      refine ⟨rp, m, rc, rfl, _, rfl, p, xs.length, c, hq1.blk.cell (i := 4) rfl, ?_⟩
      refine delete_ints (i := 0) hq1.own (by omega) (by omega) (by omega) fun w2 ho2 hu2 => ?_
      rw [Nat.sub_zero] at ho2 ⊢
      have hrp : ∀ k, Fp rp rc k → ¬ Fp p c k := fun k hk hk' => by have := hf1 k hk; have := hq.own.lt hk'; omega
      have hrb : ¬ Fp rp rc b := fun hk => by have := hf1 b hk; have := hq.blk.lt; omega
      have hb2 := hu2.blk hq1.blk hne
      have hr2 := hr1.upd hu2 hrp
      refine ⟨p, _, c, rfl, _, rfl, hb2.store (i := 4) (by simp) rfl fun w3 hb3 hu3 _ => ⟨_, rfl, t.went, hb3.cell (i := 1) rfl, _, rfl, hb3.store (i := 1) (by simp) rfl fun w4 hb4 hu4 _ => ?_⟩⟩
      have hoK : ∀ k, One b k → QF b p c k := fun k hk => .inl hk
      have hob : ∀ k, Fp p c k → ¬ One b k := fun k hk ho => hne (by rw [show k = b from ho] at hk; exact hk)
      have hrob : ∀ k, Fp rp rc k → ¬ One b k := fun k hk ho => hrb (by rw [show k = b from ho] at hk; exact hk)
      have hlen : (xs.drop m).length = xs.length - m := by simp
      have ho4 := (ho2.upd hu3 hob).upd hu4 hob
      have hq4 : Que w4 b p c (xs.drop m) room (t.take m) := by
        refine ⟨?_, ?_, by omega, hsm⟩
        · rw [hlen]; exact hb4
        · rw [hlen]; simpa using ho4
      have hu : Upd (QF b p c) w w4 := ((hu1.trans hu2 (fun _ _ h => h.elim) (fun k _ hk => .inr hk)).trans hu3 (fun _ _ h => h) (fun k _ hk => hoK k hk)).trans hu4 (fun _ _ h => h) (fun k _ hk => hoK k hk)
      exact hK m rp rc p c w4 hm ((hr2.upd hu3 hrob).upd hu4 hrob) hf1 (by rw [if_neg h0]; exact hq4) hu (fun k hk => hk))

/-! ### Remove -/
theorem remove_none {i : Int} (hK : K (.tuple #[.int .i64 0, .bool false]) w) : CallsV prog F.queue_Queue_int_Remove #[.pointer none, .int .i64 i] w K :=
  R.queue_Queue_int_Remove (by unfold C.queue_Queue_int_Remove; exact at_none ⟨0, false, rfl, ifB_mk (fun h => by simp at h) (fun _ => hK)⟩)
theorem remove_out {i : Int} (hq : Que w b p c xs room t) (hi : i < 0 ∨ (xs.length : Int) ≤ i) (hK : K (.tuple #[.int .i64 0, .bool false]) w) : CallsV prog F.queue_Queue_int_Remove #[.pointer (some ⟨b, 0, none⟩), .int .i64 i] w K :=
  R.queue_Queue_int_Remove (by unfold C.queue_Queue_int_Remove; exact at_out hq hi ⟨0, false, rfl, ifB_mk (fun h => by simp at h) (fun _ => hK)⟩)
theorem remove_in {i : Nat} (hq : Que w b p c xs room t) (hi : i < xs.length)
    (hK : ∀ w', Que w' b p c (xs.take i ++ xs.drop (i + 1)) room { t with went := IntKind.i64.wrap (t.went + 1) } → Upd (QF b p c) w w' → K (.tuple #[.int .i64 xs[i], .bool true]) w') : CallsV prog F.queue_Queue_int_Remove #[.pointer (some ⟨b, 0, none⟩), .int .i64 i] w K :=
  R.queue_Queue_int_Remove (by
    have hle := hq.le
    have hsm := hq.small
    have hne := hq.ne
    unfold C.queue_Queue_int_Remove
    refine at_in hq hi ⟨_, _, rfl, ifB_mk (fun _ => ?_) (fun h => by simp at h)⟩
    refine ⟨_, rfl, p, xs.length, c, hq.blk.cell (i := 4) rfl, ?_⟩
    rw [i64_wrap (by omega) (by omega), show (i : Int) + 1 = ((i + 1 : Nat) : Int) by omega]
    refine delete_ints hq.own (by omega) (by omega) (by omega) fun w2 ho2 hu2 => ?_
    have hb2 := hu2.blk hq.blk hne
    refine ⟨p, _, c, rfl, _, rfl, hb2.store (i := 4) (by simp) rfl fun w3 hb3 hu3 _ => ⟨_, rfl, t.went, hb3.cell (i := 1) rfl, _, rfl, hb3.store (i := 1) (by simp) rfl fun w4 hb4 hu4 _ => ?_⟩⟩
    have hoK : ∀ k, One b k → QF b p c k := fun k hk => .inl hk
    have hob : ∀ k, Fp p c k → ¬ One b k := fun k hk ho => hne (by rw [show k = b from ho] at hk; exact hk)
    have hlen : (xs.take i ++ xs.drop (i + 1)).length = xs.length - (i + 1 - i) := by simp; omega
    have ho4 := (ho2.upd hu3 hob).upd hu4 hob
    refine hK w4 ⟨?_, ?_, by omega, hsm⟩ (((hu2.mono (fun k _ hk => .inr hk)).trans hu3 (fun _ _ h => h) (fun k _ hk => hoK k hk)).trans hu4 (fun _ _ h => h) (fun k _ hk => hoK k hk))
    · rw [hlen]; exact hb4
    · rw [hlen]; exact ho4)

/-! ### Counts -/
def Tl.val (t : Tl) : Value := .agg #[.int .i64 t.came, .int .i64 t.went, .int .i64 t.refused, .int .i64 t.most]

theorem counts_none (hK : ∀ w', Upd Nothing w w' → K (Tl.val ⟨0, 0, 0, 0⟩) w') : CallsV prog F.queue_Queue_int_Counts #[.pointer none] w K :=
  R.queue_Queue_int_Counts (by
    unfold C.queue_Queue_int_Counts
    refine New.use (by simp [Value.oneCell']) fun g w1 hb1 hu1 hge hlt => ifB_mk (fun _ => ?_) (fun h => by simp at h)
    refine hb1.store (i := 0) (by simp) rfl fun w2 hb2 hu2 _ => hb2.store (i := 1) (by simp) rfl fun w3 hb3 hu3 _ => hb3.store (i := 2) (by simp) rfl fun w4 hb4 hu4 _ => hb4.store (i := 3) (by simp) rfl fun w5 hb5 hu5 _ => ?_
    refine ⟨0, 0, 0, 0, ⟨hb5.cell (i := 0) rfl, hb5.cell (i := 1) rfl, hb5.cell (i := 2) rfl, hb5.cell (i := 3) rfl, trivial⟩, hK w5 ?_⟩
    have hg : ∀ i, One g i → w.heap.size ≤ i := fun i hi => by rw [show i = g from hi]; exact hge
    exact (((hu1.fresh hu2 hg).fresh hu3 hg).fresh hu4 hg).fresh hu5 hg)

theorem counts_some (hq : Que w b p c xs room t) (hK : ∀ w', Upd Nothing w w' → K t.val w') : CallsV prog F.queue_Queue_int_Counts #[.pointer (some ⟨b, 0, none⟩)] w K :=
  R.queue_Queue_int_Counts (by
    unfold C.queue_Queue_int_Counts
    refine New.use (by simp [Value.oneCell']) fun g w1 hb1 hu1 hge hlt => ifB_mk (fun h => by simp at h) (fun _ => ?_)
    have hq1 := hq.upd0 hu1
    refine ⟨_, rfl, t.came, t.went, t.refused, t.most, ⟨hq1.blk.cell (i := 0) rfl, hq1.blk.cell (i := 1) rfl, hq1.blk.cell (i := 2) rfl, hq1.blk.cell (i := 3) rfl, trivial⟩, ?_⟩
    refine hb1.store (i := 0) (by simp) rfl fun w2 hb2 hu2 _ => hb2.store (i := 1) (by simp) rfl fun w3 hb3 hu3 _ => hb3.store (i := 2) (by simp) rfl fun w4 hb4 hu4 _ => hb4.store (i := 3) (by simp) rfl fun w5 hb5 hu5 _ => ?_
    refine ⟨t.came, t.went, t.refused, t.most, ⟨hb5.cell (i := 0) rfl, hb5.cell (i := 1) rfl, hb5.cell (i := 2) rfl, hb5.cell (i := 3) rfl, trivial⟩, hK w5 ?_⟩
    have hg : ∀ i, One g i → w.heap.size ≤ i := fun i hi => by rw [show i = g from hi]; exact hge
    exact (((hu1.fresh hu2 hg).fresh hu3 hg).fresh hu4 hg).fresh hu5 hg)
end
end Qu
end Go.Proofs.Ytjcgociobhhijaa
