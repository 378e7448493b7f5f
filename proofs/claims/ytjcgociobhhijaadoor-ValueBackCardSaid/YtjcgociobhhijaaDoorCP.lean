/- Numbers' texts: printed and parsed, by the program and by the document. -/
import Derived.Test.YtjcgociobhhijaaDoorCA
import Derived.Laws.Externs
set_option linter.unusedVariables false
set_option linter.unusedSimpArgs false
set_option maxRecDepth 100000
namespace Go.Proofs.YtjcgociobhhijaaDoor
open Go Go.Proofs.YtjcgociobhhijaaDoor.SX Va Sc
namespace Ca
def inr (n : Int) : Prop := -9223372036854775808 ≤ n ∧ n ≤ 9223372036854775807
/-- What parsing a text answers: its number, or none. -/
def ParseP (s : List UInt8) (n e : Int) : Prop := (e = 0 ∧ inr n ∧ s = dtext n) ∨ (e ≠ 0 ∧ ∀ m, inr m → s ≠ dtext m)

theorem dtext_neg {m : Int} (h : m < 0) : dtext m = 45 :: ntext m.natAbs := by unfold dtext; rw [if_pos h]
theorem dtext_pos {m : Int} (h : 0 ≤ m) : dtext m = ntext m.natAbs := by unfold dtext; rw [if_neg (by omega)]
theorem ntext_not45 (n : Nat) : (ntext n).head? ≠ some 45 := fun h => by
  have : (45 : UInt8) ∈ ntext n := List.mem_of_mem_head? (by rw [h]; rfl)
  exact absurd (ntext_dig n 45 this).1 (by decide)
theorem parse_bad {s : List UInt8} {f : Nat} (hf : (f = 1 ∧ s.head? = some 45) ∨ (f = 0 ∧ s.head? ≠ some 45)) (h : (∃ b ∈ s.drop f, ¬ isDig b) ∨ s.drop f = [] ∨ ((s.drop f).head? = some 48 ∧ 1 < s.length)) : ∀ m, s ≠ dtext m := by
  intro m e
  by_cases hm : m < 0
  · rw [dtext_neg hm] at e
    have h1 : f = 1 := by
      rcases hf with h | h
      · exact h.1
      · exact absurd (by rw [e]; rfl) h.2
    rw [h1, e] at h
    simp only [List.drop_succ_cons, List.drop_zero] at h
    rcases h with ⟨b, hb, hn⟩ | h | ⟨h, _⟩
    · exact hn (ntext_dig _ b hb)
    · exact ntext_ne _ h
    · have := congrArg tval (ntext_head _ h)
      rw [tval_ntext] at this
      have h0 : tval [48] = 0 := rfl
      omega
  · rw [dtext_pos (by omega)] at e
    have h1 : f = 0 := by
      rcases hf with h | h
      · have h2 := h.2
        rw [e] at h2
        exact absurd h2 (ntext_not45 _)
      · exact h.1
    rw [h1, e] at h
    simp only [List.drop_zero] at h
    rcases h with ⟨b, hb, hn⟩ | h | ⟨h, hl⟩
    · exact hn (ntext_dig _ b hb)
    · exact ntext_ne _ h
    · rw [ntext_head _ h] at hl
      simp at hl
theorem parse_good {s : List UInt8} {f : Nat} (hf : (f = 1 ∧ s.head? = some 45) ∨ (f = 0 ∧ s.head? ≠ some 45)) (hd : ∀ b ∈ s.drop f, isDig b) (hne : s.drop f ≠ []) (h0 : (s.drop f).head? = some 48 → s.length ≤ 1) :
    s = dtext (if f = 1 then -(tval (s.drop f) : Int) else (tval (s.drop f) : Int)) := by
  rcases hf with ⟨rfl, hh⟩ | ⟨rfl, hh⟩
  · rw [if_pos rfl]
    obtain ⟨b, r, rfl⟩ : ∃ b r, s = b :: r := by
      cases s with
      | nil => simp at hh
      | cons b r => exact ⟨b, r, rfl⟩
    simp only [List.head?_cons, Option.some.injEq] at hh
    subst hh
    simp only [List.drop_succ_cons, List.drop_zero] at *
    have hlen : r ≠ [] := hne
    have hr := ntext_of hd hne fun h => by
      have := h0 h
      cases r with
      | nil => exact absurd rfl hlen
      | cons x r => simp at this
    have hnz : tval r ≠ 0 := fun e => by
      rw [e] at hr
      have := h0 (by rw [hr]; rfl)
      rw [hr] at this
      simp [ntext] at this
    rw [dtext_neg (by omega)]
    have : (-(tval r : Int)).natAbs = tval r := by omega
    rw [this, ← hr]
  · rw [if_neg (by decide)]
    simp only [List.drop_zero] at *
    have hr := ntext_of hd hne fun h => by
      have := h0 h
      cases s with
      | nil => exact absurd rfl hne
      | cons x r =>
        simp only [List.head?_cons, Option.some.injEq] at h
        simp only [List.length_cons] at this
        have : r = [] := List.length_eq_zero_iff.1 (by omega)
        rw [h, this]
    rw [dtext_pos (by omega)]
    have : ((tval s : Nat) : Int).natAbs = tval s := by omega
    rw [this]
    exact hr
theorem parse_range {s : List UInt8} {x : Int} (hs : s = dtext x) (hx : ¬ inr x) : ∀ m, inr m → s ≠ dtext m := fun m hm e => hx (by rw [dtext_inj (hs.symm.trans e)]; exact hm)

theorem drop_set_self {α : Type} : ∀ (L : List α) (i : Nat) (v : α), i < L.length → (L.set i v).drop i = v :: L.drop (i + 1)
  | [], _, _, h => by simp at h
  | x :: L, 0, v, _ => rfl
  | x :: L, i + 1, v, h => by
    simp only [List.set_cons_succ, List.drop_succ_cons]
    exact drop_set_self L i v (by simpa using h)
theorem at_drop {w : World} {b e i : Nat} {L xs : List Value} (h : Blk w b L e) (hd : L.drop i = xs) : At w (some ⟨b, i, none⟩) xs := by
  subst hd
  exact At.of_blk h fun j v hj => by rw [List.getElem?_drop] at hj; exact hj

section
variable {w : World} {K : Value → World → Prop} {p q : Option Addr} {n c m d : Nat}
theorem size_spec {x : Int} (hx : inr x) (hK : K (.int .u64 (x.natAbs : Int)) w) : CallsV prog F.calc_size #[.int .i64 x] w K :=
  R.calc_size (by
    obtain ⟨h1, h2⟩ := hx
    unfold C.calc_size
    refine ifB_mk (fun h => ?_) (fun h => ?_)
    · have h0 := of_decide_eq_true h
      have : IntKind.u64.wrap (0 - IntKind.u64.wrap x) = (x.natAbs : Int) := by
        simp [IntKind.wrap, IntKind.signed, IntKind.bits]
        omega
      rw [this]
      exact hK
    · have h0 := of_decide_eq_false h
      have : IntKind.u64.wrap x = (x.natAbs : Int) := by
        simp [IntKind.wrap, IntKind.signed, IntKind.bits]
        omega
      rw [this]
      exact hK)

theorem digs_len19 {x : Int} (hx : inr x) : (digs x.natAbs).length ≤ 19 := by
  obtain ⟨h1, h2⟩ := hx
  exact digs_length_le (by show x.natAbs < 10000000000000000000; omega)
theorem rest_le {N U : Nat} {done : List Nat} (h : digs N = done ++ digs U) : U ≤ N := by
  have h1 := congrArg dval h
  rw [dval_digs, dval_append, dval_digs] at h1
  have : 1 ≤ 10 ^ done.length := Nat.one_le_pow _ _ (by decide)
  have := Nat.mul_le_mul_right U this
  omega

theorem cprint_spec {x : Int} (hx : inr x) (hK : ∀ w', Upd Nothing w w' → K (.string (tx (dtext x))) w') : CallsV prog F.calc_Print #[.int .i64 x] w K :=
  R.calc_Print (by
    unfold C.calc_Print
    refine ifB_mk (fun h => ?_) (fun h => ?_)
    · have h0 : x = 0 := beq_iff_eq.1 h
      subst h0
      exact hK w (Upd.refl _ _)
    have hx0 : x ≠ 0 := by simpa using h
    have hN := digs_len19 hx
    have hnz : x.natAbs ≠ 0 := by omega
    refine New.use (by simp [Value.oneCell']) fun g w1 hb1 hu1 hge1 _ => size_spec hx ⟨_, rfl, ?_⟩
    refine ⟨fun at_ u w' => ∃ (k U : Nat) (done : List Nat) (L : List Value), at_ = ((20 - k : Nat) : Int) ∧ k ≤ 20 ∧ u = U ∧ done.length = k ∧ digs x.natAbs = done ++ digs U ∧ Blk w' g L T.t20_uint8 ∧ L.length = 20 ∧ L.drop (20 - k) = bytesV (done.reverse.map digB) ∧ Upd Nothing w w',
      fun _ u _ => u.toNat, ⟨0, x.natAbs, [], _, rfl, by decide, rfl, rfl, rfl, hb1, rfl, rfl, hu1⟩, ?_⟩
    rintro at_ u w2 ⟨k, U, done, L, rfl, hk, rfl, hdl, hdg, hb2, hL, hdr, hu2⟩
    have hfr : ∀ w', Upd (SX.One g) w2 w' → Upd Nothing w w' := fun w' hu => hu2.fresh hu fun i hi => by rw [show i = g from hi]; exact hge1
    have hlen := congrArg List.length hdg
    rw [List.length_append] at hlen
    have hidx : k ≤ 19 → IntKind.i64.wrap (((20 - k : Nat) : Int) - 1) = ((19 - k : Nat) : Int) := fun h => by rw [i64_wrap (by omega) (by omega)]; omega
    refine ifB_mk (fun h => ?_) (fun h => ?_)
    · have hU : 0 < U := by have := of_decide_eq_true h; omega
      have hUle := rest_le hdg
      have hx2 := hx.1
      have hx3 := hx.2
      rw [digs_pos hU, List.length_cons] at hlen
      rw [hidx (by omega)]
      have e1 : Int.tmod (U : Int) 10 = ((U % 10 : Nat) : Int) := by rw [Int.tmod_eq_emod_of_nonneg (by omega)]; omega
      have e2 : IntKind.u64.wrap (Int.tdiv (U : Int) 10) = ((U / 10 : Nat) : Int) := by
        rw [Int.tdiv_eq_ediv_of_nonneg (by omega)]
        simp [IntKind.wrap, IntKind.signed, IntKind.bits]
        omega
      have hdb : (digB (U % 10)).toNat = 48 + U % 10 := digB_toNat (Nat.mod_lt _ (by decide))
      have e3 : IntKind.u8.wrap (IntKind.u64.wrap ((48 : Int) + ((U % 10 : Nat) : Int))) = ((digB (U % 10)).toNat : Int) := by
        rw [hdb]
        simp [IntKind.wrap, IntKind.signed, IntKind.bits]
        omega
      rw [e1, e2, e3]
      simp only [Int.toNat_natCast, Nat.mul_one, Addr.add_mk, Nat.zero_add]
      refine ⟨by decide, by omega, by omega, hb2.store (i := 19 - k) (by omega) rfl fun w4 hb4 hu4 _ => ⟨by decide, ⟨k + 1, U / 10, done ++ [U % 10], _, by omega, by omega, rfl, by simp [hdl], ?_, hb4, by simp [hL], ?_, ?_⟩, by omega⟩⟩
      · rw [hdg, digs_pos hU, List.append_assoc]; rfl
      · rw [show 20 - (k + 1) = 19 - k by omega, drop_set_self _ _ _ (by omega), show 19 - k + 1 = 20 - k by omega, hdr]
        simp [bytesV]
      · exact hfr _ hu4
    · have hU : U = 0 := by have := of_decide_eq_false h; omega
      subst hU
      rw [digs_zero, List.append_nil] at hdg
      have hk19 : k ≤ 19 := by rw [← hdl, ← hdg]; exact hN
      have hk1 : 1 ≤ k := by
        rcases Nat.eq_zero_or_pos k with h0 | h0
        · rw [h0] at hdl
          rw [List.length_eq_zero_iff.1 hdl] at hdg
          exact absurd (digs_nil hdg) hnz
        · exact h0
      have hnt : ntext x.natAbs = done.reverse.map digB := by unfold ntext; rw [if_neg hnz, hdg]
      refine ifB_mk (fun h1 => ?_) (fun h1 => ?_)
      · have hneg := of_decide_eq_true h1
        rw [hidx hk19]
        simp only [Int.toNat_natCast, Nat.mul_one, Addr.add_mk, Nat.zero_add]
        refine ⟨by omega, by omega, hb2.store (i := 19 - k) (by omega) rfl fun w4 hb4 hu4 _ => ⟨by omega, by omega, ?_⟩⟩
        have hcut : cutAt1 (Addr.mk g 0 none) (19 - k) 20 1 = ⟨g, 19 - k, none⟩ := by unfold cutAt1; rw [if_neg (by omega), Addr.add_mk]; simp
        rw [hcut]
        refine to_text (l := 45 :: done.reverse.map digB) (at_drop hb4 ?_) (by simp [hdl]; omega) ⟨_, rfl, ?_⟩
        · rw [drop_set_self _ _ _ (by omega), show 19 - k + 1 = 20 - k by omega, hdr]
          rfl
        · have := hK w4 (hfr _ hu4)
          rw [dtext_neg hneg, hnt] at this
          exact this
      · have hpos := of_decide_eq_false h1
        simp only [Int.toNat_natCast]
        have hcut : cutAt1 (Addr.mk g 0 none) (20 - k) 20 1 = ⟨g, 20 - k, none⟩ := by unfold cutAt1; rw [if_neg (by omega), Addr.add_mk]; simp
        rw [hcut]
        refine ⟨by omega, by omega, to_text (l := done.reverse.map digB) (at_drop hb2 hdr) (by simp [hdl]; omega) ⟨_, rfl, ?_⟩⟩
        have := hK w2 hu2
        rw [dtext_pos (by omega), hnt] at this
        exact this)
end
end Ca
end Go.Proofs.YtjcgociobhhijaaDoor
