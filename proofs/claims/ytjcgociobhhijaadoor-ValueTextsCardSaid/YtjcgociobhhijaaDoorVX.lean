/- The functions of package value, and of the document's answer for it, that read keys: what each does. -/
import Derived.Test.YtjcgociobhhijaaDoorVP
import Derived.Test.YtjcgociobhhijaaDoorVU
set_option linter.unusedVariables false
set_option linter.unusedSimpArgs false
set_option maxRecDepth 100000
namespace Go.Proofs.YtjcgociobhhijaaDoor
open Go Go.Proofs.YtjcgociobhhijaaDoor.SX
namespace Va

theorem ext_drop (s : ByteArray) (i : Nat) : s.extract i s.size = txt (s.data.toList.drop i) := by
  refine ba_ext ?_
  simp [txt]
  exact List.take_of_length_le (by rw [List.length_drop]; exact Nat.le_refl _)
theorem ext_take (s : ByteArray) (n : Nat) : s.extract 0 n = txt (s.data.toList.take n) := by
  refine ba_ext ?_
  simp [txt]
theorem ext_mid (s : ByteArray) (i j : Nat) : s.extract i j = txt ((s.data.toList.drop i).take (j - i)) := by
  refine ba_ext ?_
  simp [txt, List.drop_take]
theorem txt_toList (l : List UInt8) : (txt l).data.toList = l := by simp [txt]
theorem txt_size (l : List UInt8) : (txt l).size = l.length := by simp [txt, ByteArray.size]
theorem size_len (s : ByteArray) : s.data.toList.length = s.size := rfl
theorem bt_get {s : ByteArray} {i : Nat} (h : i < s.size) : bt s (i : Int) = ((s.data.toList[i]'(by rw [size_len]; exact h)).toNat : Int) := by
  unfold bt
  rw [dif_pos (by simpa using h)]
  rfl

section
variable {w : World} {K : Value → World → Prop} {p q : Option Addr} {n c m d : Nat} {xs ys : List Val} {a b v : Val} {l : List UInt8} {s : ByteArray}

theorem prefix_spec {s pre : ByteArray} (hK : ∀ r : Bool, (r = true ↔ s.data.toList.take pre.size = pre.data.toList) → K (.bool r) w) : CallsV prog F.strings_HasPrefix #[.string s, .string pre] w K :=
  R.strings_HasPrefix (by
    unfold C.strings_HasPrefix
    refine R.internal_stringslite_HasPrefix ?_
    unfold C.internal_stringslite_HasPrefix
    refine ifB_mk (fun h => ⟨by omega, by simpa using h, _, rfl, hK _ ?_⟩) (fun h => ⟨_, rfl, hK _ ?_⟩)
    · rw [sEq_iff, Int.toNat_natCast, ext_take]
      refine ⟨fun e => by have := congrArg (fun x : ByteArray => x.data.toList) e; simpa only [txt_toList] using this, fun e => ?_⟩
      rw [e]
      exact txt_self pre
    · refine ⟨fun e => (by cases e), fun e => ?_⟩
      have h1 : ¬ pre.size ≤ s.size := by simpa using h
      have := congrArg List.length e
      rw [List.length_take, size_len, size_len] at this
      omega)

/-- A text of a key. -/
theorem text_of (hs : s.size ≤ 1000000) (hK : ∀ w', Upd Nothing w w' → K (match untext s.data.toList with
    | some x => .tuple #[.string (txt x.1), .string (txt x.2), .bool true]
    | none => .tuple #[.string (txt []), .string (txt []), .bool false]) w') : CallsV prog F.value_text #[.string s] w K :=
  R.value_text (by
    unfold C.value_text
    refine ⟨fun bp bn bc i w' => ∃ (j : Nat) (done : List UInt8), i = j ∧ j ≤ s.size ∧ done.length ≤ j ∧ Own w' T.uint8 1 bp bn bc (bytesV done) ∧ Upd Nothing w w' ∧ (∀ k, Fp bp bc k → w.heap.size ≤ k) ∧ untext s.data.toList = (untext (s.data.toList.drop j)).map (fun x => (done ++ x.1, x.2)),
      fun _ _ _ i _ => s.size - i.toNat, ⟨0, [], rfl, by omega, by simp, Own.nil _ _ _, Upd.refl _ _, fun k hk => by have := hk.1; omega, by simp⟩, ?_⟩
    rintro bp bn bc i w1 ⟨j, done, rfl, hj, hdl, ho1, hu1, hf1, hun⟩
    have hnone : untext s.data.toList = none → K (.tuple #[.string (bs []), .string (bs []), .bool false]) w1 := fun h => by
      have := hK w1 hu1
      rw [h] at this
      exact this
    have hbn : bn = done.length := by have := ho1.len; simp at this; omega
    refine ifB_mk (fun h => ?_) (fun h => ?_)
    · have hjs : j < s.size := by simpa using h
      have hL : s.data.toList.drop j = s.data.toList[j]'(by rw [size_len]; exact hjs) :: s.data.toList.drop (j + 1) := List.drop_eq_getElem_cons (by rw [size_len]; exact hjs)
      rw [bt_get hjs]
      generalize s.data.toList[j]'(by rw [size_len]; exact hjs) = x at hL
      refine ⟨by omega, by omega, ifB_mk (fun h0 => ⟨by omega, by omega, ?_⟩) (fun h0 => ⟨by omega, by omega, ?_⟩)⟩
      · have hx : x ≠ 0 := fun e => by rw [e] at h0; simp at h0
        refine app1 rfl ho1 (by omega) fun p2 c2 w2 ho2 hu2 hf2 => ⟨p2, _, c2, rfl, ?_⟩
        rw [i64_wrap (by omega) (by omega)]
        refine ⟨⟨j + 1, done ++ [x], by omega, by omega, by simp; omega, ho2, hu1.fresh hu2 hf1, fun k hk => ?_, ?_⟩, by show s.size - _ < s.size - _; omega⟩
        · rcases hf2 k hk with h | h
          · exact hf1 k h
          · exact Nat.le_trans hu1.size h
        · rw [hun, hL, untext_step hx]
          cases untext (s.data.toList.drop (j + 1)) <;> simp
      · have hx : x = 0 := by
          have : x.toNat = 0 := by simp only [bne_eq_false_iff_eq] at h0; omega
          exact UInt8.toNat_inj.1 this
        subst hx
        rw [Int.toNat_natCast, ext_drop]
        refine prefix_spec fun r1 hr1 => ⟨r1, rfl, ifB_mk (fun h1 => ?_) (fun h1 => ⟨by omega, by omega, prefix_spec fun r2 hr2 => ⟨r2, rfl, ifB_mk (fun h2 => ?_) (fun h2 => ?_)⟩⟩)⟩
        · have e := hr1.1 h1
          rw [txt_toList] at e
          have e2 : (s.data.toList.drop j).take 2 = [0, 1] := e
          have hlen := congrArg List.length e2
          rw [List.length_take, List.length_drop, size_len] at hlen
          have hlen' : 2 ≤ s.size - j := by simp at hlen; omega
          have e3 : s.data.toList.drop j = 0 :: 1 :: s.data.toList.drop (j + 2) := by
            have := List.take_append_drop 2 (s.data.toList.drop j)
            rw [e2, List.drop_drop] at this
            exact this.symm
          rw [i64_wrap (by omega) (by omega), show ((j : Int) + 2).toNat = j + 2 by omega, ext_drop]
          refine ⟨by omega, by omega, to_text (ho1.upd0 (Upd.drew _ _)).at hbn.symm ⟨_, rfl, ?_⟩⟩
          have := hK w1.drew (hu1.then (Upd.drew _ _))
          rw [hun, e3] at this
          simp only [untext, ↓reduceIte, Option.map_some, List.append_nil] at this
          exact this
        · have e := hr2.1 h2
          rw [txt_toList] at e
          have e2 : (s.data.toList.drop j).take 2 = [0, 255] := e
          have hlen := congrArg List.length e2
          rw [List.length_take, List.length_drop, size_len] at hlen
          have hlen' : 2 ≤ s.size - j := by simp at hlen; omega
          have e3 : s.data.toList.drop j = 0 :: 255 :: s.data.toList.drop (j + 2) := by
            have := List.take_append_drop 2 (s.data.toList.drop j)
            rw [e2, List.drop_drop] at this
            exact this.symm
          refine app1 (y := 0) rfl ho1 (by omega) fun p2 c2 w2 ho2 hu2 hf2 => ⟨p2, _, c2, rfl, ?_⟩
          rw [i64_wrap (n := (j : Int) + 1) (by omega) (by omega), i64_wrap (by omega) (by omega)]
          refine ⟨⟨j + 2, done ++ [0], by omega, by omega, by simp; omega, ho2, hu1.fresh hu2 hf1, fun k hk => ?_, ?_⟩, by show s.size - _ < s.size - _; omega⟩
          · rcases hf2 k hk with h | h
            · exact hf1 k h
            · exact Nat.le_trans hu1.size h
          · rw [hun, e3, untext]
            simp only [↓reduceIte, show ¬ ((255 : UInt8) = 1) by decide]
            cases untext (s.data.toList.drop (j + 2)) <;> simp
        · refine hnone ?_
          have n1 : ¬ (s.data.toList.drop j).take 2 = [0, 1] := fun e => by
            have := hr1.2 (by rw [txt_toList]; exact e)
            rw [this] at h1; cases h1
          have n2 : ¬ (s.data.toList.drop j).take 2 = [0, 255] := fun e => by
            have := hr2.2 (by rw [txt_toList]; exact e)
            rw [this] at h2; cases h2
          rw [hun]
          rw [hL] at n1 n2 ⊢
          cases hd : s.data.toList.drop (j + 1) with
          | nil => rfl
          | cons y r =>
            rw [hd] at n1 n2
            simp only [List.take_succ_cons, List.take_zero, List.cons.injEq, true_and, and_true] at n1 n2
            rw [untext, if_pos rfl, if_neg n1, if_neg n2]
            rfl
    · have hjs : j = s.size := by simp at h; omega
      refine hnone ?_
      rw [hun, hjs, List.drop_of_length_le (by rw [size_len]; omega)]
      rfl)
theorem set_val {e : Nat} {g : Nat} {x y z : Value} {Q : World → Prop} (v : Val) (hb : Blk w g [x, y, z] e) (hQ : ∀ w', Blk w' g v.cells e → Upd (One g) w w' → Q w') :
    CanSt w ((Addr.mk g 0 none).add 0) ∧ ∀ w2, w2 = w.setCell ((Addr.mk g 0 none).add 0) (.int .i64 v.k) →
    CanSt w2 ((Addr.mk g 0 none).add 1) ∧ ∀ w3, w3 = w2.setCell ((Addr.mk g 0 none).add 1) (.int .i64 v.n) →
    CanSt w3 ((Addr.mk g 0 none).add 2) ∧ ∀ w4, w4 = w3.setCell ((Addr.mk g 0 none).add 2) (.string v.s) → Q w4 :=
  hb.store (i := 0) (by simp) rfl fun w2 hb2 hu2 _ => hb2.store (i := 1) (by simp) rfl fun w3 hb3 hu3 _ => hb3.store (i := 2) (by simp) rfl fun w4 hb4 hu4 _ => hQ w4 hb4 ((hu2.then hu3).then hu4)

theorem bits_or {x y : Nat} (hx : x < 2 ^ 64) (hy : y < 2 ^ 64) (hxy : x ||| y < 2 ^ 64) : bits .or .u64 (x : Int) (y : Int) = ((x ||| y : Nat) : Int) := by
  have key : (BitVec.ofInt 64 (x : Int) ||| BitVec.ofInt 64 (y : Int)).toNat = x ||| y := by
    rw [BitVec.ofInt_natCast, BitVec.ofInt_natCast, BitVec.toNat_or, BitVec.toNat_ofNat, BitVec.toNat_ofNat, Nat.mod_eq_of_lt hx, Nat.mod_eq_of_lt hy]
  show IntKind.u64.wrap (((BitVec.ofInt 64 (x : Int) ||| BitVec.ofInt 64 (y : Int)).toNat : Nat) : Int) = _
  rw [key]
  generalize x ||| y = z at *
  simp [IntKind.wrap, IntKind.signed, IntKind.bits]
  omega
theorem or_nat {u y : Nat} (hu : u < 72057594037927936) (hy : y < 256) : bits .or .u64 ((256 * u : Nat) : Int) (y : Int) = ((u * 256 + y : Nat) : Int) := by
  have h3 : 256 * u ||| y = 256 * u + y := by
    have := Nat.two_pow_add_eq_or_of_lt (i := 8) (b := y) (by omega) u
    rw [show (2 : Nat) ^ 8 = 256 from rfl] at this
    exact this.symm
  rw [bits_or (by omega) (by omega) (by rw [h3]; omega), h3, Nat.mul_comm]
theorem wrap_shl (u : Nat) (hu : u < 72057594037927936) : IntKind.u64.wrap ((u : Int) * 256) = ((256 * u : Nat) : Int) := by
  simp [IntKind.wrap, IntKind.signed, IntKind.bits]
  omega
theorem wrap_u8 (y : Nat) (hy : y < 256) : IntKind.u64.wrap (y : Int) = (y : Int) := by
  simp [IntKind.wrap, IntKind.signed, IntKind.bits]
  omega
theorem pow_eight : (2 : Int) ^ (min (8 : Int).toNat IntKind.u64.bits) = 256 := by decide
theorem or_byte {u y : Nat} (hu : u < 72057594037927936) (hy : y < 256) : bits .or .u64 (IntKind.u64.wrap ((u : Int) * 2 ^ (min (8 : Int).toNat IntKind.u64.bits))) (IntKind.u64.wrap (y : Int)) = ((u * 256 + y : Nat) : Int) := by
  rw [pow_eight, wrap_shl u hu, wrap_u8 y hy, or_nat hu hy]

theorem xor_down {u : Nat} (hu : u < 18446744073709551616) : IntKind.i64.wrap (bits .xor .u64 (u : Int) 9223372036854775808) = (u : Int) - 9223372036854775808 := by
  have h1 : IntKind.u64.wrap (u : Int) = (u : Int) := by
    simp [IntKind.wrap, IntKind.signed, IntKind.bits]
    omega
  have h2 := bits_top (u : Int)
  rw [h1] at h2
  rw [h2]
  unfold up
  simp [IntKind.wrap, IntKind.signed, IntKind.bits]
  omega

/-- The first value of a key. -/
theorem take_of {x : UInt8} {r : List UInt8} (hL : s.data.toList = x :: r) (hs : s.size ≤ 1000000)
    (hK1 : ∀ (v : Val) rest w', firstV (x :: r) = some (v, rest) → Upd Nothing w w' → K (.tuple #[v.val, .string (txt rest), .bool true]) w')
    (hK2 : ∀ (v : Val) t w', firstV (x :: r) = none → Upd Nothing w w' → K (.tuple #[v.val, .string t, .bool false]) w') : CallsV prog F.value_take #[.string s] w K :=
  R.value_take (by
    unfold C.value_take
    have hsz : s.size = r.length + 1 := by rw [← size_len, hL]; simp
    have hb0 : bt s (0 : Int) = (x.toNat : Int) := by
      have := bt_get (s := s) (i := 0) (by omega)
      simp only [hL, List.getElem_cons_zero] at this
      exact this
    refine New.use (by simp [Value.oneCell']) fun g w1 hb1 hu1 hge1 hlt1 => ⟨by omega, by omega, ?_⟩
    have hg : ∀ i, One g i → w.heap.size ≤ i := fun i hi => by rw [show i = g from hi]; exact hge1
    -- nothing can be taken
    have hbad : ∀ w2, Blk w2 g [.int .i64 0, .int .i64 0, .string (bs [])] T.api_Value → Upd Nothing w w2 → firstV (x :: r) = none →
        CanSt w2 ((Addr.mk g 0 none).add 0) ∧ ∀ w3, w3 = w2.setCell ((Addr.mk g 0 none).add 0) (.int .i64 0) →
        CanSt w3 ((Addr.mk g 0 none).add 1) ∧ ∀ w4, w4 = w3.setCell ((Addr.mk g 0 none).add 1) (.int .i64 0) →
        CanSt w4 ((Addr.mk g 0 none).add 2) ∧ ∀ w5, w5 = w4.setCell ((Addr.mk g 0 none).add 2) (.string (bs [])) →
        ∃ (xKind1 : Int) (xN1 : Int) (xS1 : ByteArray), SX.cellsAt w5 (Addr.mk g 0 none) 0 [.int .i64 xKind1, .int .i64 xN1, .string xS1] ∧ K (.tuple #[.agg #[.int .i64 xKind1, .int .i64 xN1, .string xS1], .string (bs []), .bool false]) w5 :=
      fun w2 hb2 hu2 hn => set_val ⟨0, 0, bs []⟩ hb2 fun w5 hb5 hu5 => ⟨_, _, _, cells_cells hb5, hK2 ⟨0, 0, bs []⟩ _ w5 hn (hu2.fresh hu5 hg)⟩
    rw [firstV_cons] at hK1 hK2 hbad
    rw [hb0]
    have hx1 : ((x.toNat : Int) == 1) = decide (x = 1) := by
      rw [Bool.eq_iff_iff]; simp only [beq_iff_eq, decide_eq_true_eq]
      exact ⟨fun h => UInt8.toNat_inj.1 (by show x.toNat = 1; omega), fun h => by rw [h]; rfl⟩
    have hx2 : ((x.toNat : Int) == 2) = decide (x = 2) := by
      rw [Bool.eq_iff_iff]; simp only [beq_iff_eq, decide_eq_true_eq]
      exact ⟨fun h => UInt8.toNat_inj.1 (by show x.toNat = 2; omega), fun h => by rw [h]; rfl⟩
    have hx3 : ((x.toNat : Int) == 3) = decide (x = 3) := by
      rw [Bool.eq_iff_iff]; simp only [beq_iff_eq, decide_eq_true_eq]
      exact ⟨fun h => UInt8.toNat_inj.1 (by show x.toNat = 3; omega), fun h => by rw [h]; rfl⟩
    rw [hx1, hx2, hx3]
    refine ifB_mk (fun h => ?_) (fun h => ifB_mk (fun h2 => ?_) (fun h2 => ifB_mk (fun h3 => ?_) (fun h3 => ?_)))
    · have e1 : x = 1 := by simpa using h
      rw [if_pos e1] at hK1 hK2 hbad
      refine ifB_mk (fun h9 => ?_) (fun h9 => ?_)
      · exact hbad w1 hb1 hu1 (by rw [if_pos (by simp at h9; omega)])
      · have hr8 : 8 ≤ r.length := by simp at h9; omega
        rw [if_neg (by omega)] at hK1
        have hmid : s.extract ((1 : Int).toNat) ((9 : Int).toNat) = txt (r.take 8) := by
          rw [show (1 : Int).toNat = 1 from rfl, show (9 : Int).toNat = 9 from rfl, ext_mid, hL]
          rfl
        have hl8 : (r.take 8).length = 8 := by rw [List.length_take]; omega
        refine ⟨by omega, by omega, by omega, by decide, ?_⟩
        rw [hmid]
        refine conv_text und_str su8.desc und_u8 fun cp cc w2 hat2 hu2 => ⟨cp, _, cc, rfl, ?_⟩
        rw [txt_toList] at hat2
        rw [txt_size, hl8]
        refine ⟨fun u i w' => ∃ j : Nat, i = j ∧ j ≤ 8 ∧ u = (num ((r.take 8).take j) : Int) ∧ w' = w2, fun _ i _ => 8 - i.toNat, ⟨0, rfl, by omega, rfl, rfl⟩, ?_⟩
        rintro u i w3 ⟨j, rfl, hj, rfl, rfl⟩
        refine ifB_mk (fun h => ?_) (fun h => ?_)
        · have hj8 : j < 8 := by simp at h; omega
          obtain ⟨a, ha, hc⟩ := hat2 j _ (bytesV_get (by omega))
          have hnl := num_lt j ((r.take 8).take j) (by rw [List.length_take]; omega)
          have hpow : (256 : Nat) ^ j ≤ 256 ^ 7 := Nat.pow_le_pow_right (by omega) (by omega)
          have h7 : (256 : Nat) ^ 7 = 72057594037927936 := by decide
          refine ⟨a, ha, by omega, by omega, _, by simpa using hc, by omega, ?_⟩
          rw [or_byte (by omega) (UInt8.toNat_lt _), i64_wrap (by omega) (by omega)]
          refine ⟨⟨j + 1, by omega, by omega, ?_, rfl⟩, by show 8 - _ < 8 - _; omega⟩
          have e8 := List.take_succ_eq_append_getElem (l := r.take 8) (i := j) (by omega)
          rw [e8, num_append, List.getElem_take]
        · have hj8 : j = 8 := by simp at h; omega
          subst hj8
          rw [List.take_of_length_le (by omega)]
          have hnl := num_lt 8 (r.take 8) hl8
          have h8 : (256 : Nat) ^ 8 = 18446744073709551616 := by decide
          rw [xor_down (by omega)]
          refine ⟨by omega, by omega, int_spec fun w4 hu4 => ⟨_, _, _, rfl, ?_⟩⟩
          have hb4 := hu4.blk ((hu2.blk hb1 fun f => f).drew) fun f => f
          refine set_val ⟨1, (num (r.take 8) : Int) - 9223372036854775808, ⟨#[]⟩⟩ hb4 fun w5 hb5 hu5 => ⟨_, _, _, cells_cells hb5, ?_⟩
          rw [show (9 : Int).toNat = 9 from rfl, ext_drop, hL]
          exact hK1 ⟨1, (num (r.take 8) : Int) - 9223372036854775808, ⟨#[]⟩⟩ (r.drop 8) w5 rfl ((((hu1.then hu2).then (Upd.drew _ _)).then hu4).fresh hu5 hg)
    · have e1 : x ≠ 1 := by simpa using h
      have e2 : x = 2 := by simpa using h2
      rw [if_neg e1, if_pos e2] at hK1 hK2
      rw [show (1 : Int).toNat = 1 from rfl, ext_drop, hL]
      refine ⟨by omega, by omega, text_of (by rw [txt_size]; simp; omega) fun w2 hu2 => ?_⟩
      rw [txt_toList]
      show ∃ _ _ _, _
      have hdr : (x :: r).drop 1 = r := rfl
      rw [hdr]
      cases hun : untext r with
      | some y =>
        refine ⟨_, _, _, rfl, text_spec fun w3 hu3 => ⟨_, _, _, rfl, ?_⟩⟩
        refine set_val ⟨2, 0, txt y.1⟩ ((hu2.then hu3).blk hb1 fun f => f) fun w5 hb5 hu5 => ⟨_, _, _, cells_cells hb5, ?_⟩
        exact hK1 ⟨2, 0, txt y.1⟩ y.2 w5 (by rw [hun]; rfl) (((hu1.then hu2).then hu3).fresh hu5 hg)
      | none =>
        refine ⟨_, _, _, rfl, text_spec fun w3 hu3 => ⟨_, _, _, rfl, ?_⟩⟩
        refine set_val ⟨2, 0, txt []⟩ ((hu2.then hu3).blk hb1 fun f => f) fun w5 hb5 hu5 => ⟨_, _, _, cells_cells hb5, ?_⟩
        exact hK2 ⟨2, 0, txt []⟩ _ w5 (by rw [hun]; rfl) (((hu1.then hu2).then hu3).fresh hu5 hg)
    · have e1 : x ≠ 1 := by simpa using h
      have e2 : x ≠ 2 := by simpa using h2
      have e3 : x = 3 := by simpa using h3
      rw [if_neg e1, if_neg e2, if_pos e3] at hK1 hK2 hbad
      refine ifB_mk (fun h9 => ?_) (fun h9 => ?_)
      · refine hbad w1 hb1 hu1 ?_
        have : r = [] := by
          cases r with
          | nil => rfl
          | cons y r => simp at hsz h9; omega
        rw [this]; rfl
      · cases r with
        | nil => simp at hsz h9; omega
        | cons y r =>
          have hb1' : bt s (1 : Int) = (y.toNat : Int) := by
            have := bt_get (s := s) (i := 1) (by simp at hsz; omega)
            simp only [hL, List.getElem_cons_succ, List.getElem_cons_zero] at this
            exact this
          rw [hb1']
          simp only [List.length_cons] at hsz
          refine ⟨by omega, by omega, ifB_mk (fun h4 => ?_) (fun h4 => ?_)⟩
          · refine hbad w1 hb1 hu1 ?_
            rw [third, if_neg (by simp at h4; omega)]
          · have hy : y.toNat ≤ 1 := by simp at h4; omega
            refine ⟨by omega, by omega, by omega, by omega, bool_spec fun w2 hu2 => ⟨_, _, _, rfl, ?_⟩⟩
            have hyv : (if ((y.toNat : Int) == 1) = true then (1 : Int) else 0) = (y.toNat : Int) := by
              by_cases h5 : y.toNat = 1
              · rw [h5]; rfl
              · have : y.toNat = 0 := by omega
                rw [this]; rfl
            rw [hyv]
            refine set_val ⟨3, (y.toNat : Int), ⟨#[]⟩⟩ (hu2.blk hb1.drew fun f => f) fun w5 hb5 hu5 => ⟨_, _, _, cells_cells hb5, ?_⟩
            rw [show (2 : Int).toNat = 2 from rfl, ext_drop, hL]
            exact hK1 ⟨3, (y.toNat : Int), ⟨#[]⟩⟩ r w5 (by rw [third, if_pos hy]) (((hu1.then (Upd.drew _ _)).then hu2).fresh hu5 hg)
    · have e1 : x ≠ 1 := by simpa using h
      have e2 : x ≠ 2 := by simpa using h2
      have e3 : x ≠ 3 := by simpa using h3
      rw [if_neg e1, if_neg e2, if_neg e3] at hbad
      exact hbad w1 hb1 hu1 rfl)
end
end Va
end Go.Proofs.YtjcgociobhhijaaDoor
