/- The codec's writer: what each of its functions lays. -/
import Derived.Test.YtjcgociobhhijaaVY
import Derived.Test.YtjcgociobhhijaaTY
import Derived.Test.YtjcgociobhhijaaBN
set_option linter.unusedVariables false
set_option linter.unusedSimpArgs false
set_option maxRecDepth 100000
namespace Go.Proofs.Ytjcgociobhhijaa
open Go Go.Proofs.Ytjcgociobhhijaa.SX Va
namespace Cd
theorem shr_byte (N : Nat) {i : Nat} (hi : i ≤ 7) : Int.fdiv (N : Int) (2 ^ (min (IntKind.i64.wrap ((8 : Int) * (i : Int))).toNat IntKind.u64.bits)) = ((N / 256 ^ i : Nat) : Int) := by
  have e1 : IntKind.i64.wrap ((8 : Int) * (i : Int)) = ((8 * i : Nat) : Int) := by rw [i64_wrap (by omega) (by omega)]; omega
  rw [e1, Int.toNat_natCast, show min (8 * i) IntKind.u64.bits = 8 * i by simp [IntKind.bits]; omega]
  have h2 : (2 : Int) ^ (8 * i) = ((2 ^ (8 * i) : Nat) : Int) := by simp
  rw [h2, Int.fdiv_eq_ediv_of_nonneg _ (Int.natCast_nonneg _), ← Int.natCast_ediv, Nat.pow_mul]
theorem u8_mod (N : Nat) : IntKind.u8.wrap (N : Int) = ((UInt8.ofNat (N % 256)).toNat : Int) := by
  simp [IntKind.wrap, IntKind.signed, IntKind.bits]
theorem xor_ones (x : Nat) (h : x < 18446744073709551616) : x ^^^ 18446744073709551615 = 18446744073709551615 - x := by
  have h1 := congrArg BitVec.toNat (BitVec.xor_allOnes (x := BitVec.ofNat 64 x))
  rw [BitVec.toNat_xor, BitVec.toNat_not, BitVec.toNat_allOnes, BitVec.toNat_ofNat, Nat.mod_eq_of_lt (show x < 2 ^ 64 from h)] at h1
  exact h1
theorem bits_xor_u64 {x y : Nat} (hx : x < 18446744073709551616) (hy : y < 18446744073709551616) (hxy : x ^^^ y < 18446744073709551616) : bits .xor .u64 (x : Int) (y : Int) = ((x ^^^ y : Nat) : Int) := by
  show IntKind.u64.wrap (((BitVec.ofInt 64 (x : Int) ^^^ BitVec.ofInt 64 (y : Int)).toNat : Nat) : Int) = _
  rw [BitVec.ofInt_natCast, BitVec.ofInt_natCast, BitVec.toNat_xor, BitVec.toNat_ofNat, BitVec.toNat_ofNat, Nat.mod_eq_of_lt (show x < 2 ^ 64 from hx), Nat.mod_eq_of_lt (show y < 2 ^ 64 from hy)]
  generalize x ^^^ y = z at hxy ⊢
  simp [IntKind.wrap, IntKind.signed, IntKind.bits]
  omega
theorem zig_bits {e : Int} (h1 : -9223372036854775808 ≤ e) (h2 : e ≤ 9223372036854775807) : bits .xor .u64 (IntKind.u64.wrap ((IntKind.u64.wrap e) * 2 ^ (min (1 : Int).toNat IntKind.u64.bits))) (IntKind.u64.wrap (Int.fdiv e (2 ^ (min (63 : Int).toNat IntKind.i64.bits)))) = ((zig e : Nat) : Int) := by
  have p1 : (2 : Int) ^ (min (1 : Int).toNat IntKind.u64.bits) = 2 := by decide
  have p2 : (2 : Int) ^ (min (63 : Int).toNat IntKind.i64.bits) = 9223372036854775808 := by decide
  rw [p1, p2]
  by_cases h : e < 0
  · have e1 : IntKind.u64.wrap (IntKind.u64.wrap e * 2) = ((18446744073709551616 + 2 * e).toNat : Int) := by
      simp [IntKind.wrap, IntKind.signed, IntKind.bits]
      omega
    have e2 : IntKind.u64.wrap (Int.fdiv e 9223372036854775808) = ((18446744073709551615 : Nat) : Int) := by
      have : Int.fdiv e 9223372036854775808 = -1 := by rw [Int.fdiv_eq_ediv_of_nonneg _ (by decide)]; omega
      rw [this]
      decide
    have hx := xor_ones (18446744073709551616 + 2 * e).toNat (by omega)
    rw [e1, e2, bits_xor_u64 (by omega) (by omega) (by rw [hx]; omega), hx]
    unfold zig
    rw [if_pos h]
    omega
  · have e1 : IntKind.u64.wrap (IntKind.u64.wrap e * 2) = ((2 * e).toNat : Int) := by
      simp [IntKind.wrap, IntKind.signed, IntKind.bits]
      omega
    have e2 : IntKind.u64.wrap (Int.fdiv e 9223372036854775808) = ((0 : Nat) : Int) := by
      have : Int.fdiv e 9223372036854775808 = 0 := by rw [Int.fdiv_eq_ediv_of_nonneg _ (by decide)]; omega
      rw [this]
      decide
    rw [e1, e2, bits_xor_u64 (by omega) (by omega) (by rw [Nat.xor_zero]; omega), Nat.xor_zero]
    unfold zig
    rw [if_neg h]

abbrev WT : List Nat := [T.codec_Writer, T.uint8]
/-- A writer behind w0, and what it has laid. -/
def Wr (w0 w : World) (g : Nat) (l : List UInt8) : Prop := ∃ (p : Option Addr) (c : Nat), Blk w g [.slice p l.length c] T.codec_Writer ∧ Own w T.uint8 1 p l.length c (bytesV l) ∧ Upd Nothing w0 w ∧ w0.heap.size ≤ g ∧ ∀ k, Fp p c k → w0.heap.size ≤ k
theorem Wr.upd0 {w0 w w' : World} {g : Nat} {l : List UInt8} (h : Wr w0 w g l) (hu : Upd Nothing w w') : Wr w0 w' g l := by
  obtain ⟨p, c, h1, h2, h3, h4, h5⟩ := h
  exact ⟨p, c, hu.blk h1 fun f => f, h2.upd0 hu, h3.then hu, h4, h5⟩
/-- What isn't of a writer may be changed, if it is new. -/
theorem Wr.more {w0 w w' : World} {g : Nat} {l : List UInt8} {F : Nat → Prop} (h : Wr w0 w g l) (hu : Upd F w w') (h0 : ∀ k, F k → w0.heap.size ≤ k) (hn : ∀ k, F k → ¬ Typed w WT k) : Wr w0 w' g l := by
  obtain ⟨p, c, h1, h2, h3, h4, h5⟩ := h
  exact ⟨p, c, hu.blk h1 fun f => hn _ f ⟨_, _, h1, by decide⟩, h2.upd hu fun k hk f => hn k f (own_typed h2 (by decide) k hk), h3.fresh hu h0, h4, h5⟩
theorem Wr.here {w0 w : World} {g : Nat} {l : List UInt8} (h : Wr w0 w g l) : Upd Nothing w0 w := h.choose_spec.choose_spec.2.2.1
theorem Wr.new {w0 w : World} {g : Nat} (h : New w0 (.cells #[.slice none 0 0] T.codec_Writer) g w) : Wr w0 w g [] := by
  have hb := Blk.new h (by simp [Value.oneCell'])
  exact ⟨none, 0, hb, Own.nil _ _ _, Upd.new h, by rw [h.1]; exact Nat.le_refl _, fun k hk => by have := hk.1; omega⟩

section
variable {w0 w : World} {K : Value → World → Prop} {p q : Option Addr} {n c m d g : Nat} {l : List UInt8}
theorem lay_spec {ys : List UInt8} (h : Wr w0 w g l) (hat : At w q (bytesV ys)) (hl : ys.length = m) (hsz : l.length + m ≤ 1099511627776) (hK : ∀ w', Wr w0 w' g (l ++ ys) → Upd (Typed w WT) w w' → K (.tuple #[]) w') :
    CallsV prog F.codec_Bytes_lay #[.pointer (some ⟨g, 0, none⟩), .slice q m d] w K :=
  R.codec_Bytes_lay (by
    unfold C.codec_Bytes_lay
    obtain ⟨p, c, hb, ho, hu0, hg, hf⟩ := h
    refine ⟨_, rfl, p, _, c, hb.cell (i := 0) rfl, ?_⟩
    refine append_own (m := m) (ys := bytesV ys) su8 (.inl su8.desc) ho (Src.slice hat (by rw [bytesV_length, hl, Nat.mul_one]) (bytesV_one ys)) (by decide) (by decide) (by omega) fun p' c' w1 ho1 hu1 hf1 => ⟨_, _, _, rfl, _, rfl, ?_⟩
    have hbn : ¬ Fp p c g := fun h => own_not_typed (es := [T.codec_Writer]) ho (by decide) g h ⟨_, _, hb, by decide⟩
    have hb1 := hu1.blk hb hbn
    have hu1' : Upd (Typed w WT) w w1 := hu1.mono fun i _ hi => own_typed ho (by decide) i hi
    refine hb1.store (i := 0) (by simp) rfl fun w2 hb2 hu2 _ => hK w2 ⟨p', c', ?_, ?_, (hu0.fresh hu1 hf).fresh hu2 fun i hi => by rw [show i = g from hi]; exact hg, hg, fun k hk => ?_⟩ (hu1'.typed (Upd.tone hb1 hu2 (by decide)))
    · rw [List.length_append, hl]; exact hb2
    · rw [List.length_append, hl, bytesV_append]
      exact ho1.upd hu2 fun k hk e => own_not_typed (es := [T.codec_Writer]) ho1 (by decide) k hk ⟨[.slice p l.length c], T.codec_Writer, by rw [show k = g from e]; exact hb1, by decide⟩
    · rcases hf1 k hk with h | h
      · exact hf k h
      · exact Nat.le_trans hu0.size h)

/-- One byte is laid. -/
theorem lay_one {x : Int} {y : UInt8} (hx : x = (y.toNat : Int)) (h : Wr w0 w g l) (hsz : l.length + 1 ≤ 1099511627776) (hK : ∀ w', Wr w0 w' g (l ++ [y]) → Upd (Typed w WT) w w' → K (.tuple #[]) w') :
    ∀ b w1, New w (.cells #[.int .u8 x] T.uint8) b w1 → CallsV prog F.codec_Bytes_lay #[.pointer (some ⟨g, 0, none⟩), .slice (some (Addr.mk b 0 none)) 1 1] w1 K := by
  subst hx
  refine New.use (by simp [Value.oneCell']) fun b w1 hb hu hge _ => ?_
  exact lay_spec (ys := [y]) (h.upd0 hu) (At.of_blk hb fun j v hj => by rw [Nat.zero_add]; exact hj) rfl hsz fun w2 h2 hu2 => hK w2 h2 (hu.typed0 hu2)

theorem number_tail {N : Nat} (hN : (bdig N).length ≤ 8) (h : Wr w0 w g l) (hl : l.length ≤ 1000000000) (hK : ∀ w', Wr w0 w' g (l ++ numT N) → Upd (Typed w WT) w w' → K (.tuple #[]) w') :
    ∀ b2 wv2, New w (.cells #[.int .u8 (IntKind.u8.wrap ((bdig N).length : Int))] T.uint8) b2 wv2 →
      CallsV prog F.codec_Bytes_lay #[.pointer (some ⟨g, 0, none⟩), .slice (some (Addr.mk b2 0 none)) 1 1] wv2 (fun v1 wv3 =>
        v1 = .tuple #[] ∧
        ∃ (Iv2 : Int → World → Prop) (m2 : Int → World → Nat),
        Iv2 (IntKind.i64.wrap (((bdig N).length : Int) - (1 : Int))) wv3 ∧
        ∀ (i1 : Int) wv4, Iv2 i1 wv4 →
        ifB (decide ((0 : Int) ≤ i1)) (
          0 ≤ (IntKind.i64.wrap ((8 : Int) * i1)) ∧
          ∀ b3 wv5, New wv4 (.cells #[.int .u8 (IntKind.u8.wrap (Int.fdiv (N : Int) (2 ^ (min (IntKind.i64.wrap ((8 : Int) * i1)).toNat IntKind.u64.bits))))] T.uint8) b3 wv5 →
          CallsV prog F.codec_Bytes_lay #[.pointer (some ⟨g, 0, none⟩), .slice (some (Addr.mk b3 0 none)) 1 1] wv5 (fun v2 wv6 =>
            v2 = .tuple #[] ∧
            Iv2 (IntKind.i64.wrap (i1 - (1 : Int))) wv6 ∧ m2 (IntKind.i64.wrap (i1 - (1 : Int))) wv6 < m2 i1 wv4)) (
          K (.tuple #[]) wv4)) := by
  refine lay_one (y := UInt8.ofNat (bdig N).length) (by rw [u8_mod, Nat.mod_eq_of_lt (by omega)]) h (by omega) fun w1 h1 hu1 => ⟨rfl, ?_⟩
  refine ⟨fun i w' => ∃ k : Nat, i = (k : Int) - 1 ∧ k ≤ (bdig N).length ∧ Wr w0 w' g (l ++ [UInt8.ofNat (bdig N).length] ++ ((bdig N).drop k).reverse.map UInt8.ofNat) ∧ Upd (Typed w WT) w w', fun i _ => (i + 1).toNat, ⟨(bdig N).length, by rw [i64_wrap (by omega) (by omega)], Nat.le_refl _, by rw [List.drop_length]; simpa using h1, hu1⟩, ?_⟩
  rintro i w2 ⟨k, rfl, hk, h2, hu2⟩
  refine ifB_mk (fun h3 => ?_) (fun h3 => ?_)
  · have h0 := of_decide_eq_true h3
    obtain ⟨j, rfl⟩ : ∃ j, k = j + 1 := ⟨k - 1, by omega⟩
    have hj : ((j + 1 : Nat) : Int) - 1 = (j : Int) := by omega
    rw [hj]
    refine ⟨by rw [i64_wrap (by omega) (by omega)]; omega, ?_⟩
    rw [shr_byte N (by omega)]
    have hjl : j < (bdig N).length := by omega
    have hlen : (l ++ [UInt8.ofNat (bdig N).length] ++ ((bdig N).drop (j + 1)).reverse.map UInt8.ofNat).length ≤ l.length + 9 := by simp; omega
    refine lay_one (y := UInt8.ofNat (N / 256 ^ j % 256)) (u8_mod _) h2 (by omega) fun w3 h3 hu3 => ⟨rfl, ⟨j, ?_, by omega, ?_, hu2.typed hu3⟩, ?_⟩
    · rw [i64_wrap (by omega) (by omega)]
    · have e : (bdig N).drop j = (N / 256 ^ j % 256) :: (bdig N).drop (j + 1) := by rw [List.drop_eq_getElem_cons hjl, bdig_get]
      rw [e, List.reverse_cons, List.map_append, ← List.append_assoc]
      exact h3
    · rw [i64_wrap (by omega) (by omega)]
      show Int.toNat _ < Int.toNat _
      omega
  · have hk0 : k = 0 := by have := of_decide_eq_false h3; omega
    subst hk0
    rw [List.drop_zero, List.append_assoc] at h2
    exact hK w2 h2 hu2

theorem number_spec {N : Nat} (hN : N < 18446744073709551616) (h : Wr w0 w g l) (hl : l.length ≤ 1000000000) (hK : ∀ w', Wr w0 w' g (l ++ numT N) → Upd (Typed w WT) w w' → K (.tuple #[]) w') :
    CallsV prog F.codec_Bytes_number #[.pointer (some ⟨g, 0, none⟩), .int .u64 (N : Int)] w K :=
  R.codec_Bytes_number (by
    unfold C.codec_Bytes_number
    have h8 := bdig_len8 hN
    refine ⟨fun i w' => w' = w ∧ ∃ k : Nat, i = k ∧ k ≤ (bdig N).length, fun i _ => 8 - i.toNat, ⟨rfl, 0, rfl, by omega⟩, ?_⟩
    rintro i w1 ⟨rfl, k, rfl, hk⟩
    refine ifB_mk (fun h1 => ?_) (fun h1 => ?_)
    · have hk8 : k < 8 := by have := of_decide_eq_true h1; omega
      refine ⟨by rw [i64_wrap (by omega) (by omega)]; omega, ?_⟩
      rw [shr_byte N (by omega)]
      refine ifB_mk (fun h2 => ?_) (fun h2 => ?_)
      · have hlt : k < (bdig N).length := (bdig_len N k).2 fun e => by rw [e] at h2; simp at h2
        rw [i64_wrap (by omega) (by omega)]
        exact ⟨⟨rfl, k + 1, by omega, by omega⟩, by show 8 - _ < 8 - _; omega⟩
      · have hge : ¬ k < (bdig N).length := fun h3 => (bdig_len N k).1 h3 (by
          have : ((N / 256 ^ k : Nat) : Int) = 0 := by simpa using h2
          omega)
        have hkl : k = (bdig N).length := by omega
        rw [hkl]
        exact number_tail h8 h hl hK
    · have hkl : k = (bdig N).length := by have := of_decide_eq_false h1; omega
      rw [hkl]
      exact number_tail h8 h hl hK)

/-- What is read stays while a writer lays. -/
def Stay (w0 w : World) (g : Nat) (P : World → Prop) : Prop := ∀ w' l', Wr w0 w' g l' → Upd (Typed w WT) w w' → P w'
theorem Stay.of0 {P : World → Prop} (h : ∀ w', Upd Nothing w0 w' → P w') : Stay w0 w g P := fun w' l' hw _ => h w' hw.here
theorem Stay.step {w1 : World} {P : World → Prop} (h : Stay w0 w g P) (hu : Upd (Typed w WT) w w1) : Stay w0 w1 g P := fun w' l' hw hu' => h w' l' hw (hu.typed hu')
theorem Stay.step0 {w1 : World} {P : World → Prop} (h : Stay w0 w g P) (hu : Upd Nothing w w1) : Stay w0 w1 g P := h.step hu.any
theorem Stay.blk {b e : Nat} {L : List Value} {P : World → Prop} (hb : Blk w b L e) (he : e ∉ WT) (h : ∀ w', Blk w' b L e → P w') : Stay w0 w g P := fun w' l' _ hu => h w' (hu.tblk hb he)

/-- Sizes are laid. -/
theorem size_spec {xs : List Int} (hat : Stay w0 w g fun w' => At w' p (ints xs)) (hn : xs.length = n) (hn' : n ≤ 1000000) (hx : ∀ x ∈ xs, x ≤ 9223372036854775807) (h : Wr w0 w g l) (hl : l.length + 9 * n ≤ 1000000000) (hK : ∀ w', Wr w0 w' g (l ++ xs.flatMap sizeT) → Upd (Typed w WT) w w' → K (.pointer (some ⟨g, 0, none⟩)) w') :
    CallsV prog F.codec_Writer_Size #[.pointer (some ⟨g, 0, none⟩), .slice p n c] w K :=
  R.codec_Writer_Size (by
    unfold C.codec_Writer_Size
    refine ⟨fun i w' => ∃ k : Nat, i = k ∧ k ≤ n ∧ Wr w0 w' g (l ++ (xs.take k).flatMap sizeT) ∧ Upd (Typed w WT) w w', fun i _ => n - i.toNat, ⟨0, rfl, by omega, by simpa using h, Upd.refl _ _⟩, ?_⟩
    rintro i w1 ⟨k, rfl, hk, h1, hu1⟩
    refine ifB_mk (fun h2 => ?_) (fun h2 => ?_)
    · have hkn : k < n := by have := of_decide_eq_true h2; omega
      obtain ⟨a, ha, hc⟩ := hat _ _ h1 hu1 k _ (ints_get (by omega))
      have hxk := hx _ (List.getElem_mem (show k < xs.length by omega))
      refine ⟨a, ha, by omega, by omega, xs[k], by simpa using hc, ifB_mk (fun _ => ⟨_, rfl, ?_⟩) (fun h => by cases h)⟩
      have e : IntKind.u64.wrap (mm2 true xs[k] 0) = (((if xs[k] < 0 then 0 else xs[k].toNat) : Nat) : Int) := by
        unfold mm2
        by_cases hneg : xs[k] < 0
        · simp [hneg, IntKind.wrap, IntKind.signed, IntKind.bits]
        · simp [hneg, IntKind.wrap, IntKind.signed, IntKind.bits]
          omega
      rw [e]
      have hlen : ((xs.take k).flatMap sizeT).length ≤ 9 * k := by
        have := flat_len (f := sizeT) (B := 9) (l := xs.take k) fun x hx' => sizeT_len (hx x (List.mem_of_mem_take hx'))
        rw [List.length_take, Nat.min_eq_left (by omega)] at this
        exact this
      refine number_spec (by split <;> omega) h1 (by rw [List.length_append]; omega) fun w2 h3 hu3 => ⟨rfl, ?_⟩
      rw [i64_wrap (by omega) (by omega)]
      refine ⟨⟨k + 1, by omega, by omega, ?_, hu1.typed hu3⟩, by show n - _ < n - _; omega⟩
      rw [List.take_succ_eq_append_getElem (by omega), List.flatMap_append, ← List.append_assoc]
      simpa [sizeT] using h3
    · have hkn : k = n := by have := of_decide_eq_false h2; omega
      rw [List.take_of_length_le (by omega)] at h1
      exact hK w1 h1 hu1)
/-- One size. -/
theorem size_one {x : Int} (hx : x ≤ 9223372036854775807) (h : Wr w0 w g l) (hl : l.length ≤ 999999990) (hK : ∀ w', Wr w0 w' g (l ++ sizeT x) → Upd (Typed w WT) w w' → K (.pointer (some ⟨g, 0, none⟩)) w') :
    ∀ b w1, New w (.cells #[.int .i64 x] T.int) b w1 → CallsV prog F.codec_Writer_Size #[.pointer (some ⟨g, 0, none⟩), .slice (some (Addr.mk b 0 none)) 1 1] w1 K := by
  refine New.use (by simp [Value.oneCell']) fun b w1 hb hu hge _ => ?_
  refine size_spec (xs := [x]) (Stay.blk hb (by decide) fun w' hb' => At.of_blk hb' fun j v hj => by rw [Nat.zero_add]; exact hj) rfl (by omega) (by simpa using hx) (h.upd0 hu) (by omega) fun w2 h2 hu2 => hK w2 (by simpa using h2) (hu.typed0 hu2)

theorem signed_one {x : Int} (hx : -9223372036854775808 ≤ x ∧ x ≤ 9223372036854775807) (h : Wr w0 w g l) (hl : l.length ≤ 999999990) (hK : ∀ w', Wr w0 w' g (l ++ signedT x) → Upd (Typed w WT) w w' → K (.pointer (some ⟨g, 0, none⟩)) w') :
    ∀ b w1, New w (.cells #[.int .i64 x] T.int64) b w1 → CallsV prog F.codec_Writer_Signed #[.pointer (some ⟨g, 0, none⟩), .slice (some (Addr.mk b 0 none)) 1 1] w1 K := by
  refine New.use (by simp [Value.oneCell']) fun b w1 hb hu hge _ => R.codec_Writer_Signed ?_
  unfold C.codec_Writer_Signed
  refine ⟨fun i w' => (i = 0 ∧ w' = w1) ∨ (i = 1 ∧ Wr w0 w' g (l ++ signedT x) ∧ Upd (Typed w WT) w w'), fun i _ => 1 - i.toNat, .inl ⟨rfl, rfl⟩, ?_⟩
  rintro i w2 (⟨rfl, rfl⟩ | ⟨rfl, h2, hu2⟩)
  · refine ifB_mk (fun _ => ⟨_, rfl, by decide, by decide, x, hb.cell (i := 0) rfl, ifB_mk (fun _ => ⟨_, rfl, by decide, by decide, ?_⟩) (fun h => by cases h)⟩) (fun h => by cases h)
    rw [zig_bits hx.1 hx.2]
    refine number_spec ?_ (h.upd0 hu) (by omega) fun w3 h3 hu3 => ⟨rfl, .inr ⟨by decide, h3, hu.typed0 hu3⟩, by show 1 - (IntKind.i64.wrap (0 + 1)).toNat < 1 - (0 : Int).toNat; decide⟩
    unfold zig
    split <;> omega
  · exact ifB_mk (fun h => by cases h) (fun _ => hK w2 h2 hu2)

theorem text_one {x : ByteArray} (hx : x.size ≤ 1000000) (h : Wr w0 w g l) (hl : l.length ≤ 990000000) (hK : ∀ w', Wr w0 w' g (l ++ textT x.data.toList) → Upd (Typed w WT) w w' → K (.pointer (some ⟨g, 0, none⟩)) w') :
    ∀ b w1, New w (.cells #[.string x] T.string) b w1 → CallsV prog F.codec_Writer_Text #[.pointer (some ⟨g, 0, none⟩), .slice (some (Addr.mk b 0 none)) 1 1] w1 K := by
  refine New.use (by simp [Value.oneCell']) fun b w1 hb hu hge _ => R.codec_Writer_Text ?_
  unfold C.codec_Writer_Text
  have hlen : x.data.toList.length = x.size := rfl
  refine ⟨fun i w' => (i = 0 ∧ w' = w1) ∨ (i = 1 ∧ Wr w0 w' g (l ++ textT x.data.toList) ∧ Upd (Typed w WT) w w'), fun i _ => 1 - i.toNat, .inl ⟨rfl, rfl⟩, ?_⟩
  rintro i w2 (⟨rfl, rfl⟩ | ⟨rfl, h2, hu2⟩)
  · refine ifB_mk (fun _ => ⟨_, rfl, by decide, by decide, x, hb.cell (i := 0) rfl, ifB_mk (fun _ => ⟨_, rfl, ?_⟩) (fun h => by cases h)⟩) (fun h => by cases h)
    have e : IntKind.u64.wrap ((x.size : Nat) : Int) = ((x.size : Nat) : Int) := by
      simp [IntKind.wrap, IntKind.signed, IntKind.bits]
      omega
    rw [e]
    have hst : sizeT (x.data.toList.length : Int) = numT x.size := by unfold sizeT; rw [if_neg (by omega), hlen]; simp
    have hnl := numT_len (n := x.size) (by omega)
    refine number_spec (by omega) (h.upd0 hu) (by omega) fun w3 h3 hu3 => ⟨rfl, _, rfl, conv_text und_str su8.desc und_u8 fun cp cc w4 hat4 hu4 => ⟨cp, _, cc, rfl, ?_⟩⟩
    refine lay_spec (ys := x.data.toList) (h3.upd0 hu4) hat4 rfl (by rw [List.length_append]; omega) fun w5 h5 hu5 => ⟨rfl, .inr ⟨by decide, ?_, ((hu.typed0 hu3).more hu4).typed (hu5)⟩, by show 1 - (IntKind.i64.wrap (0 + 1)).toNat < 1 - (0 : Int).toNat; decide⟩
    unfold textT
    rw [hst, ← List.append_assoc]
    exact h5
  · exact ifB_mk (fun h => by cases h) (fun _ => hK w2 h2 hu2)

theorem one_spec {v : Val} (hv : Va.Val.wf v) (h : Wr w0 w g l) (hl : l.length ≤ 900000000) (hK : ∀ w', Wr w0 w' g (l ++ valT v) → Upd (Typed w WT) w w' → K (.tuple #[]) w') : CallsV prog F.codec_Writer_one #[.pointer (some ⟨g, 0, none⟩), v.val] w K :=
  R.codec_Writer_one (by
    unfold C.codec_Writer_one
    refine New.use (val_one v) fun g1 w1 hb1 hu1 hge1 hlt1 => ?_
    let u : Val := if v.right = true then v else ⟨1, 0, ⟨#[]⟩⟩
    have hgw : ∀ w', Upd Nothing w w' → Wr w0 w' g l := fun w' hu => h.upd0 hu
    refine ⟨fun w' => Blk w' g1 u.cells T.api_Value ∧ Upd Nothing w w', ⟨_, _, _, cells_cells (v := v) hb1, New.use (val_one v) fun g2 w2 hb2 hu2 hge2 _ => ?_⟩, ?_⟩
    · have hat : At w2 (some (Addr.mk g2 0 none)) (vals [v]) := At.of_blk hb2 fun j x hj => by
        rw [Nat.zero_add]
        simpa [vals, Val.cells] using hj
      refine right_spec (xs := [v]) hat rfl (by omega) fun w3 hu3 => ⟨_, rfl, ifB_mk (fun h1 => ?_) (fun h1 => ?_)⟩
      · have hr : ¬ v.right = true := by simpa using h1
        refine int_spec fun w4 hu4 => ⟨_, _, _, rfl, set_val ⟨1, 0, ⟨#[]⟩⟩ (((hu2.then hu3).then hu4).blk hb1 fun f => f) fun w5 hb5 hu5 => ⟨?_, (hu1.then ((hu2.then hu3).then hu4)).fresh hu5 fun i hi => by rw [show i = g1 from hi]; exact hge1⟩⟩
        show Blk w5 g1 (Val.cells (if v.right = true then v else ⟨1, 0, ⟨#[]⟩⟩)) _
        rw [if_neg hr]
        exact hb5
      · have hr : v.right = true := by simpa using h1
        refine ⟨?_, hu1.then (hu2.then hu3)⟩
        show Blk w3 g1 (Val.cells (if v.right = true then v else ⟨1, 0, ⟨#[]⟩⟩)) _
        rw [if_pos hr]
        exact (hu2.then hu3).blk hb1 fun f => f
    have hur : u.right = true := by
      show (if v.right = true then v else (⟨1, 0, ⟨#[]⟩⟩ : Val)).right = true
      by_cases hr : v.right = true
      · rw [if_pos hr]; exact hr
      · rw [if_neg hr]; decide +kernel
    have hun : -9223372036854775808 ≤ u.n ∧ u.n ≤ 9223372036854775807 := by
      show _ ≤ (if v.right = true then v else (⟨1, 0, ⟨#[]⟩⟩ : Val)).n ∧ (if v.right = true then v else (⟨1, 0, ⟨#[]⟩⟩ : Val)).n ≤ _
      by_cases hr : v.right = true
      · rw [if_pos hr]; exact hv.2.1
      · rw [if_neg hr]; exact ⟨by decide, by decide⟩
    have hvu : valT v = valT u := by
      show valT v = valT (if v.right = true then v else (⟨1, 0, ⟨#[]⟩⟩ : Val))
      by_cases hr : v.right = true
      · rw [if_pos hr]
      · rw [if_neg hr]
        unfold valT
        rw [if_neg hr, if_pos (by decide +kernel), if_pos rfl]
    rw [hvu] at hK
    rintro w9 ⟨hb9, hu9⟩
    have hud := hu9.then (Upd.drew _ _)
    have hg := good_kinds hur
    have hk : u.k = 1 ∨ u.k = 2 ∨ u.k = 3 := by
      rcases hg with h | h | h
      · exact .inl h.1
      · exact .inr (.inl h.1)
      · exact .inr (.inr h.1)
    have hku : IntKind.u8.wrap u.k = ((lowByte u.k).toNat : Int) := lowByte_wrap _
    refine ⟨_, rfl, _, hb9.drew.cell (i := 0) rfl, lay_one (y := lowByte u.k) hku (hgw _ hud) (by omega) fun w11 h11 hu11 => ⟨rfl, ?_⟩⟩
    have hb11 := hu11.tblk hb9.drew (by decide)
    have hu011 : Upd (Typed w WT) w w11 := hud.typed0 hu11
    have hl11 : (l ++ [lowByte u.k]).length ≤ 900000001 := by simp; omega
    refine ⟨_, hb11.cell (i := 0) rfl, ifB_mk (fun h1 => ?_) (fun h1 => ifB_mk (fun h2 => ?_) (fun h2 => ?_))⟩
    · have hk1 : u.k = 1 := beq_iff_eq.1 h1
      refine ⟨_, hb11.cell (i := 1) rfl, signed_one hun h11 (by omega) fun w13 h13 hu13 => ⟨_, rfl, hK w13 ?_ (hu011.typed hu13)⟩⟩
      unfold valT
      rw [if_pos hur, if_pos hk1]
      rw [hk1, List.append_assoc] at h13
      exact h13
    · have hk2 : u.k = 2 := beq_iff_eq.1 h2
      have hsz := right_size hur
      refine ⟨_, hb11.cell (i := 2) rfl, text_one (by omega) h11 (by omega) fun w13 h13 hu13 => ⟨_, rfl, hK w13 ?_ (hu011.typed hu13)⟩⟩
      unfold valT
      rw [if_pos hur, if_neg (by omega), if_pos hk2]
      rw [hk2, List.append_assoc] at h13
      exact h13
    · have hk1 : u.k ≠ 1 := by simpa using h1
      have hk2 : u.k ≠ 2 := by simpa using h2
      have hk3 : u.k = 3 := by omega
      refine ⟨_, rfl, _, hb11.drew.cell (i := 1) rfl, lay_one (y := lowByte u.n) (lowByte_wrap _) (h11.upd0 (Upd.drew _ _)) (by omega) fun w13 h13 hu13 => ⟨rfl, hK w13 ?_ ((hu011.more (Upd.drew _ _)).typed hu13)⟩⟩
      unfold valT
      rw [if_pos hur, if_neg hk1, if_neg hk2]
      rw [hk3, List.append_assoc] at h13
      exact h13)

/-- Values are laid. -/
theorem values_spec {xs : List Val} (hat : Stay w0 w g fun w' => At w' p (vals xs)) (hn : xs.length = n) (hn' : n ≤ 1000000) (hx : ∀ x ∈ xs, Va.Val.wf x) (h : Wr w0 w g l) (hl : l.length + 300 * n ≤ 900000000) (hK : ∀ w', Wr w0 w' g (l ++ xs.flatMap valT) → Upd (Typed w WT) w w' → K (.pointer (some ⟨g, 0, none⟩)) w') :
    CallsV prog F.codec_Writer_Value #[.pointer (some ⟨g, 0, none⟩), .slice p n c] w K :=
  R.codec_Writer_Value (by
    unfold C.codec_Writer_Value
    refine ⟨fun i w' => ∃ k : Nat, i = k ∧ k ≤ n ∧ Wr w0 w' g (l ++ (xs.take k).flatMap valT) ∧ Upd (Typed w WT) w w', fun i _ => n - i.toNat, ⟨0, rfl, by omega, by simpa using h, Upd.refl _ _⟩, ?_⟩
    rintro i w1 ⟨k, rfl, hk, h1, hu1⟩
    refine ifB_mk (fun h2 => ?_) (fun h2 => ?_)
    · have hkn : k < n := by have := of_decide_eq_true h2; omega
      have hkx : k < xs.length := by omega
      obtain ⟨a, ha, hcl⟩ := (hat _ _ h1 hu1).val hkx
      have hlen : ((xs.take k).flatMap valT).length ≤ 300 * k := by
        have := flat_len (f := valT) (B := 300) (l := xs.take k) fun x hx' => valT_len (hx x (List.mem_of_mem_take hx')).2.1
        rw [List.length_take, Nat.min_eq_left (by omega)] at this
        exact this
      refine ⟨a, ha, by omega, by omega, _, _, _, hcl, New.use (by simp [Value.oneCell']) fun g3 w3 hb3 hu3 hge3 _ => set_val xs[k] hb3 fun w6 hb6 hu6 => ifB_mk (fun _ => ⟨_, _, _, cells_cells (v := xs[k]) hb6, ?_⟩) (fun h => by cases h)⟩
      have hu16 : Upd Nothing w1 w6 := hu3.fresh hu6 fun i hi => by rw [show i = g3 from hi]; exact hge3
      show CallsV prog F.codec_Writer_one #[.pointer (some ⟨g, 0, none⟩), (xs[k]).val] w6 _
      refine one_spec (hx _ (List.getElem_mem hkx)) (h1.upd0 hu16) (by rw [List.length_append]; omega) fun w7 h7 hu7 => ⟨rfl, ?_⟩
      rw [i64_wrap (by omega) (by omega)]
      refine ⟨⟨k + 1, by omega, by omega, ?_, (hu1.more hu16).typed hu7⟩, by show n - _ < n - _; omega⟩
      rw [List.take_succ_eq_append_getElem hkx, List.flatMap_append, ← List.append_assoc]
      simpa using h7
    · have hkn : k = n := by have := of_decide_eq_false h2; omega
      rw [List.take_of_length_le (by omega)] at h1
      exact hK w1 h1 hu1)

theorem row_spec {xs : List Val} (hat : Stay w0 w g fun w' => At w' p (vals xs)) (hn : xs.length = n) (hn' : n ≤ 1000000) (hx : ∀ x ∈ xs, Va.Val.wf x) (h : Wr w0 w g l) (hl : l.length + 300 * n ≤ 899999900) (hK : ∀ w', Wr w0 w' g (l ++ rowT xs) → Upd (Typed w WT) w w' → K (.pointer (some ⟨g, 0, none⟩)) w') :
    CallsV prog F.codec_Writer_Row #[.pointer (some ⟨g, 0, none⟩), .slice p n c] w K :=
  R.codec_Writer_Row (by
    unfold C.codec_Writer_Row
    have hst := sizeT_len (n := (n : Int)) (by omega)
    refine size_one (by omega) h (by omega) fun w1 h1 hu1 => ⟨_, rfl, values_spec (hat.step hu1) hn hn' hx h1 (by rw [List.length_append]; omega) fun w2 h2 hu2 => ⟨_, rfl, hK w2 ?_ (hu1.typed hu2)⟩⟩
    unfold rowT
    rw [hn, ← List.append_assoc]
    exact h2)

/-- Rows that stay while a writer lays. -/
def RwsS (S : (World → Prop) → Prop) (p : Option Addr) (ls : List (List Val)) : Prop := ∀ i (h : i < ls.length), ∃ a q m d, p = some a ∧ S (fun w' => w'.cell? (a.add i) = some (.slice q m d)) ∧ S (fun w' => At w' q (vals ls[i])) ∧ ls[i].length = m ∧ m ≤ d
theorem RwsS.of0 {ls : List (List Val)} (h : Rws w0 p ls) : RwsS (Stay w0 w g) p ls := fun i hi => by
  obtain ⟨a, q, m, d, ha, hc, hat, hl, hd⟩ := h i hi
  exact ⟨a, q, m, d, ha, Stay.of0 fun w' hu => hu.cell hc fun f => f, Stay.of0 fun w' hu => hat.upd0 hu, hl, hd⟩
/-- Rows are laid. -/
theorem rows_spec {ls : List (List Val)} (hat : RwsS (Stay w0 w g) p ls) (hn : ls.length = n) (hn' : n ≤ 10000) (hB : ∀ r ∈ ls, r.length ≤ 40) (hx : ∀ r ∈ ls, ∀ x ∈ r, Va.Val.wf x) (h : Wr w0 w g l) (hl : l.length + 12100 * n ≤ 800000000) (hK : ∀ w', Wr w0 w' g (l ++ rowsT ls) → Upd (Typed w WT) w w' → K (.pointer (some ⟨g, 0, none⟩)) w') :
    CallsV prog F.codec_Writer_Rows #[.pointer (some ⟨g, 0, none⟩), .slice p n c] w K :=
  R.codec_Writer_Rows (by
    unfold C.codec_Writer_Rows
    have hst := sizeT_len (n := (n : Int)) (by omega)
    have hrl : ∀ r ∈ ls, (rowT r).length ≤ 12100 := fun r hr => by
      have := rowT_len (r := r) (by have := hB r hr; omega) fun v hv => (hx r hr v hv).2.1
      have := hB r hr
      omega
    refine size_one (by omega) h (by omega) fun w1 h1 hu1 => ⟨_, rfl, ?_⟩
    refine ⟨fun i w' => ∃ k : Nat, i = k ∧ k ≤ n ∧ Wr w0 w' g (l ++ sizeT (n : Int) ++ (ls.take k).flatMap rowT) ∧ Upd (Typed w WT) w w', fun i _ => n - i.toNat, ⟨0, rfl, by omega, by simpa using h1, hu1⟩, ?_⟩
    rintro i w2 ⟨k, rfl, hk, h2, hu2⟩
    refine ifB_mk (fun h3 => ?_) (fun h3 => ?_)
    · have hkn : k < n := by have := of_decide_eq_true h3; omega
      have hkx : k < ls.length := by omega
      obtain ⟨a, q, m, d, ha, hc, hstay, hl2, hd2⟩ := hat k hkx
      have hlen : ((ls.take k).flatMap rowT).length ≤ 12100 * k := by
        have := flat_len (f := rowT) (B := 12100) (l := ls.take k) fun x hx' => hrl x (List.mem_of_mem_take hx')
        rw [List.length_take, Nat.min_eq_left (by omega)] at this
        exact this
      have hmem := List.getElem_mem hkx
      have h40 := hB _ hmem
      refine ⟨a, ha, by omega, by omega, _, _, _, by simpa using hc _ _ h2 hu2, ?_⟩
      refine row_spec (hstay.step hu2) hl2 (by omega) (hx _ hmem) h2 (by simp only [List.length_append]; omega) fun w3 h3 hu3 => ⟨_, rfl, ?_⟩
      rw [i64_wrap (by omega) (by omega)]
      refine ⟨⟨k + 1, by omega, by omega, ?_, hu2.typed hu3⟩, by show n - _ < n - _; omega⟩
      rw [List.take_succ_eq_append_getElem hkx, List.flatMap_append, ← List.append_assoc]
      simpa using h3
    · have hkn : k = n := by have := of_decide_eq_false h3; omega
      rw [List.take_of_length_le (by omega)] at h2
      refine hK w2 ?_ hu2
      unfold rowsT
      rw [hn, ← List.append_assoc]
      exact h2)

theorem string_spec (h : Wr w0 w g l) (hK : K (.string (tx l)) w) : CallsV prog F.codec_Writer_String #[.pointer (some ⟨g, 0, none⟩)] w K :=
  R.codec_Writer_String (by
    unfold C.codec_Writer_String
    refine ifB_mk (fun h => by cases h) (fun _ => ⟨_, rfl, R.codec_Bytes_String (by
      unfold C.codec_Bytes_String
      obtain ⟨p, c, hb, ho, _⟩ := h
      exact ifB_mk (fun h => by cases h) (fun _ => ⟨_, rfl, p, _, c, hb.cell (i := 0) rfl, to_text ho.at rfl ⟨_, rfl, _, rfl, hK⟩⟩))⟩))
end
end Cd
end Go.Proofs.Ytjcgociobhhijaa
