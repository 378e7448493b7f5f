/- The functions of package value, and of the document's answer for it, that lay keys: what each does. -/
import Derived.Test.YtjcgociobhhijaaVA
import Derived.Test.YtjcgociobhhijaaVK
set_option linter.unusedVariables false
set_option linter.unusedSimpArgs false
set_option maxRecDepth 100000
namespace Go.Proofs.Ytjcgociobhhijaa
open Go Go.Proofs.Ytjcgociobhhijaa.SX
namespace Va

/-- The library's own number of bytes, whatever it is. -/
def MX (w : World) : Prop := ∃ m, w.cell? ⟨0, 0, none⟩ = some (.int .i64 m)
theorem MX.upd {F : Nat → Prop} {w w' : World} (h : MX w) (hu : Upd F w w') (hn : ¬ F 0) : MX w' := ⟨_, hu.cell h.choose_spec hn⟩
theorem MX.upd0 {w w' : World} (h : MX w) (hu : Upd Nothing w w') : MX w' := h.upd hu fun f => f
theorem MX.lt {w : World} (h : MX w) : 0 < w.heap.size := World.block_lt_of_cell? w ⟨0, 0, none⟩ h.choose_spec

theorem su8 : SliceT prog T.s_uint8 T.uint8 1 1 [.int .u8 0] := SliceT.of_tab (ti := ti111) (te := ti5) tabOK (by kernel_rfl) (by kernel_rfl) (by kernel_rfl) (by kernel_rfl)
theorem und_u8 : prog.underlying T.uint8 = some (.int .u8) := Try.underlying5
theorem und_str : prog.underlying T.string = some .string := Try.underlying9

section
variable {w : World} {K : Value → World → Prop} {p q : Option Addr} {n c m d : Nat} {xs ys : List Val} {a b v : Val} {l : List UInt8}

theorem to_text (hat : At w p (bytesV l)) (hl : l.length = n) (hK : K (.string ⟨l.toArray⟩) w) : ConvV prog T.s_uint8 T.string (.slice p n c) w K := conv_bytes su8.desc und_u8 und_str hat hl hK

/-- One byte more. -/
theorem app1 {x : Int} {y : UInt8} (hx : x = (y.toNat : Int)) (ho : Own w T.uint8 1 p n c (bytesV l)) (hsz : n + 1 ≤ 1099511627776)
    (hK : ∀ p' c' w', Own w' T.uint8 1 p' (n + 1) c' (bytesV (l ++ [y])) → Upd (Fp p c) w w' → (∀ k, Fp p' c' k → Fp p c k ∨ w.heap.size ≤ k) → K (.slice p' (n + 1) c') w') :
    ∀ g w1, New w (.cells #[.int .u8 x] T.uint8) g w1 → BuiltV prog .append #[T.s_uint8, T.s_uint8] T.s_uint8 #[.slice p n c, .slice (some (Addr.mk g 0 none)) 1 1] w1 K := by
  subst hx
  refine New.use (by simp [Value.oneCell']) fun g w1 hb hu hge _ => ?_
  refine append_own (m := 1) su8 (.inl su8.desc) (ho.upd0 hu) (Src.slice (m := 1) (ys := [.int .u8 (y.toNat : Int)]) (At.of_blk hb fun j v hj => by rw [Nat.zero_add]; exact hj) rfl (by simp [Value.oneCell'])) (by decide) (by decide) (by omega) fun p' c' w' ho' hu' hf' => ?_
  refine hK p' c' w' (by rw [bytesV_append]; exact ho') (hu.trans hu' (fun _ _ h => h.elim) (fun _ _ h => h)) fun k hk => ?_
  rcases hf' k hk with h | h
  · exact .inl h
  · exact .inr (Nat.le_trans hu.size h)

/-- A text more. -/
theorem app_text {s : ByteArray} (ho : Own w T.uint8 1 p n c (bytesV l)) (hsz : n + s.size ≤ 1099511627776)
    (hK : ∀ p' c' w', Own w' T.uint8 1 p' (n + s.size) c' (bytesV (l ++ s.data.toList)) → Upd (Fp p c) w w' → (∀ k, Fp p' c' k → Fp p c k ∨ w.heap.size ≤ k) → K (.slice p' (n + s.size) c') w') :
    BuiltV prog .append #[T.s_uint8, T.string] T.s_uint8 #[.slice p n c, .string s] w K := by
  refine append_own su8 (.inr und_str) ho (Src.str s) (by decide) (by decide) (by omega) fun p' c' w' ho' hu' hf' => ?_
  exact hK p' c' w' (by rw [bytesV_append]; exact ho') hu' hf'

/-! ### put -/
/-! ### keys -/
def tx (l : List UInt8) : ByteArray := ⟨l.toArray⟩
theorem tx_app (a b : List UInt8) : tx a ++ tx b = tx (a ++ b) := by
  refine ba_ext ?_
  simp [tx]
theorem tx_size (l : List UInt8) : (tx l).size = l.length := by simp [tx, ByteArray.size]
theorem tx_bs (l : List UInt8) : bs l = tx l := rfl
theorem tx_self (s : ByteArray) : tx s.data.toList = s := by refine ba_ext ?_; simp [tx]

theorem right_size {v : Val} (h : v.right = true) : v.s.size ≤ 200 := by
  unfold Val.right at h
  simp only [Bool.or_eq_true, Bool.and_eq_true, sEq_iff, decide_eq_true_eq] at h
  rcases h with (⟨_, h⟩ | ⟨_, _, h⟩) | ⟨_, _, h⟩
  · rw [h]; show 0 ≤ 200; omega
  · omega
  · rw [h]; show 0 ≤ 200; omega

def keyText (xs : List Val) : ByteArray := tx (if xs.all Val.right = true then vkeys xs else [])

end
end Va
end Go.Proofs.Ytjcgociobhhijaa
