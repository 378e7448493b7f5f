/- The keys of rows by schemas, and the document's example. -/
import Derived.Test.YtjcgociobhhijaaSE
set_option linter.unusedVariables false
set_option linter.unusedSimpArgs false
set_option maxRecDepth 100000
namespace Go.Proofs.Ytjcgociobhhijaa
open Go Go.Proofs.Ytjcgociobhhijaa.SX Va
namespace Sc
section
variable {w : World} {K : Value → World → Prop} {p q : Option Addr} {n c m d : Nat} {s : Schm} {v : Value} {row : List Val} {index : Int}

theorem six_cells {g e : Nat} {a0 a1 a2 a3 a4 a5 : Value} (hb : Blk w g [a0, a1, a2, a3, a4, a5] e) : SX.cellsAt w (Addr.mk g 0 none) 0 [a0, a1, a2, a3, a4, a5] :=
  ⟨hb.cell (i := 0) rfl, hb.cell (i := 1) rfl, hb.cell (i := 2) rfl, hb.cell (i := 3) rfl, hb.cell (i := 4) rfl, hb.cell (i := 5) rfl, trivial⟩

def InP (s : Schm) (index : Int) : Prop := 0 ≤ index ∧ index ≤ (s.ixs.length : Int) - 1

/-- The key by an index that there is. -/
def skey (s : Schm) (i : Nat) (hi : i < s.ixs.length) (row : List Val) : List UInt8 :=
  (keyText (pk row s.ixs[i].cols)).data.toList ++ if s.ixs[i].unique = true then [] else (keyText (pk row (s.ixs[0]'(by omega)).cols)).data.toList

theorem keyText_size {xs : List Val} (h : xs.length ≤ 1000) : (keyText xs).size ≤ 409000 := by
  unfold keyText
  rw [tx_size]
  split
  · rename_i hall
    have hl := vkeys_length (B := 200) xs fun x hx => right_size (List.all_eq_true.1 hall x hx)
    have := Nat.mul_le_mul_right 409 h
    omega
  · simp

end
end Sc
end Go.Proofs.Ytjcgociobhhijaa
