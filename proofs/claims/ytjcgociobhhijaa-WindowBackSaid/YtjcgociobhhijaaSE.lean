/- The functions of package schema on rows: what fits, what is picked, what the keys are. -/
import Derived.Test.YtjcgociobhhijaaVY
import Derived.Test.YtjcgociobhhijaaSD
set_option linter.unusedVariables false
set_option linter.unusedSimpArgs false
set_option maxRecDepth 100000
namespace Go.Proofs.Ytjcgociobhhijaa
open Go Go.Proofs.Ytjcgociobhhijaa.SX Va
namespace Sc

/-- Does a row fit columns? -/
def FitsP (cols : List Col) (row : List Val) : Prop := row.length = cols.length ∧ row.all Val.right = true ∧ ∀ i (h : i < row.length) (h' : i < cols.length), row[i].k = cols[i].kind

def pickB (row : List Val) (ps : List Int) : Bool := ps.all fun i => decide (0 ≤ i) && decide (i ≤ (row.length : Int) - 1)
def pickV (row : List Val) (i : Int) : Val := (row[i.toNat]?).getD ⟨0, 0, ⟨#[]⟩⟩
/-- A row's values at places; nothing, if one isn't there. -/
def pk (row : List Val) (ps : List Int) : List Val := if pickB row ps = true then ps.map (pickV row) else []
theorem pk_length (row : List Val) (ps : List Int) : (pk row ps).length ≤ ps.length := by unfold pk; split <;> simp

section
variable {w : World} {K : Value → World → Prop} {p q : Option Addr} {n c m d : Nat} {s : ByteArray}

end
end Sc
end Go.Proofs.Ytjcgociobhhijaa
