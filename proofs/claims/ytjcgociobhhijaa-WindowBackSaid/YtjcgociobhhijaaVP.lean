/- The examples of the document for package value, and the keys of a row. -/
import Derived.Test.YtjcgociobhhijaaVB
set_option linter.unusedVariables false
set_option linter.unusedSimpArgs false
set_option maxRecDepth 100000
namespace Go.Proofs.Ytjcgociobhhijaa
open Go Go.Proofs.Ytjcgociobhhijaa.SX
namespace Va
section
variable {w : World} {K : Value → World → Prop} {p q : Option Addr} {n c m d : Nat} {xs ys : List Val} {a b v : Val} {l : List UInt8}

/-- The print of a value that is no number. -/
def vtext (v : Val) : List UInt8 := if v.right = true then (if v.k = 2 then 39 :: repl 39 [39, 39] v.s.data.toList ++ [39] else if v.n = 1 then [116, 114, 117, 101] else [102, 97, 108, 115, 101]) else []

end
end Va
end Go.Proofs.Ytjcgociobhhijaa
