/- The document's answer for schemas: whether a schema is right. -/
import Derived.Test.YtjcgociobhhijaaSR
import Derived.Test.YtjcgociobhhijaaSP
set_option linter.unusedVariables false
set_option linter.unusedSimpArgs false
set_option maxRecDepth 100000
namespace Go.Proofs.Ytjcgociobhhijaa
open Go Go.Proofs.Ytjcgociobhhijaa.SX Va
namespace Sc
section
variable {w : World} {K : Value → World → Prop} {s : Schm} {v : Value}

end
end Sc
end Go.Proofs.Ytjcgociobhhijaa
