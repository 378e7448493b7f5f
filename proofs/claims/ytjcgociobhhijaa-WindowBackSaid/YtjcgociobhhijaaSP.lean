/- Plain law: so many unlike places are in so many columns. -/
import Derived.Test.YtjcgociobhhijaaSS
set_option linter.unusedVariables false
set_option linter.unusedSimpArgs false
namespace Go.Proofs.Ytjcgociobhhijaa.SX
open Go

theorem nodup_of_unlike {l : List Int} (h : Unlike (· = ·) l) : l.Nodup := by
  rw [List.nodup_iff_pairwise_ne, List.pairwise_iff_getElem]
  intro i j hi hj hij e
  exact h j i hj hij e.symm
theorem pigeon : ∀ (n : Nat) (l : List Int), (∀ c ∈ l, 0 ≤ c ∧ c ≤ (n : Int) - 1) → l.Nodup → l.length ≤ n
  | 0, l, h, _ => by
    cases l with
    | nil => simp
    | cons x l => have := h x (by simp); omega
  | n + 1, l, h, hd => by
    by_cases hm : (n : Int) ∈ l
    · have ih := pigeon n (l.erase (n : Int)) (fun c hc => by
        have h1 := h c (List.mem_of_mem_erase hc)
        have h2 : c ≠ (n : Int) := ((List.Nodup.mem_erase_iff hd).1 hc).1
        omega) (hd.erase _)
      have := List.length_erase_of_mem hm
      omega
    · have ih := pigeon n l (fun c hc => by
        have h1 := h c hc
        have h2 : c ≠ (n : Int) := fun e => hm (e ▸ hc)
        omega) hd
      omega
end Go.Proofs.Ytjcgociobhhijaa.SX
