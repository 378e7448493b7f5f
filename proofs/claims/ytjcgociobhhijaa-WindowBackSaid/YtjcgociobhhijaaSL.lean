/- The document's example for package schema. -/
import Derived.Test.YtjcgociobhhijaaSK
set_option linter.unusedVariables false
set_option linter.unusedSimpArgs false
set_option maxRecDepth 100000
namespace Go.Proofs.Ytjcgociobhhijaa
open Go Go.Proofs.Ytjcgociobhhijaa.SX Va
namespace Sc

def S0 : Schm := ⟨bs [116], [⟨bs [97], 1⟩, ⟨bs [98], 2⟩], [⟨[0], true⟩, ⟨[1], false⟩], 5, 1, 0⟩
def row0 : List Val := [⟨1, 1, bs []⟩, ⟨2, 0, bs [120]⟩]

theorem name_one {c : UInt8} (h1 : 97 ≤ (c.toNat : Int)) (h2 : (c.toNat : Int) ≤ 122) : NameP (bs [c]) := by
  have hb : bt (bs [c]) 0 = (c.toNat : Int) := rfl
  refine ⟨by show 1 ≤ 1; omega, by show 1 ≤ 16; omega, ?_, fun b hb' => ?_⟩
  · rw [hb]; exact ⟨h1, h2⟩
  · have : b = c := by simpa [bs] using hb'
    rw [this]
    exact .inl ⟨h1, h2⟩
theorem S0_right : S0.Right := by
  refine ⟨name_one (by decide) (by decide), ⟨?_, by decide, ?_⟩, ⟨?_, by decide, ?_, ?_⟩, by decide, by decide, by decide, by decide⟩
  · intro c hc
    simp only [S0, List.mem_cons, List.mem_nil_iff, or_false] at hc
    rcases hc with rfl | rfl
    · exact ⟨name_one (by decide) (by decide), by decide, by decide⟩
    · exact ⟨name_one (by decide) (by decide), by decide, by decide⟩
  · intro i j hi hj
    have hi' : i < 2 := hi
    obtain ⟨rfl, rfl⟩ : i = 1 ∧ j = 0 := by omega
    intro h
    have h1 : bs [98] = bs [97] := h
    have := congrArg (fun x : ByteArray => x.data.toList) h1
    simp [bs] at this
  · intro x hx
    simp only [S0, List.mem_cons, List.mem_nil_iff, or_false] at hx
    rcases hx with rfl | rfl
    · refine ⟨fun c hc => ?_, by decide, fun i j hi hj => ?_⟩
      · have : c = 0 := by simpa using hc
        subst this; decide
      · have hi' : i < 1 := hi
        omega
    · refine ⟨fun c hc => ?_, by decide, fun i j hi hj => ?_⟩
      · have : c = 1 := by simpa using hc
        subst this; decide
      · have hi' : i < 1 := hi
        omega
  · intro x hx
    have hx' : some (⟨[0], true⟩ : Ix) = some x := hx
    injection hx' with hx'
    rw [← hx']
  · intro i j hi hj
    have hi' : i < 2 := hi
    obtain ⟨rfl, rfl⟩ : i = 1 ∧ j = 0 := by omega
    intro h
    have h1 : ([1] : List Int) = [0] := h
    simp at h1
theorem S0_fits : FitsP S0.cols row0 := by
  refine ⟨rfl, by decide +kernel, fun i h h' => ?_⟩
  have hi : i < 2 := h
  obtain rfl | rfl : i = 0 ∨ i = 1 := by omega
  · rfl
  · rfl

section
variable {w : World} {K : Value → World → Prop}
end
end Sc
end Go.Proofs.Ytjcgociobhhijaa
