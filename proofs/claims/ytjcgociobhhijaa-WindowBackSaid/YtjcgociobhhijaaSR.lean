/- The document's answer for schemas: names, lists of places. -/
import Derived.Test.YtjcgociobhhijaaSA
set_option linter.unusedVariables false
set_option linter.unusedSimpArgs false
set_option maxRecDepth 100000
namespace Go.Proofs.Ytjcgociobhhijaa
open Go Go.Proofs.Ytjcgociobhhijaa.SX Va
namespace Sc
section
variable {w : World} {K : Value → World → Prop} {p q : Option Addr} {n c m d : Nat} {s : ByteArray}

theorem rnamed_spec (hK : ∀ b : Bool, (b = true ↔ NameP s) → K (.bool b) w) : CallsV prog F.affluxref03_Named #[.string s] w K :=
  R.affluxref03_Named (by
    unfold C.affluxref03_Named
    have hlen : s.data.toList.length = s.size := rfl
    refine ifB_mk (fun h => hK _ ⟨fun h => (by cases h), fun h' => ?_⟩) (fun h => ifB_mk (fun h2 => hK _ ⟨fun h => (by cases h), fun h' => ?_⟩) (fun h2 => ?_))
    · have := of_decide_eq_true h; have := h'.1; omega
    · have := of_decide_eq_true h2; have := h'.2.1; omega
    have h1 : 1 ≤ s.size := by have := of_decide_eq_false h; omega
    have h16 : s.size ≤ 16 := by have := of_decide_eq_false h2; omega
    refine ⟨fun i w' => w' = w ∧ ∃ k : Nat, i = k ∧ k ≤ s.size ∧ (0 < k → letterP (bt s 0)) ∧ ∀ x ∈ s.data.toList.take k, partP (x.toNat : Int), fun i _ => s.size - i.toNat, ⟨rfl, 0, rfl, by omega, fun h => by omega, by simp⟩, ?_⟩
    rintro i w1 ⟨rfl, k, rfl, hk, hq0, hq⟩
    refine ifB_mk (fun h4 => ?_) (fun h4 => ?_)
    · have hkn : k < s.size := by have := of_decide_eq_true h4; omega
      have hb : bt s (k : Int) = ((s.data.toList[k]'(by rw [hlen]; exact hkn)).toNat : Int) := bt_get hkn
      have hnext : partP (bt s (k : Int)) → (k = 0 → letterP (bt s (k : Int))) → (w1 = w1 ∧ ∃ k' : Nat, IntKind.i64.wrap ((k : Int) + 1) = k' ∧ k' ≤ s.size ∧ (0 < k' → letterP (bt s 0)) ∧ ∀ x ∈ s.data.toList.take k', partP (x.toNat : Int)) ∧ s.size - (IntKind.i64.wrap ((k : Int) + 1)).toNat < s.size - (k : Int).toNat := fun hp h0 => by
        rw [i64_wrap (by omega) (by omega)]
        refine ⟨⟨rfl, k + 1, by omega, by omega, fun _ => ?_, forall_take (by rw [hlen]; exact hkn) hq (by rw [← hb]; exact hp)⟩, by omega⟩
        by_cases hk0 : k = 0
        · subst hk0; exact h0 rfl
        · exact hq0 (by omega)
      have hbad : ¬ (partP (bt s (k : Int)) ∧ (k = 0 → letterP (bt s (k : Int)))) → K (.bool false) w1 := fun hn => hK _ ⟨fun h => (by cases h), fun h' => by
        refine absurd ⟨?_, fun hk0 => ?_⟩ hn
        · rw [hb]; exact h'.2.2.2 _ (List.getElem_mem _)
        · subst hk0; exact h'.2.2.1⟩
      generalize bt s (k : Int) = x at hnext hbad ⊢
      have hk0 : ((k : Int) == 0) = decide (k = 0) := by
        rw [Bool.eq_iff_iff]; simp only [beq_iff_eq, decide_eq_true_eq]; omega
      unfold partP letterP at hnext hbad
      have hrest : ¬ (97 ≤ x ∧ x ≤ 122) → ifB ((k : Int) == 0) (K (.bool false) w1) (ifB (decide ((48 : Int) ≤ x)) (ifB (!(decide (x ≤ (57 : Int)))) (ifB (x != (95 : Int)) (K (.bool false) w1) _) _) (ifB (x != (95 : Int)) (K (.bool false) w1) _)) := fun hl => by
        refine ifB_mk (fun h5 => hbad fun h => hl (h.2 (by rw [hk0] at h5; exact of_decide_eq_true h5))) (fun h5 => ?_)
        have hkz : k ≠ 0 := by rw [hk0] at h5; exact of_decide_eq_false h5
        refine ifB_mk (fun h6 => ifB_mk (fun h7 => ifB_mk (fun h8 => hbad fun h => ?_) (fun h8 => hnext ?_ (fun h => absurd h hkz))) (fun h7 => hnext ?_ (fun h => absurd h hkz))) (fun h6 => ifB_mk (fun h8 => hbad fun h => ?_) (fun h8 => hnext ?_ (fun h => absurd h hkz)))
        · simp at h6 h7 h8; omega
        · simp at h8; omega
        · simp at h6 h7; omega
        · simp at h6 h8; omega
        · simp at h8; omega
      refine ⟨by omega, by omega, ifB_mk (fun h5 => ifB_mk (fun h6 => hrest ?_) (fun h6 => hnext ?_ (fun _ => ?_))) (fun h5 => hrest ?_)⟩
      · simp at h5 h6; omega
      · simp at h5 h6; omega
      · simp at h5 h6; omega
      · simp at h5; omega
    · have hkn : k = s.size := by have := of_decide_eq_false h4; omega
      rw [List.take_of_length_le (by omega)] at hq
      exact hK _ ⟨fun _ => ⟨h1, h16, hq0 (by omega), hq⟩, fun _ => rfl⟩)

end
end Sc
end Go.Proofs.Ytjcgociobhhijaa
