/- The functions of package schema that tell whether a schema is right: what each does. -/
import Derived.Test.YtjcgociobhhijaaRl0
import Derived.Test.YtjcgociobhhijaaRl1
import Derived.Test.YtjcgociobhhijaaSS
set_option linter.unusedVariables false
set_option linter.unusedSimpArgs false
set_option maxRecDepth 100000
namespace Go.Proofs.Ytjcgociobhhijaa
open Go Go.Proofs.Ytjcgociobhhijaa.SX
namespace Sc
theorem su8 : SliceT prog T.s_uint8 T.uint8 1 1 [.int .u8 0] := SliceT.of_tab (ti := ti111) (te := ti5) tabOK (by kernel_rfl) (by kernel_rfl) (by kernel_rfl) (by kernel_rfl)
theorem und_u8 : prog.underlying T.uint8 = some (.int .u8) := Try.underlying5
theorem und_str : prog.underlying T.string = some .string := Try.underlying9
section
variable {w : World} {K : Value → World → Prop} {p q : Option Addr} {n c m d : Nat} {s : ByteArray}

theorem letter_spec {x : Int} (hK : ∀ b : Bool, (b = true ↔ letterP x) → K (.bool b) w) : CallsV prog F.schema_letter #[.int .u8 x] w K :=
  R.schema_letter (by
    unfold C.schema_letter letterP at *
    refine ifB_mk (fun h => hK _ ?_) (fun h => hK _ ?_)
    · have := of_decide_eq_true h
      rw [decide_eq_true_eq]; omega
    · have := of_decide_eq_false h
      exact ⟨fun h => (by cases h), fun h => by omega⟩)
theorem part_spec {x : Int} (hK : ∀ b : Bool, (b = true ↔ partP x) → K (.bool b) w) : CallsV prog F.schema_part #[.int .u8 x] w K :=
  R.schema_part (by
    unfold C.schema_part
    refine letter_spec fun b hb => ⟨b, rfl, ifB_mk (fun h => hK _ ⟨fun _ => .inl (hb.1 h), fun _ => rfl⟩) (fun h => ?_)⟩
    have hn : ¬ letterP x := fun h' => by rw [hb.2 h'] at h; cases h
    have h95 : (x == 95) = true ↔ x = 95 := beq_iff_eq
    refine ifB_mk (fun h1 => ifB_mk (fun h2 => hK _ ⟨fun _ => .inr (.inl ⟨of_decide_eq_true h1, of_decide_eq_true h2⟩), fun _ => rfl⟩) (fun h2 => hK _ ?_)) (fun h1 => hK _ ?_)
    · have := of_decide_eq_false h2
      rw [h95]
      unfold partP
      exact ⟨fun h => .inr (.inr h), fun h => by rcases h with h | h | h; exact absurd h hn; omega; exact h⟩
    · have := of_decide_eq_false h1
      rw [h95]
      unfold partP
      exact ⟨fun h => .inr (.inr h), fun h => by rcases h with h | h | h; exact absurd h hn; omega; exact h⟩)
theorem named_spec (hK : ∀ (b : Bool) w', (b = true ↔ NameP s) → Upd Nothing w w' → K (.bool b) w') : CallsV prog F.schema_named #[.string s] w K :=
  R.schema_named (by
    unfold C.schema_named
    have hlen : s.data.toList.length = s.size := rfl
    refine ifB_mk (fun h => hK _ _ ⟨fun h => (by cases h), fun h' => ?_⟩ (Upd.refl _ _)) (fun h => ifB_mk (fun h2 => hK _ _ ⟨fun h => (by cases h), fun h' => ?_⟩ (Upd.refl _ _)) (fun h2 => ?_))
    · have h1 := h'.1
      rw [sEq_iff] at h
      rw [h] at h1
      exact absurd h1 (by show ¬ 1 ≤ 0; omega)
    · have := of_decide_eq_true h2
      have := h'.2.1
      omega
    · have h16 : s.size ≤ 16 := by have := of_decide_eq_false h2; omega
      have h1 : 1 ≤ s.size := by
        rcases Nat.eq_zero_or_pos s.size with h0 | h0
        · exfalso
          have he : s = bs [] := by
            refine ba_ext ?_
            have : s.data.toList = [] := List.length_eq_zero_iff.1 (by rw [hlen, h0])
            rw [this]; rfl
          rw [he, sEq_self] at h
          cases h
        · exact h0
      refine ⟨by omega, by omega, letter_spec fun b hb => ⟨b, rfl, ifB_mk (fun h3 => ?_) (fun h3 => ?_)⟩⟩
      · refine hK _ _ ⟨fun h => (by cases h), fun h' => ?_⟩ (Upd.refl _ _)
        rw [hb.2 h'.2.2.1] at h3
        cases h3
      have hb1 : b = true := by simpa using h3
      refine conv_text und_str su8.desc und_u8 fun cp cc w2 hat2 hu2 => ⟨cp, _, cc, rfl, ?_⟩
      refine ⟨fun i w' => ∃ k : Nat, i = k ∧ k ≤ s.size ∧ Upd Nothing w2 w' ∧ ∀ x ∈ s.data.toList.take k, partP (x.toNat : Int), fun i _ => s.size - i.toNat, ⟨0, rfl, by omega, Upd.refl _ _, by simp⟩, ?_⟩
      rintro i w3 ⟨k, rfl, hk, hu3, hq⟩
      refine ifB_mk (fun h4 => ?_) (fun h4 => ?_)
      · have hkn : k < s.size := by have := of_decide_eq_true h4; omega
        obtain ⟨a, ha, hc⟩ := (hat2.upd0 hu3) k _ (bytesV_get (by rw [hlen]; exact hkn))
        refine ⟨a, ha, by omega, by omega, _, by simpa using hc, part_spec fun b2 hb2 => ⟨b2, rfl, ifB_mk (fun h5 => ?_) (fun h5 => ?_)⟩⟩
        · refine hK _ _ ⟨fun h => (by cases h), fun h' => ?_⟩ (hu2.then hu3)
          rw [hb2.2 (h'.2.2.2 _ (List.getElem_mem _))] at h5
          cases h5
        · exact scan_next (Q := fun k => ∀ x ∈ s.data.toList.take k, partP (x.toNat : Int)) hkn (by omega) hu3 (forall_take (by rw [hlen]; exact hkn) hq (hb2.1 (by simpa using h5)))
      · have hkn : k = s.size := by have := of_decide_eq_false h4; omega
        rw [List.take_of_length_le (by omega)] at hq
        exact hK _ _ ⟨fun _ => ⟨h1, h16, hb.1 hb1, hq⟩, fun _ => rfl⟩ (hu2.then hu3))

/-- Texts, all of which are names. -/
theorem Named_spec {l : List ByteArray} (hat : At w p (l.map Value.string)) (hl : l.length = n) (hn : n ≤ 9223372036854775806) (hK : ∀ (b : Bool) w', (b = true ↔ ∀ s ∈ l, NameP s) → Upd Nothing w w' → K (.bool b) w') : CallsV prog F.schema_Named #[.slice p n c] w K :=
  R.schema_Named (by
    unfold C.schema_Named
    refine ⟨fun i w' => ∃ k : Nat, i = k ∧ k ≤ n ∧ Upd Nothing w w' ∧ ∀ x ∈ l.take k, NameP x, fun i _ => n - i.toNat, ⟨0, rfl, by omega, Upd.refl _ _, by simp⟩, ?_⟩
    rintro i w1 ⟨k, rfl, hk, hu1, hq⟩
    refine ifB_mk (fun h4 => ?_) (fun h4 => ?_)
    · have hkn : k < n := by have := of_decide_eq_true h4; omega
      obtain ⟨a, ha, hc⟩ := (hat.upd0 hu1) k (.string l[k]) (by simp [show k < l.length by omega])
      refine ⟨a, ha, by omega, by omega, _, by simpa using hc, named_spec fun b w2 hb hu2 => ⟨b, rfl, ifB_mk (fun h5 => ?_) (fun h5 => ?_)⟩⟩
      · refine hK _ _ ⟨fun h => (by cases h), fun h' => ?_⟩ (hu1.then hu2)
        rw [hb.2 (h' _ (List.getElem_mem _))] at h5
        cases h5
      · exact scan_next (Q := fun k => ∀ x ∈ l.take k, NameP x) hkn hn (hu1.then hu2) (forall_take (by omega) hq (hb.1 (by simpa using h5)))
    · have hkn : k = n := by have := of_decide_eq_false h4; omega
      rw [List.take_of_length_le (by omega)] at hq
      exact hK _ _ ⟨fun _ => hq, fun _ => rfl⟩ hu1)

end
end Sc
end Go.Proofs.Ytjcgociobhhijaa
