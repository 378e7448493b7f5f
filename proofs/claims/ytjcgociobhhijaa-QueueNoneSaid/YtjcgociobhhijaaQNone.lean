/- Proved: 'affluxlaw23.QueueNone' returns true for every input, and its argument reads behind the call as it did. There is no condition. -/
import Derived.Test.YtjcgociobhhijaaQL
set_option linter.unusedVariables false
set_option linter.unusedSimpArgs false
set_option maxRecDepth 100000
namespace Go.Proofs.Ytjcgociobhhijaa
open Go Go.Proofs.Ytjcgociobhhijaa.SX Go.ChangeShapes Go.WideShapes Go.ChangeAt Go.RowKit
namespace QNone

theorem own : ownKnob Try.prog.godebug = none := by kernel_rfl
theorem laid : laidOutB Try.prog = true := by kernel_rfl

theorem walk {n : Int} {w : World} : CallsV prog F.affluxlaw23_QueueNone #[.int .i64 n] w (fun v w' => v = .bool true ∧ Upd Nothing w w') :=
  R.affluxlaw23_QueueNone (by
    unfold C.affluxlaw23_QueueNone
    refine New.use (by simp [Value.oneCell']) fun b w1 hb hu hge hlt => ?_
    refine Qu.put_none ⟨0, 1, rfl, Qu.at_none ⟨0, false, rfl, Qu.remove_none ⟨0, false, rfl, ifB_mk (fun _ => ifB_mk (fun _ => ?_) (fun h => by simp at h)) (fun h => by simp at h)⟩⟩⟩
    refine Qu.take_none ⟨none, 0, 0, rfl, ifB_mk (fun _ => ifB_mk (fun _ => ifB_mk (fun _ => ifB_mk (fun _ => ifB_mk (fun _ => ?_) (fun h => by simp at h)) (fun h => by simp at h)) (fun h => by simp at h)) (fun h => by simp at h)) (fun h => by simp at h)⟩
    refine Qu.len_none ⟨0, rfl, ifB_mk (fun _ => Qu.free_none ⟨0, rfl, ifB_mk (fun _ => ?_) (fun h => by simp at h)⟩) (fun h => by simp at h)⟩
    refine Qu.counts_none fun w2 hu2 => ⟨0, 0, 0, 0, rfl, ifB_mk (fun _ => ?_) (fun h => by simp at h)⟩
    exact Qu.awake_spec fun w3 hu3 => ⟨true, rfl, rfl, (hu.then hu2).then hu3⟩)

theorem lifted (os : Os) (started : os.Started) (H : Type) (enc : TypeId × Value → H) :
    ReturnsInHanded {} Try.checked os 5 .any (Rows.queueNoneSpec.pre6 enc Try.prog Try.f5 Rows.queueNoneRow.domain false) (Rows.queueNoneSpec.post enc Try.prog Try.f5 false true false false) := by
  refine returnsInHanded_of_change (C := Try.checked) own started (by kernel_rfl) Try.func5
    (ChangeSpec.witness6 (enc := enc) (C := Try.checked) false ⟨#[], #[.int .i64 0], []⟩ 8 (by kernel_rfl) (by kernel_rfl) (by kernel_rfl) (by kernel_rfl)) ?_
  intro W base args ds gs before hval0 hW hcnd _
  have hval : ∀ (j : Nat) t v, Try.f5.params[j]? = some t → args[j]? = some v → Value.okWide Try.prog W .any base t v := hval0
  have hW' := hW
  obtain ⟨p, q, hA0, hV, rfl, hfz, hnd⟩ := hW
  have hA : DataW.TrodAll enc Try.prog W 0 (fun _ => true) true Try.f5.params.toList args.toList ds p := hA0
  rw [Try.params5] at hA hval
  obtain ⟨v0, vs0, d0, ds0, p0, q0, hargs, rfl, rfl, h0, r0⟩ := trodAll_cons hA
  obtain ⟨rfl, rfl, rfl⟩ := trodAll_nil r0
  obtain rfl : args = #[v0] := by cases args; simp_all
  obtain ⟨n, hn, _⟩ := (Rd.of_trod h0).int Try.underlying3
  obtain rfl := Rd.arg Try.underlying3 rfl (hval 0 3 v0 rfl rfl) hn
  refine ((walk (n := n) (w := W)).back Try.func5 (by kernel_rfl) (by kernel_rfl)).mono fun e W' ⟨v, he, hv, hu⟩ => ?_
  subst he; subst hv
  exact ⟨_, rfl, law_post (tb := 4) laid (by kernel_rfl) hW' rfl rfl (by kernel_rfl) Try.underlying4 hu⟩

theorem proved : Rows.QueueNoneSaid :=
  OpenClaim.holds_of_wide 5 Try.f5 rfl rfl rfl rfl rfl rfl rfl ⟨rfl, rfl, rfl, rfl, rfl⟩ rfl rfl rfl rfl rfl (by kernel_rfl) Try.func5 (by kernel_rfl)
    (of_decide_eq_true (by kernel_rfl)) (by unfold Func.isWrapper; first | (rw [if_pos (by decide +kernel)]; kernel_rfl) | (rw [if_neg (by decide +kernel)]; exact ⟨rfl, rfl⟩))
    (fun os started H enc _ => lifted os started H enc)
#print axioms proved
end QNone
end Go.Proofs.Ytjcgociobhhijaa
