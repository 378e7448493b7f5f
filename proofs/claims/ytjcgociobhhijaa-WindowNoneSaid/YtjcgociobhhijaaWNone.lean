/- Proved: 'affluxlaw19.WindowNone' returns true for every input, and its arguments read behind the call as they did. There is no condition. -/
import Derived.Test.YtjcgociobhhijaaWH
set_option linter.unusedVariables false
set_option linter.unusedSimpArgs false
set_option maxRecDepth 100000
namespace Go.Proofs.Ytjcgociobhhijaa
open Go Go.Proofs.Ytjcgociobhhijaa.SX Go.ChangeShapes Go.WideShapes Go.ChangeAt Go.RowKit Va Cd Sc Wn
namespace WNone

theorem walk {id : Int} {p : Option Addr} {n c : Nat} {l : List Row} {s : ByteArray} {W : World} {K : Value → World → Prop} (hr : RwsS' (fun _ => Lo W) W p n l) (hc : n ≤ c) (hK : ∀ w', Upd Nothing W w' → K (.bool true) w') :
    CallsV prog F.affluxlaw19_WindowNone #[.agg #[.int .i64 id, .slice p n c], .string s] W K := by
  refine R.affluxlaw19_WindowNone ?_
  unfold C.affluxlaw19_WindowNone
  have haw : ∀ w1, Upd Nothing W w1 → CallsV prog F.affluxlaw19_awake #[] w1 (fun v w2 => ∃ r : Bool, v = .bool r ∧ K (.bool r) w2) := fun w1 hu1 => awake19_spec fun w2 hu2 => ⟨true, rfl, hK _ (hu1.then hu2)⟩
  refine New.use (by simp [Value.oneCell']) fun g1 w1 hb1 hu1 hge1 _ => ⟨fun w' => Upd Nothing w1 w', ⟨_, _, _, hb1.cell (i := 1) rfl, ifB_mk (fun _ => haw _ hu1) (fun _ => ifB_mk (fun _ => haw _ hu1) (fun _ => Upd.refl _ _))⟩, ?_⟩
  intro w4 hu4
  have hu14 := hu1.then hu4
  refine New.use (by simp [Value.oneCell']) fun g5 w5 hb5 hu5 hge5 _ => ⟨_, _, _, _, two_cells (hu5.blk (hu4.blk hb1 fun f => f) fun f => f), New.use (by simp [Value.oneCell']) fun g6 w6 hb6 hu6 hge6 _ => ?_⟩
  have hu : Upd Nothing W w6 := hu14.then (hu5.then hu6)
  refine R.window_Window_Put (by
    unfold C.window_Window_Put
    refine ifB_mk (fun _ => ⟨_, _, rfl, ?_⟩) (fun h => by cases h)
    refine ifB_mk (fun _ => ifB_mk (fun _ => ?_) (fun h => by cases h)) (fun h => by cases h)
    refine R.window_Window_Rows (by
      unfold C.window_Window_Rows
      refine ifB_mk (fun h => by cases h) (fun _ => ⟨_, _, _, rfl, ifB_mk (fun _ => ?_) (fun h => by cases h)⟩)
      refine R.window_Window_Seen (by
        unfold C.window_Window_Seen
        refine ifB_mk (fun _ => ⟨_, rfl, ifB_mk (fun _ => ?_) (fun h => by cases h)⟩) (fun h => by cases h)
        refine R.window_Window_Staged (by
          unfold C.window_Window_Staged
          refine ifB_mk (fun _ => ⟨_, rfl, ifB_mk (fun _ => ?_) (fun h => by cases h)⟩) (fun h => by cases h)
          refine R.window_Window_Bytes (by
            unfold C.window_Window_Bytes
            refine ifB_mk (fun _ => ⟨_, rfl, ifB_mk (fun _ => ?_) (fun h => by rw [sEq_self] at h; cases h)⟩) (fun h => by cases h)
            refine R.window_Window_Load (by
              unfold C.window_Window_Load
              exact ifB_mk (fun _ => ⟨_, rfl, ifB_mk (fun _ => haw _ hu) (fun h => by cases h)⟩) (fun h => by cases h)))))))
theorem own : ownKnob Try.prog.godebug = none := by kernel_rfl
theorem laid : laidOutB Try.prog = true := by kernel_rfl

theorem lifted (os : Os) (started : os.Started) (H : Type) (enc : TypeId × Value → H) :
    ReturnsInHanded {} Try.checked os 7 .any (Rows.windowNoneSpec.pre6 enc Try.prog Try.f7 Rows.windowNoneRow.domain false) (Rows.windowNoneSpec.post enc Try.prog Try.f7 false true false false) := by
  refine returnsInHanded_of_change (C := Try.checked) own started (by kernel_rfl) Try.func7
    (ChangeSpec.witness6 (enc := enc) (C := Try.checked) false ⟨#[], #[.agg #[.int .i64 0, .slice none 0 0], .string ByteArray.empty], []⟩ 8 (by kernel_rfl) (by kernel_rfl) (by kernel_rfl) (by kernel_rfl)) ?_
  intro W base args ds gs before hval0 hW hcnd _
  have hval : ∀ (j : Nat) t v, Try.f7.params[j]? = some t → args[j]? = some v → Value.okWide Try.prog W .any base t v := hval0
  have hW' := hW
  obtain ⟨p, q, hA0, hV, rfl, hfz, hnd⟩ := hW
  have hA : DataW.TrodAll enc Try.prog W 0 (fun _ => true) true Try.f7.params.toList args.toList ds p := hA0
  rw [Try.params7] at hA hval
  obtain ⟨v0, vs0, d0, ds0, p0, q0, hargs, rfl, rfl, h0, r0⟩ := trodAll_cons hA
  obtain ⟨v1, vs1, d1, ds1, p1, q1, rfl, rfl, rfl, h1, r1⟩ := trodAll_cons r0
  obtain ⟨rfl, rfl, rfl⟩ := trodAll_nil r1
  obtain rfl : args = #[v0, v1] := by cases args; simp_all
  obtain ⟨idb, pb, nb, cb, lb, esb, hrb, hcb, hwb⟩ := rd_batch (Rd.of_trod h0)
  have evb := arg_struct Try.underlying58 (hval 0 58 v0 rfl rfl) esb
  subst evb
  obtain ⟨s, es, wfs⟩ := (Rd.of_trod h1).str Try.underlying9
  obtain rfl := Rd.arg Try.underlying9 rfl (hval 1 9 v1 rfl rfl) es
  refine ((walk (W := W) (K := fun v w' => v = .bool true ∧ Upd Nothing W w') hrb hcb fun w' hu => ⟨rfl, hu⟩).back Try.func7 (by kernel_rfl) (by kernel_rfl)).mono fun e W' ⟨v, he, hv, hu⟩ => ?_
  subst he; subst hv
  exact ⟨_, rfl, law_post (tb := 4) laid (by kernel_rfl) hW' rfl rfl (by kernel_rfl) Try.underlying4 hu⟩

theorem over : Rows.WindowNoneSaid :=
  OpenClaim.holds_of_wide 7 Try.f7 rfl rfl rfl rfl rfl rfl rfl ⟨rfl, rfl, rfl, rfl, rfl⟩ rfl rfl rfl rfl rfl (by kernel_rfl) Try.func7 (by kernel_rfl)
    (of_decide_eq_true (by kernel_rfl)) (by unfold Func.isWrapper; first | (rw [if_pos (by decide +kernel)]; kernel_rfl) | (rw [if_neg (by decide +kernel)]; exact ⟨rfl, rfl⟩))
    (fun os started H enc _ => lifted os started H enc)

#print axioms over
end WNone
end Go.Proofs.Ytjcgociobhhijaa
