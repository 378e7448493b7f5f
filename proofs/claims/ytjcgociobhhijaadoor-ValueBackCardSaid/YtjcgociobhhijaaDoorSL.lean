/- The document's example for package schema. -/
import Derived.Test.YtjcgociobhhijaaDoorSK
set_option linter.unusedVariables false
set_option linter.unusedSimpArgs false
set_option maxRecDepth 100000
namespace Go.Proofs.YtjcgociobhhijaaDoor
open Go Go.Proofs.YtjcgociobhhijaaDoor.SX Va
namespace Sc

def S0 : Schm := ⟨bs [116], [⟨bs [97], 1⟩, ⟨bs [98], 2⟩], [⟨[0], true⟩, ⟨[1], false⟩], 5, 1, 0⟩
def row0 : List Val := [⟨1, 1, bs []⟩, ⟨2, 0, bs [120]⟩]

theorem name_one {c : UInt8} (h1 : 97 ≤ (c.toNat : Int)) (h2 : (c.toNat : Int) ≤ 122) : NameP (bs [c]) := by
  have hb : bt (bs [c]) 0 = (c.toNat : Int) := rfl
  refine ⟨by show 1 ≤ 1; omega, by show 1 ≤ 16; omega, ?_, fun b hb' => ?_⟩
  · rw [hb]; exact ⟨h1, h2⟩
  · have : b = c := by simpa [bs] using hb'
    rw [this]
    exact .inl ⟨h1, h2⟩
theorem S0_right : S0.Right := by
  refine ⟨name_one (by decide) (by decide), ⟨?_, by decide, ?_⟩, ⟨?_, by decide, ?_, ?_⟩, by decide, by decide, by decide, by decide⟩
  · intro c hc
    simp only [S0, List.mem_cons, List.mem_nil_iff, or_false] at hc
    rcases hc with rfl | rfl
    · exact ⟨name_one (by decide) (by decide), by decide, by decide⟩
    · exact ⟨name_one (by decide) (by decide), by decide, by decide⟩
  · intro i j hi hj
    have hi' : i < 2 := hi
    obtain ⟨rfl, rfl⟩ : i = 1 ∧ j = 0 := by omega
    intro h
    have h1 : bs [98] = bs [97] := h
    have := congrArg (fun x : ByteArray => x.data.toList) h1
    simp [bs] at this
  · intro x hx
    simp only [S0, List.mem_cons, List.mem_nil_iff, or_false] at hx
    rcases hx with rfl | rfl
    · refine ⟨fun c hc => ?_, by decide, fun i j hi hj => ?_⟩
      · have : c = 0 := by simpa using hc
        subst this; decide
      · have hi' : i < 1 := hi
        omega
    · refine ⟨fun c hc => ?_, by decide, fun i j hi hj => ?_⟩
      · have : c = 1 := by simpa using hc
        subst this; decide
      · have hi' : i < 1 := hi
        omega
  · intro x hx
    have hx' : some (⟨[0], true⟩ : Ix) = some x := hx
    injection hx' with hx'
    rw [← hx']
  · intro i j hi hj
    have hi' : i < 2 := hi
    obtain ⟨rfl, rfl⟩ : i = 1 ∧ j = 0 := by omega
    intro h
    have h1 : ([1] : List Int) = [0] := h
    simp at h1
theorem S0_fits : FitsP S0.cols row0 := by
  refine ⟨rfl, by decide +kernel, fun i h h' => ?_⟩
  have hi : i < 2 := h
  obtain rfl | rfl : i = 0 ∨ i = 1 := by omega
  · rfl
  · rfl

section
variable {w : World} {K : Value → World → Prop}
theorem awake_spec (hM : MX w) (hK : ∀ w', Upd Nothing w w' → K (.bool true) w') : CallsV prog F.affluxlaw03_awake #[] w K :=
  R.affluxlaw03_awake (by
    unfold C.affluxlaw03_awake
    refine New.use (by simp [Value.oneCell']) fun b1 w1 hb1 hu1 hge1 _ => New.use (by simp [Value.oneCell']) fun b2 w2 hb2 hu2 hge2 _ => New.use (by simp [Value.oneCell']) fun b3 w3 hb3 hu3 hge3 _ => New.use (by simp [Value.oneCell']) fun b4 w4 hb4 hu4 hge4 _ => New.use (by simp [Value.oneCell']) fun b5 w5 hb5 hu5 hge5 _ => ?_
    refine hb5.store (i := 0) (by simp) rfl fun w6 hb6 hu6 _ => hb6.store (i := 1) (by simp) rfl fun w7 hb7 hu7 _ => hb7.store (i := 2) (by simp) rfl fun w8 hb8 hu8 _ => hb8.store (i := 3) (by simp) rfl fun w9 hb9 hu9 _ => hb9.store (i := 4) (by simp) rfl fun w10 hb10 hu10 _ => hb10.store (i := 5) (by simp) rfl fun w11 hb11 hu11 _ => ?_
    have hg : ∀ i, SX.One b5 i → w4.heap.size ≤ i := fun i hi => by rw [show i = b5 from hi]; exact hge5
    have hu4b : Upd Nothing w4 w11 := (((((hu5.fresh hu6 hg).fresh hu7 hg).fresh hu8 hg).fresh hu9 hg).fresh hu10 hg).fresh hu11 hg
    refine ⟨_, _, _, _, _, _, _, _, _, _, six_cells hb11, New.use (by simp [Value.oneCell']) fun b6 w12 hb12 hu12 hge12 _ => ?_⟩
    have hu4c := hu4b.then hu12
    have k1 := (((hu2.then hu3).then hu4).then hu4c).blk hb1 fun f => f
    have k2 := ((hu3.then hu4).then hu4c).blk hb2 fun f => f
    have k3 := (hu4.then hu4c).blk hb3 fun f => f
    have k4 := hu4c.blk hb4 fun f => f
    have hcols : Cols w12 (some ⟨b1, 0, none⟩) S0.cols := by
      intro i hi
      have hi' : i < 2 := hi
      obtain rfl | rfl : i = 0 ∨ i = 1 := by omega
      · exact ⟨_, rfl, k1.cell (i := 0) rfl, k1.cell (i := 1) rfl, trivial⟩
      · exact ⟨_, rfl, k1.cell (i := 2) rfl, k1.cell (i := 3) rfl, trivial⟩
    have hixs : Ixs w12 (some ⟨b4, 0, none⟩) S0.ixs := by
      intro i hi
      have hi' : i < 2 := hi
      obtain rfl | rfl : i = 0 ∨ i = 1 := by omega
      · exact ⟨_, some ⟨b2, 0, none⟩, 1, 1, rfl, ⟨k4.cell (i := 0) rfl, k4.cell (i := 1) rfl, trivial⟩, At.of_blk k2 fun j v hj => by rw [Nat.zero_add]; exact hj, rfl, by omega⟩
      · exact ⟨_, some ⟨b3, 0, none⟩, 1, 1, rfl, ⟨k4.cell (i := 2) rfl, k4.cell (i := 3) rfl, trivial⟩, At.of_blk k3 fun j v hj => by rw [Nat.zero_add]; exact hj, rfl, by omega⟩
    have hS : SchAt w12 S0 (.agg #[.string (bs [116]), .slice (some ⟨b1, 0, none⟩) 2 2, .slice (some ⟨b4, 0, none⟩) 2 2, .int .i64 5, .int .i64 1, .int .i64 0]) :=
      ⟨⟨_, 2, _, 2, rfl, hcols, by decide, hixs, by decide⟩, by decide, by decide, fun x hx => by
        simp only [S0, List.mem_cons, List.mem_nil_iff, or_false] at hx
        rcases hx with rfl | rfl <;> decide⟩
    have hsm : ∀ x ∈ S0.ixs, x.cols.length ≤ 1000 := fun x hx => by
      simp only [S0, List.mem_cons, List.mem_nil_iff, or_false] at hx
      rcases hx with rfl | rfl <;> decide
    have hu0 : Upd Nothing w w12 := (((hu1.then hu2).then hu3).then hu4).then hu4c
    have hrow : At w12 (some ⟨b6, 0, none⟩) (vals row0) := At.of_blk hb12 fun j v hj => by rw [Nat.zero_add]; exact hj
    refine schema_key_spec (s := S0) (row := row0) (hM.upd0 hu0) hS hsm hrow rfl (by omega) (fun e w13 _ _ _ hn _ => absurd ⟨S0_right, ⟨by decide, by decide⟩, S0_fits⟩ hn) (fun i hi w13 hie _ _ hu13 => ?_)
    have hi1 : i = 1 := by omega
    subst hi1
    refine ⟨_, _, rfl, _, _, _, _, _, _, _, _, _, _, six_cells ((hu12.then hu13).blk hb11 fun f => f), ?_⟩
    refine schema_right (s := S0) (hS.upd0 hu13) fun b w14 hb hu14 => ⟨b, rfl, ?_⟩
    rw [hb.2 S0_right]
    have e : sEq (tx (skey S0 1 hi row0)) (bs [2, 120, 0, 1, 1, 128, 0, 0, 0, 0, 0, 0, 1]) = true := (by decide +kernel : sEq (tx (skey S0 1 (by decide) row0)) (bs [2, 120, 0, 1, 1, 128, 0, 0, 0, 0, 0, 0, 1]) = true)
    rw [e]
    exact ifB_mk (fun _ => ifB_mk (fun _ => hK _ ((hu0.then hu13).then hu14)) (fun h => by simp at h)) (fun h => by cases h))
end
end Sc
end Go.Proofs.YtjcgociobhhijaaDoor
