/- Proved: 'affluxlaw03.SchemaRights' returns true for every input, and its arguments read behind the call as they did; the library's tables that the row lists hold what the program's text lays (the card ties them). -/
import Derived.Test.YtjcgociobhhijaaDoorSW
import Derived.Test.YtjcgociobhhijaaDoorVL
import Derived.Test.YtjcgociobhhijaaDoorCards
import Derived.Test.YtjcgociobhhijaaDoorTie
set_option linter.unusedVariables false
set_option linter.unusedSimpArgs false
set_option maxRecDepth 100000
namespace Go.Proofs.YtjcgociobhhijaaDoor
open Go Go.Proofs.YtjcgociobhhijaaDoor.SX Go.ChangeShapes Go.WideShapes Go.ChangeAt Go.RowKit Va Sc
namespace SRights

/-- A place, sought from the end on: what is behind k was looked at. -/
def Behind (l : List Col) (name : ByteArray) (k : Nat) (r : Int) : Prop := (r = -1 ∧ ∀ j (hj : j < l.length), k ≤ j → l[j].name ≠ name) ∨ ∃ j : Nat, r = j ∧ ∃ h : j < l.length, k ≤ j ∧ l[j].name = name ∧ ∀ x (hx : x < j), k ≤ x → (l[x]'(Nat.lt_trans hx h)).name ≠ name
theorem Behind.first {l : List Col} {name : ByteArray} {r : Int} (h : Behind l name 0 r) : FirstAt l name r := by
  rcases h with ⟨h1, h2⟩ | ⟨j, h1, h, _, h2, h3⟩
  · exact .inl ⟨h1, fun j hj => h2 j hj (Nat.zero_le _)⟩
  · exact .inr ⟨j, h1, h, h2, fun x hx => h3 x hx (Nat.zero_le _)⟩
theorem Behind.hit {l : List Col} {name : ByteArray} {k : Nat} (hk : k < l.length) (h : l[k].name = name) : Behind l name k (k : Int) := .inr ⟨k, rfl, hk, Nat.le_refl _, h, fun x hx h => by omega⟩
theorem Behind.miss {l : List Col} {name : ByteArray} {k : Nat} {r : Int} (hk : k < l.length) (h : l[k].name ≠ name) (hb : Behind l name (k + 1) r) : Behind l name k r := by
  rcases hb with ⟨h1, h2⟩ | ⟨j, h1, hj, hkj, h2, h3⟩
  · refine .inl ⟨h1, fun j hj hkj => ?_⟩
    by_cases e : j = k
    · subst e; exact h
    · exact h2 j hj (by omega)
  · refine .inr ⟨j, h1, hj, by omega, h2, fun x hx hkx => ?_⟩
    by_cases e : x = k
    · subst e; exact h
    · exact h3 x hx (by omega)

theorem walk {s t : Schm} {v u : Value} {name : ByteArray} {w : World} {K : Value → World → Prop} (hM : MX w) (hs : SchEx w s v) (ht : SchEx w t u) (hK : ∀ w', Upd Nothing w w' → K (.bool true) w') :
    CallsV prog F.affluxlaw03_SchemaRights #[v, u, .string name] w K := by
  have hs0 := hs
  have ht0 := ht
  obtain ⟨cp, cc, ip, ic, rfl, hcols, hcc, hixs, hic⟩ := hs
  obtain ⟨cp2, cc2, ip2, ic2, rfl, hcols2, hcc2, hixs2, hic2⟩ := ht
  refine R.affluxlaw03_SchemaRights ?_
  unfold C.affluxlaw03_SchemaRights
  have haw : ∀ w1, Upd Nothing w w1 → CallsV prog F.affluxlaw03_awake #[] w1 (fun v w2 => ∃ r : Bool, v = .bool r ∧ K (.bool r) w2) := fun w1 hu1 => Sc.awake_spec (hM.upd0 hu1) fun w2 hu2 => ⟨true, rfl, hK _ (hu1.then hu2)⟩
  refine New.use (by simp [Value.oneCell']) fun g1 w1 hb1 hu1 hge1 hlt1 => New.use (by simp [Value.oneCell']) fun g2 w2 hb2 hu2 hge2 hlt2 => ?_
  have hu12 := hu1.then hu2
  have hsz2 := hu2.size
  have hS := fun w' (hu : Upd Nothing w2 w') => hu.blk (hu2.blk hb1 fun f => f) fun f => f
  have hT := fun w' (hu : Upd Nothing w2 w') => hu.blk hb2 fun f => f
  refine ⟨fun w' => Upd Nothing w2 w' ∧ Small s ∧ Small t, ?_, ?_⟩
  · refine ⟨_, _, _, _, _, _, _, _, _, _, six_cells (hS w2 (Upd.refl _ _)), great3_spec (s := s) (hs0.upd0 hu12) fun b w3 e3 hu3 => ⟨b, rfl, ifB_mk (fun _ => haw w3 (hu12.then hu3)) (fun h1 => ?_)⟩⟩
    refine ⟨_, _, _, _, _, _, _, _, _, _, six_cells (hT w3 hu3), great3_spec (s := t) (ht0.upd0 (hu12.then hu3)) fun b w4 e4 hu4 => ⟨b, rfl, ifB_mk (fun _ => haw w4 ((hu12.then hu3).then hu4)) (fun h2 => ?_)⟩⟩
    exact ifB_mk (fun _ => haw w4 ((hu12.then hu3).then hu4)) (fun h3 => ⟨hu3.then hu4, e3 h1, e4 h2⟩)
  rintro w8 ⟨hu8, hsm, htm⟩
  have hl1 : s.cols.length ≤ 1000000 := by have := hsm.1; omega
  have hl2 : s.ixs.length ≤ 1000000 := by have := hsm.2.1; omega
  have hl3 : ∀ x ∈ s.ixs, x.cols.length ≤ 1000000 := fun x hx => by have := hsm.2.2 x hx; omega
  refine ⟨_, _, _, (hS _ hu8).cell (i := 1) rfl, fun at_ i w' => w' = w8 ∧ ∃ k : Nat, i = (k : Int) - 1 ∧ k ≤ s.cols.length ∧ Behind s.cols name k at_, fun at_ i w' => (i + 1).toNat, ⟨rfl, s.cols.length, by rw [i64_wrap (by omega) (by omega)], Nat.le_refl _, .inl ⟨rfl, fun j hj h => by omega⟩⟩, ?_⟩
  rintro at_ i w9 ⟨rfl, k, rfl, hk, hq⟩
  refine ifB_mk (fun h => ?_) (fun h => ?_)
  · have h0 := of_decide_eq_true h
    obtain ⟨j, rfl⟩ : ∃ j, k = j + 1 := ⟨k - 1, by omega⟩
    have hj : ((j + 1 : Nat) : Int) - 1 = (j : Int) := by omega
    have hjn : j < s.cols.length := by omega
    rw [hj]
    obtain ⟨a, ha, hc⟩ := (hcols.upd0 (hu12.then hu8)) j hjn
    refine ⟨_, _, _, (hS _ hu8).cell (i := 1) rfl, a, ha, by omega, by omega, _, hc.1, ?_⟩
    rw [i64_wrap (by omega) (by omega)]
    refine ifB_mk (fun h1 => ⟨⟨rfl, j, by omega, by omega, Behind.hit hjn (sEq_iff.1 h1)⟩, by show Int.toNat _ < Int.toNat _; omega⟩) (fun h1 => ⟨⟨rfl, j, by omega, by omega, Behind.miss hjn (sEq_not.1 h1) hq⟩, by show Int.toNat _ < Int.toNat _; omega⟩)
  have hk0 : k = 0 := by have := of_decide_eq_false h; omega
  subst hk0
  have hat := hq.first
  refine ⟨_, _, _, _, _, _, _, _, _, _, six_cells (hS _ hu8), copy_spec (s := s) (hs0.upd0 (hu12.then hu8)) hl1 hl2 hl3 fun cp' cc' ip' ic' w10 hO hu10 => ⟨_, _, _, _, _, _, _, _, _, _, rfl, ?_⟩⟩
  refine New.use (by simp [Value.oneCell']) fun g3 w11 hb11 hu11 hge11 hlt11 => set_six rfl rfl rfl rfl rfl rfl hb11 fun w17 hb17 hu17 => ?_
  have hsz10 := hu10.size
  have hu917 : Upd Nothing w9 w17.drew := ((hu10.then hu11).fresh hu17 fun i hi => by rw [show i = g3 from hi]; omega).then (Upd.drew _ _)
  have hO17 : OwnSch w17.drew s cp' cc' ip' ic' w9.heap.size := (hO.upd (hu11.fresh hu17 fun i hi => by rw [show i = g3 from hi]; exact hge11) fun _ _ _ f => f).upd0 (Upd.drew _ _)
  have hu217 := hu8.then hu917
  have hu17' := hu12.then hu217
  have hC := fun w' (hu : Upd Nothing w17.drew w') => hu.blk hb17.drew fun f => f
  refine ⟨fun w' => Upd Nothing w17.drew w', ?_, ?_⟩
  · refine ⟨_, _, _, _, _, _, _, _, _, _, six_cells (hC _ (Upd.refl _ _)), _, _, _, _, _, _, _, _, _, _, six_cells (hS _ hu217), rsame3_spec (s := s) (t := s) hO17.ex.if (hs0.upd0 hu17').if hl1 hl2 hl3 fun b w18 hb hu18 => ⟨b, rfl, ifB_mk (fun h => by rw [hb.2 rfl] at h; cases h) (fun _ => ?_)⟩⟩
    have hu218 := hu217.then hu18
    refine ⟨_, _, _, _, _, _, _, _, _, _, six_cells (hS _ hu218), _, _, _, _, _, _, _, _, _, _, six_cells (hT _ hu218), _, _, _, _, _, _, _, _, _, _, six_cells (hS _ hu218), _, _, _, _, _, _, _, _, _, _, six_cells (hT _ hu218), ?_⟩
    refine schema_same_spec (s := s) (t := t) (hs0.upd0 (hu12.then hu218)) (ht0.upd0 (hu12.then hu218)) hl1 hl2 hl3 fun b7 w19 hb7 hu19 => ⟨b7, rfl, six_cells (hT _ (hu218.then hu19)), six_cells (hS _ (hu218.then hu19)), ?_⟩
    have hu219 := hu218.then hu19
    refine rsame3_spec (s := s) (t := t) (hs0.upd0 (hu12.then hu219)).if (ht0.upd0 (hu12.then hu219)).if hl1 hl2 hl3 fun b8 w20 hb8 hu20 => ⟨b8, rfl, ifB_mk (fun h => ?_) (fun _ => ?_)⟩
    · have : b7 = b8 := Bool.eq_iff_iff.2 (hb7.trans hb8.symm)
      rw [this] at h
      simp at h
    have hu220 := hu219.then hu20
    have hu1720 := (hu18.then hu19).then hu20
    refine ⟨_, _, _, _, _, _, _, _, _, _, six_cells (hC _ hu1720), _, _, _, _, _, _, _, _, _, _, six_cells (hS _ hu220), schema_same_spec (s := s) (t := s) (hO17.upd0 hu1720).ex (hs0.upd0 (hu12.then hu220)) hl1 hl2 hl3 fun b9 w21 hb9 hu21 => ⟨b9, rfl, ifB_mk (fun h => by rw [hb9.2 rfl] at h; cases h) (fun _ => hu1720.then hu21)⟩⟩
  rintro w22 hu22
  have hO22 := hO17.upd0 hu22
  have hu222 := hu217.then hu22
  refine ⟨fun w' => Upd Nothing w2 w', ?_, ?_⟩
  · obtain ⟨xs, hoi, hxl, hx1, hxs⟩ := hO22.ixs
    have hb22 := hC _ hu22
    refine ⟨fun b w' => w' = w22 ∧ (b = true → 0 < s.cols.length ∧ ∃ h : 0 < s.ixs.length, 0 < s.ixs[0].cols.length), ?_, ?_⟩
    · refine ⟨_, _, _, hb22.cell (i := 1) rfl, ifB_mk (fun h1 => ⟨_, _, _, hb22.cell (i := 2) rfl, ifB_mk (fun h2 => ?_) (fun _ => ⟨rfl, fun h => by cases h⟩)⟩) (fun _ => ⟨rfl, fun h => by cases h⟩)⟩
      have h1' := of_decide_eq_true h1
      have h2' := of_decide_eq_true h2
      have hpos : 0 < s.ixs.length := by omega
      obtain ⟨q, n, c, e0, e1, hi', hoq, hfq⟩ := hxs 0 hpos
      obtain ⟨a, ha, hc⟩ := At.two (i := 0) hoi.at e0 e1
      refine ⟨_, _, _, hb22.cell (i := 2) rfl, a, ha, by omega, by omega, _, _, _, hc.1, rfl, fun h => ⟨by omega, hpos, ?_⟩⟩
      have := of_decide_eq_true h
      have hln := hoq.len
      simp at hln
      omega
    rintro b w23 ⟨rfl, hb⟩
    refine ifB_mk (fun h => ?_) (fun _ => hu222)
    obtain ⟨hc0, hpos, hq0⟩ := hb h
    obtain ⟨c0, cr, hcr⟩ : ∃ c0 cr, s.cols = c0 :: cr := by
      cases hcs : s.cols with
      | nil => rw [hcs] at hc0; simp at hc0
      | cons c0 cr => exact ⟨c0, cr, rfl⟩
    have hoc := hO22.cols
    have hcv : colsV s.cols = .string c0.name :: .int .i64 c0.kind :: colsV cr := by rw [hcr]; rfl
    obtain ⟨a, ha, hcell⟩ := At.two (i := 0) (u := .string c0.name) (v := .int .i64 c0.kind) hoc.at (by rw [hcv]; rfl) (by rw [hcv]; rfl)
    obtain ⟨a2, ha2, hcan, hst⟩ := hoc.put (j := 1) (v := .int .i64 (IntKind.i64.wrap (c0.kind + 1))) (by rw [hcv]; simp) rfl
    rw [ha] at ha2
    injection ha2 with ha2
    subst ha2
    refine ⟨_, _, _, hb22.cell (i := 1) rfl, a, ha, by omega, by omega, _, hcell.2.1, a, ha, by omega, by omega, by rw [Addr.add_two]; exact hcan, fun w24 hw24 => ?_⟩
    rw [Addr.add_two] at hw24
    obtain ⟨hoc24, hu24, hsz24⟩ := hst w24 hw24
    have hfresh : ∀ k, Fp cp' cc' k → w9.heap.size ≤ k := hO17.cols0
    have hsz9 := hu8.size
    have hg3c : ¬ Fp cp' cc' g3 := fun h => by
      have h1 := (hO.cols.lt h)
      omega
    obtain ⟨q, n, c, e0, e1, hi', hoq, hfq⟩ := hxs 0 hpos
    have hoi24 := hoi.upd hu24 fun k hk hk' => own_apart hoi hoc (by decide) k hk hk'
    have hoq24 := hoq.upd hu24 fun k hk hk' => own_apart hoq hoc (by decide) k hk hk'
    obtain ⟨a5, ha5, hc5⟩ := At.two (i := 0) hoi24.at e0 e1
    obtain ⟨y0, yr, hyr⟩ : ∃ y0 yr, s.ixs[0].cols = y0 :: yr := by
      cases hcs : s.ixs[0].cols with
      | nil => rw [hcs] at hq0; simp at hq0
      | cons y0 yr => exact ⟨y0, yr, rfl⟩
    have hnq : s.ixs[0].cols.length = n := by have := hoq.len; simpa using this
    obtain ⟨a6, ha6, hc6⟩ := hoq24.at 0 (.int .i64 y0) (by rw [hyr]; rfl)
    obtain ⟨a7, ha7, hcan7, hst7⟩ := hoq24.put (j := 0) (v := .int .i64 (IntKind.i64.wrap (y0 + 1))) (by rw [hyr]; simp [ints]) rfl
    rw [ha6] at ha7
    injection ha7 with ha7
    subst ha7
    refine ⟨_, _, _, (hu24.blk hb22 hg3c).cell (i := 2) rfl, a5, ha5, by omega, by omega, _, _, _, hc5.1, a6, ha6, by omega, by omega, _, hc6, a6, ha6, by omega, by omega, hcan7, fun w25 hw25 => ?_⟩
    obtain ⟨hoq25, hu25, hsz25⟩ := hst7 w25 hw25
    have hg3q : ¬ Fp q c g3 := fun h => by
      obtain ⟨_, a, ha, hg⟩ := h
      rcases hoq.mem with h4 | ⟨g, rest, hq, hbq, _⟩
      · subst h4
        have := hoq.le
        omega
      · rw [hq] at ha
        injection ha with ha
        subst ha
        exact hbq.ne_type hb22 (by decide) hg.symm
    have hu225 : Upd Nothing w2 w25.drew := ((hu222.fresh hu24 fun i hi => by have := hfresh i hi; omega).fresh hu25 fun i hi => by have := hfq i hi; omega).then (Upd.drew _ _)
    have hb25 := (hu25.blk (hu24.blk hb22 hg3c) hg3q).drew
    have hoc25 := (hoc24.upd hu25 fun k hk hk' => own_apart hoc24 hoq24 (by decide) k hk hk').upd0 (Upd.drew _ _)
    have hset : (colsV s.cols).set 1 (.int .i64 (IntKind.i64.wrap (c0.kind + 1))) = colsV (⟨c0.name, IntKind.i64.wrap (c0.kind + 1)⟩ :: cr) := by rw [hcv]; rfl
    rw [hset] at hoc25
    have hne : c0.kind ≠ IntKind.i64.wrap (c0.kind + 1) := by
      simp [IntKind.wrap, IntKind.signed, IntKind.bits]
      omega
    have hcl : s.cols.length = (⟨c0.name, IntKind.i64.wrap (c0.kind + 1)⟩ :: cr : List Col).length := by rw [hcr]; rfl
    let s' : Schm := ⟨s.name, ⟨c0.name, IntKind.i64.wrap (c0.kind + 1)⟩ :: cr, s.ixs, s.limit, s.parts, s.by_⟩
    have hif : SchIf (s'.cols = s.cols) w25.drew s' (.agg #[.string s.name, .slice cp' s.cols.length cc', .slice ip' s.ixs.length ic', .int .i64 s.limit, .int .i64 s.parts, .int .i64 s.by_]) := by
      refine ⟨cp', cc', ip', ic', by rw [hcl], cols_of_at hoc25.at, by rw [← hcl]; exact hoc25.le, fun e => ?_, hoi.le⟩
      have e' : (⟨c0.name, IntKind.i64.wrap (c0.kind + 1)⟩ :: cr : List Col) = c0 :: cr := by rw [← hcr]; exact e
      injection e' with e1 e2
      have := congrArg Col.kind e1
      exact absurd this.symm hne
    refine ⟨_, _, _, _, _, _, _, _, _, _, six_cells hb25, _, _, _, _, _, _, _, _, _, _, six_cells (hS _ hu225), rsame3_spec (s := s') (t := s) hif (hs0.upd0 (hu12.then hu225)).if (by rw [← hcl]; exact hl1) hl2 hl3 fun b w26 hb hu26 => ⟨b, rfl, ifB_mk (fun h => ?_) (fun _ => ?_)⟩⟩
    · have e := congrArg Schm.cols (hb.1 h)
      have e' : (⟨c0.name, IntKind.i64.wrap (c0.kind + 1)⟩ :: cr : List Col) = c0 :: cr := by rw [← hcr]; exact e
      injection e' with e1 e2
      have := congrArg Col.kind e1
      exact absurd this.symm hne
    have hu226 := hu225.then hu26
    obtain ⟨a8, ha8, hc8⟩ := (hcols.upd0 (hu12.then hu226)) 0 hc0
    have hk0 : s.cols[0].kind = c0.kind := by simp [hcr]
    obtain ⟨a9, ha9, hc9⟩ := At.two (i := 0) (u := .string c0.name) (v := .int .i64 (IntKind.i64.wrap (c0.kind + 1))) (hoc25.at.upd0 hu26) rfl rfl
    refine ⟨_, _, _, (hS _ hu226).cell (i := 1) rfl, a8, ha8, by omega, by omega, _, hc8.2.1, _, _, _, (hu26.blk hb25 fun f => f).cell (i := 1) rfl, a9, ha9, by omega, by omega, _, hc9.2.1, ifB_mk (fun h => ?_) (fun _ => hu226)⟩
    rw [hk0] at h
    exact absurd (beq_iff_eq.1 h) hne
  rintro w27 hu27
  refine ⟨_, _, _, _, _, _, _, _, _, _, six_cells (hS _ hu27), zero_spec (s := s) (hs0.upd0 (hu12.then hu27)) hl1 fun zp zc w28 hoz hu28 hfz => ⟨_, _, _, rfl, ?_⟩⟩
  have hu228 := hu27.then hu28
  refine ⟨fun w' => Upd Nothing w2 w', ?_, ?_⟩
  · refine ⟨_, _, _, (hS _ hu228).cell (i := 1) rfl, ifB_mk (fun h => by simp at h) (fun _ => ?_)⟩
    refine ⟨_, _, _, _, _, _, _, _, _, _, six_cells (hS _ hu228), rright3_spec (s := s) ((hs0.upd0 (hu12.then hu228)).at hsm) fun b w29 hb hu29 => ⟨b, rfl, ifB_mk (fun h1 => ?_) (fun _ => hu228.then hu29)⟩⟩
    have hu229 := hu228.then hu29
    refine ⟨_, _, _, _, _, _, _, _, _, _, six_cells (hS _ hu229), rfits3_spec (s := s) (hs0.upd0 (hu12.then hu229)) (hoz.at.upd0 hu29) (by simp) (by omega) fun b2 w30 hb2 hu30 => ⟨b2, rfl, ifB_mk (fun h2 => ?_) (fun _ => hu229.then hu30)⟩⟩
    rw [hb2.2 (zero_fits (hb.1 h1))] at h2
    cases h2
  rintro w31 hu31
  have hu31' := hu31.then (Upd.drew _ _)
  have hno : ∀ {P : Prop}, (true = true ↔ P) → (false = true ↔ P) → False := fun h1 h2 => by cases h2.2 (h1.1 rfl)
  refine ⟨_, _, _, _, _, _, _, _, _, _, six_cells (hS _ hu31'), _, _, _, _, _, _, _, _, _, _, six_cells (hS _ hu31'), schema_right (s := s) ((hs0.upd0 (hu12.then hu31')).at hsm) fun b14 w32 hb14 hu32 => ⟨b14, rfl, six_cells (hS _ (hu31'.then hu32)), ?_⟩⟩
  have hu32' := hu31'.then hu32
  refine rright3_spec (s := s) ((hs0.upd0 (hu12.then hu32')).at hsm) fun b15 w33 hb15 hu33 => ⟨b15, rfl, ifB_mk (fun _ => ?_) (fun h => ?_)⟩
  rotate_left
  · rw [Bool.eq_iff_iff.2 (hb14.trans hb15.symm)] at h
    simp at h
  have hu33' := hu32'.then hu33
  refine New.use (by simp [Value.oneCell']) fun g4 w34 hb34 hu34 hge34 _ => ?_
  have hone : At w34 (some (Addr.mk g4 0 none)) ([name].map Value.string) := At.of_blk hb34 fun j v hj => by rw [Nat.zero_add]; exact hj
  refine Named_spec (l := [name]) hone rfl (by omega) fun b16 w35 hb16 hu35 => ⟨b16, rfl, rnamed_spec fun b17 hb17 => ⟨b17, rfl, ifB_mk (fun _ => ?_) (fun h => ?_)⟩⟩
  rotate_left
  · have : b16 = b17 := Bool.eq_iff_iff.2 (hb16.trans ⟨fun h => hb17.2 (h name (by simp)), fun h x hx => by simp at hx; subst hx; exact hb17.1 h⟩)
    rw [this] at h
    simp at h
  have hu35' := (hu33'.then hu34).then hu35
  refine New.use (by simp [Value.oneCell']) fun g5 w37 hb37 hu37 hge37 _ => ?_
  have htwo : At w37 (some (Addr.mk g5 0 none)) ([name, bs [97]].map Value.string) := At.of_blk hb37 fun j v hj => by rw [Nat.zero_add]; exact hj
  refine Named_spec (l := [name, bs [97]]) htwo rfl (by omega) fun b18 w38 hb18 hu38 => ⟨b18, rfl, rnamed_spec fun b19 hb19 => ⟨b19, rfl, ifB_mk (fun _ => ?_) (fun h => ?_)⟩⟩
  rotate_left
  · have hna : NameP (bs [97]) := name_one (by decide) (by decide)
    have : b18 = b19 := Bool.eq_iff_iff.2 (hb18.trans ⟨fun h => hb19.2 (h name (by simp)), fun h x hx => by
      simp only [List.mem_cons, List.mem_nil_iff, or_false] at hx
      rcases hx with rfl | rfl
      · exact hb19.1 h
      · exact hna⟩)
    rw [this] at h
    simp at h
  have hu38' := (hu35'.then hu37).then hu38
  refine ⟨_, _, _, _, _, _, _, _, _, _, six_cells (hS _ hu38'), col_spec (s := s) (hs0.upd0 (hu12.then hu38')) hl1 fun r w40 hr hu40 => ⟨_, rfl, ifB_mk (fun _ => haw _ ((hu12.then hu38').then hu40)) (fun h => ?_)⟩⟩
  rw [hr.unique hat] at h
  simp at h
theorem own : ownKnob Tryd.prog.godebug = none := by kernel_rfl
theorem laid : laidOutB Tryd.prog = true := by kernel_rfl

theorem lifted (os : Os) (started : os.Started) (H : Type) (enc : TypeId × Value → H) :
    ReturnsInHanded {} Tryd.checked os 11 .any (fun w args => (Rows.schemaRightsSpec.pre enc Tryd.prog Tryd.f11 [] false w args ∧ laidMetH Tryd.prog laid2 w) ∧ sizedMet enc Tryd.prog Tryd.f11 (OpenSpec.ofChange Rows.schemaRightsSpec) false w args)
      (Rows.schemaRightsSpec.post enc Tryd.prog Tryd.f11 false true false false) := by
  refine returns_and_shaped (C := Tryd.checked) (X := fun w _ => laidMetH Tryd.prog laid2 w) (fun _ _ _ hh h => h.of_heap hh) own started (by kernel_rfl) Tryd.func11
    (ChangeSpec.witness_at (enc := enc) (C := Tryd.checked) (os := os) (X := fun w _ => laidMetH Tryd.prog laid2 w) false (laidWorld os) #[.agg #[.string ByteArray.empty, .slice none 0 0, .slice none 0 0, .int .i64 0, .int .i64 0, .int .i64 0], .agg #[.string ByteArray.empty, .slice none 0 0, .slice none 0 0, .int .i64 0, .int .i64 0, .int .i64 0], .string ByteArray.empty] 8 rfl (by kernel_rfl) (by kernel_rfl) (by kernel_rfl) (by kernel_rfl) (by kernel_rfl) (laidWorld_met os _)) ?_
  intro W base args ds gs before hval0 hW hsh
  have hM : Va.MX W := maxlen_of_shaped hsh
  have hval : ∀ (j : Nat) t v, Tryd.f11.params[j]? = some t → args[j]? = some v → Value.okWide Tryd.prog W .any base t v := hval0
  have hW' := hW
  obtain ⟨p, q, hA0, hV, rfl, hfz, hnd⟩ := hW
  have hA : DataW.TrodAll enc Tryd.prog W 0 (fun _ => true) true Tryd.f11.params.toList args.toList ds p := hA0
  rw [Tryd.params11] at hA hval
  obtain ⟨v0, vs0, d0, ds0, p0, q0, hargs, rfl, rfl, h0, r0⟩ := trodAll_cons hA
  obtain ⟨v1, vs1, d1, ds1, p1, q1, rfl, rfl, rfl, h1, r1⟩ := trodAll_cons r0
  obtain ⟨v2, vs2, d2, ds2, p2, q2, rfl, rfl, rfl, h2, r2⟩ := trodAll_cons r1
  obtain ⟨rfl, rfl, rfl⟩ := trodAll_nil r2
  obtain rfl : args = #[v0, v1, v2] := by cases args; simp_all
  obtain ⟨s, cps, ccs, ips, ics, ess, hcolss, hccs, hccms, hixss, hics, hicms, hsms⟩ := rd_sch (Rd.of_trod h0)
  have evs := arg_struct Tryd.underlying47 (hval 0 47 v0 rfl rfl) ess
  subst evs
  have hsxs : SchEx W s _ := ⟨cps, ccs, ips, ics, rfl, hcolss, hccs, hixss, hics⟩
  obtain ⟨t, cpt, cct, ipt, ict, est, hcolst, hcct, hccmt, hixst, hict, hicmt, hsmt⟩ := rd_sch (Rd.of_trod h1)
  have evt := arg_struct Tryd.underlying47 (hval 1 47 v1 rfl rfl) est
  subst evt
  have hsxt : SchEx W t _ := ⟨cpt, cct, ipt, ict, rfl, hcolst, hcct, hixst, hict⟩
  obtain ⟨name, ename, wfname⟩ := (Rd.of_trod h2).str Tryd.underlying9
  obtain rfl := Rd.arg Tryd.underlying9 rfl (hval 2 9 v2 rfl rfl) ename
  refine ((walk (w := W) (K := fun v w' => v = .bool true ∧ Upd Nothing W w') hM hsxs hsxt fun w' hu => ⟨rfl, hu⟩).back Tryd.func11 (by kernel_rfl) (by kernel_rfl)).mono fun e W' ⟨v, he, hv, hu⟩ => ?_
  subst he; subst hv
  exact ⟨_, rfl, law_post (tb := 4) laid (by kernel_rfl) hW' rfl rfl (by kernel_rfl) Tryd.underlying4 hu⟩

theorem row : Rows.SchemaRightsSaid :=
  OpenClaim.holds_of_wide 11 Tryd.f11 rfl rfl rfl rfl rfl rfl rfl ⟨rfl, rfl, rfl, rfl, rfl⟩ rfl rfl rfl rfl rfl (by kernel_rfl) Tryd.func11 (by kernel_rfl)
    (of_decide_eq_true (by kernel_rfl)) (by unfold Func.isWrapper; first | (rw [if_pos (by decide +kernel)]; kernel_rfl) | (rw [if_neg (by decide +kernel)]; exact ⟨rfl, rfl⟩))
    (fun os started H enc _ => lifted os started H enc)

theorem over : Rows.SchemaRightsCardSaid :=
  Claim7.holds_tied_plain_at .later [] [.data, .pinned] true (true, "44a05c6656fad0a98acfb041a4270392b8082a07142de41ef3bee6dd98f36de4") false
    row (fun _ h => by cases h) (by kernel_rfl) (fun _ h => by cases h) schemaRights_row_tie rfl ⟨rfl, rfl⟩ (by kernel_rfl) rfl
    (fun f fn hf hfn => by
      obtain rfl : f = 11 := Option.some.inj ((show Tryd.prog.funcNamed Rows.schemaRightsRow.func = some 11 by kernel_rfl).symm.trans hf) |>.symm
      obtain rfl : fn = Tryd.f11 := (Option.some.inj (Tryd.func11.symm.trans hfn)).symm
      refine ⟨by kernel_rfl, fun j t ht => ?_⟩
      have hall : (Tryd.f11.params.toList.all fun t => !(Tryd.prog.wantsStandIn t)) = true := by kernel_rfl
      have hm : t ∈ Tryd.f11.params.toList := by rw [Array.mem_toList_iff]; exact Array.mem_of_getElem? ht
      exact (show Tryd.prog.wantsStandIn t = false by simpa using List.all_eq_true.1 hall t hm))
    (by kernel_rfl)

#print axioms over
end SRights
end Go.Proofs.YtjcgociobhhijaaDoor
