/- The document's answer for schemas: whether a schema is right. -/
import Derived.Test.YtjcgociobhhijaaDoorSR
import Derived.Test.YtjcgociobhhijaaDoorSP
set_option linter.unusedVariables false
set_option linter.unusedSimpArgs false
set_option maxRecDepth 100000
namespace Go.Proofs.YtjcgociobhhijaaDoor
open Go Go.Proofs.YtjcgociobhhijaaDoor.SX Va
namespace Sc
section
variable {w : World} {K : Value → World → Prop} {s : Schm} {v : Value}

theorem rright3_spec (hs : SchAt w s v) (hK : ∀ (b : Bool) w', (b = true ↔ s.Right) → Upd Nothing w w' → K (.bool b) w') : CallsV prog F.affluxref03_Right #[v] w K := by
  obtain ⟨⟨cp, cc, ip, ic, rfl, hcols, hcc, hixs, hic⟩, hs1, hs2, hs3⟩ := hs
  refine R.affluxref03_Right ?_
  unfold C.affluxref03_Right
  refine New.use (by simp [Value.oneCell']) fun g w1 hb1 hu1 hge1 _ => ⟨_, _, _, hb1.cell (i := 1) rfl, ?_⟩
  have hno : ∀ w', Upd Nothing w1 w' → ¬ s.Right → K (.bool false) w' := fun w' hu hn => hK _ _ ⟨fun h => (by cases h), fun h => absurd h hn⟩ (hu1.then hu)
  have hno1 := fun hn => hno w1 (Upd.refl _ _) hn
  refine ⟨fun w' => w' = w1 ∧ NameP s.name ∧ (1 ≤ s.cols.length ∧ s.cols.length ≤ 8) ∧ (1 ≤ s.ixs.length ∧ s.ixs.length ≤ 4) ∧ (1 ≤ s.limit ∧ s.limit ≤ 1000) ∧ (1 ≤ s.parts ∧ s.parts ≤ 8) ∧ (0 ≤ s.by_ ∧ s.by_ ≤ (s.cols.length : Int) - 1) ∧ (∀ x, s.ixs[0]? = some x → x.unique = true), ?_, ?_⟩
  · refine ⟨_, hb1.cell (i := 0) rfl, rnamed_spec fun b hb => ⟨b, rfl, ifB_mk (fun h => hno1 fun h' => by rw [hb.2 h'.1] at h; cases h) (fun h => ?_)⟩⟩
    have hnm := hb.1 (by simpa using h)
    refine ifB_mk (fun h1 => hno1 fun h' => by have := of_decide_eq_true h1; have := h'.2.1.2.1; omega) (fun h1 => ifB_mk (fun h2 => hno1 fun h' => by have := of_decide_eq_true h2; have := h'.2.1.2.1; omega) (fun h2 => ⟨_, _, _, hb1.cell (i := 2) rfl, ?_⟩))
    refine ifB_mk (fun h3 => hno1 fun h' => by have := of_decide_eq_true h3; have := h'.2.2.1.2.1; omega) (fun h3 => ⟨_, _, _, hb1.cell (i := 2) rfl, ifB_mk (fun h4 => hno1 fun h' => by have := of_decide_eq_true h4; have := h'.2.2.1.2.1; omega) (fun h4 => ⟨_, hb1.cell (i := 3) rfl, ?_⟩)⟩)
    refine ifB_mk (fun h5 => hno1 fun h' => by have := of_decide_eq_true h5; have := h'.2.2.2.1; omega) (fun h5 => ⟨_, hb1.cell (i := 3) rfl, ifB_mk (fun h6 => hno1 fun h' => by have := of_decide_eq_true h6; have := h'.2.2.2.1; omega) (fun h6 => ⟨_, hb1.cell (i := 4) rfl, ?_⟩)⟩)
    refine ifB_mk (fun h7 => hno1 fun h' => by have := of_decide_eq_true h7; have := h'.2.2.2.2.1; omega) (fun h7 => ⟨_, hb1.cell (i := 4) rfl, ifB_mk (fun h8 => hno1 fun h' => by have := of_decide_eq_true h8; have := h'.2.2.2.2.1; omega) (fun h8 => ⟨_, hb1.cell (i := 5) rfl, ?_⟩)⟩)
    refine ifB_mk (fun h9 => hno1 fun h' => by have := of_decide_eq_true h9; have := h'.2.2.2.2.2; omega) (fun h9 => ⟨_, hb1.cell (i := 5) rfl, ifB_mk (fun h10 => hno1 fun h' => by have := of_decide_eq_true h10; have := h'.2.2.2.2.2; omega) (fun h10 => ⟨_, _, _, hb1.cell (i := 2) rfl, ?_⟩)⟩)
    replace h1 := of_decide_eq_false h1; replace h2 := of_decide_eq_false h2; replace h3 := of_decide_eq_false h3; replace h4 := of_decide_eq_false h4; replace h5 := of_decide_eq_false h5
    replace h6 := of_decide_eq_false h6; replace h7 := of_decide_eq_false h7; replace h8 := of_decide_eq_false h8; replace h9 := of_decide_eq_false h9; replace h10 := of_decide_eq_false h10
    obtain ⟨a, q1, n1, c1, ha, hcl, hat1, hl1, hc1⟩ := (hixs.upd0 hu1) 0 (by omega)
    have hl0 : s.ixs[0]? = some (s.ixs[0]'(by omega)) := List.getElem?_eq_getElem (by omega)
    refine ⟨a, ha, by omega, by omega, _, hcl.2.1, ifB_mk (fun h11 => hno1 fun h' => by rw [h'.2.2.1.2.2.1 _ hl0] at h11; cases h11) (fun h11 => ⟨rfl, hnm, by omega, by omega, by omega, by omega, by omega, fun x hx => ?_⟩)⟩
    rw [hl0] at hx
    injection hx with hx
    rw [← hx]
    simpa using h11
  rintro w2 ⟨rfl, hnm, hn8, hi4, hlim, hpar, hby, huq⟩
  have hcell1 : ∀ w', Upd Nothing w2 w' → w'.cell? ((Addr.mk g 0 none).add 1) = some (.slice cp s.cols.length cc) := fun w' hu => (hu.blk hb1 fun f => f).cell (i := 1) rfl
  have hcell2 : ∀ w', Upd Nothing w2 w' → w'.cell? ((Addr.mk g 0 none).add 2) = some (.slice ip s.ixs.length ic) := fun w' hu => (hu.blk hb1 fun f => f).cell (i := 2) rfl
  refine ⟨fun i w' => ∃ k : Nat, i = k ∧ k ≤ s.cols.length ∧ Upd Nothing w2 w' ∧ (∀ c ∈ s.cols.take k, NameP c.name ∧ 1 ≤ c.kind ∧ c.kind ≤ 3) ∧ ∀ i j (hi : i < s.cols.length) (hj : j < i), i < k → ¬ s.cols[i].name = (s.cols[j]'(Nat.lt_trans hj hi)).name, fun i _ => s.cols.length - i.toNat, ⟨0, rfl, by omega, Upd.refl _ _, by simp, fun i j hi hj h => by omega⟩, ?_⟩
  rintro i w3 ⟨k, rfl, hk, hu3, hq, hq'⟩
  refine ifB_mk (fun h => ?_) (fun h => ?_)
  · have hkn : k < s.cols.length := by have := of_decide_eq_true h; omega
    obtain ⟨a, ha, hcl⟩ := (hcols.upd0 (hu1.then hu3)) k hkn
    refine ⟨_, _, _, hcell1 _ hu3, a, ha, by omega, by omega, _, hcl.1, rnamed_spec fun b hb => ⟨b, rfl, ifB_mk (fun h1 => hno w3 hu3 fun h' => by rw [hb.2 (h'.2.1.1 _ (List.getElem_mem hkn)).1] at h1; cases h1) (fun h1 => ⟨_, _, _, hcell1 _ hu3, a, ha, by omega, by omega, _, hcl.2.1, ?_⟩)⟩⟩
    refine ifB_mk (fun h2 => hno w3 hu3 fun h' => by have := of_decide_eq_true h2; have := (h'.2.1.1 _ (List.getElem_mem hkn)).2; omega) (fun h2 => ⟨_, _, _, hcell1 _ hu3, a, ha, by omega, by omega, _, hcl.2.1, ifB_mk (fun h3 => hno w3 hu3 fun h' => by have := of_decide_eq_true h3; have := (h'.2.1.1 _ (List.getElem_mem hkn)).2; omega) (fun h3 => ?_)⟩)
    have h2' := of_decide_eq_false h2
    have h3' := of_decide_eq_false h3
    refine ⟨fun i w' => ∃ j : Nat, i = j ∧ j ≤ k ∧ Upd Nothing w2 w' ∧ ∀ t (ht : t < s.cols.length) (hk' : k < s.cols.length), t < j → ¬ s.cols[k].name = s.cols[t].name, fun i _ => k - i.toNat, ⟨0, rfl, by omega, hu3, fun t ht _ h => by omega⟩, ?_⟩
    rintro i w4 ⟨j, rfl, hj, hu4, hq2⟩
    refine ifB_mk (fun h5 => ?_) (fun h5 => ?_)
    · have hjk : j < k := by have := of_decide_eq_true h5; omega
      have hu4' := hu4.then (Upd.drew _ _)
      obtain ⟨aj, haj, hclj⟩ := (hcols.upd0 (hu1.then hu4')) j (by omega)
      obtain ⟨ak, hak, hclk⟩ := (hcols.upd0 (hu1.then hu4')) k hkn
      refine ⟨_, _, _, hcell1 _ hu4', aj, haj, by omega, by omega, _, hclj.1, _, _, _, hcell1 _ hu4', ak, hak, by omega, by omega, _, hclk.1, ifB_mk (fun h6 => hno _ hu4' fun h' => h'.2.1.2.2 k j hkn hjk (sEq_iff.1 h6).symm) (fun h6 => ?_)⟩
      rw [i64_wrap (by omega) (by omega)]
      refine ⟨⟨j + 1, by omega, by omega, hu4', fun t ht hk' htj => ?_⟩, by show k - _ < k - _; omega⟩
      by_cases h7 : t < j
      · exact hq2 t ht hk' h7
      · have : t = j := by omega
        subst this
        exact fun e => sEq_not.1 h6 e.symm
    · have hjk : j = k := by have := of_decide_eq_false h5; omega
      subst hjk
      rw [i64_wrap (by omega) (by omega)]
      refine ⟨⟨j + 1, by omega, by omega, hu4, forall_take hkn hq ⟨hb.1 (by simpa using h1), by omega, by omega⟩, unlike_next (same := fun a b : Col => a.name = b.name) hkn hq' fun t ht => hq2 t (by omega) hkn ht⟩, by show s.cols.length - _ < s.cols.length - _; omega⟩
  · have hkn0 : k = s.cols.length := by have := of_decide_eq_false h; omega
    subst hkn0
    rw [List.take_of_length_le (by omega)] at hq
    refine ⟨fun i w' => ∃ k : Nat, i = k ∧ k ≤ s.ixs.length ∧ Upd Nothing w2 w' ∧ (∀ x ∈ s.ixs.take k, IxP s.cols.length x) ∧ ∀ i j (hi : i < s.ixs.length) (hj : j < i), i < k → ¬ s.ixs[i].cols = (s.ixs[j]'(Nat.lt_trans hj hi)).cols, fun i _ => s.ixs.length - i.toNat, ⟨0, rfl, by omega, hu3, by simp, fun i j hi hj h => by omega⟩, ?_⟩
    rintro i w4 ⟨k, rfl, hk, hu4, hp, hp'⟩
    refine ⟨_, _, _, hcell2 _ hu4, ifB_mk (fun h5 => ?_) (fun h5 => ?_)⟩
    · have hkn : k < s.ixs.length := by have := of_decide_eq_true h5; omega
      obtain ⟨a, q1, n1, c1, ha, hcl, hat1, hl1, hc1⟩ := (hixs.upd0 (hu1.then hu4)) k hkn
      have hin : s.Right → IxP s.cols.length s.ixs[k] := fun h' => h'.2.2.1.1 _ (List.getElem_mem hkn)
      refine ⟨_, _, _, hcell2 _ hu4, a, ha, by omega, by omega, _, _, _, hcl.1, fun w' => w' = w4 ∧ 1 ≤ n1 ∧ n1 ≤ 8, ifB_mk (fun h6 => hno w4 hu4 fun h' => ?_) (fun h6 => ifB_mk (fun h7 => hno w4 hu4 fun h' => ?_) (fun h7 => ⟨rfl, ?_, ?_⟩)), ?_⟩
      · have := of_decide_eq_true h6; have := (hin h').2.1; omega
      · have := of_decide_eq_true h7
        have := pigeon _ _ (hin h').1 (nodup_of_unlike (hin h').2.2)
        omega
      · have := of_decide_eq_false h6; omega
      · have := of_decide_eq_false h7; omega
      rintro w5 ⟨rfl, hn1, hn8'⟩
      refine ⟨fun i w' => ∃ j : Nat, i = j ∧ j ≤ n1 ∧ Upd Nothing w5 w' ∧ (∀ c ∈ s.ixs[k].cols.take j, 0 ≤ c ∧ c ≤ (s.cols.length : Int) - 1) ∧ ∀ i t (hi : i < s.ixs[k].cols.length) (ht : t < i), i < j → ¬ s.ixs[k].cols[i] = (s.ixs[k].cols[t]'(Nat.lt_trans ht hi)), fun i _ => n1 - i.toNat, ⟨0, rfl, by omega, Upd.refl _ _, by simp, fun i t hi ht h => by omega⟩, ?_⟩
      rintro i w6 ⟨j, rfl, hj, hu6, hr, hr'⟩
      refine ifB_mk (fun h8 => ?_) (fun h8 => ?_)
      · have hjn : j < s.ixs[k].cols.length := by have := of_decide_eq_true h8; omega
        obtain ⟨b, hb, hbc⟩ := (hat1.upd0 hu6) j _ (ints_get hjn)
        refine ⟨b, hb, by omega, by omega, s.ixs[k].cols[j], by simpa using hbc, ifB_mk (fun h9 => hno w6 (hu4.then hu6) fun h' => ?_) (fun h9 => ⟨b, hb, by omega, by omega, s.ixs[k].cols[j], by simpa using hbc, ifB_mk (fun h10 => hno w6 (hu4.then hu6) fun h' => ?_) (fun h10 => ?_)⟩)⟩
        · have := of_decide_eq_true h9; have := (hin h').1 _ (List.getElem_mem hjn); omega
        · have := of_decide_eq_true h10; have := (hin h').1 _ (List.getElem_mem hjn); omega
        have h9' := of_decide_eq_false h9
        have h10' := of_decide_eq_false h10
        refine ⟨fun i w' => ∃ t : Nat, i = t ∧ t ≤ j ∧ Upd Nothing w5 w' ∧ ∀ u (hu : u < s.ixs[k].cols.length), u < t → ¬ s.ixs[k].cols[j] = s.ixs[k].cols[u], fun i _ => j - i.toNat, ⟨0, rfl, by omega, hu6, fun u hu h => by omega⟩, ?_⟩
        rintro i w7 ⟨t, rfl, ht, hu7, ht'⟩
        refine ifB_mk (fun h11 => ?_) (fun h11 => ?_)
        · have htj : t < j := by have := of_decide_eq_true h11; omega
          have hu7' := hu7.then (Upd.drew _ _)
          obtain ⟨b1, hb1', hc1'⟩ := (hat1.upd0 hu7') t _ (ints_get (by omega))
          obtain ⟨b2, hb2', hc2'⟩ := (hat1.upd0 hu7') j _ (ints_get hjn)
          refine ⟨b1, hb1', by omega, by omega, s.ixs[k].cols[t], by simpa using hc1', b2, hb2', by omega, by omega, s.ixs[k].cols[j], by simpa using hc2', ifB_mk (fun h12 => hno _ (hu4.then hu7') fun h' => ?_) (fun h12 => ?_)⟩
          · exact (hin h').2.2 j t hjn htj (beq_iff_eq.1 h12).symm
          · rw [i64_wrap (by omega) (by omega)]
            refine ⟨⟨t + 1, by omega, by omega, hu7', fun u hu hut => ?_⟩, by show j - _ < j - _; omega⟩
            by_cases h13 : u < t
            · exact ht' u hu h13
            · have : u = t := by omega
              subst this
              exact fun e => by rw [e] at h12; simp at h12
        · have htj : t = j := by have := of_decide_eq_false h11; omega
          subst htj
          rw [i64_wrap (by omega) (by omega)]
          refine ⟨⟨t + 1, by omega, by omega, hu7, forall_take hjn hr ⟨by omega, by omega⟩, unlike_next (same := fun a b : Int => a = b) hjn hr' fun u hu => ht' u (by omega) hu⟩, by show n1 - _ < n1 - _; omega⟩
      · have hjn : j = n1 := by have := of_decide_eq_false h8; omega
        subst hjn
        rw [List.take_of_length_le (by omega)] at hr
        have hixp : IxP s.cols.length s.ixs[k] := ⟨hr, by omega, fun i t hi ht => hr' i t hi ht (by omega)⟩
        refine ⟨fun i w' => ∃ t : Nat, i = t ∧ t ≤ k ∧ Upd Nothing w5 w' ∧ ∀ u (hu : u < s.ixs.length), u < t → ¬ s.ixs[k].cols = s.ixs[u].cols, fun i _ => k - i.toNat, ⟨0, rfl, by omega, hu6, fun u hu h => by omega⟩, ?_⟩
        rintro i w7 ⟨t, rfl, ht, hu7, ht'⟩
        refine ifB_mk (fun h11 => ?_) (fun h11 => ?_)
        · have htk : t < k := by have := of_decide_eq_true h11; omega
          obtain ⟨a2, q2, n2, c2, ha2, hcl2, hat2, hl2, hc2⟩ := (hixs.upd0 (hu1.then (hu4.then hu7))) t (by omega)
          have hs3' := hs3 _ (List.getElem_mem (show t < s.ixs.length by omega))
          refine ⟨_, _, _, hcell2 _ (hu4.then hu7), a2, ha2, by omega, by omega, _, _, _, hcl2.1, rsame_spec hat2 hl2 (hat1.upd0 hu7) hl1 (by omega) fun b w8 hb hu8 => ⟨b, rfl, ifB_mk (fun h12 => hno _ (hu4.then (hu7.then hu8)) fun h' => ?_) (fun h12 => ?_)⟩⟩
          · exact h'.2.2.1.2.2.2 k t hkn htk (hb.1 h12).symm
          · rw [i64_wrap (by omega) (by omega)]
            refine ⟨⟨t + 1, by omega, by omega, hu7.then hu8, fun u hu hut => ?_⟩, by show k - _ < k - _; omega⟩
            by_cases h13 : u < t
            · exact ht' u hu h13
            · have : u = t := by omega
              subst this
              exact fun e => by rw [hb.2 e.symm] at h12; cases h12
        · have htk : t = k := by have := of_decide_eq_false h11; omega
          subst htk
          rw [i64_wrap (by omega) (by omega)]
          exact ⟨⟨t + 1, by omega, by omega, hu4.then hu7, forall_take hkn hp hixp, unlike_next (same := fun a b : Ix => a.cols = b.cols) hkn hp' fun u hu => ht' u (by omega) hu⟩, by show s.ixs.length - _ < s.ixs.length - _; omega⟩
    · have hkn : k = s.ixs.length := by have := of_decide_eq_false h5; omega
      subst hkn
      rw [List.take_of_length_le (by omega)] at hp
      exact hK _ _ ⟨fun _ => ⟨hnm, ⟨hq, hn8, fun i j hi hj => hq' i j hi hj hi⟩, ⟨hp, hi4, huq, fun i j hi hj => hp' i j hi hj hi⟩, hlim, hpar, hby⟩, fun _ => rfl⟩ (hu1.then hu4)
end
end Sc
end Go.Proofs.YtjcgociobhhijaaDoor
