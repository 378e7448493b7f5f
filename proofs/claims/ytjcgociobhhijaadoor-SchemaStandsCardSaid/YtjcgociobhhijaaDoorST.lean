/- Plain laws: the keys of rows by schemas stand as what they pick. -/
import Derived.Test.YtjcgociobhhijaaDoorSK
import Derived.Test.YtjcgociobhhijaaDoorVT
set_option linter.unusedVariables false
set_option linter.unusedSimpArgs false
namespace Go.Proofs.YtjcgociobhhijaaDoor
open Go Go.Proofs.YtjcgociobhhijaaDoor.SX Va
namespace Sc

theorem vkeys_split : ∀ {xs ys : List Val} {s t : List UInt8}, xs.length = ys.length → (∀ x ∈ xs, x.good) → (∀ y ∈ ys, y.good) → vkeys xs ++ s = vkeys ys ++ t → xs = ys ∧ s = t
  | [], [], s, t, _, _, _, h => ⟨rfl, h⟩
  | x :: xs, y :: ys, s, t, hl, hx, hy, h => by
    have e : vkeys (x :: xs) = vkey x ++ vkeys xs := rfl
    have e' : vkeys (y :: ys) = vkey y ++ vkeys ys := rfl
    rw [e, e', List.append_assoc, List.append_assoc] at h
    have h1 := firstV_vkey (hx x (by simp)) (vkeys xs ++ s)
    rw [h, firstV_vkey (hy y (by simp))] at h1
    simp only [Option.some.injEq, Prod.mk.injEq] at h1
    obtain ⟨rfl, h2⟩ := h1
    obtain ⟨rfl, rfl⟩ := vkeys_split (by simpa using hl) (fun a ha => hx a (by simp [ha])) (fun a ha => hy a (by simp [ha])) h2.symm
    exact ⟨rfl, rfl⟩

/-- What is picked at places that there are. -/
theorem pk_good {row : List Val} {ps : List Int} {n : Nat} (hg : ∀ x ∈ row, x.good) (hl : row.length = n) (hps : ∀ c ∈ ps, 0 ≤ c ∧ c ≤ (n : Int) - 1) : (pk row ps).length = ps.length ∧ ∀ x ∈ pk row ps, x.good := by
  have hin : pickB row ps = true := by
    unfold pickB
    rw [List.all_eq_true]
    intro x hx
    have := hps x hx
    simp only [Bool.and_eq_true, decide_eq_true_eq]
    omega
  unfold pk
  rw [if_pos hin]
  refine ⟨by simp, fun x hx => ?_⟩
  simp only [List.mem_map] at hx
  obtain ⟨i, hi, rfl⟩ := hx
  have := hps i hi
  have hlt : i.toNat < row.length := by omega
  unfold pickV
  rw [List.getElem?_eq_getElem hlt]
  exact hg _ (List.getElem_mem _)

theorem keyText_good {xs : List Val} (h : ∀ x ∈ xs, x.good) : (keyText xs).data.toList = vkeys xs := by
  unfold keyText
  rw [if_pos (List.all_eq_true.2 fun x hx => (h x hx).1)]
  simp [tx]

/-- How the keys stand. -/
theorem skey_stands {s : Schm} {i : Nat} (hi : i < s.ixs.length) (hs : s.Right) {a b : List Val} (ha : FitsP s.cols a) (hb : FitsP s.cols b) (hga : ∀ x ∈ a, x.good) (hgb : ∀ x ∈ b, x.good) (way : Int)
    (hw : way = if rowsCmp (pk a s.ixs[i].cols) (pk b s.ixs[i].cols) = 0 ∧ s.ixs[i].unique = false then rowsCmp (pk a (s.ixs[0]'(by omega)).cols) (pk b (s.ixs[0]'(by omega)).cols) else rowsCmp (pk a s.ixs[i].cols) (pk b s.ixs[i].cols)) :
    (sLt (tx (skey s i hi a)) (tx (skey s i hi b)) = decide (way < 0)) ∧ (sEq (tx (skey s i hi a)) (tx (skey s i hi b)) = (way == 0)) := by
  have h0 : 0 < s.ixs.length := by omega
  have hx := hs.2.2.1.1 _ (List.getElem_mem hi)
  have hx0 := hs.2.2.1.1 _ (List.getElem_mem h0)
  obtain ⟨la, ga⟩ := pk_good hga ha.1 hx.1
  obtain ⟨lb, gb⟩ := pk_good hgb hb.1 hx.1
  obtain ⟨la0, ga0⟩ := pk_good hga ha.1 hx0.1
  obtain ⟨lb0, gb0⟩ := pk_good hgb hb.1 hx0.1
  have ta : ∀ l, (tx l).data.toList = l := fun l => by simp [tx]
  have hlt : ∀ x y, sLt (tx x) (tx y) = bl x y := fun x y => by unfold sLt; rw [ByteArray.toList_eq, ByteArray.toList_eq, ta, ta]
  have heq : ∀ x y, sEq (tx x) (tx y) = true ↔ x = y := fun x y => by
    rw [sEq_iff]
    exact ⟨fun h => by have := congrArg (fun z : ByteArray => z.data.toList) h; simpa only [ta] using this, fun h => by rw [h]⟩
  have hb2 : ∀ r : Int, (r == 0) = true ↔ r = 0 := fun r => beq_iff_eq
  unfold skey
  rw [keyText_good ga, keyText_good gb, keyText_good ga0, keyText_good gb0]
  generalize pk a s.ixs[i].cols = X at *
  generalize pk b s.ixs[i].cols = Y at *
  generalize pk a (s.ixs[0]'(by omega)).cols = X0 at *
  generalize pk b (s.ixs[0]'(by omega)).cols = Y0 at *
  have hXY : X.length = Y.length := by omega
  have hXY0 : X0.length = Y0.length := by omega
  rw [hlt, bl_keys_app X Y _ _ hXY ga gb, Bool.eq_iff_iff (a := sEq _ _), heq, hb2]
  have hz := rows_eq X Y
  have hz0 := rows_eq X0 Y0
  by_cases hr : rowsCmp X Y = 0
  · rw [if_neg (fun h => h hr)]
    have e := hz.1 hr
    subst e
    cases hu : s.ixs[i].unique with
    | true =>
      rw [if_pos rfl, if_pos rfl]
      rw [hu, hr] at hw
      have hw0 : way = 0 := by simpa using hw
      subst hw0
      exact ⟨rfl, fun _ => rfl, fun _ => rfl⟩
    | false =>
      rw [hu] at hw
      have hw0 : way = rowsCmp X0 Y0 := by rw [hw, if_pos ⟨hr, rfl⟩]
      rw [hw0]
      simp only [Bool.false_eq_true, ↓reduceIte]
      refine ⟨bl_keys X0 Y0 ga0 gb0, fun h => ?_, fun h => by rw [hz0.1 h]⟩
      have h1 := List.append_cancel_left h
      have h2 := vkeys_split (s := []) (t := []) hXY0 ga0 gb0 (by rw [h1])
      exact hz0.2 h2.1
  · rw [if_pos hr]
    have hw0 : way = rowsCmp X Y := by rw [hw, if_neg (fun h => hr h.1)]
    rw [hw0]
    exact ⟨rfl, fun h => hz.2 (vkeys_split hXY ga gb h).1, fun h => absurd h hr⟩
end Sc
end Go.Proofs.YtjcgociobhhijaaDoor
