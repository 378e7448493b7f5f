/- Values' texts: what the document's answer parses; rows' lines. -/
import Derived.Test.YtjcgociobhhijaaDoorCW
set_option linter.unusedVariables false
set_option linter.unusedSimpArgs false
set_option maxRecDepth 100000
namespace Go.Proofs.YtjcgociobhhijaaDoor
open Go Go.Proofs.YtjcgociobhhijaaDoor.SX Va Sc
namespace Ca
theorem unq_step (b : UInt8) (r : List UInt8) : unq (b :: r) = b :: (if b = 39 then unq (r.drop 1) else unq r) := by
  cases r with
  | nil => rw [unq]; split <;> rfl
  | cons c r => rw [unq]; rfl
section
variable {w : World} {K : Value → World → Prop} {p q : Option Addr} {n c m d : Nat} {v : Val} {s : ByteArray}
theorem rparse2_spec (hs : s.size ≤ 10000) (hK : ∀ v ok w', ParseV s.data.toList v ok → Upd Nothing w w' → K (.tuple #[v.val, .bool ok]) w') : CallsV prog F.affluxref02_Parse #[.string s] w K :=
  R.affluxref02_Parse (by
    unfold C.affluxref02_Parse
    have hlen : s.data.toList.length = s.size := rfl
    refine New.use (by simp [Value.oneCell']) fun g1 w1 hb1 hu1 hge1 hlt1 => New.use (by simp [Value.oneCell']) fun g2 w2 hb2 hu2 hge2 _ => ?_
    have hu12 := hu1.then hu2
    have hb12 : Blk w2 g1 (Val.cells val0) T.api_Value := hu2.blk hb1 fun f => f
    have hg2 : ∀ i, SX.One g2 i → w.heap.size ≤ i := fun i hi => by rw [show i = g2 from hi]; exact Nat.le_trans hu1.size hge2
    have hne : g1 ≠ g2 := by omega
    have hfail : ∀ w', Upd Nothing w w' → Blk w' g1 (Val.cells val0) T.api_Value → (∀ u : Val, u.right = true → inr u.n → vprint u ≠ s.data.toList) →
        CanSt w' ((Addr.mk g1 0 none).add 0) ∧ ∀ wa, wa = w'.setCell ((Addr.mk g1 0 none).add 0) (.int .i64 0) →
        CanSt wa ((Addr.mk g1 0 none).add 1) ∧ ∀ wb, wb = wa.setCell ((Addr.mk g1 0 none).add 1) (.int .i64 0) →
        CanSt wb ((Addr.mk g1 0 none).add 2) ∧ ∀ wc, wc = wb.setCell ((Addr.mk g1 0 none).add 2) (.string (bs [])) →
        ∃ (xKind1 : Int) (xN1 : Int) (xS1 : ByteArray), SX.cellsAt wc (Addr.mk g1 0 none) 0 [.int .i64 xKind1, .int .i64 xN1, .string xS1] ∧ K (.tuple #[.agg #[.int .i64 xKind1, .int .i64 xN1, .string xS1], .bool false]) wc := fun w' hu hb hn =>
      set_val val0 hb fun wc hbc huc => ⟨_, _, _, cells_cells hbc, hK val0 false wc (.inr ⟨rfl, rfl, hn⟩) (hu.fresh huc fun i hi => by rw [show i = g1 from hi]; exact hge1)⟩
    refine set_val ⟨3, 0, bs []⟩ hb2 fun w5 hb5 hu5 => ?_
    have hu05 : Upd Nothing w w5 := hu12.fresh hu5 hg2
    have hb15 := hu5.blk hb12 fun e => hne e
    refine ⟨fun w' => ∃ v : Val, Cand s.data.toList v ∧ Blk w' g2 v.cells T.api_Value ∧ Blk w' g1 (Val.cells val0) T.api_Value ∧ Upd Nothing w w', ?_, ?_⟩
    · have hput : ∀ (w' : World) (v : Val), Upd Nothing w w' → Blk w' g1 (Val.cells val0) T.api_Value → Cand s.data.toList v → ∀ w'', Blk w'' g2 v.cells T.api_Value → Upd (SX.One g2) w' w'' → (∃ v : Val, Cand s.data.toList v ∧ Blk w'' g2 v.cells T.api_Value ∧ Blk w'' g1 (Val.cells val0) T.api_Value ∧ Upd Nothing w w'') := fun w' v hu hb0 hc w'' hb hu'' =>
        ⟨v, hc, hb, hu''.blk hb0 fun e => hne e, hu.fresh hu'' hg2⟩
      -- a number's text
      have hnum : ¬ (s.data.toList = [116, 114, 117, 101] ∨ s.data.toList = [102, 97, 108, 115, 101]) → ¬ (2 ≤ s.data.toList.length ∧ s.data.toList.head? = some 39) →
          CallsV prog F.affluxref01_Parse #[.string s] w5 (fun v3 wv13 =>
            ∃ (ra1 : Int) (rb1 : Int),
            v3 = .tuple #[.int .i64 ra1, .int .i64 rb1] ∧
            CanSt wv13 ((Addr.mk g2 0 none).add 0) ∧ ∀ wv14, wv14 = wv13.setCell ((Addr.mk g2 0 none).add 0) (.int .i64 1) →
            CanSt wv14 ((Addr.mk g2 0 none).add 1) ∧ ∀ wv15, wv15 = wv14.setCell ((Addr.mk g2 0 none).add 1) (.int .i64 ra1) →
            CanSt wv15 ((Addr.mk g2 0 none).add 2) ∧ ∀ wv16, wv16 = wv15.setCell ((Addr.mk g2 0 none).add 2) (.string (bs [])) →
            ifB (rb1 != (0 : Int)) (
              CanSt wv16 ((Addr.mk g1 0 none).add 0) ∧ ∀ wv17, wv17 = wv16.setCell ((Addr.mk g1 0 none).add 0) (.int .i64 0) →
              CanSt wv17 ((Addr.mk g1 0 none).add 1) ∧ ∀ wv18, wv18 = wv17.setCell ((Addr.mk g1 0 none).add 1) (.int .i64 0) →
              CanSt wv18 ((Addr.mk g1 0 none).add 2) ∧ ∀ wv19, wv19 = wv18.setCell ((Addr.mk g1 0 none).add 2) (.string (bs [])) →
              ∃ (xKind1 : Int) (xN1 : Int) (xS1 : ByteArray),
              SX.cellsAt wv19 (Addr.mk g1 0 none) 0 [.int .i64 xKind1, .int .i64 xN1, .string xS1] ∧
              K (.tuple #[.agg #[.int .i64 xKind1, .int .i64 xN1, .string xS1], .bool false]) wv19) (
              ∃ v : Val, Cand s.data.toList v ∧ Blk wv16 g2 v.cells T.api_Value ∧ Blk wv16 g1 (Val.cells val0) T.api_Value ∧ Upd Nothing w wv16)) := fun h3 h2 =>
        rparse_spec hs fun n e w13 hp hu13 => ⟨_, _, rfl, set_val ⟨1, n, bs []⟩ (hu13.blk hb5 fun f => f) fun w16 hb16 hu16 => by
          have hu0 : Upd Nothing w w13 := hu05.then hu13
          have hb1' : Blk w16 g1 (Val.cells val0) T.api_Value := hu16.blk (hu13.blk hb15 fun f => f) fun e => hne e
          refine ifB_mk (fun he => ?_) (fun he => ?_)
          · have he' : e ≠ 0 := by simpa using he
            rcases hp with hp | hp
            · exact absurd hp.1 he'
            · exact hfail w16 (hu0.fresh hu16 hg2) hb1' (no_num h3 h2 hp.2)
          · have he' : e = 0 := by simpa using he
            rcases hp with hp | hp
            · exact hput w13 _ hu0 (hu13.blk hb15 fun f => f) (cand_num h3 h2 hp.2.1 hp.2.2) w16 hb16 hu16
            · exact absurd he' hp.1⟩
      refine ifB_mk (fun h => ?_) (fun h => ifB_mk (fun h' => ?_) (fun h' => ?_))
      · have hc := cand_bool (s := s) (.inl (sEq_list.1 h))
        rw [if_pos h] at hc
        exact hb5.store (i := 1) (by simp [Val.cells]) rfl fun w6 hb6 hu6 _ => hput w5 _ hu05 hb15 hc w6 hb6 hu6
      · have hc := cand_bool (s := s) (.inr (sEq_list.1 h'))
        rw [if_neg (by rw [h]; decide)] at hc
        exact ⟨_, hc, hb5, hb15, hu05⟩
      have h3 : ¬ (s.data.toList = [116, 114, 117, 101] ∨ s.data.toList = [102, 97, 108, 115, 101]) := fun hh => by
        rcases hh with hh | hh
        · rw [sEq_list.2 hh] at h; cases h
        · rw [sEq_list.2 hh] at h'; cases h'
      refine ifB_mk (fun h1 => ⟨by omega, by have := of_decide_eq_true h1; omega, ?_⟩) (fun h1 => hnum h3 fun hh => by have := of_decide_eq_false h1; omega)
      have hpos : 0 < s.size := by have := of_decide_eq_true h1; omega
      have hb0 := bt_get hpos
      rw [show ((0 : Nat) : Int) = 0 from rfl] at hb0
      have hhd : s.data.toList.head? = some (s.data.toList[0]'(by rw [hlen]; exact hpos)) := by rw [List.head?_eq_getElem?, List.getElem?_eq_getElem (by rw [hlen]; exact hpos)]
      rw [hb0]
      refine ifB_mk (fun h2 => ?_) (fun h2 => hnum h3 fun hh => ?_)
      rotate_left
      · rw [hhd] at hh
        rw [Option.some.inj hh.2] at h2
        exact absurd h2 (by decide)
      have hh : s.data.toList.head? = some 39 := by
        rw [hhd]
        exact congrArg some (UInt8.toNat_inj.1 (by show _ = 39; have := beq_iff_eq.1 h2; omega))
      refine hb5.store (i := 0) (by simp [Val.cells]) rfl fun w7 hb7 hu7 _ => ?_
      have hu07 : Upd Nothing w w7 := hu05.fresh hu7 hg2
      have hb17 := hu7.blk hb15 fun e => hne e
      have hb7' : Blk w7 g2 (Val.cells ⟨2, 0, bs []⟩) T.api_Value := hb7
      have hin : ∀ k (hk : k < ((s.data.toList.drop 1).take (s.data.toList.length - 1 - 1)).length), k + 2 < s.size ∧ bt s ((k + 1 : Nat) : Int) = ((((s.data.toList.drop 1).take (s.data.toList.length - 1 - 1))[k]).toNat : Int) := fun k hk => by
        have hk2 : k + 2 < s.size := by
          rw [List.length_take, List.length_drop] at hk
          omega
        refine ⟨hk2, ?_⟩
        rw [bt_get (show k + 1 < s.size by omega), List.getElem_take, List.getElem_drop]
        congr 3
        omega
      have hil : ((s.data.toList.drop 1).take (s.data.toList.length - 1 - 1)).length = s.size - 1 - 1 := by
        rw [List.length_take, List.length_drop]
        omega
      have hcand := cand_text (s := s.data.toList) (f := unq) unq_dbl h3 hh
      generalize (s.data.toList.drop 1).take (s.data.toList.length - 1 - 1) = L at hin hil hcand
      refine ⟨fun lp ln lc i w' => ∃ (k : Nat) (done : List UInt8), i = ((k + 1 : Nat) : Int) ∧ done ++ unq (L.drop k) = unq L ∧ ln = done.length ∧ done.length ≤ k ∧ k ≤ L.length + 1 ∧ Own w' T.uint8 1 lp ln lc (bytesV done) ∧ Upd Nothing w7 w' ∧ ∀ j, Fp lp lc j → w7.heap.size ≤ j,
        fun _ _ _ i _ => L.length + 2 - i.toNat, ⟨0, [], rfl, rfl, rfl, by simp, by omega, Own.nil _ _ _, Upd.refl _ _, fun j hj => by have := hj.1; omega⟩, ?_⟩
      rintro lp ln lc i w8 ⟨k, done, rfl, hq, rfl, hdk, hk, ho8, hu8, hf8⟩
      have hw1 : IntKind.i64.wrap (((k + 1 : Nat) : Int) + 1) = ((k + 2 : Nat) : Int) := by rw [i64_wrap (by omega) (by omega)]; omega
      have hw2 : IntKind.i64.wrap (((k + 2 : Nat) : Int) + 1) = ((k + 3 : Nat) : Int) := by rw [i64_wrap (by omega) (by omega)]; omega
      rw [hw1, hw2]
      refine ifB_mk (fun h4 => ?_) (fun h4 => ?_)
      · have hkl : k < L.length := by have := of_decide_eq_true h4; omega
        obtain ⟨hk2, hbk⟩ := hin k hkl
        rw [hbk]
        have hdr : L.drop k = L[k] :: L.drop (k + 1) := List.drop_eq_getElem_cons hkl
        rw [hdr, unq_step] at hq
        refine ⟨by omega, by omega, app1 (y := L[k]) rfl ho8 (by omega) fun p' c' w10 ho10 hu10 hf10 => ⟨_, _, _, rfl, by omega, by omega, ?_⟩⟩
        have hf10' : ∀ j, Fp p' c' j → w7.heap.size ≤ j := fun j hj => by
          rcases hf10 j hj with h | h
          · exact hf8 j h
          · exact Nat.le_trans hu8.size h
        refine ifB_mk (fun h5 => ?_) (fun h5 => ?_)
        · have h39 : L[k] = 39 := UInt8.toNat_inj.1 (by show _ = 39; have := beq_iff_eq.1 h5; omega)
          rw [if_pos h39, List.drop_drop] at hq
          refine ⟨⟨k + 2, done ++ [L[k]], rfl, ?_, by simp, by simp; omega, by omega, ho10, hu8.fresh hu10 hf8, hf10'⟩, by show L.length + 2 - _ < L.length + 2 - _; omega⟩
          rw [List.append_assoc]
          exact hq
        · have h39 : L[k] ≠ 39 := fun e => by rw [e] at h5; exact absurd h5 (by decide)
          rw [if_neg h39] at hq
          refine ⟨⟨k + 1, done ++ [L[k]], rfl, ?_, by simp, by simp; omega, by omega, ho10, hu8.fresh hu10 hf8, hf10'⟩, by show L.length + 2 - _ < L.length + 2 - _; omega⟩
          rw [List.append_assoc]
          exact hq
      · have hkl : L.length ≤ k := by have := of_decide_eq_false h4; omega
        rw [List.drop_of_length_le hkl] at hq
        have hq' : done = unq L := by
          have e : unq [] = [] := rfl
          rw [e, List.append_nil] at hq
          exact hq
        refine to_text ho8.at rfl ⟨_, rfl, ?_⟩
        have hb8 := hu8.blk hb7' fun f => f
        refine hb8.store (i := 2) (by simp [Val.cells]) rfl fun w12 hb12' hu12' _ => ?_
        rw [← hq'] at hcand
        exact hput w8 _ (hu07.then hu8) (hu8.blk hb17 fun f => f) hcand w12 hb12' hu12'
    rintro w22 ⟨v, ⟨hvn, hc⟩, hbv, hb0, hu22⟩
    refine ⟨_, _, _, cells_cells (v := v) hbv, ?_⟩
    show CallsV prog F.affluxref02_Right #[v.val] w22 _
    refine rright_spec fun w23 hu23 => ⟨_, rfl, ifB_mk (fun h => ?_) (fun h => ?_)⟩
    · refine hfail w23 (hu22.then hu23) (hu23.blk hb0 fun f => f) fun u hu hun hp => ?_
      rw [hc u hu hun hp] at hu
      rw [hu] at h
      cases h
    have hr : v.right = true := by simpa using h
    have hb23 := hu23.blk hbv fun f => f
    refine ⟨_, _, _, cells_cells (v := v) hb23, ?_⟩
    show CallsV prog F.affluxref02_Print #[v.val] w23 _
    have hu23' := hu22.then hu23
    refine rprint2_spec hr hvn fun w27 hu27 => ⟨_, rfl, ifB_mk (fun h1 => ?_) (fun h1 => ?_)⟩
    · refine hfail w27 (hu23'.then hu27) ((hu23.then hu27).blk hb0 fun f => f) fun u hu hun hp => ?_
      rw [hc u hu hun hp] at hp
      rw [sEq_tx.2 hp] at h1
      cases h1
    · have hp : vprint v = s.data.toList := sEq_tx.1 (by simpa using h1)
      refine ⟨_, _, _, cells_cells (v := v) (hu27.blk hb23 fun f => f), set_val v ((hu23.then hu27).blk hb0 fun f => f) fun w33 hb33 hu33 => ⟨_, _, _, cells_cells (v := v) hb33, ?_⟩⟩
      exact hK v true w33 (.inl ⟨rfl, hr, hvn, hp⟩) ((hu23'.then hu27).fresh hu33 fun i hi => by rw [show i = g1 from hi]; exact hge1))

/-! ### a row's line -/
theorem str_info : ∃ i, prog.info? T.string = some i ∧ i.zero = some (.string ByteArray.empty) ∧ i.size = 1 ∧ i.bytes = 16 := by
  have h : tab.get T.string = some ti9 := by kernel_rfl
  obtain ⟨i, hi, hz, hs, hb⟩ := (tabOK.get h).info (by kernel_rfl)
  exact ⟨i, hi, hz, hs, hb⟩
theorem make_strs (hn : n ≤ 1000) (hK : ∀ g w', Own w' T.string 1 (some ⟨g, 0, none⟩) n n (strs (List.replicate n ⟨#[]⟩)) → Upd Nothing w w' → w.heap.size ≤ g → K (.slice (some ⟨g, 0, none⟩) n n) w') :
    MakeV prog T.s_string (.int .i64 (n : Int)) (.int .i64 (n : Int)) w K := by
  obtain ⟨i, hi, hz, hs, hb⟩ := str_info
  have h := run_make w T.s_string T.string i _ sstr.desc hi hz .i64 .i64 (n : Int) (n : Int) (by omega) (Int.le_refl _) (by rw [hb]; omega) (by omega)
  unfold MakeV Yield
  simp only [Sem.run_bind, h, Result.andThen_ok, Sem.run_pure, Int.toNat_natCast]
  have hcells : (madeCells (Value.string ByteArray.empty).cells (n * i.size)).toList = strs (List.replicate n ⟨#[]⟩) := by
    rw [hs, Nat.mul_one]
    unfold madeCells
    simp only [Array.toList_map, Array.toList_range]
    refine List.ext_getElem (by simp) fun j h1 h2 => ?_
    simp [strs, Value.cells]
    rw [Nat.mod_one]
    rfl
  have hN : New w (.cells (madeCells (Value.string ByteArray.empty).cells (n * i.size)) T.string) w.heap.size (w.alloc (.cells (madeCells (Value.string ByteArray.empty).cells (n * i.size)) T.string)) := ⟨rfl, rfl⟩
  have hB := Blk.new hN (by rw [hcells]; exact strs_one _)
  rw [hcells] at hB
  exact hK _ _ ⟨by simp, Nat.le_refl _, .inr ⟨_, [], rfl, by rw [List.append_nil]; exact hB, by simp⟩⟩ (Upd.new hN) (Nat.le_refl _)

theorem join_spec {g : Nat} {xs : List ByteArray} {sep : ByteArray} (ho : Own w T.string 1 (some ⟨g, 0, none⟩) xs.length c (strs xs)) (hn : xs.length ≤ 1000) (hlen : (Lib.join (xs.map (·.data.toList)) sep.data.toList).length ≤ 140737488355328)
    (hK : ∀ w', Upd Nothing w w' → K (.string (tx (Lib.join (xs.map (·.data.toList)) sep.data.toList))) w') : CallsV prog F.strings_Join #[.slice (some ⟨g, 0, none⟩) xs.length c, .string sep] w K := by
  by_cases h0 : c = 0
  · have := ho.le
    have hx : xs = [] := List.length_eq_zero_iff.1 (by omega)
    subst hx
    exact CallsV.of_body Tryd.func79 (by kernel_rfl) (by kernel_rfl) (Calls.mono (Tryd.strings_Join_none _ c sep w) fun e w' ⟨he, hw⟩ => ⟨_, he, hK w' (hw ▸ Upd.refl _ _)⟩)
  · rcases ho.mem with h | ⟨g', rest, hp, hb, _⟩
    · exact absurd h h0
    injection hp with hp
    injection hp with hp
    subst hp
    refine CallsV.of_body Tryd.func79 (by kernel_rfl) (by kernel_rfl) (Calls.mono (Tryd.strings_Join g 0 c xs sep w (fun j x hj => ?_) hb.lt (by omega) ho.le hlen) fun e w' ⟨he, hB⟩ => ⟨_, he, hK w' ⟨hB.os, hB.tape, hB.output, hB.size, fun k hk _ => hB.block k hk⟩⟩)
    rw [Nat.zero_add]
    obtain ⟨a, ha, hc⟩ := ho.at j (.string x) (by simp [strs, hj])
    injection ha with ha
    subst ha
    rw [Addr.add_mk, Nat.zero_add] at hc
    exact hc

def vline (xs : List Val) : List UInt8 := Lib.join (xs.map vprint) [44, 32]
theorem vprint_length {x : Val} (h : inr x.n) : (vprint x).length ≤ 402 := by
  by_cases hr : x.right = true
  · rcases good_kinds hr with h1 | h1 | h1
    · rw [vprint_one hr h1.1]
      unfold dtext
      have h2 : (ntext x.n.natAbs).length ≤ 19 := ntext_length (by obtain ⟨h3, h4⟩ := h; show x.n.natAbs < 10000000000000000000; omega)
      split
      · simp; omega
      · omega
    · rw [vprint_two hr h1.1]
      have h2 : (dbl x.s.data.toList).length ≤ 2 * x.s.size := repl_length 39 [39, 39] _ rfl
      have := h1.2.2
      simp
      omega
    · rw [vprint_three hr h1.1]
      split <;> simp
  · unfold vprint vtext
    rw [if_neg (fun h' => hr h'.1), if_neg hr]
    simp
theorem join_len : ∀ (xs : List (List UInt8)), (∀ x ∈ xs, x.length ≤ 402) → (Lib.join xs [44, 32]).length ≤ 404 * xs.length
  | [], _ => by simp [Lib.join_nil]
  | [x], h => by rw [Lib.join_one]; have := h x (by simp); simp; omega
  | x :: y :: r, h => by
    have ih := join_len (y :: r) fun z hz => h z (List.mem_cons_of_mem _ hz)
    have hx := h x (by simp)
    have e : Lib.join (x :: y :: r) [44, 32] = x ++ [44, 32] ++ Lib.join (y :: r) [44, 32] := by simp [Lib.join, List.intercalate]
    rw [e]
    simp only [List.length_append, List.length_cons, List.length_nil] at *
    omega
theorem vline_snoc {xs : List Val} {x : Val} : vline (xs ++ [x]) = if xs = [] then vprint x else vline xs ++ [44, 32] ++ vprint x := by
  unfold vline
  rw [List.map_append]
  have key : ∀ (l : List (List UInt8)) (y : List UInt8), l ≠ [] → Lib.join (l ++ [y]) [44, 32] = Lib.join l [44, 32] ++ [44, 32] ++ y := by
    intro l
    induction l with
    | nil => intro y h; exact absurd rfl h
    | cons a l ih =>
      intro y _
      cases l with
      | nil => simp [Lib.join, List.intercalate]
      | cons b l =>
        have e : ∀ (r : List (List UInt8)), Lib.join (a :: b :: r) [44, 32] = a ++ [44, 32] ++ Lib.join (b :: r) [44, 32] := fun r => by simp [Lib.join, List.intercalate]
        rw [List.cons_append, List.cons_append, e, ← List.cons_append, ih y (by simp), e]
        simp
  by_cases h : xs = []
  · rw [if_pos h, h]
    exact Lib.join_one _ _
  · rw [if_neg h]
    exact key _ _ (by simpa using h)

theorem line_spec {xs : List Val} (hM : MX w) (hat : At w p (vals xs)) (hl : xs.length = n) (hn : n ≤ 1000) (hw : ∀ x ∈ xs, inr x.n) (hK : ∀ w', Upd Nothing w w' → K (.string (tx (vline xs))) w') : CallsV prog F.value_Line #[.slice p n c] w K :=
  R.value_Line (by
    unfold C.value_Line
    refine make_strs hn fun g w1 ho1 hu1 hge1 => ⟨_, _, _, rfl, ?_⟩
    have hfr : ∀ j, Fp (some ⟨g, 0, none⟩) n j → w.heap.size ≤ j := fun j hj => by
      obtain ⟨_, a, ha, rfl⟩ := hj
      injection ha with ha
      subst ha
      exact hge1
    refine ⟨fun i w' => ∃ k : Nat, i = k ∧ k ≤ n ∧ Own w' T.string 1 (some ⟨g, 0, none⟩) n n (strs ((xs.take k).map (fun x => tx (vprint x)) ++ List.replicate (n - k) ⟨#[]⟩)) ∧ Upd Nothing w w', fun i _ => n - i.toNat, ⟨0, rfl, by omega, ho1, hu1⟩, ?_⟩
    rintro i w2 ⟨k, rfl, hk, ho2, hu2⟩
    refine ifB_mk (fun h => ?_) (fun h => ?_)
    · have hkn : k < n := by have := of_decide_eq_true h; omega
      obtain ⟨a, ha, hcl⟩ := (hat.upd0 hu2).val (i := k) (by omega)
      refine ⟨a, ha, by omega, by omega, _, _, _, hcl, New.use (by simp [Value.oneCell']) fun g3 w3 hb3 hu3 hge3 _ => set_val xs[k] hb3 fun w6 hb6 hu6 => ⟨_, _, _, cells_cells (v := xs[k]) hb6, ?_⟩⟩
      have hu26 : Upd Nothing w2 w6 := hu3.fresh hu6 fun i hi => by rw [show i = g3 from hi]; exact hge3
      show CallsV prog F.value_Print #[(xs[k]).val] w6 _
      refine vprint_spec (hM.upd0 (hu2.then hu26)) (hw _ (List.getElem_mem _)) fun w7 hu7 => ⟨_, rfl, ?_⟩
      have hlt : ((xs.take k).map (fun x => tx (vprint x)) ++ List.replicate (n - k) (⟨#[]⟩ : ByteArray)).length = n := by simp; omega
      obtain ⟨a2, ha2, hcan, hst⟩ := (ho2.upd0 (hu26.then hu7)).put (j := k) (v := .string (tx (vprint xs[k]))) (by rw [strs_length, hlt]; exact hkn) rfl
      refine ⟨a2, ha2, by omega, by omega, by simpa using hcan, fun w8 hw8 => ?_⟩
      obtain ⟨ho8, hu8, _⟩ := hst w8 (by simpa using hw8)
      rw [i64_wrap (by omega) (by omega)]
      refine ⟨⟨k + 1, by omega, by omega, ?_, (hu2.then (hu26.then hu7)).fresh hu8 hfr⟩, by show n - _ < n - _; omega⟩
      have e : (strs ((xs.take k).map (fun x => tx (vprint x)) ++ List.replicate (n - k) (⟨#[]⟩ : ByteArray))).set k (.string (tx (vprint xs[k]))) = strs ((xs.take (k + 1)).map (fun x => tx (vprint x)) ++ List.replicate (n - (k + 1)) ⟨#[]⟩) := by
        have hr : List.replicate (n - k) (⟨#[]⟩ : ByteArray) = ⟨#[]⟩ :: List.replicate (n - (k + 1)) ⟨#[]⟩ := by
          rw [show n - k = (n - (k + 1)) + 1 by omega, List.replicate_succ]
        have htm : (xs.take (k + 1)).map (fun x => tx (vprint x)) = (xs.take k).map (fun x => tx (vprint x)) ++ [tx (vprint xs[k])] := by rw [List.take_succ_eq_append_getElem (by omega), List.map_append]; rfl
        rw [hr, htm, strs_append, List.set_append_right _ _ (by simp; omega)]
        have : k - (strs ((xs.take k).map fun x => tx (vprint x))).length = 0 := by simp; omega
        rw [this, List.append_assoc, strs_append]
        rfl
      rw [e] at ho8
      exact ho8
    · have hkn : k = n := by have := of_decide_eq_false h; omega
      subst hkn
      rw [List.take_of_length_le (by omega), Nat.sub_self, List.replicate_zero, List.append_nil] at ho2
      have hml : (xs.map fun x => tx (vprint x)).length = k := by simp [hl]
      have hmm : (xs.map fun x => tx (vprint x)).map (·.data.toList) = xs.map vprint := by
        rw [List.map_map]
        refine List.map_congr_left fun x _ => ?_
        simp [tx]
      have key := join_spec (K := fun v w' => ∃ r : ByteArray, v = .string r ∧ K (.string r) w') (sep := bs [44, 32]) (xs := xs.map fun x => tx (vprint x)) (g := g) (c := k) (w := w2) (by rw [hml]; exact ho2) (by rw [hml]; exact hn) (by
        rw [hmm]
        refine Nat.le_trans (join_len _ fun x hx => ?_) ?_
        · obtain ⟨y, hy, rfl⟩ := List.mem_map.1 hx
          exact vprint_length (hw y hy)
        · simp
          omega) (fun w' hu' => ⟨_, rfl, by rw [hmm]; exact hK w' (hu2.then hu')⟩)
      rw [hml] at key
      exact key)
end
end Ca
end Go.Proofs.YtjcgociobhhijaaDoor
