/- The frame of a law: what its arguments read as, and that its statement follows from a walk. -/
import Derived.Test.YtjcgociobhhijaaHL
import Derived.Test.YtjcgociobhhijaaRows
import Derived.ProofKit
set_option linter.unusedVariables false
namespace Go.Proofs.Ytjcgociobhhijaa.SX
open Go Go.ChangeShapes Go.WideShapes Go.RowKit

theorem CallsV.back {P : Program} {f : FuncId} {fn : Func} {args : Array Value} {w : World} {K : Value → World → Prop} (hf : P.funcs[f]? = some fn) (hn : (fn.name == "runtime.NumGoroutine") = false) (hb : fn.body.isNone = false)
    (h : CallsV P f args w K) : Calls P f args w fun e w' => ∃ v, e = .returned v ∧ K v w' := by
  unfold CallsV Yield callFunc at h
  simp only [Sem.run_bind, run_program, Result.andThen_ok, hf, hn, hb, Bool.false_eq_true, ↓reduceIte, Sem.run_pure] at h
  exact h

theorem Upd.below {w w' : World} (h : Upd Nothing w w') : Below w.heap.size w w' := ⟨h.os, h.tape, h.output, h.size, fun k hk => h.block k hk fun f => f⟩

theorem trodAll_stays {H : Type} {enc : TypeId × Value → H} {P : Program} {W W' : World} (hl : laidOutB P = true) (hb : Below W.heap.size W W') : ∀ {ts : List TypeId} {vs : List Value} {ds : List (DataW H)} {ps : List MemPlace},
    (ts.all fun t => P.readableRec t && decide (t < P.types.size)) = true → DataW.TrodAll enc P W 0 (fun _ => true) true ts vs ds ps → (∀ x ∈ ps, x.block < W.heap.size) →
    DataW.TrodAll enc P W' 0 (fun b => decide (b < W.heap.size)) true ts vs ds ps
  | [], vs, ds, ps, _, h, _ => by
    obtain ⟨rfl, rfl, rfl⟩ := trodAll_nil h
    exact rfl
  | t :: ts, vs, ds, ps, hr, h, hlt => by
    obtain ⟨v, vs1, d, ds1, a, b, rfl, rfl, rfl, h1, h2⟩ := trodAll_cons h
    simp only [List.all_cons, Bool.and_eq_true] at hr
    exact ⟨a, b, Below.trod hl hr.1.1 (of_decide_eq_true hr.1.2) h1 hb (fun x hx => hlt x (by simp [hx])), trodAll_stays hl hb hr.2 h2 (fun x hx => hlt x (by simp [hx])), rfl⟩

/-- What is behind a law's call: true, and each argument reads as it did. -/
theorem law_post {H : Type} {enc : TypeId × Value → H} {P : Program} {f : Func} {s : ChangeSpec} {W W' : World} {args : Array Value} {ds gs : List (DataW H)} {before : List MemPlace} {tb : TypeId} (hl : laidOutB P = true)
    (hts : (f.params.toList.all fun t => P.readableRec t && decide (t < P.types.size)) = true) (hW : DataW.Whole enc P f.params.toList s.vars false W args.toList ds gs before) (hv : s.vars = [])
    (hfn : s.fn H ds = ⟨[.lit (.bool true)], ds, []⟩) (hr : f.resultTypes = #[tb]) (ht : P.underlying tb = some .bool) (hu : Upd Nothing W W') :
    s.post enc P f false true false false W args (.bool true) W' := by
  have hlt := hW.lt
  have hW' := hW
  obtain ⟨p, q, hA, hV, rfl, _, _⟩ := hW
  rw [hv] at hV
  obtain ⟨rfl, rfl⟩ := trodVars_none hV
  have hlt' : ∀ x ∈ p, x.block < W.heap.size := fun x hx => hlt x (by simp [hx])
  refine ⟨ds, [], p ++ [], [], p, [], hW', ?_, ?_, ?_, ?_, fun h => by cases h⟩
  · rw [List.append_nil, hfn, hr]
    exact trodAll_mk1 (shut_bool ht true)
  · rw [List.append_nil, hfn]
    exact trodAll_stays hl hu.below hts hA hlt'
  · rw [List.append_nil, hfn, hv]
    exact rfl
  · exact Below.frame hu.below _

/-! ### What an argument reads as -/
/-- These cells read as a value of this type. -/
def Rd (P : Program) (W : World) (t : TypeId) (cs : List Value) : Prop := ∃ (H : Type) (enc : TypeId × Value → H) (spare : Nat → Bool) (fuel : Nat) (x : DataW H × List MemPlace), DataW.trod enc P W 0 spare true fuel t cs = some x

theorem Rd.of_trod {H : Type} {enc : TypeId × Value → H} {P : Program} {W : World} {sp : Nat → Bool} {t : TypeId} {v : Value} {d : DataW H} {ps : List MemPlace} (h : DataW.Trod enc P W 0 sp true t v d ps) : Rd P W t v.cells.toList := by
  obtain ⟨fuel, h⟩ := h
  exact ⟨H, enc, sp, fuel, _, h⟩

section
variable {P : Program} {W : World} {t e : TypeId} {cs : List Value}
theorem Rd.int {k : IntKind} (ht : P.underlying t = some (.int k)) (h : Rd P W t cs) : ∃ n, cs = [.int k n] ∧ (Lit.int k n).wf = true := by
  obtain ⟨H, enc, sp, fuel, x, h⟩ := h
  obtain ⟨n, h1, _, h2⟩ := DataW.trod_int ht h
  exact ⟨n, h1, h2⟩
theorem Rd.bool (ht : P.underlying t = some .bool) (h : Rd P W t cs) : ∃ b, cs = [.bool b] := by
  obtain ⟨H, enc, sp, fuel, x, h⟩ := h
  obtain ⟨n, h1, _⟩ := DataW.trod_bool ht h
  exact ⟨n, h1⟩
theorem Rd.str (ht : P.underlying t = some .string) (h : Rd P W t cs) : ∃ s : ByteArray, cs = [.string s] ∧ s.size ≤ maxLen := by
  obtain ⟨H, enc, sp, fuel, x, h⟩ := h
  obtain ⟨n, h1, _, h2⟩ := DataW.trod_string ht h
  exact ⟨n, h1, h2⟩
theorem Rd.slice (ht : P.underlying t = some (.slice e)) (h : Rd P W t cs) : ∃ (p : Option Addr) (n c : Nat), cs = [.slice p n c] ∧ n ≤ c ∧ c ≤ maxLen ∧ (p = none → n = 0 ∧ c = 0) ∧
    ∀ i, i < n → ∃ a es, p = some a ∧ (List.range (P.cellsOf e)).mapM (fun j => W.cell? ((a.add (i * P.cellsOf e)).add j)) = some es ∧ Rd P W e es := by
  obtain ⟨H, enc, sp, fuel, x, h⟩ := h
  rcases DataW.trod_slice ht h with ⟨rfl, _⟩ | ⟨a, len, cap, elems, rest, n, _, rfl, _, _, hle, hcap, hlen, hel, _⟩
  · exact ⟨none, 0, 0, rfl, Nat.le_refl _, by unfold maxLen; omega, fun _ => ⟨rfl, rfl⟩, fun i hi => by omega⟩
  · refine ⟨some a, len, cap, rfl, hle, hcap, fun h => by simp at h, fun i hi => ?_⟩
    have h1 := hel i hi
    rw [List.getElem?_eq_getElem (by omega)] at h1
    obtain ⟨es, h2, h3⟩ := Option.bind_eq_some_iff.1 h1
    refine ⟨a, es, rfl, ?_, ⟨H, enc, sp, n, _, h3⟩⟩
    unfold World.cells? at h2
    split at h2
    · exact h2
    · simp at h2
theorem Rd.struct {fs : Array Field} (ht : P.underlying t = some (.struct fs)) (h : Rd P W t cs) : cs.length = P.cellsOf t ∧ ∀ (i : Nat) (f : Field), fs[i]? = some f → Rd P W f.type ((cs.drop f.offset).take (P.cellsOf f.type)) := by
  obtain ⟨H, enc, sp, fuel, x, h⟩ := h
  obtain ⟨xs, n, _, _, hl, hxs, hf⟩ := DataW.trod_struct ht h
  refine ⟨hl, fun i f hi => ?_⟩
  have := hf i f hi
  rw [List.getElem?_eq_getElem (by rw [hxs]; exact (Array.getElem?_eq_some_iff.1 hi).1)] at this
  exact ⟨H, enc, sp, n, _, this⟩

theorem cells_of_ok {v u : Value} (hs : ∀ cs, v ≠ .agg cs) (hm : ∀ cs, v ≠ .tuple cs) (h : v.cells.toList = [u]) : v = u := by
  cases v <;> simp_all [Value.cells]

/-- An argument of a type that is no structure and no array is its one cell. -/
theorem Rd.arg {b0 : Nat} {v : Value} {d : TypeDesc} (ht : P.underlying t = some d) (hd : (match d with | .struct _ | .array _ _ => false | _ => true) = true) (hval : Value.okWide P W .any b0 t v) {u : Value} (h : v.cells.toList = [u]) : v = u := by
  have key : Cell.okWide P W .any b0 t v := by
    unfold Value.okWide at hval
    rw [ht] at hval
    cases d <;> simp_all
  refine cells_of_ok (fun cs hv => ?_) (fun cs hv => ?_) h
  all_goals
    subst hv
    unfold Cell.okWide at key
    rw [ht] at key
    cases d <;> simp_all [Cell.ok]
end

/-- Cells that lie one behind the other, read off their loads. -/
theorem cells_of_mapM {W : World} {f : Nat → Addr} : ∀ {n : Nat} {es : List Value}, (List.range n).mapM (fun j => W.cell? (f j)) = some es → es.length = n ∧ ∀ j v, es[j]? = some v → W.cell? (f j) = some v := by
  intro n es h
  have h1 : ∀ (l : List Nat) (es : List Value), l.mapM (fun j => W.cell? (f j)) = some es → es.length = l.length ∧ ∀ (j : Nat) (v : Value), es[j]? = some v → ∃ k : Nat, l[j]? = some k ∧ W.cell? (f k) = some v := by
    intro l
    induction l with
    | nil => intro es h; simp at h; subst h; simp
    | cons x l ih =>
      intro es h
      simp only [List.mapM_cons, Option.pure_def, Option.bind_eq_bind, Option.bind_eq_some_iff, Option.some.injEq] at h
      obtain ⟨y, hy, ys, hys, rfl⟩ := h
      obtain ⟨h1, h2⟩ := ih ys hys
      refine ⟨by simp [h1], fun j v hj => ?_⟩
      cases j with
      | zero => simp at hj; subst hj; exact ⟨x, rfl, hy⟩
      | succ j => simp at hj; obtain ⟨k, hk, hv⟩ := h2 j v hj; exact ⟨k, by simpa using hk, hv⟩
  obtain ⟨h2, h3⟩ := h1 _ _ h
  refine ⟨by simpa using h2, fun j v hj => ?_⟩
  obtain ⟨k, hk, hv⟩ := h3 j v hj
  have hjn : j < n := by have := (List.getElem?_eq_some_iff.1 hj).1; simpa [h2] using this
  rw [List.getElem?_range hjn] at hk
  injection hk with hk
  subst hk
  exact hv
end Go.Proofs.Ytjcgociobhhijaa.SX
