/- A verification condition over the code of a Go function, and its soundness: what is proved here holds of every program of the model. -/
import Derived.Tactics
import Derived.KernelRfl
import Derived.Orders
import Derived.Laws.Entries
import Derived.Laws.StructEq
import Derived.Laws.Slices
import Derived.Laws.Strings
import Derived.Laws.Build
set_option linter.all false
set_option linter.unusedVariables false
set_option linter.unusedSimpArgs false
set_option linter.unnecessarySimpa false
namespace Go.Proofs.Ytjcgociobhhijaa.SX
open Go

/-! ### 1. Leaves, kinds, the table of types -/
inductive Leaf where
  | bool | int (k : IntKind) | str | ptr | slice | map | iface | func

def Leaf.zero : Leaf → Value
  | .bool => .bool false
  | .int k => .int k 0
  | .str => .string ByteArray.empty
  | .ptr => .pointer none
  | .slice => .slice none 0 0
  | .map => .map none
  | .iface => .nilIface
  | .func => .nilFunc

inductive Kind where
  | leaf (l : Leaf) (elem : Nat)
  | struct (fields : List (Nat × Nat))
  | array (n : Nat) (elem : Nat)
  | tuple (ts : List Nat)
  | other

structure TI where
  kind : Kind
  leaves : List Leaf
  bytes : Nat

abbrev Tab := List (Nat × TI)

def Tab.get : Tab → Nat → Option TI
  | [], _ => none
  | (t', ti) :: r, t => bif Nat.beq t' t then some ti else Tab.get r t

def Kind.isAgg : Kind → Bool
  | .struct _ | .array _ _ => true
  | _ => false

def TI.zero (ti : TI) : Value :=
  match ti.kind with
  | .struct _ | .array _ _ => .agg (ti.leaves.map Leaf.zero).toArray
  | _ => match ti.leaves with
    | [l] => l.zero
    | _ => .tuple #[]

def descView : TypeDesc → Kind
  | .bool => .leaf .bool 0
  | .int k => .leaf (.int k) 0
  | .string => .leaf .str 0
  | .pointer e => .leaf .ptr e
  | .slice e => .leaf .slice e
  | .map _ _ => .leaf .map 0
  | .interface _ => .leaf .iface 0
  | .func _ _ _ => .leaf .func 0
  | .struct fs => .struct (fs.toList.map fun f => (f.offset, f.type))
  | .array n e => .array n e
  | .tuple ts => .tuple ts.toList
  | _ => .other

/-- What the table says of a type is so. -/
def TyOK (P : Program) (t : Nat) (ti : TI) : Prop :=
  (P.underlying t).map descView = some ti.kind ∧
  match ti.kind with
  | .tuple _ | .other => True
  | .leaf l _ => ti.leaves = [l] ∧ (P.info? t).map (fun i => (i.zero, i.size, i.bytes)) = some (some ti.zero, ti.leaves.length, ti.bytes)
  | _ => (P.info? t).map (fun i => (i.zero, i.size, i.bytes)) = some (some ti.zero, ti.leaves.length, ti.bytes)

def TabOK (P : Program) : Tab → Prop
  | [] => True
  | (t, ti) :: r => TyOK P t ti ∧ TabOK P r

theorem TabOK.get {P : Program} : ∀ {tab : Tab} {t : Nat} {ti : TI}, TabOK P tab → tab.get t = some ti → TyOK P t ti
  | [], _, _, _, h => by simp [Tab.get] at h
  | (t', ti') :: r, t, ti, hok, h => by
    unfold Tab.get at h
    cases hb : Nat.beq t' t with
    | true =>
      rw [hb] at h
      simp at h
      have := Nat.eq_of_beq_eq_true hb
      subst this; subst h
      exact hok.1
    | false =>
      rw [hb] at h
      exact TabOK.get hok.2 (by simpa using h)

/-! ### 2. Values of a leaf, of many -/
def exLeaf : Leaf → (Value → Prop) → Prop
  | .bool, K => ∃ b : Bool, K (.bool b)
  | .int k, K => ∃ n : Int, K (.int k n)
  | .str, K => ∃ s : ByteArray, K (.string s)
  | .ptr, K => ∃ p : Option Addr, K (.pointer p)
  | .slice, K => ∃ (p : Option Addr) (n c : Nat), K (.slice p n c)
  | .map, K => ∃ r : Option Nat, K (.map r)
  | .iface, K => ∃ v : Value, K v
  | .func, K => ∃ v : Value, K v

theorem exLeaf.get {l : Leaf} {K : Value → Prop} (h : exLeaf l K) : ∃ v, K v := by
  cases l
  case slice => obtain ⟨p, n, c, h⟩ := h; exact ⟨_, h⟩
  all_goals (obtain ⟨x, h⟩ := h; exact ⟨_, h⟩)

def exLeaves : List Leaf → (List Value → Prop) → Prop
  | [], K => K []
  | l :: ls, K => exLeaf l fun v => exLeaves ls fun vs => K (v :: vs)

theorem exLeaves.get : ∀ {ls : List Leaf} {K : List Value → Prop}, exLeaves ls K → ∃ vs, vs.length = ls.length ∧ K vs
  | [], _, h => ⟨[], rfl, h⟩
  | l :: ls, K, h => by
    obtain ⟨v, h⟩ := exLeaf.get h
    obtain ⟨vs, hl, h⟩ := exLeaves.get h
    exact ⟨v :: vs, by simp [hl], h⟩

def cellsAt (w : World) (a : Addr) : Nat → List Value → Prop
  | _, [] => True
  | i, v :: vs => w.cell? (a.add i) = some v ∧ cellsAt w a (i + 1) vs

/-! ### 3. The frame: what is known of it -/
abbrev Fr := List (Nat × Value)

def Fr.get : Fr → Nat → Option Value
  | [], _ => none
  | (i, v) :: r, t => bif Nat.beq i t then some v else Fr.get r t

def ev (fr : Fr) : Operand → Option Value
  | .tmp t => fr.get t
  | .const v => some v
  | .global g => some (.pointer (some ⟨g, 0, none⟩))
  | .func f => some (.func (.func f) #[] #[])

/-- The frame is n slots, and what is told of it is so. -/
structure Rel (n : Nat) (fr : Fr) (a : Act) : Prop where
  size : a.tmps.size = n
  defers : a.defers = []
  known : ∀ t v, fr.get t = some v → a.tmps[t]? = some v

theorem Rel.eval {n : Nat} {fr : Fr} {a : Act} (h : Rel n fr a) {x : Operand} {v : Value} (hx : ev fr x = some v) : a.eval x = v := by
  cases x with
  | tmp t =>
    have := h.known t v hx
    simp [Act.eval, this]
  | const u => simpa [ev, Act.eval] using hx
  | global g => simpa [ev, Act.eval] using hx
  | func f => simpa [ev, Act.eval] using hx

/-- A slot is written: no slot at all, or one of the n. -/
def putOK (n : Nat) : Option Nat → Bool
  | none => true
  | some d => Nat.ble (d + 1) n

def Fr.put (fr : Fr) : Option Nat → Value → Fr
  | none, _ => fr
  | some d, v => (d, v) :: fr

theorem Rel.put {n : Nat} {fr : Fr} {a : Act} (h : Rel n fr a) {d : Option Nat} (hd : putOK n d = true) (v : Value) : Rel n (fr.put d v) (a.put d v) := by
  cases d with
  | none => exact h
  | some d =>
    have hlt : d < n := Nat.le_of_ble_eq_true hd
    refine ⟨by simp [Act.put, h.size], h.defers, fun t u ht => ?_⟩
    simp only [Fr.put, Fr.get] at ht
    cases hb : Nat.beq d t with
    | true =>
      have := Nat.eq_of_beq_eq_true hb
      subst this
      rw [hb] at ht
      simp at ht
      subst ht
      simp [Act.put, h.size, hlt]
    | false =>
      rw [hb] at ht
      have hne : d ≠ t := fun e => by subst e; simp at hb
      simp only [cond_false] at ht
      have := h.known t u ht
      simp [Act.put, Array.getElem?_setIfInBounds_ne hne, this]

/-- The same of a slot that already holds this. -/
theorem Rel.learn {n : Nat} {fr : Fr} {a : Act} (h : Rel n fr a) {d : Nat} {v : Value} (hd : fr.get d = some v) : Rel n ((d, v) :: fr) a := by
  refine ⟨h.size, h.defers, fun t u ht => ?_⟩
  simp only [Fr.get] at ht
  cases hb : Nat.beq d t with
  | true =>
    have := Nat.eq_of_beq_eq_true hb
    subst this
    rw [hb] at ht
    simp at ht
    subst ht
    exact h.known _ _ hd
  | false =>
    rw [hb] at ht
    exact h.known t u (by simpa using ht)

/-- Less is told. -/
def Fr.pick (fr : Fr) : List Nat → Fr
  | [] => []
  | t :: ts => match fr.get t with
    | some v => (t, v) :: Fr.pick fr ts
    | none => Fr.pick fr ts

/-! ### 4. What an operation yields -/
def CallsR (P : Program) (f : FuncId) (args : Array Value) (w : World) (K : Value → World → Prop) : Prop :=
  Calls P f args w fun e w' => ∃ v, e = .returned v ∧ K v w'

def Yield (P : Program) (s : Sem Next) (w : World) (K : Value → World → Prop) : Prop :=
  match s.run P w with
  | .ok (.value v) w' => K v w'
  | .ok .skip w' => K undef w'
  | .ok (.enter f args) w' => CallsR P f args w' K
  | _ => False

theorem Yield.mono {P : Program} {s : Sem Next} {w : World} {K K' : Value → World → Prop} (h : Yield P s w K) (hk : ∀ v w', K v w' → K' v w') : Yield P s w K' := by
  unfold Yield at *
  split at h
  · rename_i e; exact hk _ _ h
  · rename_i e; exact hk _ _ h
  · rename_i e
    exact Calls.mono h fun e w' ⟨v, he, hv⟩ => ⟨v, he, hk _ _ hv⟩
  · exact h.elim

/-- What an operation yields goes into its slot. -/
theorem Oper.wp_of_yield {P : Program} {o : Oper} {a : Act} {w : World} {next : Act → World → Prop} {Q : Exit → Act → World → Prop}
    (h : Yield P (execOp a.eval o) w fun v w' => next (a.put o.dst v) w') : o.wp P a w next Q := by
  unfold Yield at h
  unfold Oper.wp
  generalize (execOp a.eval o).run P w = r at *
  cases r with
  | ok n w' =>
    cases n <;> simp only [Oper.upon] at h ⊢ <;> first | exact h | exact h.elim | skip
    exact Calls.mono h fun e w'' ⟨v, he, hv⟩ => by subst he; exact hv
  | halt x w' => exact h.elim

/-- A call of a function: one with a body is entered, one without is the model's own. -/
def CallsV (P : Program) (f : FuncId) (args : Array Value) (w : World) (K : Value → World → Prop) : Prop := Yield P (callFunc f args) w K
/-- A call of a method of an interface value. -/
def CallsM (P : Program) (recv : Value) (name : String) (args : Array Value) (w : World) (K : Value → World → Prop) : Prop := Yield P (callMethod recv name args) w K

theorem CallsV.mono {P : Program} {f : FuncId} {args : Array Value} {w : World} {K K' : Value → World → Prop} (h : CallsV P f args w K) (hk : ∀ v w', K v w' → K' v w') : CallsV P f args w K' := Yield.mono h hk

theorem CallsV.of_body {P : Program} {f : FuncId} {fn : Func} {args : Array Value} {w : World} {K : Value → World → Prop} (hf : P.funcs[f]? = some fn) (hn : (fn.name == "runtime.NumGoroutine") = false) (hb : fn.body.isNone = false)
    (h : CallsR P f args w K) : CallsV P f args w K := by
  unfold CallsV Yield callFunc
  simp only [Sem.run_bind, run_program, Result.andThen_ok, hf, hn, hb, Bool.false_eq_true, ↓reduceIte, Sem.run_pure]
  exact h

def bt (s : ByteArray) (i : Int) : Int := if h : i.toNat < s.size then ((s[i.toNat]'h).toNat : Int) else 0
def sEq (x y : ByteArray) : Bool := x.toList == y.toList
def sLt (x y : ByteArray) : Bool := Op.bytesLess x.toList y.toList

def CanSt (w : World) (a : Addr) : Prop := (∃ u, w.cell? a = some u) ∧ w.frozen? a = false
def New (w : World) (o : Obj) (b : Nat) (w' : World) : Prop := b = w.heap.size ∧ w' = w.alloc o

/-- A branch; where the Bool is known it is that branch. -/
def ifB (b : Bool) (X Y : Prop) : Prop := match b with
  | true => X
  | false => Y
theorem ifB_iff {b : Bool} {X Y : Prop} : ifB b X Y ↔ (b = true → X) ∧ (b = false → Y) := by cases b <;> simp [ifB]
theorem ifB_mk {b : Bool} {X Y : Prop} (h1 : b = true → X) (h2 : b = false → Y) : ifB b X Y := by cases b; exact h2 rfl; exact h1 rfl

def leafFits : Leaf → Value → Bool
  | .bool, .bool _ => true
  | .int _, .int _ _ => true
  | .str, .string _ => true
  | .ptr, .pointer _ => true
  | .slice, .slice _ _ _ => true
  | .map, .map _ => true
  | _, _ => false

theorem leafFits.one {l : Leaf} {v : Value} (h : leafFits l v = true) : v.oneCell' = true := by
  cases l <;> cases v <;> simp_all [leafFits, Value.oneCell']

def stoChk : List Leaf → List Value → Prop → Prop
  | [], [], X => X
  | l :: ls, v :: vs, X => match l with
    | .iface => v.oneCell' = true ∧ stoChk ls vs X
    | .func => v.oneCell' = true ∧ stoChk ls vs X
    | l' => bif leafFits l' v then stoChk ls vs X else False
  | _, _, _ => False

theorem stoChk.get : ∀ {ls : List Leaf} {vs : List Value} {X : Prop}, stoChk ls vs X → ls.length = vs.length ∧ (∀ v ∈ vs, v.oneCell' = true) ∧ X
  | [], [], _, h => ⟨rfl, by simp, h⟩
  | [], _ :: _, _, h => h.elim
  | _ :: _, [], _, h => h.elim
  | l :: ls, v :: vs, X, h => by
    have key : v.oneCell' = true ∧ stoChk ls vs X := by
      unfold stoChk at h
      split at h
      · exact h
      · exact h
      · rename_i l' _ _
        cases hf : leafFits l v with
        | true => rw [hf] at h; exact ⟨leafFits.one hf, by simpa using h⟩
        | false => rw [hf] at h; exact (by simpa using h : False).elim
    obtain ⟨h1, h2, h3⟩ := stoChk.get key.2
    exact ⟨by simp [h1], by simpa using ⟨key.1, h2⟩, h3⟩

def stoL : List Value → Nat → World → Addr → (World → Prop) → Prop
  | [], _, w, _, K => K w
  | v :: vs, i, w, a, K => CanSt w (a.add i) ∧ ∀ w', w' = w.setCell (a.add i) v → stoL vs (i + 1) w' a K

/-! ### the operations, each by itself -/
def vLoad (tab : Tab) (t : Nat) (ad : Value) (w : World) (K : Value → World → Prop) : Prop :=
  match ad with
  | .pointer (some a) => match tab.get t with
    | some ti => match ti.kind with
      | .leaf l _ => exLeaf l fun v => w.cell? a = some v ∧ K v w
      | .struct _ => exLeaves ti.leaves fun vs => cellsAt w a 0 vs ∧ K (.agg vs.toArray) w
      | .array _ _ => exLeaves ti.leaves fun vs => cellsAt w a 0 vs ∧ K (.agg vs.toArray) w
      | _ => False
    | none => False
  | _ => False

def vStore (tab : Tab) (t : Nat) (ad v : Value) (w : World) (K : Value → World → Prop) : Prop :=
  match ad with
  | .pointer (some a) => match tab.get t with
    | some ti => match ti.kind with
      | .leaf l _ => stoChk [l] [v] (CanSt w a ∧ ∀ w', w' = w.setCell a v → K undef w')
      | .struct _ => match v with
        | .agg cs => stoChk ti.leaves cs.toList (stoL cs.toList 0 w a (K undef))
        | _ => False
      | .array _ _ => match v with
        | .agg cs => stoChk ti.leaves cs.toList (stoL cs.toList 0 w a (K undef))
        | _ => False
      | _ => False
    | none => False
  | _ => False

def vBox (tab : Tab) (t : Nat) (v : Value) (w : World) (K : Value → World → Prop) : Prop :=
  match v with
  | .agg cs => ∀ b w', New w (.cells cs t) b w' → K (.pointer (some ⟨b, 0, none⟩)) w'
  | .tuple _ => False
  | v => ∀ b w', New w (.cells #[v] t) b w' → K (.pointer (some ⟨b, 0, none⟩)) w'

def vAlloc (tab : Tab) (t : Nat) (w : World) (K : Value → World → Prop) : Prop :=
  match tab.get t with
  | some ti => match ti.kind with
    | .leaf l _ => ∀ b w', New w (.cells #[l.zero] t) b w' → K (.pointer (some ⟨b, 0, none⟩)) w'
    | .struct _ => ∀ b w', New w (.cells (ti.leaves.map Leaf.zero).toArray t) b w' → K (.pointer (some ⟨b, 0, none⟩)) w'
    | .array _ _ => ∀ b w', New w (.cells (ti.leaves.map Leaf.zero).toArray t) b w' → K (.pointer (some ⟨b, 0, none⟩)) w'
    | _ => False
  | none => False

/-- A part's cells laid over a list of cells. -/
def over : Nat → List Value → List Value → List Value
  | 0, [], l => l
  | 0, v :: vs, _ :: r => v :: over 0 vs r
  | 0, _ :: _, [] => []
  | n + 1, vs, x :: r => x :: over n vs r
  | _ + 1, _, [] => []

def cellsOf : Value → List Value
  | .agg cs => cs.toList
  | v => [v]

def fillL (place : Nat → Option (Nat × Nat)) : List (Nat × Value) → List Value → Option (List Value)
  | [], cells => some cells
  | (i, v) :: rest, cells => match place i with
    | none => none
    | some (off, size) =>
      bif Nat.beq (cellsOf v).length size && Nat.ble (off + (cellsOf v).length) cells.length then fillL place rest (over off (cellsOf v) cells) else none

def Tab.size (tab : Tab) (t : Nat) : Option Nat := match tab.get t with
  | some ti => match ti.kind with
    | .tuple _ => none
    | .other => none
    | _ => some ti.leaves.length
  | none => none

def fieldPlaces (tab : Tab) : List (Nat × Nat) → Nat → Option (Nat × Nat)
  | [], _ => none
  | (off, t) :: _, 0 => match tab.size t with
    | some s => some (off, s)
    | none => none
  | _ :: r, i + 1 => fieldPlaces tab r i

def evParts (fr : Fr) : List (Nat × Operand) → Option (List (Nat × Value))
  | [] => some []
  | (i, x) :: r => match ev fr x with
    | some v => match evParts fr r with
      | some vs => some ((i, v) :: vs)
      | none => none
    | none => none

def evAll (fr : Fr) : List Operand → Option (List Value)
  | [] => some []
  | x :: r => match ev fr x with
    | some v => match evAll fr r with
      | some vs => some (v :: vs)
      | none => none
    | none => none

def sized (tab : Tab) : List (Nat × Nat) → Bool
  | [] => true
  | (_, t) :: r => match tab.size t with
    | some _ => sized tab r
    | none => false

def vBuild (tab : Tab) (t : Nat) (parts : List (Nat × Value)) (w : World) (K : Value → World → Prop) : Prop :=
  match tab.get t with
  | some ti => match ti.kind with
    | .struct fs => bif sized tab fs then (match fillL (fieldPlaces tab fs) parts (ti.leaves.map Leaf.zero) with
      | some cells => K (.agg cells.toArray) w
      | none => False) else False
    | .array _ e => match tab.size e with
      | some s => match fillL (fun i => some (i * s, s)) parts (ti.leaves.map Leaf.zero) with
        | some cells => K (.agg cells.toArray) w
        | none => False
      | none => False
    | _ => False
  | none => False

def rep {α : Type} : Nat → List α → List α
  | 0, _ => []
  | n + 1, l => l ++ rep n l

def vBuildSlice (tab : Tab) (t : Nat) (len : Nat) (parts : List (Nat × Value)) (w : World) (K : Value → World → Prop) : Prop :=
  match tab.get t with
  | some ti => match ti.kind with
    | .leaf .slice e => match tab.get e with
      | some te => match te.kind with
        | .tuple _ => False
        | .other => False
        | _ => bif Nat.ble (len * te.leaves.length) 16777216 && Nat.ble 1 te.leaves.length then (match fillL (fun i => some (i * te.leaves.length, te.leaves.length)) parts (rep len (te.leaves.map Leaf.zero)) with
          | some cells => ∀ b w', New w (.cells cells.toArray e) b w' → K (.slice (some ⟨b, 0, none⟩) len len) w'
          | none => False) else False
      | none => False
    | _ => False
  | none => False

def ikEq : IntKind → IntKind → Bool
  | .i8, .i8 => true
  | .i16, .i16 => true
  | .i32, .i32 => true
  | .i64, .i64 => true
  | .u8, .u8 => true
  | .u16, .u16 => true
  | .u32, .u32 => true
  | .u64, .u64 => true
  | _, _ => false
theorem ikEq_eq {a b : IntKind} (h : ikEq a b = true) : a = b := by cases a <;> cases b <;> first | rfl | exact Bool.noConfusion h

def vInt (op : BinOp) (k : IntKind) (a b : Int) (w : World) (K : Value → World → Prop) : Prop :=
  match op with
  | .add => K (.int k (k.wrap (a + b))) w
  | .sub => K (.int k (k.wrap (a - b))) w
  | .mul => K (.int k (k.wrap (a * b))) w
  | .quo => b ≠ 0 ∧ K (.int k (k.wrap (a.tdiv b))) w
  | .rem => b ≠ 0 ∧ K (.int k (a.tmod b)) w
  | .and => K (.int k (bits .and k a b)) w
  | .or => K (.int k (bits .or k a b)) w
  | .xor => K (.int k (bits .xor k a b)) w
  | .andNot => K (.int k (bits .andNot k a b)) w
  | .eql => K (.bool (a == b)) w
  | .neq => K (.bool (a != b)) w
  | .lss => K (.bool (decide (a < b))) w
  | .leq => K (.bool (decide (a ≤ b))) w
  | .gtr => K (.bool (decide (b < a))) w
  | .geq => K (.bool (decide (b ≤ a))) w
  | _ => False

def vStr (op : BinOp) (a b : ByteArray) (w : World) (K : Value → World → Prop) : Prop :=
  match op with
  | .add => a.size + b.size ≤ 9223372036854775807 ∧ K (.string (a ++ b)) w
  | .eql => K (.bool (sEq a b)) w
  | .neq => K (.bool (!sEq a b)) w
  | .lss => K (.bool (sLt a b)) w
  | .leq => K (.bool (sLt a b || sEq a b)) w
  | .gtr => K (.bool (!(sLt a b || sEq a b))) w
  | .geq => K (.bool (!sLt a b)) w
  | _ => False

/-- Two rows of cells of a flat struct. -/
def eqCells : List Leaf → List Value → List Value → Option Bool
  | [], [], [] => some true
  | .bool :: ls, .bool a :: xs, .bool b :: ys => match eqCells ls xs ys with
    | some r => some ((a == b) && r)
    | none => none
  | .int _ :: ls, .int k a :: xs, .int k' b :: ys => match eqCells ls xs ys with
    | some r => bif ikEq k k' then some ((a == b) && r) else none
    | none => none
  | .str :: ls, .string a :: xs, .string b :: ys => match eqCells ls xs ys with
    | some r => some (sEq a b && r)
    | none => none
  | _, _, _ => none

def vEq (eqs : List Nat) (tab : Tab) (t : Nat) (x y : Value) (w : World) (K : Bool → World → Prop) : Prop :=
  match x, y with
  | .bool a, .bool b => match tab.get t with
    | some ti => match ti.kind with
      | .leaf .bool _ => K (a == b) w
      | _ => False
    | none => False
  | .pointer a, .pointer none => match tab.get t with
    | some ti => match ti.kind with
      | .leaf .ptr _ => K a.isNone w
      | _ => False
    | none => False
  | .slice a _ _, .slice none _ _ => match tab.get t with
    | some ti => match ti.kind with
      | .leaf .slice _ => K a.isNone w
      | _ => False
    | none => False
  | .agg xs, .agg ys => match tab.get t with
    | some ti => match ti.kind with
      | .struct _ => bif eqs.elem t then (match eqCells ti.leaves xs.toList ys.toList with
        | some r => K r w
        | none => False) else False
      | _ => False
    | none => False
  | _, _ => False

def vBin (eqs : List Nat) (tab : Tab) (op : BinOp) (t : Nat) (x y : Value) (w : World) (K : Value → World → Prop) : Prop :=
  match x, y with
  | .int k a, .int k' b => match op with
    | .shl => 0 ≤ b ∧ K (.int k (k.wrap (a * 2 ^ (min b.toNat k.bits)))) w
    | .shr => 0 ≤ b ∧ K (.int k (a.fdiv (2 ^ (min b.toNat k.bits)))) w
    | op => bif ikEq k k' then vInt op k a b w K else False
  | .string a, .string b => vStr op a b w K
  | x, y => match op with
    | .eql => vEq eqs tab t x y w fun r w' => K (.bool r) w'
    | .neq => vEq eqs tab t x y w fun r w' => K (.bool (!r)) w'
    | _ => False

def vUn (op : UnOp) (x : Value) (w : World) (K : Value → World → Prop) : Prop :=
  match op, x with
  | .not, .bool b => K (.bool (!b)) w
  | .neg, .int k n => K (.int k (k.wrap (0 - n))) w
  | _, _ => False

def bnd (x : Option Value) (y dflt : Nat) (k : Nat → Prop) : Prop :=
  match x with
  | none => k dflt
  | some (.int _ i) => 0 ≤ i ∧ i ≤ y ∧ k i.toNat
  | _ => False

/-- Where a slice of a slice begins. -/
def cutAt (p : Option Addr) (l m size : Nat) : Option Addr := if m = l then p else p.map (·.add (l * size))
def cutAt1 (a : Addr) (l m size : Nat) : Addr := if m = l then a else a.add (l * size)

def vSlice (tab : Tab) (t : Nat) (x : Value) (lo hi mx : Option Value) (w : World) (K : Value → World → Prop) : Prop :=
  match tab.get t with
  | some ti => match ti.kind with
    | .leaf .slice e => match x with
      | .slice p n c => match tab.size e with
        | some s => match mx with
          | none => bnd hi c n fun h => bnd lo h 0 fun l => K (.slice (cutAt p l c s) (h - l) (c - l)) w
          | some _ => match hi with
            | some _ => bnd mx c c fun m => bnd hi m n fun h => bnd lo h 0 fun l => K (.slice (cutAt p l m s) (h - l) (m - l)) w
            | none => False
        | none => False
      | _ => False
    | .leaf .str _ => match x with
      | .string s => match mx with
        | none => bnd hi s.size s.size fun h => bnd lo h 0 fun l => K (.string (s.extract l h)) w
        | some _ => False
      | _ => False
    | .array n e => match x with
      | .pointer (some a) => match tab.size e with
        | some s => match mx with
          | none => bnd hi n n fun h => bnd lo h 0 fun l => K (.slice (some (cutAt1 a l n s)) (h - l) (n - l)) w
          | some _ => False
        | none => False
      | _ => False
    | _ => False
  | none => False

def nth {α : Type} : List α → Nat → Option α
  | [], _ => none
  | x :: _, 0 => some x
  | _ :: r, i + 1 => nth r i

def takeL {α : Type} : Nat → List α → List α
  | 0, _ => []
  | _ + 1, [] => []
  | n + 1, x :: r => x :: takeL n r
def dropL {α : Type} : Nat → List α → List α
  | 0, l => l
  | _ + 1, [] => []
  | n + 1, _ :: r => dropL n r

def vFieldAddr (tab : Tab) (t : Nat) (x : Value) (i : Nat) (w : World) (K : Value → World → Prop) : Prop :=
  match tab.get t with
  | some ti => match ti.kind with
    | .struct fs => match nth fs i with
      | some (off, ft) => match tab.size ft with
        | some s => match x with
          | .pointer (some a) => bif Nat.ble 1 s then K (.pointer (some (a.add off))) w else False
          | _ => False
        | none => False
      | none => False
    | _ => False
  | none => False

def vPart (tab : Tab) (t : Nat) (cs : List Value) (off : Nat) (w : World) (K : Value → World → Prop) : Prop :=
  match tab.get t with
  | some ti => match ti.kind with
    | .struct _ => K (.agg (takeL ti.leaves.length (dropL off cs)).toArray) w
    | .array _ _ => K (.agg (takeL ti.leaves.length (dropL off cs)).toArray) w
    | .leaf _ _ => match nth cs off with
      | some v => K v w
      | none => False
    | _ => False
  | none => False

def vField (tab : Tab) (t : Nat) (x : Value) (i : Nat) (w : World) (K : Value → World → Prop) : Prop :=
  match tab.get t with
  | some ti => match ti.kind with
    | .struct fs => match nth fs i with
      | some (off, ft) => match x with
        | .agg cs => vPart tab ft cs.toList off w K
        | _ => False
      | none => False
    | _ => False
  | none => False

def vIndexAddr (tab : Tab) (t : Nat) (x ix : Value) (w : World) (K : Value → World → Prop) : Prop :=
  match ix with
  | .int _ i => match tab.get t with
    | some ti => match ti.kind with
      | .leaf .slice e => match x with
        | .slice p n _ => match tab.size e with
          | some s => ∃ a, p = some a ∧ 0 ≤ i ∧ i < n ∧ K (.pointer (some (a.add (i.toNat * s)))) w
          | none => False
        | _ => False
      | .array n e => match x with
        | .pointer (some a) => match tab.size e with
          | some s => 0 ≤ i ∧ i < n ∧ K (.pointer (some (a.add (i.toNat * s)))) w
          | none => False
        | _ => False
      | _ => False
    | none => False
  | _ => False

def vIndex (tab : Tab) (t : Nat) (x ix : Value) (w : World) (K : Value → World → Prop) : Prop :=
  match ix with
  | .int _ i => match tab.get t with
    | some ti => match ti.kind with
      | .leaf .str _ => match x with
        | .string s => 0 ≤ i ∧ i < s.size ∧ K (.int .u8 (bt s i)) w
        | _ => False
      | _ => False
    | none => False
  | _ => False

/-- A value of a type, as a call leaves it. -/
def exVals (tab : Tab) : List Nat → (List Value → Prop) → Prop
  | [], K => K []
  | t :: ts, K => match tab.get t with
    | some ti => match ti.kind with
      | .leaf l _ => exLeaf l fun v => exVals tab ts fun vs => K (v :: vs)
      | .struct _ => exLeaves ti.leaves fun us => exVals tab ts fun vs => K (.agg us.toArray :: vs)
      | .array _ _ => exLeaves ti.leaves fun us => exVals tab ts fun vs => K (.agg us.toArray :: vs)
      | _ => False
    | none => False

def exVal (tab : Tab) (t : Nat) (K : Value → Prop) : Prop :=
  match tab.get t with
  | some ti => match ti.kind with
    | .leaf l _ => exLeaf l K
    | .struct _ => exLeaves ti.leaves fun us => K (.agg us.toArray)
    | .array _ _ => exLeaves ti.leaves fun us => K (.agg us.toArray)
    | .tuple ts => exVals tab ts fun vs => K (.tuple vs.toArray)
    | .other => False
  | none => False

theorem exVals.get {tab : Tab} : ∀ {ts : List Nat} {K : List Value → Prop}, exVals tab ts K → ∃ vs, K vs
  | [], _, h => ⟨[], h⟩
  | t :: ts, K, h => by
    unfold exVals at h
    split at h
    · split at h
      · obtain ⟨v, h⟩ := exLeaf.get h
        obtain ⟨vs, h⟩ := exVals.get h
        exact ⟨_, h⟩
      · obtain ⟨v, _, h⟩ := exLeaves.get h
        obtain ⟨vs, h⟩ := exVals.get h
        exact ⟨_, h⟩
      · obtain ⟨v, _, h⟩ := exLeaves.get h
        obtain ⟨vs, h⟩ := exVals.get h
        exact ⟨_, h⟩
      · exact h.elim
    · exact h.elim

theorem exVal.get {tab : Tab} {t : Nat} {K : Value → Prop} (h : exVal tab t K) : ∃ v, K v := by
  unfold exVal at h
  split at h
  · split at h
    · exact exLeaf.get h
    · obtain ⟨_, _, h⟩ := exLeaves.get h; exact ⟨_, h⟩
    · obtain ⟨_, _, h⟩ := exLeaves.get h; exact ⟨_, h⟩
    · obtain ⟨_, h⟩ := exVals.get h; exact ⟨_, h⟩
    · exact h.elim
  · exact h.elim

/-- The operations that are told by their own name alone. -/
def BuiltV (P : Program) (b : Builtin) (ats : Array Nat) (t : Nat) (args : Array Value) (w : World) (K : Value → World → Prop) : Prop :=
  Yield P (builtin b ats t #[] args) w K
def ConvV (P : Program) (src dst : Nat) (x : Value) (w : World) (K : Value → World → Prop) : Prop :=
  Yield P (do pure (.value (← convert src dst x))) w K
def MakeV (P : Program) (t : Nat) (l c : Value) (w : World) (K : Value → World → Prop) : Prop :=
  Yield P (do pure (.value (← Instr.makeSlice t l c))) w K

def typed (tab : Tab) (t : Nat) (K : Value → World → Prop) : Value → World → Prop := fun v w' => exVal tab t fun u => v = u ∧ K u w'
theorem typed.out {tab : Tab} {t : Nat} {K : Value → World → Prop} {v : Value} {w : World} (h : typed tab t K v w) : K v w := by
  obtain ⟨u, hv, hk⟩ := exVal.get h
  exact hv ▸ hk

def mm2 (mx : Bool) (x y : Int) : Int := bif mx then (if x < y then y else x) else (if y < x then y else x)

def vLen (tab : Tab) (t : Nat) (x : Value) (w : World) (K : Value → World → Prop) : Prop :=
  match tab.get t with
  | some ti => match ti.kind with
    | .leaf .str _ => match x with
      | .string s => K (.int .i64 (s.size : Nat)) w
      | _ => False
    | .leaf .slice _ => match x with
      | .slice _ n _ => K (.int .i64 (n : Nat)) w
      | _ => False
    | .array n _ => K (.int .i64 (n : Nat)) w
    | _ => False
  | none => False

def vCap (tab : Tab) (t : Nat) (x : Value) (w : World) (K : Value → World → Prop) : Prop :=
  match tab.get t with
  | some ti => match ti.kind with
    | .leaf .slice _ => match x with
      | .slice _ _ c => K (.int .i64 (c : Nat)) w
      | _ => False
    | _ => False
  | none => False

def vCall (P : Program) (tab : Tab) (c : Call) (t : Nat) (args : List Value) (f : Option Value) (w : World) (K : Value → World → Prop) : Prop :=
  match c.callee with
  | .builtin .len => match c.argTypes.toList with
    | [ta] => match args with
      | [x] => vLen tab ta x w K
      | _ => False
    | _ => False
  | .builtin .cap => match c.argTypes.toList with
    | [ta] => match args with
      | [x] => vCap tab ta x w K
      | _ => False
    | _ => False
  | .builtin .min => match args with
    | [.int k x, .int _ y] => K (.int k (mm2 false x y)) w
    | _ => False
  | .builtin .max => match args with
    | [.int k x, .int _ y] => K (.int k (mm2 true x y)) w
    | _ => False
  | .builtin .append => BuiltV P .append c.argTypes t args.toArray w (typed tab t K)
  | .builtin .copy => BuiltV P .copy c.argTypes t args.toArray w (typed tab t K)
  | .builtin .clear => BuiltV P .clear c.argTypes t args.toArray w K
  | .builtin .unsafeSliceData => BuiltV P .unsafeSliceData c.argTypes t args.toArray w (typed tab t K)
  | .builtin .unsafeString => BuiltV P .unsafeString c.argTypes t args.toArray w (typed tab t K)
  | .builtin _ => False
  | .value _ => match f with
    | some (.func (.func g) first cap) => CallsV P g (first ++ args.toArray ++ cap) w (typed tab t K)
    | _ => False
  | .invoke _ name => match f with
    | some v => CallsM P v name args.toArray w (typed tab t K)
    | none => False

def Op.vcC (P : Program) (eqs : List Nat) (tab : Tab) (o : Oper) (fr : Fr) (w : World) (K : Value → World → Prop) : Prop :=
  match o.op with
  | .move x => match ev fr x with
    | some v => K v w
    | none => False
  | .assign x => match ev fr x with
    | some v => K v w
    | none => False
  | .pick c a b => match ev fr c with
    | some (.bool t) => match ev fr a with
      | some va => match ev fr b with
        | some vb => ifB t (K va w) (K vb w)
        | none => match t with
          | true => K va w
          | false => False
      | none => False
    | _ => False
  | .alloc e => vAlloc tab e w K
  | .box e x => match ev fr x with
    | some v => vBox tab e v w K
    | none => False
  | .build t ps => match evParts fr ps.toList with
    | some vs => vBuild tab t vs w K
    | none => False
  | .buildSlice t n ps => match evParts fr ps.toList with
    | some vs => vBuildSlice tab t n vs w K
    | none => False
  | .load t x => match ev fr x with
    | some v => vLoad tab t v w K
    | none => False
  | .store t x y => match ev fr x with
    | some a => match ev fr y with
      | some v => vStore tab t a v w K
      | none => False
    | none => False
  | .nilCheck x => match ev fr x with
    | some (.pointer p) => ∃ a, p = some a ∧ K (.pointer (some a)) w
    | some (.func (.func f) a b) => K (.func (.func f) a b) w
    | _ => False
  | .binOp op t x y _ => match ev fr x with
    | some a => match ev fr y with
      | some b => vBin eqs tab op t a b w K
      | none => False
    | none => False
  | .unOp op _ x => match ev fr x with
    | some v => vUn op v w K
    | none => False
  | .convert src dst x => match tab.get dst with
    | some ti => match ti.kind with
      | .leaf (.int k) _ => match ev fr x with
        | some (.int _ n) => match tab.get src with
          | some _ => K (.int k (k.wrap n)) w
          | none => False
        | _ => False
      | _ => match ev fr x with
        | some v => ConvV P src dst v w (typed tab dst K)
        | none => False
    | none => False
  | .makeInterface t x => match ev fr x with
    | some v => match tab.get t with
      | some ti => match ti.kind with
        | .leaf .iface _ => False
        | _ => K (.iface t v) w
      | none => False
    | none => False
  | .makeFunc fn first cap => match evAll fr first.toList with
    | some vs => match evAll fr cap.toList with
      | some us => K (.func fn vs.toArray us.toArray) w
      | none => False
    | none => False
  | .makeSlice t l c => match ev fr l with
    | some vl => match ev fr c with
      | some vc => MakeV P t vl vc w (typed tab t K)
      | none => False
    | none => False
  | .slice t x lo hi mx => match ev fr x with
    | some v => match lo with
      | none => match hi with
        | none => match mx with
          | none => vSlice tab t v none none none w K
          | some _ => False
        | some h => match ev fr h with
          | some vh => match mx with
            | none => vSlice tab t v none (some vh) none w K
            | some m => match ev fr m with
              | some vm => vSlice tab t v none (some vh) (some vm) w K
              | none => False
          | none => False
      | some l => match ev fr l with
        | some vl => match hi with
          | none => match mx with
            | none => vSlice tab t v (some vl) none none w K
            | some _ => False
          | some h => match ev fr h with
            | some vh => match mx with
              | none => vSlice tab t v (some vl) (some vh) none w K
              | some m => match ev fr m with
                | some vm => vSlice tab t v (some vl) (some vh) (some vm) w K
                | none => False
            | none => False
        | none => False
    | none => False
  | .fieldAddr t x i => match ev fr x with
    | some v => vFieldAddr tab t v i w K
    | none => False
  | .field t x i => match ev fr x with
    | some v => vField tab t v i w K
    | none => False
  | .indexAddr t x ix => match ev fr x with
    | some v => match ev fr ix with
      | some i => vIndexAddr tab t v i w K
      | none => False
    | none => False
  | .index t x ix => match ev fr x with
    | some v => match ev fr ix with
      | some i => vIndex tab t v i w K
      | none => False
    | none => False
  | .extract x i => match ev fr x with
    | some (.tuple vs) => match nth vs.toList i with
      | some v => K v w
      | none => False
    | _ => False
  | .call c => match evAll fr c.args.toList with
    | some vs => match c.callee with
      | .value f => vCall P tab c o.type vs (ev fr f) w K
      | .invoke r _ => vCall P tab c o.type vs (ev fr r) w K
      | .builtin _ => vCall P tab c o.type vs none w K
    | none => False
  | _ => False

section facts
variable {P : Program} {tab : Tab} {t : Nat} {ti : TI}

theorem TyOK.desc (h : TyOK P t ti) : ∃ d, P.underlying t = some d ∧ descView d = ti.kind := by
  obtain ⟨d, h1, h2⟩ := Option.map_eq_some_iff.1 h.1
  exact ⟨d, h1, h2⟩
theorem TyOK.slice (h : TyOK P t ti) {e : Nat} (hk : ti.kind = .leaf .slice e) : P.underlying t = some (.slice e) := by
  obtain ⟨d, h1, h2⟩ := h.desc
  rw [hk] at h2
  cases d <;> simp_all [descView]
theorem TyOK.str (h : TyOK P t ti) {e : Nat} (hk : ti.kind = .leaf .str e) : P.underlying t = some .string := by
  obtain ⟨d, h1, h2⟩ := h.desc
  rw [hk] at h2
  cases d <;> simp_all [descView]
theorem TyOK.bool (h : TyOK P t ti) {e : Nat} (hk : ti.kind = .leaf .bool e) : P.underlying t = some .bool := by
  obtain ⟨d, h1, h2⟩ := h.desc
  rw [hk] at h2
  cases d <;> simp_all [descView]
theorem TyOK.ptr (h : TyOK P t ti) {e : Nat} (hk : ti.kind = .leaf .ptr e) : P.underlying t = some (.pointer e) := by
  obtain ⟨d, h1, h2⟩ := h.desc
  rw [hk] at h2
  cases d <;> simp_all [descView]
theorem TyOK.int (h : TyOK P t ti) {k : IntKind} {e : Nat} (hk : ti.kind = .leaf (.int k) e) : P.underlying t = some (.int k) := by
  obtain ⟨d, h1, h2⟩ := h.desc
  rw [hk] at h2
  cases d <;> simp_all [descView]
theorem TyOK.struct (h : TyOK P t ti) {fs : List (Nat × Nat)} (hk : ti.kind = .struct fs) : ∃ fl : Array Field, P.underlying t = some (.struct fl) ∧ fl.toList.map (fun f => (f.offset, f.type)) = fs := by
  obtain ⟨d, h1, h2⟩ := h.desc
  rw [hk] at h2
  cases d <;> simp_all [descView]
theorem TyOK.array (h : TyOK P t ti) {n e : Nat} (hk : ti.kind = .array n e) : P.underlying t = some (.array n e) := by
  obtain ⟨d, h1, h2⟩ := h.desc
  rw [hk] at h2
  cases d <;> simp_all [descView]
theorem TyOK.leafNot (h : TyOK P t ti) {l : Leaf} {e : Nat} (hk : ti.kind = .leaf l e) : ∃ d, P.underlying t = some d ∧ (∀ fs, d ≠ .struct fs) ∧ ∀ n e, d ≠ .array n e := by
  obtain ⟨d, h1, h2⟩ := h.desc
  rw [hk] at h2
  refine ⟨d, h1, ?_, ?_⟩ <;> (intros; intro hd; subst hd; simp [descView] at h2)

def Kind.sizedK : Kind → Bool
  | .tuple _ | .other => false
  | _ => true

theorem TyOK.info (h : TyOK P t ti) (hk : ti.kind.sizedK = true) : ∃ i, P.info? t = some i ∧ i.zero = some ti.zero ∧ i.size = ti.leaves.length ∧ i.bytes = ti.bytes := by
  obtain ⟨_, h2⟩ := h
  revert h2 hk
  cases hkk : ti.kind <;> simp [Kind.sizedK]

theorem TyOK.leaves (h : TyOK P t ti) {l : Leaf} {e : Nat} (hk : ti.kind = .leaf l e) : ti.leaves = [l] := by
  have := h.2
  rw [hk] at this
  exact this.1

theorem TyOK.size (h : TyOK P t ti) (hk : ti.kind.sizedK = true) (w : World) : (sizeOf t).run P w = .ok ti.leaves.length w := by
  obtain ⟨i, hi, _, hs, _⟩ := h.info hk
  simp [sizeOf, typeInfo, hi, hs]
theorem TyOK.zeroV (h : TyOK P t ti) (hk : ti.kind.sizedK = true) (w : World) : (zeroValue t).run P w = .ok ti.zero w := by
  obtain ⟨i, hi, hz, _, _⟩ := h.info hk
  simp [zeroValue, typeInfo, hi, hz]

theorem Tab.size_get {s : Nat} (h : tab.size t = some s) : ∃ ti, tab.get t = some ti ∧ ti.kind.sizedK = true ∧ ti.leaves.length = s := by
  unfold Tab.size at h
  split at h
  · rename_i ti hg
    refine ⟨ti, hg, ?_⟩
    split at h
    · simp at h
    · simp at h
    · rename_i h1 h2
      simp at h
      refine ⟨?_, h⟩
      cases hk : ti.kind <;> simp_all [Kind.sizedK]
  · simp at h
theorem Tab.size_run (hok : TabOK P tab) {s : Nat} (h : tab.size t = some s) (w : World) : (sizeOf t).run P w = .ok s w := by
  obtain ⟨ti, hg, hk, hs⟩ := Tab.size_get h
  rw [← hs]
  exact (hok.get hg).size hk w

theorem isAgg_leaf (h : TyOK P t ti) {l : Leaf} {e : Nat} (hk : ti.kind = .leaf l e) (w : World) : (isAgg t).run P w = .ok false w := by
  obtain ⟨d, h1, h2, h3⟩ := h.leafNot hk
  simp only [isAgg, Sem.run_bind, run_underlying h1, Result.andThen_ok]
  cases d <;> simp_all
theorem isAgg_struct (h : TyOK P t ti) {fs : List (Nat × Nat)} (hk : ti.kind = .struct fs) (w : World) : (isAgg t).run P w = .ok true w := by
  obtain ⟨fl, h1, _⟩ := h.struct hk
  simp [isAgg, run_underlying h1]
theorem isAgg_array (h : TyOK P t ti) {n e : Nat} (hk : ti.kind = .array n e) (w : World) : (isAgg t).run P w = .ok true w := by
  simp [isAgg, run_underlying (h.array hk)]
end facts

section yields
variable {P : Program} {w : World} {K : Value → World → Prop}

theorem yield_v {s : Sem Value} {v : Value} {w' : World} (h : s.run P w = .ok v w') (hk : K v w') : Yield P (do pure (.value (← s))) w K := by
  unfold Yield
  simp only [Sem.run_bind, h, Result.andThen_ok, Sem.run_pure]
  exact hk
theorem yield_u {s : Sem Unit} {w' : World} (h : s.run P w = .ok () w') (hk : K undef w') : Yield P (do s; pure .skip) w K := by
  unfold Yield
  simp only [Sem.run_bind, h, Result.andThen_ok, Sem.run_pure]
  exact hk
theorem yield_p {v : Value} (hk : K v w) : Yield P (pure (.value v)) w K := by
  unfold Yield
  simp only [Sem.run_pure]
  exact hk
end yields

section mem
variable {P : Program}

theorem run_load_some {w : World} {a : Addr} {v : Value} (h : w.cell? a = some v) : (load a).run P w = .ok v w := by
  rw [run_load, h]

theorem run_loadCellsFrom_at {w : World} {a : Addr} : ∀ (vs : List Value) (i : Nat) (acc : Array Value), cellsAt w a i vs →
    (loadCellsFrom a i vs.length acc).run P w = .ok (acc ++ vs.toArray) w
  | [], i, acc, _ => by simp [loadCellsFrom]
  | v :: vs, i, acc, h => by
    simp only [List.length_cons, loadCellsFrom, Sem.run_bind, run_load_some h.1, Result.andThen_ok]
    rw [run_loadCellsFrom_at vs (i + 1) _ h.2]
    simp

theorem run_loadCells_at {w : World} {a : Addr} {vs : List Value} (h : cellsAt w a 0 vs) : (loadCells a vs.length).run P w = .ok vs.toArray w := by
  unfold loadCells
  rw [run_loadCellsFrom_at vs 0 #[] h]
  simp

theorem run_store_can {w : World} {a : Addr} {v : Value} (h : CanSt w a) (h1 : v.oneCell' = true) : (store a v).run P w = .ok () (w.setCell a v) := by
  obtain ⟨⟨u, hu⟩, hf⟩ := h
  rw [run_store P w a v .plain h1, hu]
  simp [hf]

theorem run_storeCells_L {a : Addr} : ∀ (vs : List Value) (i : Nat) (w : World) (K : World → Prop), stoL vs i w a K → (∀ v ∈ vs, v.oneCell' = true) →
    ∃ w', (storeCells a vs i).run P w = .ok () w' ∧ K w'
  | [], i, w, K, h, _ => ⟨w, by simp [storeCells], h⟩
  | v :: vs, i, w, K, h, h1 => by
    obtain ⟨hc, hr⟩ := h
    obtain ⟨w', hrun, hk⟩ := run_storeCells_L vs (i + 1) _ K (hr _ rfl) (fun u hu => h1 u (by simp [hu]))
    refine ⟨w', ?_, hk⟩
    simp only [storeCells, Sem.run_bind, run_store_can hc (h1 v (by simp)), Result.andThen_ok]
    exact hrun

theorem Addr.add_zero'' (a : Addr) : a.add 0 = a := by simp [Addr.add]

theorem vLoad.sound {tab : Tab} {t : Nat} {ad : Value} {w : World} {K : Value → World → Prop} (hok : TabOK P tab) (h : vLoad tab t ad w K) :
    Yield P (do pure (.value (← Instr.loadAt t ad))) w K := by
  unfold vLoad at h
  split at h
  · rename_i a
    split at h
    · rename_i ti hg
      have hT := hok.get hg
      split at h
      · rename_i l e hk
        obtain ⟨v, hc, hK⟩ := exLeaf.get h
        refine yield_v (v := v) (w' := w) ?_ hK
        simp only [Instr.loadAt, Instr.sureAddr, Sem.run_bind, Sem.run_pure, Result.andThen_ok, loadVar, isAgg_leaf hT hk]
        simp [hc]
      all_goals first | exact h.elim | skip
      all_goals
        rename_i hk
        obtain ⟨vs, hl, hc, hK⟩ := exLeaves.get h
        refine yield_v (v := .agg vs.toArray) (w' := w) ?_ hK
        have hA : (isAgg t).run P w = .ok true w := by first | exact isAgg_struct hT hk w | exact isAgg_array hT hk w
        have hS : (sizeOf t).run P w = .ok vs.length w := by rw [hl]; exact hT.size (by rw [hk]; rfl) w
        simp only [Instr.loadAt, Instr.sureAddr, Sem.run_bind, Sem.run_pure, Result.andThen_ok, loadVar, hA, ↓reduceIte, hS, run_loadCells_at hc]
    · exact h.elim
  · exact h.elim

theorem vStore.sound {tab : Tab} {t : Nat} {ad v : Value} {w : World} {K : Value → World → Prop} (hok : TabOK P tab) (h : vStore tab t ad v w K) :
    Yield P (do Instr.storeAt t ad v; pure .skip) w K := by
  unfold vStore at h
  split at h
  · rename_i a
    split at h
    · rename_i ti hg
      have hT := hok.get hg
      split at h
      · rename_i l e hk
        obtain ⟨hl, h1, hc, hK⟩ := stoChk.get h
        have hone : v.oneCell' = true := h1 v (by simp)
        have hcells : v.cells = #[v] := by cases v <;> first | rfl | simp [Value.oneCell'] at hone
        have hsz : ti.leaves.length = 1 := by
          rw [hT.leaves hk]; rfl
        refine yield_u (w' := w.setCell a v) ?_ (hK _ rfl)
        simp only [Instr.storeAt, Instr.sureAddr, Sem.run_bind, Sem.run_pure, Result.andThen_ok, storeVar, hcells, hT.size (by rw [hk]; rfl) w, hsz]
        simp [storeCells, Addr.add_zero'', run_store_can hc hone]
      all_goals first | exact h.elim | skip
      all_goals
        rename_i hk
        split at h
        · rename_i cs
          obtain ⟨hl, h1, hs⟩ := stoChk.get h
          obtain ⟨w', hrun, hK⟩ := run_storeCells_L (P := P) _ _ _ _ hs h1
          refine yield_u (w' := w') ?_ hK
          have hS : (sizeOf t).run P w = .ok cs.toList.length w := by rw [← hl]; exact hT.size (by rw [hk]; rfl) w
          simp only [Instr.storeAt, Instr.sureAddr, Sem.run_bind, Sem.run_pure, Result.andThen_ok, storeVar, Value.cells, hS]
          simp only [Array.length_toList, ne_eq, not_true_eq_false, ↓reduceIte]
          exact hrun
        · exact h.elim
    · exact h.elim
  · exact h.elim
end mem

section
variable {P : Program} {tab : Tab} {t : Nat} {w : World} {K : Value → World → Prop}

theorem vBox.sound {v : Value} (h : vBox tab t v w K) : Yield P (do pure (.value (← Instr.box t v))) w K := by
  have key : ∀ cs : Array Value, v.cells = cs → (∀ b w', New w (.cells cs t) b w' → K (.pointer (some ⟨b, 0, none⟩)) w') → Yield P (do pure (.value (← Instr.box t v))) w K := by
    intro cs hcs h
    refine yield_v (v := .pointer (some ⟨w.heap.size, 0, none⟩)) (w' := w.alloc (.cells cs t)) ?_ (h _ _ ⟨rfl, rfl⟩)
    simp [Instr.box, newVar, newRow, hcs]
  unfold vBox at h
  split at h
  · exact key _ rfl h
  · exact h.elim
  · rename_i h1 h2
    refine key _ ?_ h
    cases v <;> first | rfl | simp_all

theorem vAlloc.sound (hok : TabOK P tab) (h : vAlloc tab t w K) : Yield P (do pure (.value (← Instr.alloc t true (.tuple #[])))) w K := by
  unfold vAlloc at h
  split at h
  · rename_i ti hg
    have hT := hok.get hg
    have key : ∀ cs : Array Value, ti.kind.sizedK = true → ti.zero.cells = cs → (∀ b w', New w (.cells cs t) b w' → K (.pointer (some ⟨b, 0, none⟩)) w') → Yield P (do pure (.value (← Instr.alloc t true (.tuple #[])))) w K := by
      intro cs hk hcs h
      refine yield_v (v := .pointer (some ⟨w.heap.size, 0, none⟩)) (w' := w.alloc (.cells cs t)) ?_ (h _ _ ⟨rfl, rfl⟩)
      simp [Instr.alloc, newVar, newRow, hT.zeroV hk, hcs]
    split at h
    · rename_i l e hk
      refine key _ (by rw [hk]; rfl) ?_ h
      have hl := hT.leaves hk
      simp only [TI.zero, hk, hl]
      cases l <;> rfl
    · rename_i hk
      refine key _ (by rw [hk]; rfl) ?_ h
      simp only [TI.zero, hk, Value.cells]
    · rename_i hk
      refine key _ (by rw [hk]; rfl) ?_ h
      simp only [TI.zero, hk, Value.cells]
    · exact h.elim
  · exact h.elim

/-! ### build -/
theorem cellsOf_eq (v : Value) : v.cells.toList = cellsOf v := by cases v <;> rfl

theorem over_length : ∀ (n : Nat) (vs l : List Value), n + vs.length ≤ l.length → (over n vs l).length = l.length
  | 0, [], l, _ => by simp [over]
  | 0, v :: vs, [], h => by simp at h
  | 0, v :: vs, x :: r, h => by
    simp only [over, List.length_cons] at *
    rw [over_length 0 vs r (by omega)]
  | n + 1, vs, [], h => by simp at h
  | n + 1, vs, x :: r, h => by
    simp only [over, List.length_cons] at *
    rw [over_length n vs r (by omega)]

theorem foldl_set (vs : List Value) : ∀ (l : Array Value) (off j : Nat),
    ((vs.zipIdx j).foldl (fun cs (c, j) => cs.setIfInBounds (off + j) c) l).toList = over (off + j) vs l.toList ∨ l.size < off + j + vs.length := by
  induction vs with
  | nil =>
    intro l off j
    left
    have : ∀ (n : Nat) (l : List Value), over n [] l = l := by
      intro n
      induction n with
      | zero => intro l; cases l <;> rfl
      | succ n ih => intro l; cases l <;> simp [over, ih]
    simp [this]
  | cons v vs ih =>
    intro l off j
    by_cases hlt : l.size < off + j + (v :: vs).length
    · exact .inr hlt
    · left
      simp only [List.zipIdx_cons, List.foldl_cons]
      rcases ih (l.setIfInBounds (off + j) v) off (j + 1) with h | h
      · rw [h]
        have key : ∀ (n : Nat) (l : List Value), n + (v :: vs).length ≤ l.length → over (n + 1) vs (l.set n v) = over n (v :: vs) l := by
          intro n
          induction n with
          | zero => intro l hl; cases l with
            | nil => simp at hl
            | cons x r => simp [over]
          | succ n ih => intro l hl; cases l with
            | nil => simp at hl
            | cons x r =>
              simp only [List.set_cons_succ]
              have := ih r (by simp at hl ⊢; omega)
              simp only [over] at this ⊢
              exact congrArg _ this
        have := key (off + j) l.toList (by simp at hlt ⊢; omega)
        simpa [Nat.add_assoc] using this
      · simp at h hlt; omega

theorem fill_eq {place : Nat → Option (Nat × Nat)} : ∀ (parts : List (Nat × Value)) (l out : List Value), fillL place parts l = some out →
    Instr.fill place l.toArray parts = some out.toArray
  | [], l, out, h => by simp [fillL] at h; simp [Instr.fill, h]
  | (i, v) :: rest, l, out, h => by
    unfold fillL at h
    split at h
    · simp at h
    · rename_i off size hp
      cases hc : (Nat.beq (cellsOf v).length size && Nat.ble (off + (cellsOf v).length) l.length) with
      | false => rw [hc] at h; simp at h
      | true =>
        rw [hc] at h
        simp only [cond_true] at h
        simp only [Bool.and_eq_true] at hc
        have h1 : (cellsOf v).length = size := Nat.eq_of_beq_eq_true hc.1
        have h2 : off + (cellsOf v).length ≤ l.length := Nat.le_of_ble_eq_true hc.2
        have hsz : v.cells.size = (cellsOf v).length := by rw [← cellsOf_eq]; simp
        simp only [Instr.fill, hp]
        rw [if_neg (by simp [hsz, h1]; omega)]
        have := foldl_set (cellsOf v) l.toArray off 0
        simp only [List.size_toArray, Nat.add_zero] at this
        rcases this with h3 | h3
        · rw [← fill_eq rest _ _ h]
          congr 1
          apply Array.ext'
          rw [← h3, ← cellsOf_eq, ← Array.toList_zipIdx, Array.foldl_toList]
        · omega

theorem evParts_map {n : Nat} {fr : Fr} {a : Act} (hr : Rel n fr a) : ∀ (ps : List (Nat × Operand)) (vs : List (Nat × Value)), evParts fr ps = some vs → ps.map (fun (i, x) => (i, a.eval x)) = vs
  | [], vs, h => by simp [evParts] at h; simp [h]
  | (i, x) :: r, vs, h => by
    unfold evParts at h
    split at h
    · rename_i v hv
      split at h
      · rename_i us hu
        simp at h
        subst h
        simp only [List.map_cons, hr.eval hv, evParts_map hr r us hu]
      · simp at h
    · simp at h

theorem evAll_map {n : Nat} {fr : Fr} {a : Act} (hr : Rel n fr a) : ∀ (ps : List Operand) (vs : List Value), evAll fr ps = some vs → ps.map a.eval = vs
  | [], vs, h => by simp [evAll] at h; simp [h]
  | x :: r, vs, h => by
    unfold evAll at h
    split at h
    · rename_i v hv
      split at h
      · rename_i us hu
        simp at h
        subst h
        simp only [List.map_cons, hr.eval hv, evAll_map hr r us hu]
      · simp at h
    · simp at h

theorem fieldPlaces_get : ∀ (fs : List (Nat × Nat)) (i off size : Nat), fieldPlaces tab fs i = some (off, size) → ∃ ft, fs[i]? = some (off, ft) ∧ tab.size ft = some size
  | [], _, _, _, h => by simp [fieldPlaces] at h
  | (o, ft) :: r, 0, off, size, h => by
    unfold fieldPlaces at h
    split at h
    · rename_i s hs
      simp at h
      obtain ⟨rfl, rfl⟩ := h
      exact ⟨ft, rfl, hs⟩
    · simp at h
  | (o, ft) :: r, i + 1, off, size, h => by
    simp only [fieldPlaces] at h
    obtain ⟨ft, h1, h2⟩ := fieldPlaces_get r i off size h
    exact ⟨ft, by simpa using h1, h2⟩

theorem sized_all : ∀ {fs : List (Nat × Nat)}, sized tab fs = true → ∀ f ∈ fs, ∃ s, tab.size f.2 = some s
  | [], _, _, hf => by simp at hf
  | (o, t) :: r, h, f, hf => by
    unfold sized at h
    split at h
    · rename_i s hs
      rcases List.mem_cons.1 hf with rfl | hf
      · exact ⟨s, hs⟩
      · exact sized_all h f hf
    · simp at h

theorem run_places (hok : TabOK P tab) (w : World) : ∀ (fl : List Field), sized tab (fl.map fun f => (f.offset, f.type)) = true →
    ∃ ps : List (Nat × Nat), (fl.mapM (m := Sem) fun f => do pure (f.offset, ← sizeOf f.type)).run P w = .ok ps w ∧
      ∀ i off s, fieldPlaces tab (fl.map fun f => (f.offset, f.type)) i = some (off, s) → ps[i]? = some (off, s)
  | [], _ => ⟨[], by simp, by simp [fieldPlaces]⟩
  | f :: fl, h => by
    obtain ⟨s, hs⟩ := sized_all h (f.offset, f.type) (by simp)
    have hr : sized tab (fl.map fun f => (f.offset, f.type)) = true := by
      simp only [List.map_cons, sized, hs] at h
      exact h
    obtain ⟨ps, hp, hpl⟩ := run_places hok w fl hr
    refine ⟨(f.offset, s) :: ps, ?_, ?_⟩
    · simp only [List.mapM_cons, Sem.run_bind, Tab.size_run hok hs, Result.andThen_ok, Sem.run_pure, hp]
    · intro i off s' hi
      cases i with
      | zero =>
        simp only [List.map_cons, fieldPlaces, hs] at hi
        simpa using hi
      | succ i => simpa using hpl i off s' (by simpa [fieldPlaces] using hi)

theorem fillL_place {p q : Nat → Option (Nat × Nat)} (hpq : ∀ i x, p i = some x → q i = some x) : ∀ (parts : List (Nat × Value)) (l out : List Value), fillL p parts l = some out → fillL q parts l = some out
  | [], _, _, h => h
  | (i, v) :: rest, l, out, h => by
    unfold fillL at h ⊢
    split at h
    · simp at h
    · rename_i off size hp
      rw [hpq _ _ hp]
      simp only
      cases hc : (Nat.beq (cellsOf v).length size && Nat.ble (off + (cellsOf v).length) l.length) with
      | false => rw [hc] at h; simp at h
      | true =>
        rw [hc] at h
        simp only [cond_true] at h ⊢
        exact fillL_place hpq rest _ _ h

theorem vBuild.sound {parts : List (Nat × Value)} (hok : TabOK P tab) (h : vBuild tab t parts w K) : Yield P (do pure (.value (← Instr.build t parts.toArray))) w K := by
  unfold vBuild at h
  split at h
  · rename_i ti hg
    have hT := hok.get hg
    split at h
    · rename_i fs hk
      cases hsz : sized tab fs with
      | false => rw [hsz] at h; simp at h
      | true =>
        rw [hsz] at h
        simp only [cond_true] at h
        split at h
        · rename_i cells hf
          refine yield_v (v := .agg cells.toArray) (w' := w) ?_ h
          obtain ⟨fl, h1, h2⟩ := hT.struct hk
          subst h2
          obtain ⟨ps, hp, hpl⟩ := run_places hok w fl.toList hsz
          have hfl : (fl.mapM (m := Sem) fun f => do pure (f.offset, ← sizeOf f.type)).run P w = .ok ps.toArray w := by
            rw [Array.mapM_eq_mapM_toList]
            simp only [Sem.run_map, hp, Result.andThen_ok]
          have hfill := fill_eq _ _ _ (fillL_place (q := (ps.toArray[·]?)) (fun i x hx => by simpa using hpl i x.1 x.2 hx) _ _ _ hf)
          simp only [Instr.build, Sem.run_bind, hT.zeroV (by rw [hk]; rfl), Result.andThen_ok, run_underlying h1, hfl]
          simp only [TI.zero, hk, Value.cells, hfill, Sem.run_pure]
        · exact h.elim
    · rename_i n e hk
      split at h
      · rename_i s hs
        split at h
        · rename_i cells hf
          refine yield_v (v := .agg cells.toArray) (w' := w) ?_ h
          have hfill := fill_eq _ _ _ hf
          simp only [Instr.build, Sem.run_bind, hT.zeroV (by rw [hk]; rfl), Result.andThen_ok, run_underlying (hT.array hk), Tab.size_run hok hs]
          simp only [TI.zero, hk, Value.cells, hfill, Sem.run_pure]
        · exact h.elim
      · exact h.elim
    · exact h.elim
  · exact h.elim

theorem rep_length {α : Type} (l : List α) : ∀ n, (rep n l).length = n * l.length
  | 0 => by simp [rep]
  | n + 1 => by simp [rep, rep_length l n]; rw [Nat.succ_mul]; omega

theorem rep_get {α : Type} (l : List α) (hl : 0 < l.length) : ∀ (n i : Nat), i < n * l.length → (rep n l)[i]? = l[i % l.length]?
  | 0, i, h => by simp at h
  | n + 1, i, h => by
    simp only [rep]
    by_cases hi : i < l.length
    · rw [List.getElem?_append_left hi, Nat.mod_eq_of_lt hi]
    · rw [List.getElem?_append_right (by omega), rep_get l hl n (i - l.length) (by rw [Nat.succ_mul] at h; omega)]
      congr 1
      conv => rhs; rw [show i = (i - l.length) + l.length by omega, Nat.add_mod_right]

theorem zeros_eq (z : List Value) (hz : 0 < z.length) (n : Nat) : (Array.range (n * z.length)).map (fun i => z.toArray[i % z.toArray.size]!) = (rep n z).toArray := by
  apply Array.ext'
  apply List.ext_getElem?
  intro i
  simp only [Array.toList_map, Array.toList_range, List.getElem?_map]
  by_cases hi : i < n * z.length
  · rw [rep_get z hz n i hi]
    have hm : i % z.length < z.length := Nat.mod_lt _ hz
    simp [List.getElem?_range hi, hm, List.getElem?_eq_getElem hm]
  · rw [List.getElem?_eq_none (by simp; omega), List.getElem?_eq_none (by rw [rep_length]; omega)]
    rfl

theorem TI.zero_cells {ti : TI} (hT : TyOK P t ti) (hk : ti.kind.sizedK = true) : ti.zero.cells = (ti.leaves.map Leaf.zero).toArray := by
  unfold TI.zero
  cases hkk : ti.kind with
  | leaf l e =>
    have hl := hT.leaves hkk
    simp only [hl]
    cases l <;> rfl
  | struct fs => rfl
  | array n e => rfl
  | tuple ts => rw [hkk] at hk; simp [Kind.sizedK] at hk
  | other => rw [hkk] at hk; simp [Kind.sizedK] at hk

theorem vBuildSlice.sound {len : Nat} {parts : List (Nat × Value)} (hok : TabOK P tab) (h : vBuildSlice tab t len parts w K) : Yield P (do pure (.value (← Instr.buildSlice t len parts.toArray))) w K := by
  unfold vBuildSlice at h
  split at h
  · rename_i ti hg
    have hT := hok.get hg
    split at h
    · rename_i e hk
      split at h
      · rename_i te hge
        have hE := hok.get hge
        have key : te.kind.sizedK = true → (bif Nat.ble (len * te.leaves.length) 16777216 && Nat.ble 1 te.leaves.length then (match fillL (fun i => some (i * te.leaves.length, te.leaves.length)) parts (rep len (te.leaves.map Leaf.zero)) with
          | some cells => ∀ b w', New w (.cells cells.toArray e) b w' → K (.slice (some ⟨b, 0, none⟩) len len) w'
          | none => False) else False) → Yield P (do pure (.value (← Instr.buildSlice t len parts.toArray))) w K := by
          intro hsk h
          cases hc : (Nat.ble (len * te.leaves.length) 16777216 && Nat.ble 1 te.leaves.length) with
          | false => rw [hc] at h; simp at h
          | true =>
            rw [hc] at h
            simp only [cond_true] at h
            simp only [Bool.and_eq_true] at hc
            have h1 : len * te.leaves.length ≤ 16777216 := Nat.le_of_ble_eq_true hc.1
            have h2 : 1 ≤ te.leaves.length := Nat.le_of_ble_eq_true hc.2
            split at h
            · rename_i cells hf
              refine yield_v (v := .slice (some ⟨w.heap.size, 0, none⟩) len len) (w' := w.alloc (.cells cells.toArray e)) ?_ (h _ _ ⟨rfl, rfl⟩)
              have hfill := fill_eq _ _ _ hf
              simp only [Instr.buildSlice, Sem.run_bind, run_underlying (hT.slice hk), Result.andThen_ok, hE.size hsk]
              rw [if_neg (by omega)]
              by_cases h0 : len * te.leaves.length = 0
              · have hl0 : len = 0 := by
                  rcases Nat.mul_eq_zero.1 h0 with h | h
                  · exact h
                  · omega
                subst hl0
                rw [if_pos h0]
                simp only [rep] at hfill
                simp [Array.range_zero', hfill, newRow]
              · rw [if_neg h0]
                have hz := zeros_eq (te.leaves.map Leaf.zero) (by simp; omega) len
                simp only [List.length_map] at hz
                simp only [Sem.run_bind, hE.zeroV hsk, TI.zero_cells hE hsk, Result.andThen_ok, Sem.run_pure, hz, hfill]
                simp [newRow]
            · exact h.elim
        split at h
        · exact h.elim
        · exact h.elim
        · rename_i h1 h2
          refine key ?_ h
          cases hkk : te.kind <;> simp_all [Kind.sizedK]
      · exact h.elim
    · exact h.elim
  · exact h.elim
end

def leafDesc : Leaf → TypeDesc
  | .bool => .bool
  | .int k => .int k
  | .str => .string
  | _ => .invalid

def eqFieldsOK (P : Program) : List Field → Nat → List Leaf → Prop
  | [], _, [] => True
  | f :: fs, i, l :: ls => f.name ≠ "_" ∧ f.offset = i ∧ P.underlying f.type = some (leafDesc l) ∧ eqFieldsOK P fs (i + 1) ls
  | _, _, _ => False

/-- A flat struct of bools, whole numbers and strings, that '==' may meet. -/
def EqOK (P : Program) (tab : Tab) (t : Nat) : Prop :=
  P.stoodInHeld t = false ∧ P.eqGuardType P.depth t = false ∧ P.underlying t = some (.struct (P.fieldsOf t)) ∧ ∀ ti, tab.get t = some ti → eqFieldsOK P (P.fieldsOf t).toList 0 ti.leaves

def EqsOK (P : Program) (tab : Tab) (eqs : List Nat) : Prop := ∀ t ∈ eqs, EqOK P tab t

section
variable {P : Program} {tab : Tab} {t : Nat} {w : World}

theorem run_eqFields (d : Nat) : ∀ (fs : List Field) (i : Nat) (ls : List Leaf) (xs ys : List Value) (X Y : Array Value) (r : Bool), eqFieldsOK P fs i ls →
    (∀ j, xs[j]? = X[i + j]?) → (∀ j, ys[j]? = Y[i + j]?) → eqCells ls xs ys = some r → (Op.eqFields (d + 1) X Y fs).run P w = .ok r w
  | [], i, [], xs, ys, X, Y, r, _, _, _, h => by
    cases xs <;> cases ys <;> simp [eqCells] at h
    simp [Op.eqFields, h]
  | [], _, _ :: _, _, _, _, _, _, h, _, _, _ => h.elim
  | _ :: _, _, [], _, _, _, _, _, h, _, _, _ => h.elim
  | f :: fs, i, l :: ls, xs, ys, X, Y, r, hok, hx, hy, h => by
    obtain ⟨hn, ho, ht, hrest⟩ := hok
    have hA : (isAgg f.type).run P w = .ok false w := by
      simp only [isAgg, Sem.run_bind, run_underlying ht, Result.andThen_ok]
      cases l <;> simp [leafDesc]
    have key : ∀ (x y : Value) (xs' ys' : List Value) (b r' : Bool), xs = x :: xs' → ys = y :: ys' → eqCells ls xs' ys' = some r' → r = (b && r') → (Op.equalIn (d + 1) f.type x y).run P w = .ok b w →
        (Op.eqFields (d + 1) X Y (f :: fs)).run P w = .ok r w := by
      intro x y xs' ys' b r' hxs hys hr' hrr heq
      subst hxs hys
      have hX : X[f.offset]? = some x := by have := hx 0; simp at this; rw [ho]; exact this.symm
      have hY : Y[f.offset]? = some y := by have := hy 0; simp at this; rw [ho]; exact this.symm
      have hp : ∀ (C : Array Value) (v : Value), C[f.offset]? = some v → (part f.type C f.offset).run P w = .ok v w := by
        intro C v hC
        simp only [part, Sem.run_bind, hA, Result.andThen_ok, hC]
        simp
      have ih := run_eqFields d fs (i + 1) ls xs' ys' X Y r' hrest (fun j => by have := hx (j + 1); simp at this; rw [this]; congr 1; omega) (fun j => by have := hy (j + 1); simp at this; rw [this]; congr 1; omega) hr'
      simp only [Op.eqFields]
      rw [if_pos hn]
      simp only [Sem.run_bind, hp X x hX, hp Y y hY, Result.andThen_ok, heq]
      cases b
      · simp [hrr]
      · simp [hrr, ih]
    cases l with
    | bool =>
      cases xs with
      | nil => simp [eqCells] at h
      | cons x xs =>
        cases ys with
        | nil => cases x <;> simp [eqCells] at h
        | cons y ys =>
          cases x <;> cases y <;> simp only [eqCells] at h <;> try (simp at h; done)
          rename_i a b
          split at h
          · rename_i r' hr'
            simp at h
            exact key _ _ _ _ _ r' rfl rfl hr' h.symm (run_equalIn_bool' w d f.type a b ht)
          · simp at h
    | int k0 =>
      cases xs with
      | nil => simp [eqCells] at h
      | cons x xs =>
        cases ys with
        | nil => cases x <;> simp [eqCells] at h
        | cons y ys =>
          cases x <;> cases y <;> simp only [eqCells] at h <;> try (simp at h; done)
          rename_i k a k' b
          split at h
          · rename_i r' hr'
            cases hk : ikEq k k' with
            | false => rw [hk] at h; simp at h
            | true =>
              rw [hk] at h
              have := ikEq_eq hk
              subst this
              simp at h
              exact key _ _ _ _ _ r' rfl rfl hr' h.symm (run_equalIn_int w d f.type k k0 a b ht)
          · simp at h
    | str =>
      cases xs with
      | nil => simp [eqCells] at h
      | cons x xs =>
        cases ys with
        | nil => cases x <;> simp [eqCells] at h
        | cons y ys =>
          cases x <;> cases y <;> simp only [eqCells] at h <;> try (simp at h; done)
          rename_i a b
          split at h
          · rename_i r' hr'
            simp at h
            exact key _ _ _ _ _ r' rfl rfl hr' h.symm (run_equalIn_string w d f.type a b ht)
          · simp at h
    | _ => cases xs <;> cases ys <;> simp [eqCells] at h
termination_by fs => fs.length

theorem run_equalIn_ptr_nil (d : Nat) (e : Nat) (a : Option Addr) (h : P.underlying t = some (.pointer e)) : (Op.equalIn (d + 1) t (.pointer a) (.pointer none)).run P w = .ok a.isNone w := by
  cases a <;> simp [Op.equalIn, run_underlying h]
theorem run_equalIn_slice_nil (d : Nat) (e : Nat) (a : Option Addr) (n c n' c' : Nat) (h : P.underlying t = some (.slice e)) : (Op.equalIn (d + 1) t (.slice a n c) (.slice none n' c')).run P w = .ok a.isNone w := by
  cases a <;> simp [Op.equalIn, run_underlying h]

theorem vEq.sound {x y : Value} {X Y : Operand} {op : BinOp} {K : Bool → World → Prop} {eqs : List Nat} (hok : TabOK P tab) (heqs : EqsOK P tab eqs) (h : vEq eqs tab t x y w K) :
    ∃ r, (eqGuard op t X Y x y).run P w = .ok () w ∧ (Op.equal t x y).run P w = .ok r w ∧ K r w ∧ (∀ k a, x ≠ .int k a) ∧ (∀ s, x ≠ .string s) ∧ (∀ k a, x ≠ .float k a) ∧ (∀ k a b, x ≠ .complex k a b) := by
  unfold vEq at h
  split at h
  · rename_i a b
    split at h
    · rename_i ti hg
      split at h
      · rename_i e hk
        refine ⟨_, by simp [eqGuard_at_bool], ?_, h, by simp, by simp, by simp, by simp⟩
        simp [Op.equal, Op.maxDepth, run_equalIn_bool' w 9999 t a b ((hok.get hg).bool hk)]
      · exact h.elim
    · exact h.elim
  · rename_i a
    split at h
    · rename_i ti hg
      split at h
      · rename_i e hk
        refine ⟨_, by simp [eqGuard_at_pointer], ?_, h, by simp, by simp, by simp, by simp⟩
        exact run_equalIn_ptr_nil 9999 e a ((hok.get hg).ptr hk)
      · exact h.elim
    · exact h.elim
  · rename_i a n c n' c'
    split at h
    · rename_i ti hg
      split at h
      · rename_i e hk
        refine ⟨_, by simp [eqGuard_at_slice], ?_, h, by simp, by simp, by simp, by simp⟩
        exact run_equalIn_slice_nil 9999 e a n c n' c' ((hok.get hg).slice hk)
      · exact h.elim
    · exact h.elim
  · rename_i xs ys
    split at h
    · rename_i ti hg
      split at h
      · rename_i fs hk
        cases hel : eqs.elem t with
        | false => rw [hel] at h; simp at h
        | true =>
          rw [hel] at h
          simp only [cond_true] at h
          split at h
          · rename_i r hr
            obtain ⟨h1, h2, h3, h4⟩ := heqs t (by simpa using hel)
            refine ⟨r, run_eqGuard_agg w op t X Y xs ys h2, ?_, h, by simp, by simp, by simp, by simp⟩
            simp only [Op.equal, Op.maxDepth]
            rw [run_equalIn_struct w 9999 t xs ys h3 h1]
            exact run_eqFields 9998 _ 0 _ xs.toList ys.toList xs ys r (h4 ti hg) (by simp) (by simp) hr
          · exact h.elim
      · exact h.elim
    · exact h.elim
  · exact h.elim

theorem vBin.sound {x y : Value} {X Y : Operand} {op : BinOp} {K : Value → World → Prop} {eqs : List Nat} (hok : TabOK P tab) (heqs : EqsOK P tab eqs) (h : vBin eqs tab op t x y w K) :
    Yield P (do pure (.value (← (do eqGuard op t X Y x y; binOp op t x y)))) w K := by
  have fin : ∀ v, (eqGuard op t X Y x y).run P w = .ok () w → (binOp op t x y).run P w = .ok v w → K v w → Yield P (do pure (.value (← (do eqGuard op t X Y x y; binOp op t x y)))) w K := by
    intro v h1 h2 hk
    refine yield_v (v := v) (w' := w) ?_ hk
    simp only [Sem.run_bind, h1, Result.andThen_ok, h2]
  unfold vBin at h
  split at h
  · rename_i k a k' b
    have hg : (eqGuard op t X Y (.int k a) (.int k' b)).run P w = .ok () w := by simp [eqGuard_at_int]
    split at h
    · obtain ⟨h0, h⟩ := h
      refine fin _ hg ?_ h
      simp only [binOp, Op.shift, if_neg (show ¬ b < 0 by omega), Sem.run_pure]
    · obtain ⟨h0, h⟩ := h
      refine fin _ hg ?_ h
      simp only [binOp, Op.shift, if_neg (show ¬ b < 0 by omega), Sem.run_pure]
    · rename_i n1 n2
      cases hk : ikEq k k' with
      | false => rw [hk] at h; simp at h
      | true =>
        rw [hk] at h
        have := ikEq_eq hk
        subst this
        simp only [cond_true] at h
        cases op <;> simp only [vInt] at h <;> try (exact absurd rfl (by assumption))
        all_goals first
          | (exact h.elim)
          | (refine fin _ hg ?_ h; simp [go_sem]; done)
          | (obtain ⟨h0, h⟩ := h; refine fin _ hg ?_ h; simp [go_sem, h0]; done)
  · rename_i a b
    have hg : (eqGuard op t X Y (.string a) (.string b)).run P w = .ok () w := by simp [eqGuard_at_string]
    unfold vStr at h
    cases op <;> simp only at h
    all_goals first
      | (exact h.elim)
      | (refine fin _ hg ?_ h; simp [binOp, Op.stringOp, sEq, sLt]; done)
      | skip
    obtain ⟨h0, h⟩ := h
    refine fin _ hg ?_ h
    have : ¬ IntKind.i64.max < ((a.size + b.size : Nat) : Int) := by simp; omega
    simp only [binOp, Op.stringOp, gt_iff_lt, this, ↓reduceIte, Sem.run_pure]
  · rename_i h1 h2
    split at h
    · obtain ⟨r, hg, he, hK, n1, n2, n3, n4⟩ := vEq.sound (X := X) (Y := Y) (op := .eql) hok heqs h
      refine fin _ hg ?_ hK
      cases x <;> simp_all [binOp]
    · obtain ⟨r, hg, he, hK, n1, n2, n3, n4⟩ := vEq.sound (X := X) (Y := Y) (op := .neq) hok heqs h
      refine fin _ hg ?_ hK
      cases x <;> simp_all [binOp]
    · exact h.elim

theorem vUn.sound {x : Value} {op : UnOp} {K : Value → World → Prop} (h : vUn op x w K) : Yield P (do pure (.value (← Op.unary op x))) w K := by
  unfold vUn at h
  split at h
  · exact yield_v (by simp [Op.unary]) h
  · exact yield_v (by simp [Op.unary, Op.intArith]) h
  · exact h.elim
end

section
variable {P : Program} {tab : Tab} {t : Nat} {w : World} {K : Value → World → Prop}

theorem nth_get {α : Type} : ∀ (l : List α) (i : Nat), nth l i = l[i]?
  | [], _ => rfl
  | _ :: _, 0 => rfl
  | _ :: r, i + 1 => by simpa [nth] using nth_get r i
theorem takeL_eq {α : Type} : ∀ (n : Nat) (l : List α), takeL n l = l.take n
  | 0, _ => rfl
  | _ + 1, [] => rfl
  | n + 1, x :: r => by simp [takeL, takeL_eq n r]
theorem dropL_eq {α : Type} : ∀ (n : Nat) (l : List α), dropL n l = l.drop n
  | 0, l => by cases l <;> rfl
  | _ + 1, [] => rfl
  | n + 1, x :: r => by simp [dropL, dropL_eq n r]

theorem bnd.get {x : Option Value} {y d : Nat} {k : Nat → Prop} (h : bnd x y d k) : (x = none ∧ k d) ∨ ∃ kk i, x = some (.int kk i) ∧ 0 ≤ i ∧ i ≤ y ∧ k i.toNat := by
  unfold bnd at h
  split at h
  · exact .inl ⟨rfl, h⟩
  · exact .inr ⟨_, _, rfl, h.1, h.2.1, h.2.2⟩
  · exact h.elim

theorem run_sliceBound {k : IntKind} {i : Int} {y : Nat} {c : BoundsCode} (h0 : 0 ≤ i) (h1 : i ≤ y) : (Instr.sliceBound (.int k i) y c).run P w = .ok i.toNat w := by
  simp [Instr.sliceBound, asIntOf, h0, h1]

theorem run_bounds {isSlice : Bool} {len cap : Nat} {lo hi mx : Option Value} {k : Nat → Nat → Nat → Prop} (hm : mx = none ∨ ∃ v, hi = some v)
    (h : bnd mx cap cap fun m => bnd hi m len fun h => bnd lo h 0 fun l => k l h m) :
    ∃ l h m, (Instr.sliceBounds isSlice len cap lo hi mx).run P w = .ok (l, h, m) w ∧ k l h m ∧ (mx = none → m = cap) := by
  rcases bnd.get h with ⟨e3, h3⟩ | ⟨k3, i3, e3, a3, b3, h3⟩
  · rcases bnd.get h3 with ⟨e2, h2⟩ | ⟨k2, i2, e2, a2, b2, h2⟩
    · rcases bnd.get h2 with ⟨e1, h1⟩ | ⟨k1, i1, e1, a1, b1, h1⟩
      · subst e1 e2 e3; exact ⟨_, _, _, by simp [Instr.sliceBounds], h1, fun _ => rfl⟩
      · subst e1 e2 e3; exact ⟨_, _, _, by simp [Instr.sliceBounds, run_sliceBound a1 b1], h1, fun _ => rfl⟩
    · rcases bnd.get h2 with ⟨e1, h1⟩ | ⟨k1, i1, e1, a1, b1, h1⟩
      · subst e1 e2 e3; exact ⟨_, _, _, by simp [Instr.sliceBounds, run_sliceBound a2 b2], h1, fun _ => rfl⟩
      · subst e1 e2 e3; exact ⟨_, _, _, by simp [Instr.sliceBounds, run_sliceBound a2 b2, run_sliceBound a1 b1], h1, fun _ => rfl⟩
  · rcases hm with hm | ⟨v, hv⟩
    · rw [hm] at e3; simp at e3
    · rcases bnd.get h3 with ⟨e2, h2⟩ | ⟨k2, i2, e2, a2, b2, h2⟩
      · rw [e2] at hv; simp at hv
      · rcases bnd.get h2 with ⟨e1, h1⟩ | ⟨k1, i1, e1, a1, b1, h1⟩
        · subst e1 e2 e3; exact ⟨_, _, _, by simp [Instr.sliceBounds, run_sliceBound a3 b3, run_sliceBound a2 b2], h1, fun h => by simp at h⟩
        · subst e1 e2 e3; exact ⟨_, _, _, by simp [Instr.sliceBounds, run_sliceBound a3 b3, run_sliceBound a2 b2, run_sliceBound a1 b1], h1, fun h => by simp at h⟩

theorem bnd_mono {x : Option Value} {y d : Nat} {k k' : Nat → Prop} (h : bnd x y d k) (hk : ∀ n, k n → k' n) : bnd x y d k' := by
  unfold bnd at *
  split at h
  · exact hk _ h
  · exact ⟨h.1, h.2.1, hk _ h.2.2⟩
  · exact h.elim

theorem vSlice.sound {x : Value} {lo hi mx : Option Value} (hok : TabOK P tab) (h : vSlice tab t x lo hi mx w K) : Yield P (do pure (.value (← Instr.sliceAt t x lo hi mx))) w K := by
  unfold vSlice at h
  split at h
  · rename_i ti hg
    have hT := hok.get hg
    split at h
    · rename_i e hk
      split at h
      · rename_i p n c
        split at h
        · rename_i s hs
          have hu := run_underlying (P := P) (hT.slice hk) w
          have key : (∃ l h m, (Instr.sliceBounds true n c lo hi mx).run P w = .ok (l, h, m) w ∧ K (.slice (cutAt p l m s) (h - l) (m - l)) w ∧ (mx = none → m = c)) → Yield P (do pure (.value (← Instr.sliceAt t (.slice p n c) lo hi mx))) w K := by
            rintro ⟨l, h, m, hr, hK, _⟩
            refine yield_v (w' := w) ?_ hK
            simp only [Instr.sliceAt, Sem.run_bind, hu, Result.andThen_ok, Instr.slice, hr, Tab.size_run hok hs, Sem.run_pure, cutAt]
          split at h
          · exact key (run_bounds (.inl rfl) h)
          · split at h
            · exact key (run_bounds (.inr ⟨_, rfl⟩) h)
            · exact h.elim
        · exact h.elim
      · exact h.elim
    · rename_i e hk
      split at h
      · rename_i s
        split at h
        · obtain ⟨l, hh, m, hr, hK, _⟩ := run_bounds (P := P) (w := w) (isSlice := false) (cap := s.size) (k := fun l h _ => K (.string (s.extract l h)) w) (.inl rfl) h
          refine yield_v (w' := w) ?_ hK
          simp only [Instr.sliceAt, Sem.run_bind, run_underlying (hT.str hk), Result.andThen_ok, Instr.slice]
          simp [hr]
        · exact h.elim
      · exact h.elim
    · rename_i n e hk
      split at h
      · rename_i a
        split at h
        · rename_i s hs
          split at h
          · obtain ⟨l, hh, m, hr, hK, hmn⟩ := run_bounds (P := P) (w := w) (isSlice := false) (cap := n) (mx := none) (k := fun l h m => m = n → K (.slice (some (cutAt1 a l n s)) (h - l) (n - l)) w) (.inl rfl)
              (bnd_mono h fun _ h => bnd_mono h fun _ h _ => h : bnd hi n n fun h => bnd lo h 0 fun l => n = n → K (.slice (some (cutAt1 a l n s)) (h - l) (n - l)) w)
            have hm : m = n := hmn rfl
            subst hm
            refine yield_v (w' := w) ?_ (hK rfl)
            simp only [Instr.sliceAt, Sem.run_bind, run_underlying (hT.array hk), Result.andThen_ok, Instr.sureAddr, Sem.run_pure, hr, Tab.size_run hok hs, cutAt1]
          · exact h.elim
        · exact h.elim
      · exact h.elim
    · exact h.elim
  · exact h.elim

theorem vFieldAddr.sound {x : Value} {i : Nat} (hok : TabOK P tab) (h : vFieldAddr tab t x i w K) : Yield P (do pure (.value (← Instr.fieldAt t x i))) w K := by
  unfold vFieldAddr at h
  split at h
  · rename_i ti hg
    have hT := hok.get hg
    split at h
    · rename_i fs hk
      split at h
      · rename_i off ft hn
        split at h
        · rename_i s hs
          split at h
          · rename_i a
            cases hb : Nat.ble 1 s with
            | false => rw [hb] at h; simp at h
            | true =>
              rw [hb] at h
              have h1 : 1 ≤ s := Nat.le_of_ble_eq_true hb
              simp only [cond_true] at h
              obtain ⟨fl, hu, hfl⟩ := hT.struct hk
              subst hfl
              rw [nth_get] at hn
              simp only [List.getElem?_map, Option.map_eq_some_iff] at hn
              obtain ⟨f, hf, he⟩ := hn
              simp only [Prod.mk.injEq] at he
              obtain ⟨rfl, rfl⟩ := he
              refine yield_v (w' := w) ?_ h
              have hf' : fl[i]? = some f := by simpa using hf
              simp only [Instr.fieldAt, Sem.run_bind, run_underlying hu, Result.andThen_ok, hf', Instr.sureAddr, Sem.run_pure, fieldPlace, Tab.size_run hok hs]
              rw [if_neg (by omega)]
              rfl
          · exact h.elim
        · exact h.elim
      · exact h.elim
    · exact h.elim
  · exact h.elim

theorem vPart.sound {cs : Array Value} {off : Nat} (hok : TabOK P tab) (h : vPart tab t cs.toList off w K) : ∃ v, (part t cs off).run P w = .ok v w ∧ K v w := by
  unfold vPart at h
  split at h
  · rename_i ti hg
    have hT := hok.get hg
    split at h
    · rename_i fs hk
      refine ⟨_, ?_, h⟩
      simp only [part, Sem.run_bind, isAgg_struct hT hk, Result.andThen_ok, ↓reduceIte, hT.size (by rw [hk]; rfl), Sem.run_pure]
      congr 2
      rw [takeL_eq, dropL_eq]
      apply Array.ext'
      simp [Array.toList_extract, List.extract_eq_take_drop]
    · rename_i n e hk
      refine ⟨_, ?_, h⟩
      simp only [part, Sem.run_bind, isAgg_array hT hk, Result.andThen_ok, ↓reduceIte, hT.size (by rw [hk]; rfl), Sem.run_pure]
      congr 2
      rw [takeL_eq, dropL_eq]
      apply Array.ext'
      simp [Array.toList_extract, List.extract_eq_take_drop]
    · rename_i l e hk
      split at h
      · rename_i v hv
        refine ⟨v, ?_, h⟩
        rw [nth_get] at hv
        have hv' : cs[off]? = some v := by simpa using hv
        simp only [part, Sem.run_bind, isAgg_leaf hT hk, Result.andThen_ok, hv']
        simp
      · exact h.elim
    · exact h.elim
  · exact h.elim

theorem vField.sound {x : Value} {i : Nat} (hok : TabOK P tab) (h : vField tab t x i w K) : Yield P (do pure (.value (← Instr.field t x i))) w K := by
  unfold vField at h
  split at h
  · rename_i ti hg
    have hT := hok.get hg
    split at h
    · rename_i fs hk
      split at h
      · rename_i off ft hn
        split at h
        · rename_i cs
          obtain ⟨fl, hu, hfl⟩ := hT.struct hk
          subst hfl
          rw [nth_get] at hn
          simp only [List.getElem?_map, Option.map_eq_some_iff] at hn
          obtain ⟨f, hf, he⟩ := hn
          simp only [Prod.mk.injEq] at he
          obtain ⟨rfl, rfl⟩ := he
          obtain ⟨v, hr, hK⟩ := vPart.sound hok h
          refine yield_v (w' := w) ?_ hK
          have hf' : fl[i]? = some f := by simpa using hf
          simp only [Instr.field, Sem.run_bind, run_underlying hu, Result.andThen_ok, hf', asAgg, Sem.run_pure, hr]
        · exact h.elim
      · exact h.elim
    · exact h.elim
  · exact h.elim

theorem vIndexAddr.sound {x ix : Value} (hok : TabOK P tab) (h : vIndexAddr tab t x ix w K) : Yield P (do pure (.value (← Instr.indexAt t x ix))) w K := by
  unfold vIndexAddr at h
  split at h
  · rename_i k i
    split at h
    · rename_i ti hg
      have hT := hok.get hg
      split at h
      · rename_i e hk
        split at h
        · rename_i p n c
          split at h
          · rename_i s hs
            obtain ⟨a, rfl, h0, h1, hK⟩ := h
            refine yield_v (w' := w) ?_ hK
            simp [Instr.indexAt, asIntOf, run_underlying (hT.slice hk), h0, h1, Tab.size_run hok hs]
          · exact h.elim
        · exact h.elim
      · rename_i n e hk
        split at h
        · rename_i a
          split at h
          · rename_i s hs
            obtain ⟨h0, h1, hK⟩ := h
            refine yield_v (w' := w) ?_ hK
            simp [Instr.indexAt, asIntOf, run_underlying (hT.array hk), Instr.sureAddr, h0, h1, Tab.size_run hok hs]
          · exact h.elim
        · exact h.elim
      · exact h.elim
    · exact h.elim
  · exact h.elim

theorem vIndex.sound {x ix : Value} (hok : TabOK P tab) (h : vIndex tab t x ix w K) : Yield P (do pure (.value (← Instr.index t x ix))) w K := by
  unfold vIndex at h
  split at h
  · rename_i k i
    split at h
    · rename_i ti hg
      have hT := hok.get hg
      split at h
      · rename_i e hk
        split at h
        · rename_i s
          obtain ⟨h0, h1, hK⟩ := h
          refine yield_v (w' := w) ?_ hK
          have hlt : i.toNat < s.size := by omega
          simp only [Instr.index, asIntOf, Sem.run_bind, Sem.run_pure, Result.andThen_ok, run_underlying (hT.str hk), h0, ↓reduceIte]
          have hg' : s[i.toNat]? = some (s[i.toNat]'hlt) := by
            simp [getElem?_pos, hlt]
          rw [hg']
          simp [bt, hlt]
        · exact h.elim
      · exact h.elim
    · exact h.elim
  · exact h.elim

theorem vLen.sound {x : Value} {ty : Nat} (hok : TabOK P tab) (h : vLen tab t x w K) : Yield P (do pure (.value (← Builtin.len_ #[t] ty #[x]))) w K := by
  unfold vLen at h
  split at h
  · rename_i ti hg
    have hT := hok.get hg
    split at h
    · rename_i e hk
      split at h
      · exact yield_v (by simp [Builtin.len_, run_underlying (hT.str hk), goInt]) h
      · exact h.elim
    · rename_i e hk
      split at h
      · exact yield_v (by simp [Builtin.len_, run_underlying (hT.slice hk), goInt]) h
      · exact h.elim
    · rename_i n e hk
      exact yield_v (by simp [Builtin.len_, run_underlying (hT.array hk), goInt]) h
    · exact h.elim
  · exact h.elim

theorem vCap.sound {x : Value} {ty : Nat} (hok : TabOK P tab) (h : vCap tab t x w K) : Yield P (do pure (.value (← Builtin.cap_ #[t] ty #[x]))) w K := by
  unfold vCap at h
  split at h
  · rename_i ti hg
    have hT := hok.get hg
    split at h
    · rename_i e hk
      split at h
      · exact yield_v (by simp [Builtin.cap_, run_underlying (hT.slice hk), goInt]) h
      · exact h.elim
    · exact h.elim
  · exact h.elim

end

section
variable {P : Program} {tab : Tab} {t : Nat} {w : World} {K : Value → World → Prop}

theorem Yield.congr {s s' : Sem Next} (h : s.run P w = s'.run P w) (hy : Yield P s' w K) : Yield P s w K := by
  unfold Yield at *
  rw [h]
  exact hy

theorem mm2_min (x y : Int) : mm2 false x y = if y < x then y else x := rfl
theorem mm2_max (x y : Int) : mm2 true x y = if x < y then y else x := rfl

theorem run_min2 {k k' : IntKind} {x y : Int} {ats : Array Nat} {ty : Nat} : (Builtin.min_ ats ty #[.int k x, .int k' y]).run P w = .ok (.int k (mm2 false x y)) w := by
  simp [Builtin.min_, Builtin.min2, mm2]
theorem run_max2 {k k' : IntKind} {x y : Int} {ats : Array Nat} {ty : Nat} : (Builtin.max_ ats ty #[.int k x, .int k' y]).run P w = .ok (.int k (mm2 true x y)) w := by
  simp [Builtin.max_, Builtin.max2, mm2]

/-- The constants' marks change nothing but a print's. -/
theorem builtin_consts {b : Builtin} {ats : Array Nat} {ty : Nat} {cs : Array Bool} {args : Array Value} (hb : b ≠ .print ∧ b ≠ .println) : builtin b ats ty cs args = builtin b ats ty #[] args := by
  cases b <;> first | rfl | simp at hb

theorem vCall.sound {a : Act} {c : Call} {vs : List Value} {f : Option Value} (hok : TabOK P tab) (hargs : c.args.toList.map a.eval = vs)
    (hf : ∀ v, f = some v → match c.callee with
      | .value x => a.eval x = v
      | .invoke x _ => a.eval x = v
      | _ => True)
    (h : vCall P tab c t vs f w K) : Yield P (do let d ← resolve a.eval c t; invoke d.target d.args) w K := by
  have hmap : c.args.map a.eval = vs.toArray := by
    apply Array.ext'
    simpa using hargs
  unfold vCall at h
  split at h
  · rename_i hc
    split at h
    · rename_i ta hta
      split at h
      · rename_i x
        have hat : c.argTypes = #[ta] := by
          apply Array.ext'; simpa using hta
        refine Yield.congr ?_ (vLen.sound (ty := t) hok h)
        simp only [resolve, hc, hmap, hat, Sem.run_bind, Sem.run_pure, Result.andThen_ok, invoke, builtin]
      · exact h.elim
    · exact h.elim
  · rename_i hc
    split at h
    · rename_i ta hta
      split at h
      · rename_i x
        have hat : c.argTypes = #[ta] := by
          apply Array.ext'; simpa using hta
        refine Yield.congr ?_ (vCap.sound (ty := t) hok h)
        simp only [resolve, hc, hmap, hat, Sem.run_bind, Sem.run_pure, Result.andThen_ok, invoke, builtin]
      · exact h.elim
    · exact h.elim
  · rename_i hc
    split at h
    · rename_i k x k' y
      refine Yield.congr (s' := do pure (.value (← Builtin.min_ c.argTypes t #[.int k x, .int k' y]))) ?_ (yield_v run_min2 h)
      simp only [resolve, hc, hmap, Sem.run_bind, Sem.run_pure, Result.andThen_ok, invoke, builtin]
    · exact h.elim
  · rename_i hc
    split at h
    · rename_i k x k' y
      refine Yield.congr (s' := do pure (.value (← Builtin.max_ c.argTypes t #[.int k x, .int k' y]))) ?_ (yield_v run_max2 h)
      simp only [resolve, hc, hmap, Sem.run_bind, Sem.run_pure, Result.andThen_ok, invoke, builtin]
    · exact h.elim
  · rename_i hc
    refine Yield.congr ?_ (Yield.mono h fun v w' h => h.out)
    simp only [resolve, hc, hmap, Sem.run_bind, Sem.run_pure, Result.andThen_ok, invoke, builtin]
  · rename_i hc
    refine Yield.congr ?_ (Yield.mono h fun v w' h => h.out)
    simp only [resolve, hc, hmap, Sem.run_bind, Sem.run_pure, Result.andThen_ok, invoke, builtin]
  · rename_i hc
    refine Yield.congr ?_ h
    simp only [resolve, hc, hmap, Sem.run_bind, Sem.run_pure, Result.andThen_ok, invoke, builtin]
  · rename_i hc
    refine Yield.congr ?_ (Yield.mono h fun v w' h => h.out)
    simp only [resolve, hc, hmap, Sem.run_bind, Sem.run_pure, Result.andThen_ok, invoke, builtin]
  · rename_i hc
    refine Yield.congr ?_ (Yield.mono h fun v w' h => h.out)
    simp only [resolve, hc, hmap, Sem.run_bind, Sem.run_pure, Result.andThen_ok, invoke, builtin]
  · exact h.elim
  · rename_i x hc
    split at h
    · rename_i g first cap
      have he := hf _ rfl
      rw [hc] at he
      refine Yield.congr ?_ (Yield.mono h fun v w' h => h.out)
      simp only [resolve, hc, hmap, he, Deferred.ofValue, Sem.run_bind, Sem.run_pure, Result.andThen_ok, invoke]
    · exact h.elim
  · rename_i x name hc
    split at h
    · rename_i v
      have he := hf _ rfl
      rw [hc] at he
      refine Yield.congr ?_ (Yield.mono h fun v w' h => h.out)
      simp only [resolve, hc, hmap, he, Sem.run_bind, Sem.run_pure, Result.andThen_ok, invoke]
      simp
    · exact h.elim

theorem Op.vcC.sound {n : Nat} {fr : Fr} {a : Act} {o : Oper} {eqs : List Nat} (hr : Rel n fr a) (hok : TabOK P tab) (heqs : EqsOK P tab eqs) (h : Op.vcC P eqs tab o fr w K) : Yield P (execOp a.eval o) w K := by
  obtain ⟨dst, op, type, pos, after, guard⟩ := o
  unfold Op.vcC at h
  cases op <;> simp only at h <;> try exact h.elim
  case move x =>
    split at h
    · rename_i v hv
      have := hr.eval hv
      simp only [execOp, this]
      exact yield_p h
    · exact h.elim
  case assign x =>
    split at h
    · rename_i v hv
      have := hr.eval hv
      simp only [execOp, this]
      exact yield_p h
    · exact h.elim
  case pick c x y =>
    split at h
    · rename_i b hb
      have hc := hr.eval hb
      split at h
      · rename_i va hva
        have ha := hr.eval hva
        split at h
        · rename_i vb hvb
          have hb' := hr.eval hvb
          refine Yield.congr (s' := pure (.value (if b then va else vb))) ?_ (yield_p ?_)
          · simp [execOp, hc, ha, hb', asBool]
          · cases b
            · simpa [ifB] using h
            · simpa [ifB] using h
        · split at h
          · refine Yield.congr (s' := pure (.value va)) ?_ (yield_p h)
            simp [execOp, hc, ha, asBool]
          · exact h.elim
      · exact h.elim
    · exact h.elim
  case alloc e => exact vAlloc.sound hok h
  case box e x =>
    split at h
    · rename_i v hv
      have := hr.eval hv
      simp only [execOp, this]
      exact vBox.sound h
    · exact h.elim
  case build ty ps =>
    split at h
    · rename_i vs hvs
      have := evParts_map hr _ _ hvs
      simp only [execOp]
      rw [show (ps.map fun (i, x) => (i, a.eval x)) = vs.toArray from by apply Array.ext'; simpa using this]
      exact vBuild.sound hok h
    · exact h.elim
  case buildSlice ty len ps =>
    split at h
    · rename_i vs hvs
      have := evParts_map hr _ _ hvs
      simp only [execOp]
      rw [show (ps.map fun (i, x) => (i, a.eval x)) = vs.toArray from by apply Array.ext'; simpa using this]
      exact vBuildSlice.sound hok h
    · exact h.elim
  case load ty x =>
    split at h
    · rename_i v hv
      have := hr.eval hv
      simp only [execOp, this]
      exact vLoad.sound hok h
    · exact h.elim
  case store ty x y =>
    split at h
    · rename_i v hv
      have h1 := hr.eval hv
      split at h
      · rename_i u hu
        have h2 := hr.eval hu
        simp only [execOp, h1, h2]
        exact vStore.sound hok h
      · exact h.elim
    · exact h.elim
  case nilCheck x =>
    split at h
    · rename_i p hp
      have := hr.eval hp
      obtain ⟨a', rfl, h⟩ := h
      simp only [execOp, this]
      exact yield_p h
    · rename_i f x1 x2 hp
      have := hr.eval hp
      simp only [execOp, this]
      exact yield_p h
    · exact h.elim
  case binOp op ty x y yt =>
    split at h
    · rename_i v hv
      have h1 := hr.eval hv
      split at h
      · rename_i u hu
        have h2 := hr.eval hu
        simp only [execOp, h1, h2]
        exact vBin.sound hok heqs h
      · exact h.elim
    · exact h.elim
  case unOp op ty x =>
    split at h
    · rename_i v hv
      have := hr.eval hv
      simp only [execOp, this]
      exact vUn.sound h
    · exact h.elim
  case convert src dst' x =>
    split at h
    · rename_i ti hg
      split at h
      · rename_i k' e hk
        split at h
        · rename_i k n hn
          have := hr.eval hn
          split at h
          · rename_i ts hgs
            obtain ⟨d, hd, _⟩ := (hok.get hgs).desc
            simp only [execOp, this]
            refine yield_v (w' := w) ?_ h
            simp [convert, run_underlying hd, run_underlying ((hok.get hg).int hk), Conv.intToInt]
          · exact h.elim
        · exact h.elim
      · split at h
        · rename_i v hv
          have := hr.eval hv
          simp only [execOp, this]
          exact Yield.mono h fun v w' h => h.out
        · exact h.elim
    · exact h.elim
  case makeInterface ty x =>
    split at h
    · rename_i v hv
      have := hr.eval hv
      split at h
      · rename_i ti hg
        obtain ⟨d, hd, hdv⟩ := (hok.get hg).desc
        split at h
        · exact h.elim
        · rename_i hk
          simp only [execOp, this]
          refine yield_v (w' := w) ?_ h
          cases d with
          | interface ms => exact absurd hdv.symm (by simp only [descView]; exact hk _)
          | _ => simp [Instr.makeInterface, run_underlying hd]
      · exact h.elim
    · exact h.elim
  case makeFunc fn first cap =>
    split at h
    · rename_i vs hvs
      split at h
      · rename_i us hus
        have h1 := evAll_map hr _ _ hvs
        have h2 := evAll_map hr _ _ hus
        have e1 : first.map a.eval = vs.toArray := by apply Array.ext'; simpa using h1
        have e2 : cap.map a.eval = us.toArray := by apply Array.ext'; simpa using h2
        simp only [execOp, e1, e2]
        exact yield_v (by simp [Instr.makeFunc]) h
      · exact h.elim
    · exact h.elim
  case makeSlice ty l c =>
    split at h
    · rename_i v hv
      have h1 := hr.eval hv
      split at h
      · rename_i u hu
        have h2 := hr.eval hu
        simp only [execOp, h1, h2]
        exact Yield.mono h fun v w' h => h.out
      · exact h.elim
    · exact h.elim
  case slice ty x lo hi mx =>
    have fin : ∀ (v : Value) (vl vh vm : Option Value), ev fr x = some v → lo.map a.eval = vl → hi.map a.eval = vh → mx.map a.eval = vm → vSlice tab ty v vl vh vm w K → Yield P (execOp a.eval ⟨dst, .slice ty x lo hi mx, type, pos, after, guard⟩) w K := by
      intro v vl vh vm h1 h2 h3 h4 h
      have := hr.eval h1
      simp only [execOp, this, h2, h3, h4]
      exact vSlice.sound hok h
    split at h
    · rename_i v hv
      split at h
      · split at h
        · split at h
          · exact fin v none none none hv rfl rfl rfl h
          · exact h.elim
        · split at h
          · rename_i vh hvh
            split at h
            · exact fin v none (some vh) none hv rfl (by simp [hr.eval hvh]) rfl h
            · split at h
              · rename_i vm hvm
                exact fin v none (some vh) (some vm) hv rfl (by simp [hr.eval hvh]) (by simp [hr.eval hvm]) h
              · exact h.elim
          · exact h.elim
      · split at h
        · rename_i vl hvl
          split at h
          · split at h
            · exact fin v (some vl) none none hv (by simp [hr.eval hvl]) rfl rfl h
            · exact h.elim
          · split at h
            · rename_i vh hvh
              split at h
              · exact fin v (some vl) (some vh) none hv (by simp [hr.eval hvl]) (by simp [hr.eval hvh]) rfl h
              · split at h
                · rename_i vm hvm
                  exact fin v (some vl) (some vh) (some vm) hv (by simp [hr.eval hvl]) (by simp [hr.eval hvh]) (by simp [hr.eval hvm]) h
                · exact h.elim
            · exact h.elim
        · exact h.elim
    · exact h.elim
  case fieldAddr ty x i =>
    split at h
    · rename_i v hv
      have := hr.eval hv
      simp only [execOp, this]
      exact vFieldAddr.sound hok h
    · exact h.elim
  case field ty x i =>
    split at h
    · rename_i v hv
      have := hr.eval hv
      simp only [execOp, this]
      exact vField.sound hok h
    · exact h.elim
  case indexAddr ty x i =>
    split at h
    · rename_i v hv
      have h1 := hr.eval hv
      split at h
      · rename_i u hu
        have h2 := hr.eval hu
        simp only [execOp, h1, h2]
        exact vIndexAddr.sound hok h
      · exact h.elim
    · exact h.elim
  case index ty x i =>
    split at h
    · rename_i v hv
      have h1 := hr.eval hv
      split at h
      · rename_i u hu
        have h2 := hr.eval hu
        simp only [execOp, h1, h2]
        exact vIndex.sound hok h
      · exact h.elim
    · exact h.elim
  case extract x i =>
    split at h
    · rename_i vs hv
      have := hr.eval hv
      split at h
      · rename_i v hn
        rw [nth_get] at hn
        have hn' : vs[i]? = some v := by simpa using hn
        simp only [execOp, this]
        exact yield_v (by simp [Instr.extract, hn']) h
      · exact h.elim
    · exact h.elim
  case call c =>
    split at h
    · rename_i vs hvs
      have h1 := evAll_map hr _ _ hvs
      split at h
      · rename_i f hc
        refine vCall.sound hok h1 (fun v hv => ?_) h
        rw [hc]
        exact hr.eval hv
      · rename_i r name hc
        refine vCall.sound hok h1 (fun v hv => ?_) h
        rw [hc]
        exact hr.eval hv
      · rename_i b hc
        refine vCall.sound hok h1 (fun v hv => ?_) h
        rw [hc]
        trivial
    · exact h.elim

end

/-- It is 'K of one value', or it never is. -/
def Det (f : World → (Value → World → Prop) → Prop) : Prop := (∃ v, ∀ w K, f w K ↔ K v w) ∨ ∀ w K, ¬ f w K

theorem Det.one (v : Value) : Det (fun w K => K v w) := .inl ⟨v, fun _ _ => Iff.rfl⟩
theorem Det.never : Det (fun _ _ => False) := .inr fun _ _ h => h
theorem Det.and {c : Prop} {f : World → (Value → World → Prop) → Prop} (h : Det f) : Det (fun w K => c ∧ f w K) := by
  by_cases hc : c
  · rcases h with ⟨v, h⟩ | h
    · exact .inl ⟨v, fun w K => by simp [hc, h]⟩
    · exact .inr fun w K hh => h w K hh.2
  · exact .inr fun w K hh => hc hh.1
theorem Det.bnd {x : Option Value} {y d : Nat} {f : Nat → World → (Value → World → Prop) → Prop} (h : ∀ n, Det (f n)) : Det (fun w K => bnd x y d fun n => f n w K) := by
  unfold SX.bnd
  cases x with
  | none => exact h d
  | some v => cases v <;> first | exact .never | exact Det.and (Det.and (h _))
theorem Det.cond {b : Bool} {f g : World → (Value → World → Prop) → Prop} (hf : Det f) (hg : Det g) : Det (fun w K => bif b then f w K else g w K) := by cases b; exact hg; exact hf

section
variable {P : Program} {tab : Tab} {eqs : List Nat}

theorem det_int (op : BinOp) (k : IntKind) (a b : Int) : Det (vInt op k a b) := by
  unfold vInt
  cases op <;> first | exact .one _ | exact .never | exact Det.and (.one _)
theorem det_str (op : BinOp) (a b : ByteArray) : Det (vStr op a b) := by
  unfold vStr
  cases op <;> first | exact .one _ | exact .never | exact Det.and (.one _)
theorem det_eq (t : Nat) (x y : Value) (g : Bool → Value) : Det (fun w K => vEq eqs tab t x y w fun r w' => K (g r) w') := by
  unfold vEq
  split
  · split
    · split
      · exact .one _
      · exact .never
    · exact .never
  · split
    · split
      · exact .one _
      · exact .never
    · exact .never
  · split
    · split
      · exact .one _
      · exact .never
    · exact .never
  · split
    · split
      · refine Det.cond ?_ .never
        split
        · exact .one _
        · exact .never
      · exact .never
    · exact .never
  · exact .never
theorem det_bin (op : BinOp) (t : Nat) (x y : Value) : Det (vBin eqs tab op t x y) := by
  unfold vBin
  split
  · split
    · exact Det.and (.one _)
    · exact Det.and (.one _)
    · exact Det.cond (det_int _ _ _ _) .never
  · exact det_str _ _ _
  · split
    · exact det_eq t _ _ _
    · exact det_eq t _ _ _
    · exact .never
theorem det_un (op : UnOp) (x : Value) : Det (vUn op x) := by
  unfold vUn
  split <;> first | exact .one _ | exact .never
theorem det_slice (t : Nat) (x : Value) (lo hi mx : Option Value) : Det (vSlice tab t x lo hi mx) := by
  unfold vSlice
  repeat' split
  all_goals first
    | exact .never
    | exact Det.bnd fun _ => Det.bnd fun _ => .one _
    | exact Det.bnd fun _ => Det.bnd fun _ => Det.bnd fun _ => .one _
theorem det_fieldAddr (t : Nat) (x : Value) (i : Nat) : Det (vFieldAddr tab t x i) := by
  unfold vFieldAddr
  repeat' split
  all_goals first
    | exact .never
    | exact Det.cond (.one _) .never
theorem det_part (t : Nat) (cs : List Value) (off : Nat) : Det (vPart tab t cs off) := by
  unfold vPart
  repeat' split
  all_goals first
    | exact .never
    | exact .one _
theorem det_field (t : Nat) (x : Value) (i : Nat) : Det (vField tab t x i) := by
  unfold vField
  repeat' split
  all_goals first
    | exact .never
    | exact det_part _ _ _
theorem det_indexAddr (t : Nat) (x ix : Value) : Det (vIndexAddr tab t x ix) := by
  unfold vIndexAddr
  repeat' split
  all_goals first
    | exact .never
    | exact Det.and (Det.and (.one _))
    | skip
  rename_i k i _ _ _ _ _ _ _ p n c _ s hs
  cases p with
  | none => exact .inr fun w K ⟨a, h, _⟩ => by simp at h
  | some a =>
    by_cases hc : 0 ≤ i ∧ i < (n : Int)
    · exact .inl ⟨.pointer (some (a.add (i.toNat * s))), fun w K => by simp [hc]⟩
    · exact .inr fun w K ⟨_, _, h0, h1, _⟩ => hc ⟨h0, h1⟩
theorem det_index (t : Nat) (x ix : Value) : Det (vIndex tab t x ix) := by
  unfold vIndex
  repeat' split
  all_goals first
    | exact .never
    | exact Det.and (Det.and (.one _))
theorem det_build (t : Nat) (ps : List (Nat × Value)) : Det (vBuild tab t ps) := by
  unfold vBuild
  split
  · split
    · refine Det.cond ?_ .never
      split
      · exact .one _
      · exact .never
    · split
      · split
        · exact .one _
        · exact .never
      · exact .never
    · exact .never
  · exact .never
theorem det_len (t : Nat) (x : Value) : Det (vLen tab t x) := by
  unfold vLen
  repeat' split
  all_goals first
    | exact .never
    | exact .one _
theorem det_cap (t : Nat) (x : Value) : Det (vCap tab t x) := by
  unfold vCap
  repeat' split
  all_goals first
    | exact .never
    | exact .one _

/-- An operation that looks at slots alone. -/
def pureOp (tab : Tab) (o : Oper) : Bool :=
  match o.op with
  | .move _ | .assign _ | .pick _ _ _ | .nilCheck _ | .binOp _ _ _ _ _ | .unOp _ _ _ | .makeInterface _ _ | .makeFunc _ _ _ | .slice _ _ _ _ _ | .fieldAddr _ _ _ | .field _ _ _ | .indexAddr _ _ _ | .index _ _ _ | .extract _ _ | .build _ _ => true
  | .convert _ dst _ => match tab.get dst with
    | some ti => match ti.kind with
      | .leaf (.int _) _ => true
      | _ => false
    | none => false
  | .call c => match c.callee with
    | .builtin .len | .builtin .cap | .builtin .min | .builtin .max => true
    | _ => false
  | _ => false

theorem det_pure {o : Oper} {fr : Fr} (h : pureOp tab o = true) : Det (Op.vcC P eqs tab o fr) := by
  obtain ⟨dst, op, type, pos, after, guard⟩ := o
  unfold Op.vcC
  cases op <;> simp only [pureOp, Bool.false_eq_true] at h
  case convert src dst' x =>
    simp only
    split
    · split
      · repeat' split
        all_goals first
          | exact .never
          | exact .one _
      · rename_i ti hg _ hk
        rw [hg] at h
        simp at h
    · exact .never
  case move => simp only; split <;> first | exact .never | exact .one _
  case assign => simp only; split <;> first | exact .never | exact .one _
  case pick =>
    simp only
    split
    · split
      · split
        · rename_i b _ _ _ _ _ _ _
          cases b <;> exact .one _
        · split <;> first | exact .never | exact .one _
      · exact .never
    · exact .never
  case nilCheck =>
    simp only
    split
    · rename_i p _
      cases p with
      | none => exact .inr fun w K ⟨a, h, _⟩ => by simp at h
      | some a => exact .inl ⟨.pointer (some a), fun w K => by simp⟩
    · exact .one _
    · exact .never
  case build => simp only; split <;> first | exact .never | exact det_build _ _
  case binOp =>
    simp only
    split
    · split <;> first | exact .never | exact det_bin _ _ _ _
    · exact .never
  case unOp => simp only; split <;> first | exact .never | exact det_un _ _
  case makeInterface =>
    simp only
    repeat' split
    all_goals first
      | exact .never
      | exact .one _
  case makeFunc =>
    simp only
    repeat' split
    all_goals first
      | exact .never
      | exact .one _
  case slice =>
    simp only
    repeat' split
    all_goals first
      | exact .never
      | exact det_slice _ _ _ _ _
  case fieldAddr => simp only; split <;> first | exact .never | exact det_fieldAddr _ _ _
  case field => simp only; split <;> first | exact .never | exact det_field _ _ _
  case indexAddr =>
    simp only
    repeat' split
    all_goals first
      | exact .never
      | exact det_indexAddr _ _ _
  case index =>
    simp only
    repeat' split
    all_goals first
      | exact .never
      | exact det_index _ _ _
  case extract =>
    simp only
    repeat' split
    all_goals first
      | exact .never
      | exact .one _
  case call c =>
    simp only
    split
    · split
      · rename_i hc; rw [hc] at h; simp at h
      · rename_i hc; rw [hc] at h; simp at h
      · rename_i b hc
        rw [hc] at h
        unfold vCall
        rw [hc]
        cases b <;> simp only [Bool.false_eq_true] at h
        all_goals
          simp only
          repeat' split
          all_goals first
            | exact .never
            | exact .one _
            | exact det_len _ _
            | exact det_cap _ _
    · exact .never
end

/-! ### loads -/
theorem exLeaf.again {l : Leaf} {K : Value → Prop} (h : exLeaf l K) : ∃ v, K v ∧ ∀ K' : Value → Prop, K' v → exLeaf l K' := by
  cases l
  case slice => obtain ⟨p, n, c, h⟩ := h; exact ⟨_, h, fun K' h' => ⟨p, n, c, h'⟩⟩
  all_goals (obtain ⟨x, h⟩ := h; exact ⟨_, h, fun K' h' => ⟨x, h'⟩⟩)
theorem exLeaves.again : ∀ {ls : List Leaf} {K : List Value → Prop}, exLeaves ls K → ∃ vs, K vs ∧ ∀ K' : List Value → Prop, K' vs → exLeaves ls K'
  | [], _, h => ⟨[], h, fun _ h' => h'⟩
  | l :: ls, K, h => by
    obtain ⟨v, h, hv⟩ := exLeaf.again h
    obtain ⟨vs, h, hvs⟩ := exLeaves.again h
    exact ⟨v :: vs, h, fun K' h' => hv _ (hvs _ h')⟩

structure Pend where
  U : List Nat
  a : Addr
  agg : Bool
  v : Value

def cellsP (w : World) (a : Addr) (agg : Bool) (v : Value) : Prop :=
  match agg with
  | true => match v with
    | .agg cs => cellsAt w a 0 cs.toList
    | _ => False
  | false => w.cell? a = some v

def aggT (tab : Tab) (t : Nat) : Bool := match tab.get t with
  | some ti => ti.kind.isAgg
  | none => false

theorem vLoad.again {tab : Tab} {t : Nat} {ad : Value} {w : World} {K : Value → World → Prop} (h : vLoad tab t ad w K) :
    ∃ a v, ad = .pointer (some a) ∧ K v w ∧ cellsP w a (aggT tab t) v ∧ ∀ w' (K' : Value → World → Prop), cellsP w' a (aggT tab t) v → K' v w' → vLoad tab t ad w' K' := by
  unfold vLoad at h
  split at h
  · rename_i a
    split at h
    · rename_i ti hg
      split at h
      · rename_i l e hk
        obtain ⟨v, ⟨hc, hK⟩, hag⟩ := exLeaf.again h
        have ha : aggT tab t = false := by simp [aggT, hg, hk, Kind.isAgg]
        refine ⟨a, v, rfl, hK, by rw [ha]; exact hc, fun w' K' hc' hK' => ?_⟩
        rw [ha] at hc'
        unfold vLoad
        simp only [hg, hk]
        exact hag _ ⟨hc', hK'⟩
      all_goals first | exact h.elim | skip
      all_goals
        rename_i hk
        obtain ⟨vs, ⟨hc, hK⟩, hag⟩ := exLeaves.again h
        have ha : aggT tab t = true := by simp [aggT, hg, hk, Kind.isAgg]
        refine ⟨a, .agg vs.toArray, rfl, hK, by rw [ha]; exact hc, fun w' K' hc' hK' => ?_⟩
        rw [ha] at hc'
        unfold vLoad
        simp only [hg, hk]
        exact hag _ ⟨hc', hK'⟩
    · exact h.elim
  · exact h.elim

/-! ### any order -/
section
variable (P : Program) (ops : Array Oper)

/-- Operation i comes up. -/
def yOp (i : Nat) (K : Act → World → Prop) (a : Act) (w : World) : Prop :=
  match ops[i]? with
  | none => False
  | some o => if Region.wanted o (yielded ops a.tmps) then Yield P (execOp a.eval o) w (fun v w' => K (a.put o.dst v) w') else K (a.put o.dst undef) w

/-- Whatever order is picked; operation i goes from a world to one that C i lets it go to. -/
def yAny (C : Nat → World → World → Prop) (K : Act → World → Prop) : Nat → Array Bool → Act → World → Prop
  | 0, listed, a, w => Region.ready .any ops listed = [] ∧ K a w
  | f + 1, listed, a, w => (Region.ready .any ops listed = [] → K a w) ∧
    ∀ i ∈ Region.ready .any ops listed, yOp P ops i (fun a' w' => C i w w' ∧ yAny C K f (listed.setIfInBounds i true) a' w') a w
end

section
variable {P : Program} {ops : Array Oper}

theorem yOp_mono {i : Nat} {K K' : Act → World → Prop} {a : Act} {w : World} (h : yOp P ops i K a w) (hk : ∀ a w, K a w → K' a w) : yOp P ops i K' a w := by
  unfold yOp at *
  split at h
  · exact h.elim
  · rename_i o ho
    split at h
    · rename_i hw; rw [if_pos hw]; exact Yield.mono h fun v w' h => hk _ _ h
    · rename_i hw; rw [if_neg hw]; exact hk _ _ h

theorem yOp_wpOp {Q : Exit → Act → World → Prop} {i : Nat} {K : Act → World → Prop} {a : Act} {w : World} (h : yOp P ops i K a w) : wpOp P ops Q i K a w := by
  unfold yOp at h
  unfold wpOp
  split at h
  · exact h.elim
  · rename_i o ho
    simp only [ho]
    split at h
    · rename_i hw; rw [if_pos hw]; exact .inl (Oper.wp_of_yield h)
    · rename_i hw; rw [if_neg hw]; exact h

theorem yAny_wpAny {Q : Exit → Act → World → Prop} {C : Nat → World → World → Prop} {K : Act → World → Prop} (hQ : ∀ a w, K a w → Q .normal a w) : ∀ (f : Nat) (listed : Array Bool) (a : Act) (w : World), yAny P ops C K f listed a w → wpAny P .any ops Q f listed a w
  | 0, _, _, _, h => ⟨h.1, hQ _ _ h.2⟩
  | f + 1, _, _, _, h => ⟨fun h0 => hQ _ _ (h.1 h0), fun i hi => yOp_wpOp (yOp_mono (h.2 i hi) fun a' w' h' => yAny_wpAny hQ f _ a' w' h'.2)⟩

/-- All that an operation waits for is listed. -/
def Closed (ops : Array Oper) (listed : Array Bool) : Prop :=
  ∀ j o, ops[j]? = some o → listed.getD j false = true → ∀ e ∈ o.after, Region.binds .any e = true → listed.getD e.on false = true

theorem Closed.set {listed : Array Bool} {i : Nat} (h : Closed ops listed) (hi : i ∈ Region.ready .any ops listed) : Closed ops (listed.setIfInBounds i true) := by
  intro j o ho hl e he hb
  by_cases hj : j = i
  · subst hj
    obtain ⟨_, o', ho', hall⟩ := mem_ready.1 hi
    rw [ho] at ho'
    injection ho' with ho'
    subst ho'
    exact getD_set_true (hall e he hb)
  · rw [getD_set_ne false (Ne.symm hj)] at hl
    exact getD_set_true (h j o ho hl e he hb)

/-- i comes ahead of j, whatever the order. -/
inductive Ahead (ops : Array Oper) (i : Nat) : Nat → Prop where
  | one {j : Nat} {o : Oper} {e : Edge} : ops[j]? = some o → e ∈ o.after → Region.binds .any e = true → e.on = i → Ahead ops i j
  | more {j : Nat} {o : Oper} {e : Edge} : ops[j]? = some o → e ∈ o.after → Region.binds .any e = true → Ahead ops i e.on → Ahead ops i j

theorem Ahead.listed {listed : Array Bool} {i j : Nat} (hc : Closed ops listed) (h : Ahead ops i j) (hj : listed.getD j false = true) : listed.getD i false = true := by
  induction h with
  | one ho he hb hi => exact hi ▸ hc _ _ ho hj _ he hb
  | more ho he hb _ ih => exact ih (hc _ _ ho hj _ he hb)

theorem Ahead.ready {listed : Array Bool} {i j : Nat} (hc : Closed ops listed) (h : Ahead ops i j) (hj : j ∈ Region.ready .any ops listed) : listed.getD i false = true := by
  obtain ⟨_, o, ho, hall⟩ := mem_ready.1 hj
  cases h with
  | one ho' he hb hi => rw [ho] at ho'; injection ho' with ho'; subst ho'; exact hi ▸ hall _ he hb
  | more ho' he hb ha => rw [ho] at ho'; injection ho' with ho'; subst ho'; exact ha.listed hc (hall _ he hb)

theorem listed_false {listed : Array Bool} {i : Nat} (h : i ∈ Region.ready .any ops listed) : listed.getD i false = false := by
  have h0 := (mem_ready.1 h).1
  rcases Nat.lt_or_ge i listed.size with h' | h'
  · simp [h'] at h0 ⊢; exact h0
  · simp [Array.getElem?_eq_none h'] at h0

/-- In frame a, in every world of Cell, operation o yields v, and the world stays. -/
def YieldsC (P : Program) (ops : Array Oper) (Cell : World → Prop) (o : Oper) (v : Value) (a : Act) : Prop :=
  (Region.wanted o (yielded ops a.tmps) = true ∧ ∀ w, Cell w → ∀ K : Value → World → Prop, K v w → Yield P (execOp a.eval o) w K) ∨
  (Region.wanted o (yielded ops a.tmps) = false ∧ v = undef)

theorem YieldsC.yOp {Cell : World → Prop} {i : Nat} {o : Oper} {v : Value} {a : Act} {w : World} (hi : ops[i]? = some o) (hy : YieldsC P ops Cell o v a) (hw : Cell w) {K : Act → World → Prop} (h : K (a.put o.dst v) w) : yOp P ops i K a w := by
  unfold SX.yOp
  simp only [hi]
  rcases hy with ⟨h1, h2⟩ | ⟨h1, rfl⟩
  · rw [if_pos h1]; exact h2 w hw _ h
  · rw [if_neg (by simp [h1])]; exact h

theorem YieldsC.of_same {Cell : World → Prop} {o : Oper} {v : Value} {a a' : Act} (hy : YieldsC P ops Cell o v a) (he : execOp a'.eval o = execOp a.eval o)
    (hw : Region.wanted o (yielded ops a'.tmps) = Region.wanted o (yielded ops a.tmps)) : YieldsC P ops Cell o v a' := by
  unfold YieldsC at *
  rw [he, hw]
  exact hy

theorem yOp_put {Cell : World → Prop} {j : Nat} {oi oj : Oper} {v : Value} (hj : ops[j]? = some oj) (hap : oi.apart ops oj = true)
    (hsi : ∀ cs b, oi.op ≠ .select cs b) (hsj : ∀ cs b, oj.op ≠ .select cs b) {K : Act → World → Prop} {a : Act} {w : World}
    (hy : YieldsC P ops Cell oi v a) (h : yOp P ops j K (a.put oi.dst v) w) :
    yOp P ops j (fun a' w' => YieldsC P ops Cell oi v a' ∧ K (a'.put oi.dst v) w') a w := by
  obtain ⟨h1, h2, h3⟩ := Oper.apart_spec hap
  have keep : ∀ u, YieldsC P ops Cell oi v (a.put oj.dst u) := fun u => hy.of_same (execOp_put oi hsi a oj.dst u h3) (wanted_put oi a oj.dst u h3)
  unfold yOp at *
  simp only [hj] at *
  rw [wanted_put oj a oi.dst v h1] at h
  split
  · rename_i hw
    rw [if_pos hw, execOp_put oj hsj a oi.dst v h1] at h
    exact Yield.mono h fun u w' hk => ⟨keep u, by rw [← Act.put_comm a v u h2]; exact hk⟩
  · rename_i hw
    rw [if_neg hw] at h
    exact ⟨keep undef, by rw [← Act.put_comm a v undef h2]; exact h⟩

theorem yAny_mono {C C' : Nat → World → World → Prop} {K : Act → World → Prop} (hCC : ∀ j w w', C' j w w' → C j w w') : ∀ (f : Nat) (l : Array Bool) (a : Act) (w : World), yAny P ops C' K f l a w → yAny P ops C K f l a w
  | 0, _, _, _, h => h
  | f + 1, _, _, _, h => ⟨h.1, fun i hi => yOp_mono (h.2 i hi) fun _ _ h' => ⟨hCC _ _ _ h'.1, yAny_mono hCC f _ _ _ h'.2⟩⟩

theorem yAny_take {C C' : Nat → World → World → Prop} {Cell : World → Prop} {K : Act → World → Prop} {i : Nat} {oi : Oper} {v : Value} (hi : ops[i]? = some oi)
    (hsel : ∀ (j : Nat) (o : Oper) cs b, ops[j]? = some o → o.op ≠ .select cs b)
    (hCC : ∀ j w w', C' j w w' → C j w w') (hself : ∀ w, C i w w) :
    ∀ (f : Nat) (listed : Array Bool) (a : Act) (w : World), Closed ops listed →
      (∀ j oj, ops[j]? = some oj → j ≠ i → listed.getD j true = false → (∀ e ∈ oj.after, Region.binds .any e = true → e.on ≠ i) → oi.apart ops oj = true) →
      (∀ j oj, ops[j]? = some oj → j ≠ i → listed.getD j true = false → Ahead ops i j ∨ ∀ w w', C' j w w' → Cell w → Cell w') →
      i ∈ Region.ready .any ops listed → YieldsC P ops Cell oi v a → Cell w →
      yAny P ops C' K f (listed.setIfInBounds i true) (a.put oi.dst v) w → yAny P ops C K (f + 1) listed a w := by
  intro f
  induction f with
  | zero =>
    intro listed a w _ _ _ hr hy hw H
    refine ⟨fun h => (by rw [h] at hr; cases hr), fun j hj => ?_⟩
    by_cases hji : j = i
    · subst hji; exact hy.yOp hi hw ⟨hself w, H⟩
    · have := ready_mono hj hji
      rw [H.1] at this
      cases this
  | succ f ih =>
    intro listed a w hcl hfree hU hr hy hw H
    refine ⟨fun h => (by rw [h] at hr; cases hr), fun j hj => ?_⟩
    by_cases hji : j = i
    · subst hji; exact hy.yOp hi hw ⟨hself w, yAny_mono hCC _ _ _ _ H⟩
    · have h1 := H.2 j (ready_mono hj hji)
      obtain ⟨hjun, oj, hoj, hall⟩ := mem_ready.1 hj
      have hnot : ∀ e ∈ oj.after, Region.binds .any e = true → e.on ≠ i := fun e he hb heq => by
        have h1 := hall e he hb
        rw [heq, listed_false hr] at h1
        cases h1
      have h2 := yOp_put hoj (hfree j oj hoj hji hjun hnot) (fun cs b => hsel i oi cs b hi) (fun cs b => hsel j oj cs b hoj) hy h1
      refine yOp_mono h2 fun a' w' ⟨hy', hC', hrest⟩ => ⟨hCC _ _ _ hC', ?_⟩
      have hcell : Cell w' := by
        rcases hU j oj hoj hji hjun with h | h
        · have := h.ready hcl hj
          rw [listed_false hr] at this
          cases this
        · exact h w w' hC' hw
      refine ih (listed.setIfInBounds j true) a' w' (hcl.set hj) ?_ ?_ (ready_mono hr (Ne.symm hji)) hy' hcell ?_
      · intro k ok hk hki hun hno
        refine hfree k ok hk hki ?_ hno
        by_cases hjk : j = k
        · subst hjk; exact hjun
        · rw [getD_set_ne true hjk] at hun; exact hun
      · intro k ok hk hki hun
        refine hU k ok hk hki ?_
        by_cases hjk : j = k
        · subst hjk; exact hjun
        · rw [getD_set_ne true hjk] at hun; exact hun
      · rw [Array.setIfInBounds_comm _ _ hji]
        exact hrest
end

/-- An order in which a region is gone through: a look (with the operations that may come ahead of it and do not look), an act, one of two acts. -/
inductive Sch where
  | done
  | sil (i : Nat) (U : List Nat) (r : Sch)
  | act (i : Nat) (r : Sch)
  | act2 (i : Nat) (r : Sch) (j : Nat) (s : Sch)

def isLoad (o : Oper) : Bool := match o.op with
  | .load _ _ => true
  | _ => false

def silOp (tab : Tab) (o : Oper) : Bool := pureOp tab o || isLoad o

def dstOf (ops : List Oper) (g : Nat) : Option Nat := match nth ops g with
  | some o => o.dst
  | none => none

/-- A slot that the fixed part of the frame does not hold. -/
def freeOf (fx : Fr) (d : Nat) : Bool := match fx.get d with
  | none => true
  | some _ => false
def freeOfO (fx : Fr) : Option Nat → Bool
  | none => true
  | some d => freeOf fx d

/-- The frame is known: a part that is written, and a fixed one. -/
structure RelX (n : Nat) (fx fr : Fr) (a : Act) : Prop where
  rel : Rel n (fr ++ fx) a
  disj : ∀ t v, fx.get t = some v → fr.get t = none

theorem Fr.get_append (fr fx : Fr) (t : Nat) : Fr.get (fr ++ fx) t = match fr.get t with
    | some v => some v
    | none => fx.get t := by
  induction fr with
  | nil => rfl
  | cons x fr ih =>
    obtain ⟨i, v⟩ := x
    simp only [List.cons_append, Fr.get]
    cases Nat.beq i t with
    | true => rfl
    | false => simpa using ih

theorem RelX.fixed {n : Nat} {fx fr : Fr} {a : Act} (h : RelX n fx fr a) : Rel n fx a :=
  ⟨h.rel.size, h.rel.defers, fun t v ht => h.rel.known t v (by rw [Fr.get_append, h.disj t v ht]; exact ht)⟩

theorem RelX.put {n : Nat} {fx fr : Fr} {a : Act} (h : RelX n fx fr a) {d : Option Nat} (hd : putOK n d = true) (hf : freeOfO fx d = true) (v : Value) : RelX n fx (fr.put d v) (a.put d v) := by
  have := h.rel.put hd v
  cases d with
  | none => exact ⟨this, h.disj⟩
  | some d =>
    refine ⟨this, fun t u ht => ?_⟩
    simp only [Fr.put, Fr.get]
    cases hb : Nat.beq d t with
    | true =>
      have := Nat.eq_of_beq_eq_true hb
      subst this
      simp [freeOfO, freeOf, ht] at hf
    | false => simpa using h.disj t u ht

theorem RelX.learn {n : Nat} {fx fr : Fr} {a : Act} (h : RelX n fx fr a) {d : Nat} {v : Value} (hd : Fr.get (fr ++ fx) d = some v) (hf : freeOf fx d = true) : RelX n fx ((d, v) :: fr) a := by
  refine ⟨h.rel.learn hd, fun t u ht => ?_⟩
  simp only [Fr.get]
  cases hb : Nat.beq d t with
  | true =>
    have := Nat.eq_of_beq_eq_true hb
    subst this
    simp [freeOf, ht] at hf
  | false => simpa using h.disj t u ht

def withGuard (ops : List Oper) (o : Oper) (fx fr : Fr) (yes no : Fr → Prop) : Prop :=
  match o.guard with
  | none => yes fr
  | some (g, want) => match dstOf ops g with
    | none => False
    | some s => bif freeOf fx s then (match Fr.get (fr ++ fx) s with
      | some (.bool b) => ifB b (bif want then yes ((s, .bool true) :: fr) else no ((s, .bool true) :: fr)) (bif want then no ((s, .bool false) :: fr) else yes ((s, .bool false) :: fr))
      | some (.tuple _) => no fr
      | _ => False) else False

theorem withGuard.sound {ops : List Oper} {o : Oper} {n : Nat} {fx fr : Fr} {a : Act} {yes no : Fr → Prop} (hr : RelX n fx fr a) (h : withGuard ops o fx fr yes no) :
    (∃ fr', RelX n fx fr' a ∧ Region.wanted o (yielded ops.toArray a.tmps) = true ∧ yes fr') ∨ (∃ fr', RelX n fx fr' a ∧ Region.wanted o (yielded ops.toArray a.tmps) = false ∧ no fr') := by
  unfold withGuard at h
  split at h
  · rename_i hg
    exact .inl ⟨fr, hr, by simp [Region.wanted, hg], h⟩
  · rename_i g want hg
    split at h
    · exact h.elim
    · rename_i s hs
      have hd : ((ops.toArray[g]?).bind (·.dst)) = some s := by
        unfold dstOf at hs
        rw [nth_get] at hs
        split at hs
        · rename_i o' ho'
          simp [ho', hs]
        · simp at hs
      cases hfree : freeOf fx s with
      | false => rw [hfree] at h; exact h.elim
      | true =>
      rw [hfree] at h
      simp only [cond_true] at h
      split at h
      · rename_i b hb
        have hk := hr.rel.known _ _ hb
        have hl := hr.learn hb hfree
        have hy : yielded ops.toArray a.tmps g = some b := by
          unfold yielded
          rw [hd]
          simp [hk]
        cases b <;> cases want <;> simp only [ifB, cond_true, cond_false] at h
        · exact .inl ⟨_, hl, by simp [Region.wanted, hg, hy], h⟩
        · exact .inr ⟨_, hl, by simp [Region.wanted, hg, hy], h⟩
        · exact .inr ⟨_, hl, by simp [Region.wanted, hg, hy], h⟩
        · exact .inl ⟨_, hl, by simp [Region.wanted, hg, hy], h⟩
      · rename_i u hb
        have hk := hr.rel.known _ _ hb
        have hy : yielded ops.toArray a.tmps g = none := by
          unfold yielded
          rw [hd]
          simp [hk]
        exact .inr ⟨_, hr, by simp [Region.wanted, hg, hy], h⟩
      · exact h.elim

section
variable (P : Program) (eqs : List Nat) (tab : Tab) (n : Nat) (ops : List Oper) (fx : Fr)

/-- A region in the order of its text. -/
def vcOps (K : Fr → World → Prop) : List Oper → Fr → World → Prop
  | [], fr, w => K fr w
  | o :: rest, fr, w => bif putOK n o.dst && freeOfO fx o.dst then
      withGuard ops o fx fr (fun fr => Op.vcC P eqs tab o (fr ++ fx) w fun v w' => vcOps K rest (fr.put o.dst v) w') (fun fr => vcOps K rest (fr.put o.dst undef) w)
    else False

def pendOf (o : Oper) (fr : Fr) (v : Value) (U : List Nat) (D : List Pend) : List Pend :=
  match U with
  | [] => D
  | U => match o.op with
    | .load t x => match ev fr x with
      | some (.pointer (some a)) => ⟨U, a, aggT tab t, v⟩ :: D
      | _ => D
    | _ => D

def obl (i : Nat) : List Pend → World → Prop → Prop
  | [], _, X => X
  | p :: D, w, X => bif p.U.elem i then cellsP w p.a p.agg p.v ∧ obl i D w X else obl i D w X

/-- A region in any order. -/
def vcSch (K : Fr → World → Prop) : Sch → Fr → World → List Pend → Prop
  | .done, fr, w, _ => K fr w
  | .sil i U r, fr, w, D => match nth ops i with
    | none => False
    | some o => bif freeOfO fx o.dst then withGuard ops o fx fr (fun fr => Op.vcC P eqs tab o (fr ++ fx) w fun v w' => vcSch K r (fr.put o.dst v) w' (pendOf tab o (fr ++ fx) v U D)) (fun fr => vcSch K r (fr.put o.dst undef) w D) else False
  | .act i r, fr, w, D => match nth ops i with
    | none => False
    | some o => bif freeOfO fx o.dst then withGuard ops o fx fr (fun fr => Op.vcC P eqs tab o (fr ++ fx) w fun v w' => obl i D w' (vcSch K r (fr.put o.dst v) w' D)) (fun fr => vcSch K r (fr.put o.dst undef) w D) else False
  | .act2 i r j s, fr, w, D =>
    (match nth ops i with
    | none => False
    | some o => bif freeOfO fx o.dst then withGuard ops o fx fr (fun fr => Op.vcC P eqs tab o (fr ++ fx) w fun v w' => obl i D w' (vcSch K r (fr.put o.dst v) w' D)) (fun fr => vcSch K r (fr.put o.dst undef) w D) else False) ∧
    (match nth ops j with
    | none => False
    | some o => bif freeOfO fx o.dst then withGuard ops o fx fr (fun fr => Op.vcC P eqs tab o (fr ++ fx) w fun v w' => obl j D w' (vcSch K s (fr.put o.dst v) w' D)) (fun fr => vcSch K s (fr.put o.dst undef) w D) else False)

/-- Of each operation a mask of those ahead of it. -/
def aheadMasks : List Oper → List Nat → List Nat
  | [], _ => []
  | o :: r, T =>
    let m := o.after.toList.foldl (fun m e => bif Region.binds .any e then m ||| (1 <<< e.on) ||| ((nth T e.on).getD 0) else m) 0
    m :: aheadMasks r (T ++ [m])

def listNe (l : List Nat) (m : List Nat) : Bool := match l, m with
  | [], [] => true
  | a :: l, b :: m => Nat.beq a b && listNe l m
  | _, _ => false

/-- May what looks come up now, and what may change what it sees? -/
def silOK (masks : List Nat) (listed : Array Bool) (i : Nat) (U : List Nat) : Bool :=
  (Region.ready .any ops.toArray listed).contains i && Region.free .any ops.toArray listed i && (match nth ops i with
    | some o => silOp tab o && putOK n o.dst && (!isLoad o || (List.range ops.length).all fun j => Nat.beq j i || listed.getD j true || (match nth ops j with
      | some oj => silOp tab oj
      | none => true) || U.elem j || ((nth masks j).getD 0).testBit i)
    | none => false)

def actOK (i : Nat) : Bool := match nth ops i with
  | some o => putOK n o.dst && !silOp tab o
  | none => false

def Sch.len : Sch → Nat
  | .done => 0
  | .sil _ _ r => r.len + 1
  | .act _ r => r.len + 1
  | .act2 _ r _ _ => r.len + 1

def chk (masks : List Nat) : Sch → Array Bool → Bool
  | .done, listed => (Region.ready .any ops.toArray listed).isEmpty
  | .sil i U r, listed => silOK tab n ops masks listed i U && chk masks r (listed.setIfInBounds i true)
  | .act i r, listed => listNe (Region.ready .any ops.toArray listed) [i] && actOK tab n ops i && chk masks r (listed.setIfInBounds i true)
  | .act2 i r j s, listed => listNe (Region.ready .any ops.toArray listed) [i, j] && Nat.beq r.len s.len && actOK tab n ops i && actOK tab n ops j && chk masks r (listed.setIfInBounds i true) && chk masks s (listed.setIfInBounds j true)

def chkAll (s : Sch) : Bool :=
  Nat.beq s.len ops.length && Region.noSelect ops.toArray && chk tab n ops (aheadMasks ops []) s (Array.replicate ops.toArray.size false)
end

theorem listNe_eq : ∀ {l m : List Nat}, listNe l m = true → l = m
  | [], [], _ => rfl
  | [], _ :: _, h => by simp [listNe] at h
  | _ :: _, [], h => by simp [listNe] at h
  | a :: l, b :: m, h => by
    simp only [listNe, Bool.and_eq_true] at h
    rw [Nat.eq_of_beq_eq_true h.1, listNe_eq h.2]

/-- The masks tell no more than is so. -/
def MasksOK (ops : Array Oper) (T : List Nat) : Prop := ∀ j i, ((nth T j).getD 0).testBit i = true → Ahead ops i j

theorem aheadMasks_ok {ops : List Oper} : ∀ (r pre : List Oper) (T : List Nat), ops = pre ++ r → T.length = pre.length → MasksOK ops.toArray T → MasksOK ops.toArray (T ++ aheadMasks r T)
  | [], pre, T, _, _, h => by simpa [aheadMasks] using h
  | o :: r, pre, T, ho, hl, h => by
    have key : ∀ (es : List Edge) (m : Nat), (∀ e ∈ es, e ∈ o.after) → (∀ i, m.testBit i = true → Ahead ops.toArray i pre.length) →
        ∀ i, (es.foldl (fun m e => bif Region.binds .any e then m ||| (1 <<< e.on) ||| ((nth T e.on).getD 0) else m) m).testBit i = true → Ahead ops.toArray i pre.length := by
      intro es
      induction es with
      | nil => intro m _ hm i hi; exact hm i hi
      | cons e es ih =>
        intro m hes hm i hi
        simp only [List.foldl_cons] at hi
        refine ih _ (fun e' he' => hes e' (by simp [he'])) ?_ i hi
        intro k hk
        have hoget : ops.toArray[pre.length]? = some o := by simp [ho]
        cases hb : Region.binds .any e with
        | false => rw [hb] at hk; exact hm k hk
        | true =>
          rw [hb] at hk
          simp only [cond_true, Nat.testBit_or, Bool.or_eq_true] at hk
          rcases hk with (hk | hk) | hk
          · exact hm k hk
          · refine Ahead.one hoget (hes e (by simp)) hb ?_
            rw [Nat.one_shiftLeft, Nat.testBit_two_pow] at hk
            simpa using hk
          · exact Ahead.more hoget (hes e (by simp)) hb (h _ _ hk)
    have hm := key o.after.toList 0 (by simp) (by simp)
    simp only [aheadMasks]
    have hT : MasksOK ops.toArray (T ++ [o.after.toList.foldl (fun m e => bif Region.binds .any e then m ||| (1 <<< e.on) ||| ((nth T e.on).getD 0) else m) 0]) := by
      intro j i hji
      rw [nth_get] at hji
      by_cases hj : j < T.length
      · rw [List.getElem?_append_left hj] at hji
        exact h j i (by rw [nth_get]; exact hji)
      · by_cases hj2 : j = T.length
        · subst hj2
          simp at hji
          rw [hl]
          exact hm i (by simpa using hji)
        · rw [List.getElem?_eq_none (by simp; omega)] at hji
          simp at hji
    have := aheadMasks_ok r (pre ++ [o]) _ (by simp [ho]) (by simp [hl]) hT
    simpa [List.append_assoc] using this

theorem masks_ok (ops : List Oper) : MasksOK ops.toArray (aheadMasks ops []) := by
  have := aheadMasks_ok (ops := ops) ops [] [] rfl rfl (by intro j i h; simp [nth] at h)
  simpa using this

section
variable {P : Program} {eqs : List Nat} {tab : Tab} {n : Nat} {ops : List Oper} {fx : Fr}

theorem vcOps.sound {K : Fr → World → Prop} {Q : Exit → Act → World → Prop} (hok : TabOK P tab) (heqs : EqsOK P tab eqs) (hQ : ∀ fr a w, RelX n fx fr a → K fr w → Q .normal a w) :
    ∀ (l : List Oper) (fr : Fr) (a : Act) (w : World), RelX n fx fr a → vcOps P eqs tab n ops fx K l fr w → wpList P ops.toArray Q l a w
  | [], fr, a, w, hr, h => hQ fr a w hr h
  | o :: l, fr, a, w, hr, h => by
    unfold vcOps at h
    cases hp : putOK n o.dst && freeOfO fx o.dst with
    | false => rw [hp] at h; exact h.elim
    | true =>
      rw [hp] at h
      simp only [cond_true] at h
      simp only [Bool.and_eq_true] at hp
      unfold wpList
      rcases withGuard.sound hr h with ⟨fr', hr', hw, h⟩ | ⟨fr', hr', hw, h⟩
      · rw [if_pos hw]
        refine .inl (Oper.wp_of_yield ?_)
        exact Yield.mono (Op.vcC.sound hr'.rel hok heqs h) fun v w' h => vcOps.sound hok heqs hQ l _ _ w' (hr'.put hp.1 hp.2 v) h
      · rw [if_neg (by simp [hw])]
        exact vcOps.sound hok heqs hQ l _ _ w (hr'.put hp.1 hp.2 undef) h

/-- What an operation of the region lets the world do. -/
def Lets (tab : Tab) (ops : List Oper) (D : List Pend) (j : Nat) (w w' : World) : Prop :=
  (∀ o, nth ops j = some o → silOp tab o = true → w' = w) ∧ ∀ p ∈ D, p.U.elem j = true → (∀ o, nth ops j = some o → silOp tab o = false) → cellsP w p.a p.agg p.v → cellsP w' p.a p.agg p.v

theorem obl.get {i : Nat} : ∀ {D : List Pend} {w : World} {X : Prop}, obl i D w X → X ∧ ∀ p ∈ D, p.U.elem i = true → cellsP w p.a p.agg p.v
  | [], _, _, h => ⟨h, by simp⟩
  | p :: D, w, X, h => by
    unfold obl at h
    cases hp : p.U.elem i with
    | true =>
      rw [hp] at h
      obtain ⟨h1, h2⟩ := h
      obtain ⟨h3, h4⟩ := obl.get h2
      exact ⟨h3, fun q hq hi => by rcases List.mem_cons.1 hq with rfl | hq; exact h1; exact h4 q hq hi⟩
    | false =>
      rw [hp] at h
      obtain ⟨h3, h4⟩ := obl.get h
      exact ⟨h3, fun q hq hi => by rcases List.mem_cons.1 hq with rfl | hq; rw [hp] at hi; cases hi; exact h4 q hq hi⟩

theorem Lets.same {D : List Pend} {j : Nat} {w : World} : Lets tab ops D j w w := ⟨fun _ _ _ => rfl, fun _ _ _ _ h => h⟩

theorem vcSch.sound {K : Fr → World → Prop} {K' : Act → World → Prop} (hok : TabOK P tab) (heqs : EqsOK P tab eqs) (hK : ∀ fr a w, RelX n fx fr a → K fr w → K' a w) (hsel : Region.noSelect ops.toArray = true) :
    ∀ (s : Sch) (listed : Array Bool) (fr : Fr) (a : Act) (w : World) (D : List Pend), Closed ops.toArray listed → chk tab n ops (aheadMasks ops []) s listed = true → RelX n fx fr a →
      vcSch P eqs tab ops fx K s fr w D → yAny P ops.toArray (Lets tab ops D) K' s.len listed a w := by
  have stepAct : ∀ (s : Sch) (i : Nat) (listed : Array Bool) (fr : Fr) (a : Act) (w : World) (D : List Pend), actOK tab n ops i = true → RelX n fx fr a →
      (∀ (fr : Fr) (a : Act) (w : World), RelX n fx fr a → vcSch P eqs tab ops fx K s fr w D → yAny P ops.toArray (Lets tab ops D) K' s.len listed a w) →
      (match nth ops i with
        | none => False
        | some o => bif freeOfO fx o.dst then withGuard ops o fx fr (fun fr => Op.vcC P eqs tab o (fr ++ fx) w fun v w' => obl i D w' (vcSch P eqs tab ops fx K s (fr.put o.dst v) w' D)) (fun fr => vcSch P eqs tab ops fx K s (fr.put o.dst undef) w D) else False) →
      yOp P ops.toArray i (fun a' w' => Lets tab ops D i w w' ∧ yAny P ops.toArray (Lets tab ops D) K' s.len listed a' w') a w := by
    intro s i listed fr a w D hact hr ih h
    split at h
    · exact h.elim
    · rename_i o ho
      unfold actOK at hact
      rw [ho] at hact
      simp only [Bool.and_eq_true, Bool.not_eq_true'] at hact
      have hget : ops.toArray[i]? = some o := by rw [nth_get] at ho; simpa using ho
      cases hfo : freeOfO fx o.dst with
      | false => rw [hfo] at h; exact h.elim
      | true =>
      rw [hfo] at h
      simp only [cond_true] at h
      unfold yOp
      simp only [hget]
      rcases withGuard.sound hr h with ⟨fr', hr', hw, h⟩ | ⟨fr', hr', hw, h⟩
      · rw [if_pos hw]
        refine Yield.mono (Op.vcC.sound hr'.rel hok heqs h) fun v w' h => ?_
        obtain ⟨h1, h2⟩ := obl.get h
        refine ⟨⟨fun o' ho' hs => ?_, fun p hp hU _ _ => h2 p hp hU⟩, ih _ _ _ (hr'.put hact.1 hfo v) h1⟩
        rw [ho] at ho'
        injection ho' with ho'
        subst ho'
        rw [hact.2] at hs
        cases hs
      · rw [if_neg (by simp [hw])]
        exact ⟨Lets.same, ih _ _ _ (hr'.put hact.1 hfo undef) h⟩
  intro s
  induction s with
  | done =>
    intro listed fr a w D hcl hc hr h
    unfold chk at hc
    exact ⟨by simpa using hc, hK _ _ _ hr h⟩
  | act i r ih =>
    intro listed fr a w D hcl hc hr h
    simp only [chk, Bool.and_eq_true] at hc
    obtain ⟨⟨h1, h2⟩, h3⟩ := hc
    have hrd := listNe_eq h1
    refine ⟨fun h0 => (by rw [hrd] at h0; cases h0), fun i' hi' => ?_⟩
    have : i' = i := by rw [hrd] at hi'; simpa using hi'
    subst this
    exact stepAct r i' _ fr a w D h2 hr (fun fr a w hr h => ih _ fr a w D (hcl.set hi') h3 hr h) h
  | act2 i r j s ih1 ih2 =>
    intro listed fr a w D hcl hc hr h
    simp only [chk, Bool.and_eq_true] at hc
    obtain ⟨⟨⟨⟨⟨h1, hl⟩, h2⟩, h2'⟩, h3⟩, h3'⟩ := hc
    have hrd := listNe_eq h1
    have hlen : r.len = s.len := Nat.eq_of_beq_eq_true hl
    refine ⟨fun h0 => (by rw [hrd] at h0; cases h0), fun i' hi' => ?_⟩
    have hi2 : i' = i ∨ i' = j := by rw [hrd] at hi'; simpa using hi'
    rcases hi2 with e | e
    · subst e
      exact stepAct r i' _ fr a w D h2 hr (fun fr a w hr h => ih1 _ fr a w D (hcl.set hi') h3 hr h) h.1
    · subst e
      have := stepAct s i' _ fr a w D h2' hr (fun fr a w hr h => ih2 _ fr a w D (hcl.set hi') h3' hr h) h.2
      rw [← hlen] at this
      exact this
  | sil i U r ih =>
    intro listed fr a w D hcl hc hr h
    simp only [chk, Bool.and_eq_true] at hc
    obtain ⟨h1, h3⟩ := hc
    unfold silOK at h1
    simp only [Bool.and_eq_true] at h1
    obtain ⟨⟨hrdy, hfree⟩, h2⟩ := h1
    have hi : i ∈ Region.ready .any ops.toArray listed := by simpa using hrdy
    simp only [vcSch] at h
    split at h
    · exact h.elim
    · rename_i o ho
      rw [ho] at h2
      simp only [Bool.and_eq_true] at h2
      obtain ⟨⟨hsil, hput⟩, hU⟩ := h2
      have hget : ops.toArray[i]? = some o := by rw [nth_get] at ho; simpa using ho
      cases hfo : freeOfO fx o.dst with
      | false => rw [hfo] at h; exact h.elim
      | true =>
      rw [hfo] at h
      simp only [cond_true] at h
      have hsame : ∀ w, Lets tab ops D i w w := fun w => Lets.same
      have hfr := Region.free_spec hget hfree
      have hns := Region.noSelect_spec hsel
      -- what is not ahead keeps what a load sees
      have keep : ∀ (a : Addr) (ag : Bool) (v : Value), isLoad o = true → ∀ (D' : List Pend), (∀ p, p = ⟨U, a, ag, v⟩ → U ≠ [] → p ∈ D') → ∀ j oj, ops.toArray[j]? = some oj → j ≠ i → listed.getD j true = false →
          Ahead ops.toArray i j ∨ ∀ w w', Lets tab ops D' j w w' → cellsP w a ag v → cellsP w' a ag v := by
        intro a' ag v hl D' hD' j oj hoj' hji hjl
        rw [hl] at hU
        simp only [Bool.not_true, Bool.false_or, List.all_eq_true, List.mem_range] at hU
        have hjlt : j < ops.length := by
          have := (Array.getElem?_eq_some_iff.1 hoj').1
          simpa using this
        have hoj : nth ops j = some oj := by rw [nth_get]; simpa using hoj'
        have := hU j hjlt
        simp only [Bool.or_eq_true] at this
        have hne : Nat.beq j i = false := by
          cases hb : Nat.beq j i with
          | false => rfl
          | true => exact absurd (Nat.eq_of_beq_eq_true hb) hji
        rw [hne, hjl] at this
        simp only [Bool.false_eq_true, false_or] at this
        rw [hoj] at this
        rcases this with (hs | hu) | hm
        · right
          intro w w' hlets hc
          rw [hlets.1 oj hoj hs]
          exact hc
        · right
          intro w w' hlets hc
          by_cases hs : silOp tab oj = true
          · rw [hlets.1 oj hoj hs]; exact hc
          · have hne : U ≠ [] := by intro e; rw [e] at hu; simp at hu
            exact hlets.2 _ (hD' _ rfl hne) hu (fun o' ho' => by rw [hoj] at ho'; injection ho' with ho'; subst ho'; simpa using hs) hc
        · exact .inl (masks_ok ops j i hm)
      have nokeep : isLoad o = false → ∀ (D' : List Pend) j oj, ops.toArray[j]? = some oj → j ≠ i → listed.getD j true = false →
          Ahead ops.toArray i j ∨ ∀ w w', Lets tab ops D' j w w' → True → True := fun _ _ _ _ _ _ _ => .inr fun _ _ _ h => h
      have sub : ∀ (D' : List Pend), (∀ p ∈ D, p ∈ D') → ∀ j w w', Lets tab ops D' j w w' → Lets tab ops D j w w' := fun D' hD j w w' h => ⟨h.1, fun p hp => h.2 p (hD p hp)⟩
      have hpend : ∀ (fr : Fr) (v : Value), ∀ p ∈ D, p ∈ pendOf tab o fr v U D := by
        intro fr v p hp
        unfold pendOf
        split
        · exact hp
        · split
          · split
            · exact List.mem_cons_of_mem _ hp
            · exact hp
          · exact hp
      rcases withGuard.sound hr h with ⟨fr', hr', hw, h⟩ | ⟨fr', hr', hw, h⟩
      · by_cases hl : isLoad o = true
        · -- a load
          have hop : ∃ t x, o.op = .load t x := by
            unfold isLoad at hl
            split at hl
            · exact ⟨_, _, ‹_›⟩
            · cases hl
          obtain ⟨t, x, hop⟩ := hop
          have hvc : ∀ w K, Op.vcC P eqs tab o (fr' ++ fx) w K = (match ev (fr' ++ fx) x with
            | some v => vLoad tab t v w K
            | none => False) := by
            intro w K
            unfold Op.vcC
            simp only [hop]
            all_goals (cases ev (fr' ++ fx) x <;> rfl)
          rw [hvc] at h
          cases hx : ev (fr' ++ fx) x with
          | none => rw [hx] at h; exact h.elim
          | some ad =>
            rw [hx] at h
            simp only at h
            obtain ⟨a', v, rfl, hK, hcell, hag⟩ := vLoad.again h
            refine yAny_take (Cell := fun w => cellsP w a' (aggT tab t) v) hget (fun j o cs b hj => hns j o cs b hj) (sub _ (hpend (fr' ++ fx) v)) hsame _ _ _ _ hcl hfr ?_ hi (.inl ⟨hw, ?_⟩) hcell (ih _ _ _ _ _ (hcl.set hi) h3 (hr'.put hput hfo v) hK)
            · refine keep a' (aggT tab t) v hl _ ?_
              intro p hp hne
              unfold pendOf
              split
              · exact absurd rfl hne
              · rw [hop]
                simp only [hx]
                rw [hp]
                exact List.mem_cons_self
            · intro w' hc' K2 hK2
              refine Op.vcC.sound hr'.rel hok heqs ?_
              rw [hvc, hx]
              exact hag w' K2 hc' hK2
        · have hpo : pureOp tab o = true := by
            unfold silOp at hsil
            simpa [hl] using hsil
          have hnl : isLoad o = false := by simpa using hl
          rcases det_pure (P := P) (eqs := eqs) (fr := fr' ++ fx) hpo with ⟨v, hv⟩ | hv
          · rw [hv] at h
            refine yAny_take (Cell := fun _ => True) hget (fun j o cs b hj => hns j o cs b hj) (sub _ (hpend (fr' ++ fx) v)) hsame _ _ _ _ hcl hfr (nokeep hnl _) hi (.inl ⟨hw, fun w' _ K2 hK2 => Op.vcC.sound hr'.rel hok heqs ((hv _ _).2 hK2)⟩) trivial (ih _ _ _ _ _ (hcl.set hi) h3 (hr'.put hput hfo v) h)
          · exact (hv _ _ h).elim
      · refine yAny_take (Cell := fun _ => True) hget (fun j o cs b hj => hns j o cs b hj) (fun _ _ _ h => h) hsame _ _ _ _ hcl hfr (fun _ _ _ _ _ => .inr fun _ _ _ h => h) hi (.inr ⟨hw, rfl⟩) trivial (ih _ _ _ _ _ (hcl.set hi) h3 (hr'.put hput hfo undef) h)

theorem region_draw {K : Fr → World → Prop} {Q : Exit → Act → World → Prop} {id : Nat} {s : Sch} {fr : Fr} {a : Act} {w : World} (hm : P.follows .mixedOrders = true) (hok : TabOK P tab) (heqs : EqsOK P tab eqs)
    (hQ : ∀ fr a w, RelX n fx fr a → K fr w → Q .normal a w) (hc : chkAll tab n ops s = true) (hr : RelX n fx fr a) (h : vcSch P eqs tab ops fx K s fr w.drew []) : (Code.region id ops.toArray true).wp P Q a w := by
  unfold chkAll at hc
  simp only [Bool.and_eq_true] at hc
  obtain ⟨⟨h1, h2⟩, h3⟩ := hc
  refine wp_region_any hm ?_
  have hlen : s.len = ops.toArray.size := by simpa using Nat.eq_of_beq_eq_true h1
  have hcl : Closed ops.toArray (Array.replicate ops.toArray.size false) := by
    intro j o _ hl
    exfalso
    by_cases hj : j < ops.toArray.size
    · simp [Array.getElem?_replicate, hj] at hl
      simp at hj
      simp [hj] at hl
    · simp only [Array.getD_eq_getD_getElem?, Array.getElem?_replicate, hj, ↓reduceIte] at hl
      simp at hl
  have := vcSch.sound (K' := fun a w => Q .normal a w) hok heqs hQ h2 s _ fr a w.drew [] hcl h3 hr h
  rw [hlen] at this
  exact yAny_wpAny (fun _ _ h => h) _ _ _ _ this

theorem region_text {K : Fr → World → Prop} {Q : Exit → Act → World → Prop} {id : Nat} {fr : Fr} {a : Act} {w : World} (hok : TabOK P tab) (heqs : EqsOK P tab eqs)
    (hQ : ∀ fr a w, RelX n fx fr a → K fr w → Q .normal a w) (hr : RelX n fx fr a) (h : vcOps P eqs tab n ops fx K ops fr w) : (Code.region id ops.toArray false).wp P Q a w :=
  wp_region_lit (vcOps.sound hok heqs hQ ops fr a w hr h)
end

/-! ### telescopes -/
def Tel (R : Type) : List Leaf → Type
  | [] => R
  | .bool :: ls => Bool → Tel R ls
  | .int _ :: ls => Int → Tel R ls
  | .str :: ls => ByteArray → Tel R ls
  | .ptr :: ls => Option Addr → Tel R ls
  | .slice :: ls => Option Addr → Nat → Nat → Tel R ls
  | .map :: ls => Option Nat → Tel R ls
  | .iface :: ls => Value → Tel R ls
  | .func :: ls => Value → Tel R ls

def Tel.app {R : Type} (d : R) : (ls : List Leaf) → Tel R ls → List Value → R
  | [], f, _ => f
  | .bool :: ls, f, .bool b :: vs => Tel.app d ls (f b) vs
  | .int _ :: ls, f, .int _ n :: vs => Tel.app d ls (f n) vs
  | .str :: ls, f, .string s :: vs => Tel.app d ls (f s) vs
  | .ptr :: ls, f, .pointer p :: vs => Tel.app d ls (f p) vs
  | .slice :: ls, f, .slice p n c :: vs => Tel.app d ls (f p n c) vs
  | .map :: ls, f, .map r :: vs => Tel.app d ls (f r) vs
  | .iface :: ls, f, v :: vs => Tel.app d ls (f v) vs
  | .func :: ls, f, v :: vs => Tel.app d ls (f v) vs
  | _ :: _, _, _ => d

def telAll : List Leaf → (List Value → Prop) → Prop
  | [], K => K []
  | .bool :: ls, K => ∀ b : Bool, telAll ls fun vs => K (.bool b :: vs)
  | .int k :: ls, K => ∀ n : Int, telAll ls fun vs => K (.int k n :: vs)
  | .str :: ls, K => ∀ s : ByteArray, telAll ls fun vs => K (.string s :: vs)
  | .ptr :: ls, K => ∀ p : Option Addr, telAll ls fun vs => K (.pointer p :: vs)
  | .slice :: ls, K => ∀ (p : Option Addr) (n c : Nat), telAll ls fun vs => K (.slice p n c :: vs)
  | .map :: ls, K => ∀ r : Option Nat, telAll ls fun vs => K (.map r :: vs)
  | .iface :: ls, K => ∀ v : Value, telAll ls fun vs => K (v :: vs)
  | .func :: ls, K => ∀ v : Value, telAll ls fun vs => K (v :: vs)

def fitsL : List Leaf → List Value → Bool
  | [], [] => true
  | .bool :: ls, .bool _ :: vs => fitsL ls vs
  | .int k :: ls, .int k' _ :: vs => ikEq k k' && fitsL ls vs
  | .str :: ls, .string _ :: vs => fitsL ls vs
  | .ptr :: ls, .pointer _ :: vs => fitsL ls vs
  | .slice :: ls, .slice _ _ _ :: vs => fitsL ls vs
  | .map :: ls, .map _ :: vs => fitsL ls vs
  | .iface :: ls, _ :: vs => fitsL ls vs
  | .func :: ls, _ :: vs => fitsL ls vs
  | _, _ => false

theorem telAll.get : ∀ {ls : List Leaf} {K : List Value → Prop} {vs : List Value}, telAll ls K → fitsL ls vs = true → K vs
  | [], _, [], h, _ => h
  | [], _, _ :: _, _, hf => by simp [fitsL] at hf
  | l :: ls, _, [], _, hf => by cases l <;> simp [fitsL] at hf
  | l :: ls, K, v :: vs, h, hf => by
    cases l <;> first
      | exact telAll.get (K := fun vs => K (v :: vs)) (h v) hf
      | (cases v <;> simp only [fitsL, Bool.false_eq_true, Bool.and_eq_true] at hf)
    case bool b => exact telAll.get (K := fun vs => K (.bool b :: vs)) (h b) hf
    case int k k' n => obtain ⟨h1, h2⟩ := hf; have := ikEq_eq h1; subst this; exact telAll.get (K := fun vs => K (.int k n :: vs)) (h n) h2
    case str s => exact telAll.get (K := fun vs => K (.string s :: vs)) (h s) hf
    case ptr p => exact telAll.get (K := fun vs => K (.pointer p :: vs)) (h p) hf
    case slice p n c => exact telAll.get (K := fun vs => K (.slice p n c :: vs)) (h p n c) hf
    case map r => exact telAll.get (K := fun vs => K (.map r :: vs)) (h r) hf

/-! ### slots of the frame as cells, and back -/
abbrev Slots := List (Nat × Nat)

def slotLeaves (tab : Tab) : Slots → Option (List Leaf)
  | [] => some []
  | (_, t) :: r => match tab.get t with
    | some ti => match ti.kind with
      | .tuple _ => none
      | .other => none
      | _ => match slotLeaves tab r with
        | some ls => some (ti.leaves ++ ls)
        | none => none
    | none => none

def slotCells (tab : Tab) (fr : Fr) : Slots → Option (List Value)
  | [] => some []
  | (s, t) :: r => match tab.get t with
    | some ti => match ti.kind with
      | .tuple _ => none
      | .other => none
      | .leaf _ _ => match fr.get s with
        | some v => match slotCells tab fr r with
          | some vs => some (v :: vs)
          | none => none
        | none => none
      | _ => match fr.get s with
        | some (.agg cs) => bif Nat.beq cs.toList.length ti.leaves.length then (match slotCells tab fr r with
          | some vs => some (cs.toList ++ vs)
          | none => none) else none
        | _ => none
    | none => none

def slotFr (tab : Tab) : Slots → List Value → Fr
  | [], _ => []
  | (s, t) :: r, vs => match tab.get t with
    | some ti => match ti.kind with
      | .tuple _ => []
      | .other => []
      | .leaf _ _ => match vs with
        | v :: vs => (s, v) :: slotFr tab r vs
        | [] => []
      | _ => (s, .agg (takeL ti.leaves.length vs).toArray) :: slotFr tab r (dropL ti.leaves.length vs)
    | none => []

def slotsFree (fx : Fr) : Slots → Bool
  | [] => true
  | (s, _) :: r => freeOf fx s && slotsFree fx r

theorem slotFr_get {tab : Tab} {fr : Fr} : ∀ {sl : Slots} {vs : List Value}, slotCells tab fr sl = some vs → ∀ t v, (slotFr tab sl vs).get t = some v → fr.get t = some v
  | [], _, _, t, v, h => by simp [slotFr, Fr.get] at h
  | (s, ty) :: r, vs, hc, t, v, h => by
    unfold slotCells at hc
    unfold slotFr at h
    split at hc
    · rename_i ti hg
      rw [hg] at h
      simp only at h
      split at hc
      · simp at hc
      · simp at hc
      · rename_i l e hk
        rw [hk] at h
        simp only at h
        split at hc
        · rename_i u hu
          split at hc
          · rename_i us hus
            simp at hc
            subst hc
            simp only [Fr.get] at h
            cases hb : Nat.beq s t with
            | true => rw [hb] at h; simp at h; have := Nat.eq_of_beq_eq_true hb; subst this; subst h; exact hu
            | false => rw [hb] at h; exact slotFr_get hus t v (by simpa using h)
          · simp at hc
        · simp at hc
      · rename_i h1 h2 h3
        split at hc
        · rename_i cs hcs
          cases hl : Nat.beq cs.toList.length ti.leaves.length with
          | false => rw [hl] at hc; simp at hc
          | true =>
            rw [hl] at hc
            simp only [cond_true] at hc
            split at hc
            · rename_i us hus
              simp at hc
              have hlen : ti.leaves.length = cs.toList.length := (Nat.eq_of_beq_eq_true hl).symm
              have h' : Fr.get ((s, .agg (takeL ti.leaves.length vs).toArray) :: slotFr tab r (dropL ti.leaves.length vs)) t = some v := by
                cases hk : ti.kind <;> simp_all
              rw [takeL_eq, dropL_eq, ← hc, hlen] at h'
              simp only [Array.length_toList] at h'
              rw [show cs.size = cs.toList.length by simp, List.take_left', List.drop_left'] at h'
              · simp only [Fr.get] at h'
                cases hb : Nat.beq s t with
                | true => rw [hb] at h'; simp at h'; have := Nat.eq_of_beq_eq_true hb; subst this; subst h'; exact hcs
                | false => rw [hb] at h'; exact slotFr_get hus t v (by simpa using h')
              · rfl
              · rfl
            · simp at hc
        · simp at hc
    · simp at hc

theorem slotFr_keys {tab : Tab} : ∀ {sl : Slots} {vs : List Value} {fx : Fr}, slotsFree fx sl = true → ∀ t v, fx.get t = some v → (slotFr tab sl vs).get t = none
  | [], _, _, _, t, v, _ => by simp [slotFr, Fr.get]
  | (s, ty) :: r, vs, fx, hf, t, v, hv => by
    simp only [slotsFree, Bool.and_eq_true] at hf
    have hne : Nat.beq s t = false := by
      cases hb : Nat.beq s t with
      | false => rfl
      | true =>
        have := Nat.eq_of_beq_eq_true hb
        subst this
        simp [freeOf, hv] at hf
    have ih := fun vs => slotFr_keys (tab := tab) (sl := r) (vs := vs) hf.2 t v hv
    unfold slotFr
    split
    · split
      · rfl
      · rfl
      · split
        · simp only [Fr.get, hne, cond_false]; exact ih _
        · rfl
      · simp only [Fr.get, hne, cond_false]; exact ih _
    · rfl

theorem Fr.pick_get {fr : Fr} : ∀ {ks : List Nat} {t : Nat} {v : Value}, (fr.pick ks).get t = some v → fr.get t = some v
  | [], t, v, h => by simp [Fr.pick, Fr.get] at h
  | k :: ks, t, v, h => by
    unfold Fr.pick at h
    split at h
    · rename_i u hu
      simp only [Fr.get] at h
      cases hb : Nat.beq k t with
      | true => rw [hb] at h; simp at h; have := Nat.eq_of_beq_eq_true hb; subst this; subst h; exact hu
      | false => rw [hb] at h; exact Fr.pick_get (by simpa using h)
    · exact Fr.pick_get h

/-- The rest. -/
def Fr.without (ks : List Nat) : Fr → Fr
  | [] => []
  | (i, v) :: r => bif ks.elem i then Fr.without ks r else (i, v) :: Fr.without ks r

theorem Fr.without_get {ks : List Nat} : ∀ {fr : Fr} {t : Nat}, (Fr.without ks fr).get t = bif ks.elem t then none else fr.get t
  | [], t => by simp [Fr.without, Fr.get]
  | (i, v) :: r, t => by
    unfold Fr.without
    have ih := Fr.without_get (ks := ks) (fr := r) (t := t)
    cases hi : ks.elem i with
    | true =>
      simp only [cond_true, ih, Fr.get]
      cases hb : Nat.beq i t with
      | true => have := Nat.eq_of_beq_eq_true hb; subst this; rw [hi]; rfl
      | false => rfl
    | false =>
      simp only [cond_false, Fr.get]
      cases hb : Nat.beq i t with
      | true => have := Nat.eq_of_beq_eq_true hb; subst this; rw [hi]; rfl
      | false => simpa using ih

theorem Fr.pick_mem {fr : Fr} : ∀ {ks : List Nat} {t : Nat} {v : Value}, (fr.pick ks).get t = some v → ks.elem t = true
  | [], t, v, h => by simp [Fr.pick, Fr.get] at h
  | k :: ks, t, v, h => by
    unfold Fr.pick at h
    split at h
    · rename_i u hu
      simp only [Fr.get] at h
      cases hb : Nat.beq k t with
      | true => have := Nat.eq_of_beq_eq_true hb; subst this; simp
      | false => rw [hb] at h; have := Fr.pick_mem (by simpa using h); simp at this ⊢; exact .inr this
    · have := Fr.pick_mem h; simp at this ⊢; exact .inr this

/-- Some slots are fixed from here on. -/
theorem RelX.fix {n : Nat} {fx fr : Fr} {a : Act} (h : RelX n fx fr a) (ks : List Nat) : RelX n (fr.pick ks ++ fx) (Fr.without ks fr) a := by
  refine ⟨⟨h.rel.size, h.rel.defers, fun t v ht => h.rel.known t v ?_⟩, fun t v ht => ?_⟩
  · rw [Fr.get_append, Fr.without_get, Fr.get_append] at ht
    rw [Fr.get_append]
    cases he : ks.elem t with
    | false =>
      rw [he] at ht
      simp only [cond_false] at ht
      cases hg : fr.get t with
      | some u => rw [hg] at ht; exact ht
      | none =>
        rw [hg] at ht
        simp only at ht
        cases hp : (fr.pick ks).get t with
        | some u => have := Fr.pick_get hp; rw [hg] at this; cases this
        | none => rw [hp] at ht; exact ht
    | true =>
      rw [he] at ht
      simp only [cond_true] at ht
      cases hp : (fr.pick ks).get t with
      | some u => rw [hp] at ht; rw [Fr.pick_get hp]; exact ht
      | none =>
        rw [hp] at ht
        simp only at ht
        rw [h.disj t v ht]
        exact ht
  · rw [Fr.without_get]
    rw [Fr.get_append] at ht
    cases hp : (fr.pick ks).get t with
    | some u => rw [Fr.pick_mem hp]; rfl
    | none =>
      rw [hp] at ht
      simp only at ht
      rw [h.disj t v ht]
      cases ks.elem t <;> rfl

/-- Back again: what was fixed is a part of the frame like another. -/
theorem RelX.unfix {n : Nat} {fx kf fr : Fr} {a : Act} (h : RelX n (kf ++ fx) fr a) (hkf : ∀ t v, fx.get t = some v → kf.get t = none) : RelX n fx (fr ++ kf) a := by
  refine ⟨by rw [List.append_assoc]; exact h.rel, fun t v ht => ?_⟩
  have := h.disj t v (by rw [Fr.get_append, hkf t v ht]; exact ht)
  rw [Fr.get_append, this]
  exact hkf t v ht

theorem RelX.slots {tab : Tab} {n : Nat} {fx fr : Fr} {a : Act} {sl : Slots} {cs : List Value} (h : RelX n fx fr a) (hc : slotCells tab fr sl = some cs) (hf : slotsFree fx sl = true) : RelX n fx (slotFr tab sl cs) a := by
  have hk := slotFr_keys (tab := tab) (vs := cs) hf
  refine ⟨⟨h.rel.size, h.rel.defers, fun t v ht => h.rel.known t v ?_⟩, hk⟩
  rw [Fr.get_append] at ht ⊢
  cases hs : (slotFr tab sl cs).get t with
  | some u => rw [hs] at ht; rw [slotFr_get hc t u hs]; exact ht
  | none =>
    rw [hs] at ht
    simp only at ht
    rw [h.disj t v ht]
    exact ht

/-! ### the code -/
structure Ann where
  sch : List (Nat × Sch)
  loops : List (Nat × Slots × List Nat)
  cuts : List (Nat × Slots × List Nat)

def findN {α : Type} : List (Nat × α) → Nat → Option α
  | [], _ => none
  | (i, x) :: r, k => bif Nat.beq i k then some x else findN r k

def firstReg : Code → Option Nat
  | .region id _ _ => some id
  | .seq a b => match firstReg a with
    | some r => some r
    | none => firstReg b
  | .cond _ a b => match firstReg a with
    | some r => some r
    | none => firstReg b
  | .block _ c => firstReg c
  | .loop c => firstReg c
  | _ => none

def annAt {α : Type} (l : List (Nat × α)) (c : Code) : Option α := match firstReg c with
  | some r => findN l r
  | none => none

def falseW : World → Prop := fun _ => False
def zeroW : World → Nat := fun _ => 0

section
variable (P : Program) (eqs : List Nat) (tab : Tab) (n : Nat) (an : Ann)

def vc : Code → Fr → (Fr → World → Prop) → (Nat → Fr → World → Prop) → (Fr → World → Prop) → Fr → World → Prop
  | .skip, _, QN, _, _, fr, w => QN fr w
  | .ret, _, _, _, QR, fr, w => QR fr w
  | .exit id, _, _, QX, _, fr, w => QX id fr w
  | .region id ops draw, fx, QN, _, _, fr, w => match draw with
    | false => vcOps P eqs tab n ops.toList fx QN ops.toList fr w
    | true => match findN an.sch id with
      | some s => bif chkAll tab n ops.toList s then vcSch P eqs tab ops.toList fx QN s fr w.drew [] else False
      | none => False
  | .cond c x y, fx, QN, QX, QR, fr, w => match ev (fr ++ fx) c with
    | some (.bool b) => ifB b (vc x fx QN QX QR fr w) (vc y fx QN QX QR fr w)
    | _ => False
  | .block id c, fx, QN, QX, QR, fr, w => vc c fx QN (fun i fr w => bif Nat.beq i id then QN fr w else QX i fr w) QR fr w
  | .seq x y, fx, QN, QX, QR, fr, w => match annAt an.cuts y with
    | none => vc x fx (fun fr w => vc y fx QN QX QR fr w) QX QR fr w
    | some (sl, ks) => match slotLeaves tab sl with
      | none => False
      | some ls => bif slotsFree (fr.pick ks ++ fx) sl then
          ∃ J : Tel (World → Prop) ls,
            vc x (fr.pick ks ++ fx) (fun fr' w' => match slotCells tab fr' sl with
              | some cs => bif fitsL ls cs then Tel.app falseW ls J cs w' else False
              | none => False) (fun i fr' w' => QX i (fr' ++ fr.pick ks) w') (fun fr' w' => QR (fr' ++ fr.pick ks) w') (Fr.without ks fr) w ∧
            telAll ls fun cs => ∀ w', Tel.app falseW ls J cs w' → vc y fx QN QX QR (slotFr tab sl cs ++ fr.pick ks) w'
        else False
  | .loop c, fx, _, QX, QR, fr, w => match annAt an.loops c with
    | none => False
    | some (sl, ks) => match slotLeaves tab sl with
      | none => False
      | some ls => bif slotsFree (fr.pick ks ++ fx) sl then
          ∃ (I : Tel (World → Prop) ls) (μ : Tel (World → Nat) ls),
            (match slotCells tab (Fr.without ks fr) sl with
              | some cs => bif fitsL ls cs then Tel.app falseW ls I cs w else False
              | none => False) ∧
            telAll ls fun cs => ∀ w', Tel.app falseW ls I cs w' →
              vc c (fr.pick ks ++ fx) (fun fr' w'' => match slotCells tab fr' sl with
                | some cs' => bif fitsL ls cs' then Tel.app falseW ls I cs' w'' ∧ Tel.app zeroW ls μ cs' w'' < Tel.app zeroW ls μ cs w' else False
                | none => False) (fun i fr' w' => QX i (fr' ++ fr.pick ks) w') (fun fr' w' => QR (fr' ++ fr.pick ks) w') (slotFr tab sl cs) w'
        else False
  | _, _, _, _, _, _, _ => False
end

theorem least {p : Nat → Prop} : ∀ m, p m → ∃ k, p k ∧ ∀ j, p j → k ≤ j := by
  intro m
  induction m using Nat.strongRecOn with
  | _ m ih =>
    intro hm
    by_cases h : ∃ j, j < m ∧ p j
    · obtain ⟨j, hj, hp⟩ := h
      exact ih j hj hp
    · exact ⟨m, hm, fun j hj => Nat.le_of_not_lt fun hlt => h ⟨j, hlt, hj⟩⟩

/-- A loop whose relation bears an index. -/
theorem wp_loop_ix {P : Program} {c : Code} {Q : Exit → Act → World → Prop} {a : Act} {w : World} {ι : Type} (I : ι → Act → World → Prop) (μ : ι → World → Nat) (i0 : ι) (h0 : I i0 a w)
    (round : ∀ i a w, I i a w → c.wp P (Exit.then (fun a' w' => ∃ j, I j a' w' ∧ μ j w' < μ i w) Q) a w) : (Code.loop c).wp P Q a w := by
  have hex : ∀ a w, (∃ i, I i a w) → ∃ k, (∃ i, I i a w ∧ μ i w = k) ∧ ∀ j, (∃ i, I i a w ∧ μ i w = j) → k ≤ j := fun a w ⟨i, hi⟩ => least (p := fun k => ∃ i, I i a w ∧ μ i w = k) (μ i w) ⟨i, hi, rfl⟩
  refine wp_loop (fun a w => ∃ i, I i a w) (fun a w => (Classical.epsilon fun k => (∃ i, I i a w ∧ μ i w = k) ∧ ∀ j, (∃ i, I i a w ∧ μ i w = j) → k ≤ j)) ⟨i0, h0⟩ ?_
  intro a w hI
  obtain ⟨⟨i, hi, hk⟩, hmin⟩ := Classical.epsilon_spec (hex a w hI)
  refine wp_mono (round i a w hi) fun e a' w' hq => ?_
  cases e with
  | normal =>
    obtain ⟨j, hj, hlt⟩ := hq
    refine ⟨⟨j, hj⟩, ?_⟩
    have := (Classical.epsilon_spec (hex a' w' ⟨j, hj⟩)).2 _ ⟨j, hj, rfl⟩
    exact Nat.lt_of_le_of_lt this (by rw [← hk]; exact hlt)
  | _ => exact hq

theorem pick_disj {fx fr : Fr} {n : Nat} {a : Act} (h : RelX n fx fr a) (ks : List Nat) : ∀ t v, fx.get t = some v → (fr.pick ks).get t = none := by
  intro t v ht
  cases hp : (fr.pick ks).get t with
  | none => rfl
  | some u => have := Fr.pick_get hp; rw [h.disj t v ht] at this; cases this

theorem vc.sound {P : Program} {eqs : List Nat} {tab : Tab} {n : Nat} {an : Ann} (hm : P.follows .mixedOrders = true) (hok : TabOK P tab) (heqs : EqsOK P tab eqs) :
    ∀ (c : Code) (fx : Fr) (QN : Fr → World → Prop) (QX : Nat → Fr → World → Prop) (QR : Fr → World → Prop) (fr : Fr) (w : World) (a : Act) (Q : Exit → Act → World → Prop), RelX n fx fr a →
      (∀ fr a w, RelX n fx fr a → QN fr w → Q .normal a w) → (∀ i fr a w, RelX n fx fr a → QX i fr w → Q (.exit i) a w) → (∀ fr a w, RelX n fx fr a → QR fr w → Q .ret a w) →
      vc P eqs tab n an c fx QN QX QR fr w → c.wp P Q a w := by
  intro c
  induction c with
  | skip => intro fx QN QX QR fr w a Q hr hN _ _ h; exact wp_skip (hN _ _ _ hr h)
  | ret => intro fx QN QX QR fr w a Q hr _ _ hR h; exact wp_ret (hR _ _ _ hr h)
  | exit id => intro fx QN QX QR fr w a Q hr _ hX _ h; exact wp_exit (hX _ _ _ _ hr h)
  | region id ops draw =>
    intro fx QN QX QR fr w a Q hr hN _ _ h
    cases draw with
    | false => exact region_text (ops := ops.toList) hok heqs hN hr h
    | true =>
      simp only [vc] at h
      split at h
      · rename_i s hs
        cases hc : chkAll tab n ops.toList s with
        | false => rw [hc] at h; exact h.elim
        | true => rw [hc] at h; exact region_draw (ops := ops.toList) hm hok heqs hN hc hr h
      · exact h.elim
  | cond c x y ihx ihy =>
    intro fx QN QX QR fr w a Q hr hN hX hR h
    simp only [vc] at h
    split at h
    · rename_i b hb
      have he := hr.rel.eval hb
      refine wp_cond he ?_
      cases b with
      | true => exact ihx _ _ _ _ _ _ _ _ hr hN hX hR h
      | false => exact ihy _ _ _ _ _ _ _ _ hr hN hX hR h
    · exact h.elim
  | block id c ih =>
    intro fx QN QX QR fr w a Q hr hN hX hR h
    refine wp_block (ih fx QN _ QR fr w a _ hr (fun fr a w hr h => hN fr a w hr h) ?_ (fun fr a w hr h => hR fr a w hr h) h)
    intro i fr a w hr h
    simp only [Exit.inBlock]
    cases hb : Nat.beq i id with
    | true =>
      rw [hb] at h
      rw [if_pos (Nat.eq_of_beq_eq_true hb)]
      exact hN _ _ _ hr h
    | false =>
      rw [hb] at h
      rw [if_neg (fun e => by rw [e] at hb; simp at hb)]
      exact hX _ _ _ _ hr h
  | seq x y ihx ihy =>
    intro fx QN QX QR fr w a Q hr hN hX hR h
    simp only [vc] at h
    split at h
    · refine wp_seq (ihx fx _ QX QR fr w a _ hr (fun fr a w hr h => ihy fx QN QX QR fr w a Q hr hN hX hR h) (fun i fr a w hr h => hX i fr a w hr h) (fun fr a w hr h => hR fr a w hr h) h)
    · rename_i sl ks hsl
      split at h
      · exact h.elim
      · rename_i ls hls
        cases hf : slotsFree (fr.pick ks ++ fx) sl with
        | false => rw [hf] at h; exact h.elim
        | true =>
          rw [hf] at h
          obtain ⟨J, hx, hy⟩ := h
          have hp := pick_disj hr ks
          refine wp_seq (ihx _ _ _ _ _ w a _ (hr.fix ks) (fun fr' a' w' hr' h' => ?_) (fun i fr' a' w' hr' h' => hX i _ a' w' (hr'.unfix hp) h') (fun fr' a' w' hr' h' => hR _ a' w' (hr'.unfix hp) h') hx)
          simp only [Exit.then]
          split at h'
          · rename_i cs hcs
            cases hfit : fitsL ls cs with
            | false => rw [hfit] at h'; exact h'.elim
            | true =>
              rw [hfit] at h'
              exact ihy fx QN QX QR _ w' a' Q ((hr'.slots hcs hf).unfix hp) hN hX hR (hy.get hfit w' h')
          · exact h'.elim
  | loop c ih =>
    intro fx QN QX QR fr w a Q hr hN hX hR h
    simp only [vc] at h
    split at h
    · exact h.elim
    · rename_i sl ks hsl
      split at h
      · exact h.elim
      · rename_i ls hls
        cases hf : slotsFree (fr.pick ks ++ fx) sl with
        | false => rw [hf] at h; exact h.elim
        | true =>
          rw [hf] at h
          obtain ⟨I, μ, h0, hround⟩ := h
          have hp := pick_disj hr ks
          have hr1 := hr.fix ks
          split at h0
          · rename_i cs0 hcs0
            cases hfit : fitsL ls cs0 with
            | false => rw [hfit] at h0; exact h0.elim
            | true =>
              rw [hfit] at h0
              refine wp_loop_ix (ι := List Value) (fun cs a w => fitsL ls cs = true ∧ RelX n (fr.pick ks ++ fx) (slotFr tab sl cs) a ∧ Tel.app falseW ls I cs w) (fun cs w => Tel.app zeroW ls μ cs w) cs0 ⟨hfit, hr1.slots hcs0 hf, h0⟩ ?_
              intro cs a1 w1 ⟨hfc, hrc, hI⟩
              refine ih _ _ _ _ _ w1 a1 _ hrc (fun fr' a' w' hr' h' => ?_) (fun i fr' a' w' hr' h' => hX i _ a' w' (hr'.unfix hp) h') (fun fr' a' w' hr' h' => hR _ a' w' (hr'.unfix hp) h') (hround.get hfc w1 hI)
              simp only [Exit.then]
              split at h'
              · rename_i cs' hcs'
                cases hfit' : fitsL ls cs' with
                | false => rw [hfit'] at h'; exact h'.elim
                | true =>
                  rw [hfit'] at h'
                  exact ⟨cs', ⟨hfit', hr'.slots hcs' hf, h'.1⟩, h'.2⟩
              · exact h'.elim
          · exact h0.elim
  | _ => intro fx QN QX QR fr w a Q _ _ _ _ h; exact (by simpa [vc] using h : False).elim

/-! ### a function -/
section
variable (P : Program) (eqs : List Nat) (tab : Tab) (an : Ann)

def vcRes : List ResultVar → Fr → World → (List Value → Prop) → Prop
  | [], _, _, K => K []
  | .tmp t :: r, fr, w, K => match fr.get t with
    | some v => vcRes r fr w fun vs => K (v :: vs)
    | none => False
  | .cell t ty :: r, fr, w, K => match fr.get t with
    | some ad => vLoad tab ty ad w fun v _ => vcRes r fr w fun vs => K (v :: vs)
    | none => False

def resVal : List Value → Value
  | [v] => v
  | vs => .tuple vs.toArray

def argFr : List Value → Nat → Fr
  | [], _ => []
  | v :: vs, i => (i, v) :: argFr vs (i + 1)

def vcFn (fn : Func) (args : List Value) (w : World) (K : Value → World → Prop) : Prop :=
  match fn.body with
  | some c => vc P eqs tab fn.ntmps an c [] (fun fr w => vcRes tab fn.results.toList fr w fun vs => K (resVal vs) w) (fun _ _ _ => False) (fun fr w => vcRes tab fn.results.toList fr w fun vs => K (resVal vs) w) (argFr args 0) w
  | none => False
end

section
variable {P : Program} {eqs : List Nat} {tab : Tab} {an : Ann}

theorem vcRes.sound {n : Nat} {fr : Fr} {a : Act} {w : World} (hok : TabOK P tab) (hr : RelX n [] fr a) : ∀ (rs : List ResultVar) (K : List Value → Prop), vcRes tab rs fr w K →
    ∃ vs : List Value, vs.length = rs.length ∧ (rs.mapM (m := Sem) fun
      | .tmp t => pure (a.tmps.getD t undef)
      | .cell c t => do loadVar t (← asAddr (a.tmps.getD c undef))).run P w = .ok vs w ∧ K vs
  | [], K, h => ⟨[], rfl, by simp, h⟩
  | .tmp t :: r, K, h => by
    unfold vcRes at h
    split at h
    · rename_i v hv
      obtain ⟨vs, hl, hrun, hK⟩ := vcRes.sound hok hr r _ h
      have := hr.rel.known t v (by simpa using hv)
      refine ⟨v :: vs, by simp [hl], ?_, hK⟩
      simp only [List.mapM_cons, Sem.run_bind, Sem.run_pure, Result.andThen_ok, hrun]
      simp [this]
    · exact h.elim
  | .cell t ty :: r, K, h => by
    unfold vcRes at h
    split at h
    · rename_i ad hv
      obtain ⟨p, v, rfl, hKv, hc, hag⟩ := vLoad.again h
      have hk := hr.rel.known t _ (by simpa using hv)
      have h2 := vLoad.sound (P := P) (K := fun v' w' => v' = v ∧ w' = w) hok (hag w _ hc ⟨rfl, rfl⟩)
      unfold Yield at h2
      simp only [Sem.run_bind, Instr.loadAt, Instr.sureAddr, Sem.run_pure, Result.andThen_ok] at h2
      cases hl : (loadVar ty p).run P w with
      | halt x y => rw [hl] at h2; exact h2.elim
      | ok v' w' =>
        rw [hl] at h2
        obtain ⟨h3, h4⟩ := h2
        subst h3 h4
        obtain ⟨vs, hlen, hrun, hK⟩ := vcRes.sound hok hr r _ hKv
        refine ⟨v' :: vs, by simp [hlen], ?_, hK⟩
        have ha : (asAddr (a.tmps.getD t undef)).run P w' = .ok p w' := by simp [hk, asAddr]
        simp only [List.mapM_cons, Sem.run_bind, ha, Result.andThen_ok, hl, hrun, Sem.run_pure]
    · exact h.elim

theorem results_run {fn : Func} {a : Act} {w : World} {vs : List Value} (h : (fn.results.toList.mapM (m := Sem) fun
      | .tmp t => pure (a.tmps.getD t undef)
      | .cell c t => do loadVar t (← asAddr (a.tmps.getD c undef))).run P w = .ok vs w) : (results fn a.tmps).run P w = .ok (resVal vs) w := by
  have key : ∀ r : Result (List Value), r = .ok vs w → ((r.andThen fun a w' => Result.ok a.toArray w').andThen fun a w' => Result.ok (if h : a.size = 1 then a[0] else Value.tuple a) w') = Result.ok (resVal vs) w := by
    rintro _ rfl
    match vs with
    | [] => rfl
    | [v] => rfl
    | _ :: _ :: _ => simp [resVal]
  unfold results
  rw [Array.mapM_eq_mapM_toList]
  simp only [Sem.run_bind, Sem.run_map, Sem.run_pure]
  exact key _ h

theorem argFr_get : ∀ (args : List Value) (i t : Nat) (v : Value), (argFr args i).get t = some v → i ≤ t ∧ args[t - i]? = some v
  | [], i, t, v, h => by simp [argFr, Fr.get] at h
  | x :: r, i, t, v, h => by
    simp only [argFr, Fr.get] at h
    cases hb : Nat.beq i t with
    | true =>
      have := Nat.eq_of_beq_eq_true hb
      subst this
      rw [hb] at h
      simp at h
      simp [h]
    | false =>
      rw [hb] at h
      obtain ⟨h1, h2⟩ := argFr_get r (i + 1) t v (by simpa using h)
      refine ⟨by omega, ?_⟩
      rw [show t - i = (t - (i + 1)) + 1 by omega]
      simpa using h2

theorem vcFn.sound {f : FuncId} {fn : Func} {args : List Value} {w : World} {K : Value → World → Prop} (hm : P.follows .mixedOrders = true) (hok : TabOK P tab) (heqs : EqsOK P tab eqs)
    (hf : P.funcs[f]? = some fn) (hl : Nat.ble args.length fn.ntmps = true) (h : vcFn P eqs tab an fn args w K) : CallsR P f args.toArray w K := by
  unfold vcFn at h
  split at h
  · rename_i c hc
    have hle : args.length ≤ fn.ntmps := Nat.le_of_ble_eq_true hl
    unfold CallsR
    refine calls_of_wp hf hc ?_
    have hr : RelX fn.ntmps [] (argFr args 0) { tmps := args.toArray ++ Array.replicate (fn.ntmps - args.toArray.size) undef, defers := [] } := by
      refine ⟨⟨by simp; omega, rfl, fun t v ht => ?_⟩, fun t v ht => by simp [Fr.get] at ht⟩
      rw [List.append_nil] at ht
      obtain ⟨_, h2⟩ := argFr_get _ _ _ _ ht
      simp only [Nat.sub_zero] at h2
      have hlt : t < args.length := (List.getElem?_eq_some_iff.1 h2).1
      rw [Array.getElem?_append_left (by simpa using hlt)]
      simpa using h2
    have fin : ∀ (e : Exit) (fr : Fr) (a : Act) (w : World), e = .normal ∨ e = .ret → RelX fn.ntmps [] fr a → vcRes tab fn.results.toList fr w (fun vs => K (resVal vs) w) → bodyPost P fn (fun e w' => ∃ v, e = .returned v ∧ K v w') e a w := by
      intro e fr a w he hr h
      obtain ⟨vs, _, hrun, hK⟩ := vcRes.sound hok hr _ _ h
      have := results_run (fn := fn) hrun
      rcases he with rfl | rfl
      · exact ⟨hr.rel.defers, _, this, _, rfl, hK⟩
      · exact ⟨hr.rel.defers, _, this, _, rfl, hK⟩
    exact vc.sound hm hok heqs c [] _ _ _ _ w _ _ hr (fun fr a w hr h => fin _ _ _ _ (.inl rfl) hr h) (fun _ _ _ _ _ h => h.elim) (fun fr a w hr h => fin _ _ _ _ (.inr rfl) hr h) h
  · exact h.elim

/-- A call of a function with a body. -/
theorem vcFn.calls {f : FuncId} {fn : Func} {args : List Value} {w : World} {K : Value → World → Prop} (hm : P.follows .mixedOrders = true) (hok : TabOK P tab) (heqs : EqsOK P tab eqs)
    (hf : P.funcs[f]? = some fn) (hl : Nat.ble args.length fn.ntmps = true) (hn : (fn.name == "runtime.NumGoroutine") = false) (hb : fn.body.isNone = false) (h : vcFn P eqs tab an fn args w K) : CallsV P f args.toArray w K :=
  CallsV.of_body hf hn hb (vcFn.sound hm hok heqs hf hl h)
end

/-! ### how the table is shown to be so -/
section
variable {P : Program} {t : Nat}
theorem TyOK.mkLeaf {l : Leaf} {e b : Nat} (h1 : (P.underlying t).map descView = some (.leaf l e)) (h2 : (P.info? t).map (fun i => (i.zero, i.size, i.bytes)) = some (some l.zero, 1, b)) : TyOK P t ⟨.leaf l e, [l], b⟩ :=
  ⟨h1, rfl, h2⟩
theorem TyOK.mkStruct {fs : List (Nat × Nat)} {ls : List Leaf} {b : Nat} (h1 : (P.underlying t).map descView = some (.struct fs)) (h2 : (P.info? t).map (fun i => (i.zero, i.size, i.bytes)) = some (some (.agg (ls.map Leaf.zero).toArray), ls.length, b)) : TyOK P t ⟨.struct fs, ls, b⟩ :=
  ⟨h1, h2⟩
theorem TyOK.mkArray {n e : Nat} {ls : List Leaf} {b : Nat} (h1 : (P.underlying t).map descView = some (.array n e)) (h2 : (P.info? t).map (fun i => (i.zero, i.size, i.bytes)) = some (some (.agg (ls.map Leaf.zero).toArray), ls.length, b)) : TyOK P t ⟨.array n e, ls, b⟩ :=
  ⟨h1, h2⟩
theorem TyOK.mkTuple {ts : List Nat} {ls : List Leaf} {b : Nat} (h1 : (P.underlying t).map descView = some (.tuple ts)) : TyOK P t ⟨.tuple ts, ls, b⟩ :=
  ⟨h1, trivial⟩

def eqFieldsB (P : Program) : List Field → Nat → List Leaf → Bool
  | [], _, [] => true
  | f :: fs, i, l :: ls => !(f.name == "_") && Nat.beq f.offset i && (match (P.underlying f.type).map descView, l with
    | some (.leaf .bool _), .bool => true
    | some (.leaf (.int k) _), .int k' => ikEq k k'
    | some (.leaf .str _), .str => true
    | _, _ => false) && eqFieldsB P fs (i + 1) ls
  | _, _, _ => false

theorem eqFieldsB_ok : ∀ {fs : List Field} {i : Nat} {ls : List Leaf}, eqFieldsB P fs i ls = true → eqFieldsOK P fs i ls
  | [], _, [], _ => trivial
  | [], _, _ :: _, h => by simp [eqFieldsB] at h
  | _ :: _, _, [], h => by simp [eqFieldsB] at h
  | f :: fs, i, l :: ls, h => by
    simp only [eqFieldsB, Bool.and_eq_true] at h
    obtain ⟨⟨⟨h1, h2⟩, h3⟩, h4⟩ := h
    refine ⟨by simpa using h1, Nat.eq_of_beq_eq_true h2, ?_, eqFieldsB_ok h4⟩
    split at h3
    · rename_i e he
      obtain ⟨d, hd, hv⟩ := Option.map_eq_some_iff.1 he
      rw [hd]
      cases d <;> simp_all [descView, leafDesc]
    · rename_i k e k' he
      obtain ⟨d, hd, hv⟩ := Option.map_eq_some_iff.1 he
      have := ikEq_eq h3
      subst this
      rw [hd]
      cases d <;> simp_all [descView, leafDesc]
    · rename_i e he
      obtain ⟨d, hd, hv⟩ := Option.map_eq_some_iff.1 he
      rw [hd]
      cases d <;> simp_all [descView, leafDesc]
    · cases h3

theorem EqOK.mk {tab : Tab} {ti : TI} (h1 : P.stoodInHeld t = false) (h2 : P.eqGuardType P.depth t = false) (h3 : P.underlying t = some (.struct (P.fieldsOf t))) (h4 : tab.get t = some ti) (h5 : eqFieldsB P (P.fieldsOf t).toList 0 ti.leaves = true) : EqOK P tab t :=
  ⟨h1, h2, h3, fun ti' h => by rw [h4] at h; injection h with h; subst h; exact eqFieldsB_ok h5⟩
end

end Go.Proofs.Ytjcgociobhhijaa.SX
