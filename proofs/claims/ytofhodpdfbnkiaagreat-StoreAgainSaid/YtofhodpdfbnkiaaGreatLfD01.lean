/- Part 1 of the lemmas that a proof leans on; no claim is made here. By an AI agent. -/
import Derived.CallsIn
import Derived.RangeFuncIn
import Derived.OrdersIn
import Derived.Laws.World
import Derived.Laws.Cells
import Derived.Laws.NewFold
import Derived.Deep.Draws
import Derived.KernelRfl
section
set_option linter.unusedVariables false
set_option linter.unusedSimpArgs false
/-! LIFT: a predicate transformer 'vc' on code that the kernel can reckon out; its soundness ('vc_sound'). -/
namespace Go.Lf
open Go

/-! ### kinds of cells -/
inductive Kd where
  | int (k : IntKind) | bool | str | ptr | sl | mp | flt (k : FloatKind) | any | adr

def Kd.ex : Kd → (Value → Prop) → Prop
  | .int k, p => ∃ n : Int, p (.int k n)
  | .bool, p => ∃ b : Bool, p (.bool b)
  | .str, p => ∃ s : ByteArray, p (.string s)
  | .ptr, p => ∃ a : Option Addr, p (.pointer a)
  | .sl, p => ∃ (a : Option Addr) (n c : Nat), p (.slice a n c)
  | .mp, p => ∃ r : Option Nat, p (.map r)
  | .flt k, p => ∃ n : Nat, p (.float k n)
  | .any, p => ∃ v : Value, p v
  | .adr, p => ∃ q : Addr, p (.pointer (some q))

def Kd.all : Kd → (Value → Prop) → Prop
  | .int k, p => ∀ n : Int, p (.int k n)
  | .bool, p => ∀ b : Bool, p (.bool b)
  | .str, p => ∀ s : ByteArray, p (.string s)
  | .ptr, p => ∀ a : Option Addr, p (.pointer a)
  | .sl, p => ∀ (a : Option Addr) (n c : Nat), p (.slice a n c)
  | .mp, p => ∀ r : Option Nat, p (.map r)
  | .flt k, p => ∀ n : Nat, p (.float k n)
  | .any, p => ∀ v : Value, p v
  | .adr, p => ∀ q : Addr, p (.pointer (some q))

def exK : List Kd → (List Value → Prop) → Prop
  | [], p => p []
  | k :: ks, p => k.ex fun v => exK ks fun vs => p (v :: vs)
def allK : List Kd → (List Value → Prop) → Prop
  | [], p => p []
  | k :: ks, p => k.all fun v => allK ks fun vs => p (v :: vs)

theorem Kd.ex_out : ∀ {k : Kd} {p : Value → Prop}, k.ex p → ∃ v, p v
  | .int _, _, ⟨n, h⟩ => ⟨_, h⟩ | .bool, _, ⟨b, h⟩ => ⟨_, h⟩ | .str, _, ⟨s, h⟩ => ⟨_, h⟩ | .ptr, _, ⟨a, h⟩ => ⟨_, h⟩
  | .sl, _, ⟨a, n, c, h⟩ => ⟨_, h⟩ | .mp, _, ⟨r, h⟩ => ⟨_, h⟩ | .flt _, _, ⟨n, h⟩ => ⟨_, h⟩ | .any, _, ⟨v, h⟩ => ⟨_, h⟩ | .adr, _, ⟨q, h⟩ => ⟨_, h⟩
theorem exK_out : ∀ {ks : List Kd} {p : List Value → Prop}, exK ks p → ∃ vs, vs.length = ks.length ∧ p vs
  | [], _, h => ⟨[], rfl, h⟩
  | k :: ks, p, h => by
    obtain ⟨v, h⟩ := Kd.ex_out (k := k) h
    obtain ⟨vs, hl, h⟩ := exK_out h
    exact ⟨v :: vs, by simp [hl], h⟩

def kdOf : Value → Kd
  | .int k _ => .int k | .bool _ => .bool | .string _ => .str | .pointer _ => .ptr | .slice .. => .sl | .map _ => .mp | .float k _ => .flt k | _ => .any

/-- The kinds of a type's cells; none: it is no struct and no array. -/
def aggKinds (P : Program) (t : TypeId) : Option (List Kd) :=
  match P.underlying t with
  | some (.struct _) | some (.array _ _) => match (P.info? t) with
    | some i => match i.zero with | some z => some (z.cells.toList.map kdOf) | none => some []
    | none => some []
  | _ => none
def oneKind (P : Program) (t : TypeId) : Kd :=
  match (P.info? t) with
  | some i => match i.zero with | some z => kdOf z | none => .any
  | none => .any

/-! ### frames -/
abbrev Fr := List (Option Value)
def Fr.get (fr : Fr) (t : Tmp) : Option Value := match fr[t]? with | some (some v) => some v | _ => none
def Fr.put (fr : Fr) (d : Option Tmp) (v : Value) : Fr := match d with | some t => fr.set t (some v) | none => fr
def ev (fr : Fr) : Operand → Option Value
  | .tmp t => fr.get t
  | .const v => some v
  | .global g => some (.pointer (some ⟨g, 0, none⟩))
  | .func f => some (.func (.func f) #[] #[])
def evs (fr : Fr) : List Operand → Option (List Value)
  | [] => some []
  | x :: xs => match ev fr x, evs fr xs with | some v, some vs => some (v :: vs) | _, _ => none

/-- The frame says the truth of the activation. -/
structure Agree (fr : Fr) (a : Act) : Prop where
  le : fr.length ≤ a.tmps.size
  val : ∀ t v, fr.get t = some v → a.tmps.getD t undef = v

theorem Agree.ev {fr : Fr} {a : Act} (h : Agree fr a) : ∀ {x : Operand} {v : Value}, ev fr x = some v → a.eval x = v
  | .tmp t, v, e => h.val t v e
  | .const _, _, e => by cases e; rfl
  | .global _, _, e => by cases e; rfl
  | .func _, _, e => by cases e; rfl
theorem Agree.evs {fr : Fr} {a : Act} (h : Agree fr a) : ∀ {xs : List Operand} {vs : List Value}, evs fr xs = some vs → xs.map a.eval = vs
  | [], _, e => by cases e; rfl
  | x :: xs, vs, e => by
    unfold Lf.evs at e
    split at e
    · rename_i v vs' h1 h2
      cases e
      simp [h.ev h1, h.evs h2]
    · cases e
theorem Fr.get_set {fr : Fr} {t u : Tmp} {x : Option Value} : Fr.get (fr.set t x) u = if t = u ∧ t < fr.length then x else fr.get u := by
  unfold Fr.get
  rw [List.getElem?_set]
  by_cases h : t = u
  · subst h
    by_cases h2 : t < fr.length
    · simp [h2]; cases x <;> rfl
    · simp [h2]
  · simp [h]
theorem Agree.put {fr : Fr} {a : Act} (h : Agree fr a) (d : Option Tmp) (v : Value) : Agree (fr.put d v) (a.put d v) := by
  cases d with
  | none => exact h
  | some t =>
    refine ⟨by simpa [Fr.put, Act.put] using h.le, fun u x e => ?_⟩
    simp only [Fr.put] at e
    rw [Fr.get_set] at e
    simp only [Act.put]
    by_cases hc : t = u ∧ t < fr.length
    · rw [if_pos hc] at e
      cases e
      obtain ⟨rfl, hl⟩ := hc
      have hs : t < a.tmps.size := Nat.lt_of_lt_of_le hl h.le
      simp [Array.getD, hs]
    · rw [if_neg hc] at e
      have hv := h.val u x e
      by_cases htu : t = u
      · subst htu
        have hn : ¬ t < fr.length := fun hl => hc ⟨rfl, hl⟩
        have : Fr.get fr t = none := by unfold Fr.get; rw [List.getElem?_eq_none (Nat.le_of_not_lt hn)]
        rw [this] at e; cases e
      · rw [← hv]
        simp only [Array.getD_eq_getD_getElem?, Array.getElem?_setIfInBounds]
        simp [htu]
theorem Agree.defers {fr : Fr} {a : Act} (h : Agree fr a) (ds : List Deferred) : Agree fr { a with defers := ds } := ⟨h.le, h.val⟩

/-! ### shapes of values -/
inductive Sh where
  | one (k : Kd)
  | agg (ks : List Kd)
  | tup (l : List Sh)

mutual
def Sh.ex : Sh → (Value → Prop) → Prop
  | .one k, p => k.ex p
  | .agg ks, p => exK ks fun vs => p (.agg vs.toArray)
  | .tup l, p => exS l fun vs => p (.tuple vs.toArray)
def exS : List Sh → (List Value → Prop) → Prop
  | [], p => p []
  | s :: r, p => s.ex fun v => exS r fun vs => p (v :: vs)
end
mutual
theorem Sh.ex_out : ∀ {s : Sh} {p : Value → Prop}, s.ex p → ∃ v, p v
  | .one k, p, h => Kd.ex_out (k := k) (by unfold Sh.ex at h; exact h)
  | .agg ks, p, h => by unfold Sh.ex at h; obtain ⟨vs, _, h⟩ := exK_out h; exact ⟨_, h⟩
  | .tup l, p, h => by unfold Sh.ex at h; obtain ⟨vs, h⟩ := exS_out h; exact ⟨_, h⟩
theorem exS_out : ∀ {l : List Sh} {p : List Value → Prop}, exS l p → ∃ vs, p vs
  | [], p, h => by unfold exS at h; exact ⟨_, h⟩
  | s :: r, p, h => by
    unfold exS at h
    obtain ⟨v, h⟩ := Sh.ex_out h
    obtain ⟨vs, h⟩ := exS_out h
    exact ⟨_, h⟩
end

def Kd.fits : Kd → Value → Bool
  | .int k, .int k' _ => k == k'
  | .bool, .bool _ | .str, .string _ | .ptr, .pointer _ | .sl, .slice .. | .mp, .map _ => true
  | .flt k, .float k' _ => k == k'
  | .any, _ => true
  | .adr, .pointer (some _) => true
  | _, _ => false
theorem Kd.all_elim {k : Kd} {p : Value → Prop} (h : k.all p) {v : Value} (hf : k.fits v = true) : p v := by
  cases k
  case adr => cases v <;> simp [Kd.fits] at hf; rename_i a; cases a <;> simp at hf; exact h _
  all_goals cases v <;> simp [Kd.fits] at hf <;> first | exact h _ | exact h _ _ _ | (cases hf; exact h _)
def fitsK : List Kd → List Value → Bool
  | [], [] => true
  | k :: ks, v :: vs => k.fits v && fitsK ks vs
  | _, _ => false
theorem allK_elim : ∀ {ks : List Kd} {p : List Value → Prop}, allK ks p → ∀ {vs : List Value}, fitsK ks vs = true → p vs
  | [], p, h, [], _ => h
  | k :: ks, p, h, v :: vs, hf => by
    simp only [fitsK, Bool.and_eq_true] at hf
    exact allK_elim (Kd.all_elim h hf.1) hf.2
  | [], _, _, _ :: _, hf => by simp [fitsK] at hf
  | _ :: _, _, _, [], hf => by simp [fitsK] at hf
def Sh.all : Sh → (Value → Prop) → Prop
  | .one k, p => k.all p
  | .agg ks, p => allK ks fun vs => p (.agg vs.toArray)
  | .tup _, p => ∀ v, p v
def Sh.fits : Sh → Value → Bool
  | .one k, v => k.fits v
  | .agg ks, .agg cs => fitsK ks cs.toList
  | .tup _, _ => true
  | _, _ => false
theorem Sh.all_elim {s : Sh} {p : Value → Prop} (h : s.all p) {v : Value} (hf : s.fits v = true) : p v := by
  cases s with
  | one k => exact Kd.all_elim h hf
  | agg ks => cases v <;> simp [Sh.fits] at hf; exact allK_elim h hf
  | tup l => exact h v
def allS : List Sh → (List Value → Prop) → Prop
  | [], p => p []
  | s :: r, p => s.all fun v => allS r fun vs => p (v :: vs)
def fitsS : List Sh → List Value → Bool
  | [], [] => true
  | k :: ks, v :: vs => k.fits v && fitsS ks vs
  | _, _ => false
theorem allS_elim : ∀ {ks : List Sh} {p : List Value → Prop}, allS ks p → ∀ {vs : List Value}, fitsS ks vs = true → p vs
  | [], p, h, [], _ => h
  | k :: ks, p, h, v :: vs, hf => by
    simp only [fitsS, Bool.and_eq_true] at hf
    exact allS_elim (Sh.all_elim h hf.1) hf.2
  | [], _, _, _ :: _, hf => by simp [fitsS] at hf
  | _ :: _, _, _, [], hf => by simp [fitsS] at hf

def shOf (P : Program) : Nat → TypeId → Sh
  | 0, _ => .one .any
  | d + 1, t => match P.underlying t with
    | some (.tuple es) => .tup (es.toList.map (shOf P d))
    | _ => match aggKinds P t with
      | some ks => .agg ks
      | none => .one (oneKind P t)

/-! ### the words of a lifted body -/
def ifB (b : Bool) (A B : Prop) : Prop := match b with | true => A | false => B
def need (b : Bool) (A : Prop) : Prop := match b with | true => A | false => False
def nn (a : Option Addr) (K : Addr → Prop) : Prop := match a with | some p => K p | none => False
theorem ifB_iff {b : Bool} {A B : Prop} : ifB b A B ↔ (b = true → A) ∧ (b = false → B) := by cases b <;> simp [ifB]
theorem need_iff {b : Bool} {A : Prop} : need b A ↔ b = true ∧ A := by cases b <;> simp [need]
theorem nn_iff {a : Option Addr} {K : Addr → Prop} : nn a K ↔ ∃ p, a = some p ∧ K p := by cases a <;> simp [nn]
@[simp] theorem nn_some {p : Addr} {K : Addr → Prop} : nn (some p) K ↔ K p := Iff.rfl
@[simp] theorem ifB_true {A B : Prop} : ifB true A B ↔ A := Iff.rfl
@[simp] theorem ifB_false {A B : Prop} : ifB false A B ↔ B := Iff.rfl
@[simp] theorem need_true {A : Prop} : need true A ↔ A := Iff.rfl

/-- a value of a Sem that asks nothing of the world -/
def semVal (P : Program) {α : Type} : Sem α → Option α
  | .pure a => some a
  | .program k => semVal P (k P)
  | _ => none
theorem semVal_run {P : Program} {α : Type} (w : World) : ∀ {s : Sem α} {v : α}, semVal P s = some v → s.run P w = .ok v w
  | .pure a, v, h => by cases h; rfl
  | .program k, v, h => semVal_run w (s := k P) h
  | .load .., _, h | .store .., _, h | .new .., _, h | .shape .., _, h | .freeze .., _, h | .frozen .., _, h | .getObj .., _, h | .setObj .., _, h
  | .choose .., _, h | .sys .., _, h | .mark .., _, h | .halt .., _, h => by cases h

/-- the cells from the i-th on are these -/
def cellsAt (w : World) (p : Addr) : Nat → List Value → Prop
  | _, [] => True
  | i, v :: vs => w.cell? (p.add i) = some v ∧ cellsAt w p (i + 1) vs
theorem cellsAt_get {w : World} {p : Addr} : ∀ {vs : List Value} {i : Nat}, cellsAt w p i vs → ∀ j v, vs[j]? = some v → w.cell? (p.add (i + j)) = some v
  | [], _, _, j, v, h => by simp at h
  | x :: xs, i, hc, 0, v, h => by simp at h; subst h; exact hc.1
  | x :: xs, i, hc, j + 1, v, h => by
    have := cellsAt_get hc.2 j v (by simpa using h)
    rwa [show i + 1 + j = i + (j + 1) by omega] at this

def vLoad (P : Program) (t : TypeId) (p : Addr) (w : World) (K : Value → Prop) : Prop :=
  match aggKinds P t with
  | some ks => need (ks.length == P.cellsOf t) (exK ks fun vs => cellsAt w p 0 vs ∧ K (.agg vs.toArray))
  | none => match P.underlying t with
    | none => False
    | some _ => need (P.cellsOf t == 1) ((oneKind P t).ex fun v => w.cell? p = some v ∧ K v)

def one (v : Value) : Prop := match v with | .agg _ | .tuple _ => False | _ => True
def okCell (w : World) (a : Addr) : Prop := (∃ u, w.cell? a = some u) ∧ w.frozen? a = false
def vOne1 (v : Value) (A : Prop) : Prop := match v with | .agg _ => False | .tuple _ => False | _ => A
/-- a store of one cell -/
def st (w : World) (p : Addr) (v : Value) (K : World → Prop) : Prop := okCell w p ∧ K (w.setCell p v)
/-- a new block -/
def nw (w : World) (o : Obj) (K : Nat → World → Prop) : Prop := K w.heap.size (w.alloc o)
def bitop (op : BinOp) (k : IntKind) (x y : Int) : Int :=
  match op with
  | .and => k.wrap (BitVec.ofInt k.bits x &&& BitVec.ofInt k.bits y).toNat
  | .or => k.wrap (BitVec.ofInt k.bits x ||| BitVec.ofInt k.bits y).toNat
  | .xor => k.wrap (BitVec.ofInt k.bits x ^^^ BitVec.ofInt k.bits y).toNat
  | .andNot => k.wrap (BitVec.ofInt k.bits x &&& ~~~(BitVec.ofInt k.bits y)).toNat
  | _ => 0
def vStoreCells (p : Addr) : Nat → List Value → World → (World → Prop) → Prop
  | _, [], w, K => K w
  | i, v :: vs, w, K => vOne1 v (st w (p.add i) v fun w' => vStoreCells p (i + 1) vs w' K)
theorem vOne1_iff {v : Value} {A : Prop} : vOne1 v A ↔ one v ∧ A := by cases v <;> simp [vOne1, one]
def vStore (P : Program) (t : TypeId) (p : Addr) (v : Value) (w : World) (K : World → Prop) : Prop :=
  need (v.cells.toList.length == P.cellsOf t) (match P.info? t with | some _ => vStoreCells p 0 v.cells.toList w K | none => False)

/-- What a call's end must bring. -/
def CP (Rt : Value → World → Prop) (E : List PanicEntry → World → Prop) : Ending → World → Prop
  | .returned v, w => Rt v w
  | .panicked ch, w => E ch w
  | .outgrown, _ => False
def CallPost (s : Sh) (K : Value → World → Prop) (E : List PanicEntry → World → Prop) : Ending → World → Prop :=
  CP (fun v w => s.ex fun v' => v = v' ∧ K v' w) E
/-- the equality of two structs of plain cells -/
def fieldsEq (P : Program) (xs ys : Array Value) : List Field → Option Bool
  | [] => some true
  | f :: fs => match f.name == "_", P.underlying f.type, xs[f.offset]?, ys[f.offset]? with
    | false, some (.int _), some (.int j x), some (.int k y) => match j == k, fieldsEq P xs ys fs with | true, some b => some ((x == y) && b) | _, _ => none
    | false, some .string, some (.string x), some (.string y) => match fieldsEq P xs ys fs with | some b => some ((x.toList == y.toList) && b) | _ => none
    | false, some .bool, some (.bool x), some (.bool y) => match fieldsEq P xs ys fs with | some b => some ((x == y) && b) | _ => none
    | _, _, _, _ => none
/-- the equality of two arrays of whole numbers -/
def intsEq : List Value → List Value → Option Bool
  | [], [] => some true
  | .int j x :: xs, .int k y :: ys => match j == k, intsEq xs ys with | true, some b => some ((x == y) && b) | _, _ => none
  | _, _ => none
def aggEq (P : Program) (t : TypeId) (xs ys : Array Value) : Option Bool :=
  match P.underlying t with
  | some (.struct fs) => match P.stoodInHeld t || P.eqGuardType P.depth t with | false => fieldsEq P xs ys fs.toList | true => none
  | some (.array n e) => match P.underlying e, P.info? e with
    | some (.int _), some i => match (i.size == 1 && xs.size == n && ys.size == n && !P.eqGuardType P.depth t) with | true => intsEq xs.toList ys.toList | false => none
    | _, _ => none
  | _ => none
/-- One round of a loop over a function. -/
def Rnd (P : Program) (l : Nat) (args : Array Value) (w : World) (R : Ending → World → Prop) : Prop :=
  ∃ r : Loop, w.heap[l]? = some (.loop r) ∧ args.size = r.params.size ∧
    RoundIn Fence.wide 0 P l r.fn ((r.params.zip args).foldl (fun tmps (t, a) => tmps.setIfInBounds t a) r.tmps) r.assign r.body w R

structure Cx where
  P : Program
  fns : List Nat
  ent : Nat → List Sh := fun _ => []
def okFn (P : Program) (g : Nat) : Prop := ∃ fn, P.funcs[g]? = some fn ∧ fn.body.isSome = true ∧ (fn.name == "runtime.NumGoroutine") = false
def Cx.ok (C : Cx) : Prop := ∀ g ∈ C.fns, okFn C.P g
def Cx.has (C : Cx) (g : Nat) : Bool := C.fns.any fun x => Nat.beq x g

/-- The call of a function's value. -/
def vCall (C : Cx) (fv : Value) (args : List Value) (w : World) (R : Ending → World → Prop) : Prop :=
  match fv with
  | .func (.func g) first cap => need (C.has g) (Calls C.P g ((first ++ args.toArray) ++ cap) w R)
  | .func (.yield l) first _ => Rnd C.P l (first ++ args.toArray) w R
  | _ => False

/-- The call of a function's value that is no yield. -/
def vCallF (C : Cx) (fv : Value) (args : List Value) (w : World) (R : Ending → World → Prop) : Prop :=
  match fv with
  | .func (.func g) first cap => need (C.has g) (Calls C.P g ((first ++ args.toArray) ++ cap) w R)
  | _ => False

def vRun (P : Program) (s : Sem Value) (sh : Sh) (w : World) (K : Value → World → Prop) : Prop :=
  sh.ex fun v => ∃ w', s.run P w = .ok v w' ∧ K v w'

def bt (s : ByteArray) (i : Int) : Int := (((s[i.toNat]?).getD 0).toNat : Int)
def slA (a : Option Addr) (l m size : Nat) : Option Addr := if m = l then a else a.map (·.add (l * size))
def bnd (P : Program) (x : Option Value) (d : Nat) : Option Int := match x with | some (.int _ i) => some i | none => some (d : Int) | _ => none

def evO (fr : Fr) : Option Operand → Option (Option Value)
  | none => some none
  | some x => match ev fr x with | some v => some (some v) | none => none

def vPure (P : Program) (s : Sem Value) (w : World) (K : Value → World → Prop) : Prop :=
  match semVal P s with | some v => K v w | none => False

/-- One operation. -/
def vOp (C : Cx) (fr : Fr) (o : Oper) (w : World) (K : Value → World → Prop) (E : List PanicEntry → World → Prop) : Prop :=
  match o.op with
  | .move x | .assign x => match ev fr x with | some v => K v w | none => False
  | .load t x => match ev fr x with | some (.pointer (some p)) => vLoad C.P t p w fun v => K v w | _ => False
  | .store t x y => match ev fr x, ev fr y with | some (.pointer (some p)), some v => vStore C.P t p v w fun w' => K undef w' | _, _ => False
  | .alloc t => match C.P.info? t with
    | some i => match i.zero with | some z => K (.pointer (some ⟨w.heap.size, 0, none⟩)) (w.alloc (.cells z.cells t)) | none => False
    | none => False
  | .box t x => match ev fr x with | some v => K (.pointer (some ⟨w.heap.size, 0, none⟩)) (w.alloc (.cells v.cells t)) | none => False
  | .nilCheck x => match ev fr x with
    | some (.pointer a) => nn a fun p => K (.pointer (some p)) w
    | some (.func (.func g) a b) => K (.func (.func g) a b) w
    | some (.func (.yield g) a b) => K (.func (.yield g) a b) w
    | _ => False
  | .indexAddr t x i => match ev fr x, ev fr i with
    | some (.slice a n c), some (.int k j) => match C.P.underlying t with
      | some (.slice e) => match C.P.info? e with
        | some ie => need (decide (0 ≤ j) && decide (j < (n : Int))) (nn a fun p => K (.pointer (some (p.add (j.toNat * ie.size)))) w)
        | none => False
      | _ => False
    | some (.pointer (some p)), some (.int k j) => match C.P.underlying t with
      | some (.array n e) => match C.P.info? e with
        | some ie => need (decide (0 ≤ j) && decide (j < (n : Int))) (K (.pointer (some (p.add (j.toNat * ie.size)))) w)
        | none => False
      | _ => False
    | _, _ => False
  | .index t x i => match ev fr x, ev fr i with
    | some (.string s), some (.int k j) => match C.P.underlying t with
      | some .string => need (decide (0 ≤ j) && decide (j < (s.size : Int))) (K (.int .u8 (bt s j)) w)
      | _ => False
    | some (.agg cs), some (.int k j) => match C.P.underlying t with
      | some (.array n e) => match C.P.info? e, C.P.underlying e, aggKinds C.P e with
        | some ie, some _, none => need (ie.size == 1) (need (decide (0 ≤ j) && decide (j < (n : Int))) ((oneKind C.P e).ex fun v => cs[j.toNat]? = some v ∧ K v w))
        | _, _, _ => False
      | _ => False
    | _, _ => False
  | .slice t x lo hi none => match ev fr x, evO fr lo, evO fr hi with
    | some (.slice a n c), some l, some h => match C.P.underlying t with
      | some (.slice e) => match C.P.info? e with
        | some ie => match bnd C.P l 0, bnd C.P h n with
          | some l, some h => need (decide (0 ≤ h) && decide (h ≤ (c : Int))) (need (decide (0 ≤ l) && decide (l ≤ h)) (K (.slice (slA a l.toNat c ie.size) (h.toNat - l.toNat) (c - l.toNat)) w))
          | _, _ => False
        | none => False
      | _ => False
    | some (.string s), some l, some h => match C.P.underlying t with
      | some .string => match bnd C.P l 0, bnd C.P h s.size with
        | some l, some h => need (decide (0 ≤ h) && decide (h ≤ (s.size : Int))) (need (decide (0 ≤ l) && decide (l ≤ h)) (K (.string (s.extract l.toNat h.toNat)) w))
        | _, _ => False
      | _ => False
    | _, _, _ => False
  | .binOp op t x y _ => match op, ev fr x, ev fr y with
    | .quo, some (.int k a), some (.int k' b) => need (decide (k = k') && !decide (b = 0)) (K (.int k (k.wrap (a.tdiv b))) w)
    | .rem, some (.int k a), some (.int k' b) => need (decide (k = k') && !decide (b = 0)) (K (.int k (a.tmod b)) w)
    | .shl, some (.int k a), some (.int _ b) => need (!decide (b < 0)) (K (.int k (k.wrap (a * 2 ^ (min b.toNat k.bits)))) w)
    | .shr, some (.int k a), some (.int _ b) => need (!decide (b < 0)) (K (.int k (a.fdiv (2 ^ (min b.toNat k.bits)))) w)
    | .add, some (.string a), some (.string b) => need (decide ((a.size + b.size : Nat) ≤ 9223372036854775807)) (K (.string (a ++ b)) w)
    | .eql, some (.agg a), some (.agg b) => match aggEq C.P t a b with | some r => K (.bool r) w | none => False
    | .neq, some (.agg a), some (.agg b) => match aggEq C.P t a b with | some r => K (.bool (!r)) w | none => False
    | .eql, some (.pointer a), some (.pointer none) => match C.P.underlying t with | some (.pointer _) => K (.bool a.isNone) w | _ => False
    | .neq, some (.pointer a), some (.pointer none) => match C.P.underlying t with | some (.pointer _) => K (.bool (!a.isNone)) w | _ => False
    | .eql, some (.slice a _ _), some (.slice none _ _) => match C.P.underlying t with | some (.slice _) => K (.bool a.isNone) w | _ => False
    | .neq, some (.slice a _ _), some (.slice none _ _) => match C.P.underlying t with | some (.slice _) => K (.bool (!a.isNone)) w | _ => False
    | .eql, some (.map a), some (.map none) => match C.P.underlying t with | some (.map _ _) => K (.bool a.isNone) w | _ => False
    | .neq, some (.map a), some (.map none) => match C.P.underlying t with | some (.map _ _) => K (.bool (!a.isNone)) w | _ => False
    | _, some a, some b => vPure C.P (do eqGuard op t x y a b; binOp op t a b) w K
    | _, _, _ => False
  | .makeFunc fn first cap => match evs fr first.toList, evs fr cap.toList with
    | some a, some b => K (.func fn a.toArray b.toArray) w
    | _, _ => False
  | .unOp op _ x => match ev fr x with | some v => vPure C.P (Op.unary op v) w K | none => False
  | .field t x f => match ev fr x with | some v => vPure C.P (Instr.field t v f) w K | none => False
  | .extract x i => match ev fr x with | some v => vPure C.P (Instr.extract v i) w K | none => False
  | .pick c a b => match ev fr c, ev fr a, ev fr b with | some vc, some va, some vb => vPure C.P (do pure (if ← asBool vc then va else vb)) w K | _, _, _ => False
  | .fieldAddr t x f => match ev fr x with
    | some (.pointer (some p)) => match C.P.underlying t with
      | some (.struct fs) => match fs[f]? with
        | some fd => match C.P.info? fd.type with
          | some i => need (i.size != 0) (K (.pointer (some (p.add fd.offset))) w)
          | none => False
        | none => False
      | _ => False
    | _ => False
  | .build t ps => match evs fr (ps.toList.map (·.2)) with | some vs => vPure C.P (Instr.build t ((ps.toList.map (·.1)).zip vs).toArray) w K | none => False
  | .convert s d x => match ev fr x with
    | some (.int k v) => vPure C.P (convert s d (.int k v)) w K
    | some v => vRun C.P (convert s d v) (shOf C.P 3 o.type) w K
    | none => False
  | .buildSlice t n ps => match evs fr (ps.toList.map (·.2)) with | some vs => vRun C.P (Instr.buildSlice t n ((ps.toList.map (·.1)).zip vs).toArray) (.one .sl) w K | none => False
  | .makeSlice t x y => match ev fr x, ev fr y with | some a, some b => vRun C.P (Instr.makeSlice t a b) (.one .sl) w K | _, _ => False
  | .makeMap t none => vRun C.P (Instr.makeMap t none) (.one .mp) w K
  | .lookup t x i ok => match ev fr x, ev fr i with | some a, some b => vRun C.P (Instr.lookup t a b ok) (shOf C.P 3 o.type) w K | _, _ => False
  | .mapUpdate t m k v | .insert t m k v => match ev fr m, ev fr k, ev fr v with
    | some m, some k, some v => ∃ w', (Instr.mapUpdate t m k v).run C.P w = .ok () w' ∧ K undef w'
    | _, _, _ => False
  | .range t x => match ev fr x with | some v => vRun C.P (Instr.range t v) (.one .ptr) w K | none => False
  | .next it s => match ev fr it with
    | some v => match s with
      | true => ∃ u w', (Instr.next v true o.type).run C.P w = .ok u w' ∧ ((u = .tuple #[.bool false] ∧ K (.tuple #[.bool false]) w') ∨ (∃ i c : Int, u = .tuple #[.bool true, .int .i64 i, .int .i32 c] ∧ K (.tuple #[.bool true, .int .i64 i, .int .i32 c]) w'))
      | false => ∃ u w', (Instr.next v false o.type).run C.P w = .ok u w' ∧ ((u = .tuple #[.bool false] ∧ K (.tuple #[.bool false]) w') ∨ (∃ i c : Value, u = .tuple #[.bool true, i, c] ∧ K (.tuple #[.bool true, i, c]) w'))
    | none => False
  | .entry it => match ev fr it, it with
    | some v, .tmp t => vRun C.P (Instr.entry v) (.tup (C.ent t)) w K
    | _, _ => False
  | .makeInterface t x => match ev fr x with | some v => vPure C.P (Instr.makeInterface t v) w K | none => False
  | .call c => match c.callee, evs fr c.args.toList with
    | .value f, some args => match ev fr f with
      | some fv => vCall C fv args w (CallPost (shOf C.P 3 o.type) K E)
      | none => False
    | .builtin .append, some args => vRun C.P (Builtin.append_ c.argTypes o.type args.toArray) (.one .sl) w K
    | .builtin .copy, some args => vRun C.P (Builtin.copy_ c.argTypes o.type args.toArray) (.one (.int .i64)) w K
    | .builtin .delete, some args => ∃ w', (Builtin.delete_ c.argTypes o.type args.toArray).run C.P w = .ok (.tuple #[]) w' ∧ K (.tuple #[]) w'
    | .builtin .len, some args => match args with
      | [.map r] => vRun C.P (Builtin.len_ c.argTypes o.type #[.map r]) (.one (.int .i64)) w K
      | _ => vPure C.P (Builtin.len_ c.argTypes o.type args.toArray) w K
    | .builtin .cap, some args => vPure C.P (Builtin.cap_ c.argTypes o.type args.toArray) w K
    | .builtin .max, some args => vPure C.P (Builtin.max_ c.argTypes o.type args.toArray) w K
    | .builtin .min, some args => vPure C.P (Builtin.min_ c.argTypes o.type args.toArray) w K
    | _, _ => False
  | .panic x => match ev fr x with | some v => ∃ u, (∀ w, (Instr.panic v).run C.P w = .halt (.panic u) w) ∧ E [{ v := u, recovered := false }] w | none => False
  | _ => False
end Go.Lf
end
