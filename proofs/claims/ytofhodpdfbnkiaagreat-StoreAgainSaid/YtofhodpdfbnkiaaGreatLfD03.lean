/- Part 3 of the lemmas that a proof leans on; no claim is made here. By an AI agent. -/
import Derived.Test.YtofhodpdfbnkiaaGreatLfD02
section
set_option linter.unusedVariables false
set_option linter.unusedSimpArgs false
namespace Go.Lf
open Go

def opsWrites (ops : List Oper) : List Tmp := ops.filterMap (·.dst)
def writes : Code → List Tmp
  | .region _ ops _ => opsWrites ops.toList
  | .seq a b => writes a ++ writes b
  | .cond _ a b => writes a ++ writes b
  | .block _ c => writes c
  | .loop c => writes c
  | .scope c => writes c
  | _ => []
def nloops : Code → Nat
  | .seq a b => nloops a + nloops b
  | .cond _ a b => nloops a + nloops b
  | .block _ c => nloops c
  | .scope c => nloops c
  | .loop c => nloops c + 1
  | .rangeFunc _ _ a b => nloops a + nloops b + 1
  | _ => 0

abbrev KF := Fr → World → Prop
abbrev QF := Exit → Fr → World → Prop

def gslot (ops : List Oper) (j : Nat) : Option Tmp := match ops[j]? with | some o => o.dst | none => none

/-- The operations in their order. -/
def vOps (C : Cx) (ops : List Oper) (K : KF) (E : Fr → List PanicEntry → World → Prop) : List Oper → Fr → World → Prop
  | [], fr, w => K fr w
  | o :: rest, fr, w =>
    match o.guard with
    | none => vOp C fr o w (fun v w' => vOps C ops K E rest (fr.put o.dst v) w') (E fr)
    | some (j, want) => match gslot ops j with
      | none => False
      | some t => match fr.get t with
        | some (.bool b) => match want with
          | true => ifB b (vOp C (fr.put (some t) (.bool true)) o w (fun v w' => vOps C ops K E rest ((fr.put (some t) (.bool true)).put o.dst v) w') (E fr))
              (vOps C ops K E rest ((fr.put (some t) (.bool false)).put o.dst undef) w)
          | false => ifB b (vOps C ops K E rest ((fr.put (some t) (.bool true)).put o.dst undef) w)
              (vOp C (fr.put (some t) (.bool false)) o w (fun v w' => vOps C ops K E rest ((fr.put (some t) (.bool false)).put o.dst v) w') (E fr))
        | some (.tuple _) => vOps C ops K E rest (fr.put o.dst undef) w
        | _ => False

def thenF (K : KF) (Q : QF) : QF
  | .normal, fr, w => K fr w
  | e, fr, w => Q e fr w
def blockF (id : Nat) (Q : QF) : QF
  | .exit i, fr, w => match Nat.beq i id with | true => Q .normal fr w | false => Q (.exit i) fr w
  | e, fr, w => Q e fr w

def getAll (fr : Fr) : List Tmp → Option (List Value)
  | [] => some []
  | t :: ts => match fr.get t, getAll fr ts with | some v, some vs => some (v :: vs) | _, _ => none
def clearAll (fr : Fr) : List Tmp → Fr
  | [] => fr
  | t :: ts => clearAll (fr.set t none) ts
def setAll (fr : Fr) : List Tmp → List Value → Fr
  | t :: ts, v :: vs => setAll (fr.set t (some v)) ts vs
  | _, _ => fr
def loopFr (ws : List Tmp) (live : List Tmp) (vs : List Value) (fr : Fr) : Fr := setAll (clearAll fr ws) live vs

abbrev Ann := Nat → List (Tmp × Sh)

/-- A loop: what holds at every round's head, and what goes down. -/
def vLoop (shs : List Sh) (vs0 : List Value) (w : World) (body : List Value → World → (List Value → World → Prop) → Prop) : Prop :=
  ∃ (J : List Value → World → Prop) (μ : List Value → World → Nat), J vs0 w ∧
    allS shs fun vs => ∀ w, J vs w → body vs w fun vs' w' => J vs' w' ∧ μ vs' w' < μ vs w

/-! ### soundness -/
def Same (ws : List Tmp) (a a' : Act) : Prop := a'.tmps.size = a.tmps.size ∧ a'.defers = a.defers ∧ ∀ t, t ∉ ws → a'.tmps.getD t undef = a.tmps.getD t undef
theorem Same.refl (ws : List Tmp) (a : Act) : Same ws a a := ⟨rfl, rfl, fun _ _ => rfl⟩
theorem Same.trans {ws ws' : List Tmp} {a b c : Act} (h : Same ws a b) (h' : Same ws' b c) : Same (ws ++ ws') a c :=
  ⟨h'.1.trans h.1, h'.2.1.trans h.2.1, fun t ht => by
    simp only [List.mem_append, not_or] at ht
    rw [h'.2.2 t ht.2, h.2.2 t ht.1]⟩
theorem Same.mono {ws ws' : List Tmp} {a b : Act} (h : Same ws a b) (hs : ∀ t, t ∈ ws → t ∈ ws') : Same ws' a b :=
  ⟨h.1, h.2.1, fun t ht => h.2.2 t fun h1 => ht (hs t h1)⟩
theorem Same.put (a : Act) (d : Option Tmp) (v : Value) : Same d.toList a (a.put d v) := by
  cases d with
  | none => exact .refl _ _
  | some t =>
    refine ⟨by simp [Act.put], rfl, fun u hu => ?_⟩
    have : ¬ t = u := fun e => hu (by simp [e])
    simp [Act.put, Array.getD_eq_getD_getElem?, Array.getElem?_setIfInBounds, this]

/-- What a lifted post says of an activation. -/
def Post (ws : List Tmp) (a : Act) (Q : QF) : Exit → Act → World → Prop := fun e a' w' => Same ws a a' ∧ ∃ fr', Agree fr' a' ∧ Q e fr' w'

/-- the fences: no fence at all, but in a round or not -/
def FW (ro : Option Nat) : Fence := { Fence.wide with round := ro }

variable {C : Cx} {A : Ann} {ro : Option Nat} {n : Nat}

theorem fw_calls {P : Program} {f : FuncId} {args : Array Value} {w : World} {R : Ending → World → Prop} : CallsIn (FW ro) n P f args w R ↔ Calls P f args w R :=
  callsIn_wide
theorem fw_round {P : Program} {l : Nat} {f : FuncId} {tmps : Array Value} {x y : Code} {w : World} {R : Ending → World → Prop} (h : RoundIn Fence.wide 0 P l f tmps x y w R) : RoundIn (FW ro) n P l f tmps x y w R :=
  ⟨trivial, fun c cs _ => h.2 c cs (room_wide _)⟩

theorem upon_in {o : Oper} {a : Act} {next : Act → World → Prop} {Q : Exit → Act → World → Prop} {r : Result Next}
    (hd : ∀ c, o.op ≠ .defer c) (h : Upon C.P (fun v w => next (a.put o.dst v) w) (fun ch w => Q (.panic ch) a w) r) (hx : ∀ d w, r ≠ .ok (.defer d) w) :
    o.uponIn (FW ro) n C.P a next Q r := by
  cases r with
  | ok x w =>
    cases x <;> simp only [Upon] at h <;> try exact h.elim
    case value v => exact h
    case skip => exact h
    case enter f args =>
      refine ⟨fun hh => by simp [FW, Fence.wide] at hh, fw_calls.2 (h.mono fun e w' hp => ?_)⟩
      cases e <;> first | exact hp | exact hp.elim
    case round l f tmps x y =>
      refine ⟨fun hh => by simp [FW, Fence.wide] at hh, (fw_round h).mono fun e w' hp => ?_⟩
      cases e <;> first | exact hp | exact hp.elim
  | halt x w =>
    cases x <;> simp only [Upon] at h <;> try exact h.elim
    exact h

theorem vOp_noDefer {fr : Fr} {o : Oper} {w : World} {K : Value → World → Prop} {E : List PanicEntry → World → Prop} (h : vOp C fr o w K E) : ∀ c, o.op ≠ .defer c := by
  intro c e
  unfold vOp at h
  rw [e] at h
  exact h
theorem Upon.mono {P : Program} {K K' : Value → World → Prop} {E E' : List PanicEntry → World → Prop} {r : Result Next} (hk : ∀ v w, K v w → K' v w) (he : ∀ ch w, E ch w → E' ch w)
    (h : Upon P K E r) : Upon P K' E' r := by
  cases r with
  | ok x w =>
    cases x <;> simp only [Upon] at h ⊢ <;> try exact h.elim
    case value v => exact hk _ _ h
    case skip => exact hk _ _ h
    case enter f args =>
      refine h.mono fun e w' hp => ?_
      cases e <;> first | exact hk _ _ hp | exact he _ _ hp | exact hp.elim
    case round l f tmps x y =>
      refine h.mono fun e w' hp => ?_
      cases e <;> first | exact hk _ _ hp | exact he _ _ hp | exact hp.elim
  | halt x w =>
    cases x <;> simp only [Upon] at h ⊢ <;> try exact h.elim
    exact he _ _ h
theorem vOp_in (hC : C.ok) {fr : Fr} {o : Oper} {a : Act} {w : World} {K : Value → World → Prop} {E : List PanicEntry → World → Prop} {next : Act → World → Prop} {Q : Exit → Act → World → Prop} (ag : Agree fr a)
    (h : vOp C fr o w K E) (hk : ∀ v w, K v w → next (a.put o.dst v) w) (he : ∀ ch w, E ch w → Q (.panic ch) a w) : o.wpIn (FW ro) n C.P a w next Q := by
  refine ⟨fun _ _ => trivial, ?_⟩
  have hd := vOp_noDefer h
  rw [Oper.semAt_eq _ _ _ hd]
  have hu := (vOp_sound hC ag h).mono hk he
  refine upon_in hd hu fun d w' e => ?_
  rw [e] at hu
  exact hu
theorem LetsOut.mono {Q Q' : Exit → Act → World → Prop} (hq : ∀ e a w, Q e a w → Q' e a w) (h : LetsOut Q) : LetsOut Q' := let ⟨a, w, h⟩ := h; ⟨a, w, hq _ _ _ h⟩
theorem operIn_mono {F : Fence} {P : Program} {o : Oper} {a : Act} {w : World} {next next' : Act → World → Prop} {Q Q' : Exit → Act → World → Prop}
    (hn : ∀ a w, next a w → next' a w) (hq : ∀ e a w, Q e a w → Q' e a w) (h : o.wpIn F n P a w next Q) : o.wpIn F n P a w next' Q' := by
  refine ⟨h.1, ?_⟩
  have h2 := h.2
  revert h2
  generalize (o.semAt F.round a.eval).run P w = r
  intro h2
  cases r with
  | ok x w =>
    cases x <;> simp only [Oper.uponIn] at h2 ⊢ <;> try exact h2.elim
    case value v => exact hn _ _ h2
    case skip => exact hn _ _ h2
    case defer d => exact hn _ _ h2
    case enter f args =>
      refine ⟨h2.1, h2.2.mono fun e w' hp => ?_⟩
      cases e <;> first | exact hn _ _ hp | exact hq _ _ _ hp | exact LetsOut.mono hq hp
    case row f args => exact ⟨h2.1, h2.2.mono fun e w' hp => hn _ _ hp⟩
    case round l f tmps x y =>
      refine ⟨h2.1, h2.2.mono fun e w' hp => ?_⟩
      cases e <;> first | exact hn _ _ hp | exact hq _ _ _ hp | exact LetsOut.mono hq hp
  | halt x w =>
    cases x <;> simp only [Oper.uponIn] at h2 ⊢ <;> try exact h2.elim
    exact hq _ _ _ h2
theorem wpOpsIn_mono {F : Fence} {P : Program} {ops : Array Oper} {Q Q' : Exit → Act → World → Prop} (hq : ∀ e a w, Q e a w → Q' e a w) : ∀ {l : List Nat} {a : Act} {w : World},
    wpOpsIn F n P ops Q l a w → wpOpsIn F n P ops Q' l a w
  | [], _, _, h => hq _ _ _ h
  | i :: rest, a, w, h => by
    simp only [wpOpsIn] at h ⊢
    split
    · rename_i ho; rw [ho] at h; exact wpOpsIn_mono hq h
    · rename_i o ho
      rw [ho] at h
      simp only at h
      split
      · rename_i hw; rw [if_pos hw] at h; exact operIn_mono (fun _ _ h => wpOpsIn_mono hq h) hq h
      · rename_i hw; rw [if_neg hw] at h; exact ⟨h.1, wpOpsIn_mono hq h.2⟩

theorem yielded_some {ops : List Oper} {j : Nat} {t : Tmp} {a : Act} {fr : Fr} {v : Value} (ag : Agree fr a) (hg : gslot ops j = some t) (hv : fr.get t = some v) :
    yielded ops.toArray a.tmps j = (match v with | .bool b => some b | _ => none) := by
  have h1 := ag.val t v hv
  have hlt : t < a.tmps.size := by
    have : t < fr.length := by
      unfold Fr.get at hv
      rcases Nat.lt_or_ge t fr.length with h | h
      · exact h
      · rw [List.getElem?_eq_none h] at hv; cases hv
    exact Nat.lt_of_lt_of_le this ag.le
  have h2 : a.tmps[t]? = some v := by
    rw [Array.getElem?_eq_getElem hlt]
    simp [Array.getD, hlt] at h1
    simp [h1]
  unfold gslot at hg
  unfold yielded
  cases ho : ops[j]? with
  | none => rw [ho] at hg; cases hg
  | some o =>
    rw [ho] at hg
    simp only [List.getElem?_toArray, ho, Option.bind_some]
    rw [show o.dst = some t from hg]
    simp only [Option.bind_some, h2]
    cases v <;> rfl

theorem agree_known {fr : Fr} {a : Act} {t : Tmp} {b c : Bool} (ag : Agree fr a) (hv : fr.get t = some (.bool b)) (hb : b = c) : Agree (fr.put (some t) (.bool c)) a := by
  subst hb
  refine ⟨by simpa [Fr.put] using ag.le, fun u x e => ?_⟩
  simp only [Fr.put, Fr.get_set] at e
  by_cases hc : t = u ∧ t < fr.length
  · rw [if_pos hc] at e
    cases e
    exact hc.1 ▸ ag.val t _ hv
  · rw [if_neg hc] at e
    exact ag.val u x e

theorem vOps_sound (hC : C.ok) {ops : List Oper} {K : KF} {E : Fr → List PanicEntry → World → Prop} : ∀ (l : List Oper) (k : Nat), (∀ j, l[j]? = ops[k + j]?) → ∀ (fr : Fr) (a : Act) (w : World), Agree fr a →
    vOps C ops K E l fr w →
    wpOpsIn (FW ro) n C.P ops.toArray (Post (opsWrites l) a (fun e fr w => match e with | .normal => K fr w | .panic ch => E fr ch w | _ => False)) (List.range' k l.length) a w
  | [], k, hl, fr, a, w, ag, h => ⟨.refl _ _, fr, ag, h⟩
  | o :: rest, k, hl, fr, a, w, ag, h => by
    have h0 : ops[k]? = some o := by simpa using (hl 0).symm
    have hl' : ∀ j, rest[j]? = ops[k + 1 + j]? := fun j => by
      have := hl (j + 1)
      rw [List.getElem?_cons_succ] at this
      rw [this, show k + (j + 1) = k + 1 + j by omega]
    have step : ∀ (fr' : Fr) (v : Value) (w' : World), Agree fr' (a.put o.dst v) → vOps C ops K E rest fr' w' →
        wpOpsIn (FW ro) n C.P ops.toArray (Post (opsWrites (o :: rest)) a (fun e fr w => match e with | .normal => K fr w | .panic ch => E fr ch w | _ => False)) (List.range' (k + 1) rest.length) (a.put o.dst v) w' := by
      intro fr' v w' ag' hv
      have := vOps_sound hC rest (k + 1) hl' fr' (a.put o.dst v) w' ag' hv
      refine wpOpsIn_mono ?_ this
      intro e a' w'' ⟨hs, hq⟩
      refine ⟨((Same.put a o.dst v).trans hs).mono ?_, hq⟩
      intro t ht
      rw [List.mem_append] at ht
      unfold opsWrites
      rw [List.mem_filterMap]
      rcases ht with ht | ht
      · refine ⟨o, List.mem_cons_self, ?_⟩
        cases hd : o.dst <;> simp_all
      · unfold opsWrites at ht
        rw [List.mem_filterMap] at ht
        obtain ⟨x, hx, he⟩ := ht
        exact ⟨x, List.mem_cons_of_mem _ hx, he⟩
    have pan : ∀ ch w', E fr ch w' → Post (opsWrites (o :: rest)) a (fun e fr w => match e with | .normal => K fr w | .panic ch => E fr ch w | _ => False) (.panic ch) a w' :=
      fun ch w' he => ⟨.refl _ _, fr, ag, he⟩
    rw [List.length_cons, List.range'_succ]
    simp only [wpOpsIn, List.getElem?_toArray, h0]
    unfold vOps at h
    split at h
    · rename_i hg
      rw [if_pos (by simp [Region.wanted, hg])]
      refine vOp_in hC ag h (fun v w' hk => ?_) (fun ch w' he => pan ch w' he)
      exact step _ v w' (ag.put _ _) hk
    · rename_i j want hg
      split at h
      · exact h.elim
      · rename_i t ht
        split at h
        · rename_i b hb
          have hy := yielded_some ag ht hb
          split at h
          · rw [ifB_iff] at h
            cases hbb : b with
            | true =>
              rw [if_pos (by simp [Region.wanted, hg, hy, hbb])]
              have ag1 := agree_known ag hb hbb
              refine vOp_in hC ag1 (h.1 hbb) (fun v w' hk => ?_) (fun ch w' he => pan ch w' he)
              exact step _ v w' (ag1.put _ _) hk
            | false =>
              rw [if_neg (by simp [Region.wanted, hg, hy, hbb])]
              exact ⟨fun _ _ => trivial, step _ undef w ((agree_known ag hb hbb).put _ _) (h.2 hbb)⟩
          · rw [ifB_iff] at h
            cases hbb : b with
            | true =>
              rw [if_neg (by simp [Region.wanted, hg, hy, hbb])]
              exact ⟨fun _ _ => trivial, step _ undef w ((agree_known ag hb hbb).put _ _) (h.1 hbb)⟩
            | false =>
              rw [if_pos (by simp [Region.wanted, hg, hy, hbb])]
              have ag1 := agree_known ag hb hbb
              refine vOp_in hC ag1 (h.2 hbb) (fun v w' hk => ?_) (fun ch w' he => pan ch w' he)
              exact step _ v w' (ag1.put _ _) hk
        · rename_i vs hb
          have hy := yielded_some ag ht hb
          rw [if_neg (by simp [Region.wanted, hg, hy])]
          exact ⟨fun _ _ => trivial, step _ undef w (ag.put _ _) h⟩
        · exact h.elim

theorem getAll_agree {fr : Fr} {a : Act} (ag : Agree fr a) : ∀ {ts : List Tmp} {vs : List Value}, getAll fr ts = some vs → ∀ t v, (t, v) ∈ ts.zip vs → a.tmps.getD t undef = v ∧ t < a.tmps.size
  | [], vs, h, t, v, hm => by simp at hm
  | t0 :: ts, vs, h, t, v, hm => by
    unfold getAll at h
    split at h
    · rename_i v0 vs0 h1 h2
      cases h
      simp only [List.zip_cons_cons, List.mem_cons, Prod.mk.injEq] at hm
      rcases hm with ⟨rfl, rfl⟩ | hm
      · refine ⟨ag.val _ _ h1, ?_⟩
        have : t < fr.length := by
          unfold Fr.get at h1
          rcases Nat.lt_or_ge t fr.length with h | h
          · exact h
          · rw [List.getElem?_eq_none h] at h1; cases h1
        exact Nat.lt_of_lt_of_le this ag.le
      · exact getAll_agree ag h2 t v hm
    · cases h
theorem clearAll_get : ∀ {ws : List Tmp} {fr : Fr} {t : Tmp} {v : Value}, Fr.get (clearAll fr ws) t = some v → fr.get t = some v ∧ t ∉ ws
  | [], fr, t, v, h => ⟨h, by simp⟩
  | u :: ws, fr, t, v, h => by
    obtain ⟨h1, h2⟩ := clearAll_get (ws := ws) h
    rw [Fr.get_set] at h1
    split at h1
    · cases h1
    · rename_i hc
      refine ⟨h1, ?_⟩
      simp only [List.mem_cons, not_or]
      refine ⟨fun e => hc ⟨e.symm, ?_⟩, h2⟩
      unfold Fr.get at h1
      rcases Nat.lt_or_ge t fr.length with h | h
      · exact e ▸ h
      · rw [List.getElem?_eq_none h] at h1; cases h1
theorem clearAll_length : ∀ {ws : List Tmp} {fr : Fr}, (clearAll fr ws).length = fr.length
  | [], _ => rfl
  | u :: ws, fr => by rw [clearAll, clearAll_length]; simp
theorem setAll_length : ∀ {ts : List Tmp} {vs : List Value} {fr : Fr}, (setAll fr ts vs).length = fr.length
  | [], _, _ => by simp [setAll]
  | t :: ts, [], _ => by simp [setAll]
  | t :: ts, v :: vs, fr => by rw [setAll, setAll_length]; simp
theorem setAll_get : ∀ {ts : List Tmp} {vs : List Value} {fr : Fr} {t : Tmp} {v : Value}, (setAll fr ts vs).get t = some v → fr.get t = some v ∨ (t, v) ∈ ts.zip vs
  | [], vs, fr, t, v, h => by rw [setAll] at h; exact .inl h; simp
  | u :: ts, [], fr, t, v, h => by rw [setAll] at h; exact .inl h; simp
  | u :: ts, x :: vs, fr, t, v, h => by
    rw [setAll] at h
    rcases setAll_get h with h1 | h1
    · rw [Fr.get_set] at h1
      split at h1
      · rename_i hc
        cases h1
        exact .inr (by simp [hc.1])
      · exact .inl h1
    · exact .inr (by simp [h1])
theorem loopFr_agree {ws live : List Tmp} {vs : List Value} {fr : Fr} {a a' : Act} (ag : Agree fr a) (hs : Same ws a a') (hv : ∀ t v, (t, v) ∈ live.zip vs → a'.tmps.getD t undef = v) :
    Agree (loopFr ws live vs fr) a' := by
  refine ⟨?_, fun t v h => ?_⟩
  · unfold loopFr; rw [setAll_length, clearAll_length, hs.1]; exact ag.le
  · rcases setAll_get h with h1 | h1
    · obtain ⟨h2, h3⟩ := clearAll_get h1
      rw [hs.2.2 t h3]
      exact ag.val _ _ h2
    · exact hv t v h1

theorem post_mono {ws ws' : List Tmp} {a a0 : Act} {Q Q' : QF} (hs : Same ws' a0 a) (hw : ∀ t, t ∈ ws' ++ ws → t ∈ ws') (hq : ∀ e fr w, Q e fr w → Q' e fr w) {e : Exit} {a' : Act} {w : World} (h : Post ws a Q e a' w) : Post ws' a0 Q' e a' w :=
  let ⟨h1, fr, h2, h3⟩ := h
  ⟨(hs.trans h1).mono hw, fr, h2, hq _ _ _ h3⟩

end Go.Lf
end

section
set_option linter.unusedVariables false
set_option linter.unusedSimpArgs false
namespace Go.Lf
open Go

def quietD (fr : Fr) (o : Oper) : Bool :=
  match o.op with
  | .move _ | .assign _ | .load _ _ | .nilCheck _ | .indexAddr _ _ _ | .index _ _ _ | .slice _ _ _ _ _ | .binOp _ _ _ _ _ | .makeFunc _ _ _ | .unOp _ _ _ | .field _ _ _ | .extract _ _
  | .pick _ _ _ | .fieldAddr _ _ _ | .build _ _ | .makeInterface _ _ => true
  | .convert _ _ x => match ev fr x with | some (.int _ _) => true | _ => false
  | .call c => match c.callee with
    | .builtin .cap | .builtin .max | .builtin .min => true
    | .builtin .len => match evs fr c.args.toList with | some [.map _] => false | some _ => true | none => false
    | _ => false
  | _ => false
def readsOf (C : Cx) (fr : Fr) (o : Oper) : List Addr :=
  match o.op with
  | .load t x => match ev fr x with | some (.pointer (some p)) => (List.range (C.P.cellsOf t)).map p.add | _ => []
  | _ => []

section
variable {C : Cx} {fr : Fr} {a : Act} {w : World} {K : Value → World → Prop} {E : List PanicEntry → World → Prop}

theorem next_of_run {P : Program} {s : Sem Value} {v : Value} {w : World} (h : s.run P w = .ok v w) : ((do pure (Next.value (← s)) : Sem Next).run P w) = .ok (.value v) w := by
  simp only [Sem.run_bind, h, Result.andThen_ok]; rfl
theorem pure_quiet {P : Program} {s : Sem Value} (h : vPure P s w K) : ∃ v, K v w ∧ ∀ w'' : World, ((do pure (Next.value (← s)) : Sem Next).run P w'') = .ok (.value v) w'' := by
  unfold vPure at h
  split at h
  · rename_i v hv; exact ⟨v, h, fun w'' => next_of_run (semVal_run w'' hv)⟩
  · exact h.elim

theorem cellsAt_move {w w'' : World} {p : Addr} : ∀ {vs : List Value} {i : Nat}, cellsAt w p i vs → (∀ j, j < vs.length → w''.cell? (p.add (i + j)) = w.cell? (p.add (i + j))) → cellsAt w'' p i vs
  | [], _, _, _ => trivial
  | v :: vs, i, h, hk => ⟨(hk 0 (by simp)).trans h.1, cellsAt_move h.2 fun j hj => by
      have := hk (j + 1) (by simp; omega)
      rwa [show i + (j + 1) = i + 1 + j by omega] at this⟩
theorem vLoad_quiet {P : Program} {t : TypeId} {p : Addr} {K : Value → Prop} (h : vLoad P t p w K) : ∃ v, K v ∧ ∀ w'' : World, (∀ q ∈ (List.range (P.cellsOf t)).map p.add, w''.cell? q = w.cell? q) → (loadVar t p).run P w'' = .ok v w'' := by
  unfold vLoad at h
  split at h
  · rename_i ks hks
    rw [need_iff] at h
    obtain ⟨hl, h⟩ := h
    obtain ⟨vs, hvs, hc, hk⟩ := exK_out h
    refine ⟨_, hk, fun w'' hag => ?_⟩
    have hu : ∃ d, P.underlying t = some d := by
      unfold aggKinds at hks
      split at hks
      · rename_i hu; exact ⟨_, hu⟩
      · rename_i hu; exact ⟨_, hu⟩
      · cases hks
    obtain ⟨d, hd⟩ := hu
    obtain ⟨i, hi⟩ := info_of_underlying hd
    have hl' := beq_iff_eq.1 hl
    have hsz : i.size = vs.length := by
      rw [cellsOf_some hi] at hl'
      omega
    have hc' : cellsAt w'' p 0 vs := cellsAt_move hc fun j hj => hag _ (List.mem_map.2 ⟨0 + j, by rw [List.mem_range]; omega, rfl⟩)
    have hcells : (loadCells p vs.length).run P w'' = .ok vs.toArray w'' :=
      run_loadCells_list w'' p vs (fun j v hj => by simpa using cellsAt_get hc' j v hj)
    simp only [loadVar, Sem.run_bind, isAgg_run hks, Result.andThen_ok, if_true, sizeOf_run hi, hsz, hcells]
    rfl
  · rename_i hks
    split at h
    · exact h.elim
    · rename_i d hd
      rw [need_iff] at h
      obtain ⟨hl, h⟩ := h
      obtain ⟨v, hc, hk⟩ := Kd.ex_out h
      refine ⟨v, hk, fun w'' hag => ?_⟩
      have h1 : P.cellsOf t = 1 := beq_iff_eq.1 hl
      have hcc : w''.cell? p = some v := by
        rw [← hc]
        have := hag (p.add 0) (List.mem_map.2 ⟨0, by rw [List.mem_range]; omega, rfl⟩)
        simpa [Addr.add] using this
      simp only [loadVar, Sem.run_bind, isAgg_run_no hd hks, Result.andThen_ok]
      simp [load, Sem.run, hcc]

theorem vOp_quiet {o : Oper} (ag : Agree fr a) (hq : quietD fr o = true) (h : vOp C fr o w K E) :
    ∃ v, K v w ∧ ∀ w'' : World, (∀ p ∈ readsOf C fr o, w''.cell? p = w.cell? p) → (execOp a.eval o).run C.P w'' = .ok (.value v) w'' := by
  unfold quietD at hq
  unfold readsOf
  unfold vOp at h
  unfold execOp
  split at h
  case h_1 x hx => 
    split at h
    · rename_i v hv; rw [hx]; exact ⟨v, h, fun w'' _ => by simp only [ag.ev hv, Sem.run_pure]⟩
    · exact h.elim
  case h_2 x hx =>
    split at h
    · rename_i v hv; rw [hx]; exact ⟨v, h, fun w'' _ => by simp only [ag.ev hv, Sem.run_pure]⟩
    · exact h.elim
  case h_3 t x hx =>
    split at h
    · rename_i p hv
      obtain ⟨v, hk, hr⟩ := vLoad_quiet h
      rw [hx]; refine ⟨v, hk, fun w'' hag => next_of_run ?_⟩
      simp only [hv] at hag
      simp only [ag.ev hv, Instr.loadAt, Instr.sureAddr, Sem.run_bind, Sem.run_pure, Result.andThen_ok, hr w'' hag]
    · exact h.elim
  case h_4 t x y hx => rw [hx] at hq; cases hq
  case h_5 t hx => rw [hx] at hq; cases hq
  case h_6 t x hx => rw [hx] at hq; cases hq
  case h_7 x hx =>
    split at h
    · rename_i p hv
      rw [nn_iff] at h
      obtain ⟨q, rfl, h⟩ := h
      rw [hx]; exact ⟨_, h, fun w'' _ => by simp only [ag.ev hv, Sem.run_pure]⟩
    · rename_i g x y hv
      rw [hx]; exact ⟨_, h, fun w'' _ => by simp only [ag.ev hv, Sem.run_pure]⟩
    · rename_i g x y hv
      rw [hx]; exact ⟨_, h, fun w'' _ => by simp only [ag.ev hv, Sem.run_pure]⟩
    · exact h.elim
  case h_8 t x i hx =>
    split at h
    · rename_i p n c k j hv hi
      split at h
      · rename_i e he
        split at h
        · rename_i ie hie
          rw [need_iff, nn_iff] at h
          obtain ⟨hb, q, rfl, h⟩ := h
          simp only [Bool.and_eq_true, decide_eq_true_eq] at hb
          rw [hx]; refine ⟨_, h, fun w'' _ => next_of_run ?_⟩
          simp only [ag.ev hv, ag.ev hi, Instr.indexAt, asIntOf, Sem.run_bind, Sem.run_pure, Result.andThen_ok, underlying_run he]
          rw [if_pos hb]
          simp only [Sem.run_bind, sizeOf_run hie, Result.andThen_ok, Sem.run_pure]
        · exact h.elim
      · exact h.elim
    · rename_i p k j hv hi
      split at h
      · rename_i n e he
        split at h
        · rename_i ie hie
          rw [need_iff] at h
          obtain ⟨hb, h⟩ := h
          simp only [Bool.and_eq_true, decide_eq_true_eq] at hb
          rw [hx]; refine ⟨_, h, fun w'' _ => next_of_run ?_⟩
          simp only [ag.ev hv, ag.ev hi, Instr.indexAt, asIntOf, Sem.run_bind, Sem.run_pure, Result.andThen_ok, underlying_run he, Instr.sureAddr]
          rw [if_pos hb]
          simp only [Sem.run_bind, sizeOf_run hie, Result.andThen_ok, Sem.run_pure]
        · exact h.elim
      · exact h.elim
    · exact h.elim
  case h_9 t x i hx =>
    split at h
    · rename_i s k j hv hi
      split at h
      · rename_i he
        rw [need_iff] at h
        obtain ⟨hb, h⟩ := h
        simp only [Bool.and_eq_true, decide_eq_true_eq] at hb
        rw [hx]; refine ⟨_, h, fun w'' _ => next_of_run ?_⟩
        have hj : j.toNat < s.size := by omega
        simp only [ag.ev hv, ag.ev hi, Instr.index, asIntOf, Sem.run_bind, Sem.run_pure, Result.andThen_ok, underlying_run he, hb.1, if_true]
        simp [hj, bt, Sem.run_pure]
      · exact h.elim
    · rename_i cs k j hv hi
      split at h
      · rename_i n e he
        split at h
        · rename_i ie d hie hd hag
          rw [need_iff, need_iff] at h
          obtain ⟨hs, hb, h⟩ := h
          simp only [Bool.and_eq_true, decide_eq_true_eq] at hb
          obtain ⟨v, hc, hk⟩ := Kd.ex_out h
          have hs' : ie.size = 1 := beq_iff_eq.1 hs
          rw [hx]; refine ⟨v, hk, fun w'' _ => next_of_run ?_⟩
          simp only [ag.ev hv, ag.ev hi, Instr.index, asIntOf, Sem.run_bind, Sem.run_pure, Result.andThen_ok, underlying_run he]
          rw [if_pos hb]
          simp only [Sem.run_bind, sizeOf_run hie, hs', Result.andThen_ok, part, isAgg_run_no hd hag, Nat.mul_one]
          simp [hc, Sem.run_pure]
        · exact h.elim
      · exact h.elim
    · exact h.elim
  case h_10 t x lo hi hx =>
    split at h
    · rename_i p n c l0 h0 hv hl hh
      split at h
      · rename_i e he
        split at h
        · rename_i ie hie
          split at h
          · rename_i l hh' hbl hbh
            rw [need_iff, need_iff] at h
            obtain ⟨b1, b2, h⟩ := h
            simp only [Bool.and_eq_true, decide_eq_true_eq] at b1 b2
            rw [hx]; refine ⟨_, h, fun w'' _ => next_of_run ?_⟩
            have e1 := evO_some ag hl
            have e2 := evO_some ag hh
            have r2 := sliceBound_run (P := C.P) (w := w'') (y := c) (code := .sliceAcap) hbh b1.1 b1.2 (fun hn => by subst hn; simp [bnd] at hbh; omega)
            have r1 := sliceBound_run (P := C.P) (w := w'') (y := hh'.toNat) (code := .sliceB) hbl b2.1 (by omega) (fun hn => by subst hn; simp [bnd] at hbl; omega)
            simp only [ag.ev hv, e1, e2, Instr.sliceAt, Sem.run_bind, underlying_run he, Result.andThen_ok, Instr.slice, Instr.sliceBounds, Option.map_none, Sem.run_pure, Option.isSome_none]
            cases h0 <;> cases l0 <;> simp_all [Sem.run_bind, sizeOf_run hie, Result.andThen_ok, Sem.run_pure, slA]
          · exact h.elim
        · exact h.elim
      · exact h.elim
    · rename_i s l0 h0 hv hl hh
      split at h
      · rename_i he
        split at h
        · rename_i l hh' hbl hbh
          rw [need_iff, need_iff] at h
          obtain ⟨b1, b2, h⟩ := h
          simp only [Bool.and_eq_true, decide_eq_true_eq] at b1 b2
          rw [hx]; refine ⟨_, h, fun w'' _ => next_of_run ?_⟩
          have e1 := evO_some ag hl
          have e2 := evO_some ag hh
          have r2 := sliceBound_run (P := C.P) (w := w'') (y := s.size) (code := .sliceAlen) hbh b1.1 b1.2 (fun hn => by subst hn; simp [bnd] at hbh; omega)
          have r1 := sliceBound_run (P := C.P) (w := w'') (y := hh'.toNat) (code := .sliceB) hbl b2.1 (by omega) (fun hn => by subst hn; simp [bnd] at hbl; omega)
          simp only [ag.ev hv, e1, e2, Instr.sliceAt, Sem.run_bind, underlying_run he, Result.andThen_ok, Instr.slice, Instr.sliceBounds, Option.map_none, Sem.run_pure, Option.isSome_none]
          cases h0 <;> cases l0 <;> simp_all [Sem.run_bind, Result.andThen_ok, Sem.run_pure]
        · exact h.elim
      · exact h.elim
    · exact h.elim
  case h_12 fn first cap hx =>
    split at h
    · rename_i x y h1 h2
      rw [hx]; refine ⟨_, h, fun w'' _ => next_of_run ?_⟩
      simp only [Instr.makeFunc, evs_arr ag h1, evs_arr ag h2, Sem.run_pure]
    · exact h.elim
  case h_13 op t x hx =>
    split at h
    · rename_i v hv; rw [hx]; obtain ⟨v', h1, h2⟩ := pure_quiet h; refine ⟨v', h1, fun w'' _ => ?_⟩; simp only [ag.ev hv]; exact h2 w''
    · exact h.elim
  case h_14 t x f hx =>
    split at h
    · rename_i v hv; rw [hx]; obtain ⟨v', h1, h2⟩ := pure_quiet h; refine ⟨v', h1, fun w'' _ => ?_⟩; simp only [ag.ev hv]; exact h2 w''
    · exact h.elim
  case h_15 x i hx =>
    split at h
    · rename_i v hv; rw [hx]; obtain ⟨v', h1, h2⟩ := pure_quiet h; refine ⟨v', h1, fun w'' _ => ?_⟩; simp only [ag.ev hv]; exact h2 w''
    · exact h.elim
  case h_16 c x y hx =>
    split at h
    · rename_i vc va vb h1 h2 h3
      rw [hx]
      obtain ⟨v', g1, g2⟩ := pure_quiet h
      refine ⟨v', g1, fun w'' _ => ?_⟩
      have := g2 w''
      simp only [ag.ev h1, ag.ev h2, ag.ev h3]
      simp only [Sem.run_bind, Sem.run_pure] at this ⊢
      revert this
      cases Sem.run C.P (asBool vc) w'' <;> exact fun h => h
    · exact h.elim
  case h_17 t x f hx =>
    split at h
    · rename_i p hv
      split at h
      · rename_i fs he
        split at h
        · rename_i fd hf
          split at h
          · rename_i i hi
            rw [need_iff] at h
            obtain ⟨hb, h⟩ := h
            have hb' : ¬ i.size = 0 := by simpa using hb
            rw [hx]; refine ⟨_, h, fun w'' _ => next_of_run ?_⟩
            simp only [ag.ev hv, Instr.fieldAt, Sem.run_bind, underlying_run he, Result.andThen_ok, hf, Instr.sureAddr, Sem.run_pure, fieldPlace, sizeOf_run hi]
            rw [if_neg hb']
            simp only [Sem.run_pure, Result.andThen_ok]
          · exact h.elim
        · exact h.elim
      · exact h.elim
    · exact h.elim
  case h_18 t ps hx =>
    split at h
    · rename_i vs hv
      rw [hx]; obtain ⟨v', h1, h2⟩ := pure_quiet h; refine ⟨v', h1, fun w'' _ => ?_⟩; simp only [parts_eq ag hv]; exact h2 w''
    · exact h.elim
  case h_19 s d x hx =>
    split at h
    · rename_i k v hv; rw [hx]; obtain ⟨v', h1, h2⟩ := pure_quiet h; refine ⟨v', h1, fun w'' _ => ?_⟩; simp only [ag.ev hv]; exact h2 w''
    · rename_i v hne hv; rw [hx] at hq; simp only [hv] at hq; split at hq <;> first | (cases hq; done) | (rename_i he; exact absurd (Option.some.inj he) (hne _ _))
    · exact h.elim
  case h_20 t n ps hx => rw [hx] at hq; cases hq
  case h_21 t x y hx => rw [hx] at hq; cases hq
  case h_22 t hx => rw [hx] at hq; cases hq
  case h_23 t x i ok hx => rw [hx] at hq; cases hq
  case h_24 t m k v hx => rw [hx] at hq; cases hq
  case h_25 t m k v hx => rw [hx] at hq; cases hq
  case h_26 t x hx => rw [hx] at hq; cases hq
  case h_27 it s hx => rw [hx] at hq; cases hq
  case h_28 it hx => rw [hx] at hq; cases hq
  case h_29 t x hx =>
    split at h
    · rename_i v hv; rw [hx]; obtain ⟨v', h1, h2⟩ := pure_quiet h; refine ⟨v', h1, fun w'' _ => ?_⟩; simp only [ag.ev hv]; exact h2 w''
    · exact h.elim
  case h_31 x hx => rw [hx] at hq; cases hq
  case h_32 => exact h.elim
  case h_11 op t x y ty hx =>
    rw [hx]
    split at h
    · rename_i k p k' q h1 h2
      rw [need_iff] at h
      obtain ⟨hb, h⟩ := h
      simp only [Bool.and_eq_true, decide_eq_true_eq, Bool.not_eq_true', decide_eq_false_iff_not] at hb
      obtain ⟨rfl, hq⟩ := hb
      refine ⟨_, h, fun w'' _ => next_of_run ?_⟩
      simp [ag.ev h1, ag.ev h2, eqGuard, binOp, Op.intDiv, hq, Sem.run_bind, Sem.run_pure, Result.andThen]
    · rename_i k p k' q h1 h2
      rw [need_iff] at h
      obtain ⟨hb, h⟩ := h
      simp only [Bool.and_eq_true, decide_eq_true_eq, Bool.not_eq_true', decide_eq_false_iff_not] at hb
      obtain ⟨rfl, hq⟩ := hb
      refine ⟨_, h, fun w'' _ => next_of_run ?_⟩
      simp [ag.ev h1, ag.ev h2, eqGuard, binOp, Op.intDiv, hq, Sem.run_bind, Sem.run_pure, Result.andThen]
    · rename_i k p k' q h1 h2
      rw [need_iff] at h
      obtain ⟨hb, h⟩ := h
      simp only [Bool.not_eq_true', decide_eq_false_iff_not] at hb
      refine ⟨_, h, fun w'' _ => next_of_run ?_⟩
      simp [ag.ev h1, ag.ev h2, eqGuard, binOp, Op.shift, hb, Sem.run_bind, Sem.run_pure, Result.andThen]
    · rename_i k p k' q h1 h2
      rw [need_iff] at h
      obtain ⟨hb, h⟩ := h
      simp only [Bool.not_eq_true', decide_eq_false_iff_not] at hb
      refine ⟨_, h, fun w'' _ => next_of_run ?_⟩
      simp [ag.ev h1, ag.ev h2, eqGuard, binOp, Op.shift, hb, Sem.run_bind, Sem.run_pure, Result.andThen]
    · rename_i p q h1 h2
      rw [need_iff] at h
      obtain ⟨hb, h⟩ := h
      simp only [decide_eq_true_eq] at hb
      refine ⟨_, h, fun w'' _ => next_of_run ?_⟩
      have hb' : ¬ (((p.size + q.size : Nat) : Int) > IntKind.i64.max) := by
        have : IntKind.i64.max = 9223372036854775807 := by decide
        omega
      simp only [ag.ev h1, ag.ev h2, eqGuard, binOp, Op.stringOp, Sem.run_bind, Sem.run_pure, Result.andThen_ok]
      rw [if_neg hb']
      rfl
    · rename_i xs ys h1 h2
      split at h
      · rename_i r hr
        refine ⟨_, h, fun w'' _ => next_of_run ?_⟩
        obtain ⟨e1, e2⟩ := aggEq_run (w := w'') (x := x) (y := y) (op := .eql) hr
        simp only [ag.ev h1, ag.ev h2]
        exact eql_run (by simp) e1 e2 bin_agg
      · exact h.elim
    · rename_i xs ys h1 h2
      split at h
      · rename_i r hr
        refine ⟨_, h, fun w'' _ => next_of_run ?_⟩
        obtain ⟨e1, e2⟩ := aggEq_run (w := w'') (x := x) (y := y) (op := .neq) hr
        simp only [ag.ev h1, ag.ev h2]
        exact eql_run (by simp) e1 e2 bin_agg
      · exact h.elim
    · rename_i p0 h1 h2
      split at h
      · rename_i hu
        refine ⟨_, h, fun w'' _ => next_of_run ?_⟩
        simp only [ag.ev h1, ag.ev h2]
        exact eql_run (by simp) guard_ptr (ptrNil_run hu 9999 p0) bin_ptr
      · exact h.elim
    · rename_i p0 h1 h2
      split at h
      · rename_i hu
        refine ⟨_, h, fun w'' _ => next_of_run ?_⟩
        simp only [ag.ev h1, ag.ev h2]
        exact eql_run (by simp) guard_ptr (ptrNil_run hu 9999 p0) bin_ptr
      · exact h.elim
    · rename_i p0 n0 c0 n1 c1 h1 h2
      split at h
      · rename_i hu
        refine ⟨_, h, fun w'' _ => next_of_run ?_⟩
        simp only [ag.ev h1, ag.ev h2]
        exact eql_run (by simp) guard_sl (slNil_run hu 9999 p0 n0 c0 n1 c1) bin_sl
      · exact h.elim
    · rename_i p0 n0 c0 n1 c1 h1 h2
      split at h
      · rename_i hu
        refine ⟨_, h, fun w'' _ => next_of_run ?_⟩
        simp only [ag.ev h1, ag.ev h2]
        exact eql_run (by simp) guard_sl (slNil_run hu 9999 p0 n0 c0 n1 c1) bin_sl
      · exact h.elim
    · rename_i p0 h1 h2
      split at h
      · rename_i hu
        refine ⟨_, h, fun w'' _ => next_of_run ?_⟩
        simp only [ag.ev h1, ag.ev h2]
        exact eql_run (by simp) guard_map (mapNil_run hu 9999 p0) bin_map
      · exact h.elim
    · rename_i p0 h1 h2
      split at h
      · rename_i hu
        refine ⟨_, h, fun w'' _ => next_of_run ?_⟩
        simp only [ag.ev h1, ag.ev h2]
        exact eql_run (by simp) guard_map (mapNil_run hu 9999 p0) bin_map
      · exact h.elim
    · rename_i op' p q _ _ _ _ _ _ _ _ _ _ _ _ _ h1 h2
      obtain ⟨v', g1, g2⟩ := pure_quiet h
      refine ⟨v', g1, fun w'' _ => ?_⟩
      simp only [ag.ev h1, ag.ev h2]
      exact g2 w''
    · exact h.elim
  case h_30 c hx =>
    rw [hx] at hq ⊢
    simp only at hq
    split at h
    · rename_i hc hargs; simp only [hc] at hq; cases hq
    · rename_i hc hargs; simp only [hc] at hq; cases hq
    · rename_i hc hargs; simp only [hc] at hq; cases hq
    · rename_i hc hargs; simp only [hc] at hq; cases hq
    · rename_i args hc hargs
      have hargs' := evs_arr ag hargs
      simp only [hc, hargs] at hq
      split at h
      · simp at hq
      · obtain ⟨v', g1, g2⟩ := pure_quiet h
        refine ⟨v', g1, fun w'' _ => ?_⟩
        have := g2 w''
        simpa only [resolve, hc, hargs', Sem.run_bind, Sem.run_pure, Result.andThen_ok, invoke, builtin] using this
    all_goals first
      | exact h.elim
      | (rename_i args hc hargs
         have hargs' := evs_arr ag hargs
         obtain ⟨v', g1, g2⟩ := pure_quiet h
         refine ⟨v', g1, fun w'' _ => ?_⟩
         have := g2 w''
         simpa only [resolve, hc, hargs', Sem.run_bind, Sem.run_pure, Result.andThen_ok, invoke, builtin] using this)
end
end Go.Lf
end
