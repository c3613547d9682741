/- Part 5 of the lemmas that a proof leans on; no claim is made here. By an AI agent. -/
import Derived.Test.YtofhodpdfbnkiaaGreatLfD04
import Derived.RangeFuncLeaves
import Derived.RangeFuncRecord
section
set_option linter.unusedVariables false
set_option linter.unusedSimpArgs false
namespace Go.Lf
open Go
variable {C : Cx} {A : Ann} {ro : Option Nat} {n : Nat}

/-- the marks of the loops over functions that a function still bears -/
def marks (ms : List Nat) : List Deferred := ms.map fun b => { target := .collected b, args := #[] }
abbrev QM := Exit → Fr → List Nat → World → Prop
def thenM (K : Fr → List Nat → World → Prop) (Q : QM) : QM
  | .normal, fr, ms, w => K fr ms w
  | e, fr, ms, w => Q e fr ms w
def blockM (id : Nat) (Q : QM) : QM
  | .exit i, fr, ms, w => match Nat.beq i id with | true => Q .normal fr ms w | false => Q (.exit i) fr ms w
  | e, fr, ms, w => Q e fr ms w
/-- no new marks in a loop's round -/
def eqMs : List Nat → List Nat → Prop → Prop
  | [], [], A => A
  | x :: xs, y :: ys, A => x = y ∧ eqMs xs ys A
  | _, _, _ => False
theorem eqMs_iff {A : Prop} : ∀ {xs ys : List Nat}, eqMs xs ys A → xs = ys ∧ A
  | [], [], h => ⟨rfl, h⟩
  | x :: xs, y :: ys, h => let ⟨h1, h2⟩ := eqMs_iff h.2; ⟨by rw [h.1, h1], h2⟩
  | [], _ :: _, h => h.elim
  | _ :: _, [], h => h.elim

def LoopAt (w : World) (l : Nat) (r : Loop) (s : LoopState) (p : Option Code) : Prop := w.heap[l]? = some (.loop { r with state := s, pending := p })
def putLoop (w : World) (l : Nat) (r : Loop) (s : LoopState) (p : Option Code) : World := w.putObj l (.loop { r with state := s, pending := p })
structure RecIs (r : Loop) (fr : Fr) (ps : Array Tmp) (assign body : Code) (D : Nat) : Prop where
  st : r.state = .ready
  pn : r.pending = none
  ps : r.params = ps
  as : r.assign = assign
  bd : r.body = body
  df : r.defers = D
  ag : Agree fr { tmps := r.tmps, defers := [] }
/-- the blocks that a body leaves -/
def escapes : Code → List Nat
  | .exit id => [id]
  | .seq a b => escapes a ++ escapes b
  | .cond _ a b => escapes a ++ escapes b
  | .block id c => (escapes c).filter fun x => !Nat.beq x id
  | .loop c => escapes c
  | .scope c => escapes c
  | .rangeFunc _ _ a b => escapes a ++ escapes b
  | _ => []
def jumpB (N R : Prop) (X : Nat → Prop) : Option Code → Prop
  | none => N
  | some .ret => R
  | some (.exit id) => X id
  | _ => False
def jumpX (Q : Nat → Prop) : List Nat → Nat → Prop
  | [], _ => False
  | x :: xs, id => ifB (Nat.beq x id) (Q x) (jumpX Q xs id)
def jumpQ (Q : QM) (es : List Nat) (fr : Fr) (ms : List Nat) (w : World) (p : Option Code) : Prop :=
  jumpB (Q .normal fr ms w) (Q .ret fr ms w) (jumpX (fun id => Q (.exit id) fr ms w) es) p
theorem jumpX_out {Q : Nat → Prop} : ∀ {es : List Nat} {id : Nat}, jumpX Q es id → Q id
  | [], _, h => h.elim
  | x :: xs, id, h => by
    unfold jumpX at h
    rw [ifB_iff] at h
    cases hb : Nat.beq x id with
    | true => have := h.1 hb; rwa [Nat.eq_of_beq_eq_true hb] at this
    | false => exact jumpX_out (h.2 hb)
/-- only these slots are known -/
def keepFr (ks : List Tmp) : Nat → Fr → Fr
  | _, [] => []
  | i, v :: r => (match ks.any (Nat.beq i) with | true => v | false => none) :: keepFr ks (i + 1) r
theorem keepFr_length {ks : List Tmp} : ∀ {i : Nat} {fr : Fr}, (keepFr ks i fr).length = fr.length
  | _, [] => rfl
  | i, v :: r => by simp [keepFr, keepFr_length]
theorem keepFr_get {ks : List Tmp} {v : Value} {fr : Fr} : ∀ {i : Nat} {t : Tmp}, Fr.get (keepFr ks i fr) t = some v → fr.get t = some v := by
  induction fr with
  | nil => intro i t h; exact h
  | cons x r ih =>
    intro i t h
    cases t with
    | zero =>
      unfold keepFr Fr.get at h
      simp only [List.getElem?_cons_zero] at h
      unfold Fr.get
      simp only [List.getElem?_cons_zero]
      cases hb : ks.any (Nat.beq i) with
      | true => rw [hb] at h; exact h
      | false => rw [hb] at h; cases h
    | succ t =>
      have : Fr.get (keepFr ks (i + 1) r) t = some v := by unfold keepFr at h; exact h
      exact ih this
theorem Agree.keep {fr : Fr} {a : Act} (h : Agree fr a) (ks : List Tmp) : Agree (keepFr ks 0 fr) a := ⟨by rw [keepFr_length]; exact h.le, fun t v e => h.val t v (keepFr_get e)⟩
/-- the end of a loop over a function -/
def EndL (w : World) (l : Nat) (r : Loop) (K : Option Code → World → Prop) : Prop := ∃ s p, LoopAt w l r s p ∧ s ≠ .busy ∧ K p (putLoop w l r .exhausted p)

def vc (C : Cx) (A : Ann) (ro : Option Nat) : Code → Nat → QM → Fr → List Nat → World → Prop
  | .skip, _, Q, fr, ms, w => Q .normal fr ms w
  | .region _ ops false, _, Q, fr, ms, w => vOps C ops.toList (fun fr w => Q .normal fr ms w) (fun fr ch w => Q (.panic ch) fr ms w) ops.toList fr w
  | .region id ops true, _, Q, fr, ms, w => need (C.P.follows .mixedOrders) (need (Region.noSelect ops) (match A (1000000 + id) with
    | [] => vDraw C ops (fun fr w => Q .normal fr ms w) ops.size (Array.replicate ops.size false) [] fr w.drew
    | _ => ∃ Post : List Value → World → Prop, vDraw C ops (fun fr' w' => match getAll fr' ((A (2000000 + id)).map (·.1)) with
          | some vs => need (fitsS ((A (2000000 + id)).map (·.2)) vs) (Post vs w')
          | none => False) ops.size (Array.replicate ops.size false) [] fr w.drew ∧
        allS ((A (2000000 + id)).map (·.2)) fun vs => ∀ w', Post vs w' → Q .normal (loopFr (opsWrites ops.toList) ((A (2000000 + id)).map (·.1)) vs fr) ms w'))
  | .seq a b, n, Q, fr, ms, w => vc C A ro a n (thenM (vc C A ro b (n + nloops a) Q) Q) fr ms w
  | .cond c x y, n, Q, fr, ms, w => match ev fr c with
    | some (.bool b) => ifB b (vc C A ro x n Q fr ms w) (vc C A ro y (n + nloops x) Q fr ms w)
    | _ => False
  | .block id c, n, Q, fr, ms, w => vc C A ro c n (blockM id Q) fr ms w
  | .loop c, n, Q, fr, ms, w => match getAll fr ((A n).map (·.1)) with
    | some vs0 => need (fitsS ((A n).map (·.2)) vs0) <| vLoop ((A n).map (·.2)) vs0 w fun vs w K =>
        vc C A ro c (n + 1) (thenM (fun fr' ms' w' => match getAll fr' ((A n).map (·.1)) with
          | some vs' => need (fitsS ((A n).map (·.2)) vs') (eqMs ms' ms (K vs' w'))
          | none => False) Q) (loopFr (writes c) ((A n).map (·.1)) vs fr) ms w
    | none => False
  | .rangeFunc g ps assign body, n, Q, fr, ms, w => match ev fr g with
    | some fv => match ro with
      | none => nw w (.deferred (some [])) fun D w1 => ∀ r : Loop, RecIs r (keepFr ((A n).map (·.1)) 0 fr) ps assign body D → nw w1 (.loop r) fun l w2 =>
          vCallF C fv [.func (.yield l) #[] #[]] w2 (CP (fun _ w3 => EndL w3 l r fun p w4 => jumpQ Q (escapes body) fr (D :: ms) w4 p) (fun ch w3 => Q (.panic ch) fr (D :: ms) w3))
      | some l0 => ∃ r0 : Loop, w.heap[l0]? = some (.loop r0) ∧ ∀ r : Loop, RecIs r (keepFr ((A n).map (·.1)) 0 fr) ps assign body r0.defers → nw w (.loop r) fun l w2 =>
          vCallF C fv [.func (.yield l) #[] #[]] w2 (CP (fun _ w3 => EndL w3 l r fun p w4 => jumpQ Q (escapes body) fr ms w4 p) (fun ch w3 => Q (.panic ch) fr ms w3))
    | none => False
  | .exit id, _, Q, fr, ms, w => Q (.exit id) fr ms w
  | .ret, _, Q, fr, ms, w => Q .ret fr ms w
  | .label _, _, Q, fr, ms, w => Q .normal fr ms w
  | .goto l, _, Q, fr, ms, w => Q (.goto l) fr ms w
  | _, _, _, _, _, _ => False

def SameT (ws : List Tmp) (a a' : Act) : Prop := a'.tmps.size = a.tmps.size ∧ ∀ t, t ∉ ws → a'.tmps.getD t undef = a.tmps.getD t undef
theorem SameT.refl (ws : List Tmp) (a : Act) : SameT ws a a := ⟨rfl, fun _ _ => rfl⟩
theorem SameT.trans {ws ws' : List Tmp} {a b c : Act} (h : SameT ws a b) (h' : SameT ws' b c) : SameT (ws ++ ws') a c :=
  ⟨h'.1.trans h.1, fun t ht => by
    simp only [List.mem_append, not_or] at ht
    rw [h'.2 t ht.2, h.2 t ht.1]⟩
theorem SameT.mono {ws ws' : List Tmp} {a b : Act} (h : SameT ws a b) (hs : ∀ t, t ∈ ws → t ∈ ws') : SameT ws' a b :=
  ⟨h.1, fun t ht => h.2 t fun h1 => ht (hs t h1)⟩
theorem Same.t {ws : List Tmp} {a b : Act} (h : Same ws a b) : SameT ws a b := ⟨h.1, h.2.2⟩
def PostM (ws : List Tmp) (a : Act) (Q : QM) : Exit → Act → World → Prop := fun e a' w' => SameT ws a a' ∧ ∃ fr' ms', Agree fr' a' ∧ a'.defers = marks ms' ∧ Q e fr' ms' w'
theorem loopFr_agreeT {ws live : List Tmp} {vs : List Value} {fr : Fr} {a a' : Act} (ag : Agree fr a) (hs : SameT ws a a') (hv : ∀ t v, (t, v) ∈ live.zip vs → a'.tmps.getD t undef = v) :
    Agree (loopFr ws live vs fr) a' := by
  refine ⟨?_, fun t v h => ?_⟩
  · unfold loopFr; rw [setAll_length, clearAll_length, hs.1]; exact ag.le
  · rcases setAll_get h with h1 | h1
    · obtain ⟨h2, h3⟩ := clearAll_get h1
      rw [hs.2 t h3]
      exact ag.val _ _ h2
    · exact hv t v h1


theorem vCallF_enter (hC : C.ok) {fv : Value} {args : List Value} {w : World} {R : Ending → World → Prop} (h : vCallF C fv args w R) :
    ∃ g a c, fv = .func (.func g) a c ∧ okFn C.P g ∧ Calls C.P g ((a ++ args.toArray) ++ c) w R := by
  unfold vCallF at h
  split at h
  · rename_i g a c
    rw [need_iff] at h
    exact ⟨g, a, c, rfl, hC g (has_mem h.1), h.2⟩
  · exact h.elim

theorem loop_eta (r : Loop) (hs : r.state = .ready) (hp : r.pending = none) : { r with state := .ready, pending := none } = r := by cases r; simp_all
theorem EndL_run {w : World} {l : Nat} {r : Loop} {K : Option Code → World → Prop} (h : EndL w l r K) : ∃ p w4, (Instr.endLoop l).run C.P w = .ok p w4 ∧ K p w4 := by
  obtain ⟨s, p, hl, hs, hk⟩ := h
  exact ⟨p, _, run_endLoop hl hs, hk⟩

theorem range_go (hC : C.ok) {g : Operand} {ps : Array Tmp} {assign body : Code} {Q : QM} {fr : Fr} {ms' : List Nat} {a : Act} {w w1 : World} {fv : Value} {fn : FuncId} {l : Nat} {mark : List Deferred} (ag : Agree fr a)
    (hv : a.eval g = fv) (hm : mark ++ a.defers = marks ms') (he : (Instr.enterLoop fn a.tmps ps assign body ro).run C.P w = .ok (l, mark) w1) (r : Loop)
    (h : vCallF C fv [.func (.yield l) #[] #[]] w1 (CP (fun _ w3 => EndL w3 l r fun p w4 => jumpQ Q (escapes body) fr ms' w4 p) (fun ch w3 => Q (.panic ch) fr ms' w3))) :
    ∃ (l : Nat) (mark : List Deferred) (w₁ : World) (d : Deferred) (w₁' : World) (f : FuncId) (args : Array Value) (w₂ : World),
      (Instr.enterLoop fn a.tmps ps assign body (FW ro).round).run C.P w = .ok (l, mark) w₁ ∧
      (resolve a.eval (rangeCall g l) 0).run C.P w₁ = .ok d w₁' ∧
      (∀ f', Target.leads C.P w₁' d.target d.args = some f' → (FW ro).fn f') ∧
      (invoke d.target d.args).run C.P w₁' = .ok (.enter f args) w₂ ∧
      ((FW ro).depth.isSome = true → 1 ≤ n) ∧
      CallsIn (FW ro) (n - 1) C.P f args w₂ (rangePost (FW ro) n C.P l (PostM [] a Q) { a with defers := mark ++ a.defers }) := by
  obtain ⟨gf, x, y, rfl, ⟨fnn, hf, hb, hn⟩, hc⟩ := vCallF_enter hC h
  have hb' : fnn.body.isNone = false := by cases hx : fnn.body <;> simp_all
  refine ⟨l, mark, w1, { target := .fn (.func gf) y, args := x ++ #[.func (.yield l) #[] #[]] }, w1, gf, (x ++ #[.func (.yield l) #[] #[]]) ++ y, w1, he, ?_, fun _ _ => trivial, ?_, fun hh => by simp [FW, Fence.wide] at hh, ?_⟩
  · have e1 : Array.map a.eval #[Operand.const (Value.func (Fn.yield l) #[] #[])] = #[Value.func (Fn.yield l) #[] #[]] := by simp [Act.eval]
    simp only [resolve, rangeCall, hv, Deferred.ofValue, Sem.run_pure, e1]
  · simp only [invoke, callFunc, Sem.run_bind, program, Sem.run, hf, hn, hb', Result.andThen_ok]
    rfl
  · refine fw_calls.2 (hc.mono fun e w3 hp => ?_)
    have agd : Agree fr { a with defers := mark ++ a.defers } := ⟨ag.le, ag.val⟩
    cases e with
    | returned v =>
      obtain ⟨p, w4, hr, hk⟩ := EndL_run (C := C) (K := fun p w4 => jumpQ Q (escapes body) fr ms' w4 p) hp
      refine ⟨p, w4, hr, ?_⟩
      unfold jumpQ jumpB at hk
      split at hk
      · exact ⟨⟨rfl, fun _ _ => rfl⟩, fr, ms', agd, hm, hk⟩
      · exact wpIn_ret ⟨⟨rfl, fun _ _ => rfl⟩, fr, ms', agd, hm, hk⟩
      · exact wpIn_exit ⟨⟨rfl, fun _ _ => rfl⟩, fr, ms', agd, hm, jumpX_out hk⟩
      · exact hk.elim
    | panicked ch => exact ⟨⟨rfl, fun _ _ => rfl⟩, fr, ms', agd, hm, hp⟩
    | outgrown => exact hp.elim

theorem vc_sound (hC : C.ok) : ∀ (c : Code) (k : Nat) (Q : QM) (fr : Fr) (ms : List Nat) (a : Act) (w : World), Agree fr a → a.defers = marks ms → vc C A ro c k Q fr ms w → c.wpIn (FW ro) n C.P (PostM (writes c) a Q) a w
  | .skip, k, Q, fr, ms, a, w, ag, hd, h => wpIn_skip ⟨.refl _ _, fr, ms, ag, hd, by unfold vc at h; exact h⟩
  | .region id ops false, k, Q, fr, ms, a, w, ag, hd, h => by
    unfold vc at h
    have := vOps_sound (ro := ro) (n := n) hC ops.toList 0 (by simp) fr a w ag h
    refine wpIn_region ?_
    rw [List.range_eq_range', ← Array.length_toList]
    refine wpOpsIn_mono ?_ (by simpa using this)
    intro e a' w' hp
    obtain ⟨hs, fr', ag', hq⟩ := hp
    refine ⟨hs.t, fr', ms, ag', hs.2.1.trans hd, ?_⟩
    cases e <;> first | exact hq | exact hq.elim
  | .region id ops true, k, Q, fr, ms, a, w, ag, hd, h => by
    unfold vc at h
    rw [need_iff, need_iff] at h
    obtain ⟨hmo, hns, h⟩ := h
    split at h
    · exact draw_sound hC hmo hns (fun a' w' hx => ⟨hx.1.t, hx.2.choose, ms, hx.2.choose_spec.1, hx.1.2.1.trans hd, hx.2.choose_spec.2⟩) ag h
    · obtain ⟨Post, h, hrest⟩ := h
      refine draw_sound hC hmo hns (fun a' w' hx => ?_) ag h
      obtain ⟨hs, fr', ag', hk⟩ := hx
      split at hk
      · rename_i vs hv
        rw [need_iff] at hk
        exact ⟨hs.t, _, ms, loopFr_agreeT (live := (A (2000000 + id)).map (·.1)) ag hs.t (fun t v hm => (getAll_agree ag' hv t v hm).1), hs.2.1.trans hd, allS_elim hrest hk.1 w' hk.2⟩
      · exact hk.elim
  | .seq x y, k, Q, fr, ms, a, w, ag, hd, h => by
    unfold vc at h
    refine wpIn_seq (wpIn_mono (vc_sound hC x k _ fr ms a w ag hd h) fun e a' w' hp => ?_)
    obtain ⟨hs, fr', ms', ag', hd', hq⟩ := hp
    cases e with
    | normal =>
      refine wpIn_mono (vc_sound hC y _ _ fr' ms' a' w' ag' hd' hq) fun e a'' w'' hp => ?_
      exact ⟨hs.trans hp.1, hp.2⟩
    | _ => exact ⟨hs.mono (fun t ht => List.mem_append_left _ ht), fr', ms', ag', hd', hq⟩
  | .cond c x y, k, Q, fr, ms, a, w, ag, hd, h => by
    unfold vc at h
    split at h
    · rename_i b hb
      rw [ifB_iff] at h
      refine wpIn_cond_split (ag.ev hb) (fun hbb => ?_) (fun hbb => ?_)
      · exact wpIn_mono (vc_sound hC x _ _ fr ms a w ag hd (h.1 hbb)) fun e a' w' hp => ⟨hp.1.mono (fun t ht => List.mem_append_left _ ht), hp.2⟩
      · exact wpIn_mono (vc_sound hC y _ _ fr ms a w ag hd (h.2 hbb)) fun e a' w' hp => ⟨hp.1.mono (fun t ht => List.mem_append_right _ ht), hp.2⟩
    · exact h.elim
  | .block id c, k, Q, fr, ms, a, w, ag, hd, h => by
    unfold vc at h
    refine wpIn_block (wpIn_mono (vc_sound hC c _ _ fr ms a w ag hd h) fun e a' w' hp => ?_)
    obtain ⟨hs, fr', ms', ag', hd', hq⟩ := hp
    cases e with
    | exit i =>
      simp only [Exit.inBlock]
      unfold blockM at hq
      simp only at hq
      split at hq
      · rename_i hb
        rw [if_pos (Nat.eq_of_beq_eq_true hb)]
        exact ⟨hs, fr', ms', ag', hd', hq⟩
      · rename_i hb
        have hne : i ≠ id := fun e => by subst e; simp at hb
        rw [if_neg hne]
        exact ⟨hs, fr', ms', ag', hd', hq⟩
    | _ => exact ⟨hs, fr', ms', ag', hd', hq⟩
  | .loop c, k, Q, fr, ms, a, w, ag, hd, h => by
    unfold vc at h
    split at h
    · rename_i vs0 hv0
      rw [need_iff] at h
      obtain ⟨hf0, J, μ, hJ, hround⟩ := h
      refine wpIn_loop (fun a' w' => SameT (writes c) a a' ∧ a'.defers = marks ms ∧ ∃ vs, (∀ t v, (t, v) ∈ ((A k).map (·.1)).zip vs → a'.tmps.getD t undef = v) ∧ fitsS ((A k).map (·.2)) vs = true ∧ J vs w')
        (fun a' w' => μ (((A k).map (·.1)).map fun t => a'.tmps.getD t undef) w') ?_ ?_
      · exact ⟨.refl _ _, hd, vs0, fun t v hm => (getAll_agree ag hv0 t v hm).1, hf0, hJ⟩
      · intro a1 w1 ⟨hs1, hd1, vs, hvs, hf, hJ1⟩
        have ag1 := loopFr_agreeT (live := (A k).map (·.1)) ag hs1 hvs
        have hr := allS_elim hround hf w1 hJ1
        refine wpIn_mono (vc_sound hC c _ _ _ ms a1 w1 ag1 hd1 hr) fun e a2 w2 hp => ?_
        obtain ⟨hs2, fr2, ms2, ag2, hd2, hq⟩ := hp
        have hs12 : SameT (writes c) a a2 := (hs1.trans hs2).mono (by simp)
        cases e with
        | normal =>
          simp only [thenM] at hq
          split at hq
          · rename_i vs' hv'
            rw [need_iff] at hq
            obtain ⟨hqf, hq⟩ := hq
            have hms := (eqMs_iff hq).1
            have hq2 := (eqMs_iff hq).2
            subst hms
            have hm : ∀ (vs : List Value) (a : Act), fitsS ((A k).map (·.2)) vs = true → (∀ t v, (t, v) ∈ ((A k).map (·.1)).zip vs → a.tmps.getD t undef = v) → (((A k).map (·.1)).map fun t => a.tmps.getD t undef) = vs := by
              intro vs a hf
              generalize A k = l at hf
              induction l generalizing vs with
              | nil => intro _; cases vs <;> simp_all [fitsS]
              | cons x l ih =>
                intro hv
                cases vs with
                | nil => simp [fitsS] at hf
                | cons v vs =>
                  simp only [List.map_cons, fitsS, Bool.and_eq_true] at hf
                  simp only [List.map_cons, List.zip_cons_cons, List.mem_cons] at hv ⊢
                  rw [hv x.1 v (.inl rfl), ih vs hf.2 fun t v h => hv t v (.inr h)]
            have hv2 : ∀ t v, (t, v) ∈ ((A k).map (·.1)).zip vs' → a2.tmps.getD t undef = v := fun t v hm => (getAll_agree ag2 hv' t v hm).1
            refine ⟨⟨hs12, hd2, vs', hv2, hqf, hq2.1⟩, ?_⟩
            show μ _ _ < μ _ _
            rw [hm vs a1 hf hvs, hm vs' a2 hqf hv2]
            exact hq2.2
          · exact hq.elim
        | _ => exact ⟨hs12, fr2, ms2, ag2, hd2, hq⟩
    · exact h.elim
  | .exit id, k, Q, fr, ms, a, w, ag, hd, h => wpIn_exit ⟨.refl _ _, fr, ms, ag, hd, by unfold vc at h; exact h⟩
  | .ret, k, Q, fr, ms, a, w, ag, hd, h => wpIn_ret ⟨.refl _ _, fr, ms, ag, hd, by unfold vc at h; exact h⟩
  | .label l, k, Q, fr, ms, a, w, ag, hd, h => wpIn_label ⟨.refl _ _, fr, ms, ag, hd, by unfold vc at h; exact h⟩
  | .goto l, k, Q, fr, ms, a, w, ag, hd, h => wpIn_goto ⟨.refl _ _, fr, ms, ag, hd, by unfold vc at h; exact h⟩
  | .rangeFunc g ps assign body, k, Q, fr, ms, a, w, ag, hd, h => by
    unfold vc at h
    split at h
    · rename_i fv hfv
      have hv := ag.ev hfv
      refine wpIn_rangeFunc fun fnn _ => ?_
      split at h
      · let r : Loop := { state := .ready, pending := none, fn := fnn, tmps := a.tmps, params := ps, assign, body, defers := w.heap.size }
        have hr : RecIs r (keepFr ((A k).map (·.1)) 0 fr) ps assign body w.heap.size := ⟨rfl, rfl, rfl, rfl, rfl, rfl, Agree.keep (a := { tmps := a.tmps, defers := [] }) ⟨ag.le, ag.val⟩ _⟩
        have hc := h r hr
        exact range_go (ms' := w.heap.size :: ms) hC ag hv (by rw [hd]; rfl) (run_enterLoop_outer fnn a.tmps ps assign body) r (by have := hc; unfold nw at this; rw [World.size_alloc] at this; exact this)
      · rename_i l0 _
        obtain ⟨r0, h0, h⟩ := h
        let r : Loop := { state := .ready, pending := none, fn := fnn, tmps := a.tmps, params := ps, assign, body, defers := r0.defers }
        have hr : RecIs r (keepFr ((A k).map (·.1)) 0 fr) ps assign body r0.defers := ⟨rfl, rfl, rfl, rfl, rfl, rfl, Agree.keep (a := { tmps := a.tmps, defers := [] }) ⟨ag.le, ag.val⟩ _⟩
        have hc := h r hr
        have he : (Instr.enterLoop fnn a.tmps ps assign body (some l0)).run C.P w = .ok (w.heap.size, []) (w.alloc (.loop r)) := by
          unfold Instr.enterLoop
          simp only [Sem.run_bind, run_getLoop h0, run_newObj_alloc, Result.andThen, Sem.run_pure]
          rfl
        exact range_go (ms' := ms) (mark := []) hC ag hv (by rw [hd]; rfl) he r hc
    · exact h.elim
  | .scope _, _, _, _, _, _, _, _, _, h => by unfold vc at h; exact h.elim
  | .refuse _, _, _, _, _, _, _, _, _, h => by unfold vc at h; exact h.elim

def vRes (P : Program) (fr : Fr) : List ResultVar → World → (List Value → Prop) → Prop
  | [], _, K => K []
  | .tmp t :: r, w, K => match fr.get t with | some v => vRes P fr r w fun vs => K (v :: vs) | none => False
  | .cell t ty :: r, w, K => match fr.get t with | some (.pointer (some p)) => vLoad P ty p w fun v => vRes P fr r w fun vs => K (v :: vs) | _ => False
def retV : List Value → Value
  | [v] => v
  | vs => .tuple vs.toArray
def resF (tmps : Array Value) : ResultVar → Sem Value
  | .tmp t => pure (tmps.getD t undef)
  | .cell x t => do loadVar t (← asAddr (tmps.getD x undef))
theorem vRes_run {P : Program} {fr : Fr} {a : Act} (ag : Agree fr a) : ∀ {rs : List ResultVar} {w : World} {K : List Value → Prop}, vRes P fr rs w K →
    ∃ vs, (rs.mapM (resF a.tmps)).run P w = .ok vs w ∧ K vs
  | [], w, K, h => ⟨[], rfl, h⟩
  | .tmp t :: r, w, K, h => by
    unfold vRes at h
    split at h
    · rename_i v hv
      obtain ⟨vs, hr, hk⟩ := vRes_run ag h
      refine ⟨v :: vs, ?_, hk⟩
      rw [List.mapM_cons]
      simp only [resF, Sem.run_bind, Sem.run_pure, Result.andThen_ok, ag.val _ _ hv]
      rw [hr]; rfl
    · exact h.elim
  | .cell t ty :: r, w, K, h => by
    unfold vRes at h
    split at h
    · rename_i p hv
      obtain ⟨v, hl, h⟩ := vLoad_run h
      obtain ⟨vs, hr, hk⟩ := vRes_run ag h
      refine ⟨v :: vs, ?_, hk⟩
      rw [List.mapM_cons]
      have ha : (resF a.tmps (.cell t ty)).run P w = .ok v w := by
        simp only [resF, Sem.run_bind, ag.val _ _ hv, asAddr, Sem.run_pure, Result.andThen_ok, hl]
      simp only [Sem.run_bind, ha, Result.andThen_ok]
      rw [hr]; rfl
    · exact h.elim
theorem results_run {P : Program} {fn : Func} {fr : Fr} {a : Act} {w : World} {K : Value → Prop} (ag : Agree fr a) (h : vRes P fr fn.results.toList w fun vs => K (retV vs)) :
    ∃ v, (results fn a.tmps).run P w = .ok v w ∧ K v := by
  obtain ⟨vs, hr, hk⟩ := vRes_run ag h
  refine ⟨_, ?_, hk⟩
  have e : results fn a.tmps = (do let vs ← fn.results.mapM (resF a.tmps); pure (if h : vs.size = 1 then vs[0] else .tuple vs) : Sem Value) := rfl
  rw [e, ← Array.toArray_toList (xs := fn.results), List.mapM_toArray]
  simp only [Sem.run_bind, Sem.run_map, hr, Result.andThen_ok, Sem.run_pure]
  match vs with
  | [] => rfl
  | [v] => rfl
  | _ :: _ :: _ => simp [retV]

/-- the marks are taken up -/
def vMarks : List Nat → World → (World → Prop) → Prop
  | [], w, K => K w
  | D :: r, w, K => w.heap[D]? = some (.deferred (some [])) ∧ vMarks r (w.putObj D (.deferred none)) K
def vFn (C : Cx) (A : Ann) (rs : List ResultVar) (body : Code) (tm : Fr) (w : World) (R : Ending → World → Prop) : Prop :=
  vc C A none body 0 (fun e fr ms w => match e with
    | .normal => vMarks ms w fun w => vRes C.P fr rs w fun vs => R (.returned (retV vs)) w
    | .ret => vMarks ms w fun w => vRes C.P fr rs w fun vs => R (.returned (retV vs)) w
    | .panic ch => vMarks ms w fun w => R (.panicked ch) w
    | _ => False) tm [] w
theorem vMarks_leaves {P : Program} {fn : Func} {tmps : Array Value} {R : Ending → World → Prop} {u : FrameMode} (hu : u ≠ .run) : ∀ {ms : List Nat} {w : World} {K : World → Prop}, vMarks ms w K →
    (∀ w, K w → LeavesIn (FW none) 0 P fn tmps R [] u w) → LeavesInM (FW none) 0 P fn tmps R (marks ms) u w
  | [], w, K, h, hk => hk w h
  | D :: r, w, K, h, hk => ⟨hu, .inl ⟨D, _, rfl, run_takeDeferred h.1, vMarks_leaves hu h.2 hk⟩⟩
def startFr (ntmps : Nat) (args : List Value) : Fr := args.map some ++ List.replicate (ntmps - args.length) (some undef)

theorem calls_of_vFn (hC : C.ok) {f : FuncId} {fn : Func} {c : Code} {args : List Value} {w : World} {R : Ending → World → Prop} (hf : C.P.funcs[f]? = some fn) (hb : fn.body = some c)
    (h : vFn C A fn.results.toList c (startFr fn.ntmps args) w R) : Calls C.P f args.toArray w R := by
  refine (fw_calls (ro := none) (n := 0)).1 (callsIn_of_wp_marks hf hb trivial (wpIn_mono (vc_sound hC c 0 _ (startFr fn.ntmps args) [] _ w ?_ rfl h) ?_))
  · refine ⟨by simp [startFr], fun t v he => ?_⟩
    have : (args.toArray ++ Array.replicate (fn.ntmps - args.toArray.size) undef) = (args ++ List.replicate (fn.ntmps - args.length) undef).toArray := by simp
    rw [this]
    unfold Fr.get startFr at he
    rw [← List.map_replicate, ← List.map_append, List.getElem?_map] at he
    cases hx : (args ++ List.replicate (fn.ntmps - args.length) undef)[t]? with
    | none => rw [hx] at he; simp at he
    | some u =>
      rw [hx] at he
      simp at he
      simp [Array.getD_eq_getD_getElem?, hx, he]
  · intro e a' w' ⟨hs, fr', ms', ag', hd, hq⟩
    cases e with
    | normal =>
      show LeavesInM _ _ _ _ _ _ a'.defers _ _
      rw [hd]
      refine vMarks_leaves (by simp) hq fun w h => ?_
      obtain ⟨v, hr, hk⟩ := results_run (K := fun v => R (.returned v) w) ag' h
      exact ⟨v, hr, hk⟩
    | ret =>
      show LeavesInM _ _ _ _ _ _ a'.defers _ _
      rw [hd]
      refine vMarks_leaves (by simp) hq fun w h => ?_
      obtain ⟨v, hr, hk⟩ := results_run (K := fun v => R (.returned v) w) ag' h
      exact ⟨v, hr, hk⟩
    | panic ch =>
      show LeavesInM _ _ _ _ _ _ a'.defers _ _
      rw [hd]
      exact vMarks_leaves (by simp) hq fun w h => h
    | exit _ => exact hq.elim
    | goto _ => exact hq.elim
    | outgrown => exact hq.elim

def bodyOf (f : Func) : Code := match f.body with | some c => c | none => .skip
theorem calls_of_B (hC : C.ok) {f : FuncId} {fn : Func} {args : List Value} {w : World} {R : Ending → World → Prop} {B : Prop} (hf : C.P.funcs[f]? = some fn) (hb : fn.body.isSome = true)
    (he : vFn C A fn.results.toList (bodyOf fn) (startFr fn.ntmps args) w R = B) (h : B) : Calls C.P f args.toArray w R := by
  refine calls_of_vFn (A := A) hC hf (c := bodyOf fn) ?_ (he.symm ▸ h)
  unfold bodyOf
  cases hx : fn.body with
  | none => rw [hx] at hb; cases hb
  | some c => rfl
def okFnB (P : Program) (g : Nat) : Bool := match P.funcs[g]? with | some fn => fn.body.isSome && !(fn.name == "runtime.NumGoroutine") | none => false
theorem ok_of_all {C : Cx} (h : C.fns.all (okFnB C.P) = true) : C.ok := by
  intro g hg
  rw [List.all_eq_true] at h
  have := h g hg
  unfold okFnB at this
  split at this
  · rename_i fn hf
    simp only [Bool.and_eq_true, Bool.not_eq_true'] at this
    exact ⟨fn, hf, this.1, this.2⟩
  · cases this

/-! ### a round of a loop over a function -/
def roundM (P : Program) (l : Nat) (r : Loop) (Rt : Value → World → Prop) : QM
  | .normal, _, ms, w => ms = [] ∧ ∃ p, LoopAt w l r .busy p ∧ Rt (.bool true) (putLoop w l r .ready none)
  | .ret, _, ms, w => ms = [] ∧ ∃ p, LoopAt w l r .busy p ∧ Rt (.bool false) (putLoop w l r .done (some .ret))
  | .exit id, _, ms, w => ms = [] ∧ ∃ p, LoopAt w l r .busy p ∧ Rt (.bool false) (putLoop w l r .done (some (.exit id)))
  | _, _, _, _ => False
def vRound (C : Cx) (A : Ann) (assign body : Code) (n : Nat) (l : Nat) (r : Loop) (fr : Fr) (w : World) (Rt : Value → World → Prop) : Prop :=
  vc C A (some l) assign n (fun e fr1 ms w1 => match e with
    | .normal => ms = [] ∧ ∃ p, LoopAt w1 l r .ready p ∧ vc C A (some l) body (n + nloops assign) (roundM C.P l r Rt) fr1 [] (putLoop w1 l r .busy p)
    | _ => False) fr [] w
def setArgs : List Tmp → List Value → Fr → Fr
  | t :: ts, v :: vs, fr => setArgs ts vs (fr.set t (some v))
  | _, _, fr => fr
theorem setArgs_agree {ds : List Deferred} : ∀ {ps : List Tmp} {vs : List Value} {fr : Fr} {tm : Array Value}, Agree fr { tmps := tm, defers := ds } →
    Agree (setArgs ps vs fr) { tmps := (ps.zip vs).foldl (fun tmps (t, a) => tmps.setIfInBounds t a) tm, defers := ds }
  | [], vs, fr, tm, h => by simpa [setArgs] using h
  | t :: ps, [], fr, tm, h => by simpa [setArgs] using h
  | t :: ps, v :: vs, fr, tm, h => setArgs_agree (ps := ps) (vs := vs) (h.put (some t) v)

theorem rnd_of_vRound (hC : C.ok) {l : Nat} {r : Loop} {fr : Fr} {ps : Array Tmp} {assign body : Code} {D : Nat} {p : Option Code} {args : List Value} {w : World} {Rt : Value → World → Prop} {E : List PanicEntry → World → Prop}
    (hr : RecIs r fr ps assign body D) (hl : LoopAt w l r .ready p) (hs : args.length = ps.size) (h : vRound C A assign body n l r (setArgs ps.toList args fr) w Rt) : Rnd C.P l args.toArray w (CP Rt E) := by
  refine ⟨_, hl, ?_, ?_⟩
  · show args.toArray.size = r.params.size
    rw [hr.ps]; simpa using hs
  · show RoundIn Fence.wide 0 C.P l r.fn ((r.params.zip args.toArray).foldl (fun tmps (t, a) => tmps.setIfInBounds t a) r.tmps) r.assign r.body w (CP Rt E)
    refine roundIn_of_wpIn (F := Fence.wide) trivial ?_
    have hF : Fence.wide.inRound l = FW (some l) := rfl
    rw [hF, hr.as, hr.bd]
    have ag : Agree (setArgs ps.toList args fr) { tmps := (r.params.zip args.toArray).foldl (fun tmps (t, a) => tmps.setIfInBounds t a) r.tmps, defers := [] } := by
      have := setArgs_agree (ps := ps.toList) (vs := args) hr.ag
      rw [hr.ps]
      have e : (ps.zip args.toArray) = (ps.toList.zip args).toArray := by apply Array.ext'; simp
      rw [e, List.foldl_toArray]
      exact this
    refine wpIn_mono (vc_sound (ro := some l) hC assign n _ _ [] _ w ag rfl h) fun e a1 w1 hp => ?_
    obtain ⟨hs1, fr1, ms1, ag1, hd1, hq⟩ := hp
    cases e with
    | normal =>
      obtain ⟨rfl, p1, hl1, hv⟩ := hq
      refine ⟨_, run_beginRound hl1 rfl, ?_⟩
      refine wpIn_mono (vc_sound (ro := some l) hC body _ _ fr1 [] a1 _ ag1 hd1 hv) fun e a2 w2 hp => ?_
      obtain ⟨hs2, fr2, ms2, ag2, hd2, hq⟩ := hp
      cases e with
      | normal => obtain ⟨_, p2, hl2, hk⟩ := hq; exact ⟨_, _, run_endRound none hl2, hk⟩
      | ret => obtain ⟨_, p2, hl2, hk⟩ := hq; exact ⟨_, _, run_endRound (some .ret) hl2, hk⟩
      | exit id => obtain ⟨_, p2, hl2, hk⟩ := hq; exact ⟨_, _, run_endRound (some (.exit id)) hl2, hk⟩
      | panic _ => exact hq.elim
      | goto _ => exact hq.elim
      | outgrown => exact hq.elim
    | panic _ => exact hq.elim
    | goto _ => exact hq.elim
    | outgrown => exact hq.elim
    | ret => exact hq.elim
    | exit _ => exact hq.elim

/-- the code at a place -/
def codeAt : List Nat → Code → Code
  | [], c => c
  | 0 :: p, .seq a _ => codeAt p a
  | _ :: p, .seq _ b => codeAt p b
  | 0 :: p, .cond _ a _ => codeAt p a
  | _ :: p, .cond _ _ b => codeAt p b
  | _ :: p, .block _ c => codeAt p c
  | _ :: p, .loop c => codeAt p c
  | _ :: p, .scope c => codeAt p c
  | 0 :: p, .rangeFunc _ _ a _ => codeAt p a
  | _ :: p, .rangeFunc _ _ _ b => codeAt p b
  | _, c => c

def Cx.with (C : Cx) (e : Nat → List Sh) : Cx := { P := C.P, fns := C.fns, ent := e }
end Go.Lf
end
