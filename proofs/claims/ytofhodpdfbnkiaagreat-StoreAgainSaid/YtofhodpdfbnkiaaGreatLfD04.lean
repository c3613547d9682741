/- Part 4 of the lemmas that a proof leans on; no claim is made here. By an AI agent. -/
import Derived.Test.YtofhodpdfbnkiaaGreatLfD03
section
set_option linter.unusedVariables false
set_option linter.unusedSimpArgs false
namespace Go.Lf
open Go

abbrev Rd := List (Nat × List Addr)
/-- Operation j waits for operation i, on whatever way. -/
def wf (ops : Array Oper) : Nat → Nat → Nat → Bool
  | 0, _, _ => false
  | n + 1, j, i => match ops[j]? with | some o => o.after.any fun e => Region.binds .any e && (Nat.beq e.on i || (Nat.blt i e.on && wf ops n e.on i)) | none => false
def waitsFor (ops : Array Oper) (j i : Nat) : Bool := wf ops 24 j i
/-- What is listed waits for nothing that is not. -/
def Closed (ops : Array Oper) (listed : Array Bool) : Prop :=
  ∀ j, listed.getD j false = true → ∀ o, ops[j]? = some o → ∀ e ∈ o.after, Region.binds .any e = true → listed.getD e.on false = true
theorem wf_false {ops : Array Oper} {listed : Array Bool} {i : Nat} (hc : Closed ops listed) (hi : listed.getD i true = false) : ∀ (n j : Nat),
    (∀ o, ops[j]? = some o → ∀ e ∈ o.after, Region.binds .any e = true → listed.getD e.on false = true) → wf ops n j i = false
  | 0, _, _ => rfl
  | n + 1, j, h => by
    unfold wf
    split
    · rename_i o ho
      rw [Bool.eq_false_iff]
      intro hx
      obtain ⟨e, he, hb⟩ := Array.any_eq_true'.1 hx
      simp only [Bool.and_eq_true, Bool.or_eq_true, beq_iff_eq] at hb
      have hl := h o ho e he hb.1
      rcases hb.2 with h1 | h1
      · have h1 := Nat.eq_of_beq_eq_true h1
        rw [h1] at hl
        rcases Nat.lt_or_ge i listed.size with h' | h'
        · simp [h'] at hi hl; rw [hi] at hl; cases hl
        · simp [Array.getElem?_eq_none h'] at hl
      · have := wf_false hc hi n e.on fun o' ho' => hc _ hl o' ho'
        rw [this] at h1; cases h1.2
    · rfl
theorem Closed.list {ops : Array Oper} {listed : Array Bool} {i : Nat} (hc : Closed ops listed) (hr : i ∈ Region.ready .any ops listed) : Closed ops (listed.setIfInBounds i true) := by
  intro j hj o ho e he hb
  by_cases hji : j = i
  · subst hji
    obtain ⟨_, o', ho', hall⟩ := mem_ready.1 hr
    rw [ho] at ho'; cases ho'
    exact getD_set_true (hall e he hb)
  · rw [getD_set_ne false (fun h => hji h.symm)] at hj
    exact getD_set_true (hc j hj o ho e he hb)
def pend (ops : Array Oper) (j : Nat) (A : Rd) : Rd := A.filter fun x => !waitsFor ops j x.1
/-- What was read before lies there still. -/
def keptA (w w' : World) : List Addr → Prop
  | [] => True
  | p :: r => w'.cell? p = w.cell? p ∧ keptA w w' r
def kept (w w' : World) : Rd → Prop
  | [] => True
  | x :: r => match x.2 with | [] => kept w w' r | _ => keptA w w' x.2 ∧ kept w w' r
theorem keptA_get {w w' : World} : ∀ {l : List Addr}, keptA w w' l → ∀ p ∈ l, w'.cell? p = w.cell? p
  | [], _, p, hp => by cases hp
  | q :: r, h, p, hp => by
    rcases List.mem_cons.1 hp with rfl | hp
    · exact h.1
    · exact keptA_get h.2 p hp
theorem kept_get {w w' : World} : ∀ {A : Rd}, kept w w' A → ∀ x ∈ A, ∀ p ∈ x.2, w'.cell? p = w.cell? p
  | [], _, x, hx, _, _ => by cases hx
  | y :: r, h, x, hx, p, hp => by
    unfold kept at h
    rcases List.mem_cons.1 hx with rfl | hx
    · split at h
      · rename_i he; rw [he] at hp; cases hp
      · exact keptA_get h.1 p hp
    · split at h
      · exact kept_get h x hx p hp
      · exact kept_get h.2 x hx p hp

def unlisted (listed : Array Bool) (i : Nat) : Array Bool := listed.setIfInBounds i true

/-- One operation in the frame, with its guard. -/
def vOne (C : Cx) (ops : Array Oper) (o : Oper) (fr : Fr) (w : World) (K : Fr → World → Prop) : Prop :=
  match o.guard with
  | none => vOp C fr o w (fun v w' => K (fr.put o.dst v) w') (fun _ _ => False)
  | some (j, want) => match gslot ops.toList j with
    | none => False
    | some t => match fr.get t with
      | some (.bool b) => match want with
        | true => ifB b (vOp C (fr.put (some t) (.bool true)) o w (fun v w' => K ((fr.put (some t) (.bool true)).put o.dst v) w') (fun _ _ => False))
            (K ((fr.put (some t) (.bool false)).put o.dst undef) w)
        | false => ifB b (K ((fr.put (some t) (.bool true)).put o.dst undef) w)
            (vOp C (fr.put (some t) (.bool false)) o w (fun v w' => K ((fr.put (some t) (.bool false)).put o.dst v) w') (fun _ _ => False))
      | some (.tuple _) => K (fr.put o.dst undef) w
      | _ => False

def takeable (ops : Array Oper) (listed : Array Bool) (fr : Fr) (i : Nat) : Bool :=
  match ops[i]? with | some o => quietD fr o && Region.free .any ops listed i | none => false

def vAll (C : Cx) (ops : Array Oper) (D : Array Bool → Rd → Fr → World → Prop) (listed : Array Bool) (A : Rd) (fr : Fr) (w : World) : List Nat → Prop
  | [] => True
  | i :: rs => match ops[i]? with
    | none => False
    | some o => match rs with
      | [] => vOne C ops o fr w fun fr' w' => match pend ops i A with
          | [] => D (unlisted listed i) [] fr' w'
          | x :: r => kept w w' (x :: r) ∧ D (unlisted listed i) (x :: r) fr' w'
      | _ :: _ => (vOne C ops o fr w fun fr' w' => match pend ops i A with
          | [] => D (unlisted listed i) [] fr' w'
          | x :: r => kept w w' (x :: r) ∧ D (unlisted listed i) (x :: r) fr' w') ∧ vAll C ops D listed A fr w rs
def vDraw (C : Cx) (ops : Array Oper) (K : KF) : Nat → Array Bool → Rd → Fr → World → Prop
  | 0, listed, A, fr, w => match Region.ready .any ops listed with | [] => K fr w | _ => False
  | f + 1, listed, A, fr, w => match Region.ready .any ops listed with
    | [] => K fr w
    | i :: rs => match (i :: rs).find? (takeable ops listed fr) with
      | some i => match ops[i]? with
        | some o => vOne C ops o fr w fun fr' w' => vDraw C ops K f (unlisted listed i) ((i, readsOf C fr o) :: A) fr' w'
        | none => False
      | none => vAll C ops (vDraw C ops K f) listed A fr w (i :: rs)

/-! ### soundness -/
section
variable {C : Cx} {ops : Array Oper} {Q : Act → World → Prop}

def opX (C : Cx) (ops : Array Oper) (i : Nat) (a : Act) (w : World) (K : Value → World → Prop) : Prop :=
  match ops[i]? with
  | none => False
  | some o => if Region.wanted o (yielded ops a.tmps) = true then (∀ c, o.op ≠ .defer c) ∧ Upon C.P K (fun _ _ => False) ((execOp a.eval o).run C.P w) else K undef w
theorem opX_mono {i : Nat} {a : Act} {w : World} {K K' : Value → World → Prop} (hk : ∀ v w, K v w → K' v w) (h : opX C ops i a w K) : opX C ops i a w K' := by
  unfold opX at *
  split
  · rename_i ho; rw [ho] at h; exact h
  · rename_i o ho
    rw [ho] at h
    simp only at h
    split
    · rename_i hw; rw [if_pos hw] at h; exact ⟨h.1, h.2.mono hk fun _ _ h => h⟩
    · rename_i hw; rw [if_neg hw] at h; exact hk _ _ h

def dstOf (ops : Array Oper) (i : Nat) : Option Tmp := (ops[i]?).bind (·.dst)
def wpX (C : Cx) (ops : Array Oper) (Q : Act → World → Prop) : Rd → Nat → Array Bool → Act → World → Prop
  | A, 0, listed, a, w => Region.ready .any ops listed = [] ∧ Q a w
  | A, f + 1, listed, a, w => (Region.ready .any ops listed = [] → Q a w) ∧ ∀ i ∈ Region.ready .any ops listed,
      opX C ops i a w fun v w' => (∀ x ∈ A, waitsFor ops i x.1 = false → ∀ p ∈ x.2, w'.cell? p = w.cell? p) ∧
        ∃ A' : Rd, (∀ x ∈ A, waitsFor ops i x.1 = false → x ∈ A') ∧ wpX C ops Q A' f (unlisted listed i) (a.put (dstOf ops i) v) w'

/-- the operation's value, wherever its cells lie as they do -/
def YieldX (C : Cx) (ops : Array Oper) (i : Nat) (a : Act) (w : World) (rd : List Addr) (v : Value) : Prop :=
  ∀ w'', (∀ p ∈ rd, w''.cell? p = w.cell? p) → ∀ K : Value → World → Prop, K v w'' → opX C ops i a w'' K

theorem opX_put {i j : Nat} {oi oj : Oper} {v : Value} {a : Act} {w : World} {K : Value → World → Prop} (hi : ops[i]? = some oi) (hj : ops[j]? = some oj) (hap : oi.apart ops oj = true)
    (hsj : ∀ cs b, oj.op ≠ .select cs b) : opX C ops j (a.put (dstOf ops i) v) w K ↔ opX C ops j a w K := by
  obtain ⟨h1, h2, h3⟩ := Oper.apart_spec hap
  have hd : dstOf ops i = oi.dst := by simp [dstOf, hi]
  unfold opX
  rw [hj, hd]
  simp only [wanted_put oj a oi.dst v h1, execOp_put oj hsj a oi.dst v h1]
theorem opX_put' {i j : Nat} {oi oj : Oper} {v : Value} {a : Act} {w : World} {K : Value → World → Prop} (hi : ops[i]? = some oi) (hj : ops[j]? = some oj) (hap : oi.apart ops oj = true)
    (hsi : ∀ cs b, oi.op ≠ .select cs b) : opX C ops i (a.put (dstOf ops j) v) w K ↔ opX C ops i a w K := by
  obtain ⟨h1, h2, h3⟩ := Oper.apart_spec hap
  have hd : dstOf ops j = oj.dst := by simp [dstOf, hj]
  unfold opX
  rw [hi, hd]
  simp only [wanted_put oi a oj.dst v h3, execOp_put oi hsi a oj.dst v h3]

theorem wpX_take {i : Nat} {oi : Oper} {rd : List Addr} {v : Value} (hi : ops[i]? = some oi) (hsel : ∀ (j : Nat) (o : Oper) cs b, ops[j]? = some o → o.op ≠ .select cs b) :
    ∀ (f : Nat) (A : Rd) (listed : Array Bool) (a : Act) (w : World), Closed ops listed → (i, rd) ∈ A →
      (∀ j oj, ops[j]? = some oj → j ≠ i → listed.getD j true = false → (∀ e ∈ oj.after, Region.binds .any e = true → e.on ≠ i) → oi.apart ops oj = true) →
      i ∈ Region.ready .any ops listed → YieldX C ops i a w rd v →
      wpX C ops Q A f (unlisted listed i) (a.put (dstOf ops i) v) w → wpX C ops Q A (f + 1) listed a w := by
  intro f
  induction f with
  | zero =>
    intro A listed a w hcl hA hfree hr hy H
    refine ⟨fun h => (by rw [h] at hr; cases hr), fun j hj => ?_⟩
    by_cases hji : j = i
    · subst hji
      exact hy w (fun _ _ => rfl) _ ⟨fun _ _ _ _ _ => rfl, A, fun x hx _ => hx, H⟩
    · have := ready_mono hj hji
      unfold wpX unlisted at H
      rw [H.1] at this
      cases this
  | succ f ih =>
    intro A listed a w hcl hA hfree hr hy H
    refine ⟨fun h => (by rw [h] at hr; cases hr), fun j hj => ?_⟩
    by_cases hji : j = i
    · subst hji
      exact hy w (fun _ _ => rfl) _ ⟨fun _ _ _ _ _ => rfl, A, fun x hx _ => hx, H⟩
    · have h1 := H.2 j (ready_mono hj hji)
      obtain ⟨hjun, oj, hoj, hall⟩ := mem_ready.1 hj
      have hnot : ∀ e ∈ oj.after, Region.binds .any e = true → e.on ≠ i := fun e he hb heq => by
        have h1 := hall e he hb
        have h0 := (mem_ready.1 hr).1
        rw [heq] at h1
        rcases Nat.lt_or_ge i listed.size with h' | h'
        · simp [h'] at h0 h1; rw [h0] at h1; cases h1
        · simp [Array.getElem?_eq_none h'] at h1
      have hnw : waitsFor ops j i = false := wf_false hcl (mem_ready.1 hr).1 _ _ fun o ho => by rw [hoj] at ho; cases ho; exact hall
      have hap := hfree j oj hoj hji hjun hnot
      rw [opX_put hi hoj hap (fun cs b => hsel j oj cs b hoj)] at h1
      refine opX_mono (fun u w' hk => ?_) h1
      obtain ⟨hkeep, A', hA', hX⟩ := hk
      refine ⟨hkeep, A', hA', ?_⟩
      have hiA' : (i, rd) ∈ A' := hA' _ hA hnw
      refine ih A' (unlisted listed j) (a.put (dstOf ops j) u) w' (hcl.list hj) hiA' ?_ (ready_mono hr (Ne.symm hji)) ?_ ?_
      · intro k ok hk hki hun hno
        refine hfree k ok hk hki ?_ hno
        by_cases hjk : j = k
        · subst hjk; exact hjun
        · unfold unlisted at hun; rw [getD_set_ne true hjk] at hun; exact hun
      · intro w'' hag K hK
        rw [opX_put' hi hoj hap (fun cs b => hsel i oi cs b hi)]
        exact hy w'' (fun p hp => (hag p hp).trans (hkeep _ hA hnw p hp)) K hK
      · have hcomm : ((a.put (dstOf ops i) v).put (dstOf ops j) u) = ((a.put (dstOf ops j) u).put (dstOf ops i) v) := by
          obtain ⟨_, h2, _⟩ := Oper.apart_spec hap
          exact Act.put_comm a v u fun d hd => by
            have e1 : dstOf ops i = oi.dst := by simp [dstOf, hi]
            have e2 : dstOf ops j = oj.dst := by simp [dstOf, hoj]
            rw [e2]; exact h2 d (e1 ▸ hd)
        rw [← hcomm]
        unfold unlisted at hX ⊢
        rw [Array.setIfInBounds_comm _ _ (Ne.symm hji)] at hX
        exact hX

theorem mem_pend {i : Nat} {A : Rd} {x : Nat × List Addr} : x ∈ pend ops i A ↔ x ∈ A ∧ waitsFor ops i x.1 = false := by
  unfold pend; rw [List.mem_filter]; simp

theorem put_same {fr : Fr} {t : Tmp} {v : Value} (h : fr.get t = some v) : fr.put (some t) v = fr := by
  unfold Fr.get at h
  split at h
  · rename_i u hu
    cases h
    simp only [Fr.put]
    apply List.ext_getElem?
    intro k
    rw [List.getElem?_set]
    by_cases hk : t = k
    · subst hk
      have : t < fr.length := by
        rcases Nat.lt_or_ge t fr.length with h | h
        · exact h
        · rw [List.getElem?_eq_none h] at hu; cases hu
      simp [this] at hu ⊢
      exact hu.symm
    · simp [hk]
  · cases h

/-- what 'vOne' says: it is carried out, or passed over -/
theorem vOne_cases {o : Oper} {fr : Fr} {a : Act} {w : World} {K : Fr → World → Prop} (ag : Agree fr a) (h : vOne C ops o fr w K) :
    (Region.wanted o (yielded ops a.tmps) = true ∧ vOp C fr o w (fun v w' => K (fr.put o.dst v) w') (fun _ _ => False)) ∨
    (Region.wanted o (yielded ops a.tmps) = false ∧ K (fr.put o.dst undef) w) := by
  unfold vOne at h
  split at h
  · rename_i hg
    exact .inl ⟨by simp [Region.wanted, hg], h⟩
  · rename_i j want hg
    split at h
    · exact h.elim
    · rename_i t ht
      split at h
      · rename_i b hb
        have hy := yielded_some ag ht hb
        rw [Array.toArray_toList] at hy
        split at h
        · rw [ifB_iff] at h
          cases hbb : b with
          | true =>
            subst hbb
            have := h.1 rfl
            rw [put_same hb] at this
            exact .inl ⟨by simp [Region.wanted, hg, hy], this⟩
          | false =>
            subst hbb
            have := h.2 rfl
            rw [put_same hb] at this
            exact .inr ⟨by simp [Region.wanted, hg, hy], this⟩
        · rw [ifB_iff] at h
          cases hbb : b with
          | true =>
            subst hbb
            have := h.1 rfl
            rw [put_same hb] at this
            exact .inr ⟨by simp [Region.wanted, hg, hy], this⟩
          | false =>
            subst hbb
            have := h.2 rfl
            rw [put_same hb] at this
            exact .inl ⟨by simp [Region.wanted, hg, hy], this⟩
      · rename_i vs hb
        have hy := yielded_some ag ht hb
        rw [Array.toArray_toList] at hy
        exact .inr ⟨by simp [Region.wanted, hg, hy], h⟩
      · exact h.elim

theorem same_put {a0 a : Act} {i : Nat} {o : Oper} (ho : ops[i]? = some o) (hs : Same (opsWrites ops.toList) a0 a) (v : Value) : Same (opsWrites ops.toList) a0 (a.put o.dst v) := by
  refine (hs.trans (Same.put a o.dst v)).mono fun t ht => ?_
  rw [List.mem_append] at ht
  rcases ht with ht | ht
  · exact ht
  · unfold opsWrites
    rw [List.mem_filterMap]
    refine ⟨o, Array.mem_toList_iff.2 (Array.mem_of_getElem? ho), ?_⟩
    cases hd : o.dst <;> simp_all

/-- The post of a region in whatever order. -/
def XPost (ops : Array Oper) (a0 : Act) (K : KF) : Act → World → Prop := fun a' w' => Same (opsWrites ops.toList) a0 a' ∧ ∃ fr', Agree fr' a' ∧ K fr' w'

theorem vDraw_sound (hC : C.ok) (hsel : Region.noSelect ops = true) {K : KF} {a0 : Act} : ∀ (f : Nat) (listed : Array Bool) (A : Rd) (fr : Fr) (a : Act) (w : World), Closed ops listed → Agree fr a → Same (opsWrites ops.toList) a0 a →
    vDraw C ops K f listed A fr w → ∃ A' : Rd, (∀ x ∈ A, x ∈ A') ∧ wpX C ops (XPost ops a0 K) A' f listed a w := by
  intro f
  induction f with
  | zero =>
    intro listed A fr a w hcl ag hs h
    unfold vDraw at h
    split at h
    · rename_i hr; exact ⟨A, fun _ h => h, hr, hs, fr, ag, h⟩
    · exact h.elim
  | succ f ih =>
    intro listed A fr a w hcl ag hs h
    unfold vDraw at h
    split at h
    · rename_i hr
      exact ⟨A, fun _ h => h, fun _ => ⟨hs, fr, ag, h⟩, fun i hi => by rw [hr] at hi; cases hi⟩
    · rename_i i0 rs hr
      split at h
      · rename_i i hf
        have hmem := List.mem_of_find?_eq_some hf
        have htk := List.find?_some hf
        split at h
        · rename_i o ho
          unfold takeable at htk
          rw [ho] at htk
          simp only [Bool.and_eq_true] at htk
          have hdst : dstOf ops i = o.dst := by simp [dstOf, ho]
          rw [← hr] at hmem
          have hfree := fun j oj => Region.free_spec ho htk.2 j oj
          have hselp := Region.noSelect_spec hsel
          rcases vOne_cases ag h with ⟨hw, hv⟩ | ⟨hw, hv⟩
          · obtain ⟨v, hk, hrun⟩ := vOp_quiet ag htk.1 hv
            obtain ⟨A', hA', hX⟩ := ih (unlisted listed i) ((i, readsOf C fr o) :: A) _ (a.put o.dst v) w (hcl.list hmem) (ag.put _ _) (same_put ho hs v) hk
            refine ⟨A', fun x hx => hA' x (List.mem_cons_of_mem _ hx), ?_⟩
            refine wpX_take ho hselp f A' listed a w hcl (hA' _ List.mem_cons_self) hfree hmem (v := v) ?_ (by rw [hdst]; exact hX)
            intro w'' hag K' hK'
            unfold opX
            rw [ho]
            simp only
            rw [if_pos hw, hrun w'' hag]
            exact ⟨vOp_noDefer hv, hK'⟩
          · obtain ⟨A', hA', hX⟩ := ih (unlisted listed i) ((i, readsOf C fr o) :: A) _ (a.put o.dst undef) w (hcl.list hmem) (ag.put _ _) (same_put ho hs undef) hv
            refine ⟨A', fun x hx => hA' x (List.mem_cons_of_mem _ hx), ?_⟩
            refine wpX_take ho hselp f A' listed a w hcl (hA' _ List.mem_cons_self) hfree hmem (v := undef) ?_ (by rw [hdst]; exact hX)
            intro w'' hag K' hK'
            unfold opX
            rw [ho]
            simp only
            rw [if_neg (by simp [hw])]
            exact hK'
        · exact h.elim
      · refine ⟨A, fun _ h => h, fun h0 => (by rw [h0] at hr; cases hr), ?_⟩
        rw [hr]
        have hsub : ∀ i ∈ i0 :: rs, i ∈ Region.ready .any ops listed := fun i hi => by rw [hr]; exact hi
        revert h hsub
        generalize (i0 :: rs) = l
        intro h hsub i hi
        have key : ∀ (i : Nat) (o : Oper), i ∈ Region.ready .any ops listed → ops[i]? = some o → (vOne C ops o fr w fun fr' w' => match pend ops i A with
            | [] => vDraw C ops K f (unlisted listed i) [] fr' w'
            | x :: r => kept w w' (x :: r) ∧ vDraw C ops K f (unlisted listed i) (x :: r) fr' w') →
            opX C ops i a w fun v w' => (∀ x ∈ A, waitsFor ops i x.1 = false → ∀ p ∈ x.2, w'.cell? p = w.cell? p) ∧
              ∃ A' : Rd, (∀ x ∈ A, waitsFor ops i x.1 = false → x ∈ A') ∧ wpX C ops (XPost ops a0 K) A' f (unlisted listed i) (a.put (dstOf ops i) v) w' := by
          intro i o hi0 ho hv
          have hdst : dstOf ops i = o.dst := by simp [dstOf, ho]
          have fin : ∀ (v : Value) (w' : World), (match pend ops i A with
              | [] => vDraw C ops K f (unlisted listed i) [] (fr.put o.dst v) w'
              | x :: r => kept w w' (x :: r) ∧ vDraw C ops K f (unlisted listed i) (x :: r) (fr.put o.dst v) w') →
              (∀ x ∈ A, waitsFor ops i x.1 = false → ∀ p ∈ x.2, w'.cell? p = w.cell? p) ∧
              ∃ A' : Rd, (∀ x ∈ A, waitsFor ops i x.1 = false → x ∈ A') ∧ wpX C ops (XPost ops a0 K) A' f (unlisted listed i) (a.put (dstOf ops i) v) w' := by
            intro v w' hm
            split at hm
            · rename_i hp
              have hno : ∀ x ∈ A, waitsFor ops i x.1 = false → False := fun x hx hw => by
                have : x ∈ pend ops i A := mem_pend.2 ⟨hx, hw⟩
                rw [hp] at this; cases this
              obtain ⟨A', hA', hX⟩ := ih _ [] _ (a.put o.dst v) w' (hcl.list hi0) (ag.put _ _) (same_put ho hs v) hm
              exact ⟨fun x hx hw => (hno x hx hw).elim, A', fun x hx hw => (hno x hx hw).elim, by rw [hdst]; exact hX⟩
            · rename_i x0 r hp
              obtain ⟨A', hA', hX⟩ := ih _ _ _ (a.put o.dst v) w' (hcl.list hi0) (ag.put _ _) (same_put ho hs v) hm.2
              refine ⟨fun x hx hw => kept_get hm.1 x ?_, A', fun x hx hw => hA' x ?_, by rw [hdst]; exact hX⟩
              · rw [← hp]; exact mem_pend.2 ⟨hx, hw⟩
              · rw [← hp]; exact mem_pend.2 ⟨hx, hw⟩
          unfold opX
          rw [ho]
          simp only
          rcases vOne_cases ag hv with ⟨hw, hv⟩ | ⟨hw, hv⟩
          · rw [if_pos hw]
            exact ⟨vOp_noDefer hv, (vOp_sound hC ag hv).mono (fun v w' hk => fin v w' hk) fun _ _ h => h⟩
          · rw [if_neg (by simp [hw])]
            have hf := fin undef w hv
            exact ⟨fun _ _ _ _ _ => trivial, hf.2⟩
        induction l with
        | nil => cases hi
        | cons j rs ihl =>
          unfold vAll at h
          split at h
          · exact h.elim
          · rename_i o ho
            split at h
            · rcases List.mem_cons.1 hi with rfl | hi
              · exact key _ o (hsub _ List.mem_cons_self) ho h
              · cases hi
            · rcases List.mem_cons.1 hi with rfl | hi
              · exact key _ o (hsub _ List.mem_cons_self) ho h.1
              · exact ihl h.2 (fun i hi => hsub i (List.mem_cons_of_mem _ hi)) hi

theorem wpX_any {ro : Option Nat} {n : Nat} {Q' : Exit → Act → World → Prop} (hq : ∀ a w, Q a w → Q' .normal a w) : ∀ (f : Nat) (A : Rd) (listed : Array Bool) (a : Act) (w : World),
    wpX C ops Q A f listed a w → wpAnyIn (FW ro) n C.P .any ops Q' f listed a w
  | 0, A, listed, a, w, h => ⟨h.1, hq _ _ h.2⟩
  | f + 1, A, listed, a, w, h => ⟨fun h0 => hq _ _ (h.1 h0), fun i hi => by
      have h1 := h.2 i hi
      unfold opX at h1
      unfold wpOpIn
      split at h1
      · exact h1.elim
      · rename_i o ho
        have hdst : dstOf ops i = o.dst := by simp [dstOf, ho]
        rw [ho]
        simp only
        split at h1
        · rename_i hw
          rw [if_pos hw]
          refine ⟨fun _ _ => trivial, ?_⟩
          rw [Oper.semAt_eq _ _ _ h1.1]
          refine upon_in h1.1 (h1.2.mono (fun v w' hk => ?_) (fun _ _ h => h.elim)) ?_
          · obtain ⟨_, A', _, hX⟩ := hk
            rw [hdst] at hX
            exact wpX_any hq f A' _ _ _ hX
          · intro d w' e
            have := h1.2
            rw [e] at this
            exact this
        · rename_i hw
          rw [if_neg hw]
          obtain ⟨_, A', _, hX⟩ := h1
          rw [hdst] at hX
          exact ⟨fun _ _ => trivial, wpX_any hq f A' _ _ _ hX⟩⟩

theorem draw_sound {ro : Option Nat} {n : Nat} (hC : C.ok) (hm : C.P.follows .mixedOrders = true) (hsel : Region.noSelect ops = true) {K : KF} {id : Nat} {fr : Fr} {a : Act} {w : World} {Q' : Exit → Act → World → Prop}
    (hq : ∀ a' w', XPost ops a K a' w' → Q' .normal a' w') (ag : Agree fr a) (h : vDraw C ops K ops.size (Array.replicate ops.size false) [] fr w.drew) : (Code.region id ops true).wpIn (FW ro) n C.P Q' a w := by
  obtain ⟨A', _, hX⟩ := vDraw_sound (a0 := a) hC hsel ops.size _ [] fr a w.drew (fun j hj => by rcases Nat.lt_or_ge j ops.size with h' | h' <;> simp [h'] at hj) ag (.refl _ _) h
  exact wpIn_region_any hm (wpX_any hq _ A' _ _ _ hX)
end
end Go.Lf
end
