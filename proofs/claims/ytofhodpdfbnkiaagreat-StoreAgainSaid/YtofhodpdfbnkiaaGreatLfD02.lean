/- Part 2 of the lemmas that a proof leans on; no claim is made here. By an AI agent. -/
import Derived.Test.YtofhodpdfbnkiaaGreatLfD01
import Derived.Laws.StructEq
section
set_option linter.unusedVariables false
set_option linter.unusedSimpArgs false
namespace Go.Lf
open Go

def Upon (P : Program) (K : Value → World → Prop) (E : List PanicEntry → World → Prop) : Result Next → Prop
  | .ok (.value v) w => K v w
  | .ok .skip w => K undef w
  | .ok (.enter f args) w => Calls P f args w fun | .returned v, w => K v w | .panicked ch, w => E ch w | .outgrown, _ => False
  | .ok (.round l f tmps assign body) w => RoundIn Fence.wide 0 P l f tmps assign body w fun | .returned v, w => K v w | .panicked ch, w => E ch w | .outgrown, _ => False
  | .halt (.panic v) w => E [{ v, recovered := false }] w
  | _ => False

section
variable {C : Cx} {fr : Fr} {a : Act} {w : World} {K : Value → World → Prop} {E : List PanicEntry → World → Prop}

theorem upon_of_run {P : Program} {s : Sem Value} {v : Value} {w' : World} (h : s.run P w = .ok v w') (hk : K v w') :
    Upon P K E ((do pure (Next.value (← s)) : Sem Next).run P w) := by
  simp only [Sem.run_bind, h, Result.andThen_ok]; exact hk
theorem upon_of_unit {P : Program} {s : Sem Unit} {w' : World} (h : s.run P w = .ok () w') (hk : K undef w') :
    Upon P K E ((do s; pure Next.skip : Sem Next).run P w) := by
  simp only [Sem.run_bind, h, Result.andThen_ok]; exact hk
theorem upon_pure {P : Program} {s : Sem Value} (h : vPure P s w K) : Upon P K E ((do pure (Next.value (← s)) : Sem Next).run P w) := by
  unfold vPure at h
  split at h
  · rename_i v hv; exact upon_of_run (semVal_run w hv) h
  · exact h.elim
theorem upon_vRun {P : Program} {s : Sem Value} {sh : Sh} (h : vRun P s sh w K) : Upon P K E ((do pure (Next.value (← s)) : Sem Next).run P w) := by
  obtain ⟨v, w', hr, hk⟩ := Sh.ex_out h
  exact upon_of_run hr hk

theorem isAgg_run {P : Program} {t : TypeId} {ks : List Kd} (h : aggKinds P t = some ks) : (isAgg t).run P w = .ok true w := by
  unfold aggKinds at h
  split at h
  · rename_i fs hu; simp [isAgg, underlying, Sem.run_bind, program, Sem.run, hu]
  · rename_i n e hu; simp [isAgg, underlying, Sem.run_bind, program, Sem.run, hu]
  · cases h
theorem isAgg_run_no {P : Program} {t : TypeId} {d : TypeDesc} (hd : P.underlying t = some d) (h : aggKinds P t = none) : (isAgg t).run P w = .ok false w := by
  unfold aggKinds at h
  rw [hd] at h
  cases d <;> first
    | (simp at h; split at h <;> (try split at h) <;> cases h)
    | (simp [isAgg, underlying, Sem.run_bind, program, Sem.run, hd])
theorem sizeOf_run {P : Program} {t : TypeId} {i : TypeInfo} (h : P.info? t = some i) : (sizeOf t).run P w = .ok i.size w := by
  simp [sizeOf, typeInfo, Sem.run_bind, program, Sem.run, h]
theorem cellsOf_some {P : Program} {t : TypeId} {i : TypeInfo} (h : P.info? t = some i) : P.cellsOf t = i.size := by
  simp [Program.cellsOf, h]
theorem info_of_underlying {P : Program} {t : TypeId} {d : TypeDesc} (h : P.underlying t = some d) : ∃ i, P.info? t = some i := by
  unfold Program.underlying at h
  split at h
  · rename_i h1; exact ⟨_, h1⟩
  · rename_i i h2 h1; exact ⟨_, by assumption⟩
  · cases h

theorem vLoad_run {P : Program} {t : TypeId} {p : Addr} {K : Value → Prop} (h : vLoad P t p w K) : ∃ v, (loadVar t p).run P w = .ok v w ∧ K v := by
  unfold vLoad at h
  split at h
  · rename_i ks hks
    rw [need_iff] at h
    obtain ⟨hl, h⟩ := h
    obtain ⟨vs, hvs, hc, hk⟩ := exK_out h
    refine ⟨_, ?_, hk⟩
    have hu : ∃ d, P.underlying t = some d := by
      unfold aggKinds at hks
      split at hks
      · rename_i hu; exact ⟨_, hu⟩
      · rename_i hu; exact ⟨_, hu⟩
      · cases hks
    obtain ⟨d, hd⟩ := hu
    obtain ⟨i, hi⟩ := info_of_underlying hd
    have hsz : i.size = vs.length := by
      rw [cellsOf_some hi] at hl
      have := beq_iff_eq.1 hl
      omega
    have hcells : (loadCells p vs.length).run P w = .ok vs.toArray w :=
      run_loadCells_list w p vs (fun j v hj => by simpa using cellsAt_get hc j v hj)
    simp only [loadVar, Sem.run_bind, isAgg_run hks, Result.andThen_ok, if_true, sizeOf_run hi, hsz, hcells]
    rfl
  · rename_i hks
    split at h
    · exact h.elim
    · rename_i d hd
      rw [need_iff] at h
      obtain ⟨v, hc, hk⟩ := Kd.ex_out h.2
      refine ⟨v, ?_, hk⟩
      simp only [loadVar, Sem.run_bind, isAgg_run_no hd hks, Result.andThen_ok]
      simp [load, Sem.run, hc]

theorem vStoreCells_run {P : Program} {p : Addr} {K : World → Prop} : ∀ {vs : List Value} {i : Nat} {w : World}, vStoreCells p i vs w K → ∃ w', (storeCells p vs i).run P w = .ok () w' ∧ K w'
  | [], i, w, h => ⟨w, rfl, h⟩
  | v :: vs, i, w, h => by
    unfold vStoreCells at h
    rw [vOne1_iff] at h
    obtain ⟨h1, ⟨⟨u, hc⟩, hf⟩, h⟩ := h
    obtain ⟨w', hr, hk⟩ := vStoreCells_run (P := P) h
    refine ⟨w', ?_, hk⟩
    have hs : (store (p.add i) v).run P w = .ok () (w.setCell (p.add i) v) := by
      unfold one at h1
      cases v <;> simp at h1 <;> simp [store, Sem.run, hc, hf]
    simp only [storeCells, Sem.run_bind, hs, Result.andThen_ok, hr]
theorem vStore_run {P : Program} {t : TypeId} {p : Addr} {v : Value} {K : World → Prop} (h : vStore P t p v w K) : ∃ w', (storeVar t p v).run P w = .ok () w' ∧ K w' := by
  unfold vStore at h
  rw [need_iff] at h
  obtain ⟨hl, h⟩ := h
  split at h
  · rename_i i hi
    obtain ⟨w', hr, hk⟩ := vStoreCells_run (P := P) h
    refine ⟨w', ?_, hk⟩
    have hl' : v.cells.size = i.size := by
      have := beq_iff_eq.1 hl
      rw [cellsOf_some hi] at this
      simpa using this
    simp [storeVar, Sem.run_bind, sizeOf_run hi, hl', hr]
  · exact h.elim

theorem underlying_run {P : Program} {t : TypeId} {d : TypeDesc} (h : P.underlying t = some d) : (underlying t).run P w = .ok d w := by
  simp [underlying, Sem.run_bind, program, Sem.run, h]

theorem evO_some {x : Option Operand} {l : Option Value} (ag : Agree fr a) (h : evO fr x = some l) : x.map a.eval = l := by
  unfold evO at h
  split at h
  · cases h; rfl
  · split at h
    · rename_i v hv; cases h; simp [ag.ev hv]
    · cases h

theorem evs_arr {xs : Array Operand} {vs : List Value} (ag : Agree fr a) (h : evs fr xs.toList = some vs) : xs.map a.eval = vs.toArray := by
  rw [← ag.evs h]
  apply Array.ext'
  simp

theorem calls_pos {P : Program} {f : FuncId} {args : Array Value} {s : Sh} (h : Calls P f args w (CallPost s K E)) :
    Calls P f args w fun | .returned v, w => K v w | .panicked ch, w => E ch w | .outgrown, _ => False :=
  h.mono fun e w' hp => by
    cases e with
    | returned v =>
      unfold CallPost CP at hp
      obtain ⟨v', rfl, hk⟩ := Sh.ex_out hp
      exact hk
    | panicked ch => exact hp
    | outgrown => exact hp

theorem has_mem {g : Nat} (h : C.has g = true) : g ∈ C.fns := by
  unfold Cx.has at h
  rw [List.any_eq_true] at h
  obtain ⟨x, hx, he⟩ := h
  have := Nat.eq_of_beq_eq_true he
  exact this ▸ hx

theorem vCall_run (hC : C.ok) {fv : Value} {args : List Value} {s : Sh} {d : Deferred} (h : vCall C fv args w (CallPost s K E)) :
    Upon C.P K E ((do let d ← Deferred.ofValue fv args.toArray; invoke d.target d.args : Sem Next).run C.P w) := by
  unfold vCall at h
  split at h
  · rename_i g first cap
    rw [need_iff] at h
    obtain ⟨hg, h⟩ := h
    obtain ⟨fn, hf, hb, hn⟩ := hC g (has_mem hg)
    have hb' : fn.body.isNone = false := by cases hx : fn.body <;> simp_all
    simp only [Deferred.ofValue, Sem.run_bind, Sem.run_pure, Result.andThen_ok, invoke, callFunc, program, Sem.run, hf, hn, hb']
    exact calls_pos h
  · rename_i l first cap
    obtain ⟨r, hr, hsz, h⟩ := h
    have hne : ¬ ((first ++ args.toArray).size ≠ r.params.size) := fun hh => hh hsz
    simp only [Deferred.ofValue, Sem.run_bind, Sem.run_pure, Result.andThen_ok, invoke, Instr.yield, Instr.getLoop, getObj, Sem.run, hr, hne, if_false]
    refine RoundIn.mono (R := CallPost s K E) h fun e w' hp => ?_
    cases e with
    | returned v =>
      unfold CallPost CP at hp
      obtain ⟨v', rfl, hk⟩ := Sh.ex_out hp
      exact hk
    | panicked ch => exact hp
    | outgrown => exact hp
  · exact h.elim
end
end Go.Lf

namespace Go.Lf
open Go
section
variable {C : Cx} {fr : Fr} {a : Act} {w : World} {K : Value → World → Prop} {E : List PanicEntry → World → Prop}
theorem zip_fst_snd {α β : Type} (l : List (α × β)) : (l.map (·.1)).zip (l.map (·.2)) = l := by
  induction l with
  | nil => rfl
  | cons x r ih => simp [ih]
theorem parts_eq {ps : Array (Nat × Operand)} {vs : List Value} (ag : Agree fr a) (h : evs fr (ps.toList.map (·.2)) = some vs) :
    ps.map (fun (i, x) => (i, a.eval x)) = ((ps.toList.map (·.1)).zip vs).toArray := by
  have := ag.evs h
  rw [← this]
  apply Array.ext'
  simp only [Array.toList_map, List.toList_toArray]
  generalize ps.toList = l
  induction l with
  | nil => rfl
  | cons x r ih => simp [ih]

theorem sliceBound_run {P : Program} {v : Option Value} {d y : Nat} {l : Int} {code : BoundsCode} (hb : bnd P v d = some l) (h0 : 0 ≤ l) (h1 : l ≤ (y : Int)) (hd : v = none → l.toNat = d) :
    (match v with | some v => Instr.sliceBound v y code | none => (pure d : Sem Nat)).run P w = .ok l.toNat w := by
  unfold bnd at hb
  split at hb
  · rename_i k i
    cases hb
    simp only [Instr.sliceBound, asIntOf, Sem.run_bind, Sem.run_pure, Result.andThen_ok]
    rw [if_pos ⟨h0, h1⟩]; rfl
  · cases hb; simp [Sem.run_pure]
  · cases hb

theorem info_size {P : Program} {t : TypeId} {i : TypeInfo} (h : P.info? t = some i) : (sizeOf t).run P w = .ok i.size w := sizeOf_run h
theorem aggKinds_int {P : Program} {t : TypeId} {k : IntKind} (h : P.underlying t = some (.int k)) : aggKinds P t = none := by unfold aggKinds; rw [h]
theorem aggKinds_str {P : Program} {t : TypeId} (h : P.underlying t = some .string) : aggKinds P t = none := by unfold aggKinds; rw [h]
theorem aggKinds_bool {P : Program} {t : TypeId} (h : P.underlying t = some .bool) : aggKinds P t = none := by unfold aggKinds; rw [h]
theorem part_run {P : Program} {t : TypeId} {d : TypeDesc} {cs : Array Value} {off : Nat} {v : Value} (hd : P.underlying t = some d) (ha : aggKinds P t = none) (hv : cs[off]? = some v) :
    (part t cs off).run P w = .ok v w := by
  simp only [part, Sem.run_bind, isAgg_run_no hd ha, Result.andThen_ok]
  simp [hv, Sem.run_pure]
theorem fieldsEq_run {P : Program} {d : Nat} {xs ys : Array Value} : ∀ {fs : List Field} {b : Bool}, fieldsEq P xs ys fs = some b → (Op.eqFields (d + 1) xs ys fs).run P w = .ok b w
  | [], b, h => by cases h; rfl
  | f :: fs, b, h => by
    unfold fieldsEq at h
    split at h
    · rename_i k j x k' y hn hu hx hy
      split at h
      · rename_i b' hj hb
        cases h
        have hk : j = k' := beq_iff_eq.1 hj
        subst hk
        have hnn : f.name ≠ "_" := by simpa using hn
        have ih := fieldsEq_run (d := d) hb
        simp only [Op.eqFields]
        rw [if_pos hnn]
        simp only [Sem.run_bind, part_run hu (aggKinds_int hu) hx, part_run hu (aggKinds_int hu) hy, Result.andThen_ok, run_equalIn_int w d f.type j k x y hu, Sem.run_ite, Sem.run_pure, ih]
        by_cases hxy : (x == y) = true <;> simp [hxy]
      · cases h
    · rename_i x y hn hu hx hy
      split at h
      · rename_i b' hb
        cases h
        have hnn : f.name ≠ "_" := by simpa using hn
        have ih := fieldsEq_run (d := d) hb
        simp only [Op.eqFields]
        rw [if_pos hnn]
        simp only [Sem.run_bind, part_run hu (aggKinds_str hu) hx, part_run hu (aggKinds_str hu) hy, Result.andThen_ok, run_equalIn_string w d f.type x y hu, Sem.run_ite, Sem.run_pure, ih]
        by_cases hxy : (x.toList == y.toList) = true <;> simp [hxy]
      · cases h
    · rename_i x y hn hu hx hy
      split at h
      · rename_i b' hb
        cases h
        have hnn : f.name ≠ "_" := by simpa using hn
        have ih := fieldsEq_run (d := d) hb
        simp only [Op.eqFields]
        rw [if_pos hnn]
        simp only [Sem.run_bind, part_run hu (aggKinds_bool hu) hx, part_run hu (aggKinds_bool hu) hy, Result.andThen_ok, run_equalIn_bool' w d f.type x y hu, Sem.run_ite, Sem.run_pure, ih]
        by_cases hxy : (x == y) = true <;> simp [hxy]
      · cases h
    · cases h
theorem ptrNil_run {P : Program} {t e : TypeId} (hu : P.underlying t = some (.pointer e)) (d : Nat) (a : Option Addr) : (Op.equalIn (d + 1) t (.pointer a) (.pointer none)).run P w = .ok a.isNone w := by
  cases a <;> simp [Op.equalIn, underlying_run hu, Sem.run_bind, Sem.run_pure]
theorem slNil_run {P : Program} {t e : TypeId} (hu : P.underlying t = some (.slice e)) (d : Nat) (a : Option Addr) (n c n' c' : Nat) : (Op.equalIn (d + 1) t (.slice a n c) (.slice none n' c')).run P w = .ok a.isNone w := by
  cases a <;> simp [Op.equalIn, underlying_run hu, Sem.run_bind, Sem.run_pure]
theorem mapNil_run {P : Program} {t e k : TypeId} (hu : P.underlying t = some (.map k e)) (d : Nat) (a : Option Nat) : (Op.equalIn (d + 1) t (.map a) (.map none)).run P w = .ok a.isNone w := by
  cases a <;> simp [Op.equalIn, underlying_run hu, Sem.run_bind, Sem.run_pure]
theorem eql_run {P : Program} {t : TypeId} {op : BinOp} {x y : Operand} {u v : Value} {r : Bool} (hop : op = .eql ∨ op = .neq) (hg : (eqGuard op t x y u v).run P w = .ok () w) (he : (Op.equalIn 10000 t u v).run P w = .ok r w)
    (hb : ∀ op, (op = .eql → binOp op t u v = (do pure (.bool (← Op.equal t u v)))) ∧ (op = .neq → binOp op t u v = (do pure (.bool (!(← Op.equal t u v)))))) :
    (do eqGuard op t x y u v; binOp op t u v : Sem Value).run P w = .ok (.bool (match op with | .neq => !r | _ => r)) w := by
  rcases hop with rfl | rfl
  · rw [(hb .eql).1 rfl]
    simp only [Sem.run_bind, hg, Result.andThen_ok, Op.equal, Op.maxDepth, he, Sem.run_pure]
  · rw [(hb .neq).2 rfl]
    simp only [Sem.run_bind, hg, Result.andThen_ok, Op.equal, Op.maxDepth, he, Sem.run_pure]
theorem guard_ptr {P : Program} {t : TypeId} {op : BinOp} {x y : Operand} {a b : Option Addr} : (eqGuard op t x y (.pointer a) (.pointer b)).run P w = .ok () w := by
  cases op <;> simp [eqGuard, Sem.run_pure]
theorem guard_sl {P : Program} {t : TypeId} {op : BinOp} {x y : Operand} {a b : Option Addr} {n c n' c' : Nat} : (eqGuard op t x y (.slice a n c) (.slice b n' c')).run P w = .ok () w := by
  cases op <;> simp [eqGuard, Sem.run_pure]
theorem guard_map {P : Program} {t : TypeId} {op : BinOp} {x y : Operand} {a b : Option Nat} : (eqGuard op t x y (.map a) (.map b)).run P w = .ok () w := by
  cases op <;> simp [eqGuard, Sem.run_pure]
theorem bin_ptr {t : TypeId} {a : Option Addr} : ∀ op, (op = .eql → binOp op t (.pointer a) (.pointer none) = (do pure (.bool (← Op.equal t (.pointer a) (.pointer none))))) ∧ (op = .neq → binOp op t (.pointer a) (.pointer none) = (do pure (.bool (!(← Op.equal t (.pointer a) (.pointer none)))))) :=
  fun op => ⟨fun h => by subst h; rfl, fun h => by subst h; rfl⟩
theorem bin_sl {t : TypeId} {a : Option Addr} {n c n' c' : Nat} : ∀ op, (op = .eql → binOp op t (.slice a n c) (.slice none n' c') = (do pure (.bool (← Op.equal t (.slice a n c) (.slice none n' c'))))) ∧ (op = .neq → binOp op t (.slice a n c) (.slice none n' c') = (do pure (.bool (!(← Op.equal t (.slice a n c) (.slice none n' c')))))) :=
  fun op => ⟨fun h => by subst h; rfl, fun h => by subst h; rfl⟩
theorem bin_map {t : TypeId} {a : Option Nat} : ∀ op, (op = .eql → binOp op t (.map a) (.map none) = (do pure (.bool (← Op.equal t (.map a) (.map none))))) ∧ (op = .neq → binOp op t (.map a) (.map none) = (do pure (.bool (!(← Op.equal t (.map a) (.map none)))))) :=
  fun op => ⟨fun h => by subst h; rfl, fun h => by subst h; rfl⟩
theorem bin_agg {t : TypeId} {xs ys : Array Value} : ∀ op, (op = .eql → binOp op t (.agg xs) (.agg ys) = (do pure (.bool (← Op.equal t (.agg xs) (.agg ys))))) ∧ (op = .neq → binOp op t (.agg xs) (.agg ys) = (do pure (.bool (!(← Op.equal t (.agg xs) (.agg ys)))))) :=
  fun op => ⟨fun h => by subst h; rfl, fun h => by subst h; rfl⟩
theorem intsLoop_run {P : Program} {e : TypeId} {k : IntKind} {xs ys : Array Value} (d : Nat) (he : P.underlying e = some (.int k)) : ∀ (m o : Nat) (us vs : List Value) (b : Bool), us = xs.toList.drop o → vs = ys.toList.drop o → us.length = m → vs.length = m →
    intsEq us vs = some b → ∀ w : World, Sem.run P (forIn (List.range' o m) ((none, ()) : Option Bool × Unit) fun i __s => do
            let __do_lift ← part e xs i
            let __do_lift_1 ← part e ys i
            let __do_lift ← Op.equalIn (d + 1) e __do_lift __do_lift_1
            if (!__do_lift) = true then pure (ForInStep.done (some false, ())) else pure (ForInStep.yield (none, ()))) w = .ok (if b then none else some false, ()) w
  | 0, o, us, vs, b, hu, hv, hl, hl', h, w => by
    have h1 : us = [] := List.eq_nil_of_length_eq_zero hl
    have h2 : vs = [] := List.eq_nil_of_length_eq_zero hl'
    rw [h1, h2] at h
    cases h
    rfl
  | m + 1, o, us, vs, b, hu, hv, hl, hl', h, w => by
    match us, vs, hl, hl' with
    | u :: us, v :: vs, hl, hl' =>
      have hxo : xs[o]? = some u := by
        have : xs.toList[o]? = some u := by
          have := congrArg (·[0]?) hu
          simp at this
          simpa using this.symm
        simpa using this
      have hyo : ys[o]? = some v := by
        have : ys.toList[o]? = some v := by
          have := congrArg (·[0]?) hv
          simp at this
          simpa using this.symm
        simpa using this
      unfold intsEq at h
      split at h
      · rename_i h1 h2; simp at h1
      · rename_i j x xs' k' y ys' h1 h2
        simp only [List.cons.injEq] at h1 h2
        obtain ⟨rfl, rfl⟩ := h1
        obtain ⟨rfl, rfl⟩ := h2
        split at h
        · rename_i b' hj hb
          cases h
          have hk := beq_iff_eq.1 hj
          subst hk
          have ih := intsLoop_run (xs := xs) (ys := ys) d he m (o + 1) us vs b' (by rw [← List.drop_drop, ← hu]; rfl) (by rw [← List.drop_drop, ← hv]; rfl) (by simpa using hl) (by simpa using hl') hb w
          rw [List.range'_succ]
          simp only [List.forIn_cons, Sem.run_bind, part_run he (aggKinds_int he) hxo, part_run he (aggKinds_int he) hyo, Result.andThen_ok, run_equalIn_int w d e j k x y he, Sem.run_ite, Sem.run_pure]
          by_cases hxy : (x == y) = true
          · simp only [hxy, Bool.not_true, Bool.false_eq_true, if_false, Result.andThen_ok, Bool.true_and]
            exact ih
          · simp only [Bool.not_eq_true] at hxy
            simp [hxy, Sem.run_pure]
        · cases h
      · cases h
theorem intsArr_run {P : Program} {t e : TypeId} {n : Nat} {k : IntKind} {ie : TypeInfo} {xs ys : Array Value} {b : Bool} (d : Nat) (hu : P.underlying t = some (.array n e)) (he : P.underlying e = some (.int k)) (hi : P.info? e = some ie) (hs : ie.size = 1)
    (hx : xs.size = n) (hy : ys.size = n) (h : intsEq xs.toList ys.toList = some b) : (Op.equalIn (d + 1 + 1) t (.agg xs) (.agg ys)).run P w = .ok b w := by
  rw [Op.equalIn]
  simp only [Sem.run_bind, underlying_run hu, Result.andThen_ok, sizeOf_run hi, hs, Nat.mul_one]
  rw [Std.Legacy.Range.forIn_eq_forIn_range']
  have hsz : (Std.Legacy.Range.size [:n]) = n := by simp [Std.Legacy.Range.size]
  rw [hsz]
  have := intsLoop_run (xs := xs) (ys := ys) d he n 0 _ _ b rfl rfl (by simpa using hx) (by simpa using hy) h w
  rw [this]
  cases b <;> rfl
theorem aggEq_run {P : Program} {t : TypeId} {xs ys : Array Value} {r : Bool} {op : BinOp} {x y : Operand} (h : aggEq P t xs ys = some r) :
    (eqGuard op t x y (.agg xs) (.agg ys)).run P w = .ok () w ∧ (Op.equalIn 10000 t (.agg xs) (.agg ys)).run P w = .ok r w := by
  unfold aggEq at h
  split at h
  · rename_i fs hu
    split at h
    · rename_i hg
      simp only [Bool.or_eq_false_iff] at hg
      refine ⟨run_eqGuard_agg w op t x y xs ys hg.2, ?_⟩
      have hfs : P.fieldsOf t = fs := by unfold Program.fieldsOf; rw [hu]
      rw [run_equalIn_struct w 9999 t xs ys (by rw [hfs]; exact hu) hg.1, hfs]
      exact fieldsEq_run h
    · cases h
  · rename_i n e hu
    split at h
    · rename_i k i he hi
      split at h
      · rename_i hc
        simp only [Bool.and_eq_true, beq_iff_eq, Bool.not_eq_true'] at hc
        exact ⟨run_eqGuard_agg w op t x y xs ys hc.2, intsArr_run 9998 hu he hi hc.1.1.1 hc.1.1.2 hc.1.2 h⟩
      · cases h
    · cases h
  · cases h

theorem vOp_sound (hC : C.ok) {o : Oper} (ag : Agree fr a) (h : vOp C fr o w K E) : Upon C.P K E ((execOp a.eval o).run C.P w) := by
  unfold vOp at h
  unfold execOp
  split at h
  case h_1 x hx => 
    split at h
    · rename_i v hv; rw [hx, ]; simp only [ag.ev hv, Sem.run_pure]; exact h
    · exact h.elim
  case h_2 x hx =>
    split at h
    · rename_i v hv; rw [hx, ]; simp only [ag.ev hv, Sem.run_pure]; exact h
    · exact h.elim
  case h_3 t x hx =>
    split at h
    · rename_i p hv
      obtain ⟨v, hr, hk⟩ := vLoad_run h
      rw [hx]; refine upon_of_run (v := v) (w' := w) ?_ hk
      simp only [ag.ev hv, Instr.loadAt, Instr.sureAddr, Sem.run_bind, Sem.run_pure, Result.andThen_ok, hr]
    · exact h.elim
  case h_4 t x y hx =>
    split at h
    · rename_i p v hv hy
      obtain ⟨w', hr, hk⟩ := vStore_run h
      rw [hx]; refine upon_of_unit (w' := w') ?_ hk
      simp only [ag.ev hv, ag.ev hy, Instr.storeAt, Instr.sureAddr, Sem.run_bind, Sem.run_pure, Result.andThen_ok, hr]
    · exact h.elim
  case h_5 t hx =>
    split at h
    · rename_i i hi
      split at h
      · rename_i z hz
        rw [hx]; refine upon_of_run ?_ h
        simp only [Instr.alloc, zeroValue, typeInfo, program, Sem.run_bind, Sem.run, hi, hz, Result.andThen_ok, Sem.run_pure, newVar, newRow, run_newObj_alloc]
      · exact h.elim
    · exact h.elim
  case h_6 t x hx =>
    split at h
    · rename_i v hv
      rw [hx]; refine upon_of_run ?_ h
      simp only [ag.ev hv, Instr.box, Sem.run_bind, Sem.run_pure, newVar, newRow, run_newObj_alloc, Result.andThen_ok]
    · exact h.elim
  case h_7 x hx =>
    split at h
    · rename_i p hv
      rw [nn_iff] at h
      obtain ⟨q, rfl, h⟩ := h
      rw [hx]; simp only [ag.ev hv, Sem.run_pure]; exact h
    · rename_i g x y hv
      rw [hx]; simp only [ag.ev hv, Sem.run_pure]; exact h
    · rename_i g x y hv
      rw [hx]; simp only [ag.ev hv, Sem.run_pure]; exact h
    · exact h.elim
  case h_8 t x i hx =>
    split at h
    · rename_i p n c k j hv hi
      split at h
      · rename_i e he
        split at h
        · rename_i ie hie
          rw [need_iff, nn_iff] at h
          obtain ⟨hb, q, rfl, h⟩ := h
          simp only [Bool.and_eq_true, decide_eq_true_eq] at hb
          rw [hx]; refine upon_of_run ?_ h
          simp only [ag.ev hv, ag.ev hi, Instr.indexAt, asIntOf, Sem.run_bind, Sem.run_pure, Result.andThen_ok, underlying_run he]
          rw [if_pos hb]
          simp only [Sem.run_bind, sizeOf_run hie, Result.andThen_ok, Sem.run_pure]
        · exact h.elim
      · exact h.elim
    · rename_i p k j hv hi
      split at h
      · rename_i n e he
        split at h
        · rename_i ie hie
          rw [need_iff] at h
          obtain ⟨hb, h⟩ := h
          simp only [Bool.and_eq_true, decide_eq_true_eq] at hb
          rw [hx]; refine upon_of_run ?_ h
          simp only [ag.ev hv, ag.ev hi, Instr.indexAt, asIntOf, Sem.run_bind, Sem.run_pure, Result.andThen_ok, underlying_run he, Instr.sureAddr]
          rw [if_pos hb]
          simp only [Sem.run_bind, sizeOf_run hie, Result.andThen_ok, Sem.run_pure]
        · exact h.elim
      · exact h.elim
    · exact h.elim
  case h_9 t x i hx =>
    split at h
    · rename_i s k j hv hi
      split at h
      · rename_i he
        rw [need_iff] at h
        obtain ⟨hb, h⟩ := h
        simp only [Bool.and_eq_true, decide_eq_true_eq] at hb
        rw [hx]; refine upon_of_run ?_ h
        have hj : j.toNat < s.size := by omega
        simp only [ag.ev hv, ag.ev hi, Instr.index, asIntOf, Sem.run_bind, Sem.run_pure, Result.andThen_ok, underlying_run he, hb.1, if_true]
        simp [hj, bt, Sem.run_pure]
      · exact h.elim
    · rename_i cs k j hv hi
      split at h
      · rename_i n e he
        split at h
        · rename_i ie d hie hd hag
          rw [need_iff, need_iff] at h
          obtain ⟨hs, hb, h⟩ := h
          simp only [Bool.and_eq_true, decide_eq_true_eq] at hb
          obtain ⟨v, hc, hk⟩ := Kd.ex_out h
          have hs' : ie.size = 1 := beq_iff_eq.1 hs
          rw [hx]; refine upon_of_run ?_ hk
          simp only [ag.ev hv, ag.ev hi, Instr.index, asIntOf, Sem.run_bind, Sem.run_pure, Result.andThen_ok, underlying_run he]
          rw [if_pos hb]
          simp only [Sem.run_bind, sizeOf_run hie, hs', Result.andThen_ok, part, isAgg_run_no hd hag, Nat.mul_one]
          simp [hc, Sem.run_pure]
        · exact h.elim
      · exact h.elim
    · exact h.elim
  case h_10 t x lo hi hx =>
    split at h
    · rename_i p n c l0 h0 hv hl hh
      split at h
      · rename_i e he
        split at h
        · rename_i ie hie
          split at h
          · rename_i l hh' hbl hbh
            rw [need_iff, need_iff] at h
            obtain ⟨b1, b2, h⟩ := h
            simp only [Bool.and_eq_true, decide_eq_true_eq] at b1 b2
            rw [hx]; refine upon_of_run ?_ h
            have e1 := evO_some ag hl
            have e2 := evO_some ag hh
            have r2 := sliceBound_run (P := C.P) (w := w) (y := c) (code := .sliceAcap) hbh b1.1 b1.2 (fun hn => by subst hn; simp [bnd] at hbh; omega)
            have r1 := sliceBound_run (P := C.P) (w := w) (y := hh'.toNat) (code := .sliceB) hbl b2.1 (by omega) (fun hn => by subst hn; simp [bnd] at hbl; omega)
            simp only [ag.ev hv, e1, e2, Instr.sliceAt, Sem.run_bind, underlying_run he, Result.andThen_ok, Instr.slice, Instr.sliceBounds, Option.map_none, Sem.run_pure, Option.isSome_none]
            cases h0 <;> cases l0 <;> simp_all [Sem.run_bind, sizeOf_run hie, Result.andThen_ok, Sem.run_pure, slA]
          · exact h.elim
        · exact h.elim
      · exact h.elim
    · rename_i s l0 h0 hv hl hh
      split at h
      · rename_i he
        split at h
        · rename_i l hh' hbl hbh
          rw [need_iff, need_iff] at h
          obtain ⟨b1, b2, h⟩ := h
          simp only [Bool.and_eq_true, decide_eq_true_eq] at b1 b2
          rw [hx]; refine upon_of_run ?_ h
          have e1 := evO_some ag hl
          have e2 := evO_some ag hh
          have r2 := sliceBound_run (P := C.P) (w := w) (y := s.size) (code := .sliceAlen) hbh b1.1 b1.2 (fun hn => by subst hn; simp [bnd] at hbh; omega)
          have r1 := sliceBound_run (P := C.P) (w := w) (y := hh'.toNat) (code := .sliceB) hbl b2.1 (by omega) (fun hn => by subst hn; simp [bnd] at hbl; omega)
          simp only [ag.ev hv, e1, e2, Instr.sliceAt, Sem.run_bind, underlying_run he, Result.andThen_ok, Instr.slice, Instr.sliceBounds, Option.map_none, Sem.run_pure, Option.isSome_none]
          cases h0 <;> cases l0 <;> simp_all [Sem.run_bind, Result.andThen_ok, Sem.run_pure]
        · exact h.elim
      · exact h.elim
    · exact h.elim
  case h_12 fn first cap hx =>
    split at h
    · rename_i x y h1 h2
      rw [hx]; refine upon_of_run ?_ h
      simp only [Instr.makeFunc, evs_arr ag h1, evs_arr ag h2, Sem.run_pure]
    · exact h.elim
  case h_13 op t x hx =>
    split at h
    · rename_i v hv; rw [hx]; simp only [ag.ev hv]; exact upon_pure h
    · exact h.elim
  case h_14 t x f hx =>
    split at h
    · rename_i v hv; rw [hx]; simp only [ag.ev hv]; exact upon_pure h
    · exact h.elim
  case h_15 x i hx =>
    split at h
    · rename_i v hv; rw [hx]; simp only [ag.ev hv]; exact upon_pure h
    · exact h.elim
  case h_16 c x y hx =>
    split at h
    · rename_i vc va vb h1 h2 h3
      rw [hx]
      have := upon_pure (E := E) h
      simp only [ag.ev h1, ag.ev h2, ag.ev h3]
      simp only [Sem.run_bind, Sem.run_pure] at this ⊢
      revert this
      cases Sem.run C.P (asBool vc) w <;> exact fun h => h
    · exact h.elim
  case h_17 t x f hx =>
    split at h
    · rename_i p hv
      split at h
      · rename_i fs he
        split at h
        · rename_i fd hf
          split at h
          · rename_i i hi
            rw [need_iff] at h
            obtain ⟨hb, h⟩ := h
            have hb' : ¬ i.size = 0 := by simpa using hb
            rw [hx]; refine upon_of_run ?_ h
            simp only [ag.ev hv, Instr.fieldAt, Sem.run_bind, underlying_run he, Result.andThen_ok, hf, Instr.sureAddr, Sem.run_pure, fieldPlace, sizeOf_run hi]
            rw [if_neg hb']
            simp only [Sem.run_pure, Result.andThen_ok]
          · exact h.elim
        · exact h.elim
      · exact h.elim
    · exact h.elim
  case h_18 t ps hx =>
    split at h
    · rename_i vs hv
      rw [hx]; simp only [parts_eq ag hv]; exact upon_pure h
    · exact h.elim
  case h_19 s d x hx =>
    split at h
    · rename_i k v hv; rw [hx]; simp only [ag.ev hv]; exact upon_pure h
    · rename_i v _ hv; rw [hx]; simp only [ag.ev hv]; exact upon_vRun h
    · exact h.elim
  case h_20 t n ps hx =>
    split at h
    · rename_i vs hv
      rw [hx]; simp only [parts_eq ag hv]; exact upon_vRun h
    · exact h.elim
  case h_21 t x y hx =>
    split at h
    · rename_i u v h1 h2; rw [hx]; simp only [ag.ev h1, ag.ev h2]; exact upon_vRun h
    · exact h.elim
  case h_22 t hx => rw [hx]; exact upon_vRun h
  case h_23 t x i ok hx =>
    split at h
    · rename_i u v h1 h2; rw [hx]; simp only [ag.ev h1, ag.ev h2]; exact upon_vRun h
    · exact h.elim
  case h_24 t m k v hx =>
    split at h
    · rename_i h1 h2 h3
      obtain ⟨w', hr, hk⟩ := h
      rw [hx]; simp only [ag.ev h1, ag.ev h2, ag.ev h3]; exact upon_of_unit hr hk
    · exact h.elim
  case h_25 t m k v hx =>
    split at h
    · rename_i h1 h2 h3
      obtain ⟨w', hr, hk⟩ := h
      rw [hx]; simp only [ag.ev h1, ag.ev h2, ag.ev h3]; exact upon_of_unit hr hk
    · exact h.elim
  case h_26 t x hx =>
    split at h
    · rename_i v hv; rw [hx]; simp only [ag.ev hv]; exact upon_vRun h
    · exact h.elim
  case h_27 it s hx =>
    split at h
    · rename_i v hv
      split at h
      · obtain ⟨u, w', hr, hk⟩ := h
        rw [hx]; simp only [ag.ev hv]; refine upon_of_run hr ?_
        rcases hk with ⟨rfl, hk⟩ | ⟨i, c, rfl, hk⟩ <;> exact hk
      · obtain ⟨u, w', hr, hk⟩ := h
        rw [hx]; simp only [ag.ev hv]; refine upon_of_run hr ?_
        rcases hk with ⟨rfl, hk⟩ | ⟨i, c, rfl, hk⟩ <;> exact hk
    · exact h.elim
  case h_28 it hx =>
    split at h
    · rename_i v t hv
      rw [hx]; simp only [ag.ev hv]; exact upon_vRun h
    · exact h.elim
  case h_29 t x hx =>
    split at h
    · rename_i v hv; rw [hx]; simp only [ag.ev hv]; exact upon_pure h
    · exact h.elim
  case h_31 x hx =>
    split at h
    · rename_i v hv
      obtain ⟨u, hr, hk⟩ := h
      rw [hx]; simp only [ag.ev hv, Sem.run_bind, hr, Result.andThen_halt]; exact hk
    · exact h.elim
  case h_32 => exact h.elim
  case h_11 op t x y ty hx =>
    rw [hx]
    split at h
    · rename_i k p k' q h1 h2
      rw [need_iff] at h
      obtain ⟨hb, h⟩ := h
      simp only [Bool.and_eq_true, decide_eq_true_eq, Bool.not_eq_true', decide_eq_false_iff_not] at hb
      obtain ⟨rfl, hq⟩ := hb
      refine upon_of_run ?_ h
      simp [ag.ev h1, ag.ev h2, eqGuard, binOp, Op.intDiv, hq, Sem.run_bind, Sem.run_pure, Result.andThen]
    · rename_i k p k' q h1 h2
      rw [need_iff] at h
      obtain ⟨hb, h⟩ := h
      simp only [Bool.and_eq_true, decide_eq_true_eq, Bool.not_eq_true', decide_eq_false_iff_not] at hb
      obtain ⟨rfl, hq⟩ := hb
      refine upon_of_run ?_ h
      simp [ag.ev h1, ag.ev h2, eqGuard, binOp, Op.intDiv, hq, Sem.run_bind, Sem.run_pure, Result.andThen]
    · rename_i k p k' q h1 h2
      rw [need_iff] at h
      obtain ⟨hb, h⟩ := h
      simp only [Bool.not_eq_true', decide_eq_false_iff_not] at hb
      refine upon_of_run ?_ h
      simp [ag.ev h1, ag.ev h2, eqGuard, binOp, Op.shift, hb, Sem.run_bind, Sem.run_pure, Result.andThen]
    · rename_i k p k' q h1 h2
      rw [need_iff] at h
      obtain ⟨hb, h⟩ := h
      simp only [Bool.not_eq_true', decide_eq_false_iff_not] at hb
      refine upon_of_run ?_ h
      simp [ag.ev h1, ag.ev h2, eqGuard, binOp, Op.shift, hb, Sem.run_bind, Sem.run_pure, Result.andThen]
    · rename_i p q h1 h2
      rw [need_iff] at h
      obtain ⟨hb, h⟩ := h
      simp only [decide_eq_true_eq] at hb
      refine upon_of_run ?_ h
      have hb' : ¬ (((p.size + q.size : Nat) : Int) > IntKind.i64.max) := by
        have : IntKind.i64.max = 9223372036854775807 := by decide
        omega
      simp only [ag.ev h1, ag.ev h2, eqGuard, binOp, Op.stringOp, Sem.run_bind, Sem.run_pure, Result.andThen_ok]
      rw [if_neg hb']
      rfl
    · rename_i xs ys h1 h2
      split at h
      · rename_i r hr
        refine upon_of_run ?_ h
        obtain ⟨e1, e2⟩ := aggEq_run (w := w) (x := x) (y := y) (op := .eql) hr
        simp only [ag.ev h1, ag.ev h2]
        exact eql_run (by simp) e1 e2 bin_agg
      · exact h.elim
    · rename_i xs ys h1 h2
      split at h
      · rename_i r hr
        refine upon_of_run ?_ h
        obtain ⟨e1, e2⟩ := aggEq_run (w := w) (x := x) (y := y) (op := .neq) hr
        simp only [ag.ev h1, ag.ev h2]
        exact eql_run (by simp) e1 e2 bin_agg
      · exact h.elim
    · rename_i p0 h1 h2
      split at h
      · rename_i hu
        refine upon_of_run ?_ h
        simp only [ag.ev h1, ag.ev h2]
        exact eql_run (by simp) guard_ptr (ptrNil_run hu 9999 p0) bin_ptr
      · exact h.elim
    · rename_i p0 h1 h2
      split at h
      · rename_i hu
        refine upon_of_run ?_ h
        simp only [ag.ev h1, ag.ev h2]
        exact eql_run (by simp) guard_ptr (ptrNil_run hu 9999 p0) bin_ptr
      · exact h.elim
    · rename_i p0 n0 c0 n1 c1 h1 h2
      split at h
      · rename_i hu
        refine upon_of_run ?_ h
        simp only [ag.ev h1, ag.ev h2]
        exact eql_run (by simp) guard_sl (slNil_run hu 9999 p0 n0 c0 n1 c1) bin_sl
      · exact h.elim
    · rename_i p0 n0 c0 n1 c1 h1 h2
      split at h
      · rename_i hu
        refine upon_of_run ?_ h
        simp only [ag.ev h1, ag.ev h2]
        exact eql_run (by simp) guard_sl (slNil_run hu 9999 p0 n0 c0 n1 c1) bin_sl
      · exact h.elim
    · rename_i p0 h1 h2
      split at h
      · rename_i hu
        refine upon_of_run ?_ h
        simp only [ag.ev h1, ag.ev h2]
        exact eql_run (by simp) guard_map (mapNil_run hu 9999 p0) bin_map
      · exact h.elim
    · rename_i p0 h1 h2
      split at h
      · rename_i hu
        refine upon_of_run ?_ h
        simp only [ag.ev h1, ag.ev h2]
        exact eql_run (by simp) guard_map (mapNil_run hu 9999 p0) bin_map
      · exact h.elim
    · rename_i op' p q _ _ _ _ _ _ _ _ _ _ _ _ _ h1 h2
      simp only [ag.ev h1, ag.ev h2]
      exact upon_pure h
    · exact h.elim
  case h_30 c hx =>
    rw [hx]
    split at h
    · rename_i f args hc hargs
      have hargs' := evs_arr ag hargs
      split at h
      · rename_i fv hf
        have := vCall_run (K := K) (E := E) (d := default) hC h
        simp only [resolve, hc, hargs', ag.ev hf]
        exact this
      · exact h.elim
    · rename_i args hc hargs
      have hargs' := evs_arr ag hargs
      have := upon_vRun (E := E) h
      simpa only [resolve, hc, hargs', Sem.run_bind, Sem.run_pure, Result.andThen_ok, invoke, builtin] using this
    · rename_i args hc hargs
      have hargs' := evs_arr ag hargs
      have := upon_vRun (E := E) h
      simpa only [resolve, hc, hargs', Sem.run_bind, Sem.run_pure, Result.andThen_ok, invoke, builtin] using this
    · rename_i args hc hargs
      have hargs' := evs_arr ag hargs
      obtain ⟨w', hr, hk⟩ := h
      have := upon_of_run (E := E) hr hk
      simpa only [resolve, hc, hargs', Sem.run_bind, Sem.run_pure, Result.andThen_ok, invoke, builtin] using this
    · rename_i args hc hargs
      have hargs' := evs_arr ag hargs
      have : Upon C.P K E ((do pure (Next.value (← (Builtin.len_ c.argTypes o.type args.toArray))) : Sem Next).run C.P w) := by
        split at h
        · exact upon_vRun h
        · exact upon_pure h
      simpa only [resolve, hc, hargs', Sem.run_bind, Sem.run_pure, Result.andThen_ok, invoke, builtin] using this
    · rename_i args hc hargs
      have hargs' := evs_arr ag hargs
      have := upon_pure (E := E) h
      simpa only [resolve, hc, hargs', Sem.run_bind, Sem.run_pure, Result.andThen_ok, invoke, builtin] using this
    · rename_i args hc hargs
      have hargs' := evs_arr ag hargs
      have := upon_pure (E := E) h
      simpa only [resolve, hc, hargs', Sem.run_bind, Sem.run_pure, Result.andThen_ok, invoke, builtin] using this
    · rename_i args hc hargs
      have hargs' := evs_arr ag hargs
      have := upon_pure (E := E) h
      simpa only [resolve, hc, hargs', Sem.run_bind, Sem.run_pure, Result.andThen_ok, invoke, builtin] using this
    · exact h.elim
end
end Go.Lf
end
