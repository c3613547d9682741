/- Part 29 of the lemmas that a proof leans on; no claim is made here. By an AI agent. -/
import Derived.Test.YtofhodpdfbnkiaaGreatLfA08
import Derived.Test.YtofhodpdfbnkiaaGreatLfA10
import Derived.Test.YtofhodpdfbnkiaaGreatLfA11
import Derived.Test.YtofhodpdfbnkiaaGreatLfA13
import Derived.Test.YtofhodpdfbnkiaaGreatLfA28
section
set_option linter.unusedVariables false
set_option linter.unusedSimpArgs false
namespace Go.Lf
open Go Go.Proofs
def PBlk (w : World) (k : Nat) : Prop := ∃ o, w.heap[k]? = some o ∧ ((∃ cs, o = .cells cs 81 (0, 0)) ∨ (∃ es c, o = .map es c) ∨ ∃ cs, o = .cells cs 72 (0, 0))
def RBlk (w : World) (k : Nat) : Prop := ∃ o, w.heap[k]? = some o ∧ ((∃ cs, o = .cells cs 92 (0, 0)) ∨ (∃ cs, o = .cells cs 49 (0, 0)) ∨ ∃ cs, o = .cells cs 54 (0, 0))
def PK (base : Nat) (w w' : World) : Prop := ∃ S, Kp S w w' ∧ ∀ k, S k → base ≤ k ∧ PBlk w k
def RK (base : Nat) (w w' : World) : Prop := ∃ S, Kp S w w' ∧ ∀ k, S k → base ≤ k ∧ RBlk w k
theorem PK.kp {base : Nat} {w w' : World} (h : PK base w w') : Kp (fun k => base ≤ k) w w' := by obtain ⟨S, hk, hS⟩ := h; exact hk.mono fun k _ h => (hS k h).1
theorem RK.kp {base : Nat} {w w' : World} (h : RK base w w') : Kp (fun k => base ≤ k) w w' := by obtain ⟨S, hk, hS⟩ := h; exact hk.mono fun k _ h => (hS k h).1
theorem PK.of {base : Nat} {w w' : World} (h : Kp no w w') : PK base w w' := ⟨no, h, fun k h => h.elim⟩
theorem RK.of {base : Nat} {w w' : World} (h : Kp no w w') : RK base w w' := ⟨no, h, fun k h => h.elim⟩
theorem PK.pre {base : Nat} {w w' w'' : World} (h : Kp no w w') (hb : base ≤ w.heap.size) (h' : PK base w' w'') : ∃ S, Kp S w w'' ∧ ∀ k, S k → base ≤ k ∧ (k < w.heap.size → PBlk w k) := by
  obtain ⟨S, hk, hS⟩ := h'
  refine ⟨S, h.then hk, fun k h2 => ⟨(hS k h2).1, fun hlt => ?_⟩⟩
  obtain ⟨o, ho, hp⟩ := (hS k h2).2
  rw [h.get k hlt nf] at ho
  exact ⟨o, ho, hp⟩
theorem PK.then {base : Nat} {w w' w'' : World} (h : Kp no w w') (h' : PK base w' w'') : PK base w w'' := by
  obtain ⟨S, hk, hS⟩ := h'
  refine ⟨fun k => S k ∧ k < w.heap.size, (h.then hk).mono fun k hlt hs => ⟨hs, hlt⟩, fun k h2 => ⟨(hS k h2.1).1, ?_⟩⟩
  obtain ⟨o, ho, hp⟩ := (hS k h2.1).2
  rw [h.get k h2.2 nf] at ho
  exact ⟨o, ho, hp⟩
theorem RK.then {base : Nat} {w w' w'' : World} (h : Kp no w w') (h' : RK base w' w'') : RK base w w'' := by
  obtain ⟨S, hk, hS⟩ := h'
  refine ⟨fun k => S k ∧ k < w.heap.size, (h.then hk).mono fun k hlt hs => ⟨hs, hlt⟩, fun k h2 => ⟨(hS k h2.1).1, ?_⟩⟩
  obtain ⟨o, ho, hp⟩ := (hS k h2.1).2
  rw [h.get k h2.2 nf] at ho
  exact ⟨o, ho, hp⟩
theorem PK.after {base : Nat} {w w' w'' : World} (h : PK base w w') (h' : Kp no w' w'') : PK base w w'' := by
  obtain ⟨S, hk, hS⟩ := h
  exact ⟨S, hk.trans h' (fun k _ h => h.elim), hS⟩
theorem RK.after {base : Nat} {w w' w'' : World} (h : RK base w w') (h' : Kp no w' w'') : RK base w w'' := by
  obtain ⟨S, hk, hS⟩ := h
  exact ⟨S, hk.trans h' (fun k _ h => h.elim), hS⟩
def SA (w : World) (base p s : Nat) (S : StS) (D : Dk) : Prop := ∃ t b q, StP w s t b (.pointer (some ⟨q, 0, none⟩)) S ∧ LogAt 112 w q p ∧ DkAt 72 w p D ∧ base ≤ s ∧ base ≤ b ∧ base ≤ p
def RSA (w : World) (base p s : Nat) (S : StS) (D : Dk) : Prop := ∃ t v q, RStP w s t v (.pointer (some ⟨q, 0, none⟩)) S ∧ LogAt 123 w q p ∧ DkAt 54 w p D ∧ base ≤ s ∧ (∀ k, v.ownBlock = some k → base ≤ k) ∧ base ≤ p
theorem nP {w : World} {S : Nat → Prop} (hS : ∀ k, S k → PBlk w k) {b : Nat} {o : Obj} (hb : w.heap[b]? = some o) (h1 : ∀ cs, o ≠ .cells cs 81 (0, 0)) (h2 : ∀ es c, o ≠ .map es c) (h3 : ∀ cs, o ≠ .cells cs 72 (0, 0)) : ¬ S b := by
  intro h
  obtain ⟨o', ho, h⟩ := hS b h
  rw [hb] at ho
  cases ho
  rcases h with ⟨cs, h⟩ | ⟨es, c, h⟩ | ⟨cs, h⟩
  · exact h1 cs h
  · exact h2 es c h
  · exact h3 cs h
theorem nR {w : World} {S : Nat → Prop} (hS : ∀ k, S k → RBlk w k) {b : Nat} {o : Obj} (hb : w.heap[b]? = some o) (h1 : ∀ cs, o ≠ .cells cs 92 (0, 0)) (h2 : ∀ cs, o ≠ .cells cs 49 (0, 0)) (h3 : ∀ cs, o ≠ .cells cs 54 (0, 0)) : ¬ S b := by
  intro h
  obtain ⟨o', ho, h⟩ := hS b h
  rw [hb] at ho
  cases ho
  rcases h with ⟨cs, h⟩ | ⟨cs, h⟩ | ⟨cs, h⟩
  · exact h1 cs h
  · exact h2 cs h
  · exact h3 cs h
theorem nTP {w : World} {S : Nat → Prop} (hS : ∀ k, S k → PBlk w k) {e : TypeId} (h1 : e ≠ 81) (h2 : e ≠ 72) : NoT e S w := by
  intro b cs f hb hc
  obtain ⟨o, ho, h⟩ := hS b hb
  rw [hc] at ho
  cases ho
  rcases h with ⟨cs, h⟩ | ⟨es, c, h⟩ | ⟨cs, h⟩
  · cases h; exact h1 rfl
  · cases h
  · cases h; exact h2 rfl
theorem nTR {w : World} {S : Nat → Prop} (hS : ∀ k, S k → RBlk w k) {e : TypeId} (h1 : e ≠ 92) (h2 : e ≠ 49) (h3 : e ≠ 54) : NoT e S w := by
  intro b cs f hb hc
  obtain ⟨o, ho, h⟩ := hS b hb
  rw [hc] at ho
  cases ho
  rcases h with ⟨cs, h⟩ | ⟨cs, h⟩ | ⟨cs, h⟩
  · cases h; exact h1 rfl
  · cases h; exact h2 rfl
  · cases h; exact h3 rfl
theorem DkAt.rk {w w' : World} {base p : Nat} {D : Dk} (h : DkAt 72 w p D) (k : RK base w w') : DkAt 72 w' p D := by
  obtain ⟨S, hk, hS⟩ := k
  obtain ⟨s, h1, h2⟩ := id h
  exact h.keep hk (nR (fun k h => (hS k h).2) h1 (by simp) (by simp) (by simp)) (nTR (fun k h => (hS k h).2) (by decide) (by decide) (by decide))
theorem DkAt.pk {w w' : World} {base p : Nat} {D : Dk} (h : DkAt 54 w p D) (k : PK base w w') : DkAt 54 w' p D := by
  obtain ⟨S, hk, hS⟩ := k
  obtain ⟨s, h1, h2⟩ := id h
  exact h.keep hk (nP (fun k h => (hS k h).2) h1 (by simp) (by simp) (by simp)) (nTP (fun k h => (hS k h).2) (by decide) (by decide))
theorem SA.rk {w w' : World} {base base' p s : Nat} {S : StS} {D : Dk} (h : SA w base p s S D) (k : RK base' w w') : SA w' base p s S D := by
  obtain ⟨t, b, q, ⟨h1, h2, h3⟩, h4, h5, h6⟩ := h
  have h5' := h5.rk k
  obtain ⟨X, hk, hS⟩ := k
  have hS := fun k h => (hS k h).2
  exact ⟨t, b, q, ⟨hk.at h1 (nR hS h1 (by simp) (by simp) (by simp)), hk.at h2 (nR hS h2 (by simp) (by simp) (by simp)), hk.at h3 (nR hS h3 (by simp) (by simp) (by simp))⟩, hk.at h4 (nR hS h4 (by simp) (by simp) (by simp)), h5', h6⟩
theorem RSA.pk {w w' : World} {base base' p s : Nat} {S : StS} {D : Dk} (h : RSA w base p s S D) (k : PK base' w w') : RSA w' base p s S D := by
  obtain ⟨t, v, q, ⟨h1, h2, h3⟩, h4, h5, h6⟩ := h
  have h5' := h5.pk k
  obtain ⟨X, hk, hS⟩ := k
  have hS := fun k h => (hS k h).2
  exact ⟨t, v, q, ⟨hk.at h1 (nP hS h1 (by simp) (by simp) (by simp)), hk.at h2 (nP hS h2 (by simp) (by simp) (by simp)), h3.keep hk (nTP hS (by decide) (by decide))⟩, hk.at h4 (nP hS h4 (by simp) (by simp) (by simp)), h5', h6⟩
theorem SA.keepN {w w' : World} {base p s : Nat} {S : StS} {D : Dk} (h : SA w base p s S D) (k : Kp no w w') : SA w' base p s S D := h.rk (base' := 0) (.of k)
theorem RSA.keepN {w w' : World} {base p s : Nat} {S : StS} {D : Dk} (h : RSA w base p s S D) (k : Kp no w w') : RSA w' base p s S D := h.pk (base' := 0) (.of k)
theorem SA.pb {w : World} {s t b p base : Nat} {v0 : Value} {S : StS} {D : Dk} (h : StP w s t b v0 S) (hd : DkAt 72 w p D) (h1 : base ≤ s) (h2 : base ≤ b) (h3 : base ≤ p) : ∀ k, k = s ∨ k = b ∨ k = p → base ≤ k ∧ PBlk w k := by
  rintro k (rfl | rfl | rfl)
  · exact ⟨h1, _, h.1, .inl ⟨_, rfl⟩⟩
  · exact ⟨h2, _, h.2.2, .inr (.inl ⟨_, _, rfl⟩)⟩
  · obtain ⟨x, hx, _⟩ := hd
    exact ⟨h3, _, hx, .inr (.inr ⟨_, rfl⟩)⟩
theorem RSA.pb {w : World} {s t p base : Nat} {v v0 : Value} {S : StS} {D : Dk} (h : RStP w s t v v0 S) (hd : DkAt 54 w p D) (h1 : base ≤ s) (h2 : ∀ k, v.ownBlock = some k → base ≤ k) (h3 : base ≤ p) : ∀ k, k = s ∨ v.ownBlock = some k ∨ k = p → base ≤ k ∧ RBlk w k := by
  rintro k (rfl | hk | rfl)
  · exact ⟨h1, _, h.1, .inl ⟨_, rfl⟩⟩
  · obtain ⟨cs, hcs⟩ := h.2.2.type hk
    exact ⟨h2 k hk, _, hcs, .inr (.inl ⟨_, rfl⟩)⟩
  · obtain ⟨x, hx, _⟩ := hd
    exact ⟨h3, _, hx, .inr (.inr ⟨_, rfl⟩)⟩
theorem OwnBss.at {w : World} {base : Nat} {a : Option Addr} {n c : Nat} {ls : List (List UInt8)} (h : OwnBss w base (.slice a n c) ls) {i : Nat} (hi : i < ls.length) :
    ∃ q, a = some q ∧ ∃ a' c', w.cell? (q.add i) = some (.slice a' ls[i].length c') ∧ OwnB w base (.slice a' ls[i].length c') ls[i] := by
  obtain ⟨ss, hos, hel⟩ := h
  obtain ⟨u, hu, hou⟩ := hel i hi
  obtain ⟨au, cu, rfl⟩ := own_slice hou
  obtain ⟨_, ⟨h1, h0⟩ | ⟨p, c, h1, _, _, _, h2⟩⟩ := Sl.of_own hos
  · omega
  · cases h1; exact ⟨p, rfl, au, cu, h2 i _ hu, hou⟩
def J39 (w : World) (s t b : Nat) (v0 : Value) (S : StS) (ls : List (List UInt8)) (vs : List Value) (w' : World) : Prop :=
  match vs with | [.int _ i] => ∃ k : Nat, i = k ∧ k ≤ ls.length ∧ Kp (fun k => k = s ∨ k = b) w w' ∧ StP w' s t b v0 ((ls.take k).foldl doRec S) | _ => False
def M39 (ls : List (List UInt8)) (vs : List Value) (_ : World) : Nat := match vs with | [.int _ i] => ls.length - i.toNat | _ => 0
set_option maxRecDepth 100000 in
theorem has41 : Cz.has 41 = true := by kernel_rfl
theorem fold_take {S : StS} {ls : List (List UInt8)} {k : Nat} (h : k < ls.length) : (ls.take (k + 1)).foldl doRec S = doRec ((ls.take k).foldl doRec S) ls[k] := by
  rw [List.take_add_one, List.getElem?_eq_getElem h, List.foldl_append]; rfl
theorem K39 {w : World} {s t b : Nat} {v0 : Value} {S : StS} {a : Option Addr} {n c : Nat} {ls : List (List UInt8)} (h : StP w s t b v0 S) (hv : OwnBss w 0 (.slice a n c) ls) (hr : ∀ l ∈ ls, recOk l) (hl : ls.length ≤ 1048576) :
    Calls Cz.P 39 #[.slice a n c, .func (.func 41) #[.pointer (some ⟨s, 0, none⟩)] #[]] w (CP (Post41 w s t b v0 (ls.foldl doRec S)) (fun _ _ => False)) := by
  refine C39 ?_
  obtain ⟨_, _, hx⟩ := hv.slice
  cases hx
  unfold B39
  refine ⟨J39 w s t b v0 S ls, M39 ls, ⟨0, rfl, Nat.zero_le _, .refl _ _, h⟩, ?_⟩
  rintro i w1 ⟨k, rfl, hk, hk1, hS1⟩
  unfold B39_l1
  have hn22 : NoT 22 (fun k => k = s ∨ k = b) w := by
    rintro b' cs f (rfl | rfl) hc
    · rw [h.1] at hc; cases hc
    · rw [h.2.2] at hc; cases hc
  have hn5 : NoT 5 (fun k => k = s ∨ k = b) w := by
    rintro b' cs f (rfl | rfl) hc
    · rw [h.1] at hc; cases hc
    · rw [h.2.2] at hc; cases hc
  refine ifB_dec (fun hlt => ?_) (fun hlt => ?_)
  · have hk' : k < ls.length := by omega
    obtain ⟨q, rfl, a', c', hc, ho⟩ := (hv.keep hk1 hn22 hn5).at hk'
    have hi1 : IntKind.i64.wrap ((k : Int) + 1) = ((k + 1 : Nat) : Int) := by rw [wrap64 (by omega) (by omega)]; omega
    have hrk := hr _ (List.getElem_mem hk')
    unfold recOk at hrk
    refine need_and (dec (by omega)) (dec (by omega)) ?_
    rw [nn_some, show (k : Int).toNat * 1 = k by omega]
    refine ⟨_, _, _, hc, need_iff.2 ⟨has41, ?_⟩⟩
    show Calls Cz.P 41 #[.pointer (some ⟨s, 0, none⟩), .slice a' ls[k].length c'] w1 _
    refine (K41 hS1 ho.bs (by omega) (by omega)).mono fun e w2 hp => ?_
    cases e with
    | returned r =>
      obtain ⟨rfl, hk2, hS2⟩ := hp
      refine ⟨rfl, ⟨k + 1, hi1, hk', hk1.trans hk2 (fun _ _ h => h), by rw [fold_take hk']; exact hS2⟩, ?_⟩
      show ls.length - (IntKind.i64.wrap ((k : Int) + 1)).toNat < ls.length - (k : Int).toNat
      rw [hi1]; omega
    | _ => exact hp
  · have hk' : k = ls.length := by omega
    subst hk'
    rw [List.take_length] at hS1
    exact ⟨rfl, hk1, hS1⟩
theorem scan_rec : ∀ (n : Nat) (b : List UInt8), b.length = n → (∀ l ∈ (scan b).1, recOk l) ∧ (scan b).1.length ≤ b.length := by
  intro n
  induction n using Nat.strongRecOn with
  | _ n ih =>
    intro b hb
    by_cases hf : frOk b = true
    · rw [scan_yes hf]
      have hf' := hf
      unfold frOk at hf'
      rw [decide_eq_true_iff] at hf'
      obtain ⟨h1, h2, h3, h4, h5⟩ := hf'
      obtain ⟨i1, i2⟩ := ih (b.drop (3 + nn2 b)).length (by rw [List.length_drop]; omega) _ rfl
      constructor
      · intro l hl
        rcases List.mem_cons.1 hl with rfl | hl
        · unfold recOk; rw [List.length_take, List.length_drop]; omega
        · exact i1 l hl
      · rw [List.length_cons]; rw [List.length_drop] at i2; omega
    · rw [scan_no hf]; simp
def st0 (rs : List Rg) : StS := ⟨bares (pool rs), 0, 0⟩
def poolErr (rs : List Rg) : Int := if ∃ x ∈ rs, x.hi < x.lo then 1 else if 256 < cnt (pool rs) then 3 else 0
def openD (rs : List Rg) (D : Dk) : Int × Dk := if poolErr rs ≠ 0 then (poolErr rs, D) else D.openLog
def openSt (rs : List Rg) (D : Dk) : StS := (scan (openD rs D).2.b).1.foldl doRec (st0 rs)
def StoreOpen (SAt : World → Nat → Nat → Nat → StS → Dk → Prop) (T : TypeId) (K : Nat → World → World → Prop) (base p : Nat) (rs : List Rg) (D : Dk) (w : World) (r : Value) (w' : World) : Prop :=
  K base w w' ∧ DkAt T w' p (openD rs D).2 ∧ ((openD rs D).1 ≠ 0 ∧ r = .tuple #[.pointer none, .int .i64 (openD rs D).1] ∨
    (openD rs D).1 = 0 ∧ ∃ s, r = .tuple #[.pointer (some ⟨s, 0, none⟩), .int .i64 0] ∧ SAt w' base p s (openSt rs D) (openD rs D).2)
theorem openD_ok {rs : List Rg} {D : Dk} (h : D.ok) : (openD rs D).2.ok := by
  unfold openD; split
  · exact h
  · exact Dk.openLog_ok h
theorem K13 {w : World} {p base : Nat} {D : Dk} {a : Option Addr} {n c : Nat} {rs : List Rg} (hd : DkAt 72 w p D) (hD : D.ok) (hb : base ≤ p) (hw : base ≤ w.heap.size) (hv : Rgs w (.slice a n c) rs) (hok : ∀ r ∈ rs, r.ok) (hl : rs.length ≤ 1048576) :
    Calls Cz.P 13 #[.pointer (some ⟨p, 0, none⟩), .slice a n c] w (CP (StoreOpen SA 72 PK base p rs D w) (fun _ _ => False)) := by
  refine C13 ?_
  unfold B13
  refine (K37 hv hok hl).mono fun e w8 hp => ?_
  cases e with
  | returned r =>
    obtain ⟨hk8, hp⟩ := hp
    have hd8 := hd.keep hk8 nf .no
    have bad : ∀ x : Int, poolErr rs = x → x ≠ 0 → StoreOpen SA 72 PK base p rs D w (.tuple #[.pointer none, .int .i64 x]) w8 := by
      intro x hx hne
      have e1 : openD rs D = (x, D) := by unfold openD; rw [hx, if_pos hne]
      unfold StoreOpen
      rw [e1]
      exact ⟨.of hk8, hd8, .inl ⟨hne, rfl⟩⟩
    rcases hp with ⟨h1, rfl⟩ | ⟨hall, ⟨h1, rfl⟩ | ⟨hc, t, rfl, b, hbb, ht, hm⟩⟩
    · exact ⟨_, _, rfl, ifB_true.2 (bad 1 (by unfold poolErr; rw [if_pos h1]) (by decide))⟩
    · exact ⟨_, _, rfl, ifB_true.2 (bad 3 (by unfold poolErr; rw [if_neg (fun ⟨x, h2, h3⟩ => by have := hall x h2; omega), if_pos h1]) (by decide))⟩
    · have e0 : poolErr rs = 0 := by unfold poolErr; rw [if_neg (fun ⟨x, h2, h3⟩ => by have := hall x h2; omega), if_neg (by omega)]
      have e1 : openD rs D = D.openLog := by unfold openD; rw [e0]; rfl
      unfold StoreOpen openSt
      rw [e1]
      have hDo := Dk.openLog_ok hD
      have hbl := bl_bound hDo
      obtain ⟨hrec, hlen⟩ := scan_rec _ D.openLog.2.b rfl
      refine ⟨_, _, rfl, ifB_false.2 ((K38 hd8 hD).mono fun e w12 hp => ?_)⟩
      cases e with
      | returned r =>
        obtain ⟨hk12, hd12, hp⟩ := hp
        have hPB : PBlk w p := by obtain ⟨x, hx, _⟩ := hd; exact ⟨_, hx, .inr (.inr ⟨_, rfl⟩)⟩
        have hk012 : Kp (fun k => k = p) w w12 := hk8.then hk12
        have hpk : PK base w w12 := ⟨_, hk012, fun k h => by subst h; exact ⟨hb, hPB⟩⟩
        have ntp : ¬ t = p := by intro h; subst h; obtain ⟨x, hx, _⟩ := hd8; rw [ht] at hx; cases hx
        have nbp : ¬ b = p := by intro h; subst h; obtain ⟨x, hx, _⟩ := hd8; unfold MapAt at hm; rw [hm] at hx; cases hx
        rcases hp with ⟨hne, rfl⟩ | ⟨h0, q, hq, rfl, hlog⟩
        · exact ⟨_, _, rfl, ifB_split (fun _ => ⟨hpk, hd12, .inl ⟨hne, rfl⟩⟩) (fun h => by simp only [bne_eq_false_iff_eq] at h; exact (hne h).elim)⟩
        · refine ⟨_, _, rfl, ifB_false.2 (nw_i fun s w15 e15 hk15 g15 => ?_)⟩
          have hS15 : StP w15 s t b (.pointer (some ⟨q, 0, none⟩)) (st0 rs) := ⟨g15, hk15.at (hk12.at ht ntp) nf, hk15.at (hk12.at hm nbp) nf⟩
          have hd15 := hd12.keep hk15 nf .no
          have hq15 : LogAt 112 w15 q p := hk15.at hlog nf
          refine (K40 hq15 hd15 hDo).mono fun e w19 hp => ?_
          cases e with
          | returned r =>
            obtain ⟨hk19, a19, n19, c19, rfl, ho19⟩ := hp
            have hS19 := hS15.keepN hk19
            refine ⟨_, _, _, rfl, (K39 hS19 (ho19.base (Nat.zero_le _)) hrec (by omega)).mono fun e w21 hp => ?_⟩
            cases e with
            | returned r =>
              obtain ⟨rfl, hk21, hS21⟩ := hp
              have z0 := hk8.size
              have z8 := hk12.size
              have z15 := hk15.size
              have z19 := hk19.size
              have s15 := lt_of_get g15
              have nps : ¬ (p = s ∨ p = b) := by
                rintro (h | h)
                · subst h; obtain ⟨x, hx, _⟩ := hd15; rw [g15] at hx; cases hx
                · exact nbp h.symm
              have nqs : ¬ (q = s ∨ q = b) := by
                rintro (h | h)
                · subst h; unfold LogAt at hq15; rw [hq15] at g15; cases g15
                · subst h; have := hS15.2.2; unfold MapAt at this; unfold LogAt at hq15; rw [hq15] at this; cases this
              have hn5 : NoT 5 (fun k => k = s ∨ k = b) w19 := by
                rintro b' cs f (rfl | rfl) hc
                · rw [hS19.1] at hc; cases hc
                · rw [hS19.2.2] at hc; cases hc
              refine ⟨rfl, ?_, (hd15.keep hk19 nf .no).keep hk21 nps hn5, .inr ⟨h0, s, rfl, t, b, q, hS21, hk21.at (hk19.at hq15 nf) nqs, (hd15.keep hk19 nf .no).keep hk21 nps hn5, by omega, by omega, hb⟩⟩
              refine ⟨fun k => k = p, ?_, fun k h => by subst h; exact ⟨hb, hPB⟩⟩
              refine ((hk012.trans hk15 (fun _ _ h => h.elim)).trans hk19 (fun _ _ h => h.elim)).trans hk21 ?_
              intro k hk h
              omega
            | _ => exact hp
          | _ => exact hp
      | _ => exact hp
  | _ => exact hp
end Go.Lf
end

section
set_option linter.unusedVariables false
set_option linter.unusedSimpArgs false
namespace Go.Lf
open Go Go.Proofs
theorem setT_len (T : List Ls) (x : Ls) : (setT T x).2.length = T.length := by
  unfold setT
  split
  · split
    · rw [List.length_set]
    · rfl
  · rfl
theorem doRec_len (S : StS) (l : List UInt8) : (doRec S l).tab.length = S.tab.length := by
  unfold doRec
  split
  · rfl
  · split
    · split
      · exact setT_len _ _
      · rfl
    · split
      · rfl
      · split
        · split <;> rfl
        · rfl
theorem fold_len : ∀ (ls : List (List UInt8)) (S : StS), (ls.foldl doRec S).tab.length = S.tab.length
  | [], S => rfl
  | l :: ls, S => by rw [List.foldl_cons, fold_len ls, doRec_len]
def J14 (w : World) (s t : Nat) (v v0 : Value) (S : StS) (ls : List (List UInt8)) (vs : List Value) (w' : World) : Prop :=
  match vs with | [.int _ i] => ∃ k : Nat, i = k ∧ k ≤ ls.length ∧ Kp (fun k => k = s ∨ v.ownBlock = some k) w w' ∧ RStP w' s t v v0 ((ls.take k).foldl doRec S) | _ => False
theorem K14 {w : World} {p base : Nat} {D : Dk} {a : Option Addr} {n c : Nat} {rs : List Rg} (hd : DkAt 54 w p D) (hD : D.ok) (hb : base ≤ p) (hw : base ≤ w.heap.size) (hv : Rgs w (.slice a n c) rs) (hok : ∀ r ∈ rs, r.ok) (hl : rs.length ≤ 1048576) :
    Calls Cz.P 14 #[.pointer (some ⟨p, 0, none⟩), .slice a n c] w (CP (StoreOpen RSA 54 RK base p rs D w) (fun _ _ => False)) := by
  refine C14 ?_
  unfold B14
  refine (K42 hv hok hl).mono fun e w8 hp => ?_
  cases e with
  | returned r =>
    obtain ⟨hk8, hp⟩ := hp
    have hd8 := hd.keep hk8 nf .no
    have bad : ∀ x : Int, poolErr rs = x → x ≠ 0 → StoreOpen RSA 54 RK base p rs D w (.tuple #[.pointer none, .int .i64 x]) w8 := by
      intro x hx hne
      have e1 : openD rs D = (x, D) := by unfold openD; rw [hx, if_pos hne]
      unfold StoreOpen
      rw [e1]
      exact ⟨.of hk8, hd8, .inl ⟨hne, rfl⟩⟩
    rcases hp with ⟨h1, rfl⟩ | ⟨hall, ⟨h1, rfl⟩ | ⟨hcc, t, rfl, v, ht, hm⟩⟩
    · exact ⟨_, _, rfl, ifB_true.2 (bad 1 (by unfold poolErr; rw [if_pos h1]) (by decide))⟩
    · exact ⟨_, _, rfl, ifB_true.2 (bad 3 (by unfold poolErr; rw [if_neg (fun ⟨x, h2, h3⟩ => by have := hall x h2; omega), if_pos h1]) (by decide))⟩
    · have e0 : poolErr rs = 0 := by unfold poolErr; rw [if_neg (fun ⟨x, h2, h3⟩ => by have := hall x h2; omega), if_neg (by omega)]
      have e1 : openD rs D = D.openLog := by unfold openD; rw [e0]; rfl
      unfold StoreOpen openSt
      rw [e1]
      have hDo := Dk.openLog_ok hD
      have hbl := bl_bound hDo
      obtain ⟨hrec, hlen⟩ := scan_rec _ D.openLog.2.b rfl
      refine ⟨_, _, rfl, ifB_false.2 ((K43 hd8 hD).mono fun e w12 hp => ?_)⟩
      cases e with
      | returned r =>
        obtain ⟨hk12, hd12, hp⟩ := hp
        have hPB : RBlk w p := by obtain ⟨x, hx, _⟩ := hd; exact ⟨_, hx, .inr (.inr ⟨_, rfl⟩)⟩
        have hk012 : Kp (fun k => k = p) w w12 := hk8.then hk12
        have hpk : RK base w w12 := ⟨_, hk012, fun k h => by subst h; exact ⟨hb, hPB⟩⟩
        have ntp : ¬ t = p := by intro h; subst h; obtain ⟨x, hx, _⟩ := hd8; rw [ht] at hx; cases hx
        have hvp : ¬ v.ownBlock = some p := by obtain ⟨x, hx, _⟩ := hd8; exact hm.ne hx (by simp)
        rcases hp with ⟨hne, rfl⟩ | ⟨h0, q, hq, rfl, hlog⟩
        · exact ⟨_, _, rfl, ifB_split (fun _ => ⟨hpk, hd12, .inl ⟨hne, rfl⟩⟩) (fun h => by simp only [bne_eq_false_iff_eq] at h; exact (hne h).elim)⟩
        · refine ⟨_, _, rfl, ifB_false.2 (nw_i fun s w15 e15 hk15 g15 => ?_)⟩
          have hm12 : OwnS SL 49 w12 w.heap.size v (bares (pool rs)) := hm.kept hk12 (fun b hb h => hvp (h ▸ hb))
          have hS15 : RStP w15 s t v (.pointer (some ⟨q, 0, none⟩)) (st0 rs) := ⟨g15, hk15.at (hk12.at ht ntp) nf, (hm12.keep hk15 .no).base (Nat.zero_le _)⟩
          have hd15 := hd12.keep hk15 nf .no
          have hq15 : LogAt 123 w15 q p := hk15.at hlog nf
          refine (K44 hq15 hd15 hDo).mono fun e w19 hp => ?_
          cases e with
          | returned r =>
            obtain ⟨hk19, a19, n19, c19, rfl, ho19⟩ := hp
            have hS19 := hS15.keepN hk19
            have ho19' := ho19
            obtain ⟨_, _, hx⟩ := ho19.slice
            cases hx
            generalize hls : (scan D.openLog.2.b).1 = ls at *
            have ho0 := ho19.base (Nat.zero_le _)
            have z0 := hk8.size
            have z8 := hk12.size
            have z15 := hk15.size
            have z19 := hk19.size
            have s15 := lt_of_get g15
            have nps : ¬ (p = s ∨ v.ownBlock = some p) := by
              rintro (h | h)
              · subst h; obtain ⟨x, hx, _⟩ := hd15; rw [g15] at hx; cases hx
              · exact hvp h
            have nqs : ¬ (q = s ∨ v.ownBlock = some q) := by
              rintro (h | h)
              · subst h; unfold LogAt at hq15; rw [hq15] at g15; cases g15
              · exact hS15.2.2.ne hq15 (by simp) h
            have hnT : ∀ e, e ≠ 92 → e ≠ 49 → NoT e (fun k => k = s ∨ v.ownBlock = some k) w19 := by
              rintro e h1 h2 b' cs f (rfl | hb') hc
              · rw [hS19.1] at hc; cases hc; exact h1 rfl
              · obtain ⟨cs', hcs⟩ := hS19.2.2.type hb'
                rw [hcs] at hc; cases hc; exact h2 rfl
            refine ⟨_, _, _, rfl, J14 w19 s t v (.pointer (some ⟨q, 0, none⟩)) (st0 rs) ls, M39 ls, ⟨0, rfl, Nat.zero_le _, .refl _ _, hS19⟩, ?_⟩
            rintro i w24 ⟨k, rfl, hk, hk24, hS24⟩
            unfold B14_l1
            refine ifB_dec (fun hlt => ?_) (fun hlt => ?_)
            · have hk' : k < ls.length := by omega
              obtain ⟨q2, rfl, a', c', hc, ho⟩ := (ho0.keep hk24 (hnT 22 (by decide) (by decide)) (hnT 5 (by decide) (by decide))).at hk'
              have hi1 : IntKind.i64.wrap ((k : Int) + 1) = ((k + 1 : Nat) : Int) := by rw [wrap64 (by omega) (by omega)]; omega
              have hrk := hrec _ (List.getElem_mem hk')
              unfold recOk at hrk
              refine need_and (dec (by omega)) (dec (by omega)) ?_
              rw [nn_some, show (k : Int).toNat * 1 = k by omega]
              obtain ⟨f1, f2, f3, f4, f5⟩ := pool_facts hok hall hcc
              refine ⟨_, _, _, hc, (K45 hS24 (by rw [fold_len]; show (bares (pool rs)).length ≤ _; rw [bares_len]; omega) ho.bs (by omega) (by omega)).mono fun e w2 hp => ?_⟩
              cases e with
              | returned r =>
                obtain ⟨rfl, hk2, hS2⟩ := hp
                refine ⟨rfl, ⟨k + 1, hi1, hk', hk24.trans hk2 (fun _ _ h => h), by rw [fold_take hk']; exact hS2⟩, ?_⟩
                show ls.length - (IntKind.i64.wrap ((k : Int) + 1)).toNat < ls.length - (k : Int).toNat
                rw [hi1]; omega
              | _ => exact hp
            · have hk' : k = ls.length := by omega
              subst hk'
              rw [List.take_length] at hS24
              have hdz := (hd15.keep hk19 nf .no).keep hk24 nps (hnT 5 (by decide) (by decide))
              refine ⟨?_, hdz, .inr ⟨h0, s, rfl, t, v, q, hS24, hk24.at (hk19.at hq15 nf) nqs, hdz, by omega, fun k hk => by have := (hm.base_le k hk).1; omega, hb⟩⟩
              refine ⟨fun k => k = p, ?_, fun k h => by subst h; exact ⟨hb, hPB⟩⟩
              refine ((hk012.trans hk15 (fun _ _ h => h.elim)).trans hk19 (fun _ _ h => h.elim)).trans hk24 ?_
              intro k hk h
              rcases h with h | h
              · omega
              · have := (hm.base_le k h).1; omega
          | _ => exact hp
      | _ => exact hp
  | _ => exact hp
end Go.Lf
end
