/- Part 23 of the lemmas that a proof leans on; no claim is made here. By an AI agent. -/
import Derived.Test.YtofhodpdfbnkiaaGreatLfD13
import Derived.Test.YtofhodpdfbnkiaaGreatLfD15
import Derived.Test.YtofhodpdfbnkiaaGreatLfD18
import Derived.Test.YtofhodpdfbnkiaaGreatLfD21
import Derived.Test.YtofhodpdfbnkiaaGreatLfD22
import Derived.Laws.IdiomRangeMap
section
set_option linter.unusedVariables false
set_option linter.unusedSimpArgs false
/-! Pools, with no program in sight. -/
namespace Go.Lf
open Go Go.Proofs
def inU (rs : List Rg) (a : Int) : Prop := ∃ r ∈ rs, (r.lo : Int) ≤ a ∧ a ≤ (r.hi : Int)
structure PoolOf (rs P : List Rg) : Prop where
  ok : ∀ r ∈ P, r.lo ≤ r.hi
  gap : P.Pairwise fun r s => r.hi + 1 < s.lo
  mem : ∀ a, inU P a ↔ inU rs a
theorem inU_cons {r : Rg} {rs : List Rg} {a : Int} : inU (r :: rs) a ↔ ((r.lo : Int) ≤ a ∧ a ≤ (r.hi : Int)) ∨ inU rs a := by simp [inU]
theorem inU_append {rs ss : List Rg} {a : Int} : inU (rs ++ ss) a ↔ inU rs a ∨ inU ss a := by
  simp only [inU, List.mem_append]
  constructor
  · rintro ⟨r, h | h, h'⟩
    · exact .inl ⟨r, h, h'⟩
    · exact .inr ⟨r, h, h'⟩
  · rintro (⟨r, h, h'⟩ | ⟨r, h, h'⟩)
    · exact ⟨r, .inl h, h'⟩
    · exact ⟨r, .inr h, h'⟩
theorem inU_nil {a : Int} : ¬ inU [] a := by simp [inU]
theorem inU_ge {p : Rg} {P : List Rg} {a : Int} (hg : ∀ s ∈ P, p.hi + 1 < s.lo) (h : inU P a) : (p.hi : Int) + 1 < a := by
  obtain ⟨r, hr, h1, h2⟩ := h
  have := hg r hr
  omega
theorem pool_same : ∀ {P Q : List Rg}, (∀ r ∈ P, r.lo ≤ r.hi) → (∀ r ∈ Q, r.lo ≤ r.hi) → (P.Pairwise fun r s => r.hi + 1 < s.lo) → (Q.Pairwise fun r s => r.hi + 1 < s.lo) → (∀ a, inU P a ↔ inU Q a) → P = Q
  | [], [], _, _, _, _, _ => rfl
  | [], q :: Q, _, hq, _, _, h => by
    have := (h q.lo).2 (inU_cons.2 (.inl ⟨Int.le_refl _, by have := hq q (.head _); omega⟩))
    exact (inU_nil this).elim
  | p :: P, [], hp, _, _, _, h => by
    have := (h p.lo).1 (inU_cons.2 (.inl ⟨Int.le_refl _, by have := hp p (.head _); omega⟩))
    exact (inU_nil this).elim
  | p :: P, q :: Q, hp, hq, gp, gq, h => by
    have gp' := List.pairwise_cons.1 gp
    have gq' := List.pairwise_cons.1 gq
    have hp0 := hp p (.head _)
    have hq0 := hq q (.head _)
    have l1 : (q.lo : Int) ≤ p.lo := by
      rcases inU_cons.1 ((h p.lo).1 (inU_cons.2 (.inl ⟨Int.le_refl _, by omega⟩))) with h1 | h1
      · exact h1.1
      · have := inU_ge gq'.1 h1; omega
    have l2 : (p.lo : Int) ≤ q.lo := by
      rcases inU_cons.1 ((h q.lo).2 (inU_cons.2 (.inl ⟨Int.le_refl _, by omega⟩))) with h1 | h1
      · exact h1.1
      · have := inU_ge gp'.1 h1; omega
    have m1 : ¬ (p.hi : Int) < q.hi := by
      intro hlt
      rcases inU_cons.1 ((h (p.hi + 1)).2 (inU_cons.2 (.inl ⟨by omega, by omega⟩))) with h1 | h1
      · omega
      · have := inU_ge gp'.1 h1; omega
    have m2 : ¬ (q.hi : Int) < p.hi := by
      intro hlt
      rcases inU_cons.1 ((h (q.hi + 1)).1 (inU_cons.2 (.inl ⟨by omega, by omega⟩))) with h1 | h1
      · omega
      · have := inU_ge gq'.1 h1; omega
    have e : p = q := by
      obtain ⟨a, b⟩ := p; obtain ⟨c, d⟩ := q
      simp only at *
      rw [Rg.mk.injEq]; omega
    subst e
    rw [pool_same (P := P) (Q := Q) (fun r hr => hp r (.tail _ hr)) (fun r hr => hq r (.tail _ hr)) gp'.2 gq'.2 fun a => ?_]
    constructor
    · intro ha
      rcases inU_cons.1 ((h a).1 (inU_cons.2 (.inr ha))) with h1 | h1
      · have := inU_ge gp'.1 ha; omega
      · exact h1
    · intro ha
      rcases inU_cons.1 ((h a).2 (inU_cons.2 (.inr ha))) with h1 | h1
      · have := inU_ge gq'.1 ha; omega
      · exact h1
theorem PoolOf.uniq {rs P Q : List Rg} (h : PoolOf rs P) (h' : PoolOf rs Q) : P = Q := pool_same h.ok h'.ok h.gap h'.gap fun a => (h.mem a).trans (h'.mem a).symm
/-- a range more, none of whose addresses lies below the ranges' lows -/
def joined (out : List Rg) (r : Rg) : List Rg :=
  match out.getLast? with
  | none => [r]
  | some l => if (r.lo : Int) ≤ l.hi + 1 then out.dropLast ++ [⟨l.lo, max l.hi r.hi⟩] else out ++ [r]
theorem joined_snoc (I : List Rg) (l r : Rg) : joined (I ++ [l]) r = if (r.lo : Int) ≤ l.hi + 1 then I ++ [⟨l.lo, max l.hi r.hi⟩] else I ++ [l] ++ [r] := by
  unfold joined; rw [List.getLast?_concat]; simp only [List.dropLast_concat]
theorem joined_ok {rs out : List Rg} {r : Rg} (h : PoolOf rs out) (hr : r.lo ≤ r.hi) (hb : ∀ x ∈ out, x.lo ≤ r.lo) : PoolOf (rs ++ [r]) (joined out r) ∧ ∀ x ∈ joined out r, x.lo ≤ r.lo := by
  rcases List.eq_nil_or_concat out with rfl | ⟨I, l, rfl⟩
  · refine ⟨⟨by simpa [joined] using hr, by simp [joined], fun a => ?_⟩, by simp [joined]⟩
    rw [inU_append, ← h.mem a]; simp [joined, inU]
  · rw [List.concat_eq_append] at *
    have hl := h.ok l (by simp)
    have hlr := hb l (by simp)
    rw [joined_snoc]
    have hg := List.pairwise_append.1 h.gap
    split
    · rename_i hle
      refine ⟨⟨?_, ?_, fun a => ?_⟩, ?_⟩
      · intro x hx
        rcases List.mem_append.1 hx with hx | hx
        · exact h.ok x (List.mem_append_left _ hx)
        · rw [List.mem_singleton.1 hx]; simp only; omega
      · refine List.pairwise_append.2 ⟨hg.1, by simp, ?_⟩
        intro x hx y hy
        rw [List.mem_singleton.1 hy]
        exact hg.2.2 x hx l (by simp)
      · rw [inU_append, inU_append, ← h.mem a, inU_append]
        simp only [inU, List.mem_singleton, exists_eq_left]
        constructor
        · rintro (h1 | h1)
          · exact .inl (.inl h1)
          · by_cases h2 : a ≤ l.hi
            · exact .inl (.inr ⟨h1.1, h2⟩)
            · refine .inr ⟨by omega, by have := h1.2; omega⟩
        · rintro ((h1 | h1) | h1)
          · exact .inl h1
          · exact .inr ⟨h1.1, by omega⟩
          · exact .inr ⟨by omega, by omega⟩
      · intro x hx
        rcases List.mem_append.1 hx with hx | hx
        · exact hb x (List.mem_append_left _ hx)
        · rw [List.mem_singleton.1 hx]; exact hlr
    · rename_i hle
      refine ⟨⟨?_, ?_, fun a => ?_⟩, ?_⟩
      · intro x hx
        rcases List.mem_append.1 hx with hx | hx
        · exact h.ok x hx
        · rw [List.mem_singleton.1 hx]; exact hr
      · refine List.pairwise_append.2 ⟨h.gap, by simp, ?_⟩
        intro x hx y hy
        rw [List.mem_singleton.1 hy]
        rcases List.mem_append.1 hx with hx | hx
        · have h1 := hg.2.2 x hx l (by simp)
          have := h.ok x (List.mem_append_left _ hx)
          omega
        · rw [List.mem_singleton.1 hx]; omega
      · rw [inU_append, inU_append (rs := rs), h.mem a]
      · intro x hx
        rcases List.mem_append.1 hx with hx | hx
        · exact hb x hx
        · rw [List.mem_singleton.1 hx]; exact Nat.le_refl _
def joinAll (s : List Rg) : List Rg := s.foldl joined []
theorem joinAll_take {s : List Rg} {k : Nat} (h : k < s.length) : joinAll (s.take (k + 1)) = joined (joinAll (s.take k)) s[k] := by
  unfold joinAll
  rw [List.take_add_one, List.getElem?_eq_getElem h, List.foldl_append]
  rfl
theorem joinAll_ok {s : List Rg} (hs : s.Pairwise fun r x => r.lo ≤ x.lo) (hok : ∀ r ∈ s, r.lo ≤ r.hi) : ∀ k, k ≤ s.length → PoolOf (s.take k) (joinAll (s.take k)) ∧ ∀ x ∈ joinAll (s.take k), ∀ y ∈ s.drop k, x.lo ≤ y.lo
  | 0, _ => ⟨⟨by simp [joinAll], by simp [joinAll], by simp [joinAll]⟩, by simp [joinAll]⟩
  | k + 1, hk => by
    obtain ⟨h1, h2⟩ := joinAll_ok hs hok k (by omega)
    have hd : s.drop k = s[k] :: s.drop (k + 1) := List.drop_eq_getElem_cons (by omega)
    rw [joinAll_take (by omega)]
    have := joined_ok h1 (hok _ (List.getElem_mem (by omega : k < s.length))) (fun x hx => h2 x hx _ (by rw [hd]; exact .head _))
    rw [show s.take (k + 1) = s.take k ++ [s[k]] by rw [List.take_add_one, List.getElem?_eq_getElem (by omega)]; rfl]
    refine ⟨this.1, fun x hx y hy => Nat.le_trans (this.2 x hx) ?_⟩
    have hs' := List.Pairwise.sublist (List.drop_sublist k s) hs
    rw [hd] at hs'
    exact (List.pairwise_cons.1 hs').1 y hy
theorem inU_perm {s rs : List Rg} (h : s.Perm rs) (a : Int) : inU s a ↔ inU rs a := by
  simp only [inU, h.mem_iff]
theorem PoolOf.perm {s rs P : List Rg} (h : PoolOf s P) (hp : s.Perm rs) : PoolOf rs P := ⟨h.ok, h.gap, fun a => (h.mem a).trans (inU_perm hp a)⟩
theorem pool_sorted {s rs : List Rg} (hp : s.Perm rs) (hs : s.Pairwise fun r x => r.lo ≤ x.lo) (hok : ∀ r ∈ rs, r.lo ≤ r.hi) : PoolOf rs (joinAll s) := by
  have := (joinAll_ok hs (fun r hr => hok r (hp.mem_iff.1 hr)) s.length (Nat.le_refl _)).1
  rw [List.take_length] at this
  exact this.perm hp
/-- the pool of some ranges -/
def pool (rs : List Rg) : List Rg := joinAll (rs.mergeSort fun r x => decide (r.lo ≤ x.lo))
theorem pool_ok {rs : List Rg} (hok : ∀ r ∈ rs, r.lo ≤ r.hi) : PoolOf rs (pool rs) := by
  refine pool_sorted (List.mergeSort_perm _ _) ?_ hok
  have := List.pairwise_mergeSort (le := fun (r x : Rg) => decide (r.lo ≤ x.lo)) (fun a b c h1 h2 => by simp at *; omega) (fun a b => by simp; omega) rs
  exact this.imp (by simp)
def Rg.addrs (r : Rg) : List Nat := List.range' r.lo (r.hi + 1 - r.lo)
def addrs (P : List Rg) : List Nat := P.flatMap Rg.addrs
theorem addrs_len {P : List Rg} (h : ∀ r ∈ P, r.lo ≤ r.hi) : ((addrs P).length : Int) = cnt P := by
  induction P with
  | nil => rfl
  | cons r P ih =>
    have h1 := ih fun x hx => h x (.tail _ hx)
    have h2 := h r (.head _)
    unfold addrs cnt at *
    rw [List.flatMap_cons, List.length_append, List.map_cons, List.sum_cons, ← h1]
    unfold Rg.addrs Rg.size
    rw [List.length_range']
    omega
theorem addrs_mem {P : List Rg} {a : Nat} : a ∈ addrs P ↔ inU P a := by
  unfold addrs inU Rg.addrs
  simp only [List.mem_flatMap, List.mem_range'_1]
  constructor
  · rintro ⟨r, h1, h2⟩; exact ⟨r, h1, by omega, by omega⟩
  · rintro ⟨r, h1, h2⟩; exact ⟨r, h1, by omega⟩
theorem addrs_sorted {P : List Rg} (h : P.Pairwise fun r s => r.hi + 1 < s.lo) : (addrs P).Pairwise (· < ·) := by
  induction P with
  | nil => exact .nil
  | cons r P ih =>
    obtain ⟨h1, h2⟩ := List.pairwise_cons.1 h
    unfold addrs
    rw [List.flatMap_cons]
    refine List.pairwise_append.2 ⟨List.pairwise_lt_range', ih h2, ?_⟩
    intro x hx y hy
    have hx := List.mem_range'_1.1 hx
    have hy := inU_ge h1 (addrs_mem.1 hy)
    omega
end Go.Lf
end

section
set_option linter.unusedVariables false
set_option linter.unusedSimpArgs false
namespace Go.Lf
open Go Go.Proofs
/-- the least address from one on -/
def NextIs (rs : List Rg) (a x : Int) : Prop := (x = -1 ∧ ∀ y, inU rs y → y < a) ∨ (a ≤ x ∧ inU rs x ∧ ∀ y, inU rs y → a ≤ y → x ≤ y)
def J110 (rs : List Rg) (a : Int) (w : World) (vs : List Value) (w' : World) : Prop :=
  match vs with
  | [.int _ x, .int _ i] => Kp no w w' ∧ ∃ k : Nat, i = k ∧ k ≤ rs.length ∧ NextIs (rs.take k) a x
  | _ => False
def M110 (rs : List Rg) (vs : List Value) (_ : World) : Nat := match vs with | [_, .int _ i] => rs.length - i.toNat | _ => 0
theorem Rgs.len {w : World} {a : Option Addr} {n c : Nat} {rs : List Rg} (hv : Rgs w (.slice a n c) rs) : n = rs.length := by
  obtain ⟨_, ⟨hx, h0⟩ | ⟨p, c', hx, _⟩⟩ := hv
  · cases hx; omega
  · cases hx; rfl
theorem inU_bounds {rs : List Rg} (hok : ∀ r ∈ rs, r.ok) {x : Int} (h : inU rs x) : 0 ≤ x ∧ x < 4294967296 := by
  obtain ⟨r, hr, h1, h2⟩ := h
  have := (hok r hr).2
  omega
theorem inU_take {rs : List Rg} {k : Nat} (h : k < rs.length) {y : Int} : inU (rs.take (k + 1)) y ↔ inU (rs.take k) y ∨ ((rs[k].lo : Int) ≤ y ∧ y ≤ rs[k].hi) := by
  rw [List.take_add_one, List.getElem?_eq_getElem h]
  simp only [Option.toList]
  rw [inU_append]
  simp [inU]
theorem K110 {w : World} {a : Option Addr} {n c : Nat} {rs : List Rg} {fr : Int} (hv : Rgs w (.slice a n c) rs) (hok : ∀ r ∈ rs, r.ok) (hl : rs.length ≤ 1048576) (hfr : 0 ≤ fr) :
    Calls Cz.P 110 #[.slice a n c, .int .i64 fr] w (CP (fun r w' => Kp no w w' ∧ ∃ x : Int, r = .int .i64 x ∧ NextIs rs fr x) (fun _ _ => False)) := by
  refine C110 ?_
  have hn := hv.len
  subst hn
  unfold B110
  refine ⟨J110 rs fr w, M110 rs, ⟨.refl _ _, 0, rfl, Nat.zero_le _, .inl ⟨rfl, by simp [inU]⟩⟩, ?_⟩
  rintro x i w1 ⟨hk, k, rfl, hkl, hx⟩
  unfold B110_l1
  have hv1 : Rgs w1 (.slice a rs.length c) rs := hv.keep hk (fun _ _ _ _ => nf)
  refine ifB_dec (fun h => ?_) (fun h => ?_)
  · have hk' : k < rs.length := by omega
    obtain ⟨q, rfl, hc0, hc1⟩ := hv1.at hk'
    have hro' := hok _ (List.getElem_mem hk')
    unfold Rg.ok at hro'
    have hi1 : IntKind.i64.wrap ((k : Int) + 1) = ((k + 1 : Nat) : Int) := by rw [wrap64 (by omega) (by omega)]; omega
    have hm : rs.length - (IntKind.i64.wrap ((k : Int) + 1)).toNat < rs.length - (k : Int).toNat := by rw [hi1]; omega
    refine need_and (dec (by omega)) (dec (by omega)) ?_
    rw [nn_some, show (k : Int).toNat * 2 = k * 2 by omega]
    refine ⟨_, hc0, need_and (dec (by omega)) (dec (by omega)) ?_⟩
    rw [nn_some]
    refine ⟨_, hc1, ?_⟩
    rw [wrap64 (x := (rs[k].lo : Int)) (by omega) (by omega), wrap64 (x := (rs[k].hi : Int)) (by omega) (by omega)]
    unfold B110_j1 B110_j2
    have hlow : ∃ low : Int, low = (if fr > (rs[k].lo : Int) then fr else (rs[k].lo : Int)) ∧ fr ≤ low ∧ (rs[k].lo : Int) ≤ low ∧ (low = fr ∨ low = rs[k].lo) := ⟨_, rfl, by split <;> omega, by split <;> omega, by split <;> simp⟩
    obtain ⟨low, hle, h1, h2, h3⟩ := hlow
    rw [← hle, wrap64 (x := (rs[k].lo : Int)) (by omega) (by omega), ← hle]
    have put : low ≤ rs[k].hi → (x < 0 ∨ low < x) → NextIs (rs.take (k + 1)) fr low := by
      intro h4 h5
      refine .inr ⟨h1, (inU_take hk').2 (.inr ⟨h2, h4⟩), fun y hy hay => ?_⟩
      rcases (inU_take hk').1 hy with hy | hy
      · rcases hx with ⟨_, hx⟩ | ⟨hx1, hx2, hx3⟩
        · have := hx y hy; omega
        · have := hx3 y hy hay; omega
      · omega
    have stay : (¬ low ≤ rs[k].hi ∨ ¬ (x < 0 ∨ low < x)) → NextIs (rs.take (k + 1)) fr x := by
      intro h4
      rcases hx with ⟨hx, hx'⟩ | ⟨hx1, hx2, hx3⟩
      · refine .inl ⟨hx, fun y hy => ?_⟩
        rcases (inU_take hk').1 hy with hy | hy
        · exact hx' y hy
        · omega
      · refine .inr ⟨hx1, (inU_take hk').2 (.inl hx2), fun y hy hay => ?_⟩
        rcases (inU_take hk').1 hy with hy | hy
        · exact hx3 y hy hay
        · omega
    refine ifB_dec (fun h4 => ifB_dec (fun h5 => ifB_true.2 ⟨⟨hk, k + 1, hi1, hk', put h4 (.inl h5)⟩, hm⟩) (fun h5 => ifB_dec (fun h6 => ⟨⟨hk, k + 1, hi1, hk', put h4 (.inr h6)⟩, hm⟩) (fun h6 => ⟨⟨hk, k + 1, hi1, hk', stay (.inr (by omega))⟩, hm⟩))) (fun h4 => ifB_false.2 ⟨⟨hk, k + 1, hi1, hk', stay (.inl h4)⟩, hm⟩)
  · have hk' : k = rs.length := by omega
    subst hk'
    rw [List.take_length] at hx
    exact ⟨hk, x, rfl, hx⟩
def J111 (rs : List Rg) (a : Int) (w : World) (vs : List Value) (w' : World) : Prop :=
  match vs with
  | [.int _ i] => w' = w ∧ ∃ k : Nat, i = k ∧ k ≤ rs.length ∧ ¬ inU (rs.take k) a
  | _ => False
def M111 (rs : List Rg) (vs : List Value) (_ : World) : Nat := match vs with | [.int _ i] => rs.length - i.toNat | _ => 0
theorem K111 {w : World} {a : Option Addr} {n c : Nat} {rs : List Rg} {x : Int} (hv : Rgs w (.slice a n c) rs) (hok : ∀ r ∈ rs, r.ok) (hl : rs.length ≤ 1048576) :
    Calls Cz.P 111 #[.slice a n c, .int .i64 x] w (CP (fun r w' => w' = w ∧ ∃ b : Bool, r = .bool b ∧ (b = true ↔ inU rs x)) (fun _ _ => False)) := by
  refine C111 ?_
  have hn := hv.len
  subst hn
  unfold B111
  refine ⟨J111 rs x w, M111 rs, ⟨rfl, 0, rfl, Nat.zero_le _, by simp [inU]⟩, ?_⟩
  rintro i w1 ⟨rfl, k, rfl, hkl, hx⟩
  unfold B111_l1
  refine ifB_dec (fun h => ?_) (fun h => ?_)
  · have hk' : k < rs.length := by omega
    obtain ⟨q, rfl, hc0, hc1⟩ := hv.at hk'
    have hro' := hok _ (List.getElem_mem hk')
    unfold Rg.ok at hro'
    have hi1 : IntKind.i64.wrap ((k : Int) + 1) = ((k + 1 : Nat) : Int) := by rw [wrap64 (by omega) (by omega)]; omega
    have hm : rs.length - (IntKind.i64.wrap ((k : Int) + 1)).toNat < rs.length - (k : Int).toNat := by rw [hi1]; omega
    refine need_and (dec (by omega)) (dec (by omega)) ?_
    rw [nn_some, show (k : Int).toNat * 2 = k * 2 by omega]
    refine ⟨_, hc0, ?_⟩
    rw [wrap64 (x := (rs[k].lo : Int)) (by omega) (by omega)]
    unfold B111_j1
    have stay : ¬ ((rs[k].lo : Int) ≤ x ∧ x ≤ rs[k].hi) → ¬ inU (rs.take (k + 1)) x := fun h h' => ((inU_take hk').1 h').elim hx h
    refine ifB_dec (fun h4 => need_and (dec (by omega)) (dec (by omega)) ?_) (fun h4 => ifB_false.2 ⟨⟨rfl, k + 1, hi1, hk', stay (by omega)⟩, hm⟩)
    rw [nn_some]
    refine ⟨_, hc1, ?_⟩
    rw [wrap64 (x := (rs[k].hi : Int)) (by omega) (by omega)]
    exact ifB_dec (fun h5 => ⟨rfl, true, rfl, fun _ => ⟨_, List.getElem_mem hk', by omega, h5⟩, fun _ => rfl⟩) (fun h5 => ⟨⟨rfl, k + 1, hi1, hk', stay (by omega)⟩, hm⟩)
  · have hk' : k = rs.length := by omega
    subst hk'
    rw [List.take_length] at hx
    exact ⟨rfl, false, rfl, by simp, fun h => (hx h).elim⟩
end Go.Lf
end

section
set_option linter.unusedVariables false
set_option linter.unusedSimpArgs false
/-! Rows of structs. -/
namespace Go.Lf
open Go Go.Proofs
structure SEnc (α : Type) where
  k : Nat
  enc : α → List Value
  pos : 0 < k
  len : ∀ x, (enc x).length = k
  one : ∀ x, ∀ v ∈ enc x, v.oneCell' = true
def RdS {α : Type} (S : SEnc α) (w : World) (v : Value) (xs : List α) : Prop := Sl w S.k v xs.length (xs.flatMap S.enc)
def OwnS {α : Type} (S : SEnc α) (e : TypeId) (w : World) (base : Nat) (v : Value) (xs : List α) : Prop := w.ownsRow base e S.k v xs.length (xs.flatMap S.enc)
theorem flat_len {α : Type} (S : SEnc α) (xs : List α) : (xs.flatMap S.enc).length = xs.length * S.k := by
  induction xs with
  | nil => simp
  | cons x xs ih => rw [List.flatMap_cons, List.length_append, S.len, ih, List.length_cons, Nat.succ_mul, Nat.add_comm]
theorem flat_get {α : Type} (S : SEnc α) : ∀ (xs : List α) (i : Nat) (h : i < xs.length) (j : Nat) (u : Value), (S.enc xs[i])[j]? = some u → (xs.flatMap S.enc)[i * S.k + j]? = some u
  | x :: xs, 0, h, j, u, hu => by
    rw [List.flatMap_cons, Nat.zero_mul, Nat.zero_add, List.getElem?_append_left]
    · exact hu
    · exact (List.getElem?_eq_some_iff.1 hu).1
  | x :: xs, i + 1, h, j, u, hu => by
    rw [List.flatMap_cons, Nat.succ_mul, List.getElem?_append_right (by rw [S.len]; omega), S.len, show i * S.k + S.k + j - S.k = i * S.k + j by omega]
    exact flat_get S xs i (by simpa using h) j u hu
theorem flat_set {α : Type} (S : SEnc α) : ∀ (xs : List α) (i : Nat) (h : i < xs.length) (j : Nat) (u : Value) (y : α), j < S.k → S.enc y = (S.enc xs[i]).set j u → (xs.set i y).flatMap S.enc = (xs.flatMap S.enc).set (i * S.k + j) u
  | x :: xs, 0, h, j, u, y, hj, hu => by
    rw [List.set_cons_zero, List.flatMap_cons, List.flatMap_cons, Nat.zero_mul, Nat.zero_add, List.set_append_left _ _ (by rw [S.len]; exact hj), hu]
    rfl
  | x :: xs, i + 1, h, j, u, y, hj, hu => by
    rw [List.set_cons_succ, List.flatMap_cons, List.flatMap_cons, Nat.succ_mul, List.set_append_right _ _ (by rw [S.len]; omega), S.len, show i * S.k + S.k + j - S.k = i * S.k + j by omega]
    rw [flat_set S xs i (by simpa using h) j u y hj hu]
theorem OwnS.rd {α : Type} {S : SEnc α} {e : TypeId} {w : World} {base : Nat} {v : Value} {xs : List α} (h : OwnS S e w base v xs) : RdS S w v xs := Sl.of_own h
theorem RdS.keepN {α : Type} {S : SEnc α} {w w' : World} {v : Value} {xs : List α} (h : RdS S w v xs) (hk : Kp no w w') : RdS S w' v xs := h.keep hk (fun _ _ _ _ => nf)
theorem RdS.len {α : Type} {S : SEnc α} {w : World} {a : Option Addr} {n c : Nat} {xs : List α} (h : RdS S w (.slice a n c) xs) : n = xs.length := by
  obtain ⟨_, ⟨hx, h0⟩ | ⟨p, c', hx, _⟩⟩ := h
  · cases hx; omega
  · cases hx; rfl
theorem RdS.at {α : Type} {S : SEnc α} {w : World} {a : Option Addr} {n c i : Nat} {xs : List α} (h : RdS S w (.slice a n c) xs) (hi : i < xs.length) :
    ∃ b o, a = some ⟨b, o, none⟩ ∧ ∀ j u, (S.enc xs[i])[j]? = some u → w.cell? ⟨b, o + i * S.k + j, none⟩ = some u := by
  obtain ⟨hl, ⟨hx, h0⟩ | ⟨⟨b, o, sp⟩, c', hx, h1, h2, h3, h4⟩⟩ := h
  · omega
  · cases hx
    simp only at h3
    subst h3
    refine ⟨b, o, rfl, fun j u hu => ?_⟩
    have := h4 _ _ (flat_get S xs i hi j u hu)
    rw [addk] at this
    rwa [Nat.add_assoc]
theorem OwnS.keep {α : Type} {S : SEnc α} {e : TypeId} {w w' : World} {base : Nat} {v : Value} {xs : List α} {T : Nat → Prop} (h : OwnS S e w base v xs) (k : Kp T w w') (hn : NoT e T w) : OwnS S e w' base v xs := own_keep h k hn
theorem OwnS.kept {α : Type} {S : SEnc α} {e : TypeId} {w w' : World} {base : Nat} {v : Value} {xs : List α} {T : Nat → Prop} (h : OwnS S e w base v xs) (k : Kp T w w') (hn : ∀ b, v.ownBlock = some b → ¬ T b) : OwnS S e w' base v xs := own_kept h k hn
theorem OwnS.base {α : Type} {S : SEnc α} {e : TypeId} {w : World} {base base' : Nat} {v : Value} {xs : List α} (h : OwnS S e w base v xs) (hb : base' ≤ base) : OwnS S e w base' v xs := own_base h hb
theorem OwnS.base_le {α : Type} {S : SEnc α} {e : TypeId} {w : World} {base : Nat} {v : Value} {xs : List α} (h : OwnS S e w base v xs) : ∀ k, v.ownBlock = some k → base ≤ k ∧ k < w.heap.size := World.ownsRow.lt h
theorem OwnS.slice {α : Type} {S : SEnc α} {e : TypeId} {w : World} {base : Nat} {v : Value} {xs : List α} (h : OwnS S e w base v xs) : ∃ a c, v = .slice a xs.length c := own_slice h
theorem OwnS.nil {α : Type} (S : SEnc α) (e : TypeId) (w : World) (base : Nat) : OwnS S e w base (.slice none 0 0) [] := World.ownsRow_nil w base e S.k
theorem OwnS.type {α : Type} {S : SEnc α} {e : TypeId} {w : World} {base : Nat} {v : Value} {xs : List α} (h : OwnS S e w base v xs) {b : Nat} (hb : v.ownBlock = some b) : ∃ cs, w.heap[b]? = some (.cells cs e (0, 0)) := by
  obtain ⟨_, ⟨h0, _⟩ | ⟨g, cap, cur, hx, _, hg, _⟩⟩ := h
  · rw [h0] at hb; cases hb
  · rw [hx] at hb; simp [Value.ownBlock] at hb; subst hb; exact ⟨_, hg⟩
theorem OwnS.noT {α : Type} {S : SEnc α} {e e' : TypeId} {w : World} {base : Nat} {v : Value} {xs : List α} (h : OwnS S e w base v xs) (hne : e ≠ e') : NoT e' (fun k => v.ownBlock = some k) w := by
  intro b cs f hb hc
  obtain ⟨cs', hg⟩ := h.type hb
  rw [hg] at hc; cases hc; exact hne rfl
/-- a block of another kind is not the row's -/
theorem OwnS.ne {α : Type} {S : SEnc α} {e : TypeId} {w : World} {base : Nat} {v : Value} {xs : List α} (h : OwnS S e w base v xs) {b : Nat} {o : Obj} (hb : w.heap[b]? = some o) (ho : ∀ cs, o ≠ .cells cs e (0, 0)) : ¬ v.ownBlock = some b := by
  intro hv
  obtain ⟨cs, hg⟩ := h.type hv
  rw [hg] at hb; cases hb; exact ho _ rfl
theorem fill_set : ∀ (l : List Value) (j : Nat) (arr : Array Value), j + l.length = arr.size → (l.zipIdx j).foldl (fun cs (x : Value × Nat) => cs.setIfInBounds (0 + x.2) x.1) arr = (arr.toList.take j ++ l).toArray
  | [], j, arr, h => by
    simp only [List.zipIdx_nil, List.foldl_nil, List.append_nil]
    rw [List.take_of_length_le (by simp at h ⊢; omega)]
  | v :: l, j, arr, h => by
    simp only [List.length_cons] at h
    rw [List.zipIdx_cons, List.foldl_cons, fill_set l (j + 1) _ (by rw [Array.size_setIfInBounds]; omega)]
    apply congrArg List.toArray
    simp only [Array.toList_setIfInBounds, Nat.zero_add]
    have hk' : j < arr.toList.length := by simp; omega
    rw [List.take_add_one, List.take_set_of_le (Nat.le_refl _), List.getElem?_set_self hk']
    simp
theorem builtS {P : Program} {t e : TypeId} {size bytes : Nat} (T : ElemT P t e size bytes) (hs0 : 0 < size) (hs1 : size ≤ 16777216) (cs : List Value) (hcs : cs.length = size) (w : World) :
    (Instr.buildSlice t 1 #[(0, .agg cs.toArray)]).run P w = .ok (.slice (some ⟨w.heap.size, 0, none⟩) 1 1) (w.alloc (.cells cs.toArray e)) := by
  obtain ⟨i, z, hi, hz, h2, h3, h4⟩ := T.get
  have hf : ∀ cells : Array Value, cells.size = size → Instr.fill (fun i => some (i * size, size)) cells [(0, .agg cs.toArray)] = some cs.toArray := by
    intro cells hc
    simp only [Instr.fill, Value.cells, Nat.zero_mul]
    rw [if_neg (by simp; omega)]
    have := fill_set cs 0 cells (by omega)
    rw [List.take_zero, List.nil_append] at this
    rw [← Array.foldl_toList, Array.toList_zipIdx]
    exact congrArg some this
  have hn : ¬ (1 * size > 2 ^ 24) := by simp; omega
  unfold Instr.buildSlice
  simp only [Sem.run_bind, run_underlying T.ht, Result.andThen_ok, sizeOf, typeInfo, run_program, hi, h2, Sem.run_pure, hn, if_false]
  rw [if_neg (by omega)]
  simp only [Sem.run_bind, Sem.run_pure, Result.andThen_ok, zeroValue, typeInfo, run_program, hi, hz]
  rw [hf _ (by simp)]
  simp [newRow]
theorem SlS.lit {w : World} {b k : Nat} {cs : List Value} {e : TypeId} (h : w.heap[b]? = some (.cells cs.toArray e (0, 0))) (hn : cs.length = k) : Sl w k (.slice (some ⟨b, 0, none⟩) 1 1) 1 cs :=
  ⟨by omega, .inr ⟨_, _, rfl, Nat.le_refl _, by unfold maxLen; omega, rfl, fun j u hj => by rw [addk, cell_of h]; simpa using hj⟩⟩
/-- append of one struct -/
theorem appE {α : Type} {S : SEnc α} {t e ty : TypeId} {bytes : Nat} (T : ElemT Cz.P t e S.k bytes) (hk : S.k ≤ 1000) (hby : bytes ≤ 1000) {w : World} {base : Nat} {v : Value} {xs : List α} (h : OwnS S e w base v xs) (x : α) {cs : Array Value} (hcs : cs = (S.enc x).toArray) (hb : base ≤ w.heap.size) (hn : xs.length ≤ 1073741824) :
    ∃ a1 n1 c1 w1, (Instr.buildSlice t 1 #[(0, .agg cs)]).run Cz.P w = .ok (.slice a1 n1 c1) w1 ∧ ∃ a2 n2 c2 w2, (Builtin.append_ #[t, t] ty #[v, .slice a1 n1 c1]).run Cz.P w1 = .ok (.slice a2 n2 c2) w2 ∧
      OwnS S e w2 base (.slice a2 n2 c2) (xs ++ [x]) ∧ Kp (fun k => v.ownBlock = some k) w w2 := by
  subst hcs
  have hp := S.pos
  refine ⟨_, _, _, _, builtS T hp (by omega) (S.enc x) (S.len x) w, ?_⟩
  have hk1 : Kp no w (w.alloc (.cells (S.enc x).toArray e)) := .alloc _ _ _
  have hg := get_alloc_new w (.cells (S.enc x).toArray e)
  have h' : OwnS S e (w.alloc (.cells (S.enc x).toArray e)) base v xs := h.keep hk1 .no
  obtain ⟨a2, n2, c2, w2, hr, ho2, hk2⟩ := T.app (ty := ty) hp h' (m := 1) (SlS.lit hg (S.len x)) (S.one x) (by unfold maxLen; omega) (by
    have : (xs.length + 1) * bytes ≤ (xs.length + 1) * 1000 := Nat.mul_le_mul_left _ hby
    omega) (Nat.le_trans hb hk1.size)
  refine ⟨_, _, _, _, hr, ?_, hk1.then hk2⟩
  unfold OwnS
  rw [List.length_append, List.flatMap_append, List.flatMap_singleton]
  exact ho2
/-- one cell of an element is written -/
theorem OwnS.set {α : Type} {S : SEnc α} {e : TypeId} {w : World} {base : Nat} {a : Option Addr} {n c : Nat} {xs : List α} (h : OwnS S e w base (.slice a n c) xs) {i : Nat} (hi : i < xs.length) {j : Nat} (hj : j < S.k) {u : Value} {y : α} (hy : S.enc y = (S.enc xs[i]).set j u) {K : World → Prop}
    (hK : ∀ w', Kp (fun k => (Value.slice a n c).ownBlock = some k) w w' → OwnS S e w' base (.slice a n c) (xs.set i y) → K w') :
    ∃ b, a = some ⟨b, 0, none⟩ ∧ st w ⟨b, i * S.k + j, none⟩ u K := by
  have hn : n = xs.length := by obtain ⟨a', c', hx⟩ := h.slice; cases hx; rfl
  subst hn
  obtain ⟨hl, ⟨h0, hn0⟩ | ⟨g, cap, cur, hx, hb, hg, h1, h2, h3, h4⟩⟩ := h
  · omega
  · cases hx
    have hlt : i * S.k + j < cur.size := by
      rw [h3]
      have : (i + 1) * S.k ≤ c * S.k := Nat.mul_le_mul_right _ (by omega)
      rw [Nat.succ_mul] at this
      omega
    refine ⟨g, rfl, st_i hg hlt fun w' hk' hg' => hK w' (hk'.mono fun k _ hkk => by simp [Value.ownBlock, hkk]) ?_⟩
    unfold OwnS
    rw [flat_set S xs i hi j u y hj hy, List.length_set]
    refine ⟨by rw [List.length_set]; exact hl, .inr ⟨g, c, _, rfl, hb, hg', h1, h2, by simpa using h3, ?_⟩⟩
    rw [Array.toList_setIfInBounds, ← h4, List.take_set]
def SR : SEnc Rg := ⟨2, rgv, by omega, fun x => rfl, fun x v hv => by simp [rgv] at hv; rcases hv with rfl | rfl <;> rfl⟩
theorem E23 : ElemT Cz.P 23 96 2 8 := ⟨by kernel_rfl, by kernel_rfl⟩
abbrev OwnR := OwnS SR 96
theorem OwnR.rgs {w : World} {base : Nat} {v : Value} {rs : List Rg} (h : OwnR w base v rs) : Rgs w v rs := h.rd
end Go.Lf
end

section
set_option linter.unusedVariables false
set_option linter.unusedSimpArgs false
/-! The table's map. -/
namespace Go.Lf
open Go Go.Proofs
def SL : SEnc Ls := ⟨8, fun x => x.cells.toList, by omega, fun x => rfl, fun x v hv => by simp [Ls.cells] at hv; rcases hv with rfl | rfl | rfl | rfl | rfl | rfl | rfl | rfl <;> rfl⟩
theorem U108 : Cz.P.underlying 108 = some (.map 47 49) := by kernel_rfl
theorem U47 : Cz.P.underlying 47 = some (.int .u32) := by kernel_rfl
theorem Z49 (w : World) : (zeroValue 49).run Cz.P w = .ok (bare 0 0 0).val w := by kernel_rfl
def ent (p : Ls × Nat) : MapEntry := ⟨.int .u32 p.1.addr, p.1.val, p.2⟩
def ents (T : List Ls) : Array MapEntry := (T.zipIdx.map ent).toArray
def MapAt (w : World) (b : Nat) (T : List Ls) : Prop := w.heap[b]? = some (.map (ents T) T.length)
/-- the place of an address -/
def look (a : Int) : List Ls → Nat → Option (Nat × Ls)
  | [], _ => none
  | x :: T, i => if x.addr = a then some (i, x) else look a T (i + 1)
theorem look_some {a : Int} : ∀ {T : List Ls} {i j : Nat} {x : Ls}, look a T i = some (j, x) → i ≤ j ∧ T[j - i]? = some x ∧ x.addr = a
  | y :: T, i, j, x, h => by
    unfold look at h
    split at h
    · cases h; refine ⟨Nat.le_refl _, by simp, by assumption⟩
    · obtain ⟨h1, h2, h3⟩ := look_some h
      refine ⟨by omega, ?_, h3⟩
      rw [show j - i = (j - (i + 1)) + 1 by omega, List.getElem?_cons_succ]; exact h2
theorem look_none {a : Int} : ∀ {T : List Ls} {i : Nat}, look a T i = none → ∀ x ∈ T, x.addr ≠ a
  | y :: T, i, h, x, hx => by
    unfold look at h
    split at h
    · cases h
    · rcases List.mem_cons.1 hx with rfl | hx
      · assumption
      · exact look_none h x hx
theorem look_shift (a : Int) : ∀ (T : List Ls) (i k : Nat), look a T (i + k) = (look a T i).map fun p => (p.1 + k, p.2)
  | [], _, _ => rfl
  | x :: T, i, k => by
    unfold look
    split
    · rfl
    · rw [show i + k + 1 = i + 1 + k by omega, look_shift a T (i + 1) k]
theorem findNow_ents (a : Int) : ∀ (T : List Ls) (i k : Nat), Instr.findNow (.int .u32) (.int .u32 a) ((T.zipIdx k).map ent) i = some ((look a T i).map fun p => (p.1, p.2.val))
  | [], _, _ => rfl
  | x :: T, i, k => by
    rw [List.zipIdx_cons, List.map_cons]
    unfold Instr.findNow look
    have : Instr.sameNow (.int .u32) (.int .u32 a) (ent (x, k)).key = some (a == x.addr) := by simp [ent, Instr.sameNow]
    rw [this]
    by_cases h : x.addr = a
    · subst h; simp [ent]
    · rw [if_neg h]
      have : (a == x.addr) = false := by simp [Ne.symm h]
      rw [this]
      exact findNow_ents a T (i + 1) (k + 1)
theorem isKey (a : Int) : MapKept.IsKey (.int .u32) (.int .u32 a) := by first | rfl | simp [MapKept.IsKey] | trivial
theorem run_makeMap (w : World) : (Instr.makeMap 108 none).run Cz.P w = .ok (.map (some w.heap.size)) (w.alloc (.map #[] 0)) := by
  simp [Instr.makeMap, newObj, Sem.run]
theorem run_lookup {w : World} {b : Nat} {T : List Ls} (h : MapAt w b T) (a : Int) :
    (Instr.lookup 108 (.map (some b)) (.int .u32 a) true).run Cz.P w = .ok (.tuple #[(match look a T 0 with | some p => p.2 | none => bare 0 0 0).val, .bool (look a T 0).isSome]) w := by
  have hf := findNow_ents a T 0 0
  unfold MapAt at h
  cases hl : look a T 0 with
  | none =>
    rw [hl] at hf
    simp [Instr.lookup, run_underlying U108, MapKept.run_getObj_map h, MapKept.run_checkKey U47 (isKey a), MapKept.run_findKey U47 (show Instr.findNow (.int .u32) (.int .u32 a) (ents T).toList 0 = some none from hf), Result.andThen, Z49 w]
  | some p =>
    rw [hl] at hf
    simp [Instr.lookup, run_underlying U108, MapKept.run_getObj_map h, MapKept.run_checkKey U47 (isKey a), MapKept.run_findKey U47 (show Instr.findNow (.int .u32) (.int .u32 a) (ents T).toList 0 = some (some (p.1, p.2.val)) from hf), Result.andThen]
theorem heap_put {w : World} {b : Nat} {o : Obj} : ({ w with heap := w.heap.setIfInBounds b o } : World) = w.putObj b o := rfl
/-- an address more -/
theorem run_mapNew {w : World} {b : Nat} {T : List Ls} (h : MapAt w b T) {x : Ls} (hn : look x.addr T 0 = none) :
    (Instr.mapUpdate 108 (.map (some b)) (.int .u32 x.addr) x.val).run Cz.P w = .ok () (w.putObj b (.map (ents (T ++ [x])) (T ++ [x]).length)) := by
  have hf := findNow_ents x.addr T 0 0
  unfold MapAt at h
  rw [hn] at hf
  have e : (ents T).push { key := .int .u32 x.addr, val := x.val, born := T.length } = ents (T ++ [x]) := by
    unfold ents
    rw [List.zipIdx_append, List.map_append]
    simp [ent]
  simp [Instr.mapUpdate, run_underlying U108, MapKept.run_getObj_map h, MapKept.run_checkKey U47 (isKey x.addr), MapKept.run_findKey U47 (show Instr.findNow (.int .u32) (.int .u32 x.addr) (ents T).toList 0 = some none from hf), MapKept.run_setObj_map _ h, Result.andThen, e]
  rfl
theorem ents_set {T : List Ls} {j : Nat} {x : Ls} (hj : j < T.length) (ha : T[j].addr = x.addr) : (ents T).modify j (fun e => { e with key := .int .u32 x.addr, val := x.val }) = ents (T.set j x) := by
  unfold ents
  apply Array.toList_inj.1
  rw [Array.toList_modify]
  apply List.ext_getElem?
  intro i
  rw [List.getElem?_modify]
  simp only [List.getElem?_map, List.getElem?_zipIdx, List.getElem?_set, Nat.zero_add]
  by_cases h : j = i
  · subst h
    simp [hj, ent]
  · simp [h]
/-- another value at an address -/
theorem run_mapSet {w : World} {b : Nat} {T : List Ls} (h : MapAt w b T) {x : Ls} {j : Nat} {y : Ls} (hn : look x.addr T 0 = some (j, y)) :
    (Instr.mapUpdate 108 (.map (some b)) (.int .u32 x.addr) x.val).run Cz.P w = .ok () (w.putObj b (.map (ents (T.set j x)) (T.set j x).length)) := by
  have hf := findNow_ents x.addr T 0 0
  unfold MapAt at h
  rw [hn] at hf
  obtain ⟨_, h2, h3⟩ := look_some hn
  rw [Nat.sub_zero] at h2
  obtain ⟨hj, h2'⟩ := List.getElem?_eq_some_iff.1 h2
  have e := ents_set (x := x) hj (by rw [h2']; exact h3)
  have hk : ((ents T)[j]?.map (·.key)).getD (.int .u32 x.addr) = .int .u32 x.addr := by
    unfold ents
    simp [List.getElem?_zipIdx, h2, ent, h3]
  simp only [Instr.mapUpdate, Sem.run_bind, run_underlying U108, MapKept.run_getObj_map h, MapKept.run_checkKey U47 (isKey x.addr), MapKept.run_findKey U47 (show Instr.findNow (.int .u32) (.int .u32 x.addr) (ents T).toList 0 = some (some (j, y.val)) from hf), Result.andThen, hk, MapKept.run_keyThatStays (isKey x.addr), MapKept.run_setObj_map _ h, e]
  rw [List.length_set]
  rfl
theorem ents_mem {T : List Ls} {e : MapEntry} (h : e ∈ (ents T).toList) : e.born < T.length ∧ ∃ x, T[e.born]? = some x ∧ e = ent (x, e.born) := by
  unfold ents at h
  rw [List.toList_toArray] at h
  obtain ⟨⟨x, i⟩, h1, rfl⟩ := List.mem_map.1 h
  have := List.mem_zipIdx_iff_getElem?.1 h1
  simp only [Nat.sub_zero] at this
  exact ⟨(List.getElem?_eq_some_iff.1 this).1, x, this, rfl⟩
theorem ents_born (T : List Ls) : (ents T).toList.map (·.born) = List.range T.length := by
  unfold ents
  rw [List.toList_toArray, List.map_map]
  have : ((·.born) ∘ ent) = (Prod.snd : Ls × Nat → Nat) := rfl
  rw [this, List.zipIdx_map_snd, List.range_eq_range']
theorem run_rangeM {w : World} {b : Nat} {T : List Ls} (h : MapAt w b T) :
    (Instr.range 108 (.map (some b))).run Cz.P w = .ok (.pointer (some ⟨w.heap.size, 0, none⟩)) (w.alloc (.mapIter (some b) T.length #[] T.length)) := run_range_map w 108 47 49 b _ _ U108 h
/-- a step -/
theorem run_nextM {w : World} {b r : Nat} {T : List Ls} {seen : Array Nat} (h : MapAt w b T) (hr : w.heap[r]? = some (.mapIter (some b) T.length seen T.length)) :
    ((leftOf (ents T) seen).size = 0 ∧ (Instr.next (.pointer (some ⟨r, 0, none⟩)) false 0).run Cz.P w = .ok (.tuple #[.bool false]) w) ∨
    ∃ i x w', T[i]? = some x ∧ ent (x, i) ∈ (leftOf (ents T) seen).toList ∧ (Instr.next (.pointer (some ⟨r, 0, none⟩)) false 0).run Cz.P w = .ok (.tuple #[.bool true, .int .u32 x.addr, x.val]) w' ∧ Kp (fun k => k = r) w w' ∧
      w'.heap[r]? = some (.mapIter (some b) T.length (seen.push i) T.length) := by
  have hold : ∀ x ∈ (ents T).toList, x.born < T.length := fun x hx => (ents_mem hx).1
  unfold MapAt at h
  simp only [Instr.next, getObj, Sem.run_bind, Sem.run, hr, h, Result.andThen, next_test_false seen (ents T) T.length T.length hold (Nat.le_refl _), Bool.false_eq_true, if_false]
  have hmem : ∀ x ∈ (leftOf (ents T) seen).toList, x.born < T.length := fun x hx => hold x (mem_left hx).1
  have hsub : ∀ x ∈ (leftOf (ents T) seen).toList, x ∈ (ents T).toList := fun x hx => (mem_left hx).1
  unfold leftOf at hmem hsub ⊢
  generalize Array.filter (fun e => !seen.contains e.born) (ents T) = L at hmem hsub ⊢
  have e1 : L.filter (fun x => decide (x.born < T.length)) = L := Array.filter_eq_self.2 (fun x hx => by simpa using hmem x (by simpa using hx))
  have e2 : L.filter (fun x => decide (x.born ≥ T.length)) = #[] := by
    rw [Array.filter_eq_empty_iff]
    intro x hx
    have := hmem x (by simpa using hx)
    simp
    omega
  simp only [e1, e2, Array.append_empty]
  by_cases h0 : L.size = 0
  · left
    have : L = #[] := Array.eq_empty_of_size_eq_zero h0
    subst this
    refine ⟨rfl, ?_⟩
    simp [choose, Sem.run, Question.forced]
  · right
    have hne : L.isEmpty = false := by simp [Array.isEmpty, h0]
    simp only [hne, Bool.false_eq_true, if_false, Array.empty_append, Array.size_map]
    have hch : ∃ (j : Nat) (w1 : World), j < L.size ∧ Kp no w w1 ∧ w1.heap = w.heap ∧ (choose (Question.mapNext L.size)).run Cz.P w = .ok j w1 := by
      by_cases hf : L.size ≤ 1
      · exact ⟨0, w, by omega, .refl _ _, rfl, by simp [choose, Sem.run, Question.forced, hf]⟩
      · exact ⟨_, w.drew, Nat.mod_lt _ (by omega), .drew _ _, rfl, by
          simp only [choose, Sem.run, Question.forced, decide_eq_true_eq, hf, if_false, Question.cut]
          rfl⟩
    obtain ⟨j, w1, hj, hk, hh, hrun⟩ := hch
    have hm : L[j] ∈ L.toList := by simp
    obtain ⟨_, x, hx, he⟩ := ents_mem (hsub _ hm)
    have hr1 : w1.heap[r]? = some (.mapIter (some b) T.length seen T.length) := by rw [hh]; exact hr
    refine ⟨L[j].born, x, w1.putObj r (.mapIter (some b) T.length (seen.push L[j].born) T.length), hx, ?_, ?_, hk.then (.put _ _ _), get_put_same hr1⟩
    · rw [← he]; exact hm
    · simp only [hrun, Array.getElem?_map, Array.getElem?_eq_getElem hj, Option.map_some, setObj, Sem.run_bind, Sem.run, hr1, Result.andThen]
      rw [he]
      rfl
theorem run_entryM {w : World} {b r : Nat} {T : List Ls} {seen : Array Nat} {i : Nat} {x : Ls} (h : MapAt w b T) (hr : w.heap[r]? = some (.mapIter (some b) T.length (seen.push i) T.length)) (hx : T[i]? = some x) :
    (Instr.entry (.pointer (some ⟨r, 0, none⟩))).run Cz.P w = .ok (.tuple #[.int .u32 x.addr, x.val]) w := by
  unfold MapAt at h
  have hn : ((ents T).toList.map (·.born)).Nodup := by rw [ents_born]; exact List.nodup_range
  have hm : ent (x, i) ∈ (ents T).toList := by
    unfold ents
    rw [List.toList_toArray]
    exact List.mem_map.2 ⟨(x, i), List.mem_zipIdx_iff_getElem?.2 (by simpa using hx), rfl⟩
  have hf : (ents T).find? (·.born == i) = some (ent (x, i)) := by rw [← Array.find?_toList]; exact find_born (ent (x, i)) (ents T).toList hn hm
  simp only [Instr.entry, getObj, Sem.run_bind, Sem.run, hr, h, Result.andThen, Array.back?_push, bne_self_eq_false, Bool.false_eq_true, if_false, hf]
  rfl
end Go.Lf
end
