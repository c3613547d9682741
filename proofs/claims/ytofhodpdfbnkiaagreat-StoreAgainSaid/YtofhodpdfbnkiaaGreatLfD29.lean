/- Part 29 of the lemmas that a proof leans on; no claim is made here. By an AI agent. -/
import Derived.Test.YtofhodpdfbnkiaaGreatLfD09
import Derived.Test.YtofhodpdfbnkiaaGreatLfD10
import Derived.Test.YtofhodpdfbnkiaaGreatLfD11
import Derived.Test.YtofhodpdfbnkiaaGreatLfD12
import Derived.Test.YtofhodpdfbnkiaaGreatLfD13
import Derived.Test.YtofhodpdfbnkiaaGreatLfD14
import Derived.Test.YtofhodpdfbnkiaaGreatLfD15
import Derived.Test.YtofhodpdfbnkiaaGreatLfD16
import Derived.Test.YtofhodpdfbnkiaaGreatLfD27
import Derived.Test.YtofhodpdfbnkiaaGreatLfD28
section
set_option linter.unusedVariables false
set_option linter.unusedSimpArgs false
namespace Go.Lf
open Go Go.Proofs
/-- what a round of collecting may write -/
def Soft (w : World) (k : Nat) : Prop := ∃ o, w.heap[k]? = some o ∧ ((∃ cs, o = .cells cs 49 (0, 0)) ∨ (∃ cs, o = .cells cs 59 (0, 0)) ∨ ∃ r, o = .loop r)
theorem Soft.ne {w : World} {S : Nat → Prop} (hS : ∀ k, S k → Soft w k) {b : Nat} {o : Obj} (hb : w.heap[b]? = some o) (h1 : ∀ cs, o ≠ .cells cs 49 (0, 0)) (h2 : ∀ cs, o ≠ .cells cs 59 (0, 0)) (h3 : ∀ r, o ≠ .loop r) : ¬ S b := by
  intro h
  obtain ⟨o', ho, h⟩ := hS b h
  rw [hb] at ho
  cases ho
  rcases h with ⟨cs, h⟩ | ⟨cs, h⟩ | ⟨r, h⟩
  · exact h1 cs h
  · exact h2 cs h
  · exact h3 r h
def Seen (T : List Ls) (seen : Array Nat) (d : List Ls) : Prop := seen.toList.Nodup ∧ (∀ i ∈ seen.toList, i < T.length) ∧ d = seen.toList.map fun i => T.getD i (bare 0 0 0)
theorem Seen.end {T : List Ls} {seen : Array Nat} {d : List Ls} (h : Seen T seen d) (h0 : (leftOf (ents T) seen).size = 0) : d.Perm T := by
  obtain ⟨h1, h2, rfl⟩ := h
  have hall := all_seen (ents T) seen h0
  have hp : seen.toList.Perm (List.range T.length) := by
    refine (List.perm_ext_iff_of_nodup h1 List.nodup_range).2 fun i => ⟨fun h => List.mem_range.2 (h2 i h), fun h => ?_⟩
    have hi := List.mem_range.1 h
    have hm : ent (T[i], i) ∈ (ents T).toList := by
      unfold ents
      rw [List.toList_toArray]
      exact List.mem_map.2 ⟨(T[i], i), List.mem_zipIdx_iff_getElem?.2 (by simp [hi]), rfl⟩
    have := hall _ hm
    rw [Array.contains_iff_mem] at this
    exact Array.mem_toList_iff.2 this
  have := hp.map fun i => T.getD i (bare 0 0 0)
  refine this.trans ?_
  have e : (List.range T.length).map (fun i => T.getD i (bare 0 0 0)) = T := by
    apply List.ext_getElem
    · simp
    · intro i h1 h2
      simp [List.getD_eq_getElem?_getD, h2]
  rw [e]
theorem Seen.len {T : List Ls} {seen : Array Nat} {d : List Ls} (h : Seen T seen d) : d.length ≤ T.length := by
  obtain ⟨h1, h2, rfl⟩ := h
  have hp : seen.toList.Perm ((List.range T.length).filter fun i => decide (i ∈ seen.toList)) := by
    refine (List.perm_ext_iff_of_nodup h1 (List.Pairwise.filter _ List.nodup_range)).2 fun i => ?_
    rw [List.mem_filter, List.mem_range, decide_eq_true_iff]
    exact ⟨fun h => ⟨h2 i h, h⟩, fun h => h.2⟩
  rw [List.length_map, hp.length_eq]
  refine Nat.le_trans (List.length_filter_le _ _) ?_
  rw [List.length_range]
  exact Nat.le_refl _
theorem Seen.push {T : List Ls} {seen : Array Nat} {d : List Ls} (h : Seen T seen d) {i : Nat} {x : Ls} (hx : T[i]? = some x) (hl : ent (x, i) ∈ (leftOf (ents T) seen).toList) : Seen T (seen.push i) (d ++ [x]) := by
  obtain ⟨h1, h2, rfl⟩ := h
  have hc := (mem_left hl).2
  have hn : i ∉ seen.toList := by
    intro h
    have : seen.contains i = true := by rw [Array.contains_iff_mem]; simpa using h
    rw [show (ent (x, i)).born = i from rfl, this] at hc
    cases hc
  refine ⟨?_, ?_, ?_⟩
  · rw [Array.toList_push]
    refine List.nodup_append.2 ⟨h1, by simp, ?_⟩
    intro a ha b hb hab
    rw [List.mem_singleton.1 hb] at hab
    exact hn (hab ▸ ha)
  · intro j hj
    rw [Array.toList_push] at hj
    rcases List.mem_append.1 hj with hj | hj
    · exact h2 j hj
    · rw [List.mem_singleton.1 hj]; exact (List.getElem?_eq_some_iff.1 hx).1
  · rw [Array.toList_push, List.map_append]
    simp [List.getD_eq_getElem?_getD, hx]
def J94 (w0 : World) (r p b q3 : Nat) (T : List Ls) (I : List Ls → World → Prop) (vs : List Value) (w' : World) : Prop :=
  match vs with | [] => ∃ seen d, w'.heap[r]? = some (.mapIter (some b) T.length seen T.length) ∧ MapAt w' b T ∧ w'.heap[q3]? = some (.cells #[.func (.func 56) #[] #[]] 101 (0, 0)) ∧ Seen T seen d ∧ I d w' ∧ w0.heap.size ≤ w'.heap.size | _ => False
def M94 (r : Nat) (T : List Ls) (_ : List Value) (w' : World) : Nat := (leftOf (ents T) (w'.iterSeen r)).size
theorem iterSeen_of {w : World} {r : Nat} {a : Option Nat} {b c : Nat} {s : Array Nat} (h : w.heap[r]? = some (.mapIter a b s c)) : w.iterSeen r = s := by
  unfold World.iterSeen; rw [h]
/-- the leases of a table, one by one, in any order -/
theorem K94 {w : World} {p q2 q3 b : Nat} {T : List Ls} {v1 : Value} {I : List Ls → World → Prop}
    (h2 : w.heap[q2]? = some (.cells #[.pointer (some ⟨p, 0, none⟩)] 60 (0, 0))) (h3 : w.heap[q3]? = some (.cells #[.func (.func 56) #[] #[]] 101 (0, 0))) (hp : w.heap[p]? = some (.cells #[.map (some b)] 110 (0, 0))) (hm : MapAt w b T)
    (hI : I [] w) (hIk : ∀ d w' w'' S', I d w' → Kp S' w' w'' → (∀ k, S' k → w.heap.size ≤ k ∧ ∃ x1 x2 x3 x4, w'.heap[k]? = some (.mapIter x1 x2 x3 x4)) → I d w'')
    (hy : ∀ d x w', x ∈ T → d.length ≤ T.length → w.heap.size ≤ w'.heap.size → I d w' → vCall Cz v1 [x.val] w' (CP (fun r w'' => r = .bool true ∧ (∃ S', Kp S' w' w'' ∧ ∀ k, S' k → Soft w' k) ∧ I (d ++ [x]) w'') (fun _ _ => False))) :
    Calls Cz.P 94 #[v1, .pointer (some ⟨q2, 0, none⟩), .pointer (some ⟨q3, 0, none⟩)] w (CP (fun r w' => r = .tuple #[] ∧ ∃ d, d.Perm T ∧ I d w') (fun _ _ => False)) := by
  refine C94 ?_
  unfold B94
  refine ⟨_, cl h2 rfl, ?_⟩
  rw [nn_some]
  have hka : Kp no w (w.alloc (.mapIter (some b) T.length #[] T.length)) := .alloc _ _ _
  have hnone : ∀ {S : Prop} {k : Nat}, no k → S := fun h => h.elim
  refine ⟨_, cl hp rfl, _, _, run_rangeM hm, J94 w w.heap.size p b q3 T I, M94 w.heap.size T, ⟨#[], [], get_alloc_new _ _, hka.at hm nf, hka.at h3 nf, ⟨by simp, by simp, by simp⟩, hIk _ _ _ _ hI hka (fun k h => h.elim), hka.size⟩, ?_⟩
  rintro w12 ⟨seen, d, hr, hm12, h312, hs, hI12, hsz⟩
  unfold B94_l1
  have sr := lt_of_get hr
  rcases run_nextM hm12 hr with ⟨h0, hrun⟩ | ⟨i, x, w13, hx, hl, hrun, hk13, hr13⟩
  · exact ⟨_, _, hrun, .inl ⟨rfl, rfl, d, hs.end h0, hI12⟩⟩
  · have hnb : ¬ b = w.heap.size := by
      intro h; unfold MapAt at hm12; rw [h, hr] at hm12; cases hm12
    have hn3 : ¬ q3 = w.heap.size := by
      intro h; rw [h, hr] at h312; cases h312
    have hm13 : MapAt w13 b T := hk13.at hm12 hnb
    have h313 := hk13.at h312 hn3
    have hI13 := hIk _ _ _ _ hI12 hk13 (fun k h => by subst h; exact ⟨Nat.le_refl _, _, _, _, _, hr⟩)
    have hxT : x ∈ T := List.mem_of_getElem? hx
    refine ⟨_, _, hrun, .inr ⟨_, _, rfl, _, _, _, _, _, _, _, _, _, _, run_entryM hm13 hr13 hx, nw_i fun k27 w28 e28 hk28 g28 => stL x (x := bare 0 0 0) g28 fun w36 hk36 g36 => ?_⟩⟩
    have hk1336 : Kp no w13 w36 := hk28.trans hk36 (fun k hk h => by omega)
    have z13 := hk13.size
    have z36 := hk1336.size
    have h336 := hk1336.at h313 nf
    have hr36 := hk1336.at hr13 nf
    have hm36 : MapAt w36 b T := hk1336.at hm13 nf
    have hI36 := hIk _ _ _ _ hI13 hk1336 (fun k h => h.elim)
    refine ⟨_, cl h336 rfl, rd8 (x := x) g36 (need_iff.2 ⟨has56, ?_⟩)⟩
    show Calls Cz.P 56 #[x.val] w36 _
    refine (K56 x w36).mono fun e w47 hp => ?_
    cases e with
    | returned rr =>
      obtain ⟨rfl, hk47⟩ := hp
      have hI47 := hIk _ _ _ _ hI36 hk47 (fun k h => h.elim)
      have z47 := hk47.size
      refine ⟨_, rfl, ifB_true.2 (rd8 (x := x) (hk47.at g36 nf) (vCall_mono (hy d x w47 hxT hs.len (by omega) hI47) fun e w58 hp => ?_))⟩
      cases e with
      | returned rr =>
        obtain ⟨rfl, ⟨S', hk58, hS'⟩, hI58⟩ := hp
        refine ⟨_, rfl, ?_⟩
        unfold B94_j1
        have hr47 := hk47.at hr36 nf
        have hm47 : MapAt w47 b T := hk47.at hm36 nf
        have h347 := hk47.at h336 nf
        have z58 := hk58.size
        have hr58 := hk58.at hr47 (Soft.ne hS' hr47 (by simp) (by simp) (by simp))
        refine ifB_false.2 ⟨⟨seen.push i, d ++ [x], hr58, hk58.at hm47 (Soft.ne hS' hm47 (by simp) (by simp) (by simp)), hk58.at h347 (Soft.ne hS' h347 (by simp) (by simp) (by simp)), hs.push hx hl, hI58, by omega⟩, ?_⟩
        unfold M94
        rw [iterSeen_of hr58, iterSeen_of hr]
        exact left_shrinks (ents T) seen (ent (x, i)) hl
      | _ => exact hp
    | _ => exact hp
def I130 (k6 l : Nat) (rc : Loop) (w4 : World) (d : List Ls) (w' : World) : Prop :=
  Kp (fun b => b = k6 ∨ b = l) w4 w' ∧ (∃ v, w'.heap[k6]? = some (.cells #[v] 59 (0, 0)) ∧ OwnS SL 49 w' w4.heap.size v d) ∧ LoopAt w' l rc .ready none
/-- all of a table, sorted -/
theorem K22 {w : World} {p : Nat} {T : List Ls} (h : TabAt w p T) (hl : T.length ≤ 1048576) (hs : T.Pairwise fun x y => x.addr < y.addr) :
    Calls Cz.P 22 #[.pointer (some ⟨p, 0, none⟩)] w (CP (fun r w' => Kp no w w' ∧ ∃ a n c, r = .slice a n c ∧ RdT SL 49 w' (.slice a n c) T) (fun _ _ => False)) := by
  refine C22 ?_
  unfold B22
  refine C55 ?_
  unfold B55
  refine nw_i fun k4 w1 e4 hk1 g4 => nw_i fun k6 w2 e6 hk2 g6 => ⟨_, rfl, ?_⟩
  refine C54 ?_
  unfold B54
  refine nw_i fun k5 w3 e5 hk3 g5 => ?_
  refine C89 ?_
  unfold B89
  refine C118 ?_
  unfold B118
  refine C130 ?_
  unfold B130
  refine nw_i fun kv w4 ev hk4 gv => nw_i fun D w5 eD hk5 gD rc hrc => nw_i fun l9 w6 e9 hk6 g9 => ?_
  have z1 := hk1.size
  have z2 := hk2.size
  have z3 := hk3.size
  have z4 := hk4.size
  have z5 := hk5.size
  have z6 := hk6.size
  have s4 := lt_of_get g4
  have s6 := lt_of_get g6
  have s5 := lt_of_get g5
  have sv := lt_of_get gv
  have sD := lt_of_get gD
  have s9 := lt_of_get g9
  have hk46 : Kp no w3 w6 := hk4.then (hk5.then hk6)
  have hk06 : Kp no w w6 := hk1.then (hk2.then (hk3.then hk46))
  have q4 := hk46.at ((hk2.then hk3).at g4 nf) nf
  have q6 := hk46.at (hk3.at g6 nf) nf
  have q5 := hk46.at g5 nf
  have qv := (hk5.then hk6).at gv nf
  have qD := hk6.at gD nf
  obtain ⟨b, hp, hm⟩ := h
  have sb := lt_of_get hm
  have sp := lt_of_get hp
  have hp6 := hk06.at hp nf
  have hm6 : MapAt w6 b T := hk06.at hm nf
  have hL : LoopAt w6 l9 rc .ready none := LoopAt.of g9 hrc
  refine need_iff.2 ⟨by rfl, ?_⟩
  show Calls Cz.P 94 #[.func (.yield l9) #[] #[], .pointer (some ⟨k4, 0, none⟩), .pointer (some ⟨k6, 0, none⟩)] w6 _
  refine (K94 (I := I130 kv l9 rc w6) q4 q6 hp6 hm6 ⟨.refl _ _, ⟨_, qv, .nil _ _ _ _⟩, hL⟩ ?_ ?_).mono ?_
  · rintro d w' w'' S' ⟨h1, ⟨v, h2, h3⟩, h4⟩ hk hS
    have nv : ∀ {k o}, w'.heap[k]? = some o → (∀ a b c d, o ≠ .mapIter a b c d) → ¬ S' k := by
      intro k o ho hne hs'
      obtain ⟨_, x1, x2, x3, x4, hx⟩ := hS k hs'
      rw [ho] at hx; cases hx; exact hne _ _ _ _ rfl
    refine ⟨h1.trans hk (fun k hk h => by have := (hS k h).1; omega), ⟨v, hk.at h2 (nv h2 (by simp)), h3.keep hk ?_⟩, h4.keep hk (nv h4 (by simp))⟩
    intro k cs f hk' hc
    exact nv hc (by simp) hk'
  · rintro d x w' hxT hdlen hsz ⟨h1, ⟨v, h2, h3⟩, h4⟩
    show Rnd Cz.P l9 #[x.val] w' _
    refine B130_r1_rnd hrc h4 ?_
    unfold B130_r1
    refine nw_i fun k13 w10 e13 hk10 g13 => stL x (x := bare 0 0 0) g13 fun w11 hk11 g11 => ?_
    have hk46' : Kp no w' w11 := hk10.trans hk11 (fun b hb h => by omega)
    have z46 := hk46'.size
    have z10 := hk10.size
    have h2' := hk46'.at h2 nf
    have h3' := h3.keep hk46' .no
    have h4' := h4.keep hk46' nf
    refine ⟨rfl, none, h4', ?_⟩
    have hkb : Kp (fun k => k = l9) w11 (putLoop w11 l9 rc .busy none) := LoopAt.kp
    have hLb : LoopAt (putLoop w11 l9 rc .busy none) l9 rc .busy none := h4'.put
    have h3b : OwnS SL 49 (putLoop w11 l9 rc .busy none) w6.heap.size v d := h3'.keep hkb h4'.noT
    generalize putLoop w11 l9 rc .busy none = w21 at hkb hLb h3b
    have s13 := lt_of_get g11
    have hb2 := hkb.at h2' (by omega)
    have hb13 := hkb.at g11 (by omega)
    have zb := hkb.size
    obtain ⟨av, cv, rfl⟩ := h3b.slice
    have hdl : d.length ≤ 1073741824 := by omega
    obtain ⟨a1, n1, c1, w28, hr1, a2, n2, c2, w32, hr2, ho2, hk32⟩ := appE (ty := 59) E59 (by decide) (by decide) h3b x (cs := x.cells) rfl (by omega) hdl
    have n6 : ¬ (Value.slice av d.length cv).ownBlock = some kv := fun h => by have := h3b.base_le kv h; omega
    have n9 : ¬ (Value.slice av d.length cv).ownBlock = some l9 := h3b.ne hLb (by simp)
    have c6 := hk32.at hb2 n6
    refine ⟨_, _, _, cl hb2 rfl, rd8 (x := x) hb13 ⟨_, _, _, _, hr1, _, _, _, _, hr2, st_i c6 (by simp) fun w33 hk33 g33 => ⟨rfl, none, (hLb.keep hk32 n9).keep hk33 (by omega), rfl, ?_⟩⟩⟩
    have hL33 := (hLb.keep hk32 n9).keep hk33 (by omega)
    have hkp : Kp (fun k => k = l9) w33 (putLoop w33 l9 rc .ready none) := LoopAt.kp
    have hkk : Kp (fun k => k = kv ∨ k = l9 ∨ (Value.slice av d.length cv).ownBlock = some k) w' (putLoop w33 l9 rc .ready none) :=
      ((((hk46'.then hkb).mono (S' := fun k => k = kv ∨ k = l9 ∨ (Value.slice av d.length cv).ownBlock = some k) (fun _ _ h => .inr (.inl h))).trans hk32 (fun k _ h => .inr (.inr h))).trans hk33 (fun _ _ h => .inl h)).trans hkp (fun _ _ h => .inr (.inl h))
    refine ⟨⟨_, hkk, ?_⟩, ?_, ⟨_, hkp.at g33 (by omega), ?_⟩, hL33.put⟩
    · rintro k (rfl | rfl | hk)
      · exact ⟨_, h2, .inr (.inl ⟨_, rfl⟩)⟩
      · exact ⟨_, h4, .inr (.inr ⟨_, rfl⟩)⟩
      · obtain ⟨cs, hcs⟩ := h3.type hk
        exact ⟨_, hcs, .inl ⟨_, rfl⟩⟩
    · exact h1.trans hkk (fun k hk h => by
        rcases h with h | h | h
        · exact .inl h
        · exact .inr h
        · have := (h3.base_le k h).1; omega)
    · exact (ho2.keep hk33 (.one c6 (by decide))).keep hkp hL33.noT
  · intro e w' hp
    cases e with
    | returned r =>
      obtain ⟨rfl, d, hperm, h1, ⟨v, h2, h3⟩, h4⟩ := hp
      refine ⟨.ready, none, h4, by simp, ?_⟩
      have hkp : Kp (fun k => k = l9) w' (putLoop w' l9 rc .exhausted none) := LoopAt.kp
      obtain ⟨av, cv, rfl⟩ := h3.slice
      have hk30 : Kp (fun b => b = kv ∨ b = l9) w6 (putLoop w' l9 rc .exhausted none) := h1.trans hkp (fun _ _ h => .inr h)
      have qD' := hk30.at qD (by omega)
      have hkD : Kp (fun k => k = D) (putLoop w' l9 rc .exhausted none) ((putLoop w' l9 rc .exhausted none).putObj D (.deferred none)) := .put _ _ _
      have h3' : OwnS SL 49 ((putLoop w' l9 rc .exhausted none).putObj D (.deferred none)) w6.heap.size (.slice av d.length cv) d := (h3.keep hkp h4.noT).keep hkD (.obj qD' (by simp))
      have hk6D : Kp (fun b => b = kv ∨ b = l9 ∨ b = D) w6 ((putLoop w' l9 rc .exhausted none).putObj D (.deferred none)) :=
        (hk30.mono (S' := fun b => b = kv ∨ b = l9 ∨ b = D) (fun _ _ h => by rcases h with h | h <;> simp [h])).trans hkD (fun _ _ h => .inr (.inr h))
      have q5' := hk6D.at q5 (by omega)
      have hdl : d.length = T.length := hperm.length_eq
      refine ⟨_, _, _, cl (hkp.at h2 (by omega)) rfl, qD', _, _, _, rfl, _, _, _, rfl, (K119 h3' (by omega) q5').mono fun e wz hp => ?_⟩
      cases e with
      | returned r =>
        obtain ⟨rfl, hkz, ys, hys1, hys2, hys3⟩ := hp
        have heq : ys = T := by
          refine List.Perm.eq_of_pairwise (le := fun x y : Ls => x.addr ≤ y.addr) ?_ hys2 (hs.imp fun {x y} h => by omega) (hys1.trans hperm)
          intro x y hx hy h1 h2
          have hxT : x ∈ T := (hys1.trans hperm).mem_iff.1 hx
          obtain ⟨i, hi, rfl⟩ := List.mem_iff_getElem.1 hxT
          obtain ⟨j, hj, rfl⟩ := List.mem_iff_getElem.1 hy
          rcases Nat.lt_trichotomy i j with h | h | h
          · have := List.pairwise_iff_getElem.1 hs i j hi hj h; omega
          · subst h; rfl
          · have := List.pairwise_iff_getElem.1 hs j i hj hi h; omega
        subst heq
        refine ⟨rfl, _, _, _, rfl, _, _, _, rfl, ?_, _, _, _, rfl, hys3⟩
        refine (hk06.trans hk6D (fun k hk h => by omega)).trans hkz (fun k hk h => ?_)
        have := (h3'.base_le k h).1
        omega
      | _ => exact hp
    | _ => exact hp.elim
end Go.Lf
end

section
set_option linter.unusedVariables false
set_option linter.unusedSimpArgs false
namespace Go.Lf
open Go Go.Proofs
def PBlk (w : World) (k : Nat) : Prop := ∃ o, w.heap[k]? = some o ∧ ((∃ cs, o = .cells cs 81 (0, 0)) ∨ (∃ es c, o = .map es c) ∨ ∃ cs, o = .cells cs 72 (0, 0))
def RBlk (w : World) (k : Nat) : Prop := ∃ o, w.heap[k]? = some o ∧ ((∃ cs, o = .cells cs 92 (0, 0)) ∨ (∃ cs, o = .cells cs 49 (0, 0)) ∨ ∃ cs, o = .cells cs 54 (0, 0))
def PK (base : Nat) (w w' : World) : Prop := ∃ S, Kp S w w' ∧ ∀ k, S k → base ≤ k ∧ PBlk w k
def RK (base : Nat) (w w' : World) : Prop := ∃ S, Kp S w w' ∧ ∀ k, S k → base ≤ k ∧ RBlk w k
theorem PK.kp {base : Nat} {w w' : World} (h : PK base w w') : Kp (fun k => base ≤ k) w w' := by obtain ⟨S, hk, hS⟩ := h; exact hk.mono fun k _ h => (hS k h).1
theorem RK.kp {base : Nat} {w w' : World} (h : RK base w w') : Kp (fun k => base ≤ k) w w' := by obtain ⟨S, hk, hS⟩ := h; exact hk.mono fun k _ h => (hS k h).1
theorem PK.of {base : Nat} {w w' : World} (h : Kp no w w') : PK base w w' := ⟨no, h, fun k h => h.elim⟩
theorem RK.of {base : Nat} {w w' : World} (h : Kp no w w') : RK base w w' := ⟨no, h, fun k h => h.elim⟩
theorem PK.pre {base : Nat} {w w' w'' : World} (h : Kp no w w') (hb : base ≤ w.heap.size) (h' : PK base w' w'') : ∃ S, Kp S w w'' ∧ ∀ k, S k → base ≤ k ∧ (k < w.heap.size → PBlk w k) := by
  obtain ⟨S, hk, hS⟩ := h'
  refine ⟨S, h.then hk, fun k h2 => ⟨(hS k h2).1, fun hlt => ?_⟩⟩
  obtain ⟨o, ho, hp⟩ := (hS k h2).2
  rw [h.get k hlt nf] at ho
  exact ⟨o, ho, hp⟩
theorem PK.then {base : Nat} {w w' w'' : World} (h : Kp no w w') (h' : PK base w' w'') : PK base w w'' := by
  obtain ⟨S, hk, hS⟩ := h'
  refine ⟨fun k => S k ∧ k < w.heap.size, (h.then hk).mono fun k hlt hs => ⟨hs, hlt⟩, fun k h2 => ⟨(hS k h2.1).1, ?_⟩⟩
  obtain ⟨o, ho, hp⟩ := (hS k h2.1).2
  rw [h.get k h2.2 nf] at ho
  exact ⟨o, ho, hp⟩
theorem RK.then {base : Nat} {w w' w'' : World} (h : Kp no w w') (h' : RK base w' w'') : RK base w w'' := by
  obtain ⟨S, hk, hS⟩ := h'
  refine ⟨fun k => S k ∧ k < w.heap.size, (h.then hk).mono fun k hlt hs => ⟨hs, hlt⟩, fun k h2 => ⟨(hS k h2.1).1, ?_⟩⟩
  obtain ⟨o, ho, hp⟩ := (hS k h2.1).2
  rw [h.get k h2.2 nf] at ho
  exact ⟨o, ho, hp⟩
theorem PK.after {base : Nat} {w w' w'' : World} (h : PK base w w') (h' : Kp no w' w'') : PK base w w'' := by
  obtain ⟨S, hk, hS⟩ := h
  exact ⟨S, hk.trans h' (fun k _ h => h.elim), hS⟩
theorem RK.after {base : Nat} {w w' w'' : World} (h : RK base w w') (h' : Kp no w' w'') : RK base w w'' := by
  obtain ⟨S, hk, hS⟩ := h
  exact ⟨S, hk.trans h' (fun k _ h => h.elim), hS⟩
def SA (w : World) (base p s : Nat) (S : StS) (D : Dk) : Prop := ∃ t b q, StP w s t b (.pointer (some ⟨q, 0, none⟩)) S ∧ LogAt 112 w q p ∧ DkAt 72 w p D ∧ base ≤ s ∧ base ≤ b ∧ base ≤ p
def RSA (w : World) (base p s : Nat) (S : StS) (D : Dk) : Prop := ∃ t v q, RStP w s t v (.pointer (some ⟨q, 0, none⟩)) S ∧ LogAt 123 w q p ∧ DkAt 54 w p D ∧ base ≤ s ∧ (∀ k, v.ownBlock = some k → base ≤ k) ∧ base ≤ p
theorem nP {w : World} {S : Nat → Prop} (hS : ∀ k, S k → PBlk w k) {b : Nat} {o : Obj} (hb : w.heap[b]? = some o) (h1 : ∀ cs, o ≠ .cells cs 81 (0, 0)) (h2 : ∀ es c, o ≠ .map es c) (h3 : ∀ cs, o ≠ .cells cs 72 (0, 0)) : ¬ S b := by
  intro h
  obtain ⟨o', ho, h⟩ := hS b h
  rw [hb] at ho
  cases ho
  rcases h with ⟨cs, h⟩ | ⟨es, c, h⟩ | ⟨cs, h⟩
  · exact h1 cs h
  · exact h2 es c h
  · exact h3 cs h
theorem nR {w : World} {S : Nat → Prop} (hS : ∀ k, S k → RBlk w k) {b : Nat} {o : Obj} (hb : w.heap[b]? = some o) (h1 : ∀ cs, o ≠ .cells cs 92 (0, 0)) (h2 : ∀ cs, o ≠ .cells cs 49 (0, 0)) (h3 : ∀ cs, o ≠ .cells cs 54 (0, 0)) : ¬ S b := by
  intro h
  obtain ⟨o', ho, h⟩ := hS b h
  rw [hb] at ho
  cases ho
  rcases h with ⟨cs, h⟩ | ⟨cs, h⟩ | ⟨cs, h⟩
  · exact h1 cs h
  · exact h2 cs h
  · exact h3 cs h
theorem nTP {w : World} {S : Nat → Prop} (hS : ∀ k, S k → PBlk w k) {e : TypeId} (h1 : e ≠ 81) (h2 : e ≠ 72) : NoT e S w := by
  intro b cs f hb hc
  obtain ⟨o, ho, h⟩ := hS b hb
  rw [hc] at ho
  cases ho
  rcases h with ⟨cs, h⟩ | ⟨es, c, h⟩ | ⟨cs, h⟩
  · cases h; exact h1 rfl
  · cases h
  · cases h; exact h2 rfl
theorem nTR {w : World} {S : Nat → Prop} (hS : ∀ k, S k → RBlk w k) {e : TypeId} (h1 : e ≠ 92) (h2 : e ≠ 49) (h3 : e ≠ 54) : NoT e S w := by
  intro b cs f hb hc
  obtain ⟨o, ho, h⟩ := hS b hb
  rw [hc] at ho
  cases ho
  rcases h with ⟨cs, h⟩ | ⟨cs, h⟩ | ⟨cs, h⟩
  · cases h; exact h1 rfl
  · cases h; exact h2 rfl
  · cases h; exact h3 rfl
theorem DkAt.rk {w w' : World} {base p : Nat} {D : Dk} (h : DkAt 72 w p D) (k : RK base w w') : DkAt 72 w' p D := by
  obtain ⟨S, hk, hS⟩ := k
  obtain ⟨s, h1, h2⟩ := id h
  exact h.keep hk (nR (fun k h => (hS k h).2) h1 (by simp) (by simp) (by simp)) (nTR (fun k h => (hS k h).2) (by decide) (by decide) (by decide))
theorem DkAt.pk {w w' : World} {base p : Nat} {D : Dk} (h : DkAt 54 w p D) (k : PK base w w') : DkAt 54 w' p D := by
  obtain ⟨S, hk, hS⟩ := k
  obtain ⟨s, h1, h2⟩ := id h
  exact h.keep hk (nP (fun k h => (hS k h).2) h1 (by simp) (by simp) (by simp)) (nTP (fun k h => (hS k h).2) (by decide) (by decide))
theorem SA.rk {w w' : World} {base base' p s : Nat} {S : StS} {D : Dk} (h : SA w base p s S D) (k : RK base' w w') : SA w' base p s S D := by
  obtain ⟨t, b, q, ⟨h1, h2, h3⟩, h4, h5, h6⟩ := h
  have h5' := h5.rk k
  obtain ⟨X, hk, hS⟩ := k
  have hS := fun k h => (hS k h).2
  exact ⟨t, b, q, ⟨hk.at h1 (nR hS h1 (by simp) (by simp) (by simp)), hk.at h2 (nR hS h2 (by simp) (by simp) (by simp)), hk.at h3 (nR hS h3 (by simp) (by simp) (by simp))⟩, hk.at h4 (nR hS h4 (by simp) (by simp) (by simp)), h5', h6⟩
theorem RSA.pk {w w' : World} {base base' p s : Nat} {S : StS} {D : Dk} (h : RSA w base p s S D) (k : PK base' w w') : RSA w' base p s S D := by
  obtain ⟨t, v, q, ⟨h1, h2, h3⟩, h4, h5, h6⟩ := h
  have h5' := h5.pk k
  obtain ⟨X, hk, hS⟩ := k
  have hS := fun k h => (hS k h).2
  exact ⟨t, v, q, ⟨hk.at h1 (nP hS h1 (by simp) (by simp) (by simp)), hk.at h2 (nP hS h2 (by simp) (by simp) (by simp)), h3.keep hk (nTP hS (by decide) (by decide))⟩, hk.at h4 (nP hS h4 (by simp) (by simp) (by simp)), h5', h6⟩
theorem SA.keepN {w w' : World} {base p s : Nat} {S : StS} {D : Dk} (h : SA w base p s S D) (k : Kp no w w') : SA w' base p s S D := h.rk (base' := 0) (.of k)
theorem RSA.keepN {w w' : World} {base p s : Nat} {S : StS} {D : Dk} (h : RSA w base p s S D) (k : Kp no w w') : RSA w' base p s S D := h.pk (base' := 0) (.of k)
theorem SA.pb {w : World} {s t b p base : Nat} {v0 : Value} {S : StS} {D : Dk} (h : StP w s t b v0 S) (hd : DkAt 72 w p D) (h1 : base ≤ s) (h2 : base ≤ b) (h3 : base ≤ p) : ∀ k, k = s ∨ k = b ∨ k = p → base ≤ k ∧ PBlk w k := by
  rintro k (rfl | rfl | rfl)
  · exact ⟨h1, _, h.1, .inl ⟨_, rfl⟩⟩
  · exact ⟨h2, _, h.2.2, .inr (.inl ⟨_, _, rfl⟩)⟩
  · obtain ⟨x, hx, _⟩ := hd
    exact ⟨h3, _, hx, .inr (.inr ⟨_, rfl⟩)⟩
theorem RSA.pb {w : World} {s t p base : Nat} {v v0 : Value} {S : StS} {D : Dk} (h : RStP w s t v v0 S) (hd : DkAt 54 w p D) (h1 : base ≤ s) (h2 : ∀ k, v.ownBlock = some k → base ≤ k) (h3 : base ≤ p) : ∀ k, k = s ∨ v.ownBlock = some k ∨ k = p → base ≤ k ∧ RBlk w k := by
  rintro k (rfl | hk | rfl)
  · exact ⟨h1, _, h.1, .inl ⟨_, rfl⟩⟩
  · obtain ⟨cs, hcs⟩ := h.2.2.type hk
    exact ⟨h2 k hk, _, hcs, .inr (.inl ⟨_, rfl⟩)⟩
  · obtain ⟨x, hx, _⟩ := hd
    exact ⟨h3, _, hx, .inr (.inr ⟨_, rfl⟩)⟩
theorem OwnBss.at {w : World} {base : Nat} {a : Option Addr} {n c : Nat} {ls : List (List UInt8)} (h : OwnBss w base (.slice a n c) ls) {i : Nat} (hi : i < ls.length) :
    ∃ q, a = some q ∧ ∃ a' c', w.cell? (q.add i) = some (.slice a' ls[i].length c') ∧ OwnB w base (.slice a' ls[i].length c') ls[i] := by
  obtain ⟨ss, hos, hel⟩ := h
  obtain ⟨u, hu, hou⟩ := hel i hi
  obtain ⟨au, cu, rfl⟩ := own_slice hou
  obtain ⟨_, ⟨h1, h0⟩ | ⟨p, c, h1, _, _, _, h2⟩⟩ := Sl.of_own hos
  · omega
  · cases h1; exact ⟨p, rfl, au, cu, h2 i _ hu, hou⟩
def J39 (w : World) (s t b : Nat) (v0 : Value) (S : StS) (ls : List (List UInt8)) (vs : List Value) (w' : World) : Prop :=
  match vs with | [.int _ i] => ∃ k : Nat, i = k ∧ k ≤ ls.length ∧ Kp (fun k => k = s ∨ k = b) w w' ∧ StP w' s t b v0 ((ls.take k).foldl doRec S) | _ => False
def M39 (ls : List (List UInt8)) (vs : List Value) (_ : World) : Nat := match vs with | [.int _ i] => ls.length - i.toNat | _ => 0
set_option maxRecDepth 100000 in
theorem has41 : Cz.has 41 = true := by kernel_rfl
theorem fold_take {S : StS} {ls : List (List UInt8)} {k : Nat} (h : k < ls.length) : (ls.take (k + 1)).foldl doRec S = doRec ((ls.take k).foldl doRec S) ls[k] := by
  rw [List.take_add_one, List.getElem?_eq_getElem h, List.foldl_append]; rfl
theorem K39 {w : World} {s t b : Nat} {v0 : Value} {S : StS} {a : Option Addr} {n c : Nat} {ls : List (List UInt8)} (h : StP w s t b v0 S) (hv : OwnBss w 0 (.slice a n c) ls) (hr : ∀ l ∈ ls, recOk l) (hl : ls.length ≤ 1048576) :
    Calls Cz.P 39 #[.slice a n c, .func (.func 41) #[.pointer (some ⟨s, 0, none⟩)] #[]] w (CP (Post41 w s t b v0 (ls.foldl doRec S)) (fun _ _ => False)) := by
  refine C39 ?_
  obtain ⟨_, _, hx⟩ := hv.slice
  cases hx
  unfold B39
  refine ⟨J39 w s t b v0 S ls, M39 ls, ⟨0, rfl, Nat.zero_le _, .refl _ _, h⟩, ?_⟩
  rintro i w1 ⟨k, rfl, hk, hk1, hS1⟩
  unfold B39_l1
  have hn22 : NoT 22 (fun k => k = s ∨ k = b) w := by
    rintro b' cs f (rfl | rfl) hc
    · rw [h.1] at hc; cases hc
    · rw [h.2.2] at hc; cases hc
  have hn5 : NoT 5 (fun k => k = s ∨ k = b) w := by
    rintro b' cs f (rfl | rfl) hc
    · rw [h.1] at hc; cases hc
    · rw [h.2.2] at hc; cases hc
  refine ifB_dec (fun hlt => ?_) (fun hlt => ?_)
  · have hk' : k < ls.length := by omega
    obtain ⟨q, rfl, a', c', hc, ho⟩ := (hv.keep hk1 hn22 hn5).at hk'
    have hi1 : IntKind.i64.wrap ((k : Int) + 1) = ((k + 1 : Nat) : Int) := by rw [wrap64 (by omega) (by omega)]; omega
    have hrk := hr _ (List.getElem_mem hk')
    unfold recOk at hrk
    refine need_and (dec (by omega)) (dec (by omega)) ?_
    rw [nn_some, show (k : Int).toNat * 1 = k by omega]
    refine ⟨_, _, _, hc, need_iff.2 ⟨has41, ?_⟩⟩
    show Calls Cz.P 41 #[.pointer (some ⟨s, 0, none⟩), .slice a' ls[k].length c'] w1 _
    refine (K41 hS1 ho.bs (by omega) (by omega)).mono fun e w2 hp => ?_
    cases e with
    | returned r =>
      obtain ⟨rfl, hk2, hS2⟩ := hp
      refine ⟨rfl, ⟨k + 1, hi1, hk', hk1.trans hk2 (fun _ _ h => h), by rw [fold_take hk']; exact hS2⟩, ?_⟩
      show ls.length - (IntKind.i64.wrap ((k : Int) + 1)).toNat < ls.length - (k : Int).toNat
      rw [hi1]; omega
    | _ => exact hp
  · have hk' : k = ls.length := by omega
    subst hk'
    rw [List.take_length] at hS1
    exact ⟨rfl, hk1, hS1⟩
theorem scan_rec : ∀ (n : Nat) (b : List UInt8), b.length = n → (∀ l ∈ (scan b).1, recOk l) ∧ (scan b).1.length ≤ b.length := by
  intro n
  induction n using Nat.strongRecOn with
  | _ n ih =>
    intro b hb
    by_cases hf : frOk b = true
    · rw [scan_yes hf]
      have hf' := hf
      unfold frOk at hf'
      rw [decide_eq_true_iff] at hf'
      obtain ⟨h1, h2, h3, h4, h5⟩ := hf'
      obtain ⟨i1, i2⟩ := ih (b.drop (3 + nn2 b)).length (by rw [List.length_drop]; omega) _ rfl
      constructor
      · intro l hl
        rcases List.mem_cons.1 hl with rfl | hl
        · unfold recOk; rw [List.length_take, List.length_drop]; omega
        · exact i1 l hl
      · rw [List.length_cons]; rw [List.length_drop] at i2; omega
    · rw [scan_no hf]; simp
def st0 (rs : List Rg) : StS := ⟨bares (pool rs), 0, 0⟩
def poolErr (rs : List Rg) : Int := if ∃ x ∈ rs, x.hi < x.lo then 1 else if 256 < cnt (pool rs) then 3 else 0
def openD (rs : List Rg) (D : Dk) : Int × Dk := if poolErr rs ≠ 0 then (poolErr rs, D) else D.openLog
def openSt (rs : List Rg) (D : Dk) : StS := (scan (openD rs D).2.b).1.foldl doRec (st0 rs)
def StoreOpen (SAt : World → Nat → Nat → Nat → StS → Dk → Prop) (T : TypeId) (K : Nat → World → World → Prop) (base p : Nat) (rs : List Rg) (D : Dk) (w : World) (r : Value) (w' : World) : Prop :=
  K base w w' ∧ DkAt T w' p (openD rs D).2 ∧ ((openD rs D).1 ≠ 0 ∧ r = .tuple #[.pointer none, .int .i64 (openD rs D).1] ∨
    (openD rs D).1 = 0 ∧ ∃ s, r = .tuple #[.pointer (some ⟨s, 0, none⟩), .int .i64 0] ∧ SAt w' base p s (openSt rs D) (openD rs D).2)
theorem openD_ok {rs : List Rg} {D : Dk} (h : D.ok) : (openD rs D).2.ok := by
  unfold openD; split
  · exact h
  · exact Dk.openLog_ok h
theorem K13 {w : World} {p base : Nat} {D : Dk} {a : Option Addr} {n c : Nat} {rs : List Rg} (hd : DkAt 72 w p D) (hD : D.ok) (hb : base ≤ p) (hw : base ≤ w.heap.size) (hv : Rgs w (.slice a n c) rs) (hok : ∀ r ∈ rs, r.ok) (hl : rs.length ≤ 1048576) :
    Calls Cz.P 13 #[.pointer (some ⟨p, 0, none⟩), .slice a n c] w (CP (StoreOpen SA 72 PK base p rs D w) (fun _ _ => False)) := by
  refine C13 ?_
  unfold B13
  refine (K37 hv hok hl).mono fun e w8 hp => ?_
  cases e with
  | returned r =>
    obtain ⟨hk8, hp⟩ := hp
    have hd8 := hd.keep hk8 nf .no
    have bad : ∀ x : Int, poolErr rs = x → x ≠ 0 → StoreOpen SA 72 PK base p rs D w (.tuple #[.pointer none, .int .i64 x]) w8 := by
      intro x hx hne
      have e1 : openD rs D = (x, D) := by unfold openD; rw [hx, if_pos hne]
      unfold StoreOpen
      rw [e1]
      exact ⟨.of hk8, hd8, .inl ⟨hne, rfl⟩⟩
    rcases hp with ⟨h1, rfl⟩ | ⟨hall, ⟨h1, rfl⟩ | ⟨hc, t, rfl, b, hbb, ht, hm⟩⟩
    · exact ⟨_, _, rfl, ifB_true.2 (bad 1 (by unfold poolErr; rw [if_pos h1]) (by decide))⟩
    · exact ⟨_, _, rfl, ifB_true.2 (bad 3 (by unfold poolErr; rw [if_neg (fun ⟨x, h2, h3⟩ => by have := hall x h2; omega), if_pos h1]) (by decide))⟩
    · have e0 : poolErr rs = 0 := by unfold poolErr; rw [if_neg (fun ⟨x, h2, h3⟩ => by have := hall x h2; omega), if_neg (by omega)]
      have e1 : openD rs D = D.openLog := by unfold openD; rw [e0]; rfl
      unfold StoreOpen openSt
      rw [e1]
      have hDo := Dk.openLog_ok hD
      have hbl := bl_bound hDo
      obtain ⟨hrec, hlen⟩ := scan_rec _ D.openLog.2.b rfl
      refine ⟨_, _, rfl, ifB_false.2 ((K38 hd8 hD).mono fun e w12 hp => ?_)⟩
      cases e with
      | returned r =>
        obtain ⟨hk12, hd12, hp⟩ := hp
        have hPB : PBlk w p := by obtain ⟨x, hx, _⟩ := hd; exact ⟨_, hx, .inr (.inr ⟨_, rfl⟩)⟩
        have hk012 : Kp (fun k => k = p) w w12 := hk8.then hk12
        have hpk : PK base w w12 := ⟨_, hk012, fun k h => by subst h; exact ⟨hb, hPB⟩⟩
        have ntp : ¬ t = p := by intro h; subst h; obtain ⟨x, hx, _⟩ := hd8; rw [ht] at hx; cases hx
        have nbp : ¬ b = p := by intro h; subst h; obtain ⟨x, hx, _⟩ := hd8; unfold MapAt at hm; rw [hm] at hx; cases hx
        rcases hp with ⟨hne, rfl⟩ | ⟨h0, q, hq, rfl, hlog⟩
        · exact ⟨_, _, rfl, ifB_split (fun _ => ⟨hpk, hd12, .inl ⟨hne, rfl⟩⟩) (fun h => by simp only [bne_eq_false_iff_eq] at h; exact (hne h).elim)⟩
        · refine ⟨_, _, rfl, ifB_false.2 (nw_i fun s w15 e15 hk15 g15 => ?_)⟩
          have hS15 : StP w15 s t b (.pointer (some ⟨q, 0, none⟩)) (st0 rs) := ⟨g15, hk15.at (hk12.at ht ntp) nf, hk15.at (hk12.at hm nbp) nf⟩
          have hd15 := hd12.keep hk15 nf .no
          have hq15 : LogAt 112 w15 q p := hk15.at hlog nf
          refine (K40 hq15 hd15 hDo).mono fun e w19 hp => ?_
          cases e with
          | returned r =>
            obtain ⟨hk19, a19, n19, c19, rfl, ho19⟩ := hp
            have hS19 := hS15.keepN hk19
            refine ⟨_, _, _, rfl, (K39 hS19 (ho19.base (Nat.zero_le _)) hrec (by omega)).mono fun e w21 hp => ?_⟩
            cases e with
            | returned r =>
              obtain ⟨rfl, hk21, hS21⟩ := hp
              have z0 := hk8.size
              have z8 := hk12.size
              have z15 := hk15.size
              have z19 := hk19.size
              have s15 := lt_of_get g15
              have nps : ¬ (p = s ∨ p = b) := by
                rintro (h | h)
                · subst h; obtain ⟨x, hx, _⟩ := hd15; rw [g15] at hx; cases hx
                · exact nbp h.symm
              have nqs : ¬ (q = s ∨ q = b) := by
                rintro (h | h)
                · subst h; unfold LogAt at hq15; rw [hq15] at g15; cases g15
                · subst h; have := hS15.2.2; unfold MapAt at this; unfold LogAt at hq15; rw [hq15] at this; cases this
              have hn5 : NoT 5 (fun k => k = s ∨ k = b) w19 := by
                rintro b' cs f (rfl | rfl) hc
                · rw [hS19.1] at hc; cases hc
                · rw [hS19.2.2] at hc; cases hc
              refine ⟨rfl, ?_, (hd15.keep hk19 nf .no).keep hk21 nps hn5, .inr ⟨h0, s, rfl, t, b, q, hS21, hk21.at (hk19.at hq15 nf) nqs, (hd15.keep hk19 nf .no).keep hk21 nps hn5, by omega, by omega, hb⟩⟩
              refine ⟨fun k => k = p, ?_, fun k h => by subst h; exact ⟨hb, hPB⟩⟩
              refine ((hk012.trans hk15 (fun _ _ h => h.elim)).trans hk19 (fun _ _ h => h.elim)).trans hk21 ?_
              intro k hk h
              omega
            | _ => exact hp
          | _ => exact hp
      | _ => exact hp
  | _ => exact hp
end Go.Lf
end
