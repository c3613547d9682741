/- Part 26 of the lemmas that a proof leans on; no claim is made here. By an AI agent. -/
import Derived.Test.YtofhodpdfbnkiaaGreatLfA12
import Derived.Test.YtofhodpdfbnkiaaGreatLfA14
import Derived.Test.YtofhodpdfbnkiaaGreatLfA15
import Derived.Test.YtofhodpdfbnkiaaGreatLfA16
import Derived.Test.YtofhodpdfbnkiaaGreatLfA24
import Derived.Test.YtofhodpdfbnkiaaGreatLfA25
section
set_option linter.unusedVariables false
set_option linter.unusedSimpArgs false
namespace Go.Lf
open Go Go.Proofs Go.Sort Go.Shelf
instance : Inhabited Rg := ⟨⟨0, 0⟩⟩
set_option maxRecDepth 100000 in
theorem has101 : Cz.has 101 = true := by kernel_rfl
theorem K101 (r : Rg) (w : World) : Calls Cz.P 101 #[.agg #[.int .u32 (r.lo : Int), .int .u32 (r.hi : Int)]] w (CP (fun v w' => Kp no w w' ∧ v = .bool (decide (r.hi < r.lo))) (fun _ _ => False)) := by
  refine C101 ?_
  unfold B101
  refine nw_i fun k w1 ek hk hg => ⟨_, cl hg rfl, _, cl hg rfl, hk, ?_⟩
  simp only [Value.bool.injEq, decide_eq_decide]
  omega
def J122 (rs : List Rg) (w : World) (vs : List Value) (w' : World) : Prop :=
  match vs with | [.int _ i] => Kp no w w' ∧ ∃ k : Nat, i = k ∧ k ≤ rs.length ∧ ∀ r ∈ rs.take k, ¬ r.hi < r.lo | _ => False
theorem K102 {w : World} {a : Option Addr} {n c : Nat} {rs : List Rg} (hv : Rgs w (.slice a n c) rs) (hl : rs.length ≤ 1048576) :
    Calls Cz.P 102 #[.slice a n c, .func (.func 101) #[] #[]] w (CP (fun r w' => Kp no w w' ∧ ∃ b : Bool, r = .bool b ∧ (b = true ↔ ∃ x ∈ rs, x.hi < x.lo)) (fun _ _ => False)) := by
  refine C102 ?_
  have hn := hv.len
  subst hn
  unfold B102
  refine (C122 (Rt := fun r w' => Kp no w w' ∧ ∃ i : Int, r = .int .i64 i ∧ (i ≥ 0 ↔ ∃ x ∈ rs, x.hi < x.lo)) (E := fun _ _ => False) ?_).mono ?_
  · unfold B122
    refine ⟨J122 rs w, M111 rs, ⟨.refl _ _, 0, rfl, Nat.zero_le _, by simp⟩, ?_⟩
    rintro i w1 ⟨hk, k, rfl, hkl, hx⟩
    unfold B122_l1
    have hv1 : Rgs w1 (.slice a rs.length c) rs := hv.keep hk (fun _ _ _ _ => nf)
    refine ifB_dec (fun h => ?_) (fun h => ?_)
    · have hk' : k < rs.length := by omega
      obtain ⟨q, rfl, hc0, hc1⟩ := hv1.at hk'
      have hi1 : IntKind.i64.wrap ((k : Int) + 1) = ((k + 1 : Nat) : Int) := by rw [wrap64 (by omega) (by omega)]; omega
      refine need_and (dec (by omega)) (dec (by omega)) ?_
      rw [nn_some, show (k : Int).toNat * 2 = k * 2 by omega]
      refine ⟨_, _, ⟨hc0, hc1, trivial⟩, need_iff.2 ⟨has101, ?_⟩⟩
      show Calls Cz.P 101 #[_] w1 _
      refine (K101 rs[k] w1).mono fun e w2 hp => ?_
      cases e with
      | returned r =>
        obtain ⟨hk2, rfl⟩ := hp
        refine ⟨_, rfl, ifB_dec (fun h2 => ⟨hk.then hk2, k, rfl, fun _ => ⟨_, List.getElem_mem hk', h2⟩, fun _ => by omega⟩) (fun h2 => ⟨⟨hk.then hk2, k + 1, hi1, hk', ?_⟩, by show rs.length - (IntKind.i64.wrap ((k : Int) + 1)).toNat < rs.length - (k : Int).toNat; rw [hi1]; omega⟩)⟩
        rw [List.take_add_one, List.getElem?_eq_getElem hk']
        intro x hx'
        rcases List.mem_append.1 hx' with hx' | hx'
        · exact hx x hx'
        · rw [List.mem_singleton.1 hx']; exact h2
      | _ => exact hp
    · have hk' : k = rs.length := by omega
      subst hk'
      rw [List.take_length] at hx
      exact ⟨hk, -1, rfl, fun h => absurd h (by decide), fun ⟨x, h1, h2⟩ => (hx x h1 h2).elim⟩
  · intro e w' hp
    cases e with
    | returned r =>
      obtain ⟨hk, i, rfl, hi⟩ := hp
      refine ⟨_, rfl, hk, _, rfl, ?_⟩
      rw [decide_eq_true_iff]; exact hi
    | _ => exact hp
theorem K104 {w : World} {a : Option Addr} {n c : Nat} {Rt : Value → World → Prop} {E : List PanicEntry → World → Prop}
    (h : ∀ k w', Kp no w w' → k = w.heap.size → w'.heap[k]? = some (.cells #[.slice a n c] 23 (0, 0)) → Rt (.func (.func 125) #[] #[.pointer (some ⟨k, 0, none⟩)]) w') : Calls Cz.P 104 #[.slice a n c] w (CP Rt E) := by
  refine C104 ?_
  unfold B104
  exact nw_i fun b w1 e hk hg => h b w1 hk e hg
def J125 (rs : List Rg) (I : Nat → World → Prop) (S : Nat → Prop) (w : World) (vs : List Value) (w' : World) : Prop :=
  match vs with | [.int _ i] => Kp S w w' ∧ ∃ k : Nat, i = k ∧ k ≤ rs.length ∧ I k w' | _ => False
/-- the values of a row, one by one -/
theorem K125 {w0 w : World} {q : Addr} {v1 : Value} {a : Option Addr} {m c : Nat} {rs : List Rg} {I : Nat → World → Prop} {S : Nat → Prop}
    (hq : w.cell? q = some (.slice a m c)) (hv : Rgs w0 (.slice a m c) rs) (h0 : Kp no w0 w) (hl : rs.length ≤ 1048576)
    (hS : ∀ k, S k → w0.heap.size ≤ k) (hI : I 0 w) (hIk : ∀ i w' w'', I i w' → Kp no w' w'' → I i w'')
    (hy : ∀ (i : Nat) (h : i < rs.length) (w' : World), w.heap.size ≤ w'.heap.size → I i w' → vCall Cz v1 [.agg #[.int .u32 (rs[i].lo : Int), .int .u32 (rs[i].hi : Int)]] w' (CP (fun r w'' => r = .bool true ∧ Kp S w' w'' ∧ I (i + 1) w'') (fun _ _ => False))) :
    Calls Cz.P 125 #[v1, .pointer (some q)] w (CP (fun r w' => r = .tuple #[] ∧ Kp S w w' ∧ I rs.length w') (fun _ _ => False)) := by
  refine C125 ?_
  have hm := hv.len
  subst hm
  unfold B125
  refine ⟨_, _, _, hq, J125 rs I S w, M111 rs, ⟨.refl _ _, 0, rfl, Nat.zero_le _, hI⟩, ?_⟩
  rintro x9 w1 ⟨hk1, k, rfl, hkl, hI1⟩
  unfold B125_l1
  have hz0 := h0.size
  have hk01 : ∀ {w'}, Kp S w w' → Kp no w0 w' := fun h => h0.trans h (fun k hk hs => by have := hS k hs; omega)
  refine ifB_dec (fun h => ?_) (fun h => ?_)
  · have hk' : k < rs.length := by omega
    have hv1 : Rgs w1 (.slice a rs.length c) rs := hv.keep (hk01 hk1) (fun _ _ _ _ => nf)
    obtain ⟨p, rfl, hc0, hc1⟩ := hv1.at hk'
    have hi1 : IntKind.i64.wrap ((k : Int) + 1) = ((k + 1 : Nat) : Int) := by rw [wrap64 (by omega) (by omega)]; omega
    refine need_and (dec (by omega)) (dec (by omega)) ?_
    rw [nn_some, show (k : Int).toNat * 2 = k * 2 by omega]
    refine ⟨_, _, ⟨hc0, hc1, trivial⟩, nw_i fun b w2 e2 hk2 g2 => st_i g2 (by simp) fun w3 hk3 g3 => st_i g3 (by simp) fun w4 hk4 g4 => ⟨_, _, ⟨cl g4 rfl, cl g4 rfl, trivial⟩, ?_⟩⟩
    have hk14 : Kp no w1 w4 := (hk2.trans hk3 (fun b hb h => by omega)).trans hk4 (fun b hb h => by omega)
    have hz1 := hk1.size
    have hz4 := hk14.size
    refine vCall_mono (hy k hk' w4 (by omega) (hIk _ _ _ hI1 hk14)) fun e w5 hp => ?_
    cases e with
    | returned r =>
      obtain ⟨rfl, hk5, hI5⟩ := hp
      refine ⟨_, rfl, ifB_false.2 ⟨⟨(hk1.trans hk14 (fun _ _ h => h.elim)).trans hk5 (fun _ _ h => h), k + 1, hi1, hk', hI5⟩, by show rs.length - (IntKind.i64.wrap ((k : Int) + 1)).toNat < rs.length - (k : Int).toNat; rw [hi1]; omega⟩⟩
    | _ => exact hp
  · have hk' : k = rs.length := by omega
    subst hk'
    exact ⟨rfl, hk1, hI1⟩
def I133 (k6 l : Nat) (rc : Loop) (w4 : World) (rs : List Rg) (i : Nat) (w' : World) : Prop :=
  Kp (fun b => b = k6 ∨ b = l) w4 w' ∧ (∃ v, w'.heap[k6]? = some (.cells #[v] 23 (0, 0)) ∧ OwnR w' w4.heap.size v (rs.take i)) ∧ LoopAt w' l rc .ready none
/-- the ranges anew -/
theorem K123 {w0 w : World} {q : Nat} {a : Option Addr} {m c : Nat} {rs : List Rg} (hq : w.heap[q]? = some (.cells #[.slice a m c] 23 (0, 0))) (hv : Rgs w0 (.slice a m c) rs) (h0 : Kp no w0 w) (hl : rs.length ≤ 1048576) :
    Calls Cz.P 123 #[.func (.func 125) #[] #[.pointer (some ⟨q, 0, none⟩)]] w (CP (fun r w' => Kp no w w' ∧ ∃ a' n' c', r = .slice a' n' c' ∧ OwnR w' w.heap.size (.slice a' n' c') rs) (fun _ _ => False)) := by
  refine C123 ?_
  unfold B123
  refine C133 ?_
  unfold B133
  refine nw_i fun k6 w1 e6 hk1 g6 => nw_i fun D w2 eD hk2 gD rc hrc => nw_i fun l9 w3 e9 hk3 g9 => ?_
  have z0 := h0.size
  have z1 := hk1.size
  have z2 := hk2.size
  have z3 := hk3.size
  have s6 := lt_of_get g6
  have sD := lt_of_get gD
  have s9 := lt_of_get g9
  have sq := lt_of_get hq
  have hk03 : Kp no w w3 := hk1.then (hk2.then hk3)
  have q6 := (hk2.then hk3).at g6 nf
  have qq := hk03.at hq nf
  have qD := hk3.at gD nf
  have hL : LoopAt w3 l9 rc .ready none := LoopAt.of g9 hrc
  refine need_iff.2 ⟨by rfl, ?_⟩
  show Calls Cz.P 125 #[.func (.yield l9) #[] #[], .pointer (some ⟨q, 0, none⟩)] w3 _
  refine (K125 (I := I133 k6 l9 rc w3 rs) (S := fun b => b = k6 ∨ b = l9 ∨ w3.heap.size ≤ b) (w0 := w0) (w := w3) (cl qq rfl) hv (h0.then hk03) hl (fun k hk => by omega) ⟨.refl _ _, ⟨_, q6, .nil _ _ _ _⟩, hL⟩ ?_ ?_).mono ?_
  · rintro i w' w'' ⟨h1, ⟨v, h2, h3⟩, h4⟩ hk
    exact ⟨h1.trans hk (fun _ _ h => h.elim), ⟨v, hk.at h2 nf, h3.keep hk .no⟩, h4.keep hk nf⟩
  · rintro i hi w' hsz ⟨h1, ⟨v, h2, h3⟩, h4⟩
    show Rnd Cz.P l9 #[_] w' _
    refine B133_r1_rnd hrc h4 ?_
    unfold B133_r1
    refine nw_i fun k13 w4 e13 hk4 g13 => st_i g13 (by simp) fun w5 hk5 g5 => st_i g5 (by simp) fun w6 hk6 g14 => ?_
    have hk46 : Kp no w' w6 := (hk4.trans hk5 (fun b hb h => by omega)).trans hk6 (fun b hb h => by omega)
    have s13 := lt_of_get g14
    have z4 := hk4.size
    have z46 := hk46.size
    have h2' := hk46.at h2 nf
    have h3' := h3.keep hk46 .no
    have h4' := h4.keep hk46 nf
    refine ⟨rfl, none, h4', ?_⟩
    have hkb : Kp (fun k => k = l9) w6 (putLoop w6 l9 rc .busy none) := LoopAt.kp
    have hLb : LoopAt (putLoop w6 l9 rc .busy none) l9 rc .busy none := h4'.put
    have h3b : OwnR (putLoop w6 l9 rc .busy none) w3.heap.size v (rs.take i) := h3'.keep hkb h4'.noT
    generalize putLoop w6 l9 rc .busy none = w21 at hkb hLb h3b
    have hb2 := hkb.at h2' (by omega)
    have hb13 := hkb.at g14 (by omega)
    have zb := hkb.size
    obtain ⟨av, cv, rfl⟩ := h3b.slice
    obtain ⟨a1, n1, c1, w28, hr1, a2, n2, c2, w32, hr2, ho2, hk32⟩ := appE (ty := 23) E23 (by decide) (by decide) h3b rs[i] (cs := #[.int .u32 (rs[i].lo : Int), .int .u32 (rs[i].hi : Int)]) rfl (by omega) (by rw [List.length_take]; omega)
    have n6 : ¬ (Value.slice av (rs.take i).length cv).ownBlock = some k6 := fun h => by have := h3b.base_le k6 h; omega
    have n9 : ¬ (Value.slice av (rs.take i).length cv).ownBlock = some l9 := h3b.ne hLb (by simp)
    have c6 := hk32.at hb2 n6
    refine ⟨_, _, _, cl hb2 rfl, _, _, ⟨cl hb13 rfl, cl hb13 rfl, trivial⟩, _, _, _, _, hr1, _, _, _, _, hr2, st_i c6 (by simp) fun w33 hk33 g33 => ⟨rfl, none, (hLb.keep hk32 n9).keep hk33 (by omega), rfl, ?_⟩⟩
    have hL33 := (hLb.keep hk32 n9).keep hk33 (by omega)
    have hkp : Kp (fun k => k = l9) w33 (putLoop w33 l9 rc .ready none) := LoopAt.kp
    have hkk : Kp (fun b => b = k6 ∨ b = l9 ∨ w3.heap.size ≤ b) w' (putLoop w33 l9 rc .ready none) := by
      refine ((((hk46.then hkb).mono (S' := fun b => b = k6 ∨ b = l9 ∨ w3.heap.size ≤ b) (fun _ _ h => .inr (.inl h))).trans hk32 (fun k _ h => .inr (.inr (h3b.base_le k h).1))).trans hk33 (fun _ _ h => .inl h)).trans hkp (fun _ _ h => .inr (.inl h))
    refine ⟨hkk, ?_, ⟨_, hkp.at g33 (by omega), ?_⟩, hL33.put⟩
    · exact h1.trans hkk (fun k hk h => by omega)
    · rw [List.take_add_one, List.getElem?_eq_getElem hi]
      exact (ho2.keep hk33 (.one c6 (by decide))).keep hkp hL33.noT
  · intro e w' hp
    cases e with
    | returned r =>
      obtain ⟨rfl, _, h1, ⟨v, h2, h3⟩, h4⟩ := hp
      refine ⟨.ready, none, h4, by simp, ?_⟩
      have hkp : Kp (fun k => k = l9) w' (putLoop w' l9 rc .exhausted none) := LoopAt.kp
      rw [List.take_length] at h3
      obtain ⟨av, cv, rfl⟩ := h3.slice
      have hk30 : Kp (fun b => b = k6 ∨ b = l9) w3 (putLoop w' l9 rc .exhausted none) := h1.trans hkp (fun _ _ h => .inr h)
      have qD' := hk30.at qD (by omega)
      have hkD : Kp (fun k => k = D) (putLoop w' l9 rc .exhausted none) ((putLoop w' l9 rc .exhausted none).putObj D (.deferred none)) := .put _ _ _
      refine ⟨_, _, _, cl (hkp.at h2 (by omega)) rfl, qD', _, _, _, rfl, ?_, _, _, _, rfl, ?_⟩
      · exact (hk03.trans hk30 (fun k hk h => by omega)).trans hkD (fun k hk h => by omega)
      · exact ((h3.base (by omega)).keep hkp h4.noT).keep hkD (.obj qD' (by simp))
    | _ => exact hp.elim
end Go.Lf
end

section
set_option linter.unusedVariables false
set_option linter.unusedSimpArgs false
namespace Go.Lf
open Go Go.Proofs Go.Sort Go.Shelf
def cmpI (a b : Int) : Int := if a < b then -1 else if b < a then 1 else 0
theorem K121 (x : Int) (w : World) : Calls Cz.P 121 #[.int .u32 x] w (CP (fun r w' => w' = w ∧ r = .bool false) (fun _ _ => False)) := by
  refine C121 ?_
  unfold B121
  exact ⟨rfl, by simp⟩
theorem K93 (x y : Int) (w : World) : Calls Cz.P 93 #[.int .u32 x, .int .u32 y] w (CP (fun r w' => w' = w ∧ r = .int .i64 (cmpI x y)) (fun _ _ => False)) := by
  refine C93 ?_
  unfold B93
  refine (K121 x w).mono fun e w1 hp => ?_
  cases e with
  | returned r =>
    obtain ⟨rfl, rfl⟩ := hp
    refine ⟨_, rfl, (K121 y w1).mono fun e w2 hp => ?_⟩
    cases e with
    | returned r =>
      obtain ⟨rfl, rfl⟩ := hp
      refine ⟨_, rfl, ifB_false.2 (ifB_false.2 (ifB_dec (fun h => ⟨rfl, ?_⟩) (fun h => ifB_dec (fun h' => ⟨rfl, ?_⟩) (fun h' => ⟨rfl, ?_⟩))))⟩
      · unfold cmpI; rw [if_pos h]
      · unfold cmpI; rw [if_neg h, if_pos h']
      · unfold cmpI; rw [if_neg h, if_neg h']
    | _ => exact hp
  | _ => exact hp
def Gr (w w' : World) : Prop := ∃ q os', w' = grow (w.drewN q) os'
theorem Gr.refl (w : World) : Gr w w := ⟨0, #[], by simp [World.drewN]⟩
theorem Gr.trans {w w' w'' : World} (h : Gr w w') (h' : Gr w' w'') : Gr w w'' := by
  obtain ⟨q, os, rfl⟩ := h
  obtain ⟨q', os', rfl⟩ := h'
  refine ⟨q + q', os ++ os', ?_⟩
  unfold grow World.drewN
  simp [Array.append_assoc, Nat.add_assoc]
theorem Gr.alloc (w : World) (o : Obj) : Gr w (w.alloc o) := ⟨0, #[o], by rw [alloc_eq_grow]; rfl⟩
theorem Gr.drew (w : World) : Gr w w.drew := ⟨1, #[], by rw [grow_empty]; rfl⟩
theorem nw_g {w : World} {o : Obj} {K : Nat → World → Prop} (k : ∀ b w', b = w.heap.size → Gr w w' → Kp no w w' → w'.heap[b]? = some o → K b w') : nw w o K := k _ _ rfl (.alloc _ _) (.alloc _ _ _) (get_alloc_new _ _)
theorem K105 (r s : Rg) (w : World) : Calls Cz.P 105 #[.agg #[.int .u32 (r.lo : Int), .int .u32 (r.hi : Int)], .agg #[.int .u32 (s.lo : Int), .int .u32 (s.hi : Int)]] w (CP (fun v w' => v = .int .i64 (cmpI r.lo s.lo) ∧ Gr w w') (fun _ _ => False)) := by
  refine C105 ?_
  unfold B105
  refine nw_g fun k w1 e1 hr1 hk1 g1 => nw_g fun k' w2 e2 hr2 hk2 g2 => ⟨_, cl (hk2.at g1 nf) rfl, _, cl g2 rfl, (K93 _ _ _).mono fun e w' hp => ?_⟩
  cases e with
  | returned r =>
    obtain ⟨rfl, rfl⟩ := hp
    exact ⟨_, rfl, rfl, hr1.trans hr2⟩
  | _ => exact hp
theorem cmpI_lt (a b : Int) : decide (cmpI a b < 0) = decide (a < b) := by
  unfold cmpI
  split
  · simp [*]
  · split <;> simp [*]
theorem swo_key {α : Type} (key : α → Int) : SWO (ltOf fun x y : α => cmpI (key x) (key y)) where
  irrefl x := by unfold ltOf; rw [cmpI_lt]; simp
  trans x y z h1 h2 := by unfold ltOf at *; rw [cmpI_lt] at *; simp at *; omega
  ntrans x y z h1 h2 := by unfold ltOf at *; rw [cmpI_lt] at *; simp at *; omega
theorem K124 {w : World} {base : Nat} {a : Option Addr} {n c : Nat} {rs : List Rg} (ho : OwnR w base (.slice a n c) rs) (hsz : rs.length < 4611686018427387904) :
    Calls Cz.P 124 #[.slice a n c, .func (.func 105) #[] #[]] w (CP (fun r w' => r = .tuple #[] ∧ Kp (fun k => (Value.slice a n c).ownBlock = some k) w w' ∧ ∃ ys : List Rg, ys.Perm rs ∧ (ys.Pairwise fun x y => x.lo ≤ y.lo) ∧ Rgs w' (.slice a n c) ys) (fun _ _ => False)) := by
  have h := sortS SR Tryz.l124 (fun w => by kernel_rfl) (fun w => by kernel_rfl) (fun x y : Rg => cmpI x.lo y.lo) (swo_key (fun x : Rg => (x.lo : Int))) 105 #[]
    (enters_of Tryz.func105 (by kernel_rfl) rfl) ho hsz (fun blk hb m os dk hdk x y => (K105 x y _).mono fun e w' hp => by
      cases e with
      | returned r => exact ⟨by rw [hp.1], hp.2⟩
      | _ => exact hp.elim)
  refine Calls.mono (show Calls Cz.P 124 #[.slice a n c, .func (.func 105) #[] #[]] w _ from h) fun e w' hp => ?_
  cases e with
  | returned r =>
    obtain ⟨rfl, hk, ys, h1, h2, h3⟩ := hp
    refine ⟨rfl, hk, ys, h1, h2.imp fun {x y} h => ?_, h3.1⟩
    have := cmpI_lt y.lo x.lo
    rw [decide_eq_decide] at this
    omega
  | _ => exact hp
def J67 (ys : List Rg) (w5 : World) (vs : List Value) (w' : World) : Prop :=
  match vs with | [v, .int _ i] => Kp no w5 w' ∧ ∃ k : Nat, i = k ∧ k ≤ ys.length ∧ OwnR w' w5.heap.size v (joinAll (ys.take k)) | _ => False
def M67 (ys : List Rg) (vs : List Value) (_ : World) : Nat := match vs with | [_, .int _ i] => ys.length - i.toNat | _ => 0
def JC67 (b : Bool) (w : World) (vs : List Value) (w' : World) : Prop := match vs with | [.bool b'] => b' = b ∧ w' = w | _ => False
theorem joined_len (out : List Rg) (r : Rg) : (joined out r).length ≤ out.length + 1 := by
  rcases List.eq_nil_or_concat out with rfl | ⟨I, l, rfl⟩
  · simp [joined]
  · rw [List.concat_eq_append, joined_snoc]; split <;> simp
theorem joinAll_len (s : List Rg) : ∀ k, k ≤ s.length → (joinAll (s.take k)).length ≤ k
  | 0, _ => by simp [joinAll]
  | k + 1, h => by
    rw [joinAll_take (by omega)]
    have := joined_len (joinAll (s.take k)) s[k]
    have := joinAll_len s k (by omega)
    omega
theorem joined_rok {out : List Rg} {r : Rg} (h : ∀ x ∈ out, x.ok) (hr : r.ok) : ∀ x ∈ joined out r, x.ok := by
  intro x hx
  rcases List.eq_nil_or_concat out with rfl | ⟨I, l, rfl⟩
  · simp [joined] at hx; subst hx; exact hr
  · rw [List.concat_eq_append] at *
    rw [joined_snoc] at hx
    split at hx
    · rcases List.mem_append.1 hx with hx | hx
      · exact h x (List.mem_append_left _ hx)
      · have hl := h l (by simp)
        rw [List.mem_singleton.1 hx]
        exact ⟨hl.1, Nat.max_lt.2 ⟨hl.2, hr.2⟩⟩
    · rcases List.mem_append.1 hx with hx | hx
      · exact h x hx
      · rw [List.mem_singleton.1 hx]; exact hr
theorem joinAll_rok {s : List Rg} (h : ∀ x ∈ s, x.ok) : ∀ k, k ≤ s.length → ∀ x ∈ joinAll (s.take k), x.ok
  | 0, _ => by simp [joinAll]
  | k + 1, hk => by
    rw [joinAll_take (by omega)]
    exact joined_rok (joinAll_rok h k (by omega)) (h _ (List.getElem_mem _))
theorem K67 {w : World} {a : Option Addr} {n c : Nat} {rs : List Rg} (hv : Rgs w (.slice a n c) rs) (hok : ∀ r ∈ rs, r.ok) (hl : rs.length ≤ 1048576) :
    Calls Cz.P 67 #[.slice a n c] w (CP (PoolPost rs w) (fun _ _ => False)) := by
  refine C67 ?_
  unfold B67
  refine (K102 hv hl).mono fun e w1 hp => ?_
  cases e with
  | returned r =>
    obtain ⟨hk1, b, rfl, hb⟩ := hp
    refine ⟨_, rfl, ifB_split (fun hbt => ⟨hk1, .inl ⟨hb.1 hbt, rfl⟩⟩) (fun hbf => ?_)⟩
    have hall : ∀ x ∈ rs, x.lo ≤ x.hi := by
      intro x hx
      rcases Nat.lt_or_ge x.hi x.lo with h | h
      · have := hb.2 ⟨x, hx, h⟩; rw [hbf] at this; cases this
      · exact h
    have hn := hv.len
    subst hn
    refine K104 fun k2 w2 hk2 e2 g2 => ⟨_, rfl, ?_⟩
    refine C103 ?_
    unfold B103
    refine (K123 (w0 := w) g2 hv (hk1.then hk2) hl).mono fun e w3 hp => ?_
    cases e with
    | returned r =>
      obtain ⟨hk3, a3, n3, c3, rfl, ho3⟩ := hp
      refine ⟨_, _, _, rfl, (K124 ho3 (by omega)).mono fun e w5 hp => ?_⟩
      cases e with
      | returned r =>
        obtain ⟨rfl, hk5, ys, hperm, hsort, hys⟩ := hp
        have hk25 : Kp no w2 w5 := hk3.trans hk5 (fun k hk hs => by have := (ho3.base_le k hs).1; omega)
        have hk05 : Kp no w w5 := (hk1.then hk2).then hk25
        have hyl : ys.length = rs.length := hperm.length_eq
        have hyok : ∀ r ∈ ys, r.ok := fun r hr => hok r (hperm.mem_iff.1 hr)
        have hyall : ∀ r ∈ ys, r.lo ≤ r.hi := fun r hr => hall r (hperm.mem_iff.1 hr)
        have hpool : joinAll ys = pool rs := (pool_sorted hperm hsort hall).uniq (pool_ok hall)
        have hn3 : n3 = ys.length := hys.len
        subst hn3
        refine ⟨rfl, _, _, _, rfl, J67 ys w5, M67 ys, ⟨.refl _ _, 0, rfl, Nat.zero_le _, .nil _ _ _ _⟩, ?_⟩
        rintro av nv cv x w6 ⟨hk6, k, rfl, hkl, ho6⟩
        unfold B67_l1
        have hnv : nv = (joinAll (ys.take k)).length := ho6.rd.len
        have hjl := joinAll_len ys k hkl
        have hjo := joinAll_rok hyok k hkl
        have hz5 := hk6.size
        refine ifB_dec (fun h => ?_) (fun h => ?_)
        · have hk' : k < ys.length := by omega
          have hys6 : Rgs w6 (.slice a3 ys.length c3) ys := hys.keep hk6 (fun _ _ _ _ => nf)
          obtain ⟨q, rfl, hc0, hc1⟩ := hys6.at hk'
          have hr := hyok _ (List.getElem_mem hk')
          have hr' := hr
          unfold Rg.ok at hr'
          have hi1 : IntKind.i64.wrap ((k : Int) + 1) = ((k + 1 : Nat) : Int) := by rw [wrap64 (by omega) (by omega)]; omega
          have hm : ys.length - (IntKind.i64.wrap ((k : Int) + 1)).toNat < ys.length - (k : Int).toNat := by rw [hi1]; omega
          refine need_and (dec (by omega)) (dec (by omega)) ?_
          rw [nn_some, show (k : Int).toNat * 2 = k * 2 by omega]
          refine ⟨_, _, ⟨hc0, hc1, trivial⟩, nw_i fun k26 w7 e7 hk7 g7 => st_i g7 (by simp) fun w8 hk8 g8 => st_i g8 (by simp) fun w9 hk9 g9 => ?_⟩
          have hk69 : Kp no w6 w9 := (hk7.trans hk8 (fun b hb h => by omega)).trans hk9 (fun b hb h => by omega)
          have hk69d : Kp no w6 w9.drew := hk69.then (.drew no _)
          have hod : OwnR w9.drew w5.heap.size (.slice av nv cv) (joinAll (ys.take k)) := ho6.keep hk69d .no
          have s26 := lt_of_get g9
          have g9d : w9.drew.heap[k26]? = some (.cells #[.int .u32 (ys[k].lo : Int), .int .u32 (ys[k].hi : Int)] 96 (0, 0)) := g9
          have htk := joinAll_take hk'
          have hjoin : ∀ w' v, Kp no w5 w' → OwnR w' w5.heap.size v (joined (joinAll (ys.take k)) ys[k]) → J67 ys w5 [v, .int .i64 (IntKind.i64.wrap ((k : Int) + 1))] w' ∧ M67 ys [v, .int .i64 (IntKind.i64.wrap ((k : Int) + 1))] w' < M67 ys [.slice av nv cv, .int .i64 (k : Int)] w6 := by
            intro w' v h1 h2
            exact ⟨⟨h1, k + 1, hi1, hk', by rw [htk]; exact h2⟩, hm⟩
          have happ : ∀ w', Kp no w6 w' → w'.heap[k26]? = some (.cells #[.int .u32 (ys[k].lo : Int), .int .u32 (ys[k].hi : Int)] 96 (0, 0)) → joined (joinAll (ys.take k)) ys[k] = joinAll (ys.take k) ++ [ys[k]] →
              (∃ (x43 : Int) (x44 : Int), (w'.cell? ⟨k26, 0, none⟩ = some (.int .u32 x43) ∧ w'.cell? ⟨k26, 1, none⟩ = some (.int .u32 x44) ∧ True) ∧ ∃ (a45 : Option Addr) (n46 : Nat) (c47 : Nat), ∃ w48 : World, Sem.run Cz.P (Instr.buildSlice 23 1 #[(0, (.agg #[(.int .u32 x43), (.int .u32 x44)]))]) w' = .ok (.slice a45 n46 c47) w48 ∧ ∃ (a49 : Option Addr) (n50 : Nat) (c51 : Nat), ∃ w52 : World, Sem.run Cz.P (Builtin.append_ #[23, 23] 23 #[(.slice av nv cv), (.slice a45 n46 c47)]) w48 = .ok (.slice a49 n50 c51) w52 ∧ B67_j1 (J67 ys w5) (M67 ys) av nv cv (k : Int) w6 a49 n50 c51 w52) := by
            intro w' hkw g hj
            obtain ⟨a1, n1, c1, w10, hr1, a2, n2, c2, w11, hr2, ho2, hk11⟩ := appE (ty := 23) E23 (by decide) (by decide) (ho6.keep hkw .no) ys[k] (cs := #[.int .u32 (ys[k].lo : Int), .int .u32 (ys[k].hi : Int)]) rfl (Nat.le_trans hz5 hkw.size) (by omega)
            refine ⟨_, _, ⟨cl g rfl, cl g rfl, trivial⟩, _, _, _, _, hr1, _, _, _, _, hr2, ?_⟩
            unfold B67_j1
            refine hjoin _ _ ((hk6.then hkw).trans hk11 (fun b hb hs => by have := (ho6.base_le b hs).1; omega)) ?_
            rw [hj]; exact ho2
          rcases List.eq_nil_or_concat (joinAll (ys.take k)) with hnil | ⟨I, l, hcat⟩
          · rw [hnil] at hnv
            have hn0 : nv = 0 := hnv
            subst hn0
            refine ⟨JC67 false w9.drew, ifB_dec (fun h => absurd h (by decide)) (fun _ => ⟨⟨trivial, rfl, rfl⟩, trivial, trivial, rfl, rfl⟩), ?_⟩
            rintro b35 w36 ⟨rfl, rfl⟩
            exact ifB_false.2 (happ _ hk69d g9d (by rw [hnil]; rfl))
          · rw [List.concat_eq_append] at hcat
            have hnI : nv = I.length + 1 := by rw [hnv, hcat]; simp
            subst hnI
            have hlr : l.ok := hjo l (by rw [hcat]; simp)
            unfold Rg.ok at hlr
            have hIlen : I.length ≤ 1048576 := by rw [hcat] at hjl; simp at hjl; omega
            have hw1 : IntKind.i64.wrap (((I.length + 1 : Nat) : Int) - 1) = (I.length : Int) := by rw [wrap64 (by omega) (by omega)]; omega
            have hw1' : (IntKind.i64.wrap (((I.length + 1 : Nat) : Int) - 1)).toNat * 2 = I.length * 2 := by rw [hw1]; omega
            have hrd := hod.rd
            rw [hcat] at hrd
            obtain ⟨bb, oo, hav, hcl⟩ := hrd.at (i := I.length) (by simp)
            have hgl : (I ++ [l])[I.length]'(by simp) = l := by simp
            rw [hgl] at hcl
            have hlast : w9.drew.cell? ⟨bb, oo + I.length * 2 + 1, none⟩ = some (.int .u32 (l.hi : Int)) := hcl 1 _ rfl
            rw [hw1']
            rw [hw1]
            have hj := joined_snoc I l ys[k]
            rw [← hcat] at hj
            subst hav
            simp only [nn_some, addk]
            refine ⟨JC67 (decide ((ys[k].lo : Int) ≤ l.hi + 1)) w9.drew, ifB_dec (fun _ => ⟨_, cl g9d rfl, need_and (dec (by omega)) (dec (by omega)) ⟨_, hlast, by rw [wrap64 (x := (l.hi : Int)) (by omega) (by omega), wrap64 (x := (l.hi : Int) + 1) (by omega) (by omega), wrap64 (x := (ys[k].lo : Int)) (by omega) (by omega)], rfl⟩⟩) (fun h => absurd h (by omega)), ?_⟩
            rintro b35 w36 ⟨rfl, rfl⟩
            refine ifB_dec (fun h2 => ?_) (fun h2 => happ _ hk69d g9d (by rw [hj, if_neg h2, hcat]))
            have hkdd : Kp no w9.drew w9.drew.drew := .drew no _
            have g9dd : w9.drew.drew.heap[k26]? = some (.cells #[.int .u32 (ys[k].lo : Int), .int .u32 (ys[k].hi : Int)] 96 (0, 0)) := g9
            refine need_and (dec (by omega)) (dec (by omega)) ⟨_, hlast, _, cl g9dd rfl, need_and (dec (by omega)) (dec (by omega)) ?_⟩
            have hodd : OwnR w9.drew.drew w5.heap.size (.slice (some ⟨bb, oo, none⟩) (I.length + 1) cv) (I ++ [l]) := by rw [← hcat]; exact hod.keep hkdd .no
            obtain ⟨b2, hb2, hst⟩ := hodd.set (i := I.length) (by simp) (j := 1) (by decide) (u := .int .u32 (if (ys[k].hi : Int) > l.hi then (ys[k].hi : Int) else l.hi)) (y := ⟨l.lo, max l.hi ys[k].hi⟩) (by
              rw [hgl]
              show [_, Value.int .u32 ((max l.hi ys[k].hi : Nat) : Int)] = [_, _]
              congr 3
              split <;> omega) (K := fun w42 => B67_j1 (J67 ys w5) (M67 ys) (some ⟨bb, oo, none⟩) (I.length + 1) cv (k : Int) w6 (some ⟨bb, oo, none⟩) (I.length + 1) cv w42) (by
              intro w' hkw how
              unfold B67_j1
              refine hjoin _ _ ((hk6.then (hk69d.then hkdd)).trans hkw (fun b hb hs => by have := (ho6.base_le b hs).1; omega)) ?_
              rw [hj, if_pos h2]
              rwa [List.set_append_right _ _ (Nat.le_refl _), Nat.sub_self, List.set_cons_zero] at how)
            cases hb2
            rw [Nat.zero_add]
            exact hst
        · have hk' : k = ys.length := by omega
          subst hk'
          rw [List.take_length, hpool] at ho6
          have hpok := pool_ok hall
          have hrok : ∀ r ∈ pool rs, r.ok := by
            have := joinAll_rok hyok ys.length (Nat.le_refl _)
            rwa [List.take_length, hpool] at this
          have hplen : (pool rs).length ≤ 1048576 := by
            have := joinAll_len ys ys.length (Nat.le_refl _)
            rw [List.take_length, hpool] at this
            omega
          refine (K68 ho6.rgs hrok hplen).mono fun e w7 hp => ?_
          cases e with
          | returned r =>
            obtain ⟨hk7, rfl⟩ := hp
            have hk07 := (hk05.then hk6).then hk7
            refine ⟨_, rfl, ifB_dec (fun h2 => ⟨hk07, .inr ⟨hall, .inl ⟨h2, rfl⟩⟩⟩) (fun h2 => ⟨hk07, .inr ⟨hall, .inr ⟨by omega, _, _, _, rfl, ?_⟩⟩⟩)⟩
            exact (ho6.keep hk7 .no).base hk05.size
          | _ => exact hp
      | _ => exact hp
    | _ => exact hp
  | _ => exact hp
end Go.Lf
end
