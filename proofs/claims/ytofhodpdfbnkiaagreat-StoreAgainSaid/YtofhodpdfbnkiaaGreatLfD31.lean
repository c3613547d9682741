/- Part 31 of the lemmas that a proof leans on; no claim is made here. By an AI agent. -/
import Derived.Test.YtofhodpdfbnkiaaGreatLfD09
import Derived.Test.YtofhodpdfbnkiaaGreatLfD11
import Derived.Test.YtofhodpdfbnkiaaGreatLfD30
section
set_option linter.unusedVariables false
set_option linter.unusedSimpArgs false
namespace Go.Lf
open Go Go.Proofs
structure TOk (T : List Ls) : Prop where
  right : ∀ x ∈ T, x.right = true
  lo : ∀ x ∈ T, 0 ≤ x.addr ∧ x.addr < 4294967296
  asc : T.Pairwise fun x y => x.addr < y.addr
  len : T.length ≤ 256
structure StS.ok (S : StS) : Prop where
  tab : TOk S.tab
  s1 : 0 ≤ S.state
  s2 : S.state ≤ 8
  l1 : 0 ≤ S.life
  l2 : S.life ≤ 536870912
theorem bare_right (a : Int) : (bare a 0 0).right = true := by
  unfold bare Ls.right tm held
  simp
  decide
theorem setT_addrs (T : List Ls) (x : Ls) : (setT T x).2.map (·.addr) = T.map (·.addr) := by
  unfold setT
  split
  · split
    · rename_i p hp
      obtain ⟨j, y⟩ := p
      obtain ⟨_, h2, h3⟩ := look_some hp
      rw [Nat.sub_zero] at h2
      apply List.ext_getElem?
      intro i
      simp only [List.getElem?_map, List.getElem?_set]
      by_cases h : j = i
      · subst h
        obtain ⟨hj, h2'⟩ := List.getElem?_eq_some_iff.1 h2
        simp [hj, h2', h3]
      · simp [h]
    · rfl
  · rfl
theorem TOk.set {T : List Ls} (h : TOk T) (x : Ls) : TOk (setT T x).2 := by
  have ha := setT_addrs T x
  have hmem : ∀ y ∈ (setT T x).2, y ∈ T ∨ (y = x ∧ x.right = true ∧ ∃ z ∈ T, z.addr = x.addr) := by
    intro y hy
    unfold setT at hy
    split at hy
    · rename_i hr
      split at hy
      · rename_i p hp
        obtain ⟨_, h2, h3⟩ := look_some hp
        rcases List.mem_or_eq_of_mem_set hy with h | h
        · exact .inl h
        · exact .inr ⟨h, hr, p.2, List.mem_of_getElem? h2, h3⟩
      · exact .inl hy
    · exact .inl hy
  refine ⟨fun y hy => ?_, fun y hy => ?_, ?_, by rw [setT_len]; exact h.len⟩
  · rcases hmem y hy with h1 | ⟨rfl, h1, _⟩
    · exact h.right y h1
    · exact h1
  · rcases hmem y hy with h1 | ⟨rfl, _, z, h1, h2⟩
    · exact h.lo y h1
    · rw [← h2]; exact h.lo z h1
  · have h1 : (T.map (·.addr)).Pairwise (· < ·) := List.pairwise_map.2 h.asc
    rw [← ha] at h1
    exact List.pairwise_map.1 h1
theorem StS.ok.doRec {S : StS} (h : S.ok) (l : List UInt8) : (doRec S l).ok := by
  unfold Lf.doRec
  split
  · exact h
  · split
    · split
      · exact ⟨h.tab.set _, h.s1, h.s2, h.l1, h.l2⟩
      · exact h
    · split
      · rename_i h2
        exact ⟨h.tab, by simp only; omega, by simp only; omega, h.l1, h.l2⟩
      · split
        · split
          · exact ⟨h.tab, h.s1, h.s2, by simp only; omega, by simp only; omega⟩
          · exact h
        · exact h
theorem StS.ok.fold : ∀ (ls : List (List UInt8)) {S : StS}, S.ok → (ls.foldl Lf.doRec S).ok
  | [], S, h => h
  | l :: ls, S, h => by rw [List.foldl_cons]; exact StS.ok.fold ls (h.doRec l)
theorem st0_ok {rs : List Rg} (hok : ∀ r ∈ rs, r.ok) (h : poolErr rs = 0) : (st0 rs).ok := by
  unfold poolErr at h
  split at h
  · cases h
  · rename_i h1
    split at h
    · cases h
    · rename_i h2
      have hall : ∀ r ∈ rs, r.lo ≤ r.hi := by
        intro r hr
        rcases Nat.lt_or_ge r.hi r.lo with h | h
        · exact (h1 ⟨r, hr, h⟩).elim
        · exact h
      obtain ⟨f1, f2, f3, f4, f5⟩ := pool_facts hok hall (by omega)
      refine ⟨⟨?_, ?_, ?_, ?_⟩, by show (0 : Int) ≤ 0; omega, by show (0 : Int) ≤ 8; omega, by show (0 : Int) ≤ 0; omega, by show (0 : Int) ≤ 536870912; omega⟩
      · intro x hx
        obtain ⟨a, ha, rfl⟩ := List.mem_map.1 hx
        exact bare_right _
      · intro x hx
        obtain ⟨a, ha, rfl⟩ := List.mem_map.1 hx
        have := f5 a ha
        show (0 : Int) ≤ ((a : Nat) : Int) ∧ ((a : Nat) : Int) < 4294967296
        omega
      · show ((addrs (pool rs)).map _).Pairwise _
        refine List.pairwise_map.2 (f3.imp fun {a b} h => ?_)
        show ((a : Nat) : Int) < ((b : Nat) : Int)
        omega
      · show (bares (pool rs)).length ≤ 256
        rw [bares_len]; exact f2
theorem openSt_ok {rs : List Rg} {D : Dk} (hok : ∀ r ∈ rs, r.ok) (h : (openD rs D).1 = 0) : (openSt rs D).ok := by
  refine StS.ok.fold _ (st0_ok hok ?_)
  unfold openD at h
  split at h
  · rename_i h1; exact (h1 h).elim
  · rename_i h1; exact Decidable.not_not.1 h1
def setStateS (S : StS) (D : Dk) (x : Int) : Int × StS × Dk := if x < 0 ∨ x > 8 then (1, S, D) else noteS S D (stRec x)
def setLifeS (S : StS) (D : Dk) (x : Int) : Int × StS × Dk := if x < 0 ∨ x > 536870912 then (1, S, D) else noteS S D (lifeRec x)
def syncS (S : StS) (D : Dk) : Int × StS × Dk := (D.sync.1, S, D.sync.2)
theorem K32 {w : World} {base p s : Nat} {S : StS} {D : Dk} (h : SA w base p s S D) (hD : D.ok) (x : Int) :
    Calls Cz.P 32 #[.pointer (some ⟨s, 0, none⟩), .int .i64 x] w (CP (OpPost SA PK base p s (setStateS S D x) w) (fun _ _ => False)) := by
  refine C32 ?_
  unfold B32 B32_j1 setStateS
  refine ifB_dec (fun h1 => ifB_true.2 ?_) (fun h1 => ifB_dec (fun h2 => ?_) (fun h2 => ?_))
  · rw [if_pos (.inl h1)]; exact ⟨.of (.refl _ _), rfl, h⟩
  · rw [if_pos (.inr h2)]; exact ⟨.of (.refl _ _), rfl, h⟩
  · rw [if_neg (by omega)]
    refine (K58 (s := x) (by omega) w).mono fun e w1 hp => ?_
    cases e with
    | returned r =>
      obtain ⟨hk1, a, n, c, rfl, ho⟩ := hp
      refine ⟨_, _, _, rfl, (K65 (h.keepN hk1) hD ho.bs (by simp [stRec]) (by simp [stRec])).mono fun e w2 hp => ?_⟩
      cases e with
      | returned r =>
        obtain ⟨hk2, rfl, hs⟩ := hp
        exact ⟨_, rfl, .then hk1 hk2, rfl, hs⟩
      | _ => exact hp
    | _ => exact hp
theorem K47 {w : World} {base p s : Nat} {S : StS} {D : Dk} (h : RSA w base p s S D) (hD : D.ok) (hT : S.tab.length ≤ 1048576) (x : Int) :
    Calls Cz.P 47 #[.pointer (some ⟨s, 0, none⟩), .int .i64 x] w (CP (OpPost RSA RK base p s (setStateS S D x) w) (fun _ _ => False)) := by
  refine C47 ?_
  unfold B47 B47_j1 setStateS
  refine ifB_dec (fun h1 => ifB_true.2 ?_) (fun h1 => ifB_dec (fun h2 => ?_) (fun h2 => ?_))
  · rw [if_pos (.inl h1)]; exact ⟨.of (.refl _ _), rfl, h⟩
  · rw [if_pos (.inr h2)]; exact ⟨.of (.refl _ _), rfl, h⟩
  · rw [if_neg (by omega)]
    have hb : Value.int IntKind.u8 (IntKind.u8.wrap x) = bv (UInt8.ofNat x.toNat) := by rw [bv_ofNat, Int.toNat_of_nonneg (by omega)]
    obtain ⟨a, n, c, w1, hr, hk1, ho⟩ := E22b (w := w) (stRec x) (by simp [stRec]) #[(0, (.int .u8 83)), (1, (.int .u8 (IntKind.u8.wrap x)))] (by rw [hb]; rfl)
    refine ⟨_, _, _, _, hr, (K84 (h.keepN hk1) hD hT ho.bs (by simp [stRec]) (by simp [stRec])).mono fun e w2 hp => ?_⟩
    cases e with
    | returned r =>
      obtain ⟨hk2, rfl, hs⟩ := hp
      exact ⟨_, rfl, .then hk1 hk2, rfl, hs⟩
    | _ => exact hp
theorem lifeRec_len (x : Int) : (lifeRec x).length = 5 := by simp [lifeRec, be_length]
theorem K30 {w : World} {base p s : Nat} {S : StS} {D : Dk} (h : SA w base p s S D) (hD : D.ok) (x : Int) :
    Calls Cz.P 30 #[.pointer (some ⟨s, 0, none⟩), .int .i64 x] w (CP (OpPost SA PK base p s (setLifeS S D x) w) (fun _ _ => False)) := by
  refine C30 ?_
  unfold B30 B30_j1 setLifeS
  refine ifB_dec (fun h1 => ifB_true.2 ?_) (fun h1 => ifB_dec (fun h2 => ?_) (fun h2 => ?_))
  · rw [if_pos (.inl h1)]; exact ⟨.of (.refl _ _), rfl, h⟩
  · rw [if_pos (.inr h2)]; exact ⟨.of (.refl _ _), rfl, h⟩
  · rw [if_neg (by omega)]
    refine (K59 (s := x) (by omega) w).mono fun e w1 hp => ?_
    cases e with
    | returned r =>
      obtain ⟨hk1, a, n, c, rfl, ho⟩ := hp
      refine ⟨_, _, _, rfl, (K65 (h.keepN hk1) hD ho.bs (by rw [lifeRec_len]; omega) (by rw [lifeRec_len]; omega)).mono fun e w2 hp => ?_⟩
      cases e with
      | returned r =>
        obtain ⟨hk2, rfl, hs⟩ := hp
        exact ⟨_, rfl, .then hk1 hk2, rfl, hs⟩
      | _ => exact hp
    | _ => exact hp
theorem K48 {w : World} {base p s : Nat} {S : StS} {D : Dk} (h : RSA w base p s S D) (hD : D.ok) (hT : S.tab.length ≤ 1048576) (x : Int) :
    Calls Cz.P 48 #[.pointer (some ⟨s, 0, none⟩), .int .i64 x] w (CP (OpPost RSA RK base p s (setLifeS S D x) w) (fun _ _ => False)) := by
  refine C48 ?_
  unfold B48 B48_j1 setLifeS
  refine ifB_dec (fun h1 => ifB_true.2 ?_) (fun h1 => ifB_dec (fun h2 => ?_) (fun h2 => ?_))
  · rw [if_pos (.inl h1)]; exact ⟨.of (.refl _ _), rfl, h⟩
  · rw [if_pos (.inr h2)]; exact ⟨.of (.refl _ _), rfl, h⟩
  · rw [if_neg (by omega)]
    refine (K86 (s := x) (by omega) (by omega) w).mono fun e w1 hp => ?_
    cases e with
    | returned r =>
      obtain ⟨hk1, a, n, c, rfl, ho⟩ := hp
      refine ⟨_, _, _, rfl, (K84 (h.keepN hk1) hD hT ho.bs (by rw [lifeRec_len]; omega) (by rw [lifeRec_len]; omega)).mono fun e w2 hp => ?_⟩
      cases e with
      | returned r =>
        obtain ⟨hk2, rfl, hs⟩ := hp
        exact ⟨_, rfl, .then hk1 hk2, rfl, hs⟩
      | _ => exact hp
    | _ => exact hp
theorem K31 {w : World} {base p s : Nat} {S : StS} {D : Dk} (h : SA w base p s S D) (hD : D.ok) :
    Calls Cz.P 31 #[.pointer (some ⟨s, 0, none⟩)] w (CP (OpPost SA PK base p s (syncS S D) w) (fun _ _ => False)) := by
  refine C31 ?_
  unfold B31
  obtain ⟨t, b, q, hS, hq, hd, b1, b2, b3⟩ := h
  have hpb := SA.pb hS hd b1 b2 b3
  simp only [nn_some]
  refine ⟨_, cl hS.1 rfl, _, cl hq rfl, (K66 hd hD).mono fun e w1 hp => ?_⟩
  cases e with
  | returned r =>
    obtain ⟨hk1, rfl, hd1⟩ := hp
    have np : ∀ {k o}, w.heap[k]? = some o → (∀ cs, o ≠ .cells cs 72 (0, 0)) → ¬ k = p := by
      intro k o ho hne h; subst h
      obtain ⟨x, hx, _⟩ := hd
      rw [ho] at hx; cases hx; exact hne _ rfl
    refine ⟨_, rfl, ⟨_, hk1, fun k h => hpb k (.inr (.inr h))⟩, rfl, t, b, q, ⟨hk1.at hS.1 (np hS.1 (by simp)), hk1.at hS.2.1 (np hS.2.1 (by simp)), hk1.at hS.2.2 (np hS.2.2 (by simp))⟩, hk1.at hq (np hq (by simp)), hd1, b1, b2, b3⟩
  | _ => exact hp
theorem K49 {w : World} {base p s : Nat} {S : StS} {D : Dk} (h : RSA w base p s S D) (hD : D.ok) :
    Calls Cz.P 49 #[.pointer (some ⟨s, 0, none⟩)] w (CP (OpPost RSA RK base p s (syncS S D) w) (fun _ _ => False)) := by
  refine C49 ?_
  unfold B49
  obtain ⟨t, v, q, hS, hq, hd, b1, b2, b3⟩ := h
  have hpb := RSA.pb hS hd b1 b2 b3
  simp only [nn_some]
  refine ⟨_, cl hS.1 rfl, _, cl hq rfl, (K87 hd hD).mono fun e w1 hp => ?_⟩
  cases e with
  | returned r =>
    obtain ⟨hk1, rfl, hd1⟩ := hp
    have np : ∀ {k o}, w.heap[k]? = some o → (∀ cs, o ≠ .cells cs 54 (0, 0)) → ¬ k = p := by
      intro k o ho hne h; subst h
      obtain ⟨x, hx, _⟩ := hd
      rw [ho] at hx; cases hx; exact hne _ rfl
    have hvp : ¬ v.ownBlock = some p := by obtain ⟨x, hx, _⟩ := hd; exact hS.2.2.ne hx (by simp)
    refine ⟨_, rfl, ⟨_, hk1, fun k h => hpb k (.inr (.inr h))⟩, rfl, t, v, q, ⟨hk1.at hS.1 (np hS.1 (by simp)), hk1.at hS.2.1 (np hS.2.1 (by simp)), hS.2.2.kept hk1 (fun b hb h => hvp (h ▸ hb))⟩, hk1.at hq (np hq (by simp)), hd1, b1, b2, b3⟩
  | _ => exact hp
theorem K23 {w : World} {base p s : Nat} {S : StS} {D : Dk} (h : SA w base p s S D) : Calls Cz.P 23 #[.pointer (some ⟨s, 0, none⟩)] w (CP (fun r w' => w' = w ∧ r = .int .i64 S.state) (fun _ _ => False)) := by
  refine C23 ?_
  unfold B23
  obtain ⟨t, b, q, hS, hq, hd, b1, b2, b3⟩ := h
  rw [nn_some, addk]
  exact ⟨_, cl hS.1 rfl, rfl, rfl⟩
theorem K24 {w : World} {base p s : Nat} {S : StS} {D : Dk} (h : SA w base p s S D) : Calls Cz.P 24 #[.pointer (some ⟨s, 0, none⟩)] w (CP (fun r w' => w' = w ∧ r = .int .i64 S.life) (fun _ _ => False)) := by
  refine C24 ?_
  unfold B24
  obtain ⟨t, b, q, hS, hq, hd, b1, b2, b3⟩ := h
  rw [nn_some, addk]
  exact ⟨_, cl hS.1 rfl, rfl, rfl⟩
/-- the place of a store's table -/
def TabOf (w : World) (s t : Nat) : Prop := ∃ cs, w.heap[s]? = some (.cells cs 81 (0, 0)) ∧ cs[1]? = some (.pointer (some ⟨t, 0, none⟩))
theorem K21 {w : World} {base p s : Nat} {S : StS} {D : Dk} (h : SA w base p s S D) : Calls Cz.P 21 #[.pointer (some ⟨s, 0, none⟩)] w (CP (fun r w' => w' = w ∧ ∃ t, r = .pointer (some ⟨t, 0, none⟩) ∧ TabAt w t S.tab) (fun _ _ => False)) := by
  refine C21 ?_
  unfold B21
  obtain ⟨t, b, q, hS, hq, hd, b1, b2, b3⟩ := h
  rw [nn_some, addk]
  exact ⟨_, cl hS.1 rfl, rfl, t, rfl, b, hS.2⟩
theorem K27 {w : World} {base p s : Nat} {S : StS} {D : Dk} (h : SA w base p s S D) (hD : D.ok) : Calls Cz.P 27 #[.pointer (some ⟨s, 0, none⟩)] w (CP (fun r w' => Kp no w w' ∧ r = .int .i64 ((scan D.b).1.length : Int)) (fun _ _ => False)) := by
  refine C27 ?_
  unfold B27
  obtain ⟨t, b, q, hS, hq, hd, b1, b2, b3⟩ := h
  rw [nn_some]
  refine ⟨_, cl hS.1 rfl, (K63 hq hd hD).mono fun e w1 hp => ?_⟩
  cases e with
  | returned r =>
    obtain ⟨hk1, rfl⟩ := hp
    exact ⟨_, rfl, hk1, rfl⟩
  | _ => exact hp
/-- equal leases, as the code compares them -/
def eqL (x y : Ls) : Bool := (x.addr == y.addr) && ((x.bind == y.bind) && ((x.client.toList == y.client.toList) && ((x.till == y.till) && ((x.acked == y.acked) && ((x.told == y.told) && ((x.at_ == y.at_) && ((x.ver == y.ver) && true)))))))
theorem eqL_iff (x y : Ls) : eqL x y = true ↔ x = y := by
  obtain ⟨a, b, c, d, e, f, g, h⟩ := x
  obtain ⟨a', b', c', d', e', f', g', h'⟩ := y
  unfold eqL
  simp only [Bool.and_eq_true, beq_iff_eq, Bool.and_true, Ls.mk.injEq, ByteArray.toList_eq]
  have : (c.data.toList = c'.data.toList) ↔ c = c' := by
    constructor
    · intro h
      have := Array.toList_inj.1 h
      cases c; cases c'; simp at this; rw [this]
    · intro h; rw [h]
  rw [this]
def J26 (w : World) (A B : List Ls) (vs : List Value) (w' : World) : Prop := match vs with | [.int _ i] => ∃ k : Nat, i = k ∧ k ≤ A.length ∧ Kp no w w' ∧ A.take k = B.take k | _ => False
def M26 (A : List Ls) (vs : List Value) (_ : World) : Nat := match vs with | [.int _ i] => A.length - i.toNat | _ => 0
theorem K26 {w : World} {a a' : Option Addr} {n n' c c' : Nat} {A B : List Ls} (hA : RdS SL w (.slice a n c) A) (hB : RdS SL w (.slice a' n' c') B) (hl : A.length ≤ 1048576) (hl' : B.length ≤ 1048576) :
    Calls Cz.P 26 #[.slice a n c, .slice a' n' c'] w (CP (fun r w' => Kp no w w' ∧ ∃ b : Bool, r = .bool b ∧ (b = true ↔ A = B)) (fun _ _ => False)) := by
  refine C26 ?_
  have h1 := hA.len
  have h2 := hB.len
  subst h1 h2
  unfold B26
  refine ifB_split (fun hne => ?_) (fun he => ?_)
  · have hne : ¬ A.length = B.length := by
      intro h; rw [h] at hne; simp at hne
    exact ⟨.refl _ _, false, rfl, by simp, fun h => (hne (by rw [h])).elim⟩
  · have he : A.length = B.length := by
      have : (A.length : Int) = B.length := by simpa using he
      omega
    refine ⟨J26 w A B, M26 A, ⟨0, rfl, Nat.zero_le _, .refl _ _, by simp⟩, ?_⟩
    rintro x w1 ⟨k, rfl, hk, hk1, htk⟩
    unfold B26_l1
    refine ifB_dec (fun hlt => ?_) (fun hlt => ?_)
    · have hkA : k < A.length := by omega
      have hkB : k < B.length := by omega
      have hkd := hk1.then (Kp.drew no w1)
      have hA1 := hA.keepN hkd
      have hB1 := hB.keepN hkd
      obtain ⟨b1, o1, rfl, _⟩ := hA1.at hkA
      obtain ⟨b2, o2, rfl, _⟩ := hB1.at hkB
      have hi1 : IntKind.i64.wrap ((k : Int) + 1) = ((k + 1 : Nat) : Int) := by rw [wrap64 (by omega) (by omega)]; omega
      refine need_and (dec (by omega)) (dec (by omega)) ?_
      rw [nn_some, show (k : Int).toNat = k from rfl]
      refine rdL hA1 hkA (need_and (dec (by omega)) (dec (by omega)) ?_)
      rw [nn_some]
      refine rdL hB1 hkB ?_
      have hst : ∀ (X : List Ls) (h : k < X.length), X.take (k + 1) = X.take k ++ [X[k]] := by
        intro X h; rw [List.take_add_one, List.getElem?_eq_getElem h]; rfl
      show ifB (!(eqL A[k] B[k])) _ _
      cases hq : eqL A[k] B[k] with
      | true =>
        have := (eqL_iff _ _).1 hq
        refine ifB_false.2 ⟨⟨k + 1, hi1, hkA, hkd, by rw [hst A hkA, hst B hkB, htk, this]⟩, ?_⟩
        show A.length - (IntKind.i64.wrap ((k : Int) + 1)).toNat < A.length - (k : Int).toNat
        rw [hi1]; omega
      | false =>
        have hne : ¬ A[k] = B[k] := fun h => by rw [(eqL_iff _ _).2 h] at hq; cases hq
        exact ifB_true.2 ⟨hkd, false, rfl, by simp, fun h => by subst h; exact (hne rfl).elim⟩
    · have hkA : k = A.length := by omega
      subst hkA
      rw [List.take_length, List.take_of_length_le (by omega)] at htk
      exact ⟨hk1, true, rfl, fun _ => htk, fun _ => rfl⟩
end Go.Lf
end

section
set_option linter.unusedVariables false
set_option linter.unusedSimpArgs false
namespace Go.Lf
open Go Go.Proofs
def leaseRecs (T : List Ls) : List (List UInt8) := (T.filter fun x => !eqL x (bare x.addr 0 0)).map fun x => 76 :: x.enc
def recsOf (S : StS) : List (List UInt8) := [stRec S.state, lifeRec S.life] ++ leaseRecs S.tab
def compactS (S : StS) (D : Dk) : Int × StS × Dk := ((D.compact (recsOf S)).1, S, (D.compact (recsOf S)).2)
theorem leaseRecs_take {T : List Ls} {k : Nat} (h : k < T.length) : leaseRecs (T.take (k + 1)) = leaseRecs (T.take k) ++ (if eqL T[k] (bare T[k].addr 0 0) = true then [] else [76 :: T[k].enc]) := by
  unfold leaseRecs
  rw [List.take_add_one, List.getElem?_eq_getElem h, List.filter_append, List.map_append]
  congr 1
  simp only [Option.toList]
  rw [List.filter_cons]
  cases hq : eqL T[k] (bare T[k].addr 0 0) with
  | true => simp
  | false => simp
theorem leaseRecs_len (T : List Ls) : (leaseRecs T).length ≤ T.length := by
  unfold leaseRecs; rw [List.length_map]; exact List.length_filter_le _ _
theorem OwnBss.two {w : World} {base : Nat} {u v : Value} {l m : List UInt8} (hu : OwnB w base u l) (hv : OwnB w base v m) (hb : base ≤ w.heap.size) :
    ∃ a n c w', (Instr.buildSlice 56 2 #[(0, u), (1, v)]).run Cz.P w = .ok (.slice a n c) w' ∧ Kp no w w' ∧ OwnBss w' base (.slice a n c) [l, m] := by
  have hu1 : u.oneCell' = true := by obtain ⟨a, c, rfl⟩ := own_slice hu; rfl
  have hv1 : v.oneCell' = true := by obtain ⟨a, c, rfl⟩ := own_slice hv; rfl
  have hk : Kp no w (w.alloc (.cells #[u, v] 22)) := .alloc _ _ _
  refine ⟨_, _, _, _, E56b2 w u v hu1 hv1, hk, [u, v], ?_, ?_⟩
  · exact World.ownsRow_lit w #[u, v] 2 hb (by unfold maxLen; omega) rfl
  · intro i hi
    match i, hi with
    | 0, _ => exact ⟨u, rfl, own_keep hu hk .no⟩
    | 1, _ => exact ⟨v, rfl, own_keep hv hk .no⟩
def J25 (w0 : World) (u : Value) (T : List Ls) (pre : List (List UInt8)) (vs : List Value) (w' : World) : Prop :=
  match vs with | [v, .int _ i] => ∃ k : Nat, i = k ∧ k ≤ T.length ∧ Kp no w0 w' ∧ RdT SL 49 w' u T ∧ OwnBss w' w0.heap.size v (pre ++ leaseRecs (T.take k)) | _ => False
def M25 (T : List Ls) (vs : List Value) (_ : World) : Nat := match vs with | [_, .int _ i] => T.length - i.toNat | _ => 0
/-- what the log's Compact leaves -/
theorem compact_fin {w w1 : World} {base p s t b q : Nat} {S : StS} {D : Dk} (hS : StP w s t b (.pointer (some ⟨q, 0, none⟩)) S) (hq : LogAt 112 w q p) (hd : DkAt 72 w p D) (b1 : base ≤ s) (b2 : base ≤ b) (b3 : base ≤ p) {D' : Dk} (hk1 : Kp (fun k => k = p) w w1) (hd1 : DkAt 72 w1 p D') : PK base w w1 ∧ SA w1 base p s S D' := by
  have hpb := SA.pb hS hd b1 b2 b3
  have np : ∀ {k o}, w.heap[k]? = some o → (∀ cs, o ≠ .cells cs 72 (0, 0)) → ¬ k = p := by
    intro k o ho hne h; subst h
    obtain ⟨x, hx, _⟩ := hd
    rw [ho] at hx; cases hx; exact hne _ rfl
  exact ⟨⟨_, hk1, fun k h => hpb k (.inr (.inr h))⟩, t, b, q, ⟨hk1.at hS.1 (np hS.1 (by simp)), hk1.at hS.2.1 (np hS.2.1 (by simp)), hk1.at hS.2.2 (np hS.2.2 (by simp))⟩, hk1.at hq (np hq (by simp)), hd1, b1, b2, b3⟩
theorem rcompact_fin {w w1 : World} {base p s t q : Nat} {v : Value} {S : StS} {D : Dk} (hS : RStP w s t v (.pointer (some ⟨q, 0, none⟩)) S) (hq : LogAt 123 w q p) (hd : DkAt 54 w p D) (b1 : base ≤ s) (b2 : ∀ k, v.ownBlock = some k → base ≤ k) (b3 : base ≤ p) {D' : Dk} (hk1 : Kp (fun k => k = p) w w1) (hd1 : DkAt 54 w1 p D') : RK base w w1 ∧ RSA w1 base p s S D' := by
  have hpb := RSA.pb hS hd b1 b2 b3
  have np : ∀ {k o}, w.heap[k]? = some o → (∀ cs, o ≠ .cells cs 54 (0, 0)) → ¬ k = p := by
    intro k o ho hne h; subst h
    obtain ⟨x, hx, _⟩ := hd
    rw [ho] at hx; cases hx; exact hne _ rfl
  have hvp : ¬ v.ownBlock = some p := by obtain ⟨x, hx, _⟩ := hd; exact hS.2.2.ne hx (by simp)
  exact ⟨⟨_, hk1, fun k h => hpb k (.inr (.inr h))⟩, t, v, q, ⟨hk1.at hS.1 (np hS.1 (by simp)), hk1.at hS.2.1 (np hS.2.1 (by simp)), hS.2.2.kept hk1 (fun b hb h => hvp (h ▸ hb))⟩, hk1.at hq (np hq (by simp)), hd1, b1, b2, b3⟩
theorem K25 {w : World} {base p s : Nat} {S : StS} {D : Dk} (h : SA w base p s S D) (hD : D.ok) (hok : S.ok) :
    Calls Cz.P 25 #[.pointer (some ⟨s, 0, none⟩)] w (CP (OpPost SA PK base p s (compactS S D) w) (fun _ _ => False)) := by
  refine C25 ?_
  unfold B25
  have hkd : Kp no w w.drew := .drew no _
  obtain ⟨t, b, q, hS, hq, hd, b1, b2, b3⟩ := h
  have hSd := hS.keepN hkd
  simp only [nn_some, addk, Nat.zero_add]
  refine ⟨_, cl hSd.1 rfl, _, cl hSd.1 rfl, (K58 hok.s1 _).mono fun e w1 hp => ?_⟩
  cases e with
  | returned r =>
    obtain ⟨hk1, a8, n9, c10, rfl, ho8⟩ := hp
    refine ⟨_, _, _, rfl, ⟨⟨hk1.cellD hSd.1 nf, trivial⟩, trivial⟩, (K59 hok.l1 _).mono fun e w2 hp => ?_⟩
    cases e with
    | returned r =>
      obtain ⟨hk2, a13, n14, c15, rfl, ho13⟩ := hp
      have z1 := hk1.size
      have z2 := hk2.size
      obtain ⟨a18, n19, c20, w3, hr3, hk3, ho3⟩ := OwnBss.two (own_keep ho8 hk2 .no) (own_base ho13 z1) (by omega)
      have hk03 : Kp no w w3 := ((hkd.then hk1).then hk2).then hk3
      have hS3 := hS.keepN hk03
      refine ⟨_, _, _, rfl, _, _, _, _, hr3, _, cl hS3.1 rfl, (K22 ⟨b, hS3.2⟩ (by have := hok.tab.len; omega) hok.tab.asc).mono fun e w4 hp => ?_⟩
      cases e with
      | returned r =>
        obtain ⟨hk4, a24, n25, c26, rfl, hrd⟩ := hp
        have hlen := hok.tab.len
        have hn := hrd.1.len
        subst hn
        refine ⟨_, _, _, rfl, J25 w.drew (.slice a24 S.tab.length c26) S.tab [stRec S.state, lifeRec S.life], M25 S.tab, ⟨0, rfl, Nat.zero_le _, (hk1.then hk2).then (hk3.then hk4), hrd, by
          have := ho3.keep hk4 .no .no
          simpa [leaseRecs] using this⟩, ?_⟩
        rintro av nv cv x w5 ⟨k, rfl, hk, hk5, hrd5, ho5⟩
        unfold B25_l1
        have hk05 : Kp no w w5 := hkd.then hk5
        have hlr := leaseRecs_len (S.tab.take k)
        rw [List.length_take] at hlr
        refine ifB_dec (fun hlt => ?_) (fun hlt => ?_)
        · have hk' : k < S.tab.length := by omega
          obtain ⟨b5, o5, rfl, _⟩ := hrd5.1.at hk'
          have hi1 : IntKind.i64.wrap ((k : Int) + 1) = ((k + 1 : Nat) : Int) := by rw [wrap64 (by omega) (by omega)]; omega
          have hm : S.tab.length - (IntKind.i64.wrap ((k : Int) + 1)).toNat < S.tab.length - (k : Int).toNat := by rw [hi1]; omega
          have hxr := hok.tab.right _ (List.getElem_mem hk')
          have hxa := hok.tab.lo _ (List.getElem_mem hk')
          have htk := leaseRecs_take hk'
          refine need_and (dec (by omega)) (dec (by omega)) ?_
          rw [nn_some, show (k : Int).toNat = k from rfl]
          refine rdL hrd5.1 hk' (nw_i fun k6 w6 e6 hk6 g6 => stL S.tab[k] (x := bare 0 0 0) g6 fun w7 hk7 g7 => ?_)
          have hk57 : Kp no w5 w7 := hk6.trans hk7 (fun k hk h => by omega)
          have hk57d : Kp no w5 w7.drew := hk57.then (.drew no _)
          have g7d : w7.drew.heap[k6]? = some (.cells S.tab[k].cells 49 (0, 0)) := g7
          refine rd8 (x := S.tab[k]) g7d ⟨_, cl g7d rfl, (K60 _ 0 0 _).mono fun e w8 hp => ?_⟩
          cases e with
          | returned r =>
            obtain ⟨hk8, rfl⟩ := hp
            have hc := fun i => hk8.cellD (i := i) g7d nf
            have hk58 := hk57d.then hk8
            have z5 := hk5.size
            have z58 := hk58.size
            have zw : w.drew.heap.size ≤ w5.heap.size := hk5.size
            refine ⟨_, _, _, _, _, _, _, _, rfl, ⟨⟨hc 0, hc 1, hc 2, hc 3, hc 4, hc 5, hc 6, hc 7, trivial⟩, trivial⟩, ?_⟩
            show ifB (!(eqL S.tab[k] (bare S.tab[k].addr 0 0))) _ _
            have ho58 := ho5.keep hk58 .no .no
            cases hq2 : eqL S.tab[k] (bare S.tab[k].addr 0 0) with
            | true =>
              rw [hq2, if_pos rfl, List.append_nil] at htk
              refine ifB_false.2 ?_
              unfold B25_j1
              exact ⟨⟨k + 1, hi1, hk', hk5.then hk58, hrd5.keep hk58 .no, by rw [htk]; exact ho58⟩, hm⟩
            | false =>
              rw [hq2, if_neg (by simp)] at htk
              refine ifB_true.2 (rd8 (x := S.tab[k]) (hk8.at g7d nf) ((K61 hxr hxa w8).mono fun e w9 hp => ?_))
              cases e with
              | returned r =>
                obtain ⟨hk9, a9, n9', c9, rfl, ho9⟩ := hp
                have z9 := hk9.size
                have ho59 := ho58.keep hk9 .no .no
                obtain ⟨_, _, hx⟩ := ho59.slice
                cases hx
                obtain ⟨a1, n1, c1, w10, hr1, a2, n2, c2, w11, hr2, ho2, hk11⟩ := appBss (ty := 56) ho59 (own_base ho9 (by omega)) (by omega) (by rw [List.length_append]; simp; omega)
                refine ⟨_, _, _, rfl, _, _, _, _, hr1, _, _, _, _, hr2, ?_⟩
                unfold B25_j1
                obtain ⟨ss, hoo, _⟩ := id ho59
                refine ⟨⟨k + 1, hi1, hk', ?_, (hrd5.keep (hk58.then hk9) .no).keep hk11 (NoT.own hoo (by decide)), by rw [htk, ← List.append_assoc]; exact ho2⟩, hm⟩
                exact ((hk5.then hk58).then hk9).trans hk11 (fun j hj hs => by have := ho59.base_le j hs; omega)
              | _ => exact hp
          | _ => exact hp
        · have hk' : k = S.tab.length := by omega
          subst hk'
          rw [List.take_length] at ho5
          have hS5 := hS.keepN hk05
          have hq5 : LogAt 112 w5 q p := hk05.at hq nf
          have hd5 := hd.keep hk05 nf .no
          rw [nn_some]
          refine ⟨_, cl hS5.1 rfl, (K62 hq5 hd5 hD (ho5.base (Nat.zero_le _)) (by have := leaseRecs_len S.tab; rw [List.length_append]; simp; omega)).mono fun e w6 hp => ?_⟩
          cases e with
          | returned r =>
            obtain ⟨hk6, rfl, hd6⟩ := hp
            obtain ⟨f1, f2⟩ := compact_fin hS5 hq5 hd5 b1 b2 b3 hk6 hd6
            exact ⟨_, rfl, .then hk05 f1, rfl, f2⟩
          | _ => exact hp
      | _ => exact hp
    | _ => exact hp
  | _ => exact hp
end Go.Lf
end

section
set_option linter.unusedVariables false
set_option linter.unusedSimpArgs false
namespace Go.Lf
open Go Go.Proofs
def J50a (w : World) (S : StS) (vs : List Value) (w' : World) : Prop := match vs with | [v] => Kp no w w' ∧ OwnBss w' w.heap.size v [stRec S.state, lifeRec S.life] | _ => False
def J50 (w : World) (T : List Ls) (pre : List (List UInt8)) (vs : List Value) (w' : World) : Prop :=
  match vs with | [v, .int _ i] => ∃ k : Nat, i = k ∧ k ≤ T.length ∧ Kp no w w' ∧ OwnBss w' w.heap.size v (pre ++ leaseRecs (T.take k)) | _ => False
theorem rdLk {w w' : World} {q : Addr} {n c : Nat} {xs : List Ls} (h : RdS SL w (.slice (some q) n c) xs) (hk : Kp no w w') {z : Nat} (hz : z < xs.length) :
    w'.cell? (q.add (z * 8)) = w.cell? (q.add (z * 8)) ∧ w'.cell? ((q.add (z * 8)).add 1) = w.cell? ((q.add (z * 8)).add 1) ∧ w'.cell? ((q.add (z * 8)).add 2) = w.cell? ((q.add (z * 8)).add 2) ∧ w'.cell? ((q.add (z * 8)).add 3) = w.cell? ((q.add (z * 8)).add 3) ∧ w'.cell? ((q.add (z * 8)).add 4) = w.cell? ((q.add (z * 8)).add 4) ∧ w'.cell? ((q.add (z * 8)).add 5) = w.cell? ((q.add (z * 8)).add 5) ∧ w'.cell? ((q.add (z * 8)).add 6) = w.cell? ((q.add (z * 8)).add 6) ∧ w'.cell? ((q.add (z * 8)).add 7) = w.cell? ((q.add (z * 8)).add 7) ∧ True := by
  obtain ⟨b, o, hq, hc⟩ := h.at hz
  cases hq
  simp only [addk]
  have key : ∀ j u, (SL.enc xs[z])[j]? = some u → w'.cell? ⟨b, o + z * 8 + j, none⟩ = w.cell? ⟨b, o + z * 8 + j, none⟩ := fun j u hu => (hk.cell (hc j u hu) nf).trans (hc j u hu).symm
  exact ⟨key 0 _ rfl, key 1 _ rfl, key 2 _ rfl, key 3 _ rfl, key 4 _ rfl, key 5 _ rfl, key 6 _ rfl, key 7 _ rfl, trivial⟩
theorem K50 {w : World} {base p s : Nat} {S : StS} {D : Dk} (h : RSA w base p s S D) (hD : D.ok) (hok : S.ok) :
    Calls Cz.P 50 #[.pointer (some ⟨s, 0, none⟩)] w (CP (OpPost RSA RK base p s (compactS S D) w) (fun _ _ => False)) := by
  refine C50 ?_
  unfold B50
  have hkd : Kp no w w.drew := .drew no _
  obtain ⟨t, v, q, hS, hq, hd, b1, b2, b3⟩ := h
  have hSd := hS.keepN hkd
  have hb : Value.int IntKind.u8 (IntKind.u8.wrap S.state) = bv (UInt8.ofNat S.state.toNat) := by rw [bv_ofNat, Int.toNat_of_nonneg hok.s1]
  have hmk : ∀ w', ∃ a n c w'', (Instr.buildSlice 22 2 #[(0, (.int .u8 83)), (1, (.int .u8 (IntKind.u8.wrap S.state)))]).run Cz.P w' = .ok (.slice a n c) w'' ∧ Kp no w' w'' ∧ OwnB w'' w'.heap.size (.slice a n c) (stRec S.state) :=
    fun w' => E22b (w := w') (stRec S.state) (by simp [stRec]) #[(0, (.int .u8 83)), (1, (.int .u8 (IntKind.u8.wrap S.state)))] (by rw [hb]; rfl)
  have hlm : S.life ≤ 9223372036854775807 := by have := hok.l2; omega
  refine ⟨J50a w S, ?_, ?_⟩
  · simp only [nn_some, addk, Nat.zero_add]
    refine ⟨_, cl hSd.1 rfl, _, cl hSd.1 rfl, ?_, ?_⟩
    · obtain ⟨a9, n10, c11, w1, hr1, hk1, ho1⟩ := hmk w.drew
      refine ⟨_, _, _, _, hr1, ⟨⟨hk1.cellD hSd.1 nf, trivial⟩, trivial⟩, (K86 hok.l1 hlm w1).mono fun e w2 hp => ?_⟩
      cases e with
      | returned r =>
        obtain ⟨hk2, a, n, c, rfl, ho2⟩ := hp
        have z1 := hk1.size
        have z2 := hk2.size
        obtain ⟨a18, n19, c20, w3, hr3, hk3, ho3⟩ := OwnBss.two (own_keep ho1 hk2 .no) (own_base ho2 z1) (by omega)
        exact ⟨_, _, _, rfl, _, _, _, _, hr3, ((hkd.then hk1).then hk2).then hk3, ho3⟩
      | _ => exact hp
    · refine (K86 hok.l1 hlm _).mono fun e w1 hp => ?_
      cases e with
      | returned r =>
        obtain ⟨hk1, a, n, c, rfl, ho1⟩ := hp
        obtain ⟨a9, n10, c11, w2, hr2, hk2, ho2⟩ := hmk w1
        have z1 := hk1.size
        have z2 := hk2.size
        obtain ⟨a18, n19, c20, w3, hr3, hk3, ho3⟩ := OwnBss.two (own_base ho2 z1) (own_keep ho1 hk2 .no) (by omega)
        exact ⟨_, _, _, rfl, ⟨⟨hk1.cellD hSd.1 nf, trivial⟩, trivial⟩, _, _, _, _, hr2, _, _, _, _, hr3, ((hkd.then hk1).then hk2).then hk3, ho3⟩
      | _ => exact hp
  · rintro a35 n36 c37 w4 ⟨hk4, ho4⟩
    have hlen := hok.tab.len
    refine ⟨J50 w S.tab [stRec S.state, lifeRec S.life], M25 S.tab, ⟨0, rfl, Nat.zero_le _, hk4, by simpa [leaseRecs] using ho4⟩, ?_⟩
    rintro av nv cv x w5 ⟨k, rfl, hk, hk5, ho5⟩
    unfold B50_l1
    have hS5 := hS.keepN hk5
    have hlr := leaseRecs_len (S.tab.take k)
    rw [List.length_take] at hlr
    obtain ⟨a0, c0, rfl⟩ := hS.2.2.slice
    simp only [nn_some, addk, Nat.zero_add]
    refine ⟨_, cl hS5.1 rfl, _, _, _, cl hS5.2.1 rfl, ifB_dec (fun hlt => ?_) (fun hlt => ?_)⟩
    · have hk' : k < S.tab.length := by omega
      have hk5d : Kp no w5 w5.drew := .drew no _
      have hS5d := hS5.keepN hk5d
      obtain ⟨b5, c5, hx⟩ := hS5d.2.2.slot (by omega)
      cases hx
      have hrd5 := hS5d.2.2.rd
      have hi1 : IntKind.i64.wrap ((k : Int) + 1) = ((k + 1 : Nat) : Int) := by rw [wrap64 (by omega) (by omega)]; omega
      have hm : S.tab.length - (IntKind.i64.wrap ((k : Int) + 1)).toNat < S.tab.length - (k : Int).toNat := by rw [hi1]; omega
      have hxr := hok.tab.right _ (List.getElem_mem hk')
      have hxa := hok.tab.lo _ (List.getElem_mem hk')
      have htk := leaseRecs_take hk'
      have hpos : 0 < S.tab.length := by omega
      have hrd := fun {K} => rdL (K := K) hrd5 hk'

      have hlk := fun {w'} (h : Kp no w5.drew w') => rdLk hrd5 h hk'
      simp only [addk, Nat.zero_add] at hrd hlk
      refine ⟨_, cl hS5d.1 rfl, _, _, _, cl hS5d.2.1 rfl, need_and (dec (by omega)) (dec (by omega)) ?_⟩
      rw [show (k : Int).toNat = k from rfl]
      simp only [nn_some, addk, Nat.zero_add]
      refine hrd ?_
      refine ⟨_, cl hS5d.1 rfl, _, _, _, cl hS5d.2.1 rfl, need_and (dec (by omega)) (dec (by omega)) ⟨_, rdA hrd5 hk', (K77 _ 0 0 _).mono fun e w8 hp => ?_⟩⟩
      cases e with
      | returned r =>
        obtain ⟨hk8, rfl⟩ := hp
        have hk58 := hk5d.then hk8
        have z5 := hk5.size
        have z58 := hk58.size
        have hS8 := hS5.keepN hk58
        refine ⟨_, _, _, _, _, _, _, _, rfl, ⟨hlk hk8, ⟨hk8.cellD hS5d.2.1 nf, trivial⟩, ⟨hk8.cellD hS5d.1 nf, trivial⟩, trivial⟩, ?_⟩
        show ifB (!(eqL S.tab[k] (bare S.tab[k].addr 0 0))) _ _
        have ho58 := ho5.keep hk58 .no .no
        cases hq2 : eqL S.tab[k] (bare S.tab[k].addr 0 0) with
        | true =>
          rw [hq2, if_pos rfl, List.append_nil] at htk
          refine ifB_false.2 ?_
          unfold B50_j1
          exact ⟨⟨k + 1, hi1, hk', hk5.then hk58, by rw [htk]; exact ho58⟩, hm⟩
        | false =>
          rw [hq2, if_neg (by simp)] at htk
          have hrd8 := fun {K} => rdL (K := K) hS8.2.2.rd hk'
          simp only [addk, Nat.zero_add] at hrd8
          refine ifB_true.2 ⟨_, cl hS8.1 rfl, _, _, _, cl hS8.2.1 rfl, need_and (dec (by omega)) (dec (by omega)) ?_⟩
          simp only [nn_some, addk, Nat.zero_add]
          refine hrd8 ?_
          refine (K85 hxr hxa w8).mono fun e w9 hp => ?_
          cases e with
          | returned r =>
            obtain ⟨hk9, a9, n9', c9, rfl, ho9⟩ := hp
            have z9 := hk9.size
            have ho59 := ho58.keep hk9 .no .no
            obtain ⟨_, _, hx⟩ := ho59.slice
            cases hx
            obtain ⟨a1, n1, c1, w10, hr1, a2, n2, c2, w11, hr2, ho2, hk11⟩ := appBss (ty := 56) ho59 (own_base ho9 (by omega)) (by omega) (by rw [List.length_append]; simp; omega)
            refine ⟨_, _, _, rfl, _, _, _, _, hr1, _, _, _, _, hr2, ?_⟩
            unfold B50_j1
            refine ⟨⟨k + 1, hi1, hk', ?_, by rw [htk, ← List.append_assoc]; exact ho2⟩, hm⟩
            exact ((hk5.then hk58).then hk9).trans hk11 (fun j hj hs => by have := ho59.base_le j hs; omega)
          | _ => exact hp
      | _ => exact hp
    · have hk' : k = S.tab.length := by omega
      subst hk'
      rw [List.take_length] at ho5
      have hq5 : LogAt 123 w5 q p := hk5.at hq nf
      have hd5 := hd.keep hk5 nf .no
      refine ⟨_, cl hS5.1 rfl, (K88 hq5 hd5 hD (ho5.base (Nat.zero_le _)) (by have := leaseRecs_len S.tab; rw [List.length_append]; simp; omega)).mono fun e w6 hp => ?_⟩
      cases e with
      | returned r =>
        obtain ⟨hk6, rfl, hd6⟩ := hp
        obtain ⟨f1, f2⟩ := rcompact_fin hS5 hq5 hd5 b1 b2 b3 hk6 hd6
        exact ⟨_, rfl, .then hk5 f1, rfl, f2⟩
      | _ => exact hp
end Go.Lf
end
