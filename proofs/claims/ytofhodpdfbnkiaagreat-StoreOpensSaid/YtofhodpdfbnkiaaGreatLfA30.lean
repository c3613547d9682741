/- Part 30 of the lemmas that a proof leans on; no claim is made here. By an AI agent. -/
import Derived.Test.YtofhodpdfbnkiaaGreatLfA09
import Derived.Test.YtofhodpdfbnkiaaGreatLfA10
import Derived.Test.YtofhodpdfbnkiaaGreatLfA11
import Derived.Test.YtofhodpdfbnkiaaGreatLfA13
import Derived.Test.YtofhodpdfbnkiaaGreatLfA29
section
set_option linter.unusedVariables false
set_option linter.unusedSimpArgs false
namespace Go.Lf
open Go Go.Proofs
def noteS (S : StS) (D : Dk) (l : List UInt8) : Int × StS × Dk := ((D.appendRec l).1, if (D.appendRec l).1 = 0 then doRec S l else S, (D.appendRec l).2)
def OpPost (SAt : World → Nat → Nat → Nat → StS → Dk → Prop) (K : Nat → World → World → Prop) (base p s : Nat) (x : Int × StS × Dk) (w : World) (r : Value) (w' : World) : Prop :=
  K base w w' ∧ r = .int .i64 x.1 ∧ SAt w' base p s x.2.1 x.2.2
theorem K65 {w : World} {base p s : Nat} {S : StS} {D : Dk} {a : Option Addr} {n c : Nat} {l : List UInt8} (h : SA w base p s S D) (hD : D.ok) (hv : Bs w (.slice a n c) l) (h1 : 1 ≤ l.length) (h2 : l.length ≤ 1000000) :
    Calls Cz.P 65 #[.pointer (some ⟨s, 0, none⟩), .slice a n c] w (CP (OpPost SA PK base p s (noteS S D l) w) (fun _ _ => False)) := by
  refine C65 ?_
  unfold B65
  obtain ⟨t, b, q, hS, hq, hd, b1, b2, b3⟩ := h
  have hpb := SA.pb hS hd b1 b2 b3
  rw [nn_some]
  refine ⟨_, cl hS.1 rfl, (K99 hq hd hD hv).mono fun e w1 hp => ?_⟩
  cases e with
  | returned r =>
    obtain ⟨hk1, rfl, hd1⟩ := hp
    obtain ⟨n1, n2, n3⟩ := hS.ne
    have np : ∀ {k o}, w.heap[k]? = some o → (∀ cs, o ≠ .cells cs 72 (0, 0)) → ¬ k = p := by
      intro k o ho hne h; subst h
      obtain ⟨x, hx, _⟩ := hd
      rw [ho] at hx; cases hx; exact hne _ rfl
    have hS1 : StP w1 s t b (.pointer (some ⟨q, 0, none⟩)) S := ⟨hk1.at hS.1 (np hS.1 (by simp)), hk1.at hS.2.1 (np hS.2.1 (by simp)), hk1.at hS.2.2 (np hS.2.2 (by simp))⟩
    have hq1 : LogAt 112 w1 q p := hk1.at hq (np hq (by simp))
    have hk1' : Kp (fun k => k = s ∨ k = b ∨ k = p) w w1 := hk1.mono fun _ _ h => .inr (.inr h)
    refine ⟨_, rfl, ifB_split (fun h0 => ?_) (fun h0 => ?_)⟩
    · have h0 : (D.appendRec l).1 = 0 := by simpa using h0
      have hvl : Bs w1 (.slice a n c) l := hv.keepU hk1 hd.noU
      refine (K41 hS1 hvl h1 h2).mono fun e w2 hp => ?_
      cases e with
      | returned r =>
        obtain ⟨rfl, hk2, hS2⟩ := hp
        have nd : ¬ (p = s ∨ p = b) := by
          obtain ⟨x, hx, _⟩ := hd1
          rintro (h | h)
          · subst h; rw [hS1.1] at hx; cases hx
          · subst h; have := hS1.2.2; unfold MapAt at this; rw [this] at hx; cases hx
        have nq : ¬ (q = s ∨ q = b) := by
          unfold LogAt at hq1
          rintro (h | h)
          · subst h; rw [hS1.1] at hq1; cases hq1
          · subst h; have := hS1.2.2; unfold MapAt at this; rw [this] at hq1; cases hq1
        have hn5 : NoT 5 (fun k => k = s ∨ k = b) w1 := by
          rintro b' cs f (rfl | rfl) hc
          · rw [hS1.1] at hc; cases hc
          · rw [hS1.2.2] at hc; cases hc
        refine ⟨rfl, ?_⟩
        show OpPost SA PK base p s (noteS S D l) w (.int .i64 (D.appendRec l).1) w2
        unfold noteS
        rw [if_pos h0]
        exact ⟨⟨_, hk1'.trans hk2 (fun k _ h => by rcases h with h | h <;> simp [h]), hpb⟩, rfl, t, b, q, hS2, hk2.at hq1 nq, hd1.keep hk2 nd hn5, b1, b2, b3⟩
      | _ => exact hp
    · have h0 : ¬ (D.appendRec l).1 = 0 := by intro h; rw [h] at h0; simp at h0
      show OpPost SA PK base p s (noteS S D l) w (.int .i64 (D.appendRec l).1) w1
      unfold noteS
      rw [if_neg h0]
      exact ⟨⟨_, hk1', hpb⟩, rfl, t, b, q, hS1, hq1, hd1, b1, b2, b3⟩
  | _ => exact hp
theorem K84 {w : World} {base p s : Nat} {S : StS} {D : Dk} {a : Option Addr} {n c : Nat} {l : List UInt8} (h : RSA w base p s S D) (hD : D.ok) (hT : S.tab.length ≤ 1048576) (hv : Bs w (.slice a n c) l) (h1 : 1 ≤ l.length) (h2 : l.length ≤ 1000000) :
    Calls Cz.P 84 #[.pointer (some ⟨s, 0, none⟩), .slice a n c] w (CP (OpPost RSA RK base p s (noteS S D l) w) (fun _ _ => False)) := by
  refine C84 ?_
  unfold B84
  obtain ⟨t, v, q, hS, hq, hd, b1, b2, b3⟩ := h
  have hpb := RSA.pb hS hd b1 b2 b3
  rw [nn_some]
  refine ⟨_, cl hS.1 rfl, (K116 hq hd hD hv).mono fun e w1 hp => ?_⟩
  cases e with
  | returned r =>
    obtain ⟨hk1, rfl, hd1⟩ := hp
    obtain ⟨n1, n2, n3⟩ := hS.ne
    have np : ∀ {k o}, w.heap[k]? = some o → (∀ cs, o ≠ .cells cs 54 (0, 0)) → ¬ k = p := by
      intro k o ho hne h; subst h
      obtain ⟨x, hx, _⟩ := hd
      rw [ho] at hx; cases hx; exact hne _ rfl
    have hvp : ¬ v.ownBlock = some p := by obtain ⟨x, hx, _⟩ := hd; exact hS.2.2.ne hx (by simp)
    have hS1 : RStP w1 s t v (.pointer (some ⟨q, 0, none⟩)) S := ⟨hk1.at hS.1 (np hS.1 (by simp)), hk1.at hS.2.1 (np hS.2.1 (by simp)), hS.2.2.kept hk1 (fun b hb h => hvp (h ▸ hb))⟩
    have hq1 : LogAt 123 w1 q p := hk1.at hq (np hq (by simp))
    have hk1' : Kp (fun k => k = s ∨ v.ownBlock = some k ∨ k = p) w w1 := hk1.mono fun _ _ h => .inr (.inr h)
    refine ⟨_, rfl, ifB_split (fun h0 => ?_) (fun h0 => ?_)⟩
    · have h0 : (D.appendRec l).1 = 0 := by simpa using h0
      have hvl : Bs w1 (.slice a n c) l := hv.keepU hk1 hd.noU
      refine (K45 hS1 hT hvl h1 h2).mono fun e w2 hp => ?_
      cases e with
      | returned r =>
        obtain ⟨rfl, hk2, hS2⟩ := hp
        have nd : ¬ (p = s ∨ v.ownBlock = some p) := by
          obtain ⟨x, hx, _⟩ := hd1
          rintro (h | h)
          · subst h; rw [hS1.1] at hx; cases hx
          · exact hvp h
        have nq : ¬ (q = s ∨ v.ownBlock = some q) := by
          rintro (h | h)
          · subst h; unfold LogAt at hq1; rw [hS1.1] at hq1; cases hq1
          · exact hS1.2.2.ne hq1 (by simp) h
        have hn5 : NoT 5 (fun k => k = s ∨ v.ownBlock = some k) w1 := by
          rintro b' cs f (rfl | hb') hc
          · rw [hS1.1] at hc; cases hc
          · obtain ⟨cs', hcs⟩ := hS1.2.2.type hb'
            rw [hcs] at hc; cases hc
        refine ⟨rfl, ?_⟩
        show OpPost RSA RK base p s (noteS S D l) w (.int .i64 (D.appendRec l).1) w2
        unfold noteS
        rw [if_pos h0]
        exact ⟨⟨_, hk1'.trans hk2 (fun k _ h => by rcases h with h | h <;> simp [h]), hpb⟩, rfl, t, v, q, hS2, hk2.at hq1 nq, hd1.keep hk2 nd hn5, b1, b2, b3⟩
      | _ => exact hp
    · have h0 : ¬ (D.appendRec l).1 = 0 := by intro h; rw [h] at h0; simp at h0
      show OpPost RSA RK base p s (noteS S D l) w (.int .i64 (D.appendRec l).1) w1
      unfold noteS
      rw [if_neg h0]
      exact ⟨⟨_, hk1', hpb⟩, rfl, t, v, q, hS1, hq1, hd1, b1, b2, b3⟩
  | _ => exact hp
theorem enc_len {x : Ls} (h : x.right = true) : x.enc.length ≤ 100 := by
  have := (right_bounds h).2.2.2.2.2.2
  unfold Ls.enc
  simp only [List.length_append, be_length, List.length_cons, List.length_nil, Array.length_toList]
  show _ + x.client.size ≤ 100
  omega
theorem K61 {x : Ls} (hr : x.right = true) (ha : 0 ≤ x.addr ∧ x.addr < 4294967296) (w : World) : Calls Cz.P 61 #[x.val] w (CP (fun r w' => Kp no w w' ∧ ∃ a n c, r = .slice a n c ∧ OwnB w' w.heap.size (.slice a n c) (76 :: x.enc)) (fun _ _ => False)) := by
  refine C61 ?_
  unfold B61
  refine nw_i fun k w1 e1 hk1 g1 => rd8 (x := x) g1 ((K95 ha w1).mono fun e w2 hp => ?_)
  cases e with
  | returned r =>
    obtain ⟨hk2, ⟨h, _⟩ | ⟨_, a, n, c, rfl, ho⟩⟩ := hp
    · rw [hr] at h; cases h
    · obtain ⟨a3, n3, c3, w3, hr3, hk3, ho3⟩ := E22b (w := w2) [76] (by simp) #[(0, .int .u8 76)] rfl
      have ho' := own_keep ho hk3 .no
      have hlen := enc_len hr
      obtain ⟨a4, n4, c4, w4, hr4, ho4, hk4⟩ := appB (ty := 22) ho3 (OwnB.bs (own_keep ho hk3 .no)) hk3.size (by rw [List.length_append]; simp; omega)
      refine ⟨_, _, _, _, rfl, _, _, _, _, hr3, _, _, _, _, hr4, ?_, _, _, _, rfl, ?_⟩
      · exact ((hk1.then hk2).then hk3).trans hk4 (fun k hk h => by have := ho3.base_le k h; have := hk1.size; have := hk2.size; omega)
      · exact own_base ho4 (by have := hk1.size; have := hk2.size; omega)
  | _ => exact hp
theorem K85 {x : Ls} (hr : x.right = true) (ha : 0 ≤ x.addr ∧ x.addr < 4294967296) (w : World) : Calls Cz.P 85 #[x.val] w (CP (fun r w' => Kp no w w' ∧ ∃ a n c, r = .slice a n c ∧ OwnB w' w.heap.size (.slice a n c) (76 :: x.enc)) (fun _ _ => False)) := by
  refine C85 ?_
  unfold B85
  refine nw_i fun k w1 e1 hk1 g1 => rd8 (x := x) g1 ((K113 ha w1).mono fun e w2 hp => ?_)
  cases e with
  | returned r =>
    obtain ⟨hk2, ⟨h, _⟩ | ⟨_, a, n, c, rfl, ho⟩⟩ := hp
    · rw [hr] at h; cases h
    · obtain ⟨a3, n3, c3, w3, hr3, hk3, ho3⟩ := E22b (w := w2) [76] (by simp) #[(0, .int .u8 76)] rfl
      have hlen := enc_len hr
      obtain ⟨a4, n4, c4, w4, hr4, ho4, hk4⟩ := appB (ty := 22) ho3 (OwnB.bs (own_keep ho hk3 .no)) hk3.size (by rw [List.length_append]; simp; omega)
      refine ⟨_, _, _, _, rfl, _, _, _, _, hr3, _, _, _, _, hr4, ?_, _, _, _, rfl, ?_⟩
      · exact ((hk1.then hk2).then hk3).trans hk4 (fun k hk h => by have := ho3.base_le k h; have := hk1.size; have := hk2.size; omega)
      · exact own_base ho4 (by have := hk1.size; have := hk2.size; omega)
  | _ => exact hp
def putS (S : StS) (D : Dk) (x : Ls) : Int × StS × Dk := if x.right = true then (if (getT S.tab x.addr).2 = 0 then noteS S D (76 :: x.enc) else ((getT S.tab x.addr).2, S, D)) else (1, S, D)
def JC29 (w : World) (k11 : Nat) (x : Ls) (y : Int) (vs : List Value) (w' : World) : Prop := match vs with | [.int _ z] => z = y ∧ Kp no w w' ∧ w'.heap[k11]? = some (.cells x.cells 49 (0, 0)) | _ => False
theorem K29 {w : World} {base p s : Nat} {S : StS} {D : Dk} (h : SA w base p s S D) (hD : D.ok) (hw : base ≤ w.heap.size) {x : Ls} (ha : 0 ≤ x.addr ∧ x.addr < 4294967296) :
    Calls Cz.P 29 #[.pointer (some ⟨s, 0, none⟩), x.val] w (CP (OpPost SA PK base p s (putS S D x) w) (fun _ _ => False)) := by
  refine C29 ?_
  unfold B29
  refine nw_i fun k w1 e1 hk1 g1 => rd8 (x := x) g1 ((K64 x w1).mono fun e w2 hp2 => ?_)
  cases e with
  | returned r =>
    obtain ⟨hk2, rfl⟩ := hp2
    have hk02 := hk1.then hk2
    have g2 := hk2.at g1 nf
    refine ⟨_, rfl, ?_⟩
    unfold putS
    cases hr : x.right with
    | false => exact ifB_true.2 ⟨.of hk02, rfl, h.keepN hk02⟩
    | true =>
      rw [if_pos rfl]
      have hkd : Kp no w w2.drew := hk02.then (.drew no _)
      have g2d : w2.drew.heap[k]? = some (.cells x.cells 49 (0, 0)) := g2
      obtain ⟨t, b, q, hS, hq, hd, b1, b2, b3⟩ := h.keepN hkd
      have z2 := hkd.size
      have s2 := lt_of_get g2d
      refine ifB_false.2 ⟨JC29 w k x (getT S.tab x.addr).2, ?_, ?_⟩
      · simp only [nn_some, addk, Nat.zero_add]
        refine ⟨_, cl hS.1 rfl, _, cl g2d rfl, (K28 ⟨b, hS.2⟩ x.addr).mono fun e w3 hp => ?_, nw_i fun k5 w5 e5 hk5 g5 => ⟨⟨⟨hk5.cellD g2d nf, trivial⟩, ⟨hk5.cellD hS.1 nf, trivial⟩, trivial⟩, (K28 ⟨b, (hS.keepN hk5).2⟩ x.addr).mono fun e w6 hp => ?_⟩⟩
        · cases e with
          | returned r =>
            obtain ⟨hk3, rfl⟩ := hp
            have z3 := hk3.size
            refine ⟨_, _, _, _, _, _, _, _, _, rfl, nw_i fun k4 w4 e4 hk4 g4 => ⟨trivial, stL (getT S.tab x.addr).1 (x := bare 0 0 0) g4 fun w5 hk5 g5 => ⟨trivial, rfl, ?_, ?_⟩⟩⟩
            · exact (((hkd.then hk3).then hk4).trans hk5 (fun k hk h => by omega))
            · exact hk5.at (hk4.at (hk3.at g2d nf) nf) (by omega)
          | _ => exact hp
        · cases e with
          | returned r =>
            obtain ⟨hk6, rfl⟩ := hp
            have z5 := hk5.size
            refine ⟨_, _, _, _, _, _, _, _, _, rfl, stL (getT S.tab x.addr).1 (x := bare 0 0 0) (hk6.at g5 nf) fun w7 hk7 g7 => ⟨trivial, rfl, ?_, ?_⟩⟩
            · exact ((hkd.then hk5).then hk6).trans hk7 (fun k hk h => by omega)
            · exact hk7.at (hk6.at (hk5.at g2d nf) nf) (by omega)
          | _ => exact hp
      · rintro z w3 ⟨rfl, hk3, g3⟩
        refine ifB_split (fun hne => ?_) (fun he => ?_)
        · have hne : ¬ (getT S.tab x.addr).2 = 0 := by simpa using hne
          rw [if_neg hne]
          exact ⟨.of hk3, rfl, h.keepN hk3⟩
        · have he : (getT S.tab x.addr).2 = 0 := by simpa using he
          rw [if_pos he]
          refine rd8 (x := x) g3 ((K61 hr ha w3).mono fun e w4 hp => ?_)
          cases e with
          | returned r =>
            obtain ⟨hk4, a, n, c, rfl, ho⟩ := hp
            have hlen := enc_len hr
            have hk04 := hk3.then hk4
            refine ⟨_, _, _, rfl, (K65 (h.keepN hk04) hD ho.bs (by simp) (by simp; omega)).mono fun e w5 hp => ?_⟩
            cases e with
            | returned r =>
              obtain ⟨hk5, rfl, hs5⟩ := hp
              exact ⟨_, rfl, .then hk04 hk5, rfl, hs5⟩
            | _ => exact hp
          | _ => exact hp
  | _ => exact hp2
theorem K46 {w : World} {base p s : Nat} {S : StS} {D : Dk} (h : RSA w base p s S D) (hD : D.ok) (hT : S.tab.length ≤ 1048576) {x : Ls} (ha : 0 ≤ x.addr ∧ x.addr < 4294967296) :
    Calls Cz.P 46 #[.pointer (some ⟨s, 0, none⟩), x.val] w (CP (OpPost RSA RK base p s (putS S D x) w) (fun _ _ => False)) := by
  refine C46 ?_
  unfold B46
  refine nw_i fun k w1 e1 hk1 g1 => rd8 (x := x) g1 ((K82 x w1).mono fun e w2 hp2 => ?_)
  cases e with
  | returned r =>
    obtain ⟨hk2, rfl⟩ := hp2
    have hk02 := hk1.then hk2
    have g2 := hk2.at g1 nf
    refine ⟨_, rfl, ?_⟩
    unfold putS
    cases hr : x.right with
    | false => exact ifB_true.2 ⟨.of hk02, rfl, h.keepN hk02⟩
    | true =>
      rw [if_pos rfl]
      have hkd : Kp no w w2.drew := hk02.then (.drew no _)
      have g2d : w2.drew.heap[k]? = some (.cells x.cells 49 (0, 0)) := g2
      obtain ⟨t, v, q, hS, hq, hd, b1, b2, b3⟩ := h.keepN hkd
      have z2 := hkd.size
      have s2 := lt_of_get g2d
      refine ifB_false.2 ⟨JC29 w k x (getT S.tab x.addr).2, ?_, ?_⟩
      · simp only [nn_some, addk, Nat.zero_add]
        refine ⟨_, cl hS.1 rfl, _, cl g2d rfl, (K83 ⟨v, hS.2⟩ hT x.addr).mono fun e w3 hp => ?_, nw_i fun k5 w5 e5 hk5 g5 => ⟨⟨⟨hk5.cellD g2d nf, trivial⟩, ⟨hk5.cellD hS.1 nf, trivial⟩, trivial⟩, (K83 ⟨v, (hS.keepN hk5).2⟩ hT x.addr).mono fun e w6 hp => ?_⟩⟩
        · cases e with
          | returned r =>
            obtain ⟨hk3, rfl⟩ := hp
            have z3 := hk3.size
            refine ⟨_, _, _, _, _, _, _, _, _, rfl, nw_i fun k4 w4 e4 hk4 g4 => ⟨trivial, stL (getT S.tab x.addr).1 (x := bare 0 0 0) g4 fun w5 hk5 g5 => ⟨trivial, rfl, ?_, ?_⟩⟩⟩
            · exact (((hkd.then hk3).then hk4).trans hk5 (fun k hk h => by omega))
            · exact hk5.at (hk4.at (hk3.at g2d nf) nf) (by omega)
          | _ => exact hp
        · cases e with
          | returned r =>
            obtain ⟨hk6, rfl⟩ := hp
            have z5 := hk5.size
            refine ⟨_, _, _, _, _, _, _, _, _, rfl, stL (getT S.tab x.addr).1 (x := bare 0 0 0) (hk6.at g5 nf) fun w7 hk7 g7 => ⟨trivial, rfl, ?_, ?_⟩⟩
            · exact ((hkd.then hk5).then hk6).trans hk7 (fun k hk h => by omega)
            · exact hk7.at (hk6.at (hk5.at g2d nf) nf) (by omega)
          | _ => exact hp
      · rintro z w3 ⟨rfl, hk3, g3⟩
        refine ifB_split (fun hne => ?_) (fun he => ?_)
        · have hne : ¬ (getT S.tab x.addr).2 = 0 := by simpa using hne
          rw [if_neg hne]
          exact ⟨.of hk3, rfl, h.keepN hk3⟩
        · have he : (getT S.tab x.addr).2 = 0 := by simpa using he
          rw [if_pos he]
          refine rd8 (x := x) g3 ((K85 hr ha w3).mono fun e w4 hp => ?_)
          cases e with
          | returned r =>
            obtain ⟨hk4, a, n, c, rfl, ho⟩ := hp
            have hlen := enc_len hr
            have hk04 := hk3.then hk4
            refine ⟨_, _, _, rfl, (K84 (h.keepN hk04) hD hT ho.bs (by simp) (by simp; omega)).mono fun e w5 hp => ?_⟩
            cases e with
            | returned r =>
              obtain ⟨hk5, rfl, hs5⟩ := hp
              exact ⟨_, rfl, .then hk04 hk5, rfl, hs5⟩
            | _ => exact hp
          | _ => exact hp
  | _ => exact hp2
end Go.Lf
end

section
set_option linter.unusedVariables false
set_option linter.unusedSimpArgs false
namespace Go.Lf
open Go Go.Proofs
structure TOk (T : List Ls) : Prop where
  right : ∀ x ∈ T, x.right = true
  lo : ∀ x ∈ T, 0 ≤ x.addr ∧ x.addr < 4294967296
  asc : T.Pairwise fun x y => x.addr < y.addr
  len : T.length ≤ 256
structure StS.ok (S : StS) : Prop where
  tab : TOk S.tab
  s1 : 0 ≤ S.state
  s2 : S.state ≤ 8
  l1 : 0 ≤ S.life
  l2 : S.life ≤ 536870912
theorem bare_right (a : Int) : (bare a 0 0).right = true := by
  unfold bare Ls.right tm held
  simp
  decide
theorem setT_addrs (T : List Ls) (x : Ls) : (setT T x).2.map (·.addr) = T.map (·.addr) := by
  unfold setT
  split
  · split
    · rename_i p hp
      obtain ⟨j, y⟩ := p
      obtain ⟨_, h2, h3⟩ := look_some hp
      rw [Nat.sub_zero] at h2
      apply List.ext_getElem?
      intro i
      simp only [List.getElem?_map, List.getElem?_set]
      by_cases h : j = i
      · subst h
        obtain ⟨hj, h2'⟩ := List.getElem?_eq_some_iff.1 h2
        simp [hj, h2', h3]
      · simp [h]
    · rfl
  · rfl
theorem TOk.set {T : List Ls} (h : TOk T) (x : Ls) : TOk (setT T x).2 := by
  have ha := setT_addrs T x
  have hmem : ∀ y ∈ (setT T x).2, y ∈ T ∨ (y = x ∧ x.right = true ∧ ∃ z ∈ T, z.addr = x.addr) := by
    intro y hy
    unfold setT at hy
    split at hy
    · rename_i hr
      split at hy
      · rename_i p hp
        obtain ⟨_, h2, h3⟩ := look_some hp
        rcases List.mem_or_eq_of_mem_set hy with h | h
        · exact .inl h
        · exact .inr ⟨h, hr, p.2, List.mem_of_getElem? h2, h3⟩
      · exact .inl hy
    · exact .inl hy
  refine ⟨fun y hy => ?_, fun y hy => ?_, ?_, by rw [setT_len]; exact h.len⟩
  · rcases hmem y hy with h1 | ⟨rfl, h1, _⟩
    · exact h.right y h1
    · exact h1
  · rcases hmem y hy with h1 | ⟨rfl, _, z, h1, h2⟩
    · exact h.lo y h1
    · rw [← h2]; exact h.lo z h1
  · have h1 : (T.map (·.addr)).Pairwise (· < ·) := List.pairwise_map.2 h.asc
    rw [← ha] at h1
    exact List.pairwise_map.1 h1
theorem StS.ok.doRec {S : StS} (h : S.ok) (l : List UInt8) : (doRec S l).ok := by
  unfold Lf.doRec
  split
  · exact h
  · split
    · split
      · exact ⟨h.tab.set _, h.s1, h.s2, h.l1, h.l2⟩
      · exact h
    · split
      · rename_i h2
        exact ⟨h.tab, by simp only; omega, by simp only; omega, h.l1, h.l2⟩
      · split
        · split
          · exact ⟨h.tab, h.s1, h.s2, by simp only; omega, by simp only; omega⟩
          · exact h
        · exact h
theorem StS.ok.fold : ∀ (ls : List (List UInt8)) {S : StS}, S.ok → (ls.foldl Lf.doRec S).ok
  | [], S, h => h
  | l :: ls, S, h => by rw [List.foldl_cons]; exact StS.ok.fold ls (h.doRec l)
theorem st0_ok {rs : List Rg} (hok : ∀ r ∈ rs, r.ok) (h : poolErr rs = 0) : (st0 rs).ok := by
  unfold poolErr at h
  split at h
  · cases h
  · rename_i h1
    split at h
    · cases h
    · rename_i h2
      have hall : ∀ r ∈ rs, r.lo ≤ r.hi := by
        intro r hr
        rcases Nat.lt_or_ge r.hi r.lo with h | h
        · exact (h1 ⟨r, hr, h⟩).elim
        · exact h
      obtain ⟨f1, f2, f3, f4, f5⟩ := pool_facts hok hall (by omega)
      refine ⟨⟨?_, ?_, ?_, ?_⟩, by show (0 : Int) ≤ 0; omega, by show (0 : Int) ≤ 8; omega, by show (0 : Int) ≤ 0; omega, by show (0 : Int) ≤ 536870912; omega⟩
      · intro x hx
        obtain ⟨a, ha, rfl⟩ := List.mem_map.1 hx
        exact bare_right _
      · intro x hx
        obtain ⟨a, ha, rfl⟩ := List.mem_map.1 hx
        have := f5 a ha
        show (0 : Int) ≤ ((a : Nat) : Int) ∧ ((a : Nat) : Int) < 4294967296
        omega
      · show ((addrs (pool rs)).map _).Pairwise _
        refine List.pairwise_map.2 (f3.imp fun {a b} h => ?_)
        show ((a : Nat) : Int) < ((b : Nat) : Int)
        omega
      · show (bares (pool rs)).length ≤ 256
        rw [bares_len]; exact f2
theorem openSt_ok {rs : List Rg} {D : Dk} (hok : ∀ r ∈ rs, r.ok) (h : (openD rs D).1 = 0) : (openSt rs D).ok := by
  refine StS.ok.fold _ (st0_ok hok ?_)
  unfold openD at h
  split at h
  · rename_i h1; exact (h1 h).elim
  · rename_i h1; exact Decidable.not_not.1 h1
def setStateS (S : StS) (D : Dk) (x : Int) : Int × StS × Dk := if x < 0 ∨ x > 8 then (1, S, D) else noteS S D (stRec x)
def setLifeS (S : StS) (D : Dk) (x : Int) : Int × StS × Dk := if x < 0 ∨ x > 536870912 then (1, S, D) else noteS S D (lifeRec x)
def syncS (S : StS) (D : Dk) : Int × StS × Dk := (D.sync.1, S, D.sync.2)
theorem K32 {w : World} {base p s : Nat} {S : StS} {D : Dk} (h : SA w base p s S D) (hD : D.ok) (x : Int) :
    Calls Cz.P 32 #[.pointer (some ⟨s, 0, none⟩), .int .i64 x] w (CP (OpPost SA PK base p s (setStateS S D x) w) (fun _ _ => False)) := by
  refine C32 ?_
  unfold B32 B32_j1 setStateS
  refine ifB_dec (fun h1 => ifB_true.2 ?_) (fun h1 => ifB_dec (fun h2 => ?_) (fun h2 => ?_))
  · rw [if_pos (.inl h1)]; exact ⟨.of (.refl _ _), rfl, h⟩
  · rw [if_pos (.inr h2)]; exact ⟨.of (.refl _ _), rfl, h⟩
  · rw [if_neg (by omega)]
    refine (K58 (s := x) (by omega) w).mono fun e w1 hp => ?_
    cases e with
    | returned r =>
      obtain ⟨hk1, a, n, c, rfl, ho⟩ := hp
      refine ⟨_, _, _, rfl, (K65 (h.keepN hk1) hD ho.bs (by simp [stRec]) (by simp [stRec])).mono fun e w2 hp => ?_⟩
      cases e with
      | returned r =>
        obtain ⟨hk2, rfl, hs⟩ := hp
        exact ⟨_, rfl, .then hk1 hk2, rfl, hs⟩
      | _ => exact hp
    | _ => exact hp
theorem K47 {w : World} {base p s : Nat} {S : StS} {D : Dk} (h : RSA w base p s S D) (hD : D.ok) (hT : S.tab.length ≤ 1048576) (x : Int) :
    Calls Cz.P 47 #[.pointer (some ⟨s, 0, none⟩), .int .i64 x] w (CP (OpPost RSA RK base p s (setStateS S D x) w) (fun _ _ => False)) := by
  refine C47 ?_
  unfold B47 B47_j1 setStateS
  refine ifB_dec (fun h1 => ifB_true.2 ?_) (fun h1 => ifB_dec (fun h2 => ?_) (fun h2 => ?_))
  · rw [if_pos (.inl h1)]; exact ⟨.of (.refl _ _), rfl, h⟩
  · rw [if_pos (.inr h2)]; exact ⟨.of (.refl _ _), rfl, h⟩
  · rw [if_neg (by omega)]
    have hb : Value.int IntKind.u8 (IntKind.u8.wrap x) = bv (UInt8.ofNat x.toNat) := by rw [bv_ofNat, Int.toNat_of_nonneg (by omega)]
    obtain ⟨a, n, c, w1, hr, hk1, ho⟩ := E22b (w := w) (stRec x) (by simp [stRec]) #[(0, (.int .u8 83)), (1, (.int .u8 (IntKind.u8.wrap x)))] (by rw [hb]; rfl)
    refine ⟨_, _, _, _, hr, (K84 (h.keepN hk1) hD hT ho.bs (by simp [stRec]) (by simp [stRec])).mono fun e w2 hp => ?_⟩
    cases e with
    | returned r =>
      obtain ⟨hk2, rfl, hs⟩ := hp
      exact ⟨_, rfl, .then hk1 hk2, rfl, hs⟩
    | _ => exact hp
theorem lifeRec_len (x : Int) : (lifeRec x).length = 5 := by simp [lifeRec, be_length]
theorem K30 {w : World} {base p s : Nat} {S : StS} {D : Dk} (h : SA w base p s S D) (hD : D.ok) (x : Int) :
    Calls Cz.P 30 #[.pointer (some ⟨s, 0, none⟩), .int .i64 x] w (CP (OpPost SA PK base p s (setLifeS S D x) w) (fun _ _ => False)) := by
  refine C30 ?_
  unfold B30 B30_j1 setLifeS
  refine ifB_dec (fun h1 => ifB_true.2 ?_) (fun h1 => ifB_dec (fun h2 => ?_) (fun h2 => ?_))
  · rw [if_pos (.inl h1)]; exact ⟨.of (.refl _ _), rfl, h⟩
  · rw [if_pos (.inr h2)]; exact ⟨.of (.refl _ _), rfl, h⟩
  · rw [if_neg (by omega)]
    refine (K59 (s := x) (by omega) w).mono fun e w1 hp => ?_
    cases e with
    | returned r =>
      obtain ⟨hk1, a, n, c, rfl, ho⟩ := hp
      refine ⟨_, _, _, rfl, (K65 (h.keepN hk1) hD ho.bs (by rw [lifeRec_len]; omega) (by rw [lifeRec_len]; omega)).mono fun e w2 hp => ?_⟩
      cases e with
      | returned r =>
        obtain ⟨hk2, rfl, hs⟩ := hp
        exact ⟨_, rfl, .then hk1 hk2, rfl, hs⟩
      | _ => exact hp
    | _ => exact hp
theorem K48 {w : World} {base p s : Nat} {S : StS} {D : Dk} (h : RSA w base p s S D) (hD : D.ok) (hT : S.tab.length ≤ 1048576) (x : Int) :
    Calls Cz.P 48 #[.pointer (some ⟨s, 0, none⟩), .int .i64 x] w (CP (OpPost RSA RK base p s (setLifeS S D x) w) (fun _ _ => False)) := by
  refine C48 ?_
  unfold B48 B48_j1 setLifeS
  refine ifB_dec (fun h1 => ifB_true.2 ?_) (fun h1 => ifB_dec (fun h2 => ?_) (fun h2 => ?_))
  · rw [if_pos (.inl h1)]; exact ⟨.of (.refl _ _), rfl, h⟩
  · rw [if_pos (.inr h2)]; exact ⟨.of (.refl _ _), rfl, h⟩
  · rw [if_neg (by omega)]
    refine (K86 (s := x) (by omega) (by omega) w).mono fun e w1 hp => ?_
    cases e with
    | returned r =>
      obtain ⟨hk1, a, n, c, rfl, ho⟩ := hp
      refine ⟨_, _, _, rfl, (K84 (h.keepN hk1) hD hT ho.bs (by rw [lifeRec_len]; omega) (by rw [lifeRec_len]; omega)).mono fun e w2 hp => ?_⟩
      cases e with
      | returned r =>
        obtain ⟨hk2, rfl, hs⟩ := hp
        exact ⟨_, rfl, .then hk1 hk2, rfl, hs⟩
      | _ => exact hp
    | _ => exact hp
theorem K31 {w : World} {base p s : Nat} {S : StS} {D : Dk} (h : SA w base p s S D) (hD : D.ok) :
    Calls Cz.P 31 #[.pointer (some ⟨s, 0, none⟩)] w (CP (OpPost SA PK base p s (syncS S D) w) (fun _ _ => False)) := by
  refine C31 ?_
  unfold B31
  obtain ⟨t, b, q, hS, hq, hd, b1, b2, b3⟩ := h
  have hpb := SA.pb hS hd b1 b2 b3
  simp only [nn_some]
  refine ⟨_, cl hS.1 rfl, _, cl hq rfl, (K66 hd hD).mono fun e w1 hp => ?_⟩
  cases e with
  | returned r =>
    obtain ⟨hk1, rfl, hd1⟩ := hp
    have np : ∀ {k o}, w.heap[k]? = some o → (∀ cs, o ≠ .cells cs 72 (0, 0)) → ¬ k = p := by
      intro k o ho hne h; subst h
      obtain ⟨x, hx, _⟩ := hd
      rw [ho] at hx; cases hx; exact hne _ rfl
    refine ⟨_, rfl, ⟨_, hk1, fun k h => hpb k (.inr (.inr h))⟩, rfl, t, b, q, ⟨hk1.at hS.1 (np hS.1 (by simp)), hk1.at hS.2.1 (np hS.2.1 (by simp)), hk1.at hS.2.2 (np hS.2.2 (by simp))⟩, hk1.at hq (np hq (by simp)), hd1, b1, b2, b3⟩
  | _ => exact hp
theorem K49 {w : World} {base p s : Nat} {S : StS} {D : Dk} (h : RSA w base p s S D) (hD : D.ok) :
    Calls Cz.P 49 #[.pointer (some ⟨s, 0, none⟩)] w (CP (OpPost RSA RK base p s (syncS S D) w) (fun _ _ => False)) := by
  refine C49 ?_
  unfold B49
  obtain ⟨t, v, q, hS, hq, hd, b1, b2, b3⟩ := h
  have hpb := RSA.pb hS hd b1 b2 b3
  simp only [nn_some]
  refine ⟨_, cl hS.1 rfl, _, cl hq rfl, (K87 hd hD).mono fun e w1 hp => ?_⟩
  cases e with
  | returned r =>
    obtain ⟨hk1, rfl, hd1⟩ := hp
    have np : ∀ {k o}, w.heap[k]? = some o → (∀ cs, o ≠ .cells cs 54 (0, 0)) → ¬ k = p := by
      intro k o ho hne h; subst h
      obtain ⟨x, hx, _⟩ := hd
      rw [ho] at hx; cases hx; exact hne _ rfl
    have hvp : ¬ v.ownBlock = some p := by obtain ⟨x, hx, _⟩ := hd; exact hS.2.2.ne hx (by simp)
    refine ⟨_, rfl, ⟨_, hk1, fun k h => hpb k (.inr (.inr h))⟩, rfl, t, v, q, ⟨hk1.at hS.1 (np hS.1 (by simp)), hk1.at hS.2.1 (np hS.2.1 (by simp)), hS.2.2.kept hk1 (fun b hb h => hvp (h ▸ hb))⟩, hk1.at hq (np hq (by simp)), hd1, b1, b2, b3⟩
  | _ => exact hp
theorem K23 {w : World} {base p s : Nat} {S : StS} {D : Dk} (h : SA w base p s S D) : Calls Cz.P 23 #[.pointer (some ⟨s, 0, none⟩)] w (CP (fun r w' => w' = w ∧ r = .int .i64 S.state) (fun _ _ => False)) := by
  refine C23 ?_
  unfold B23
  obtain ⟨t, b, q, hS, hq, hd, b1, b2, b3⟩ := h
  rw [nn_some, addk]
  exact ⟨_, cl hS.1 rfl, rfl, rfl⟩
theorem K24 {w : World} {base p s : Nat} {S : StS} {D : Dk} (h : SA w base p s S D) : Calls Cz.P 24 #[.pointer (some ⟨s, 0, none⟩)] w (CP (fun r w' => w' = w ∧ r = .int .i64 S.life) (fun _ _ => False)) := by
  refine C24 ?_
  unfold B24
  obtain ⟨t, b, q, hS, hq, hd, b1, b2, b3⟩ := h
  rw [nn_some, addk]
  exact ⟨_, cl hS.1 rfl, rfl, rfl⟩
/-- the place of a store's table -/
def TabOf (w : World) (s t : Nat) : Prop := ∃ cs, w.heap[s]? = some (.cells cs 81 (0, 0)) ∧ cs[1]? = some (.pointer (some ⟨t, 0, none⟩))
theorem K21 {w : World} {base p s : Nat} {S : StS} {D : Dk} (h : SA w base p s S D) : Calls Cz.P 21 #[.pointer (some ⟨s, 0, none⟩)] w (CP (fun r w' => w' = w ∧ ∃ t, r = .pointer (some ⟨t, 0, none⟩) ∧ TabAt w t S.tab) (fun _ _ => False)) := by
  refine C21 ?_
  unfold B21
  obtain ⟨t, b, q, hS, hq, hd, b1, b2, b3⟩ := h
  rw [nn_some, addk]
  exact ⟨_, cl hS.1 rfl, rfl, t, rfl, b, hS.2⟩
theorem K27 {w : World} {base p s : Nat} {S : StS} {D : Dk} (h : SA w base p s S D) (hD : D.ok) : Calls Cz.P 27 #[.pointer (some ⟨s, 0, none⟩)] w (CP (fun r w' => Kp no w w' ∧ r = .int .i64 ((scan D.b).1.length : Int)) (fun _ _ => False)) := by
  refine C27 ?_
  unfold B27
  obtain ⟨t, b, q, hS, hq, hd, b1, b2, b3⟩ := h
  rw [nn_some]
  refine ⟨_, cl hS.1 rfl, (K63 hq hd hD).mono fun e w1 hp => ?_⟩
  cases e with
  | returned r =>
    obtain ⟨hk1, rfl⟩ := hp
    exact ⟨_, rfl, hk1, rfl⟩
  | _ => exact hp
/-- equal leases, as the code compares them -/
def eqL (x y : Ls) : Bool := (x.addr == y.addr) && ((x.bind == y.bind) && ((x.client.toList == y.client.toList) && ((x.till == y.till) && ((x.acked == y.acked) && ((x.told == y.told) && ((x.at_ == y.at_) && ((x.ver == y.ver) && true)))))))
theorem eqL_iff (x y : Ls) : eqL x y = true ↔ x = y := by
  obtain ⟨a, b, c, d, e, f, g, h⟩ := x
  obtain ⟨a', b', c', d', e', f', g', h'⟩ := y
  unfold eqL
  simp only [Bool.and_eq_true, beq_iff_eq, Bool.and_true, Ls.mk.injEq, ByteArray.toList_eq]
  have : (c.data.toList = c'.data.toList) ↔ c = c' := by
    constructor
    · intro h
      have := Array.toList_inj.1 h
      cases c; cases c'; simp at this; rw [this]
    · intro h; rw [h]
  rw [this]
def J26 (w : World) (A B : List Ls) (vs : List Value) (w' : World) : Prop := match vs with | [.int _ i] => ∃ k : Nat, i = k ∧ k ≤ A.length ∧ Kp no w w' ∧ A.take k = B.take k | _ => False
def M26 (A : List Ls) (vs : List Value) (_ : World) : Nat := match vs with | [.int _ i] => A.length - i.toNat | _ => 0
theorem K26 {w : World} {a a' : Option Addr} {n n' c c' : Nat} {A B : List Ls} (hA : RdS SL w (.slice a n c) A) (hB : RdS SL w (.slice a' n' c') B) (hl : A.length ≤ 1048576) (hl' : B.length ≤ 1048576) :
    Calls Cz.P 26 #[.slice a n c, .slice a' n' c'] w (CP (fun r w' => Kp no w w' ∧ ∃ b : Bool, r = .bool b ∧ (b = true ↔ A = B)) (fun _ _ => False)) := by
  refine C26 ?_
  have h1 := hA.len
  have h2 := hB.len
  subst h1 h2
  unfold B26
  refine ifB_split (fun hne => ?_) (fun he => ?_)
  · have hne : ¬ A.length = B.length := by
      intro h; rw [h] at hne; simp at hne
    exact ⟨.refl _ _, false, rfl, by simp, fun h => (hne (by rw [h])).elim⟩
  · have he : A.length = B.length := by
      have : (A.length : Int) = B.length := by simpa using he
      omega
    refine ⟨J26 w A B, M26 A, ⟨0, rfl, Nat.zero_le _, .refl _ _, by simp⟩, ?_⟩
    rintro x w1 ⟨k, rfl, hk, hk1, htk⟩
    unfold B26_l1
    refine ifB_dec (fun hlt => ?_) (fun hlt => ?_)
    · have hkA : k < A.length := by omega
      have hkB : k < B.length := by omega
      have hkd := hk1.then (Kp.drew no w1)
      have hA1 := hA.keepN hkd
      have hB1 := hB.keepN hkd
      obtain ⟨b1, o1, rfl, _⟩ := hA1.at hkA
      obtain ⟨b2, o2, rfl, _⟩ := hB1.at hkB
      have hi1 : IntKind.i64.wrap ((k : Int) + 1) = ((k + 1 : Nat) : Int) := by rw [wrap64 (by omega) (by omega)]; omega
      refine need_and (dec (by omega)) (dec (by omega)) ?_
      rw [nn_some, show (k : Int).toNat = k from rfl]
      refine rdL hA1 hkA (need_and (dec (by omega)) (dec (by omega)) ?_)
      rw [nn_some]
      refine rdL hB1 hkB ?_
      have hst : ∀ (X : List Ls) (h : k < X.length), X.take (k + 1) = X.take k ++ [X[k]] := by
        intro X h; rw [List.take_add_one, List.getElem?_eq_getElem h]; rfl
      show ifB (!(eqL A[k] B[k])) _ _
      cases hq : eqL A[k] B[k] with
      | true =>
        have := (eqL_iff _ _).1 hq
        refine ifB_false.2 ⟨⟨k + 1, hi1, hkA, hkd, by rw [hst A hkA, hst B hkB, htk, this]⟩, ?_⟩
        show A.length - (IntKind.i64.wrap ((k : Int) + 1)).toNat < A.length - (k : Int).toNat
        rw [hi1]; omega
      | false =>
        have hne : ¬ A[k] = B[k] := fun h => by rw [(eqL_iff _ _).2 h] at hq; cases hq
        exact ifB_true.2 ⟨hkd, false, rfl, by simp, fun h => by subst h; exact (hne rfl).elim⟩
    · have hkA : k = A.length := by omega
      subst hkA
      rw [List.take_length, List.take_of_length_le (by omega)] at htk
      exact ⟨hk1, true, rfl, fun _ => htk, fun _ => rfl⟩
end Go.Lf
end
