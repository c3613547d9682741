/- Part 30 of the lemmas that a proof leans on; no claim is made here. By an AI agent. -/
import Derived.Test.YtofhodpdfbnkiaaGreatLfD09
import Derived.Test.YtofhodpdfbnkiaaGreatLfD10
import Derived.Test.YtofhodpdfbnkiaaGreatLfD11
import Derived.Test.YtofhodpdfbnkiaaGreatLfD13
import Derived.Test.YtofhodpdfbnkiaaGreatLfD29
section
set_option linter.unusedVariables false
set_option linter.unusedSimpArgs false
namespace Go.Lf
open Go Go.Proofs
theorem setT_len (T : List Ls) (x : Ls) : (setT T x).2.length = T.length := by
  unfold setT
  split
  · split
    · rw [List.length_set]
    · rfl
  · rfl
theorem doRec_len (S : StS) (l : List UInt8) : (doRec S l).tab.length = S.tab.length := by
  unfold doRec
  split
  · rfl
  · split
    · split
      · exact setT_len _ _
      · rfl
    · split
      · rfl
      · split
        · split <;> rfl
        · rfl
theorem fold_len : ∀ (ls : List (List UInt8)) (S : StS), (ls.foldl doRec S).tab.length = S.tab.length
  | [], S => rfl
  | l :: ls, S => by rw [List.foldl_cons, fold_len ls, doRec_len]
def J14 (w : World) (s t : Nat) (v v0 : Value) (S : StS) (ls : List (List UInt8)) (vs : List Value) (w' : World) : Prop :=
  match vs with | [.int _ i] => ∃ k : Nat, i = k ∧ k ≤ ls.length ∧ Kp (fun k => k = s ∨ v.ownBlock = some k) w w' ∧ RStP w' s t v v0 ((ls.take k).foldl doRec S) | _ => False
theorem K14 {w : World} {p base : Nat} {D : Dk} {a : Option Addr} {n c : Nat} {rs : List Rg} (hd : DkAt 54 w p D) (hD : D.ok) (hb : base ≤ p) (hw : base ≤ w.heap.size) (hv : Rgs w (.slice a n c) rs) (hok : ∀ r ∈ rs, r.ok) (hl : rs.length ≤ 1048576) :
    Calls Cz.P 14 #[.pointer (some ⟨p, 0, none⟩), .slice a n c] w (CP (StoreOpen RSA 54 RK base p rs D w) (fun _ _ => False)) := by
  refine C14 ?_
  unfold B14
  refine (K42 hv hok hl).mono fun e w8 hp => ?_
  cases e with
  | returned r =>
    obtain ⟨hk8, hp⟩ := hp
    have hd8 := hd.keep hk8 nf .no
    have bad : ∀ x : Int, poolErr rs = x → x ≠ 0 → StoreOpen RSA 54 RK base p rs D w (.tuple #[.pointer none, .int .i64 x]) w8 := by
      intro x hx hne
      have e1 : openD rs D = (x, D) := by unfold openD; rw [hx, if_pos hne]
      unfold StoreOpen
      rw [e1]
      exact ⟨.of hk8, hd8, .inl ⟨hne, rfl⟩⟩
    rcases hp with ⟨h1, rfl⟩ | ⟨hall, ⟨h1, rfl⟩ | ⟨hcc, t, rfl, v, ht, hm⟩⟩
    · exact ⟨_, _, rfl, ifB_true.2 (bad 1 (by unfold poolErr; rw [if_pos h1]) (by decide))⟩
    · exact ⟨_, _, rfl, ifB_true.2 (bad 3 (by unfold poolErr; rw [if_neg (fun ⟨x, h2, h3⟩ => by have := hall x h2; omega), if_pos h1]) (by decide))⟩
    · have e0 : poolErr rs = 0 := by unfold poolErr; rw [if_neg (fun ⟨x, h2, h3⟩ => by have := hall x h2; omega), if_neg (by omega)]
      have e1 : openD rs D = D.openLog := by unfold openD; rw [e0]; rfl
      unfold StoreOpen openSt
      rw [e1]
      have hDo := Dk.openLog_ok hD
      have hbl := bl_bound hDo
      obtain ⟨hrec, hlen⟩ := scan_rec _ D.openLog.2.b rfl
      refine ⟨_, _, rfl, ifB_false.2 ((K43 hd8 hD).mono fun e w12 hp => ?_)⟩
      cases e with
      | returned r =>
        obtain ⟨hk12, hd12, hp⟩ := hp
        have hPB : RBlk w p := by obtain ⟨x, hx, _⟩ := hd; exact ⟨_, hx, .inr (.inr ⟨_, rfl⟩)⟩
        have hk012 : Kp (fun k => k = p) w w12 := hk8.then hk12
        have hpk : RK base w w12 := ⟨_, hk012, fun k h => by subst h; exact ⟨hb, hPB⟩⟩
        have ntp : ¬ t = p := by intro h; subst h; obtain ⟨x, hx, _⟩ := hd8; rw [ht] at hx; cases hx
        have hvp : ¬ v.ownBlock = some p := by obtain ⟨x, hx, _⟩ := hd8; exact hm.ne hx (by simp)
        rcases hp with ⟨hne, rfl⟩ | ⟨h0, q, hq, rfl, hlog⟩
        · exact ⟨_, _, rfl, ifB_split (fun _ => ⟨hpk, hd12, .inl ⟨hne, rfl⟩⟩) (fun h => by simp only [bne_eq_false_iff_eq] at h; exact (hne h).elim)⟩
        · refine ⟨_, _, rfl, ifB_false.2 (nw_i fun s w15 e15 hk15 g15 => ?_)⟩
          have hm12 : OwnS SL 49 w12 w.heap.size v (bares (pool rs)) := hm.kept hk12 (fun b hb h => hvp (h ▸ hb))
          have hS15 : RStP w15 s t v (.pointer (some ⟨q, 0, none⟩)) (st0 rs) := ⟨g15, hk15.at (hk12.at ht ntp) nf, (hm12.keep hk15 .no).base (Nat.zero_le _)⟩
          have hd15 := hd12.keep hk15 nf .no
          have hq15 : LogAt 123 w15 q p := hk15.at hlog nf
          refine (K44 hq15 hd15 hDo).mono fun e w19 hp => ?_
          cases e with
          | returned r =>
            obtain ⟨hk19, a19, n19, c19, rfl, ho19⟩ := hp
            have hS19 := hS15.keepN hk19
            have ho19' := ho19
            obtain ⟨_, _, hx⟩ := ho19.slice
            cases hx
            generalize hls : (scan D.openLog.2.b).1 = ls at *
            have ho0 := ho19.base (Nat.zero_le _)
            have z0 := hk8.size
            have z8 := hk12.size
            have z15 := hk15.size
            have z19 := hk19.size
            have s15 := lt_of_get g15
            have nps : ¬ (p = s ∨ v.ownBlock = some p) := by
              rintro (h | h)
              · subst h; obtain ⟨x, hx, _⟩ := hd15; rw [g15] at hx; cases hx
              · exact hvp h
            have nqs : ¬ (q = s ∨ v.ownBlock = some q) := by
              rintro (h | h)
              · subst h; unfold LogAt at hq15; rw [hq15] at g15; cases g15
              · exact hS15.2.2.ne hq15 (by simp) h
            have hnT : ∀ e, e ≠ 92 → e ≠ 49 → NoT e (fun k => k = s ∨ v.ownBlock = some k) w19 := by
              rintro e h1 h2 b' cs f (rfl | hb') hc
              · rw [hS19.1] at hc; cases hc; exact h1 rfl
              · obtain ⟨cs', hcs⟩ := hS19.2.2.type hb'
                rw [hcs] at hc; cases hc; exact h2 rfl
            refine ⟨_, _, _, rfl, J14 w19 s t v (.pointer (some ⟨q, 0, none⟩)) (st0 rs) ls, M39 ls, ⟨0, rfl, Nat.zero_le _, .refl _ _, hS19⟩, ?_⟩
            rintro i w24 ⟨k, rfl, hk, hk24, hS24⟩
            unfold B14_l1
            refine ifB_dec (fun hlt => ?_) (fun hlt => ?_)
            · have hk' : k < ls.length := by omega
              obtain ⟨q2, rfl, a', c', hc, ho⟩ := (ho0.keep hk24 (hnT 22 (by decide) (by decide)) (hnT 5 (by decide) (by decide))).at hk'
              have hi1 : IntKind.i64.wrap ((k : Int) + 1) = ((k + 1 : Nat) : Int) := by rw [wrap64 (by omega) (by omega)]; omega
              have hrk := hrec _ (List.getElem_mem hk')
              unfold recOk at hrk
              refine need_and (dec (by omega)) (dec (by omega)) ?_
              rw [nn_some, show (k : Int).toNat * 1 = k by omega]
              obtain ⟨f1, f2, f3, f4, f5⟩ := pool_facts hok hall hcc
              refine ⟨_, _, _, hc, (K45 hS24 (by rw [fold_len]; show (bares (pool rs)).length ≤ _; rw [bares_len]; omega) ho.bs (by omega) (by omega)).mono fun e w2 hp => ?_⟩
              cases e with
              | returned r =>
                obtain ⟨rfl, hk2, hS2⟩ := hp
                refine ⟨rfl, ⟨k + 1, hi1, hk', hk24.trans hk2 (fun _ _ h => h), by rw [fold_take hk']; exact hS2⟩, ?_⟩
                show ls.length - (IntKind.i64.wrap ((k : Int) + 1)).toNat < ls.length - (k : Int).toNat
                rw [hi1]; omega
              | _ => exact hp
            · have hk' : k = ls.length := by omega
              subst hk'
              rw [List.take_length] at hS24
              have hdz := (hd15.keep hk19 nf .no).keep hk24 nps (hnT 5 (by decide) (by decide))
              refine ⟨?_, hdz, .inr ⟨h0, s, rfl, t, v, q, hS24, hk24.at (hk19.at hq15 nf) nqs, hdz, by omega, fun k hk => by have := (hm.base_le k hk).1; omega, hb⟩⟩
              refine ⟨fun k => k = p, ?_, fun k h => by subst h; exact ⟨hb, hPB⟩⟩
              refine ((hk012.trans hk15 (fun _ _ h => h.elim)).trans hk19 (fun _ _ h => h.elim)).trans hk24 ?_
              intro k hk h
              rcases h with h | h
              · omega
              · have := (hm.base_le k h).1; omega
          | _ => exact hp
      | _ => exact hp
  | _ => exact hp
end Go.Lf
end

section
set_option linter.unusedVariables false
set_option linter.unusedSimpArgs false
namespace Go.Lf
open Go Go.Proofs
def noteS (S : StS) (D : Dk) (l : List UInt8) : Int × StS × Dk := ((D.appendRec l).1, if (D.appendRec l).1 = 0 then doRec S l else S, (D.appendRec l).2)
def OpPost (SAt : World → Nat → Nat → Nat → StS → Dk → Prop) (K : Nat → World → World → Prop) (base p s : Nat) (x : Int × StS × Dk) (w : World) (r : Value) (w' : World) : Prop :=
  K base w w' ∧ r = .int .i64 x.1 ∧ SAt w' base p s x.2.1 x.2.2
theorem K65 {w : World} {base p s : Nat} {S : StS} {D : Dk} {a : Option Addr} {n c : Nat} {l : List UInt8} (h : SA w base p s S D) (hD : D.ok) (hv : Bs w (.slice a n c) l) (h1 : 1 ≤ l.length) (h2 : l.length ≤ 1000000) :
    Calls Cz.P 65 #[.pointer (some ⟨s, 0, none⟩), .slice a n c] w (CP (OpPost SA PK base p s (noteS S D l) w) (fun _ _ => False)) := by
  refine C65 ?_
  unfold B65
  obtain ⟨t, b, q, hS, hq, hd, b1, b2, b3⟩ := h
  have hpb := SA.pb hS hd b1 b2 b3
  rw [nn_some]
  refine ⟨_, cl hS.1 rfl, (K99 hq hd hD hv).mono fun e w1 hp => ?_⟩
  cases e with
  | returned r =>
    obtain ⟨hk1, rfl, hd1⟩ := hp
    obtain ⟨n1, n2, n3⟩ := hS.ne
    have np : ∀ {k o}, w.heap[k]? = some o → (∀ cs, o ≠ .cells cs 72 (0, 0)) → ¬ k = p := by
      intro k o ho hne h; subst h
      obtain ⟨x, hx, _⟩ := hd
      rw [ho] at hx; cases hx; exact hne _ rfl
    have hS1 : StP w1 s t b (.pointer (some ⟨q, 0, none⟩)) S := ⟨hk1.at hS.1 (np hS.1 (by simp)), hk1.at hS.2.1 (np hS.2.1 (by simp)), hk1.at hS.2.2 (np hS.2.2 (by simp))⟩
    have hq1 : LogAt 112 w1 q p := hk1.at hq (np hq (by simp))
    have hk1' : Kp (fun k => k = s ∨ k = b ∨ k = p) w w1 := hk1.mono fun _ _ h => .inr (.inr h)
    refine ⟨_, rfl, ifB_split (fun h0 => ?_) (fun h0 => ?_)⟩
    · have h0 : (D.appendRec l).1 = 0 := by simpa using h0
      have hvl : Bs w1 (.slice a n c) l := hv.keepU hk1 hd.noU
      refine (K41 hS1 hvl h1 h2).mono fun e w2 hp => ?_
      cases e with
      | returned r =>
        obtain ⟨rfl, hk2, hS2⟩ := hp
        have nd : ¬ (p = s ∨ p = b) := by
          obtain ⟨x, hx, _⟩ := hd1
          rintro (h | h)
          · subst h; rw [hS1.1] at hx; cases hx
          · subst h; have := hS1.2.2; unfold MapAt at this; rw [this] at hx; cases hx
        have nq : ¬ (q = s ∨ q = b) := by
          unfold LogAt at hq1
          rintro (h | h)
          · subst h; rw [hS1.1] at hq1; cases hq1
          · subst h; have := hS1.2.2; unfold MapAt at this; rw [this] at hq1; cases hq1
        have hn5 : NoT 5 (fun k => k = s ∨ k = b) w1 := by
          rintro b' cs f (rfl | rfl) hc
          · rw [hS1.1] at hc; cases hc
          · rw [hS1.2.2] at hc; cases hc
        refine ⟨rfl, ?_⟩
        show OpPost SA PK base p s (noteS S D l) w (.int .i64 (D.appendRec l).1) w2
        unfold noteS
        rw [if_pos h0]
        exact ⟨⟨_, hk1'.trans hk2 (fun k _ h => by rcases h with h | h <;> simp [h]), hpb⟩, rfl, t, b, q, hS2, hk2.at hq1 nq, hd1.keep hk2 nd hn5, b1, b2, b3⟩
      | _ => exact hp
    · have h0 : ¬ (D.appendRec l).1 = 0 := by intro h; rw [h] at h0; simp at h0
      show OpPost SA PK base p s (noteS S D l) w (.int .i64 (D.appendRec l).1) w1
      unfold noteS
      rw [if_neg h0]
      exact ⟨⟨_, hk1', hpb⟩, rfl, t, b, q, hS1, hq1, hd1, b1, b2, b3⟩
  | _ => exact hp
theorem K84 {w : World} {base p s : Nat} {S : StS} {D : Dk} {a : Option Addr} {n c : Nat} {l : List UInt8} (h : RSA w base p s S D) (hD : D.ok) (hT : S.tab.length ≤ 1048576) (hv : Bs w (.slice a n c) l) (h1 : 1 ≤ l.length) (h2 : l.length ≤ 1000000) :
    Calls Cz.P 84 #[.pointer (some ⟨s, 0, none⟩), .slice a n c] w (CP (OpPost RSA RK base p s (noteS S D l) w) (fun _ _ => False)) := by
  refine C84 ?_
  unfold B84
  obtain ⟨t, v, q, hS, hq, hd, b1, b2, b3⟩ := h
  have hpb := RSA.pb hS hd b1 b2 b3
  rw [nn_some]
  refine ⟨_, cl hS.1 rfl, (K116 hq hd hD hv).mono fun e w1 hp => ?_⟩
  cases e with
  | returned r =>
    obtain ⟨hk1, rfl, hd1⟩ := hp
    obtain ⟨n1, n2, n3⟩ := hS.ne
    have np : ∀ {k o}, w.heap[k]? = some o → (∀ cs, o ≠ .cells cs 54 (0, 0)) → ¬ k = p := by
      intro k o ho hne h; subst h
      obtain ⟨x, hx, _⟩ := hd
      rw [ho] at hx; cases hx; exact hne _ rfl
    have hvp : ¬ v.ownBlock = some p := by obtain ⟨x, hx, _⟩ := hd; exact hS.2.2.ne hx (by simp)
    have hS1 : RStP w1 s t v (.pointer (some ⟨q, 0, none⟩)) S := ⟨hk1.at hS.1 (np hS.1 (by simp)), hk1.at hS.2.1 (np hS.2.1 (by simp)), hS.2.2.kept hk1 (fun b hb h => hvp (h ▸ hb))⟩
    have hq1 : LogAt 123 w1 q p := hk1.at hq (np hq (by simp))
    have hk1' : Kp (fun k => k = s ∨ v.ownBlock = some k ∨ k = p) w w1 := hk1.mono fun _ _ h => .inr (.inr h)
    refine ⟨_, rfl, ifB_split (fun h0 => ?_) (fun h0 => ?_)⟩
    · have h0 : (D.appendRec l).1 = 0 := by simpa using h0
      have hvl : Bs w1 (.slice a n c) l := hv.keepU hk1 hd.noU
      refine (K45 hS1 hT hvl h1 h2).mono fun e w2 hp => ?_
      cases e with
      | returned r =>
        obtain ⟨rfl, hk2, hS2⟩ := hp
        have nd : ¬ (p = s ∨ v.ownBlock = some p) := by
          obtain ⟨x, hx, _⟩ := hd1
          rintro (h | h)
          · subst h; rw [hS1.1] at hx; cases hx
          · exact hvp h
        have nq : ¬ (q = s ∨ v.ownBlock = some q) := by
          rintro (h | h)
          · subst h; unfold LogAt at hq1; rw [hS1.1] at hq1; cases hq1
          · exact hS1.2.2.ne hq1 (by simp) h
        have hn5 : NoT 5 (fun k => k = s ∨ v.ownBlock = some k) w1 := by
          rintro b' cs f (rfl | hb') hc
          · rw [hS1.1] at hc; cases hc
          · obtain ⟨cs', hcs⟩ := hS1.2.2.type hb'
            rw [hcs] at hc; cases hc
        refine ⟨rfl, ?_⟩
        show OpPost RSA RK base p s (noteS S D l) w (.int .i64 (D.appendRec l).1) w2
        unfold noteS
        rw [if_pos h0]
        exact ⟨⟨_, hk1'.trans hk2 (fun k _ h => by rcases h with h | h <;> simp [h]), hpb⟩, rfl, t, v, q, hS2, hk2.at hq1 nq, hd1.keep hk2 nd hn5, b1, b2, b3⟩
      | _ => exact hp
    · have h0 : ¬ (D.appendRec l).1 = 0 := by intro h; rw [h] at h0; simp at h0
      show OpPost RSA RK base p s (noteS S D l) w (.int .i64 (D.appendRec l).1) w1
      unfold noteS
      rw [if_neg h0]
      exact ⟨⟨_, hk1', hpb⟩, rfl, t, v, q, hS1, hq1, hd1, b1, b2, b3⟩
  | _ => exact hp
theorem enc_len {x : Ls} (h : x.right = true) : x.enc.length ≤ 100 := by
  have := (right_bounds h).2.2.2.2.2.2
  unfold Ls.enc
  simp only [List.length_append, be_length, List.length_cons, List.length_nil, Array.length_toList]
  show _ + x.client.size ≤ 100
  omega
theorem K61 {x : Ls} (hr : x.right = true) (ha : 0 ≤ x.addr ∧ x.addr < 4294967296) (w : World) : Calls Cz.P 61 #[x.val] w (CP (fun r w' => Kp no w w' ∧ ∃ a n c, r = .slice a n c ∧ OwnB w' w.heap.size (.slice a n c) (76 :: x.enc)) (fun _ _ => False)) := by
  refine C61 ?_
  unfold B61
  refine nw_i fun k w1 e1 hk1 g1 => rd8 (x := x) g1 ((K95 ha w1).mono fun e w2 hp => ?_)
  cases e with
  | returned r =>
    obtain ⟨hk2, ⟨h, _⟩ | ⟨_, a, n, c, rfl, ho⟩⟩ := hp
    · rw [hr] at h; cases h
    · obtain ⟨a3, n3, c3, w3, hr3, hk3, ho3⟩ := E22b (w := w2) [76] (by simp) #[(0, .int .u8 76)] rfl
      have ho' := own_keep ho hk3 .no
      have hlen := enc_len hr
      obtain ⟨a4, n4, c4, w4, hr4, ho4, hk4⟩ := appB (ty := 22) ho3 (OwnB.bs (own_keep ho hk3 .no)) hk3.size (by rw [List.length_append]; simp; omega)
      refine ⟨_, _, _, _, rfl, _, _, _, _, hr3, _, _, _, _, hr4, ?_, _, _, _, rfl, ?_⟩
      · exact ((hk1.then hk2).then hk3).trans hk4 (fun k hk h => by have := ho3.base_le k h; have := hk1.size; have := hk2.size; omega)
      · exact own_base ho4 (by have := hk1.size; have := hk2.size; omega)
  | _ => exact hp
theorem K85 {x : Ls} (hr : x.right = true) (ha : 0 ≤ x.addr ∧ x.addr < 4294967296) (w : World) : Calls Cz.P 85 #[x.val] w (CP (fun r w' => Kp no w w' ∧ ∃ a n c, r = .slice a n c ∧ OwnB w' w.heap.size (.slice a n c) (76 :: x.enc)) (fun _ _ => False)) := by
  refine C85 ?_
  unfold B85
  refine nw_i fun k w1 e1 hk1 g1 => rd8 (x := x) g1 ((K113 ha w1).mono fun e w2 hp => ?_)
  cases e with
  | returned r =>
    obtain ⟨hk2, ⟨h, _⟩ | ⟨_, a, n, c, rfl, ho⟩⟩ := hp
    · rw [hr] at h; cases h
    · obtain ⟨a3, n3, c3, w3, hr3, hk3, ho3⟩ := E22b (w := w2) [76] (by simp) #[(0, .int .u8 76)] rfl
      have hlen := enc_len hr
      obtain ⟨a4, n4, c4, w4, hr4, ho4, hk4⟩ := appB (ty := 22) ho3 (OwnB.bs (own_keep ho hk3 .no)) hk3.size (by rw [List.length_append]; simp; omega)
      refine ⟨_, _, _, _, rfl, _, _, _, _, hr3, _, _, _, _, hr4, ?_, _, _, _, rfl, ?_⟩
      · exact ((hk1.then hk2).then hk3).trans hk4 (fun k hk h => by have := ho3.base_le k h; have := hk1.size; have := hk2.size; omega)
      · exact own_base ho4 (by have := hk1.size; have := hk2.size; omega)
  | _ => exact hp
def putS (S : StS) (D : Dk) (x : Ls) : Int × StS × Dk := if x.right = true then (if (getT S.tab x.addr).2 = 0 then noteS S D (76 :: x.enc) else ((getT S.tab x.addr).2, S, D)) else (1, S, D)
def JC29 (w : World) (k11 : Nat) (x : Ls) (y : Int) (vs : List Value) (w' : World) : Prop := match vs with | [.int _ z] => z = y ∧ Kp no w w' ∧ w'.heap[k11]? = some (.cells x.cells 49 (0, 0)) | _ => False
theorem K29 {w : World} {base p s : Nat} {S : StS} {D : Dk} (h : SA w base p s S D) (hD : D.ok) (hw : base ≤ w.heap.size) {x : Ls} (ha : 0 ≤ x.addr ∧ x.addr < 4294967296) :
    Calls Cz.P 29 #[.pointer (some ⟨s, 0, none⟩), x.val] w (CP (OpPost SA PK base p s (putS S D x) w) (fun _ _ => False)) := by
  refine C29 ?_
  unfold B29
  refine nw_i fun k w1 e1 hk1 g1 => rd8 (x := x) g1 ((K64 x w1).mono fun e w2 hp2 => ?_)
  cases e with
  | returned r =>
    obtain ⟨hk2, rfl⟩ := hp2
    have hk02 := hk1.then hk2
    have g2 := hk2.at g1 nf
    refine ⟨_, rfl, ?_⟩
    unfold putS
    cases hr : x.right with
    | false => exact ifB_true.2 ⟨.of hk02, rfl, h.keepN hk02⟩
    | true =>
      rw [if_pos rfl]
      have hkd : Kp no w w2.drew := hk02.then (.drew no _)
      have g2d : w2.drew.heap[k]? = some (.cells x.cells 49 (0, 0)) := g2
      obtain ⟨t, b, q, hS, hq, hd, b1, b2, b3⟩ := h.keepN hkd
      have z2 := hkd.size
      have s2 := lt_of_get g2d
      refine ifB_false.2 ⟨JC29 w k x (getT S.tab x.addr).2, ?_, ?_⟩
      · simp only [nn_some, addk, Nat.zero_add]
        refine ⟨_, cl hS.1 rfl, _, cl g2d rfl, (K28 ⟨b, hS.2⟩ x.addr).mono fun e w3 hp => ?_, nw_i fun k5 w5 e5 hk5 g5 => ⟨⟨⟨hk5.cellD g2d nf, trivial⟩, ⟨hk5.cellD hS.1 nf, trivial⟩, trivial⟩, (K28 ⟨b, (hS.keepN hk5).2⟩ x.addr).mono fun e w6 hp => ?_⟩⟩
        · cases e with
          | returned r =>
            obtain ⟨hk3, rfl⟩ := hp
            have z3 := hk3.size
            refine ⟨_, _, _, _, _, _, _, _, _, rfl, nw_i fun k4 w4 e4 hk4 g4 => ⟨trivial, stL (getT S.tab x.addr).1 (x := bare 0 0 0) g4 fun w5 hk5 g5 => ⟨trivial, rfl, ?_, ?_⟩⟩⟩
            · exact (((hkd.then hk3).then hk4).trans hk5 (fun k hk h => by omega))
            · exact hk5.at (hk4.at (hk3.at g2d nf) nf) (by omega)
          | _ => exact hp
        · cases e with
          | returned r =>
            obtain ⟨hk6, rfl⟩ := hp
            have z5 := hk5.size
            refine ⟨_, _, _, _, _, _, _, _, _, rfl, stL (getT S.tab x.addr).1 (x := bare 0 0 0) (hk6.at g5 nf) fun w7 hk7 g7 => ⟨trivial, rfl, ?_, ?_⟩⟩
            · exact ((hkd.then hk5).then hk6).trans hk7 (fun k hk h => by omega)
            · exact hk7.at (hk6.at (hk5.at g2d nf) nf) (by omega)
          | _ => exact hp
      · rintro z w3 ⟨rfl, hk3, g3⟩
        refine ifB_split (fun hne => ?_) (fun he => ?_)
        · have hne : ¬ (getT S.tab x.addr).2 = 0 := by simpa using hne
          rw [if_neg hne]
          exact ⟨.of hk3, rfl, h.keepN hk3⟩
        · have he : (getT S.tab x.addr).2 = 0 := by simpa using he
          rw [if_pos he]
          refine rd8 (x := x) g3 ((K61 hr ha w3).mono fun e w4 hp => ?_)
          cases e with
          | returned r =>
            obtain ⟨hk4, a, n, c, rfl, ho⟩ := hp
            have hlen := enc_len hr
            have hk04 := hk3.then hk4
            refine ⟨_, _, _, rfl, (K65 (h.keepN hk04) hD ho.bs (by simp) (by simp; omega)).mono fun e w5 hp => ?_⟩
            cases e with
            | returned r =>
              obtain ⟨hk5, rfl, hs5⟩ := hp
              exact ⟨_, rfl, .then hk04 hk5, rfl, hs5⟩
            | _ => exact hp
          | _ => exact hp
  | _ => exact hp2
theorem K46 {w : World} {base p s : Nat} {S : StS} {D : Dk} (h : RSA w base p s S D) (hD : D.ok) (hT : S.tab.length ≤ 1048576) {x : Ls} (ha : 0 ≤ x.addr ∧ x.addr < 4294967296) :
    Calls Cz.P 46 #[.pointer (some ⟨s, 0, none⟩), x.val] w (CP (OpPost RSA RK base p s (putS S D x) w) (fun _ _ => False)) := by
  refine C46 ?_
  unfold B46
  refine nw_i fun k w1 e1 hk1 g1 => rd8 (x := x) g1 ((K82 x w1).mono fun e w2 hp2 => ?_)
  cases e with
  | returned r =>
    obtain ⟨hk2, rfl⟩ := hp2
    have hk02 := hk1.then hk2
    have g2 := hk2.at g1 nf
    refine ⟨_, rfl, ?_⟩
    unfold putS
    cases hr : x.right with
    | false => exact ifB_true.2 ⟨.of hk02, rfl, h.keepN hk02⟩
    | true =>
      rw [if_pos rfl]
      have hkd : Kp no w w2.drew := hk02.then (.drew no _)
      have g2d : w2.drew.heap[k]? = some (.cells x.cells 49 (0, 0)) := g2
      obtain ⟨t, v, q, hS, hq, hd, b1, b2, b3⟩ := h.keepN hkd
      have z2 := hkd.size
      have s2 := lt_of_get g2d
      refine ifB_false.2 ⟨JC29 w k x (getT S.tab x.addr).2, ?_, ?_⟩
      · simp only [nn_some, addk, Nat.zero_add]
        refine ⟨_, cl hS.1 rfl, _, cl g2d rfl, (K83 ⟨v, hS.2⟩ hT x.addr).mono fun e w3 hp => ?_, nw_i fun k5 w5 e5 hk5 g5 => ⟨⟨⟨hk5.cellD g2d nf, trivial⟩, ⟨hk5.cellD hS.1 nf, trivial⟩, trivial⟩, (K83 ⟨v, (hS.keepN hk5).2⟩ hT x.addr).mono fun e w6 hp => ?_⟩⟩
        · cases e with
          | returned r =>
            obtain ⟨hk3, rfl⟩ := hp
            have z3 := hk3.size
            refine ⟨_, _, _, _, _, _, _, _, _, rfl, nw_i fun k4 w4 e4 hk4 g4 => ⟨trivial, stL (getT S.tab x.addr).1 (x := bare 0 0 0) g4 fun w5 hk5 g5 => ⟨trivial, rfl, ?_, ?_⟩⟩⟩
            · exact (((hkd.then hk3).then hk4).trans hk5 (fun k hk h => by omega))
            · exact hk5.at (hk4.at (hk3.at g2d nf) nf) (by omega)
          | _ => exact hp
        · cases e with
          | returned r =>
            obtain ⟨hk6, rfl⟩ := hp
            have z5 := hk5.size
            refine ⟨_, _, _, _, _, _, _, _, _, rfl, stL (getT S.tab x.addr).1 (x := bare 0 0 0) (hk6.at g5 nf) fun w7 hk7 g7 => ⟨trivial, rfl, ?_, ?_⟩⟩
            · exact ((hkd.then hk5).then hk6).trans hk7 (fun k hk h => by omega)
            · exact hk7.at (hk6.at (hk5.at g2d nf) nf) (by omega)
          | _ => exact hp
      · rintro z w3 ⟨rfl, hk3, g3⟩
        refine ifB_split (fun hne => ?_) (fun he => ?_)
        · have hne : ¬ (getT S.tab x.addr).2 = 0 := by simpa using hne
          rw [if_neg hne]
          exact ⟨.of hk3, rfl, h.keepN hk3⟩
        · have he : (getT S.tab x.addr).2 = 0 := by simpa using he
          rw [if_pos he]
          refine rd8 (x := x) g3 ((K85 hr ha w3).mono fun e w4 hp => ?_)
          cases e with
          | returned r =>
            obtain ⟨hk4, a, n, c, rfl, ho⟩ := hp
            have hlen := enc_len hr
            have hk04 := hk3.then hk4
            refine ⟨_, _, _, rfl, (K84 (h.keepN hk04) hD hT ho.bs (by simp) (by simp; omega)).mono fun e w5 hp => ?_⟩
            cases e with
            | returned r =>
              obtain ⟨hk5, rfl, hs5⟩ := hp
              exact ⟨_, rfl, .then hk04 hk5, rfl, hs5⟩
            | _ => exact hp
          | _ => exact hp
  | _ => exact hp2
end Go.Lf
end
