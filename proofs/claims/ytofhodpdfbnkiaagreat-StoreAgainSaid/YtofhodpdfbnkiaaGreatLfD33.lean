/- Part 33 of the lemmas that a proof leans on; no claim is made here. By an AI agent. -/
import Derived.Test.YtofhodpdfbnkiaaGreatLfD08
import Derived.Test.YtofhodpdfbnkiaaGreatLfD32
import Derived.ProofKit
import Derived.OpenShut
import Derived.Deep.Slices
import Derived.Carry
section
set_option linter.unusedVariables false
set_option linter.unusedSimpArgs false
namespace Go.Lf
open Go Go.Proofs
theorem look_le {a : Int} {T : List Ls} {i j : Nat} {x : Ls} (h : look a T i = some (j, x)) : i ≤ j := (look_some h).1
theorem look_set (x : Ls) : ∀ (T : List Ls) (i j : Nat) (y : Ls), look x.addr T i = some (j, y) → ∀ a, look a (T.set (j - i) x) i = if a = x.addr then some (j, x) else look a T i
  | [], i, j, y, h, a => by cases h
  | z :: T, i, j, y, h, a => by
    rw [look_cons] at h
    split at h
    · rename_i hz
      cases h
      rw [Nat.sub_self, List.set_cons_zero, look_cons, look_cons]
      by_cases ha : a = x.addr
      · subst ha; simp
      · rw [if_neg (fun h => ha h.symm), if_neg ha, if_neg (fun h => ha (by rw [← h, hz]))]
    · rename_i hz
      have hle := look_le h
      rw [show j - i = (j - (i + 1)) + 1 by omega, List.set_cons_succ, look_cons, look_cons, look_set x T (i + 1) j y h a]
      by_cases ha : a = x.addr
      · subst ha; rw [if_neg hz, if_pos rfl, if_pos rfl]
      · rw [if_neg ha]
        by_cases hza : z.addr = a
        · simp [hza, ha]
        · simp [hza, ha]
def inT (T : List Ls) (a : Int) : Prop := ∃ x ∈ T, x.addr = a
theorem look_isSome {T : List Ls} {a : Int} : ∀ {i : Nat}, (look a T i).isSome = true ↔ inT T a := by
  intro i
  cases h : look a T i with
  | none => simp only [Option.isSome_none, Bool.false_eq_true, false_iff]; rintro ⟨x, hx, hxa⟩; exact look_none h x hx hxa
  | some p => simp only [Option.isSome_some, true_iff]; exact ⟨p.2, List.mem_of_getElem? (look_some (j := p.1) (x := p.2) h).2.1, (look_some (j := p.1) (x := p.2) h).2.2⟩
theorem getT_some {T : List Ls} {a : Int} (h : inT T a) : ∃ x ∈ T, x.addr = a ∧ getT T a = (x, 0) := by
  have := (look_isSome (i := 0)).2 h
  obtain ⟨p, hp⟩ := Option.isSome_iff_exists.1 this
  obtain ⟨_, h2, h3⟩ := look_some (j := p.1) (x := p.2) hp
  exact ⟨p.2, List.mem_of_getElem? h2, h3, by unfold getT; rw [hp]⟩
theorem getT_none {T : List Ls} {a : Int} (h : ¬ inT T a) : getT T a = (bare 0 0 0, 4) := by
  unfold getT
  cases hl : look a T 0 with
  | none => rfl
  | some p => exact (h ((look_isSome (i := 0)).1 (by rw [hl]; rfl))).elim
open Classical in
theorem getT_setT (T : List Ls) (x : Ls) (a : Int) : getT (setT T x).2 a = if a = x.addr ∧ x.right = true ∧ inT T a then (x, 0) else getT T a := by
  unfold setT
  by_cases hr : x.right = true
  · rw [if_pos hr]
    cases hl : look x.addr T 0 with
    | none =>
      simp only
      rw [if_neg]
      rintro ⟨rfl, _, h⟩
      have := (look_isSome (i := 0)).2 h
      rw [hl] at this; cases this
    | some p =>
      obtain ⟨j, y⟩ := p
      have hs := look_set x T 0 j y hl a
      rw [Nat.sub_zero] at hs
      unfold getT
      simp only
      rw [hs]
      by_cases ha : a = x.addr
      · subst ha
        have : inT T x.addr := (look_isSome (i := 0)).1 (by rw [hl]; rfl)
        rw [if_pos rfl, if_pos ⟨rfl, hr, this⟩]
      · rw [if_neg ha, if_neg (fun h => ha h.1)]
  · rw [if_neg hr, if_neg (fun h => hr h.2.1)]
theorem inT_setT (T : List Ls) (x : Ls) (a : Int) : inT (setT T x).2 a ↔ inT T a := by
  have h := setT_addrs T x
  have h1 : ∀ T : List Ls, inT T a ↔ a ∈ T.map (·.addr) := fun T => by simp [inT]
  rw [h1, h1, h]
theorem Dk.dec_inn {D : Dk} (h : D.inn = -1) : D.dec = D := by
  unfold Dk.dec; rw [if_neg (by omega)]
theorem append_log {D : Dk} (hi : D.inn = -1) {l : List UInt8} (hl : (D.b.length : Int) + l.length ≤ D.room) : D.append l = (0, { D with b := D.b ++ l }) := by
  unfold Dk.append Dk.change
  rw [if_neg (by omega), if_neg (by omega), Dk.dec_inn hi]
theorem note_log {S : StS} {D : Dk} {rs : List (List UInt8)} (h : LogIs S D rs) {l : List UInt8} (hl : recOk l) (hr : (D.b.length : Int) + (put l).length ≤ D.room) :
    noteS S D l = (0, doRec S l, { D with b := D.b ++ put l }) ∧ LogIs (doRec S l) { D with b := D.b ++ put l } (rs ++ [l]) := by
  have e : D.appendRec l = (0, { D with b := D.b ++ put l }) := by unfold Dk.appendRec; rw [if_pos hl, append_log h.inn hr]
  refine ⟨by unfold noteS; rw [e]; rfl, ⟨?_, ?_, ?_, h.inn⟩⟩
  · intro x hx
    rcases List.mem_append.1 hx with hx | hx
    · exact h.ok x hx
    · rw [List.mem_singleton.1 hx]; exact hl
  · simp only; rw [encode_append, h.b]; simp [encode]
  · rw [List.foldl_append, ← h.st]; rfl
theorem st0_in (a : Int) : inT (st0 pool6).tab a ↔ 1 ≤ a ∧ a ≤ 6 := by
  unfold st0
  rw [pool6_eq]
  constructor
  · rintro ⟨x, hx, rfl⟩
    obtain ⟨n, hn, rfl⟩ := List.mem_map.1 hx
    have := addrs_mem.1 hn
    unfold inU pool6 at this
    simp at this
    show 1 ≤ ((n : Nat) : Int) ∧ ((n : Nat) : Int) ≤ 6
    omega
  · rintro ⟨h1, h2⟩
    refine ⟨bare (a.toNat : Int) 0 0, List.mem_map.2 ⟨a.toNat, addrs_mem.2 ⟨⟨1, 6⟩, by simp [pool6], ?_, ?_⟩, rfl⟩, ?_⟩
    · show ((1 : Nat) : Int) ≤ _; omega
    · show _ ≤ ((6 : Nat) : Int); omega
    · show ((a.toNat : Nat) : Int) = a; omega
theorem crash_log {D : Dk} {n : Int} (h : D.inn = -1) : (D.crash n).inn = -1 := rfl
/-- what a crash that keeps least leaves -/
theorem kept0 {D : Dk} (hD : D.ok) : D.kept 0 = D.last.toNat := by
  obtain ⟨h1, h2, h3, h4, h5, h6, h7⟩ := hD
  unfold Dk.kept
  rw [if_neg (by omega)]
  split <;> omega
end Go.Lf
end

section
set_option linter.unusedVariables false
set_option linter.unusedSimpArgs false
namespace Go.Lf
open Go Go.Proofs
theorem log0 (r : Int) : LogIs (st0 pool6) ⟨r, [], 0, -1⟩ [] := ⟨by simp, rfl, rfl, rfl⟩
theorem dk0_ok {r : Int} (h : 1 ≤ r ∧ r ≤ 1048576) : Dk.ok ⟨r, [], 0, -1⟩ := ⟨h.1, h.2, by simp; omega, by simp, by simp, by simp, by simp⟩
theorem y1_right : (bare 1 1 0).right = true := by unfold bare Ls.right tm held; simp; decide
def aw1 : List UInt8 := 76 :: (bare 1 1 0).enc
def awD (n : Nat) (b : List UInt8) : Dk := ⟨1000, b, n, -1⟩
theorem aw1_len : (put aw1).length = 40 := by
  rw [put_length]
  have : aw1.length = 37 := by
    unfold aw1 Ls.enc
    simp only [List.length_append, be_length, List.length_cons, List.length_nil, Array.length_toList]
    rfl
  omega
theorem len2 (n : Int) : (put (lifeRec n)).length = 8 := by rw [put_length, lifeRec_len]
theorem len3 (n : Int) : (put (stRec n)).length = 5 := by rw [put_length]; rfl
set_option maxRecDepth 100000 in
theorem K8 (w : World) : Calls Cz.P 8 #[] w (CP (fun r w' => Kp no w w' ∧ r = .bool true) (fun _ _ => False)) := by
  refine C8 ?_
  unfold B8
  refine (K9 1000 w).mono fun e w1 hp => ?_
  cases e with
  | returned r =>
    obtain ⟨hk1, ⟨hn, _⟩ | ⟨_, p, hp1, rfl, hd1⟩⟩ := hp
    · exact (hn ⟨by decide, by decide⟩).elim
    refine ⟨_, _, rfl, (K17 w1).mono fun e w2 hp => ?_⟩
    cases e with
    | returned r =>
      obtain ⟨hk2, a2, n2, c2, rfl, hv2⟩ := hp
      have hD1 := dk0_ok (r := 1000) ⟨by decide, by decide⟩
      have hk02 := hk1.then hk2
      have z02 := hk02.size
      refine ⟨_, _, _, rfl, (K13 (base := w.heap.size) (hd1.keep hk2 nf .no) hD1 hp1 z02 hv2 pool6_ok (by decide)).mono fun e w3 hp => ?_⟩
      cases e with
      | returned r =>
        obtain ⟨hk3, hd3, hp⟩ := hp
        have hl0 := log0 1000
        obtain ⟨ho1, ho2⟩ := openLog_of hl0.ok hl0.b
        have hod : openD pool6 ⟨1000, [], 0, -1⟩ = (0, ⟨1000, [], 0, -1⟩) := by rw [openD6]; exact ho1
        have hos : openSt pool6 ⟨1000, [], 0, -1⟩ = st0 pool6 := by unfold openSt; rw [hod]; simp only; rw [ho2]; rfl
        rw [hod, hos] at hp
        rcases hp with ⟨hne, _⟩ | ⟨_, s, rfl, hs3⟩
        · exact (hne rfl).elim
        refine ⟨_, _, rfl, ifB_false.2 (ifB_false.2 ?_)⟩
        unfold B8_j1
        refine ifB_false.2 ?_
        have z3 := hk3.kp.size
        have hok0 : (st0 pool6).ok := st0_ok pool6_ok pool6_err
        -- Put
        have hg1 : (getT (st0 pool6).tab (bare 1 1 0).addr).2 = 0 := by
          obtain ⟨x, _, _, hx⟩ := getT_some ((st0_in 1).2 ⟨by decide, by decide⟩)
          exact congrArg Prod.snd hx
        obtain ⟨n1, l1⟩ := note_log hl0 (leaseRec_ok y1_right) (by show (0 : Int) + ((put aw1).length : Nat) ≤ 1000; rw [aw1_len]; decide)
        have hput : putS (st0 pool6) ⟨1000, [], 0, -1⟩ (bare 1 1 0) = (0, doRec (st0 pool6) aw1, ⟨1000, put aw1, 0, -1⟩) := by unfold putS; rw [if_pos y1_right, if_pos hg1]; exact n1
        refine (K29 hs3 hD1 (by omega) (x := bare 1 1 0) ⟨by decide, by decide⟩).mono fun e w4 hp => ?_
        cases e with
        | returned r =>
          rw [hput] at hp
          obtain ⟨hk4, rfl, hs4⟩ := hp
          have hD4 : Dk.ok ⟨1000, put aw1, 0, -1⟩ := ⟨by decide, by decide, by simp only; rw [aw1_len]; decide, by simp, by simp, by simp, by simp⟩
          obtain ⟨n2, l2⟩ := note_log l1 (lifeRec_ok 3) (by show ((([] ++ put aw1 : List UInt8).length : Nat) : Int) + ((put (lifeRec 3)).length : Nat) ≤ 1000; rw [List.nil_append, aw1_len, len2]; decide)
          have hlife : setLifeS (doRec (st0 pool6) aw1) ⟨1000, put aw1, 0, -1⟩ 3 = (0, doRec (doRec (st0 pool6) aw1) (lifeRec 3), ⟨1000, put aw1 ++ put (lifeRec 3), 0, -1⟩) := by unfold setLifeS; rw [if_neg (by decide)]; exact n2
          refine ⟨_, rfl, (K30 hs4 hD4 3).mono fun e w5 hp => ?_⟩
          cases e with
          | returned r =>
            rw [hlife] at hp
            obtain ⟨hk5, rfl, hs5⟩ := hp
            have hlen5 : (put aw1 ++ put (lifeRec 3)).length = 48 := by rw [List.length_append, aw1_len, len2]
            have hD5 : Dk.ok ⟨1000, put aw1 ++ put (lifeRec 3), 0, -1⟩ := ⟨by decide, by decide, by simp only; rw [hlen5]; decide, by simp, by simp only; omega, by simp, by simp⟩
            have hsync : syncS (doRec (doRec (st0 pool6) aw1) (lifeRec 3)) ⟨1000, put aw1 ++ put (lifeRec 3), 0, -1⟩ = (0, doRec (doRec (st0 pool6) aw1) (lifeRec 3), ⟨1000, put aw1 ++ put (lifeRec 3), 48, -1⟩) := by
              generalize put aw1 ++ put (lifeRec 3) = bb at hlen5
              generalize doRec (doRec (st0 pool6) aw1) (lifeRec 3) = S0
              unfold syncS Dk.sync Dk.change
              rw [if_neg (by simp), if_neg (by simp), Dk.dec_inn rfl]
              simp [hlen5]
            refine ⟨_, rfl, (K31 hs5 hD5).mono fun e w6 hp => ?_⟩
            cases e with
            | returned r =>
              rw [hsync] at hp
              obtain ⟨hk6, rfl, hs6⟩ := hp
              have hD6 : Dk.ok ⟨1000, put aw1 ++ put (lifeRec 3), 48, -1⟩ := ⟨by decide, by decide, by simp only; rw [hlen5]; decide, by simp, by simp only; rw [hlen5]; decide, by simp, by simp⟩
              have l2' : LogIs (doRec (doRec (st0 pool6) aw1) (lifeRec 3)) ⟨1000, put aw1 ++ put (lifeRec 3), 48, -1⟩ ([] ++ [aw1] ++ [lifeRec 3]) := ⟨l2.ok, l2.b, l2.st, rfl⟩
              obtain ⟨n3, l3⟩ := note_log l2' (stRec_ok 2) (by simp only; rw [hlen5, len3]; decide)
              have hst : setStateS (doRec (doRec (st0 pool6) aw1) (lifeRec 3)) ⟨1000, put aw1 ++ put (lifeRec 3), 48, -1⟩ 2 = (0, doRec (doRec (doRec (st0 pool6) aw1) (lifeRec 3)) (stRec 2), ⟨1000, put aw1 ++ put (lifeRec 3) ++ put (stRec 2), 48, -1⟩) := by unfold setStateS; rw [if_neg (by decide)]; exact n3
              refine ⟨_, rfl, (K32 hs6 hD6 2).mono fun e w7 hp => ?_⟩
              cases e with
              | returned r =>
                rw [hst] at hp
                obtain ⟨hk7, rfl, hs7⟩ := hp
                have hlen7 : (put aw1 ++ put (lifeRec 3) ++ put (stRec 2)).length = 53 := by rw [List.length_append, hlen5, len3]
                have hD7 : Dk.ok ⟨1000, put aw1 ++ put (lifeRec 3) ++ put (stRec 2), 48, -1⟩ := ⟨by decide, by decide, by simp only; rw [hlen7]; decide, by simp, by simp only; rw [hlen7]; decide, by simp, by simp⟩
                obtain ⟨hd7, hb7⟩ := hs7.dk
                refine ⟨_, rfl, (K20 hd7 hD7 (k := 0)).mono fun e w8 hp => ?_⟩
                cases e with
                | returned r =>
                  obtain ⟨hk8, rfl, hd8⟩ := hp
                  have hcr : Dk.crash ⟨1000, put aw1 ++ put (lifeRec 3) ++ put (stRec 2), 48, -1⟩ 0 = ⟨1000, put aw1 ++ put (lifeRec 3), 48, -1⟩ := by
                    unfold Dk.crash
                    rw [kept0 hD7]
                    simp only
                    rw [show (48 : Int).toNat = 48 from rfl, List.take_append_of_le_length (by omega), List.take_of_length_le (by omega)]
                    rfl
                  rw [hcr] at hd8
                  have hpk8 := hd7.pblk hb7 hk8
                  refine ⟨rfl, (K17 w8).mono fun e w9 hp => ?_⟩
                  cases e with
                  | returned r =>
                    obtain ⟨hk9, a9, n9, c9, rfl, hv9⟩ := hp
                    have z4 := hk4.kp.size
                    have z5 := hk5.kp.size
                    have z6 := hk6.kp.size
                    have z7 := hk7.kp.size
                    have z8 := hk8.size
                    have z9 := hk9.size
                    refine ⟨_, _, _, rfl, (K13 (base := w.heap.size) (hd8.keep hk9 nf .no) hD6 hb7 (by omega) hv9 pool6_ok (by decide)).mono fun e w10 hp => ?_⟩
                    cases e with
                    | returned r =>
                      obtain ⟨hk10, hd10, hp⟩ := hp
                      obtain ⟨ho3, ho4⟩ := openLog_of l2'.ok l2'.b
                      have hod2 : openD pool6 ⟨1000, put aw1 ++ put (lifeRec 3), 48, -1⟩ = (0, ⟨1000, put aw1 ++ put (lifeRec 3), 48, -1⟩) := by rw [openD6]; exact ho3
                      have hos2 : openSt pool6 ⟨1000, put aw1 ++ put (lifeRec 3), 48, -1⟩ = doRec (doRec (st0 pool6) aw1) (lifeRec 3) := by unfold openSt; rw [hod2]; simp only; rw [ho4]; rfl
                      rw [hod2, hos2] at hp
                      rcases hp with ⟨hne, _⟩ | ⟨_, s', rfl, hs10⟩
                      · exact (hne rfl).elim
                      have hS : doRec (doRec (st0 pool6) aw1) (lifeRec 3) = ⟨(setT (st0 pool6).tab (bare 1 1 0)).2, 0, 3⟩ := by
                        rw [doRec_life _ ⟨by decide, by decide⟩]
                        unfold aw1
                        rw [doRec_lease _ y1_right ⟨by decide, by decide⟩]
                        rfl
                      rw [hS] at hs10
                      have kall : Kp no w w10 := by
                        refine ((((((((hk02.trans hk3.kp ?_).trans hk4.kp ?_).trans hk5.kp ?_).trans hk6.kp ?_).trans hk7.kp ?_).trans hpk8.kp ?_).trans hk9 ?_).trans hk10.kp ?_)
                        all_goals (intro k hk h; first | exact h | (show False; omega))
                      refine ⟨_, _, rfl, ifB_false.2 (ifB_false.2 ((K21 hs10).mono fun e w11 hp => ?_))⟩
                      cases e with
                      | returned r =>
                        obtain ⟨rfl, t, rfl, ht⟩ := hp
                        refine ⟨_, rfl, ?_⟩
                        unfold B8_j2
                        refine ifB_false.2 ((K21 hs10).mono fun e w12 hp => ?_)
                        cases e with
                        | returned r =>
                          obtain ⟨rfl, t', rfl, ht'⟩ := hp
                          have hget : getT (setT (st0 pool6).tab (bare 1 1 0)).2 1 = (bare 1 1 0, 0) := by
                            rw [getT_setT]
                            exact if_pos ⟨rfl, y1_right, (st0_in 1).2 ⟨by decide, by decide⟩⟩
                          refine ⟨_, rfl, (K28 ht' 1).mono fun e w13 hp => ?_⟩
                          cases e with
                          | returned r =>
                            obtain ⟨hk13, rfl⟩ := hp
                            rw [hget]
                            refine ⟨_, _, _, _, _, _, _, _, _, rfl, nw_i fun k59 w14 e14 hk14 g14 => stL (bare 1 1 0) (x := bare 0 0 0) g14 fun w15 hk15 g15 => ?_⟩
                            have z10 := kall.size
                            have z13 := hk13.size
                            have hk1315 : Kp no w12 w15 := (hk13.then hk14).trans hk15 (fun k hk h => by omega)
                            have hs15 := hs10.keepN hk1315
                            refine ifB_true.2 ⟨_, cl g15 rfl, ifB_true.2 ((K24 hs15).mono fun e w16 hp => ?_)⟩
                            cases e with
                            | returned r =>
                              obtain ⟨rfl, rfl⟩ := hp
                              refine ⟨_, rfl, ifB_true.2 ((K23 hs15).mono fun e w17 hp => ?_)⟩
                              cases e with
                              | returned r =>
                                obtain ⟨rfl, rfl⟩ := hp
                                exact ⟨_, rfl, kall.then hk1315, rfl⟩
                              | _ => exact hp
                            | _ => exact hp
                          | _ => exact hp
                        | _ => exact hp
                      | _ => exact hp
                    | _ => exact hp
                  | _ => exact hp
                | _ => exact hp
              | _ => exact hp
            | _ => exact hp
          | _ => exact hp
        | _ => exact hp
      | _ => exact hp
    | _ => exact hp
  | _ => exact hp
end Go.Lf
end

section
set_option linter.unusedVariables false
set_option linter.unusedSimpArgs false
namespace Go.Lf
open Go Go.Proofs
theorem Kp.old {w w' : World} {base : Nat} (hb : w.heap.size ≤ base) (h : Kp (fun k => base ≤ k) w w') : Kp no w w' := h.mono fun k hk h => by show False; omega
theorem K3 {w : World} {a a' : Option Addr} {n c n' c' : Nat} {l : List UInt8} {rs : List Rg} (hv : Bs w (.slice a n c) l) (hr : Rgs w (.slice a' n' c') rs) (hok : ∀ r ∈ rs, r.ok) :
    Calls Cz.P 3 #[.slice a n c, .slice a' n' c'] w (CP (fun r w' => Kp no w w' ∧ r = .bool true) (fun _ _ => False)) := by
  refine C3 ?_
  unfold B3
  have hn := hv.cap.1
  have hn' := hr.len
  subst hn hn'
  refine (K8 w).mono fun e w1 hp => ?_
  cases e with
  | returned r =>
    obtain ⟨hk1, rfl⟩ := hp
    refine ⟨_, rfl, ifB_false.2 ?_⟩
    unfold B3_j1
    refine ifB_dec (fun _ => ifB_true.2 ⟨hk1, rfl⟩) (fun h1 => ifB_dec (fun _ => ⟨hk1, rfl⟩) (fun h2 => ?_))
    refine (K9 5000 w1).mono fun e w2 hp => ?_
    cases e with
    | returned r =>
      obtain ⟨hk2, ⟨hn, _⟩ | ⟨_, p, hp2, rfl, hd2⟩⟩ := hp
      · exact (hn ⟨by decide, by decide⟩).elim
      refine ⟨_, _, rfl, (K10 5000 w2).mono fun e w3 hp => ?_⟩
      cases e with
      | returned r =>
        obtain ⟨hk3, ⟨hn, _⟩ | ⟨_, p', hp3, rfl, hd3⟩⟩ := hp
        · exact (hn ⟨by decide, by decide⟩).elim
        have hD := dk0_ok (r := 5000) ⟨by decide, by decide⟩
        have hk03 : Kp no w w3 := hk1.then (hk2.then hk3)
        have hd23 := hd2.keep hk3 nf .no
        have z1 := hk1.size
        have z2 := hk2.size
        have z3 := hk3.size
        have b2 : w.heap.size ≤ p := by omega
        have b3 : w.heap.size ≤ p' := by omega
        refine ⟨_, _, rfl, (K11 hd23 hD (hv.keepN hk03) (by omega)).mono fun e w4 hp => ?_⟩
        cases e with
        | returned r =>
          obtain ⟨hk4, rfl, hd4⟩ := hp
          have hpk4 := hd23.pblk b2 hk4
          have hd34 := hd3.pk hpk4
          have hk04 : Kp no w w4 := hk03.trans hpk4.kp (fun k hk h => by show False; omega)
          refine ⟨_, rfl, (K12 hd34 hD (hv.keepN hk04) (by omega)).mono fun e w5 hp => ?_⟩
          cases e with
          | returned r =>
            obtain ⟨hk5, rfl, hd5⟩ := hp
            have hrk5 := hd34.rblk b3 hk5
            have hd45 := hd4.rk hrk5
            have hk05 : Kp no w w5 := hk04.trans hrk5.kp (fun k hk h => by show False; omega)
            have hDa := Dk.append_ok hD l
            refine ⟨_, rfl, (K13 (base := w.heap.size) hd45 hDa b2 hk05.size (hr.keep hk05 (fun _ _ _ _ => nf)) hok (by omega)).mono fun e w6 hp6 => ?_⟩
            cases e with
            | returned r6 =>
              obtain ⟨hk6, hd6, hp6⟩ := hp6
              have hk06 : Kp no w w6 := hk05.trans hk6.kp (fun k hk h => by show False; omega)
              have hd56 := hd5.pk hk6
              have go : ∀ {R : Value → World → Prop}, (∀ r w7, Kp no w w7 → RK w.heap.size w6 w7 → ((openD rs (Dk.append ⟨5000, [], 0, -1⟩ l).2).1 ≠ 0 ∧ r = .tuple #[.pointer none, .int .i64 (openD rs (Dk.append ⟨5000, [], 0, -1⟩ l).2).1] ∨ (openD rs (Dk.append ⟨5000, [], 0, -1⟩ l).2).1 = 0 ∧ ∃ s, r = .tuple #[.pointer (some ⟨s, 0, none⟩), .int .i64 0] ∧ RSA w7 w.heap.size p' s (openSt rs (Dk.append ⟨5000, [], 0, -1⟩ l).2) (openD rs (Dk.append ⟨5000, [], 0, -1⟩ l).2).2) → R r w7) →
                  Calls Cz.P 14 #[.pointer (some ⟨p', 0, none⟩), .slice a' rs.length c'] w6 (CP R (fun _ _ => False)) := by
                intro R hR
                refine (K14 (base := w.heap.size) hd56 hDa b3 hk06.size (hr.keep hk06 (fun _ _ _ _ => nf)) hok (by omega)).mono fun e w7 hp7 => ?_
                cases e with
                | returned r7 =>
                  obtain ⟨hk7, hd7, hp7⟩ := hp7
                  exact hR r7 w7 (hk06.trans hk7.kp (fun k hk h => by show False; omega)) hk7 hp7
                | _ => exact hp7
              rcases hp6 with ⟨hne, rfl⟩ | ⟨hz, s, rfl, hs6⟩
              · refine ⟨_, _, rfl, go fun r7 w7 hk07 hk7 hp7 => ?_⟩
                rcases hp7 with ⟨_, rfl⟩ | ⟨hz, _⟩
                · refine ⟨_, _, rfl, ?_⟩
                  rw [show ((openD rs (Dk.append ⟨5000, [], 0, -1⟩ l).2).1 != (openD rs (Dk.append ⟨5000, [], 0, -1⟩ l).2).1) = false by simp]
                  unfold B3_j2
                  exact ifB_false.2 (ifB_false.2 (ifB_true.2 ⟨hk07, rfl⟩))
                · exact (hne hz).elim
              · refine ⟨_, _, rfl, go fun r7 w7 hk07 hk7 hp7 => ?_⟩
                rcases hp7 with ⟨hne, _⟩ | ⟨_, t, rfl, ht7⟩
                · exact (hne hz).elim
                · refine ⟨_, _, rfl, ifB_false.2 ?_⟩
                  unfold B3_j2
                  refine ifB_false.2 (ifB_false.2 ?_)
                  have hso := openSt_ok hok hz
                  have hdo := openD_ok (rs := rs) hDa
                  refine (K15 (hs6.rk hk7) ht7 hdo hdo hso hso).mono fun e w8 hp => ?_
                  cases e with
                  | returned r =>
                    obtain ⟨hk8, b, rfl, hb⟩ := hp
                    have : b = true := hb.2 ⟨rfl, rfl, rfl, rfl⟩
                    subst this
                    exact ⟨_, rfl, hk07.then hk8, rfl⟩
                  | _ => exact hp
            | _ => exact hp6
          | _ => exact hp
        | _ => exact hp
      | _ => exact hp
    | _ => exact hp
  | _ => exact hp
end Go.Lf
end

section
set_option linter.unusedVariables false
set_option linter.unusedSimpArgs false
namespace Go.Lf
open Go Go.Proofs
theorem rdSt {w : World} {q : Addr} {n c : Nat} {xs : List StepV} (h : RdS SSt w (.slice (some q) n c) xs) {z : Nat} (hz : z < xs.length) {K : Int → Int → Int → Int → ByteArray → Int → Int → Int → Int → Int → Prop} (hK : K xs[z].act xs[z].n xs[z].l.addr xs[z].l.bind xs[z].l.client xs[z].l.till xs[z].l.acked xs[z].l.told xs[z].l.at_ xs[z].l.ver) :
    ∃ (x51 : Int) (x52 : Int) (x53 : Int) (x54 : Int) (s55 : ByteArray) (x56 : Int) (x57 : Int) (x58 : Int) (x59 : Int) (x60 : Int), (w.cell? (q.add (z * 10)) = some (.int .i64 x51) ∧ w.cell? ((q.add (z * 10)).add 1) = some (.int .i64 x52) ∧ w.cell? ((q.add (z * 10)).add 2) = some (.int .u32 x53) ∧ w.cell? ((q.add (z * 10)).add 3) = some (.int .i64 x54) ∧ w.cell? ((q.add (z * 10)).add 4) = some (.string s55) ∧ w.cell? ((q.add (z * 10)).add 5) = some (.int .i64 x56) ∧ w.cell? ((q.add (z * 10)).add 6) = some (.int .i64 x57) ∧ w.cell? ((q.add (z * 10)).add 7) = some (.int .i64 x58) ∧ w.cell? ((q.add (z * 10)).add 8) = some (.int .i64 x59) ∧ w.cell? ((q.add (z * 10)).add 9) = some (.int .i64 x60) ∧ True) ∧ K x51 x52 x53 x54 s55 x56 x57 x58 x59 x60 := by
  obtain ⟨b, o, hq, hc⟩ := h.at hz
  cases hq
  simp only [addk]
  exact ⟨_, _, _, _, _, _, _, _, _, _, ⟨hc 0 _ rfl, hc 1 _ rfl, hc 2 _ rfl, hc 3 _ rfl, hc 4 _ rfl, hc 5 _ rfl, hc 6 _ rfl, hc 7 _ rfl, hc 8 _ rfl, hc 9 _ rfl, trivial⟩, hK⟩
def J4 (w : World) (p p' : Nat) (xs : List StepV) (vs : List Value) (w' : World) : Prop :=
  match vs with | [.pointer (some a), .pointer (some a'), .int _ i] => ∃ k s t S D, a = ⟨s, 0, none⟩ ∧ a' = ⟨t, 0, none⟩ ∧ i = ((k : Nat) : Int) ∧ k ≤ xs.length ∧ Kp no w w' ∧ SA w' w.heap.size p s S D ∧ RSA w' w.heap.size p' t S D ∧ S.ok ∧ D.ok | _ => False
def M4 (xs : List StepV) (vs : List Value) (_ : World) : Nat := match vs with | [_, _, .int _ i] => xs.length - i.toNat | _ => 0
def JC4 (w : World) (vs : List Value) (w' : World) : Prop := match vs with | [.bool b] => b = false ∧ Kp no w w' | _ => False
theorem seqb (l : List UInt8) : (!((⟨l.toArray⟩ : ByteArray).toList == (⟨l.toArray⟩ : ByteArray).toList)) = false := by simp
theorem K4 {w : World} {room : Int} {a : Option Addr} {n c : Nat} {xs : List StepV} (hv : RdS SSt w (.slice a n c) xs) (hx : ∀ x ∈ xs, x.ok) (hl : xs.length ≤ 9223372036854775807) :
    Calls Cz.P 4 #[.int .i64 room, .slice a n c] w (CP (fun r w' => Kp no w w' ∧ r = .bool true) (fun _ _ => False)) := by
  refine C4 ?_
  unfold B4
  have hn := hv.len
  subst hn
  refine (K8 w).mono fun e w1 hp => ?_
  cases e with
  | returned r =>
    obtain ⟨hk1, rfl⟩ := hp
    refine ⟨_, rfl, (K16 (hv.keepN hk1) hl).mono fun e w1' hp => ?_⟩
    cases e with
    | returned r =>
      obtain ⟨rfl, too, rfl, htoo⟩ := hp
      refine ⟨_, rfl, (K9 room w1').mono fun e w2 hp => ?_⟩
      cases e with
      | returned r =>
        obtain ⟨hk2, hp2⟩ := hp
        have k10 : ∀ {R : Value → World → Prop}, (∀ r w3, Kp no w2 w3 → (¬ (1 ≤ room ∧ room ≤ 1048576) ∧ r = .tuple #[.pointer none, .int .i64 1]) ∨ ((1 ≤ room ∧ room ≤ 1048576) ∧ ∃ p, w2.heap.size ≤ p ∧ r = .tuple #[.pointer (some ⟨p, 0, none⟩), .int .i64 0] ∧ DkAt 54 w3 p ⟨room, [], 0, -1⟩) → R r w3) → Calls Cz.P 10 #[.int .i64 room] w2 (CP R (fun _ _ => False)) := by
          intro R hR
          refine (K10 room w2).mono fun e w3 hp => ?_
          cases e with
          | returned r => exact hR r w3 hp.1 hp.2
          | _ => exact hp
        rcases hp2 with ⟨hn, rfl⟩ | ⟨hroom, p, hp2, rfl, hd2⟩
        · refine ⟨_, _, rfl, k10 fun r w3 hk3 hp3 => ?_⟩
          rcases hp3 with ⟨_, rfl⟩ | ⟨hy, _⟩
          · refine ⟨_, _, rfl, ifB_false.2 (ifB_true.2 ?_)⟩
            unfold B4_j1
            refine ifB_true.2 (ifB_true.2 (ifB_split (fun _ => ?_) (fun _ => ?_)))
            · exact ⟨hk1.then (hk2.then hk3), rfl⟩
            · exact ⟨hk1.then (hk2.then hk3), rfl⟩
          · exact (hn hy).elim
        · refine ⟨_, _, rfl, k10 fun r w3 hk3 hp3 => ?_⟩
          rcases hp3 with ⟨hn, _⟩ | ⟨_, p', hp3, rfl, hd3⟩
          · exact (hn hroom).elim
          have hD := dk0_ok hroom
          have hk03 : Kp no w w3 := hk1.then (hk2.then hk3)
          have hd23 := hd2.keep hk3 nf .no
          have z1 := hk1.size
          have z2 := hk2.size
          have z3 := hk3.size
          have b2 : w.heap.size ≤ p := by omega
          have b3 : w.heap.size ≤ p' := by omega
          refine ⟨_, _, rfl, ifB_false.2 (ifB_false.2 (ifB_false.2 ?_))⟩
          unfold B4_j1
          refine ifB_split (fun ht => ifB_true.2 (ifB_split (fun _ => ⟨hk03, rfl⟩) (fun h => by rw [ht] at h; cases h))) (fun ht => ?_)
          have hlen : xs.length ≤ 80 := by
            rcases Nat.lt_or_ge 80 xs.length with h | h
            · have := htoo.2 (.inr h); rw [ht] at this; cases this
            · exact h
          refine (K17 w3).mono fun e w4 hp => ?_
          cases e with
          | returned r =>
            obtain ⟨hk4, a4, n4, c4, rfl, hv4⟩ := hp
            have hk04 := hk03.then hk4
            refine ⟨_, _, _, rfl, (K13 (base := w.heap.size) (hd23.keep hk4 nf .no) hD b2 hk04.size hv4 pool6_ok (by decide)).mono fun e w5 hp5 => ?_⟩
            cases e with
            | returned r5 =>
              obtain ⟨hk5, hd5, hp5⟩ := hp5
              have hl0 := log0 room
              obtain ⟨ho1, ho2⟩ := openLog_of hl0.ok hl0.b
              have hod : openD pool6 ⟨room, [], 0, -1⟩ = (0, ⟨room, [], 0, -1⟩) := by rw [openD6]; exact ho1
              have hos : openSt pool6 ⟨room, [], 0, -1⟩ = st0 pool6 := by unfold openSt; rw [hod]; simp only; rw [ho2]; rfl
              rw [hod, hos] at hp5
              rcases hp5 with ⟨hne, _⟩ | ⟨_, s, rfl, hs5⟩
              · exact (hne rfl).elim
              have hk05 : Kp no w w5 := hk04.trans hk5.kp (fun k hk h => by show False; omega)
              refine ⟨_, _, rfl, (K17 w5).mono fun e w6 hp => ?_⟩
              cases e with
              | returned r =>
                obtain ⟨hk6, a6, n6, c6, rfl, hv6⟩ := hp
                have hk06 := hk05.then hk6
                have hd36 := ((hd3.keep hk4 nf .no).pk hk5).keep hk6 nf .no
                refine ⟨_, _, _, rfl, (K14 (base := w.heap.size) hd36 hD b3 hk06.size hv6 pool6_ok (by decide)).mono fun e w7 hp7 => ?_⟩
                cases e with
                | returned r7 =>
                  obtain ⟨hk7, hd7, hp7⟩ := hp7
                  rw [hod, hos] at hp7
                  rcases hp7 with ⟨hne, _⟩ | ⟨_, t, rfl, ht7⟩
                  · exact (hne rfl).elim
                  have hk07 : Kp no w w7 := hk06.trans hk7.kp (fun k hk h => by show False; omega)
                  refine ⟨_, _, rfl, ifB_false.2 (ifB_false.2 ?_)⟩
                  unfold B4_j3
                  refine ifB_false.2 ⟨J4 w p p' xs, M4 xs, ⟨0, s, t, _, _, rfl, rfl, rfl, Nat.zero_le _, hk07, (hs5.keepN hk6).rk hk7, ht7, st0_ok pool6_ok pool6_err, hD⟩, ?_⟩
                  intro p46 p47 x48 w9 hJ
                  cases p46 with
                  | none => exact (show False from hJ).elim
                  | some a46 =>
                  cases p47 with
                  | none => exact (show False from hJ).elim
                  | some a47 =>
                    obtain ⟨k, s, t, S, D, rfl, rfl, rfl, hk, hk9, hs9, ht9, hok9, hD9⟩ := hJ
                    unfold B4_l1
                    refine ifB_dec (fun hlt => ?_) (fun hlt => ⟨hk9, rfl⟩)
                    have hk' : k < xs.length := by omega
                    have hi1 : IntKind.i64.wrap ((k : Int) + 1) = ((k + 1 : Nat) : Int) := by rw [wrap64 (by omega) (by omega)]; omega
                    have hv9 := hv.keepN hk9
                    obtain ⟨b9, o9, rfl, _⟩ := hv9.at hk'
                    refine need_and (dec (by omega)) (dec (by omega)) ?_
                    rw [nn_some, show (k : Int).toNat = k from rfl]
                    refine rdSt hv9 hk' ((K18 hs9 ht9 hok9 hD9 (hx _ (List.getElem_mem hk')) hk9.size).mono fun e w10 hp10 => ?_)
                    cases e with
                    | returned r10 =>
                      obtain ⟨kk, hp10⟩ := hp10
                      have hk10 : Kp no w w10 := hk9.trans kk.kp (fun k hk h => by show False; omega)
                      cases hst : stepS S D xs[k] with
                      | none =>
                        rw [hst] at hp10
                        subst hp10
                        refine ⟨_, _, _, rfl, ifB_false.2 (ifB_true.2 ?_)⟩
                        unfold B4_j4
                        exact ifB_true.2 ⟨hk10, rfl⟩
                      | some SD =>
                        obtain ⟨S', D'⟩ := SD
                        rw [hst] at hp10
                        obtain ⟨s', t', rfl, hs10, ht10, hok10, hD10, _⟩ := hp10
                        refine ⟨_, _, _, rfl, ifB_false.2 (ifB_false.2 ?_)⟩
                        unfold B4_j4
                        refine ifB_false.2 ((K15 hs10 ht10 hD10 hD10 hok10 hok10).mono fun e w11 hp => ?_)
                        cases e with
                        | returned r =>
                          obtain ⟨hk11, b, rfl, hb⟩ := hp
                          have : b = true := hb.2 ⟨rfl, rfl, rfl, rfl⟩
                          subst this
                          have hk11d : Kp no w10 w11.drew := hk11.then (.drew no _)
                          have hs11 := hs10.keepN hk11d
                          have ht11 := ht10.keepN hk11d
                          obtain ⟨hda, _⟩ := hs11.dk
                          obtain ⟨hdb, _⟩ := ht11.dk
                          obtain ⟨ab, cb, hgb, hob⟩ := hdb.open
                          refine ⟨_, rfl, JC4 w11.drew, ifB_false.2 ?_, ?_⟩
                          · simp only [nn_some, addk, Nat.zero_add]
                            refine ⟨_, _, _, cl hgb rfl, (K19 hda hD10).mono fun e w12 hp => ?_, _, _, strB (OwnB.bs hob), trivial, (K19 hda hD10).mono fun e w12 hp => ?_⟩
                            · cases e with
                              | returned r =>
                                obtain ⟨hk12, a12, n12, c12, rfl, ho12⟩ := hp
                                have hob12 := own_keep hob hk12 .no
                                refine ⟨_, _, _, rfl, ⟨⟨hk12.cellD hgb nf, trivial⟩, trivial⟩, ⟨_, _, strB ho12.bs, ⟨⟨rfl, trivial⟩, trivial⟩, _, _, strB (OwnB.bs hob12), ?_⟩, _, _, strB (OwnB.bs hob12), _, _, strB ho12.bs, ?_⟩
                                · rw [seqb]; exact ⟨rfl, hk12⟩
                                · rw [seqb]; exact ⟨rfl, hk12⟩
                              | _ => exact hp
                            · cases e with
                              | returned r =>
                                obtain ⟨hk12, a12, n12, c12, rfl, ho12⟩ := hp
                                refine ⟨_, _, _, rfl, _, _, strB ho12.bs, ?_⟩
                                rw [seqb]; exact ⟨rfl, hk12⟩
                              | _ => exact hp
                          · rintro b99 w12 ⟨rfl, hk12⟩
                            refine ifB_false.2 ⟨⟨k + 1, s', t', S', D', rfl, rfl, hi1, hk', (hk10.then hk11d).then hk12, hs11.keepN hk12, ht11.keepN hk12, hok10, hD10⟩, ?_⟩
                            show xs.length - (IntKind.i64.wrap ((k : Int) + 1)).toNat < xs.length - (k : Int).toNat
                            rw [hi1]; omega
                        | _ => exact hp
                    | _ => exact hp10
                | _ => exact hp7
              | _ => exact hp
            | _ => exact hp5
          | _ => exact hp
      | _ => exact hp
    | _ => exact hp
  | _ => exact hp
end Go.Lf
end

section
set_option linter.unusedVariables false
set_option linter.unusedSimpArgs false
/-! Arguments: what is read is a row. -/
namespace Go.Lf
open Go Go.Proofs Go.ChangeShapes Go.WideShapes Go.ChangeAt Go.RowKit
theorem own13 : ownKnob Tryz.prog.godebug = none := by kernel_rfl
theorem laid13 : laidOutB Tryz.prog = true := by kernel_rfl
theorem Kp.below {w w' : World} (h : Kp no w w') : Below w.heap.size w w' := ⟨h.os, h.tape, h.output, h.size, fun k hk => h.get k hk nf⟩
theorem okw_slice {P : Program} {w : World} {r : Reach} {base : Nat} {t e : TypeId} {v : Value} (ht : P.underlying t = some (.slice e)) (h : Value.okWide P w r base t v) : v = .slice none 0 0 ∨ ∃ a len cap, v = .slice (some a) len cap ∧ a.spot = none := by
  obtain ⟨a, len, cap, rfl⟩ := okWide_slice ht h
  simp only [Value.okWide, ht, Cell.okWide] at h
  cases a with
  | none =>
    cases len with
    | zero =>
      cases cap with
      | zero => exact .inl rfl
      | succ cap => simp [Cell.ok, ht] at h
    | succ len => simp [Cell.ok, ht] at h
  | some a =>
    simp only [Cell.ok, ht] at h
    exact .inr ⟨a, len, cap, rfl, h.2.2.2.1⟩
section
variable {H : Type} {enc : TypeId × Value → H} {P : Program}
theorem down {α : Type} (S : SEnc α) (ok : α → Prop) {t e : TypeId} (ht : P.underlying t = some (.slice e)) (hc : P.cellsOf e = S.k)
    (hdec : ∀ (W : World) (sp : Nat → Bool) (hd : Bool) (fuel : Nat) (cs : List Value) (x : DataW H × List MemPlace), DataW.trod enc P W 0 sp hd fuel e cs = some x → ∃ y : α, ok y ∧ cs = S.enc y)
    {W : World} {sp : Nat → Bool} {hd : Bool} {base : Nat} {v : Value} {d : DataW H} {ps : List MemPlace} (hval : Value.okWide P W .any base t v) (h : DataW.Trod enc P W 0 sp hd t v d ps) :
    ∃ a n c xs, v = .slice a n c ∧ RdS S W (.slice a n c) xs ∧ (∀ x ∈ xs, ok x) ∧ xs.length ≤ 9223372036854775807 := by
  obtain ⟨fuel, hf⟩ := h
  have hsh := okw_slice ht hval
  rcases hsh with rfl | ⟨a, len, cap, rfl, hspot⟩
  · exact ⟨none, 0, 0, [], rfl, ⟨by simp, .inl ⟨rfl, rfl⟩⟩, by simp, by simp⟩
  · rcases Go.Deep.open_slice ht hf with ⟨h0, _⟩ | ⟨a', len', cap', m, n, D, Pl, hcs, _, hlc, hcm, hm, _, hel⟩
    · cases h0
    · cases hcs
      have hlm : len ≤ m := by rw [hm]; split <;> omega
      have hex : ∀ i, i < len → ∃ y : α, ok y ∧ W.cells? 0 (a.add (i * S.k)) S.k = some (S.enc y) := by
        intro i hi
        obtain ⟨cs', h1, h2⟩ := hel i (by omega)
        obtain ⟨y, hy, rfl⟩ := hdec _ _ _ _ _ _ h2
        rw [hc] at h1
        exact ⟨y, hy, h1⟩
      have hbuild : ∀ k, k ≤ len → ∃ xs : List α, xs.length = k ∧ (∀ x ∈ xs, ok x) ∧ ∀ i (h : i < xs.length), W.cells? 0 (a.add (i * S.k)) S.k = some (S.enc xs[i]) := by
        intro k
        induction k with
        | zero => intro _; exact ⟨[], rfl, by simp, fun i h => by simp at h⟩
        | succ k ih =>
          intro hk
          obtain ⟨xs, h1, h2, h3⟩ := ih (by omega)
          obtain ⟨y, hy, h4⟩ := hex k (by omega)
          refine ⟨xs ++ [y], by simp [h1], ?_, ?_⟩
          · intro x hx
            rcases List.mem_append.1 hx with hx | hx
            · exact h2 x hx
            · rw [List.mem_singleton.1 hx]; exact hy
          · intro i hi
            rcases Nat.lt_or_ge i xs.length with h | h
            · rw [List.getElem_append_left h]; exact h3 i h
            · have : i = xs.length := by simp at hi; omega
              subst this
              rw [List.getElem_append_right (Nat.le_refl _)]
              simp only [Nat.sub_self, List.getElem_cons_zero]
              rw [h1]; exact h4
      obtain ⟨xs, h1, h2, h3⟩ := hbuild len (Nat.le_refl _)
      subst h1
      refine ⟨some a, xs.length, cap, xs, rfl, ⟨flat_len S xs, .inr ⟨a, cap, rfl, hlc, hcm, hspot, fun j u hj => ?_⟩⟩, h2, by unfold maxLen at hcm; omega⟩
      have hp := S.pos
      have hlt : j < xs.length * S.k := by
        have := (List.getElem?_eq_some_iff.1 hj).1
        rwa [flat_len] at this
      have hi : j / S.k < xs.length := by rw [Nat.div_lt_iff_lt_mul hp]; exact hlt
      have hr : j % S.k < S.k := Nat.mod_lt _ hp
      have h4 := h3 (j / S.k) hi
      unfold World.cells? at h4
      rw [if_pos (Nat.zero_le _)] at h4
      have h5 := mapM_some_get h4 (j % S.k) (j % S.k) (by rw [List.getElem?_range hr])
      have h6 : (S.enc xs[j / S.k])[j % S.k]? = some u := by
        have hu : (S.enc xs[j / S.k])[j % S.k]? = some ((S.enc xs[j / S.k])[j % S.k]!) := by
          have : j % S.k < (S.enc xs[j / S.k]).length := by rw [S.len]; exact hr
          rw [List.getElem?_eq_getElem this, getElem!_pos (S.enc xs[j / S.k]) (j % S.k) this]
        have h3 := flat_get S xs (j / S.k) hi (j % S.k) _ hu
        rw [Nat.mul_comm, Nat.div_add_mod] at h3
        rw [h3] at hj
        rw [hu]; exact hj
      rw [h6] at h5
      rw [Go.Deep.add_add, Nat.mul_comm, Nat.div_add_mod] at h5
      exact h5
end
end Go.Lf
end
