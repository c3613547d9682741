/- Part 35 of the lemmas that a proof leans on; no claim is made here. By an AI agent. -/
import Derived.Test.YtofhodpdfbnkiaaGreatLfD08
import Derived.Test.YtofhodpdfbnkiaaGreatLfD33
import Derived.Test.YtofhodpdfbnkiaaGreatLfD34
section
set_option linter.unusedVariables false
set_option linter.unusedSimpArgs false
namespace Go.Lf
open Go Go.Proofs
theorem step_small {base p p' s t : Nat} {S : StS} {D : Dk} {x : StepV} {w w' : World} {r : Value} (ha : 0 ≤ x.act ∧ x.act < 5) (h : StepPost base p p' s t S D x w r w') :
    PR base w w' ∧ r = .tuple #[.pointer (some ⟨s, 0, none⟩), .pointer (some ⟨t, 0, none⟩), .bool true] ∧ SA w' base p s (opS S D x).2.1 (opS S D x).2.2 ∧ RSA w' base p' t (opS S D x).2.1 (opS S D x).2.2 ∧ (opS S D x).2.1.ok ∧ (opS S D x).2.2.ok := by
  obtain ⟨kk, hm⟩ := h
  unfold stepS at hm
  rw [if_pos (by omega)] at hm
  generalize opS S D x = y at *
  obtain ⟨e, S', D'⟩ := y
  obtain ⟨s', t', rfl, h1, h2, h3, h4, h5⟩ := hm
  obtain ⟨rfl, rfl⟩ := h5 (by omega)
  exact ⟨kk, rfl, h1, h2, h3, h4⟩
/-- where the laws' loops stand -/
structure LogRun (w w' : World) (p p' s t k : Nat) (S : StS) (D : Dk) (rs : List (List UInt8)) : Prop where
  kp : Kp no w w'
  sa : SA w' w.heap.size p s S D
  ra : RSA w' w.heap.size p' t S D
  sok : S.ok
  dok : D.ok
  log : LogIs S D rs
  room : D.room = 100000
  len : D.b.length ≤ 1000 + 104 * k
def J6 (w : World) (p p' s t : Nat) (xs : List StepV) (vs : List Value) (w' : World) : Prop :=
  match vs with | [.int _ i] => ∃ k S D rs, i = ((k : Nat) : Int) ∧ k ≤ xs.length ∧ LogRun w w' p p' s t k S D rs | _ => False
theorem LogRun.next {w w' w'' : World} {p p' s t k : Nat} {S : StS} {D : Dk} {rs : List (List UInt8)} (h : LogRun w w' p p' s t k S D rs) (hk : k ≤ 80) {x : StepV} (hx : x.ok) (ha : 0 ≤ x.act ∧ x.act < 5) {r : Value} (hp : StepPost w.heap.size p p' s t S D x w' r w'') :
    r = .tuple #[.pointer (some ⟨s, 0, none⟩), .pointer (some ⟨t, 0, none⟩), .bool true] ∧ ∃ rs', LogStep D (opS S D x).2.2 rs rs' x.act ∧ LogRun w w'' p p' s t (k + 1) (opS S D x).2.1 (opS S D x).2.2 rs' := by
  obtain ⟨kk, hr, h1, h2, h3, h4⟩ := step_small ha hp
  have hl := h.len
  obtain ⟨rs', hl1, hl2⟩ := log_step h.log h.sok h.room (by omega) hx ha
  refine ⟨hr, rs', hl2, h.kp.trans kk.kp (fun k hk h => by show False; omega), h1, h2, h3, h4, hl1, hl2.room.trans h.room, ?_⟩
  have := hl2.len
  omega
theorem LogRun.skip {w w' w'' : World} {p p' s t k : Nat} {S : StS} {D : Dk} {rs : List (List UInt8)} (h : LogRun w w' p p' s t k S D rs) (hk : Kp no w' w'') {k' : Nat} (hkk : k ≤ k') : LogRun w w'' p p' s t k' S D rs :=
  ⟨h.kp.then hk, h.sa.keepN hk, h.ra.keepN hk, h.sok, h.dok, h.log, h.room, by have := h.len; omega⟩
theorem LogRun.start {w w' : World} {p p' s t : Nat} (hk : Kp no w w') (h1 : SA w' w.heap.size p s (st0 pool6) ⟨100000, [], 0, -1⟩) (h2 : RSA w' w.heap.size p' t (st0 pool6) ⟨100000, [], 0, -1⟩) : LogRun w w' p p' s t 0 (st0 pool6) ⟨100000, [], 0, -1⟩ [] :=
  ⟨hk, h1, h2, st0_ok pool6_ok pool6_err, dk0_ok ⟨by decide, by decide⟩, log0 _, rfl, by simp⟩
theorem K6 {w : World} {a : Option Addr} {n c : Nat} {xs : List StepV} (hv : RdS SSt w (.slice a n c) xs) (hx : ∀ x ∈ xs, x.ok) (hl : xs.length ≤ 9223372036854775807) :
    Calls Cz.P 6 #[.slice a n c] w (CP (fun r w' => Kp no w w' ∧ r = .bool true) (fun _ _ => False)) := by
  refine C6 ?_
  unfold B6
  have hn := hv.len
  subst hn
  have hl0 := log0 100000
  obtain ⟨ho1, ho2⟩ := openLog_of hl0.ok hl0.b
  have hod : openD pool6 ⟨100000, [], 0, -1⟩ = (0, ⟨100000, [], 0, -1⟩) := by rw [openD6]; exact ho1
  have hos : openSt pool6 ⟨100000, [], 0, -1⟩ = st0 pool6 := by unfold openSt; rw [hod]; simp only; rw [ho2]; rfl
  have hD := dk0_ok (r := 100000) ⟨by decide, by decide⟩
  refine (K8 w).mono fun e w1 hp => ?_
  cases e with
  | returned r =>
    obtain ⟨hk1, rfl⟩ := hp
    refine ⟨_, rfl, (K16 (hv.keepN hk1) hl).mono fun e w1' hp => ?_⟩
    cases e with
    | returned r =>
      obtain ⟨rfl, too, rfl, htoo⟩ := hp
      refine ⟨_, rfl, (K9 100000 w1').mono fun e w2 hp => ?_⟩
      cases e with
      | returned r =>
        obtain ⟨hk2, ⟨hn, _⟩ | ⟨_, p, hp2, rfl, hd2⟩⟩ := hp
        · exact (hn ⟨by decide, by decide⟩).elim
        have z1 := hk1.size
        have z2 := hk2.size
        have b2 : w.heap.size ≤ p := by omega
        refine ⟨_, _, rfl, (K17 w2).mono fun e w3 hp => ?_⟩
        cases e with
        | returned r =>
          obtain ⟨hk3, a3, n3, c3, rfl, hv3⟩ := hp
          have hk03 : Kp no w w3 := hk1.then (hk2.then hk3)
          refine ⟨_, _, _, rfl, (K13 (base := w.heap.size) (hd2.keep hk3 nf .no) hD b2 hk03.size hv3 pool6_ok (by decide)).mono fun e w5 hp5 => ?_⟩
          cases e with
          | returned r5 =>
            obtain ⟨hk5, hd5, hp5⟩ := hp5
            rw [hod, hos] at hp5
            rcases hp5 with ⟨hne, _⟩ | ⟨_, s, rfl, hs5⟩
            · exact (hne rfl).elim
            have hk05 : Kp no w w5 := hk03.trans hk5.kp (fun k hk h => by show False; omega)
            refine ⟨_, _, rfl, ifB_false.2 (ifB_false.2 (ifB_false.2 (ifB_false.2 ?_)))⟩
            unfold B6_j1
            refine ifB_split (fun _ => ⟨hk05, rfl⟩) (fun ht => ?_)
            have hlen : xs.length ≤ 80 := by
              rcases Nat.lt_or_ge 80 xs.length with h | h
              · have := htoo.2 (.inr h); rw [ht] at this; cases this
              · exact h
            refine (K10 100000 w5).mono fun e w6 hp => ?_
            cases e with
            | returned r =>
              obtain ⟨hk6, ⟨hn, _⟩ | ⟨_, p', hp6, rfl, hd6⟩⟩ := hp
              · exact (hn ⟨by decide, by decide⟩).elim
              have z5 := hk05.size
              have b3 : w.heap.size ≤ p' := by omega
              refine ⟨_, _, rfl, (K17 w6).mono fun e w7 hp => ?_⟩
              cases e with
              | returned r =>
                obtain ⟨hk7, a7, n7, c7, rfl, hv7⟩ := hp
                have hk07 : Kp no w w7 := hk05.then (hk6.then hk7)
                refine ⟨_, _, _, rfl, (K14 (base := w.heap.size) (hd6.keep hk7 nf .no) hD b3 hk07.size hv7 pool6_ok (by decide)).mono fun e w8 hp8 => ?_⟩
                cases e with
                | returned r8 =>
                  obtain ⟨hk8, hd8, hp8⟩ := hp8
                  rw [hod, hos] at hp8
                  rcases hp8 with ⟨hne, _⟩ | ⟨_, t, rfl, ht8⟩
                  · exact (hne rfl).elim
                  have hk08 : Kp no w w8 := hk07.trans hk8.kp (fun k hk h => by show False; omega)
                  refine ⟨_, _, rfl, J6 w p p' s t xs, M16 xs, ⟨0, _, _, _, rfl, Nat.zero_le _, LogRun.start hk08 ((hs5.keepN (hk6.then hk7)).rk hk8) ht8⟩, ?_⟩
                  rintro x w9 ⟨k, S, D, rs, rfl, hk, hR⟩
                  unfold B6_l1
                  refine ifB_dec (fun hlt => ?_) (fun hlt => ?_)
                  · have hk' : k < xs.length := by omega
                    have hi1 : IntKind.i64.wrap ((k : Int) + 1) = ((k + 1 : Nat) : Int) := by rw [wrap64 (by omega) (by omega)]; omega
                    have hm : xs.length - (IntKind.i64.wrap ((k : Int) + 1)).toNat < xs.length - (k : Int).toNat := by rw [hi1]; omega
                    have hv9 := hv.keepN hR.kp
                    obtain ⟨b9, o9, rfl, hc9⟩ := hv9.at hk'
                    have hact : w9.cell? (Addr.add ⟨b9, o9, none⟩ (k * 10)) = some (.int .i64 xs[k].act) := by rw [addk]; exact hc9 0 _ rfl
                    refine need_and (dec (by omega)) (dec (by omega)) ?_
                    rw [nn_some, show (k : Int).toNat = k from rfl]
                    unfold B6_j2 B6_j3
                    refine ⟨_, hact, ifB_dec (fun h0 => need_and (dec (by omega)) (dec (by omega)) ?_) (fun h0 => ifB_false.2 ⟨⟨k + 1, S, D, rs, hi1, hk', hR.skip (.refl _ _) (by omega)⟩, hm⟩)⟩
                    rw [nn_some]
                    refine ⟨_, hact, ifB_dec (fun h5 => ?_) (fun h5 => ⟨⟨k + 1, S, D, rs, hi1, hk', hR.skip (.refl _ _) (by omega)⟩, hm⟩)⟩
                    refine need_and (dec (by omega)) (dec (by omega)) ?_
                    rw [nn_some]
                    refine rdSt hv9 hk' ((K18 hR.sa hR.ra hR.sok hR.dok (hx _ (List.getElem_mem hk')) hR.kp.size).mono fun e w10 hp10 => ?_)
                    cases e with
                    | returned r10 =>
                      obtain ⟨rfl, rs', _, hR'⟩ := hR.next (by omega) (hx _ (List.getElem_mem hk')) ⟨by omega, h5⟩ hp10
                      exact ⟨_, _, _, rfl, ⟨k + 1, _, _, rs', hi1, hk', hR'⟩, hm⟩
                    | _ => exact hp10
                  · obtain ⟨hkp, hsa, hra, hsok, hdok, hlog, hroom, hlen'⟩ := hR
                    have hT := hsok.tab.len
                    refine (K21 hsa).mono fun e w10 hp => ?_
                    cases e with
                    | returned r =>
                      obtain ⟨rfl, t1, rfl, ht1⟩ := hp
                      have hT : S.tab.length ≤ 256 := hsok.tab.len
                      refine ⟨_, rfl, (K22 ht1 (by omega) hsok.tab.asc).mono fun e w11 hp => ?_⟩
                      cases e with
                      | returned r =>
                        obtain ⟨hk11, a11, n11, c11, rfl, hrd11⟩ := hp
                        have hsa11 := hsa.keepN hk11
                        refine ⟨_, _, _, rfl, (K23 hsa11).mono fun e w12 hp => ?_⟩
                        cases e with
                        | returned r =>
                          obtain ⟨rfl, rfl⟩ := hp
                          refine ⟨_, rfl, (K24 hsa11).mono fun e w13 hp => ?_⟩
                          cases e with
                          | returned r =>
                            obtain ⟨rfl, rfl⟩ := hp
                            obtain ⟨hce, hlog', hle', h8⟩ := compact_log hlog hsok hroom
                            refine ⟨_, rfl, (K25 hsa11 hdok hsok).mono fun e w14 hp => ?_⟩
                            cases e with
                            | returned r =>
                              rw [hce] at hp
                              obtain ⟨hk14, rfl, hsa14⟩ := hp
                              have hdok' : Dk.ok { D with b := encode (recsOf S), last := ((encode (recsOf S)).length : Int) } := by
                                have := (opS_ok hsok hdok (x := ⟨4, 0, bare 0 0 0⟩) ⟨⟨by decide, by decide⟩, by simp⟩).2
                                rw [show opS S D ⟨4, 0, bare 0 0 0⟩ = compactS S D from rfl, hce] at this
                                exact this
                              obtain ⟨T14, hkT14, hST14⟩ := id hk14
                              have hrd14 := hrd11.keep hkT14 (nTP (fun k h => (hST14 k h).2) (by decide) (by decide))
                              refine ⟨_, rfl, (K21 hsa14).mono fun e w15 hp => ?_⟩
                              cases e with
                              | returned r =>
                                obtain ⟨rfl, t2, rfl, ht2⟩ := hp
                                refine ⟨_, rfl, (K22 ht2 (by show S.tab.length ≤ _; omega) hsok.tab.asc).mono fun e w16 hp => ?_⟩
                                cases e with
                                | returned r =>
                                  obtain ⟨hk16, a16, n16, c16, rfl, hrd16⟩ := hp
                                  have hrd14' := hrd14.keep hk16 .no
                                  refine ⟨_, _, _, rfl, (K26 hrd16.1 hrd14'.1 (by show S.tab.length ≤ _; omega) (by omega)).mono fun e w17 hp => ?_⟩
                                  cases e with
                                  | returned r =>
                                    obtain ⟨hk17, b17, rfl, hb17⟩ := hp
                                    have : b17 = true := hb17.2 rfl
                                    subst this
                                    have hk1417 := hk16.then hk17
                                    have hsa17 := hsa14.keepN hk1417
                                    obtain ⟨hd17, _⟩ := hsa17.dk
                                    refine ⟨_, rfl, (K20 hd17 hdok' (k := 0)).mono fun e w18 hp => ?_⟩
                                    cases e with
                                    | returned r =>
                                      obtain ⟨hk18, rfl, hd18⟩ := hp
                                      have hpk18 := hd17.pblk b2 hk18
                                      have hcr : Dk.crash { D with b := encode (recsOf S), last := ((encode (recsOf S)).length : Int) } 0 = { D with b := encode (recsOf S), last := ((encode (recsOf S)).length : Int) } := by
                                        have hin := hlog.inn
                                        unfold Dk.crash
                                        rw [kept0 hdok']
                                        simp only [Int.toNat_natCast, List.take_length]
                                        rw [← hin]
                                      rw [hcr] at hd18
                                      refine ⟨rfl, (K17 w18).mono fun e w19 hp => ?_⟩
                                      cases e with
                                      | returned r =>
                                        obtain ⟨hk19, a19, n19, c19, rfl, hv19⟩ := hp
                                        obtain ⟨ho3, ho4⟩ := openLog_of hlog'.ok hlog'.b
                                        have hod2 : openD pool6 { D with b := encode (recsOf S), last := ((encode (recsOf S)).length : Int) } = (0, { D with b := encode (recsOf S), last := ((encode (recsOf S)).length : Int) }) := by rw [openD6]; exact ho3
                                        have hos2 : openSt pool6 { D with b := encode (recsOf S), last := ((encode (recsOf S)).length : Int) } = S := by unfold openSt; rw [hod2]; simp only; rw [ho4]; exact hlog'.st.symm
                                        have hk918 : Kp no w w18 := ((((hkp.then hk11).trans hk14.kp (fun k hk h => by show False; omega)).then hk1417).trans hpk18.kp (fun k hk h => by show False; omega))
                                        have hk919 := hk918.then hk19
                                        refine ⟨_, _, _, rfl, (K13 (base := w.heap.size) (hd18.keep hk19 nf .no) hdok' b2 hk919.size hv19 pool6_ok (by decide)).mono fun e w20 hp => ?_⟩
                                        cases e with
                                        | returned r =>
                                          obtain ⟨hk20, hd20, hp⟩ := hp
                                          rw [hod2, hos2] at hp
                                          rcases hp with ⟨hne, _⟩ | ⟨_, s', rfl, hsa20⟩
                                          · exact (hne rfl).elim
                                          obtain ⟨T18, hkT18, hST18⟩ := id hpk18
                                          obtain ⟨T20, hkT20, hST20⟩ := id hk20
                                          have hrd20 := (((hrd14.keep hk1417 .no).keep hkT18 (nTP (fun k h => (hST18 k h).2) (by decide) (by decide))).keep hk19 .no).keep hkT20 (nTP (fun k h => (hST20 k h).2) (by decide) (by decide))
                                          have hkall : Kp no w w20 := hk919.trans hk20.kp (fun k hk h => by show False; omega)
                                          refine ⟨_, _, rfl, ifB_false.2 (ifB_false.2 (ifB_false.2 ?_))⟩
                                          unfold B6_j4
                                          refine ifB_false.2 ((K21 hsa20).mono fun e w21 hp => ?_)
                                          cases e with
                                          | returned r =>
                                            obtain ⟨rfl, t3, rfl, ht3⟩ := hp
                                            refine ⟨_, rfl, (K22 ht3 (by omega) hsok.tab.asc).mono fun e w22 hp => ?_⟩
                                            cases e with
                                            | returned r =>
                                              obtain ⟨hk22, a22, n22, c22, rfl, hrd22⟩ := hp
                                              refine ⟨_, _, _, rfl, (K26 hrd22.1 (hrd20.keep hk22 .no).1 (by omega) (by omega)).mono fun e w23 hp => ?_⟩
                                              cases e with
                                              | returned r =>
                                                obtain ⟨hk23, b23, rfl, hb23⟩ := hp
                                                have : b23 = true := hb23.2 rfl
                                                subst this
                                                have hk2023 := hk22.then hk23
                                                have hsa23 := hsa20.keepN hk2023
                                                refine ⟨_, rfl, ifB_true.2 ((K23 hsa23).mono fun e w24 hp => ?_)⟩
                                                cases e with
                                                | returned r =>
                                                  obtain ⟨rfl, rfl⟩ := hp
                                                  refine ⟨_, rfl, ?_⟩
                                                  rw [show (S.state == S.state) = true by simp]
                                                  refine ifB_true.2 ((K24 hsa23).mono fun e w25 hp => ?_)
                                                  cases e with
                                                  | returned r =>
                                                    obtain ⟨rfl, rfl⟩ := hp
                                                    refine ⟨_, rfl, ?_⟩
                                                    rw [show (S.life == S.life) = true by simp]
                                                    refine ifB_true.2 ((K27 hsa23 hdok').mono fun e w26 hp => ?_)
                                                    cases e with
                                                    | returned r =>
                                                      obtain ⟨hk26, rfl⟩ := hp
                                                      refine ⟨_, rfl, ?_⟩
                                                      unfold B6_j5
                                                      refine ⟨(hkall.then hk2023).then hk26, ?_⟩
                                                      simp only
                                                      rw [ho4, decide_eq_true (by omega)]
                                                    | _ => exact hp
                                                  | _ => exact hp
                                                | _ => exact hp
                                              | _ => exact hp
                                            | _ => exact hp
                                          | _ => exact hp
                                        | _ => exact hp
                                      | _ => exact hp
                                    | _ => exact hp
                                  | _ => exact hp
                                | _ => exact hp
                              | _ => exact hp
                            | _ => exact hp
                          | _ => exact hp
                        | _ => exact hp
                      | _ => exact hp
                    | _ => exact hp
                | _ => exact hp8
              | _ => exact hp
            | _ => exact hp
          | _ => exact hp5
        | _ => exact hp
      | _ => exact hp
    | _ => exact hp
  | _ => exact hp
end Go.Lf
end
