/- Part 36 of the lemmas that a proof leans on; no claim is made here. By an AI agent. -/
import Derived.Test.YtofhodpdfbnkiaaGreatLfC08
import Derived.Test.YtofhodpdfbnkiaaGreatLfC34
import Derived.Test.YtofhodpdfbnkiaaGreatLfC35
section
set_option linter.unusedVariables false
set_option linter.unusedSimpArgs false
namespace Go.Lf
open Go Go.Proofs
/-- blocks of slices of bytes are of none of a store's types -/
def SS (S : Nat → Prop) (w : World) : Prop := ∀ k, S k → ∃ cs, w.heap[k]? = some (.cells cs 22 (0, 0))
theorem SS.ne {S : Nat → Prop} {w : World} (h : SS S w) {k : Nat} {o : Obj} (hk : w.heap[k]? = some o) (ho : ∀ cs, o ≠ .cells cs 22 (0, 0)) : ¬ S k := by
  intro hs
  obtain ⟨cs, hc⟩ := h k hs
  rw [hk] at hc
  cases hc
  exact ho _ rfl
theorem SS.noT {S : Nat → Prop} {w : World} (h : SS S w) {e : TypeId} (he : e ≠ 22) : NoT e S w := by
  intro b cs f hb hc
  obtain ⟨cs', hc'⟩ := h b hb
  rw [hc] at hc'
  cases hc'
  exact he rfl
theorem OwnBss.ss {w : World} {base : Nat} {v : Value} {ls : List (List UInt8)} (h : OwnBss w base v ls) : SS (fun k => v.ownBlock = some k) w := by
  obtain ⟨ss, ho, _⟩ := h
  intro k hk
  obtain ⟨_, ⟨rfl, _⟩ | ⟨g, cap, cur, rfl, _, hg, _⟩⟩ := ho
  · cases hk
  · simp [Value.ownBlock] at hk
    subst hk
    exact ⟨_, hg⟩
theorem DkAt.ss {T : TypeId} {w w' : World} {p : Nat} {D : Dk} {S : Nat → Prop} (h : DkAt T w p D) (hT : T ≠ 22) (k : Kp S w w') (hS : SS S w) : DkAt T w' p D := by
  obtain ⟨s, h1, h2⟩ := id h
  exact h.keep k (hS.ne h1 (by intro cs h; cases h; exact hT rfl)) (hS.noT (by decide))
theorem SA.ss {w w' : World} {base p s : Nat} {S : StS} {D : Dk} {X : Nat → Prop} (h : SA w base p s S D) (hk : Kp X w w') (hS : SS X w) : SA w' base p s S D := by
  obtain ⟨t, b, q, ⟨h1, h2, h3⟩, h4, h5, h6⟩ := h
  exact ⟨t, b, q, ⟨hk.at h1 (hS.ne h1 (by simp)), hk.at h2 (hS.ne h2 (by simp)), hk.at h3 (hS.ne h3 (by simp))⟩, hk.at h4 (hS.ne h4 (by simp)), h5.ss (by decide) hk hS, h6⟩
theorem RSA.ss {w w' : World} {base p s : Nat} {S : StS} {D : Dk} {X : Nat → Prop} (h : RSA w base p s S D) (hk : Kp X w w') (hS : SS X w) : RSA w' base p s S D := by
  obtain ⟨t, v, q, ⟨h1, h2, h3⟩, h4, h5, h6⟩ := h
  exact ⟨t, v, q, ⟨hk.at h1 (hS.ne h1 (by simp)), hk.at h2 (hS.ne h2 (by simp)), h3.keep hk (hS.noT (by decide))⟩, hk.at h4 (hS.ne h4 (by simp)), h5.ss (by decide) hk hS, h6⟩
theorem OwnBss.one {w : World} {base : Nat} {u : Value} {l : List UInt8} (hu : OwnB w base u l) (hb : base ≤ w.heap.size) :
    ∃ a n c w', (Instr.buildSlice 56 1 #[(0, u)]).run Cz.P w = .ok (.slice a n c) w' ∧ Kp no w w' ∧ OwnBss w' base (.slice a n c) [l] := by
  have hu1 : u.oneCell' = true := by obtain ⟨a, c, rfl⟩ := own_slice hu; rfl
  have hk : Kp no w (w.alloc (.cells #[u] 22)) := .alloc _ _ _
  refine ⟨_, _, _, _, E56b1 w u hu1, hk, [u], ?_, ?_⟩
  · exact World.ownsRow_lit w #[u] 1 hb (by unfold maxLen; omega) rfl
  · intro i hi
    match i, hi with
    | 0, _ => exact ⟨u, rfl, own_keep hu hk .no⟩
/-- a copy of the reference disk's bytes -/
theorem copyB {w : World} {p : Nat} {D : Dk} (hd : DkAt 54 w p D) (hD : D.ok) {R : Prop} (h : ∀ a n c w2, Kp no w w2 → OwnB w2 w.heap.size (.slice a n c) D.b → (∃ (a91 : Option Addr) (n92 c93 : Nat), ∃ w1, Sem.run Cz.P (Instr.buildSlice 22 0 #[]) w = .ok (.slice a91 n92 c93) w1 ∧ ∃ (a96 : Option Addr) (n97 c98 : Nat), w1.cell? (Addr.add ⟨p, 0, none⟩ 1) = some (.slice a96 n97 c98) ∧ Sem.run Cz.P (Builtin.append_ #[22, 22] 22 #[(.slice a91 n92 c93), (.slice a96 n97 c98)]) w1 = .ok (.slice a n c) w2) → R) : R := by
  have hb := bl_bound hD
  obtain ⟨a1, n1, c1, w1, hr1, hk1, ho1⟩ := E22b0 w
  have hd1 := hd.keep hk1 nf .no
  obtain ⟨a2, c2, g2, hs2⟩ := hd1.open
  obtain ⟨a, n, c, w2, hr2, ho2, hk2⟩ := appB (ty := 22) ho1 hs2.bs hk1.size (by simp; omega)
  have hk : Kp no w w2 := hk1.own ho1 hk2
  exact h a n c w2 hk (by simpa using ho2) ⟨a1, n1, c1, w1, hr1, a2, _, c2, by rw [addk]; exact cl g2 rfl, hr2⟩
structure LastRun (w w' : World) (p p' s t k : Nat) (S : StS) (D : Dk) (rs : List (List UInt8)) (v : Value) (ms : List (List UInt8)) : Prop where
  run : LogRun w w' p p' s t k S D rs
  own : OwnBss w' w.heap.size v ms
  may : May rs D ms
  len : ms.length ≤ k + 1
def J5 (w : World) (p p' s t : Nat) (xs : List StepV) (vs : List Value) (w' : World) : Prop :=
  match vs with | [v, .int _ i] => ∃ k S D rs ms, i = ((k : Nat) : Int) ∧ k ≤ xs.length ∧ LastRun w w' p p' s t k S D rs v ms | _ => False
def M5 (xs : List StepV) (vs : List Value) (_ : World) : Nat := match vs with | [_, .int _ i] => xs.length - i.toNat | _ => 0
theorem LastRun.skip {w w' : World} {p p' s t k : Nat} {S : StS} {D : Dk} {rs : List (List UInt8)} {v : Value} {ms : List (List UInt8)} (h : LastRun w w' p p' s t k S D rs v ms) {k' : Nat} (hkk : k ≤ k') : LastRun w w' p p' s t k' S D rs v ms :=
  ⟨h.run.skip (.refl _ _) hkk, h.own, h.may, by have := h.len; omega⟩
/-- the bytes of now are written down -/
theorem LastRun.note {w w' w2 : World} {p p' s t k : Nat} {S' : StS} {D' : Dk} {rs' : List (List UInt8)} {v : Value} {ms : List (List UInt8)} {a : Option Addr} {n c : Nat}
    (hR : LogRun w w' p p' s t k S' D' rs') (hm : May rs' D' (ms ++ [D'.b])) (ho : OwnBss w' w.heap.size v ms) (hl : ms.length ≤ k) (hk : k ≤ 1000) (hk2 : Kp no w' w2) (hb : OwnB w2 w'.heap.size (.slice a n c) D'.b) :
    ∃ a1 n1 c1 w3, (Instr.buildSlice 56 1 #[(0, .slice a n c)]).run Cz.P w2 = .ok (.slice a1 n1 c1) w3 ∧ ∃ a2 n2 c2 w4, (Builtin.append_ #[56, 56] 56 #[v, .slice a1 n1 c1]).run Cz.P w3 = .ok (.slice a2 n2 c2) w4 ∧
      LastRun w w4 p p' s t k S' D' rs' (.slice a2 n2 c2) (ms ++ [D'.b]) := by
  have z1 := hR.kp.size
  have z2 := hk2.size
  have ho2 := ho.keep hk2 .no .no
  obtain ⟨a1, n1, c1, w3, hr3, a2, n2, c2, w4, hr4, ho4, hk4⟩ := appBss (ty := 56) ho2 (own_base hb z1) (by omega) (by omega)
  refine ⟨a1, n1, c1, w3, hr3, a2, n2, c2, w4, hr4, ⟨?_, ho4, hm, by simp; omega⟩⟩
  have hR2 := hR.skip hk2 (Nat.le_refl k)
  exact ⟨hR2.kp.ownBss ho2 hk4, hR2.sa.ss hk4 ho2.ss, hR2.ra.ss hk4 ho2.ss, hR2.sok, hR2.dok, hR2.log, hR2.room, hR2.len⟩
def J5b (w : World) (P : World → Prop) (g : Nat) (vs : List Value) (w' : World) : Prop :=
  match vs with | [.int _ i] => ∃ k : Nat, i = k ∧ k ≤ g ∧ Kp no w w' | _ => False
def M5b (g : Nat) (vs : List Value) (_ : World) : Nat := match vs with | [.int _ i] => g + 1 - i.toNat | _ => 0
theorem K5 {w : World} {a : Option Addr} {n c : Nat} {keep : Int} {xs : List StepV} (hv : RdS SSt w (.slice a n c) xs) (hx : ∀ x ∈ xs, x.ok) (hl : xs.length ≤ 9223372036854775807) :
    Calls Cz.P 5 #[.slice a n c, .int .i64 keep] w (CP (fun r w' => Kp no w w' ∧ r = .bool true) (fun _ _ => False)) := by
  refine C5 ?_
  unfold B5
  have hn := hv.len
  subst hn
  have hl0 := log0 100000
  obtain ⟨ho1, ho2⟩ := openLog_of hl0.ok hl0.b
  have hod : openD pool6 ⟨100000, [], 0, -1⟩ = (0, ⟨100000, [], 0, -1⟩) := by rw [openD6]; exact ho1
  have hos : openSt pool6 ⟨100000, [], 0, -1⟩ = st0 pool6 := by unfold openSt; rw [hod]; simp only; rw [ho2]; rfl
  have hD := dk0_ok (r := 100000) ⟨by decide, by decide⟩
  refine (K8 w).mono fun e w1 hp => ?_
  cases e with
  | returned r =>
    obtain ⟨hk1, rfl⟩ := hp
    refine ⟨_, rfl, (K16 (hv.keepN hk1) hl).mono fun e w1' hp => ?_⟩
    cases e with
    | returned r =>
      obtain ⟨rfl, too, rfl, htoo⟩ := hp
      refine ⟨_, rfl, (K9 100000 w1').mono fun e w2 hp => ?_⟩
      cases e with
      | returned r =>
        obtain ⟨hk2, ⟨hn, _⟩ | ⟨_, p, hp2, rfl, hd2⟩⟩ := hp
        · exact (hn ⟨by decide, by decide⟩).elim
        have z1 := hk1.size
        have z2 := hk2.size
        have b2 : w.heap.size ≤ p := by omega
        refine ⟨_, _, rfl, (K17 w2).mono fun e w3 hp => ?_⟩
        cases e with
        | returned r =>
          obtain ⟨hk3, a3, n3, c3, rfl, hv3⟩ := hp
          have hk03 : Kp no w w3 := hk1.then (hk2.then hk3)
          refine ⟨_, _, _, rfl, (K13 (base := w.heap.size) (hd2.keep hk3 nf .no) hD b2 hk03.size hv3 pool6_ok (by decide)).mono fun e w5 hp5 => ?_⟩
          cases e with
          | returned r5 =>
            obtain ⟨hk5, hd5, hp5⟩ := hp5
            rw [hod, hos] at hp5
            rcases hp5 with ⟨hne, _⟩ | ⟨_, s, rfl, hs5⟩
            · exact (hne rfl).elim
            have hk05 : Kp no w w5 := hk03.trans hk5.kp (fun k hk h => by show False; omega)
            refine ⟨_, _, rfl, ifB_false.2 (ifB_false.2 (ifB_false.2 (ifB_false.2 ?_)))⟩
            unfold B5_j1
            refine ifB_split (fun _ => ⟨hk05, rfl⟩) (fun ht => ?_)
            have hlen : xs.length ≤ 80 := by
              rcases Nat.lt_or_ge 80 xs.length with h | h
              · have := htoo.2 (.inr h); rw [ht] at this; cases this
              · exact h
            refine (K10 100000 w5).mono fun e w6 hp => ?_
            cases e with
            | returned r =>
              obtain ⟨hk6, ⟨hn, _⟩ | ⟨_, p', hp6, rfl, hd6⟩⟩ := hp
              · exact (hn ⟨by decide, by decide⟩).elim
              have z5 := hk05.size
              have b3 : w.heap.size ≤ p' := by omega
              refine ⟨_, _, rfl, (K17 w6).mono fun e w7 hp => ?_⟩
              cases e with
              | returned r =>
                obtain ⟨hk7, a7, n7, c7, rfl, hv7⟩ := hp
                have hk07 : Kp no w w7 := hk05.then (hk6.then hk7)
                refine ⟨_, _, _, rfl, (K14 (base := w.heap.size) (hd6.keep hk7 nf .no) hD b3 hk07.size hv7 pool6_ok (by decide)).mono fun e w8 hp8 => ?_⟩
                cases e with
                | returned r8 =>
                  obtain ⟨hk8, hd8, hp8⟩ := hp8
                  rw [hod, hos] at hp8
                  rcases hp8 with ⟨hne, _⟩ | ⟨_, t, rfl, ht8⟩
                  · exact (hne rfl).elim
                  have hk08 : Kp no w w8 := hk07.trans hk8.kp (fun k hk h => by show False; omega)
                  have hR8 := LogRun.start hk08 ((hs5.keepN (hk6.then hk7)).rk hk8) ht8
                  have z8 := hk08.size
                  refine ⟨_, _, rfl, copyB ht8.dk.1 hD fun ac nc cc wc hkc hoc ⟨a91, n92, c93, wd, e1, a96, n97, c98, e2, e3⟩ => ⟨a91, n92, c93, wd, e1, ?_⟩⟩
                  rw [nn_some]
                  have zc := hkc.size
                  obtain ⟨a52, n53, c54, w55, hr55, hk55, ho55⟩ := OwnBss.one (own_base hoc z8) (by omega)
                  refine ⟨a96, n97, c98, e2, ac, nc, cc, wc, e3, a52, n53, c54, w55, hr55, J5 w p p' s t xs, M5 xs, ⟨0, _, _, _, _, rfl, Nat.zero_le _, hR8.skip (hkc.then hk55) (Nat.le_refl _), ho55, May.start _, by simp⟩, ?_⟩
                  rintro a58 n59 c60 x w9 ⟨k, S, D, rs, ms, rfl, hk, hL⟩
                  unfold B5_l1
                  refine ifB_dec (fun hlt => ?_) (fun hlt => ?_)
                  · have hk' : k < xs.length := by omega
                    have hi1 : IntKind.i64.wrap ((k : Int) + 1) = ((k + 1 : Nat) : Int) := by rw [wrap64 (by omega) (by omega)]; omega
                    have hm : xs.length - (IntKind.i64.wrap ((k : Int) + 1)).toNat < xs.length - (k : Int).toNat := by rw [hi1]; omega
                    have hv9 := hv.keepN hL.run.kp
                    obtain ⟨b9, o9, rfl, hc9⟩ := hv9.at hk'
                    have hact : ∀ {w'}, Kp no w w' → w'.cell? (Addr.add ⟨b9, o9, none⟩ (k * 10)) = some (.int .i64 xs[k].act) := by
                      intro w' hkw
                      obtain ⟨b9', o9', he, hc9'⟩ := (hv.keepN hkw).at hk'
                      cases he
                      rw [addk]; exact hc9' 0 _ rfl
                    have bad : B5_j4 (J5 w p p' s t xs) (M5 xs) a58 n59 c60 (k : Int) w9 a58 n59 c60 w9 := by
                      unfold B5_j4
                      exact ⟨⟨k + 1, S, D, rs, ms, hi1, hk', hL.skip (by omega)⟩, hm⟩
                    refine need_and (dec (by omega)) (dec (by omega)) ?_
                    rw [nn_some, show (k : Int).toNat = k from rfl]
                    unfold B5_j2
                    refine ⟨_, hact hL.run.kp, ifB_dec (fun h0 => ifB_true.2 bad) (fun h0 => need_and (dec (by omega)) (dec (by omega)) ?_)⟩
                    rw [nn_some]
                    refine ⟨_, hact hL.run.kp, ifB_dec (fun h5 => bad) (fun h5 => ?_)⟩
                    refine need_and (dec (by omega)) (dec (by omega)) ?_
                    rw [nn_some]
                    refine rdSt hv9 hk' ((K18 hL.run.sa hL.run.ra hL.run.sok hL.run.dok (hx _ (List.getElem_mem hk')) hL.run.kp.size).mono fun e w10 hp10 => ?_)
                    cases e with
                    | returned r10 =>
                      obtain ⟨T10, hkT, hT22, hT5⟩ := PR.noT hp10.1
                      have ho10 := hL.own.keep hkT hT22 hT5
                      obtain ⟨rfl, rs', hstep, hR'⟩ := hL.run.next (by omega) (hx _ (List.getElem_mem hk')) ⟨by omega, by omega⟩ hp10
                      have hmay := hL.may.next hstep hR'.log
                      have hLl := hL.len
                      refine ⟨_, _, _, rfl, need_and (dec (by omega)) (dec (by omega)) ?_⟩
                      rw [nn_some]
                      have fin : ∀ (a : Option Addr) (n c : Nat) ms', OwnBss w10 w.heap.size (.slice a n c) ms' → May rs' (opS S D xs[k]).2.2 (ms' ++ [(opS S D xs[k]).2.2.b]) → ms'.length ≤ k + 1 → B5_j3 (some ⟨p', 0, none⟩) (J5 w p p' s t xs) (M5 xs) a58 n59 c60 (k : Int) w9 a n c w10 := by
                        intro a n c ms' ho' hm' hl'
                        unfold B5_j3 B5_j4
                        refine copyB hR'.ra.dk.1 hR'.dok fun ac nc cc wc hkc hoc ⟨a91, n92, c93, wd, e1, a96, n97, c98, e2, e3⟩ => ⟨a91, n92, c93, wd, e1, ?_⟩
                        rw [nn_some]
                        obtain ⟨a1, n1, c1, w3, hr3, a2, n2, c2, w4, hr4, hL4⟩ := LastRun.note hR' hm' ho' hl' (by omega) hkc hoc
                        exact ⟨a96, n97, c98, e2, ac, nc, cc, wc, e3, a1, n1, c1, w3, hr3, a2, n2, c2, w4, hr4, ⟨k + 1, _, _, _, _, hi1, hk', hL4⟩, hm⟩
                      refine ⟨_, hact hR'.kp, ifB_dec (fun h3 => ?_) (fun h3 => ?_)⟩
                      · rw [if_pos h3] at hmay
                        exact fin _ _ _ [] (.nil _ _) hmay (by simp)
                      · rw [if_neg h3] at hmay
                        exact fin _ _ _ ms ho10 hmay (by omega)
                    | _ => exact hp10
                  · obtain ⟨⟨hkp, hsa, hra, hsok, hdok, hlog, hroom, hlen'⟩, hown, hmay, hml⟩ := hL
                    obtain ⟨hd9, hb9⟩ := hsa.dk
                    refine (K20 hd9 hdok (k := keep)).mono fun e w10 hp => ?_
                    cases e with
                    | returned r =>
                      obtain ⟨hk10, rfl, hd10⟩ := hp
                      have hcok := Dk.crash_ok hdok keep
                      have hpk10 := hd9.pblk hb9 hk10
                      obtain ⟨j, hj, hjm, hj1, hj2, hj3⟩ := hmay.crash hlog hdok keep
                      have hkp10 : Kp no w w10 := hkp.trans hpk10.kp (fun k hk h => by show False; omega)
                      refine ⟨rfl, (K17 w10).mono fun e w11 hp => ?_⟩
                      cases e with
                      | returned r =>
                        obtain ⟨hk11, a11, n11, c11, rfl, hv11⟩ := hp
                        have hkp11 := hkp10.then hk11
                        refine ⟨_, _, _, rfl, (K13 (base := w.heap.size) (hd10.keep hk11 nf .no) hcok hb9 hkp11.size hv11 pool6_ok (by decide)).mono fun e w12 hp => ?_⟩
                        cases e with
                        | returned r =>
                          obtain ⟨hk12, hd12, hp⟩ := hp
                          rcases hp with ⟨hne, _⟩ | ⟨_, s', rfl, hsa12⟩
                          · exact (hne hj1).elim
                          have hkp12 : Kp no w w12 := hkp11.trans hk12.kp (fun k hk h => by show False; omega)
                          obtain ⟨T12, hkT12, hT22, hT5⟩ := PR.noT ((PR.ofP hpk10).trans ((PR.of hk11).trans (.ofP hk12)))
                          have ho12 := hown.keep hkT12 hT22 hT5
                          have hok12 : (openSt pool6 (D.crash keep)).ok := openSt_ok pool6_ok hj1
                          have hdok12 : (openD pool6 (D.crash keep)).2.ok := openD_ok hcok
                          obtain ⟨g, hg, hgm⟩ := List.mem_iff_getElem.1 hjm
                          obtain ⟨an, nn, hsl⟩ := ho12.slice
                          cases hsl
                          refine ⟨_, _, rfl, ifB_false.2 ?_⟩
                          unfold B5_j5
                          refine ifB_false.2 ⟨J5b w12 (fun _ => True) g, M5b g, ⟨0, rfl, Nat.zero_le _, .refl _ _⟩, ?_⟩
                          rintro y w13 ⟨k2, rfl, hk2', hk13⟩
                          unfold B5_l2
                          have hk2l : k2 < ms.length := by omega
                          refine ifB_dec (fun _ => ?_) (fun hnot => absurd (show (k2 : Int) < (ms.length : Int) by omega) hnot)
                          have hi1 : IntKind.i64.wrap ((k2 : Int) + 1) = ((k2 + 1 : Nat) : Int) := by rw [wrap64 (by omega) (by omega)]; omega
                          obtain ⟨j', hj', hmj'⟩ := hmay.all ms[k2] (List.getElem_mem hk2l)
                          have hrj : ∀ l ∈ rs.take j', recOk l := fun l h => hlog.ok l (List.mem_of_mem_take h)
                          have hbl : (ms[k2].length : Int) ≤ 100000 := by
                            have h1 := encode_take_le rs hj'
                            rw [List.take_length, ← hlog.b, ← hmj'] at h1
                            have h2 := hdok.bl
                            rw [hroom] at h2
                            omega
                          have hcp := copy_open hrj (by rw [← hmj']; exact hbl)
                          rw [← hmj'] at hcp
                          obtain ⟨hc1, hc2, hc3⟩ := hcp
                          have hDm : Dk.ok ⟨100000, ms[k2], 0, -1⟩ := by
                            have := Dk.append_ok hD ms[k2]
                            rw [hc1] at this
                            exact this
                          refine (K10 100000 w13).mono fun e w14 hp => ?_
                          cases e with
                          | returned r =>
                            obtain ⟨hk14, ⟨hn, _⟩ | ⟨_, q, hq, rfl, hd14⟩⟩ := hp
                            · exact (hn ⟨by decide, by decide⟩).elim
                            have hk1214 := hk13.then hk14
                            obtain ⟨q1, rfl, a15, c15, hc15, ho15⟩ := (ho12.keep hk1214 .no .no).at hk2l
                            refine ⟨_, _, rfl, need_and (dec (by omega)) (dec (by omega)) ?_⟩
                            rw [nn_some, show (k2 : Int).toNat = k2 from rfl, Nat.mul_one]
                            refine ⟨_, _, _, hc15, (K12 hd14 hD ho15.bs (by omega)).mono fun e w15 hp => ?_⟩
                            cases e with
                            | returned r =>
                              obtain ⟨hk15, rfl, hd15⟩ := hp
                              rw [hc1] at hd15
                              have z12 := hk13.size
                              have z14 := hk14.size
                              have z15 := hk15.size
                              have hk1215 : Kp no w12 w15 := hk1214.trans hk15 (fun k hk h => by show False; omega)
                              refine ⟨_, rfl, (K17 w15).mono fun e w16 hp => ?_⟩
                              cases e with
                              | returned r =>
                                obtain ⟨hk16, a16, n16, c16, rfl, hv16⟩ := hp
                                have hk1216 := hk1215.then hk16
                                refine ⟨_, _, _, rfl, (K14 (base := w12.heap.size) (hd15.keep hk16 nf .no) hDm (by omega) hk1216.size hv16 pool6_ok (by decide)).mono fun e w17 hp => ?_⟩
                                cases e with
                                | returned r =>
                                  obtain ⟨hk17, hd17, hp⟩ := hp
                                  rw [hc2, hc3] at hp
                                  rcases hp with ⟨hne, _⟩ | ⟨_, u, rfl, hu17⟩
                                  · exact (hne rfl).elim
                                  have hk1217 : Kp no w12 w17 := hk1216.trans hk17.kp (fun k hk h => by show False; omega)
                                  have hokm := openSt_ok (D := ⟨100000, ms[k2], 0, -1⟩) pool6_ok (by rw [hc2])
                                  rw [hc3] at hokm
                                  refine ⟨_, _, rfl, (K15 (hsa12.keepN hk1217) hu17 hdok12 hDm hok12 hokm).mono fun e w18 hp => ?_⟩
                                  cases e with
                                  | returned r =>
                                    obtain ⟨hk18, b18, rfl, hb18⟩ := hp
                                    have hk1218 := hk1217.then hk18
                                    refine ⟨_, rfl, ifB_split (fun _ => ⟨hkp12.then hk1218, rfl⟩) (fun hbf => ?_)⟩
                                    have hne : k2 ≠ g := by
                                      intro he
                                      subst he
                                      have hscan : (scan (encode (rs.take j))).1 = rs.take j := by rw [scan_all (fun l h => hlog.ok l (List.mem_of_mem_take h))]
                                      have hscan' : (scan (encode (rs.take j'))).1 = rs.take j' := by rw [scan_all hrj]
                                      have hjj : rs.take j = rs.take j' := by rw [← hscan, ← hscan', ← hgm, hmj']
                                      have : likeS (openSt pool6 (D.crash keep)) (openD pool6 (D.crash keep)).2 ((rs.take j').foldl doRec (st0 pool6)) ⟨100000, ms[k2], 0, -1⟩ := by
                                        refine ⟨?_, ?_, ?_, ?_⟩
                                        · rw [hj3, hjj]
                                        · rw [hj3, hjj]
                                        · rw [hj3, hjj]
                                        · rw [hj2]; show _ = (scan ms[k2]).1.length; rw [hgm]
                                      have := hb18.2 this
                                      rw [hbf] at this
                                      cases this
                                    exact ⟨⟨k2 + 1, hi1, by omega, hk1218⟩, by show g + 1 - (IntKind.i64.wrap ((k2 : Int) + 1)).toNat < g + 1 - (k2 : Int).toNat; rw [hi1]; omega⟩
                                  | _ => exact hp
                                | _ => exact hp
                              | _ => exact hp
                            | _ => exact hp
                          | _ => exact hp
                        | _ => exact hp
                      | _ => exact hp
                    | _ => exact hp
                | _ => exact hp8
              | _ => exact hp
            | _ => exact hp
          | _ => exact hp5
        | _ => exact hp
      | _ => exact hp
    | _ => exact hp
  | _ => exact hp
end Go.Lf
end
