/- Part 36 of the lemmas that a proof leans on; no claim is made here. By an AI agent. -/
import Derived.Test.YtofhodpdfbnkiaaGreatLfD08
import Derived.Test.YtofhodpdfbnkiaaGreatLfD29
import Derived.Test.YtofhodpdfbnkiaaGreatLfD31
import Derived.Test.YtofhodpdfbnkiaaGreatLfD35
section
set_option linter.unusedVariables false
set_option linter.unusedSimpArgs false
namespace Go.Lf
open Go Go.Proofs
/-- what two stores of one log have in common -/
structure Both (A B : StS) : Prop where
  st : A.state = B.state
  life : A.life = B.life
  get : ∀ a, inT A.tab a → inT B.tab a → getT A.tab a = getT B.tab a
theorem Both.step {A B : StS} (h : Both A B) (l : List UInt8) : Both (doRec A l) (doRec B l) := by
  obtain ⟨h1, h2, h3⟩ := h
  match l with
  | [] => exact ⟨h1, h2, h3⟩
  | c :: m =>
    rw [doRec_cons, doRec_cons]
    split
    · split
      · refine ⟨h1, h2, fun a ha hb => ?_⟩
        simp only at ha hb ⊢
        rw [inT_setT] at ha hb
        rw [getT_setT, getT_setT]
        by_cases hc : a = (lsOf m).addr ∧ (lsOf m).right = true
        · rw [if_pos ⟨hc.1, hc.2, ha⟩, if_pos ⟨hc.1, hc.2, hb⟩]
        · rw [if_neg (fun h => hc ⟨h.1, h.2.1⟩), if_neg (fun h => hc ⟨h.1, h.2.1⟩)]
          exact h3 a ha hb
      · exact ⟨h1, h2, h3⟩
    · split
      · exact ⟨rfl, h2, h3⟩
      · split
        · split
          · exact ⟨h1, rfl, h3⟩
          · exact ⟨h1, h2, h3⟩
        · exact ⟨h1, h2, h3⟩
theorem Both.fold : ∀ (ls : List (List UInt8)) {A B : StS}, Both A B → Both (ls.foldl doRec A) (ls.foldl doRec B)
  | [], _, _, h => h
  | l :: ls, _, _, h => Both.fold ls (h.step l)
theorem both0 (r r' : List Rg) : Both (st0 r) (st0 r') := by
  refine ⟨rfl, rfl, fun a ha hb => ?_⟩
  obtain ⟨x, hx, hxa, hg⟩ := getT_some ha
  obtain ⟨y, hy, hya, hg'⟩ := getT_some hb
  rw [hg, hg', st0_bare hx, st0_bare hy, hxa, hya]
theorem getT_at {T : List Ls} (k : Nat) (h : k < T.length) (hp : T.Pairwise fun x y => x.addr < y.addr) : getT T T[k].addr = (T[k], 0) := by
  unfold getT
  rw [look_at 0 k h hp]
theorem Both.at {A B : StS} (h : Both A B) (k : Nat) (hk : k < A.tab.length) (hp : A.tab.Pairwise fun x y => x.addr < y.addr) (h0 : (getT B.tab A.tab[k].addr).2 = 0) : (getT B.tab A.tab[k].addr).1 = A.tab[k] := by
  have hb : inT B.tab A.tab[k].addr := by
    rcases Classical.em (inT B.tab A.tab[k].addr) with hb | hb
    · exact hb
    · rw [getT_none hb] at h0; exact absurd h0 (by decide)
  rw [← h.get _ ⟨_, List.getElem_mem hk, rfl⟩ hb, getT_at k hk hp]
theorem poolErr_cases (rs : List Rg) : poolErr rs = 0 ∨ poolErr rs = 1 ∨ poolErr rs = 3 := by
  unfold poolErr
  split
  · exact .inr (.inl rfl)
  · split
    · exact .inr (.inr rfl)
    · exact .inl rfl
theorem open_log {D : Dk} {rs : List (List UInt8)} (h : ∀ l ∈ rs, recOk l) (hb : D.b = encode rs) (ps : List Rg) :
    openD ps D = (poolErr ps, D) ∧ openSt ps D = rs.foldl doRec (st0 ps) := by
  obtain ⟨h1, h2⟩ := openLog_of h hb
  have : openD ps D = (poolErr ps, D) := by
    unfold openD
    split
    · rfl
    · rename_i hp
      have : poolErr ps = 0 := by
        rcases poolErr_cases ps with h | h | h
        · exact h
        · exact (hp (by rw [h]; decide)).elim
        · exact (hp (by rw [h]; decide)).elim
      rw [this, h1]
  refine ⟨this, ?_⟩
  unfold openSt
  rw [this]
  simp only
  rw [h2]
/-- to open a store writes to its disk alone -/
theorem K13k {w : World} {p base : Nat} {D : Dk} {a : Option Addr} {n c : Nat} {rs : List Rg} (hd : DkAt 72 w p D) (hD : D.ok) (hb : base ≤ p) (hw : base ≤ w.heap.size) (hv : Rgs w (.slice a n c) rs) (hok : ∀ r ∈ rs, r.ok) (hl : rs.length ≤ 1048576) :
    Calls Cz.P 13 #[.pointer (some ⟨p, 0, none⟩), .slice a n c] w (CP (StoreOpen SA 72 (fun _ => Kp (fun k => k = p)) base p rs D w) (fun _ _ => False)) := by
  refine C13 ?_
  unfold B13
  refine (K37 hv hok hl).mono fun e w8 hp => ?_
  cases e with
  | returned r =>
    obtain ⟨hk8, hp⟩ := hp
    have hd8 := hd.keep hk8 nf .no
    have bad : ∀ x : Int, poolErr rs = x → x ≠ 0 → StoreOpen SA 72 (fun _ => Kp (fun k => k = p)) base p rs D w (.tuple #[.pointer none, .int .i64 x]) w8 := by
      intro x hx hne
      have e1 : openD rs D = (x, D) := by unfold openD; rw [hx, if_pos hne]
      unfold StoreOpen
      rw [e1]
      exact ⟨hk8.mono (fun k _ h => h.elim), hd8, .inl ⟨hne, rfl⟩⟩
    rcases hp with ⟨h1, rfl⟩ | ⟨hall, ⟨h1, rfl⟩ | ⟨hc, t, rfl, b, hbb, ht, hm⟩⟩
    · exact ⟨_, _, rfl, ifB_true.2 (bad 1 (by unfold poolErr; rw [if_pos h1]) (by decide))⟩
    · exact ⟨_, _, rfl, ifB_true.2 (bad 3 (by unfold poolErr; rw [if_neg (fun ⟨x, h2, h3⟩ => by have := hall x h2; omega), if_pos h1]) (by decide))⟩
    · have e0 : poolErr rs = 0 := by unfold poolErr; rw [if_neg (fun ⟨x, h2, h3⟩ => by have := hall x h2; omega), if_neg (by omega)]
      have e1 : openD rs D = D.openLog := by unfold openD; rw [e0]; rfl
      unfold StoreOpen openSt
      rw [e1]
      have hDo := Dk.openLog_ok hD
      have hbl := bl_bound hDo
      obtain ⟨hrec, hlen⟩ := scan_rec _ D.openLog.2.b rfl
      refine ⟨_, _, rfl, ifB_false.2 ((K38 hd8 hD).mono fun e w12 hp => ?_)⟩
      cases e with
      | returned r =>
        obtain ⟨hk12, hd12, hp⟩ := hp
        have hPB : PBlk w p := by obtain ⟨x, hx, _⟩ := hd; exact ⟨_, hx, .inr (.inr ⟨_, rfl⟩)⟩
        have hk012 : Kp (fun k => k = p) w w12 := hk8.then hk12
        have hpk := hk012
        have ntp : ¬ t = p := by intro h; subst h; obtain ⟨x, hx, _⟩ := hd8; rw [ht] at hx; cases hx
        have nbp : ¬ b = p := by intro h; subst h; obtain ⟨x, hx, _⟩ := hd8; unfold MapAt at hm; rw [hm] at hx; cases hx
        rcases hp with ⟨hne, rfl⟩ | ⟨h0, q, hq, rfl, hlog⟩
        · exact ⟨_, _, rfl, ifB_split (fun _ => ⟨hpk, hd12, .inl ⟨hne, rfl⟩⟩) (fun h => by simp only [bne_eq_false_iff_eq] at h; exact (hne h).elim)⟩
        · refine ⟨_, _, rfl, ifB_false.2 (nw_i fun s w15 e15 hk15 g15 => ?_)⟩
          have hS15 : StP w15 s t b (.pointer (some ⟨q, 0, none⟩)) (st0 rs) := ⟨g15, hk15.at (hk12.at ht ntp) nf, hk15.at (hk12.at hm nbp) nf⟩
          have hd15 := hd12.keep hk15 nf .no
          have hq15 : LogAt 112 w15 q p := hk15.at hlog nf
          refine (K40 hq15 hd15 hDo).mono fun e w19 hp => ?_
          cases e with
          | returned r =>
            obtain ⟨hk19, a19, n19, c19, rfl, ho19⟩ := hp
            have hS19 := hS15.keepN hk19
            refine ⟨_, _, _, rfl, (K39 hS19 (ho19.base (Nat.zero_le _)) hrec (by omega)).mono fun e w21 hp => ?_⟩
            cases e with
            | returned r =>
              obtain ⟨rfl, hk21, hS21⟩ := hp
              have z0 := hk8.size
              have z8 := hk12.size
              have z15 := hk15.size
              have z19 := hk19.size
              have s15 := lt_of_get g15
              have nps : ¬ (p = s ∨ p = b) := by
                rintro (h | h)
                · subst h; obtain ⟨x, hx, _⟩ := hd15; rw [g15] at hx; cases hx
                · exact nbp h.symm
              have nqs : ¬ (q = s ∨ q = b) := by
                rintro (h | h)
                · subst h; unfold LogAt at hq15; rw [hq15] at g15; cases g15
                · subst h; have := hS15.2.2; unfold MapAt at this; unfold LogAt at hq15; rw [hq15] at this; cases this
              have hn5 : NoT 5 (fun k => k = s ∨ k = b) w19 := by
                rintro b' cs f (rfl | rfl) hc
                · rw [hS19.1] at hc; cases hc
                · rw [hS19.2.2] at hc; cases hc
              refine ⟨rfl, ?_, (hd15.keep hk19 nf .no).keep hk21 nps hn5, .inr ⟨h0, s, rfl, t, b, q, hS21, hk21.at (hk19.at hq15 nf) nqs, (hd15.keep hk19 nf .no).keep hk21 nps hn5, by omega, by omega, hb⟩⟩
              refine ((hk012.trans hk15 (fun _ _ h => h.elim)).trans hk19 (fun _ _ h => h.elim)).trans hk21 ?_
              intro k hk h
              omega
            | _ => exact hp
          | _ => exact hp
      | _ => exact hp
  | _ => exact hp
def J7 (w : World) (T : List Ls) (vs : List Value) (w' : World) : Prop := match vs with | [.int _ i] => ∃ k : Nat, i = k ∧ k ≤ T.length ∧ Kp no w w' | _ => False
def M7 (T : List Ls) (vs : List Value) (_ : World) : Nat := match vs with | [.int _ i] => T.length - i.toNat | _ => 0
def G7 (w : World) (y : Ls × Int) (vs : List Value) (w' : World) : Prop := match vs with | [.pointer (some q), .int _ x] => x = y.2 ∧ Kp no w w' ∧ ∃ b, q = ⟨b, 0, none⟩ ∧ w'.heap[b]? = some (.cells y.1.cells 49 (0, 0)) | _ => False
def H7 (w : World) (vs : List Value) (w' : World) : Prop := match vs with | [.bool b] => b = false ∧ Kp no w w' | _ => False
theorem K7 {w : World} {a a' : Option Addr} {n c n' c' : Nat} {xs : List StepV} {os : List Rg} (hv : RdS SSt w (.slice a n c) xs) (hx : ∀ x ∈ xs, x.ok) (hl : xs.length ≤ 9223372036854775807) (ho : Rgs w (.slice a' n' c') os) (hok : ∀ r ∈ os, r.ok) :
    Calls Cz.P 7 #[.slice a n c, .slice a' n' c'] w (CP (fun r w' => Kp no w w' ∧ r = .bool true) (fun _ _ => False)) := by
  refine C7 ?_
  unfold B7
  have hn := hv.len
  have hn' := ho.len
  subst hn hn'
  have hl0 := log0 100000
  obtain ⟨hod, hos⟩ := open_log hl0.ok hl0.b pool6
  rw [pool6_err] at hod
  have hos : openSt pool6 ⟨100000, [], 0, -1⟩ = st0 pool6 := hos
  have hD := dk0_ok (r := 100000) ⟨by decide, by decide⟩
  refine (K8 w).mono fun e w1 hp => ?_
  cases e with
  | returned r =>
    obtain ⟨hk1, rfl⟩ := hp
    refine ⟨_, rfl, (K16 (hv.keepN hk1) hl).mono fun e w1' hp => ?_⟩
    cases e with
    | returned r =>
      obtain ⟨rfl, too, rfl, htoo⟩ := hp
      refine ⟨_, rfl, (K9 100000 w1').mono fun e w2 hp => ?_⟩
      cases e with
      | returned r =>
        obtain ⟨hk2, ⟨hn, _⟩ | ⟨_, p, hp2, rfl, hd2⟩⟩ := hp
        · exact (hn ⟨by decide, by decide⟩).elim
        have z1 := hk1.size
        have z2 := hk2.size
        have b2 : w.heap.size ≤ p := by omega
        refine ⟨_, _, rfl, (K17 w2).mono fun e w3 hp => ?_⟩
        cases e with
        | returned r =>
          obtain ⟨hk3, a3, n3, c3, rfl, hv3⟩ := hp
          have hk03 : Kp no w w3 := hk1.then (hk2.then hk3)
          refine ⟨_, _, _, rfl, (K13 (base := w.heap.size) (hd2.keep hk3 nf .no) hD b2 hk03.size hv3 pool6_ok (by decide)).mono fun e w5 hp5 => ?_⟩
          cases e with
          | returned r5 =>
            obtain ⟨hk5, hd5, hp5⟩ := hp5
            rw [hod, hos] at hp5
            rcases hp5 with ⟨hne, _⟩ | ⟨_, s, rfl, hs5⟩
            · exact (hne rfl).elim
            have hk05 : Kp no w w5 := hk03.trans hk5.kp (fun k hk h => by show False; omega)
            refine ⟨_, _, rfl, ifB_false.2 (ifB_false.2 (ifB_false.2 (ifB_false.2 ?_)))⟩
            unfold B7_j1
            refine ifB_split (fun _ => ifB_true.2 ⟨hk05, rfl⟩) (fun ht => ifB_dec (fun _ => ⟨hk05, rfl⟩) (fun ho50 => ?_))
            have hlen : xs.length ≤ 80 := by
              rcases Nat.lt_or_ge 80 xs.length with h | h
              · have := htoo.2 (.inr h); rw [ht] at this; cases this
              · exact h
            refine (K10 100000 w5).mono fun e w6 hp => ?_
            cases e with
            | returned r =>
              obtain ⟨hk6, ⟨hn, _⟩ | ⟨_, p', hp6, rfl, hd6⟩⟩ := hp
              · exact (hn ⟨by decide, by decide⟩).elim
              have z5 := hk05.size
              have b3 : w.heap.size ≤ p' := by omega
              refine ⟨_, _, rfl, (K17 w6).mono fun e w7 hp => ?_⟩
              cases e with
              | returned r =>
                obtain ⟨hk7, a7, n7, c7, rfl, hv7⟩ := hp
                have hk07 : Kp no w w7 := hk05.then (hk6.then hk7)
                refine ⟨_, _, _, rfl, (K14 (base := w.heap.size) (hd6.keep hk7 nf .no) hD b3 hk07.size hv7 pool6_ok (by decide)).mono fun e w8 hp8 => ?_⟩
                cases e with
                | returned r8 =>
                  obtain ⟨hk8, hd8, hp8⟩ := hp8
                  rw [hod, hos] at hp8
                  rcases hp8 with ⟨hne, _⟩ | ⟨_, t, rfl, ht8⟩
                  · exact (hne rfl).elim
                  have hk08 : Kp no w w8 := hk07.trans hk8.kp (fun k hk h => by show False; omega)
                  refine ⟨_, _, rfl, J6 w p p' s t xs, M16 xs, ⟨0, _, _, _, rfl, Nat.zero_le _, LogRun.start hk08 ((hs5.keepN (hk6.then hk7)).rk hk8) ht8⟩, ?_⟩
                  rintro x w9 ⟨k, S, D, rs, rfl, hk, hR⟩
                  unfold B7_l1
                  refine ifB_dec (fun hlt => ?_) (fun hlt => ?_)
                  · have hk' : k < xs.length := by omega
                    have hi1 : IntKind.i64.wrap ((k : Int) + 1) = ((k + 1 : Nat) : Int) := by rw [wrap64 (by omega) (by omega)]; omega
                    have hm : xs.length - (IntKind.i64.wrap ((k : Int) + 1)).toNat < xs.length - (k : Int).toNat := by rw [hi1]; omega
                    have hv9 := hv.keepN hR.kp
                    obtain ⟨b9, o9, rfl, hc9⟩ := hv9.at hk'
                    have hact : w9.cell? (Addr.add ⟨b9, o9, none⟩ (k * 10)) = some (.int .i64 xs[k].act) := by rw [addk]; exact hc9 0 _ rfl
                    refine need_and (dec (by omega)) (dec (by omega)) ?_
                    rw [nn_some, show (k : Int).toNat = k from rfl]
                    unfold B7_j2 B7_j3
                    refine ⟨_, hact, ifB_dec (fun h0 => need_and (dec (by omega)) (dec (by omega)) ?_) (fun h0 => ifB_false.2 ⟨⟨k + 1, S, D, rs, hi1, hk', hR.skip (.refl _ _) (by omega)⟩, hm⟩)⟩
                    rw [nn_some]
                    refine ⟨_, hact, ifB_dec (fun h5 => ?_) (fun h5 => ⟨⟨k + 1, S, D, rs, hi1, hk', hR.skip (.refl _ _) (by omega)⟩, hm⟩)⟩
                    refine need_and (dec (by omega)) (dec (by omega)) ?_
                    rw [nn_some]
                    refine rdSt hv9 hk' ((K18 hR.sa hR.ra hR.sok hR.dok (hx _ (List.getElem_mem hk')) hR.kp.size).mono fun e w10 hp10 => ?_)
                    cases e with
                    | returned r10 =>
                      obtain ⟨rfl, rs', _, hR'⟩ := hR.next (by omega) (hx _ (List.getElem_mem hk')) ⟨by omega, h5⟩ hp10
                      exact ⟨_, _, _, rfl, ⟨k + 1, _, _, rs', hi1, hk', hR'⟩, hm⟩
                    | _ => exact hp10
                  · obtain ⟨hkp, hsa, hra, hsok, hdok, hlog, hroom, hlen'⟩ := hR
                    obtain ⟨hod2, hos2⟩ := open_log hlog.ok hlog.b pool6
                    rw [pool6_err] at hod2
                    rw [← hlog.st] at hos2
                    obtain ⟨hd9, hb9⟩ := hsa.dk
                    refine (K17 w9).mono fun e w10 hp => ?_
                    cases e with
                    | returned r =>
                      obtain ⟨hk10, a10, n10, c10, rfl, hv10⟩ := hp
                      have hkp10 := hkp.then hk10
                      have z9 := hkp.size
                      have z10 := hk10.size
                      refine ⟨_, _, _, rfl, (K13k (base := w.heap.size) (hd9.keep hk10 nf .no) hdok hb9 hkp10.size hv10 pool6_ok (by decide)).mono fun e w11 hp => ?_⟩
                      cases e with
                      | returned r =>
                        obtain ⟨hk11, hd11, hp⟩ := hp
                        rw [hod2] at hd11 hp
                        rw [hos2] at hp
                        rcases hp with ⟨hne, _⟩ | ⟨_, u, rfl, hu⟩
                        · exact (hne rfl).elim
                        have hpk11 := (hd9.keep hk10 nf .no).pblk hb9 hk11
                        have hsa11 := (hsa.keepN hk10).disk hk11 hd11
                        have hra11 := (hra.keepN hk10).pk hpk11
                        have hkp11 : Kp no w w11 := hkp10.trans hpk11.kp (fun k hk h => by show False; omega)
                        have z11 := hkp11.size
                        refine ⟨_, _, rfl, ifB_false.2 (ifB_false.2 ((K15 hu hra11 hdok hdok hsok hsok).mono fun e w12 hp => ?_))⟩
                        cases e with
                        | returned r =>
                          obtain ⟨hk12, b12, rfl, hb12⟩ := hp
                          have : b12 = true := hb12.2 ⟨rfl, rfl, rfl, rfl⟩
                          subst this
                          have hkp12 := hkp11.then hk12
                          have hsa12 := hsa11.keepN hk12
                          obtain ⟨hd12, _⟩ := hsa12.dk
                          refine ⟨_, rfl, ?_⟩
                          unfold B7_j4
                          refine ifB_false.2 ((K13k (base := w.heap.size) hd12 hdok hb9 hkp12.size (ho.keep hkp12 (fun _ _ _ _ => nf)) hok (by omega)).mono fun e w13 hp => ?_)
                          obtain ⟨hod3, hos3⟩ := open_log hlog.ok hlog.b os
                          cases e with
                          | returned r =>
                            obtain ⟨hk13, hd13, hp⟩ := hp
                            have hpo : (openD os D).1 = 0 → (openSt os D).ok := fun h => openSt_ok hok h
                            rw [hod3] at hd13 hp hpo
                            rw [hos3] at hp hpo
                            have hpk13 := hd12.pblk hb9 hk13
                            have hsa13 := hsa12.disk hk13 hd13
                            have hkp13 : Kp no w w13 := hkp12.trans hpk13.kp (fun k hk h => by show False; omega)
                            rcases hp with ⟨hne, rfl⟩ | ⟨he0, v, rfl, hsv⟩
                            · refine ⟨_, _, rfl, ifB_split (fun _ => ?_) (fun h => by simp only [bne_eq_false_iff_eq] at h; exact (hne h).elim)⟩
                              unfold B7_j5 B7_j6
                              simp only at hne ⊢
                              rcases poolErr_cases os with h | h | h
                              · exact (hne h).elim
                              · rw [h]; exact ifB_true.2 (ifB_true.2 ⟨hkp13, by first | rfl | trivial⟩)
                              · rw [h]; exact ifB_true.2 (ifB_false.2 ⟨hkp13, by first | rfl | trivial⟩)
                            · have hvok := hpo he0
                              have hboth : Both (rs.foldl doRec (st0 os)) S := by rw [hlog.st]; exact Both.fold rs (both0 os pool6)
                              generalize hSv : rs.foldl doRec (st0 os) = Sv at *
                              have hTv := hvok.tab.len
                              refine ⟨_, _, rfl, ifB_false.2 ?_⟩
                              unfold B7_j5
                              refine ifB_false.2 ((K21 hsv).mono fun e w14 hp => ?_)
                              cases e with
                              | returned r =>
                                obtain ⟨rfl, t1, rfl, ht1⟩ := hp
                                refine ⟨_, rfl, (K22 ht1 (by omega) hvok.tab.asc).mono fun e w15 hp => ?_⟩
                                cases e with
                                | returned r =>
                                  obtain ⟨hk15, a15, n15, c15, rfl, hrd15⟩ := hp
                                  have hkp15 := hkp13.then hk15
                                  have hn15 := hrd15.1.len
                                  subst hn15
                                  have hsa15 := hsa13.keepN hk15
                                  have hsv15 := hsv.keepN hk15
                                  refine ⟨_, _, _, rfl, J7 w15 Sv.tab, M7 Sv.tab, ⟨0, rfl, Nat.zero_le _, .refl _ _⟩, ?_⟩
                                  rintro y w16 ⟨k, rfl, hk, hk16⟩
                                  have hsa16 := hsa15.keepN hk16
                                  have hsv16 := hsv15.keepN hk16
                                  unfold B7_l2
                                  refine ifB_dec (fun hlt => ?_) (fun hlt => ?_)
                                  · have hk' : k < Sv.tab.length := by omega
                                    have hi1 : IntKind.i64.wrap ((k : Int) + 1) = ((k + 1 : Nat) : Int) := by rw [wrap64 (by omega) (by omega)]; omega
                                    have hm : M7 Sv.tab [.int .i64 (IntKind.i64.wrap ((k : Int) + 1))] w16 < M7 Sv.tab [.int .i64 (k : Int)] w16 := by
                                      show Sv.tab.length - (IntKind.i64.wrap ((k : Int) + 1)).toNat < Sv.tab.length - (k : Int).toNat
                                      rw [hi1]; omega
                                    have hkd : Kp no w16 w16.drew := .drew no _
                                    have hrd := (hrd15.1.keepN hk16).keepN hkd
                                    obtain ⟨b16, o16, rfl, _⟩ := hrd.at hk'
                                    have hlk := fun {w'} (h : Kp no w16.drew w') => (rdLk hrd h hk').1
                                    refine ⟨G7 w16 (getT S.tab Sv.tab[k].addr), need_and (dec (by omega)) (dec (by omega)) ?_, ?_⟩
                                    · rw [nn_some, show (k : Int).toNat = k from rfl]
                                      refine ⟨_, rdA hrd hk', (K21 (hsa16.keepN hkd)).mono fun e w17 hp => ?_, nw_i fun k17 w17 e17 hk17 g17 => ⟨⟨⟨hlk hk17, trivial⟩, trivial⟩, (K21 (hsa16.keepN (hkd.then hk17))).mono fun e w18 hp => ?_⟩⟩
                                      · cases e with
                                        | returned r =>
                                          obtain ⟨rfl, p17, rfl, ht17⟩ := hp
                                          refine ⟨_, rfl, ⟨⟨rfl, trivial⟩, trivial⟩, (K28 ht17 _).mono fun e w18 hp => ?_, nw_i fun k18 w18 e18 hk18 g18 => ⟨⟨⟨hlk hk18, trivial⟩, trivial⟩, (K28 (ht17.keepN hk18) _).mono fun e w19 hp => ?_⟩⟩
                                          · cases e with
                                            | returned r =>
                                              obtain ⟨hk18, rfl⟩ := hp
                                              exact ⟨_, _, _, _, _, _, _, _, _, rfl, nw_i fun k19 w19 e19 hk19 g19 => ⟨trivial, stL (getT S.tab Sv.tab[k].addr).1 (x := bare 0 0 0) g19 fun w20 hk20 g20 => ⟨trivial, rfl, ((hkd.then hk18).then hk19).trans hk20 (fun k hk h => by have := hkd.size; have := hk18.size; show False; omega), _, rfl, g20⟩⟩⟩
                                            | _ => exact hp
                                          · cases e with
                                            | returned r =>
                                              obtain ⟨hk19, rfl⟩ := hp
                                              exact ⟨_, _, _, _, _, _, _, _, _, rfl, stL (getT S.tab Sv.tab[k].addr).1 (x := bare 0 0 0) (hk19.at g18 nf) fun w20 hk20 g20 => ⟨trivial, rfl, ((hkd.then hk18).then hk19).trans hk20 (fun k hk h => by have := hkd.size; show False; omega), _, rfl, g20⟩⟩
                                            | _ => exact hp
                                        | _ => exact hp
                                      · cases e with
                                        | returned r =>
                                          obtain ⟨rfl, p17, rfl, ht17⟩ := hp
                                          refine ⟨_, rfl, ⟨⟨rfl, trivial⟩, trivial⟩, (K28 ht17 _).mono fun e w19 hp => ?_⟩
                                          cases e with
                                          | returned r =>
                                            obtain ⟨hk19, rfl⟩ := hp
                                            exact ⟨_, _, _, _, _, _, _, _, _, rfl, stL (getT S.tab Sv.tab[k].addr).1 (x := bare 0 0 0) (hk19.at g17 nf) fun w20 hk20 g20 => ⟨trivial, rfl, ((hkd.then hk17).then hk19).trans hk20 (fun k hk h => by have := hkd.size; show False; omega), _, rfl, g20⟩⟩
                                          | _ => exact hp
                                        | _ => exact hp
                                    · rintro q17 x17 w17 ⟨rfl, hk17, b17, rfl, g17⟩
                                      have hkd2 : Kp no w17 w17.drew := .drew no _
                                      have hk1617 := hk17.then hkd2
                                      have g17d := hkd2.at g17 nf
                                      refine ⟨H7 w16, ifB_split (fun h0 => ?_) (fun h0 => ⟨rfl, hk1617⟩), ?_⟩
                                      · simp only [addk, Nat.zero_add]
                                        refine rd8 g17d (need_and (dec (by omega)) (dec (by omega)) ?_)
                                        have hrd2 := fun {K} => rdL (K := K) (hrd15.1.keepN (hk16.then hk1617)) hk'
                                        simp only [addk, Nat.zero_add] at hrd2
                                        simp only [nn_some, addk, Nat.zero_add]
                                        rw [show (k : Int).toNat = k from rfl]
                                        refine hrd2 ⟨?_, hk1617⟩
                                        show (!(eqL (getT S.tab Sv.tab[k].addr).1 Sv.tab[k])) = false
                                        rw [(eqL_iff _ _).2 (hboth.at k hk' hvok.tab.asc (by simpa using h0))]
                                        rfl
                                      · rintro b w18 ⟨rfl, hk18⟩
                                        exact ifB_false.2 ⟨⟨k + 1, hi1, hk', hk16.then hk18⟩, hm⟩
                                  · refine (K23 hsv16).mono fun e w17 hp => ?_
                                    cases e with
                                    | returned r =>
                                      obtain ⟨rfl, rfl⟩ := hp
                                      refine ⟨_, rfl, (K23 hsa16).mono fun e w18 hp => ?_⟩
                                      cases e with
                                      | returned r =>
                                        obtain ⟨rfl, rfl⟩ := hp
                                        refine ⟨_, rfl, ?_⟩
                                        rw [hboth.st, show (S.state == S.state) = true by simp]
                                        refine ifB_true.2 ((K24 hsv16).mono fun e w19 hp => ?_)
                                        cases e with
                                        | returned r =>
                                          obtain ⟨rfl, rfl⟩ := hp
                                          refine ⟨_, rfl, (K24 hsa16).mono fun e w20 hp => ?_⟩
                                          cases e with
                                          | returned r =>
                                            obtain ⟨rfl, rfl⟩ := hp
                                            refine ⟨_, rfl, ?_⟩
                                            unfold B7_j7
                                            refine ⟨hkp15.then hk16, ?_⟩
                                            rw [hboth.life, show (S.life == S.life) = true by simp]
                                          | _ => exact hp
                                        | _ => exact hp
                                      | _ => exact hp
                                    | _ => exact hp
                                | _ => exact hp
                              | _ => exact hp
                          | _ => exact hp
                        | _ => exact hp
                      | _ => exact hp
                    | _ => exact hp
                | _ => exact hp8
              | _ => exact hp
            | _ => exact hp
          | _ => exact hp5
        | _ => exact hp
      | _ => exact hp
    | _ => exact hp
  | _ => exact hp
end Go.Lf
end
