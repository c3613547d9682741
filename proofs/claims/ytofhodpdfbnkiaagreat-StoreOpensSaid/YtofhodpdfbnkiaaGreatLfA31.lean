/- Part 31 of the lemmas that a proof leans on; no claim is made here. By an AI agent. -/
import Derived.Test.YtofhodpdfbnkiaaGreatLfA08
import Derived.Test.YtofhodpdfbnkiaaGreatLfA09
import Derived.Test.YtofhodpdfbnkiaaGreatLfA11
import Derived.Test.YtofhodpdfbnkiaaGreatLfA30
section
set_option linter.unusedVariables false
set_option linter.unusedSimpArgs false
namespace Go.Lf
open Go Go.Proofs
def leaseRecs (T : List Ls) : List (List UInt8) := (T.filter fun x => !eqL x (bare x.addr 0 0)).map fun x => 76 :: x.enc
def recsOf (S : StS) : List (List UInt8) := [stRec S.state, lifeRec S.life] ++ leaseRecs S.tab
def compactS (S : StS) (D : Dk) : Int × StS × Dk := ((D.compact (recsOf S)).1, S, (D.compact (recsOf S)).2)
theorem leaseRecs_take {T : List Ls} {k : Nat} (h : k < T.length) : leaseRecs (T.take (k + 1)) = leaseRecs (T.take k) ++ (if eqL T[k] (bare T[k].addr 0 0) = true then [] else [76 :: T[k].enc]) := by
  unfold leaseRecs
  rw [List.take_add_one, List.getElem?_eq_getElem h, List.filter_append, List.map_append]
  congr 1
  simp only [Option.toList]
  rw [List.filter_cons]
  cases hq : eqL T[k] (bare T[k].addr 0 0) with
  | true => simp
  | false => simp
theorem leaseRecs_len (T : List Ls) : (leaseRecs T).length ≤ T.length := by
  unfold leaseRecs; rw [List.length_map]; exact List.length_filter_le _ _
theorem OwnBss.two {w : World} {base : Nat} {u v : Value} {l m : List UInt8} (hu : OwnB w base u l) (hv : OwnB w base v m) (hb : base ≤ w.heap.size) :
    ∃ a n c w', (Instr.buildSlice 56 2 #[(0, u), (1, v)]).run Cz.P w = .ok (.slice a n c) w' ∧ Kp no w w' ∧ OwnBss w' base (.slice a n c) [l, m] := by
  have hu1 : u.oneCell' = true := by obtain ⟨a, c, rfl⟩ := own_slice hu; rfl
  have hv1 : v.oneCell' = true := by obtain ⟨a, c, rfl⟩ := own_slice hv; rfl
  have hk : Kp no w (w.alloc (.cells #[u, v] 22)) := .alloc _ _ _
  refine ⟨_, _, _, _, E56b2 w u v hu1 hv1, hk, [u, v], ?_, ?_⟩
  · exact World.ownsRow_lit w #[u, v] 2 hb (by unfold maxLen; omega) rfl
  · intro i hi
    match i, hi with
    | 0, _ => exact ⟨u, rfl, own_keep hu hk .no⟩
    | 1, _ => exact ⟨v, rfl, own_keep hv hk .no⟩
def J25 (w0 : World) (u : Value) (T : List Ls) (pre : List (List UInt8)) (vs : List Value) (w' : World) : Prop :=
  match vs with | [v, .int _ i] => ∃ k : Nat, i = k ∧ k ≤ T.length ∧ Kp no w0 w' ∧ RdT SL 49 w' u T ∧ OwnBss w' w0.heap.size v (pre ++ leaseRecs (T.take k)) | _ => False
def M25 (T : List Ls) (vs : List Value) (_ : World) : Nat := match vs with | [_, .int _ i] => T.length - i.toNat | _ => 0
/-- what the log's Compact leaves -/
theorem compact_fin {w w1 : World} {base p s t b q : Nat} {S : StS} {D : Dk} (hS : StP w s t b (.pointer (some ⟨q, 0, none⟩)) S) (hq : LogAt 112 w q p) (hd : DkAt 72 w p D) (b1 : base ≤ s) (b2 : base ≤ b) (b3 : base ≤ p) {D' : Dk} (hk1 : Kp (fun k => k = p) w w1) (hd1 : DkAt 72 w1 p D') : PK base w w1 ∧ SA w1 base p s S D' := by
  have hpb := SA.pb hS hd b1 b2 b3
  have np : ∀ {k o}, w.heap[k]? = some o → (∀ cs, o ≠ .cells cs 72 (0, 0)) → ¬ k = p := by
    intro k o ho hne h; subst h
    obtain ⟨x, hx, _⟩ := hd
    rw [ho] at hx; cases hx; exact hne _ rfl
  exact ⟨⟨_, hk1, fun k h => hpb k (.inr (.inr h))⟩, t, b, q, ⟨hk1.at hS.1 (np hS.1 (by simp)), hk1.at hS.2.1 (np hS.2.1 (by simp)), hk1.at hS.2.2 (np hS.2.2 (by simp))⟩, hk1.at hq (np hq (by simp)), hd1, b1, b2, b3⟩
theorem rcompact_fin {w w1 : World} {base p s t q : Nat} {v : Value} {S : StS} {D : Dk} (hS : RStP w s t v (.pointer (some ⟨q, 0, none⟩)) S) (hq : LogAt 123 w q p) (hd : DkAt 54 w p D) (b1 : base ≤ s) (b2 : ∀ k, v.ownBlock = some k → base ≤ k) (b3 : base ≤ p) {D' : Dk} (hk1 : Kp (fun k => k = p) w w1) (hd1 : DkAt 54 w1 p D') : RK base w w1 ∧ RSA w1 base p s S D' := by
  have hpb := RSA.pb hS hd b1 b2 b3
  have np : ∀ {k o}, w.heap[k]? = some o → (∀ cs, o ≠ .cells cs 54 (0, 0)) → ¬ k = p := by
    intro k o ho hne h; subst h
    obtain ⟨x, hx, _⟩ := hd
    rw [ho] at hx; cases hx; exact hne _ rfl
  have hvp : ¬ v.ownBlock = some p := by obtain ⟨x, hx, _⟩ := hd; exact hS.2.2.ne hx (by simp)
  exact ⟨⟨_, hk1, fun k h => hpb k (.inr (.inr h))⟩, t, v, q, ⟨hk1.at hS.1 (np hS.1 (by simp)), hk1.at hS.2.1 (np hS.2.1 (by simp)), hS.2.2.kept hk1 (fun b hb h => hvp (h ▸ hb))⟩, hk1.at hq (np hq (by simp)), hd1, b1, b2, b3⟩
theorem K25 {w : World} {base p s : Nat} {S : StS} {D : Dk} (h : SA w base p s S D) (hD : D.ok) (hok : S.ok) :
    Calls Cz.P 25 #[.pointer (some ⟨s, 0, none⟩)] w (CP (OpPost SA PK base p s (compactS S D) w) (fun _ _ => False)) := by
  refine C25 ?_
  unfold B25
  have hkd : Kp no w w.drew := .drew no _
  obtain ⟨t, b, q, hS, hq, hd, b1, b2, b3⟩ := h
  have hSd := hS.keepN hkd
  simp only [nn_some, addk, Nat.zero_add]
  refine ⟨_, cl hSd.1 rfl, _, cl hSd.1 rfl, (K58 hok.s1 _).mono fun e w1 hp => ?_⟩
  cases e with
  | returned r =>
    obtain ⟨hk1, a8, n9, c10, rfl, ho8⟩ := hp
    refine ⟨_, _, _, rfl, ⟨⟨hk1.cellD hSd.1 nf, trivial⟩, trivial⟩, (K59 hok.l1 _).mono fun e w2 hp => ?_⟩
    cases e with
    | returned r =>
      obtain ⟨hk2, a13, n14, c15, rfl, ho13⟩ := hp
      have z1 := hk1.size
      have z2 := hk2.size
      obtain ⟨a18, n19, c20, w3, hr3, hk3, ho3⟩ := OwnBss.two (own_keep ho8 hk2 .no) (own_base ho13 z1) (by omega)
      have hk03 : Kp no w w3 := ((hkd.then hk1).then hk2).then hk3
      have hS3 := hS.keepN hk03
      refine ⟨_, _, _, rfl, _, _, _, _, hr3, _, cl hS3.1 rfl, (K22 ⟨b, hS3.2⟩ (by have := hok.tab.len; omega) hok.tab.asc).mono fun e w4 hp => ?_⟩
      cases e with
      | returned r =>
        obtain ⟨hk4, a24, n25, c26, rfl, hrd⟩ := hp
        have hlen := hok.tab.len
        have hn := hrd.1.len
        subst hn
        refine ⟨_, _, _, rfl, J25 w.drew (.slice a24 S.tab.length c26) S.tab [stRec S.state, lifeRec S.life], M25 S.tab, ⟨0, rfl, Nat.zero_le _, (hk1.then hk2).then (hk3.then hk4), hrd, by
          have := ho3.keep hk4 .no .no
          simpa [leaseRecs] using this⟩, ?_⟩
        rintro av nv cv x w5 ⟨k, rfl, hk, hk5, hrd5, ho5⟩
        unfold B25_l1
        have hk05 : Kp no w w5 := hkd.then hk5
        have hlr := leaseRecs_len (S.tab.take k)
        rw [List.length_take] at hlr
        refine ifB_dec (fun hlt => ?_) (fun hlt => ?_)
        · have hk' : k < S.tab.length := by omega
          obtain ⟨b5, o5, rfl, _⟩ := hrd5.1.at hk'
          have hi1 : IntKind.i64.wrap ((k : Int) + 1) = ((k + 1 : Nat) : Int) := by rw [wrap64 (by omega) (by omega)]; omega
          have hm : S.tab.length - (IntKind.i64.wrap ((k : Int) + 1)).toNat < S.tab.length - (k : Int).toNat := by rw [hi1]; omega
          have hxr := hok.tab.right _ (List.getElem_mem hk')
          have hxa := hok.tab.lo _ (List.getElem_mem hk')
          have htk := leaseRecs_take hk'
          refine need_and (dec (by omega)) (dec (by omega)) ?_
          rw [nn_some, show (k : Int).toNat = k from rfl]
          refine rdL hrd5.1 hk' (nw_i fun k6 w6 e6 hk6 g6 => stL S.tab[k] (x := bare 0 0 0) g6 fun w7 hk7 g7 => ?_)
          have hk57 : Kp no w5 w7 := hk6.trans hk7 (fun k hk h => by omega)
          have hk57d : Kp no w5 w7.drew := hk57.then (.drew no _)
          have g7d : w7.drew.heap[k6]? = some (.cells S.tab[k].cells 49 (0, 0)) := g7
          refine rd8 (x := S.tab[k]) g7d ⟨_, cl g7d rfl, (K60 _ 0 0 _).mono fun e w8 hp => ?_⟩
          cases e with
          | returned r =>
            obtain ⟨hk8, rfl⟩ := hp
            have hc := fun i => hk8.cellD (i := i) g7d nf
            have hk58 := hk57d.then hk8
            have z5 := hk5.size
            have z58 := hk58.size
            have zw : w.drew.heap.size ≤ w5.heap.size := hk5.size
            refine ⟨_, _, _, _, _, _, _, _, rfl, ⟨⟨hc 0, hc 1, hc 2, hc 3, hc 4, hc 5, hc 6, hc 7, trivial⟩, trivial⟩, ?_⟩
            show ifB (!(eqL S.tab[k] (bare S.tab[k].addr 0 0))) _ _
            have ho58 := ho5.keep hk58 .no .no
            cases hq2 : eqL S.tab[k] (bare S.tab[k].addr 0 0) with
            | true =>
              rw [hq2, if_pos rfl, List.append_nil] at htk
              refine ifB_false.2 ?_
              unfold B25_j1
              exact ⟨⟨k + 1, hi1, hk', hk5.then hk58, hrd5.keep hk58 .no, by rw [htk]; exact ho58⟩, hm⟩
            | false =>
              rw [hq2, if_neg (by simp)] at htk
              refine ifB_true.2 (rd8 (x := S.tab[k]) (hk8.at g7d nf) ((K61 hxr hxa w8).mono fun e w9 hp => ?_))
              cases e with
              | returned r =>
                obtain ⟨hk9, a9, n9', c9, rfl, ho9⟩ := hp
                have z9 := hk9.size
                have ho59 := ho58.keep hk9 .no .no
                obtain ⟨_, _, hx⟩ := ho59.slice
                cases hx
                obtain ⟨a1, n1, c1, w10, hr1, a2, n2, c2, w11, hr2, ho2, hk11⟩ := appBss (ty := 56) ho59 (own_base ho9 (by omega)) (by omega) (by rw [List.length_append]; simp; omega)
                refine ⟨_, _, _, rfl, _, _, _, _, hr1, _, _, _, _, hr2, ?_⟩
                unfold B25_j1
                obtain ⟨ss, hoo, _⟩ := id ho59
                refine ⟨⟨k + 1, hi1, hk', ?_, (hrd5.keep (hk58.then hk9) .no).keep hk11 (NoT.own hoo (by decide)), by rw [htk, ← List.append_assoc]; exact ho2⟩, hm⟩
                exact ((hk5.then hk58).then hk9).trans hk11 (fun j hj hs => by have := ho59.base_le j hs; omega)
              | _ => exact hp
          | _ => exact hp
        · have hk' : k = S.tab.length := by omega
          subst hk'
          rw [List.take_length] at ho5
          have hS5 := hS.keepN hk05
          have hq5 : LogAt 112 w5 q p := hk05.at hq nf
          have hd5 := hd.keep hk05 nf .no
          rw [nn_some]
          refine ⟨_, cl hS5.1 rfl, (K62 hq5 hd5 hD (ho5.base (Nat.zero_le _)) (by have := leaseRecs_len S.tab; rw [List.length_append]; simp; omega)).mono fun e w6 hp => ?_⟩
          cases e with
          | returned r =>
            obtain ⟨hk6, rfl, hd6⟩ := hp
            obtain ⟨f1, f2⟩ := compact_fin hS5 hq5 hd5 b1 b2 b3 hk6 hd6
            exact ⟨_, rfl, .then hk05 f1, rfl, f2⟩
          | _ => exact hp
      | _ => exact hp
    | _ => exact hp
  | _ => exact hp
end Go.Lf
end

section
set_option linter.unusedVariables false
set_option linter.unusedSimpArgs false
namespace Go.Lf
open Go Go.Proofs
def J50a (w : World) (S : StS) (vs : List Value) (w' : World) : Prop := match vs with | [v] => Kp no w w' ∧ OwnBss w' w.heap.size v [stRec S.state, lifeRec S.life] | _ => False
def J50 (w : World) (T : List Ls) (pre : List (List UInt8)) (vs : List Value) (w' : World) : Prop :=
  match vs with | [v, .int _ i] => ∃ k : Nat, i = k ∧ k ≤ T.length ∧ Kp no w w' ∧ OwnBss w' w.heap.size v (pre ++ leaseRecs (T.take k)) | _ => False
theorem rdLk {w w' : World} {q : Addr} {n c : Nat} {xs : List Ls} (h : RdS SL w (.slice (some q) n c) xs) (hk : Kp no w w') {z : Nat} (hz : z < xs.length) :
    w'.cell? (q.add (z * 8)) = w.cell? (q.add (z * 8)) ∧ w'.cell? ((q.add (z * 8)).add 1) = w.cell? ((q.add (z * 8)).add 1) ∧ w'.cell? ((q.add (z * 8)).add 2) = w.cell? ((q.add (z * 8)).add 2) ∧ w'.cell? ((q.add (z * 8)).add 3) = w.cell? ((q.add (z * 8)).add 3) ∧ w'.cell? ((q.add (z * 8)).add 4) = w.cell? ((q.add (z * 8)).add 4) ∧ w'.cell? ((q.add (z * 8)).add 5) = w.cell? ((q.add (z * 8)).add 5) ∧ w'.cell? ((q.add (z * 8)).add 6) = w.cell? ((q.add (z * 8)).add 6) ∧ w'.cell? ((q.add (z * 8)).add 7) = w.cell? ((q.add (z * 8)).add 7) ∧ True := by
  obtain ⟨b, o, hq, hc⟩ := h.at hz
  cases hq
  simp only [addk]
  have key : ∀ j u, (SL.enc xs[z])[j]? = some u → w'.cell? ⟨b, o + z * 8 + j, none⟩ = w.cell? ⟨b, o + z * 8 + j, none⟩ := fun j u hu => (hk.cell (hc j u hu) nf).trans (hc j u hu).symm
  exact ⟨key 0 _ rfl, key 1 _ rfl, key 2 _ rfl, key 3 _ rfl, key 4 _ rfl, key 5 _ rfl, key 6 _ rfl, key 7 _ rfl, trivial⟩
theorem K50 {w : World} {base p s : Nat} {S : StS} {D : Dk} (h : RSA w base p s S D) (hD : D.ok) (hok : S.ok) :
    Calls Cz.P 50 #[.pointer (some ⟨s, 0, none⟩)] w (CP (OpPost RSA RK base p s (compactS S D) w) (fun _ _ => False)) := by
  refine C50 ?_
  unfold B50
  have hkd : Kp no w w.drew := .drew no _
  obtain ⟨t, v, q, hS, hq, hd, b1, b2, b3⟩ := h
  have hSd := hS.keepN hkd
  have hb : Value.int IntKind.u8 (IntKind.u8.wrap S.state) = bv (UInt8.ofNat S.state.toNat) := by rw [bv_ofNat, Int.toNat_of_nonneg hok.s1]
  have hmk : ∀ w', ∃ a n c w'', (Instr.buildSlice 22 2 #[(0, (.int .u8 83)), (1, (.int .u8 (IntKind.u8.wrap S.state)))]).run Cz.P w' = .ok (.slice a n c) w'' ∧ Kp no w' w'' ∧ OwnB w'' w'.heap.size (.slice a n c) (stRec S.state) :=
    fun w' => E22b (w := w') (stRec S.state) (by simp [stRec]) #[(0, (.int .u8 83)), (1, (.int .u8 (IntKind.u8.wrap S.state)))] (by rw [hb]; rfl)
  have hlm : S.life ≤ 9223372036854775807 := by have := hok.l2; omega
  refine ⟨J50a w S, ?_, ?_⟩
  · simp only [nn_some, addk, Nat.zero_add]
    refine ⟨_, cl hSd.1 rfl, _, cl hSd.1 rfl, ?_, ?_⟩
    · obtain ⟨a9, n10, c11, w1, hr1, hk1, ho1⟩ := hmk w.drew
      refine ⟨_, _, _, _, hr1, ⟨⟨hk1.cellD hSd.1 nf, trivial⟩, trivial⟩, (K86 hok.l1 hlm w1).mono fun e w2 hp => ?_⟩
      cases e with
      | returned r =>
        obtain ⟨hk2, a, n, c, rfl, ho2⟩ := hp
        have z1 := hk1.size
        have z2 := hk2.size
        obtain ⟨a18, n19, c20, w3, hr3, hk3, ho3⟩ := OwnBss.two (own_keep ho1 hk2 .no) (own_base ho2 z1) (by omega)
        exact ⟨_, _, _, rfl, _, _, _, _, hr3, ((hkd.then hk1).then hk2).then hk3, ho3⟩
      | _ => exact hp
    · refine (K86 hok.l1 hlm _).mono fun e w1 hp => ?_
      cases e with
      | returned r =>
        obtain ⟨hk1, a, n, c, rfl, ho1⟩ := hp
        obtain ⟨a9, n10, c11, w2, hr2, hk2, ho2⟩ := hmk w1
        have z1 := hk1.size
        have z2 := hk2.size
        obtain ⟨a18, n19, c20, w3, hr3, hk3, ho3⟩ := OwnBss.two (own_base ho2 z1) (own_keep ho1 hk2 .no) (by omega)
        exact ⟨_, _, _, rfl, ⟨⟨hk1.cellD hSd.1 nf, trivial⟩, trivial⟩, _, _, _, _, hr2, _, _, _, _, hr3, ((hkd.then hk1).then hk2).then hk3, ho3⟩
      | _ => exact hp
  · rintro a35 n36 c37 w4 ⟨hk4, ho4⟩
    have hlen := hok.tab.len
    refine ⟨J50 w S.tab [stRec S.state, lifeRec S.life], M25 S.tab, ⟨0, rfl, Nat.zero_le _, hk4, by simpa [leaseRecs] using ho4⟩, ?_⟩
    rintro av nv cv x w5 ⟨k, rfl, hk, hk5, ho5⟩
    unfold B50_l1
    have hS5 := hS.keepN hk5
    have hlr := leaseRecs_len (S.tab.take k)
    rw [List.length_take] at hlr
    obtain ⟨a0, c0, rfl⟩ := hS.2.2.slice
    simp only [nn_some, addk, Nat.zero_add]
    refine ⟨_, cl hS5.1 rfl, _, _, _, cl hS5.2.1 rfl, ifB_dec (fun hlt => ?_) (fun hlt => ?_)⟩
    · have hk' : k < S.tab.length := by omega
      have hk5d : Kp no w5 w5.drew := .drew no _
      have hS5d := hS5.keepN hk5d
      obtain ⟨b5, c5, hx⟩ := hS5d.2.2.slot (by omega)
      cases hx
      have hrd5 := hS5d.2.2.rd
      have hi1 : IntKind.i64.wrap ((k : Int) + 1) = ((k + 1 : Nat) : Int) := by rw [wrap64 (by omega) (by omega)]; omega
      have hm : S.tab.length - (IntKind.i64.wrap ((k : Int) + 1)).toNat < S.tab.length - (k : Int).toNat := by rw [hi1]; omega
      have hxr := hok.tab.right _ (List.getElem_mem hk')
      have hxa := hok.tab.lo _ (List.getElem_mem hk')
      have htk := leaseRecs_take hk'
      have hpos : 0 < S.tab.length := by omega
      have hrd := fun {K} => rdL (K := K) hrd5 hk'

      have hlk := fun {w'} (h : Kp no w5.drew w') => rdLk hrd5 h hk'
      simp only [addk, Nat.zero_add] at hrd hlk
      refine ⟨_, cl hS5d.1 rfl, _, _, _, cl hS5d.2.1 rfl, need_and (dec (by omega)) (dec (by omega)) ?_⟩
      rw [show (k : Int).toNat = k from rfl]
      simp only [nn_some, addk, Nat.zero_add]
      refine hrd ?_
      refine ⟨_, cl hS5d.1 rfl, _, _, _, cl hS5d.2.1 rfl, need_and (dec (by omega)) (dec (by omega)) ⟨_, rdA hrd5 hk', (K77 _ 0 0 _).mono fun e w8 hp => ?_⟩⟩
      cases e with
      | returned r =>
        obtain ⟨hk8, rfl⟩ := hp
        have hk58 := hk5d.then hk8
        have z5 := hk5.size
        have z58 := hk58.size
        have hS8 := hS5.keepN hk58
        refine ⟨_, _, _, _, _, _, _, _, rfl, ⟨hlk hk8, ⟨hk8.cellD hS5d.2.1 nf, trivial⟩, ⟨hk8.cellD hS5d.1 nf, trivial⟩, trivial⟩, ?_⟩
        show ifB (!(eqL S.tab[k] (bare S.tab[k].addr 0 0))) _ _
        have ho58 := ho5.keep hk58 .no .no
        cases hq2 : eqL S.tab[k] (bare S.tab[k].addr 0 0) with
        | true =>
          rw [hq2, if_pos rfl, List.append_nil] at htk
          refine ifB_false.2 ?_
          unfold B50_j1
          exact ⟨⟨k + 1, hi1, hk', hk5.then hk58, by rw [htk]; exact ho58⟩, hm⟩
        | false =>
          rw [hq2, if_neg (by simp)] at htk
          have hrd8 := fun {K} => rdL (K := K) hS8.2.2.rd hk'
          simp only [addk, Nat.zero_add] at hrd8
          refine ifB_true.2 ⟨_, cl hS8.1 rfl, _, _, _, cl hS8.2.1 rfl, need_and (dec (by omega)) (dec (by omega)) ?_⟩
          simp only [nn_some, addk, Nat.zero_add]
          refine hrd8 ?_
          refine (K85 hxr hxa w8).mono fun e w9 hp => ?_
          cases e with
          | returned r =>
            obtain ⟨hk9, a9, n9', c9, rfl, ho9⟩ := hp
            have z9 := hk9.size
            have ho59 := ho58.keep hk9 .no .no
            obtain ⟨_, _, hx⟩ := ho59.slice
            cases hx
            obtain ⟨a1, n1, c1, w10, hr1, a2, n2, c2, w11, hr2, ho2, hk11⟩ := appBss (ty := 56) ho59 (own_base ho9 (by omega)) (by omega) (by rw [List.length_append]; simp; omega)
            refine ⟨_, _, _, rfl, _, _, _, _, hr1, _, _, _, _, hr2, ?_⟩
            unfold B50_j1
            refine ⟨⟨k + 1, hi1, hk', ?_, by rw [htk, ← List.append_assoc]; exact ho2⟩, hm⟩
            exact ((hk5.then hk58).then hk9).trans hk11 (fun j hj hs => by have := ho59.base_le j hs; omega)
          | _ => exact hp
      | _ => exact hp
    · have hk' : k = S.tab.length := by omega
      subst hk'
      rw [List.take_length] at ho5
      have hq5 : LogAt 123 w5 q p := hk5.at hq nf
      have hd5 := hd.keep hk5 nf .no
      refine ⟨_, cl hS5.1 rfl, (K88 hq5 hd5 hD (ho5.base (Nat.zero_le _)) (by have := leaseRecs_len S.tab; rw [List.length_append]; simp; omega)).mono fun e w6 hp => ?_⟩
      cases e with
      | returned r =>
        obtain ⟨hk6, rfl, hd6⟩ := hp
        obtain ⟨f1, f2⟩ := rcompact_fin hS5 hq5 hd5 b1 b2 b3 hk6 hd6
        exact ⟨_, rfl, .then hk5 f1, rfl, f2⟩
      | _ => exact hp
end Go.Lf
end

section
set_option linter.unusedVariables false
set_option linter.unusedSimpArgs false
namespace Go.Lf
open Go Go.Proofs
structure StepV where
  act : Int
  n : Int
  l : Ls
def SSt : SEnc StepV := ⟨10, fun x => [.int .i64 x.act, .int .i64 x.n] ++ x.l.cells.toList, by omega, fun x => rfl, fun x v hv => by simp [Ls.cells] at hv; rcases hv with rfl | rfl | rfl | rfl | rfl | rfl | rfl | rfl | rfl | rfl <;> rfl⟩
def StepV.ok (x : StepV) : Prop := (0 ≤ x.l.addr ∧ x.l.addr < 4294967296) ∧ x.n ≤ 9223372036854775807
def longS (xs : List StepV) : Prop := (∃ x ∈ xs, 200 < x.l.client.size) ∨ 80 < xs.length
def J16 (w : World) (xs : List StepV) (vs : List Value) (w' : World) : Prop := match vs with | [.int _ i] => w' = w ∧ ∃ k : Nat, i = k ∧ k ≤ xs.length ∧ ∀ x ∈ xs.take k, ¬ 200 < x.l.client.size | _ => False
def M16 (xs : List StepV) (vs : List Value) (_ : World) : Nat := match vs with | [.int _ i] => xs.length - i.toNat | _ => 0
theorem K16 {w : World} {a : Option Addr} {n c : Nat} {xs : List StepV} (h : RdS SSt w (.slice a n c) xs) (hl : xs.length ≤ 9223372036854775807) :
    Calls Cz.P 16 #[.slice a n c] w (CP (fun r w' => w' = w ∧ ∃ b : Bool, r = .bool b ∧ (b = true ↔ longS xs)) (fun _ _ => False)) := by
  refine C16 ?_
  have hn := h.len
  subst hn
  unfold B16
  refine ⟨J16 w xs, M16 xs, ⟨rfl, 0, rfl, Nat.zero_le _, by simp⟩, ?_⟩
  rintro i w1 ⟨rfl, k, rfl, hk, hx⟩
  unfold B16_l1
  refine ifB_dec (fun hlt => ?_) (fun hlt => ?_)
  · have hk' : k < xs.length := by omega
    obtain ⟨b, o, rfl, hc⟩ := h.at hk'
    have hi1 : IntKind.i64.wrap ((k : Int) + 1) = ((k + 1 : Nat) : Int) := by rw [wrap64 (by omega) (by omega)]; omega
    refine need_and (dec (by omega)) (dec (by omega)) ?_
    simp only [nn_some, addk]
    rw [show (k : Int).toNat = k from rfl]
    refine ⟨xs[k].l.client, by have := hc 4 _ rfl; rw [show o + k * 10 + 2 + 2 = o + k * 10 + 4 by omega]; exact this, ifB_dec (fun h2 => ?_) (fun h2 => ?_)⟩
    · exact ⟨by trivial, true, rfl, fun _ => .inl ⟨_, List.getElem_mem hk', by omega⟩, fun _ => rfl⟩
    · refine ⟨⟨rfl, k + 1, hi1, hk', ?_⟩, by show xs.length - (IntKind.i64.wrap ((k : Int) + 1)).toNat < xs.length - (k : Int).toNat; rw [hi1]; omega⟩
      rw [List.take_add_one, List.getElem?_eq_getElem hk']
      intro x hx'
      rcases List.mem_append.1 hx' with hx' | hx'
      · exact hx x hx'
      · rw [List.mem_singleton.1 hx']; omega
  · have hk' : k = xs.length := by omega
    subst hk'
    rw [List.take_length] at hx
    refine ⟨rfl, _, rfl, ?_⟩
    rw [decide_eq_true_iff]
    unfold longS
    constructor
    · intro h; exact .inr (by omega)
    · rintro (⟨x, h1, h2⟩ | h1)
      · exact (hx x h1 h2).elim
      · omega
def pool6 : List Rg := [⟨1, 6⟩]
theorem pool6_eq : pool pool6 = pool6 := by
  have h : PoolOf pool6 pool6 := ⟨by decide, by simp [pool6], fun a => Iff.rfl⟩
  exact (pool_ok (rs := pool6) (by decide)).uniq h
theorem pool6_ok : ∀ r ∈ pool6, r.ok := by
  intro r hr
  rw [List.mem_singleton.1 hr]
  exact ⟨by decide, by decide⟩
theorem pool6_err : poolErr pool6 = 0 := by
  unfold poolErr
  rw [pool6_eq]
  decide
theorem openD6 (D : Dk) : openD pool6 D = D.openLog := by unfold openD; rw [pool6_err]; rfl
theorem K17 (w : World) : Calls Cz.P 17 #[] w (CP (fun r w' => Kp no w w' ∧ ∃ a n c, r = .slice a n c ∧ Rgs w' (.slice a n c) pool6) (fun _ _ => False)) := by
  refine C17 ?_
  unfold B17
  have h := builtS (P := Cz.P) E23 (by decide) (by decide) [.int .u32 1, .int .u32 6] rfl w
  exact ⟨_, _, _, _, h, .alloc _ _ _, _, _, _, rfl, SlS.lit (get_alloc_new _ _) rfl⟩
def likeS (S : StS) (D : Dk) (S' : StS) (D' : Dk) : Prop := S.tab = S'.tab ∧ S.state = S'.state ∧ S.life = S'.life ∧ (scan D.b).1.length = (scan D'.b).1.length
def J15 (w : World) (P : Prop) (vs : List Value) (w' : World) : Prop := match vs with | [.bool b] => Kp no w w' ∧ (b = true ↔ P) | _ => False
theorem K15 {w : World} {base base' p p' s t : Nat} {S S' : StS} {D D' : Dk} (h : SA w base p s S D) (hr : RSA w base' p' t S' D') (hD : D.ok) (hD' : D'.ok) (hok : S.ok) (hok' : S'.ok) :
    Calls Cz.P 15 #[.pointer (some ⟨s, 0, none⟩), .pointer (some ⟨t, 0, none⟩)] w (CP (fun r w' => Kp no w w' ∧ ∃ b : Bool, r = .bool b ∧ (b = true ↔ likeS S D S' D')) (fun _ _ => False)) := by
  refine C15 ?_
  unfold B15
  have hkd : Kp no w w.drew := .drew no _
  have hd := h.keepN hkd
  obtain ⟨t0, v0, q0, hR, hq, hdk, _⟩ := hr.keepN hkd
  obtain ⟨av, cv, rfl⟩ := hR.2.2.slice
  have hlen := hok.tab.len
  have hlen' := hok'.tab.len
  simp only [nn_some, addk, Nat.zero_add]
  refine ⟨_, cl hR.1 rfl, _, _, _, cl hR.2.1 rfl, (K21 hd).mono fun e w1 hp => ?_⟩
  cases e with
  | returned r =>
    obtain ⟨rfl, t1, rfl, ht1⟩ := hp
    refine ⟨_, rfl, ⟨⟨rfl, trivial⟩, ⟨rfl, trivial⟩, trivial⟩, (K22 ht1 (by omega) hok.tab.asc).mono fun e w2 hp => ?_⟩
    cases e with
    | returned r =>
      obtain ⟨hk2, a2, n2, c2, rfl, hrd⟩ := hp
      have hR2 := hR.keepN hk2
      refine ⟨_, _, _, rfl, ⟨⟨hk2.cellD hR.2.1 nf, trivial⟩, ⟨hk2.cellD hR.1 nf, trivial⟩, trivial⟩, (K26 hrd.1 hR2.2.2.rd (by omega) (by omega)).mono fun e w3 hp => ?_⟩
      cases e with
      | returned r =>
        obtain ⟨hk3, b, rfl, hb⟩ := hp
        have hk03 : Kp no w w3.drew := (hkd.then (hk2.then hk3)).then (.drew no _)
        have hs3 := h.keepN hk03
        have hR3 : RStP w3.drew t t0 _ _ S' := hR.keepN ((hk2.then hk3).then (.drew no _))
        have hq3 : LogAt 123 w3.drew q0 p' := ((hk2.then hk3).then (.drew no _)).at hq nf
        have hd3 : DkAt 54 w3.drew p' D' := hdk.keep ((hk2.then hk3).then (.drew no _)) nf .no
        refine ⟨_, rfl, J15 w (likeS S D S' D'), ifB_split (fun hbt => ?_) (fun hbf => ?_), ?_⟩
        · have htab := hb.1 hbt
          refine ⟨_, cl hR3.1 rfl, (K23 hs3).mono fun e w4 hp => ?_⟩
          cases e with
          | returned r =>
            obtain ⟨rfl, rfl⟩ := hp
            refine ⟨_, rfl, ⟨⟨rfl, trivial⟩, trivial⟩, ifB_split (fun h1 => ?_) (fun h1 => ⟨trivial, trivial, hk03, ?_⟩)⟩
            · have hst : S.state = S'.state := by simpa using h1
              refine ⟨_, cl hR3.1 rfl, (K24 hs3).mono fun e w5 hp => ?_⟩
              cases e with
              | returned r =>
                obtain ⟨rfl, rfl⟩ := hp
                refine ⟨_, rfl, ⟨⟨rfl, trivial⟩, trivial⟩, ifB_split (fun h2 => ?_) (fun h2 => ⟨trivial, hk03, ?_⟩)⟩
                · have hli : S.life = S'.life := by simpa using h2
                  refine ⟨_, cl hR3.1 rfl, (K27 hs3 hD).mono fun e w6 hp => ?_⟩
                  cases e with
                  | returned r =>
                    obtain ⟨hk6, rfl⟩ := hp
                    refine ⟨_, rfl, ⟨⟨hk6.cellD hR3.1 nf, trivial⟩, trivial⟩, (K44 (p := p') (show LogAt 123 w6 q0 p' from hk6.at hq3 nf) (hd3.keep hk6 nf .no) hD').mono fun e w7 hp => ?_⟩
                    cases e with
                    | returned r =>
                      obtain ⟨hk7, a7, n7, c7, rfl, ho7⟩ := hp
                      obtain ⟨_, _, hx⟩ := ho7.slice
                      cases hx
                      refine ⟨_, _, _, rfl, (hk03.then hk6).then hk7, ?_⟩
                      unfold likeS
                      rw [beq_iff_eq]
                      constructor
                      · intro h; exact ⟨htab, hst, hli, by omega⟩
                      · rintro ⟨_, _, _, h⟩; rw [h]
                    | _ => exact hp
                  | _ => exact hp
                · have : ¬ S.life = S'.life := by simpa using h2
                  exact ⟨fun h => (by cases h), fun h => (this h.2.2.1).elim⟩
              | _ => exact hp
            · have : ¬ S.state = S'.state := by simpa using h1
              exact ⟨fun h => (by cases h), fun h => (this h.2.1).elim⟩
          | _ => exact hp
        · refine ⟨trivial, trivial, trivial, hk03, fun h => (by cases h), fun h => ?_⟩
          have := hb.2 h.1
          rw [hbf] at this; cases this
        · rintro b44 w45 ⟨hk, hiff⟩
          exact ⟨hk, _, rfl, hiff⟩
      | _ => exact hp
    | _ => exact hp
  | _ => exact hp
end Go.Lf
end
