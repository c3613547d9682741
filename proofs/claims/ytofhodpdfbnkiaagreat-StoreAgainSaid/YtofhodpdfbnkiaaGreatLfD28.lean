/- Part 28 of the lemmas that a proof leans on; no claim is made here. By an AI agent. -/
import Derived.Test.YtofhodpdfbnkiaaGreatLfD10
import Derived.Test.YtofhodpdfbnkiaaGreatLfD11
import Derived.Test.YtofhodpdfbnkiaaGreatLfD14
import Derived.Test.YtofhodpdfbnkiaaGreatLfD15
import Derived.Test.YtofhodpdfbnkiaaGreatLfD17
import Derived.Test.YtofhodpdfbnkiaaGreatLfD20
import Derived.Test.YtofhodpdfbnkiaaGreatLfD25
import Derived.Test.YtofhodpdfbnkiaaGreatLfD27
section
set_option linter.unusedVariables false
set_option linter.unusedSimpArgs false
namespace Go.Lf
open Go Go.Proofs
/-- a world behind w, where the zero lease lies at k5 -/
def Q80 (w : World) (k5 : Nat) (w' : World) : Prop := Kp no w w' ∧ w.heap.size ≤ k5 ∧ w'.heap[k5]? = some (.cells (bare 0 0 0).cells 49 (0, 0))
def J80 (l : List UInt8) (w : World) (k5 : Nat) (vs : List Value) (w' : World) : Prop :=
  match vs with | [.pointer (some q)] => ∃ k, q = ⟨k, 0, none⟩ ∧ k ≠ k5 ∧ Q80 w k5 w' ∧ w'.heap[k]? = some (.cells (lsOf l).cells 49 (0, 0)) | _ => False
theorem s112 {w1 : World} {a : Value} {x : Int} {q : Addr} (h : Calls Cz.P 112 #[a] w1 (CP (fun r w' => w' = w1 ∧ r = .int .i64 x) (fun _ _ => False))) {Rest : Int → World → Prop} (hr : Rest x w1) :
    Calls Cz.P 112 #[a] w1 (CP (fun r w' => ∃ y : Int, r = .int .i64 y ∧ ((w'.cell? q = w1.cell? q ∧ True) ∧ True) ∧ Rest y w') (fun _ _ => False)) := by
  refine h.mono fun e w' hp => ?_
  cases e with
  | returned r => obtain ⟨rfl, rfl⟩ := hp; exact ⟨_, rfl, ⟨⟨rfl, trivial⟩, trivial⟩, hr⟩
  | _ => exact hp
theorem sConv {w1 : World} {q : Addr} {X : Sem Value} {s : ByteArray} (h : Sem.run Cz.P X w1 = .ok (.string s) w1) {Rest : ByteArray → World → Prop} (hr : Rest s w1) :
    ∃ (t : ByteArray), ∃ w' : World, Sem.run Cz.P X w1 = .ok (.string t) w' ∧ ((w'.cell? q = w1.cell? q ∧ True) ∧ True) ∧ Rest t w' := ⟨s, w1, h, ⟨⟨rfl, trivial⟩, trivial⟩, hr⟩
theorem sNw {w w1 : World} {k5 : Nat} {q : Addr} {v : Value} (hq : w1.cell? q = some v) (h : Q80 w k5 w1) {Rest : Nat → World → Prop}
    (hr : ∀ k w', Q80 w k5 w' → w'.cell? q = some v → k ≠ k5 → w.heap.size ≤ k → w'.heap[k]? = some (.cells (bare 0 0 0).cells 49 (0, 0)) → Rest k w') :
    nw w1 (.cells #[(.int .u32 0), (.int .i64 0), (.string ⟨#[]⟩), (.int .i64 0), (.int .i64 0), (.int .i64 0), (.int .i64 0), (.int .i64 0)] 49) fun k w' => ((w'.cell? q = w1.cell? q ∧ True) ∧ True) ∧ Rest k w' := by
  refine nw_i fun k w' ek hk hg => ⟨⟨⟨(hk.cell hq nf).trans hq.symm, trivial⟩, trivial⟩, ?_⟩
  have h5 := lt_of_get h.2.2
  exact hr k w' ⟨h.1.then hk, h.2.1, hk.at h.2.2 nf⟩ (hk.cell hq nf) (by omega) (by rw [ek]; exact h.1.size) hg
theorem K80 {w : World} {a : Option Addr} {n c : Nat} {l : List UInt8} (hv : Bs w (.slice a n c) l) (hl : l.length ≤ 1000000) : Calls Cz.P 80 #[.slice a n c] w (CP (DecPost l w) (fun _ _ => False)) := by
  refine C80 ?_
  have hn := hv.cap.1
  have hcap := hv.cap.2
  subst hn
  unfold B80
  refine nw_i fun k5 w1 e5 hk1 g5 => ?_
  have hz1 := hk1.size
  have bad : decOk l = false → ∀ w2, Q80 w k5 w2 → ∀ q, B80_j1 (DecPost l w) k5 q true w2 := by
    intro hd w2 hQ q
    obtain ⟨hk2, hl5, h5⟩ := hQ
    unfold B80_j1
    refine ifB_true.2 (st8 h5 fun w3 hk3 h2 => ⟨_, _, _, _, _, _, _, _, ⟨cl h2 rfl, cl h2 rfl, cl h2 rfl, cl h2 rfl, cl h2 rfl, cl h2 rfl, cl h2 rfl, cl h2 rfl, trivial⟩, hk2.trans hk3 (fun b hb h => by omega), .inr ⟨hd, rfl⟩⟩)
  have hQ1 : Q80 w k5 w1 := ⟨hk1, by omega, g5⟩
  refine ifB_dec (fun h => ?_) (fun h => ?_)
  · have := bad (by unfold decOk; rw [decide_eq_false (by omega)]; rfl) w1 hQ1 ⟨0, 0, none⟩
    unfold B80_j1 at this
    exact ifB_true.1 this
  have h36 : 36 ≤ l.length := by omega
  have hQd : Q80 w k5 w1.drew := ⟨hk1.then (.drew no _), hQ1.2⟩
  have hvd := hv.keepN hQd.1
  obtain ⟨q, rfl, hc4⟩ := hvd.at (i := 4) (by omega)
  have hb4 := bt_lt (l.getD 4 0)
  have hs : ∀ w', Q80 w k5 w' → (convert 22 9 (.slice (slA (some q) 36 c 1) ((l.length : Int).toNat - 36) (c - 36))).run Cz.P w' = .ok (.string ⟨(l.drop 36).toArray⟩) w' := by
    intro w' hk
    have := strB ((hv.keepN hk.1).cut (lo := 36) (hi := l.length) (by omega) (Nat.le_refl _))
    rw [Int.toNat_natCast, this, List.take_of_length_le (by rw [List.length_drop]; exact Nat.le_refl _)]
  have hof : ∀ (i j : Nat), i ≤ j → j ≤ i + 7 → j ≤ l.length → ∀ w', Q80 w k5 w' → Calls Cz.P 112 #[.slice (slA (some q) i c 1) (j - i) (c - i)] w' (CP (fun r w'' => w'' = w' ∧ r = .int .i64 ((fld l i (j - i) : Nat) : Int)) (fun _ _ => False)) := by
    intro i j h1 h2 h3 w' hk
    exact K112 ((hv.keepN hk.1).cut (lo := i) (hi := j) h1 h3) (by rw [List.length_take, List.length_drop]; omega)
  have ha := hof 0 4 (by omega) (by omega) (by omega)
  have hb := hof 5 11 (by omega) (by omega) (by omega)
  have hcc := hof 11 17 (by omega) (by omega) (by omega)
  have hd := hof 17 23 (by omega) (by omega) (by omega)
  have he := hof 23 29 (by omega) (by omega) (by omega)
  have hf := hof 29 35 (by omega) (by omega) (by omega)
  have fin : ∀ k w', Q80 w k5 w' → k ≠ k5 → w.heap.size ≤ k → w'.heap[k]? = some (.cells (bare 0 0 0).cells 49 (0, 0)) →
      st w' ⟨k, 0, none⟩ (.int .u32 (IntKind.u32.wrap ((fld l 0 (4 - 0) : Nat) : Int))) fun w49 => st w49 ⟨k, 1, none⟩ (.int .i64 (IntKind.i64.wrap ((l.getD 4 0).toNat : Int))) fun w50 => st w50 ⟨k, 2, none⟩ (.string ⟨(l.drop 36).toArray⟩) fun w51 => st w51 ⟨k, 3, none⟩ (.int .i64 ((fld l 5 (11 - 5) : Nat) : Int)) fun w52 => st w52 ⟨k, 4, none⟩ (.int .i64 ((fld l 11 (17 - 11) : Nat) : Int)) fun w53 => st w53 ⟨k, 5, none⟩ (.int .i64 ((fld l 17 (23 - 17) : Nat) : Int)) fun w54 => st w54 ⟨k, 6, none⟩ (.int .i64 ((fld l 23 (29 - 23) : Nat) : Int)) fun w55 => st w55 ⟨k, 7, none⟩ (.int .i64 ((fld l 29 (35 - 29) : Nat) : Int)) fun w56 => J80 l w k5 [(.pointer (some ⟨k, 0, none⟩))] w56 := by
    intro k w' hQ hne hle hg
    refine st8 hg fun w2 hk2 h2 => ⟨k, rfl, hne, ⟨hQ.1.trans hk2 (fun b hb h => by omega), hQ.2.1, hk2.at hQ.2.2 (fun h => hne h.symm)⟩, ?_⟩
    rw [h2]
    have hlt : fld l 0 (4 - 0) < 4294967296 := fld_lt l 0 4
    rw [IntKind.wrap_u32, wrap64 (by omega) (by omega), Int.emod_eq_of_lt (by omega) (by omega)]
    rfl
  refine ⟨J80 l w k5, ?_, ?_⟩
  · refine need_and rfl (dec (by omega)) (need_and (dec (by omega)) (dec (by omega)) ?_)
    rw [nn_some]
    refine ⟨_, hc4, need_and rfl (dec (by omega)) (need_and rfl (dec (by omega)) (need_and rfl (dec (by omega)) (need_and rfl (dec (by omega)) (need_and rfl (dec (by omega)) (need_and (dec (by omega)) (dec (by omega)) (need_and rfl (dec (by omega)) ?_))))))⟩
    clear hof bad
    generalize w1.drew = w1d at *
    repeat' first
      | exact fin _ _ ‹_› ‹_› ‹_› ‹_›
      | with_reducible apply And.intro
      | with_reducible refine s112 (ha _ (by assumption)) ?_
      | with_reducible refine s112 (hb _ (by assumption)) ?_
      | with_reducible refine s112 (hcc _ (by assumption)) ?_
      | with_reducible refine s112 (hd _ (by assumption)) ?_
      | with_reducible refine s112 (he _ (by assumption)) ?_
      | with_reducible refine s112 (hf _ (by assumption)) ?_
      | with_reducible refine sConv (hs _ (by assumption)) ?_
      | (with_reducible refine sNw (by assumption) (by assumption) ?_; intro k w' hQ hc hne hle hg)
  · rintro q' w2 ⟨k, rfl, hne, hQ, hg⟩
    refine ⟨_, _, _, _, _, _, _, _, ⟨cl hg rfl, cl hg rfl, cl hg rfl, cl hg rfl, cl hg rfl, cl hg rfl, cl hg rfl, cl hg rfl, trivial⟩, ?_⟩
    have hlt := fld_lt l 0 4
    refine (K113 (x := lsOf l) ⟨by show (0 : Int) ≤ ((fld l 0 4 : Nat) : Int); omega, by show ((fld l 0 4 : Nat) : Int) < 4294967296; omega⟩ w2).mono fun e w3 hp => ?_
    cases e with
    | returned r =>
      obtain ⟨hk3, hp⟩ := hp
      have hQ3 : Q80 w k5 w3 := ⟨hQ.1.then hk3, hQ.2.1, hk3.at hQ.2.2 nf⟩
      have hg3 := hk3.at hg nf
      rcases hp with ⟨hr, rfl⟩ | ⟨hr, a', n', c', rfl, ho⟩
      · exact ⟨_, _, _, _, rfl, ifB_true.2 (bad (by unfold decOk; rw [hr]; simp) _ hQ3 _)⟩
      · refine ⟨_, _, _, _, rfl, ifB_false.2 ⟨_, _, strB ho.bs, _, _, strB (hv.keepN hQ3.1), ?_⟩⟩
        have hi := dec_iff h36 hr
        rw [ByteArray.toList_eq, ByteArray.toList_eq]
        cases hcmp : (lsOf l).enc == l with
        | true =>
          have heq : (lsOf l).enc = l := by simpa using hcmp
          have hd : decOk l = true := by unfold decOk; rw [hr, decide_eq_true h36, decide_eq_true (hi.1 heq)]; rfl
          show B80_j1 _ _ _ false w3
          unfold B80_j1
          refine ifB_false.2 ⟨_, _, _, _, _, _, _, _, ⟨cl hg3 rfl, cl hg3 rfl, cl hg3 rfl, cl hg3 rfl, cl hg3 rfl, cl hg3 rfl, cl hg3 rfl, cl hg3 rfl, trivial⟩, st8 hQ3.2.2 fun w4 hk4 h2 => ⟨_, _, _, _, _, _, _, _, ⟨cl h2 rfl, cl h2 rfl, cl h2 rfl, cl h2 rfl, cl h2 rfl, cl h2 rfl, cl h2 rfl, cl h2 rfl, trivial⟩, hQ3.1.trans hk4 (fun b hb h => by have := hQ.2.1; omega), .inl ⟨hd, rfl⟩⟩⟩
        | false =>
          have hne' : ¬ (lsOf l).enc = l := by simpa using hcmp
          exact bad (by unfold decOk; rw [decide_eq_false (fun h => hne' (hi.2 h))]; simp) _ hQ3 _
    | _ => exact hp
end Go.Lf
end

section
set_option linter.unusedVariables false
set_option linter.unusedSimpArgs false
namespace Go.Lf
open Go Go.Proofs
/-- what a store knows -/
structure StS where
  tab : List Ls
  state : Int
  life : Int
def doRec (S : StS) (l : List UInt8) : StS :=
  match l with
  | [] => S
  | c :: m =>
    if c = 76 then (if decOk m = true then { S with tab := (setT S.tab (lsOf m)).2 } else S)
    else if c = 83 ∧ m.length = 1 ∧ (m.getD 0 0).toNat ≤ 8 then { S with state := (m.getD 0 0).toNat }
    else if c = 70 ∧ m.length = 4 then (if ofB m ≤ 536870912 then { S with life := ofB m } else S)
    else S
def StP (w : World) (s t b : Nat) (v0 : Value) (S : StS) : Prop := w.heap[s]? = some (.cells #[v0, .pointer (some ⟨t, 0, none⟩), .int .i64 S.state, .int .i64 S.life] 81 (0, 0)) ∧ w.heap[t]? = some (.cells #[.map (some b)] 110 (0, 0)) ∧ MapAt w b S.tab
def RStP (w : World) (s t : Nat) (v v0 : Value) (S : StS) : Prop := w.heap[s]? = some (.cells #[v0, .pointer (some ⟨t, 0, none⟩), .int .i64 S.state, .int .i64 S.life] 92 (0, 0)) ∧ w.heap[t]? = some (.cells #[v] 94 (0, 0)) ∧ OwnS SL 49 w 0 v S.tab
theorem StP.keepN {w w' : World} {s t b : Nat} {v0 : Value} {S : StS} (h : StP w s t b v0 S) (k : Kp no w w') : StP w' s t b v0 S := ⟨k.at h.1 nf, k.at h.2.1 nf, k.at h.2.2 nf⟩
theorem RStP.keepN {w w' : World} {s t : Nat} {v v0 : Value} {S : StS} (h : RStP w s t v v0 S) (k : Kp no w w') : RStP w' s t v v0 S := ⟨k.at h.1 nf, k.at h.2.1 nf, h.2.2.keep k .no⟩
theorem StP.ne {w : World} {s t b : Nat} {v0 : Value} {S : StS} (h : StP w s t b v0 S) : s ≠ t ∧ s ≠ b ∧ t ≠ b := by
  obtain ⟨h1, h2, h3⟩ := h
  unfold MapAt at h3
  refine ⟨?_, ?_, ?_⟩ <;> intro h <;> subst h
  · rw [h1] at h2; cases h2
  · rw [h1] at h3; cases h3
  · rw [h2] at h3; cases h3
theorem RStP.ne {w : World} {s t : Nat} {v v0 : Value} {S : StS} (h : RStP w s t v v0 S) : s ≠ t ∧ ¬ v.ownBlock = some s ∧ ¬ v.ownBlock = some t := by
  obtain ⟨h1, h2, h3⟩ := h
  refine ⟨?_, h3.ne h1 (by simp), h3.ne h2 (by simp)⟩
  intro h; subst h
  rw [h1] at h2; cases h2
/-- a lease is set -/
theorem K73S {w : World} {s t b : Nat} {v0 : Value} {S : StS} (h : StP w s t b v0 S) (x : Ls) :
    Calls Cz.P 73 #[.pointer (some ⟨t, 0, none⟩), x.val] w (CP (fun r w' => Kp (fun k => k = s ∨ k = b) w w' ∧ r = .int .i64 (setT S.tab x).1 ∧ StP w' s t b v0 { S with tab := (setT S.tab x).2 }) (fun _ _ => False)) := by
  obtain ⟨n1, n2, n3⟩ := h.ne
  refine (K73 h.2.1 h.2.2 x).mono fun e w1 hp => ?_
  cases e with
  | returned r =>
    obtain ⟨hk, rfl, hm⟩ := hp
    exact ⟨hk.mono (fun _ _ h => .inr h), rfl, hk.at h.1 n2, hk.at h.2.1 n3, hm⟩
  | _ => exact hp
theorem K81S {w : World} {s t : Nat} {v v0 : Value} {S : StS} (h : RStP w s t v v0 S) (hl : S.tab.length ≤ 1048576) (x : Ls) :
    Calls Cz.P 81 #[.pointer (some ⟨t, 0, none⟩), x.val] w (CP (fun r w' => Kp (fun k => k = s ∨ v.ownBlock = some k) w w' ∧ r = .int .i64 (setT S.tab x).1 ∧ RStP w' s t v v0 { S with tab := (setT S.tab x).2 }) (fun _ _ => False)) := by
  obtain ⟨n1, n2, n3⟩ := h.ne
  refine (K81 (T := S.tab) ⟨v, h.2.1, h.2.2⟩ hl x).mono fun e w1 hp => ?_
  cases e with
  | returned r =>
    obtain ⟨⟨v', hv', hk⟩, rfl, v'', h1, h2⟩ := hp
    have hv := h.2.1
    rw [hv'] at hv
    cases hv
    have := hk.at hv' n3
    rw [this] at h1
    cases h1
    exact ⟨hk.mono (fun _ _ h => .inr h), rfl, hk.at h.1 n2, this, h2⟩
  | _ => exact hp
theorem add0 (q : Addr) : q.add 0 = q := rfl
theorem u8i (c : UInt8) (n : Nat) (hn : n < 256) : ((c.toNat : Int) == (n : Int)) = decide (c = UInt8.ofNat n) := by
  rw [Bool.eq_iff_iff, beq_iff_eq, decide_eq_true_iff]
  constructor
  · intro h; apply UInt8.toNat_inj.1; simp; omega
  · intro h; subst h; simp; omega
theorem tailBs {w : World} {a : Option Addr} {c : Nat} {x : UInt8} {m : List UInt8} (h : Bs w (.slice a (x :: m).length c) (x :: m)) : Bs w (.slice (slA a 1 c 1) m.length (c - 1)) m := by
  have := h.cut (lo := 1) (hi := (x :: m).length) (by simp) (Nat.le_refl _)
  simp only [List.length_cons, Nat.add_sub_cancel, List.drop_succ_cons, List.drop_zero, List.take_length] at this
  exact this
def J41 (m : List UInt8) (w : World) (vs : List Value) (w' : World) : Prop := match vs with | [.int _ x, .int _ i] => w' = w ∧ ∃ k : Nat, i = k ∧ k ≤ m.length ∧ x = (ofB (m.take k) : Nat) | _ => False
def M41 (m : List UInt8) (vs : List Value) (_ : World) : Nat := match vs with | [_, .int _ i] => m.length - i.toNat | _ => 0
def Post41 (w : World) (s t b : Nat) (v0 : Value) (S : StS) (r : Value) (w' : World) : Prop := r = .tuple #[] ∧ Kp (fun k => k = s ∨ k = b) w w' ∧ StP w' s t b v0 S
theorem ofB_take {m : List UInt8} {k : Nat} (h : k < m.length) : ofB (m.take (k + 1)) = ofB (m.take k) * 256 + (m.getD k 0).toNat := by
  rw [List.take_add_one, List.getElem?_eq_getElem h]
  simp only [Option.toList]
  rw [ofB_snoc, List.getD_eq_getElem?_getD, List.getElem?_eq_getElem h]
  rfl
theorem K41 {w : World} {s t b : Nat} {v0 : Value} {S : StS} {a : Option Addr} {n c : Nat} {l : List UInt8} (h : StP w s t b v0 S) (hv : Bs w (.slice a n c) l) (h1 : 1 ≤ l.length) (h2 : l.length ≤ 1000000) :
    Calls Cz.P 41 #[.pointer (some ⟨s, 0, none⟩), .slice a n c] w (CP (Post41 w s t b v0 (doRec S l)) (fun _ _ => False)) := by
  refine C41 ?_
  have hn := hv.cap.1
  have hcap := hv.cap.2
  subst hn
  obtain ⟨x, m, rfl⟩ : ∃ x m, l = x :: m := by cases l with | nil => simp at h1 | cons x m => exact ⟨x, m, rfl⟩
  unfold B41
  obtain ⟨q, rfl, hc0⟩ := hv.at (i := 0) (by simp)
  rw [add0] at hc0
  have ht := tailBs hv
  have hml : m.length + 1 = (x :: m).length := rfl
  have e0 : ((((x :: m).length : Nat) : Int)).toNat - 1 = m.length := by simp
  obtain ⟨n1, n2, n3⟩ := h.ne
  have stay : ∀ {Rt : Value → World → Prop}, Rt (.tuple #[]) w → B41_j1 Rt w := fun h => h
  have same : doRec S (x :: m) = S → Post41 w s t b v0 (doRec S (x :: m)) (.tuple #[]) w := fun e => ⟨rfl, .refl _ _, by rw [e]; exact h⟩
  rw [e0]
  refine need_and (dec (by omega)) (dec (by omega)) (need_and rfl (dec (by omega)) (need_and (dec (by omega)) (dec (by omega)) ?_))
  simp only [nn_some, addk, Nat.zero_add]
  refine ⟨_, hc0, ?_⟩
  rw [show (((List.getD (x :: m) 0 0).toNat : Int) == 76) = decide (x = 76) from u8i x 76 (by omega)]
  refine ifB_dec (fun hx => ?_) (fun hx => ?_)
  · refine (K72 ht (by omega)).mono fun e w17 hp => ?_
    cases e with
    | returned r =>
      obtain ⟨hk17, ⟨hd, rfl⟩ | ⟨hd, rfl⟩⟩ := hp
      · refine ⟨_, _, _, _, _, _, _, _, _, rfl, nw_i fun k w20 e20 hk20 g20 => stL (lsOf m) (x := bare 0 0 0) g20 fun w28 hk28 g28 => ?_⟩
        have hk028 : Kp no w w28 := (hk17.then hk20).trans hk28 (fun k hk h => by have := hk17.size; omega)
        have hkd : Kp no w w28.drew := hk028.then (.drew no _)
        have g28d : w28.drew.heap[k]? = some (.cells (lsOf m).cells 49 (0, 0)) := g28
        have hS := h.keepN hkd
        refine ifB_true.2 ⟨_, cl hS.1 rfl, rd8 (x := lsOf m) g28d ((K73S hS (lsOf m)).mono fun e w41 hp => ?_)⟩
        cases e with
        | returned r =>
          obtain ⟨hk41, rfl, hS41⟩ := hp
          refine ⟨_, rfl, ?_⟩
          show Post41 w s t b v0 (doRec S (x :: m)) (.tuple #[]) w41
          refine ⟨rfl, hkd.then hk41, ?_⟩
          have : doRec S (x :: m) = { S with tab := (setT S.tab (lsOf m)).2 } := by unfold doRec; simp only; rw [if_pos hx, if_pos hd]
          rw [this]; exact hS41
        | _ => exact hp
      · refine ⟨_, _, _, _, _, _, _, _, _, rfl, nw_i fun k w20 e20 hk20 g20 => stL (bare 0 0 0) (x := bare 0 0 0) g20 fun w28 hk28 g28 => ifB_false.2 ?_⟩
        have hk028 : Kp no w w28 := (hk17.then hk20).trans hk28 (fun k hk h => by have := hk17.size; omega)
        show Post41 w s t b v0 (doRec S (x :: m)) (.tuple #[]) w28
        refine ⟨rfl, hk028.mono (fun _ _ h => h.elim), ?_⟩
        have : doRec S (x :: m) = S := by unfold doRec; simp only; rw [if_pos hx, if_neg (by rw [hd]; simp)]
        rw [this]; exact h.keepN hk028
    | _ => exact hp
  · refine need_and (dec (by omega)) (dec (by omega)) ⟨_, hc0, ?_⟩
    have life : ∀ hx83 : ¬ (x = 83 ∧ m.length = 1 ∧ (m.getD 0 0).toNat ≤ 8), B41_j2 (Post41 w s t b v0 (doRec S (x :: m))) (some ⟨s, 0, none⟩) (some q) (x :: m).length c false w := by
      intro hx83
      unfold B41_j2
      simp only [nn_some, addk, Nat.zero_add]
      rw [e0]
      refine ifB_false.2 (need_and (dec (by omega)) (dec (by omega)) ⟨_, hc0, ?_⟩)
      rw [show (((List.getD (x :: m) 0 0).toNat : Int) == 70) = decide (x = 70) from u8i x 70 (by omega)]
      refine ifB_dec (fun h70 => ?_) (fun h70 => ?_)
      · unfold B41_j3
        refine ifB_split (fun h4 => ?_) (fun h4 => ?_)
        · have h4 : m.length = 4 := by have : (m.length : Int) = 4 := by simpa using h4
                                       omega
          refine ⟨J41 m w, M41 m, ⟨rfl, 0, rfl, Nat.zero_le _, rfl⟩, ?_⟩
          rintro x60 x61 w62 ⟨rfl, k, rfl, hk, rfl⟩
          unfold B41_l1
          rw [e0]
          have hlt := ofB_lt (m.take k)
          rw [List.length_take, Nat.min_eq_left hk] at hlt
          refine ifB_dec (fun hkm => ?_) (fun hkm => ?_)
          · have hkm : k < m.length := by omega
            obtain ⟨q2, hq2, hc2⟩ := ht.at hkm
            rw [hq2]
            have hbl := bt_lt (m.getD k 0)
            have hp : (256 : Nat) ^ k ≤ 256 ^ 3 := Nat.pow_le_pow_right (by omega) (by omega)
            have hi1 : IntKind.i64.wrap ((k : Int) + 1) = ((k + 1 : Nat) : Int) := by rw [wrap64 (by omega) (by omega)]; omega
            refine need_and (dec (by omega)) (dec (by omega)) ?_
            rw [nn_some, show (k : Int).toNat * 1 = k by omega]
            refine ⟨_, hc2, ?_⟩
            rw [or8i (a := ofB (m.take k)) (by omega) hbl, ← ofB_take hkm]
            refine ⟨⟨rfl, k + 1, hi1, hkm, rfl⟩, ?_⟩
            show m.length - (IntKind.i64.wrap ((k : Int) + 1)).toNat < m.length - (k : Int).toNat
            rw [hi1]; omega
          · have hkm : k = m.length := by omega
            subst hkm
            rw [List.take_length]
            simp only [nn_some, addk, Nat.zero_add]
            refine ifB_dec (fun h5 => st_i h.1 (by simp) fun w66 hk66 g66 => ?_) (fun h5 => ?_)
            · show Post41 w62 s t b v0 (doRec S (x :: m)) (.tuple #[]) w66
              have : doRec S (x :: m) = { S with life := (ofB m : Nat) } := by
                unfold doRec; simp only; rw [if_neg hx, if_neg hx83, if_pos ⟨h70, h4⟩, if_pos (by omega)]
              rw [this]
              exact ⟨rfl, hk66.mono (fun _ _ h => .inl h), g66, hk66.at h.2.1 (fun h => n1 h.symm), hk66.at h.2.2 (fun h => n2 h.symm)⟩
            · have : doRec S (x :: m) = S := by
                unfold doRec; simp only; rw [if_neg hx, if_neg hx83, if_pos ⟨h70, h4⟩, if_neg (by omega)]
              exact same this
        · have h4 : ¬ m.length = 4 := by intro h; rw [h] at h4; simp at h4
          have : doRec S (x :: m) = S := by
            unfold doRec; simp only; rw [if_neg hx, if_neg hx83, if_neg (fun h => h4 h.2)]
          exact same this
      · unfold B41_j3
        have : doRec S (x :: m) = S := by
          unfold doRec; simp only; rw [if_neg hx, if_neg hx83, if_neg (fun h => h70 h.1)]
        exact ifB_false.2 (same this)
    rw [show (((List.getD (x :: m) 0 0).toNat : Int) == 83) = decide (x = 83) from u8i x 83 (by omega)]
    refine ifB_dec (fun h83 => ifB_split (fun h1' => ?_) (fun h1' => ?_)) (fun h83 => life (fun h => h83 h.1))
    · have h1m : m.length = 1 := by have : (m.length : Int) = 1 := by simpa using h1'
                                    omega
      obtain ⟨q2, hq2, hc2⟩ := ht.at (i := 0) (by omega)
      rw [add0] at hc2
      rw [hq2]
      refine need_and (dec (by omega)) (dec (by omega)) ?_
      rw [nn_some]
      refine ⟨_, hc2, ?_⟩
      by_cases h8 : (m.getD 0 0).toNat ≤ 8
      · rw [decide_eq_true (show ((m.getD 0 0).toNat : Int) ≤ 8 by omega)]
        unfold B41_j2
        rw [e0, hq2]
        simp only [nn_some, addk, Nat.zero_add]
        refine ifB_true.2 (need_and (dec (by omega)) (dec (by omega)) ⟨_, hc2, st_i h.1 (by simp) fun w53 hk53 g53 => ?_⟩)
        show Post41 w s t b v0 (doRec S (x :: m)) (.tuple #[]) w53
        have : doRec S (x :: m) = { S with state := ((m.getD 0 0).toNat : Nat) } := by
          unfold doRec; simp only; rw [if_neg hx, if_pos ⟨h83, h1m, h8⟩]
        rw [this]
        rw [wrap64 (by omega) (by omega)] at g53
        exact ⟨rfl, hk53.mono (fun _ _ h => .inl h), g53, hk53.at h.2.1 (fun h => n1 h.symm), hk53.at h.2.2 (fun h => n2 h.symm)⟩
      · rw [decide_eq_false (show ¬ ((m.getD 0 0).toNat : Int) ≤ 8 by omega)]
        exact life (fun h => h8 h.2.2)
    · exact life (fun h => by rw [h.2.1] at h1'; simp at h1')
end Go.Lf
end

section
set_option linter.unusedVariables false
set_option linter.unusedSimpArgs false
namespace Go.Lf
open Go Go.Proofs
def J45 (m : List UInt8) (w : World) (vs : List Value) (w' : World) : Prop := match vs with | [.int _ x, .int _ i] => w' = w ∧ ∃ k : Nat, i = ((k + 1 : Nat) : Int) ∧ k ≤ m.length ∧ x = (ofB (m.take k) : Nat) | _ => False
def M45 (m : List UInt8) (vs : List Value) (_ : World) : Nat := match vs with | [_, .int _ i] => m.length + 1 - i.toNat | _ => 0
def Post45 (w : World) (s t : Nat) (v v0 : Value) (S : StS) (r : Value) (w' : World) : Prop := r = .tuple #[] ∧ Kp (fun k => k = s ∨ v.ownBlock = some k) w w' ∧ RStP w' s t v v0 S
theorem K45 {w : World} {s t : Nat} {v v0 : Value} {S : StS} {a : Option Addr} {n c : Nat} {l : List UInt8} (h : RStP w s t v v0 S) (hT : S.tab.length ≤ 1048576) (hv : Bs w (.slice a n c) l) (h1 : 1 ≤ l.length) (h2 : l.length ≤ 1000000) :
    Calls Cz.P 45 #[.pointer (some ⟨s, 0, none⟩), .slice a n c] w (CP (Post45 w s t v v0 (doRec S l)) (fun _ _ => False)) := by
  refine C45 ?_
  have hn := hv.cap.1
  have hcap := hv.cap.2
  subst hn
  obtain ⟨x, m, rfl⟩ : ∃ x m, l = x :: m := by cases l with | nil => simp at h1 | cons x m => exact ⟨x, m, rfl⟩
  unfold B45
  obtain ⟨q, rfl, hc0⟩ := hv.at (i := 0) (by simp)
  rw [add0] at hc0
  have hcs : ∀ k, k < m.length → w.cell? (q.add (k + 1)) = some (bv (m.getD k 0)) := by
    intro k hk
    obtain ⟨q2, hq2, hc2⟩ := hv.at (i := k + 1) (by simp; omega)
    cases hq2
    exact hc2
  have ht := tailBs hv
  have hml : m.length + 1 = (x :: m).length := rfl
  have e0 : ((((x :: m).length : Nat) : Int)).toNat - 1 = m.length := by simp
  obtain ⟨n1, n2, n3⟩ := h.ne
  have same : doRec S (x :: m) = S → Post45 w s t v v0 (doRec S (x :: m)) (.tuple #[]) w := fun e => ⟨rfl, .refl _ _, by rw [e]; exact h⟩
  rw [e0]
  refine ifB_split (fun h => by simp only [beq_iff_eq] at h; omega) (fun _ => ?_)
  refine need_and (dec (by omega)) (dec (by omega)) ?_
  simp only [nn_some, addk, Nat.zero_add]
  refine ⟨_, hc0, ?_⟩
  rw [show (((List.getD (x :: m) 0 0).toNat : Int) == 76) = decide (x = 76) from u8i x 76 (by omega)]
  refine ifB_dec (fun hx => ?_) (fun hx => ?_)
  · refine need_and (dec (by omega)) (dec (by omega)) (need_and rfl (dec (by omega)) ((K80 ht (by omega)).mono fun e w17 hp => ?_))
    cases e with
    | returned r =>
      obtain ⟨hk17, ⟨hd, rfl⟩ | ⟨hd, rfl⟩⟩ := hp
      · refine ⟨_, _, _, _, _, _, _, _, _, rfl, nw_i fun k w20 e20 hk20 g20 => stL (lsOf m) (x := bare 0 0 0) g20 fun w28 hk28 g28 => ?_⟩
        have hk028 : Kp no w w28 := (hk17.then hk20).trans hk28 (fun k hk h => by have := hk17.size; omega)
        have hkd : Kp no w w28.drew := hk028.then (.drew no _)
        have g28d : w28.drew.heap[k]? = some (.cells (lsOf m).cells 49 (0, 0)) := g28
        have hS := h.keepN hkd
        refine ifB_true.2 ⟨_, cl hS.1 rfl, rd8 (x := lsOf m) g28d ((K81S hS hT (lsOf m)).mono fun e w41 hp => ?_)⟩
        cases e with
        | returned r =>
          obtain ⟨hk41, rfl, hS41⟩ := hp
          refine ⟨_, rfl, ?_⟩
          show Post45 w s t v v0 (doRec S (x :: m)) (.tuple #[]) w41
          refine ⟨rfl, hkd.then hk41, ?_⟩
          have : doRec S (x :: m) = { S with tab := (setT S.tab (lsOf m)).2 } := by unfold doRec; simp only; rw [if_pos hx, if_pos hd]
          rw [this]; exact hS41
        | _ => exact hp
      · refine ⟨_, _, _, _, _, _, _, _, _, rfl, nw_i fun k w20 e20 hk20 g20 => stL (bare 0 0 0) (x := bare 0 0 0) g20 fun w28 hk28 g28 => ifB_false.2 ?_⟩
        have hk028 : Kp no w w28 := (hk17.then hk20).trans hk28 (fun k hk h => by have := hk17.size; omega)
        show Post45 w s t v v0 (doRec S (x :: m)) (.tuple #[]) w28
        refine ⟨rfl, hk028.mono (fun _ _ h => h.elim), ?_⟩
        have : doRec S (x :: m) = S := by unfold doRec; simp only; rw [if_pos hx, if_neg (by rw [hd]; simp)]
        rw [this]; exact h.keepN hk028
    | _ => exact hp
  · refine need_and (dec (by omega)) (dec (by omega)) ⟨_, hc0, ?_⟩
    have life : ∀ hx83 : ¬ (x = 83 ∧ m.length = 1 ∧ (m.getD 0 0).toNat ≤ 8), B45_j2 (Post45 w s t v v0 (doRec S (x :: m))) (some ⟨s, 0, none⟩) (some q) (x :: m).length false w := by
      intro hx83
      unfold B45_j2
      simp only [nn_some, addk, Nat.zero_add]
      refine ifB_false.2 (need_and (dec (by omega)) (dec (by omega)) ⟨_, hc0, ?_⟩)
      rw [show (((List.getD (x :: m) 0 0).toNat : Int) == 70) = decide (x = 70) from u8i x 70 (by omega)]
      refine ifB_dec (fun h70 => ?_) (fun h70 => ?_)
      · unfold B45_j3
        refine ifB_split (fun h4 => ?_) (fun h4 => ?_)
        · have h4 : m.length = 4 := by
            have : (((x :: m).length : Nat) : Int) = 5 := by simpa using h4
            omega
          refine ⟨J45 m w, M45 m, ⟨rfl, 0, rfl, Nat.zero_le _, rfl⟩, ?_⟩
          rintro x60 x61 w62 ⟨rfl, k, rfl, hk, rfl⟩
          unfold B45_l1
          have hlt := ofB_lt (m.take k)
          rw [List.length_take, Nat.min_eq_left hk] at hlt
          refine ifB_dec (fun hkm => ?_) (fun hkm => ?_)
          · have hkm : k < m.length := by omega
            have hc2 := hcs k hkm
            have hbl := bt_lt (m.getD k 0)
            have hp : (256 : Nat) ^ k ≤ 256 ^ 3 := Nat.pow_le_pow_right (by omega) (by omega)
            have hi1 : IntKind.i64.wrap (((k + 1 : Nat) : Int) + 1) = ((k + 1 + 1 : Nat) : Int) := by rw [wrap64 (by omega) (by omega)]; omega
            refine need_and (dec (by omega)) (dec (by omega)) ?_
            rw [nn_some, show ((k + 1 : Nat) : Int).toNat * 1 = k + 1 by omega]
            refine ⟨_, hc2, ?_⟩
            have hw : IntKind.i64.wrap (IntKind.i64.wrap (((ofB (m.take k) : Nat) : Int) * 256) + IntKind.i64.wrap ((m.getD k 0).toNat : Int)) = ((ofB (m.take (k + 1)) : Nat) : Int) := by
              rw [ofB_take hkm, wrap64 (x := ((m.getD k 0).toNat : Int)) (by omega) (by omega), wrap64 (x := ((ofB (m.take k) : Nat) : Int) * 256) (by omega) (by omega), wrap64 (by omega) (by omega)]
              omega
            rw [hw]
            refine ⟨⟨rfl, k + 1, hi1, hkm, rfl⟩, ?_⟩
            show m.length + 1 - (IntKind.i64.wrap (((k + 1 : Nat) : Int) + 1)).toNat < m.length + 1 - ((k + 1 : Nat) : Int).toNat
            rw [hi1]; omega
          · have hkm : k = m.length := by omega
            subst hkm
            rw [List.take_length]
            simp only [nn_some, addk, Nat.zero_add]
            refine ifB_dec (fun h5 => st_i h.1 (by simp) fun w66 hk66 g66 => ?_) (fun h5 => ?_)
            · show Post45 w62 s t v v0 (doRec S (x :: m)) (.tuple #[]) w66
              have : doRec S (x :: m) = { S with life := (ofB m : Nat) } := by
                unfold doRec; simp only; rw [if_neg hx, if_neg hx83, if_pos ⟨h70, h4⟩, if_pos (by omega)]
              rw [this]
              exact ⟨rfl, hk66.mono (fun _ _ h => .inl h), g66, hk66.at h.2.1 (fun h => n1 h.symm), h.2.2.kept hk66 (fun b hb h => n2 (h ▸ hb))⟩
            · have : doRec S (x :: m) = S := by
                unfold doRec; simp only; rw [if_neg hx, if_neg hx83, if_pos ⟨h70, h4⟩, if_neg (by omega)]
              exact same this
        · have h4 : ¬ m.length = 4 := by intro h; rw [← hml, h] at h4; simp at h4
          have : doRec S (x :: m) = S := by
            unfold doRec; simp only; rw [if_neg hx, if_neg hx83, if_neg (fun h => h4 h.2)]
          exact same this
      · unfold B45_j3
        have : doRec S (x :: m) = S := by
          unfold doRec; simp only; rw [if_neg hx, if_neg hx83, if_neg (fun h => h70 h.1)]
        exact ifB_false.2 (same this)
    rw [show (((List.getD (x :: m) 0 0).toNat : Int) == 83) = decide (x = 83) from u8i x 83 (by omega)]
    refine ifB_dec (fun h83 => ifB_split (fun h1' => ?_) (fun h1' => ?_)) (fun h83 => life (fun h => h83 h.1))
    · have h1m : m.length = 1 := by
        have : (((x :: m).length : Nat) : Int) = 2 := by simpa using h1'
        omega
      have hc2 := hcs 0 (by omega)
      refine need_and (dec (by omega)) (dec (by omega)) ?_
      refine ⟨_, hc2, ?_⟩
      by_cases h8 : (m.getD 0 0).toNat ≤ 8
      · rw [decide_eq_true (show ((m.getD 0 0).toNat : Int) ≤ 8 by omega)]
        unfold B45_j2
        simp only [nn_some, addk, Nat.zero_add]
        refine ifB_true.2 (need_and (dec (by omega)) (dec (by omega)) ⟨_, hc2, st_i h.1 (by simp) fun w53 hk53 g53 => ?_⟩)
        show Post45 w s t v v0 (doRec S (x :: m)) (.tuple #[]) w53
        have : doRec S (x :: m) = { S with state := ((m.getD 0 0).toNat : Nat) } := by
          unfold doRec; simp only; rw [if_neg hx, if_pos ⟨h83, h1m, h8⟩]
        rw [this]
        rw [wrap64 (by omega) (by omega)] at g53
        exact ⟨rfl, hk53.mono (fun _ _ h => .inl h), g53, hk53.at h.2.1 (fun h => n1 h.symm), h.2.2.kept hk53 (fun b hb h => n2 (h ▸ hb))⟩
      · rw [decide_eq_false (show ¬ ((m.getD 0 0).toNat : Int) ≤ 8 by omega)]
        exact life (fun h => h8 h.2.2)
    · exact life (fun h => by rw [← hml, h.2.1] at h1'; simp at h1')
end Go.Lf
end

section
set_option linter.unusedVariables false
set_option linter.unusedSimpArgs false
namespace Go.Lf
open Go Go.Proofs Go.Sort Go.Shelf
instance : Inhabited Ls := ⟨bare 0 0 0⟩
set_option maxRecDepth 100000 in
theorem has57 : Cz.has 57 = true := by kernel_rfl
set_option maxRecDepth 100000 in
theorem has56 : Cz.has 56 = true := by kernel_rfl
theorem K57 (x : Ls) (w : World) : Calls Cz.P 57 #[x.val] w (CP (fun r w' => r = .int .i64 0 ∧ Gr w w' ∧ Kp no w w') (fun _ _ => False)) := by
  refine C57 ?_
  unfold B57
  exact nw_g fun k w1 e1 hr hk g => ⟨rfl, hr, hk⟩
theorem K56 (x : Ls) (w : World) : Calls Cz.P 56 #[x.val] w (CP (fun r w' => r = .bool true ∧ Kp no w w') (fun _ _ => False)) := by
  refine C56 ?_
  unfold B56
  exact nw_i fun k w1 e1 hk g => ⟨rfl, hk⟩
theorem K120 (x : Int) (w : World) : Calls Cz.P 120 #[.int .i64 x] w (CP (fun r w' => w' = w ∧ r = .bool false) (fun _ _ => False)) := by
  refine C120 ?_
  unfold B120
  exact ⟨rfl, by simp⟩
theorem K92 (x y : Int) (w : World) : Calls Cz.P 92 #[.int .i64 x, .int .i64 y] w (CP (fun r w' => w' = w ∧ r = .int .i64 (cmpI x y)) (fun _ _ => False)) := by
  refine C92 ?_
  unfold B92
  refine (K120 x w).mono fun e w1 hp => ?_
  cases e with
  | returned r =>
    obtain ⟨rfl, rfl⟩ := hp
    refine ⟨_, rfl, (K120 y w1).mono fun e w2 hp => ?_⟩
    cases e with
    | returned r =>
      obtain ⟨rfl, rfl⟩ := hp
      refine ⟨_, rfl, ifB_false.2 (ifB_false.2 (ifB_dec (fun h => ⟨rfl, ?_⟩) (fun h => ifB_dec (fun h' => ⟨rfl, ?_⟩) (fun h' => ⟨rfl, ?_⟩))))⟩
      · unfold cmpI; rw [if_pos h]
      · unfold cmpI; rw [if_neg h, if_pos h']
      · unfold cmpI; rw [if_neg h, if_neg h']
    | _ => exact hp
  | _ => exact hp
theorem E157 : ElemT Cz.P 157 3 1 8 := ⟨by kernel_rfl, by kernel_rfl⟩
def J91 (w : World) (y : Int) (vs : List Value) (w' : World) : Prop := match vs with | [.int _ i] => w' = w ∧ (i = 0 ∨ i = 1 ∨ (i = 2 ∧ y = 0)) | _ => False
def M91 (vs : List Value) (_ : World) : Nat := match vs with | [.int _ i] => 2 - i.toNat | _ => 0
theorem K91 {w : World} {b : Nat} {y : Int} (h : w.heap[b]? = some (.cells #[.int .i64 0, .int .i64 y] 3 (0, 0))) : Calls Cz.P 91 #[.slice (some ⟨b, 0, none⟩) 2 2] w (CP (fun r w' => w' = w ∧ r = .int .i64 y) (fun _ _ => False)) := by
  refine C91 ?_
  unfold B91
  refine ⟨J91 w y, M91, ⟨rfl, .inl rfl⟩, ?_⟩
  rintro i w1 ⟨rfl, hi⟩
  unfold B91_l1
  simp only [nn_some, addk, Nat.zero_add]
  rcases hi with rfl | rfl | ⟨rfl, rfl⟩
  · refine ifB_dec (fun _ => need_and (dec (by omega)) (dec (by omega)) ⟨_, cl h rfl, ifB_false.2 ⟨⟨rfl, .inr (.inl ?_)⟩, ?_⟩⟩) (fun h => absurd h (by decide))
    · rfl
    · show 2 - (IntKind.i64.wrap (0 + 1)).toNat < 2 - (0 : Int).toNat
      decide
  · refine ifB_dec (fun _ => need_and (dec (by omega)) (dec (by omega)) ⟨_, cl h rfl, ifB_split (fun _ => ⟨by trivial, rfl⟩) (fun hy => ⟨⟨rfl, .inr (.inr ⟨rfl, by simpa using hy⟩)⟩, by show 2 - (IntKind.i64.wrap (1 + 1)).toNat < 2 - (1 : Int).toNat; decide⟩)⟩) (fun h => absurd h (by decide))
  · exact ifB_dec (fun h => absurd h (by decide)) (fun _ => ⟨by trivial, rfl⟩)
/-- the order of a table's leases -/
theorem K90 (x y : Ls) {w : World} {q : Nat} (hq : w.cell? ⟨q, 0, none⟩ = some (.func (.func 57) #[] #[])) : Calls Cz.P 90 #[x.val, y.val, .pointer (some ⟨q, 0, none⟩)] w (CP (fun r w' => r = .int .i64 (cmpI x.addr y.addr) ∧ Gr w w') (fun _ _ => False)) := by
  refine C90 ?_
  unfold B90
  refine nw_g fun k1 w1 e1 hr1 hk1 g1 => nw_g fun k2 w2 e2 hr2 hk2 g2 => ?_
  have hrd : Gr w w2.drew := (hr1.trans hr2).trans (.drew _)
  have hkd : Kp no w w2.drew := (hk1.then hk2).then (.drew no _)
  have g1d : w2.drew.heap[k1]? = some (.cells x.cells 49 (0, 0)) := hk2.at g1 nf
  have g2d : w2.drew.heap[k2]? = some (.cells y.cells 49 (0, 0)) := g2
  have hqd := hkd.cell hq nf
  refine ⟨_, hqd, rd8 (x := x) g1d ⟨_, hqd, rd8 (x := y) g2d ⟨_, cl g1d rfl, _, cl g2d rfl, need_iff.2 ⟨has57, ?_⟩⟩⟩⟩
  show Calls Cz.P 57 #[x.val] w2.drew _
  refine (K57 x _).mono fun e w3 hp => ?_
  cases e with
  | returned r =>
    obtain ⟨rfl, hr3, hk3⟩ := hp
    have hc1 := fun i => hk3.cellD (i := i) g1d nf
    have hc2 := fun i => hk3.cellD (i := i) g2d nf
    have g1e := hk3.at g1d nf
    have g2e := hk3.at g2d nf
    refine ⟨_, rfl, ⟨⟨hc2 0, trivial⟩, ⟨hc1 0, trivial⟩, ⟨hc2 0, hc2 1, hc2 2, hc2 3, hc2 4, hc2 5, hc2 6, hc2 7, trivial⟩, ⟨(hk3.cell hqd nf).trans hqd.symm, trivial⟩, trivial⟩, need_iff.2 ⟨has57, ?_⟩⟩
    show Calls Cz.P 57 #[y.val] w3 _
    refine (K57 y _).mono fun e w4 hp => ?_
    cases e with
    | returned r =>
      obtain ⟨rfl, hr4, hk4⟩ := hp
      refine ⟨_, rfl, ⟨⟨hk4.cellD g2e nf, trivial⟩, ⟨hk4.cellD g1e nf, trivial⟩, trivial⟩, (K92 0 0 w4).mono fun e w5 hp => ?_⟩
      cases e with
      | returned r =>
        obtain ⟨rfl, rfl⟩ := hp
        refine ⟨_, rfl, ⟨⟨rfl, trivial⟩, ⟨rfl, trivial⟩, trivial⟩, (K93 _ _ _).mono fun e w6 hp => ?_⟩
        cases e with
        | returned r =>
          obtain ⟨rfl, rfl⟩ := hp
          have hb := E157.built [.int .i64 (cmpI 0 0), .int .i64 (cmpI x.addr y.addr)] (by simp [Value.oneCell']) (by simp) w6
          refine ⟨_, rfl, _, _, _, _, hb, (K91 (y := cmpI x.addr y.addr) (get_alloc_new _ _)).mono fun e w7 hp => ?_⟩
          cases e with
          | returned r =>
            obtain ⟨rfl, rfl⟩ := hp
            exact ⟨_, rfl, rfl, ((hrd.trans hr3).trans hr4).trans (.alloc _ _)⟩
          | _ => exact hp
        | _ => exact hp
      | _ => exact hp
    | _ => exact hp
  | _ => exact hp
theorem cell_sortW {α : Type} [Inhabited α] (enc : α → List Value) (k : Nat) (w : World) (blk off m : Nat) (d : Array α) (os : Array Obj) {a : Addr} {v : Value} (h : w.cell? a = some v) (hne : a.block ≠ blk) : (sortWorldK enc k w blk off m d os).cell? a = some v :=
  (Kp.sortW enc k w blk off m d os).cell h hne
theorem K119 {w : World} {base q : Nat} {a : Option Addr} {n c : Nat} {T : List Ls} (ho : OwnS SL 49 w base (.slice a n c) T) (hsz : T.length < 4611686018427387904) (hq : w.heap[q]? = some (.cells #[.func (.func 57) #[] #[]] 102 (0, 0))) :
    Calls Cz.P 119 #[.slice a n c, .func (.func 90) #[] #[.pointer (some ⟨q, 0, none⟩)]] w (CP (fun r w' => r = .tuple #[] ∧ Kp (fun k => (Value.slice a n c).ownBlock = some k) w w' ∧ ∃ ys : List Ls, ys.Perm T ∧ (ys.Pairwise fun x y => x.addr ≤ y.addr) ∧ RdT SL 49 w' (.slice a n c) ys) (fun _ _ => False)) := by
  have h := sortS SL Tryz.l119 (fun w => by kernel_rfl) (fun w => by kernel_rfl) (fun x y : Ls => cmpI x.addr y.addr) (swo_key (fun x : Ls => x.addr)) 90 #[.pointer (some ⟨q, 0, none⟩)]
    (enters_of Tryz.func90 (by kernel_rfl) rfl) ho hsz (fun blk hb m os dk hdk x y => by
      obtain ⟨cs, hb⟩ := hb
      have hne : q ≠ blk := by intro h; subst h; rw [hq] at hb; cases hb
      refine Calls.mono (K90 x y (q := q) (cell_sortW _ _ _ _ _ _ _ _ (cl hq rfl) hne)) fun e w' hp => ?_
      cases e with
      | returned r => exact ⟨by rw [hp.1], hp.2⟩
      | _ => exact hp.elim)
  refine Calls.mono (show Calls Cz.P 119 #[.slice a n c, .func (.func 90) #[] #[.pointer (some ⟨q, 0, none⟩)]] w _ from h) fun e w' hp => ?_
  cases e with
  | returned r =>
    obtain ⟨rfl, hk, ys, h1, h2, h3⟩ := hp
    refine ⟨rfl, hk, ys, h1, h2.imp fun {x y} h => ?_, h3⟩
    have := cmpI_lt y.addr x.addr
    rw [decide_eq_decide] at this
    omega
  | _ => exact hp
end Go.Lf
end
