/- Part 28 of the lemmas that a proof leans on; no claim is made here. By an AI agent. -/
import Derived.Test.YtofhodpdfbnkiaaGreatLfA09
import Derived.Test.YtofhodpdfbnkiaaGreatLfA11
import Derived.Test.YtofhodpdfbnkiaaGreatLfA13
import Derived.Test.YtofhodpdfbnkiaaGreatLfA14
import Derived.Test.YtofhodpdfbnkiaaGreatLfA15
import Derived.Test.YtofhodpdfbnkiaaGreatLfA16
import Derived.Test.YtofhodpdfbnkiaaGreatLfA25
import Derived.Test.YtofhodpdfbnkiaaGreatLfA26
import Derived.Test.YtofhodpdfbnkiaaGreatLfA27
section
set_option linter.unusedVariables false
set_option linter.unusedSimpArgs false
namespace Go.Lf
open Go Go.Proofs
def J45 (m : List UInt8) (w : World) (vs : List Value) (w' : World) : Prop := match vs with | [.int _ x, .int _ i] => w' = w ∧ ∃ k : Nat, i = ((k + 1 : Nat) : Int) ∧ k ≤ m.length ∧ x = (ofB (m.take k) : Nat) | _ => False
def M45 (m : List UInt8) (vs : List Value) (_ : World) : Nat := match vs with | [_, .int _ i] => m.length + 1 - i.toNat | _ => 0
def Post45 (w : World) (s t : Nat) (v v0 : Value) (S : StS) (r : Value) (w' : World) : Prop := r = .tuple #[] ∧ Kp (fun k => k = s ∨ v.ownBlock = some k) w w' ∧ RStP w' s t v v0 S
theorem K45 {w : World} {s t : Nat} {v v0 : Value} {S : StS} {a : Option Addr} {n c : Nat} {l : List UInt8} (h : RStP w s t v v0 S) (hT : S.tab.length ≤ 1048576) (hv : Bs w (.slice a n c) l) (h1 : 1 ≤ l.length) (h2 : l.length ≤ 1000000) :
    Calls Cz.P 45 #[.pointer (some ⟨s, 0, none⟩), .slice a n c] w (CP (Post45 w s t v v0 (doRec S l)) (fun _ _ => False)) := by
  refine C45 ?_
  have hn := hv.cap.1
  have hcap := hv.cap.2
  subst hn
  obtain ⟨x, m, rfl⟩ : ∃ x m, l = x :: m := by cases l with | nil => simp at h1 | cons x m => exact ⟨x, m, rfl⟩
  unfold B45
  obtain ⟨q, rfl, hc0⟩ := hv.at (i := 0) (by simp)
  rw [add0] at hc0
  have hcs : ∀ k, k < m.length → w.cell? (q.add (k + 1)) = some (bv (m.getD k 0)) := by
    intro k hk
    obtain ⟨q2, hq2, hc2⟩ := hv.at (i := k + 1) (by simp; omega)
    cases hq2
    exact hc2
  have ht := tailBs hv
  have hml : m.length + 1 = (x :: m).length := rfl
  have e0 : ((((x :: m).length : Nat) : Int)).toNat - 1 = m.length := by simp
  obtain ⟨n1, n2, n3⟩ := h.ne
  have same : doRec S (x :: m) = S → Post45 w s t v v0 (doRec S (x :: m)) (.tuple #[]) w := fun e => ⟨rfl, .refl _ _, by rw [e]; exact h⟩
  rw [e0]
  refine ifB_split (fun h => by simp only [beq_iff_eq] at h; omega) (fun _ => ?_)
  refine need_and (dec (by omega)) (dec (by omega)) ?_
  simp only [nn_some, addk, Nat.zero_add]
  refine ⟨_, hc0, ?_⟩
  rw [show (((List.getD (x :: m) 0 0).toNat : Int) == 76) = decide (x = 76) from u8i x 76 (by omega)]
  refine ifB_dec (fun hx => ?_) (fun hx => ?_)
  · refine need_and (dec (by omega)) (dec (by omega)) (need_and rfl (dec (by omega)) ((K80 ht (by omega)).mono fun e w17 hp => ?_))
    cases e with
    | returned r =>
      obtain ⟨hk17, ⟨hd, rfl⟩ | ⟨hd, rfl⟩⟩ := hp
      · refine ⟨_, _, _, _, _, _, _, _, _, rfl, nw_i fun k w20 e20 hk20 g20 => stL (lsOf m) (x := bare 0 0 0) g20 fun w28 hk28 g28 => ?_⟩
        have hk028 : Kp no w w28 := (hk17.then hk20).trans hk28 (fun k hk h => by have := hk17.size; omega)
        have hkd : Kp no w w28.drew := hk028.then (.drew no _)
        have g28d : w28.drew.heap[k]? = some (.cells (lsOf m).cells 49 (0, 0)) := g28
        have hS := h.keepN hkd
        refine ifB_true.2 ⟨_, cl hS.1 rfl, rd8 (x := lsOf m) g28d ((K81S hS hT (lsOf m)).mono fun e w41 hp => ?_)⟩
        cases e with
        | returned r =>
          obtain ⟨hk41, rfl, hS41⟩ := hp
          refine ⟨_, rfl, ?_⟩
          show Post45 w s t v v0 (doRec S (x :: m)) (.tuple #[]) w41
          refine ⟨rfl, hkd.then hk41, ?_⟩
          have : doRec S (x :: m) = { S with tab := (setT S.tab (lsOf m)).2 } := by unfold doRec; simp only; rw [if_pos hx, if_pos hd]
          rw [this]; exact hS41
        | _ => exact hp
      · refine ⟨_, _, _, _, _, _, _, _, _, rfl, nw_i fun k w20 e20 hk20 g20 => stL (bare 0 0 0) (x := bare 0 0 0) g20 fun w28 hk28 g28 => ifB_false.2 ?_⟩
        have hk028 : Kp no w w28 := (hk17.then hk20).trans hk28 (fun k hk h => by have := hk17.size; omega)
        show Post45 w s t v v0 (doRec S (x :: m)) (.tuple #[]) w28
        refine ⟨rfl, hk028.mono (fun _ _ h => h.elim), ?_⟩
        have : doRec S (x :: m) = S := by unfold doRec; simp only; rw [if_pos hx, if_neg (by rw [hd]; simp)]
        rw [this]; exact h.keepN hk028
    | _ => exact hp
  · refine need_and (dec (by omega)) (dec (by omega)) ⟨_, hc0, ?_⟩
    have life : ∀ hx83 : ¬ (x = 83 ∧ m.length = 1 ∧ (m.getD 0 0).toNat ≤ 8), B45_j2 (Post45 w s t v v0 (doRec S (x :: m))) (some ⟨s, 0, none⟩) (some q) (x :: m).length false w := by
      intro hx83
      unfold B45_j2
      simp only [nn_some, addk, Nat.zero_add]
      refine ifB_false.2 (need_and (dec (by omega)) (dec (by omega)) ⟨_, hc0, ?_⟩)
      rw [show (((List.getD (x :: m) 0 0).toNat : Int) == 70) = decide (x = 70) from u8i x 70 (by omega)]
      refine ifB_dec (fun h70 => ?_) (fun h70 => ?_)
      · unfold B45_j3
        refine ifB_split (fun h4 => ?_) (fun h4 => ?_)
        · have h4 : m.length = 4 := by
            have : (((x :: m).length : Nat) : Int) = 5 := by simpa using h4
            omega
          refine ⟨J45 m w, M45 m, ⟨rfl, 0, rfl, Nat.zero_le _, rfl⟩, ?_⟩
          rintro x60 x61 w62 ⟨rfl, k, rfl, hk, rfl⟩
          unfold B45_l1
          have hlt := ofB_lt (m.take k)
          rw [List.length_take, Nat.min_eq_left hk] at hlt
          refine ifB_dec (fun hkm => ?_) (fun hkm => ?_)
          · have hkm : k < m.length := by omega
            have hc2 := hcs k hkm
            have hbl := bt_lt (m.getD k 0)
            have hp : (256 : Nat) ^ k ≤ 256 ^ 3 := Nat.pow_le_pow_right (by omega) (by omega)
            have hi1 : IntKind.i64.wrap (((k + 1 : Nat) : Int) + 1) = ((k + 1 + 1 : Nat) : Int) := by rw [wrap64 (by omega) (by omega)]; omega
            refine need_and (dec (by omega)) (dec (by omega)) ?_
            rw [nn_some, show ((k + 1 : Nat) : Int).toNat * 1 = k + 1 by omega]
            refine ⟨_, hc2, ?_⟩
            have hw : IntKind.i64.wrap (IntKind.i64.wrap (((ofB (m.take k) : Nat) : Int) * 256) + IntKind.i64.wrap ((m.getD k 0).toNat : Int)) = ((ofB (m.take (k + 1)) : Nat) : Int) := by
              rw [ofB_take hkm, wrap64 (x := ((m.getD k 0).toNat : Int)) (by omega) (by omega), wrap64 (x := ((ofB (m.take k) : Nat) : Int) * 256) (by omega) (by omega), wrap64 (by omega) (by omega)]
              omega
            rw [hw]
            refine ⟨⟨rfl, k + 1, hi1, hkm, rfl⟩, ?_⟩
            show m.length + 1 - (IntKind.i64.wrap (((k + 1 : Nat) : Int) + 1)).toNat < m.length + 1 - ((k + 1 : Nat) : Int).toNat
            rw [hi1]; omega
          · have hkm : k = m.length := by omega
            subst hkm
            rw [List.take_length]
            simp only [nn_some, addk, Nat.zero_add]
            refine ifB_dec (fun h5 => st_i h.1 (by simp) fun w66 hk66 g66 => ?_) (fun h5 => ?_)
            · show Post45 w62 s t v v0 (doRec S (x :: m)) (.tuple #[]) w66
              have : doRec S (x :: m) = { S with life := (ofB m : Nat) } := by
                unfold doRec; simp only; rw [if_neg hx, if_neg hx83, if_pos ⟨h70, h4⟩, if_pos (by omega)]
              rw [this]
              exact ⟨rfl, hk66.mono (fun _ _ h => .inl h), g66, hk66.at h.2.1 (fun h => n1 h.symm), h.2.2.kept hk66 (fun b hb h => n2 (h ▸ hb))⟩
            · have : doRec S (x :: m) = S := by
                unfold doRec; simp only; rw [if_neg hx, if_neg hx83, if_pos ⟨h70, h4⟩, if_neg (by omega)]
              exact same this
        · have h4 : ¬ m.length = 4 := by intro h; rw [← hml, h] at h4; simp at h4
          have : doRec S (x :: m) = S := by
            unfold doRec; simp only; rw [if_neg hx, if_neg hx83, if_neg (fun h => h4 h.2)]
          exact same this
      · unfold B45_j3
        have : doRec S (x :: m) = S := by
          unfold doRec; simp only; rw [if_neg hx, if_neg hx83, if_neg (fun h => h70 h.1)]
        exact ifB_false.2 (same this)
    rw [show (((List.getD (x :: m) 0 0).toNat : Int) == 83) = decide (x = 83) from u8i x 83 (by omega)]
    refine ifB_dec (fun h83 => ifB_split (fun h1' => ?_) (fun h1' => ?_)) (fun h83 => life (fun h => h83 h.1))
    · have h1m : m.length = 1 := by
        have : (((x :: m).length : Nat) : Int) = 2 := by simpa using h1'
        omega
      have hc2 := hcs 0 (by omega)
      refine need_and (dec (by omega)) (dec (by omega)) ?_
      refine ⟨_, hc2, ?_⟩
      by_cases h8 : (m.getD 0 0).toNat ≤ 8
      · rw [decide_eq_true (show ((m.getD 0 0).toNat : Int) ≤ 8 by omega)]
        unfold B45_j2
        simp only [nn_some, addk, Nat.zero_add]
        refine ifB_true.2 (need_and (dec (by omega)) (dec (by omega)) ⟨_, hc2, st_i h.1 (by simp) fun w53 hk53 g53 => ?_⟩)
        show Post45 w s t v v0 (doRec S (x :: m)) (.tuple #[]) w53
        have : doRec S (x :: m) = { S with state := ((m.getD 0 0).toNat : Nat) } := by
          unfold doRec; simp only; rw [if_neg hx, if_pos ⟨h83, h1m, h8⟩]
        rw [this]
        rw [wrap64 (by omega) (by omega)] at g53
        exact ⟨rfl, hk53.mono (fun _ _ h => .inl h), g53, hk53.at h.2.1 (fun h => n1 h.symm), h.2.2.kept hk53 (fun b hb h => n2 (h ▸ hb))⟩
      · rw [decide_eq_false (show ¬ ((m.getD 0 0).toNat : Int) ≤ 8 by omega)]
        exact life (fun h => h8 h.2.2)
    · exact life (fun h => by rw [← hml, h.2.1] at h1'; simp at h1')
end Go.Lf
end

section
set_option linter.unusedVariables false
set_option linter.unusedSimpArgs false
namespace Go.Lf
open Go Go.Proofs Go.Sort Go.Shelf
instance : Inhabited Ls := ⟨bare 0 0 0⟩
set_option maxRecDepth 100000 in
theorem has57 : Cz.has 57 = true := by kernel_rfl
set_option maxRecDepth 100000 in
theorem has56 : Cz.has 56 = true := by kernel_rfl
theorem K57 (x : Ls) (w : World) : Calls Cz.P 57 #[x.val] w (CP (fun r w' => r = .int .i64 0 ∧ Gr w w' ∧ Kp no w w') (fun _ _ => False)) := by
  refine C57 ?_
  unfold B57
  exact nw_g fun k w1 e1 hr hk g => ⟨rfl, hr, hk⟩
theorem K56 (x : Ls) (w : World) : Calls Cz.P 56 #[x.val] w (CP (fun r w' => r = .bool true ∧ Kp no w w') (fun _ _ => False)) := by
  refine C56 ?_
  unfold B56
  exact nw_i fun k w1 e1 hk g => ⟨rfl, hk⟩
theorem K120 (x : Int) (w : World) : Calls Cz.P 120 #[.int .i64 x] w (CP (fun r w' => w' = w ∧ r = .bool false) (fun _ _ => False)) := by
  refine C120 ?_
  unfold B120
  exact ⟨rfl, by simp⟩
theorem K92 (x y : Int) (w : World) : Calls Cz.P 92 #[.int .i64 x, .int .i64 y] w (CP (fun r w' => w' = w ∧ r = .int .i64 (cmpI x y)) (fun _ _ => False)) := by
  refine C92 ?_
  unfold B92
  refine (K120 x w).mono fun e w1 hp => ?_
  cases e with
  | returned r =>
    obtain ⟨rfl, rfl⟩ := hp
    refine ⟨_, rfl, (K120 y w1).mono fun e w2 hp => ?_⟩
    cases e with
    | returned r =>
      obtain ⟨rfl, rfl⟩ := hp
      refine ⟨_, rfl, ifB_false.2 (ifB_false.2 (ifB_dec (fun h => ⟨rfl, ?_⟩) (fun h => ifB_dec (fun h' => ⟨rfl, ?_⟩) (fun h' => ⟨rfl, ?_⟩))))⟩
      · unfold cmpI; rw [if_pos h]
      · unfold cmpI; rw [if_neg h, if_pos h']
      · unfold cmpI; rw [if_neg h, if_neg h']
    | _ => exact hp
  | _ => exact hp
theorem E157 : ElemT Cz.P 157 3 1 8 := ⟨by kernel_rfl, by kernel_rfl⟩
def J91 (w : World) (y : Int) (vs : List Value) (w' : World) : Prop := match vs with | [.int _ i] => w' = w ∧ (i = 0 ∨ i = 1 ∨ (i = 2 ∧ y = 0)) | _ => False
def M91 (vs : List Value) (_ : World) : Nat := match vs with | [.int _ i] => 2 - i.toNat | _ => 0
theorem K91 {w : World} {b : Nat} {y : Int} (h : w.heap[b]? = some (.cells #[.int .i64 0, .int .i64 y] 3 (0, 0))) : Calls Cz.P 91 #[.slice (some ⟨b, 0, none⟩) 2 2] w (CP (fun r w' => w' = w ∧ r = .int .i64 y) (fun _ _ => False)) := by
  refine C91 ?_
  unfold B91
  refine ⟨J91 w y, M91, ⟨rfl, .inl rfl⟩, ?_⟩
  rintro i w1 ⟨rfl, hi⟩
  unfold B91_l1
  simp only [nn_some, addk, Nat.zero_add]
  rcases hi with rfl | rfl | ⟨rfl, rfl⟩
  · refine ifB_dec (fun _ => need_and (dec (by omega)) (dec (by omega)) ⟨_, cl h rfl, ifB_false.2 ⟨⟨rfl, .inr (.inl ?_)⟩, ?_⟩⟩) (fun h => absurd h (by decide))
    · rfl
    · show 2 - (IntKind.i64.wrap (0 + 1)).toNat < 2 - (0 : Int).toNat
      decide
  · refine ifB_dec (fun _ => need_and (dec (by omega)) (dec (by omega)) ⟨_, cl h rfl, ifB_split (fun _ => ⟨by trivial, rfl⟩) (fun hy => ⟨⟨rfl, .inr (.inr ⟨rfl, by simpa using hy⟩)⟩, by show 2 - (IntKind.i64.wrap (1 + 1)).toNat < 2 - (1 : Int).toNat; decide⟩)⟩) (fun h => absurd h (by decide))
  · exact ifB_dec (fun h => absurd h (by decide)) (fun _ => ⟨by trivial, rfl⟩)
/-- the order of a table's leases -/
theorem K90 (x y : Ls) {w : World} {q : Nat} (hq : w.cell? ⟨q, 0, none⟩ = some (.func (.func 57) #[] #[])) : Calls Cz.P 90 #[x.val, y.val, .pointer (some ⟨q, 0, none⟩)] w (CP (fun r w' => r = .int .i64 (cmpI x.addr y.addr) ∧ Gr w w') (fun _ _ => False)) := by
  refine C90 ?_
  unfold B90
  refine nw_g fun k1 w1 e1 hr1 hk1 g1 => nw_g fun k2 w2 e2 hr2 hk2 g2 => ?_
  have hrd : Gr w w2.drew := (hr1.trans hr2).trans (.drew _)
  have hkd : Kp no w w2.drew := (hk1.then hk2).then (.drew no _)
  have g1d : w2.drew.heap[k1]? = some (.cells x.cells 49 (0, 0)) := hk2.at g1 nf
  have g2d : w2.drew.heap[k2]? = some (.cells y.cells 49 (0, 0)) := g2
  have hqd := hkd.cell hq nf
  refine ⟨_, hqd, rd8 (x := x) g1d ⟨_, hqd, rd8 (x := y) g2d ⟨_, cl g1d rfl, _, cl g2d rfl, need_iff.2 ⟨has57, ?_⟩⟩⟩⟩
  show Calls Cz.P 57 #[x.val] w2.drew _
  refine (K57 x _).mono fun e w3 hp => ?_
  cases e with
  | returned r =>
    obtain ⟨rfl, hr3, hk3⟩ := hp
    have hc1 := fun i => hk3.cellD (i := i) g1d nf
    have hc2 := fun i => hk3.cellD (i := i) g2d nf
    have g1e := hk3.at g1d nf
    have g2e := hk3.at g2d nf
    refine ⟨_, rfl, ⟨⟨hc2 0, trivial⟩, ⟨hc1 0, trivial⟩, ⟨hc2 0, hc2 1, hc2 2, hc2 3, hc2 4, hc2 5, hc2 6, hc2 7, trivial⟩, ⟨(hk3.cell hqd nf).trans hqd.symm, trivial⟩, trivial⟩, need_iff.2 ⟨has57, ?_⟩⟩
    show Calls Cz.P 57 #[y.val] w3 _
    refine (K57 y _).mono fun e w4 hp => ?_
    cases e with
    | returned r =>
      obtain ⟨rfl, hr4, hk4⟩ := hp
      refine ⟨_, rfl, ⟨⟨hk4.cellD g2e nf, trivial⟩, ⟨hk4.cellD g1e nf, trivial⟩, trivial⟩, (K92 0 0 w4).mono fun e w5 hp => ?_⟩
      cases e with
      | returned r =>
        obtain ⟨rfl, rfl⟩ := hp
        refine ⟨_, rfl, ⟨⟨rfl, trivial⟩, ⟨rfl, trivial⟩, trivial⟩, (K93 _ _ _).mono fun e w6 hp => ?_⟩
        cases e with
        | returned r =>
          obtain ⟨rfl, rfl⟩ := hp
          have hb := E157.built [.int .i64 (cmpI 0 0), .int .i64 (cmpI x.addr y.addr)] (by simp [Value.oneCell']) (by simp) w6
          refine ⟨_, rfl, _, _, _, _, hb, (K91 (y := cmpI x.addr y.addr) (get_alloc_new _ _)).mono fun e w7 hp => ?_⟩
          cases e with
          | returned r =>
            obtain ⟨rfl, rfl⟩ := hp
            exact ⟨_, rfl, rfl, ((hrd.trans hr3).trans hr4).trans (.alloc _ _)⟩
          | _ => exact hp
        | _ => exact hp
      | _ => exact hp
    | _ => exact hp
  | _ => exact hp
theorem cell_sortW {α : Type} [Inhabited α] (enc : α → List Value) (k : Nat) (w : World) (blk off m : Nat) (d : Array α) (os : Array Obj) {a : Addr} {v : Value} (h : w.cell? a = some v) (hne : a.block ≠ blk) : (sortWorldK enc k w blk off m d os).cell? a = some v :=
  (Kp.sortW enc k w blk off m d os).cell h hne
theorem K119 {w : World} {base q : Nat} {a : Option Addr} {n c : Nat} {T : List Ls} (ho : OwnS SL 49 w base (.slice a n c) T) (hsz : T.length < 4611686018427387904) (hq : w.heap[q]? = some (.cells #[.func (.func 57) #[] #[]] 102 (0, 0))) :
    Calls Cz.P 119 #[.slice a n c, .func (.func 90) #[] #[.pointer (some ⟨q, 0, none⟩)]] w (CP (fun r w' => r = .tuple #[] ∧ Kp (fun k => (Value.slice a n c).ownBlock = some k) w w' ∧ ∃ ys : List Ls, ys.Perm T ∧ (ys.Pairwise fun x y => x.addr ≤ y.addr) ∧ RdT SL 49 w' (.slice a n c) ys) (fun _ _ => False)) := by
  have h := sortS SL Tryz.l119 (fun w => by kernel_rfl) (fun w => by kernel_rfl) (fun x y : Ls => cmpI x.addr y.addr) (swo_key (fun x : Ls => x.addr)) 90 #[.pointer (some ⟨q, 0, none⟩)]
    (enters_of Tryz.func90 (by kernel_rfl) rfl) ho hsz (fun blk hb m os dk hdk x y => by
      obtain ⟨cs, hb⟩ := hb
      have hne : q ≠ blk := by intro h; subst h; rw [hq] at hb; cases hb
      refine Calls.mono (K90 x y (q := q) (cell_sortW _ _ _ _ _ _ _ _ (cl hq rfl) hne)) fun e w' hp => ?_
      cases e with
      | returned r => exact ⟨by rw [hp.1], hp.2⟩
      | _ => exact hp.elim)
  refine Calls.mono (show Calls Cz.P 119 #[.slice a n c, .func (.func 90) #[] #[.pointer (some ⟨q, 0, none⟩)]] w _ from h) fun e w' hp => ?_
  cases e with
  | returned r =>
    obtain ⟨rfl, hk, ys, h1, h2, h3⟩ := hp
    refine ⟨rfl, hk, ys, h1, h2.imp fun {x y} h => ?_, h3⟩
    have := cmpI_lt y.addr x.addr
    rw [decide_eq_decide] at this
    omega
  | _ => exact hp
end Go.Lf
end

section
set_option linter.unusedVariables false
set_option linter.unusedSimpArgs false
namespace Go.Lf
open Go Go.Proofs
/-- what a round of collecting may write -/
def Soft (w : World) (k : Nat) : Prop := ∃ o, w.heap[k]? = some o ∧ ((∃ cs, o = .cells cs 49 (0, 0)) ∨ (∃ cs, o = .cells cs 59 (0, 0)) ∨ ∃ r, o = .loop r)
theorem Soft.ne {w : World} {S : Nat → Prop} (hS : ∀ k, S k → Soft w k) {b : Nat} {o : Obj} (hb : w.heap[b]? = some o) (h1 : ∀ cs, o ≠ .cells cs 49 (0, 0)) (h2 : ∀ cs, o ≠ .cells cs 59 (0, 0)) (h3 : ∀ r, o ≠ .loop r) : ¬ S b := by
  intro h
  obtain ⟨o', ho, h⟩ := hS b h
  rw [hb] at ho
  cases ho
  rcases h with ⟨cs, h⟩ | ⟨cs, h⟩ | ⟨r, h⟩
  · exact h1 cs h
  · exact h2 cs h
  · exact h3 r h
def Seen (T : List Ls) (seen : Array Nat) (d : List Ls) : Prop := seen.toList.Nodup ∧ (∀ i ∈ seen.toList, i < T.length) ∧ d = seen.toList.map fun i => T.getD i (bare 0 0 0)
theorem Seen.end {T : List Ls} {seen : Array Nat} {d : List Ls} (h : Seen T seen d) (h0 : (leftOf (ents T) seen).size = 0) : d.Perm T := by
  obtain ⟨h1, h2, rfl⟩ := h
  have hall := all_seen (ents T) seen h0
  have hp : seen.toList.Perm (List.range T.length) := by
    refine (List.perm_ext_iff_of_nodup h1 List.nodup_range).2 fun i => ⟨fun h => List.mem_range.2 (h2 i h), fun h => ?_⟩
    have hi := List.mem_range.1 h
    have hm : ent (T[i], i) ∈ (ents T).toList := by
      unfold ents
      rw [List.toList_toArray]
      exact List.mem_map.2 ⟨(T[i], i), List.mem_zipIdx_iff_getElem?.2 (by simp [hi]), rfl⟩
    have := hall _ hm
    rw [Array.contains_iff_mem] at this
    exact Array.mem_toList_iff.2 this
  have := hp.map fun i => T.getD i (bare 0 0 0)
  refine this.trans ?_
  have e : (List.range T.length).map (fun i => T.getD i (bare 0 0 0)) = T := by
    apply List.ext_getElem
    · simp
    · intro i h1 h2
      simp [List.getD_eq_getElem?_getD, h2]
  rw [e]
theorem Seen.len {T : List Ls} {seen : Array Nat} {d : List Ls} (h : Seen T seen d) : d.length ≤ T.length := by
  obtain ⟨h1, h2, rfl⟩ := h
  have hp : seen.toList.Perm ((List.range T.length).filter fun i => decide (i ∈ seen.toList)) := by
    refine (List.perm_ext_iff_of_nodup h1 (List.Pairwise.filter _ List.nodup_range)).2 fun i => ?_
    rw [List.mem_filter, List.mem_range, decide_eq_true_iff]
    exact ⟨fun h => ⟨h2 i h, h⟩, fun h => h.2⟩
  rw [List.length_map, hp.length_eq]
  refine Nat.le_trans (List.length_filter_le _ _) ?_
  rw [List.length_range]
  exact Nat.le_refl _
theorem Seen.push {T : List Ls} {seen : Array Nat} {d : List Ls} (h : Seen T seen d) {i : Nat} {x : Ls} (hx : T[i]? = some x) (hl : ent (x, i) ∈ (leftOf (ents T) seen).toList) : Seen T (seen.push i) (d ++ [x]) := by
  obtain ⟨h1, h2, rfl⟩ := h
  have hc := (mem_left hl).2
  have hn : i ∉ seen.toList := by
    intro h
    have : seen.contains i = true := by rw [Array.contains_iff_mem]; simpa using h
    rw [show (ent (x, i)).born = i from rfl, this] at hc
    cases hc
  refine ⟨?_, ?_, ?_⟩
  · rw [Array.toList_push]
    refine List.nodup_append.2 ⟨h1, by simp, ?_⟩
    intro a ha b hb hab
    rw [List.mem_singleton.1 hb] at hab
    exact hn (hab ▸ ha)
  · intro j hj
    rw [Array.toList_push] at hj
    rcases List.mem_append.1 hj with hj | hj
    · exact h2 j hj
    · rw [List.mem_singleton.1 hj]; exact (List.getElem?_eq_some_iff.1 hx).1
  · rw [Array.toList_push, List.map_append]
    simp [List.getD_eq_getElem?_getD, hx]
def J94 (w0 : World) (r p b q3 : Nat) (T : List Ls) (I : List Ls → World → Prop) (vs : List Value) (w' : World) : Prop :=
  match vs with | [] => ∃ seen d, w'.heap[r]? = some (.mapIter (some b) T.length seen T.length) ∧ MapAt w' b T ∧ w'.heap[q3]? = some (.cells #[.func (.func 56) #[] #[]] 101 (0, 0)) ∧ Seen T seen d ∧ I d w' ∧ w0.heap.size ≤ w'.heap.size | _ => False
def M94 (r : Nat) (T : List Ls) (_ : List Value) (w' : World) : Nat := (leftOf (ents T) (w'.iterSeen r)).size
theorem iterSeen_of {w : World} {r : Nat} {a : Option Nat} {b c : Nat} {s : Array Nat} (h : w.heap[r]? = some (.mapIter a b s c)) : w.iterSeen r = s := by
  unfold World.iterSeen; rw [h]
/-- the leases of a table, one by one, in any order -/
theorem K94 {w : World} {p q2 q3 b : Nat} {T : List Ls} {v1 : Value} {I : List Ls → World → Prop}
    (h2 : w.heap[q2]? = some (.cells #[.pointer (some ⟨p, 0, none⟩)] 60 (0, 0))) (h3 : w.heap[q3]? = some (.cells #[.func (.func 56) #[] #[]] 101 (0, 0))) (hp : w.heap[p]? = some (.cells #[.map (some b)] 110 (0, 0))) (hm : MapAt w b T)
    (hI : I [] w) (hIk : ∀ d w' w'' S', I d w' → Kp S' w' w'' → (∀ k, S' k → w.heap.size ≤ k ∧ ∃ x1 x2 x3 x4, w'.heap[k]? = some (.mapIter x1 x2 x3 x4)) → I d w'')
    (hy : ∀ d x w', x ∈ T → d.length ≤ T.length → w.heap.size ≤ w'.heap.size → I d w' → vCall Cz v1 [x.val] w' (CP (fun r w'' => r = .bool true ∧ (∃ S', Kp S' w' w'' ∧ ∀ k, S' k → Soft w' k) ∧ I (d ++ [x]) w'') (fun _ _ => False))) :
    Calls Cz.P 94 #[v1, .pointer (some ⟨q2, 0, none⟩), .pointer (some ⟨q3, 0, none⟩)] w (CP (fun r w' => r = .tuple #[] ∧ ∃ d, d.Perm T ∧ I d w') (fun _ _ => False)) := by
  refine C94 ?_
  unfold B94
  refine ⟨_, cl h2 rfl, ?_⟩
  rw [nn_some]
  have hka : Kp no w (w.alloc (.mapIter (some b) T.length #[] T.length)) := .alloc _ _ _
  have hnone : ∀ {S : Prop} {k : Nat}, no k → S := fun h => h.elim
  refine ⟨_, cl hp rfl, _, _, run_rangeM hm, J94 w w.heap.size p b q3 T I, M94 w.heap.size T, ⟨#[], [], get_alloc_new _ _, hka.at hm nf, hka.at h3 nf, ⟨by simp, by simp, by simp⟩, hIk _ _ _ _ hI hka (fun k h => h.elim), hka.size⟩, ?_⟩
  rintro w12 ⟨seen, d, hr, hm12, h312, hs, hI12, hsz⟩
  unfold B94_l1
  have sr := lt_of_get hr
  rcases run_nextM hm12 hr with ⟨h0, hrun⟩ | ⟨i, x, w13, hx, hl, hrun, hk13, hr13⟩
  · exact ⟨_, _, hrun, .inl ⟨rfl, rfl, d, hs.end h0, hI12⟩⟩
  · have hnb : ¬ b = w.heap.size := by
      intro h; unfold MapAt at hm12; rw [h, hr] at hm12; cases hm12
    have hn3 : ¬ q3 = w.heap.size := by
      intro h; rw [h, hr] at h312; cases h312
    have hm13 : MapAt w13 b T := hk13.at hm12 hnb
    have h313 := hk13.at h312 hn3
    have hI13 := hIk _ _ _ _ hI12 hk13 (fun k h => by subst h; exact ⟨Nat.le_refl _, _, _, _, _, hr⟩)
    have hxT : x ∈ T := List.mem_of_getElem? hx
    refine ⟨_, _, hrun, .inr ⟨_, _, rfl, _, _, _, _, _, _, _, _, _, _, run_entryM hm13 hr13 hx, nw_i fun k27 w28 e28 hk28 g28 => stL x (x := bare 0 0 0) g28 fun w36 hk36 g36 => ?_⟩⟩
    have hk1336 : Kp no w13 w36 := hk28.trans hk36 (fun k hk h => by omega)
    have z13 := hk13.size
    have z36 := hk1336.size
    have h336 := hk1336.at h313 nf
    have hr36 := hk1336.at hr13 nf
    have hm36 : MapAt w36 b T := hk1336.at hm13 nf
    have hI36 := hIk _ _ _ _ hI13 hk1336 (fun k h => h.elim)
    refine ⟨_, cl h336 rfl, rd8 (x := x) g36 (need_iff.2 ⟨has56, ?_⟩)⟩
    show Calls Cz.P 56 #[x.val] w36 _
    refine (K56 x w36).mono fun e w47 hp => ?_
    cases e with
    | returned rr =>
      obtain ⟨rfl, hk47⟩ := hp
      have hI47 := hIk _ _ _ _ hI36 hk47 (fun k h => h.elim)
      have z47 := hk47.size
      refine ⟨_, rfl, ifB_true.2 (rd8 (x := x) (hk47.at g36 nf) (vCall_mono (hy d x w47 hxT hs.len (by omega) hI47) fun e w58 hp => ?_))⟩
      cases e with
      | returned rr =>
        obtain ⟨rfl, ⟨S', hk58, hS'⟩, hI58⟩ := hp
        refine ⟨_, rfl, ?_⟩
        unfold B94_j1
        have hr47 := hk47.at hr36 nf
        have hm47 : MapAt w47 b T := hk47.at hm36 nf
        have h347 := hk47.at h336 nf
        have z58 := hk58.size
        have hr58 := hk58.at hr47 (Soft.ne hS' hr47 (by simp) (by simp) (by simp))
        refine ifB_false.2 ⟨⟨seen.push i, d ++ [x], hr58, hk58.at hm47 (Soft.ne hS' hm47 (by simp) (by simp) (by simp)), hk58.at h347 (Soft.ne hS' h347 (by simp) (by simp) (by simp)), hs.push hx hl, hI58, by omega⟩, ?_⟩
        unfold M94
        rw [iterSeen_of hr58, iterSeen_of hr]
        exact left_shrinks (ents T) seen (ent (x, i)) hl
      | _ => exact hp
    | _ => exact hp
def I130 (k6 l : Nat) (rc : Loop) (w4 : World) (d : List Ls) (w' : World) : Prop :=
  Kp (fun b => b = k6 ∨ b = l) w4 w' ∧ (∃ v, w'.heap[k6]? = some (.cells #[v] 59 (0, 0)) ∧ OwnS SL 49 w' w4.heap.size v d) ∧ LoopAt w' l rc .ready none
/-- all of a table, sorted -/
theorem K22 {w : World} {p : Nat} {T : List Ls} (h : TabAt w p T) (hl : T.length ≤ 1048576) (hs : T.Pairwise fun x y => x.addr < y.addr) :
    Calls Cz.P 22 #[.pointer (some ⟨p, 0, none⟩)] w (CP (fun r w' => Kp no w w' ∧ ∃ a n c, r = .slice a n c ∧ RdT SL 49 w' (.slice a n c) T) (fun _ _ => False)) := by
  refine C22 ?_
  unfold B22
  refine C55 ?_
  unfold B55
  refine nw_i fun k4 w1 e4 hk1 g4 => nw_i fun k6 w2 e6 hk2 g6 => ⟨_, rfl, ?_⟩
  refine C54 ?_
  unfold B54
  refine nw_i fun k5 w3 e5 hk3 g5 => ?_
  refine C89 ?_
  unfold B89
  refine C118 ?_
  unfold B118
  refine C130 ?_
  unfold B130
  refine nw_i fun kv w4 ev hk4 gv => nw_i fun D w5 eD hk5 gD rc hrc => nw_i fun l9 w6 e9 hk6 g9 => ?_
  have z1 := hk1.size
  have z2 := hk2.size
  have z3 := hk3.size
  have z4 := hk4.size
  have z5 := hk5.size
  have z6 := hk6.size
  have s4 := lt_of_get g4
  have s6 := lt_of_get g6
  have s5 := lt_of_get g5
  have sv := lt_of_get gv
  have sD := lt_of_get gD
  have s9 := lt_of_get g9
  have hk46 : Kp no w3 w6 := hk4.then (hk5.then hk6)
  have hk06 : Kp no w w6 := hk1.then (hk2.then (hk3.then hk46))
  have q4 := hk46.at ((hk2.then hk3).at g4 nf) nf
  have q6 := hk46.at (hk3.at g6 nf) nf
  have q5 := hk46.at g5 nf
  have qv := (hk5.then hk6).at gv nf
  have qD := hk6.at gD nf
  obtain ⟨b, hp, hm⟩ := h
  have sb := lt_of_get hm
  have sp := lt_of_get hp
  have hp6 := hk06.at hp nf
  have hm6 : MapAt w6 b T := hk06.at hm nf
  have hL : LoopAt w6 l9 rc .ready none := LoopAt.of g9 hrc
  refine need_iff.2 ⟨by rfl, ?_⟩
  show Calls Cz.P 94 #[.func (.yield l9) #[] #[], .pointer (some ⟨k4, 0, none⟩), .pointer (some ⟨k6, 0, none⟩)] w6 _
  refine (K94 (I := I130 kv l9 rc w6) q4 q6 hp6 hm6 ⟨.refl _ _, ⟨_, qv, .nil _ _ _ _⟩, hL⟩ ?_ ?_).mono ?_
  · rintro d w' w'' S' ⟨h1, ⟨v, h2, h3⟩, h4⟩ hk hS
    have nv : ∀ {k o}, w'.heap[k]? = some o → (∀ a b c d, o ≠ .mapIter a b c d) → ¬ S' k := by
      intro k o ho hne hs'
      obtain ⟨_, x1, x2, x3, x4, hx⟩ := hS k hs'
      rw [ho] at hx; cases hx; exact hne _ _ _ _ rfl
    refine ⟨h1.trans hk (fun k hk h => by have := (hS k h).1; omega), ⟨v, hk.at h2 (nv h2 (by simp)), h3.keep hk ?_⟩, h4.keep hk (nv h4 (by simp))⟩
    intro k cs f hk' hc
    exact nv hc (by simp) hk'
  · rintro d x w' hxT hdlen hsz ⟨h1, ⟨v, h2, h3⟩, h4⟩
    show Rnd Cz.P l9 #[x.val] w' _
    refine B130_r1_rnd hrc h4 ?_
    unfold B130_r1
    refine nw_i fun k13 w10 e13 hk10 g13 => stL x (x := bare 0 0 0) g13 fun w11 hk11 g11 => ?_
    have hk46' : Kp no w' w11 := hk10.trans hk11 (fun b hb h => by omega)
    have z46 := hk46'.size
    have z10 := hk10.size
    have h2' := hk46'.at h2 nf
    have h3' := h3.keep hk46' .no
    have h4' := h4.keep hk46' nf
    refine ⟨rfl, none, h4', ?_⟩
    have hkb : Kp (fun k => k = l9) w11 (putLoop w11 l9 rc .busy none) := LoopAt.kp
    have hLb : LoopAt (putLoop w11 l9 rc .busy none) l9 rc .busy none := h4'.put
    have h3b : OwnS SL 49 (putLoop w11 l9 rc .busy none) w6.heap.size v d := h3'.keep hkb h4'.noT
    generalize putLoop w11 l9 rc .busy none = w21 at hkb hLb h3b
    have s13 := lt_of_get g11
    have hb2 := hkb.at h2' (by omega)
    have hb13 := hkb.at g11 (by omega)
    have zb := hkb.size
    obtain ⟨av, cv, rfl⟩ := h3b.slice
    have hdl : d.length ≤ 1073741824 := by omega
    obtain ⟨a1, n1, c1, w28, hr1, a2, n2, c2, w32, hr2, ho2, hk32⟩ := appE (ty := 59) E59 (by decide) (by decide) h3b x (cs := x.cells) rfl (by omega) hdl
    have n6 : ¬ (Value.slice av d.length cv).ownBlock = some kv := fun h => by have := h3b.base_le kv h; omega
    have n9 : ¬ (Value.slice av d.length cv).ownBlock = some l9 := h3b.ne hLb (by simp)
    have c6 := hk32.at hb2 n6
    refine ⟨_, _, _, cl hb2 rfl, rd8 (x := x) hb13 ⟨_, _, _, _, hr1, _, _, _, _, hr2, st_i c6 (by simp) fun w33 hk33 g33 => ⟨rfl, none, (hLb.keep hk32 n9).keep hk33 (by omega), rfl, ?_⟩⟩⟩
    have hL33 := (hLb.keep hk32 n9).keep hk33 (by omega)
    have hkp : Kp (fun k => k = l9) w33 (putLoop w33 l9 rc .ready none) := LoopAt.kp
    have hkk : Kp (fun k => k = kv ∨ k = l9 ∨ (Value.slice av d.length cv).ownBlock = some k) w' (putLoop w33 l9 rc .ready none) :=
      ((((hk46'.then hkb).mono (S' := fun k => k = kv ∨ k = l9 ∨ (Value.slice av d.length cv).ownBlock = some k) (fun _ _ h => .inr (.inl h))).trans hk32 (fun k _ h => .inr (.inr h))).trans hk33 (fun _ _ h => .inl h)).trans hkp (fun _ _ h => .inr (.inl h))
    refine ⟨⟨_, hkk, ?_⟩, ?_, ⟨_, hkp.at g33 (by omega), ?_⟩, hL33.put⟩
    · rintro k (rfl | rfl | hk)
      · exact ⟨_, h2, .inr (.inl ⟨_, rfl⟩)⟩
      · exact ⟨_, h4, .inr (.inr ⟨_, rfl⟩)⟩
      · obtain ⟨cs, hcs⟩ := h3.type hk
        exact ⟨_, hcs, .inl ⟨_, rfl⟩⟩
    · exact h1.trans hkk (fun k hk h => by
        rcases h with h | h | h
        · exact .inl h
        · exact .inr h
        · have := (h3.base_le k h).1; omega)
    · exact (ho2.keep hk33 (.one c6 (by decide))).keep hkp hL33.noT
  · intro e w' hp
    cases e with
    | returned r =>
      obtain ⟨rfl, d, hperm, h1, ⟨v, h2, h3⟩, h4⟩ := hp
      refine ⟨.ready, none, h4, by simp, ?_⟩
      have hkp : Kp (fun k => k = l9) w' (putLoop w' l9 rc .exhausted none) := LoopAt.kp
      obtain ⟨av, cv, rfl⟩ := h3.slice
      have hk30 : Kp (fun b => b = kv ∨ b = l9) w6 (putLoop w' l9 rc .exhausted none) := h1.trans hkp (fun _ _ h => .inr h)
      have qD' := hk30.at qD (by omega)
      have hkD : Kp (fun k => k = D) (putLoop w' l9 rc .exhausted none) ((putLoop w' l9 rc .exhausted none).putObj D (.deferred none)) := .put _ _ _
      have h3' : OwnS SL 49 ((putLoop w' l9 rc .exhausted none).putObj D (.deferred none)) w6.heap.size (.slice av d.length cv) d := (h3.keep hkp h4.noT).keep hkD (.obj qD' (by simp))
      have hk6D : Kp (fun b => b = kv ∨ b = l9 ∨ b = D) w6 ((putLoop w' l9 rc .exhausted none).putObj D (.deferred none)) :=
        (hk30.mono (S' := fun b => b = kv ∨ b = l9 ∨ b = D) (fun _ _ h => by rcases h with h | h <;> simp [h])).trans hkD (fun _ _ h => .inr (.inr h))
      have q5' := hk6D.at q5 (by omega)
      have hdl : d.length = T.length := hperm.length_eq
      refine ⟨_, _, _, cl (hkp.at h2 (by omega)) rfl, qD', _, _, _, rfl, _, _, _, rfl, (K119 h3' (by omega) q5').mono fun e wz hp => ?_⟩
      cases e with
      | returned r =>
        obtain ⟨rfl, hkz, ys, hys1, hys2, hys3⟩ := hp
        have heq : ys = T := by
          refine List.Perm.eq_of_pairwise (le := fun x y : Ls => x.addr ≤ y.addr) ?_ hys2 (hs.imp fun {x y} h => by omega) (hys1.trans hperm)
          intro x y hx hy h1 h2
          have hxT : x ∈ T := (hys1.trans hperm).mem_iff.1 hx
          obtain ⟨i, hi, rfl⟩ := List.mem_iff_getElem.1 hxT
          obtain ⟨j, hj, rfl⟩ := List.mem_iff_getElem.1 hy
          rcases Nat.lt_trichotomy i j with h | h | h
          · have := List.pairwise_iff_getElem.1 hs i j hi hj h; omega
          · subst h; rfl
          · have := List.pairwise_iff_getElem.1 hs j i hj hi h; omega
        subst heq
        refine ⟨rfl, _, _, _, rfl, _, _, _, rfl, ?_, _, _, _, rfl, hys3⟩
        refine (hk06.trans hk6D (fun k hk h => by omega)).trans hkz (fun k hk h => ?_)
        have := (h3'.base_le k h).1
        omega
      | _ => exact hp
    | _ => exact hp.elim
end Go.Lf
end
