/- Part 19 of the lemmas that a proof leans on; no claim is made here. By an AI agent. -/
import Derived.Test.YtofhodpdfbnkiaaGreatLfD13
import Derived.Test.YtofhodpdfbnkiaaGreatLfD14
import Derived.Test.YtofhodpdfbnkiaaGreatLfD15
import Derived.Test.YtofhodpdfbnkiaaGreatLfD16
import Derived.Test.YtofhodpdfbnkiaaGreatLfD18
section
set_option linter.unusedVariables false
set_option linter.unusedSimpArgs false
namespace Go.Lf
open Go Go.Proofs

theorem E22b0 (w : World) : ∃ a n c w', (Instr.buildSlice 22 0 #[]).run Cz.P w = .ok (.slice a n c) w' ∧ Kp no w w' ∧ OwnB w' w.heap.size (.slice a n c) [] := by
  refine ⟨_, _, _, _, E22.built [] (by simp) (by simp) w, .alloc _ _ _, ?_⟩
  exact World.ownsRow_made w _ 0 (Nat.le_refl _) (Nat.zero_le _) (by simp)
/-- append of bytes to bytes of one's own -/
theorem appB {w : World} {base : Nat} {v s : Value} {l m : List UInt8} {ty : TypeId} (h : OwnB w base v l) (hs : Bs w s m) (hb : base ≤ w.heap.size) (hn : (l ++ m).length ≤ 1099511627776) :
    ∃ a n c w', (Builtin.append_ #[22, 22] ty #[v, s]).run Cz.P w = .ok (.slice a n c) w' ∧ OwnB w' base (.slice a n c) (l ++ m) ∧ Kp (fun k => v.ownBlock = some k) w w' := by
  rw [List.length_append] at hn
  obtain ⟨a, n, c, w', hr, ho, hk⟩ := E22.app (ty := ty) (by decide) h hs (bvs_one m) (by unfold maxLen; omega) (by omega) hb
  refine ⟨a, n, c, w', hr, ?_, hk⟩
  unfold OwnB
  rw [List.length_append, bvs_append]
  exact ho
theorem OwnB.base_le {w : World} {base : Nat} {v : Value} {l : List UInt8} (h : OwnB w base v l) : ∀ k, v.ownBlock = some k → base ≤ k := fun k hk => (World.ownsRow.lt h k hk).1
/-- append to a fresh row keeps what was there at the base -/
theorem Kp.own {w0 w w' : World} {v : Value} {l : List UInt8} (h : Kp no w0 w) (ho : OwnB w w0.heap.size v l) (h' : Kp (fun k => v.ownBlock = some k) w w') : Kp no w0 w' :=
  h.trans h' (fun k hk hs => by have := ho.base_le k hs; omega)

theorem K12 {p : Nat} {w : World} {D : Dk} {a : Option Addr} {n c : Nat} {l : List UInt8} (h : DkAt 54 w p D) (hD : D.ok) (hv : Bs w (.slice a n c) l) (hl : l.length ≤ 1099511627) :
    Calls Cz.P 12 #[.pointer (some ⟨p, 0, none⟩), .slice a n c] w (CP (fun r w' => Kp (fun k => k = p) w w' ∧ r = .int .i64 (D.append l).1 ∧ DkAt 54 w' p (D.append l).2) (fun _ _ => False)) := by
  refine C12 ?_
  have hb := bl_bound hD
  have hn := hv.cap.1
  subst hn
  unfold B12
  refine (K36 h hD).mono fun e w1 hp => ?_
  cases e with
  | returned r =>
    obtain ⟨hk1, rfl, h1⟩ := hp
    refine ⟨_, rfl, ifB_dec (fun hi => ?_) (fun hi => ?_)⟩
    · refine ⟨hk1, ?_, ?_⟩ <;> simp only [Dk.append, Dk.change, hi, if_true]
      rwa [dec_no (by omega)] at h1
    · obtain ⟨a1, c1, g1, hs⟩ := h1.open
      simp only [nn_some, addk, Nat.reduceAdd, Nat.zero_add]
      have hkd : Kp (fun k => k = p) w w1.drew := hk1.trans (.drew no _) (fun _ _ h => h.elim)
      refine ⟨_, _, _, cl (w := w1) g1 rfl, _, cl (w := w1) g1 rfl, ?_⟩
      rw [wrap64 (by simp [Dk.dec]; omega) (by simp [Dk.dec]; omega)]
      refine ifB_dec (fun hg => ?_) (fun hg => ?_)
      · refine ⟨hkd, ?_, ?_⟩ <;> simp only [Dk.append, Dk.change, hi, if_false, if_pos (show (D.b.length : Int) + l.length > D.room from hg)]
        exact h1
      · obtain ⟨a2, n2, c2, w2, hr2, hk2, ho2⟩ := E22b0 w1.drew
        have hs2 : OwnB w2 0 (.slice a1 D.b.length c1) D.b := own_keep (w := w1.drew) hs hk2 .no
        have g2 := hk2.at (w := w1.drew) g1 nf
        obtain ⟨a3, n3, c3, w3, hr3, ho3, hk3⟩ := appB (ty := 22) ho2 hs2.bs hk2.size (by simp; omega)
        have hk3' : Kp no w1.drew w3 := hk2.own ho2 hk3
        have hv3 : Bs w3 (.slice a l.length c) l := (hv.keepU hkd h.noU).keep hk3' (fun _ _ _ _ => nf)
        obtain ⟨a4, n4, c4, w4, hr4, ho4, hk4⟩ := appB (ty := 22) ho3 hv3 hk3'.size (by simp; omega)
        have hk4' : Kp no w1.drew w4 := hk3'.own ho3 hk4
        refine ⟨_, _, _, _, hr2, _, _, _, cl g2 rfl, _, _, _, _, hr3, _, _, _, _, hr4, ?_⟩
        have g4 := hk4'.at (w := w1.drew) g1 nf
        refine st_i g4 (by simp) fun w5 hk5 g5 => ?_
        refine ⟨(hkd.trans hk4' (fun _ _ h => h.elim)).trans hk5 (fun _ _ h => h), ?_, ?_⟩ <;> simp only [Dk.append, Dk.change, hi, if_false, if_neg (show ¬ ((D.b.length : Int) + l.length > D.room) from hg)]
        refine ⟨_, g5, own_keep (own_base ho4 (Nat.zero_le _) : OwnB w4 0 _ _) hk5 (.one g4 (by decide))⟩
  | _ => exact hp

theorem K87 {p : Nat} {w : World} {D : Dk} (h : DkAt 54 w p D) (hD : D.ok) :
    Calls Cz.P 87 #[.pointer (some ⟨p, 0, none⟩)] w (CP (fun r w' => Kp (fun k => k = p) w w' ∧ r = .int .i64 D.sync.1 ∧ DkAt 54 w' p D.sync.2) (fun _ _ => False)) := by
  refine C87 ?_
  unfold B87
  refine (K36 h hD).mono fun e w1 hp => ?_
  cases e with
  | returned r =>
    obtain ⟨hk1, rfl, h1⟩ := hp
    refine ⟨_, rfl, ifB_dec (fun hi => ?_) (fun hi => ?_)⟩
    · refine ⟨hk1, ?_, ?_⟩ <;> simp only [Dk.sync, Dk.change, hi, if_true]
      rwa [dec_no (by omega)] at h1
    · obtain ⟨a1, c1, g1, hs⟩ := h1.open
      simp only [nn_some, addk, Nat.reduceAdd, Nat.zero_add]
      refine ⟨_, _, _, cl g1 rfl, st_i g1 (by simp) fun w5 hk5 g5 => ?_⟩
      refine ⟨hk1.trans hk5 (fun _ _ h => h), ?_, ?_⟩ <;> simp only [Dk.sync, Dk.change, hi, if_false, if_neg (show ¬ ((0 : Int) > D.room) from by have := hD.r1; omega)]
      exact ⟨_, g5, own_keep hs hk5 (.one g1 (by decide))⟩
  | _ => exact hp

theorem K79 {p : Nat} {w : World} {D : Dk} {a : Option Addr} {n c : Nat} {l : List UInt8} (h : DkAt 54 w p D) (hD : D.ok) (hv : Bs w (.slice a n c) l) (hl : l.length ≤ 1099511627) :
    Calls Cz.P 79 #[.pointer (some ⟨p, 0, none⟩), .slice a n c] w (CP (fun r w' => Kp (fun k => k = p) w w' ∧ r = .int .i64 (D.swap l).1 ∧ DkAt 54 w' p (D.swap l).2) (fun _ _ => False)) := by
  refine C79 ?_
  have hn := hv.cap.1
  subst hn
  unfold B79
  refine (K36 h hD).mono fun e w1 hp => ?_
  cases e with
  | returned r =>
    obtain ⟨hk1, rfl, h1⟩ := hp
    refine ⟨_, rfl, ifB_dec (fun hi => ?_) (fun hi => ?_)⟩
    · refine ⟨hk1, ?_, ?_⟩ <;> simp only [Dk.swap, Dk.change, hi, if_true]
      rwa [dec_no (by omega)] at h1
    · obtain ⟨a1, c1, g1, hs⟩ := h1.open
      simp only [nn_some, addk, Nat.reduceAdd, Nat.zero_add]
      refine ⟨_, cl g1 rfl, ?_⟩
      refine ifB_dec (fun hg => ?_) (fun hg => ?_)
      · refine ⟨hk1, ?_, ?_⟩ <;> simp only [Dk.swap, Dk.change, hi, if_false, if_pos (show (l.length : Int) > D.room from hg)]
        exact h1
      · obtain ⟨a2, n2, c2, w2, hr2, hk2, ho2⟩ := E22b0 w1
        have hv2 : Bs w2 (.slice a l.length c) l := (hv.keepU hk1 h.noU).keep hk2 (fun _ _ _ _ => nf)
        obtain ⟨a3, n3, c3, w3, hr3, ho3, hk3⟩ := appB (ty := 22) ho2 hv2 hk2.size (by simp; omega)
        have hk3' : Kp no w1 w3 := hk2.own ho2 hk3
        refine ⟨_, _, _, _, hr2, _, _, _, _, hr3, ?_⟩
        have g3 := hk3'.at g1 nf
        refine st_i g3 (by simp) fun w5 hk5 g5 => st_i g5 (by simp) fun w6 hk6 g6 => ?_
        refine ⟨((hk1.trans hk3' (fun _ _ h => h.elim)).trans hk5 (fun _ _ h => h)).trans hk6 (fun _ _ h => h), ?_, ?_⟩ <;> simp only [Dk.swap, Dk.change, hi, if_false, if_neg (show ¬ ((l.length : Int) > D.room) from hg)]
        exact ⟨_, g6, own_keep (own_keep (own_base ho3 (Nat.zero_le _) : OwnB w3 0 _ _) hk5 (.one g3 (by decide))) hk6 (.one g5 (by decide))⟩
  | _ => exact hp

theorem K53 {p : Nat} {k : Int} {w : World} {D : Dk} (h : DkAt 54 w p D) (hD : D.ok) :
    Calls Cz.P 53 #[.pointer (some ⟨p, 0, none⟩), .int .i64 k] w (CP (fun r w' => Kp (fun k => k = p) w w' ∧ r = .tuple #[] ∧ DkAt 54 w' p (D.crash k)) (fun _ _ => False)) := by
  refine C53 ?_
  obtain ⟨a, c, h1, hs⟩ := h.open
  have hb := bl_bound hD
  have hk := Dk.kept_le hD k
  have hcap := hs.bs.cap
  have hkd : Kp no w w.drew.drew := (Kp.drew no w).then (.drew no _)
  have hbs : Bs w.drew.drew (.slice a D.b.length c) D.b := hs.bs.keep hkd (fun _ _ _ _ => nf)
  unfold B53
  simp only [nn_some, addk, Nat.reduceAdd, Nat.zero_add]
  refine ⟨_, _, _, cl (w := w) h1 rfl, _, cl (w := w) h1 rfl, _, _, _, cl (w := w) h1 rfl, _, cl (w := w) h1 rfl, ?_⟩
  rw [kept_wrap hD]
  refine need_and (dec (by omega)) (dec (by omega)) (need_and rfl (dec (by omega)) ?_)
  rw [Int.toNat_natCast]
  obtain ⟨a2, n2, c2, w2, hr2, hk2, ho2⟩ := E22b0 w.drew.drew
  have hcut := (hbs.cut (lo := 0) (hi := D.kept k) (Nat.zero_le _) hk.1).keep hk2 (fun _ _ _ _ => nf)
  rw [List.drop_zero, Nat.sub_zero, Nat.sub_zero] at hcut
  obtain ⟨a3, n3, c3, w3, hr3, ho3, hk3⟩ := appB (ty := 22) ho2 hcut hk2.size (by simp; omega)
  have hk3' : Kp no w.drew.drew w3 := hk2.own ho2 hk3
  have h1' := hk3'.at (w := w.drew.drew) h1 nf
  have hn3 : n3 = D.kept k := by
    obtain ⟨_, _, hx⟩ := own_slice ho3
    cases hx; simp; omega
  subst hn3
  rw [Nat.sub_zero, Nat.sub_zero]
  refine ⟨_, _, _, _, hr2, ⟨⟨hk2.cellD (w := w.drew.drew) h1 nf, trivial⟩, ⟨hk2.cellD (w := w.drew.drew) h1 nf, trivial⟩, trivial⟩, _, _, _, _, hr3, trivial, ?_⟩
  refine st_i h1' (by simp) fun w4 hk4 h2 => ⟨_, _, _, cl h2 rfl, st_i h2 (by simp) fun w5 hk5 h5 => st_i h5 (by simp) fun w6 hk6 h6 => ⟨?_, trivial, _, h6, ?_⟩⟩
  · exact hkd.then (hk3'.then ((hk4.trans hk5 (fun _ _ h => h)).trans hk6 (fun _ _ h => h)))
  · exact own_keep (own_keep (own_keep (own_base ho3 (Nat.zero_le _) : OwnB w3 0 _ _) hk4 (.one h1' (by decide))) hk5 (.one h2 (by decide))) hk6 (.one h5 (by decide))
end Go.Lf
end

section
set_option linter.unusedVariables false
set_option linter.unusedSimpArgs false
namespace Go.Lf
open Go Go.Proofs

def hi8 (n : Nat) : UInt8 := UInt8.ofNat (n / 256)
def lo8 (n : Nat) : UInt8 := UInt8.ofNat n
/-- a record as a frame -/
def put (l : List UInt8) : List UInt8 := [hi8 l.length, lo8 l.length] ++ l ++ [90]
theorem bv_ofNat (n : Nat) : bv (UInt8.ofNat n) = .int .u8 (IntKind.u8.wrap (n : Int)) := by
  unfold bv; rw [IntKind.wrap_u8]; simp
theorem fdiv_nat (n k : Nat) : Int.fdiv (n : Int) (k : Int) = ((n / k : Nat) : Int) := by
  rw [Int.fdiv_eq_ediv_of_nonneg _ (by omega)]; omega
theorem tdiv_nat (n k : Nat) : Int.tdiv (n : Int) (k : Int) = ((n / k : Nat) : Int) := by
  rw [Int.tdiv_eq_ediv_of_nonneg (by omega)]; omega
theorem tmod_nat (n k : Nat) : Int.tmod (n : Int) (k : Int) = ((n % k : Nat) : Int) := by
  rw [Int.tmod_eq_emod_of_nonneg (by omega)]; omega

theorem E22b {w : World} (l : List UInt8) (hl : l.length ≤ 16777216) (ps : Array (Nat × Value)) (hp : ps = ((List.range' 0 (bvs l).length).zip (bvs l)).toArray) :
    ∃ a n c w', (Instr.buildSlice 22 l.length ps).run Cz.P w = .ok (.slice a n c) w' ∧ Kp no w w' ∧ OwnB w' w.heap.size (.slice a n c) l := by
  subst hp
  have := E22.built (bvs l) (bvs_one l) (by simpa using hl) w
  rw [show l.length = (bvs l).length from (bvs_length l).symm]
  refine ⟨_, _, _, _, this, .alloc _ _ _, ?_⟩
  unfold OwnB
  have hm : l.length ≤ maxLen := by unfold maxLen; omega
  exact ⟨by rw [bvs_length, Nat.mul_one], .inr ⟨w.heap.size, l.length, (bvs l).toArray, by rw [bvs_length], Nat.le_refl _, get_alloc_new _ _, Nat.le_refl _, hm, by rw [List.size_toArray, bvs_length, Nat.mul_one], by
    rw [Nat.mul_one]; exact List.take_of_length_le (by rw [bvs_length]; exact Nat.le_refl _)⟩⟩

/-- what Put does behind its test -/
theorem put_run {w : World} {a : Option Addr} {n c : Nat} {l : List UInt8} (hv : Bs w (.slice a n c) l) (h1 : l.length ≤ 1000) {x y : Value} (hx : x = bv (hi8 l.length)) (hy : y = bv (lo8 l.length)) {K : Value → World → Prop}
    (k : ∀ w' a n c, Kp no w w' → OwnB w' w.heap.size (.slice a n c) (put l) → K (.slice a n c) w') :
    ∃ (a7 : Option Addr) (n8 : Nat) (c9 : Nat), ∃ w10 : World, Sem.run Cz.P (Instr.buildSlice 22 2 #[(0, x), (1, y)]) w = .ok (.slice a7 n8 c9) w10 ∧ ∃ (a11 : Option Addr) (n12 : Nat) (c13 : Nat), ∃ w14 : World, Sem.run Cz.P (Builtin.append_ #[22, 22] 22 #[(.slice a7 n8 c9), (.slice a n c)]) w10 = .ok (.slice a11 n12 c13) w14 ∧ ∃ (a15 : Option Addr) (n16 : Nat) (c17 : Nat), ∃ w18 : World, Sem.run Cz.P (Instr.buildSlice 22 1 #[(0, (.int .u8 90))]) w14 = .ok (.slice a15 n16 c17) w18 ∧ ∃ (a19 : Option Addr) (n20 : Nat) (c21 : Nat), ∃ w22 : World, Sem.run Cz.P (Builtin.append_ #[22, 22] 22 #[(.slice a11 n12 c13), (.slice a15 n16 c17)]) w18 = .ok (.slice a19 n20 c21) w22 ∧ K (.slice a19 n20 c21) w22 := by
  subst hx; subst hy
  obtain ⟨a1, n1, c1, w1, hr1, hk1, ho1⟩ := E22b (w := w) [hi8 l.length, lo8 l.length] (by simp) #[(0, bv (hi8 l.length)), (1, bv (lo8 l.length))] rfl
  obtain ⟨a2, n2, c2, w2, hr2, ho2, hk2⟩ := appB (ty := 22) ho1 (hv.keep hk1 (fun _ _ _ _ => nf)) hk1.size (by simp; omega)
  have hk2' : Kp no w w2 := hk1.own ho1 hk2
  obtain ⟨a3, n3, c3, w3, hr3, hk3, ho3⟩ := E22b (w := w2) [90] (by simp) #[(0, bv 90)] rfl
  have ho2' : OwnB w3 w.heap.size (.slice a2 n2 c2) _ := own_keep ho2 hk3 .no
  have hk3' : Kp no w w3 := hk2'.then hk3
  obtain ⟨a4, n4, c4, w4, hr4, ho4, hk4⟩ := appB (ty := 22) ho2' ho3.bs hk3'.size (by simp; omega)
  exact ⟨_, _, _, _, hr1, _, _, _, _, hr2, _, _, _, _, hr3, _, _, _, _, hr4, k _ _ _ _ (hk3'.own ho2' hk4) ho4⟩

def PutPost (w : World) (l : List UInt8) (r : Value) (w' : World) : Prop := Kp no w w' ∧
    ((¬ (1 ≤ l.length ∧ l.length ≤ 1000) ∧ r = .tuple #[.slice none 0 0, .int .i64 1]) ∨
     ((1 ≤ l.length ∧ l.length ≤ 1000) ∧ ∃ a n c, r = .tuple #[.slice a n c, .int .i64 0] ∧ OwnB w' w.heap.size (.slice a n c) (put l)))
theorem K96 {w : World} {a : Option Addr} {n c : Nat} {l : List UInt8} (hv : Bs w (.slice a n c) l) : Calls Cz.P 96 #[.slice a n c] w (CP (PutPost w l) (fun _ _ => False)) := by
  refine C96 ?_
  have hn := hv.cap.1
  subst hn
  unfold B96 B96_j1
  refine ifB_dec (fun h => ?_) (fun h => ifB_dec (fun h' => ?_) (fun h' => ?_))
  · exact ⟨.refl _ _, .inl ⟨by omega, rfl⟩⟩
  · exact ⟨.refl _ _, .inl ⟨by omega, rfl⟩⟩
  · refine put_run (K := fun v w' => PutPost w l (.tuple #[v, .int .i64 0]) w') hv (by omega) ?_ ?_ (fun w' a n c hk ho => ⟨hk, .inr ⟨by omega, _, _, _, rfl, ho⟩⟩)
    · unfold hi8; rw [bv_ofNat, ← fdiv_nat]; rfl
    · unfold lo8; rw [bv_ofNat]
theorem K117 {w : World} {a : Option Addr} {n c : Nat} {l : List UInt8} (hv : Bs w (.slice a n c) l) : Calls Cz.P 117 #[.slice a n c] w (CP (PutPost w l) (fun _ _ => False)) := by
  refine C117 ?_
  have hn := hv.cap.1
  subst hn
  unfold B117 B117_j1
  refine ifB_dec (fun h => ?_) (fun h => ifB_dec (fun h' => ?_) (fun h' => ?_))
  · exact ⟨.refl _ _, .inl ⟨by omega, rfl⟩⟩
  · exact ⟨.refl _ _, .inl ⟨by omega, rfl⟩⟩
  · refine put_run (K := fun v w' => PutPost w l (.tuple #[v, .int .i64 0]) w') hv (by omega) ?_ ?_ (fun w' a n c hk ho => ⟨hk, .inr ⟨by omega, _, _, _, rfl, ho⟩⟩)
    · have h2 : Int.tdiv (l.length : Int) 256 = ((l.length / 256 : Nat) : Int) := tdiv_nat l.length 256
      unfold hi8; rw [bv_ofNat, h2, wrap64 (by omega) (by omega)]
    · unfold lo8; rw [bv_ofNat]
      have := tmod_nat l.length 256
      rw [show ((256 : Int)) = ((256 : Nat) : Int) from rfl, this, IntKind.wrap_u8, IntKind.wrap_u8]
      congr 1
      omega
/-- bytes.Clone -/
theorem K128 {w : World} {a : Option Addr} {n c : Nat} {l : List UInt8} (hv : Bs w (.slice a n c) l) (hl : l.length ≤ 1099511627776) :
    Calls Cz.P 128 #[.slice a n c] w (CP (fun r w' => Kp no w w' ∧ ∃ a n c, r = .slice a n c ∧ OwnB w' w.heap.size r l) (fun _ _ => False)) := by
  refine C128 ?_
  have hn := hv.cap.1
  subst hn
  unfold B128
  refine ifB_split (fun h => ?_) (fun h => ?_)
  · have h0 : l = [] := by
      obtain ⟨hl, ⟨hx, hn⟩ | ⟨p, c', hx, h1, _⟩⟩ := hv
      · exact List.eq_nil_of_length_eq_zero hn
      · cases hx; cases h
    subst h0
    exact ⟨.refl _ _, _, _, _, rfl, World.ownsRow_nil _ _ _ _⟩
  · obtain ⟨a1, n1, c1, w1, hr1, hk1, ho1⟩ := E22b0 w
    obtain ⟨a2, n2, c2, w2, hr2, ho2, hk2⟩ := appB (ty := 22) ho1 (hv.keep hk1 (fun _ _ _ _ => nf)) hk1.size (by simpa using hl)
    exact ⟨_, _, _, _, hr1, _, _, _, _, hr2, hk1.own ho1 hk2, _, _, _, rfl, ho2⟩
end Go.Lf
end

section
set_option linter.unusedVariables false
set_option linter.unusedSimpArgs false
namespace Go.Lf
open Go Go.Proofs

def nn2 (b : List UInt8) : Nat := (b.getD 0 0).toNat * 256 + (b.getD 1 0).toNat
def frOk (b : List UInt8) : Bool := decide (2 < b.length ∧ 1 ≤ nn2 b ∧ nn2 b ≤ 1000 ∧ 3 + nn2 b ≤ b.length ∧ b.getD (2 + nn2 b) 0 = 90)
/-- the records of bytes, and how many bytes these have -/
def scan (b : List UInt8) : List (List UInt8) × Nat :=
  if h : frOk b = true then ((b.drop 2).take (nn2 b) :: (scan (b.drop (3 + nn2 b))).1, 3 + nn2 b + (scan (b.drop (3 + nn2 b))).2) else ([], 0)
  termination_by b.length
  decreasing_by all_goals (simp [frOk] at h; simp; omega)
theorem scan_yes {b : List UInt8} (h : frOk b = true) : scan b = ((b.drop 2).take (nn2 b) :: (scan (b.drop (3 + nn2 b))).1, 3 + nn2 b + (scan (b.drop (3 + nn2 b))).2) := by rw [scan, dif_pos h]
theorem scan_no {b : List UInt8} (h : ¬ frOk b = true) : scan b = ([], 0) := by rw [scan, dif_neg h]
/-- where a walk through the frames stands -/
def ScanAt (l : List UInt8) (done : List (List UInt8)) (at_ : Nat) : Prop := at_ ≤ l.length ∧ scan l = (done ++ (scan (l.drop at_)).1, at_ + (scan (l.drop at_)).2)
theorem ScanAt.zero (l : List UInt8) : ScanAt l [] 0 := ⟨Nat.zero_le _, by simp⟩
theorem ScanAt.stop {l : List UInt8} {done : List (List UInt8)} {at_ : Nat} (h : ScanAt l done at_) (hn : ¬ frOk (l.drop at_) = true) : scan l = (done, at_) := by
  rw [h.2, scan_no hn]; simp
theorem ScanAt.step {l : List UInt8} {done : List (List UInt8)} {at_ : Nat} (h : ScanAt l done at_) (hn : frOk (l.drop at_) = true) :
    ScanAt l (done ++ [((l.drop at_).drop 2).take (nn2 (l.drop at_))]) (at_ + (3 + nn2 (l.drop at_))) := by
  have hf := hn
  simp [frOk] at hf
  refine ⟨by omega, ?_⟩
  rw [h.2, scan_yes hn, List.drop_drop]
  simp
  omega
theorem bt_lt (x : UInt8) : x.toNat < 256 := x.toNat_lt
theorem Bs.at {w : World} {a : Option Addr} {n c i : Nat} {l : List UInt8} (h : Bs w (.slice a n c) l) (hi : i < l.length) : ∃ q, a = some q ∧ w.cell? (q.add i) = some (bv (l.getD i 0)) := by
  obtain ⟨hl, ⟨hx, hn⟩ | ⟨p, c', hx, h3, h4, h5, h6⟩⟩ := h
  · omega
  · cases hx
    refine ⟨p, rfl, h6 i _ ?_⟩
    unfold bvs
    rw [List.getElem?_map, List.getElem?_eq_getElem hi, List.getD_eq_getElem?_getD, List.getElem?_eq_getElem hi]
    rfl

/-- slices of bytes, all of one's own -/
def OwnBss (w : World) (base : Nat) (v : Value) (ls : List (List UInt8)) : Prop :=
  ∃ ss, w.ownsRow base 22 1 v ls.length ss ∧ ∀ (i : Nat) (h : i < ls.length), ∃ u, ss[i]? = some u ∧ OwnB w base u ls[i]
theorem OwnBss.nil (w : World) (base : Nat) : OwnBss w base (.slice none 0 0) [] := ⟨[], World.ownsRow_nil _ _ _ _, fun i h => by simp at h⟩
theorem OwnBss.keep {w w' : World} {base : Nat} {v : Value} {ls : List (List UInt8)} {S : Nat → Prop} (h : OwnBss w base v ls) (k : Kp S w w') (h22 : NoT 22 S w) (h5 : NoT 5 S w) : OwnBss w' base v ls := by
  obtain ⟨ss, ho, hs⟩ := h
  exact ⟨ss, own_keep ho k h22, fun i hi => let ⟨u, h1, h2⟩ := hs i hi; ⟨u, h1, own_keep h2 k h5⟩⟩
theorem OwnBss.slice {w : World} {base : Nat} {v : Value} {ls : List (List UInt8)} (h : OwnBss w base v ls) : ∃ a c, v = .slice a ls.length c := by
  obtain ⟨ss, ho, hs⟩ := h; exact own_slice ho
theorem NoT.own {w : World} {base : Nat} {e e' : TypeId} {size n : Nat} {v : Value} {xs : List Value} (h : w.ownsRow base e size v n xs) (hne : e ≠ e') : NoT e' (fun k => v.ownBlock = some k) w := by
  intro b cs f hb hc
  obtain ⟨_, ⟨rfl, _⟩ | ⟨g, cap, cur, rfl, _, hg, _⟩⟩ := h
  · cases hb
  · simp [Value.ownBlock] at hb
    subst hb
    rw [hg] at hc
    cases hc
    exact hne rfl
theorem OwnBss.base_le {w : World} {base : Nat} {v : Value} {ls : List (List UInt8)} (h : OwnBss w base v ls) : ∀ k, v.ownBlock = some k → base ≤ k := fun k hk => by
  obtain ⟨ss, ho, _⟩ := h; exact (World.ownsRow.lt ho k hk).1
theorem OwnBss.base {w : World} {base base' : Nat} {v : Value} {ls : List (List UInt8)} (h : OwnBss w base v ls) (hb : base' ≤ base) : OwnBss w base' v ls := by
  obtain ⟨ss, ho, hs⟩ := h
  exact ⟨ss, own_base ho hb, fun i hi => let ⟨u, h1, h2⟩ := hs i hi; ⟨u, h1, own_base h2 hb⟩⟩
theorem appBss {w : World} {base : Nat} {v : Value} {ls : List (List UInt8)} {a : Option Addr} {n c : Nat} {l : List UInt8} {ty : TypeId} (h : OwnBss w base v ls) (he : OwnB w base (.slice a n c) l) (hb : base ≤ w.heap.size) (hn : ls.length ≤ 1099511627776) :
    ∃ a1 n1 c1 w1, (Instr.buildSlice 56 1 #[(0, .slice a n c)]).run Cz.P w = .ok (.slice a1 n1 c1) w1 ∧ ∃ a2 n2 c2 w2, (Builtin.append_ #[56, 56] ty #[v, .slice a1 n1 c1]).run Cz.P w1 = .ok (.slice a2 n2 c2) w2 ∧
      OwnBss w2 base (.slice a2 n2 c2) (ls ++ [l]) ∧ Kp (fun k => v.ownBlock = some k) w w2 := by
  refine ⟨_, _, _, _, E56b1 w _ rfl, ?_⟩
  have hk : Kp no w (w.alloc (.cells #[.slice a n c] 22)) := .alloc _ _ _
  have hg := get_alloc_new w (.cells #[.slice a n c] 22)
  have h' := h.keep hk .no .no
  have he' : OwnB (w.alloc (.cells #[.slice a n c] 22)) base (.slice a n c) l := own_keep he hk .no
  obtain ⟨ss, ho, hs⟩ := h'
  obtain ⟨a2, n2, c2, w2, hr, ho2, hk2⟩ := E56.app (ty := ty) (by decide) ho (m := 1) (Sl.lit (cs := [.slice a n c]) hg rfl (by unfold maxLen; omega)) (by simp [Value.oneCell']) (by unfold maxLen; omega) (by omega) (Nat.le_trans hb hk.size)
  refine ⟨_, _, _, _, hr, ⟨ss ++ [.slice a n c], by rw [List.length_append]; exact ho2, ?_⟩, hk.then hk2⟩
  have h5 := NoT.own ho (e' := 5) (by decide)
  have hlen : ss.length = ls.length := by have := ho.1; omega
  intro i hi
  rcases Nat.lt_or_ge i ls.length with h1 | h1
  · obtain ⟨u, h3, h4⟩ := hs i h1
    exact ⟨u, by rw [List.getElem?_append_left (by omega)]; exact h3, by rw [List.getElem_append_left h1]; exact own_keep h4 hk2 h5⟩
  · have hi' : i = ls.length := by simp at hi; omega
    subst hi'
    refine ⟨.slice a n c, by rw [List.getElem?_append_right (by omega)]; simp [hlen], ?_⟩
    rw [List.getElem_append_right (Nat.le_refl _)]
    simp only [Nat.sub_self, List.getElem_cons_zero]
    exact own_keep he' hk2 h5
theorem Kp.ownBss {w0 w w' : World} {v : Value} {ls : List (List UInt8)} (h : Kp no w0 w) (ho : OwnBss w w0.heap.size v ls) (h' : Kp (fun k => v.ownBlock = some k) w w') : Kp no w0 w' :=
  h.trans h' (fun k hk hs => by have := ho.base_le k hs; omega)

def ScanPost (w : World) (l : List UInt8) (r : Value) (w' : World) : Prop := Kp no w w' ∧ ∃ a n c, r = .tuple #[.slice a n c, .int .i64 ((scan l).2 : Int)] ∧ OwnBss w' w.heap.size (.slice a n c) (scan l).1

def J78 (l : List UInt8) (w : World) (vs : List Value) (w' : World) : Prop :=
  match vs with
  | [v, .int _ x] => Kp no w w' ∧ ∃ done at_, OwnBss w' w.heap.size v done ∧ x = ((at_ : Nat) : Int) ∧ done.length ≤ at_ ∧ ScanAt l done at_
  | _ => False
def M78 (l : List UInt8) (vs : List Value) (_ : World) : Nat := match vs with | [_, .int _ x] => l.length - x.toNat | _ => 0
theorem K78 {w : World} {a : Option Addr} {n c : Nat} {l : List UInt8} (hv : Bs w (.slice a n c) l) (hl : l.length ≤ 1099511627) :
    Calls Cz.P 78 #[.slice a n c] w (CP (ScanPost w l) (fun _ _ => False)) := by
  refine C78 ?_
  have hn := hv.cap.1
  have hcap := hv.cap.2
  subst hn
  unfold B78
  refine ⟨J78 l w, M78 l, ⟨.refl _ _, [], 0, .nil _ _, rfl, Nat.le_refl _, .zero _⟩, ?_⟩
  rintro a7 n8 c9 x10 w11 ⟨hk, done, at_, ho, rfl, hd, hsa⟩
  unfold B78_l1
  have hat := hsa.1
  have hkd : Kp no w w11.drew := hk.then (.drew no _)
  have hv1 : Bs w11.drew (.slice a l.length c) l := (hv.keep hkd (fun _ _ _ _ => nf))
  have hod : OwnBss w11.drew w.heap.size (.slice a7 n8 c9) done := ho
  have hlenD : (l.drop at_).length = l.length - at_ := by simp
  have fin : ∀ w', Kp no w w' → OwnBss w' w.heap.size (.slice a7 n8 c9) done → ¬ frOk (l.drop at_) = true → ScanPost w l (.tuple #[(.slice a7 n8 c9), (.int .i64 (at_ : Int))]) w' := by
    intro w' hk ho hf
    have := hsa.stop hf
    unfold ScanPost
    rw [this]
    exact ⟨hk, _, _, _, rfl, ho⟩
  rw [wrap64 (x := (at_ : Int) + 2) (by omega) (by omega)]
  refine ifB_dec (fun h => ?_) (fun h => fin _ hk ho (by simp [frOk]; omega))
  have h0 : at_ < l.length := by omega
  have h1 : at_ + 1 < l.length := by omega
  rw [wrap64 (x := (at_ : Int) + 1) (by omega) (by omega)]
  refine need_and (dec (by omega)) (dec (by omega)) ?_
  obtain ⟨q, rfl, hc0⟩ := hv1.at h0
  obtain ⟨q', hq', hc1⟩ := hv1.at h1
  cases hq'
  simp only [nn_some]
  refine ⟨_, by rw [show (at_ : Int).toNat * 1 = at_ by omega]; exact hc0, need_and (dec (by omega)) (dec (by omega)) ⟨_, by
    rw [show ((at_ : Int) + 1).toNat * 1 = at_ + 1 by omega]; exact hc1, ?_⟩⟩
  have e0 : (l.drop at_).getD 0 0 = l.getD at_ 0 := by simp [List.getD_eq_getElem?_getD]
  have e1 : (l.drop at_).getD 1 0 = l.getD (at_ + 1) 0 := by simp [List.getD_eq_getElem?_getD]
  have hN : nn2 (l.drop at_) = (l.getD at_ 0).toNat * 256 + (l.getD (at_ + 1) 0).toNat := by unfold nn2; rw [e0, e1]
  have b0 := bt_lt (l.getD at_ 0)
  have b1 := bt_lt (l.getD (at_ + 1) 0)
  unfold B78_j1
  generalize hNN : nn2 (l.drop at_) = N at *
  have eN : IntKind.i64.wrap (IntKind.i64.wrap (IntKind.i64.wrap ((l.getD at_ 0).toNat : Int) * 256) + IntKind.i64.wrap ((l.getD (at_ + 1) 0).toNat : Int)) = (N : Int) := by
    rw [wrap64 (x := ((l.getD at_ 0).toNat : Int)) (by omega) (by omega), wrap64 (x := ((l.getD (at_ + 1) 0).toNat : Int)) (by omega) (by omega), wrap64 (x := _ * 256) (by omega) (by omega), wrap64 (by omega) (by omega)]
    omega
  have hNl : N ≤ 65535 := by omega
  have e2w : IntKind.i64.wrap ((at_ : Int) + 2) = at_ + 2 := wrap64 (by omega) (by omega)
  have e3w : IntKind.i64.wrap ((at_ : Int) + 3) = at_ + 3 := wrap64 (by omega) (by omega)
  have e2n : IntKind.i64.wrap ((at_ : Int) + 2 + N) = at_ + 2 + N := wrap64 (by omega) (by omega)
  have e3n : IntKind.i64.wrap ((at_ : Int) + 3 + N) = at_ + 3 + N := wrap64 (by omega) (by omega)
  simp only [eN, e2w, e3w, e2n, e3n]
  refine ifB_dec (fun h2 => ?_) (fun h2 => ifB_dec (fun h3 => ?_) (fun h3 => ifB_dec (fun h4 => ?_) (fun h4 => ?_)))
  · exact fin _ hkd hod (by simp [frOk, hNN]; omega)
  · exact fin _ hkd hod (by simp [frOk, hNN]; omega)
  · exact fin _ hkd hod (by simp [frOk, hNN]; omega)
  refine need_and (dec (by omega)) (dec (by omega)) ?_
  have h5 : at_ + 2 + N < l.length := by omega
  obtain ⟨q', hq', hc2⟩ := hv1.at h5
  cases hq'
  refine ⟨_, by rw [show ((at_ : Int) + 2 + N).toNat * 1 = at_ + 2 + N by omega]; exact hc2, ?_⟩
  have e2 : (l.drop at_).getD (2 + N) 0 = l.getD (at_ + 2 + N) 0 := by simp [List.getD_eq_getElem?_getD]; congr 2; omega
  refine ifB_split (fun h6 => ?_) (fun h6 => ?_)
  · refine fin _ hkd hod ?_
    simp only [frOk, hNN, e2, decide_eq_true_eq]
    rintro ⟨_, _, _, _, h7⟩
    rw [h7] at h6
    simp at h6
  · have hfr : frOk (l.drop at_) = true := by
      simp only [frOk, hNN, e2, decide_eq_true_eq]
      refine ⟨by omega, by omega, by omega, by omega, ?_⟩
      generalize l.getD (at_ + 2 + N) 0 = z at h6
      have : (z.toNat : Int) = 90 := by simpa using h6
      exact UInt8.toNat_inj.1 (by show z.toNat = 90; omega)
    have hst := hsa.step hfr
    rw [hNN] at hst
    obtain ⟨a2, n2, c2, w2, hr2, hk2, ho2⟩ := E22b0 w11.drew
    refine ⟨_, _, _, _, hr2, need_and (dec (by omega)) (dec (by omega)) (need_and (dec (by omega)) (dec (by omega)) ?_)⟩
    have hcut := (hv1.cut (lo := at_ + 2) (hi := at_ + 2 + N) (by omega) (by omega)).keep hk2 (fun _ _ _ _ => nf)
    rw [show ((at_ : Int) + 2).toNat = at_ + 2 by omega, show ((at_ : Int) + 2 + N).toNat = at_ + 2 + N by omega]
    have ecut : (l.drop (at_ + 2)).take (at_ + 2 + N - (at_ + 2)) = ((l.drop at_).drop 2).take N := by rw [List.drop_drop, show at_ + 2 + N - (at_ + 2) = N by omega]
    rw [ecut] at hcut
    obtain ⟨a3, n3, c3, w3, hr3, ho3, hk3⟩ := appB (ty := 22) ho2 hcut hk2.size (by rw [List.nil_append, List.length_take]; omega)
    have hk3' : Kp no w11.drew w3 := hk2.own ho2 hk3
    have hsz := hkd.size
    obtain ⟨a4, n4, c4, w4, hr4, a5, n5, c5, w5, hr5, ho5, hk5⟩ := appBss (ty := 56) (hod.keep hk3' .no .no) (own_base ho3 hsz) (Nat.le_trans hsz hk3'.size) (by omega)
    refine ⟨_, _, _, _, hr3, _, _, _, _, hr4, _, _, _, _, hr5, ⟨(hkd.then hk3').ownBss (hod.keep hk3' .no .no) hk5, _, _, ho5, ?_, ?_, hst⟩, ?_⟩
    · omega
    · simp; omega
    · show l.length - ((at_ : Int) + 3 + N).toNat < l.length - (at_ : Int).toNat
      omega
end Go.Lf
end
