/- Part 20 of the lemmas that a proof leans on; no claim is made here. By an AI agent. -/
import Derived.Test.YtofhodpdfbnkiaaGreatLfD10
import Derived.Test.YtofhodpdfbnkiaaGreatLfD11
import Derived.Test.YtofhodpdfbnkiaaGreatLfD12
import Derived.Test.YtofhodpdfbnkiaaGreatLfD14
import Derived.Test.YtofhodpdfbnkiaaGreatLfD15
import Derived.Test.YtofhodpdfbnkiaaGreatLfD16
import Derived.Test.YtofhodpdfbnkiaaGreatLfD19
section
set_option linter.unusedVariables false
set_option linter.unusedSimpArgs false
namespace Go.Lf
open Go Go.Proofs

theorem or8 {a b : Nat} (ha : a < 4294967296) (hb : b < 256) : bitop .or .i64 (IntKind.i64.wrap (IntKind.i64.wrap (a : Int) * 2 ^ 8)) (IntKind.i64.wrap (b : Int)) = ((a * 256 + b : Nat) : Int) := by
  rw [wrap64 (x := (a : Int)) (by omega) (by omega), wrap64 (x := (b : Int)) (by omega) (by omega), wrap64 (x := (a : Int) * 2 ^ 8) (by omega) (by omega)]
  have e : (a : Int) * 2 ^ 8 = ((a * 256 : Nat) : Int) := by omega
  have hb : (BitVec.ofNat 64 (a * 256) ||| BitVec.ofNat 64 b).toNat = a * 256 + b := by
    rw [BitVec.toNat_or, BitVec.toNat_ofNat, BitVec.toNat_ofNat, Nat.mod_eq_of_lt (by omega), Nat.mod_eq_of_lt (by omega)]
    have h2 := Nat.shiftLeft_add_eq_or_of_lt (i := 8) (b := b) (by omega) a
    rw [Nat.shiftLeft_eq, show (2 : Nat) ^ 8 = 256 from rfl] at h2
    exact h2.symm
  have hx : BitVec.ofInt 64 ((a : Int) * 2 ^ 8) = BitVec.ofNat 64 (a * 256) := by rw [e, BitVec.ofInt_natCast]
  have hy : BitVec.ofInt 64 (b : Int) = BitVec.ofNat 64 b := BitVec.ofInt_natCast ..
  show IntKind.i64.wrap (((BitVec.ofInt 64 ((a : Int) * 2 ^ 8) ||| BitVec.ofInt 64 (b : Int)).toNat : Nat) : Int) = _
  rw [hx, hy, hb, wrap64 (by omega) (by omega)]

def J127 (l : List UInt8) (I : List (List UInt8) → Nat → World → Prop) (vs : List Value) (w' : World) : Prop :=
  match vs with
  | [.int _ x] => ∃ done at_, x = ((at_ : Nat) : Int) ∧ ScanAt l done at_ ∧ I done at_ w'
  | _ => False
def M127 (l : List UInt8) (vs : List Value) (_ : World) : Nat := match vs with | [.int _ x] => l.length - x.toNat | _ => 0
theorem K127 {v1 : Value} {q2 : Nat} {w : World} {a : Option Addr} {n c : Nat} {l : List UInt8} {I : List (List UInt8) → Nat → World → Prop} {S : Nat → Prop}
    (hq : w.heap[q2]? = some (.cells #[.slice a n c] 22 (0, 0))) (hv : Bs w (.slice a n c) l) (hl : l.length ≤ 1099511627) (hSq : ¬ S q2) (hSu : NoU S w)
    (hI0 : I [] 0 w) (hIK : ∀ d k w', I d k w' → Kp S w w') (hIs : ∀ d k w' w'', I d k w' → Kp no w' w'' → I d k w'')
    (hy : ∀ done at_ w' a' n' c', ScanAt l done at_ → frOk (l.drop at_) = true → I done at_ w' → OwnB w' w.heap.size (.slice a' n' c') (((l.drop at_).drop 2).take (nn2 (l.drop at_))) →
      vCall Cz v1 [.int .i64 ((at_ + (3 + nn2 (l.drop at_)) : Nat) : Int), .slice a' n' c'] w' (CP (fun r w'' => r = .bool true ∧ I (done ++ [((l.drop at_).drop 2).take (nn2 (l.drop at_))]) (at_ + (3 + nn2 (l.drop at_))) w'') (fun _ _ => False))) :
    Calls Cz.P 127 #[v1, .pointer (some ⟨q2, 0, none⟩)] w (CP (fun r w' => r = .tuple #[] ∧ I (scan l).1 (scan l).2 w') (fun _ _ => False)) := by
  refine C127 ?_
  have hn := hv.cap.1
  have hcap := hv.cap.2
  subst hn
  unfold B127
  refine ⟨J127 l I, M127 l, ⟨[], 0, rfl, .zero _, hI0⟩, ?_⟩
  rintro x6 w7 ⟨done, at_, rfl, hsa, hI⟩
  unfold B127_l1
  have hat := hsa.1
  have hk7 := hIK _ _ _ hI
  have hq7 := hk7.at hq hSq
  have hlenD : (l.drop at_).length = l.length - at_ := by simp
  have hId : I done at_ w7.drew := hIs _ _ _ _ hI (.drew _ _)
  have hv1 : Bs w7.drew (.slice a l.length c) l := hv.keepU (hIK _ _ _ hId) hSu
  have fin : ∀ w', I done at_ w' → ¬ frOk (l.drop at_) = true → (True ∧ I (scan l).1 (scan l).2 w') := by
    intro w' hI hf
    rw [hsa.stop hf]
    exact ⟨trivial, hI⟩
  refine ⟨_, _, _, cl hq7 rfl, ?_⟩
  rw [wrap64 (x := (l.length : Int) - at_) (by omega) (by omega)]
  refine ifB_dec (fun h => ?_) (fun h => ⟨rfl, (fin _ hI (by simp [frOk]; omega)).2⟩)
  have h0 : at_ < l.length := by omega
  have h1 : at_ + 1 < l.length := by omega
  rw [wrap64 (x := (at_ : Int) + 1) (by omega) (by omega)]
  refine ⟨_, _, _, cl (w := w7) hq7 rfl, need_and (dec (by omega)) (dec (by omega)) ?_⟩
  obtain ⟨q, rfl, hc0⟩ := hv1.at h0
  obtain ⟨q', hq', hc1⟩ := hv1.at h1
  cases hq'
  simp only [nn_some]
  refine ⟨_, by rw [show (at_ : Int).toNat * 1 = at_ by omega]; exact hc0, _, _, _, cl (w := w7) hq7 rfl, need_and (dec (by omega)) (dec (by omega)) ?_⟩
  simp only [nn_some]
  refine ⟨_, by rw [show ((at_ : Int) + 1).toNat * 1 = at_ + 1 by omega]; exact hc1, ?_⟩
  have e0 : (l.drop at_).getD 0 0 = l.getD at_ 0 := by simp [List.getD_eq_getElem?_getD]
  have e1 : (l.drop at_).getD 1 0 = l.getD (at_ + 1) 0 := by simp [List.getD_eq_getElem?_getD]
  have hN : nn2 (l.drop at_) = (l.getD at_ 0).toNat * 256 + (l.getD (at_ + 1) 0).toNat := by unfold nn2; rw [e0, e1]
  have b0 := bt_lt (l.getD at_ 0)
  have b1 := bt_lt (l.getD (at_ + 1) 0)
  have hy' := hy done at_
  unfold B127_j1
  generalize hNN : nn2 (l.drop at_) = N at *
  have eN : bitop .or .i64 (IntKind.i64.wrap (IntKind.i64.wrap ((l.getD at_ 0).toNat : Int) * 2 ^ 8)) (IntKind.i64.wrap ((l.getD (at_ + 1) 0).toNat : Int)) = (N : Int) := by
    rw [or8 (by omega) b1, hN]
  have hNl : N ≤ 65535 := by omega
  have e2w : IntKind.i64.wrap ((at_ : Int) + 2) = at_ + 2 := wrap64 (by omega) (by omega)
  have e2n : IntKind.i64.wrap ((at_ : Int) + 2 + N) = at_ + 2 + N := wrap64 (by omega) (by omega)
  have e3n : IntKind.i64.wrap ((at_ : Int) + 2 + N + 1) = at_ + 2 + N + 1 := wrap64 (by omega) (by omega)
  have e4n : IntKind.i64.wrap ((at_ : Int) + 2 + N + 1 - 1) = at_ + 2 + N := by rw [wrap64] <;> omega
  simp only [eN, e2w, e2n, e3n, e4n]
  refine ifB_dec (fun h2 => ?_) (fun h2 => ifB_dec (fun h3 => ?_) (fun h3 => ⟨_, _, _, cl (w := w7) hq7 rfl, ifB_dec (fun h4 => ?_) (fun h4 => ?_)⟩))
  · exact fin _ hId (by simp [frOk, hNN]; omega)
  · exact fin _ hId (by simp [frOk, hNN]; omega)
  · exact fin _ hId (by simp [frOk, hNN]; omega)
  refine ⟨_, _, _, cl (w := w7) hq7 rfl, need_and (dec (by omega)) (dec (by omega)) ?_⟩
  have h5 : at_ + 2 + N < l.length := by omega
  obtain ⟨q', hq', hc2⟩ := hv1.at h5
  cases hq'
  refine ⟨_, by rw [show ((at_ : Int) + 2 + N).toNat * 1 = at_ + 2 + N by omega]; exact hc2, ?_⟩
  have e2 : (l.drop at_).getD (2 + N) 0 = l.getD (at_ + 2 + N) 0 := by simp [List.getD_eq_getElem?_getD]; congr 2; omega
  refine ifB_split (fun h6 => ?_) (fun h6 => ?_)
  · refine fin _ hId ?_
    simp only [frOk, hNN, e2, decide_eq_true_eq]
    rintro ⟨_, _, _, _, h7⟩
    rw [h7] at h6
    simp at h6
  · have hfr : frOk (l.drop at_) = true := by
      simp only [frOk, hNN, e2, decide_eq_true_eq]
      refine ⟨by omega, by omega, by omega, by omega, ?_⟩
      generalize l.getD (at_ + 2 + N) 0 = z at h6
      have : (z.toNat : Int) = 90 := by simpa using h6
      exact UInt8.toNat_inj.1 (by show z.toNat = 90; omega)
    have hst := hsa.step hfr
    rw [hNN] at hst
    refine ⟨_, _, _, cl (w := w7) hq7 rfl, need_and (dec (by omega)) (dec (by omega)) (need_and (dec (by omega)) (dec (by omega)) ?_)⟩
    have hcut := (hv1.cut (lo := at_ + 2) (hi := at_ + 2 + N) (by omega) (by omega))
    rw [show ((at_ : Int) + 2).toNat = at_ + 2 by omega, show ((at_ : Int) + 2 + N).toNat = at_ + 2 + N by omega]
    have ecut : (l.drop (at_ + 2)).take (at_ + 2 + N - (at_ + 2)) = ((l.drop at_).drop 2).take N := by rw [List.drop_drop, show at_ + 2 + N - (at_ + 2) = N by omega]
    rw [ecut] at hcut
    refine (K128 hcut (by rw [List.length_take]; omega)).mono fun e w8 hp => ?_
    cases e with
    | returned r =>
      obtain ⟨hk8, a9, n9, c9, rfl, ho9⟩ := hp
      have hI8 := hIs _ _ _ _ hId hk8
      refine ⟨_, _, _, rfl, ?_⟩
      have hcall := hy' w8 a9 n9 c9 hsa hfr hI8 (own_base ho9 (hIK _ _ _ hId).size)
      rw [show ((at_ : Int) + 2 + N + 1) = ((at_ + (3 + N) : Nat) : Int) by omega]
      refine vCall_mono hcall ?_
      intro e w10 hp
      cases e with
      | returned r =>
        obtain ⟨rfl, hI10⟩ := hp
        refine ⟨true, rfl, ⟨_, _, rfl, hst, hI10⟩, ?_⟩
        show l.length - ((at_ + (3 + N) : Nat) : Int).toNat < l.length - (at_ : Int).toNat
        omega
      | _ => exact hp
    | _ => exact hp

theorem K108 {w : World} {a : Option Addr} {n c : Nat} {Rt : Value → World → Prop} {E : List PanicEntry → World → Prop}
    (h : ∀ k w', Kp no w w' → k = w.heap.size → w'.heap[k]? = some (.cells #[.slice a n c] 22 (0, 0)) → Rt (.func (.func 127) #[] #[.pointer (some ⟨k, 0, none⟩)]) w') : Calls Cz.P 108 #[.slice a n c] w (CP Rt E) := by
  refine C108 ?_
  unfold B108
  exact nw_i fun b w1 e hk hg => h b w1 hk e hg

def I70 (k5 k7 l : Nat) (rc : Loop) (w4 : World) (d : List (List UInt8)) (k : Nat) (w' : World) : Prop :=
  Kp (fun b => b = k5 ∨ b = k7 ∨ b = l) w4 w' ∧ d.length ≤ k ∧ (∃ v, w'.heap[k5]? = some (.cells #[v] 56 (0, 0)) ∧ OwnBss w' w4.heap.size v d) ∧ w'.heap[k7]? = some (.cells #[.int .i64 (k : Int)] 3 (0, 0)) ∧ LoopAt w' l rc .ready none

theorem K70 {w : World} {a : Option Addr} {n c : Nat} {l : List UInt8} (hv : Bs w (.slice a n c) l) (hl : l.length ≤ 1099511627) :
    Calls Cz.P 70 #[.slice a n c] w (CP (ScanPost w l) (fun _ _ => False)) := by
  refine C70 ?_
  unfold B70
  refine nw_i fun k5 w1 e5 hk1 g5 => nw_i fun k7 w2 e7 hk2 g7 => st_i g7 (by simp) fun w3 hk3 g7' => ?_
  have hs1 := lt_of_get g5
  have hs2 := lt_of_get g7
  have hk12 : Kp no w w2 := hk1.then hk2
  have hk13 : Kp no w w3 := hk12.trans hk3 (fun k hk h => by have := hk12.size; have := hk1.size; omega)
  have g5' := hk3.at (hk2.at g5 nf) (by omega)
  refine K108 fun k8 w4 hk4 e8 g8 => ⟨_, rfl, nw_i fun D w5 eD hk5 gD rc hrc => nw_i fun l9 w6 e9 hk6 g9 => ?_⟩
  have hs4 := lt_of_get g8
  have hs5 := lt_of_get gD
  have hs6 := lt_of_get g9
  have z3 := hk3.size
  have z4 := hk4.size
  have z5 := hk5.size
  have z6 := hk6.size
  have hk36 : Kp no w3 w6 := hk4.then (hk5.then hk6)
  have hk06 : Kp no w w6 := hk13.then hk36
  have q5 := hk36.at g5' nf
  have q7 := hk36.at g7' nf
  have q8 := (hk5.then hk6).at g8 nf
  have qD := hk6.at gD nf
  refine need_iff.2 ⟨by rfl, ?_⟩
  have hv6 : Bs w6 (.slice a n c) l := hv.keep hk06 (fun _ _ _ _ => nf)
  have hL : LoopAt w6 l9 rc .ready none := LoopAt.of g9 hrc
  show Calls Cz.P 127 #[.func (.yield l9) #[] #[], .pointer (some ⟨k8, 0, none⟩)] w6 _
  refine (K127 (I := I70 k5 k7 l9 rc w6) (S := fun b => b = k5 ∨ b = k7 ∨ b = l9) q8 hv6 hl (by omega) ?_ ⟨.refl _ _, Nat.le_refl _, ⟨_, q5, .nil _ _⟩, q7, hL⟩ (fun _ _ _ h => h.1) ?_ ?_).mono ?_
  · intro b cs e f hb hc v hv x hx
    rcases hb with rfl | rfl | rfl
    · rw [q5] at hc; cases hc; simp at hv; subst hv; cases hx
    · rw [q7] at hc; cases hc; simp at hv; subst hv; cases hx
    · rw [g9] at hc; cases hc
  · rintro d k w' w'' ⟨h1, h2, ⟨v, h3, h4⟩, h5, h6⟩ hk
    exact ⟨h1.trans hk (fun _ _ h => h.elim), h2, ⟨v, hk.at h3 nf, h4.keep hk .no .no⟩, hk.at h5 nf, h6.keep hk nf⟩
  · rintro done at_ w' a' n' c' hsa hfr ⟨h1, h2, ⟨v, h3, h4⟩, h5, h6⟩ ho
    show Rnd Cz.P l9 #[_, _] w' _
    refine B70_r1_rnd hrc h6 ?_
    unfold B70_r1
    refine ⟨rfl, none, h6, ?_⟩
    have hkb : Kp (fun k => k = l9) w' (putLoop w' l9 rc .busy none) := LoopAt.kp
    have hLb : LoopAt (putLoop w' l9 rc .busy none) l9 rc .busy none := h6.put
    generalize putLoop w' l9 rc .busy none = w21 at hkb hLb
    have n5 : ¬ k5 = l9 := by omega
    have n7 : ¬ k7 = l9 := by omega
    have n57 : ¬ k7 = k5 := by omega
    have h3' := hkb.at h3 n5
    have h5' := hkb.at h5 n7
    have h4' := h4.keep hkb h6.noT h6.noT
    have ho' : OwnB w21 w6.heap.size (.slice a' n' c') _ := own_keep ho hkb h6.noT
    obtain ⟨av, cv, rfl⟩ := h4.slice
    have hsz : w6.heap.size ≤ w21.heap.size := Nat.le_trans h1.size hkb.size
    have hat := hsa.1
    obtain ⟨a1, n1, c1, w28, hr1, a2, n2, c2, w32, hr2, ho2, hk32⟩ := appBss (ty := 56) h4' ho' hsz (by omega)
    have no5 : ¬ (Value.slice av done.length cv).ownBlock = some k5 := by
      obtain ⟨ss, hoo, _⟩ := h4'
      exact fun h => NoT.own hoo (e' := 56) (by decide) k5 _ _ h h3'
    have no7 : ¬ (Value.slice av done.length cv).ownBlock = some k7 := by
      obtain ⟨ss, hoo, _⟩ := h4'
      exact fun h => NoT.own hoo (e' := 3) (by decide) k7 _ _ h h5'
    have nol : ¬ (Value.slice av done.length cv).ownBlock = some l9 := by
      intro h
      obtain ⟨ss, ⟨_, ⟨h0, _⟩ | ⟨g, cap, cur, hx, _, hg, _⟩⟩, _⟩ := h4'
      · rw [h0] at h; cases h
      · rw [hx] at h
        simp [Value.ownBlock] at h
        subst h
        rw [hLb] at hg
        cases hg
    have h3'' := hk32.at h3' no5
    refine ⟨_, _, _, cl h3' rfl, _, _, _, _, hr1, _, _, _, _, hr2, st_i h3'' (by simp) fun w33 hk33 g33 => st_i (hk33.at (hk32.at h5' no7) n57) (by simp) fun w34 hk34 g34 => ⟨rfl, none, (hLb.keep hk32 nol).keep hk33 (by omega) |>.keep hk34 (by omega), rfl, ?_⟩⟩
    have hL34 : LoopAt w34 l9 rc .busy none := (hLb.keep hk32 nol).keep hk33 (by omega) |>.keep hk34 (by omega)
    have hkp : Kp (fun k => k = l9) w34 (putLoop w34 l9 rc .ready none) := LoopAt.kp
    refine ⟨?_, ?_, ⟨_, hkp.at (hk34.at g33 (by omega)) n5, ?_⟩, hkp.at g34 n7, hL34.put⟩
    · refine ((((h1.trans hkb (fun _ _ h => .inr (.inr h))).trans hk32 ?_).trans hk33 (fun _ _ h => .inl h)).trans hk34 (fun _ _ h => .inr (.inl h))).trans hkp (fun _ _ h => .inr (.inr h))
      intro k hk hs
      have := h4'.base_le k hs
      omega
    · simp; omega
    · exact ((ho2.keep hk33 (.one h3'' (by decide)) (.one h3'' (by decide))).keep hk34 (.one (hk33.at (hk32.at h5' no7) n57) (by decide)) (.one (hk33.at (hk32.at h5' no7) n57) (by decide))).keep hkp hL34.noT hL34.noT
  · intro e w' hp
    cases e with
    | returned r =>
      obtain ⟨rfl, h1, h2, ⟨v, h3, h4⟩, h5, h6⟩ := hp
      refine ⟨.ready, none, h6, by simp, ?_⟩
      have hkp : Kp (fun k => k = l9) w' (putLoop w' l9 rc .exhausted none) := LoopAt.kp
      obtain ⟨av, cv, rfl⟩ := h4.slice
      have hk40 : Kp (fun b => b = k5 ∨ b = k7 ∨ b = l9) w6 (putLoop w' l9 rc .exhausted none) := h1.trans hkp (fun _ _ h => .inr (.inr h))
      have qD' := hk40.at qD (by omega)
      refine ⟨_, _, _, cl (w := putLoop w' l9 rc .exhausted none) (hkp.at h3 (by omega)) rfl, _, cl (w := putLoop w' l9 rc .exhausted none) (hkp.at h5 (by omega)) rfl, qD', ?_⟩
      refine ⟨?_, _, _, _, rfl, ?_⟩
      · refine ((hk06.trans hk40 ?_).trans (.drew no _) (fun _ _ h => h.elim)).trans (.put _ _ _) ?_
        · intro k hk h; omega
        · intro k hk h; omega
      · exact (((h4.base hk06.size).keep hkp h6.noT h6.noT).keep (.drew no _) .no .no).keep (.put _ _ _) (.obj qD' (by simp)) (.obj qD' (by simp))
    | _ => exact hp.elim
end Go.Lf
end

section
set_option linter.unusedVariables false
set_option linter.unusedSimpArgs false
namespace Go.Lf
open Go Go.Proofs

theorem scan_le (b : List UInt8) : (scan b).2 ≤ b.length := by
  by_cases h : frOk b = true
  · rw [scan_yes h]
    have hf := h
    simp [frOk] at hf
    have := scan_le (b.drop (3 + nn2 b))
    simp at this ⊢
    omega
  · rw [scan_no h]; exact Nat.zero_le _
  termination_by b.length
  decreasing_by (have hf := h; simp [frOk] at hf; simp; omega)
theorem scan_count (b : List UInt8) : (scan b).1.length ≤ b.length := by
  by_cases h : frOk b = true
  · rw [scan_yes h]
    have hf := h
    simp [frOk] at hf
    have := scan_count (b.drop (3 + nn2 b))
    simp at this ⊢
    omega
  · rw [scan_no h]; exact Nat.zero_le _
  termination_by b.length
  decreasing_by (have hf := h; simp [frOk] at hf; simp; omega)
theorem Bs.keepN {w w' : World} {v : Value} {l : List UInt8} (h : Bs w v l) (k : Kp no w w') : Bs w' v l := Sl.keep h k (fun _ _ _ _ => nf)
def LogAt (T : TypeId) (w : World) (q p : Nat) : Prop := w.heap[q]? = some (.cells #[.pointer (some ⟨p, 0, none⟩)] T (0, 0))
/-- a disk whose cut off end is taken off -/
def Dk.openLog (D : Dk) : Int × Dk := if (scan D.b).2 < D.b.length then D.swap (D.b.take (scan D.b).2) else (0, D)
def recOk (l : List UInt8) : Prop := 1 ≤ l.length ∧ l.length ≤ 1000
instance (l : List UInt8) : Decidable (recOk l) := inferInstanceAs (Decidable (_ ∧ _))
def Dk.appendRec (D : Dk) (l : List UInt8) : Int × Dk := if recOk l then D.append (put l) else (1, D)
def Dk.compact (D : Dk) (ls : List (List UInt8)) : Int × Dk := if ∀ l ∈ ls, recOk l then D.swap (ls.map put).flatten else (1, D)
theorem Dk.openLog_ok {D : Dk} (h : D.ok) : D.openLog.2.ok := by
  unfold Dk.openLog; split
  · exact swap_ok h _
  · exact h
theorem Dk.appendRec_ok {D : Dk} (h : D.ok) (l : List UInt8) : (D.appendRec l).2.ok := by
  unfold Dk.appendRec; split
  · exact append_ok h _
  · exact h
theorem Dk.compact_ok {D : Dk} (h : D.ok) (ls : List (List UInt8)) : (D.compact ls).2.ok := by
  unfold Dk.compact; split
  · exact swap_ok h _
  · exact h
theorem put_length (l : List UInt8) : (put l).length = l.length + 3 := by simp [put]
def OpenPost (T TD : TypeId) (w : World) (p : Nat) (D : Dk) (r : Value) (w' : World) : Prop := Kp (fun k => k = p) w w' ∧ DkAt TD w' p D.openLog.2 ∧
  ((D.openLog.1 ≠ 0 ∧ r = .tuple #[.pointer none, .int .i64 D.openLog.1]) ∨ (D.openLog.1 = 0 ∧ ∃ q, w.heap.size ≤ q ∧ r = .tuple #[.pointer (some ⟨q, 0, none⟩), .int .i64 0] ∧ LogAt T w' q p))
/-- the last step of Open -/
theorem open_fin {T TD : TypeId} {w w' : World} {p : Nat} {D : Dk} (hk : Kp (fun k => k = p) w w') (hd : DkAt TD w' p D.openLog.2) (h0 : D.openLog.1 = 0) {Rt : Value → World → Prop} (hR : ∀ r w', OpenPost T TD w p D r w' → Rt r w') :
    nw w' (.cells #[(.pointer (some ⟨p, 0, none⟩))] T) fun k18 w19 => Rt (.tuple #[(.pointer (some ⟨k18, 0, none⟩)), (.int .i64 0)]) w19 := by
  refine nw_i fun b w1 e hk1 hg => hR _ _ ⟨hk.trans hk1 (fun _ _ h => h.elim), hd.keep hk1 nf .no, .inr ⟨h0, b, ?_, rfl, hg⟩⟩
  have := hk.size; omega

theorem K38 {p : Nat} {w : World} {D : Dk} (h : DkAt 72 w p D) (hD : D.ok) : Calls Cz.P 38 #[.pointer (some ⟨p, 0, none⟩)] w (CP (OpenPost 112 72 w p D) (fun _ _ => False)) := by
  refine C38 ?_
  have hb := bl_bound hD
  have hsl := scan_le D.b
  unfold B38 B38_j1
  refine (K19 h hD).mono fun e w1 hp => ?_
  cases e with
  | returned r =>
    obtain ⟨hk1, a1, n1, c1, rfl, ho⟩ := hp
    have hcap := ho.bs.cap
    refine ⟨_, _, _, rfl, (K70 ho.bs (by omega)).mono fun e w2 hp => ?_⟩
    cases e with
    | returned r =>
      obtain ⟨hk2, a2, n2, c2, rfl, ho2⟩ := hp
      have hk12 := hk1.then hk2
      have hd2 := h.keep hk12 nf .no
      refine ⟨_, _, _, _, rfl, ifB_dec (fun hlt => ?_) (fun hlt => ?_)⟩
      · refine need_and (dec (by omega)) (dec (by omega)) (need_and rfl (dec (by omega)) ?_)
        have hcut := (ho.bs.keepN hk2).cut (lo := 0) (hi := (scan D.b).2) (Nat.zero_le _) hsl
        rw [List.drop_zero, Nat.sub_zero, Nat.sub_zero] at hcut
        rw [Int.toNat_natCast, Nat.sub_zero, Nat.sub_zero]
        refine (K71 hd2 hD hcut (by rw [List.length_take]; omega)).mono fun e w3 hp => ?_
        have eo : D.openLog = D.swap (D.b.take (scan D.b).2) := by unfold Dk.openLog; rw [if_pos (by omega)]
        cases e with
        | returned r =>
          obtain ⟨hk3, rfl, hd3⟩ := hp
          have hk03 := hk12.then hk3
          refine ⟨_, rfl, ifB_split (fun hne => ?_) (fun heq => ?_)⟩
          · refine ⟨hk03, by rw [eo]; exact hd3, .inl ⟨by rw [eo]; simpa using hne, by rw [eo]⟩⟩
          · exact open_fin hk03 (by rw [eo]; exact hd3) (by rw [eo]; simpa using heq) (fun _ _ h => h)
        | _ => exact hp
      · have eo : D.openLog = (0, D) := by unfold Dk.openLog; rw [if_neg (by omega)]
        exact open_fin (hk12.mono (fun _ _ h => h.elim)) (by rw [eo]; exact hd2) (by rw [eo]) (fun _ _ h => h)
    | _ => exact hp
  | _ => exact hp

theorem K43 {p : Nat} {w : World} {D : Dk} (h : DkAt 54 w p D) (hD : D.ok) : Calls Cz.P 43 #[.pointer (some ⟨p, 0, none⟩)] w (CP (OpenPost 123 54 w p D) (fun _ _ => False)) := by
  refine C43 ?_
  have hb := bl_bound hD
  have hsl := scan_le D.b
  obtain ⟨a, c, h1, hs⟩ := h.open
  have hcap := hs.bs.cap
  unfold B43 B43_j1
  simp only [Option.isNone_some, ifB_false, nn_some, addk, Nat.reduceAdd, Nat.zero_add]
  refine ⟨_, _, _, cl h1 rfl, (K78 hs.bs (by omega)).mono fun e w2 hp => ?_⟩
  cases e with
  | returned r =>
    obtain ⟨hk2, a2, n2, c2, rfl, ho2⟩ := hp
    have hd2 := h.keep hk2 nf .no
    have h2 := hk2.at h1 nf
    refine ⟨_, _, _, _, rfl, _, _, _, cl h2 rfl, ifB_split (fun hlt => ?_) (fun hlt => ?_)⟩
    · have hlt : (scan D.b).2 < D.b.length := by simp at hlt; omega
      refine ⟨_, _, _, cl h2 rfl, need_and (dec (by omega)) (dec (by omega)) (need_and rfl (dec (by omega)) ?_)⟩
      have hcut := (hs.bs.keepN hk2).cut (lo := 0) (hi := (scan D.b).2) (Nat.zero_le _) hsl
      rw [List.drop_zero, Nat.sub_zero, Nat.sub_zero] at hcut
      rw [Int.toNat_natCast, Nat.sub_zero, Nat.sub_zero]
      refine (K79 hd2 hD hcut (by rw [List.length_take]; omega)).mono fun e w3 hp => ?_
      have eo : D.openLog = D.swap (D.b.take (scan D.b).2) := by unfold Dk.openLog; rw [if_pos (by omega)]
      cases e with
      | returned r =>
        obtain ⟨hk3, rfl, hd3⟩ := hp
        have hk03 := hk2.then hk3
        refine ⟨_, rfl, ifB_split (fun hne => ?_) (fun heq => ?_)⟩
        · refine ⟨hk03, by rw [eo]; exact hd3, .inl ⟨by rw [eo]; simpa using hne, by rw [eo]⟩⟩
        · exact open_fin hk03 (by rw [eo]; exact hd3) (by rw [eo]; simpa using heq) (fun _ _ h => h)
      | _ => exact hp
    · have eo : D.openLog = (0, D) := by unfold Dk.openLog; rw [if_neg (by simp at hlt; omega)]
      exact open_fin (hk2.mono (fun _ _ h => h.elim)) (by rw [eo]; exact hd2) (by rw [eo]) (fun _ _ h => h)
  | _ => exact hp

/-- the records of a log -/
theorem K40 {q p : Nat} {w : World} {D : Dk} (hq : LogAt 112 w q p) (h : DkAt 72 w p D) (hD : D.ok) :
    Calls Cz.P 40 #[.pointer (some ⟨q, 0, none⟩)] w (CP (fun r w' => Kp no w w' ∧ ∃ a n c, r = .slice a n c ∧ OwnBss w' w.heap.size r (scan D.b).1) (fun _ _ => False)) := by
  refine C40 ?_
  have hb := bl_bound hD
  unfold B40
  simp only [nn_some]
  refine ⟨_, cl hq rfl, (K19 h hD).mono fun e w1 hp => ?_⟩
  cases e with
  | returned r =>
    obtain ⟨hk1, a1, n1, c1, rfl, ho⟩ := hp
    refine ⟨_, _, _, rfl, (K70 ho.bs (by omega)).mono fun e w2 hp => ?_⟩
    cases e with
    | returned r =>
      obtain ⟨hk2, a2, n2, c2, rfl, ho2⟩ := hp
      exact ⟨_, _, _, _, rfl, hk1.then hk2, _, _, _, rfl, ho2.base hk1.size⟩
    | _ => exact hp
  | _ => exact hp
theorem K63 {q p : Nat} {w : World} {D : Dk} (hq : LogAt 112 w q p) (h : DkAt 72 w p D) (hD : D.ok) :
    Calls Cz.P 63 #[.pointer (some ⟨q, 0, none⟩)] w (CP (fun r w' => Kp no w w' ∧ r = .int .i64 ((scan D.b).1.length : Int)) (fun _ _ => False)) := by
  refine C63 ?_
  unfold B63
  refine (K40 hq h hD).mono fun e w1 hp => ?_
  cases e with
  | returned r =>
    obtain ⟨hk1, a1, n1, c1, rfl, ho⟩ := hp
    obtain ⟨_, _, hx⟩ := ho.slice
    cases hx
    exact ⟨_, _, _, rfl, hk1, rfl⟩
  | _ => exact hp
theorem K44 {q p : Nat} {w : World} {D : Dk} (hq : LogAt 123 w q p) (h : DkAt 54 w p D) (hD : D.ok) :
    Calls Cz.P 44 #[.pointer (some ⟨q, 0, none⟩)] w (CP (fun r w' => Kp no w w' ∧ ∃ a n c, r = .slice a n c ∧ OwnBss w' w.heap.size r (scan D.b).1) (fun _ _ => False)) := by
  refine C44 ?_
  have hb := bl_bound hD
  obtain ⟨a, c, h1, hs⟩ := h.open
  unfold B44
  simp only [nn_some]
  refine ⟨_, cl hq rfl, ?_⟩
  simp only [nn_some, addk, Nat.reduceAdd, Nat.zero_add]
  refine ⟨_, _, _, cl h1 rfl, (K78 hs.bs (by omega)).mono fun e w2 hp => ?_⟩
  cases e with
  | returned r =>
    obtain ⟨hk2, a2, n2, c2, rfl, ho2⟩ := hp
    exact ⟨_, _, _, _, rfl, hk2, _, _, _, rfl, ho2⟩
  | _ => exact hp

theorem K99 {q p : Nat} {w : World} {D : Dk} {a : Option Addr} {n c : Nat} {l : List UInt8} (hq : LogAt 112 w q p) (h : DkAt 72 w p D) (hD : D.ok) (hv : Bs w (.slice a n c) l) :
    Calls Cz.P 99 #[.pointer (some ⟨q, 0, none⟩), .slice a n c] w (CP (fun r w' => Kp (fun k => k = p) w w' ∧ r = .int .i64 (D.appendRec l).1 ∧ DkAt 72 w' p (D.appendRec l).2) (fun _ _ => False)) := by
  refine C99 ?_
  unfold B99
  refine (K96 hv).mono fun e w1 hp => ?_
  cases e with
  | returned r =>
    obtain ⟨hk1, ⟨hn, rfl⟩ | ⟨hy, a1, n1, c1, rfl, ho⟩⟩ := hp
    · refine ⟨_, _, _, _, rfl, ifB_split (fun _ => ?_) (fun h => by simp at h)⟩
      have e1 : D.appendRec l = (1, D) := by unfold Dk.appendRec; rw [if_neg (show ¬ recOk l from hn)]
      rw [e1]
      exact ⟨hk1.mono (fun _ _ h => h.elim), rfl, h.keep hk1 nf .no⟩
    · refine ⟨_, _, _, _, rfl, ifB_split (fun h => by simp at h) (fun _ => ?_)⟩
      have e1 : D.appendRec l = D.append (put l) := by unfold Dk.appendRec; rw [if_pos (show recOk l from hy)]
      rw [e1]
      simp only [nn_some]
      refine ⟨_, cl (hk1.at hq nf) rfl, (K11 (h.keep hk1 nf .no) hD ho.bs (by rw [put_length]; omega)).mono fun e w2 hp => ?_⟩
      cases e with
      | returned r =>
        obtain ⟨hk2, rfl, hd⟩ := hp
        exact ⟨_, rfl, hk1.then hk2, rfl, hd⟩
      | _ => exact hp
  | _ => exact hp

def J62 (ls : List (List UInt8)) (w : World) (vs : List Value) (w' : World) : Prop :=
  match vs with
  | [v, .int _ x] => Kp no w w' ∧ ∃ k : Nat, x = k ∧ k ≤ ls.length ∧ (∀ l ∈ ls.take k, recOk l) ∧ OwnB w' w.heap.size v ((ls.take k).map put).flatten
  | _ => False
def M62 (ls : List (List UInt8)) (vs : List Value) (_ : World) : Nat := match vs with | [_, .int _ x] => ls.length - x.toNat | _ => 0
theorem K62 {q p : Nat} {w : World} {D : Dk} {a : Option Addr} {n c : Nat} {ls : List (List UInt8)} (hq : LogAt 112 w q p) (h : DkAt 72 w p D) (hD : D.ok) (hv : OwnBss w 0 (.slice a n c) ls) (hl : ls.length ≤ 1000000) :
    Calls Cz.P 62 #[.pointer (some ⟨q, 0, none⟩), .slice a n c] w (CP (fun r w' => Kp (fun k => k = p) w w' ∧ r = .int .i64 (D.compact ls).1 ∧ DkAt 72 w' p (D.compact ls).2) (fun _ _ => False)) := by
  refine C62 ?_
  obtain ⟨_, _, hx⟩ := hv.slice
  cases hx
  unfold B62
  refine ⟨J62 ls w, M62 ls, ⟨.refl _ _, 0, rfl, Nat.zero_le _, by simp, World.ownsRow_nil _ _ _ _⟩, ?_⟩
  rintro a8 n9 c10 x w12 ⟨hk, k, rfl, hkl, hall, ho⟩
  unfold B62_l1
  have hv1 := hv.keep hk .no .no
  have hd1 := h.keep hk nf .no
  have hsz := hk.size
  have hlen : ∀ k, k ≤ ls.length → (∀ l ∈ ls.take k, recOk l) → ((ls.take k).map put).flatten.length ≤ k * 1003 := by
    intro k
    induction k with
    | zero => intro _ _; simp
    | succ k ih =>
      intro hk hr
      have hk' : k < ls.length := by omega
      rw [List.take_add_one, List.getElem?_eq_getElem hk'] at hr ⊢
      have h1 := ih (by omega) (fun l hl => hr l (List.mem_append_left _ hl))
      have h2 := hr ls[k] (List.mem_append_right _ (List.mem_singleton.2 rfl))
      simp only [Option.toList, List.map_append, List.map_cons, List.map_nil, List.flatten_append, List.flatten_cons, List.flatten_nil, List.append_nil, List.length_append, put_length]
      unfold recOk at h2
      omega
  refine ifB_dec (fun hlt => ?_) (fun hlt => ?_)
  · have hk' : k < ls.length := by omega
    obtain ⟨ss, hos, hel⟩ := hv1
    obtain ⟨u, hu, hou⟩ := hel k hk'
    obtain ⟨au, cu, rfl⟩ := own_slice hou
    have hsl := Sl.of_own hos
    obtain ⟨q1, hq1, hcell⟩ : ∃ q1, a = some q1 ∧ w12.cell? (q1.add k) = some (.slice au ls[k].length cu) := by
      obtain ⟨_, ⟨h1, h0⟩ | ⟨p, c, h1, _, _, _, h2⟩⟩ := hsl
      · omega
      · cases h1; exact ⟨p, rfl, h2 k _ hu⟩
    subst hq1
    refine need_and (dec (by omega)) (dec (by omega)) ?_
    simp only [nn_some]
    refine ⟨_, _, _, by rw [show (k : Int).toNat * 1 = k by omega]; exact hcell, (K96 hou.bs).mono fun e w2 hp => ?_⟩
    cases e with
    | returned r =>
      obtain ⟨hk2, ⟨hn, rfl⟩ | ⟨hy, a1, n1, c1, rfl, hop⟩⟩ := hp
      · refine ⟨_, _, _, _, rfl, ifB_split (fun _ => ?_) (fun h => by simp at h)⟩
        have e1 : D.compact ls = (1, D) := by unfold Dk.compact; rw [if_neg (fun h => hn (h _ (List.getElem_mem hk')))]
        rw [e1]
        exact ⟨(hk.then hk2).mono (fun _ _ h => h.elim), rfl, hd1.keep hk2 nf .no⟩
      · refine ⟨_, _, _, _, rfl, ifB_split (fun h => by simp at h) (fun _ => ?_)⟩
        have ho2 : OwnB w2 w.heap.size (.slice a8 n9 c10) _ := own_keep ho hk2 .no
        have hlk := hlen k hkl hall
        have htk : ls.take (k + 1) = ls.take k ++ [ls[k]] := by rw [List.take_add_one, List.getElem?_eq_getElem hk']; rfl
        obtain ⟨a4, n4, c4, w4, hr4, ho4, hk4⟩ := appB (ty := 22) ho2 hop.bs (Nat.le_trans hsz hk2.size) (by rw [List.length_append, put_length]; omega)
        refine ⟨_, _, _, _, hr4, ⟨(hk.then hk2).own ho2 hk4, k + 1, ?_, hk', ?_, ?_⟩, ?_⟩
        · rw [wrap64 (by omega) (by omega)]; omega
        · rw [htk]
          intro l hl
          rcases List.mem_append.1 hl with hl | hl
          · exact hall l hl
          · rw [List.mem_singleton.1 hl]; exact hy
        · rw [htk]
          simp only [List.map_append, List.map_cons, List.map_nil, List.flatten_append, List.flatten_cons, List.flatten_nil, List.append_nil]
          exact ho4
        · show ls.length - (IntKind.i64.wrap ((k : Int) + 1)).toNat < ls.length - (k : Int).toNat
          rw [wrap64 (by omega) (by omega)]
          omega
    | _ => exact hp
  · have hk' : k = ls.length := by omega
    subst hk'
    rw [List.take_length] at hall ho
    have hlk := hlen ls.length (Nat.le_refl _) (by rw [List.take_length]; exact hall)
    rw [List.take_length] at hlk
    have e1 : D.compact ls = D.swap (ls.map put).flatten := by unfold Dk.compact; rw [if_pos hall]
    rw [e1]
    simp only [nn_some]
    refine ⟨_, cl (hk.at hq nf) rfl, (K71 hd1 hD ho.bs (by omega)).mono fun e w2 hp => ?_⟩
    cases e with
    | returned r =>
      obtain ⟨hk2, rfl, hd⟩ := hp
      exact ⟨_, rfl, hk.then hk2, rfl, hd⟩
    | _ => exact hp

theorem K116 {q p : Nat} {w : World} {D : Dk} {a : Option Addr} {n c : Nat} {l : List UInt8} (hq : LogAt 123 w q p) (h : DkAt 54 w p D) (hD : D.ok) (hv : Bs w (.slice a n c) l) :
    Calls Cz.P 116 #[.pointer (some ⟨q, 0, none⟩), .slice a n c] w (CP (fun r w' => Kp (fun k => k = p) w w' ∧ r = .int .i64 (D.appendRec l).1 ∧ DkAt 54 w' p (D.appendRec l).2) (fun _ _ => False)) := by
  refine C116 ?_
  unfold B116
  refine (K117 hv).mono fun e w1 hp => ?_
  cases e with
  | returned r =>
    obtain ⟨hk1, ⟨hn, rfl⟩ | ⟨hy, a1, n1, c1, rfl, ho⟩⟩ := hp
    · refine ⟨_, _, _, _, rfl, ifB_split (fun _ => ?_) (fun h => by simp at h)⟩
      have e1 : D.appendRec l = (1, D) := by unfold Dk.appendRec; rw [if_neg (show ¬ recOk l from hn)]
      rw [e1]
      exact ⟨hk1.mono (fun _ _ h => h.elim), rfl, h.keep hk1 nf .no⟩
    · refine ⟨_, _, _, _, rfl, ifB_split (fun h => by simp at h) (fun _ => ?_)⟩
      have e1 : D.appendRec l = D.append (put l) := by unfold Dk.appendRec; rw [if_pos (show recOk l from hy)]
      rw [e1]
      simp only [nn_some]
      refine ⟨_, cl (hk1.at hq nf) rfl, (K12 (h.keep hk1 nf .no) hD ho.bs (by rw [put_length]; omega)).mono fun e w2 hp => ?_⟩
      cases e with
      | returned r =>
        obtain ⟨hk2, rfl, hd⟩ := hp
        exact ⟨_, rfl, hk1.then hk2, rfl, hd⟩
      | _ => exact hp
  | _ => exact hp

def J88 (ls : List (List UInt8)) (w : World) (vs : List Value) (w' : World) : Prop :=
  match vs with
  | [v, .int _ x] => Kp no w w' ∧ ∃ k : Nat, x = k ∧ k ≤ ls.length ∧ (∀ l ∈ ls.take k, recOk l) ∧ OwnB w' w.heap.size v ((ls.take k).map put).flatten
  | _ => False
def M88 (ls : List (List UInt8)) (vs : List Value) (_ : World) : Nat := match vs with | [_, .int _ x] => ls.length - x.toNat | _ => 0
theorem K88 {q p : Nat} {w : World} {D : Dk} {a : Option Addr} {n c : Nat} {ls : List (List UInt8)} (hq : LogAt 123 w q p) (h : DkAt 54 w p D) (hD : D.ok) (hv : OwnBss w 0 (.slice a n c) ls) (hl : ls.length ≤ 1000000) :
    Calls Cz.P 88 #[.pointer (some ⟨q, 0, none⟩), .slice a n c] w (CP (fun r w' => Kp (fun k => k = p) w w' ∧ r = .int .i64 (D.compact ls).1 ∧ DkAt 54 w' p (D.compact ls).2) (fun _ _ => False)) := by
  refine C88 ?_
  obtain ⟨_, _, hx⟩ := hv.slice
  cases hx
  unfold B88
  refine ⟨J88 ls w, M88 ls, ⟨.refl _ _, 0, rfl, Nat.zero_le _, by simp, World.ownsRow_nil _ _ _ _⟩, ?_⟩
  rintro a8 n9 c10 x w12 ⟨hk, k, rfl, hkl, hall, ho⟩
  unfold B88_l1
  have hv1 := hv.keep hk .no .no
  have hd1 := h.keep hk nf .no
  have hsz := hk.size
  have hlen : ∀ k, k ≤ ls.length → (∀ l ∈ ls.take k, recOk l) → ((ls.take k).map put).flatten.length ≤ k * 1003 := by
    intro k
    induction k with
    | zero => intro _ _; simp
    | succ k ih =>
      intro hk hr
      have hk' : k < ls.length := by omega
      rw [List.take_add_one, List.getElem?_eq_getElem hk'] at hr ⊢
      have h1 := ih (by omega) (fun l hl => hr l (List.mem_append_left _ hl))
      have h2 := hr ls[k] (List.mem_append_right _ (List.mem_singleton.2 rfl))
      simp only [Option.toList, List.map_append, List.map_cons, List.map_nil, List.flatten_append, List.flatten_cons, List.flatten_nil, List.append_nil, List.length_append, put_length]
      unfold recOk at h2
      omega
  refine ifB_dec (fun hlt => ?_) (fun hlt => ?_)
  · have hk' : k < ls.length := by omega
    obtain ⟨ss, hos, hel⟩ := hv1
    obtain ⟨u, hu, hou⟩ := hel k hk'
    obtain ⟨au, cu, rfl⟩ := own_slice hou
    have hsl := Sl.of_own hos
    obtain ⟨q1, hq1, hcell⟩ : ∃ q1, a = some q1 ∧ w12.cell? (q1.add k) = some (.slice au ls[k].length cu) := by
      obtain ⟨_, ⟨h1, h0⟩ | ⟨p, c, h1, _, _, _, h2⟩⟩ := hsl
      · omega
      · cases h1; exact ⟨p, rfl, h2 k _ hu⟩
    subst hq1
    refine need_and (dec (by omega)) (dec (by omega)) ?_
    simp only [nn_some]
    refine ⟨_, _, _, by rw [show (k : Int).toNat * 1 = k by omega]; exact hcell, (K117 hou.bs).mono fun e w2 hp => ?_⟩
    cases e with
    | returned r =>
      obtain ⟨hk2, ⟨hn, rfl⟩ | ⟨hy, a1, n1, c1, rfl, hop⟩⟩ := hp
      · refine ⟨_, _, _, _, rfl, ifB_split (fun _ => ?_) (fun h => by simp at h)⟩
        have e1 : D.compact ls = (1, D) := by unfold Dk.compact; rw [if_neg (fun h => hn (h _ (List.getElem_mem hk')))]
        rw [e1]
        exact ⟨(hk.then hk2).mono (fun _ _ h => h.elim), rfl, hd1.keep hk2 nf .no⟩
      · refine ⟨_, _, _, _, rfl, ifB_split (fun h => by simp at h) (fun _ => ?_)⟩
        have ho2 : OwnB w2 w.heap.size (.slice a8 n9 c10) _ := own_keep ho hk2 .no
        have hlk := hlen k hkl hall
        have htk : ls.take (k + 1) = ls.take k ++ [ls[k]] := by rw [List.take_add_one, List.getElem?_eq_getElem hk']; rfl
        obtain ⟨a4, n4, c4, w4, hr4, ho4, hk4⟩ := appB (ty := 22) ho2 hop.bs (Nat.le_trans hsz hk2.size) (by rw [List.length_append, put_length]; omega)
        refine ⟨_, _, _, _, hr4, ⟨(hk.then hk2).own ho2 hk4, k + 1, ?_, hk', ?_, ?_⟩, ?_⟩
        · rw [wrap64 (by omega) (by omega)]; omega
        · rw [htk]
          intro l hl
          rcases List.mem_append.1 hl with hl | hl
          · exact hall l hl
          · rw [List.mem_singleton.1 hl]; exact hy
        · rw [htk]
          simp only [List.map_append, List.map_cons, List.map_nil, List.flatten_append, List.flatten_cons, List.flatten_nil, List.append_nil]
          exact ho4
        · show ls.length - (IntKind.i64.wrap ((k : Int) + 1)).toNat < ls.length - (k : Int).toNat
          rw [wrap64 (by omega) (by omega)]
          omega
    | _ => exact hp
  · have hk' : k = ls.length := by omega
    subst hk'
    rw [List.take_length] at hall ho
    have hlk := hlen ls.length (Nat.le_refl _) (by rw [List.take_length]; exact hall)
    rw [List.take_length] at hlk
    have e1 : D.compact ls = D.swap (ls.map put).flatten := by unfold Dk.compact; rw [if_pos hall]
    rw [e1]
    simp only [nn_some]
    refine ⟨_, cl (hk.at hq nf) rfl, (K79 hd1 hD ho.bs (by omega)).mono fun e w2 hp => ?_⟩
    cases e with
    | returned r =>
      obtain ⟨hk2, rfl, hd⟩ := hp
      exact ⟨_, rfl, hk.then hk2, rfl, hd⟩
    | _ => exact hp
end Go.Lf
end
