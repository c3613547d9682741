/- Part 24 of the lemmas that a proof leans on; no claim is made here. By an AI agent. -/
import Derived.Test.YtofhodpdfbnkiaaGreatLfD12
import Derived.Test.YtofhodpdfbnkiaaGreatLfD15
import Derived.Test.YtofhodpdfbnkiaaGreatLfD23
section
set_option linter.unusedVariables false
set_option linter.unusedSimpArgs false
namespace Go.Lf
open Go Go.Proofs
theorem inU_of_pool {rs P A B : List Rg} {p : Rg} (h : PoolOf rs P) (hP : P = A ++ p :: B) {y : Int} : inU rs y ↔ inU A y ∨ ((p.lo : Int) ≤ y ∧ y ≤ p.hi) ∨ inU B y := by
  rw [← h.mem y, hP, inU_append, inU_cons]
theorem pool_parts {rs P A B : List Rg} {p : Rg} (h : PoolOf rs P) (hP : P = A ++ p :: B) : p.lo ≤ p.hi ∧ (∀ y, inU A y → y + 1 < p.lo) ∧ (∀ y, inU B y → (p.hi : Int) + 1 < y) := by
  have hg := h.gap
  rw [hP] at hg
  obtain ⟨_, h2, h3⟩ := List.pairwise_append.1 hg
  refine ⟨h.ok p (by rw [hP]; simp), fun y hy => ?_, fun y hy => ?_⟩
  · obtain ⟨r, hr, h4, h5⟩ := hy
    have := h3 r hr p (.head _)
    omega
  · exact inU_ge (List.pairwise_cons.1 h2).1 hy
/-- the first address behind a part of the pool -/
def headLo : List Rg → Int
  | [] => -1
  | p :: _ => p.lo
theorem next_head {rs P A B : List Rg} {a x : Int} (h : PoolOf rs P) (hP : P = A ++ B) (ha : ∀ y, inU A y → y < a) (hb : ∀ y, inU B y → a ≤ y) (hx : NextIs rs a x) : x = headLo B := by
  cases B with
  | nil =>
    rcases hx with ⟨h1, _⟩ | ⟨h1, h2, _⟩
    · exact h1
    · rw [← h.mem x, hP, List.append_nil] at h2
      have := ha x h2; omega
  | cons p B =>
    obtain ⟨h0, h1, h2⟩ := pool_parts h hP
    have hp : inU rs p.lo := (inU_of_pool h hP).2 (.inr (.inl ⟨Int.le_refl _, by omega⟩))
    have hpa : a ≤ p.lo := hb p.lo (inU_cons.2 (.inl ⟨Int.le_refl _, by omega⟩))
    rcases hx with ⟨h3, h4⟩ | ⟨h3, h4, h5⟩
    · have := h4 _ hp; omega
    · have h6 := h5 _ hp hpa
      show x = p.lo
      rcases (inU_of_pool h hP).1 h4 with h7 | h7 | h7
      · have := ha x h7; omega
      · omega
      · have := h2 x h7; omega
theorem cnt_app (A B : List Rg) : cnt (A ++ B) = cnt A + cnt B := by unfold cnt; rw [List.map_append, List.sum_append]
theorem cnt_nonneg {P : List Rg} (h : ∀ r ∈ P, r.lo ≤ r.hi) : 0 ≤ cnt P := by
  rw [← addrs_len h]; omega
/-- what Pool answers -/
def PoolPost (rs : List Rg) (w : World) (r : Value) (w' : World) : Prop := Kp no w w' ∧
  (((∃ x ∈ rs, x.hi < x.lo) ∧ r = .tuple #[.slice none 0 0, .int .i64 1]) ∨
  ((∀ x ∈ rs, x.lo ≤ x.hi) ∧ ((256 < cnt (pool rs) ∧ r = .tuple #[.slice none 0 0, .int .i64 3]) ∨
    (cnt (pool rs) ≤ 256 ∧ ∃ a n c, r = .tuple #[.slice a n c, .int .i64 0] ∧ OwnR w' w.heap.size (.slice a n c) (pool rs)))))
def J74a (rs : List Rg) (w : World) (vs : List Value) (w' : World) : Prop :=
  match vs with | [.int _ i] => Kp no w w' ∧ ∃ k : Nat, i = k ∧ k ≤ rs.length ∧ ∀ x ∈ rs.take k, x.lo ≤ x.hi | _ => False
def M74a (rs : List Rg) (vs : List Value) (_ : World) : Nat := match vs with | [.int _ i] => rs.length - i.toNat | _ => 0
def J74b (P : List Rg) (w : World) (vs : List Value) (w' : World) : Prop :=
  match vs with | [v, .int _ n, .int _ x] => ∃ A B, P = A ++ B ∧ Kp no w w' ∧ OwnR w' w.heap.size v A ∧ n = cnt A ∧ n ≤ 256 ∧ x = headLo B | _ => False
def M74b (vs : List Value) (_ : World) : Nat := match vs with | [_, .int _ n, .int _ x] => if x < 0 then 0 else (300 - n).toNat | _ => 0
def J74c (A : List Rg) (p : Rg) (w0 w : World) (v : Value) (vs : List Value) (w' : World) : Prop :=
  match vs with | [.int _ n, .int _ x] => Kp no w0 w' ∧ OwnR w' w0.heap.size v A ∧ (p.lo : Int) ≤ x ∧ x ≤ p.hi ∧ n = cnt A + (x - p.lo) + 1 ∧ n ≤ 257 | _ => False
def M74c (vs : List Value) (_ : World) : Nat := match vs with | [.int _ n, .int _ x] => (300 - n).toNat | _ => 0
theorem K74 {w : World} {a : Option Addr} {n c : Nat} {rs : List Rg} (hv : Rgs w (.slice a n c) rs) (hok : ∀ r ∈ rs, r.ok) (hl : rs.length ≤ 1048576) :
    Calls Cz.P 74 #[.slice a n c] w (CP (PoolPost rs w) (fun _ _ => False)) := by
  refine C74 ?_
  have hn := hv.len
  subst hn
  unfold B74
  refine ⟨J74a rs w, M74a rs, ⟨.refl _ _, 0, rfl, Nat.zero_le _, by simp⟩, ?_⟩
  rintro i w1 ⟨hk1, k, rfl, hkl, hall⟩
  unfold B74_l1
  refine ifB_dec (fun h => ?_) (fun h => ?_)
  · have hk' : k < rs.length := by omega
    have hkd : Kp no w w1.drew := hk1.then (.drew no _)
    have hv1 : Rgs w1.drew (.slice a rs.length c) rs := hv.keep hkd (fun _ _ _ _ => nf)
    obtain ⟨q, rfl, hc0, hc1⟩ := hv1.at hk'
    refine need_and (dec (by omega)) (dec (by omega)) ?_
    rw [nn_some, show (k : Int).toNat * 2 = k * 2 by omega]
    refine ⟨_, hc1, need_and (dec (by omega)) (dec (by omega)) ?_⟩
    rw [nn_some]
    refine ⟨_, hc0, ifB_dec (fun h2 => ?_) (fun h2 => ?_)⟩
    · exact ⟨hkd, .inl ⟨⟨_, List.getElem_mem hk', by omega⟩, rfl⟩⟩
    · have hi1 : IntKind.i64.wrap ((k : Int) + 1) = ((k + 1 : Nat) : Int) := by rw [wrap64 (by omega) (by omega)]; omega
      refine ⟨⟨hkd, k + 1, hi1, hk', ?_⟩, by show rs.length - (IntKind.i64.wrap ((k : Int) + 1)).toNat < rs.length - (k : Int).toNat; rw [hi1]; omega⟩
      rw [List.take_add_one, List.getElem?_eq_getElem hk']
      intro x hx
      rcases List.mem_append.1 hx with hx | hx
      · exact hall x hx
      · rw [List.mem_singleton.1 hx]; omega
  · have hk' : k = rs.length := by omega
    subst hk'
    rw [List.take_length] at hall
    have hP := pool_ok hall
    have hv1 : Rgs w1 (.slice a rs.length c) rs := hv.keep hk1 (fun _ _ _ _ => nf)
    refine (K110 hv1 hok hl (Int.le_refl 0)).mono fun e w2 hp => ?_
    cases e with
    | returned r =>
      obtain ⟨hk2, x, rfl, hx⟩ := hp
      have hk02 := hk1.then hk2
      refine ⟨_, rfl, J74b (pool rs) w, M74b, ⟨[], pool rs, rfl, hk02, .nil _ _ _ _, rfl, by omega, next_head (A := []) hP rfl (fun y hy => (inU_nil hy).elim) (fun y hy => (inU_bounds hok ((hP.mem y).1 hy)).1) hx⟩, ?_⟩
      rintro av nv cv x22 x23 w3 ⟨A, B, hAB, hk3, ho, rfl, hn256, rfl⟩
      unfold B74_l2
      refine ifB_dec (fun h3 => ?_) (fun h3 => ?_)
      · cases B with
        | nil => exact absurd h3 (by show ¬ ((-1 : Int) ≥ 0); omega)
        | cons p B =>
          have hpok : ∀ r ∈ pool rs, r.lo ≤ r.hi := hP.ok
          have hA : ∀ r ∈ A, r.lo ≤ r.hi := fun r hr => hpok r (by rw [hAB]; exact List.mem_append_left _ hr)
          have hB : ∀ r ∈ B, r.lo ≤ r.hi := fun r hr => hpok r (by rw [hAB]; exact List.mem_append_right _ (.tail _ hr))
          have hcA := cnt_nonneg hA
          have hcB := cnt_nonneg hB
          obtain ⟨h0, h1, h2⟩ := pool_parts hP hAB
          have hpb : (p.hi : Int) < 4294967296 := (inU_bounds hok ((inU_of_pool hP hAB).2 (.inr (.inl ⟨by omega, Int.le_refl _⟩)))).2
          have hcP : cnt (pool rs) = cnt A + (((p.hi : Int) - p.lo + 1) + cnt B) := by
            rw [hAB, cnt_app]; rfl
          refine ⟨J74c A p w w3 (.slice av nv cv), M74c, ⟨hk3, ho, Int.le_refl _, by show (p.lo : Int) ≤ p.hi; omega, by
            show IntKind.i64.wrap (cnt A + 1) = cnt A + ((headLo (p :: B)) - p.lo) + 1
            rw [wrap64 (by omega) (by omega)]
            show cnt A + 1 = cnt A + ((p.lo : Int) - p.lo) + 1
            omega, by rw [wrap64 (by omega) (by omega)]; omega⟩, ?_⟩
          rintro m x w4 ⟨hk4, ho4, hx1, hx2, rfl, hm⟩
          unfold B74_l3
          have hv4 : Rgs w4 (.slice a rs.length c) rs := hv.keep hk4 (fun _ _ _ _ => nf)
          rw [wrap64 (x := x + 1) (by omega) (by omega)]
          refine (K111 hv4 hok hl).mono fun e w5 hp => ?_
          cases e with
          | returned r =>
            obtain ⟨rfl, b, rfl, hb⟩ := hp
            refine ⟨_, rfl, ?_⟩
            have hin : inU rs (x + 1) ↔ x < p.hi := by
              rw [inU_of_pool hP hAB]
              constructor
              · rintro (h | h | h)
                · have := h1 _ h; omega
                · omega
                · have := h2 _ h; omega
              · intro h; exact .inr (.inl ⟨by omega, by omega⟩)
            -- the run is done, or there are too many
            have leave : (¬ x < p.hi ∨ ¬ cnt A + (x - p.lo) + 1 ≤ 256) → B74_j1 (PoolPost rs w) (fun _ _ => False) a rs.length c (J74b (pool rs) w) M74b av nv cv (cnt A) (headLo (p :: B)) w3 (J74c A p w w3 (.slice av nv cv)) M74c (cnt A + (x - p.lo) + 1) x w5 false w5 := by
              intro hlv
              unfold B74_j1
              refine ifB_false.2 (ifB_dec (fun h4 => ?_) (fun h4 => ?_))
              · exact ⟨hk4, .inr ⟨hall, .inl ⟨by omega, rfl⟩⟩⟩
              · have hxp : x = p.hi := by omega
                have hlen : A.length ≤ 256 := by
                  have : ∀ (A : List Rg), (∀ r ∈ A, r.lo ≤ r.hi) → (A.length : Int) ≤ cnt A := by
                    intro A
                    induction A with
                    | nil => intro _; simp [cnt]
                    | cons r A ih =>
                      intro h
                      have h1 := ih fun x hx => h x (.tail _ hx)
                      have h2 := h r (.head _)
                      have e : cnt (r :: A) = r.size + cnt A := by simp [cnt]
                      rw [e]; unfold Rg.size; simp only [List.length_cons]; omega
                  have := this A hA
                  omega
                obtain ⟨a1, n1, c1, w6, hr1, a2, n2, c2, w7, hr2, ho2, hk7⟩ := appE (ty := 23) E23 (by decide) (by decide) ho4 p (cs := #[.int .u32 (IntKind.u32.wrap (headLo (p :: B))), .int .u32 (IntKind.u32.wrap x)]) (by
                  show _ = (rgv p).toArray
                  rw [IntKind.wrap_u32, IntKind.wrap_u32]
                  rw [Int.emod_eq_of_lt (show 0 ≤ headLo (p :: B) from by show (0:Int) ≤ p.lo; omega) (show headLo (p :: B) < _ from by show (p.lo : Int) < 4294967296; omega), Int.emod_eq_of_lt (by omega) (by omega), hxp]
                  rfl) hk4.size (by omega)
                have hk07 : Kp no w w7 := hk4.trans hk7 (fun k hk hs => by have := ho4.base_le k hs; omega)
                have hv7 : Rgs w7 (.slice a rs.length c) rs := hv.keep hk07 (fun _ _ _ _ => nf)
                refine ⟨_, _, _, _, hr1, _, _, _, _, hr2, ?_⟩
                rw [wrap64 (x := x + 1) (by omega) (by omega)]
                refine (K110 hv7 hok hl (by omega)).mono fun e w8 hp => ?_
                cases e with
                | returned r =>
                  obtain ⟨hk8, y, rfl, hy⟩ := hp
                  have hsz : cnt (A ++ [p]) = cnt A + (x - p.lo) + 1 := by rw [cnt_app, hxp]; simp [cnt, Rg.size]; omega
                  refine ⟨_, rfl, ⟨A ++ [p], B, by rw [hAB]; simp, hk07.then hk8, ho2.keep hk8 .no, hsz.symm, by omega, next_head (A := A ++ [p]) hP (by rw [hAB]; simp) ?_ ?_ hy⟩, ?_⟩
                  · intro y hy
                    rcases inU_append.1 hy with h | h
                    · have := h1 y h; omega
                    · rcases inU_cons.1 h with h | h
                      · omega
                      · exact (inU_nil h).elim
                  · intro y hy; have := h2 y hy; omega
                  · show (if y < 0 then 0 else (300 - (cnt A + (x - p.lo) + 1)).toNat) < (if headLo (p :: B) < 0 then 0 else (300 - cnt A).toNat)
                    rw [if_neg (show ¬ headLo (p :: B) < 0 from by show ¬ (p.lo : Int) < 0; omega)]
                    split <;> omega
                | _ => exact hp
            refine ifB_split (fun hbt => ?_) (fun hbf => ?_)
            · have hlt := hin.1 (hb.1 hbt)
              by_cases h4 : cnt A + (x - p.lo) + 1 ≤ 256
              · rw [decide_eq_true h4]
                unfold B74_j1
                refine ifB_true.2 ⟨⟨hk4, ho4, ?_, ?_, ?_, ?_⟩, ?_⟩
                · rw [wrap64 (by omega) (by omega)]; omega
                · rw [wrap64 (by omega) (by omega)]; omega
                · rw [wrap64 (by omega) (by omega), wrap64 (by omega) (by omega)]; omega
                · rw [wrap64 (by omega) (by omega)]; omega
                · show (300 - (IntKind.i64.wrap (cnt A + (x - p.lo) + 1 + 1))).toNat < (300 - (cnt A + (x - p.lo) + 1)).toNat
                  rw [wrap64 (by omega) (by omega)]; omega
              · rw [decide_eq_false h4]
                exact leave (.inr h4)
            · exact leave (.inl fun h => by have := hb.2 (hin.2 h); rw [hbf] at this; cases this)
          | _ => exact hp
      · cases B with
        | nil =>
          rw [List.append_nil] at hAB
          subst hAB
          exact ⟨hk3, .inr ⟨hall, .inr ⟨hn256, _, _, _, rfl, ho⟩⟩⟩
        | cons p B => exact absurd (show ((p.lo : Nat) : Int) ≥ 0 by omega) h3
    | _ => exact hp
end Go.Lf
end

section
set_option linter.unusedVariables false
set_option linter.unusedSimpArgs false
namespace Go.Lf
open Go Go.Proofs
theorem addrs_cons (r : Rg) (P : List Rg) : addrs (r :: P) = r.addrs ++ addrs P := by unfold addrs; rw [List.flatMap_cons]
theorem addrs_app (A B : List Rg) : addrs (A ++ B) = addrs A ++ addrs B := by unfold addrs; rw [List.flatMap_append]
theorem Rg.addrs_len {r : Rg} (h : r.lo ≤ r.hi) : (r.addrs.length : Int) = r.size := by unfold Rg.addrs Rg.size; rw [List.length_range']; omega
theorem drop_at {α : Type} {l : List α} {k : Nat} (h : k < l.length) : l.drop k = l[k] :: l.drop (k + 1) := List.drop_eq_getElem_cons h
def J76 (P : List Rg) (n : Nat) (w : World) (vs : List Value) (w' : World) : Prop :=
  match vs with | [.int _ m, .int _ i] => Kp no w w' ∧ ∃ k j : Nat, i = k ∧ m = j ∧ k ≤ P.length ∧ (addrs P)[n]? = (addrs (P.drop k))[j]? | _ => False
def M76 (P : List Rg) (vs : List Value) (_ : World) : Nat := match vs with | [_, .int _ i] => P.length - i.toNat | _ => 0
theorem K76 {w : World} {a : Option Addr} {m c : Nat} {P : List Rg} (hv : Rgs w (.slice a m c) P) (hok : ∀ r ∈ P, r.ok ∧ r.lo ≤ r.hi) (hl : P.length ≤ 1048576) {n : Nat} (hn : n < (addrs P).length) (hn' : n < 4294967296) :
    Calls Cz.P 76 #[.slice a m c, .int .i64 n] w (CP (fun r w' => Kp no w w' ∧ r = .tuple #[.int .u32 ((addrs P)[n] : Nat), .int .i64 0]) (fun _ _ => False)) := by
  refine C76 ?_
  have hm := hv.len
  subst hm
  unfold B76
  refine ⟨J76 P n w, M76 P, ⟨.refl _ _, 0, n, rfl, rfl, Nat.zero_le _, rfl⟩, ?_⟩
  rintro x8 x9 w1 ⟨hk, k, j, rfl, rfl, hkl, hj⟩
  unfold B76_l1
  rw [List.getElem?_eq_getElem hn] at hj
  have hkP : k < P.length := by
    rcases Nat.lt_or_ge k P.length with h | h
    · exact h
    · rw [List.drop_eq_nil_of_le h] at hj; simp [addrs] at hj
  refine ifB_dec (fun h => ?_) (fun h => by omega)
  unfold B76_j1
  rw [decide_eq_true (show (j : Int) ≥ 0 by omega)]
  refine ifB_true.2 ?_
  have hkd : Kp no w w1.drew := hk.then (.drew no _)
  have hv1 : Rgs w1.drew (.slice a P.length c) P := hv.keep hkd (fun _ _ _ _ => nf)
  obtain ⟨q, rfl, hc0, hc1⟩ := hv1.at hkP
  obtain ⟨hro, hlh⟩ := hok _ (List.getElem_mem hkP)
  unfold Rg.ok at hro
  have hsz := Rg.addrs_len hlh
  unfold Rg.size at hsz
  have hd : addrs (P.drop k) = P[k].addrs ++ addrs (P.drop (k + 1)) := by rw [drop_at hkP, addrs_cons]
  rw [hd] at hj
  have hi1 : IntKind.i64.wrap ((k : Int) + 1) = ((k + 1 : Nat) : Int) := by rw [wrap64 (by omega) (by omega)]; omega
  refine need_and (dec (by omega)) (dec (by omega)) ?_
  rw [nn_some, show (k : Int).toNat * 2 = k * 2 by omega]
  refine ⟨_, hc1, need_and (dec (by omega)) (dec (by omega)) ?_⟩
  rw [nn_some]
  refine ⟨_, hc0, ?_⟩
  rw [wrap64 (x := (P[k].hi : Int)) (by omega) (by omega), wrap64 (x := (P[k].lo : Int)) (by omega) (by omega), wrap64 (x := (P[k].hi : Int) - P[k].lo) (by omega) (by omega), wrap64 (x := (P[k].hi : Int) - P[k].lo + 1) (by omega) (by omega)]
  refine ifB_dec (fun h2 => need_and (dec (by omega)) (dec (by omega)) ?_) (fun h2 => ?_)
  · rw [nn_some]
    refine ⟨_, hc0, hkd, ?_⟩
    rw [List.getElem?_append_left (by omega)] at hj
    unfold Rg.addrs at hj
    rw [List.getElem?_range' (by omega)] at hj
    have hj := Option.some.inj hj
    rw [hj, IntKind.wrap_u32, IntKind.wrap_u32]
    rw [show ((P[k].lo : Int) + (j : Int) % 4294967296) % 4294967296 = ((P[k].lo + 1 * j : Nat) : Int) by omega]
  · rw [List.getElem?_append_right (by omega)] at hj
    have hw : IntKind.i64.wrap ((j : Int) - ((P[k].hi : Int) - P[k].lo + 1)) = ((j - P[k].addrs.length : Nat) : Int) := by
      have : (j : Int) < 9223372036854775807 := by
        have : j - P[k].addrs.length < (addrs (P.drop (k + 1))).length := (List.getElem?_eq_some_iff.1 hj.symm).1
        have h3 : (addrs (P.drop (k + 1))).length ≤ (addrs P).length := by
          rw [← List.take_append_drop (k + 1) P, addrs_app (P.take (k + 1)), List.length_append, List.take_append_drop]; omega
        have h4 := addrs_len (P := P) (fun r hr => (hok r hr).2)
        have h5 := cnt_bound P (fun r hr => (hok r hr).1)
        omega
      rw [wrap64 (by omega) (by omega)]; omega
    rw [hw]
    refine ⟨⟨hkd, k + 1, _, hi1, rfl, hkP, ?_⟩, ?_⟩
    · rw [List.getElem?_eq_getElem hn, hj]
    · show P.length - (IntKind.i64.wrap ((k : Int) + 1)).toNat < P.length - (k : Int).toNat
      rw [hi1]; omega

def J126a (P : List Rg) (I : Nat → World → Prop) (S : Nat → Prop) (w : World) (vs : List Value) (w' : World) : Prop :=
  match vs with | [.int _ m, .int _ i] => Kp S w w' ∧ ∃ k : Nat, i = k ∧ k ≤ P.length ∧ m = ((addrs (P.take k)).length : Nat) ∧ I (addrs (P.take k)).length w' | _ => False
def M126a (P : List Rg) (vs : List Value) (_ : World) : Nat := match vs with | [_, .int _ i] => P.length - i.toNat | _ => 0
def J126b (b0 : Nat) (r : Rg) (I : Nat → World → Prop) (S : Nat → Prop) (k15 : Nat) (w : World) (vs : List Value) (w' : World) : Prop :=
  match vs with | [.int _ m, .int _ i] => Kp S w w' ∧ w'.heap[k15]? = some (.cells #[.int .u32 (r.lo : Int), .int .u32 (r.hi : Int)] 96 (0, 0)) ∧ ∃ j : Nat, i = j ∧ j ≤ r.addrs.length ∧ m = ((b0 + j : Nat) : Int) ∧ I (b0 + j) w' | _ => False
def M126b (r : Rg) (vs : List Value) (_ : World) : Nat := match vs with | [_, .int _ i] => r.addrs.length - i.toNat | _ => 0
theorem K126 {w0 w : World} {q : Addr} {v1 : Value} {a : Option Addr} {m c : Nat} {P : List Rg} {I : Nat → World → Prop} {F : World → Prop} {S : Nat → Prop}
    (hq : w.cell? q = some (.slice a m c)) (hv : Rgs w0 (.slice a m c) P) (h0 : Kp no w0 w) (hok : ∀ r ∈ P, r.ok ∧ r.lo ≤ r.hi) (hl : P.length ≤ 1048576) (hla : (addrs P).length ≤ 4294967296)
    (hS : ∀ k, S k → w0.heap.size ≤ k ∧ k < w.heap.size) (hI : I 0 w) (hIk : ∀ i w' w'', I i w' → Kp no w' w'' → I i w'')
    (hy : ∀ (i : Nat) (h : i < (addrs P).length) (w' : World), I i w' → vCall Cz v1 [.int .i64 i, .int .u32 ((addrs P)[i] : Nat)] w' (CP (fun r w'' => Kp S w' w'' ∧ ((r = .bool true ∧ I (i + 1) w'') ∨ (r = .bool false ∧ F w''))) (fun _ _ => False))) :
    Calls Cz.P 126 #[v1, .pointer (some q)] w (CP (fun r w' => r = .tuple #[] ∧ Kp S w w' ∧ (I (addrs P).length w' ∨ F w')) (fun _ _ => False)) := by
  refine C126 ?_
  have hm := hv.len
  subst hm
  unfold B126
  refine ⟨_, _, _, hq, J126a P I S w, M126a P, ⟨.refl _ _, 0, rfl, Nat.zero_le _, rfl, hI⟩, ?_⟩
  rintro x9 x10 w1 ⟨hk1, k, rfl, hkl, rfl, hI1⟩
  unfold B126_l1
  have hz0 := h0.size
  have hk01 : ∀ {w'}, Kp S w w' → Kp no w0 w' := fun h => h0.trans h (fun k hk hs => by have := hS k hs; omega)
  refine ifB_dec (fun h => ?_) (fun h => ?_)
  · have hk' : k < P.length := by omega
    have hv1 : Rgs w1 (.slice a P.length c) P := hv.keep (hk01 hk1) (fun _ _ _ _ => nf)
    obtain ⟨p, rfl, hc0, hc1⟩ := hv1.at hk'
    obtain ⟨hro, hlh⟩ := hok _ (List.getElem_mem hk')
    have hro' := hro
    unfold Rg.ok at hro'
    have hsz := Rg.addrs_len hlh
    have htk : addrs (P.take (k + 1)) = addrs (P.take k) ++ P[k].addrs := by
      rw [List.take_add_one, List.getElem?_eq_getElem hk', addrs_app]
      simp only [Option.toList]
      rw [addrs_cons]; simp [addrs]
    have hlen1 : (addrs (P.take (k + 1))).length ≤ (addrs P).length := by
      have : addrs P = addrs (P.take (k + 1)) ++ addrs (P.drop (k + 1)) := by rw [← addrs_app, List.take_append_drop]
      rw [this, List.length_append]; omega
    rw [htk, List.length_append] at hlen1
    refine need_and (dec (by omega)) (dec (by omega)) ?_
    rw [nn_some, show (k : Int).toNat * 2 = k * 2 by omega]
    refine ⟨_, _, ⟨hc0, hc1, trivial⟩, nw_i fun b w2 e2 hk2 g2 => st_i g2 (by simp) fun w3 hk3 g3 => st_i g3 (by simp) fun w4 hk4 g4 => ⟨_, _, ⟨cl g4 rfl, cl g4 rfl, trivial⟩, (K106 hro w4).mono fun e w5 hp => ?_⟩⟩
    cases e with
    | returned r =>
      obtain ⟨hk5, rfl⟩ := hp
      have hz1 := hk1.size
      have hk15 : Kp no w1 w5 := ((hk2.trans hk3 (fun b hb h => by omega)).trans hk4 (fun b hb h => by omega)).then hk5
      have g5 : w5.heap[b]? = some (.cells #[.int .u32 (P[k].lo : Int), .int .u32 (P[k].hi : Int)] 96 (0, 0)) := hk5.at g4 nf
      have hkw5 : Kp S w w5 := hk1.trans hk15 (fun _ _ h => h.elim)
      have hnb : ¬ S b := fun h => by have := hS b h; omega
      refine ⟨_, rfl, J126b (addrs (P.take k)).length P[k] I S b w, M126b P[k], ⟨hkw5, g5, 0, rfl, Nat.zero_le _, rfl, hIk _ _ _ hI1 hk15⟩, ?_⟩
      rintro x26 x27 w6 ⟨hk6, g6, j, rfl, hj, rfl, hI6⟩
      unfold B126_l2
      refine ifB_dec (fun h2 => ?_) (fun h2 => ?_)
      · have hj' : j < P[k].addrs.length := by omega
        have hidx : (addrs (P.take k)).length + j < (addrs P).length := by omega
        have hval : (addrs P)[(addrs (P.take k)).length + j] = P[k].lo + j := by
          have e1 : addrs P = addrs (P.take k) ++ (P[k].addrs ++ addrs (P.drop (k + 1))) := by
            rw [← List.append_assoc, ← htk, ← addrs_app, List.take_append_drop]
          have : (addrs P)[(addrs (P.take k)).length + j]? = some (P[k].lo + j) := by
            rw [e1, List.getElem?_append_right (by omega), List.getElem?_append_left (by omega)]
            unfold Rg.addrs
            have hjl := hj'
            unfold Rg.addrs at hjl
            rw [List.length_range'] at hjl
            rw [List.getElem?_range' (by omega)]
            congr 1; omega
          rw [List.getElem?_eq_getElem hidx] at this
          exact Option.some.inj this
        have hcall := hy _ hidx w6 hI6
        rw [hval] at hcall
        unfold Rg.size at hsz
        refine ⟨_, cl g6 rfl, ?_⟩
        have hw32 : IntKind.u32.wrap ((P[k].lo : Int) + IntKind.u32.wrap (j : Int)) = ((P[k].lo + j : Nat) : Int) := by
          rw [IntKind.wrap_u32, IntKind.wrap_u32]; omega
        rw [hw32]
        refine vCall_mono hcall fun e w7 hp => ?_
        cases e with
        | returned r =>
          obtain ⟨hk7, ⟨rfl, hI7⟩ | ⟨rfl, hF⟩⟩ := hp
          · refine ⟨_, rfl, ifB_false.2 ⟨⟨hk6.trans hk7 (fun _ _ h => h), hk7.at g6 hnb, j + 1, ?_, hj', ?_, ?_⟩, ?_⟩⟩
            · rw [wrap64 (by omega) (by omega)]; omega
            · rw [wrap64 (by omega) (by omega)]; omega
            · rw [show (addrs (P.take k)).length + (j + 1) = (addrs (P.take k)).length + j + 1 by omega]; exact hI7
            · show P[k].addrs.length - (IntKind.i64.wrap ((j : Int) + 1)).toNat < P[k].addrs.length - (j : Int).toNat
              rw [wrap64 (by omega) (by omega)]; omega
          · exact ⟨_, rfl, ifB_true.2 ⟨rfl, hk6.trans hk7 (fun _ _ h => h), .inr hF⟩⟩
        | _ => exact hp
      · have hj' : j = P[k].addrs.length := by omega
        subst hj'
        refine ⟨⟨hk6, k + 1, ?_, hk', ?_, ?_⟩, ?_⟩
        · rw [wrap64 (by omega) (by omega)]; omega
        · rw [htk, List.length_append]
        · rw [htk, List.length_append]; exact hI6
        · show P.length - (IntKind.i64.wrap ((k : Int) + 1)).toNat < P.length - (k : Int).toNat
          rw [wrap64 (by omega) (by omega)]; omega
    | _ => exact hp
  · have hk' : k = P.length := by omega
    subst hk'
    rw [List.take_length] at hI1
    exact ⟨rfl, hk1, .inl hI1⟩
theorem K107 {w : World} {a : Option Addr} {n c : Nat} {Rt : Value → World → Prop} {E : List PanicEntry → World → Prop}
    (h : ∀ k w', Kp no w w' → k = w.heap.size → w'.heap[k]? = some (.cells #[.slice a n c] 23 (0, 0)) → Rt (.func (.func 126) #[] #[.pointer (some ⟨k, 0, none⟩)]) w') : Calls Cz.P 107 #[.slice a n c] w (CP Rt E) := by
  refine C107 ?_
  unfold B107
  exact nw_i fun b w1 e hk hg => h b w1 hk e hg
end Go.Lf
end
