/- Part 21 of the lemmas that a proof leans on; no claim is made here. By an AI agent. -/
import Derived.Test.YtofhodpdfbnkiaaGreatLfD06
import Derived.Test.YtofhodpdfbnkiaaGreatLfD11
import Derived.Test.YtofhodpdfbnkiaaGreatLfD12
import Derived.Test.YtofhodpdfbnkiaaGreatLfD13
import Derived.Test.YtofhodpdfbnkiaaGreatLfD14
import Derived.Test.YtofhodpdfbnkiaaGreatLfD15
import Derived.Test.YtofhodpdfbnkiaaGreatLfD16
import Derived.Test.YtofhodpdfbnkiaaGreatLfD20
section
set_option linter.unusedVariables false
set_option linter.unusedSimpArgs false
namespace Go.Lf
open Go Go.Proofs

structure Ls where
  addr : Int
  bind : Int
  client : ByteArray
  till : Int
  acked : Int
  told : Int
  at_ : Int
  ver : Int
def Ls.cells (x : Ls) : Array Value := #[.int .u32 x.addr, .int .i64 x.bind, .string x.client, .int .i64 x.till, .int .i64 x.acked, .int .i64 x.told, .int .i64 x.at_, .int .i64 x.ver]
abbrev Ls.val (x : Ls) : Value := .agg #[.int .u32 x.addr, .int .i64 x.bind, .string x.client, .int .i64 x.till, .int .i64 x.acked, .int .i64 x.told, .int .i64 x.at_, .int .i64 x.ver]
def bare (a b v : Int) : Ls := ⟨a, b, ⟨#[]⟩, 0, 0, 0, 0, v⟩
def tm (n : Int) : Bool := decide (0 ≤ n ∧ n ≤ 1099511627776)
def held (b : Int) : Bool := decide (2 ≤ b ∧ b ≤ 4)
def Ls.right (x : Ls) : Bool := tm x.till && tm x.acked && tm x.told && tm x.at_ && tm x.ver && decide (0 ≤ x.bind ∧ x.bind ≤ 5) &&
  (if held x.bind = true then decide (1 ≤ x.client.size ∧ x.client.size ≤ 32) else decide (x.client.size = 0 ∧ x.till = 0 ∧ x.acked = 0 ∧ x.told = 0 ∧ x.at_ = 0))

theorem st8 {w : World} {k : Nat} {c0 c1 c2 c3 c4 c5 c6 c7 v0 v1 v2 v3 v4 v5 v6 v7 : Value} {e : TypeId} {K : World → Prop}
    (h : w.heap[k]? = some (.cells #[c0, c1, c2, c3, c4, c5, c6, c7] e (0, 0)))
    (hK : ∀ w', Kp (fun b => b = k) w w' → w'.heap[k]? = some (.cells #[v0, v1, v2, v3, v4, v5, v6, v7] e (0, 0)) → K w') :
    st w ⟨k, 0, none⟩ v0 fun w1 => st w1 ⟨k, 1, none⟩ v1 fun w2 => st w2 ⟨k, 2, none⟩ v2 fun w3 => st w3 ⟨k, 3, none⟩ v3 fun w4 =>
      st w4 ⟨k, 4, none⟩ v4 fun w5 => st w5 ⟨k, 5, none⟩ v5 fun w6 => st w6 ⟨k, 6, none⟩ v6 fun w7 => st w7 ⟨k, 7, none⟩ v7 K := by
  refine st_i h (by simp) fun w1 k1 h1 => ?_
  have g1 : w1.heap[k]? = some (.cells #[v0, c1, c2, c3, c4, c5, c6, c7] e (0, 0)) := h1
  refine st_i g1 (by simp) fun w2 k2 h2 => ?_
  have g2 : w2.heap[k]? = some (.cells #[v0, v1, c2, c3, c4, c5, c6, c7] e (0, 0)) := h2
  refine st_i g2 (by simp) fun w3 k3 h3 => ?_
  have g3 : w3.heap[k]? = some (.cells #[v0, v1, v2, c3, c4, c5, c6, c7] e (0, 0)) := h3
  refine st_i g3 (by simp) fun w4 k4 h4 => ?_
  have g4 : w4.heap[k]? = some (.cells #[v0, v1, v2, v3, c4, c5, c6, c7] e (0, 0)) := h4
  refine st_i g4 (by simp) fun w5 k5 h5 => ?_
  have g5 : w5.heap[k]? = some (.cells #[v0, v1, v2, v3, v4, c5, c6, c7] e (0, 0)) := h5
  refine st_i g5 (by simp) fun w6 k6 h6 => ?_
  have g6 : w6.heap[k]? = some (.cells #[v0, v1, v2, v3, v4, v5, c6, c7] e (0, 0)) := h6
  refine st_i g6 (by simp) fun w7 k7 h7 => ?_
  have g7 : w7.heap[k]? = some (.cells #[v0, v1, v2, v3, v4, v5, v6, c7] e (0, 0)) := h7
  refine st_i g7 (by simp) fun w8 k8 h8 => ?_
  have g8 : w8.heap[k]? = some (.cells #[v0, v1, v2, v3, v4, v5, v6, v7] e (0, 0)) := h8
  exact hK w8 (((((((k1.trans k2 fun _ _ h => h).trans k3 fun _ _ h => h).trans k4 fun _ _ h => h).trans k5 fun _ _ h => h).trans k6 fun _ _ h => h).trans k7 fun _ _ h => h).trans k8 fun _ _ h => h) g8

theorem K60 (a b v : Int) (w : World) : Calls Cz.P 60 #[.int .u32 a, .int .i64 b, .int .i64 v] w (CP (fun r w' => Kp no w w' ∧ r = (bare a b v).val) (fun _ _ => False)) := by
  refine C60 ?_
  unfold B60
  refine nw_i fun k w1 ek hk hg => st8 hg fun w2 hk2 h2 => ?_
  refine ⟨_, _, _, _, _, _, _, _, ⟨cl h2 rfl, cl h2 rfl, cl h2 rfl, cl h2 rfl, cl h2 rfl, cl h2 rfl, cl h2 rfl, cl h2 rfl, trivial⟩, hk.trans hk2 (fun b hb h => by omega), rfl⟩
theorem K77 (a b v : Int) (w : World) : Calls Cz.P 77 #[.int .u32 a, .int .i64 b, .int .i64 v] w (CP (fun r w' => Kp no w w' ∧ r = (bare a b v).val) (fun _ _ => False)) := by
  refine C77 ?_
  unfold B77
  refine nw_i fun k w1 ek hk hg => st8 hg fun w2 hk2 h2 => ?_
  refine ⟨_, _, _, _, _, _, _, _, ⟨cl h2 rfl, cl h2 rfl, cl h2 rfl, cl h2 rfl, cl h2 rfl, cl h2 rfl, cl h2 rfl, cl h2 rfl, trivial⟩, hk.trans hk2 (fun b hb h => by omega), rfl⟩
theorem K98 (b : Int) (w : World) : Calls Cz.P 98 #[.int .i64 b] w (CP (fun r w' => w' = w ∧ r = .bool (held b)) (fun _ _ => False)) := by
  refine C98 ?_
  unfold B98 B98_j1 held
  exact ifB_dec (fun h => ⟨rfl, by simp only [Value.bool.injEq, decide_eq_decide]; omega⟩) (fun h => ⟨rfl, by simp; omega⟩)
theorem K115 (n : Int) (w : World) : Calls Cz.P 115 #[.int .i64 n] w (CP (fun r w' => w' = w ∧ r = .bool (tm n)) (fun _ _ => False)) := by
  refine C115 ?_
  unfold B115 B115_j1 tm
  exact ifB_dec (fun h => ⟨rfl, by simp only [Value.bool.injEq, decide_eq_decide]; omega⟩) (fun h => ⟨rfl, by simp; omega⟩)
/-- the places of a lease's times -/
theorem K97 {p : Nat} {w : World} (hp : p < w.heap.size) : Calls Cz.P 97 #[.pointer (some ⟨p, 0, none⟩)] w (CP (fun r w' => Kp no w w' ∧
    r = .agg #[.pointer (some ⟨p, 3, none⟩), .pointer (some ⟨p, 4, none⟩), .pointer (some ⟨p, 5, none⟩), .pointer (some ⟨p, 6, none⟩), .pointer (some ⟨p, 7, none⟩)]) (fun _ _ => False)) := by
  refine C97 ?_
  unfold B97
  refine nw_i fun k w1 ek hk hg => ?_
  simp only [nn_some, addk, Nat.reduceAdd, Nat.zero_add]
  refine st_i (w := w1.drew) hg (by simp) fun w2 k2 h2 => st_i h2 (by simp) fun w3 k3 h3 => st_i h3 (by simp) fun w4 k4 h4 => st_i h4 (by simp) fun w5 k5 h5 => st_i h5 (by simp) fun w6 k6 h6 => ?_
  refine ⟨_, _, _, _, _, ⟨cl h6 rfl, cl h6 rfl, cl h6 rfl, cl h6 rfl, cl h6 rfl, trivial⟩, ?_, rfl⟩
  exact (hk.then (Kp.drew no _)).trans ((((k2.trans k3 fun _ _ h => h).trans k4 fun _ _ h => h).trans k5 fun _ _ h => h).trans k6 fun _ _ h => h) (fun b hb h => by omega)
theorem str_nil (s : ByteArray) : (s.toList == (⟨#[]⟩ : ByteArray).toList) = decide (s.size = 0) := by
  rw [ByteArray.toList_eq, ByteArray.toList_eq]
  rw [Bool.eq_iff_iff]
  simp only [beq_iff_eq, decide_eq_true_eq]
  constructor
  · intro h; show s.data.size = 0; rw [← Array.length_toList, h]; rfl
  · intro h; have h : s.data.size = 0 := h; rw [← Array.length_toList] at h; exact List.eq_nil_of_length_eq_zero h

def Ls.times (x : Ls) : List Int := [x.till, x.acked, x.told, x.at_, x.ver]
def Ls.tms (x : Ls) : Bool := tm x.till && tm x.acked && tm x.told && tm x.at_ && tm x.ver
def J64 (x : Ls) (w : World) (k10 : Nat) (vs : List Value) (w' : World) : Prop :=
  match vs with
  | [.int _ i] => Kp no w w' ∧ w'.heap[k10]? = some (.cells x.cells 49 (0, 0)) ∧ ∃ k : Nat, i = k ∧ k ≤ 5 ∧ ∀ t ∈ x.times.take k, tm t = true
  | _ => False
def M64 (vs : List Value) (_ : World) : Nat := match vs with | [.int _ i] => 5 - i.toNat | _ => 0
theorem right_not_tms {x : Ls} (h : x.tms = false) : x.right = false := by
  unfold Ls.right; unfold Ls.tms at h; rw [h]; rfl
theorem tms_not {x : Ls} {t : Int} (ht : t ∈ x.times) (h : tm t = false) : x.tms = false := by
  unfold Ls.times at ht
  unfold Ls.tms
  simp only [List.mem_cons, List.not_mem_nil, or_false] at ht
  rcases ht with rfl | rfl | rfl | rfl | rfl <;> simp [h]

theorem K64 (x : Ls) (w : World) : Calls Cz.P 64 #[x.val] w (CP (fun r w' => Kp no w w' ∧ r = .bool x.right) (fun _ _ => False)) := by
  refine C64 ?_
  unfold B64
  refine nw_i fun k w1 ek hk hg => (K97 (lt_of_get hg)).mono fun e w2 hp => ?_
  cases e with
  | returned r =>
    obtain ⟨hk2, rfl⟩ := hp
    refine ⟨_, _, _, _, _, rfl, J64 x w k, M64, ⟨hk.then hk2, hk2.at hg nf, 0, rfl, by omega, by simp⟩, ?_⟩
    rintro i w3 ⟨hk3, h3, n, rfl, hn, ht⟩
    unfold B64_l1
    have h3 : w3.heap[k]? = some (.cells #[.int .u32 x.addr, .int .i64 x.bind, .string x.client, .int .i64 x.till, .int .i64 x.acked, .int .i64 x.told, .int .i64 x.at_, .int .i64 x.ver] 49 (0, 0)) := h3
    refine ifB_dec (fun hlt => ?_) (fun hlt => ?_)
    · have key : ∀ t, x.times[n]? = some t → ∃ (p23 : Option Addr), #[((.pointer (some ⟨k, 3, none⟩)) : Value), ((.pointer (some ⟨k, 4, none⟩)) : Value), ((.pointer (some ⟨k, 5, none⟩)) : Value), ((.pointer (some ⟨k, 6, none⟩)) : Value), ((.pointer (some ⟨k, 7, none⟩)) : Value)][(n : Int).toNat]? = some (.pointer p23) ∧ nn p23 fun q24 => ∃ (x25 : Int), w3.cell? q24 = some (.int .i64 x25) ∧ x25 = t ∧ p23 = some q24 := by
        intro t h
        match n, h with
        | 0, h => exact ⟨_, rfl, _, cl h3 rfl, by simpa [Ls.times] using h, rfl⟩
        | 1, h => exact ⟨_, rfl, _, cl h3 rfl, by simpa [Ls.times] using h, rfl⟩
        | 2, h => exact ⟨_, rfl, _, cl h3 rfl, by simpa [Ls.times] using h, rfl⟩
        | 3, h => exact ⟨_, rfl, _, cl h3 rfl, by simpa [Ls.times] using h, rfl⟩
        | 4, h => exact ⟨_, rfl, _, cl h3 rfl, by simpa [Ls.times] using h, rfl⟩
        | _ + 5, h => omega
      have hn5 : n < x.times.length := by simp [Ls.times]; omega
      obtain ⟨p, hp, hnn⟩ := key _ (List.getElem?_eq_getElem hn5)
      rw [nn_iff] at hnn
      obtain ⟨q, rfl, x25, hc, rfl, _⟩ := hnn
      have bad : tm x.times[n] = false → Kp no w w3 ∧ Value.bool false = .bool x.right := fun h => ⟨hk3, by rw [right_not_tms (tms_not (List.getElem_mem hn5) h)]⟩
      refine need_and (dec (by omega)) (dec (by omega)) ⟨_, hp, ?_⟩
      rw [nn_some]
      refine ⟨_, hc, ?_⟩
      unfold B64_j1
      refine ifB_dec (fun h => bad (by simp [tm]; omega)) (fun h => ?_)
      rw [nn_some]
      refine ⟨_, hc, ifB_dec (fun h => bad (by simp [tm]; omega)) (fun h' => ?_)⟩
      refine ⟨⟨hk3, h3, n + 1, ?_, by omega, ?_⟩, ?_⟩
      · rw [wrap64 (by omega) (by omega)]; omega
      · rw [List.take_add_one, List.getElem?_eq_getElem hn5]
        intro t hm
        rcases List.mem_append.1 hm with hm | hm
        · exact ht t hm
        · rw [List.mem_singleton.1 hm]; simp [tm]; omega
      · show 5 - (IntKind.i64.wrap ((n : Int) + 1)).toNat < 5 - (n : Int).toNat
        rw [wrap64 (by omega) (by omega)]; omega
    · have hn5 : n = 5 := by omega
      subst hn5
      have htm : x.tms = true := by
        simp only [Ls.times, List.take, List.mem_cons, List.not_mem_nil, or_false, forall_eq_or_imp, forall_eq] at ht
        simp [Ls.tms, ht]
      have hr : x.right = (decide (0 ≤ x.bind ∧ x.bind ≤ 5) && (if held x.bind = true then decide (1 ≤ x.client.size ∧ x.client.size ≤ 32) else decide (x.client.size = 0 ∧ x.till = 0 ∧ x.acked = 0 ∧ x.told = 0 ∧ x.at_ = 0))) := by
        have : x.right = (x.tms && decide (0 ≤ x.bind ∧ x.bind ≤ 5) && (if held x.bind = true then decide (1 ≤ x.client.size ∧ x.client.size ≤ 32) else decide (x.client.size = 0 ∧ x.till = 0 ∧ x.acked = 0 ∧ x.told = 0 ∧ x.at_ = 0))) := rfl
        rw [this, htm, Bool.true_and]
      rw [hr]
      refine ⟨_, cl h3 rfl, ifB_dec (fun h => ?_) (fun h => ⟨_, cl h3 rfl, ?_⟩)⟩
      · exact ⟨hk3, by simp; omega⟩
      · unfold B64_j2
        refine ifB_dec (fun h' => ⟨hk3, by simp; omega⟩) (fun h' => ⟨_, cl h3 rfl, (K98 _ _).mono fun e w4 hp => ?_⟩)
        have hb : decide (0 ≤ x.bind ∧ x.bind ≤ 5) = true := dec (by omega)
        rw [hb, Bool.true_and]
        cases e with
        | returned r =>
          obtain ⟨rfl, rfl⟩ := hp
          refine ⟨_, rfl, ifB_split (fun hh => ⟨_, cl h3 rfl, ?_⟩) (fun hh => ?_)⟩
          · rw [if_pos hh, str_nil]
            unfold B64_j3
            refine ifB_split (fun h4 => ⟨_, cl h3 rfl, hk3, ?_⟩) (fun h4 => ⟨hk3, ?_⟩)
            · rw [Bool.not_eq_true', decide_eq_false_iff_not] at h4
              simp only [Value.bool.injEq, decide_eq_decide]
              omega
            · rw [Bool.not_eq_false', decide_eq_true_iff] at h4
              rw [decide_eq_false (by omega)]
          · rw [if_neg (by simp [hh])]
            refine ⟨_, _, _, _, _, _, _, _, ⟨cl (w := w4) h3 rfl, cl (w := w4) h3 rfl, cl (w := w4) h3 rfl, cl (w := w4) h3 rfl, cl (w := w4) h3 rfl, cl (w := w4) h3 rfl, cl (w := w4) h3 rfl, cl (w := w4) h3 rfl, trivial⟩, _, cl (w := w4) h3 rfl, _, cl (w := w4) h3 rfl, _, cl (w := w4) h3 rfl, (K60 _ _ _ _).mono fun e w5 hp => ?_⟩
            cases e with
            | returned r =>
              obtain ⟨hk5, rfl⟩ := hp
              have hc := fun i => hk5.cellD (i := i) (w := w4.drew) h3 nf
              refine ⟨_, _, _, _, _, _, _, _, rfl, ⟨⟨hc 0, hc 1, hc 2, hc 3, hc 4, hc 5, hc 6, hc 7, trivial⟩, trivial⟩, (hk3.then (Kp.drew no _)).then hk5, ?_⟩
              rw [show (bare x.addr x.bind x.ver).client = ⟨#[]⟩ from rfl, str_nil]
              simp only [bare, Value.bool.injEq, beq_self_eq_true, Bool.true_and, Bool.and_true]
              rw [Bool.eq_iff_iff]
              simp
            | _ => exact hp
        | _ => exact hp
  | _ => exact hp

theorem bad82 {x : Ls} {w w' : World} (hk : Kp no w w') (h : x.tms = false ∨ decide (0 ≤ x.bind ∧ x.bind ≤ 5) = false) : Kp no w w' ∧ Value.bool false = .bool x.right := by
  refine ⟨hk, ?_⟩
  have : x.right = (x.tms && decide (0 ≤ x.bind ∧ x.bind ≤ 5) && (if held x.bind = true then decide (1 ≤ x.client.size ∧ x.client.size ≤ 32) else decide (x.client.size = 0 ∧ x.till = 0 ∧ x.acked = 0 ∧ x.told = 0 ∧ x.at_ = 0))) := rfl
  rw [this]
  rcases h with h | h <;> rw [h] <;> simp
theorem K82 (x : Ls) (w : World) : Calls Cz.P 82 #[x.val] w (CP (fun r w' => Kp no w w' ∧ r = .bool x.right) (fun _ _ => False)) := by
  refine C82 ?_
  unfold B82
  refine nw_i fun k w1 ek hk hg => ?_
  have no1 : decide (0 ≤ x.bind ∧ x.bind ≤ 5) = false → (x.tms = false ∨ decide (0 ≤ x.bind ∧ x.bind ≤ 5) = false) := .inr
  have fin : (x.tms = false ∨ decide (0 ≤ x.bind ∧ x.bind ≤ 5) = false) → B82_j1 (fun r w' => Kp no w w' ∧ r = .bool x.right) k true w1 := fun h => bad82 hk h
  have ok : x.tms = true → decide (0 ≤ x.bind ∧ x.bind ≤ 5) = true → B82_j1 (fun r w' => Kp no w w' ∧ r = .bool x.right) k false w1 := by
    intro htm hb
    have hr : x.right = (x.tms && decide (0 ≤ x.bind ∧ x.bind ≤ 5) && (if held x.bind = true then decide (1 ≤ x.client.size ∧ x.client.size ≤ 32) else decide (x.client.size = 0 ∧ x.till = 0 ∧ x.acked = 0 ∧ x.told = 0 ∧ x.at_ = 0))) := rfl
    rw [htm, hb, Bool.true_and, Bool.true_and] at hr
    have hj : B82_j2 (fun r w' => Kp no w w' ∧ r = .bool x.right) k (held x.bind) w1 := by
      unfold B82_j2 B82_j3 B82_j4
      rw [hr]
      refine ifB_split (fun hh => ⟨_, cl hg rfl, ?_⟩) (fun hh => ⟨_, cl hg rfl, ?_⟩)
      · rw [if_pos hh]
        refine ifB_dec (fun h => ⟨_, cl hg rfl, hk, ?_⟩) (fun h => ⟨hk, ?_⟩)
        · simp only [Value.bool.injEq, decide_eq_decide]; omega
        · rw [decide_eq_false (by omega)]
      · rw [if_neg (by simp [hh]), str_nil]
        refine ifB_dec (fun h => ⟨_, cl hg rfl, ifB_split (fun h2 => ⟨_, cl hg rfl, ifB_split (fun h3 => ⟨_, cl hg rfl, ifB_split (fun h4 => ⟨_, cl hg rfl, hk, ?_⟩) (fun h4 => ⟨hk, ?_⟩)⟩) (fun h3 => ⟨hk, ?_⟩)⟩) (fun h2 => ⟨hk, ?_⟩)⟩) (fun h => ⟨hk, ?_⟩)
        · simp only [beq_iff_eq] at h2 h3 h4
          rw [Value.bool.injEq, Bool.eq_iff_iff]
          simp only [beq_iff_eq, decide_eq_true_eq]
          omega
        · simp only [beq_iff_eq, beq_eq_false_iff_ne] at h4; rw [decide_eq_false (by omega)]
        · simp only [beq_iff_eq, beq_eq_false_iff_ne] at h3; rw [decide_eq_false (by omega)]
        · simp only [beq_iff_eq, beq_eq_false_iff_ne] at h2; rw [decide_eq_false (by omega)]
        · rw [decide_eq_false (by omega)]
    unfold B82_j1
    have hbb := of_decide_eq_true hb
    refine ⟨_, cl hg rfl, ifB_split (fun h => ?_) (fun h => ⟨_, cl hg rfl, ifB_split (fun h1 => ?_) (fun h1 => ⟨_, cl hg rfl, ?_⟩)⟩)⟩
    · have : held x.bind = true := dec (by simp at h; omega)
      rw [this] at hj; exact hj
    · have : held x.bind = true := dec (by simp at h1; omega)
      rw [this] at hj; exact hj
    · have : held x.bind = (x.bind == 4) := by
        simp at h h1
        unfold held
        rw [Bool.eq_iff_iff]; simp only [decide_eq_true_eq, beq_iff_eq]; omega
      rw [this] at hj; exact hj
  refine ⟨_, cl hg rfl, ifB_dec (fun h => fin (.inr (decide_eq_false (by omega)))) (fun h => ⟨_, cl hg rfl, ifB_dec (fun h1 => fin (.inr (decide_eq_false (by omega)))) (fun h1 => ⟨_, cl hg rfl, ?_⟩)⟩)⟩
  have hb : decide (0 ≤ x.bind ∧ x.bind ≤ 5) = true := dec (by omega)
  refine (K115 _ _).mono fun e w2 hp => ?_
  cases e with
  | returned r =>
    obtain ⟨rfl, rfl⟩ := hp
    refine ⟨_, rfl, ifB_split (fun h2 => fin (.inl (tms_not (t := x.till) (by simp [Ls.times]) (by simpa using h2)))) (fun h2 => ⟨_, cl hg rfl, (K115 _ _).mono fun e w3 hp => ?_⟩)⟩
    cases e with
    | returned r =>
      obtain ⟨rfl, rfl⟩ := hp
      refine ⟨_, rfl, ifB_split (fun h3 => fin (.inl (tms_not (t := x.acked) (by simp [Ls.times]) (by simpa using h3)))) (fun h3 => ⟨_, cl hg rfl, (K115 _ _).mono fun e w4 hp => ?_⟩)⟩
      cases e with
      | returned r =>
        obtain ⟨rfl, rfl⟩ := hp
        refine ⟨_, rfl, ifB_split (fun h4 => fin (.inl (tms_not (t := x.told) (by simp [Ls.times]) (by simpa using h4)))) (fun h4 => ⟨_, cl hg rfl, (K115 _ _).mono fun e w5 hp => ?_⟩)⟩
        cases e with
        | returned r =>
          obtain ⟨rfl, rfl⟩ := hp
          refine ⟨_, rfl, ifB_split (fun h5 => fin (.inl (tms_not (t := x.at_) (by simp [Ls.times]) (by simpa using h5)))) (fun h5 => ⟨_, cl hg rfl, (K115 _ _).mono fun e w6 hp => ?_⟩)⟩
          cases e with
          | returned r =>
            obtain ⟨rfl, rfl⟩ := hp
            refine ⟨_, rfl, ?_⟩
            cases h6 : tm x.ver with
            | false => exact fin (.inl (tms_not (t := x.ver) (by simp [Ls.times]) h6))
            | true =>
              refine ok ?_ hb
              simp at h2 h3 h4 h5
              simp [Ls.tms, h2, h3, h4, h5, h6]
          | _ => exact hp
        | _ => exact hp
      | _ => exact hp
    | _ => exact hp
  | _ => exact hp
end Go.Lf
end

section
set_option linter.unusedVariables false
set_option linter.unusedSimpArgs false
namespace Go.Lf
open Go Go.Proofs

/-- a number in so many bytes -/
def be : Nat → Nat → List UInt8
  | 0, _ => []
  | k + 1, n => be k (n / 256) ++ [UInt8.ofNat n]
theorem be_length : ∀ (k n : Nat), (be k n).length = k
  | 0, _ => rfl
  | k + 1, n => by simp [be, be_length k]
/-- the number that bytes tell -/
def ofB (l : List UInt8) : Nat := l.foldl (fun n c => n * 256 + c.toNat) 0
theorem ofB_append (l m : List UInt8) : ofB (l ++ m) = m.foldl (fun n c => n * 256 + c.toNat) (ofB l) := List.foldl_append ..
theorem ofB_snoc (l : List UInt8) (c : UInt8) : ofB (l ++ [c]) = ofB l * 256 + c.toNat := by rw [ofB_append]; rfl
theorem ofB_lt (l : List UInt8) : ofB l < 256 ^ l.length := by
  suffices ∀ (n : Nat) (l : List UInt8), l.length = n → ofB l < 256 ^ n from this _ l rfl
  intro n
  induction n with
  | zero => intro l h; rw [List.eq_nil_of_length_eq_zero h]; decide
  | succ n ih =>
    intro l h
    have hne : l ≠ [] := by intro hc; subst hc; simp at h
    obtain ⟨m, c, rfl⟩ : ∃ m c, l = m ++ [c] := ⟨l.dropLast, l.getLast hne, (List.dropLast_concat_getLast hne).symm⟩
    have := ih m (by simpa using h)
    rw [ofB_snoc, Nat.pow_succ]
    have := bt_lt c
    omega
theorem ofB_be : ∀ (k n : Nat), n < 256 ^ k → ofB (be k n) = n
  | 0, n, h => by simp at h; subst h; rfl
  | k + 1, n, h => by
    rw [be, ofB_snoc, ofB_be k (n / 256) (by rw [Nat.pow_succ] at h; omega)]
    simp
    omega

def J129 (n many k : Nat) (w : World) (vs : List Value) (w' : World) : Prop :=
  match vs with
  | [.int _ x, .int _ i] => Kp no w w' ∧ ∃ (m x' : Nat) (tail : List UInt8), i = (m : Int) - 1 ∧ x = x' ∧ m + tail.length = many ∧ x' ≤ n ∧ be many n = be m x' ++ tail ∧ w'.heap[k]? = some (.cells (List.replicate m (Value.int .u8 0) ++ bvs tail).toArray 5 (0, 0))
  | _ => False
def M129 (vs : List Value) (_ : World) : Nat := match vs with | [_, .int _ i] => (i + 1).toNat | _ => 0
theorem set_rep {m : Nat} {v z : Value} {tail : List Value} : (List.replicate (m + 1) z ++ tail).toArray.setIfInBounds m v = (List.replicate m z ++ v :: tail).toArray := by
  apply Array.ext'
  rw [Array.toList_setIfInBounds]
  simp only [List.replicate_succ', List.append_assoc]
  rw [List.set_append]
  simp
theorem K129 {n many : Nat} (hn : n ≤ 9223372036854775807) (hm : many ≤ 1000) (w : World) :
    Calls Cz.P 129 #[.int .i64 (n : Int), .int .i64 (many : Int)] w (CP (fun r w' => Kp no w w' ∧ ∃ a k c, r = .slice a k c ∧ OwnB w' w.heap.size r (be many n) ∧ ∃ g c, r = .slice (some ⟨g, 0, none⟩) many c) (fun _ _ => False)) := by
  refine C129 ?_
  unfold B129
  refine ⟨_, _, _, _, E22.made (z := .int .u8 0) (by kernel_rfl) .i64 .i64 many (by omega) (by omega) w, ?_⟩
  rw [wrap64 (by omega) (by omega)]
  refine ⟨J129 n many w.heap.size w, M129, ⟨.alloc _ _ _, many, n, [], rfl, rfl, rfl, Nat.le_refl _, by simp, ?_⟩, ?_⟩
  · rw [get_alloc_new]
    have := toList_madeCells_one (.int .u8 0) many
    have e : madeCells #[Value.int .u8 0] many = (List.replicate many (Value.int .u8 0)).toArray := by rw [← this]
    simp only [Value.cells, Nat.mul_one, e, bvs, List.map_nil, List.append_nil]
  rintro x i w1 ⟨hk, m, x', tail, rfl, rfl, hml, hx, hbe, hg⟩
  unfold B129_l1
  refine ifB_dec (fun h => ?_) (fun h => ?_)
  · obtain ⟨m, rfl⟩ : ∃ k, m = k + 1 := ⟨m - 1, by omega⟩
    refine need_and (dec (by omega)) (dec (by omega)) ?_
    simp only [nn_some, addk, Nat.zero_add]
    rw [show (((m + 1 : Nat) : Int) - 1).toNat * 1 = m by omega]
    have h1 : Int.tmod (x' : Int) 256 = ((x' % 256 : Nat) : Int) := tmod_nat x' 256
    have h2 : Int.tdiv (x' : Int) 256 = ((x' / 256 : Nat) : Int) := tdiv_nat x' 256
    rw [h1, h2, wrap64 (by omega) (by omega)]
    refine st_i hg (by simp; omega) fun w2 hk2 h2 => ⟨⟨hk.trans hk2 (fun b hb h => by omega), m, x' / 256, UInt8.ofNat x' :: tail, ?_, rfl, by simp; omega, by omega, ?_, ?_⟩, ?_⟩
    · rw [wrap64 (by omega) (by omega)]; omega
    · rw [hbe, be]; simp
    · rw [h2, set_rep]
      have : (Value.int IntKind.u8 (IntKind.u8.wrap ((x' % 256 : Nat) : Int))) = bv (UInt8.ofNat x') := by
        rw [bv_ofNat, IntKind.wrap_u8, IntKind.wrap_u8]; congr 1; omega
      rw [this]
      rfl
    · show (IntKind.i64.wrap (((m + 1 : Nat) : Int) - 1 - 1) + 1).toNat < (((m + 1 : Nat) : Int) - 1 + 1).toNat
      rw [wrap64 (by omega) (by omega)]; omega
  · have hm0 : m = 0 := by omega
    subst hm0
    have : tail = be many n := by rw [hbe]; rfl
    subst this
    refine ⟨hk, _, _, _, rfl, ?_, _, _, rfl⟩
    have hl := be_length many n
    refine ⟨by simp, .inr ⟨w.heap.size, many, _, by rw [hl], Nat.le_refl _, hg, by rw [hl]; exact Nat.le_refl _, by unfold maxLen; omega, by simp [hl], ?_⟩⟩
    simp only [List.replicate_zero, List.nil_append, Nat.mul_one]
    exact List.take_of_length_le (by simp)

def J112 (l : List UInt8) (w : World) (vs : List Value) (w' : World) : Prop :=
  match vs with
  | [.int _ x, .int _ i] => w' = w ∧ ∃ k : Nat, i = k ∧ k ≤ l.length ∧ x = (ofB (l.take k) : Int)
  | _ => False
def M112 (l : List UInt8) (vs : List Value) (_ : World) : Nat := match vs with | [_, .int _ i] => l.length - i.toNat | _ => 0
theorem K112 {w : World} {a : Option Addr} {n c : Nat} {l : List UInt8} (hv : Bs w (.slice a n c) l) (hl : l.length ≤ 7) :
    Calls Cz.P 112 #[.slice a n c] w (CP (fun r w' => w' = w ∧ r = .int .i64 (ofB l : Int)) (fun _ _ => False)) := by
  refine C112 ?_
  have hn := hv.cap.1
  subst hn
  unfold B112
  refine ⟨J112 l w, M112 l, ⟨rfl, 0, rfl, Nat.zero_le _, by simp [ofB]⟩, ?_⟩
  rintro x i w1 ⟨rfl, k, rfl, hk, rfl⟩
  unfold B112_l1
  have hp : (256 : Nat) ^ (l.take k).length ≤ 256 ^ 7 := Nat.pow_le_pow_right (by omega) (by rw [List.length_take]; omega)
  have hlt := ofB_lt (l.take k)
  refine ifB_dec (fun h => ?_) (fun h => ?_)
  · have hk' : k < l.length := by omega
    obtain ⟨q, rfl, hc⟩ := hv.at hk'
    have hb := bt_lt (l.getD k 0)
    have htk : l.take (k + 1) = l.take k ++ [l.getD k 0] := by
      rw [List.take_add_one, List.getElem?_eq_getElem hk', List.getD_eq_getElem?_getD, List.getElem?_eq_getElem hk']; rfl
    have hp6 : (256 : Nat) ^ (l.take k).length ≤ 256 ^ 6 := Nat.pow_le_pow_right (by omega) (by rw [List.length_take]; omega)
    refine need_and (dec (by omega)) (dec (by omega)) ?_
    rw [nn_some]
    refine ⟨_, by rw [show (k : Int).toNat * 1 = k by omega]; exact hc, ?_⟩
    rw [wrap64 (x := (ofB (l.take k) : Int) * 256) (by omega) (by omega), wrap64 (x := ((l.getD k 0).toNat : Int)) (by omega) (by omega), wrap64 (x := _ + _) (by omega) (by omega), wrap64 (by omega) (by omega)]
    refine ⟨⟨rfl, k + 1, rfl, hk', ?_⟩, ?_⟩
    · rw [htk, ofB_snoc]; omega
    · show l.length - ((k : Int) + 1).toNat < l.length - (k : Int).toNat
      omega
  · have hk' : k = l.length := by omega
    subst hk'
    exact ⟨rfl, by rw [List.take_length]⟩
end Go.Lf
end

section
set_option linter.unusedVariables false
set_option linter.unusedSimpArgs false
namespace Go.Lf
open Go Go.Proofs

def Ls.enc (x : Ls) : List UInt8 := be 4 x.addr.toNat ++ [UInt8.ofNat x.bind.toNat] ++ be 6 x.till.toNat ++ be 6 x.acked.toNat ++ be 6 x.told.toNat ++ be 6 x.at_.toNat ++ be 6 x.ver.toNat ++ [UInt8.ofNat x.client.size] ++ x.client.data.toList
def EncPost (x : Ls) (w : World) (r : Value) (w' : World) : Prop := Kp no w w' ∧
  ((x.right = false ∧ r = .tuple #[.slice none 0 0, .int .i64 1]) ∨ (x.right = true ∧ ∃ a n c, r = .tuple #[.slice a n c, .int .i64 0] ∧ OwnB w' w.heap.size (.slice a n c) x.enc))
theorem OwnB.some {w : World} {base : Nat} {v : Value} {l : List UInt8} (h : OwnB w base v l) (hl : 0 < l.length) : ∃ g c, v = .slice (some ⟨g, 0, none⟩) l.length c := by
  obtain ⟨_, ⟨_, h0⟩ | ⟨g, cap, cur, rfl, _⟩⟩ := h
  · omega
  · exact ⟨g, cap, rfl⟩
/-- a world behind w0, where a lease lies -/
structure EncW (w0 : World) (k : Nat) (x : Ls) (w : World) : Prop where
  kp : Kp no w0 w
  at_ : w.heap[k]? = some (.cells #[.int .u32 x.addr, .int .i64 x.bind, .string x.client, .int .i64 x.till, .int .i64 x.acked, .int .i64 x.told, .int .i64 x.at_, .int .i64 x.ver] 49 (0, 0))
theorem EncW.then {w0 w w' : World} {k : Nat} {x : Ls} (h : EncW w0 k x w) (hk : Kp no w w') : EncW w0 k x w' := ⟨h.kp.then hk, hk.at h.at_ nf⟩
/-- append of fresh bytes -/
theorem EncW.app {w0 w : World} {k : Nat} {x : Ls} (h : EncW w0 k x w) {v s : Value} {l m : List UInt8} {ty : TypeId} (ho : OwnB w w0.heap.size v l) (hs : Bs w s m) (hn : (l ++ m).length ≤ 1000000) :
    ∃ a n c w', (Builtin.append_ #[22, 22] ty #[v, s]).run Cz.P w = .ok (.slice a n c) w' ∧ OwnB w' w0.heap.size (.slice a n c) (l ++ m) ∧ EncW w0 k x w' := by
  obtain ⟨a, n, c, w', hr, ho', hk⟩ := appB (ty := ty) ho hs h.kp.size (by omega)
  refine ⟨a, n, c, w', hr, ho', h.kp.own ho hk, hk.at h.at_ fun hb => ?_⟩
  exact NoT.own ho (e' := 49) (by decide) k _ _ hb h.at_
theorem enc_step {w0 w : World} {k j t : Nat} {x : Ls} {a : Option Addr} {n c : Nat} {l : List UInt8} {K : Option Addr → Nat → Nat → World → Prop} (h : EncW w0 k x w) (ho : OwnB w w0.heap.size (.slice a n c) l)
    (hl : l.length ≤ 100) (ht : t ≤ 1099511627776) (hj : (#[.int .u32 x.addr, .int .i64 x.bind, .string x.client, .int .i64 x.till, .int .i64 x.acked, .int .i64 x.told, .int .i64 x.at_, .int .i64 x.ver] : Array Value)[j]? = some (.int .i64 (t : Int)))
    (hK : ∀ a n c w', EncW w0 k x w' → OwnB w' w0.heap.size (.slice a n c) (l ++ be 6 t) → K a n c w') :
    ∃ (x39 : Int), w.cell? ⟨k, j, none⟩ = some (.int .i64 x39) ∧ Calls Cz.P 129 #[(.int .i64 x39), (.int .i64 6)] w (CP (fun r44 w43 => ∃ (a40 : Option Addr) (n41 : Nat) (c42 : Nat), r44 = (.slice a40 n41 c42) ∧
      ∃ (a45 : Option Addr) (n46 : Nat) (c47 : Nat), ∃ w48 : World, Sem.run Cz.P (Builtin.append_ #[22, 22] 22 #[(.slice a n c), (.slice a40 n41 c42)]) w43 = .ok (.slice a45 n46 c47) w48 ∧ K a45 n46 c47 w48) (fun _ _ => False)) := by
  refine ⟨_, cl h.at_ hj, (K129 (n := t) (many := 6) (by omega) (by omega) w).mono fun e w1 hp => ?_⟩
  cases e with
  | returned r =>
    obtain ⟨hk1, a1, n1, c1, rfl, ho1, _⟩ := hp
    have h1 := h.then hk1
    obtain ⟨a2, n2, c2, w2, hr2, ho2, h2⟩ := h1.app (ty := 22) (own_keep ho hk1 .no) ho1.bs (by rw [List.length_append, be_length]; omega)
    exact ⟨_, _, _, rfl, _, _, _, _, hr2, hK _ _ _ _ h2 ho2⟩
  | _ => exact hp
/-- the end of Encode -/
theorem enc_end {w0 w : World} {k : Nat} {x : Ls} {a : Option Addr} {n c : Nat} {l : List UInt8} {K : Option Addr → Nat → Nat → World → Prop} (h : EncW w0 k x w) (ho : OwnB w w0.heap.size (.slice a n c) l)
    (hl : l.length ≤ 100) (hs : x.client.size ≤ 1000) (hK : ∀ a n c w', EncW w0 k x w' → OwnB w' w0.heap.size (.slice a n c) (l ++ [UInt8.ofNat x.client.size] ++ x.client.data.toList) → K a n c w') :
    ∃ (s89 : ByteArray), w.cell? ⟨k, 2, none⟩ = some (.string s89) ∧ ∃ (a90 : Option Addr) (n91 : Nat) (c92 : Nat), ∃ w93 : World, Sem.run Cz.P (Instr.buildSlice 22 1 #[(0, (.int .u8 (IntKind.u8.wrap (s89.size : Int))))]) w = .ok (.slice a90 n91 c92) w93 ∧
      ∃ (a94 : Option Addr) (n95 : Nat) (c96 : Nat), ∃ w97 : World, Sem.run Cz.P (Builtin.append_ #[22, 22] 22 #[(.slice a n c), (.slice a90 n91 c92)]) w93 = .ok (.slice a94 n95 c96) w97 ∧
      ∃ (s98 : ByteArray), w97.cell? ⟨k, 2, none⟩ = some (.string s98) ∧ ∃ (a99 : Option Addr) (n100 : Nat) (c101 : Nat), ∃ w102 : World, Sem.run Cz.P (Builtin.append_ #[22, 9] 22 #[(.slice a94 n95 c96), (.string s98)]) w97 = .ok (.slice a99 n100 c101) w102 ∧ K a99 n100 c101 w102 := by
  obtain ⟨a1, n1, c1, w1, hr1, hk1, ho1⟩ := E22b (w := w) [UInt8.ofNat x.client.size] (by simp) #[(0, bv (UInt8.ofNat x.client.size))] rfl
  rw [bv_ofNat] at hr1
  have h1 := h.then hk1
  obtain ⟨a2, n2, c2, w2, hr2, ho2, h2⟩ := h1.app (ty := 22) (own_keep ho hk1 .no) ho1.bs (by simp; omega)
  have hu : Cz.P.underlying 9 = some .string := by kernel_rfl
  obtain ⟨g, c', hx⟩ := ho2.some (by simp)
  have hsz : x.client.data.toList.length = x.client.size := by rw [Array.length_toList]; rfl
  obtain ⟨a3, n3, c3, w3, hr3, ho3, hk3⟩ := E22.appS (ty := 22) hu ho2 ⟨g, c', hx⟩ (s := x.client) (by simp; unfold maxLen; omega) (by simp; omega) h2.kp.size
  have hb : OwnB w3 w0.heap.size (.slice a3 n3 c3) (l ++ [UInt8.ofNat x.client.size] ++ x.client.data.toList) := by
    unfold OwnB
    rw [List.length_append, bvs_append, hsz]
    exact ho3
  refine ⟨_, cl h.at_ rfl, _, _, _, _, hr1, _, _, _, _, hr2, _, cl h2.at_ rfl, _, _, _, _, hr3, hK _ _ _ _ ⟨h2.kp.own ho2 hk3, hk3.at h2.at_ fun hb => ?_⟩ hb⟩
  exact NoT.own ho2 (e' := 49) (by decide) k _ _ hb h2.at_

theorem right_bounds {x : Ls} (h : x.right = true) : (0 ≤ x.till ∧ x.till ≤ 1099511627776) ∧ (0 ≤ x.acked ∧ x.acked ≤ 1099511627776) ∧ (0 ≤ x.told ∧ x.told ≤ 1099511627776) ∧ (0 ≤ x.at_ ∧ x.at_ ≤ 1099511627776) ∧ (0 ≤ x.ver ∧ x.ver ≤ 1099511627776) ∧ (0 ≤ x.bind ∧ x.bind ≤ 5) ∧ x.client.size ≤ 32 := by
  unfold Ls.right tm at h
  simp only [Bool.and_eq_true, decide_eq_true_eq] at h
  obtain ⟨⟨⟨⟨⟨⟨h1, h2⟩, h3⟩, h4⟩, h5⟩, h6⟩, h7⟩ := h
  refine ⟨h1, h2, h3, h4, h5, h6, ?_⟩
  split at h7
  · have := of_decide_eq_true h7; omega
  · have := of_decide_eq_true h7; omega

theorem K113 {x : Ls} (ha : 0 ≤ x.addr ∧ x.addr < 4294967296) (w : World) : Calls Cz.P 113 #[x.val] w (CP (EncPost x w) (fun _ _ => False)) := by
  refine C113 ?_
  unfold B113
  refine nw_i fun k w1 ek hk hg => ⟨_, _, _, _, _, _, _, _, ⟨cl hg rfl, cl hg rfl, cl hg rfl, cl hg rfl, cl hg rfl, cl hg rfl, cl hg rfl, cl hg rfl, trivial⟩, (K82 x w1).mono fun e w2 hp => ?_⟩
  cases e with
  | returned r =>
    obtain ⟨hk2, rfl⟩ := hp
    have hk02 := hk.then hk2
    have h2 : EncW w k x w2 := ⟨hk02, hk2.at hg nf⟩
    refine ⟨_, rfl, ifB_split (fun hr => ⟨hk02, .inl ⟨by simpa using hr, rfl⟩⟩) (fun hr => ?_)⟩
    have hr : x.right = true := by simpa using hr
    obtain ⟨h_1, h_2, h_3, h_4, h_5, h_6, h_7⟩ := right_bounds hr
    have hd : EncW w k x w2.drew := h2.then (.drew _ _)
    have rest : ∀ {w3 : World} {a : Option Addr} {n c : Nat}, EncW w k x w3 → OwnB w3 w.heap.size (.slice a n c) (be 4 x.addr.toNat ++ [UInt8.ofNat x.bind.toNat]) → _ := fun {w3 a n c} hw ho =>
      enc_step (t := x.till.toNat) (K := fun a n c w => _) hw ho (by simp [be_length]) (by omega) (j := 3) (by rw [Int.toNat_of_nonneg h_1.1]; rfl) fun a n c w' hw ho =>
      enc_step (t := x.acked.toNat) (K := fun a n c w => _) hw ho (by simp [be_length]) (by omega) (j := 4) (by rw [Int.toNat_of_nonneg h_2.1]; rfl) fun a n c w' hw ho =>
      enc_step (t := x.told.toNat) (K := fun a n c w => _) hw ho (by simp [be_length]) (by omega) (j := 5) (by rw [Int.toNat_of_nonneg h_3.1]; rfl) fun a n c w' hw ho =>
      enc_step (t := x.at_.toNat) (K := fun a n c w => _) hw ho (by simp [be_length]) (by omega) (j := 6) (by rw [Int.toNat_of_nonneg h_4.1]; rfl) fun a n c w' hw ho =>
      enc_step (t := x.ver.toNat) (K := fun a n c w => _) hw ho (by simp [be_length]) (by omega) (j := 7) (by rw [Int.toNat_of_nonneg h_5.1]; rfl) fun a n c w' hw ho =>
      enc_end (K := fun a n c w' => EncPost x w (.tuple #[.slice a n c, .int .i64 0]) w') hw ho (by simp [be_length]) (by omega) fun a n c w' hw ho => ⟨hw.kp, .inr ⟨hr, _, _, _, rfl, ho⟩⟩
    have hwa : IntKind.i64.wrap x.addr = (x.addr.toNat : Int) := by rw [wrap64 (by omega) (by omega)]; omega
    have hwb : Value.int IntKind.u8 (IntKind.u8.wrap x.bind) = bv (UInt8.ofNat x.bind.toNat) := by rw [bv_ofNat, Int.toNat_of_nonneg h_6.1]
    refine ⟨_, cl hd.at_ rfl, _, cl hd.at_ rfl, ?_, ?_⟩
    · rw [hwa]
      refine (K129 (n := x.addr.toNat) (many := 4) (by omega) (by omega) _).mono fun e w3 hp => ?_
      cases e with
      | returned r =>
        obtain ⟨hk3, a3, n3, c3, rfl, ho3, _⟩ := hp
        have h3 := hd.then hk3
        obtain ⟨a4, n4, c4, w4, hr4, hk4, ho4⟩ := E22b (w := w3) [UInt8.ofNat x.bind.toNat] (by simp) #[(0, bv (UInt8.ofNat x.bind.toNat))] rfl
        have h4 := h3.then hk4
        obtain ⟨a5, n5, c5, w5, hr5, ho5, h5⟩ := h4.app (ty := 22) (own_keep (own_base ho3 hd.kp.size : OwnB w3 w.heap.size _ _) hk4 .no) ho4.bs (by simp [be_length])
        rw [hwb]
        exact ⟨_, _, _, rfl, ⟨⟨hk3.cellD hd.at_ nf, trivial⟩, trivial⟩, _, _, _, _, hr4, _, _, _, _, hr5, rest h5 ho5⟩
      | _ => exact hp
    · obtain ⟨a4, n4, c4, w4, hr4, hk4, ho4⟩ := E22b (w := w2.drew) [UInt8.ofNat x.bind.toNat] (by simp) #[(0, bv (UInt8.ofNat x.bind.toNat))] rfl
      have h4 := hd.then hk4
      rw [hwb, hwa]
      refine ⟨_, _, _, _, hr4, ⟨⟨hk4.cellD hd.at_ nf, trivial⟩, trivial⟩, (K129 (n := x.addr.toNat) (many := 4) (by omega) (by omega) _).mono fun e w3 hp => ?_⟩
      cases e with
      | returned r =>
        obtain ⟨hk3, a3, n3, c3, rfl, ho3, _⟩ := hp
        have h3 := h4.then hk3
        obtain ⟨a5, n5, c5, w5, hr5, ho5, h5⟩ := h3.app (ty := 22) (own_base ho3 h4.kp.size) (ho4.bs.keepN hk3) (by simp [be_length])
        exact ⟨_, _, _, rfl, _, _, _, _, hr5, rest h5 ho5⟩
      | _ => exact hp
  | _ => exact hp
end Go.Lf
end
