/- Part 22 of the lemmas that a proof leans on; no claim is made here. By an AI agent. -/
import Derived.Test.YtofhodpdfbnkiaaGreatLfD11
import Derived.Test.YtofhodpdfbnkiaaGreatLfD12
import Derived.Test.YtofhodpdfbnkiaaGreatLfD13
import Derived.Test.YtofhodpdfbnkiaaGreatLfD14
import Derived.Test.YtofhodpdfbnkiaaGreatLfD21
import Derived.Laws.BytesString
section
set_option linter.unusedVariables false
set_option linter.unusedSimpArgs false
namespace Go.Lf
open Go Go.Proofs

theorem be6 (t : Nat) : be 6 t = [UInt8.ofNat (t / 2 ^ 40), UInt8.ofNat (t / 2 ^ 32), UInt8.ofNat (t / 2 ^ 24), UInt8.ofNat (t / 2 ^ 16), UInt8.ofNat (t / 2 ^ 8), UInt8.ofNat t] := by
  simp only [be, Nat.div_div_eq_div_mul]; rfl
theorem be4 (t : Nat) : be 4 t = [UInt8.ofNat (t / 2 ^ 24), UInt8.ofNat (t / 2 ^ 16), UInt8.ofNat (t / 2 ^ 8), UInt8.ofNat t] := by
  simp only [be, Nat.div_div_eq_div_mul]; rfl
theorem be6_take (t j : Nat) (hj : j < 6) : (be 6 t).take (j + 1) = (be 6 t).take j ++ [UInt8.ofNat (t / 2 ^ (8 * (5 - j)))] := by
  rw [be6]
  match j, hj with
  | 0, _ => rfl
  | 1, _ => rfl
  | 2, _ => rfl
  | 3, _ => rfl
  | 4, _ => rfl
  | 5, _ => simp
def Ls.head (x : Ls) : List UInt8 := be 4 x.addr.toNat ++ [UInt8.ofNat x.bind.toNat]
def Ls.part (x : Ls) (i : Nat) : List UInt8 := x.head ++ ((x.times.take i).map fun t => be 6 t.toNat).flatten
theorem flat6 (l : List Int) : ((l.map fun t => be 6 t.toNat).flatten).length = l.length * 6 := by
  induction l with
  | nil => rfl
  | cons a l ih => simp only [List.map_cons, List.flatten_cons, List.length_append, be_length, ih, List.length_cons]; omega
theorem Ls.part_length (x : Ls) {i : Nat} (hi : i ≤ 5) : (x.part i).length = 5 + 6 * i := by
  unfold Ls.part Ls.head
  rw [List.length_append, flat6, List.length_append, be_length, List.length_take]
  simp [Ls.times]
  omega
def J95 (x : Ls) (w : World) (k : Nat) (vs : List Value) (w' : World) : Prop :=
  match vs with
  | [v, .int _ i] => EncW w k x w' ∧ ∃ n : Nat, i = n ∧ n ≤ 5 ∧ OwnB w' w.heap.size v (x.part n)
  | _ => False
def M95 (vs : List Value) (_ : World) : Nat := match vs with | [_, .int _ i] => 5 - i.toNat | _ => 0
def J95i (x : Ls) (w : World) (k n t : Nat) (vs : List Value) (w' : World) : Prop :=
  match vs with
  | [v, .int _ i] => EncW w k x w' ∧ ∃ j : Nat, i = j ∧ j ≤ 6 ∧ OwnB w' w.heap.size v (x.part n ++ (be 6 t).take j)
  | _ => False
def M95i (vs : List Value) (_ : World) : Nat := match vs with | [_, .int _ i] => 6 - i.toNat | _ => 0
theorem fdiv_pow (n k : Nat) : Int.fdiv (n : Int) (2 ^ k) = ((n / 2 ^ k : Nat) : Int) := by
  have := fdiv_nat n (2 ^ k)
  rw [← this]; congr 1

theorem K95 {x : Ls} (ha : 0 ≤ x.addr ∧ x.addr < 4294967296) (w : World) : Calls Cz.P 95 #[x.val] w (CP (EncPost x w) (fun _ _ => False)) := by
  refine C95 ?_
  unfold B95
  refine nw_i fun k w1 ek hk hg => ⟨_, _, _, _, _, _, _, _, ⟨cl hg rfl, cl hg rfl, cl hg rfl, cl hg rfl, cl hg rfl, cl hg rfl, cl hg rfl, cl hg rfl, trivial⟩, (K64 x w1).mono fun e w2 hp => ?_⟩
  cases e with
  | returned r =>
    obtain ⟨hk2, rfl⟩ := hp
    have hk02 := hk.then hk2
    have h2 : EncW w k x w2 := ⟨hk02, hk2.at hg nf⟩
    refine ⟨_, rfl, ifB_split (fun hr => ⟨hk02, .inl ⟨by simpa using hr, rfl⟩⟩) (fun hr => ⟨_, cl h2.at_ rfl, _, cl h2.at_ rfl, ?_⟩)⟩
    have hr : x.right = true := by simpa using hr
    obtain ⟨h_1, h_2, h_3, h_4, h_5, h_6, h_7⟩ := right_bounds hr
    have hfd : ∀ k : Nat, Value.int IntKind.u8 (IntKind.u8.wrap (Int.fdiv x.addr (2 ^ k))) = bv (UInt8.ofNat (x.addr.toNat / 2 ^ k)) := by
      intro k
      rw [bv_ofNat, ← fdiv_pow, Int.toNat_of_nonneg ha.1]
    have hwa : Value.int IntKind.u8 (IntKind.u8.wrap x.addr) = bv (UInt8.ofNat x.addr.toNat) := by rw [bv_ofNat, Int.toNat_of_nonneg ha.1]
    have hwb : Value.int IntKind.u8 (IntKind.u8.wrap x.bind) = bv (UInt8.ofNat x.bind.toNat) := by rw [bv_ofNat, Int.toNat_of_nonneg h_6.1]
    obtain ⟨a3, n3, c3, w3, hr3, hk3, ho3⟩ := E22b (w := w2) x.head (by unfold Ls.head; simp [be_length])
      #[(0, (.int .u8 (IntKind.u8.wrap (Int.fdiv x.addr (2 ^ 24))))), (1, (.int .u8 (IntKind.u8.wrap (Int.fdiv x.addr (2 ^ 16))))), (2, (.int .u8 (IntKind.u8.wrap (Int.fdiv x.addr (2 ^ 8))))), (3, (.int .u8 (IntKind.u8.wrap x.addr))), (4, (.int .u8 (IntKind.u8.wrap x.bind)))]
      (by rw [hfd, hfd, hfd, hwa, hwb]; unfold Ls.head; rw [be4]; rfl)
    have h3 := h2.then hk3
    have hl5 : x.head.length = 5 := by unfold Ls.head; simp [be_length]
    rw [hl5] at hr3
    refine ⟨_, _, _, _, hr3, (K97 (lt_of_get h3.at_)).mono fun e w4 hp => ?_⟩
    cases e with
    | returned r =>
      obtain ⟨hk4, rfl⟩ := hp
      have h4 := h3.then hk4
      have ho4 : OwnB w4 w.heap.size (.slice a3 n3 c3) x.head := own_keep (own_base ho3 hk02.size : OwnB w3 _ _ _) hk4 .no
      refine ⟨_, _, _, _, _, rfl, J95 x w k, M95, ⟨h4, 0, rfl, by omega, by simpa [Ls.part] using ho4⟩, ?_⟩
      rintro a n c i w5 ⟨h5, m, rfl, hm, ho5⟩
      unfold B95_l1
      have hpl := x.part_length hm
      refine ifB_dec (fun hlt => ?_) (fun hlt => ?_)
      · have hn5 : m < x.times.length := by simp [Ls.times]; omega
        have htb : 0 ≤ x.times[m] ∧ x.times[m] ≤ 1099511627776 := by
          have hm' := List.getElem_mem hn5
          unfold Ls.times at hm'
          simp only [List.mem_cons, List.not_mem_nil, or_false] at hm'
          unfold Ls.times
          rcases hm' with h | h | h | h | h <;> rw [h] <;> assumption
        have key : ∃ q : Nat, #[((.pointer (some ⟨k, 3, none⟩)) : Value), ((.pointer (some ⟨k, 4, none⟩)) : Value), ((.pointer (some ⟨k, 5, none⟩)) : Value), ((.pointer (some ⟨k, 6, none⟩)) : Value), ((.pointer (some ⟨k, 7, none⟩)) : Value)][(m : Int).toNat]? = some (.pointer (some ⟨k, q, none⟩)) ∧ (#[.int .u32 x.addr, .int .i64 x.bind, .string x.client, .int .i64 x.till, .int .i64 x.acked, .int .i64 x.told, .int .i64 x.at_, .int .i64 x.ver] : Array Value)[q]? = some (.int .i64 x.times[m]) := by
          match m, hn5 with
          | 0, _ => exact ⟨_, rfl, rfl⟩
          | 1, _ => exact ⟨_, rfl, rfl⟩
          | 2, _ => exact ⟨_, rfl, rfl⟩
          | 3, _ => exact ⟨_, rfl, rfl⟩
          | 4, _ => exact ⟨_, rfl, rfl⟩
          | _ + 5, h => simp [Ls.times] at h; omega
        obtain ⟨q, hq1, hq2⟩ := key
        have hpart : x.part (m + 1) = x.part m ++ be 6 (x.times[m]).toNat := by
          unfold Ls.part
          rw [List.take_add_one, List.getElem?_eq_getElem hn5]
          simp only [Option.toList, List.map_append, List.map_cons, List.map_nil, List.flatten_append, List.flatten_cons, List.flatten_nil, List.append_nil, List.append_assoc]
        generalize ht : x.times[m] = t at *
        refine need_and (dec (by omega)) (dec (by omega)) ⟨_, hq1, J95i x w k m t.toNat, M95i, ⟨h5, 0, rfl, by omega, by simpa using ho5⟩, ?_⟩
        rintro a n c i w6 ⟨h6, j, rfl, hj, ho6⟩
        unfold B95_l2
        refine ifB_dec (fun hlt2 => ?_) (fun hlt2 => ?_)
        · rw [nn_some, wrap64 (x := 5 - (j : Int)) (by omega) (by omega), wrap64 (x := 8 * (5 - (j : Int))) (by omega) (by omega)]
          refine ⟨_, cl h6.at_ hq2, need_iff.2 ⟨by simp; omega, ?_⟩⟩
          have hbyte : Value.int IntKind.u8 (IntKind.u8.wrap (Int.fdiv t (2 ^ (min ((8 * (5 - (j : Int))).toNat) 64)))) = bv (UInt8.ofNat (t.toNat / 2 ^ (8 * (5 - j)))) := by
            rw [show min ((8 * (5 - (j : Int))).toNat) 64 = 8 * (5 - j) by omega, bv_ofNat, ← fdiv_pow, Int.toNat_of_nonneg htb.1]
          rw [hbyte]
          obtain ⟨a7, n7, c7, w7, hr7, hk7, ho7⟩ := E22b (w := w6) [UInt8.ofNat (t.toNat / 2 ^ (8 * (5 - j)))] (by simp) #[(0, bv (UInt8.ofNat (t.toNat / 2 ^ (8 * (5 - j)))))] rfl
          have h7 := h6.then hk7
          obtain ⟨a8, n8, c8, w8, hr8, ho8, h8⟩ := h7.app (ty := 22) (own_keep ho6 hk7 .no) ho7.bs (by rw [List.length_append, List.length_append, List.length_take, hpl]; simp; omega)
          refine ⟨_, _, _, _, hr7, _, _, _, _, hr8, ⟨h8, j + 1, ?_, by omega, ?_⟩, ?_⟩
          · rw [wrap64 (by omega) (by omega)]; omega
          · rw [be6_take _ _ (by omega), ← List.append_assoc]; exact ho8
          · show 6 - (IntKind.i64.wrap ((j : Int) + 1)).toNat < 6 - (j : Int).toNat
            rw [wrap64 (by omega) (by omega)]; omega
        · have hj6 : j = 6 := by omega
          subst hj6
          refine ⟨⟨h6, m + 1, ?_, by omega, ?_⟩, ?_⟩
          · rw [wrap64 (by omega) (by omega)]; omega
          · rw [hpart]
            rw [List.take_of_length_le (by rw [be_length]; exact Nat.le_refl _)] at ho6
            exact ho6
          · show 5 - (IntKind.i64.wrap ((m : Int) + 1)).toNat < 5 - (m : Int).toNat
            rw [wrap64 (by omega) (by omega)]; omega
      · have hm5 : m = 5 := by omega
        subst hm5
        have h5d := h5.then (.drew no w5)
        refine ⟨_, cl h5d.at_ rfl, _, cl h5d.at_ rfl, ?_⟩
        obtain ⟨a1, n1, c1, w6, hr1, hk1, ho1⟩ := E22b (w := w5.drew) [UInt8.ofNat x.client.size] (by simp) #[(0, bv (UInt8.ofNat x.client.size))] rfl
        rw [bv_ofNat] at hr1
        have h6 := h5d.then hk1
        obtain ⟨a2, n2, c2, w7, hr2, ho2, h7⟩ := h6.app (ty := 22) (own_keep (w := w5.drew) ho5 hk1 .no) ho1.bs (by rw [List.length_append, hpl]; simp)
        have hu : Cz.P.underlying 9 = some .string := by kernel_rfl
        obtain ⟨g, c', hx⟩ := ho2.some (by simp)
        have hsz : x.client.data.toList.length = x.client.size := by rw [Array.length_toList]; rfl
        obtain ⟨a3, n3, c3, w8, hr3, ho3, hk3⟩ := E22.appS (ty := 22) hu ho2 ⟨g, c', hx⟩ (s := x.client) (by rw [List.length_append, hpl]; simp; unfold maxLen; omega) (by rw [List.length_append, hpl]; simp; omega) h7.kp.size
        refine ⟨_, _, _, _, hr1, ⟨⟨hk1.cellD h5d.at_ nf, trivial⟩, trivial⟩, _, _, _, _, hr2, ⟨⟨?_, trivial⟩, trivial⟩, _, _, _, _, hr3, h7.kp.own ho2 hk3, .inr ⟨hr, _, _, _, rfl, ?_⟩⟩
        · rw [cell_of h7.at_, cell_of h6.at_]
        · have he : x.enc = x.part 5 ++ [UInt8.ofNat x.client.size] ++ x.client.data.toList := by
            simp [Ls.enc, Ls.part, Ls.head, Ls.times]
          rw [he]
          unfold OwnB
          rw [List.length_append, bvs_append, hsz]
          exact ho3
    | _ => exact hp
  | _ => exact hp
end Go.Lf
end

section
set_option linter.unusedVariables false
set_option linter.unusedSimpArgs false
namespace Go.Lf
open Go Go.Proofs

theorem or8i {a b : Nat} (ha : a < 18014398509481984) (hb : b < 256) : bitop .or .i64 (IntKind.i64.wrap ((a : Int) * 2 ^ 8)) (IntKind.i64.wrap (b : Int)) = ((a * 256 + b : Nat) : Int) := by
  rw [wrap64 (x := (b : Int)) (by omega) (by omega), wrap64 (x := (a : Int) * 2 ^ 8) (by omega) (by omega)]
  have e : (a : Int) * 2 ^ 8 = ((a * 256 : Nat) : Int) := by omega
  have hb : (BitVec.ofNat 64 (a * 256) ||| BitVec.ofNat 64 b).toNat = a * 256 + b := by
    rw [BitVec.toNat_or, BitVec.toNat_ofNat, BitVec.toNat_ofNat, Nat.mod_eq_of_lt (by omega), Nat.mod_eq_of_lt (by omega)]
    have h2 := Nat.shiftLeft_add_eq_or_of_lt (i := 8) (b := b) (by omega) a
    rw [Nat.shiftLeft_eq, show (2 : Nat) ^ 8 = 256 from rfl] at h2
    exact h2.symm
  have hx : BitVec.ofInt 64 ((a : Int) * 2 ^ 8) = BitVec.ofNat 64 (a * 256) := by rw [e, BitVec.ofInt_natCast]
  have hy : BitVec.ofInt 64 (b : Int) = BitVec.ofNat 64 b := BitVec.ofInt_natCast ..
  show IntKind.i64.wrap (((BitVec.ofInt 64 ((a : Int) * 2 ^ 8) ||| BitVec.ofInt 64 (b : Int)).toNat : Nat) : Int) = _
  rw [hx, hy, hb, wrap64 (by omega) (by omega)]
theorem or8u {a b : Nat} (ha : a < 16777216) (hb : b < 256) : bitop .or .u32 (IntKind.u32.wrap ((a : Int) * 2 ^ 8)) (IntKind.u32.wrap (b : Int)) = ((a * 256 + b : Nat) : Int) := by
  have w1 : IntKind.u32.wrap (b : Int) = b := by rw [IntKind.wrap_u32]; omega
  have w2 : IntKind.u32.wrap ((a : Int) * 2 ^ 8) = ((a * 256 : Nat) : Int) := by rw [IntKind.wrap_u32]; omega
  rw [w1, w2]
  have hb : (BitVec.ofNat 32 (a * 256) ||| BitVec.ofNat 32 b).toNat = a * 256 + b := by
    rw [BitVec.toNat_or, BitVec.toNat_ofNat, BitVec.toNat_ofNat, Nat.mod_eq_of_lt (by omega), Nat.mod_eq_of_lt (by omega)]
    have h2 := Nat.shiftLeft_add_eq_or_of_lt (i := 8) (b := b) (by omega) a
    rw [Nat.shiftLeft_eq, show (2 : Nat) ^ 8 = 256 from rfl] at h2
    exact h2.symm
  have hx : BitVec.ofInt 32 ((a * 256 : Nat) : Int) = BitVec.ofNat 32 (a * 256) := BitVec.ofInt_natCast ..
  have hy : BitVec.ofInt 32 (b : Int) = BitVec.ofNat 32 b := BitVec.ofInt_natCast ..
  show IntKind.u32.wrap (((BitVec.ofInt 32 ((a * 256 : Nat) : Int) ||| BitVec.ofInt 32 (b : Int)).toNat : Nat) : Int) = _
  rw [hx, hy, hb, IntKind.wrap_u32]
  omega

theorem fold_push (l : List UInt8) : ∀ (s : ByteArray), (l.map (fun x : UInt8 => (x.toNat : Int))).foldl (fun r n => r.push (UInt8.ofNat n.toNat)) s = ⟨(s.data.toList ++ l).toArray⟩ := by
  induction l with
  | nil => intro s; simp
  | cons x l ih =>
    intro s
    simp only [List.map_cons, List.foldl_cons, ih]
    simp [ByteArray.push]
/-- a string of bytes -/
theorem strB {w : World} {a : Option Addr} {n c : Nat} {l : List UInt8} (hv : Bs w (.slice a n c) l) : (convert 22 9 (.slice a n c)).run Cz.P w = .ok (.string ⟨l.toArray⟩) w := by
  rw [run_convert_bytes_string w 22 9 5 a n c (by kernel_rfl) (by kernel_rfl) (by kernel_rfl)]
  obtain ⟨hl, ⟨hx, hn⟩ | ⟨p, c', hx, _, _, _, hc⟩⟩ := hv
  · cases hx
    have : l = [] := List.eq_nil_of_length_eq_zero hn
    subst this
    simp [Conv.bytesToString, Sem.run_pure]
    rfl
  · cases hx
    have h1 := run_loadCells_list (P := Cz.P) w p (bvs l) hc
    rw [bvs_length] at h1
    have h2 : bvs l = (l.map (fun x : UInt8 => (x.toNat : Int))).map (Value.int .u8) := by simp [bvs, bv]
    rw [h2] at h1
    rw [run_bytesToString w p l.length c _ h1, fold_push]
    rfl

def fld (l : List UInt8) (i k : Nat) : Nat := ofB ((l.drop i).take k)
theorem fld_succ {l : List UInt8} {i k : Nat} (h : i + k < l.length) : fld l i (k + 1) = fld l i k * 256 + (l.getD (i + k) 0).toNat := by
  unfold fld
  have hk : k < (l.drop i).length := by simp; omega
  rw [List.take_add_one, List.getElem?_eq_getElem hk]
  simp only [Option.toList]
  rw [ofB_snoc, List.getElem_drop, List.getD_eq_getElem?_getD, List.getElem?_eq_getElem h]
  rfl
theorem fld_lt (l : List UInt8) (i k : Nat) : fld l i k < 256 ^ k := by
  unfold fld
  have h := ofB_lt ((l.drop i).take k)
  exact Nat.lt_of_lt_of_le h (Nat.pow_le_pow_right (by omega) (by rw [List.length_take]; omega))
def lsOf (l : List UInt8) : Ls := ⟨fld l 0 4, (l.getD 4 0).toNat, ⟨(l.drop 36).toArray⟩, fld l 5 6, fld l 11 6, fld l 17 6, fld l 23 6, fld l 29 6⟩
def decOk (l : List UInt8) : Bool := decide (36 ≤ l.length) && decide ((l.getD 35 0).toNat = l.length - 36) && (lsOf l).right
def DecPost (l : List UInt8) (w : World) (r : Value) (w' : World) : Prop := Kp no w w' ∧
  ((decOk l = true ∧ r = .tuple #[(lsOf l).val, .int .i64 0]) ∨ (decOk l = false ∧ r = .tuple #[(bare 0 0 0).val, .int .i64 2]))
/-- the times behind i of them and j bytes of the next one -/
def tP (l : List UInt8) (i j m : Nat) : Int := if m < i then fld l (5 + 6 * m) 6 else if m = i then fld l (5 + 6 * i) j else 0
def lsP (l : List UInt8) (a i j : Nat) : Ls := ⟨fld l 0 a, (l.getD 4 0).toNat, ⟨(l.drop 36).toArray⟩, tP l i j 0, tP l i j 1, tP l i j 2, tP l i j 3, tP l i j 4⟩
theorem lsP_end (l : List UInt8) (j : Nat) : lsP l 4 5 j = lsOf l := by simp [lsP, lsOf, tP]
theorem lsP_next (l : List UInt8) (i : Nat) : lsP l 4 i 6 = lsP l 4 (i + 1) 0 := by
  have h0 : ∀ k, fld l k 0 = 0 := fun k => rfl
  have : ∀ m, tP l i 6 m = tP l (i + 1) 0 m := by
    intro m
    unfold tP
    rcases Nat.lt_trichotomy m i with h | h | h
    · rw [if_pos h, if_pos (by omega)]
    · subst h; rw [if_neg (by omega), if_pos rfl, if_pos (by omega)]
    · rw [if_neg (by omega), if_neg (by omega), if_neg (by omega)]
      split <;> simp [h0]
  simp only [lsP, this]
end Go.Lf
end

section
set_option linter.unusedVariables false
set_option linter.unusedSimpArgs false
namespace Go.Lf
open Go Go.Proofs
def St72 (l : List UInt8) (w : World) (k5 k a i j : Nat) (w' : World) : Prop := Kp no w w' ∧ k ≠ k5 ∧ w.heap.size ≤ k ∧ w.heap.size ≤ k5 ∧ w'.heap[k5]? = some (.cells (bare 0 0 0).cells 49 (0, 0)) ∧ w'.heap[k]? = some (.cells (lsP l a i j).cells 49 (0, 0))
theorem St72.drew {l : List UInt8} {w : World} {k5 k a i j : Nat} {w' : World} (h : St72 l w k5 k a i j w') : St72 l w k5 k a i j w'.drew := ⟨h.1.then (.drew no _), h.2⟩
theorem St72.then {l : List UInt8} {w : World} {k5 k a i j : Nat} {w' w'' : World} (h : St72 l w k5 k a i j w') (hk : Kp no w' w'') : St72 l w k5 k a i j w'' := ⟨h.1.then hk, h.2.1, h.2.2.1, h.2.2.2.1, hk.at h.2.2.2.2.1 nf, hk.at h.2.2.2.2.2 nf⟩
def JC72 (l : List UInt8) (w : World) (k5 : Nat) (vs : List Value) (w' : World) : Prop := match vs with | [.pointer (some q)] => ∃ k, q = ⟨k, 0, none⟩ ∧ St72 l w k5 k 0 0 0 w' | _ => False
def J72a (l : List UInt8) (w : World) (k5 k : Nat) (vs : List Value) (w' : World) : Prop := match vs with | [.int _ i] => ∃ n : Nat, i = n ∧ n ≤ 4 ∧ St72 l w k5 k n 0 0 w' | _ => False
def M72a (vs : List Value) (_ : World) : Nat := match vs with | [.int _ i] => 4 - i.toNat | _ => 0
def J72b (l : List UInt8) (w : World) (k5 k : Nat) (vs : List Value) (w' : World) : Prop := match vs with | [.int _ x, .int _ i] => ∃ n : Nat, i = n ∧ n ≤ 5 ∧ x = ((5 + 6 * n : Nat) : Int) ∧ St72 l w k5 k 4 n 0 w' | _ => False
def M72b (vs : List Value) (_ : World) : Nat := match vs with | [_, .int _ i] => 5 - i.toNat | _ => 0
def J72c (l : List UInt8) (w : World) (k5 k n : Nat) (vs : List Value) (w' : World) : Prop := match vs with | [.int _ x, .int _ i] => ∃ m : Nat, i = m ∧ m ≤ 6 ∧ x = ((5 + 6 * n + m : Nat) : Int) ∧ St72 l w k5 k 4 n m w' | _ => False
def M72c (vs : List Value) (_ : World) : Nat := match vs with | [_, .int _ i] => 6 - i.toNat | _ => 0
theorem fld_eq0 {l : List UInt8} {m : Nat} (h : 0 + m < l.length) : fld l 0 m * 256 + (l.getD m 0).toNat = fld l 0 (m + 1) := by
  rw [fld_succ h, Nat.zero_add]
theorem lsP_set (l : List UInt8) {n m : Nat} (hn : n < 5) : (lsP l 4 n m).cells.setIfInBounds (3 + n) (.int .i64 ((fld l (5 + 6 * n) (m + 1) : Nat) : Int)) = (lsP l 4 n (m + 1)).cells := by
  match n, hn with
  | 0, _ => simp [lsP, Ls.cells, tP]
  | 1, _ => simp [lsP, Ls.cells, tP]
  | 2, _ => simp [lsP, Ls.cells, tP]
  | 3, _ => simp [lsP, Ls.cells, tP]
  | 4, _ => simp [lsP, Ls.cells, tP]
theorem lsP_get (l : List UInt8) {n m : Nat} (hn : n < 5) : (lsP l 4 n m).cells[3 + n]? = some (.int .i64 ((fld l (5 + 6 * n) m : Nat) : Int)) := by
  match n, hn with
  | 0, _ => simp [lsP, Ls.cells, tP]
  | 1, _ => simp [lsP, Ls.cells, tP]
  | 2, _ => simp [lsP, Ls.cells, tP]
  | 3, _ => simp [lsP, Ls.cells, tP]
  | 4, _ => simp [lsP, Ls.cells, tP]

theorem K72 {w : World} {a : Option Addr} {n c : Nat} {l : List UInt8} (hv : Bs w (.slice a n c) l) (hl : l.length ≤ 1000000) : Calls Cz.P 72 #[.slice a n c] w (CP (DecPost l w) (fun _ _ => False)) := by
  refine C72 ?_
  have hn := hv.cap.1
  have hcap := hv.cap.2
  subst hn
  unfold B72
  refine nw_i fun k5 w1 e5 hk1 g5 => ?_
  have hv1 := hv.keepN hk1
  have bad : decOk l = false → B72_j1 (DecPost l w) (fun _ _ => False) a l.length c k5 true w1 := by
    intro hd
    unfold B72_j1
    refine ifB_true.2 (st8 g5 fun w2 hk2 h2 => ⟨_, _, _, _, _, _, _, _, ⟨cl h2 rfl, cl h2 rfl, cl h2 rfl, cl h2 rfl, cl h2 rfl, cl h2 rfl, cl h2 rfl, cl h2 rfl, trivial⟩, hk1.trans hk2 (fun b hb h => by omega), .inr ⟨hd, rfl⟩⟩)
  refine ifB_dec (fun h => bad (by unfold decOk; rw [decide_eq_false (by omega)]; rfl)) (fun h => ?_)
  have h36 : 36 ≤ l.length := by omega
  refine need_and (dec (by omega)) (dec (by omega)) ?_
  obtain ⟨q, rfl, hc35⟩ := hv1.at (i := 35) (by omega)
  have hb35 := bt_lt (l.getD 35 0)
  have hb4 := bt_lt (l.getD 4 0)
  rw [nn_some]
  refine ⟨_, hc35, ?_⟩
  rw [wrap64 (x := ((l.getD 35 0).toNat : Int)) (by omega) (by omega), wrap64 (x := (l.length : Int) - 36) (by omega) (by omega)]
  cases hne : (((l.getD 35 0).toNat : Int) != (l.length : Int) - 36) with
  | true =>
    refine bad ?_
    unfold decOk
    have : ¬ (l.getD 35 0).toNat = l.length - 36 := by simp only [bne_iff_ne] at hne; omega
    rw [decide_eq_false this]; simp
  | false =>
    have h35 : (l.getD 35 0).toNat = l.length - 36 := by
      have : ((l.getD 35 0).toNat : Int) = (l.length : Int) - 36 := by simpa using hne
      omega
    unfold B72_j1
    refine ifB_false.2 ⟨JC72 l w k5, ?_, ?_⟩
    · have hd : Kp no w w1.drew := hk1.then (.drew no _)
      have hvd := hv.keepN hd
      obtain ⟨q', hq', hc4⟩ := hvd.at (i := 4) (by omega)
      cases hq'
      refine need_and (dec (by omega)) (dec (by omega)) ?_
      rw [nn_some]
      refine ⟨_, hc4, need_and (dec (by omega)) (dec (by omega)) (need_and rfl (dec (by omega)) ?_)⟩
      have hs : ∀ w', Kp no w w' → (convert 22 9 (.slice (slA (some q) 36 c 1) ((l.length : Int).toNat - 36) (c - 36))).run Cz.P w' = .ok (.string ⟨(l.drop 36).toArray⟩) w' := by
        intro w' hk
        have := strB ((hv.keepN hk).cut (lo := 36) (hi := l.length) (by omega) (Nat.le_refl _))
        rw [Int.toNat_natCast, this, List.take_of_length_le (by rw [List.length_drop]; exact Nat.le_refl _)]
      rw [wrap64 (x := ((l.getD 4 0).toNat : Int)) (by omega) (by omega)]
      have end_ : ∀ k w2 w3, w1.heap.size ≤ k → Kp no w w2 → w2.heap[k5]? = some (.cells (bare 0 0 0).cells 49 (0, 0)) → Kp (fun b => b = k) w2 w3 → w3.heap[k]? = some (.cells (lsP l 0 0 0).cells 49 (0, 0)) → JC72 l w k5 [.pointer (some ⟨k, 0, none⟩)] w3 := by
        intro k w2 w3 hle hk h5 hk3 h3
        have hlt := lt_of_get g5
        have hz := hk1.size
        exact ⟨k, rfl, hk.trans hk3 (fun b hb h => by omega), by omega, by omega, by omega, hk3.at h5 (by omega), h3⟩
      have g5d : w1.drew.heap[k5]? = some (.cells (bare 0 0 0).cells 49 (0, 0)) := g5
      refine ⟨⟨_, _, hs _ hd, ⟨⟨rfl, trivial⟩, trivial⟩, nw_i fun k w3 e3 hk3 g3 => ⟨⟨⟨?_, trivial⟩, trivial⟩, st8 g3 fun w4 hk4 g4 => end_ k w3 w4 (by rw [e3]; exact Nat.le_refl _) (hd.then hk3) (hk3.at g5d nf) hk4 g4⟩⟩, nw_i fun k w3 e3 hk3 g3 => ⟨⟨⟨?_, trivial⟩, trivial⟩, _, _, hs _ (hd.then hk3), ⟨⟨rfl, trivial⟩, trivial⟩, st8 g3 fun w4 hk4 g4 => end_ k w3 w4 (by rw [e3]; exact Nat.le_refl _) (hd.then hk3) (hk3.at g5d nf) hk4 g4⟩⟩
      · exact (hk3.cell hc4 nf).trans hc4.symm
      · exact (hk3.cell hc4 nf).trans hc4.symm
    · rintro q55 w2 ⟨k, rfl, hst⟩
      refine need_and rfl (dec (by omega)) ⟨J72a l w k5 k, M72a, ⟨0, rfl, by omega, hst⟩, ?_⟩
      rintro i w3 ⟨m, rfl, hm, hst⟩
      unfold B72_l1
      have hv3 := hv.keepN hst.1
      have hcut := hv3.cut (lo := 0) (hi := 4) (by omega) (by omega)
      rw [List.drop_zero] at hcut
      have h3k := hst.2.2.2.2.2
      refine ifB_dec (fun hlt => ?_) (fun hlt => ?_)
      · have hm4 : m < 4 := by omega
        obtain ⟨q2, hq2, hc⟩ := hv3.at (i := m) (by omega)
        cases hq2
        have hsl : slA (some q) 0 c 1 = some q := by unfold slA; split <;> simp [Addr.add]
        have hb := bt_lt (l.getD m 0)
        have hf := fld_lt l 0 m
        have hp : (256 : Nat) ^ m ≤ 256 ^ 3 := Nat.pow_le_pow_right (by omega) (by omega)
        rw [hsl]
        refine need_and (dec (by omega)) (dec (by omega)) ?_
        rw [nn_some]
        refine ⟨_, by rw [show (m : Int).toNat * 1 = m by omega]; exact hc, _, cl h3k rfl, ?_⟩
        rw [show (lsP l m 0 0).addr = ((fld l 0 m : Nat) : Int) from rfl, or8u (a := fld l 0 m) (by omega) hb]
        refine st_i h3k (by simp [Ls.cells]) fun w4 hk4 h4 => ⟨⟨m + 1, ?_, by omega, hst.1.trans hk4 (fun b hb h => by have := hst.2.2.1; omega), hst.2.1, hst.2.2.1, hst.2.2.2.1, hk4.at hst.2.2.2.2.1 (fun h => hst.2.1 h.symm), ?_⟩, ?_⟩
        · rw [wrap64 (by omega) (by omega)]; omega
        · rw [h4, fld_eq0 (show 0 + m < l.length by omega)]
          rfl
        · show 4 - (IntKind.i64.wrap ((m : Int) + 1)).toNat < 4 - (m : Int).toNat
          rw [wrap64 (by omega) (by omega)]; omega
      · have hm4 : m = 4 := by omega
        subst hm4
        refine (K97 (lt_of_get h3k)).mono fun e w4 hp => ?_
        cases e with
        | returned r =>
          obtain ⟨hk4, rfl⟩ := hp
          refine ⟨_, _, _, _, _, rfl, J72b l w k5 k, M72b, ⟨0, rfl, by omega, rfl, hst.then hk4⟩, ?_⟩
          rintro x i w5 ⟨n, rfl, hn, rfl, hst⟩
          unfold B72_l2
          refine ifB_dec (fun hlt => ?_) (fun hlt => ?_)
          · have hn5 : n < 5 := by omega
            have key : #[((.pointer (some ⟨k, 3, none⟩)) : Value), ((.pointer (some ⟨k, 4, none⟩)) : Value), ((.pointer (some ⟨k, 5, none⟩)) : Value), ((.pointer (some ⟨k, 6, none⟩)) : Value), ((.pointer (some ⟨k, 7, none⟩)) : Value)][(n : Int).toNat]? = some (.pointer (some ⟨k, 3 + n, none⟩)) := by
              match n, hn5 with
              | 0, _ => rfl
              | 1, _ => rfl
              | 2, _ => rfl
              | 3, _ => rfl
              | 4, _ => rfl
            refine need_and (dec (by omega)) (dec (by omega)) ⟨_, key, J72c l w k5 k n, M72c, ⟨0, rfl, by omega, by omega, hst⟩, ?_⟩
            rintro x i w6 ⟨m, rfl, hm, rfl, hst⟩
            unfold B72_l3
            refine ifB_dec (fun hlt2 => ?_) (fun hlt2 => ?_)
            · have hm6 : m < 6 := by omega
              have hstd := hst.drew
              have hvd := hv.keepN hstd.1
              obtain ⟨q2, hq2, hc⟩ := hvd.at (i := 5 + 6 * n + m) (by omega)
              cases hq2
              have hb := bt_lt (l.getD (5 + 6 * n + m) 0)
              have hf := fld_lt l (5 + 6 * n) m
              have hp : (256 : Nat) ^ m ≤ 256 ^ 5 := Nat.pow_le_pow_right (by omega) (by omega)
              simp only [nn_some]
              refine ⟨_, cl hstd.2.2.2.2.2 (lsP_get l hn5), need_and (dec (by omega)) (dec (by omega)) ?_⟩
              refine ⟨_, by rw [show ((5 + 6 * n + m : Nat) : Int).toNat * 1 = 5 + 6 * n + m by omega]; exact hc, ?_⟩
              rw [or8i (a := fld l (5 + 6 * n) m) (by omega) hb, ← fld_succ (show 5 + 6 * n + m < l.length by omega)]
              refine st_i hstd.2.2.2.2.2 (by simp [Ls.cells]; omega) fun w7 hk7 h7 => ⟨⟨m + 1, ?_, by omega, ?_, hstd.1.trans hk7 (fun b hb h => by have := hst.2.2.1; omega), hst.2.1, hst.2.2.1, hst.2.2.2.1, hk7.at hstd.2.2.2.2.1 (fun h => hst.2.1 h.symm), ?_⟩, ?_⟩
              · rw [wrap64 (by omega) (by omega)]; omega
              · rw [wrap64 (by omega) (by omega)]; omega
              · rw [h7, lsP_set l hn5]
              · show 6 - (IntKind.i64.wrap ((m : Int) + 1)).toNat < 6 - (m : Int).toNat
                rw [wrap64 (by omega) (by omega)]; omega
            · have hm6 : m = 6 := by omega
              subst hm6
              refine ⟨⟨n + 1, ?_, by omega, by omega, ?_⟩, ?_⟩
              · rw [wrap64 (by omega) (by omega)]; omega
              · have hx := hst
                unfold St72 at hx ⊢
                rw [lsP_next] at hx
                exact hx
              · show 5 - (IntKind.i64.wrap ((n : Int) + 1)).toNat < 5 - (n : Int).toNat
                rw [wrap64 (by omega) (by omega)]; omega
          · have hn5 : n = 5 := by omega
            subst hn5
            have h5k : w5.heap[k]? = some (.cells (lsOf l).cells 49 (0, 0)) := by have := hst.2.2.2.2.2; rw [lsP_end] at this; exact this
            simp only [addk, Nat.reduceAdd, Nat.zero_add]
            refine ⟨_, _, _, _, _, _, _, _, ⟨cl h5k rfl, cl h5k rfl, cl h5k rfl, cl h5k rfl, cl h5k rfl, cl h5k rfl, cl h5k rfl, cl h5k rfl, trivial⟩, (K64 (lsOf l) w5).mono fun e w6 hp => ?_⟩
            cases e with
            | returned r =>
              obtain ⟨hk6, rfl⟩ := hp
              have hst6 := hst.then hk6
              have g56 : w6.heap[k5]? = some (.cells #[.int .u32 0, .int .i64 0, .string ⟨#[]⟩, .int .i64 0, .int .i64 0, .int .i64 0, .int .i64 0, .int .i64 0] 49 (0, 0)) := hst6.2.2.2.2.1
              have g6k := hk6.at h5k nf
              have hdec : decOk l = (lsOf l).right := by unfold decOk; rw [decide_eq_true h36, decide_eq_true h35]; rfl
              have hz := hst.2.2.2.1
              refine ⟨_, rfl, ifB_split (fun hr => ?_) (fun hr => ?_)⟩
              · exact st8 g56 fun w7 hk7 h7 => ⟨_, _, _, _, _, _, _, _, ⟨cl h7 rfl, cl h7 rfl, cl h7 rfl, cl h7 rfl, cl h7 rfl, cl h7 rfl, cl h7 rfl, cl h7 rfl, trivial⟩, hst6.1.trans hk7 (fun b hb h => by omega), .inr ⟨by rw [hdec]; simpa using hr, rfl⟩⟩
              · refine ⟨_, _, _, _, _, _, _, _, ⟨cl g6k rfl, cl g6k rfl, cl g6k rfl, cl g6k rfl, cl g6k rfl, cl g6k rfl, cl g6k rfl, cl g6k rfl, trivial⟩, st8 g56 fun w7 hk7 h7 => ⟨_, _, _, _, _, _, _, _, ⟨cl h7 rfl, cl h7 rfl, cl h7 rfl, cl h7 rfl, cl h7 rfl, cl h7 rfl, cl h7 rfl, cl h7 rfl, trivial⟩, hst6.1.trans hk7 (fun b hb h => by omega), .inl ⟨by rw [hdec]; simpa using hr, rfl⟩⟩⟩
            | _ => exact hp
        | _ => exact hp
end Go.Lf
end

section
set_option linter.unusedVariables false
set_option linter.unusedSimpArgs false
namespace Go.Lf
open Go Go.Proofs

def stRec (s : Int) : List UInt8 := [83, UInt8.ofNat s.toNat]
def lifeRec (s : Int) : List UInt8 := 70 :: be 4 s.toNat
theorem K58 {s : Int} (h : 0 ≤ s) (w : World) : Calls Cz.P 58 #[.int .i64 s] w (CP (fun r w' => Kp no w w' ∧ ∃ a n c, r = .slice a n c ∧ OwnB w' w.heap.size r (stRec s)) (fun _ _ => False)) := by
  refine C58 ?_
  unfold B58
  have hb : Value.int IntKind.u8 (IntKind.u8.wrap s) = bv (UInt8.ofNat s.toNat) := by rw [bv_ofNat, Int.toNat_of_nonneg h]
  obtain ⟨a, n, c, w', hr, hk, ho⟩ := E22b (w := w) (stRec s) (by simp [stRec]) #[(0, (.int .u8 83)), (1, (.int .u8 (IntKind.u8.wrap s)))] (by rw [hb]; rfl)
  exact ⟨_, _, _, _, hr, hk, _, _, _, rfl, ho⟩
theorem K59 {s : Int} (h : 0 ≤ s) (w : World) : Calls Cz.P 59 #[.int .i64 s] w (CP (fun r w' => Kp no w w' ∧ ∃ a n c, r = .slice a n c ∧ OwnB w' w.heap.size r (lifeRec s)) (fun _ _ => False)) := by
  refine C59 ?_
  unfold B59
  have hb : Value.int IntKind.u8 (IntKind.u8.wrap s) = bv (UInt8.ofNat s.toNat) := by rw [bv_ofNat, Int.toNat_of_nonneg h]
  have hfd : ∀ k : Nat, Value.int IntKind.u8 (IntKind.u8.wrap (Int.fdiv s (2 ^ k))) = bv (UInt8.ofNat (s.toNat / 2 ^ k)) := by
    intro k
    rw [bv_ofNat, ← fdiv_pow, Int.toNat_of_nonneg h]
  obtain ⟨a, n, c, w', hr, hk, ho⟩ := E22b (w := w) (lifeRec s) (by simp [lifeRec, be_length]) #[(0, (.int .u8 70)), (1, (.int .u8 (IntKind.u8.wrap (Int.fdiv s (2 ^ 24))))), (2, (.int .u8 (IntKind.u8.wrap (Int.fdiv s (2 ^ 16))))), (3, (.int .u8 (IntKind.u8.wrap (Int.fdiv s (2 ^ 8))))), (4, (.int .u8 (IntKind.u8.wrap s)))]
    (by rw [hfd, hfd, hfd, hb]; unfold lifeRec; rw [be4]; rfl)
  have hl : (lifeRec s).length = 5 := by simp [lifeRec, be_length]
  rw [hl] at hr
  exact ⟨_, _, _, _, hr, hk, _, _, _, rfl, ho⟩
theorem K86 {s : Int} (h : 0 ≤ s) (h' : s ≤ 9223372036854775807) (w : World) : Calls Cz.P 86 #[.int .i64 s] w (CP (fun r w' => Kp no w w' ∧ ∃ a n c, r = .slice a n c ∧ OwnB w' w.heap.size r (lifeRec s)) (fun _ _ => False)) := by
  refine C86 ?_
  unfold B86
  have hb : Value.int IntKind.u8 (IntKind.u8.wrap s) = bv (UInt8.ofNat s.toNat) := by rw [bv_ofNat, Int.toNat_of_nonneg h]
  have hfd : ∀ k : Nat, Value.int IntKind.u8 (IntKind.u8.wrap (IntKind.i64.wrap (Int.tdiv s (k : Nat)))) = bv (UInt8.ofNat (s.toNat / k)) := by
    intro k
    have h1 := tdiv_nat s.toNat k
    rw [Int.toNat_of_nonneg h] at h1
    have h2 : s.toNat / k ≤ s.toNat := Nat.div_le_self _ _
    generalize s.toNat / k = z at *
    rw [h1, wrap64 (by omega) (by omega), bv_ofNat]
  have h24 := hfd 16777216
  have h16 := hfd 65536
  have h8 := hfd 256
  obtain ⟨a, n, c, w', hr, hk, ho⟩ := E22b (w := w) (lifeRec s) (by simp [lifeRec, be_length]) #[(0, (.int .u8 70)), (1, (.int .u8 (IntKind.u8.wrap (IntKind.i64.wrap (s.tdiv 16777216))))), (2, (.int .u8 (IntKind.u8.wrap (IntKind.i64.wrap (s.tdiv 65536))))), (3, (.int .u8 (IntKind.u8.wrap (IntKind.i64.wrap (s.tdiv 256))))), (4, (.int .u8 (IntKind.u8.wrap s)))]
    (by rw [show (16777216 : Int) = ((16777216 : Nat) : Int) from rfl, show (65536 : Int) = ((65536 : Nat) : Int) from rfl, show (256 : Int) = ((256 : Nat) : Int) from rfl, h24, h16, h8, hb]; unfold lifeRec; rw [be4]; rfl)
  have hl : (lifeRec s).length = 5 := by simp [lifeRec, be_length]
  rw [hl] at hr
  exact ⟨_, _, _, _, hr, hk, _, _, _, rfl, ho⟩

/-- ranges -/
structure Rg where
  lo : Nat
  hi : Nat
def rgv (r : Rg) : List Value := [.int .u32 (r.lo : Int), .int .u32 (r.hi : Int)]
def Rg.ok (r : Rg) : Prop := r.lo < 4294967296 ∧ r.hi < 4294967296
def Rg.size (r : Rg) : Int := (r.hi : Int) - r.lo + 1
def Rgs (w : World) (v : Value) (rs : List Rg) : Prop := Sl w 2 v rs.length (rs.flatMap rgv)
theorem flat2 : ∀ (rs : List Rg) (i : Nat) (h : i < rs.length), (rs.flatMap rgv)[i * 2]? = some (.int .u32 (rs[i].lo : Int)) ∧ (rs.flatMap rgv)[i * 2 + 1]? = some (.int .u32 (rs[i].hi : Int))
  | r :: rs, 0, h => ⟨rfl, rfl⟩
  | r :: rs, i + 1, h => by
    have := flat2 rs i (by simpa using h)
    simp only [List.flatMap_cons, rgv]
    rw [show (i + 1) * 2 = i * 2 + 2 by omega, show i * 2 + 2 + 1 = (i * 2 + 1) + 2 by omega]
    exact this
theorem Rgs.at {w : World} {a : Option Addr} {n c i : Nat} {rs : List Rg} (h : Rgs w (.slice a n c) rs) (hi : i < rs.length) :
    ∃ q, a = some q ∧ w.cell? (q.add (i * 2)) = some (.int .u32 (rs[i].lo : Int)) ∧ w.cell? ((q.add (i * 2)).add 1) = some (.int .u32 (rs[i].hi : Int)) := by
  obtain ⟨hl, ⟨hx, hn⟩ | ⟨p, c', hx, h3, h4, h5, h6⟩⟩ := h
  · omega
  · cases hx
    obtain ⟨h7, h8⟩ := flat2 rs i hi
    obtain ⟨b, o, sp⟩ := p
    simp only at h5
    subst h5
    refine ⟨_, rfl, h6 _ _ h7, ?_⟩
    have := h6 _ _ h8
    rw [addk] at this
    rw [addk, addk]
    rw [show o + i * 2 + 1 = o + (i * 2 + 1) by omega]
    exact this
def cnt (rs : List Rg) : Int := (rs.map Rg.size).sum
theorem cnt_take (rs : List Rg) (i : Nat) (h : i < rs.length) : cnt (rs.take (i + 1)) = cnt (rs.take i) + rs[i].size := by
  unfold cnt
  rw [List.take_add_one, List.getElem?_eq_getElem h]
  simp only [Option.toList, List.map_append, List.sum_append, List.map_cons, List.map_nil, List.sum_cons, List.sum_nil, Int.add_zero]
theorem K106 {r : Rg} (h : r.ok) (w : World) : Calls Cz.P 106 #[.agg #[.int .u32 (r.lo : Int), .int .u32 (r.hi : Int)]] w (CP (fun v w' => Kp no w w' ∧ v = .int .i64 r.size) (fun _ _ => False)) := by
  refine C106 ?_
  unfold B106
  obtain ⟨h1, h2⟩ := h
  refine nw_i fun k w1 ek hk hg => ⟨_, cl hg rfl, _, cl hg rfl, hk, ?_⟩
  rw [wrap64 (x := (r.hi : Int)) (by omega) (by omega), wrap64 (x := (r.lo : Int)) (by omega) (by omega), wrap64 (x := (r.hi : Int) - r.lo) (by omega) (by omega), wrap64 (by omega) (by omega)]
  rfl

theorem cnt_bound : ∀ (rs : List Rg), (∀ r ∈ rs, r.ok) → -(4294967296 * (rs.length : Int)) ≤ cnt rs ∧ cnt rs ≤ 4294967296 * (rs.length : Int)
  | [], _ => by simp [cnt]
  | r :: rs, h => by
    have ih := cnt_bound rs (fun x hx => h x (List.mem_cons_of_mem _ hx))
    have hr := h r List.mem_cons_self
    unfold Rg.ok at hr
    have e : cnt (r :: rs) = r.size + cnt rs := by simp [cnt]
    rw [e]
    unfold Rg.size
    simp only [List.length_cons]
    omega
def J68 (rs : List Rg) (w : World) (vs : List Value) (w' : World) : Prop :=
  match vs with
  | [.int _ x, .int _ i] => Kp no w w' ∧ ∃ k : Nat, i = k ∧ k ≤ rs.length ∧ x = cnt (rs.take k)
  | _ => False
def M68 (rs : List Rg) (vs : List Value) (_ : World) : Nat := match vs with | [_, .int _ i] => rs.length - i.toNat | _ => 0
theorem take_ok {rs : List Rg} (hok : ∀ r ∈ rs, r.ok) (k : Nat) : ∀ r ∈ rs.take k, r.ok := fun r hr => hok r (List.mem_of_mem_take hr)
theorem K68 {w : World} {a : Option Addr} {n c : Nat} {rs : List Rg} (hv : Rgs w (.slice a n c) rs) (hok : ∀ r ∈ rs, r.ok) (hl : rs.length ≤ 1048576) :
    Calls Cz.P 68 #[.slice a n c] w (CP (fun r w' => Kp no w w' ∧ r = .int .i64 (cnt rs)) (fun _ _ => False)) := by
  refine C68 ?_
  have hn : n = rs.length := by
    obtain ⟨_, ⟨hx, h0⟩ | ⟨p, c', hx, _⟩⟩ := hv
    · cases hx; omega
    · cases hx; rfl
  subst hn
  unfold B68
  refine ⟨J68 rs w, M68 rs, ⟨.refl _ _, 0, rfl, Nat.zero_le _, by simp [cnt]⟩, ?_⟩
  rintro x i w1 ⟨hk, k, rfl, hkl, rfl⟩
  unfold B68_l1
  have hv1 : Rgs w1 (.slice a rs.length c) rs := hv.keep hk (fun _ _ _ _ => nf)
  have hb := cnt_bound (rs.take k) (take_ok hok k)
  rw [List.length_take] at hb
  refine ifB_dec (fun h => ?_) (fun h => ?_)
  · have hk' : k < rs.length := by omega
    obtain ⟨q, rfl, hc0, hc1⟩ := hv1.at hk'
    have hro := hok _ (List.getElem_mem hk')
    have hro' := hro
    unfold Rg.ok at hro'
    have hsz : rs[k].size = (rs[k].hi : Int) - rs[k].lo + 1 := rfl
    have hct := cnt_take rs k hk'
    refine need_and (dec (by omega)) (dec (by omega)) ?_
    rw [nn_some, show (k : Int).toNat * 2 = k * 2 by omega]
    refine ⟨_, _, ⟨hc0, hc1, trivial⟩, nw_i fun b w2 e2 hk2 g2 => st_i g2 (by simp) fun w3 hk3 g3 => st_i g3 (by simp) fun w4 hk4 g4 => ⟨_, _, ⟨cl g4 rfl, cl g4 rfl, trivial⟩, (K106 hro w4).mono fun e w5 hp => ?_⟩⟩
    cases e with
    | returned r =>
      obtain ⟨hk5, rfl⟩ := hp
      have hz := hk.size
      refine ⟨_, rfl, ⟨((((hk.then hk2).trans hk3 (fun b hb h => by omega)).trans hk4 (fun b hb h => by omega)).then hk5), k + 1, ?_, hk', ?_⟩, ?_⟩
      · rw [wrap64 (by omega) (by omega)]; omega
      · rw [hct, wrap64 (by omega) (by omega)]
      · show rs.length - (IntKind.i64.wrap ((k : Int) + 1)).toNat < rs.length - (k : Int).toNat
        rw [wrap64 (by omega) (by omega)]; omega
    | _ => exact hp
  · have hk' : k = rs.length := by omega
    subst hk'
    exact ⟨hk, by rw [List.take_length]⟩
theorem K75 {w : World} {a : Option Addr} {n c : Nat} {rs : List Rg} (hv : Rgs w (.slice a n c) rs) (hok : ∀ r ∈ rs, r.ok) (hl : rs.length ≤ 1048576) :
    Calls Cz.P 75 #[.slice a n c] w (CP (fun r w' => Kp no w w' ∧ r = .int .i64 (cnt rs)) (fun _ _ => False)) := by
  refine C75 ?_
  have hn : n = rs.length := by
    obtain ⟨_, ⟨hx, h0⟩ | ⟨p, c', hx, _⟩⟩ := hv
    · cases hx; omega
    · cases hx; rfl
  subst hn
  unfold B75
  refine ⟨J68 rs w, M68 rs, ⟨.refl _ _, 0, rfl, Nat.zero_le _, by simp [cnt]⟩, ?_⟩
  rintro x i w1 ⟨hk, k, rfl, hkl, rfl⟩
  unfold B75_l1
  have hkd : Kp no w w1.drew := hk.then (.drew no _)
  have hv1 : Rgs w1.drew (.slice a rs.length c) rs := hv.keep hkd (fun _ _ _ _ => nf)
  have hb := cnt_bound (rs.take k) (take_ok hok k)
  rw [List.length_take] at hb
  refine ifB_dec (fun h => ?_) (fun h => ?_)
  · have hk' : k < rs.length := by omega
    obtain ⟨q, rfl, hc0, hc1⟩ := hv1.at hk'
    have hro' := hok _ (List.getElem_mem hk')
    unfold Rg.ok at hro'
    have hsz : rs[k].size = (rs[k].hi : Int) - rs[k].lo + 1 := rfl
    have hct := cnt_take rs k hk'
    refine need_and (dec (by omega)) (dec (by omega)) ?_
    rw [nn_some, show (k : Int).toNat * 2 = k * 2 by omega]
    refine ⟨_, hc1, need_and (dec (by omega)) (dec (by omega)) ?_⟩
    rw [nn_some]
    refine ⟨_, hc0, ?_⟩
    rw [wrap64 (x := (rs[k].hi : Int)) (by omega) (by omega), wrap64 (x := (rs[k].lo : Int)) (by omega) (by omega), wrap64 (x := cnt (rs.take k) + _) (by omega) (by omega), wrap64 (x := cnt (rs.take k) + _ - _) (by omega) (by omega), wrap64 (x := cnt (rs.take k) + _ - _ + 1) (by omega) (by omega)]
    refine ⟨⟨hkd, k + 1, ?_, hk', ?_⟩, ?_⟩
    · rw [wrap64 (by omega) (by omega)]; omega
    · rw [hct, hsz]; omega
    · show rs.length - (IntKind.i64.wrap ((k : Int) + 1)).toNat < rs.length - (k : Int).toNat
      rw [wrap64 (by omega) (by omega)]; omega
  · have hk' : k = rs.length := by omega
    subst hk'
    exact ⟨hk, by rw [List.take_length]⟩
end Go.Lf
end
