/- Part 18 of the lemmas that a proof leans on; no claim is made here. By an AI agent. -/
import Derived.Test.YtofhodpdfbnkiaaGreatLfD06
import Derived.Test.YtofhodpdfbnkiaaGreatLfD07
import Derived.Test.YtofhodpdfbnkiaaGreatLfD08
import Derived.Test.YtofhodpdfbnkiaaGreatLfD09
import Derived.Test.YtofhodpdfbnkiaaGreatLfD10
import Derived.Test.YtofhodpdfbnkiaaGreatLfD11
import Derived.Test.YtofhodpdfbnkiaaGreatLfD12
import Derived.Test.YtofhodpdfbnkiaaGreatLfD13
import Derived.Test.YtofhodpdfbnkiaaGreatLfD14
import Derived.Test.YtofhodpdfbnkiaaGreatLfD15
section
set_option linter.unusedVariables false
set_option linter.unusedSimpArgs false
/-! Facts of the program's types; the disk's representation. -/
namespace Go.Lf
open Go Go.Proofs
theorem E22 : ElemT Cz.P 22 5 1 1 := ⟨by kernel_rfl, by kernel_rfl⟩
theorem E56 : ElemT Cz.P 56 22 1 24 := ⟨by kernel_rfl, by kernel_rfl⟩
/-- what a disk is: its room, its bytes, how many last, how many changes are made yet -/
structure Dk where
  room : Int
  b : List UInt8
  last : Int
  inn : Int
/-- bytes of one's own -/
def OwnB (w : World) (base : Nat) (v : Value) (l : List UInt8) : Prop := w.ownsRow base 5 1 v l.length (bvs l)
theorem OwnB.bs {w : World} {base : Nat} {v : Value} {l : List UInt8} (h : OwnB w base v l) : Bs w v l := Sl.of_own h
def DkAt (T : TypeId) (w : World) (p : Nat) (D : Dk) : Prop :=
  ∃ s, w.heap[p]? = some (.cells #[.int .i64 D.room, s, .int .i64 D.last, .int .i64 D.inn] T (0, 0)) ∧ OwnB w 0 s D.b
structure Dk.ok (D : Dk) : Prop where
  r1 : 1 ≤ D.room
  r2 : D.room ≤ 1048576
  bl : (D.b.length : Int) ≤ D.room
  l1 : 0 ≤ D.last
  l2 : D.last ≤ D.b.length
  i1 : -1 ≤ D.inn
  i2 : D.inn ≤ 9223372036854775807
def Dk.dec (D : Dk) : Dk := { D with inn := if D.inn > 0 then D.inn - 1 else D.inn }
/-- a change of so many bytes -/
def Dk.change (D : Dk) (n : Int) (f : Dk → Dk) : Int × Dk := if D.inn = 0 then (7, D) else if n > D.room then (3, D.dec) else (0, f D.dec)
def Dk.append (D : Dk) (l : List UInt8) : Int × Dk := D.change (D.b.length + l.length) fun D => { D with b := D.b ++ l }
def Dk.sync (D : Dk) : Int × Dk := D.change 0 fun D => { D with last := D.b.length }
def Dk.swap (D : Dk) (l : List UInt8) : Int × Dk := D.change l.length fun D => { D with b := l, last := l.length }
def Dk.fail (D : Dk) (n : Int) : Dk := { D with inn := if (-1 : Int) > n then (-1 : Int) else n }
def Dk.kept (D : Dk) (k : Int) : Nat := (D.last + (if D.b.length - D.last < (if (0 : Int) > k then (0 : Int) else k) then D.b.length - D.last else (if (0 : Int) > k then (0 : Int) else k))).toNat
def Dk.crash (D : Dk) (k : Int) : Dk := { D with b := D.b.take (D.kept k), last := D.kept k, inn := -1 }
theorem Dk.dec_ok {D : Dk} (h : D.ok) : D.dec.ok := by
  obtain ⟨h1, h2, h3, h4, h5, h6, h7⟩ := h
  refine ⟨h1, h2, h3, h4, h5, ?_, ?_⟩ <;> simp only [Dk.dec] <;> split <;> omega
theorem Dk.append_ok {D : Dk} (h : D.ok) (l : List UInt8) : (D.append l).2.ok := by
  unfold Dk.append Dk.change
  split
  · exact h
  · split
    · exact dec_ok h
    · obtain ⟨h1, h2, h3, h4, h5, h6, h7⟩ := dec_ok h
      refine ⟨h1, h2, ?_, h4, ?_, h6, h7⟩ <;> simp [Dk.dec] at * <;> omega
theorem Dk.sync_ok {D : Dk} (h : D.ok) : D.sync.2.ok := by
  unfold Dk.sync Dk.change
  split
  · exact h
  · split
    · exact dec_ok h
    · obtain ⟨h1, h2, h3, h4, h5, h6, h7⟩ := dec_ok h
      refine ⟨h1, h2, h3, ?_, ?_, h6, h7⟩ <;> simp
theorem Dk.swap_ok {D : Dk} (h : D.ok) (l : List UInt8) : (D.swap l).2.ok := by
  unfold Dk.swap Dk.change
  split
  · exact h
  · split
    · exact dec_ok h
    · obtain ⟨h1, h2, h3, h4, h5, h6, h7⟩ := dec_ok h
      refine ⟨h1, h2, ?_, ?_, ?_, h6, h7⟩ <;> simp [Dk.dec] at * <;> omega
theorem Dk.fail_ok {D : Dk} (h : D.ok) {n : Int} (hn : n ≤ 9223372036854775807) : (D.fail n).ok := by
  obtain ⟨h1, h2, h3, h4, h5, h6, h7⟩ := h
  refine ⟨h1, h2, h3, h4, h5, ?_, ?_⟩ <;> simp only [Dk.fail] <;> split <;> omega
theorem Dk.kept_le {D : Dk} (h : D.ok) (k : Int) : D.kept k ≤ D.b.length ∧ D.last ≤ D.kept k := by
  obtain ⟨h1, h2, h3, h4, h5, h6, h7⟩ := h
  unfold Dk.kept
  split <;> split at * <;> omega
theorem Dk.crash_ok {D : Dk} (h : D.ok) (k : Int) : (D.crash k).ok := by
  have hk := Dk.kept_le h k
  obtain ⟨h1, h2, h3, h4, h5, h6, h7⟩ := h
  refine ⟨h1, h2, ?_, ?_, ?_, ?_, ?_⟩ <;> simp [Dk.crash] <;> omega
theorem DkAt.open {T : TypeId} {w : World} {p : Nat} {D : Dk} (h : DkAt T w p D) : ∃ a c, w.heap[p]? = some (.cells #[.int .i64 D.room, .slice a D.b.length c, .int .i64 D.last, .int .i64 D.inn] T (0, 0)) ∧ OwnB w 0 (.slice a D.b.length c) D.b := by
  obtain ⟨s, h1, h2⟩ := h
  obtain ⟨a, c, rfl⟩ := own_slice h2
  exact ⟨a, c, h1, h2⟩
theorem DkAt.keep {T : TypeId} {w w' : World} {p : Nat} {D : Dk} {S : Nat → Prop} (h : DkAt T w p D) (k : Kp S w w') (hp : ¬ S p) (hn : NoT 5 S w) : DkAt T w' p D := by
  obtain ⟨s, h1, h2⟩ := h
  exact ⟨s, k.at h1 hp, own_keep h2 k hn⟩
theorem OwnB.set {w : World} {base p i : Nat} {v s : Value} {l : List UInt8} {cs : Array Value} {T : TypeId} {f : Nat × Nat} (h : OwnB w base s l) (hp : w.heap[p]? = some (.cells cs T f)) (hT : T ≠ 5) : OwnB (w.setCell ⟨p, i, none⟩ v) base s l :=
  own_keep h (.set w ⟨p, i, none⟩ v) (NoT.one hp hT)
theorem DkAt.noU {T : TypeId} {w : World} {p : Nat} {D : Dk} (h : DkAt T w p D) : NoU (fun k => k = p) w := by
  obtain ⟨s, h1, h2⟩ := h
  refine NoU.one h1 ?_
  obtain ⟨a, c, rfl⟩ := own_slice h2
  simp
theorem DkAt.noT {T : TypeId} {w : World} {p : Nat} {D : Dk} (h : DkAt T w p D) (hT : T ≠ 5) : NoT 5 (fun k => k = p) w := by
  obtain ⟨s, h1, h2⟩ := h
  exact NoT.one h1 hT
end Go.Lf
end

section
set_option linter.unusedVariables false
set_option linter.unusedSimpArgs false
namespace Go.Lf
open Go Go.Proofs
/-- slices of bytes, and what they hold -/
def Bss (w : World) (ss : List Value) (ls : List (List UInt8)) : Prop := ss.length = ls.length ∧ ∀ (i : Nat) (h : i < ls.length), ∃ v, ss[i]? = some v ∧ Bs w v ls[i]
theorem Bs.slice {w : World} {v : Value} {l : List UInt8} (h : Bs w v l) : ∃ a c, v = .slice a l.length c := by
  obtain ⟨_, ⟨rfl, hn⟩ | ⟨p, c, rfl, _⟩⟩ := h
  · exact ⟨none, 0, by rw [hn]⟩
  · exact ⟨_, _, rfl⟩
theorem flat_take (ls : List (List UInt8)) (i : Nat) (h : i < ls.length) : (ls.take (i + 1)).flatten = (ls.take i).flatten ++ ls[i] := by
  rw [List.take_add_one, List.getElem?_eq_getElem h]
  simp only [Option.toList, List.flatten_append, List.flatten_cons, List.flatten_nil, List.append_nil]
theorem flat_take_le (ls : List (List UInt8)) (i : Nat) : (ls.take i).flatten.length ≤ ls.flatten.length := by
  have : ls.flatten = (ls.take i).flatten ++ (ls.drop i).flatten := by rw [← List.flatten_append, List.take_append_drop]
  rw [this]; simp

def J35 (ls : List (List UInt8)) (w9 : World) (vs : List Value) (w22 : World) : Prop :=
  match vs with
  | [.int _ x, .int _ i] => Kp no w9 w22 ∧ ∃ k : Nat, i = k ∧ k ≤ ls.length ∧ x = ((ls.take k).flatten.length : Int) ∧
        w22.heap[w9.heap.size]? = some (.cells (bvs (ls.take k).flatten ++ List.replicate (ls.flatten.length - (ls.take k).flatten.length) (Value.int .u8 0)).toArray 5 (0, 0))
  | _ => False
def M35 (ls : List (List UInt8)) (vs : List Value) (_ : World) : Nat := match vs with | [_, .int _ i] => ls.length - i.toNat | _ => 0
theorem K35 {a : Option Addr} {n c : Nat} {w : World} {ss : List Value} {ls : List (List UInt8)} (hs : Sl w 1 (.slice a n c) ss.length ss) (hb : Bss w ss ls) (hn : ls.flatten.length ≤ 1099511627776) :
    Calls Cz.P 35 #[.slice a n c] w (CP (fun r w' => Kp no w w' ∧ ∃ a n c, r = .slice a n c ∧ OwnB w' w.heap.size r ls.flatten) (fun _ _ => False)) := by
  have hlen := hb.1
  have hnn : n = ls.length := by
    obtain ⟨_, ⟨h, h0⟩ | ⟨p, c, h, _⟩⟩ := hs
    · simp at h; omega
    · simp at h; omega
  have hml : ls.length ≤ 9223372036854775807 := by
    obtain ⟨_, ⟨h, h0⟩ | ⟨p, c, h, h1, h2, _⟩⟩ := hs
    · omega
    · simp [maxLen] at h2; omega
  cases hnn
  have cellAt : ∀ (i : Nat) (h : i < ls.length), ∃ q, a = some q ∧ ∃ v, w.cell? (q.add i) = some v ∧ ss[i]? = some v ∧ Bs w v ls[i] := by
    intro i h
    obtain ⟨v, hv, hbv⟩ := hb.2 i h
    obtain ⟨_, ⟨h1, h0⟩ | ⟨p, c, h1, _, _, _, h2⟩⟩ := hs
    · omega
    · simp only [Value.slice.injEq] at h1; obtain ⟨rfl, _, rfl⟩ := h1; exact ⟨p, rfl, v, h2 i v hv, hv, hbv⟩
  refine C35 ?_
  unfold B35
  refine ⟨(fun vs w9 => match vs with | [.int _ x, .int _ i] => w9 = w ∧ ∃ k : Nat, i = k ∧ k ≤ ls.length ∧ x = ((ls.take k).flatten.length : Int) | _ => False),
    (fun vs _ => match vs with | [_, .int _ i] => ls.length - i.toNat | _ => 0), ⟨rfl, 0, rfl, Nat.zero_le _, by simp⟩, ?_⟩
  rintro x i w9 ⟨rfl, k, rfl, hk, rfl⟩
  unfold B35_l1
  have hle := flat_take_le ls k
  refine ifB_dec (fun h => ?_) (fun h => ?_)
  · have hk' : k < ls.length := by omega
    obtain ⟨q, rfl, v, hc, hsv, hbv⟩ := cellAt k hk'
    obtain ⟨a2, c2, rfl⟩ := hbv.slice
    have hle2 := flat_take_le ls (k + 1)
    have hft := flat_take ls k hk'
    rw [hft, List.length_append] at hle2
    refine need_and (dec (by omega)) (dec h) ?_
    refine nn_iff.2 ⟨q, rfl, a2, _, c2, by simpa using hc, ⟨rfl, k + 1, ?_, hk', ?_⟩, ?_⟩
    · rw [wrap64] <;> omega
    · rw [wrap64, hft, List.length_append] <;> omega
    · show ls.length - (IntKind.i64.wrap _).toNat < ls.length - (k : Int).toNat
      rw [wrap64] <;> omega
  · have hk' : k = ls.length := by omega
    subst hk'
    rw [List.take_length]
    refine ⟨_, _, _, _, E22.made (z := .int .u8 0) (by kernel_rfl) .i64 .i64 ls.flatten.length (by omega) (by omega) w9, ?_⟩
    refine ⟨J35 ls w9, M35 ls, ⟨.alloc _ _ _, 0, rfl, Nat.zero_le _, by simp, ?_⟩, ?_⟩
    · rw [get_alloc_new]
      have := toList_madeCells_one (.int .u8 0) ls.flatten.length
      have e : madeCells #[Value.int .u8 0] ls.flatten.length = (List.replicate ls.flatten.length (Value.int .u8 0)).toArray := by rw [← this]
      simp only [Value.cells, Nat.mul_one, e, List.take_zero, List.flatten_nil, bvs, List.map_nil, List.nil_append, List.length_nil, Nat.sub_zero]
    rintro x i w22 ⟨hkp, k, rfl, hk, rfl, hg⟩
    unfold B35_l2
    have hle := flat_take_le ls k
    refine ifB_dec (fun h => ?_) (fun h => ?_)
    · have hk' : k < ls.length := by omega
      obtain ⟨q, rfl, v, hc, hsv, hbv⟩ := cellAt k hk'
      have hbv' : Bs w22 v ls[k] := hbv.keep hkp (fun _ _ _ _ h => h)
      obtain ⟨a2, c2, rfl⟩ := hbv.slice
      have hle2 := flat_take_le ls (k + 1)
      have hft := flat_take ls k hk'
      rw [hft, List.length_append] at hle2
      refine need_and (dec (by omega)) (dec h) ?_
      refine nn_iff.2 ⟨q, rfl, a2, _, c2, hkp.cell (by simpa using hc) (fun h => h), ?_⟩
      refine need_and (dec (by omega)) (dec (by omega)) (need_and (dec (by omega)) (dec (by omega)) ?_)
      obtain ⟨w', hr, hg', hk2⟩ := E22.copy (ty := 3) hg (off := (ls.take k).flatten.length) (n := ls.flatten.length) (c := ls.flatten.length) hbv' (bvs_one _) hle2 (by simp; omega) (Nat.le_refl _)
      refine ⟨_, _, hr, ⟨hkp.trans hk2 (fun b hb e => by omega), k + 1, ?_, hk', ?_, ?_⟩, ?_⟩
      · rw [wrap64] <;> omega
      · rw [wrap64, hft, List.length_append] <;> omega
      · rw [hg', hft]
        rw [splice_app _ _ _ _ (by simp), bvs_append, List.length_append, bvs_length, Nat.sub_sub]
      · show ls.length - (IntKind.i64.wrap _).toNat < ls.length - (k : Int).toNat
        rw [wrap64] <;> omega
    · have hk' : k = ls.length := by omega
      subst hk'
      refine ⟨hkp, _, _, _, rfl, ?_, .inr ⟨w9.heap.size, _, _, rfl, Nat.le_refl _, hg, Nat.le_refl _, ?_, ?_, ?_⟩⟩
      · simp
      · unfold maxLen; omega
      · simp
      · simp only [List.take_length, Nat.sub_self, List.replicate_zero, List.append_nil, Nat.mul_one]
        exact List.take_of_length_le (by simp)
end Go.Lf
end

section
set_option linter.unusedVariables false
set_option linter.unusedSimpArgs false
namespace Go.Lf
open Go Go.Proofs

theorem K9 (x : Int) (w : World) : Calls Cz.P 9 #[.int .i64 x] w (CP (fun v w' => Kp no w w' ∧
    ((¬ (1 ≤ x ∧ x ≤ 1048576) ∧ v = .tuple #[.pointer none, .int .i64 1]) ∨
     ((1 ≤ x ∧ x ≤ 1048576) ∧ ∃ p, w.heap.size ≤ p ∧ v = .tuple #[.pointer (some ⟨p, 0, none⟩), .int .i64 0] ∧ DkAt 72 w' p ⟨x, [], 0, -1⟩))) (fun _ _ => False)) := by
  refine C9 ?_
  unfold B9 B9_j1 nw
  refine ifB_dec (fun h => ?_) (fun h => ifB_dec (fun h => ?_) (fun h' => ?_))
  · exact ⟨.refl _ _, .inl ⟨by omega, rfl⟩⟩
  · exact ⟨.refl _ _, .inl ⟨by omega, rfl⟩⟩
  · exact ⟨.alloc _ _ _, .inr ⟨by omega, _, Nat.le_refl _, rfl, _, get_alloc_new _ _, World.ownsRow_nil _ _ _ _⟩⟩
theorem K10 (x : Int) (w : World) : Calls Cz.P 10 #[.int .i64 x] w (CP (fun v w' => Kp no w w' ∧
    ((¬ (1 ≤ x ∧ x ≤ 1048576) ∧ v = .tuple #[.pointer none, .int .i64 1]) ∨
     ((1 ≤ x ∧ x ≤ 1048576) ∧ ∃ p, w.heap.size ≤ p ∧ v = .tuple #[.pointer (some ⟨p, 0, none⟩), .int .i64 0] ∧ DkAt 54 w' p ⟨x, [], 0, -1⟩))) (fun _ _ => False)) := by
  refine C10 ?_
  unfold B10 B10_j1 nw
  refine ifB_dec (fun h => ?_) (fun h => ifB_dec (fun h => ?_) (fun h' => ?_))
  · exact ⟨.refl _ _, .inl ⟨by omega, rfl⟩⟩
  · exact ⟨.refl _ _, .inl ⟨by omega, rfl⟩⟩
  · exact ⟨.alloc _ _ _, .inr ⟨by omega, _, Nat.le_refl _, rfl, _, get_alloc_new _ _, World.ownsRow_nil _ _ _ _⟩⟩

/-- the counting -/
theorem dec_at {T : TypeId} {w : World} {p : Nat} {D : Dk} (h : DkAt T w p D) (hT : T ≠ 5) (hp : D.inn > 0) (h2 : D.inn ≤ 9223372036854775807) :
    DkAt T (w.setCell ⟨p, 3, none⟩ (.int .i64 (IntKind.i64.wrap (D.inn - 1)))) p D.dec := by
  obtain ⟨s, h1, hs⟩ := h
  refine ⟨s, ?_, hs.set h1 hT⟩
  rw [get_set_same h1, wrap64 (by omega) (by omega)]
  simp [Dk.dec, hp]
theorem dec_no {D : Dk} (hp : ¬ D.inn > 0) : D.dec = D := by
  unfold Dk.dec; rw [if_neg hp]

theorem K33 {p : Nat} {n : Int} {v : Value} {w : World} {D : Dk} {Rt : Value → World → Prop} {E : List PanicEntry → World → Prop} (h : DkAt 72 w p D) (hD : D.ok)
    (h7 : D.inn = 0 → Rt (.int .i64 7) w)
    (h3 : D.inn ≠ 0 → n > D.room → ∀ w', Kp (fun k => k = p) w w' → DkAt 72 w' p D.dec → Rt (.int .i64 3) w')
    (h0 : D.inn ≠ 0 → n ≤ D.room → ∀ w', Kp (fun k => k = p) w w' → DkAt 72 w' p D.dec → vCall Cz v [] w' (CP (fun r w'' => r = .tuple #[] ∧ Rt (.int .i64 0) w'') E)) :
    Calls Cz.P 33 #[.pointer (some ⟨p, 0, none⟩), .int .i64 n, v] w (CP Rt E) := by
  refine C33 ?_
  obtain ⟨a, c, h1, hs⟩ := h.open
  have fin : ∀ w', D.inn ≠ 0 → Kp (fun k => k = p) w w' → DkAt 72 w' p D.dec → B33_j1 Rt E (some ⟨p, 0, none⟩) n v w' := by
    intro w' hi hk hd
    unfold B33_j1
    obtain ⟨a', c', h1', _⟩ := hd.open
    rw [nn_some]
    refine ⟨_, by rw [cell_of h1']; rfl, ifB_dec (fun hg => ?_) (fun hg => ?_)⟩
    · exact h3 hi hg w' hk hd
    · exact h0 hi (by have : n ≤ D.dec.room := by omega
                      exact this) w' hk hd
  unfold B33
  simp only [nn_some, addk, Nat.reduceAdd, Nat.zero_add]
  refine ⟨D.inn, by rw [cell_of h1]; rfl, ifB_split (fun hb => h7 (by simpa using hb)) (fun hb => ⟨D.inn, by rw [cell_of h1]; rfl, ifB_dec (fun hp => ⟨D.inn, by rw [cell_of h1]; rfl, ?_⟩) (fun hp => ?_)⟩)⟩
  · have hi : D.inn ≠ 0 := by simpa using hb
    exact st_of h1 (by simp) (fin _ hi (.set' _ _ _ _) (dec_at h (by decide) hp hD.i2))
  · have hi : D.inn ≠ 0 := by simpa using hb
    exact fin _ hi (.refl _ _) (by rw [dec_no hp]; exact h)

theorem K36 {p : Nat} {w : World} {D : Dk} (h : DkAt 54 w p D) (hD : D.ok) :
    Calls Cz.P 36 #[.pointer (some ⟨p, 0, none⟩)] w (CP (fun r w' => Kp (fun k => k = p) w w' ∧ r = .bool (decide (D.inn = 0)) ∧ DkAt 54 w' p D.dec) (fun _ _ => False)) := by
  refine C36 ?_
  obtain ⟨a, c, h1, hs⟩ := h.open
  unfold B36 B36_j1
  simp only [nn_some, addk, Nat.reduceAdd, Nat.zero_add]
  refine ⟨D.inn, by rw [cell_of h1]; rfl, ifB_split (fun hb => ?_) (fun hb => ⟨D.inn, by rw [cell_of h1]; rfl, ifB_dec (fun hp => ⟨D.inn, by rw [cell_of h1]; rfl, ?_⟩) (fun hp => ?_)⟩)⟩
  · have hi : D.inn = 0 := by simpa using hb
    exact ⟨.refl _ _, by simp [hi], by rw [dec_no (by omega)]; exact h⟩
  · have hi : D.inn ≠ 0 := by simpa using hb
    exact st_of h1 (by simp) ⟨.set' _ _ _ _, by simp [hi], dec_at h (by decide) hp hD.i2⟩
  · have hi : D.inn ≠ 0 := by simpa using hb
    exact ⟨.refl _ _, by simp [hi], by rw [dec_no hp]; exact h⟩

theorem K51 {p : Nat} {x : Int} {w : World} {D : Dk} (h : DkAt 72 w p D) :
    Calls Cz.P 51 #[.pointer (some ⟨p, 0, none⟩), .int .i64 x] w (CP (fun r w' => Kp (fun k => k = p) w w' ∧ r = .tuple #[] ∧ DkAt 72 w' p (D.fail x)) (fun _ _ => False)) := by
  refine C51 ?_
  obtain ⟨a, c, h1, hs⟩ := h.open
  unfold B51
  simp only [nn_some, addk, Nat.reduceAdd, Nat.zero_add]
  exact st_of h1 (by simp) ⟨.set' _ _ _ _, trivial, _, get_set_same h1, hs.set h1 (by decide)⟩
theorem K52 {p : Nat} {x : Int} {w : World} {D : Dk} (h : DkAt 54 w p D) :
    Calls Cz.P 52 #[.pointer (some ⟨p, 0, none⟩), .int .i64 x] w (CP (fun r w' => Kp (fun k => k = p) w w' ∧ r = .tuple #[] ∧ DkAt 54 w' p (D.fail x)) (fun _ _ => False)) := by
  refine C52 ?_
  obtain ⟨a, c, h1, hs⟩ := h.open
  unfold B52
  simp only [nn_some, addk, Nat.reduceAdd, Nat.zero_add]
  exact st_of h1 (by simp) ⟨.set' _ _ _ _, trivial, _, get_set_same h1, hs.set h1 (by decide)⟩

theorem E56b1 (w : World) (v : Value) (h : v.oneCell' = true) : (Instr.buildSlice 56 1 #[(0, v)]).run Cz.P w = .ok (.slice (some ⟨w.heap.size, 0, none⟩) 1 1) (w.alloc (.cells #[v] 22)) := E56.built [v] (by simpa using h) (by simp) w
theorem E56b2 (w : World) (v u : Value) (h : v.oneCell' = true) (h' : u.oneCell' = true) : (Instr.buildSlice 56 2 #[(0, v), (1, u)]).run Cz.P w = .ok (.slice (some ⟨w.heap.size, 0, none⟩) 2 2) (w.alloc (.cells #[v, u] 22)) := E56.built [v, u] (by simp [h, h']) (by simp) w
theorem Sl.lit {w : World} {b n : Nat} {cs : List Value} {e : TypeId} (h : w.heap[b]? = some (.cells cs.toArray e (0, 0))) (hn : cs.length = n) (hm : n ≤ maxLen) : Sl w 1 (.slice (some ⟨b, 0, none⟩) n n) n cs :=
  ⟨by omega, .inr ⟨_, _, rfl, Nat.le_refl _, hm, rfl, fun j u hj => by rw [addk, cell_of h]; simpa using hj⟩⟩

/-- own of one -/
theorem own1 {a : Option Addr} {n c : Nat} {w : World} {l : List UInt8} (h : Bs w (.slice a n c) l) (hn : l.length ≤ 1099511627776) :
    ∃ a' n' c' w1, (Instr.buildSlice 56 1 #[(0, .slice a n c)]).run Cz.P w = .ok (.slice a' n' c') w1 ∧ Kp no w w1 ∧
      Calls Cz.P 35 #[.slice a' n' c'] w1 (CP (fun r w' => Kp no w w' ∧ Kp no w1 w' ∧ ∃ a n c, r = .slice a n c ∧ OwnB w' w.heap.size r l) (fun _ _ => False)) := by
  refine ⟨_, _, _, _, E56b1 w _ rfl, .alloc _ _ _, ?_⟩
  have hk : Kp no w (w.alloc (.cells #[.slice a n c] 22)) := .alloc _ _ _
  refine (K35 (ss := [.slice a n c]) (ls := [l]) (Sl.lit (get_alloc_new _ _) rfl (by simp [maxLen])) ⟨rfl, ?_⟩ (by simpa using hn)).mono ?_
  · intro i hi
    simp at hi
    subst hi
    exact ⟨_, rfl, h.keep hk (fun _ _ _ _ h => h)⟩
  · intro e w' hp
    cases e with
    | returned v =>
      obtain ⟨h1, a2, n2, c2, h2, h3⟩ := hp
      refine ⟨hk.trans h1 (fun _ _ h => h), h1, a2, n2, c2, h2, ?_⟩
      have : [l].flatten = l := by simp
      rw [this] at h3
      exact own_base h3 (by simp)
    | _ => exact hp
theorem own2 {a a2 : Option Addr} {n c n2 c2 : Nat} {w : World} {l l2 : List UInt8} (h : Bs w (.slice a n c) l) (h2 : Bs w (.slice a2 n2 c2) l2) (hn : (l ++ l2).length ≤ 1099511627776) :
    ∃ a' n' c' w1, (Instr.buildSlice 56 2 #[(0, .slice a n c), (1, .slice a2 n2 c2)]).run Cz.P w = .ok (.slice a' n' c') w1 ∧ Kp no w w1 ∧
      Calls Cz.P 35 #[.slice a' n' c'] w1 (CP (fun r w' => Kp no w w' ∧ Kp no w1 w' ∧ ∃ a n c, r = .slice a n c ∧ OwnB w' w.heap.size r (l ++ l2)) (fun _ _ => False)) := by
  refine ⟨_, _, _, _, E56b2 w _ _ rfl rfl, .alloc _ _ _, ?_⟩
  have hk : Kp no w (w.alloc (.cells #[.slice a n c, .slice a2 n2 c2] 22)) := .alloc _ _ _
  refine (K35 (ss := [.slice a n c, .slice a2 n2 c2]) (ls := [l, l2]) (Sl.lit (get_alloc_new _ _) rfl (by simp [maxLen])) ⟨rfl, ?_⟩ (by simpa using hn)).mono ?_
  · intro i hi
    match i, hi with
    | 0, _ => exact ⟨_, rfl, h.keep hk (fun _ _ _ _ h => h)⟩
    | 1, _ => exact ⟨_, rfl, h2.keep hk (fun _ _ _ _ h => h)⟩
  · intro e w' hp
    cases e with
    | returned v =>
      obtain ⟨h1, a3, n3, c3, h2, h3⟩ := hp
      refine ⟨hk.trans h1 (fun _ _ h => h), h1, a3, n3, c3, h2, ?_⟩
      have : [l, l2].flatten = l ++ l2 := by simp
      rw [this] at h3
      exact own_base h3 (by simp)
    | _ => exact hp
end Go.Lf
end

section
set_option linter.unusedVariables false
set_option linter.unusedSimpArgs false
namespace Go.Lf
open Go Go.Proofs
theorem bl_bound {D : Dk} (hD : D.ok) : D.b.length ≤ 1048576 := by have := hD.bl; have := hD.r2; omega
theorem no_h {P : Prop} (h : no 0 → P) : True := trivial
abbrev nf {k : Nat} : ¬ no k := fun h => h

/-- Append's closure -/
theorem K34 {q1 q2 p : Nat} {w : World} {D : Dk} {v : Value} {l : List UInt8} (h : DkAt 72 w p D) (hl : (D.b ++ l).length ≤ 1048576)
    (hq1 : w.heap[q1]? = some (.cells #[.pointer (some ⟨p, 0, none⟩)] 25 (0, 0))) (hq2 : w.heap[q2]? = some (.cells #[v] 22 (0, 0))) (hv : Bs w v l) :
    Calls Cz.P 34 #[.pointer (some ⟨q1, 0, none⟩), .pointer (some ⟨q2, 0, none⟩)] w (CP (fun r w' => r = .tuple #[] ∧ Kp (fun k => k = p) w w' ∧ DkAt 72 w' p { D with b := D.b ++ l }) (fun _ _ => False)) := by
  refine C34 ?_
  obtain ⟨a, c, h1, hs⟩ := h.open
  obtain ⟨a2, c2, rfl⟩ := hv.slice
  unfold B34
  obtain ⟨a', n', c', w1, hr, hk1, hc⟩ := own2 (w := w.drew) hs.bs hv (by omega)
  refine ⟨some ⟨p, 0, none⟩, cl (w := w) hq1 rfl, some ⟨p, 0, none⟩, cl (w := w) hq1 rfl, ?_⟩
  simp only [nn_some, addk, Nat.reduceAdd, Nat.zero_add]
  refine ⟨_, _, _, cl (w := w) h1 rfl, _, _, _, cl (w := w) hq2 rfl, _, _, _, _, hr, ⟨⟨hk1.cellD (w := w.drew) hq1 nf, trivial⟩, trivial⟩, ?_⟩
  refine hc.mono fun e w' hp => ?_
  cases e with
  | returned r =>
    obtain ⟨hk2, hk3, a3, n3, c3, rfl, ho⟩ := hp
    have h1' := hk2.at (w := w.drew) h1 nf
    refine ⟨_, _, _, rfl, ⟨⟨hk3.cellD (hk1.at (w := w.drew) hq1 nf) nf, trivial⟩, trivial⟩, st_i h1' (by simp) fun w2 hk4 h2 => ⟨trivial, ?_, _, h2, ?_⟩⟩
    · exact (Kp.drew no w).then (hk2.then hk4)
    · exact own_keep (own_base ho (Nat.zero_le _) : OwnB w' 0 _ _) hk4 (.one h1' (by decide))
  | _ => exact hp

theorem K11 {p : Nat} {w : World} {D : Dk} {a : Option Addr} {n c : Nat} {l : List UInt8} (h : DkAt 72 w p D) (hD : D.ok) (hv : Bs w (.slice a n c) l) (hl : l.length ≤ 1099511627776) :
    Calls Cz.P 11 #[.pointer (some ⟨p, 0, none⟩), .slice a n c] w (CP (fun r w' => Kp (fun k => k = p) w w' ∧ r = .int .i64 (D.append l).1 ∧ DkAt 72 w' p (D.append l).2) (fun _ _ => False)) := by
  refine C11 ?_
  obtain ⟨a1, c1, h1, hs⟩ := h.open
  have hb := bl_bound hD
  have hn : n = l.length := by obtain ⟨_, _, hx⟩ := hv.slice; cases hx; rfl
  subst hn
  unfold B11
  refine nw_i fun b1 w1 e1 hk1 g1 => nw_i fun b2 w2 e2 hk2 g2 => ?_
  have g1' := hk2.at g1 nf
  have hk12 : Kp no w w2 := hk1.then hk2
  have h1' := hk12.at h1 nf
  have kd : Kp no w w2.drew := hk12.then (.drew no _)
  have hd2 : DkAt 72 w2.drew p D := h.keep kd nf .no
  have hv2 : Bs w2.drew (.slice a l.length c) l := hv.keep kd (fun _ _ _ _ => nf)
  refine ⟨some ⟨p, 0, none⟩, cl (w := w2) g1' rfl, some ⟨p, 0, none⟩, cl (w := w2) g1' rfl, ?_⟩
  simp only [nn_some, addk, Nat.reduceAdd, Nat.zero_add]
  refine ⟨_, _, _, cl (w := w2) h1' rfl, _, _, _, cl (w := w2) g2 rfl, ?_⟩
  rw [wrap64 (by omega) (by omega)]
  have hp : p < w.heap.size := lt_of_get h1
  refine K33 hd2 hD (fun hi => ?_) (fun hi hg w3 hk3 hd3 => ?_) (fun hi hg w3 hk3 hd3 => ?_)
  · refine ⟨_, rfl, kd.mono (fun _ _ h => h.elim), ?_, ?_⟩ <;> simp [Dk.append, Dk.change, hi]
    exact hd2
  · refine ⟨_, rfl, kd.then hk3, ?_, ?_⟩ <;> simp only [Dk.append, Dk.change, hi, if_false, if_pos hg]
    exact hd3
  · have hlt := hk1.size
    have hlt2 := lt_of_get g1
    have hv3 : Bs w3 (.slice a l.length c) l := hv2.keepU hk3 hd2.noU
    refine vCall_func (by rfl) ((K34 (q1 := b1) (q2 := b2) (v := .slice a l.length c) (l := l) hd3 (by have := hD.r2; simp [Dk.dec]; omega) (hk3.at (w := w2.drew) g1' (by omega)) (hk3.at (w := w2.drew) g2 (by omega)) hv3).mono ?_)
    intro e w4 hp
    cases e with
    | returned r =>
      obtain ⟨rfl, hk4, hd4⟩ := hp
      refine ⟨rfl, _, rfl, (kd.then hk3).trans hk4 (fun _ _ h => h), ?_, ?_⟩ <;> simp only [Dk.append, Dk.change, hi, if_false, if_neg (show ¬ _ from (by omega : ¬ ((D.b.length : Int) + l.length > D.room)))]
      exact hd4
    | _ => exact hp
end Go.Lf
end

section
set_option linter.unusedVariables false
set_option linter.unusedSimpArgs false
namespace Go.Lf
open Go Go.Proofs

theorem K100 {q1 p : Nat} {w : World} {D : Dk} (h : DkAt 72 w p D) (hq1 : w.heap[q1]? = some (.cells #[.pointer (some ⟨p, 0, none⟩)] 25 (0, 0))) :
    Calls Cz.P 100 #[.pointer (some ⟨q1, 0, none⟩)] w (CP (fun r w' => r = .tuple #[] ∧ Kp (fun k => k = p) w w' ∧ DkAt 72 w' p { D with last := D.b.length }) (fun _ _ => False)) := by
  refine C100 ?_
  obtain ⟨a, c, h1, hs⟩ := h.open
  unfold B100
  refine ⟨some ⟨p, 0, none⟩, cl (w := w) hq1 rfl, some ⟨p, 0, none⟩, cl (w := w) hq1 rfl, ?_⟩
  simp only [nn_some, addk, Nat.reduceAdd, Nat.zero_add]
  refine ⟨_, _, _, cl (w := w) h1 rfl, st_i (w := w.drew) h1 (by simp) fun w2 hk4 h2 => ⟨trivial, (Kp.drew no w).then hk4, _, h2, ?_⟩⟩
  exact own_keep (w := w.drew) hs hk4 (.one (w := w.drew) h1 (by decide))
theorem K66 {p : Nat} {w : World} {D : Dk} (h : DkAt 72 w p D) (hD : D.ok) :
    Calls Cz.P 66 #[.pointer (some ⟨p, 0, none⟩)] w (CP (fun r w' => Kp (fun k => k = p) w w' ∧ r = .int .i64 D.sync.1 ∧ DkAt 72 w' p D.sync.2) (fun _ _ => False)) := by
  refine C66 ?_
  obtain ⟨a1, c1, h1, hs⟩ := h.open
  unfold B66
  refine nw_i fun b1 w1 e1 hk1 g1 => ?_
  have hd2 : DkAt 72 w1 p D := h.keep hk1 nf .no
  refine ⟨some ⟨p, 0, none⟩, cl g1 rfl, ?_⟩
  have hp : p < w.heap.size := lt_of_get h1
  refine K33 hd2 hD (fun hi => ?_) (fun hi hg w3 hk3 hd3 => ?_) (fun hi hg w3 hk3 hd3 => ?_)
  · refine ⟨_, rfl, hk1.mono (fun _ _ h => h.elim), ?_, ?_⟩ <;> simp [Dk.sync, Dk.change, hi]
    exact hd2
  · exact absurd hg (by have := hD.r1; omega)
  · refine vCall_func (by rfl) ((K100 (q1 := b1) hd3 (hk3.at g1 (by omega))).mono ?_)
    intro e w4 hp
    cases e with
    | returned r =>
      obtain ⟨rfl, hk4, hd4⟩ := hp
      refine ⟨rfl, _, rfl, (hk1.then hk3).trans hk4 (fun _ _ h => h), ?_, ?_⟩ <;> simp only [Dk.sync, Dk.change, hi, if_false, if_neg (show ¬ ((0 : Int) > D.room) from by omega)]
      exact hd4
    | _ => exact hp

theorem K109 {q1 q2 p : Nat} {w : World} {D : Dk} {v : Value} {l : List UInt8} (h : DkAt 72 w p D) (hl : l.length ≤ 1048576)
    (hq2 : w.heap[q2]? = some (.cells #[.pointer (some ⟨p, 0, none⟩)] 25 (0, 0))) (hq1 : w.heap[q1]? = some (.cells #[v] 22 (0, 0))) (hv : Bs w v l) (hne : q1 ≠ p) (hne2 : q2 ≠ p) :
    Calls Cz.P 109 #[.pointer (some ⟨q1, 0, none⟩), .pointer (some ⟨q2, 0, none⟩)] w (CP (fun r w' => r = .tuple #[] ∧ Kp (fun k => k = p) w w' ∧ DkAt 72 w' p { D with b := l, last := l.length }) (fun _ _ => False)) := by
  refine C109 ?_
  obtain ⟨a, c, h1, hs⟩ := h.open
  obtain ⟨a2, c2, rfl⟩ := hv.slice
  unfold B109
  obtain ⟨a', n', c', w1, hr, hk1, hc⟩ := own1 (w := w.drew) hv (by omega)
  refine ⟨some ⟨p, 0, none⟩, cl (w := w) hq2 rfl, some ⟨p, 0, none⟩, cl (w := w) hq2 rfl, ?_⟩
  simp only [nn_some, addk, Nat.reduceAdd, Nat.zero_add]
  refine ⟨_, _, _, cl (w := w) hq1 rfl, _, _, _, cl (w := w) hq1 rfl, _, _, _, _, hr, ⟨⟨hk1.cellD (w := w.drew) hq1 nf, trivial⟩, ⟨hk1.cellD (w := w.drew) hq2 nf, trivial⟩, ⟨hk1.cellD (w := w.drew) hq2 nf, trivial⟩, trivial⟩, ?_⟩
  refine hc.mono fun e w' hp => ?_
  cases e with
  | returned r =>
    obtain ⟨hk2, hk3, a3, n3, c3, rfl, ho⟩ := hp
    have h1' := hk2.at (w := w.drew) h1 nf
    have hq1' := hk1.at (w := w.drew) hq1 nf
    have hq2' := hk1.at (w := w.drew) hq2 nf
    have hq1'' := hk3.at hq1' nf
    have hq2'' := hk3.at hq2' nf
    refine ⟨_, _, _, rfl, ⟨⟨hk3.cellD hq1' nf, trivial⟩, ⟨hk3.cellD hq2' nf, trivial⟩, ⟨hk3.cellD hq2' nf, trivial⟩, trivial⟩, st_i h1' (by simp) fun w2 hk4 h2 => ⟨⟨⟨hk4.cellD hq1'' hne, trivial⟩, ⟨hk4.cellD hq2'' hne2, trivial⟩, trivial⟩, ?_⟩⟩
    refine st_i h2 (by simp) fun w5 hk5 h5 => ⟨trivial, ?_, _, h5, ?_⟩
    · exact (Kp.drew no w).then (hk2.then (hk4.trans hk5 (fun _ _ h => h)))
    · exact own_keep (own_keep (own_base ho (Nat.zero_le _) : OwnB w' 0 _ _) hk4 (.one h1' (by decide))) hk5 (.one h2 (by decide))
  | _ => exact hp
theorem K71 {p : Nat} {w : World} {D : Dk} {a : Option Addr} {n c : Nat} {l : List UInt8} (h : DkAt 72 w p D) (hD : D.ok) (hv : Bs w (.slice a n c) l) (hl : l.length ≤ 1099511627776) :
    Calls Cz.P 71 #[.pointer (some ⟨p, 0, none⟩), .slice a n c] w (CP (fun r w' => Kp (fun k => k = p) w w' ∧ r = .int .i64 (D.swap l).1 ∧ DkAt 72 w' p (D.swap l).2) (fun _ _ => False)) := by
  refine C71 ?_
  obtain ⟨a1, c1, h1, hs⟩ := h.open
  have hn : n = l.length := by obtain ⟨_, _, hx⟩ := hv.slice; cases hx; rfl
  subst hn
  unfold B71
  refine nw_i fun b1 w1 e1 hk1 g1 => nw_i fun b2 w2 e2 hk2 g2 => ?_
  have g1' := hk2.at g1 nf
  have kd : Kp no w w2 := hk1.then hk2
  have hd2 : DkAt 72 w2 p D := h.keep kd nf .no
  have hv2 : Bs w2 (.slice a l.length c) l := hv.keep kd (fun _ _ _ _ => nf)
  refine ⟨some ⟨p, 0, none⟩, cl g1' rfl, _, _, _, cl g2 rfl, ?_⟩
  have hp : p < w.heap.size := lt_of_get h1
  refine K33 hd2 hD (fun hi => ?_) (fun hi hg w3 hk3 hd3 => ?_) (fun hi hg w3 hk3 hd3 => ?_)
  · refine ⟨_, rfl, kd.mono (fun _ _ h => h.elim), ?_, ?_⟩ <;> simp [Dk.swap, Dk.change, hi]
    exact hd2
  · refine ⟨_, rfl, kd.then hk3, ?_, ?_⟩ <;> simp only [Dk.swap, Dk.change, hi, if_false, if_pos hg]
    exact hd3
  · have hlt := hk1.size
    have hlt2 := lt_of_get g1
    have hv3 : Bs w3 (.slice a l.length c) l := hv2.keepU hk3 hd2.noU
    refine vCall_func (by rfl) ((K109 (q1 := b2) (q2 := b1) (v := .slice a l.length c) (l := l) hd3 (by have := hD.r2; omega) (hk3.at g1' (by omega)) (hk3.at g2 (by omega)) hv3 (by omega) (by omega)).mono ?_)
    intro e w4 hp
    cases e with
    | returned r =>
      obtain ⟨rfl, hk4, hd4⟩ := hp
      refine ⟨rfl, _, rfl, (kd.then hk3).trans hk4 (fun _ _ h => h), ?_, ?_⟩ <;> simp only [Dk.swap, Dk.change, hi, if_false, if_neg (show ¬ ((l.length : Int) > D.room) from by omega)]
      exact hd4
    | _ => exact hp

theorem K19 {p : Nat} {w : World} {D : Dk} (h : DkAt 72 w p D) (hD : D.ok) :
    Calls Cz.P 19 #[.pointer (some ⟨p, 0, none⟩)] w (CP (fun r w' => Kp no w w' ∧ ∃ a n c, r = .slice a n c ∧ OwnB w' w.heap.size r D.b) (fun _ _ => False)) := by
  refine C19 ?_
  obtain ⟨a, c, h1, hs⟩ := h.open
  have hb := bl_bound hD
  unfold B19
  simp only [nn_some, addk, Nat.reduceAdd, Nat.zero_add]
  obtain ⟨a', n', c', w1, hr, hk1, hc⟩ := own1 (w := w) hs.bs (by omega)
  refine ⟨_, _, _, cl h1 rfl, _, _, _, _, hr, hc.mono fun e w' hp => ?_⟩
  cases e with
  | returned r =>
    obtain ⟨hk2, hk3, a3, n3, c3, rfl, ho⟩ := hp
    exact ⟨_, _, _, rfl, hk2, _, _, _, rfl, ho⟩
  | _ => exact hp

theorem kept_eq {D : Dk} (hD : D.ok) (k : Int) : (D.kept k : Int) = D.last + (if (D.b.length : Int) - D.last < (if (0 : Int) > k then (0 : Int) else k) then (D.b.length : Int) - D.last else (if (0 : Int) > k then (0 : Int) else k)) := by
  obtain ⟨h1, h2, h3, h4, h5, h6, h7⟩ := hD
  unfold Dk.kept
  rw [Int.toNat_of_nonneg]
  split <;> split at * <;> omega
theorem kept_wrap {D : Dk} (hD : D.ok) (k : Int) : IntKind.i64.wrap (D.last + (if IntKind.i64.wrap ((D.b.length : Int) - D.last) < (if (0 : Int) > k then (0 : Int) else k) then IntKind.i64.wrap ((D.b.length : Int) - D.last) else (if (0 : Int) > k then (0 : Int) else k))) = (D.kept k : Int) := by
  have hk := Dk.kept_le hD k
  have he := kept_eq hD k
  have hb := bl_bound hD
  rw [wrap64 (x := (D.b.length : Int) - D.last) (by have := hD.l2; omega) (by have := hD.l1; omega), ← he, wrap64 (by omega) (by omega)]
theorem K20 {p : Nat} {k : Int} {w : World} {D : Dk} (h : DkAt 72 w p D) (hD : D.ok) :
    Calls Cz.P 20 #[.pointer (some ⟨p, 0, none⟩), .int .i64 k] w (CP (fun r w' => Kp (fun k => k = p) w w' ∧ r = .tuple #[] ∧ DkAt 72 w' p (D.crash k)) (fun _ _ => False)) := by
  refine C20 ?_
  obtain ⟨a, c, h1, hs⟩ := h.open
  have hb := bl_bound hD
  have hk := Dk.kept_le hD k
  have hcap := hs.bs.cap
  have hkd : Kp no w w.drew.drew := (Kp.drew no w).then (.drew no _)
  have hbs : Bs w.drew.drew (.slice a D.b.length c) D.b := hs.bs.keep hkd (fun _ _ _ _ => nf)
  unfold B20
  simp only [nn_some, addk, Nat.reduceAdd, Nat.zero_add]
  refine ⟨_, _, _, cl (w := w) h1 rfl, _, cl (w := w) h1 rfl, _, _, _, cl (w := w) h1 rfl, _, cl (w := w) h1 rfl, ?_⟩
  rw [kept_wrap hD]
  refine need_and (dec (by omega)) (dec (by omega)) (need_and rfl (dec (by omega)) ?_)
  rw [Int.toNat_natCast]
  have hcut := hbs.cut (lo := 0) (hi := D.kept k) (Nat.zero_le _) hk.1
  rw [List.drop_zero, Nat.sub_zero, Nat.sub_zero] at hcut
  obtain ⟨a', n', c', w1, hr, hk1, hc⟩ := own1 (w := w.drew.drew) hcut (by simp; omega)
  rw [Nat.sub_zero, Nat.sub_zero]
  refine ⟨_, _, _, _, hr, trivial, hc.mono fun e w' hp => ?_⟩
  cases e with
  | returned r =>
    obtain ⟨hk2, hk3, a3, n3, c3, rfl, ho⟩ := hp
    have h1' := hk2.at (w := w.drew.drew) h1 nf
    have hn3 : n3 = D.kept k := by
      obtain ⟨_, _, hx⟩ := own_slice ho
      cases hx; simp; omega
    subst hn3
    refine ⟨_, _, _, rfl, trivial, st_i h1' (by simp) fun w2 hk4 h2 => ⟨_, _, _, cl h2 rfl, st_i h2 (by simp) fun w5 hk5 h5 => st_i h5 (by simp) fun w6 hk6 h6 => ⟨?_, trivial, _, h6, ?_⟩⟩⟩
    · exact hkd.then (hk2.then ((hk4.trans hk5 (fun _ _ h => h)).trans hk6 (fun _ _ h => h)))
    · exact own_keep (own_keep (own_keep (own_base ho (Nat.zero_le _) : OwnB w' 0 _ _) hk4 (.one h1' (by decide))) hk5 (.one h2 (by decide))) hk6 (.one h5 (by decide))
  | _ => exact hp
end Go.Lf
end
