/- Part 6 of the lemmas that a proof leans on; no claim is made here. By an AI agent. -/
import Derived.Test.YtofhodpdfbnkiaaGreatLfD05
import Derived.Laws.OwnMore
import Derived.Laws.CopyOwn
import Derived.Laws.IdiomCopy
section
set_option linter.unusedVariables false
set_option linter.unusedSimpArgs false
/-! The heap: what is where, what stays, slices that are read, slices of one's own. -/
namespace Go.Lf
open Go

theorem get_alloc_new (w : World) (o : Obj) : (w.alloc o).heap[w.heap.size]? = some o := by unfold World.alloc; simp
theorem get_alloc_ne {w : World} {o : Obj} {b : Nat} (h : b ≠ w.heap.size) : (w.alloc o).heap[b]? = w.heap[b]? := by
  simp only [World.alloc, Array.getElem?_push]; simp [h]
theorem get_alloc_lt {w : World} {o : Obj} {b : Nat} (h : b < w.heap.size) : (w.alloc o).heap[b]? = w.heap[b]? := get_alloc_ne (Nat.ne_of_lt h)
theorem get_set_same {w : World} {b i : Nat} {v : Value} {c : Array Value} {e : TypeId} {f : Nat × Nat} (h : w.heap[b]? = some (.cells c e f)) :
    (w.setCell ⟨b, i, none⟩ v).heap[b]? = some (.cells (c.setIfInBounds i v) e f) := by
  simp [World.setCell, Array.getElem?_modify, h]
theorem get_set_ne {w : World} {b : Nat} {a : Addr} {v : Value} (h : b ≠ a.block) : (w.setCell a v).heap[b]? = w.heap[b]? := by
  simp [World.setCell, Array.getElem?_modify, Ne.symm h]
theorem cell_of {w : World} {b i : Nat} {c : Array Value} {e : TypeId} {f : Nat × Nat} (h : w.heap[b]? = some (.cells c e f)) : w.cell? ⟨b, i, none⟩ = c[i]? := by
  simp [World.cell?, h]
theorem frozen_of {w : World} {b i : Nat} {c : Array Value} {e : TypeId} (h : w.heap[b]? = some (.cells c e (0, 0))) : w.frozen? ⟨b, i, none⟩ = false := by
  simp [World.frozen?, h]
theorem lt_of_get {w : World} {b : Nat} {o : Obj} (h : w.heap[b]? = some o) : b < w.heap.size := (Array.getElem?_eq_some_iff.1 h).1

/-- All blocks that were there and are not in S are as they were. -/
structure Kp (S : Nat → Prop) (w w' : World) : Prop where
  os : w'.os = w.os
  tape : w'.tape = w.tape
  output : w'.output = w.output
  size : w.heap.size ≤ w'.heap.size
  get : ∀ k, k < w.heap.size → ¬ S k → w'.heap[k]? = w.heap[k]?
abbrev no : Nat → Prop := fun _ => False
theorem Kp.refl (S : Nat → Prop) (w : World) : Kp S w w := ⟨rfl, rfl, rfl, Nat.le_refl _, fun _ _ _ => rfl⟩
theorem Kp.trans {S S' : Nat → Prop} {w w' w'' : World} (h : Kp S w w') (h' : Kp S' w' w'') (hs : ∀ k, k < w.heap.size → S' k → S k) : Kp S w w'' :=
  ⟨h'.os.trans h.os, h'.tape.trans h.tape, h'.output.trans h.output, Nat.le_trans h.size h'.size, fun k hk hn =>
    (h'.get k (Nat.lt_of_lt_of_le hk h.size) fun hc => hn (hs k hk hc)).trans (h.get k hk hn)⟩
theorem Kp.mono {S S' : Nat → Prop} {w w' : World} (h : Kp S w w') (hs : ∀ k, k < w.heap.size → S k → S' k) : Kp S' w w' :=
  ⟨h.os, h.tape, h.output, h.size, fun k hk hn => h.get k hk fun hc => hn (hs k hk hc)⟩
theorem Kp.at {S : Nat → Prop} {w w' : World} (h : Kp S w w') {b : Nat} {o : Obj} (hb : w.heap[b]? = some o) (hn : ¬ S b) : w'.heap[b]? = some o :=
  (h.get b (lt_of_get hb) hn).trans hb
theorem Kp.lt {S : Nat → Prop} {w w' : World} (h : Kp S w w') {b : Nat} (hb : b < w.heap.size) : b < w'.heap.size := Nat.lt_of_lt_of_le hb h.size
theorem Kp.alloc (S : Nat → Prop) (w : World) (o : Obj) : Kp S w (w.alloc o) := ⟨rfl, rfl, rfl, by simp, fun k hk _ => get_alloc_lt hk⟩
theorem Kp.set (w : World) (a : Addr) (v : Value) : Kp (fun k => k = a.block) w (w.setCell a v) := ⟨rfl, rfl, rfl, by simp, fun k hk hn => get_set_ne hn⟩
theorem Kp.set' (w : World) (b i : Nat) (v : Value) : Kp (fun k => k = b) w (w.setCell ⟨b, i, none⟩ v) := Kp.set w ⟨b, i, none⟩ v
theorem Kp.drew (S : Nat → Prop) (w : World) : Kp S w w.drew := ⟨rfl, rfl, rfl, Nat.le_refl _, fun _ _ _ => rfl⟩
theorem Kp.grown {w w' : World} {row : Option Nat} (h : w.grownBy w' row) : Kp (fun k => row = .some k) w w' :=
  ⟨h.os, h.tape, h.output, h.size, fun k hk hn => h.block k hk fun e => hn e.symm⟩
theorem Kp.cell {S : Nat → Prop} {w w' : World} (h : Kp S w w') {a : Addr} {v : Value} (hc : w.cell? a = some v) (hn : ¬ S a.block) : w'.cell? a = some v :=
  (World.cell?_of_block (h.get a.block (World.block_lt_of_cell? w a hc) hn)).trans hc

theorem st_of {w : World} {b i : Nat} {v : Value} {K : World → Prop} {c : Array Value} {e : TypeId} (h : w.heap[b]? = some (.cells c e (0, 0))) (hi : i < c.size)
    (k : K (w.setCell ⟨b, i, none⟩ v)) : st w ⟨b, i, none⟩ v K :=
  ⟨⟨⟨c[i], by rw [cell_of h]; simp [hi]⟩, frozen_of h⟩, k⟩

/-! ### slices that are read -/
/-- v is a slice of n elements of so many cells, which hold xs. -/
def Sl (w : World) (size : Nat) (v : Value) (n : Nat) (xs : List Value) : Prop :=
  xs.length = n * size ∧ ((v = .slice none 0 0 ∧ n = 0) ∨
    ∃ p c, v = .slice (some p) n c ∧ n ≤ c ∧ c ≤ maxLen ∧ p.spot = none ∧ ∀ j u, xs[j]? = some u → w.cell? (p.add j) = some u)
theorem Sl.keep {w w' : World} {size n : Nat} {v : Value} {xs : List Value} {S : Nat → Prop} (h : Sl w size v n xs) (k : Kp S w w') (hn : ∀ p m c, v = .slice (some p) m c → ¬ S p.block) : Sl w' size v n xs := by
  obtain ⟨hl, h | ⟨p, c, hv, h1, h2, h3, h4⟩⟩ := h
  · exact ⟨hl, .inl h⟩
  · refine ⟨hl, .inr ⟨p, c, hv, h1, h2, h3, fun j u hj => k.cell (h4 j u hj) ?_⟩⟩
    have := hn p n c hv
    simp only [Addr.add]; split <;> exact this
theorem Sl.of_own {w : World} {base : Nat} {e : TypeId} {size n : Nat} {v : Value} {xs : List Value} (h : w.ownsRow base e size v n xs) : Sl w size v n xs := by
  refine ⟨h.1, ?_⟩
  have hc := @World.ownsRow.cells _ _ _ _ _ _ _ h
  obtain ⟨hl, h | ⟨g, cap, cur, hv, hb, hg, h1, h2, h3, h4⟩⟩ := h
  · exact .inl h
  · refine .inr ⟨⟨g, 0, none⟩, cap, hv, h1, h2, rfl, ?_⟩
    exact hc (g := g) (by rw [hv]; rfl)
/-- append, whatever the source -/
theorem app_run {P : Program} {w : World} {base : Nat} {t ty e : TypeId} {i : TypeInfo} {z : Value} {size bytes : Nat} (ht : P.underlying t = some (.slice e)) (hi : P.info? e = some i) (hz : i.zero = some z)
    (hsize : i.size = size) (hby : i.bytes = bytes) (hzs : z.cells.size = size) (hsz : 0 < size)
    {v : Value} {n : Nat} {xs : List Value} (hown : w.ownsRow base e size v n xs) {s : Value} {m : Nat} {news : List Value} (hs : Sl w size s m news) (h1 : ∀ u ∈ news, u.oneCell' = true)
    (h63 : n + m ≤ maxLen) (hbytes : (n + m) * bytes ≤ 140737488355328) (hbase : base ≤ w.heap.size) :
    ∃ a k c w', (Builtin.append_ #[t, t] ty #[v, s]).run P w = .ok (.slice a k c) w' ∧ w'.ownsRow base e size (.slice a k c) (n + m) (xs ++ news) ∧ Kp (fun k => v.ownBlock = some k) w w' := by
  have key : ∃ v' w', (Builtin.append_ #[t, t] ty #[v, s]).run P w = .ok v' w' ∧ w'.ownsRow base e size v' (n + m) (xs ++ news) ∧ Kp (fun k => v.ownBlock = some k) w w' := by
    obtain ⟨hl, ⟨rfl, rfl⟩ | ⟨p, c, rfl, hc, _, hp, hcs⟩⟩ := hs
    · have : news = [] := List.eq_nil_of_length_eq_zero (by simpa using hl)
      subst this
      exact ⟨v, w, run_append_owned_none _ base t ty e i size ht hi v n xs hown, by simpa using hown, .refl _ _⟩
    · obtain ⟨v', w', hr, ho, hg, _⟩ := run_append_own (P := P) w base t ty e i z size bytes ht hi hz hsize hby hzs hsz v n xs hown p m c news hl hcs h1 h63 hbytes hbase
      exact ⟨v', w', hr, ho, .grown hg⟩
  obtain ⟨v', w', hr, ho, hk⟩ := key
  obtain ⟨hl, ⟨rfl, _⟩ | ⟨g, cap, cur, rfl, _⟩⟩ := ho <;> rename_i hx
  · exact ⟨_, _, _, w', hr, ⟨hl, .inl ⟨rfl, by assumption⟩⟩, hk⟩
  · exact ⟨_, _, _, w', hr, ⟨hl, .inr ⟨g, cap, cur, rfl, hx⟩⟩, hk⟩
theorem own_kept {w w' : World} {base : Nat} {e : TypeId} {size n : Nat} {v : Value} {xs : List Value} {S : Nat → Prop} (h : w.ownsRow base e size v n xs) (k : Kp S w w') (hn : ∀ b, v.ownBlock = some b → ¬ S b) : w'.ownsRow base e size v n xs := by
  obtain ⟨hl, h | ⟨g, cap, cur, hv, hb, hg, hr⟩⟩ := h
  · exact ⟨hl, .inl h⟩
  · exact ⟨hl, .inr ⟨g, cap, cur, hv, hb, k.at hg (hn g (by rw [hv]; rfl)), hr⟩⟩
theorem own_base {w : World} {base base' : Nat} {e : TypeId} {size n : Nat} {v : Value} {xs : List Value} (h : w.ownsRow base e size v n xs) (hb : base' ≤ base) : w.ownsRow base' e size v n xs := by
  obtain ⟨hl, h | ⟨g, cap, cur, hv, hb', hr⟩⟩ := h
  · exact ⟨hl, .inl h⟩
  · exact ⟨hl, .inr ⟨g, cap, cur, hv, by omega, hr⟩⟩

/-! ### bytes -/
def bv (x : UInt8) : Value := .int .u8 (x.toNat : Int)
def bvs (l : List UInt8) : List Value := l.map bv
theorem bvs_one (l : List UInt8) : ∀ v ∈ bvs l, v.oneCell' = true := by
  intro v hv; obtain ⟨x, _, rfl⟩ := List.mem_map.1 hv; rfl
@[simp] theorem bvs_length (l : List UInt8) : (bvs l).length = l.length := by simp [bvs]
@[simp] theorem bvs_append (a b : List UInt8) : bvs (a ++ b) = bvs a ++ bvs b := by simp [bvs]
/-- v is a slice that holds these bytes -/
def Bs (w : World) (v : Value) (l : List UInt8) : Prop := Sl w 1 v l.length (bvs l)
end Go.Lf
namespace Go.Lf
open Go
theorem ifB_split {b : Bool} {A B : Prop} (h : b = true → A) (h' : b = false → B) : ifB b A B := ifB_iff.2 ⟨h, h'⟩
theorem ifB_dec {p : Prop} [Decidable p] {A B : Prop} (h : p → A) (h' : ¬ p → B) : ifB (decide p) A B :=
  ifB_iff.2 ⟨fun e => h (of_decide_eq_true e), fun e => h' (of_decide_eq_false e)⟩
theorem dec {p : Prop} [Decidable p] (h : p) : decide p = true := decide_eq_true h
theorem need_dec {p : Prop} [Decidable p] {A : Prop} (h : p) (h' : A) : need (decide p) A := need_iff.2 ⟨decide_eq_true h, h'⟩
theorem need_and {a b : Bool} {A : Prop} (h : a = true) (h1 : b = true) (h' : A) : need (a && b) A := need_iff.2 ⟨by rw [h, h1]; rfl, h'⟩
/-- the element type of a slice type -/
structure ElemT (P : Program) (t e : TypeId) (size bytes : Nat) : Prop where
  ht : P.underlying t = some (.slice e)
  hi : (P.info? e).map (fun i => (i.zero.map (·.cells.size), i.size, i.bytes)) = some (some size, size, bytes)
theorem ElemT.get {P : Program} {t e : TypeId} {size bytes : Nat} (h : ElemT P t e size bytes) : ∃ i z, P.info? e = some i ∧ i.zero = some z ∧ i.size = size ∧ i.bytes = bytes ∧ z.cells.size = size := by
  obtain ⟨i, hi, hx⟩ := Option.map_eq_some_iff.1 h.hi
  simp only [Prod.mk.injEq] at hx
  obtain ⟨z, hz, hx1⟩ := Option.map_eq_some_iff.1 hx.1
  exact ⟨i, z, hi, hz, hx.2.1, hx.2.2, hx1⟩
theorem ElemT.app {P : Program} {t e ty : TypeId} {size bytes : Nat} (T : ElemT P t e size bytes) (hsz : 0 < size) {w : World} {base : Nat}
    {v : Value} {n : Nat} {xs : List Value} (hown : w.ownsRow base e size v n xs) {s : Value} {m : Nat} {news : List Value} (hs : Sl w size s m news) (h1 : ∀ u ∈ news, u.oneCell' = true)
    (h63 : n + m ≤ maxLen) (hbytes : (n + m) * bytes ≤ 140737488355328) (hbase : base ≤ w.heap.size) :
    ∃ a k c w', (Builtin.append_ #[t, t] ty #[v, s]).run P w = .ok (.slice a k c) w' ∧ w'.ownsRow base e size (.slice a k c) (n + m) (xs ++ news) ∧ Kp (fun k => v.ownBlock = some k) w w' := by
  obtain ⟨i, z, hi, hz, h2, h3, h4⟩ := T.get
  exact app_run T.ht hi hz h2 h3 h4 hsz hown hs h1 h63 hbytes hbase
theorem ElemT.made {P : Program} {t e : TypeId} {size bytes : Nat} (T : ElemT P t e size bytes) {z : Value} (hz : P.info? e |>.map (·.zero) |> (· = some (some z))) (kl kc : IntKind) (n : Nat) (hbytes : bytes * n ≤ 281474976710656) (h63 : n ≤ 9223372036854775807) (w : World) :
    (Instr.makeSlice t (.int kl (n : Int)) (.int kc (n : Int))).run P w = .ok (.slice (some ⟨w.heap.size, 0, none⟩) n n) (w.alloc (.cells (madeCells z.cells (n * size)) e)) := by
  obtain ⟨i, z', hi, hz', h2, h3, h4⟩ := T.get
  rw [hi] at hz
  have : some z' = some z := by rw [← hz']; simpa using hz
  cases this
  have hr := run_make (P := P) w t e i z T.ht hi hz' kl kc n n (by omega) (Int.le_refl _) (by
    have h : ((i.bytes * n : Nat) : Int) ≤ 281474976710656 := by rw [h3]; omega
    rwa [Int.natCast_mul] at h) (by omega)
  simpa [h2] using hr
theorem fill_ones : ∀ (vs : List Value) (k : Nat) (cells : Array Value), (∀ v ∈ vs, v.cells = #[v]) → k + vs.length = cells.size →
    Instr.fill (fun i => some (i * 1, 1)) cells ((List.range' k vs.length).zip vs) = some (cells.toList.take k ++ vs).toArray
  | [], k, cells, _, hk => by
    simp only [List.length_nil, List.range'_zero, List.zip_nil_right, Instr.fill, List.append_nil]
    rw [List.take_of_length_le (by simp at hk ⊢; omega)]
  | v :: vs, k, cells, h, hk => by
    have hv := h v (.head _)
    simp only [List.length_cons] at hk
    simp only [List.length_cons, List.range'_succ, List.zip_cons_cons, Instr.fill, hv]
    rw [if_neg (by simp; omega)]
    have e1 : (#[v] : Array Value).zipIdx.foldl (fun cs x => cs.setIfInBounds (k * 1 + x.2) x.1) cells = cells.setIfInBounds k v := by simp
    rw [e1, fill_ones vs (k + 1) _ (fun u hu => h u (.tail _ hu)) (by simp; omega)]
    congr 1
    apply congrArg List.toArray
    simp only [Array.toList_setIfInBounds]
    have hk' : k < cells.toList.length := by simp; omega
    rw [List.take_add_one]
    have e2 : (cells.toList.set k v).take k = cells.toList.take k := by rw [List.take_set_of_le (Nat.le_refl _)]
    rw [e2, List.getElem?_set_self hk']
    simp
theorem cells_of_one {v : Value} (h : v.oneCell' = true) : v.cells = #[v] := by cases v <;> first | rfl | cases h
theorem ElemT.built {P : Program} {t e : TypeId} {bytes : Nat} (T : ElemT P t e 1 bytes) (vs : List Value) (h1 : ∀ v ∈ vs, v.oneCell' = true) (hl : vs.length ≤ 16777216) (w : World) :
    (Instr.buildSlice t vs.length ((List.range' 0 vs.length).zip vs).toArray).run P w = .ok (.slice (some ⟨w.heap.size, 0, none⟩) vs.length vs.length) (w.alloc (.cells vs.toArray e)) := by
  obtain ⟨i, z, hi, hz, h2, h3, h4⟩ := T.get
  have hf : ∀ cells : Array Value, cells.size = vs.length → Instr.fill (fun i => some (i * 1, 1)) cells ((List.range' 0 vs.length).zip vs) = some vs.toArray := by
    intro cells hc
    have := fill_ones vs 0 cells (fun v hv => cells_of_one (h1 v hv)) (by omega)
    simpa using this
  have hn : ¬ (vs.length * 1 > 2 ^ 24) := by simp; omega
  unfold Instr.buildSlice
  simp only [Sem.run_bind, run_underlying T.ht, Result.andThen_ok, sizeOf, typeInfo, run_program, hi, h2, Sem.run_pure, hn, if_false]
  by_cases h0 : vs.length * 1 = 0
  · rw [if_pos h0]
    simp only [Sem.run_bind, Sem.run_pure, Result.andThen_ok]
    rw [hf _ (by simp)]
    simp [newRow]
  · rw [if_neg h0]
    simp only [Sem.run_bind, Sem.run_pure, Result.andThen_ok, zeroValue, typeInfo, run_program, hi, hz]
    rw [hf _ (by simp)]
    simp [newRow]

/-- copy into a row of one's own, the whole source -/
theorem ElemT.copy {P : Program} {t e ty : TypeId} {bytes : Nat} (T : ElemT P t e 1 bytes) {w : World} {g off n c : Nat} {cur : List Value} (hg : w.heap[g]? = some (.cells cur.toArray e (0, 0)))
    {s : Value} {m : Nat} {xs : List Value} (hs : Sl w 1 s m xs) (h1 : ∀ u ∈ xs, u.oneCell' = true) (hm : off + m ≤ n) (hn : n ≤ cur.length) (hc : n ≤ c) :
    ∃ w', (Builtin.copy_ #[t, t] ty #[.slice (slA (some ⟨g, 0, none⟩) off c 1) (n - off) (c - off), s]).run P w = .ok (.int .i64 (m : Int)) w' ∧
      w'.heap[g]? = some (.cells (splice cur off xs).toArray e (0, 0)) ∧ Kp (fun k => k = g) w w' := by
  obtain ⟨i, z, hi, hz, h2, h3, h4⟩ := T.get
  have hsz : (P.info? e).map (·.size) = some 1 := by rw [hi]; simp [h2]
  obtain ⟨hl, hs⟩ := hs
  by_cases h0 : m = 0
  · subst h0
    have hx : xs = [] := List.eq_nil_of_length_eq_zero (by simpa using hl)
    subst hx
    refine ⟨w, ?_, by simpa [splice] using hg, .refl _ _⟩
    rcases hs with ⟨rfl, _⟩ | ⟨p, c', rfl, _⟩ <;> exact run_copy_none (P := P) w t t ty e _ _ _ _ _ _ T.ht hsz (by simp)
  · rcases hs with ⟨_, h⟩ | ⟨p, c', rfl, h5, h6, h7, h8⟩
    · exact (h0 h).elim
    · have e1 : slA (some ⟨g, 0, none⟩) off c 1 = some ⟨g, off, none⟩ := by
        unfold slA
        rw [if_neg (by omega)]
        simp [Addr.add]
        intro h; subst h; rfl
      rw [e1]
      have hmin : xs.length = Nat.min m (n - off) := by rw [hl]; simp only [Nat.mul_one]; exact (Nat.min_eq_left (by omega)).symm
      have hr := run_copy_row (P := P) w t t ty e g off (n - off) (c - off) p m c' cur.toArray e xs T.ht hsz hg hmin h8 (by simp; omega) h1
      refine ⟨_, hr.trans (by rw [hl, Nat.mul_one]; rfl), ?_, ?_⟩
      · rw [setRow_heap w g _ _ e _ hg]; simp only [splice, List.append_assoc, hl, Nat.mul_one]
      · exact ⟨rfl, rfl, rfl, by simp [World.setRow], fun k _ hk => setRow_other w g k _ hk⟩
theorem splice_app {α : Type} (A X : List α) (r : Nat) (z : α) {k : Nat} (hk : k = A.length) : splice (A ++ List.replicate r z) k X = A ++ X ++ List.replicate (r - X.length) z := by
  subst hk
  unfold splice
  rw [List.take_left' rfl, List.append_assoc]
  congr 2
  rw [List.drop_append, List.drop_eq_nil_of_le (by omega), List.nil_append, List.drop_replicate]
  congr 1
  omega
theorem row_congr {xs ys : List Value} {e : TypeId} {f : Nat × Nat} (h : xs = ys) : some (Obj.cells xs.toArray e f) = some (Obj.cells ys.toArray e f) := by rw [h]
theorem addk {b o n : Nat} : Addr.add ⟨b, o, none⟩ n = ⟨b, o + n, none⟩ := by unfold Addr.add; split <;> simp_all
theorem vCall_func {C : Cx} {g : Nat} {cap : Array Value} {w : World} {R : Ending → World → Prop} (hg : C.has g = true) (h : Calls C.P g cap w R) : vCall C (.func (.func g) #[] cap) [] w R := by
  unfold vCall
  exact need_iff.2 ⟨hg, by simpa using h⟩
theorem wrap64 {x : Int} (h : -9223372036854775808 ≤ x) (h' : x < 9223372036854775808) : IntKind.i64.wrap x = x := by rw [IntKind.wrap_i64]; omega
/-- only the cells of these blocks are written: no row of bytes is among them -/
def NoT (e : TypeId) (S : Nat → Prop) (w : World) : Prop := ∀ b cs f, S b → w.heap[b]? ≠ some (.cells cs e f)
theorem NoT.no {e : TypeId} {w : World} : NoT e Lf.no w := fun _ _ _ h => h.elim
theorem NoT.one {e T : TypeId} {w : World} {p : Nat} {cs : Array Value} {f : Nat × Nat} (h : w.heap[p]? = some (.cells cs T f)) (hne : T ≠ e) : NoT e (fun k => k = p) w := by
  intro b cs' f' hb hc
  subst hb
  rw [h] at hc
  cases hc
  exact hne rfl
theorem own_keep {w w' : World} {base : Nat} {e : TypeId} {size n : Nat} {v : Value} {xs : List Value} {S : Nat → Prop} (h : w.ownsRow base e size v n xs) (k : Kp S w w') (hn : NoT e S w) : w'.ownsRow base e size v n xs := by
  obtain ⟨hl, h | ⟨g, cap, cur, hv, hb, hg, hr⟩⟩ := h
  · exact ⟨hl, .inl h⟩
  · exact ⟨hl, .inr ⟨g, cap, cur, hv, hb, k.at hg (fun hs => hn g _ _ hs hg), hr⟩⟩
theorem own_slice {w : World} {base : Nat} {e : TypeId} {size n : Nat} {v : Value} {xs : List Value} (h : w.ownsRow base e size v n xs) : ∃ a c, v = .slice a n c := by
  obtain ⟨_, ⟨rfl, hn⟩ | ⟨g, cap, cur, rfl, _⟩⟩ := h
  · exact ⟨none, 0, by rw [hn]⟩
  · exact ⟨_, _, rfl⟩
theorem nw_i {w : World} {o : Obj} {K : Nat → World → Prop} (k : ∀ b w', b = w.heap.size → Kp no w w' → w'.heap[b]? = some o → K b w') : nw w o K := k _ _ rfl (.alloc _ _ _) (get_alloc_new _ _)
theorem st_i {w : World} {b i : Nat} {v : Value} {K : World → Prop} {c : Array Value} {e : TypeId} (h : w.heap[b]? = some (.cells c e (0, 0))) (hi : i < c.size)
    (k : ∀ w', Kp (fun k => k = b) w w' → w'.heap[b]? = some (.cells (c.setIfInBounds i v) e (0, 0)) → K w') : st w ⟨b, i, none⟩ v K := st_of h hi (k _ (.set' _ _ _ _) (get_set_same h))
theorem Kp.cellD {S : Nat → Prop} {w w' : World} (h : Kp S w w') {b i : Nat} {o : Obj} (hb : w.heap[b]? = some o) (hn : ¬ S b) : w'.cell? ⟨b, i, none⟩ = w.cell? ⟨b, i, none⟩ :=
  World.cell?_of_block ((h.get b (lt_of_get hb) hn))
/-- the cell of a block -/
theorem cl {w : World} {b i : Nat} {c : Array Value} {e : TypeId} {f : Nat × Nat} {v : Value} (h : w.heap[b]? = some (.cells c e f)) (hv : c[i]? = some v) : w.cell? ⟨b, i, none⟩ = some v := (cell_of h).trans hv
theorem Kp.then {S : Nat → Prop} {w w' w'' : World} (h : Kp no w w') (h' : Kp S w' w'') : Kp S w w'' := (h.mono (fun _ _ h => h.elim)).trans h' (fun _ _ h => h)
/-- no byte lies in these blocks -/
def NoU (S : Nat → Prop) (w : World) : Prop := ∀ b cs e f, S b → w.heap[b]? = some (.cells cs e f) → ∀ v ∈ cs.toList, ∀ x, v ≠ .int .u8 x
theorem NoU.one {w : World} {p : Nat} {cs : Array Value} {e : TypeId} {f : Nat × Nat} (h : w.heap[p]? = some (.cells cs e f)) (hv : ∀ v ∈ cs.toList, ∀ x, v ≠ .int .u8 x) : NoU (fun k => k = p) w := by
  intro b cs' e' f' hb hc
  subst hb
  rw [h] at hc
  cases hc
  exact hv
theorem Bs.keepU {w w' : World} {v : Value} {l : List UInt8} {S : Nat → Prop} (h : Bs w v l) (k : Kp S w w') (hn : NoU S w) : Bs w' v l := by
  obtain ⟨hl, h | ⟨p, c, hv, h1, h2, h3, h4⟩⟩ := h
  · exact ⟨hl, .inl h⟩
  · refine ⟨hl, .inr ⟨p, c, hv, h1, h2, h3, fun j u hj => k.cell (h4 j u hj) ?_⟩⟩
    intro hs
    have hc := h4 j u hj
    unfold World.cell? at hc
    split at hc
    · rename_i cs e f hb
      split at hc
      · cases hc
      · unfold bvs at hj
        rw [List.getElem?_map] at hj
        obtain ⟨x, _, hx⟩ := Option.map_eq_some_iff.1 hj
        exact hn _ cs e f hs hb u (Array.mem_toList_iff.2 (Array.mem_of_getElem? hc)) _ hx.symm
    · cases hc
theorem Bs.cap {w : World} {a : Option Addr} {n c : Nat} {l : List UInt8} (h : Bs w (.slice a n c) l) : n = l.length ∧ n ≤ c := by
  obtain ⟨_, ⟨hx, hn⟩ | ⟨p, c', hx, h1, _⟩⟩ := h
  · cases hx; omega
  · cases hx; omega
theorem Bs.cut {w : World} {a : Option Addr} {n c lo hi : Nat} {l : List UInt8} (h : Bs w (.slice a n c) l) (h1 : lo ≤ hi) (h2 : hi ≤ l.length) :
    Bs w (.slice (slA a lo c 1) (hi - lo) (c - lo)) ((l.drop lo).take (hi - lo)) := by
  have hlen : ((l.drop lo).take (hi - lo)).length = hi - lo := by simp; omega
  obtain ⟨hl, ⟨hx, hn⟩ | ⟨p, c', hx, h3, h4, h5, h6⟩⟩ := h
  · cases hx
    have e1 : hi = 0 := by omega
    have e2 : lo = 0 := by omega
    subst e1; subst e2
    exact ⟨by simp, .inl ⟨by simp [slA], by simp⟩⟩
  · cases hx
    unfold Bs
    rw [hlen]
    refine ⟨by simp; omega, .inr ⟨if c = lo then p else p.add (lo * 1), c - lo, ?_, by omega, by omega, ?_, ?_⟩⟩
    · unfold slA; split <;> simp
    · split
      · exact h5
      · unfold Addr.add; split <;> simp [h5]
    · intro j u hj
      obtain ⟨b, o, sp⟩ := p
      simp only at h5
      subst h5
      have hjl : j < hi - lo := by
        rcases Nat.lt_or_ge j (hi - lo) with h | h
        · exact h
        · rw [List.getElem?_eq_none (by rw [bvs_length, hlen]; exact h)] at hj; cases hj
      have hc : c ≠ lo := by omega
      rw [if_neg hc]
      simp only [addk, Nat.mul_one]
      have := h6 (lo + j) u (by
        unfold bvs at hj ⊢
        rw [List.getElem?_map] at hj ⊢
        rw [List.getElem?_take_of_lt hjl, List.getElem?_drop] at hj
        exact hj)
      rw [addk] at this
      rw [show o + lo + j = o + (lo + j) by omega]
      exact this
theorem vCall_mono {C : Cx} {fv : Value} {args : List Value} {w : World} {R R' : Ending → World → Prop} (h : vCall C fv args w R) (hr : ∀ e w', R e w' → R' e w') : vCall C fv args w R' := by
  unfold vCall at *
  split at h
  · rw [need_iff] at h ⊢
    exact ⟨h.1, h.2.mono hr⟩
  · obtain ⟨r, h1, h2, h3⟩ := h
    exact ⟨r, h1, h2, RoundIn.mono h3 hr⟩
  · exact h.elim
theorem get_put_same {w : World} {l : Nat} {o o' : Obj} (h : w.heap[l]? = some o) : (w.putObj l o').heap[l]? = some o' := by
  have := lt_of_get h
  simp [World.putObj, this]
theorem Kp.put (w : World) (l : Nat) (o : Obj) : Kp (fun k => k = l) w (w.putObj l o) :=
  ⟨rfl, rfl, rfl, by simp [World.putObj], fun k hk hn => by simp [World.putObj, Array.getElem?_setIfInBounds, Ne.symm hn]⟩
theorem NoT.obj {e : TypeId} {w : World} {l : Nat} {o : Obj} (h : w.heap[l]? = some o) (ho : ∀ cs e f, o ≠ .cells cs e f) : NoT e (fun k => k = l) w := by
  intro b cs f hb hc
  subst hb
  rw [h] at hc
  cases hc
  exact ho _ _ _ rfl
theorem LoopAt.put {w : World} {l : Nat} {r : Loop} {s s' : LoopState} {p p' : Option Code} (h : LoopAt w l r s p) : LoopAt (putLoop w l r s' p') l r s' p' := get_put_same h
theorem LoopAt.kp {w : World} {l : Nat} {r : Loop} {s' : LoopState} {p' : Option Code} : Kp (fun k => k = l) w (putLoop w l r s' p') := .put _ _ _
theorem LoopAt.noT {e : TypeId} {w : World} {l : Nat} {r : Loop} {s : LoopState} {p : Option Code} (h : LoopAt w l r s p) : NoT e (fun k => k = l) w := .obj h (by simp)
theorem LoopAt.of {w : World} {l : Nat} {r : Loop} {fr : Fr} {ps : Array Tmp} {a b : Code} {D : Nat} (h : w.heap[l]? = some (.loop r)) (hr : RecIs r fr ps a b D) : LoopAt w l r .ready none := by
  unfold LoopAt
  rw [loop_eta r hr.st hr.pn]
  exact h
theorem LoopAt.keep {S : Nat → Prop} {w w' : World} {l : Nat} {r : Loop} {s : LoopState} {p : Option Code} (h : LoopAt w l r s p) (k : Kp S w w') (hn : ¬ S l) : LoopAt w' l r s p := k.at h hn
end Go.Lf
end

section
set_option linter.unusedVariables false
set_option linter.unusedSimpArgs false
/-! append of a string to bytes of one's own -/
namespace Go.Lf
open Go
theorem run_firstCells_str {P : Program} (w : World) (k : Nat) (s : ByteArray) : (Builtin.firstCells k s.size (.string s)).run P w = .ok (bvs s.data.toList).toArray w := by
  have hx : (s.extract 0 s.size).data = s.data := by
    have : s.extract 0 s.size = s := by simp
    rw [this]
  simp only [Builtin.firstCells, Sem.run_pure, hx]
  congr 1
  apply Array.ext'
  simp [bvs, bv]
theorem run_append_grow_str {P : Program} {w : World} (t u ty e : TypeId) (i : TypeInfo) (z : Value) (ht : P.underlying t = some (.slice e)) (hu : P.underlying u = some .string) (hi : P.info? e = some i) (hz : i.zero = some z)
    (b : Addr) (sLen sCap : Nat) (olds : List Value) (hlo : olds.length = sLen * i.size) (holds : ∀ j v, olds[j]? = some v → w.cell? (b.add j) = some v)
    (s : ByteArray) (hg : sCap < sLen + s.size) (h63 : ((sLen + s.size : Nat) : Int) ≤ 9223372036854775807) (hfit : Builtin.nextslicecap (sLen + s.size) sCap * i.bytes ≤ 281474976710656) :
    (Builtin.append_ #[t, u] ty #[.slice (some b) sLen sCap, .string s]).run P w =
      .ok (.slice (some ⟨w.heap.size, 0, none⟩) (sLen + s.size) (grownCap w (sLen + s.size) sCap e))
        (w.drew.alloc (.cells (olds.toArray ++ (bvs s.data.toList).toArray ++ Builtin.zeroCells z.cells (grownCap w (sLen + s.size) sCap e - (sLen + s.size))) e)) := by
  have hn : ¬ (sLen + s.size ≤ sCap) := by omega
  have h63' : ¬ (9223372036854775807 < ((sLen : Int) + (s.size : Int))) := by omega
  have h48' : ¬ (281474976710656 < Builtin.nextslicecap (sLen + s.size) sCap * i.bytes) := by omega
  have hf := run_firstCells_str (P := P) w.drew i.size s
  have hfo := run_firstCells_some (P := P) w.drew i.size sLen b sLen sCap olds hlo (by simpa using holds)
  simp [Builtin.append_, run_underlying ht, run_underlying hu, sizeOf, typeInfo, zeroValue, hi, hz, Builtin.lenOf, hn, h63', h48', Question.forced, hf, hfo, newRow, grownCap]
  congr 2
  apply Array.ext'
  simp [List.append_assoc]
theorem run_append_room_str {P : Program} {w : World} (t u ty e : TypeId) (i : TypeInfo) (ht : P.underlying t = some (.slice e)) (hu : P.underlying u = some .string) (hi : P.info? e = some i) (h1 : i.size = 1)
    (g sLen sCap : Nat) (cur : Array Value) (hg : w.heap[g]? = some (.cells cur e (0, 0))) (s : ByteArray)
    (hroom : sLen + s.size ≤ sCap) (hfit : sLen + s.size ≤ cur.size) :
    (Builtin.append_ #[t, u] ty #[.slice (some ⟨g, 0, none⟩) sLen sCap, .string s]).run P w =
      .ok (.slice (some ⟨g, 0, none⟩) (sLen + s.size) sCap) (w.setRow g (cur.toList.take sLen ++ bvs s.data.toList ++ cur.toList.drop (sLen + s.size)).toArray) := by
  have hf := run_firstCells_str (P := P) w 1 s
  have hlen : (bvs s.data.toList).length = s.size := by rw [bvs_length, Array.length_toList]; rfl
  have hst := run_storeCells_at P g sLen e (bvs s.data.toList) 0 cur w hg (by rw [hlen]; omega) (bvs_one _)
  simp only [Nat.add_zero, hlen] at hst
  simp [Builtin.append_, run_underlying ht, run_underlying hu, sizeOf, typeInfo, hi, Builtin.lenOf, hroom, hf, h1, Addr.add_lit, hst]
/-- append of a string -/
theorem ElemT.appS {P : Program} {t u e ty : TypeId} {bytes : Nat} (T : ElemT P t e 1 bytes) (hu : P.underlying u = some .string) {w : World} {base : Nat}
    {v : Value} {n : Nat} {xs : List Value} (hown : w.ownsRow base e 1 v n xs) (hv : ∃ g c, v = .slice (some ⟨g, 0, none⟩) n c) {s : ByteArray}
    (h63 : n + s.size ≤ maxLen) (hbytes : (n + s.size) * bytes ≤ 140737488355328) (hbase : base ≤ w.heap.size) :
    ∃ a k c w', (Builtin.append_ #[t, u] ty #[v, .string s]).run P w = .ok (.slice a k c) w' ∧ w'.ownsRow base e 1 (.slice a k c) (n + s.size) (xs ++ bvs s.data.toList) ∧ Kp (fun k => v.ownBlock = some k) w w' := by
  obtain ⟨i, z, hi, hz, h2, h3, h4⟩ := T.get
  have hcells := @World.ownsRow.cells _ _ _ _ _ _ _ hown
  have hlen : (bvs s.data.toList).length = s.size := by rw [bvs_length, Array.length_toList]; rfl
  obtain ⟨g0, c0, rfl⟩ := hv
  obtain ⟨hl, ⟨h, _⟩ | ⟨g, cap, cur, hx, hb, hg, hnc, hcm, hcs, htk⟩⟩ := hown
  · cases h
  · cases hx
    have hm63 : n + s.size ≤ 9223372036854775807 := by simp only [maxLen] at h63; omega
    simp only [Nat.mul_one] at hl hcs htk
    rcases Nat.lt_or_ge c0 (n + s.size) with hgr | hroom
    · have hr := run_append_grow_str (P := P) (w := w) t u ty e i z T.ht hu hi hz ⟨g0, 0, none⟩ n c0 xs (by rw [h2]; omega) (hcells (g := g0) rfl) s hgr (by omega) (by rw [h3]; exact growslice_fits hgr hbytes)
      have hge := grownCap_ge w (n + s.size) c0 e
      refine ⟨_, _, _, _, hr, ⟨by rw [List.length_append, hlen]; omega, .inr ⟨w.heap.size, _, _, rfl, hbase, heap_alloc_new w.drew _, hge, grownCap_le_maxLen w (n + s.size) c0 e h63, ?_, ?_⟩⟩, ?_⟩
      · simp only [Array.size_append, List.size_toArray, size_zeroCells, h4, hlen, hl]
        omega
      · simp only [Array.toList_append, List.append_assoc, Nat.mul_one]
        rw [← List.append_assoc, show n + s.size = (xs ++ bvs s.data.toList).length by rw [List.length_append, hlen, hl]]
        exact List.take_left
      · exact ⟨rfl, rfl, rfl, by simp, fun k hk _ => heap_alloc_old w.drew _ k hk⟩
    · have hr := run_append_room_str (P := P) (w := w) t u ty e i T.ht hu hi h2 g0 n c0 cur hg s hroom (by omega)
      refine ⟨_, _, _, _, hr, ⟨by rw [List.length_append, hlen]; omega, .inr ⟨g0, c0, _, rfl, hb, setRow_heap w g0 cur _ e _ hg, hroom, hcm, ?_, ?_⟩⟩, ?_⟩
      · simp only [List.size_toArray, List.length_append, List.length_take, List.length_drop, Array.length_toList, hlen]
        omega
      · simp only [Nat.mul_one]
        rw [htk, show n + s.size = (xs ++ bvs s.data.toList).length by rw [List.length_append, hlen, hl]]
        exact List.take_left
      · exact ⟨rfl, rfl, rfl, by simp [World.setRow], fun k _ hk => setRow_other w g0 k _ (fun e => hk (by simp [Value.ownBlock, e]))⟩
end Go.Lf
end
