/- Part 34 of the lemmas that a proof leans on; no claim is made here. By an AI agent. -/
import Derived.Test.YtofhodpdfbnkiaaGreatLfA33
section
set_option linter.unusedVariables false
set_option linter.unusedSimpArgs false
namespace Go.Lf
open Go Go.Proofs Go.ChangeShapes Go.WideShapes Go.ChangeAt Go.RowKit
def SB : SEnc UInt8 := ⟨1, fun x => [bv x], by omega, fun x => rfl, fun x v hv => by rw [List.mem_singleton.1 hv]; rfl⟩
theorem SB_flat (l : List UInt8) : l.flatMap SB.enc = bvs l := by
  induction l with
  | nil => rfl
  | cons x l ih => rw [List.flatMap_cons, ih]; rfl
theorem RdS.bs {w : World} {v : Value} {l : List UInt8} (h : RdS SB w v l) : Bs w v l := by
  unfold RdS at h
  rw [SB_flat] at h
  exact h
section
variable {H : Type} {enc : TypeId × Value → H} {P : Program} {W : World} {sp : Nat → Bool} {hd : Bool} {fuel : Nat} {cs : List Value} {x : DataW H × List MemPlace}
def fo (f : Field) : TypeId × Nat := (f.type, f.offset)
theorem wf_bounds {k : IntKind} {n : Int} (h : (Lit.int k n).wf = true) : k.min ≤ n ∧ n ≤ k.max := by
  unfold Lit.wf at h
  rw [Bool.and_eq_true, decide_eq_true_iff, decide_eq_true_iff] at h
  exact h
theorem dec_u8 {e : TypeId} (he : P.underlying e = some (.int .u8)) (h : DataW.trod enc P W 0 sp hd fuel e cs = some x) : ∃ y : UInt8, True ∧ cs = SB.enc y := by
  obtain ⟨n, rfl, _, hw⟩ := DataW.trod_int he h
  have hb : 0 ≤ n ∧ n ≤ 255 := wf_bounds hw
  refine ⟨UInt8.ofNat n.toNat, trivial, ?_⟩
  show [Value.int .u8 n] = [bv _]
  unfold bv
  congr 2
  simp
  omega
/-- a struct's field that is an integer -/
theorem fld_int {fs : Array Field} {xs : List (DataW H × List MemPlace)} {n : Nat} (hl : xs.length = fs.size)
    (h : ∀ (i : Nat) (f : Field), fs[i]? = some f → DataW.trod enc P W 0 sp hd n f.type ((cs.drop f.offset).take (P.cellsOf f.type)) = xs[i]?) (i : Nat) {t : TypeId} {off : Nat} {k : IntKind}
    (hf : (fs[i]?).map fo = some (t, off)) (ht : P.underlying t = some (.int k)) (hc : P.cellsOf t = 1) : ∃ z, (cs.drop off).take 1 = [.int k z] ∧ k.min ≤ z ∧ z ≤ k.max := by
  obtain ⟨f, hf1, hf2⟩ := Option.map_eq_some_iff.1 hf
  cases hf2
  have h1 := h i f hf1
  have hi : i < xs.length := by rw [hl]; exact (Array.getElem?_eq_some_iff.1 hf1).1
  rw [List.getElem?_eq_getElem hi, hc] at h1
  obtain ⟨z, hz, _, hw⟩ := DataW.trod_int ht h1
  exact ⟨z, hz, wf_bounds hw⟩
theorem fld_str {fs : Array Field} {xs : List (DataW H × List MemPlace)} {n : Nat} (hl : xs.length = fs.size)
    (h : ∀ (i : Nat) (f : Field), fs[i]? = some f → DataW.trod enc P W 0 sp hd n f.type ((cs.drop f.offset).take (P.cellsOf f.type)) = xs[i]?) (i : Nat) {t : TypeId} {off : Nat}
    (hf : (fs[i]?).map fo = some (t, off)) (ht : P.underlying t = some .string) (hc : P.cellsOf t = 1) : ∃ s, (cs.drop off).take 1 = [.string s] := by
  obtain ⟨f, hf1, hf2⟩ := Option.map_eq_some_iff.1 hf
  cases hf2
  have h1 := h i f hf1
  have hi : i < xs.length := by rw [hl]; exact (Array.getElem?_eq_some_iff.1 hf1).1
  rw [List.getElem?_eq_getElem hi, hc] at h1
  obtain ⟨z, hz, _⟩ := DataW.trod_string ht h1
  exact ⟨z, hz⟩
theorem take1 {l : List Value} {i : Nat} {v : Value} (h : (l.drop i).take 1 = [v]) : l[i]? = some v := by
  have : ((l.drop i).take 1)[0]? = some v := by rw [h]; rfl
  rw [List.getElem?_take_of_lt (by omega), List.getElem?_drop] at this
  exact this
theorem lst2 {l : List Value} {a b : Value} (h : l.length = 2) (ha : l[0]? = some a) (hb : l[1]? = some b) : l = [a, b] := by
  match l, h with
  | [x, y], _ => cases ha; cases hb; rfl
theorem len8 {l : List Value} {a0 a1 a2 a3 a4 a5 a6 a7 : Value} (h : l.length = 8) (h0 : l[0]? = some a0) (h1 : l[1]? = some a1) (h2 : l[2]? = some a2) (h3 : l[3]? = some a3) (h4 : l[4]? = some a4) (h5 : l[5]? = some a5) (h6 : l[6]? = some a6) (h7 : l[7]? = some a7) :
    l = [a0, a1, a2, a3, a4, a5, a6, a7] := by
  match l, h with
  | [_, _, _, _, _, _, _, _], _ => cases h0; cases h1; cases h2; cases h3; cases h4; cases h5; cases h6; cases h7; rfl
theorem dec_rg {e u : TypeId} {fs : Array Field} (he : P.underlying e = some (.struct fs)) (hf : fs.toList.map fo = [(u, 0), (u, 1)]) (hu : P.underlying u = some (.int .u32)) (hc : P.cellsOf u = 1) (hce : P.cellsOf e = 2)
    (h : DataW.trod enc P W 0 sp hd fuel e cs = some x) : ∃ y : Rg, y.ok ∧ cs = SR.enc y := by
  obtain ⟨xs, n, _, _, hlen, hl, hel⟩ := DataW.trod_struct he h
  have hg : ∀ i, (fs[i]?).map fo = [(u, 0), (u, 1)][i]? := fun i => by rw [← hf, List.getElem?_map, Array.getElem?_toList]
  obtain ⟨z0, h0, b0⟩ := fld_int hl hel 0 (hg 0) hu hc
  obtain ⟨z1, h1, b1⟩ := fld_int hl hel 1 (hg 1) hu hc
  have b0 : 0 ≤ z0 ∧ z0 ≤ 4294967295 := b0
  have b1 : 0 ≤ z1 ∧ z1 ≤ 4294967295 := b1
  rw [hce] at hlen
  refine ⟨⟨z0.toNat, z1.toNat⟩, ⟨by simp only; omega, by simp only; omega⟩, ?_⟩
  rw [lst2 hlen (take1 h0) (take1 h1)]
  show _ = [Value.int .u32 ((z0.toNat : Nat) : Int), Value.int .u32 ((z1.toNat : Nat) : Int)]
  rw [Int.toNat_of_nonneg b0.1, Int.toNat_of_nonneg b1.1]
theorem dec_ls {e u i s : TypeId} {fs : Array Field} (he : P.underlying e = some (.struct fs)) (hf : fs.toList.map fo = [(u, 0), (i, 1), (s, 2), (i, 3), (i, 4), (i, 5), (i, 6), (i, 7)]) (hu : P.underlying u = some (.int .u32)) (hi : P.underlying i = some (.int .i64)) (hs : P.underlying s = some .string)
    (hc : P.cellsOf u = 1) (hci : P.cellsOf i = 1) (hcs : P.cellsOf s = 1) (hce : P.cellsOf e = 8)
    (h : DataW.trod enc P W 0 sp hd fuel e cs = some x) : ∃ y : Ls, (0 ≤ y.addr ∧ y.addr < 4294967296) ∧ cs = SL.enc y := by
  obtain ⟨xs, n, _, _, hlen, hl, hel⟩ := DataW.trod_struct he h
  have hg : ∀ j, (fs[j]?).map fo = [(u, 0), (i, 1), (s, 2), (i, 3), (i, 4), (i, 5), (i, 6), (i, 7)][j]? := fun j => by rw [← hf, List.getElem?_map, Array.getElem?_toList]
  obtain ⟨z0, h0, b0⟩ := fld_int hl hel 0 (hg 0) hu hc
  obtain ⟨z1, h1, _⟩ := fld_int hl hel 1 (hg 1) hi hci
  obtain ⟨z2, h2⟩ := fld_str hl hel 2 (hg 2) hs hcs
  obtain ⟨z3, h3, _⟩ := fld_int hl hel 3 (hg 3) hi hci
  obtain ⟨z4, h4, _⟩ := fld_int hl hel 4 (hg 4) hi hci
  obtain ⟨z5, h5, _⟩ := fld_int hl hel 5 (hg 5) hi hci
  obtain ⟨z6, h6, _⟩ := fld_int hl hel 6 (hg 6) hi hci
  obtain ⟨z7, h7, _⟩ := fld_int hl hel 7 (hg 7) hi hci
  have b0 : 0 ≤ z0 ∧ z0 ≤ 4294967295 := b0
  rw [hce] at hlen
  refine ⟨⟨z0, z1, z2, z3, z4, z5, z6, z7⟩, ⟨b0.1, by simp only; omega⟩, ?_⟩
  rw [len8 hlen (take1 h0) (take1 h1) (take1 h2) (take1 h3) (take1 h4) (take1 h5) (take1 h6) (take1 h7)]
  rfl
theorem dec_st {e i l u s : TypeId} {fs ls : Array Field} (he : P.underlying e = some (.struct fs)) (hf : fs.toList.map fo = [(i, 0), (i, 1), (l, 2)]) (hi : P.underlying i = some (.int .i64)) (hci : P.cellsOf i = 1) (hcl : P.cellsOf l = 8) (hce : P.cellsOf e = 10)
    (hl' : P.underlying l = some (.struct ls)) (hfl : ls.toList.map fo = [(u, 0), (i, 1), (s, 2), (i, 3), (i, 4), (i, 5), (i, 6), (i, 7)]) (hu : P.underlying u = some (.int .u32)) (hs : P.underlying s = some .string) (hc : P.cellsOf u = 1) (hcs : P.cellsOf s = 1)
    (h : DataW.trod enc P W 0 sp hd fuel e cs = some x) : ∃ y : StepV, y.ok ∧ cs = SSt.enc y := by
  obtain ⟨xs, n, _, _, hlen, hl, hel⟩ := DataW.trod_struct he h
  have hg : ∀ j, (fs[j]?).map fo = [(i, 0), (i, 1), (l, 2)][j]? := fun j => by rw [← hf, List.getElem?_map, Array.getElem?_toList]
  obtain ⟨z0, h0, _⟩ := fld_int hl hel 0 (hg 0) hi hci
  obtain ⟨z1, h1, b1⟩ := fld_int hl hel 1 (hg 1) hi hci
  have b1 : -9223372036854775808 ≤ z1 ∧ z1 ≤ 9223372036854775807 := b1
  obtain ⟨f, hf1, hf2⟩ := Option.map_eq_some_iff.1 (hg 2)
  have e1 : f.type = l := congrArg Prod.fst hf2
  have e2 : f.offset = 2 := congrArg Prod.snd hf2
  have h2 := hel 2 f hf1
  rw [e1, e2] at h2
  have hlt : 2 < xs.length := by rw [hl]; exact (Array.getElem?_eq_some_iff.1 hf1).1
  rw [List.getElem?_eq_getElem hlt, hcl] at h2
  obtain ⟨y, hy, hcs2⟩ := dec_ls hl' hfl hu hi hs hc hci hcs hcl h2
  rw [hce] at hlen
  refine ⟨⟨z0, z1, y⟩, ⟨hy, b1.2⟩, ?_⟩
  have h0' := take1 h0
  have h1' := take1 h1
  have e1 : cs = cs.take 2 ++ (cs.drop 2).take 8 := by rw [List.take_of_length_le (l := cs.drop 2) (by rw [List.length_drop]; omega), List.take_append_drop]
  have e2 : cs.take 2 = [.int .i64 z0, .int .i64 z1] := by
    refine lst2 (by rw [List.length_take]; omega) ?_ ?_
    · rw [List.getElem?_take_of_lt (by omega)]; exact h0'
    · rw [List.getElem?_take_of_lt (by omega)]; exact h1'
  rw [e1, e2, hcs2]
  rfl
end
end Go.Lf
end
