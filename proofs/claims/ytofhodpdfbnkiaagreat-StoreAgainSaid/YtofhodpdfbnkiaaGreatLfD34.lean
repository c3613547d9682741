/- Part 34 of the lemmas that a proof leans on; no claim is made here. By an AI agent. -/
import Derived.Test.YtofhodpdfbnkiaaGreatLfD33
import Derived.Test.YtofhodpdfbnkiaaGreatRows
section
set_option linter.unusedVariables false
set_option linter.unusedSimpArgs false
namespace Go.Lf
open Go Go.Proofs Go.ChangeShapes Go.WideShapes Go.ChangeAt Go.RowKit
def SB : SEnc UInt8 := ⟨1, fun x => [bv x], by omega, fun x => rfl, fun x v hv => by rw [List.mem_singleton.1 hv]; rfl⟩
theorem SB_flat (l : List UInt8) : l.flatMap SB.enc = bvs l := by
  induction l with
  | nil => rfl
  | cons x l ih => rw [List.flatMap_cons, ih]; rfl
theorem RdS.bs {w : World} {v : Value} {l : List UInt8} (h : RdS SB w v l) : Bs w v l := by
  unfold RdS at h
  rw [SB_flat] at h
  exact h
section
variable {H : Type} {enc : TypeId × Value → H} {P : Program} {W : World} {sp : Nat → Bool} {hd : Bool} {fuel : Nat} {cs : List Value} {x : DataW H × List MemPlace}
def fo (f : Field) : TypeId × Nat := (f.type, f.offset)
theorem wf_bounds {k : IntKind} {n : Int} (h : (Lit.int k n).wf = true) : k.min ≤ n ∧ n ≤ k.max := by
  unfold Lit.wf at h
  rw [Bool.and_eq_true, decide_eq_true_iff, decide_eq_true_iff] at h
  exact h
theorem dec_u8 {e : TypeId} (he : P.underlying e = some (.int .u8)) (h : DataW.trod enc P W 0 sp hd fuel e cs = some x) : ∃ y : UInt8, True ∧ cs = SB.enc y := by
  obtain ⟨n, rfl, _, hw⟩ := DataW.trod_int he h
  have hb : 0 ≤ n ∧ n ≤ 255 := wf_bounds hw
  refine ⟨UInt8.ofNat n.toNat, trivial, ?_⟩
  show [Value.int .u8 n] = [bv _]
  unfold bv
  congr 2
  simp
  omega
/-- a struct's field that is an integer -/
theorem fld_int {fs : Array Field} {xs : List (DataW H × List MemPlace)} {n : Nat} (hl : xs.length = fs.size)
    (h : ∀ (i : Nat) (f : Field), fs[i]? = some f → DataW.trod enc P W 0 sp hd n f.type ((cs.drop f.offset).take (P.cellsOf f.type)) = xs[i]?) (i : Nat) {t : TypeId} {off : Nat} {k : IntKind}
    (hf : (fs[i]?).map fo = some (t, off)) (ht : P.underlying t = some (.int k)) (hc : P.cellsOf t = 1) : ∃ z, (cs.drop off).take 1 = [.int k z] ∧ k.min ≤ z ∧ z ≤ k.max := by
  obtain ⟨f, hf1, hf2⟩ := Option.map_eq_some_iff.1 hf
  cases hf2
  have h1 := h i f hf1
  have hi : i < xs.length := by rw [hl]; exact (Array.getElem?_eq_some_iff.1 hf1).1
  rw [List.getElem?_eq_getElem hi, hc] at h1
  obtain ⟨z, hz, _, hw⟩ := DataW.trod_int ht h1
  exact ⟨z, hz, wf_bounds hw⟩
theorem fld_str {fs : Array Field} {xs : List (DataW H × List MemPlace)} {n : Nat} (hl : xs.length = fs.size)
    (h : ∀ (i : Nat) (f : Field), fs[i]? = some f → DataW.trod enc P W 0 sp hd n f.type ((cs.drop f.offset).take (P.cellsOf f.type)) = xs[i]?) (i : Nat) {t : TypeId} {off : Nat}
    (hf : (fs[i]?).map fo = some (t, off)) (ht : P.underlying t = some .string) (hc : P.cellsOf t = 1) : ∃ s, (cs.drop off).take 1 = [.string s] := by
  obtain ⟨f, hf1, hf2⟩ := Option.map_eq_some_iff.1 hf
  cases hf2
  have h1 := h i f hf1
  have hi : i < xs.length := by rw [hl]; exact (Array.getElem?_eq_some_iff.1 hf1).1
  rw [List.getElem?_eq_getElem hi, hc] at h1
  obtain ⟨z, hz, _⟩ := DataW.trod_string ht h1
  exact ⟨z, hz⟩
theorem take1 {l : List Value} {i : Nat} {v : Value} (h : (l.drop i).take 1 = [v]) : l[i]? = some v := by
  have : ((l.drop i).take 1)[0]? = some v := by rw [h]; rfl
  rw [List.getElem?_take_of_lt (by omega), List.getElem?_drop] at this
  exact this
theorem lst2 {l : List Value} {a b : Value} (h : l.length = 2) (ha : l[0]? = some a) (hb : l[1]? = some b) : l = [a, b] := by
  match l, h with
  | [x, y], _ => cases ha; cases hb; rfl
theorem len8 {l : List Value} {a0 a1 a2 a3 a4 a5 a6 a7 : Value} (h : l.length = 8) (h0 : l[0]? = some a0) (h1 : l[1]? = some a1) (h2 : l[2]? = some a2) (h3 : l[3]? = some a3) (h4 : l[4]? = some a4) (h5 : l[5]? = some a5) (h6 : l[6]? = some a6) (h7 : l[7]? = some a7) :
    l = [a0, a1, a2, a3, a4, a5, a6, a7] := by
  match l, h with
  | [_, _, _, _, _, _, _, _], _ => cases h0; cases h1; cases h2; cases h3; cases h4; cases h5; cases h6; cases h7; rfl
theorem dec_rg {e u : TypeId} {fs : Array Field} (he : P.underlying e = some (.struct fs)) (hf : fs.toList.map fo = [(u, 0), (u, 1)]) (hu : P.underlying u = some (.int .u32)) (hc : P.cellsOf u = 1) (hce : P.cellsOf e = 2)
    (h : DataW.trod enc P W 0 sp hd fuel e cs = some x) : ∃ y : Rg, y.ok ∧ cs = SR.enc y := by
  obtain ⟨xs, n, _, _, hlen, hl, hel⟩ := DataW.trod_struct he h
  have hg : ∀ i, (fs[i]?).map fo = [(u, 0), (u, 1)][i]? := fun i => by rw [← hf, List.getElem?_map, Array.getElem?_toList]
  obtain ⟨z0, h0, b0⟩ := fld_int hl hel 0 (hg 0) hu hc
  obtain ⟨z1, h1, b1⟩ := fld_int hl hel 1 (hg 1) hu hc
  have b0 : 0 ≤ z0 ∧ z0 ≤ 4294967295 := b0
  have b1 : 0 ≤ z1 ∧ z1 ≤ 4294967295 := b1
  rw [hce] at hlen
  refine ⟨⟨z0.toNat, z1.toNat⟩, ⟨by simp only; omega, by simp only; omega⟩, ?_⟩
  rw [lst2 hlen (take1 h0) (take1 h1)]
  show _ = [Value.int .u32 ((z0.toNat : Nat) : Int), Value.int .u32 ((z1.toNat : Nat) : Int)]
  rw [Int.toNat_of_nonneg b0.1, Int.toNat_of_nonneg b1.1]
theorem dec_ls {e u i s : TypeId} {fs : Array Field} (he : P.underlying e = some (.struct fs)) (hf : fs.toList.map fo = [(u, 0), (i, 1), (s, 2), (i, 3), (i, 4), (i, 5), (i, 6), (i, 7)]) (hu : P.underlying u = some (.int .u32)) (hi : P.underlying i = some (.int .i64)) (hs : P.underlying s = some .string)
    (hc : P.cellsOf u = 1) (hci : P.cellsOf i = 1) (hcs : P.cellsOf s = 1) (hce : P.cellsOf e = 8)
    (h : DataW.trod enc P W 0 sp hd fuel e cs = some x) : ∃ y : Ls, (0 ≤ y.addr ∧ y.addr < 4294967296) ∧ cs = SL.enc y := by
  obtain ⟨xs, n, _, _, hlen, hl, hel⟩ := DataW.trod_struct he h
  have hg : ∀ j, (fs[j]?).map fo = [(u, 0), (i, 1), (s, 2), (i, 3), (i, 4), (i, 5), (i, 6), (i, 7)][j]? := fun j => by rw [← hf, List.getElem?_map, Array.getElem?_toList]
  obtain ⟨z0, h0, b0⟩ := fld_int hl hel 0 (hg 0) hu hc
  obtain ⟨z1, h1, _⟩ := fld_int hl hel 1 (hg 1) hi hci
  obtain ⟨z2, h2⟩ := fld_str hl hel 2 (hg 2) hs hcs
  obtain ⟨z3, h3, _⟩ := fld_int hl hel 3 (hg 3) hi hci
  obtain ⟨z4, h4, _⟩ := fld_int hl hel 4 (hg 4) hi hci
  obtain ⟨z5, h5, _⟩ := fld_int hl hel 5 (hg 5) hi hci
  obtain ⟨z6, h6, _⟩ := fld_int hl hel 6 (hg 6) hi hci
  obtain ⟨z7, h7, _⟩ := fld_int hl hel 7 (hg 7) hi hci
  have b0 : 0 ≤ z0 ∧ z0 ≤ 4294967295 := b0
  rw [hce] at hlen
  refine ⟨⟨z0, z1, z2, z3, z4, z5, z6, z7⟩, ⟨b0.1, by simp only; omega⟩, ?_⟩
  rw [len8 hlen (take1 h0) (take1 h1) (take1 h2) (take1 h3) (take1 h4) (take1 h5) (take1 h6) (take1 h7)]
  rfl
theorem dec_st {e i l u s : TypeId} {fs ls : Array Field} (he : P.underlying e = some (.struct fs)) (hf : fs.toList.map fo = [(i, 0), (i, 1), (l, 2)]) (hi : P.underlying i = some (.int .i64)) (hci : P.cellsOf i = 1) (hcl : P.cellsOf l = 8) (hce : P.cellsOf e = 10)
    (hl' : P.underlying l = some (.struct ls)) (hfl : ls.toList.map fo = [(u, 0), (i, 1), (s, 2), (i, 3), (i, 4), (i, 5), (i, 6), (i, 7)]) (hu : P.underlying u = some (.int .u32)) (hs : P.underlying s = some .string) (hc : P.cellsOf u = 1) (hcs : P.cellsOf s = 1)
    (h : DataW.trod enc P W 0 sp hd fuel e cs = some x) : ∃ y : StepV, y.ok ∧ cs = SSt.enc y := by
  obtain ⟨xs, n, _, _, hlen, hl, hel⟩ := DataW.trod_struct he h
  have hg : ∀ j, (fs[j]?).map fo = [(i, 0), (i, 1), (l, 2)][j]? := fun j => by rw [← hf, List.getElem?_map, Array.getElem?_toList]
  obtain ⟨z0, h0, _⟩ := fld_int hl hel 0 (hg 0) hi hci
  obtain ⟨z1, h1, b1⟩ := fld_int hl hel 1 (hg 1) hi hci
  have b1 : -9223372036854775808 ≤ z1 ∧ z1 ≤ 9223372036854775807 := b1
  obtain ⟨f, hf1, hf2⟩ := Option.map_eq_some_iff.1 (hg 2)
  have e1 : f.type = l := congrArg Prod.fst hf2
  have e2 : f.offset = 2 := congrArg Prod.snd hf2
  have h2 := hel 2 f hf1
  rw [e1, e2] at h2
  have hlt : 2 < xs.length := by rw [hl]; exact (Array.getElem?_eq_some_iff.1 hf1).1
  rw [List.getElem?_eq_getElem hlt, hcl] at h2
  obtain ⟨y, hy, hcs2⟩ := dec_ls hl' hfl hu hi hs hc hci hcs hcl h2
  rw [hce] at hlen
  refine ⟨⟨z0, z1, y⟩, ⟨hy, b1.2⟩, ?_⟩
  have h0' := take1 h0
  have h1' := take1 h1
  have e1 : cs = cs.take 2 ++ (cs.drop 2).take 8 := by rw [List.take_of_length_le (l := cs.drop 2) (by rw [List.length_drop]; omega), List.take_append_drop]
  have e2 : cs.take 2 = [.int .i64 z0, .int .i64 z1] := by
    refine lst2 (by rw [List.length_take]; omega) ?_ ?_
    · rw [List.getElem?_take_of_lt (by omega)]; exact h0'
    · rw [List.getElem?_take_of_lt (by omega)]; exact h1'
  rw [e1, e2, hcs2]
  rfl
end
end Go.Lf
end

section
set_option linter.unusedVariables false
set_option linter.unusedSimpArgs false
set_option maxRecDepth 100000
namespace Go.Lf
open Go Go.Proofs Go.ChangeShapes Go.WideShapes Go.ChangeAt Go.RowKit
theorem U22 : Tryz.prog.underlying 22 = some (.slice 5) := by kernel_rfl
theorem U5 : Tryz.prog.underlying 5 = some (.int .u8) := by kernel_rfl
theorem U23 : Tryz.prog.underlying 23 = some (.slice 96) := by kernel_rfl
theorem U3 : Tryz.prog.underlying 3 = some (.int .i64) := by kernel_rfl
theorem U9 : Tryz.prog.underlying 9 = some .string := by kernel_rfl
theorem U4 : Tryz.prog.underlying 4 = some .bool := by kernel_rfl
theorem U47' : Tryz.prog.underlying 47 = some (.int .u32) := by kernel_rfl
theorem U41 : Tryz.prog.underlying 41 = some (.slice 51) := by kernel_rfl
theorem S96 : ∃ fs, Tryz.prog.underlying 96 = some (.struct fs) ∧ fs.toList.map fo = [(47, 0), (47, 1)] := ⟨_, Tryz.underlying96, by kernel_rfl⟩
theorem S49 : ∃ fs, Tryz.prog.underlying 49 = some (.struct fs) ∧ fs.toList.map fo = [(47, 0), (3, 1), (9, 2), (3, 3), (3, 4), (3, 5), (3, 6), (3, 7)] := ⟨_, Tryz.underlying49, by kernel_rfl⟩
theorem S51 : ∃ fs, Tryz.prog.underlying 51 = some (.struct fs) ∧ fs.toList.map fo = [(3, 0), (3, 1), (49, 2)] := ⟨_, Tryz.underlying51, by kernel_rfl⟩
theorem c5 : Tryz.prog.cellsOf 5 = 1 := by kernel_rfl
theorem c3 : Tryz.prog.cellsOf 3 = 1 := by kernel_rfl
theorem c9 : Tryz.prog.cellsOf 9 = 1 := by kernel_rfl
theorem c47 : Tryz.prog.cellsOf 47 = 1 := by kernel_rfl
theorem c96 : Tryz.prog.cellsOf 96 = 2 := by kernel_rfl
theorem c49 : Tryz.prog.cellsOf 49 = 8 := by kernel_rfl
theorem c51 : Tryz.prog.cellsOf 51 = 10 := by kernel_rfl
section
variable {H : Type} {enc : TypeId × Value → H} {W : World} {sp : Nat → Bool} {hd : Bool} {base : Nat} {v : Value} {d : DataW H} {ps : List MemPlace}
theorem downB (hval : Value.okWide Tryz.prog W .any base 22 v) (h : DataW.Trod enc Tryz.prog W 0 sp hd 22 v d ps) : ∃ a n c l, v = .slice a n c ∧ Bs W (.slice a n c) l := by
  obtain ⟨a, n, c, l, hv, h1, _⟩ := down (P := Tryz.prog) SB (fun _ => True) U22 c5 (fun _ _ _ _ _ _ h => dec_u8 U5 h) hval h
  exact ⟨a, n, c, l, hv, h1.bs⟩
theorem downR (hval : Value.okWide Tryz.prog W .any base 23 v) (h : DataW.Trod enc Tryz.prog W 0 sp hd 23 v d ps) : ∃ a n c rs, v = .slice a n c ∧ Rgs W (.slice a n c) rs ∧ ∀ r ∈ rs, r.ok := by
  obtain ⟨fs, h1, h2⟩ := S96
  obtain ⟨a, n, c, l, hv, h3, h4, _⟩ := down (P := Tryz.prog) SR Rg.ok U23 c96 (fun _ _ _ _ _ _ h => dec_rg h1 h2 U47' c47 c96 h) hval h
  exact ⟨a, n, c, l, hv, h3, h4⟩
theorem downS (hval : Value.okWide Tryz.prog W .any base 41 v) (h : DataW.Trod enc Tryz.prog W 0 sp hd 41 v d ps) : ∃ a n c xs, v = .slice a n c ∧ RdS SSt W (.slice a n c) xs ∧ (∀ x ∈ xs, x.ok) ∧ xs.length ≤ 9223372036854775807 := by
  obtain ⟨fs, h1, h2⟩ := S51
  obtain ⟨ls, h3, h4⟩ := S49
  exact down (P := Tryz.prog) SSt StepV.ok U41 c51 (fun _ _ _ _ _ _ h => dec_st h1 h2 U3 c3 c49 c51 h3 h4 U47' U9 c47 c9 h) hval h
/-- an argument reads as it did -/
theorem upA {W' : World} {t : TypeId} (hr : Tryz.prog.readableRec t = true) (hrow : t < Tryz.prog.types.size) (hk : Kp no W W') (h : DataW.Trod enc Tryz.prog W 0 (fun _ => true) true t v d ps) (hlt : ∀ x ∈ ps, x.block < W.heap.size) :
    DataW.Trod enc Tryz.prog W' 0 (fun b => decide (b < W.heap.size)) true t v d ps := Below.trod laid13 hr hrow h hk.below hlt
end
end Go.Lf
namespace Go.Proofs.YtofhodpdfbnkiaaGreat
open Go Go.Proofs Go.Lf Go.ChangeShapes Go.WideShapes Go.ChangeAt Go.RowKit
set_option maxRecDepth 100000 in
theorem opens_lifted (os : Os) (started : os.Started) (H : Type) (enc : TypeId × Value → H) :
    ReturnsInHanded {} Tryz.checked os 3 .any (Rows.storeOpensSpec.pre6 enc Tryz.prog Tryz.f3 Rows.storeOpensRow.domain false) (Rows.storeOpensSpec.post enc Tryz.prog Tryz.f3 false true false false) := by
  refine returnsInHanded_of_change (C := Tryz.checked) own13 started (by kernel_rfl) Tryz.func3
    (ChangeSpec.witness6 (enc := enc) (C := Tryz.checked) false ⟨#[], #[.slice none 0 0, .slice none 0 0], []⟩ 8 (by kernel_rfl) (by kernel_rfl) (by kernel_rfl) (by kernel_rfl)) ?_
  intro W base args ds gs before hval0 hW hcnd _
  have hval : ∀ (j : Nat) t v, Tryz.f3.params[j]? = some t → args[j]? = some v → Value.okWide Tryz.prog W .any base t v := hval0
  have hW' := hW
  obtain ⟨p, q, hA0, hV, rfl, hfz, hnd⟩ := hW
  have hA : DataW.TrodAll enc Tryz.prog W 0 (fun _ => true) true Tryz.f3.params.toList args.toList ds p := hA0
  rw [Tryz.params3] at hA hval
  obtain ⟨v0, v1, d0, d1, p0, p1, rfl, rfl, rfl, h0, h1⟩ := trodAll_two hA
  obtain ⟨rfl, rfl⟩ := trodVars_none hV
  obtain ⟨a0, n0, c0, l, rfl, hB⟩ := downB (hval 0 22 _ rfl rfl) h0
  obtain ⟨a1, n1, c1, rs, rfl, hR, hok⟩ := downR (hval 1 23 _ rfl rfl) h1
  have hlt := fun x hx => hW'.lt x hx
  refine (show Calls Tryz.prog 3 _ W _ from K3 hB hR hok).mono fun e W' hp => ?_
  cases e with
  | returned r =>
    obtain ⟨hk, rfl⟩ := hp
    refine ⟨_, rfl, _, _, _, [], _, [], hW', trodAll_mk1 (shut_bool U4 _), trodAll_mk2 (upA (by kernel_rfl) (of_decide_eq_true (by kernel_rfl)) hk h0 fun x hx => hlt x (by simp [hx])) (upA (by kernel_rfl) (of_decide_eq_true (by kernel_rfl)) hk h1 fun x hx => hlt x (by simp [hx])), rfl, hk.below.frame _, fun h => by cases h⟩
  | _ => exact hp.elim
theorem opens_holds : Rows.StoreOpensSaid :=
  OpenClaim.holds_of_wide 3 Tryz.f3 rfl rfl rfl rfl rfl rfl rfl ⟨rfl, rfl, rfl, rfl, rfl⟩ rfl rfl rfl rfl rfl (by kernel_rfl) Tryz.func3 (by kernel_rfl)
    (of_decide_eq_true (by kernel_rfl)) (by unfold Func.isWrapper; first | (rw [if_pos (by decide +kernel)]; kernel_rfl) | (rw [if_neg (by decide +kernel)]; exact ⟨rfl, rfl⟩))
    (fun os started H enc _ => opens_lifted os started H enc)
end Go.Proofs.YtofhodpdfbnkiaaGreat
end

section
set_option linter.unusedVariables false
set_option linter.unusedSimpArgs false
namespace Go.Lf
open Go Go.Proofs
theorem look_at : ∀ {T : List Ls} (i k : Nat) (h : k < T.length), (T.Pairwise fun x y => x.addr < y.addr) → look T[k].addr T i = some (i + k, T[k])
  | x :: T, i, 0, h, hp => by rw [look_cons]; simp
  | x :: T, i, k + 1, h, hp => by
    obtain ⟨h1, h2⟩ := List.pairwise_cons.1 hp
    have hk : k < T.length := by simpa using h
    have hlt := h1 _ (List.getElem_mem hk)
    rw [look_cons]
    simp only [List.getElem_cons_succ]
    rw [if_neg (by omega), look_at (i + 1) k hk h2]
    congr 2
    omega
theorem asc_of_map {T U : List Ls} (h : T.map (·.addr) = U.map (·.addr)) (hp : T.Pairwise fun x y => x.addr < y.addr) : U.Pairwise fun x y => x.addr < y.addr := by
  have h1 : (T.map (·.addr)).Pairwise (· < ·) := List.pairwise_map.2 hp
  rw [h] at h1
  exact List.pairwise_map.1 h1
theorem doRec_addrs (S : StS) (l : List UInt8) : (doRec S l).tab.map (·.addr) = S.tab.map (·.addr) := by
  unfold doRec
  split
  · rfl
  · split
    · split
      · exact setT_addrs _ _
      · rfl
    · split
      · rfl
      · split
        · split <;> rfl
        · rfl
theorem fold_addrs : ∀ (ls : List (List UInt8)) (S : StS), (ls.foldl doRec S).tab.map (·.addr) = S.tab.map (·.addr)
  | [], S => rfl
  | l :: ls, S => by rw [List.foldl_cons, fold_addrs ls, doRec_addrs]
theorem st0_bare {x : Ls} {rs : List Rg} (h : x ∈ (st0 rs).tab) : x = bare x.addr 0 0 := by
  obtain ⟨a, _, rfl⟩ := List.mem_map.1 h
  rfl
theorem map_addr_len {T U : List Ls} (h : T.map (·.addr) = U.map (·.addr)) : T.length = U.length := by
  have := congrArg List.length h; simpa using this
theorem map_addr_get {T U : List Ls} (h : T.map (·.addr) = U.map (·.addr)) (k : Nat) (hk : k < T.length) (hk' : k < U.length) : T[k].addr = U[k].addr := by
  have : (T.map (·.addr))[k]? = (U.map (·.addr))[k]? := by rw [h]
  simpa [hk, hk'] using this
theorem fold_leases {T T0 : List Ls} (h : T.map (·.addr) = T0.map (·.addr)) (hT : TOk T) (h0 : ∀ x ∈ T0, x = bare x.addr 0 0) (s l : Int) : ∀ k, k ≤ T.length → (leaseRecs (T.take k)).foldl doRec ⟨T0, s, l⟩ = ⟨T.take k ++ T0.drop k, s, l⟩
  | 0, _ => by simp [leaseRecs]
  | k + 1, hk => by
    have hk' : k < T.length := by omega
    have hlen := map_addr_len h
    have hk0 : k < T0.length := by omega
    rw [leaseRecs_take hk', List.foldl_append, fold_leases h hT h0 s l k (by omega)]
    have hta : T.take (k + 1) = T.take k ++ [T[k]] := by rw [List.take_add_one, List.getElem?_eq_getElem hk']; rfl
    have hda : T0.drop k = T0[k] :: T0.drop (k + 1) := drop_at hk0
    have hadd := map_addr_get h k hk' hk0
    cases hq : eqL T[k] (bare T[k].addr 0 0) with
    | true =>
      rw [if_pos rfl, List.foldl_nil]
      have e1 := (eqL_iff _ _).1 hq
      have e2 := h0 _ (List.getElem_mem hk0)
      rw [hta, hda, List.append_assoc]
      have : T[k] = T0[k] := by rw [e1, hadd]; exact e2.symm
      rw [this]; rfl
    | false =>
      rw [if_neg (by simp)]
      have hr := hT.right _ (List.getElem_mem hk')
      have ha := hT.lo _ (List.getElem_mem hk')
      rw [List.foldl_cons, List.foldl_nil, doRec_lease _ hr ha]
      have hX : (T.take k ++ T0.drop k).map (·.addr) = T.map (·.addr) := by
        rw [List.map_append, List.map_take, List.map_drop, ← h, ← List.map_take, ← List.map_drop, ← List.map_append, List.take_append_drop]
      have hXl := map_addr_len hX
      have hasc := asc_of_map hX.symm hT.asc
      have hXk : k < (T.take k ++ T0.drop k).length := by rw [hXl]; exact hk'
      have hgk := map_addr_get hX k hXk hk'
      have hl := look_at 0 k hXk hasc
      rw [hgk, Nat.zero_add] at hl
      have hset : (setT (T.take k ++ T0.drop k) T[k]).2 = (T.take k ++ T0.drop k).set k T[k] := by
        unfold setT; rw [if_pos hr, hl]
      rw [hset, hta, hda]
      have hl' : (T.take k).length = k := by rw [List.length_take]; omega
      rw [List.set_append_right _ _ (by omega), hl', Nat.sub_self, List.set_cons_zero, List.append_assoc]
      rfl
/-- what a compacted log tells -/
theorem fold_recs {S : StS} (hS : S.ok) (h : S.tab.map (·.addr) = (st0 pool6).tab.map (·.addr)) : (recsOf S).foldl doRec (st0 pool6) = S := by
  unfold recsOf
  rw [List.foldl_append]
  have e : [stRec S.state, lifeRec S.life].foldl doRec (st0 pool6) = ⟨(st0 pool6).tab, S.state, S.life⟩ := by
    show doRec (doRec (st0 pool6) (stRec S.state)) (lifeRec S.life) = _
    rw [doRec_state _ ⟨hS.s1, hS.s2⟩, doRec_life _ ⟨hS.l1, hS.l2⟩]
  rw [e]
  have := fold_leases h hS.tab (fun x hx => st0_bare hx) S.state S.life S.tab.length (Nat.le_refl _)
  rw [List.take_length] at this
  rw [this, List.drop_eq_nil_of_le (by rw [map_addr_len h]; exact Nat.le_refl _), List.append_nil]
theorem pool6_len : (st0 pool6).tab.length = 6 := by
  show (bares (pool pool6)).length = 6
  rw [pool6_eq]; rfl
theorem leaseRecs_ok {T : List Ls} (h : TOk T) : ∀ l ∈ leaseRecs T, recOk l ∧ l.length ≤ 101 := by
  intro l hl
  obtain ⟨x, hx, rfl⟩ := List.mem_map.1 hl
  have hr := h.right x (List.mem_filter.1 hx).1
  have := enc_len hr
  exact ⟨leaseRec_ok hr, by simp; omega⟩
theorem recsOf_ok {S : StS} (h : S.ok) : ∀ l ∈ recsOf S, recOk l ∧ l.length ≤ 101 := by
  intro l hl
  unfold recsOf at hl
  rcases List.mem_append.1 hl with hl | hl
  · simp only [List.mem_cons, List.not_mem_nil, or_false] at hl
    rcases hl with rfl | rfl
    · exact ⟨stRec_ok _, by simp [stRec]⟩
    · exact ⟨lifeRec_ok _, by rw [lifeRec_len]; omega⟩
  · exact leaseRecs_ok h.tab l hl
theorem encode_le : ∀ (ls : List (List UInt8)), (∀ l ∈ ls, l.length ≤ 101) → (encode ls).length ≤ ls.length * 104
  | [], _ => by simp [encode]
  | l :: ls, h => by
    have h1 := encode_le ls fun x hx => h x (.tail _ hx)
    have h2 := h l (.head _)
    rw [encode_cons, List.length_append, put_length, List.length_cons]
    omega
theorem recsOf_len {S : StS} (h : S.tab.length = 6) : (recsOf S).length ≤ 8 := by
  unfold recsOf
  have := leaseRecs_len S.tab
  rw [List.length_append]
  simp
  omega
/-- what any step but the disk's own leaves of the log -/
structure LogStep (D D' : Dk) (rs rs' : List (List UInt8)) (act : Int) : Prop where
  room : D'.room = D.room
  len : D'.b.length ≤ D.b.length + 104 ∨ D'.b.length ≤ 832
  kept : act < 3 → D'.last = D.last ∧ ∃ ls, ls.length ≤ 1 ∧ rs' = rs ++ ls
  all : 3 ≤ act → D'.last = (D'.b.length : Int)
theorem log_note {S : StS} {D : Dk} {rs : List (List UInt8)} (h : LogIs S D rs) (hr : D.room = 100000) (hl : D.b.length ≤ 90000) {l : List UInt8} (ho : recOk l) (hl' : l.length ≤ 101) {act : Int} (ha : act < 3) :
    ∃ rs', LogIs (noteS S D l).2.1 (noteS S D l).2.2 rs' ∧ LogStep D (noteS S D l).2.2 rs rs' act := by
  obtain ⟨e, h'⟩ := note_log h ho (by rw [put_length, hr]; omega)
  rw [e]
  refine ⟨_, h', rfl, .inl ?_, fun _ => ⟨rfl, _, by simp, rfl⟩, fun h => by omega⟩
  show (D.b ++ put l).length ≤ _
  rw [List.length_append, put_length]; omega
theorem log_same {S : StS} {D : Dk} {rs : List (List UInt8)} (h : LogIs S D rs) {act : Int} (ha : act < 3) : ∃ rs', LogIs S D rs' ∧ LogStep D D rs rs' act :=
  ⟨rs, h, rfl, .inl (by omega), fun _ => ⟨rfl, [], by simp, by simp⟩, fun h => by omega⟩
theorem sync_log {D : Dk} (hi : D.inn = -1) (hr : 0 ≤ D.room) : D.sync = (0, { D with last := D.b.length }) := by
  unfold Dk.sync Dk.change
  rw [if_neg (by omega), if_neg (by omega), Dk.dec_inn hi]
theorem swap_log {D : Dk} (hi : D.inn = -1) {l : List UInt8} (hr : (l.length : Int) ≤ D.room) : D.swap l = (0, { D with b := l, last := l.length }) := by
  unfold Dk.swap Dk.change
  rw [if_neg (by omega), if_neg (by omega), Dk.dec_inn hi]
theorem compact_log {S : StS} {D : Dk} {rs : List (List UInt8)} (h : LogIs S D rs) (hok : S.ok) (hr : D.room = 100000) :
    compactS S D = (0, S, { D with b := encode (recsOf S), last := ((encode (recsOf S)).length : Int) }) ∧ LogIs S { D with b := encode (recsOf S), last := ((encode (recsOf S)).length : Int) } (recsOf S) ∧ (encode (recsOf S)).length ≤ 832 ∧ (recsOf S).length ≤ 8 := by
  have hro := recsOf_ok hok
  have hma : S.tab.map (·.addr) = (st0 pool6).tab.map (·.addr) := by rw [h.st]; exact fold_addrs _ _
  have h6 : S.tab.length = 6 := (map_addr_len hma).trans pool6_len
  have h8 := recsOf_len h6
  have hle := encode_le (recsOf S) fun l hl => (hro l hl).2
  have hle' : (encode (recsOf S)).length ≤ 832 := by omega
  refine ⟨?_, ⟨fun l hl => (hro l hl).1, rfl, (fold_recs hok hma).symm, h.inn⟩, hle', h8⟩
  unfold compactS Dk.compact
  rw [if_pos (fun l hl => (hro l hl).1)]
  rw [show ((recsOf S).map put).flatten = encode (recsOf S) from rfl, swap_log h.inn (by rw [hr]; omega)]
theorem log_step {S : StS} {D : Dk} {rs : List (List UInt8)} (h : LogIs S D rs) (hok : S.ok) (hr : D.room = 100000) (hl : D.b.length ≤ 90000) {x : StepV} (hx : x.ok) (ha : 0 ≤ x.act ∧ x.act < 5) :
    ∃ rs', LogIs (opS S D x).2.1 (opS S D x).2.2 rs' ∧ LogStep D (opS S D x).2.2 rs rs' x.act := by
  unfold opS
  split
  · unfold putS
    split
    · rename_i hr'
      split
      · exact log_note h hr hl (leaseRec_ok hr') (by have := enc_len hr'; simp; omega) (by omega)
      · exact log_same h (by omega)
    · exact log_same h (by omega)
  · split
    · unfold setStateS
      split
      · exact log_same h (by omega)
      · exact log_note h hr hl (stRec_ok _) (by simp [stRec]) (by omega)
    · split
      · unfold setLifeS
        split
        · exact log_same h (by omega)
        · exact log_note h hr hl (lifeRec_ok _) (by rw [lifeRec_len]; omega) (by omega)
      · split
        · unfold syncS
          rw [sync_log h.inn (by omega)]
          exact ⟨rs, ⟨h.ok, h.b, h.st, h.inn⟩, rfl, .inl (by simp), fun h => by omega, fun _ => rfl⟩
        · split
          · obtain ⟨e, h', hle, _⟩ := compact_log h hok hr
            rw [e]
            exact ⟨_, h', rfl, .inr hle, fun h => by omega, fun _ => rfl⟩
          · omega
end Go.Lf
end
