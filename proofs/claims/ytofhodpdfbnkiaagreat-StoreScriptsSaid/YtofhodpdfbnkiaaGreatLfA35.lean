/- Rows.StoreOpensSaid is proved: for every input, without a condition, lessorlaw13.StoreOpens returns true, and its arguments read as they did. -/
import Derived.Test.YtofhodpdfbnkiaaGreatLfA34
import Derived.Test.YtofhodpdfbnkiaaGreatRows
section
set_option linter.unusedVariables false
set_option linter.unusedSimpArgs false
set_option maxRecDepth 100000
namespace Go.Lf
open Go Go.Proofs Go.ChangeShapes Go.WideShapes Go.ChangeAt Go.RowKit
theorem U22 : Tryz.prog.underlying 22 = some (.slice 5) := by kernel_rfl
theorem U5 : Tryz.prog.underlying 5 = some (.int .u8) := by kernel_rfl
theorem U23 : Tryz.prog.underlying 23 = some (.slice 96) := by kernel_rfl
theorem U3 : Tryz.prog.underlying 3 = some (.int .i64) := by kernel_rfl
theorem U9 : Tryz.prog.underlying 9 = some .string := by kernel_rfl
theorem U4 : Tryz.prog.underlying 4 = some .bool := by kernel_rfl
theorem U47' : Tryz.prog.underlying 47 = some (.int .u32) := by kernel_rfl
theorem U41 : Tryz.prog.underlying 41 = some (.slice 51) := by kernel_rfl
theorem S96 : ∃ fs, Tryz.prog.underlying 96 = some (.struct fs) ∧ fs.toList.map fo = [(47, 0), (47, 1)] := ⟨_, Tryz.underlying96, by kernel_rfl⟩
theorem S49 : ∃ fs, Tryz.prog.underlying 49 = some (.struct fs) ∧ fs.toList.map fo = [(47, 0), (3, 1), (9, 2), (3, 3), (3, 4), (3, 5), (3, 6), (3, 7)] := ⟨_, Tryz.underlying49, by kernel_rfl⟩
theorem S51 : ∃ fs, Tryz.prog.underlying 51 = some (.struct fs) ∧ fs.toList.map fo = [(3, 0), (3, 1), (49, 2)] := ⟨_, Tryz.underlying51, by kernel_rfl⟩
theorem c5 : Tryz.prog.cellsOf 5 = 1 := by kernel_rfl
theorem c3 : Tryz.prog.cellsOf 3 = 1 := by kernel_rfl
theorem c9 : Tryz.prog.cellsOf 9 = 1 := by kernel_rfl
theorem c47 : Tryz.prog.cellsOf 47 = 1 := by kernel_rfl
theorem c96 : Tryz.prog.cellsOf 96 = 2 := by kernel_rfl
theorem c49 : Tryz.prog.cellsOf 49 = 8 := by kernel_rfl
theorem c51 : Tryz.prog.cellsOf 51 = 10 := by kernel_rfl
section
variable {H : Type} {enc : TypeId × Value → H} {W : World} {sp : Nat → Bool} {hd : Bool} {base : Nat} {v : Value} {d : DataW H} {ps : List MemPlace}
theorem downB (hval : Value.okWide Tryz.prog W .any base 22 v) (h : DataW.Trod enc Tryz.prog W 0 sp hd 22 v d ps) : ∃ a n c l, v = .slice a n c ∧ Bs W (.slice a n c) l := by
  obtain ⟨a, n, c, l, hv, h1, _⟩ := down (P := Tryz.prog) SB (fun _ => True) U22 c5 (fun _ _ _ _ _ _ h => dec_u8 U5 h) hval h
  exact ⟨a, n, c, l, hv, h1.bs⟩
theorem downR (hval : Value.okWide Tryz.prog W .any base 23 v) (h : DataW.Trod enc Tryz.prog W 0 sp hd 23 v d ps) : ∃ a n c rs, v = .slice a n c ∧ Rgs W (.slice a n c) rs ∧ ∀ r ∈ rs, r.ok := by
  obtain ⟨fs, h1, h2⟩ := S96
  obtain ⟨a, n, c, l, hv, h3, h4, _⟩ := down (P := Tryz.prog) SR Rg.ok U23 c96 (fun _ _ _ _ _ _ h => dec_rg h1 h2 U47' c47 c96 h) hval h
  exact ⟨a, n, c, l, hv, h3, h4⟩
theorem downS (hval : Value.okWide Tryz.prog W .any base 41 v) (h : DataW.Trod enc Tryz.prog W 0 sp hd 41 v d ps) : ∃ a n c xs, v = .slice a n c ∧ RdS SSt W (.slice a n c) xs ∧ (∀ x ∈ xs, x.ok) ∧ xs.length ≤ 9223372036854775807 := by
  obtain ⟨fs, h1, h2⟩ := S51
  obtain ⟨ls, h3, h4⟩ := S49
  exact down (P := Tryz.prog) SSt StepV.ok U41 c51 (fun _ _ _ _ _ _ h => dec_st h1 h2 U3 c3 c49 c51 h3 h4 U47' U9 c47 c9 h) hval h
/-- an argument reads as it did -/
theorem upA {W' : World} {t : TypeId} (hr : Tryz.prog.readableRec t = true) (hrow : t < Tryz.prog.types.size) (hk : Kp no W W') (h : DataW.Trod enc Tryz.prog W 0 (fun _ => true) true t v d ps) (hlt : ∀ x ∈ ps, x.block < W.heap.size) :
    DataW.Trod enc Tryz.prog W' 0 (fun b => decide (b < W.heap.size)) true t v d ps := Below.trod laid13 hr hrow h hk.below hlt
end
end Go.Lf
namespace Go.Proofs.YtofhodpdfbnkiaaGreat
open Go Go.Proofs Go.Lf Go.ChangeShapes Go.WideShapes Go.ChangeAt Go.RowKit
set_option maxRecDepth 100000 in
theorem opens_lifted (os : Os) (started : os.Started) (H : Type) (enc : TypeId × Value → H) :
    ReturnsInHanded {} Tryz.checked os 3 .any (Rows.storeOpensSpec.pre6 enc Tryz.prog Tryz.f3 Rows.storeOpensRow.domain false) (Rows.storeOpensSpec.post enc Tryz.prog Tryz.f3 false true false false) := by
  refine returnsInHanded_of_change (C := Tryz.checked) own13 started (by kernel_rfl) Tryz.func3
    (ChangeSpec.witness6 (enc := enc) (C := Tryz.checked) false ⟨#[], #[.slice none 0 0, .slice none 0 0], []⟩ 8 (by kernel_rfl) (by kernel_rfl) (by kernel_rfl) (by kernel_rfl)) ?_
  intro W base args ds gs before hval0 hW hcnd _
  have hval : ∀ (j : Nat) t v, Tryz.f3.params[j]? = some t → args[j]? = some v → Value.okWide Tryz.prog W .any base t v := hval0
  have hW' := hW
  obtain ⟨p, q, hA0, hV, rfl, hfz, hnd⟩ := hW
  have hA : DataW.TrodAll enc Tryz.prog W 0 (fun _ => true) true Tryz.f3.params.toList args.toList ds p := hA0
  rw [Tryz.params3] at hA hval
  obtain ⟨v0, v1, d0, d1, p0, p1, rfl, rfl, rfl, h0, h1⟩ := trodAll_two hA
  obtain ⟨rfl, rfl⟩ := trodVars_none hV
  obtain ⟨a0, n0, c0, l, rfl, hB⟩ := downB (hval 0 22 _ rfl rfl) h0
  obtain ⟨a1, n1, c1, rs, rfl, hR, hok⟩ := downR (hval 1 23 _ rfl rfl) h1
  have hlt := fun x hx => hW'.lt x hx
  refine (show Calls Tryz.prog 3 _ W _ from K3 hB hR hok).mono fun e W' hp => ?_
  cases e with
  | returned r =>
    obtain ⟨hk, rfl⟩ := hp
    refine ⟨_, rfl, _, _, _, [], _, [], hW', trodAll_mk1 (shut_bool U4 _), trodAll_mk2 (upA (by kernel_rfl) (of_decide_eq_true (by kernel_rfl)) hk h0 fun x hx => hlt x (by simp [hx])) (upA (by kernel_rfl) (of_decide_eq_true (by kernel_rfl)) hk h1 fun x hx => hlt x (by simp [hx])), rfl, hk.below.frame _, fun h => by cases h⟩
  | _ => exact hp.elim
theorem opens_holds : Rows.StoreOpensSaid :=
  OpenClaim.holds_of_wide 3 Tryz.f3 rfl rfl rfl rfl rfl rfl rfl ⟨rfl, rfl, rfl, rfl, rfl⟩ rfl rfl rfl rfl rfl (by kernel_rfl) Tryz.func3 (by kernel_rfl)
    (of_decide_eq_true (by kernel_rfl)) (by unfold Func.isWrapper; first | (rw [if_pos (by decide +kernel)]; kernel_rfl) | (rw [if_neg (by decide +kernel)]; exact ⟨rfl, rfl⟩))
    (fun os started H enc _ => opens_lifted os started H enc)
end Go.Proofs.YtofhodpdfbnkiaaGreat
end
