/- Rows.StoreAgainSaid is proved: for every input, without a condition, lessorlaw13.StoreAgain returns true, and its arguments read as they did. -/
import Derived.Test.YtofhodpdfbnkiaaGreatLfD34
import Derived.Test.YtofhodpdfbnkiaaGreatLfD36
section
set_option linter.unusedVariables false
set_option linter.unusedSimpArgs false
set_option maxRecDepth 100000
namespace Go.Proofs.YtofhodpdfbnkiaaGreat
open Go Go.Proofs Go.Lf Go.ChangeShapes Go.WideShapes Go.ChangeAt Go.RowKit
theorem again_lifted (os : Os) (started : os.Started) (H : Type) (enc : TypeId × Value → H) :
    ReturnsInHanded {} Tryz.checked os 7 .any (Rows.storeAgainSpec.pre6 enc Tryz.prog Tryz.f7 Rows.storeAgainRow.domain false) (Rows.storeAgainSpec.post enc Tryz.prog Tryz.f7 false true false false) := by
  refine returnsInHanded_of_change (C := Tryz.checked) own13 started (by kernel_rfl) Tryz.func7
    (ChangeSpec.witness6 (enc := enc) (C := Tryz.checked) false ⟨#[], #[.slice none 0 0, .slice none 0 0], []⟩ 8 (by kernel_rfl) (by kernel_rfl) (by kernel_rfl) (by kernel_rfl)) ?_
  intro W base args ds gs before hval0 hW hcnd _
  have hval : ∀ (j : Nat) t v, Tryz.f7.params[j]? = some t → args[j]? = some v → Value.okWide Tryz.prog W .any base t v := hval0
  have hW' := hW
  obtain ⟨p, q, hA0, hV, rfl, hfz, hnd⟩ := hW
  have hA : DataW.TrodAll enc Tryz.prog W 0 (fun _ => true) true Tryz.f7.params.toList args.toList ds p := hA0
  rw [Tryz.params7] at hA hval
  obtain ⟨v0, v1, d0, d1, p0, p1, rfl, rfl, rfl, h0, h1⟩ := trodAll_two hA
  obtain ⟨rfl, rfl⟩ := trodVars_none hV
  obtain ⟨a2, n2, c2, rs, rfl, hR, hok2⟩ := downR (hval 1 23 _ rfl rfl) h1
  obtain ⟨a1, n1, c1, xs, rfl, hS, hok, hl⟩ := downS (hval 0 41 _ rfl rfl) h0
  have hlt := fun x hx => hW'.lt x hx
  refine (show Calls Tryz.prog 7 _ W _ from K7 hS hok hl hR hok2).mono fun e W' hp => ?_
  cases e with
  | returned r =>
    obtain ⟨hk, rfl⟩ := hp
    refine ⟨_, rfl, _, _, _, [], _, [], hW', trodAll_mk1 (shut_bool U4 _), trodAll_mk2 (upA (by kernel_rfl) (of_decide_eq_true (by kernel_rfl)) hk h0 fun x hx => hlt x (by simp [hx])) (upA (by kernel_rfl) (of_decide_eq_true (by kernel_rfl)) hk h1 fun x hx => hlt x (by simp [hx])), rfl, hk.below.frame _, fun h => by cases h⟩
  | _ => exact hp.elim
theorem again_holds : Rows.StoreAgainSaid :=
  OpenClaim.holds_of_wide 7 Tryz.f7 rfl rfl rfl rfl rfl rfl rfl ⟨rfl, rfl, rfl, rfl, rfl⟩ rfl rfl rfl rfl rfl (by kernel_rfl) Tryz.func7 (by kernel_rfl)
    (of_decide_eq_true (by kernel_rfl)) (by unfold Func.isWrapper; first | (rw [if_pos (by decide +kernel)]; kernel_rfl) | (rw [if_neg (by decide +kernel)]; exact ⟨rfl, rfl⟩))
    (fun os started H enc _ => again_lifted os started H enc)
end Go.Proofs.YtofhodpdfbnkiaaGreat
end
