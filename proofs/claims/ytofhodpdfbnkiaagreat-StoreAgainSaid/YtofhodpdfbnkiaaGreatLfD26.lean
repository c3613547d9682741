/- Part 26 of the lemmas that a proof leans on; no claim is made here. By an AI agent. -/
import Derived.Test.YtofhodpdfbnkiaaGreatLfD14
import Derived.Test.YtofhodpdfbnkiaaGreatLfD15
import Derived.Test.YtofhodpdfbnkiaaGreatLfD16
import Derived.Test.YtofhodpdfbnkiaaGreatLfD23
import Derived.Test.YtofhodpdfbnkiaaGreatLfD24
import Derived.Shelf.SlSortCmp.NoneTotal
section
set_option linter.unusedVariables false
set_option linter.unusedSimpArgs false
namespace Go.Proofs
open Go.Shelf Go.RowKit Go.Lib Go.Sort
def Tryz.l124_ren : Go.Shelf.Ren := ⟨fun | 6 => 124 | 15 => 132 | 14 => 134 | 28 => 143 | 29 => 144 | 20 => 145 | 21 => 146 | 22 => 147 | 23 => 148 | 24 => 149 | 25 => 150 | 26 => 151 | 27 => 152 | 46 => 158 | 47 => 154 | 48 => 155 | 49 => 159 | 50 => 160 | 57 => 162 | n => n, fun | 22 => 23 | 24 => 96 | 25 => 143 | 3 => 3 | 39 => 121 | 0 => 0 | 53 => 46 | 55 => 181 | 4 => 4 | 46 => 173 | 45 => 172 | 50 => 177 | 5 => 5 | 9 => 9 | 66 => 187 | 70 => 132 | 76 => 194 | 77 => 195 | n => n, fun | n => n⟩
theorem Tryz.l124 : Go.Proofs.SlLaysF0.n6 Tryz.prog Tryz.l124_ren := {
  mixed := by kernel_rfl,
  f6 := ⟨Tryz.f124.name, by decide, Tryz.func124.trans (congrArg some (by kernel_rfl))⟩,
  f14 := ⟨Tryz.f134.name, by decide, Tryz.func134.trans (congrArg some (by kernel_rfl))⟩,
  f15 := Tryz.func132.trans (congrArg some (by kernel_rfl)),
  f20 := ⟨Tryz.f145.name, by decide, Tryz.func145.trans (congrArg some (by kernel_rfl))⟩,
  f21 := ⟨Tryz.f146.name, by decide, Tryz.func146.trans (congrArg some (by kernel_rfl))⟩,
  f22 := ⟨Tryz.f147.name, by decide, Tryz.func147.trans (congrArg some (by kernel_rfl))⟩,
  f23 := ⟨Tryz.f148.name, by decide, Tryz.func148.trans (congrArg some (by kernel_rfl))⟩,
  f24 := ⟨Tryz.f149.name, by decide, Tryz.func149.trans (congrArg some (by kernel_rfl))⟩,
  f25 := ⟨Tryz.f150.name, by decide, Tryz.func150.trans (congrArg some (by kernel_rfl))⟩,
  f26 := ⟨Tryz.f151.name, by decide, Tryz.func151.trans (congrArg some (by kernel_rfl))⟩,
  f27 := ⟨Tryz.f152.name, by decide, Tryz.func152.trans (congrArg some (by kernel_rfl))⟩,
  f28 := Tryz.func143.trans (congrArg some (by kernel_rfl)),
  f29 := Tryz.func144.trans (congrArg some (by kernel_rfl)),
  f46 := ⟨Tryz.f158.name, by decide, Tryz.func158.trans (congrArg some (by kernel_rfl))⟩,
  f47 := Tryz.func154.trans (congrArg some (by kernel_rfl)),
  f48 := Tryz.func155.trans (congrArg some (by kernel_rfl)),
  f49 := ⟨Tryz.f159.name, by decide, Tryz.func159.trans (congrArg some (by kernel_rfl))⟩,
  f50 := ⟨Tryz.f160.name, by decide, Tryz.func160.trans (congrArg some (by kernel_rfl))⟩,
  f57 := ⟨Tryz.f162.name, by decide, Tryz.func162.trans (congrArg some (by kernel_rfl))⟩,
  t0 := Tryz.underlying0,
  a0 := Tryz.isAgg0,
  z0 := Tryz.sizeOf0,
  v0 := Tryz.zeroValue0,
  t3 := Tryz.underlying3,
  a3 := Tryz.isAgg3,
  z3 := Tryz.sizeOf3,
  v3 := Tryz.zeroValue3,
  t4 := Tryz.underlying4,
  a4 := Tryz.isAgg4,
  z4 := Tryz.sizeOf4,
  v4 := Tryz.zeroValue4,
  t5 := Tryz.underlying5,
  a5 := Tryz.isAgg5,
  z5 := Tryz.sizeOf5,
  v5 := Tryz.zeroValue5,
  t9 := Tryz.underlying9,
  a9 := Tryz.isAgg9,
  z9 := Tryz.sizeOf9,
  v9 := Tryz.zeroValue9,
  t22 := Tryz.underlying23,
  a22 := Tryz.isAgg23,
  z22 := Tryz.sizeOf23,
  v22 := Tryz.zeroValue23,
  t25 := Tryz.underlying143,
  a25 := Tryz.isAgg143,
  z25 := Tryz.sizeOf143,
  v25 := Tryz.zeroValue143,
  t39 := Tryz.underlying121,
  a39 := Tryz.isAgg121,
  z39 := Tryz.sizeOf121,
  v39 := Tryz.zeroValue121,
  t45 := Tryz.underlying172,
  a45 := Tryz.isAgg172,
  z45 := Tryz.sizeOf172,
  v45 := Tryz.zeroValue172,
  t46 := Tryz.underlying173,
  a46 := Tryz.isAgg173,
  z46 := Tryz.sizeOf173,
  v46 := Tryz.zeroValue173,
  t50 := Tryz.underlying177,
  a50 := Tryz.isAgg177,
  z50 := Tryz.sizeOf177,
  v50 := Tryz.zeroValue177,
  t53 := Tryz.underlying46,
  a53 := Tryz.isAgg46,
  z53 := Tryz.sizeOf46,
  v53 := Tryz.zeroValue46,
  t55 := Tryz.underlying181,
  a55 := Tryz.isAgg181,
  z55 := Tryz.sizeOf181,
  v55 := Tryz.zeroValue181,
  t66 := Tryz.underlying187,
  a66 := Tryz.isAgg187,
  z66 := Tryz.sizeOf187,
  v66 := Tryz.zeroValue187,
  t70 := Tryz.underlying132,
  a70 := Tryz.isAgg132,
  z70 := Tryz.sizeOf132,
  v70 := Tryz.zeroValue132,
  t76 := Tryz.underlying194,
  a76 := Tryz.isAgg194,
  z76 := Tryz.sizeOf194,
  v76 := Tryz.zeroValue194,
  t77 := Tryz.underlying195,
  a77 := Tryz.isAgg195,
  z77 := Tryz.sizeOf195,
  v77 := Tryz.zeroValue195 }
def Tryz.l119_ren : Go.Shelf.Ren := ⟨fun | 6 => 119 | 15 => 132 | 14 => 131 | 28 => 143 | 29 => 144 | 20 => 135 | 21 => 136 | 22 => 137 | 23 => 138 | 24 => 139 | 25 => 140 | 26 => 141 | 27 => 142 | 46 => 153 | 47 => 154 | 48 => 155 | 49 => 156 | 50 => 157 | 57 => 161 | n => n, fun | 22 => 59 | 24 => 49 | 25 => 128 | 3 => 3 | 39 => 121 | 0 => 0 | 53 => 46 | 55 => 181 | 4 => 4 | 46 => 173 | 45 => 172 | 50 => 177 | 5 => 5 | 9 => 9 | 66 => 187 | 70 => 132 | 76 => 194 | 77 => 195 | n => n, fun | n => n⟩
theorem Tryz.l119 : Go.Proofs.SlLaysF0.n6 Tryz.prog Tryz.l119_ren := {
  mixed := by kernel_rfl,
  f6 := ⟨Tryz.f119.name, by decide, Tryz.func119.trans (congrArg some (by kernel_rfl))⟩,
  f14 := ⟨Tryz.f131.name, by decide, Tryz.func131.trans (congrArg some (by kernel_rfl))⟩,
  f15 := Tryz.func132.trans (congrArg some (by kernel_rfl)),
  f20 := ⟨Tryz.f135.name, by decide, Tryz.func135.trans (congrArg some (by kernel_rfl))⟩,
  f21 := ⟨Tryz.f136.name, by decide, Tryz.func136.trans (congrArg some (by kernel_rfl))⟩,
  f22 := ⟨Tryz.f137.name, by decide, Tryz.func137.trans (congrArg some (by kernel_rfl))⟩,
  f23 := ⟨Tryz.f138.name, by decide, Tryz.func138.trans (congrArg some (by kernel_rfl))⟩,
  f24 := ⟨Tryz.f139.name, by decide, Tryz.func139.trans (congrArg some (by kernel_rfl))⟩,
  f25 := ⟨Tryz.f140.name, by decide, Tryz.func140.trans (congrArg some (by kernel_rfl))⟩,
  f26 := ⟨Tryz.f141.name, by decide, Tryz.func141.trans (congrArg some (by kernel_rfl))⟩,
  f27 := ⟨Tryz.f142.name, by decide, Tryz.func142.trans (congrArg some (by kernel_rfl))⟩,
  f28 := Tryz.func143.trans (congrArg some (by kernel_rfl)),
  f29 := Tryz.func144.trans (congrArg some (by kernel_rfl)),
  f46 := ⟨Tryz.f153.name, by decide, Tryz.func153.trans (congrArg some (by kernel_rfl))⟩,
  f47 := Tryz.func154.trans (congrArg some (by kernel_rfl)),
  f48 := Tryz.func155.trans (congrArg some (by kernel_rfl)),
  f49 := ⟨Tryz.f156.name, by decide, Tryz.func156.trans (congrArg some (by kernel_rfl))⟩,
  f50 := ⟨Tryz.f157.name, by decide, Tryz.func157.trans (congrArg some (by kernel_rfl))⟩,
  f57 := ⟨Tryz.f161.name, by decide, Tryz.func161.trans (congrArg some (by kernel_rfl))⟩,
  t0 := Tryz.underlying0,
  a0 := Tryz.isAgg0,
  z0 := Tryz.sizeOf0,
  v0 := Tryz.zeroValue0,
  t3 := Tryz.underlying3,
  a3 := Tryz.isAgg3,
  z3 := Tryz.sizeOf3,
  v3 := Tryz.zeroValue3,
  t4 := Tryz.underlying4,
  a4 := Tryz.isAgg4,
  z4 := Tryz.sizeOf4,
  v4 := Tryz.zeroValue4,
  t5 := Tryz.underlying5,
  a5 := Tryz.isAgg5,
  z5 := Tryz.sizeOf5,
  v5 := Tryz.zeroValue5,
  t9 := Tryz.underlying9,
  a9 := Tryz.isAgg9,
  z9 := Tryz.sizeOf9,
  v9 := Tryz.zeroValue9,
  t22 := Tryz.underlying59,
  a22 := Tryz.isAgg59,
  z22 := Tryz.sizeOf59,
  v22 := Tryz.zeroValue59,
  t25 := Tryz.underlying128,
  a25 := Tryz.isAgg128,
  z25 := Tryz.sizeOf128,
  v25 := Tryz.zeroValue128,
  t39 := Tryz.underlying121,
  a39 := Tryz.isAgg121,
  z39 := Tryz.sizeOf121,
  v39 := Tryz.zeroValue121,
  t45 := Tryz.underlying172,
  a45 := Tryz.isAgg172,
  z45 := Tryz.sizeOf172,
  v45 := Tryz.zeroValue172,
  t46 := Tryz.underlying173,
  a46 := Tryz.isAgg173,
  z46 := Tryz.sizeOf173,
  v46 := Tryz.zeroValue173,
  t50 := Tryz.underlying177,
  a50 := Tryz.isAgg177,
  z50 := Tryz.sizeOf177,
  v50 := Tryz.zeroValue177,
  t53 := Tryz.underlying46,
  a53 := Tryz.isAgg46,
  z53 := Tryz.sizeOf46,
  v53 := Tryz.zeroValue46,
  t55 := Tryz.underlying181,
  a55 := Tryz.isAgg181,
  z55 := Tryz.sizeOf181,
  v55 := Tryz.zeroValue181,
  t66 := Tryz.underlying187,
  a66 := Tryz.isAgg187,
  z66 := Tryz.sizeOf187,
  v66 := Tryz.zeroValue187,
  t70 := Tryz.underlying132,
  a70 := Tryz.isAgg132,
  z70 := Tryz.sizeOf132,
  v70 := Tryz.zeroValue132,
  t76 := Tryz.underlying194,
  a76 := Tryz.isAgg194,
  z76 := Tryz.sizeOf194,
  v76 := Tryz.zeroValue194,
  t77 := Tryz.underlying195,
  a77 := Tryz.isAgg195,
  z77 := Tryz.sizeOf195,
  v77 := Tryz.zeroValue195 }
end Go.Proofs
/-! slices.SortFunc at rows of structs. -/
namespace Go.Lf
open Go Go.Proofs Go.Sort Go.Shelf
theorem Kp.grow (S : Nat → Prop) (w : World) (os : Array Obj) : Kp S w (Go.Sort.grow w os) := ⟨rfl, rfl, rfl, by simp, fun k hk _ => heap_grow_old w os hk⟩
theorem Kp.mapB (w : World) (blk : Nat) (f : Array Value → Array Value) : Kp (fun k => k = blk) w (mapBlock w blk f) := by
  refine ⟨rfl, rfl, rfl, by simp [mapBlock], fun k hk hn => ?_⟩
  unfold mapBlock
  simp only [Array.getElem?_modify]
  rw [if_neg (fun h => hn h.symm)]
theorem Kp.sortW {α : Type} [Inhabited α] (enc : α → List Value) (k : Nat) (w : World) (blk off m : Nat) (d : Array α) (os : Array Obj) : Kp (fun k => k = blk) w (sortWorldK enc k w blk off m d os) := by
  unfold sortWorldK putRowK putRow
  have h1 : Kp (fun k => k = blk) w (Sort.ahead w m) := ⟨rfl, rfl, rfl, Nat.le_refl _, fun _ _ _ => rfl⟩
  exact (h1.trans (Kp.mapB _ _ _) (fun _ _ h => h)).trans (Kp.grow (fun _ => False) _ _) (fun _ _ h => h.elim)
theorem OwnS.holdsK {α : Type} [Inhabited α] {S : SEnc α} {e : TypeId} {w : World} {base g n c : Nat} {xs : List α} (h : OwnS S e w base (.slice (some ⟨g, 0, none⟩) n c) xs) : HoldsK S.enc S.k w g 0 xs.toArray := by
  have hn : n = xs.length := h.rd.len
  subst hn
  intro j hj
  rw [size_flatK, List.size_toArray] at hj
  have hp := S.pos
  have hi : j / S.k < xs.length := by rw [Nat.div_lt_iff_lt_mul hp]; exact hj
  have hr : j % S.k < S.k := Nat.mod_lt _ hp
  have h1 := World.ownsRow.cellAt h j hj
  have h2 := World.ownsRow.frozenAt h j
  rw [Nat.zero_add]
  refine ⟨?_, h2⟩
  rw [h1, get_flatK _ _ _ _ (by simpa using hj)]
  have hu : (S.enc xs[j / S.k])[j % S.k]? = some ((S.enc xs[j / S.k])[j % S.k]!) := by
    have : j % S.k < (S.enc xs[j / S.k]).length := by rw [S.len]; exact hr
    rw [List.getElem?_eq_getElem this, getElem!_pos (S.enc xs[j / S.k]) (j % S.k) this]
  have := flat_get S xs (j / S.k) hi (j % S.k) _ hu
  rw [Nat.mul_comm, Nat.div_add_mod] at this
  rw [this]
  have hx : xs.toArray[j / S.k]! = xs[j / S.k] := by rw [getElem!_pos xs.toArray (j / S.k) (by simpa using hi)]; simp
  rw [hx]; rfl
theorem HoldsK.rd {α : Type} [Inhabited α] {S : SEnc α} {w : World} {g c : Nat} {xs : List α} (h : HoldsK S.enc S.k w g 0 xs.toArray) (hc : xs.length ≤ c) (hm : c ≤ maxLen) : RdS S w (.slice (some ⟨g, 0, none⟩) xs.length c) xs := by
  refine ⟨flat_len S xs, .inr ⟨_, c, rfl, hc, hm, rfl, fun j u hj => ?_⟩⟩
  have hp := S.pos
  have hlt : j < xs.length * S.k := by
    have := (List.getElem?_eq_some_iff.1 hj).1
    rwa [flat_len] at this
  have hi : j / S.k < xs.length := by rw [Nat.div_lt_iff_lt_mul hp]; exact hlt
  have hr : j % S.k < S.k := Nat.mod_lt _ hp
  have h1 := (h j (by rw [size_flatK, List.size_toArray]; exact hlt)).1
  rw [get_flatK _ _ _ _ (by simpa using hlt)] at h1
  have hu : (S.enc xs[j / S.k])[j % S.k]? = some ((S.enc xs[j / S.k])[j % S.k]!) := by
    have : j % S.k < (S.enc xs[j / S.k]).length := by rw [S.len]; exact hr
    rw [List.getElem?_eq_getElem this, getElem!_pos (S.enc xs[j / S.k]) (j % S.k) this]
  have h3 := flat_get S xs (j / S.k) hi (j % S.k) _ hu
  rw [Nat.mul_comm, Nat.div_add_mod] at h3
  rw [h3] at hj
  have hx : xs.toArray[j / S.k]! = xs[j / S.k] := by rw [getElem!_pos xs.toArray (j / S.k) (by simpa using hi)]; simp
  rw [hx] at h1
  rw [addk, h1]
  exact hj
/-- a row that is read, and the kind of its block -/
def RdT {α : Type} (S : SEnc α) (e : TypeId) (w : World) (v : Value) (xs : List α) : Prop := RdS S w v xs ∧ ∀ q n c, v = .slice (some q) n c → ∃ cs, w.heap[q.block]? = some (.cells cs e (0, 0))
theorem RdT.keep {α : Type} {S : SEnc α} {e : TypeId} {w w' : World} {v : Value} {xs : List α} {T : Nat → Prop} (h : RdT S e w v xs) (k : Kp T w w') (hn : NoT e T w) : RdT S e w' v xs := by
  obtain ⟨h1, h2⟩ := h
  refine ⟨h1.keep k fun p m c hv hT => ?_, fun q n c hv => ?_⟩
  · obtain ⟨cs, hcs⟩ := h2 p m c hv
    exact hn _ _ _ hT hcs
  · obtain ⟨cs, hcs⟩ := h2 q n c hv
    exact ⟨cs, k.at hcs fun hT => hn _ _ _ hT hcs⟩
theorem sortS {α : Type} [Inhabited α] (S : SEnc α) {ρ : Ren} (L : SlLaysF0.n6 Cz.P ρ) (aE : ∀ w, (isAgg (ρ.t 24)).run Cz.P w = .ok true w) (zE : ∀ w, (Go.sizeOf (ρ.t 24)).run Cz.P w = .ok S.k w) (cf : α → α → Int) (hO : SWO (ltOf cf)) (g : Nat) (cb : Array Value)
    (eg : ∀ args w, (callFunc g args).run Cz.P w = .ok (.enter g args) w) {e : TypeId} {w : World} {base : Nat} {a : Option Addr} {n c : Nat} {xs : List α} (ho : OwnS S e w base (.slice a n c) xs) (hsz : xs.length < 4611686018427387904)
    (hcmp : ∀ blk, (∃ cs, w.heap[blk]? = some (.cells cs e (0, 0))) → CmpLays Cz.P g cb S.enc S.k cf blk 0 xs.length w) :
    Calls Cz.P (ρ.f 6) #[.slice a n c, .func (.func g) #[] cb] w (CP (fun r w' => r = .tuple #[] ∧ Kp (fun k => (Value.slice a n c).ownBlock = some k) w w' ∧ ∃ ys, ys.Perm xs ∧ (ys.Pairwise fun x y => ¬ cf y x < 0) ∧ RdT S e w' (.slice a n c) ys) (fun _ _ => False)) := by
  have hn : n = xs.length := ho.rd.len
  subst hn
  have ho' := ho
  obtain ⟨hl, ⟨hx, h0⟩ | ⟨gb, cap, cur, hx, hb, hg, h1, h2, h3, h4⟩⟩ := ho'
  · have hxs : xs = [] := List.eq_nil_of_length_eq_zero h0
    subst hxs
    refine (AnyF.slices_SortFunc_none L a c (.func (.func g) #[] cb) w).mono fun en w' ⟨he, hw⟩ => ?_
    subst he; subst hw
    exact ⟨rfl, .refl _ _, [], .refl _, .nil, ho.rd, fun q n c h => by rw [hx] at h; cases h⟩
  · cases hx
    have hH := ho.holdsK
    have hcon := AnyQ.slices_SortFunc L S.k aE zE S.enc S.len S.one cf hO g cb gb 0 c xs.toArray w eg (by simpa using hcmp gb ⟨_, hg⟩) hH (lt_of_get hg) (by simpa using hsz)
    rw [List.size_toArray] at hcon
    refine hcon.mono fun en w' ⟨he, d', m, os, hp, hs, hw⟩ => ?_
    subst he
    obtain ⟨p1', p2, p3⟩ := hp
    have p1 : d'.size = xs.length := by simpa using p1'
    have e1 : d'.extract 0 xs.length = d' := by rw [← p1]; exact Array.extract_size
    have e2 : xs.toArray.extract 0 xs.length = xs.toArray := by
      have := Array.extract_size (xs := xs.toArray); rwa [List.size_toArray] at this
    rw [e1, e2] at p3
    have hlen : d'.toList.length = xs.length := by simpa using p1
    refine ⟨rfl, ?_, d'.toList, by simpa using p3, ?_, ?_, ?_⟩
    · rw [hw]; exact (Kp.sortW _ _ _ _ _ _ _ _).mono fun k _ hk => by simp [Value.ownBlock, hk]
    · rw [List.pairwise_iff_getElem]
      intro i j hi hj hij
      have hi' : i < d'.size := by simpa using hi
      have hj' : j < d'.size := by simpa using hj
      have := hs i j (Nat.zero_le _) hij (by omega)
      rw [getElem!_pos d' j hj', getElem!_pos d' i hi'] at this
      unfold ltOf at this
      simpa using this
    · have hH' : HoldsK S.enc S.k w' gb 0 d'.toList.toArray := by
        rw [hw, Array.toArray_toList]
        exact holdsK_sortWorldK_c S.enc S.k w gb 0 xs.toArray d' m os hH (lt_of_get hg) p1'
      have := Go.Lf.HoldsK.rd (c := c) hH' (by omega) h2
      rwa [hlen] at this
    · intro q n' c' hq
      cases hq
      rw [hw]
      unfold sortWorldK putRowK putRow
      have hlt : gb < (mapBlock (Sort.ahead w m) gb (putCells id 0 (flatK S.enc S.k d'))).heap.size := by
        have := lt_of_get hg
        simp [mapBlock]; exact this
      rw [heap_grow_old _ _ hlt]
      have hg' : (Sort.ahead w m).heap[gb]? = some (.cells cur e (0, 0)) := hg
      unfold mapBlock
      simp only [Array.getElem?_modify, hg', if_true, Option.map_some, onCells]
      exact ⟨_, rfl⟩
end Go.Lf
end

section
set_option linter.unusedVariables false
set_option linter.unusedSimpArgs false
namespace Go.Lf
open Go Go.Proofs Go.Sort Go.Shelf
instance : Inhabited Rg := ⟨⟨0, 0⟩⟩
set_option maxRecDepth 100000 in
theorem has101 : Cz.has 101 = true := by kernel_rfl
theorem K101 (r : Rg) (w : World) : Calls Cz.P 101 #[.agg #[.int .u32 (r.lo : Int), .int .u32 (r.hi : Int)]] w (CP (fun v w' => Kp no w w' ∧ v = .bool (decide (r.hi < r.lo))) (fun _ _ => False)) := by
  refine C101 ?_
  unfold B101
  refine nw_i fun k w1 ek hk hg => ⟨_, cl hg rfl, _, cl hg rfl, hk, ?_⟩
  simp only [Value.bool.injEq, decide_eq_decide]
  omega
def J122 (rs : List Rg) (w : World) (vs : List Value) (w' : World) : Prop :=
  match vs with | [.int _ i] => Kp no w w' ∧ ∃ k : Nat, i = k ∧ k ≤ rs.length ∧ ∀ r ∈ rs.take k, ¬ r.hi < r.lo | _ => False
theorem K102 {w : World} {a : Option Addr} {n c : Nat} {rs : List Rg} (hv : Rgs w (.slice a n c) rs) (hl : rs.length ≤ 1048576) :
    Calls Cz.P 102 #[.slice a n c, .func (.func 101) #[] #[]] w (CP (fun r w' => Kp no w w' ∧ ∃ b : Bool, r = .bool b ∧ (b = true ↔ ∃ x ∈ rs, x.hi < x.lo)) (fun _ _ => False)) := by
  refine C102 ?_
  have hn := hv.len
  subst hn
  unfold B102
  refine (C122 (Rt := fun r w' => Kp no w w' ∧ ∃ i : Int, r = .int .i64 i ∧ (i ≥ 0 ↔ ∃ x ∈ rs, x.hi < x.lo)) (E := fun _ _ => False) ?_).mono ?_
  · unfold B122
    refine ⟨J122 rs w, M111 rs, ⟨.refl _ _, 0, rfl, Nat.zero_le _, by simp⟩, ?_⟩
    rintro i w1 ⟨hk, k, rfl, hkl, hx⟩
    unfold B122_l1
    have hv1 : Rgs w1 (.slice a rs.length c) rs := hv.keep hk (fun _ _ _ _ => nf)
    refine ifB_dec (fun h => ?_) (fun h => ?_)
    · have hk' : k < rs.length := by omega
      obtain ⟨q, rfl, hc0, hc1⟩ := hv1.at hk'
      have hi1 : IntKind.i64.wrap ((k : Int) + 1) = ((k + 1 : Nat) : Int) := by rw [wrap64 (by omega) (by omega)]; omega
      refine need_and (dec (by omega)) (dec (by omega)) ?_
      rw [nn_some, show (k : Int).toNat * 2 = k * 2 by omega]
      refine ⟨_, _, ⟨hc0, hc1, trivial⟩, need_iff.2 ⟨has101, ?_⟩⟩
      show Calls Cz.P 101 #[_] w1 _
      refine (K101 rs[k] w1).mono fun e w2 hp => ?_
      cases e with
      | returned r =>
        obtain ⟨hk2, rfl⟩ := hp
        refine ⟨_, rfl, ifB_dec (fun h2 => ⟨hk.then hk2, k, rfl, fun _ => ⟨_, List.getElem_mem hk', h2⟩, fun _ => by omega⟩) (fun h2 => ⟨⟨hk.then hk2, k + 1, hi1, hk', ?_⟩, by show rs.length - (IntKind.i64.wrap ((k : Int) + 1)).toNat < rs.length - (k : Int).toNat; rw [hi1]; omega⟩)⟩
        rw [List.take_add_one, List.getElem?_eq_getElem hk']
        intro x hx'
        rcases List.mem_append.1 hx' with hx' | hx'
        · exact hx x hx'
        · rw [List.mem_singleton.1 hx']; exact h2
      | _ => exact hp
    · have hk' : k = rs.length := by omega
      subst hk'
      rw [List.take_length] at hx
      exact ⟨hk, -1, rfl, fun h => absurd h (by decide), fun ⟨x, h1, h2⟩ => (hx x h1 h2).elim⟩
  · intro e w' hp
    cases e with
    | returned r =>
      obtain ⟨hk, i, rfl, hi⟩ := hp
      refine ⟨_, rfl, hk, _, rfl, ?_⟩
      rw [decide_eq_true_iff]; exact hi
    | _ => exact hp
theorem K104 {w : World} {a : Option Addr} {n c : Nat} {Rt : Value → World → Prop} {E : List PanicEntry → World → Prop}
    (h : ∀ k w', Kp no w w' → k = w.heap.size → w'.heap[k]? = some (.cells #[.slice a n c] 23 (0, 0)) → Rt (.func (.func 125) #[] #[.pointer (some ⟨k, 0, none⟩)]) w') : Calls Cz.P 104 #[.slice a n c] w (CP Rt E) := by
  refine C104 ?_
  unfold B104
  exact nw_i fun b w1 e hk hg => h b w1 hk e hg
def J125 (rs : List Rg) (I : Nat → World → Prop) (S : Nat → Prop) (w : World) (vs : List Value) (w' : World) : Prop :=
  match vs with | [.int _ i] => Kp S w w' ∧ ∃ k : Nat, i = k ∧ k ≤ rs.length ∧ I k w' | _ => False
/-- the values of a row, one by one -/
theorem K125 {w0 w : World} {q : Addr} {v1 : Value} {a : Option Addr} {m c : Nat} {rs : List Rg} {I : Nat → World → Prop} {S : Nat → Prop}
    (hq : w.cell? q = some (.slice a m c)) (hv : Rgs w0 (.slice a m c) rs) (h0 : Kp no w0 w) (hl : rs.length ≤ 1048576)
    (hS : ∀ k, S k → w0.heap.size ≤ k) (hI : I 0 w) (hIk : ∀ i w' w'', I i w' → Kp no w' w'' → I i w'')
    (hy : ∀ (i : Nat) (h : i < rs.length) (w' : World), w.heap.size ≤ w'.heap.size → I i w' → vCall Cz v1 [.agg #[.int .u32 (rs[i].lo : Int), .int .u32 (rs[i].hi : Int)]] w' (CP (fun r w'' => r = .bool true ∧ Kp S w' w'' ∧ I (i + 1) w'') (fun _ _ => False))) :
    Calls Cz.P 125 #[v1, .pointer (some q)] w (CP (fun r w' => r = .tuple #[] ∧ Kp S w w' ∧ I rs.length w') (fun _ _ => False)) := by
  refine C125 ?_
  have hm := hv.len
  subst hm
  unfold B125
  refine ⟨_, _, _, hq, J125 rs I S w, M111 rs, ⟨.refl _ _, 0, rfl, Nat.zero_le _, hI⟩, ?_⟩
  rintro x9 w1 ⟨hk1, k, rfl, hkl, hI1⟩
  unfold B125_l1
  have hz0 := h0.size
  have hk01 : ∀ {w'}, Kp S w w' → Kp no w0 w' := fun h => h0.trans h (fun k hk hs => by have := hS k hs; omega)
  refine ifB_dec (fun h => ?_) (fun h => ?_)
  · have hk' : k < rs.length := by omega
    have hv1 : Rgs w1 (.slice a rs.length c) rs := hv.keep (hk01 hk1) (fun _ _ _ _ => nf)
    obtain ⟨p, rfl, hc0, hc1⟩ := hv1.at hk'
    have hi1 : IntKind.i64.wrap ((k : Int) + 1) = ((k + 1 : Nat) : Int) := by rw [wrap64 (by omega) (by omega)]; omega
    refine need_and (dec (by omega)) (dec (by omega)) ?_
    rw [nn_some, show (k : Int).toNat * 2 = k * 2 by omega]
    refine ⟨_, _, ⟨hc0, hc1, trivial⟩, nw_i fun b w2 e2 hk2 g2 => st_i g2 (by simp) fun w3 hk3 g3 => st_i g3 (by simp) fun w4 hk4 g4 => ⟨_, _, ⟨cl g4 rfl, cl g4 rfl, trivial⟩, ?_⟩⟩
    have hk14 : Kp no w1 w4 := (hk2.trans hk3 (fun b hb h => by omega)).trans hk4 (fun b hb h => by omega)
    have hz1 := hk1.size
    have hz4 := hk14.size
    refine vCall_mono (hy k hk' w4 (by omega) (hIk _ _ _ hI1 hk14)) fun e w5 hp => ?_
    cases e with
    | returned r =>
      obtain ⟨rfl, hk5, hI5⟩ := hp
      refine ⟨_, rfl, ifB_false.2 ⟨⟨(hk1.trans hk14 (fun _ _ h => h.elim)).trans hk5 (fun _ _ h => h), k + 1, hi1, hk', hI5⟩, by show rs.length - (IntKind.i64.wrap ((k : Int) + 1)).toNat < rs.length - (k : Int).toNat; rw [hi1]; omega⟩⟩
    | _ => exact hp
  · have hk' : k = rs.length := by omega
    subst hk'
    exact ⟨rfl, hk1, hI1⟩
def I133 (k6 l : Nat) (rc : Loop) (w4 : World) (rs : List Rg) (i : Nat) (w' : World) : Prop :=
  Kp (fun b => b = k6 ∨ b = l) w4 w' ∧ (∃ v, w'.heap[k6]? = some (.cells #[v] 23 (0, 0)) ∧ OwnR w' w4.heap.size v (rs.take i)) ∧ LoopAt w' l rc .ready none
/-- the ranges anew -/
theorem K123 {w0 w : World} {q : Nat} {a : Option Addr} {m c : Nat} {rs : List Rg} (hq : w.heap[q]? = some (.cells #[.slice a m c] 23 (0, 0))) (hv : Rgs w0 (.slice a m c) rs) (h0 : Kp no w0 w) (hl : rs.length ≤ 1048576) :
    Calls Cz.P 123 #[.func (.func 125) #[] #[.pointer (some ⟨q, 0, none⟩)]] w (CP (fun r w' => Kp no w w' ∧ ∃ a' n' c', r = .slice a' n' c' ∧ OwnR w' w.heap.size (.slice a' n' c') rs) (fun _ _ => False)) := by
  refine C123 ?_
  unfold B123
  refine C133 ?_
  unfold B133
  refine nw_i fun k6 w1 e6 hk1 g6 => nw_i fun D w2 eD hk2 gD rc hrc => nw_i fun l9 w3 e9 hk3 g9 => ?_
  have z0 := h0.size
  have z1 := hk1.size
  have z2 := hk2.size
  have z3 := hk3.size
  have s6 := lt_of_get g6
  have sD := lt_of_get gD
  have s9 := lt_of_get g9
  have sq := lt_of_get hq
  have hk03 : Kp no w w3 := hk1.then (hk2.then hk3)
  have q6 := (hk2.then hk3).at g6 nf
  have qq := hk03.at hq nf
  have qD := hk3.at gD nf
  have hL : LoopAt w3 l9 rc .ready none := LoopAt.of g9 hrc
  refine need_iff.2 ⟨by rfl, ?_⟩
  show Calls Cz.P 125 #[.func (.yield l9) #[] #[], .pointer (some ⟨q, 0, none⟩)] w3 _
  refine (K125 (I := I133 k6 l9 rc w3 rs) (S := fun b => b = k6 ∨ b = l9 ∨ w3.heap.size ≤ b) (w0 := w0) (w := w3) (cl qq rfl) hv (h0.then hk03) hl (fun k hk => by omega) ⟨.refl _ _, ⟨_, q6, .nil _ _ _ _⟩, hL⟩ ?_ ?_).mono ?_
  · rintro i w' w'' ⟨h1, ⟨v, h2, h3⟩, h4⟩ hk
    exact ⟨h1.trans hk (fun _ _ h => h.elim), ⟨v, hk.at h2 nf, h3.keep hk .no⟩, h4.keep hk nf⟩
  · rintro i hi w' hsz ⟨h1, ⟨v, h2, h3⟩, h4⟩
    show Rnd Cz.P l9 #[_] w' _
    refine B133_r1_rnd hrc h4 ?_
    unfold B133_r1
    refine nw_i fun k13 w4 e13 hk4 g13 => st_i g13 (by simp) fun w5 hk5 g5 => st_i g5 (by simp) fun w6 hk6 g14 => ?_
    have hk46 : Kp no w' w6 := (hk4.trans hk5 (fun b hb h => by omega)).trans hk6 (fun b hb h => by omega)
    have s13 := lt_of_get g14
    have z4 := hk4.size
    have z46 := hk46.size
    have h2' := hk46.at h2 nf
    have h3' := h3.keep hk46 .no
    have h4' := h4.keep hk46 nf
    refine ⟨rfl, none, h4', ?_⟩
    have hkb : Kp (fun k => k = l9) w6 (putLoop w6 l9 rc .busy none) := LoopAt.kp
    have hLb : LoopAt (putLoop w6 l9 rc .busy none) l9 rc .busy none := h4'.put
    have h3b : OwnR (putLoop w6 l9 rc .busy none) w3.heap.size v (rs.take i) := h3'.keep hkb h4'.noT
    generalize putLoop w6 l9 rc .busy none = w21 at hkb hLb h3b
    have hb2 := hkb.at h2' (by omega)
    have hb13 := hkb.at g14 (by omega)
    have zb := hkb.size
    obtain ⟨av, cv, rfl⟩ := h3b.slice
    obtain ⟨a1, n1, c1, w28, hr1, a2, n2, c2, w32, hr2, ho2, hk32⟩ := appE (ty := 23) E23 (by decide) (by decide) h3b rs[i] (cs := #[.int .u32 (rs[i].lo : Int), .int .u32 (rs[i].hi : Int)]) rfl (by omega) (by rw [List.length_take]; omega)
    have n6 : ¬ (Value.slice av (rs.take i).length cv).ownBlock = some k6 := fun h => by have := h3b.base_le k6 h; omega
    have n9 : ¬ (Value.slice av (rs.take i).length cv).ownBlock = some l9 := h3b.ne hLb (by simp)
    have c6 := hk32.at hb2 n6
    refine ⟨_, _, _, cl hb2 rfl, _, _, ⟨cl hb13 rfl, cl hb13 rfl, trivial⟩, _, _, _, _, hr1, _, _, _, _, hr2, st_i c6 (by simp) fun w33 hk33 g33 => ⟨rfl, none, (hLb.keep hk32 n9).keep hk33 (by omega), rfl, ?_⟩⟩
    have hL33 := (hLb.keep hk32 n9).keep hk33 (by omega)
    have hkp : Kp (fun k => k = l9) w33 (putLoop w33 l9 rc .ready none) := LoopAt.kp
    have hkk : Kp (fun b => b = k6 ∨ b = l9 ∨ w3.heap.size ≤ b) w' (putLoop w33 l9 rc .ready none) := by
      refine ((((hk46.then hkb).mono (S' := fun b => b = k6 ∨ b = l9 ∨ w3.heap.size ≤ b) (fun _ _ h => .inr (.inl h))).trans hk32 (fun k _ h => .inr (.inr (h3b.base_le k h).1))).trans hk33 (fun _ _ h => .inl h)).trans hkp (fun _ _ h => .inr (.inl h))
    refine ⟨hkk, ?_, ⟨_, hkp.at g33 (by omega), ?_⟩, hL33.put⟩
    · exact h1.trans hkk (fun k hk h => by omega)
    · rw [List.take_add_one, List.getElem?_eq_getElem hi]
      exact (ho2.keep hk33 (.one c6 (by decide))).keep hkp hL33.noT
  · intro e w' hp
    cases e with
    | returned r =>
      obtain ⟨rfl, _, h1, ⟨v, h2, h3⟩, h4⟩ := hp
      refine ⟨.ready, none, h4, by simp, ?_⟩
      have hkp : Kp (fun k => k = l9) w' (putLoop w' l9 rc .exhausted none) := LoopAt.kp
      rw [List.take_length] at h3
      obtain ⟨av, cv, rfl⟩ := h3.slice
      have hk30 : Kp (fun b => b = k6 ∨ b = l9) w3 (putLoop w' l9 rc .exhausted none) := h1.trans hkp (fun _ _ h => .inr h)
      have qD' := hk30.at qD (by omega)
      have hkD : Kp (fun k => k = D) (putLoop w' l9 rc .exhausted none) ((putLoop w' l9 rc .exhausted none).putObj D (.deferred none)) := .put _ _ _
      refine ⟨_, _, _, cl (hkp.at h2 (by omega)) rfl, qD', _, _, _, rfl, ?_, _, _, _, rfl, ?_⟩
      · exact (hk03.trans hk30 (fun k hk h => by omega)).trans hkD (fun k hk h => by omega)
      · exact ((h3.base (by omega)).keep hkp h4.noT).keep hkD (.obj qD' (by simp))
    | _ => exact hp.elim
end Go.Lf
end
