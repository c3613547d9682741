/- Part 27 of the lemmas that a proof leans on; no claim is made here. By an AI agent. -/
import Derived.Test.YtofhodpdfbnkiaaGreatLfD10
import Derived.Test.YtofhodpdfbnkiaaGreatLfD12
import Derived.Test.YtofhodpdfbnkiaaGreatLfD22
import Derived.Test.YtofhodpdfbnkiaaGreatLfD25
import Derived.Test.YtofhodpdfbnkiaaGreatLfD26
section
set_option linter.unusedVariables false
set_option linter.unusedSimpArgs false
namespace Go.Lf
open Go Go.Proofs Go.Sort Go.Shelf
def cmpI (a b : Int) : Int := if a < b then -1 else if b < a then 1 else 0
theorem K121 (x : Int) (w : World) : Calls Cz.P 121 #[.int .u32 x] w (CP (fun r w' => w' = w ∧ r = .bool false) (fun _ _ => False)) := by
  refine C121 ?_
  unfold B121
  exact ⟨rfl, by simp⟩
theorem K93 (x y : Int) (w : World) : Calls Cz.P 93 #[.int .u32 x, .int .u32 y] w (CP (fun r w' => w' = w ∧ r = .int .i64 (cmpI x y)) (fun _ _ => False)) := by
  refine C93 ?_
  unfold B93
  refine (K121 x w).mono fun e w1 hp => ?_
  cases e with
  | returned r =>
    obtain ⟨rfl, rfl⟩ := hp
    refine ⟨_, rfl, (K121 y w1).mono fun e w2 hp => ?_⟩
    cases e with
    | returned r =>
      obtain ⟨rfl, rfl⟩ := hp
      refine ⟨_, rfl, ifB_false.2 (ifB_false.2 (ifB_dec (fun h => ⟨rfl, ?_⟩) (fun h => ifB_dec (fun h' => ⟨rfl, ?_⟩) (fun h' => ⟨rfl, ?_⟩))))⟩
      · unfold cmpI; rw [if_pos h]
      · unfold cmpI; rw [if_neg h, if_pos h']
      · unfold cmpI; rw [if_neg h, if_neg h']
    | _ => exact hp
  | _ => exact hp
def Gr (w w' : World) : Prop := ∃ q os', w' = grow (w.drewN q) os'
theorem Gr.refl (w : World) : Gr w w := ⟨0, #[], by simp [World.drewN]⟩
theorem Gr.trans {w w' w'' : World} (h : Gr w w') (h' : Gr w' w'') : Gr w w'' := by
  obtain ⟨q, os, rfl⟩ := h
  obtain ⟨q', os', rfl⟩ := h'
  refine ⟨q + q', os ++ os', ?_⟩
  unfold grow World.drewN
  simp [Array.append_assoc, Nat.add_assoc]
theorem Gr.alloc (w : World) (o : Obj) : Gr w (w.alloc o) := ⟨0, #[o], by rw [alloc_eq_grow]; rfl⟩
theorem Gr.drew (w : World) : Gr w w.drew := ⟨1, #[], by rw [grow_empty]; rfl⟩
theorem nw_g {w : World} {o : Obj} {K : Nat → World → Prop} (k : ∀ b w', b = w.heap.size → Gr w w' → Kp no w w' → w'.heap[b]? = some o → K b w') : nw w o K := k _ _ rfl (.alloc _ _) (.alloc _ _ _) (get_alloc_new _ _)
theorem K105 (r s : Rg) (w : World) : Calls Cz.P 105 #[.agg #[.int .u32 (r.lo : Int), .int .u32 (r.hi : Int)], .agg #[.int .u32 (s.lo : Int), .int .u32 (s.hi : Int)]] w (CP (fun v w' => v = .int .i64 (cmpI r.lo s.lo) ∧ Gr w w') (fun _ _ => False)) := by
  refine C105 ?_
  unfold B105
  refine nw_g fun k w1 e1 hr1 hk1 g1 => nw_g fun k' w2 e2 hr2 hk2 g2 => ⟨_, cl (hk2.at g1 nf) rfl, _, cl g2 rfl, (K93 _ _ _).mono fun e w' hp => ?_⟩
  cases e with
  | returned r =>
    obtain ⟨rfl, rfl⟩ := hp
    exact ⟨_, rfl, rfl, hr1.trans hr2⟩
  | _ => exact hp
theorem cmpI_lt (a b : Int) : decide (cmpI a b < 0) = decide (a < b) := by
  unfold cmpI
  split
  · simp [*]
  · split <;> simp [*]
theorem swo_key {α : Type} (key : α → Int) : SWO (ltOf fun x y : α => cmpI (key x) (key y)) where
  irrefl x := by unfold ltOf; rw [cmpI_lt]; simp
  trans x y z h1 h2 := by unfold ltOf at *; rw [cmpI_lt] at *; simp at *; omega
  ntrans x y z h1 h2 := by unfold ltOf at *; rw [cmpI_lt] at *; simp at *; omega
theorem K124 {w : World} {base : Nat} {a : Option Addr} {n c : Nat} {rs : List Rg} (ho : OwnR w base (.slice a n c) rs) (hsz : rs.length < 4611686018427387904) :
    Calls Cz.P 124 #[.slice a n c, .func (.func 105) #[] #[]] w (CP (fun r w' => r = .tuple #[] ∧ Kp (fun k => (Value.slice a n c).ownBlock = some k) w w' ∧ ∃ ys : List Rg, ys.Perm rs ∧ (ys.Pairwise fun x y => x.lo ≤ y.lo) ∧ Rgs w' (.slice a n c) ys) (fun _ _ => False)) := by
  have h := sortS SR Tryz.l124 (fun w => by kernel_rfl) (fun w => by kernel_rfl) (fun x y : Rg => cmpI x.lo y.lo) (swo_key (fun x : Rg => (x.lo : Int))) 105 #[]
    (enters_of Tryz.func105 (by kernel_rfl) rfl) ho hsz (fun blk hb m os dk hdk x y => (K105 x y _).mono fun e w' hp => by
      cases e with
      | returned r => exact ⟨by rw [hp.1], hp.2⟩
      | _ => exact hp.elim)
  refine Calls.mono (show Calls Cz.P 124 #[.slice a n c, .func (.func 105) #[] #[]] w _ from h) fun e w' hp => ?_
  cases e with
  | returned r =>
    obtain ⟨rfl, hk, ys, h1, h2, h3⟩ := hp
    refine ⟨rfl, hk, ys, h1, h2.imp fun {x y} h => ?_, h3.1⟩
    have := cmpI_lt y.lo x.lo
    rw [decide_eq_decide] at this
    omega
  | _ => exact hp
def J67 (ys : List Rg) (w5 : World) (vs : List Value) (w' : World) : Prop :=
  match vs with | [v, .int _ i] => Kp no w5 w' ∧ ∃ k : Nat, i = k ∧ k ≤ ys.length ∧ OwnR w' w5.heap.size v (joinAll (ys.take k)) | _ => False
def M67 (ys : List Rg) (vs : List Value) (_ : World) : Nat := match vs with | [_, .int _ i] => ys.length - i.toNat | _ => 0
def JC67 (b : Bool) (w : World) (vs : List Value) (w' : World) : Prop := match vs with | [.bool b'] => b' = b ∧ w' = w | _ => False
theorem joined_len (out : List Rg) (r : Rg) : (joined out r).length ≤ out.length + 1 := by
  rcases List.eq_nil_or_concat out with rfl | ⟨I, l, rfl⟩
  · simp [joined]
  · rw [List.concat_eq_append, joined_snoc]; split <;> simp
theorem joinAll_len (s : List Rg) : ∀ k, k ≤ s.length → (joinAll (s.take k)).length ≤ k
  | 0, _ => by simp [joinAll]
  | k + 1, h => by
    rw [joinAll_take (by omega)]
    have := joined_len (joinAll (s.take k)) s[k]
    have := joinAll_len s k (by omega)
    omega
theorem joined_rok {out : List Rg} {r : Rg} (h : ∀ x ∈ out, x.ok) (hr : r.ok) : ∀ x ∈ joined out r, x.ok := by
  intro x hx
  rcases List.eq_nil_or_concat out with rfl | ⟨I, l, rfl⟩
  · simp [joined] at hx; subst hx; exact hr
  · rw [List.concat_eq_append] at *
    rw [joined_snoc] at hx
    split at hx
    · rcases List.mem_append.1 hx with hx | hx
      · exact h x (List.mem_append_left _ hx)
      · have hl := h l (by simp)
        rw [List.mem_singleton.1 hx]
        exact ⟨hl.1, Nat.max_lt.2 ⟨hl.2, hr.2⟩⟩
    · rcases List.mem_append.1 hx with hx | hx
      · exact h x hx
      · rw [List.mem_singleton.1 hx]; exact hr
theorem joinAll_rok {s : List Rg} (h : ∀ x ∈ s, x.ok) : ∀ k, k ≤ s.length → ∀ x ∈ joinAll (s.take k), x.ok
  | 0, _ => by simp [joinAll]
  | k + 1, hk => by
    rw [joinAll_take (by omega)]
    exact joined_rok (joinAll_rok h k (by omega)) (h _ (List.getElem_mem _))
theorem K67 {w : World} {a : Option Addr} {n c : Nat} {rs : List Rg} (hv : Rgs w (.slice a n c) rs) (hok : ∀ r ∈ rs, r.ok) (hl : rs.length ≤ 1048576) :
    Calls Cz.P 67 #[.slice a n c] w (CP (PoolPost rs w) (fun _ _ => False)) := by
  refine C67 ?_
  unfold B67
  refine (K102 hv hl).mono fun e w1 hp => ?_
  cases e with
  | returned r =>
    obtain ⟨hk1, b, rfl, hb⟩ := hp
    refine ⟨_, rfl, ifB_split (fun hbt => ⟨hk1, .inl ⟨hb.1 hbt, rfl⟩⟩) (fun hbf => ?_)⟩
    have hall : ∀ x ∈ rs, x.lo ≤ x.hi := by
      intro x hx
      rcases Nat.lt_or_ge x.hi x.lo with h | h
      · have := hb.2 ⟨x, hx, h⟩; rw [hbf] at this; cases this
      · exact h
    have hn := hv.len
    subst hn
    refine K104 fun k2 w2 hk2 e2 g2 => ⟨_, rfl, ?_⟩
    refine C103 ?_
    unfold B103
    refine (K123 (w0 := w) g2 hv (hk1.then hk2) hl).mono fun e w3 hp => ?_
    cases e with
    | returned r =>
      obtain ⟨hk3, a3, n3, c3, rfl, ho3⟩ := hp
      refine ⟨_, _, _, rfl, (K124 ho3 (by omega)).mono fun e w5 hp => ?_⟩
      cases e with
      | returned r =>
        obtain ⟨rfl, hk5, ys, hperm, hsort, hys⟩ := hp
        have hk25 : Kp no w2 w5 := hk3.trans hk5 (fun k hk hs => by have := (ho3.base_le k hs).1; omega)
        have hk05 : Kp no w w5 := (hk1.then hk2).then hk25
        have hyl : ys.length = rs.length := hperm.length_eq
        have hyok : ∀ r ∈ ys, r.ok := fun r hr => hok r (hperm.mem_iff.1 hr)
        have hyall : ∀ r ∈ ys, r.lo ≤ r.hi := fun r hr => hall r (hperm.mem_iff.1 hr)
        have hpool : joinAll ys = pool rs := (pool_sorted hperm hsort hall).uniq (pool_ok hall)
        have hn3 : n3 = ys.length := hys.len
        subst hn3
        refine ⟨rfl, _, _, _, rfl, J67 ys w5, M67 ys, ⟨.refl _ _, 0, rfl, Nat.zero_le _, .nil _ _ _ _⟩, ?_⟩
        rintro av nv cv x w6 ⟨hk6, k, rfl, hkl, ho6⟩
        unfold B67_l1
        have hnv : nv = (joinAll (ys.take k)).length := ho6.rd.len
        have hjl := joinAll_len ys k hkl
        have hjo := joinAll_rok hyok k hkl
        have hz5 := hk6.size
        refine ifB_dec (fun h => ?_) (fun h => ?_)
        · have hk' : k < ys.length := by omega
          have hys6 : Rgs w6 (.slice a3 ys.length c3) ys := hys.keep hk6 (fun _ _ _ _ => nf)
          obtain ⟨q, rfl, hc0, hc1⟩ := hys6.at hk'
          have hr := hyok _ (List.getElem_mem hk')
          have hr' := hr
          unfold Rg.ok at hr'
          have hi1 : IntKind.i64.wrap ((k : Int) + 1) = ((k + 1 : Nat) : Int) := by rw [wrap64 (by omega) (by omega)]; omega
          have hm : ys.length - (IntKind.i64.wrap ((k : Int) + 1)).toNat < ys.length - (k : Int).toNat := by rw [hi1]; omega
          refine need_and (dec (by omega)) (dec (by omega)) ?_
          rw [nn_some, show (k : Int).toNat * 2 = k * 2 by omega]
          refine ⟨_, _, ⟨hc0, hc1, trivial⟩, nw_i fun k26 w7 e7 hk7 g7 => st_i g7 (by simp) fun w8 hk8 g8 => st_i g8 (by simp) fun w9 hk9 g9 => ?_⟩
          have hk69 : Kp no w6 w9 := (hk7.trans hk8 (fun b hb h => by omega)).trans hk9 (fun b hb h => by omega)
          have hk69d : Kp no w6 w9.drew := hk69.then (.drew no _)
          have hod : OwnR w9.drew w5.heap.size (.slice av nv cv) (joinAll (ys.take k)) := ho6.keep hk69d .no
          have s26 := lt_of_get g9
          have g9d : w9.drew.heap[k26]? = some (.cells #[.int .u32 (ys[k].lo : Int), .int .u32 (ys[k].hi : Int)] 96 (0, 0)) := g9
          have htk := joinAll_take hk'
          have hjoin : ∀ w' v, Kp no w5 w' → OwnR w' w5.heap.size v (joined (joinAll (ys.take k)) ys[k]) → J67 ys w5 [v, .int .i64 (IntKind.i64.wrap ((k : Int) + 1))] w' ∧ M67 ys [v, .int .i64 (IntKind.i64.wrap ((k : Int) + 1))] w' < M67 ys [.slice av nv cv, .int .i64 (k : Int)] w6 := by
            intro w' v h1 h2
            exact ⟨⟨h1, k + 1, hi1, hk', by rw [htk]; exact h2⟩, hm⟩
          have happ : ∀ w', Kp no w6 w' → w'.heap[k26]? = some (.cells #[.int .u32 (ys[k].lo : Int), .int .u32 (ys[k].hi : Int)] 96 (0, 0)) → joined (joinAll (ys.take k)) ys[k] = joinAll (ys.take k) ++ [ys[k]] →
              (∃ (x43 : Int) (x44 : Int), (w'.cell? ⟨k26, 0, none⟩ = some (.int .u32 x43) ∧ w'.cell? ⟨k26, 1, none⟩ = some (.int .u32 x44) ∧ True) ∧ ∃ (a45 : Option Addr) (n46 : Nat) (c47 : Nat), ∃ w48 : World, Sem.run Cz.P (Instr.buildSlice 23 1 #[(0, (.agg #[(.int .u32 x43), (.int .u32 x44)]))]) w' = .ok (.slice a45 n46 c47) w48 ∧ ∃ (a49 : Option Addr) (n50 : Nat) (c51 : Nat), ∃ w52 : World, Sem.run Cz.P (Builtin.append_ #[23, 23] 23 #[(.slice av nv cv), (.slice a45 n46 c47)]) w48 = .ok (.slice a49 n50 c51) w52 ∧ B67_j1 (J67 ys w5) (M67 ys) av nv cv (k : Int) w6 a49 n50 c51 w52) := by
            intro w' hkw g hj
            obtain ⟨a1, n1, c1, w10, hr1, a2, n2, c2, w11, hr2, ho2, hk11⟩ := appE (ty := 23) E23 (by decide) (by decide) (ho6.keep hkw .no) ys[k] (cs := #[.int .u32 (ys[k].lo : Int), .int .u32 (ys[k].hi : Int)]) rfl (Nat.le_trans hz5 hkw.size) (by omega)
            refine ⟨_, _, ⟨cl g rfl, cl g rfl, trivial⟩, _, _, _, _, hr1, _, _, _, _, hr2, ?_⟩
            unfold B67_j1
            refine hjoin _ _ ((hk6.then hkw).trans hk11 (fun b hb hs => by have := (ho6.base_le b hs).1; omega)) ?_
            rw [hj]; exact ho2
          rcases List.eq_nil_or_concat (joinAll (ys.take k)) with hnil | ⟨I, l, hcat⟩
          · rw [hnil] at hnv
            have hn0 : nv = 0 := hnv
            subst hn0
            refine ⟨JC67 false w9.drew, ifB_dec (fun h => absurd h (by decide)) (fun _ => ⟨⟨trivial, rfl, rfl⟩, trivial, trivial, rfl, rfl⟩), ?_⟩
            rintro b35 w36 ⟨rfl, rfl⟩
            exact ifB_false.2 (happ _ hk69d g9d (by rw [hnil]; rfl))
          · rw [List.concat_eq_append] at hcat
            have hnI : nv = I.length + 1 := by rw [hnv, hcat]; simp
            subst hnI
            have hlr : l.ok := hjo l (by rw [hcat]; simp)
            unfold Rg.ok at hlr
            have hIlen : I.length ≤ 1048576 := by rw [hcat] at hjl; simp at hjl; omega
            have hw1 : IntKind.i64.wrap (((I.length + 1 : Nat) : Int) - 1) = (I.length : Int) := by rw [wrap64 (by omega) (by omega)]; omega
            have hw1' : (IntKind.i64.wrap (((I.length + 1 : Nat) : Int) - 1)).toNat * 2 = I.length * 2 := by rw [hw1]; omega
            have hrd := hod.rd
            rw [hcat] at hrd
            obtain ⟨bb, oo, hav, hcl⟩ := hrd.at (i := I.length) (by simp)
            have hgl : (I ++ [l])[I.length]'(by simp) = l := by simp
            rw [hgl] at hcl
            have hlast : w9.drew.cell? ⟨bb, oo + I.length * 2 + 1, none⟩ = some (.int .u32 (l.hi : Int)) := hcl 1 _ rfl
            rw [hw1']
            rw [hw1]
            have hj := joined_snoc I l ys[k]
            rw [← hcat] at hj
            subst hav
            simp only [nn_some, addk]
            refine ⟨JC67 (decide ((ys[k].lo : Int) ≤ l.hi + 1)) w9.drew, ifB_dec (fun _ => ⟨_, cl g9d rfl, need_and (dec (by omega)) (dec (by omega)) ⟨_, hlast, by rw [wrap64 (x := (l.hi : Int)) (by omega) (by omega), wrap64 (x := (l.hi : Int) + 1) (by omega) (by omega), wrap64 (x := (ys[k].lo : Int)) (by omega) (by omega)], rfl⟩⟩) (fun h => absurd h (by omega)), ?_⟩
            rintro b35 w36 ⟨rfl, rfl⟩
            refine ifB_dec (fun h2 => ?_) (fun h2 => happ _ hk69d g9d (by rw [hj, if_neg h2, hcat]))
            have hkdd : Kp no w9.drew w9.drew.drew := .drew no _
            have g9dd : w9.drew.drew.heap[k26]? = some (.cells #[.int .u32 (ys[k].lo : Int), .int .u32 (ys[k].hi : Int)] 96 (0, 0)) := g9
            refine need_and (dec (by omega)) (dec (by omega)) ⟨_, hlast, _, cl g9dd rfl, need_and (dec (by omega)) (dec (by omega)) ?_⟩
            have hodd : OwnR w9.drew.drew w5.heap.size (.slice (some ⟨bb, oo, none⟩) (I.length + 1) cv) (I ++ [l]) := by rw [← hcat]; exact hod.keep hkdd .no
            obtain ⟨b2, hb2, hst⟩ := hodd.set (i := I.length) (by simp) (j := 1) (by decide) (u := .int .u32 (if (ys[k].hi : Int) > l.hi then (ys[k].hi : Int) else l.hi)) (y := ⟨l.lo, max l.hi ys[k].hi⟩) (by
              rw [hgl]
              show [_, Value.int .u32 ((max l.hi ys[k].hi : Nat) : Int)] = [_, _]
              congr 3
              split <;> omega) (K := fun w42 => B67_j1 (J67 ys w5) (M67 ys) (some ⟨bb, oo, none⟩) (I.length + 1) cv (k : Int) w6 (some ⟨bb, oo, none⟩) (I.length + 1) cv w42) (by
              intro w' hkw how
              unfold B67_j1
              refine hjoin _ _ ((hk6.then (hk69d.then hkdd)).trans hkw (fun b hb hs => by have := (ho6.base_le b hs).1; omega)) ?_
              rw [hj, if_pos h2]
              rwa [List.set_append_right _ _ (Nat.le_refl _), Nat.sub_self, List.set_cons_zero] at how)
            cases hb2
            rw [Nat.zero_add]
            exact hst
        · have hk' : k = ys.length := by omega
          subst hk'
          rw [List.take_length, hpool] at ho6
          have hpok := pool_ok hall
          have hrok : ∀ r ∈ pool rs, r.ok := by
            have := joinAll_rok hyok ys.length (Nat.le_refl _)
            rwa [List.take_length, hpool] at this
          have hplen : (pool rs).length ≤ 1048576 := by
            have := joinAll_len ys ys.length (Nat.le_refl _)
            rw [List.take_length, hpool] at this
            omega
          refine (K68 ho6.rgs hrok hplen).mono fun e w7 hp => ?_
          cases e with
          | returned r =>
            obtain ⟨hk7, rfl⟩ := hp
            have hk07 := (hk05.then hk6).then hk7
            refine ⟨_, rfl, ifB_dec (fun h2 => ⟨hk07, .inr ⟨hall, .inl ⟨h2, rfl⟩⟩⟩) (fun h2 => ⟨hk07, .inr ⟨hall, .inr ⟨by omega, _, _, _, rfl, ?_⟩⟩⟩)⟩
            exact (ho6.keep hk7 .no).base hk05.size
          | _ => exact hp
      | _ => exact hp
    | _ => exact hp
  | _ => exact hp
end Go.Lf
end

section
set_option linter.unusedVariables false
set_option linter.unusedSimpArgs false
namespace Go.Lf
open Go Go.Proofs
def bares (P : List Rg) : List Ls := (addrs P).map fun (a : Nat) => bare (a : Int) 0 0
theorem bares_len (P : List Rg) : (bares P).length = (addrs P).length := by simp [bares]
theorem look_absent {a : Int} : ∀ {T : List Ls} {i : Nat}, (∀ x ∈ T, x.addr ≠ a) → look a T i = none
  | [], _, _ => rfl
  | x :: T, i, h => by
    rw [look_cons, if_neg (h x (.head _))]
    exact look_absent fun y hy => h y (.tail _ hy)
theorem bares_take {P : List Rg} {k : Nat} (h : k < (addrs P).length) : (bares P).take (k + 1) = (bares P).take k ++ [bare ((addrs P)[k] : Nat) 0 0] := by
  unfold bares
  rw [List.take_add_one, List.getElem?_map, List.getElem?_eq_getElem h]
  rfl
theorem bares_fresh {P : List Rg} (hs : (addrs P).Pairwise (· < ·)) {k : Nat} (h : k < (addrs P).length) : look ((addrs P)[k] : Nat) ((bares P).take k) 0 = none := by
  refine look_absent fun x hx => ?_
  unfold bares at hx
  rw [← List.map_take] at hx
  obtain ⟨a, ha, rfl⟩ := List.mem_map.1 hx
  obtain ⟨i, hi, rfl⟩ := List.mem_iff_getElem.1 ha
  rw [List.length_take] at hi
  rw [List.getElem_take]
  have := List.pairwise_iff_getElem.1 hs i k (by omega) h (by omega)
  show ((addrs P)[i] : Int) ≠ ((addrs P)[k] : Nat)
  omega
def TabB (base : Nat) (w : World) (p : Nat) (T : List Ls) : Prop := ∃ b, base ≤ b ∧ w.heap[p]? = some (.cells #[.map (some b)] 110 (0, 0)) ∧ MapAt w b T
def RTabB (base : Nat) (w : World) (p : Nat) (T : List Ls) : Prop := ∃ v, w.heap[p]? = some (.cells #[v] 94 (0, 0)) ∧ OwnS SL 49 w base v T
def NewPost (At : World → Nat → List Ls → Prop) (rs : List Rg) (w : World) (r : Value) (w' : World) : Prop := Kp no w w' ∧
  (((∃ x ∈ rs, x.hi < x.lo) ∧ r = .tuple #[.pointer none, .int .i64 1]) ∨
  ((∀ x ∈ rs, x.lo ≤ x.hi) ∧ ((256 < cnt (pool rs) ∧ r = .tuple #[.pointer none, .int .i64 3]) ∨
    (cnt (pool rs) ≤ 256 ∧ ∃ p, r = .tuple #[.pointer (some ⟨p, 0, none⟩), .int .i64 0] ∧ At w' p (bares (pool rs))))))
theorem pool_facts {rs : List Rg} (hok : ∀ r ∈ rs, r.ok) (hall : ∀ r ∈ rs, r.lo ≤ r.hi) (hc : cnt (pool rs) ≤ 256) :
    (∀ r ∈ pool rs, r.ok ∧ r.lo ≤ r.hi) ∧ (addrs (pool rs)).length ≤ 256 ∧ (addrs (pool rs)).Pairwise (· < ·) ∧ (pool rs).length ≤ 256 ∧ (∀ a ∈ addrs (pool rs), a < 4294967296) := by
  have h := pool_ok hall
  have hlen := addrs_len h.ok
  have hin : ∀ r ∈ pool rs, r.ok := by
    intro r hr
    have := (inU_bounds hok ((h.mem r.hi).1 ⟨r, hr, by have := h.ok r hr; omega, Int.le_refl _⟩)).2
    have := h.ok r hr
    constructor <;> omega
  refine ⟨fun r hr => ⟨hin r hr, h.ok r hr⟩, by omega, addrs_sorted h.gap, ?_, fun a ha => ?_⟩
  · have : ∀ (A : List Rg), (∀ r ∈ A, r.lo ≤ r.hi) → (A.length : Int) ≤ cnt A := by
      intro A
      induction A with
      | nil => intro _; simp [cnt]
      | cons r A ih =>
        intro h
        have h1 := ih fun x hx => h x (.tail _ hx)
        have h2 := h r (.head _)
        have e : cnt (r :: A) = r.size + cnt A := by simp [cnt]
        rw [e]; unfold Rg.size; simp only [List.length_cons]; omega
    have := this _ h.ok
    omega
  · have := (inU_bounds hok ((h.mem a).1 (addrs_mem.1 ha))).2
    omega
def J37 (w9 : World) (P : List Rg) (k13 b : Nat) (vs : List Value) (w' : World) : Prop :=
  match vs with | [.int _ i] => ∃ k : Nat, i = k ∧ k ≤ (addrs P).length ∧ Kp no w9 w' ∧ w9.heap.size ≤ b ∧ w'.heap[k13]? = some (.cells #[.map (some b)] 110 (0, 0)) ∧ MapAt w' b ((bares P).take k) | _ => False
def M37 (P : List Rg) (vs : List Value) (_ : World) : Nat := match vs with | [.int _ i] => (addrs P).length - i.toNat | _ => 0
theorem K37 {w : World} {a : Option Addr} {n c : Nat} {rs : List Rg} (hv : Rgs w (.slice a n c) rs) (hok : ∀ r ∈ rs, r.ok) (hl : rs.length ≤ 1048576) :
    Calls Cz.P 37 #[.slice a n c] w (CP (NewPost (TabB w.heap.size) rs w) (fun _ _ => False)) := by
  refine C37 ?_
  unfold B37
  refine (K67 hv hok hl).mono fun e w9 hp => ?_
  cases e with
  | returned r =>
    obtain ⟨hk9, ⟨h1, rfl⟩ | ⟨hall, ⟨h1, rfl⟩ | ⟨hc, a5, n6, c7, rfl, ho⟩⟩⟩ := hp
    · exact ⟨_, _, _, _, rfl, ifB_true.2 ⟨hk9, .inl ⟨h1, rfl⟩⟩⟩
    · exact ⟨_, _, _, _, rfl, ifB_true.2 ⟨hk9, .inr ⟨hall, .inl ⟨h1, rfl⟩⟩⟩⟩
    · obtain ⟨f1, f2, f3, f4, f5⟩ := pool_facts hok hall hc
      have f1a : ∀ r ∈ pool rs, r.ok := fun r hr => (f1 r hr).1
      have hlen := addrs_len (P := pool rs) fun r hr => (f1 r hr).2
      refine ⟨_, _, _, _, rfl, ifB_false.2 ⟨_, _, run_makeMap w9, nw_i fun k13 w14 e13 hk14 g14 => ?_⟩⟩
      have hka : Kp no w9 (w9.alloc (.map #[] 0)) := .alloc _ _ _
      have hm0 : MapAt (w9.alloc (.map #[] 0)) w9.heap.size [] := get_alloc_new _ _
      have hm : MapAt w14 w9.heap.size [] := hk14.at hm0 nf
      have hk914 := hka.then hk14
      refine (K68 (OwnR.rgs (ho.keep hk914 .no)) f1a (by omega)).mono fun e w16 hp => ?_
      cases e with
      | returned r =>
        obtain ⟨hk16, rfl⟩ := hp
        have hk916 := hk914.then hk16
        refine ⟨_, rfl, J37 w9 (pool rs) k13 w9.heap.size, M37 (pool rs), ⟨0, rfl, Nat.zero_le _, hk916, Nat.le_refl _, hk16.at g14 nf, hk16.at hm nf⟩, ?_⟩
        rintro x w21 ⟨k, rfl, hk, hk21, hbb, g21, hm21⟩
        unfold B37_l1
        refine ifB_dec (fun h => ?_) (fun h => ?_)
        · have hk' : k < (addrs (pool rs)).length := by omega
          have ho21 : OwnR w21 w.heap.size (.slice a5 n6 c7) (pool rs) := ho.keep hk21 .no
          have hi1 : IntKind.i64.wrap ((k : Int) + 1) = ((k + 1 : Nat) : Int) := by rw [wrap64 (by omega) (by omega)]; omega
          refine (K69 ho21.rgs f1 (by omega) (by omega) hk').mono fun e w24 hp => ?_
          cases e with
          | returned r =>
            obtain ⟨hk24, rfl⟩ := hp
            have hk24d : Kp no w21 w24.drew := hk24.then (.drew no _)
            have g24 := hk24d.at g21 nf
            refine ⟨_, _, rfl, _, cl g24 rfl, (K60 _ 0 0 _).mono fun e w36 hp => ?_⟩
            cases e with
            | returned r =>
              obtain ⟨hk36, rfl⟩ := hp
              have hk2136 := hk24d.then hk36
              have hm36 : MapAt w36 w9.heap.size ((bares (pool rs)).take k) := hk2136.at hm21 nf
              have hne := bares_fresh f3 hk'
              have hnb : ¬ k13 = w9.heap.size := by
                intro h
                rw [h] at g21
                unfold MapAt at hm21
                rw [hm21] at g21
                cases g21
              have hkp : Kp (fun k => k = w9.heap.size) w36 (w36.putObj w9.heap.size (.map (ents ((bares (pool rs)).take k ++ [bare ((addrs (pool rs))[k] : Nat) 0 0])) ((bares (pool rs)).take k ++ [bare ((addrs (pool rs))[k] : Nat) 0 0]).length)) := .put _ _ _
              refine ⟨_, _, _, _, _, _, _, _, rfl, ⟨⟨hk36.cellD g24 nf, trivial⟩, trivial⟩, _, run_mapNew hm36 (x := bare ((addrs (pool rs))[k] : Nat) 0 0) hne, ⟨k + 1, hi1, hk', ?_, Nat.le_refl _, ?_, ?_⟩, ?_⟩
              · exact (hk21.then hk2136).trans hkp (fun k hk h => by omega)
              · exact hkp.at (hk2136.at g21 nf) hnb
              · unfold MapAt
                rw [bares_take hk']
                exact get_put_same hm36
              · show (addrs (pool rs)).length - (IntKind.i64.wrap ((k : Int) + 1)).toNat < (addrs (pool rs)).length - (k : Int).toNat
                rw [hi1]; omega
            | _ => exact hp
          | _ => exact hp
        · have hk' : k = (addrs (pool rs)).length := by omega
          subst hk'
          rw [← bares_len, List.take_length] at hm21
          exact ⟨hk9.then hk21, .inr ⟨hall, .inr ⟨hc, _, rfl, _, hk9.size, g21, hm21⟩⟩⟩
      | _ => exact hp
  | _ => exact hp
theorem E59 : ElemT Cz.P 59 49 8 72 := ⟨by kernel_rfl, by kernel_rfl⟩
def J42 (w9 : World) (P : List Rg) (k11 : Nat) (vs : List Value) (w' : World) : Prop :=
  match vs with | [.int _ i] => ∃ k : Nat, i = k ∧ k ≤ (addrs P).length ∧ Kp no w9 w' ∧ w9.heap.size ≤ k11 ∧ ∃ v, w'.heap[k11]? = some (.cells #[v] 94 (0, 0)) ∧ OwnS SL 49 w' w9.heap.size v ((bares P).take k) | _ => False
theorem K42 {w : World} {a : Option Addr} {n c : Nat} {rs : List Rg} (hv : Rgs w (.slice a n c) rs) (hok : ∀ r ∈ rs, r.ok) (hl : rs.length ≤ 1048576) :
    Calls Cz.P 42 #[.slice a n c] w (CP (NewPost (RTabB w.heap.size) rs w) (fun _ _ => False)) := by
  refine C42 ?_
  unfold B42
  refine (K74 hv hok hl).mono fun e w9 hp => ?_
  cases e with
  | returned r =>
    obtain ⟨hk9, ⟨h1, rfl⟩ | ⟨hall, ⟨h1, rfl⟩ | ⟨hc, a5, n6, c7, rfl, ho⟩⟩⟩ := hp
    · exact ⟨_, _, _, _, rfl, ifB_true.2 ⟨hk9, .inl ⟨h1, rfl⟩⟩⟩
    · exact ⟨_, _, _, _, rfl, ifB_true.2 ⟨hk9, .inr ⟨hall, .inl ⟨h1, rfl⟩⟩⟩⟩
    · obtain ⟨f1, f2, f3, f4, f5⟩ := pool_facts hok hall hc
      have f1a : ∀ r ∈ pool rs, r.ok := fun r hr => (f1 r hr).1
      have hlen := addrs_len (P := pool rs) fun r hr => (f1 r hr).2
      refine ⟨_, _, _, _, rfl, ifB_false.2 (nw_i fun k11 w12 e11 hk12 g12 => ?_)⟩
      refine ⟨J42 w9 (pool rs) k11, M37 (pool rs), ⟨0, rfl, Nat.zero_le _, hk12, by omega, _, g12, .nil _ _ _ _⟩, ?_⟩
      rintro x w16 ⟨k, rfl, hk, hk16, hbb, v, g16, hv16⟩
      unfold B42_l1
      have ho16 : OwnR w16 w.heap.size (.slice a5 n6 c7) (pool rs) := ho.keep hk16 .no
      refine (K75 ho16.rgs f1a (by omega)).mono fun e w18 hp => ?_
      cases e with
      | returned r =>
        obtain ⟨hk18, rfl⟩ := hp
        refine ⟨_, rfl, ifB_dec (fun h => ?_) (fun h => ?_)⟩
        · have hk' : k < (addrs (pool rs)).length := by omega
          have hi1 : IntKind.i64.wrap ((k : Int) + 1) = ((k + 1 : Nat) : Int) := by rw [wrap64 (by omega) (by omega)]; omega
          refine (K76 (OwnR.rgs (ho16.keep hk18 .no)) f1 (by omega) hk' (by omega)).mono fun e w22 hp => ?_
          cases e with
          | returned r =>
            obtain ⟨hk22, rfl⟩ := hp
            have hk22d : Kp no w16 w22.drew := (hk18.then hk22).then (.drew no _)
            have g22 := hk22d.at g16 nf
            obtain ⟨av, cv, rfl⟩ := hv16.slice
            refine ⟨_, _, rfl, _, _, _, cl g22 rfl, (K77 _ 0 0 _).mono fun e w36 hp => ?_⟩
            cases e with
            | returned r =>
              obtain ⟨hk36, rfl⟩ := hp
              have hk1636 := hk22d.then hk36
              have hz := hk16.size
              have hz2 := hk1636.size
              have g36 := hk1636.at g16 nf
              have hv36 := hv16.keep hk1636 .no
              have hb := hv16.base_le
              obtain ⟨a1, n1, c1, w41, hr1, a2, n2, c2, w45, hr2, ho2, hk45⟩ := appE (ty := 59) E59 (by decide) (by decide) hv36 (bare ((addrs (pool rs))[k] : Nat) 0 0) (cs := (bare ((addrs (pool rs))[k] : Nat) 0 0).cells) rfl (by omega) (by rw [List.length_take]; omega)
              have hk41 : Kp no w36 w41 := by
                have := builtS (P := Cz.P) E59 (by decide) (by decide) (SL.enc (bare ((addrs (pool rs))[k] : Nat) 0 0)) (SL.len _) w36
                have e := hr1.symm.trans this
                cases e
                exact .alloc _ _ _
              have hne : ¬ (Value.slice av ((bares (pool rs)).take k).length cv).ownBlock = some k11 := hv16.ne g16 (by simp)
              refine ⟨_, _, _, _, _, _, _, _, rfl, ⟨⟨hk36.cellD g22 nf, trivial⟩, trivial⟩, _, _, _, _, hr1, ⟨⟨hk41.cellD g36 nf, trivial⟩, trivial⟩, _, _, _, _, hr2, trivial, st_i (hk45.at g36 hne) (by simp) fun w46 hk46 g46 => ⟨⟨k + 1, hi1, hk', ?_, hbb, _, g46, ?_⟩, ?_⟩⟩
              · exact ((hk16.then hk1636).trans hk45 (fun k hk h => by have := hb k h; omega)).trans hk46 (fun k hk h => by omega)
              · rw [bares_take hk']
                exact ho2.keep hk46 (.one (hk45.at g36 hne) (by decide))
              · show (addrs (pool rs)).length - (IntKind.i64.wrap ((k : Int) + 1)).toNat < (addrs (pool rs)).length - (k : Int).toNat
                rw [hi1]; omega
            | _ => exact hp
          | _ => exact hp
        · have hk' : k = (addrs (pool rs)).length := by omega
          subst hk'
          rw [← bares_len, List.take_length] at hv16
          exact ⟨(hk9.then hk16).then hk18, .inr ⟨hall, .inr ⟨hc, _, rfl, _, hk18.at g16 nf, (hv16.keep hk18 .no).base hk9.size⟩⟩⟩
      | _ => exact hp
  | _ => exact hp
end Go.Lf
end

section
set_option linter.unusedVariables false
set_option linter.unusedSimpArgs false
namespace Go.Lf
open Go Go.Proofs
theorem be_ofB : ∀ (k : Nat) (l : List UInt8), l.length = k → be k (ofB l) = l
  | 0, l, h => by rw [List.eq_nil_of_length_eq_zero h]; rfl
  | k + 1, l, h => by
    have hne : l ≠ [] := by intro hc; subst hc; simp at h
    obtain ⟨m, c, rfl⟩ : ∃ m c, l = m ++ [c] := ⟨l.dropLast, l.getLast hne, (List.dropLast_concat_getLast hne).symm⟩
    have hm : m.length = k := by simpa using h
    have hc := bt_lt c
    rw [be, ofB_snoc, show (ofB m * 256 + c.toNat) / 256 = ofB m by omega, be_ofB k m hm]
    congr 2
    apply UInt8.toNat_inj.1
    simp

theorem be_fld {l : List UInt8} {i k : Nat} (h : i + k ≤ l.length) : be k (fld l i k) = (l.drop i).take k := by
  unfold fld
  exact be_ofB k _ (by rw [List.length_take, List.length_drop]; omega)
theorem enc_lsOf {l : List UInt8} (h : 36 ≤ l.length) : (lsOf l).enc = l.take 35 ++ [UInt8.ofNat (l.length - 36)] ++ l.drop 36 := by
  have e4 : UInt8.ofNat (l.getD 4 0).toNat = l.getD 4 0 := UInt8.toNat_inj.1 (by simp)
  have t5 : l.take 5 = l.take 4 ++ [l.getD 4 0] := by
    rw [List.take_add_one, List.getElem?_eq_getElem (by omega), List.getD_eq_getElem?_getD, List.getElem?_eq_getElem (by omega)]; rfl
  have t35 : l.take 35 = l.take 4 ++ [l.getD 4 0] ++ (l.drop 5).take 6 ++ (l.drop 11).take 6 ++ (l.drop 17).take 6 ++ (l.drop 23).take 6 ++ (l.drop 29).take 6 := by
    rw [← t5, ← List.take_add (i := 5) (j := 6), ← List.take_add (i := 11) (j := 6), ← List.take_add (i := 17) (j := 6), ← List.take_add (i := 23) (j := 6), ← List.take_add (i := 29) (j := 6)]
  rw [t35]
  unfold Ls.enc lsOf
  simp only [Int.toNat_natCast]
  rw [be_fld (by omega), be_fld (by omega), be_fld (by omega), be_fld (by omega), be_fld (by omega), be_fld (by omega), e4, List.drop_zero]
  have hs : (⟨(l.drop 36).toArray⟩ : ByteArray).size = l.length - 36 := by show (l.drop 36).toArray.size = _; simp
  rw [hs]
/-- the reference's test -/
theorem dec_iff {l : List UInt8} (h : 36 ≤ l.length) (hr : (lsOf l).right = true) : (lsOf l).enc = l ↔ (l.getD 35 0).toNat = l.length - 36 := by
  have hb := (right_bounds hr).2.2.2.2.2.2
  have hs : (lsOf l).client.size = l.length - 36 := by show (l.drop 36).toArray.size = _; simp
  rw [hs] at hb
  have hl : l = l.take 35 ++ [l.getD 35 0] ++ l.drop 36 := by
    have t36 : l.take 36 = l.take 35 ++ [l.getD 35 0] := by
      rw [List.take_add_one, List.getElem?_eq_getElem (by omega), List.getD_eq_getElem?_getD, List.getElem?_eq_getElem (by omega)]; rfl
    rw [← t36, List.take_append_drop]
  rw [enc_lsOf h]
  constructor
  · intro he
    have he2 := he.trans hl
    rw [List.append_assoc, List.append_assoc] at he2
    have := List.append_cancel_left he2
    simp only [List.cons_append, List.cons.injEq] at this
    rw [← this.1]
    simp
    omega
  · intro he
    have : UInt8.ofNat (l.length - 36) = l.getD 35 0 := UInt8.toNat_inj.1 (by rw [he]; simp; omega)
    rw [this]
    exact hl.symm
end Go.Lf
end
