/- Part 25 of the lemmas that a proof leans on; no claim is made here. By an AI agent. -/
import Derived.Test.YtofhodpdfbnkiaaGreatLfD10
import Derived.Test.YtofhodpdfbnkiaaGreatLfD13
import Derived.Test.YtofhodpdfbnkiaaGreatLfD15
import Derived.Test.YtofhodpdfbnkiaaGreatLfD23
import Derived.Test.YtofhodpdfbnkiaaGreatLfD24
section
set_option linter.unusedVariables false
set_option linter.unusedSimpArgs false
namespace Go.Lf
open Go Go.Proofs
theorem rd8 {w : World} {k : Nat} {x : Ls} {e : TypeId} {f : Nat × Nat} (g : w.heap[k]? = some (.cells x.cells e f)) {K : Int → Int → ByteArray → Int → Int → Int → Int → Int → Prop} (h : K x.addr x.bind x.client x.till x.acked x.told x.at_ x.ver) :
    ∃ (x1 : Int) (x2 : Int) (s3 : ByteArray) (x4 : Int) (x5 : Int) (x6 : Int) (x7 : Int) (x8 : Int), (w.cell? ⟨k, 0, none⟩ = some (.int .u32 x1) ∧ w.cell? ⟨k, 1, none⟩ = some (.int .i64 x2) ∧ w.cell? ⟨k, 2, none⟩ = some (.string s3) ∧ w.cell? ⟨k, 3, none⟩ = some (.int .i64 x4) ∧ w.cell? ⟨k, 4, none⟩ = some (.int .i64 x5) ∧ w.cell? ⟨k, 5, none⟩ = some (.int .i64 x6) ∧ w.cell? ⟨k, 6, none⟩ = some (.int .i64 x7) ∧ w.cell? ⟨k, 7, none⟩ = some (.int .i64 x8) ∧ True) ∧ K x1 x2 s3 x4 x5 x6 x7 x8 :=
  ⟨_, _, _, _, _, _, _, _, ⟨cl g rfl, cl g rfl, cl g rfl, cl g rfl, cl g rfl, cl g rfl, cl g rfl, cl g rfl, trivial⟩, h⟩
theorem stL {w : World} {k : Nat} {x : Ls} {e : TypeId} {K : World → Prop} (y : Ls) (h : w.heap[k]? = some (.cells x.cells e (0, 0)))
    (hK : ∀ w', Kp (fun b => b = k) w w' → w'.heap[k]? = some (.cells y.cells e (0, 0)) → K w') :
    st w ⟨k, 0, none⟩ (.int .u32 y.addr) fun w1 => st w1 ⟨k, 1, none⟩ (.int .i64 y.bind) fun w2 => st w2 ⟨k, 2, none⟩ (.string y.client) fun w3 => st w3 ⟨k, 3, none⟩ (.int .i64 y.till) fun w4 =>
      st w4 ⟨k, 4, none⟩ (.int .i64 y.acked) fun w5 => st w5 ⟨k, 5, none⟩ (.int .i64 y.told) fun w6 => st w6 ⟨k, 6, none⟩ (.int .i64 y.at_) fun w7 => st w7 ⟨k, 7, none⟩ (.int .i64 y.ver) K := st8 h hK
theorem rdL {w : World} {q : Addr} {n c : Nat} {xs : List Ls} (h : RdS SL w (.slice (some q) n c) xs) {z : Nat} (hz : z < xs.length) {K : Int → Int → ByteArray → Int → Int → Int → Int → Int → Prop} (hK : K xs[z].addr xs[z].bind xs[z].client xs[z].till xs[z].acked xs[z].told xs[z].at_ xs[z].ver) :
    ∃ (x1 : Int) (x2 : Int) (s3 : ByteArray) (x4 : Int) (x5 : Int) (x6 : Int) (x7 : Int) (x8 : Int), (w.cell? (q.add (z * 8)) = some (.int .u32 x1) ∧ w.cell? ((q.add (z * 8)).add 1) = some (.int .i64 x2) ∧ w.cell? ((q.add (z * 8)).add 2) = some (.string s3) ∧ w.cell? ((q.add (z * 8)).add 3) = some (.int .i64 x4) ∧ w.cell? ((q.add (z * 8)).add 4) = some (.int .i64 x5) ∧ w.cell? ((q.add (z * 8)).add 5) = some (.int .i64 x6) ∧ w.cell? ((q.add (z * 8)).add 6) = some (.int .i64 x7) ∧ w.cell? ((q.add (z * 8)).add 7) = some (.int .i64 x8) ∧ True) ∧ K x1 x2 s3 x4 x5 x6 x7 x8 := by
  obtain ⟨b, o, hq, hc⟩ := h.at hz
  cases hq
  simp only [addk]
  exact ⟨_, _, _, _, _, _, _, _, ⟨hc 0 _ rfl, hc 1 _ rfl, hc 2 _ rfl, hc 3 _ rfl, hc 4 _ rfl, hc 5 _ rfl, hc 6 _ rfl, hc 7 _ rfl, trivial⟩, hK⟩
theorem rdA {w : World} {q : Addr} {n c : Nat} {xs : List Ls} (h : RdS SL w (.slice (some q) n c) xs) {z : Nat} (hz : z < xs.length) : w.cell? (q.add (z * 8)) = some (.int .u32 xs[z].addr) := by
  obtain ⟨b, o, hq, hc⟩ := h.at hz
  cases hq
  simp only [addk]
  exact hc 0 _ rfl
theorem OwnS.slot {α : Type} {S : SEnc α} {e : TypeId} {w : World} {base : Nat} {v : Value} {xs : List α} (h : OwnS S e w base v xs) (hl : 0 < xs.length) : ∃ b c, v = .slice (some ⟨b, 0, none⟩) xs.length c := by
  obtain ⟨_, ⟨_, h0⟩ | ⟨g, cap, cur, rfl, _⟩⟩ := h
  · omega
  · exact ⟨g, cap, rfl⟩
theorem OwnS.set1 {α : Type} {S : SEnc α} {e : TypeId} {w : World} {base b n c : Nat} {xs : List α} (h : OwnS S e w base (.slice (some ⟨b, 0, none⟩) n c) xs) {i : Nat} (hi : i < xs.length) (j : Nat) (hj : j < S.k) {u : Value} (y : α) (hy : S.enc y = (S.enc xs[i]).set j u) {K : World → Prop}
    (hK : ∀ w', Kp (fun k => k = b) w w' → OwnS S e w' base (.slice (some ⟨b, 0, none⟩) n c) (xs.set i y) → K w') : st w ⟨b, i * S.k + j, none⟩ u K := by
  obtain ⟨b', hb, h1⟩ := h.set hi hj hy (K := K) (fun w' hk ho => hK w' (hk.mono fun k _ h => by simpa [Value.ownBlock] using h.symm) ho)
  cases hb
  exact h1
theorem set2 {α : Type} {xs : List α} {i : Nat} {y : α} (hi : i < xs.length) : (xs.set i y)[i]'(by simpa using hi) = y := by simp
theorem setL {w : World} {base b n c : Nat} {xs : List Ls} (h : OwnS SL 49 w base (.slice (some ⟨b, 0, none⟩) n c) xs) {i : Nat} (hi : i < xs.length) (y : Ls) {K : World → Prop}
    (hK : ∀ w', Kp (fun k => k = b) w w' → OwnS SL 49 w' base (.slice (some ⟨b, 0, none⟩) n c) (xs.set i y) → K w') :
    st w ⟨b, i * 8 + 0, none⟩ (.int .u32 y.addr) fun w1 => st w1 ⟨b, i * 8 + 1, none⟩ (.int .i64 y.bind) fun w2 => st w2 ⟨b, i * 8 + 2, none⟩ (.string y.client) fun w3 => st w3 ⟨b, i * 8 + 3, none⟩ (.int .i64 y.till) fun w4 =>
      st w4 ⟨b, i * 8 + 4, none⟩ (.int .i64 y.acked) fun w5 => st w5 ⟨b, i * 8 + 5, none⟩ (.int .i64 y.told) fun w6 => st w6 ⟨b, i * 8 + 6, none⟩ (.int .i64 y.at_) fun w7 => st w7 ⟨b, i * 8 + 7, none⟩ (.int .i64 y.ver) K := by
  generalize hx : xs[i] = x
  refine OwnS.set1 (S := SL) h hi 0 (by decide) ⟨y.addr, x.bind, x.client, x.till, x.acked, x.told, x.at_, x.ver⟩ (by rw [hx]; rfl) fun w1 k1 h1 => ?_
  refine OwnS.set1 (S := SL) h1 (by simpa using hi) 1 (by decide) ⟨y.addr, y.bind, x.client, x.till, x.acked, x.told, x.at_, x.ver⟩ (by rw [set2 hi]; rfl) fun w2 k2 h2 => ?_
  rw [List.set_set] at h2
  refine OwnS.set1 (S := SL) h2 (by simpa using hi) 2 (by decide) ⟨y.addr, y.bind, y.client, x.till, x.acked, x.told, x.at_, x.ver⟩ (by rw [set2 hi]; rfl) fun w3 k3 h3 => ?_
  rw [List.set_set] at h3
  refine OwnS.set1 (S := SL) h3 (by simpa using hi) 3 (by decide) ⟨y.addr, y.bind, y.client, y.till, x.acked, x.told, x.at_, x.ver⟩ (by rw [set2 hi]; rfl) fun w4 k4 h4 => ?_
  rw [List.set_set] at h4
  refine OwnS.set1 (S := SL) h4 (by simpa using hi) 4 (by decide) ⟨y.addr, y.bind, y.client, y.till, y.acked, x.told, x.at_, x.ver⟩ (by rw [set2 hi]; rfl) fun w5 k5 h5 => ?_
  rw [List.set_set] at h5
  refine OwnS.set1 (S := SL) h5 (by simpa using hi) 5 (by decide) ⟨y.addr, y.bind, y.client, y.till, y.acked, y.told, x.at_, x.ver⟩ (by rw [set2 hi]; rfl) fun w6 k6 h6 => ?_
  rw [List.set_set] at h6
  refine OwnS.set1 (S := SL) h6 (by simpa using hi) 6 (by decide) ⟨y.addr, y.bind, y.client, y.till, y.acked, y.told, y.at_, x.ver⟩ (by rw [set2 hi]; rfl) fun w7 k7 h7 => ?_
  rw [List.set_set] at h7
  refine OwnS.set1 (S := SL) h7 (by simpa using hi) 7 (by decide) y (by rw [set2 hi]; rfl) fun w8 k8 h8 => ?_
  rw [List.set_set] at h8
  exact hK w8 (((((((k1.trans k2 fun _ _ h => h).trans k3 fun _ _ h => h).trans k4 fun _ _ h => h).trans k5 fun _ _ h => h).trans k6 fun _ _ h => h).trans k7 fun _ _ h => h).trans k8 fun _ _ h => h) h8
def TabAt (w : World) (p : Nat) (T : List Ls) : Prop := ∃ b, w.heap[p]? = some (.cells #[.map (some b)] 110 (0, 0)) ∧ MapAt w b T
def RTabAt (w : World) (p : Nat) (T : List Ls) : Prop := ∃ v, w.heap[p]? = some (.cells #[v] 94 (0, 0)) ∧ OwnS SL 49 w 0 v T
theorem TabAt.keepN {w w' : World} {p : Nat} {T : List Ls} (h : TabAt w p T) (k : Kp no w w') : TabAt w' p T := by
  obtain ⟨b, h1, h2⟩ := h
  exact ⟨b, k.at h1 nf, k.at h2 nf⟩
theorem RTabAt.keepN {w w' : World} {p : Nat} {T : List Ls} (h : RTabAt w p T) (k : Kp no w w') : RTabAt w' p T := by
  obtain ⟨b, h1, h2⟩ := h
  exact ⟨b, k.at h1 nf, h2.keep k .no⟩
def getT (T : List Ls) (a : Int) : Ls × Int := match look a T 0 with | some p => (p.2, 0) | none => (bare 0 0 0, 4)
def setT (T : List Ls) (x : Ls) : Int × List Ls := if x.right = true then (match look x.addr T 0 with | some p => (0, T.set p.1 x) | none => (4, T)) else (1, T)
theorem K28 {w : World} {p : Nat} {T : List Ls} (h : TabAt w p T) (a : Int) : Calls Cz.P 28 #[.pointer (some ⟨p, 0, none⟩), .int .u32 a] w (CP (fun r w' => Kp no w w' ∧ r = .tuple #[(getT T a).1.val, .int .i64 (getT T a).2]) (fun _ _ => False)) := by
  refine C28 ?_
  unfold B28
  refine nw_i fun k w1 e1 hk1 g1 => ?_
  obtain ⟨b, h1, h2⟩ := h.keepN hk1
  rw [nn_some]
  have hl := run_lookup h2 a
  unfold getT
  cases hlk : look a T 0 with
  | none =>
    rw [hlk] at hl
    refine ⟨_, cl h1 rfl, _, _, _, _, _, _, _, _, _, _, hl, nw_i fun k2 w2 e2 hk2 g2 => stL (bare 0 0 0) (x := bare 0 0 0) g2 fun w3 hk3 g3 => ?_⟩
    have z1 := lt_of_get g1
    have z2 := hk1.size
    have z3 := hk2.size
    have g13 := hk3.at (hk2.at g1 nf) (by omega)
    refine ifB_true.2 (stL (bare 0 0 0) (x := bare 0 0 0) g13 fun w4 hk4 g4 => rd8 (x := bare 0 0 0) g4 ⟨?_, rfl⟩)
    exact ((hk1.then hk2).trans hk3 (fun k hk h => by omega)).trans hk4 (fun k hk h => by omega)
  | some q =>
    obtain ⟨j, x⟩ := q
    rw [hlk] at hl
    refine ⟨_, cl h1 rfl, _, _, _, _, _, _, _, _, _, _, hl, nw_i fun k2 w2 e2 hk2 g2 => stL x (x := bare 0 0 0) g2 fun w3 hk3 g3 => ?_⟩
    have z1 := lt_of_get g1
    have z2 := hk1.size
    have z3 := hk2.size
    have g13 := hk3.at (hk2.at g1 nf) (by omega)
    refine ifB_false.2 (rd8 (x := x) g3 (stL x (x := bare 0 0 0) g13 fun w4 hk4 g4 => rd8 (x := x) g4 ⟨?_, rfl⟩))
    exact ((hk1.then hk2).trans hk3 (fun k hk h => by omega)).trans hk4 (fun k hk h => by omega)
def JC73 (w : World) (k11 : Nat) (x : Ls) (b : Bool) (vs : List Value) (w' : World) : Prop := match vs with | [.bool b'] => b' = b ∧ Kp no w w' ∧ w'.heap[k11]? = some (.cells x.cells 49 (0, 0)) | _ => False
/-- what Set leaves -/
def SetPost (At : World → Nat → List Ls → Prop) (p : Nat) (T : List Ls) (x : Ls) (w : World) (r : Value) (w' : World) : Prop := r = .int .i64 (setT T x).1 ∧ At w' p (setT T x).2
theorem K73 {w : World} {p b : Nat} {T : List Ls} (hp : w.heap[p]? = some (.cells #[.map (some b)] 110 (0, 0))) (hm : MapAt w b T) (x : Ls) :
    Calls Cz.P 73 #[.pointer (some ⟨p, 0, none⟩), x.val] w (CP (fun r w' => Kp (fun k => k = b) w w' ∧ r = .int .i64 (setT T x).1 ∧ MapAt w' b (setT T x).2) (fun _ _ => False)) := by
  refine C73 ?_
  unfold B73
  refine nw_i fun k w1 e1 hk1 g1 => rd8 (x := x) g1 ((K64 x w1).mono fun e w2 hp2 => ?_)
  cases e with
  | returned r =>
    obtain ⟨hk2, rfl⟩ := hp2
    have hk02 := hk1.then hk2
    have g2 := hk2.at g1 nf
    have hp2 := hk02.at hp nf
    have hm2 : MapAt w2 b T := hk02.at hm nf
    refine ⟨_, rfl, ?_⟩
    unfold setT
    cases hr : x.right with
    | false => exact ifB_true.2 ⟨hk02.mono (fun _ _ h => h.elim), rfl, hm2⟩
    | true =>
      rw [if_pos rfl]
      refine ifB_false.2 ⟨JC73 w k x (look x.addr T 0).isSome, ?_, ?_⟩
      · have hkd : Kp no w w2.drew := hk02.then (.drew no _)
        have g2d : w2.drew.heap[k]? = some (.cells x.cells 49 (0, 0)) := g2
        have hp2d : w2.drew.heap[p]? = some (.cells #[.map (some b)] 110 (0, 0)) := hp2
        have hm2d : MapAt w2.drew b T := hm2
        have s2 := lt_of_get g2d
        have z2 := hk02.size
        have key : ∀ w', Kp no w w' → w'.heap[k]? = some (.cells x.cells 49 (0, 0)) → ∀ k' , k' ≠ k → w.heap.size ≤ k' → ∀ y z : Ls, w'.heap[k']? = some (.cells y.cells 49 (0, 0)) → ∀ {K : World → Prop}, (∀ w'', JC73 w k x (look x.addr T 0).isSome [.bool (look x.addr T 0).isSome] w'' → K w'') →
            st w' ⟨k', 0, none⟩ (.int .u32 z.addr) fun w1 => st w1 ⟨k', 1, none⟩ (.int .i64 z.bind) fun w2 => st w2 ⟨k', 2, none⟩ (.string z.client) fun w3 => st w3 ⟨k', 3, none⟩ (.int .i64 z.till) fun w4 =>
              st w4 ⟨k', 4, none⟩ (.int .i64 z.acked) fun w5 => st w5 ⟨k', 5, none⟩ (.int .i64 z.told) fun w6 => st w6 ⟨k', 6, none⟩ (.int .i64 z.at_) fun w7 => st w7 ⟨k', 7, none⟩ (.int .i64 z.ver) K := by
          intro w' hkw g k' hne hle y z gy K hK
          exact stL z gy fun w'' hk'' _ => hK w'' ⟨rfl, hkw.trans hk'' (fun k hk h => by omega), hk''.at g (fun h => hne h.symm)⟩
        refine ⟨_, cl hp2d rfl, _, cl g2d rfl, ⟨_, _, _, _, _, _, _, _, _, _, run_lookup hm2d x.addr, nw_i fun k3 w3 e3 hk3 g3 => ⟨trivial, ?_⟩⟩, nw_i fun k3 w3 e3 hk3 g3 => ⟨⟨⟨hk3.cellD g2d nf, trivial⟩, ⟨hk3.cellD hp2d nf, trivial⟩, trivial⟩, _, _, _, _, _, _, _, _, _, _, run_lookup (show MapAt w3 b T from hk3.at hm2d nf) x.addr, ?_⟩⟩
        · exact key w3 (hkd.then hk3) (hk3.at g2d nf) k3 (by omega) (by have := hkd.size; omega) (bare 0 0 0) _ g3 fun w'' h => ⟨trivial, h⟩
        · exact key w3 (hkd.then hk3) (hk3.at g2d nf) k3 (by omega) (by have := hkd.size; omega) (bare 0 0 0) _ g3 fun w'' h => ⟨trivial, h⟩
      · rintro b69 w3 ⟨rfl, hk3, g3⟩
        cases hlk : look x.addr T 0 with
        | none => exact ifB_true.2 ⟨hk3.mono (fun _ _ h => h.elim), rfl, hk3.at hm nf⟩
        | some q =>
          obtain ⟨j, y⟩ := q
          have hkd : Kp no w w3.drew := hk3.then (.drew no _)
          have g3d : w3.drew.heap[k]? = some (.cells x.cells 49 (0, 0)) := g3
          have hmd : MapAt w3.drew b T := hkd.at hm nf
          refine ifB_false.2 ?_
          refine ⟨_, cl (hkd.at hp nf) rfl, _, cl g3d rfl, rd8 (x := x) g3d ⟨_, run_mapSet hmd hlk, hkd.then (.put _ _ _), rfl, get_put_same hmd⟩⟩
  | _ => exact hp2
theorem look_cons (a : Int) (x : Ls) (T : List Ls) (i : Nat) : look a (x :: T) i = if x.addr = a then some (i, x) else look a T (i + 1) := rfl
def J114 (w : World) (T : List Ls) (a : Int) (vs : List Value) (w' : World) : Prop :=
  match vs with | [.int _ i] => w' = w ∧ ∃ k : Nat, i = k ∧ k ≤ T.length ∧ look a T 0 = look a (T.drop k) k | _ => False
def M114 (T : List Ls) (vs : List Value) (_ : World) : Nat := match vs with | [.int _ i] => T.length - i.toNat | _ => 0
theorem K114 {w : World} {p : Nat} {T : List Ls} (h : RTabAt w p T) (hl : T.length ≤ 1048576) (a : Int) : Calls Cz.P 114 #[.pointer (some ⟨p, 0, none⟩), .int .u32 a] w (CP (fun r w' => w' = w ∧ r = .int .i64 (match look a T 0 with | some q => (q.1 : Int) | none => -1)) (fun _ _ => False)) := by
  refine C114 ?_
  unfold B114
  refine ⟨J114 w T a, M114 T, ⟨rfl, 0, rfl, Nat.zero_le _, by rw [List.drop_zero]⟩, ?_⟩
  rintro x6 w7 ⟨rfl, k, rfl, hk, hlk⟩
  unfold B114_l1
  obtain ⟨v, h1, h2⟩ := h
  obtain ⟨av, cv, rfl⟩ := h2.slice
  rw [nn_some]
  refine ⟨_, _, _, cl h1 rfl, ifB_dec (fun hlt => ?_) (fun hlt => ?_)⟩
  · have hk' : k < T.length := by omega
    obtain ⟨b, c, hs⟩ := h2.slot (by omega)
    cases hs
    have hi1 : IntKind.i64.wrap ((k : Int) + 1) = ((k + 1 : Nat) : Int) := by rw [wrap64 (by omega) (by omega)]; omega
    rw [nn_some]
    refine ⟨_, _, _, cl h1 rfl, need_and (dec (by omega)) (dec (by omega)) ?_⟩
    rw [nn_some, show (k : Int).toNat = k from rfl]
    rw [drop_at hk', look_cons] at hlk
    refine ⟨_, rdA h2.rd hk', ifB_split (fun he => ⟨rfl, ?_⟩) (fun he => ⟨⟨rfl, k + 1, hi1, hk', ?_⟩, ?_⟩)⟩
    · have he : T[k].addr = a := by simpa using he
      rw [if_pos he] at hlk
      rw [hlk]
    · have he : ¬ T[k].addr = a := by simpa using he
      rw [if_neg he] at hlk
      exact hlk
    · show T.length - (IntKind.i64.wrap ((k : Int) + 1)).toNat < T.length - (k : Int).toNat
      rw [hi1]; omega
  · have hk' : k = T.length := by omega
    subst hk'
    rw [List.drop_length] at hlk
    rw [hlk]
    exact ⟨rfl, rfl⟩
theorem K83 {w : World} {p : Nat} {T : List Ls} (h : RTabAt w p T) (hl : T.length ≤ 1048576) (a : Int) : Calls Cz.P 83 #[.pointer (some ⟨p, 0, none⟩), .int .u32 a] w (CP (fun r w' => Kp no w w' ∧ r = .tuple #[(getT T a).1.val, .int .i64 (getT T a).2]) (fun _ _ => False)) := by
  refine C83 ?_
  unfold B83
  refine nw_i fun k w1 e1 hk1 g1 => ?_
  have h' := h.keepN hk1
  refine (K114 h' hl a).mono fun e w2 hp => ?_
  cases e with
  | returned r =>
    obtain ⟨rfl, rfl⟩ := hp
    have z1 := lt_of_get g1
    refine ⟨_, rfl, ?_⟩
    unfold getT
    cases hlk : look a T 0 with
    | none =>
      refine ifB_true.2 (stL (bare 0 0 0) (x := bare 0 0 0) g1 fun w4 hk4 g4 => rd8 (x := bare 0 0 0) g4 ⟨hk1.trans hk4 (fun k hk h => by omega), rfl⟩)
    | some q =>
      obtain ⟨j, x⟩ := q
      obtain ⟨_, hj, ha⟩ := look_some hlk
      rw [Nat.sub_zero] at hj
      obtain ⟨hj', hjx⟩ := List.getElem?_eq_some_iff.1 hj
      obtain ⟨v, h1, h2⟩ := h'
      obtain ⟨b, c, rfl⟩ := h2.slot (by omega)
      refine ifB_dec (fun h => by simp only at h; omega) (fun _ => ?_)
      rw [nn_some]
      refine ⟨_, _, _, cl h1 rfl, need_and (dec (by simp only; omega)) (dec (by simp only; omega)) ?_⟩
      rw [nn_some]
      refine rdL h2.rd (z := j) hj' ?_
      rw [hjx]
      exact stL x (x := bare 0 0 0) g1 fun w4 hk4 g4 => rd8 (x := x) g4 ⟨hk1.trans hk4 (fun k hk h => by omega), rfl⟩
  | _ => exact hp
theorem K81 {w : World} {p : Nat} {T : List Ls} (h : RTabAt w p T) (hl : T.length ≤ 1048576) (x : Ls) :
    Calls Cz.P 81 #[.pointer (some ⟨p, 0, none⟩), x.val] w (CP (fun r w' => (∃ v, w.heap[p]? = some (.cells #[v] 94 (0, 0)) ∧ Kp (fun k => v.ownBlock = some k) w w') ∧ r = .int .i64 (setT T x).1 ∧ RTabAt w' p (setT T x).2) (fun _ _ => False)) := by
  refine C81 ?_
  unfold B81
  refine nw_i fun k w1 e1 hk1 g1 => rd8 (x := x) g1 ((K82 x w1).mono fun e w2 hp2 => ?_)
  cases e with
  | returned r =>
    obtain ⟨hk2, rfl⟩ := hp2
    have hk02 := hk1.then hk2
    have g2 := hk2.at g1 nf
    have h' := h.keepN hk02
    refine ⟨_, rfl, ?_⟩
    unfold setT
    obtain ⟨v, h1, h2⟩ := h
    cases hr : x.right with
    | false => exact ifB_true.2 ⟨⟨v, h1, hk02.mono (fun _ _ h => h.elim)⟩, rfl, h'⟩
    | true =>
      rw [if_pos rfl]
      refine ifB_false.2 ⟨_, cl g2 rfl, (K114 h' hl x.addr).mono fun e w3 hp3 => ?_⟩
      cases e with
      | returned r =>
        obtain ⟨rfl, rfl⟩ := hp3
        refine ⟨_, rfl, ?_⟩
        cases hlk : look x.addr T 0 with
        | none => exact ifB_true.2 ⟨⟨v, h1, hk02.mono (fun _ _ h => h.elim)⟩, rfl, h'⟩
        | some q =>
          obtain ⟨j, y⟩ := q
          obtain ⟨_, hj, ha⟩ := look_some hlk
          rw [Nat.sub_zero] at hj
          obtain ⟨hj', hjx⟩ := List.getElem?_eq_some_iff.1 hj
          have hkd : Kp no w w3.drew := hk02.then (.drew no _)
          have g3d : w3.drew.heap[k]? = some (.cells x.cells 49 (0, 0)) := g2
          obtain ⟨b, c, rfl⟩ := h2.slot (by omega)
          have h1d := hkd.at h1 nf
          have h2d := h2.keep hkd .no
          refine ifB_dec (fun h => by simp only at h; omega) (fun _ => ?_)
          refine ⟨_, _, _, cl h1d rfl, rd8 (x := x) g3d (need_and (dec (by simp only; omega)) (dec (by simp only; omega)) ?_)⟩
          have hset := setL h2d hj' x (K := fun w49 => (∃ v, w.heap[p]? = some (.cells #[v] 94 (0, 0)) ∧ Kp (fun k => v.ownBlock = some k) w w49) ∧ Value.int .i64 0 = .int .i64 0 ∧ RTabAt w49 p (T.set j x)) (by
            intro w' hk' ho'
            have hne : ¬ p = b := by
              intro hpb
              subst hpb
              exact h2.ne h1 (by simp) rfl
            refine ⟨⟨_, h1, (hkd.then hk').mono (fun k _ h => by simp [Value.ownBlock, h])⟩, rfl, _, hk'.at h1d hne, ?_⟩
            exact ho')
          rw [nn_some]
          simp only [addk, Nat.zero_add, show ((j : Nat) : Int).toNat = j from rfl]
          simp only [Nat.add_zero] at hset
          exact hset
      | _ => exact hp3
  | _ => exact hp2
end Go.Lf
end

section
set_option linter.unusedVariables false
set_option linter.unusedSimpArgs false
namespace Go.Lf
open Go Go.Proofs
def I69 (k6 k8 k10 l : Nat) (rc : Loop) (w4 : World) (n i : Nat) (w' : World) : Prop :=
  Kp (fun b => b = k8 ∨ b = k10 ∨ b = l) w4 w' ∧ i ≤ n ∧ w'.heap[k6]? = some (.cells #[.int .i64 (n : Int)] 3 (0, 0)) ∧ w'.heap[k8]? = some (.cells #[.int .u32 0] 47 (0, 0)) ∧ w'.heap[k10]? = some (.cells #[.int .i64 0] 26 (0, 0)) ∧ LoopAt w' l rc .ready none
def F69 (k6 k8 k10 l : Nat) (rc : Loop) (x : Nat) (w' : World) : Prop :=
  w'.heap[k8]? = some (.cells #[.int .u32 (x : Int)] 47 (0, 0)) ∧ w'.heap[k10]? = some (.cells #[.int .i64 0] 26 (0, 0)) ∧ LoopAt w' l rc .done (some .ret)
theorem K69 {w : World} {a : Option Addr} {m c : Nat} {P : List Rg} (hv : Rgs w (.slice a m c) P) (hok : ∀ r ∈ P, r.ok ∧ r.lo ≤ r.hi) (hl : P.length ≤ 1048576) (hla : (addrs P).length ≤ 4294967296) {n : Nat} (hn : n < (addrs P).length) :
    Calls Cz.P 69 #[.slice a m c, .int .i64 n] w (CP (fun r w' => Kp no w w' ∧ r = .tuple #[.int .u32 ((addrs P)[n] : Nat), .int .i64 0]) (fun _ _ => False)) := by
  refine C69 ?_
  unfold B69
  refine nw_i fun k6 w1 e6 hk1 g6 => nw_i fun k8 w2 e8 hk2 g8 => nw_i fun k10 w3 e10 hk3 g10 => K107 fun k11 w4 hk4 e11 g11 => ⟨_, rfl, nw_i fun D w5 eD hk5 gD rc hrc => nw_i fun l9 w6 e9 hk6 g9 => ?_⟩
  have z1 := hk1.size
  have z2 := hk2.size
  have z3 := hk3.size
  have z4 := hk4.size
  have z5 := hk5.size
  have z6 := hk6.size
  have s6 := lt_of_get g6
  have s8 := lt_of_get g8
  have s10 := lt_of_get g10
  have s11 := lt_of_get g11
  have sD := lt_of_get gD
  have s9 := lt_of_get g9
  have hk36 : Kp no w3 w6 := hk4.then (hk5.then hk6)
  have hk06 : Kp no w w6 := hk1.then (hk2.then (hk3.then hk36))
  have q6 := hk36.at ((hk2.then hk3).at g6 nf) nf
  have q8 := hk36.at (hk3.at g8 nf) nf
  have q10 := hk36.at g10 nf
  have q11 := (hk5.then hk6).at g11 nf
  have qD := hk6.at gD nf
  refine need_iff.2 ⟨by rfl, ?_⟩
  have hL : LoopAt w6 l9 rc .ready none := LoopAt.of g9 hrc
  show Calls Cz.P 126 #[.func (.yield l9) #[] #[], .pointer (some ⟨k11, 0, none⟩)] w6 _
  refine (K126 (I := I69 k6 k8 k10 l9 rc w6 n) (F := F69 k6 k8 k10 l9 rc (addrs P)[n]) (S := fun b => b = k8 ∨ b = k10 ∨ b = l9) (cl q11 rfl) hv hk06 hok hl hla (fun k hk => by omega) ⟨.refl _ _, Nat.zero_le _, q6, q8, q10, hL⟩ ?_ ?_).mono ?_
  · rintro i w' w'' ⟨h1, h2, h3, h4, h5, h6⟩ hk
    exact ⟨h1.trans hk (fun _ _ h => h.elim), h2, hk.at h3 nf, hk.at h4 nf, hk.at h5 nf, h6.keep hk nf⟩
  · rintro i hi w' ⟨h1, h2, h3, h4, h5, h6⟩
    show Rnd Cz.P l9 #[_, _] w' _
    refine B69_r1_rnd hrc h6 ?_
    unfold B69_r1
    refine ⟨rfl, none, h6, ?_⟩
    have hkb : Kp (fun k => k = l9) w' (putLoop w' l9 rc .busy none) := LoopAt.kp
    have hLb : LoopAt (putLoop w' l9 rc .busy none) l9 rc .busy none := h6.put
    generalize putLoop w' l9 rc .busy none = w21 at hkb hLb
    have h3' := hkb.at h3 (by omega)
    have h4' := hkb.at h4 (by omega)
    have h5' := hkb.at h5 (by omega)
    refine ⟨_, cl h3' rfl, ifB_split (fun he => ?_) (fun he => ?_)⟩
    · have hin : i = n := by have : (i : Int) = n := by simpa using he
                             omega
      subst hin
      refine st_i h4' (by simp) fun w22 hk22 g22 => st_i (hk22.at h5' (by omega)) (by simp) fun w23 hk23 g23 => ⟨rfl, none, (hLb.keep hk22 (by omega)).keep hk23 (by omega), ?_⟩
      have hL3 := (hLb.keep hk22 (by omega)).keep hk23 (by omega)
      have hkp : Kp (fun k => k = l9) w23 (putLoop w23 l9 rc .done (some .ret)) := LoopAt.kp
      refine ⟨(((hkb.mono (S' := fun b => b = k8 ∨ b = k10 ∨ b = l9) fun _ _ h => .inr (.inr h)).trans hk22 fun _ _ h => .inl h).trans hk23 fun _ _ h => .inr (.inl h)).trans hkp fun _ _ h => .inr (.inr h), .inr ⟨rfl, hkp.at (hk23.at g22 (by omega)) (by omega), hkp.at g23 (by omega), hL3.put⟩⟩
    · have hin : ¬ i = n := by intro h; subst h; simp at he
      have hkp : Kp (fun k => k = l9) w21 (putLoop w21 l9 rc .ready none) := LoopAt.kp
      have hkk : Kp (fun b => b = k8 ∨ b = k10 ∨ b = l9) w' (putLoop w21 l9 rc .ready none) := (hkb.mono (fun _ _ h => .inr (.inr h))).trans hkp (fun _ _ h => .inr (.inr h))
      refine ⟨rfl, none, hLb, hkk, .inl ⟨rfl, h1.trans hkk (fun _ _ h => h), by omega, hkp.at h3' (by omega), hkp.at h4' (by omega), hkp.at h5' (by omega), hLb.put⟩⟩
  · intro e w' hp
    cases e with
    | returned r =>
      obtain ⟨rfl, hk7, ⟨_, h, _⟩ | ⟨h8, h10, hL7⟩⟩ := hp
      · omega
      · refine ⟨.done, some .ret, hL7, by simp, ?_⟩
        have hkp : Kp (fun k => k = l9) w' (putLoop w' l9 rc .exhausted (some .ret)) := LoopAt.kp
        have hk60 : Kp (fun b => b = k8 ∨ b = k10 ∨ b = l9) w6 (putLoop w' l9 rc .exhausted (some .ret)) := hk7.trans hkp (fun _ _ h => .inr (.inr h))
        have qD' := hk60.at qD (by omega)
        have p8 := hkp.at h8 (by omega)
        have p10 := hkp.at h10 (by omega)
        have hkD : Kp (fun k => k = D) (putLoop w' l9 rc .exhausted (some .ret)) ((putLoop w' l9 rc .exhausted (some .ret)).putObj D (.deferred none)) := .put _ _ _
        refine ⟨qD', _, cl (hkD.at p8 (by omega)) rfl, _, cl (hkD.at p10 (by omega)) rfl, ?_, rfl⟩
        exact (hk06.trans hk60 (fun k hk h => by omega)).trans hkD (fun k hk h => by omega)
    | _ => exact hp.elim
end Go.Lf
end
