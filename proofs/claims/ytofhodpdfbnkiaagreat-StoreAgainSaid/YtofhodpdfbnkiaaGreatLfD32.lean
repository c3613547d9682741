/- Part 32 of the lemmas that a proof leans on; no claim is made here. By an AI agent. -/
import Derived.Test.YtofhodpdfbnkiaaGreatLfD09
import Derived.Test.YtofhodpdfbnkiaaGreatLfD31
section
set_option linter.unusedVariables false
set_option linter.unusedSimpArgs false
namespace Go.Lf
open Go Go.Proofs
structure StepV where
  act : Int
  n : Int
  l : Ls
def SSt : SEnc StepV := ⟨10, fun x => [.int .i64 x.act, .int .i64 x.n] ++ x.l.cells.toList, by omega, fun x => rfl, fun x v hv => by simp [Ls.cells] at hv; rcases hv with rfl | rfl | rfl | rfl | rfl | rfl | rfl | rfl | rfl | rfl <;> rfl⟩
def StepV.ok (x : StepV) : Prop := (0 ≤ x.l.addr ∧ x.l.addr < 4294967296) ∧ x.n ≤ 9223372036854775807
def longS (xs : List StepV) : Prop := (∃ x ∈ xs, 200 < x.l.client.size) ∨ 80 < xs.length
def J16 (w : World) (xs : List StepV) (vs : List Value) (w' : World) : Prop := match vs with | [.int _ i] => w' = w ∧ ∃ k : Nat, i = k ∧ k ≤ xs.length ∧ ∀ x ∈ xs.take k, ¬ 200 < x.l.client.size | _ => False
def M16 (xs : List StepV) (vs : List Value) (_ : World) : Nat := match vs with | [.int _ i] => xs.length - i.toNat | _ => 0
theorem K16 {w : World} {a : Option Addr} {n c : Nat} {xs : List StepV} (h : RdS SSt w (.slice a n c) xs) (hl : xs.length ≤ 9223372036854775807) :
    Calls Cz.P 16 #[.slice a n c] w (CP (fun r w' => w' = w ∧ ∃ b : Bool, r = .bool b ∧ (b = true ↔ longS xs)) (fun _ _ => False)) := by
  refine C16 ?_
  have hn := h.len
  subst hn
  unfold B16
  refine ⟨J16 w xs, M16 xs, ⟨rfl, 0, rfl, Nat.zero_le _, by simp⟩, ?_⟩
  rintro i w1 ⟨rfl, k, rfl, hk, hx⟩
  unfold B16_l1
  refine ifB_dec (fun hlt => ?_) (fun hlt => ?_)
  · have hk' : k < xs.length := by omega
    obtain ⟨b, o, rfl, hc⟩ := h.at hk'
    have hi1 : IntKind.i64.wrap ((k : Int) + 1) = ((k + 1 : Nat) : Int) := by rw [wrap64 (by omega) (by omega)]; omega
    refine need_and (dec (by omega)) (dec (by omega)) ?_
    simp only [nn_some, addk]
    rw [show (k : Int).toNat = k from rfl]
    refine ⟨xs[k].l.client, by have := hc 4 _ rfl; rw [show o + k * 10 + 2 + 2 = o + k * 10 + 4 by omega]; exact this, ifB_dec (fun h2 => ?_) (fun h2 => ?_)⟩
    · exact ⟨by trivial, true, rfl, fun _ => .inl ⟨_, List.getElem_mem hk', by omega⟩, fun _ => rfl⟩
    · refine ⟨⟨rfl, k + 1, hi1, hk', ?_⟩, by show xs.length - (IntKind.i64.wrap ((k : Int) + 1)).toNat < xs.length - (k : Int).toNat; rw [hi1]; omega⟩
      rw [List.take_add_one, List.getElem?_eq_getElem hk']
      intro x hx'
      rcases List.mem_append.1 hx' with hx' | hx'
      · exact hx x hx'
      · rw [List.mem_singleton.1 hx']; omega
  · have hk' : k = xs.length := by omega
    subst hk'
    rw [List.take_length] at hx
    refine ⟨rfl, _, rfl, ?_⟩
    rw [decide_eq_true_iff]
    unfold longS
    constructor
    · intro h; exact .inr (by omega)
    · rintro (⟨x, h1, h2⟩ | h1)
      · exact (hx x h1 h2).elim
      · omega
def pool6 : List Rg := [⟨1, 6⟩]
theorem pool6_eq : pool pool6 = pool6 := by
  have h : PoolOf pool6 pool6 := ⟨by decide, by simp [pool6], fun a => Iff.rfl⟩
  exact (pool_ok (rs := pool6) (by decide)).uniq h
theorem pool6_ok : ∀ r ∈ pool6, r.ok := by
  intro r hr
  rw [List.mem_singleton.1 hr]
  exact ⟨by decide, by decide⟩
theorem pool6_err : poolErr pool6 = 0 := by
  unfold poolErr
  rw [pool6_eq]
  decide
theorem openD6 (D : Dk) : openD pool6 D = D.openLog := by unfold openD; rw [pool6_err]; rfl
theorem K17 (w : World) : Calls Cz.P 17 #[] w (CP (fun r w' => Kp no w w' ∧ ∃ a n c, r = .slice a n c ∧ Rgs w' (.slice a n c) pool6) (fun _ _ => False)) := by
  refine C17 ?_
  unfold B17
  have h := builtS (P := Cz.P) E23 (by decide) (by decide) [.int .u32 1, .int .u32 6] rfl w
  exact ⟨_, _, _, _, h, .alloc _ _ _, _, _, _, rfl, SlS.lit (get_alloc_new _ _) rfl⟩
def likeS (S : StS) (D : Dk) (S' : StS) (D' : Dk) : Prop := S.tab = S'.tab ∧ S.state = S'.state ∧ S.life = S'.life ∧ (scan D.b).1.length = (scan D'.b).1.length
def J15 (w : World) (P : Prop) (vs : List Value) (w' : World) : Prop := match vs with | [.bool b] => Kp no w w' ∧ (b = true ↔ P) | _ => False
theorem K15 {w : World} {base base' p p' s t : Nat} {S S' : StS} {D D' : Dk} (h : SA w base p s S D) (hr : RSA w base' p' t S' D') (hD : D.ok) (hD' : D'.ok) (hok : S.ok) (hok' : S'.ok) :
    Calls Cz.P 15 #[.pointer (some ⟨s, 0, none⟩), .pointer (some ⟨t, 0, none⟩)] w (CP (fun r w' => Kp no w w' ∧ ∃ b : Bool, r = .bool b ∧ (b = true ↔ likeS S D S' D')) (fun _ _ => False)) := by
  refine C15 ?_
  unfold B15
  have hkd : Kp no w w.drew := .drew no _
  have hd := h.keepN hkd
  obtain ⟨t0, v0, q0, hR, hq, hdk, _⟩ := hr.keepN hkd
  obtain ⟨av, cv, rfl⟩ := hR.2.2.slice
  have hlen := hok.tab.len
  have hlen' := hok'.tab.len
  simp only [nn_some, addk, Nat.zero_add]
  refine ⟨_, cl hR.1 rfl, _, _, _, cl hR.2.1 rfl, (K21 hd).mono fun e w1 hp => ?_⟩
  cases e with
  | returned r =>
    obtain ⟨rfl, t1, rfl, ht1⟩ := hp
    refine ⟨_, rfl, ⟨⟨rfl, trivial⟩, ⟨rfl, trivial⟩, trivial⟩, (K22 ht1 (by omega) hok.tab.asc).mono fun e w2 hp => ?_⟩
    cases e with
    | returned r =>
      obtain ⟨hk2, a2, n2, c2, rfl, hrd⟩ := hp
      have hR2 := hR.keepN hk2
      refine ⟨_, _, _, rfl, ⟨⟨hk2.cellD hR.2.1 nf, trivial⟩, ⟨hk2.cellD hR.1 nf, trivial⟩, trivial⟩, (K26 hrd.1 hR2.2.2.rd (by omega) (by omega)).mono fun e w3 hp => ?_⟩
      cases e with
      | returned r =>
        obtain ⟨hk3, b, rfl, hb⟩ := hp
        have hk03 : Kp no w w3.drew := (hkd.then (hk2.then hk3)).then (.drew no _)
        have hs3 := h.keepN hk03
        have hR3 : RStP w3.drew t t0 _ _ S' := hR.keepN ((hk2.then hk3).then (.drew no _))
        have hq3 : LogAt 123 w3.drew q0 p' := ((hk2.then hk3).then (.drew no _)).at hq nf
        have hd3 : DkAt 54 w3.drew p' D' := hdk.keep ((hk2.then hk3).then (.drew no _)) nf .no
        refine ⟨_, rfl, J15 w (likeS S D S' D'), ifB_split (fun hbt => ?_) (fun hbf => ?_), ?_⟩
        · have htab := hb.1 hbt
          refine ⟨_, cl hR3.1 rfl, (K23 hs3).mono fun e w4 hp => ?_⟩
          cases e with
          | returned r =>
            obtain ⟨rfl, rfl⟩ := hp
            refine ⟨_, rfl, ⟨⟨rfl, trivial⟩, trivial⟩, ifB_split (fun h1 => ?_) (fun h1 => ⟨trivial, trivial, hk03, ?_⟩)⟩
            · have hst : S.state = S'.state := by simpa using h1
              refine ⟨_, cl hR3.1 rfl, (K24 hs3).mono fun e w5 hp => ?_⟩
              cases e with
              | returned r =>
                obtain ⟨rfl, rfl⟩ := hp
                refine ⟨_, rfl, ⟨⟨rfl, trivial⟩, trivial⟩, ifB_split (fun h2 => ?_) (fun h2 => ⟨trivial, hk03, ?_⟩)⟩
                · have hli : S.life = S'.life := by simpa using h2
                  refine ⟨_, cl hR3.1 rfl, (K27 hs3 hD).mono fun e w6 hp => ?_⟩
                  cases e with
                  | returned r =>
                    obtain ⟨hk6, rfl⟩ := hp
                    refine ⟨_, rfl, ⟨⟨hk6.cellD hR3.1 nf, trivial⟩, trivial⟩, (K44 (p := p') (show LogAt 123 w6 q0 p' from hk6.at hq3 nf) (hd3.keep hk6 nf .no) hD').mono fun e w7 hp => ?_⟩
                    cases e with
                    | returned r =>
                      obtain ⟨hk7, a7, n7, c7, rfl, ho7⟩ := hp
                      obtain ⟨_, _, hx⟩ := ho7.slice
                      cases hx
                      refine ⟨_, _, _, rfl, (hk03.then hk6).then hk7, ?_⟩
                      unfold likeS
                      rw [beq_iff_eq]
                      constructor
                      · intro h; exact ⟨htab, hst, hli, by omega⟩
                      · rintro ⟨_, _, _, h⟩; rw [h]
                    | _ => exact hp
                  | _ => exact hp
                · have : ¬ S.life = S'.life := by simpa using h2
                  exact ⟨fun h => (by cases h), fun h => (this h.2.2.1).elim⟩
              | _ => exact hp
            · have : ¬ S.state = S'.state := by simpa using h1
              exact ⟨fun h => (by cases h), fun h => (this h.2.1).elim⟩
          | _ => exact hp
        · refine ⟨trivial, trivial, trivial, hk03, fun h => (by cases h), fun h => ?_⟩
          have := hb.2 h.1
          rw [hbf] at this; cases this
        · rintro b44 w45 ⟨hk, hiff⟩
          exact ⟨hk, _, rfl, hiff⟩
      | _ => exact hp
    | _ => exact hp
  | _ => exact hp
end Go.Lf
end

section
set_option linter.unusedVariables false
set_option linter.unusedSimpArgs false
namespace Go.Lf
open Go Go.Proofs
def opS (S : StS) (D : Dk) (x : StepV) : Int × StS × Dk :=
  if x.act = 0 then putS S D x.l else if x.act = 1 then setStateS S D x.n else if x.act = 2 then setLifeS S D x.n else if x.act = 3 then syncS S D else if x.act = 4 then compactS S D else (0, S, D.fail x.n)
def stepS (S : StS) (D : Dk) (x : StepV) : Option (StS × Dk) :=
  if 0 ≤ x.act ∧ x.act ≤ 5 then some (opS S D x).2 else if (D.crash x.n).openLog.1 = 0 then some (openSt pool6 (D.crash x.n), (D.crash x.n).openLog.2) else none
theorem noteS_ok {S : StS} {D : Dk} (h : S.ok) (hD : D.ok) (l : List UInt8) : (noteS S D l).2.1.ok ∧ (noteS S D l).2.2.ok := by
  unfold noteS
  refine ⟨?_, Dk.appendRec_ok hD l⟩
  simp only
  split
  · exact h.doRec l
  · exact h
theorem opS_ok {S : StS} {D : Dk} (h : S.ok) (hD : D.ok) {x : StepV} (hx : x.ok) : (opS S D x).2.1.ok ∧ (opS S D x).2.2.ok := by
  unfold opS
  split
  · unfold putS
    split
    · split
      · exact noteS_ok h hD _
      · exact ⟨h, hD⟩
    · exact ⟨h, hD⟩
  · split
    · unfold setStateS
      split
      · exact ⟨h, hD⟩
      · exact noteS_ok h hD _
    · split
      · unfold setLifeS
        split
        · exact ⟨h, hD⟩
        · exact noteS_ok h hD _
      · split
        · exact ⟨h, Dk.sync_ok hD⟩
        · split
          · refine ⟨h, ?_⟩
            unfold compactS Dk.compact
            simp only
            split
            · exact Dk.swap_ok hD _
            · exact hD
          · exact ⟨h, Dk.fail_ok hD hx.2⟩
/-- what a step of both may write -/
def PR (base : Nat) (w w' : World) : Prop := ∃ S, Kp S w w' ∧ ∀ k, S k → base ≤ k ∧ (PBlk w k ∨ RBlk w k)
theorem PR.kp {base : Nat} {w w' : World} (h : PR base w w') : Kp (fun k => base ≤ k) w w' := by obtain ⟨S, hk, hS⟩ := h; exact hk.mono fun k _ h => (hS k h).1
theorem PR.ofP {base : Nat} {w w' : World} (h : PK base w w') : PR base w w' := by obtain ⟨S, hk, hS⟩ := h; exact ⟨S, hk, fun k h => ⟨(hS k h).1, .inl (hS k h).2⟩⟩
theorem PR.ofR {base : Nat} {w w' : World} (h : RK base w w') : PR base w w' := by obtain ⟨S, hk, hS⟩ := h; exact ⟨S, hk, fun k h => ⟨(hS k h).1, .inr (hS k h).2⟩⟩
theorem PR.of {base : Nat} {w w' : World} (h : Kp no w w') : PR base w w' := ⟨no, h, fun k h => h.elim⟩
theorem PR.trans {base : Nat} {w w' w'' : World} (h : PR base w w') (h' : PR base w' w'') : PR base w w'' := by
  obtain ⟨S, hk, hS⟩ := h
  obtain ⟨T, hk', hT⟩ := h'
  refine ⟨fun k => S k ∨ (T k ∧ ¬ S k ∧ k < w.heap.size), (hk.mono fun k _ h => .inl h).trans hk' (fun k hlt h => ?_), fun k h => ?_⟩
  · rcases Classical.em (S k) with hs | hs
    · exact .inl hs
    · exact .inr ⟨h, hs, hlt⟩
  · rcases h with h | ⟨h1, h2, h3⟩
    · exact hS k h
    · refine ⟨(hT k h1).1, ?_⟩
      have hg := hk.get k h3 h2
      rcases (hT k h1).2 with ⟨o, ho, hp⟩ | ⟨o, ho, hp⟩
      · rw [hg] at ho; exact .inl ⟨o, ho, hp⟩
      · rw [hg] at ho; exact .inr ⟨o, ho, hp⟩
theorem PR.noT {base : Nat} {w w' : World} (h : PR base w w') : ∃ S, Kp S w w' ∧ NoT 22 S w ∧ NoT 5 S w := by
  obtain ⟨S, hk, hS⟩ := h
  have key : ∀ e : TypeId, e ≠ 81 → e ≠ 72 → e ≠ 92 → e ≠ 49 → e ≠ 54 → NoT e S w := by
    intro e h1 h2 h3 h4 h5 b cs f hb hc
    rcases (hS b hb).2 with ⟨o, ho, hp⟩ | ⟨o, ho, hp⟩
    · rw [hc] at ho; cases ho
      rcases hp with ⟨cs, h⟩ | ⟨es, c, h⟩ | ⟨cs, h⟩
      · cases h; exact h1 rfl
      · cases h
      · cases h; exact h2 rfl
    · rw [hc] at ho; cases ho
      rcases hp with ⟨cs, h⟩ | ⟨cs, h⟩ | ⟨cs, h⟩
      · cases h; exact h3 rfl
      · cases h; exact h4 rfl
      · cases h; exact h5 rfl
  exact ⟨S, hk, key 22 (by decide) (by decide) (by decide) (by decide) (by decide), key 5 (by decide) (by decide) (by decide) (by decide) (by decide)⟩
/-- both do one step -/
def StepPost (base p p' s t : Nat) (S : StS) (D : Dk) (x : StepV) (w : World) (r : Value) (w' : World) : Prop := PR base w w' ∧
  match stepS S D x with
  | some (S', D') => ∃ s' t', r = .tuple #[.pointer (some ⟨s', 0, none⟩), .pointer (some ⟨t', 0, none⟩), .bool true] ∧ SA w' base p s' S' D' ∧ RSA w' base p' t' S' D' ∧ S'.ok ∧ D'.ok ∧ (0 ≤ x.act ∧ x.act ≤ 5 → s' = s ∧ t' = t)
  | none => r = .tuple #[.pointer none, .pointer none, .bool true]
theorem tt (x : Int) : Value.bool (x == x) = .bool true := by simp
/-- two like operations -/
theorem two_ops {w w1 w2 : World} {base p p' s t : Nat} {S : StS} {D : Dk} {x : StepV} (h : SA w base p s S D) (hr : RSA w base p' t S D) (hok : S.ok) (hD : D.ok) (hx : x.ok) (ha : 0 ≤ x.act ∧ x.act ≤ 5) {r r' : Value}
    (h1 : OpPost SA PK base p s (opS S D x) w r w1) (h2 : OpPost RSA RK base p' t (opS S D x) w1 r' w2) : StepPost base p p' s t S D x w (.tuple #[.pointer (some ⟨s, 0, none⟩), .pointer (some ⟨t, 0, none⟩), .bool true]) w2 := by
  obtain ⟨k1, _, s1⟩ := h1
  obtain ⟨k2, _, s2⟩ := h2
  unfold StepPost stepS
  rw [if_pos ha]
  obtain ⟨o1, o2⟩ := opS_ok hok hD hx
  exact ⟨(PR.ofP k1).trans (.ofR k2), s, t, rfl, s1.rk k2, s2, o1, o2, fun _ => ⟨rfl, rfl⟩⟩
abbrev StepV.agg (x : StepV) : Value := .agg #[.int .i64 x.act, .int .i64 x.n, .int .u32 x.l.addr, .int .i64 x.l.bind, .string x.l.client, .int .i64 x.l.till, .int .i64 x.l.acked, .int .i64 x.l.told, .int .i64 x.l.at_, .int .i64 x.l.ver]
def StepV.cells (x : StepV) : Array Value := #[.int .i64 x.act, .int .i64 x.n, .int .u32 x.l.addr, .int .i64 x.l.bind, .string x.l.client, .int .i64 x.l.till, .int .i64 x.l.acked, .int .i64 x.l.told, .int .i64 x.l.at_, .int .i64 x.l.ver]
theorem SA.dk {w : World} {base p s : Nat} {S : StS} {D : Dk} (h : SA w base p s S D) : DkAt 72 w p D ∧ base ≤ p := by obtain ⟨t, b, q, _, _, h1, _, _, h2⟩ := h; exact ⟨h1, h2⟩
theorem RSA.dk {w : World} {base p s : Nat} {S : StS} {D : Dk} (h : RSA w base p s S D) : DkAt 54 w p D ∧ base ≤ p := by obtain ⟨t, b, q, _, _, h1, _, _, h2⟩ := h; exact ⟨h1, h2⟩
theorem DkAt.pblk {w : World} {base p : Nat} {D : Dk} (h : DkAt 72 w p D) (hb : base ≤ p) {w' : World} (hk : Kp (fun k => k = p) w w') : PK base w w' := by
  obtain ⟨x, hx, _⟩ := h
  exact ⟨_, hk, fun k h => by subst h; exact ⟨hb, _, hx, .inr (.inr ⟨_, rfl⟩)⟩⟩
theorem DkAt.rblk {w : World} {base p : Nat} {D : Dk} (h : DkAt 54 w p D) (hb : base ≤ p) {w' : World} (hk : Kp (fun k => k = p) w w') : RK base w w' := by
  obtain ⟨x, hx, _⟩ := h
  exact ⟨_, hk, fun k h => by subst h; exact ⟨hb, _, hx, .inr (.inr ⟨_, rfl⟩)⟩⟩
theorem SA.disk {w w' : World} {base p s : Nat} {S : StS} {D D' : Dk} (h : SA w base p s S D) (hk : Kp (fun k => k = p) w w') (hd : DkAt 72 w' p D') : SA w' base p s S D' := by
  obtain ⟨t, b, q, hS, hq, hd0, b1, b2, b3⟩ := h
  exact (compact_fin hS hq hd0 b1 b2 b3 hk hd).2
theorem RSA.disk {w w' : World} {base p s : Nat} {S : StS} {D D' : Dk} (h : RSA w base p s S D) (hk : Kp (fun k => k = p) w w') (hd : DkAt 54 w' p D') : RSA w' base p s S D' := by
  obtain ⟨t, b, q, hS, hq, hd0, b1, b2, b3⟩ := h
  exact (rcompact_fin hS hq hd0 b1 b2 b3 hk hd).2
theorem step_int (x y : Int) : ((x == y) = true → x = y) ∧ ((x == y) = false → ¬ x = y) := by constructor <;> intro h <;> simpa using h
theorem K18 {w : World} {base p p' s t : Nat} {S : StS} {D : Dk} {x : StepV} (h : SA w base p s S D) (hr : RSA w base p' t S D) (hok : S.ok) (hD : D.ok) (hx : x.ok) (hw : base ≤ w.heap.size) :
    Calls Cz.P 18 #[.pointer (some ⟨p, 0, none⟩), .pointer (some ⟨p', 0, none⟩), .pointer (some ⟨s, 0, none⟩), .pointer (some ⟨t, 0, none⟩), x.agg] w (CP (StepPost base p p' s t S D x w) (fun _ _ => False)) := by
  refine C18 ?_
  unfold B18
  refine nw_i fun k w1 e1 hk1 g1 => ?_
  have g1 : w1.heap[k]? = some (.cells x.cells 51 (0, 0)) := g1
  have h1 := h.keepN hk1
  have hr1 := hr.keepN hk1
  have hlen : S.tab.length ≤ 1048576 := by have := hok.tab.len; omega
  have hz1 := hk1.size
  have pre : ∀ {r w'}, StepPost base p p' s t S D x w1 r w' → StepPost base p p' s t S D x w r w' := fun ⟨a, b⟩ => ⟨(PR.of hk1).trans a, b⟩
  have gP : ∀ {w'}, PK base w1 w' → w'.heap[k]? = some (.cells x.cells 51 (0, 0)) := by
    rintro w' ⟨T, hT, hS⟩
    exact hT.at g1 (nP (fun k h => (hS k h).2) g1 (by simp) (by simp) (by simp))
  refine ⟨_, cl g1 rfl, ifB_split (fun h0 => ?_) (fun h0 => ?_)⟩
  · have h0 := (step_int _ _).1 h0
    have ho : opS S D x = putS S D x.l := by unfold opS; rw [if_pos h0]
    refine ⟨_, _, _, _, _, _, _, _, ⟨cl g1 rfl, cl g1 rfl, cl g1 rfl, cl g1 rfl, cl g1 rfl, cl g1 rfl, cl g1 rfl, cl g1 rfl, trivial⟩, (K29 h1 hD (by omega) hx.1).mono fun e w2 hp => ?_⟩
    cases e with
    | returned r =>
      have g2 := gP hp.1
      have hr2 := hr1.pk hp.1
      obtain ⟨hk2, rfl, _⟩ := id hp
      refine ⟨_, rfl, _, _, _, _, _, _, _, _, ⟨cl g2 rfl, cl g2 rfl, cl g2 rfl, cl g2 rfl, cl g2 rfl, cl g2 rfl, cl g2 rfl, cl g2 rfl, trivial⟩, (K46 hr2 hD hlen hx.1).mono fun e w3 hp' => ?_⟩
      cases e with
      | returned r =>
        obtain ⟨hk3, rfl, _⟩ := id hp'
        refine ⟨_, rfl, ?_⟩
        rw [tt]
        exact pre (two_ops h1 hr1 hok hD hx (by omega) (ho ▸ hp) (ho ▸ hp'))
      | _ => exact hp'
    | _ => exact hp
  have h0 := (step_int _ _).2 h0
  refine ifB_split (fun h2 => ?_) (fun h2 => ?_)
  · have h2 := (step_int _ _).1 h2
    have ho : opS S D x = setStateS S D x.n := by unfold opS; rw [if_neg h0, if_pos h2]
    refine ⟨_, cl g1 rfl, (K32 h1 hD x.n).mono fun e w2 hp => ?_⟩
    cases e with
    | returned r =>
      have g2 := gP hp.1
      have hr2 := hr1.pk hp.1
      obtain ⟨hk2, rfl, _⟩ := id hp
      refine ⟨_, rfl, _, cl g2 rfl, (K47 hr2 hD hlen x.n).mono fun e w3 hp' => ?_⟩
      cases e with
      | returned r =>
        obtain ⟨hk3, rfl, _⟩ := id hp'
        refine ⟨_, rfl, ?_⟩
        rw [tt]
        exact pre (two_ops h1 hr1 hok hD hx (by omega) (ho ▸ hp) (ho ▸ hp'))
      | _ => exact hp'
    | _ => exact hp
  have h2 := (step_int _ _).2 h2
  refine ifB_split (fun h3 => ?_) (fun h3 => ?_)
  · have h3 := (step_int _ _).1 h3
    have ho : opS S D x = setLifeS S D x.n := by unfold opS; rw [if_neg h0, if_neg h2, if_pos h3]
    refine ⟨_, cl g1 rfl, (K30 h1 hD x.n).mono fun e w2 hp => ?_⟩
    cases e with
    | returned r =>
      have g2 := gP hp.1
      have hr2 := hr1.pk hp.1
      obtain ⟨hk2, rfl, _⟩ := id hp
      refine ⟨_, rfl, _, cl g2 rfl, (K48 hr2 hD hlen x.n).mono fun e w3 hp' => ?_⟩
      cases e with
      | returned r =>
        obtain ⟨hk3, rfl, _⟩ := id hp'
        refine ⟨_, rfl, ?_⟩
        rw [tt]
        exact pre (two_ops h1 hr1 hok hD hx (by omega) (ho ▸ hp) (ho ▸ hp'))
      | _ => exact hp'
    | _ => exact hp
  have h3 := (step_int _ _).2 h3
  refine ifB_split (fun h4 => ?_) (fun h4 => ?_)
  · have h4 := (step_int _ _).1 h4
    have ho : opS S D x = syncS S D := by unfold opS; rw [if_neg h0, if_neg h2, if_neg h3, if_pos h4]
    refine (K31 h1 hD).mono fun e w2 hp => ?_
    cases e with
    | returned r =>
      have hr2 := hr1.pk hp.1
      obtain ⟨hk2, rfl, _⟩ := id hp
      refine ⟨_, rfl, (K49 hr2 hD).mono fun e w3 hp' => ?_⟩
      cases e with
      | returned r =>
        obtain ⟨hk3, rfl, _⟩ := id hp'
        refine ⟨_, rfl, ?_⟩
        rw [tt]
        exact pre (two_ops h1 hr1 hok hD hx (by omega) (ho ▸ hp) (ho ▸ hp'))
      | _ => exact hp'
    | _ => exact hp
  have h4 := (step_int _ _).2 h4
  refine ifB_split (fun h5 => ?_) (fun h5 => ?_)
  · have h5 := (step_int _ _).1 h5
    have ho : opS S D x = compactS S D := by unfold opS; rw [if_neg h0, if_neg h2, if_neg h3, if_neg h4, if_pos h5]
    refine (K25 h1 hD hok).mono fun e w2 hp => ?_
    cases e with
    | returned r =>
      have hr2 := hr1.pk hp.1
      obtain ⟨hk2, rfl, _⟩ := id hp
      refine ⟨_, rfl, (K50 hr2 hD hok).mono fun e w3 hp' => ?_⟩
      cases e with
      | returned r =>
        obtain ⟨hk3, rfl, _⟩ := id hp'
        refine ⟨_, rfl, ?_⟩
        rw [tt]
        exact pre (two_ops h1 hr1 hok hD hx (by omega) (ho ▸ hp) (ho ▸ hp'))
      | _ => exact hp'
    | _ => exact hp
  have h5 := (step_int _ _).2 h5
  obtain ⟨hd1, hb1⟩ := h1.dk
  obtain ⟨hd1', hb1'⟩ := hr1.dk
  refine ifB_split (fun h6 => ?_) (fun h6 => ?_)
  · have h6 := (step_int _ _).1 h6
    have ho : opS S D x = (0, S, D.fail x.n) := by unfold opS; rw [if_neg h0, if_neg h2, if_neg h3, if_neg h4, if_neg h5]
    refine ⟨_, cl g1 rfl, (K51 hd1 (x := x.n)).mono fun e w2 hp => ?_⟩
    cases e with
    | returned r =>
      obtain ⟨hk2, rfl, hd2⟩ := hp
      have hpk := hd1.pblk hb1 hk2
      have g2 := gP hpk
      refine ⟨rfl, _, cl g2 rfl, (K52 (hd1'.pk hpk) (x := x.n)).mono fun e w3 hp' => ?_⟩
      cases e with
      | returned r =>
        obtain ⟨hk3, rfl, hd3⟩ := hp'
        refine ⟨rfl, pre (two_ops (r := .int .i64 0) (r' := .int .i64 0) h1 hr1 hok hD hx (by omega) (w1 := w2) ?_ ?_)⟩
        · rw [ho]; exact ⟨hpk, rfl, h1.disk hk2 hd2⟩
        · rw [ho]; exact ⟨(hd1'.pk hpk).rblk hb1' hk3, rfl, (hr1.pk hpk).disk hk3 hd3⟩
      | _ => exact hp'
    | _ => exact hp
  have h6 := (step_int _ _).2 h6
  refine ⟨_, cl g1 rfl, (K20 hd1 hD (k := x.n)).mono fun e w2 hp => ?_⟩
  cases e with
  | returned r =>
    obtain ⟨hk2, rfl, hd2⟩ := hp
    have hpk := hd1.pblk hb1 hk2
    have g2 := gP hpk
    have hD2 := Dk.crash_ok hD x.n
    refine ⟨rfl, _, cl g2 rfl, (K53 (hd1'.pk hpk) hD (k := x.n)).mono fun e w3 hp' => ?_⟩
    cases e with
    | returned r =>
      obtain ⟨hk3, rfl, hd3⟩ := hp'
      have hrk := (hd1'.pk hpk).rblk hb1' hk3
      have hd23 := hd2.rk hrk
      refine ⟨rfl, (K17 w3).mono fun e w4 hp => ?_⟩
      cases e with
      | returned r =>
        obtain ⟨hk4, a4, n4, c4, rfl, hv4⟩ := hp
        have z2 := hk2.size
        have z3 := hk3.size
        have z4 := hk4.size
        refine ⟨_, _, _, rfl, (K13 (base := base) (hd23.keep hk4 nf .no) hD2 hb1 (by omega) hv4 pool6_ok (by decide)).mono fun e w5 hp5 => ?_⟩
        cases e with
        | returned r5 =>
          obtain ⟨hk5, hd5, hp5⟩ := hp5
          have z5 := hk5.kp.size
          have kk : PR base w1 w5 := (((PR.ofP hpk).trans (.ofR hrk)).trans (.of hk4)).trans (.ofP hk5)
          have hd3' : DkAt 54 w5 p' (D.crash x.n) := (hd3.keep hk4 nf .no).pk hk5
          rw [openD6] at hp5 hd5
          have fin : ∀ w6, Kp no w5 w6 → ∀ a n c, Rgs w6 (.slice a n c) pool6 → ∀ {R : Value → World → Prop}, (∀ r w7, PR base w1 w7 → RK base w6 w7 → DkAt 54 w7 p' (D.crash x.n).openLog.2 → ((D.crash x.n).openLog.1 ≠ 0 ∧ r = .tuple #[.pointer none, .int .i64 (D.crash x.n).openLog.1] ∨ (D.crash x.n).openLog.1 = 0 ∧ ∃ s, r = .tuple #[.pointer (some ⟨s, 0, none⟩), .int .i64 0] ∧ RSA w7 base p' s (openSt pool6 (D.crash x.n)) (D.crash x.n).openLog.2) → R r w7) →
              Calls Cz.P 14 #[.pointer (some ⟨p', 0, none⟩), .slice a n c] w6 (CP R (fun _ _ => False)) := by
            intro w6 hk6 a n c hv6 R hR
            refine (K14 (base := base) (hd3'.keep hk6 nf .no) hD2 hb1' (by have := hk6.size; omega) hv6 pool6_ok (by decide)).mono fun e w7 hp7 => ?_
            cases e with
            | returned r7 =>
              obtain ⟨hk7, hd7, hp7⟩ := hp7
              rw [openD6] at hp7 hd7
              exact hR r7 w7 ((kk.trans (.of hk6)).trans (.ofR hk7)) hk7 hd7 hp7
            | _ => exact hp7
          have hst : ∀ (hc : (D.crash x.n).openLog.1 = 0), stepS S D x = some (openSt pool6 (D.crash x.n), (D.crash x.n).openLog.2) := fun hc => by unfold stepS; rw [if_neg (by omega), if_pos hc]
          have hst' : ∀ (hc : ¬ (D.crash x.n).openLog.1 = 0), stepS S D x = none := fun hc => by unfold stepS; rw [if_neg (by omega), if_neg hc]
          rcases hp5 with ⟨hne, rfl⟩ | ⟨hz, s', rfl, hs5⟩
          · refine ⟨_, _, rfl, (K17 w5).mono fun e w6 hp => ?_⟩
            cases e with
            | returned r =>
              obtain ⟨hk6, a6, n6, c6, rfl, hv6⟩ := hp
              refine ⟨_, _, _, rfl, fin w6 hk6 _ _ _ hv6 fun r7 w7 kk7 hk7 hd7 hp7 => ?_⟩
              rcases hp7 with ⟨_, rfl⟩ | ⟨hz, _⟩
              · refine ⟨_, _, rfl, ?_⟩
                rw [show ((D.crash x.n).openLog.1 == (D.crash x.n).openLog.1) = true by simp]
                refine ifB_true.2 (pre ⟨kk7, ?_⟩)
                rw [hst' hne]
                rfl
              · exact (hne hz).elim
            | _ => exact hp
          · refine ⟨_, _, rfl, (K17 w5).mono fun e w6 hp => ?_⟩
            cases e with
            | returned r =>
              obtain ⟨hk6, a6, n6, c6, rfl, hv6⟩ := hp
              refine ⟨_, _, _, rfl, fin w6 hk6 _ _ _ hv6 fun r7 w7 kk7 hk7 hd7 hp7 => ?_⟩
              rcases hp7 with ⟨hne, _⟩ | ⟨_, t', rfl, ht7⟩
              · exact (hne hz).elim
              · refine ⟨_, _, rfl, ifB_true.2 (pre ⟨kk7, ?_⟩)⟩
                rw [hst hz]
                exact ⟨s', t', rfl, (hs5.keepN hk6).rk hk7, ht7, openSt_ok pool6_ok (by rw [openD6]; exact hz), Dk.openLog_ok hD2, fun h => by omega⟩
            | _ => exact hp
        | _ => exact hp5
      | _ => exact hp
    | _ => exact hp'
  | _ => exact hp
end Go.Lf
end

section
set_option linter.unusedVariables false
set_option linter.unusedSimpArgs false
/-! The log, with no program in sight. -/
namespace Go.Lf
open Go Go.Proofs
def encode (ls : List (List UInt8)) : List UInt8 := (ls.map put).flatten
theorem encode_cons (l : List UInt8) (ls : List (List UInt8)) : encode (l :: ls) = put l ++ encode ls := rfl
theorem encode_append (ls ms : List (List UInt8)) : encode (ls ++ ms) = encode ls ++ encode ms := by unfold encode; rw [List.map_append, List.flatten_append]
theorem nn2_put {l : List UInt8} (h : recOk l) (r : List UInt8) : nn2 (put l ++ r) = l.length := by
  obtain ⟨h1, h2⟩ := h
  show (hi8 l.length).toNat * 256 + (lo8 l.length).toNat = l.length
  unfold hi8 lo8
  simp
  omega
theorem frOk_put {l : List UInt8} (h : recOk l) (r : List UInt8) : frOk (put l ++ r) = true := by
  unfold frOk
  rw [nn2_put h r, decide_eq_true_iff]
  have hl : (put l ++ r).length = l.length + 3 + r.length := by rw [List.length_append, put_length]
  have h' := h
  unfold recOk at h'
  refine ⟨by omega, by omega, by omega, by omega, ?_⟩
  have : put l ++ r = [hi8 l.length, lo8 l.length] ++ (l ++ ([90] ++ r)) := by unfold put; simp
  rw [this, List.getD_eq_getElem?_getD, List.getElem?_append_right (by simp), List.getElem?_append_right (by simp)]
  simp
theorem scan_put {l : List UInt8} (h : recOk l) (r : List UInt8) : scan (put l ++ r) = (l :: (scan r).1, (put l).length + (scan r).2) := by
  rw [scan_yes (frOk_put h r), nn2_put h r]
  have e1 : (put l ++ r).drop (3 + l.length) = r := by
    rw [List.drop_append, List.drop_eq_nil_of_le (by rw [put_length]; omega), put_length, show 3 + l.length - (l.length + 3) = 0 by omega]; rfl
  have e2 : ((put l ++ r).drop 2).take l.length = l := by
    have : put l ++ r = [hi8 l.length, lo8 l.length] ++ (l ++ ([90] ++ r)) := by unfold put; simp
    rw [this]
    show (l ++ ([90] ++ r)).take l.length = l
    exact List.take_left' rfl
  rw [e1, e2, put_length]
  congr 1
  omega
theorem scan_nil : scan [] = ([], 0) := scan_no (by simp [frOk])
theorem scan_encode : ∀ (ls : List (List UInt8)) (r : List UInt8), (∀ l ∈ ls, recOk l) → scan (encode ls ++ r) = (ls ++ (scan r).1, (encode ls).length + (scan r).2)
  | [], r, _ => by simp [encode]
  | l :: ls, r, h => by
    rw [encode_cons, List.append_assoc, scan_put (h l (.head _)), scan_encode ls r (fun x hx => h x (.tail _ hx))]
    simp only [List.cons_append, List.length_append]
    congr 1
    omega
theorem scan_all {ls : List (List UInt8)} (h : ∀ l ∈ ls, recOk l) : scan (encode ls) = (ls, (encode ls).length) := by
  have := scan_encode ls [] h
  rw [List.append_nil, scan_nil] at this
  simpa using this
theorem scan_part {l : List UInt8} (h : recOk l) {m : Nat} (hm : m < (put l).length) : scan ((put l).take m) = ([], 0) := by
  refine scan_no fun hf => ?_
  unfold frOk at hf
  rw [decide_eq_true_iff] at hf
  obtain ⟨h1, _, _, h4, _⟩ := hf
  rw [List.length_take, Nat.min_eq_left (by omega)] at h1 h4
  have : nn2 ((put l).take m) = l.length := by
    have e : (put l).take m = [hi8 l.length, lo8 l.length] ++ ((l ++ [90]).take (m - 2)) := by
      unfold put
      rw [List.append_assoc, List.take_append, List.take_of_length_le (by simp; omega)]
      rfl
    rw [e]
    have := nn2_put h []
    rw [List.append_nil] at this
    exact this
  rw [this] at h4
  rw [put_length] at hm
  omega
/-- a beginning of a log -/
theorem scan_take : ∀ (ls : List (List UInt8)) (k : Nat), (∀ l ∈ ls, recOk l) → ∃ j, j ≤ ls.length ∧ scan ((encode ls).take k) = (ls.take j, (encode (ls.take j)).length) ∧ (encode (ls.take j)).length ≤ k ∧ (j < ls.length → k < (encode (ls.take (j + 1))).length)
  | [], k, _ => ⟨0, Nat.le_refl _, by simp [encode, scan_nil], by simp [encode], by simp⟩
  | l :: ls, k, h => by
    rw [encode_cons]
    by_cases hk : k < (put l).length
    · refine ⟨0, Nat.zero_le _, ?_, by simp [encode], fun _ => by simpa [encode] using hk⟩
      rw [List.take_append_of_le_length (by omega), scan_part (h l (.head _)) hk]
      simp [encode]
    · obtain ⟨j, h1, h2, h3, h4⟩ := scan_take ls (k - (put l).length) (fun x hx => h x (.tail _ hx))
      refine ⟨j + 1, by simpa using h1, ?_, ?_, ?_⟩
      · rw [List.take_append, List.take_of_length_le (by omega), scan_put (h l (.head _)), h2, List.take_succ_cons, encode_cons, List.length_append]
      · rw [List.take_succ_cons, encode_cons, List.length_append]; omega
      · intro hj
        have := h4 (by simpa using hj)
        rw [List.take_succ_cons, encode_cons, List.length_append]; omega
end Go.Lf
end

section
set_option linter.unusedVariables false
set_option linter.unusedSimpArgs false
namespace Go.Lf
open Go Go.Proofs
theorem fld_of {l A B C : List UInt8} {i k : Nat} (h : l = A ++ B ++ C) (hA : A.length = i) (hB : B.length = k) : fld l i k = ofB B := by
  subst h
  unfold fld
  rw [List.append_assoc, List.drop_left' hA, List.take_left' hB]
theorem ls_enc {x : Ls} (hr : x.right = true) (ha : 0 ≤ x.addr ∧ x.addr < 4294967296) : lsOf x.enc = x ∧ decOk x.enc = true := by
  obtain ⟨b1, b2, b3, b4, b5, b6, b7⟩ := right_bounds hr
  obtain ⟨a, b, c, t1, t2, t3, t4, t5⟩ := x
  simp only at b1 b2 b3 b4 b5 b6 b7 ha
  have hs : c.data.toList.length = c.size := by simp
  have hlen : (Ls.enc ⟨a, b, c, t1, t2, t3, t4, t5⟩).length = 36 + c.size := by
    unfold Ls.enc
    simp only [List.length_append, be_length, List.length_cons, List.length_nil, hs]
  have e6 : ∀ t : Int, 0 ≤ t ∧ t ≤ 1099511627776 → ((ofB (be 6 t.toNat) : Nat) : Int) = t := by
    intro t ht; rw [ofB_be 6 t.toNat (by omega)]; omega
  have hls : lsOf (Ls.enc ⟨a, b, c, t1, t2, t3, t4, t5⟩) = ⟨a, b, c, t1, t2, t3, t4, t5⟩ := by
    unfold lsOf
    have g4 : (Ls.enc ⟨a, b, c, t1, t2, t3, t4, t5⟩).getD 4 0 = UInt8.ofNat b.toNat := by
      unfold Ls.enc
      simp only [List.append_assoc]
      rw [List.getD_eq_getElem?_getD, List.getElem?_append_right (by rw [be_length]; omega), be_length]
      rfl
    have d36 : (Ls.enc ⟨a, b, c, t1, t2, t3, t4, t5⟩).drop 36 = c.data.toList := by
      unfold Ls.enc
      refine List.drop_left' ?_
      simp [be_length]
    rw [g4, d36]
    rw [fld_of (A := []) (B := be 4 a.toNat) (C := [UInt8.ofNat b.toNat] ++ be 6 t1.toNat ++ be 6 t2.toNat ++ be 6 t3.toNat ++ be 6 t4.toNat ++ be 6 t5.toNat ++ [UInt8.ofNat c.size] ++ c.data.toList) (i := 0) (k := 4) (by simp [Ls.enc]) rfl (be_length _ _),
      fld_of (A := be 4 a.toNat ++ [UInt8.ofNat b.toNat]) (B := be 6 t1.toNat) (C := be 6 t2.toNat ++ be 6 t3.toNat ++ be 6 t4.toNat ++ be 6 t5.toNat ++ [UInt8.ofNat c.size] ++ c.data.toList) (i := 5) (k := 6) (by simp [Ls.enc]) (by simp [be_length]) (be_length _ _),
      fld_of (A := be 4 a.toNat ++ [UInt8.ofNat b.toNat] ++ be 6 t1.toNat) (B := be 6 t2.toNat) (C := be 6 t3.toNat ++ be 6 t4.toNat ++ be 6 t5.toNat ++ [UInt8.ofNat c.size] ++ c.data.toList) (i := 11) (k := 6) (by simp [Ls.enc]) (by simp [be_length]) (be_length _ _),
      fld_of (A := be 4 a.toNat ++ [UInt8.ofNat b.toNat] ++ be 6 t1.toNat ++ be 6 t2.toNat) (B := be 6 t3.toNat) (C := be 6 t4.toNat ++ be 6 t5.toNat ++ [UInt8.ofNat c.size] ++ c.data.toList) (i := 17) (k := 6) (by simp [Ls.enc]) (by simp [be_length]) (be_length _ _),
      fld_of (A := be 4 a.toNat ++ [UInt8.ofNat b.toNat] ++ be 6 t1.toNat ++ be 6 t2.toNat ++ be 6 t3.toNat) (B := be 6 t4.toNat) (C := be 6 t5.toNat ++ [UInt8.ofNat c.size] ++ c.data.toList) (i := 23) (k := 6) (by simp [Ls.enc]) (by simp [be_length]) (be_length _ _),
      fld_of (A := be 4 a.toNat ++ [UInt8.ofNat b.toNat] ++ be 6 t1.toNat ++ be 6 t2.toNat ++ be 6 t3.toNat ++ be 6 t4.toNat) (B := be 6 t5.toNat) (C := [UInt8.ofNat c.size] ++ c.data.toList) (i := 29) (k := 6) (by simp [Ls.enc]) (by simp [be_length]) (be_length _ _)]
    rw [e6 _ b1, e6 _ b2, e6 _ b3, e6 _ b4, e6 _ b5, ofB_be 4 a.toNat (by omega)]
    have h1 : ((a.toNat : Nat) : Int) = a := by omega
    have h2 : (((UInt8.ofNat b.toNat).toNat : Nat) : Int) = b := by simp; omega
    rw [h1, h2]
  refine ⟨hls, ?_⟩
  unfold decOk
  rw [hls, hr, decide_eq_true (by omega)]
  have g35 : (Ls.enc ⟨a, b, c, t1, t2, t3, t4, t5⟩).getD 35 0 = UInt8.ofNat c.size := by
    have : Ls.enc ⟨a, b, c, t1, t2, t3, t4, t5⟩ = (be 4 a.toNat ++ [UInt8.ofNat b.toNat] ++ be 6 t1.toNat ++ be 6 t2.toNat ++ be 6 t3.toNat ++ be 6 t4.toNat ++ be 6 t5.toNat) ++ ([UInt8.ofNat c.size] ++ c.data.toList) := by simp [Ls.enc]
    rw [this, List.getD_eq_getElem?_getD, List.getElem?_append_right (by simp [be_length])]
    simp [be_length]
  rw [g35, hlen, decide_eq_true (by simp; omega)]
  rfl
theorem doRec_cons (S : StS) (c : UInt8) (m : List UInt8) : doRec S (c :: m) = if c = 76 then (if decOk m = true then { S with tab := (setT S.tab (lsOf m)).2 } else S)
    else if c = 83 ∧ m.length = 1 ∧ (m.getD 0 0).toNat ≤ 8 then { S with state := (m.getD 0 0).toNat }
    else if c = 70 ∧ m.length = 4 then (if ofB m ≤ 536870912 then { S with life := ofB m } else S)
    else S := rfl
theorem doRec_lease (S : StS) {x : Ls} (hr : x.right = true) (ha : 0 ≤ x.addr ∧ x.addr < 4294967296) : doRec S (76 :: x.enc) = { S with tab := (setT S.tab x).2 } := by
  obtain ⟨h1, h2⟩ := ls_enc hr ha
  rw [doRec_cons, if_pos rfl, if_pos h2, h1]
theorem doRec_state (S : StS) {n : Int} (h : 0 ≤ n ∧ n ≤ 8) : doRec S (stRec n) = { S with state := n } := by
  unfold stRec
  rw [doRec_cons, if_neg (by decide), if_pos ⟨rfl, rfl, by simp; omega⟩]
  have : ((([UInt8.ofNat n.toNat] : List UInt8).getD 0 0).toNat : Int) = n := by simp; omega
  rw [this]
theorem doRec_life (S : StS) {n : Int} (h : 0 ≤ n ∧ n ≤ 536870912) : doRec S (lifeRec n) = { S with life := n } := by
  unfold lifeRec
  rw [doRec_cons, if_neg (by decide), if_neg (by rintro ⟨h, _⟩; exact absurd h (by decide)), if_pos ⟨rfl, be_length _ _⟩, ofB_be 4 n.toNat (by omega), if_pos (by omega)]
  have : ((n.toNat : Nat) : Int) = n := by omega
  rw [this]
theorem stRec_ok (n : Int) : recOk (stRec n) := by unfold recOk stRec; simp
theorem lifeRec_ok (n : Int) : recOk (lifeRec n) := by unfold recOk; rw [lifeRec_len]; omega
theorem leaseRec_ok {x : Ls} (h : x.right = true) : recOk (76 :: x.enc) := by have := enc_len h; unfold recOk; simp only [List.length_cons]; omega
/-- a store whose log tells what it knows; room as the laws have it -/
structure LogIs (S : StS) (D : Dk) (rs : List (List UInt8)) : Prop where
  ok : ∀ l ∈ rs, recOk l
  b : D.b = encode rs
  st : S = rs.foldl doRec (st0 pool6)
  inn : D.inn = -1
theorem openLog_of {D : Dk} {rs : List (List UInt8)} (h : ∀ l ∈ rs, recOk l) (hb : D.b = encode rs) : D.openLog = (0, D) ∧ (scan D.b).1 = rs := by
  unfold Dk.openLog
  rw [hb, scan_all h]
  exact ⟨if_neg (by simp), rfl⟩
end Go.Lf
end
