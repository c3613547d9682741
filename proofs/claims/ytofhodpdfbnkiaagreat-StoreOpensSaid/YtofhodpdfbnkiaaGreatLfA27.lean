/- Part 27 of the lemmas that a proof leans on; no claim is made here. By an AI agent. -/
import Derived.Test.YtofhodpdfbnkiaaGreatLfA10
import Derived.Test.YtofhodpdfbnkiaaGreatLfA17
import Derived.Test.YtofhodpdfbnkiaaGreatLfA20
import Derived.Test.YtofhodpdfbnkiaaGreatLfA22
import Derived.Test.YtofhodpdfbnkiaaGreatLfA25
import Derived.Test.YtofhodpdfbnkiaaGreatLfA26
section
set_option linter.unusedVariables false
set_option linter.unusedSimpArgs false
namespace Go.Lf
open Go Go.Proofs
def bares (P : List Rg) : List Ls := (addrs P).map fun (a : Nat) => bare (a : Int) 0 0
theorem bares_len (P : List Rg) : (bares P).length = (addrs P).length := by simp [bares]
theorem look_absent {a : Int} : ∀ {T : List Ls} {i : Nat}, (∀ x ∈ T, x.addr ≠ a) → look a T i = none
  | [], _, _ => rfl
  | x :: T, i, h => by
    rw [look_cons, if_neg (h x (.head _))]
    exact look_absent fun y hy => h y (.tail _ hy)
theorem bares_take {P : List Rg} {k : Nat} (h : k < (addrs P).length) : (bares P).take (k + 1) = (bares P).take k ++ [bare ((addrs P)[k] : Nat) 0 0] := by
  unfold bares
  rw [List.take_add_one, List.getElem?_map, List.getElem?_eq_getElem h]
  rfl
theorem bares_fresh {P : List Rg} (hs : (addrs P).Pairwise (· < ·)) {k : Nat} (h : k < (addrs P).length) : look ((addrs P)[k] : Nat) ((bares P).take k) 0 = none := by
  refine look_absent fun x hx => ?_
  unfold bares at hx
  rw [← List.map_take] at hx
  obtain ⟨a, ha, rfl⟩ := List.mem_map.1 hx
  obtain ⟨i, hi, rfl⟩ := List.mem_iff_getElem.1 ha
  rw [List.length_take] at hi
  rw [List.getElem_take]
  have := List.pairwise_iff_getElem.1 hs i k (by omega) h (by omega)
  show ((addrs P)[i] : Int) ≠ ((addrs P)[k] : Nat)
  omega
def TabB (base : Nat) (w : World) (p : Nat) (T : List Ls) : Prop := ∃ b, base ≤ b ∧ w.heap[p]? = some (.cells #[.map (some b)] 110 (0, 0)) ∧ MapAt w b T
def RTabB (base : Nat) (w : World) (p : Nat) (T : List Ls) : Prop := ∃ v, w.heap[p]? = some (.cells #[v] 94 (0, 0)) ∧ OwnS SL 49 w base v T
def NewPost (At : World → Nat → List Ls → Prop) (rs : List Rg) (w : World) (r : Value) (w' : World) : Prop := Kp no w w' ∧
  (((∃ x ∈ rs, x.hi < x.lo) ∧ r = .tuple #[.pointer none, .int .i64 1]) ∨
  ((∀ x ∈ rs, x.lo ≤ x.hi) ∧ ((256 < cnt (pool rs) ∧ r = .tuple #[.pointer none, .int .i64 3]) ∨
    (cnt (pool rs) ≤ 256 ∧ ∃ p, r = .tuple #[.pointer (some ⟨p, 0, none⟩), .int .i64 0] ∧ At w' p (bares (pool rs))))))
theorem pool_facts {rs : List Rg} (hok : ∀ r ∈ rs, r.ok) (hall : ∀ r ∈ rs, r.lo ≤ r.hi) (hc : cnt (pool rs) ≤ 256) :
    (∀ r ∈ pool rs, r.ok ∧ r.lo ≤ r.hi) ∧ (addrs (pool rs)).length ≤ 256 ∧ (addrs (pool rs)).Pairwise (· < ·) ∧ (pool rs).length ≤ 256 ∧ (∀ a ∈ addrs (pool rs), a < 4294967296) := by
  have h := pool_ok hall
  have hlen := addrs_len h.ok
  have hin : ∀ r ∈ pool rs, r.ok := by
    intro r hr
    have := (inU_bounds hok ((h.mem r.hi).1 ⟨r, hr, by have := h.ok r hr; omega, Int.le_refl _⟩)).2
    have := h.ok r hr
    constructor <;> omega
  refine ⟨fun r hr => ⟨hin r hr, h.ok r hr⟩, by omega, addrs_sorted h.gap, ?_, fun a ha => ?_⟩
  · have : ∀ (A : List Rg), (∀ r ∈ A, r.lo ≤ r.hi) → (A.length : Int) ≤ cnt A := by
      intro A
      induction A with
      | nil => intro _; simp [cnt]
      | cons r A ih =>
        intro h
        have h1 := ih fun x hx => h x (.tail _ hx)
        have h2 := h r (.head _)
        have e : cnt (r :: A) = r.size + cnt A := by simp [cnt]
        rw [e]; unfold Rg.size; simp only [List.length_cons]; omega
    have := this _ h.ok
    omega
  · have := (inU_bounds hok ((h.mem a).1 (addrs_mem.1 ha))).2
    omega
def J37 (w9 : World) (P : List Rg) (k13 b : Nat) (vs : List Value) (w' : World) : Prop :=
  match vs with | [.int _ i] => ∃ k : Nat, i = k ∧ k ≤ (addrs P).length ∧ Kp no w9 w' ∧ w9.heap.size ≤ b ∧ w'.heap[k13]? = some (.cells #[.map (some b)] 110 (0, 0)) ∧ MapAt w' b ((bares P).take k) | _ => False
def M37 (P : List Rg) (vs : List Value) (_ : World) : Nat := match vs with | [.int _ i] => (addrs P).length - i.toNat | _ => 0
theorem K37 {w : World} {a : Option Addr} {n c : Nat} {rs : List Rg} (hv : Rgs w (.slice a n c) rs) (hok : ∀ r ∈ rs, r.ok) (hl : rs.length ≤ 1048576) :
    Calls Cz.P 37 #[.slice a n c] w (CP (NewPost (TabB w.heap.size) rs w) (fun _ _ => False)) := by
  refine C37 ?_
  unfold B37
  refine (K67 hv hok hl).mono fun e w9 hp => ?_
  cases e with
  | returned r =>
    obtain ⟨hk9, ⟨h1, rfl⟩ | ⟨hall, ⟨h1, rfl⟩ | ⟨hc, a5, n6, c7, rfl, ho⟩⟩⟩ := hp
    · exact ⟨_, _, _, _, rfl, ifB_true.2 ⟨hk9, .inl ⟨h1, rfl⟩⟩⟩
    · exact ⟨_, _, _, _, rfl, ifB_true.2 ⟨hk9, .inr ⟨hall, .inl ⟨h1, rfl⟩⟩⟩⟩
    · obtain ⟨f1, f2, f3, f4, f5⟩ := pool_facts hok hall hc
      have f1a : ∀ r ∈ pool rs, r.ok := fun r hr => (f1 r hr).1
      have hlen := addrs_len (P := pool rs) fun r hr => (f1 r hr).2
      refine ⟨_, _, _, _, rfl, ifB_false.2 ⟨_, _, run_makeMap w9, nw_i fun k13 w14 e13 hk14 g14 => ?_⟩⟩
      have hka : Kp no w9 (w9.alloc (.map #[] 0)) := .alloc _ _ _
      have hm0 : MapAt (w9.alloc (.map #[] 0)) w9.heap.size [] := get_alloc_new _ _
      have hm : MapAt w14 w9.heap.size [] := hk14.at hm0 nf
      have hk914 := hka.then hk14
      refine (K68 (OwnR.rgs (ho.keep hk914 .no)) f1a (by omega)).mono fun e w16 hp => ?_
      cases e with
      | returned r =>
        obtain ⟨hk16, rfl⟩ := hp
        have hk916 := hk914.then hk16
        refine ⟨_, rfl, J37 w9 (pool rs) k13 w9.heap.size, M37 (pool rs), ⟨0, rfl, Nat.zero_le _, hk916, Nat.le_refl _, hk16.at g14 nf, hk16.at hm nf⟩, ?_⟩
        rintro x w21 ⟨k, rfl, hk, hk21, hbb, g21, hm21⟩
        unfold B37_l1
        refine ifB_dec (fun h => ?_) (fun h => ?_)
        · have hk' : k < (addrs (pool rs)).length := by omega
          have ho21 : OwnR w21 w.heap.size (.slice a5 n6 c7) (pool rs) := ho.keep hk21 .no
          have hi1 : IntKind.i64.wrap ((k : Int) + 1) = ((k + 1 : Nat) : Int) := by rw [wrap64 (by omega) (by omega)]; omega
          refine (K69 ho21.rgs f1 (by omega) (by omega) hk').mono fun e w24 hp => ?_
          cases e with
          | returned r =>
            obtain ⟨hk24, rfl⟩ := hp
            have hk24d : Kp no w21 w24.drew := hk24.then (.drew no _)
            have g24 := hk24d.at g21 nf
            refine ⟨_, _, rfl, _, cl g24 rfl, (K60 _ 0 0 _).mono fun e w36 hp => ?_⟩
            cases e with
            | returned r =>
              obtain ⟨hk36, rfl⟩ := hp
              have hk2136 := hk24d.then hk36
              have hm36 : MapAt w36 w9.heap.size ((bares (pool rs)).take k) := hk2136.at hm21 nf
              have hne := bares_fresh f3 hk'
              have hnb : ¬ k13 = w9.heap.size := by
                intro h
                rw [h] at g21
                unfold MapAt at hm21
                rw [hm21] at g21
                cases g21
              have hkp : Kp (fun k => k = w9.heap.size) w36 (w36.putObj w9.heap.size (.map (ents ((bares (pool rs)).take k ++ [bare ((addrs (pool rs))[k] : Nat) 0 0])) ((bares (pool rs)).take k ++ [bare ((addrs (pool rs))[k] : Nat) 0 0]).length)) := .put _ _ _
              refine ⟨_, _, _, _, _, _, _, _, rfl, ⟨⟨hk36.cellD g24 nf, trivial⟩, trivial⟩, _, run_mapNew hm36 (x := bare ((addrs (pool rs))[k] : Nat) 0 0) hne, ⟨k + 1, hi1, hk', ?_, Nat.le_refl _, ?_, ?_⟩, ?_⟩
              · exact (hk21.then hk2136).trans hkp (fun k hk h => by omega)
              · exact hkp.at (hk2136.at g21 nf) hnb
              · unfold MapAt
                rw [bares_take hk']
                exact get_put_same hm36
              · show (addrs (pool rs)).length - (IntKind.i64.wrap ((k : Int) + 1)).toNat < (addrs (pool rs)).length - (k : Int).toNat
                rw [hi1]; omega
            | _ => exact hp
          | _ => exact hp
        · have hk' : k = (addrs (pool rs)).length := by omega
          subst hk'
          rw [← bares_len, List.take_length] at hm21
          exact ⟨hk9.then hk21, .inr ⟨hall, .inr ⟨hc, _, rfl, _, hk9.size, g21, hm21⟩⟩⟩
      | _ => exact hp
  | _ => exact hp
theorem E59 : ElemT Cz.P 59 49 8 72 := ⟨by kernel_rfl, by kernel_rfl⟩
def J42 (w9 : World) (P : List Rg) (k11 : Nat) (vs : List Value) (w' : World) : Prop :=
  match vs with | [.int _ i] => ∃ k : Nat, i = k ∧ k ≤ (addrs P).length ∧ Kp no w9 w' ∧ w9.heap.size ≤ k11 ∧ ∃ v, w'.heap[k11]? = some (.cells #[v] 94 (0, 0)) ∧ OwnS SL 49 w' w9.heap.size v ((bares P).take k) | _ => False
theorem K42 {w : World} {a : Option Addr} {n c : Nat} {rs : List Rg} (hv : Rgs w (.slice a n c) rs) (hok : ∀ r ∈ rs, r.ok) (hl : rs.length ≤ 1048576) :
    Calls Cz.P 42 #[.slice a n c] w (CP (NewPost (RTabB w.heap.size) rs w) (fun _ _ => False)) := by
  refine C42 ?_
  unfold B42
  refine (K74 hv hok hl).mono fun e w9 hp => ?_
  cases e with
  | returned r =>
    obtain ⟨hk9, ⟨h1, rfl⟩ | ⟨hall, ⟨h1, rfl⟩ | ⟨hc, a5, n6, c7, rfl, ho⟩⟩⟩ := hp
    · exact ⟨_, _, _, _, rfl, ifB_true.2 ⟨hk9, .inl ⟨h1, rfl⟩⟩⟩
    · exact ⟨_, _, _, _, rfl, ifB_true.2 ⟨hk9, .inr ⟨hall, .inl ⟨h1, rfl⟩⟩⟩⟩
    · obtain ⟨f1, f2, f3, f4, f5⟩ := pool_facts hok hall hc
      have f1a : ∀ r ∈ pool rs, r.ok := fun r hr => (f1 r hr).1
      have hlen := addrs_len (P := pool rs) fun r hr => (f1 r hr).2
      refine ⟨_, _, _, _, rfl, ifB_false.2 (nw_i fun k11 w12 e11 hk12 g12 => ?_)⟩
      refine ⟨J42 w9 (pool rs) k11, M37 (pool rs), ⟨0, rfl, Nat.zero_le _, hk12, by omega, _, g12, .nil _ _ _ _⟩, ?_⟩
      rintro x w16 ⟨k, rfl, hk, hk16, hbb, v, g16, hv16⟩
      unfold B42_l1
      have ho16 : OwnR w16 w.heap.size (.slice a5 n6 c7) (pool rs) := ho.keep hk16 .no
      refine (K75 ho16.rgs f1a (by omega)).mono fun e w18 hp => ?_
      cases e with
      | returned r =>
        obtain ⟨hk18, rfl⟩ := hp
        refine ⟨_, rfl, ifB_dec (fun h => ?_) (fun h => ?_)⟩
        · have hk' : k < (addrs (pool rs)).length := by omega
          have hi1 : IntKind.i64.wrap ((k : Int) + 1) = ((k + 1 : Nat) : Int) := by rw [wrap64 (by omega) (by omega)]; omega
          refine (K76 (OwnR.rgs (ho16.keep hk18 .no)) f1 (by omega) hk' (by omega)).mono fun e w22 hp => ?_
          cases e with
          | returned r =>
            obtain ⟨hk22, rfl⟩ := hp
            have hk22d : Kp no w16 w22.drew := (hk18.then hk22).then (.drew no _)
            have g22 := hk22d.at g16 nf
            obtain ⟨av, cv, rfl⟩ := hv16.slice
            refine ⟨_, _, rfl, _, _, _, cl g22 rfl, (K77 _ 0 0 _).mono fun e w36 hp => ?_⟩
            cases e with
            | returned r =>
              obtain ⟨hk36, rfl⟩ := hp
              have hk1636 := hk22d.then hk36
              have hz := hk16.size
              have hz2 := hk1636.size
              have g36 := hk1636.at g16 nf
              have hv36 := hv16.keep hk1636 .no
              have hb := hv16.base_le
              obtain ⟨a1, n1, c1, w41, hr1, a2, n2, c2, w45, hr2, ho2, hk45⟩ := appE (ty := 59) E59 (by decide) (by decide) hv36 (bare ((addrs (pool rs))[k] : Nat) 0 0) (cs := (bare ((addrs (pool rs))[k] : Nat) 0 0).cells) rfl (by omega) (by rw [List.length_take]; omega)
              have hk41 : Kp no w36 w41 := by
                have := builtS (P := Cz.P) E59 (by decide) (by decide) (SL.enc (bare ((addrs (pool rs))[k] : Nat) 0 0)) (SL.len _) w36
                have e := hr1.symm.trans this
                cases e
                exact .alloc _ _ _
              have hne : ¬ (Value.slice av ((bares (pool rs)).take k).length cv).ownBlock = some k11 := hv16.ne g16 (by simp)
              refine ⟨_, _, _, _, _, _, _, _, rfl, ⟨⟨hk36.cellD g22 nf, trivial⟩, trivial⟩, _, _, _, _, hr1, ⟨⟨hk41.cellD g36 nf, trivial⟩, trivial⟩, _, _, _, _, hr2, trivial, st_i (hk45.at g36 hne) (by simp) fun w46 hk46 g46 => ⟨⟨k + 1, hi1, hk', ?_, hbb, _, g46, ?_⟩, ?_⟩⟩
              · exact ((hk16.then hk1636).trans hk45 (fun k hk h => by have := hb k h; omega)).trans hk46 (fun k hk h => by omega)
              · rw [bares_take hk']
                exact ho2.keep hk46 (.one (hk45.at g36 hne) (by decide))
              · show (addrs (pool rs)).length - (IntKind.i64.wrap ((k : Int) + 1)).toNat < (addrs (pool rs)).length - (k : Int).toNat
                rw [hi1]; omega
            | _ => exact hp
          | _ => exact hp
        · have hk' : k = (addrs (pool rs)).length := by omega
          subst hk'
          rw [← bares_len, List.take_length] at hv16
          exact ⟨(hk9.then hk16).then hk18, .inr ⟨hall, .inr ⟨hc, _, rfl, _, hk18.at g16 nf, (hv16.keep hk18 .no).base hk9.size⟩⟩⟩
      | _ => exact hp
  | _ => exact hp
end Go.Lf
end

section
set_option linter.unusedVariables false
set_option linter.unusedSimpArgs false
namespace Go.Lf
open Go Go.Proofs
theorem be_ofB : ∀ (k : Nat) (l : List UInt8), l.length = k → be k (ofB l) = l
  | 0, l, h => by rw [List.eq_nil_of_length_eq_zero h]; rfl
  | k + 1, l, h => by
    have hne : l ≠ [] := by intro hc; subst hc; simp at h
    obtain ⟨m, c, rfl⟩ : ∃ m c, l = m ++ [c] := ⟨l.dropLast, l.getLast hne, (List.dropLast_concat_getLast hne).symm⟩
    have hm : m.length = k := by simpa using h
    have hc := bt_lt c
    rw [be, ofB_snoc, show (ofB m * 256 + c.toNat) / 256 = ofB m by omega, be_ofB k m hm]
    congr 2
    apply UInt8.toNat_inj.1
    simp

theorem be_fld {l : List UInt8} {i k : Nat} (h : i + k ≤ l.length) : be k (fld l i k) = (l.drop i).take k := by
  unfold fld
  exact be_ofB k _ (by rw [List.length_take, List.length_drop]; omega)
theorem enc_lsOf {l : List UInt8} (h : 36 ≤ l.length) : (lsOf l).enc = l.take 35 ++ [UInt8.ofNat (l.length - 36)] ++ l.drop 36 := by
  have e4 : UInt8.ofNat (l.getD 4 0).toNat = l.getD 4 0 := UInt8.toNat_inj.1 (by simp)
  have t5 : l.take 5 = l.take 4 ++ [l.getD 4 0] := by
    rw [List.take_add_one, List.getElem?_eq_getElem (by omega), List.getD_eq_getElem?_getD, List.getElem?_eq_getElem (by omega)]; rfl
  have t35 : l.take 35 = l.take 4 ++ [l.getD 4 0] ++ (l.drop 5).take 6 ++ (l.drop 11).take 6 ++ (l.drop 17).take 6 ++ (l.drop 23).take 6 ++ (l.drop 29).take 6 := by
    rw [← t5, ← List.take_add (i := 5) (j := 6), ← List.take_add (i := 11) (j := 6), ← List.take_add (i := 17) (j := 6), ← List.take_add (i := 23) (j := 6), ← List.take_add (i := 29) (j := 6)]
  rw [t35]
  unfold Ls.enc lsOf
  simp only [Int.toNat_natCast]
  rw [be_fld (by omega), be_fld (by omega), be_fld (by omega), be_fld (by omega), be_fld (by omega), be_fld (by omega), e4, List.drop_zero]
  have hs : (⟨(l.drop 36).toArray⟩ : ByteArray).size = l.length - 36 := by show (l.drop 36).toArray.size = _; simp
  rw [hs]
/-- the reference's test -/
theorem dec_iff {l : List UInt8} (h : 36 ≤ l.length) (hr : (lsOf l).right = true) : (lsOf l).enc = l ↔ (l.getD 35 0).toNat = l.length - 36 := by
  have hb := (right_bounds hr).2.2.2.2.2.2
  have hs : (lsOf l).client.size = l.length - 36 := by show (l.drop 36).toArray.size = _; simp
  rw [hs] at hb
  have hl : l = l.take 35 ++ [l.getD 35 0] ++ l.drop 36 := by
    have t36 : l.take 36 = l.take 35 ++ [l.getD 35 0] := by
      rw [List.take_add_one, List.getElem?_eq_getElem (by omega), List.getD_eq_getElem?_getD, List.getElem?_eq_getElem (by omega)]; rfl
    rw [← t36, List.take_append_drop]
  rw [enc_lsOf h]
  constructor
  · intro he
    have he2 := he.trans hl
    rw [List.append_assoc, List.append_assoc] at he2
    have := List.append_cancel_left he2
    simp only [List.cons_append, List.cons.injEq] at this
    rw [← this.1]
    simp
    omega
  · intro he
    have : UInt8.ofNat (l.length - 36) = l.getD 35 0 := UInt8.toNat_inj.1 (by rw [he]; simp; omega)
    rw [this]
    exact hl.symm
end Go.Lf
end

section
set_option linter.unusedVariables false
set_option linter.unusedSimpArgs false
namespace Go.Lf
open Go Go.Proofs
/-- a world behind w, where the zero lease lies at k5 -/
def Q80 (w : World) (k5 : Nat) (w' : World) : Prop := Kp no w w' ∧ w.heap.size ≤ k5 ∧ w'.heap[k5]? = some (.cells (bare 0 0 0).cells 49 (0, 0))
def J80 (l : List UInt8) (w : World) (k5 : Nat) (vs : List Value) (w' : World) : Prop :=
  match vs with | [.pointer (some q)] => ∃ k, q = ⟨k, 0, none⟩ ∧ k ≠ k5 ∧ Q80 w k5 w' ∧ w'.heap[k]? = some (.cells (lsOf l).cells 49 (0, 0)) | _ => False
theorem s112 {w1 : World} {a : Value} {x : Int} {q : Addr} (h : Calls Cz.P 112 #[a] w1 (CP (fun r w' => w' = w1 ∧ r = .int .i64 x) (fun _ _ => False))) {Rest : Int → World → Prop} (hr : Rest x w1) :
    Calls Cz.P 112 #[a] w1 (CP (fun r w' => ∃ y : Int, r = .int .i64 y ∧ ((w'.cell? q = w1.cell? q ∧ True) ∧ True) ∧ Rest y w') (fun _ _ => False)) := by
  refine h.mono fun e w' hp => ?_
  cases e with
  | returned r => obtain ⟨rfl, rfl⟩ := hp; exact ⟨_, rfl, ⟨⟨rfl, trivial⟩, trivial⟩, hr⟩
  | _ => exact hp
theorem sConv {w1 : World} {q : Addr} {X : Sem Value} {s : ByteArray} (h : Sem.run Cz.P X w1 = .ok (.string s) w1) {Rest : ByteArray → World → Prop} (hr : Rest s w1) :
    ∃ (t : ByteArray), ∃ w' : World, Sem.run Cz.P X w1 = .ok (.string t) w' ∧ ((w'.cell? q = w1.cell? q ∧ True) ∧ True) ∧ Rest t w' := ⟨s, w1, h, ⟨⟨rfl, trivial⟩, trivial⟩, hr⟩
theorem sNw {w w1 : World} {k5 : Nat} {q : Addr} {v : Value} (hq : w1.cell? q = some v) (h : Q80 w k5 w1) {Rest : Nat → World → Prop}
    (hr : ∀ k w', Q80 w k5 w' → w'.cell? q = some v → k ≠ k5 → w.heap.size ≤ k → w'.heap[k]? = some (.cells (bare 0 0 0).cells 49 (0, 0)) → Rest k w') :
    nw w1 (.cells #[(.int .u32 0), (.int .i64 0), (.string ⟨#[]⟩), (.int .i64 0), (.int .i64 0), (.int .i64 0), (.int .i64 0), (.int .i64 0)] 49) fun k w' => ((w'.cell? q = w1.cell? q ∧ True) ∧ True) ∧ Rest k w' := by
  refine nw_i fun k w' ek hk hg => ⟨⟨⟨(hk.cell hq nf).trans hq.symm, trivial⟩, trivial⟩, ?_⟩
  have h5 := lt_of_get h.2.2
  exact hr k w' ⟨h.1.then hk, h.2.1, hk.at h.2.2 nf⟩ (hk.cell hq nf) (by omega) (by rw [ek]; exact h.1.size) hg
theorem K80 {w : World} {a : Option Addr} {n c : Nat} {l : List UInt8} (hv : Bs w (.slice a n c) l) (hl : l.length ≤ 1000000) : Calls Cz.P 80 #[.slice a n c] w (CP (DecPost l w) (fun _ _ => False)) := by
  refine C80 ?_
  have hn := hv.cap.1
  have hcap := hv.cap.2
  subst hn
  unfold B80
  refine nw_i fun k5 w1 e5 hk1 g5 => ?_
  have hz1 := hk1.size
  have bad : decOk l = false → ∀ w2, Q80 w k5 w2 → ∀ q, B80_j1 (DecPost l w) k5 q true w2 := by
    intro hd w2 hQ q
    obtain ⟨hk2, hl5, h5⟩ := hQ
    unfold B80_j1
    refine ifB_true.2 (st8 h5 fun w3 hk3 h2 => ⟨_, _, _, _, _, _, _, _, ⟨cl h2 rfl, cl h2 rfl, cl h2 rfl, cl h2 rfl, cl h2 rfl, cl h2 rfl, cl h2 rfl, cl h2 rfl, trivial⟩, hk2.trans hk3 (fun b hb h => by omega), .inr ⟨hd, rfl⟩⟩)
  have hQ1 : Q80 w k5 w1 := ⟨hk1, by omega, g5⟩
  refine ifB_dec (fun h => ?_) (fun h => ?_)
  · have := bad (by unfold decOk; rw [decide_eq_false (by omega)]; rfl) w1 hQ1 ⟨0, 0, none⟩
    unfold B80_j1 at this
    exact ifB_true.1 this
  have h36 : 36 ≤ l.length := by omega
  have hQd : Q80 w k5 w1.drew := ⟨hk1.then (.drew no _), hQ1.2⟩
  have hvd := hv.keepN hQd.1
  obtain ⟨q, rfl, hc4⟩ := hvd.at (i := 4) (by omega)
  have hb4 := bt_lt (l.getD 4 0)
  have hs : ∀ w', Q80 w k5 w' → (convert 22 9 (.slice (slA (some q) 36 c 1) ((l.length : Int).toNat - 36) (c - 36))).run Cz.P w' = .ok (.string ⟨(l.drop 36).toArray⟩) w' := by
    intro w' hk
    have := strB ((hv.keepN hk.1).cut (lo := 36) (hi := l.length) (by omega) (Nat.le_refl _))
    rw [Int.toNat_natCast, this, List.take_of_length_le (by rw [List.length_drop]; exact Nat.le_refl _)]
  have hof : ∀ (i j : Nat), i ≤ j → j ≤ i + 7 → j ≤ l.length → ∀ w', Q80 w k5 w' → Calls Cz.P 112 #[.slice (slA (some q) i c 1) (j - i) (c - i)] w' (CP (fun r w'' => w'' = w' ∧ r = .int .i64 ((fld l i (j - i) : Nat) : Int)) (fun _ _ => False)) := by
    intro i j h1 h2 h3 w' hk
    exact K112 ((hv.keepN hk.1).cut (lo := i) (hi := j) h1 h3) (by rw [List.length_take, List.length_drop]; omega)
  have ha := hof 0 4 (by omega) (by omega) (by omega)
  have hb := hof 5 11 (by omega) (by omega) (by omega)
  have hcc := hof 11 17 (by omega) (by omega) (by omega)
  have hd := hof 17 23 (by omega) (by omega) (by omega)
  have he := hof 23 29 (by omega) (by omega) (by omega)
  have hf := hof 29 35 (by omega) (by omega) (by omega)
  have fin : ∀ k w', Q80 w k5 w' → k ≠ k5 → w.heap.size ≤ k → w'.heap[k]? = some (.cells (bare 0 0 0).cells 49 (0, 0)) →
      st w' ⟨k, 0, none⟩ (.int .u32 (IntKind.u32.wrap ((fld l 0 (4 - 0) : Nat) : Int))) fun w49 => st w49 ⟨k, 1, none⟩ (.int .i64 (IntKind.i64.wrap ((l.getD 4 0).toNat : Int))) fun w50 => st w50 ⟨k, 2, none⟩ (.string ⟨(l.drop 36).toArray⟩) fun w51 => st w51 ⟨k, 3, none⟩ (.int .i64 ((fld l 5 (11 - 5) : Nat) : Int)) fun w52 => st w52 ⟨k, 4, none⟩ (.int .i64 ((fld l 11 (17 - 11) : Nat) : Int)) fun w53 => st w53 ⟨k, 5, none⟩ (.int .i64 ((fld l 17 (23 - 17) : Nat) : Int)) fun w54 => st w54 ⟨k, 6, none⟩ (.int .i64 ((fld l 23 (29 - 23) : Nat) : Int)) fun w55 => st w55 ⟨k, 7, none⟩ (.int .i64 ((fld l 29 (35 - 29) : Nat) : Int)) fun w56 => J80 l w k5 [(.pointer (some ⟨k, 0, none⟩))] w56 := by
    intro k w' hQ hne hle hg
    refine st8 hg fun w2 hk2 h2 => ⟨k, rfl, hne, ⟨hQ.1.trans hk2 (fun b hb h => by omega), hQ.2.1, hk2.at hQ.2.2 (fun h => hne h.symm)⟩, ?_⟩
    rw [h2]
    have hlt : fld l 0 (4 - 0) < 4294967296 := fld_lt l 0 4
    rw [IntKind.wrap_u32, wrap64 (by omega) (by omega), Int.emod_eq_of_lt (by omega) (by omega)]
    rfl
  refine ⟨J80 l w k5, ?_, ?_⟩
  · refine need_and rfl (dec (by omega)) (need_and (dec (by omega)) (dec (by omega)) ?_)
    rw [nn_some]
    refine ⟨_, hc4, need_and rfl (dec (by omega)) (need_and rfl (dec (by omega)) (need_and rfl (dec (by omega)) (need_and rfl (dec (by omega)) (need_and rfl (dec (by omega)) (need_and (dec (by omega)) (dec (by omega)) (need_and rfl (dec (by omega)) ?_))))))⟩
    clear hof bad
    generalize w1.drew = w1d at *
    repeat' first
      | exact fin _ _ ‹_› ‹_› ‹_› ‹_›
      | with_reducible apply And.intro
      | with_reducible refine s112 (ha _ (by assumption)) ?_
      | with_reducible refine s112 (hb _ (by assumption)) ?_
      | with_reducible refine s112 (hcc _ (by assumption)) ?_
      | with_reducible refine s112 (hd _ (by assumption)) ?_
      | with_reducible refine s112 (he _ (by assumption)) ?_
      | with_reducible refine s112 (hf _ (by assumption)) ?_
      | with_reducible refine sConv (hs _ (by assumption)) ?_
      | (with_reducible refine sNw (by assumption) (by assumption) ?_; intro k w' hQ hc hne hle hg)
  · rintro q' w2 ⟨k, rfl, hne, hQ, hg⟩
    refine ⟨_, _, _, _, _, _, _, _, ⟨cl hg rfl, cl hg rfl, cl hg rfl, cl hg rfl, cl hg rfl, cl hg rfl, cl hg rfl, cl hg rfl, trivial⟩, ?_⟩
    have hlt := fld_lt l 0 4
    refine (K113 (x := lsOf l) ⟨by show (0 : Int) ≤ ((fld l 0 4 : Nat) : Int); omega, by show ((fld l 0 4 : Nat) : Int) < 4294967296; omega⟩ w2).mono fun e w3 hp => ?_
    cases e with
    | returned r =>
      obtain ⟨hk3, hp⟩ := hp
      have hQ3 : Q80 w k5 w3 := ⟨hQ.1.then hk3, hQ.2.1, hk3.at hQ.2.2 nf⟩
      have hg3 := hk3.at hg nf
      rcases hp with ⟨hr, rfl⟩ | ⟨hr, a', n', c', rfl, ho⟩
      · exact ⟨_, _, _, _, rfl, ifB_true.2 (bad (by unfold decOk; rw [hr]; simp) _ hQ3 _)⟩
      · refine ⟨_, _, _, _, rfl, ifB_false.2 ⟨_, _, strB ho.bs, _, _, strB (hv.keepN hQ3.1), ?_⟩⟩
        have hi := dec_iff h36 hr
        rw [ByteArray.toList_eq, ByteArray.toList_eq]
        cases hcmp : (lsOf l).enc == l with
        | true =>
          have heq : (lsOf l).enc = l := by simpa using hcmp
          have hd : decOk l = true := by unfold decOk; rw [hr, decide_eq_true h36, decide_eq_true (hi.1 heq)]; rfl
          show B80_j1 _ _ _ false w3
          unfold B80_j1
          refine ifB_false.2 ⟨_, _, _, _, _, _, _, _, ⟨cl hg3 rfl, cl hg3 rfl, cl hg3 rfl, cl hg3 rfl, cl hg3 rfl, cl hg3 rfl, cl hg3 rfl, cl hg3 rfl, trivial⟩, st8 hQ3.2.2 fun w4 hk4 h2 => ⟨_, _, _, _, _, _, _, _, ⟨cl h2 rfl, cl h2 rfl, cl h2 rfl, cl h2 rfl, cl h2 rfl, cl h2 rfl, cl h2 rfl, cl h2 rfl, trivial⟩, hQ3.1.trans hk4 (fun b hb h => by have := hQ.2.1; omega), .inl ⟨hd, rfl⟩⟩⟩
        | false =>
          have hne' : ¬ (lsOf l).enc = l := by simpa using hcmp
          exact bad (by unfold decOk; rw [decide_eq_false (fun h => hne' (hi.2 h))]; simp) _ hQ3 _
    | _ => exact hp
end Go.Lf
end

section
set_option linter.unusedVariables false
set_option linter.unusedSimpArgs false
namespace Go.Lf
open Go Go.Proofs
/-- what a store knows -/
structure StS where
  tab : List Ls
  state : Int
  life : Int
def doRec (S : StS) (l : List UInt8) : StS :=
  match l with
  | [] => S
  | c :: m =>
    if c = 76 then (if decOk m = true then { S with tab := (setT S.tab (lsOf m)).2 } else S)
    else if c = 83 ∧ m.length = 1 ∧ (m.getD 0 0).toNat ≤ 8 then { S with state := (m.getD 0 0).toNat }
    else if c = 70 ∧ m.length = 4 then (if ofB m ≤ 536870912 then { S with life := ofB m } else S)
    else S
def StP (w : World) (s t b : Nat) (v0 : Value) (S : StS) : Prop := w.heap[s]? = some (.cells #[v0, .pointer (some ⟨t, 0, none⟩), .int .i64 S.state, .int .i64 S.life] 81 (0, 0)) ∧ w.heap[t]? = some (.cells #[.map (some b)] 110 (0, 0)) ∧ MapAt w b S.tab
def RStP (w : World) (s t : Nat) (v v0 : Value) (S : StS) : Prop := w.heap[s]? = some (.cells #[v0, .pointer (some ⟨t, 0, none⟩), .int .i64 S.state, .int .i64 S.life] 92 (0, 0)) ∧ w.heap[t]? = some (.cells #[v] 94 (0, 0)) ∧ OwnS SL 49 w 0 v S.tab
theorem StP.keepN {w w' : World} {s t b : Nat} {v0 : Value} {S : StS} (h : StP w s t b v0 S) (k : Kp no w w') : StP w' s t b v0 S := ⟨k.at h.1 nf, k.at h.2.1 nf, k.at h.2.2 nf⟩
theorem RStP.keepN {w w' : World} {s t : Nat} {v v0 : Value} {S : StS} (h : RStP w s t v v0 S) (k : Kp no w w') : RStP w' s t v v0 S := ⟨k.at h.1 nf, k.at h.2.1 nf, h.2.2.keep k .no⟩
theorem StP.ne {w : World} {s t b : Nat} {v0 : Value} {S : StS} (h : StP w s t b v0 S) : s ≠ t ∧ s ≠ b ∧ t ≠ b := by
  obtain ⟨h1, h2, h3⟩ := h
  unfold MapAt at h3
  refine ⟨?_, ?_, ?_⟩ <;> intro h <;> subst h
  · rw [h1] at h2; cases h2
  · rw [h1] at h3; cases h3
  · rw [h2] at h3; cases h3
theorem RStP.ne {w : World} {s t : Nat} {v v0 : Value} {S : StS} (h : RStP w s t v v0 S) : s ≠ t ∧ ¬ v.ownBlock = some s ∧ ¬ v.ownBlock = some t := by
  obtain ⟨h1, h2, h3⟩ := h
  refine ⟨?_, h3.ne h1 (by simp), h3.ne h2 (by simp)⟩
  intro h; subst h
  rw [h1] at h2; cases h2
/-- a lease is set -/
theorem K73S {w : World} {s t b : Nat} {v0 : Value} {S : StS} (h : StP w s t b v0 S) (x : Ls) :
    Calls Cz.P 73 #[.pointer (some ⟨t, 0, none⟩), x.val] w (CP (fun r w' => Kp (fun k => k = s ∨ k = b) w w' ∧ r = .int .i64 (setT S.tab x).1 ∧ StP w' s t b v0 { S with tab := (setT S.tab x).2 }) (fun _ _ => False)) := by
  obtain ⟨n1, n2, n3⟩ := h.ne
  refine (K73 h.2.1 h.2.2 x).mono fun e w1 hp => ?_
  cases e with
  | returned r =>
    obtain ⟨hk, rfl, hm⟩ := hp
    exact ⟨hk.mono (fun _ _ h => .inr h), rfl, hk.at h.1 n2, hk.at h.2.1 n3, hm⟩
  | _ => exact hp
theorem K81S {w : World} {s t : Nat} {v v0 : Value} {S : StS} (h : RStP w s t v v0 S) (hl : S.tab.length ≤ 1048576) (x : Ls) :
    Calls Cz.P 81 #[.pointer (some ⟨t, 0, none⟩), x.val] w (CP (fun r w' => Kp (fun k => k = s ∨ v.ownBlock = some k) w w' ∧ r = .int .i64 (setT S.tab x).1 ∧ RStP w' s t v v0 { S with tab := (setT S.tab x).2 }) (fun _ _ => False)) := by
  obtain ⟨n1, n2, n3⟩ := h.ne
  refine (K81 (T := S.tab) ⟨v, h.2.1, h.2.2⟩ hl x).mono fun e w1 hp => ?_
  cases e with
  | returned r =>
    obtain ⟨⟨v', hv', hk⟩, rfl, v'', h1, h2⟩ := hp
    have hv := h.2.1
    rw [hv'] at hv
    cases hv
    have := hk.at hv' n3
    rw [this] at h1
    cases h1
    exact ⟨hk.mono (fun _ _ h => .inr h), rfl, hk.at h.1 n2, this, h2⟩
  | _ => exact hp
theorem add0 (q : Addr) : q.add 0 = q := rfl
theorem u8i (c : UInt8) (n : Nat) (hn : n < 256) : ((c.toNat : Int) == (n : Int)) = decide (c = UInt8.ofNat n) := by
  rw [Bool.eq_iff_iff, beq_iff_eq, decide_eq_true_iff]
  constructor
  · intro h; apply UInt8.toNat_inj.1; simp; omega
  · intro h; subst h; simp; omega
theorem tailBs {w : World} {a : Option Addr} {c : Nat} {x : UInt8} {m : List UInt8} (h : Bs w (.slice a (x :: m).length c) (x :: m)) : Bs w (.slice (slA a 1 c 1) m.length (c - 1)) m := by
  have := h.cut (lo := 1) (hi := (x :: m).length) (by simp) (Nat.le_refl _)
  simp only [List.length_cons, Nat.add_sub_cancel, List.drop_succ_cons, List.drop_zero, List.take_length] at this
  exact this
def J41 (m : List UInt8) (w : World) (vs : List Value) (w' : World) : Prop := match vs with | [.int _ x, .int _ i] => w' = w ∧ ∃ k : Nat, i = k ∧ k ≤ m.length ∧ x = (ofB (m.take k) : Nat) | _ => False
def M41 (m : List UInt8) (vs : List Value) (_ : World) : Nat := match vs with | [_, .int _ i] => m.length - i.toNat | _ => 0
def Post41 (w : World) (s t b : Nat) (v0 : Value) (S : StS) (r : Value) (w' : World) : Prop := r = .tuple #[] ∧ Kp (fun k => k = s ∨ k = b) w w' ∧ StP w' s t b v0 S
theorem ofB_take {m : List UInt8} {k : Nat} (h : k < m.length) : ofB (m.take (k + 1)) = ofB (m.take k) * 256 + (m.getD k 0).toNat := by
  rw [List.take_add_one, List.getElem?_eq_getElem h]
  simp only [Option.toList]
  rw [ofB_snoc, List.getD_eq_getElem?_getD, List.getElem?_eq_getElem h]
  rfl
theorem K41 {w : World} {s t b : Nat} {v0 : Value} {S : StS} {a : Option Addr} {n c : Nat} {l : List UInt8} (h : StP w s t b v0 S) (hv : Bs w (.slice a n c) l) (h1 : 1 ≤ l.length) (h2 : l.length ≤ 1000000) :
    Calls Cz.P 41 #[.pointer (some ⟨s, 0, none⟩), .slice a n c] w (CP (Post41 w s t b v0 (doRec S l)) (fun _ _ => False)) := by
  refine C41 ?_
  have hn := hv.cap.1
  have hcap := hv.cap.2
  subst hn
  obtain ⟨x, m, rfl⟩ : ∃ x m, l = x :: m := by cases l with | nil => simp at h1 | cons x m => exact ⟨x, m, rfl⟩
  unfold B41
  obtain ⟨q, rfl, hc0⟩ := hv.at (i := 0) (by simp)
  rw [add0] at hc0
  have ht := tailBs hv
  have hml : m.length + 1 = (x :: m).length := rfl
  have e0 : ((((x :: m).length : Nat) : Int)).toNat - 1 = m.length := by simp
  obtain ⟨n1, n2, n3⟩ := h.ne
  have stay : ∀ {Rt : Value → World → Prop}, Rt (.tuple #[]) w → B41_j1 Rt w := fun h => h
  have same : doRec S (x :: m) = S → Post41 w s t b v0 (doRec S (x :: m)) (.tuple #[]) w := fun e => ⟨rfl, .refl _ _, by rw [e]; exact h⟩
  rw [e0]
  refine need_and (dec (by omega)) (dec (by omega)) (need_and rfl (dec (by omega)) (need_and (dec (by omega)) (dec (by omega)) ?_))
  simp only [nn_some, addk, Nat.zero_add]
  refine ⟨_, hc0, ?_⟩
  rw [show (((List.getD (x :: m) 0 0).toNat : Int) == 76) = decide (x = 76) from u8i x 76 (by omega)]
  refine ifB_dec (fun hx => ?_) (fun hx => ?_)
  · refine (K72 ht (by omega)).mono fun e w17 hp => ?_
    cases e with
    | returned r =>
      obtain ⟨hk17, ⟨hd, rfl⟩ | ⟨hd, rfl⟩⟩ := hp
      · refine ⟨_, _, _, _, _, _, _, _, _, rfl, nw_i fun k w20 e20 hk20 g20 => stL (lsOf m) (x := bare 0 0 0) g20 fun w28 hk28 g28 => ?_⟩
        have hk028 : Kp no w w28 := (hk17.then hk20).trans hk28 (fun k hk h => by have := hk17.size; omega)
        have hkd : Kp no w w28.drew := hk028.then (.drew no _)
        have g28d : w28.drew.heap[k]? = some (.cells (lsOf m).cells 49 (0, 0)) := g28
        have hS := h.keepN hkd
        refine ifB_true.2 ⟨_, cl hS.1 rfl, rd8 (x := lsOf m) g28d ((K73S hS (lsOf m)).mono fun e w41 hp => ?_)⟩
        cases e with
        | returned r =>
          obtain ⟨hk41, rfl, hS41⟩ := hp
          refine ⟨_, rfl, ?_⟩
          show Post41 w s t b v0 (doRec S (x :: m)) (.tuple #[]) w41
          refine ⟨rfl, hkd.then hk41, ?_⟩
          have : doRec S (x :: m) = { S with tab := (setT S.tab (lsOf m)).2 } := by unfold doRec; simp only; rw [if_pos hx, if_pos hd]
          rw [this]; exact hS41
        | _ => exact hp
      · refine ⟨_, _, _, _, _, _, _, _, _, rfl, nw_i fun k w20 e20 hk20 g20 => stL (bare 0 0 0) (x := bare 0 0 0) g20 fun w28 hk28 g28 => ifB_false.2 ?_⟩
        have hk028 : Kp no w w28 := (hk17.then hk20).trans hk28 (fun k hk h => by have := hk17.size; omega)
        show Post41 w s t b v0 (doRec S (x :: m)) (.tuple #[]) w28
        refine ⟨rfl, hk028.mono (fun _ _ h => h.elim), ?_⟩
        have : doRec S (x :: m) = S := by unfold doRec; simp only; rw [if_pos hx, if_neg (by rw [hd]; simp)]
        rw [this]; exact h.keepN hk028
    | _ => exact hp
  · refine need_and (dec (by omega)) (dec (by omega)) ⟨_, hc0, ?_⟩
    have life : ∀ hx83 : ¬ (x = 83 ∧ m.length = 1 ∧ (m.getD 0 0).toNat ≤ 8), B41_j2 (Post41 w s t b v0 (doRec S (x :: m))) (some ⟨s, 0, none⟩) (some q) (x :: m).length c false w := by
      intro hx83
      unfold B41_j2
      simp only [nn_some, addk, Nat.zero_add]
      rw [e0]
      refine ifB_false.2 (need_and (dec (by omega)) (dec (by omega)) ⟨_, hc0, ?_⟩)
      rw [show (((List.getD (x :: m) 0 0).toNat : Int) == 70) = decide (x = 70) from u8i x 70 (by omega)]
      refine ifB_dec (fun h70 => ?_) (fun h70 => ?_)
      · unfold B41_j3
        refine ifB_split (fun h4 => ?_) (fun h4 => ?_)
        · have h4 : m.length = 4 := by have : (m.length : Int) = 4 := by simpa using h4
                                       omega
          refine ⟨J41 m w, M41 m, ⟨rfl, 0, rfl, Nat.zero_le _, rfl⟩, ?_⟩
          rintro x60 x61 w62 ⟨rfl, k, rfl, hk, rfl⟩
          unfold B41_l1
          rw [e0]
          have hlt := ofB_lt (m.take k)
          rw [List.length_take, Nat.min_eq_left hk] at hlt
          refine ifB_dec (fun hkm => ?_) (fun hkm => ?_)
          · have hkm : k < m.length := by omega
            obtain ⟨q2, hq2, hc2⟩ := ht.at hkm
            rw [hq2]
            have hbl := bt_lt (m.getD k 0)
            have hp : (256 : Nat) ^ k ≤ 256 ^ 3 := Nat.pow_le_pow_right (by omega) (by omega)
            have hi1 : IntKind.i64.wrap ((k : Int) + 1) = ((k + 1 : Nat) : Int) := by rw [wrap64 (by omega) (by omega)]; omega
            refine need_and (dec (by omega)) (dec (by omega)) ?_
            rw [nn_some, show (k : Int).toNat * 1 = k by omega]
            refine ⟨_, hc2, ?_⟩
            rw [or8i (a := ofB (m.take k)) (by omega) hbl, ← ofB_take hkm]
            refine ⟨⟨rfl, k + 1, hi1, hkm, rfl⟩, ?_⟩
            show m.length - (IntKind.i64.wrap ((k : Int) + 1)).toNat < m.length - (k : Int).toNat
            rw [hi1]; omega
          · have hkm : k = m.length := by omega
            subst hkm
            rw [List.take_length]
            simp only [nn_some, addk, Nat.zero_add]
            refine ifB_dec (fun h5 => st_i h.1 (by simp) fun w66 hk66 g66 => ?_) (fun h5 => ?_)
            · show Post41 w62 s t b v0 (doRec S (x :: m)) (.tuple #[]) w66
              have : doRec S (x :: m) = { S with life := (ofB m : Nat) } := by
                unfold doRec; simp only; rw [if_neg hx, if_neg hx83, if_pos ⟨h70, h4⟩, if_pos (by omega)]
              rw [this]
              exact ⟨rfl, hk66.mono (fun _ _ h => .inl h), g66, hk66.at h.2.1 (fun h => n1 h.symm), hk66.at h.2.2 (fun h => n2 h.symm)⟩
            · have : doRec S (x :: m) = S := by
                unfold doRec; simp only; rw [if_neg hx, if_neg hx83, if_pos ⟨h70, h4⟩, if_neg (by omega)]
              exact same this
        · have h4 : ¬ m.length = 4 := by intro h; rw [h] at h4; simp at h4
          have : doRec S (x :: m) = S := by
            unfold doRec; simp only; rw [if_neg hx, if_neg hx83, if_neg (fun h => h4 h.2)]
          exact same this
      · unfold B41_j3
        have : doRec S (x :: m) = S := by
          unfold doRec; simp only; rw [if_neg hx, if_neg hx83, if_neg (fun h => h70 h.1)]
        exact ifB_false.2 (same this)
    rw [show (((List.getD (x :: m) 0 0).toNat : Int) == 83) = decide (x = 83) from u8i x 83 (by omega)]
    refine ifB_dec (fun h83 => ifB_split (fun h1' => ?_) (fun h1' => ?_)) (fun h83 => life (fun h => h83 h.1))
    · have h1m : m.length = 1 := by have : (m.length : Int) = 1 := by simpa using h1'
                                    omega
      obtain ⟨q2, hq2, hc2⟩ := ht.at (i := 0) (by omega)
      rw [add0] at hc2
      rw [hq2]
      refine need_and (dec (by omega)) (dec (by omega)) ?_
      rw [nn_some]
      refine ⟨_, hc2, ?_⟩
      by_cases h8 : (m.getD 0 0).toNat ≤ 8
      · rw [decide_eq_true (show ((m.getD 0 0).toNat : Int) ≤ 8 by omega)]
        unfold B41_j2
        rw [e0, hq2]
        simp only [nn_some, addk, Nat.zero_add]
        refine ifB_true.2 (need_and (dec (by omega)) (dec (by omega)) ⟨_, hc2, st_i h.1 (by simp) fun w53 hk53 g53 => ?_⟩)
        show Post41 w s t b v0 (doRec S (x :: m)) (.tuple #[]) w53
        have : doRec S (x :: m) = { S with state := ((m.getD 0 0).toNat : Nat) } := by
          unfold doRec; simp only; rw [if_neg hx, if_pos ⟨h83, h1m, h8⟩]
        rw [this]
        rw [wrap64 (by omega) (by omega)] at g53
        exact ⟨rfl, hk53.mono (fun _ _ h => .inl h), g53, hk53.at h.2.1 (fun h => n1 h.symm), hk53.at h.2.2 (fun h => n2 h.symm)⟩
      · rw [decide_eq_false (show ¬ ((m.getD 0 0).toNat : Int) ≤ 8 by omega)]
        exact life (fun h => h8 h.2.2)
    · exact life (fun h => by rw [h.2.1] at h1'; simp at h1')
end Go.Lf
end
