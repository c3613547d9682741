/- Part 12 of the lemmas that a proof leans on; no claim is made here. By an AI agent. -/
import Derived.Test.YtofhodpdfbnkiaaGreatLfD07
section
set_option linter.unusedVariables false
set_option maxRecDepth 100000
set_option maxHeartbeats 4000000
namespace Go.Lf
open Go Go.Proofs
/-! ### (*lessor/wal.Log).Compact: function 62 -/
def B62_l1 (Rt : Value → World → Prop) (E : List PanicEntry → World → Prop) (p1 : Option Addr) (a2 : Option Addr) (n3 : Nat) (J6 : List Value → World → Prop) (m7 : List Value → World → Nat) (a8 : Option Addr) (n9 : Nat) (c10 : Nat) (x11 : Int) (w12 : World) : Prop :=
  ifB (decide (x11 < (n3 : Int))) (need (decide (0 ≤ x11) && decide (x11 < (n3 : Int))) (nn a2 fun q13 => ∃ (a14 : Option Addr) (n15 : Nat) (c16 : Nat), w12.cell? (q13.add ((x11).toNat * 1)) = some (.slice a14 n15 c16) ∧ Calls Cz.P 96 #[(.slice a14 n15 c16)] w12 (CP (fun r22 w21 => ∃ (a17 : Option Addr) (n18 : Nat) (c19 : Nat) (x20 : Int), r22 = (.tuple #[(.slice a17 n18 c19), (.int .i64 x20)]) ∧ ifB (x20 != 0) (Rt (.int .i64 x20) w21) (∃ (a23 : Option Addr) (n24 : Nat) (c25 : Nat), ∃ w26 : World, Sem.run Cz.P (Builtin.append_ #[22, 22] 22 #[(.slice a8 n9 c10), (.slice a17 n18 c19)]) w21 = .ok (.slice a23 n24 c25) w26 ∧ J6 [(.slice a23 n24 c25), (.int .i64 (IntKind.i64.wrap (x11 + 1)))] w26 ∧ m7 [(.slice a23 n24 c25), (.int .i64 (IntKind.i64.wrap (x11 + 1)))] w26 < m7 [(.slice a8 n9 c10), (.int .i64 x11)] w12)) E))) (nn p1 fun q27 => ∃ (p28 : Option Addr), w12.cell? q27 = some (.pointer p28) ∧ Calls Cz.P 71 #[(.pointer p28), (.slice a8 n9 c10)] w12 (CP (fun r31 w30 => ∃ (x29 : Int), r31 = (.int .i64 x29) ∧ Rt (.int .i64 x29) w30) E))
def B62 (p1 : Option Addr) (a2 : Option Addr) (n3 : Nat) (c4 : Nat) (w5 : World) (Rt : Value → World → Prop) (E : List PanicEntry → World → Prop) : Prop :=
  ∃ (J6 : List Value → World → Prop) (m7 : List Value → World → Nat), J6 [(.slice none 0 0), (.int .i64 0)] w5 ∧ ∀ (a8 : Option Addr) (n9 : Nat) (c10 : Nat) (x11 : Int) (w12 : World), J6 [(.slice a8 n9 c10), (.int .i64 x11)] w12 → B62_l1 Rt E p1 a2 n3 J6 m7 a8 n9 c10 x11 w12
def A62 : Ann := fun n => match n with | 0 => [(5, .one .sl), (12, .one (.int .i64))] | _ => []
theorem B62_eq (p1 : Option Addr) (a2 : Option Addr) (n3 : Nat) (c4 : Nat) (w5 : World) (Rt : Value → World → Prop) (E : List PanicEntry → World → Prop) : vFn Cz A62 Tryz.f62.results.toList (bodyOf Tryz.f62) (startFr Tryz.f62.ntmps [(.pointer p1), (.slice a2 n3 c4)]) w5 (CP Rt E) = B62 p1 a2 n3 c4 w5 Rt E := by kernel_rfl
theorem C62 {p1 : Option Addr} {a2 : Option Addr} {n3 : Nat} {c4 : Nat} {w5 : World} {Rt : Value → World → Prop} {E : List PanicEntry → World → Prop} (h : B62 p1 a2 n3 c4 w5 Rt E) : Calls Cz.P 62 #[(.pointer p1), (.slice a2 n3 c4)] w5 (CP Rt E) := calls_of_B (C := Cz) Cz.ok Tryz.func62 (by kernel_rfl) (B62_eq p1 a2 n3 c4 w5 Rt E) h


end Go.Lf
end

section
set_option linter.unusedVariables false
set_option maxRecDepth 100000
set_option maxHeartbeats 4000000
namespace Go.Lf
open Go Go.Proofs
/-! ### (*lessor/wal.Log).Len: function 63 -/
def B63 (p1 : Option Addr) (w2 : World) (Rt : Value → World → Prop) (E : List PanicEntry → World → Prop) : Prop :=
  Calls Cz.P 40 #[(.pointer p1)] w2 (CP (fun r7 w6 => ∃ (a3 : Option Addr) (n4 : Nat) (c5 : Nat), r7 = (.slice a3 n4 c5) ∧ Rt (.int .i64 (n4 : Int)) w6) E)
def A63 : Ann := fun _ => []
theorem B63_eq (p1 : Option Addr) (w2 : World) (Rt : Value → World → Prop) (E : List PanicEntry → World → Prop) : vFn Cz A63 Tryz.f63.results.toList (bodyOf Tryz.f63) (startFr Tryz.f63.ntmps [(.pointer p1)]) w2 (CP Rt E) = B63 p1 w2 Rt E := by kernel_rfl
theorem C63 {p1 : Option Addr} {w2 : World} {Rt : Value → World → Prop} {E : List PanicEntry → World → Prop} (h : B63 p1 w2 Rt E) : Calls Cz.P 63 #[(.pointer p1)] w2 (CP Rt E) := calls_of_B (C := Cz) Cz.ok Tryz.func63 (by kernel_rfl) (B63_eq p1 w2 Rt E) h


end Go.Lf
end

section
set_option linter.unusedVariables false
set_option maxRecDepth 100000
set_option maxHeartbeats 4000000
namespace Go.Lf
open Go Go.Proofs
/-! ### lessor/lease.Right: function 64 -/
def B64_j1 (Rt : Value → World → Prop) (J19 : List Value → World → Prop) (m20 : List Value → World → Nat) (x21 : Int) (w22 : World) (b28 : Bool) (w29 : World) : Prop :=
  ifB b28 (Rt (.bool false) w29) (J19 [(.int .i64 (IntKind.i64.wrap (x21 + 1)))] w29 ∧ m20 [(.int .i64 (IntKind.i64.wrap (x21 + 1)))] w29 < m20 [(.int .i64 x21)] w22)
def B64_j3 (Rt : Value → World → Prop) (b40 : Bool) (w41 : World) : Prop :=
  Rt (.bool b40) w41
def B64_j2 (Rt : Value → World → Prop) (E : List PanicEntry → World → Prop) (k10 : Nat) (b32 : Bool) (w33 : World) : Prop :=
  ifB b32 (Rt (.bool false) w33) (∃ (x34 : Int), w33.cell? ⟨k10, 1, none⟩ = some (.int .i64 x34) ∧ Calls Cz.P 98 #[(.int .i64 x34)] w33 (CP (fun r37 w36 => ∃ (b35 : Bool), r37 = (.bool b35) ∧ ifB b35 (∃ (s38 : ByteArray), w36.cell? ⟨k10, 2, none⟩ = some (.string s38) ∧ ifB (!(s38.toList == (⟨#[]⟩ : ByteArray).toList)) (∃ (s39 : ByteArray), w36.cell? ⟨k10, 2, none⟩ = some (.string s39) ∧ B64_j3 Rt (decide ((s39.size : Int) ≤ 32)) w36) (B64_j3 Rt false w36)) ((fun w42 : World => ∃ (x43 : Int) (x44 : Int) (s45 : ByteArray) (x46 : Int) (x47 : Int) (x48 : Int) (x49 : Int) (x50 : Int), (w42.cell? ⟨k10, 0, none⟩ = some (.int .u32 x43) ∧ w42.cell? ⟨k10, 1, none⟩ = some (.int .i64 x44) ∧ w42.cell? ⟨k10, 2, none⟩ = some (.string s45) ∧ w42.cell? ⟨k10, 3, none⟩ = some (.int .i64 x46) ∧ w42.cell? ⟨k10, 4, none⟩ = some (.int .i64 x47) ∧ w42.cell? ⟨k10, 5, none⟩ = some (.int .i64 x48) ∧ w42.cell? ⟨k10, 6, none⟩ = some (.int .i64 x49) ∧ w42.cell? ⟨k10, 7, none⟩ = some (.int .i64 x50) ∧ True) ∧ ∃ (x51 : Int), w42.cell? ⟨k10, 0, none⟩ = some (.int .u32 x51) ∧ ∃ (x52 : Int), w42.cell? ⟨k10, 1, none⟩ = some (.int .i64 x52) ∧ ∃ (x53 : Int), w42.cell? ⟨k10, 7, none⟩ = some (.int .i64 x53) ∧ (Calls Cz.P 60 #[(.int .u32 x51), (.int .i64 x52), (.int .i64 x53)] w42 (CP (fun r63 w62 => ∃ (x54 : Int) (x55 : Int) (s56 : ByteArray) (x57 : Int) (x58 : Int) (x59 : Int) (x60 : Int) (x61 : Int), r63 = (.agg #[(.int .u32 x54), (.int .i64 x55), (.string s56), (.int .i64 x57), (.int .i64 x58), (.int .i64 x59), (.int .i64 x60), (.int .i64 x61)]) ∧ ((w62.cell? ⟨k10, 0, none⟩ = w42.cell? ⟨k10, 0, none⟩ ∧ w62.cell? ⟨k10, 1, none⟩ = w42.cell? ⟨k10, 1, none⟩ ∧ w62.cell? ⟨k10, 2, none⟩ = w42.cell? ⟨k10, 2, none⟩ ∧ w62.cell? ⟨k10, 3, none⟩ = w42.cell? ⟨k10, 3, none⟩ ∧ w62.cell? ⟨k10, 4, none⟩ = w42.cell? ⟨k10, 4, none⟩ ∧ w62.cell? ⟨k10, 5, none⟩ = w42.cell? ⟨k10, 5, none⟩ ∧ w62.cell? ⟨k10, 6, none⟩ = w42.cell? ⟨k10, 6, none⟩ ∧ w62.cell? ⟨k10, 7, none⟩ = w42.cell? ⟨k10, 7, none⟩ ∧ True) ∧ True) ∧ Rt (.bool ((x43 == x54) && ((x44 == x55) && ((s45.toList == s56.toList) && ((x46 == x57) && ((x47 == x58) && ((x48 == x59) && ((x49 == x60) && ((x50 == x61) && true))))))))) w62) (fun _ _ => False)))) (w36.drew))) E))
def B64_l1 (Rt : Value → World → Prop) (E : List PanicEntry → World → Prop) (k10 : Nat) (p12 : Option Addr) (p13 : Option Addr) (p14 : Option Addr) (p15 : Option Addr) (p16 : Option Addr) (J19 : List Value → World → Prop) (m20 : List Value → World → Nat) (x21 : Int) (w22 : World) : Prop :=
  ifB (decide (x21 < 5)) (need (decide (0 ≤ x21) && decide (x21 < 5)) (∃ (p23 : Option Addr), #[((.pointer p12) : Value), ((.pointer p13) : Value), ((.pointer p14) : Value), ((.pointer p15) : Value), ((.pointer p16) : Value)][(x21).toNat]? = some (.pointer p23) ∧ nn p23 fun q24 => ∃ (x25 : Int), w22.cell? q24 = some (.int .i64 x25) ∧ ifB (decide (x25 < 0)) (B64_j1 Rt J19 m20 x21 w22 true w22) (nn p23 fun q26 => ∃ (x27 : Int), w22.cell? q26 = some (.int .i64 x27) ∧ B64_j1 Rt J19 m20 x21 w22 (decide (x27 > 1099511627776)) w22))) (∃ (x30 : Int), w22.cell? ⟨k10, 1, none⟩ = some (.int .i64 x30) ∧ ifB (decide (x30 < 0)) (B64_j2 Rt E k10 true w22) (∃ (x31 : Int), w22.cell? ⟨k10, 1, none⟩ = some (.int .i64 x31) ∧ B64_j2 Rt E k10 (decide (x31 > 5)) w22))
def B64 (x1 : Int) (x2 : Int) (s3 : ByteArray) (x4 : Int) (x5 : Int) (x6 : Int) (x7 : Int) (x8 : Int) (w9 : World) (Rt : Value → World → Prop) (E : List PanicEntry → World → Prop) : Prop :=
  nw w9 (.cells #[(.int .u32 x1), (.int .i64 x2), (.string s3), (.int .i64 x4), (.int .i64 x5), (.int .i64 x6), (.int .i64 x7), (.int .i64 x8)] 49) fun k10 w11 => Calls Cz.P 97 #[(.pointer (some ⟨k10, 0, none⟩))] w11 (CP (fun r18 w17 => ∃ (p12 : Option Addr) (p13 : Option Addr) (p14 : Option Addr) (p15 : Option Addr) (p16 : Option Addr), r18 = (.agg #[(.pointer p12), (.pointer p13), (.pointer p14), (.pointer p15), (.pointer p16)]) ∧ ∃ (J19 : List Value → World → Prop) (m20 : List Value → World → Nat), J19 [(.int .i64 0)] w17 ∧ ∀ (x21 : Int) (w22 : World), J19 [(.int .i64 x21)] w22 → B64_l1 Rt E k10 p12 p13 p14 p15 p16 J19 m20 x21 w22) E)
def A64 : Ann := fun n => match n with | 0 => [(6, .one (.int .i64))] | _ => []
theorem B64_eq (x1 : Int) (x2 : Int) (s3 : ByteArray) (x4 : Int) (x5 : Int) (x6 : Int) (x7 : Int) (x8 : Int) (w9 : World) (Rt : Value → World → Prop) (E : List PanicEntry → World → Prop) : vFn Cz A64 Tryz.f64.results.toList (bodyOf Tryz.f64) (startFr Tryz.f64.ntmps [(.agg #[(.int .u32 x1), (.int .i64 x2), (.string s3), (.int .i64 x4), (.int .i64 x5), (.int .i64 x6), (.int .i64 x7), (.int .i64 x8)])]) w9 (CP Rt E) = B64 x1 x2 s3 x4 x5 x6 x7 x8 w9 Rt E := by kernel_rfl
theorem C64 {x1 : Int} {x2 : Int} {s3 : ByteArray} {x4 : Int} {x5 : Int} {x6 : Int} {x7 : Int} {x8 : Int} {w9 : World} {Rt : Value → World → Prop} {E : List PanicEntry → World → Prop} (h : B64 x1 x2 s3 x4 x5 x6 x7 x8 w9 Rt E) : Calls Cz.P 64 #[(.agg #[(.int .u32 x1), (.int .i64 x2), (.string s3), (.int .i64 x4), (.int .i64 x5), (.int .i64 x6), (.int .i64 x7), (.int .i64 x8)])] w9 (CP Rt E) := calls_of_B (C := Cz) Cz.ok Tryz.func64 (by kernel_rfl) (B64_eq x1 x2 s3 x4 x5 x6 x7 x8 w9 Rt E) h


end Go.Lf
end

section
set_option linter.unusedVariables false
set_option maxRecDepth 100000
set_option maxHeartbeats 4000000
namespace Go.Lf
open Go Go.Proofs
/-! ### (*lessor/store.Store).note: function 65 -/
def B65_j1 (Rt : Value → World → Prop) (x8 : Int) (w13 : World) : Prop :=
  Rt (.int .i64 x8) w13
def B65 (p1 : Option Addr) (a2 : Option Addr) (n3 : Nat) (c4 : Nat) (w5 : World) (Rt : Value → World → Prop) (E : List PanicEntry → World → Prop) : Prop :=
  nn p1 fun q6 => ∃ (p7 : Option Addr), w5.cell? q6 = some (.pointer p7) ∧ Calls Cz.P 99 #[(.pointer p7), (.slice a2 n3 c4)] w5 (CP (fun r10 w9 => ∃ (x8 : Int), r10 = (.int .i64 x8) ∧ ifB (x8 == 0) (Calls Cz.P 41 #[(.pointer p1), (.slice a2 n3 c4)] w9 (CP (fun r12 w11 => r12 = (.tuple #[]) ∧ B65_j1 Rt x8 w11) E)) (B65_j1 Rt x8 w9)) E)
def A65 : Ann := fun _ => []
theorem B65_eq (p1 : Option Addr) (a2 : Option Addr) (n3 : Nat) (c4 : Nat) (w5 : World) (Rt : Value → World → Prop) (E : List PanicEntry → World → Prop) : vFn Cz A65 Tryz.f65.results.toList (bodyOf Tryz.f65) (startFr Tryz.f65.ntmps [(.pointer p1), (.slice a2 n3 c4)]) w5 (CP Rt E) = B65 p1 a2 n3 c4 w5 Rt E := by kernel_rfl
theorem C65 {p1 : Option Addr} {a2 : Option Addr} {n3 : Nat} {c4 : Nat} {w5 : World} {Rt : Value → World → Prop} {E : List PanicEntry → World → Prop} (h : B65 p1 a2 n3 c4 w5 Rt E) : Calls Cz.P 65 #[(.pointer p1), (.slice a2 n3 c4)] w5 (CP Rt E) := calls_of_B (C := Cz) Cz.ok Tryz.func65 (by kernel_rfl) (B65_eq p1 a2 n3 c4 w5 Rt E) h


end Go.Lf
end

section
set_option linter.unusedVariables false
set_option maxRecDepth 100000
set_option maxHeartbeats 4000000
namespace Go.Lf
open Go Go.Proofs
/-! ### (*lessor/disk.Disk).Sync: function 66 -/
def B66 (p1 : Option Addr) (w2 : World) (Rt : Value → World → Prop) (E : List PanicEntry → World → Prop) : Prop :=
  nw w2 (.cells #[(.pointer p1)] 25) fun k3 w4 => ∃ (p5 : Option Addr), w4.cell? ⟨k3, 0, none⟩ = some (.pointer p5) ∧ Calls Cz.P 33 #[(.pointer p5), (.int .i64 0), (.func (.func 100) #[] #[(.pointer (some ⟨k3, 0, none⟩))])] w4 (CP (fun r8 w7 => ∃ (x6 : Int), r8 = (.int .i64 x6) ∧ Rt (.int .i64 x6) w7) E)
def A66 : Ann := fun _ => []
theorem B66_eq (p1 : Option Addr) (w2 : World) (Rt : Value → World → Prop) (E : List PanicEntry → World → Prop) : vFn Cz A66 Tryz.f66.results.toList (bodyOf Tryz.f66) (startFr Tryz.f66.ntmps [(.pointer p1)]) w2 (CP Rt E) = B66 p1 w2 Rt E := by kernel_rfl
theorem C66 {p1 : Option Addr} {w2 : World} {Rt : Value → World → Prop} {E : List PanicEntry → World → Prop} (h : B66 p1 w2 Rt E) : Calls Cz.P 66 #[(.pointer p1)] w2 (CP Rt E) := calls_of_B (C := Cz) Cz.ok Tryz.func66 (by kernel_rfl) (B66_eq p1 w2 Rt E) h


end Go.Lf
end

section
set_option linter.unusedVariables false
set_option maxRecDepth 100000
set_option maxHeartbeats 4000000
namespace Go.Lf
open Go Go.Proofs
/-! ### lessor/addr.Pool: function 67 -/
def B67_j1 (J16 : List Value → World → Prop) (m17 : List Value → World → Nat) (a18 : Option Addr) (n19 : Nat) (c20 : Nat) (x21 : Int) (w22 : World) (a53 : Option Addr) (n54 : Nat) (c55 : Nat) (w56 : World) : Prop :=
  J16 [(.slice a53 n54 c55), (.int .i64 (IntKind.i64.wrap (x21 + 1)))] w56 ∧ m17 [(.slice a53 n54 c55), (.int .i64 (IntKind.i64.wrap (x21 + 1)))] w56 < m17 [(.slice a18 n19 c20), (.int .i64 x21)] w22
def B67_l1 (Rt : Value → World → Prop) (E : List PanicEntry → World → Prop) (a11 : Option Addr) (n12 : Nat) (J16 : List Value → World → Prop) (m17 : List Value → World → Nat) (a18 : Option Addr) (n19 : Nat) (c20 : Nat) (x21 : Int) (w22 : World) : Prop :=
  ifB (decide (x21 < (n12 : Int))) (need (decide (0 ≤ x21) && decide (x21 < (n12 : Int))) (nn a11 fun q23 => ∃ (x24 : Int) (x25 : Int), (w22.cell? (q23.add ((x21).toNat * 2)) = some (.int .u32 x24) ∧ w22.cell? ((q23.add ((x21).toNat * 2)).add 1) = some (.int .u32 x25) ∧ True) ∧ nw w22 (.cells #[(.int .u32 0), (.int .u32 0)] 96) fun k26 w27 => st w27 ⟨k26, 0, none⟩ (.int .u32 x24) fun w28 => st w28 ⟨k26, 1, none⟩ (.int .u32 x25) fun w29 => ∃ (J30 : List Value → World → Prop), ((fun w31 : World => ifB (decide ((n19 : Int) > 0)) (∃ (x32 : Int), w31.cell? ⟨k26, 0, none⟩ = some (.int .u32 x32) ∧ need (decide (0 ≤ (IntKind.i64.wrap ((n19 : Int) - 1))) && decide ((IntKind.i64.wrap ((n19 : Int) - 1)) < (n19 : Int))) (nn a18 fun q33 => ∃ (x34 : Int), w31.cell? ((q33.add (((IntKind.i64.wrap ((n19 : Int) - 1))).toNat * 2)).add 1) = some (.int .u32 x34) ∧ J30 [(.bool (decide ((IntKind.i64.wrap x32) ≤ (IntKind.i64.wrap ((IntKind.i64.wrap x34) + 1)))))] w31)) (((True) ∧ (J30 [(.bool false)] w31)) ∧ ((True) ∧ ((True) ∧ J30 [(.bool false)] w31)))) (w29.drew)) ∧ ∀ (b35 : Bool) (w36 : World), J30 [(.bool b35)] w36 → ifB b35 ((fun w37 : World => need (decide (0 ≤ (IntKind.i64.wrap ((n19 : Int) - 1))) && decide ((IntKind.i64.wrap ((n19 : Int) - 1)) < (n19 : Int))) (nn a18 fun q38 => ∃ (x39 : Int), w37.cell? ((q38.add (((IntKind.i64.wrap ((n19 : Int) - 1))).toNat * 2)).add 1) = some (.int .u32 x39) ∧ ∃ (x40 : Int), w37.cell? ⟨k26, 1, none⟩ = some (.int .u32 x40) ∧ need (decide (0 ≤ (IntKind.i64.wrap ((n19 : Int) - 1))) && decide ((IntKind.i64.wrap ((n19 : Int) - 1)) < (n19 : Int))) (nn a18 fun q41 => (st w37 ((q41.add (((IntKind.i64.wrap ((n19 : Int) - 1))).toNat * 2)).add 1) (.int .u32 (if x40 > x39 then x40 else x39)) fun w42 => B67_j1 J16 m17 a18 n19 c20 x21 w22 a18 n19 c20 w42)))) (w36.drew)) (∃ (x43 : Int) (x44 : Int), (w36.cell? ⟨k26, 0, none⟩ = some (.int .u32 x43) ∧ w36.cell? ⟨k26, 1, none⟩ = some (.int .u32 x44) ∧ True) ∧ ∃ (a45 : Option Addr) (n46 : Nat) (c47 : Nat), ∃ w48 : World, Sem.run Cz.P (Instr.buildSlice 23 1 #[(0, (.agg #[(.int .u32 x43), (.int .u32 x44)]))]) w36 = .ok (.slice a45 n46 c47) w48 ∧ ∃ (a49 : Option Addr) (n50 : Nat) (c51 : Nat), ∃ w52 : World, Sem.run Cz.P (Builtin.append_ #[23, 23] 23 #[(.slice a18 n19 c20), (.slice a45 n46 c47)]) w48 = .ok (.slice a49 n50 c51) w52 ∧ B67_j1 J16 m17 a18 n19 c20 x21 w22 a49 n50 c51 w52))) (Calls Cz.P 68 #[(.slice a18 n19 c20)] w22 (CP (fun r59 w58 => ∃ (x57 : Int), r59 = (.int .i64 x57) ∧ ifB (decide (x57 > 256)) (Rt (.tuple #[(.slice none 0 0), (.int .i64 3)]) w58) (Rt (.tuple #[(.slice a18 n19 c20), (.int .i64 0)]) w58)) E))
def B67 (a1 : Option Addr) (n2 : Nat) (c3 : Nat) (w4 : World) (Rt : Value → World → Prop) (E : List PanicEntry → World → Prop) : Prop :=
  Calls Cz.P 102 #[(.slice a1 n2 c3), (.func (.func 101) #[] #[])] w4 (CP (fun r7 w6 => ∃ (b5 : Bool), r7 = (.bool b5) ∧ ifB b5 (Rt (.tuple #[(.slice none 0 0), (.int .i64 1)]) w6) (Calls Cz.P 104 #[(.slice a1 n2 c3)] w6 (CP (fun r10 w9 => ∃ (v8 : Value), r10 = v8 ∧ Calls Cz.P 103 #[v8, (.func (.func 105) #[] #[])] w9 (CP (fun r15 w14 => ∃ (a11 : Option Addr) (n12 : Nat) (c13 : Nat), r15 = (.slice a11 n12 c13) ∧ ∃ (J16 : List Value → World → Prop) (m17 : List Value → World → Nat), J16 [(.slice none 0 0), (.int .i64 0)] w14 ∧ ∀ (a18 : Option Addr) (n19 : Nat) (c20 : Nat) (x21 : Int) (w22 : World), J16 [(.slice a18 n19 c20), (.int .i64 x21)] w22 → B67_l1 Rt E a11 n12 J16 m17 a18 n19 c20 x21 w22) E)) E))) E)
def A67 : Ann := fun n => match n with | 0 => [(5, .one .sl), (17, .one (.int .i64))] | 1000010 => [(0, .one .any)] | 2000010 => [(38, .one .bool)] | _ => []
theorem B67_eq (a1 : Option Addr) (n2 : Nat) (c3 : Nat) (w4 : World) (Rt : Value → World → Prop) (E : List PanicEntry → World → Prop) : vFn Cz A67 Tryz.f67.results.toList (bodyOf Tryz.f67) (startFr Tryz.f67.ntmps [(.slice a1 n2 c3)]) w4 (CP Rt E) = B67 a1 n2 c3 w4 Rt E := by kernel_rfl
theorem C67 {a1 : Option Addr} {n2 : Nat} {c3 : Nat} {w4 : World} {Rt : Value → World → Prop} {E : List PanicEntry → World → Prop} (h : B67 a1 n2 c3 w4 Rt E) : Calls Cz.P 67 #[(.slice a1 n2 c3)] w4 (CP Rt E) := calls_of_B (C := Cz) Cz.ok Tryz.func67 (by kernel_rfl) (B67_eq a1 n2 c3 w4 Rt E) h


end Go.Lf
end

section
set_option linter.unusedVariables false
set_option maxRecDepth 100000
set_option maxHeartbeats 4000000
namespace Go.Lf
open Go Go.Proofs
/-! ### lessor/addr.Count: function 68 -/
def B68_l1 (Rt : Value → World → Prop) (E : List PanicEntry → World → Prop) (a1 : Option Addr) (n2 : Nat) (J5 : List Value → World → Prop) (m6 : List Value → World → Nat) (x7 : Int) (x8 : Int) (w9 : World) : Prop :=
  ifB (decide (x8 < (n2 : Int))) (need (decide (0 ≤ x8) && decide (x8 < (n2 : Int))) (nn a1 fun q10 => ∃ (x11 : Int) (x12 : Int), (w9.cell? (q10.add ((x8).toNat * 2)) = some (.int .u32 x11) ∧ w9.cell? ((q10.add ((x8).toNat * 2)).add 1) = some (.int .u32 x12) ∧ True) ∧ nw w9 (.cells #[(.int .u32 0), (.int .u32 0)] 96) fun k13 w14 => st w14 ⟨k13, 0, none⟩ (.int .u32 x11) fun w15 => st w15 ⟨k13, 1, none⟩ (.int .u32 x12) fun w16 => ∃ (x17 : Int) (x18 : Int), (w16.cell? ⟨k13, 0, none⟩ = some (.int .u32 x17) ∧ w16.cell? ⟨k13, 1, none⟩ = some (.int .u32 x18) ∧ True) ∧ Calls Cz.P 106 #[(.agg #[(.int .u32 x17), (.int .u32 x18)])] w16 (CP (fun r21 w20 => ∃ (x19 : Int), r21 = (.int .i64 x19) ∧ J5 [(.int .i64 (IntKind.i64.wrap (x7 + x19))), (.int .i64 (IntKind.i64.wrap (x8 + 1)))] w20 ∧ m6 [(.int .i64 (IntKind.i64.wrap (x7 + x19))), (.int .i64 (IntKind.i64.wrap (x8 + 1)))] w20 < m6 [(.int .i64 x7), (.int .i64 x8)] w9) E))) (Rt (.int .i64 x7) w9)
def B68 (a1 : Option Addr) (n2 : Nat) (c3 : Nat) (w4 : World) (Rt : Value → World → Prop) (E : List PanicEntry → World → Prop) : Prop :=
  ∃ (J5 : List Value → World → Prop) (m6 : List Value → World → Nat), J5 [(.int .i64 0), (.int .i64 0)] w4 ∧ ∀ (x7 : Int) (x8 : Int) (w9 : World), J5 [(.int .i64 x7), (.int .i64 x8)] w9 → B68_l1 Rt E a1 n2 J5 m6 x7 x8 w9
def A68 : Ann := fun n => match n with | 0 => [(3, .one (.int .i64)), (8, .one (.int .i64))] | _ => []
theorem B68_eq (a1 : Option Addr) (n2 : Nat) (c3 : Nat) (w4 : World) (Rt : Value → World → Prop) (E : List PanicEntry → World → Prop) : vFn Cz A68 Tryz.f68.results.toList (bodyOf Tryz.f68) (startFr Tryz.f68.ntmps [(.slice a1 n2 c3)]) w4 (CP Rt E) = B68 a1 n2 c3 w4 Rt E := by kernel_rfl
theorem C68 {a1 : Option Addr} {n2 : Nat} {c3 : Nat} {w4 : World} {Rt : Value → World → Prop} {E : List PanicEntry → World → Prop} (h : B68 a1 n2 c3 w4 Rt E) : Calls Cz.P 68 #[(.slice a1 n2 c3)] w4 (CP Rt E) := calls_of_B (C := Cz) Cz.ok Tryz.func68 (by kernel_rfl) (B68_eq a1 n2 c3 w4 Rt E) h


end Go.Lf
end

section
set_option linter.unusedVariables false
set_option maxRecDepth 100000
set_option maxHeartbeats 4000000
namespace Go.Lf
open Go Go.Proofs
/-! ### lessor/addr.At: function 69 -/
def B69_r1 (k6 : Nat) (k8 : Nat) (k10 : Nat) (l15 : Nat) (rec16 : Loop) (x17 : Int) (x18 : Int) (w19 : World) (Rt : Value → World → Prop) : Prop :=
  ([] : List Nat) = [] ∧ ∃ (pn20 : Option Code), LoopAt w19 l15 rec16 .ready pn20 ∧ (fun w21 : World => ∃ (x22 : Int), w21.cell? ⟨k6, 0, none⟩ = some (.int .i64 x22) ∧ ifB (x17 == x22) (st w21 ⟨k8, 0, none⟩ (.int .u32 x18) fun w23 => st w23 ⟨k10, 0, none⟩ (.int .i64 0) fun w24 => ([] : List Nat) = [] ∧ ∃ (pn25 : Option Code), LoopAt w24 l15 rec16 .busy pn25 ∧ Rt (.bool false) (putLoop w24 l15 rec16 .done (some .ret))) (([] : List Nat) = [] ∧ ∃ (pn26 : Option Code), LoopAt w21 l15 rec16 .busy pn26 ∧ Rt (.bool true) (putLoop w21 l15 rec16 .ready none))) (putLoop w19 l15 rec16 .busy pn20)
def B69 (a1 : Option Addr) (n2 : Nat) (c3 : Nat) (x4 : Int) (w5 : World) (Rt : Value → World → Prop) (E : List PanicEntry → World → Prop) : Prop :=
  nw w5 (.cells #[(.int .i64 x4)] 3) fun k6 w7 => nw w7 (.cells #[(.int .u32 0)] 47) fun k8 w9 => nw w9 (.cells #[(.int .i64 0)] 26) fun k10 w11 => Calls Cz.P 107 #[(.slice a1 n2 c3)] w11 (CP (fun r14 w13 => ∃ (v12 : Value), r14 = v12 ∧ nw w13 (.deferred (some [])) fun k34 w35 => ∀ rec27 : Loop, RecIs rec27 [none, none, none, some (.pointer (some ⟨k6, 0, none⟩)), some (.pointer (some ⟨k8, 0, none⟩)), some (.pointer (some ⟨k10, 0, none⟩)), none, none, none, none, none, none, none, none, none, none] #[10, 11] (codeAt [1, 0, 1, 0, 0] (bodyOf Tryz.f69)) (codeAt [1, 0, 1, 0, 1] (bodyOf Tryz.f69)) k34 → nw w35 (.loop rec27) fun l28 w29 => vCallF Cz v12 [(.func (.yield l28) #[] #[])] w29 (CP (fun r33 w30 => EndL w30 l28 rec27 fun pn32 w31 => jumpB (st w31 ⟨k8, 0, none⟩ (.int .u32 0) fun w40 => st w40 ⟨k10, 0, none⟩ (.int .i64 4) fun w41 => w41.heap[k34]? = some (.deferred (some [])) ∧ (fun w42 : World => ∃ (x43 : Int), w42.cell? ⟨k8, 0, none⟩ = some (.int .u32 x43) ∧ ∃ (x44 : Int), w42.cell? ⟨k10, 0, none⟩ = some (.int .i64 x44) ∧ Rt (.tuple #[(.int .u32 x43), (.int .i64 x44)]) w42) (w41.putObj k34 (.deferred none))) (w31.heap[k34]? = some (.deferred (some [])) ∧ (fun w36 : World => ∃ (x37 : Int), w36.cell? ⟨k8, 0, none⟩ = some (.int .u32 x37) ∧ ∃ (x38 : Int), w36.cell? ⟨k10, 0, none⟩ = some (.int .i64 x38) ∧ Rt (.tuple #[(.int .u32 x37), (.int .i64 x38)]) w36) (w31.putObj k34 (.deferred none))) (fun id => False) pn32) (fun ch w => w.heap[k34]? = some (.deferred (some [])) ∧ (fun w39 : World => E ch w39) (w.putObj k34 (.deferred none))))) E)
def A69 : Ann := fun n => match n with | 0 => [(3, .one .any), (4, .one .any), (5, .one .any)] | _ => []
theorem B69_r1_eq (k6 : Nat) (k8 : Nat) (k10 : Nat) (l15 : Nat) (rec16 : Loop) (x17 : Int) (x18 : Int) (w19 : World) (Rt : Value → World → Prop) : vRound Cz A69 (codeAt [1, 0, 1, 0, 0] (bodyOf Tryz.f69)) (codeAt [1, 0, 1, 0, 1] (bodyOf Tryz.f69)) 1 l15 rec16 (setArgs [10, 11] [(.int .i64 x17), (.int .u32 x18)] [none, none, none, some (.pointer (some ⟨k6, 0, none⟩)), some (.pointer (some ⟨k8, 0, none⟩)), some (.pointer (some ⟨k10, 0, none⟩)), none, none, none, none, none, none, none, none, none, none]) w19 Rt = B69_r1 k6 k8 k10 l15 rec16 x17 x18 w19 Rt := by kernel_rfl
theorem B69_r1_rnd {k6 : Nat} {k8 : Nat} {k10 : Nat} {l15 : Nat} {rec16 : Loop} {x17 : Int} {x18 : Int} {w19 : World} {Rt : Value → World → Prop} {D : Nat} {pn : Option Code} {E : List PanicEntry → World → Prop} (hr : RecIs rec16 [none, none, none, some (.pointer (some ⟨k6, 0, none⟩)), some (.pointer (some ⟨k8, 0, none⟩)), some (.pointer (some ⟨k10, 0, none⟩)), none, none, none, none, none, none, none, none, none, none] #[10, 11] (codeAt [1, 0, 1, 0, 0] (bodyOf Tryz.f69)) (codeAt [1, 0, 1, 0, 1] (bodyOf Tryz.f69)) D) (hl : LoopAt w19 l15 rec16 .ready pn) (h : B69_r1 k6 k8 k10 l15 rec16 x17 x18 w19 Rt) : Rnd Cz.P l15 #[(.int .i64 x17), (.int .u32 x18)] w19 (CP Rt E) :=
  rnd_of_vRound (C := Cz) (A := A69) (n := 1) (args := [(.int .i64 x17), (.int .u32 x18)]) Cz.ok hr hl rfl ((B69_r1_eq k6 k8 k10 l15 rec16 x17 x18 w19 Rt) ▸ h)
theorem B69_eq (a1 : Option Addr) (n2 : Nat) (c3 : Nat) (x4 : Int) (w5 : World) (Rt : Value → World → Prop) (E : List PanicEntry → World → Prop) : vFn Cz A69 Tryz.f69.results.toList (bodyOf Tryz.f69) (startFr Tryz.f69.ntmps [(.slice a1 n2 c3), (.int .i64 x4)]) w5 (CP Rt E) = B69 a1 n2 c3 x4 w5 Rt E := by kernel_rfl
theorem C69 {a1 : Option Addr} {n2 : Nat} {c3 : Nat} {x4 : Int} {w5 : World} {Rt : Value → World → Prop} {E : List PanicEntry → World → Prop} (h : B69 a1 n2 c3 x4 w5 Rt E) : Calls Cz.P 69 #[(.slice a1 n2 c3), (.int .i64 x4)] w5 (CP Rt E) := calls_of_B (C := Cz) Cz.ok Tryz.func69 (by kernel_rfl) (B69_eq a1 n2 c3 x4 w5 Rt E) h


end Go.Lf
end

section
set_option linter.unusedVariables false
set_option maxRecDepth 100000
set_option maxHeartbeats 4000000
namespace Go.Lf
open Go Go.Proofs
/-! ### lessor/frame.Scan: function 70 -/
def B70_r1 (k5 : Nat) (k7 : Nat) (l13 : Nat) (rec14 : Loop) (x15 : Int) (a16 : Option Addr) (n17 : Nat) (c18 : Nat) (w19 : World) (Rt : Value → World → Prop) : Prop :=
  ([] : List Nat) = [] ∧ ∃ (pn20 : Option Code), LoopAt w19 l13 rec14 .ready pn20 ∧ (fun w21 : World => ∃ (a22 : Option Addr) (n23 : Nat) (c24 : Nat), w21.cell? ⟨k5, 0, none⟩ = some (.slice a22 n23 c24) ∧ ∃ (a25 : Option Addr) (n26 : Nat) (c27 : Nat), ∃ w28 : World, Sem.run Cz.P (Instr.buildSlice 56 1 #[(0, (.slice a16 n17 c18))]) w21 = .ok (.slice a25 n26 c27) w28 ∧ ∃ (a29 : Option Addr) (n30 : Nat) (c31 : Nat), ∃ w32 : World, Sem.run Cz.P (Builtin.append_ #[56, 56] 56 #[(.slice a22 n23 c24), (.slice a25 n26 c27)]) w28 = .ok (.slice a29 n30 c31) w32 ∧ st w32 ⟨k5, 0, none⟩ (.slice a29 n30 c31) fun w33 => st w33 ⟨k7, 0, none⟩ (.int .i64 x15) fun w34 => ([] : List Nat) = [] ∧ ∃ (pn35 : Option Code), LoopAt w34 l13 rec14 .busy pn35 ∧ Rt (.bool true) (putLoop w34 l13 rec14 .ready none)) (putLoop w19 l13 rec14 .busy pn20)
def B70 (a1 : Option Addr) (n2 : Nat) (c3 : Nat) (w4 : World) (Rt : Value → World → Prop) (E : List PanicEntry → World → Prop) : Prop :=
  nw w4 (.cells #[(.slice none 0 0)] 56) fun k5 w6 => nw w6 (.cells #[(.int .i64 0)] 3) fun k7 w8 => st w8 ⟨k7, 0, none⟩ (.int .i64 0) fun w9 => Calls Cz.P 108 #[(.slice a1 n2 c3)] w9 (CP (fun r12 w11 => ∃ (v10 : Value), r12 = v10 ∧ nw w11 (.deferred (some [])) fun k43 w44 => ∀ rec36 : Loop, RecIs rec36 [none, none, none, none, some (.pointer (some ⟨k5, 0, none⟩)), some (.pointer (some ⟨k7, 0, none⟩)), none, none, none, none, none, none, none, none, none, none, none, none, none] #[10, 11] (codeAt [1, 1, 1, 0, 1, 0, 0] (bodyOf Tryz.f70)) (codeAt [1, 1, 1, 0, 1, 0, 1] (bodyOf Tryz.f70)) k43 → nw w44 (.loop rec36) fun l37 w38 => vCallF Cz v10 [(.func (.yield l37) #[] #[])] w38 (CP (fun r42 w39 => EndL w39 l37 rec36 fun pn41 w40 => jumpB ((fun w47 : World => ∃ (a48 : Option Addr) (n49 : Nat) (c50 : Nat), w47.cell? ⟨k5, 0, none⟩ = some (.slice a48 n49 c50) ∧ ∃ (x51 : Int), w47.cell? ⟨k7, 0, none⟩ = some (.int .i64 x51) ∧ w47.heap[k43]? = some (.deferred (some [])) ∧ (fun w52 : World => Rt (.tuple #[(.slice a48 n49 c50), (.int .i64 x51)]) w52) (w47.putObj k43 (.deferred none))) (w40.drew)) (w40.heap[k43]? = some (.deferred (some [])) ∧ (fun w45 : World => Rt (.tuple #[(.slice none 0 0), (.int .i64 0)]) w45) (w40.putObj k43 (.deferred none))) (fun id => False) pn41) (fun ch w => w.heap[k43]? = some (.deferred (some [])) ∧ (fun w46 : World => E ch w46) (w.putObj k43 (.deferred none))))) E)
def A70 : Ann := fun n => match n with | 0 => [(4, .one .any), (5, .one .any)] | _ => []
theorem B70_r1_eq (k5 : Nat) (k7 : Nat) (l13 : Nat) (rec14 : Loop) (x15 : Int) (a16 : Option Addr) (n17 : Nat) (c18 : Nat) (w19 : World) (Rt : Value → World → Prop) : vRound Cz A70 (codeAt [1, 1, 1, 0, 1, 0, 0] (bodyOf Tryz.f70)) (codeAt [1, 1, 1, 0, 1, 0, 1] (bodyOf Tryz.f70)) 1 l13 rec14 (setArgs [10, 11] [(.int .i64 x15), (.slice a16 n17 c18)] [none, none, none, none, some (.pointer (some ⟨k5, 0, none⟩)), some (.pointer (some ⟨k7, 0, none⟩)), none, none, none, none, none, none, none, none, none, none, none, none, none]) w19 Rt = B70_r1 k5 k7 l13 rec14 x15 a16 n17 c18 w19 Rt := by kernel_rfl
theorem B70_r1_rnd {k5 : Nat} {k7 : Nat} {l13 : Nat} {rec14 : Loop} {x15 : Int} {a16 : Option Addr} {n17 : Nat} {c18 : Nat} {w19 : World} {Rt : Value → World → Prop} {D : Nat} {pn : Option Code} {E : List PanicEntry → World → Prop} (hr : RecIs rec14 [none, none, none, none, some (.pointer (some ⟨k5, 0, none⟩)), some (.pointer (some ⟨k7, 0, none⟩)), none, none, none, none, none, none, none, none, none, none, none, none, none] #[10, 11] (codeAt [1, 1, 1, 0, 1, 0, 0] (bodyOf Tryz.f70)) (codeAt [1, 1, 1, 0, 1, 0, 1] (bodyOf Tryz.f70)) D) (hl : LoopAt w19 l13 rec14 .ready pn) (h : B70_r1 k5 k7 l13 rec14 x15 a16 n17 c18 w19 Rt) : Rnd Cz.P l13 #[(.int .i64 x15), (.slice a16 n17 c18)] w19 (CP Rt E) :=
  rnd_of_vRound (C := Cz) (A := A70) (n := 1) (args := [(.int .i64 x15), (.slice a16 n17 c18)]) Cz.ok hr hl rfl ((B70_r1_eq k5 k7 l13 rec14 x15 a16 n17 c18 w19 Rt) ▸ h)
theorem B70_eq (a1 : Option Addr) (n2 : Nat) (c3 : Nat) (w4 : World) (Rt : Value → World → Prop) (E : List PanicEntry → World → Prop) : vFn Cz A70 Tryz.f70.results.toList (bodyOf Tryz.f70) (startFr Tryz.f70.ntmps [(.slice a1 n2 c3)]) w4 (CP Rt E) = B70 a1 n2 c3 w4 Rt E := by kernel_rfl
theorem C70 {a1 : Option Addr} {n2 : Nat} {c3 : Nat} {w4 : World} {Rt : Value → World → Prop} {E : List PanicEntry → World → Prop} (h : B70 a1 n2 c3 w4 Rt E) : Calls Cz.P 70 #[(.slice a1 n2 c3)] w4 (CP Rt E) := calls_of_B (C := Cz) Cz.ok Tryz.func70 (by kernel_rfl) (B70_eq a1 n2 c3 w4 Rt E) h


end Go.Lf
end

section
set_option linter.unusedVariables false
set_option maxRecDepth 100000
set_option maxHeartbeats 4000000
namespace Go.Lf
open Go Go.Proofs
/-! ### (*lessor/disk.Disk).Swap: function 71 -/
def B71 (p1 : Option Addr) (a2 : Option Addr) (n3 : Nat) (c4 : Nat) (w5 : World) (Rt : Value → World → Prop) (E : List PanicEntry → World → Prop) : Prop :=
  nw w5 (.cells #[(.pointer p1)] 25) fun k6 w7 => nw w7 (.cells #[(.slice a2 n3 c4)] 22) fun k8 w9 => ∃ (p10 : Option Addr), w9.cell? ⟨k6, 0, none⟩ = some (.pointer p10) ∧ ∃ (a11 : Option Addr) (n12 : Nat) (c13 : Nat), w9.cell? ⟨k8, 0, none⟩ = some (.slice a11 n12 c13) ∧ Calls Cz.P 33 #[(.pointer p10), (.int .i64 (n12 : Int)), (.func (.func 109) #[] #[(.pointer (some ⟨k8, 0, none⟩)), (.pointer (some ⟨k6, 0, none⟩))])] w9 (CP (fun r16 w15 => ∃ (x14 : Int), r16 = (.int .i64 x14) ∧ Rt (.int .i64 x14) w15) E)
def A71 : Ann := fun _ => []
theorem B71_eq (p1 : Option Addr) (a2 : Option Addr) (n3 : Nat) (c4 : Nat) (w5 : World) (Rt : Value → World → Prop) (E : List PanicEntry → World → Prop) : vFn Cz A71 Tryz.f71.results.toList (bodyOf Tryz.f71) (startFr Tryz.f71.ntmps [(.pointer p1), (.slice a2 n3 c4)]) w5 (CP Rt E) = B71 p1 a2 n3 c4 w5 Rt E := by kernel_rfl
theorem C71 {p1 : Option Addr} {a2 : Option Addr} {n3 : Nat} {c4 : Nat} {w5 : World} {Rt : Value → World → Prop} {E : List PanicEntry → World → Prop} (h : B71 p1 a2 n3 c4 w5 Rt E) : Calls Cz.P 71 #[(.pointer p1), (.slice a2 n3 c4)] w5 (CP Rt E) := calls_of_B (C := Cz) Cz.ok Tryz.func71 (by kernel_rfl) (B71_eq p1 a2 n3 c4 w5 Rt E) h


end Go.Lf
end

section
set_option linter.unusedVariables false
set_option maxRecDepth 100000
set_option maxHeartbeats 4000000
namespace Go.Lf
open Go Go.Proofs
/-! ### lessor/lease.Decode: function 72 -/
def B72_l3 (a1 : Option Addr) (n2 : Nat) (J72 : List Value → World → Prop) (m73 : List Value → World → Nat) (x74 : Int) (x75 : Int) (w76 : World) (p77 : Option Addr) (J78 : List Value → World → Prop) (m79 : List Value → World → Nat) (x80 : Int) (x81 : Int) (w82 : World) : Prop :=
  ifB (decide (x81 < 6)) ((fun w83 : World => nn p77 fun q84 => ∃ (x85 : Int), w83.cell? q84 = some (.int .i64 x85) ∧ need (decide (0 ≤ x80) && decide (x80 < (n2 : Int))) (nn a1 fun q86 => ∃ (x87 : Int), w83.cell? (q86.add ((x80).toNat * 1)) = some (.int .u8 x87) ∧ nn p77 fun q88 => (st w83 q88 (.int .i64 (bitop .or .i64 (IntKind.i64.wrap (x85 * 2 ^ 8)) (IntKind.i64.wrap x87))) fun w89 => J78 [(.int .i64 (IntKind.i64.wrap (x80 + 1))), (.int .i64 (IntKind.i64.wrap (x81 + 1)))] w89 ∧ m79 [(.int .i64 (IntKind.i64.wrap (x80 + 1))), (.int .i64 (IntKind.i64.wrap (x81 + 1)))] w89 < m79 [(.int .i64 x80), (.int .i64 x81)] w82))) (w82.drew)) (J72 [(.int .i64 x80), (.int .i64 (IntKind.i64.wrap (x75 + 1)))] w82 ∧ m73 [(.int .i64 x80), (.int .i64 (IntKind.i64.wrap (x75 + 1)))] w82 < m73 [(.int .i64 x74), (.int .i64 x75)] w76)
def B72_l2 (Rt : Value → World → Prop) (E : List PanicEntry → World → Prop) (a1 : Option Addr) (n2 : Nat) (k5 : Nat) (q55 : Addr) (p65 : Option Addr) (p66 : Option Addr) (p67 : Option Addr) (p68 : Option Addr) (p69 : Option Addr) (J72 : List Value → World → Prop) (m73 : List Value → World → Nat) (x74 : Int) (x75 : Int) (w76 : World) : Prop :=
  ifB (decide (x75 < 5)) (need (decide (0 ≤ x75) && decide (x75 < 5)) (∃ (p77 : Option Addr), #[((.pointer p65) : Value), ((.pointer p66) : Value), ((.pointer p67) : Value), ((.pointer p68) : Value), ((.pointer p69) : Value)][(x75).toNat]? = some (.pointer p77) ∧ ∃ (J78 : List Value → World → Prop) (m79 : List Value → World → Nat), J78 [(.int .i64 x74), (.int .i64 0)] w76 ∧ ∀ (x80 : Int) (x81 : Int) (w82 : World), J78 [(.int .i64 x80), (.int .i64 x81)] w82 → B72_l3 a1 n2 J72 m73 x74 x75 w76 p77 J78 m79 x80 x81 w82)) (∃ (x90 : Int) (x91 : Int) (s92 : ByteArray) (x93 : Int) (x94 : Int) (x95 : Int) (x96 : Int) (x97 : Int), (w76.cell? q55 = some (.int .u32 x90) ∧ w76.cell? (q55.add 1) = some (.int .i64 x91) ∧ w76.cell? (q55.add 2) = some (.string s92) ∧ w76.cell? (q55.add 3) = some (.int .i64 x93) ∧ w76.cell? (q55.add 4) = some (.int .i64 x94) ∧ w76.cell? (q55.add 5) = some (.int .i64 x95) ∧ w76.cell? (q55.add 6) = some (.int .i64 x96) ∧ w76.cell? (q55.add 7) = some (.int .i64 x97) ∧ True) ∧ Calls Cz.P 64 #[(.agg #[(.int .u32 x90), (.int .i64 x91), (.string s92), (.int .i64 x93), (.int .i64 x94), (.int .i64 x95), (.int .i64 x96), (.int .i64 x97)])] w76 (CP (fun r100 w99 => ∃ (b98 : Bool), r100 = (.bool b98) ∧ ifB (!b98) (st w99 ⟨k5, 0, none⟩ (.int .u32 0) fun w101 => st w101 ⟨k5, 1, none⟩ (.int .i64 0) fun w102 => st w102 ⟨k5, 2, none⟩ (.string ⟨#[]⟩) fun w103 => st w103 ⟨k5, 3, none⟩ (.int .i64 0) fun w104 => st w104 ⟨k5, 4, none⟩ (.int .i64 0) fun w105 => st w105 ⟨k5, 5, none⟩ (.int .i64 0) fun w106 => st w106 ⟨k5, 6, none⟩ (.int .i64 0) fun w107 => st w107 ⟨k5, 7, none⟩ (.int .i64 0) fun w108 => ∃ (x109 : Int) (x110 : Int) (s111 : ByteArray) (x112 : Int) (x113 : Int) (x114 : Int) (x115 : Int) (x116 : Int), (w108.cell? ⟨k5, 0, none⟩ = some (.int .u32 x109) ∧ w108.cell? ⟨k5, 1, none⟩ = some (.int .i64 x110) ∧ w108.cell? ⟨k5, 2, none⟩ = some (.string s111) ∧ w108.cell? ⟨k5, 3, none⟩ = some (.int .i64 x112) ∧ w108.cell? ⟨k5, 4, none⟩ = some (.int .i64 x113) ∧ w108.cell? ⟨k5, 5, none⟩ = some (.int .i64 x114) ∧ w108.cell? ⟨k5, 6, none⟩ = some (.int .i64 x115) ∧ w108.cell? ⟨k5, 7, none⟩ = some (.int .i64 x116) ∧ True) ∧ Rt (.tuple #[(.agg #[(.int .u32 x109), (.int .i64 x110), (.string s111), (.int .i64 x112), (.int .i64 x113), (.int .i64 x114), (.int .i64 x115), (.int .i64 x116)]), (.int .i64 2)]) w108) (∃ (x117 : Int) (x118 : Int) (s119 : ByteArray) (x120 : Int) (x121 : Int) (x122 : Int) (x123 : Int) (x124 : Int), (w99.cell? q55 = some (.int .u32 x117) ∧ w99.cell? (q55.add 1) = some (.int .i64 x118) ∧ w99.cell? (q55.add 2) = some (.string s119) ∧ w99.cell? (q55.add 3) = some (.int .i64 x120) ∧ w99.cell? (q55.add 4) = some (.int .i64 x121) ∧ w99.cell? (q55.add 5) = some (.int .i64 x122) ∧ w99.cell? (q55.add 6) = some (.int .i64 x123) ∧ w99.cell? (q55.add 7) = some (.int .i64 x124) ∧ True) ∧ st w99 ⟨k5, 0, none⟩ (.int .u32 x117) fun w125 => st w125 ⟨k5, 1, none⟩ (.int .i64 x118) fun w126 => st w126 ⟨k5, 2, none⟩ (.string s119) fun w127 => st w127 ⟨k5, 3, none⟩ (.int .i64 x120) fun w128 => st w128 ⟨k5, 4, none⟩ (.int .i64 x121) fun w129 => st w129 ⟨k5, 5, none⟩ (.int .i64 x122) fun w130 => st w130 ⟨k5, 6, none⟩ (.int .i64 x123) fun w131 => st w131 ⟨k5, 7, none⟩ (.int .i64 x124) fun w132 => ∃ (x133 : Int) (x134 : Int) (s135 : ByteArray) (x136 : Int) (x137 : Int) (x138 : Int) (x139 : Int) (x140 : Int), (w132.cell? ⟨k5, 0, none⟩ = some (.int .u32 x133) ∧ w132.cell? ⟨k5, 1, none⟩ = some (.int .i64 x134) ∧ w132.cell? ⟨k5, 2, none⟩ = some (.string s135) ∧ w132.cell? ⟨k5, 3, none⟩ = some (.int .i64 x136) ∧ w132.cell? ⟨k5, 4, none⟩ = some (.int .i64 x137) ∧ w132.cell? ⟨k5, 5, none⟩ = some (.int .i64 x138) ∧ w132.cell? ⟨k5, 6, none⟩ = some (.int .i64 x139) ∧ w132.cell? ⟨k5, 7, none⟩ = some (.int .i64 x140) ∧ True) ∧ Rt (.tuple #[(.agg #[(.int .u32 x133), (.int .i64 x134), (.string s135), (.int .i64 x136), (.int .i64 x137), (.int .i64 x138), (.int .i64 x139), (.int .i64 x140)]), (.int .i64 0)]) w132)) E))
def B72_l1 (Rt : Value → World → Prop) (E : List PanicEntry → World → Prop) (a1 : Option Addr) (n2 : Nat) (c3 : Nat) (k5 : Nat) (q55 : Addr) (J57 : List Value → World → Prop) (m58 : List Value → World → Nat) (x59 : Int) (w60 : World) : Prop :=
  ifB (decide (x59 < (((4 - 0) : Nat) : Int))) (need (decide (0 ≤ x59) && decide (x59 < (((4 - 0) : Nat) : Int))) (nn (slA a1 0 c3 1) fun q61 => ∃ (x62 : Int), w60.cell? (q61.add ((x59).toNat * 1)) = some (.int .u8 x62) ∧ ∃ (x63 : Int), w60.cell? q55 = some (.int .u32 x63) ∧ st w60 q55 (.int .u32 (bitop .or .u32 (IntKind.u32.wrap (x63 * 2 ^ 8)) (IntKind.u32.wrap x62))) fun w64 => J57 [(.int .i64 (IntKind.i64.wrap (x59 + 1)))] w64 ∧ m58 [(.int .i64 (IntKind.i64.wrap (x59 + 1)))] w64 < m58 [(.int .i64 x59)] w60)) (Calls Cz.P 97 #[(.pointer (some q55))] w60 (CP (fun r71 w70 => ∃ (p65 : Option Addr) (p66 : Option Addr) (p67 : Option Addr) (p68 : Option Addr) (p69 : Option Addr), r71 = (.agg #[(.pointer p65), (.pointer p66), (.pointer p67), (.pointer p68), (.pointer p69)]) ∧ ∃ (J72 : List Value → World → Prop) (m73 : List Value → World → Nat), J72 [(.int .i64 5), (.int .i64 0)] w70 ∧ ∀ (x74 : Int) (x75 : Int) (w76 : World), J72 [(.int .i64 x74), (.int .i64 x75)] w76 → B72_l2 Rt E a1 n2 k5 q55 p65 p66 p67 p68 p69 J72 m73 x74 x75 w76) E))
def B72_j1 (Rt : Value → World → Prop) (E : List PanicEntry → World → Prop) (a1 : Option Addr) (n2 : Nat) (c3 : Nat) (k5 : Nat) (b9 : Bool) (w10 : World) : Prop :=
  ifB b9 (st w10 ⟨k5, 0, none⟩ (.int .u32 0) fun w11 => st w11 ⟨k5, 1, none⟩ (.int .i64 0) fun w12 => st w12 ⟨k5, 2, none⟩ (.string ⟨#[]⟩) fun w13 => st w13 ⟨k5, 3, none⟩ (.int .i64 0) fun w14 => st w14 ⟨k5, 4, none⟩ (.int .i64 0) fun w15 => st w15 ⟨k5, 5, none⟩ (.int .i64 0) fun w16 => st w16 ⟨k5, 6, none⟩ (.int .i64 0) fun w17 => st w17 ⟨k5, 7, none⟩ (.int .i64 0) fun w18 => ∃ (x19 : Int) (x20 : Int) (s21 : ByteArray) (x22 : Int) (x23 : Int) (x24 : Int) (x25 : Int) (x26 : Int), (w18.cell? ⟨k5, 0, none⟩ = some (.int .u32 x19) ∧ w18.cell? ⟨k5, 1, none⟩ = some (.int .i64 x20) ∧ w18.cell? ⟨k5, 2, none⟩ = some (.string s21) ∧ w18.cell? ⟨k5, 3, none⟩ = some (.int .i64 x22) ∧ w18.cell? ⟨k5, 4, none⟩ = some (.int .i64 x23) ∧ w18.cell? ⟨k5, 5, none⟩ = some (.int .i64 x24) ∧ w18.cell? ⟨k5, 6, none⟩ = some (.int .i64 x25) ∧ w18.cell? ⟨k5, 7, none⟩ = some (.int .i64 x26) ∧ True) ∧ Rt (.tuple #[(.agg #[(.int .u32 x19), (.int .i64 x20), (.string s21), (.int .i64 x22), (.int .i64 x23), (.int .i64 x24), (.int .i64 x25), (.int .i64 x26)]), (.int .i64 2)]) w18) (∃ (J27 : List Value → World → Prop), ((fun w28 : World => need (decide (0 ≤ (4 : Int)) && decide ((4 : Int) < (n2 : Int))) (nn a1 fun q29 => ∃ (x30 : Int), w28.cell? (q29.add 4) = some (.int .u8 x30) ∧ need (decide ((0 : Int) ≤ (n2 : Int)) && decide ((n2 : Int) ≤ (c3 : Int))) (need (true && decide ((36 : Int) ≤ (n2 : Int))) ((∃ (s31 : ByteArray), ∃ w32 : World, Sem.run Cz.P (convert 22 9 (.slice (slA a1 36 c3 1) (((n2 : Int)).toNat - 36) (c3 - 36))) w28 = .ok (.string s31) w32 ∧ ((w32.cell? (q29.add 4) = w28.cell? (q29.add 4) ∧ True) ∧ True) ∧ (nw w32 (.cells #[(.int .u32 0), (.int .i64 0), (.string ⟨#[]⟩), (.int .i64 0), (.int .i64 0), (.int .i64 0), (.int .i64 0), (.int .i64 0)] 49) fun k33 w34 => ((w34.cell? (q29.add 4) = w32.cell? (q29.add 4) ∧ True) ∧ True) ∧ (st w34 ⟨k33, 0, none⟩ (.int .u32 0) fun w35 => st w35 ⟨k33, 1, none⟩ (.int .i64 (IntKind.i64.wrap x30)) fun w36 => st w36 ⟨k33, 2, none⟩ (.string s31) fun w37 => st w37 ⟨k33, 3, none⟩ (.int .i64 0) fun w38 => st w38 ⟨k33, 4, none⟩ (.int .i64 0) fun w39 => st w39 ⟨k33, 5, none⟩ (.int .i64 0) fun w40 => st w40 ⟨k33, 6, none⟩ (.int .i64 0) fun w41 => st w41 ⟨k33, 7, none⟩ (.int .i64 0) fun w42 => J27 [(.pointer (some ⟨k33, 0, none⟩))] w42))) ∧ (nw w28 (.cells #[(.int .u32 0), (.int .i64 0), (.string ⟨#[]⟩), (.int .i64 0), (.int .i64 0), (.int .i64 0), (.int .i64 0), (.int .i64 0)] 49) fun k43 w44 => ((w44.cell? (q29.add 4) = w28.cell? (q29.add 4) ∧ True) ∧ True) ∧ (∃ (s45 : ByteArray), ∃ w46 : World, Sem.run Cz.P (convert 22 9 (.slice (slA a1 36 c3 1) (((n2 : Int)).toNat - 36) (c3 - 36))) w44 = .ok (.string s45) w46 ∧ ((w46.cell? (q29.add 4) = w44.cell? (q29.add 4) ∧ True) ∧ True) ∧ (st w46 ⟨k43, 0, none⟩ (.int .u32 0) fun w47 => st w47 ⟨k43, 1, none⟩ (.int .i64 (IntKind.i64.wrap x30)) fun w48 => st w48 ⟨k43, 2, none⟩ (.string s45) fun w49 => st w49 ⟨k43, 3, none⟩ (.int .i64 0) fun w50 => st w50 ⟨k43, 4, none⟩ (.int .i64 0) fun w51 => st w51 ⟨k43, 5, none⟩ (.int .i64 0) fun w52 => st w52 ⟨k43, 6, none⟩ (.int .i64 0) fun w53 => st w53 ⟨k43, 7, none⟩ (.int .i64 0) fun w54 => J27 [(.pointer (some ⟨k43, 0, none⟩))] w54))))))) (w10.drew)) ∧ ∀ (q55 : Addr) (w56 : World), J27 [(.pointer (some q55))] w56 → need (true && decide ((4 : Int) ≤ (c3 : Int))) (∃ (J57 : List Value → World → Prop) (m58 : List Value → World → Nat), J57 [(.int .i64 0)] w56 ∧ ∀ (x59 : Int) (w60 : World), J57 [(.int .i64 x59)] w60 → B72_l1 Rt E a1 n2 c3 k5 q55 J57 m58 x59 w60))
def B72 (a1 : Option Addr) (n2 : Nat) (c3 : Nat) (w4 : World) (Rt : Value → World → Prop) (E : List PanicEntry → World → Prop) : Prop :=
  nw w4 (.cells #[(.int .u32 0), (.int .i64 0), (.string ⟨#[]⟩), (.int .i64 0), (.int .i64 0), (.int .i64 0), (.int .i64 0), (.int .i64 0)] 49) fun k5 w6 => ifB (decide ((n2 : Int) < 36)) (B72_j1 Rt E a1 n2 c3 k5 true w6) (need (decide (0 ≤ (35 : Int)) && decide ((35 : Int) < (n2 : Int))) (nn a1 fun q7 => ∃ (x8 : Int), w6.cell? (q7.add 35) = some (.int .u8 x8) ∧ B72_j1 Rt E a1 n2 c3 k5 ((IntKind.i64.wrap x8) != (IntKind.i64.wrap ((n2 : Int) - 36))) w6))
def A72 : Ann := fun n => match n with | 0 => [(35, .one (.int .i64))] | 1 => [(7, .one (.int .i64)), (48, .one (.int .i64))] | 2 => [(7, .one (.int .i64)), (51, .one (.int .i64))] | 1000003 => [(0, .one .any)] | 2000003 => [(4, .one .adr)] | _ => []
theorem B72_eq (a1 : Option Addr) (n2 : Nat) (c3 : Nat) (w4 : World) (Rt : Value → World → Prop) (E : List PanicEntry → World → Prop) : vFn Cz A72 Tryz.f72.results.toList (bodyOf Tryz.f72) (startFr Tryz.f72.ntmps [(.slice a1 n2 c3)]) w4 (CP Rt E) = B72 a1 n2 c3 w4 Rt E := by kernel_rfl
theorem C72 {a1 : Option Addr} {n2 : Nat} {c3 : Nat} {w4 : World} {Rt : Value → World → Prop} {E : List PanicEntry → World → Prop} (h : B72 a1 n2 c3 w4 Rt E) : Calls Cz.P 72 #[(.slice a1 n2 c3)] w4 (CP Rt E) := calls_of_B (C := Cz) Cz.ok Tryz.func72 (by kernel_rfl) (B72_eq a1 n2 c3 w4 Rt E) h


end Go.Lf
end
