/- Part 15 of the lemmas that a proof leans on; no claim is made here. By an AI agent. -/
import Derived.Test.YtofhodpdfbnkiaaGreatLfD07
section
set_option linter.unusedVariables false
set_option maxRecDepth 100000
set_option maxHeartbeats 4000000
namespace Go.Lf
open Go Go.Proofs
/-! ### lessor/addr.all: function 107 -/
def B107 (a1 : Option Addr) (n2 : Nat) (c3 : Nat) (w4 : World) (Rt : Value → World → Prop) (E : List PanicEntry → World → Prop) : Prop :=
  nw w4 (.cells #[(.slice a1 n2 c3)] 23) fun k5 w6 => Rt (.func (.func 126) #[] #[(.pointer (some ⟨k5, 0, none⟩))]) w6
def A107 : Ann := fun _ => []
theorem B107_eq (a1 : Option Addr) (n2 : Nat) (c3 : Nat) (w4 : World) (Rt : Value → World → Prop) (E : List PanicEntry → World → Prop) : vFn Cz A107 Tryz.f107.results.toList (bodyOf Tryz.f107) (startFr Tryz.f107.ntmps [(.slice a1 n2 c3)]) w4 (CP Rt E) = B107 a1 n2 c3 w4 Rt E := by kernel_rfl
theorem C107 {a1 : Option Addr} {n2 : Nat} {c3 : Nat} {w4 : World} {Rt : Value → World → Prop} {E : List PanicEntry → World → Prop} (h : B107 a1 n2 c3 w4 Rt E) : Calls Cz.P 107 #[(.slice a1 n2 c3)] w4 (CP Rt E) := calls_of_B (C := Cz) Cz.ok Tryz.func107 (by kernel_rfl) (B107_eq a1 n2 c3 w4 Rt E) h


end Go.Lf
end

section
set_option linter.unusedVariables false
set_option maxRecDepth 100000
set_option maxHeartbeats 4000000
namespace Go.Lf
open Go Go.Proofs
/-! ### lessor/frame.frames: function 108 -/
def B108 (a1 : Option Addr) (n2 : Nat) (c3 : Nat) (w4 : World) (Rt : Value → World → Prop) (E : List PanicEntry → World → Prop) : Prop :=
  nw w4 (.cells #[(.slice a1 n2 c3)] 22) fun k5 w6 => Rt (.func (.func 127) #[] #[(.pointer (some ⟨k5, 0, none⟩))]) w6
def A108 : Ann := fun _ => []
theorem B108_eq (a1 : Option Addr) (n2 : Nat) (c3 : Nat) (w4 : World) (Rt : Value → World → Prop) (E : List PanicEntry → World → Prop) : vFn Cz A108 Tryz.f108.results.toList (bodyOf Tryz.f108) (startFr Tryz.f108.ntmps [(.slice a1 n2 c3)]) w4 (CP Rt E) = B108 a1 n2 c3 w4 Rt E := by kernel_rfl
theorem C108 {a1 : Option Addr} {n2 : Nat} {c3 : Nat} {w4 : World} {Rt : Value → World → Prop} {E : List PanicEntry → World → Prop} (h : B108 a1 n2 c3 w4 Rt E) : Calls Cz.P 108 #[(.slice a1 n2 c3)] w4 (CP Rt E) := calls_of_B (C := Cz) Cz.ok Tryz.func108 (by kernel_rfl) (B108_eq a1 n2 c3 w4 Rt E) h


end Go.Lf
end

section
set_option linter.unusedVariables false
set_option maxRecDepth 100000
set_option maxHeartbeats 4000000
namespace Go.Lf
open Go Go.Proofs
/-! ### (*lessor/disk.Disk).Swap$1: function 109 -/
def B109 (q1 : Addr) (q2 : Addr) (w3 : World) (Rt : Value → World → Prop) (E : List PanicEntry → World → Prop) : Prop :=
  (fun w4 : World => ∃ (p5 : Option Addr), w4.cell? q2 = some (.pointer p5) ∧ ∃ (p6 : Option Addr), w4.cell? q2 = some (.pointer p6) ∧ ∃ (a7 : Option Addr) (n8 : Nat) (c9 : Nat), w4.cell? q1 = some (.slice a7 n8 c9) ∧ ∃ (a10 : Option Addr) (n11 : Nat) (c12 : Nat), w4.cell? q1 = some (.slice a10 n11 c12) ∧ (∃ (a13 : Option Addr) (n14 : Nat) (c15 : Nat), ∃ w16 : World, Sem.run Cz.P (Instr.buildSlice 56 1 #[(0, (.slice a7 n8 c9))]) w4 = .ok (.slice a13 n14 c15) w16 ∧ ((w16.cell? q1 = w4.cell? q1 ∧ True) ∧ (w16.cell? q2 = w4.cell? q2 ∧ True) ∧ (w16.cell? q2 = w4.cell? q2 ∧ True) ∧ True) ∧ (Calls Cz.P 35 #[(.slice a13 n14 c15)] w16 (CP (fun r21 w20 => ∃ (a17 : Option Addr) (n18 : Nat) (c19 : Nat), r21 = (.slice a17 n18 c19) ∧ ((w20.cell? q1 = w16.cell? q1 ∧ True) ∧ (w20.cell? q2 = w16.cell? q2 ∧ True) ∧ (w20.cell? q2 = w16.cell? q2 ∧ True) ∧ True) ∧ nn p5 fun q22 => (st w20 (q22.add 1) (.slice a17 n18 c19) fun w23 => ((w23.cell? q1 = w20.cell? q1 ∧ True) ∧ (w23.cell? q2 = w20.cell? q2 ∧ True) ∧ True) ∧ nn p6 fun q24 => (st w23 (q24.add 2) (.int .i64 (n11 : Int)) fun w25 => Rt (.tuple #[]) w25))) (fun _ _ => False))))) (w3.drew)
def A109 : Ann := fun _ => []
theorem B109_eq (q1 : Addr) (q2 : Addr) (w3 : World) (Rt : Value → World → Prop) (E : List PanicEntry → World → Prop) : vFn Cz A109 Tryz.f109.results.toList (bodyOf Tryz.f109) (startFr Tryz.f109.ntmps [(.pointer (some q1)), (.pointer (some q2))]) w3 (CP Rt E) = B109 q1 q2 w3 Rt E := by kernel_rfl
theorem C109 {q1 : Addr} {q2 : Addr} {w3 : World} {Rt : Value → World → Prop} {E : List PanicEntry → World → Prop} (h : B109 q1 q2 w3 Rt E) : Calls Cz.P 109 #[(.pointer (some q1)), (.pointer (some q2))] w3 (CP Rt E) := calls_of_B (C := Cz) Cz.ok Tryz.func109 (by kernel_rfl) (B109_eq q1 q2 w3 Rt E) h


end Go.Lf
end

section
set_option linter.unusedVariables false
set_option maxRecDepth 100000
set_option maxHeartbeats 4000000
namespace Go.Lf
open Go Go.Proofs
/-! ### lessor/lessorref01.next: function 110 -/
def B110_j2 (J6 : List Value → World → Prop) (m7 : List Value → World → Nat) (x8 : Int) (x9 : Int) (w10 : World) (x17 : Int) (w18 : World) : Prop :=
  J6 [(.int .i64 x17), (.int .i64 (IntKind.i64.wrap (x9 + 1)))] w18 ∧ m7 [(.int .i64 x17), (.int .i64 (IntKind.i64.wrap (x9 + 1)))] w18 < m7 [(.int .i64 x8), (.int .i64 x9)] w10
def B110_j1 (x4 : Int) (J6 : List Value → World → Prop) (m7 : List Value → World → Nat) (x8 : Int) (x9 : Int) (w10 : World) (x12 : Int) (b15 : Bool) (w16 : World) : Prop :=
  ifB b15 (B110_j2 J6 m7 x8 x9 w10 (if x4 > (IntKind.i64.wrap x12) then x4 else (IntKind.i64.wrap x12)) w16) (B110_j2 J6 m7 x8 x9 w10 x8 w16)
def B110_l1 (Rt : Value → World → Prop) (a1 : Option Addr) (n2 : Nat) (x4 : Int) (J6 : List Value → World → Prop) (m7 : List Value → World → Nat) (x8 : Int) (x9 : Int) (w10 : World) : Prop :=
  ifB (decide (x9 < (n2 : Int))) (need (decide (0 ≤ x9) && decide (x9 < (n2 : Int))) (nn a1 fun q11 => ∃ (x12 : Int), w10.cell? (q11.add ((x9).toNat * 2)) = some (.int .u32 x12) ∧ need (decide (0 ≤ x9) && decide (x9 < (n2 : Int))) (nn a1 fun q13 => ∃ (x14 : Int), w10.cell? ((q13.add ((x9).toNat * 2)).add 1) = some (.int .u32 x14) ∧ ifB (decide ((if x4 > (IntKind.i64.wrap x12) then x4 else (IntKind.i64.wrap x12)) ≤ (IntKind.i64.wrap x14))) (ifB (decide (x8 < 0)) (B110_j1 x4 J6 m7 x8 x9 w10 x12 true w10) (B110_j1 x4 J6 m7 x8 x9 w10 x12 (decide ((if x4 > (IntKind.i64.wrap x12) then x4 else (IntKind.i64.wrap x12)) < x8)) w10)) (B110_j1 x4 J6 m7 x8 x9 w10 x12 false w10)))) (Rt (.int .i64 x8) w10)
def B110 (a1 : Option Addr) (n2 : Nat) (c3 : Nat) (x4 : Int) (w5 : World) (Rt : Value → World → Prop) (E : List PanicEntry → World → Prop) : Prop :=
  ∃ (J6 : List Value → World → Prop) (m7 : List Value → World → Nat), J6 [(.int .i64 (-1)), (.int .i64 0)] w5 ∧ ∀ (x8 : Int) (x9 : Int) (w10 : World), J6 [(.int .i64 x8), (.int .i64 x9)] w10 → B110_l1 Rt a1 n2 x4 J6 m7 x8 x9 w10
def A110 : Ann := fun n => match n with | 0 => [(5, .one (.int .i64)), (6, .one (.int .i64))] | _ => []
theorem B110_eq (a1 : Option Addr) (n2 : Nat) (c3 : Nat) (x4 : Int) (w5 : World) (Rt : Value → World → Prop) (E : List PanicEntry → World → Prop) : vFn Cz A110 Tryz.f110.results.toList (bodyOf Tryz.f110) (startFr Tryz.f110.ntmps [(.slice a1 n2 c3), (.int .i64 x4)]) w5 (CP Rt E) = B110 a1 n2 c3 x4 w5 Rt E := by kernel_rfl
theorem C110 {a1 : Option Addr} {n2 : Nat} {c3 : Nat} {x4 : Int} {w5 : World} {Rt : Value → World → Prop} {E : List PanicEntry → World → Prop} (h : B110 a1 n2 c3 x4 w5 Rt E) : Calls Cz.P 110 #[(.slice a1 n2 c3), (.int .i64 x4)] w5 (CP Rt E) := calls_of_B (C := Cz) Cz.ok Tryz.func110 (by kernel_rfl) (B110_eq a1 n2 c3 x4 w5 Rt E) h


end Go.Lf
end

section
set_option linter.unusedVariables false
set_option maxRecDepth 100000
set_option maxHeartbeats 4000000
namespace Go.Lf
open Go Go.Proofs
/-! ### lessor/lessorref01.has: function 111 -/
def B111_j1 (Rt : Value → World → Prop) (J6 : List Value → World → Prop) (m7 : List Value → World → Nat) (x8 : Int) (w9 : World) (b14 : Bool) (w15 : World) : Prop :=
  ifB b14 (Rt (.bool true) w15) (J6 [(.int .i64 (IntKind.i64.wrap (x8 + 1)))] w15 ∧ m7 [(.int .i64 (IntKind.i64.wrap (x8 + 1)))] w15 < m7 [(.int .i64 x8)] w9)
def B111_l1 (Rt : Value → World → Prop) (a1 : Option Addr) (n2 : Nat) (x4 : Int) (J6 : List Value → World → Prop) (m7 : List Value → World → Nat) (x8 : Int) (w9 : World) : Prop :=
  ifB (decide (x8 < (n2 : Int))) (need (decide (0 ≤ x8) && decide (x8 < (n2 : Int))) (nn a1 fun q10 => ∃ (x11 : Int), w9.cell? (q10.add ((x8).toNat * 2)) = some (.int .u32 x11) ∧ ifB (decide (x4 ≥ (IntKind.i64.wrap x11))) (need (decide (0 ≤ x8) && decide (x8 < (n2 : Int))) (nn a1 fun q12 => ∃ (x13 : Int), w9.cell? ((q12.add ((x8).toNat * 2)).add 1) = some (.int .u32 x13) ∧ B111_j1 Rt J6 m7 x8 w9 (decide (x4 ≤ (IntKind.i64.wrap x13))) w9)) (B111_j1 Rt J6 m7 x8 w9 false w9))) (Rt (.bool false) w9)
def B111 (a1 : Option Addr) (n2 : Nat) (c3 : Nat) (x4 : Int) (w5 : World) (Rt : Value → World → Prop) (E : List PanicEntry → World → Prop) : Prop :=
  ∃ (J6 : List Value → World → Prop) (m7 : List Value → World → Nat), J6 [(.int .i64 0)] w5 ∧ ∀ (x8 : Int) (w9 : World), J6 [(.int .i64 x8)] w9 → B111_l1 Rt a1 n2 x4 J6 m7 x8 w9
def A111 : Ann := fun n => match n with | 0 => [(5, .one (.int .i64))] | _ => []
theorem B111_eq (a1 : Option Addr) (n2 : Nat) (c3 : Nat) (x4 : Int) (w5 : World) (Rt : Value → World → Prop) (E : List PanicEntry → World → Prop) : vFn Cz A111 Tryz.f111.results.toList (bodyOf Tryz.f111) (startFr Tryz.f111.ntmps [(.slice a1 n2 c3), (.int .i64 x4)]) w5 (CP Rt E) = B111 a1 n2 c3 x4 w5 Rt E := by kernel_rfl
theorem C111 {a1 : Option Addr} {n2 : Nat} {c3 : Nat} {x4 : Int} {w5 : World} {Rt : Value → World → Prop} {E : List PanicEntry → World → Prop} (h : B111 a1 n2 c3 x4 w5 Rt E) : Calls Cz.P 111 #[(.slice a1 n2 c3), (.int .i64 x4)] w5 (CP Rt E) := calls_of_B (C := Cz) Cz.ok Tryz.func111 (by kernel_rfl) (B111_eq a1 n2 c3 x4 w5 Rt E) h


end Go.Lf
end

section
set_option linter.unusedVariables false
set_option maxRecDepth 100000
set_option maxHeartbeats 4000000
namespace Go.Lf
open Go Go.Proofs
/-! ### lessor/lessorref11.of: function 112 -/
def B112_l1 (Rt : Value → World → Prop) (a1 : Option Addr) (n2 : Nat) (J5 : List Value → World → Prop) (m6 : List Value → World → Nat) (x7 : Int) (x8 : Int) (w9 : World) : Prop :=
  ifB (decide (x8 < (n2 : Int))) (need (decide (0 ≤ x8) && decide (x8 < (n2 : Int))) (nn a1 fun q10 => ∃ (x11 : Int), w9.cell? (q10.add ((x8).toNat * 1)) = some (.int .u8 x11) ∧ J5 [(.int .i64 (IntKind.i64.wrap ((IntKind.i64.wrap (x7 * 256)) + (IntKind.i64.wrap x11)))), (.int .i64 (IntKind.i64.wrap (x8 + 1)))] w9 ∧ m6 [(.int .i64 (IntKind.i64.wrap ((IntKind.i64.wrap (x7 * 256)) + (IntKind.i64.wrap x11)))), (.int .i64 (IntKind.i64.wrap (x8 + 1)))] w9 < m6 [(.int .i64 x7), (.int .i64 x8)] w9)) (Rt (.int .i64 x7) w9)
def B112 (a1 : Option Addr) (n2 : Nat) (c3 : Nat) (w4 : World) (Rt : Value → World → Prop) (E : List PanicEntry → World → Prop) : Prop :=
  ∃ (J5 : List Value → World → Prop) (m6 : List Value → World → Nat), J5 [(.int .i64 0), (.int .i64 0)] w4 ∧ ∀ (x7 : Int) (x8 : Int) (w9 : World), J5 [(.int .i64 x7), (.int .i64 x8)] w9 → B112_l1 Rt a1 n2 J5 m6 x7 x8 w9
def A112 : Ann := fun n => match n with | 0 => [(3, .one (.int .i64)), (4, .one (.int .i64))] | _ => []
theorem B112_eq (a1 : Option Addr) (n2 : Nat) (c3 : Nat) (w4 : World) (Rt : Value → World → Prop) (E : List PanicEntry → World → Prop) : vFn Cz A112 Tryz.f112.results.toList (bodyOf Tryz.f112) (startFr Tryz.f112.ntmps [(.slice a1 n2 c3)]) w4 (CP Rt E) = B112 a1 n2 c3 w4 Rt E := by kernel_rfl
theorem C112 {a1 : Option Addr} {n2 : Nat} {c3 : Nat} {w4 : World} {Rt : Value → World → Prop} {E : List PanicEntry → World → Prop} (h : B112 a1 n2 c3 w4 Rt E) : Calls Cz.P 112 #[(.slice a1 n2 c3)] w4 (CP Rt E) := calls_of_B (C := Cz) Cz.ok Tryz.func112 (by kernel_rfl) (B112_eq a1 n2 c3 w4 Rt E) h


end Go.Lf
end

section
set_option linter.unusedVariables false
set_option maxRecDepth 100000
set_option maxHeartbeats 4000000
namespace Go.Lf
open Go Go.Proofs
/-! ### lessor/lessorref11.Encode: function 113 -/
def B113 (x1 : Int) (x2 : Int) (s3 : ByteArray) (x4 : Int) (x5 : Int) (x6 : Int) (x7 : Int) (x8 : Int) (w9 : World) (Rt : Value → World → Prop) (E : List PanicEntry → World → Prop) : Prop :=
  nw w9 (.cells #[(.int .u32 x1), (.int .i64 x2), (.string s3), (.int .i64 x4), (.int .i64 x5), (.int .i64 x6), (.int .i64 x7), (.int .i64 x8)] 49) fun k10 w11 => ∃ (x12 : Int) (x13 : Int) (s14 : ByteArray) (x15 : Int) (x16 : Int) (x17 : Int) (x18 : Int) (x19 : Int), (w11.cell? ⟨k10, 0, none⟩ = some (.int .u32 x12) ∧ w11.cell? ⟨k10, 1, none⟩ = some (.int .i64 x13) ∧ w11.cell? ⟨k10, 2, none⟩ = some (.string s14) ∧ w11.cell? ⟨k10, 3, none⟩ = some (.int .i64 x15) ∧ w11.cell? ⟨k10, 4, none⟩ = some (.int .i64 x16) ∧ w11.cell? ⟨k10, 5, none⟩ = some (.int .i64 x17) ∧ w11.cell? ⟨k10, 6, none⟩ = some (.int .i64 x18) ∧ w11.cell? ⟨k10, 7, none⟩ = some (.int .i64 x19) ∧ True) ∧ Calls Cz.P 82 #[(.agg #[(.int .u32 x12), (.int .i64 x13), (.string s14), (.int .i64 x15), (.int .i64 x16), (.int .i64 x17), (.int .i64 x18), (.int .i64 x19)])] w11 (CP (fun r22 w21 => ∃ (b20 : Bool), r22 = (.bool b20) ∧ ifB (!b20) (Rt (.tuple #[(.slice none 0 0), (.int .i64 1)]) w21) ((fun w23 : World => ∃ (x24 : Int), w23.cell? ⟨k10, 0, none⟩ = some (.int .u32 x24) ∧ ∃ (x25 : Int), w23.cell? ⟨k10, 1, none⟩ = some (.int .i64 x25) ∧ (Calls Cz.P 129 #[(.int .i64 (IntKind.i64.wrap x24)), (.int .i64 4)] w23 (CP (fun r30 w29 => ∃ (a26 : Option Addr) (n27 : Nat) (c28 : Nat), r30 = (.slice a26 n27 c28) ∧ ((w29.cell? ⟨k10, 1, none⟩ = w23.cell? ⟨k10, 1, none⟩ ∧ True) ∧ True) ∧ (∃ (a31 : Option Addr) (n32 : Nat) (c33 : Nat), ∃ w34 : World, Sem.run Cz.P (Instr.buildSlice 22 1 #[(0, (.int .u8 (IntKind.u8.wrap x25)))]) w29 = .ok (.slice a31 n32 c33) w34 ∧ (∃ (a35 : Option Addr) (n36 : Nat) (c37 : Nat), ∃ w38 : World, Sem.run Cz.P (Builtin.append_ #[22, 22] 22 #[(.slice a26 n27 c28), (.slice a31 n32 c33)]) w34 = .ok (.slice a35 n36 c37) w38 ∧ ∃ (x39 : Int), w38.cell? ⟨k10, 3, none⟩ = some (.int .i64 x39) ∧ Calls Cz.P 129 #[(.int .i64 x39), (.int .i64 6)] w38 (CP (fun r44 w43 => ∃ (a40 : Option Addr) (n41 : Nat) (c42 : Nat), r44 = (.slice a40 n41 c42) ∧ ∃ (a45 : Option Addr) (n46 : Nat) (c47 : Nat), ∃ w48 : World, Sem.run Cz.P (Builtin.append_ #[22, 22] 22 #[(.slice a35 n36 c37), (.slice a40 n41 c42)]) w43 = .ok (.slice a45 n46 c47) w48 ∧ ∃ (x49 : Int), w48.cell? ⟨k10, 4, none⟩ = some (.int .i64 x49) ∧ Calls Cz.P 129 #[(.int .i64 x49), (.int .i64 6)] w48 (CP (fun r54 w53 => ∃ (a50 : Option Addr) (n51 : Nat) (c52 : Nat), r54 = (.slice a50 n51 c52) ∧ ∃ (a55 : Option Addr) (n56 : Nat) (c57 : Nat), ∃ w58 : World, Sem.run Cz.P (Builtin.append_ #[22, 22] 22 #[(.slice a45 n46 c47), (.slice a50 n51 c52)]) w53 = .ok (.slice a55 n56 c57) w58 ∧ ∃ (x59 : Int), w58.cell? ⟨k10, 5, none⟩ = some (.int .i64 x59) ∧ Calls Cz.P 129 #[(.int .i64 x59), (.int .i64 6)] w58 (CP (fun r64 w63 => ∃ (a60 : Option Addr) (n61 : Nat) (c62 : Nat), r64 = (.slice a60 n61 c62) ∧ ∃ (a65 : Option Addr) (n66 : Nat) (c67 : Nat), ∃ w68 : World, Sem.run Cz.P (Builtin.append_ #[22, 22] 22 #[(.slice a55 n56 c57), (.slice a60 n61 c62)]) w63 = .ok (.slice a65 n66 c67) w68 ∧ ∃ (x69 : Int), w68.cell? ⟨k10, 6, none⟩ = some (.int .i64 x69) ∧ Calls Cz.P 129 #[(.int .i64 x69), (.int .i64 6)] w68 (CP (fun r74 w73 => ∃ (a70 : Option Addr) (n71 : Nat) (c72 : Nat), r74 = (.slice a70 n71 c72) ∧ ∃ (a75 : Option Addr) (n76 : Nat) (c77 : Nat), ∃ w78 : World, Sem.run Cz.P (Builtin.append_ #[22, 22] 22 #[(.slice a65 n66 c67), (.slice a70 n71 c72)]) w73 = .ok (.slice a75 n76 c77) w78 ∧ ∃ (x79 : Int), w78.cell? ⟨k10, 7, none⟩ = some (.int .i64 x79) ∧ Calls Cz.P 129 #[(.int .i64 x79), (.int .i64 6)] w78 (CP (fun r84 w83 => ∃ (a80 : Option Addr) (n81 : Nat) (c82 : Nat), r84 = (.slice a80 n81 c82) ∧ ∃ (a85 : Option Addr) (n86 : Nat) (c87 : Nat), ∃ w88 : World, Sem.run Cz.P (Builtin.append_ #[22, 22] 22 #[(.slice a75 n76 c77), (.slice a80 n81 c82)]) w83 = .ok (.slice a85 n86 c87) w88 ∧ ∃ (s89 : ByteArray), w88.cell? ⟨k10, 2, none⟩ = some (.string s89) ∧ ∃ (a90 : Option Addr) (n91 : Nat) (c92 : Nat), ∃ w93 : World, Sem.run Cz.P (Instr.buildSlice 22 1 #[(0, (.int .u8 (IntKind.u8.wrap (s89.size : Int))))]) w88 = .ok (.slice a90 n91 c92) w93 ∧ ∃ (a94 : Option Addr) (n95 : Nat) (c96 : Nat), ∃ w97 : World, Sem.run Cz.P (Builtin.append_ #[22, 22] 22 #[(.slice a85 n86 c87), (.slice a90 n91 c92)]) w93 = .ok (.slice a94 n95 c96) w97 ∧ ∃ (s98 : ByteArray), w97.cell? ⟨k10, 2, none⟩ = some (.string s98) ∧ ∃ (a99 : Option Addr) (n100 : Nat) (c101 : Nat), ∃ w102 : World, Sem.run Cz.P (Builtin.append_ #[22, 9] 22 #[(.slice a94 n95 c96), (.string s98)]) w97 = .ok (.slice a99 n100 c101) w102 ∧ Rt (.tuple #[(.slice a99 n100 c101), (.int .i64 0)]) w102) E)) E)) E)) E)) E)))) (fun _ _ => False))) ∧ (∃ (a103 : Option Addr) (n104 : Nat) (c105 : Nat), ∃ w106 : World, Sem.run Cz.P (Instr.buildSlice 22 1 #[(0, (.int .u8 (IntKind.u8.wrap x25)))]) w23 = .ok (.slice a103 n104 c105) w106 ∧ ((w106.cell? ⟨k10, 0, none⟩ = w23.cell? ⟨k10, 0, none⟩ ∧ True) ∧ True) ∧ (Calls Cz.P 129 #[(.int .i64 (IntKind.i64.wrap x24)), (.int .i64 4)] w106 (CP (fun r111 w110 => ∃ (a107 : Option Addr) (n108 : Nat) (c109 : Nat), r111 = (.slice a107 n108 c109) ∧ (∃ (a112 : Option Addr) (n113 : Nat) (c114 : Nat), ∃ w115 : World, Sem.run Cz.P (Builtin.append_ #[22, 22] 22 #[(.slice a107 n108 c109), (.slice a103 n104 c105)]) w110 = .ok (.slice a112 n113 c114) w115 ∧ ∃ (x116 : Int), w115.cell? ⟨k10, 3, none⟩ = some (.int .i64 x116) ∧ Calls Cz.P 129 #[(.int .i64 x116), (.int .i64 6)] w115 (CP (fun r121 w120 => ∃ (a117 : Option Addr) (n118 : Nat) (c119 : Nat), r121 = (.slice a117 n118 c119) ∧ ∃ (a122 : Option Addr) (n123 : Nat) (c124 : Nat), ∃ w125 : World, Sem.run Cz.P (Builtin.append_ #[22, 22] 22 #[(.slice a112 n113 c114), (.slice a117 n118 c119)]) w120 = .ok (.slice a122 n123 c124) w125 ∧ ∃ (x126 : Int), w125.cell? ⟨k10, 4, none⟩ = some (.int .i64 x126) ∧ Calls Cz.P 129 #[(.int .i64 x126), (.int .i64 6)] w125 (CP (fun r131 w130 => ∃ (a127 : Option Addr) (n128 : Nat) (c129 : Nat), r131 = (.slice a127 n128 c129) ∧ ∃ (a132 : Option Addr) (n133 : Nat) (c134 : Nat), ∃ w135 : World, Sem.run Cz.P (Builtin.append_ #[22, 22] 22 #[(.slice a122 n123 c124), (.slice a127 n128 c129)]) w130 = .ok (.slice a132 n133 c134) w135 ∧ ∃ (x136 : Int), w135.cell? ⟨k10, 5, none⟩ = some (.int .i64 x136) ∧ Calls Cz.P 129 #[(.int .i64 x136), (.int .i64 6)] w135 (CP (fun r141 w140 => ∃ (a137 : Option Addr) (n138 : Nat) (c139 : Nat), r141 = (.slice a137 n138 c139) ∧ ∃ (a142 : Option Addr) (n143 : Nat) (c144 : Nat), ∃ w145 : World, Sem.run Cz.P (Builtin.append_ #[22, 22] 22 #[(.slice a132 n133 c134), (.slice a137 n138 c139)]) w140 = .ok (.slice a142 n143 c144) w145 ∧ ∃ (x146 : Int), w145.cell? ⟨k10, 6, none⟩ = some (.int .i64 x146) ∧ Calls Cz.P 129 #[(.int .i64 x146), (.int .i64 6)] w145 (CP (fun r151 w150 => ∃ (a147 : Option Addr) (n148 : Nat) (c149 : Nat), r151 = (.slice a147 n148 c149) ∧ ∃ (a152 : Option Addr) (n153 : Nat) (c154 : Nat), ∃ w155 : World, Sem.run Cz.P (Builtin.append_ #[22, 22] 22 #[(.slice a142 n143 c144), (.slice a147 n148 c149)]) w150 = .ok (.slice a152 n153 c154) w155 ∧ ∃ (x156 : Int), w155.cell? ⟨k10, 7, none⟩ = some (.int .i64 x156) ∧ Calls Cz.P 129 #[(.int .i64 x156), (.int .i64 6)] w155 (CP (fun r161 w160 => ∃ (a157 : Option Addr) (n158 : Nat) (c159 : Nat), r161 = (.slice a157 n158 c159) ∧ ∃ (a162 : Option Addr) (n163 : Nat) (c164 : Nat), ∃ w165 : World, Sem.run Cz.P (Builtin.append_ #[22, 22] 22 #[(.slice a152 n153 c154), (.slice a157 n158 c159)]) w160 = .ok (.slice a162 n163 c164) w165 ∧ ∃ (s166 : ByteArray), w165.cell? ⟨k10, 2, none⟩ = some (.string s166) ∧ ∃ (a167 : Option Addr) (n168 : Nat) (c169 : Nat), ∃ w170 : World, Sem.run Cz.P (Instr.buildSlice 22 1 #[(0, (.int .u8 (IntKind.u8.wrap (s166.size : Int))))]) w165 = .ok (.slice a167 n168 c169) w170 ∧ ∃ (a171 : Option Addr) (n172 : Nat) (c173 : Nat), ∃ w174 : World, Sem.run Cz.P (Builtin.append_ #[22, 22] 22 #[(.slice a162 n163 c164), (.slice a167 n168 c169)]) w170 = .ok (.slice a171 n172 c173) w174 ∧ ∃ (s175 : ByteArray), w174.cell? ⟨k10, 2, none⟩ = some (.string s175) ∧ ∃ (a176 : Option Addr) (n177 : Nat) (c178 : Nat), ∃ w179 : World, Sem.run Cz.P (Builtin.append_ #[22, 9] 22 #[(.slice a171 n172 c173), (.string s175)]) w174 = .ok (.slice a176 n177 c178) w179 ∧ Rt (.tuple #[(.slice a176 n177 c178), (.int .i64 0)]) w179) E)) E)) E)) E)) E))) (fun _ _ => False))))) (w21.drew))) E)
def A113 : Ann := fun _ => []
theorem B113_eq (x1 : Int) (x2 : Int) (s3 : ByteArray) (x4 : Int) (x5 : Int) (x6 : Int) (x7 : Int) (x8 : Int) (w9 : World) (Rt : Value → World → Prop) (E : List PanicEntry → World → Prop) : vFn Cz A113 Tryz.f113.results.toList (bodyOf Tryz.f113) (startFr Tryz.f113.ntmps [(.agg #[(.int .u32 x1), (.int .i64 x2), (.string s3), (.int .i64 x4), (.int .i64 x5), (.int .i64 x6), (.int .i64 x7), (.int .i64 x8)])]) w9 (CP Rt E) = B113 x1 x2 s3 x4 x5 x6 x7 x8 w9 Rt E := by kernel_rfl
theorem C113 {x1 : Int} {x2 : Int} {s3 : ByteArray} {x4 : Int} {x5 : Int} {x6 : Int} {x7 : Int} {x8 : Int} {w9 : World} {Rt : Value → World → Prop} {E : List PanicEntry → World → Prop} (h : B113 x1 x2 s3 x4 x5 x6 x7 x8 w9 Rt E) : Calls Cz.P 113 #[(.agg #[(.int .u32 x1), (.int .i64 x2), (.string s3), (.int .i64 x4), (.int .i64 x5), (.int .i64 x6), (.int .i64 x7), (.int .i64 x8)])] w9 (CP Rt E) := calls_of_B (C := Cz) Cz.ok Tryz.func113 (by kernel_rfl) (B113_eq x1 x2 s3 x4 x5 x6 x7 x8 w9 Rt E) h


end Go.Lf
end

section
set_option linter.unusedVariables false
set_option maxRecDepth 100000
set_option maxHeartbeats 4000000
namespace Go.Lf
open Go Go.Proofs
/-! ### (*lessor/lessorref12.Table).find: function 114 -/
def B114_l1 (Rt : Value → World → Prop) (p1 : Option Addr) (x2 : Int) (J4 : List Value → World → Prop) (m5 : List Value → World → Nat) (x6 : Int) (w7 : World) : Prop :=
  nn p1 fun q8 => ∃ (a9 : Option Addr) (n10 : Nat) (c11 : Nat), w7.cell? q8 = some (.slice a9 n10 c11) ∧ ifB (decide (x6 < (n10 : Int))) (nn p1 fun q12 => ∃ (a13 : Option Addr) (n14 : Nat) (c15 : Nat), w7.cell? q12 = some (.slice a13 n14 c15) ∧ need (decide (0 ≤ x6) && decide (x6 < (n14 : Int))) (nn a13 fun q16 => ∃ (x17 : Int), w7.cell? (q16.add ((x6).toNat * 8)) = some (.int .u32 x17) ∧ ifB (x17 == x2) (Rt (.int .i64 x6) w7) (J4 [(.int .i64 (IntKind.i64.wrap (x6 + 1)))] w7 ∧ m5 [(.int .i64 (IntKind.i64.wrap (x6 + 1)))] w7 < m5 [(.int .i64 x6)] w7))) (Rt (.int .i64 (-1)) w7)
def B114 (p1 : Option Addr) (x2 : Int) (w3 : World) (Rt : Value → World → Prop) (E : List PanicEntry → World → Prop) : Prop :=
  ∃ (J4 : List Value → World → Prop) (m5 : List Value → World → Nat), J4 [(.int .i64 0)] w3 ∧ ∀ (x6 : Int) (w7 : World), J4 [(.int .i64 x6)] w7 → B114_l1 Rt p1 x2 J4 m5 x6 w7
def A114 : Ann := fun n => match n with | 0 => [(5, .one (.int .i64))] | _ => []
theorem B114_eq (p1 : Option Addr) (x2 : Int) (w3 : World) (Rt : Value → World → Prop) (E : List PanicEntry → World → Prop) : vFn Cz A114 Tryz.f114.results.toList (bodyOf Tryz.f114) (startFr Tryz.f114.ntmps [(.pointer p1), (.int .u32 x2)]) w3 (CP Rt E) = B114 p1 x2 w3 Rt E := by kernel_rfl
theorem C114 {p1 : Option Addr} {x2 : Int} {w3 : World} {Rt : Value → World → Prop} {E : List PanicEntry → World → Prop} (h : B114 p1 x2 w3 Rt E) : Calls Cz.P 114 #[(.pointer p1), (.int .u32 x2)] w3 (CP Rt E) := calls_of_B (C := Cz) Cz.ok Tryz.func114 (by kernel_rfl) (B114_eq p1 x2 w3 Rt E) h


end Go.Lf
end

section
set_option linter.unusedVariables false
set_option maxRecDepth 100000
set_option maxHeartbeats 4000000
namespace Go.Lf
open Go Go.Proofs
/-! ### lessor/lessorref11.time: function 115 -/
def B115_j1 (Rt : Value → World → Prop) (b3 : Bool) (w4 : World) : Prop :=
  Rt (.bool b3) w4
def B115 (x1 : Int) (w2 : World) (Rt : Value → World → Prop) (E : List PanicEntry → World → Prop) : Prop :=
  ifB (decide (x1 ≥ 0)) (B115_j1 Rt (decide (x1 ≤ 1099511627776)) w2) (B115_j1 Rt false w2)
def A115 : Ann := fun _ => []
theorem B115_eq (x1 : Int) (w2 : World) (Rt : Value → World → Prop) (E : List PanicEntry → World → Prop) : vFn Cz A115 Tryz.f115.results.toList (bodyOf Tryz.f115) (startFr Tryz.f115.ntmps [(.int .i64 x1)]) w2 (CP Rt E) = B115 x1 w2 Rt E := by kernel_rfl
theorem C115 {x1 : Int} {w2 : World} {Rt : Value → World → Prop} {E : List PanicEntry → World → Prop} (h : B115 x1 w2 Rt E) : Calls Cz.P 115 #[(.int .i64 x1)] w2 (CP Rt E) := calls_of_B (C := Cz) Cz.ok Tryz.func115 (by kernel_rfl) (B115_eq x1 w2 Rt E) h


end Go.Lf
end

section
set_option linter.unusedVariables false
set_option maxRecDepth 100000
set_option maxHeartbeats 4000000
namespace Go.Lf
open Go Go.Proofs
/-! ### (*lessor/lessorref10.Log).Append: function 116 -/
def B116 (p1 : Option Addr) (a2 : Option Addr) (n3 : Nat) (c4 : Nat) (w5 : World) (Rt : Value → World → Prop) (E : List PanicEntry → World → Prop) : Prop :=
  Calls Cz.P 117 #[(.slice a2 n3 c4)] w5 (CP (fun r11 w10 => ∃ (a6 : Option Addr) (n7 : Nat) (c8 : Nat) (x9 : Int), r11 = (.tuple #[(.slice a6 n7 c8), (.int .i64 x9)]) ∧ ifB (x9 != 0) (Rt (.int .i64 x9) w10) (nn p1 fun q12 => ∃ (p13 : Option Addr), w10.cell? q12 = some (.pointer p13) ∧ Calls Cz.P 12 #[(.pointer p13), (.slice a6 n7 c8)] w10 (CP (fun r16 w15 => ∃ (x14 : Int), r16 = (.int .i64 x14) ∧ Rt (.int .i64 x14) w15) E))) E)
def A116 : Ann := fun _ => []
theorem B116_eq (p1 : Option Addr) (a2 : Option Addr) (n3 : Nat) (c4 : Nat) (w5 : World) (Rt : Value → World → Prop) (E : List PanicEntry → World → Prop) : vFn Cz A116 Tryz.f116.results.toList (bodyOf Tryz.f116) (startFr Tryz.f116.ntmps [(.pointer p1), (.slice a2 n3 c4)]) w5 (CP Rt E) = B116 p1 a2 n3 c4 w5 Rt E := by kernel_rfl
theorem C116 {p1 : Option Addr} {a2 : Option Addr} {n3 : Nat} {c4 : Nat} {w5 : World} {Rt : Value → World → Prop} {E : List PanicEntry → World → Prop} (h : B116 p1 a2 n3 c4 w5 Rt E) : Calls Cz.P 116 #[(.pointer p1), (.slice a2 n3 c4)] w5 (CP Rt E) := calls_of_B (C := Cz) Cz.ok Tryz.func116 (by kernel_rfl) (B116_eq p1 a2 n3 c4 w5 Rt E) h


end Go.Lf
end

section
set_option linter.unusedVariables false
set_option maxRecDepth 100000
set_option maxHeartbeats 4000000
namespace Go.Lf
open Go Go.Proofs
/-! ### lessor/lessorref09.Put: function 117 -/
def B117_j1 (Rt : Value → World → Prop) (a1 : Option Addr) (n2 : Nat) (c3 : Nat) (b5 : Bool) (w6 : World) : Prop :=
  ifB b5 (Rt (.tuple #[(.slice none 0 0), (.int .i64 1)]) w6) (∃ (a7 : Option Addr) (n8 : Nat) (c9 : Nat), ∃ w10 : World, Sem.run Cz.P (Instr.buildSlice 22 2 #[(0, (.int .u8 (IntKind.u8.wrap (IntKind.i64.wrap ((n2 : Int).tdiv 256))))), (1, (.int .u8 (IntKind.u8.wrap ((n2 : Int).tmod 256))))]) w6 = .ok (.slice a7 n8 c9) w10 ∧ ∃ (a11 : Option Addr) (n12 : Nat) (c13 : Nat), ∃ w14 : World, Sem.run Cz.P (Builtin.append_ #[22, 22] 22 #[(.slice a7 n8 c9), (.slice a1 n2 c3)]) w10 = .ok (.slice a11 n12 c13) w14 ∧ ∃ (a15 : Option Addr) (n16 : Nat) (c17 : Nat), ∃ w18 : World, Sem.run Cz.P (Instr.buildSlice 22 1 #[(0, (.int .u8 90))]) w14 = .ok (.slice a15 n16 c17) w18 ∧ ∃ (a19 : Option Addr) (n20 : Nat) (c21 : Nat), ∃ w22 : World, Sem.run Cz.P (Builtin.append_ #[22, 22] 22 #[(.slice a11 n12 c13), (.slice a15 n16 c17)]) w18 = .ok (.slice a19 n20 c21) w22 ∧ Rt (.tuple #[(.slice a19 n20 c21), (.int .i64 0)]) w22)
def B117 (a1 : Option Addr) (n2 : Nat) (c3 : Nat) (w4 : World) (Rt : Value → World → Prop) (E : List PanicEntry → World → Prop) : Prop :=
  ifB (decide ((n2 : Int) < 1)) (B117_j1 Rt a1 n2 c3 true w4) (B117_j1 Rt a1 n2 c3 (decide ((n2 : Int) > 1000)) w4)
def A117 : Ann := fun _ => []
theorem B117_eq (a1 : Option Addr) (n2 : Nat) (c3 : Nat) (w4 : World) (Rt : Value → World → Prop) (E : List PanicEntry → World → Prop) : vFn Cz A117 Tryz.f117.results.toList (bodyOf Tryz.f117) (startFr Tryz.f117.ntmps [(.slice a1 n2 c3)]) w4 (CP Rt E) = B117 a1 n2 c3 w4 Rt E := by kernel_rfl
theorem C117 {a1 : Option Addr} {n2 : Nat} {c3 : Nat} {w4 : World} {Rt : Value → World → Prop} {E : List PanicEntry → World → Prop} (h : B117 a1 n2 c3 w4 Rt E) : Calls Cz.P 117 #[(.slice a1 n2 c3)] w4 (CP Rt E) := calls_of_B (C := Cz) Cz.ok Tryz.func117 (by kernel_rfl) (B117_eq a1 n2 c3 w4 Rt E) h


end Go.Lf
end

section
set_option linter.unusedVariables false
set_option maxRecDepth 100000
set_option maxHeartbeats 4000000
namespace Go.Lf
open Go Go.Proofs
/-! ### slices.Collect[lessor/api.Lease]: function 118 -/
def B118 (v1 : Value) (w2 : World) (Rt : Value → World → Prop) (E : List PanicEntry → World → Prop) : Prop :=
  Calls Cz.P 130 #[(.slice none 0 0), v1] w2 (CP (fun r7 w6 => ∃ (a3 : Option Addr) (n4 : Nat) (c5 : Nat), r7 = (.slice a3 n4 c5) ∧ Rt (.slice a3 n4 c5) w6) E)
def A118 : Ann := fun _ => []
theorem B118_eq (v1 : Value) (w2 : World) (Rt : Value → World → Prop) (E : List PanicEntry → World → Prop) : vFn Cz A118 Tryz.f118.results.toList (bodyOf Tryz.f118) (startFr Tryz.f118.ntmps [v1]) w2 (CP Rt E) = B118 v1 w2 Rt E := by kernel_rfl
theorem C118 {v1 : Value} {w2 : World} {Rt : Value → World → Prop} {E : List PanicEntry → World → Prop} (h : B118 v1 w2 Rt E) : Calls Cz.P 118 #[v1] w2 (CP Rt E) := calls_of_B (C := Cz) Cz.ok Tryz.func118 (by kernel_rfl) (B118_eq v1 w2 Rt E) h


end Go.Lf
end

section
set_option linter.unusedVariables false
set_option maxRecDepth 100000
set_option maxHeartbeats 4000000
namespace Go.Lf
open Go Go.Proofs
/-! ### cmp.isNaN[int]: function 120 -/
def B120 (x1 : Int) (w2 : World) (Rt : Value → World → Prop) (E : List PanicEntry → World → Prop) : Prop :=
  Rt (.bool (x1 != x1)) w2
def A120 : Ann := fun _ => []
theorem B120_eq (x1 : Int) (w2 : World) (Rt : Value → World → Prop) (E : List PanicEntry → World → Prop) : vFn Cz A120 Tryz.f120.results.toList (bodyOf Tryz.f120) (startFr Tryz.f120.ntmps [(.int .i64 x1)]) w2 (CP Rt E) = B120 x1 w2 Rt E := by kernel_rfl
theorem C120 {x1 : Int} {w2 : World} {Rt : Value → World → Prop} {E : List PanicEntry → World → Prop} (h : B120 x1 w2 Rt E) : Calls Cz.P 120 #[(.int .i64 x1)] w2 (CP Rt E) := calls_of_B (C := Cz) Cz.ok Tryz.func120 (by kernel_rfl) (B120_eq x1 w2 Rt E) h


end Go.Lf
end

section
set_option linter.unusedVariables false
set_option maxRecDepth 100000
set_option maxHeartbeats 4000000
namespace Go.Lf
open Go Go.Proofs
/-! ### cmp.isNaN[lessor/api.Addr]: function 121 -/
def B121 (x1 : Int) (w2 : World) (Rt : Value → World → Prop) (E : List PanicEntry → World → Prop) : Prop :=
  Rt (.bool (x1 != x1)) w2
def A121 : Ann := fun _ => []
theorem B121_eq (x1 : Int) (w2 : World) (Rt : Value → World → Prop) (E : List PanicEntry → World → Prop) : vFn Cz A121 Tryz.f121.results.toList (bodyOf Tryz.f121) (startFr Tryz.f121.ntmps [(.int .u32 x1)]) w2 (CP Rt E) = B121 x1 w2 Rt E := by kernel_rfl
theorem C121 {x1 : Int} {w2 : World} {Rt : Value → World → Prop} {E : List PanicEntry → World → Prop} (h : B121 x1 w2 Rt E) : Calls Cz.P 121 #[(.int .u32 x1)] w2 (CP Rt E) := calls_of_B (C := Cz) Cz.ok Tryz.func121 (by kernel_rfl) (B121_eq x1 w2 Rt E) h


end Go.Lf
end

section
set_option linter.unusedVariables false
set_option maxRecDepth 100000
set_option maxHeartbeats 4000000
namespace Go.Lf
open Go Go.Proofs
/-! ### slices.IndexFunc[[]lessor/api.Range,lessor/api.Range]: function 122 -/
def B122_l1 (Rt : Value → World → Prop) (E : List PanicEntry → World → Prop) (a1 : Option Addr) (n2 : Nat) (v4 : Value) (J6 : List Value → World → Prop) (m7 : List Value → World → Nat) (x8 : Int) (w9 : World) : Prop :=
  ifB (decide (x8 < (n2 : Int))) (need (decide (0 ≤ x8) && decide (x8 < (n2 : Int))) (nn a1 fun q10 => ∃ (x11 : Int) (x12 : Int), (w9.cell? (q10.add ((x8).toNat * 2)) = some (.int .u32 x11) ∧ w9.cell? ((q10.add ((x8).toNat * 2)).add 1) = some (.int .u32 x12) ∧ True) ∧ vCall Cz v4 [(.agg #[(.int .u32 x11), (.int .u32 x12)])] w9 (CP (fun r15 w14 => ∃ (b13 : Bool), r15 = (.bool b13) ∧ ifB b13 (Rt (.int .i64 x8) w14) (J6 [(.int .i64 (IntKind.i64.wrap (x8 + 1)))] w14 ∧ m7 [(.int .i64 (IntKind.i64.wrap (x8 + 1)))] w14 < m7 [(.int .i64 x8)] w9)) E))) (Rt (.int .i64 (-1)) w9)
def B122 (a1 : Option Addr) (n2 : Nat) (c3 : Nat) (v4 : Value) (w5 : World) (Rt : Value → World → Prop) (E : List PanicEntry → World → Prop) : Prop :=
  ∃ (J6 : List Value → World → Prop) (m7 : List Value → World → Nat), J6 [(.int .i64 0)] w5 ∧ ∀ (x8 : Int) (w9 : World), J6 [(.int .i64 x8)] w9 → B122_l1 Rt E a1 n2 v4 J6 m7 x8 w9
def A122 : Ann := fun n => match n with | 0 => [(8, .one (.int .i64))] | _ => []
theorem B122_eq (a1 : Option Addr) (n2 : Nat) (c3 : Nat) (v4 : Value) (w5 : World) (Rt : Value → World → Prop) (E : List PanicEntry → World → Prop) : vFn Cz A122 Tryz.f122.results.toList (bodyOf Tryz.f122) (startFr Tryz.f122.ntmps [(.slice a1 n2 c3), v4]) w5 (CP Rt E) = B122 a1 n2 c3 v4 w5 Rt E := by kernel_rfl
theorem C122 {a1 : Option Addr} {n2 : Nat} {c3 : Nat} {v4 : Value} {w5 : World} {Rt : Value → World → Prop} {E : List PanicEntry → World → Prop} (h : B122 a1 n2 c3 v4 w5 Rt E) : Calls Cz.P 122 #[(.slice a1 n2 c3), v4] w5 (CP Rt E) := calls_of_B (C := Cz) Cz.ok Tryz.func122 (by kernel_rfl) (B122_eq a1 n2 c3 v4 w5 Rt E) h


end Go.Lf
end

section
set_option linter.unusedVariables false
set_option maxRecDepth 100000
set_option maxHeartbeats 4000000
namespace Go.Lf
open Go Go.Proofs
/-! ### slices.Collect[lessor/api.Range]: function 123 -/
def B123 (v1 : Value) (w2 : World) (Rt : Value → World → Prop) (E : List PanicEntry → World → Prop) : Prop :=
  Calls Cz.P 133 #[(.slice none 0 0), v1] w2 (CP (fun r7 w6 => ∃ (a3 : Option Addr) (n4 : Nat) (c5 : Nat), r7 = (.slice a3 n4 c5) ∧ Rt (.slice a3 n4 c5) w6) E)
def A123 : Ann := fun _ => []
theorem B123_eq (v1 : Value) (w2 : World) (Rt : Value → World → Prop) (E : List PanicEntry → World → Prop) : vFn Cz A123 Tryz.f123.results.toList (bodyOf Tryz.f123) (startFr Tryz.f123.ntmps [v1]) w2 (CP Rt E) = B123 v1 w2 Rt E := by kernel_rfl
theorem C123 {v1 : Value} {w2 : World} {Rt : Value → World → Prop} {E : List PanicEntry → World → Prop} (h : B123 v1 w2 Rt E) : Calls Cz.P 123 #[v1] w2 (CP Rt E) := calls_of_B (C := Cz) Cz.ok Tryz.func123 (by kernel_rfl) (B123_eq v1 w2 Rt E) h


end Go.Lf
end

section
set_option linter.unusedVariables false
set_option maxRecDepth 100000
set_option maxHeartbeats 4000000
namespace Go.Lf
open Go Go.Proofs
/-! ### slices.Values[[]lessor/api.Range,lessor/api.Range]$1: function 125 -/
def B125_l1 (Rt : Value → World → Prop) (E : List PanicEntry → World → Prop) (v1 : Value) (a4 : Option Addr) (n5 : Nat) (J7 : List Value → World → Prop) (m8 : List Value → World → Nat) (x9 : Int) (w10 : World) : Prop :=
  ifB (decide (x9 < (n5 : Int))) (need (decide (0 ≤ x9) && decide (x9 < (n5 : Int))) (nn a4 fun q11 => ∃ (x12 : Int) (x13 : Int), (w10.cell? (q11.add ((x9).toNat * 2)) = some (.int .u32 x12) ∧ w10.cell? ((q11.add ((x9).toNat * 2)).add 1) = some (.int .u32 x13) ∧ True) ∧ nw w10 (.cells #[(.int .u32 0), (.int .u32 0)] 96) fun k14 w15 => st w15 ⟨k14, 0, none⟩ (.int .u32 x12) fun w16 => st w16 ⟨k14, 1, none⟩ (.int .u32 x13) fun w17 => ∃ (x18 : Int) (x19 : Int), (w17.cell? ⟨k14, 0, none⟩ = some (.int .u32 x18) ∧ w17.cell? ⟨k14, 1, none⟩ = some (.int .u32 x19) ∧ True) ∧ vCall Cz v1 [(.agg #[(.int .u32 x18), (.int .u32 x19)])] w17 (CP (fun r22 w21 => ∃ (b20 : Bool), r22 = (.bool b20) ∧ ifB (!b20) (Rt (.tuple #[]) w21) (J7 [(.int .i64 (IntKind.i64.wrap (x9 + 1)))] w21 ∧ m8 [(.int .i64 (IntKind.i64.wrap (x9 + 1)))] w21 < m8 [(.int .i64 x9)] w10)) E))) (Rt (.tuple #[]) w10)
def B125 (v1 : Value) (q2 : Addr) (w3 : World) (Rt : Value → World → Prop) (E : List PanicEntry → World → Prop) : Prop :=
  ∃ (a4 : Option Addr) (n5 : Nat) (c6 : Nat), w3.cell? q2 = some (.slice a4 n5 c6) ∧ ∃ (J7 : List Value → World → Prop) (m8 : List Value → World → Nat), J7 [(.int .i64 0)] w3 ∧ ∀ (x9 : Int) (w10 : World), J7 [(.int .i64 x9)] w10 → B125_l1 Rt E v1 a4 n5 J7 m8 x9 w10
def A125 : Ann := fun n => match n with | 0 => [(7, .one (.int .i64))] | _ => []
theorem B125_eq (v1 : Value) (q2 : Addr) (w3 : World) (Rt : Value → World → Prop) (E : List PanicEntry → World → Prop) : vFn Cz A125 Tryz.f125.results.toList (bodyOf Tryz.f125) (startFr Tryz.f125.ntmps [v1, (.pointer (some q2))]) w3 (CP Rt E) = B125 v1 q2 w3 Rt E := by kernel_rfl
theorem C125 {v1 : Value} {q2 : Addr} {w3 : World} {Rt : Value → World → Prop} {E : List PanicEntry → World → Prop} (h : B125 v1 q2 w3 Rt E) : Calls Cz.P 125 #[v1, (.pointer (some q2))] w3 (CP Rt E) := calls_of_B (C := Cz) Cz.ok Tryz.func125 (by kernel_rfl) (B125_eq v1 q2 w3 Rt E) h


end Go.Lf
end

section
set_option linter.unusedVariables false
set_option maxRecDepth 100000
set_option maxHeartbeats 4000000
namespace Go.Lf
open Go Go.Proofs
/-! ### lessor/addr.all$1: function 126 -/
def B126_l2 (Rt : Value → World → Prop) (E : List PanicEntry → World → Prop) (v1 : Value) (J7 : List Value → World → Prop) (m8 : List Value → World → Nat) (x9 : Int) (x10 : Int) (w11 : World) (k15 : Nat) (x21 : Int) (J24 : List Value → World → Prop) (m25 : List Value → World → Nat) (x26 : Int) (x27 : Int) (w28 : World) : Prop :=
  ifB (decide (x27 < x21)) (∃ (x29 : Int), w28.cell? ⟨k15, 0, none⟩ = some (.int .u32 x29) ∧ vCall Cz v1 [(.int .i64 x26), (.int .u32 (IntKind.u32.wrap (x29 + (IntKind.u32.wrap x27))))] w28 (CP (fun r32 w31 => ∃ (b30 : Bool), r32 = (.bool b30) ∧ ifB (!b30) (Rt (.tuple #[]) w31) (J24 [(.int .i64 (IntKind.i64.wrap (x26 + 1))), (.int .i64 (IntKind.i64.wrap (x27 + 1)))] w31 ∧ m25 [(.int .i64 (IntKind.i64.wrap (x26 + 1))), (.int .i64 (IntKind.i64.wrap (x27 + 1)))] w31 < m25 [(.int .i64 x26), (.int .i64 x27)] w28)) E)) (J7 [(.int .i64 x26), (.int .i64 (IntKind.i64.wrap (x10 + 1)))] w28 ∧ m8 [(.int .i64 x26), (.int .i64 (IntKind.i64.wrap (x10 + 1)))] w28 < m8 [(.int .i64 x9), (.int .i64 x10)] w11)
def B126_l1 (Rt : Value → World → Prop) (E : List PanicEntry → World → Prop) (v1 : Value) (a4 : Option Addr) (n5 : Nat) (J7 : List Value → World → Prop) (m8 : List Value → World → Nat) (x9 : Int) (x10 : Int) (w11 : World) : Prop :=
  ifB (decide (x10 < (n5 : Int))) (need (decide (0 ≤ x10) && decide (x10 < (n5 : Int))) (nn a4 fun q12 => ∃ (x13 : Int) (x14 : Int), (w11.cell? (q12.add ((x10).toNat * 2)) = some (.int .u32 x13) ∧ w11.cell? ((q12.add ((x10).toNat * 2)).add 1) = some (.int .u32 x14) ∧ True) ∧ nw w11 (.cells #[(.int .u32 0), (.int .u32 0)] 96) fun k15 w16 => st w16 ⟨k15, 0, none⟩ (.int .u32 x13) fun w17 => st w17 ⟨k15, 1, none⟩ (.int .u32 x14) fun w18 => ∃ (x19 : Int) (x20 : Int), (w18.cell? ⟨k15, 0, none⟩ = some (.int .u32 x19) ∧ w18.cell? ⟨k15, 1, none⟩ = some (.int .u32 x20) ∧ True) ∧ Calls Cz.P 106 #[(.agg #[(.int .u32 x19), (.int .u32 x20)])] w18 (CP (fun r23 w22 => ∃ (x21 : Int), r23 = (.int .i64 x21) ∧ ∃ (J24 : List Value → World → Prop) (m25 : List Value → World → Nat), J24 [(.int .i64 x9), (.int .i64 0)] w22 ∧ ∀ (x26 : Int) (x27 : Int) (w28 : World), J24 [(.int .i64 x26), (.int .i64 x27)] w28 → B126_l2 Rt E v1 J7 m8 x9 x10 w11 k15 x21 J24 m25 x26 x27 w28) E))) (Rt (.tuple #[]) w11)
def B126 (v1 : Value) (q2 : Addr) (w3 : World) (Rt : Value → World → Prop) (E : List PanicEntry → World → Prop) : Prop :=
  ∃ (a4 : Option Addr) (n5 : Nat) (c6 : Nat), w3.cell? q2 = some (.slice a4 n5 c6) ∧ ∃ (J7 : List Value → World → Prop) (m8 : List Value → World → Nat), J7 [(.int .i64 0), (.int .i64 0)] w3 ∧ ∀ (x9 : Int) (x10 : Int) (w11 : World), J7 [(.int .i64 x9), (.int .i64 x10)] w11 → B126_l1 Rt E v1 a4 n5 J7 m8 x9 x10 w11
def A126 : Ann := fun n => match n with | 0 => [(3, .one (.int .i64)), (9, .one (.int .i64))] | 1 => [(3, .one (.int .i64)), (15, .one (.int .i64))] | _ => []
theorem B126_eq (v1 : Value) (q2 : Addr) (w3 : World) (Rt : Value → World → Prop) (E : List PanicEntry → World → Prop) : vFn Cz A126 Tryz.f126.results.toList (bodyOf Tryz.f126) (startFr Tryz.f126.ntmps [v1, (.pointer (some q2))]) w3 (CP Rt E) = B126 v1 q2 w3 Rt E := by kernel_rfl
theorem C126 {v1 : Value} {q2 : Addr} {w3 : World} {Rt : Value → World → Prop} {E : List PanicEntry → World → Prop} (h : B126 v1 q2 w3 Rt E) : Calls Cz.P 126 #[v1, (.pointer (some q2))] w3 (CP Rt E) := calls_of_B (C := Cz) Cz.ok Tryz.func126 (by kernel_rfl) (B126_eq v1 q2 w3 Rt E) h


end Go.Lf
end
