/- Part 14 of the lemmas that a proof leans on; no claim is made here. By an AI agent. -/
import Derived.Test.YtofhodpdfbnkiaaGreatLfD07
section
set_option linter.unusedVariables false
set_option maxRecDepth 100000
set_option maxHeartbeats 4000000
namespace Go.Lf
open Go Go.Proofs
/-! ### lessor/lessorref13.life: function 86 -/
def B86 (x1 : Int) (w2 : World) (Rt : Value → World → Prop) (E : List PanicEntry → World → Prop) : Prop :=
  ∃ (a3 : Option Addr) (n4 : Nat) (c5 : Nat), ∃ w6 : World, Sem.run Cz.P (Instr.buildSlice 22 5 #[(0, (.int .u8 70)), (1, (.int .u8 (IntKind.u8.wrap (IntKind.i64.wrap (x1.tdiv 16777216))))), (2, (.int .u8 (IntKind.u8.wrap (IntKind.i64.wrap (x1.tdiv 65536))))), (3, (.int .u8 (IntKind.u8.wrap (IntKind.i64.wrap (x1.tdiv 256))))), (4, (.int .u8 (IntKind.u8.wrap x1)))]) w2 = .ok (.slice a3 n4 c5) w6 ∧ Rt (.slice a3 n4 c5) w6
def A86 : Ann := fun _ => []
theorem B86_eq (x1 : Int) (w2 : World) (Rt : Value → World → Prop) (E : List PanicEntry → World → Prop) : vFn Cz A86 Tryz.f86.results.toList (bodyOf Tryz.f86) (startFr Tryz.f86.ntmps [(.int .i64 x1)]) w2 (CP Rt E) = B86 x1 w2 Rt E := by kernel_rfl
theorem C86 {x1 : Int} {w2 : World} {Rt : Value → World → Prop} {E : List PanicEntry → World → Prop} (h : B86 x1 w2 Rt E) : Calls Cz.P 86 #[(.int .i64 x1)] w2 (CP Rt E) := calls_of_B (C := Cz) Cz.ok Tryz.func86 (by kernel_rfl) (B86_eq x1 w2 Rt E) h


end Go.Lf
end

section
set_option linter.unusedVariables false
set_option maxRecDepth 100000
set_option maxHeartbeats 4000000
namespace Go.Lf
open Go Go.Proofs
/-! ### (*lessor/lessorref08.Disk).Sync: function 87 -/
def B87 (p1 : Option Addr) (w2 : World) (Rt : Value → World → Prop) (E : List PanicEntry → World → Prop) : Prop :=
  Calls Cz.P 36 #[(.pointer p1)] w2 (CP (fun r5 w4 => ∃ (b3 : Bool), r5 = (.bool b3) ∧ ifB b3 (Rt (.int .i64 7) w4) (nn p1 fun q6 => ∃ (a7 : Option Addr) (n8 : Nat) (c9 : Nat), w4.cell? (q6.add 1) = some (.slice a7 n8 c9) ∧ nn p1 fun q10 => st w4 (q10.add 2) (.int .i64 (n8 : Int)) fun w11 => Rt (.int .i64 0) w11)) E)
def A87 : Ann := fun _ => []
theorem B87_eq (p1 : Option Addr) (w2 : World) (Rt : Value → World → Prop) (E : List PanicEntry → World → Prop) : vFn Cz A87 Tryz.f87.results.toList (bodyOf Tryz.f87) (startFr Tryz.f87.ntmps [(.pointer p1)]) w2 (CP Rt E) = B87 p1 w2 Rt E := by kernel_rfl
theorem C87 {p1 : Option Addr} {w2 : World} {Rt : Value → World → Prop} {E : List PanicEntry → World → Prop} (h : B87 p1 w2 Rt E) : Calls Cz.P 87 #[(.pointer p1)] w2 (CP Rt E) := calls_of_B (C := Cz) Cz.ok Tryz.func87 (by kernel_rfl) (B87_eq p1 w2 Rt E) h


end Go.Lf
end

section
set_option linter.unusedVariables false
set_option maxRecDepth 100000
set_option maxHeartbeats 4000000
namespace Go.Lf
open Go Go.Proofs
/-! ### (*lessor/lessorref10.Log).Compact: function 88 -/
def B88_l1 (Rt : Value → World → Prop) (E : List PanicEntry → World → Prop) (p1 : Option Addr) (a2 : Option Addr) (n3 : Nat) (J6 : List Value → World → Prop) (m7 : List Value → World → Nat) (a8 : Option Addr) (n9 : Nat) (c10 : Nat) (x11 : Int) (w12 : World) : Prop :=
  ifB (decide (x11 < (n3 : Int))) (need (decide (0 ≤ x11) && decide (x11 < (n3 : Int))) (nn a2 fun q13 => ∃ (a14 : Option Addr) (n15 : Nat) (c16 : Nat), w12.cell? (q13.add ((x11).toNat * 1)) = some (.slice a14 n15 c16) ∧ Calls Cz.P 117 #[(.slice a14 n15 c16)] w12 (CP (fun r22 w21 => ∃ (a17 : Option Addr) (n18 : Nat) (c19 : Nat) (x20 : Int), r22 = (.tuple #[(.slice a17 n18 c19), (.int .i64 x20)]) ∧ ifB (x20 != 0) (Rt (.int .i64 1) w21) (∃ (a23 : Option Addr) (n24 : Nat) (c25 : Nat), ∃ w26 : World, Sem.run Cz.P (Builtin.append_ #[22, 22] 22 #[(.slice a8 n9 c10), (.slice a17 n18 c19)]) w21 = .ok (.slice a23 n24 c25) w26 ∧ J6 [(.slice a23 n24 c25), (.int .i64 (IntKind.i64.wrap (x11 + 1)))] w26 ∧ m7 [(.slice a23 n24 c25), (.int .i64 (IntKind.i64.wrap (x11 + 1)))] w26 < m7 [(.slice a8 n9 c10), (.int .i64 x11)] w12)) E))) (nn p1 fun q27 => ∃ (p28 : Option Addr), w12.cell? q27 = some (.pointer p28) ∧ Calls Cz.P 79 #[(.pointer p28), (.slice a8 n9 c10)] w12 (CP (fun r31 w30 => ∃ (x29 : Int), r31 = (.int .i64 x29) ∧ Rt (.int .i64 x29) w30) E))
def B88 (p1 : Option Addr) (a2 : Option Addr) (n3 : Nat) (c4 : Nat) (w5 : World) (Rt : Value → World → Prop) (E : List PanicEntry → World → Prop) : Prop :=
  ∃ (J6 : List Value → World → Prop) (m7 : List Value → World → Nat), J6 [(.slice none 0 0), (.int .i64 0)] w5 ∧ ∀ (a8 : Option Addr) (n9 : Nat) (c10 : Nat) (x11 : Int) (w12 : World), J6 [(.slice a8 n9 c10), (.int .i64 x11)] w12 → B88_l1 Rt E p1 a2 n3 J6 m7 a8 n9 c10 x11 w12
def A88 : Ann := fun n => match n with | 0 => [(5, .one .sl), (6, .one (.int .i64))] | _ => []
theorem B88_eq (p1 : Option Addr) (a2 : Option Addr) (n3 : Nat) (c4 : Nat) (w5 : World) (Rt : Value → World → Prop) (E : List PanicEntry → World → Prop) : vFn Cz A88 Tryz.f88.results.toList (bodyOf Tryz.f88) (startFr Tryz.f88.ntmps [(.pointer p1), (.slice a2 n3 c4)]) w5 (CP Rt E) = B88 p1 a2 n3 c4 w5 Rt E := by kernel_rfl
theorem C88 {p1 : Option Addr} {a2 : Option Addr} {n3 : Nat} {c4 : Nat} {w5 : World} {Rt : Value → World → Prop} {E : List PanicEntry → World → Prop} (h : B88 p1 a2 n3 c4 w5 Rt E) : Calls Cz.P 88 #[(.pointer p1), (.slice a2 n3 c4)] w5 (CP Rt E) := calls_of_B (C := Cz) Cz.ok Tryz.func88 (by kernel_rfl) (B88_eq p1 a2 n3 c4 w5 Rt E) h


end Go.Lf
end

section
set_option linter.unusedVariables false
set_option maxRecDepth 100000
set_option maxHeartbeats 4000000
namespace Go.Lf
open Go Go.Proofs
/-! ### slices.SortedFunc[lessor/api.Lease]: function 89 -/
def B89 (v1 : Value) (v2 : Value) (w3 : World) (Rt : Value → World → Prop) (E : List PanicEntry → World → Prop) : Prop :=
  Calls Cz.P 118 #[v1] w3 (CP (fun r8 w7 => ∃ (a4 : Option Addr) (n5 : Nat) (c6 : Nat), r8 = (.slice a4 n5 c6) ∧ Calls Cz.P 119 #[(.slice a4 n5 c6), v2] w7 (CP (fun r10 w9 => r10 = (.tuple #[]) ∧ Rt (.slice a4 n5 c6) w9) E)) E)
def A89 : Ann := fun _ => []
theorem B89_eq (v1 : Value) (v2 : Value) (w3 : World) (Rt : Value → World → Prop) (E : List PanicEntry → World → Prop) : vFn Cz A89 Tryz.f89.results.toList (bodyOf Tryz.f89) (startFr Tryz.f89.ntmps [v1, v2]) w3 (CP Rt E) = B89 v1 v2 w3 Rt E := by kernel_rfl
theorem C89 {v1 : Value} {v2 : Value} {w3 : World} {Rt : Value → World → Prop} {E : List PanicEntry → World → Prop} (h : B89 v1 v2 w3 Rt E) : Calls Cz.P 89 #[v1, v2] w3 (CP Rt E) := calls_of_B (C := Cz) Cz.ok Tryz.func89 (by kernel_rfl) (B89_eq v1 v2 w3 Rt E) h


end Go.Lf
end

section
set_option linter.unusedVariables false
set_option maxRecDepth 100000
set_option maxHeartbeats 4000000
namespace Go.Lf
open Go Go.Proofs
/-! ### lessor/table.sorted$1: function 90 -/
def B90 (x1 : Int) (x2 : Int) (s3 : ByteArray) (x4 : Int) (x5 : Int) (x6 : Int) (x7 : Int) (x8 : Int) (x9 : Int) (x10 : Int) (s11 : ByteArray) (x12 : Int) (x13 : Int) (x14 : Int) (x15 : Int) (x16 : Int) (q17 : Addr) (w18 : World) (Rt : Value → World → Prop) (E : List PanicEntry → World → Prop) : Prop :=
  nw w18 (.cells #[(.int .u32 x1), (.int .i64 x2), (.string s3), (.int .i64 x4), (.int .i64 x5), (.int .i64 x6), (.int .i64 x7), (.int .i64 x8)] 49) fun k19 w20 => nw w20 (.cells #[(.int .u32 x9), (.int .i64 x10), (.string s11), (.int .i64 x12), (.int .i64 x13), (.int .i64 x14), (.int .i64 x15), (.int .i64 x16)] 49) fun k21 w22 => (fun w23 : World => ∃ (v24 : Value), w23.cell? q17 = some v24 ∧ ∃ (x25 : Int) (x26 : Int) (s27 : ByteArray) (x28 : Int) (x29 : Int) (x30 : Int) (x31 : Int) (x32 : Int), (w23.cell? ⟨k19, 0, none⟩ = some (.int .u32 x25) ∧ w23.cell? ⟨k19, 1, none⟩ = some (.int .i64 x26) ∧ w23.cell? ⟨k19, 2, none⟩ = some (.string s27) ∧ w23.cell? ⟨k19, 3, none⟩ = some (.int .i64 x28) ∧ w23.cell? ⟨k19, 4, none⟩ = some (.int .i64 x29) ∧ w23.cell? ⟨k19, 5, none⟩ = some (.int .i64 x30) ∧ w23.cell? ⟨k19, 6, none⟩ = some (.int .i64 x31) ∧ w23.cell? ⟨k19, 7, none⟩ = some (.int .i64 x32) ∧ True) ∧ ∃ (v33 : Value), w23.cell? q17 = some v33 ∧ ∃ (x34 : Int) (x35 : Int) (s36 : ByteArray) (x37 : Int) (x38 : Int) (x39 : Int) (x40 : Int) (x41 : Int), (w23.cell? ⟨k21, 0, none⟩ = some (.int .u32 x34) ∧ w23.cell? ⟨k21, 1, none⟩ = some (.int .i64 x35) ∧ w23.cell? ⟨k21, 2, none⟩ = some (.string s36) ∧ w23.cell? ⟨k21, 3, none⟩ = some (.int .i64 x37) ∧ w23.cell? ⟨k21, 4, none⟩ = some (.int .i64 x38) ∧ w23.cell? ⟨k21, 5, none⟩ = some (.int .i64 x39) ∧ w23.cell? ⟨k21, 6, none⟩ = some (.int .i64 x40) ∧ w23.cell? ⟨k21, 7, none⟩ = some (.int .i64 x41) ∧ True) ∧ ∃ (x42 : Int), w23.cell? ⟨k19, 0, none⟩ = some (.int .u32 x42) ∧ ∃ (x43 : Int), w23.cell? ⟨k21, 0, none⟩ = some (.int .u32 x43) ∧ (vCall Cz v24 [(.agg #[(.int .u32 x25), (.int .i64 x26), (.string s27), (.int .i64 x28), (.int .i64 x29), (.int .i64 x30), (.int .i64 x31), (.int .i64 x32)])] w23 (CP (fun r46 w45 => ∃ (x44 : Int), r46 = (.int .i64 x44) ∧ ((w45.cell? ⟨k21, 0, none⟩ = w23.cell? ⟨k21, 0, none⟩ ∧ True) ∧ (w45.cell? ⟨k19, 0, none⟩ = w23.cell? ⟨k19, 0, none⟩ ∧ True) ∧ (w45.cell? ⟨k21, 0, none⟩ = w23.cell? ⟨k21, 0, none⟩ ∧ w45.cell? ⟨k21, 1, none⟩ = w23.cell? ⟨k21, 1, none⟩ ∧ w45.cell? ⟨k21, 2, none⟩ = w23.cell? ⟨k21, 2, none⟩ ∧ w45.cell? ⟨k21, 3, none⟩ = w23.cell? ⟨k21, 3, none⟩ ∧ w45.cell? ⟨k21, 4, none⟩ = w23.cell? ⟨k21, 4, none⟩ ∧ w45.cell? ⟨k21, 5, none⟩ = w23.cell? ⟨k21, 5, none⟩ ∧ w45.cell? ⟨k21, 6, none⟩ = w23.cell? ⟨k21, 6, none⟩ ∧ w45.cell? ⟨k21, 7, none⟩ = w23.cell? ⟨k21, 7, none⟩ ∧ True) ∧ (w45.cell? q17 = w23.cell? q17 ∧ True) ∧ True) ∧ (vCall Cz v33 [(.agg #[(.int .u32 x34), (.int .i64 x35), (.string s36), (.int .i64 x37), (.int .i64 x38), (.int .i64 x39), (.int .i64 x40), (.int .i64 x41)])] w45 (CP (fun r49 w48 => ∃ (x47 : Int), r49 = (.int .i64 x47) ∧ ((w48.cell? ⟨k21, 0, none⟩ = w45.cell? ⟨k21, 0, none⟩ ∧ True) ∧ (w48.cell? ⟨k19, 0, none⟩ = w45.cell? ⟨k19, 0, none⟩ ∧ True) ∧ True) ∧ (Calls Cz.P 92 #[(.int .i64 x44), (.int .i64 x47)] w48 (CP (fun r52 w51 => ∃ (x50 : Int), r52 = (.int .i64 x50) ∧ ((w51.cell? ⟨k21, 0, none⟩ = w48.cell? ⟨k21, 0, none⟩ ∧ True) ∧ (w51.cell? ⟨k19, 0, none⟩ = w48.cell? ⟨k19, 0, none⟩ ∧ True) ∧ True) ∧ (Calls Cz.P 93 #[(.int .u32 x42), (.int .u32 x43)] w51 (CP (fun r55 w54 => ∃ (x53 : Int), r55 = (.int .i64 x53) ∧ (∃ (a56 : Option Addr) (n57 : Nat) (c58 : Nat), ∃ w59 : World, Sem.run Cz.P (Instr.buildSlice 157 2 #[(0, (.int .i64 x50)), (1, (.int .i64 x53))]) w54 = .ok (.slice a56 n57 c58) w59 ∧ (Calls Cz.P 91 #[(.slice a56 n57 c58)] w59 (CP (fun r62 w61 => ∃ (x60 : Int), r62 = (.int .i64 x60) ∧ Rt (.int .i64 x60) w61) (fun _ _ => False))))) (fun _ _ => False)))) (fun _ _ => False)))) (fun _ _ => False)))) (fun _ _ => False)))) (w22.drew)
def A90 : Ann := fun _ => []
theorem B90_eq (x1 : Int) (x2 : Int) (s3 : ByteArray) (x4 : Int) (x5 : Int) (x6 : Int) (x7 : Int) (x8 : Int) (x9 : Int) (x10 : Int) (s11 : ByteArray) (x12 : Int) (x13 : Int) (x14 : Int) (x15 : Int) (x16 : Int) (q17 : Addr) (w18 : World) (Rt : Value → World → Prop) (E : List PanicEntry → World → Prop) : vFn Cz A90 Tryz.f90.results.toList (bodyOf Tryz.f90) (startFr Tryz.f90.ntmps [(.agg #[(.int .u32 x1), (.int .i64 x2), (.string s3), (.int .i64 x4), (.int .i64 x5), (.int .i64 x6), (.int .i64 x7), (.int .i64 x8)]), (.agg #[(.int .u32 x9), (.int .i64 x10), (.string s11), (.int .i64 x12), (.int .i64 x13), (.int .i64 x14), (.int .i64 x15), (.int .i64 x16)]), (.pointer (some q17))]) w18 (CP Rt E) = B90 x1 x2 s3 x4 x5 x6 x7 x8 x9 x10 s11 x12 x13 x14 x15 x16 q17 w18 Rt E := by kernel_rfl
theorem C90 {x1 : Int} {x2 : Int} {s3 : ByteArray} {x4 : Int} {x5 : Int} {x6 : Int} {x7 : Int} {x8 : Int} {x9 : Int} {x10 : Int} {s11 : ByteArray} {x12 : Int} {x13 : Int} {x14 : Int} {x15 : Int} {x16 : Int} {q17 : Addr} {w18 : World} {Rt : Value → World → Prop} {E : List PanicEntry → World → Prop} (h : B90 x1 x2 s3 x4 x5 x6 x7 x8 x9 x10 s11 x12 x13 x14 x15 x16 q17 w18 Rt E) : Calls Cz.P 90 #[(.agg #[(.int .u32 x1), (.int .i64 x2), (.string s3), (.int .i64 x4), (.int .i64 x5), (.int .i64 x6), (.int .i64 x7), (.int .i64 x8)]), (.agg #[(.int .u32 x9), (.int .i64 x10), (.string s11), (.int .i64 x12), (.int .i64 x13), (.int .i64 x14), (.int .i64 x15), (.int .i64 x16)]), (.pointer (some q17))] w18 (CP Rt E) := calls_of_B (C := Cz) Cz.ok Tryz.func90 (by kernel_rfl) (B90_eq x1 x2 s3 x4 x5 x6 x7 x8 x9 x10 s11 x12 x13 x14 x15 x16 q17 w18 Rt E) h


end Go.Lf
end

section
set_option linter.unusedVariables false
set_option maxRecDepth 100000
set_option maxHeartbeats 4000000
namespace Go.Lf
open Go Go.Proofs
/-! ### cmp.Or[int]: function 91 -/
def B91_l1 (Rt : Value → World → Prop) (a1 : Option Addr) (n2 : Nat) (J5 : List Value → World → Prop) (m6 : List Value → World → Nat) (x7 : Int) (w8 : World) : Prop :=
  ifB (decide (x7 < (n2 : Int))) (need (decide (0 ≤ x7) && decide (x7 < (n2 : Int))) (nn a1 fun q9 => ∃ (x10 : Int), w8.cell? (q9.add ((x7).toNat * 1)) = some (.int .i64 x10) ∧ ifB (x10 != 0) (Rt (.int .i64 x10) w8) (J5 [(.int .i64 (IntKind.i64.wrap (x7 + 1)))] w8 ∧ m6 [(.int .i64 (IntKind.i64.wrap (x7 + 1)))] w8 < m6 [(.int .i64 x7)] w8))) (Rt (.int .i64 0) w8)
def B91 (a1 : Option Addr) (n2 : Nat) (c3 : Nat) (w4 : World) (Rt : Value → World → Prop) (E : List PanicEntry → World → Prop) : Prop :=
  ∃ (J5 : List Value → World → Prop) (m6 : List Value → World → Nat), J5 [(.int .i64 0)] w4 ∧ ∀ (x7 : Int) (w8 : World), J5 [(.int .i64 x7)] w8 → B91_l1 Rt a1 n2 J5 m6 x7 w8
def A91 : Ann := fun n => match n with | 0 => [(8, .one (.int .i64))] | _ => []
theorem B91_eq (a1 : Option Addr) (n2 : Nat) (c3 : Nat) (w4 : World) (Rt : Value → World → Prop) (E : List PanicEntry → World → Prop) : vFn Cz A91 Tryz.f91.results.toList (bodyOf Tryz.f91) (startFr Tryz.f91.ntmps [(.slice a1 n2 c3)]) w4 (CP Rt E) = B91 a1 n2 c3 w4 Rt E := by kernel_rfl
theorem C91 {a1 : Option Addr} {n2 : Nat} {c3 : Nat} {w4 : World} {Rt : Value → World → Prop} {E : List PanicEntry → World → Prop} (h : B91 a1 n2 c3 w4 Rt E) : Calls Cz.P 91 #[(.slice a1 n2 c3)] w4 (CP Rt E) := calls_of_B (C := Cz) Cz.ok Tryz.func91 (by kernel_rfl) (B91_eq a1 n2 c3 w4 Rt E) h


end Go.Lf
end

section
set_option linter.unusedVariables false
set_option maxRecDepth 100000
set_option maxHeartbeats 4000000
namespace Go.Lf
open Go Go.Proofs
/-! ### cmp.Compare[int]: function 92 -/
def B92 (x1 : Int) (x2 : Int) (w3 : World) (Rt : Value → World → Prop) (E : List PanicEntry → World → Prop) : Prop :=
  Calls Cz.P 120 #[(.int .i64 x1)] w3 (CP (fun r6 w5 => ∃ (b4 : Bool), r6 = (.bool b4) ∧ Calls Cz.P 120 #[(.int .i64 x2)] w5 (CP (fun r9 w8 => ∃ (b7 : Bool), r9 = (.bool b7) ∧ ifB b4 (ifB b7 (Rt (.int .i64 0) w8) (Rt (.int .i64 (-1)) w8)) (ifB b7 (Rt (.int .i64 1) w8) (ifB (decide (x1 < x2)) (Rt (.int .i64 (-1)) w8) (ifB (decide (x1 > x2)) (Rt (.int .i64 1) w8) (Rt (.int .i64 0) w8))))) E)) E)
def A92 : Ann := fun _ => []
theorem B92_eq (x1 : Int) (x2 : Int) (w3 : World) (Rt : Value → World → Prop) (E : List PanicEntry → World → Prop) : vFn Cz A92 Tryz.f92.results.toList (bodyOf Tryz.f92) (startFr Tryz.f92.ntmps [(.int .i64 x1), (.int .i64 x2)]) w3 (CP Rt E) = B92 x1 x2 w3 Rt E := by kernel_rfl
theorem C92 {x1 : Int} {x2 : Int} {w3 : World} {Rt : Value → World → Prop} {E : List PanicEntry → World → Prop} (h : B92 x1 x2 w3 Rt E) : Calls Cz.P 92 #[(.int .i64 x1), (.int .i64 x2)] w3 (CP Rt E) := calls_of_B (C := Cz) Cz.ok Tryz.func92 (by kernel_rfl) (B92_eq x1 x2 w3 Rt E) h


end Go.Lf
end

section
set_option linter.unusedVariables false
set_option maxRecDepth 100000
set_option maxHeartbeats 4000000
namespace Go.Lf
open Go Go.Proofs
/-! ### cmp.Compare[lessor/api.Addr]: function 93 -/
def B93 (x1 : Int) (x2 : Int) (w3 : World) (Rt : Value → World → Prop) (E : List PanicEntry → World → Prop) : Prop :=
  Calls Cz.P 121 #[(.int .u32 x1)] w3 (CP (fun r6 w5 => ∃ (b4 : Bool), r6 = (.bool b4) ∧ Calls Cz.P 121 #[(.int .u32 x2)] w5 (CP (fun r9 w8 => ∃ (b7 : Bool), r9 = (.bool b7) ∧ ifB b4 (ifB b7 (Rt (.int .i64 0) w8) (Rt (.int .i64 (-1)) w8)) (ifB b7 (Rt (.int .i64 1) w8) (ifB (decide (x1 < x2)) (Rt (.int .i64 (-1)) w8) (ifB (decide (x1 > x2)) (Rt (.int .i64 1) w8) (Rt (.int .i64 0) w8))))) E)) E)
def A93 : Ann := fun _ => []
theorem B93_eq (x1 : Int) (x2 : Int) (w3 : World) (Rt : Value → World → Prop) (E : List PanicEntry → World → Prop) : vFn Cz A93 Tryz.f93.results.toList (bodyOf Tryz.f93) (startFr Tryz.f93.ntmps [(.int .u32 x1), (.int .u32 x2)]) w3 (CP Rt E) = B93 x1 x2 w3 Rt E := by kernel_rfl
theorem C93 {x1 : Int} {x2 : Int} {w3 : World} {Rt : Value → World → Prop} {E : List PanicEntry → World → Prop} (h : B93 x1 x2 w3 Rt E) : Calls Cz.P 93 #[(.int .u32 x1), (.int .u32 x2)] w3 (CP Rt E) := calls_of_B (C := Cz) Cz.ok Tryz.func93 (by kernel_rfl) (B93_eq x1 x2 w3 Rt E) h


end Go.Lf
end

section
set_option linter.unusedVariables false
set_option maxRecDepth 100000
set_option maxHeartbeats 4000000
namespace Go.Lf
open Go Go.Proofs
/-! ### (*lessor/table.Table).those$1: function 94 -/
def B94_j1 (Rt : Value → World → Prop) (J10 : List Value → World → Prop) (m11 : List Value → World → Nat) (w12 : World) (b60 : Bool) (w61 : World) : Prop :=
  ifB b60 (Rt (.tuple #[]) w61) (J10 [] w61 ∧ m11 [] w61 < m11 [] w12)
def B94_l1 (Rt : Value → World → Prop) (E : List PanicEntry → World → Prop) (v1 : Value) (q3 : Addr) (p8 : Option Addr) (J10 : List Value → World → Prop) (m11 : List Value → World → Nat) (w12 : World) : Prop :=
  ∃ (v14 : Value) (w13 : World), Sem.run Cz.P (Instr.next (.pointer p8) false 0) w12 = .ok v14 w13 ∧ ((v14 = .tuple #[.bool false] ∧ Rt (.tuple #[]) w13) ∨ (∃ (i15 : Value) (c16 : Value), v14 = .tuple #[.bool true, i15, c16] ∧ ∃ (x17 : Int) (x18 : Int) (x19 : Int) (s20 : ByteArray) (x21 : Int) (x22 : Int) (x23 : Int) (x24 : Int) (x25 : Int), ∃ w26 : World, Sem.run Cz.P (Instr.entry (.pointer p8)) w13 = .ok (.tuple #[(.int .u32 x17), (.agg #[(.int .u32 x18), (.int .i64 x19), (.string s20), (.int .i64 x21), (.int .i64 x22), (.int .i64 x23), (.int .i64 x24), (.int .i64 x25)])]) w26 ∧ nw w26 (.cells #[(.int .u32 0), (.int .i64 0), (.string ⟨#[]⟩), (.int .i64 0), (.int .i64 0), (.int .i64 0), (.int .i64 0), (.int .i64 0)] 49) fun k27 w28 => st w28 ⟨k27, 0, none⟩ (.int .u32 x18) fun w29 => st w29 ⟨k27, 1, none⟩ (.int .i64 x19) fun w30 => st w30 ⟨k27, 2, none⟩ (.string s20) fun w31 => st w31 ⟨k27, 3, none⟩ (.int .i64 x21) fun w32 => st w32 ⟨k27, 4, none⟩ (.int .i64 x22) fun w33 => st w33 ⟨k27, 5, none⟩ (.int .i64 x23) fun w34 => st w34 ⟨k27, 6, none⟩ (.int .i64 x24) fun w35 => st w35 ⟨k27, 7, none⟩ (.int .i64 x25) fun w36 => ∃ (v37 : Value), w36.cell? q3 = some v37 ∧ ∃ (x38 : Int) (x39 : Int) (s40 : ByteArray) (x41 : Int) (x42 : Int) (x43 : Int) (x44 : Int) (x45 : Int), (w36.cell? ⟨k27, 0, none⟩ = some (.int .u32 x38) ∧ w36.cell? ⟨k27, 1, none⟩ = some (.int .i64 x39) ∧ w36.cell? ⟨k27, 2, none⟩ = some (.string s40) ∧ w36.cell? ⟨k27, 3, none⟩ = some (.int .i64 x41) ∧ w36.cell? ⟨k27, 4, none⟩ = some (.int .i64 x42) ∧ w36.cell? ⟨k27, 5, none⟩ = some (.int .i64 x43) ∧ w36.cell? ⟨k27, 6, none⟩ = some (.int .i64 x44) ∧ w36.cell? ⟨k27, 7, none⟩ = some (.int .i64 x45) ∧ True) ∧ vCall Cz v37 [(.agg #[(.int .u32 x38), (.int .i64 x39), (.string s40), (.int .i64 x41), (.int .i64 x42), (.int .i64 x43), (.int .i64 x44), (.int .i64 x45)])] w36 (CP (fun r48 w47 => ∃ (b46 : Bool), r48 = (.bool b46) ∧ ifB b46 (∃ (x49 : Int) (x50 : Int) (s51 : ByteArray) (x52 : Int) (x53 : Int) (x54 : Int) (x55 : Int) (x56 : Int), (w47.cell? ⟨k27, 0, none⟩ = some (.int .u32 x49) ∧ w47.cell? ⟨k27, 1, none⟩ = some (.int .i64 x50) ∧ w47.cell? ⟨k27, 2, none⟩ = some (.string s51) ∧ w47.cell? ⟨k27, 3, none⟩ = some (.int .i64 x52) ∧ w47.cell? ⟨k27, 4, none⟩ = some (.int .i64 x53) ∧ w47.cell? ⟨k27, 5, none⟩ = some (.int .i64 x54) ∧ w47.cell? ⟨k27, 6, none⟩ = some (.int .i64 x55) ∧ w47.cell? ⟨k27, 7, none⟩ = some (.int .i64 x56) ∧ True) ∧ vCall Cz v1 [(.agg #[(.int .u32 x49), (.int .i64 x50), (.string s51), (.int .i64 x52), (.int .i64 x53), (.int .i64 x54), (.int .i64 x55), (.int .i64 x56)])] w47 (CP (fun r59 w58 => ∃ (b57 : Bool), r59 = (.bool b57) ∧ B94_j1 Rt J10 m11 w12 (!b57) w58) E)) (B94_j1 Rt J10 m11 w12 false w47)) E)))
def B94 (v1 : Value) (q2 : Addr) (q3 : Addr) (w4 : World) (Rt : Value → World → Prop) (E : List PanicEntry → World → Prop) : Prop :=
  ∃ (p5 : Option Addr), w4.cell? q2 = some (.pointer p5) ∧ nn p5 fun q6 => ∃ (m7 : Option Nat), w4.cell? q6 = some (.map m7) ∧ ∃ (p8 : Option Addr), ∃ w9 : World, Sem.run Cz.P (Instr.range 108 (.map m7)) w4 = .ok (.pointer p8) w9 ∧ ∃ (J10 : List Value → World → Prop) (m11 : List Value → World → Nat), J10 [] w9 ∧ ∀ (w12 : World), J10 [] w12 → B94_l1 Rt E v1 q3 p8 J10 m11 w12
def A94 : Ann := fun n => match n with | 0 => [] | _ => []
def E94 : Nat → List Sh := fun n => match n with | 10 => [.one (.int .u32), .agg [(.int .u32), (.int .i64), .str, (.int .i64), (.int .i64), (.int .i64), (.int .i64), (.int .i64)]] | _ => []
theorem B94_eq (v1 : Value) (q2 : Addr) (q3 : Addr) (w4 : World) (Rt : Value → World → Prop) (E : List PanicEntry → World → Prop) : vFn (Cz.with E94) A94 Tryz.f94.results.toList (bodyOf Tryz.f94) (startFr Tryz.f94.ntmps [v1, (.pointer (some q2)), (.pointer (some q3))]) w4 (CP Rt E) = B94 v1 q2 q3 w4 Rt E := by kernel_rfl
theorem C94 {v1 : Value} {q2 : Addr} {q3 : Addr} {w4 : World} {Rt : Value → World → Prop} {E : List PanicEntry → World → Prop} (h : B94 v1 q2 q3 w4 Rt E) : Calls Cz.P 94 #[v1, (.pointer (some q2)), (.pointer (some q3))] w4 (CP Rt E) := calls_of_B (C := (Cz.with E94)) Cz.ok Tryz.func94 (by kernel_rfl) (B94_eq v1 q2 q3 w4 Rt E) h


end Go.Lf
end

section
set_option linter.unusedVariables false
set_option maxRecDepth 100000
set_option maxHeartbeats 4000000
namespace Go.Lf
open Go Go.Proofs
/-! ### lessor/lease.Encode: function 95 -/
def B95_l2 (J36 : List Value → World → Prop) (m37 : List Value → World → Nat) (a38 : Option Addr) (n39 : Nat) (c40 : Nat) (x41 : Int) (w42 : World) (p43 : Option Addr) (J44 : List Value → World → Prop) (m45 : List Value → World → Nat) (a46 : Option Addr) (n47 : Nat) (c48 : Nat) (x49 : Int) (w50 : World) : Prop :=
  ifB (decide (x49 < 6)) (nn p43 fun q51 => ∃ (x52 : Int), w50.cell? q51 = some (.int .i64 x52) ∧ need (!decide ((IntKind.i64.wrap (8 * (IntKind.i64.wrap (5 - x49)))) < 0)) (∃ (a53 : Option Addr) (n54 : Nat) (c55 : Nat), ∃ w56 : World, Sem.run Cz.P (Instr.buildSlice 22 1 #[(0, (.int .u8 (IntKind.u8.wrap (Int.fdiv x52 (2 ^ (min ((IntKind.i64.wrap (8 * (IntKind.i64.wrap (5 - x49))))).toNat 64))))))]) w50 = .ok (.slice a53 n54 c55) w56 ∧ ∃ (a57 : Option Addr) (n58 : Nat) (c59 : Nat), ∃ w60 : World, Sem.run Cz.P (Builtin.append_ #[22, 22] 22 #[(.slice a46 n47 c48), (.slice a53 n54 c55)]) w56 = .ok (.slice a57 n58 c59) w60 ∧ J44 [(.slice a57 n58 c59), (.int .i64 (IntKind.i64.wrap (x49 + 1)))] w60 ∧ m45 [(.slice a57 n58 c59), (.int .i64 (IntKind.i64.wrap (x49 + 1)))] w60 < m45 [(.slice a46 n47 c48), (.int .i64 x49)] w50)) (J36 [(.slice a46 n47 c48), (.int .i64 (IntKind.i64.wrap (x41 + 1)))] w50 ∧ m37 [(.slice a46 n47 c48), (.int .i64 (IntKind.i64.wrap (x41 + 1)))] w50 < m37 [(.slice a38 n39 c40), (.int .i64 x41)] w42)
def B95_l1 (Rt : Value → World → Prop) (k10 : Nat) (p29 : Option Addr) (p30 : Option Addr) (p31 : Option Addr) (p32 : Option Addr) (p33 : Option Addr) (J36 : List Value → World → Prop) (m37 : List Value → World → Nat) (a38 : Option Addr) (n39 : Nat) (c40 : Nat) (x41 : Int) (w42 : World) : Prop :=
  ifB (decide (x41 < 5)) (need (decide (0 ≤ x41) && decide (x41 < 5)) (∃ (p43 : Option Addr), #[((.pointer p29) : Value), ((.pointer p30) : Value), ((.pointer p31) : Value), ((.pointer p32) : Value), ((.pointer p33) : Value)][(x41).toNat]? = some (.pointer p43) ∧ ∃ (J44 : List Value → World → Prop) (m45 : List Value → World → Nat), J44 [(.slice a38 n39 c40), (.int .i64 0)] w42 ∧ ∀ (a46 : Option Addr) (n47 : Nat) (c48 : Nat) (x49 : Int) (w50 : World), J44 [(.slice a46 n47 c48), (.int .i64 x49)] w50 → B95_l2 J36 m37 a38 n39 c40 x41 w42 p43 J44 m45 a46 n47 c48 x49 w50)) ((fun w61 : World => ∃ (s62 : ByteArray), w61.cell? ⟨k10, 2, none⟩ = some (.string s62) ∧ ∃ (s63 : ByteArray), w61.cell? ⟨k10, 2, none⟩ = some (.string s63) ∧ (∃ (a64 : Option Addr) (n65 : Nat) (c66 : Nat), ∃ w67 : World, Sem.run Cz.P (Instr.buildSlice 22 1 #[(0, (.int .u8 (IntKind.u8.wrap (s62.size : Int))))]) w61 = .ok (.slice a64 n65 c66) w67 ∧ ((w67.cell? ⟨k10, 2, none⟩ = w61.cell? ⟨k10, 2, none⟩ ∧ True) ∧ True) ∧ (∃ (a68 : Option Addr) (n69 : Nat) (c70 : Nat), ∃ w71 : World, Sem.run Cz.P (Builtin.append_ #[22, 22] 22 #[(.slice a38 n39 c40), (.slice a64 n65 c66)]) w67 = .ok (.slice a68 n69 c70) w71 ∧ ((w71.cell? ⟨k10, 2, none⟩ = w67.cell? ⟨k10, 2, none⟩ ∧ True) ∧ True) ∧ (∃ (a72 : Option Addr) (n73 : Nat) (c74 : Nat), ∃ w75 : World, Sem.run Cz.P (Builtin.append_ #[22, 9] 22 #[(.slice a68 n69 c70), (.string s63)]) w71 = .ok (.slice a72 n73 c74) w75 ∧ Rt (.tuple #[(.slice a72 n73 c74), (.int .i64 0)]) w75)))) (w42.drew))
def B95 (x1 : Int) (x2 : Int) (s3 : ByteArray) (x4 : Int) (x5 : Int) (x6 : Int) (x7 : Int) (x8 : Int) (w9 : World) (Rt : Value → World → Prop) (E : List PanicEntry → World → Prop) : Prop :=
  nw w9 (.cells #[(.int .u32 x1), (.int .i64 x2), (.string s3), (.int .i64 x4), (.int .i64 x5), (.int .i64 x6), (.int .i64 x7), (.int .i64 x8)] 49) fun k10 w11 => ∃ (x12 : Int) (x13 : Int) (s14 : ByteArray) (x15 : Int) (x16 : Int) (x17 : Int) (x18 : Int) (x19 : Int), (w11.cell? ⟨k10, 0, none⟩ = some (.int .u32 x12) ∧ w11.cell? ⟨k10, 1, none⟩ = some (.int .i64 x13) ∧ w11.cell? ⟨k10, 2, none⟩ = some (.string s14) ∧ w11.cell? ⟨k10, 3, none⟩ = some (.int .i64 x15) ∧ w11.cell? ⟨k10, 4, none⟩ = some (.int .i64 x16) ∧ w11.cell? ⟨k10, 5, none⟩ = some (.int .i64 x17) ∧ w11.cell? ⟨k10, 6, none⟩ = some (.int .i64 x18) ∧ w11.cell? ⟨k10, 7, none⟩ = some (.int .i64 x19) ∧ True) ∧ Calls Cz.P 64 #[(.agg #[(.int .u32 x12), (.int .i64 x13), (.string s14), (.int .i64 x15), (.int .i64 x16), (.int .i64 x17), (.int .i64 x18), (.int .i64 x19)])] w11 (CP (fun r22 w21 => ∃ (b20 : Bool), r22 = (.bool b20) ∧ ifB (!b20) (Rt (.tuple #[(.slice none 0 0), (.int .i64 1)]) w21) (∃ (x23 : Int), w21.cell? ⟨k10, 0, none⟩ = some (.int .u32 x23) ∧ ∃ (x24 : Int), w21.cell? ⟨k10, 1, none⟩ = some (.int .i64 x24) ∧ ∃ (a25 : Option Addr) (n26 : Nat) (c27 : Nat), ∃ w28 : World, Sem.run Cz.P (Instr.buildSlice 22 5 #[(0, (.int .u8 (IntKind.u8.wrap (Int.fdiv x23 (2 ^ 24))))), (1, (.int .u8 (IntKind.u8.wrap (Int.fdiv x23 (2 ^ 16))))), (2, (.int .u8 (IntKind.u8.wrap (Int.fdiv x23 (2 ^ 8))))), (3, (.int .u8 (IntKind.u8.wrap x23))), (4, (.int .u8 (IntKind.u8.wrap x24)))]) w21 = .ok (.slice a25 n26 c27) w28 ∧ Calls Cz.P 97 #[(.pointer (some ⟨k10, 0, none⟩))] w28 (CP (fun r35 w34 => ∃ (p29 : Option Addr) (p30 : Option Addr) (p31 : Option Addr) (p32 : Option Addr) (p33 : Option Addr), r35 = (.agg #[(.pointer p29), (.pointer p30), (.pointer p31), (.pointer p32), (.pointer p33)]) ∧ ∃ (J36 : List Value → World → Prop) (m37 : List Value → World → Nat), J36 [(.slice a25 n26 c27), (.int .i64 0)] w34 ∧ ∀ (a38 : Option Addr) (n39 : Nat) (c40 : Nat) (x41 : Int) (w42 : World), J36 [(.slice a38 n39 c40), (.int .i64 x41)] w42 → B95_l1 Rt k10 p29 p30 p31 p32 p33 J36 m37 a38 n39 c40 x41 w42) E))) E)
def A95 : Ann := fun n => match n with | 0 => [(5, .one .sl), (30, .one (.int .i64))] | 1 => [(5, .one .sl), (33, .one (.int .i64))] | _ => []
theorem B95_eq (x1 : Int) (x2 : Int) (s3 : ByteArray) (x4 : Int) (x5 : Int) (x6 : Int) (x7 : Int) (x8 : Int) (w9 : World) (Rt : Value → World → Prop) (E : List PanicEntry → World → Prop) : vFn Cz A95 Tryz.f95.results.toList (bodyOf Tryz.f95) (startFr Tryz.f95.ntmps [(.agg #[(.int .u32 x1), (.int .i64 x2), (.string s3), (.int .i64 x4), (.int .i64 x5), (.int .i64 x6), (.int .i64 x7), (.int .i64 x8)])]) w9 (CP Rt E) = B95 x1 x2 s3 x4 x5 x6 x7 x8 w9 Rt E := by kernel_rfl
theorem C95 {x1 : Int} {x2 : Int} {s3 : ByteArray} {x4 : Int} {x5 : Int} {x6 : Int} {x7 : Int} {x8 : Int} {w9 : World} {Rt : Value → World → Prop} {E : List PanicEntry → World → Prop} (h : B95 x1 x2 s3 x4 x5 x6 x7 x8 w9 Rt E) : Calls Cz.P 95 #[(.agg #[(.int .u32 x1), (.int .i64 x2), (.string s3), (.int .i64 x4), (.int .i64 x5), (.int .i64 x6), (.int .i64 x7), (.int .i64 x8)])] w9 (CP Rt E) := calls_of_B (C := Cz) Cz.ok Tryz.func95 (by kernel_rfl) (B95_eq x1 x2 s3 x4 x5 x6 x7 x8 w9 Rt E) h


end Go.Lf
end

section
set_option linter.unusedVariables false
set_option maxRecDepth 100000
set_option maxHeartbeats 4000000
namespace Go.Lf
open Go Go.Proofs
/-! ### lessor/frame.Put: function 96 -/
def B96_j1 (Rt : Value → World → Prop) (a1 : Option Addr) (n2 : Nat) (c3 : Nat) (b5 : Bool) (w6 : World) : Prop :=
  ifB b5 (Rt (.tuple #[(.slice none 0 0), (.int .i64 1)]) w6) (∃ (a7 : Option Addr) (n8 : Nat) (c9 : Nat), ∃ w10 : World, Sem.run Cz.P (Instr.buildSlice 22 2 #[(0, (.int .u8 (IntKind.u8.wrap (Int.fdiv (n2 : Int) (2 ^ 8))))), (1, (.int .u8 (IntKind.u8.wrap (n2 : Int))))]) w6 = .ok (.slice a7 n8 c9) w10 ∧ ∃ (a11 : Option Addr) (n12 : Nat) (c13 : Nat), ∃ w14 : World, Sem.run Cz.P (Builtin.append_ #[22, 22] 22 #[(.slice a7 n8 c9), (.slice a1 n2 c3)]) w10 = .ok (.slice a11 n12 c13) w14 ∧ ∃ (a15 : Option Addr) (n16 : Nat) (c17 : Nat), ∃ w18 : World, Sem.run Cz.P (Instr.buildSlice 22 1 #[(0, (.int .u8 90))]) w14 = .ok (.slice a15 n16 c17) w18 ∧ ∃ (a19 : Option Addr) (n20 : Nat) (c21 : Nat), ∃ w22 : World, Sem.run Cz.P (Builtin.append_ #[22, 22] 22 #[(.slice a11 n12 c13), (.slice a15 n16 c17)]) w18 = .ok (.slice a19 n20 c21) w22 ∧ Rt (.tuple #[(.slice a19 n20 c21), (.int .i64 0)]) w22)
def B96 (a1 : Option Addr) (n2 : Nat) (c3 : Nat) (w4 : World) (Rt : Value → World → Prop) (E : List PanicEntry → World → Prop) : Prop :=
  ifB (decide ((n2 : Int) < 1)) (B96_j1 Rt a1 n2 c3 true w4) (B96_j1 Rt a1 n2 c3 (decide ((n2 : Int) > 1000)) w4)
def A96 : Ann := fun _ => []
theorem B96_eq (a1 : Option Addr) (n2 : Nat) (c3 : Nat) (w4 : World) (Rt : Value → World → Prop) (E : List PanicEntry → World → Prop) : vFn Cz A96 Tryz.f96.results.toList (bodyOf Tryz.f96) (startFr Tryz.f96.ntmps [(.slice a1 n2 c3)]) w4 (CP Rt E) = B96 a1 n2 c3 w4 Rt E := by kernel_rfl
theorem C96 {a1 : Option Addr} {n2 : Nat} {c3 : Nat} {w4 : World} {Rt : Value → World → Prop} {E : List PanicEntry → World → Prop} (h : B96 a1 n2 c3 w4 Rt E) : Calls Cz.P 96 #[(.slice a1 n2 c3)] w4 (CP Rt E) := calls_of_B (C := Cz) Cz.ok Tryz.func96 (by kernel_rfl) (B96_eq a1 n2 c3 w4 Rt E) h


end Go.Lf
end

section
set_option linter.unusedVariables false
set_option maxRecDepth 100000
set_option maxHeartbeats 4000000
namespace Go.Lf
open Go Go.Proofs
/-! ### lessor/lease.times: function 97 -/
def B97 (p1 : Option Addr) (w2 : World) (Rt : Value → World → Prop) (E : List PanicEntry → World → Prop) : Prop :=
  nw w2 (.cells #[(.pointer none), (.pointer none), (.pointer none), (.pointer none), (.pointer none)] 133) fun k3 w4 => (fun w5 : World => nn p1 fun q6 => nn p1 fun q7 => nn p1 fun q8 => nn p1 fun q9 => nn p1 fun q10 => (st w5 ⟨k3, 0, none⟩ (.pointer (some (q6.add 3))) fun w11 => st w11 ⟨k3, 1, none⟩ (.pointer (some (q7.add 4))) fun w12 => st w12 ⟨k3, 2, none⟩ (.pointer (some (q8.add 5))) fun w13 => st w13 ⟨k3, 3, none⟩ (.pointer (some (q9.add 6))) fun w14 => st w14 ⟨k3, 4, none⟩ (.pointer (some (q10.add 7))) fun w15 => ∃ (p16 : Option Addr) (p17 : Option Addr) (p18 : Option Addr) (p19 : Option Addr) (p20 : Option Addr), (w15.cell? ⟨k3, 0, none⟩ = some (.pointer p16) ∧ w15.cell? ⟨k3, 1, none⟩ = some (.pointer p17) ∧ w15.cell? ⟨k3, 2, none⟩ = some (.pointer p18) ∧ w15.cell? ⟨k3, 3, none⟩ = some (.pointer p19) ∧ w15.cell? ⟨k3, 4, none⟩ = some (.pointer p20) ∧ True) ∧ Rt (.agg #[(.pointer p16), (.pointer p17), (.pointer p18), (.pointer p19), (.pointer p20)]) w15)) (w4.drew)
def A97 : Ann := fun _ => []
theorem B97_eq (p1 : Option Addr) (w2 : World) (Rt : Value → World → Prop) (E : List PanicEntry → World → Prop) : vFn Cz A97 Tryz.f97.results.toList (bodyOf Tryz.f97) (startFr Tryz.f97.ntmps [(.pointer p1)]) w2 (CP Rt E) = B97 p1 w2 Rt E := by kernel_rfl
theorem C97 {p1 : Option Addr} {w2 : World} {Rt : Value → World → Prop} {E : List PanicEntry → World → Prop} (h : B97 p1 w2 Rt E) : Calls Cz.P 97 #[(.pointer p1)] w2 (CP Rt E) := calls_of_B (C := Cz) Cz.ok Tryz.func97 (by kernel_rfl) (B97_eq p1 w2 Rt E) h


end Go.Lf
end

section
set_option linter.unusedVariables false
set_option maxRecDepth 100000
set_option maxHeartbeats 4000000
namespace Go.Lf
open Go Go.Proofs
/-! ### lessor/lease.held: function 98 -/
def B98_j1 (Rt : Value → World → Prop) (b3 : Bool) (w4 : World) : Prop :=
  Rt (.bool b3) w4
def B98 (x1 : Int) (w2 : World) (Rt : Value → World → Prop) (E : List PanicEntry → World → Prop) : Prop :=
  ifB (decide (x1 ≥ 2)) (B98_j1 Rt (decide (x1 ≤ 4)) w2) (B98_j1 Rt false w2)
def A98 : Ann := fun _ => []
theorem B98_eq (x1 : Int) (w2 : World) (Rt : Value → World → Prop) (E : List PanicEntry → World → Prop) : vFn Cz A98 Tryz.f98.results.toList (bodyOf Tryz.f98) (startFr Tryz.f98.ntmps [(.int .i64 x1)]) w2 (CP Rt E) = B98 x1 w2 Rt E := by kernel_rfl
theorem C98 {x1 : Int} {w2 : World} {Rt : Value → World → Prop} {E : List PanicEntry → World → Prop} (h : B98 x1 w2 Rt E) : Calls Cz.P 98 #[(.int .i64 x1)] w2 (CP Rt E) := calls_of_B (C := Cz) Cz.ok Tryz.func98 (by kernel_rfl) (B98_eq x1 w2 Rt E) h


end Go.Lf
end

section
set_option linter.unusedVariables false
set_option maxRecDepth 100000
set_option maxHeartbeats 4000000
namespace Go.Lf
open Go Go.Proofs
/-! ### (*lessor/wal.Log).Append: function 99 -/
def B99 (p1 : Option Addr) (a2 : Option Addr) (n3 : Nat) (c4 : Nat) (w5 : World) (Rt : Value → World → Prop) (E : List PanicEntry → World → Prop) : Prop :=
  Calls Cz.P 96 #[(.slice a2 n3 c4)] w5 (CP (fun r11 w10 => ∃ (a6 : Option Addr) (n7 : Nat) (c8 : Nat) (x9 : Int), r11 = (.tuple #[(.slice a6 n7 c8), (.int .i64 x9)]) ∧ ifB (x9 != 0) (Rt (.int .i64 x9) w10) (nn p1 fun q12 => ∃ (p13 : Option Addr), w10.cell? q12 = some (.pointer p13) ∧ Calls Cz.P 11 #[(.pointer p13), (.slice a6 n7 c8)] w10 (CP (fun r16 w15 => ∃ (x14 : Int), r16 = (.int .i64 x14) ∧ Rt (.int .i64 x14) w15) E))) E)
def A99 : Ann := fun _ => []
theorem B99_eq (p1 : Option Addr) (a2 : Option Addr) (n3 : Nat) (c4 : Nat) (w5 : World) (Rt : Value → World → Prop) (E : List PanicEntry → World → Prop) : vFn Cz A99 Tryz.f99.results.toList (bodyOf Tryz.f99) (startFr Tryz.f99.ntmps [(.pointer p1), (.slice a2 n3 c4)]) w5 (CP Rt E) = B99 p1 a2 n3 c4 w5 Rt E := by kernel_rfl
theorem C99 {p1 : Option Addr} {a2 : Option Addr} {n3 : Nat} {c4 : Nat} {w5 : World} {Rt : Value → World → Prop} {E : List PanicEntry → World → Prop} (h : B99 p1 a2 n3 c4 w5 Rt E) : Calls Cz.P 99 #[(.pointer p1), (.slice a2 n3 c4)] w5 (CP Rt E) := calls_of_B (C := Cz) Cz.ok Tryz.func99 (by kernel_rfl) (B99_eq p1 a2 n3 c4 w5 Rt E) h


end Go.Lf
end

section
set_option linter.unusedVariables false
set_option maxRecDepth 100000
set_option maxHeartbeats 4000000
namespace Go.Lf
open Go Go.Proofs
/-! ### (*lessor/disk.Disk).Sync$1: function 100 -/
def B100 (q1 : Addr) (w2 : World) (Rt : Value → World → Prop) (E : List PanicEntry → World → Prop) : Prop :=
  (fun w3 : World => ∃ (p4 : Option Addr), w3.cell? q1 = some (.pointer p4) ∧ ∃ (p5 : Option Addr), w3.cell? q1 = some (.pointer p5) ∧ nn p5 fun q6 => ∃ (a7 : Option Addr) (n8 : Nat) (c9 : Nat), w3.cell? (q6.add 1) = some (.slice a7 n8 c9) ∧ nn p4 fun q10 => (st w3 (q10.add 2) (.int .i64 (n8 : Int)) fun w11 => Rt (.tuple #[]) w11)) (w2.drew)
def A100 : Ann := fun _ => []
theorem B100_eq (q1 : Addr) (w2 : World) (Rt : Value → World → Prop) (E : List PanicEntry → World → Prop) : vFn Cz A100 Tryz.f100.results.toList (bodyOf Tryz.f100) (startFr Tryz.f100.ntmps [(.pointer (some q1))]) w2 (CP Rt E) = B100 q1 w2 Rt E := by kernel_rfl
theorem C100 {q1 : Addr} {w2 : World} {Rt : Value → World → Prop} {E : List PanicEntry → World → Prop} (h : B100 q1 w2 Rt E) : Calls Cz.P 100 #[(.pointer (some q1))] w2 (CP Rt E) := calls_of_B (C := Cz) Cz.ok Tryz.func100 (by kernel_rfl) (B100_eq q1 w2 Rt E) h


end Go.Lf
end

section
set_option linter.unusedVariables false
set_option maxRecDepth 100000
set_option maxHeartbeats 4000000
namespace Go.Lf
open Go Go.Proofs
/-! ### lessor/addr.Pool$1: function 101 -/
def B101 (x1 : Int) (x2 : Int) (w3 : World) (Rt : Value → World → Prop) (E : List PanicEntry → World → Prop) : Prop :=
  nw w3 (.cells #[(.int .u32 x1), (.int .u32 x2)] 96) fun k4 w5 => ∃ (x6 : Int), w5.cell? ⟨k4, 1, none⟩ = some (.int .u32 x6) ∧ ∃ (x7 : Int), w5.cell? ⟨k4, 0, none⟩ = some (.int .u32 x7) ∧ Rt (.bool (decide (x6 < x7))) w5
def A101 : Ann := fun _ => []
theorem B101_eq (x1 : Int) (x2 : Int) (w3 : World) (Rt : Value → World → Prop) (E : List PanicEntry → World → Prop) : vFn Cz A101 Tryz.f101.results.toList (bodyOf Tryz.f101) (startFr Tryz.f101.ntmps [(.agg #[(.int .u32 x1), (.int .u32 x2)])]) w3 (CP Rt E) = B101 x1 x2 w3 Rt E := by kernel_rfl
theorem C101 {x1 : Int} {x2 : Int} {w3 : World} {Rt : Value → World → Prop} {E : List PanicEntry → World → Prop} (h : B101 x1 x2 w3 Rt E) : Calls Cz.P 101 #[(.agg #[(.int .u32 x1), (.int .u32 x2)])] w3 (CP Rt E) := calls_of_B (C := Cz) Cz.ok Tryz.func101 (by kernel_rfl) (B101_eq x1 x2 w3 Rt E) h


end Go.Lf
end

section
set_option linter.unusedVariables false
set_option maxRecDepth 100000
set_option maxHeartbeats 4000000
namespace Go.Lf
open Go Go.Proofs
/-! ### slices.ContainsFunc[[]lessor/api.Range,lessor/api.Range]: function 102 -/
def B102 (a1 : Option Addr) (n2 : Nat) (c3 : Nat) (v4 : Value) (w5 : World) (Rt : Value → World → Prop) (E : List PanicEntry → World → Prop) : Prop :=
  Calls Cz.P 122 #[(.slice a1 n2 c3), v4] w5 (CP (fun r8 w7 => ∃ (x6 : Int), r8 = (.int .i64 x6) ∧ Rt (.bool (decide (x6 ≥ 0))) w7) E)
def A102 : Ann := fun _ => []
theorem B102_eq (a1 : Option Addr) (n2 : Nat) (c3 : Nat) (v4 : Value) (w5 : World) (Rt : Value → World → Prop) (E : List PanicEntry → World → Prop) : vFn Cz A102 Tryz.f102.results.toList (bodyOf Tryz.f102) (startFr Tryz.f102.ntmps [(.slice a1 n2 c3), v4]) w5 (CP Rt E) = B102 a1 n2 c3 v4 w5 Rt E := by kernel_rfl
theorem C102 {a1 : Option Addr} {n2 : Nat} {c3 : Nat} {v4 : Value} {w5 : World} {Rt : Value → World → Prop} {E : List PanicEntry → World → Prop} (h : B102 a1 n2 c3 v4 w5 Rt E) : Calls Cz.P 102 #[(.slice a1 n2 c3), v4] w5 (CP Rt E) := calls_of_B (C := Cz) Cz.ok Tryz.func102 (by kernel_rfl) (B102_eq a1 n2 c3 v4 w5 Rt E) h


end Go.Lf
end

section
set_option linter.unusedVariables false
set_option maxRecDepth 100000
set_option maxHeartbeats 4000000
namespace Go.Lf
open Go Go.Proofs
/-! ### slices.SortedFunc[lessor/api.Range]: function 103 -/
def B103 (v1 : Value) (v2 : Value) (w3 : World) (Rt : Value → World → Prop) (E : List PanicEntry → World → Prop) : Prop :=
  Calls Cz.P 123 #[v1] w3 (CP (fun r8 w7 => ∃ (a4 : Option Addr) (n5 : Nat) (c6 : Nat), r8 = (.slice a4 n5 c6) ∧ Calls Cz.P 124 #[(.slice a4 n5 c6), v2] w7 (CP (fun r10 w9 => r10 = (.tuple #[]) ∧ Rt (.slice a4 n5 c6) w9) E)) E)
def A103 : Ann := fun _ => []
theorem B103_eq (v1 : Value) (v2 : Value) (w3 : World) (Rt : Value → World → Prop) (E : List PanicEntry → World → Prop) : vFn Cz A103 Tryz.f103.results.toList (bodyOf Tryz.f103) (startFr Tryz.f103.ntmps [v1, v2]) w3 (CP Rt E) = B103 v1 v2 w3 Rt E := by kernel_rfl
theorem C103 {v1 : Value} {v2 : Value} {w3 : World} {Rt : Value → World → Prop} {E : List PanicEntry → World → Prop} (h : B103 v1 v2 w3 Rt E) : Calls Cz.P 103 #[v1, v2] w3 (CP Rt E) := calls_of_B (C := Cz) Cz.ok Tryz.func103 (by kernel_rfl) (B103_eq v1 v2 w3 Rt E) h


end Go.Lf
end

section
set_option linter.unusedVariables false
set_option maxRecDepth 100000
set_option maxHeartbeats 4000000
namespace Go.Lf
open Go Go.Proofs
/-! ### slices.Values[[]lessor/api.Range,lessor/api.Range]: function 104 -/
def B104 (a1 : Option Addr) (n2 : Nat) (c3 : Nat) (w4 : World) (Rt : Value → World → Prop) (E : List PanicEntry → World → Prop) : Prop :=
  nw w4 (.cells #[(.slice a1 n2 c3)] 23) fun k5 w6 => Rt (.func (.func 125) #[] #[(.pointer (some ⟨k5, 0, none⟩))]) w6
def A104 : Ann := fun _ => []
theorem B104_eq (a1 : Option Addr) (n2 : Nat) (c3 : Nat) (w4 : World) (Rt : Value → World → Prop) (E : List PanicEntry → World → Prop) : vFn Cz A104 Tryz.f104.results.toList (bodyOf Tryz.f104) (startFr Tryz.f104.ntmps [(.slice a1 n2 c3)]) w4 (CP Rt E) = B104 a1 n2 c3 w4 Rt E := by kernel_rfl
theorem C104 {a1 : Option Addr} {n2 : Nat} {c3 : Nat} {w4 : World} {Rt : Value → World → Prop} {E : List PanicEntry → World → Prop} (h : B104 a1 n2 c3 w4 Rt E) : Calls Cz.P 104 #[(.slice a1 n2 c3)] w4 (CP Rt E) := calls_of_B (C := Cz) Cz.ok Tryz.func104 (by kernel_rfl) (B104_eq a1 n2 c3 w4 Rt E) h


end Go.Lf
end

section
set_option linter.unusedVariables false
set_option maxRecDepth 100000
set_option maxHeartbeats 4000000
namespace Go.Lf
open Go Go.Proofs
/-! ### lessor/addr.Pool$2: function 105 -/
def B105 (x1 : Int) (x2 : Int) (x3 : Int) (x4 : Int) (w5 : World) (Rt : Value → World → Prop) (E : List PanicEntry → World → Prop) : Prop :=
  nw w5 (.cells #[(.int .u32 x1), (.int .u32 x2)] 96) fun k6 w7 => nw w7 (.cells #[(.int .u32 x3), (.int .u32 x4)] 96) fun k8 w9 => ∃ (x10 : Int), w9.cell? ⟨k6, 0, none⟩ = some (.int .u32 x10) ∧ ∃ (x11 : Int), w9.cell? ⟨k8, 0, none⟩ = some (.int .u32 x11) ∧ Calls Cz.P 93 #[(.int .u32 x10), (.int .u32 x11)] w9 (CP (fun r14 w13 => ∃ (x12 : Int), r14 = (.int .i64 x12) ∧ Rt (.int .i64 x12) w13) E)
def A105 : Ann := fun _ => []
theorem B105_eq (x1 : Int) (x2 : Int) (x3 : Int) (x4 : Int) (w5 : World) (Rt : Value → World → Prop) (E : List PanicEntry → World → Prop) : vFn Cz A105 Tryz.f105.results.toList (bodyOf Tryz.f105) (startFr Tryz.f105.ntmps [(.agg #[(.int .u32 x1), (.int .u32 x2)]), (.agg #[(.int .u32 x3), (.int .u32 x4)])]) w5 (CP Rt E) = B105 x1 x2 x3 x4 w5 Rt E := by kernel_rfl
theorem C105 {x1 : Int} {x2 : Int} {x3 : Int} {x4 : Int} {w5 : World} {Rt : Value → World → Prop} {E : List PanicEntry → World → Prop} (h : B105 x1 x2 x3 x4 w5 Rt E) : Calls Cz.P 105 #[(.agg #[(.int .u32 x1), (.int .u32 x2)]), (.agg #[(.int .u32 x3), (.int .u32 x4)])] w5 (CP Rt E) := calls_of_B (C := Cz) Cz.ok Tryz.func105 (by kernel_rfl) (B105_eq x1 x2 x3 x4 w5 Rt E) h


end Go.Lf
end

section
set_option linter.unusedVariables false
set_option maxRecDepth 100000
set_option maxHeartbeats 4000000
namespace Go.Lf
open Go Go.Proofs
/-! ### lessor/addr.size: function 106 -/
def B106 (x1 : Int) (x2 : Int) (w3 : World) (Rt : Value → World → Prop) (E : List PanicEntry → World → Prop) : Prop :=
  nw w3 (.cells #[(.int .u32 x1), (.int .u32 x2)] 96) fun k4 w5 => ∃ (x6 : Int), w5.cell? ⟨k4, 1, none⟩ = some (.int .u32 x6) ∧ ∃ (x7 : Int), w5.cell? ⟨k4, 0, none⟩ = some (.int .u32 x7) ∧ Rt (.int .i64 (IntKind.i64.wrap ((IntKind.i64.wrap ((IntKind.i64.wrap x6) - (IntKind.i64.wrap x7))) + 1))) w5
def A106 : Ann := fun _ => []
theorem B106_eq (x1 : Int) (x2 : Int) (w3 : World) (Rt : Value → World → Prop) (E : List PanicEntry → World → Prop) : vFn Cz A106 Tryz.f106.results.toList (bodyOf Tryz.f106) (startFr Tryz.f106.ntmps [(.agg #[(.int .u32 x1), (.int .u32 x2)])]) w3 (CP Rt E) = B106 x1 x2 w3 Rt E := by kernel_rfl
theorem C106 {x1 : Int} {x2 : Int} {w3 : World} {Rt : Value → World → Prop} {E : List PanicEntry → World → Prop} (h : B106 x1 x2 w3 Rt E) : Calls Cz.P 106 #[(.agg #[(.int .u32 x1), (.int .u32 x2)])] w3 (CP Rt E) := calls_of_B (C := Cz) Cz.ok Tryz.func106 (by kernel_rfl) (B106_eq x1 x2 w3 Rt E) h


end Go.Lf
end
